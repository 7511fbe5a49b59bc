/-
  Lemmas, part 8 of 8: walks through the program's functions, and plain Lean about what they compute.
-/
import Derived.Test.YtbaccmkhjmmlnaaDoorZ1
import Derived.Test.YtbaccmkhjmmlnaaDoorZ2
import Derived.Test.YtbaccmkhjmmlnaaDoorZ3
import Derived.Test.YtbaccmkhjmmlnaaDoorZ4
import Derived.Test.YtbaccmkhjmmlnaaDoorZ5
import Derived.Test.YtbaccmkhjmmlnaaDoorZ6
import Derived.Test.YtbaccmkhjmmlnaaDoorZ7
set_option linter.unnecessarySimpa false
set_option linter.unusedSimpArgs false
set_option linter.unusedVariables false
namespace Go.Proofs.YtbaccmkhjmmlnaaDoor
section
open Go.RowKit
set_option maxRecDepth 100000
noncomputable def gU (a0 : List Int) (s1 : (Int × (List UInt8))) : Option ((Int × (List UInt8)) ⊕ List UInt8) :=
 bif (decide (s1.1 < (a0.length : Int))) then (
  ob (idx a0 s1.1) fun x6 =>
  ob (app s1.2 [(w8 x6)]) fun x7 =>
  ob (arI .i64 (s1.1 + 1)) fun x8 =>
  some (.inl (x8, x7))
 ) else (
  some (.inr s1.2)
 )
noncomputable def gt (a0 : List Int) : Option (List UInt8) :=
 ob ((
  bx (gU a0) (0, ([] : List UInt8))
  : Option (List UInt8))) fun v9 =>
 some v9
set_option maxHeartbeats 4000000 in
theorem lE {a0 : List Int} {r : List UInt8} (h : gt a0 = some r) : ak Tryd.prog HG 35 [.l a0] (.list 1 (r.map aI) false) := by
 unfold gt at h
 refine ak.of Tryd.func35 rfl Tryd.ntmps35 (by simp) ?_
 intro F hF h0 hT
 show Sm F _ _ ⟨[(0, .l a0)], [], 0⟩
 refine sr hF ?_
 refine gv hF oA ?_
 refine sn ?_
 refine sr hF ?_
 refine gv hF oA ?_
 refine sn ?_
 refine Sm.seq ?_
 obtain ⟨v9, hv9, h⟩ := aa h
 refine ba ⟨[(3, .d (.list 1 (v9.map aI) false))], [], 1⟩ ?_ ?_
 ·refine Sm.seq ?_
  refine ab hF rfl ?_
  refine gv hF oM ?_
  refine gv hF oA ?_
  refine sn ?_
  refine Sm.ret ?_
  obtain rfl := ac h
  exact bE rfl rfl
 replace h := hv9
 refine sr hF ?_
 refine gv hF oM ?_
 refine gv hF (oN (bf u30)) ?_
 refine gv hF oM ?_
 refine sn ?_
 refine Sm.block ?_
 refine Sm.to (kA (e := [(3, .z), (6, .l a0), (7, .i (a0.length : Int)), (8, .i 0)]) (g := []) (m := 0)) ?_
 refine Sm.own (t := 3) 1 rfl ?_
 refine bi (gU a0) (fun s1 => ⟨[(3, .sref 0 0 (s1.2.map aI).length), (6, .l a0), (7, .i (a0.length : Int)), (8, .i s1.1)], [(0, dB 1 (s1.2.map aI))], 1⟩) (0, ([] : List UInt8)) h (kA) ?_
 intro n2 s1 o3 h hd4
 unfold gU at h
 refine sr hF ?_
 refine gv hF (oB (bq)) ?_
 refine sn ?_
 refine Sm.seq ?_
 refine aA hF rfl (fun hc5 => ?_) (fun hc5 => ?_)
 ·replace h := ifF hc5 h
  refine Sm.exit ?_
  replace h := aE h hd4
  obtain rfl := ac h
  exact (aL (kA (e := [(3, .sref 0 0 (s1.2.map aI).length)]) (g := [(0, dB 1 (s1.2.map aI))]) (m := 1)) (fA (l := 0) (sz := 1) (s1.2.map aI)))
 replace h := ifT hc5 h
 refine sk ?_
 refine Sm.seq ?_
 refine Sm.block ?_
 refine sr hF ?_
 obtain ⟨x6, hx6, h⟩ := aa h
 refine gv hF (oI (aU u30 sz3 hx6)) ?_
 refine gv hF (oL (lP1 ag3 rfl)) ?_
 refine gv hF oA ?_
 refine sn ?_
 refine ab hF rfl ?_
 refine gv hF oM ?_
 refine gv hF oM ?_
 refine gv hF (oC (jy u3 u5)) ?_
 refine gv hF (x := .d (.list 1 ([(w8 x6)].map aI) true)) (oS (ax u24 sz5 ze5 rfl rfl (PartsQ.cons rfl (PartsQ.nil _)) rfl)) ?_
 obtain ⟨x7, hx7, h⟩ := aa h
 refine aY hF oh rfl (ys := [(w8 x6)]) (row := aI) rfl rfl rfl rfl rfl rfl rfl rfl (.inl rfl) hx7 (by (repeat' first | exact bz _ | refine bn ?_ | refine ap ?_ (aQ _ _ _) | refine ap ?_ (aQ _ _ [_]) | refine ap ?_ (bJ (by rfl)))) ?_
 refine gv hF oA ?_
 refine SmG.nil ?_
 refine am ?_
 refine ae ?_
 refine ab hF rfl ?_
 obtain ⟨x8, hx8, h⟩ := aa h
 refine gv hF (oB (aW hx8)) ?_
 refine gv hF oM ?_
 refine SmG.nil ?_
 exact bm (be h hd4) (kA)
noncomputable def jO (x1 : List Int) (s2 : (Int × (List UInt8))) : Option ((Int × (List UInt8)) ⊕ List UInt8) :=
 bif (decide (s2.1 < (x1.length : Int))) then (
  ob (idx x1 s2.1) fun x7 =>
  ob (app s2.2 [(w8 x7)]) fun x8 =>
  ob (arI .i64 (s2.1 + 1)) fun x9 =>
  some (.inl (x9, x8))
 ) else (
  some (.inr s2.2)
 )
noncomputable def kx (a0 : Ps) : Option (List UInt8) :=
 ob ((
  ob (dH ([a0.at_, a0.h0, a0.h1, [a0.rights, a0.side]])) fun x1 =>
  bx (jO x1) (0, ([] : List UInt8))
  : Option (List UInt8))) fun v10 =>
 some v10
set_option maxHeartbeats 4000000 in
theorem tK {a0 : Ps} {r : List UInt8} (h : kx a0 = some r) : ak Tryd.prog HG 37 [.agg 5 (Ps.row a0)] (.v (.string ⟨(r : List UInt8).toArray⟩)) := by
 unfold kx at h
 refine ak.of Tryd.func37 rfl Tryd.ntmps37 (by simp) ?_
 intro F hF h0 hT
 show Sm F _ _ ⟨[(0, .d (.agg 5 (Ps.row a0)))], [], 0⟩
 refine sr hF ?_
 refine bZ hF gk ?_
 refine gv hF oA ?_
 refine sn ?_
 refine sr hF ?_
 refine gv hF oA ?_
 refine sn ?_
 refine Sm.seq ?_
 obtain ⟨v10, hv10, h⟩ := aa h
 refine ba ⟨[(3, .d (.list 1 (v10.map aI) false))], [], 2⟩ ?_ ?_
 ·refine Sm.seq ?_
  refine ab hF rfl ?_
  refine gv hF oM ?_
  refine gv hF (oC (dZ u24 u9 u5)) ?_
  refine gv hF oA ?_
  refine sn ?_
  refine Sm.ret ?_
  obtain rfl := ac h
  exact bE rfl rfl
 replace h := hv10
 refine sr hF ?_
 refine gv hF (oF (aj kQ rfl)) ?_
 refine gv hF (oL (lP1 eC rfl)) ?_
 refine gv hF (oF (aj eV rfl)) ?_
 refine gv hF (oI (cB u31 eJ rfl rfl)) ?_
 refine gv hF (oL (lP1 eC rfl)) ?_
 refine gv hF (oF (aj eV rfl)) ?_
 refine gv hF (oI (cB u31 eJ rfl rfl)) ?_
 refine gv hF (oL (lP1 eC rfl)) ?_
 refine gv hF (oF (aj ow rfl)) ?_
 refine gv hF (oL (lP1 ag3 rfl)) ?_
 refine gv hF (oF (aj oD rfl)) ?_
 refine gv hF (oL (lP1 ag3 rfl)) ?_
 refine gv hF (x := .d (.list 1 ([a0.rights, a0.side].map (af .i64)) true)) (oS (ax u30 sz3 ze3 rfl rfl (PartsQ.cons rfl (PartsQ.cons rfl (PartsQ.nil _))) rfl)) ?_
 refine dD (wA (e := [(3, .z), (7, .l a0.at_), (10, .l a0.h0), (13, .l a0.h1), (18, .d (.list 1 ([a0.rights, a0.side].map (af .i64)) false))]) (g := []) (m := 0)) rfl ?_
 refine gv hF (x := .d (.list 1 ([a0.at_, a0.h0, a0.h1, [a0.rights, a0.side]].map (az 1 (af .i64))) true)) (oS (ax u71 eJ vr rfl rfl (PartsQ.cons rfl (PartsQ.cons rfl (PartsQ.cons rfl (PartsQ.cons rfl (PartsQ.nil _))))) rfl)) ?_
 obtain ⟨x1, hx1, h⟩ := aa h
 refine SmG.callO hF rfl rfl (by kernel_rfl) rfl rfl rfl (eW.args (kW hx1) (fun C => (bV (by repeat' first | exact D.le.refl _ | exact a8 _ _ _ | exact aV _ _ _ | refine bb ?_ | exact LeRows.nil | refine LeRows.cons ?_ ?_ | exact LeL.nil | refine LeL.cons ?_ ?_ | refine bc ?_ | refine bd ?_) (fun _ h => h)))) ?_
 refine gv hF (oN (Cp u30)) ?_
 refine gv hF oM ?_
 refine sn ?_
 refine Sm.block ?_
 refine Sm.to (kA (e := [(3, .z), (20, .sref 0 0 (x1.map (af .i64)).length), (21, .i (x1.length : Int)), (22, .i 0)]) (g := [(0, dB 1 (x1.map (af .i64)))]) (m := 1)) ?_
 refine Sm.own (t := 3) 1 rfl ?_
 refine bi (jO x1) (fun s2 => ⟨[(3, .sref 1 0 (s2.2.map aI).length), (20, .sref 0 0 (x1.map (af .i64)).length), (21, .i (x1.length : Int)), (22, .i s2.1)], [(1, dB 1 (s2.2.map aI)), (0, dB 1 (x1.map (af .i64)))], 2⟩) (0, ([] : List UInt8)) h (kA) ?_
 intro n3 s2 o4 h hd5
 unfold jO at h
 refine sr hF ?_
 refine gv hF (oB (bq)) ?_
 refine sn ?_
 refine Sm.seq ?_
 refine aA hF rfl (fun hc6 => ?_) (fun hc6 => ?_)
 ·replace h := ifF hc6 h
  refine Sm.exit ?_
  replace h := aE h hd5
  obtain rfl := ac h
  exact (aL (kA (e := [(3, .sref 1 0 (s2.2.map aI).length)]) (g := [(1, dB 1 (s2.2.map aI))]) (m := 2)) (fA (l := 1) (sz := 1) (s2.2.map aI)))
 replace h := ifT hc6 h
 refine sk ?_
 refine Sm.seq ?_
 refine Sm.block ?_
 refine sr hF ?_
 obtain ⟨x7, hx7, h⟩ := aa h
 refine gv hF (oI (o0 u30 sz3 rfl hx7)) ?_
 refine gv hF (oL (Ad rfl hx7 ag3 rfl)) ?_
 refine gv hF oA ?_
 refine sn ?_
 refine ab hF rfl ?_
 refine gv hF oM ?_
 refine gv hF oM ?_
 refine gv hF (oC (jy u3 u5)) ?_
 refine gv hF (x := .d (.list 1 ([(w8 x7)].map aI) true)) (oS (ax u24 sz5 ze5 rfl rfl (PartsQ.cons rfl (PartsQ.nil _)) rfl)) ?_
 obtain ⟨x8, hx8, h⟩ := aa h
 refine aY hF oh rfl (ys := [(w8 x7)]) (row := aI) rfl rfl rfl rfl rfl rfl rfl rfl (.inl rfl) hx8 (by (repeat' first | exact bz _ | refine bn ?_ | refine ap ?_ (aQ _ _ _) | refine ap ?_ (aQ _ _ [_]) | refine ap ?_ (bJ (by rfl)))) ?_
 refine gv hF oA ?_
 refine SmG.nil ?_
 refine am ?_
 refine ae ?_
 refine ab hF rfl ?_
 obtain ⟨x9, hx9, h⟩ := aa h
 refine gv hF (oB (aW hx9)) ?_
 refine gv hF oM ?_
 refine SmG.nil ?_
 exact bm (be h hd5) (kA)
noncomputable def fZ (a0 : Ps) (a1 : Rs) : Option (List UInt8) :=
 ob (gt [(a0.at_.length : Int), (a0.h0.length : Int), (a0.h1.length : Int)]) fun x1 =>
 ob (kx a0) fun x2 =>
 ob (pZ x2) fun x3 =>
 ob (kj .i64 a1.n 24) fun x4 =>
 ob (kj .i64 a1.n 16) fun x5 =>
 ob (kj .i64 a1.n 8) fun x6 =>
 ob (gt [a1.out, x4, x5, x6, a1.n]) fun x7 =>
 ob (c8 [x1, x3, x7]) fun x8 =>
 some x8
set_option maxHeartbeats 4000000 in
theorem jT {a0 : Ps} {a1 : Rs} {r : List UInt8} (h : fZ a0 a1 = some r) : ak Tryd.prog HG 13 [.agg 5 (Ps.row a0), .agg 2 (Rs.row a1)] (.list 1 (r.map aI) false) := by
 unfold fZ at h
 refine ak.of Tryd.func13 rfl Tryd.ntmps13 (by simp) ?_
 intro F hF h0 hT
 show Sm F _ _ ⟨[(0, .d (.agg 5 (Ps.row a0))), (1, .d (.agg 2 (Rs.row a1)))], [], 0⟩
 refine sr hF ?_
 refine bZ hF gk ?_
 refine bZ hF gk ?_
 refine gv hF oA ?_
 refine sn ?_
 refine sr hF ?_
 refine gv hF (oF (aj kQ rfl)) ?_
 refine gv hF (oL (lP1 eC rfl)) ?_
 refine gv hF (oN (bf u30)) ?_
 refine gv hF (oF (aj eV rfl)) ?_
 refine gv hF (oI (cB u31 eJ rfl rfl)) ?_
 refine gv hF (oL (lP1 eC rfl)) ?_
 refine gv hF (oN (bf u30)) ?_
 refine gv hF (oF (aj eV rfl)) ?_
 refine gv hF (oI (cB u31 eJ rfl rfl)) ?_
 refine gv hF (oL (lP1 eC rfl)) ?_
 refine gv hF (oN (bf u30)) ?_
 refine gv hF (x := .d (.list 1 ([(a0.at_.length : Int), (a0.h0.length : Int), (a0.h1.length : Int)].map (af .i64)) true)) (oS (ax u30 sz3 ze3 rfl rfl (PartsQ.cons rfl (PartsQ.cons rfl (PartsQ.cons rfl (PartsQ.nil _)))) rfl)) ?_
 obtain ⟨x1, hx1, h⟩ := aa h
 refine SmG.call hF rfl rfl (by kernel_rfl) rfl rfl rfl (ak.args (lE hx1) (fun C => (bV (by repeat' first | exact D.le.refl _ | exact a8 _ _ _ | exact aV _ _ _ | refine bb ?_ | exact LeRows.nil | refine LeRows.cons ?_ ?_ | exact LeL.nil | refine LeL.cons ?_ ?_ | refine bc ?_ | refine bd ?_) (fun _ h => h)))) ?_
 refine gv hF oA ?_
 refine sn ?_
 refine Sm.seq ?_
 refine aX hF (by kernel_rfl) rfl 19 (by kernel_rfl) (by kernel_rfl) ?_
 simp only [List.take_succ_cons, List.take_zero, List.take_nil]
 refine hv hF oM ?_
 refine hv hF (x := .d (.agg 5 (Ps.row a0))) (oL (b7 gB cW rfl rfl)) ?_
 obtain ⟨x2, hx2, h⟩ := aa h
 refine ag.c hF rfl rfl (by kernel_rfl) rfl rfl rfl (tK hx2) ?_
 obtain ⟨x3, hx3, h⟩ := aa h
 refine ag.ofString hF rfl rfl rfl rfl rfl Tryd.underlying9 Tryd.underlying24 Tryd.underlying5 hx3 ?_
 refine hv hF (oF (aj se rfl)) ?_
 refine hv hF (oL (lP1 ag3 rfl)) ?_
 refine hv hF (oF (aj mE rfl)) ?_
 refine hv hF (oL (lP1 ag3 rfl)) ?_
 obtain ⟨x4, hx4, h⟩ := aa h
 refine hv hF (oB (lF hx4)) ?_
 refine hv hF (oF (aj mE rfl)) ?_
 refine hv hF (oL (lP1 ag3 rfl)) ?_
 obtain ⟨x5, hx5, h⟩ := aa h
 refine hv hF (oB (lF hx5)) ?_
 refine hv hF (oF (aj mE rfl)) ?_
 refine hv hF (oL (lP1 ag3 rfl)) ?_
 obtain ⟨x6, hx6, h⟩ := aa h
 refine hv hF (oB (lF hx6)) ?_
 refine hv hF (oF (aj mE rfl)) ?_
 refine hv hF (oL (lP1 ag3 rfl)) ?_
 refine hv hF (x := .d (.list 1 ([a1.out, x4, x5, x6, a1.n].map (af .i64)) true)) (oS (ax u30 sz3 ze3 rfl rfl (PartsQ.cons rfl (PartsQ.cons rfl (PartsQ.cons rfl (PartsQ.cons rfl (PartsQ.cons rfl (PartsQ.nil _)))))) rfl)) ?_
 obtain ⟨x7, hx7, h⟩ := aa h
 refine ag.c hF rfl rfl (by kernel_rfl) rfl rfl rfl (ak.args (lE hx7) (fun C => (bV (by repeat' first | exact D.le.refl _ | exact a8 _ _ _ | exact aV _ _ _ | refine bb ?_ | exact LeRows.nil | refine LeRows.cons ?_ ?_ | exact LeL.nil | refine LeL.cons ?_ ?_ | refine bc ?_ | refine bd ?_) (fun _ h => h)))) ?_
 refine ag.last ⟨rfl, ?_⟩
 simp only [List.drop_succ_cons, List.drop_zero, List.drop_nil, List.nil_append, List.cons_append]
 refine gv hF (x := .d (.list 1 ([x1, x3, x7].map aT) true)) (oS (ax u61 cO pJ rfl rfl (PartsQ.cons rfl (PartsQ.cons rfl (PartsQ.cons rfl (PartsQ.nil _)))) rfl)) ?_
 obtain ⟨x8, hx8, h⟩ := aa h
 refine SmG.callO hF rfl rfl (by kernel_rfl) rfl rfl rfl (eW.args (jU hx8) (fun C => (bV (by repeat' first | exact D.le.refl _ | exact a8 _ _ _ | exact aV _ _ _ | refine bb ?_ | exact LeRows.nil | refine LeRows.cons ?_ ?_ | exact LeL.nil | refine LeL.cons ?_ ?_ | refine bc ?_ | refine bd ?_) (fun _ h => h)))) ?_
 refine gv hF oA ?_
 refine sn ?_
 refine Sm.to (aL (kA (e := [(4, .sref 0 0 (x8.map aI).length)]) (g := [(0, dB 1 (x8.map aI))]) (m := 1)) (fA (l := 0) (sz := 1) (e := [(4, .d (.list 1 (x8.map aI) false))]) (g := []) (nx := 1) (x8.map aI))) ?_
 refine Sm.ret ?_
 obtain rfl := ac h
 exact bE rfl rfl
noncomputable def eR (a0 : List Ps) (a1 : List Rs) (s1 : (Int × (List (List UInt8)))) : Option ((Int × (List (List UInt8))) ⊕ List (List UInt8)) :=
 bif (decide (s1.1 < (min (a0.length : Int) (a1.length : Int)))) then (
  ob (idx a0 s1.1) fun x6 =>
  ob (idx a1 s1.1) fun x7 =>
  ob (fZ x6 x7) fun x8 =>
  ob (app s1.2 [x8]) fun x9 =>
  ob (arI .i64 (s1.1 + 1)) fun x10 =>
  some (.inl (x10, x9))
 ) else (
  some (.inr s1.2)
 )
noncomputable def fR (a0 : List Ps) (a1 : List Rs) : Option (List (List UInt8)) :=
 ob ((
  bx (eR a0 a1) (0, ([] : List (List UInt8)))
  : Option (List (List UInt8)))) fun v11 =>
 some v11
set_option maxHeartbeats 4000000 in
theorem ld {a0 : List Ps} {a1 : List Rs} {r : List (List UInt8)} (h : fR a0 a1 = some r) : ak Tryd.prog HG 33 [.list 5 (a0.map Ps.row) false, .list 2 (a1.map Rs.row) false] (.list 1 (r.map aT) false) := by
 unfold fR at h
 refine ak.of Tryd.func33 rfl Tryd.ntmps33 (by simp) ?_
 intro F hF h0 hT
 show Sm F _ _ ⟨[(0, .d (.list 5 (a0.map Ps.row) false)), (1, .d (.list 2 (a1.map Rs.row) false))], [], 0⟩
 refine sr hF ?_
 refine gv hF oA ?_
 refine sn ?_
 refine sr hF ?_
 refine gv hF oA ?_
 refine sn ?_
 refine Sm.seq ?_
 obtain ⟨v11, hv11, h⟩ := aa h
 refine ba ⟨[(5, .d (.list 1 (v11.map aT) false))], [], 1⟩ ?_ ?_
 ·refine Sm.seq ?_
  refine ab hF rfl ?_
  refine gv hF oM ?_
  refine gv hF oA ?_
  refine sn ?_
  refine Sm.ret ?_
  obtain rfl := ac h
  exact bE rfl rfl
 replace h := hv11
 refine sr hF ?_
 refine gv hF oM ?_
 refine gv hF (oN (bf u40)) ?_
 refine gv hF oM ?_
 refine gv hF (oN (bf u41)) ?_
 refine gv hF (uK rfl rfl rfl w7) ?_
 refine gv hF oM ?_
 refine sn ?_
 refine Sm.block ?_
 refine Sm.to (kA (e := [(0, .d (.list 5 (a0.map Ps.row) false)), (1, .d (.list 2 (a1.map Rs.row) false)), (5, .z), (11, .i (min (a0.length : Int) (a1.length : Int))), (12, .i 0)]) (g := []) (m := 0)) ?_
 refine Sm.own (t := 5) 1 rfl ?_
 refine bi (eR a0 a1) (fun s1 => ⟨[(0, .d (.list 5 (a0.map Ps.row) false)), (1, .d (.list 2 (a1.map Rs.row) false)), (5, .sref 0 0 (s1.2.map aT).length), (11, .i (min (a0.length : Int) (a1.length : Int))), (12, .i s1.1)], [(0, dB 1 (s1.2.map aT))], 1⟩) (0, ([] : List (List UInt8))) h (kA) ?_
 intro n2 s1 o3 h hd4
 unfold eR at h
 refine sr hF ?_
 refine gv hF (oB (bq)) ?_
 refine sn ?_
 refine Sm.seq ?_
 refine aA hF rfl (fun hc5 => ?_) (fun hc5 => ?_)
 ·replace h := ifF hc5 h
  refine Sm.exit ?_
  replace h := aE h hd4
  obtain rfl := ac h
  exact (aL (kA (e := [(5, .sref 0 0 (s1.2.map aT).length)]) (g := [(0, dB 1 (s1.2.map aT))]) (m := 1)) (fA (l := 0) (sz := 1) (s1.2.map aT)))
 replace h := ifT hc5 h
 refine sk ?_
 refine Sm.seq ?_
 refine Sm.block ?_
 refine sr hF ?_
 refine gv hF oM ?_
 refine gv hF oA ?_
 refine sn ?_
 refine aX hF (by kernel_rfl) rfl 11 (by kernel_rfl) (by kernel_rfl) ?_
 simp only [List.take_succ_cons, List.take_zero, List.take_nil]
 refine hv hF oM ?_
 refine hv hF oM ?_
 refine hv hF oM ?_
 obtain ⟨x6, hx6, h⟩ := aa h
 refine hv hF (oI (aU u40 cW hx6)) ?_
 refine hv hF (x := .d (.agg 5 (Ps.row x6))) (oL (b7 gB cW rfl rfl)) ?_
 refine hv hF oM ?_
 refine hv hF oM ?_
 obtain ⟨x7, hx7, h⟩ := aa h
 refine hv hF (oI (aU u41 fF hx7)) ?_
 refine hv hF (x := .d (.agg 2 (Rs.row x7))) (oL (b7 kh fF rfl rfl)) ?_
 obtain ⟨x8, hx8, h⟩ := aa h
 refine ag.c hF rfl rfl (by kernel_rfl) rfl rfl rfl (jT hx8) ?_
 refine hv hF (x := .d (.list 1 ([x8].map aT) true)) (oS (ax u61 cO pJ rfl rfl (PartsQ.cons rfl (PartsQ.nil _)) rfl)) ?_
 refine ag.last ⟨rfl, ?_⟩
 simp only [List.drop_succ_cons, List.drop_zero, List.drop_nil, List.nil_append, List.cons_append]
 obtain ⟨x9, hx9, h⟩ := aa h
 refine aY hF pU rfl (ys := [x8]) (row := aT) rfl rfl rfl rfl rfl rfl rfl rfl (.inl rfl) hx9 (by (repeat' first | exact bz _ | refine bn ?_ | refine ap ?_ (aQ _ _ _) | refine ap ?_ (aQ _ _ [_]) | refine ap ?_ (bJ (by rfl)))) ?_
 refine gv hF oA ?_
 refine SmG.nil ?_
 refine am ?_
 refine ae ?_
 refine ab hF rfl ?_
 obtain ⟨x10, hx10, h⟩ := aa h
 refine gv hF (oB (aW hx10)) ?_
 refine gv hF oM ?_
 refine SmG.nil ?_
 exact bm (be h hd4) (kA)
noncomputable def fg (a0 : List Ps) (a1 : List Rs) : Option (List UInt8) :=
 ob (fR a0 a1) fun x1 =>
 ob (kr x1) fun x2 =>
 ob (vN 32 x2) fun x3 =>
 some x2
set_option maxHeartbeats 4000000 in
theorem jP {a0 : List Ps} {a1 : List Rs} {r : List UInt8} (h : fg a0 a1 = some r) : ak Tryd.prog HG 11 [.list 5 (a0.map Ps.row) false, .list 2 (a1.map Rs.row) false] (.agg 32 (aJ r)) := by
 unfold fg at h
 refine ak.of Tryd.func11 rfl Tryd.ntmps11 (by simp) ?_
 intro F hF h0 hT
 show Sm F _ _ ⟨[(0, .d (.list 5 (a0.map Ps.row) false)), (1, .d (.list 2 (a1.map Rs.row) false))], [], 0⟩
 refine sr hF ?_
 refine SmG.new hF rfl rfl rfl (aO rfl jp) ?_
 refine sn ?_
 refine sr hF ?_
 refine gv hF oM ?_
 refine gv hF oM ?_
 obtain ⟨x1, hx1, h⟩ := aa h
 refine SmG.call hF rfl rfl (by kernel_rfl) rfl rfl rfl (ld hx1) ?_
 obtain ⟨x2, hx2, h⟩ := aa h
 refine SmG.call hF rfl rfl (by kernel_rfl) rfl rfl rfl (rQ hx2) ?_
 obtain ⟨x3, hx3, h⟩ := aa h
 refine SmG.store hF rfl rfl rfl rfl rfl (jw rfl rfl cJ rfl (cG hx3)) ?_
 refine sn ?_
 refine Sm.ret ?_
 obtain rfl := ac h
 exact eg (RetR.cons (RetO.cell rfl (f8 rfl fG cJ)) (RetR.nil)) (D.le.refl _)
noncomputable def cY (a0 : List Ps) (a1 : List Rs) (a2 : Int) (a3 : Int) : Option (Ans × Int) :=
 bif ((a0.length : Int) != (a1.length : Int)) then (
  some ((⟨0, 0, 0, (⟨[], [], [], 0, 0⟩ : Ps), (⟨0, 0⟩ : Rs), []⟩ : Ans), 1)
 ) else (
  ob (fR a0 a1) fun x2 =>
  ob (gy x2 a3) fun x3 =>
  bif (x3.2 != 0) then (
   some ((⟨0, 0, 0, (⟨[], [], [], 0, 0⟩ : Ps), (⟨0, 0⟩ : Rs), []⟩ : Ans), x3.2)
  ) else (
   ob (idx a0 a3) fun x5 =>
   ob (idx a1 a3) fun x6 =>
   some ((⟨a2, a3, (a0.length : Int), x5, x6, x3.1⟩ : Ans), 0)
  )
 )
set_option maxHeartbeats 4000000 in
theorem i8 {a0 : List Ps} {a1 : List Rs} {a2 : Int} {a3 : Int} {r : (Ans × Int)} (h : cY a0 a1 a2 a3 = some r) : ak Tryd.prog HG 15 [.list 5 (a0.map Ps.row) false, .list 2 (a1.map Rs.row) false, .i a2, .i a3] (.tup [.agg 11 (Ans.row r.1), .i r.2]) := by
 unfold cY at h
 refine ak.of Tryd.func15 rfl Tryd.ntmps15 (by simp) ?_
 intro F hF h0 hT
 show Sm F _ _ ⟨[(0, .d (.list 5 (a0.map Ps.row) false)), (1, .d (.list 2 (a1.map Rs.row) false)), (2, .i a2), (3, .i a3)], [], 0⟩
 refine sr hF ?_
 refine SmG.new hF rfl rfl rfl (aO rfl uP) ?_
 refine gv hF oA ?_
 refine sn ?_
 refine Sm.seq ?_
 refine sr hF ?_
 refine gv hF oM ?_
 refine gv hF (oN (bf u40)) ?_
 refine gv hF oM ?_
 refine gv hF (oN (bf u41)) ?_
 refine gv hF (oB (mg)) ?_
 refine sn ?_
 refine bF hF rfl (fun hc1 => ?_) (fun hc1 => ?_)
 ·replace h := ifT hc1 h
  refine sr hF ?_
  refine gv hF (x := .d (.agg 11 [.i 0, .i 0, .i 0, .z, .z, .z, .i 0, .i 0, .i 0, .i 0, .z])) (bh rfl u38 (by kernel_rfl) rfl zJ) ?_
  refine SmG.store hF rfl rfl rfl rfl rfl (bk (ys := [.i 0, .i 0, .i 0, .z, .z, .z, .i 0, .i 0, .i 0, .i 0, .z]) (r := [.i 0, .i 0, .i 0, .z, .z, .z, .i 0, .i 0, .i 0, .i 0, .z]) (rows' := [[.i 0, .i 0, .i 0, .z, .z, .z, .i 0, .i 0, .i 0, .i 0, .z]]) rfl rfl rfl j7 rfl rfl rfl rfl rfl) ?_
  refine gv hF oA ?_
  refine sn ?_
  refine Sm.ret ?_
  obtain rfl := ac h
  exact eg (RetR.cons (RetO.cell rfl (aH (ds := [.i 0, .i 0, .i 0, .z, .z, .z, .i 0, .i 0, .i 0, .i 0, .z]) rfl rfl pz j7 rfl rfl)) (RetR.cons (RetO.tmp rfl) (RetR.nil))) (by repeat' first | exact D.le.refl _ | exact a8 _ _ _ | exact aV _ _ _ | refine bb ?_ | exact LeRows.nil | refine LeRows.cons ?_ ?_ | exact LeL.nil | refine LeL.cons ?_ ?_ | refine bc ?_ | refine bd ?_)
 replace h := ifF hc1 h
 refine sk ?_
 refine sr hF ?_
 refine gv hF oM ?_
 refine gv hF oM ?_
 obtain ⟨x2, hx2, h⟩ := aa h
 refine SmG.call hF rfl rfl (by kernel_rfl) rfl rfl rfl (ld hx2) ?_
 refine gv hF oM ?_
 obtain ⟨x3, hx3, h⟩ := aa h
 refine SmG.call hF rfl rfl (by kernel_rfl) rfl rfl rfl (ri hx3) ?_
 refine gv hF oM ?_
 refine gv hF (b8 rfl rfl rfl) ?_
 refine gv hF (b8 rfl rfl rfl) ?_
 refine gv hF oA ?_
 refine gv hF oA ?_
 refine sn ?_
 refine Sm.seq ?_
 refine sr hF ?_
 refine gv hF oM ?_
 refine gv hF (oB (mg)) ?_
 refine sn ?_
 refine bF hF rfl (fun hc4 => ?_) (fun hc4 => ?_)
 ·replace h := ifT hc4 h
  refine sr hF ?_
  refine gv hF (x := .d (.agg 11 [.i 0, .i 0, .i 0, .z, .z, .z, .i 0, .i 0, .i 0, .i 0, .z])) (bh rfl u38 (by kernel_rfl) rfl zJ) ?_
  refine gv hF oM ?_
  refine SmG.store hF rfl rfl rfl rfl rfl (bk (ys := [.i 0, .i 0, .i 0, .z, .z, .z, .i 0, .i 0, .i 0, .i 0, .z]) (r := [.i 0, .i 0, .i 0, .z, .z, .z, .i 0, .i 0, .i 0, .i 0, .z]) (rows' := [[.i 0, .i 0, .i 0, .z, .z, .z, .i 0, .i 0, .i 0, .i 0, .z]]) rfl rfl rfl j7 rfl rfl rfl rfl rfl) ?_
  refine gv hF oA ?_
  refine sn ?_
  refine Sm.ret ?_
  obtain rfl := ac h
  exact eg (RetR.cons (RetO.cell rfl (aH (ds := [.i 0, .i 0, .i 0, .z, .z, .z, .i 0, .i 0, .i 0, .i 0, .z]) rfl rfl pz j7 rfl rfl)) (RetR.cons (RetO.tmp rfl) (RetR.nil))) (by repeat' first | exact D.le.refl _ | exact a8 _ _ _ | exact aV _ _ _ | refine bb ?_ | exact LeRows.nil | refine LeRows.cons ?_ ?_ | exact LeL.nil | refine LeL.cons ?_ ?_ | refine bc ?_ | refine bd ?_)
 replace h := ifF hc4 h
 refine sk ?_
 refine Sm.seq ?_
 refine aX hF (by kernel_rfl) rfl 13 (by kernel_rfl) (by kernel_rfl) ?_
 simp only [List.take_succ_cons, List.take_zero, List.take_nil]
 refine hv hF oM ?_
 refine hv hF oM ?_
 refine hv hF oM ?_
 refine hv hF (oN (bf u40)) ?_
 refine hv hF oM ?_
 refine hv hF oM ?_
 obtain ⟨x5, hx5, h⟩ := aa h
 refine hv hF (oI (aU u40 cW hx5)) ?_
 refine hv hF (x := .d (.agg 5 (Ps.row x5))) (oL (b7 gB cW rfl rfl)) ?_
 refine hv hF oM ?_
 refine hv hF oM ?_
 obtain ⟨x6, hx6, h⟩ := aa h
 refine hv hF (oI (aU u41 fF hx6)) ?_
 refine hv hF (x := .d (.agg 2 (Rs.row x6))) (oL (b7 kh fF rfl rfl)) ?_
 refine hv hF oM ?_
 refine ag.last ⟨rfl, ?_⟩
 simp only [List.drop_succ_cons, List.drop_zero, List.drop_nil, List.nil_append, List.cons_append]
 refine gv hF (x := .d (.agg 11 [.i a2, .i a3, .i (a0.length : Int), .l x5.at_, .l x5.h0, .l x5.h1, .i x5.rights, .i x5.side, .i x6.out, .i x6.n, .list 32 (x3.1.map aJ) false])) (bh rfl u38 (by kernel_rfl) rfl (br (n := 11) zH GH rfl rfl)) ?_
 refine SmG.store hF rfl rfl rfl rfl rfl (bk (ys := [.i a2, .i a3, .i (a0.length : Int), .l x5.at_, .l x5.h0, .l x5.h1, .i x5.rights, .i x5.side, .i x6.out, .i x6.n, .d (.list 32 (x3.1.map aJ) false)]) (r := [.i 0, .i 0, .i 0, .z, .z, .z, .i 0, .i 0, .i 0, .i 0, .z]) (rows' := [[.i a2, .i a3, .i (a0.length : Int), .l x5.at_, .l x5.h0, .l x5.h1, .i x5.rights, .i x5.side, .i x6.out, .i x6.n, .d (.list 32 (x3.1.map aJ) false)]]) rfl rfl rfl j7 rfl rfl rfl rfl rfl) ?_
 refine gv hF oA ?_
 refine sn ?_
 refine Sm.ret ?_
 obtain rfl := ac h
 exact eg (RetR.cons (RetO.cell rfl (aH (ds := [.i a2, .i a3, .i (a0.length : Int), .l x5.at_, .l x5.h0, .l x5.h1, .i x5.rights, .i x5.side, .i x6.out, .i x6.n, .list 32 (x3.1.map aJ) false]) rfl rfl pz j7 rfl rfl)) (RetR.cons (RetO.tmp rfl) (RetR.nil))) (D.le.refl _)
noncomputable def cT (a1 : Rs) (s5 : (Int × (List UInt8))) : Option ((Int × (List UInt8)) ⊕ List UInt8) :=
 bif (decide (0 ≤ s5.1)) then (
  ob (arI .i64 (8 * s5.1)) fun x10 =>
  ob (kj .i64 a1.n x10) fun x11 =>
  ob (app s5.2 [(w8 x11)]) fun x12 =>
  ob (arI .i64 (s5.1 - 1)) fun x13 =>
  some (.inl (x13, x12))
 ) else (
  some (.inr s5.2)
 )
noncomputable def eO (a0 : Ps) (a1 : Rs) : Option (List UInt8) :=
 ob (f9 a0) fun x1 =>
 ob (pZ x1) fun x2 =>
 ob (app [(w8 (a0.at_.length : Int)), (w8 (a0.h0.length : Int)), (w8 (a0.h1.length : Int))] x2) fun x3 =>
 ob (app x3 [(w8 a1.out)]) fun x4 =>
 ob ((
  bx (cT a1) (3, x4)
  : Option (List UInt8))) fun v14 =>
 some v14
set_option maxHeartbeats 4000000 in
theorem jF {a0 : Ps} {a1 : Rs} {r : List UInt8} (h : eO a0 a1 = some r) : ak Tryd.prog HG 14 [.agg 5 (Ps.row a0), .agg 2 (Rs.row a1)] (.list 1 (r.map aI) false) := by
 unfold eO at h
 refine ak.of Tryd.func14 rfl Tryd.ntmps14 (by simp) ?_
 intro F hF h0 hT
 show Sm F _ _ ⟨[(0, .d (.agg 5 (Ps.row a0))), (1, .d (.agg 2 (Rs.row a1)))], [], 0⟩
 refine sr hF ?_
 refine bZ hF gk ?_
 refine bZ hF gk ?_
 refine gv hF oA ?_
 refine sn ?_
 refine sr hF ?_
 refine gv hF (oF (aj kQ rfl)) ?_
 refine gv hF (oL (lP1 eC rfl)) ?_
 refine gv hF (oN (bf u30)) ?_
 refine gv hF (oC (jy u3 u5)) ?_
 refine gv hF (oF (aj eV rfl)) ?_
 refine gv hF (oI (cB u31 eJ rfl rfl)) ?_
 refine gv hF (oL (lP1 eC rfl)) ?_
 refine gv hF (oN (bf u30)) ?_
 refine gv hF (oC (jy u3 u5)) ?_
 refine gv hF (oF (aj eV rfl)) ?_
 refine gv hF (oI (cB u31 eJ rfl rfl)) ?_
 refine gv hF (oL (lP1 eC rfl)) ?_
 refine gv hF (oN (bf u30)) ?_
 refine gv hF (oC (jy u3 u5)) ?_
 refine SmG.buildOwn hF (rows := ([(w8 (a0.at_.length : Int)), (w8 (a0.h0.length : Int)), (w8 (a0.h1.length : Int))].map aI)) rfl rfl rfl rfl rfl (ax Tryd.underlying24 sz5 ze5 rfl rfl (PartsQ.cons rfl (PartsQ.cons rfl (PartsQ.cons rfl (PartsQ.nil _)))) rfl) (by simp) ?_
 refine gv hF oA ?_
 refine sn ?_
 refine sr hF ?_
 refine gv hF oM ?_
 refine gv hF (x := .d (.agg 5 (Ps.row a0))) (oL (b7 gB cW rfl rfl)) ?_
 obtain ⟨x1, hx1, h⟩ := aa h
 refine SmG.call hF rfl rfl (by kernel_rfl) rfl rfl rfl (nM hx1) ?_
 obtain ⟨x2, hx2, h⟩ := aa h
 refine SmG.ofString hF rfl rfl rfl rfl rfl Tryd.underlying9 Tryd.underlying24 Tryd.underlying5 hx2 ?_
 obtain ⟨x3, hx3, h⟩ := aa h
 refine aY hF oh rfl (ys := x2) (row := aI) rfl rfl rfl rfl rfl rfl rfl rfl (.inl rfl) hx3 (by (repeat' first | exact bz _ | refine bn ?_ | refine ap ?_ (aQ _ _ _) | refine ap ?_ (aQ _ _ [_]) | refine ap ?_ (bJ (by rfl)))) ?_
 refine gv hF oA ?_
 refine sn ?_
 refine sr hF ?_
 refine gv hF oM ?_
 refine gv hF (oF (aj se rfl)) ?_
 refine gv hF (oL (lP1 ag3 rfl)) ?_
 refine gv hF (oC (jy u3 u5)) ?_
 refine gv hF (x := .d (.list 1 ([(w8 a1.out)].map aI) true)) (oS (ax u24 sz5 ze5 rfl rfl (PartsQ.cons rfl (PartsQ.nil _)) rfl)) ?_
 obtain ⟨x4, hx4, h⟩ := aa h
 refine aY hF oh rfl (ys := [(w8 a1.out)]) (row := aI) rfl rfl rfl rfl rfl rfl rfl rfl (.inl rfl) hx4 (by (repeat' first | exact bz _ | refine bn ?_ | refine ap ?_ (aQ _ _ _) | refine ap ?_ (aQ _ _ [_]) | refine ap ?_ (bJ (by rfl)))) ?_
 refine gv hF oA ?_
 refine sn ?_
 refine Sm.seq ?_
 obtain ⟨v14, hv14, h⟩ := aa h
 refine ba ⟨[(5, .sref 0 0 (v14.map aI).length)], [(0, dB 1 (v14.map aI))], 1⟩ ?_ ?_
 ·refine Sm.seq ?_
  refine ab hF rfl ?_
  refine gv hF oM ?_
  refine gv hF oA ?_
  refine sn ?_
  refine Sm.to (aL (kA (e := [(4, .sref 0 0 (v14.map aI).length)]) (g := [(0, dB 1 (v14.map aI))]) (m := 1)) (fA (l := 0) (sz := 1) (e := [(4, .d (.list 1 (v14.map aI) false))]) (g := []) (nx := 1) (v14.map aI))) ?_
  refine Sm.ret ?_
  obtain rfl := ac h
  exact bE rfl rfl
 replace h := hv14
 refine sr hF ?_
 refine gv hF oA ?_
 refine sn ?_
 refine Sm.block ?_
 refine bi (cT a1) (fun s5 => ⟨[(3, .d (.ptr 2 (Rs.row a1))), (5, .sref 0 0 (s5.2.map aI).length), (6, .i s5.1)], [(0, dB 1 (s5.2.map aI))], 1⟩) (3, x4) h (kA) ?_
 intro n6 s5 o7 h hd8
 unfold cT at h
 refine Sm.seq ?_
 refine sr hF ?_
 refine gv hF oM ?_
 refine gv hF (oB (oV)) ?_
 refine sn ?_
 refine aA hF rfl (fun hc9 => ?_) (fun hc9 => ?_)
 ·replace h := ifF hc9 h
  refine Sm.exit ?_
  replace h := aE h hd8
  obtain rfl := ac h
  exact (kA)
 replace h := ifT hc9 h
 refine sk ?_
 refine Sm.seq ?_
 refine Sm.block ?_
 refine ab hF rfl ?_
 refine gv hF oM ?_
 refine gv hF (oF (aj mE rfl)) ?_
 refine gv hF (oL (lP1 ag3 rfl)) ?_
 refine gv hF oM ?_
 obtain ⟨x10, hx10, h⟩ := aa h
 refine gv hF (oB (iP hx10)) ?_
 obtain ⟨x11, hx11, h⟩ := aa h
 refine gv hF (oB (lF hx11)) ?_
 refine gv hF (oC (jy u3 u5)) ?_
 refine gv hF (x := .d (.list 1 ([(w8 x11)].map aI) true)) (oS (ax u24 sz5 ze5 rfl rfl (PartsQ.cons rfl (PartsQ.nil _)) rfl)) ?_
 obtain ⟨x12, hx12, h⟩ := aa h
 refine aY hF oh rfl (ys := [(w8 x11)]) (row := aI) rfl rfl rfl rfl rfl rfl rfl rfl (.inl rfl) hx12 (by (repeat' first | exact bz _ | refine bn ?_ | refine ap ?_ (aQ _ _ _) | refine ap ?_ (aQ _ _ [_]) | refine ap ?_ (bJ (by rfl)))) ?_
 refine gv hF oA ?_
 refine SmG.nil ?_
 refine am ?_
 refine ae ?_
 refine ab hF rfl ?_
 refine gv hF oM ?_
 obtain ⟨x13, hx13, h⟩ := aa h
 refine gv hF (oB (od hx13)) ?_
 refine gv hF oA ?_
 refine SmG.nil ?_
 exact bm (be h hd8) (kA)
noncomputable def dg (a0 : List Ps) (a1 : List Rs) (s1 : (Int × (List (List UInt8)))) : Option ((Int × (List (List UInt8))) ⊕ List (List UInt8)) :=
 bif (decide (s1.1 < (a0.length : Int))) then (
  bif (decide (s1.1 < (a1.length : Int))) then (
   ob (idx a0 s1.1) fun x7 =>
   ob (idx a1 s1.1) fun x8 =>
   ob (eO x7 x8) fun x9 =>
   ob (app s1.2 [x9]) fun x10 =>
   ob (arI .i64 (s1.1 + 1)) fun x11 =>
   some (.inl (x11, x10))
  ) else (
   some (.inr s1.2)
  )
 ) else (
  some (.inr s1.2)
 )
noncomputable def eh (a0 : List Ps) (a1 : List Rs) : Option (List (List UInt8)) :=
 ob ((
  bx (dg a0 a1) (0, ([] : List (List UInt8)))
  : Option (List (List UInt8)))) fun v12 =>
 some v12
set_option maxHeartbeats 4000000 in
theorem jb {a0 : List Ps} {a1 : List Rs} {r : List (List UInt8)} (h : eh a0 a1 = some r) : ak Tryd.prog HG 28 [.list 5 (a0.map Ps.row) false, .list 2 (a1.map Rs.row) false] (.list 1 (r.map aT) false) := by
 unfold eh at h
 refine ak.of Tryd.func28 rfl Tryd.ntmps28 (by simp) ?_
 intro F hF h0 hT
 show Sm F _ _ ⟨[(0, .d (.list 5 (a0.map Ps.row) false)), (1, .d (.list 2 (a1.map Rs.row) false))], [], 0⟩
 refine sr hF ?_
 refine gv hF oA ?_
 refine sn ?_
 refine sr hF ?_
 refine gv hF (x := .d (.list 1 (([] : List (List UInt8)).map aT) true)) (oS (dR u61 cO)) ?_
 refine gv hF oA ?_
 refine sn ?_
 refine Sm.seq ?_
 obtain ⟨v12, hv12, h⟩ := aa h
 refine ba ⟨[(5, .d (.list 1 (v12.map aT) false))], [], 1⟩ ?_ ?_
 ·refine Sm.seq ?_
  refine ab hF rfl ?_
  refine gv hF oM ?_
  refine gv hF oA ?_
  refine sn ?_
  refine Sm.ret ?_
  obtain rfl := ac h
  exact bE rfl rfl
 replace h := hv12
 refine sr hF ?_
 refine gv hF oA ?_
 refine sn ?_
 refine Sm.block ?_
 refine Sm.to (kA (e := [(0, .d (.list 5 (a0.map Ps.row) false)), (1, .d (.list 2 (a1.map Rs.row) false)), (5, .d (.list 1 ([].map aT) true)), (6, .i 0)]) (g := []) (m := 0)) ?_
 refine Sm.own (t := 5) 1 rfl ?_
 refine bi (dg a0 a1) (fun s1 => ⟨[(0, .d (.list 5 (a0.map Ps.row) false)), (1, .d (.list 2 (a1.map Rs.row) false)), (5, .sref 0 0 (s1.2.map aT).length), (6, .i s1.1)], [(0, dB 1 (s1.2.map aT))], 1⟩) (0, ([] : List (List UInt8))) h (kA) ?_
 intro n2 s1 o3 h hd4
 unfold dg at h
 refine Sm.seq ?_
 refine sr hF ?_
 refine gv hF oM ?_
 refine gv hF oM ?_
 refine gv hF (oN (bf u40)) ?_
 refine gv hF (oB (bq)) ?_
 rcases bC (decide (s1.1 < (a0.length : Int))) with hc5 | hc5
 ·replace h := ifF hc5 h
  refine gv hF (au rfl rfl hc5) ?_
  refine gp hF ?_
  refine gp hF ?_
  refine gp hF ?_
  refine gp hF ?_
  refine gv hF (aq rfl rfl rfl) ?_
  refine sn ?_
  refine bB hF rfl ?_
  refine Sm.exit ?_
  replace h := aE h hd4
  obtain rfl := ac h
  exact (aL (kA (e := [(5, .sref 0 0 (s1.2.map aT).length)]) (g := [(0, dB 1 (s1.2.map aT))]) (m := 1)) (fA (l := 0) (sz := 1) (s1.2.map aT)))
 replace h := ifT hc5 h
 refine gv hF (au rfl rfl hc5) ?_
 refine gv hF oM ?_
 refine gv hF oM ?_
 refine gv hF (oN (bf u41)) ?_
 refine gv hF (oB (bq)) ?_
 refine gv hF (aK rfl rfl rfl) ?_
 refine sn ?_
 refine aA hF rfl (fun hc6 => ?_) (fun hc6 => ?_)
 ·replace h := ifF hc6 h
  refine Sm.exit ?_
  replace h := aE h hd4
  obtain rfl := ac h
  exact (aL (kA (e := [(5, .sref 0 0 (s1.2.map aT).length)]) (g := [(0, dB 1 (s1.2.map aT))]) (m := 1)) (fA (l := 0) (sz := 1) (s1.2.map aT)))
 replace h := ifT hc6 h
 refine sk ?_
 refine Sm.seq ?_
 refine Sm.block ?_
 refine aX hF (by kernel_rfl) rfl 11 (by kernel_rfl) (by kernel_rfl) ?_
 simp only [List.take_succ_cons, List.take_zero, List.take_nil]
 refine hv hF oM ?_
 refine hv hF oM ?_
 refine hv hF oM ?_
 obtain ⟨x7, hx7, h⟩ := aa h
 refine hv hF (oI (aU u40 cW hx7)) ?_
 refine hv hF (x := .d (.agg 5 (Ps.row x7))) (oL (b7 gB cW rfl rfl)) ?_
 refine hv hF oM ?_
 refine hv hF oM ?_
 obtain ⟨x8, hx8, h⟩ := aa h
 refine hv hF (oI (aU u41 fF hx8)) ?_
 refine hv hF (x := .d (.agg 2 (Rs.row x8))) (oL (b7 kh fF rfl rfl)) ?_
 obtain ⟨x9, hx9, h⟩ := aa h
 refine ag.c hF rfl rfl (by kernel_rfl) rfl rfl rfl (jF hx9) ?_
 refine hv hF (x := .d (.list 1 ([x9].map aT) true)) (oS (ax u61 cO pJ rfl rfl (PartsQ.cons rfl (PartsQ.nil _)) rfl)) ?_
 refine ag.last ⟨rfl, ?_⟩
 simp only [List.drop_succ_cons, List.drop_zero, List.drop_nil, List.nil_append, List.cons_append]
 obtain ⟨x10, hx10, h⟩ := aa h
 refine aY hF pU rfl (ys := [x9]) (row := aT) rfl rfl rfl rfl rfl rfl rfl rfl (.inl rfl) hx10 (by (repeat' first | exact bz _ | refine bn ?_ | refine ap ?_ (aQ _ _ _) | refine ap ?_ (aQ _ _ [_]) | refine ap ?_ (bJ (by rfl)))) ?_
 refine gv hF oA ?_
 refine SmG.nil ?_
 refine am ?_
 refine ae ?_
 refine ab hF rfl ?_
 refine gv hF oM ?_
 obtain ⟨x11, hx11, h⟩ := aa h
 refine gv hF (oB (aW hx11)) ?_
 refine gv hF oA ?_
 refine SmG.nil ?_
 exact bm (be h hd4) (kA)
noncomputable def cP : Nat → (List (List UInt8)) → Option (List (List UInt8))
 | 0, _ => none
 | n0 + 1, a0 =>
  bif ((a0.length : Int) == 0) then (
   ob (app ([] : List (List UInt8)) ([[]])) fun x2 =>
   some x2
  ) else (
   bif ((a0.length : Int) == 1) then (
    ob (idx a0 0) fun x4 =>
    ob (fh x4) fun x5 =>
    ob (app ([] : List (List UInt8)) [x5]) fun x6 =>
    some x6
   ) else (
    ob (gc (a0.length : Int)) fun x7 =>
    ob (slc a0 0 x7) fun x8 =>
    ob (eS x8) fun x9 =>
    ob (slc a0 x7 (a0.length : Int)) fun x10 =>
    ob (eS x10) fun x11 =>
    ob (fi x9 x11) fun x12 =>
    ob (app ([] : List (List UInt8)) [x12]) fun x13 =>
    ob (slc a0 0 x7) fun x14 =>
    ob (cP n0 x14) fun x15 =>
    ob (app x13 x15) fun x16 =>
    ob (slc a0 x7 (a0.length : Int)) fun x17 =>
    ob (cP n0 x17) fun x18 =>
    ob (app x16 x18) fun x19 =>
    some x19
   )
  )
noncomputable def gg (a0 : List (List UInt8)) : Option (List (List UInt8)) := tA fun n => cP n a0
set_option maxHeartbeats 4000000 in
theorem nE : ∀ (n : Nat) {a0 : List (List UInt8)} {r : List (List UInt8)}, cP n a0 = some r → ak Tryd.prog HG 27 [.list 1 (a0.map aT) false] (.list 1 (r.map aT) false) := by
 intro n
 induction n with
 | zero => intro a0 r h; cases h
 | succ n0 ih =>
 intro a0 r h
 unfold cP at h
 refine ak.of Tryd.func27 rfl Tryd.ntmps27 (by simp) ?_
 intro F hF h0 hT
 show Sm F _ _ ⟨[(0, .d (.list 1 (a0.map aT) false))], [], 0⟩
 refine sr hF ?_
 refine gv hF oA ?_
 refine sn ?_
 refine sr hF ?_
 refine gv hF (x := .d (.list 1 (([] : List (List UInt8)).map aT) true)) (oS (dR u61 cO)) ?_
 refine gv hF oA ?_
 refine sn ?_
 refine Sm.seq ?_
 refine sr hF ?_
 refine gv hF oM ?_
 refine gv hF (oN (bf u61)) ?_
 refine gv hF (oB (cM)) ?_
 refine sn ?_
 refine bF hF rfl (fun hc1 => ?_) (fun hc1 => ?_)
 ·replace h := ifT hc1 h
  refine sr hF ?_
  refine gv hF oM ?_
  refine gv hF (x := .d (.list 1 (([] : List UInt8).map aI) true)) (oS (dR u24 sz5)) ?_
  refine dD (wA (e := [(9, .d (.list 1 ([].map aT) true)), (10, .d (.list 1 ([].map aI) false))]) (g := []) (m := 0)) rfl ?_
  refine gv hF (x := .d (.list 1 ([[]].map aT) true)) (oS (ax u61 cO pJ rfl rfl (PartsQ.cons rfl (PartsQ.nil _)) rfl)) ?_
  obtain ⟨x2, hx2, h⟩ := aa h
  refine SmG.appendFreshL hF pU rfl (ys := [[]]) (row := aT) rfl rfl rfl rfl rfl rfl rfl (.inl rfl) hx2 ?_
  refine gv hF oA ?_
  refine sn ?_
  refine Sm.to (aL (kA (e := [(2, .sref 0 0 (x2.map aT).length)]) (g := [(0, dB 1 (x2.map aT))]) (m := 1)) (fA (l := 0) (sz := 1) (e := [(2, .d (.list 1 (x2.map aT) false))]) (g := []) (nx := 1) (x2.map aT))) ?_
  refine Sm.ret ?_
  obtain rfl := ac h
  exact bE rfl rfl
 replace h := ifF hc1 h
 refine sk ?_
 refine Sm.seq ?_
 refine sr hF ?_
 refine gv hF oM ?_
 refine gv hF (oN (bf u61)) ?_
 refine gv hF (oB (cM)) ?_
 refine sn ?_
 refine bF hF rfl (fun hc3 => ?_) (fun hc3 => ?_)
 ·replace h := ifT hc3 h
  refine sr hF ?_
  refine gv hF oM ?_
  refine gv hF oM ?_
  obtain ⟨x4, hx4, h⟩ := aa h
  refine gv hF (oI (aU u61 cO hx4)) ?_
  refine gv hF (oL (lP1 e7 rfl)) ?_
  obtain ⟨x5, hx5, h⟩ := aa h
  refine SmG.call hF rfl rfl (by kernel_rfl) rfl rfl rfl (lm hx5) ?_
  refine gv hF (x := .d (.list 1 ([x5].map aT) true)) (oS (ax u61 cO pJ rfl rfl (PartsQ.cons rfl (PartsQ.nil _)) rfl)) ?_
  obtain ⟨x6, hx6, h⟩ := aa h
  refine SmG.appendFreshL hF pU rfl (ys := [x5]) (row := aT) rfl rfl rfl rfl rfl rfl rfl (.inl rfl) hx6 ?_
  refine gv hF oA ?_
  refine sn ?_
  refine Sm.to (aL (kA (e := [(2, .sref 0 0 (x6.map aT).length)]) (g := [(0, dB 1 (x6.map aT))]) (m := 1)) (fA (l := 0) (sz := 1) (e := [(2, .d (.list 1 (x6.map aT) false))]) (g := []) (nx := 1) (x6.map aT))) ?_
  refine Sm.ret ?_
  obtain rfl := ac h
  exact bE rfl rfl
 replace h := ifF hc3 h
 refine sk ?_
 refine sr hF ?_
 refine gv hF oM ?_
 refine gv hF (oN (bf u61)) ?_
 obtain ⟨x7, hx7, h⟩ := aa h
 refine SmG.call hF rfl rfl (by kernel_rfl) rfl rfl rfl (nP hx7) ?_
 refine gv hF oA ?_
 refine sn ?_
 refine Sm.seq ?_
 refine aX hF (by kernel_rfl) rfl 11 (by kernel_rfl) (by kernel_rfl) ?_
 simp only [List.take_succ_cons, List.take_zero, List.take_nil]
 refine hv hF oM ?_
 refine hv hF oM ?_
 refine hv hF oM ?_
 obtain ⟨x8, hx8, h⟩ := aa h
 refine hv hF (dM rfl rfl rfl rfl rfl (oU u61 cO hx8)) ?_
 obtain ⟨x9, hx9, h⟩ := aa h
 refine ag.c hF rfl rfl (by kernel_rfl) rfl rfl rfl (jJ hx9) ?_
 refine hv hF oM ?_
 refine hv hF oM ?_
 obtain ⟨x10, hx10, h⟩ := aa h
 refine hv hF (dM rfl rfl rfl rfl rfl (yT u61 cO hx10)) ?_
 obtain ⟨x11, hx11, h⟩ := aa h
 refine ag.c hF rfl rfl (by kernel_rfl) rfl rfl rfl (jJ hx11) ?_
 obtain ⟨x12, hx12, h⟩ := aa h
 refine ag.c hF rfl rfl (by kernel_rfl) rfl rfl rfl (ll hx12) ?_
 refine hv hF (x := .d (.list 1 ([x12].map aT) true)) (oS (ax u61 cO pJ rfl rfl (PartsQ.cons rfl (PartsQ.nil _)) rfl)) ?_
 refine ag.last ⟨rfl, ?_⟩
 simp only [List.drop_succ_cons, List.drop_zero, List.drop_nil, List.nil_append, List.cons_append]
 obtain ⟨x13, hx13, h⟩ := aa h
 refine SmG.appendFreshL hF pU rfl (ys := [x12]) (row := aT) rfl rfl rfl rfl rfl rfl rfl (.inl rfl) hx13 ?_
 refine gv hF oA ?_
 refine sn ?_
 refine sr hF ?_
 refine gv hF oM ?_
 refine gv hF oM ?_
 refine gv hF oM ?_
 obtain ⟨x14, hx14, h⟩ := aa h
 refine gv hF (dM rfl rfl rfl rfl rfl (oU u61 cO hx14)) ?_
 obtain ⟨x15, hx15, h⟩ := aa h
 refine SmG.call hF rfl rfl (by kernel_rfl) rfl rfl rfl (ih hx15) ?_
 obtain ⟨x16, hx16, h⟩ := aa h
 refine aY hF pU rfl (ys := x15) (row := aT) rfl rfl rfl rfl rfl rfl rfl rfl (.inl rfl) hx16 (by (repeat' first | exact bz _ | refine bn ?_ | refine ap ?_ (aQ _ _ _) | refine ap ?_ (aQ _ _ [_]) | refine ap ?_ (bJ (by rfl)))) ?_
 refine gv hF oA ?_
 refine sn ?_
 refine sr hF ?_
 refine gv hF oM ?_
 refine gv hF oM ?_
 refine gv hF oM ?_
 obtain ⟨x17, hx17, h⟩ := aa h
 refine gv hF (dM rfl rfl rfl rfl rfl (yT u61 cO hx17)) ?_
 obtain ⟨x18, hx18, h⟩ := aa h
 refine SmG.call hF rfl rfl (by kernel_rfl) rfl rfl rfl (ih hx18) ?_
 obtain ⟨x19, hx19, h⟩ := aa h
 refine aY hF pU rfl (ys := x18) (row := aT) rfl rfl rfl rfl rfl rfl rfl rfl (.inl rfl) hx19 (by (repeat' first | exact bz _ | refine bn ?_ | refine ap ?_ (aQ _ _ _) | refine ap ?_ (aQ _ _ [_]) | refine ap ?_ (bJ (by rfl)))) ?_
 refine gv hF oA ?_
 refine sn ?_
 refine Sm.to (aL (kA (e := [(2, .sref 0 0 (x19.map aT).length)]) (g := [(0, dB 1 (x19.map aT))]) (m := 1)) (fA (l := 0) (sz := 1) (e := [(2, .d (.list 1 (x19.map aT) false))]) (g := []) (nx := 1) (x19.map aT))) ?_
 refine Sm.ret ?_
 obtain rfl := ac h
 exact bE rfl rfl
theorem jV {a0 : List (List UInt8)} {r : List (List UInt8)} (h : gg a0 = some r) : ak Tryd.prog HG 27 [.list 1 (a0.map aT) false] (.list 1 (r.map aT) false) := by
 obtain ⟨n, hn⟩ := yu h
 exact nE n hn
noncomputable def ed (a1 : List (List UInt8)) (s1 : (Int × (List (List UInt8)))) : Option ((Int × (List (List UInt8))) ⊕ List (List UInt8)) :=
 bif (decide (s1.1 < (a1.length : Int))) then (
  ob (idx a1 s1.1) fun x6 =>
  ob (gb x6) fun x7 =>
  ob (app s1.2 [x7]) fun x8 =>
  ob (arI .i64 (s1.1 + 1)) fun x9 =>
  some (.inl (x9, x8))
 ) else (
  some (.inr s1.2)
 )
noncomputable def bR (a0 : List (List UInt8)) (a1 : List (List UInt8)) (v10 : List (List UInt8)) (s11 : Int) (x17 : List UInt8) (s19 : Int) : Option (Int ⊕ (Unit ⊕ (Int ⊕ (Unit ⊕ Bool)))) :=
 bif (decide (s19 < (a1.length : Int))) then (
  ob ((
   ob (idx v10 s19) fun x24 =>
   ob (vN 32 x17) fun x25 =>
   ob (vN 32 x24) fun x26 =>
   bif (x17 == x24) then (
    ob (idx a0 s11) fun x28 =>
    ob (idx a1 s19) fun x29 =>
    bif (!(x28 == x29)) then (
     some (.inr (.inr (.inr (.inr (.inr true)))))
    ) else (
     some (.inl ())
    )
   ) else (
    some (.inl ())
   )
   : Option (Unit ⊕ (Int ⊕ (Unit ⊕ (Int ⊕ (Unit ⊕ Bool))))))) fun o33 => match o33 with
  | .inl v31 => (
   ob (arI .i64 (s19 + 1)) fun x32 =>
   some (.inl x32)
   )
  | .inr e34 => some e34
 ) else (
  some (.inr (.inl ()))
 )
noncomputable def ee (a0 : List (List UInt8)) (a1 : List (List UInt8)) (v10 : List (List UInt8)) (s11 : Int) : Option (Int ⊕ (Unit ⊕ Bool)) :=
 bif (decide (s11 < (a0.length : Int))) then (
  ob ((
   ob (idx a0 s11) fun x16 =>
   ob (gb x16) fun x17 =>
   ob (vN 32 x17) fun x18 =>
   bx (bR a0 a1 v10 s11 x17) 0
   : Option (Unit ⊕ (Int ⊕ (Unit ⊕ Bool))))) fun o37 => match o37 with
  | .inl v35 => (
   ob (arI .i64 (s11 + 1)) fun x36 =>
   some (.inl x36)
   )
  | .inr e38 => some e38
 ) else (
  some (.inr (.inl ()))
 )
noncomputable def ge (a0 : List (List UInt8)) (a1 : List (List UInt8)) : Option Bool :=
 ob ((
  bx (ed a1) (0, ([] : List (List UInt8)))
  : Option (List (List UInt8)))) fun v10 =>
 ob ((
  bx (ee a0 a1 v10) 0
  : Option (Unit ⊕ Bool))) fun o40 => match o40 with
 | .inl v39 => (
  some false
  )
 | .inr e41 => some e41
set_option maxHeartbeats 4000000 in
theorem nR {a0 : List (List UInt8)} {a1 : List (List UInt8)} {r : Bool} (h : ge a0 a1 = some r) : ak Tryd.prog HG 21 [.list 1 (a0.map aT) false, .list 1 (a1.map aT) false] (.v (.bool r)) := by
 unfold ge at h
 refine ak.of Tryd.func21 rfl Tryd.ntmps21 (by simp) ?_
 intro F hF h0 hT
 show Sm F _ _ ⟨[(0, .d (.list 1 (a0.map aT) false)), (1, .d (.list 1 (a1.map aT) false))], [], 0⟩
 refine sr hF ?_
 refine gv hF oA ?_
 refine sn ?_
 refine sr hF ?_
 refine gv hF (x := .d (.list 32 (([] : List (List UInt8)).map aJ) true)) (oS (dR u36 cJ)) ?_
 refine gv hF oA ?_
 refine sn ?_
 refine Sm.seq ?_
 obtain ⟨v10, hv10, h⟩ := aa h
 refine dE ⟨[(0, .d (.list 1 (a0.map aT) false)), (1, .d (.list 1 (a1.map aT) false)), (5, .d (.list 32 (v10.map aJ) false))], [], 1⟩ ?_ ?_
 ·replace h := hv10
  refine sr hF ?_
  refine gv hF oA ?_
  refine sn ?_
  refine Sm.block ?_
  refine Sm.to (kA (e := [(0, .d (.list 1 (a0.map aT) false)), (1, .d (.list 1 (a1.map aT) false)), (5, .d (.list 32 ([].map aJ) true)), (6, .i 0)]) (g := []) (m := 0)) ?_
  refine Sm.own (t := 5) 32 rfl ?_
  refine bi (ed a1) (fun s1 => ⟨[(0, .d (.list 1 (a0.map aT) false)), (1, .d (.list 1 (a1.map aT) false)), (5, .sref 0 0 (s1.2.map aJ).length), (6, .i s1.1)], [(0, dB 32 (s1.2.map aJ))], 1⟩) (0, ([] : List (List UInt8))) h (kA) ?_
  intro n2 s1 o3 h hd4
  unfold ed at h
  refine Sm.seq ?_
  refine sr hF ?_
  refine gv hF oM ?_
  refine gv hF oM ?_
  refine gv hF (oN (bf u61)) ?_
  refine gv hF (oB (bq)) ?_
  refine sn ?_
  refine aA hF rfl (fun hc5 => ?_) (fun hc5 => ?_)
  ·replace h := ifF hc5 h
   refine Sm.exit ?_
   replace h := aE h hd4
   obtain rfl := ac h
   exact (aL (kA (e := [(0, .d (.list 1 (a0.map aT) false)), (1, .d (.list 1 (a1.map aT) false)), (5, .sref 0 0 (s1.2.map aJ).length)]) (g := [(0, dB 32 (s1.2.map aJ))]) (m := 1)) (fA (l := 0) (sz := 32) (s1.2.map aJ)))
  replace h := ifT hc5 h
  refine sk ?_
  refine Sm.seq ?_
  refine Sm.block ?_
  refine ab hF rfl ?_
  refine gv hF oM ?_
  refine gv hF oM ?_
  refine gv hF oM ?_
  obtain ⟨x6, hx6, h⟩ := aa h
  refine gv hF (oI (aU u61 cO hx6)) ?_
  refine gv hF (oL (lP1 e7 rfl)) ?_
  obtain ⟨x7, hx7, h⟩ := aa h
  refine SmG.call hF rfl rfl (by kernel_rfl) rfl rfl rfl (fk hx7) ?_
  refine gv hF (x := .d (.list 32 ([x7].map aJ) true)) (oS (ax u36 cJ zK rfl rfl (PartsQ.cons rfl (PartsQ.nil _)) rfl)) ?_
  obtain ⟨x8, hx8, h⟩ := aa h
  refine aY hF EG rfl (ys := [x7]) (row := aJ) rfl rfl rfl rfl rfl rfl rfl rfl (.inl rfl) hx8 (by (repeat' first | exact bz _ | refine bn ?_ | refine ap ?_ (aQ _ _ _) | refine ap ?_ (aQ _ _ [_]) | refine ap ?_ (bJ (by rfl)))) ?_
  refine gv hF oA ?_
  refine SmG.nil ?_
  refine am ?_
  refine ae ?_
  refine ab hF rfl ?_
  refine gv hF oM ?_
  obtain ⟨x9, hx9, h⟩ := aa h
  refine gv hF (oB (aW hx9)) ?_
  refine gv hF oA ?_
  refine SmG.nil ?_
  exact bm (be h hd4) (kA)
 refine Sm.seq ?_
 obtain ⟨o40, ho40, h⟩ := aa h
 rcases iX o40 with ⟨e41, rfl⟩ | ⟨v39, rfl⟩
 ·have he41 := ac h
  subst he41
  replace h := ho40
  refine sr hF ?_
  refine gv hF oA ?_
  refine sn ?_
  refine Sm.block ?_
  refine bi (ee a0 a1 v10) (fun s11 => ⟨[(0, .d (.list 1 (a0.map aT) false)), (1, .d (.list 1 (a1.map aT) false)), (5, .d (.list 32 (v10.map aJ) false)), (7, .i s11)], [], 1⟩) 0 h (kA) ?_
  intro n12 s11 o13 h hd14
  unfold ee at h
  refine Sm.seq ?_
  refine sr hF ?_
  refine gv hF oM ?_
  refine gv hF oM ?_
  refine gv hF (oN (bf u61)) ?_
  refine gv hF (oB (bq)) ?_
  refine sn ?_
  refine aA hF rfl (fun hc15 => ?_) (fun hc15 => ?_)
  ·replace h := ifF hc15 h
   refine Sm.exit ?_
   replace h := aE h hd14
   cases h
  replace h := ifT hc15 h
  refine sk ?_
  refine Sm.seq ?_
  obtain ⟨o37, ho37, h⟩ := aa h
  rcases iX o37 with ⟨e38, rfl⟩ | ⟨v35, rfl⟩
  ·have he38 := ac h
   subst he38
   replace h := ho37
   refine Sm.block ?_
   refine sr hF ?_
   refine gv hF oM ?_
   refine gv hF oM ?_
   obtain ⟨x16, hx16, h⟩ := aa h
   refine gv hF (oI (aU u61 cO hx16)) ?_
   refine gv hF (oL (lP1 e7 rfl)) ?_
   obtain ⟨x17, hx17, h⟩ := aa h
   refine SmG.call hF rfl rfl (by kernel_rfl) rfl rfl rfl (fk hx17) ?_
   refine SmG.new hF rfl rfl rfl (aO rfl jp) ?_
   obtain ⟨x18, hx18, h⟩ := aa h
   refine SmG.store hF rfl rfl rfl rfl rfl (jw rfl rfl cJ rfl (cG hx18)) ?_
   refine sn ?_
   refine sr hF ?_
   refine gv hF oA ?_
   refine sn ?_
   refine Sm.block ?_
   refine bi (bR a0 a1 v10 s11 x17) (fun s19 => ⟨[(0, .d (.list 1 (a0.map aT) false)), (1, .d (.list 1 (a1.map aT) false)), (5, .d (.list 32 (v10.map aJ) false)), (7, .i s11), (8, .ref 1 0 0), (9, .i s19)], [(1, ⟨32, [(aJ x17).map V.d]⟩)], 2⟩) 0 h (kA) ?_
   intro n20 s19 o21 h hd22
   unfold bR at h
   refine Sm.seq ?_
   refine sr hF ?_
   refine gv hF oM ?_
   refine gv hF oM ?_
   refine gv hF (oN (bf u61)) ?_
   refine gv hF (oB (bq)) ?_
   refine sn ?_
   refine aA hF rfl (fun hc23 => ?_) (fun hc23 => ?_)
   ·replace h := ifF hc23 h
    refine Sm.exit ?_
    replace h := aE h hd22
    cases h
   replace h := ifT hc23 h
   refine sk ?_
   refine Sm.seq ?_
   obtain ⟨o33, ho33, h⟩ := aa h
   rcases iX o33 with ⟨e34, rfl⟩ | ⟨v31, rfl⟩
   ·have he34 := ac h
    subst he34
    replace h := ho33
    refine Sm.block ?_
    refine Sm.seq ?_
    refine aX hF (by kernel_rfl) rfl 17 (by kernel_rfl) (by kernel_rfl) ?_
    simp only [List.take_succ_cons, List.take_zero, List.take_nil]
    refine hv hF (x := .d (.agg 32 (aJ x17))) (oL (f8 rfl fG cJ)) ?_
    refine hv hF oM ?_
    refine hv hF oM ?_
    obtain ⟨x24, hx24, h⟩ := aa h
    refine hv hF (oI (aU u36 cJ hx24)) ?_
    refine hv hF (x := .d (.agg 32 (aJ x24))) (oL (b7 fG cJ rfl rfl)) ?_
    obtain ⟨x25, hx25, h⟩ := aa h
    obtain ⟨x26, hx26, h⟩ := aa h
    refine hv hF (gZ rfl rfl rfl (iW (by kernel_rfl) (by kernel_rfl) (cG hx25) (cG hx26))) ?_
    rcases bC (x17 == x24) with hc27 | hc27
    ·replace h := ifF hc27 h
     refine hv hF (au rfl rfl hc27) ?_
     refine hp hF ?_
     refine hp hF ?_
     refine hp hF ?_
     refine hp hF ?_
     refine hp hF ?_
     refine hp hF ?_
     refine hp hF ?_
     refine hp hF ?_
     refine hp hF ?_
     refine hp hF ?_
     refine ag.last ⟨rfl, ?_⟩
     simp only [List.drop_succ_cons, List.drop_zero, List.drop_nil, List.nil_append, List.cons_append]
     refine gp hF ?_
     refine gv hF (aq rfl rfl rfl) ?_
     refine sn ?_
     refine bB hF rfl ?_
     refine Sm.skip ?_
     refine am ?_
     cases h
    replace h := ifT hc27 h
    refine hv hF (au rfl rfl hc27) ?_
    refine hv hF oM ?_
    refine hv hF oM ?_
    obtain ⟨x28, hx28, h⟩ := aa h
    refine hv hF (oI (aU u61 cO hx28)) ?_
    refine hv hF (oL (lP1 e7 rfl)) ?_
    refine hv hF (oC (dZ u24 u9 u5)) ?_
    refine hv hF oM ?_
    refine hv hF oM ?_
    obtain ⟨x29, hx29, h⟩ := aa h
    refine hv hF (oI (aU u61 cO hx29)) ?_
    refine hv hF (oL (lP1 e7 rfl)) ?_
    refine hv hF (oC (dZ u24 u9 u5)) ?_
    refine ag.last ⟨rfl, ?_⟩
    simp only [List.drop_succ_cons, List.drop_zero, List.drop_nil, List.nil_append, List.cons_append]
    refine gv hF (oB (kF rfl)) ?_
    refine gv hF (aK rfl rfl rfl) ?_
    refine sn ?_
    refine aA hF rfl (fun hc30 => ?_) (fun hc30 => ?_)
    ·replace h := ifF hc30 h
     refine Sm.skip ?_
     refine am ?_
     cases h
    replace h := ifT hc30 h
    refine sr hF ?_
    refine gv hF oA ?_
    refine sn ?_
    refine Sm.ret ?_
    replace h := gr h
    replace h := aE h hd22
    replace h := gr h
    replace h := aE h hd14
    replace h := gr h
    obtain rfl := ac h
    exact bE rfl rfl
   refine ba ⟨[(0, .d (.list 1 (a0.map aT) false)), (1, .d (.list 1 (a1.map aT) false)), (5, .d (.list 32 (v10.map aJ) false)), (7, .i s11), (8, .ref 1 0 0), (9, .i s19)], [(1, ⟨32, [(aJ x17).map V.d]⟩)], 2⟩ ?_ ?_
   ·refine ab hF rfl ?_
    refine gv hF oM ?_
    obtain ⟨x32, hx32, h⟩ := aa h
    refine gv hF (oB (aW hx32)) ?_
    refine gv hF oA ?_
    refine SmG.nil ?_
    exact bm (be h hd22) (kA)
   replace h := ho33
   refine Sm.block ?_
   refine Sm.seq ?_
   refine aX hF (by kernel_rfl) rfl 17 (by kernel_rfl) (by kernel_rfl) ?_
   simp only [List.take_succ_cons, List.take_zero, List.take_nil]
   refine hv hF (x := .d (.agg 32 (aJ x17))) (oL (f8 rfl fG cJ)) ?_
   refine hv hF oM ?_
   refine hv hF oM ?_
   obtain ⟨x24, hx24, h⟩ := aa h
   refine hv hF (oI (aU u36 cJ hx24)) ?_
   refine hv hF (x := .d (.agg 32 (aJ x24))) (oL (b7 fG cJ rfl rfl)) ?_
   obtain ⟨x25, hx25, h⟩ := aa h
   obtain ⟨x26, hx26, h⟩ := aa h
   refine hv hF (gZ rfl rfl rfl (iW (by kernel_rfl) (by kernel_rfl) (cG hx25) (cG hx26))) ?_
   rcases bC (x17 == x24) with hc27 | hc27
   ·replace h := ifF hc27 h
    refine hv hF (au rfl rfl hc27) ?_
    refine hp hF ?_
    refine hp hF ?_
    refine hp hF ?_
    refine hp hF ?_
    refine hp hF ?_
    refine hp hF ?_
    refine hp hF ?_
    refine hp hF ?_
    refine hp hF ?_
    refine hp hF ?_
    refine ag.last ⟨rfl, ?_⟩
    simp only [List.drop_succ_cons, List.drop_zero, List.drop_nil, List.nil_append, List.cons_append]
    refine gp hF ?_
    refine gv hF (aq rfl rfl rfl) ?_
    refine sn ?_
    refine bB hF rfl ?_
    refine Sm.skip ?_
    refine am ?_
    obtain rfl := ac (du h)
    exact (kA)
   replace h := ifT hc27 h
   refine hv hF (au rfl rfl hc27) ?_
   refine hv hF oM ?_
   refine hv hF oM ?_
   obtain ⟨x28, hx28, h⟩ := aa h
   refine hv hF (oI (aU u61 cO hx28)) ?_
   refine hv hF (oL (lP1 e7 rfl)) ?_
   refine hv hF (oC (dZ u24 u9 u5)) ?_
   refine hv hF oM ?_
   refine hv hF oM ?_
   obtain ⟨x29, hx29, h⟩ := aa h
   refine hv hF (oI (aU u61 cO hx29)) ?_
   refine hv hF (oL (lP1 e7 rfl)) ?_
   refine hv hF (oC (dZ u24 u9 u5)) ?_
   refine ag.last ⟨rfl, ?_⟩
   simp only [List.drop_succ_cons, List.drop_zero, List.drop_nil, List.nil_append, List.cons_append]
   refine gv hF (oB (kF rfl)) ?_
   refine gv hF (aK rfl rfl rfl) ?_
   refine sn ?_
   refine aA hF rfl (fun hc30 => ?_) (fun hc30 => ?_)
   ·replace h := ifF hc30 h
    refine Sm.skip ?_
    refine am ?_
    obtain rfl := ac (du h)
    exact (kA)
   replace h := ifT hc30 h
   refine sr hF ?_
   refine gv hF oA ?_
   refine sn ?_
   refine Sm.ret ?_
   cases h
  refine ba ⟨[(0, .d (.list 1 (a0.map aT) false)), (1, .d (.list 1 (a1.map aT) false)), (5, .d (.list 32 (v10.map aJ) false)), (7, .i s11)], [], 2⟩ ?_ ?_
  ·refine ab hF rfl ?_
   refine gv hF oM ?_
   obtain ⟨x36, hx36, h⟩ := aa h
   refine gv hF (oB (aW hx36)) ?_
   refine gv hF oA ?_
   refine SmG.nil ?_
   exact bm (be h hd14) (aL (kA (e := [(0, .d (.list 1 (a0.map aT) false)), (1, .d (.list 1 (a1.map aT) false)), (5, .d (.list 32 (v10.map aJ) false)), (7, .i x36)]) (g := []) (m := 2)) (xA 1))
  replace h := ho37
  refine Sm.block ?_
  refine sr hF ?_
  refine gv hF oM ?_
  refine gv hF oM ?_
  obtain ⟨x16, hx16, h⟩ := aa h
  refine gv hF (oI (aU u61 cO hx16)) ?_
  refine gv hF (oL (lP1 e7 rfl)) ?_
  obtain ⟨x17, hx17, h⟩ := aa h
  refine SmG.call hF rfl rfl (by kernel_rfl) rfl rfl rfl (fk hx17) ?_
  refine SmG.new hF rfl rfl rfl (aO rfl jp) ?_
  obtain ⟨x18, hx18, h⟩ := aa h
  refine SmG.store hF rfl rfl rfl rfl rfl (jw rfl rfl cJ rfl (cG hx18)) ?_
  refine sn ?_
  refine sr hF ?_
  refine gv hF oA ?_
  refine sn ?_
  refine Sm.block ?_
  refine bi (bR a0 a1 v10 s11 x17) (fun s19 => ⟨[(0, .d (.list 1 (a0.map aT) false)), (1, .d (.list 1 (a1.map aT) false)), (5, .d (.list 32 (v10.map aJ) false)), (7, .i s11), (8, .ref 1 0 0), (9, .i s19)], [(1, ⟨32, [(aJ x17).map V.d]⟩)], 2⟩) 0 h (kA) ?_
  intro n20 s19 o21 h hd22
  unfold bR at h
  refine Sm.seq ?_
  refine sr hF ?_
  refine gv hF oM ?_
  refine gv hF oM ?_
  refine gv hF (oN (bf u61)) ?_
  refine gv hF (oB (bq)) ?_
  refine sn ?_
  refine aA hF rfl (fun hc23 => ?_) (fun hc23 => ?_)
  ·replace h := ifF hc23 h
   refine Sm.exit ?_
   replace h := aE h hd22
   obtain rfl := ac (du h)
   exact (kA)
  replace h := ifT hc23 h
  refine sk ?_
  refine Sm.seq ?_
  obtain ⟨o33, ho33, h⟩ := aa h
  rcases iX o33 with ⟨e34, rfl⟩ | ⟨v31, rfl⟩
  ·have he34 := ac h
   subst he34
   replace h := ho33
   refine Sm.block ?_
   refine Sm.seq ?_
   refine aX hF (by kernel_rfl) rfl 17 (by kernel_rfl) (by kernel_rfl) ?_
   simp only [List.take_succ_cons, List.take_zero, List.take_nil]
   refine hv hF (x := .d (.agg 32 (aJ x17))) (oL (f8 rfl fG cJ)) ?_
   refine hv hF oM ?_
   refine hv hF oM ?_
   obtain ⟨x24, hx24, h⟩ := aa h
   refine hv hF (oI (aU u36 cJ hx24)) ?_
   refine hv hF (x := .d (.agg 32 (aJ x24))) (oL (b7 fG cJ rfl rfl)) ?_
   obtain ⟨x25, hx25, h⟩ := aa h
   obtain ⟨x26, hx26, h⟩ := aa h
   refine hv hF (gZ rfl rfl rfl (iW (by kernel_rfl) (by kernel_rfl) (cG hx25) (cG hx26))) ?_
   rcases bC (x17 == x24) with hc27 | hc27
   ·replace h := ifF hc27 h
    refine hv hF (au rfl rfl hc27) ?_
    refine hp hF ?_
    refine hp hF ?_
    refine hp hF ?_
    refine hp hF ?_
    refine hp hF ?_
    refine hp hF ?_
    refine hp hF ?_
    refine hp hF ?_
    refine hp hF ?_
    refine hp hF ?_
    refine ag.last ⟨rfl, ?_⟩
    simp only [List.drop_succ_cons, List.drop_zero, List.drop_nil, List.nil_append, List.cons_append]
    refine gp hF ?_
    refine gv hF (aq rfl rfl rfl) ?_
    refine sn ?_
    refine bB hF rfl ?_
    refine Sm.skip ?_
    refine am ?_
    cases h
   replace h := ifT hc27 h
   refine hv hF (au rfl rfl hc27) ?_
   refine hv hF oM ?_
   refine hv hF oM ?_
   obtain ⟨x28, hx28, h⟩ := aa h
   refine hv hF (oI (aU u61 cO hx28)) ?_
   refine hv hF (oL (lP1 e7 rfl)) ?_
   refine hv hF (oC (dZ u24 u9 u5)) ?_
   refine hv hF oM ?_
   refine hv hF oM ?_
   obtain ⟨x29, hx29, h⟩ := aa h
   refine hv hF (oI (aU u61 cO hx29)) ?_
   refine hv hF (oL (lP1 e7 rfl)) ?_
   refine hv hF (oC (dZ u24 u9 u5)) ?_
   refine ag.last ⟨rfl, ?_⟩
   simp only [List.drop_succ_cons, List.drop_zero, List.drop_nil, List.nil_append, List.cons_append]
   refine gv hF (oB (kF rfl)) ?_
   refine gv hF (aK rfl rfl rfl) ?_
   refine sn ?_
   refine aA hF rfl (fun hc30 => ?_) (fun hc30 => ?_)
   ·replace h := ifF hc30 h
    refine Sm.skip ?_
    refine am ?_
    cases h
   replace h := ifT hc30 h
   refine sr hF ?_
   refine gv hF oA ?_
   refine sn ?_
   refine Sm.ret ?_
   replace h := gr h
   replace h := aE h hd22
   cases h
  refine ba ⟨[(0, .d (.list 1 (a0.map aT) false)), (1, .d (.list 1 (a1.map aT) false)), (5, .d (.list 32 (v10.map aJ) false)), (7, .i s11), (8, .ref 1 0 0), (9, .i s19)], [(1, ⟨32, [(aJ x17).map V.d]⟩)], 2⟩ ?_ ?_
  ·refine ab hF rfl ?_
   refine gv hF oM ?_
   obtain ⟨x32, hx32, h⟩ := aa h
   refine gv hF (oB (aW hx32)) ?_
   refine gv hF oA ?_
   refine SmG.nil ?_
   exact bm (be h hd22) (kA)
  replace h := ho33
  refine Sm.block ?_
  refine Sm.seq ?_
  refine aX hF (by kernel_rfl) rfl 17 (by kernel_rfl) (by kernel_rfl) ?_
  simp only [List.take_succ_cons, List.take_zero, List.take_nil]
  refine hv hF (x := .d (.agg 32 (aJ x17))) (oL (f8 rfl fG cJ)) ?_
  refine hv hF oM ?_
  refine hv hF oM ?_
  obtain ⟨x24, hx24, h⟩ := aa h
  refine hv hF (oI (aU u36 cJ hx24)) ?_
  refine hv hF (x := .d (.agg 32 (aJ x24))) (oL (b7 fG cJ rfl rfl)) ?_
  obtain ⟨x25, hx25, h⟩ := aa h
  obtain ⟨x26, hx26, h⟩ := aa h
  refine hv hF (gZ rfl rfl rfl (iW (by kernel_rfl) (by kernel_rfl) (cG hx25) (cG hx26))) ?_
  rcases bC (x17 == x24) with hc27 | hc27
  ·replace h := ifF hc27 h
   refine hv hF (au rfl rfl hc27) ?_
   refine hp hF ?_
   refine hp hF ?_
   refine hp hF ?_
   refine hp hF ?_
   refine hp hF ?_
   refine hp hF ?_
   refine hp hF ?_
   refine hp hF ?_
   refine hp hF ?_
   refine hp hF ?_
   refine ag.last ⟨rfl, ?_⟩
   simp only [List.drop_succ_cons, List.drop_zero, List.drop_nil, List.nil_append, List.cons_append]
   refine gp hF ?_
   refine gv hF (aq rfl rfl rfl) ?_
   refine sn ?_
   refine bB hF rfl ?_
   refine Sm.skip ?_
   refine am ?_
   obtain rfl := ac (du h)
   exact (kA)
  replace h := ifT hc27 h
  refine hv hF (au rfl rfl hc27) ?_
  refine hv hF oM ?_
  refine hv hF oM ?_
  obtain ⟨x28, hx28, h⟩ := aa h
  refine hv hF (oI (aU u61 cO hx28)) ?_
  refine hv hF (oL (lP1 e7 rfl)) ?_
  refine hv hF (oC (dZ u24 u9 u5)) ?_
  refine hv hF oM ?_
  refine hv hF oM ?_
  obtain ⟨x29, hx29, h⟩ := aa h
  refine hv hF (oI (aU u61 cO hx29)) ?_
  refine hv hF (oL (lP1 e7 rfl)) ?_
  refine hv hF (oC (dZ u24 u9 u5)) ?_
  refine ag.last ⟨rfl, ?_⟩
  simp only [List.drop_succ_cons, List.drop_zero, List.drop_nil, List.nil_append, List.cons_append]
  refine gv hF (oB (kF rfl)) ?_
  refine gv hF (aK rfl rfl rfl) ?_
  refine sn ?_
  refine aA hF rfl (fun hc30 => ?_) (fun hc30 => ?_)
  ·replace h := ifF hc30 h
   refine Sm.skip ?_
   refine am ?_
   obtain rfl := ac (du h)
   exact (kA)
  replace h := ifT hc30 h
  refine sr hF ?_
  refine gv hF oA ?_
  refine sn ?_
  refine Sm.ret ?_
  cases h
 refine ba ⟨[], [], 1⟩ ?_ ?_
 ·refine Sm.seq ?_
  refine ab hF rfl ?_
  refine gv hF oA ?_
  refine sn ?_
  refine Sm.ret ?_
  obtain rfl := ac h
  exact bE rfl rfl
 replace h := ho40
 refine sr hF ?_
 refine gv hF oA ?_
 refine sn ?_
 refine Sm.block ?_
 refine bi (ee a0 a1 v10) (fun s11 => ⟨[(0, .d (.list 1 (a0.map aT) false)), (1, .d (.list 1 (a1.map aT) false)), (5, .d (.list 32 (v10.map aJ) false)), (7, .i s11)], [], 1⟩) 0 h (kA) ?_
 intro n12 s11 o13 h hd14
 unfold ee at h
 refine Sm.seq ?_
 refine sr hF ?_
 refine gv hF oM ?_
 refine gv hF oM ?_
 refine gv hF (oN (bf u61)) ?_
 refine gv hF (oB (bq)) ?_
 refine sn ?_
 refine aA hF rfl (fun hc15 => ?_) (fun hc15 => ?_)
 ·replace h := ifF hc15 h
  refine Sm.exit ?_
  replace h := aE h hd14
  obtain rfl := ac (du h)
  exact (kA)
 replace h := ifT hc15 h
 refine sk ?_
 refine Sm.seq ?_
 obtain ⟨o37, ho37, h⟩ := aa h
 rcases iX o37 with ⟨e38, rfl⟩ | ⟨v35, rfl⟩
 ·have he38 := ac h
  subst he38
  replace h := ho37
  refine Sm.block ?_
  refine sr hF ?_
  refine gv hF oM ?_
  refine gv hF oM ?_
  obtain ⟨x16, hx16, h⟩ := aa h
  refine gv hF (oI (aU u61 cO hx16)) ?_
  refine gv hF (oL (lP1 e7 rfl)) ?_
  obtain ⟨x17, hx17, h⟩ := aa h
  refine SmG.call hF rfl rfl (by kernel_rfl) rfl rfl rfl (fk hx17) ?_
  refine SmG.new hF rfl rfl rfl (aO rfl jp) ?_
  obtain ⟨x18, hx18, h⟩ := aa h
  refine SmG.store hF rfl rfl rfl rfl rfl (jw rfl rfl cJ rfl (cG hx18)) ?_
  refine sn ?_
  refine sr hF ?_
  refine gv hF oA ?_
  refine sn ?_
  refine Sm.block ?_
  refine bi (bR a0 a1 v10 s11 x17) (fun s19 => ⟨[(0, .d (.list 1 (a0.map aT) false)), (1, .d (.list 1 (a1.map aT) false)), (5, .d (.list 32 (v10.map aJ) false)), (7, .i s11), (8, .ref 1 0 0), (9, .i s19)], [(1, ⟨32, [(aJ x17).map V.d]⟩)], 2⟩) 0 h (kA) ?_
  intro n20 s19 o21 h hd22
  unfold bR at h
  refine Sm.seq ?_
  refine sr hF ?_
  refine gv hF oM ?_
  refine gv hF oM ?_
  refine gv hF (oN (bf u61)) ?_
  refine gv hF (oB (bq)) ?_
  refine sn ?_
  refine aA hF rfl (fun hc23 => ?_) (fun hc23 => ?_)
  ·replace h := ifF hc23 h
   refine Sm.exit ?_
   replace h := aE h hd22
   cases h
  replace h := ifT hc23 h
  refine sk ?_
  refine Sm.seq ?_
  obtain ⟨o33, ho33, h⟩ := aa h
  rcases iX o33 with ⟨e34, rfl⟩ | ⟨v31, rfl⟩
  ·have he34 := ac h
   subst he34
   replace h := ho33
   refine Sm.block ?_
   refine Sm.seq ?_
   refine aX hF (by kernel_rfl) rfl 17 (by kernel_rfl) (by kernel_rfl) ?_
   simp only [List.take_succ_cons, List.take_zero, List.take_nil]
   refine hv hF (x := .d (.agg 32 (aJ x17))) (oL (f8 rfl fG cJ)) ?_
   refine hv hF oM ?_
   refine hv hF oM ?_
   obtain ⟨x24, hx24, h⟩ := aa h
   refine hv hF (oI (aU u36 cJ hx24)) ?_
   refine hv hF (x := .d (.agg 32 (aJ x24))) (oL (b7 fG cJ rfl rfl)) ?_
   obtain ⟨x25, hx25, h⟩ := aa h
   obtain ⟨x26, hx26, h⟩ := aa h
   refine hv hF (gZ rfl rfl rfl (iW (by kernel_rfl) (by kernel_rfl) (cG hx25) (cG hx26))) ?_
   rcases bC (x17 == x24) with hc27 | hc27
   ·replace h := ifF hc27 h
    refine hv hF (au rfl rfl hc27) ?_
    refine hp hF ?_
    refine hp hF ?_
    refine hp hF ?_
    refine hp hF ?_
    refine hp hF ?_
    refine hp hF ?_
    refine hp hF ?_
    refine hp hF ?_
    refine hp hF ?_
    refine hp hF ?_
    refine ag.last ⟨rfl, ?_⟩
    simp only [List.drop_succ_cons, List.drop_zero, List.drop_nil, List.nil_append, List.cons_append]
    refine gp hF ?_
    refine gv hF (aq rfl rfl rfl) ?_
    refine sn ?_
    refine bB hF rfl ?_
    refine Sm.skip ?_
    refine am ?_
    cases h
   replace h := ifT hc27 h
   refine hv hF (au rfl rfl hc27) ?_
   refine hv hF oM ?_
   refine hv hF oM ?_
   obtain ⟨x28, hx28, h⟩ := aa h
   refine hv hF (oI (aU u61 cO hx28)) ?_
   refine hv hF (oL (lP1 e7 rfl)) ?_
   refine hv hF (oC (dZ u24 u9 u5)) ?_
   refine hv hF oM ?_
   refine hv hF oM ?_
   obtain ⟨x29, hx29, h⟩ := aa h
   refine hv hF (oI (aU u61 cO hx29)) ?_
   refine hv hF (oL (lP1 e7 rfl)) ?_
   refine hv hF (oC (dZ u24 u9 u5)) ?_
   refine ag.last ⟨rfl, ?_⟩
   simp only [List.drop_succ_cons, List.drop_zero, List.drop_nil, List.nil_append, List.cons_append]
   refine gv hF (oB (kF rfl)) ?_
   refine gv hF (aK rfl rfl rfl) ?_
   refine sn ?_
   refine aA hF rfl (fun hc30 => ?_) (fun hc30 => ?_)
   ·replace h := ifF hc30 h
    refine Sm.skip ?_
    refine am ?_
    cases h
   replace h := ifT hc30 h
   refine sr hF ?_
   refine gv hF oA ?_
   refine sn ?_
   refine Sm.ret ?_
   replace h := gr h
   replace h := aE h hd22
   replace h := gr h
   replace h := aE h hd14
   cases h
  refine ba ⟨[(0, .d (.list 1 (a0.map aT) false)), (1, .d (.list 1 (a1.map aT) false)), (5, .d (.list 32 (v10.map aJ) false)), (7, .i s11), (8, .ref 1 0 0), (9, .i s19)], [(1, ⟨32, [(aJ x17).map V.d]⟩)], 2⟩ ?_ ?_
  ·refine ab hF rfl ?_
   refine gv hF oM ?_
   obtain ⟨x32, hx32, h⟩ := aa h
   refine gv hF (oB (aW hx32)) ?_
   refine gv hF oA ?_
   refine SmG.nil ?_
   exact bm (be h hd22) (kA)
  replace h := ho33
  refine Sm.block ?_
  refine Sm.seq ?_
  refine aX hF (by kernel_rfl) rfl 17 (by kernel_rfl) (by kernel_rfl) ?_
  simp only [List.take_succ_cons, List.take_zero, List.take_nil]
  refine hv hF (x := .d (.agg 32 (aJ x17))) (oL (f8 rfl fG cJ)) ?_
  refine hv hF oM ?_
  refine hv hF oM ?_
  obtain ⟨x24, hx24, h⟩ := aa h
  refine hv hF (oI (aU u36 cJ hx24)) ?_
  refine hv hF (x := .d (.agg 32 (aJ x24))) (oL (b7 fG cJ rfl rfl)) ?_
  obtain ⟨x25, hx25, h⟩ := aa h
  obtain ⟨x26, hx26, h⟩ := aa h
  refine hv hF (gZ rfl rfl rfl (iW (by kernel_rfl) (by kernel_rfl) (cG hx25) (cG hx26))) ?_
  rcases bC (x17 == x24) with hc27 | hc27
  ·replace h := ifF hc27 h
   refine hv hF (au rfl rfl hc27) ?_
   refine hp hF ?_
   refine hp hF ?_
   refine hp hF ?_
   refine hp hF ?_
   refine hp hF ?_
   refine hp hF ?_
   refine hp hF ?_
   refine hp hF ?_
   refine hp hF ?_
   refine hp hF ?_
   refine ag.last ⟨rfl, ?_⟩
   simp only [List.drop_succ_cons, List.drop_zero, List.drop_nil, List.nil_append, List.cons_append]
   refine gp hF ?_
   refine gv hF (aq rfl rfl rfl) ?_
   refine sn ?_
   refine bB hF rfl ?_
   refine Sm.skip ?_
   refine am ?_
   obtain rfl := ac (du h)
   exact (kA)
  replace h := ifT hc27 h
  refine hv hF (au rfl rfl hc27) ?_
  refine hv hF oM ?_
  refine hv hF oM ?_
  obtain ⟨x28, hx28, h⟩ := aa h
  refine hv hF (oI (aU u61 cO hx28)) ?_
  refine hv hF (oL (lP1 e7 rfl)) ?_
  refine hv hF (oC (dZ u24 u9 u5)) ?_
  refine hv hF oM ?_
  refine hv hF oM ?_
  obtain ⟨x29, hx29, h⟩ := aa h
  refine hv hF (oI (aU u61 cO hx29)) ?_
  refine hv hF (oL (lP1 e7 rfl)) ?_
  refine hv hF (oC (dZ u24 u9 u5)) ?_
  refine ag.last ⟨rfl, ?_⟩
  simp only [List.drop_succ_cons, List.drop_zero, List.drop_nil, List.nil_append, List.cons_append]
  refine gv hF (oB (kF rfl)) ?_
  refine gv hF (aK rfl rfl rfl) ?_
  refine sn ?_
  refine aA hF rfl (fun hc30 => ?_) (fun hc30 => ?_)
  ·replace h := ifF hc30 h
   refine Sm.skip ?_
   refine am ?_
   obtain rfl := ac (du h)
   exact (kA)
  replace h := ifT hc30 h
  refine sr hF ?_
  refine gv hF oA ?_
  refine sn ?_
  refine Sm.ret ?_
  cases h
 refine ba ⟨[(0, .d (.list 1 (a0.map aT) false)), (1, .d (.list 1 (a1.map aT) false)), (5, .d (.list 32 (v10.map aJ) false)), (7, .i s11)], [], 2⟩ ?_ ?_
 ·refine ab hF rfl ?_
  refine gv hF oM ?_
  obtain ⟨x36, hx36, h⟩ := aa h
  refine gv hF (oB (aW hx36)) ?_
  refine gv hF oA ?_
  refine SmG.nil ?_
  exact bm (be h hd14) (aL (kA (e := [(0, .d (.list 1 (a0.map aT) false)), (1, .d (.list 1 (a1.map aT) false)), (5, .d (.list 32 (v10.map aJ) false)), (7, .i x36)]) (g := []) (m := 2)) (xA 1))
 replace h := ho37
 refine Sm.block ?_
 refine sr hF ?_
 refine gv hF oM ?_
 refine gv hF oM ?_
 obtain ⟨x16, hx16, h⟩ := aa h
 refine gv hF (oI (aU u61 cO hx16)) ?_
 refine gv hF (oL (lP1 e7 rfl)) ?_
 obtain ⟨x17, hx17, h⟩ := aa h
 refine SmG.call hF rfl rfl (by kernel_rfl) rfl rfl rfl (fk hx17) ?_
 refine SmG.new hF rfl rfl rfl (aO rfl jp) ?_
 obtain ⟨x18, hx18, h⟩ := aa h
 refine SmG.store hF rfl rfl rfl rfl rfl (jw rfl rfl cJ rfl (cG hx18)) ?_
 refine sn ?_
 refine sr hF ?_
 refine gv hF oA ?_
 refine sn ?_
 refine Sm.block ?_
 refine bi (bR a0 a1 v10 s11 x17) (fun s19 => ⟨[(0, .d (.list 1 (a0.map aT) false)), (1, .d (.list 1 (a1.map aT) false)), (5, .d (.list 32 (v10.map aJ) false)), (7, .i s11), (8, .ref 1 0 0), (9, .i s19)], [(1, ⟨32, [(aJ x17).map V.d]⟩)], 2⟩) 0 h (kA) ?_
 intro n20 s19 o21 h hd22
 unfold bR at h
 refine Sm.seq ?_
 refine sr hF ?_
 refine gv hF oM ?_
 refine gv hF oM ?_
 refine gv hF (oN (bf u61)) ?_
 refine gv hF (oB (bq)) ?_
 refine sn ?_
 refine aA hF rfl (fun hc23 => ?_) (fun hc23 => ?_)
 ·replace h := ifF hc23 h
  refine Sm.exit ?_
  replace h := aE h hd22
  obtain rfl := ac (du h)
  exact (kA)
 replace h := ifT hc23 h
 refine sk ?_
 refine Sm.seq ?_
 obtain ⟨o33, ho33, h⟩ := aa h
 rcases iX o33 with ⟨e34, rfl⟩ | ⟨v31, rfl⟩
 ·have he34 := ac h
  subst he34
  replace h := ho33
  refine Sm.block ?_
  refine Sm.seq ?_
  refine aX hF (by kernel_rfl) rfl 17 (by kernel_rfl) (by kernel_rfl) ?_
  simp only [List.take_succ_cons, List.take_zero, List.take_nil]
  refine hv hF (x := .d (.agg 32 (aJ x17))) (oL (f8 rfl fG cJ)) ?_
  refine hv hF oM ?_
  refine hv hF oM ?_
  obtain ⟨x24, hx24, h⟩ := aa h
  refine hv hF (oI (aU u36 cJ hx24)) ?_
  refine hv hF (x := .d (.agg 32 (aJ x24))) (oL (b7 fG cJ rfl rfl)) ?_
  obtain ⟨x25, hx25, h⟩ := aa h
  obtain ⟨x26, hx26, h⟩ := aa h
  refine hv hF (gZ rfl rfl rfl (iW (by kernel_rfl) (by kernel_rfl) (cG hx25) (cG hx26))) ?_
  rcases bC (x17 == x24) with hc27 | hc27
  ·replace h := ifF hc27 h
   refine hv hF (au rfl rfl hc27) ?_
   refine hp hF ?_
   refine hp hF ?_
   refine hp hF ?_
   refine hp hF ?_
   refine hp hF ?_
   refine hp hF ?_
   refine hp hF ?_
   refine hp hF ?_
   refine hp hF ?_
   refine hp hF ?_
   refine ag.last ⟨rfl, ?_⟩
   simp only [List.drop_succ_cons, List.drop_zero, List.drop_nil, List.nil_append, List.cons_append]
   refine gp hF ?_
   refine gv hF (aq rfl rfl rfl) ?_
   refine sn ?_
   refine bB hF rfl ?_
   refine Sm.skip ?_
   refine am ?_
   cases h
  replace h := ifT hc27 h
  refine hv hF (au rfl rfl hc27) ?_
  refine hv hF oM ?_
  refine hv hF oM ?_
  obtain ⟨x28, hx28, h⟩ := aa h
  refine hv hF (oI (aU u61 cO hx28)) ?_
  refine hv hF (oL (lP1 e7 rfl)) ?_
  refine hv hF (oC (dZ u24 u9 u5)) ?_
  refine hv hF oM ?_
  refine hv hF oM ?_
  obtain ⟨x29, hx29, h⟩ := aa h
  refine hv hF (oI (aU u61 cO hx29)) ?_
  refine hv hF (oL (lP1 e7 rfl)) ?_
  refine hv hF (oC (dZ u24 u9 u5)) ?_
  refine ag.last ⟨rfl, ?_⟩
  simp only [List.drop_succ_cons, List.drop_zero, List.drop_nil, List.nil_append, List.cons_append]
  refine gv hF (oB (kF rfl)) ?_
  refine gv hF (aK rfl rfl rfl) ?_
  refine sn ?_
  refine aA hF rfl (fun hc30 => ?_) (fun hc30 => ?_)
  ·replace h := ifF hc30 h
   refine Sm.skip ?_
   refine am ?_
   cases h
  replace h := ifT hc30 h
  refine sr hF ?_
  refine gv hF oA ?_
  refine sn ?_
  refine Sm.ret ?_
  replace h := gr h
  replace h := aE h hd22
  cases h
 refine ba ⟨[(0, .d (.list 1 (a0.map aT) false)), (1, .d (.list 1 (a1.map aT) false)), (5, .d (.list 32 (v10.map aJ) false)), (7, .i s11), (8, .ref 1 0 0), (9, .i s19)], [(1, ⟨32, [(aJ x17).map V.d]⟩)], 2⟩ ?_ ?_
 ·refine ab hF rfl ?_
  refine gv hF oM ?_
  obtain ⟨x32, hx32, h⟩ := aa h
  refine gv hF (oB (aW hx32)) ?_
  refine gv hF oA ?_
  refine SmG.nil ?_
  exact bm (be h hd22) (kA)
 replace h := ho33
 refine Sm.block ?_
 refine Sm.seq ?_
 refine aX hF (by kernel_rfl) rfl 17 (by kernel_rfl) (by kernel_rfl) ?_
 simp only [List.take_succ_cons, List.take_zero, List.take_nil]
 refine hv hF (x := .d (.agg 32 (aJ x17))) (oL (f8 rfl fG cJ)) ?_
 refine hv hF oM ?_
 refine hv hF oM ?_
 obtain ⟨x24, hx24, h⟩ := aa h
 refine hv hF (oI (aU u36 cJ hx24)) ?_
 refine hv hF (x := .d (.agg 32 (aJ x24))) (oL (b7 fG cJ rfl rfl)) ?_
 obtain ⟨x25, hx25, h⟩ := aa h
 obtain ⟨x26, hx26, h⟩ := aa h
 refine hv hF (gZ rfl rfl rfl (iW (by kernel_rfl) (by kernel_rfl) (cG hx25) (cG hx26))) ?_
 rcases bC (x17 == x24) with hc27 | hc27
 ·replace h := ifF hc27 h
  refine hv hF (au rfl rfl hc27) ?_
  refine hp hF ?_
  refine hp hF ?_
  refine hp hF ?_
  refine hp hF ?_
  refine hp hF ?_
  refine hp hF ?_
  refine hp hF ?_
  refine hp hF ?_
  refine hp hF ?_
  refine hp hF ?_
  refine ag.last ⟨rfl, ?_⟩
  simp only [List.drop_succ_cons, List.drop_zero, List.drop_nil, List.nil_append, List.cons_append]
  refine gp hF ?_
  refine gv hF (aq rfl rfl rfl) ?_
  refine sn ?_
  refine bB hF rfl ?_
  refine Sm.skip ?_
  refine am ?_
  obtain rfl := ac (du h)
  exact (kA)
 replace h := ifT hc27 h
 refine hv hF (au rfl rfl hc27) ?_
 refine hv hF oM ?_
 refine hv hF oM ?_
 obtain ⟨x28, hx28, h⟩ := aa h
 refine hv hF (oI (aU u61 cO hx28)) ?_
 refine hv hF (oL (lP1 e7 rfl)) ?_
 refine hv hF (oC (dZ u24 u9 u5)) ?_
 refine hv hF oM ?_
 refine hv hF oM ?_
 obtain ⟨x29, hx29, h⟩ := aa h
 refine hv hF (oI (aU u61 cO hx29)) ?_
 refine hv hF (oL (lP1 e7 rfl)) ?_
 refine hv hF (oC (dZ u24 u9 u5)) ?_
 refine ag.last ⟨rfl, ?_⟩
 simp only [List.drop_succ_cons, List.drop_zero, List.drop_nil, List.nil_append, List.cons_append]
 refine gv hF (oB (kF rfl)) ?_
 refine gv hF (aK rfl rfl rfl) ?_
 refine sn ?_
 refine aA hF rfl (fun hc30 => ?_) (fun hc30 => ?_)
 ·replace h := ifF hc30 h
  refine Sm.skip ?_
  refine am ?_
  obtain rfl := ac (du h)
  exact (kA)
 replace h := ifT hc30 h
 refine sr hF ?_
 refine gv hF oA ?_
 refine sn ?_
 refine Sm.ret ?_
 cases h
noncomputable def cS (a0 : List Ps) (a1 : List Int) (s1 : (Int × (List Rs))) : Option ((Int × (List Rs)) ⊕ List Rs) :=
 bif (decide (s1.1 < (a0.length : Int))) then (
  ob (arI .i64 (7 * s1.1)) fun x6 =>
  ob ((
   bif (decide (0 < (a1.length : Int))) then (
    ob (cN s1.1 (a1.length : Int)) fun x8 =>
    ob (idx a1 x8) fun x9 =>
    ob (arI .i64 x9) fun x10 =>
    ob (arI .i64 (x10 + s1.1)) fun x11 =>
    some x11
   ) else (
    some x6
   )
   : Option Int)) fun v12 =>
  ob (cN v12 3) fun x13 =>
  ob (arI .i64 (1 + x13)) fun x14 =>
  ob (jB .i64 v12 3) fun x15 =>
  ob (app s1.2 [(⟨x14, x15⟩ : Rs)]) fun x16 =>
  ob (arI .i64 (s1.1 + 1)) fun x17 =>
  some (.inl (x17, x16))
 ) else (
  some (.inr s1.2)
 )
noncomputable def eQ (a0 : List Ps) (a1 : List Int) : Option (List Rs) :=
 ob ((
  bx (cS a0 a1) (0, ([] : List Rs))
  : Option (List Rs))) fun v18 =>
 some v18
set_option maxHeartbeats 4000000 in
theorem lW {a0 : List Ps} {a1 : List Int} {r : List Rs} (h : eQ a0 a1 = some r) : ak Tryd.prog HG 31 [.list 5 (a0.map Ps.row) false, .list 1 (a1.map (af .u16)) false] (.list 2 (r.map Rs.row) false) := by
 unfold eQ at h
 refine ak.of Tryd.func31 rfl Tryd.ntmps31 (by simp) ?_
 intro F hF h0 hT
 show Sm F _ _ ⟨[(0, .d (.list 5 (a0.map Ps.row) false)), (1, .d (.list 1 (a1.map (af .u16)) false))], [], 0⟩
 refine sr hF ?_
 refine gv hF oA ?_
 refine sn ?_
 refine sr hF ?_
 refine gv hF (x := .d (.list 2 (([] : List Rs).map Rs.row) true)) (oS (dR u41 fF)) ?_
 refine gv hF oA ?_
 refine sn ?_
 refine Sm.seq ?_
 obtain ⟨v18, hv18, h⟩ := aa h
 refine ba ⟨[(5, .d (.list 2 (v18.map Rs.row) false))], [], 1⟩ ?_ ?_
 ·refine Sm.seq ?_
  refine ab hF rfl ?_
  refine gv hF oM ?_
  refine gv hF oA ?_
  refine sn ?_
  refine Sm.ret ?_
  obtain rfl := ac h
  exact bE rfl rfl
 replace h := hv18
 refine sr hF ?_
 refine gv hF oA ?_
 refine sn ?_
 refine Sm.block ?_
 refine Sm.to (kA (e := [(0, .d (.list 5 (a0.map Ps.row) false)), (1, .d (.list 1 (a1.map (af .u16)) false)), (5, .d (.list 2 ([].map Rs.row) true)), (6, .i 0)]) (g := []) (m := 0)) ?_
 refine Sm.own (t := 5) 2 rfl ?_
 refine bi (cS a0 a1) (fun s1 => ⟨[(0, .d (.list 5 (a0.map Ps.row) false)), (1, .d (.list 1 (a1.map (af .u16)) false)), (5, .sref 0 0 (s1.2.map Rs.row).length), (6, .i s1.1)], [(0, dB 2 (s1.2.map Rs.row))], 1⟩) (0, ([] : List Rs)) h (kA) ?_
 intro n2 s1 o3 h hd4
 unfold cS at h
 refine Sm.seq ?_
 refine sr hF ?_
 refine gv hF oM ?_
 refine gv hF oM ?_
 refine gv hF (oN (bf u40)) ?_
 refine gv hF (oB (bq)) ?_
 refine sn ?_
 refine aA hF rfl (fun hc5 => ?_) (fun hc5 => ?_)
 ·replace h := ifF hc5 h
  refine Sm.exit ?_
  replace h := aE h hd4
  obtain rfl := ac h
  exact (aL (kA (e := [(5, .sref 0 0 (s1.2.map Rs.row).length)]) (g := [(0, dB 2 (s1.2.map Rs.row))]) (m := 1)) (fA (l := 0) (sz := 2) (s1.2.map Rs.row)))
 replace h := ifT hc5 h
 refine sk ?_
 refine Sm.seq ?_
 refine Sm.block ?_
 refine sr hF ?_
 refine gv hF oM ?_
 obtain ⟨x6, hx6, h⟩ := aa h
 refine gv hF (oB (iP hx6)) ?_
 refine gv hF oA ?_
 refine sn ?_
 refine Sm.seq ?_
 obtain ⟨v12, hv12, h⟩ := aa h
 refine ba ⟨[(0, .d (.list 5 (a0.map Ps.row) false)), (1, .d (.list 1 (a1.map (af .u16)) false)), (5, .sref 0 0 (s1.2.map Rs.row).length), (6, .i s1.1), (7, .i v12)], [(0, dB 2 (s1.2.map Rs.row))], 1⟩ ?_ ?_
 ·refine ab hF rfl ?_
  refine gv hF oM ?_
  refine gv hF oM ?_
  obtain ⟨x13, hx13, h⟩ := aa h
  refine gv hF (oB (bU hx13)) ?_
  obtain ⟨x14, hx14, h⟩ := aa h
  refine gv hF (oB (aW hx14)) ?_
  refine gv hF oM ?_
  obtain ⟨x15, hx15, h⟩ := aa h
  refine gv hF (oB (kK hx15)) ?_
  refine gv hF (x := .d (.agg 2 [.i x14, .i x15])) (bh rfl u35 (by kernel_rfl) rfl (br (n := 2) pK Ao rfl rfl)) ?_
  refine gv hF (x := .d (.list 2 ([(⟨x14, x15⟩ : Rs)].map Rs.row) true)) (oS (ax u41 fF pK rfl rfl (PartsQ.cons rfl (PartsQ.nil _)) rfl)) ?_
  obtain ⟨x16, hx16, h⟩ := aa h
  refine aY hF Fj rfl (ys := [(⟨x14, x15⟩ : Rs)]) (row := Rs.row) rfl rfl rfl rfl rfl rfl rfl rfl (.inl rfl) hx16 (by (repeat' first | exact bz _ | refine bn ?_ | refine ap ?_ (aQ _ _ _) | refine ap ?_ (aQ _ _ [_]) | refine ap ?_ (bJ (by rfl)))) ?_
  refine gv hF oA ?_
  refine SmG.nil ?_
  refine am ?_
  refine ae ?_
  refine ab hF rfl ?_
  refine gv hF oM ?_
  obtain ⟨x17, hx17, h⟩ := aa h
  refine gv hF (oB (aW hx17)) ?_
  refine gv hF oA ?_
  refine SmG.nil ?_
  exact bm (be h hd4) (kA)
 replace h := hv12
 refine sr hF ?_
 refine gv hF oM ?_
 refine gv hF (oN (bf u45)) ?_
 refine gv hF (oB (jk)) ?_
 refine sn ?_
 refine aA hF rfl (fun hc7 => ?_) (fun hc7 => ?_)
 ·replace h := ifF hc7 h
  refine Sm.skip ?_
  obtain rfl := ac h
  exact (kA)
 replace h := ifT hc7 h
 refine ab hF rfl ?_
 refine gv hF oM ?_
 refine gv hF oM ?_
 refine gv hF oM ?_
 refine gv hF (oN (bf u45)) ?_
 obtain ⟨x8, hx8, h⟩ := aa h
 refine gv hF (oB (bU hx8)) ?_
 obtain ⟨x9, hx9, h⟩ := aa h
 refine gv hF (oI (aU u45 qS hx9)) ?_
 refine gv hF (oL (lP1 uU rfl)) ?_
 obtain ⟨x10, hx10, h⟩ := aa h
 refine gv hF (oC (kc u44 u3 hx10)) ?_
 refine gv hF oM ?_
 obtain ⟨x11, hx11, h⟩ := aa h
 refine gv hF (oB (aW hx11)) ?_
 refine gv hF oA ?_
 refine SmG.nil ?_
 obtain rfl := ac h
 exact (kA)
end
section
open Go.RowKit
set_option maxRecDepth 100000
noncomputable def iw (a0 : Int) (a1 : Int) (a2 : Int) : Option Bool :=
 bif (decide (a1 ≤ a0)) then (
  some (decide (a0 ≤ a2))
 ) else (
  some false
 )
set_option maxHeartbeats 4000000 in
theorem qi {a0 : Int} {a1 : Int} {a2 : Int} {r : Bool} (h : iw a0 a1 a2 = some r) : ak Tryd.prog HG 88 [.i a0, .ptr 1 [.i a1], .ptr 1 [.i a2]] (.v (.bool r)) := by
 unfold iw at h
 refine ak.of Tryd.func88 rfl Tryd.ntmps88 (by simp) ?_
 intro F hF h0 hT
 show Sm F _ _ ⟨[(0, .i a0), (1, .d (.ptr 1 [.i a1])), (2, .d (.ptr 1 [.i a2]))], [], 0⟩
 refine sr hF ?_
 refine gv hF oA ?_
 refine sn ?_
 refine sr hF ?_
 refine gv hF (oL (lP1 ag3 rfl)) ?_
 refine gv hF oM ?_
 refine gv hF (oB (vC)) ?_
 rcases kT (decide (a1 ≤ a0)) with hc1 | hc1
 ·replace h := ifT hc1 h
  refine gv hF (au rfl rfl hc1) ?_
  refine gv hF oM ?_
  refine gv hF (oL (lP1 ag3 rfl)) ?_
  refine gv hF (oB (vC)) ?_
  refine gv hF (aK rfl rfl rfl) ?_
  refine gv hF oA ?_
  refine sn ?_
  refine Sm.ret ?_
  obtain rfl := ac h
  exact bE rfl rfl
 replace h := ifF hc1 h
 refine gv hF (au rfl rfl hc1) ?_
 refine gp hF ?_
 refine gp hF ?_
 refine gp hF ?_
 refine gv hF (aq rfl rfl rfl) ?_
 refine gv hF oA ?_
 refine sn ?_
 refine Sm.ret ?_
 obtain rfl := ac h
 exact bE rfl rfl
noncomputable def iB (a0 : Int) (a1 : Int) : Option (FnV Tryd.prog HG (α := Int) (β := Bool) (fun x => [.i x]) (fun y => .v (.bool y))) :=
 some (⟨88, [.ptr 1 [.i a0], .ptr 1 [.i a1]], fun x => iw x a0 a1, by kernel_rfl, fun x y h => qi h⟩ : (FnV Tryd.prog HG (α := Int) (β := Bool) (fun x => [.i x]) (fun y => .v (.bool y))))
set_option maxHeartbeats 4000000 in
theorem kY {a0 : Int} {a1 : Int} {r : (FnV Tryd.prog HG (α := Int) (β := Bool) (fun x => [.i x]) (fun y => .v (.bool y)))} (h : iB a0 a1 = some r) : ak Tryd.prog HG 67 [.i a0, .i a1] (.fn r.g r.c) := by
 unfold iB at h
 refine ak.of Tryd.func67 rfl Tryd.ntmps67 (by simp) ?_
 intro F hF h0 hT
 show Sm F _ _ ⟨[(0, .i a0), (1, .i a1)], [], 0⟩
 refine sr hF ?_
 refine bZ hF yy ?_
 refine bZ hF yy ?_
 refine gv hF oA ?_
 refine sn ?_
 refine sr hF ?_
 refine gv hF (gX rfl rfl) ?_
 refine gv hF oA ?_
 refine sn ?_
 refine Sm.ret ?_
 obtain rfl := ac h
 exact bE rfl rfl
noncomputable def b9 (a0 : List Int) (a1 : (FnV Tryd.prog HG (α := Int) (β := Bool) (fun x => [.i x]) (fun y => .v (.bool y)))) (s1 : Int) : Option (Int ⊕ (Unit ⊕ Int)) :=
 bif (decide (s1 < (a0.length : Int))) then (
  ob (idx a0 s1) fun x6 =>
  ob (a1.f x6) fun x7 =>
  bif x7 then (
   some (.inr (.inr s1))
  ) else (
   ob (arI .i64 (s1 + 1)) fun x9 =>
   some (.inl x9)
  )
 ) else (
  some (.inr (.inl ()))
 )
noncomputable def d9 (a0 : List Int) (a1 : (FnV Tryd.prog HG (α := Int) (β := Bool) (fun x => [.i x]) (fun y => .v (.bool y)))) : Option Int :=
 ob ((
  bx (b9 a0 a1) 0
  : Option (Unit ⊕ Int))) fun o11 => match o11 with
 | .inl v10 => (
  some (-1)
  )
 | .inr e12 => some e12
set_option maxHeartbeats 4000000 in
theorem jS {a0 : List Int} {a1 : (FnV Tryd.prog HG (α := Int) (β := Bool) (fun x => [.i x]) (fun y => .v (.bool y)))} {r : Int} (h : d9 a0 a1 = some r) : ak Tryd.prog HG 89 [.l a0, .fn a1.g a1.c] (.i r) := by
 unfold d9 at h
 refine ak.of Tryd.func89 rfl Tryd.ntmps89 (by simp) ?_
 intro F hF h0 hT
 show Sm F _ _ ⟨[(0, .l a0), (1, .d (.fn a1.g a1.c))], [], 0⟩
 refine sr hF ?_
 refine gv hF oA ?_
 refine sn ?_
 refine Sm.seq ?_
 obtain ⟨o11, ho11, h⟩ := aa h
 rcases iX o11 with ⟨e12, rfl⟩ | ⟨v10, rfl⟩
 ·have he12 := ac h
  subst he12
  replace h := ho11
  refine sr hF ?_
  refine gv hF oM ?_
  refine gv hF (oN (bf u30)) ?_
  refine gv hF oM ?_
  refine sn ?_
  refine Sm.block ?_
  refine bi (b9 a0 a1) (fun s1 => ⟨[(0, .l a0), (1, .d (.fn a1.g a1.c)), (7, .i (a0.length : Int)), (8, .i s1)], [], 0⟩) 0 h (kA) ?_
  intro n2 s1 o3 h hd4
  unfold b9 at h
  refine sr hF ?_
  refine gv hF (oB (bq)) ?_
  refine sn ?_
  refine Sm.seq ?_
  refine aA hF rfl (fun hc5 => ?_) (fun hc5 => ?_)
  ·replace h := ifF hc5 h
   refine Sm.exit ?_
   replace h := aE h hd4
   cases h
  replace h := ifT hc5 h
  refine sk ?_
  refine Sm.seq ?_
  refine Sm.block ?_
  refine sr hF ?_
  refine gv hF oM ?_
  refine gv hF oA ?_
  refine sn ?_
  refine sr hF ?_
  refine gv hF oM ?_
  refine gv hF oM ?_
  refine gv hF oM ?_
  obtain ⟨x6, hx6, h⟩ := aa h
  refine gv hF (oI (aU u30 sz3 hx6)) ?_
  refine gv hF (oL (lP1 ag3 rfl)) ?_
  obtain ⟨x7, hx7, h⟩ := aa h
  refine SmG.callF hF rfl rfl rfl rfl rfl rfl a1.body (a1.ok _ _ hx7) ?_
  refine sn ?_
  refine aA hF rfl (fun hc8 => ?_) (fun hc8 => ?_)
  ·replace h := ifF hc8 h
   refine Sm.skip ?_
   refine am ?_
   refine ae ?_
   refine ab hF rfl ?_
   obtain ⟨x9, hx9, h⟩ := aa h
   refine gv hF (oB (aW hx9)) ?_
   refine gv hF oM ?_
   refine SmG.nil ?_
   exact bm (be h hd4) (kA)
  replace h := ifT hc8 h
  refine sr hF ?_
  refine gv hF oM ?_
  refine gv hF oA ?_
  refine sn ?_
  refine Sm.ret ?_
  replace h := aE h hd4
  replace h := gr h
  obtain rfl := ac h
  exact bE rfl rfl
 refine ba ⟨[], [], 0⟩ ?_ ?_
 ·refine Sm.seq ?_
  refine ab hF rfl ?_
  refine gv hF oA ?_
  refine sn ?_
  refine Sm.ret ?_
  obtain rfl := ac h
  exact bE rfl rfl
 replace h := ho11
 refine sr hF ?_
 refine gv hF oM ?_
 refine gv hF (oN (bf u30)) ?_
 refine gv hF oM ?_
 refine sn ?_
 refine Sm.block ?_
 refine bi (b9 a0 a1) (fun s1 => ⟨[(0, .l a0), (1, .d (.fn a1.g a1.c)), (7, .i (a0.length : Int)), (8, .i s1)], [], 0⟩) 0 h (kA) ?_
 intro n2 s1 o3 h hd4
 unfold b9 at h
 refine sr hF ?_
 refine gv hF (oB (bq)) ?_
 refine sn ?_
 refine Sm.seq ?_
 refine aA hF rfl (fun hc5 => ?_) (fun hc5 => ?_)
 ·replace h := ifF hc5 h
  refine Sm.exit ?_
  replace h := aE h hd4
  obtain rfl := ac (du h)
  exact (kA)
 replace h := ifT hc5 h
 refine sk ?_
 refine Sm.seq ?_
 refine Sm.block ?_
 refine sr hF ?_
 refine gv hF oM ?_
 refine gv hF oA ?_
 refine sn ?_
 refine sr hF ?_
 refine gv hF oM ?_
 refine gv hF oM ?_
 refine gv hF oM ?_
 obtain ⟨x6, hx6, h⟩ := aa h
 refine gv hF (oI (aU u30 sz3 hx6)) ?_
 refine gv hF (oL (lP1 ag3 rfl)) ?_
 obtain ⟨x7, hx7, h⟩ := aa h
 refine SmG.callF hF rfl rfl rfl rfl rfl rfl a1.body (a1.ok _ _ hx7) ?_
 refine sn ?_
 refine bF hF rfl (fun hc8 => ?_) (fun hc8 => ?_)
 ·replace h := ifT hc8 h
  refine sr hF ?_
  refine gv hF oM ?_
  refine gv hF oA ?_
  refine sn ?_
  refine Sm.ret ?_
  replace h := aE h hd4
  cases h
 replace h := ifF hc8 h
 refine Sm.skip ?_
 refine am ?_
 refine ae ?_
 refine ab hF rfl ?_
 obtain ⟨x9, hx9, h⟩ := aa h
 refine gv hF (oB (aW hx9)) ?_
 refine gv hF oM ?_
 refine SmG.nil ?_
 exact bm (be h hd4) (kA)
noncomputable def cF (a0 : List Int) (a1 : (FnV Tryd.prog HG (α := Int) (β := Bool) (fun x => [.i x]) (fun y => .v (.bool y)))) : Option Bool :=
 ob (d9 a0 a1) fun x1 =>
 some (decide (0 ≤ x1))
set_option maxHeartbeats 4000000 in
theorem jd {a0 : List Int} {a1 : (FnV Tryd.prog HG (α := Int) (β := Bool) (fun x => [.i x]) (fun y => .v (.bool y)))} {r : Bool} (h : cF a0 a1 = some r) : ak Tryd.prog HG 69 [.l a0, .fn a1.g a1.c] (.v (.bool r)) := by
 unfold cF at h
 refine ak.of Tryd.func69 rfl Tryd.ntmps69 (by simp) ?_
 intro F hF h0 hT
 show Sm F _ _ ⟨[(0, .l a0), (1, .d (.fn a1.g a1.c))], [], 0⟩
 refine sr hF ?_
 refine gv hF oA ?_
 refine sn ?_
 refine sr hF ?_
 refine gv hF oM ?_
 refine gv hF oM ?_
 obtain ⟨x1, hx1, h⟩ := aa h
 refine SmG.call hF rfl rfl (by kernel_rfl) rfl rfl rfl (jS hx1) ?_
 refine gv hF (oB (oV)) ?_
 refine gv hF oA ?_
 refine sn ?_
 refine Sm.ret ?_
 obtain rfl := ac h
 exact bE rfl rfl
noncomputable def fE (a0 : Int) (a1 : (FnV Tryd.prog HG (α := Int) (β := Bool) (fun x => [.i x]) (fun y => .v (.bool y)))) : Option Bool :=
 ob (a1.f a0) fun x1 =>
 some (!x1)
set_option maxHeartbeats 4000000 in
theorem nw {a0 : Int} {a1 : (FnV Tryd.prog HG (α := Int) (β := Bool) (fun x => [.i x]) (fun y => .v (.bool y)))} {r : Bool} (h : fE a0 a1 = some r) : ak Tryd.prog HG 70 [.i a0, .ptr 1 [.fn a1.g a1.c]] (.v (.bool r)) := by
 unfold fE at h
 refine ak.of Tryd.func70 rfl Tryd.ntmps70 (by simp) ?_
 intro F hF h0 hT
 show Sm F _ _ ⟨[(0, .i a0), (1, .d (.ptr 1 [.fn a1.g a1.c]))], [], 0⟩
 refine sr hF ?_
 refine gv hF oA ?_
 refine sn ?_
 refine sr hF ?_
 refine gv hF (oL (lP1 sd rfl)) ?_
 refine gv hF oM ?_
 obtain ⟨x1, hx1, h⟩ := aa h
 refine SmG.callF hF rfl rfl rfl rfl rfl rfl a1.body (a1.ok _ _ hx1) ?_
 refine gv hF (jK rfl rfl (kB _)) ?_
 refine gv hF oA ?_
 refine sn ?_
 refine Sm.ret ?_
 obtain rfl := ac h
 exact bE rfl rfl
noncomputable def eH (a0 : List Int) (a1 : (FnV Tryd.prog HG (α := Int) (β := Bool) (fun x => [.i x]) (fun y => .v (.bool y)))) : Option Bool :=
 bif (decide ((a0.length : Int) ≤ 255)) then (
  ob (cF a0 (⟨70, [.ptr 1 [.fn a1.g a1.c]], fun x => fE x a1, by kernel_rfl, fun x y h => nw h⟩ : (FnV Tryd.prog HG (α := Int) (β := Bool) (fun x => [.i x]) (fun y => .v (.bool y))))) fun x2 =>
  some (!x2)
 ) else (
  some false
 )
set_option maxHeartbeats 4000000 in
theorem iI {a0 : List Int} {a1 : (FnV Tryd.prog HG (α := Int) (β := Bool) (fun x => [.i x]) (fun y => .v (.bool y)))} {r : Bool} (h : eH a0 a1 = some r) : ak Tryd.prog HG 68 [.l a0, .ptr 1 [.fn a1.g a1.c]] (.v (.bool r)) := by
 unfold eH at h
 refine ak.of Tryd.func68 rfl Tryd.ntmps68 (by simp) ?_
 intro F hF h0 hT
 show Sm F _ _ ⟨[(0, .l a0), (1, .d (.ptr 1 [.fn a1.g a1.c]))], [], 0⟩
 refine sr hF ?_
 refine gv hF oA ?_
 refine sn ?_
 refine sr hF ?_
 refine gv hF oM ?_
 refine gv hF (oN (bf u30)) ?_
 refine gv hF (oB (vC)) ?_
 rcases bC (decide ((a0.length : Int) ≤ 255)) with hc1 | hc1
 ·replace h := ifF hc1 h
  refine gv hF (au rfl rfl hc1) ?_
  refine gp hF ?_
  refine gp hF ?_
  refine gp hF ?_
  refine gp hF ?_
  refine gv hF (aq rfl rfl rfl) ?_
  refine gv hF oA ?_
  refine sn ?_
  refine Sm.ret ?_
  obtain rfl := ac h
  exact bE rfl rfl
 replace h := ifT hc1 h
 refine gv hF (au rfl rfl hc1) ?_
 refine gv hF oM ?_
 refine gv hF (gX rfl rfl) ?_
 obtain ⟨x2, hx2, h⟩ := aa h
 refine SmG.call hF rfl rfl (by kernel_rfl) rfl rfl rfl (jd hx2) ?_
 refine gv hF (jK rfl rfl (kB _)) ?_
 refine gv hF (aK rfl rfl rfl) ?_
 refine gv hF oA ?_
 refine sn ?_
 refine Sm.ret ?_
 obtain rfl := ac h
 exact bE rfl rfl
noncomputable def gW (a0 : Ps) (a1 : Rs) : Option Bool :=
 ob (iB 0 255) fun x1 =>
 ob (eH a0.at_ x1) fun x2 =>
 bif x2 then (
  ob (eH a0.h0 x1) fun x4 =>
  bif x4 then (
   ob (eH a0.h1 x1) fun x6 =>
   bif x6 then (
    ob (x1.f a0.rights) fun x8 =>
    bif x8 then (
     ob (x1.f a0.side) fun x10 =>
     bif x10 then (
      ob (iB 1 3) fun x12 =>
      ob (x12.f a1.out) fun x13 =>
      bif x13 then (
       ob (iB 0 2147483647) fun x15 =>
       ob (x15.f a1.n) fun x16 =>
       some x16
      ) else (
       some false
      )
     ) else (
      some false
     )
    ) else (
     some false
    )
   ) else (
    some false
   )
  ) else (
   some false
  )
 ) else (
  some false
 )
set_option maxHeartbeats 4000000 in
theorem pX {a0 : Ps} {a1 : Rs} {r : Bool} (h : gW a0 a1 = some r) : ak Tryd.prog HG 44 [.agg 5 (Ps.row a0), .agg 2 (Rs.row a1)] (.v (.bool r)) := by
 unfold gW at h
 refine ak.of Tryd.func44 rfl Tryd.ntmps44 (by simp) ?_
 intro F hF h0 hT
 show Sm F _ _ ⟨[(0, .d (.agg 5 (Ps.row a0))), (1, .d (.agg 2 (Rs.row a1)))], [], 0⟩
 refine sr hF ?_
 refine bZ hF gk ?_
 refine bZ hF gk ?_
 refine gv hF oA ?_
 refine sn ?_
 refine sr hF ?_
 obtain ⟨x1, hx1, h⟩ := aa h
 refine SmG.call hF rfl rfl (by kernel_rfl) rfl rfl rfl (kY hx1) ?_
 refine SmG.new hF rfl rfl rfl (aO rfl Dt) ?_
 refine SmG.store hF rfl rfl rfl rfl rfl (cU (rows' := [[.d (.fn x1.g x1.c)]]) rfl rfl rfl yS rfl rfl rfl) ?_
 refine sn ?_
 refine sr hF ?_
 refine dD (aL (kA (e := [(2, .d (.ptr 5 (Ps.row a0))), (3, .d (.ptr 2 (Rs.row a1))), (5, .ref 0 0 0)]) (g := [(0, ⟨1, [[.d (.fn x1.g x1.c)]]⟩)]) (m := 1)) (fA (l := 0) (sz := 1) (e := [(2, .d (.ptr 5 (Ps.row a0))), (3, .d (.ptr 2 (Rs.row a1))), (5, .d (.ptr 1 [.fn x1.g x1.c]))]) (g := []) (nx := 1) [[.fn x1.g x1.c]])) rfl ?_
 refine gv hF (gX rfl rfl) ?_
 refine gv hF oA ?_
 refine sn ?_
 refine Sm.seq ?_
 refine aX hF (by kernel_rfl) rfl 40 (by kernel_rfl) (by kernel_rfl) ?_
 simp only [List.take_succ_cons, List.take_zero, List.take_nil]
 refine hv hF oM ?_
 refine hv hF (oF (aj kQ rfl)) ?_
 refine hv hF (oL (lP1 eC rfl)) ?_
 obtain ⟨x2, hx2, h⟩ := aa h
 refine lC hF rfl rfl rfl rfl rfl rfl (by kernel_rfl) (iI hx2) ?_
 rcases bC x2 with hc3 | hc3
 ·replace h := ifF hc3 h
  refine hv hF (au rfl rfl hc3) ?_
  refine hp hF ?_
  refine hp hF ?_
  refine hp hF ?_
  refine hp hF ?_
  refine hp hF ?_
  refine hv hF (aq rfl rfl rfl) ?_
  refine hv hF oM ?_
  refine hp hF ?_
  refine hp hF ?_
  refine hp hF ?_
  refine hp hF ?_
  refine hp hF ?_
  refine hv hF (aq rfl rfl rfl) ?_
  refine hv hF oM ?_
  refine hp hF ?_
  refine hp hF ?_
  refine hp hF ?_
  refine hp hF ?_
  refine hv hF (aq rfl rfl rfl) ?_
  refine hv hF oM ?_
  refine hp hF ?_
  refine hp hF ?_
  refine hp hF ?_
  refine hp hF ?_
  refine hv hF (aq rfl rfl rfl) ?_
  refine hv hF oM ?_
  refine hp hF ?_
  refine hp hF ?_
  refine hp hF ?_
  refine hp hF ?_
  refine hv hF (aq rfl rfl rfl) ?_
  refine hv hF oM ?_
  refine hp hF ?_
  refine hp hF ?_
  refine hp hF ?_
  refine ag.last ⟨rfl, ?_⟩
  simp only [List.drop_succ_cons, List.drop_zero, List.drop_nil, List.nil_append, List.cons_append]
  refine gp hF ?_
  refine gv hF (aq rfl rfl rfl) ?_
  refine gv hF oA ?_
  refine sn ?_
  refine Sm.ret ?_
  obtain rfl := ac h
  exact bE rfl rfl
 replace h := ifT hc3 h
 refine hv hF (au rfl rfl hc3) ?_
 refine hv hF oM ?_
 refine hv hF (oF (aj eV rfl)) ?_
 refine hv hF (oI (cB u31 eJ rfl rfl)) ?_
 refine hv hF (oL (lP1 eC rfl)) ?_
 obtain ⟨x4, hx4, h⟩ := aa h
 refine lC hF rfl rfl rfl rfl rfl rfl (by kernel_rfl) (iI hx4) ?_
 refine hv hF (aK rfl rfl rfl) ?_
 rcases bC x4 with hc5 | hc5
 ·replace h := ifF hc5 h
  refine hv hF (au rfl rfl hc5) ?_
  refine hp hF ?_
  refine hp hF ?_
  refine hp hF ?_
  refine hp hF ?_
  refine hp hF ?_
  refine hv hF (aq rfl rfl rfl) ?_
  refine hv hF oM ?_
  refine hp hF ?_
  refine hp hF ?_
  refine hp hF ?_
  refine hp hF ?_
  refine hv hF (aq rfl rfl rfl) ?_
  refine hv hF oM ?_
  refine hp hF ?_
  refine hp hF ?_
  refine hp hF ?_
  refine hp hF ?_
  refine hv hF (aq rfl rfl rfl) ?_
  refine hv hF oM ?_
  refine hp hF ?_
  refine hp hF ?_
  refine hp hF ?_
  refine hp hF ?_
  refine hv hF (aq rfl rfl rfl) ?_
  refine hv hF oM ?_
  refine hp hF ?_
  refine hp hF ?_
  refine hp hF ?_
  refine ag.last ⟨rfl, ?_⟩
  simp only [List.drop_succ_cons, List.drop_zero, List.drop_nil, List.nil_append, List.cons_append]
  refine gp hF ?_
  refine gv hF (aq rfl rfl rfl) ?_
  refine gv hF oA ?_
  refine sn ?_
  refine Sm.ret ?_
  obtain rfl := ac h
  exact bE rfl rfl
 replace h := ifT hc5 h
 refine hv hF (au rfl rfl hc5) ?_
 refine hv hF oM ?_
 refine hv hF (oF (aj eV rfl)) ?_
 refine hv hF (oI (cB u31 eJ rfl rfl)) ?_
 refine hv hF (oL (lP1 eC rfl)) ?_
 obtain ⟨x6, hx6, h⟩ := aa h
 refine lC hF rfl rfl rfl rfl rfl rfl (by kernel_rfl) (iI hx6) ?_
 refine hv hF (aK rfl rfl rfl) ?_
 rcases bC x6 with hc7 | hc7
 ·replace h := ifF hc7 h
  refine hv hF (au rfl rfl hc7) ?_
  refine hp hF ?_
  refine hp hF ?_
  refine hp hF ?_
  refine hp hF ?_
  refine hv hF (aq rfl rfl rfl) ?_
  refine hv hF oM ?_
  refine hp hF ?_
  refine hp hF ?_
  refine hp hF ?_
  refine hp hF ?_
  refine hv hF (aq rfl rfl rfl) ?_
  refine hv hF oM ?_
  refine hp hF ?_
  refine hp hF ?_
  refine hp hF ?_
  refine hp hF ?_
  refine hv hF (aq rfl rfl rfl) ?_
  refine hv hF oM ?_
  refine hp hF ?_
  refine hp hF ?_
  refine hp hF ?_
  refine ag.last ⟨rfl, ?_⟩
  simp only [List.drop_succ_cons, List.drop_zero, List.drop_nil, List.nil_append, List.cons_append]
  refine gp hF ?_
  refine gv hF (aq rfl rfl rfl) ?_
  refine gv hF oA ?_
  refine sn ?_
  refine Sm.ret ?_
  obtain rfl := ac h
  exact bE rfl rfl
 replace h := ifT hc7 h
 refine hv hF (au rfl rfl hc7) ?_
 refine hv hF (oL (lP1 sd rfl)) ?_
 refine hv hF (oF (aj ow rfl)) ?_
 refine hv hF (oL (lP1 ag3 rfl)) ?_
 obtain ⟨x8, hx8, h⟩ := aa h
 refine lC hF rfl rfl rfl rfl rfl rfl x1.body (x1.ok _ _ hx8) ?_
 refine hv hF (aK rfl rfl rfl) ?_
 rcases bC x8 with hc9 | hc9
 ·replace h := ifF hc9 h
  refine hv hF (au rfl rfl hc9) ?_
  refine hp hF ?_
  refine hp hF ?_
  refine hp hF ?_
  refine hp hF ?_
  refine hv hF (aq rfl rfl rfl) ?_
  refine hv hF oM ?_
  refine hp hF ?_
  refine hp hF ?_
  refine hp hF ?_
  refine hp hF ?_
  refine hv hF (aq rfl rfl rfl) ?_
  refine hv hF oM ?_
  refine hp hF ?_
  refine hp hF ?_
  refine hp hF ?_
  refine ag.last ⟨rfl, ?_⟩
  simp only [List.drop_succ_cons, List.drop_zero, List.drop_nil, List.nil_append, List.cons_append]
  refine gp hF ?_
  refine gv hF (aq rfl rfl rfl) ?_
  refine gv hF oA ?_
  refine sn ?_
  refine Sm.ret ?_
  obtain rfl := ac h
  exact bE rfl rfl
 replace h := ifT hc9 h
 refine hv hF (au rfl rfl hc9) ?_
 refine hv hF (oL (lP1 sd rfl)) ?_
 refine hv hF (oF (aj oD rfl)) ?_
 refine hv hF (oL (lP1 ag3 rfl)) ?_
 obtain ⟨x10, hx10, h⟩ := aa h
 refine lC hF rfl rfl rfl rfl rfl rfl x1.body (x1.ok _ _ hx10) ?_
 refine hv hF (aK rfl rfl rfl) ?_
 rcases bC x10 with hc11 | hc11
 ·replace h := ifF hc11 h
  refine hv hF (au rfl rfl hc11) ?_
  refine hp hF ?_
  refine hp hF ?_
  refine hp hF ?_
  refine hp hF ?_
  refine hv hF (aq rfl rfl rfl) ?_
  refine hv hF oM ?_
  refine hp hF ?_
  refine hp hF ?_
  refine hp hF ?_
  refine ag.last ⟨rfl, ?_⟩
  simp only [List.drop_succ_cons, List.drop_zero, List.drop_nil, List.nil_append, List.cons_append]
  refine gp hF ?_
  refine gv hF (aq rfl rfl rfl) ?_
  refine gv hF oA ?_
  refine sn ?_
  refine Sm.ret ?_
  obtain rfl := ac h
  exact bE rfl rfl
 replace h := ifT hc11 h
 refine hv hF (au rfl rfl hc11) ?_
 obtain ⟨x12, hx12, h⟩ := aa h
 refine ag.c hF rfl rfl (by kernel_rfl) rfl rfl rfl (kY hx12) ?_
 refine hv hF (oF (aj se rfl)) ?_
 refine hv hF (oL (lP1 ag3 rfl)) ?_
 obtain ⟨x13, hx13, h⟩ := aa h
 refine lC hF rfl rfl rfl rfl rfl rfl x12.body (x12.ok _ _ hx13) ?_
 refine hv hF (aK rfl rfl rfl) ?_
 rcases bC x13 with hc14 | hc14
 ·replace h := ifF hc14 h
  refine hv hF (au rfl rfl hc14) ?_
  refine hp hF ?_
  refine hp hF ?_
  refine hp hF ?_
  refine ag.last ⟨rfl, ?_⟩
  simp only [List.drop_succ_cons, List.drop_zero, List.drop_nil, List.nil_append, List.cons_append]
  refine gp hF ?_
  refine gv hF (aq rfl rfl rfl) ?_
  refine gv hF oA ?_
  refine sn ?_
  refine Sm.ret ?_
  obtain rfl := ac h
  exact bE rfl rfl
 replace h := ifT hc14 h
 refine hv hF (au rfl rfl hc14) ?_
 obtain ⟨x15, hx15, h⟩ := aa h
 refine ag.c hF rfl rfl (by kernel_rfl) rfl rfl rfl (kY hx15) ?_
 refine hv hF (oF (aj mE rfl)) ?_
 refine hv hF (oL (lP1 ag3 rfl)) ?_
 refine ag.last ⟨rfl, ?_⟩
 simp only [List.drop_succ_cons, List.drop_zero, List.drop_nil, List.nil_append, List.cons_append]
 obtain ⟨x16, hx16, h⟩ := aa h
 refine SmG.callF hF rfl rfl rfl rfl rfl rfl x15.body (x15.ok _ _ hx16) ?_
 refine gv hF (aK rfl rfl rfl) ?_
 refine gv hF oA ?_
 refine sn ?_
 refine Sm.ret ?_
 obtain rfl := ac h
 exact bE rfl rfl
noncomputable def gA (a0 : Ans) (a1 : Int) : Option Bool :=
 some (a0.version == a1)
set_option maxHeartbeats 4000000 in
theorem kC {a0 : Ans} {a1 : Int} {r : Bool} (h : gA a0 a1 = some r) : ak Tryd.prog HG 42 [.ptr 11 (Ans.row a0), .ptr 1 [.i a1]] (.v (.bool r)) := by
 unfold gA at h
 refine ak.of Tryd.func42 rfl Tryd.ntmps42 (by simp) ?_
 intro F hF h0 hT
 show Sm F _ _ ⟨[(0, .d (.ptr 11 (Ans.row a0))), (1, .d (.ptr 1 [.i a1]))], [], 0⟩
 refine sr hF ?_
 refine gv hF oA ?_
 refine sn ?_
 refine sr hF ?_
 refine gv hF (oF (aj AK rfl)) ?_
 refine gv hF (oL (lP1 ag3 rfl)) ?_
 refine gv hF (oL (lP1 ag3 rfl)) ?_
 refine gv hF (oB (cM)) ?_
 refine gv hF oA ?_
 refine sn ?_
 refine Sm.ret ?_
 obtain rfl := ac h
 exact bE rfl rfl
noncomputable def ft (a0 : Ans) : Option Bool :=
 ob (gW a0.pos a0.entry) fun x1 =>
 some x1
set_option maxHeartbeats 4000000 in
theorem kO {a0 : Ans} {r : Bool} (h : ft a0 = some r) : ak Tryd.prog HG 43 [.ptr 11 (Ans.row a0)] (.v (.bool r)) := by
 unfold ft at h
 refine ak.of Tryd.func43 rfl Tryd.ntmps43 (by simp) ?_
 intro F hF h0 hT
 show Sm F _ _ ⟨[(0, .d (.ptr 11 (Ans.row a0)))], [], 0⟩
 refine sr hF ?_
 refine gv hF oA ?_
 refine sn ?_
 refine sr hF ?_
 refine gv hF (oF (aj w6 rfl)) ?_
 refine gv hF (x := .d (.agg 5 [.l a0.pos.at_, .l a0.pos.h0, .l a0.pos.h1, .i a0.pos.rights, .i a0.pos.side])) (oL (b7 gB cW rfl rfl)) ?_
 refine gv hF (oF (aj vZ rfl)) ?_
 refine gv hF (x := .d (.agg 2 [.i a0.entry.out, .i a0.entry.n])) (oL (b7 kh fF rfl rfl)) ?_
 obtain ⟨x1, hx1, h⟩ := aa h
 refine SmG.call hF rfl rfl (by kernel_rfl) rfl rfl rfl (pX hx1) ?_
 refine gv hF oA ?_
 refine sn ?_
 refine Sm.ret ?_
 obtain rfl := ac h
 exact bE rfl rfl
noncomputable def fw (a0 : List UInt8) (a1 : Ans) : Option Bool :=
 ob (fZ a1.pos a1.entry) fun x1 =>
 ob (jI a0 a1.count a1.index x1 a1.proof) fun x2 =>
 some x2
set_option maxHeartbeats 4000000 in
theorem kL {a0 : List UInt8} {a1 : Ans} {r : Bool} (h : fw a0 a1 = some r) : ak Tryd.prog HG 45 [.ptr 32 (aJ a0), .ptr 11 (Ans.row a1)] (.v (.bool r)) := by
 unfold fw at h
 refine ak.of Tryd.func45 rfl Tryd.ntmps45 (by simp) ?_
 intro F hF h0 hT
 show Sm F _ _ ⟨[(0, .d (.ptr 32 (aJ a0))), (1, .d (.ptr 11 (Ans.row a1)))], [], 0⟩
 refine sr hF ?_
 refine gv hF oA ?_
 refine sn ?_
 refine Sm.seq ?_
 refine aX hF (by kernel_rfl) rfl 12 (by kernel_rfl) (by kernel_rfl) ?_
 simp only [List.take_succ_cons, List.take_zero, List.take_nil]
 refine hv hF (x := .d (.agg 32 (aJ a0))) (oL (b7 fG cJ rfl rfl)) ?_
 refine hv hF (oF (aj wc rfl)) ?_
 refine hv hF (oL (lP1 ag3 rfl)) ?_
 refine hv hF (oF (aj AO rfl)) ?_
 refine hv hF (oL (lP1 ag3 rfl)) ?_
 refine hv hF (oF (aj w6 rfl)) ?_
 refine hv hF (x := .d (.agg 5 [.l a1.pos.at_, .l a1.pos.h0, .l a1.pos.h1, .i a1.pos.rights, .i a1.pos.side])) (oL (b7 gB cW rfl rfl)) ?_
 refine hv hF (oF (aj vZ rfl)) ?_
 refine hv hF (x := .d (.agg 2 [.i a1.entry.out, .i a1.entry.n])) (oL (b7 kh fF rfl rfl)) ?_
 obtain ⟨x1, hx1, h⟩ := aa h
 refine ag.c hF rfl rfl (by kernel_rfl) rfl rfl rfl (jT hx1) ?_
 refine hv hF (oF (aj wz rfl)) ?_
 refine hv hF (oL (lP1 xH rfl)) ?_
 refine ag.last ⟨rfl, ?_⟩
 simp only [List.drop_succ_cons, List.drop_zero, List.drop_nil, List.nil_append, List.cons_append]
 obtain ⟨x2, hx2, h⟩ := aa h
 refine SmG.call hF rfl rfl (by kernel_rfl) rfl rfl rfl (rk hx2) ?_
 refine gv hF oA ?_
 refine sn ?_
 refine Sm.ret ?_
 obtain rfl := ac h
 exact bE rfl rfl
noncomputable def gx (a0 : (FnV Tryd.prog HG (α := Unit) (β := Bool) (fun x => []) (fun y => .v (.bool y)))) : Option Bool :=
 ob (a0.f ()) fun x1 =>
 some (!x1)
set_option maxHeartbeats 4000000 in
theorem ox {a0 : (FnV Tryd.prog HG (α := Unit) (β := Bool) (fun x => []) (fun y => .v (.bool y)))} {r : Bool} (h : gx a0 = some r) : ak Tryd.prog HG 48 [.fn a0.g a0.c] (.v (.bool r)) := by
 unfold gx at h
 refine ak.of Tryd.func48 rfl Tryd.ntmps48 (by simp) ?_
 intro F hF h0 hT
 show Sm F _ _ ⟨[(0, .d (.fn a0.g a0.c))], [], 0⟩
 refine sr hF ?_
 refine gv hF oA ?_
 refine sn ?_
 refine sr hF ?_
 refine gv hF oM ?_
 obtain ⟨x1, hx1, h⟩ := aa h
 refine SmG.callF hF rfl rfl rfl rfl rfl rfl a0.body (a0.ok _ _ hx1) ?_
 refine gv hF (jK rfl rfl (kB _)) ?_
 refine gv hF oA ?_
 refine sn ?_
 refine Sm.ret ?_
 obtain rfl := ac h
 exact bE rfl rfl
noncomputable def bu (a0 : List (FnV Tryd.prog HG (α := Unit) (β := Bool) (fun x => []) (fun y => .v (.bool y)))) (a1 : (FnV Tryd.prog HG (α := (FnV Tryd.prog HG (α := Unit) (β := Bool) (fun x => []) (fun y => .v (.bool y)))) (β := Bool) (fun x => [.fn x.g x.c]) (fun y => .v (.bool y)))) (s1 : Int) : Option (Int ⊕ (Unit ⊕ Int)) :=
 bif (decide (s1 < (a0.length : Int))) then (
  ob (idx a0 s1) fun x6 =>
  ob (a1.f x6) fun x7 =>
  bif x7 then (
   some (.inr (.inr s1))
  ) else (
   ob (arI .i64 (s1 + 1)) fun x9 =>
   some (.inl x9)
  )
 ) else (
  some (.inr (.inl ()))
 )
noncomputable def cq (a0 : List (FnV Tryd.prog HG (α := Unit) (β := Bool) (fun x => []) (fun y => .v (.bool y)))) (a1 : (FnV Tryd.prog HG (α := (FnV Tryd.prog HG (α := Unit) (β := Bool) (fun x => []) (fun y => .v (.bool y)))) (β := Bool) (fun x => [.fn x.g x.c]) (fun y => .v (.bool y)))) : Option Int :=
 ob ((
  bx (bu a0 a1) 0
  : Option (Unit ⊕ Int))) fun o11 => match o11 with
 | .inl v10 => (
  some (-1)
  )
 | .inr e12 => some e12
set_option maxHeartbeats 4000000 in
theorem ib {a0 : List (FnV Tryd.prog HG (α := Unit) (β := Bool) (fun x => []) (fun y => .v (.bool y)))} {a1 : (FnV Tryd.prog HG (α := (FnV Tryd.prog HG (α := Unit) (β := Bool) (fun x => []) (fun y => .v (.bool y)))) (β := Bool) (fun x => [.fn x.g x.c]) (fun y => .v (.bool y)))} {r : Int} (h : cq a0 a1 = some r) : ak Tryd.prog HG 72 [.list 1 (a0.map FnV.row) false, .fn a1.g a1.c] (.i r) := by
 unfold cq at h
 refine ak.of Tryd.func72 rfl Tryd.ntmps72 (by simp) ?_
 intro F hF h0 hT
 show Sm F _ _ ⟨[(0, .d (.list 1 (a0.map FnV.row) false)), (1, .d (.fn a1.g a1.c))], [], 0⟩
 refine sr hF ?_
 refine gv hF oA ?_
 refine sn ?_
 refine Sm.seq ?_
 obtain ⟨o11, ho11, h⟩ := aa h
 rcases iX o11 with ⟨e12, rfl⟩ | ⟨v10, rfl⟩
 ·have he12 := ac h
  subst he12
  replace h := ho11
  refine sr hF ?_
  refine gv hF oM ?_
  refine gv hF (oN (bf tB)) ?_
  refine gv hF oM ?_
  refine sn ?_
  refine Sm.block ?_
  refine bi (bu a0 a1) (fun s1 => ⟨[(0, .d (.list 1 (a0.map FnV.row) false)), (1, .d (.fn a1.g a1.c)), (7, .i (a0.length : Int)), (8, .i s1)], [], 0⟩) 0 h (kA) ?_
  intro n2 s1 o3 h hd4
  unfold bu at h
  refine sr hF ?_
  refine gv hF (oB (bq)) ?_
  refine sn ?_
  refine Sm.seq ?_
  refine aA hF rfl (fun hc5 => ?_) (fun hc5 => ?_)
  ·replace h := ifF hc5 h
   refine Sm.exit ?_
   replace h := aE h hd4
   cases h
  replace h := ifT hc5 h
  refine sk ?_
  refine Sm.seq ?_
  refine Sm.block ?_
  refine sr hF ?_
  refine gv hF oM ?_
  refine gv hF oA ?_
  refine sn ?_
  refine sr hF ?_
  refine gv hF oM ?_
  refine gv hF oM ?_
  refine gv hF oM ?_
  obtain ⟨x6, hx6, h⟩ := aa h
  refine gv hF (oI (aU tB vD hx6)) ?_
  refine gv hF (oL (lP1 xV rfl)) ?_
  obtain ⟨x7, hx7, h⟩ := aa h
  refine SmG.callF hF rfl rfl rfl rfl rfl rfl a1.body (a1.ok _ _ hx7) ?_
  refine sn ?_
  refine aA hF rfl (fun hc8 => ?_) (fun hc8 => ?_)
  ·replace h := ifF hc8 h
   refine Sm.skip ?_
   refine am ?_
   refine ae ?_
   refine ab hF rfl ?_
   obtain ⟨x9, hx9, h⟩ := aa h
   refine gv hF (oB (aW hx9)) ?_
   refine gv hF oM ?_
   refine SmG.nil ?_
   exact bm (be h hd4) (kA)
  replace h := ifT hc8 h
  refine sr hF ?_
  refine gv hF oM ?_
  refine gv hF oA ?_
  refine sn ?_
  refine Sm.ret ?_
  replace h := aE h hd4
  replace h := gr h
  obtain rfl := ac h
  exact bE rfl rfl
 refine ba ⟨[], [], 0⟩ ?_ ?_
 ·refine Sm.seq ?_
  refine ab hF rfl ?_
  refine gv hF oA ?_
  refine sn ?_
  refine Sm.ret ?_
  obtain rfl := ac h
  exact bE rfl rfl
 replace h := ho11
 refine sr hF ?_
 refine gv hF oM ?_
 refine gv hF (oN (bf tB)) ?_
 refine gv hF oM ?_
 refine sn ?_
 refine Sm.block ?_
 refine bi (bu a0 a1) (fun s1 => ⟨[(0, .d (.list 1 (a0.map FnV.row) false)), (1, .d (.fn a1.g a1.c)), (7, .i (a0.length : Int)), (8, .i s1)], [], 0⟩) 0 h (kA) ?_
 intro n2 s1 o3 h hd4
 unfold bu at h
 refine sr hF ?_
 refine gv hF (oB (bq)) ?_
 refine sn ?_
 refine Sm.seq ?_
 refine aA hF rfl (fun hc5 => ?_) (fun hc5 => ?_)
 ·replace h := ifF hc5 h
  refine Sm.exit ?_
  replace h := aE h hd4
  obtain rfl := ac (du h)
  exact (kA)
 replace h := ifT hc5 h
 refine sk ?_
 refine Sm.seq ?_
 refine Sm.block ?_
 refine sr hF ?_
 refine gv hF oM ?_
 refine gv hF oA ?_
 refine sn ?_
 refine sr hF ?_
 refine gv hF oM ?_
 refine gv hF oM ?_
 refine gv hF oM ?_
 obtain ⟨x6, hx6, h⟩ := aa h
 refine gv hF (oI (aU tB vD hx6)) ?_
 refine gv hF (oL (lP1 xV rfl)) ?_
 obtain ⟨x7, hx7, h⟩ := aa h
 refine SmG.callF hF rfl rfl rfl rfl rfl rfl a1.body (a1.ok _ _ hx7) ?_
 refine sn ?_
 refine bF hF rfl (fun hc8 => ?_) (fun hc8 => ?_)
 ·replace h := ifT hc8 h
  refine sr hF ?_
  refine gv hF oM ?_
  refine gv hF oA ?_
  refine sn ?_
  refine Sm.ret ?_
  replace h := aE h hd4
  cases h
 replace h := ifF hc8 h
 refine Sm.skip ?_
 refine am ?_
 refine ae ?_
 refine ab hF rfl ?_
 obtain ⟨x9, hx9, h⟩ := aa h
 refine gv hF (oB (aW hx9)) ?_
 refine gv hF oM ?_
 refine SmG.nil ?_
 exact bm (be h hd4) (kA)
noncomputable def bM (a0 : List (FnV Tryd.prog HG (α := Unit) (β := Bool) (fun x => []) (fun y => .v (.bool y)))) (a1 : (FnV Tryd.prog HG (α := (FnV Tryd.prog HG (α := Unit) (β := Bool) (fun x => []) (fun y => .v (.bool y)))) (β := Bool) (fun x => [.fn x.g x.c]) (fun y => .v (.bool y)))) : Option Bool :=
 ob (cq a0 a1) fun x1 =>
 some (decide (0 ≤ x1))
set_option maxHeartbeats 4000000 in
theorem gO {a0 : List (FnV Tryd.prog HG (α := Unit) (β := Bool) (fun x => []) (fun y => .v (.bool y)))} {a1 : (FnV Tryd.prog HG (α := (FnV Tryd.prog HG (α := Unit) (β := Bool) (fun x => []) (fun y => .v (.bool y)))) (β := Bool) (fun x => [.fn x.g x.c]) (fun y => .v (.bool y)))} {r : Bool} (h : bM a0 a1 = some r) : ak Tryd.prog HG 47 [.list 1 (a0.map FnV.row) false, .fn a1.g a1.c] (.v (.bool r)) := by
 unfold bM at h
 refine ak.of Tryd.func47 rfl Tryd.ntmps47 (by simp) ?_
 intro F hF h0 hT
 show Sm F _ _ ⟨[(0, .d (.list 1 (a0.map FnV.row) false)), (1, .d (.fn a1.g a1.c))], [], 0⟩
 refine sr hF ?_
 refine gv hF oA ?_
 refine sn ?_
 refine sr hF ?_
 refine gv hF oM ?_
 refine gv hF oM ?_
 obtain ⟨x1, hx1, h⟩ := aa h
 refine SmG.call hF rfl rfl (by kernel_rfl) rfl rfl rfl (ib hx1) ?_
 refine gv hF (oB (oV)) ?_
 refine gv hF oA ?_
 refine sn ?_
 refine Sm.ret ?_
 obtain rfl := ac h
 exact bE rfl rfl
noncomputable def fp (a0 : List UInt8) (a1 : Int) (a2 : Ans) : Option Bool :=
 ob (bM ([(⟨42, [.ptr 11 (Ans.row a2), .ptr 1 [.i a1]], fun x => gA  a2 a1, by kernel_rfl, fun x y h => kC h⟩ : (FnV Tryd.prog HG (α := Unit) (β := Bool) (fun x => []) (fun y => .v (.bool y)))), (⟨43, [.ptr 11 (Ans.row a2)], fun x => ft  a2, by kernel_rfl, fun x y h => kO h⟩ : (FnV Tryd.prog HG (α := Unit) (β := Bool) (fun x => []) (fun y => .v (.bool y)))), (⟨45, [.ptr 32 (aJ a0), .ptr 11 (Ans.row a2)], fun x => fw  a0 a2, by kernel_rfl, fun x y h => kL h⟩ : (FnV Tryd.prog HG (α := Unit) (β := Bool) (fun x => []) (fun y => .v (.bool y))))]) (⟨48, [], fun x => gx x , by kernel_rfl, fun x y h => ox h⟩ : (FnV Tryd.prog HG (α := (FnV Tryd.prog HG (α := Unit) (β := Bool) (fun x => []) (fun y => .v (.bool y)))) (β := Bool) (fun x => [.fn x.g x.c]) (fun y => .v (.bool y))))) fun x1 =>
 some (!x1)
set_option maxHeartbeats 4000000 in
theorem jo {a0 : List UInt8} {a1 : Int} {a2 : Ans} {r : Bool} (h : fp a0 a1 a2 = some r) : ak Tryd.prog HG 18 [.agg 32 (aJ a0), .i a1, .agg 11 (Ans.row a2)] (.v (.bool r)) := by
 unfold fp at h
 refine ak.of Tryd.func18 rfl Tryd.ntmps18 (by simp) ?_
 intro F hF h0 hT
 show Sm F _ _ ⟨[(0, .d (.agg 32 (aJ a0))), (1, .i a1), (2, .d (.agg 11 (Ans.row a2)))], [], 0⟩
 refine sr hF ?_
 refine bZ hF gk ?_
 refine bZ hF yy ?_
 refine bZ hF gk ?_
 refine gv hF oA ?_
 refine sn ?_
 refine sr hF ?_
 refine gv hF (gX rfl rfl) ?_
 refine gv hF (gX rfl rfl) ?_
 refine gv hF (gX rfl rfl) ?_
 refine gv hF (x := .d (.list 1 ([(⟨42, [.ptr 11 (Ans.row a2), .ptr 1 [.i a1]], fun x => gA  a2 a1, by kernel_rfl, fun x y h => kC h⟩ : (FnV Tryd.prog HG (α := Unit) (β := Bool) (fun x => []) (fun y => .v (.bool y)))), (⟨43, [.ptr 11 (Ans.row a2)], fun x => ft  a2, by kernel_rfl, fun x y h => kO h⟩ : (FnV Tryd.prog HG (α := Unit) (β := Bool) (fun x => []) (fun y => .v (.bool y)))), (⟨45, [.ptr 32 (aJ a0), .ptr 11 (Ans.row a2)], fun x => fw  a0 a2, by kernel_rfl, fun x y h => kL h⟩ : (FnV Tryd.prog HG (α := Unit) (β := Bool) (fun x => []) (fun y => .v (.bool y))))].map FnV.row) true)) (oS (ax tB vD G9 rfl rfl (PartsQ.cons rfl (PartsQ.cons rfl (PartsQ.cons rfl (PartsQ.nil _)))) rfl)) ?_
 refine gv hF oA ?_
 refine sn ?_
 refine sr hF ?_
 refine gv hF oM ?_
 obtain ⟨x1, hx1, h⟩ := aa h
 refine SmG.call hF rfl rfl (by kernel_rfl) rfl rfl rfl (ak.args (gO hx1) (fun C => (bV (by repeat' first | exact D.le.refl _ | exact a8 _ _ _ | exact aV _ _ _ | refine bb ?_ | exact LeRows.nil | refine LeRows.cons ?_ ?_ | exact LeL.nil | refine LeL.cons ?_ ?_ | refine bc ?_ | refine bd ?_) (bV (by repeat' first | exact D.le.refl _ | exact a8 _ _ _ | exact aV _ _ _ | refine bb ?_ | exact LeRows.nil | refine LeRows.cons ?_ ?_ | exact LeL.nil | refine LeL.cons ?_ ?_ | refine bc ?_ | refine bd ?_) (fun _ h => h))))) ?_
 refine gv hF (jK rfl rfl (kB _)) ?_
 refine gv hF oA ?_
 refine sn ?_
 refine Sm.ret ?_
 obtain rfl := ac h
 exact bE rfl rfl
end
section
open Go.RowKit
set_option maxRecDepth 100000
noncomputable def fd : Option Bool :=
 ob (fZ (⟨[1, 0], [2], [0], 1, 0⟩ : Ps) (⟨1, 258⟩ : Rs)) fun x1 =>
 ob (cY ([(⟨[1, 0], [2], [0], 1, 0⟩ : Ps)]) [(⟨1, 258⟩ : Rs)] 7 0) fun x2 =>
 ob (cY ([(⟨[1, 0], [2], [0], 1, 0⟩ : Ps)]) [] 7 0) fun x3 =>
 ob (cY ([(⟨[1, 0], [2], [0], 1, 0⟩ : Ps)]) [(⟨1, 258⟩ : Rs)] 7 1) fun x4 =>
 ob (fg ([(⟨[1, 0], [2], [0], 1, 0⟩ : Ps)]) [(⟨1, 258⟩ : Rs)]) fun x5 =>
 ob (vN 32 x5) fun x6 =>
 bif (x2.2 == 0) then (
  bif (x3.2 == 1) then (
   bif (x4.2 == 1) then (
    bif (x1 == ([2, 1, 1, 1, 0, 2, 0, 1, 0, 1, 0, 0, 1, 2] : List UInt8)) then (
     bif ((x2.1.proof.length : Int) == 0) then (
      bif (x2.1.count == 1) then (
       ob (eO (⟨[1, 0], [2], [0], 1, 0⟩ : Ps) (⟨1, 258⟩ : Rs)) fun x13 =>
       ob (gP x13) fun x14 =>
       ob (vN 32 x5) fun x15 =>
       ob (vN 32 x14) fun x16 =>
       bif (x5 == x14) then (
        ob (fp x5 7 x2.1) fun x18 =>
        bif x18 then (
         ob (fp x5 8 x2.1) fun x20 =>
         bif (!x20) then (
          ob (fp (List.replicate 32 0) 7 x2.1) fun x22 =>
          some (!x22)
         ) else (
          some false
         )
        ) else (
         some false
        )
       ) else (
        some false
       )
      ) else (
       some false
      )
     ) else (
      some false
     )
    ) else (
     some false
    )
   ) else (
    some false
   )
  ) else (
   some false
  )
 ) else (
  some false
 )
set_option maxHeartbeats 4000000 in
theorem mw {r : Bool} (h : fd = some r) : ak Tryd.prog HG 9 [] (.v (.bool r)) := by
 unfold fd at h
 refine ak.of Tryd.func9 rfl Tryd.ntmps9 (by simp) ?_
 intro F hF h0 hT
 show Sm F _ _ ⟨[], [], 0⟩
 refine sr hF ?_
 refine gv hF oA ?_
 refine sn ?_
 refine sr hF ?_
 refine gv hF (x := .d (.list 1 ([1, 0].map (af .i64)) true)) (oS (ax u30 sz3 ze3 rfl rfl (PartsQ.cons rfl (PartsQ.cons rfl (PartsQ.nil _))) rfl)) ?_
 refine gv hF (x := .d (.list 1 ([2].map (af .i64)) true)) (oS (ax u30 sz3 ze3 rfl rfl (PartsQ.cons rfl (PartsQ.nil _)) rfl)) ?_
 refine gv hF (x := .d (.list 1 ([0].map (af .i64)) true)) (oS (ax u30 sz3 ze3 rfl rfl (PartsQ.cons rfl (PartsQ.nil _)) rfl)) ?_
 refine gv hF (x := .d (.agg 2 [.list 1 ([2].map (af .i64)) true, .list 1 ([0].map (af .i64)) true])) (io rfl u31 rfl (vF u31 eJ Ak rfl rfl)) ?_
 refine gv hF (x := .d (.agg 5 [.list 1 ([1, 0].map (af .i64)) true, .list 1 ([2].map (af .i64)) true, .list 1 ([0].map (af .i64)) true, .i 1, .i 0])) (bh rfl u33 (by kernel_rfl) rfl (br (n := 5) n8 AJ rfl rfl)) ?_
 refine SmG.new hF rfl rfl rfl (aO rfl xP) ?_
 refine SmG.store hF rfl rfl rfl rfl rfl (bk (ys := [.d (.list 1 ([1, 0].map (af .i64)) true), .d (.list 1 ([2].map (af .i64)) true), .d (.list 1 ([0].map (af .i64)) true), .i 1, .i 0]) (r := [.z, .z, .z, .i 0, .i 0]) (rows' := [[.d (.list 1 ([1, 0].map (af .i64)) true), .d (.list 1 ([2].map (af .i64)) true), .d (.list 1 ([0].map (af .i64)) true), .i 1, .i 0]]) rfl rfl rfl cW rfl rfl rfl rfl rfl) ?_
 refine sn ?_
 refine sr hF ?_
 refine gv hF (x := .d (.agg 2 [.i 1, .i 258])) (bh rfl u35 (by kernel_rfl) rfl (br (n := 2) pK Ao rfl rfl)) ?_
 refine SmG.new hF rfl rfl rfl (aO rfl Fn) ?_
 refine SmG.store hF rfl rfl rfl rfl rfl (bk (ys := [.i 1, .i 258]) (r := [.i 0, .i 0]) (rows' := [[.i 1, .i 258]]) rfl rfl rfl fF rfl rfl rfl rfl rfl) ?_
 refine sn ?_
 refine sr hF ?_
 refine gv hF (x := .d (.agg 5 [.list 1 ([1, 0].map (af .i64)) true, .list 1 ([2].map (af .i64)) true, .list 1 ([0].map (af .i64)) true, .i 1, .i 0])) (oL (aH rfl rfl gB cW rfl rfl)) ?_
 refine gv hF (x := .d (.agg 2 [.i 1, .i 258])) (oL (aH rfl rfl kh fF rfl rfl)) ?_
 obtain ⟨x1, hx1, h⟩ := aa h
 refine SmG.call hF rfl rfl (by kernel_rfl) rfl rfl rfl (ak.args (jT hx1) (fun C => (bV (by repeat' first | exact D.le.refl _ | exact a8 _ _ _ | exact aV _ _ _ | refine bb ?_ | exact LeRows.nil | refine LeRows.cons ?_ ?_ | exact LeL.nil | refine LeL.cons ?_ ?_ | refine bc ?_ | refine bd ?_) (bV (by repeat' first | exact D.le.refl _ | exact a8 _ _ _ | exact aV _ _ _ | refine bb ?_ | exact LeRows.nil | refine LeRows.cons ?_ ?_ | exact LeL.nil | refine LeL.cons ?_ ?_ | refine bc ?_ | refine bd ?_) (fun _ h => h))))) ?_
 refine gv hF oA ?_
 refine sn ?_
 refine sr hF ?_
 refine gv hF (x := .d (.agg 5 [.list 1 ([1, 0].map (af .i64)) true, .list 1 ([2].map (af .i64)) true, .list 1 ([0].map (af .i64)) true, .i 1, .i 0])) (oL (aH rfl rfl gB cW rfl rfl)) ?_
 refine dD (wA (e := [(1, .ref 0 0 0), (2, .ref 1 0 0), (3, .d (.list 1 (x1.map aI) false)), (22, .d (.agg 5 [.list 1 ([1, 0].map (af .i64)) false, .list 1 ([2].map (af .i64)) false, .list 1 ([0].map (af .i64)) false, .i 1, .i 0]))]) (g := [(1, ⟨2, [[.i 1, .i 258]]⟩), (0, ⟨5, [[.d (.list 1 ([1, 0].map (af .i64)) true), .d (.list 1 ([2].map (af .i64)) true), .d (.list 1 ([0].map (af .i64)) true), .i 1, .i 0]]⟩)]) (m := 2)) rfl ?_
 refine gv hF (x := .d (.list 5 ([(⟨[1, 0], [2], [0], 1, 0⟩ : Ps)].map Ps.row) true)) (oS (ax u40 cW n8 rfl rfl (PartsQ.cons rfl (PartsQ.nil _)) rfl)) ?_
 refine gv hF (x := .d (.agg 2 [.i 1, .i 258])) (oL (aH rfl rfl kh fF rfl rfl)) ?_
 refine gv hF (x := .d (.list 2 ([(⟨1, 258⟩ : Rs)].map Rs.row) true)) (oS (ax u41 fF pK rfl rfl (PartsQ.cons rfl (PartsQ.nil _)) rfl)) ?_
 obtain ⟨x2, hx2, h⟩ := aa h
 refine SmG.call hF rfl rfl (by kernel_rfl) rfl rfl rfl (ak.args (i8 hx2) (fun C => (bV (by repeat' first | exact D.le.refl _ | exact a8 _ _ _ | exact aV _ _ _ | refine bb ?_ | exact LeRows.nil | refine LeRows.cons ?_ ?_ | exact LeL.nil | refine LeL.cons ?_ ?_ | refine bc ?_ | refine bd ?_) (bV (by repeat' first | exact D.le.refl _ | exact a8 _ _ _ | exact aV _ _ _ | refine bb ?_ | exact LeRows.nil | refine LeRows.cons ?_ ?_ | exact LeL.nil | refine LeL.cons ?_ ?_ | refine bc ?_ | refine bd ?_) (bV (by repeat' first | exact D.le.refl _ | exact a8 _ _ _ | exact aV _ _ _ | refine bb ?_ | exact LeRows.nil | refine LeRows.cons ?_ ?_ | exact LeL.nil | refine LeL.cons ?_ ?_ | refine bc ?_ | refine bd ?_) (bV (by repeat' first | exact D.le.refl _ | exact a8 _ _ _ | exact aV _ _ _ | refine bb ?_ | exact LeRows.nil | refine LeRows.cons ?_ ?_ | exact LeL.nil | refine LeL.cons ?_ ?_ | refine bc ?_ | refine bd ?_) (fun _ h => h))))))) ?_
 refine gv hF oM ?_
 refine gv hF (b8 rfl rfl rfl) ?_
 refine gv hF (b8 rfl rfl rfl) ?_
 refine SmG.new hF rfl rfl rfl (aO rfl uP) ?_
 refine SmG.store hF rfl rfl rfl rfl rfl (bk (ys := [.i x2.1.version, .i x2.1.index, .i x2.1.count, .l x2.1.pos.at_, .l x2.1.pos.h0, .l x2.1.pos.h1, .i x2.1.pos.rights, .i x2.1.pos.side, .i x2.1.entry.out, .i x2.1.entry.n, .d (.list 32 (x2.1.proof.map aJ) false)]) (r := [.i 0, .i 0, .i 0, .z, .z, .z, .i 0, .i 0, .i 0, .i 0, .z]) (rows' := [[.i x2.1.version, .i x2.1.index, .i x2.1.count, .l x2.1.pos.at_, .l x2.1.pos.h0, .l x2.1.pos.h1, .i x2.1.pos.rights, .i x2.1.pos.side, .i x2.1.entry.out, .i x2.1.entry.n, .d (.list 32 (x2.1.proof.map aJ) false)]]) rfl rfl rfl j7 rfl rfl rfl rfl rfl) ?_
 refine gv hF oA ?_
 refine sn ?_
 refine sr hF ?_
 refine gv hF (x := .d (.agg 5 [.list 1 ([1, 0].map (af .i64)) true, .list 1 ([2].map (af .i64)) true, .list 1 ([0].map (af .i64)) true, .i 1, .i 0])) (oL (aH rfl rfl gB cW rfl rfl)) ?_
 refine dD (wA (e := [(1, .ref 0 0 0), (2, .ref 1 0 0), (3, .d (.list 1 (x1.map aI) false)), (4, .ref 2 0 0), (5, .i x2.2), (30, .d (.agg 5 [.list 1 ([1, 0].map (af .i64)) false, .list 1 ([2].map (af .i64)) false, .list 1 ([0].map (af .i64)) false, .i 1, .i 0]))]) (g := [(2, ⟨11, [[.i x2.1.version, .i x2.1.index, .i x2.1.count, .l x2.1.pos.at_, .l x2.1.pos.h0, .l x2.1.pos.h1, .i x2.1.pos.rights, .i x2.1.pos.side, .i x2.1.entry.out, .i x2.1.entry.n, .d (.list 32 (x2.1.proof.map aJ) false)]]⟩), (1, ⟨2, [[.i 1, .i 258]]⟩), (0, ⟨5, [[.d (.list 1 ([1, 0].map (af .i64)) true), .d (.list 1 ([2].map (af .i64)) true), .d (.list 1 ([0].map (af .i64)) true), .i 1, .i 0]]⟩)]) (m := 3)) rfl ?_
 refine gv hF (x := .d (.list 5 ([(⟨[1, 0], [2], [0], 1, 0⟩ : Ps)].map Ps.row) true)) (oS (ax u40 cW n8 rfl rfl (PartsQ.cons rfl (PartsQ.nil _)) rfl)) ?_
 obtain ⟨x3, hx3, h⟩ := aa h
 refine SmG.call hF rfl rfl (by kernel_rfl) rfl rfl rfl (ak.args (i8 hx3) (fun C => (bV (by repeat' first | exact D.le.refl _ | exact a8 _ _ _ | exact aV _ _ _ | refine bb ?_ | exact LeRows.nil | refine LeRows.cons ?_ ?_ | exact LeL.nil | refine LeL.cons ?_ ?_ | refine bc ?_ | refine bd ?_) (bV (by repeat' first | exact D.le.refl _ | exact a8 _ _ _ | exact aV _ _ _ | refine bb ?_ | exact LeRows.nil | refine LeRows.cons ?_ ?_ | exact LeL.nil | refine LeL.cons ?_ ?_ | refine bc ?_ | refine bd ?_) (bV (by repeat' first | exact D.le.refl _ | exact a8 _ _ _ | exact aV _ _ _ | refine bb ?_ | exact LeRows.nil | refine LeRows.cons ?_ ?_ | exact LeL.nil | refine LeL.cons ?_ ?_ | refine bc ?_ | refine bd ?_) (bV (by repeat' first | exact D.le.refl _ | exact a8 _ _ _ | exact aV _ _ _ | refine bb ?_ | exact LeRows.nil | refine LeRows.cons ?_ ?_ | exact LeL.nil | refine LeL.cons ?_ ?_ | refine bc ?_ | refine bd ?_) (fun _ h => h))))))) ?_
 refine gv hF oM ?_
 refine gv hF (b8 rfl rfl rfl) ?_
 refine gv hF (b8 rfl rfl rfl) ?_
 refine SmG.new hF rfl rfl rfl (aO rfl uP) ?_
 refine SmG.store hF rfl rfl rfl rfl rfl (bk (ys := [.i x3.1.version, .i x3.1.index, .i x3.1.count, .l x3.1.pos.at_, .l x3.1.pos.h0, .l x3.1.pos.h1, .i x3.1.pos.rights, .i x3.1.pos.side, .i x3.1.entry.out, .i x3.1.entry.n, .d (.list 32 (x3.1.proof.map aJ) false)]) (r := [.i 0, .i 0, .i 0, .z, .z, .z, .i 0, .i 0, .i 0, .i 0, .z]) (rows' := [[.i x3.1.version, .i x3.1.index, .i x3.1.count, .l x3.1.pos.at_, .l x3.1.pos.h0, .l x3.1.pos.h1, .i x3.1.pos.rights, .i x3.1.pos.side, .i x3.1.entry.out, .i x3.1.entry.n, .d (.list 32 (x3.1.proof.map aJ) false)]]) rfl rfl rfl j7 rfl rfl rfl rfl rfl) ?_
 refine gv hF oA ?_
 refine sn ?_
 refine sr hF ?_
 refine gv hF (x := .d (.agg 5 [.list 1 ([1, 0].map (af .i64)) true, .list 1 ([2].map (af .i64)) true, .list 1 ([0].map (af .i64)) true, .i 1, .i 0])) (oL (aH rfl rfl gB cW rfl rfl)) ?_
 refine dD (wA (e := [(1, .ref 0 0 0), (2, .ref 1 0 0), (3, .d (.list 1 (x1.map aI) false)), (4, .ref 2 0 0), (5, .i x2.2), (7, .i x3.2), (36, .d (.agg 5 [.list 1 ([1, 0].map (af .i64)) false, .list 1 ([2].map (af .i64)) false, .list 1 ([0].map (af .i64)) false, .i 1, .i 0]))]) (g := [(2, ⟨11, [[.i x2.1.version, .i x2.1.index, .i x2.1.count, .l x2.1.pos.at_, .l x2.1.pos.h0, .l x2.1.pos.h1, .i x2.1.pos.rights, .i x2.1.pos.side, .i x2.1.entry.out, .i x2.1.entry.n, .d (.list 32 (x2.1.proof.map aJ) false)]]⟩), (1, ⟨2, [[.i 1, .i 258]]⟩), (0, ⟨5, [[.d (.list 1 ([1, 0].map (af .i64)) true), .d (.list 1 ([2].map (af .i64)) true), .d (.list 1 ([0].map (af .i64)) true), .i 1, .i 0]]⟩)]) (m := 4)) rfl ?_
 refine gv hF (x := .d (.list 5 ([(⟨[1, 0], [2], [0], 1, 0⟩ : Ps)].map Ps.row) true)) (oS (ax u40 cW n8 rfl rfl (PartsQ.cons rfl (PartsQ.nil _)) rfl)) ?_
 refine gv hF (x := .d (.agg 2 [.i 1, .i 258])) (oL (aH rfl rfl kh fF rfl rfl)) ?_
 refine gv hF (x := .d (.list 2 ([(⟨1, 258⟩ : Rs)].map Rs.row) true)) (oS (ax u41 fF pK rfl rfl (PartsQ.cons rfl (PartsQ.nil _)) rfl)) ?_
 obtain ⟨x4, hx4, h⟩ := aa h
 refine SmG.call hF rfl rfl (by kernel_rfl) rfl rfl rfl (ak.args (i8 hx4) (fun C => (bV (by repeat' first | exact D.le.refl _ | exact a8 _ _ _ | exact aV _ _ _ | refine bb ?_ | exact LeRows.nil | refine LeRows.cons ?_ ?_ | exact LeL.nil | refine LeL.cons ?_ ?_ | refine bc ?_ | refine bd ?_) (bV (by repeat' first | exact D.le.refl _ | exact a8 _ _ _ | exact aV _ _ _ | refine bb ?_ | exact LeRows.nil | refine LeRows.cons ?_ ?_ | exact LeL.nil | refine LeL.cons ?_ ?_ | refine bc ?_ | refine bd ?_) (bV (by repeat' first | exact D.le.refl _ | exact a8 _ _ _ | exact aV _ _ _ | refine bb ?_ | exact LeRows.nil | refine LeRows.cons ?_ ?_ | exact LeL.nil | refine LeL.cons ?_ ?_ | refine bc ?_ | refine bd ?_) (bV (by repeat' first | exact D.le.refl _ | exact a8 _ _ _ | exact aV _ _ _ | refine bb ?_ | exact LeRows.nil | refine LeRows.cons ?_ ?_ | exact LeL.nil | refine LeL.cons ?_ ?_ | refine bc ?_ | refine bd ?_) (fun _ h => h))))))) ?_
 refine gv hF oM ?_
 refine gv hF (b8 rfl rfl rfl) ?_
 refine gv hF (b8 rfl rfl rfl) ?_
 refine SmG.new hF rfl rfl rfl (aO rfl uP) ?_
 refine SmG.store hF rfl rfl rfl rfl rfl (bk (ys := [.i x4.1.version, .i x4.1.index, .i x4.1.count, .l x4.1.pos.at_, .l x4.1.pos.h0, .l x4.1.pos.h1, .i x4.1.pos.rights, .i x4.1.pos.side, .i x4.1.entry.out, .i x4.1.entry.n, .d (.list 32 (x4.1.proof.map aJ) false)]) (r := [.i 0, .i 0, .i 0, .z, .z, .z, .i 0, .i 0, .i 0, .i 0, .z]) (rows' := [[.i x4.1.version, .i x4.1.index, .i x4.1.count, .l x4.1.pos.at_, .l x4.1.pos.h0, .l x4.1.pos.h1, .i x4.1.pos.rights, .i x4.1.pos.side, .i x4.1.entry.out, .i x4.1.entry.n, .d (.list 32 (x4.1.proof.map aJ) false)]]) rfl rfl rfl j7 rfl rfl rfl rfl rfl) ?_
 refine gv hF oA ?_
 refine sn ?_
 refine sr hF ?_
 refine gv hF (x := .d (.agg 5 [.list 1 ([1, 0].map (af .i64)) true, .list 1 ([2].map (af .i64)) true, .list 1 ([0].map (af .i64)) true, .i 1, .i 0])) (oL (aH rfl rfl gB cW rfl rfl)) ?_
 refine dD (wA (e := [(1, .ref 0 0 0), (2, .ref 1 0 0), (3, .d (.list 1 (x1.map aI) false)), (4, .ref 2 0 0), (5, .i x2.2), (7, .i x3.2), (9, .i x4.2), (43, .d (.agg 5 [.list 1 ([1, 0].map (af .i64)) false, .list 1 ([2].map (af .i64)) false, .list 1 ([0].map (af .i64)) false, .i 1, .i 0]))]) (g := [(2, ⟨11, [[.i x2.1.version, .i x2.1.index, .i x2.1.count, .l x2.1.pos.at_, .l x2.1.pos.h0, .l x2.1.pos.h1, .i x2.1.pos.rights, .i x2.1.pos.side, .i x2.1.entry.out, .i x2.1.entry.n, .d (.list 32 (x2.1.proof.map aJ) false)]]⟩), (1, ⟨2, [[.i 1, .i 258]]⟩), (0, ⟨5, [[.d (.list 1 ([1, 0].map (af .i64)) true), .d (.list 1 ([2].map (af .i64)) true), .d (.list 1 ([0].map (af .i64)) true), .i 1, .i 0]]⟩)]) (m := 5)) rfl ?_
 refine gv hF (x := .d (.list 5 ([(⟨[1, 0], [2], [0], 1, 0⟩ : Ps)].map Ps.row) true)) (oS (ax u40 cW n8 rfl rfl (PartsQ.cons rfl (PartsQ.nil _)) rfl)) ?_
 refine gv hF (x := .d (.agg 2 [.i 1, .i 258])) (oL (aH rfl rfl kh fF rfl rfl)) ?_
 refine gv hF (x := .d (.list 2 ([(⟨1, 258⟩ : Rs)].map Rs.row) true)) (oS (ax u41 fF pK rfl rfl (PartsQ.cons rfl (PartsQ.nil _)) rfl)) ?_
 obtain ⟨x5, hx5, h⟩ := aa h
 refine SmG.call hF rfl rfl (by kernel_rfl) rfl rfl rfl (ak.args (jP hx5) (fun C => (bV (by repeat' first | exact D.le.refl _ | exact a8 _ _ _ | exact aV _ _ _ | refine bb ?_ | exact LeRows.nil | refine LeRows.cons ?_ ?_ | exact LeL.nil | refine LeL.cons ?_ ?_ | refine bc ?_ | refine bd ?_) (bV (by repeat' first | exact D.le.refl _ | exact a8 _ _ _ | exact aV _ _ _ | refine bb ?_ | exact LeRows.nil | refine LeRows.cons ?_ ?_ | exact LeL.nil | refine LeL.cons ?_ ?_ | refine bc ?_ | refine bd ?_) (fun _ h => h))))) ?_
 refine SmG.new hF rfl rfl rfl (aO rfl jp) ?_
 obtain ⟨x6, hx6, h⟩ := aa h
 refine SmG.store hF rfl rfl rfl rfl rfl (jw rfl rfl cJ rfl (cG hx6)) ?_
 refine sn ?_
 refine sr hF ?_
 refine gv hF oM ?_
 refine gv hF (oB (cM)) ?_
 rcases bC (x2.2 == 0) with hc7 | hc7
 ·replace h := ifF hc7 h
  refine gv hF (au rfl rfl hc7) ?_
  refine gp hF ?_
  refine gp hF ?_
  refine gv hF (aq rfl rfl rfl) ?_
  refine gv hF oM ?_
  refine gp hF ?_
  refine gp hF ?_
  refine gv hF (aq rfl rfl rfl) ?_
  refine gv hF oA ?_
  refine sn ?_
  refine Sm.seq ?_
  refine aX hF (by kernel_rfl) rfl 39 (by kernel_rfl) (by kernel_rfl) ?_
  simp only [List.take_succ_cons, List.take_zero, List.take_nil]
  refine hv hF oM ?_
  refine hv hF oM ?_
  refine hp hF ?_
  refine hp hF ?_
  refine hp hF ?_
  refine hv hF (aq rfl rfl rfl) ?_
  refine hv hF oM ?_
  refine hp hF ?_
  refine hp hF ?_
  refine hp hF ?_
  refine hp hF ?_
  refine hv hF (aq rfl rfl rfl) ?_
  refine hv hF oM ?_
  refine hp hF ?_
  refine hp hF ?_
  refine hp hF ?_
  refine hv hF (aq rfl rfl rfl) ?_
  refine hv hF oM ?_
  refine hp hF ?_
  refine hp hF ?_
  refine hp hF ?_
  refine hp hF ?_
  refine hp hF ?_
  refine hp hF ?_
  refine hv hF (aq rfl rfl rfl) ?_
  refine hv hF oM ?_
  refine hp hF ?_
  refine hp hF ?_
  refine hp hF ?_
  refine hv hF (aq rfl rfl rfl) ?_
  refine hv hF oM ?_
  refine hp hF ?_
  refine hp hF ?_
  refine hp hF ?_
  refine hp hF ?_
  refine hv hF (aq rfl rfl rfl) ?_
  refine hv hF oM ?_
  refine hp hF ?_
  refine hp hF ?_
  refine ag.last ⟨rfl, ?_⟩
  simp only [List.drop_succ_cons, List.drop_zero, List.drop_nil, List.nil_append, List.cons_append]
  refine gp hF ?_
  refine gp hF ?_
  refine gv hF (aq rfl rfl rfl) ?_
  refine gv hF oA ?_
  refine sn ?_
  refine Sm.ret ?_
  obtain rfl := ac h
  exact bE rfl rfl
 replace h := ifT hc7 h
 refine gv hF (au rfl rfl hc7) ?_
 refine gv hF oM ?_
 refine gv hF (oB (cM)) ?_
 refine gv hF (aK rfl rfl rfl) ?_
 rcases bC (x3.2 == 1) with hc8 | hc8
 ·replace h := ifF hc8 h
  refine gv hF (au rfl rfl hc8) ?_
  refine gp hF ?_
  refine gp hF ?_
  refine gv hF (aq rfl rfl rfl) ?_
  refine gv hF oA ?_
  refine sn ?_
  refine Sm.seq ?_
  refine aX hF (by kernel_rfl) rfl 39 (by kernel_rfl) (by kernel_rfl) ?_
  simp only [List.take_succ_cons, List.take_zero, List.take_nil]
  refine hv hF oM ?_
  refine hv hF oM ?_
  refine hp hF ?_
  refine hp hF ?_
  refine hp hF ?_
  refine hv hF (aq rfl rfl rfl) ?_
  refine hv hF oM ?_
  refine hp hF ?_
  refine hp hF ?_
  refine hp hF ?_
  refine hp hF ?_
  refine hv hF (aq rfl rfl rfl) ?_
  refine hv hF oM ?_
  refine hp hF ?_
  refine hp hF ?_
  refine hp hF ?_
  refine hv hF (aq rfl rfl rfl) ?_
  refine hv hF oM ?_
  refine hp hF ?_
  refine hp hF ?_
  refine hp hF ?_
  refine hp hF ?_
  refine hp hF ?_
  refine hp hF ?_
  refine hv hF (aq rfl rfl rfl) ?_
  refine hv hF oM ?_
  refine hp hF ?_
  refine hp hF ?_
  refine hp hF ?_
  refine hv hF (aq rfl rfl rfl) ?_
  refine hv hF oM ?_
  refine hp hF ?_
  refine hp hF ?_
  refine hp hF ?_
  refine hp hF ?_
  refine hv hF (aq rfl rfl rfl) ?_
  refine hv hF oM ?_
  refine hp hF ?_
  refine hp hF ?_
  refine ag.last ⟨rfl, ?_⟩
  simp only [List.drop_succ_cons, List.drop_zero, List.drop_nil, List.nil_append, List.cons_append]
  refine gp hF ?_
  refine gp hF ?_
  refine gv hF (aq rfl rfl rfl) ?_
  refine gv hF oA ?_
  refine sn ?_
  refine Sm.ret ?_
  obtain rfl := ac h
  exact bE rfl rfl
 replace h := ifT hc8 h
 refine gv hF (au rfl rfl hc8) ?_
 refine gv hF oM ?_
 refine gv hF (oB (cM)) ?_
 refine gv hF (aK rfl rfl rfl) ?_
 refine gv hF oA ?_
 refine sn ?_
 refine Sm.seq ?_
 refine aX hF (by kernel_rfl) rfl 39 (by kernel_rfl) (by kernel_rfl) ?_
 simp only [List.take_succ_cons, List.take_zero, List.take_nil]
 refine hv hF oM ?_
 rcases bC (x4.2 == 1) with hc9 | hc9
 ·replace h := ifF hc9 h
  refine hv hF (au rfl rfl hc9) ?_
  refine hp hF ?_
  refine hp hF ?_
  refine hp hF ?_
  refine hv hF (aq rfl rfl rfl) ?_
  refine hv hF oM ?_
  refine hp hF ?_
  refine hp hF ?_
  refine hp hF ?_
  refine hp hF ?_
  refine hv hF (aq rfl rfl rfl) ?_
  refine hv hF oM ?_
  refine hp hF ?_
  refine hp hF ?_
  refine hp hF ?_
  refine hv hF (aq rfl rfl rfl) ?_
  refine hv hF oM ?_
  refine hp hF ?_
  refine hp hF ?_
  refine hp hF ?_
  refine hp hF ?_
  refine hp hF ?_
  refine hp hF ?_
  refine hv hF (aq rfl rfl rfl) ?_
  refine hv hF oM ?_
  refine hp hF ?_
  refine hp hF ?_
  refine hp hF ?_
  refine hv hF (aq rfl rfl rfl) ?_
  refine hv hF oM ?_
  refine hp hF ?_
  refine hp hF ?_
  refine hp hF ?_
  refine hp hF ?_
  refine hv hF (aq rfl rfl rfl) ?_
  refine hv hF oM ?_
  refine hp hF ?_
  refine hp hF ?_
  refine ag.last ⟨rfl, ?_⟩
  simp only [List.drop_succ_cons, List.drop_zero, List.drop_nil, List.nil_append, List.cons_append]
  refine gp hF ?_
  refine gp hF ?_
  refine gv hF (aq rfl rfl rfl) ?_
  refine gv hF oA ?_
  refine sn ?_
  refine Sm.ret ?_
  obtain rfl := ac h
  exact bE rfl rfl
 replace h := ifT hc9 h
 refine hv hF (au rfl rfl hc9) ?_
 refine hv hF oM ?_
 refine hv hF (oC (dZ u24 u9 u5)) ?_
 refine hv hF (oB (AQ rfl)) ?_
 refine hv hF (aK rfl rfl rfl) ?_
 rcases bC (x1 == ([2, 1, 1, 1, 0, 2, 0, 1, 0, 1, 0, 0, 1, 2] : List UInt8)) with hc10 | hc10
 ·replace h := ifF hc10 h
  refine hv hF (au rfl rfl hc10) ?_
  refine hp hF ?_
  refine hp hF ?_
  refine hp hF ?_
  refine hp hF ?_
  refine hv hF (aq rfl rfl rfl) ?_
  refine hv hF oM ?_
  refine hp hF ?_
  refine hp hF ?_
  refine hp hF ?_
  refine hv hF (aq rfl rfl rfl) ?_
  refine hv hF oM ?_
  refine hp hF ?_
  refine hp hF ?_
  refine hp hF ?_
  refine hp hF ?_
  refine hp hF ?_
  refine hp hF ?_
  refine hv hF (aq rfl rfl rfl) ?_
  refine hv hF oM ?_
  refine hp hF ?_
  refine hp hF ?_
  refine hp hF ?_
  refine hv hF (aq rfl rfl rfl) ?_
  refine hv hF oM ?_
  refine hp hF ?_
  refine hp hF ?_
  refine hp hF ?_
  refine hp hF ?_
  refine hv hF (aq rfl rfl rfl) ?_
  refine hv hF oM ?_
  refine hp hF ?_
  refine hp hF ?_
  refine ag.last ⟨rfl, ?_⟩
  simp only [List.drop_succ_cons, List.drop_zero, List.drop_nil, List.nil_append, List.cons_append]
  refine gp hF ?_
  refine gp hF ?_
  refine gv hF (aq rfl rfl rfl) ?_
  refine gv hF oA ?_
  refine sn ?_
  refine Sm.ret ?_
  obtain rfl := ac h
  exact bE rfl rfl
 replace h := ifT hc10 h
 refine hv hF (au rfl rfl hc10) ?_
 refine hv hF (oF (aF wz)) ?_
 refine hv hF (oL (ck rfl rfl xH rfl)) ?_
 refine hv hF (oN (bf u36)) ?_
 refine hv hF (oB (cM)) ?_
 refine hv hF (aK rfl rfl rfl) ?_
 rcases bC ((x2.1.proof.length : Int) == 0) with hc11 | hc11
 ·replace h := ifF hc11 h
  refine hv hF (au rfl rfl hc11) ?_
  refine hp hF ?_
  refine hp hF ?_
  refine hp hF ?_
  refine hv hF (aq rfl rfl rfl) ?_
  refine hv hF oM ?_
  refine hp hF ?_
  refine hp hF ?_
  refine hp hF ?_
  refine hp hF ?_
  refine hp hF ?_
  refine hp hF ?_
  refine hv hF (aq rfl rfl rfl) ?_
  refine hv hF oM ?_
  refine hp hF ?_
  refine hp hF ?_
  refine hp hF ?_
  refine hv hF (aq rfl rfl rfl) ?_
  refine hv hF oM ?_
  refine hp hF ?_
  refine hp hF ?_
  refine hp hF ?_
  refine hp hF ?_
  refine hv hF (aq rfl rfl rfl) ?_
  refine hv hF oM ?_
  refine hp hF ?_
  refine hp hF ?_
  refine ag.last ⟨rfl, ?_⟩
  simp only [List.drop_succ_cons, List.drop_zero, List.drop_nil, List.nil_append, List.cons_append]
  refine gp hF ?_
  refine gp hF ?_
  refine gv hF (aq rfl rfl rfl) ?_
  refine gv hF oA ?_
  refine sn ?_
  refine Sm.ret ?_
  obtain rfl := ac h
  exact bE rfl rfl
 replace h := ifT hc11 h
 refine hv hF (au rfl rfl hc11) ?_
 refine hv hF (oF (aF wc)) ?_
 refine hv hF (oL (ck rfl rfl ag3 rfl)) ?_
 refine hv hF (oB (cM)) ?_
 refine hv hF (aK rfl rfl rfl) ?_
 rcases bC (x2.1.count == 1) with hc12 | hc12
 ·replace h := ifF hc12 h
  refine hv hF (au rfl rfl hc12) ?_
  refine hp hF ?_
  refine hp hF ?_
  refine hp hF ?_
  refine hp hF ?_
  refine hp hF ?_
  refine hp hF ?_
  refine hv hF (aq rfl rfl rfl) ?_
  refine hv hF oM ?_
  refine hp hF ?_
  refine hp hF ?_
  refine hp hF ?_
  refine hv hF (aq rfl rfl rfl) ?_
  refine hv hF oM ?_
  refine hp hF ?_
  refine hp hF ?_
  refine hp hF ?_
  refine hp hF ?_
  refine hv hF (aq rfl rfl rfl) ?_
  refine hv hF oM ?_
  refine hp hF ?_
  refine hp hF ?_
  refine ag.last ⟨rfl, ?_⟩
  simp only [List.drop_succ_cons, List.drop_zero, List.drop_nil, List.nil_append, List.cons_append]
  refine gp hF ?_
  refine gp hF ?_
  refine gv hF (aq rfl rfl rfl) ?_
  refine gv hF oA ?_
  refine sn ?_
  refine Sm.ret ?_
  obtain rfl := ac h
  exact bE rfl rfl
 replace h := ifT hc12 h
 refine hv hF (au rfl rfl hc12) ?_
 refine hv hF (x := .d (.agg 32 (aJ x5))) (oL (f8 rfl fG cJ)) ?_
 refine hv hF (x := .d (.agg 5 [.list 1 ([1, 0].map (af .i64)) true, .list 1 ([2].map (af .i64)) true, .list 1 ([0].map (af .i64)) true, .i 1, .i 0])) (oL (aH rfl rfl gB cW rfl rfl)) ?_
 refine hv hF (x := .d (.agg 2 [.i 1, .i 258])) (oL (aH rfl rfl kh fF rfl rfl)) ?_
 obtain ⟨x13, hx13, h⟩ := aa h
 refine ag.c hF rfl rfl (by kernel_rfl) rfl rfl rfl (ak.args (jF hx13) (fun C => (bV (by repeat' first | exact D.le.refl _ | exact a8 _ _ _ | exact aV _ _ _ | refine bb ?_ | exact LeRows.nil | refine LeRows.cons ?_ ?_ | exact LeL.nil | refine LeL.cons ?_ ?_ | refine bc ?_ | refine bd ?_) (bV (by repeat' first | exact D.le.refl _ | exact a8 _ _ _ | exact aV _ _ _ | refine bb ?_ | exact LeRows.nil | refine LeRows.cons ?_ ?_ | exact LeL.nil | refine LeL.cons ?_ ?_ | refine bc ?_ | refine bd ?_) (fun _ h => h))))) ?_
 obtain ⟨x14, hx14, h⟩ := aa h
 refine ag.c hF rfl rfl (by kernel_rfl) rfl rfl rfl (ng hx14) ?_
 obtain ⟨x15, hx15, h⟩ := aa h
 obtain ⟨x16, hx16, h⟩ := aa h
 refine hv hF (gZ rfl rfl rfl (iW (by kernel_rfl) (by kernel_rfl) (cG hx15) (cG hx16))) ?_
 refine hv hF (aK rfl rfl rfl) ?_
 rcases bC (x5 == x14) with hc17 | hc17
 ·replace h := ifF hc17 h
  refine hv hF (au rfl rfl hc17) ?_
  refine hp hF ?_
  refine hp hF ?_
  refine hp hF ?_
  refine hv hF (aq rfl rfl rfl) ?_
  refine hv hF oM ?_
  refine hp hF ?_
  refine hp hF ?_
  refine hp hF ?_
  refine hp hF ?_
  refine hv hF (aq rfl rfl rfl) ?_
  refine hv hF oM ?_
  refine hp hF ?_
  refine hp hF ?_
  refine ag.last ⟨rfl, ?_⟩
  simp only [List.drop_succ_cons, List.drop_zero, List.drop_nil, List.nil_append, List.cons_append]
  refine gp hF ?_
  refine gp hF ?_
  refine gv hF (aq rfl rfl rfl) ?_
  refine gv hF oA ?_
  refine sn ?_
  refine Sm.ret ?_
  obtain rfl := ac h
  exact bE rfl rfl
 replace h := ifT hc17 h
 refine hv hF (au rfl rfl hc17) ?_
 refine hv hF (x := .d (.agg 32 (aJ x5))) (oL (f8 rfl fG cJ)) ?_
 refine hv hF (x := .d (.agg 11 [.i x2.1.version, .i x2.1.index, .i x2.1.count, .l x2.1.pos.at_, .l x2.1.pos.h0, .l x2.1.pos.h1, .i x2.1.pos.rights, .i x2.1.pos.side, .i x2.1.entry.out, .i x2.1.entry.n, .list 32 (x2.1.proof.map aJ) false])) (oL (aH rfl rfl pz j7 rfl rfl)) ?_
 obtain ⟨x18, hx18, h⟩ := aa h
 refine ag.c hF rfl rfl (by kernel_rfl) rfl rfl rfl (jo hx18) ?_
 refine hv hF (aK rfl rfl rfl) ?_
 rcases bC x18 with hc19 | hc19
 ·replace h := ifF hc19 h
  refine hv hF (au rfl rfl hc19) ?_
  refine hp hF ?_
  refine hp hF ?_
  refine hp hF ?_
  refine hp hF ?_
  refine hv hF (aq rfl rfl rfl) ?_
  refine hv hF oM ?_
  refine hp hF ?_
  refine hp hF ?_
  refine ag.last ⟨rfl, ?_⟩
  simp only [List.drop_succ_cons, List.drop_zero, List.drop_nil, List.nil_append, List.cons_append]
  refine gp hF ?_
  refine gp hF ?_
  refine gv hF (aq rfl rfl rfl) ?_
  refine gv hF oA ?_
  refine sn ?_
  refine Sm.ret ?_
  obtain rfl := ac h
  exact bE rfl rfl
 replace h := ifT hc19 h
 refine hv hF (au rfl rfl hc19) ?_
 refine hv hF (x := .d (.agg 32 (aJ x5))) (oL (f8 rfl fG cJ)) ?_
 refine hv hF (x := .d (.agg 11 [.i x2.1.version, .i x2.1.index, .i x2.1.count, .l x2.1.pos.at_, .l x2.1.pos.h0, .l x2.1.pos.h1, .i x2.1.pos.rights, .i x2.1.pos.side, .i x2.1.entry.out, .i x2.1.entry.n, .list 32 (x2.1.proof.map aJ) false])) (oL (aH rfl rfl pz j7 rfl rfl)) ?_
 obtain ⟨x20, hx20, h⟩ := aa h
 refine ag.c hF rfl rfl (by kernel_rfl) rfl rfl rfl (jo hx20) ?_
 refine hv hF (jK rfl rfl (kB _)) ?_
 refine hv hF (aK rfl rfl rfl) ?_
 rcases bC (!x20) with hc21 | hc21
 ·replace h := ifF hc21 h
  refine hv hF (au rfl rfl hc21) ?_
  refine hp hF ?_
  refine hp hF ?_
  refine ag.last ⟨rfl, ?_⟩
  simp only [List.drop_succ_cons, List.drop_zero, List.drop_nil, List.nil_append, List.cons_append]
  refine gp hF ?_
  refine gp hF ?_
  refine gv hF (aq rfl rfl rfl) ?_
  refine gv hF oA ?_
  refine sn ?_
  refine Sm.ret ?_
  obtain rfl := ac h
  exact bE rfl rfl
 replace h := ifT hc21 h
 refine hv hF (au rfl rfl hc21) ?_
 refine hv hF (x := .d (.agg 32 (aJ (List.replicate 32 0)))) (io rfl u47 rfl Ag) ?_
 refine hv hF (x := .d (.agg 11 [.i x2.1.version, .i x2.1.index, .i x2.1.count, .l x2.1.pos.at_, .l x2.1.pos.h0, .l x2.1.pos.h1, .i x2.1.pos.rights, .i x2.1.pos.side, .i x2.1.entry.out, .i x2.1.entry.n, .list 32 (x2.1.proof.map aJ) false])) (oL (aH rfl rfl pz j7 rfl rfl)) ?_
 refine ag.last ⟨rfl, ?_⟩
 simp only [List.drop_succ_cons, List.drop_zero, List.drop_nil, List.nil_append, List.cons_append]
 obtain ⟨x22, hx22, h⟩ := aa h
 refine SmG.call hF rfl rfl (by kernel_rfl) rfl rfl rfl (jo hx22) ?_
 refine gv hF (jK rfl rfl (kB _)) ?_
 refine gv hF (aK rfl rfl rfl) ?_
 refine gv hF oA ?_
 refine sn ?_
 refine Sm.ret ?_
 obtain rfl := ac h
 exact bE rfl rfl
noncomputable def dF (a0 : GRaw) (a1 : List PRaw) (a2 : List Int) : Option (List Ps × List Rs) :=
 ob (fL a0) fun x1 =>
 ob (fO x1 a1 10) fun x2 =>
 ob (eQ x2 a2) fun x3 =>
 some (x2, x3)
set_option maxHeartbeats 4000000 in
theorem jr {a0 : GRaw} {a1 : List PRaw} {a2 : List Int} {r : (List Ps × List Rs)} (h : dF a0 a1 a2 = some r) : ak Tryd.prog HG 10 [.agg 12 (GRaw.row a0), .list 18 (a1.map PRaw.row) false, .list 1 (a2.map (af .u16)) false] (.tup [.list 5 (r.1.map Ps.row) false, .list 2 (r.2.map Rs.row) false]) := by
 unfold dF at h
 refine ak.of Tryd.func10 rfl Tryd.ntmps10 (by simp) ?_
 intro F hF h0 hT
 show Sm F _ _ ⟨[(0, .d (.agg 12 (GRaw.row a0))), (1, .d (.list 18 (a1.map PRaw.row) false)), (2, .d (.list 1 (a2.map (af .u16)) false))], [], 0⟩
 refine sr hF ?_
 refine bZ hF gk ?_
 refine gv hF oA ?_
 refine gv hF oA ?_
 refine sn ?_
 refine sr hF ?_
 refine gv hF (x := .d (.agg 12 (GRaw.row a0))) (oL (b7 sl uR rfl rfl)) ?_
 obtain ⟨x1, hx1, h⟩ := aa h
 refine SmG.call hF rfl rfl (by kernel_rfl) rfl rfl rfl (nn hx1) ?_
 refine gv hF oM ?_
 obtain ⟨x2, hx2, h⟩ := aa h
 refine SmG.call hF rfl rfl (by kernel_rfl) rfl rfl rfl (nv hx2) ?_
 refine gv hF oA ?_
 refine sn ?_
 refine sr hF ?_
 refine gv hF oM ?_
 refine gv hF oM ?_
 refine gv hF oM ?_
 obtain ⟨x3, hx3, h⟩ := aa h
 refine SmG.call hF rfl rfl (by kernel_rfl) rfl rfl rfl (lW hx3) ?_
 refine gv hF oA ?_
 refine gv hF oA ?_
 refine sn ?_
 refine Sm.ret ?_
 obtain rfl := ac h
 exact eg (RetR.cons (RetO.tmp rfl) (RetR.cons (RetO.tmp rfl) (RetR.nil))) (D.le.refl _)
noncomputable def dU (x2 : (List Ps × List Rs)) (x3 : (List Ps × List Rs)) (x5 : List Rs) (x7 : List Rs) (s9 : (Bool × Int)) : Option ((Bool × Int) ⊕ Bool) :=
 bif (decide (s9.2 < (min (x2.1.length : Int) (x3.1.length : Int)))) then (
  ob ((
   bif s9.1 then (
    ob (idx x5 s9.2) fun x15 =>
    ob (idx x7 s9.2) fun x16 =>
    some ((x15.out == x16.out) && ((x15.n == x16.n) && true))
   ) else (
    some false
   )
   : Option Bool)) fun v17 =>
  ob (arI .i64 (s9.2 + 1)) fun x18 =>
  some (.inl (v17, x18))
 ) else (
  some (.inr s9.1)
 )
noncomputable def e6 (a0 : (List PRaw × List PRaw)) (a1 : GRaw) (a2 : (Int × Int)) : Option Bool :=
 ob (fd ) fun x1 =>
 ob (dF a1 a0.1 [a2.1]) fun x2 =>
 ob (dF a1 a0.2 [a2.2]) fun x3 =>
 ob (slc x2.1 0 (min (x2.1.length : Int) (x3.1.length : Int))) fun x4 =>
 ob (slc x2.2 0 (min (x2.1.length : Int) (x3.1.length : Int))) fun x5 =>
 ob (slc x3.1 0 (min (x2.1.length : Int) (x3.1.length : Int))) fun x6 =>
 ob (slc x3.2 0 (min (x2.1.length : Int) (x3.1.length : Int))) fun x7 =>
 ob (fm x4 x6) fun x8 =>
 ob ((
  bx (dU x2 x3 x5 x7) (x8, 0)
  : Option Bool)) fun v19 =>
 ob (fg x4 x5) fun x20 =>
 ob (vN 32 x20) fun x21 =>
 ob (fg x6 x7) fun x22 =>
 ob (vN 32 x22) fun x23 =>
 bif v19 then (
  bif x1 then (
   ob (vN 32 x20) fun x26 =>
   ob (vN 32 x22) fun x27 =>
   some (x20 == x22)
  ) else (
   some false
  )
 ) else (
  bif x1 then (
   ob (vN 32 x20) fun x29 =>
   ob (vN 32 x22) fun x30 =>
   bif (!(x20 == x22)) then (
    some true
   ) else (
    ob (eh x4 x5) fun x32 =>
    ob (gg x32) fun x33 =>
    ob (eh x6 x7) fun x34 =>
    ob (gg x34) fun x35 =>
    ob (ge x33 x35) fun x36 =>
    some x36
   )
  ) else (
   some false
  )
 )
set_option maxHeartbeats 4000000 in
theorem kR {a0 : (List PRaw × List PRaw)} {a1 : GRaw} {a2 : (Int × Int)} {r : Bool} (h : e6 a0 a1 a2 = some r) : ak Tryd.prog HG 7 [.agg 2 [.list 18 (a0.1.map PRaw.row) false, .list 18 (a0.2.map PRaw.row) false], .agg 12 (GRaw.row a1), .agg 2 [.v (.int .u16 a2.1), .v (.int .u16 a2.2)]] (.v (.bool r)) := by
 unfold e6 at h
 refine ak.of Tryd.func7 rfl Tryd.ntmps7 (by simp) ?_
 intro F hF h0 hT
 show Sm F _ _ ⟨[(0, .d (.agg 2 [.list 18 (a0.1.map PRaw.row) false, .list 18 (a0.2.map PRaw.row) false])), (1, .d (.agg 12 (GRaw.row a1))), (2, .d (.agg 2 [.v (.int .u16 a2.1), .v (.int .u16 a2.2)]))], [], 0⟩
 refine sr hF ?_
 refine bZ hF gk ?_
 refine bZ hF gk ?_
 refine bZ hF gk ?_
 refine gv hF oA ?_
 refine sn ?_
 refine sr hF ?_
 obtain ⟨x1, hx1, h⟩ := aa h
 refine SmG.call hF rfl rfl (by kernel_rfl) rfl rfl rfl (mw hx1) ?_
 refine gv hF oA ?_
 refine sn ?_
 refine sr hF ?_
 refine gv hF (x := .d (.agg 12 (GRaw.row a1))) (oL (b7 sl uR rfl rfl)) ?_
 refine gv hF (oI (cB u23 ye rfl rfl)) ?_
 refine gv hF (oL (lP1 xC rfl)) ?_
 refine gv hF (oI (cB u82 qS rfl rfl)) ?_
 refine gv hF (oL (lP1 uU rfl)) ?_
 refine gv hF (x := .d (.list 1 ([a2.1].map (af .u16)) true)) (oS (ax u45 qS yn rfl rfl (PartsQ.cons rfl (PartsQ.nil _)) rfl)) ?_
 obtain ⟨x2, hx2, h⟩ := aa h
 refine SmG.call hF rfl rfl (by kernel_rfl) rfl rfl rfl (ak.args (jr hx2) (fun C => (bV (by repeat' first | exact D.le.refl _ | exact a8 _ _ _ | exact aV _ _ _ | refine bb ?_ | exact LeRows.nil | refine LeRows.cons ?_ ?_ | exact LeL.nil | refine LeL.cons ?_ ?_ | refine bc ?_ | refine bd ?_) (bV (by repeat' first | exact D.le.refl _ | exact a8 _ _ _ | exact aV _ _ _ | refine bb ?_ | exact LeRows.nil | refine LeRows.cons ?_ ?_ | exact LeL.nil | refine LeL.cons ?_ ?_ | refine bc ?_ | refine bd ?_) (bV (by repeat' first | exact D.le.refl _ | exact a8 _ _ _ | exact aV _ _ _ | refine bb ?_ | exact LeRows.nil | refine LeRows.cons ?_ ?_ | exact LeL.nil | refine LeL.cons ?_ ?_ | refine bc ?_ | refine bd ?_) (fun _ h => h)))))) ?_
 refine gv hF oM ?_
 refine gv hF (b8 rfl rfl rfl) ?_
 refine gv hF (b8 rfl rfl rfl) ?_
 refine gv hF oA ?_
 refine gv hF oA ?_
 refine sn ?_
 refine sr hF ?_
 refine gv hF (x := .d (.agg 12 (GRaw.row a1))) (oL (b7 sl uR rfl rfl)) ?_
 refine gv hF (oI (cB u23 ye rfl rfl)) ?_
 refine gv hF (oL (lP1 xC rfl)) ?_
 refine gv hF (oI (cB u82 qS rfl rfl)) ?_
 refine gv hF (oL (lP1 uU rfl)) ?_
 refine gv hF (x := .d (.list 1 ([a2.2].map (af .u16)) true)) (oS (ax u45 qS yn rfl rfl (PartsQ.cons rfl (PartsQ.nil _)) rfl)) ?_
 obtain ⟨x3, hx3, h⟩ := aa h
 refine SmG.call hF rfl rfl (by kernel_rfl) rfl rfl rfl (ak.args (jr hx3) (fun C => (bV (by repeat' first | exact D.le.refl _ | exact a8 _ _ _ | exact aV _ _ _ | refine bb ?_ | exact LeRows.nil | refine LeRows.cons ?_ ?_ | exact LeL.nil | refine LeL.cons ?_ ?_ | refine bc ?_ | refine bd ?_) (bV (by repeat' first | exact D.le.refl _ | exact a8 _ _ _ | exact aV _ _ _ | refine bb ?_ | exact LeRows.nil | refine LeRows.cons ?_ ?_ | exact LeL.nil | refine LeL.cons ?_ ?_ | refine bc ?_ | refine bd ?_) (bV (by repeat' first | exact D.le.refl _ | exact a8 _ _ _ | exact aV _ _ _ | refine bb ?_ | exact LeRows.nil | refine LeRows.cons ?_ ?_ | exact LeL.nil | refine LeL.cons ?_ ?_ | refine bc ?_ | refine bd ?_) (fun _ h => h)))))) ?_
 refine gv hF oM ?_
 refine gv hF (b8 rfl rfl rfl) ?_
 refine gv hF (b8 rfl rfl rfl) ?_
 refine gv hF oA ?_
 refine gv hF oA ?_
 refine sn ?_
 refine sr hF ?_
 refine gv hF oM ?_
 refine gv hF (oN (bf u40)) ?_
 refine gv hF oM ?_
 refine gv hF (oN (bf u40)) ?_
 refine gv hF (uK rfl rfl rfl w7) ?_
 refine gv hF oA ?_
 refine sn ?_
 refine sr hF ?_
 refine gv hF oM ?_
 refine gv hF oM ?_
 obtain ⟨x4, hx4, h⟩ := aa h
 refine gv hF (dM rfl rfl rfl rfl rfl (oU u40 cW hx4)) ?_
 refine gv hF oA ?_
 refine sn ?_
 refine sr hF ?_
 refine gv hF oM ?_
 refine gv hF oM ?_
 obtain ⟨x5, hx5, h⟩ := aa h
 refine gv hF (dM rfl rfl rfl rfl rfl (oU u41 fF hx5)) ?_
 refine gv hF oA ?_
 refine sn ?_
 refine sr hF ?_
 refine gv hF oM ?_
 refine gv hF oM ?_
 obtain ⟨x6, hx6, h⟩ := aa h
 refine gv hF (dM rfl rfl rfl rfl rfl (oU u40 cW hx6)) ?_
 refine gv hF oA ?_
 refine sn ?_
 refine sr hF ?_
 refine gv hF oM ?_
 refine gv hF oM ?_
 obtain ⟨x7, hx7, h⟩ := aa h
 refine gv hF (dM rfl rfl rfl rfl rfl (oU u41 fF hx7)) ?_
 refine gv hF oA ?_
 refine sn ?_
 refine sr hF ?_
 refine gv hF oM ?_
 refine gv hF oM ?_
 obtain ⟨x8, hx8, h⟩ := aa h
 refine SmG.call hF rfl rfl (by kernel_rfl) rfl rfl rfl (mQ hx8) ?_
 refine gv hF oA ?_
 refine sn ?_
 refine Sm.seq ?_
 obtain ⟨v19, hv19, h⟩ := aa h
 refine dE ⟨[(7, .d (.v (.bool x1))), (8, .d (.list 5 (x4.map Ps.row) false)), (9, .d (.list 2 (x5.map Rs.row) false)), (10, .d (.list 5 (x6.map Ps.row) false)), (11, .d (.list 2 (x7.map Rs.row) false)), (13, .d (.v (.bool v19)))], [], 0⟩ ?_ ?_
 ·replace h := hv19
  refine sr hF ?_
  refine gv hF oA ?_
  refine sn ?_
  refine Sm.block ?_
  refine bi (dU x2 x3 x5 x7) (fun s9 => ⟨[(7, .d (.v (.bool x1))), (8, .d (.list 5 (x4.map Ps.row) false)), (9, .d (.list 2 (x5.map Rs.row) false)), (10, .d (.list 5 (x6.map Ps.row) false)), (11, .d (.list 2 (x7.map Rs.row) false)), (12, .i (min (x2.1.length : Int) (x3.1.length : Int))), (13, .d (.v (.bool s9.1))), (14, .i s9.2)], [], 0⟩) (x8, 0) h (kA) ?_
  intro n10 s9 o11 h hd12
  unfold dU at h
  refine Sm.seq ?_
  refine sr hF ?_
  refine gv hF oM ?_
  refine gv hF oM ?_
  refine gv hF (oB (bq)) ?_
  refine sn ?_
  refine aA hF rfl (fun hc13 => ?_) (fun hc13 => ?_)
  ·replace h := ifF hc13 h
   refine Sm.exit ?_
   replace h := aE h hd12
   obtain rfl := ac h
   exact (kA)
  replace h := ifT hc13 h
  refine sk ?_
  refine Sm.seq ?_
  obtain ⟨v17, hv17, h⟩ := aa h
  refine ba ⟨[(7, .d (.v (.bool x1))), (8, .d (.list 5 (x4.map Ps.row) false)), (9, .d (.list 2 (x5.map Rs.row) false)), (10, .d (.list 5 (x6.map Ps.row) false)), (11, .d (.list 2 (x7.map Rs.row) false)), (12, .i (min (x2.1.length : Int) (x3.1.length : Int))), (13, .d (.v (.bool v17))), (14, .i s9.2)], [], 0⟩ ?_ ?_
  ·refine ab hF rfl ?_
   refine gv hF oM ?_
   obtain ⟨x18, hx18, h⟩ := aa h
   refine gv hF (oB (aW hx18)) ?_
   refine gv hF oA ?_
   refine SmG.nil ?_
   exact bm (be h hd12) (kA)
  replace h := hv17
  refine Sm.block ?_
  refine aX hF (by kernel_rfl) rfl 10 (by kernel_rfl) (by kernel_rfl) ?_
  simp only [List.take_succ_cons, List.take_zero, List.take_nil]
  refine hv hF oM ?_
  rcases bC s9.1 with hc14 | hc14
  ·replace h := ifF hc14 h
   refine hv hF (au rfl rfl hc14) ?_
   refine hp hF ?_
   refine hp hF ?_
   refine hp hF ?_
   refine hp hF ?_
   refine hp hF ?_
   refine hp hF ?_
   refine hp hF ?_
   refine hp hF ?_
   refine ag.last ⟨rfl, ?_⟩
   simp only [List.drop_succ_cons, List.drop_zero, List.drop_nil, List.nil_append, List.cons_append]
   refine gp hF ?_
   refine gv hF (aq rfl rfl rfl) ?_
   refine gv hF oA ?_
   refine SmG.nil ?_
   refine am ?_
   obtain rfl := ac h
   exact (kA)
  replace h := ifT hc14 h
  refine hv hF (au rfl rfl hc14) ?_
  refine hv hF oM ?_
  refine hv hF oM ?_
  obtain ⟨x15, hx15, h⟩ := aa h
  refine hv hF (oI (aU u41 fF hx15)) ?_
  refine hv hF (x := .d (.agg 2 (Rs.row x15))) (oL (b7 kh fF rfl rfl)) ?_
  refine hv hF oM ?_
  refine hv hF oM ?_
  obtain ⟨x16, hx16, h⟩ := aa h
  refine hv hF (oI (aU u41 fF hx16)) ?_
  refine hv hF (x := .d (.agg 2 (Rs.row x16))) (oL (b7 kh fF rfl rfl)) ?_
  refine ag.last ⟨rfl, ?_⟩
  simp only [List.drop_succ_cons, List.drop_zero, List.drop_nil, List.nil_append, List.cons_append]
  refine gv hF (gZ rfl rfl rfl (wl (ds := [.int .i64, .int .i64]) (by kernel_rfl) (by kernel_rfl) rfl)) ?_
  refine gv hF (aK rfl rfl rfl) ?_
  refine gv hF oA ?_
  refine SmG.nil ?_
  refine am ?_
  obtain rfl := ac h
  exact (kA)
 refine sr hF ?_
 refine gv hF oM ?_
 refine gv hF oM ?_
 obtain ⟨x20, hx20, h⟩ := aa h
 refine SmG.call hF rfl rfl (by kernel_rfl) rfl rfl rfl (jP hx20) ?_
 refine SmG.new hF rfl rfl rfl (aO rfl jp) ?_
 obtain ⟨x21, hx21, h⟩ := aa h
 refine SmG.store hF rfl rfl rfl rfl rfl (jw rfl rfl cJ rfl (cG hx21)) ?_
 refine sn ?_
 refine sr hF ?_
 refine gv hF oM ?_
 refine gv hF oM ?_
 obtain ⟨x22, hx22, h⟩ := aa h
 refine SmG.call hF rfl rfl (by kernel_rfl) rfl rfl rfl (jP hx22) ?_
 refine SmG.new hF rfl rfl rfl (aO rfl jp) ?_
 obtain ⟨x23, hx23, h⟩ := aa h
 refine SmG.store hF rfl rfl rfl rfl rfl (jw rfl rfl cJ rfl (cG hx23)) ?_
 refine sn ?_
 refine Sm.seq ?_
 refine sr hF ?_
 refine gv hF oM ?_
 refine sn ?_
 refine bF hF rfl (fun hc24 => ?_) (fun hc24 => ?_)
 ·replace h := ifT hc24 h
  refine sr hF ?_
  refine gv hF oM ?_
  rcases bC x1 with hc25 | hc25
  ·replace h := ifF hc25 h
   refine gv hF (au rfl rfl hc25) ?_
   refine gp hF ?_
   refine gp hF ?_
   refine gp hF ?_
   refine gv hF (aq rfl rfl rfl) ?_
   refine gv hF oA ?_
   refine sn ?_
   refine Sm.ret ?_
   obtain rfl := ac h
   exact bE rfl rfl
  replace h := ifT hc25 h
  refine gv hF (au rfl rfl hc25) ?_
  refine gv hF (x := .d (.agg 32 (aJ x20))) (oL (f8 rfl fG cJ)) ?_
  refine gv hF (x := .d (.agg 32 (aJ x22))) (oL (f8 rfl fG cJ)) ?_
  obtain ⟨x26, hx26, h⟩ := aa h
  obtain ⟨x27, hx27, h⟩ := aa h
  refine gv hF (gZ rfl rfl rfl (iW (by kernel_rfl) (by kernel_rfl) (cG hx26) (cG hx27))) ?_
  refine gv hF (aK rfl rfl rfl) ?_
  refine gv hF oA ?_
  refine sn ?_
  refine Sm.ret ?_
  obtain rfl := ac h
  exact bE rfl rfl
 replace h := ifF hc24 h
 refine sk ?_
 refine sr hF ?_
 refine gv hF oM ?_
 rcases bC x1 with hc28 | hc28
 ·replace h := ifF hc28 h
  refine gv hF (au rfl rfl hc28) ?_
  refine gp hF ?_
  refine gp hF ?_
  refine gp hF ?_
  refine gp hF ?_
  refine gp hF ?_
  refine gp hF ?_
  refine gp hF ?_
  refine gp hF ?_
  refine gp hF ?_
  refine gp hF ?_
  refine gp hF ?_
  refine gp hF ?_
  refine gp hF ?_
  refine gp hF ?_
  refine gv hF (aq rfl rfl rfl) ?_
  refine gv hF oA ?_
  refine sn ?_
  refine Sm.ret ?_
  obtain rfl := ac h
  exact bE rfl rfl
 replace h := ifT hc28 h
 refine gv hF (au rfl rfl hc28) ?_
 refine gv hF (x := .d (.agg 32 (aJ x20))) (oL (f8 rfl fG cJ)) ?_
 refine gv hF (x := .d (.agg 32 (aJ x22))) (oL (f8 rfl fG cJ)) ?_
 obtain ⟨x29, hx29, h⟩ := aa h
 obtain ⟨x30, hx30, h⟩ := aa h
 refine gv hF (za rfl rfl rfl (iW (by kernel_rfl) (by kernel_rfl) (cG hx29) (cG hx30))) ?_
 rcases kT (!(x20 == x22)) with hc31 | hc31
 ·replace h := ifT hc31 h
  refine gv hF (au rfl rfl hc31) ?_
  refine gp hF ?_
  refine gp hF ?_
  refine gp hF ?_
  refine gp hF ?_
  refine gp hF ?_
  refine gp hF ?_
  refine gp hF ?_
  refine gp hF ?_
  refine gp hF ?_
  refine gv hF (aK rfl rfl rfl) ?_
  refine gv hF (aK rfl rfl rfl) ?_
  refine gv hF oA ?_
  refine sn ?_
  refine Sm.ret ?_
  obtain rfl := ac h
  exact bE rfl rfl
 replace h := ifF hc31 h
 refine gv hF (au rfl rfl hc31) ?_
 refine gv hF oM ?_
 refine gv hF oM ?_
 obtain ⟨x32, hx32, h⟩ := aa h
 refine SmG.call hF rfl rfl (by kernel_rfl) rfl rfl rfl (jb hx32) ?_
 obtain ⟨x33, hx33, h⟩ := aa h
 refine SmG.call hF rfl rfl (by kernel_rfl) rfl rfl rfl (jV hx33) ?_
 refine gv hF oM ?_
 refine gv hF oM ?_
 obtain ⟨x34, hx34, h⟩ := aa h
 refine SmG.call hF rfl rfl (by kernel_rfl) rfl rfl rfl (jb hx34) ?_
 obtain ⟨x35, hx35, h⟩ := aa h
 refine SmG.call hF rfl rfl (by kernel_rfl) rfl rfl rfl (jV hx35) ?_
 obtain ⟨x36, hx36, h⟩ := aa h
 refine SmG.call hF rfl rfl (by kernel_rfl) rfl rfl rfl (nR hx36) ?_
 refine gv hF (aq rfl rfl rfl) ?_
 refine gv hF (aK rfl rfl rfl) ?_
 refine gv hF oA ?_
 refine sn ?_
 refine Sm.ret ?_
 obtain rfl := ac h
 exact bE rfl rfl
end
section
open Go.RowKit
set_option maxRecDepth 100000
theorem ma (a b : Int) : Ok (cK a b) fun v => (v = 0 ↔ a = b) := by
 unfold cK
 refine Ok.cond (fun h => Ok.ret ?_) fun h => Ok.cond (fun h2 => Ok.ret ?_) fun h2 => Ok.ret ?_
 all_goals simp only [decide_eq_true_eq, decide_eq_false_iff_not] at h
 ·omega
 ·simp only [decide_eq_true_eq] at h2; omega
 ·simp only [decide_eq_false_iff_not] at h2; omega
theorem rb (a b : List Int) (ha : a.length ≤ 9223372036854775807) : Ok (dN a b) fun v => (v = 0 ↔ a = b) := by
 unfold dN
 refine Ok.bind (P := fun o => match o with | .inl () => a.take (min a.length b.length) = b.take (min a.length b.length) | .inr v => v ≠ 0 ∧ a ≠ b) ?_ ?_
 ·refine Ok.loop (fun s : Int => ∃ i : Nat, s = i ∧ i ≤ a.length ∧ i ≤ b.length ∧ a.take i = b.take i) (fun s : Int => a.length - s.toNat) ⟨0, rfl, by omega, by omega, by simp⟩ ?_
  rintro _ ⟨i, rfl, h1, h2, h3⟩
  unfold dJ
  refine Ok.cond (fun c1 => ?_) fun c1 => Ok.ret ?_
  ·refine Ok.cond (fun c2 => ?_) fun c2 => Ok.ret ?_
   ·simp only [decide_eq_true_eq] at c1 c2
    have ea : a[i]? = some (a[i]'(by omega)) := List.getElem?_eq_getElem _
    have eb : b[i]? = some (b[i]'(by omega)) := List.getElem?_eq_getElem _
    generalize a[i]'(by omega) = x at ea
    generalize b[i]'(by omega) = y at eb
    simp only [ek, ea, eb, ah]
    refine Ok.cond (fun c3 => ?_) fun c3 => ?_
    ·refine Ok.bind (ma x y) fun v hv => Ok.ret ?_
     have hxy : x ≠ y := by simpa using c3
     exact ⟨fun h => hxy (hv.1 h), fun h => by subst h; rw [ea] at eb; exact hxy (Option.some.inj eb)⟩
    ·have hxy : x = y := by simpa using c3
     rw [aR (by omega), ah]
     refine Ok.ret ⟨⟨i + 1, by omega, by omega, by omega, ?_⟩, by omega⟩
     rw [List.take_add_one, List.take_add_one, ea, eb, h3, hxy]
   ·simp only [decide_eq_false_iff_not] at c2
    have : min a.length b.length = i := by omega
    simp only [this]; exact h3
  ·simp only [decide_eq_false_iff_not] at c1
   have : min a.length b.length = i := by omega
   simp only [this]; exact h3
 ·rintro (⟨⟩ | v) h
  ·refine Ok.bind (ma _ _) fun v hv => Ok.ret ?_
   simp only at h
   rw [hv]
   constructor
   ·intro e
    have e : a.length = b.length := by omega
    rw [e, Nat.min_self, List.take_length] at h
    rw [← e, List.take_length] at h
    exact h
   ·intro e; rw [e]
  ·exact Ok.ret ⟨fun e => absurd e h.1, fun e => absurd e h.2⟩
structure PsFit (p : Ps) : Prop where
 a : p.at_.length ≤ 9223372036854775807
 b : p.h0.length ≤ 9223372036854775807
 c : p.h1.length ≤ 9223372036854775807
theorem uN (p q : Ps) (hp : PsFit p) : Ok (eZ p q) fun v => (v = 0 ↔ p = q) := by
 unfold eZ
 refine Ok.bind (rb _ _ hp.a) fun v1 h1 => ?_
 refine Ok.bind (rb _ _ hp.b) fun v2 h2 => ?_
 refine Ok.bind (rb _ _ hp.c) fun v3 h3 => ?_
 refine Ok.bind (ma _ _) fun v4 h4 => ?_
 refine Ok.bind (ma _ _) fun v5 h5 => ?_
 have hpq : p = q ↔ v1 = 0 ∧ v2 = 0 ∧ v3 = 0 ∧ v4 = 0 ∧ v5 = 0 := by
  rw [h1, h2, h3, h4, h5]
  obtain ⟨a, b, c, d, e⟩ := p
  obtain ⟨a', b', c', d', e'⟩ := q
  simp only [Ps.mk.injEq]
 rw [hpq]
 refine Ok.bind (P := fun o => match o with | .inl () => ∀ i, i < 5 → [v1, v2, v3, v4, v5][i]? = some 0 | .inr v => v ≠ 0 ∧ v ∈ [v1, v2, v3, v4, v5]) ?_ ?_
 ·refine Ok.loop (fun s : Int => ∃ i : Nat, s = i ∧ i ≤ 5 ∧ ∀ j, j < i → [v1, v2, v3, v4, v5][j]? = some 0) (fun s : Int => 5 - s.toNat) ⟨0, rfl, by omega, fun j h => by omega⟩ ?_
  rintro _ ⟨i, rfl, hi, hall⟩
  unfold cV
  refine Ok.cond (fun c1 => ?_) fun c1 => Ok.ret ?_
  ·simp only [decide_eq_true_eq, List.length_cons, List.length_nil] at c1
   have hi5 : i < [v1, v2, v3, v4, v5].length := by simp only [List.length_cons, List.length_nil]; omega
   have e : [v1, v2, v3, v4, v5][i]? = some ([v1, v2, v3, v4, v5][i]'hi5) := List.getElem?_eq_getElem _
   generalize [v1, v2, v3, v4, v5][i]'hi5 = x at e
   simp only [ek, e, ah]
   refine Ok.cond (fun c2 => Ok.ret ⟨by simpa using c2, List.mem_of_getElem? e⟩) fun c2 => ?_
   rw [aR (by omega), ah]
   refine Ok.ret ⟨⟨i + 1, by omega, by omega, fun j hj => ?_⟩, by omega⟩
   rcases Nat.lt_or_ge j i with h | h
   ·exact hall j h
   ·obtain rfl : j = i := by omega
    rw [e]; simpa using c2
  ·simp only [decide_eq_false_iff_not, List.length_cons, List.length_nil] at c1
   intro j hj; exact hall j (by omega)
 ·rintro (⟨⟩ | v) h
  ·refine Ok.ret ?_
   simp only at h
   have g0 := h 0 (by omega); have g1 := h 1 (by omega); have g2 := h 2 (by omega); have g3 := h 3 (by omega); have g4 := h 4 (by omega)
   simp at g0 g1 g2 g3 g4
   simp [g0, g1, g2, g3, g4]
  ·refine Ok.ret ⟨fun e => absurd e h.1, fun e => ?_⟩
   obtain ⟨e1, e2, e3, e4, e5⟩ := e
   have := h.2
   simp [e1, e2, e3, e4, e5] at this
   exact this
theorem zB (p q : Ps) (hp : PsFit p) : fH p q = some (decide (p = q)) := by
 unfold fH
 obtain ⟨v, h1, h2⟩ := uN p q hp
 rw [gJ h1]
 congr 1
 rw [Bool.eq_iff_iff]
 simp [h2]
theorem yp (l m : List Ps) (hl : l.length ≤ 9223372036854775807) (hp : ∀ p ∈ l, PsFit p) : fm l m = some (decide (l = m)) := by
 refine Ok.get ?_
 unfold fm
 refine Ok.cond (fun c => Ok.ret ?_) fun c => ?_
 ·have : l ≠ m := fun e => by subst e; simp at c
  simp [this]
 ·have hlm : l.length = m.length := by simp at c; omega
  refine Ok.bind (P := fun o => match o with | .inl () => l = m | .inr v => v = false ∧ l ≠ m) ?_ ?_
  ·refine Ok.loop (fun s : Int => ∃ i : Nat, s = i ∧ i ≤ l.length ∧ l.take i = m.take i) (fun s : Int => l.length - s.toNat) ⟨0, rfl, by omega, by simp⟩ ?_
   rintro _ ⟨i, rfl, hi, h3⟩
   unfold dC
   refine Ok.cond (fun c1 => ?_) fun c1 => Ok.ret ?_
   ·simp only [decide_eq_true_eq] at c1
    have ea : l[i]? = some (l[i]'(by omega)) := List.getElem?_eq_getElem _
    have eb : m[i]? = some (m[i]'(by omega)) := List.getElem?_eq_getElem _
    have hx := hp (l[i]'(by omega)) (List.getElem_mem _)
    generalize l[i]'(by omega) = x at ea hx
    generalize m[i]'(by omega) = y at eb
    simp only [ek, ea, eb, ah, zB x y hx]
    refine Ok.cond (fun c3 => Ok.ret ?_) fun c3 => ?_
    ·refine ⟨rfl, fun e => ?_⟩
     subst e; rw [ea] at eb; cases eb; simp at c3
    ·have hxy : x = y := by simpa using c3
     rw [aR (by omega), ah]
     refine Ok.ret ⟨⟨i + 1, by omega, by omega, ?_⟩, by omega⟩
     rw [List.take_add_one, List.take_add_one, ea, eb, h3, hxy]
   ·simp only [decide_eq_false_iff_not] at c1
    have : i = l.length := by omega
    rw [this, List.take_length, hlm, List.take_length] at h3
    exact h3
  ·rintro (⟨⟩ | v) h
   ·exact Ok.ret (by simpa using h)
   ·exact Ok.ret (by simp [h.1, h.2])
end
section
open Go.RowKit
set_option maxRecDepth 100000
theorem nC {α : Type} (ls : List (List α)) (i : Nat) (x : List α) (h : ls[i]? = some x) : (ls.take (i + 1)).flatten.length = (ls.take i).flatten.length + x.length ∧ (ls.take (i + 1)).flatten = (ls.take i).flatten ++ x := by
 have hi := (List.getElem?_eq_some_iff.1 h).1
 rw [List.take_add_one, h]; simp
theorem jN {α : Type} (ls : List (List α)) (i : Nat) : (ls.take i).flatten.length ≤ ls.flatten.length := by
 have := congrArg (fun l => l.flatten.length) (List.take_append_drop i ls)
 simp only [List.flatten_append, List.length_append] at this
 omega
theorem ta (n : Int) (h : 0 ≤ n ∧ n ≤ 4294967296) : eu [] n = some [] := by
 refine Ok.get ?_
 unfold eu
 refine Ok.cond (fun c => ?_) fun _ => ?_
 ·simp only [decide_eq_true_eq] at c; omega
 ·rw [aR (by omega), ah]
  refine Ok.cond (fun c => ?_) fun _ => Ok.ret rfl
  simp only [decide_eq_true_eq] at c
  have : q7 (n - 0) = some (n - 0).toNat := if_pos (by omega)
  rw [this, ah]; exact Ok.ret rfl
theorem qX (ls : List (List Int)) (h : ls.flatten.length ≤ 4294967296) (hl : ls.length ≤ 4294967296) : dH ls = some ls.flatten := by
 unfold dH
 have h1 : bx (bX ls) (0, 0) = some (ls.flatten.length : Int) := by
  have := lP (body := bX ls) (fun i => (((ls.take i).flatten.length : Nat), (i : Int))) ls.length (e := (ls.flatten.length : Int)) (fun i hi => by
   have hx : ls[i]? = some (ls[i]'hi) := List.getElem?_eq_getElem _
   generalize ls[i]'hi = x at hx
   have hle := jN ls (i + 1)
   have hst := (nC ls i x hx).1
   unfold bX
   simp only
   rw [ji (by omega), cond_true, ek, hx, ah, aR (by omega), ah, gM (by omega), cond_false, aR (by omega), ah, hst]
   rfl) (by
   unfold bX
   simp only [List.take_length]
   rw [gM (by omega), cond_false])
  simpa using this
 rw [gJ h1, gJ (ta _ (by omega))]
 have h2 : bx (bY ls) (0, []) = some ls.flatten := by
  have := lP (body := bY ls) (fun i => ((i : Int), (ls.take i).flatten)) ls.length (e := ls.flatten) (fun i hi => by
   have hx : ls[i]? = some (ls[i]'hi) := List.getElem?_eq_getElem _
   generalize ls[i]'hi = x at hx
   have hle := jN ls (i + 1)
   obtain ⟨hst, hst2⟩ := nC ls i x hx
   unfold bY
   simp only
   rw [ji (by omega), cond_true, ek, hx, ah, bI (by omega), ah, aR (by omega), ah, hst2]
   rfl) (by
   unfold bY
   simp only [List.take_length]
   rw [gM (by omega), cond_false])
  simpa using this
 rw [gJ h2]
theorem qY (n : Int) (h : 0 ≤ n ∧ n ≤ 4294967296) : dG [] n = some [] := by
 refine Ok.get ?_
 unfold dG
 refine Ok.cond (fun c => ?_) fun _ => ?_
 ·simp only [decide_eq_true_eq] at c; omega
 ·rw [aR (by omega), ah]
  refine Ok.cond (fun c => ?_) fun _ => Ok.ret rfl
  simp only [decide_eq_true_eq] at c
  have : q7 (n - 0) = some (n - 0).toNat := if_pos (by omega)
  rw [this, ah]; exact Ok.ret rfl
theorem pB (ls : List (List UInt8)) (h : ls.flatten.length ≤ 4294967296) (hl : ls.length ≤ 4294967296) : c8 ls = some ls.flatten := by
 unfold c8
 have h1 : bx (bP ls) (0, 0) = some (ls.flatten.length : Int) := by
  have := lP (body := bP ls) (fun i => (((ls.take i).flatten.length : Nat), (i : Int))) ls.length (e := (ls.flatten.length : Int)) (fun i hi => by
   have hx : ls[i]? = some (ls[i]'hi) := List.getElem?_eq_getElem _
   generalize ls[i]'hi = x at hx
   have hle := jN ls (i + 1)
   have hst := (nC ls i x hx).1
   unfold bP
   simp only
   rw [ji (by omega), cond_true, ek, hx, ah, aR (by omega), ah, gM (by omega), cond_false, aR (by omega), ah, hst]
   rfl) (by
   unfold bP
   simp only [List.take_length]
   rw [gM (by omega), cond_false])
  simpa using this
 rw [gJ h1, gJ (qY _ (by omega))]
 have h2 : bx (bO ls) (0, []) = some ls.flatten := by
  have := lP (body := bO ls) (fun i => ((i : Int), (ls.take i).flatten)) ls.length (e := ls.flatten) (fun i hi => by
   have hx : ls[i]? = some (ls[i]'hi) := List.getElem?_eq_getElem _
   generalize ls[i]'hi = x at hx
   have hle := jN ls (i + 1)
   obtain ⟨hst, hst2⟩ := nC ls i x hx
   unfold bO
   simp only
   rw [ji (by omega), cond_true, ek, hx, ah, bI (by omega), ah, aR (by omega), ah, hst2]
   rfl) (by
   unfold bO
   simp only [List.take_length]
   rw [gM (by omega), cond_false])
  simpa using this
 rw [gJ h2]
theorem Au (n : Int) : w8 n = ip n := rfl
theorem vl (p : Ps) (h : p.at_.length ≤ 1000000000) (h0 : p.h0.length ≤ 1000000000) (h1 : p.h1.length ≤ 1000000000) : eU p = some (iE p) := by
 unfold eU iE
 rw [bI (by simp; omega), ah, bI (by simp; omega), ah, bI (by simp; omega), ah, bI (by simp; omega), ah]
 simp
theorem pw {body : (Int × List UInt8) → Option ((Int × List UInt8) ⊕ List UInt8)} (l : List Int) (hl : l.length ≤ 4294967295)
  (hb : ∀ s, body s = (bif (decide (s.1 < (l.length : Int))) then (ob (idx l s.1) fun x => ob (app s.2 [(w8 x)]) fun y => ob (arI .i64 (s.1 + 1)) fun z => some (.inl (z, y))) else some (.inr s.2))) : bx body (0, []) = some (l.map ip) :=
 kz l ip (fun i x acc hx hacc => by
  have hi := (List.getElem?_eq_some_iff.1 hx).1
  rw [hb]
  simp only
  rw [ji (by omega), cond_true, ek, hx, ah, bI (by simp; omega), ah, aR (by omega), ah]; rfl) (fun acc => by
  rw [hb]; simp only
  rw [gM (by omega), cond_false])
theorem wC (p : Ps) (h : p.at_.length ≤ 1000000000) (h0 : p.h0.length ≤ 1000000000) (h1 : p.h1.length ≤ 1000000000) : f9 p = some (m4 p) := by
 unfold f9
 rw [vl p h h0 h1, ah, pw (body := gj (iE p)) (iE p) (by simp [iE]; omega) (fun s => rfl), ah]; rfl
theorem Aj (p : Ps) (h : p.at_.length ≤ 1000000000) (h0 : p.h0.length ≤ 1000000000) (h1 : p.h1.length ≤ 1000000000) : kx p = some (m4 p) := by
 unfold kx
 rw [qX _ (by simp; omega) (by simp), ah]
 have : [p.at_, p.h0, p.h1, [p.rights, p.side]].flatten = iE p := by simp [iE]
 rw [this, pw (body := jO (iE p)) (iE p) (by simp [iE]; omega) (fun s => rfl), ah]; rfl
theorem s3 (l : List Int) (h : l.length ≤ 4294967295) : gt l = some (l.map ip) := by
 unfold gt
 rw [pw (body := gU l) l h (fun s => rfl), ah]
structure PsB (p : Ps) : Prop where
 a : p.at_.length ≤ 1000000000
 b : p.h0.length ≤ 1000000000
 c : p.h1.length ≤ 1000000000
theorem PsB.fit {p : Ps} (h : PsB p) : PsFit p := ⟨by have := h.a; omega, by have := h.b; omega, by have := h.c; omega⟩
theorem tt (p : Ps) : (m4 p).length = p.at_.length + p.h0.length + p.h1.length + 2 := by simp [m4, iE]; omega
theorem q6 (p : Ps) (r : Rs) (h : PsB p) : fZ p r = some (dL p r) := by
 have ha := h.a
 have hb := h.b
 have hc := h.c
 unfold fZ
 have hk := tt p
 rw [s3 _ (by simp), ah, Aj p h.a h.b h.c, ah, rN (by omega), ah, nm (by omega), ah, nm (by omega), ah, nm (by omega), ah, s3 _ (by simp), ah, pB _ (by simp; omega) (by simp), ah]
 simp [dL, pD]
theorem qC (p : Ps) (r : Rs) (h : PsB p) : eO p r = some (dL p r) := by
 have ha := h.a
 have hb := h.b
 have hc := h.c
 unfold eO
 have hk := tt p
 rw [wC p h.a h.b h.c, ah, rN (by omega), ah, bI (by simp; omega), ah, bI (by simp; omega), ah]
 have hloop : bx (cT r) (3, [w8 p.at_.length, w8 p.h0.length, w8 p.h1.length] ++ m4 p ++ [w8 r.out]) = some (dL p r) := by
  generalize hL : [w8 p.at_.length, w8 p.h0.length, w8 p.h1.length] ++ m4 p ++ [w8 r.out] = L
  have hLl : L.length ≤ 4000000000 := by rw [← hL]; simp; omega
  have step : ∀ (i : Int) (l : List UInt8), 0 ≤ i → i ≤ 3 → l.length ≤ 4000000010 → cT r (i, l) = some (.inl (i - 1, l ++ [w8 (r.n / 2 ^ (8 * i).toNat)])) := fun i l h0 h3 hl => by
   unfold cT
   simp only
   rw [DA (by omega), cond_true, aR (by omega), ah, nm (by omega), ah, bI (by simp; omega), ah, aR (by omega), ah]
  refine i5 (step 3 _ (by omega) (by omega) (by omega)) (i5 (step _ _ (by omega) (by omega) (by simp; omega)) (i5 (step _ _ (by omega) (by omega) (by simp; omega)) (i5 (step _ _ (by omega) (by omega) (by simp; omega)) (nq ?_))))
  unfold cT
  simp only
  rw [yH (by omega), cond_false, ← hL]
  simp [dL, pD, Au]
 rw [hloop, ah]
end
section
open Go.RowKit
set_option maxRecDepth 100000
structure BrdOk (b : Brd) : Prop where
 c1 : 1 ≤ b.cells
 c9 : b.cells ≤ 9
 nl : b.next.length = 8
 row : ∀ l ∈ b.next, (l.length : Int) = b.cells
 tl : b.turn.length = 8
theorem okT {α : Type} (v : α) : Ok (some v) fun _ => True := ⟨v, rfl, trivial⟩
theorem qN {a b : Int} (h : 0 < b) : Ok (cN a b) fun _ => True := ⟨_, if_neg (by omega), trivial⟩
theorem zj {w h : Int} (h1 : 1 ≤ w ∧ w ≤ 3) (h2 : 1 ≤ h ∧ h ≤ 3) : Ok (fJ w h) fun r => BrdOk r.1 := by
 obtain ⟨n, hn, hn1, hn9⟩ : ∃ n : Int, w * h = n ∧ 1 ≤ n ∧ n ≤ 9 := by
  obtain rfl | rfl | rfl : w = 1 ∨ w = 2 ∨ w = 3 := by omega
  all_goals exact ⟨_, rfl, by omega, by omega⟩
 unfold fJ
 rw [gM (by omega), cond_false, gM (by omega), cond_false, gM (by omega), cond_false, gM (by omega), cond_false, hn, aR (by omega), ah, gM (by omega), cond_false, ah]
 have hin : ∀ (d : Nat) (x : List (List Int)) (y : List Int), d < 8 → Ok (bx (eK w h ((d : Int), x, y)) (0, [])) fun l => (l.length : Int) = n := by
  intro d x y hd
  refine Ok.loop (fun s : Int × List Int => ∃ i : Nat, s.1 = i ∧ (i : Int) ≤ n ∧ s.2.length = i) (fun s => n.toNat - s.1.toNat) ⟨0, rfl, by omega, rfl⟩ ?_
  rintro ⟨_, acc⟩ ⟨i, rfl, hi, ha⟩
  unfold eK
  simp only at ha ⊢
  rw [hn, aR (by omega), ah]
  refine Ok.cond (fun c1 => ?_) fun c1 => Ok.ret (by simp only [decide_eq_false_iff_not] at c1; omega)
  simp only [decide_eq_true_eq] at c1
  have hv : ∀ l : List Int, l.length = 8 → (∀ x ∈ l, -1 ≤ x ∧ x ≤ 1) → ∃ v, idx l (d : Int) = some v ∧ -1 ≤ v ∧ v ≤ 1 := fun l hl hx => ⟨_, dz (by omega) (by omega), hx _ (List.getElem_mem _)⟩
  obtain ⟨a, ha1, ha2⟩ := hv [0, 1, 1, 1, 0, (-1), (-1), (-1)] rfl (by decide)
  obtain ⟨b, hb1, hb2⟩ := hv [(-1), (-1), 0, 1, 1, 1, 0, (-1)] rfl (by decide)
  have q1 := Int.emod_nonneg (i : Int) (b := w) (by omega)
  have q2 := Int.emod_lt_of_pos (i : Int) (b := w) (by omega)
  have q3 : 0 ≤ (i : Int) / w := Int.ediv_nonneg (by omega) (by omega)
  have q4 : (i : Int) / w ≤ i := Int.ediv_le_self _ (by omega)
  rw [bN (by omega) (by omega), ah, ha1, ah, aR (by omega), ah, sM (by omega) (by omega), ah, hb1, ah, aR (by omega), ah]
  refine Ok.bind (P := fun _ => True) ?_ fun v _ => ?_
  ·refine Ok.cond (fun _ => Ok.cond (fun _ => Ok.cond (fun k1 => Ok.cond (fun k2 => ?_) fun _ => okT _) fun _ => okT _) fun _ => okT _) fun _ => okT _
   simp only [decide_eq_true_eq] at k1 k2
   generalize (i : Int) / w + b = z at k1 k2 ⊢
   have : 0 ≤ z * w ∧ z * w ≤ 27 := by
    obtain rfl | rfl | rfl : w = 1 ∨ w = 2 ∨ w = 3 := by omega
    all_goals omega
   rw [aR (by omega), ah, aR (by omega), ah]
   exact okT _
  ·rw [bI (by simp; omega), ah, aR (by omega), ah]
   exact Ok.ret ⟨⟨i + 1, by simp, by omega, by simp [ha]⟩, by simp only; omega⟩
 refine Ok.bind (P := fun r : List (List Int) × List Int => r.1.length = 8 ∧ r.2.length = 8 ∧ ∀ l ∈ r.1, (l.length : Int) = n) ?_ fun r hr => Ok.ret ⟨hn1, hn9, hr.1, hr.2.2, hr.2.1⟩
 refine Ok.loop (fun s : Int × List (List Int) × List Int => ∃ i : Nat, s.1 = i ∧ i ≤ 8 ∧ s.2.1.length = i ∧ s.2.2.length = i ∧ ∀ l ∈ s.2.1, (l.length : Int) = n) (fun s => 8 - s.1.toNat) ⟨0, rfl, by omega, rfl, rfl, fun _ h => by cases h⟩ ?_
 rintro ⟨_, x, y⟩ ⟨i, rfl, hi, hx, hy, hl⟩
 unfold fS
 simp only at hx hy hl ⊢
 refine Ok.cond (fun c1 => ?_) fun c1 => Ok.ret (by simp only [decide_eq_false_iff_not] at c1; simp only; exact ⟨by omega, by omega, hl⟩)
 simp only [decide_eq_true_eq] at c1
 refine Ok.bind (P := fun s : List (List Int) × List Int => s.1.length = i + 1 ∧ s.2.length = i + 1 ∧ ∀ l ∈ s.1, (l.length : Int) = n) ?_ fun s hs => ?_
 ·refine Ok.bind (hin i x y (by omega)) fun v hv => ?_
  rw [bI (by simp; omega), ah, aR (by omega), ah, bN (by omega) (by omega), ah, bI (by simp; omega), ah]
  refine Ok.ret ⟨by simp [hx], by simp [hy], fun l hl' => ?_⟩
  rcases List.mem_append.1 hl' with h | h
  ·exact hl l h
  ·rw [List.mem_singleton.1 h]; exact hv
 ·rw [aR (by omega), ah]
  exact Ok.ret ⟨⟨i + 1, by simp, by omega, hs.1, hs.2.1, hs.2.2⟩, by simp only; omega⟩
theorem vO {b : Brd} {c : Int} (hb : BrdOk b) (hc0 : 0 ≤ c) (hc : c < b.cells) : Ok (eP b c) fun r => BrdOk r.1 := by
 obtain ⟨n, next, turn⟩ := b
 have h1 := hb.c1
 have h9 := hb.c9
 have hnl := hb.nl
 have hrow := hb.row
 have htl := hb.tl
 simp only at h1 h9 hnl hrow htl hc
 unfold eP
 simp only
 rw [gM (by omega), cond_false, yH (by omega), cond_false, bI (by simp; omega), ah]
 have hin : ∀ (d : Nat) (x : List (List Int)), d < 8 → Ok (bx (dP ⟨n, next, turn⟩ c ((d : Int), x)) (0, [])) fun l => (l.length : Int) = n := by
  intro d x hd
  refine Ok.loop (fun s : Int × List Int => ∃ i : Nat, s.1 = i ∧ (i : Int) ≤ n ∧ s.2.length = i) (fun s => n.toNat - s.1.toNat) ⟨0, rfl, by omega, rfl⟩ ?_
  rintro ⟨_, acc⟩ ⟨i, rfl, hi, ha⟩
  unfold dP
  simp only at ha ⊢
  refine Ok.cond (fun c1 => ?_) fun c1 => Ok.ret (by simp only [decide_eq_false_iff_not] at c1; omega)
  simp only [decide_eq_true_eq] at c1
  have hr := hrow (next[d]) (List.getElem_mem _)
  rw [dz (by omega) (by omega), ah]
  refine fe (dz (by omega) (by show (i : Int) < (next[d].length : Int); omega)) ?_
  refine Ok.bind (P := fun _ => True) (Ok.cond (fun _ => okT _) fun _ => Ok.cond (fun _ => okT _) fun _ => okT _) fun v _ => ?_
  rw [bI (by simp; omega), ah, aR (by omega), ah]
  exact Ok.ret ⟨⟨i + 1, by simp, by omega, by simp [ha]⟩, by simp only; omega⟩
 refine Ok.bind (P := fun r : List (List Int) => r.length = 8 ∧ ∀ l ∈ r, (l.length : Int) = n) ?_ fun r hr => Ok.ret ⟨h1, h9, hr.1, hr.2, by simpa using htl⟩
 refine Ok.loop (fun s : Int × List (List Int) => ∃ i : Nat, s.1 = i ∧ i ≤ 8 ∧ s.2.length = i ∧ ∀ l ∈ s.2, (l.length : Int) = n) (fun s => 8 - s.1.toNat) ⟨0, rfl, by omega, rfl, fun _ h => by cases h⟩ ?_
 rintro ⟨_, x⟩ ⟨i, rfl, hi, hx, hl⟩
 unfold e8
 simp only at hx hl ⊢
 refine Ok.cond (fun c1 => ?_) fun c1 => Ok.ret (by simp only [decide_eq_false_iff_not] at c1; exact ⟨by omega, hl⟩)
 simp only [decide_eq_true_eq] at c1
 refine Ok.bind (P := fun s : List (List Int) => s.length = i + 1 ∧ ∀ l ∈ s, (l.length : Int) = n) ?_ fun s hs => ?_
 ·refine Ok.bind (hin i x (by omega)) fun v hv => ?_
  rw [bI (by simp; omega), ah]
  refine Ok.ret ⟨by simp [hx], fun l hl' => ?_⟩
  rcases List.mem_append.1 hl' with h | h
  ·exact hl l h
  ·rw [List.mem_singleton.1 h]; exact hv
 ·rw [aR (by omega), ah]
  exact Ok.ret ⟨⟨i + 1, by simp, by omega, hs.1, hs.2⟩, by simp only; omega⟩
theorem yl (a b c : UInt8) : Ok (fM a b c) BrdOk := by
 have ha := a.toNat_lt
 have hb := b.toNat_lt
 have hc := c.toNat_lt
 unfold fM
 rw [bN (by omega) (by omega), ah, aR (by omega), ah, aR (by omega), ah, bN (by omega) (by omega), ah, aR (by omega), ah, aR (by omega), ah]
 refine Ok.bind (zj (by omega) (by omega)) fun r hr => ?_
 refine Ok.bind (P := fun v : Int × List (List Int) × List Int => BrdOk ⟨v.1, v.2.1, v.2.2⟩) (Ok.cond (fun _ => ?_) fun _ => Ok.ret hr) fun v hv => Ok.ret hv
 have := hr.c1
 rw [bN (by omega) (by omega), ah]
 exact Ok.bind (vO hr (Int.emod_nonneg _ (by omega)) (Int.emod_lt_of_pos _ (by omega))) fun v hv => Ok.ret hv
theorem qf (l : List UInt8) {i : Int} (hi : 0 ≤ i) : Ok (dh l i) fun v => 0 ≤ v ∧ v ≤ 255 := by
 unfold dh
 refine Ok.cond (fun c => ?_) fun _ => Ok.ret (by omega)
 simp only [decide_eq_true_eq] at c
 rw [dz hi c, ah]
 have := (l[i.toNat]'(by omega)).toNat_lt
 exact Ok.ret (by omega)
theorem At (l : List UInt8) : Ok (f6 l) fun r => r.length ≤ 6 := by
 unfold f6
 refine Ok.bind (qf l (by omega)) fun x1 g1 => ?_
 rw [bN (by omega) (by omega), ah]
 refine Ok.bind (qf l (by omega)) fun x3 g3 => ?_
 rw [bN (by omega) (by omega), ah]
 refine Ok.bind (qf l (by omega)) fun x5 g5 => ?_
 rw [bN (by omega) (by omega), ah]
 refine Ok.bind (qf l (by omega)) fun x7 g7 => ?_
 rw [bN (by omega) (by omega), ah, aR (by omega), ah, bN (by omega) (by omega), ah]
 refine Ok.bind (qf l (by omega)) fun x11 g11 => ?_
 have key : ∀ t : List (List Stp), t.length = 16 → (∀ r ∈ t, r.length ≤ 6) → Ok (ob (cN x11 (t.length : Int)) fun x12 => ob (idx t x12) fun x13 => some x13) fun r => r.length ≤ 6 := by
  intro t ht hr
  have ht' : ((t.length : Nat) : Int) = 16 := by omega
  rw [ht', bN (by omega) (by omega), ah, dz (by omega) (by omega), ah]
  exact Ok.ret (hr _ (List.getElem_mem _))
 refine key _ rfl ?_
 intro r hr
 simp only [List.mem_cons, List.not_mem_nil, or_false] at hr
 rcases hr with rfl | rfl | rfl | rfl | rfl | rfl | rfl | rfl | rfl | rfl | rfl | rfl | rfl | rfl | rfl | rfl <;> exact Nat.le_of_ble_eq_true rfl
theorem As {a : List Stp} {d k r : Int} (ha : a.length ≤ 6) (hd : 0 < d) (hk : 0 < k) (hr : 0 ≤ r) : Ok (ga a d k r) fun _ => True := by
 unfold ga
 refine Ok.bind (P := fun _ => True) ?_ fun v _ => Ok.cond (fun _ => okT _) fun _ => okT _
 refine Ok.loop (fun s : Int × List Stp => ∃ i : Nat, s.1 = i ∧ i ≤ a.length ∧ s.2.length ≤ i) (fun s => a.length - s.1.toNat) ⟨0, rfl, by omega, by simp⟩ ?_
 rintro ⟨_, acc⟩ ⟨i, rfl, hi, hl⟩
 unfold gi
 simp only at hl ⊢
 refine Ok.cond (fun c1 => ?_) fun _ => Ok.ret trivial
 simp only [decide_eq_true_eq] at c1
 refine Ok.bind (P := fun v : List Stp => v.length ≤ i + 1) ?_ fun v hv => ?_
 ·rw [dz (by omega) (by omega), ah]
  generalize a[(i : Int).toNat]'(by omega) = x
  have okL : ∀ z : Int, Ok (some (.inl z : Int ⊕ List Stp)) fun o => ∀ e, o = .inr e → e.length ≤ i := fun z => ⟨_, rfl, fun e h => by cases h⟩
  refine Ok.bind (P := fun o : Int ⊕ List Stp => ∀ e, o = .inr e → e.length ≤ i) ?_ fun o ho => ?_
  ·refine Ok.bind (P := fun _ => True) (Ok.cond (fun _ => okT _) fun _ => Ok.cond (fun _ => okT _) fun _ => okT _) fun _ _ => ?_
   refine Ok.cond (fun _ => Ok.bind (qN hd) fun _ _ => okL _) fun _ => Ok.cond (fun _ => Ok.bind (qN hk) fun _ _ => okL _) fun _ => ?_
   refine Ok.bind (P := fun _ => True) (Ok.cond (fun _ => okT _) fun _ => okT _) fun _ _ => ?_
   refine Ok.cond (fun _ => Ok.cond (fun _ => Ok.ret fun e h => by cases h; exact hl) fun c => ?_) fun _ => okL _
   simp only [beq_eq_false_iff_ne, ne_eq] at c
   exact Ok.bind (qN (by omega)) fun _ _ => okL _
  ·cases o with
   | inl v =>
    show Ok (ob (app acc [_]) _) _
    rw [bI (by simp; omega), ah]
    exact Ok.ret (by simp; omega)
   | inr e => exact Ok.ret (by have := ho e rfl; omega)
 ·rw [aR (by omega), ah]
  exact Ok.ret ⟨⟨i + 1, by simp, by omega, hv⟩, by simp only; omega⟩
theorem uk (n : UInt8) {d k r : Int} (hd : 0 < d) (hk : 0 < k) (hr : 0 ≤ r) : Ok (eM n d k r) fun _ => True := by
 have hn := n.toNat_lt
 unfold eM
 rw [mP (by omega) (by omega), ah, ah, bN (by omega) (by omega), ah, wM (by omega), ah, mP (by omega) (by omega), ah]
 have hu : ∀ z : Int, 0 ≤ z ∧ z ≤ 255 → ∃ u, pA z = some u := fun z hz => ⟨_, if_pos hz⟩
 obtain ⟨u1, e1⟩ := hu ((n.toNat : Int) / 16) (by omega)
 obtain ⟨u2, e2⟩ := hu ((n.toNat : Int) / 16 + (n.toNat : Int) % 5) (by omega)
 obtain ⟨u3, e3⟩ := hu ((n.toNat : Int) / 3) (by omega)
 rw [e1, ah, e2, ah, e3, ah]
 exact Ok.bind (At _) fun x9 h9 => Ok.bind (As h9 hd hk hr) fun _ _ => okT _
end
section
open Go.RowKit
set_option maxRecDepth 100000
structure GmFine (g : Gm) : Prop where
 board : BrdOk g.board
 k1 : 1 ≤ g.kinds.length
 k2 : g.kinds.length ≤ 2
 r0 : 0 ≤ g.rights
 r2 : g.rights ≤ 2
theorem De (x : GRaw) : Ok (fL x) GmFine := by
 unfold fL
 refine Ok.bind (yl x.w x.h x.cut) fun b hB => ?_
 have hnl := hB.nl
 have hc1 := hB.c1
 have h0 := x.f0.toNat_lt
 have h1 := x.f1.toNat_lt
 have h3 := x.f3.toNat_lt
 have h4 := x.f4.toNat_lt
 rw [bN (by omega) (by omega), ah, bN (by omega) (by omega), ah]
 obtain ⟨r, hr, hr0, hr2⟩ : ∃ r : Int, (x.f0.toNat : Int) % 3 = r ∧ 0 ≤ r ∧ r ≤ 2 := ⟨_, rfl, by omega, by omega⟩
 rw [hr]
 refine Ok.bind (P := fun v => v = 1 ∨ v = 2) (Ok.cond (fun _ => Ok.ret (.inr rfl)) fun _ => Ok.ret (.inl rfl)) fun kn hkn => ?_
 have hk0 : 0 < kn := by omega
 have hl0 : Ok (bx (eY x b r kn) (0, [])) fun _ => True := by
  refine Ok.loop (fun s : Int × List (List Stp) => ∃ i : Nat, s.1 = i ∧ i ≤ 4 ∧ s.2.length = i) (fun s : Int × List (List Stp) => 4 - s.1.toNat) ⟨0, rfl, by omega, rfl⟩ ?_
  rintro ⟨_, acc⟩ ⟨i, rfl, hi, ha⟩
  unfold eY
  simp only at ha ⊢
  refine Ok.cond (fun c1 => Ok.cond (fun c2 => ?_) fun _ => Ok.ret trivial) fun _ => Ok.ret trivial
  simp only [decide_eq_true_eq] at c1 c2
  rw [dz (by omega) (by omega), ah]
  refine Ok.bind (uk _ (by omega) hk0 hr0) fun _ _ => ?_
  rw [bI (by simp; omega), ah, aR (by omega), ah]
  exact Ok.ret ⟨⟨i + 1, by simp, by omega, by simp [ha]⟩, by simp only; omega⟩
 have hl1 : Ok (bx (eN x b r kn) (0, [])) fun _ => True := by
  refine Ok.loop (fun s : Int × List (List Stp) => ∃ i : Nat, s.1 = i ∧ i ≤ 4 ∧ s.2.length = i) (fun s : Int × List (List Stp) => 4 - s.1.toNat) ⟨0, rfl, by omega, rfl⟩ ?_
  rintro ⟨_, acc⟩ ⟨i, rfl, hi, ha⟩
  unfold eN
  simp only at ha ⊢
  refine Ok.cond (fun c1 => Ok.cond (fun c2 => ?_) fun _ => Ok.ret trivial) fun _ => Ok.ret trivial
  simp only [decide_eq_true_eq] at c1 c2
  rw [dz (by omega) (by omega), ah]
  refine Ok.bind (uk _ (by omega) hk0 hr0) fun _ _ => ?_
  rw [bI (by simp; omega), ah, aR (by omega), ah]
  exact Ok.ret ⟨⟨i + 1, by simp, by omega, by simp [ha]⟩, by simp only; omega⟩
 have hl3 : Ok (bx (eT x b kn) (0, [])) fun _ => True := by
  refine Ok.loop (fun s : Int × List Cls => ∃ i : Nat, s.1 = i ∧ i ≤ 3 ∧ s.2.length = i) (fun s : Int × List Cls => 3 - s.1.toNat) ⟨0, rfl, by omega, rfl⟩ ?_
  rintro ⟨_, acc⟩ ⟨i, rfl, hi, ha⟩
  unfold eT
  simp only at ha ⊢
  refine Ok.cond (fun c1 => Ok.cond (fun c2 => ?_) fun _ => Ok.ret trivial) fun _ => Ok.ret trivial
  simp only [decide_eq_true_eq] at c1 c2
  obtain ⟨e, he⟩ : ∃ e, idx x.c (i : Int) = some e := ⟨_, dz (by omega) (by omega)⟩
  obtain ⟨e1, e2, e3⟩ := e
  have g1 := e1.toNat_lt
  have g2 := e2.toNat_lt
  have g3 := e3.toNat_lt
  simp only [he, ah]
  rw [bN (by omega) (by omega), ah, aR (by omega), ah, mP (by omega) (by omega), ah, aR (by omega), ah, bN (by omega) (by omega), ah, aR (by omega), ah]
  refine Ok.bind (P := fun _ => True) (Ok.cond (fun _ => ?_) fun _ => Ok.ret trivial) fun _ _ => Ok.bind (P := fun _ => True) (Ok.cond (fun _ => ?_) fun _ => Ok.ret trivial) fun _ _ => Ok.bind (P := fun _ => True) (Ok.cond (fun _ => ?_) fun _ => Ok.ret trivial) fun _ _ => ?_
  ·rw [bN (by omega) (by omega), ah]; exact Ok.ret trivial
  ·rw [bN (by omega) (by omega), ah]; exact Ok.ret trivial
  ·rw [bN (by omega) (by omega), ah]; exact Ok.ret trivial
  ·rw [bI (by simp; omega), ah, aR (by omega), ah]
   exact Ok.ret ⟨⟨i + 1, by simp, by omega, by simp [ha]⟩, by simp only; omega⟩
 refine Ok.bind (P := fun l : List Knd => 1 ≤ l.length ∧ l.length ≤ 2) ?_ fun ks hks => ?_
 ·rw [ji hk0, cond_true]
  refine Ok.bind (P := fun l : List Knd => l.length = 1) ?_ fun l hl => ?_
  ·rw [show idx [([97] : List UInt8), [98, 101, 101]] 0 = some [97] from rfl, ah, uB (by omega), ah]
   refine Ok.bind hl0 fun ps _ => ?_
   rw [bI (by simp), ah]
   exact Ok.ret rfl
  ·refine Ok.cond (fun c1 => ?_) fun _ => Ok.ret ⟨by omega, by omega⟩
   refine Ok.bind (P := fun l : List Knd => l.length = 2) ?_ fun l2 hl2 => ?_
   ·rw [show idx [([97] : List UInt8), [98, 101, 101]] 1 = some [98, 101, 101] from rfl, ah, uB (by omega), ah]
    refine Ok.bind hl1 fun ps _ => ?_
    rw [bI (by simp; omega), ah]
    exact Ok.ret (by simp; omega)
   ·rw [gM (by omega), cond_false]
    exact Ok.ret ⟨by omega, by omega⟩
 ·refine Ok.bind (P := fun _ => True) ?_ fun _ _ => Ok.bind (P := fun _ => True) ?_ fun _ _ => Ok.bind hl3 fun _ _ => Ok.ret ⟨hB, hks.1, hks.2, hr0, hr2⟩
  ·rw [bN (by omega) (by omega), ah]
   refine Ok.cond (fun _ => ?_) fun _ => Ok.ret trivial
   rw [mP (by omega) (by omega), ah, aR (by omega), ah, bN (by omega) (by omega), ah, aR (by omega), ah]
   exact Ok.ret trivial
  ·rw [bN (by omega) (by omega), ah]
   refine Ok.cond (fun _ => ?_) fun _ => Ok.ret trivial
   rw [mP (by omega) (by omega), ah, aR (by omega), ah, bN (by omega) (by omega), ah, aR (by omega), ah]
   exact Ok.ret trivial
structure PsFine (g : Gm) (p : Ps) : Prop where
 la : (p.at_.length : Int) = g.board.cells
 l0 : p.h0.length = g.kinds.length
 l1 : p.h1.length = g.kinds.length
 a : ∀ x ∈ p.at_, 0 ≤ x ∧ x ≤ 2 * (g.kinds.length : Int)
 b : ∀ x ∈ p.h0, 0 ≤ x ∧ x ≤ 8
 c : ∀ x ∈ p.h1, 0 ≤ x ∧ x ≤ 8
 r : 0 ≤ p.rights ∧ p.rights < 2 ^ g.rights.toNat
 s : p.side = 0 ∨ p.side = 1
theorem PsFine.ok {g : Gm} {p : Ps} (hg : GmFine g) (h : PsFine g p) : PsOk p := by
 have h1 := hg.board.c9
 have h2 := hg.k2
 have h3 := h.la
 have h4 := h.l0
 have h5 := h.l1
 have hr := hg.r2
 have hr0 := hg.r0
 refine ⟨by omega, by omega, by omega, fun x hx => ?_, fun x hx => ?_, fun x hx => ?_, ?_, ?_⟩
 ·have := h.a x hx; exact ⟨this.1, by omega⟩
 ·have := h.b x hx; exact ⟨this.1, by omega⟩
 ·have := h.c x hx; exact ⟨this.1, by omega⟩
 ·have := h.r
  have h4 : (2 : Int) ^ g.rights.toNat ≤ 4 := by
   have : g.rights.toNat = 0 ∨ g.rights.toNat = 1 ∨ g.rights.toNat = 2 := by omega
   rcases this with h | h | h <;> rw [h] <;> decide
  exact ⟨h.r.1, by have := h.r.2; omega⟩
 ·rcases h.s with e | e <;> rw [e] <;> exact ⟨by omega, by omega⟩
theorem rq (g : Gm) (hs : List UInt8) (o : Nat) (hl : hs.length = 4) (ho : o ≤ 2) (hg : GmFine g) {body : (Int × List Int) → Option ((Int × List Int) ⊕ List Int)}
  (hb : ∀ s, body s = (bif (decide (s.1 < (g.kinds.length : Int))) then (bif (decide (s.1 < 2)) then (ob (ob (idx g.kinds s.1) fun x => bif x.keep then (ob (arI .i64 (o + s.1)) fun a => ob (idx hs a) fun b => ob (cN (b.toNat : Int) 3) fun c => ob (idx s.2 s.1) fun _ => ob (arI .i64 (o + s.1)) fun a2 => ob (idx hs a2) fun b2 =>
   bif (decide (250 < (b2.toNat : Int))) then (ob (idx (s.2.set (s.1 : Int).toNat c) s.1) fun _ => some ((s.2.set (s.1 : Int).toNat c).set (s.1 : Int).toNat 8)) else some (s.2.set (s.1 : Int).toNat c)) else some s.2) fun v => ob (arI .i64 (s.1 + 1)) fun z => some (.inl (z, v))) else some (.inr s.2)) else some (.inr s.2))) :
  Ok (bx body (0, List.replicate g.kinds.length 0)) fun l => l.length = g.kinds.length ∧ ∀ x ∈ l, 0 ≤ x ∧ x ≤ 8 := by
 have hk2 := hg.k2
 refine Ok.loop (fun s : Int × List Int => ∃ i : Nat, s.1 = i ∧ i ≤ 2 ∧ s.2.length = g.kinds.length ∧ ∀ x ∈ s.2, 0 ≤ x ∧ x ≤ 8) (fun s : Int × List Int => 2 - s.1.toNat) ⟨0, rfl, by omega, by simp, fun x hx => by rw [List.eq_of_mem_replicate hx]; omega⟩ ?_
 rintro ⟨_, l⟩ ⟨i, rfl, hi, h1, h2⟩
 rw [hb]
 simp only at h1 h2 ⊢
 refine Ok.cond (fun c1 => Ok.cond (fun c2 => ?_) fun _ => Ok.ret ⟨h1, h2⟩) fun _ => Ok.ret ⟨h1, h2⟩
 simp only [decide_eq_true_eq] at c1 c2
 refine Ok.bind (P := fun v : List Int => v.length = g.kinds.length ∧ ∀ x ∈ v, 0 ≤ x ∧ x ≤ 8) ?_ fun v hv => ?_
 ·rw [dz (by omega) (by omega), ah]
  refine Ok.cond (fun _ => ?_) fun _ => Ok.ret ⟨h1, h2⟩
  rw [aR (by omega), ah]
  obtain ⟨b, hb'⟩ : ∃ b, idx hs ((o : Int) + i) = some b := ⟨_, dz (by omega) (by omega)⟩
  have hbl := b.toNat_lt
  rw [hb', ah, bN (by omega) (by omega), ah, dz (by omega) (by omega), ah, ah, hb', ah]
  have hset : ∀ (l : List Int) (y : Int), (∀ x ∈ l, 0 ≤ x ∧ x ≤ 8) → 0 ≤ y ∧ y ≤ 8 → ∀ x ∈ l.set i y, 0 ≤ x ∧ x ≤ 8 := fun l y hl hy x hx => by
   rcases List.mem_or_eq_of_mem_set hx with h | rfl
   ·exact hl x h
   ·exact hy
  have s1 := hset l ((b.toNat : Int) % 3) h2 (by omega)
  refine Ok.cond (fun _ => ?_) fun _ => Ok.ret ⟨by simpa using h1, by simpa using s1⟩
  rw [dz (by omega) (by simp; omega), ah]
  exact Ok.ret ⟨by simpa using h1, by simpa using hset _ 8 s1 (by omega)⟩
 ·rw [aR (by omega), ah]
  exact Ok.ret ⟨⟨i + 1, by simp, by omega, hv.1, hv.2⟩, by simp only; omega⟩
theorem BU (g : Gm) (y : PRaw) (hg : GmFine g) : Ok (fN g y) (PsFine g) := by
 unfold fN
 have hc1 := hg.board.c1
 have hc9 := hg.board.c9
 have hk1 := hg.k1
 have hk2 := hg.k2
 have hr0 := hg.r0
 have hr2 := hg.r2
 have hyr := y.rights.toNat_lt
 have hys := y.side.toNat_lt
 have hpow : (1 : Int) ≤ 2 ^ g.rights.toNat ∧ (2 : Int) ^ g.rights.toNat ≤ 4 := by
  have : g.rights.toNat = 0 ∨ g.rights.toNat = 1 ∨ g.rights.toNat = 2 := by omega
  rcases this with h | h | h <;> rw [h] <;> decide
 have hshl : sG .i64 1 g.rights = some (2 ^ g.rights.toNat) := by
  unfold sG
  have : min g.rights.toNat IntKind.i64.bits = g.rights.toNat := by show min _ 64 = _; omega
  rw [if_neg (by omega), this, Int.one_mul, ci _ (by omega)]
 rw [rE (by omega), ah, hshl, ah, bN (by omega) (by omega), ah, bN (by omega) (by omega), ah, aR (by omega), ah]
 refine Ok.bind (P := fun l : List Int => (l.length : Int) = g.board.cells ∧ ∀ x ∈ l, 0 ≤ x ∧ x ≤ 2 * (g.kinds.length : Int)) ?_ fun at_ hat => ?_
 ·refine Ok.loop (fun s : Int × List Int => ∃ i : Nat, s.1 = i ∧ i ≤ 6 ∧ (s.2.length : Int) = g.board.cells ∧ ∀ x ∈ s.2, 0 ≤ x ∧ x ≤ 2 * (g.kinds.length : Int)) (fun s : Int × List Int => 6 - s.1.toNat) ⟨0, rfl, by omega, by simp; omega, fun x hx => by rw [List.eq_of_mem_replicate hx]; omega⟩ ?_
  rintro ⟨_, l⟩ ⟨i, rfl, hi, h1, h2⟩
  unfold fU
  simp only at h1 h2 ⊢
  refine Ok.cond (fun c1 => ?_) fun _ => Ok.ret ⟨h1, h2⟩
  simp only [decide_eq_true_eq] at c1
  refine Ok.bind (P := fun v : List Int => (v.length : Int) = g.board.cells ∧ ∀ x ∈ v, 0 ≤ x ∧ x ≤ 2 * (g.kinds.length : Int)) ?_ fun v hv => ?_
  ·obtain ⟨a, ha⟩ : ∃ a, idx [y.c0, y.c1, y.c2, y.c3, y.c4, y.c5] (i : Int) = some a := ⟨_, dz (by omega) (by simp only [List.length_cons, List.length_nil]; omega)⟩
   have hal := a.toNat_lt
   rw [ha, ah, aR (by omega), ah, bN (by omega) (by omega), ah]
   refine Ok.cond (fun c2 => ?_) fun _ => Ok.ret ⟨h1, h2⟩
   simp only [decide_eq_true_eq] at c2
   rw [ji (by omega), cond_true]
   obtain ⟨k, hk⟩ : ∃ k, idx [y.k0, y.k1, y.k2, y.k3, y.k4, y.k5] (i : Int) = some k := ⟨_, dz (by omega) (by simp only [List.length_cons, List.length_nil]; omega)⟩
   have hkl := k.toNat_lt
   rw [hk, ah, bN (by omega) (by omega), ah]
   obtain ⟨q, hq, hq0, hq1⟩ : ∃ q : Int, (k.toNat : Int) % (g.kinds.length : Int) = q ∧ 0 ≤ q ∧ q < (g.kinds.length : Int) := ⟨_, rfl, Int.emod_nonneg _ (by omega), Int.emod_lt_of_pos _ (by omega)⟩
   rw [hq]
   have hcm := Int.emod_nonneg (a.toNat : Int) (show g.board.cells + 1 ≠ 0 by omega)
   rw [aR (by omega), ah, aR (by omega), ah, bN (by omega) (by omega), ah, aR (by omega), ah, dz (by omega) (by omega), ah]
   refine Ok.ret ⟨by simpa using h1, fun x hx => ?_⟩
   rcases List.mem_or_eq_of_mem_set hx with h | rfl
   ·exact h2 x h
   ·omega
  ·rw [aR (by omega), ah]
   exact Ok.ret ⟨⟨i + 1, by simp, by omega, hv.1, hv.2⟩, by simp only; omega⟩
 ·refine Ok.bind (P := fun v : List Int × List Int => (v.1.length = g.kinds.length ∧ ∀ x ∈ v.1, 0 ≤ x ∧ x ≤ 8) ∧ (v.2.length = g.kinds.length ∧ ∀ x ∈ v.2, 0 ≤ x ∧ x ≤ 8)) ?_ fun v hv => ?_
  ·rw [rE (by omega), Int.toNat_natCast]
   refine Ok.bind (P := fun v : List Int => v.length = g.kinds.length ∧ ∀ x ∈ v, 0 ≤ x ∧ x ≤ 8) ?_ fun v1 hv1 => Ok.bind (P := fun v : List Int => v.length = g.kinds.length ∧ ∀ x ∈ v, 0 ≤ x ∧ x ≤ 8) ?_ fun v2 hv2 => Ok.ret ⟨hv1, hv2⟩
   ·rw [ah]; exact rq g [y.h0, y.h1, y.h2, y.h3] 0 rfl (by omega) hg fun s => rfl
   ·rw [ah]; exact rq g [y.h0, y.h1, y.h2, y.h3] 2 rfl (by omega) hg fun s => rfl
  ·refine Ok.ret ⟨hat.1, hv.1.1, hv.2.1, hat.2, hv.1.2, hv.2.2, ⟨Int.emod_nonneg _ (by omega), Int.emod_lt_of_pos _ (by omega)⟩, ?_⟩
   simp only; omega
end
section
open Go.RowKit
set_option maxRecDepth 100000
open Classical
structure PsS (p : Ps) : Prop where
 a : p.at_.length ≤ 200000
 b : p.h0.length ≤ 200000
 c : p.h1.length ≤ 200000
theorem PsS.B {p : Ps} (h : PsS p) : PsB p := ⟨by have := h.a; omega, by have := h.b; omega, by have := h.c; omega⟩
theorem PsOk.S {p : Ps} (h : PsOk p) : PsS p := ⟨by have := h.la; omega, by have := h.l0; omega, by have := h.l1; omega⟩
theorem sD {p : Ps} (h : PsS p) (r : Rs) : (dL p r).length ≤ 700000 := by
 rw [vV]
 have := h.a
 have := h.b
 have := h.c
 simp [iE]; omega
def cR (l : List Ps) (v : List Rs) : List (List UInt8) := (l.zip v).map fun e => dL e.1 e.2
theorem kq (l : List Ps) (v : List Rs) : (cR l v).length = min l.length v.length := by simp [cR]
theorem ul {l : List Ps} {v : List Rs} {i : Nat} {e : Ps × Rs} (h : (l.zip v)[i]? = some e) : l[i]? = some e.1 ∧ v[i]? = some e.2 := by
 rw [List.getElem?_zip_eq_some] at h; exact h
theorem rL (l : List Ps) (v : List Rs) (hl : l.length ≤ 1000000) (hs : ∀ p ∈ l, PsS p) : fR l v = some (cR l v) := by
 unfold fR
 have := kz (body := eR l v) (l.zip v) (fun e => dL e.1 e.2) (fun i e acc he hacc => by
  obtain ⟨h1, h2⟩ := ul he
  have hi := (List.getElem?_eq_some_iff.1 he).1
  rw [List.length_zip] at hi
  have hS := hs e.1 (List.mem_of_getElem? h1)
  unfold eR
  simp only
  rw [ji (by omega), cond_true, ek, ek, h1, h2, ah, ah, q6 _ _ hS.B, ah, bI (by simp; omega), ah, aR (by omega), ah]; rfl) (fun acc => by
  unfold eR
  simp only [List.length_zip]
  rw [gM (by omega), cond_false])
 rw [this, ah]; rfl
theorem nT (l : List Ps) (v : List Rs) (hl : l.length ≤ 1000000) (hs : ∀ p ∈ l, PsS p) : eh l v = some (cR l v) := by
 unfold eh
 have := kz (body := dg l v) (l.zip v) (fun e => dL e.1 e.2) (fun i e acc he hacc => by
  obtain ⟨h1, h2⟩ := ul he
  have hi := (List.getElem?_eq_some_iff.1 he).1
  rw [List.length_zip] at hi
  have hS := hs e.1 (List.mem_of_getElem? h1)
  unfold dg
  simp only
  rw [ji (by omega), cond_true, ji (by omega), cond_true, ek, ek, h1, h2, ah, ah, qC _ _ hS.B, ah, bI (by simp; omega), ah, aR (by omega), ah]; rfl) (fun acc => by
  unfold dg
  simp only [List.length_zip]
  refine Ok.get ?_
  refine Ok.cond (fun c1 => Ok.cond (fun c2 => ?_) fun _ => Ok.ret rfl) fun _ => Ok.ret rfl
  simp only [decide_eq_true_eq] at c1 c2; omega)
 rw [this, ah]; rfl
theorem jH {l : List Ps} {v : List Rs} (hl : l.length ≤ 1000000) (hs : ∀ p ∈ l, PsS p) : Fit (cR l v) := by
 refine ⟨by rw [kq]; omega, fun x hx => ?_⟩
 simp only [cR, List.mem_map] at hx
 obtain ⟨e, he, rfl⟩ := hx
 have := sD (hs e.1 (List.of_mem_zip he).1) e.2
 omega
theorem rm (l : List Ps) (v : List Rs) (hl : l.length ≤ 1000000) (hs : ∀ p ∈ l, PsS p) : fg l v = some (Sha.root (cR l v)) := by
 unfold fg
 rw [rL l v hl hs, ah, show kr (cR l v) = some (Sha.root (cR l v)) from if_pos (jH hl hs), ah, gu (Sha.root_len _), ah]
def ve : Ans := ⟨0, 0, 0, ⟨[], [], [], 0, 0⟩, ⟨0, 0⟩, []⟩
noncomputable def mM (l : List Ps) (v : List Rs) (ver i : Int) : Ans × Int :=
 if h : l.length = v.length ∧ 0 ≤ i ∧ i < (l.length : Int) then (⟨ver, i, l.length, l[i.toNat]'(by omega), v[i.toNat]'(by omega), Sha.proof (cR l v) i.toNat⟩, 0) else (ve, 1)
theorem oH (l : List Ps) (v : List Rs) (ver i : Int) (hl : l.length ≤ 1000000) (hs : ∀ p ∈ l, PsS p) : cY l v ver i = some (mM l v ver i) := by
 refine Ok.get ?_
 unfold cY mM
 refine Ok.cond (fun c => Ok.ret ?_) fun c => ?_
 ·rw [dif_neg (fun h => by rw [h.1] at c; simp at c)]; rfl
 ·have hlv : l.length = v.length := by simp at c; omega
  have hlen := kq l v
  rw [rL l v hl hs, ah]
  by_cases hi : i < 0 ∨ (l.length : Int) ≤ i
  ·rw [show gy (cR l v) i = some ([], 1) by unfold gy; rw [if_pos (jH hl hs), if_pos (by omega)], ah, dif_neg (by omega)]
   exact Ok.ret rfl
  ·rw [show gy (cR l v) i = some (Sha.proof (cR l v) i.toNat, 0) by unfold gy; rw [if_pos (jH hl hs), if_neg (by omega)], ah, dif_pos (by omega)]
   simp only
   rw [Cr rfl, cond_false, dz (by omega) (by omega), ah, dz (by omega) (by omega), ah]
   exact Ok.ret rfl
theorem rI {α : Type} {body : Int → Option (Int ⊕ (Unit ⊕ Int))} (l : List α) (g : α → Bool) (f : α → Option Bool) (hf : ∀ x ∈ l, f x = some (g x)) (hl : l.length ≤ 9223372036854775807)
  (hb : ∀ s, body s = (bif (decide (s < (l.length : Int))) then (ob (idx l s) fun x => ob (f x) fun y => bif y then some (.inr (.inr s)) else ob (arI .i64 (s + 1)) fun z => some (.inl z)) else some (.inr (.inl ())))) :
  Ok (ob (bx body 0) fun o => match o with | .inl _ => some (-1) | .inr e => some e) fun r => decide (0 ≤ r) = l.any g := by
 refine Ok.bind (P := fun o => match o with | .inl () => ∀ x ∈ l, g x = false | .inr r => 0 ≤ r ∧ l.any g = true) ?_ ?_
 ·refine Ok.loop (fun s : Int => ∃ i : Nat, s = i ∧ i ≤ l.length ∧ ∀ j x, j < i → l[j]? = some x → g x = false) (fun s : Int => l.length - s.toNat) ⟨0, rfl, by omega, fun j x h => by omega⟩ ?_
  rintro _ ⟨i, rfl, hi, hall⟩
  rw [hb]
  refine Ok.cond (fun c1 => ?_) fun c1 => Ok.ret ?_
  ·simp only [decide_eq_true_eq] at c1
   have e : l[i]? = some (l[i]'(by omega)) := List.getElem?_eq_getElem _
   generalize l[i]'(by omega) = x at e
   have hx := List.mem_of_getElem? e
   rw [ek, e, ah, hf x hx, ah]
   refine Ok.cond (fun c2 => Ok.ret ⟨by omega, List.any_eq_true.2 ⟨x, hx, c2⟩⟩) fun c2 => ?_
   rw [aR (by omega), ah]
   refine Ok.ret ⟨⟨i + 1, by omega, by omega, fun j y hj hy => ?_⟩, by omega⟩
   rcases Nat.lt_or_ge j i with h | h
   ·exact hall j y h hy
   ·obtain rfl : j = i := by omega
    rw [e] at hy; cases hy; exact c2
  ·simp only [decide_eq_false_iff_not] at c1
   intro x hx
   obtain ⟨j, hj⟩ := List.getElem?_of_mem hx
   exact hall j x (by have := (List.getElem?_eq_some_iff.1 hj).1; omega) hj
 ·rintro (⟨⟩ | r) h
  ·refine Ok.ret ?_
   have : l.any g = false := by rw [List.any_eq_false]; intro x hx; rw [h x hx]; simp
   rw [this]; rfl
  ·refine Ok.ret ?_
   rw [h.2]; exact decide_eq_true h.1
theorem sI (l : List Int) (F : FnV Tryd.prog HG (α := Int) (β := Bool) (fun x => [.v (.int .i64 x)]) (fun y => .v (.bool y))) (g : Int → Bool) (hf : ∀ x ∈ l, F.f x = some (g x)) (hl : l.length ≤ 9223372036854775807) : cF l F = some (l.any g) := by
 unfold cF d9
 obtain ⟨r, h1, h2⟩ := rI l g F.f hf hl (body := b9 l F) (fun s => rfl)
 exact Ok.get (fe h1 (Ok.ret h2))
abbrev FnB := FnV Tryd.prog HG (α := Unit) (β := Bool) (fun _ => []) (fun y => .v (.bool y))
theorem tW (l : List FnB) (F : FnV Tryd.prog HG (α := FnB) (β := Bool) (fun x => [.fn x.g x.c]) (fun y => .v (.bool y))) (g : FnB → Bool) (hf : ∀ x ∈ l, F.f x = some (g x)) (hl : l.length ≤ 9223372036854775807) : bM l F = some (l.any g) := by
 unfold bM cq
 obtain ⟨r, h1, h2⟩ := rI l g F.f hf hl (body := bu l F) (fun s => rfl)
 exact Ok.get (fe h1 (Ok.ret h2))
theorem CM (a b c : Int) : iw a b c = some (decide (b ≤ a) && decide (a ≤ c)) := by
 refine Ok.get ?_
 unfold iw
 exact Ok.cond (fun h => Ok.ret (by rw [h]; simp)) fun h => Ok.ret (by rw [h]; simp)
def u8B (n : Int) : Bool := decide (0 ≤ n) && decide (n ≤ 255)
theorem nS (l : List Int) (f : FnV Tryd.prog HG (α := Int) (β := Bool) (fun x => [.v (.int .i64 x)]) (fun y => .v (.bool y))) (hf : ∀ x, f.f x = some (u8B x)) : eH l f = some (decide (l.length ≤ 255) && l.all u8B) := by
 refine Ok.get ?_
 unfold eH
 refine Ok.cond (fun c => ?_) fun c => Ok.ret ?_
 ·simp only [decide_eq_true_eq] at c
  refine fe (sI l _ (fun x => !u8B x) (fun x _ => by show fE x f = _; unfold fE; rw [hf, ah]) (by omega)) (Ok.ret ?_)
  have : decide (l.length ≤ 255) = true := decide_eq_true (by omega)
  rw [this]
  simp [List.all_eq_not_any_not]
 ·simp only [decide_eq_false_iff_not] at c
  have : decide (l.length ≤ 255) = false := decide_eq_false (by omega)
  rw [this]; simp
def qO (p : Ps) (r : Rs) : Bool := (decide (p.at_.length ≤ 255) && p.at_.all u8B) && ((decide (p.h0.length ≤ 255) && p.h0.all u8B) && ((decide (p.h1.length ≤ 255) && p.h1.all u8B) && (u8B p.rights && (u8B p.side && ((decide (1 ≤ r.out) && decide (r.out ≤ 3)) && (decide (0 ≤ r.n) && decide (r.n ≤ 2147483647)))))))
theorem mX {a b : Bool} {x : Option Bool} (h : a = true → Ok x (· = b)) : Ok (bif a then x else some false) (· = (a && b)) := by
 cases a with
 | false => exact Ok.ret rfl
 | true => simpa using h rfl
theorem yA (p : Ps) (r : Rs) : gW p r = some (qO p r) := by
 refine Ok.get ?_
 unfold gW qO
 have hin : ∀ a b, ∃ F : FnV Tryd.prog HG (α := Int) (β := Bool) (fun x => [.v (.int .i64 x)]) (fun y => .v (.bool y)), iB a b = some F ∧ ∀ x, F.f x = some (decide (a ≤ x) && decide (x ≤ b)) := fun a b => ⟨_, rfl, fun x => CM x a b⟩
 obtain ⟨F, h1, h2⟩ := hin 0 255
 obtain ⟨F2, h3, h4⟩ := hin 1 3
 obtain ⟨F3, h5, h6⟩ := hin 0 2147483647
 rw [h1, ah, nS _ F h2, ah]
 refine mX fun _ => ?_
 rw [nS _ F h2, ah]
 refine mX fun _ => ?_
 rw [nS _ F h2, ah]
 refine mX fun _ => ?_
 rw [h2, ah]
 refine mX fun _ => ?_
 rw [h2, ah]
 refine mX fun _ => ?_
 rw [h3, ah, h4, ah]
 refine mX fun _ => ?_
 rw [h5, ah, h6, ah]
 exact Ok.ret rfl
end
section
open Go.RowKit
set_option maxRecDepth 100000
structure CkOk (root : List UInt8) (a : Ans) : Prop where
 root : root.length = 32
 pos : PsS a.pos
 proof : ∀ s ∈ a.proof, s.length = 32
 len : a.proof.length ≤ 900000
 c1 : -9223372036854775808 ≤ a.count
 c2 : a.count ≤ 4294967296
 i : -9223372036854775808 ≤ a.index ∧ a.index ≤ 9223372036854775807
def kH (root : List UInt8) (ver : Int) (a : Ans) : Bool := (a.version == ver) && (qO a.pos a.entry && Sha.check root a.count a.index (dL a.pos a.entry) a.proof)
theorem sy {root : List UInt8} {a : Ans} (h : CkOk root a) : jI root a.count a.index (dL a.pos a.entry) a.proof = some (Sha.check root a.count a.index (dL a.pos a.entry) a.proof) :=
 if_pos ⟨h.root, by have := sD h.pos a.entry; omega, h.proof, by have := h.len; omega, h.c2, h.c1, h.i⟩
theorem pO {root : List UInt8} {a : Ans} (ver : Int) (h : CkOk root a) : fp root ver a = some (kH root ver a) := by
 refine Ok.get ?_
 unfold fp
 have e3 : fw root a = some (Sha.check root a.count a.index (dL a.pos a.entry) a.proof) := by
  unfold fw
  rw [q6 _ _ h.pos.B, ah, sy h, ah]
 have e2 : ft a = some (qO a.pos a.entry) := by
  unfold ft
  rw [yA, ah]
 have e1 : gA a ver = some (a.version == ver) := rfl
 refine fe (tW _ _ (fun F : FnB => !(F.f ()).getD false) (fun F hF => ?_) (by simp)) ?_
 ·show gx F = _
  unfold gx
  have : ∃ b, F.f () = some b := by
   simp only [List.mem_cons, List.not_mem_nil, or_false] at hF
   rcases hF with rfl | rfl | rfl
   ·exact ⟨_, e1⟩
   ·exact ⟨_, e2⟩
   ·exact ⟨_, e3⟩
  obtain ⟨b, hb⟩ := this
  rw [hb, ah]; rfl
 ·refine Ok.ret ?_
  simp only [List.any_cons, List.any_nil, e1, e2, e3, Option.getD_some, kH]
  cases (a.version == ver) <;> cases qO a.pos a.entry <;> cases Sha.check root a.count a.index (dL a.pos a.entry) a.proof <;> rfl
def lJ (x : List Int) (i : Nat) : Int := if x = [] then 7 * i else x[i % x.length]?.getD 0 + i
def u4 (x : List Int) (i : Nat) : Rs := ⟨1 + lJ x i % 3, lJ x i / 3⟩
def j8 (n : Nat) (x : List Int) : List Rs := (List.range n).map (u4 x)
theorem vR (l : List Ps) (x : List Int) (hl : l.length ≤ 1000000) (hx : ∀ y ∈ x, 0 ≤ y ∧ y ≤ 65535) (hxl : x.length ≤ 1000000) : eQ l x = some (j8 l.length x) := by
 unfold eQ
 have := kz (body := cS l x) (List.range l.length) (u4 x) (fun i k acc he hacc => by
  have hi := (List.getElem?_eq_some_iff.1 he).1
  rw [List.length_range] at hi
  obtain rfl : k = i := by rw [List.getElem?_range hi] at he; exact (Option.some.inj he).symm
  have hN : 0 ≤ lJ x k ∧ lJ x k ≤ 10000000 := by
   unfold lJ
   split
   ·omega
   ·rename_i hne
    have hpos : 0 < x.length := List.length_pos_iff.2 hne
    have hm := Nat.mod_lt k hpos
    rw [List.getElem?_eq_getElem hm]
    have := hx _ (List.getElem_mem hm)
    simp only [Option.getD_some]; omega
  refine Ok.get ?_
  unfold cS
  simp only
  rw [ji (by omega), cond_true, aR (by omega), ah]
  refine Ok.bind (P := fun v => v = lJ x k) (Ok.cond (fun c => ?_) fun c => Ok.ret ?_) fun v hv => ?_
  ·simp only [decide_eq_true_eq] at c
   have hne : x ≠ [] := fun e => by subst e; simp at c
   have hpos : 0 < x.length := by omega
   have hm := Nat.mod_lt k hpos
   rw [bN (by omega) (by omega), ah]
   have he2 : ((k : Nat) : Int) % (x.length : Int) = ((k % x.length : Nat) : Int) := by simp
   have hb := hx _ (List.getElem_mem hm)
   rw [he2, ek, List.getElem?_eq_getElem hm, ah, aR (by omega), ah, aR (by omega), ah]
   refine Ok.ret ?_
   unfold lJ
   rw [if_neg hne, List.getElem?_eq_getElem hm]; rfl
  ·simp only [decide_eq_false_iff_not] at c
   have : x = [] := List.eq_nil_of_length_eq_zero (by omega)
   unfold lJ; rw [if_pos this]
  ·subst hv
   rw [bN (by omega) (by omega), ah, aR (by omega), ah, sM (by omega) (by omega), ah, bI (by simp; omega), ah, aR (by omega), ah]
   exact Ok.ret rfl) (fun acc => by
  unfold cS
  simp only [List.length_range]
  rw [gM (by omega), cond_false])
 rw [this, ah]; rfl
theorem yW (x : List Int) (hx : ∀ y ∈ x, 0 ≤ y ∧ y ≤ 65535) (i : Nat) (hi : i ≤ 1000000) : m9 (u4 x i) := by
 have hN : 0 ≤ lJ x i ∧ lJ x i ≤ 10000000 := by
  unfold lJ
  split
  ·omega
  ·rename_i hne
   have hpos : 0 < x.length := List.length_pos_iff.2 hne
   have hm := Nat.mod_lt i hpos
   rw [List.getElem?_eq_getElem hm]
   have := hx _ (List.getElem_mem hm)
   simp only [Option.getD_some]; omega
 unfold m9 u4
 simp only; omega
theorem y6 (g : Gm) (l : List PRaw) (hg : GmFine g) (n : Nat) (hn : n ≤ 1000) : Ok (fO g l n) fun ps => ps.length ≤ n ∧ ∀ p ∈ ps, PsFine g p := by
 unfold fO
 refine Ok.bind (P := fun ps : List Ps => ps.length ≤ n ∧ ∀ p ∈ ps, PsFine g p) ?_ fun ps h => Ok.ret h
 refine Ok.loop (fun s : Int × List Ps => ∃ i : Nat, s.1 = i ∧ i ≤ n ∧ s.2.length = i ∧ ∀ p ∈ s.2, PsFine g p) (fun s : Int × List Ps => n - s.1.toNat) ⟨0, rfl, by omega, rfl, by simp⟩ ?_
 rintro ⟨_, acc⟩ ⟨i, rfl, hi, ha, hall⟩
 unfold fV
 simp only at ha hall ⊢
 refine Ok.cond (fun c1 => Ok.cond (fun c2 => ?_) fun _ => Ok.ret ⟨by omega, hall⟩) fun _ => Ok.ret ⟨by omega, hall⟩
 simp only [decide_eq_true_eq] at c1 c2
 rw [dz (by omega) (by omega), ah]
 refine Ok.bind (BU g _ hg) fun p hp => ?_
 rw [bI (by simp; omega), ah, aR (by omega), ah]
 refine Ok.ret ⟨⟨i + 1, by simp, by omega, by simp [ha], fun q hq => ?_⟩, by simp only; omega⟩
 rcases List.mem_append.1 hq with h | h
 ·exact hall q h
 ·simp at h; subst h; exact hp
theorem uf (x : GRaw) (l : List PRaw) (n : List Int) (hx : ∀ y ∈ n, 0 ≤ y ∧ y ≤ 65535) (hnl : n.length ≤ 1000) :
  Ok (dF x l n) fun r => r.1.length ≤ 10 ∧ (∀ p ∈ r.1, PsOk p ∧ 1 ≤ p.at_.length) ∧ r.2 = j8 r.1.length n := by
 unfold dF
 refine Ok.bind (De x) fun g hg => ?_
 refine Ok.bind (y6 g l hg 10 (by omega)) fun ps hps => ?_
 rw [vR ps n (by omega) hx (by omega), ah]
 refine Ok.ret ⟨hps.1, fun p hp => ⟨(hps.2 p hp).ok hg, ?_⟩, rfl⟩
 have := (hps.2 p hp).la
 have := hg.board.c1
 omega
end
section
open Go.RowKit
set_option maxRecDepth 100000
def P0 : Ps := ⟨[1, 0], [2], [0], 1, 0⟩
def R0 : Rs := ⟨1, 258⟩
theorem qz : dL P0 R0 = [2, 1, 1, 1, 0, 2, 0, 1, 0, 1, 0, 0, 1, 2] := by decide
theorem BA : Sha.leaf [2, 1, 1, 1, 0, 2, 0, 1, 0, 1, 0, 0, 1, 2] ≠ List.replicate 32 0 := by decide +kernel
theorem tI : fd = some true := by
 have hS : PsS P0 := ⟨by decide, by decide, by decide⟩
 have hs : ∀ p ∈ [P0], PsS p := by simpa using hS
 have hl : cR [P0] [R0] = [dL P0 R0] := rfl
 have hpr : Sha.proof [dL P0 R0] 0 = [] := by unfold Sha.proof; rw [Sha.path_one 0 (by simp)]; rfl
 have a1 : cY [P0] [R0] 7 0 = some (⟨7, 0, 1, P0, R0, []⟩, 0) := by
  rw [oH _ _ _ _ (by simp) hs]
  unfold mM
  rw [dif_pos ⟨rfl, by decide, by decide⟩]
  show some ((⟨7, 0, 1, P0, R0, Sha.proof [dL P0 R0] 0⟩ : Ans), (0 : Int)) = _
  rw [hpr]
 have a2 : cY [P0] [] 7 0 = some (ve, 1) := by
  rw [oH _ _ _ _ (by simp) hs]
  unfold mM
  rw [dif_neg (by simp)]
 have a3 : cY [P0] [R0] 7 1 = some (ve, 1) := by
  rw [oH _ _ _ _ (by simp) hs]
  unfold mM
  rw [dif_neg (by simp)]
 have a4 : fg [P0] [R0] = some (Sha.leaf (dL P0 R0)) := by
  rw [rm _ _ (by simp) hs, hl, Sha.root_one]
 have hck : ∀ root : List UInt8, root.length = 32 → CkOk root ⟨7, 0, 1, P0, R0, []⟩ := fun root h => ⟨h, hS, by simp, by simp, by decide, by decide, by decide⟩
 have hpl : qO P0 R0 = true := by decide
 have hcl : ∀ root : List UInt8, Sha.check root 1 0 (dL P0 R0) [] = decide (Sha.leaf (dL P0 R0) = root) := fun root => by
  unfold Sha.check Sha.climb; simp
 simp only [qz] at hcl
 refine Ok.get ?_
 unfold fd
 refine fe (q6 P0 R0 hS.B) ?_
 refine fe a1 (fe a2 (fe a3 (fe a4 (fe (gu (Sha.leaf_len _)) ?_))))
 simp only [ve, qz, beq_self_eq_true, cond_true, List.length_nil, Int.natCast_zero, Int.cast_ofNat_Int]
 refine fe (qC P0 R0 hS.B) ?_
 rw [qz]
 refine fe (show gP _ = some (Sha.leaf _) from if_pos (by decide)) ?_
 refine fe (gu (Sha.leaf_len _)) (fe (gu (Sha.leaf_len _)) ?_)
 rw [beq_self_eq_true, cond_true]
 refine fe (pO 7 (hck _ (Sha.leaf_len _))) ?_
 have e1 : kH (Sha.leaf [2, 1, 1, 1, 0, 2, 0, 1, 0, 1, 0, 0, 1, 2]) 7 ⟨7, 0, 1, P0, R0, []⟩ = true := by
  unfold kH; simp only [hpl, qz, hcl]; simp
 have e2 : kH (Sha.leaf [2, 1, 1, 1, 0, 2, 0, 1, 0, 1, 0, 0, 1, 2]) 8 ⟨7, 0, 1, P0, R0, []⟩ = false := by
  unfold kH; simp
 have e3 : kH (List.replicate 32 0) 7 ⟨7, 0, 1, P0, R0, []⟩ = false := by
  unfold kH; simp only [hpl, qz, hcl]
  rw [decide_eq_false BA]; rfl
 rw [e1, cond_true]
 refine fe (pO 8 (hck _ (Sha.leaf_len _))) ?_
 rw [e2]
 refine fe (pO 7 (hck _ (by simp))) (Ok.ret ?_)
 rw [e3]; rfl
end
section
open Go.RowKit
set_option maxRecDepth 100000
theorem tc (n : Nat) (x : List Int) : (j8 n x).length = n := by simp [j8]
structure LsOk (l : List Ps) (v : List Rs) : Prop where
 le : l.length ≤ 1000
 len : l.length = v.length
 ps : ∀ p ∈ l, PsOk p
 rs : ∀ r ∈ v, m9 r
theorem LsOk.S {l : List Ps} {v : List Rs} (h : LsOk l v) : ∀ p ∈ l, PsS p := fun p hp => (h.ps p hp).S
theorem LsOk.big {l : List Ps} {v : List Rs} (h : LsOk l v) : l.length ≤ 1000000 := by have := h.le; omega
theorem LsOk.take {l : List Ps} {v : List Rs} (h : LsOk l v) (n : Nat) : LsOk (l.take n) (v.take n) :=
 ⟨by have := h.le; rw [List.length_take]; omega, by rw [List.length_take, List.length_take, h.len], fun p hp => h.ps p (List.mem_of_mem_take hp), fun r hr => h.rs r (List.mem_of_mem_take hr)⟩
theorem sP (x : GRaw) (l : List PRaw) (n : List Int) (hx : ∀ y ∈ n, 0 ≤ y ∧ y ≤ 65535) (hnl : n.length ≤ 1000) :
  Ok (dF x l n) fun r => LsOk r.1 r.2 ∧ r.1.length ≤ 10 ∧ (∀ p ∈ r.1, 1 ≤ p.at_.length) ∧ r.2 = j8 r.1.length n :=
 (uf x l n hx hnl).mono fun r hr => by
  refine ⟨⟨by have := hr.1; omega, by rw [hr.2.2, tc], fun p hp => (hr.2.1 p hp).1, fun s hs => ?_⟩, hr.1, fun p hp => (hr.2.1 p hp).2, hr.2.2⟩
  rw [hr.2.2, j8] at hs
  obtain ⟨i, hi, rfl⟩ := List.mem_map.1 hs
  exact yW n hx i (by have := List.mem_range.1 hi; have := hr.1; omega)
end
section
open Go.RowKit
set_option maxRecDepth 100000
def iJ (l : List (List UInt8)) : List (List UInt8) :=
 if h : 2 ≤ l.length then (1 :: (Sha.root (l.take (Sha.cut l.length)) ++ Sha.root (l.drop (Sha.cut l.length)))) :: (iJ (l.take (Sha.cut l.length)) ++ iJ (l.drop (Sha.cut l.length)))
 else match l with
  | [] => [[]]
  | x :: _ => [0 :: x]
termination_by l.length
decreasing_by
 ·have := Sha.cut_lt h; rw [List.length_take]; omega
 ·have := Sha.cut_pos l.length; rw [List.length_drop]; omega
theorem j9 {l : List (List UInt8)} (h : 2 ≤ l.length) : iJ l = (1 :: (Sha.root (l.take (Sha.cut l.length)) ++ Sha.root (l.drop (Sha.cut l.length)))) :: (iJ (l.take (Sha.cut l.length)) ++ iJ (l.drop (Sha.cut l.length))) := by
 rw [iJ, dif_pos h]
theorem pI : iJ [] = [[]] := by rw [iJ, dif_neg (by simp)]
theorem kf (x : List UInt8) : iJ [x] = [0 :: x] := by rw [iJ, dif_neg (by simp)]
theorem Met.mono {a b a' b' : List (List UInt8)} (h : Sha.Met a b) (h1 : ∀ x ∈ a, x ∈ a') (h2 : ∀ x ∈ b, x ∈ b') : Sha.Met a' b' := by
 obtain ⟨x, hx, y, hy, hne, he⟩ := h
 exact ⟨x, h1 x hx, y, h2 y hy, hne, he⟩
theorem uS : ∀ (n : Nat) (a b : List (List UInt8)), a.length = n → b.length = n → Sha.root a = Sha.root b → a ≠ b → Sha.Met (iJ a) (iJ b) := by
 intro n
 induction n using Nat.strongRecOn with
 | _ n ih =>
  intro a b ha hb hr hne
  by_cases h2 : 2 ≤ n
  ·have ca : 2 ≤ a.length := by omega
   have cb : 2 ≤ b.length := by omega
   rw [Sha.root_cut ca, Sha.root_cut cb] at hr
   rw [j9 ca, j9 cb]
   have hlt := Sha.cut_lt h2
   have hpos := Sha.cut_pos n
   rw [ha, hb] at hr ⊢
   by_cases e : (1 :: (Sha.root (a.take (Sha.cut n)) ++ Sha.root (a.drop (Sha.cut n))) : List UInt8) = 1 :: (Sha.root (b.take (Sha.cut n)) ++ Sha.root (b.drop (Sha.cut n)))
   ·obtain ⟨e1, e2⟩ := List.append_inj (List.cons.inj e).2 (by rw [Sha.root_len, Sha.root_len])
    by_cases q : a.take (Sha.cut n) = b.take (Sha.cut n)
    ·have q2 : a.drop (Sha.cut n) ≠ b.drop (Sha.cut n) := fun q2 => hne (by rw [← List.take_append_drop (Sha.cut n) a, q, q2, List.take_append_drop])
     exact Met.mono (ih (n - Sha.cut n) (by omega) _ _ (by rw [List.length_drop]; omega) (by rw [List.length_drop]; omega) e2 q2) (fun x hx => by simp [hx]) fun x hx => by simp [hx]
    ·exact Met.mono (ih (Sha.cut n) hlt _ _ (by rw [List.length_take]; omega) (by rw [List.length_take]; omega) e1 q) (fun x hx => by simp [hx]) fun x hx => by simp [hx]
   ·exact ⟨_, by simp, _, by simp, e, hr⟩
  ·match a, b, ha, hb with
   | [], [], _, _ => exact absurd rfl hne
   | [x], [y], _, _ =>
    rw [Sha.root_one, Sha.root_one] at hr
    rw [kf, kf]
    exact ⟨_, by simp, _, by simp, fun e => hne (by rw [(List.cons.inj e).2]), hr⟩
   | _ :: _ :: _, _, h, _ => simp at h; omega
   | [_], [], h, k => simp at h k; omega
   | [_], _ :: _ :: _, _, k => simp at k; omega
   | [], _ :: _, h, k => simp at h k; omega
theorem o2 : ∀ (n : Nat) (a : List (List UInt8)), a.length = n → (iJ a).length ≤ 2 * n + 1 := by
 intro n
 induction n using Nat.strongRecOn with
 | _ n ih =>
  intro a ha
  by_cases h2 : 2 ≤ n
  ·have hlt := Sha.cut_lt h2
   have hpos := Sha.cut_pos n
   rw [j9 (by omega), ha, List.length_cons, List.length_append]
   have i1 := ih (Sha.cut n) hlt (a.take (Sha.cut n)) (by rw [List.length_take]; omega)
   have i2 := ih (n - Sha.cut n) (by omega) (a.drop (Sha.cut n)) (by rw [List.length_drop]; omega)
   have b1 := ih (Sha.cut n) hlt
   have : ∀ k (l : List (List UInt8)), l.length = k → 1 ≤ k → (iJ l).length ≤ 2 * k - 1 := by
    intro k
    induction k using Nat.strongRecOn with
    | _ k ik =>
     intro l hl hk
     by_cases h3 : 2 ≤ k
     ·have hlt := Sha.cut_lt h3
      have hpos := Sha.cut_pos k
      rw [j9 (by omega), hl, List.length_cons, List.length_append]
      have j1 := ik (Sha.cut k) hlt (l.take (Sha.cut k)) (by rw [List.length_take]; omega) (by omega)
      have j2 := ik (k - Sha.cut k) (by omega) (l.drop (Sha.cut k)) (by rw [List.length_drop]; omega) (by omega)
      omega
     ·obtain ⟨x, rfl⟩ := List.length_eq_one_iff.1 (show l.length = 1 by omega)
      rw [kf]; simp <;> omega
   have k1 := this _ (a.take (Sha.cut n)) rfl (by rw [List.length_take]; omega)
   have k2 := this _ (a.drop (Sha.cut n)) rfl (by rw [List.length_drop]; omega)
   rw [List.length_take] at k1
   rw [List.length_drop] at k2
   omega
  ·rcases a with _ | ⟨x, _ | ⟨y, t⟩⟩
   ·rw [pI]; simp
   ·rw [kf]; simp <;> omega
   ·simp at ha; omega
theorem yI (n : Nat) : ∀ a : List (List UInt8), Fit a → cP n a = some (iJ a) ∨ (cP n a = none ∧ n ≤ a.length) := by
 induction n with
 | zero => intro a _; exact .inr ⟨rfl, by omega⟩
 | succ n ih =>
  intro a hF
  have h1 := hF.1
  unfold cP
  rcases a with _ | ⟨x, _ | ⟨y, t⟩⟩
  ·left
   rw [yK (show (([] : List (List UInt8)).length : Int) = 0 from rfl), cond_true, bI (by simp), ah, pI]; rfl
  ·left
   rw [vI (show (([x] : List (List UInt8)).length : Int) ≠ 0 by simp), cond_false, yK (show (([x] : List (List UInt8)).length : Int) = 1 from rfl), cond_true, show idx [x] 0 = some x from rfl, ah, show fh x = some (0 :: x) from if_pos (hF.2 x (by simp)), ah, bI (by simp), ah, kf]; rfl
  ·obtain ⟨a, ha⟩ : ∃ a, a = x :: y :: t := ⟨_, rfl⟩
   have h2 : 2 ≤ a.length := by rw [ha]; simp
   rw [← ha] at hF h1 ⊢
   have hlt := Sha.cut_lt h2
   have hpos := Sha.cut_pos a.length
   have e1 : slc a 0 ((Sha.cut a.length : Nat) : Int) = some (a.take (Sha.cut a.length)) := by rw [pC (by omega)]; simp
   have e2 : slc a ((Sha.cut a.length : Nat) : Int) (a.length : Int) = some (a.drop (Sha.cut a.length)) := by rw [pC (by omega)]; simp
   have F1 := pY hF (Sha.cut a.length)
   have F2 := pT hF (Sha.cut a.length)
   rw [vI (by omega), cond_false, vI (by omega), cond_false, show gc (a.length : Int) = some ((Sha.cut a.length : Nat) : Int) from by unfold gc; rw [if_pos (by omega)]; simp, ah, e1, ah,
    show eS (a.take (Sha.cut a.length)) = some (Sha.root (a.take (Sha.cut a.length))) from if_pos F1, ah, e2, ah, show eS (a.drop (Sha.cut a.length)) = some (Sha.root (a.drop (Sha.cut a.length))) from if_pos F2, ah,
    show fi (Sha.root (a.take (Sha.cut a.length))) (Sha.root (a.drop (Sha.cut a.length))) = some _ from if_pos ⟨Sha.root_len _, Sha.root_len _⟩, ah, bI (by simp), ah, ah]
   have l1 := o2 _ (a.take (Sha.cut a.length)) rfl
   have l2 := o2 _ (a.drop (Sha.cut a.length)) rfl
   rw [List.length_take] at l1
   rw [List.length_drop] at l2
   rcases ih _ F1 with i1 | ⟨i1, i1'⟩
   ·rw [i1, ah, bI (by simp; omega), ah, ah]
    rcases ih _ F2 with i2 | ⟨i2, i2'⟩
    ·left
     rw [i2, ah, bI (by simp; omega), ah, j9 h2]
     simp
    ·right
     rw [i2]
     rw [List.length_drop] at i2'
     exact ⟨rfl, by omega⟩
   ·right
    rw [i1]
    rw [List.length_take] at i1'
    exact ⟨rfl, by omega⟩
theorem wv {a : List (List UInt8)} (hF : Fit a) : gg a = some (iJ a) := by
 unfold gg
 refine zp (a.length + 1) ?_ fun m r' h => ?_
 ·rcases yI (a.length + 1) a hF with h | ⟨_, h⟩
  ·exact h
  ·omega
 ·rcases yI m a hF with h1 | ⟨h1, _⟩
  ·rw [h] at h1; exact Option.some.inj h1
  ·rw [h] at h1; cases h1
theorem yg {a b : List (List UInt8)} (ha : a.length ≤ 1000000) (hb : b.length ≤ 1000000) (fa : ∀ x ∈ a, x.length ≤ 1000000) (fb : ∀ x ∈ b, x.length ≤ 1000000) (h : Sha.Met a b) : ge a b = some true := by
 refine Ok.get ?_
 unfold ge
 have hS : ∀ x : List UInt8, x.length ≤ 1000000 → gb x = some (Sha.sum x) := fun x hx => if_pos hx
 have e0 := kz (body := ed b) b Sha.sum (fun i x acc hx hacc => by
  obtain ⟨hlt, he⟩ := List.getElem?_eq_some_iff.1 hx
  unfold ed
  simp only
  rw [ji (by omega), cond_true, ek, hx, ah, hS x (fb x (he ▸ List.getElem_mem hlt)), ah, bI (by simp; omega), ah, aR (by omega), ah]
  simp) fun acc => by
  unfold ed
  simp only
  rw [gM (by omega), cond_false]
 rw [e0, ah]
 have key : ∀ (i : Nat) (hi : i < a.length), ∃ o, bx (bR a b (b.map Sha.sum) (i : Int) (Sha.sum a[i])) 0 = some o ∧ ((o = .inl () ∧ ∀ y ∈ b, ¬ (a[i] ≠ y ∧ Sha.sum a[i] = Sha.sum y)) ∨ o = .inr (.inr (.inr true))) := by
  intro i hi
  refine Ok.loop (fun s : Int => ∃ j : Nat, s = j ∧ j ≤ b.length ∧ ∀ y ∈ b.take j, ¬ (a[i] ≠ y ∧ Sha.sum a[i] = Sha.sum y)) (fun s => b.length - s.toNat) ⟨0, rfl, by omega, by simp⟩ ?_
  rintro _ ⟨j, rfl, hj, hno⟩
  unfold bR
  refine Ok.cond (fun c => ?_) fun c => Ok.ret (.inl ⟨rfl, ?_⟩)
  ·simp only [decide_eq_true_eq] at c
   have hj' : j < b.length := by omega
   have hb' : (b.map Sha.sum)[j]? = some (Sha.sum b[j]) := by simp [hj']
   have stp : (a[i] = b[j] ∨ Sha.sum a[i] ≠ Sha.sum b[j]) → ∀ y ∈ b.take (j + 1), ¬ (a[i] ≠ y ∧ Sha.sum a[i] = Sha.sum y) := by
    intro hq y hy
    rw [List.take_add_one, List.getElem?_eq_getElem hj'] at hy
    rcases List.mem_append.1 hy with hy | hy
    ·exact hno y hy
    ·simp only [Option.toList_some, List.mem_singleton] at hy
     subst hy
     rintro ⟨q1, q2⟩
     rcases hq with hq | hq
     ·exact q1 hq
     ·exact hq q2
   rw [ek, hb', ah, gu (Sha.sum_len _), ah, gu (Sha.sum_len _), ah]
   by_cases e : Sha.sum a[i] = Sha.sum b[j]
   ·rw [show (Sha.sum a[i] == Sha.sum b[j]) = true by simpa using e, cond_true, dz (by omega) (by omega), ah, dz (by omega) (by omega), ah]
    by_cases q : a[i] = b[j]
    ·rw [show (!(a[(i : Int).toNat] == b[(j : Int).toNat])) = false by simpa using q, cond_false, ah]
     simp only
     rw [aR (by omega), ah]
     exact Ok.ret ⟨⟨j + 1, by simp, by omega, stp (.inl q)⟩, by omega⟩
    ·rw [show (!(a[(i : Int).toNat] == b[(j : Int).toNat])) = true by simpa using q, cond_true, ah]
     exact Ok.ret (.inr rfl)
   ·rw [show (Sha.sum a[i] == Sha.sum b[j]) = false by simpa using e, cond_false, ah]
    simp only
    rw [aR (by omega), ah]
    exact Ok.ret ⟨⟨j + 1, by simp, by omega, stp (.inr e)⟩, by omega⟩
  ·simp only [decide_eq_false_iff_not] at c
   obtain rfl : j = b.length := by omega
   simpa using hno
 refine Ok.bind (P := fun o => o = .inr true) ?_ fun o ho => by subst ho; exact Ok.ret rfl
 refine Ok.loop (fun s : Int => ∃ i : Nat, s = i ∧ i ≤ a.length ∧ ∀ x ∈ a.take i, ∀ y ∈ b, ¬ (x ≠ y ∧ Sha.sum x = Sha.sum y)) (fun s => a.length - s.toNat) ⟨0, rfl, by omega, by simp⟩ ?_
 rintro _ ⟨i, rfl, hi, hno⟩
 unfold ee
 refine Ok.cond (fun c => ?_) fun c => ?_
 ·simp only [decide_eq_true_eq] at c
  have hi' : i < a.length := by omega
  have hai : a[i]? = some a[i] := by simp
  rw [ek, hai, ah, hS _ (fa _ (List.getElem_mem _)), ah, gu (Sha.sum_len _), ah]
  obtain ⟨o, ho, hc⟩ := key i hi'
  rw [ho, ah]
  rcases hc with ⟨rfl, hc⟩ | rfl
  ·simp only
   rw [aR (by omega), ah]
   refine Ok.ret ⟨⟨i + 1, by simp, by omega, fun x hx => ?_⟩, by omega⟩
   rw [List.take_add_one, hai] at hx
   rcases List.mem_append.1 hx with hx | hx
   ·exact hno x hx
   ·simp only [Option.toList_some, List.mem_singleton] at hx
    subst hx; exact hc
  ·exact Ok.ret rfl
 ·simp only [decide_eq_false_iff_not] at c
  obtain rfl : i = a.length := by omega
  obtain ⟨x, hx, y, hy, hne, he⟩ := h
  exact absurd ⟨hne, he⟩ (hno x (by simpa using hx) y hy)
theorem ph : ∀ {l m : List Ps} {v w : List Rs}, LsOk l v → LsOk m w → l.length = m.length → cR l v = cR m w → l = m ∧ v = w
 | [], [], [], [], _, _, _, _ => ⟨rfl, rfl⟩
 | p :: l, q :: m, r :: v, s :: w, h, k, e, hl => by
  simp only [cR, List.zip_cons_cons, List.map_cons, List.cons.injEq] at hl
  obtain ⟨rfl, rfl⟩ := (xq (h.ps p (by simp)) (k.ps q (by simp)) (h.rs r (by simp)) (k.rs s (by simp))).1 hl.1
  obtain ⟨rfl, rfl⟩ := ph (l := l) (m := m) (v := v) (w := w) ⟨by have := h.le; simp at this; omega, by have := h.len; simpa using this, fun p hp => h.ps p (by simp [hp]), fun r hr => h.rs r (by simp [hr])⟩
   ⟨by have := k.le; simp at this; omega, by have := k.len; simpa using this, fun p hp => k.ps p (by simp [hp]), fun r hr => k.rs r (by simp [hr])⟩ (by simpa using e) hl.2
  exact ⟨rfl, rfl⟩
 | [], _ :: _, _, _, _, _, e, _ => by simp at e
 | _ :: _, [], _, _, _, _, e, _ => by simp at e
 | _ :: _, _, [], _, h, _, _, _ => by have := h.len; simp at this
 | [], _, _ :: _, _, h, _, _, _ => by have := h.len; simp at this
 | _, _ :: _, _, [], _, k, _, _ => by have := k.len; simp at this
 | _, [], _, _ :: _, _, k, _, _ => by have := k.len; simp at this
theorem ti : ∀ (n : Nat) (a : List (List UInt8)), a.length = n → Fit a → ∀ x ∈ iJ a, x.length ≤ 1000000 := by
 intro n
 induction n using Nat.strongRecOn with
 | _ n ih =>
  intro a ha hF x hx
  by_cases h2 : 2 ≤ n
  ·have hlt := Sha.cut_lt h2
   have hpos := Sha.cut_pos n
   rw [j9 (by omega), ha] at hx
   rcases List.mem_cons.1 hx with rfl | hx
   ·simp [Sha.root_len]
   ·rcases List.mem_append.1 hx with hx | hx
    ·exact ih (Sha.cut n) hlt _ (by rw [List.length_take]; omega) (pY hF _) x hx
    ·exact ih (n - Sha.cut n) (by omega) _ (by rw [List.length_drop]; omega) (pT hF _) x hx
  ·rcases a with _ | ⟨y, _ | ⟨z, t⟩⟩
   ·rw [pI] at hx; simp at hx; simp [hx]
   ·rw [kf] at hx; simp at hx; have := hF.2 y (by simp); rw [hx]; simp; omega
   ·simp at ha; omega
theorem wN (l : List PRaw × List PRaw) (x : GRaw) (n : Int × Int) (h1 : 0 ≤ n.1 ∧ n.1 ≤ 65535) (h2 : 0 ≤ n.2 ∧ n.2 ≤ 65535) : e6 l x n = some true := by
 refine Ok.get ?_
 unfold e6
 refine fe tI ?_
 refine Ok.bind (sP x l.1 [n.1] (fun y hy => by rw [List.mem_singleton.1 hy]; exact h1) (by simp)) fun r hr => ?_
 refine Ok.bind (sP x l.2 [n.2] (fun y hy => by rw [List.mem_singleton.1 hy]; exact h2) (by simp)) fun t ht => ?_
 obtain ⟨p1, r1⟩ := r
 obtain ⟨p2, r2⟩ := t
 obtain ⟨hk, h10, _, _⟩ := hr
 obtain ⟨hk2, h102, _, _⟩ := ht
 simp only at hk h10 hk2 h102 ⊢
 obtain ⟨m, hm⟩ : ∃ m : Nat, m = min p1.length p2.length := ⟨_, rfl⟩
 have hmi : (min (p1.length : Int) (p2.length : Int)) = (m : Int) := by omega
 have hsl : ∀ {α : Type} (l : List α), m ≤ l.length → slc l 0 (m : Int) = some (l.take m) := fun l hl => by rw [pC (by omega)]; simp
 have lr1 := hk.len
 have lr2 := hk2.len
 rw [hmi, hsl p1 (by omega), ah, hsl r1 (by omega), ah, hsl p2 (by omega), ah, hsl r2 (by omega), ah]
 have K1 := hk.take m
 have K2 := hk2.take m
 have L1 : (p1.take m).length = m := by rw [List.length_take]; omega
 have L2 : (p2.take m).length = m := by rw [List.length_take]; omega
 have M1 : (r1.take m).length = m := by rw [List.length_take]; omega
 have M2 : (r2.take m).length = m := by rw [List.length_take]; omega
 rw [yp _ _ (by omega) (fun p hp => (K1.S p hp).B.fit), ah]
 obtain ⟨q, hq⟩ : ∃ q : Bool, q = (decide (p1.take m = p2.take m) && decide (r1.take m = r2.take m)) := ⟨_, rfl⟩
 refine Ok.bind (P := fun b => b = q) ?_ fun b hb => ?_
 ·refine Ok.loop (fun s : Bool × Int => ∃ i : Nat, s = (decide (p1.take m = p2.take m) && decide ((r1.take m).take i = (r2.take m).take i), (i : Int)) ∧ i ≤ m) (fun s => m - s.2.toNat) ⟨0, by simp, by omega⟩ ?_
  rintro _ ⟨i, rfl, hi⟩
  unfold dU
  simp only
  rw [hmi]
  refine Ok.cond (fun c => ?_) fun c => ?_
  ·simp only [decide_eq_true_eq] at c
   have hi' : i < m := by omega
   refine Ok.bind (P := fun b => b = (decide (p1.take m = p2.take m) && decide ((r1.take m).take (i + 1) = (r2.take m).take (i + 1)))) ?_ fun b hb => ?_
   ·have e1 : (r1.take m)[i]? = some ((r1.take m)[i]'(by omega)) := List.getElem?_eq_getElem _
    have e2 : (r2.take m)[i]? = some ((r2.take m)[i]'(by omega)) := List.getElem?_eq_getElem _
    have hst : ((r1.take m).take (i + 1) = (r2.take m).take (i + 1)) ↔ (r1.take m).take i = (r2.take m).take i ∧ (r1.take m)[i] = (r2.take m)[i] := by
     rw [List.take_add_one, List.take_add_one, e1, e2]
     simp only [Option.toList_some]
     constructor
     ·intro h
      obtain ⟨a, b⟩ := List.append_inj h (by simp only [List.length_take]; omega)
      exact ⟨a, by simpa using b⟩
     ·rintro ⟨a, b⟩; rw [a, b]
    refine Ok.cond (fun c1 => ?_) fun c1 => Ok.ret ?_
    ·rw [ek, e1, ah, ek, e2, ah]
     refine Ok.ret ?_
     rw [Bool.eq_iff_iff]
     simp only [Bool.and_eq_true, decide_eq_true_eq, beq_iff_eq, and_true, hst] at c1 ⊢
     constructor
     ·rintro ⟨a, b⟩
      refine ⟨c1.1, c1.2, ?_⟩
      generalize (r1.take m)[i] = u at a b ⊢
      generalize (r2.take m)[i] = v at a b ⊢
      obtain ⟨_, _⟩ := u
      obtain ⟨_, _⟩ := v
      simp only at a b
      rw [a, b]
     ·rintro ⟨_, _, h⟩; rw [h]; exact ⟨rfl, rfl⟩
    ·rw [eq_comm, Bool.eq_false_iff]
     intro hh
     simp only [Bool.and_eq_true, decide_eq_true_eq, hst, Bool.and_eq_false_iff, decide_eq_false_iff_not] at hh c1
     rcases c1 with c1 | c1
     ·exact c1 hh.1
     ·exact c1 hh.2.1
   ·rw [aR (by omega), ah]
    exact Ok.ret ⟨⟨i + 1, by rw [hb]; simp, by omega⟩, by simp only; omega⟩
  ·simp only [decide_eq_false_iff_not] at c
   obtain rfl : i = m := by omega
   refine Ok.ret ?_
   simp only [hq]
   rw [List.take_of_length_le (l := r1.take i) (by omega), List.take_of_length_le (l := r2.take i) (by omega)]
 ·rw [hb]
  refine fe (rm _ _ K1.big K1.S) (fe (gu (Sha.root_len _)) (fe (rm _ _ K2.big K2.S) (fe (gu (Sha.root_len _)) ?_)))
  refine Ok.cond (fun c => ?_) fun c => ?_
  ·rw [hq] at c
   simp only [Bool.and_eq_true, decide_eq_true_eq] at c
   rw [cond_true, gu (Sha.root_len _), ah, gu (Sha.root_len _), ah, c.1, c.2]
   exact Ok.ret (by simp)
  ·rw [cond_true, gu (Sha.root_len _), ah, gu (Sha.root_len _), ah]
   refine Ok.cond (fun _ => Ok.ret rfl) fun c2 => ?_
   have hroot : Sha.root (cR (p1.take m) (r1.take m)) = Sha.root (cR (p2.take m) (r2.take m)) := by simpa using c2
   have F1 := jH (v := r1.take m) K1.big K1.S
   have F2 := jH (v := r2.take m) K2.big K2.S
   rw [nT _ _ K1.big K1.S, ah, wv F1, ah, nT _ _ K2.big K2.S, ah, wv F2, ah]
   have hne : cR (p1.take m) (r1.take m) ≠ cR (p2.take m) (r2.take m) := by
    intro e
    obtain ⟨e1, e2⟩ := ph K1 K2 (by omega) e
    rw [hq, e1, e2] at c
    simp at c
   have n1 := kq (p1.take m) (r1.take m)
   have n2 := kq (p2.take m) (r2.take m)
   have a1 := o2 _ (cR (p1.take m) (r1.take m)) rfl
   have a2 := o2 _ (cR (p2.take m) (r2.take m)) rfl
   rw [yg (by omega) (by omega) (ti _ _ rfl F1) (ti _ _ rfl F2) (uS m _ _ (by omega) (by omega) hroot hne), ah]
   exact Ok.ret rfl
end
end Go.Proofs.YtbaccmkhjmmlnaaDoor
