/-
  Lemmas, part 8 of 8: walks through the program's functions, and plain Lean about what they compute.
-/
import Derived.Test.YtbaccmkhjmmlnaaDoorZ1
import Derived.Test.YtbaccmkhjmmlnaaDoorZ2
import Derived.Test.YtbaccmkhjmmlnaaDoorZ3
import Derived.Test.YtbaccmkhjmmlnaaDoorZ4
import Derived.Test.YtbaccmkhjmmlnaaDoorZ5
import Derived.Test.YtbaccmkhjmmlnaaDoorZ6
import Derived.Test.YtbaccmkhjmmlnaaDoorZ7
set_option linter.unnecessarySimpa false
set_option linter.unusedSimpArgs false
set_option linter.unusedVariables false
namespace Go.Proofs.YtbaccmkhjmmlnaaDoor
section
open Go.RowKit
set_option maxRecDepth 100000
noncomputable def gP (a0 : List Int) (s1 : (Int × (List UInt8))) : Option ((Int × (List UInt8)) ⊕ List UInt8) :=
 bif (decide (s1.1 < (a0.length : Int))) then (
  ob (idx a0 s1.1) fun x6 =>
  ob (app s1.2 [(w8 x6)]) fun x7 =>
  ob (arI .i64 (s1.1 + 1)) fun x8 =>
  some (.inl (x8, x7))
 ) else (
  some (.inr s1.2)
 )
noncomputable def gj (a0 : List Int) : Option (List UInt8) :=
 ob ((
  bC (gP a0) (0, ([] : List UInt8))
  : Option (List UInt8))) fun v9 =>
 some v9
set_option maxHeartbeats 4000000 in
theorem lh {a0 : List Int} {r : List UInt8} (h : gj a0 = some r) : aq Tryd.prog HG 35 [.l a0] (.list 1 (r.map aL) false) := by
 unfold gj at h
 refine aq.of Tryd.func35 rfl Tryd.ntmps35 (by simp) ?_
 intro F hF h0 hT
 show Sm F _ _ ⟨[(0, .l a0)], [], 0⟩
 refine sr hF ?_
 refine gv hF oA ?_
 refine sn ?_
 refine sr hF ?_
 refine gv hF oA ?_
 refine sn ?_
 refine Sm.seq ?_
 obtain ⟨v9, hv9, h⟩ := aa h
 refine aZ ⟨[(3, .d (.list 1 (v9.map aL) false))], [], 1⟩ ?_ ?_
 ·refine Sm.seq ?_
  refine ab hF rfl ?_
  refine gv hF oM ?_
  refine gv hF oA ?_
  refine sn ?_
  refine Sm.ret ?_
  obtain rfl := ae h
  exact bz rfl rfl
 replace h := hv9
 refine sr hF ?_
 refine gv hF oM ?_
 refine gv hF (oN (bg u30)) ?_
 refine gv hF oM ?_
 refine sn ?_
 refine Sm.block ?_
 refine Sm.to (kA (e := [(3, .z), (6, .l a0), (7, .i (a0.length : Int)), (8, .i 0)]) (g := []) (m := 0)) ?_
 refine Sm.own (t := 3) 1 rfl ?_
 refine bm (gP a0) (fun s1 => ⟨[(3, .sref 0 0 (s1.2.map aL).length), (6, .l a0), (7, .i (a0.length : Int)), (8, .i s1.1)], [(0, dB 1 (s1.2.map aL))], 1⟩) (0, ([] : List UInt8)) h (kA) ?_
 intro n2 s1 o3 h hd4
 unfold gP at h
 refine sr hF ?_
 refine gv hF (oB (br)) ?_
 refine sn ?_
 refine Sm.seq ?_
 refine aF hF rfl (fun hc5 => ?_) (fun hc5 => ?_)
 ·replace h := ifF hc5 h
  refine Sm.exit ?_
  replace h := aK h hd4
  obtain rfl := ae h
  exact (aR (kA (e := [(3, .sref 0 0 (s1.2.map aL).length)]) (g := [(0, dB 1 (s1.2.map aL))]) (m := 1)) (fA (l := 0) (sz := 1) (s1.2.map aL)))
 replace h := ifT hc5 h
 refine sk ?_
 refine Sm.seq ?_
 refine Sm.block ?_
 refine sr hF ?_
 obtain ⟨x6, hx6, h⟩ := aa h
 refine gv hF (oI (aW u30 sz3 hx6)) ?_
 refine gv hF (oL (lP1 ag3 rfl)) ?_
 refine gv hF oA ?_
 refine sn ?_
 refine ab hF rfl ?_
 refine gv hF oM ?_
 refine gv hF oM ?_
 refine gv hF (oC (jd u3 u5)) ?_
 refine gv hF (x := .d (.list 1 ([(w8 x6)].map aL) true)) (oS (az u24 sz5 ze5 rfl rfl (PartsQ.cons rfl (PartsQ.nil _)) rfl)) ?_
 obtain ⟨x7, hx7, h⟩ := aa h
 refine a8 hF oh rfl (ys := [(w8 x6)]) (row := aL) rfl rfl rfl rfl rfl rfl rfl rfl (.inl rfl) hx7 (by (repeat' first | exact bn _ | refine bf ?_ | refine ap ?_ (aO _ _ _) | refine ap ?_ (aO _ _ [_]) | refine ap ?_ (bE (by rfl)))) ?_
 refine gv hF oA ?_
 refine SmG.nil ?_
 refine ar ?_
 refine ac ?_
 refine ab hF rfl ?_
 obtain ⟨x8, hx8, h⟩ := aa h
 refine gv hF (oB (aX hx8)) ?_
 refine gv hF oM ?_
 refine SmG.nil ?_
 exact bp (be h hd4) (kA)
noncomputable def jp (x1 : List Int) (s2 : (Int × (List UInt8))) : Option ((Int × (List UInt8)) ⊕ List UInt8) :=
 bif (decide (s2.1 < (x1.length : Int))) then (
  ob (idx x1 s2.1) fun x7 =>
  ob (app s2.2 [(w8 x7)]) fun x8 =>
  ob (arI .i64 (s2.1 + 1)) fun x9 =>
  some (.inl (x9, x8))
 ) else (
  some (.inr s2.2)
 )
noncomputable def kf (a0 : Ps) : Option (List UInt8) :=
 ob ((
  ob (dG ([a0.at_, a0.h0, a0.h1, [a0.rights, a0.side]])) fun x1 =>
  bC (jp x1) (0, ([] : List UInt8))
  : Option (List UInt8))) fun v10 =>
 some v10
set_option maxHeartbeats 4000000 in
theorem tT {a0 : Ps} {r : List UInt8} (h : kf a0 = some r) : aq Tryd.prog HG 37 [.agg 5 (Ps.row a0)] (.v (.string ⟨(r : List UInt8).toArray⟩)) := by
 unfold kf at h
 refine aq.of Tryd.func37 rfl Tryd.ntmps37 (by simp) ?_
 intro F hF h0 hT
 show Sm F _ _ ⟨[(0, .d (.agg 5 (Ps.row a0)))], [], 0⟩
 refine sr hF ?_
 refine bT hF fU ?_
 refine gv hF oA ?_
 refine sn ?_
 refine sr hF ?_
 refine gv hF oA ?_
 refine sn ?_
 refine Sm.seq ?_
 obtain ⟨v10, hv10, h⟩ := aa h
 refine aZ ⟨[(3, .d (.list 1 (v10.map aL) false))], [], 2⟩ ?_ ?_
 ·refine Sm.seq ?_
  refine ab hF rfl ?_
  refine gv hF oM ?_
  refine gv hF (oC (ed u24 u9 u5)) ?_
  refine gv hF oA ?_
  refine sn ?_
  refine Sm.ret ?_
  obtain rfl := ae h
  exact bz rfl rfl
 replace h := hv10
 refine sr hF ?_
 refine gv hF (oF (ak kB rfl)) ?_
 refine gv hF (oL (lP1 eo rfl)) ?_
 refine gv hF (oF (ak eJ rfl)) ?_
 refine gv hF (oI (ci u31 eF rfl rfl)) ?_
 refine gv hF (oL (lP1 eo rfl)) ?_
 refine gv hF (oF (ak eJ rfl)) ?_
 refine gv hF (oI (ci u31 eF rfl rfl)) ?_
 refine gv hF (oL (lP1 eo rfl)) ?_
 refine gv hF (oF (ak nU rfl)) ?_
 refine gv hF (oL (lP1 ag3 rfl)) ?_
 refine gv hF (oF (ak oo rfl)) ?_
 refine gv hF (oL (lP1 ag3 rfl)) ?_
 refine gv hF (x := .d (.list 1 ([a0.rights, a0.side].map (af .i64)) true)) (oS (az u30 sz3 ze3 rfl rfl (PartsQ.cons rfl (PartsQ.cons rfl (PartsQ.nil _))) rfl)) ?_
 refine dM (wA (e := [(3, .z), (7, .l a0.at_), (10, .l a0.h0), (13, .l a0.h1), (18, .d (.list 1 ([a0.rights, a0.side].map (af .i64)) false))]) (g := []) (m := 0)) rfl ?_
 refine gv hF (x := .d (.list 1 ([a0.at_, a0.h0, a0.h1, [a0.rights, a0.side]].map (aC 1 (af .i64))) true)) (oS (az u71 eF vr rfl rfl (PartsQ.cons rfl (PartsQ.cons rfl (PartsQ.cons rfl (PartsQ.cons rfl (PartsQ.nil _))))) rfl)) ?_
 obtain ⟨x1, hx1, h⟩ := aa h
 refine SmG.callO hF rfl rfl (by kernel_rfl) rfl rfl rfl (dI.args (kc hx1) (fun C => (oE (fun _ h => h)))) ?_
 refine gv hF (oN (BU u30)) ?_
 refine gv hF oM ?_
 refine sn ?_
 refine Sm.block ?_
 refine Sm.to (kA (e := [(3, .z), (20, .sref 0 0 (x1.map (af .i64)).length), (21, .i (x1.length : Int)), (22, .i 0)]) (g := [(0, dB 1 (x1.map (af .i64)))]) (m := 1)) ?_
 refine Sm.own (t := 3) 1 rfl ?_
 refine bm (jp x1) (fun s2 => ⟨[(3, .sref 1 0 (s2.2.map aL).length), (20, .sref 0 0 (x1.map (af .i64)).length), (21, .i (x1.length : Int)), (22, .i s2.1)], [(1, dB 1 (s2.2.map aL)), (0, dB 1 (x1.map (af .i64)))], 2⟩) (0, ([] : List UInt8)) h (kA) ?_
 intro n3 s2 o4 h hd5
 unfold jp at h
 refine sr hF ?_
 refine gv hF (oB (br)) ?_
 refine sn ?_
 refine Sm.seq ?_
 refine aF hF rfl (fun hc6 => ?_) (fun hc6 => ?_)
 ·replace h := ifF hc6 h
  refine Sm.exit ?_
  replace h := aK h hd5
  obtain rfl := ae h
  exact (aR (kA (e := [(3, .sref 1 0 (s2.2.map aL).length)]) (g := [(1, dB 1 (s2.2.map aL))]) (m := 2)) (fA (l := 1) (sz := 1) (s2.2.map aL)))
 replace h := ifT hc6 h
 refine sk ?_
 refine Sm.seq ?_
 refine Sm.block ?_
 refine sr hF ?_
 obtain ⟨x7, hx7, h⟩ := aa h
 refine gv hF (oI (oK u30 sz3 rfl hx7)) ?_
 refine gv hF (oL (Ai rfl hx7 ag3 rfl)) ?_
 refine gv hF oA ?_
 refine sn ?_
 refine ab hF rfl ?_
 refine gv hF oM ?_
 refine gv hF oM ?_
 refine gv hF (oC (jd u3 u5)) ?_
 refine gv hF (x := .d (.list 1 ([(w8 x7)].map aL) true)) (oS (az u24 sz5 ze5 rfl rfl (PartsQ.cons rfl (PartsQ.nil _)) rfl)) ?_
 obtain ⟨x8, hx8, h⟩ := aa h
 refine a8 hF oh rfl (ys := [(w8 x7)]) (row := aL) rfl rfl rfl rfl rfl rfl rfl rfl (.inl rfl) hx8 (by (repeat' first | exact bn _ | refine bf ?_ | refine ap ?_ (aO _ _ _) | refine ap ?_ (aO _ _ [_]) | refine ap ?_ (bE (by rfl)))) ?_
 refine gv hF oA ?_
 refine SmG.nil ?_
 refine ar ?_
 refine ac ?_
 refine ab hF rfl ?_
 obtain ⟨x9, hx9, h⟩ := aa h
 refine gv hF (oB (aX hx9)) ?_
 refine gv hF oM ?_
 refine SmG.nil ?_
 exact bp (be h hd5) (kA)
noncomputable def fY (a0 : Ps) (a1 : Rs) : Option (List UInt8) :=
 ob (gj [(a0.at_.length : Int), (a0.h0.length : Int), (a0.h1.length : Int)]) fun x1 =>
 ob (kf a0) fun x2 =>
 ob (pa x2) fun x3 =>
 ob (jJ .i64 a1.n 24) fun x4 =>
 ob (jJ .i64 a1.n 16) fun x5 =>
 ob (jJ .i64 a1.n 8) fun x6 =>
 ob (gj [a1.out, x4, x5, x6, a1.n]) fun x7 =>
 ob (dh [x1, x3, x7]) fun x8 =>
 some x8
set_option maxHeartbeats 4000000 in
theorem jk {a0 : Ps} {a1 : Rs} {r : List UInt8} (h : fY a0 a1 = some r) : aq Tryd.prog HG 13 [.agg 5 (Ps.row a0), .agg 2 (Rs.row a1)] (.list 1 (r.map aL) false) := by
 unfold fY at h
 refine aq.of Tryd.func13 rfl Tryd.ntmps13 (by simp) ?_
 intro F hF h0 hT
 show Sm F _ _ ⟨[(0, .d (.agg 5 (Ps.row a0))), (1, .d (.agg 2 (Rs.row a1)))], [], 0⟩
 refine sr hF ?_
 refine bT hF fU ?_
 refine bT hF fU ?_
 refine gv hF oA ?_
 refine sn ?_
 refine sr hF ?_
 refine gv hF (oF (ak kB rfl)) ?_
 refine gv hF (oL (lP1 eo rfl)) ?_
 refine gv hF (oN (bg u30)) ?_
 refine gv hF (oF (ak eJ rfl)) ?_
 refine gv hF (oI (ci u31 eF rfl rfl)) ?_
 refine gv hF (oL (lP1 eo rfl)) ?_
 refine gv hF (oN (bg u30)) ?_
 refine gv hF (oF (ak eJ rfl)) ?_
 refine gv hF (oI (ci u31 eF rfl rfl)) ?_
 refine gv hF (oL (lP1 eo rfl)) ?_
 refine gv hF (oN (bg u30)) ?_
 refine gv hF (x := .d (.list 1 ([(a0.at_.length : Int), (a0.h0.length : Int), (a0.h1.length : Int)].map (af .i64)) true)) (oS (az u30 sz3 ze3 rfl rfl (PartsQ.cons rfl (PartsQ.cons rfl (PartsQ.cons rfl (PartsQ.nil _)))) rfl)) ?_
 obtain ⟨x1, hx1, h⟩ := aa h
 refine SmG.call hF rfl rfl (by kernel_rfl) rfl rfl rfl (aq.args (lh hx1) (fun C => (oE (fun _ h => h)))) ?_
 refine gv hF oA ?_
 refine sn ?_
 refine Sm.seq ?_
 refine aV hF (by kernel_rfl) rfl 19 (by kernel_rfl) (by kernel_rfl) ?_
 simp only [List.take_succ_cons, List.take_zero, List.take_nil]
 refine hv hF oM ?_
 refine hv hF (x := .d (.agg 5 (Ps.row a0))) (oL (cI gu d9 rfl rfl)) ?_
 obtain ⟨x2, hx2, h⟩ := aa h
 refine cH hF (tT hx2) ?_
 obtain ⟨x3, hx3, h⟩ := aa h
 refine ag.ofString hF rfl rfl rfl rfl rfl Tryd.underlying9 Tryd.underlying24 Tryd.underlying5 hx3 ?_
 refine hv hF (oF (ak tq rfl)) ?_
 refine hv hF (oL (lP1 ag3 rfl)) ?_
 refine hv hF (oF (ak mC rfl)) ?_
 refine hv hF (oL (lP1 ag3 rfl)) ?_
 obtain ⟨x4, hx4, h⟩ := aa h
 refine hv hF (oB (lC hx4)) ?_
 refine hv hF (oF (ak mC rfl)) ?_
 refine hv hF (oL (lP1 ag3 rfl)) ?_
 obtain ⟨x5, hx5, h⟩ := aa h
 refine hv hF (oB (lC hx5)) ?_
 refine hv hF (oF (ak mC rfl)) ?_
 refine hv hF (oL (lP1 ag3 rfl)) ?_
 obtain ⟨x6, hx6, h⟩ := aa h
 refine hv hF (oB (lC hx6)) ?_
 refine hv hF (oF (ak mC rfl)) ?_
 refine hv hF (oL (lP1 ag3 rfl)) ?_
 refine hv hF (x := .d (.list 1 ([a1.out, x4, x5, x6, a1.n].map (af .i64)) true)) (oS (az u30 sz3 ze3 rfl rfl (PartsQ.cons rfl (PartsQ.cons rfl (PartsQ.cons rfl (PartsQ.cons rfl (PartsQ.cons rfl (PartsQ.nil _)))))) rfl)) ?_
 obtain ⟨x7, hx7, h⟩ := aa h
 refine ag.c hF rfl rfl (by kernel_rfl) rfl rfl rfl (aq.args (lh hx7) (fun C => (oE (fun _ h => h)))) ?_
 refine ag.last ⟨rfl, ?_⟩
 simp only [List.drop_succ_cons, List.drop_zero, List.drop_nil, List.nil_append, List.cons_append]
 refine gv hF (x := .d (.list 1 ([x1, x3, x7].map aY) true)) (oS (az u61 eC xI rfl rfl (PartsQ.cons rfl (PartsQ.cons rfl (PartsQ.cons rfl (PartsQ.nil _)))) rfl)) ?_
 obtain ⟨x8, hx8, h⟩ := aa h
 refine SmG.callO hF rfl rfl (by kernel_rfl) rfl rfl rfl (dI.args (jD hx8) (fun C => (oE (fun _ h => h)))) ?_
 refine gv hF oA ?_
 refine sn ?_
 refine Sm.to (aR (kA (e := [(4, .sref 0 0 (x8.map aL).length)]) (g := [(0, dB 1 (x8.map aL))]) (m := 1)) (fA (l := 0) (sz := 1) (e := [(4, .d (.list 1 (x8.map aL) false))]) (g := []) (nx := 1) (x8.map aL))) ?_
 refine Sm.ret ?_
 obtain rfl := ae h
 exact bz rfl rfl
noncomputable def eN (a0 : List Ps) (a1 : List Rs) (s1 : (Int × (List (List UInt8)))) : Option ((Int × (List (List UInt8))) ⊕ List (List UInt8)) :=
 bif (decide (s1.1 < (min (a0.length : Int) (a1.length : Int)))) then (
  ob (idx a0 s1.1) fun x6 =>
  ob (idx a1 s1.1) fun x7 =>
  ob (fY x6 x7) fun x8 =>
  ob (app s1.2 [x8]) fun x9 =>
  ob (arI .i64 (s1.1 + 1)) fun x10 =>
  some (.inl (x10, x9))
 ) else (
  some (.inr s1.2)
 )
noncomputable def fS (a0 : List Ps) (a1 : List Rs) : Option (List (List UInt8)) :=
 ob ((
  bC (eN a0 a1) (0, ([] : List (List UInt8)))
  : Option (List (List UInt8)))) fun v11 =>
 some v11
set_option maxHeartbeats 4000000 in
theorem kL {a0 : List Ps} {a1 : List Rs} {r : List (List UInt8)} (h : fS a0 a1 = some r) : aq Tryd.prog HG 33 [.list 5 (a0.map Ps.row) false, .list 2 (a1.map Rs.row) false] (.list 1 (r.map aY) false) := by
 unfold fS at h
 refine aq.of Tryd.func33 rfl Tryd.ntmps33 (by simp) ?_
 intro F hF h0 hT
 show Sm F _ _ ⟨[(0, .d (.list 5 (a0.map Ps.row) false)), (1, .d (.list 2 (a1.map Rs.row) false))], [], 0⟩
 refine sr hF ?_
 refine gv hF oA ?_
 refine sn ?_
 refine sr hF ?_
 refine gv hF oA ?_
 refine sn ?_
 refine Sm.seq ?_
 obtain ⟨v11, hv11, h⟩ := aa h
 refine aZ ⟨[(5, .d (.list 1 (v11.map aY) false))], [], 1⟩ ?_ ?_
 ·refine Sm.seq ?_
  refine ab hF rfl ?_
  refine gv hF oM ?_
  refine gv hF oA ?_
  refine sn ?_
  refine Sm.ret ?_
  obtain rfl := ae h
  exact bz rfl rfl
 replace h := hv11
 refine sr hF ?_
 refine gv hF oM ?_
 refine gv hF (oN (bg u40)) ?_
 refine gv hF oM ?_
 refine gv hF (oN (bg u41)) ?_
 refine gv hF (yT rfl rfl rfl AA) ?_
 refine gv hF oM ?_
 refine sn ?_
 refine Sm.block ?_
 refine Sm.to (kA (e := [(0, .d (.list 5 (a0.map Ps.row) false)), (1, .d (.list 2 (a1.map Rs.row) false)), (5, .z), (11, .i (min (a0.length : Int) (a1.length : Int))), (12, .i 0)]) (g := []) (m := 0)) ?_
 refine Sm.own (t := 5) 1 rfl ?_
 refine bm (eN a0 a1) (fun s1 => ⟨[(0, .d (.list 5 (a0.map Ps.row) false)), (1, .d (.list 2 (a1.map Rs.row) false)), (5, .sref 0 0 (s1.2.map aY).length), (11, .i (min (a0.length : Int) (a1.length : Int))), (12, .i s1.1)], [(0, dB 1 (s1.2.map aY))], 1⟩) (0, ([] : List (List UInt8))) h (kA) ?_
 intro n2 s1 o3 h hd4
 unfold eN at h
 refine sr hF ?_
 refine gv hF (oB (br)) ?_
 refine sn ?_
 refine Sm.seq ?_
 refine aF hF rfl (fun hc5 => ?_) (fun hc5 => ?_)
 ·replace h := ifF hc5 h
  refine Sm.exit ?_
  replace h := aK h hd4
  obtain rfl := ae h
  exact (aR (kA (e := [(5, .sref 0 0 (s1.2.map aY).length)]) (g := [(0, dB 1 (s1.2.map aY))]) (m := 1)) (fA (l := 0) (sz := 1) (s1.2.map aY)))
 replace h := ifT hc5 h
 refine sk ?_
 refine Sm.seq ?_
 refine Sm.block ?_
 refine sr hF ?_
 refine gv hF oM ?_
 refine gv hF oA ?_
 refine sn ?_
 refine aV hF (by kernel_rfl) rfl 11 (by kernel_rfl) (by kernel_rfl) ?_
 simp only [List.take_succ_cons, List.take_zero, List.take_nil]
 refine hv hF oM ?_
 refine hv hF oM ?_
 refine hv hF oM ?_
 obtain ⟨x6, hx6, h⟩ := aa h
 refine hv hF (oI (aW u40 d9 hx6)) ?_
 refine hv hF (x := .d (.agg 5 (Ps.row x6))) (oL (cI gu d9 rfl rfl)) ?_
 refine hv hF oM ?_
 refine hv hF oM ?_
 obtain ⟨x7, hx7, h⟩ := aa h
 refine hv hF (oI (aW u41 gL hx7)) ?_
 refine hv hF (x := .d (.agg 2 (Rs.row x7))) (oL (cI jY gL rfl rfl)) ?_
 obtain ⟨x8, hx8, h⟩ := aa h
 refine cH hF (jk hx8) ?_
 refine hv hF (x := .d (.list 1 ([x8].map aY) true)) (oS (az u61 eC xI rfl rfl (PartsQ.cons rfl (PartsQ.nil _)) rfl)) ?_
 refine ag.last ⟨rfl, ?_⟩
 simp only [List.drop_succ_cons, List.drop_zero, List.drop_nil, List.nil_append, List.cons_append]
 obtain ⟨x9, hx9, h⟩ := aa h
 refine a8 hF EC rfl (ys := [x8]) (row := aY) rfl rfl rfl rfl rfl rfl rfl rfl (.inl rfl) hx9 (by (repeat' first | exact bn _ | refine bf ?_ | refine ap ?_ (aO _ _ _) | refine ap ?_ (aO _ _ [_]) | refine ap ?_ (bE (by rfl)))) ?_
 refine gv hF oA ?_
 refine SmG.nil ?_
 refine ar ?_
 refine ac ?_
 refine ab hF rfl ?_
 obtain ⟨x10, hx10, h⟩ := aa h
 refine gv hF (oB (aX hx10)) ?_
 refine gv hF oM ?_
 refine SmG.nil ?_
 exact bp (be h hd4) (kA)
noncomputable def fX (a0 : List Ps) (a1 : List Rs) : Option (List UInt8) :=
 ob (fS a0 a1) fun x1 =>
 ob (j9 x1) fun x2 =>
 ob (vN 32 x2) fun x3 =>
 some x2
set_option maxHeartbeats 4000000 in
theorem lP {a0 : List Ps} {a1 : List Rs} {r : List UInt8} (h : fX a0 a1 = some r) : aq Tryd.prog HG 11 [.list 5 (a0.map Ps.row) false, .list 2 (a1.map Rs.row) false] (.agg 32 (aJ r)) := by
 unfold fX at h
 refine aq.of Tryd.func11 rfl Tryd.ntmps11 (by simp) ?_
 intro F hF h0 hT
 show Sm F _ _ ⟨[(0, .d (.list 5 (a0.map Ps.row) false)), (1, .d (.list 2 (a1.map Rs.row) false))], [], 0⟩
 refine sr hF ?_
 refine SmG.new hF rfl rfl rfl (aQ rfl kG) ?_
 refine sn ?_
 refine sr hF ?_
 refine gv hF oM ?_
 refine gv hF oM ?_
 obtain ⟨x1, hx1, h⟩ := aa h
 refine cS hF (kL hx1) ?_
 obtain ⟨x2, hx2, h⟩ := aa h
 refine cS hF (rN hx2) ?_
 obtain ⟨x3, hx3, h⟩ := aa h
 refine SmG.store hF rfl rfl rfl rfl rfl (jL rfl rfl cP rfl (du hx3)) ?_
 refine sn ?_
 refine Sm.ret ?_
 obtain rfl := ae h
 exact dV (RetR.cons (RetO.cell rfl (fZ rfl fG cP)) (RetR.nil)) (D.le.refl _)
noncomputable def cw (a0 : List Ps) (a1 : List Rs) (a2 : Int) (a3 : Int) : Option (Ans × Int) :=
 bif ((a0.length : Int) != (a1.length : Int)) then (
  some ((⟨0, 0, 0, (⟨[], [], [], 0, 0⟩ : Ps), (⟨0, 0⟩ : Rs), []⟩ : Ans), 1)
 ) else (
  ob (fS a0 a1) fun x2 =>
  ob (gr x2 a3) fun x3 =>
  bif (x3.2 != 0) then (
   some ((⟨0, 0, 0, (⟨[], [], [], 0, 0⟩ : Ps), (⟨0, 0⟩ : Rs), []⟩ : Ans), x3.2)
  ) else (
   ob (idx a0 a3) fun x5 =>
   ob (idx a1 a3) fun x6 =>
   some ((⟨a2, a3, (a0.length : Int), x5, x6, x3.1⟩ : Ans), 0)
  )
 )
set_option maxHeartbeats 4000000 in
theorem f8 {a0 : List Ps} {a1 : List Rs} {a2 : Int} {a3 : Int} {r : (Ans × Int)} (h : cw a0 a1 a2 a3 = some r) : aq Tryd.prog HG 15 [.list 5 (a0.map Ps.row) false, .list 2 (a1.map Rs.row) false, .i a2, .i a3] (.tup [.agg 11 (Ans.row r.1), .i r.2]) := by
 unfold cw at h
 refine aq.of Tryd.func15 rfl Tryd.ntmps15 (by simp) ?_
 intro F hF h0 hT
 show Sm F _ _ ⟨[(0, .d (.list 5 (a0.map Ps.row) false)), (1, .d (.list 2 (a1.map Rs.row) false)), (2, .i a2), (3, .i a3)], [], 0⟩
 refine sr hF ?_
 refine SmG.new hF rfl rfl rfl (aQ rfl qx) ?_
 refine gv hF oA ?_
 refine sn ?_
 refine Sm.seq ?_
 refine sr hF ?_
 refine gv hF oM ?_
 refine gv hF (oN (bg u40)) ?_
 refine gv hF oM ?_
 refine gv hF (oN (bg u41)) ?_
 refine gv hF (oB (kW)) ?_
 refine sn ?_
 refine bK hF rfl (fun hc1 => ?_) (fun hc1 => ?_)
 ·replace h := ifT hc1 h
  refine sr hF ?_
  refine gv hF (x := .d (.agg 11 [.i 0, .i 0, .i 0, .z, .z, .z, .i 0, .i 0, .i 0, .i 0, .z])) (bc rfl u38 (by kernel_rfl) rfl Ad) ?_
  refine SmG.store hF rfl rfl rfl rfl rfl (ba (ys := [.i 0, .i 0, .i 0, .z, .z, .z, .i 0, .i 0, .i 0, .i 0, .z]) (r := [.i 0, .i 0, .i 0, .z, .z, .z, .i 0, .i 0, .i 0, .i 0, .z]) (rows' := [[.i 0, .i 0, .i 0, .z, .z, .z, .i 0, .i 0, .i 0, .i 0, .z]]) rfl rfl rfl gl rfl rfl rfl rfl rfl) ?_
  refine gv hF oA ?_
  refine sn ?_
  refine Sm.ret ?_
  obtain rfl := ae h
  exact dV (RetR.cons (RetO.cell rfl (aE (ds := [.i 0, .i 0, .i 0, .z, .z, .z, .i 0, .i 0, .i 0, .i 0, .z]) rfl rfl i9 gl rfl rfl)) (RetR.cons (RetO.tmp rfl) (RetR.nil))) (by repeat' first | exact D.le.refl _ | exact eV _ _ _ | exact ek _ _ _ | refine fe ?_ | exact LeRows.nil | refine LeRows.cons ?_ ?_ | exact LeL.nil | refine LeL.cons ?_ ?_ | refine ff ?_ | refine fg ?_)
 replace h := ifF hc1 h
 refine sk ?_
 refine sr hF ?_
 refine gv hF oM ?_
 refine gv hF oM ?_
 obtain ⟨x2, hx2, h⟩ := aa h
 refine cS hF (kL hx2) ?_
 refine gv hF oM ?_
 obtain ⟨x3, hx3, h⟩ := aa h
 refine cS hF (qC hx3) ?_
 refine gv hF oM ?_
 refine gv hF (bh rfl rfl rfl) ?_
 refine gv hF (bh rfl rfl rfl) ?_
 refine gv hF oA ?_
 refine gv hF oA ?_
 refine sn ?_
 refine Sm.seq ?_
 refine sr hF ?_
 refine gv hF oM ?_
 refine gv hF (oB (kW)) ?_
 refine sn ?_
 refine bK hF rfl (fun hc4 => ?_) (fun hc4 => ?_)
 ·replace h := ifT hc4 h
  refine sr hF ?_
  refine gv hF (x := .d (.agg 11 [.i 0, .i 0, .i 0, .z, .z, .z, .i 0, .i 0, .i 0, .i 0, .z])) (bc rfl u38 (by kernel_rfl) rfl Ad) ?_
  refine gv hF oM ?_
  refine SmG.store hF rfl rfl rfl rfl rfl (ba (ys := [.i 0, .i 0, .i 0, .z, .z, .z, .i 0, .i 0, .i 0, .i 0, .z]) (r := [.i 0, .i 0, .i 0, .z, .z, .z, .i 0, .i 0, .i 0, .i 0, .z]) (rows' := [[.i 0, .i 0, .i 0, .z, .z, .z, .i 0, .i 0, .i 0, .i 0, .z]]) rfl rfl rfl gl rfl rfl rfl rfl rfl) ?_
  refine gv hF oA ?_
  refine sn ?_
  refine Sm.ret ?_
  obtain rfl := ae h
  exact dV (RetR.cons (RetO.cell rfl (aE (ds := [.i 0, .i 0, .i 0, .z, .z, .z, .i 0, .i 0, .i 0, .i 0, .z]) rfl rfl i9 gl rfl rfl)) (RetR.cons (RetO.tmp rfl) (RetR.nil))) (by repeat' first | exact D.le.refl _ | exact eV _ _ _ | exact ek _ _ _ | refine fe ?_ | exact LeRows.nil | refine LeRows.cons ?_ ?_ | exact LeL.nil | refine LeL.cons ?_ ?_ | refine ff ?_ | refine fg ?_)
 replace h := ifF hc4 h
 refine sk ?_
 refine Sm.seq ?_
 refine aV hF (by kernel_rfl) rfl 13 (by kernel_rfl) (by kernel_rfl) ?_
 simp only [List.take_succ_cons, List.take_zero, List.take_nil]
 refine hv hF oM ?_
 refine hv hF oM ?_
 refine hv hF oM ?_
 refine hv hF (oN (bg u40)) ?_
 refine hv hF oM ?_
 refine hv hF oM ?_
 obtain ⟨x5, hx5, h⟩ := aa h
 refine hv hF (oI (aW u40 d9 hx5)) ?_
 refine hv hF (x := .d (.agg 5 (Ps.row x5))) (oL (cI gu d9 rfl rfl)) ?_
 refine hv hF oM ?_
 refine hv hF oM ?_
 obtain ⟨x6, hx6, h⟩ := aa h
 refine hv hF (oI (aW u41 gL hx6)) ?_
 refine hv hF (x := .d (.agg 2 (Rs.row x6))) (oL (cI jY gL rfl rfl)) ?_
 refine hv hF oM ?_
 refine ag.last ⟨rfl, ?_⟩
 simp only [List.drop_succ_cons, List.drop_zero, List.drop_nil, List.nil_append, List.cons_append]
 refine gv hF (x := .d (.agg 11 [.i a2, .i a3, .i (a0.length : Int), .l x5.at_, .l x5.h0, .l x5.h1, .i x5.rights, .i x5.side, .i x6.out, .i x6.n, .list 32 (x3.1.map aJ) false])) (bc rfl u38 (by kernel_rfl) rfl (bj (n := 11) zB G7 rfl rfl)) ?_
 refine SmG.store hF rfl rfl rfl rfl rfl (ba (ys := [.i a2, .i a3, .i (a0.length : Int), .l x5.at_, .l x5.h0, .l x5.h1, .i x5.rights, .i x5.side, .i x6.out, .i x6.n, .d (.list 32 (x3.1.map aJ) false)]) (r := [.i 0, .i 0, .i 0, .z, .z, .z, .i 0, .i 0, .i 0, .i 0, .z]) (rows' := [[.i a2, .i a3, .i (a0.length : Int), .l x5.at_, .l x5.h0, .l x5.h1, .i x5.rights, .i x5.side, .i x6.out, .i x6.n, .d (.list 32 (x3.1.map aJ) false)]]) rfl rfl rfl gl rfl rfl rfl rfl rfl) ?_
 refine gv hF oA ?_
 refine sn ?_
 refine Sm.ret ?_
 obtain rfl := ae h
 exact dV (RetR.cons (RetO.cell rfl (aE (ds := [.i a2, .i a3, .i (a0.length : Int), .l x5.at_, .l x5.h0, .l x5.h1, .i x5.rights, .i x5.side, .i x6.out, .i x6.n, .list 32 (x3.1.map aJ) false]) rfl rfl i9 gl rfl rfl)) (RetR.cons (RetO.tmp rfl) (RetR.nil))) (D.le.refl _)
noncomputable def da (a1 : Rs) (s5 : (Int × (List UInt8))) : Option ((Int × (List UInt8)) ⊕ List UInt8) :=
 bif (decide (0 ≤ s5.1)) then (
  ob (arI .i64 (8 * s5.1)) fun x10 =>
  ob (jJ .i64 a1.n x10) fun x11 =>
  ob (app s5.2 [(w8 x11)]) fun x12 =>
  ob (arI .i64 (s5.1 - 1)) fun x13 =>
  some (.inl (x13, x12))
 ) else (
  some (.inr s5.2)
 )
noncomputable def eQ (a0 : Ps) (a1 : Rs) : Option (List UInt8) :=
 ob (ga a0) fun x1 =>
 ob (pa x1) fun x2 =>
 ob (app [(w8 (a0.at_.length : Int)), (w8 (a0.h0.length : Int)), (w8 (a0.h1.length : Int))] x2) fun x3 =>
 ob (app x3 [(w8 a1.out)]) fun x4 =>
 ob ((
  bC (da a1) (3, x4)
  : Option (List UInt8))) fun v14 =>
 some v14
set_option maxHeartbeats 4000000 in
theorem js {a0 : Ps} {a1 : Rs} {r : List UInt8} (h : eQ a0 a1 = some r) : aq Tryd.prog HG 14 [.agg 5 (Ps.row a0), .agg 2 (Rs.row a1)] (.list 1 (r.map aL) false) := by
 unfold eQ at h
 refine aq.of Tryd.func14 rfl Tryd.ntmps14 (by simp) ?_
 intro F hF h0 hT
 show Sm F _ _ ⟨[(0, .d (.agg 5 (Ps.row a0))), (1, .d (.agg 2 (Rs.row a1)))], [], 0⟩
 refine sr hF ?_
 refine bT hF fU ?_
 refine bT hF fU ?_
 refine gv hF oA ?_
 refine sn ?_
 refine sr hF ?_
 refine gv hF (oF (ak kB rfl)) ?_
 refine gv hF (oL (lP1 eo rfl)) ?_
 refine gv hF (oN (bg u30)) ?_
 refine gv hF (oC (jd u3 u5)) ?_
 refine gv hF (oF (ak eJ rfl)) ?_
 refine gv hF (oI (ci u31 eF rfl rfl)) ?_
 refine gv hF (oL (lP1 eo rfl)) ?_
 refine gv hF (oN (bg u30)) ?_
 refine gv hF (oC (jd u3 u5)) ?_
 refine gv hF (oF (ak eJ rfl)) ?_
 refine gv hF (oI (ci u31 eF rfl rfl)) ?_
 refine gv hF (oL (lP1 eo rfl)) ?_
 refine gv hF (oN (bg u30)) ?_
 refine gv hF (oC (jd u3 u5)) ?_
 refine SmG.buildOwn hF (rows := ([(w8 (a0.at_.length : Int)), (w8 (a0.h0.length : Int)), (w8 (a0.h1.length : Int))].map aL)) rfl rfl rfl rfl rfl (az Tryd.underlying24 sz5 ze5 rfl rfl (PartsQ.cons rfl (PartsQ.cons rfl (PartsQ.cons rfl (PartsQ.nil _)))) rfl) (by simp) ?_
 refine gv hF oA ?_
 refine sn ?_
 refine sr hF ?_
 refine gv hF oM ?_
 refine gv hF (x := .d (.agg 5 (Ps.row a0))) (oL (cI gu d9 rfl rfl)) ?_
 obtain ⟨x1, hx1, h⟩ := aa h
 refine cS hF (nF hx1) ?_
 obtain ⟨x2, hx2, h⟩ := aa h
 refine SmG.ofString hF rfl rfl rfl rfl rfl Tryd.underlying9 Tryd.underlying24 Tryd.underlying5 hx2 ?_
 obtain ⟨x3, hx3, h⟩ := aa h
 refine a8 hF oh rfl (ys := x2) (row := aL) rfl rfl rfl rfl rfl rfl rfl rfl (.inl rfl) hx3 (by (repeat' first | exact bn _ | refine bf ?_ | refine ap ?_ (aO _ _ _) | refine ap ?_ (aO _ _ [_]) | refine ap ?_ (bE (by rfl)))) ?_
 refine gv hF oA ?_
 refine sn ?_
 refine sr hF ?_
 refine gv hF oM ?_
 refine gv hF (oF (ak tq rfl)) ?_
 refine gv hF (oL (lP1 ag3 rfl)) ?_
 refine gv hF (oC (jd u3 u5)) ?_
 refine gv hF (x := .d (.list 1 ([(w8 a1.out)].map aL) true)) (oS (az u24 sz5 ze5 rfl rfl (PartsQ.cons rfl (PartsQ.nil _)) rfl)) ?_
 obtain ⟨x4, hx4, h⟩ := aa h
 refine a8 hF oh rfl (ys := [(w8 a1.out)]) (row := aL) rfl rfl rfl rfl rfl rfl rfl rfl (.inl rfl) hx4 (by (repeat' first | exact bn _ | refine bf ?_ | refine ap ?_ (aO _ _ _) | refine ap ?_ (aO _ _ [_]) | refine ap ?_ (bE (by rfl)))) ?_
 refine gv hF oA ?_
 refine sn ?_
 refine Sm.seq ?_
 obtain ⟨v14, hv14, h⟩ := aa h
 refine aZ ⟨[(5, .sref 0 0 (v14.map aL).length)], [(0, dB 1 (v14.map aL))], 1⟩ ?_ ?_
 ·refine Sm.seq ?_
  refine ab hF rfl ?_
  refine gv hF oM ?_
  refine gv hF oA ?_
  refine sn ?_
  refine Sm.to (aR (kA (e := [(4, .sref 0 0 (v14.map aL).length)]) (g := [(0, dB 1 (v14.map aL))]) (m := 1)) (fA (l := 0) (sz := 1) (e := [(4, .d (.list 1 (v14.map aL) false))]) (g := []) (nx := 1) (v14.map aL))) ?_
  refine Sm.ret ?_
  obtain rfl := ae h
  exact bz rfl rfl
 replace h := hv14
 refine sr hF ?_
 refine gv hF oA ?_
 refine sn ?_
 refine Sm.block ?_
 refine bm (da a1) (fun s5 => ⟨[(3, .d (.ptr 2 (Rs.row a1))), (5, .sref 0 0 (s5.2.map aL).length), (6, .i s5.1)], [(0, dB 1 (s5.2.map aL))], 1⟩) (3, x4) h (kA) ?_
 intro n6 s5 o7 h hd8
 unfold da at h
 refine Sm.seq ?_
 refine sr hF ?_
 refine gv hF oM ?_
 refine gv hF (oB (oT)) ?_
 refine sn ?_
 refine aF hF rfl (fun hc9 => ?_) (fun hc9 => ?_)
 ·replace h := ifF hc9 h
  refine Sm.exit ?_
  replace h := aK h hd8
  obtain rfl := ae h
  exact (kA)
 replace h := ifT hc9 h
 refine sk ?_
 refine Sm.seq ?_
 refine Sm.block ?_
 refine ab hF rfl ?_
 refine gv hF oM ?_
 refine gv hF (oF (ak mC rfl)) ?_
 refine gv hF (oL (lP1 ag3 rfl)) ?_
 refine gv hF oM ?_
 obtain ⟨x10, hx10, h⟩ := aa h
 refine gv hF (oB (iM hx10)) ?_
 obtain ⟨x11, hx11, h⟩ := aa h
 refine gv hF (oB (lC hx11)) ?_
 refine gv hF (oC (jd u3 u5)) ?_
 refine gv hF (x := .d (.list 1 ([(w8 x11)].map aL) true)) (oS (az u24 sz5 ze5 rfl rfl (PartsQ.cons rfl (PartsQ.nil _)) rfl)) ?_
 obtain ⟨x12, hx12, h⟩ := aa h
 refine a8 hF oh rfl (ys := [(w8 x11)]) (row := aL) rfl rfl rfl rfl rfl rfl rfl rfl (.inl rfl) hx12 (by (repeat' first | exact bn _ | refine bf ?_ | refine ap ?_ (aO _ _ _) | refine ap ?_ (aO _ _ [_]) | refine ap ?_ (bE (by rfl)))) ?_
 refine gv hF oA ?_
 refine SmG.nil ?_
 refine ar ?_
 refine ac ?_
 refine ab hF rfl ?_
 refine gv hF oM ?_
 obtain ⟨x13, hx13, h⟩ := aa h
 refine gv hF (oB (n8 hx13)) ?_
 refine gv hF oA ?_
 refine SmG.nil ?_
 exact bp (be h hd8) (kA)
noncomputable def bB (a0 : Ans) : Option (List (List UInt8)) :=
 ob (eQ a0.pos a0.entry) fun x1 =>
 ob (fh a0.count a0.index x1 a0.proof) fun x2 =>
 some x2
set_option maxHeartbeats 4000000 in
theorem fP {a0 : Ans} {r : List (List UInt8)} (h : bB a0 = some r) : aq Tryd.prog HG 22 [.agg 11 (Ans.row a0)] (.list 1 (r.map aY) false) := by
 unfold bB at h
 refine aq.of Tryd.func22 rfl Tryd.ntmps22 (by simp) ?_
 intro F hF h0 hT
 show Sm F _ _ ⟨[(0, .d (.agg 11 (Ans.row a0)))], [], 0⟩
 refine sr hF ?_
 refine bT hF fU ?_
 refine gv hF oA ?_
 refine sn ?_
 refine Sm.seq ?_
 refine aV hF (by kernel_rfl) rfl 11 (by kernel_rfl) (by kernel_rfl) ?_
 simp only [List.take_succ_cons, List.take_zero, List.take_nil]
 refine hv hF (oF (ak nW rfl)) ?_
 refine hv hF (oL (lP1 ag3 rfl)) ?_
 refine hv hF (oF (ak pZ rfl)) ?_
 refine hv hF (oL (lP1 ag3 rfl)) ?_
 refine hv hF (oF (ak lu rfl)) ?_
 refine hv hF (x := .d (.agg 5 [.l a0.pos.at_, .l a0.pos.h0, .l a0.pos.h1, .i a0.pos.rights, .i a0.pos.side])) (oL (cI gu d9 rfl rfl)) ?_
 refine hv hF (oF (ak ow rfl)) ?_
 refine hv hF (x := .d (.agg 2 [.i a0.entry.out, .i a0.entry.n])) (oL (cI jY gL rfl rfl)) ?_
 obtain ⟨x1, hx1, h⟩ := aa h
 refine cH hF (js hx1) ?_
 refine hv hF (oF (ak nN rfl)) ?_
 refine hv hF (oL (lP1 tv rfl)) ?_
 refine ag.last ⟨rfl, ?_⟩
 simp only [List.drop_succ_cons, List.drop_zero, List.drop_nil, List.nil_append, List.cons_append]
 obtain ⟨x2, hx2, h⟩ := aa h
 refine cS hF (mE hx2) ?_
 refine gv hF oA ?_
 refine sn ?_
 refine Sm.ret ?_
 obtain rfl := ae h
 exact bz rfl rfl
noncomputable def dS (a1 : List (List UInt8)) (s1 : (Int × (List (List UInt8)))) : Option ((Int × (List (List UInt8))) ⊕ List (List UInt8)) :=
 bif (decide (s1.1 < (a1.length : Int))) then (
  ob (idx a1 s1.1) fun x6 =>
  ob (f7 x6) fun x7 =>
  ob (app s1.2 [x7]) fun x8 =>
  ob (arI .i64 (s1.1 + 1)) fun x9 =>
  some (.inl (x9, x8))
 ) else (
  some (.inr s1.2)
 )
noncomputable def bM (a0 : List (List UInt8)) (a1 : List (List UInt8)) (v10 : List (List UInt8)) (s11 : Int) (x17 : List UInt8) (s19 : Int) : Option (Int ⊕ (Unit ⊕ (Int ⊕ (Unit ⊕ Bool)))) :=
 bif (decide (s19 < (a1.length : Int))) then (
  ob ((
   ob (idx v10 s19) fun x24 =>
   ob (vN 32 x17) fun x25 =>
   ob (vN 32 x24) fun x26 =>
   bif (x17 == x24) then (
    ob (idx a0 s11) fun x28 =>
    ob (idx a1 s19) fun x29 =>
    bif (!(x28 == x29)) then (
     some (.inr (.inr (.inr (.inr (.inr true)))))
    ) else (
     some (.inl ())
    )
   ) else (
    some (.inl ())
   )
   : Option (Unit ⊕ (Int ⊕ (Unit ⊕ (Int ⊕ (Unit ⊕ Bool))))))) fun o33 => match o33 with
  | .inl v31 => (
   ob (arI .i64 (s19 + 1)) fun x32 =>
   some (.inl x32)
   )
  | .inr e34 => some e34
 ) else (
  some (.inr (.inl ()))
 )
noncomputable def dX (a0 : List (List UInt8)) (a1 : List (List UInt8)) (v10 : List (List UInt8)) (s11 : Int) : Option (Int ⊕ (Unit ⊕ Bool)) :=
 bif (decide (s11 < (a0.length : Int))) then (
  ob ((
   ob (idx a0 s11) fun x16 =>
   ob (f7 x16) fun x17 =>
   ob (vN 32 x17) fun x18 =>
   bC (bM a0 a1 v10 s11 x17) 0
   : Option (Unit ⊕ (Int ⊕ (Unit ⊕ Bool))))) fun o37 => match o37 with
  | .inl v35 => (
   ob (arI .i64 (s11 + 1)) fun x36 =>
   some (.inl x36)
   )
  | .inr e38 => some e38
 ) else (
  some (.inr (.inl ()))
 )
noncomputable def dE (a0 : List (List UInt8)) (a1 : List (List UInt8)) : Option Bool :=
 ob ((
  bC (dS a1) (0, ([] : List (List UInt8)))
  : Option (List (List UInt8)))) fun v10 =>
 ob ((
  bC (dX a0 a1 v10) 0
  : Option (Unit ⊕ Bool))) fun o40 => match o40 with
 | .inl v39 => (
  some false
  )
 | .inr e41 => some e41
set_option maxHeartbeats 4000000 in
theorem jE {a0 : List (List UInt8)} {a1 : List (List UInt8)} {r : Bool} (h : dE a0 a1 = some r) : aq Tryd.prog HG 21 [.list 1 (a0.map aY) false, .list 1 (a1.map aY) false] (.v (.bool r)) := by
 unfold dE at h
 refine aq.of Tryd.func21 rfl Tryd.ntmps21 (by simp) ?_
 intro F hF h0 hT
 show Sm F _ _ ⟨[(0, .d (.list 1 (a0.map aY) false)), (1, .d (.list 1 (a1.map aY) false))], [], 0⟩
 refine sr hF ?_
 refine gv hF oA ?_
 refine sn ?_
 refine sr hF ?_
 refine gv hF (x := .d (.list 32 (([] : List (List UInt8)).map aJ) true)) (oS (fp u36 cP)) ?_
 refine gv hF oA ?_
 refine sn ?_
 refine Sm.seq ?_
 obtain ⟨v10, hv10, h⟩ := aa h
 refine dk ⟨[(0, .d (.list 1 (a0.map aY) false)), (1, .d (.list 1 (a1.map aY) false)), (5, .d (.list 32 (v10.map aJ) false))], [], 1⟩ ?_ ?_
 ·replace h := hv10
  refine sr hF ?_
  refine gv hF oA ?_
  refine sn ?_
  refine Sm.block ?_
  refine Sm.to (kA (e := [(0, .d (.list 1 (a0.map aY) false)), (1, .d (.list 1 (a1.map aY) false)), (5, .d (.list 32 ([].map aJ) true)), (6, .i 0)]) (g := []) (m := 0)) ?_
  refine Sm.own (t := 5) 32 rfl ?_
  refine bm (dS a1) (fun s1 => ⟨[(0, .d (.list 1 (a0.map aY) false)), (1, .d (.list 1 (a1.map aY) false)), (5, .sref 0 0 (s1.2.map aJ).length), (6, .i s1.1)], [(0, dB 32 (s1.2.map aJ))], 1⟩) (0, ([] : List (List UInt8))) h (kA) ?_
  intro n2 s1 o3 h hd4
  unfold dS at h
  refine Sm.seq ?_
  refine sr hF ?_
  refine gv hF oM ?_
  refine gv hF oM ?_
  refine gv hF (oN (bg u61)) ?_
  refine gv hF (oB (br)) ?_
  refine sn ?_
  refine aF hF rfl (fun hc5 => ?_) (fun hc5 => ?_)
  ·replace h := ifF hc5 h
   refine Sm.exit ?_
   replace h := aK h hd4
   obtain rfl := ae h
   exact (aR (kA (e := [(0, .d (.list 1 (a0.map aY) false)), (1, .d (.list 1 (a1.map aY) false)), (5, .sref 0 0 (s1.2.map aJ).length)]) (g := [(0, dB 32 (s1.2.map aJ))]) (m := 1)) (fA (l := 0) (sz := 32) (s1.2.map aJ)))
  replace h := ifT hc5 h
  refine sk ?_
  refine Sm.seq ?_
  refine Sm.block ?_
  refine ab hF rfl ?_
  refine gv hF oM ?_
  refine gv hF oM ?_
  refine gv hF oM ?_
  obtain ⟨x6, hx6, h⟩ := aa h
  refine gv hF (oI (aW u61 eC hx6)) ?_
  refine gv hF (oL (lP1 e8 rfl)) ?_
  obtain ⟨x7, hx7, h⟩ := aa h
  refine cS hF (fi hx7) ?_
  refine gv hF (x := .d (.list 32 ([x7].map aJ) true)) (oS (az u36 cP zF rfl rfl (PartsQ.cons rfl (PartsQ.nil _)) rfl)) ?_
  obtain ⟨x8, hx8, h⟩ := aa h
  refine a8 hF Gu rfl (ys := [x7]) (row := aJ) rfl rfl rfl rfl rfl rfl rfl rfl (.inl rfl) hx8 (by (repeat' first | exact bn _ | refine bf ?_ | refine ap ?_ (aO _ _ _) | refine ap ?_ (aO _ _ [_]) | refine ap ?_ (bE (by rfl)))) ?_
  refine gv hF oA ?_
  refine SmG.nil ?_
  refine ar ?_
  refine ac ?_
  refine ab hF rfl ?_
  refine gv hF oM ?_
  obtain ⟨x9, hx9, h⟩ := aa h
  refine gv hF (oB (aX hx9)) ?_
  refine gv hF oA ?_
  refine SmG.nil ?_
  exact bp (be h hd4) (kA)
 refine Sm.seq ?_
 obtain ⟨o40, ho40, h⟩ := aa h
 rcases i4 o40 with ⟨e41, rfl⟩ | ⟨v39, rfl⟩
 ·have he41 := ae h
  subst he41
  replace h := ho40
  refine sr hF ?_
  refine gv hF oA ?_
  refine sn ?_
  refine Sm.block ?_
  refine bm (dX a0 a1 v10) (fun s11 => ⟨[(0, .d (.list 1 (a0.map aY) false)), (1, .d (.list 1 (a1.map aY) false)), (5, .d (.list 32 (v10.map aJ) false)), (7, .i s11)], [], 1⟩) 0 h (kA) ?_
  intro n12 s11 o13 h hd14
  unfold dX at h
  refine Sm.seq ?_
  refine sr hF ?_
  refine gv hF oM ?_
  refine gv hF oM ?_
  refine gv hF (oN (bg u61)) ?_
  refine gv hF (oB (br)) ?_
  refine sn ?_
  refine aF hF rfl (fun hc15 => ?_) (fun hc15 => ?_)
  ·replace h := ifF hc15 h
   refine Sm.exit ?_
   replace h := aK h hd14
   cases h
  replace h := ifT hc15 h
  refine sk ?_
  refine Sm.seq ?_
  obtain ⟨o37, ho37, h⟩ := aa h
  rcases i4 o37 with ⟨e38, rfl⟩ | ⟨v35, rfl⟩
  ·have he38 := ae h
   subst he38
   replace h := ho37
   refine Sm.block ?_
   refine sr hF ?_
   refine gv hF oM ?_
   refine gv hF oM ?_
   obtain ⟨x16, hx16, h⟩ := aa h
   refine gv hF (oI (aW u61 eC hx16)) ?_
   refine gv hF (oL (lP1 e8 rfl)) ?_
   obtain ⟨x17, hx17, h⟩ := aa h
   refine cS hF (fi hx17) ?_
   refine SmG.new hF rfl rfl rfl (aQ rfl kG) ?_
   obtain ⟨x18, hx18, h⟩ := aa h
   refine SmG.store hF rfl rfl rfl rfl rfl (jL rfl rfl cP rfl (du hx18)) ?_
   refine sn ?_
   refine sr hF ?_
   refine gv hF oA ?_
   refine sn ?_
   refine Sm.block ?_
   refine bm (bM a0 a1 v10 s11 x17) (fun s19 => ⟨[(0, .d (.list 1 (a0.map aY) false)), (1, .d (.list 1 (a1.map aY) false)), (5, .d (.list 32 (v10.map aJ) false)), (7, .i s11), (8, .ref 1 0 0), (9, .i s19)], [(1, ⟨32, [(aJ x17).map V.d]⟩)], 2⟩) 0 h (kA) ?_
   intro n20 s19 o21 h hd22
   unfold bM at h
   refine Sm.seq ?_
   refine sr hF ?_
   refine gv hF oM ?_
   refine gv hF oM ?_
   refine gv hF (oN (bg u61)) ?_
   refine gv hF (oB (br)) ?_
   refine sn ?_
   refine aF hF rfl (fun hc23 => ?_) (fun hc23 => ?_)
   ·replace h := ifF hc23 h
    refine Sm.exit ?_
    replace h := aK h hd22
    cases h
   replace h := ifT hc23 h
   refine sk ?_
   refine Sm.seq ?_
   obtain ⟨o33, ho33, h⟩ := aa h
   rcases i4 o33 with ⟨e34, rfl⟩ | ⟨v31, rfl⟩
   ·have he34 := ae h
    subst he34
    replace h := ho33
    refine Sm.block ?_
    refine Sm.seq ?_
    refine aV hF (by kernel_rfl) rfl 17 (by kernel_rfl) (by kernel_rfl) ?_
    simp only [List.take_succ_cons, List.take_zero, List.take_nil]
    refine hv hF (x := .d (.agg 32 (aJ x17))) (oL (fZ rfl fG cP)) ?_
    refine hv hF oM ?_
    refine hv hF oM ?_
    obtain ⟨x24, hx24, h⟩ := aa h
    refine hv hF (oI (aW u36 cP hx24)) ?_
    refine hv hF (x := .d (.agg 32 (aJ x24))) (oL (cI fG cP rfl rfl)) ?_
    obtain ⟨x25, hx25, h⟩ := aa h
    obtain ⟨x26, hx26, h⟩ := aa h
    refine hv hF (ir rfl rfl rfl (jq (by kernel_rfl) (by kernel_rfl) (du hx25) (du hx26))) ?_
    rcases bx (x17 == x24) with hc27 | hc27
    ·replace h := ifF hc27 h
     refine hv hF (au rfl rfl hc27) ?_
     refine hp hF ?_
     refine hp hF ?_
     refine hp hF ?_
     refine hp hF ?_
     refine hp hF ?_
     refine hp hF ?_
     refine hp hF ?_
     refine hp hF ?_
     refine hp hF ?_
     refine hp hF ?_
     refine ag.last ⟨rfl, ?_⟩
     simp only [List.drop_succ_cons, List.drop_zero, List.drop_nil, List.nil_append, List.cons_append]
     refine gp hF ?_
     refine gv hF (am rfl rfl rfl) ?_
     refine sn ?_
     refine bi hF rfl ?_
     refine Sm.skip ?_
     refine ar ?_
     cases h
    replace h := ifT hc27 h
    refine hv hF (au rfl rfl hc27) ?_
    refine hv hF oM ?_
    refine hv hF oM ?_
    obtain ⟨x28, hx28, h⟩ := aa h
    refine hv hF (oI (aW u61 eC hx28)) ?_
    refine hv hF (oL (lP1 e8 rfl)) ?_
    refine hv hF (oC (ed u24 u9 u5)) ?_
    refine hv hF oM ?_
    refine hv hF oM ?_
    obtain ⟨x29, hx29, h⟩ := aa h
    refine hv hF (oI (aW u61 eC hx29)) ?_
    refine hv hF (oL (lP1 e8 rfl)) ?_
    refine hv hF (oC (ed u24 u9 u5)) ?_
    refine ag.last ⟨rfl, ?_⟩
    simp only [List.drop_succ_cons, List.drop_zero, List.drop_nil, List.nil_append, List.cons_append]
    refine gv hF (oB (ku rfl)) ?_
    refine gv hF (aH rfl rfl rfl) ?_
    refine sn ?_
    refine aF hF rfl (fun hc30 => ?_) (fun hc30 => ?_)
    ·replace h := ifF hc30 h
     refine Sm.skip ?_
     refine ar ?_
     cases h
    replace h := ifT hc30 h
    refine sr hF ?_
    refine gv hF oA ?_
    refine sn ?_
    refine Sm.ret ?_
    replace h := gy h
    replace h := aK h hd22
    replace h := gy h
    replace h := aK h hd14
    replace h := gy h
    obtain rfl := ae h
    exact bz rfl rfl
   refine aZ ⟨[(0, .d (.list 1 (a0.map aY) false)), (1, .d (.list 1 (a1.map aY) false)), (5, .d (.list 32 (v10.map aJ) false)), (7, .i s11), (8, .ref 1 0 0), (9, .i s19)], [(1, ⟨32, [(aJ x17).map V.d]⟩)], 2⟩ ?_ ?_
   ·refine ab hF rfl ?_
    refine gv hF oM ?_
    obtain ⟨x32, hx32, h⟩ := aa h
    refine gv hF (oB (aX hx32)) ?_
    refine gv hF oA ?_
    refine SmG.nil ?_
    exact bp (be h hd22) (kA)
   replace h := ho33
   refine Sm.block ?_
   refine Sm.seq ?_
   refine aV hF (by kernel_rfl) rfl 17 (by kernel_rfl) (by kernel_rfl) ?_
   simp only [List.take_succ_cons, List.take_zero, List.take_nil]
   refine hv hF (x := .d (.agg 32 (aJ x17))) (oL (fZ rfl fG cP)) ?_
   refine hv hF oM ?_
   refine hv hF oM ?_
   obtain ⟨x24, hx24, h⟩ := aa h
   refine hv hF (oI (aW u36 cP hx24)) ?_
   refine hv hF (x := .d (.agg 32 (aJ x24))) (oL (cI fG cP rfl rfl)) ?_
   obtain ⟨x25, hx25, h⟩ := aa h
   obtain ⟨x26, hx26, h⟩ := aa h
   refine hv hF (ir rfl rfl rfl (jq (by kernel_rfl) (by kernel_rfl) (du hx25) (du hx26))) ?_
   rcases bx (x17 == x24) with hc27 | hc27
   ·replace h := ifF hc27 h
    refine hv hF (au rfl rfl hc27) ?_
    refine hp hF ?_
    refine hp hF ?_
    refine hp hF ?_
    refine hp hF ?_
    refine hp hF ?_
    refine hp hF ?_
    refine hp hF ?_
    refine hp hF ?_
    refine hp hF ?_
    refine hp hF ?_
    refine ag.last ⟨rfl, ?_⟩
    simp only [List.drop_succ_cons, List.drop_zero, List.drop_nil, List.nil_append, List.cons_append]
    refine gp hF ?_
    refine gv hF (am rfl rfl rfl) ?_
    refine sn ?_
    refine bi hF rfl ?_
    refine Sm.skip ?_
    refine ar ?_
    obtain rfl := ae (dK h)
    exact (kA)
   replace h := ifT hc27 h
   refine hv hF (au rfl rfl hc27) ?_
   refine hv hF oM ?_
   refine hv hF oM ?_
   obtain ⟨x28, hx28, h⟩ := aa h
   refine hv hF (oI (aW u61 eC hx28)) ?_
   refine hv hF (oL (lP1 e8 rfl)) ?_
   refine hv hF (oC (ed u24 u9 u5)) ?_
   refine hv hF oM ?_
   refine hv hF oM ?_
   obtain ⟨x29, hx29, h⟩ := aa h
   refine hv hF (oI (aW u61 eC hx29)) ?_
   refine hv hF (oL (lP1 e8 rfl)) ?_
   refine hv hF (oC (ed u24 u9 u5)) ?_
   refine ag.last ⟨rfl, ?_⟩
   simp only [List.drop_succ_cons, List.drop_zero, List.drop_nil, List.nil_append, List.cons_append]
   refine gv hF (oB (ku rfl)) ?_
   refine gv hF (aH rfl rfl rfl) ?_
   refine sn ?_
   refine aF hF rfl (fun hc30 => ?_) (fun hc30 => ?_)
   ·replace h := ifF hc30 h
    refine Sm.skip ?_
    refine ar ?_
    obtain rfl := ae (dK h)
    exact (kA)
   replace h := ifT hc30 h
   refine sr hF ?_
   refine gv hF oA ?_
   refine sn ?_
   refine Sm.ret ?_
   cases h
  refine aZ ⟨[(0, .d (.list 1 (a0.map aY) false)), (1, .d (.list 1 (a1.map aY) false)), (5, .d (.list 32 (v10.map aJ) false)), (7, .i s11)], [], 2⟩ ?_ ?_
  ·refine ab hF rfl ?_
   refine gv hF oM ?_
   obtain ⟨x36, hx36, h⟩ := aa h
   refine gv hF (oB (aX hx36)) ?_
   refine gv hF oA ?_
   refine SmG.nil ?_
   exact bp (be h hd14) (aR (kA (e := [(0, .d (.list 1 (a0.map aY) false)), (1, .d (.list 1 (a1.map aY) false)), (5, .d (.list 32 (v10.map aJ) false)), (7, .i x36)]) (g := []) (m := 2)) (xA 1))
  replace h := ho37
  refine Sm.block ?_
  refine sr hF ?_
  refine gv hF oM ?_
  refine gv hF oM ?_
  obtain ⟨x16, hx16, h⟩ := aa h
  refine gv hF (oI (aW u61 eC hx16)) ?_
  refine gv hF (oL (lP1 e8 rfl)) ?_
  obtain ⟨x17, hx17, h⟩ := aa h
  refine cS hF (fi hx17) ?_
  refine SmG.new hF rfl rfl rfl (aQ rfl kG) ?_
  obtain ⟨x18, hx18, h⟩ := aa h
  refine SmG.store hF rfl rfl rfl rfl rfl (jL rfl rfl cP rfl (du hx18)) ?_
  refine sn ?_
  refine sr hF ?_
  refine gv hF oA ?_
  refine sn ?_
  refine Sm.block ?_
  refine bm (bM a0 a1 v10 s11 x17) (fun s19 => ⟨[(0, .d (.list 1 (a0.map aY) false)), (1, .d (.list 1 (a1.map aY) false)), (5, .d (.list 32 (v10.map aJ) false)), (7, .i s11), (8, .ref 1 0 0), (9, .i s19)], [(1, ⟨32, [(aJ x17).map V.d]⟩)], 2⟩) 0 h (kA) ?_
  intro n20 s19 o21 h hd22
  unfold bM at h
  refine Sm.seq ?_
  refine sr hF ?_
  refine gv hF oM ?_
  refine gv hF oM ?_
  refine gv hF (oN (bg u61)) ?_
  refine gv hF (oB (br)) ?_
  refine sn ?_
  refine aF hF rfl (fun hc23 => ?_) (fun hc23 => ?_)
  ·replace h := ifF hc23 h
   refine Sm.exit ?_
   replace h := aK h hd22
   obtain rfl := ae (dK h)
   exact (kA)
  replace h := ifT hc23 h
  refine sk ?_
  refine Sm.seq ?_
  obtain ⟨o33, ho33, h⟩ := aa h
  rcases i4 o33 with ⟨e34, rfl⟩ | ⟨v31, rfl⟩
  ·have he34 := ae h
   subst he34
   replace h := ho33
   refine Sm.block ?_
   refine Sm.seq ?_
   refine aV hF (by kernel_rfl) rfl 17 (by kernel_rfl) (by kernel_rfl) ?_
   simp only [List.take_succ_cons, List.take_zero, List.take_nil]
   refine hv hF (x := .d (.agg 32 (aJ x17))) (oL (fZ rfl fG cP)) ?_
   refine hv hF oM ?_
   refine hv hF oM ?_
   obtain ⟨x24, hx24, h⟩ := aa h
   refine hv hF (oI (aW u36 cP hx24)) ?_
   refine hv hF (x := .d (.agg 32 (aJ x24))) (oL (cI fG cP rfl rfl)) ?_
   obtain ⟨x25, hx25, h⟩ := aa h
   obtain ⟨x26, hx26, h⟩ := aa h
   refine hv hF (ir rfl rfl rfl (jq (by kernel_rfl) (by kernel_rfl) (du hx25) (du hx26))) ?_
   rcases bx (x17 == x24) with hc27 | hc27
   ·replace h := ifF hc27 h
    refine hv hF (au rfl rfl hc27) ?_
    refine hp hF ?_
    refine hp hF ?_
    refine hp hF ?_
    refine hp hF ?_
    refine hp hF ?_
    refine hp hF ?_
    refine hp hF ?_
    refine hp hF ?_
    refine hp hF ?_
    refine hp hF ?_
    refine ag.last ⟨rfl, ?_⟩
    simp only [List.drop_succ_cons, List.drop_zero, List.drop_nil, List.nil_append, List.cons_append]
    refine gp hF ?_
    refine gv hF (am rfl rfl rfl) ?_
    refine sn ?_
    refine bi hF rfl ?_
    refine Sm.skip ?_
    refine ar ?_
    cases h
   replace h := ifT hc27 h
   refine hv hF (au rfl rfl hc27) ?_
   refine hv hF oM ?_
   refine hv hF oM ?_
   obtain ⟨x28, hx28, h⟩ := aa h
   refine hv hF (oI (aW u61 eC hx28)) ?_
   refine hv hF (oL (lP1 e8 rfl)) ?_
   refine hv hF (oC (ed u24 u9 u5)) ?_
   refine hv hF oM ?_
   refine hv hF oM ?_
   obtain ⟨x29, hx29, h⟩ := aa h
   refine hv hF (oI (aW u61 eC hx29)) ?_
   refine hv hF (oL (lP1 e8 rfl)) ?_
   refine hv hF (oC (ed u24 u9 u5)) ?_
   refine ag.last ⟨rfl, ?_⟩
   simp only [List.drop_succ_cons, List.drop_zero, List.drop_nil, List.nil_append, List.cons_append]
   refine gv hF (oB (ku rfl)) ?_
   refine gv hF (aH rfl rfl rfl) ?_
   refine sn ?_
   refine aF hF rfl (fun hc30 => ?_) (fun hc30 => ?_)
   ·replace h := ifF hc30 h
    refine Sm.skip ?_
    refine ar ?_
    cases h
   replace h := ifT hc30 h
   refine sr hF ?_
   refine gv hF oA ?_
   refine sn ?_
   refine Sm.ret ?_
   replace h := gy h
   replace h := aK h hd22
   cases h
  refine aZ ⟨[(0, .d (.list 1 (a0.map aY) false)), (1, .d (.list 1 (a1.map aY) false)), (5, .d (.list 32 (v10.map aJ) false)), (7, .i s11), (8, .ref 1 0 0), (9, .i s19)], [(1, ⟨32, [(aJ x17).map V.d]⟩)], 2⟩ ?_ ?_
  ·refine ab hF rfl ?_
   refine gv hF oM ?_
   obtain ⟨x32, hx32, h⟩ := aa h
   refine gv hF (oB (aX hx32)) ?_
   refine gv hF oA ?_
   refine SmG.nil ?_
   exact bp (be h hd22) (kA)
  replace h := ho33
  refine Sm.block ?_
  refine Sm.seq ?_
  refine aV hF (by kernel_rfl) rfl 17 (by kernel_rfl) (by kernel_rfl) ?_
  simp only [List.take_succ_cons, List.take_zero, List.take_nil]
  refine hv hF (x := .d (.agg 32 (aJ x17))) (oL (fZ rfl fG cP)) ?_
  refine hv hF oM ?_
  refine hv hF oM ?_
  obtain ⟨x24, hx24, h⟩ := aa h
  refine hv hF (oI (aW u36 cP hx24)) ?_
  refine hv hF (x := .d (.agg 32 (aJ x24))) (oL (cI fG cP rfl rfl)) ?_
  obtain ⟨x25, hx25, h⟩ := aa h
  obtain ⟨x26, hx26, h⟩ := aa h
  refine hv hF (ir rfl rfl rfl (jq (by kernel_rfl) (by kernel_rfl) (du hx25) (du hx26))) ?_
  rcases bx (x17 == x24) with hc27 | hc27
  ·replace h := ifF hc27 h
   refine hv hF (au rfl rfl hc27) ?_
   refine hp hF ?_
   refine hp hF ?_
   refine hp hF ?_
   refine hp hF ?_
   refine hp hF ?_
   refine hp hF ?_
   refine hp hF ?_
   refine hp hF ?_
   refine hp hF ?_
   refine hp hF ?_
   refine ag.last ⟨rfl, ?_⟩
   simp only [List.drop_succ_cons, List.drop_zero, List.drop_nil, List.nil_append, List.cons_append]
   refine gp hF ?_
   refine gv hF (am rfl rfl rfl) ?_
   refine sn ?_
   refine bi hF rfl ?_
   refine Sm.skip ?_
   refine ar ?_
   obtain rfl := ae (dK h)
   exact (kA)
  replace h := ifT hc27 h
  refine hv hF (au rfl rfl hc27) ?_
  refine hv hF oM ?_
  refine hv hF oM ?_
  obtain ⟨x28, hx28, h⟩ := aa h
  refine hv hF (oI (aW u61 eC hx28)) ?_
  refine hv hF (oL (lP1 e8 rfl)) ?_
  refine hv hF (oC (ed u24 u9 u5)) ?_
  refine hv hF oM ?_
  refine hv hF oM ?_
  obtain ⟨x29, hx29, h⟩ := aa h
  refine hv hF (oI (aW u61 eC hx29)) ?_
  refine hv hF (oL (lP1 e8 rfl)) ?_
  refine hv hF (oC (ed u24 u9 u5)) ?_
  refine ag.last ⟨rfl, ?_⟩
  simp only [List.drop_succ_cons, List.drop_zero, List.drop_nil, List.nil_append, List.cons_append]
  refine gv hF (oB (ku rfl)) ?_
  refine gv hF (aH rfl rfl rfl) ?_
  refine sn ?_
  refine aF hF rfl (fun hc30 => ?_) (fun hc30 => ?_)
  ·replace h := ifF hc30 h
   refine Sm.skip ?_
   refine ar ?_
   obtain rfl := ae (dK h)
   exact (kA)
  replace h := ifT hc30 h
  refine sr hF ?_
  refine gv hF oA ?_
  refine sn ?_
  refine Sm.ret ?_
  cases h
 refine aZ ⟨[], [], 1⟩ ?_ ?_
 ·refine Sm.seq ?_
  refine ab hF rfl ?_
  refine gv hF oA ?_
  refine sn ?_
  refine Sm.ret ?_
  obtain rfl := ae h
  exact bz rfl rfl
 replace h := ho40
 refine sr hF ?_
 refine gv hF oA ?_
 refine sn ?_
 refine Sm.block ?_
 refine bm (dX a0 a1 v10) (fun s11 => ⟨[(0, .d (.list 1 (a0.map aY) false)), (1, .d (.list 1 (a1.map aY) false)), (5, .d (.list 32 (v10.map aJ) false)), (7, .i s11)], [], 1⟩) 0 h (kA) ?_
 intro n12 s11 o13 h hd14
 unfold dX at h
 refine Sm.seq ?_
 refine sr hF ?_
 refine gv hF oM ?_
 refine gv hF oM ?_
 refine gv hF (oN (bg u61)) ?_
 refine gv hF (oB (br)) ?_
 refine sn ?_
 refine aF hF rfl (fun hc15 => ?_) (fun hc15 => ?_)
 ·replace h := ifF hc15 h
  refine Sm.exit ?_
  replace h := aK h hd14
  obtain rfl := ae (dK h)
  exact (kA)
 replace h := ifT hc15 h
 refine sk ?_
 refine Sm.seq ?_
 obtain ⟨o37, ho37, h⟩ := aa h
 rcases i4 o37 with ⟨e38, rfl⟩ | ⟨v35, rfl⟩
 ·have he38 := ae h
  subst he38
  replace h := ho37
  refine Sm.block ?_
  refine sr hF ?_
  refine gv hF oM ?_
  refine gv hF oM ?_
  obtain ⟨x16, hx16, h⟩ := aa h
  refine gv hF (oI (aW u61 eC hx16)) ?_
  refine gv hF (oL (lP1 e8 rfl)) ?_
  obtain ⟨x17, hx17, h⟩ := aa h
  refine cS hF (fi hx17) ?_
  refine SmG.new hF rfl rfl rfl (aQ rfl kG) ?_
  obtain ⟨x18, hx18, h⟩ := aa h
  refine SmG.store hF rfl rfl rfl rfl rfl (jL rfl rfl cP rfl (du hx18)) ?_
  refine sn ?_
  refine sr hF ?_
  refine gv hF oA ?_
  refine sn ?_
  refine Sm.block ?_
  refine bm (bM a0 a1 v10 s11 x17) (fun s19 => ⟨[(0, .d (.list 1 (a0.map aY) false)), (1, .d (.list 1 (a1.map aY) false)), (5, .d (.list 32 (v10.map aJ) false)), (7, .i s11), (8, .ref 1 0 0), (9, .i s19)], [(1, ⟨32, [(aJ x17).map V.d]⟩)], 2⟩) 0 h (kA) ?_
  intro n20 s19 o21 h hd22
  unfold bM at h
  refine Sm.seq ?_
  refine sr hF ?_
  refine gv hF oM ?_
  refine gv hF oM ?_
  refine gv hF (oN (bg u61)) ?_
  refine gv hF (oB (br)) ?_
  refine sn ?_
  refine aF hF rfl (fun hc23 => ?_) (fun hc23 => ?_)
  ·replace h := ifF hc23 h
   refine Sm.exit ?_
   replace h := aK h hd22
   cases h
  replace h := ifT hc23 h
  refine sk ?_
  refine Sm.seq ?_
  obtain ⟨o33, ho33, h⟩ := aa h
  rcases i4 o33 with ⟨e34, rfl⟩ | ⟨v31, rfl⟩
  ·have he34 := ae h
   subst he34
   replace h := ho33
   refine Sm.block ?_
   refine Sm.seq ?_
   refine aV hF (by kernel_rfl) rfl 17 (by kernel_rfl) (by kernel_rfl) ?_
   simp only [List.take_succ_cons, List.take_zero, List.take_nil]
   refine hv hF (x := .d (.agg 32 (aJ x17))) (oL (fZ rfl fG cP)) ?_
   refine hv hF oM ?_
   refine hv hF oM ?_
   obtain ⟨x24, hx24, h⟩ := aa h
   refine hv hF (oI (aW u36 cP hx24)) ?_
   refine hv hF (x := .d (.agg 32 (aJ x24))) (oL (cI fG cP rfl rfl)) ?_
   obtain ⟨x25, hx25, h⟩ := aa h
   obtain ⟨x26, hx26, h⟩ := aa h
   refine hv hF (ir rfl rfl rfl (jq (by kernel_rfl) (by kernel_rfl) (du hx25) (du hx26))) ?_
   rcases bx (x17 == x24) with hc27 | hc27
   ·replace h := ifF hc27 h
    refine hv hF (au rfl rfl hc27) ?_
    refine hp hF ?_
    refine hp hF ?_
    refine hp hF ?_
    refine hp hF ?_
    refine hp hF ?_
    refine hp hF ?_
    refine hp hF ?_
    refine hp hF ?_
    refine hp hF ?_
    refine hp hF ?_
    refine ag.last ⟨rfl, ?_⟩
    simp only [List.drop_succ_cons, List.drop_zero, List.drop_nil, List.nil_append, List.cons_append]
    refine gp hF ?_
    refine gv hF (am rfl rfl rfl) ?_
    refine sn ?_
    refine bi hF rfl ?_
    refine Sm.skip ?_
    refine ar ?_
    cases h
   replace h := ifT hc27 h
   refine hv hF (au rfl rfl hc27) ?_
   refine hv hF oM ?_
   refine hv hF oM ?_
   obtain ⟨x28, hx28, h⟩ := aa h
   refine hv hF (oI (aW u61 eC hx28)) ?_
   refine hv hF (oL (lP1 e8 rfl)) ?_
   refine hv hF (oC (ed u24 u9 u5)) ?_
   refine hv hF oM ?_
   refine hv hF oM ?_
   obtain ⟨x29, hx29, h⟩ := aa h
   refine hv hF (oI (aW u61 eC hx29)) ?_
   refine hv hF (oL (lP1 e8 rfl)) ?_
   refine hv hF (oC (ed u24 u9 u5)) ?_
   refine ag.last ⟨rfl, ?_⟩
   simp only [List.drop_succ_cons, List.drop_zero, List.drop_nil, List.nil_append, List.cons_append]
   refine gv hF (oB (ku rfl)) ?_
   refine gv hF (aH rfl rfl rfl) ?_
   refine sn ?_
   refine aF hF rfl (fun hc30 => ?_) (fun hc30 => ?_)
   ·replace h := ifF hc30 h
    refine Sm.skip ?_
    refine ar ?_
    cases h
   replace h := ifT hc30 h
   refine sr hF ?_
   refine gv hF oA ?_
   refine sn ?_
   refine Sm.ret ?_
   replace h := gy h
   replace h := aK h hd22
   replace h := gy h
   replace h := aK h hd14
   cases h
  refine aZ ⟨[(0, .d (.list 1 (a0.map aY) false)), (1, .d (.list 1 (a1.map aY) false)), (5, .d (.list 32 (v10.map aJ) false)), (7, .i s11), (8, .ref 1 0 0), (9, .i s19)], [(1, ⟨32, [(aJ x17).map V.d]⟩)], 2⟩ ?_ ?_
  ·refine ab hF rfl ?_
   refine gv hF oM ?_
   obtain ⟨x32, hx32, h⟩ := aa h
   refine gv hF (oB (aX hx32)) ?_
   refine gv hF oA ?_
   refine SmG.nil ?_
   exact bp (be h hd22) (kA)
  replace h := ho33
  refine Sm.block ?_
  refine Sm.seq ?_
  refine aV hF (by kernel_rfl) rfl 17 (by kernel_rfl) (by kernel_rfl) ?_
  simp only [List.take_succ_cons, List.take_zero, List.take_nil]
  refine hv hF (x := .d (.agg 32 (aJ x17))) (oL (fZ rfl fG cP)) ?_
  refine hv hF oM ?_
  refine hv hF oM ?_
  obtain ⟨x24, hx24, h⟩ := aa h
  refine hv hF (oI (aW u36 cP hx24)) ?_
  refine hv hF (x := .d (.agg 32 (aJ x24))) (oL (cI fG cP rfl rfl)) ?_
  obtain ⟨x25, hx25, h⟩ := aa h
  obtain ⟨x26, hx26, h⟩ := aa h
  refine hv hF (ir rfl rfl rfl (jq (by kernel_rfl) (by kernel_rfl) (du hx25) (du hx26))) ?_
  rcases bx (x17 == x24) with hc27 | hc27
  ·replace h := ifF hc27 h
   refine hv hF (au rfl rfl hc27) ?_
   refine hp hF ?_
   refine hp hF ?_
   refine hp hF ?_
   refine hp hF ?_
   refine hp hF ?_
   refine hp hF ?_
   refine hp hF ?_
   refine hp hF ?_
   refine hp hF ?_
   refine hp hF ?_
   refine ag.last ⟨rfl, ?_⟩
   simp only [List.drop_succ_cons, List.drop_zero, List.drop_nil, List.nil_append, List.cons_append]
   refine gp hF ?_
   refine gv hF (am rfl rfl rfl) ?_
   refine sn ?_
   refine bi hF rfl ?_
   refine Sm.skip ?_
   refine ar ?_
   obtain rfl := ae (dK h)
   exact (kA)
  replace h := ifT hc27 h
  refine hv hF (au rfl rfl hc27) ?_
  refine hv hF oM ?_
  refine hv hF oM ?_
  obtain ⟨x28, hx28, h⟩ := aa h
  refine hv hF (oI (aW u61 eC hx28)) ?_
  refine hv hF (oL (lP1 e8 rfl)) ?_
  refine hv hF (oC (ed u24 u9 u5)) ?_
  refine hv hF oM ?_
  refine hv hF oM ?_
  obtain ⟨x29, hx29, h⟩ := aa h
  refine hv hF (oI (aW u61 eC hx29)) ?_
  refine hv hF (oL (lP1 e8 rfl)) ?_
  refine hv hF (oC (ed u24 u9 u5)) ?_
  refine ag.last ⟨rfl, ?_⟩
  simp only [List.drop_succ_cons, List.drop_zero, List.drop_nil, List.nil_append, List.cons_append]
  refine gv hF (oB (ku rfl)) ?_
  refine gv hF (aH rfl rfl rfl) ?_
  refine sn ?_
  refine aF hF rfl (fun hc30 => ?_) (fun hc30 => ?_)
  ·replace h := ifF hc30 h
   refine Sm.skip ?_
   refine ar ?_
   obtain rfl := ae (dK h)
   exact (kA)
  replace h := ifT hc30 h
  refine sr hF ?_
  refine gv hF oA ?_
  refine sn ?_
  refine Sm.ret ?_
  cases h
 refine aZ ⟨[(0, .d (.list 1 (a0.map aY) false)), (1, .d (.list 1 (a1.map aY) false)), (5, .d (.list 32 (v10.map aJ) false)), (7, .i s11)], [], 2⟩ ?_ ?_
 ·refine ab hF rfl ?_
  refine gv hF oM ?_
  obtain ⟨x36, hx36, h⟩ := aa h
  refine gv hF (oB (aX hx36)) ?_
  refine gv hF oA ?_
  refine SmG.nil ?_
  exact bp (be h hd14) (aR (kA (e := [(0, .d (.list 1 (a0.map aY) false)), (1, .d (.list 1 (a1.map aY) false)), (5, .d (.list 32 (v10.map aJ) false)), (7, .i x36)]) (g := []) (m := 2)) (xA 1))
 replace h := ho37
 refine Sm.block ?_
 refine sr hF ?_
 refine gv hF oM ?_
 refine gv hF oM ?_
 obtain ⟨x16, hx16, h⟩ := aa h
 refine gv hF (oI (aW u61 eC hx16)) ?_
 refine gv hF (oL (lP1 e8 rfl)) ?_
 obtain ⟨x17, hx17, h⟩ := aa h
 refine cS hF (fi hx17) ?_
 refine SmG.new hF rfl rfl rfl (aQ rfl kG) ?_
 obtain ⟨x18, hx18, h⟩ := aa h
 refine SmG.store hF rfl rfl rfl rfl rfl (jL rfl rfl cP rfl (du hx18)) ?_
 refine sn ?_
 refine sr hF ?_
 refine gv hF oA ?_
 refine sn ?_
 refine Sm.block ?_
 refine bm (bM a0 a1 v10 s11 x17) (fun s19 => ⟨[(0, .d (.list 1 (a0.map aY) false)), (1, .d (.list 1 (a1.map aY) false)), (5, .d (.list 32 (v10.map aJ) false)), (7, .i s11), (8, .ref 1 0 0), (9, .i s19)], [(1, ⟨32, [(aJ x17).map V.d]⟩)], 2⟩) 0 h (kA) ?_
 intro n20 s19 o21 h hd22
 unfold bM at h
 refine Sm.seq ?_
 refine sr hF ?_
 refine gv hF oM ?_
 refine gv hF oM ?_
 refine gv hF (oN (bg u61)) ?_
 refine gv hF (oB (br)) ?_
 refine sn ?_
 refine aF hF rfl (fun hc23 => ?_) (fun hc23 => ?_)
 ·replace h := ifF hc23 h
  refine Sm.exit ?_
  replace h := aK h hd22
  obtain rfl := ae (dK h)
  exact (kA)
 replace h := ifT hc23 h
 refine sk ?_
 refine Sm.seq ?_
 obtain ⟨o33, ho33, h⟩ := aa h
 rcases i4 o33 with ⟨e34, rfl⟩ | ⟨v31, rfl⟩
 ·have he34 := ae h
  subst he34
  replace h := ho33
  refine Sm.block ?_
  refine Sm.seq ?_
  refine aV hF (by kernel_rfl) rfl 17 (by kernel_rfl) (by kernel_rfl) ?_
  simp only [List.take_succ_cons, List.take_zero, List.take_nil]
  refine hv hF (x := .d (.agg 32 (aJ x17))) (oL (fZ rfl fG cP)) ?_
  refine hv hF oM ?_
  refine hv hF oM ?_
  obtain ⟨x24, hx24, h⟩ := aa h
  refine hv hF (oI (aW u36 cP hx24)) ?_
  refine hv hF (x := .d (.agg 32 (aJ x24))) (oL (cI fG cP rfl rfl)) ?_
  obtain ⟨x25, hx25, h⟩ := aa h
  obtain ⟨x26, hx26, h⟩ := aa h
  refine hv hF (ir rfl rfl rfl (jq (by kernel_rfl) (by kernel_rfl) (du hx25) (du hx26))) ?_
  rcases bx (x17 == x24) with hc27 | hc27
  ·replace h := ifF hc27 h
   refine hv hF (au rfl rfl hc27) ?_
   refine hp hF ?_
   refine hp hF ?_
   refine hp hF ?_
   refine hp hF ?_
   refine hp hF ?_
   refine hp hF ?_
   refine hp hF ?_
   refine hp hF ?_
   refine hp hF ?_
   refine hp hF ?_
   refine ag.last ⟨rfl, ?_⟩
   simp only [List.drop_succ_cons, List.drop_zero, List.drop_nil, List.nil_append, List.cons_append]
   refine gp hF ?_
   refine gv hF (am rfl rfl rfl) ?_
   refine sn ?_
   refine bi hF rfl ?_
   refine Sm.skip ?_
   refine ar ?_
   cases h
  replace h := ifT hc27 h
  refine hv hF (au rfl rfl hc27) ?_
  refine hv hF oM ?_
  refine hv hF oM ?_
  obtain ⟨x28, hx28, h⟩ := aa h
  refine hv hF (oI (aW u61 eC hx28)) ?_
  refine hv hF (oL (lP1 e8 rfl)) ?_
  refine hv hF (oC (ed u24 u9 u5)) ?_
  refine hv hF oM ?_
  refine hv hF oM ?_
  obtain ⟨x29, hx29, h⟩ := aa h
  refine hv hF (oI (aW u61 eC hx29)) ?_
  refine hv hF (oL (lP1 e8 rfl)) ?_
  refine hv hF (oC (ed u24 u9 u5)) ?_
  refine ag.last ⟨rfl, ?_⟩
  simp only [List.drop_succ_cons, List.drop_zero, List.drop_nil, List.nil_append, List.cons_append]
  refine gv hF (oB (ku rfl)) ?_
  refine gv hF (aH rfl rfl rfl) ?_
  refine sn ?_
  refine aF hF rfl (fun hc30 => ?_) (fun hc30 => ?_)
  ·replace h := ifF hc30 h
   refine Sm.skip ?_
   refine ar ?_
   cases h
  replace h := ifT hc30 h
  refine sr hF ?_
  refine gv hF oA ?_
  refine sn ?_
  refine Sm.ret ?_
  replace h := gy h
  replace h := aK h hd22
  cases h
 refine aZ ⟨[(0, .d (.list 1 (a0.map aY) false)), (1, .d (.list 1 (a1.map aY) false)), (5, .d (.list 32 (v10.map aJ) false)), (7, .i s11), (8, .ref 1 0 0), (9, .i s19)], [(1, ⟨32, [(aJ x17).map V.d]⟩)], 2⟩ ?_ ?_
 ·refine ab hF rfl ?_
  refine gv hF oM ?_
  obtain ⟨x32, hx32, h⟩ := aa h
  refine gv hF (oB (aX hx32)) ?_
  refine gv hF oA ?_
  refine SmG.nil ?_
  exact bp (be h hd22) (kA)
 replace h := ho33
 refine Sm.block ?_
 refine Sm.seq ?_
 refine aV hF (by kernel_rfl) rfl 17 (by kernel_rfl) (by kernel_rfl) ?_
 simp only [List.take_succ_cons, List.take_zero, List.take_nil]
 refine hv hF (x := .d (.agg 32 (aJ x17))) (oL (fZ rfl fG cP)) ?_
 refine hv hF oM ?_
 refine hv hF oM ?_
 obtain ⟨x24, hx24, h⟩ := aa h
 refine hv hF (oI (aW u36 cP hx24)) ?_
 refine hv hF (x := .d (.agg 32 (aJ x24))) (oL (cI fG cP rfl rfl)) ?_
 obtain ⟨x25, hx25, h⟩ := aa h
 obtain ⟨x26, hx26, h⟩ := aa h
 refine hv hF (ir rfl rfl rfl (jq (by kernel_rfl) (by kernel_rfl) (du hx25) (du hx26))) ?_
 rcases bx (x17 == x24) with hc27 | hc27
 ·replace h := ifF hc27 h
  refine hv hF (au rfl rfl hc27) ?_
  refine hp hF ?_
  refine hp hF ?_
  refine hp hF ?_
  refine hp hF ?_
  refine hp hF ?_
  refine hp hF ?_
  refine hp hF ?_
  refine hp hF ?_
  refine hp hF ?_
  refine hp hF ?_
  refine ag.last ⟨rfl, ?_⟩
  simp only [List.drop_succ_cons, List.drop_zero, List.drop_nil, List.nil_append, List.cons_append]
  refine gp hF ?_
  refine gv hF (am rfl rfl rfl) ?_
  refine sn ?_
  refine bi hF rfl ?_
  refine Sm.skip ?_
  refine ar ?_
  obtain rfl := ae (dK h)
  exact (kA)
 replace h := ifT hc27 h
 refine hv hF (au rfl rfl hc27) ?_
 refine hv hF oM ?_
 refine hv hF oM ?_
 obtain ⟨x28, hx28, h⟩ := aa h
 refine hv hF (oI (aW u61 eC hx28)) ?_
 refine hv hF (oL (lP1 e8 rfl)) ?_
 refine hv hF (oC (ed u24 u9 u5)) ?_
 refine hv hF oM ?_
 refine hv hF oM ?_
 obtain ⟨x29, hx29, h⟩ := aa h
 refine hv hF (oI (aW u61 eC hx29)) ?_
 refine hv hF (oL (lP1 e8 rfl)) ?_
 refine hv hF (oC (ed u24 u9 u5)) ?_
 refine ag.last ⟨rfl, ?_⟩
 simp only [List.drop_succ_cons, List.drop_zero, List.drop_nil, List.nil_append, List.cons_append]
 refine gv hF (oB (ku rfl)) ?_
 refine gv hF (aH rfl rfl rfl) ?_
 refine sn ?_
 refine aF hF rfl (fun hc30 => ?_) (fun hc30 => ?_)
 ·replace h := ifF hc30 h
  refine Sm.skip ?_
  refine ar ?_
  obtain rfl := ae (dK h)
  exact (kA)
 replace h := ifT hc30 h
 refine sr hF ?_
 refine gv hF oA ?_
 refine sn ?_
 refine Sm.ret ?_
 cases h
noncomputable def c8 (a0 : List Ps) (a1 : List Int) (s1 : (Int × (List Rs))) : Option ((Int × (List Rs)) ⊕ List Rs) :=
 bif (decide (s1.1 < (a0.length : Int))) then (
  ob (arI .i64 (7 * s1.1)) fun x6 =>
  ob ((
   bif (decide (0 < (a1.length : Int))) then (
    ob (cE s1.1 (a1.length : Int)) fun x8 =>
    ob (idx a1 x8) fun x9 =>
    ob (arI .i64 x9) fun x10 =>
    ob (arI .i64 (x10 + s1.1)) fun x11 =>
    some x11
   ) else (
    some x6
   )
   : Option Int)) fun v12 =>
  ob (cE v12 3) fun x13 =>
  ob (arI .i64 (1 + x13)) fun x14 =>
  ob (jy .i64 v12 3) fun x15 =>
  ob (app s1.2 [(⟨x14, x15⟩ : Rs)]) fun x16 =>
  ob (arI .i64 (s1.1 + 1)) fun x17 =>
  some (.inl (x17, x16))
 ) else (
  some (.inr s1.2)
 )
noncomputable def eI (a0 : List Ps) (a1 : List Int) : Option (List Rs) :=
 ob ((
  bC (c8 a0 a1) (0, ([] : List Rs))
  : Option (List Rs))) fun v18 =>
 some v18
set_option maxHeartbeats 4000000 in
theorem lF {a0 : List Ps} {a1 : List Int} {r : List Rs} (h : eI a0 a1 = some r) : aq Tryd.prog HG 31 [.list 5 (a0.map Ps.row) false, .list 1 (a1.map (af .u16)) false] (.list 2 (r.map Rs.row) false) := by
 unfold eI at h
 refine aq.of Tryd.func31 rfl Tryd.ntmps31 (by simp) ?_
 intro F hF h0 hT
 show Sm F _ _ ⟨[(0, .d (.list 5 (a0.map Ps.row) false)), (1, .d (.list 1 (a1.map (af .u16)) false))], [], 0⟩
 refine sr hF ?_
 refine gv hF oA ?_
 refine sn ?_
 refine sr hF ?_
 refine gv hF (x := .d (.list 2 (([] : List Rs).map Rs.row) true)) (oS (fp u41 gL)) ?_
 refine gv hF oA ?_
 refine sn ?_
 refine Sm.seq ?_
 obtain ⟨v18, hv18, h⟩ := aa h
 refine aZ ⟨[(5, .d (.list 2 (v18.map Rs.row) false))], [], 1⟩ ?_ ?_
 ·refine Sm.seq ?_
  refine ab hF rfl ?_
  refine gv hF oM ?_
  refine gv hF oA ?_
  refine sn ?_
  refine Sm.ret ?_
  obtain rfl := ae h
  exact bz rfl rfl
 replace h := hv18
 refine sr hF ?_
 refine gv hF oA ?_
 refine sn ?_
 refine Sm.block ?_
 refine Sm.to (kA (e := [(0, .d (.list 5 (a0.map Ps.row) false)), (1, .d (.list 1 (a1.map (af .u16)) false)), (5, .d (.list 2 ([].map Rs.row) true)), (6, .i 0)]) (g := []) (m := 0)) ?_
 refine Sm.own (t := 5) 2 rfl ?_
 refine bm (c8 a0 a1) (fun s1 => ⟨[(0, .d (.list 5 (a0.map Ps.row) false)), (1, .d (.list 1 (a1.map (af .u16)) false)), (5, .sref 0 0 (s1.2.map Rs.row).length), (6, .i s1.1)], [(0, dB 2 (s1.2.map Rs.row))], 1⟩) (0, ([] : List Rs)) h (kA) ?_
 intro n2 s1 o3 h hd4
 unfold c8 at h
 refine Sm.seq ?_
 refine sr hF ?_
 refine gv hF oM ?_
 refine gv hF oM ?_
 refine gv hF (oN (bg u40)) ?_
 refine gv hF (oB (br)) ?_
 refine sn ?_
 refine aF hF rfl (fun hc5 => ?_) (fun hc5 => ?_)
 ·replace h := ifF hc5 h
  refine Sm.exit ?_
  replace h := aK h hd4
  obtain rfl := ae h
  exact (aR (kA (e := [(5, .sref 0 0 (s1.2.map Rs.row).length)]) (g := [(0, dB 2 (s1.2.map Rs.row))]) (m := 1)) (fA (l := 0) (sz := 2) (s1.2.map Rs.row)))
 replace h := ifT hc5 h
 refine sk ?_
 refine Sm.seq ?_
 refine Sm.block ?_
 refine sr hF ?_
 refine gv hF oM ?_
 obtain ⟨x6, hx6, h⟩ := aa h
 refine gv hF (oB (iM hx6)) ?_
 refine gv hF oA ?_
 refine sn ?_
 refine Sm.seq ?_
 obtain ⟨v12, hv12, h⟩ := aa h
 refine aZ ⟨[(0, .d (.list 5 (a0.map Ps.row) false)), (1, .d (.list 1 (a1.map (af .u16)) false)), (5, .sref 0 0 (s1.2.map Rs.row).length), (6, .i s1.1), (7, .i v12)], [(0, dB 2 (s1.2.map Rs.row))], 1⟩ ?_ ?_
 ·refine ab hF rfl ?_
  refine gv hF oM ?_
  refine gv hF oM ?_
  obtain ⟨x13, hx13, h⟩ := aa h
  refine gv hF (oB (bJ hx13)) ?_
  obtain ⟨x14, hx14, h⟩ := aa h
  refine gv hF (oB (aX hx14)) ?_
  refine gv hF oM ?_
  obtain ⟨x15, hx15, h⟩ := aa h
  refine gv hF (oB (kj hx15)) ?_
  refine gv hF (x := .d (.agg 2 [.i x14, .i x15])) (bc rfl u35 (by kernel_rfl) rfl (bj (n := 2) pr zO rfl rfl)) ?_
  refine gv hF (x := .d (.list 2 ([(⟨x14, x15⟩ : Rs)].map Rs.row) true)) (oS (az u41 gL pr rfl rfl (PartsQ.cons rfl (PartsQ.nil _)) rfl)) ?_
  obtain ⟨x16, hx16, h⟩ := aa h
  refine a8 hF Fh rfl (ys := [(⟨x14, x15⟩ : Rs)]) (row := Rs.row) rfl rfl rfl rfl rfl rfl rfl rfl (.inl rfl) hx16 (by (repeat' first | exact bn _ | refine bf ?_ | refine ap ?_ (aO _ _ _) | refine ap ?_ (aO _ _ [_]) | refine ap ?_ (bE (by rfl)))) ?_
  refine gv hF oA ?_
  refine SmG.nil ?_
  refine ar ?_
  refine ac ?_
  refine ab hF rfl ?_
  refine gv hF oM ?_
  obtain ⟨x17, hx17, h⟩ := aa h
  refine gv hF (oB (aX hx17)) ?_
  refine gv hF oA ?_
  refine SmG.nil ?_
  exact bp (be h hd4) (kA)
 replace h := hv12
 refine sr hF ?_
 refine gv hF oM ?_
 refine gv hF (oN (bg u45)) ?_
 refine gv hF (oB (i6)) ?_
 refine sn ?_
 refine aF hF rfl (fun hc7 => ?_) (fun hc7 => ?_)
 ·replace h := ifF hc7 h
  refine Sm.skip ?_
  obtain rfl := ae h
  exact (kA)
 replace h := ifT hc7 h
 refine ab hF rfl ?_
 refine gv hF oM ?_
 refine gv hF oM ?_
 refine gv hF oM ?_
 refine gv hF (oN (bg u45)) ?_
 obtain ⟨x8, hx8, h⟩ := aa h
 refine gv hF (oB (bJ hx8)) ?_
 obtain ⟨x9, hx9, h⟩ := aa h
 refine gv hF (oI (aW u45 vB hx9)) ?_
 refine gv hF (oL (lP1 At rfl)) ?_
 obtain ⟨x10, hx10, h⟩ := aa h
 refine gv hF (oC (jO u44 u3 hx10)) ?_
 refine gv hF oM ?_
 obtain ⟨x11, hx11, h⟩ := aa h
 refine gv hF (oB (aX hx11)) ?_
 refine gv hF oA ?_
 refine SmG.nil ?_
 obtain rfl := ae h
 exact (kA)
end
section
open Go.RowKit
set_option maxRecDepth 100000
noncomputable def im (a0 : Int) (a1 : Int) (a2 : Int) : Option Bool :=
 bif (decide (a1 ≤ a0)) then (
  some (decide (a0 ≤ a2))
 ) else (
  some false
 )
set_option maxHeartbeats 4000000 in
theorem qc {a0 : Int} {a1 : Int} {a2 : Int} {r : Bool} (h : im a0 a1 a2 = some r) : aq Tryd.prog HG 88 [.i a0, .ptr 1 [.i a1], .ptr 1 [.i a2]] (.v (.bool r)) := by
 unfold im at h
 refine aq.of Tryd.func88 rfl Tryd.ntmps88 (by simp) ?_
 intro F hF h0 hT
 show Sm F _ _ ⟨[(0, .i a0), (1, .d (.ptr 1 [.i a1])), (2, .d (.ptr 1 [.i a2]))], [], 0⟩
 refine sr hF ?_
 refine gv hF oA ?_
 refine sn ?_
 refine sr hF ?_
 refine gv hF (oL (lP1 ag3 rfl)) ?_
 refine gv hF oM ?_
 refine gv hF (oB (uS)) ?_
 rcases iE (decide (a1 ≤ a0)) with hc1 | hc1
 ·replace h := ifT hc1 h
  refine gv hF (au rfl rfl hc1) ?_
  refine gv hF oM ?_
  refine gv hF (oL (lP1 ag3 rfl)) ?_
  refine gv hF (oB (uS)) ?_
  refine gv hF (aH rfl rfl rfl) ?_
  refine gv hF oA ?_
  refine sn ?_
  refine Sm.ret ?_
  obtain rfl := ae h
  exact bz rfl rfl
 replace h := ifF hc1 h
 refine gv hF (au rfl rfl hc1) ?_
 refine gp hF ?_
 refine gp hF ?_
 refine gp hF ?_
 refine gv hF (am rfl rfl rfl) ?_
 refine gv hF oA ?_
 refine sn ?_
 refine Sm.ret ?_
 obtain rfl := ae h
 exact bz rfl rfl
noncomputable def iy (a0 : Int) (a1 : Int) : Option (FnV Tryd.prog HG (α := Int) (β := Bool) (fun x => [.i x]) (fun y => .v (.bool y))) :=
 some (⟨88, [.ptr 1 [.i a0], .ptr 1 [.i a1]], fun x => im x a0 a1, by kernel_rfl, fun x y h => qc h⟩ : (FnV Tryd.prog HG (α := Int) (β := Bool) (fun x => [.i x]) (fun y => .v (.bool y))))
set_option maxHeartbeats 4000000 in
theorem kE {a0 : Int} {a1 : Int} {r : (FnV Tryd.prog HG (α := Int) (β := Bool) (fun x => [.i x]) (fun y => .v (.bool y)))} (h : iy a0 a1 = some r) : aq Tryd.prog HG 67 [.i a0, .i a1] (.fn r.g r.c) := by
 unfold iy at h
 refine aq.of Tryd.func67 rfl Tryd.ntmps67 (by simp) ?_
 intro F hF h0 hT
 show Sm F _ _ ⟨[(0, .i a0), (1, .i a1)], [], 0⟩
 refine sr hF ?_
 refine bT hF xJ ?_
 refine bT hF xJ ?_
 refine gv hF oA ?_
 refine sn ?_
 refine sr hF ?_
 refine gv hF (hU rfl rfl) ?_
 refine gv hF oA ?_
 refine sn ?_
 refine Sm.ret ?_
 obtain rfl := ae h
 exact bz rfl rfl
noncomputable def bZ (a0 : List Int) (a1 : (FnV Tryd.prog HG (α := Int) (β := Bool) (fun x => [.i x]) (fun y => .v (.bool y)))) (s1 : Int) : Option (Int ⊕ (Unit ⊕ Int)) :=
 bif (decide (s1 < (a0.length : Int))) then (
  ob (idx a0 s1) fun x6 =>
  ob (a1.f x6) fun x7 =>
  bif x7 then (
   some (.inr (.inr s1))
  ) else (
   ob (arI .i64 (s1 + 1)) fun x9 =>
   some (.inl x9)
  )
 ) else (
  some (.inr (.inl ()))
 )
noncomputable def d8 (a0 : List Int) (a1 : (FnV Tryd.prog HG (α := Int) (β := Bool) (fun x => [.i x]) (fun y => .v (.bool y)))) : Option Int :=
 ob ((
  bC (bZ a0 a1) 0
  : Option (Unit ⊕ Int))) fun o11 => match o11 with
 | .inl v10 => (
  some (-1)
  )
 | .inr e12 => some e12
set_option maxHeartbeats 4000000 in
theorem jx {a0 : List Int} {a1 : (FnV Tryd.prog HG (α := Int) (β := Bool) (fun x => [.i x]) (fun y => .v (.bool y)))} {r : Int} (h : d8 a0 a1 = some r) : aq Tryd.prog HG 89 [.l a0, .fn a1.g a1.c] (.i r) := by
 unfold d8 at h
 refine aq.of Tryd.func89 rfl Tryd.ntmps89 (by simp) ?_
 intro F hF h0 hT
 show Sm F _ _ ⟨[(0, .l a0), (1, .d (.fn a1.g a1.c))], [], 0⟩
 refine sr hF ?_
 refine gv hF oA ?_
 refine sn ?_
 refine Sm.seq ?_
 obtain ⟨o11, ho11, h⟩ := aa h
 rcases i4 o11 with ⟨e12, rfl⟩ | ⟨v10, rfl⟩
 ·have he12 := ae h
  subst he12
  replace h := ho11
  refine sr hF ?_
  refine gv hF oM ?_
  refine gv hF (oN (bg u30)) ?_
  refine gv hF oM ?_
  refine sn ?_
  refine Sm.block ?_
  refine bm (bZ a0 a1) (fun s1 => ⟨[(0, .l a0), (1, .d (.fn a1.g a1.c)), (7, .i (a0.length : Int)), (8, .i s1)], [], 0⟩) 0 h (kA) ?_
  intro n2 s1 o3 h hd4
  unfold bZ at h
  refine sr hF ?_
  refine gv hF (oB (br)) ?_
  refine sn ?_
  refine Sm.seq ?_
  refine aF hF rfl (fun hc5 => ?_) (fun hc5 => ?_)
  ·replace h := ifF hc5 h
   refine Sm.exit ?_
   replace h := aK h hd4
   cases h
  replace h := ifT hc5 h
  refine sk ?_
  refine Sm.seq ?_
  refine Sm.block ?_
  refine sr hF ?_
  refine gv hF oM ?_
  refine gv hF oA ?_
  refine sn ?_
  refine sr hF ?_
  refine gv hF oM ?_
  refine gv hF oM ?_
  refine gv hF oM ?_
  obtain ⟨x6, hx6, h⟩ := aa h
  refine gv hF (oI (aW u30 sz3 hx6)) ?_
  refine gv hF (oL (lP1 ag3 rfl)) ?_
  obtain ⟨x7, hx7, h⟩ := aa h
  refine SmG.callF hF rfl rfl rfl rfl rfl rfl a1.body (a1.ok _ _ hx7) ?_
  refine sn ?_
  refine aF hF rfl (fun hc8 => ?_) (fun hc8 => ?_)
  ·replace h := ifF hc8 h
   refine Sm.skip ?_
   refine ar ?_
   refine ac ?_
   refine ab hF rfl ?_
   obtain ⟨x9, hx9, h⟩ := aa h
   refine gv hF (oB (aX hx9)) ?_
   refine gv hF oM ?_
   refine SmG.nil ?_
   exact bp (be h hd4) (kA)
  replace h := ifT hc8 h
  refine sr hF ?_
  refine gv hF oM ?_
  refine gv hF oA ?_
  refine sn ?_
  refine Sm.ret ?_
  replace h := aK h hd4
  replace h := gy h
  obtain rfl := ae h
  exact bz rfl rfl
 refine aZ ⟨[], [], 0⟩ ?_ ?_
 ·refine Sm.seq ?_
  refine ab hF rfl ?_
  refine gv hF oA ?_
  refine sn ?_
  refine Sm.ret ?_
  obtain rfl := ae h
  exact bz rfl rfl
 replace h := ho11
 refine sr hF ?_
 refine gv hF oM ?_
 refine gv hF (oN (bg u30)) ?_
 refine gv hF oM ?_
 refine sn ?_
 refine Sm.block ?_
 refine bm (bZ a0 a1) (fun s1 => ⟨[(0, .l a0), (1, .d (.fn a1.g a1.c)), (7, .i (a0.length : Int)), (8, .i s1)], [], 0⟩) 0 h (kA) ?_
 intro n2 s1 o3 h hd4
 unfold bZ at h
 refine sr hF ?_
 refine gv hF (oB (br)) ?_
 refine sn ?_
 refine Sm.seq ?_
 refine aF hF rfl (fun hc5 => ?_) (fun hc5 => ?_)
 ·replace h := ifF hc5 h
  refine Sm.exit ?_
  replace h := aK h hd4
  obtain rfl := ae (dK h)
  exact (kA)
 replace h := ifT hc5 h
 refine sk ?_
 refine Sm.seq ?_
 refine Sm.block ?_
 refine sr hF ?_
 refine gv hF oM ?_
 refine gv hF oA ?_
 refine sn ?_
 refine sr hF ?_
 refine gv hF oM ?_
 refine gv hF oM ?_
 refine gv hF oM ?_
 obtain ⟨x6, hx6, h⟩ := aa h
 refine gv hF (oI (aW u30 sz3 hx6)) ?_
 refine gv hF (oL (lP1 ag3 rfl)) ?_
 obtain ⟨x7, hx7, h⟩ := aa h
 refine SmG.callF hF rfl rfl rfl rfl rfl rfl a1.body (a1.ok _ _ hx7) ?_
 refine sn ?_
 refine bK hF rfl (fun hc8 => ?_) (fun hc8 => ?_)
 ·replace h := ifT hc8 h
  refine sr hF ?_
  refine gv hF oM ?_
  refine gv hF oA ?_
  refine sn ?_
  refine Sm.ret ?_
  replace h := aK h hd4
  cases h
 replace h := ifF hc8 h
 refine Sm.skip ?_
 refine ar ?_
 refine ac ?_
 refine ab hF rfl ?_
 obtain ⟨x9, hx9, h⟩ := aa h
 refine gv hF (oB (aX hx9)) ?_
 refine gv hF oM ?_
 refine SmG.nil ?_
 exact bp (be h hd4) (kA)
noncomputable def cG (a0 : List Int) (a1 : (FnV Tryd.prog HG (α := Int) (β := Bool) (fun x => [.i x]) (fun y => .v (.bool y)))) : Option Bool :=
 ob (d8 a0 a1) fun x1 =>
 some (decide (0 ≤ x1))
set_option maxHeartbeats 4000000 in
theorem iX {a0 : List Int} {a1 : (FnV Tryd.prog HG (α := Int) (β := Bool) (fun x => [.i x]) (fun y => .v (.bool y)))} {r : Bool} (h : cG a0 a1 = some r) : aq Tryd.prog HG 69 [.l a0, .fn a1.g a1.c] (.v (.bool r)) := by
 unfold cG at h
 refine aq.of Tryd.func69 rfl Tryd.ntmps69 (by simp) ?_
 intro F hF h0 hT
 show Sm F _ _ ⟨[(0, .l a0), (1, .d (.fn a1.g a1.c))], [], 0⟩
 refine sr hF ?_
 refine gv hF oA ?_
 refine sn ?_
 refine sr hF ?_
 refine gv hF oM ?_
 refine gv hF oM ?_
 obtain ⟨x1, hx1, h⟩ := aa h
 refine cS hF (jx hx1) ?_
 refine gv hF (oB (oT)) ?_
 refine gv hF oA ?_
 refine sn ?_
 refine Sm.ret ?_
 obtain rfl := ae h
 exact bz rfl rfl
noncomputable def fF (a0 : Int) (a1 : (FnV Tryd.prog HG (α := Int) (β := Bool) (fun x => [.i x]) (fun y => .v (.bool y)))) : Option Bool :=
 ob (a1.f a0) fun x1 =>
 some (!x1)
set_option maxHeartbeats 4000000 in
theorem mS {a0 : Int} {a1 : (FnV Tryd.prog HG (α := Int) (β := Bool) (fun x => [.i x]) (fun y => .v (.bool y)))} {r : Bool} (h : fF a0 a1 = some r) : aq Tryd.prog HG 70 [.i a0, .ptr 1 [.fn a1.g a1.c]] (.v (.bool r)) := by
 unfold fF at h
 refine aq.of Tryd.func70 rfl Tryd.ntmps70 (by simp) ?_
 intro F hF h0 hT
 show Sm F _ _ ⟨[(0, .i a0), (1, .d (.ptr 1 [.fn a1.g a1.c]))], [], 0⟩
 refine sr hF ?_
 refine gv hF oA ?_
 refine sn ?_
 refine sr hF ?_
 refine gv hF (oL (lP1 rS rfl)) ?_
 refine gv hF oM ?_
 obtain ⟨x1, hx1, h⟩ := aa h
 refine SmG.callF hF rfl rfl rfl rfl rfl rfl a1.body (a1.ok _ _ hx1) ?_
 refine gv hF (jB rfl rfl (kd _)) ?_
 refine gv hF oA ?_
 refine sn ?_
 refine Sm.ret ?_
 obtain rfl := ae h
 exact bz rfl rfl
noncomputable def eG (a0 : List Int) (a1 : (FnV Tryd.prog HG (α := Int) (β := Bool) (fun x => [.i x]) (fun y => .v (.bool y)))) : Option Bool :=
 bif (decide ((a0.length : Int) ≤ 255)) then (
  ob (cG a0 (⟨70, [.ptr 1 [.fn a1.g a1.c]], fun x => fF x a1, by kernel_rfl, fun x y h => mS h⟩ : (FnV Tryd.prog HG (α := Int) (β := Bool) (fun x => [.i x]) (fun y => .v (.bool y))))) fun x2 =>
  some (!x2)
 ) else (
  some false
 )
set_option maxHeartbeats 4000000 in
theorem iK {a0 : List Int} {a1 : (FnV Tryd.prog HG (α := Int) (β := Bool) (fun x => [.i x]) (fun y => .v (.bool y)))} {r : Bool} (h : eG a0 a1 = some r) : aq Tryd.prog HG 68 [.l a0, .ptr 1 [.fn a1.g a1.c]] (.v (.bool r)) := by
 unfold eG at h
 refine aq.of Tryd.func68 rfl Tryd.ntmps68 (by simp) ?_
 intro F hF h0 hT
 show Sm F _ _ ⟨[(0, .l a0), (1, .d (.ptr 1 [.fn a1.g a1.c]))], [], 0⟩
 refine sr hF ?_
 refine gv hF oA ?_
 refine sn ?_
 refine sr hF ?_
 refine gv hF oM ?_
 refine gv hF (oN (bg u30)) ?_
 refine gv hF (oB (uS)) ?_
 rcases bx (decide ((a0.length : Int) ≤ 255)) with hc1 | hc1
 ·replace h := ifF hc1 h
  refine gv hF (au rfl rfl hc1) ?_
  refine gp hF ?_
  refine gp hF ?_
  refine gp hF ?_
  refine gp hF ?_
  refine gv hF (am rfl rfl rfl) ?_
  refine gv hF oA ?_
  refine sn ?_
  refine Sm.ret ?_
  obtain rfl := ae h
  exact bz rfl rfl
 replace h := ifT hc1 h
 refine gv hF (au rfl rfl hc1) ?_
 refine gv hF oM ?_
 refine gv hF (hU rfl rfl) ?_
 obtain ⟨x2, hx2, h⟩ := aa h
 refine cS hF (iX hx2) ?_
 refine gv hF (jB rfl rfl (kd _)) ?_
 refine gv hF (aH rfl rfl rfl) ?_
 refine gv hF oA ?_
 refine sn ?_
 refine Sm.ret ?_
 obtain rfl := ae h
 exact bz rfl rfl
noncomputable def ia (a0 : Ps) (a1 : Rs) : Option Bool :=
 ob (iy 0 255) fun x1 =>
 ob (eG a0.at_ x1) fun x2 =>
 bif x2 then (
  ob (eG a0.h0 x1) fun x4 =>
  bif x4 then (
   ob (eG a0.h1 x1) fun x6 =>
   bif x6 then (
    ob (x1.f a0.rights) fun x8 =>
    bif x8 then (
     ob (x1.f a0.side) fun x10 =>
     bif x10 then (
      ob (iy 1 3) fun x12 =>
      ob (x12.f a1.out) fun x13 =>
      bif x13 then (
       ob (iy 0 2147483647) fun x15 =>
       ob (x15.f a1.n) fun x16 =>
       some x16
      ) else (
       some false
      )
     ) else (
      some false
     )
    ) else (
     some false
    )
   ) else (
    some false
   )
  ) else (
   some false
  )
 ) else (
  some false
 )
set_option maxHeartbeats 4000000 in
theorem pi {a0 : Ps} {a1 : Rs} {r : Bool} (h : ia a0 a1 = some r) : aq Tryd.prog HG 44 [.agg 5 (Ps.row a0), .agg 2 (Rs.row a1)] (.v (.bool r)) := by
 unfold ia at h
 refine aq.of Tryd.func44 rfl Tryd.ntmps44 (by simp) ?_
 intro F hF h0 hT
 show Sm F _ _ ⟨[(0, .d (.agg 5 (Ps.row a0))), (1, .d (.agg 2 (Rs.row a1)))], [], 0⟩
 refine sr hF ?_
 refine bT hF fU ?_
 refine bT hF fU ?_
 refine gv hF oA ?_
 refine sn ?_
 refine sr hF ?_
 obtain ⟨x1, hx1, h⟩ := aa h
 refine cS hF (kE hx1) ?_
 refine SmG.new hF rfl rfl rfl (aQ rfl BM) ?_
 refine SmG.store hF rfl rfl rfl rfl rfl (cC (rows' := [[.d (.fn x1.g x1.c)]]) rfl rfl rfl yB rfl rfl rfl) ?_
 refine sn ?_
 refine sr hF ?_
 refine dM (aR (kA (e := [(2, .d (.ptr 5 (Ps.row a0))), (3, .d (.ptr 2 (Rs.row a1))), (5, .ref 0 0 0)]) (g := [(0, ⟨1, [[.d (.fn x1.g x1.c)]]⟩)]) (m := 1)) (fA (l := 0) (sz := 1) (e := [(2, .d (.ptr 5 (Ps.row a0))), (3, .d (.ptr 2 (Rs.row a1))), (5, .d (.ptr 1 [.fn x1.g x1.c]))]) (g := []) (nx := 1) [[.fn x1.g x1.c]])) rfl ?_
 refine gv hF (hU rfl rfl) ?_
 refine gv hF oA ?_
 refine sn ?_
 refine Sm.seq ?_
 refine aV hF (by kernel_rfl) rfl 40 (by kernel_rfl) (by kernel_rfl) ?_
 simp only [List.take_succ_cons, List.take_zero, List.take_nil]
 refine hv hF oM ?_
 refine hv hF (oF (ak kB rfl)) ?_
 refine hv hF (oL (lP1 eo rfl)) ?_
 obtain ⟨x2, hx2, h⟩ := aa h
 refine k6 hF rfl rfl rfl rfl rfl rfl (by kernel_rfl) (iK hx2) ?_
 rcases bx x2 with hc3 | hc3
 ·replace h := ifF hc3 h
  refine hv hF (au rfl rfl hc3) ?_
  refine hp hF ?_
  refine hp hF ?_
  refine hp hF ?_
  refine hp hF ?_
  refine hp hF ?_
  refine hv hF (am rfl rfl rfl) ?_
  refine hv hF oM ?_
  refine hp hF ?_
  refine hp hF ?_
  refine hp hF ?_
  refine hp hF ?_
  refine hp hF ?_
  refine hv hF (am rfl rfl rfl) ?_
  refine hv hF oM ?_
  refine hp hF ?_
  refine hp hF ?_
  refine hp hF ?_
  refine hp hF ?_
  refine hv hF (am rfl rfl rfl) ?_
  refine hv hF oM ?_
  refine hp hF ?_
  refine hp hF ?_
  refine hp hF ?_
  refine hp hF ?_
  refine hv hF (am rfl rfl rfl) ?_
  refine hv hF oM ?_
  refine hp hF ?_
  refine hp hF ?_
  refine hp hF ?_
  refine hp hF ?_
  refine hv hF (am rfl rfl rfl) ?_
  refine hv hF oM ?_
  refine hp hF ?_
  refine hp hF ?_
  refine hp hF ?_
  refine ag.last ⟨rfl, ?_⟩
  simp only [List.drop_succ_cons, List.drop_zero, List.drop_nil, List.nil_append, List.cons_append]
  refine gp hF ?_
  refine gv hF (am rfl rfl rfl) ?_
  refine gv hF oA ?_
  refine sn ?_
  refine Sm.ret ?_
  obtain rfl := ae h
  exact bz rfl rfl
 replace h := ifT hc3 h
 refine hv hF (au rfl rfl hc3) ?_
 refine hv hF oM ?_
 refine hv hF (oF (ak eJ rfl)) ?_
 refine hv hF (oI (ci u31 eF rfl rfl)) ?_
 refine hv hF (oL (lP1 eo rfl)) ?_
 obtain ⟨x4, hx4, h⟩ := aa h
 refine k6 hF rfl rfl rfl rfl rfl rfl (by kernel_rfl) (iK hx4) ?_
 refine hv hF (aH rfl rfl rfl) ?_
 rcases bx x4 with hc5 | hc5
 ·replace h := ifF hc5 h
  refine hv hF (au rfl rfl hc5) ?_
  refine hp hF ?_
  refine hp hF ?_
  refine hp hF ?_
  refine hp hF ?_
  refine hp hF ?_
  refine hv hF (am rfl rfl rfl) ?_
  refine hv hF oM ?_
  refine hp hF ?_
  refine hp hF ?_
  refine hp hF ?_
  refine hp hF ?_
  refine hv hF (am rfl rfl rfl) ?_
  refine hv hF oM ?_
  refine hp hF ?_
  refine hp hF ?_
  refine hp hF ?_
  refine hp hF ?_
  refine hv hF (am rfl rfl rfl) ?_
  refine hv hF oM ?_
  refine hp hF ?_
  refine hp hF ?_
  refine hp hF ?_
  refine hp hF ?_
  refine hv hF (am rfl rfl rfl) ?_
  refine hv hF oM ?_
  refine hp hF ?_
  refine hp hF ?_
  refine hp hF ?_
  refine ag.last ⟨rfl, ?_⟩
  simp only [List.drop_succ_cons, List.drop_zero, List.drop_nil, List.nil_append, List.cons_append]
  refine gp hF ?_
  refine gv hF (am rfl rfl rfl) ?_
  refine gv hF oA ?_
  refine sn ?_
  refine Sm.ret ?_
  obtain rfl := ae h
  exact bz rfl rfl
 replace h := ifT hc5 h
 refine hv hF (au rfl rfl hc5) ?_
 refine hv hF oM ?_
 refine hv hF (oF (ak eJ rfl)) ?_
 refine hv hF (oI (ci u31 eF rfl rfl)) ?_
 refine hv hF (oL (lP1 eo rfl)) ?_
 obtain ⟨x6, hx6, h⟩ := aa h
 refine k6 hF rfl rfl rfl rfl rfl rfl (by kernel_rfl) (iK hx6) ?_
 refine hv hF (aH rfl rfl rfl) ?_
 rcases bx x6 with hc7 | hc7
 ·replace h := ifF hc7 h
  refine hv hF (au rfl rfl hc7) ?_
  refine hp hF ?_
  refine hp hF ?_
  refine hp hF ?_
  refine hp hF ?_
  refine hv hF (am rfl rfl rfl) ?_
  refine hv hF oM ?_
  refine hp hF ?_
  refine hp hF ?_
  refine hp hF ?_
  refine hp hF ?_
  refine hv hF (am rfl rfl rfl) ?_
  refine hv hF oM ?_
  refine hp hF ?_
  refine hp hF ?_
  refine hp hF ?_
  refine hp hF ?_
  refine hv hF (am rfl rfl rfl) ?_
  refine hv hF oM ?_
  refine hp hF ?_
  refine hp hF ?_
  refine hp hF ?_
  refine ag.last ⟨rfl, ?_⟩
  simp only [List.drop_succ_cons, List.drop_zero, List.drop_nil, List.nil_append, List.cons_append]
  refine gp hF ?_
  refine gv hF (am rfl rfl rfl) ?_
  refine gv hF oA ?_
  refine sn ?_
  refine Sm.ret ?_
  obtain rfl := ae h
  exact bz rfl rfl
 replace h := ifT hc7 h
 refine hv hF (au rfl rfl hc7) ?_
 refine hv hF (oL (lP1 rS rfl)) ?_
 refine hv hF (oF (ak nU rfl)) ?_
 refine hv hF (oL (lP1 ag3 rfl)) ?_
 obtain ⟨x8, hx8, h⟩ := aa h
 refine k6 hF rfl rfl rfl rfl rfl rfl x1.body (x1.ok _ _ hx8) ?_
 refine hv hF (aH rfl rfl rfl) ?_
 rcases bx x8 with hc9 | hc9
 ·replace h := ifF hc9 h
  refine hv hF (au rfl rfl hc9) ?_
  refine hp hF ?_
  refine hp hF ?_
  refine hp hF ?_
  refine hp hF ?_
  refine hv hF (am rfl rfl rfl) ?_
  refine hv hF oM ?_
  refine hp hF ?_
  refine hp hF ?_
  refine hp hF ?_
  refine hp hF ?_
  refine hv hF (am rfl rfl rfl) ?_
  refine hv hF oM ?_
  refine hp hF ?_
  refine hp hF ?_
  refine hp hF ?_
  refine ag.last ⟨rfl, ?_⟩
  simp only [List.drop_succ_cons, List.drop_zero, List.drop_nil, List.nil_append, List.cons_append]
  refine gp hF ?_
  refine gv hF (am rfl rfl rfl) ?_
  refine gv hF oA ?_
  refine sn ?_
  refine Sm.ret ?_
  obtain rfl := ae h
  exact bz rfl rfl
 replace h := ifT hc9 h
 refine hv hF (au rfl rfl hc9) ?_
 refine hv hF (oL (lP1 rS rfl)) ?_
 refine hv hF (oF (ak oo rfl)) ?_
 refine hv hF (oL (lP1 ag3 rfl)) ?_
 obtain ⟨x10, hx10, h⟩ := aa h
 refine k6 hF rfl rfl rfl rfl rfl rfl x1.body (x1.ok _ _ hx10) ?_
 refine hv hF (aH rfl rfl rfl) ?_
 rcases bx x10 with hc11 | hc11
 ·replace h := ifF hc11 h
  refine hv hF (au rfl rfl hc11) ?_
  refine hp hF ?_
  refine hp hF ?_
  refine hp hF ?_
  refine hp hF ?_
  refine hv hF (am rfl rfl rfl) ?_
  refine hv hF oM ?_
  refine hp hF ?_
  refine hp hF ?_
  refine hp hF ?_
  refine ag.last ⟨rfl, ?_⟩
  simp only [List.drop_succ_cons, List.drop_zero, List.drop_nil, List.nil_append, List.cons_append]
  refine gp hF ?_
  refine gv hF (am rfl rfl rfl) ?_
  refine gv hF oA ?_
  refine sn ?_
  refine Sm.ret ?_
  obtain rfl := ae h
  exact bz rfl rfl
 replace h := ifT hc11 h
 refine hv hF (au rfl rfl hc11) ?_
 obtain ⟨x12, hx12, h⟩ := aa h
 refine cH hF (kE hx12) ?_
 refine hv hF (oF (ak tq rfl)) ?_
 refine hv hF (oL (lP1 ag3 rfl)) ?_
 obtain ⟨x13, hx13, h⟩ := aa h
 refine k6 hF rfl rfl rfl rfl rfl rfl x12.body (x12.ok _ _ hx13) ?_
 refine hv hF (aH rfl rfl rfl) ?_
 rcases bx x13 with hc14 | hc14
 ·replace h := ifF hc14 h
  refine hv hF (au rfl rfl hc14) ?_
  refine hp hF ?_
  refine hp hF ?_
  refine hp hF ?_
  refine ag.last ⟨rfl, ?_⟩
  simp only [List.drop_succ_cons, List.drop_zero, List.drop_nil, List.nil_append, List.cons_append]
  refine gp hF ?_
  refine gv hF (am rfl rfl rfl) ?_
  refine gv hF oA ?_
  refine sn ?_
  refine Sm.ret ?_
  obtain rfl := ae h
  exact bz rfl rfl
 replace h := ifT hc14 h
 refine hv hF (au rfl rfl hc14) ?_
 obtain ⟨x15, hx15, h⟩ := aa h
 refine cH hF (kE hx15) ?_
 refine hv hF (oF (ak mC rfl)) ?_
 refine hv hF (oL (lP1 ag3 rfl)) ?_
 refine ag.last ⟨rfl, ?_⟩
 simp only [List.drop_succ_cons, List.drop_zero, List.drop_nil, List.nil_append, List.cons_append]
 obtain ⟨x16, hx16, h⟩ := aa h
 refine SmG.callF hF rfl rfl rfl rfl rfl rfl x15.body (x15.ok _ _ hx16) ?_
 refine gv hF (aH rfl rfl rfl) ?_
 refine gv hF oA ?_
 refine sn ?_
 refine Sm.ret ?_
 obtain rfl := ae h
 exact bz rfl rfl
noncomputable def gn (a0 : Ans) (a1 : Int) : Option Bool :=
 some (a0.version == a1)
set_option maxHeartbeats 4000000 in
theorem kw {a0 : Ans} {a1 : Int} {r : Bool} (h : gn a0 a1 = some r) : aq Tryd.prog HG 42 [.ptr 11 (Ans.row a0), .ptr 1 [.i a1]] (.v (.bool r)) := by
 unfold gn at h
 refine aq.of Tryd.func42 rfl Tryd.ntmps42 (by simp) ?_
 intro F hF h0 hT
 show Sm F _ _ ⟨[(0, .d (.ptr 11 (Ans.row a0))), (1, .d (.ptr 1 [.i a1]))], [], 0⟩
 refine sr hF ?_
 refine gv hF oA ?_
 refine sn ?_
 refine sr hF ?_
 refine gv hF (oF (ak Aw rfl)) ?_
 refine gv hF (oL (lP1 ag3 rfl)) ?_
 refine gv hF (oL (lP1 ag3 rfl)) ?_
 refine gv hF (oB (cK)) ?_
 refine gv hF oA ?_
 refine sn ?_
 refine Sm.ret ?_
 obtain rfl := ae h
 exact bz rfl rfl
noncomputable def fo (a0 : Ans) : Option Bool :=
 ob (ia a0.pos a0.entry) fun x1 =>
 some x1
set_option maxHeartbeats 4000000 in
theorem kh {a0 : Ans} {r : Bool} (h : fo a0 = some r) : aq Tryd.prog HG 43 [.ptr 11 (Ans.row a0)] (.v (.bool r)) := by
 unfold fo at h
 refine aq.of Tryd.func43 rfl Tryd.ntmps43 (by simp) ?_
 intro F hF h0 hT
 show Sm F _ _ ⟨[(0, .d (.ptr 11 (Ans.row a0)))], [], 0⟩
 refine sr hF ?_
 refine gv hF oA ?_
 refine sn ?_
 refine sr hF ?_
 refine gv hF (oF (ak lu rfl)) ?_
 refine gv hF (x := .d (.agg 5 [.l a0.pos.at_, .l a0.pos.h0, .l a0.pos.h1, .i a0.pos.rights, .i a0.pos.side])) (oL (cI gu d9 rfl rfl)) ?_
 refine gv hF (oF (ak ow rfl)) ?_
 refine gv hF (x := .d (.agg 2 [.i a0.entry.out, .i a0.entry.n])) (oL (cI jY gL rfl rfl)) ?_
 obtain ⟨x1, hx1, h⟩ := aa h
 refine cS hF (pi hx1) ?_
 refine gv hF oA ?_
 refine sn ?_
 refine Sm.ret ?_
 obtain rfl := ae h
 exact bz rfl rfl
noncomputable def fk (a0 : List UInt8) (a1 : Ans) : Option Bool :=
 ob (fY a1.pos a1.entry) fun x1 =>
 ob (jn a0 a1.count a1.index x1 a1.proof) fun x2 =>
 some x2
set_option maxHeartbeats 4000000 in
theorem kr {a0 : List UInt8} {a1 : Ans} {r : Bool} (h : fk a0 a1 = some r) : aq Tryd.prog HG 45 [.ptr 32 (aJ a0), .ptr 11 (Ans.row a1)] (.v (.bool r)) := by
 unfold fk at h
 refine aq.of Tryd.func45 rfl Tryd.ntmps45 (by simp) ?_
 intro F hF h0 hT
 show Sm F _ _ ⟨[(0, .d (.ptr 32 (aJ a0))), (1, .d (.ptr 11 (Ans.row a1)))], [], 0⟩
 refine sr hF ?_
 refine gv hF oA ?_
 refine sn ?_
 refine Sm.seq ?_
 refine aV hF (by kernel_rfl) rfl 12 (by kernel_rfl) (by kernel_rfl) ?_
 simp only [List.take_succ_cons, List.take_zero, List.take_nil]
 refine hv hF (x := .d (.agg 32 (aJ a0))) (oL (cI fG cP rfl rfl)) ?_
 refine hv hF (oF (ak nW rfl)) ?_
 refine hv hF (oL (lP1 ag3 rfl)) ?_
 refine hv hF (oF (ak pZ rfl)) ?_
 refine hv hF (oL (lP1 ag3 rfl)) ?_
 refine hv hF (oF (ak lu rfl)) ?_
 refine hv hF (x := .d (.agg 5 [.l a1.pos.at_, .l a1.pos.h0, .l a1.pos.h1, .i a1.pos.rights, .i a1.pos.side])) (oL (cI gu d9 rfl rfl)) ?_
 refine hv hF (oF (ak ow rfl)) ?_
 refine hv hF (x := .d (.agg 2 [.i a1.entry.out, .i a1.entry.n])) (oL (cI jY gL rfl rfl)) ?_
 obtain ⟨x1, hx1, h⟩ := aa h
 refine cH hF (jk hx1) ?_
 refine hv hF (oF (ak nN rfl)) ?_
 refine hv hF (oL (lP1 tv rfl)) ?_
 refine ag.last ⟨rfl, ?_⟩
 simp only [List.drop_succ_cons, List.drop_zero, List.drop_nil, List.nil_append, List.cons_append]
 obtain ⟨x2, hx2, h⟩ := aa h
 refine cS hF (qP hx2) ?_
 refine gv hF oA ?_
 refine sn ?_
 refine Sm.ret ?_
 obtain rfl := ae h
 exact bz rfl rfl
noncomputable def gq (a0 : (FnV Tryd.prog HG (α := Unit) (β := Bool) (fun x => []) (fun y => .v (.bool y)))) : Option Bool :=
 ob (a0.f ()) fun x1 =>
 some (!x1)
set_option maxHeartbeats 4000000 in
theorem om {a0 : (FnV Tryd.prog HG (α := Unit) (β := Bool) (fun x => []) (fun y => .v (.bool y)))} {r : Bool} (h : gq a0 = some r) : aq Tryd.prog HG 48 [.fn a0.g a0.c] (.v (.bool r)) := by
 unfold gq at h
 refine aq.of Tryd.func48 rfl Tryd.ntmps48 (by simp) ?_
 intro F hF h0 hT
 show Sm F _ _ ⟨[(0, .d (.fn a0.g a0.c))], [], 0⟩
 refine sr hF ?_
 refine gv hF oA ?_
 refine sn ?_
 refine sr hF ?_
 refine gv hF oM ?_
 obtain ⟨x1, hx1, h⟩ := aa h
 refine SmG.callF hF rfl rfl rfl rfl rfl rfl a0.body (a0.ok _ _ hx1) ?_
 refine gv hF (jB rfl rfl (kd _)) ?_
 refine gv hF oA ?_
 refine sn ?_
 refine Sm.ret ?_
 obtain rfl := ae h
 exact bz rfl rfl
noncomputable def bq (a0 : List (FnV Tryd.prog HG (α := Unit) (β := Bool) (fun x => []) (fun y => .v (.bool y)))) (a1 : (FnV Tryd.prog HG (α := (FnV Tryd.prog HG (α := Unit) (β := Bool) (fun x => []) (fun y => .v (.bool y)))) (β := Bool) (fun x => [.fn x.g x.c]) (fun y => .v (.bool y)))) (s1 : Int) : Option (Int ⊕ (Unit ⊕ Int)) :=
 bif (decide (s1 < (a0.length : Int))) then (
  ob (idx a0 s1) fun x6 =>
  ob (a1.f x6) fun x7 =>
  bif x7 then (
   some (.inr (.inr s1))
  ) else (
   ob (arI .i64 (s1 + 1)) fun x9 =>
   some (.inl x9)
  )
 ) else (
  some (.inr (.inl ()))
 )
noncomputable def cj (a0 : List (FnV Tryd.prog HG (α := Unit) (β := Bool) (fun x => []) (fun y => .v (.bool y)))) (a1 : (FnV Tryd.prog HG (α := (FnV Tryd.prog HG (α := Unit) (β := Bool) (fun x => []) (fun y => .v (.bool y)))) (β := Bool) (fun x => [.fn x.g x.c]) (fun y => .v (.bool y)))) : Option Int :=
 ob ((
  bC (bq a0 a1) 0
  : Option (Unit ⊕ Int))) fun o11 => match o11 with
 | .inl v10 => (
  some (-1)
  )
 | .inr e12 => some e12
set_option maxHeartbeats 4000000 in
theorem gW {a0 : List (FnV Tryd.prog HG (α := Unit) (β := Bool) (fun x => []) (fun y => .v (.bool y)))} {a1 : (FnV Tryd.prog HG (α := (FnV Tryd.prog HG (α := Unit) (β := Bool) (fun x => []) (fun y => .v (.bool y)))) (β := Bool) (fun x => [.fn x.g x.c]) (fun y => .v (.bool y)))} {r : Int} (h : cj a0 a1 = some r) : aq Tryd.prog HG 72 [.list 1 (a0.map FnV.row) false, .fn a1.g a1.c] (.i r) := by
 unfold cj at h
 refine aq.of Tryd.func72 rfl Tryd.ntmps72 (by simp) ?_
 intro F hF h0 hT
 show Sm F _ _ ⟨[(0, .d (.list 1 (a0.map FnV.row) false)), (1, .d (.fn a1.g a1.c))], [], 0⟩
 refine sr hF ?_
 refine gv hF oA ?_
 refine sn ?_
 refine Sm.seq ?_
 obtain ⟨o11, ho11, h⟩ := aa h
 rcases i4 o11 with ⟨e12, rfl⟩ | ⟨v10, rfl⟩
 ·have he12 := ae h
  subst he12
  replace h := ho11
  refine sr hF ?_
  refine gv hF oM ?_
  refine gv hF (oN (bg su)) ?_
  refine gv hF oM ?_
  refine sn ?_
  refine Sm.block ?_
  refine bm (bq a0 a1) (fun s1 => ⟨[(0, .d (.list 1 (a0.map FnV.row) false)), (1, .d (.fn a1.g a1.c)), (7, .i (a0.length : Int)), (8, .i s1)], [], 0⟩) 0 h (kA) ?_
  intro n2 s1 o3 h hd4
  unfold bq at h
  refine sr hF ?_
  refine gv hF (oB (br)) ?_
  refine sn ?_
  refine Sm.seq ?_
  refine aF hF rfl (fun hc5 => ?_) (fun hc5 => ?_)
  ·replace h := ifF hc5 h
   refine Sm.exit ?_
   replace h := aK h hd4
   cases h
  replace h := ifT hc5 h
  refine sk ?_
  refine Sm.seq ?_
  refine Sm.block ?_
  refine sr hF ?_
  refine gv hF oM ?_
  refine gv hF oA ?_
  refine sn ?_
  refine sr hF ?_
  refine gv hF oM ?_
  refine gv hF oM ?_
  refine gv hF oM ?_
  obtain ⟨x6, hx6, h⟩ := aa h
  refine gv hF (oI (aW su uI hx6)) ?_
  refine gv hF (oL (lP1 yg rfl)) ?_
  obtain ⟨x7, hx7, h⟩ := aa h
  refine SmG.callF hF rfl rfl rfl rfl rfl rfl a1.body (a1.ok _ _ hx7) ?_
  refine sn ?_
  refine aF hF rfl (fun hc8 => ?_) (fun hc8 => ?_)
  ·replace h := ifF hc8 h
   refine Sm.skip ?_
   refine ar ?_
   refine ac ?_
   refine ab hF rfl ?_
   obtain ⟨x9, hx9, h⟩ := aa h
   refine gv hF (oB (aX hx9)) ?_
   refine gv hF oM ?_
   refine SmG.nil ?_
   exact bp (be h hd4) (kA)
  replace h := ifT hc8 h
  refine sr hF ?_
  refine gv hF oM ?_
  refine gv hF oA ?_
  refine sn ?_
  refine Sm.ret ?_
  replace h := aK h hd4
  replace h := gy h
  obtain rfl := ae h
  exact bz rfl rfl
 refine aZ ⟨[], [], 0⟩ ?_ ?_
 ·refine Sm.seq ?_
  refine ab hF rfl ?_
  refine gv hF oA ?_
  refine sn ?_
  refine Sm.ret ?_
  obtain rfl := ae h
  exact bz rfl rfl
 replace h := ho11
 refine sr hF ?_
 refine gv hF oM ?_
 refine gv hF (oN (bg su)) ?_
 refine gv hF oM ?_
 refine sn ?_
 refine Sm.block ?_
 refine bm (bq a0 a1) (fun s1 => ⟨[(0, .d (.list 1 (a0.map FnV.row) false)), (1, .d (.fn a1.g a1.c)), (7, .i (a0.length : Int)), (8, .i s1)], [], 0⟩) 0 h (kA) ?_
 intro n2 s1 o3 h hd4
 unfold bq at h
 refine sr hF ?_
 refine gv hF (oB (br)) ?_
 refine sn ?_
 refine Sm.seq ?_
 refine aF hF rfl (fun hc5 => ?_) (fun hc5 => ?_)
 ·replace h := ifF hc5 h
  refine Sm.exit ?_
  replace h := aK h hd4
  obtain rfl := ae (dK h)
  exact (kA)
 replace h := ifT hc5 h
 refine sk ?_
 refine Sm.seq ?_
 refine Sm.block ?_
 refine sr hF ?_
 refine gv hF oM ?_
 refine gv hF oA ?_
 refine sn ?_
 refine sr hF ?_
 refine gv hF oM ?_
 refine gv hF oM ?_
 refine gv hF oM ?_
 obtain ⟨x6, hx6, h⟩ := aa h
 refine gv hF (oI (aW su uI hx6)) ?_
 refine gv hF (oL (lP1 yg rfl)) ?_
 obtain ⟨x7, hx7, h⟩ := aa h
 refine SmG.callF hF rfl rfl rfl rfl rfl rfl a1.body (a1.ok _ _ hx7) ?_
 refine sn ?_
 refine bK hF rfl (fun hc8 => ?_) (fun hc8 => ?_)
 ·replace h := ifT hc8 h
  refine sr hF ?_
  refine gv hF oM ?_
  refine gv hF oA ?_
  refine sn ?_
  refine Sm.ret ?_
  replace h := aK h hd4
  cases h
 replace h := ifF hc8 h
 refine Sm.skip ?_
 refine ar ?_
 refine ac ?_
 refine ab hF rfl ?_
 obtain ⟨x9, hx9, h⟩ := aa h
 refine gv hF (oB (aX hx9)) ?_
 refine gv hF oM ?_
 refine SmG.nil ?_
 exact bp (be h hd4) (kA)
noncomputable def bI (a0 : List (FnV Tryd.prog HG (α := Unit) (β := Bool) (fun x => []) (fun y => .v (.bool y)))) (a1 : (FnV Tryd.prog HG (α := (FnV Tryd.prog HG (α := Unit) (β := Bool) (fun x => []) (fun y => .v (.bool y)))) (β := Bool) (fun x => [.fn x.g x.c]) (fun y => .v (.bool y)))) : Option Bool :=
 ob (cj a0 a1) fun x1 =>
 some (decide (0 ≤ x1))
set_option maxHeartbeats 4000000 in
theorem gE {a0 : List (FnV Tryd.prog HG (α := Unit) (β := Bool) (fun x => []) (fun y => .v (.bool y)))} {a1 : (FnV Tryd.prog HG (α := (FnV Tryd.prog HG (α := Unit) (β := Bool) (fun x => []) (fun y => .v (.bool y)))) (β := Bool) (fun x => [.fn x.g x.c]) (fun y => .v (.bool y)))} {r : Bool} (h : bI a0 a1 = some r) : aq Tryd.prog HG 47 [.list 1 (a0.map FnV.row) false, .fn a1.g a1.c] (.v (.bool r)) := by
 unfold bI at h
 refine aq.of Tryd.func47 rfl Tryd.ntmps47 (by simp) ?_
 intro F hF h0 hT
 show Sm F _ _ ⟨[(0, .d (.list 1 (a0.map FnV.row) false)), (1, .d (.fn a1.g a1.c))], [], 0⟩
 refine sr hF ?_
 refine gv hF oA ?_
 refine sn ?_
 refine sr hF ?_
 refine gv hF oM ?_
 refine gv hF oM ?_
 obtain ⟨x1, hx1, h⟩ := aa h
 refine cS hF (gW hx1) ?_
 refine gv hF (oB (oT)) ?_
 refine gv hF oA ?_
 refine sn ?_
 refine Sm.ret ?_
 obtain rfl := ae h
 exact bz rfl rfl
noncomputable def cY (a0 : List UInt8) (a1 : Int) (a2 : Ans) : Option Bool :=
 ob (bI ([(⟨42, [.ptr 11 (Ans.row a2), .ptr 1 [.i a1]], fun x => gn  a2 a1, by kernel_rfl, fun x y h => kw h⟩ : (FnV Tryd.prog HG (α := Unit) (β := Bool) (fun x => []) (fun y => .v (.bool y)))), (⟨43, [.ptr 11 (Ans.row a2)], fun x => fo  a2, by kernel_rfl, fun x y h => kh h⟩ : (FnV Tryd.prog HG (α := Unit) (β := Bool) (fun x => []) (fun y => .v (.bool y)))), (⟨45, [.ptr 32 (aJ a0), .ptr 11 (Ans.row a2)], fun x => fk  a0 a2, by kernel_rfl, fun x y h => kr h⟩ : (FnV Tryd.prog HG (α := Unit) (β := Bool) (fun x => []) (fun y => .v (.bool y))))]) (⟨48, [], fun x => gq x , by kernel_rfl, fun x y h => om h⟩ : (FnV Tryd.prog HG (α := (FnV Tryd.prog HG (α := Unit) (β := Bool) (fun x => []) (fun y => .v (.bool y)))) (β := Bool) (fun x => [.fn x.g x.c]) (fun y => .v (.bool y))))) fun x1 =>
 some (!x1)
set_option maxHeartbeats 4000000 in
theorem eE {a0 : List UInt8} {a1 : Int} {a2 : Ans} {r : Bool} (h : cY a0 a1 a2 = some r) : aq Tryd.prog HG 18 [.agg 32 (aJ a0), .i a1, .agg 11 (Ans.row a2)] (.v (.bool r)) := by
 unfold cY at h
 refine aq.of Tryd.func18 rfl Tryd.ntmps18 (by simp) ?_
 intro F hF h0 hT
 show Sm F _ _ ⟨[(0, .d (.agg 32 (aJ a0))), (1, .i a1), (2, .d (.agg 11 (Ans.row a2)))], [], 0⟩
 refine sr hF ?_
 refine bT hF fU ?_
 refine bT hF xJ ?_
 refine bT hF fU ?_
 refine gv hF oA ?_
 refine sn ?_
 refine sr hF ?_
 refine gv hF (hU rfl rfl) ?_
 refine gv hF (hU rfl rfl) ?_
 refine gv hF (hU rfl rfl) ?_
 refine gv hF (x := .d (.list 1 ([(⟨42, [.ptr 11 (Ans.row a2), .ptr 1 [.i a1]], fun x => gn  a2 a1, by kernel_rfl, fun x y h => kw h⟩ : (FnV Tryd.prog HG (α := Unit) (β := Bool) (fun x => []) (fun y => .v (.bool y)))), (⟨43, [.ptr 11 (Ans.row a2)], fun x => fo  a2, by kernel_rfl, fun x y h => kh h⟩ : (FnV Tryd.prog HG (α := Unit) (β := Bool) (fun x => []) (fun y => .v (.bool y)))), (⟨45, [.ptr 32 (aJ a0), .ptr 11 (Ans.row a2)], fun x => fk  a0 a2, by kernel_rfl, fun x y h => kr h⟩ : (FnV Tryd.prog HG (α := Unit) (β := Bool) (fun x => []) (fun y => .v (.bool y))))].map FnV.row) true)) (oS (az su uI Gf rfl rfl (PartsQ.cons rfl (PartsQ.cons rfl (PartsQ.cons rfl (PartsQ.nil _)))) rfl)) ?_
 refine gv hF oA ?_
 refine sn ?_
 refine sr hF ?_
 refine gv hF oM ?_
 obtain ⟨x1, hx1, h⟩ := aa h
 refine SmG.call hF rfl rfl (by kernel_rfl) rfl rfl rfl (aq.args (gE hx1) (fun C => (oE (oE (fun _ h => h))))) ?_
 refine gv hF (jB rfl rfl (kd _)) ?_
 refine gv hF oA ?_
 refine sn ?_
 refine Sm.ret ?_
 obtain rfl := ae h
 exact bz rfl rfl
end
section
open Go.RowKit
set_option maxRecDepth 100000
noncomputable def eX : Option Bool :=
 ob (fY (⟨[1, 0], [2], [0], 1, 0⟩ : Ps) (⟨1, 258⟩ : Rs)) fun x1 =>
 ob (cw ([(⟨[1, 0], [2], [0], 1, 0⟩ : Ps)]) [(⟨1, 258⟩ : Rs)] 7 0) fun x2 =>
 ob (cw ([(⟨[1, 0], [2], [0], 1, 0⟩ : Ps)]) [] 7 0) fun x3 =>
 ob (cw ([(⟨[1, 0], [2], [0], 1, 0⟩ : Ps)]) [(⟨1, 258⟩ : Rs)] 7 1) fun x4 =>
 ob (fX ([(⟨[1, 0], [2], [0], 1, 0⟩ : Ps)]) [(⟨1, 258⟩ : Rs)]) fun x5 =>
 ob (vN 32 x5) fun x6 =>
 bif (x2.2 == 0) then (
  bif (x3.2 == 1) then (
   bif (x4.2 == 1) then (
    bif (x1 == ([2, 1, 1, 1, 0, 2, 0, 1, 0, 1, 0, 0, 1, 2] : List UInt8)) then (
     bif ((x2.1.proof.length : Int) == 0) then (
      bif (x2.1.count == 1) then (
       ob (eQ (⟨[1, 0], [2], [0], 1, 0⟩ : Ps) (⟨1, 258⟩ : Rs)) fun x13 =>
       ob (gJ x13) fun x14 =>
       ob (vN 32 x5) fun x15 =>
       ob (vN 32 x14) fun x16 =>
       bif (x5 == x14) then (
        ob (cY x5 7 x2.1) fun x18 =>
        bif x18 then (
         ob (cY x5 8 x2.1) fun x20 =>
         bif (!x20) then (
          ob (cY (List.replicate 32 0) 7 x2.1) fun x22 =>
          some (!x22)
         ) else (
          some false
         )
        ) else (
         some false
        )
       ) else (
        some false
       )
      ) else (
       some false
      )
     ) else (
      some false
     )
    ) else (
     some false
    )
   ) else (
    some false
   )
  ) else (
   some false
  )
 ) else (
  some false
 )
set_option maxHeartbeats 4000000 in
theorem mj {r : Bool} (h : eX = some r) : aq Tryd.prog HG 9 [] (.v (.bool r)) := by
 unfold eX at h
 refine aq.of Tryd.func9 rfl Tryd.ntmps9 (by simp) ?_
 intro F hF h0 hT
 show Sm F _ _ ⟨[], [], 0⟩
 refine sr hF ?_
 refine gv hF oA ?_
 refine sn ?_
 refine sr hF ?_
 refine gv hF (x := .d (.list 1 ([1, 0].map (af .i64)) true)) (oS (az u30 sz3 ze3 rfl rfl (PartsQ.cons rfl (PartsQ.cons rfl (PartsQ.nil _))) rfl)) ?_
 refine gv hF (x := .d (.list 1 ([2].map (af .i64)) true)) (oS (az u30 sz3 ze3 rfl rfl (PartsQ.cons rfl (PartsQ.nil _)) rfl)) ?_
 refine gv hF (x := .d (.list 1 ([0].map (af .i64)) true)) (oS (az u30 sz3 ze3 rfl rfl (PartsQ.cons rfl (PartsQ.nil _)) rfl)) ?_
 refine gv hF (x := .d (.agg 2 [.list 1 ([2].map (af .i64)) true, .list 1 ([0].map (af .i64)) true])) (il rfl u31 rfl (vz u31 eF AK rfl rfl)) ?_
 refine gv hF (x := .d (.agg 5 [.list 1 ([1, 0].map (af .i64)) true, .list 1 ([2].map (af .i64)) true, .list 1 ([0].map (af .i64)) true, .i 1, .i 0])) (bc rfl u33 (by kernel_rfl) rfl (bj (n := 5) og AG rfl rfl)) ?_
 refine SmG.new hF rfl rfl rfl (aQ rfl xy) ?_
 refine SmG.store hF rfl rfl rfl rfl rfl (ba (ys := [.d (.list 1 ([1, 0].map (af .i64)) true), .d (.list 1 ([2].map (af .i64)) true), .d (.list 1 ([0].map (af .i64)) true), .i 1, .i 0]) (r := [.z, .z, .z, .i 0, .i 0]) (rows' := [[.d (.list 1 ([1, 0].map (af .i64)) true), .d (.list 1 ([2].map (af .i64)) true), .d (.list 1 ([0].map (af .i64)) true), .i 1, .i 0]]) rfl rfl rfl d9 rfl rfl rfl rfl rfl) ?_
 refine sn ?_
 refine sr hF ?_
 refine gv hF (x := .d (.agg 2 [.i 1, .i 258])) (bc rfl u35 (by kernel_rfl) rfl (bj (n := 2) pr zO rfl rfl)) ?_
 refine SmG.new hF rfl rfl rfl (aQ rfl GO) ?_
 refine SmG.store hF rfl rfl rfl rfl rfl (ba (ys := [.i 1, .i 258]) (r := [.i 0, .i 0]) (rows' := [[.i 1, .i 258]]) rfl rfl rfl gL rfl rfl rfl rfl rfl) ?_
 refine sn ?_
 refine sr hF ?_
 refine gv hF (x := .d (.agg 5 [.list 1 ([1, 0].map (af .i64)) true, .list 1 ([2].map (af .i64)) true, .list 1 ([0].map (af .i64)) true, .i 1, .i 0])) (oL (aE rfl rfl gu d9 rfl rfl)) ?_
 refine gv hF (x := .d (.agg 2 [.i 1, .i 258])) (oL (aE rfl rfl jY gL rfl rfl)) ?_
 obtain ⟨x1, hx1, h⟩ := aa h
 refine SmG.call hF rfl rfl (by kernel_rfl) rfl rfl rfl (aq.args (jk hx1) (fun C => (oE (oE (fun _ h => h))))) ?_
 refine gv hF oA ?_
 refine sn ?_
 refine sr hF ?_
 refine gv hF (x := .d (.agg 5 [.list 1 ([1, 0].map (af .i64)) true, .list 1 ([2].map (af .i64)) true, .list 1 ([0].map (af .i64)) true, .i 1, .i 0])) (oL (aE rfl rfl gu d9 rfl rfl)) ?_
 refine dM (wA (e := [(1, .ref 0 0 0), (2, .ref 1 0 0), (3, .d (.list 1 (x1.map aL) false)), (22, .d (.agg 5 [.list 1 ([1, 0].map (af .i64)) false, .list 1 ([2].map (af .i64)) false, .list 1 ([0].map (af .i64)) false, .i 1, .i 0]))]) (g := [(1, ⟨2, [[.i 1, .i 258]]⟩), (0, ⟨5, [[.d (.list 1 ([1, 0].map (af .i64)) true), .d (.list 1 ([2].map (af .i64)) true), .d (.list 1 ([0].map (af .i64)) true), .i 1, .i 0]]⟩)]) (m := 2)) rfl ?_
 refine gv hF (x := .d (.list 5 ([(⟨[1, 0], [2], [0], 1, 0⟩ : Ps)].map Ps.row) true)) (oS (az u40 d9 og rfl rfl (PartsQ.cons rfl (PartsQ.nil _)) rfl)) ?_
 refine gv hF (x := .d (.agg 2 [.i 1, .i 258])) (oL (aE rfl rfl jY gL rfl rfl)) ?_
 refine gv hF (x := .d (.list 2 ([(⟨1, 258⟩ : Rs)].map Rs.row) true)) (oS (az u41 gL pr rfl rfl (PartsQ.cons rfl (PartsQ.nil _)) rfl)) ?_
 obtain ⟨x2, hx2, h⟩ := aa h
 refine SmG.call hF rfl rfl (by kernel_rfl) rfl rfl rfl (aq.args (f8 hx2) (fun C => (oE (oE (oE (oE (fun _ h => h))))))) ?_
 refine gv hF oM ?_
 refine gv hF (bh rfl rfl rfl) ?_
 refine gv hF (bh rfl rfl rfl) ?_
 refine SmG.new hF rfl rfl rfl (aQ rfl qx) ?_
 refine SmG.store hF rfl rfl rfl rfl rfl (ba (ys := [.i x2.1.version, .i x2.1.index, .i x2.1.count, .l x2.1.pos.at_, .l x2.1.pos.h0, .l x2.1.pos.h1, .i x2.1.pos.rights, .i x2.1.pos.side, .i x2.1.entry.out, .i x2.1.entry.n, .d (.list 32 (x2.1.proof.map aJ) false)]) (r := [.i 0, .i 0, .i 0, .z, .z, .z, .i 0, .i 0, .i 0, .i 0, .z]) (rows' := [[.i x2.1.version, .i x2.1.index, .i x2.1.count, .l x2.1.pos.at_, .l x2.1.pos.h0, .l x2.1.pos.h1, .i x2.1.pos.rights, .i x2.1.pos.side, .i x2.1.entry.out, .i x2.1.entry.n, .d (.list 32 (x2.1.proof.map aJ) false)]]) rfl rfl rfl gl rfl rfl rfl rfl rfl) ?_
 refine gv hF oA ?_
 refine sn ?_
 refine sr hF ?_
 refine gv hF (x := .d (.agg 5 [.list 1 ([1, 0].map (af .i64)) true, .list 1 ([2].map (af .i64)) true, .list 1 ([0].map (af .i64)) true, .i 1, .i 0])) (oL (aE rfl rfl gu d9 rfl rfl)) ?_
 refine dM (wA (e := [(1, .ref 0 0 0), (2, .ref 1 0 0), (3, .d (.list 1 (x1.map aL) false)), (4, .ref 2 0 0), (5, .i x2.2), (30, .d (.agg 5 [.list 1 ([1, 0].map (af .i64)) false, .list 1 ([2].map (af .i64)) false, .list 1 ([0].map (af .i64)) false, .i 1, .i 0]))]) (g := [(2, ⟨11, [[.i x2.1.version, .i x2.1.index, .i x2.1.count, .l x2.1.pos.at_, .l x2.1.pos.h0, .l x2.1.pos.h1, .i x2.1.pos.rights, .i x2.1.pos.side, .i x2.1.entry.out, .i x2.1.entry.n, .d (.list 32 (x2.1.proof.map aJ) false)]]⟩), (1, ⟨2, [[.i 1, .i 258]]⟩), (0, ⟨5, [[.d (.list 1 ([1, 0].map (af .i64)) true), .d (.list 1 ([2].map (af .i64)) true), .d (.list 1 ([0].map (af .i64)) true), .i 1, .i 0]]⟩)]) (m := 3)) rfl ?_
 refine gv hF (x := .d (.list 5 ([(⟨[1, 0], [2], [0], 1, 0⟩ : Ps)].map Ps.row) true)) (oS (az u40 d9 og rfl rfl (PartsQ.cons rfl (PartsQ.nil _)) rfl)) ?_
 obtain ⟨x3, hx3, h⟩ := aa h
 refine SmG.call hF rfl rfl (by kernel_rfl) rfl rfl rfl (aq.args (f8 hx3) (fun C => (oE (oE (oE (oE (fun _ h => h))))))) ?_
 refine gv hF oM ?_
 refine gv hF (bh rfl rfl rfl) ?_
 refine gv hF (bh rfl rfl rfl) ?_
 refine SmG.new hF rfl rfl rfl (aQ rfl qx) ?_
 refine SmG.store hF rfl rfl rfl rfl rfl (ba (ys := [.i x3.1.version, .i x3.1.index, .i x3.1.count, .l x3.1.pos.at_, .l x3.1.pos.h0, .l x3.1.pos.h1, .i x3.1.pos.rights, .i x3.1.pos.side, .i x3.1.entry.out, .i x3.1.entry.n, .d (.list 32 (x3.1.proof.map aJ) false)]) (r := [.i 0, .i 0, .i 0, .z, .z, .z, .i 0, .i 0, .i 0, .i 0, .z]) (rows' := [[.i x3.1.version, .i x3.1.index, .i x3.1.count, .l x3.1.pos.at_, .l x3.1.pos.h0, .l x3.1.pos.h1, .i x3.1.pos.rights, .i x3.1.pos.side, .i x3.1.entry.out, .i x3.1.entry.n, .d (.list 32 (x3.1.proof.map aJ) false)]]) rfl rfl rfl gl rfl rfl rfl rfl rfl) ?_
 refine gv hF oA ?_
 refine sn ?_
 refine sr hF ?_
 refine gv hF (x := .d (.agg 5 [.list 1 ([1, 0].map (af .i64)) true, .list 1 ([2].map (af .i64)) true, .list 1 ([0].map (af .i64)) true, .i 1, .i 0])) (oL (aE rfl rfl gu d9 rfl rfl)) ?_
 refine dM (wA (e := [(1, .ref 0 0 0), (2, .ref 1 0 0), (3, .d (.list 1 (x1.map aL) false)), (4, .ref 2 0 0), (5, .i x2.2), (7, .i x3.2), (36, .d (.agg 5 [.list 1 ([1, 0].map (af .i64)) false, .list 1 ([2].map (af .i64)) false, .list 1 ([0].map (af .i64)) false, .i 1, .i 0]))]) (g := [(2, ⟨11, [[.i x2.1.version, .i x2.1.index, .i x2.1.count, .l x2.1.pos.at_, .l x2.1.pos.h0, .l x2.1.pos.h1, .i x2.1.pos.rights, .i x2.1.pos.side, .i x2.1.entry.out, .i x2.1.entry.n, .d (.list 32 (x2.1.proof.map aJ) false)]]⟩), (1, ⟨2, [[.i 1, .i 258]]⟩), (0, ⟨5, [[.d (.list 1 ([1, 0].map (af .i64)) true), .d (.list 1 ([2].map (af .i64)) true), .d (.list 1 ([0].map (af .i64)) true), .i 1, .i 0]]⟩)]) (m := 4)) rfl ?_
 refine gv hF (x := .d (.list 5 ([(⟨[1, 0], [2], [0], 1, 0⟩ : Ps)].map Ps.row) true)) (oS (az u40 d9 og rfl rfl (PartsQ.cons rfl (PartsQ.nil _)) rfl)) ?_
 refine gv hF (x := .d (.agg 2 [.i 1, .i 258])) (oL (aE rfl rfl jY gL rfl rfl)) ?_
 refine gv hF (x := .d (.list 2 ([(⟨1, 258⟩ : Rs)].map Rs.row) true)) (oS (az u41 gL pr rfl rfl (PartsQ.cons rfl (PartsQ.nil _)) rfl)) ?_
 obtain ⟨x4, hx4, h⟩ := aa h
 refine SmG.call hF rfl rfl (by kernel_rfl) rfl rfl rfl (aq.args (f8 hx4) (fun C => (oE (oE (oE (oE (fun _ h => h))))))) ?_
 refine gv hF oM ?_
 refine gv hF (bh rfl rfl rfl) ?_
 refine gv hF (bh rfl rfl rfl) ?_
 refine SmG.new hF rfl rfl rfl (aQ rfl qx) ?_
 refine SmG.store hF rfl rfl rfl rfl rfl (ba (ys := [.i x4.1.version, .i x4.1.index, .i x4.1.count, .l x4.1.pos.at_, .l x4.1.pos.h0, .l x4.1.pos.h1, .i x4.1.pos.rights, .i x4.1.pos.side, .i x4.1.entry.out, .i x4.1.entry.n, .d (.list 32 (x4.1.proof.map aJ) false)]) (r := [.i 0, .i 0, .i 0, .z, .z, .z, .i 0, .i 0, .i 0, .i 0, .z]) (rows' := [[.i x4.1.version, .i x4.1.index, .i x4.1.count, .l x4.1.pos.at_, .l x4.1.pos.h0, .l x4.1.pos.h1, .i x4.1.pos.rights, .i x4.1.pos.side, .i x4.1.entry.out, .i x4.1.entry.n, .d (.list 32 (x4.1.proof.map aJ) false)]]) rfl rfl rfl gl rfl rfl rfl rfl rfl) ?_
 refine gv hF oA ?_
 refine sn ?_
 refine sr hF ?_
 refine gv hF (x := .d (.agg 5 [.list 1 ([1, 0].map (af .i64)) true, .list 1 ([2].map (af .i64)) true, .list 1 ([0].map (af .i64)) true, .i 1, .i 0])) (oL (aE rfl rfl gu d9 rfl rfl)) ?_
 refine dM (wA (e := [(1, .ref 0 0 0), (2, .ref 1 0 0), (3, .d (.list 1 (x1.map aL) false)), (4, .ref 2 0 0), (5, .i x2.2), (7, .i x3.2), (9, .i x4.2), (43, .d (.agg 5 [.list 1 ([1, 0].map (af .i64)) false, .list 1 ([2].map (af .i64)) false, .list 1 ([0].map (af .i64)) false, .i 1, .i 0]))]) (g := [(2, ⟨11, [[.i x2.1.version, .i x2.1.index, .i x2.1.count, .l x2.1.pos.at_, .l x2.1.pos.h0, .l x2.1.pos.h1, .i x2.1.pos.rights, .i x2.1.pos.side, .i x2.1.entry.out, .i x2.1.entry.n, .d (.list 32 (x2.1.proof.map aJ) false)]]⟩), (1, ⟨2, [[.i 1, .i 258]]⟩), (0, ⟨5, [[.d (.list 1 ([1, 0].map (af .i64)) true), .d (.list 1 ([2].map (af .i64)) true), .d (.list 1 ([0].map (af .i64)) true), .i 1, .i 0]]⟩)]) (m := 5)) rfl ?_
 refine gv hF (x := .d (.list 5 ([(⟨[1, 0], [2], [0], 1, 0⟩ : Ps)].map Ps.row) true)) (oS (az u40 d9 og rfl rfl (PartsQ.cons rfl (PartsQ.nil _)) rfl)) ?_
 refine gv hF (x := .d (.agg 2 [.i 1, .i 258])) (oL (aE rfl rfl jY gL rfl rfl)) ?_
 refine gv hF (x := .d (.list 2 ([(⟨1, 258⟩ : Rs)].map Rs.row) true)) (oS (az u41 gL pr rfl rfl (PartsQ.cons rfl (PartsQ.nil _)) rfl)) ?_
 obtain ⟨x5, hx5, h⟩ := aa h
 refine SmG.call hF rfl rfl (by kernel_rfl) rfl rfl rfl (aq.args (lP hx5) (fun C => (oE (oE (fun _ h => h))))) ?_
 refine SmG.new hF rfl rfl rfl (aQ rfl kG) ?_
 obtain ⟨x6, hx6, h⟩ := aa h
 refine SmG.store hF rfl rfl rfl rfl rfl (jL rfl rfl cP rfl (du hx6)) ?_
 refine sn ?_
 refine sr hF ?_
 refine gv hF oM ?_
 refine gv hF (oB (cK)) ?_
 rcases bx (x2.2 == 0) with hc7 | hc7
 ·replace h := ifF hc7 h
  refine gv hF (au rfl rfl hc7) ?_
  refine gp hF ?_
  refine gp hF ?_
  refine gv hF (am rfl rfl rfl) ?_
  refine gv hF oM ?_
  refine gp hF ?_
  refine gp hF ?_
  refine gv hF (am rfl rfl rfl) ?_
  refine gv hF oA ?_
  refine sn ?_
  refine Sm.seq ?_
  refine aV hF (by kernel_rfl) rfl 39 (by kernel_rfl) (by kernel_rfl) ?_
  simp only [List.take_succ_cons, List.take_zero, List.take_nil]
  refine hv hF oM ?_
  refine hv hF oM ?_
  refine hp hF ?_
  refine hp hF ?_
  refine hp hF ?_
  refine hv hF (am rfl rfl rfl) ?_
  refine hv hF oM ?_
  refine hp hF ?_
  refine hp hF ?_
  refine hp hF ?_
  refine hp hF ?_
  refine hv hF (am rfl rfl rfl) ?_
  refine hv hF oM ?_
  refine hp hF ?_
  refine hp hF ?_
  refine hp hF ?_
  refine hv hF (am rfl rfl rfl) ?_
  refine hv hF oM ?_
  refine hp hF ?_
  refine hp hF ?_
  refine hp hF ?_
  refine hp hF ?_
  refine hp hF ?_
  refine hp hF ?_
  refine hv hF (am rfl rfl rfl) ?_
  refine hv hF oM ?_
  refine hp hF ?_
  refine hp hF ?_
  refine hp hF ?_
  refine hv hF (am rfl rfl rfl) ?_
  refine hv hF oM ?_
  refine hp hF ?_
  refine hp hF ?_
  refine hp hF ?_
  refine hp hF ?_
  refine hv hF (am rfl rfl rfl) ?_
  refine hv hF oM ?_
  refine hp hF ?_
  refine hp hF ?_
  refine ag.last ⟨rfl, ?_⟩
  simp only [List.drop_succ_cons, List.drop_zero, List.drop_nil, List.nil_append, List.cons_append]
  refine gp hF ?_
  refine gp hF ?_
  refine gv hF (am rfl rfl rfl) ?_
  refine gv hF oA ?_
  refine sn ?_
  refine Sm.ret ?_
  obtain rfl := ae h
  exact bz rfl rfl
 replace h := ifT hc7 h
 refine gv hF (au rfl rfl hc7) ?_
 refine gv hF oM ?_
 refine gv hF (oB (cK)) ?_
 refine gv hF (aH rfl rfl rfl) ?_
 rcases bx (x3.2 == 1) with hc8 | hc8
 ·replace h := ifF hc8 h
  refine gv hF (au rfl rfl hc8) ?_
  refine gp hF ?_
  refine gp hF ?_
  refine gv hF (am rfl rfl rfl) ?_
  refine gv hF oA ?_
  refine sn ?_
  refine Sm.seq ?_
  refine aV hF (by kernel_rfl) rfl 39 (by kernel_rfl) (by kernel_rfl) ?_
  simp only [List.take_succ_cons, List.take_zero, List.take_nil]
  refine hv hF oM ?_
  refine hv hF oM ?_
  refine hp hF ?_
  refine hp hF ?_
  refine hp hF ?_
  refine hv hF (am rfl rfl rfl) ?_
  refine hv hF oM ?_
  refine hp hF ?_
  refine hp hF ?_
  refine hp hF ?_
  refine hp hF ?_
  refine hv hF (am rfl rfl rfl) ?_
  refine hv hF oM ?_
  refine hp hF ?_
  refine hp hF ?_
  refine hp hF ?_
  refine hv hF (am rfl rfl rfl) ?_
  refine hv hF oM ?_
  refine hp hF ?_
  refine hp hF ?_
  refine hp hF ?_
  refine hp hF ?_
  refine hp hF ?_
  refine hp hF ?_
  refine hv hF (am rfl rfl rfl) ?_
  refine hv hF oM ?_
  refine hp hF ?_
  refine hp hF ?_
  refine hp hF ?_
  refine hv hF (am rfl rfl rfl) ?_
  refine hv hF oM ?_
  refine hp hF ?_
  refine hp hF ?_
  refine hp hF ?_
  refine hp hF ?_
  refine hv hF (am rfl rfl rfl) ?_
  refine hv hF oM ?_
  refine hp hF ?_
  refine hp hF ?_
  refine ag.last ⟨rfl, ?_⟩
  simp only [List.drop_succ_cons, List.drop_zero, List.drop_nil, List.nil_append, List.cons_append]
  refine gp hF ?_
  refine gp hF ?_
  refine gv hF (am rfl rfl rfl) ?_
  refine gv hF oA ?_
  refine sn ?_
  refine Sm.ret ?_
  obtain rfl := ae h
  exact bz rfl rfl
 replace h := ifT hc8 h
 refine gv hF (au rfl rfl hc8) ?_
 refine gv hF oM ?_
 refine gv hF (oB (cK)) ?_
 refine gv hF (aH rfl rfl rfl) ?_
 refine gv hF oA ?_
 refine sn ?_
 refine Sm.seq ?_
 refine aV hF (by kernel_rfl) rfl 39 (by kernel_rfl) (by kernel_rfl) ?_
 simp only [List.take_succ_cons, List.take_zero, List.take_nil]
 refine hv hF oM ?_
 rcases bx (x4.2 == 1) with hc9 | hc9
 ·replace h := ifF hc9 h
  refine hv hF (au rfl rfl hc9) ?_
  refine hp hF ?_
  refine hp hF ?_
  refine hp hF ?_
  refine hv hF (am rfl rfl rfl) ?_
  refine hv hF oM ?_
  refine hp hF ?_
  refine hp hF ?_
  refine hp hF ?_
  refine hp hF ?_
  refine hv hF (am rfl rfl rfl) ?_
  refine hv hF oM ?_
  refine hp hF ?_
  refine hp hF ?_
  refine hp hF ?_
  refine hv hF (am rfl rfl rfl) ?_
  refine hv hF oM ?_
  refine hp hF ?_
  refine hp hF ?_
  refine hp hF ?_
  refine hp hF ?_
  refine hp hF ?_
  refine hp hF ?_
  refine hv hF (am rfl rfl rfl) ?_
  refine hv hF oM ?_
  refine hp hF ?_
  refine hp hF ?_
  refine hp hF ?_
  refine hv hF (am rfl rfl rfl) ?_
  refine hv hF oM ?_
  refine hp hF ?_
  refine hp hF ?_
  refine hp hF ?_
  refine hp hF ?_
  refine hv hF (am rfl rfl rfl) ?_
  refine hv hF oM ?_
  refine hp hF ?_
  refine hp hF ?_
  refine ag.last ⟨rfl, ?_⟩
  simp only [List.drop_succ_cons, List.drop_zero, List.drop_nil, List.nil_append, List.cons_append]
  refine gp hF ?_
  refine gp hF ?_
  refine gv hF (am rfl rfl rfl) ?_
  refine gv hF oA ?_
  refine sn ?_
  refine Sm.ret ?_
  obtain rfl := ae h
  exact bz rfl rfl
 replace h := ifT hc9 h
 refine hv hF (au rfl rfl hc9) ?_
 refine hv hF oM ?_
 refine hv hF (oC (ed u24 u9 u5)) ?_
 refine hv hF (oB (z8 rfl)) ?_
 refine hv hF (aH rfl rfl rfl) ?_
 rcases bx (x1 == ([2, 1, 1, 1, 0, 2, 0, 1, 0, 1, 0, 0, 1, 2] : List UInt8)) with hc10 | hc10
 ·replace h := ifF hc10 h
  refine hv hF (au rfl rfl hc10) ?_
  refine hp hF ?_
  refine hp hF ?_
  refine hp hF ?_
  refine hp hF ?_
  refine hv hF (am rfl rfl rfl) ?_
  refine hv hF oM ?_
  refine hp hF ?_
  refine hp hF ?_
  refine hp hF ?_
  refine hv hF (am rfl rfl rfl) ?_
  refine hv hF oM ?_
  refine hp hF ?_
  refine hp hF ?_
  refine hp hF ?_
  refine hp hF ?_
  refine hp hF ?_
  refine hp hF ?_
  refine hv hF (am rfl rfl rfl) ?_
  refine hv hF oM ?_
  refine hp hF ?_
  refine hp hF ?_
  refine hp hF ?_
  refine hv hF (am rfl rfl rfl) ?_
  refine hv hF oM ?_
  refine hp hF ?_
  refine hp hF ?_
  refine hp hF ?_
  refine hp hF ?_
  refine hv hF (am rfl rfl rfl) ?_
  refine hv hF oM ?_
  refine hp hF ?_
  refine hp hF ?_
  refine ag.last ⟨rfl, ?_⟩
  simp only [List.drop_succ_cons, List.drop_zero, List.drop_nil, List.nil_append, List.cons_append]
  refine gp hF ?_
  refine gp hF ?_
  refine gv hF (am rfl rfl rfl) ?_
  refine gv hF oA ?_
  refine sn ?_
  refine Sm.ret ?_
  obtain rfl := ae h
  exact bz rfl rfl
 replace h := ifT hc10 h
 refine hv hF (au rfl rfl hc10) ?_
 refine hv hF (oF (aA nN)) ?_
 refine hv hF (oL (bY rfl rfl tv rfl)) ?_
 refine hv hF (oN (bg u36)) ?_
 refine hv hF (oB (cK)) ?_
 refine hv hF (aH rfl rfl rfl) ?_
 rcases bx ((x2.1.proof.length : Int) == 0) with hc11 | hc11
 ·replace h := ifF hc11 h
  refine hv hF (au rfl rfl hc11) ?_
  refine hp hF ?_
  refine hp hF ?_
  refine hp hF ?_
  refine hv hF (am rfl rfl rfl) ?_
  refine hv hF oM ?_
  refine hp hF ?_
  refine hp hF ?_
  refine hp hF ?_
  refine hp hF ?_
  refine hp hF ?_
  refine hp hF ?_
  refine hv hF (am rfl rfl rfl) ?_
  refine hv hF oM ?_
  refine hp hF ?_
  refine hp hF ?_
  refine hp hF ?_
  refine hv hF (am rfl rfl rfl) ?_
  refine hv hF oM ?_
  refine hp hF ?_
  refine hp hF ?_
  refine hp hF ?_
  refine hp hF ?_
  refine hv hF (am rfl rfl rfl) ?_
  refine hv hF oM ?_
  refine hp hF ?_
  refine hp hF ?_
  refine ag.last ⟨rfl, ?_⟩
  simp only [List.drop_succ_cons, List.drop_zero, List.drop_nil, List.nil_append, List.cons_append]
  refine gp hF ?_
  refine gp hF ?_
  refine gv hF (am rfl rfl rfl) ?_
  refine gv hF oA ?_
  refine sn ?_
  refine Sm.ret ?_
  obtain rfl := ae h
  exact bz rfl rfl
 replace h := ifT hc11 h
 refine hv hF (au rfl rfl hc11) ?_
 refine hv hF (oF (aA nW)) ?_
 refine hv hF (oL (bY rfl rfl ag3 rfl)) ?_
 refine hv hF (oB (cK)) ?_
 refine hv hF (aH rfl rfl rfl) ?_
 rcases bx (x2.1.count == 1) with hc12 | hc12
 ·replace h := ifF hc12 h
  refine hv hF (au rfl rfl hc12) ?_
  refine hp hF ?_
  refine hp hF ?_
  refine hp hF ?_
  refine hp hF ?_
  refine hp hF ?_
  refine hp hF ?_
  refine hv hF (am rfl rfl rfl) ?_
  refine hv hF oM ?_
  refine hp hF ?_
  refine hp hF ?_
  refine hp hF ?_
  refine hv hF (am rfl rfl rfl) ?_
  refine hv hF oM ?_
  refine hp hF ?_
  refine hp hF ?_
  refine hp hF ?_
  refine hp hF ?_
  refine hv hF (am rfl rfl rfl) ?_
  refine hv hF oM ?_
  refine hp hF ?_
  refine hp hF ?_
  refine ag.last ⟨rfl, ?_⟩
  simp only [List.drop_succ_cons, List.drop_zero, List.drop_nil, List.nil_append, List.cons_append]
  refine gp hF ?_
  refine gp hF ?_
  refine gv hF (am rfl rfl rfl) ?_
  refine gv hF oA ?_
  refine sn ?_
  refine Sm.ret ?_
  obtain rfl := ae h
  exact bz rfl rfl
 replace h := ifT hc12 h
 refine hv hF (au rfl rfl hc12) ?_
 refine hv hF (x := .d (.agg 32 (aJ x5))) (oL (fZ rfl fG cP)) ?_
 refine hv hF (x := .d (.agg 5 [.list 1 ([1, 0].map (af .i64)) true, .list 1 ([2].map (af .i64)) true, .list 1 ([0].map (af .i64)) true, .i 1, .i 0])) (oL (aE rfl rfl gu d9 rfl rfl)) ?_
 refine hv hF (x := .d (.agg 2 [.i 1, .i 258])) (oL (aE rfl rfl jY gL rfl rfl)) ?_
 obtain ⟨x13, hx13, h⟩ := aa h
 refine ag.c hF rfl rfl (by kernel_rfl) rfl rfl rfl (aq.args (js hx13) (fun C => (oE (oE (fun _ h => h))))) ?_
 obtain ⟨x14, hx14, h⟩ := aa h
 refine cH hF (nh hx14) ?_
 obtain ⟨x15, hx15, h⟩ := aa h
 obtain ⟨x16, hx16, h⟩ := aa h
 refine hv hF (ir rfl rfl rfl (jq (by kernel_rfl) (by kernel_rfl) (du hx15) (du hx16))) ?_
 refine hv hF (aH rfl rfl rfl) ?_
 rcases bx (x5 == x14) with hc17 | hc17
 ·replace h := ifF hc17 h
  refine hv hF (au rfl rfl hc17) ?_
  refine hp hF ?_
  refine hp hF ?_
  refine hp hF ?_
  refine hv hF (am rfl rfl rfl) ?_
  refine hv hF oM ?_
  refine hp hF ?_
  refine hp hF ?_
  refine hp hF ?_
  refine hp hF ?_
  refine hv hF (am rfl rfl rfl) ?_
  refine hv hF oM ?_
  refine hp hF ?_
  refine hp hF ?_
  refine ag.last ⟨rfl, ?_⟩
  simp only [List.drop_succ_cons, List.drop_zero, List.drop_nil, List.nil_append, List.cons_append]
  refine gp hF ?_
  refine gp hF ?_
  refine gv hF (am rfl rfl rfl) ?_
  refine gv hF oA ?_
  refine sn ?_
  refine Sm.ret ?_
  obtain rfl := ae h
  exact bz rfl rfl
 replace h := ifT hc17 h
 refine hv hF (au rfl rfl hc17) ?_
 refine hv hF (x := .d (.agg 32 (aJ x5))) (oL (fZ rfl fG cP)) ?_
 refine hv hF (x := .d (.agg 11 [.i x2.1.version, .i x2.1.index, .i x2.1.count, .l x2.1.pos.at_, .l x2.1.pos.h0, .l x2.1.pos.h1, .i x2.1.pos.rights, .i x2.1.pos.side, .i x2.1.entry.out, .i x2.1.entry.n, .list 32 (x2.1.proof.map aJ) false])) (oL (aE rfl rfl i9 gl rfl rfl)) ?_
 obtain ⟨x18, hx18, h⟩ := aa h
 refine cH hF (eE hx18) ?_
 refine hv hF (aH rfl rfl rfl) ?_
 rcases bx x18 with hc19 | hc19
 ·replace h := ifF hc19 h
  refine hv hF (au rfl rfl hc19) ?_
  refine hp hF ?_
  refine hp hF ?_
  refine hp hF ?_
  refine hp hF ?_
  refine hv hF (am rfl rfl rfl) ?_
  refine hv hF oM ?_
  refine hp hF ?_
  refine hp hF ?_
  refine ag.last ⟨rfl, ?_⟩
  simp only [List.drop_succ_cons, List.drop_zero, List.drop_nil, List.nil_append, List.cons_append]
  refine gp hF ?_
  refine gp hF ?_
  refine gv hF (am rfl rfl rfl) ?_
  refine gv hF oA ?_
  refine sn ?_
  refine Sm.ret ?_
  obtain rfl := ae h
  exact bz rfl rfl
 replace h := ifT hc19 h
 refine hv hF (au rfl rfl hc19) ?_
 refine hv hF (x := .d (.agg 32 (aJ x5))) (oL (fZ rfl fG cP)) ?_
 refine hv hF (x := .d (.agg 11 [.i x2.1.version, .i x2.1.index, .i x2.1.count, .l x2.1.pos.at_, .l x2.1.pos.h0, .l x2.1.pos.h1, .i x2.1.pos.rights, .i x2.1.pos.side, .i x2.1.entry.out, .i x2.1.entry.n, .list 32 (x2.1.proof.map aJ) false])) (oL (aE rfl rfl i9 gl rfl rfl)) ?_
 obtain ⟨x20, hx20, h⟩ := aa h
 refine cH hF (eE hx20) ?_
 refine hv hF (jB rfl rfl (kd _)) ?_
 refine hv hF (aH rfl rfl rfl) ?_
 rcases bx (!x20) with hc21 | hc21
 ·replace h := ifF hc21 h
  refine hv hF (au rfl rfl hc21) ?_
  refine hp hF ?_
  refine hp hF ?_
  refine ag.last ⟨rfl, ?_⟩
  simp only [List.drop_succ_cons, List.drop_zero, List.drop_nil, List.nil_append, List.cons_append]
  refine gp hF ?_
  refine gp hF ?_
  refine gv hF (am rfl rfl rfl) ?_
  refine gv hF oA ?_
  refine sn ?_
  refine Sm.ret ?_
  obtain rfl := ae h
  exact bz rfl rfl
 replace h := ifT hc21 h
 refine hv hF (au rfl rfl hc21) ?_
 refine hv hF (x := .d (.agg 32 (aJ (List.replicate 32 0)))) (il rfl u47 rfl zZ) ?_
 refine hv hF (x := .d (.agg 11 [.i x2.1.version, .i x2.1.index, .i x2.1.count, .l x2.1.pos.at_, .l x2.1.pos.h0, .l x2.1.pos.h1, .i x2.1.pos.rights, .i x2.1.pos.side, .i x2.1.entry.out, .i x2.1.entry.n, .list 32 (x2.1.proof.map aJ) false])) (oL (aE rfl rfl i9 gl rfl rfl)) ?_
 refine ag.last ⟨rfl, ?_⟩
 simp only [List.drop_succ_cons, List.drop_zero, List.drop_nil, List.nil_append, List.cons_append]
 obtain ⟨x22, hx22, h⟩ := aa h
 refine cS hF (eE hx22) ?_
 refine gv hF (jB rfl rfl (kd _)) ?_
 refine gv hF (aH rfl rfl rfl) ?_
 refine gv hF oA ?_
 refine sn ?_
 refine Sm.ret ?_
 obtain rfl := ae h
 exact bz rfl rfl
noncomputable def dF (a0 : GRaw) (a1 : List PRaw) (a2 : List Int) : Option (List Ps × List Rs) :=
 ob (fE a0) fun x1 =>
 ob (fH x1 a1 10) fun x2 =>
 ob (eI x2 a2) fun x3 =>
 some (x2, x3)
set_option maxHeartbeats 4000000 in
theorem ji {a0 : GRaw} {a1 : List PRaw} {a2 : List Int} {r : (List Ps × List Rs)} (h : dF a0 a1 a2 = some r) : aq Tryd.prog HG 10 [.agg 12 (GRaw.row a0), .list 18 (a1.map PRaw.row) false, .list 1 (a2.map (af .u16)) false] (.tup [.list 5 (r.1.map Ps.row) false, .list 2 (r.2.map Rs.row) false]) := by
 unfold dF at h
 refine aq.of Tryd.func10 rfl Tryd.ntmps10 (by simp) ?_
 intro F hF h0 hT
 show Sm F _ _ ⟨[(0, .d (.agg 12 (GRaw.row a0))), (1, .d (.list 18 (a1.map PRaw.row) false)), (2, .d (.list 1 (a2.map (af .u16)) false))], [], 0⟩
 refine sr hF ?_
 refine bT hF fU ?_
 refine gv hF oA ?_
 refine gv hF oA ?_
 refine sn ?_
 refine sr hF ?_
 refine gv hF (x := .d (.agg 12 (GRaw.row a0))) (oL (cI ta uZ rfl rfl)) ?_
 obtain ⟨x1, hx1, h⟩ := aa h
 refine cS hF (nf hx1) ?_
 refine gv hF oM ?_
 obtain ⟨x2, hx2, h⟩ := aa h
 refine cS hF (mP hx2) ?_
 refine gv hF oA ?_
 refine sn ?_
 refine sr hF ?_
 refine gv hF oM ?_
 refine gv hF oM ?_
 refine gv hF oM ?_
 obtain ⟨x3, hx3, h⟩ := aa h
 refine cS hF (lF hx3) ?_
 refine gv hF oA ?_
 refine gv hF oA ?_
 refine sn ?_
 refine Sm.ret ?_
 obtain rfl := ae h
 exact dV (RetR.cons (RetO.tmp rfl) (RetR.cons (RetO.tmp rfl) (RetR.nil))) (D.le.refl _)
noncomputable def eW (a0 : (List PRaw × List PRaw)) (a1 : GRaw) (a2 : (UInt8 × UInt8 × UInt8 × UInt8)) : Option Bool :=
 ob (eX ) fun x1 =>
 ob (dF a1 a0.1 [3]) fun x2 =>
 ob (dF a1 a0.2 [5]) fun x3 =>
 bif ((x2.1.length : Int) == 0) then (
  some x1
 ) else (
  bif ((x3.1.length : Int) == 0) then (
   some x1
  ) else (
   ob (fX x2.1 x2.2) fun x6 =>
   ob (vN 32 x6) fun x7 =>
   ob (cE (a2.1.toNat : Int) (x2.1.length : Int)) fun x8 =>
   ob (cw x2.1 x2.2 1 x8) fun x9 =>
   ob (cE (a2.2.1.toNat : Int) (x3.1.length : Int)) fun x10 =>
   ob (cw x3.1 x3.2 1 x10) fun x11 =>
   bif (x9.2 != 0) then (
    some false
   ) else (
    bif (x11.2 != 0) then (
     some false
    ) else (
     ob ((
      ob (cE (a2.2.2.1.toNat : Int) 2) fun x14 =>
      bif (x14 == 0) then (
       some x9.1.proof
      ) else (
       some x11.1.proof
      )
      : Option (List (List UInt8)))) fun v16 =>
     ob ((
      ob (cE (a2.2.2.2.toNat : Int) 2) fun x17 =>
      bif (x17 == 0) then (
       some (x9.1.pos.at_, x9.1.pos.h0, x9.1.pos.h1, x9.1.pos.rights, x9.1.pos.side)
      ) else (
       some (x11.1.pos.at_, x11.1.pos.h0, x11.1.pos.h1, x11.1.pos.rights, x11.1.pos.side)
      )
      : Option ((List Int) × (List Int) × (List Int) × Int × Int))) fun v19 =>
     ob (cY x6 1 x9.1) fun x20 =>
     bif (!x20) then (
      bif x1 then (
       ob (cY x6 1 x9.1) fun x23 =>
       some x23
      ) else (
       some false
      )
     ) else (
      ob (cY x6 1 (⟨x11.1.version, x9.1.index, x9.1.count, (⟨v19.1, v19.2.1, v19.2.2.1, v19.2.2.2.1, v19.2.2.2.2⟩ : Ps), x11.1.entry, v16⟩ : Ans)) fun x24 =>
      bif (!x24) then (
       bif x1 then (
        ob (cY x6 1 x9.1) fun x27 =>
        some x27
       ) else (
        some false
       )
      ) else (
       ob (fC x9.1.pos (⟨v19.1, v19.2.1, v19.2.2.1, v19.2.2.2.1, v19.2.2.2.2⟩ : Ps)) fun x28 =>
       bif x28 then (
        bif x1 then (
         bif ((x9.1.entry.out == x11.1.entry.out) && ((x9.1.entry.n == x11.1.entry.n) && true)) then (
          some true
         ) else (
          ob (bB x9.1) fun x32 =>
          ob (bB (⟨x11.1.version, x9.1.index, x9.1.count, (⟨v19.1, v19.2.1, v19.2.2.1, v19.2.2.2.1, v19.2.2.2.2⟩ : Ps), x11.1.entry, v16⟩ : Ans)) fun x33 =>
          ob (dE x32 x33) fun x34 =>
          some x34
         )
        ) else (
         some false
        )
       ) else (
        bif x1 then (
         ob (bB x9.1) fun x36 =>
         ob (bB (⟨x11.1.version, x9.1.index, x9.1.count, (⟨v19.1, v19.2.1, v19.2.2.1, v19.2.2.2.1, v19.2.2.2.2⟩ : Ps), x11.1.entry, v16⟩ : Ans)) fun x37 =>
         ob (dE x36 x37) fun x38 =>
         some x38
        ) else (
         some false
        )
       )
      )
     )
    )
   )
  )
 )
set_option maxHeartbeats 4000000 in
theorem ki {a0 : (List PRaw × List PRaw)} {a1 : GRaw} {a2 : (UInt8 × UInt8 × UInt8 × UInt8)} {r : Bool} (h : eW a0 a1 a2 = some r) : aq Tryd.prog HG 5 [.agg 2 [.list 18 (a0.1.map PRaw.row) false, .list 18 (a0.2.map PRaw.row) false], .agg 12 (GRaw.row a1), .agg 4 [.v (.int .u8 (a2.1.toNat : Int)), .v (.int .u8 (a2.2.1.toNat : Int)), .v (.int .u8 (a2.2.2.1.toNat : Int)), .v (.int .u8 (a2.2.2.2.toNat : Int))]] (.v (.bool r)) := by
 unfold eW at h
 refine aq.of Tryd.func5 rfl Tryd.ntmps5 (by simp) ?_
 intro F hF h0 hT
 show Sm F _ _ ⟨[(0, .d (.agg 2 [.list 18 (a0.1.map PRaw.row) false, .list 18 (a0.2.map PRaw.row) false])), (1, .d (.agg 12 (GRaw.row a1))), (2, .d (.agg 4 [.v (.int .u8 (a2.1.toNat : Int)), .v (.int .u8 (a2.2.1.toNat : Int)), .v (.int .u8 (a2.2.2.1.toNat : Int)), .v (.int .u8 (a2.2.2.2.toNat : Int))]))], [], 0⟩
 refine sr hF ?_
 refine bT hF fU ?_
 refine bT hF fU ?_
 refine bT hF fU ?_
 refine gv hF oA ?_
 refine sn ?_
 refine sr hF ?_
 obtain ⟨x1, hx1, h⟩ := aa h
 refine cS hF (mj hx1) ?_
 refine gv hF oA ?_
 refine sn ?_
 refine sr hF ?_
 refine gv hF (x := .d (.agg 12 (GRaw.row a1))) (oL (cI ta uZ rfl rfl)) ?_
 refine gv hF (oI (ci u23 xR rfl rfl)) ?_
 refine gv hF (oL (lP1 xz rfl)) ?_
 refine gv hF (x := .d (.list 1 ([3].map (af .u16)) true)) (oS (az u45 vB xD rfl rfl (PartsQ.cons rfl (PartsQ.nil _)) rfl)) ?_
 obtain ⟨x2, hx2, h⟩ := aa h
 refine SmG.call hF rfl rfl (by kernel_rfl) rfl rfl rfl (aq.args (ji hx2) (fun C => (oE (oE (oE (fun _ h => h)))))) ?_
 refine gv hF oM ?_
 refine gv hF (bh rfl rfl rfl) ?_
 refine gv hF (bh rfl rfl rfl) ?_
 refine gv hF oA ?_
 refine gv hF oA ?_
 refine sn ?_
 refine sr hF ?_
 refine gv hF (x := .d (.agg 12 (GRaw.row a1))) (oL (cI ta uZ rfl rfl)) ?_
 refine gv hF (oI (ci u23 xR rfl rfl)) ?_
 refine gv hF (oL (lP1 xz rfl)) ?_
 refine gv hF (x := .d (.list 1 ([5].map (af .u16)) true)) (oS (az u45 vB xD rfl rfl (PartsQ.cons rfl (PartsQ.nil _)) rfl)) ?_
 obtain ⟨x3, hx3, h⟩ := aa h
 refine SmG.call hF rfl rfl (by kernel_rfl) rfl rfl rfl (aq.args (ji hx3) (fun C => (oE (oE (oE (fun _ h => h)))))) ?_
 refine gv hF oM ?_
 refine gv hF (bh rfl rfl rfl) ?_
 refine gv hF (bh rfl rfl rfl) ?_
 refine gv hF oA ?_
 refine gv hF oA ?_
 refine sn ?_
 refine Sm.seq ?_
 refine sr hF ?_
 refine gv hF oM ?_
 refine gv hF (oN (bg u40)) ?_
 refine gv hF (oB (cK)) ?_
 rcases iE ((x2.1.length : Int) == 0) with hc4 | hc4
 ·replace h := ifT hc4 h
  refine gv hF (au rfl rfl hc4) ?_
  refine gp hF ?_
  refine gp hF ?_
  refine gp hF ?_
  refine gv hF (aH rfl rfl rfl) ?_
  refine sn ?_
  refine ca hF rfl ?_
  refine sr hF ?_
  refine gv hF oM ?_
  refine gv hF oA ?_
  refine sn ?_
  refine Sm.ret ?_
  obtain rfl := ae h
  exact bz rfl rfl
 replace h := ifF hc4 h
 refine gv hF (au rfl rfl hc4) ?_
 refine gv hF oM ?_
 refine gv hF (oN (bg u40)) ?_
 refine gv hF (oB (cK)) ?_
 refine gv hF (am rfl rfl rfl) ?_
 refine sn ?_
 refine bK hF rfl (fun hc5 => ?_) (fun hc5 => ?_)
 ·replace h := ifT hc5 h
  refine sr hF ?_
  refine gv hF oM ?_
  refine gv hF oA ?_
  refine sn ?_
  refine Sm.ret ?_
  obtain rfl := ae h
  exact bz rfl rfl
 replace h := ifF hc5 h
 refine sk ?_
 refine sr hF ?_
 refine gv hF oM ?_
 refine gv hF oM ?_
 obtain ⟨x6, hx6, h⟩ := aa h
 refine cS hF (lP hx6) ?_
 refine SmG.new hF rfl rfl rfl (aQ rfl kG) ?_
 obtain ⟨x7, hx7, h⟩ := aa h
 refine SmG.store hF rfl rfl rfl rfl rfl (jL rfl rfl cP rfl (du hx7)) ?_
 refine sn ?_
 refine sr hF ?_
 refine gv hF (oI (ci u59 sz5 rfl rfl)) ?_
 refine gv hF (oL (lP1 ag5 rfl)) ?_
 refine gv hF (oC (dD u5 u3 (dg _))) ?_
 refine gv hF oM ?_
 refine gv hF (oN (bg u40)) ?_
 obtain ⟨x8, hx8, h⟩ := aa h
 refine gv hF (oB (bJ hx8)) ?_
 refine gv hF oA ?_
 refine sn ?_
 refine sr hF ?_
 refine gv hF oM ?_
 refine gv hF oM ?_
 refine gv hF oM ?_
 obtain ⟨x9, hx9, h⟩ := aa h
 refine cS hF (f8 hx9) ?_
 refine gv hF oM ?_
 refine gv hF (bh rfl rfl rfl) ?_
 refine gv hF (bh rfl rfl rfl) ?_
 refine SmG.new hF rfl rfl rfl (aQ rfl qx) ?_
 refine SmG.store hF rfl rfl rfl rfl rfl (ba (ys := [.i x9.1.version, .i x9.1.index, .i x9.1.count, .l x9.1.pos.at_, .l x9.1.pos.h0, .l x9.1.pos.h1, .i x9.1.pos.rights, .i x9.1.pos.side, .i x9.1.entry.out, .i x9.1.entry.n, .d (.list 32 (x9.1.proof.map aJ) false)]) (r := [.i 0, .i 0, .i 0, .z, .z, .z, .i 0, .i 0, .i 0, .i 0, .z]) (rows' := [[.i x9.1.version, .i x9.1.index, .i x9.1.count, .l x9.1.pos.at_, .l x9.1.pos.h0, .l x9.1.pos.h1, .i x9.1.pos.rights, .i x9.1.pos.side, .i x9.1.entry.out, .i x9.1.entry.n, .d (.list 32 (x9.1.proof.map aJ) false)]]) rfl rfl rfl gl rfl rfl rfl rfl rfl) ?_
 refine gv hF oA ?_
 refine sn ?_
 refine sr hF ?_
 refine gv hF oM ?_
 refine gv hF oM ?_
 refine gv hF (oI (ci u59 sz5 rfl rfl)) ?_
 refine gv hF (oL (lP1 ag5 rfl)) ?_
 refine gv hF (oC (dD u5 u3 (dg _))) ?_
 refine gv hF oM ?_
 refine gv hF (oN (bg u40)) ?_
 obtain ⟨x10, hx10, h⟩ := aa h
 refine gv hF (oB (bJ hx10)) ?_
 obtain ⟨x11, hx11, h⟩ := aa h
 refine cS hF (f8 hx11) ?_
 refine gv hF oM ?_
 refine gv hF (bh rfl rfl rfl) ?_
 refine gv hF (bh rfl rfl rfl) ?_
 refine SmG.new hF rfl rfl rfl (aQ rfl qx) ?_
 refine SmG.store hF rfl rfl rfl rfl rfl (ba (ys := [.i x11.1.version, .i x11.1.index, .i x11.1.count, .l x11.1.pos.at_, .l x11.1.pos.h0, .l x11.1.pos.h1, .i x11.1.pos.rights, .i x11.1.pos.side, .i x11.1.entry.out, .i x11.1.entry.n, .d (.list 32 (x11.1.proof.map aJ) false)]) (r := [.i 0, .i 0, .i 0, .z, .z, .z, .i 0, .i 0, .i 0, .i 0, .z]) (rows' := [[.i x11.1.version, .i x11.1.index, .i x11.1.count, .l x11.1.pos.at_, .l x11.1.pos.h0, .l x11.1.pos.h1, .i x11.1.pos.rights, .i x11.1.pos.side, .i x11.1.entry.out, .i x11.1.entry.n, .d (.list 32 (x11.1.proof.map aJ) false)]]) rfl rfl rfl gl rfl rfl rfl rfl rfl) ?_
 refine gv hF oA ?_
 refine sn ?_
 refine Sm.seq ?_
 refine sr hF ?_
 refine gv hF oM ?_
 refine gv hF (oB (kW)) ?_
 rcases iE (x9.2 != 0) with hc12 | hc12
 ·replace h := ifT hc12 h
  refine gv hF (au rfl rfl hc12) ?_
  refine gp hF ?_
  refine gp hF ?_
  refine gv hF (aH rfl rfl rfl) ?_
  refine sn ?_
  refine ca hF rfl ?_
  refine sr hF ?_
  refine gv hF oA ?_
  refine sn ?_
  refine Sm.ret ?_
  obtain rfl := ae h
  exact bz rfl rfl
 replace h := ifF hc12 h
 refine gv hF (au rfl rfl hc12) ?_
 refine gv hF oM ?_
 refine gv hF (oB (kW)) ?_
 refine gv hF (am rfl rfl rfl) ?_
 refine sn ?_
 refine bK hF rfl (fun hc13 => ?_) (fun hc13 => ?_)
 ·replace h := ifT hc13 h
  refine sr hF ?_
  refine gv hF oA ?_
  refine sn ?_
  refine Sm.ret ?_
  obtain rfl := ae h
  exact bz rfl rfl
 replace h := ifF hc13 h
 refine sk ?_
 refine sr hF ?_
 refine gv hF (oF (aA pZ)) ?_
 refine gv hF (oL (bY rfl rfl ag3 rfl)) ?_
 refine gv hF (oF (aA pZ)) ?_
 refine SmG.store hF rfl rfl rfl rfl rfl (cC (rows' := [[.i x11.1.version, .i x9.1.index, .i x11.1.count, .l x11.1.pos.at_, .l x11.1.pos.h0, .l x11.1.pos.h1, .i x11.1.pos.rights, .i x11.1.pos.side, .i x11.1.entry.out, .i x11.1.entry.n, .d (.list 32 (x11.1.proof.map aJ) false)]]) rfl rfl rfl sz3 rfl rfl rfl) ?_
 refine sn ?_
 refine sr hF ?_
 refine gv hF (oF (aA nW)) ?_
 refine gv hF (oL (bY rfl rfl ag3 rfl)) ?_
 refine gv hF (oF (aA nW)) ?_
 refine SmG.store hF rfl rfl rfl rfl rfl (cC (rows' := [[.i x11.1.version, .i x9.1.index, .i x9.1.count, .l x11.1.pos.at_, .l x11.1.pos.h0, .l x11.1.pos.h1, .i x11.1.pos.rights, .i x11.1.pos.side, .i x11.1.entry.out, .i x11.1.entry.n, .d (.list 32 (x11.1.proof.map aJ) false)]]) rfl rfl rfl sz3 rfl rfl rfl) ?_
 refine sn ?_
 refine Sm.seq ?_
 obtain ⟨v16, hv16, h⟩ := aa h
 refine dk ⟨[(5, .d (.ptr 4 [.v (.int .u8 (a2.1.toNat : Int)), .v (.int .u8 (a2.2.1.toNat : Int)), .v (.int .u8 (a2.2.2.1.toNat : Int)), .v (.int .u8 (a2.2.2.2.toNat : Int))])), (7, .d (.v (.bool x1))), (12, .ref 0 0 0), (14, .ref 1 0 0), (16, .ref 2 0 0)], [(2, ⟨11, [[.i x11.1.version, .i x9.1.index, .i x9.1.count, .l x11.1.pos.at_, .l x11.1.pos.h0, .l x11.1.pos.h1, .i x11.1.pos.rights, .i x11.1.pos.side, .i x11.1.entry.out, .i x11.1.entry.n, .d (.list 32 (v16.map aJ) false)]]⟩), (1, ⟨11, [[.i x9.1.version, .i x9.1.index, .i x9.1.count, .l x9.1.pos.at_, .l x9.1.pos.h0, .l x9.1.pos.h1, .i x9.1.pos.rights, .i x9.1.pos.side, .i x9.1.entry.out, .i x9.1.entry.n, .d (.list 32 (x9.1.proof.map aJ) false)]]⟩), (0, ⟨32, [(aJ x6).map V.d]⟩)], 3⟩ ?_ ?_
 ·replace h := hv16
  refine sr hF ?_
  refine gv hF (oI (ci u59 sz5 rfl rfl)) ?_
  refine gv hF (oL (lP1 ag5 rfl)) ?_
  obtain ⟨x14, hx14, h⟩ := aa h
  refine gv hF (oB (bJ hx14)) ?_
  refine gv hF (oB (cK)) ?_
  refine sn ?_
  refine aF hF rfl (fun hc15 => ?_) (fun hc15 => ?_)
  ·replace h := ifF hc15 h
   refine Sm.skip ?_
   obtain rfl := ae h
   exact (kA)
  replace h := ifT hc15 h
  refine ab hF rfl ?_
  refine gv hF (oF (aA nN)) ?_
  refine gv hF (oL (bY rfl rfl tv rfl)) ?_
  refine gv hF (oF (aA nN)) ?_
  refine SmG.store hF rfl rfl rfl rfl rfl (cC (rows' := [[.i x11.1.version, .i x9.1.index, .i x9.1.count, .l x11.1.pos.at_, .l x11.1.pos.h0, .l x11.1.pos.h1, .i x11.1.pos.rights, .i x11.1.pos.side, .i x11.1.entry.out, .i x11.1.entry.n, .d (.list 32 (x9.1.proof.map aJ) false)]]) rfl rfl rfl Ab rfl rfl rfl) ?_
  refine SmG.nil ?_
  obtain rfl := ae h
  exact (kA)
 refine Sm.seq ?_
 obtain ⟨v19, hv19, h⟩ := aa h
 refine dk ⟨[(7, .d (.v (.bool x1))), (12, .ref 0 0 0), (14, .ref 1 0 0), (16, .ref 2 0 0)], [(2, ⟨11, [[.i x11.1.version, .i x9.1.index, .i x9.1.count, .l v19.1, .l v19.2.1, .l v19.2.2.1, .i v19.2.2.2.1, .i v19.2.2.2.2, .i x11.1.entry.out, .i x11.1.entry.n, .d (.list 32 (v16.map aJ) false)]]⟩), (1, ⟨11, [[.i x9.1.version, .i x9.1.index, .i x9.1.count, .l x9.1.pos.at_, .l x9.1.pos.h0, .l x9.1.pos.h1, .i x9.1.pos.rights, .i x9.1.pos.side, .i x9.1.entry.out, .i x9.1.entry.n, .d (.list 32 (x9.1.proof.map aJ) false)]]⟩), (0, ⟨32, [(aJ x6).map V.d]⟩)], 3⟩ ?_ ?_
 ·replace h := hv19
  refine sr hF ?_
  refine gv hF (oI (ci u59 sz5 rfl rfl)) ?_
  refine gv hF (oL (lP1 ag5 rfl)) ?_
  obtain ⟨x17, hx17, h⟩ := aa h
  refine gv hF (oB (bJ hx17)) ?_
  refine gv hF (oB (cK)) ?_
  refine sn ?_
  refine aF hF rfl (fun hc18 => ?_) (fun hc18 => ?_)
  ·replace h := ifF hc18 h
   refine Sm.skip ?_
   obtain rfl := ae h
   exact (kA)
  replace h := ifT hc18 h
  refine ab hF rfl ?_
  refine gv hF (oF (aA lu)) ?_
  refine gv hF (x := .d (.agg 5 [.l x9.1.pos.at_, .l x9.1.pos.h0, .l x9.1.pos.h1, .i x9.1.pos.rights, .i x9.1.pos.side])) (oL (aE rfl rfl gu d9 rfl rfl)) ?_
  refine gv hF (oF (aA lu)) ?_
  refine SmG.store hF rfl rfl rfl rfl rfl (ba (ys := [.l x9.1.pos.at_, .l x9.1.pos.h0, .l x9.1.pos.h1, .i x9.1.pos.rights, .i x9.1.pos.side]) (r := [.i x11.1.version, .i x9.1.index, .i x9.1.count, .l x11.1.pos.at_, .l x11.1.pos.h0, .l x11.1.pos.h1, .i x11.1.pos.rights, .i x11.1.pos.side, .i x11.1.entry.out, .i x11.1.entry.n, .d (.list 32 (v16.map aJ) false)]) (rows' := [[.i x11.1.version, .i x9.1.index, .i x9.1.count, .l x9.1.pos.at_, .l x9.1.pos.h0, .l x9.1.pos.h1, .i x9.1.pos.rights, .i x9.1.pos.side, .i x11.1.entry.out, .i x11.1.entry.n, .d (.list 32 (v16.map aJ) false)]]) rfl rfl rfl d9 rfl rfl rfl rfl rfl) ?_
  refine SmG.nil ?_
  obtain rfl := ae h
  exact (kA)
 refine Sm.seq ?_
 refine sr hF ?_
 refine gv hF (x := .d (.agg 32 (aJ x6))) (oL (fZ rfl fG cP)) ?_
 refine gv hF (x := .d (.agg 11 [.i x9.1.version, .i x9.1.index, .i x9.1.count, .l x9.1.pos.at_, .l x9.1.pos.h0, .l x9.1.pos.h1, .i x9.1.pos.rights, .i x9.1.pos.side, .i x9.1.entry.out, .i x9.1.entry.n, .list 32 (x9.1.proof.map aJ) false])) (oL (aE rfl rfl i9 gl rfl rfl)) ?_
 obtain ⟨x20, hx20, h⟩ := aa h
 refine cS hF (eE hx20) ?_
 refine gv hF (jB rfl rfl (kd _)) ?_
 rcases iE (!x20) with hc21 | hc21
 ·replace h := ifT hc21 h
  refine gv hF (au rfl rfl hc21) ?_
  refine gp hF ?_
  refine gp hF ?_
  refine gp hF ?_
  refine gp hF ?_
  refine gv hF (aH rfl rfl rfl) ?_
  refine sn ?_
  refine ca hF rfl ?_
  refine sr hF ?_
  refine gv hF oM ?_
  rcases bx x1 with hc22 | hc22
  ·replace h := ifF hc22 h
   refine gv hF (au rfl rfl hc22) ?_
   refine gp hF ?_
   refine gp hF ?_
   refine gp hF ?_
   refine gv hF (am rfl rfl rfl) ?_
   refine gv hF oA ?_
   refine sn ?_
   refine Sm.ret ?_
   obtain rfl := ae h
   exact bz rfl rfl
  replace h := ifT hc22 h
  refine gv hF (au rfl rfl hc22) ?_
  refine gv hF (x := .d (.agg 32 (aJ x6))) (oL (fZ rfl fG cP)) ?_
  refine gv hF (x := .d (.agg 11 [.i x9.1.version, .i x9.1.index, .i x9.1.count, .l x9.1.pos.at_, .l x9.1.pos.h0, .l x9.1.pos.h1, .i x9.1.pos.rights, .i x9.1.pos.side, .i x9.1.entry.out, .i x9.1.entry.n, .list 32 (x9.1.proof.map aJ) false])) (oL (aE rfl rfl i9 gl rfl rfl)) ?_
  obtain ⟨x23, hx23, h⟩ := aa h
  refine cS hF (eE hx23) ?_
  refine gv hF (aH rfl rfl rfl) ?_
  refine gv hF oA ?_
  refine sn ?_
  refine Sm.ret ?_
  obtain rfl := ae h
  exact bz rfl rfl
 replace h := ifF hc21 h
 refine gv hF (au rfl rfl hc21) ?_
 refine gv hF (x := .d (.agg 32 (aJ x6))) (oL (fZ rfl fG cP)) ?_
 refine gv hF (x := .d (.agg 11 [.i x11.1.version, .i x9.1.index, .i x9.1.count, .l v19.1, .l v19.2.1, .l v19.2.2.1, .i v19.2.2.2.1, .i v19.2.2.2.2, .i x11.1.entry.out, .i x11.1.entry.n, .list 32 (v16.map aJ) false])) (oL (aE rfl rfl i9 gl rfl rfl)) ?_
 obtain ⟨x24, hx24, h⟩ := aa h
 refine cS hF (eE hx24) ?_
 refine gv hF (jB rfl rfl (kd _)) ?_
 refine gv hF (am rfl rfl rfl) ?_
 refine sn ?_
 refine bK hF rfl (fun hc25 => ?_) (fun hc25 => ?_)
 ·replace h := ifT hc25 h
  refine sr hF ?_
  refine gv hF oM ?_
  rcases bx x1 with hc26 | hc26
  ·replace h := ifF hc26 h
   refine gv hF (au rfl rfl hc26) ?_
   refine gp hF ?_
   refine gp hF ?_
   refine gp hF ?_
   refine gv hF (am rfl rfl rfl) ?_
   refine gv hF oA ?_
   refine sn ?_
   refine Sm.ret ?_
   obtain rfl := ae h
   exact bz rfl rfl
  replace h := ifT hc26 h
  refine gv hF (au rfl rfl hc26) ?_
  refine gv hF (x := .d (.agg 32 (aJ x6))) (oL (fZ rfl fG cP)) ?_
  refine gv hF (x := .d (.agg 11 [.i x9.1.version, .i x9.1.index, .i x9.1.count, .l x9.1.pos.at_, .l x9.1.pos.h0, .l x9.1.pos.h1, .i x9.1.pos.rights, .i x9.1.pos.side, .i x9.1.entry.out, .i x9.1.entry.n, .list 32 (x9.1.proof.map aJ) false])) (oL (aE rfl rfl i9 gl rfl rfl)) ?_
  obtain ⟨x27, hx27, h⟩ := aa h
  refine cS hF (eE hx27) ?_
  refine gv hF (aH rfl rfl rfl) ?_
  refine gv hF oA ?_
  refine sn ?_
  refine Sm.ret ?_
  obtain rfl := ae h
  exact bz rfl rfl
 replace h := ifF hc25 h
 refine sk ?_
 refine sr hF ?_
 refine gv hF (oF (aA lu)) ?_
 refine gv hF (x := .d (.agg 5 [.l x9.1.pos.at_, .l x9.1.pos.h0, .l x9.1.pos.h1, .i x9.1.pos.rights, .i x9.1.pos.side])) (oL (aE rfl rfl gu d9 rfl rfl)) ?_
 refine gv hF (oF (aA lu)) ?_
 refine gv hF (x := .d (.agg 5 [.l v19.1, .l v19.2.1, .l v19.2.2.1, .i v19.2.2.2.1, .i v19.2.2.2.2])) (oL (aE rfl rfl gu d9 rfl rfl)) ?_
 obtain ⟨x28, hx28, h⟩ := aa h
 refine cS hF (na hx28) ?_
 rcases bx x28 with hc29 | hc29
 ·replace h := ifF hc29 h
  refine gv hF (au rfl rfl hc29) ?_
  refine gp hF ?_
  refine gp hF ?_
  refine gp hF ?_
  refine gp hF ?_
  refine gp hF ?_
  refine gv hF (am rfl rfl rfl) ?_
  refine gv hF oA ?_
  refine sn ?_
  refine Sm.seq ?_
  refine aV hF (by kernel_rfl) rfl 7 (by kernel_rfl) (by kernel_rfl) ?_
  simp only [List.take_succ_cons, List.take_zero, List.take_nil]
  refine hv hF oM ?_
  rcases bx x1 with hc35 | hc35
  ·replace h := ifF hc35 h
   refine hv hF (au rfl rfl hc35) ?_
   refine hp hF ?_
   refine hp hF ?_
   refine hp hF ?_
   refine hp hF ?_
   refine hp hF ?_
   refine ag.last ⟨rfl, ?_⟩
   simp only [List.drop_succ_cons, List.drop_zero, List.drop_nil, List.nil_append, List.cons_append]
   refine gp hF ?_
   refine gp hF ?_
   refine gp hF ?_
   refine gv hF (am rfl rfl rfl) ?_
   refine gv hF oA ?_
   refine sn ?_
   refine Sm.ret ?_
   obtain rfl := ae h
   exact bz rfl rfl
  replace h := ifT hc35 h
  refine hv hF (au rfl rfl hc35) ?_
  refine hv hF oM ?_
  refine hv hF oM ?_
  refine hv hF (x := .d (.agg 11 [.i x9.1.version, .i x9.1.index, .i x9.1.count, .l x9.1.pos.at_, .l x9.1.pos.h0, .l x9.1.pos.h1, .i x9.1.pos.rights, .i x9.1.pos.side, .i x9.1.entry.out, .i x9.1.entry.n, .list 32 (x9.1.proof.map aJ) false])) (oL (aE rfl rfl i9 gl rfl rfl)) ?_
  obtain ⟨x36, hx36, h⟩ := aa h
  refine cH hF (fP hx36) ?_
  refine hv hF (x := .d (.agg 11 [.i x11.1.version, .i x9.1.index, .i x9.1.count, .l v19.1, .l v19.2.1, .l v19.2.2.1, .i v19.2.2.2.1, .i v19.2.2.2.2, .i x11.1.entry.out, .i x11.1.entry.n, .list 32 (v16.map aJ) false])) (oL (aE rfl rfl i9 gl rfl rfl)) ?_
  refine ag.last ⟨rfl, ?_⟩
  simp only [List.drop_succ_cons, List.drop_zero, List.drop_nil, List.nil_append, List.cons_append]
  obtain ⟨x37, hx37, h⟩ := aa h
  refine cS hF (fP hx37) ?_
  obtain ⟨x38, hx38, h⟩ := aa h
  refine cS hF (jE hx38) ?_
  refine gv hF (am rfl rfl rfl) ?_
  refine gv hF (aH rfl rfl rfl) ?_
  refine gv hF oA ?_
  refine sn ?_
  refine Sm.ret ?_
  obtain rfl := ae h
  exact bz rfl rfl
 replace h := ifT hc29 h
 refine gv hF (au rfl rfl hc29) ?_
 refine gv hF (oF (aA ow)) ?_
 refine gv hF (x := .d (.agg 2 [.i x9.1.entry.out, .i x9.1.entry.n])) (oL (aE rfl rfl jY gL rfl rfl)) ?_
 refine gv hF (oF (aA ow)) ?_
 refine gv hF (x := .d (.agg 2 [.i x11.1.entry.out, .i x11.1.entry.n])) (oL (aE rfl rfl jY gL rfl rfl)) ?_
 refine gv hF (ir rfl rfl rfl (wH (ds := [.int .i64, .int .i64]) (by kernel_rfl) (by kernel_rfl) rfl)) ?_
 refine gv hF (aH rfl rfl rfl) ?_
 refine gv hF oA ?_
 refine sn ?_
 refine Sm.seq ?_
 refine aV hF (by kernel_rfl) rfl 7 (by kernel_rfl) (by kernel_rfl) ?_
 simp only [List.take_succ_cons, List.take_zero, List.take_nil]
 refine hv hF oM ?_
 rcases bx x1 with hc30 | hc30
 ·replace h := ifF hc30 h
  refine hv hF (au rfl rfl hc30) ?_
  refine hp hF ?_
  refine hp hF ?_
  refine hp hF ?_
  refine hp hF ?_
  refine hp hF ?_
  refine ag.last ⟨rfl, ?_⟩
  simp only [List.drop_succ_cons, List.drop_zero, List.drop_nil, List.nil_append, List.cons_append]
  refine gp hF ?_
  refine gp hF ?_
  refine gp hF ?_
  refine gv hF (am rfl rfl rfl) ?_
  refine gv hF oA ?_
  refine sn ?_
  refine Sm.ret ?_
  obtain rfl := ae h
  exact bz rfl rfl
 replace h := ifT hc30 h
 refine hv hF (au rfl rfl hc30) ?_
 refine hv hF oM ?_
 rcases iE ((x9.1.entry.out == x11.1.entry.out) && ((x9.1.entry.n == x11.1.entry.n) && true)) with hc31 | hc31
 ·replace h := ifT hc31 h
  refine hv hF (au rfl rfl hc31) ?_
  refine hp hF ?_
  refine hp hF ?_
  refine hp hF ?_
  refine ag.last ⟨rfl, ?_⟩
  simp only [List.drop_succ_cons, List.drop_zero, List.drop_nil, List.nil_append, List.cons_append]
  refine gp hF ?_
  refine gp hF ?_
  refine gv hF (aH rfl rfl rfl) ?_
  refine gv hF (aH rfl rfl rfl) ?_
  refine gv hF oA ?_
  refine sn ?_
  refine Sm.ret ?_
  obtain rfl := ae h
  exact bz rfl rfl
 replace h := ifF hc31 h
 refine hv hF (au rfl rfl hc31) ?_
 refine hv hF (x := .d (.agg 11 [.i x9.1.version, .i x9.1.index, .i x9.1.count, .l x9.1.pos.at_, .l x9.1.pos.h0, .l x9.1.pos.h1, .i x9.1.pos.rights, .i x9.1.pos.side, .i x9.1.entry.out, .i x9.1.entry.n, .list 32 (x9.1.proof.map aJ) false])) (oL (aE rfl rfl i9 gl rfl rfl)) ?_
 obtain ⟨x32, hx32, h⟩ := aa h
 refine cH hF (fP hx32) ?_
 refine hv hF (x := .d (.agg 11 [.i x11.1.version, .i x9.1.index, .i x9.1.count, .l v19.1, .l v19.2.1, .l v19.2.2.1, .i v19.2.2.2.1, .i v19.2.2.2.2, .i x11.1.entry.out, .i x11.1.entry.n, .list 32 (v16.map aJ) false])) (oL (aE rfl rfl i9 gl rfl rfl)) ?_
 refine ag.last ⟨rfl, ?_⟩
 simp only [List.drop_succ_cons, List.drop_zero, List.drop_nil, List.nil_append, List.cons_append]
 obtain ⟨x33, hx33, h⟩ := aa h
 refine cS hF (fP hx33) ?_
 obtain ⟨x34, hx34, h⟩ := aa h
 refine cS hF (jE hx34) ?_
 refine gv hF (am rfl rfl rfl) ?_
 refine gv hF (aH rfl rfl rfl) ?_
 refine gv hF oA ?_
 refine sn ?_
 refine Sm.ret ?_
 obtain rfl := ae h
 exact bz rfl rfl
end
section
open Go.RowKit
set_option maxRecDepth 100000
theorem lS (a b : Int) : Ok (cM a b) fun v => (v = 0 ↔ a = b) := by
 unfold cM
 refine Ok.cond (fun h => Ok.ret ?_) fun h => Ok.cond (fun h2 => Ok.ret ?_) fun h2 => Ok.ret ?_
 all_goals simp only [decide_eq_true_eq, decide_eq_false_iff_not] at h
 ·omega
 ·simp only [decide_eq_true_eq] at h2; omega
 ·simp only [decide_eq_false_iff_not] at h2; omega
theorem qY (a b : List Int) (ha : a.length ≤ 9223372036854775807) : Ok (dO a b) fun v => (v = 0 ↔ a = b) := by
 unfold dO
 refine Ok.bind (P := fun o => match o with | .inl () => a.take (min a.length b.length) = b.take (min a.length b.length) | .inr v => v ≠ 0 ∧ a ≠ b) ?_ ?_
 ·refine Ok.loop (fun s : Int => ∃ i : Nat, s = i ∧ i ≤ a.length ∧ i ≤ b.length ∧ a.take i = b.take i) (fun s : Int => a.length - s.toNat) ⟨0, rfl, by omega, by omega, by simp⟩ ?_
  rintro _ ⟨i, rfl, h1, h2, h3⟩
  unfold dL
  refine Ok.cond (fun c1 => ?_) fun c1 => Ok.ret ?_
  ·refine Ok.cond (fun c2 => ?_) fun c2 => Ok.ret ?_
   ·simp only [decide_eq_true_eq] at c1 c2
    have ea : a[i]? = some (a[i]'(by omega)) := List.getElem?_eq_getElem _
    have eb : b[i]? = some (b[i]'(by omega)) := List.getElem?_eq_getElem _
    generalize a[i]'(by omega) = x at ea
    generalize b[i]'(by omega) = y at eb
    simp only [fQ, ea, eb, ah]
    refine Ok.cond (fun c3 => ?_) fun c3 => ?_
    ·refine Ok.bind (lS x y) fun v hv => Ok.ret ?_
     have hxy : x ≠ y := by simpa using c3
     exact ⟨fun h => hxy (hv.1 h), fun h => by subst h; rw [ea] at eb; exact hxy (Option.some.inj eb)⟩
    ·have hxy : x = y := by simpa using c3
     rw [aT (by omega), ah]
     refine Ok.ret ⟨⟨i + 1, by omega, by omega, by omega, ?_⟩, by omega⟩
     rw [List.take_add_one, List.take_add_one, ea, eb, h3, hxy]
   ·simp only [decide_eq_false_iff_not] at c2
    have : min a.length b.length = i := by omega
    simp only [this]; exact h3
  ·simp only [decide_eq_false_iff_not] at c1
   have : min a.length b.length = i := by omega
   simp only [this]; exact h3
 ·rintro (⟨⟩ | v) h
  ·refine Ok.bind (lS _ _) fun v hv => Ok.ret ?_
   simp only at h
   rw [hv]
   constructor
   ·intro e
    have e : a.length = b.length := by omega
    rw [e, Nat.min_self, List.take_length] at h
    rw [← e, List.take_length] at h
    exact h
   ·intro e; rw [e]
  ·exact Ok.ret ⟨fun e => absurd e h.1, fun e => absurd e h.2⟩
structure PsFit (p : Ps) : Prop where
 a : p.at_.length ≤ 9223372036854775807
 b : p.h0.length ≤ 9223372036854775807
 c : p.h1.length ≤ 9223372036854775807
theorem vp (p q : Ps) (hp : PsFit p) : Ok (eU p q) fun v => (v = 0 ↔ p = q) := by
 unfold eU
 refine Ok.bind (qY _ _ hp.a) fun v1 h1 => ?_
 refine Ok.bind (qY _ _ hp.b) fun v2 h2 => ?_
 refine Ok.bind (qY _ _ hp.c) fun v3 h3 => ?_
 refine Ok.bind (lS _ _) fun v4 h4 => ?_
 refine Ok.bind (lS _ _) fun v5 h5 => ?_
 have hpq : p = q ↔ v1 = 0 ∧ v2 = 0 ∧ v3 = 0 ∧ v4 = 0 ∧ v5 = 0 := by
  rw [h1, h2, h3, h4, h5]
  obtain ⟨a, b, c, d, e⟩ := p
  obtain ⟨a', b', c', d', e'⟩ := q
  simp only [Ps.mk.injEq]
 rw [hpq]
 refine Ok.bind (P := fun o => match o with | .inl () => ∀ i, i < 5 → [v1, v2, v3, v4, v5][i]? = some 0 | .inr v => v ≠ 0 ∧ v ∈ [v1, v2, v3, v4, v5]) ?_ ?_
 ·refine Ok.loop (fun s : Int => ∃ i : Nat, s = i ∧ i ≤ 5 ∧ ∀ j, j < i → [v1, v2, v3, v4, v5][j]? = some 0) (fun s : Int => 5 - s.toNat) ⟨0, rfl, by omega, fun j h => by omega⟩ ?_
  rintro _ ⟨i, rfl, hi, hall⟩
  unfold cZ
  refine Ok.cond (fun c1 => ?_) fun c1 => Ok.ret ?_
  ·simp only [decide_eq_true_eq, List.length_cons, List.length_nil] at c1
   have hi5 : i < [v1, v2, v3, v4, v5].length := by simp only [List.length_cons, List.length_nil]; omega
   have e : [v1, v2, v3, v4, v5][i]? = some ([v1, v2, v3, v4, v5][i]'hi5) := List.getElem?_eq_getElem _
   generalize [v1, v2, v3, v4, v5][i]'hi5 = x at e
   simp only [fQ, e, ah]
   refine Ok.cond (fun c2 => Ok.ret ⟨by simpa using c2, List.mem_of_getElem? e⟩) fun c2 => ?_
   rw [aT (by omega), ah]
   refine Ok.ret ⟨⟨i + 1, by omega, by omega, fun j hj => ?_⟩, by omega⟩
   rcases Nat.lt_or_ge j i with h | h
   ·exact hall j h
   ·obtain rfl : j = i := by omega
    rw [e]; simpa using c2
  ·simp only [decide_eq_false_iff_not, List.length_cons, List.length_nil] at c1
   intro j hj; exact hall j (by omega)
 ·rintro (⟨⟩ | v) h
  ·refine Ok.ret ?_
   simp only at h
   have g0 := h 0 (by omega); have g1 := h 1 (by omega); have g2 := h 2 (by omega); have g3 := h 3 (by omega); have g4 := h 4 (by omega)
   simp at g0 g1 g2 g3 g4
   simp [g0, g1, g2, g3, g4]
  ·refine Ok.ret ⟨fun e => absurd e h.1, fun e => ?_⟩
   obtain ⟨e1, e2, e3, e4, e5⟩ := e
   have := h.2
   simp [e1, e2, e3, e4, e5] at this
   exact this
theorem zj (p q : Ps) (hp : PsFit p) : fC p q = some (decide (p = q)) := by
 unfold fC
 obtain ⟨v, h1, h2⟩ := vp p q hp
 rw [gB h1]
 congr 1
 rw [Bool.eq_iff_iff]
 simp [h2]
end
section
open Go.RowKit
set_option maxRecDepth 100000
theorem mU {α : Type} (ls : List (List α)) (i : Nat) (x : List α) (h : ls[i]? = some x) : (ls.take (i + 1)).flatten.length = (ls.take i).flatten.length + x.length ∧ (ls.take (i + 1)).flatten = (ls.take i).flatten ++ x := by
 have hi := (List.getElem?_eq_some_iff.1 h).1
 rw [List.take_add_one, h]; simp
theorem jv {α : Type} (ls : List (List α)) (i : Nat) : (ls.take i).flatten.length ≤ ls.flatten.length := by
 have := congrArg (fun l => l.flatten.length) (List.take_append_drop i ls)
 simp only [List.flatten_append, List.length_append] at this
 omega
theorem sD (n : Int) (h : 0 ≤ n ∧ n ≤ 4294967296) : ee [] n = some [] := by
 refine Ok.get ?_
 unfold ee
 refine Ok.cond (fun c => ?_) fun _ => ?_
 ·simp only [decide_eq_true_eq] at c; omega
 ·rw [aT (by omega), ah]
  refine Ok.cond (fun c => ?_) fun _ => Ok.ret rfl
  simp only [decide_eq_true_eq] at c
  have : qU (n - 0) = some (n - 0).toNat := if_pos (by omega)
  rw [this, ah]; exact Ok.ret rfl
theorem qV (ls : List (List Int)) (h : ls.flatten.length ≤ 4294967296) (hl : ls.length ≤ 4294967296) : dG ls = some ls.flatten := by
 unfold dG
 have h1 : bC (bX ls) (0, 0) = some (ls.flatten.length : Int) := by
  have := k7 (body := bX ls) (fun i => (((ls.take i).flatten.length : Nat), (i : Int))) ls.length (e := (ls.flatten.length : Int)) (fun i hi => by
   have hx : ls[i]? = some (ls[i]'hi) := List.getElem?_eq_getElem _
   generalize ls[i]'hi = x at hx
   have hle := jv ls (i + 1)
   have hst := (mU ls i x hx).1
   unfold bX
   simp only
   rw [j5 (by omega), cond_true, fQ, hx, ah, aT (by omega), ah, gD (by omega), cond_false, aT (by omega), ah, hst]
   rfl) (by
   unfold bX
   simp only [List.take_length]
   rw [gD (by omega), cond_false])
  simpa using this
 rw [gB h1, gB (sD _ (by omega))]
 have h2 : bC (bW ls) (0, []) = some ls.flatten := by
  have := k7 (body := bW ls) (fun i => ((i : Int), (ls.take i).flatten)) ls.length (e := ls.flatten) (fun i hi => by
   have hx : ls[i]? = some (ls[i]'hi) := List.getElem?_eq_getElem _
   generalize ls[i]'hi = x at hx
   have hle := jv ls (i + 1)
   obtain ⟨hst, hst2⟩ := mU ls i x hx
   unfold bW
   simp only
   rw [j5 (by omega), cond_true, fQ, hx, ah, b7 (by omega), ah, aT (by omega), ah, hst2]
   rfl) (by
   unfold bW
   simp only [List.take_length]
   rw [gD (by omega), cond_false])
  simpa using this
 rw [gB h2]
theorem qL (n : Int) (h : 0 ≤ n ∧ n ≤ 4294967296) : dH [] n = some [] := by
 refine Ok.get ?_
 unfold dH
 refine Ok.cond (fun c => ?_) fun _ => ?_
 ·simp only [decide_eq_true_eq] at c; omega
 ·rw [aT (by omega), ah]
  refine Ok.cond (fun c => ?_) fun _ => Ok.ret rfl
  simp only [decide_eq_true_eq] at c
  have : qU (n - 0) = some (n - 0).toNat := if_pos (by omega)
  rw [this, ah]; exact Ok.ret rfl
theorem pu (ls : List (List UInt8)) (h : ls.flatten.length ≤ 4294967296) (hl : ls.length ≤ 4294967296) : dh ls = some ls.flatten := by
 unfold dh
 have h1 : bC (bO ls) (0, 0) = some (ls.flatten.length : Int) := by
  have := k7 (body := bO ls) (fun i => (((ls.take i).flatten.length : Nat), (i : Int))) ls.length (e := (ls.flatten.length : Int)) (fun i hi => by
   have hx : ls[i]? = some (ls[i]'hi) := List.getElem?_eq_getElem _
   generalize ls[i]'hi = x at hx
   have hle := jv ls (i + 1)
   have hst := (mU ls i x hx).1
   unfold bO
   simp only
   rw [j5 (by omega), cond_true, fQ, hx, ah, aT (by omega), ah, gD (by omega), cond_false, aT (by omega), ah, hst]
   rfl) (by
   unfold bO
   simp only [List.take_length]
   rw [gD (by omega), cond_false])
  simpa using this
 rw [gB h1, gB (qL _ (by omega))]
 have h2 : bC (bN ls) (0, []) = some ls.flatten := by
  have := k7 (body := bN ls) (fun i => ((i : Int), (ls.take i).flatten)) ls.length (e := ls.flatten) (fun i hi => by
   have hx : ls[i]? = some (ls[i]'hi) := List.getElem?_eq_getElem _
   generalize ls[i]'hi = x at hx
   have hle := jv ls (i + 1)
   obtain ⟨hst, hst2⟩ := mU ls i x hx
   unfold bN
   simp only
   rw [j5 (by omega), cond_true, fQ, hx, ah, b7 (by omega), ah, aT (by omega), ah, hst2]
   rfl) (by
   unfold bN
   simp only [List.take_length]
   rw [gD (by omega), cond_false])
  simpa using this
 rw [gB h2]
theorem An (n : Int) : w8 n = ic n := rfl
theorem vf (p : Ps) (h : p.at_.length ≤ 1000000000) (h0 : p.h0.length ≤ 1000000000) (h1 : p.h1.length ≤ 1000000000) : eH p = some (iz p) := by
 unfold eH iz
 rw [b7 (by simp; omega), ah, b7 (by simp; omega), ah, b7 (by simp; omega), ah, b7 (by simp; omega), ah]
 simp
theorem pw {body : (Int × List UInt8) → Option ((Int × List UInt8) ⊕ List UInt8)} (l : List Int) (hl : l.length ≤ 4294967295)
  (hb : ∀ s, body s = (bif (decide (s.1 < (l.length : Int))) then (ob (idx l s.1) fun x => ob (app s.2 [(w8 x)]) fun y => ob (arI .i64 (s.1 + 1)) fun z => some (.inl (z, y))) else some (.inr s.2))) : bC body (0, []) = some (l.map ic) :=
 l6 l ic (fun i x acc hx hacc => by
  have hi := (List.getElem?_eq_some_iff.1 hx).1
  rw [hb]
  simp only
  rw [j5 (by omega), cond_true, fQ, hx, ah, b7 (by simp; omega), ah, aT (by omega), ah]; rfl) (fun acc => by
  rw [hb]; simp only
  rw [gD (by omega), cond_false])
theorem wV (p : Ps) (h : p.at_.length ≤ 1000000000) (h0 : p.h0.length ≤ 1000000000) (h1 : p.h1.length ≤ 1000000000) : ga p = some (m7 p) := by
 unfold ga
 rw [vf p h h0 h1, ah, pw (body := gc (iz p)) (iz p) (by simp [iz]; omega) (fun s => rfl), ah]; rfl
theorem zH (p : Ps) (h : p.at_.length ≤ 1000000000) (h0 : p.h0.length ≤ 1000000000) (h1 : p.h1.length ≤ 1000000000) : kf p = some (m7 p) := by
 unfold kf
 rw [qV _ (by simp; omega) (by simp), ah]
 have : [p.at_, p.h0, p.h1, [p.rights, p.side]].flatten = iz p := by simp [iz]
 rw [this, pw (body := jp (iz p)) (iz p) (by simp [iz]; omega) (fun s => rfl), ah]; rfl
theorem sb (l : List Int) (h : l.length ≤ 4294967295) : gj l = some (l.map ic) := by
 unfold gj
 rw [pw (body := gP l) l h (fun s => rfl), ah]
structure PsB (p : Ps) : Prop where
 a : p.at_.length ≤ 1000000000
 b : p.h0.length ≤ 1000000000
 c : p.h1.length ≤ 1000000000
theorem PsB.fit {p : Ps} (h : PsB p) : PsFit p := ⟨by have := h.a; omega, by have := h.b; omega, by have := h.c; omega⟩
theorem sL (p : Ps) : (m7 p).length = p.at_.length + p.h0.length + p.h1.length + 2 := by simp [m7, iz]; omega
theorem qJ (p : Ps) (r : Rs) (h : PsB p) : fY p r = some (cV p r) := by
 have ha := h.a
 have hb := h.b
 have hc := h.c
 unfold fY
 have hk := sL p
 rw [sb _ (by simp), ah, zH p h.a h.b h.c, ah, rk (by omega), ah, nr (by omega), ah, nr (by omega), ah, nr (by omega), ah, sb _ (by simp), ah, pu _ (by simp; omega) (by simp), ah]
 simp [cV, pg]
theorem mR (p : Ps) (r : Rs) (h : PsB p) : eQ p r = some (cV p r) := by
 have ha := h.a
 have hb := h.b
 have hc := h.c
 unfold eQ
 have hk := sL p
 rw [wV p h.a h.b h.c, ah, rk (by omega), ah, b7 (by simp; omega), ah, b7 (by simp; omega), ah]
 have hloop : bC (da r) (3, [w8 p.at_.length, w8 p.h0.length, w8 p.h1.length] ++ m7 p ++ [w8 r.out]) = some (cV p r) := by
  generalize hL : [w8 p.at_.length, w8 p.h0.length, w8 p.h1.length] ++ m7 p ++ [w8 r.out] = L
  have hLl : L.length ≤ 4000000000 := by rw [← hL]; simp; omega
  have step : ∀ (i : Int) (l : List UInt8), 0 ≤ i → i ≤ 3 → l.length ≤ 4000000010 → da r (i, l) = some (.inl (i - 1, l ++ [w8 (r.n / 2 ^ (8 * i).toNat)])) := fun i l h0 h3 hl => by
   unfold da
   simp only
   rw [Bi (by omega), cond_true, aT (by omega), ah, nr (by omega), ah, b7 (by simp; omega), ah, aT (by omega), ah]
  refine iQ (step 3 _ (by omega) (by omega) (by omega)) (iQ (step _ _ (by omega) (by omega) (by simp; omega)) (iQ (step _ _ (by omega) (by omega) (by simp; omega)) (iQ (step _ _ (by omega) (by omega) (by simp; omega)) (nd ?_))))
  unfold da
  simp only
  rw [yz (by omega), cond_false, ← hL]
  simp [cV, pg, An]
 rw [hloop, ah]
end
section
open Go.RowKit
set_option maxRecDepth 100000
structure BrdOk (b : Brd) : Prop where
 c1 : 1 ≤ b.cells
 c9 : b.cells ≤ 9
 nl : b.next.length = 8
 row : ∀ l ∈ b.next, (l.length : Int) = b.cells
 tl : b.turn.length = 8
theorem okT {α : Type} (v : α) : Ok (some v) fun _ => True := ⟨v, rfl, trivial⟩
theorem qG {a b : Int} (h : 0 < b) : Ok (cE a b) fun _ => True := ⟨_, if_neg (by omega), trivial⟩
theorem zm {w h : Int} (h1 : 1 ≤ w ∧ w ≤ 3) (h2 : 1 ≤ h ∧ h ≤ 3) : Ok (fI w h) fun r => BrdOk r.1 := by
 obtain ⟨n, hn, hn1, hn9⟩ : ∃ n : Int, w * h = n ∧ 1 ≤ n ∧ n ≤ 9 := by
  obtain rfl | rfl | rfl : w = 1 ∨ w = 2 ∨ w = 3 := by omega
  all_goals exact ⟨_, rfl, by omega, by omega⟩
 unfold fI
 rw [gD (by omega), cond_false, gD (by omega), cond_false, gD (by omega), cond_false, gD (by omega), cond_false, hn, aT (by omega), ah, gD (by omega), cond_false, ah]
 have hin : ∀ (d : Nat) (x : List (List Int)) (y : List Int), d < 8 → Ok (bC (eM w h ((d : Int), x, y)) (0, [])) fun l => (l.length : Int) = n := by
  intro d x y hd
  refine Ok.loop (fun s : Int × List Int => ∃ i : Nat, s.1 = i ∧ (i : Int) ≤ n ∧ s.2.length = i) (fun s => n.toNat - s.1.toNat) ⟨0, rfl, by omega, rfl⟩ ?_
  rintro ⟨_, acc⟩ ⟨i, rfl, hi, ha⟩
  unfold eM
  simp only at ha ⊢
  rw [hn, aT (by omega), ah]
  refine Ok.cond (fun c1 => ?_) fun c1 => Ok.ret (by simp only [decide_eq_false_iff_not] at c1; omega)
  simp only [decide_eq_true_eq] at c1
  have hv : ∀ l : List Int, l.length = 8 → (∀ x ∈ l, -1 ≤ x ∧ x ≤ 1) → ∃ v, idx l (d : Int) = some v ∧ -1 ≤ v ∧ v ≤ 1 := fun l hl hx => ⟨_, dw (by omega) (by omega), hx _ (List.getElem_mem _)⟩
  obtain ⟨a, ha1, ha2⟩ := hv [0, 1, 1, 1, 0, (-1), (-1), (-1)] rfl (by decide)
  obtain ⟨b, hb1, hb2⟩ := hv [(-1), (-1), 0, 1, 1, 1, 0, (-1)] rfl (by decide)
  have q1 := Int.emod_nonneg (i : Int) (b := w) (by omega)
  have q2 := Int.emod_lt_of_pos (i : Int) (b := w) (by omega)
  have q3 : 0 ≤ (i : Int) / w := Int.ediv_nonneg (by omega) (by omega)
  have q4 : (i : Int) / w ≤ i := Int.ediv_le_self _ (by omega)
  rw [bA (by omega) (by omega), ah, ha1, ah, aT (by omega), ah, sv (by omega) (by omega), ah, hb1, ah, aT (by omega), ah]
  refine Ok.bind (P := fun _ => True) ?_ fun v _ => ?_
  ·refine Ok.cond (fun _ => Ok.cond (fun _ => Ok.cond (fun k1 => Ok.cond (fun k2 => ?_) fun _ => okT _) fun _ => okT _) fun _ => okT _) fun _ => okT _
   simp only [decide_eq_true_eq] at k1 k2
   generalize (i : Int) / w + b = z at k1 k2 ⊢
   have : 0 ≤ z * w ∧ z * w ≤ 27 := by
    obtain rfl | rfl | rfl : w = 1 ∨ w = 2 ∨ w = 3 := by omega
    all_goals omega
   rw [aT (by omega), ah, aT (by omega), ah]
   exact okT _
  ·rw [b7 (by simp; omega), ah, aT (by omega), ah]
   exact Ok.ret ⟨⟨i + 1, by simp, by omega, by simp [ha]⟩, by simp only; omega⟩
 refine Ok.bind (P := fun r : List (List Int) × List Int => r.1.length = 8 ∧ r.2.length = 8 ∧ ∀ l ∈ r.1, (l.length : Int) = n) ?_ fun r hr => Ok.ret ⟨hn1, hn9, hr.1, hr.2.2, hr.2.1⟩
 refine Ok.loop (fun s : Int × List (List Int) × List Int => ∃ i : Nat, s.1 = i ∧ i ≤ 8 ∧ s.2.1.length = i ∧ s.2.2.length = i ∧ ∀ l ∈ s.2.1, (l.length : Int) = n) (fun s => 8 - s.1.toNat) ⟨0, rfl, by omega, rfl, rfl, fun _ h => by cases h⟩ ?_
 rintro ⟨_, x, y⟩ ⟨i, rfl, hi, hx, hy, hl⟩
 unfold fN
 simp only at hx hy hl ⊢
 refine Ok.cond (fun c1 => ?_) fun c1 => Ok.ret (by simp only [decide_eq_false_iff_not] at c1; simp only; exact ⟨by omega, by omega, hl⟩)
 simp only [decide_eq_true_eq] at c1
 refine Ok.bind (P := fun s : List (List Int) × List Int => s.1.length = i + 1 ∧ s.2.length = i + 1 ∧ ∀ l ∈ s.1, (l.length : Int) = n) ?_ fun s hs => ?_
 ·refine Ok.bind (hin i x y (by omega)) fun v hv => ?_
  rw [b7 (by simp; omega), ah, aT (by omega), ah, bA (by omega) (by omega), ah, b7 (by simp; omega), ah]
  refine Ok.ret ⟨by simp [hx], by simp [hy], fun l hl' => ?_⟩
  rcases List.mem_append.1 hl' with h | h
  ·exact hl l h
  ·rw [List.mem_singleton.1 h]; exact hv
 ·rw [aT (by omega), ah]
  exact Ok.ret ⟨⟨i + 1, by simp, by omega, hs.1, hs.2.1, hs.2.2⟩, by simp only; omega⟩
theorem va {b : Brd} {c : Int} (hb : BrdOk b) (hc0 : 0 ≤ c) (hc : c < b.cells) : Ok (eR b c) fun r => BrdOk r.1 := by
 obtain ⟨n, next, turn⟩ := b
 have h1 := hb.c1
 have h9 := hb.c9
 have hnl := hb.nl
 have hrow := hb.row
 have htl := hb.tl
 simp only at h1 h9 hnl hrow htl hc
 unfold eR
 simp only
 rw [gD (by omega), cond_false, yz (by omega), cond_false, b7 (by simp; omega), ah]
 have hin : ∀ (d : Nat) (x : List (List Int)), d < 8 → Ok (bC (dQ ⟨n, next, turn⟩ c ((d : Int), x)) (0, [])) fun l => (l.length : Int) = n := by
  intro d x hd
  refine Ok.loop (fun s : Int × List Int => ∃ i : Nat, s.1 = i ∧ (i : Int) ≤ n ∧ s.2.length = i) (fun s => n.toNat - s.1.toNat) ⟨0, rfl, by omega, rfl⟩ ?_
  rintro ⟨_, acc⟩ ⟨i, rfl, hi, ha⟩
  unfold dQ
  simp only at ha ⊢
  refine Ok.cond (fun c1 => ?_) fun c1 => Ok.ret (by simp only [decide_eq_false_iff_not] at c1; omega)
  simp only [decide_eq_true_eq] at c1
  have hr := hrow (next[d]) (List.getElem_mem _)
  rw [dw (by omega) (by omega), ah]
  refine fw (dw (by omega) (by show (i : Int) < (next[d].length : Int); omega)) ?_
  refine Ok.bind (P := fun _ => True) (Ok.cond (fun _ => okT _) fun _ => Ok.cond (fun _ => okT _) fun _ => okT _) fun v _ => ?_
  rw [b7 (by simp; omega), ah, aT (by omega), ah]
  exact Ok.ret ⟨⟨i + 1, by simp, by omega, by simp [ha]⟩, by simp only; omega⟩
 refine Ok.bind (P := fun r : List (List Int) => r.length = 8 ∧ ∀ l ∈ r, (l.length : Int) = n) ?_ fun r hr => Ok.ret ⟨h1, h9, hr.1, hr.2, by simpa using htl⟩
 refine Ok.loop (fun s : Int × List (List Int) => ∃ i : Nat, s.1 = i ∧ i ≤ 8 ∧ s.2.length = i ∧ ∀ l ∈ s.2, (l.length : Int) = n) (fun s => 8 - s.1.toNat) ⟨0, rfl, by omega, rfl, fun _ h => by cases h⟩ ?_
 rintro ⟨_, x⟩ ⟨i, rfl, hi, hx, hl⟩
 unfold eY
 simp only at hx hl ⊢
 refine Ok.cond (fun c1 => ?_) fun c1 => Ok.ret (by simp only [decide_eq_false_iff_not] at c1; exact ⟨by omega, hl⟩)
 simp only [decide_eq_true_eq] at c1
 refine Ok.bind (P := fun s : List (List Int) => s.length = i + 1 ∧ ∀ l ∈ s, (l.length : Int) = n) ?_ fun s hs => ?_
 ·refine Ok.bind (hin i x (by omega)) fun v hv => ?_
  rw [b7 (by simp; omega), ah]
  refine Ok.ret ⟨by simp [hx], fun l hl' => ?_⟩
  rcases List.mem_append.1 hl' with h | h
  ·exact hl l h
  ·rw [List.mem_singleton.1 h]; exact hv
 ·rw [aT (by omega), ah]
  exact Ok.ret ⟨⟨i + 1, by simp, by omega, hs.1, hs.2⟩, by simp only; omega⟩
theorem xU (a b c : UInt8) : Ok (fB a b c) BrdOk := by
 have ha := a.toNat_lt
 have hb := b.toNat_lt
 have hc := c.toNat_lt
 unfold fB
 rw [bA (by omega) (by omega), ah, aT (by omega), ah, aT (by omega), ah, bA (by omega) (by omega), ah, aT (by omega), ah, aT (by omega), ah]
 refine Ok.bind (zm (by omega) (by omega)) fun r hr => ?_
 refine Ok.bind (P := fun v : Int × List (List Int) × List Int => BrdOk ⟨v.1, v.2.1, v.2.2⟩) (Ok.cond (fun _ => ?_) fun _ => Ok.ret hr) fun v hv => Ok.ret hv
 have := hr.c1
 rw [bA (by omega) (by omega), ah]
 exact Ok.bind (va hr (Int.emod_nonneg _ (by omega)) (Int.emod_lt_of_pos _ (by omega))) fun v hv => Ok.ret hv
theorem pW (l : List UInt8) {i : Int} (hi : 0 ≤ i) : Ok (dn l i) fun v => 0 ≤ v ∧ v ≤ 255 := by
 unfold dn
 refine Ok.cond (fun c => ?_) fun _ => Ok.ret (by omega)
 simp only [decide_eq_true_eq] at c
 rw [dw hi c, ah]
 have := (l[i.toNat]'(by omega)).toNat_lt
 exact Ok.ret (by omega)
theorem Al (l : List UInt8) : Ok (gb l) fun r => r.length ≤ 6 := by
 unfold gb
 refine Ok.bind (pW l (by omega)) fun x1 g1 => ?_
 rw [bA (by omega) (by omega), ah]
 refine Ok.bind (pW l (by omega)) fun x3 g3 => ?_
 rw [bA (by omega) (by omega), ah]
 refine Ok.bind (pW l (by omega)) fun x5 g5 => ?_
 rw [bA (by omega) (by omega), ah]
 refine Ok.bind (pW l (by omega)) fun x7 g7 => ?_
 rw [bA (by omega) (by omega), ah, aT (by omega), ah, bA (by omega) (by omega), ah]
 refine Ok.bind (pW l (by omega)) fun x11 g11 => ?_
 have key : ∀ t : List (List Stp), t.length = 16 → (∀ r ∈ t, r.length ≤ 6) → Ok (ob (cE x11 (t.length : Int)) fun x12 => ob (idx t x12) fun x13 => some x13) fun r => r.length ≤ 6 := by
  intro t ht hr
  have ht' : ((t.length : Nat) : Int) = 16 := by omega
  rw [ht', bA (by omega) (by omega), ah, dw (by omega) (by omega), ah]
  exact Ok.ret (hr _ (List.getElem_mem _))
 refine key _ rfl ?_
 intro r hr
 simp only [List.mem_cons, List.not_mem_nil, or_false] at hr
 rcases hr with rfl | rfl | rfl | rfl | rfl | rfl | rfl | rfl | rfl | rfl | rfl | rfl | rfl | rfl | rfl | rfl <;> exact Nat.le_of_ble_eq_true rfl
theorem AH {a : List Stp} {d k r : Int} (ha : a.length ≤ 6) (hd : 0 < d) (hk : 0 < k) (hr : 0 ≤ r) : Ok (f6 a d k r) fun _ => True := by
 unfold f6
 refine Ok.bind (P := fun _ => True) ?_ fun v _ => Ok.cond (fun _ => okT _) fun _ => okT _
 refine Ok.loop (fun s : Int × List Stp => ∃ i : Nat, s.1 = i ∧ i ≤ a.length ∧ s.2.length ≤ i) (fun s => a.length - s.1.toNat) ⟨0, rfl, by omega, by simp⟩ ?_
 rintro ⟨_, acc⟩ ⟨i, rfl, hi, hl⟩
 unfold ge
 simp only at hl ⊢
 refine Ok.cond (fun c1 => ?_) fun _ => Ok.ret trivial
 simp only [decide_eq_true_eq] at c1
 refine Ok.bind (P := fun v : List Stp => v.length ≤ i + 1) ?_ fun v hv => ?_
 ·rw [dw (by omega) (by omega), ah]
  generalize a[(i : Int).toNat]'(by omega) = x
  have okL : ∀ z : Int, Ok (some (.inl z : Int ⊕ List Stp)) fun o => ∀ e, o = .inr e → e.length ≤ i := fun z => ⟨_, rfl, fun e h => by cases h⟩
  refine Ok.bind (P := fun o : Int ⊕ List Stp => ∀ e, o = .inr e → e.length ≤ i) ?_ fun o ho => ?_
  ·refine Ok.bind (P := fun _ => True) (Ok.cond (fun _ => okT _) fun _ => Ok.cond (fun _ => okT _) fun _ => okT _) fun _ _ => ?_
   refine Ok.cond (fun _ => Ok.bind (qG hd) fun _ _ => okL _) fun _ => Ok.cond (fun _ => Ok.bind (qG hk) fun _ _ => okL _) fun _ => ?_
   refine Ok.bind (P := fun _ => True) (Ok.cond (fun _ => okT _) fun _ => okT _) fun _ _ => ?_
   refine Ok.cond (fun _ => Ok.cond (fun _ => Ok.ret fun e h => by cases h; exact hl) fun c => ?_) fun _ => okL _
   simp only [beq_eq_false_iff_ne, ne_eq] at c
   exact Ok.bind (qG (by omega)) fun _ _ => okL _
  ·cases o with
   | inl v =>
    show Ok (ob (app acc [_]) _) _
    rw [b7 (by simp; omega), ah]
    exact Ok.ret (by simp; omega)
   | inr e => exact Ok.ret (by have := ho e rfl; omega)
 ·rw [aT (by omega), ah]
  exact Ok.ret ⟨⟨i + 1, by simp, by omega, hv⟩, by simp only; omega⟩
theorem uq (n : UInt8) {d k r : Int} (hd : 0 < d) (hk : 0 < k) (hr : 0 ≤ r) : Ok (eP n d k r) fun _ => True := by
 have hn := n.toNat_lt
 unfold eP
 rw [mG (by omega) (by omega), ah, ah, bA (by omega) (by omega), ah, wb (by omega), ah, mG (by omega) (by omega), ah]
 have hu : ∀ z : Int, 0 ≤ z ∧ z ≤ 255 → ∃ u, pH z = some u := fun z hz => ⟨_, if_pos hz⟩
 obtain ⟨u1, e1⟩ := hu ((n.toNat : Int) / 16) (by omega)
 obtain ⟨u2, e2⟩ := hu ((n.toNat : Int) / 16 + (n.toNat : Int) % 5) (by omega)
 obtain ⟨u3, e3⟩ := hu ((n.toNat : Int) / 3) (by omega)
 rw [e1, ah, e2, ah, e3, ah]
 exact Ok.bind (Al _) fun x9 h9 => Ok.bind (AH h9 hd hk hr) fun _ _ => okT _
end
section
open Go.RowKit
set_option maxRecDepth 100000
structure GmFine (g : Gm) : Prop where
 board : BrdOk g.board
 k1 : 1 ≤ g.kinds.length
 k2 : g.kinds.length ≤ 2
 r0 : 0 ≤ g.rights
 r2 : g.rights ≤ 2
theorem CH (x : GRaw) : Ok (fE x) GmFine := by
 unfold fE
 refine Ok.bind (xU x.w x.h x.cut) fun b hB => ?_
 have hnl := hB.nl
 have hc1 := hB.c1
 have h0 := x.f0.toNat_lt
 have h1 := x.f1.toNat_lt
 have h3 := x.f3.toNat_lt
 have h4 := x.f4.toNat_lt
 rw [bA (by omega) (by omega), ah, bA (by omega) (by omega), ah]
 obtain ⟨r, hr, hr0, hr2⟩ : ∃ r : Int, (x.f0.toNat : Int) % 3 = r ∧ 0 ≤ r ∧ r ≤ 2 := ⟨_, rfl, by omega, by omega⟩
 rw [hr]
 refine Ok.bind (P := fun v => v = 1 ∨ v = 2) (Ok.cond (fun _ => Ok.ret (.inr rfl)) fun _ => Ok.ret (.inl rfl)) fun kn hkn => ?_
 have hk0 : 0 < kn := by omega
 have hl0 : Ok (bC (eK x b r kn) (0, [])) fun _ => True := by
  refine Ok.loop (fun s : Int × List (List Stp) => ∃ i : Nat, s.1 = i ∧ i ≤ 4 ∧ s.2.length = i) (fun s : Int × List (List Stp) => 4 - s.1.toNat) ⟨0, rfl, by omega, rfl⟩ ?_
  rintro ⟨_, acc⟩ ⟨i, rfl, hi, ha⟩
  unfold eK
  simp only at ha ⊢
  refine Ok.cond (fun c1 => Ok.cond (fun c2 => ?_) fun _ => Ok.ret trivial) fun _ => Ok.ret trivial
  simp only [decide_eq_true_eq] at c1 c2
  rw [dw (by omega) (by omega), ah]
  refine Ok.bind (uq _ (by omega) hk0 hr0) fun _ _ => ?_
  rw [b7 (by simp; omega), ah, aT (by omega), ah]
  exact Ok.ret ⟨⟨i + 1, by simp, by omega, by simp [ha]⟩, by simp only; omega⟩
 have hl1 : Ok (bC (eS x b r kn) (0, [])) fun _ => True := by
  refine Ok.loop (fun s : Int × List (List Stp) => ∃ i : Nat, s.1 = i ∧ i ≤ 4 ∧ s.2.length = i) (fun s : Int × List (List Stp) => 4 - s.1.toNat) ⟨0, rfl, by omega, rfl⟩ ?_
  rintro ⟨_, acc⟩ ⟨i, rfl, hi, ha⟩
  unfold eS
  simp only at ha ⊢
  refine Ok.cond (fun c1 => Ok.cond (fun c2 => ?_) fun _ => Ok.ret trivial) fun _ => Ok.ret trivial
  simp only [decide_eq_true_eq] at c1 c2
  rw [dw (by omega) (by omega), ah]
  refine Ok.bind (uq _ (by omega) hk0 hr0) fun _ _ => ?_
  rw [b7 (by simp; omega), ah, aT (by omega), ah]
  exact Ok.ret ⟨⟨i + 1, by simp, by omega, by simp [ha]⟩, by simp only; omega⟩
 have hl3 : Ok (bC (eO x b kn) (0, [])) fun _ => True := by
  refine Ok.loop (fun s : Int × List Cls => ∃ i : Nat, s.1 = i ∧ i ≤ 3 ∧ s.2.length = i) (fun s : Int × List Cls => 3 - s.1.toNat) ⟨0, rfl, by omega, rfl⟩ ?_
  rintro ⟨_, acc⟩ ⟨i, rfl, hi, ha⟩
  unfold eO
  simp only at ha ⊢
  refine Ok.cond (fun c1 => Ok.cond (fun c2 => ?_) fun _ => Ok.ret trivial) fun _ => Ok.ret trivial
  simp only [decide_eq_true_eq] at c1 c2
  obtain ⟨e, he⟩ : ∃ e, idx x.c (i : Int) = some e := ⟨_, dw (by omega) (by omega)⟩
  obtain ⟨e1, e2, e3⟩ := e
  have g1 := e1.toNat_lt
  have g2 := e2.toNat_lt
  have g3 := e3.toNat_lt
  simp only [he, ah]
  rw [bA (by omega) (by omega), ah, aT (by omega), ah, mG (by omega) (by omega), ah, aT (by omega), ah, bA (by omega) (by omega), ah, aT (by omega), ah]
  refine Ok.bind (P := fun _ => True) (Ok.cond (fun _ => ?_) fun _ => Ok.ret trivial) fun _ _ => Ok.bind (P := fun _ => True) (Ok.cond (fun _ => ?_) fun _ => Ok.ret trivial) fun _ _ => Ok.bind (P := fun _ => True) (Ok.cond (fun _ => ?_) fun _ => Ok.ret trivial) fun _ _ => ?_
  ·rw [bA (by omega) (by omega), ah]; exact Ok.ret trivial
  ·rw [bA (by omega) (by omega), ah]; exact Ok.ret trivial
  ·rw [bA (by omega) (by omega), ah]; exact Ok.ret trivial
  ·rw [b7 (by simp; omega), ah, aT (by omega), ah]
   exact Ok.ret ⟨⟨i + 1, by simp, by omega, by simp [ha]⟩, by simp only; omega⟩
 refine Ok.bind (P := fun l : List Knd => 1 ≤ l.length ∧ l.length ≤ 2) ?_ fun ks hks => ?_
 ·rw [j5 hk0, cond_true]
  refine Ok.bind (P := fun l : List Knd => l.length = 1) ?_ fun l hl => ?_
  ·rw [show idx [([97] : List UInt8), [98, 101, 101]] 0 = some [97] from rfl, ah, uu (by omega), ah]
   refine Ok.bind hl0 fun ps _ => ?_
   rw [b7 (by simp), ah]
   exact Ok.ret rfl
  ·refine Ok.cond (fun c1 => ?_) fun _ => Ok.ret ⟨by omega, by omega⟩
   refine Ok.bind (P := fun l : List Knd => l.length = 2) ?_ fun l2 hl2 => ?_
   ·rw [show idx [([97] : List UInt8), [98, 101, 101]] 1 = some [98, 101, 101] from rfl, ah, uu (by omega), ah]
    refine Ok.bind hl1 fun ps _ => ?_
    rw [b7 (by simp; omega), ah]
    exact Ok.ret (by simp; omega)
   ·rw [gD (by omega), cond_false]
    exact Ok.ret ⟨by omega, by omega⟩
 ·refine Ok.bind (P := fun _ => True) ?_ fun _ _ => Ok.bind (P := fun _ => True) ?_ fun _ _ => Ok.bind hl3 fun _ _ => Ok.ret ⟨hB, hks.1, hks.2, hr0, hr2⟩
  ·rw [bA (by omega) (by omega), ah]
   refine Ok.cond (fun _ => ?_) fun _ => Ok.ret trivial
   rw [mG (by omega) (by omega), ah, aT (by omega), ah, bA (by omega) (by omega), ah, aT (by omega), ah]
   exact Ok.ret trivial
  ·rw [bA (by omega) (by omega), ah]
   refine Ok.cond (fun _ => ?_) fun _ => Ok.ret trivial
   rw [mG (by omega) (by omega), ah, aT (by omega), ah, bA (by omega) (by omega), ah, aT (by omega), ah]
   exact Ok.ret trivial
structure PsFine (g : Gm) (p : Ps) : Prop where
 la : (p.at_.length : Int) = g.board.cells
 l0 : p.h0.length = g.kinds.length
 l1 : p.h1.length = g.kinds.length
 a : ∀ x ∈ p.at_, 0 ≤ x ∧ x ≤ 2 * (g.kinds.length : Int)
 b : ∀ x ∈ p.h0, 0 ≤ x ∧ x ≤ 8
 c : ∀ x ∈ p.h1, 0 ≤ x ∧ x ≤ 8
 r : 0 ≤ p.rights ∧ p.rights < 2 ^ g.rights.toNat
 s : p.side = 0 ∨ p.side = 1
theorem PsFine.ok {g : Gm} {p : Ps} (hg : GmFine g) (h : PsFine g p) : PsOk p := by
 have h1 := hg.board.c9
 have h2 := hg.k2
 have h3 := h.la
 have h4 := h.l0
 have h5 := h.l1
 have hr := hg.r2
 have hr0 := hg.r0
 refine ⟨by omega, by omega, by omega, fun x hx => ?_, fun x hx => ?_, fun x hx => ?_, ?_, ?_⟩
 ·have := h.a x hx; exact ⟨this.1, by omega⟩
 ·have := h.b x hx; exact ⟨this.1, by omega⟩
 ·have := h.c x hx; exact ⟨this.1, by omega⟩
 ·have := h.r
  have h4 : (2 : Int) ^ g.rights.toNat ≤ 4 := by
   have : g.rights.toNat = 0 ∨ g.rights.toNat = 1 ∨ g.rights.toNat = 2 := by omega
   rcases this with h | h | h <;> rw [h] <;> decide
  exact ⟨h.r.1, by have := h.r.2; omega⟩
 ·rcases h.s with e | e <;> rw [e] <;> exact ⟨by omega, by omega⟩
theorem rf (g : Gm) (hs : List UInt8) (o : Nat) (hl : hs.length = 4) (ho : o ≤ 2) (hg : GmFine g) {body : (Int × List Int) → Option ((Int × List Int) ⊕ List Int)}
  (hb : ∀ s, body s = (bif (decide (s.1 < (g.kinds.length : Int))) then (bif (decide (s.1 < 2)) then (ob (ob (idx g.kinds s.1) fun x => bif x.keep then (ob (arI .i64 (o + s.1)) fun a => ob (idx hs a) fun b => ob (cE (b.toNat : Int) 3) fun c => ob (idx s.2 s.1) fun _ => ob (arI .i64 (o + s.1)) fun a2 => ob (idx hs a2) fun b2 =>
   bif (decide (250 < (b2.toNat : Int))) then (ob (idx (s.2.set (s.1 : Int).toNat c) s.1) fun _ => some ((s.2.set (s.1 : Int).toNat c).set (s.1 : Int).toNat 8)) else some (s.2.set (s.1 : Int).toNat c)) else some s.2) fun v => ob (arI .i64 (s.1 + 1)) fun z => some (.inl (z, v))) else some (.inr s.2)) else some (.inr s.2))) :
  Ok (bC body (0, List.replicate g.kinds.length 0)) fun l => l.length = g.kinds.length ∧ ∀ x ∈ l, 0 ≤ x ∧ x ≤ 8 := by
 have hk2 := hg.k2
 refine Ok.loop (fun s : Int × List Int => ∃ i : Nat, s.1 = i ∧ i ≤ 2 ∧ s.2.length = g.kinds.length ∧ ∀ x ∈ s.2, 0 ≤ x ∧ x ≤ 8) (fun s : Int × List Int => 2 - s.1.toNat) ⟨0, rfl, by omega, by simp, fun x hx => by rw [List.eq_of_mem_replicate hx]; omega⟩ ?_
 rintro ⟨_, l⟩ ⟨i, rfl, hi, h1, h2⟩
 rw [hb]
 simp only at h1 h2 ⊢
 refine Ok.cond (fun c1 => Ok.cond (fun c2 => ?_) fun _ => Ok.ret ⟨h1, h2⟩) fun _ => Ok.ret ⟨h1, h2⟩
 simp only [decide_eq_true_eq] at c1 c2
 refine Ok.bind (P := fun v : List Int => v.length = g.kinds.length ∧ ∀ x ∈ v, 0 ≤ x ∧ x ≤ 8) ?_ fun v hv => ?_
 ·rw [dw (by omega) (by omega), ah]
  refine Ok.cond (fun _ => ?_) fun _ => Ok.ret ⟨h1, h2⟩
  rw [aT (by omega), ah]
  obtain ⟨b, hb'⟩ : ∃ b, idx hs ((o : Int) + i) = some b := ⟨_, dw (by omega) (by omega)⟩
  have hbl := b.toNat_lt
  rw [hb', ah, bA (by omega) (by omega), ah, dw (by omega) (by omega), ah, ah, hb', ah]
  have hset : ∀ (l : List Int) (y : Int), (∀ x ∈ l, 0 ≤ x ∧ x ≤ 8) → 0 ≤ y ∧ y ≤ 8 → ∀ x ∈ l.set i y, 0 ≤ x ∧ x ≤ 8 := fun l y hl hy x hx => by
   rcases List.mem_or_eq_of_mem_set hx with h | rfl
   ·exact hl x h
   ·exact hy
  have s1 := hset l ((b.toNat : Int) % 3) h2 (by omega)
  refine Ok.cond (fun _ => ?_) fun _ => Ok.ret ⟨by simpa using h1, by simpa using s1⟩
  rw [dw (by omega) (by simp; omega), ah]
  exact Ok.ret ⟨by simpa using h1, by simpa using hset _ 8 s1 (by omega)⟩
 ·rw [aT (by omega), ah]
  exact Ok.ret ⟨⟨i + 1, by simp, by omega, hv.1, hv.2⟩, by simp only; omega⟩
theorem Cp (g : Gm) (y : PRaw) (hg : GmFine g) : Ok (fy g y) (PsFine g) := by
 unfold fy
 have hc1 := hg.board.c1
 have hc9 := hg.board.c9
 have hk1 := hg.k1
 have hk2 := hg.k2
 have hr0 := hg.r0
 have hr2 := hg.r2
 have hyr := y.rights.toNat_lt
 have hys := y.side.toNat_lt
 have hpow : (1 : Int) ≤ 2 ^ g.rights.toNat ∧ (2 : Int) ^ g.rights.toNat ≤ 4 := by
  have : g.rights.toNat = 0 ∨ g.rights.toNat = 1 ∨ g.rights.toNat = 2 := by omega
  rcases this with h | h | h <;> rw [h] <;> decide
 have hshl : sI .i64 1 g.rights = some (2 ^ g.rights.toNat) := by
  unfold sI
  have : min g.rights.toNat IntKind.i64.bits = g.rights.toNat := by show min _ 64 = _; omega
  rw [if_neg (by omega), this, Int.one_mul, bL _ (by omega)]
 rw [rx (by omega), ah, hshl, ah, bA (by omega) (by omega), ah, bA (by omega) (by omega), ah, aT (by omega), ah]
 refine Ok.bind (P := fun l : List Int => (l.length : Int) = g.board.cells ∧ ∀ x ∈ l, 0 ≤ x ∧ x ≤ 2 * (g.kinds.length : Int)) ?_ fun at_ hat => ?_
 ·refine Ok.loop (fun s : Int × List Int => ∃ i : Nat, s.1 = i ∧ i ≤ 6 ∧ (s.2.length : Int) = g.board.cells ∧ ∀ x ∈ s.2, 0 ≤ x ∧ x ≤ 2 * (g.kinds.length : Int)) (fun s : Int × List Int => 6 - s.1.toNat) ⟨0, rfl, by omega, by simp; omega, fun x hx => by rw [List.eq_of_mem_replicate hx]; omega⟩ ?_
  rintro ⟨_, l⟩ ⟨i, rfl, hi, h1, h2⟩
  unfold fL
  simp only at h1 h2 ⊢
  refine Ok.cond (fun c1 => ?_) fun _ => Ok.ret ⟨h1, h2⟩
  simp only [decide_eq_true_eq] at c1
  refine Ok.bind (P := fun v : List Int => (v.length : Int) = g.board.cells ∧ ∀ x ∈ v, 0 ≤ x ∧ x ≤ 2 * (g.kinds.length : Int)) ?_ fun v hv => ?_
  ·obtain ⟨a, ha⟩ : ∃ a, idx [y.c0, y.c1, y.c2, y.c3, y.c4, y.c5] (i : Int) = some a := ⟨_, dw (by omega) (by simp only [List.length_cons, List.length_nil]; omega)⟩
   have hal := a.toNat_lt
   rw [ha, ah, aT (by omega), ah, bA (by omega) (by omega), ah]
   refine Ok.cond (fun c2 => ?_) fun _ => Ok.ret ⟨h1, h2⟩
   simp only [decide_eq_true_eq] at c2
   rw [j5 (by omega), cond_true]
   obtain ⟨k, hk⟩ : ∃ k, idx [y.k0, y.k1, y.k2, y.k3, y.k4, y.k5] (i : Int) = some k := ⟨_, dw (by omega) (by simp only [List.length_cons, List.length_nil]; omega)⟩
   have hkl := k.toNat_lt
   rw [hk, ah, bA (by omega) (by omega), ah]
   obtain ⟨q, hq, hq0, hq1⟩ : ∃ q : Int, (k.toNat : Int) % (g.kinds.length : Int) = q ∧ 0 ≤ q ∧ q < (g.kinds.length : Int) := ⟨_, rfl, Int.emod_nonneg _ (by omega), Int.emod_lt_of_pos _ (by omega)⟩
   rw [hq]
   have hcm := Int.emod_nonneg (a.toNat : Int) (show g.board.cells + 1 ≠ 0 by omega)
   rw [aT (by omega), ah, aT (by omega), ah, bA (by omega) (by omega), ah, aT (by omega), ah, dw (by omega) (by omega), ah]
   refine Ok.ret ⟨by simpa using h1, fun x hx => ?_⟩
   rcases List.mem_or_eq_of_mem_set hx with h | rfl
   ·exact h2 x h
   ·omega
  ·rw [aT (by omega), ah]
   exact Ok.ret ⟨⟨i + 1, by simp, by omega, hv.1, hv.2⟩, by simp only; omega⟩
 ·refine Ok.bind (P := fun v : List Int × List Int => (v.1.length = g.kinds.length ∧ ∀ x ∈ v.1, 0 ≤ x ∧ x ≤ 8) ∧ (v.2.length = g.kinds.length ∧ ∀ x ∈ v.2, 0 ≤ x ∧ x ≤ 8)) ?_ fun v hv => ?_
  ·rw [rx (by omega), Int.toNat_natCast]
   refine Ok.bind (P := fun v : List Int => v.length = g.kinds.length ∧ ∀ x ∈ v, 0 ≤ x ∧ x ≤ 8) ?_ fun v1 hv1 => Ok.bind (P := fun v : List Int => v.length = g.kinds.length ∧ ∀ x ∈ v, 0 ≤ x ∧ x ≤ 8) ?_ fun v2 hv2 => Ok.ret ⟨hv1, hv2⟩
   ·rw [ah]; exact rf g [y.h0, y.h1, y.h2, y.h3] 0 rfl (by omega) hg fun s => rfl
   ·rw [ah]; exact rf g [y.h0, y.h1, y.h2, y.h3] 2 rfl (by omega) hg fun s => rfl
  ·refine Ok.ret ⟨hat.1, hv.1.1, hv.2.1, hat.2, hv.1.2, hv.2.2, ⟨Int.emod_nonneg _ (by omega), Int.emod_lt_of_pos _ (by omega)⟩, ?_⟩
   simp only; omega
end
section
open Go.RowKit
set_option maxRecDepth 100000
open Classical
structure PsS (p : Ps) : Prop where
 a : p.at_.length ≤ 200000
 b : p.h0.length ≤ 200000
 c : p.h1.length ≤ 200000
theorem PsS.B {p : Ps} (h : PsS p) : PsB p := ⟨by have := h.a; omega, by have := h.b; omega, by have := h.c; omega⟩
theorem PsOk.S {p : Ps} (h : PsOk p) : PsS p := ⟨by have := h.la; omega, by have := h.l0; omega, by have := h.l1; omega⟩
theorem mT {p : Ps} (h : PsS p) (r : Rs) : (cV p r).length ≤ 700000 := by
 rw [vR]
 have := h.a
 have := h.b
 have := h.c
 simp [iz]; omega
def cR (l : List Ps) (v : List Rs) : List (List UInt8) := (l.zip v).map fun e => cV e.1 e.2
theorem j6 (l : List Ps) (v : List Rs) : (cR l v).length = min l.length v.length := by simp [cR]
theorem yG {l : List Ps} {v : List Rs} {i : Nat} {e : Ps × Rs} (h : (l.zip v)[i]? = some e) : l[i]? = some e.1 ∧ v[i]? = some e.2 := by
 rw [List.getElem?_zip_eq_some] at h; exact h
theorem ry (l : List Ps) (v : List Rs) (hl : l.length ≤ 1000000) (hs : ∀ p ∈ l, PsS p) : fS l v = some (cR l v) := by
 unfold fS
 have := l6 (body := eN l v) (l.zip v) (fun e => cV e.1 e.2) (fun i e acc he hacc => by
  obtain ⟨h1, h2⟩ := yG he
  have hi := (List.getElem?_eq_some_iff.1 he).1
  rw [List.length_zip] at hi
  have hS := hs e.1 (List.mem_of_getElem? h1)
  unfold eN
  simp only
  rw [j5 (by omega), cond_true, fQ, fQ, h1, h2, ah, ah, qJ _ _ hS.B, ah, b7 (by simp; omega), ah, aT (by omega), ah]; rfl) (fun acc => by
  unfold eN
  simp only [List.length_zip]
  rw [gD (by omega), cond_false])
 rw [this, ah]; rfl
theorem nq {l : List Ps} {v : List Rs} (hl : l.length ≤ 1000000) (hs : ∀ p ∈ l, PsS p) : Fit (cR l v) := by
 refine ⟨by rw [j6]; omega, fun x hx => ?_⟩
 simp only [cR, List.mem_map] at hx
 obtain ⟨e, he, rfl⟩ := hx
 have := mT (hs e.1 (List.of_mem_zip he).1) e.2
 omega
theorem ur (l : List Ps) (v : List Rs) (hl : l.length ≤ 1000000) (hs : ∀ p ∈ l, PsS p) : fX l v = some (Sha.root (cR l v)) := by
 unfold fX
 rw [ry l v hl hs, ah, show j9 (cR l v) = some (Sha.root (cR l v)) from if_pos (nq hl hs), ah, je (Sha.root_len _), ah]
def vt : Ans := ⟨0, 0, 0, ⟨[], [], [], 0, 0⟩, ⟨0, 0⟩, []⟩
noncomputable def jQ (l : List Ps) (v : List Rs) (ver i : Int) : Ans × Int :=
 if h : l.length = v.length ∧ 0 ≤ i ∧ i < (l.length : Int) then (⟨ver, i, l.length, l[i.toNat]'(by omega), v[i.toNat]'(by omega), Sha.proof (cR l v) i.toNat⟩, 0) else (vt, 1)
theorem kg (l : List Ps) (v : List Rs) (ver i : Int) (hl : l.length ≤ 1000000) (hs : ∀ p ∈ l, PsS p) : cw l v ver i = some (jQ l v ver i) := by
 refine Ok.get ?_
 unfold cw jQ
 refine Ok.cond (fun c => Ok.ret ?_) fun c => ?_
 ·rw [dif_neg (fun h => by rw [h.1] at c; simp at c)]; rfl
 ·have hlv : l.length = v.length := by simp at c; omega
  have hlen := j6 l v
  rw [ry l v hl hs, ah]
  by_cases hi : i < 0 ∨ (l.length : Int) ≤ i
  ·rw [show gr (cR l v) i = some ([], 1) by unfold gr; rw [if_pos (nq hl hs), if_pos (by omega)], ah, dif_neg (by omega)]
   exact Ok.ret rfl
  ·rw [show gr (cR l v) i = some (Sha.proof (cR l v) i.toNat, 0) by unfold gr; rw [if_pos (nq hl hs), if_neg (by omega)], ah, dif_pos (by omega)]
   simp only
   rw [yq rfl, cond_false, dw (by omega) (by omega), ah, dw (by omega) (by omega), ah]
   exact Ok.ret rfl
theorem rl {α : Type} {body : Int → Option (Int ⊕ (Unit ⊕ Int))} (l : List α) (g : α → Bool) (f : α → Option Bool) (hf : ∀ x ∈ l, f x = some (g x)) (hl : l.length ≤ 9223372036854775807)
  (hb : ∀ s, body s = (bif (decide (s < (l.length : Int))) then (ob (idx l s) fun x => ob (f x) fun y => bif y then some (.inr (.inr s)) else ob (arI .i64 (s + 1)) fun z => some (.inl z)) else some (.inr (.inl ())))) :
  Ok (ob (bC body 0) fun o => match o with | .inl _ => some (-1) | .inr e => some e) fun r => decide (0 ≤ r) = l.any g := by
 refine Ok.bind (P := fun o => match o with | .inl () => ∀ x ∈ l, g x = false | .inr r => 0 ≤ r ∧ l.any g = true) ?_ ?_
 ·refine Ok.loop (fun s : Int => ∃ i : Nat, s = i ∧ i ≤ l.length ∧ ∀ j x, j < i → l[j]? = some x → g x = false) (fun s : Int => l.length - s.toNat) ⟨0, rfl, by omega, fun j x h => by omega⟩ ?_
  rintro _ ⟨i, rfl, hi, hall⟩
  rw [hb]
  refine Ok.cond (fun c1 => ?_) fun c1 => Ok.ret ?_
  ·simp only [decide_eq_true_eq] at c1
   have e : l[i]? = some (l[i]'(by omega)) := List.getElem?_eq_getElem _
   generalize l[i]'(by omega) = x at e
   have hx := List.mem_of_getElem? e
   rw [fQ, e, ah, hf x hx, ah]
   refine Ok.cond (fun c2 => Ok.ret ⟨by omega, List.any_eq_true.2 ⟨x, hx, c2⟩⟩) fun c2 => ?_
   rw [aT (by omega), ah]
   refine Ok.ret ⟨⟨i + 1, by omega, by omega, fun j y hj hy => ?_⟩, by omega⟩
   rcases Nat.lt_or_ge j i with h | h
   ·exact hall j y h hy
   ·obtain rfl : j = i := by omega
    rw [e] at hy; cases hy; exact c2
  ·simp only [decide_eq_false_iff_not] at c1
   intro x hx
   obtain ⟨j, hj⟩ := List.getElem?_of_mem hx
   exact hall j x (by have := (List.getElem?_eq_some_iff.1 hj).1; omega) hj
 ·rintro (⟨⟩ | r) h
  ·refine Ok.ret ?_
   have : l.any g = false := by rw [List.any_eq_false]; intro x hx; rw [h x hx]; simp
   rw [this]; rfl
  ·refine Ok.ret ?_
   rw [h.2]; exact decide_eq_true h.1
theorem sR (l : List Int) (F : FnV Tryd.prog HG (α := Int) (β := Bool) (fun x => [.v (.int .i64 x)]) (fun y => .v (.bool y))) (g : Int → Bool) (hf : ∀ x ∈ l, F.f x = some (g x)) (hl : l.length ≤ 9223372036854775807) : cG l F = some (l.any g) := by
 unfold cG d8
 obtain ⟨r, h1, h2⟩ := rl l g F.f hf hl (body := bZ l F) (fun s => rfl)
 exact Ok.get (fw h1 (Ok.ret h2))
abbrev FnB := FnV Tryd.prog HG (α := Unit) (β := Bool) (fun _ => []) (fun y => .v (.bool y))
theorem tF (l : List FnB) (F : FnV Tryd.prog HG (α := FnB) (β := Bool) (fun x => [.fn x.g x.c]) (fun y => .v (.bool y))) (g : FnB → Bool) (hf : ∀ x ∈ l, F.f x = some (g x)) (hl : l.length ≤ 9223372036854775807) : bI l F = some (l.any g) := by
 unfold bI cj
 obtain ⟨r, h1, h2⟩ := rl l g F.f hf hl (body := bq l F) (fun s => rfl)
 exact Ok.get (fw h1 (Ok.ret h2))
theorem CR (a b c : Int) : im a b c = some (decide (b ≤ a) && decide (a ≤ c)) := by
 refine Ok.get ?_
 unfold im
 exact Ok.cond (fun h => Ok.ret (by rw [h]; simp)) fun h => Ok.ret (by rw [h]; simp)
def u8B (n : Int) : Bool := decide (0 ≤ n) && decide (n ≤ 255)
theorem ot (l : List Int) (f : FnV Tryd.prog HG (α := Int) (β := Bool) (fun x => [.v (.int .i64 x)]) (fun y => .v (.bool y))) (hf : ∀ x, f.f x = some (u8B x)) : eG l f = some (decide (l.length ≤ 255) && l.all u8B) := by
 refine Ok.get ?_
 unfold eG
 refine Ok.cond (fun c => ?_) fun c => Ok.ret ?_
 ·simp only [decide_eq_true_eq] at c
  refine fw (sR l _ (fun x => !u8B x) (fun x _ => by show fF x f = _; unfold fF; rw [hf, ah]) (by omega)) (Ok.ret ?_)
  have : decide (l.length ≤ 255) = true := decide_eq_true (by omega)
  rw [this]
  simp [List.all_eq_not_any_not]
 ·simp only [decide_eq_false_iff_not] at c
  have : decide (l.length ≤ 255) = false := decide_eq_false (by omega)
  rw [this]; simp
def mo (p : Ps) (r : Rs) : Bool := (decide (p.at_.length ≤ 255) && p.at_.all u8B) && ((decide (p.h0.length ≤ 255) && p.h0.all u8B) && ((decide (p.h1.length ≤ 255) && p.h1.all u8B) && (u8B p.rights && (u8B p.side && ((decide (1 ≤ r.out) && decide (r.out ≤ 3)) && (decide (0 ≤ r.n) && decide (r.n ≤ 2147483647)))))))
theorem mK {a b : Bool} {x : Option Bool} (h : a = true → Ok x (· = b)) : Ok (bif a then x else some false) (· = (a && b)) := by
 cases a with
 | false => exact Ok.ret rfl
 | true => simpa using h rfl
theorem xt (p : Ps) (r : Rs) : ia p r = some (mo p r) := by
 refine Ok.get ?_
 unfold ia mo
 have hin : ∀ a b, ∃ F : FnV Tryd.prog HG (α := Int) (β := Bool) (fun x => [.v (.int .i64 x)]) (fun y => .v (.bool y)), iy a b = some F ∧ ∀ x, F.f x = some (decide (a ≤ x) && decide (x ≤ b)) := fun a b => ⟨_, rfl, fun x => CR x a b⟩
 obtain ⟨F, h1, h2⟩ := hin 0 255
 obtain ⟨F2, h3, h4⟩ := hin 1 3
 obtain ⟨F3, h5, h6⟩ := hin 0 2147483647
 rw [h1, ah, ot _ F h2, ah]
 refine mK fun _ => ?_
 rw [ot _ F h2, ah]
 refine mK fun _ => ?_
 rw [ot _ F h2, ah]
 refine mK fun _ => ?_
 rw [h2, ah]
 refine mK fun _ => ?_
 rw [h2, ah]
 refine mK fun _ => ?_
 rw [h3, ah, h4, ah]
 refine mK fun _ => ?_
 rw [h5, ah, h6, ah]
 exact Ok.ret rfl
theorem we {l : List Int} : l.all u8B = true ↔ ∀ x ∈ l, u8R x := by simp [List.all_eq_true, u8B, u8R]
theorem pM (p : Ps) (r : Rs) : mo p r = true ↔ PsOk p ∧ mg r := by
 unfold mo
 simp only [Bool.and_eq_true, decide_eq_true_eq, we]
 constructor
 ·rintro ⟨⟨a1, a2⟩, ⟨b1, b2⟩, ⟨c1, c2⟩, d, e, f, g⟩
  simp only [u8B, Bool.and_eq_true, decide_eq_true_eq] at d e
  exact ⟨⟨a1, b1, c1, a2, b2, c2, d, e⟩, f, g⟩
 ·rintro ⟨h, f, g⟩
  refine ⟨⟨h.la, h.a⟩, ⟨h.l0, h.b⟩, ⟨h.l1, h.c⟩, ?_, ?_, f, g⟩
  ·simp only [u8B, Bool.and_eq_true, decide_eq_true_eq]; exact h.r
  ·simp only [u8B, Bool.and_eq_true, decide_eq_true_eq]; exact h.s
end
section
open Go.RowKit
set_option maxRecDepth 100000
structure CkOk (root : List UInt8) (a : Ans) : Prop where
 root : root.length = 32
 pos : PsS a.pos
 proof : ∀ s ∈ a.proof, s.length = 32
 len : a.proof.length ≤ 900000
 c1 : -9223372036854775808 ≤ a.count
 c2 : a.count ≤ 4294967296
 i : -9223372036854775808 ≤ a.index ∧ a.index ≤ 9223372036854775807
def gF (root : List UInt8) (ver : Int) (a : Ans) : Bool := (a.version == ver) && (mo a.pos a.entry && Sha.check root a.count a.index (cV a.pos a.entry) a.proof)
theorem sV {root : List UInt8} {a : Ans} (h : CkOk root a) : jn root a.count a.index (cV a.pos a.entry) a.proof = some (Sha.check root a.count a.index (cV a.pos a.entry) a.proof) :=
 if_pos ⟨h.root, by have := mT h.pos a.entry; omega, h.proof, by have := h.len; omega, h.c2, h.c1, h.i⟩
theorem lw {root : List UInt8} {a : Ans} (ver : Int) (h : CkOk root a) : cY root ver a = some (gF root ver a) := by
 refine Ok.get ?_
 unfold cY
 have e3 : fk root a = some (Sha.check root a.count a.index (cV a.pos a.entry) a.proof) := by
  unfold fk
  rw [qJ _ _ h.pos.B, ah, sV h, ah]
 have e2 : fo a = some (mo a.pos a.entry) := by
  unfold fo
  rw [xt, ah]
 have e1 : gn a ver = some (a.version == ver) := rfl
 refine fw (tF _ _ (fun F : FnB => !(F.f ()).getD false) (fun F hF => ?_) (by simp)) ?_
 ·show gq F = _
  unfold gq
  have : ∃ b, F.f () = some b := by
   simp only [List.mem_cons, List.not_mem_nil, or_false] at hF
   rcases hF with rfl | rfl | rfl
   ·exact ⟨_, e1⟩
   ·exact ⟨_, e2⟩
   ·exact ⟨_, e3⟩
  obtain ⟨b, hb⟩ := this
  rw [hb, ah]; rfl
 ·refine Ok.ret ?_
  simp only [List.any_cons, List.any_nil, e1, e2, e3, Option.getD_some, gF]
  cases (a.version == ver) <;> cases mo a.pos a.entry <;> cases Sha.check root a.count a.index (cV a.pos a.entry) a.proof <;> rfl
def lr (x : List Int) (i : Nat) : Int := if x = [] then 7 * i else x[i % x.length]?.getD 0 + i
def uQ (x : List Int) (i : Nat) : Rs := ⟨1 + lr x i % 3, lr x i / 3⟩
def jX (n : Nat) (x : List Int) : List Rs := (List.range n).map (uQ x)
theorem vc (l : List Ps) (x : List Int) (hl : l.length ≤ 1000000) (hx : ∀ y ∈ x, 0 ≤ y ∧ y ≤ 65535) (hxl : x.length ≤ 1000000) : eI l x = some (jX l.length x) := by
 unfold eI
 have := l6 (body := c8 l x) (List.range l.length) (uQ x) (fun i k acc he hacc => by
  have hi := (List.getElem?_eq_some_iff.1 he).1
  rw [List.length_range] at hi
  obtain rfl : k = i := by rw [List.getElem?_range hi] at he; exact (Option.some.inj he).symm
  have hN : 0 ≤ lr x k ∧ lr x k ≤ 10000000 := by
   unfold lr
   split
   ·omega
   ·rename_i hne
    have hpos : 0 < x.length := List.length_pos_iff.2 hne
    have hm := Nat.mod_lt k hpos
    rw [List.getElem?_eq_getElem hm]
    have := hx _ (List.getElem_mem hm)
    simp only [Option.getD_some]; omega
  refine Ok.get ?_
  unfold c8
  simp only
  rw [j5 (by omega), cond_true, aT (by omega), ah]
  refine Ok.bind (P := fun v => v = lr x k) (Ok.cond (fun c => ?_) fun c => Ok.ret ?_) fun v hv => ?_
  ·simp only [decide_eq_true_eq] at c
   have hne : x ≠ [] := fun e => by subst e; simp at c
   have hpos : 0 < x.length := by omega
   have hm := Nat.mod_lt k hpos
   rw [bA (by omega) (by omega), ah]
   have he2 : ((k : Nat) : Int) % (x.length : Int) = ((k % x.length : Nat) : Int) := by simp
   have hb := hx _ (List.getElem_mem hm)
   rw [he2, fQ, List.getElem?_eq_getElem hm, ah, aT (by omega), ah, aT (by omega), ah]
   refine Ok.ret ?_
   unfold lr
   rw [if_neg hne, List.getElem?_eq_getElem hm]; rfl
  ·simp only [decide_eq_false_iff_not] at c
   have : x = [] := List.eq_nil_of_length_eq_zero (by omega)
   unfold lr; rw [if_pos this]
  ·subst hv
   rw [bA (by omega) (by omega), ah, aT (by omega), ah, sv (by omega) (by omega), ah, b7 (by simp; omega), ah, aT (by omega), ah]
   exact Ok.ret rfl) (fun acc => by
  unfold c8
  simp only [List.length_range]
  rw [gD (by omega), cond_false])
 rw [this, ah]; rfl
theorem y4 (x : List Int) (hx : ∀ y ∈ x, 0 ≤ y ∧ y ≤ 65535) (i : Nat) (hi : i ≤ 1000000) : mg (uQ x i) := by
 have hN : 0 ≤ lr x i ∧ lr x i ≤ 10000000 := by
  unfold lr
  split
  ·omega
  ·rename_i hne
   have hpos : 0 < x.length := List.length_pos_iff.2 hne
   have hm := Nat.mod_lt i hpos
   rw [List.getElem?_eq_getElem hm]
   have := hx _ (List.getElem_mem hm)
   simp only [Option.getD_some]; omega
 unfold mg uQ
 simp only; omega
theorem y6 (g : Gm) (l : List PRaw) (hg : GmFine g) (n : Nat) (hn : n ≤ 1000) : Ok (fH g l n) fun ps => ps.length ≤ n ∧ ∀ p ∈ ps, PsFine g p := by
 unfold fH
 refine Ok.bind (P := fun ps : List Ps => ps.length ≤ n ∧ ∀ p ∈ ps, PsFine g p) ?_ fun ps h => Ok.ret h
 refine Ok.loop (fun s : Int × List Ps => ∃ i : Nat, s.1 = i ∧ i ≤ n ∧ s.2.length = i ∧ ∀ p ∈ s.2, PsFine g p) (fun s : Int × List Ps => n - s.1.toNat) ⟨0, rfl, by omega, rfl, by simp⟩ ?_
 rintro ⟨_, acc⟩ ⟨i, rfl, hi, ha, hall⟩
 unfold fO
 simp only at ha hall ⊢
 refine Ok.cond (fun c1 => Ok.cond (fun c2 => ?_) fun _ => Ok.ret ⟨by omega, hall⟩) fun _ => Ok.ret ⟨by omega, hall⟩
 simp only [decide_eq_true_eq] at c1 c2
 rw [dw (by omega) (by omega), ah]
 refine Ok.bind (Cp g _ hg) fun p hp => ?_
 rw [b7 (by simp; omega), ah, aT (by omega), ah]
 refine Ok.ret ⟨⟨i + 1, by simp, by omega, by simp [ha], fun q hq => ?_⟩, by simp only; omega⟩
 rcases List.mem_append.1 hq with h | h
 ·exact hall q h
 ·simp at h; subst h; exact hp
theorem tV (x : GRaw) (l : List PRaw) (n : List Int) (hx : ∀ y ∈ n, 0 ≤ y ∧ y ≤ 65535) (hnl : n.length ≤ 1000) :
  Ok (dF x l n) fun r => r.1.length ≤ 10 ∧ (∀ p ∈ r.1, PsOk p ∧ 1 ≤ p.at_.length) ∧ r.2 = jX r.1.length n := by
 unfold dF
 refine Ok.bind (CH x) fun g hg => ?_
 refine Ok.bind (y6 g l hg 10 (by omega)) fun ps hps => ?_
 rw [vc ps n (by omega) hx (by omega), ah]
 refine Ok.ret ⟨hps.1, fun p hp => ⟨(hps.2 p hp).ok hg, ?_⟩, rfl⟩
 have := (hps.2 p hp).la
 have := hg.board.c1
 omega
end
section
open Go.RowKit
set_option maxRecDepth 100000
def P0 : Ps := ⟨[1, 0], [2], [0], 1, 0⟩
def R0 : Rs := ⟨1, 258⟩
theorem pT : cV P0 R0 = [2, 1, 1, 1, 0, 2, 0, 1, 0, 1, 0, 0, 1, 2] := by decide
theorem C5 : Sha.leaf [2, 1, 1, 1, 0, 2, 0, 1, 0, 1, 0, 0, 1, 2] ≠ List.replicate 32 0 := by decide +kernel
theorem tB : eX = some true := by
 have hS : PsS P0 := ⟨by decide, by decide, by decide⟩
 have hs : ∀ p ∈ [P0], PsS p := by simpa using hS
 have hl : cR [P0] [R0] = [cV P0 R0] := rfl
 have hpr : Sha.proof [cV P0 R0] 0 = [] := by unfold Sha.proof; rw [Sha.path_one 0 (by simp)]; rfl
 have a1 : cw [P0] [R0] 7 0 = some (⟨7, 0, 1, P0, R0, []⟩, 0) := by
  rw [kg _ _ _ _ (by simp) hs]
  unfold jQ
  rw [dif_pos ⟨rfl, by decide, by decide⟩]
  show some ((⟨7, 0, 1, P0, R0, Sha.proof [cV P0 R0] 0⟩ : Ans), (0 : Int)) = _
  rw [hpr]
 have a2 : cw [P0] [] 7 0 = some (vt, 1) := by
  rw [kg _ _ _ _ (by simp) hs]
  unfold jQ
  rw [dif_neg (by simp)]
 have a3 : cw [P0] [R0] 7 1 = some (vt, 1) := by
  rw [kg _ _ _ _ (by simp) hs]
  unfold jQ
  rw [dif_neg (by simp)]
 have a4 : fX [P0] [R0] = some (Sha.leaf (cV P0 R0)) := by
  rw [ur _ _ (by simp) hs, hl, Sha.root_one]
 have hck : ∀ root : List UInt8, root.length = 32 → CkOk root ⟨7, 0, 1, P0, R0, []⟩ := fun root h => ⟨h, hS, by simp, by simp, by decide, by decide, by decide⟩
 have hpl : mo P0 R0 = true := by decide
 have hcl : ∀ root : List UInt8, Sha.check root 1 0 (cV P0 R0) [] = decide (Sha.leaf (cV P0 R0) = root) := fun root => by
  unfold Sha.check Sha.climb; simp
 simp only [pT] at hcl
 refine Ok.get ?_
 unfold eX
 refine fw (qJ P0 R0 hS.B) ?_
 refine fw a1 (fw a2 (fw a3 (fw a4 (fw (je (Sha.leaf_len _)) ?_))))
 simp only [vt, pT, beq_self_eq_true, cond_true, List.length_nil, Int.natCast_zero, Int.cast_ofNat_Int]
 refine fw (mR P0 R0 hS.B) ?_
 rw [pT]
 refine fw (show gJ _ = some (Sha.leaf _) from if_pos (by decide)) ?_
 refine fw (je (Sha.leaf_len _)) (fw (je (Sha.leaf_len _)) ?_)
 rw [beq_self_eq_true, cond_true]
 refine fw (lw 7 (hck _ (Sha.leaf_len _))) ?_
 have e1 : gF (Sha.leaf [2, 1, 1, 1, 0, 2, 0, 1, 0, 1, 0, 0, 1, 2]) 7 ⟨7, 0, 1, P0, R0, []⟩ = true := by
  unfold gF; simp only [hpl, pT, hcl]; simp
 have e2 : gF (Sha.leaf [2, 1, 1, 1, 0, 2, 0, 1, 0, 1, 0, 0, 1, 2]) 8 ⟨7, 0, 1, P0, R0, []⟩ = false := by
  unfold gF; simp
 have e3 : gF (List.replicate 32 0) 7 ⟨7, 0, 1, P0, R0, []⟩ = false := by
  unfold gF; simp only [hpl, pT, hcl]
  rw [decide_eq_false C5]; rfl
 rw [e1, cond_true]
 refine fw (lw 8 (hck _ (Sha.leaf_len _))) ?_
 rw [e2]
 refine fw (lw 7 (hck _ (by simp))) (Ok.ret ?_)
 rw [e3]; rfl
end
section
open Go.RowKit
set_option maxRecDepth 100000
theorem tt (n : Nat) (x : List Int) : (jX n x).length = n := by simp [jX]
theorem vL (l : List (List UInt8)) (i : Nat) : (∀ s ∈ Sha.proof l i, s.length = 32) ∧ (Sha.proof l i).length ≤ l.length := by
 refine ⟨fun s hs => mV _ l i rfl s (by simpa [Sha.proof] using hs), ?_⟩
 have := q6 _ l i rfl
 simpa [Sha.proof] using this
structure LsOk (l : List Ps) (v : List Rs) : Prop where
 le : l.length ≤ 1000
 len : l.length = v.length
 ps : ∀ p ∈ l, PsOk p
 rs : ∀ r ∈ v, mg r
theorem LsOk.S {l : List Ps} {v : List Rs} (h : LsOk l v) : ∀ p ∈ l, PsS p := fun p hp => (h.ps p hp).S
theorem LsOk.big {l : List Ps} {v : List Rs} (h : LsOk l v) : l.length ≤ 1000000 := by have := h.le; omega
theorem LsOk.take {l : List Ps} {v : List Rs} (h : LsOk l v) (n : Nat) : LsOk (l.take n) (v.take n) :=
 ⟨by have := h.le; rw [List.length_take]; omega, by rw [List.length_take, List.length_take, h.len], fun p hp => h.ps p (List.mem_of_mem_take hp), fun r hr => h.rs r (List.mem_of_mem_take hr)⟩
theorem sO (x : GRaw) (l : List PRaw) (n : List Int) (hx : ∀ y ∈ n, 0 ≤ y ∧ y ≤ 65535) (hnl : n.length ≤ 1000) :
  Ok (dF x l n) fun r => LsOk r.1 r.2 ∧ r.1.length ≤ 10 ∧ (∀ p ∈ r.1, 1 ≤ p.at_.length) ∧ r.2 = jX r.1.length n :=
 (tV x l n hx hnl).mono fun r hr => by
  refine ⟨⟨by have := hr.1; omega, by rw [hr.2.2, tt], fun p hp => (hr.2.1 p hp).1, fun s hs => ?_⟩, hr.1, fun p hp => (hr.2.1 p hp).2, hr.2.2⟩
  rw [hr.2.2, jX] at hs
  obtain ⟨i, hi, rfl⟩ := List.mem_map.1 hs
  exact y4 n hx i (by have := List.mem_range.1 hi; have := hr.1; omega)
def lX (l : List Ps) (v : List Rs) (ver : Int) (i : Nat) (h : i < l.length) (h' : i < v.length) : Ans := ⟨ver, i, l.length, l[i], v[i], Sha.proof (cR l v) i⟩
theorem rp {l : List Ps} {v : List Rs} (ver : Int) {i : Nat} (h : i < l.length) (hl : l.length = v.length) : jQ l v ver i = (lX l v ver i h (by omega), 0) := by
 unfold jQ lX
 rw [dif_pos (by omega)]
 rfl
theorem sQ {l : List Ps} {v : List Rs} {ver : Int} {i : Nat} (h : i < l.length) (h' : i < v.length) (k : LsOk l v) {root : List UInt8} (hr : root.length = 32) : CkOk root (lX l v ver i h h') := by
 have hp := vL (cR l v) i
 have := k.le
 have hl := j6 l v
 exact ⟨hr, k.S _ (List.getElem_mem _), hp.1, by show (Sha.proof _ _).length ≤ _; omega, by show -9223372036854775808 ≤ (l.length : Int); omega, by show (l.length : Int) ≤ _; omega, by show -9223372036854775808 ≤ (i : Int) ∧ (i : Int) ≤ _; omega⟩
theorem vb {l : List Ps} {v : List Rs} {i : Nat} (h : i < l.length) (h' : i < v.length) : (cR l v)[i]? = some (cV l[i] v[i]) := by
 have : (l.zip v)[i]? = some (l[i], v[i]) := List.getElem?_zip_eq_some.2 ⟨by simp, by simp⟩
 unfold cR
 rw [List.getElem?_map, this]; rfl
theorem Ar {l : List Ps} {v : List Rs} {ver : Int} {i : Nat} (h : i < l.length) (h' : i < v.length) (k : LsOk l v) (ver' : Int) : gF (Sha.root (cR l v)) ver' (lX l v ver i h h') = (ver == ver') := by
 have h1 : mo l[i] v[i] = true := (pM _ _).2 ⟨k.ps _ (List.getElem_mem _), k.rs _ (List.getElem_mem _)⟩
 have h2 := Sha.check_proof (vb h h')
 rw [j6, ← k.len, Nat.min_self] at h2
 show ((ver == ver') && (mo l[i] v[i] && Sha.check _ (l.length : Int) (i : Int) (cV l[i] v[i]) (Sha.proof (cR l v) i))) = _
 rw [h1, h2]; simp
end
section
open Go.RowKit
set_option maxRecDepth 100000
theorem Met.mono {a b a' b' : List (List UInt8)} (h : Sha.Met a b) (h1 : ∀ x ∈ a, x ∈ a') (h2 : ∀ x ∈ b, x ∈ b') : Sha.Met a' b' := by
 obtain ⟨x, hx, y, hy, hne, he⟩ := h
 exact ⟨x, h1 x hx, y, h2 y hy, hne, he⟩
theorem xP {a b : List (List UInt8)} (ha : a.length ≤ 1000000) (hb : b.length ≤ 1000000) (fa : ∀ x ∈ a, x.length ≤ 1000000) (fb : ∀ x ∈ b, x.length ≤ 1000000) (h : Sha.Met a b) : dE a b = some true := by
 refine Ok.get ?_
 unfold dE
 have hS : ∀ x : List UInt8, x.length ≤ 1000000 → f7 x = some (Sha.sum x) := fun x hx => if_pos hx
 have e0 := l6 (body := dS b) b Sha.sum (fun i x acc hx hacc => by
  obtain ⟨hlt, he⟩ := List.getElem?_eq_some_iff.1 hx
  unfold dS
  simp only
  rw [j5 (by omega), cond_true, fQ, hx, ah, hS x (fb x (he ▸ List.getElem_mem hlt)), ah, b7 (by simp; omega), ah, aT (by omega), ah]
  simp) fun acc => by
  unfold dS
  simp only
  rw [gD (by omega), cond_false]
 rw [e0, ah]
 have key : ∀ (i : Nat) (hi : i < a.length), ∃ o, bC (bM a b (b.map Sha.sum) (i : Int) (Sha.sum a[i])) 0 = some o ∧ ((o = .inl () ∧ ∀ y ∈ b, ¬ (a[i] ≠ y ∧ Sha.sum a[i] = Sha.sum y)) ∨ o = .inr (.inr (.inr true))) := by
  intro i hi
  refine Ok.loop (fun s : Int => ∃ j : Nat, s = j ∧ j ≤ b.length ∧ ∀ y ∈ b.take j, ¬ (a[i] ≠ y ∧ Sha.sum a[i] = Sha.sum y)) (fun s => b.length - s.toNat) ⟨0, rfl, by omega, by simp⟩ ?_
  rintro _ ⟨j, rfl, hj, hno⟩
  unfold bM
  refine Ok.cond (fun c => ?_) fun c => Ok.ret (.inl ⟨rfl, ?_⟩)
  ·simp only [decide_eq_true_eq] at c
   have hj' : j < b.length := by omega
   have hb' : (b.map Sha.sum)[j]? = some (Sha.sum b[j]) := by simp [hj']
   have stp : (a[i] = b[j] ∨ Sha.sum a[i] ≠ Sha.sum b[j]) → ∀ y ∈ b.take (j + 1), ¬ (a[i] ≠ y ∧ Sha.sum a[i] = Sha.sum y) := by
    intro hq y hy
    rw [List.take_add_one, List.getElem?_eq_getElem hj'] at hy
    rcases List.mem_append.1 hy with hy | hy
    ·exact hno y hy
    ·simp only [Option.toList_some, List.mem_singleton] at hy
     subst hy
     rintro ⟨q1, q2⟩
     rcases hq with hq | hq
     ·exact q1 hq
     ·exact hq q2
   rw [fQ, hb', ah, je (Sha.sum_len _), ah, je (Sha.sum_len _), ah]
   by_cases e : Sha.sum a[i] = Sha.sum b[j]
   ·rw [show (Sha.sum a[i] == Sha.sum b[j]) = true by simpa using e, cond_true, dw (by omega) (by omega), ah, dw (by omega) (by omega), ah]
    by_cases q : a[i] = b[j]
    ·rw [show (!(a[(i : Int).toNat] == b[(j : Int).toNat])) = false by simpa using q, cond_false, ah]
     simp only
     rw [aT (by omega), ah]
     exact Ok.ret ⟨⟨j + 1, by simp, by omega, stp (.inl q)⟩, by omega⟩
    ·rw [show (!(a[(i : Int).toNat] == b[(j : Int).toNat])) = true by simpa using q, cond_true, ah]
     exact Ok.ret (.inr rfl)
   ·rw [show (Sha.sum a[i] == Sha.sum b[j]) = false by simpa using e, cond_false, ah]
    simp only
    rw [aT (by omega), ah]
    exact Ok.ret ⟨⟨j + 1, by simp, by omega, stp (.inr e)⟩, by omega⟩
  ·simp only [decide_eq_false_iff_not] at c
   obtain rfl : j = b.length := by omega
   simpa using hno
 refine Ok.bind (P := fun o => o = .inr true) ?_ fun o ho => by subst ho; exact Ok.ret rfl
 refine Ok.loop (fun s : Int => ∃ i : Nat, s = i ∧ i ≤ a.length ∧ ∀ x ∈ a.take i, ∀ y ∈ b, ¬ (x ≠ y ∧ Sha.sum x = Sha.sum y)) (fun s => a.length - s.toNat) ⟨0, rfl, by omega, by simp⟩ ?_
 rintro _ ⟨i, rfl, hi, hno⟩
 unfold dX
 refine Ok.cond (fun c => ?_) fun c => ?_
 ·simp only [decide_eq_true_eq] at c
  have hi' : i < a.length := by omega
  have hai : a[i]? = some a[i] := by simp
  rw [fQ, hai, ah, hS _ (fa _ (List.getElem_mem _)), ah, je (Sha.sum_len _), ah]
  obtain ⟨o, ho, hc⟩ := key i hi'
  rw [ho, ah]
  rcases hc with ⟨rfl, hc⟩ | rfl
  ·simp only
   rw [aT (by omega), ah]
   refine Ok.ret ⟨⟨i + 1, by simp, by omega, fun x hx => ?_⟩, by omega⟩
   rw [List.take_add_one, hai] at hx
   rcases List.mem_append.1 hx with hx | hx
   ·exact hno x hx
   ·simp only [Option.toList_some, List.mem_singleton] at hx
    subst hx; exact hc
  ·exact Ok.ret rfl
 ·simp only [decide_eq_false_iff_not] at c
  obtain rfl : i = a.length := by omega
  obtain ⟨x, hx, y, hy, hne, he⟩ := h
  exact absurd ⟨hne, he⟩ (hno x (by simpa using hx) y hy)
end
section
open Go.RowKit
set_option maxRecDepth 100000
theorem pD : ∀ (r : List (Bool × List UInt8)) (x : List UInt8), x.length ≤ 900001 → (∀ e ∈ r, e.2.length = 32) → ∀ y ∈ Sha.chain x r, y.length ≤ 1000000
 | [], x, hx, _, y, hy => by simp only [Sha.chain, List.mem_singleton] at hy; subst hy; omega
 | (s, q) :: r, x, hx, hr, y, hy => by
  simp only [Sha.chain, List.mem_cons] at hy
  rcases hy with rfl | hy
  ·omega
  ·refine pD r _ ?_ (fun e he => hr e (by simp [he])) y hy
   have := hr (s, q) (by simp)
   simp only at this
   cases s <;> simp [Sha.join, Sha.sum_len, this]
theorem re (ss : List Bool) {p : List (List UInt8)} (h : ∀ s ∈ p, s.length = 32) : ∀ e ∈ ss.zip p, e.2.length = 32 := fun e he => h _ (List.of_mem_zip he).2
theorem wc {root : List UInt8} {a b : Ans} (ha : CkOk root a) (hb : CkOk root b) (hi : 0 ≤ a.index ∧ a.index < a.count) (ei : b.index = a.index) (ec : b.count = a.count) (h1 : gF root 1 a = true) (h2 : gF root 1 b = true) (hne : ¬ (a.pos = b.pos ∧ a.entry = b.entry)) :
  ∃ x y, bB a = some x ∧ bB b = some y ∧ dE x y = some true := by
 simp only [gF, Bool.and_eq_true] at h1 h2
 obtain ⟨_, p1, c1⟩ := h1
 obtain ⟨_, p2, c2⟩ := h2
 obtain ⟨q1, q2⟩ := (pM _ _).1 p1
 obtain ⟨q3, q4⟩ := (pM _ _).1 p2
 rw [ei, ec] at c2
 have hc := ha.c2
 obtain ⟨n, hn⟩ : ∃ n : Nat, a.count = n := ⟨a.count.toNat, by omega⟩
 obtain ⟨i, hi'⟩ : ∃ i : Nat, a.index = i := ⟨a.index.toNat, by omega⟩
 have l1 := mT ha.pos a.entry
 have l2 := mT hb.pos b.entry
 have hA : bB a = some (Sha.chain (0 :: cV a.pos a.entry) ((Sha.sides n i).zip a.proof)) := by
  unfold bB
  rw [mR _ _ ha.pos.B, ah, show fh a.count a.index (cV a.pos a.entry) a.proof = some _ from if_pos ⟨hi.1, hi.2, hc, by omega, ha.proof, by have := ha.len; omega⟩, ah, hn, hi']
  rfl
 have hB : bB b = some (Sha.chain (0 :: cV b.pos b.entry) ((Sha.sides n i).zip b.proof)) := by
  unfold bB
  rw [mR _ _ hb.pos.B, ah, show fh b.count b.index (cV b.pos b.entry) b.proof = some _ from if_pos ⟨by omega, by omega, hb.c2, by omega, hb.proof, by have := hb.len; omega⟩, ah, ec, ei, hn, hi']
  rfl
 rw [hn, hi'] at c1 c2
 have hm := Sha.check_binds ha.proof hb.proof c1 c2 (fun e => hne (by
  obtain ⟨e1, e2⟩ := (xf q3 q1 q4 q2).1 e.1
  exact ⟨e1.symm, e2.symm⟩))
 refine ⟨_, _, hA, hB, xP ?_ ?_ (pD _ _ (by simp; omega) (re _ ha.proof)) (pD _ _ (by simp; omega) (re _ hb.proof)) hm⟩
 ·rw [Sha.chain_length, List.length_zip]; have := ha.len; omega
 ·rw [Sha.chain_length, List.length_zip]; have := hb.len; omega
theorem xb (l : List PRaw × List PRaw) (x : GRaw) (n : UInt8 × UInt8 × UInt8 × UInt8) : eW l x n = some true := by
 refine Ok.get ?_
 unfold eW
 refine fw tB ?_
 refine Ok.bind (sO x l.1 [3] (fun y hy => by rw [List.mem_singleton.1 hy]; omega) (by simp)) fun r hr => ?_
 refine Ok.bind (sO x l.2 [5] (fun y hy => by rw [List.mem_singleton.1 hy]; omega) (by simp)) fun t ht => ?_
 obtain ⟨p1, r1⟩ := r
 obtain ⟨p2, r2⟩ := t
 obtain ⟨hk, h10, _, _⟩ := hr
 obtain ⟨hk2, h102, _, _⟩ := ht
 simp only at hk h10 hk2 h102 ⊢
 refine Ok.cond (fun _ => Ok.ret rfl) fun z1 => Ok.cond (fun _ => Ok.ret rfl) fun z2 => ?_
 have y1 : 0 < p1.length := by simp only [beq_eq_false_iff_ne, ne_eq] at z1; omega
 have y2 : 0 < p2.length := by simp only [beq_eq_false_iff_ne, ne_eq] at z2; omega
 have lr1 := hk.len
 have lr2 := hk2.len
 obtain ⟨i, hi, hil⟩ : ∃ i : Nat, ((n.1.toNat : Int) % (p1.length : Int)) = i ∧ i < p1.length := ⟨n.1.toNat % p1.length, by omega, Nat.mod_lt _ y1⟩
 obtain ⟨j, hj, hjl⟩ : ∃ j : Nat, ((n.2.1.toNat : Int) % (p2.length : Int)) = j ∧ j < p2.length := ⟨n.2.1.toNat % p2.length, by omega, Nat.mod_lt _ y2⟩
 have hir : i < r1.length := by omega
 have hjr : j < r2.length := by omega
 refine fw (ur _ _ hk.big hk.S) (fw (je (Sha.root_len _)) ?_)
 rw [bA (by omega) (by omega), ah, hi, kg _ _ _ _ hk.big hk.S, ah, rp _ hil lr1, bA (by omega) (by omega), ah, hj, kg _ _ _ _ hk2.big hk2.S, ah, rp _ hjl lr2]
 simp only
 rw [yq rfl, cond_false, cond_false]
 have hA := sQ (ver := 1) hil hir hk (Sha.root_len (cR p1 r1))
 have hB := sQ (ver := 1) hjl hjr hk2 (Sha.root_len (cR p1 r1))
 have hon := Ar (ver := 1) hil hir hk 1
 have hAi : (lX p1 r1 1 i hil hir).index = (i : Int) := rfl
 have hAc : (lX p1 r1 1 i hil hir).count = (p1.length : Int) := rfl
 generalize lX p1 r1 1 i hil _ = A at hA hon hAi hAc ⊢
 generalize lX p2 r2 1 j hjl _ = B at hB ⊢
 refine Ok.bind (P := fun p => p = A.proof ∨ p = B.proof) ?_ fun p hp => ?_
 ·rw [bA (by omega) (by omega), ah]
  exact Ok.cond (fun _ => Ok.ret (.inl rfl)) fun _ => Ok.ret (.inr rfl)
 refine Ok.bind (P := fun v => PsS ⟨v.1, v.2.1, v.2.2.1, v.2.2.2.1, v.2.2.2.2⟩) ?_ fun v hv => ?_
 ·rw [bA (by omega) (by omega), ah]
  exact Ok.cond (fun _ => Ok.ret hA.pos) fun _ => Ok.ret hB.pos
 rw [lw 1 hA, ah, hon, beq_self_eq_true, Bool.not_true, cond_false]
 have hC : CkOk (Sha.root (cR p1 r1)) ⟨B.version, A.index, A.count, ⟨v.1, v.2.1, v.2.2.1, v.2.2.2.1, v.2.2.2.2⟩, B.entry, p⟩ := by
  refine ⟨Sha.root_len _, hv, ?_, ?_, hA.c1, hA.c2, hA.i⟩
  ·rcases hp with rfl | rfl
   ·exact hA.proof
   ·exact hB.proof
  ·rcases hp with rfl | rfl
   ·exact hA.len
   ·exact hB.len
 rw [lw 1 hC, ah]
 refine Ok.cond (fun _ => ?_) fun ck => ?_
 ·rw [cond_true, ah]; exact Ok.ret rfl
 have ck' : gF (Sha.root (cR p1 r1)) 1 ⟨B.version, A.index, A.count, ⟨v.1, v.2.1, v.2.2.1, v.2.2.2.1, v.2.2.2.2⟩, B.entry, p⟩ = true := by simpa using ck
 have hon' : gF (Sha.root (cR p1 r1)) 1 A = true := by rw [hon]; rfl
 rw [zj _ _ hA.pos.B.fit, ah]
 have fin : ¬ (A.pos = ⟨v.1, v.2.1, v.2.2.1, v.2.2.2.1, v.2.2.2.2⟩ ∧ A.entry = B.entry) → Ok (ob (bB A) fun x => ob (bB ⟨B.version, A.index, A.count, ⟨v.1, v.2.1, v.2.2.1, v.2.2.2.1, v.2.2.2.2⟩, B.entry, p⟩) fun y => ob (dE x y) fun z => some z) (· = true) := by
  intro hne
  obtain ⟨a, b, e1, e2, e3⟩ := wc hA hC (by omega) rfl rfl hon' ck' hne
  rw [e1, ah, e2, ah, e3, ah]
  exact Ok.ret rfl
 refine Ok.cond (fun cs => ?_) fun cs => ?_
 ·rw [cond_true]
  refine Ok.cond (fun _ => Ok.ret rfl) fun ce => fin ?_
  rintro ⟨_, h⟩
  rw [h] at ce
  simp at ce
 ·rw [cond_true]
  exact fin fun h => by simp [h.1] at cs
end
end Go.Proofs.YtbaccmkhjmmlnaaDoor
