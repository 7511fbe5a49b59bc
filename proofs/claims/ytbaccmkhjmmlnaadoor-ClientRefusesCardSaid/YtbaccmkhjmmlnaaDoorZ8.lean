/-
  Lemmas, part 8 of 8: walks through the program's functions, and plain Lean about what they compute.
-/
import Derived.Test.YtbaccmkhjmmlnaaDoorZ1
import Derived.Test.YtbaccmkhjmmlnaaDoorZ2
import Derived.Test.YtbaccmkhjmmlnaaDoorZ3
import Derived.Test.YtbaccmkhjmmlnaaDoorZ4
import Derived.Test.YtbaccmkhjmmlnaaDoorZ5
import Derived.Test.YtbaccmkhjmmlnaaDoorZ6
import Derived.Test.YtbaccmkhjmmlnaaDoorZ7
set_option linter.unnecessarySimpa false
set_option linter.unusedSimpArgs false
set_option linter.unusedVariables false
namespace Go.Proofs.YtbaccmkhjmmlnaaDoor
section
open Go.RowKit
set_option maxRecDepth 100000
noncomputable def f7 (a0 : List Int) (s1 : (Int × (List UInt8))) : Option ((Int × (List UInt8)) ⊕ List UInt8) :=
 bif (decide (s1.1 < (a0.length : Int))) then (
  ob (idx a0 s1.1) fun x6 =>
  ob (app s1.2 [(w8 x6)]) fun x7 =>
  ob (arI .i64 (s1.1 + 1)) fun x8 =>
  some (.inl (x8, x7))
 ) else (
  some (.inr s1.2)
 )
noncomputable def fD (a0 : List Int) : Option (List UInt8) :=
 ob ((
  bC (f7 a0) (0, ([] : List UInt8))
  : Option (List UInt8))) fun v9 =>
 some v9
set_option maxHeartbeats 4000000 in
theorem kx {a0 : List Int} {r : List UInt8} (h : fD a0 = some r) : aq Tryd.prog HG 35 [.list 1 (a0.map (aa .i64)) false] (.list 1 (r.map aL) false) := by
 unfold fD at h
 refine aq.of Tryd.func35 rfl Tryd.ntmps35 (by simp) ?_
 intro F hF h0 hT
 show Sm F _ _ ⟨[(0, .d (.list 1 (a0.map (aa .i64)) false))], [], 0⟩
 refine sr hF ?_
 refine gv hF oA ?_
 refine sn ?_
 refine sr hF ?_
 refine gv hF oA ?_
 refine sn ?_
 refine Sm.seq ?_
 obtain ⟨v9, hv9, h⟩ := ab h
 refine bk ⟨[(3, .d (.list 1 (v9.map aL) false))], [], 1⟩ ?_ ?_
 ·refine Sm.seq ?_
  refine ac hF rfl ?_
  refine gv hF oM ?_
  refine gv hF oA ?_
  refine sn ?_
  refine Sm.ret ?_
  obtain rfl := ae h
  exact bM rfl rfl
 replace h := hv9
 refine sr hF ?_
 refine gv hF oM ?_
 refine gv hF (oN (bF u30)) ?_
 refine gv hF oM ?_
 refine sn ?_
 refine Sm.block ?_
 refine Sm.to (toK (e := [(3, .d (.list 0 [] true)), (6, .d (.list 1 (a0.map (aa .i64)) false)), (7, .d (.v (.int .i64 (a0.length : Int)))), (8, .d (.v (.int .i64 0)))]) (g := []) (m := 0) ⟨rfl, rfl, rfl, rfl, trivial⟩ trivial) ?_
 refine Sm.own (t := 3) 1 rfl ?_
 refine bV (f7 a0) (fun s1 => ⟨[(3, .sref 0 0 (s1.2.map aL).length), (6, .d (.list 1 (a0.map (aa .i64)) false)), (7, .d (.v (.int .i64 (a0.length : Int)))), (8, .d (.v (.int .i64 s1.1)))], [(0, dB 1 (s1.2.map aL))], 1⟩) (0, ([] : List UInt8)) h (toK ⟨rfl, rfl, rfl, rfl, trivial⟩ ⟨rfl, trivial⟩) ?_
 intro n2 s1 o3 h hd4
 unfold f7 at h
 refine sr hF ?_
 refine gv hF (oB (bP)) ?_
 refine sn ?_
 refine Sm.seq ?_
 refine aU hF rfl (fun hc5 => ?_) (fun hc5 => ?_)
 ·replace h := ifF hc5 h
  refine Sm.exit ?_
  replace h := bc h hd4
  obtain rfl := ae h
  exact (aV (toK (e := [(3, .sref 0 0 (s1.2.map aL).length)]) (g := [(0, dB 1 (s1.2.map aL))]) (m := 1) ⟨rfl, trivial⟩ ⟨rfl, trivial⟩) (bu (l := 0) (sz := 1) (env' := [(3, .d (.list 1 (s1.2.map aL) false))]) (h' := []) (nx := 1) (s1.2.map aL) rfl ⟨⟨_, rfl, cj⟩, trivial⟩ trivial))
 replace h := ifT hc5 h
 refine sk ?_
 refine Sm.seq ?_
 refine Sm.block ?_
 refine sr hF ?_
 obtain ⟨x6, hx6, h⟩ := ab h
 refine gv hF (oI (cE u30 sz3 hx6)) ?_
 refine gv hF (oL (lP1 ag3 rfl)) ?_
 refine gv hF oA ?_
 refine sn ?_
 refine ac hF rfl ?_
 refine gv hF oM ?_
 refine gv hF oM ?_
 refine gv hF (oC (iH u3 u5)) ?_
 refine gv hF (x := .d (.list 1 ([(w8 x6)].map aL) true)) (oS (az u24 sz5 ze5 rfl rfl (PartsQ.cons rfl (PartsQ.nil _)) rfl)) ?_
 obtain ⟨x7, hx7, h⟩ := ab h
 refine aZ hF m6 rfl (ys := [(w8 x6)]) (row := aL) rfl rfl rfl rfl rfl rfl rfl rfl (.inl rfl) hx7 (by (repeat' first | exact bD _ | refine bq ?_ | refine au ?_ (aW _ _ _) | refine au ?_ (aW _ _ [_]) | refine au ?_ (bU (by rfl)))) ?_
 refine gv hF oA ?_
 refine SmG.nil ?_
 refine ay ?_
 refine ag ?_
 refine ac hF rfl ?_
 obtain ⟨x8, hx8, h⟩ := ab h
 refine gv hF (oB (a8 hx8)) ?_
 refine gv hF oM ?_
 refine SmG.nil ?_
 exact bZ (bH h hd4) (toK ⟨rfl, rfl, rfl, rfl, trivial⟩ ⟨rfl, trivial⟩)
noncomputable def iN (x1 : List Int) (s2 : (Int × (List UInt8))) : Option ((Int × (List UInt8)) ⊕ List UInt8) :=
 bif (decide (s2.1 < (x1.length : Int))) then (
  ob (idx x1 s2.1) fun x7 =>
  ob (app s2.2 [(w8 x7)]) fun x8 =>
  ob (arI .i64 (s2.1 + 1)) fun x9 =>
  some (.inl (x9, x8))
 ) else (
  some (.inr s2.2)
 )
noncomputable def jD (a0 : Ps) : Option (List UInt8) :=
 ob ((
  ob (dl ([a0.at_, a0.h0, a0.h1, [a0.rights, a0.side]])) fun x1 =>
  bC (iN x1) (0, ([] : List UInt8))
  : Option (List UInt8))) fun v10 =>
 some v10
set_option maxHeartbeats 4000000 in
theorem sG {a0 : Ps} {r : List UInt8} (h : jD a0 = some r) : aq Tryd.prog HG 37 [.agg 5 (Ps.row a0)] (.v (.string ⟨(r : List UInt8).toArray⟩)) := by
 unfold jD at h
 refine aq.of Tryd.func37 rfl Tryd.ntmps37 (by simp) ?_
 intro F hF h0 hT
 show Sm F _ _ ⟨[(0, .d (.agg 5 (Ps.row a0)))], [], 0⟩
 refine sr hF ?_
 refine cG hF gu ?_
 refine gv hF oA ?_
 refine sn ?_
 refine sr hF ?_
 refine gv hF oA ?_
 refine sn ?_
 refine Sm.seq ?_
 obtain ⟨v10, hv10, h⟩ := ab h
 refine bk ⟨[(3, .d (.list 1 (v10.map aL) false))], [], 2⟩ ?_ ?_
 ·refine Sm.seq ?_
  refine ac hF rfl ?_
  refine gv hF oM ?_
  refine gv hF (oC (pL u24 u9 u5)) ?_
  refine gv hF oA ?_
  refine sn ?_
  refine Sm.ret ?_
  obtain rfl := ae h
  exact bM rfl rfl
 replace h := hv10
 refine sr hF ?_
 refine gv hF (oF (aj gY rfl)) ?_
 refine gv hF (oL (lP1 ep rfl)) ?_
 refine gv hF (oF (aj fp rfl)) ?_
 refine gv hF (oI (cF u31 eI rfl rfl)) ?_
 refine gv hF (oL (lP1 ep rfl)) ?_
 refine gv hF (oF (aj fp rfl)) ?_
 refine gv hF (oI (cF u31 eI rfl rfl)) ?_
 refine gv hF (oL (lP1 ep rfl)) ?_
 refine gv hF (oF (aj r5 rfl)) ?_
 refine gv hF (oL (lP1 ag3 rfl)) ?_
 refine gv hF (oF (aj pj rfl)) ?_
 refine gv hF (oL (lP1 ag3 rfl)) ?_
 refine gv hF (x := .d (.list 1 ([a0.rights, a0.side].map (aa .i64)) true)) (oS (az u30 sz3 ze3 rfl rfl (PartsQ.cons rfl (PartsQ.cons rfl (PartsQ.nil _))) rfl)) ?_
 refine cV (cc (env' := [(3, .d (.list 0 [] true)), (7, .d (.list 1 (a0.at_.map (aa .i64)) false)), (10, .d (.list 1 (a0.h0.map (aa .i64)) false)), (13, .d (.list 1 (a0.h1.map (aa .i64)) false)), (18, .d (.list 1 ([a0.rights, a0.side].map (aa .i64)) false))]) (h' := []) (nx' := 0) ⟨⟨_, rfl, V.le.refl _⟩, ⟨_, rfl, V.le.refl _⟩, ⟨_, rfl, V.le.refl _⟩, ⟨_, rfl, V.le.refl _⟩, ⟨_, rfl, V.le.d (by repeat' first | exact D.le.refl _ | exact aE _ _ _ | exact aD _ _ _ | refine aI ?_ | exact LeRows.nil | refine LeRows.cons ?_ ?_ | exact LeL.nil | refine LeL.cons ?_ ?_ | refine aH ?_ | refine aG ?_)⟩, trivial⟩ trivial (Nat.le_of_ble_eq_true rfl)) rfl ?_
 refine gv hF (x := .d (.list 1 ([a0.at_, a0.h0, a0.h1, [a0.rights, a0.side]].map (aw 1 (aa .i64))) true)) (oS (az u71 eI ug rfl rfl (PartsQ.cons rfl (PartsQ.cons rfl (PartsQ.cons rfl (PartsQ.cons rfl (PartsQ.nil _))))) rfl)) ?_
 obtain ⟨x1, hx1, h⟩ := ab h
 refine SmG.callO hF rfl rfl (by kernel_rfl) rfl rfl rfl (d8.args (jT hx1) (fun C => (bT (by repeat' first | exact D.le.refl _ | exact aE _ _ _ | exact aD _ _ _ | refine aI ?_ | exact LeRows.nil | refine LeRows.cons ?_ ?_ | exact LeL.nil | refine LeL.cons ?_ ?_ | refine aH ?_ | refine aG ?_) (fun _ h => h)))) ?_
 refine gv hF (oN (Az u30)) ?_
 refine gv hF oM ?_
 refine sn ?_
 refine Sm.block ?_
 refine Sm.to (toK (e := [(3, .d (.list 0 [] true)), (20, .sref 0 0 (x1.map (aa .i64)).length), (21, .d (.v (.int .i64 (x1.length : Int)))), (22, .d (.v (.int .i64 0)))]) (g := [(0, dB 1 (x1.map (aa .i64)))]) (m := 1) ⟨rfl, rfl, rfl, rfl, trivial⟩ ⟨rfl, trivial⟩) ?_
 refine Sm.own (t := 3) 1 rfl ?_
 refine bV (iN x1) (fun s2 => ⟨[(3, .sref 1 0 (s2.2.map aL).length), (20, .sref 0 0 (x1.map (aa .i64)).length), (21, .d (.v (.int .i64 (x1.length : Int)))), (22, .d (.v (.int .i64 s2.1)))], [(1, dB 1 (s2.2.map aL)), (0, dB 1 (x1.map (aa .i64)))], 2⟩) (0, ([] : List UInt8)) h (toK ⟨rfl, rfl, rfl, rfl, trivial⟩ ⟨rfl, rfl, trivial⟩) ?_
 intro n3 s2 o4 h hd5
 unfold iN at h
 refine sr hF ?_
 refine gv hF (oB (bP)) ?_
 refine sn ?_
 refine Sm.seq ?_
 refine aU hF rfl (fun hc6 => ?_) (fun hc6 => ?_)
 ·replace h := ifF hc6 h
  refine Sm.exit ?_
  replace h := bc h hd5
  obtain rfl := ae h
  exact (aV (toK (e := [(3, .sref 1 0 (s2.2.map aL).length)]) (g := [(1, dB 1 (s2.2.map aL))]) (m := 2) ⟨rfl, trivial⟩ ⟨rfl, trivial⟩) (bu (l := 1) (sz := 1) (env' := [(3, .d (.list 1 (s2.2.map aL) false))]) (h' := []) (nx := 2) (s2.2.map aL) rfl ⟨⟨_, rfl, cj⟩, trivial⟩ trivial))
 replace h := ifT hc6 h
 refine sk ?_
 refine Sm.seq ?_
 refine Sm.block ?_
 refine sr hF ?_
 obtain ⟨x7, hx7, h⟩ := ab h
 refine gv hF (oI (my u30 sz3 rfl hx7)) ?_
 refine gv hF (oL (yz rfl hx7 ag3 rfl)) ?_
 refine gv hF oA ?_
 refine sn ?_
 refine ac hF rfl ?_
 refine gv hF oM ?_
 refine gv hF oM ?_
 refine gv hF (oC (iH u3 u5)) ?_
 refine gv hF (x := .d (.list 1 ([(w8 x7)].map aL) true)) (oS (az u24 sz5 ze5 rfl rfl (PartsQ.cons rfl (PartsQ.nil _)) rfl)) ?_
 obtain ⟨x8, hx8, h⟩ := ab h
 refine aZ hF m6 rfl (ys := [(w8 x7)]) (row := aL) rfl rfl rfl rfl rfl rfl rfl rfl (.inl rfl) hx8 (by (repeat' first | exact bD _ | refine bq ?_ | refine au ?_ (aW _ _ _) | refine au ?_ (aW _ _ [_]) | refine au ?_ (bU (by rfl)))) ?_
 refine gv hF oA ?_
 refine SmG.nil ?_
 refine ay ?_
 refine ag ?_
 refine ac hF rfl ?_
 obtain ⟨x9, hx9, h⟩ := ab h
 refine gv hF (oB (a8 hx9)) ?_
 refine gv hF oM ?_
 refine SmG.nil ?_
 exact bZ (bH h hd5) (toK ⟨rfl, rfl, rfl, rfl, trivial⟩ ⟨rfl, rfl, trivial⟩)
noncomputable def fo (a0 : Ps) (a1 : Rs) : Option (List UInt8) :=
 ob (fD [(a0.at_.length : Int), (a0.h0.length : Int), (a0.h1.length : Int)]) fun x1 =>
 ob (jD a0) fun x2 =>
 ob (oK x2) fun x3 =>
 ob (jg .i64 a1.n 24) fun x4 =>
 ob (jg .i64 a1.n 16) fun x5 =>
 ob (jg .i64 a1.n 8) fun x6 =>
 ob (fD [a1.out, x4, x5, x6, a1.n]) fun x7 =>
 ob (cS [x1, x3, x7]) fun x8 =>
 some x8
set_option maxHeartbeats 4000000 in
theorem i6 {a0 : Ps} {a1 : Rs} {r : List UInt8} (h : fo a0 a1 = some r) : aq Tryd.prog HG 13 [.agg 5 (Ps.row a0), .agg 2 (Rs.row a1)] (.list 1 (r.map aL) false) := by
 unfold fo at h
 refine aq.of Tryd.func13 rfl Tryd.ntmps13 (by simp) ?_
 intro F hF h0 hT
 show Sm F _ _ ⟨[(0, .d (.agg 5 (Ps.row a0))), (1, .d (.agg 2 (Rs.row a1)))], [], 0⟩
 refine sr hF ?_
 refine cG hF gu ?_
 refine cG hF gu ?_
 refine gv hF oA ?_
 refine sn ?_
 refine sr hF ?_
 refine gv hF (oF (aj gY rfl)) ?_
 refine gv hF (oL (lP1 ep rfl)) ?_
 refine gv hF (oN (bF u30)) ?_
 refine gv hF (oF (aj fp rfl)) ?_
 refine gv hF (oI (cF u31 eI rfl rfl)) ?_
 refine gv hF (oL (lP1 ep rfl)) ?_
 refine gv hF (oN (bF u30)) ?_
 refine gv hF (oF (aj fp rfl)) ?_
 refine gv hF (oI (cF u31 eI rfl rfl)) ?_
 refine gv hF (oL (lP1 ep rfl)) ?_
 refine gv hF (oN (bF u30)) ?_
 refine gv hF (x := .d (.list 1 ([(a0.at_.length : Int), (a0.h0.length : Int), (a0.h1.length : Int)].map (aa .i64)) true)) (oS (az u30 sz3 ze3 rfl rfl (PartsQ.cons rfl (PartsQ.cons rfl (PartsQ.cons rfl (PartsQ.nil _)))) rfl)) ?_
 obtain ⟨x1, hx1, h⟩ := ab h
 refine SmG.call hF rfl rfl (by kernel_rfl) rfl rfl rfl (aq.args (kx hx1) (fun C => (bT (by repeat' first | exact D.le.refl _ | exact aE _ _ _ | exact aD _ _ _ | refine aI ?_ | exact LeRows.nil | refine LeRows.cons ?_ ?_ | exact LeL.nil | refine LeL.cons ?_ ?_ | refine aH ?_ | refine aG ?_) (fun _ h => h)))) ?_
 refine gv hF oA ?_
 refine sn ?_
 refine Sm.seq ?_
 refine bm hF (by kernel_rfl) rfl 19 (by kernel_rfl) (by kernel_rfl) ?_
 simp only [List.take_succ_cons, List.take_zero, List.take_nil]
 refine hv hF oM ?_
 refine hv hF (x := .d (.agg 5 (Ps.row a0))) (oL (fa gJ eu rfl rfl)) ?_
 obtain ⟨x2, hx2, h⟩ := ab h
 refine af.c hF rfl rfl (by kernel_rfl) rfl rfl rfl (sG hx2) ?_
 obtain ⟨x3, hx3, h⟩ := ab h
 refine af.ofString hF rfl rfl rfl rfl rfl Tryd.underlying9 Tryd.underlying24 Tryd.underlying5 hx3 ?_
 refine hv hF (oF (aj oV rfl)) ?_
 refine hv hF (oL (lP1 ag3 rfl)) ?_
 refine hv hF (oF (aj jA rfl)) ?_
 refine hv hF (oL (lP1 ag3 rfl)) ?_
 obtain ⟨x4, hx4, h⟩ := ab h
 refine hv hF (oB (kv hx4)) ?_
 refine hv hF (oF (aj jA rfl)) ?_
 refine hv hF (oL (lP1 ag3 rfl)) ?_
 obtain ⟨x5, hx5, h⟩ := ab h
 refine hv hF (oB (kv hx5)) ?_
 refine hv hF (oF (aj jA rfl)) ?_
 refine hv hF (oL (lP1 ag3 rfl)) ?_
 obtain ⟨x6, hx6, h⟩ := ab h
 refine hv hF (oB (kv hx6)) ?_
 refine hv hF (oF (aj jA rfl)) ?_
 refine hv hF (oL (lP1 ag3 rfl)) ?_
 refine hv hF (x := .d (.list 1 ([a1.out, x4, x5, x6, a1.n].map (aa .i64)) true)) (oS (az u30 sz3 ze3 rfl rfl (PartsQ.cons rfl (PartsQ.cons rfl (PartsQ.cons rfl (PartsQ.cons rfl (PartsQ.cons rfl (PartsQ.nil _)))))) rfl)) ?_
 obtain ⟨x7, hx7, h⟩ := ab h
 refine af.c hF rfl rfl (by kernel_rfl) rfl rfl rfl (aq.args (kx hx7) (fun C => (bT (by repeat' first | exact D.le.refl _ | exact aE _ _ _ | exact aD _ _ _ | refine aI ?_ | exact LeRows.nil | refine LeRows.cons ?_ ?_ | exact LeL.nil | refine LeL.cons ?_ ?_ | refine aH ?_ | refine aG ?_) (fun _ h => h)))) ?_
 refine af.last ⟨rfl, ?_⟩
 simp only [List.drop_succ_cons, List.drop_zero, List.drop_nil, List.nil_append, List.cons_append]
 refine gv hF (x := .d (.list 1 ([x1, x3, x7].map fV) true)) (oS (az u61 ln wJ rfl rfl (PartsQ.cons rfl (PartsQ.cons rfl (PartsQ.cons rfl (PartsQ.nil _)))) rfl)) ?_
 obtain ⟨x8, hx8, h⟩ := ab h
 refine SmG.callO hF rfl rfl (by kernel_rfl) rfl rfl rfl (d8.args (jc hx8) (fun C => (bT (by repeat' first | exact D.le.refl _ | exact aE _ _ _ | exact aD _ _ _ | refine aI ?_ | exact LeRows.nil | refine LeRows.cons ?_ ?_ | exact LeL.nil | refine LeL.cons ?_ ?_ | refine aH ?_ | refine aG ?_) (fun _ h => h)))) ?_
 refine gv hF oA ?_
 refine sn ?_
 refine Sm.to (aV (toK (e := [(4, .sref 0 0 (x8.map aL).length)]) (g := [(0, dB 1 (x8.map aL))]) (m := 1) ⟨rfl, trivial⟩ ⟨rfl, trivial⟩) (bu (l := 0) (sz := 1) (env' := [(4, .d (.list 1 (x8.map aL) false))]) (h' := []) (nx := 1) (x8.map aL) rfl ⟨⟨_, rfl, cj⟩, trivial⟩ trivial)) ?_
 refine Sm.ret ?_
 obtain rfl := ae h
 exact bM rfl rfl
noncomputable def ek (a0 : List Ps) (a1 : List Rs) (s1 : (Int × (List (List UInt8)))) : Option ((Int × (List (List UInt8))) ⊕ List (List UInt8)) :=
 bif (decide (s1.1 < (min (a0.length : Int) (a1.length : Int)))) then (
  ob (idx a0 s1.1) fun x6 =>
  ob (idx a1 s1.1) fun x7 =>
  ob (fo x6 x7) fun x8 =>
  ob (app s1.2 [x8]) fun x9 =>
  ob (arI .i64 (s1.1 + 1)) fun x10 =>
  some (.inl (x10, x9))
 ) else (
  some (.inr s1.2)
 )
noncomputable def fg (a0 : List Ps) (a1 : List Rs) : Option (List (List UInt8)) :=
 ob ((
  bC (ek a0 a1) (0, ([] : List (List UInt8)))
  : Option (List (List UInt8)))) fun v11 =>
 some v11
set_option maxHeartbeats 4000000 in
theorem j4 {a0 : List Ps} {a1 : List Rs} {r : List (List UInt8)} (h : fg a0 a1 = some r) : aq Tryd.prog HG 33 [.list 5 (a0.map Ps.row) false, .list 2 (a1.map Rs.row) false] (.list 1 (r.map fV) false) := by
 unfold fg at h
 refine aq.of Tryd.func33 rfl Tryd.ntmps33 (by simp) ?_
 intro F hF h0 hT
 show Sm F _ _ ⟨[(0, .d (.list 5 (a0.map Ps.row) false)), (1, .d (.list 2 (a1.map Rs.row) false))], [], 0⟩
 refine sr hF ?_
 refine gv hF oA ?_
 refine sn ?_
 refine sr hF ?_
 refine gv hF oA ?_
 refine sn ?_
 refine Sm.seq ?_
 obtain ⟨v11, hv11, h⟩ := ab h
 refine bk ⟨[(5, .d (.list 1 (v11.map fV) false))], [], 1⟩ ?_ ?_
 ·refine Sm.seq ?_
  refine ac hF rfl ?_
  refine gv hF oM ?_
  refine gv hF oA ?_
  refine sn ?_
  refine Sm.ret ?_
  obtain rfl := ae h
  exact bM rfl rfl
 replace h := hv11
 refine sr hF ?_
 refine gv hF oM ?_
 refine gv hF (oN (bF u40)) ?_
 refine gv hF oM ?_
 refine gv hF (oN (bF u41)) ?_
 refine gv hF (xP rfl rfl rfl y3) ?_
 refine gv hF oM ?_
 refine sn ?_
 refine Sm.block ?_
 refine Sm.to (toK (e := [(0, .d (.list 5 (a0.map Ps.row) false)), (1, .d (.list 2 (a1.map Rs.row) false)), (5, .d (.list 0 [] true)), (11, .d (.v (.int .i64 (min (a0.length : Int) (a1.length : Int))))), (12, .d (.v (.int .i64 0)))]) (g := []) (m := 0) ⟨rfl, rfl, rfl, rfl, rfl, trivial⟩ trivial) ?_
 refine Sm.own (t := 5) 1 rfl ?_
 refine bV (ek a0 a1) (fun s1 => ⟨[(0, .d (.list 5 (a0.map Ps.row) false)), (1, .d (.list 2 (a1.map Rs.row) false)), (5, .sref 0 0 (s1.2.map fV).length), (11, .d (.v (.int .i64 (min (a0.length : Int) (a1.length : Int))))), (12, .d (.v (.int .i64 s1.1)))], [(0, dB 1 (s1.2.map fV))], 1⟩) (0, ([] : List (List UInt8))) h (toK ⟨rfl, rfl, rfl, rfl, rfl, trivial⟩ ⟨rfl, trivial⟩) ?_
 intro n2 s1 o3 h hd4
 unfold ek at h
 refine sr hF ?_
 refine gv hF (oB (bP)) ?_
 refine sn ?_
 refine Sm.seq ?_
 refine aU hF rfl (fun hc5 => ?_) (fun hc5 => ?_)
 ·replace h := ifF hc5 h
  refine Sm.exit ?_
  replace h := bc h hd4
  obtain rfl := ae h
  exact (aV (toK (e := [(5, .sref 0 0 (s1.2.map fV).length)]) (g := [(0, dB 1 (s1.2.map fV))]) (m := 1) ⟨rfl, trivial⟩ ⟨rfl, trivial⟩) (bu (l := 0) (sz := 1) (env' := [(5, .d (.list 1 (s1.2.map fV) false))]) (h' := []) (nx := 1) (s1.2.map fV) rfl ⟨⟨_, rfl, cj⟩, trivial⟩ trivial))
 replace h := ifT hc5 h
 refine sk ?_
 refine Sm.seq ?_
 refine Sm.block ?_
 refine sr hF ?_
 refine gv hF oM ?_
 refine gv hF oA ?_
 refine sn ?_
 refine bm hF (by kernel_rfl) rfl 11 (by kernel_rfl) (by kernel_rfl) ?_
 simp only [List.take_succ_cons, List.take_zero, List.take_nil]
 refine hv hF oM ?_
 refine hv hF oM ?_
 refine hv hF oM ?_
 obtain ⟨x6, hx6, h⟩ := ab h
 refine hv hF (oI (cE u40 eu hx6)) ?_
 refine hv hF (x := .d (.agg 5 (Ps.row x6))) (oL (fa gJ eu rfl rfl)) ?_
 refine hv hF oM ?_
 refine hv hF oM ?_
 obtain ⟨x7, hx7, h⟩ := ab h
 refine hv hF (oI (cE u41 fL hx7)) ?_
 refine hv hF (x := .d (.agg 2 (Rs.row x7))) (oL (fa kw fL rfl rfl)) ?_
 obtain ⟨x8, hx8, h⟩ := ab h
 refine af.c hF rfl rfl (by kernel_rfl) rfl rfl rfl (i6 hx8) ?_
 refine hv hF (x := .d (.list 1 ([x8].map fV) true)) (oS (az u61 ln wJ rfl rfl (PartsQ.cons rfl (PartsQ.nil _)) rfl)) ?_
 refine af.last ⟨rfl, ?_⟩
 simp only [List.drop_succ_cons, List.drop_zero, List.drop_nil, List.nil_append, List.cons_append]
 obtain ⟨x9, hx9, h⟩ := ab h
 refine aZ hF DT rfl (ys := [x8]) (row := fV) rfl rfl rfl rfl rfl rfl rfl rfl (.inl rfl) hx9 (by (repeat' first | exact bD _ | refine bq ?_ | refine au ?_ (aW _ _ _) | refine au ?_ (aW _ _ [_]) | refine au ?_ (bU (by rfl)))) ?_
 refine gv hF oA ?_
 refine SmG.nil ?_
 refine ay ?_
 refine ag ?_
 refine ac hF rfl ?_
 obtain ⟨x10, hx10, h⟩ := ab h
 refine gv hF (oB (a8 hx10)) ?_
 refine gv hF oM ?_
 refine SmG.nil ?_
 exact bZ (bH h hd4) (toK ⟨rfl, rfl, rfl, rfl, rfl, trivial⟩ ⟨rfl, trivial⟩)
noncomputable def fi (a0 : List Ps) (a1 : List Rs) : Option (List UInt8) :=
 ob (fg a0 a1) fun x1 =>
 ob (jx x1) fun x2 =>
 ob (vN 32 x2) fun x3 =>
 some x2
set_option maxHeartbeats 4000000 in
theorem kY {a0 : List Ps} {a1 : List Rs} {r : List UInt8} (h : fi a0 a1 = some r) : aq Tryd.prog HG 11 [.list 5 (a0.map Ps.row) false, .list 2 (a1.map Rs.row) false] (.agg 32 (aS r)) := by
 unfold fi at h
 refine aq.of Tryd.func11 rfl Tryd.ntmps11 (by simp) ?_
 intro F hF h0 hT
 show Sm F _ _ ⟨[(0, .d (.list 5 (a0.map Ps.row) false)), (1, .d (.list 2 (a1.map Rs.row) false))], [], 0⟩
 refine sr hF ?_
 refine SmG.new hF rfl rfl rfl (aT rfl oJ) ?_
 refine sn ?_
 refine sr hF ?_
 refine gv hF oM ?_
 refine gv hF oM ?_
 obtain ⟨x1, hx1, h⟩ := ab h
 refine SmG.call hF rfl rfl (by kernel_rfl) rfl rfl rfl (j4 hx1) ?_
 obtain ⟨x2, hx2, h⟩ := ab h
 refine SmG.call hF rfl rfl (by kernel_rfl) rfl rfl rfl (qN hx2) ?_
 obtain ⟨x3, hx3, h⟩ := ab h
 refine SmG.store hF rfl rfl rfl rfl rfl (nG rfl rfl iB rfl (lT hx3)) ?_
 refine sn ?_
 refine Sm.ret ?_
 obtain rfl := ae h
 exact dD (RetR.cons (RetO.cell rfl (jI rfl lu iB)) (RetR.nil)) (D.le.refl _)
noncomputable def cb (a0 : List Ps) (a1 : List Rs) (a2 : Int) (a3 : Int) : Option (Ans × Int) :=
 bif ((a0.length : Int) != (a1.length : Int)) then (
  some ((⟨0, 0, 0, (⟨[], [], [], 0, 0⟩ : Ps), (⟨0, 0⟩ : Rs), []⟩ : Ans), 1)
 ) else (
  ob (fg a0 a1) fun x2 =>
  ob (fJ x2 a3) fun x3 =>
  bif (x3.2 != 0) then (
   some ((⟨0, 0, 0, (⟨[], [], [], 0, 0⟩ : Ps), (⟨0, 0⟩ : Rs), []⟩ : Ans), x3.2)
  ) else (
   ob (idx a0 a3) fun x5 =>
   ob (idx a1 a3) fun x6 =>
   some ((⟨a2, a3, (a0.length : Int), x5, x6, x3.1⟩ : Ans), 0)
  )
 )
set_option maxHeartbeats 4000000 in
theorem eG {a0 : List Ps} {a1 : List Rs} {a2 : Int} {a3 : Int} {r : (Ans × Int)} (h : cb a0 a1 a2 a3 = some r) : aq Tryd.prog HG 15 [.list 5 (a0.map Ps.row) false, .list 2 (a1.map Rs.row) false, .v (.int .i64 a2), .v (.int .i64 a3)] (.tup [.agg 11 (Ans.row r.1), .v (.int .i64 r.2)]) := by
 unfold cb at h
 refine aq.of Tryd.func15 rfl Tryd.ntmps15 (by simp) ?_
 intro F hF h0 hT
 show Sm F _ _ ⟨[(0, .d (.list 5 (a0.map Ps.row) false)), (1, .d (.list 2 (a1.map Rs.row) false)), (2, .d (.v (.int .i64 a2))), (3, .d (.v (.int .i64 a3)))], [], 0⟩
 refine sr hF ?_
 refine SmG.new hF rfl rfl rfl (aT rfl lm) ?_
 refine gv hF oA ?_
 refine sn ?_
 refine Sm.seq ?_
 refine sr hF ?_
 refine gv hF oM ?_
 refine gv hF (oN (bF u40)) ?_
 refine gv hF oM ?_
 refine gv hF (oN (bF u41)) ?_
 refine gv hF (oB (nJ)) ?_
 refine sn ?_
 refine bA hF rfl (fun hc1 => ?_) (fun hc1 => ?_)
 ·replace h := ifT hc1 h
  refine sr hF ?_
  refine gv hF (x := .d (.agg 11 [.v (.int .i64 0), .v (.int .i64 0), .v (.int .i64 0), .list 0 [] true, .list 0 [] true, .list 0 [] true, .v (.int .i64 0), .v (.int .i64 0), .v (.int .i64 0), .v (.int .i64 0), .list 0 [] true])) (aY rfl u38 (by kernel_rfl) rfl zr) ?_
  refine SmG.store hF rfl rfl rfl rfl rfl (aX (ys := [.d (.v (.int .i64 0)), .d (.v (.int .i64 0)), .d (.v (.int .i64 0)), .d (.list 0 [] true), .d (.list 0 [] true), .d (.list 0 [] true), .d (.v (.int .i64 0)), .d (.v (.int .i64 0)), .d (.v (.int .i64 0)), .d (.v (.int .i64 0)), .d (.list 0 [] true)]) (r := [.d (.v (.int .i64 0)), .d (.v (.int .i64 0)), .d (.v (.int .i64 0)), .d (.list 0 [] true), .d (.list 0 [] true), .d (.list 0 [] true), .d (.v (.int .i64 0)), .d (.v (.int .i64 0)), .d (.v (.int .i64 0)), .d (.v (.int .i64 0)), .d (.list 0 [] true)]) (rows' := [[.d (.v (.int .i64 0)), .d (.v (.int .i64 0)), .d (.v (.int .i64 0)), .d (.list 0 [] true), .d (.list 0 [] true), .d (.list 0 [] true), .d (.v (.int .i64 0)), .d (.v (.int .i64 0)), .d (.v (.int .i64 0)), .d (.v (.int .i64 0)), .d (.list 0 [] true)]]) rfl rfl rfl eX rfl rfl rfl rfl rfl) ?_
  refine gv hF oA ?_
  refine sn ?_
  refine Sm.ret ?_
  obtain rfl := ae h
  exact dD (RetR.cons (RetO.cell rfl (aC (ds := [.v (.int .i64 0), .v (.int .i64 0), .v (.int .i64 0), .list 0 [] true, .list 0 [] true, .list 0 [] true, .v (.int .i64 0), .v (.int .i64 0), .v (.int .i64 0), .v (.int .i64 0), .list 0 [] true]) rfl rfl iP eX rfl rfl)) (RetR.cons (RetO.tmp rfl) (RetR.nil))) (by repeat' first | exact D.le.refl _ | exact aE _ _ _ | exact aD _ _ _ | refine aI ?_ | exact LeRows.nil | refine LeRows.cons ?_ ?_ | exact LeL.nil | refine LeL.cons ?_ ?_ | refine aH ?_ | refine aG ?_)
 replace h := ifF hc1 h
 refine sk ?_
 refine sr hF ?_
 refine gv hF oM ?_
 refine gv hF oM ?_
 obtain ⟨x2, hx2, h⟩ := ab h
 refine SmG.call hF rfl rfl (by kernel_rfl) rfl rfl rfl (j4 hx2) ?_
 refine gv hF oM ?_
 obtain ⟨x3, hx3, h⟩ := ab h
 refine SmG.call hF rfl rfl (by kernel_rfl) rfl rfl rfl (pO hx3) ?_
 refine gv hF oM ?_
 refine gv hF (bx rfl rfl rfl) ?_
 refine gv hF (bx rfl rfl rfl) ?_
 refine gv hF oA ?_
 refine gv hF oA ?_
 refine sn ?_
 refine Sm.seq ?_
 refine sr hF ?_
 refine gv hF oM ?_
 refine gv hF (oB (nJ)) ?_
 refine sn ?_
 refine bA hF rfl (fun hc4 => ?_) (fun hc4 => ?_)
 ·replace h := ifT hc4 h
  refine sr hF ?_
  refine gv hF (x := .d (.agg 11 [.v (.int .i64 0), .v (.int .i64 0), .v (.int .i64 0), .list 0 [] true, .list 0 [] true, .list 0 [] true, .v (.int .i64 0), .v (.int .i64 0), .v (.int .i64 0), .v (.int .i64 0), .list 0 [] true])) (aY rfl u38 (by kernel_rfl) rfl zr) ?_
  refine gv hF oM ?_
  refine SmG.store hF rfl rfl rfl rfl rfl (aX (ys := [.d (.v (.int .i64 0)), .d (.v (.int .i64 0)), .d (.v (.int .i64 0)), .d (.list 0 [] true), .d (.list 0 [] true), .d (.list 0 [] true), .d (.v (.int .i64 0)), .d (.v (.int .i64 0)), .d (.v (.int .i64 0)), .d (.v (.int .i64 0)), .d (.list 0 [] true)]) (r := [.d (.v (.int .i64 0)), .d (.v (.int .i64 0)), .d (.v (.int .i64 0)), .d (.list 0 [] true), .d (.list 0 [] true), .d (.list 0 [] true), .d (.v (.int .i64 0)), .d (.v (.int .i64 0)), .d (.v (.int .i64 0)), .d (.v (.int .i64 0)), .d (.list 0 [] true)]) (rows' := [[.d (.v (.int .i64 0)), .d (.v (.int .i64 0)), .d (.v (.int .i64 0)), .d (.list 0 [] true), .d (.list 0 [] true), .d (.list 0 [] true), .d (.v (.int .i64 0)), .d (.v (.int .i64 0)), .d (.v (.int .i64 0)), .d (.v (.int .i64 0)), .d (.list 0 [] true)]]) rfl rfl rfl eX rfl rfl rfl rfl rfl) ?_
  refine gv hF oA ?_
  refine sn ?_
  refine Sm.ret ?_
  obtain rfl := ae h
  exact dD (RetR.cons (RetO.cell rfl (aC (ds := [.v (.int .i64 0), .v (.int .i64 0), .v (.int .i64 0), .list 0 [] true, .list 0 [] true, .list 0 [] true, .v (.int .i64 0), .v (.int .i64 0), .v (.int .i64 0), .v (.int .i64 0), .list 0 [] true]) rfl rfl iP eX rfl rfl)) (RetR.cons (RetO.tmp rfl) (RetR.nil))) (by repeat' first | exact D.le.refl _ | exact aE _ _ _ | exact aD _ _ _ | refine aI ?_ | exact LeRows.nil | refine LeRows.cons ?_ ?_ | exact LeL.nil | refine LeL.cons ?_ ?_ | refine aH ?_ | refine aG ?_)
 replace h := ifF hc4 h
 refine sk ?_
 refine Sm.seq ?_
 refine bm hF (by kernel_rfl) rfl 13 (by kernel_rfl) (by kernel_rfl) ?_
 simp only [List.take_succ_cons, List.take_zero, List.take_nil]
 refine hv hF oM ?_
 refine hv hF oM ?_
 refine hv hF oM ?_
 refine hv hF (oN (bF u40)) ?_
 refine hv hF oM ?_
 refine hv hF oM ?_
 obtain ⟨x5, hx5, h⟩ := ab h
 refine hv hF (oI (cE u40 eu hx5)) ?_
 refine hv hF (x := .d (.agg 5 (Ps.row x5))) (oL (fa gJ eu rfl rfl)) ?_
 refine hv hF oM ?_
 refine hv hF oM ?_
 obtain ⟨x6, hx6, h⟩ := ab h
 refine hv hF (oI (cE u41 fL hx6)) ?_
 refine hv hF (x := .d (.agg 2 (Rs.row x6))) (oL (fa kw fL rfl rfl)) ?_
 refine hv hF oM ?_
 refine af.last ⟨rfl, ?_⟩
 simp only [List.drop_succ_cons, List.drop_zero, List.drop_nil, List.nil_append, List.cons_append]
 refine gv hF (x := .d (.agg 11 [.v (.int .i64 a2), .v (.int .i64 a3), .v (.int .i64 (a0.length : Int)), .list 1 (x5.at_.map (aa .i64)) false, .list 1 (x5.h0.map (aa .i64)) false, .list 1 (x5.h1.map (aa .i64)) false, .v (.int .i64 x5.rights), .v (.int .i64 x5.side), .v (.int .i64 x6.out), .v (.int .i64 x6.n), .list 32 (x3.1.map aS) false])) (aY rfl u38 (by kernel_rfl) rfl (bd (n := 11) yD Dz rfl rfl)) ?_
 refine SmG.store hF rfl rfl rfl rfl rfl (aX (ys := [.d (.v (.int .i64 a2)), .d (.v (.int .i64 a3)), .d (.v (.int .i64 (a0.length : Int))), .d (.list 1 (x5.at_.map (aa .i64)) false), .d (.list 1 (x5.h0.map (aa .i64)) false), .d (.list 1 (x5.h1.map (aa .i64)) false), .d (.v (.int .i64 x5.rights)), .d (.v (.int .i64 x5.side)), .d (.v (.int .i64 x6.out)), .d (.v (.int .i64 x6.n)), .d (.list 32 (x3.1.map aS) false)]) (r := [.d (.v (.int .i64 0)), .d (.v (.int .i64 0)), .d (.v (.int .i64 0)), .d (.list 0 [] true), .d (.list 0 [] true), .d (.list 0 [] true), .d (.v (.int .i64 0)), .d (.v (.int .i64 0)), .d (.v (.int .i64 0)), .d (.v (.int .i64 0)), .d (.list 0 [] true)]) (rows' := [[.d (.v (.int .i64 a2)), .d (.v (.int .i64 a3)), .d (.v (.int .i64 (a0.length : Int))), .d (.list 1 (x5.at_.map (aa .i64)) false), .d (.list 1 (x5.h0.map (aa .i64)) false), .d (.list 1 (x5.h1.map (aa .i64)) false), .d (.v (.int .i64 x5.rights)), .d (.v (.int .i64 x5.side)), .d (.v (.int .i64 x6.out)), .d (.v (.int .i64 x6.n)), .d (.list 32 (x3.1.map aS) false)]]) rfl rfl rfl eX rfl rfl rfl rfl rfl) ?_
 refine gv hF oA ?_
 refine sn ?_
 refine Sm.ret ?_
 obtain rfl := ae h
 exact dD (RetR.cons (RetO.cell rfl (aC (ds := [.v (.int .i64 a2), .v (.int .i64 a3), .v (.int .i64 (a0.length : Int)), .list 1 (x5.at_.map (aa .i64)) false, .list 1 (x5.h0.map (aa .i64)) false, .list 1 (x5.h1.map (aa .i64)) false, .v (.int .i64 x5.rights), .v (.int .i64 x5.side), .v (.int .i64 x6.out), .v (.int .i64 x6.n), .list 32 (x3.1.map aS) false]) rfl rfl iP eX rfl rfl)) (RetR.cons (RetO.tmp rfl) (RetR.nil))) (D.le.refl _)
noncomputable def cL (a1 : Rs) (s5 : (Int × (List UInt8))) : Option ((Int × (List UInt8)) ⊕ List UInt8) :=
 bif (decide (0 ≤ s5.1)) then (
  ob (arI .i64 (8 * s5.1)) fun x10 =>
  ob (jg .i64 a1.n x10) fun x11 =>
  ob (app s5.2 [(w8 x11)]) fun x12 =>
  ob (arI .i64 (s5.1 - 1)) fun x13 =>
  some (.inl (x13, x12))
 ) else (
  some (.inr s5.2)
 )
noncomputable def d9 (a0 : Ps) (a1 : Rs) : Option (List UInt8) :=
 ob (ft a0) fun x1 =>
 ob (oK x1) fun x2 =>
 ob (app [(w8 (a0.at_.length : Int)), (w8 (a0.h0.length : Int)), (w8 (a0.h1.length : Int))] x2) fun x3 =>
 ob (app x3 [(w8 a1.out)]) fun x4 =>
 ob ((
  bC (cL a1) (3, x4)
  : Option (List UInt8))) fun v14 =>
 some v14
set_option maxHeartbeats 4000000 in
theorem iT {a0 : Ps} {a1 : Rs} {r : List UInt8} (h : d9 a0 a1 = some r) : aq Tryd.prog HG 14 [.agg 5 (Ps.row a0), .agg 2 (Rs.row a1)] (.list 1 (r.map aL) false) := by
 unfold d9 at h
 refine aq.of Tryd.func14 rfl Tryd.ntmps14 (by simp) ?_
 intro F hF h0 hT
 show Sm F _ _ ⟨[(0, .d (.agg 5 (Ps.row a0))), (1, .d (.agg 2 (Rs.row a1)))], [], 0⟩
 refine sr hF ?_
 refine cG hF gu ?_
 refine cG hF gu ?_
 refine gv hF oA ?_
 refine sn ?_
 refine sr hF ?_
 refine gv hF (oF (aj gY rfl)) ?_
 refine gv hF (oL (lP1 ep rfl)) ?_
 refine gv hF (oN (bF u30)) ?_
 refine gv hF (oC (iH u3 u5)) ?_
 refine gv hF (oF (aj fp rfl)) ?_
 refine gv hF (oI (cF u31 eI rfl rfl)) ?_
 refine gv hF (oL (lP1 ep rfl)) ?_
 refine gv hF (oN (bF u30)) ?_
 refine gv hF (oC (iH u3 u5)) ?_
 refine gv hF (oF (aj fp rfl)) ?_
 refine gv hF (oI (cF u31 eI rfl rfl)) ?_
 refine gv hF (oL (lP1 ep rfl)) ?_
 refine gv hF (oN (bF u30)) ?_
 refine gv hF (oC (iH u3 u5)) ?_
 refine SmG.buildOwn hF (rows := ([(w8 (a0.at_.length : Int)), (w8 (a0.h0.length : Int)), (w8 (a0.h1.length : Int))].map aL)) rfl rfl rfl rfl rfl (az Tryd.underlying24 sz5 ze5 rfl rfl (PartsQ.cons rfl (PartsQ.cons rfl (PartsQ.cons rfl (PartsQ.nil _)))) rfl) (by simp) ?_
 refine gv hF oA ?_
 refine sn ?_
 refine sr hF ?_
 refine gv hF oM ?_
 refine gv hF (x := .d (.agg 5 (Ps.row a0))) (oL (fa gJ eu rfl rfl)) ?_
 obtain ⟨x1, hx1, h⟩ := ab h
 refine SmG.call hF rfl rfl (by kernel_rfl) rfl rfl rfl (mT hx1) ?_
 obtain ⟨x2, hx2, h⟩ := ab h
 refine SmG.ofString hF rfl rfl rfl rfl rfl Tryd.underlying9 Tryd.underlying24 Tryd.underlying5 hx2 ?_
 obtain ⟨x3, hx3, h⟩ := ab h
 refine aZ hF m6 rfl (ys := x2) (row := aL) rfl rfl rfl rfl rfl rfl rfl rfl (.inl rfl) hx3 (by (repeat' first | exact bD _ | refine bq ?_ | refine au ?_ (aW _ _ _) | refine au ?_ (aW _ _ [_]) | refine au ?_ (bU (by rfl)))) ?_
 refine gv hF oA ?_
 refine sn ?_
 refine sr hF ?_
 refine gv hF oM ?_
 refine gv hF (oF (aj oV rfl)) ?_
 refine gv hF (oL (lP1 ag3 rfl)) ?_
 refine gv hF (oC (iH u3 u5)) ?_
 refine gv hF (x := .d (.list 1 ([(w8 a1.out)].map aL) true)) (oS (az u24 sz5 ze5 rfl rfl (PartsQ.cons rfl (PartsQ.nil _)) rfl)) ?_
 obtain ⟨x4, hx4, h⟩ := ab h
 refine aZ hF m6 rfl (ys := [(w8 a1.out)]) (row := aL) rfl rfl rfl rfl rfl rfl rfl rfl (.inl rfl) hx4 (by (repeat' first | exact bD _ | refine bq ?_ | refine au ?_ (aW _ _ _) | refine au ?_ (aW _ _ [_]) | refine au ?_ (bU (by rfl)))) ?_
 refine gv hF oA ?_
 refine sn ?_
 refine Sm.seq ?_
 obtain ⟨v14, hv14, h⟩ := ab h
 refine bk ⟨[(5, .sref 0 0 (v14.map aL).length)], [(0, dB 1 (v14.map aL))], 1⟩ ?_ ?_
 ·refine Sm.seq ?_
  refine ac hF rfl ?_
  refine gv hF oM ?_
  refine gv hF oA ?_
  refine sn ?_
  refine Sm.to (aV (toK (e := [(4, .sref 0 0 (v14.map aL).length)]) (g := [(0, dB 1 (v14.map aL))]) (m := 1) ⟨rfl, trivial⟩ ⟨rfl, trivial⟩) (bu (l := 0) (sz := 1) (env' := [(4, .d (.list 1 (v14.map aL) false))]) (h' := []) (nx := 1) (v14.map aL) rfl ⟨⟨_, rfl, cj⟩, trivial⟩ trivial)) ?_
  refine Sm.ret ?_
  obtain rfl := ae h
  exact bM rfl rfl
 replace h := hv14
 refine sr hF ?_
 refine gv hF oA ?_
 refine sn ?_
 refine Sm.block ?_
 refine bV (cL a1) (fun s5 => ⟨[(3, .d (.ptr 2 (Rs.row a1))), (5, .sref 0 0 (s5.2.map aL).length), (6, .d (.v (.int .i64 s5.1)))], [(0, dB 1 (s5.2.map aL))], 1⟩) (3, x4) h (toK ⟨rfl, rfl, rfl, trivial⟩ ⟨rfl, trivial⟩) ?_
 intro n6 s5 o7 h hd8
 unfold cL at h
 refine Sm.seq ?_
 refine sr hF ?_
 refine gv hF oM ?_
 refine gv hF (oB (mm)) ?_
 refine sn ?_
 refine aU hF rfl (fun hc9 => ?_) (fun hc9 => ?_)
 ·replace h := ifF hc9 h
  refine Sm.exit ?_
  replace h := bc h hd8
  obtain rfl := ae h
  exact (toK ⟨rfl, trivial⟩ ⟨rfl, trivial⟩)
 replace h := ifT hc9 h
 refine sk ?_
 refine Sm.seq ?_
 refine Sm.block ?_
 refine ac hF rfl ?_
 refine gv hF oM ?_
 refine gv hF (oF (aj jA rfl)) ?_
 refine gv hF (oL (lP1 ag3 rfl)) ?_
 refine gv hF oM ?_
 obtain ⟨x10, hx10, h⟩ := ab h
 refine gv hF (oB (gT hx10)) ?_
 obtain ⟨x11, hx11, h⟩ := ab h
 refine gv hF (oB (kv hx11)) ?_
 refine gv hF (oC (iH u3 u5)) ?_
 refine gv hF (x := .d (.list 1 ([(w8 x11)].map aL) true)) (oS (az u24 sz5 ze5 rfl rfl (PartsQ.cons rfl (PartsQ.nil _)) rfl)) ?_
 obtain ⟨x12, hx12, h⟩ := ab h
 refine aZ hF m6 rfl (ys := [(w8 x11)]) (row := aL) rfl rfl rfl rfl rfl rfl rfl rfl (.inl rfl) hx12 (by (repeat' first | exact bD _ | refine bq ?_ | refine au ?_ (aW _ _ _) | refine au ?_ (aW _ _ [_]) | refine au ?_ (bU (by rfl)))) ?_
 refine gv hF oA ?_
 refine SmG.nil ?_
 refine ay ?_
 refine ag ?_
 refine ac hF rfl ?_
 refine gv hF oM ?_
 obtain ⟨x13, hx13, h⟩ := ab h
 refine gv hF (oB (lP hx13)) ?_
 refine gv hF oA ?_
 refine SmG.nil ?_
 exact bZ (bH h hd8) (toK ⟨rfl, rfl, rfl, trivial⟩ ⟨rfl, trivial⟩)
noncomputable def cM (a0 : List Ps) (a1 : List Int) (s1 : (Int × (List Rs))) : Option ((Int × (List Rs)) ⊕ List Rs) :=
 bif (decide (s1.1 < (a0.length : Int))) then (
  ob (arI .i64 (7 * s1.1)) fun x6 =>
  ob ((
   bif (decide (0 < (a1.length : Int))) then (
    ob (cH s1.1 (a1.length : Int)) fun x8 =>
    ob (idx a1 x8) fun x9 =>
    ob (arI .i64 x9) fun x10 =>
    ob (arI .i64 (x10 + s1.1)) fun x11 =>
    some x11
   ) else (
    some x6
   )
   : Option Int)) fun v12 =>
  ob (cH v12 3) fun x13 =>
  ob (arI .i64 (1 + x13)) fun x14 =>
  ob (iV .i64 v12 3) fun x15 =>
  ob (app s1.2 [(⟨x14, x15⟩ : Rs)]) fun x16 =>
  ob (arI .i64 (s1.1 + 1)) fun x17 =>
  some (.inl (x17, x16))
 ) else (
  some (.inr s1.2)
 )
noncomputable def ed (a0 : List Ps) (a1 : List Int) : Option (List Rs) :=
 ob ((
  bC (cM a0 a1) (0, ([] : List Rs))
  : Option (List Rs))) fun v18 =>
 some v18
set_option maxHeartbeats 4000000 in
theorem kM {a0 : List Ps} {a1 : List Int} {r : List Rs} (h : ed a0 a1 = some r) : aq Tryd.prog HG 31 [.list 5 (a0.map Ps.row) false, .list 1 (a1.map (aa .u16)) false] (.list 2 (r.map Rs.row) false) := by
 unfold ed at h
 refine aq.of Tryd.func31 rfl Tryd.ntmps31 (by simp) ?_
 intro F hF h0 hT
 show Sm F _ _ ⟨[(0, .d (.list 5 (a0.map Ps.row) false)), (1, .d (.list 1 (a1.map (aa .u16)) false))], [], 0⟩
 refine sr hF ?_
 refine gv hF oA ?_
 refine sn ?_
 refine sr hF ?_
 refine gv hF (x := .d (.list 2 (([] : List Rs).map Rs.row) true)) (oS (eR u41 fL)) ?_
 refine gv hF oA ?_
 refine sn ?_
 refine Sm.seq ?_
 obtain ⟨v18, hv18, h⟩ := ab h
 refine bk ⟨[(5, .d (.list 2 (v18.map Rs.row) false))], [], 1⟩ ?_ ?_
 ·refine Sm.seq ?_
  refine ac hF rfl ?_
  refine gv hF oM ?_
  refine gv hF oA ?_
  refine sn ?_
  refine Sm.ret ?_
  obtain rfl := ae h
  exact bM rfl rfl
 replace h := hv18
 refine sr hF ?_
 refine gv hF oA ?_
 refine sn ?_
 refine Sm.block ?_
 refine Sm.to (toK (e := [(0, .d (.list 5 (a0.map Ps.row) false)), (1, .d (.list 1 (a1.map (aa .u16)) false)), (5, .d (.list 2 ([].map Rs.row) true)), (6, .d (.v (.int .i64 0)))]) (g := []) (m := 0) ⟨rfl, rfl, rfl, rfl, trivial⟩ trivial) ?_
 refine Sm.own (t := 5) 2 rfl ?_
 refine bV (cM a0 a1) (fun s1 => ⟨[(0, .d (.list 5 (a0.map Ps.row) false)), (1, .d (.list 1 (a1.map (aa .u16)) false)), (5, .sref 0 0 (s1.2.map Rs.row).length), (6, .d (.v (.int .i64 s1.1)))], [(0, dB 2 (s1.2.map Rs.row))], 1⟩) (0, ([] : List Rs)) h (toK ⟨rfl, rfl, rfl, rfl, trivial⟩ ⟨rfl, trivial⟩) ?_
 intro n2 s1 o3 h hd4
 unfold cM at h
 refine Sm.seq ?_
 refine sr hF ?_
 refine gv hF oM ?_
 refine gv hF oM ?_
 refine gv hF (oN (bF u40)) ?_
 refine gv hF (oB (bP)) ?_
 refine sn ?_
 refine aU hF rfl (fun hc5 => ?_) (fun hc5 => ?_)
 ·replace h := ifF hc5 h
  refine Sm.exit ?_
  replace h := bc h hd4
  obtain rfl := ae h
  exact (aV (toK (e := [(5, .sref 0 0 (s1.2.map Rs.row).length)]) (g := [(0, dB 2 (s1.2.map Rs.row))]) (m := 1) ⟨rfl, trivial⟩ ⟨rfl, trivial⟩) (bu (l := 0) (sz := 2) (env' := [(5, .d (.list 2 (s1.2.map Rs.row) false))]) (h' := []) (nx := 1) (s1.2.map Rs.row) rfl ⟨⟨_, rfl, cj⟩, trivial⟩ trivial))
 replace h := ifT hc5 h
 refine sk ?_
 refine Sm.seq ?_
 refine Sm.block ?_
 refine sr hF ?_
 refine gv hF oM ?_
 obtain ⟨x6, hx6, h⟩ := ab h
 refine gv hF (oB (gT hx6)) ?_
 refine gv hF oA ?_
 refine sn ?_
 refine Sm.seq ?_
 obtain ⟨v12, hv12, h⟩ := ab h
 refine bk ⟨[(0, .d (.list 5 (a0.map Ps.row) false)), (1, .d (.list 1 (a1.map (aa .u16)) false)), (5, .sref 0 0 (s1.2.map Rs.row).length), (6, .d (.v (.int .i64 s1.1))), (7, .d (.v (.int .i64 v12)))], [(0, dB 2 (s1.2.map Rs.row))], 1⟩ ?_ ?_
 ·refine ac hF rfl ?_
  refine gv hF oM ?_
  refine gv hF oM ?_
  obtain ⟨x13, hx13, h⟩ := ab h
  refine gv hF (oB (bG hx13)) ?_
  obtain ⟨x14, hx14, h⟩ := ab h
  refine gv hF (oB (a8 hx14)) ?_
  refine gv hF oM ?_
  obtain ⟨x15, hx15, h⟩ := ab h
  refine gv hF (oB (jB hx15)) ?_
  refine gv hF (x := .d (.agg 2 [.v (.int .i64 x14), .v (.int .i64 x15)])) (aY rfl u35 (by kernel_rfl) rfl (bd (n := 2) oz zw rfl rfl)) ?_
  refine gv hF (x := .d (.list 2 ([(⟨x14, x15⟩ : Rs)].map Rs.row) true)) (oS (az u41 fL oz rfl rfl (PartsQ.cons rfl (PartsQ.nil _)) rfl)) ?_
  obtain ⟨x16, hx16, h⟩ := ab h
  refine aZ hF FZ rfl (ys := [(⟨x14, x15⟩ : Rs)]) (row := Rs.row) rfl rfl rfl rfl rfl rfl rfl rfl (.inl rfl) hx16 (by (repeat' first | exact bD _ | refine bq ?_ | refine au ?_ (aW _ _ _) | refine au ?_ (aW _ _ [_]) | refine au ?_ (bU (by rfl)))) ?_
  refine gv hF oA ?_
  refine SmG.nil ?_
  refine ay ?_
  refine ag ?_
  refine ac hF rfl ?_
  refine gv hF oM ?_
  obtain ⟨x17, hx17, h⟩ := ab h
  refine gv hF (oB (a8 hx17)) ?_
  refine gv hF oA ?_
  refine SmG.nil ?_
  exact bZ (bH h hd4) (toK ⟨rfl, rfl, rfl, rfl, trivial⟩ ⟨rfl, trivial⟩)
 replace h := hv12
 refine sr hF ?_
 refine gv hF oM ?_
 refine gv hF (oN (bF u45)) ?_
 refine gv hF (oB (i3)) ?_
 refine sn ?_
 refine aU hF rfl (fun hc7 => ?_) (fun hc7 => ?_)
 ·replace h := ifF hc7 h
  refine Sm.skip ?_
  obtain rfl := ae h
  exact (toK ⟨rfl, rfl, rfl, rfl, rfl, trivial⟩ ⟨rfl, trivial⟩)
 replace h := ifT hc7 h
 refine ac hF rfl ?_
 refine gv hF oM ?_
 refine gv hF oM ?_
 refine gv hF oM ?_
 refine gv hF (oN (bF u45)) ?_
 obtain ⟨x8, hx8, h⟩ := ab h
 refine gv hF (oB (bG hx8)) ?_
 obtain ⟨x9, hx9, h⟩ := ab h
 refine gv hF (oI (cE u45 wu hx9)) ?_
 refine gv hF (oL (lP1 y2 rfl)) ?_
 obtain ⟨x10, hx10, h⟩ := ab h
 refine gv hF (oC (fN u44 u3 hx10)) ?_
 refine gv hF oM ?_
 obtain ⟨x11, hx11, h⟩ := ab h
 refine gv hF (oB (a8 hx11)) ?_
 refine gv hF oA ?_
 refine SmG.nil ?_
 obtain rfl := ae h
 exact (toK ⟨rfl, rfl, rfl, rfl, rfl, trivial⟩ ⟨rfl, trivial⟩)
end
section
open Go.RowKit
set_option maxRecDepth 100000
noncomputable def gy (a0 : Int) (a1 : Int) (a2 : Int) : Option Bool :=
 bif (decide (a1 ≤ a0)) then (
  some (decide (a0 ≤ a2))
 ) else (
  some false
 )
set_option maxHeartbeats 4000000 in
theorem o2 {a0 : Int} {a1 : Int} {a2 : Int} {r : Bool} (h : gy a0 a1 a2 = some r) : aq Tryd.prog HG 88 [.v (.int .i64 a0), .ptr 1 [.v (.int .i64 a1)], .ptr 1 [.v (.int .i64 a2)]] (.v (.bool r)) := by
 unfold gy at h
 refine aq.of Tryd.func88 rfl Tryd.ntmps88 (by simp) ?_
 intro F hF h0 hT
 show Sm F _ _ ⟨[(0, .d (.v (.int .i64 a0))), (1, .d (.ptr 1 [.v (.int .i64 a1)])), (2, .d (.ptr 1 [.v (.int .i64 a2)]))], [], 0⟩
 refine sr hF ?_
 refine gv hF oA ?_
 refine sn ?_
 refine sr hF ?_
 refine gv hF (oL (lP1 ag3 rfl)) ?_
 refine gv hF oM ?_
 refine gv hF (oB (ur)) ?_
 rcases ir (decide (a1 ≤ a0)) with hc1 | hc1
 ·replace h := ifT hc1 h
  refine gv hF (ax rfl rfl hc1) ?_
  refine gv hF oM ?_
  refine gv hF (oL (lP1 ag3 rfl)) ?_
  refine gv hF (oB (ur)) ?_
  refine gv hF (aQ rfl rfl rfl) ?_
  refine gv hF oA ?_
  refine sn ?_
  refine Sm.ret ?_
  obtain rfl := ae h
  exact bM rfl rfl
 replace h := ifF hc1 h
 refine gv hF (ax rfl rfl hc1) ?_
 refine gp hF ?_
 refine gp hF ?_
 refine gp hF ?_
 refine gv hF (ak rfl rfl rfl) ?_
 refine gv hF oA ?_
 refine sn ?_
 refine Sm.ret ?_
 obtain rfl := ae h
 exact bM rfl rfl
noncomputable def gF (a0 : Int) (a1 : Int) : Option (FnV Tryd.prog HG (α := Int) (β := Bool) (fun x => [.v (.int .i64 x)]) (fun y => .v (.bool y))) :=
 some (⟨88, [.ptr 1 [.v (.int .i64 a0)], .ptr 1 [.v (.int .i64 a1)]], fun x => gy x a0 a1, by kernel_rfl, fun x y h => o2 h⟩ : (FnV Tryd.prog HG (α := Int) (β := Bool) (fun x => [.v (.int .i64 x)]) (fun y => .v (.bool y))))
set_option maxHeartbeats 4000000 in
theorem jX {a0 : Int} {a1 : Int} {r : (FnV Tryd.prog HG (α := Int) (β := Bool) (fun x => [.v (.int .i64 x)]) (fun y => .v (.bool y)))} (h : gF a0 a1 = some r) : aq Tryd.prog HG 67 [.v (.int .i64 a0), .v (.int .i64 a1)] (.fn r.g r.c) := by
 unfold gF at h
 refine aq.of Tryd.func67 rfl Tryd.ntmps67 (by simp) ?_
 intro F hF h0 hT
 show Sm F _ _ ⟨[(0, .d (.v (.int .i64 a0))), (1, .d (.v (.int .i64 a1)))], [], 0⟩
 refine sr hF ?_
 refine cG hF we ?_
 refine cG hF we ?_
 refine gv hF oA ?_
 refine sn ?_
 refine sr hF ?_
 refine gv hF (f9 rfl rfl) ?_
 refine gv hF oA ?_
 refine sn ?_
 refine Sm.ret ?_
 obtain rfl := ae h
 exact bM rfl rfl
noncomputable def bW (a0 : List Int) (a1 : (FnV Tryd.prog HG (α := Int) (β := Bool) (fun x => [.v (.int .i64 x)]) (fun y => .v (.bool y)))) (s1 : Int) : Option (Int ⊕ (Unit ⊕ Int)) :=
 bif (decide (s1 < (a0.length : Int))) then (
  ob (idx a0 s1) fun x6 =>
  ob (a1.f x6) fun x7 =>
  bif x7 then (
   some (.inr (.inr s1))
  ) else (
   ob (arI .i64 (s1 + 1)) fun x9 =>
   some (.inl x9)
  )
 ) else (
  some (.inr (.inl ()))
 )
noncomputable def dC (a0 : List Int) (a1 : (FnV Tryd.prog HG (α := Int) (β := Bool) (fun x => [.v (.int .i64 x)]) (fun y => .v (.bool y)))) : Option Int :=
 ob ((
  bC (bW a0 a1) 0
  : Option (Unit ⊕ Int))) fun o11 => match o11 with
 | .inl v10 => (
  some (-1)
  )
 | .inr e12 => some e12
set_option maxHeartbeats 4000000 in
theorem i8 {a0 : List Int} {a1 : (FnV Tryd.prog HG (α := Int) (β := Bool) (fun x => [.v (.int .i64 x)]) (fun y => .v (.bool y)))} {r : Int} (h : dC a0 a1 = some r) : aq Tryd.prog HG 89 [.list 1 (a0.map (aa .i64)) false, .fn a1.g a1.c] (.v (.int .i64 r)) := by
 unfold dC at h
 refine aq.of Tryd.func89 rfl Tryd.ntmps89 (by simp) ?_
 intro F hF h0 hT
 show Sm F _ _ ⟨[(0, .d (.list 1 (a0.map (aa .i64)) false)), (1, .d (.fn a1.g a1.c))], [], 0⟩
 refine sr hF ?_
 refine gv hF oA ?_
 refine sn ?_
 refine Sm.seq ?_
 obtain ⟨o11, ho11, h⟩ := ab h
 rcases tZ o11 with ⟨e12, rfl⟩ | ⟨v10, rfl⟩
 ·have he12 := ae h
  subst he12
  replace h := ho11
  refine sr hF ?_
  refine gv hF oM ?_
  refine gv hF (oN (bF u30)) ?_
  refine gv hF oM ?_
  refine sn ?_
  refine Sm.block ?_
  refine bV (bW a0 a1) (fun s1 => ⟨[(0, .d (.list 1 (a0.map (aa .i64)) false)), (1, .d (.fn a1.g a1.c)), (7, .d (.v (.int .i64 (a0.length : Int)))), (8, .d (.v (.int .i64 s1)))], [], 0⟩) 0 h (toK ⟨rfl, rfl, rfl, rfl, trivial⟩ trivial) ?_
  intro n2 s1 o3 h hd4
  unfold bW at h
  refine sr hF ?_
  refine gv hF (oB (bP)) ?_
  refine sn ?_
  refine Sm.seq ?_
  refine aU hF rfl (fun hc5 => ?_) (fun hc5 => ?_)
  ·replace h := ifF hc5 h
   refine Sm.exit ?_
   replace h := bc h hd4
   cases h
  replace h := ifT hc5 h
  refine sk ?_
  refine Sm.seq ?_
  refine Sm.block ?_
  refine sr hF ?_
  refine gv hF oM ?_
  refine gv hF oA ?_
  refine sn ?_
  refine sr hF ?_
  refine gv hF oM ?_
  refine gv hF oM ?_
  refine gv hF oM ?_
  obtain ⟨x6, hx6, h⟩ := ab h
  refine gv hF (oI (cE u30 sz3 hx6)) ?_
  refine gv hF (oL (lP1 ag3 rfl)) ?_
  obtain ⟨x7, hx7, h⟩ := ab h
  refine SmG.callF hF rfl rfl rfl rfl rfl rfl a1.body (a1.ok _ _ hx7) ?_
  refine sn ?_
  refine aU hF rfl (fun hc8 => ?_) (fun hc8 => ?_)
  ·replace h := ifF hc8 h
   refine Sm.skip ?_
   refine ay ?_
   refine ag ?_
   refine ac hF rfl ?_
   obtain ⟨x9, hx9, h⟩ := ab h
   refine gv hF (oB (a8 hx9)) ?_
   refine gv hF oM ?_
   refine SmG.nil ?_
   exact bZ (bH h hd4) (toK ⟨rfl, rfl, rfl, rfl, trivial⟩ trivial)
  replace h := ifT hc8 h
  refine sr hF ?_
  refine gv hF oM ?_
  refine gv hF oA ?_
  refine sn ?_
  refine Sm.ret ?_
  replace h := bc h hd4
  replace h := pR h
  obtain rfl := ae h
  exact bM rfl rfl
 refine bk ⟨[], [], 0⟩ ?_ ?_
 ·refine Sm.seq ?_
  refine ac hF rfl ?_
  refine gv hF oA ?_
  refine sn ?_
  refine Sm.ret ?_
  obtain rfl := ae h
  exact bM rfl rfl
 replace h := ho11
 refine sr hF ?_
 refine gv hF oM ?_
 refine gv hF (oN (bF u30)) ?_
 refine gv hF oM ?_
 refine sn ?_
 refine Sm.block ?_
 refine bV (bW a0 a1) (fun s1 => ⟨[(0, .d (.list 1 (a0.map (aa .i64)) false)), (1, .d (.fn a1.g a1.c)), (7, .d (.v (.int .i64 (a0.length : Int)))), (8, .d (.v (.int .i64 s1)))], [], 0⟩) 0 h (toK ⟨rfl, rfl, rfl, rfl, trivial⟩ trivial) ?_
 intro n2 s1 o3 h hd4
 unfold bW at h
 refine sr hF ?_
 refine gv hF (oB (bP)) ?_
 refine sn ?_
 refine Sm.seq ?_
 refine aU hF rfl (fun hc5 => ?_) (fun hc5 => ?_)
 ·replace h := ifF hc5 h
  refine Sm.exit ?_
  replace h := bc h hd4
  obtain rfl := ae (kp h)
  exact (toK trivial trivial)
 replace h := ifT hc5 h
 refine sk ?_
 refine Sm.seq ?_
 refine Sm.block ?_
 refine sr hF ?_
 refine gv hF oM ?_
 refine gv hF oA ?_
 refine sn ?_
 refine sr hF ?_
 refine gv hF oM ?_
 refine gv hF oM ?_
 refine gv hF oM ?_
 obtain ⟨x6, hx6, h⟩ := ab h
 refine gv hF (oI (cE u30 sz3 hx6)) ?_
 refine gv hF (oL (lP1 ag3 rfl)) ?_
 obtain ⟨x7, hx7, h⟩ := ab h
 refine SmG.callF hF rfl rfl rfl rfl rfl rfl a1.body (a1.ok _ _ hx7) ?_
 refine sn ?_
 refine bA hF rfl (fun hc8 => ?_) (fun hc8 => ?_)
 ·replace h := ifT hc8 h
  refine sr hF ?_
  refine gv hF oM ?_
  refine gv hF oA ?_
  refine sn ?_
  refine Sm.ret ?_
  replace h := bc h hd4
  cases h
 replace h := ifF hc8 h
 refine Sm.skip ?_
 refine ay ?_
 refine ag ?_
 refine ac hF rfl ?_
 obtain ⟨x9, hx9, h⟩ := ab h
 refine gv hF (oB (a8 hx9)) ?_
 refine gv hF oM ?_
 refine SmG.nil ?_
 exact bZ (bH h hd4) (toK ⟨rfl, rfl, rfl, rfl, trivial⟩ trivial)
noncomputable def cD (a0 : List Int) (a1 : (FnV Tryd.prog HG (α := Int) (β := Bool) (fun x => [.v (.int .i64 x)]) (fun y => .v (.bool y)))) : Option Bool :=
 ob (dC a0 a1) fun x1 =>
 some (decide (0 ≤ x1))
set_option maxHeartbeats 4000000 in
theorem ip {a0 : List Int} {a1 : (FnV Tryd.prog HG (α := Int) (β := Bool) (fun x => [.v (.int .i64 x)]) (fun y => .v (.bool y)))} {r : Bool} (h : cD a0 a1 = some r) : aq Tryd.prog HG 69 [.list 1 (a0.map (aa .i64)) false, .fn a1.g a1.c] (.v (.bool r)) := by
 unfold cD at h
 refine aq.of Tryd.func69 rfl Tryd.ntmps69 (by simp) ?_
 intro F hF h0 hT
 show Sm F _ _ ⟨[(0, .d (.list 1 (a0.map (aa .i64)) false)), (1, .d (.fn a1.g a1.c))], [], 0⟩
 refine sr hF ?_
 refine gv hF oA ?_
 refine sn ?_
 refine sr hF ?_
 refine gv hF oM ?_
 refine gv hF oM ?_
 obtain ⟨x1, hx1, h⟩ := ab h
 refine SmG.call hF rfl rfl (by kernel_rfl) rfl rfl rfl (i8 hx1) ?_
 refine gv hF (oB (mm)) ?_
 refine gv hF oA ?_
 refine sn ?_
 refine Sm.ret ?_
 obtain rfl := ae h
 exact bM rfl rfl
noncomputable def e9 (a0 : Int) (a1 : (FnV Tryd.prog HG (α := Int) (β := Bool) (fun x => [.v (.int .i64 x)]) (fun y => .v (.bool y)))) : Option Bool :=
 ob (a1.f a0) fun x1 =>
 some (!x1)
set_option maxHeartbeats 4000000 in
theorem mq {a0 : Int} {a1 : (FnV Tryd.prog HG (α := Int) (β := Bool) (fun x => [.v (.int .i64 x)]) (fun y => .v (.bool y)))} {r : Bool} (h : e9 a0 a1 = some r) : aq Tryd.prog HG 70 [.v (.int .i64 a0), .ptr 1 [.fn a1.g a1.c]] (.v (.bool r)) := by
 unfold e9 at h
 refine aq.of Tryd.func70 rfl Tryd.ntmps70 (by simp) ?_
 intro F hF h0 hT
 show Sm F _ _ ⟨[(0, .d (.v (.int .i64 a0))), (1, .d (.ptr 1 [.fn a1.g a1.c]))], [], 0⟩
 refine sr hF ?_
 refine gv hF oA ?_
 refine sn ?_
 refine sr hF ?_
 refine gv hF (oL (lP1 re rfl)) ?_
 refine gv hF oM ?_
 obtain ⟨x1, hx1, h⟩ := ab h
 refine SmG.callF hF rfl rfl rfl rfl rfl rfl a1.body (a1.ok _ _ hx1) ?_
 refine gv hF (iU rfl rfl (jG _)) ?_
 refine gv hF oA ?_
 refine sn ?_
 refine Sm.ret ?_
 obtain rfl := ae h
 exact bM rfl rfl
noncomputable def dQ (a0 : List Int) (a1 : (FnV Tryd.prog HG (α := Int) (β := Bool) (fun x => [.v (.int .i64 x)]) (fun y => .v (.bool y)))) : Option Bool :=
 bif (decide ((a0.length : Int) ≤ 255)) then (
  ob (cD a0 (⟨70, [.ptr 1 [.fn a1.g a1.c]], fun x => e9 x a1, by kernel_rfl, fun x y h => mq h⟩ : (FnV Tryd.prog HG (α := Int) (β := Bool) (fun x => [.v (.int .i64 x)]) (fun y => .v (.bool y))))) fun x2 =>
  some (!x2)
 ) else (
  some false
 )
set_option maxHeartbeats 4000000 in
theorem gK {a0 : List Int} {a1 : (FnV Tryd.prog HG (α := Int) (β := Bool) (fun x => [.v (.int .i64 x)]) (fun y => .v (.bool y)))} {r : Bool} (h : dQ a0 a1 = some r) : aq Tryd.prog HG 68 [.list 1 (a0.map (aa .i64)) false, .ptr 1 [.fn a1.g a1.c]] (.v (.bool r)) := by
 unfold dQ at h
 refine aq.of Tryd.func68 rfl Tryd.ntmps68 (by simp) ?_
 intro F hF h0 hT
 show Sm F _ _ ⟨[(0, .d (.list 1 (a0.map (aa .i64)) false)), (1, .d (.ptr 1 [.fn a1.g a1.c]))], [], 0⟩
 refine sr hF ?_
 refine gv hF oA ?_
 refine sn ?_
 refine sr hF ?_
 refine gv hF oM ?_
 refine gv hF (oN (bF u30)) ?_
 refine gv hF (oB (ur)) ?_
 rcases bX (decide ((a0.length : Int) ≤ 255)) with hc1 | hc1
 ·replace h := ifF hc1 h
  refine gv hF (ax rfl rfl hc1) ?_
  refine gp hF ?_
  refine gp hF ?_
  refine gp hF ?_
  refine gp hF ?_
  refine gv hF (ak rfl rfl rfl) ?_
  refine gv hF oA ?_
  refine sn ?_
  refine Sm.ret ?_
  obtain rfl := ae h
  exact bM rfl rfl
 replace h := ifT hc1 h
 refine gv hF (ax rfl rfl hc1) ?_
 refine gv hF oM ?_
 refine gv hF (f9 rfl rfl) ?_
 obtain ⟨x2, hx2, h⟩ := ab h
 refine SmG.call hF rfl rfl (by kernel_rfl) rfl rfl rfl (ip hx2) ?_
 refine gv hF (iU rfl rfl (jG _)) ?_
 refine gv hF (aQ rfl rfl rfl) ?_
 refine gv hF oA ?_
 refine sn ?_
 refine Sm.ret ?_
 obtain rfl := ae h
 exact bM rfl rfl
noncomputable def gb (a0 : Ps) (a1 : Rs) : Option Bool :=
 ob (gF 0 255) fun x1 =>
 ob (dQ a0.at_ x1) fun x2 =>
 bif x2 then (
  ob (dQ a0.h0 x1) fun x4 =>
  bif x4 then (
   ob (dQ a0.h1 x1) fun x6 =>
   bif x6 then (
    ob (x1.f a0.rights) fun x8 =>
    bif x8 then (
     ob (x1.f a0.side) fun x10 =>
     bif x10 then (
      ob (gF 1 3) fun x12 =>
      ob (x12.f a1.out) fun x13 =>
      bif x13 then (
       ob (gF 0 2147483647) fun x15 =>
       ob (x15.f a1.n) fun x16 =>
       some x16
      ) else (
       some false
      )
     ) else (
      some false
     )
    ) else (
     some false
    )
   ) else (
    some false
   )
  ) else (
   some false
  )
 ) else (
  some false
 )
set_option maxHeartbeats 4000000 in
theorem nZ {a0 : Ps} {a1 : Rs} {r : Bool} (h : gb a0 a1 = some r) : aq Tryd.prog HG 44 [.agg 5 (Ps.row a0), .agg 2 (Rs.row a1)] (.v (.bool r)) := by
 unfold gb at h
 refine aq.of Tryd.func44 rfl Tryd.ntmps44 (by simp) ?_
 intro F hF h0 hT
 show Sm F _ _ ⟨[(0, .d (.agg 5 (Ps.row a0))), (1, .d (.agg 2 (Rs.row a1)))], [], 0⟩
 refine sr hF ?_
 refine cG hF gu ?_
 refine cG hF gu ?_
 refine gv hF oA ?_
 refine sn ?_
 refine sr hF ?_
 obtain ⟨x1, hx1, h⟩ := ab h
 refine SmG.call hF rfl rfl (by kernel_rfl) rfl rfl rfl (jX hx1) ?_
 refine SmG.new hF rfl rfl rfl (aT rfl CA) ?_
 refine SmG.store hF rfl rfl rfl rfl rfl (bY (rows' := [[.d (.fn x1.g x1.c)]]) rfl rfl rfl xi rfl rfl rfl) ?_
 refine sn ?_
 refine sr hF ?_
 refine cV (aV (toK (e := [(2, .d (.ptr 5 (Ps.row a0))), (3, .d (.ptr 2 (Rs.row a1))), (5, .ref 0 0 0)]) (g := [(0, ⟨1, [[.d (.fn x1.g x1.c)]]⟩)]) (m := 1) ⟨rfl, rfl, rfl, trivial⟩ ⟨rfl, trivial⟩) (bu (l := 0) (sz := 1) (env' := [(2, .d (.ptr 5 (Ps.row a0))), (3, .d (.ptr 2 (Rs.row a1))), (5, .d (.ptr 1 [.fn x1.g x1.c]))]) (h' := []) (nx := 1) [[.fn x1.g x1.c]] rfl ⟨⟨_, rfl, rfl⟩, ⟨_, rfl, rfl⟩, ⟨_, rfl, rfl⟩, trivial⟩ trivial)) rfl ?_
 refine gv hF (f9 rfl rfl) ?_
 refine gv hF oA ?_
 refine sn ?_
 refine Sm.seq ?_
 refine bm hF (by kernel_rfl) rfl 40 (by kernel_rfl) (by kernel_rfl) ?_
 simp only [List.take_succ_cons, List.take_zero, List.take_nil]
 refine hv hF oM ?_
 refine hv hF (oF (aj gY rfl)) ?_
 refine hv hF (oL (lP1 ep rfl)) ?_
 obtain ⟨x2, hx2, h⟩ := ab h
 refine kr hF rfl rfl rfl rfl rfl rfl (by kernel_rfl) (gK hx2) ?_
 rcases bX x2 with hc3 | hc3
 ·replace h := ifF hc3 h
  refine hv hF (ax rfl rfl hc3) ?_
  refine hp hF ?_
  refine hp hF ?_
  refine hp hF ?_
  refine hp hF ?_
  refine hp hF ?_
  refine hv hF (ak rfl rfl rfl) ?_
  refine hv hF oM ?_
  refine hp hF ?_
  refine hp hF ?_
  refine hp hF ?_
  refine hp hF ?_
  refine hp hF ?_
  refine hv hF (ak rfl rfl rfl) ?_
  refine hv hF oM ?_
  refine hp hF ?_
  refine hp hF ?_
  refine hp hF ?_
  refine hp hF ?_
  refine hv hF (ak rfl rfl rfl) ?_
  refine hv hF oM ?_
  refine hp hF ?_
  refine hp hF ?_
  refine hp hF ?_
  refine hp hF ?_
  refine hv hF (ak rfl rfl rfl) ?_
  refine hv hF oM ?_
  refine hp hF ?_
  refine hp hF ?_
  refine hp hF ?_
  refine hp hF ?_
  refine hv hF (ak rfl rfl rfl) ?_
  refine hv hF oM ?_
  refine hp hF ?_
  refine hp hF ?_
  refine hp hF ?_
  refine af.last ⟨rfl, ?_⟩
  simp only [List.drop_succ_cons, List.drop_zero, List.drop_nil, List.nil_append, List.cons_append]
  refine gp hF ?_
  refine gv hF (ak rfl rfl rfl) ?_
  refine gv hF oA ?_
  refine sn ?_
  refine Sm.ret ?_
  obtain rfl := ae h
  exact bM rfl rfl
 replace h := ifT hc3 h
 refine hv hF (ax rfl rfl hc3) ?_
 refine hv hF oM ?_
 refine hv hF (oF (aj fp rfl)) ?_
 refine hv hF (oI (cF u31 eI rfl rfl)) ?_
 refine hv hF (oL (lP1 ep rfl)) ?_
 obtain ⟨x4, hx4, h⟩ := ab h
 refine kr hF rfl rfl rfl rfl rfl rfl (by kernel_rfl) (gK hx4) ?_
 refine hv hF (aQ rfl rfl rfl) ?_
 rcases bX x4 with hc5 | hc5
 ·replace h := ifF hc5 h
  refine hv hF (ax rfl rfl hc5) ?_
  refine hp hF ?_
  refine hp hF ?_
  refine hp hF ?_
  refine hp hF ?_
  refine hp hF ?_
  refine hv hF (ak rfl rfl rfl) ?_
  refine hv hF oM ?_
  refine hp hF ?_
  refine hp hF ?_
  refine hp hF ?_
  refine hp hF ?_
  refine hv hF (ak rfl rfl rfl) ?_
  refine hv hF oM ?_
  refine hp hF ?_
  refine hp hF ?_
  refine hp hF ?_
  refine hp hF ?_
  refine hv hF (ak rfl rfl rfl) ?_
  refine hv hF oM ?_
  refine hp hF ?_
  refine hp hF ?_
  refine hp hF ?_
  refine hp hF ?_
  refine hv hF (ak rfl rfl rfl) ?_
  refine hv hF oM ?_
  refine hp hF ?_
  refine hp hF ?_
  refine hp hF ?_
  refine af.last ⟨rfl, ?_⟩
  simp only [List.drop_succ_cons, List.drop_zero, List.drop_nil, List.nil_append, List.cons_append]
  refine gp hF ?_
  refine gv hF (ak rfl rfl rfl) ?_
  refine gv hF oA ?_
  refine sn ?_
  refine Sm.ret ?_
  obtain rfl := ae h
  exact bM rfl rfl
 replace h := ifT hc5 h
 refine hv hF (ax rfl rfl hc5) ?_
 refine hv hF oM ?_
 refine hv hF (oF (aj fp rfl)) ?_
 refine hv hF (oI (cF u31 eI rfl rfl)) ?_
 refine hv hF (oL (lP1 ep rfl)) ?_
 obtain ⟨x6, hx6, h⟩ := ab h
 refine kr hF rfl rfl rfl rfl rfl rfl (by kernel_rfl) (gK hx6) ?_
 refine hv hF (aQ rfl rfl rfl) ?_
 rcases bX x6 with hc7 | hc7
 ·replace h := ifF hc7 h
  refine hv hF (ax rfl rfl hc7) ?_
  refine hp hF ?_
  refine hp hF ?_
  refine hp hF ?_
  refine hp hF ?_
  refine hv hF (ak rfl rfl rfl) ?_
  refine hv hF oM ?_
  refine hp hF ?_
  refine hp hF ?_
  refine hp hF ?_
  refine hp hF ?_
  refine hv hF (ak rfl rfl rfl) ?_
  refine hv hF oM ?_
  refine hp hF ?_
  refine hp hF ?_
  refine hp hF ?_
  refine hp hF ?_
  refine hv hF (ak rfl rfl rfl) ?_
  refine hv hF oM ?_
  refine hp hF ?_
  refine hp hF ?_
  refine hp hF ?_
  refine af.last ⟨rfl, ?_⟩
  simp only [List.drop_succ_cons, List.drop_zero, List.drop_nil, List.nil_append, List.cons_append]
  refine gp hF ?_
  refine gv hF (ak rfl rfl rfl) ?_
  refine gv hF oA ?_
  refine sn ?_
  refine Sm.ret ?_
  obtain rfl := ae h
  exact bM rfl rfl
 replace h := ifT hc7 h
 refine hv hF (ax rfl rfl hc7) ?_
 refine hv hF (oL (lP1 re rfl)) ?_
 refine hv hF (oF (aj r5 rfl)) ?_
 refine hv hF (oL (lP1 ag3 rfl)) ?_
 obtain ⟨x8, hx8, h⟩ := ab h
 refine kr hF rfl rfl rfl rfl rfl rfl x1.body (x1.ok _ _ hx8) ?_
 refine hv hF (aQ rfl rfl rfl) ?_
 rcases bX x8 with hc9 | hc9
 ·replace h := ifF hc9 h
  refine hv hF (ax rfl rfl hc9) ?_
  refine hp hF ?_
  refine hp hF ?_
  refine hp hF ?_
  refine hp hF ?_
  refine hv hF (ak rfl rfl rfl) ?_
  refine hv hF oM ?_
  refine hp hF ?_
  refine hp hF ?_
  refine hp hF ?_
  refine hp hF ?_
  refine hv hF (ak rfl rfl rfl) ?_
  refine hv hF oM ?_
  refine hp hF ?_
  refine hp hF ?_
  refine hp hF ?_
  refine af.last ⟨rfl, ?_⟩
  simp only [List.drop_succ_cons, List.drop_zero, List.drop_nil, List.nil_append, List.cons_append]
  refine gp hF ?_
  refine gv hF (ak rfl rfl rfl) ?_
  refine gv hF oA ?_
  refine sn ?_
  refine Sm.ret ?_
  obtain rfl := ae h
  exact bM rfl rfl
 replace h := ifT hc9 h
 refine hv hF (ax rfl rfl hc9) ?_
 refine hv hF (oL (lP1 re rfl)) ?_
 refine hv hF (oF (aj pj rfl)) ?_
 refine hv hF (oL (lP1 ag3 rfl)) ?_
 obtain ⟨x10, hx10, h⟩ := ab h
 refine kr hF rfl rfl rfl rfl rfl rfl x1.body (x1.ok _ _ hx10) ?_
 refine hv hF (aQ rfl rfl rfl) ?_
 rcases bX x10 with hc11 | hc11
 ·replace h := ifF hc11 h
  refine hv hF (ax rfl rfl hc11) ?_
  refine hp hF ?_
  refine hp hF ?_
  refine hp hF ?_
  refine hp hF ?_
  refine hv hF (ak rfl rfl rfl) ?_
  refine hv hF oM ?_
  refine hp hF ?_
  refine hp hF ?_
  refine hp hF ?_
  refine af.last ⟨rfl, ?_⟩
  simp only [List.drop_succ_cons, List.drop_zero, List.drop_nil, List.nil_append, List.cons_append]
  refine gp hF ?_
  refine gv hF (ak rfl rfl rfl) ?_
  refine gv hF oA ?_
  refine sn ?_
  refine Sm.ret ?_
  obtain rfl := ae h
  exact bM rfl rfl
 replace h := ifT hc11 h
 refine hv hF (ax rfl rfl hc11) ?_
 obtain ⟨x12, hx12, h⟩ := ab h
 refine af.c hF rfl rfl (by kernel_rfl) rfl rfl rfl (jX hx12) ?_
 refine hv hF (oF (aj oV rfl)) ?_
 refine hv hF (oL (lP1 ag3 rfl)) ?_
 obtain ⟨x13, hx13, h⟩ := ab h
 refine kr hF rfl rfl rfl rfl rfl rfl x12.body (x12.ok _ _ hx13) ?_
 refine hv hF (aQ rfl rfl rfl) ?_
 rcases bX x13 with hc14 | hc14
 ·replace h := ifF hc14 h
  refine hv hF (ax rfl rfl hc14) ?_
  refine hp hF ?_
  refine hp hF ?_
  refine hp hF ?_
  refine af.last ⟨rfl, ?_⟩
  simp only [List.drop_succ_cons, List.drop_zero, List.drop_nil, List.nil_append, List.cons_append]
  refine gp hF ?_
  refine gv hF (ak rfl rfl rfl) ?_
  refine gv hF oA ?_
  refine sn ?_
  refine Sm.ret ?_
  obtain rfl := ae h
  exact bM rfl rfl
 replace h := ifT hc14 h
 refine hv hF (ax rfl rfl hc14) ?_
 obtain ⟨x15, hx15, h⟩ := ab h
 refine af.c hF rfl rfl (by kernel_rfl) rfl rfl rfl (jX hx15) ?_
 refine hv hF (oF (aj jA rfl)) ?_
 refine hv hF (oL (lP1 ag3 rfl)) ?_
 refine af.last ⟨rfl, ?_⟩
 simp only [List.drop_succ_cons, List.drop_zero, List.drop_nil, List.nil_append, List.cons_append]
 obtain ⟨x16, hx16, h⟩ := ab h
 refine SmG.callF hF rfl rfl rfl rfl rfl rfl x15.body (x15.ok _ _ hx16) ?_
 refine gv hF (aQ rfl rfl rfl) ?_
 refine gv hF oA ?_
 refine sn ?_
 refine Sm.ret ?_
 obtain rfl := ae h
 exact bM rfl rfl
noncomputable def fH (a0 : Ans) (a1 : Int) : Option Bool :=
 some (a0.version == a1)
set_option maxHeartbeats 4000000 in
theorem jO {a0 : Ans} {a1 : Int} {r : Bool} (h : fH a0 a1 = some r) : aq Tryd.prog HG 42 [.ptr 11 (Ans.row a0), .ptr 1 [.v (.int .i64 a1)]] (.v (.bool r)) := by
 unfold fH at h
 refine aq.of Tryd.func42 rfl Tryd.ntmps42 (by simp) ?_
 intro F hF h0 hT
 show Sm F _ _ ⟨[(0, .d (.ptr 11 (Ans.row a0))), (1, .d (.ptr 1 [.v (.int .i64 a1)]))], [], 0⟩
 refine sr hF ?_
 refine gv hF oA ?_
 refine sn ?_
 refine sr hF ?_
 refine gv hF (oF (aj yV rfl)) ?_
 refine gv hF (oL (lP1 ag3 rfl)) ?_
 refine gv hF (oL (lP1 ag3 rfl)) ?_
 refine gv hF (oB (cq)) ?_
 refine gv hF oA ?_
 refine sn ?_
 refine Sm.ret ?_
 obtain rfl := ae h
 exact bM rfl rfl
noncomputable def eO (a0 : Ans) : Option Bool :=
 ob (gb a0.pos a0.entry) fun x1 =>
 some x1
set_option maxHeartbeats 4000000 in
theorem jP {a0 : Ans} {r : Bool} (h : eO a0 = some r) : aq Tryd.prog HG 43 [.ptr 11 (Ans.row a0)] (.v (.bool r)) := by
 unfold eO at h
 refine aq.of Tryd.func43 rfl Tryd.ntmps43 (by simp) ?_
 intro F hF h0 hT
 show Sm F _ _ ⟨[(0, .d (.ptr 11 (Ans.row a0)))], [], 0⟩
 refine sr hF ?_
 refine gv hF oA ?_
 refine sn ?_
 refine sr hF ?_
 refine gv hF (oF (aj i7 rfl)) ?_
 refine gv hF (x := .d (.agg 5 [.list 1 (a0.pos.at_.map (aa .i64)) false, .list 1 (a0.pos.h0.map (aa .i64)) false, .list 1 (a0.pos.h1.map (aa .i64)) false, .v (.int .i64 a0.pos.rights), .v (.int .i64 a0.pos.side)])) (oL (fa gJ eu rfl rfl)) ?_
 refine gv hF (oF (aj lS rfl)) ?_
 refine gv hF (x := .d (.agg 2 [.v (.int .i64 a0.entry.out), .v (.int .i64 a0.entry.n)])) (oL (fa kw fL rfl rfl)) ?_
 obtain ⟨x1, hx1, h⟩ := ab h
 refine SmG.call hF rfl rfl (by kernel_rfl) rfl rfl rfl (nZ hx1) ?_
 refine gv hF oA ?_
 refine sn ?_
 refine Sm.ret ?_
 obtain rfl := ae h
 exact bM rfl rfl
noncomputable def eN (a0 : List UInt8) (a1 : Ans) : Option Bool :=
 ob (fo a1.pos a1.entry) fun x1 =>
 ob (iQ a0 a1.count a1.index x1 a1.proof) fun x2 =>
 some x2
set_option maxHeartbeats 4000000 in
theorem jC {a0 : List UInt8} {a1 : Ans} {r : Bool} (h : eN a0 a1 = some r) : aq Tryd.prog HG 45 [.ptr 32 (aS a0), .ptr 11 (Ans.row a1)] (.v (.bool r)) := by
 unfold eN at h
 refine aq.of Tryd.func45 rfl Tryd.ntmps45 (by simp) ?_
 intro F hF h0 hT
 show Sm F _ _ ⟨[(0, .d (.ptr 32 (aS a0))), (1, .d (.ptr 11 (Ans.row a1)))], [], 0⟩
 refine sr hF ?_
 refine gv hF oA ?_
 refine sn ?_
 refine Sm.seq ?_
 refine bm hF (by kernel_rfl) rfl 12 (by kernel_rfl) (by kernel_rfl) ?_
 simp only [List.take_succ_cons, List.take_zero, List.take_nil]
 refine hv hF (x := .d (.agg 32 (aS a0))) (oL (fa lu iB rfl rfl)) ?_
 refine hv hF (oF (aj uP rfl)) ?_
 refine hv hF (oL (lP1 ag3 rfl)) ?_
 refine hv hF (oF (aj vB rfl)) ?_
 refine hv hF (oL (lP1 ag3 rfl)) ?_
 refine hv hF (oF (aj i7 rfl)) ?_
 refine hv hF (x := .d (.agg 5 [.list 1 (a1.pos.at_.map (aa .i64)) false, .list 1 (a1.pos.h0.map (aa .i64)) false, .list 1 (a1.pos.h1.map (aa .i64)) false, .v (.int .i64 a1.pos.rights), .v (.int .i64 a1.pos.side)])) (oL (fa gJ eu rfl rfl)) ?_
 refine hv hF (oF (aj lS rfl)) ?_
 refine hv hF (x := .d (.agg 2 [.v (.int .i64 a1.entry.out), .v (.int .i64 a1.entry.n)])) (oL (fa kw fL rfl rfl)) ?_
 obtain ⟨x1, hx1, h⟩ := ab h
 refine af.c hF rfl rfl (by kernel_rfl) rfl rfl rfl (i6 hx1) ?_
 refine hv hF (oF (aj rn rfl)) ?_
 refine hv hF (oL (lP1 wM rfl)) ?_
 refine af.last ⟨rfl, ?_⟩
 simp only [List.drop_succ_cons, List.drop_zero, List.drop_nil, List.nil_append, List.cons_append]
 obtain ⟨x2, hx2, h⟩ := ab h
 refine SmG.call hF rfl rfl (by kernel_rfl) rfl rfl rfl (pH hx2) ?_
 refine gv hF oA ?_
 refine sn ?_
 refine Sm.ret ?_
 obtain rfl := ae h
 exact bM rfl rfl
noncomputable def fF (a0 : (FnV Tryd.prog HG (α := Unit) (β := Bool) (fun x => []) (fun y => .v (.bool y)))) : Option Bool :=
 ob (a0.f ()) fun x1 =>
 some (!x1)
set_option maxHeartbeats 4000000 in
theorem nd {a0 : (FnV Tryd.prog HG (α := Unit) (β := Bool) (fun x => []) (fun y => .v (.bool y)))} {r : Bool} (h : fF a0 = some r) : aq Tryd.prog HG 48 [.fn a0.g a0.c] (.v (.bool r)) := by
 unfold fF at h
 refine aq.of Tryd.func48 rfl Tryd.ntmps48 (by simp) ?_
 intro F hF h0 hT
 show Sm F _ _ ⟨[(0, .d (.fn a0.g a0.c))], [], 0⟩
 refine sr hF ?_
 refine gv hF oA ?_
 refine sn ?_
 refine sr hF ?_
 refine gv hF oM ?_
 obtain ⟨x1, hx1, h⟩ := ab h
 refine SmG.callF hF rfl rfl rfl rfl rfl rfl a0.body (a0.ok _ _ hx1) ?_
 refine gv hF (iU rfl rfl (jG _)) ?_
 refine gv hF oA ?_
 refine sn ?_
 refine Sm.ret ?_
 obtain rfl := ae h
 exact bM rfl rfl
noncomputable def bh (a0 : List (FnV Tryd.prog HG (α := Unit) (β := Bool) (fun x => []) (fun y => .v (.bool y)))) (a1 : (FnV Tryd.prog HG (α := (FnV Tryd.prog HG (α := Unit) (β := Bool) (fun x => []) (fun y => .v (.bool y)))) (β := Bool) (fun x => [.fn x.g x.c]) (fun y => .v (.bool y)))) (s1 : Int) : Option (Int ⊕ (Unit ⊕ Int)) :=
 bif (decide (s1 < (a0.length : Int))) then (
  ob (idx a0 s1) fun x6 =>
  ob (a1.f x6) fun x7 =>
  bif x7 then (
   some (.inr (.inr s1))
  ) else (
   ob (arI .i64 (s1 + 1)) fun x9 =>
   some (.inl x9)
  )
 ) else (
  some (.inr (.inl ()))
 )
noncomputable def ck (a0 : List (FnV Tryd.prog HG (α := Unit) (β := Bool) (fun x => []) (fun y => .v (.bool y)))) (a1 : (FnV Tryd.prog HG (α := (FnV Tryd.prog HG (α := Unit) (β := Bool) (fun x => []) (fun y => .v (.bool y)))) (β := Bool) (fun x => [.fn x.g x.c]) (fun y => .v (.bool y)))) : Option Int :=
 ob ((
  bC (bh a0 a1) 0
  : Option (Unit ⊕ Int))) fun o11 => match o11 with
 | .inl v10 => (
  some (-1)
  )
 | .inr e12 => some e12
set_option maxHeartbeats 4000000 in
theorem gl {a0 : List (FnV Tryd.prog HG (α := Unit) (β := Bool) (fun x => []) (fun y => .v (.bool y)))} {a1 : (FnV Tryd.prog HG (α := (FnV Tryd.prog HG (α := Unit) (β := Bool) (fun x => []) (fun y => .v (.bool y)))) (β := Bool) (fun x => [.fn x.g x.c]) (fun y => .v (.bool y)))} {r : Int} (h : ck a0 a1 = some r) : aq Tryd.prog HG 72 [.list 1 (a0.map FnV.row) false, .fn a1.g a1.c] (.v (.int .i64 r)) := by
 unfold ck at h
 refine aq.of Tryd.func72 rfl Tryd.ntmps72 (by simp) ?_
 intro F hF h0 hT
 show Sm F _ _ ⟨[(0, .d (.list 1 (a0.map FnV.row) false)), (1, .d (.fn a1.g a1.c))], [], 0⟩
 refine sr hF ?_
 refine gv hF oA ?_
 refine sn ?_
 refine Sm.seq ?_
 obtain ⟨o11, ho11, h⟩ := ab h
 rcases tZ o11 with ⟨e12, rfl⟩ | ⟨v10, rfl⟩
 ·have he12 := ae h
  subst he12
  replace h := ho11
  refine sr hF ?_
  refine gv hF oM ?_
  refine gv hF (oN (bF r4)) ?_
  refine gv hF oM ?_
  refine sn ?_
  refine Sm.block ?_
  refine bV (bh a0 a1) (fun s1 => ⟨[(0, .d (.list 1 (a0.map FnV.row) false)), (1, .d (.fn a1.g a1.c)), (7, .d (.v (.int .i64 (a0.length : Int)))), (8, .d (.v (.int .i64 s1)))], [], 0⟩) 0 h (toK ⟨rfl, rfl, rfl, rfl, trivial⟩ trivial) ?_
  intro n2 s1 o3 h hd4
  unfold bh at h
  refine sr hF ?_
  refine gv hF (oB (bP)) ?_
  refine sn ?_
  refine Sm.seq ?_
  refine aU hF rfl (fun hc5 => ?_) (fun hc5 => ?_)
  ·replace h := ifF hc5 h
   refine Sm.exit ?_
   replace h := bc h hd4
   cases h
  replace h := ifT hc5 h
  refine sk ?_
  refine Sm.seq ?_
  refine Sm.block ?_
  refine sr hF ?_
  refine gv hF oM ?_
  refine gv hF oA ?_
  refine sn ?_
  refine sr hF ?_
  refine gv hF oM ?_
  refine gv hF oM ?_
  refine gv hF oM ?_
  obtain ⟨x6, hx6, h⟩ := ab h
  refine gv hF (oI (cE r4 uu hx6)) ?_
  refine gv hF (oL (lP1 wI rfl)) ?_
  obtain ⟨x7, hx7, h⟩ := ab h
  refine SmG.callF hF rfl rfl rfl rfl rfl rfl a1.body (a1.ok _ _ hx7) ?_
  refine sn ?_
  refine aU hF rfl (fun hc8 => ?_) (fun hc8 => ?_)
  ·replace h := ifF hc8 h
   refine Sm.skip ?_
   refine ay ?_
   refine ag ?_
   refine ac hF rfl ?_
   obtain ⟨x9, hx9, h⟩ := ab h
   refine gv hF (oB (a8 hx9)) ?_
   refine gv hF oM ?_
   refine SmG.nil ?_
   exact bZ (bH h hd4) (toK ⟨rfl, rfl, rfl, rfl, trivial⟩ trivial)
  replace h := ifT hc8 h
  refine sr hF ?_
  refine gv hF oM ?_
  refine gv hF oA ?_
  refine sn ?_
  refine Sm.ret ?_
  replace h := bc h hd4
  replace h := pR h
  obtain rfl := ae h
  exact bM rfl rfl
 refine bk ⟨[], [], 0⟩ ?_ ?_
 ·refine Sm.seq ?_
  refine ac hF rfl ?_
  refine gv hF oA ?_
  refine sn ?_
  refine Sm.ret ?_
  obtain rfl := ae h
  exact bM rfl rfl
 replace h := ho11
 refine sr hF ?_
 refine gv hF oM ?_
 refine gv hF (oN (bF r4)) ?_
 refine gv hF oM ?_
 refine sn ?_
 refine Sm.block ?_
 refine bV (bh a0 a1) (fun s1 => ⟨[(0, .d (.list 1 (a0.map FnV.row) false)), (1, .d (.fn a1.g a1.c)), (7, .d (.v (.int .i64 (a0.length : Int)))), (8, .d (.v (.int .i64 s1)))], [], 0⟩) 0 h (toK ⟨rfl, rfl, rfl, rfl, trivial⟩ trivial) ?_
 intro n2 s1 o3 h hd4
 unfold bh at h
 refine sr hF ?_
 refine gv hF (oB (bP)) ?_
 refine sn ?_
 refine Sm.seq ?_
 refine aU hF rfl (fun hc5 => ?_) (fun hc5 => ?_)
 ·replace h := ifF hc5 h
  refine Sm.exit ?_
  replace h := bc h hd4
  obtain rfl := ae (kp h)
  exact (toK trivial trivial)
 replace h := ifT hc5 h
 refine sk ?_
 refine Sm.seq ?_
 refine Sm.block ?_
 refine sr hF ?_
 refine gv hF oM ?_
 refine gv hF oA ?_
 refine sn ?_
 refine sr hF ?_
 refine gv hF oM ?_
 refine gv hF oM ?_
 refine gv hF oM ?_
 obtain ⟨x6, hx6, h⟩ := ab h
 refine gv hF (oI (cE r4 uu hx6)) ?_
 refine gv hF (oL (lP1 wI rfl)) ?_
 obtain ⟨x7, hx7, h⟩ := ab h
 refine SmG.callF hF rfl rfl rfl rfl rfl rfl a1.body (a1.ok _ _ hx7) ?_
 refine sn ?_
 refine bA hF rfl (fun hc8 => ?_) (fun hc8 => ?_)
 ·replace h := ifT hc8 h
  refine sr hF ?_
  refine gv hF oM ?_
  refine gv hF oA ?_
  refine sn ?_
  refine Sm.ret ?_
  replace h := bc h hd4
  cases h
 replace h := ifF hc8 h
 refine Sm.skip ?_
 refine ay ?_
 refine ag ?_
 refine ac hF rfl ?_
 obtain ⟨x9, hx9, h⟩ := ab h
 refine gv hF (oB (a8 hx9)) ?_
 refine gv hF oM ?_
 refine SmG.nil ?_
 exact bZ (bH h hd4) (toK ⟨rfl, rfl, rfl, rfl, trivial⟩ trivial)
noncomputable def bB (a0 : List (FnV Tryd.prog HG (α := Unit) (β := Bool) (fun x => []) (fun y => .v (.bool y)))) (a1 : (FnV Tryd.prog HG (α := (FnV Tryd.prog HG (α := Unit) (β := Bool) (fun x => []) (fun y => .v (.bool y)))) (β := Bool) (fun x => [.fn x.g x.c]) (fun y => .v (.bool y)))) : Option Bool :=
 ob (ck a0 a1) fun x1 =>
 some (decide (0 ≤ x1))
set_option maxHeartbeats 4000000 in
theorem fT {a0 : List (FnV Tryd.prog HG (α := Unit) (β := Bool) (fun x => []) (fun y => .v (.bool y)))} {a1 : (FnV Tryd.prog HG (α := (FnV Tryd.prog HG (α := Unit) (β := Bool) (fun x => []) (fun y => .v (.bool y)))) (β := Bool) (fun x => [.fn x.g x.c]) (fun y => .v (.bool y)))} {r : Bool} (h : bB a0 a1 = some r) : aq Tryd.prog HG 47 [.list 1 (a0.map FnV.row) false, .fn a1.g a1.c] (.v (.bool r)) := by
 unfold bB at h
 refine aq.of Tryd.func47 rfl Tryd.ntmps47 (by simp) ?_
 intro F hF h0 hT
 show Sm F _ _ ⟨[(0, .d (.list 1 (a0.map FnV.row) false)), (1, .d (.fn a1.g a1.c))], [], 0⟩
 refine sr hF ?_
 refine gv hF oA ?_
 refine sn ?_
 refine sr hF ?_
 refine gv hF oM ?_
 refine gv hF oM ?_
 obtain ⟨x1, hx1, h⟩ := ab h
 refine SmG.call hF rfl rfl (by kernel_rfl) rfl rfl rfl (gl hx1) ?_
 refine gv hF (oB (mm)) ?_
 refine gv hF oA ?_
 refine sn ?_
 refine Sm.ret ?_
 obtain rfl := ae h
 exact bM rfl rfl
noncomputable def cO (a0 : List UInt8) (a1 : Int) (a2 : Ans) : Option Bool :=
 ob (bB ([(⟨42, [.ptr 11 (Ans.row a2), .ptr 1 [.v (.int .i64 a1)]], fun x => fH  a2 a1, by kernel_rfl, fun x y h => jO h⟩ : (FnV Tryd.prog HG (α := Unit) (β := Bool) (fun x => []) (fun y => .v (.bool y)))), (⟨43, [.ptr 11 (Ans.row a2)], fun x => eO  a2, by kernel_rfl, fun x y h => jP h⟩ : (FnV Tryd.prog HG (α := Unit) (β := Bool) (fun x => []) (fun y => .v (.bool y)))), (⟨45, [.ptr 32 (aS a0), .ptr 11 (Ans.row a2)], fun x => eN  a0 a2, by kernel_rfl, fun x y h => jC h⟩ : (FnV Tryd.prog HG (α := Unit) (β := Bool) (fun x => []) (fun y => .v (.bool y))))]) (⟨48, [], fun x => fF x , by kernel_rfl, fun x y h => nd h⟩ : (FnV Tryd.prog HG (α := (FnV Tryd.prog HG (α := Unit) (β := Bool) (fun x => []) (fun y => .v (.bool y)))) (β := Bool) (fun x => [.fn x.g x.c]) (fun y => .v (.bool y))))) fun x1 =>
 some (!x1)
set_option maxHeartbeats 4000000 in
theorem dP {a0 : List UInt8} {a1 : Int} {a2 : Ans} {r : Bool} (h : cO a0 a1 a2 = some r) : aq Tryd.prog HG 18 [.agg 32 (aS a0), .v (.int .i64 a1), .agg 11 (Ans.row a2)] (.v (.bool r)) := by
 unfold cO at h
 refine aq.of Tryd.func18 rfl Tryd.ntmps18 (by simp) ?_
 intro F hF h0 hT
 show Sm F _ _ ⟨[(0, .d (.agg 32 (aS a0))), (1, .d (.v (.int .i64 a1))), (2, .d (.agg 11 (Ans.row a2)))], [], 0⟩
 refine sr hF ?_
 refine cG hF gu ?_
 refine cG hF we ?_
 refine cG hF gu ?_
 refine gv hF oA ?_
 refine sn ?_
 refine sr hF ?_
 refine gv hF (f9 rfl rfl) ?_
 refine gv hF (f9 rfl rfl) ?_
 refine gv hF (f9 rfl rfl) ?_
 refine gv hF (x := .d (.list 1 ([(⟨42, [.ptr 11 (Ans.row a2), .ptr 1 [.v (.int .i64 a1)]], fun x => fH  a2 a1, by kernel_rfl, fun x y h => jO h⟩ : (FnV Tryd.prog HG (α := Unit) (β := Bool) (fun x => []) (fun y => .v (.bool y)))), (⟨43, [.ptr 11 (Ans.row a2)], fun x => eO  a2, by kernel_rfl, fun x y h => jP h⟩ : (FnV Tryd.prog HG (α := Unit) (β := Bool) (fun x => []) (fun y => .v (.bool y)))), (⟨45, [.ptr 32 (aS a0), .ptr 11 (Ans.row a2)], fun x => eN  a0 a2, by kernel_rfl, fun x y h => jC h⟩ : (FnV Tryd.prog HG (α := Unit) (β := Bool) (fun x => []) (fun y => .v (.bool y))))].map FnV.row) true)) (oS (az r4 uu DX rfl rfl (PartsQ.cons rfl (PartsQ.cons rfl (PartsQ.cons rfl (PartsQ.nil _)))) rfl)) ?_
 refine gv hF oA ?_
 refine sn ?_
 refine sr hF ?_
 refine gv hF oM ?_
 obtain ⟨x1, hx1, h⟩ := ab h
 refine SmG.call hF rfl rfl (by kernel_rfl) rfl rfl rfl (aq.args (fT hx1) (fun C => (bT (by repeat' first | exact D.le.refl _ | exact aE _ _ _ | exact aD _ _ _ | refine aI ?_ | exact LeRows.nil | refine LeRows.cons ?_ ?_ | exact LeL.nil | refine LeL.cons ?_ ?_ | refine aH ?_ | refine aG ?_) (bT (by repeat' first | exact D.le.refl _ | exact aE _ _ _ | exact aD _ _ _ | refine aI ?_ | exact LeRows.nil | refine LeRows.cons ?_ ?_ | exact LeL.nil | refine LeL.cons ?_ ?_ | refine aH ?_ | refine aG ?_) (fun _ h => h))))) ?_
 refine gv hF (iU rfl rfl (jG _)) ?_
 refine gv hF oA ?_
 refine sn ?_
 refine Sm.ret ?_
 obtain rfl := ae h
 exact bM rfl rfl
end
section
open Go.RowKit
set_option maxRecDepth 100000
noncomputable def ez : Option Bool :=
 ob (fo (⟨[1, 0], [2], [0], 1, 0⟩ : Ps) (⟨1, 258⟩ : Rs)) fun x1 =>
 ob (cb ([(⟨[1, 0], [2], [0], 1, 0⟩ : Ps)]) [(⟨1, 258⟩ : Rs)] 7 0) fun x2 =>
 ob (cb ([(⟨[1, 0], [2], [0], 1, 0⟩ : Ps)]) [] 7 0) fun x3 =>
 ob (cb ([(⟨[1, 0], [2], [0], 1, 0⟩ : Ps)]) [(⟨1, 258⟩ : Rs)] 7 1) fun x4 =>
 ob (fi ([(⟨[1, 0], [2], [0], 1, 0⟩ : Ps)]) [(⟨1, 258⟩ : Rs)]) fun x5 =>
 ob (vN 32 x5) fun x6 =>
 bif (x2.2 == 0) then (
  bif (x3.2 == 1) then (
   bif (x4.2 == 1) then (
    bif (x1 == ([2, 1, 1, 1, 0, 2, 0, 1, 0, 1, 0, 0, 1, 2] : List UInt8)) then (
     bif ((x2.1.proof.length : Int) == 0) then (
      bif (x2.1.count == 1) then (
       ob (d9 (⟨[1, 0], [2], [0], 1, 0⟩ : Ps) (⟨1, 258⟩ : Rs)) fun x13 =>
       ob (dY x13) fun x14 =>
       ob (vN 32 x5) fun x15 =>
       ob (vN 32 x14) fun x16 =>
       bif (x5 == x14) then (
        ob (cO x5 7 x2.1) fun x18 =>
        bif x18 then (
         ob (cO x5 8 x2.1) fun x20 =>
         bif (!x20) then (
          ob (cO (List.replicate 32 0) 7 x2.1) fun x22 =>
          some (!x22)
         ) else (
          some false
         )
        ) else (
         some false
        )
       ) else (
        some false
       )
      ) else (
       some false
      )
     ) else (
      some false
     )
    ) else (
     some false
    )
   ) else (
    some false
   )
  ) else (
   some false
  )
 ) else (
  some false
 )
set_option maxHeartbeats 4000000 in
theorem lq {r : Bool} (h : ez = some r) : aq Tryd.prog HG 9 [] (.v (.bool r)) := by
 unfold ez at h
 refine aq.of Tryd.func9 rfl Tryd.ntmps9 (by simp) ?_
 intro F hF h0 hT
 show Sm F _ _ ⟨[], [], 0⟩
 refine sr hF ?_
 refine gv hF oA ?_
 refine sn ?_
 refine sr hF ?_
 refine gv hF (x := .d (.list 1 ([1, 0].map (aa .i64)) true)) (oS (az u30 sz3 ze3 rfl rfl (PartsQ.cons rfl (PartsQ.cons rfl (PartsQ.nil _))) rfl)) ?_
 refine gv hF (x := .d (.list 1 ([2].map (aa .i64)) true)) (oS (az u30 sz3 ze3 rfl rfl (PartsQ.cons rfl (PartsQ.nil _)) rfl)) ?_
 refine gv hF (x := .d (.list 1 ([0].map (aa .i64)) true)) (oS (az u30 sz3 ze3 rfl rfl (PartsQ.cons rfl (PartsQ.nil _)) rfl)) ?_
 refine gv hF (x := .d (.agg 2 [.list 1 ([2].map (aa .i64)) true, .list 1 ([0].map (aa .i64)) true])) (fS rfl u31 rfl (uq u31 eI yI rfl rfl)) ?_
 refine gv hF (x := .d (.agg 5 [.list 1 ([1, 0].map (aa .i64)) true, .list 1 ([2].map (aa .i64)) true, .list 1 ([0].map (aa .i64)) true, .v (.int .i64 1), .v (.int .i64 0)])) (aY rfl u33 (by kernel_rfl) rfl (bd (n := 5) nn ze rfl rfl)) ?_
 refine SmG.new hF rfl rfl rfl (aT rfl wz) ?_
 refine SmG.store hF rfl rfl rfl rfl rfl (aX (ys := [.d (.list 1 ([1, 0].map (aa .i64)) true), .d (.list 1 ([2].map (aa .i64)) true), .d (.list 1 ([0].map (aa .i64)) true), .d (.v (.int .i64 1)), .d (.v (.int .i64 0))]) (r := [.d (.list 0 [] true), .d (.list 0 [] true), .d (.list 0 [] true), .d (.v (.int .i64 0)), .d (.v (.int .i64 0))]) (rows' := [[.d (.list 1 ([1, 0].map (aa .i64)) true), .d (.list 1 ([2].map (aa .i64)) true), .d (.list 1 ([0].map (aa .i64)) true), .d (.v (.int .i64 1)), .d (.v (.int .i64 0))]]) rfl rfl rfl eu rfl rfl rfl rfl rfl) ?_
 refine sn ?_
 refine sr hF ?_
 refine gv hF (x := .d (.agg 2 [.v (.int .i64 1), .v (.int .i64 258)])) (aY rfl u35 (by kernel_rfl) rfl (bd (n := 2) oz zw rfl rfl)) ?_
 refine SmG.new hF rfl rfl rfl (aT rfl Fs) ?_
 refine SmG.store hF rfl rfl rfl rfl rfl (aX (ys := [.d (.v (.int .i64 1)), .d (.v (.int .i64 258))]) (r := [.d (.v (.int .i64 0)), .d (.v (.int .i64 0))]) (rows' := [[.d (.v (.int .i64 1)), .d (.v (.int .i64 258))]]) rfl rfl rfl fL rfl rfl rfl rfl rfl) ?_
 refine sn ?_
 refine sr hF ?_
 refine gv hF (x := .d (.agg 5 [.list 1 ([1, 0].map (aa .i64)) true, .list 1 ([2].map (aa .i64)) true, .list 1 ([0].map (aa .i64)) true, .v (.int .i64 1), .v (.int .i64 0)])) (oL (aC rfl rfl gJ eu rfl rfl)) ?_
 refine gv hF (x := .d (.agg 2 [.v (.int .i64 1), .v (.int .i64 258)])) (oL (aC rfl rfl kw fL rfl rfl)) ?_
 obtain ⟨x1, hx1, h⟩ := ab h
 refine SmG.call hF rfl rfl (by kernel_rfl) rfl rfl rfl (aq.args (i6 hx1) (fun C => (bT (by repeat' first | exact D.le.refl _ | exact aE _ _ _ | exact aD _ _ _ | refine aI ?_ | exact LeRows.nil | refine LeRows.cons ?_ ?_ | exact LeL.nil | refine LeL.cons ?_ ?_ | refine aH ?_ | refine aG ?_) (bT (by repeat' first | exact D.le.refl _ | exact aE _ _ _ | exact aD _ _ _ | refine aI ?_ | exact LeRows.nil | refine LeRows.cons ?_ ?_ | exact LeL.nil | refine LeL.cons ?_ ?_ | refine aH ?_ | refine aG ?_) (fun _ h => h))))) ?_
 refine gv hF oA ?_
 refine sn ?_
 refine sr hF ?_
 refine gv hF (x := .d (.agg 5 [.list 1 ([1, 0].map (aa .i64)) true, .list 1 ([2].map (aa .i64)) true, .list 1 ([0].map (aa .i64)) true, .v (.int .i64 1), .v (.int .i64 0)])) (oL (aC rfl rfl gJ eu rfl rfl)) ?_
 refine cV (cc (env' := [(1, .ref 0 0 0), (2, .ref 1 0 0), (3, .d (.list 1 (x1.map aL) false)), (22, .d (.agg 5 [.list 1 ([1, 0].map (aa .i64)) false, .list 1 ([2].map (aa .i64)) false, .list 1 ([0].map (aa .i64)) false, .v (.int .i64 1), .v (.int .i64 0)]))]) (h' := [(1, ⟨2, [[.d (.v (.int .i64 1)), .d (.v (.int .i64 258))]]⟩), (0, ⟨5, [[.d (.list 1 ([1, 0].map (aa .i64)) true), .d (.list 1 ([2].map (aa .i64)) true), .d (.list 1 ([0].map (aa .i64)) true), .d (.v (.int .i64 1)), .d (.v (.int .i64 0))]]⟩)]) (nx' := 2) ⟨⟨_, rfl, V.le.refl _⟩, ⟨_, rfl, V.le.refl _⟩, ⟨_, rfl, V.le.refl _⟩, ⟨_, rfl, V.le.d (by repeat' first | exact D.le.refl _ | exact aE _ _ _ | exact aD _ _ _ | refine aI ?_ | exact LeRows.nil | refine LeRows.cons ?_ ?_ | exact LeL.nil | refine LeL.cons ?_ ?_ | refine aH ?_ | refine aG ?_)⟩, trivial⟩ ⟨⟨_, rfl, bp.refl _⟩, ⟨_, rfl, bp.refl _⟩, trivial⟩ (Nat.le_of_ble_eq_true rfl)) rfl ?_
 refine gv hF (x := .d (.list 5 ([(⟨[1, 0], [2], [0], 1, 0⟩ : Ps)].map Ps.row) true)) (oS (az u40 eu nn rfl rfl (PartsQ.cons rfl (PartsQ.nil _)) rfl)) ?_
 refine gv hF (x := .d (.agg 2 [.v (.int .i64 1), .v (.int .i64 258)])) (oL (aC rfl rfl kw fL rfl rfl)) ?_
 refine gv hF (x := .d (.list 2 ([(⟨1, 258⟩ : Rs)].map Rs.row) true)) (oS (az u41 fL oz rfl rfl (PartsQ.cons rfl (PartsQ.nil _)) rfl)) ?_
 obtain ⟨x2, hx2, h⟩ := ab h
 refine SmG.call hF rfl rfl (by kernel_rfl) rfl rfl rfl (aq.args (eG hx2) (fun C => (bT (by repeat' first | exact D.le.refl _ | exact aE _ _ _ | exact aD _ _ _ | refine aI ?_ | exact LeRows.nil | refine LeRows.cons ?_ ?_ | exact LeL.nil | refine LeL.cons ?_ ?_ | refine aH ?_ | refine aG ?_) (bT (by repeat' first | exact D.le.refl _ | exact aE _ _ _ | exact aD _ _ _ | refine aI ?_ | exact LeRows.nil | refine LeRows.cons ?_ ?_ | exact LeL.nil | refine LeL.cons ?_ ?_ | refine aH ?_ | refine aG ?_) (bT (by repeat' first | exact D.le.refl _ | exact aE _ _ _ | exact aD _ _ _ | refine aI ?_ | exact LeRows.nil | refine LeRows.cons ?_ ?_ | exact LeL.nil | refine LeL.cons ?_ ?_ | refine aH ?_ | refine aG ?_) (bT (by repeat' first | exact D.le.refl _ | exact aE _ _ _ | exact aD _ _ _ | refine aI ?_ | exact LeRows.nil | refine LeRows.cons ?_ ?_ | exact LeL.nil | refine LeL.cons ?_ ?_ | refine aH ?_ | refine aG ?_) (fun _ h => h))))))) ?_
 refine gv hF oM ?_
 refine gv hF (bx rfl rfl rfl) ?_
 refine gv hF (bx rfl rfl rfl) ?_
 refine SmG.new hF rfl rfl rfl (aT rfl lm) ?_
 refine SmG.store hF rfl rfl rfl rfl rfl (aX (ys := [.d (.v (.int .i64 x2.1.version)), .d (.v (.int .i64 x2.1.index)), .d (.v (.int .i64 x2.1.count)), .d (.list 1 (x2.1.pos.at_.map (aa .i64)) false), .d (.list 1 (x2.1.pos.h0.map (aa .i64)) false), .d (.list 1 (x2.1.pos.h1.map (aa .i64)) false), .d (.v (.int .i64 x2.1.pos.rights)), .d (.v (.int .i64 x2.1.pos.side)), .d (.v (.int .i64 x2.1.entry.out)), .d (.v (.int .i64 x2.1.entry.n)), .d (.list 32 (x2.1.proof.map aS) false)]) (r := [.d (.v (.int .i64 0)), .d (.v (.int .i64 0)), .d (.v (.int .i64 0)), .d (.list 0 [] true), .d (.list 0 [] true), .d (.list 0 [] true), .d (.v (.int .i64 0)), .d (.v (.int .i64 0)), .d (.v (.int .i64 0)), .d (.v (.int .i64 0)), .d (.list 0 [] true)]) (rows' := [[.d (.v (.int .i64 x2.1.version)), .d (.v (.int .i64 x2.1.index)), .d (.v (.int .i64 x2.1.count)), .d (.list 1 (x2.1.pos.at_.map (aa .i64)) false), .d (.list 1 (x2.1.pos.h0.map (aa .i64)) false), .d (.list 1 (x2.1.pos.h1.map (aa .i64)) false), .d (.v (.int .i64 x2.1.pos.rights)), .d (.v (.int .i64 x2.1.pos.side)), .d (.v (.int .i64 x2.1.entry.out)), .d (.v (.int .i64 x2.1.entry.n)), .d (.list 32 (x2.1.proof.map aS) false)]]) rfl rfl rfl eX rfl rfl rfl rfl rfl) ?_
 refine gv hF oA ?_
 refine sn ?_
 refine sr hF ?_
 refine gv hF (x := .d (.agg 5 [.list 1 ([1, 0].map (aa .i64)) true, .list 1 ([2].map (aa .i64)) true, .list 1 ([0].map (aa .i64)) true, .v (.int .i64 1), .v (.int .i64 0)])) (oL (aC rfl rfl gJ eu rfl rfl)) ?_
 refine cV (cc (env' := [(1, .ref 0 0 0), (2, .ref 1 0 0), (3, .d (.list 1 (x1.map aL) false)), (4, .ref 2 0 0), (5, .d (.v (.int .i64 x2.2))), (30, .d (.agg 5 [.list 1 ([1, 0].map (aa .i64)) false, .list 1 ([2].map (aa .i64)) false, .list 1 ([0].map (aa .i64)) false, .v (.int .i64 1), .v (.int .i64 0)]))]) (h' := [(2, ⟨11, [[.d (.v (.int .i64 x2.1.version)), .d (.v (.int .i64 x2.1.index)), .d (.v (.int .i64 x2.1.count)), .d (.list 1 (x2.1.pos.at_.map (aa .i64)) false), .d (.list 1 (x2.1.pos.h0.map (aa .i64)) false), .d (.list 1 (x2.1.pos.h1.map (aa .i64)) false), .d (.v (.int .i64 x2.1.pos.rights)), .d (.v (.int .i64 x2.1.pos.side)), .d (.v (.int .i64 x2.1.entry.out)), .d (.v (.int .i64 x2.1.entry.n)), .d (.list 32 (x2.1.proof.map aS) false)]]⟩), (1, ⟨2, [[.d (.v (.int .i64 1)), .d (.v (.int .i64 258))]]⟩), (0, ⟨5, [[.d (.list 1 ([1, 0].map (aa .i64)) true), .d (.list 1 ([2].map (aa .i64)) true), .d (.list 1 ([0].map (aa .i64)) true), .d (.v (.int .i64 1)), .d (.v (.int .i64 0))]]⟩)]) (nx' := 3) ⟨⟨_, rfl, V.le.refl _⟩, ⟨_, rfl, V.le.refl _⟩, ⟨_, rfl, V.le.refl _⟩, ⟨_, rfl, V.le.refl _⟩, ⟨_, rfl, V.le.refl _⟩, ⟨_, rfl, V.le.d (by repeat' first | exact D.le.refl _ | exact aE _ _ _ | exact aD _ _ _ | refine aI ?_ | exact LeRows.nil | refine LeRows.cons ?_ ?_ | exact LeL.nil | refine LeL.cons ?_ ?_ | refine aH ?_ | refine aG ?_)⟩, trivial⟩ ⟨⟨_, rfl, bp.refl _⟩, ⟨_, rfl, bp.refl _⟩, ⟨_, rfl, bp.refl _⟩, trivial⟩ (Nat.le_of_ble_eq_true rfl)) rfl ?_
 refine gv hF (x := .d (.list 5 ([(⟨[1, 0], [2], [0], 1, 0⟩ : Ps)].map Ps.row) true)) (oS (az u40 eu nn rfl rfl (PartsQ.cons rfl (PartsQ.nil _)) rfl)) ?_
 obtain ⟨x3, hx3, h⟩ := ab h
 refine SmG.call hF rfl rfl (by kernel_rfl) rfl rfl rfl (aq.args (eG hx3) (fun C => (bT (by repeat' first | exact D.le.refl _ | exact aE _ _ _ | exact aD _ _ _ | refine aI ?_ | exact LeRows.nil | refine LeRows.cons ?_ ?_ | exact LeL.nil | refine LeL.cons ?_ ?_ | refine aH ?_ | refine aG ?_) (bT (by repeat' first | exact D.le.refl _ | exact aE _ _ _ | exact aD _ _ _ | refine aI ?_ | exact LeRows.nil | refine LeRows.cons ?_ ?_ | exact LeL.nil | refine LeL.cons ?_ ?_ | refine aH ?_ | refine aG ?_) (bT (by repeat' first | exact D.le.refl _ | exact aE _ _ _ | exact aD _ _ _ | refine aI ?_ | exact LeRows.nil | refine LeRows.cons ?_ ?_ | exact LeL.nil | refine LeL.cons ?_ ?_ | refine aH ?_ | refine aG ?_) (bT (by repeat' first | exact D.le.refl _ | exact aE _ _ _ | exact aD _ _ _ | refine aI ?_ | exact LeRows.nil | refine LeRows.cons ?_ ?_ | exact LeL.nil | refine LeL.cons ?_ ?_ | refine aH ?_ | refine aG ?_) (fun _ h => h))))))) ?_
 refine gv hF oM ?_
 refine gv hF (bx rfl rfl rfl) ?_
 refine gv hF (bx rfl rfl rfl) ?_
 refine SmG.new hF rfl rfl rfl (aT rfl lm) ?_
 refine SmG.store hF rfl rfl rfl rfl rfl (aX (ys := [.d (.v (.int .i64 x3.1.version)), .d (.v (.int .i64 x3.1.index)), .d (.v (.int .i64 x3.1.count)), .d (.list 1 (x3.1.pos.at_.map (aa .i64)) false), .d (.list 1 (x3.1.pos.h0.map (aa .i64)) false), .d (.list 1 (x3.1.pos.h1.map (aa .i64)) false), .d (.v (.int .i64 x3.1.pos.rights)), .d (.v (.int .i64 x3.1.pos.side)), .d (.v (.int .i64 x3.1.entry.out)), .d (.v (.int .i64 x3.1.entry.n)), .d (.list 32 (x3.1.proof.map aS) false)]) (r := [.d (.v (.int .i64 0)), .d (.v (.int .i64 0)), .d (.v (.int .i64 0)), .d (.list 0 [] true), .d (.list 0 [] true), .d (.list 0 [] true), .d (.v (.int .i64 0)), .d (.v (.int .i64 0)), .d (.v (.int .i64 0)), .d (.v (.int .i64 0)), .d (.list 0 [] true)]) (rows' := [[.d (.v (.int .i64 x3.1.version)), .d (.v (.int .i64 x3.1.index)), .d (.v (.int .i64 x3.1.count)), .d (.list 1 (x3.1.pos.at_.map (aa .i64)) false), .d (.list 1 (x3.1.pos.h0.map (aa .i64)) false), .d (.list 1 (x3.1.pos.h1.map (aa .i64)) false), .d (.v (.int .i64 x3.1.pos.rights)), .d (.v (.int .i64 x3.1.pos.side)), .d (.v (.int .i64 x3.1.entry.out)), .d (.v (.int .i64 x3.1.entry.n)), .d (.list 32 (x3.1.proof.map aS) false)]]) rfl rfl rfl eX rfl rfl rfl rfl rfl) ?_
 refine gv hF oA ?_
 refine sn ?_
 refine sr hF ?_
 refine gv hF (x := .d (.agg 5 [.list 1 ([1, 0].map (aa .i64)) true, .list 1 ([2].map (aa .i64)) true, .list 1 ([0].map (aa .i64)) true, .v (.int .i64 1), .v (.int .i64 0)])) (oL (aC rfl rfl gJ eu rfl rfl)) ?_
 refine cV (cc (env' := [(1, .ref 0 0 0), (2, .ref 1 0 0), (3, .d (.list 1 (x1.map aL) false)), (4, .ref 2 0 0), (5, .d (.v (.int .i64 x2.2))), (7, .d (.v (.int .i64 x3.2))), (36, .d (.agg 5 [.list 1 ([1, 0].map (aa .i64)) false, .list 1 ([2].map (aa .i64)) false, .list 1 ([0].map (aa .i64)) false, .v (.int .i64 1), .v (.int .i64 0)]))]) (h' := [(2, ⟨11, [[.d (.v (.int .i64 x2.1.version)), .d (.v (.int .i64 x2.1.index)), .d (.v (.int .i64 x2.1.count)), .d (.list 1 (x2.1.pos.at_.map (aa .i64)) false), .d (.list 1 (x2.1.pos.h0.map (aa .i64)) false), .d (.list 1 (x2.1.pos.h1.map (aa .i64)) false), .d (.v (.int .i64 x2.1.pos.rights)), .d (.v (.int .i64 x2.1.pos.side)), .d (.v (.int .i64 x2.1.entry.out)), .d (.v (.int .i64 x2.1.entry.n)), .d (.list 32 (x2.1.proof.map aS) false)]]⟩), (1, ⟨2, [[.d (.v (.int .i64 1)), .d (.v (.int .i64 258))]]⟩), (0, ⟨5, [[.d (.list 1 ([1, 0].map (aa .i64)) true), .d (.list 1 ([2].map (aa .i64)) true), .d (.list 1 ([0].map (aa .i64)) true), .d (.v (.int .i64 1)), .d (.v (.int .i64 0))]]⟩)]) (nx' := 4) ⟨⟨_, rfl, V.le.refl _⟩, ⟨_, rfl, V.le.refl _⟩, ⟨_, rfl, V.le.refl _⟩, ⟨_, rfl, V.le.refl _⟩, ⟨_, rfl, V.le.refl _⟩, ⟨_, rfl, V.le.refl _⟩, ⟨_, rfl, V.le.d (by repeat' first | exact D.le.refl _ | exact aE _ _ _ | exact aD _ _ _ | refine aI ?_ | exact LeRows.nil | refine LeRows.cons ?_ ?_ | exact LeL.nil | refine LeL.cons ?_ ?_ | refine aH ?_ | refine aG ?_)⟩, trivial⟩ ⟨⟨_, rfl, bp.refl _⟩, ⟨_, rfl, bp.refl _⟩, ⟨_, rfl, bp.refl _⟩, trivial⟩ (Nat.le_of_ble_eq_true rfl)) rfl ?_
 refine gv hF (x := .d (.list 5 ([(⟨[1, 0], [2], [0], 1, 0⟩ : Ps)].map Ps.row) true)) (oS (az u40 eu nn rfl rfl (PartsQ.cons rfl (PartsQ.nil _)) rfl)) ?_
 refine gv hF (x := .d (.agg 2 [.v (.int .i64 1), .v (.int .i64 258)])) (oL (aC rfl rfl kw fL rfl rfl)) ?_
 refine gv hF (x := .d (.list 2 ([(⟨1, 258⟩ : Rs)].map Rs.row) true)) (oS (az u41 fL oz rfl rfl (PartsQ.cons rfl (PartsQ.nil _)) rfl)) ?_
 obtain ⟨x4, hx4, h⟩ := ab h
 refine SmG.call hF rfl rfl (by kernel_rfl) rfl rfl rfl (aq.args (eG hx4) (fun C => (bT (by repeat' first | exact D.le.refl _ | exact aE _ _ _ | exact aD _ _ _ | refine aI ?_ | exact LeRows.nil | refine LeRows.cons ?_ ?_ | exact LeL.nil | refine LeL.cons ?_ ?_ | refine aH ?_ | refine aG ?_) (bT (by repeat' first | exact D.le.refl _ | exact aE _ _ _ | exact aD _ _ _ | refine aI ?_ | exact LeRows.nil | refine LeRows.cons ?_ ?_ | exact LeL.nil | refine LeL.cons ?_ ?_ | refine aH ?_ | refine aG ?_) (bT (by repeat' first | exact D.le.refl _ | exact aE _ _ _ | exact aD _ _ _ | refine aI ?_ | exact LeRows.nil | refine LeRows.cons ?_ ?_ | exact LeL.nil | refine LeL.cons ?_ ?_ | refine aH ?_ | refine aG ?_) (bT (by repeat' first | exact D.le.refl _ | exact aE _ _ _ | exact aD _ _ _ | refine aI ?_ | exact LeRows.nil | refine LeRows.cons ?_ ?_ | exact LeL.nil | refine LeL.cons ?_ ?_ | refine aH ?_ | refine aG ?_) (fun _ h => h))))))) ?_
 refine gv hF oM ?_
 refine gv hF (bx rfl rfl rfl) ?_
 refine gv hF (bx rfl rfl rfl) ?_
 refine SmG.new hF rfl rfl rfl (aT rfl lm) ?_
 refine SmG.store hF rfl rfl rfl rfl rfl (aX (ys := [.d (.v (.int .i64 x4.1.version)), .d (.v (.int .i64 x4.1.index)), .d (.v (.int .i64 x4.1.count)), .d (.list 1 (x4.1.pos.at_.map (aa .i64)) false), .d (.list 1 (x4.1.pos.h0.map (aa .i64)) false), .d (.list 1 (x4.1.pos.h1.map (aa .i64)) false), .d (.v (.int .i64 x4.1.pos.rights)), .d (.v (.int .i64 x4.1.pos.side)), .d (.v (.int .i64 x4.1.entry.out)), .d (.v (.int .i64 x4.1.entry.n)), .d (.list 32 (x4.1.proof.map aS) false)]) (r := [.d (.v (.int .i64 0)), .d (.v (.int .i64 0)), .d (.v (.int .i64 0)), .d (.list 0 [] true), .d (.list 0 [] true), .d (.list 0 [] true), .d (.v (.int .i64 0)), .d (.v (.int .i64 0)), .d (.v (.int .i64 0)), .d (.v (.int .i64 0)), .d (.list 0 [] true)]) (rows' := [[.d (.v (.int .i64 x4.1.version)), .d (.v (.int .i64 x4.1.index)), .d (.v (.int .i64 x4.1.count)), .d (.list 1 (x4.1.pos.at_.map (aa .i64)) false), .d (.list 1 (x4.1.pos.h0.map (aa .i64)) false), .d (.list 1 (x4.1.pos.h1.map (aa .i64)) false), .d (.v (.int .i64 x4.1.pos.rights)), .d (.v (.int .i64 x4.1.pos.side)), .d (.v (.int .i64 x4.1.entry.out)), .d (.v (.int .i64 x4.1.entry.n)), .d (.list 32 (x4.1.proof.map aS) false)]]) rfl rfl rfl eX rfl rfl rfl rfl rfl) ?_
 refine gv hF oA ?_
 refine sn ?_
 refine sr hF ?_
 refine gv hF (x := .d (.agg 5 [.list 1 ([1, 0].map (aa .i64)) true, .list 1 ([2].map (aa .i64)) true, .list 1 ([0].map (aa .i64)) true, .v (.int .i64 1), .v (.int .i64 0)])) (oL (aC rfl rfl gJ eu rfl rfl)) ?_
 refine cV (cc (env' := [(1, .ref 0 0 0), (2, .ref 1 0 0), (3, .d (.list 1 (x1.map aL) false)), (4, .ref 2 0 0), (5, .d (.v (.int .i64 x2.2))), (7, .d (.v (.int .i64 x3.2))), (9, .d (.v (.int .i64 x4.2))), (43, .d (.agg 5 [.list 1 ([1, 0].map (aa .i64)) false, .list 1 ([2].map (aa .i64)) false, .list 1 ([0].map (aa .i64)) false, .v (.int .i64 1), .v (.int .i64 0)]))]) (h' := [(2, ⟨11, [[.d (.v (.int .i64 x2.1.version)), .d (.v (.int .i64 x2.1.index)), .d (.v (.int .i64 x2.1.count)), .d (.list 1 (x2.1.pos.at_.map (aa .i64)) false), .d (.list 1 (x2.1.pos.h0.map (aa .i64)) false), .d (.list 1 (x2.1.pos.h1.map (aa .i64)) false), .d (.v (.int .i64 x2.1.pos.rights)), .d (.v (.int .i64 x2.1.pos.side)), .d (.v (.int .i64 x2.1.entry.out)), .d (.v (.int .i64 x2.1.entry.n)), .d (.list 32 (x2.1.proof.map aS) false)]]⟩), (1, ⟨2, [[.d (.v (.int .i64 1)), .d (.v (.int .i64 258))]]⟩), (0, ⟨5, [[.d (.list 1 ([1, 0].map (aa .i64)) true), .d (.list 1 ([2].map (aa .i64)) true), .d (.list 1 ([0].map (aa .i64)) true), .d (.v (.int .i64 1)), .d (.v (.int .i64 0))]]⟩)]) (nx' := 5) ⟨⟨_, rfl, V.le.refl _⟩, ⟨_, rfl, V.le.refl _⟩, ⟨_, rfl, V.le.refl _⟩, ⟨_, rfl, V.le.refl _⟩, ⟨_, rfl, V.le.refl _⟩, ⟨_, rfl, V.le.refl _⟩, ⟨_, rfl, V.le.refl _⟩, ⟨_, rfl, V.le.d (by repeat' first | exact D.le.refl _ | exact aE _ _ _ | exact aD _ _ _ | refine aI ?_ | exact LeRows.nil | refine LeRows.cons ?_ ?_ | exact LeL.nil | refine LeL.cons ?_ ?_ | refine aH ?_ | refine aG ?_)⟩, trivial⟩ ⟨⟨_, rfl, bp.refl _⟩, ⟨_, rfl, bp.refl _⟩, ⟨_, rfl, bp.refl _⟩, trivial⟩ (Nat.le_of_ble_eq_true rfl)) rfl ?_
 refine gv hF (x := .d (.list 5 ([(⟨[1, 0], [2], [0], 1, 0⟩ : Ps)].map Ps.row) true)) (oS (az u40 eu nn rfl rfl (PartsQ.cons rfl (PartsQ.nil _)) rfl)) ?_
 refine gv hF (x := .d (.agg 2 [.v (.int .i64 1), .v (.int .i64 258)])) (oL (aC rfl rfl kw fL rfl rfl)) ?_
 refine gv hF (x := .d (.list 2 ([(⟨1, 258⟩ : Rs)].map Rs.row) true)) (oS (az u41 fL oz rfl rfl (PartsQ.cons rfl (PartsQ.nil _)) rfl)) ?_
 obtain ⟨x5, hx5, h⟩ := ab h
 refine SmG.call hF rfl rfl (by kernel_rfl) rfl rfl rfl (aq.args (kY hx5) (fun C => (bT (by repeat' first | exact D.le.refl _ | exact aE _ _ _ | exact aD _ _ _ | refine aI ?_ | exact LeRows.nil | refine LeRows.cons ?_ ?_ | exact LeL.nil | refine LeL.cons ?_ ?_ | refine aH ?_ | refine aG ?_) (bT (by repeat' first | exact D.le.refl _ | exact aE _ _ _ | exact aD _ _ _ | refine aI ?_ | exact LeRows.nil | refine LeRows.cons ?_ ?_ | exact LeL.nil | refine LeL.cons ?_ ?_ | refine aH ?_ | refine aG ?_) (fun _ h => h))))) ?_
 refine SmG.new hF rfl rfl rfl (aT rfl oJ) ?_
 obtain ⟨x6, hx6, h⟩ := ab h
 refine SmG.store hF rfl rfl rfl rfl rfl (nG rfl rfl iB rfl (lT hx6)) ?_
 refine sn ?_
 refine sr hF ?_
 refine gv hF oM ?_
 refine gv hF (oB (cq)) ?_
 rcases bX (x2.2 == 0) with hc7 | hc7
 ·replace h := ifF hc7 h
  refine gv hF (ax rfl rfl hc7) ?_
  refine gp hF ?_
  refine gp hF ?_
  refine gv hF (ak rfl rfl rfl) ?_
  refine gv hF oM ?_
  refine gp hF ?_
  refine gp hF ?_
  refine gv hF (ak rfl rfl rfl) ?_
  refine gv hF oA ?_
  refine sn ?_
  refine Sm.seq ?_
  refine bm hF (by kernel_rfl) rfl 39 (by kernel_rfl) (by kernel_rfl) ?_
  simp only [List.take_succ_cons, List.take_zero, List.take_nil]
  refine hv hF oM ?_
  refine hv hF oM ?_
  refine hp hF ?_
  refine hp hF ?_
  refine hp hF ?_
  refine hv hF (ak rfl rfl rfl) ?_
  refine hv hF oM ?_
  refine hp hF ?_
  refine hp hF ?_
  refine hp hF ?_
  refine hp hF ?_
  refine hv hF (ak rfl rfl rfl) ?_
  refine hv hF oM ?_
  refine hp hF ?_
  refine hp hF ?_
  refine hp hF ?_
  refine hv hF (ak rfl rfl rfl) ?_
  refine hv hF oM ?_
  refine hp hF ?_
  refine hp hF ?_
  refine hp hF ?_
  refine hp hF ?_
  refine hp hF ?_
  refine hp hF ?_
  refine hv hF (ak rfl rfl rfl) ?_
  refine hv hF oM ?_
  refine hp hF ?_
  refine hp hF ?_
  refine hp hF ?_
  refine hv hF (ak rfl rfl rfl) ?_
  refine hv hF oM ?_
  refine hp hF ?_
  refine hp hF ?_
  refine hp hF ?_
  refine hp hF ?_
  refine hv hF (ak rfl rfl rfl) ?_
  refine hv hF oM ?_
  refine hp hF ?_
  refine hp hF ?_
  refine af.last ⟨rfl, ?_⟩
  simp only [List.drop_succ_cons, List.drop_zero, List.drop_nil, List.nil_append, List.cons_append]
  refine gp hF ?_
  refine gp hF ?_
  refine gv hF (ak rfl rfl rfl) ?_
  refine gv hF oA ?_
  refine sn ?_
  refine Sm.ret ?_
  obtain rfl := ae h
  exact bM rfl rfl
 replace h := ifT hc7 h
 refine gv hF (ax rfl rfl hc7) ?_
 refine gv hF oM ?_
 refine gv hF (oB (cq)) ?_
 refine gv hF (aQ rfl rfl rfl) ?_
 rcases bX (x3.2 == 1) with hc8 | hc8
 ·replace h := ifF hc8 h
  refine gv hF (ax rfl rfl hc8) ?_
  refine gp hF ?_
  refine gp hF ?_
  refine gv hF (ak rfl rfl rfl) ?_
  refine gv hF oA ?_
  refine sn ?_
  refine Sm.seq ?_
  refine bm hF (by kernel_rfl) rfl 39 (by kernel_rfl) (by kernel_rfl) ?_
  simp only [List.take_succ_cons, List.take_zero, List.take_nil]
  refine hv hF oM ?_
  refine hv hF oM ?_
  refine hp hF ?_
  refine hp hF ?_
  refine hp hF ?_
  refine hv hF (ak rfl rfl rfl) ?_
  refine hv hF oM ?_
  refine hp hF ?_
  refine hp hF ?_
  refine hp hF ?_
  refine hp hF ?_
  refine hv hF (ak rfl rfl rfl) ?_
  refine hv hF oM ?_
  refine hp hF ?_
  refine hp hF ?_
  refine hp hF ?_
  refine hv hF (ak rfl rfl rfl) ?_
  refine hv hF oM ?_
  refine hp hF ?_
  refine hp hF ?_
  refine hp hF ?_
  refine hp hF ?_
  refine hp hF ?_
  refine hp hF ?_
  refine hv hF (ak rfl rfl rfl) ?_
  refine hv hF oM ?_
  refine hp hF ?_
  refine hp hF ?_
  refine hp hF ?_
  refine hv hF (ak rfl rfl rfl) ?_
  refine hv hF oM ?_
  refine hp hF ?_
  refine hp hF ?_
  refine hp hF ?_
  refine hp hF ?_
  refine hv hF (ak rfl rfl rfl) ?_
  refine hv hF oM ?_
  refine hp hF ?_
  refine hp hF ?_
  refine af.last ⟨rfl, ?_⟩
  simp only [List.drop_succ_cons, List.drop_zero, List.drop_nil, List.nil_append, List.cons_append]
  refine gp hF ?_
  refine gp hF ?_
  refine gv hF (ak rfl rfl rfl) ?_
  refine gv hF oA ?_
  refine sn ?_
  refine Sm.ret ?_
  obtain rfl := ae h
  exact bM rfl rfl
 replace h := ifT hc8 h
 refine gv hF (ax rfl rfl hc8) ?_
 refine gv hF oM ?_
 refine gv hF (oB (cq)) ?_
 refine gv hF (aQ rfl rfl rfl) ?_
 refine gv hF oA ?_
 refine sn ?_
 refine Sm.seq ?_
 refine bm hF (by kernel_rfl) rfl 39 (by kernel_rfl) (by kernel_rfl) ?_
 simp only [List.take_succ_cons, List.take_zero, List.take_nil]
 refine hv hF oM ?_
 rcases bX (x4.2 == 1) with hc9 | hc9
 ·replace h := ifF hc9 h
  refine hv hF (ax rfl rfl hc9) ?_
  refine hp hF ?_
  refine hp hF ?_
  refine hp hF ?_
  refine hv hF (ak rfl rfl rfl) ?_
  refine hv hF oM ?_
  refine hp hF ?_
  refine hp hF ?_
  refine hp hF ?_
  refine hp hF ?_
  refine hv hF (ak rfl rfl rfl) ?_
  refine hv hF oM ?_
  refine hp hF ?_
  refine hp hF ?_
  refine hp hF ?_
  refine hv hF (ak rfl rfl rfl) ?_
  refine hv hF oM ?_
  refine hp hF ?_
  refine hp hF ?_
  refine hp hF ?_
  refine hp hF ?_
  refine hp hF ?_
  refine hp hF ?_
  refine hv hF (ak rfl rfl rfl) ?_
  refine hv hF oM ?_
  refine hp hF ?_
  refine hp hF ?_
  refine hp hF ?_
  refine hv hF (ak rfl rfl rfl) ?_
  refine hv hF oM ?_
  refine hp hF ?_
  refine hp hF ?_
  refine hp hF ?_
  refine hp hF ?_
  refine hv hF (ak rfl rfl rfl) ?_
  refine hv hF oM ?_
  refine hp hF ?_
  refine hp hF ?_
  refine af.last ⟨rfl, ?_⟩
  simp only [List.drop_succ_cons, List.drop_zero, List.drop_nil, List.nil_append, List.cons_append]
  refine gp hF ?_
  refine gp hF ?_
  refine gv hF (ak rfl rfl rfl) ?_
  refine gv hF oA ?_
  refine sn ?_
  refine Sm.ret ?_
  obtain rfl := ae h
  exact bM rfl rfl
 replace h := ifT hc9 h
 refine hv hF (ax rfl rfl hc9) ?_
 refine hv hF oM ?_
 refine hv hF (oC (pL u24 u9 u5)) ?_
 refine hv hF (oB (y9 rfl)) ?_
 refine hv hF (aQ rfl rfl rfl) ?_
 rcases bX (x1 == ([2, 1, 1, 1, 0, 2, 0, 1, 0, 1, 0, 0, 1, 2] : List UInt8)) with hc10 | hc10
 ·replace h := ifF hc10 h
  refine hv hF (ax rfl rfl hc10) ?_
  refine hp hF ?_
  refine hp hF ?_
  refine hp hF ?_
  refine hp hF ?_
  refine hv hF (ak rfl rfl rfl) ?_
  refine hv hF oM ?_
  refine hp hF ?_
  refine hp hF ?_
  refine hp hF ?_
  refine hv hF (ak rfl rfl rfl) ?_
  refine hv hF oM ?_
  refine hp hF ?_
  refine hp hF ?_
  refine hp hF ?_
  refine hp hF ?_
  refine hp hF ?_
  refine hp hF ?_
  refine hv hF (ak rfl rfl rfl) ?_
  refine hv hF oM ?_
  refine hp hF ?_
  refine hp hF ?_
  refine hp hF ?_
  refine hv hF (ak rfl rfl rfl) ?_
  refine hv hF oM ?_
  refine hp hF ?_
  refine hp hF ?_
  refine hp hF ?_
  refine hp hF ?_
  refine hv hF (ak rfl rfl rfl) ?_
  refine hv hF oM ?_
  refine hp hF ?_
  refine hp hF ?_
  refine af.last ⟨rfl, ?_⟩
  simp only [List.drop_succ_cons, List.drop_zero, List.drop_nil, List.nil_append, List.cons_append]
  refine gp hF ?_
  refine gp hF ?_
  refine gv hF (ak rfl rfl rfl) ?_
  refine gv hF oA ?_
  refine sn ?_
  refine Sm.ret ?_
  obtain rfl := ae h
  exact bM rfl rfl
 replace h := ifT hc10 h
 refine hv hF (ax rfl rfl hc10) ?_
 refine hv hF (oF (av rn)) ?_
 refine hv hF (oL (bQ rfl rfl wM rfl)) ?_
 refine hv hF (oN (bF u36)) ?_
 refine hv hF (oB (cq)) ?_
 refine hv hF (aQ rfl rfl rfl) ?_
 rcases bX ((x2.1.proof.length : Int) == 0) with hc11 | hc11
 ·replace h := ifF hc11 h
  refine hv hF (ax rfl rfl hc11) ?_
  refine hp hF ?_
  refine hp hF ?_
  refine hp hF ?_
  refine hv hF (ak rfl rfl rfl) ?_
  refine hv hF oM ?_
  refine hp hF ?_
  refine hp hF ?_
  refine hp hF ?_
  refine hp hF ?_
  refine hp hF ?_
  refine hp hF ?_
  refine hv hF (ak rfl rfl rfl) ?_
  refine hv hF oM ?_
  refine hp hF ?_
  refine hp hF ?_
  refine hp hF ?_
  refine hv hF (ak rfl rfl rfl) ?_
  refine hv hF oM ?_
  refine hp hF ?_
  refine hp hF ?_
  refine hp hF ?_
  refine hp hF ?_
  refine hv hF (ak rfl rfl rfl) ?_
  refine hv hF oM ?_
  refine hp hF ?_
  refine hp hF ?_
  refine af.last ⟨rfl, ?_⟩
  simp only [List.drop_succ_cons, List.drop_zero, List.drop_nil, List.nil_append, List.cons_append]
  refine gp hF ?_
  refine gp hF ?_
  refine gv hF (ak rfl rfl rfl) ?_
  refine gv hF oA ?_
  refine sn ?_
  refine Sm.ret ?_
  obtain rfl := ae h
  exact bM rfl rfl
 replace h := ifT hc11 h
 refine hv hF (ax rfl rfl hc11) ?_
 refine hv hF (oF (av uP)) ?_
 refine hv hF (oL (bQ rfl rfl ag3 rfl)) ?_
 refine hv hF (oB (cq)) ?_
 refine hv hF (aQ rfl rfl rfl) ?_
 rcases bX (x2.1.count == 1) with hc12 | hc12
 ·replace h := ifF hc12 h
  refine hv hF (ax rfl rfl hc12) ?_
  refine hp hF ?_
  refine hp hF ?_
  refine hp hF ?_
  refine hp hF ?_
  refine hp hF ?_
  refine hp hF ?_
  refine hv hF (ak rfl rfl rfl) ?_
  refine hv hF oM ?_
  refine hp hF ?_
  refine hp hF ?_
  refine hp hF ?_
  refine hv hF (ak rfl rfl rfl) ?_
  refine hv hF oM ?_
  refine hp hF ?_
  refine hp hF ?_
  refine hp hF ?_
  refine hp hF ?_
  refine hv hF (ak rfl rfl rfl) ?_
  refine hv hF oM ?_
  refine hp hF ?_
  refine hp hF ?_
  refine af.last ⟨rfl, ?_⟩
  simp only [List.drop_succ_cons, List.drop_zero, List.drop_nil, List.nil_append, List.cons_append]
  refine gp hF ?_
  refine gp hF ?_
  refine gv hF (ak rfl rfl rfl) ?_
  refine gv hF oA ?_
  refine sn ?_
  refine Sm.ret ?_
  obtain rfl := ae h
  exact bM rfl rfl
 replace h := ifT hc12 h
 refine hv hF (ax rfl rfl hc12) ?_
 refine hv hF (x := .d (.agg 32 (aS x5))) (oL (jI rfl lu iB)) ?_
 refine hv hF (x := .d (.agg 5 [.list 1 ([1, 0].map (aa .i64)) true, .list 1 ([2].map (aa .i64)) true, .list 1 ([0].map (aa .i64)) true, .v (.int .i64 1), .v (.int .i64 0)])) (oL (aC rfl rfl gJ eu rfl rfl)) ?_
 refine hv hF (x := .d (.agg 2 [.v (.int .i64 1), .v (.int .i64 258)])) (oL (aC rfl rfl kw fL rfl rfl)) ?_
 obtain ⟨x13, hx13, h⟩ := ab h
 refine af.c hF rfl rfl (by kernel_rfl) rfl rfl rfl (aq.args (iT hx13) (fun C => (bT (by repeat' first | exact D.le.refl _ | exact aE _ _ _ | exact aD _ _ _ | refine aI ?_ | exact LeRows.nil | refine LeRows.cons ?_ ?_ | exact LeL.nil | refine LeL.cons ?_ ?_ | refine aH ?_ | refine aG ?_) (bT (by repeat' first | exact D.le.refl _ | exact aE _ _ _ | exact aD _ _ _ | refine aI ?_ | exact LeRows.nil | refine LeRows.cons ?_ ?_ | exact LeL.nil | refine LeL.cons ?_ ?_ | refine aH ?_ | refine aG ?_) (fun _ h => h))))) ?_
 obtain ⟨x14, hx14, h⟩ := ab h
 refine af.c hF rfl rfl (by kernel_rfl) rfl rfl rfl (ja hx14) ?_
 obtain ⟨x15, hx15, h⟩ := ab h
 obtain ⟨x16, hx16, h⟩ := ab h
 refine hv hF (xV rfl rfl rfl (zo (by kernel_rfl) (by kernel_rfl) (lT hx15) (lT hx16))) ?_
 refine hv hF (aQ rfl rfl rfl) ?_
 rcases bX (x5 == x14) with hc17 | hc17
 ·replace h := ifF hc17 h
  refine hv hF (ax rfl rfl hc17) ?_
  refine hp hF ?_
  refine hp hF ?_
  refine hp hF ?_
  refine hv hF (ak rfl rfl rfl) ?_
  refine hv hF oM ?_
  refine hp hF ?_
  refine hp hF ?_
  refine hp hF ?_
  refine hp hF ?_
  refine hv hF (ak rfl rfl rfl) ?_
  refine hv hF oM ?_
  refine hp hF ?_
  refine hp hF ?_
  refine af.last ⟨rfl, ?_⟩
  simp only [List.drop_succ_cons, List.drop_zero, List.drop_nil, List.nil_append, List.cons_append]
  refine gp hF ?_
  refine gp hF ?_
  refine gv hF (ak rfl rfl rfl) ?_
  refine gv hF oA ?_
  refine sn ?_
  refine Sm.ret ?_
  obtain rfl := ae h
  exact bM rfl rfl
 replace h := ifT hc17 h
 refine hv hF (ax rfl rfl hc17) ?_
 refine hv hF (x := .d (.agg 32 (aS x5))) (oL (jI rfl lu iB)) ?_
 refine hv hF (x := .d (.agg 11 [.v (.int .i64 x2.1.version), .v (.int .i64 x2.1.index), .v (.int .i64 x2.1.count), .list 1 (x2.1.pos.at_.map (aa .i64)) false, .list 1 (x2.1.pos.h0.map (aa .i64)) false, .list 1 (x2.1.pos.h1.map (aa .i64)) false, .v (.int .i64 x2.1.pos.rights), .v (.int .i64 x2.1.pos.side), .v (.int .i64 x2.1.entry.out), .v (.int .i64 x2.1.entry.n), .list 32 (x2.1.proof.map aS) false])) (oL (aC rfl rfl iP eX rfl rfl)) ?_
 obtain ⟨x18, hx18, h⟩ := ab h
 refine af.c hF rfl rfl (by kernel_rfl) rfl rfl rfl (dP hx18) ?_
 refine hv hF (aQ rfl rfl rfl) ?_
 rcases bX x18 with hc19 | hc19
 ·replace h := ifF hc19 h
  refine hv hF (ax rfl rfl hc19) ?_
  refine hp hF ?_
  refine hp hF ?_
  refine hp hF ?_
  refine hp hF ?_
  refine hv hF (ak rfl rfl rfl) ?_
  refine hv hF oM ?_
  refine hp hF ?_
  refine hp hF ?_
  refine af.last ⟨rfl, ?_⟩
  simp only [List.drop_succ_cons, List.drop_zero, List.drop_nil, List.nil_append, List.cons_append]
  refine gp hF ?_
  refine gp hF ?_
  refine gv hF (ak rfl rfl rfl) ?_
  refine gv hF oA ?_
  refine sn ?_
  refine Sm.ret ?_
  obtain rfl := ae h
  exact bM rfl rfl
 replace h := ifT hc19 h
 refine hv hF (ax rfl rfl hc19) ?_
 refine hv hF (x := .d (.agg 32 (aS x5))) (oL (jI rfl lu iB)) ?_
 refine hv hF (x := .d (.agg 11 [.v (.int .i64 x2.1.version), .v (.int .i64 x2.1.index), .v (.int .i64 x2.1.count), .list 1 (x2.1.pos.at_.map (aa .i64)) false, .list 1 (x2.1.pos.h0.map (aa .i64)) false, .list 1 (x2.1.pos.h1.map (aa .i64)) false, .v (.int .i64 x2.1.pos.rights), .v (.int .i64 x2.1.pos.side), .v (.int .i64 x2.1.entry.out), .v (.int .i64 x2.1.entry.n), .list 32 (x2.1.proof.map aS) false])) (oL (aC rfl rfl iP eX rfl rfl)) ?_
 obtain ⟨x20, hx20, h⟩ := ab h
 refine af.c hF rfl rfl (by kernel_rfl) rfl rfl rfl (dP hx20) ?_
 refine hv hF (iU rfl rfl (jG _)) ?_
 refine hv hF (aQ rfl rfl rfl) ?_
 rcases bX (!x20) with hc21 | hc21
 ·replace h := ifF hc21 h
  refine hv hF (ax rfl rfl hc21) ?_
  refine hp hF ?_
  refine hp hF ?_
  refine af.last ⟨rfl, ?_⟩
  simp only [List.drop_succ_cons, List.drop_zero, List.drop_nil, List.nil_append, List.cons_append]
  refine gp hF ?_
  refine gp hF ?_
  refine gv hF (ak rfl rfl rfl) ?_
  refine gv hF oA ?_
  refine sn ?_
  refine Sm.ret ?_
  obtain rfl := ae h
  exact bM rfl rfl
 replace h := ifT hc21 h
 refine hv hF (ax rfl rfl hc21) ?_
 refine hv hF (x := .d (.agg 32 (aS (List.replicate 32 0)))) (fS rfl u47 rfl wd) ?_
 refine hv hF (x := .d (.agg 11 [.v (.int .i64 x2.1.version), .v (.int .i64 x2.1.index), .v (.int .i64 x2.1.count), .list 1 (x2.1.pos.at_.map (aa .i64)) false, .list 1 (x2.1.pos.h0.map (aa .i64)) false, .list 1 (x2.1.pos.h1.map (aa .i64)) false, .v (.int .i64 x2.1.pos.rights), .v (.int .i64 x2.1.pos.side), .v (.int .i64 x2.1.entry.out), .v (.int .i64 x2.1.entry.n), .list 32 (x2.1.proof.map aS) false])) (oL (aC rfl rfl iP eX rfl rfl)) ?_
 refine af.last ⟨rfl, ?_⟩
 simp only [List.drop_succ_cons, List.drop_zero, List.drop_nil, List.nil_append, List.cons_append]
 obtain ⟨x22, hx22, h⟩ := ab h
 refine SmG.call hF rfl rfl (by kernel_rfl) rfl rfl rfl (dP hx22) ?_
 refine gv hF (iU rfl rfl (jG _)) ?_
 refine gv hF (aQ rfl rfl rfl) ?_
 refine gv hF oA ?_
 refine sn ?_
 refine Sm.ret ?_
 obtain rfl := ae h
 exact bM rfl rfl
noncomputable def dL (a0 : GRaw) (a1 : List PRaw) (a2 : List Int) : Option (List Ps × List Rs) :=
 ob (e7 a0) fun x1 =>
 ob (e6 x1 a1 10) fun x2 =>
 ob (ed x2 a2) fun x3 =>
 some (x2, x3)
set_option maxHeartbeats 4000000 in
theorem lZ {a0 : GRaw} {a1 : List PRaw} {a2 : List Int} {r : (List Ps × List Rs)} (h : dL a0 a1 a2 = some r) : aq Tryd.prog HG 10 [.agg 12 (GRaw.row a0), .list 18 (a1.map PRaw.row) false, .list 1 (a2.map (aa .u16)) false] (.tup [.list 5 (r.1.map Ps.row) false, .list 2 (r.2.map Rs.row) false]) := by
 unfold dL at h
 refine aq.of Tryd.func10 rfl Tryd.ntmps10 (by simp) ?_
 intro F hF h0 hT
 show Sm F _ _ ⟨[(0, .d (.agg 12 (GRaw.row a0))), (1, .d (.list 18 (a1.map PRaw.row) false)), (2, .d (.list 1 (a2.map (aa .u16)) false))], [], 0⟩
 refine sr hF ?_
 refine cG hF gu ?_
 refine gv hF oA ?_
 refine gv hF oA ?_
 refine sn ?_
 refine sr hF ?_
 refine gv hF (x := .d (.agg 12 (GRaw.row a0))) (oL (fa ud wP rfl rfl)) ?_
 obtain ⟨x1, hx1, h⟩ := ab h
 refine SmG.call hF rfl rfl (by kernel_rfl) rfl rfl rfl (mu hx1) ?_
 refine gv hF oM ?_
 obtain ⟨x2, hx2, h⟩ := ab h
 refine SmG.call hF rfl rfl (by kernel_rfl) rfl rfl rfl (mH hx2) ?_
 refine gv hF oA ?_
 refine sn ?_
 refine sr hF ?_
 refine gv hF oM ?_
 refine gv hF oM ?_
 refine gv hF oM ?_
 obtain ⟨x3, hx3, h⟩ := ab h
 refine SmG.call hF rfl rfl (by kernel_rfl) rfl rfl rfl (kM hx3) ?_
 refine gv hF oA ?_
 refine gv hF oA ?_
 refine sn ?_
 refine Sm.ret ?_
 obtain rfl := ae h
 exact dD (RetR.cons (RetO.tmp rfl) (RetR.cons (RetO.tmp rfl) (RetR.nil))) (D.le.refl _)
noncomputable def dI (a0 : List PRaw) (a1 : GRaw) (a2 : (Int × Int × Int)) : Option Bool :=
 ob (ez ) fun x1 =>
 ob (dL a1 a0 [9]) fun x2 =>
 bif ((x2.1.length : Int) == 0) then (
  some x1
 ) else (
  ob (slc x2.1 0 1) fun x4 =>
  ob (slc x2.2 0 1) fun x5 =>
  ob (cb x4 x5 1 0) fun x6 =>
  ob (slc x2.2 1 (x2.2.length : Int)) fun x7 =>
  ob (cb x2.1 x7 1 0) fun x8 =>
  ob (arI .i64 a2.1) fun x9 =>
  ob ((
   bif (decide (0 ≤ x9)) then (
    ob (arI .i64 (x9 + (x2.1.length : Int))) fun x11 =>
    some x11
   ) else (
    some x9
   )
   : Option Int)) fun v12 =>
  ob (cb x2.1 x2.2 1 v12) fun x13 =>
  bif (x6.2 != 0) then (
   some false
  ) else (
   bif (x8.2 != 1) then (
    some false
   ) else (
    bif (x13.2 != 1) then (
     some false
    ) else (
     bif ((x6.1.pos.at_.length : Int) == 0) then (
      some false
     ) else (
      ob (app ([] : List Int) x6.1.pos.at_) fun x18 =>
      ob ((
       ob (cH (IntKind.u32.wrap a2.2.1) 5) fun x19 =>
       bif (x19 == 0) then (
        ob (idx x6.1.pos.at_ 0) fun x21 =>
        ob (arI .i64 (256 + x21)) fun x22 =>
        ob (idx x18 0) fun x23 =>
        some (x6.1.pos.side, x6.1.entry.out, x6.1.entry.n, (x18.set (0 : Int).toNat x22))
       ) else (
        bif (x19 == 1) then (
         ob (cH (IntKind.u32.wrap a2.2.2) 300) fun x25 =>
         ob (arI .i64 x25) fun x26 =>
         ob (arI .i64 (4 + x26)) fun x27 =>
         some (x6.1.pos.side, x27, x6.1.entry.n, x18)
        ) else (
         bif (x19 == 2) then (
          ob (arI .i64 (IntKind.u32.wrap a2.2.2)) fun x29 =>
          ob (arI .i64 ((-1) - x29)) fun x30 =>
          some (x6.1.pos.side, x6.1.entry.out, x30, x18)
         ) else (
          bif (x19 == 3) then (
           some ((-1), x6.1.entry.out, x6.1.entry.n, x18)
          ) else (
           ob (arI .i64 (IntKind.u32.wrap a2.2.2)) fun x32 =>
           ob (arI .i64 (2147483648 + x32)) fun x33 =>
           some (x6.1.pos.side, x6.1.entry.out, x33, x18)
          )
         )
        )
       )
       : Option (Int × Int × Int × (List Int)))) fun v34 =>
      ob (d9 (⟨v34.2.2.2, x6.1.pos.h0, x6.1.pos.h1, x6.1.pos.rights, v34.1⟩ : Ps) (⟨v34.2.1, v34.2.2.1⟩ : Rs)) fun x35 =>
      ob (dY x35) fun x36 =>
      ob (vN 32 x36) fun x37 =>
      ob (arI .i64 a2.2.2) fun x38 =>
      ob (slc x2.1 0 1) fun x39 =>
      ob (slc x2.2 0 1) fun x40 =>
      ob (fi x39 x40) fun x41 =>
      ob (vN 32 x41) fun x42 =>
      bif x1 then (
       ob (cO x36 1 (⟨x6.1.version, x6.1.index, x6.1.count, (⟨v34.2.2.2, x6.1.pos.h0, x6.1.pos.h1, x6.1.pos.rights, v34.1⟩ : Ps), (⟨v34.2.1, v34.2.2.1⟩ : Rs), x6.1.proof⟩ : Ans)) fun x44 =>
       bif (!x44) then (
        ob (cO x41 1 (⟨x6.1.version, x38, x6.1.count, x6.1.pos, x6.1.entry, x6.1.proof⟩ : Ans)) fun x46 =>
        bif (x46 == (a2.2.2 == 0)) then (
         ob (cO x41 1 (⟨x6.1.version, x6.1.index, x6.1.count, x6.1.pos, x6.1.entry, [(List.replicate 32 0)]⟩ : Ans)) fun x48 =>
         bif (!x48) then (
          ob (cO x41 1 x6.1) fun x50 =>
          some x50
         ) else (
          some false
         )
        ) else (
         some false
        )
       ) else (
        some false
       )
      ) else (
       some false
      )
     )
    )
   )
  )
 )
set_option maxHeartbeats 4000000 in
theorem jb {a0 : List PRaw} {a1 : GRaw} {a2 : (Int × Int × Int)} {r : Bool} (h : dI a0 a1 a2 = some r) : aq Tryd.prog HG 8 [.list 18 (a0.map PRaw.row) false, .agg 12 (GRaw.row a1), .agg 3 [.v (.int .i32 a2.1), .v (.int .i32 a2.2.1), .v (.int .i32 a2.2.2)]] (.v (.bool r)) := by
 unfold dI at h
 refine aq.of Tryd.func8 rfl Tryd.ntmps8 (by simp) ?_
 intro F hF h0 hT
 show Sm F _ _ ⟨[(0, .d (.list 18 (a0.map PRaw.row) false)), (1, .d (.agg 12 (GRaw.row a1))), (2, .d (.agg 3 [.v (.int .i32 a2.1), .v (.int .i32 a2.2.1), .v (.int .i32 a2.2.2)]))], [], 0⟩
 refine sr hF ?_
 refine cG hF gu ?_
 refine cG hF gu ?_
 refine gv hF oA ?_
 refine sn ?_
 refine sr hF ?_
 obtain ⟨x1, hx1, h⟩ := ab h
 refine SmG.call hF rfl rfl (by kernel_rfl) rfl rfl rfl (lq hx1) ?_
 refine gv hF oA ?_
 refine sn ?_
 refine sr hF ?_
 refine gv hF (x := .d (.agg 12 (GRaw.row a1))) (oL (fa ud wP rfl rfl)) ?_
 refine gv hF oM ?_
 refine gv hF (x := .d (.list 1 ([9].map (aa .u16)) true)) (oS (az u45 wu zq rfl rfl (PartsQ.cons rfl (PartsQ.nil _)) rfl)) ?_
 obtain ⟨x2, hx2, h⟩ := ab h
 refine SmG.call hF rfl rfl (by kernel_rfl) rfl rfl rfl (aq.args (lZ hx2) (fun C => (bT (by repeat' first | exact D.le.refl _ | exact aE _ _ _ | exact aD _ _ _ | refine aI ?_ | exact LeRows.nil | refine LeRows.cons ?_ ?_ | exact LeL.nil | refine LeL.cons ?_ ?_ | refine aH ?_ | refine aG ?_) (bT (by repeat' first | exact D.le.refl _ | exact aE _ _ _ | exact aD _ _ _ | refine aI ?_ | exact LeRows.nil | refine LeRows.cons ?_ ?_ | exact LeL.nil | refine LeL.cons ?_ ?_ | refine aH ?_ | refine aG ?_) (bT (by repeat' first | exact D.le.refl _ | exact aE _ _ _ | exact aD _ _ _ | refine aI ?_ | exact LeRows.nil | refine LeRows.cons ?_ ?_ | exact LeL.nil | refine LeL.cons ?_ ?_ | refine aH ?_ | refine aG ?_) (fun _ h => h)))))) ?_
 refine gv hF oM ?_
 refine gv hF (bx rfl rfl rfl) ?_
 refine gv hF (bx rfl rfl rfl) ?_
 refine gv hF oA ?_
 refine gv hF oA ?_
 refine sn ?_
 refine Sm.seq ?_
 refine sr hF ?_
 refine gv hF oM ?_
 refine gv hF (oN (bF u40)) ?_
 refine gv hF (oB (cq)) ?_
 refine sn ?_
 refine bA hF rfl (fun hc3 => ?_) (fun hc3 => ?_)
 ·replace h := ifT hc3 h
  refine sr hF ?_
  refine gv hF oM ?_
  refine gv hF oA ?_
  refine sn ?_
  refine Sm.ret ?_
  obtain rfl := ae h
  exact bM rfl rfl
 replace h := ifF hc3 h
 refine sk ?_
 refine Sm.seq ?_
 refine bm hF (by kernel_rfl) rfl 10 (by kernel_rfl) (by kernel_rfl) ?_
 simp only [List.take_succ_cons, List.take_zero, List.take_nil]
 refine hv hF oM ?_
 obtain ⟨x4, hx4, h⟩ := ab h
 refine hv hF (gq rfl rfl rfl rfl rfl (q5 u40 eu hx4)) ?_
 refine hv hF oM ?_
 obtain ⟨x5, hx5, h⟩ := ab h
 refine hv hF (gq rfl rfl rfl rfl rfl (q5 u41 fL hx5)) ?_
 obtain ⟨x6, hx6, h⟩ := ab h
 refine af.c hF rfl rfl (by kernel_rfl) rfl rfl rfl (eG hx6) ?_
 refine hv hF oM ?_
 refine hv hF (bx rfl rfl rfl) ?_
 refine hv hF (bx rfl rfl rfl) ?_
 refine af.new hF rfl rfl rfl rfl lm ?_
 refine af.st hF rfl rfl rfl rfl rfl rfl (aX (ys := [.d (.v (.int .i64 x6.1.version)), .d (.v (.int .i64 x6.1.index)), .d (.v (.int .i64 x6.1.count)), .d (.list 1 (x6.1.pos.at_.map (aa .i64)) false), .d (.list 1 (x6.1.pos.h0.map (aa .i64)) false), .d (.list 1 (x6.1.pos.h1.map (aa .i64)) false), .d (.v (.int .i64 x6.1.pos.rights)), .d (.v (.int .i64 x6.1.pos.side)), .d (.v (.int .i64 x6.1.entry.out)), .d (.v (.int .i64 x6.1.entry.n)), .d (.list 32 (x6.1.proof.map aS) false)]) (r := [.d (.v (.int .i64 0)), .d (.v (.int .i64 0)), .d (.v (.int .i64 0)), .d (.list 0 [] true), .d (.list 0 [] true), .d (.list 0 [] true), .d (.v (.int .i64 0)), .d (.v (.int .i64 0)), .d (.v (.int .i64 0)), .d (.v (.int .i64 0)), .d (.list 0 [] true)]) (rows := [[.d (.v (.int .i64 0)), .d (.v (.int .i64 0)), .d (.v (.int .i64 0)), .d (.list 0 [] true), .d (.list 0 [] true), .d (.list 0 [] true), .d (.v (.int .i64 0)), .d (.v (.int .i64 0)), .d (.v (.int .i64 0)), .d (.v (.int .i64 0)), .d (.list 0 [] true)]]) (rows' := [[.d (.v (.int .i64 x6.1.version)), .d (.v (.int .i64 x6.1.index)), .d (.v (.int .i64 x6.1.count)), .d (.list 1 (x6.1.pos.at_.map (aa .i64)) false), .d (.list 1 (x6.1.pos.h0.map (aa .i64)) false), .d (.list 1 (x6.1.pos.h1.map (aa .i64)) false), .d (.v (.int .i64 x6.1.pos.rights)), .d (.v (.int .i64 x6.1.pos.side)), .d (.v (.int .i64 x6.1.entry.out)), .d (.v (.int .i64 x6.1.entry.n)), .d (.list 32 (x6.1.proof.map aS) false)]]) rfl rfl rfl eX rfl rfl rfl rfl rfl) ?_
 refine af.last ⟨rfl, ?_⟩
 simp only [List.drop_succ_cons, List.drop_zero, List.drop_nil, List.nil_append, List.cons_append]
 refine gv hF oA ?_
 refine sn ?_
 refine sr hF ?_
 refine gv hF oM ?_
 refine gv hF oM ?_
 obtain ⟨x7, hx7, h⟩ := ab h
 refine gv hF (gq rfl rfl rfl rfl rfl (zX u41 fL hx7)) ?_
 obtain ⟨x8, hx8, h⟩ := ab h
 refine SmG.call hF rfl rfl (by kernel_rfl) rfl rfl rfl (eG hx8) ?_
 refine gv hF oM ?_
 refine gv hF (bx rfl rfl rfl) ?_
 refine gv hF (bx rfl rfl rfl) ?_
 refine SmG.new hF rfl rfl rfl (aT rfl lm) ?_
 refine SmG.store hF rfl rfl rfl rfl rfl (aX (ys := [.d (.v (.int .i64 x8.1.version)), .d (.v (.int .i64 x8.1.index)), .d (.v (.int .i64 x8.1.count)), .d (.list 1 (x8.1.pos.at_.map (aa .i64)) false), .d (.list 1 (x8.1.pos.h0.map (aa .i64)) false), .d (.list 1 (x8.1.pos.h1.map (aa .i64)) false), .d (.v (.int .i64 x8.1.pos.rights)), .d (.v (.int .i64 x8.1.pos.side)), .d (.v (.int .i64 x8.1.entry.out)), .d (.v (.int .i64 x8.1.entry.n)), .d (.list 32 (x8.1.proof.map aS) false)]) (r := [.d (.v (.int .i64 0)), .d (.v (.int .i64 0)), .d (.v (.int .i64 0)), .d (.list 0 [] true), .d (.list 0 [] true), .d (.list 0 [] true), .d (.v (.int .i64 0)), .d (.v (.int .i64 0)), .d (.v (.int .i64 0)), .d (.v (.int .i64 0)), .d (.list 0 [] true)]) (rows' := [[.d (.v (.int .i64 x8.1.version)), .d (.v (.int .i64 x8.1.index)), .d (.v (.int .i64 x8.1.count)), .d (.list 1 (x8.1.pos.at_.map (aa .i64)) false), .d (.list 1 (x8.1.pos.h0.map (aa .i64)) false), .d (.list 1 (x8.1.pos.h1.map (aa .i64)) false), .d (.v (.int .i64 x8.1.pos.rights)), .d (.v (.int .i64 x8.1.pos.side)), .d (.v (.int .i64 x8.1.entry.out)), .d (.v (.int .i64 x8.1.entry.n)), .d (.list 32 (x8.1.proof.map aS) false)]]) rfl rfl rfl eX rfl rfl rfl rfl rfl) ?_
 refine gv hF oA ?_
 refine sn ?_
 refine sr hF ?_
 refine gv hF (oI (cF u87 m9 rfl rfl)) ?_
 refine gv hF (oL (lP1 nw rfl)) ?_
 obtain ⟨x9, hx9, h⟩ := ab h
 refine gv hF (oC (fN u21 u3 hx9)) ?_
 refine gv hF oA ?_
 refine sn ?_
 refine Sm.seq ?_
 obtain ⟨v12, hv12, h⟩ := ab h
 refine dh ⟨[(5, .d (.ptr 3 [.v (.int .i32 a2.1), .v (.int .i32 a2.2.1), .v (.int .i32 a2.2.2)])), (7, .d (.v (.bool x1))), (8, .d (.list 5 (x2.1.map Ps.row) false)), (9, .d (.list 2 (x2.2.map Rs.row) false)), (10, .ref 0 0 0), (11, .d (.v (.int .i64 x6.2))), (13, .d (.v (.int .i64 x8.2))), (14, .d (.v (.int .i64 v12)))], [(0, ⟨11, [[.d (.v (.int .i64 x6.1.version)), .d (.v (.int .i64 x6.1.index)), .d (.v (.int .i64 x6.1.count)), .d (.list 1 (x6.1.pos.at_.map (aa .i64)) false), .d (.list 1 (x6.1.pos.h0.map (aa .i64)) false), .d (.list 1 (x6.1.pos.h1.map (aa .i64)) false), .d (.v (.int .i64 x6.1.pos.rights)), .d (.v (.int .i64 x6.1.pos.side)), .d (.v (.int .i64 x6.1.entry.out)), .d (.v (.int .i64 x6.1.entry.n)), .d (.list 32 (x6.1.proof.map aS) false)]]⟩)], 2⟩ ?_ ?_
 ·replace h := hv12
  refine sr hF ?_
  refine gv hF oM ?_
  refine gv hF (oB (mm)) ?_
  refine sn ?_
  refine aU hF rfl (fun hc10 => ?_) (fun hc10 => ?_)
  ·replace h := ifF hc10 h
   refine Sm.skip ?_
   obtain rfl := ae h
   exact (toK ⟨rfl, rfl, rfl, rfl, rfl, rfl, rfl, rfl, trivial⟩ ⟨rfl, trivial⟩)
  replace h := ifT hc10 h
  refine ac hF rfl ?_
  refine gv hF oM ?_
  refine gv hF oM ?_
  refine gv hF (oN (bF u40)) ?_
  obtain ⟨x11, hx11, h⟩ := ab h
  refine gv hF (oB (a8 hx11)) ?_
  refine gv hF oA ?_
  refine SmG.nil ?_
  obtain rfl := ae h
  exact (toK ⟨rfl, rfl, rfl, rfl, rfl, rfl, rfl, rfl, trivial⟩ ⟨rfl, trivial⟩)
 refine sr hF ?_
 refine gv hF oM ?_
 refine gv hF oM ?_
 refine gv hF oM ?_
 obtain ⟨x13, hx13, h⟩ := ab h
 refine SmG.call hF rfl rfl (by kernel_rfl) rfl rfl rfl (eG hx13) ?_
 refine gv hF oM ?_
 refine gv hF (bx rfl rfl rfl) ?_
 refine gv hF (bx rfl rfl rfl) ?_
 refine SmG.new hF rfl rfl rfl (aT rfl lm) ?_
 refine SmG.store hF rfl rfl rfl rfl rfl (aX (ys := [.d (.v (.int .i64 x13.1.version)), .d (.v (.int .i64 x13.1.index)), .d (.v (.int .i64 x13.1.count)), .d (.list 1 (x13.1.pos.at_.map (aa .i64)) false), .d (.list 1 (x13.1.pos.h0.map (aa .i64)) false), .d (.list 1 (x13.1.pos.h1.map (aa .i64)) false), .d (.v (.int .i64 x13.1.pos.rights)), .d (.v (.int .i64 x13.1.pos.side)), .d (.v (.int .i64 x13.1.entry.out)), .d (.v (.int .i64 x13.1.entry.n)), .d (.list 32 (x13.1.proof.map aS) false)]) (r := [.d (.v (.int .i64 0)), .d (.v (.int .i64 0)), .d (.v (.int .i64 0)), .d (.list 0 [] true), .d (.list 0 [] true), .d (.list 0 [] true), .d (.v (.int .i64 0)), .d (.v (.int .i64 0)), .d (.v (.int .i64 0)), .d (.v (.int .i64 0)), .d (.list 0 [] true)]) (rows' := [[.d (.v (.int .i64 x13.1.version)), .d (.v (.int .i64 x13.1.index)), .d (.v (.int .i64 x13.1.count)), .d (.list 1 (x13.1.pos.at_.map (aa .i64)) false), .d (.list 1 (x13.1.pos.h0.map (aa .i64)) false), .d (.list 1 (x13.1.pos.h1.map (aa .i64)) false), .d (.v (.int .i64 x13.1.pos.rights)), .d (.v (.int .i64 x13.1.pos.side)), .d (.v (.int .i64 x13.1.entry.out)), .d (.v (.int .i64 x13.1.entry.n)), .d (.list 32 (x13.1.proof.map aS) false)]]) rfl rfl rfl eX rfl rfl rfl rfl rfl) ?_
 refine gv hF oA ?_
 refine sn ?_
 refine Sm.seq ?_
 refine sr hF ?_
 refine gv hF oM ?_
 refine gv hF (oB (nJ)) ?_
 rcases ir (x6.2 != 0) with hc14 | hc14
 ·replace h := ifT hc14 h
  refine gv hF (ax rfl rfl hc14) ?_
  refine gp hF ?_
  refine gp hF ?_
  refine gv hF (aQ rfl rfl rfl) ?_
  refine gv hF oM ?_
  refine gp hF ?_
  refine gp hF ?_
  refine gv hF (aQ rfl rfl rfl) ?_
  refine gv hF oM ?_
  refine gp hF ?_
  refine gp hF ?_
  refine gp hF ?_
  refine gp hF ?_
  refine gp hF ?_
  refine gv hF (aQ rfl rfl rfl) ?_
  refine sn ?_
  refine cQ hF rfl ?_
  refine sr hF ?_
  refine gv hF oA ?_
  refine sn ?_
  refine Sm.ret ?_
  obtain rfl := ae h
  exact bM rfl rfl
 replace h := ifF hc14 h
 refine gv hF (ax rfl rfl hc14) ?_
 refine gv hF oM ?_
 refine gv hF (oB (nJ)) ?_
 refine gv hF (ak rfl rfl rfl) ?_
 rcases ir (x8.2 != 1) with hc15 | hc15
 ·replace h := ifT hc15 h
  refine gv hF (ax rfl rfl hc15) ?_
  refine gp hF ?_
  refine gp hF ?_
  refine gv hF (aQ rfl rfl rfl) ?_
  refine gv hF oM ?_
  refine gp hF ?_
  refine gp hF ?_
  refine gp hF ?_
  refine gp hF ?_
  refine gp hF ?_
  refine gv hF (aQ rfl rfl rfl) ?_
  refine sn ?_
  refine cQ hF rfl ?_
  refine sr hF ?_
  refine gv hF oA ?_
  refine sn ?_
  refine Sm.ret ?_
  obtain rfl := ae h
  exact bM rfl rfl
 replace h := ifF hc15 h
 refine gv hF (ax rfl rfl hc15) ?_
 refine gv hF oM ?_
 refine gv hF (oB (nJ)) ?_
 refine gv hF (ak rfl rfl rfl) ?_
 rcases ir (x13.2 != 1) with hc16 | hc16
 ·replace h := ifT hc16 h
  refine gv hF (ax rfl rfl hc16) ?_
  refine gp hF ?_
  refine gp hF ?_
  refine gp hF ?_
  refine gp hF ?_
  refine gp hF ?_
  refine gv hF (aQ rfl rfl rfl) ?_
  refine sn ?_
  refine cQ hF rfl ?_
  refine sr hF ?_
  refine gv hF oA ?_
  refine sn ?_
  refine Sm.ret ?_
  obtain rfl := ae h
  exact bM rfl rfl
 replace h := ifF hc16 h
 refine gv hF (ax rfl rfl hc16) ?_
 refine gv hF (oF (av i7)) ?_
 refine gv hF (oF (av gY)) ?_
 refine gv hF (oL (bQ rfl rfl ep rfl)) ?_
 refine gv hF (oN (bF u30)) ?_
 refine gv hF (oB (cq)) ?_
 refine gv hF (ak rfl rfl rfl) ?_
 refine sn ?_
 refine bA hF rfl (fun hc17 => ?_) (fun hc17 => ?_)
 ·replace h := ifT hc17 h
  refine sr hF ?_
  refine gv hF oA ?_
  refine sn ?_
  refine Sm.ret ?_
  obtain rfl := ae h
  exact bM rfl rfl
 replace h := ifF hc17 h
 refine sk ?_
 refine sr hF ?_
 refine gv hF (x := .d (.agg 11 [.v (.int .i64 x6.1.version), .v (.int .i64 x6.1.index), .v (.int .i64 x6.1.count), .list 1 (x6.1.pos.at_.map (aa .i64)) false, .list 1 (x6.1.pos.h0.map (aa .i64)) false, .list 1 (x6.1.pos.h1.map (aa .i64)) false, .v (.int .i64 x6.1.pos.rights), .v (.int .i64 x6.1.pos.side), .v (.int .i64 x6.1.entry.out), .v (.int .i64 x6.1.entry.n), .list 32 (x6.1.proof.map aS) false])) (oL (aC rfl rfl iP eX rfl rfl)) ?_
 refine SmG.new hF rfl rfl rfl (aT rfl lm) ?_
 refine SmG.store hF rfl rfl rfl rfl rfl (aX (ys := [.d (.v (.int .i64 x6.1.version)), .d (.v (.int .i64 x6.1.index)), .d (.v (.int .i64 x6.1.count)), .d (.list 1 (x6.1.pos.at_.map (aa .i64)) false), .d (.list 1 (x6.1.pos.h0.map (aa .i64)) false), .d (.list 1 (x6.1.pos.h1.map (aa .i64)) false), .d (.v (.int .i64 x6.1.pos.rights)), .d (.v (.int .i64 x6.1.pos.side)), .d (.v (.int .i64 x6.1.entry.out)), .d (.v (.int .i64 x6.1.entry.n)), .d (.list 32 (x6.1.proof.map aS) false)]) (r := [.d (.v (.int .i64 0)), .d (.v (.int .i64 0)), .d (.v (.int .i64 0)), .d (.list 0 [] true), .d (.list 0 [] true), .d (.list 0 [] true), .d (.v (.int .i64 0)), .d (.v (.int .i64 0)), .d (.v (.int .i64 0)), .d (.v (.int .i64 0)), .d (.list 0 [] true)]) (rows' := [[.d (.v (.int .i64 x6.1.version)), .d (.v (.int .i64 x6.1.index)), .d (.v (.int .i64 x6.1.count)), .d (.list 1 (x6.1.pos.at_.map (aa .i64)) false), .d (.list 1 (x6.1.pos.h0.map (aa .i64)) false), .d (.list 1 (x6.1.pos.h1.map (aa .i64)) false), .d (.v (.int .i64 x6.1.pos.rights)), .d (.v (.int .i64 x6.1.pos.side)), .d (.v (.int .i64 x6.1.entry.out)), .d (.v (.int .i64 x6.1.entry.n)), .d (.list 32 (x6.1.proof.map aS) false)]]) rfl rfl rfl eX rfl rfl rfl rfl rfl) ?_
 refine sn ?_
 refine sr hF ?_
 refine gv hF (x := .d (.list 1 (([] : List Int).map (aa .i64)) true)) (oS (eR u30 sz3)) ?_
 refine gv hF (oF (av i7)) ?_
 refine gv hF (oF (av gY)) ?_
 refine gv hF (oL (bQ rfl rfl ep rfl)) ?_
 obtain ⟨x18, hx18, h⟩ := ab h
 refine SmG.appendFreshL hF iR rfl (ys := x6.1.pos.at_) (row := (aa .i64)) rfl rfl rfl rfl rfl rfl rfl (.inl rfl) hx18 ?_
 refine gv hF (oF (av i7)) ?_
 refine gv hF (oF (av gY)) ?_
 refine SmG.store hF rfl rfl rfl rfl rfl (bY (rows' := [[.d (.v (.int .i64 x6.1.version)), .d (.v (.int .i64 x6.1.index)), .d (.v (.int .i64 x6.1.count)), .sref 4 0 (x18.map (aa .i64)).length, .d (.list 1 (x6.1.pos.h0.map (aa .i64)) false), .d (.list 1 (x6.1.pos.h1.map (aa .i64)) false), .d (.v (.int .i64 x6.1.pos.rights)), .d (.v (.int .i64 x6.1.pos.side)), .d (.v (.int .i64 x6.1.entry.out)), .d (.v (.int .i64 x6.1.entry.n)), .d (.list 32 (x6.1.proof.map aS) false)]]) rfl rfl rfl eI rfl rfl rfl) ?_
 refine sn ?_
 refine Sm.seq ?_
 obtain ⟨v34, hv34, h⟩ := ab h
 refine dh ⟨[(5, .d (.ptr 3 [.v (.int .i32 a2.1), .v (.int .i32 a2.2.1), .v (.int .i32 a2.2.2)])), (7, .d (.v (.bool x1))), (8, .d (.list 5 (x2.1.map Ps.row) false)), (9, .d (.list 2 (x2.2.map Rs.row) false)), (10, .ref 0 0 0), (17, .ref 3 0 0)], [(4, dB 1 (v34.2.2.2.map (aa .i64))), (3, ⟨11, [[.d (.v (.int .i64 x6.1.version)), .d (.v (.int .i64 x6.1.index)), .d (.v (.int .i64 x6.1.count)), .sref 4 0 (v34.2.2.2.map (aa .i64)).length, .d (.list 1 (x6.1.pos.h0.map (aa .i64)) false), .d (.list 1 (x6.1.pos.h1.map (aa .i64)) false), .d (.v (.int .i64 x6.1.pos.rights)), .d (.v (.int .i64 v34.1)), .d (.v (.int .i64 v34.2.1)), .d (.v (.int .i64 v34.2.2.1)), .d (.list 32 (x6.1.proof.map aS) false)]]⟩), (0, ⟨11, [[.d (.v (.int .i64 x6.1.version)), .d (.v (.int .i64 x6.1.index)), .d (.v (.int .i64 x6.1.count)), .d (.list 1 (x6.1.pos.at_.map (aa .i64)) false), .d (.list 1 (x6.1.pos.h0.map (aa .i64)) false), .d (.list 1 (x6.1.pos.h1.map (aa .i64)) false), .d (.v (.int .i64 x6.1.pos.rights)), .d (.v (.int .i64 x6.1.pos.side)), .d (.v (.int .i64 x6.1.entry.out)), .d (.v (.int .i64 x6.1.entry.n)), .d (.list 32 (x6.1.proof.map aS) false)]]⟩)], 5⟩ ?_ ?_
 ·replace h := hv34
  refine sr hF ?_
  refine gv hF (oI (cF u87 m9 rfl rfl)) ?_
  refine gv hF (oL (lP1 nw rfl)) ?_
  refine gv hF (oC (kj u21 u68)) ?_
  obtain ⟨x19, hx19, h⟩ := ab h
  refine gv hF (oB (bG hx19)) ?_
  refine sn ?_
  refine Sm.block ?_
  refine sr hF ?_
  refine gv hF (oB (cq)) ?_
  refine gv hF oA ?_
  refine sn ?_
  refine bA hF rfl (fun hc20 => ?_) (fun hc20 => ?_)
  ·replace h := ifT hc20 h
   refine bm hF (by kernel_rfl) rfl 9 (by kernel_rfl) (by kernel_rfl) ?_
   simp only [List.take_succ_cons, List.take_zero, List.take_nil]
   refine hv hF (oF (av i7)) ?_
   refine hv hF (oF (av gY)) ?_
   refine hv hF (oL (bQ rfl rfl ep rfl)) ?_
   refine hv hF (oF (av i7)) ?_
   refine hv hF (oF (av gY)) ?_
   refine hv hF (oL (bQ rfl rfl ep rfl)) ?_
   obtain ⟨x21, hx21, h⟩ := ab h
   refine hv hF (oI (cE u30 sz3 hx21)) ?_
   refine hv hF (oL (lP1 ag3 rfl)) ?_
   obtain ⟨x22, hx22, h⟩ := ab h
   refine hv hF (oB (a8 hx22)) ?_
   refine af.last ⟨rfl, ?_⟩
   simp only [List.drop_succ_cons, List.drop_zero, List.drop_nil, List.nil_append, List.cons_append]
   obtain ⟨x23, hx23, h⟩ := ab h
   refine gv hF (oI (my u30 sz3 rfl hx23)) ?_
   refine SmG.store hF rfl rfl rfl rfl rfl (lI (x' := x22) (ys := [.v (.int .i64 x22)]) rfl hx23 rfl sz3 rfl rfl rfl rfl rfl) ?_
   refine cV (cc (env' := [(5, .d (.ptr 3 [.v (.int .i32 a2.1), .v (.int .i32 a2.2.1), .v (.int .i32 a2.2.2)])), (7, .d (.v (.bool x1))), (8, .d (.list 5 (x2.1.map Ps.row) false)), (9, .d (.list 2 (x2.2.map Rs.row) false)), (10, .ref 0 0 0), (17, .ref 3 0 0), (111, .d (.v (.int .i64 x22)))]) (h' := [(4, dB 1 ((x18.set (0 : Int).toNat x22).map (aa .i64))), (3, ⟨11, [[.d (.v (.int .i64 x6.1.version)), .d (.v (.int .i64 x6.1.index)), .d (.v (.int .i64 x6.1.count)), .sref 4 0 ((x18.set (0 : Int).toNat x22).map (aa .i64)).length, .d (.list 1 (x6.1.pos.h0.map (aa .i64)) false), .d (.list 1 (x6.1.pos.h1.map (aa .i64)) false), .d (.v (.int .i64 x6.1.pos.rights)), .d (.v (.int .i64 x6.1.pos.side)), .d (.v (.int .i64 x6.1.entry.out)), .d (.v (.int .i64 x6.1.entry.n)), .d (.list 32 (x6.1.proof.map aS) false)]]⟩), (0, ⟨11, [[.d (.v (.int .i64 x6.1.version)), .d (.v (.int .i64 x6.1.index)), .d (.v (.int .i64 x6.1.count)), .d (.list 1 (x6.1.pos.at_.map (aa .i64)) false), .d (.list 1 (x6.1.pos.h0.map (aa .i64)) false), .d (.list 1 (x6.1.pos.h1.map (aa .i64)) false), .d (.v (.int .i64 x6.1.pos.rights)), .d (.v (.int .i64 x6.1.pos.side)), .d (.v (.int .i64 x6.1.entry.out)), .d (.v (.int .i64 x6.1.entry.n)), .d (.list 32 (x6.1.proof.map aS) false)]]⟩)]) (nx' := 5) ⟨⟨_, rfl, V.le.refl _⟩, ⟨_, rfl, V.le.refl _⟩, ⟨_, rfl, V.le.refl _⟩, ⟨_, rfl, V.le.refl _⟩, ⟨_, rfl, V.le.refl _⟩, ⟨_, rfl, V.le.refl _⟩, ⟨_, rfl, V.le.refl _⟩, trivial⟩ ⟨⟨_, rfl, bp.refl _⟩, ⟨_, rfl, bp.row (.cons (V.le.refl _) (.cons (V.le.refl _) (.cons (V.le.refl _) (.cons (V.le.len (by simp only [List.length_map, List.length_set])) (.cons (V.le.refl _) (.cons (V.le.refl _) (.cons (V.le.refl _) (.cons (V.le.refl _) (.cons (V.le.refl _) (.cons (V.le.refl _) (.cons (V.le.refl _) .nil)))))))))))⟩, ⟨_, rfl, bp.refl _⟩, trivial⟩ (Nat.le_of_ble_eq_true rfl)) rfl ?_
   refine SmG.nil ?_
   refine ay ?_
   obtain rfl := ae h
   exact (toK ⟨rfl, rfl, rfl, rfl, rfl, rfl, trivial⟩ ⟨rfl, rfl, rfl, trivial⟩)
  replace h := ifF hc20 h
  refine sr hF ?_
  refine gv hF (oB (cq)) ?_
  refine gv hF oA ?_
  refine sn ?_
  refine bA hF rfl (fun hc24 => ?_) (fun hc24 => ?_)
  ·replace h := ifT hc24 h
   refine ac hF rfl ?_
   refine gv hF (oI (cF u87 m9 rfl rfl)) ?_
   refine gv hF (oL (lP1 nw rfl)) ?_
   refine gv hF (oC (kj u21 u68)) ?_
   obtain ⟨x25, hx25, h⟩ := ab h
   refine gv hF (oB (bG hx25)) ?_
   obtain ⟨x26, hx26, h⟩ := ab h
   refine gv hF (oC (fN u68 u3 hx26)) ?_
   obtain ⟨x27, hx27, h⟩ := ab h
   refine gv hF (oB (a8 hx27)) ?_
   refine gv hF (oF (av lS)) ?_
   refine gv hF (oF (av oV)) ?_
   refine SmG.store hF rfl rfl rfl rfl rfl (bY (rows' := [[.d (.v (.int .i64 x6.1.version)), .d (.v (.int .i64 x6.1.index)), .d (.v (.int .i64 x6.1.count)), .sref 4 0 (x18.map (aa .i64)).length, .d (.list 1 (x6.1.pos.h0.map (aa .i64)) false), .d (.list 1 (x6.1.pos.h1.map (aa .i64)) false), .d (.v (.int .i64 x6.1.pos.rights)), .d (.v (.int .i64 x6.1.pos.side)), .d (.v (.int .i64 x27)), .d (.v (.int .i64 x6.1.entry.n)), .d (.list 32 (x6.1.proof.map aS) false)]]) rfl rfl rfl sz3 rfl rfl rfl) ?_
   refine SmG.nil ?_
   refine ay ?_
   obtain rfl := ae h
   exact (toK ⟨rfl, rfl, rfl, rfl, rfl, rfl, trivial⟩ ⟨rfl, rfl, rfl, trivial⟩)
  replace h := ifF hc24 h
  refine sr hF ?_
  refine gv hF (oB (cq)) ?_
  refine gv hF oA ?_
  refine sn ?_
  refine bA hF rfl (fun hc28 => ?_) (fun hc28 => ?_)
  ·replace h := ifT hc28 h
   refine ac hF rfl ?_
   refine gv hF (oI (cF u87 m9 rfl rfl)) ?_
   refine gv hF (oL (lP1 nw rfl)) ?_
   refine gv hF (oC (kj u21 u68)) ?_
   obtain ⟨x29, hx29, h⟩ := ab h
   refine gv hF (oC (fN u68 u3 hx29)) ?_
   obtain ⟨x30, hx30, h⟩ := ab h
   refine gv hF (oB (lP hx30)) ?_
   refine gv hF (oF (av lS)) ?_
   refine gv hF (oF (av jA)) ?_
   refine SmG.store hF rfl rfl rfl rfl rfl (bY (rows' := [[.d (.v (.int .i64 x6.1.version)), .d (.v (.int .i64 x6.1.index)), .d (.v (.int .i64 x6.1.count)), .sref 4 0 (x18.map (aa .i64)).length, .d (.list 1 (x6.1.pos.h0.map (aa .i64)) false), .d (.list 1 (x6.1.pos.h1.map (aa .i64)) false), .d (.v (.int .i64 x6.1.pos.rights)), .d (.v (.int .i64 x6.1.pos.side)), .d (.v (.int .i64 x6.1.entry.out)), .d (.v (.int .i64 x30)), .d (.list 32 (x6.1.proof.map aS) false)]]) rfl rfl rfl sz3 rfl rfl rfl) ?_
   refine SmG.nil ?_
   refine ay ?_
   obtain rfl := ae h
   exact (toK ⟨rfl, rfl, rfl, rfl, rfl, rfl, trivial⟩ ⟨rfl, rfl, rfl, trivial⟩)
  replace h := ifF hc28 h
  refine sr hF ?_
  refine gv hF (oB (cq)) ?_
  refine gv hF oA ?_
  refine sn ?_
  refine bA hF rfl (fun hc31 => ?_) (fun hc31 => ?_)
  ·replace h := ifT hc31 h
   refine ac hF rfl ?_
   refine gv hF (oF (av i7)) ?_
   refine gv hF (oF (av pj)) ?_
   refine SmG.store hF rfl rfl rfl rfl rfl (bY (rows' := [[.d (.v (.int .i64 x6.1.version)), .d (.v (.int .i64 x6.1.index)), .d (.v (.int .i64 x6.1.count)), .sref 4 0 (x18.map (aa .i64)).length, .d (.list 1 (x6.1.pos.h0.map (aa .i64)) false), .d (.list 1 (x6.1.pos.h1.map (aa .i64)) false), .d (.v (.int .i64 x6.1.pos.rights)), .d (.v (.int .i64 (-1))), .d (.v (.int .i64 x6.1.entry.out)), .d (.v (.int .i64 x6.1.entry.n)), .d (.list 32 (x6.1.proof.map aS) false)]]) rfl rfl rfl sz3 rfl rfl rfl) ?_
   refine SmG.nil ?_
   refine ay ?_
   obtain rfl := ae h
   exact (toK ⟨rfl, rfl, rfl, rfl, rfl, rfl, trivial⟩ ⟨rfl, rfl, rfl, trivial⟩)
  replace h := ifF hc31 h
  refine ac hF rfl ?_
  refine gv hF (oI (cF u87 m9 rfl rfl)) ?_
  refine gv hF (oL (lP1 nw rfl)) ?_
  refine gv hF (oC (kj u21 u68)) ?_
  obtain ⟨x32, hx32, h⟩ := ab h
  refine gv hF (oC (fN u68 u3 hx32)) ?_
  obtain ⟨x33, hx33, h⟩ := ab h
  refine gv hF (oB (a8 hx33)) ?_
  refine gv hF (oF (av lS)) ?_
  refine gv hF (oF (av jA)) ?_
  refine SmG.store hF rfl rfl rfl rfl rfl (bY (rows' := [[.d (.v (.int .i64 x6.1.version)), .d (.v (.int .i64 x6.1.index)), .d (.v (.int .i64 x6.1.count)), .sref 4 0 (x18.map (aa .i64)).length, .d (.list 1 (x6.1.pos.h0.map (aa .i64)) false), .d (.list 1 (x6.1.pos.h1.map (aa .i64)) false), .d (.v (.int .i64 x6.1.pos.rights)), .d (.v (.int .i64 x6.1.pos.side)), .d (.v (.int .i64 x6.1.entry.out)), .d (.v (.int .i64 x33)), .d (.list 32 (x6.1.proof.map aS) false)]]) rfl rfl rfl sz3 rfl rfl rfl) ?_
  refine SmG.nil ?_
  refine ay ?_
  obtain rfl := ae h
  exact (toK ⟨rfl, rfl, rfl, rfl, rfl, rfl, trivial⟩ ⟨rfl, rfl, rfl, trivial⟩)
 refine sr hF ?_
 refine gv hF (oF (av i7)) ?_
 refine cV (aV (toK (e := [(5, .d (.ptr 3 [.v (.int .i32 a2.1), .v (.int .i32 a2.2.1), .v (.int .i32 a2.2.2)])), (7, .d (.v (.bool x1))), (8, .d (.list 5 (x2.1.map Ps.row) false)), (9, .d (.list 2 (x2.2.map Rs.row) false)), (10, .ref 0 0 0), (17, .ref 3 0 0), (136, .ref 3 0 3)]) (g := [(4, dB 1 (v34.2.2.2.map (aa .i64))), (3, ⟨11, [[.d (.v (.int .i64 x6.1.version)), .d (.v (.int .i64 x6.1.index)), .d (.v (.int .i64 x6.1.count)), .sref 4 0 (v34.2.2.2.map (aa .i64)).length, .d (.list 1 (x6.1.pos.h0.map (aa .i64)) false), .d (.list 1 (x6.1.pos.h1.map (aa .i64)) false), .d (.v (.int .i64 x6.1.pos.rights)), .d (.v (.int .i64 v34.1)), .d (.v (.int .i64 v34.2.1)), .d (.v (.int .i64 v34.2.2.1)), .d (.list 32 (x6.1.proof.map aS) false)]]⟩), (0, ⟨11, [[.d (.v (.int .i64 x6.1.version)), .d (.v (.int .i64 x6.1.index)), .d (.v (.int .i64 x6.1.count)), .d (.list 1 (x6.1.pos.at_.map (aa .i64)) false), .d (.list 1 (x6.1.pos.h0.map (aa .i64)) false), .d (.list 1 (x6.1.pos.h1.map (aa .i64)) false), .d (.v (.int .i64 x6.1.pos.rights)), .d (.v (.int .i64 x6.1.pos.side)), .d (.v (.int .i64 x6.1.entry.out)), .d (.v (.int .i64 x6.1.entry.n)), .d (.list 32 (x6.1.proof.map aS) false)]]⟩)]) (m := 5) ⟨rfl, rfl, rfl, rfl, rfl, rfl, rfl, trivial⟩ ⟨rfl, rfl, rfl, trivial⟩) (bu (l := 4) (sz := 1) (env' := [(5, .d (.ptr 3 [.v (.int .i32 a2.1), .v (.int .i32 a2.2.1), .v (.int .i32 a2.2.2)])), (7, .d (.v (.bool x1))), (8, .d (.list 5 (x2.1.map Ps.row) false)), (9, .d (.list 2 (x2.2.map Rs.row) false)), (10, .ref 0 0 0), (17, .ref 3 0 0), (136, .ref 3 0 3)]) (h' := [(3, ⟨11, [[.d (.v (.int .i64 x6.1.version)), .d (.v (.int .i64 x6.1.index)), .d (.v (.int .i64 x6.1.count)), .d (.list 1 (v34.2.2.2.map (aa .i64)) false), .d (.list 1 (x6.1.pos.h0.map (aa .i64)) false), .d (.list 1 (x6.1.pos.h1.map (aa .i64)) false), .d (.v (.int .i64 x6.1.pos.rights)), .d (.v (.int .i64 v34.1)), .d (.v (.int .i64 v34.2.1)), .d (.v (.int .i64 v34.2.2.1)), .d (.list 32 (x6.1.proof.map aS) false)]]⟩), (0, ⟨11, [[.d (.v (.int .i64 x6.1.version)), .d (.v (.int .i64 x6.1.index)), .d (.v (.int .i64 x6.1.count)), .d (.list 1 (x6.1.pos.at_.map (aa .i64)) false), .d (.list 1 (x6.1.pos.h0.map (aa .i64)) false), .d (.list 1 (x6.1.pos.h1.map (aa .i64)) false), .d (.v (.int .i64 x6.1.pos.rights)), .d (.v (.int .i64 x6.1.pos.side)), .d (.v (.int .i64 x6.1.entry.out)), .d (.v (.int .i64 x6.1.entry.n)), .d (.list 32 (x6.1.proof.map aS) false)]]⟩)]) (nx := 5) (v34.2.2.2.map (aa .i64)) rfl ⟨⟨_, rfl, rfl⟩, ⟨_, rfl, rfl⟩, ⟨_, rfl, rfl⟩, ⟨_, rfl, rfl⟩, ⟨_, rfl, rfl⟩, ⟨_, rfl, rfl⟩, ⟨_, rfl, rfl⟩, trivial⟩ ⟨⟨rfl, _, rfl, bg (.cons rfl (.cons rfl (.cons rfl (.cons cj (.cons rfl (.cons rfl (.cons rfl (.cons rfl (.cons rfl (.cons rfl (.cons rfl .nil)))))))))))⟩, ⟨rfl, _, rfl, bg (.cons rfl (.cons rfl (.cons rfl (.cons rfl (.cons rfl (.cons rfl (.cons rfl (.cons rfl (.cons rfl (.cons rfl (.cons rfl .nil)))))))))))⟩, trivial⟩)) rfl ?_
 refine gv hF (x := .d (.agg 5 [.list 1 (v34.2.2.2.map (aa .i64)) false, .list 1 (x6.1.pos.h0.map (aa .i64)) false, .list 1 (x6.1.pos.h1.map (aa .i64)) false, .v (.int .i64 x6.1.pos.rights), .v (.int .i64 v34.1)])) (oL (aC rfl rfl gJ eu rfl rfl)) ?_
 refine gv hF (oF (av lS)) ?_
 refine gv hF (x := .d (.agg 2 [.v (.int .i64 v34.2.1), .v (.int .i64 v34.2.2.1)])) (oL (aC rfl rfl kw fL rfl rfl)) ?_
 obtain ⟨x35, hx35, h⟩ := ab h
 refine SmG.call hF rfl rfl (by kernel_rfl) rfl rfl rfl (iT hx35) ?_
 obtain ⟨x36, hx36, h⟩ := ab h
 refine SmG.call hF rfl rfl (by kernel_rfl) rfl rfl rfl (ja hx36) ?_
 refine SmG.new hF rfl rfl rfl (aT rfl oJ) ?_
 obtain ⟨x37, hx37, h⟩ := ab h
 refine SmG.store hF rfl rfl rfl rfl rfl (nG rfl rfl iB rfl (lT hx37)) ?_
 refine sn ?_
 refine sr hF ?_
 refine gv hF (x := .d (.agg 11 [.v (.int .i64 x6.1.version), .v (.int .i64 x6.1.index), .v (.int .i64 x6.1.count), .list 1 (x6.1.pos.at_.map (aa .i64)) false, .list 1 (x6.1.pos.h0.map (aa .i64)) false, .list 1 (x6.1.pos.h1.map (aa .i64)) false, .v (.int .i64 x6.1.pos.rights), .v (.int .i64 x6.1.pos.side), .v (.int .i64 x6.1.entry.out), .v (.int .i64 x6.1.entry.n), .list 32 (x6.1.proof.map aS) false])) (oL (aC rfl rfl iP eX rfl rfl)) ?_
 refine SmG.new hF rfl rfl rfl (aT rfl lm) ?_
 refine SmG.store hF rfl rfl rfl rfl rfl (aX (ys := [.d (.v (.int .i64 x6.1.version)), .d (.v (.int .i64 x6.1.index)), .d (.v (.int .i64 x6.1.count)), .d (.list 1 (x6.1.pos.at_.map (aa .i64)) false), .d (.list 1 (x6.1.pos.h0.map (aa .i64)) false), .d (.list 1 (x6.1.pos.h1.map (aa .i64)) false), .d (.v (.int .i64 x6.1.pos.rights)), .d (.v (.int .i64 x6.1.pos.side)), .d (.v (.int .i64 x6.1.entry.out)), .d (.v (.int .i64 x6.1.entry.n)), .d (.list 32 (x6.1.proof.map aS) false)]) (r := [.d (.v (.int .i64 0)), .d (.v (.int .i64 0)), .d (.v (.int .i64 0)), .d (.list 0 [] true), .d (.list 0 [] true), .d (.list 0 [] true), .d (.v (.int .i64 0)), .d (.v (.int .i64 0)), .d (.v (.int .i64 0)), .d (.v (.int .i64 0)), .d (.list 0 [] true)]) (rows' := [[.d (.v (.int .i64 x6.1.version)), .d (.v (.int .i64 x6.1.index)), .d (.v (.int .i64 x6.1.count)), .d (.list 1 (x6.1.pos.at_.map (aa .i64)) false), .d (.list 1 (x6.1.pos.h0.map (aa .i64)) false), .d (.list 1 (x6.1.pos.h1.map (aa .i64)) false), .d (.v (.int .i64 x6.1.pos.rights)), .d (.v (.int .i64 x6.1.pos.side)), .d (.v (.int .i64 x6.1.entry.out)), .d (.v (.int .i64 x6.1.entry.n)), .d (.list 32 (x6.1.proof.map aS) false)]]) rfl rfl rfl eX rfl rfl rfl rfl rfl) ?_
 refine sn ?_
 refine sr hF ?_
 refine gv hF (oI (cF u87 m9 rfl rfl)) ?_
 refine gv hF (oL (lP1 nw rfl)) ?_
 obtain ⟨x38, hx38, h⟩ := ab h
 refine gv hF (oC (fN u21 u3 hx38)) ?_
 refine gv hF (oF (av vB)) ?_
 refine SmG.store hF rfl rfl rfl rfl rfl (bY (rows' := [[.d (.v (.int .i64 x6.1.version)), .d (.v (.int .i64 x38)), .d (.v (.int .i64 x6.1.count)), .d (.list 1 (x6.1.pos.at_.map (aa .i64)) false), .d (.list 1 (x6.1.pos.h0.map (aa .i64)) false), .d (.list 1 (x6.1.pos.h1.map (aa .i64)) false), .d (.v (.int .i64 x6.1.pos.rights)), .d (.v (.int .i64 x6.1.pos.side)), .d (.v (.int .i64 x6.1.entry.out)), .d (.v (.int .i64 x6.1.entry.n)), .d (.list 32 (x6.1.proof.map aS) false)]]) rfl rfl rfl sz3 rfl rfl rfl) ?_
 refine sn ?_
 refine sr hF ?_
 refine gv hF (x := .d (.agg 11 [.v (.int .i64 x6.1.version), .v (.int .i64 x6.1.index), .v (.int .i64 x6.1.count), .list 1 (x6.1.pos.at_.map (aa .i64)) false, .list 1 (x6.1.pos.h0.map (aa .i64)) false, .list 1 (x6.1.pos.h1.map (aa .i64)) false, .v (.int .i64 x6.1.pos.rights), .v (.int .i64 x6.1.pos.side), .v (.int .i64 x6.1.entry.out), .v (.int .i64 x6.1.entry.n), .list 32 (x6.1.proof.map aS) false])) (oL (aC rfl rfl iP eX rfl rfl)) ?_
 refine SmG.new hF rfl rfl rfl (aT rfl lm) ?_
 refine SmG.store hF rfl rfl rfl rfl rfl (aX (ys := [.d (.v (.int .i64 x6.1.version)), .d (.v (.int .i64 x6.1.index)), .d (.v (.int .i64 x6.1.count)), .d (.list 1 (x6.1.pos.at_.map (aa .i64)) false), .d (.list 1 (x6.1.pos.h0.map (aa .i64)) false), .d (.list 1 (x6.1.pos.h1.map (aa .i64)) false), .d (.v (.int .i64 x6.1.pos.rights)), .d (.v (.int .i64 x6.1.pos.side)), .d (.v (.int .i64 x6.1.entry.out)), .d (.v (.int .i64 x6.1.entry.n)), .d (.list 32 (x6.1.proof.map aS) false)]) (r := [.d (.v (.int .i64 0)), .d (.v (.int .i64 0)), .d (.v (.int .i64 0)), .d (.list 0 [] true), .d (.list 0 [] true), .d (.list 0 [] true), .d (.v (.int .i64 0)), .d (.v (.int .i64 0)), .d (.v (.int .i64 0)), .d (.v (.int .i64 0)), .d (.list 0 [] true)]) (rows' := [[.d (.v (.int .i64 x6.1.version)), .d (.v (.int .i64 x6.1.index)), .d (.v (.int .i64 x6.1.count)), .d (.list 1 (x6.1.pos.at_.map (aa .i64)) false), .d (.list 1 (x6.1.pos.h0.map (aa .i64)) false), .d (.list 1 (x6.1.pos.h1.map (aa .i64)) false), .d (.v (.int .i64 x6.1.pos.rights)), .d (.v (.int .i64 x6.1.pos.side)), .d (.v (.int .i64 x6.1.entry.out)), .d (.v (.int .i64 x6.1.entry.n)), .d (.list 32 (x6.1.proof.map aS) false)]]) rfl rfl rfl eX rfl rfl rfl rfl rfl) ?_
 refine sn ?_
 refine sr hF ?_
 refine gv hF (x := .d (.agg 32 (aS (List.replicate 32 0)))) (fS rfl u47 rfl wd) ?_
 refine gv hF (x := .d (.list 32 ([(List.replicate 32 0)].map aS) true)) (oS (az u36 iB yh rfl rfl (PartsQ.cons rfl (PartsQ.nil _)) rfl)) ?_
 refine gv hF (oF (av rn)) ?_
 refine SmG.store hF rfl rfl rfl rfl rfl (bY (rows' := [[.d (.v (.int .i64 x6.1.version)), .d (.v (.int .i64 x6.1.index)), .d (.v (.int .i64 x6.1.count)), .d (.list 1 (x6.1.pos.at_.map (aa .i64)) false), .d (.list 1 (x6.1.pos.h0.map (aa .i64)) false), .d (.list 1 (x6.1.pos.h1.map (aa .i64)) false), .d (.v (.int .i64 x6.1.pos.rights)), .d (.v (.int .i64 x6.1.pos.side)), .d (.v (.int .i64 x6.1.entry.out)), .d (.v (.int .i64 x6.1.entry.n)), .d (.list 32 ([(List.replicate 32 0)].map aS) true)]]) rfl rfl rfl zp rfl rfl rfl) ?_
 refine sn ?_
 refine Sm.seq ?_
 refine bm hF (by kernel_rfl) rfl 6 (by kernel_rfl) (by kernel_rfl) ?_
 simp only [List.take_succ_cons, List.take_zero, List.take_nil]
 refine hv hF oM ?_
 obtain ⟨x39, hx39, h⟩ := ab h
 refine hv hF (gq rfl rfl rfl rfl rfl (q5 u40 eu hx39)) ?_
 refine hv hF oM ?_
 obtain ⟨x40, hx40, h⟩ := ab h
 refine hv hF (gq rfl rfl rfl rfl rfl (q5 u41 fL hx40)) ?_
 obtain ⟨x41, hx41, h⟩ := ab h
 refine af.c hF rfl rfl (by kernel_rfl) rfl rfl rfl (kY hx41) ?_
 refine af.new hF rfl rfl rfl rfl oJ ?_
 refine af.last ⟨rfl, ?_⟩
 simp only [List.drop_succ_cons, List.drop_zero, List.drop_nil, List.nil_append, List.cons_append]
 obtain ⟨x42, hx42, h⟩ := ab h
 refine SmG.store hF rfl rfl rfl rfl rfl (nG rfl rfl iB rfl (lT hx42)) ?_
 refine sn ?_
 refine Sm.seq ?_
 refine bm hF (by kernel_rfl) rfl 25 (by kernel_rfl) (by kernel_rfl) ?_
 simp only [List.take_succ_cons, List.take_zero, List.take_nil]
 refine hv hF oM ?_
 rcases bX x1 with hc43 | hc43
 ·replace h := ifF hc43 h
  refine hv hF (ax rfl rfl hc43) ?_
  refine hp hF ?_
  refine hp hF ?_
  refine hp hF ?_
  refine hp hF ?_
  refine hv hF (ak rfl rfl rfl) ?_
  refine hv hF oM ?_
  refine hp hF ?_
  refine hp hF ?_
  refine hp hF ?_
  refine hp hF ?_
  refine hp hF ?_
  refine hp hF ?_
  refine hp hF ?_
  refine hv hF (ak rfl rfl rfl) ?_
  refine hv hF oM ?_
  refine hp hF ?_
  refine hp hF ?_
  refine hp hF ?_
  refine hp hF ?_
  refine hv hF (ak rfl rfl rfl) ?_
  refine hv hF oM ?_
  refine hp hF ?_
  refine hp hF ?_
  refine af.last ⟨rfl, ?_⟩
  simp only [List.drop_succ_cons, List.drop_zero, List.drop_nil, List.nil_append, List.cons_append]
  refine gp hF ?_
  refine gv hF (ak rfl rfl rfl) ?_
  refine gv hF oA ?_
  refine sn ?_
  refine Sm.ret ?_
  obtain rfl := ae h
  exact bM rfl rfl
 replace h := ifT hc43 h
 refine hv hF (ax rfl rfl hc43) ?_
 refine hv hF (x := .d (.agg 32 (aS x36))) (oL (jI rfl lu iB)) ?_
 refine hv hF (x := .d (.agg 11 [.v (.int .i64 x6.1.version), .v (.int .i64 x6.1.index), .v (.int .i64 x6.1.count), .list 1 (v34.2.2.2.map (aa .i64)) false, .list 1 (x6.1.pos.h0.map (aa .i64)) false, .list 1 (x6.1.pos.h1.map (aa .i64)) false, .v (.int .i64 x6.1.pos.rights), .v (.int .i64 v34.1), .v (.int .i64 v34.2.1), .v (.int .i64 v34.2.2.1), .list 32 (x6.1.proof.map aS) false])) (oL (aC rfl rfl iP eX rfl rfl)) ?_
 obtain ⟨x44, hx44, h⟩ := ab h
 refine af.c hF rfl rfl (by kernel_rfl) rfl rfl rfl (dP hx44) ?_
 refine hv hF (iU rfl rfl (jG _)) ?_
 refine hv hF (aQ rfl rfl rfl) ?_
 rcases bX (!x44) with hc45 | hc45
 ·replace h := ifF hc45 h
  refine hv hF (ax rfl rfl hc45) ?_
  refine hp hF ?_
  refine hp hF ?_
  refine hp hF ?_
  refine hp hF ?_
  refine hp hF ?_
  refine hp hF ?_
  refine hp hF ?_
  refine hv hF (ak rfl rfl rfl) ?_
  refine hv hF oM ?_
  refine hp hF ?_
  refine hp hF ?_
  refine hp hF ?_
  refine hp hF ?_
  refine hv hF (ak rfl rfl rfl) ?_
  refine hv hF oM ?_
  refine hp hF ?_
  refine hp hF ?_
  refine af.last ⟨rfl, ?_⟩
  simp only [List.drop_succ_cons, List.drop_zero, List.drop_nil, List.nil_append, List.cons_append]
  refine gp hF ?_
  refine gv hF (ak rfl rfl rfl) ?_
  refine gv hF oA ?_
  refine sn ?_
  refine Sm.ret ?_
  obtain rfl := ae h
  exact bM rfl rfl
 replace h := ifT hc45 h
 refine hv hF (ax rfl rfl hc45) ?_
 refine hv hF (x := .d (.agg 32 (aS x41))) (oL (jI rfl lu iB)) ?_
 refine hv hF (x := .d (.agg 11 [.v (.int .i64 x6.1.version), .v (.int .i64 x38), .v (.int .i64 x6.1.count), .list 1 (x6.1.pos.at_.map (aa .i64)) false, .list 1 (x6.1.pos.h0.map (aa .i64)) false, .list 1 (x6.1.pos.h1.map (aa .i64)) false, .v (.int .i64 x6.1.pos.rights), .v (.int .i64 x6.1.pos.side), .v (.int .i64 x6.1.entry.out), .v (.int .i64 x6.1.entry.n), .list 32 (x6.1.proof.map aS) false])) (oL (aC rfl rfl iP eX rfl rfl)) ?_
 obtain ⟨x46, hx46, h⟩ := ab h
 refine af.c hF rfl rfl (by kernel_rfl) rfl rfl rfl (dP hx46) ?_
 refine hv hF (oI (cF u87 m9 rfl rfl)) ?_
 refine hv hF (oL (lP1 nw rfl)) ?_
 refine hv hF (oB (cq)) ?_
 refine hv hF (oB (yx _ _ _ _ (by kernel_rfl) rfl)) ?_
 refine hv hF (aQ rfl rfl rfl) ?_
 rcases bX (x46 == (a2.2.2 == 0)) with hc47 | hc47
 ·replace h := ifF hc47 h
  refine hv hF (ax rfl rfl hc47) ?_
  refine hp hF ?_
  refine hp hF ?_
  refine hp hF ?_
  refine hp hF ?_
  refine hv hF (ak rfl rfl rfl) ?_
  refine hv hF oM ?_
  refine hp hF ?_
  refine hp hF ?_
  refine af.last ⟨rfl, ?_⟩
  simp only [List.drop_succ_cons, List.drop_zero, List.drop_nil, List.nil_append, List.cons_append]
  refine gp hF ?_
  refine gv hF (ak rfl rfl rfl) ?_
  refine gv hF oA ?_
  refine sn ?_
  refine Sm.ret ?_
  obtain rfl := ae h
  exact bM rfl rfl
 replace h := ifT hc47 h
 refine hv hF (ax rfl rfl hc47) ?_
 refine hv hF (x := .d (.agg 32 (aS x41))) (oL (jI rfl lu iB)) ?_
 refine hv hF (x := .d (.agg 11 [.v (.int .i64 x6.1.version), .v (.int .i64 x6.1.index), .v (.int .i64 x6.1.count), .list 1 (x6.1.pos.at_.map (aa .i64)) false, .list 1 (x6.1.pos.h0.map (aa .i64)) false, .list 1 (x6.1.pos.h1.map (aa .i64)) false, .v (.int .i64 x6.1.pos.rights), .v (.int .i64 x6.1.pos.side), .v (.int .i64 x6.1.entry.out), .v (.int .i64 x6.1.entry.n), .list 32 ([(List.replicate 32 0)].map aS) true])) (oL (aC rfl rfl iP eX rfl rfl)) ?_
 obtain ⟨x48, hx48, h⟩ := ab h
 refine af.c hF rfl rfl (by kernel_rfl) rfl rfl rfl (aq.args (dP hx48) (fun C => (bT (by repeat' first | exact D.le.refl _ | exact aE _ _ _ | exact aD _ _ _ | refine aI ?_ | exact LeRows.nil | refine LeRows.cons ?_ ?_ | exact LeL.nil | refine LeL.cons ?_ ?_ | refine aH ?_ | refine aG ?_) (bT (by repeat' first | exact D.le.refl _ | exact aE _ _ _ | exact aD _ _ _ | refine aI ?_ | exact LeRows.nil | refine LeRows.cons ?_ ?_ | exact LeL.nil | refine LeL.cons ?_ ?_ | refine aH ?_ | refine aG ?_) (bT (by repeat' first | exact D.le.refl _ | exact aE _ _ _ | exact aD _ _ _ | refine aI ?_ | exact LeRows.nil | refine LeRows.cons ?_ ?_ | exact LeL.nil | refine LeL.cons ?_ ?_ | refine aH ?_ | refine aG ?_) (fun _ h => h)))))) ?_
 refine hv hF (iU rfl rfl (jG _)) ?_
 refine hv hF (aQ rfl rfl rfl) ?_
 rcases bX (!x48) with hc49 | hc49
 ·replace h := ifF hc49 h
  refine hv hF (ax rfl rfl hc49) ?_
  refine hp hF ?_
  refine hp hF ?_
  refine af.last ⟨rfl, ?_⟩
  simp only [List.drop_succ_cons, List.drop_zero, List.drop_nil, List.nil_append, List.cons_append]
  refine gp hF ?_
  refine gv hF (ak rfl rfl rfl) ?_
  refine gv hF oA ?_
  refine sn ?_
  refine Sm.ret ?_
  obtain rfl := ae h
  exact bM rfl rfl
 replace h := ifT hc49 h
 refine hv hF (ax rfl rfl hc49) ?_
 refine hv hF (x := .d (.agg 32 (aS x41))) (oL (jI rfl lu iB)) ?_
 refine hv hF (x := .d (.agg 11 [.v (.int .i64 x6.1.version), .v (.int .i64 x6.1.index), .v (.int .i64 x6.1.count), .list 1 (x6.1.pos.at_.map (aa .i64)) false, .list 1 (x6.1.pos.h0.map (aa .i64)) false, .list 1 (x6.1.pos.h1.map (aa .i64)) false, .v (.int .i64 x6.1.pos.rights), .v (.int .i64 x6.1.pos.side), .v (.int .i64 x6.1.entry.out), .v (.int .i64 x6.1.entry.n), .list 32 (x6.1.proof.map aS) false])) (oL (aC rfl rfl iP eX rfl rfl)) ?_
 refine af.last ⟨rfl, ?_⟩
 simp only [List.drop_succ_cons, List.drop_zero, List.drop_nil, List.nil_append, List.cons_append]
 obtain ⟨x50, hx50, h⟩ := ab h
 refine SmG.call hF rfl rfl (by kernel_rfl) rfl rfl rfl (dP hx50) ?_
 refine gv hF (aQ rfl rfl rfl) ?_
 refine gv hF oA ?_
 refine sn ?_
 refine Sm.ret ?_
 obtain rfl := ae h
 exact bM rfl rfl
end
section
open Go.RowKit
set_option maxRecDepth 100000
end
section
open Go.RowKit
set_option maxRecDepth 100000
theorem mL {α : Type} (ls : List (List α)) (i : Nat) (x : List α) (h : ls[i]? = some x) : (ls.take (i + 1)).flatten.length = (ls.take i).flatten.length + x.length ∧ (ls.take (i + 1)).flatten = (ls.take i).flatten ++ x := by
 have hi := (List.getElem?_eq_some_iff.1 h).1
 rw [List.take_add_one, h]; simp
theorem iS {α : Type} (ls : List (List α)) (i : Nat) : (ls.take i).flatten.length ≤ ls.flatten.length := by
 have := congrArg (fun l => l.flatten.length) (List.take_append_drop i ls)
 simp only [List.flatten_append, List.length_append] at this
 omega
theorem rP (n : Int) (h : 0 ≤ n ∧ n ≤ 4294967296) : dF [] n = some [] := by
 refine Ok.get ?_
 unfold dF
 refine Ok.cond (fun c => ?_) fun _ => ?_
 ·simp only [decide_eq_true_eq] at c; omega
 ·rw [aO (by omega), ah]
  refine Ok.cond (fun c => ?_) fun _ => Ok.ret rfl
  simp only [decide_eq_true_eq] at c
  have : pP (n - 0) = some (n - 0).toNat := if_pos (by omega)
  rw [this, ah]; exact Ok.ret rfl
theorem pF (ls : List (List Int)) (h : ls.flatten.length ≤ 4294967296) (hl : ls.length ≤ 4294967296) : dl ls = some ls.flatten := by
 unfold dl
 have h1 : bC (bR ls) (0, 0) = some (ls.flatten.length : Int) := by
  have := kK (body := bR ls) (fun i => (((ls.take i).flatten.length : Nat), (i : Int))) ls.length (e := (ls.flatten.length : Int)) (fun i hi => by
   have hx : ls[i]? = some (ls[i]'hi) := List.getElem?_eq_getElem _
   generalize ls[i]'hi = x at hx
   have hle := iS ls (i + 1)
   have hst := (mL ls i x hx).1
   unfold bR
   simp only
   rw [j6 (by omega), cond_true, ic, hx, ah, aO (by omega), ah, fZ (by omega), cond_false, aO (by omega), ah, hst]
   rfl) (by
   unfold bR
   simp only [List.take_length]
   rw [fZ (by omega), cond_false])
  simpa using this
 rw [gg h1, gg (rP _ (by omega))]
 have h2 : bC (bS ls) (0, []) = some ls.flatten := by
  have := kK (body := bS ls) (fun i => ((i : Int), (ls.take i).flatten)) ls.length (e := ls.flatten) (fun i hi => by
   have hx : ls[i]? = some (ls[i]'hi) := List.getElem?_eq_getElem _
   generalize ls[i]'hi = x at hx
   have hle := iS ls (i + 1)
   obtain ⟨hst, hst2⟩ := mL ls i x hx
   unfold bS
   simp only
   rw [j6 (by omega), cond_true, ic, hx, ah, b9 (by omega), ah, aO (by omega), ah, hst2]
   rfl) (by
   unfold bS
   simp only [List.take_length]
   rw [fZ (by omega), cond_false])
  simpa using this
 rw [gg h2]
theorem pX (n : Int) (h : 0 ≤ n ∧ n ≤ 4294967296) : dk [] n = some [] := by
 refine Ok.get ?_
 unfold dk
 refine Ok.cond (fun c => ?_) fun _ => ?_
 ·simp only [decide_eq_true_eq] at c; omega
 ·rw [aO (by omega), ah]
  refine Ok.cond (fun c => ?_) fun _ => Ok.ret rfl
  simp only [decide_eq_true_eq] at c
  have : pP (n - 0) = some (n - 0).toNat := if_pos (by omega)
  rw [this, ah]; exact Ok.ret rfl
theorem oq (ls : List (List UInt8)) (h : ls.flatten.length ≤ 4294967296) (hl : ls.length ≤ 4294967296) : cS ls = some ls.flatten := by
 unfold cS
 have h1 : bC (bJ ls) (0, 0) = some (ls.flatten.length : Int) := by
  have := kK (body := bJ ls) (fun i => (((ls.take i).flatten.length : Nat), (i : Int))) ls.length (e := (ls.flatten.length : Int)) (fun i hi => by
   have hx : ls[i]? = some (ls[i]'hi) := List.getElem?_eq_getElem _
   generalize ls[i]'hi = x at hx
   have hle := iS ls (i + 1)
   have hst := (mL ls i x hx).1
   unfold bJ
   simp only
   rw [j6 (by omega), cond_true, ic, hx, ah, aO (by omega), ah, fZ (by omega), cond_false, aO (by omega), ah, hst]
   rfl) (by
   unfold bJ
   simp only [List.take_length]
   rw [fZ (by omega), cond_false])
  simpa using this
 rw [gg h1, gg (pX _ (by omega))]
 have h2 : bC (bK ls) (0, []) = some ls.flatten := by
  have := kK (body := bK ls) (fun i => ((i : Int), (ls.take i).flatten)) ls.length (e := ls.flatten) (fun i hi => by
   have hx : ls[i]? = some (ls[i]'hi) := List.getElem?_eq_getElem _
   generalize ls[i]'hi = x at hx
   have hle := iS ls (i + 1)
   obtain ⟨hst, hst2⟩ := mL ls i x hx
   unfold bK
   simp only
   rw [j6 (by omega), cond_true, ic, hx, ah, b9 (by omega), ah, aO (by omega), ah, hst2]
   rfl) (by
   unfold bK
   simp only [List.take_length]
   rw [fZ (by omega), cond_false])
  simpa using this
 rw [gg h2]
theorem yR (n : Int) : w8 n = jo n := rfl
theorem t7 (p : Ps) (h : p.at_.length ≤ 1000000000) (h0 : p.h0.length ≤ 1000000000) (h1 : p.h1.length ≤ 1000000000) : eo p = some (iO p) := by
 unfold eo iO
 rw [b9 (by simp; omega), ah, b9 (by simp; omega), ah, b9 (by simp; omega), ah, b9 (by simp; omega), ah]
 simp
theorem oE {body : (Int × List UInt8) → Option ((Int × List UInt8) ⊕ List UInt8)} (l : List Int) (hl : l.length ≤ 4294967295)
  (hb : ∀ s, body s = (bif (decide (s.1 < (l.length : Int))) then (ob (idx l s.1) fun x => ob (app s.2 [(w8 x)]) fun y => ob (arI .i64 (s.1 + 1)) fun z => some (.inl (z, y))) else some (.inr s.2))) : bC body (0, []) = some (l.map jo) :=
 m8 l jo (fun i x acc hx hacc => by
  have hi := (List.getElem?_eq_some_iff.1 hx).1
  rw [hb]
  simp only
  rw [j6 (by omega), cond_true, ic, hx, ah, b9 (by simp; omega), ah, aO (by omega), ah]; rfl) (fun acc => by
  rw [hb]; simp only
  rw [fZ (by omega), cond_false])
theorem vO (p : Ps) (h : p.at_.length ≤ 1000000000) (h0 : p.h0.length ≤ 1000000000) (h1 : p.h1.length ≤ 1000000000) : ft p = some (nu p) := by
 unfold ft
 rw [t7 p h h0 h1, ah, oE (body := fy (iO p)) (iO p) (by simp [iO]; omega) (fun s => rfl), ah]; rfl
theorem yG (p : Ps) (h : p.at_.length ≤ 1000000000) (h0 : p.h0.length ≤ 1000000000) (h1 : p.h1.length ≤ 1000000000) : jD p = some (nu p) := by
 unfold jD
 rw [pF _ (by simp; omega) (by simp), ah]
 have : [p.at_, p.h0, p.h1, [p.rights, p.side]].flatten = iO p := by simp [iO]
 rw [this, oE (body := iN (iO p)) (iO p) (by simp [iO]; omega) (fun s => rfl), ah]; rfl
theorem rF (l : List Int) (h : l.length ≤ 4294967295) : fD l = some (l.map jo) := by
 unfold fD
 rw [oE (body := f7 l) l h (fun s => rfl), ah]
structure PsB (p : Ps) : Prop where
 a : p.at_.length ≤ 1000000000
 b : p.h0.length ≤ 1000000000
 c : p.h1.length ≤ 1000000000
theorem rN (p : Ps) : (nu p).length = p.at_.length + p.h0.length + p.h1.length + 2 := by simp [nu, iO]; omega
theorem pY (p : Ps) (r : Rs) (h : PsB p) : fo p r = some (dO p r) := by
 have ha := h.a
 have hb := h.b
 have hc := h.c
 unfold fo
 have hk := rN p
 rw [rF _ (by simp), ah, yG p h.a h.b h.c, ah, qu (by omega), ah, ma (by omega), ah, ma (by omega), ah, ma (by omega), ah, rF _ (by simp), ah, oq _ (by simp; omega) (by simp), ah]
 simp [dO, ux]
theorem o5 (p : Ps) (r : Rs) (h : PsB p) : d9 p r = some (dO p r) := by
 have ha := h.a
 have hb := h.b
 have hc := h.c
 unfold d9
 have hk := rN p
 rw [vO p h.a h.b h.c, ah, qu (by omega), ah, b9 (by simp; omega), ah, b9 (by simp; omega), ah]
 have hloop : bC (cL r) (3, [w8 p.at_.length, w8 p.h0.length, w8 p.h1.length] ++ nu p ++ [w8 r.out]) = some (dO p r) := by
  generalize hL : [w8 p.at_.length, w8 p.h0.length, w8 p.h1.length] ++ nu p ++ [w8 r.out] = L
  have hLl : L.length ≤ 4000000000 := by rw [← hL]; simp; omega
  have step : ∀ (i : Int) (l : List UInt8), 0 ≤ i → i ≤ 3 → l.length ≤ 4000000010 → cL r (i, l) = some (.inl (i - 1, l ++ [w8 (r.n / 2 ^ (8 * i).toNat)])) := fun i l h0 h3 hl => by
   unfold cL
   simp only
   rw [Cr (by omega), cond_true, aO (by omega), ah, ma (by omega), ah, b9 (by simp; omega), ah, aO (by omega), ah]
  refine ia (step 3 _ (by omega) (by omega) (by omega)) (ia (step _ _ (by omega) (by omega) (by simp; omega)) (ia (step _ _ (by omega) (by omega) (by simp; omega)) (ia (step _ _ (by omega) (by omega) (by simp; omega)) (mi ?_))))
  unfold cL
  simp only
  rw [xb (by omega), cond_false, ← hL]
  simp [dO, ux, yR]
 rw [hloop, ah]
end
section
open Go.RowKit
set_option maxRecDepth 100000
structure BrdOk (b : Brd) : Prop where
 c1 : 1 ≤ b.cells
 c9 : b.cells ≤ 9
 nl : b.next.length = 8
 row : ∀ l ∈ b.next, (l.length : Int) = b.cells
 tl : b.turn.length = 8
theorem okT {α : Type} (v : α) : Ok (some v) fun _ => True := ⟨v, rfl, trivial⟩
theorem pV {a b : Int} (h : 0 < b) : Ok (cH a b) fun _ => True := ⟨_, if_neg (by omega), trivial⟩
theorem xW {w h : Int} (h1 : 1 ≤ w ∧ w ≤ 3) (h2 : 1 ≤ h ∧ h ≤ 3) : Ok (eU w h) fun r => BrdOk r.1 := by
 obtain ⟨n, hn, hn1, hn9⟩ : ∃ n : Int, w * h = n ∧ 1 ≤ n ∧ n ≤ 9 := by
  obtain rfl | rfl | rfl : w = 1 ∨ w = 2 ∨ w = 3 := by omega
  all_goals exact ⟨_, rfl, by omega, by omega⟩
 unfold eU
 rw [fZ (by omega), cond_false, fZ (by omega), cond_false, fZ (by omega), cond_false, fZ (by omega), cond_false, hn, aO (by omega), ah, fZ (by omega), cond_false, ah]
 have hin : ∀ (d : Nat) (x : List (List Int)) (y : List Int), d < 8 → Ok (bC (dZ w h ((d : Int), x, y)) (0, [])) fun l => (l.length : Int) = n := by
  intro d x y hd
  refine Ok.loop (fun s : Int × List Int => ∃ i : Nat, s.1 = i ∧ (i : Int) ≤ n ∧ s.2.length = i) (fun s => n.toNat - s.1.toNat) ⟨0, rfl, by omega, rfl⟩ ?_
  rintro ⟨_, acc⟩ ⟨i, rfl, hi, ha⟩
  unfold dZ
  simp only at ha ⊢
  rw [hn, aO (by omega), ah]
  refine Ok.cond (fun c1 => ?_) fun c1 => Ok.ret (by simp only [decide_eq_false_iff_not] at c1; omega)
  simp only [decide_eq_true_eq] at c1
  have hv : ∀ l : List Int, l.length = 8 → (∀ x ∈ l, -1 ≤ x ∧ x ≤ 1) → ∃ v, idx l (d : Int) = some v ∧ -1 ≤ v ∧ v ≤ 1 := fun l hl hx => ⟨_, dq (by omega) (by omega), hx _ (List.getElem_mem _)⟩
  obtain ⟨a, ha1, ha2⟩ := hv [0, 1, 1, 1, 0, (-1), (-1), (-1)] rfl (by decide)
  obtain ⟨b, hb1, hb2⟩ := hv [(-1), (-1), 0, 1, 1, 1, 0, (-1)] rfl (by decide)
  have q1 := Int.emod_nonneg (i : Int) (b := w) (by omega)
  have q2 := Int.emod_lt_of_pos (i : Int) (b := w) (by omega)
  have q3 : 0 ≤ (i : Int) / w := Int.ediv_nonneg (by omega) (by omega)
  have q4 : (i : Int) / w ≤ i := Int.ediv_le_self _ (by omega)
  rw [br (by omega) (by omega), ah, ha1, ah, aO (by omega), ah, rk (by omega) (by omega), ah, hb1, ah, aO (by omega), ah]
  refine Ok.bind (P := fun _ => True) ?_ fun v _ => ?_
  ·refine Ok.cond (fun _ => Ok.cond (fun _ => Ok.cond (fun k1 => Ok.cond (fun k2 => ?_) fun _ => okT _) fun _ => okT _) fun _ => okT _) fun _ => okT _
   simp only [decide_eq_true_eq] at k1 k2
   generalize (i : Int) / w + b = z at k1 k2 ⊢
   have : 0 ≤ z * w ∧ z * w ≤ 27 := by
    obtain rfl | rfl | rfl : w = 1 ∨ w = 2 ∨ w = 3 := by omega
    all_goals omega
   rw [aO (by omega), ah, aO (by omega), ah]
   exact okT _
  ·rw [b9 (by simp; omega), ah, aO (by omega), ah]
   exact Ok.ret ⟨⟨i + 1, by simp, by omega, by simp [ha]⟩, by simp only; omega⟩
 refine Ok.bind (P := fun r : List (List Int) × List Int => r.1.length = 8 ∧ r.2.length = 8 ∧ ∀ l ∈ r.1, (l.length : Int) = n) ?_ fun r hr => Ok.ret ⟨hn1, hn9, hr.1, hr.2.2, hr.2.1⟩
 refine Ok.loop (fun s : Int × List (List Int) × List Int => ∃ i : Nat, s.1 = i ∧ i ≤ 8 ∧ s.2.1.length = i ∧ s.2.2.length = i ∧ ∀ l ∈ s.2.1, (l.length : Int) = n) (fun s => 8 - s.1.toNat) ⟨0, rfl, by omega, rfl, rfl, fun _ h => by cases h⟩ ?_
 rintro ⟨_, x, y⟩ ⟨i, rfl, hi, hx, hy, hl⟩
 unfold fb
 simp only at hx hy hl ⊢
 refine Ok.cond (fun c1 => ?_) fun c1 => Ok.ret (by simp only [decide_eq_false_iff_not] at c1; simp only; exact ⟨by omega, by omega, hl⟩)
 simp only [decide_eq_true_eq] at c1
 refine Ok.bind (P := fun s : List (List Int) × List Int => s.1.length = i + 1 ∧ s.2.length = i + 1 ∧ ∀ l ∈ s.1, (l.length : Int) = n) ?_ fun s hs => ?_
 ·refine Ok.bind (hin i x y (by omega)) fun v hv => ?_
  rw [b9 (by simp; omega), ah, aO (by omega), ah, br (by omega) (by omega), ah, b9 (by simp; omega), ah]
  refine Ok.ret ⟨by simp [hx], by simp [hy], fun l hl' => ?_⟩
  rcases List.mem_append.1 hl' with h | h
  ·exact hl l h
  ·rw [List.mem_singleton.1 h]; exact hv
 ·rw [aO (by omega), ah]
  exact Ok.ret ⟨⟨i + 1, by simp, by omega, hs.1, hs.2.1, hs.2.2⟩, by simp only; omega⟩
theorem ua {b : Brd} {c : Int} (hb : BrdOk b) (hc0 : 0 ≤ c) (hc : c < b.cells) : Ok (ee b c) fun r => BrdOk r.1 := by
 obtain ⟨n, next, turn⟩ := b
 have h1 := hb.c1
 have h9 := hb.c9
 have hnl := hb.nl
 have hrow := hb.row
 have htl := hb.tl
 simp only at h1 h9 hnl hrow htl hc
 unfold ee
 simp only
 rw [fZ (by omega), cond_false, xb (by omega), cond_false, b9 (by simp; omega), ah]
 have hin : ∀ (d : Nat) (x : List (List Int)), d < 8 → Ok (bC (dw ⟨n, next, turn⟩ c ((d : Int), x)) (0, [])) fun l => (l.length : Int) = n := by
  intro d x hd
  refine Ok.loop (fun s : Int × List Int => ∃ i : Nat, s.1 = i ∧ (i : Int) ≤ n ∧ s.2.length = i) (fun s => n.toNat - s.1.toNat) ⟨0, rfl, by omega, rfl⟩ ?_
  rintro ⟨_, acc⟩ ⟨i, rfl, hi, ha⟩
  unfold dw
  simp only at ha ⊢
  refine Ok.cond (fun c1 => ?_) fun c1 => Ok.ret (by simp only [decide_eq_false_iff_not] at c1; omega)
  simp only [decide_eq_true_eq] at c1
  have hr := hrow (next[d]) (List.getElem_mem _)
  rw [dq (by omega) (by omega), ah]
  refine eF (dq (by omega) (by show (i : Int) < (next[d].length : Int); omega)) ?_
  refine Ok.bind (P := fun _ => True) (Ok.cond (fun _ => okT _) fun _ => Ok.cond (fun _ => okT _) fun _ => okT _) fun v _ => ?_
  rw [b9 (by simp; omega), ah, aO (by omega), ah]
  exact Ok.ret ⟨⟨i + 1, by simp, by omega, by simp [ha]⟩, by simp only; omega⟩
 refine Ok.bind (P := fun r : List (List Int) => r.length = 8 ∧ ∀ l ∈ r, (l.length : Int) = n) ?_ fun r hr => Ok.ret ⟨h1, h9, hr.1, hr.2, by simpa using htl⟩
 refine Ok.loop (fun s : Int × List (List Int) => ∃ i : Nat, s.1 = i ∧ i ≤ 8 ∧ s.2.length = i ∧ ∀ l ∈ s.2, (l.length : Int) = n) (fun s => 8 - s.1.toNat) ⟨0, rfl, by omega, rfl, fun _ h => by cases h⟩ ?_
 rintro ⟨_, x⟩ ⟨i, rfl, hi, hx, hl⟩
 unfold eD
 simp only at hx hl ⊢
 refine Ok.cond (fun c1 => ?_) fun c1 => Ok.ret (by simp only [decide_eq_false_iff_not] at c1; exact ⟨by omega, hl⟩)
 simp only [decide_eq_true_eq] at c1
 refine Ok.bind (P := fun s : List (List Int) => s.length = i + 1 ∧ ∀ l ∈ s, (l.length : Int) = n) ?_ fun s hs => ?_
 ·refine Ok.bind (hin i x (by omega)) fun v hv => ?_
  rw [b9 (by simp; omega), ah]
  refine Ok.ret ⟨by simp [hx], fun l hl' => ?_⟩
  rcases List.mem_append.1 hl' with h | h
  ·exact hl l h
  ·rw [List.mem_singleton.1 h]; exact hv
 ·rw [aO (by omega), ah]
  exact Ok.ret ⟨⟨i + 1, by simp, by omega, hs.1, hs.2⟩, by simp only; omega⟩
theorem wv (a b c : UInt8) : Ok (eY a b c) BrdOk := by
 have ha := a.toNat_lt
 have hb := b.toNat_lt
 have hc := c.toNat_lt
 unfold eY
 rw [br (by omega) (by omega), ah, aO (by omega), ah, aO (by omega), ah, br (by omega) (by omega), ah, aO (by omega), ah, aO (by omega), ah]
 refine Ok.bind (xW (by omega) (by omega)) fun r hr => ?_
 refine Ok.bind (P := fun v : Int × List (List Int) × List Int => BrdOk ⟨v.1, v.2.1, v.2.2⟩) (Ok.cond (fun _ => ?_) fun _ => Ok.ret hr) fun v hv => Ok.ret hv
 have := hr.c1
 rw [br (by omega) (by omega), ah]
 exact Ok.bind (ua hr (Int.emod_nonneg _ (by omega)) (Int.emod_lt_of_pos _ (by omega))) fun v hv => Ok.ret hv
theorem pz (l : List UInt8) {i : Int} (hi : 0 ≤ i) : Ok (cW l i) fun v => 0 ≤ v ∧ v ≤ 255 := by
 unfold cW
 refine Ok.cond (fun c => ?_) fun _ => Ok.ret (by omega)
 simp only [decide_eq_true_eq] at c
 rw [dq hi c, ah]
 have := (l[i.toNat]'(by omega)).toNat_lt
 exact Ok.ret (by omega)
theorem y7 (l : List UInt8) : Ok (fq l) fun r => r.length ≤ 6 := by
 unfold fq
 refine Ok.bind (pz l (by omega)) fun x1 g1 => ?_
 rw [br (by omega) (by omega), ah]
 refine Ok.bind (pz l (by omega)) fun x3 g3 => ?_
 rw [br (by omega) (by omega), ah]
 refine Ok.bind (pz l (by omega)) fun x5 g5 => ?_
 rw [br (by omega) (by omega), ah]
 refine Ok.bind (pz l (by omega)) fun x7 g7 => ?_
 rw [br (by omega) (by omega), ah, aO (by omega), ah, br (by omega) (by omega), ah]
 refine Ok.bind (pz l (by omega)) fun x11 g11 => ?_
 have key : ∀ t : List (List Stp), t.length = 16 → (∀ r ∈ t, r.length ≤ 6) → Ok (ob (cH x11 (t.length : Int)) fun x12 => ob (idx t x12) fun x13 => some x13) fun r => r.length ≤ 6 := by
  intro t ht hr
  have ht' : ((t.length : Nat) : Int) = 16 := by omega
  rw [ht', br (by omega) (by omega), ah, dq (by omega) (by omega), ah]
  exact Ok.ret (hr _ (List.getElem_mem _))
 refine key _ rfl ?_
 intro r hr
 simp only [List.mem_cons, List.not_mem_nil, or_false] at hr
 rcases hr with rfl | rfl | rfl | rfl | rfl | rfl | rfl | rfl | rfl | rfl | rfl | rfl | rfl | rfl | rfl | rfl <;> exact Nat.le_of_ble_eq_true rfl
theorem zk {a : List Stp} {d k r : Int} (ha : a.length ≤ 6) (hd : 0 < d) (hk : 0 < k) (hr : 0 ≤ r) : Ok (fu a d k r) fun _ => True := by
 unfold fu
 refine Ok.bind (P := fun _ => True) ?_ fun v _ => Ok.cond (fun _ => okT _) fun _ => okT _
 refine Ok.loop (fun s : Int × List Stp => ∃ i : Nat, s.1 = i ∧ i ≤ a.length ∧ s.2.length ≤ i) (fun s => a.length - s.1.toNat) ⟨0, rfl, by omega, by simp⟩ ?_
 rintro ⟨_, acc⟩ ⟨i, rfl, hi, hl⟩
 unfold fw
 simp only at hl ⊢
 refine Ok.cond (fun c1 => ?_) fun _ => Ok.ret trivial
 simp only [decide_eq_true_eq] at c1
 refine Ok.bind (P := fun v : List Stp => v.length ≤ i + 1) ?_ fun v hv => ?_
 ·rw [dq (by omega) (by omega), ah]
  generalize a[(i : Int).toNat]'(by omega) = x
  have okL : ∀ z : Int, Ok (some (.inl z : Int ⊕ List Stp)) fun o => ∀ e, o = .inr e → e.length ≤ i := fun z => ⟨_, rfl, fun e h => by cases h⟩
  refine Ok.bind (P := fun o : Int ⊕ List Stp => ∀ e, o = .inr e → e.length ≤ i) ?_ fun o ho => ?_
  ·refine Ok.bind (P := fun _ => True) (Ok.cond (fun _ => okT _) fun _ => Ok.cond (fun _ => okT _) fun _ => okT _) fun _ _ => ?_
   refine Ok.cond (fun _ => Ok.bind (pV hd) fun _ _ => okL _) fun _ => Ok.cond (fun _ => Ok.bind (pV hk) fun _ _ => okL _) fun _ => ?_
   refine Ok.bind (P := fun _ => True) (Ok.cond (fun _ => okT _) fun _ => okT _) fun _ _ => ?_
   refine Ok.cond (fun _ => Ok.cond (fun _ => Ok.ret fun e h => by cases h; exact hl) fun c => ?_) fun _ => okL _
   simp only [beq_eq_false_iff_ne, ne_eq] at c
   exact Ok.bind (pV (by omega)) fun _ _ => okL _
  ·cases o with
   | inl v =>
    show Ok (ob (app acc [_]) _) _
    rw [b9 (by simp; omega), ah]
    exact Ok.ret (by simp; omega)
   | inr e => exact Ok.ret (by have := ho e rfl; omega)
 ·rw [aO (by omega), ah]
  exact Ok.ret ⟨⟨i + 1, by simp, by omega, hv⟩, by simp only; omega⟩
theorem tt (n : UInt8) {d k r : Int} (hd : 0 < d) (hk : 0 < k) (hr : 0 ≤ r) : Ok (dU n d k r) fun _ => True := by
 have hn := n.toNat_lt
 unfold dU
 rw [l8 (by omega) (by omega), ah, ah, br (by omega) (by omega), ah, vj (by omega), ah, l8 (by omega) (by omega), ah]
 have hu : ∀ z : Int, 0 ≤ z ∧ z ≤ 255 → ∃ u, oh z = some u := fun z hz => ⟨_, if_pos hz⟩
 obtain ⟨u1, e1⟩ := hu ((n.toNat : Int) / 16) (by omega)
 obtain ⟨u2, e2⟩ := hu ((n.toNat : Int) / 16 + (n.toNat : Int) % 5) (by omega)
 obtain ⟨u3, e3⟩ := hu ((n.toNat : Int) / 3) (by omega)
 rw [e1, ah, e2, ah, e3, ah]
 exact Ok.bind (y7 _) fun x9 h9 => Ok.bind (zk h9 hd hk hr) fun _ _ => okT _
end
section
open Go.RowKit
set_option maxRecDepth 100000
structure GmFine (g : Gm) : Prop where
 board : BrdOk g.board
 k1 : 1 ≤ g.kinds.length
 k2 : g.kinds.length ≤ 2
 r0 : 0 ≤ g.rights
 r2 : g.rights ≤ 2
theorem AL (x : GRaw) : Ok (e7 x) GmFine := by
 unfold e7
 refine Ok.bind (wv x.w x.h x.cut) fun b hB => ?_
 have hnl := hB.nl
 have hc1 := hB.c1
 have h0 := x.f0.toNat_lt
 have h1 := x.f1.toNat_lt
 have h3 := x.f3.toNat_lt
 have h4 := x.f4.toNat_lt
 rw [br (by omega) (by omega), ah, br (by omega) (by omega), ah]
 obtain ⟨r, hr, hr0, hr2⟩ : ∃ r : Int, (x.f0.toNat : Int) % 3 = r ∧ 0 ≤ r ∧ r ≤ 2 := ⟨_, rfl, by omega, by omega⟩
 rw [hr]
 refine Ok.bind (P := fun v => v = 1 ∨ v = 2) (Ok.cond (fun _ => Ok.ret (.inr rfl)) fun _ => Ok.ret (.inl rfl)) fun kn hkn => ?_
 have hk0 : 0 < kn := by omega
 have hl0 : Ok (bC (eg x b r kn) (0, [])) fun _ => True := by
  refine Ok.loop (fun s : Int × List (List Stp) => ∃ i : Nat, s.1 = i ∧ i ≤ 4 ∧ s.2.length = i) (fun s : Int × List (List Stp) => 4 - s.1.toNat) ⟨0, rfl, by omega, rfl⟩ ?_
  rintro ⟨_, acc⟩ ⟨i, rfl, hi, ha⟩
  unfold eg
  simp only at ha ⊢
  refine Ok.cond (fun c1 => Ok.cond (fun c2 => ?_) fun _ => Ok.ret trivial) fun _ => Ok.ret trivial
  simp only [decide_eq_true_eq] at c1 c2
  rw [dq (by omega) (by omega), ah]
  refine Ok.bind (tt _ (by omega) hk0 hr0) fun _ _ => ?_
  rw [b9 (by simp; omega), ah, aO (by omega), ah]
  exact Ok.ret ⟨⟨i + 1, by simp, by omega, by simp [ha]⟩, by simp only; omega⟩
 have hl1 : Ok (bC (dV x b r kn) (0, [])) fun _ => True := by
  refine Ok.loop (fun s : Int × List (List Stp) => ∃ i : Nat, s.1 = i ∧ i ≤ 4 ∧ s.2.length = i) (fun s : Int × List (List Stp) => 4 - s.1.toNat) ⟨0, rfl, by omega, rfl⟩ ?_
  rintro ⟨_, acc⟩ ⟨i, rfl, hi, ha⟩
  unfold dV
  simp only at ha ⊢
  refine Ok.cond (fun c1 => Ok.cond (fun c2 => ?_) fun _ => Ok.ret trivial) fun _ => Ok.ret trivial
  simp only [decide_eq_true_eq] at c1 c2
  rw [dq (by omega) (by omega), ah]
  refine Ok.bind (tt _ (by omega) hk0 hr0) fun _ _ => ?_
  rw [b9 (by simp; omega), ah, aO (by omega), ah]
  exact Ok.ret ⟨⟨i + 1, by simp, by omega, by simp [ha]⟩, by simp only; omega⟩
 have hl3 : Ok (bC (dS x b kn) (0, [])) fun _ => True := by
  refine Ok.loop (fun s : Int × List Cls => ∃ i : Nat, s.1 = i ∧ i ≤ 3 ∧ s.2.length = i) (fun s : Int × List Cls => 3 - s.1.toNat) ⟨0, rfl, by omega, rfl⟩ ?_
  rintro ⟨_, acc⟩ ⟨i, rfl, hi, ha⟩
  unfold dS
  simp only at ha ⊢
  refine Ok.cond (fun c1 => Ok.cond (fun c2 => ?_) fun _ => Ok.ret trivial) fun _ => Ok.ret trivial
  simp only [decide_eq_true_eq] at c1 c2
  obtain ⟨e, he⟩ : ∃ e, idx x.c (i : Int) = some e := ⟨_, dq (by omega) (by omega)⟩
  obtain ⟨e1, e2, e3⟩ := e
  have g1 := e1.toNat_lt
  have g2 := e2.toNat_lt
  have g3 := e3.toNat_lt
  simp only [he, ah]
  rw [br (by omega) (by omega), ah, aO (by omega), ah, l8 (by omega) (by omega), ah, aO (by omega), ah, br (by omega) (by omega), ah, aO (by omega), ah]
  refine Ok.bind (P := fun _ => True) (Ok.cond (fun _ => ?_) fun _ => Ok.ret trivial) fun _ _ => Ok.bind (P := fun _ => True) (Ok.cond (fun _ => ?_) fun _ => Ok.ret trivial) fun _ _ => Ok.bind (P := fun _ => True) (Ok.cond (fun _ => ?_) fun _ => Ok.ret trivial) fun _ _ => ?_
  ·rw [br (by omega) (by omega), ah]; exact Ok.ret trivial
  ·rw [br (by omega) (by omega), ah]; exact Ok.ret trivial
  ·rw [br (by omega) (by omega), ah]; exact Ok.ret trivial
  ·rw [b9 (by simp; omega), ah, aO (by omega), ah]
   exact Ok.ret ⟨⟨i + 1, by simp, by omega, by simp [ha]⟩, by simp only; omega⟩
 refine Ok.bind (P := fun l : List Knd => 1 ≤ l.length ∧ l.length ≤ 2) ?_ fun ks hks => ?_
 ·rw [j6 hk0, cond_true]
  refine Ok.bind (P := fun l : List Knd => l.length = 1) ?_ fun l hl => ?_
  ·rw [show idx [([97] : List UInt8), [98, 101, 101]] 0 = some [97] from rfl, ah, ti (by omega), ah]
   refine Ok.bind hl0 fun ps _ => ?_
   rw [b9 (by simp), ah]
   exact Ok.ret rfl
  ·refine Ok.cond (fun c1 => ?_) fun _ => Ok.ret ⟨by omega, by omega⟩
   refine Ok.bind (P := fun l : List Knd => l.length = 2) ?_ fun l2 hl2 => ?_
   ·rw [show idx [([97] : List UInt8), [98, 101, 101]] 1 = some [98, 101, 101] from rfl, ah, ti (by omega), ah]
    refine Ok.bind hl1 fun ps _ => ?_
    rw [b9 (by simp; omega), ah]
    exact Ok.ret (by simp; omega)
   ·rw [fZ (by omega), cond_false]
    exact Ok.ret ⟨by omega, by omega⟩
 ·refine Ok.bind (P := fun _ => True) ?_ fun _ _ => Ok.bind (P := fun _ => True) ?_ fun _ _ => Ok.bind hl3 fun _ _ => Ok.ret ⟨hB, hks.1, hks.2, hr0, hr2⟩
  ·rw [br (by omega) (by omega), ah]
   refine Ok.cond (fun _ => ?_) fun _ => Ok.ret trivial
   rw [l8 (by omega) (by omega), ah, aO (by omega), ah, br (by omega) (by omega), ah, aO (by omega), ah]
   exact Ok.ret trivial
  ·rw [br (by omega) (by omega), ah]
   refine Ok.cond (fun _ => ?_) fun _ => Ok.ret trivial
   rw [l8 (by omega) (by omega), ah, aO (by omega), ah, br (by omega) (by omega), ah, aO (by omega), ah]
   exact Ok.ret trivial
structure PsFine (g : Gm) (p : Ps) : Prop where
 la : (p.at_.length : Int) = g.board.cells
 l0 : p.h0.length = g.kinds.length
 l1 : p.h1.length = g.kinds.length
 a : ∀ x ∈ p.at_, 0 ≤ x ∧ x ≤ 2 * (g.kinds.length : Int)
 b : ∀ x ∈ p.h0, 0 ≤ x ∧ x ≤ 8
 c : ∀ x ∈ p.h1, 0 ≤ x ∧ x ≤ 8
 r : 0 ≤ p.rights ∧ p.rights < 2 ^ g.rights.toNat
 s : p.side = 0 ∨ p.side = 1
theorem PsFine.ok {g : Gm} {p : Ps} (hg : GmFine g) (h : PsFine g p) : PsOk p := by
 have h1 := hg.board.c9
 have h2 := hg.k2
 have h3 := h.la
 have h4 := h.l0
 have h5 := h.l1
 have hr := hg.r2
 have hr0 := hg.r0
 refine ⟨by omega, by omega, by omega, fun x hx => ?_, fun x hx => ?_, fun x hx => ?_, ?_, ?_⟩
 ·have := h.a x hx; exact ⟨this.1, by omega⟩
 ·have := h.b x hx; exact ⟨this.1, by omega⟩
 ·have := h.c x hx; exact ⟨this.1, by omega⟩
 ·have := h.r
  have h4 : (2 : Int) ^ g.rights.toNat ≤ 4 := by
   have : g.rights.toNat = 0 ∨ g.rights.toNat = 1 ∨ g.rights.toNat = 2 := by omega
   rcases this with h | h | h <;> rw [h] <;> decide
  exact ⟨h.r.1, by have := h.r.2; omega⟩
 ·rcases h.s with e | e <;> rw [e] <;> exact ⟨by omega, by omega⟩
theorem qE (g : Gm) (hs : List UInt8) (o : Nat) (hl : hs.length = 4) (ho : o ≤ 2) (hg : GmFine g) {body : (Int × List Int) → Option ((Int × List Int) ⊕ List Int)}
  (hb : ∀ s, body s = (bif (decide (s.1 < (g.kinds.length : Int))) then (bif (decide (s.1 < 2)) then (ob (ob (idx g.kinds s.1) fun x => bif x.keep then (ob (arI .i64 (o + s.1)) fun a => ob (idx hs a) fun b => ob (cH (b.toNat : Int) 3) fun c => ob (idx s.2 s.1) fun _ => ob (arI .i64 (o + s.1)) fun a2 => ob (idx hs a2) fun b2 =>
   bif (decide (250 < (b2.toNat : Int))) then (ob (idx (s.2.set (s.1 : Int).toNat c) s.1) fun _ => some ((s.2.set (s.1 : Int).toNat c).set (s.1 : Int).toNat 8)) else some (s.2.set (s.1 : Int).toNat c)) else some s.2) fun v => ob (arI .i64 (s.1 + 1)) fun z => some (.inl (z, v))) else some (.inr s.2)) else some (.inr s.2))) :
  Ok (bC body (0, List.replicate g.kinds.length 0)) fun l => l.length = g.kinds.length ∧ ∀ x ∈ l, 0 ≤ x ∧ x ≤ 8 := by
 have hk2 := hg.k2
 refine Ok.loop (fun s : Int × List Int => ∃ i : Nat, s.1 = i ∧ i ≤ 2 ∧ s.2.length = g.kinds.length ∧ ∀ x ∈ s.2, 0 ≤ x ∧ x ≤ 8) (fun s : Int × List Int => 2 - s.1.toNat) ⟨0, rfl, by omega, by simp, fun x hx => by rw [List.eq_of_mem_replicate hx]; omega⟩ ?_
 rintro ⟨_, l⟩ ⟨i, rfl, hi, h1, h2⟩
 rw [hb]
 simp only at h1 h2 ⊢
 refine Ok.cond (fun c1 => Ok.cond (fun c2 => ?_) fun _ => Ok.ret ⟨h1, h2⟩) fun _ => Ok.ret ⟨h1, h2⟩
 simp only [decide_eq_true_eq] at c1 c2
 refine Ok.bind (P := fun v : List Int => v.length = g.kinds.length ∧ ∀ x ∈ v, 0 ≤ x ∧ x ≤ 8) ?_ fun v hv => ?_
 ·rw [dq (by omega) (by omega), ah]
  refine Ok.cond (fun _ => ?_) fun _ => Ok.ret ⟨h1, h2⟩
  rw [aO (by omega), ah]
  obtain ⟨b, hb'⟩ : ∃ b, idx hs ((o : Int) + i) = some b := ⟨_, dq (by omega) (by omega)⟩
  have hbl := b.toNat_lt
  rw [hb', ah, br (by omega) (by omega), ah, dq (by omega) (by omega), ah, ah, hb', ah]
  have hset : ∀ (l : List Int) (y : Int), (∀ x ∈ l, 0 ≤ x ∧ x ≤ 8) → 0 ≤ y ∧ y ≤ 8 → ∀ x ∈ l.set i y, 0 ≤ x ∧ x ≤ 8 := fun l y hl hy x hx => by
   rcases List.mem_or_eq_of_mem_set hx with h | rfl
   ·exact hl x h
   ·exact hy
  have s1 := hset l ((b.toNat : Int) % 3) h2 (by omega)
  refine Ok.cond (fun _ => ?_) fun _ => Ok.ret ⟨by simpa using h1, by simpa using s1⟩
  rw [dq (by omega) (by simp; omega), ah]
  exact Ok.ret ⟨by simpa using h1, by simpa using hset _ 8 s1 (by omega)⟩
 ·rw [aO (by omega), ah]
  exact Ok.ret ⟨⟨i + 1, by simp, by omega, hv.1, hv.2⟩, by simp only; omega⟩
theorem Co (g : Gm) (y : PRaw) (hg : GmFine g) : Ok (eV g y) (PsFine g) := by
 unfold eV
 have hc1 := hg.board.c1
 have hc9 := hg.board.c9
 have hk1 := hg.k1
 have hk2 := hg.k2
 have hr0 := hg.r0
 have hr2 := hg.r2
 have hyr := y.rights.toNat_lt
 have hys := y.side.toNat_lt
 have hpow : (1 : Int) ≤ 2 ^ g.rights.toNat ∧ (2 : Int) ^ g.rights.toNat ≤ 4 := by
  have : g.rights.toNat = 0 ∨ g.rights.toNat = 1 ∨ g.rights.toNat = 2 := by omega
  rcases this with h | h | h <;> rw [h] <;> decide
 have hshl : rv .i64 1 g.rights = some (2 ^ g.rights.toNat) := by
  unfold rv
  have : min g.rights.toNat IntKind.i64.bits = g.rights.toNat := by show min _ 64 = _; omega
  rw [if_neg (by omega), this, Int.one_mul, cA _ (by omega)]
 rw [qM (by omega), ah, hshl, ah, br (by omega) (by omega), ah, br (by omega) (by omega), ah, aO (by omega), ah]
 refine Ok.bind (P := fun l : List Int => (l.length : Int) = g.board.cells ∧ ∀ x ∈ l, 0 ≤ x ∧ x ≤ 2 * (g.kinds.length : Int)) ?_ fun at_ hat => ?_
 ·refine Ok.loop (fun s : Int × List Int => ∃ i : Nat, s.1 = i ∧ i ≤ 6 ∧ (s.2.length : Int) = g.board.cells ∧ ∀ x ∈ s.2, 0 ≤ x ∧ x ≤ 2 * (g.kinds.length : Int)) (fun s : Int × List Int => 6 - s.1.toNat) ⟨0, rfl, by omega, by simp; omega, fun x hx => by rw [List.eq_of_mem_replicate hx]; omega⟩ ?_
  rintro ⟨_, l⟩ ⟨i, rfl, hi, h1, h2⟩
  unfold fc
  simp only at h1 h2 ⊢
  refine Ok.cond (fun c1 => ?_) fun _ => Ok.ret ⟨h1, h2⟩
  simp only [decide_eq_true_eq] at c1
  refine Ok.bind (P := fun v : List Int => (v.length : Int) = g.board.cells ∧ ∀ x ∈ v, 0 ≤ x ∧ x ≤ 2 * (g.kinds.length : Int)) ?_ fun v hv => ?_
  ·obtain ⟨a, ha⟩ : ∃ a, idx [y.c0, y.c1, y.c2, y.c3, y.c4, y.c5] (i : Int) = some a := ⟨_, dq (by omega) (by simp only [List.length_cons, List.length_nil]; omega)⟩
   have hal := a.toNat_lt
   rw [ha, ah, aO (by omega), ah, br (by omega) (by omega), ah]
   refine Ok.cond (fun c2 => ?_) fun _ => Ok.ret ⟨h1, h2⟩
   simp only [decide_eq_true_eq] at c2
   rw [j6 (by omega), cond_true]
   obtain ⟨k, hk⟩ : ∃ k, idx [y.k0, y.k1, y.k2, y.k3, y.k4, y.k5] (i : Int) = some k := ⟨_, dq (by omega) (by simp only [List.length_cons, List.length_nil]; omega)⟩
   have hkl := k.toNat_lt
   rw [hk, ah, br (by omega) (by omega), ah]
   obtain ⟨q, hq, hq0, hq1⟩ : ∃ q : Int, (k.toNat : Int) % (g.kinds.length : Int) = q ∧ 0 ≤ q ∧ q < (g.kinds.length : Int) := ⟨_, rfl, Int.emod_nonneg _ (by omega), Int.emod_lt_of_pos _ (by omega)⟩
   rw [hq]
   have hcm := Int.emod_nonneg (a.toNat : Int) (show g.board.cells + 1 ≠ 0 by omega)
   rw [aO (by omega), ah, aO (by omega), ah, br (by omega) (by omega), ah, aO (by omega), ah, dq (by omega) (by omega), ah]
   refine Ok.ret ⟨by simpa using h1, fun x hx => ?_⟩
   rcases List.mem_or_eq_of_mem_set hx with h | rfl
   ·exact h2 x h
   ·omega
  ·rw [aO (by omega), ah]
   exact Ok.ret ⟨⟨i + 1, by simp, by omega, hv.1, hv.2⟩, by simp only; omega⟩
 ·refine Ok.bind (P := fun v : List Int × List Int => (v.1.length = g.kinds.length ∧ ∀ x ∈ v.1, 0 ≤ x ∧ x ≤ 8) ∧ (v.2.length = g.kinds.length ∧ ∀ x ∈ v.2, 0 ≤ x ∧ x ≤ 8)) ?_ fun v hv => ?_
  ·rw [qM (by omega), Int.toNat_natCast]
   refine Ok.bind (P := fun v : List Int => v.length = g.kinds.length ∧ ∀ x ∈ v, 0 ≤ x ∧ x ≤ 8) ?_ fun v1 hv1 => Ok.bind (P := fun v : List Int => v.length = g.kinds.length ∧ ∀ x ∈ v, 0 ≤ x ∧ x ≤ 8) ?_ fun v2 hv2 => Ok.ret ⟨hv1, hv2⟩
   ·rw [ah]; exact qE g [y.h0, y.h1, y.h2, y.h3] 0 rfl (by omega) hg fun s => rfl
   ·rw [ah]; exact qE g [y.h0, y.h1, y.h2, y.h3] 2 rfl (by omega) hg fun s => rfl
  ·refine Ok.ret ⟨hat.1, hv.1.1, hv.2.1, hat.2, hv.1.2, hv.2.2, ⟨Int.emod_nonneg _ (by omega), Int.emod_lt_of_pos _ (by omega)⟩, ?_⟩
   simp only; omega
end
section
open Go.RowKit
set_option maxRecDepth 100000
open Classical
structure PsS (p : Ps) : Prop where
 a : p.at_.length ≤ 200000
 b : p.h0.length ≤ 200000
 c : p.h1.length ≤ 200000
theorem PsS.B {p : Ps} (h : PsS p) : PsB p := ⟨by have := h.a; omega, by have := h.b; omega, by have := h.c; omega⟩
theorem PsOk.S {p : Ps} (h : PsOk p) : PsS p := ⟨by have := h.la; omega, by have := h.l0; omega, by have := h.l1; omega⟩
theorem nX {p : Ps} (h : PsS p) (r : Rs) : (dO p r).length ≤ 700000 := by
 rw [uR]
 have := h.a
 have := h.b
 have := h.c
 simp [iO]; omega
def cN (l : List Ps) (v : List Rs) : List (List UInt8) := (l.zip v).map fun e => dO e.1 e.2
theorem iu (l : List Ps) (v : List Rs) : (cN l v).length = min l.length v.length := by simp [cN]
theorem xR {l : List Ps} {v : List Rs} {i : Nat} {e : Ps × Rs} (h : (l.zip v)[i]? = some e) : l[i]? = some e.1 ∧ v[i]? = some e.2 := by
 rw [List.getElem?_zip_eq_some] at h; exact h
theorem qC (l : List Ps) (v : List Rs) (hl : l.length ≤ 1000000) (hs : ∀ p ∈ l, PsS p) : fg l v = some (cN l v) := by
 unfold fg
 have := m8 (body := ek l v) (l.zip v) (fun e => dO e.1 e.2) (fun i e acc he hacc => by
  obtain ⟨h1, h2⟩ := xR he
  have hi := (List.getElem?_eq_some_iff.1 he).1
  rw [List.length_zip] at hi
  have hS := hs e.1 (List.mem_of_getElem? h1)
  unfold ek
  simp only
  rw [j6 (by omega), cond_true, ic, ic, h1, h2, ah, ah, pY _ _ hS.B, ah, b9 (by simp; omega), ah, aO (by omega), ah]; rfl) (fun acc => by
  unfold ek
  simp only [List.length_zip]
  rw [fZ (by omega), cond_false])
 rw [this, ah]; rfl
theorem mr {l : List Ps} {v : List Rs} (hl : l.length ≤ 1000000) (hs : ∀ p ∈ l, PsS p) : Fit (cN l v) := by
 refine ⟨by rw [iu]; omega, fun x hx => ?_⟩
 simp only [cN, List.mem_map] at hx
 obtain ⟨e, he, rfl⟩ := hx
 have := nX (hs e.1 (List.of_mem_zip he).1) e.2
 omega
theorem tA (l : List Ps) (v : List Rs) (hl : l.length ≤ 1000000) (hs : ∀ p ∈ l, PsS p) : fi l v = some (Sha.root (cN l v)) := by
 unfold fi
 rw [qC l v hl hs, ah, show jx (cN l v) = some (Sha.root (cN l v)) from if_pos (mr hl hs), ah, kq (Sha.root_len _), ah]
def r7 : Ans := ⟨0, 0, 0, ⟨[], [], [], 0, 0⟩, ⟨0, 0⟩, []⟩
noncomputable def gE (l : List Ps) (v : List Rs) (ver i : Int) : Ans × Int :=
 if h : l.length = v.length ∧ 0 ≤ i ∧ i < (l.length : Int) then (⟨ver, i, l.length, l[i.toNat]'(by omega), v[i.toNat]'(by omega), Sha.proof (cN l v) i.toNat⟩, 0) else (r7, 1)
theorem iI (l : List Ps) (v : List Rs) (ver i : Int) (hl : l.length ≤ 1000000) (hs : ∀ p ∈ l, PsS p) : cb l v ver i = some (gE l v ver i) := by
 refine Ok.get ?_
 unfold cb gE
 refine Ok.cond (fun c => Ok.ret ?_) fun c => ?_
 ·rw [dif_neg (fun h => by rw [h.1] at c; simp at c)]; rfl
 ·have hlv : l.length = v.length := by simp at c; omega
  have hlen := iu l v
  rw [qC l v hl hs, ah]
  by_cases hi : i < 0 ∨ (l.length : Int) ≤ i
  ·rw [show fJ (cN l v) i = some ([], 1) by unfold fJ; rw [if_pos (mr hl hs), if_pos (by omega)], ah, dif_neg (by omega)]
   exact Ok.ret rfl
  ·rw [show fJ (cN l v) i = some (Sha.proof (cN l v) i.toNat, 0) by unfold fJ; rw [if_pos (mr hl hs), if_neg (by omega)], ah, dif_pos (by omega)]
   simp only
   rw [tR rfl, cond_false, dq (by omega) (by omega), ah, dq (by omega) (by omega), ah]
   exact Ok.ret rfl
theorem qw {α : Type} {body : Int → Option (Int ⊕ (Unit ⊕ Int))} (l : List α) (g : α → Bool) (f : α → Option Bool) (hf : ∀ x ∈ l, f x = some (g x)) (hl : l.length ≤ 9223372036854775807)
  (hb : ∀ s, body s = (bif (decide (s < (l.length : Int))) then (ob (idx l s) fun x => ob (f x) fun y => bif y then some (.inr (.inr s)) else ob (arI .i64 (s + 1)) fun z => some (.inl z)) else some (.inr (.inl ())))) :
  Ok (ob (bC body 0) fun o => match o with | .inl _ => some (-1) | .inr e => some e) fun r => decide (0 ≤ r) = l.any g := by
 refine Ok.bind (P := fun o => match o with | .inl () => ∀ x ∈ l, g x = false | .inr r => 0 ≤ r ∧ l.any g = true) ?_ ?_
 ·refine Ok.loop (fun s : Int => ∃ i : Nat, s = i ∧ i ≤ l.length ∧ ∀ j x, j < i → l[j]? = some x → g x = false) (fun s : Int => l.length - s.toNat) ⟨0, rfl, by omega, fun j x h => by omega⟩ ?_
  rintro _ ⟨i, rfl, hi, hall⟩
  rw [hb]
  refine Ok.cond (fun c1 => ?_) fun c1 => Ok.ret ?_
  ·simp only [decide_eq_true_eq] at c1
   have e : l[i]? = some (l[i]'(by omega)) := List.getElem?_eq_getElem _
   generalize l[i]'(by omega) = x at e
   have hx := List.mem_of_getElem? e
   rw [ic, e, ah, hf x hx, ah]
   refine Ok.cond (fun c2 => Ok.ret ⟨by omega, List.any_eq_true.2 ⟨x, hx, c2⟩⟩) fun c2 => ?_
   rw [aO (by omega), ah]
   refine Ok.ret ⟨⟨i + 1, by omega, by omega, fun j y hj hy => ?_⟩, by omega⟩
   rcases Nat.lt_or_ge j i with h | h
   ·exact hall j y h hy
   ·obtain rfl : j = i := by omega
    rw [e] at hy; cases hy; exact c2
  ·simp only [decide_eq_false_iff_not] at c1
   intro x hx
   obtain ⟨j, hj⟩ := List.getElem?_of_mem hx
   exact hall j x (by have := (List.getElem?_eq_some_iff.1 hj).1; omega) hj
 ·rintro (⟨⟩ | r) h
  ·refine Ok.ret ?_
   have : l.any g = false := by rw [List.any_eq_false]; intro x hx; rw [h x hx]; simp
   rw [this]; rfl
  ·refine Ok.ret ?_
   rw [h.2]; exact decide_eq_true h.1
theorem sl (l : List Int) (F : FnV Tryd.prog HG (α := Int) (β := Bool) (fun x => [.v (.int .i64 x)]) (fun y => .v (.bool y))) (g : Int → Bool) (hf : ∀ x ∈ l, F.f x = some (g x)) (hl : l.length ≤ 9223372036854775807) : cD l F = some (l.any g) := by
 unfold cD dC
 obtain ⟨r, h1, h2⟩ := qw l g F.f hf hl (body := bW l F) (fun s => rfl)
 exact Ok.get (eF h1 (Ok.ret h2))
abbrev FnB := FnV Tryd.prog HG (α := Unit) (β := Bool) (fun _ => []) (fun y => .v (.bool y))
theorem sB (l : List FnB) (F : FnV Tryd.prog HG (α := FnB) (β := Bool) (fun x => [.fn x.g x.c]) (fun y => .v (.bool y))) (g : FnB → Bool) (hf : ∀ x ∈ l, F.f x = some (g x)) (hl : l.length ≤ 9223372036854775807) : bB l F = some (l.any g) := by
 unfold bB ck
 obtain ⟨r, h1, h2⟩ := qw l g F.f hf hl (body := bh l F) (fun s => rfl)
 exact Ok.get (eF h1 (Ok.ret h2))
theorem Ci (a b c : Int) : gy a b c = some (decide (b ≤ a) && decide (a ≤ c)) := by
 refine Ok.get ?_
 unfold gy
 exact Ok.cond (fun h => Ok.ret (by rw [h]; simp)) fun h => Ok.ret (by rw [h]; simp)
def u8B (n : Int) : Bool := decide (0 ≤ n) && decide (n ≤ 255)
theorem mX (l : List Int) (f : FnV Tryd.prog HG (α := Int) (β := Bool) (fun x => [.v (.int .i64 x)]) (fun y => .v (.bool y))) (hf : ∀ x, f.f x = some (u8B x)) : dQ l f = some (decide (l.length ≤ 255) && l.all u8B) := by
 refine Ok.get ?_
 unfold dQ
 refine Ok.cond (fun c => ?_) fun c => Ok.ret ?_
 ·simp only [decide_eq_true_eq] at c
  refine eF (sl l _ (fun x => !u8B x) (fun x _ => by show e9 x f = _; unfold e9; rw [hf, ah]) (by omega)) (Ok.ret ?_)
  have : decide (l.length ≤ 255) = true := decide_eq_true (by omega)
  rw [this]
  simp [List.all_eq_not_any_not]
 ·simp only [decide_eq_false_iff_not] at c
  have : decide (l.length ≤ 255) = false := decide_eq_false (by omega)
  rw [this]; simp
def jU (p : Ps) (r : Rs) : Bool := (decide (p.at_.length ≤ 255) && p.at_.all u8B) && ((decide (p.h0.length ≤ 255) && p.h0.all u8B) && ((decide (p.h1.length ≤ 255) && p.h1.all u8B) && (u8B p.rights && (u8B p.side && ((decide (1 ≤ r.out) && decide (r.out ≤ 3)) && (decide (0 ≤ r.n) && decide (r.n ≤ 2147483647)))))))
theorem lX {a b : Bool} {x : Option Bool} (h : a = true → Ok x (· = b)) : Ok (bif a then x else some false) (· = (a && b)) := by
 cases a with
 | false => exact Ok.ret rfl
 | true => simpa using h rfl
theorem wY (p : Ps) (r : Rs) : gb p r = some (jU p r) := by
 refine Ok.get ?_
 unfold gb jU
 have hin : ∀ a b, ∃ F : FnV Tryd.prog HG (α := Int) (β := Bool) (fun x => [.v (.int .i64 x)]) (fun y => .v (.bool y)), gF a b = some F ∧ ∀ x, F.f x = some (decide (a ≤ x) && decide (x ≤ b)) := fun a b => ⟨_, rfl, fun x => Ci x a b⟩
 obtain ⟨F, h1, h2⟩ := hin 0 255
 obtain ⟨F2, h3, h4⟩ := hin 1 3
 obtain ⟨F3, h5, h6⟩ := hin 0 2147483647
 rw [h1, ah, mX _ F h2, ah]
 refine lX fun _ => ?_
 rw [mX _ F h2, ah]
 refine lX fun _ => ?_
 rw [mX _ F h2, ah]
 refine lX fun _ => ?_
 rw [h2, ah]
 refine lX fun _ => ?_
 rw [h2, ah]
 refine lX fun _ => ?_
 rw [h3, ah, h4, ah]
 refine lX fun _ => ?_
 rw [h5, ah, h6, ah]
 exact Ok.ret rfl
theorem vv {l : List Int} : l.all u8B = true ↔ ∀ x ∈ l, u8R x := by simp [List.all_eq_true, u8B, u8R]
theorem rS (p : Ps) (r : Rs) : jU p r = true ↔ PsOk p ∧ pE r := by
 unfold jU
 simp only [Bool.and_eq_true, decide_eq_true_eq, vv]
 constructor
 ·rintro ⟨⟨a1, a2⟩, ⟨b1, b2⟩, ⟨c1, c2⟩, d, e, f, g⟩
  simp only [u8B, Bool.and_eq_true, decide_eq_true_eq] at d e
  exact ⟨⟨a1, b1, c1, a2, b2, c2, d, e⟩, f, g⟩
 ·rintro ⟨h, f, g⟩
  refine ⟨⟨h.la, h.a⟩, ⟨h.l0, h.b⟩, ⟨h.l1, h.c⟩, ?_, ?_, f, g⟩
  ·simp only [u8B, Bool.and_eq_true, decide_eq_true_eq]; exact h.r
  ·simp only [u8B, Bool.and_eq_true, decide_eq_true_eq]; exact h.s
end
section
open Go.RowKit
set_option maxRecDepth 100000
structure CkOk (root : List UInt8) (a : Ans) : Prop where
 root : root.length = 32
 pos : PsS a.pos
 proof : ∀ s ∈ a.proof, s.length = 32
 len : a.proof.length ≤ 900000
 c1 : -9223372036854775808 ≤ a.count
 c2 : a.count ≤ 4294967296
 i : -9223372036854775808 ≤ a.index ∧ a.index ≤ 9223372036854775807
def fr (root : List UInt8) (ver : Int) (a : Ans) : Bool := (a.version == ver) && (jU a.pos a.entry && Sha.check root a.count a.index (dO a.pos a.entry) a.proof)
theorem rZ {root : List UInt8} {a : Ans} (h : CkOk root a) : iQ root a.count a.index (dO a.pos a.entry) a.proof = some (Sha.check root a.count a.index (dO a.pos a.entry) a.proof) :=
 if_pos ⟨h.root, by have := nX h.pos a.entry; omega, h.proof, by have := h.len; omega, h.c2, h.c1, h.i⟩
theorem iD {root : List UInt8} {a : Ans} (ver : Int) (h : CkOk root a) : cO root ver a = some (fr root ver a) := by
 refine Ok.get ?_
 unfold cO
 have e3 : eN root a = some (Sha.check root a.count a.index (dO a.pos a.entry) a.proof) := by
  unfold eN
  rw [pY _ _ h.pos.B, ah, rZ h, ah]
 have e2 : eO a = some (jU a.pos a.entry) := by
  unfold eO
  rw [wY, ah]
 have e1 : fH a ver = some (a.version == ver) := rfl
 refine eF (sB _ _ (fun F : FnB => !(F.f ()).getD false) (fun F hF => ?_) (by simp)) ?_
 ·show fF F = _
  unfold fF
  have : ∃ b, F.f () = some b := by
   simp only [List.mem_cons, List.not_mem_nil, or_false] at hF
   rcases hF with rfl | rfl | rfl
   ·exact ⟨_, e1⟩
   ·exact ⟨_, e2⟩
   ·exact ⟨_, e3⟩
  obtain ⟨b, hb⟩ := this
  rw [hb, ah]; rfl
 ·refine Ok.ret ?_
  simp only [List.any_cons, List.any_nil, e1, e2, e3, Option.getD_some, fr]
  cases (a.version == ver) <;> cases jU a.pos a.entry <;> cases Sha.check root a.count a.index (dO a.pos a.entry) a.proof <;> rfl
def kC (x : List Int) (i : Nat) : Int := if x = [] then 7 * i else x[i % x.length]?.getD 0 + i
def tS (x : List Int) (i : Nat) : Rs := ⟨1 + kC x i % 3, kC x i / 3⟩
def jk (n : Nat) (x : List Int) : List Rs := (List.range n).map (tS x)
theorem uw (l : List Ps) (x : List Int) (hl : l.length ≤ 1000000) (hx : ∀ y ∈ x, 0 ≤ y ∧ y ≤ 65535) (hxl : x.length ≤ 1000000) : ed l x = some (jk l.length x) := by
 unfold ed
 have := m8 (body := cM l x) (List.range l.length) (tS x) (fun i k acc he hacc => by
  have hi := (List.getElem?_eq_some_iff.1 he).1
  rw [List.length_range] at hi
  obtain rfl : k = i := by rw [List.getElem?_range hi] at he; exact (Option.some.inj he).symm
  have hN : 0 ≤ kC x k ∧ kC x k ≤ 10000000 := by
   unfold kC
   split
   ·omega
   ·rename_i hne
    have hpos : 0 < x.length := List.length_pos_iff.2 hne
    have hm := Nat.mod_lt k hpos
    rw [List.getElem?_eq_getElem hm]
    have := hx _ (List.getElem_mem hm)
    simp only [Option.getD_some]; omega
  refine Ok.get ?_
  unfold cM
  simp only
  rw [j6 (by omega), cond_true, aO (by omega), ah]
  refine Ok.bind (P := fun v => v = kC x k) (Ok.cond (fun c => ?_) fun c => Ok.ret ?_) fun v hv => ?_
  ·simp only [decide_eq_true_eq] at c
   have hne : x ≠ [] := fun e => by subst e; simp at c
   have hpos : 0 < x.length := by omega
   have hm := Nat.mod_lt k hpos
   rw [br (by omega) (by omega), ah]
   have he2 : ((k : Nat) : Int) % (x.length : Int) = ((k % x.length : Nat) : Int) := by simp
   have hb := hx _ (List.getElem_mem hm)
   rw [he2, ic, List.getElem?_eq_getElem hm, ah, aO (by omega), ah, aO (by omega), ah]
   refine Ok.ret ?_
   unfold kC
   rw [if_neg hne, List.getElem?_eq_getElem hm]; rfl
  ·simp only [decide_eq_false_iff_not] at c
   have : x = [] := List.eq_nil_of_length_eq_zero (by omega)
   unfold kC; rw [if_pos this]
  ·subst hv
   rw [br (by omega) (by omega), ah, aO (by omega), ah, rk (by omega) (by omega), ah, b9 (by simp; omega), ah, aO (by omega), ah]
   exact Ok.ret rfl) (fun acc => by
  unfold cM
  simp only [List.length_range]
  rw [fZ (by omega), cond_false])
 rw [this, ah]; rfl
theorem xT (x : List Int) (hx : ∀ y ∈ x, 0 ≤ y ∧ y ≤ 65535) (i : Nat) (hi : i ≤ 1000000) : pE (tS x i) := by
 have hN : 0 ≤ kC x i ∧ kC x i ≤ 10000000 := by
  unfold kC
  split
  ·omega
  ·rename_i hne
   have hpos : 0 < x.length := List.length_pos_iff.2 hne
   have hm := Nat.mod_lt i hpos
   rw [List.getElem?_eq_getElem hm]
   have := hx _ (List.getElem_mem hm)
   simp only [Option.getD_some]; omega
 unfold pE tS
 simp only; omega
theorem ya (g : Gm) (l : List PRaw) (hg : GmFine g) (n : Nat) (hn : n ≤ 1000) : Ok (e6 g l n) fun ps => ps.length ≤ n ∧ ∀ p ∈ ps, PsFine g p := by
 unfold e6
 refine Ok.bind (P := fun ps : List Ps => ps.length ≤ n ∧ ∀ p ∈ ps, PsFine g p) ?_ fun ps h => Ok.ret h
 refine Ok.loop (fun s : Int × List Ps => ∃ i : Nat, s.1 = i ∧ i ≤ n ∧ s.2.length = i ∧ ∀ p ∈ s.2, PsFine g p) (fun s : Int × List Ps => n - s.1.toNat) ⟨0, rfl, by omega, rfl, by simp⟩ ?_
 rintro ⟨_, acc⟩ ⟨i, rfl, hi, ha, hall⟩
 unfold fd
 simp only at ha hall ⊢
 refine Ok.cond (fun c1 => Ok.cond (fun c2 => ?_) fun _ => Ok.ret ⟨by omega, hall⟩) fun _ => Ok.ret ⟨by omega, hall⟩
 simp only [decide_eq_true_eq] at c1 c2
 rw [dq (by omega) (by omega), ah]
 refine Ok.bind (Co g _ hg) fun p hp => ?_
 rw [b9 (by simp; omega), ah, aO (by omega), ah]
 refine Ok.ret ⟨⟨i + 1, by simp, by omega, by simp [ha], fun q hq => ?_⟩, by simp only; omega⟩
 rcases List.mem_append.1 hq with h | h
 ·exact hall q h
 ·simp at h; subst h; exact hp
theorem sx (x : GRaw) (l : List PRaw) (n : List Int) (hx : ∀ y ∈ n, 0 ≤ y ∧ y ≤ 65535) (hnl : n.length ≤ 1000) :
  Ok (dL x l n) fun r => r.1.length ≤ 10 ∧ (∀ p ∈ r.1, PsOk p ∧ 1 ≤ p.at_.length) ∧ r.2 = jk r.1.length n := by
 unfold dL
 refine Ok.bind (AL x) fun g hg => ?_
 refine Ok.bind (ya g l hg 10 (by omega)) fun ps hps => ?_
 rw [uw ps n (by omega) hx (by omega), ah]
 refine Ok.ret ⟨hps.1, fun p hp => ⟨(hps.2 p hp).ok hg, ?_⟩, rfl⟩
 have := (hps.2 p hp).la
 have := hg.board.c1
 omega
end
section
open Go.RowKit
set_option maxRecDepth 100000
def P0 : Ps := ⟨[1, 0], [2], [0], 1, 0⟩
def R0 : Rs := ⟨1, 258⟩
theorem oY : dO P0 R0 = [2, 1, 1, 1, 0, 2, 0, 1, 0, 1, 0, 0, 1, 2] := by decide
theorem A6 : Sha.leaf [2, 1, 1, 1, 0, 2, 0, 1, 0, 1, 0, 0, 1, 2] ≠ List.replicate 32 0 := by decide +kernel
theorem sP : ez = some true := by
 have hS : PsS P0 := ⟨by decide, by decide, by decide⟩
 have hs : ∀ p ∈ [P0], PsS p := by simpa using hS
 have hl : cN [P0] [R0] = [dO P0 R0] := rfl
 have hpr : Sha.proof [dO P0 R0] 0 = [] := by unfold Sha.proof; rw [Sha.path_one 0 (by simp)]; rfl
 have a1 : cb [P0] [R0] 7 0 = some (⟨7, 0, 1, P0, R0, []⟩, 0) := by
  rw [iI _ _ _ _ (by simp) hs]
  unfold gE
  rw [dif_pos ⟨rfl, by decide, by decide⟩]
  show some ((⟨7, 0, 1, P0, R0, Sha.proof [dO P0 R0] 0⟩ : Ans), (0 : Int)) = _
  rw [hpr]
 have a2 : cb [P0] [] 7 0 = some (r7, 1) := by
  rw [iI _ _ _ _ (by simp) hs]
  unfold gE
  rw [dif_neg (by simp)]
 have a3 : cb [P0] [R0] 7 1 = some (r7, 1) := by
  rw [iI _ _ _ _ (by simp) hs]
  unfold gE
  rw [dif_neg (by simp)]
 have a4 : fi [P0] [R0] = some (Sha.leaf (dO P0 R0)) := by
  rw [tA _ _ (by simp) hs, hl, Sha.root_one]
 have hck : ∀ root : List UInt8, root.length = 32 → CkOk root ⟨7, 0, 1, P0, R0, []⟩ := fun root h => ⟨h, hS, by simp, by simp, by decide, by decide, by decide⟩
 have hpl : jU P0 R0 = true := by decide
 have hcl : ∀ root : List UInt8, Sha.check root 1 0 (dO P0 R0) [] = decide (Sha.leaf (dO P0 R0) = root) := fun root => by
  unfold Sha.check Sha.climb; simp
 simp only [oY] at hcl
 refine Ok.get ?_
 unfold ez
 refine eF (pY P0 R0 hS.B) ?_
 refine eF a1 (eF a2 (eF a3 (eF a4 (eF (kq (Sha.leaf_len _)) ?_))))
 simp only [r7, oY, beq_self_eq_true, cond_true, List.length_nil, Int.natCast_zero, Int.cast_ofNat_Int]
 refine eF (o5 P0 R0 hS.B) ?_
 rw [oY]
 refine eF (show dY _ = some (Sha.leaf _) from if_pos (by decide)) ?_
 refine eF (kq (Sha.leaf_len _)) (eF (kq (Sha.leaf_len _)) ?_)
 rw [beq_self_eq_true, cond_true]
 refine eF (iD 7 (hck _ (Sha.leaf_len _))) ?_
 have e1 : fr (Sha.leaf [2, 1, 1, 1, 0, 2, 0, 1, 0, 1, 0, 0, 1, 2]) 7 ⟨7, 0, 1, P0, R0, []⟩ = true := by
  unfold fr; simp only [hpl, oY, hcl]; simp
 have e2 : fr (Sha.leaf [2, 1, 1, 1, 0, 2, 0, 1, 0, 1, 0, 0, 1, 2]) 8 ⟨7, 0, 1, P0, R0, []⟩ = false := by
  unfold fr; simp
 have e3 : fr (List.replicate 32 0) 7 ⟨7, 0, 1, P0, R0, []⟩ = false := by
  unfold fr; simp only [hpl, oY, hcl]
  rw [decide_eq_false A6]; rfl
 rw [e1, cond_true]
 refine eF (iD 8 (hck _ (Sha.leaf_len _))) ?_
 rw [e2]
 refine eF (iD 7 (hck _ (by simp))) (Ok.ret ?_)
 rw [e3]; rfl
end
section
open Go.RowKit
set_option maxRecDepth 100000
theorem se (n : Nat) (x : List Int) : (jk n x).length = n := by simp [jk]
theorem vD (l : List (List UInt8)) (i : Nat) : (∀ s ∈ Sha.proof l i, s.length = 32) ∧ (Sha.proof l i).length ≤ l.length := by
 refine ⟨fun s hs => mC _ l i rfl s (by simpa [Sha.proof] using hs), ?_⟩
 have := qm _ l i rfl
 simpa [Sha.proof] using this
structure LsOk (l : List Ps) (v : List Rs) : Prop where
 le : l.length ≤ 1000
 len : l.length = v.length
 ps : ∀ p ∈ l, PsOk p
 rs : ∀ r ∈ v, pE r
theorem LsOk.S {l : List Ps} {v : List Rs} (h : LsOk l v) : ∀ p ∈ l, PsS p := fun p hp => (h.ps p hp).S
theorem LsOk.big {l : List Ps} {v : List Rs} (h : LsOk l v) : l.length ≤ 1000000 := by have := h.le; omega
theorem LsOk.take {l : List Ps} {v : List Rs} (h : LsOk l v) (n : Nat) : LsOk (l.take n) (v.take n) :=
 ⟨by have := h.le; rw [List.length_take]; omega, by rw [List.length_take, List.length_take, h.len], fun p hp => h.ps p (List.mem_of_mem_take hp), fun r hr => h.rs r (List.mem_of_mem_take hr)⟩
theorem wy (x : GRaw) (l : List PRaw) (n : List Int) (hx : ∀ y ∈ n, 0 ≤ y ∧ y ≤ 65535) (hnl : n.length ≤ 1000) :
  Ok (dL x l n) fun r => LsOk r.1 r.2 ∧ r.1.length ≤ 10 ∧ (∀ p ∈ r.1, 1 ≤ p.at_.length) ∧ r.2 = jk r.1.length n :=
 (sx x l n hx hnl).mono fun r hr => by
  refine ⟨⟨by have := hr.1; omega, by rw [hr.2.2, se], fun p hp => (hr.2.1 p hp).1, fun s hs => ?_⟩, hr.1, fun p hp => (hr.2.1 p hp).2, hr.2.2⟩
  rw [hr.2.2, jk] at hs
  obtain ⟨i, hi, rfl⟩ := List.mem_map.1 hs
  exact xT n hx i (by have := List.mem_range.1 hi; have := hr.1; omega)
def hU (l : List Ps) (v : List Rs) (ver : Int) (i : Nat) (h : i < l.length) (h' : i < v.length) : Ans := ⟨ver, i, l.length, l[i], v[i], Sha.proof (cN l v) i⟩
theorem uZ {l : List Ps} {v : List Rs} (ver : Int) {i : Nat} (h : i < l.length) (hl : l.length = v.length) : gE l v ver i = (hU l v ver i h (by omega), 0) := by
 unfold gE hU
 rw [dif_pos (by omega)]
 rfl
theorem pg {l : List Ps} {v : List Rs} (ver : Int) {i : Int} (h : ¬ (l.length = v.length ∧ 0 ≤ i ∧ i < (l.length : Int))) : gE l v ver i = (r7, 1) := by
 unfold gE
 rw [dif_neg h]
theorem wq {l : List Ps} {v : List Rs} {ver : Int} {i : Nat} (h : i < l.length) (h' : i < v.length) (k : LsOk l v) {root : List UInt8} (hr : root.length = 32) : CkOk root (hU l v ver i h h') := by
 have hp := vD (cN l v) i
 have := k.le
 have hl := iu l v
 exact ⟨hr, k.S _ (List.getElem_mem _), hp.1, by show (Sha.proof _ _).length ≤ _; omega, by show -9223372036854775808 ≤ (l.length : Int); omega, by show (l.length : Int) ≤ _; omega, by show -9223372036854775808 ≤ (i : Int) ∧ (i : Int) ≤ _; omega⟩
theorem uy {l : List Ps} {v : List Rs} {i : Nat} (h : i < l.length) (h' : i < v.length) : (cN l v)[i]? = some (dO l[i] v[i]) := by
 have : (l.zip v)[i]? = some (l[i], v[i]) := List.getElem?_zip_eq_some.2 ⟨by simp, by simp⟩
 unfold cN
 rw [List.getElem?_map, this]; rfl
theorem yP {l : List Ps} {v : List Rs} {ver : Int} {i : Nat} (h : i < l.length) (h' : i < v.length) (k : LsOk l v) (ver' : Int) : fr (Sha.root (cN l v)) ver' (hU l v ver i h h') = (ver == ver') := by
 have h1 : jU l[i] v[i] = true := (rS _ _).2 ⟨k.ps _ (List.getElem_mem _), k.rs _ (List.getElem_mem _)⟩
 have h2 := Sha.check_proof (uy h h')
 rw [iu, ← k.len, Nat.min_self] at h2
 show ((ver == ver') && (jU l[i] v[i] && Sha.check _ (l.length : Int) (i : Int) (dO l[i] v[i]) (Sha.proof (cN l v) i))) = _
 rw [h1, h2]; simp
end
section
open Go.RowKit
set_option maxRecDepth 100000
theorem Met.mono {a b a' b' : List (List UInt8)} (h : Sha.Met a b) (h1 : ∀ x ∈ a, x ∈ a') (h2 : ∀ x ∈ b, x ∈ b') : Sha.Met a' b' := by
 obtain ⟨x, hx, y, hy, hne, he⟩ := h
 exact ⟨x, h1 x hx, y, h2 y hy, hne, he⟩
end
section
open Go.RowKit
set_option maxRecDepth 100000
theorem vI (n : Int) : 0 ≤ IntKind.u32.wrap n ∧ IntKind.u32.wrap n ≤ 4294967295 := by
 show 0 ≤ n % 4294967296 ∧ n % 4294967296 ≤ 4294967295
 omega
theorem za (i : Nat) : Sha.sides 1 i = [] := Sha.sides_one i (by omega)
theorem sI (l : List PRaw) (x : GRaw) (n : Int × Int × Int) (h1 : -2147483648 ≤ n.1 ∧ n.1 ≤ 2147483647) (h3 : -2147483648 ≤ n.2.2 ∧ n.2.2 ≤ 2147483647) : dI l x n = some true := by
 refine Ok.get ?_
 unfold dI
 refine eF sP ?_
 refine Ok.bind (wy x l [9] (fun y hy => by rw [List.mem_singleton.1 hy]; omega) (by simp)) fun r hr => ?_
 obtain ⟨ps, rs⟩ := r
 obtain ⟨hk, h10, hat, _⟩ := hr
 simp only at hk h10 hat ⊢
 refine Ok.cond (fun _ => Ok.ret rfl) fun z1 => ?_
 have y1 : 0 < ps.length := by simp only [beq_eq_false_iff_ne, ne_eq] at z1; omega
 have lr := hk.len
 have e1 : slc ps 0 1 = some (ps.take 1) := by rw [oG (by omega)]; simp
 have e2 : slc rs 0 1 = some (rs.take 1) := by rw [oG (by omega)]; simp
 have e3 : slc rs 1 (rs.length : Int) = some (rs.drop 1) := by rw [oG (by omega)]; simp
 rw [e1, ah, e2, ah]
 have K := hk.take 1
 have L1 : (ps.take 1).length = 1 := by rw [List.length_take]; omega
 have L2 : (rs.take 1).length = 1 := by rw [List.length_take]; omega
 have q1 : 0 < (ps.take 1).length := by omega
 have q2 : 0 < (rs.take 1).length := by omega
 have ha0 : gE (ps.take 1) (rs.take 1) 1 0 = (hU (ps.take 1) (rs.take 1) 1 0 q1 q2, 0) := uZ 1 q1 K.len
 rw [iI _ _ _ _ K.big K.S, ah, ha0, e3, ah, iI _ _ _ _ hk.big hk.S, ah,
  pg _ (by rw [List.length_drop]; omega), aO (by omega), ah]
 refine Ok.bind (P := fun v : Int => v < 0 ∨ (ps.length : Int) ≤ v) ?_ fun v hv => ?_
 ·refine Ok.cond (fun c => ?_) fun c => Ok.ret ?_
  ·simp only [decide_eq_true_eq] at c
   rw [aO (by omega), ah]
   exact Ok.ret (by omega)
  ·simp only [decide_eq_false_iff_not] at c
   omega
 rw [iI _ _ _ _ hk.big hk.S, ah, pg _ (by omega)]
 simp only
 rw [tR rfl, cond_false, tR rfl, cond_false, cond_false]
 have hA := wq (ver := 1) (i := 0) q1 q2 K (Sha.root_len (cN (ps.take 1) (rs.take 1)))
 have hon := yP (ver := 1) (i := 0) q1 q2 K 1
 have hAi : (hU (ps.take 1) (rs.take 1) 1 0 q1 q2).index = 0 := rfl
 have hAv : (hU (ps.take 1) (rs.take 1) 1 0 q1 q2).version = 1 := rfl
 have hAc : (hU (ps.take 1) (rs.take 1) 1 0 q1 q2).count = 1 := by show ((ps.take 1).length : Int) = 1; omega
 have hAp : (hU (ps.take 1) (rs.take 1) 1 0 q1 q2).proof = [] := by
  show Sha.proof _ 0 = []
  unfold Sha.proof
  rw [Sha.path_one 0 (by rw [iu]; omega)]; rfl
 have hP : PsOk (hU (ps.take 1) (rs.take 1) 1 0 q1 q2).pos := K.ps _ (List.getElem_mem _)
 have hl : 1 ≤ (hU (ps.take 1) (rs.take 1) 1 0 q1 q2).pos.at_.length := hat _ (List.mem_of_mem_take (List.getElem_mem _))
 have hR : pE (hU (ps.take 1) (rs.take 1) 1 0 q1 q2).entry := K.rs _ (List.getElem_mem _)
 generalize hU (ps.take 1) (rs.take 1) 1 0 _ _ = A at hA hon hAi hAv hAc hAp hP hl hR ⊢
 rw [xl (by omega), cond_false, b9 (by have := hP.la; simp; omega), ah, List.nil_append]
 have w1 := vI n.2.1
 have w2 := vI n.2.2
 have hP0 := hP.S
 refine Ok.bind (P := fun v : Int × Int × Int × List Int => PsS ⟨v.2.2.2, A.pos.h0, A.pos.h1, A.pos.rights, v.1⟩ ∧ jU ⟨v.2.2.2, A.pos.h0, A.pos.h1, A.pos.rights, v.1⟩ ⟨v.2.1, v.2.2.1⟩ = false) ?_ fun v hv => ?_
 ·have no : ∀ {q : Ps} {r : Rs}, (PsOk q → pE r → False) → jU q r = false := fun {q r} h => by
   rw [Bool.eq_false_iff]
   intro e
   obtain ⟨a, b⟩ := (rS q r).1 e
   exact h a b
  rw [br (by omega) (by omega), ah]
  refine Ok.cond (fun _ => ?_) fun _ => Ok.cond (fun _ => ?_) fun _ => Ok.cond (fun _ => ?_) fun _ => Ok.cond (fun _ => ?_) fun _ => ?_
  ·have a0 := hP.a _ (List.getElem_mem (show 0 < A.pos.at_.length by omega))
   rw [dq (by omega) (by omega), ah, aO (by simp only [Int.toNat_zero]; have := a0.1; have := a0.2; omega), ah, ah]
   refine Ok.ret ⟨⟨by simpa using hP0.a, hP0.b, hP0.c⟩, no fun q _ => ?_⟩
   have := q.a (256 + A.pos.at_[0]) (by
    show _ ∈ A.pos.at_.set 0 (256 + A.pos.at_[0])
    exact List.mem_iff_getElem.2 ⟨0, by simp; omega, by simp⟩)
   have := this.2
   have := a0.1
   omega
  ·rw [br (by omega) (by omega), ah, aO (by omega), ah, aO (by omega), ah]
   refine Ok.ret ⟨⟨hP0.a, hP0.b, hP0.c⟩, no fun _ q => ?_⟩
   have := q.1.2
   simp only at this
   omega
  ·rw [aO (by omega), ah, aO (by omega), ah]
   refine Ok.ret ⟨⟨hP0.a, hP0.b, hP0.c⟩, no fun _ q => ?_⟩
   have := q.2.1
   simp only at this
   omega
  ·refine Ok.ret ⟨⟨hP0.a, hP0.b, hP0.c⟩, no fun q _ => ?_⟩
   have := q.s.1
   simp only at this
   omega
  ·rw [aO (by omega), ah, aO (by omega), ah]
   refine Ok.ret ⟨⟨hP0.a, hP0.b, hP0.c⟩, no fun _ q => ?_⟩
   have := q.2.2
   simp only at this
   omega
 ·have hl1 := nX hv.1 ⟨v.2.1, v.2.2.1⟩
  rw [o5 _ _ hv.1.B, ah, show dY _ = some (Sha.leaf _) from if_pos (by omega), ah, kq (Sha.leaf_len _), ah, aO (by omega), ah, ah, ah, tA _ _ K.big K.S, ah, kq (Sha.root_len _), ah, cond_true]
  refine eF (iD 1 ⟨Sha.leaf_len _, hv.1, hA.proof, hA.len, hA.c1, hA.c2, hA.i⟩) ?_
  rw [show fr (Sha.leaf (dO ⟨v.2.2.2, A.pos.h0, A.pos.h1, A.pos.rights, v.1⟩ ⟨v.2.1, v.2.2.1⟩)) 1 ⟨A.version, A.index, A.count, ⟨v.2.2.2, A.pos.h0, A.pos.h1, A.pos.rights, v.1⟩, ⟨v.2.1, v.2.2.1⟩, A.proof⟩ = false by unfold fr; simp only [hv.2]; simp, Bool.not_false, cond_true]
  have hon' : fr (Sha.root (cN (ps.take 1) (rs.take 1))) 1 A = true := by rw [hon]; rfl
  refine eF (iD 1 ⟨Sha.root_len _, hA.pos, hA.proof, hA.len, hA.c1, hA.c2, by show -9223372036854775808 ≤ n.2.2 ∧ n.2.2 ≤ 9223372036854775807; omega⟩) ?_
  have e4 : fr (Sha.root (cN (ps.take 1) (rs.take 1))) 1 ⟨A.version, n.2.2, A.count, A.pos, A.entry, A.proof⟩ = (n.2.2 == 0) := by
   by_cases h0 : n.2.2 = 0
   ·rw [h0]
    have : (⟨A.version, 0, A.count, A.pos, A.entry, A.proof⟩ : Ans) = A := by rw [← hAi]
    rw [this, hon']; rfl
   ·rw [xl h0]
    unfold fr
    simp only
    rw [Sha.check_top, if_pos (by omega)]; simp
  rw [e4, beq_self_eq_true, cond_true]
  refine eF (iD 1 ⟨Sha.root_len _, hA.pos, by simp, by simp, hA.c1, hA.c2, hA.i⟩) ?_
  have e5 : fr (Sha.root (cN (ps.take 1) (rs.take 1))) 1 ⟨A.version, A.index, A.count, A.pos, A.entry, [List.replicate 32 0]⟩ = false := by
   unfold fr
   simp only
   rw [Sha.check_top, hAi, hAc, if_neg (by omega), show Sha.sides (1 : Int).toNat (0 : Int).toNat = [] from za _]; simp
  rw [e5, Bool.not_false, cond_true]
  refine eF (iD 1 hA) ?_
  rw [hon]
  exact Ok.ret rfl
end
end Go.Proofs.YtbaccmkhjmmlnaaDoor
