/-
  Lemmas, part 8 of 8: walks through the program's functions, and plain Lean about what they compute.
-/
import Derived.Test.YtbaccmkhjmmlnaaDoorZ1
import Derived.Test.YtbaccmkhjmmlnaaDoorZ2
import Derived.Test.YtbaccmkhjmmlnaaDoorZ3
import Derived.Test.YtbaccmkhjmmlnaaDoorZ4
import Derived.Test.YtbaccmkhjmmlnaaDoorZ5
import Derived.Test.YtbaccmkhjmmlnaaDoorZ6
import Derived.Test.YtbaccmkhjmmlnaaDoorZ7
set_option linter.unnecessarySimpa false
set_option linter.unusedSimpArgs false
set_option linter.unusedVariables false
namespace Go.Proofs.YtbaccmkhjmmlnaaDoor
section
open Go.RowKit
set_option maxRecDepth 100000
noncomputable def gg (a0 : List Int) (s1 : (Int × (List UInt8))) : Option ((Int × (List UInt8)) ⊕ List UInt8) :=
 bif (decide (s1.1 < (a0.length : Int))) then (
  ob (idx a0 s1.1) fun x6 =>
  ob (app s1.2 [(w8 x6)]) fun x7 =>
  ob (arI .i64 (s1.1 + 1)) fun x8 =>
  some (.inl (x8, x7))
 ) else (
  some (.inr s1.2)
 )
noncomputable def fM (a0 : List Int) : Option (List UInt8) :=
 ob ((
  bx (gg a0) (0, ([] : List UInt8))
  : Option (List UInt8))) fun v9 =>
 some v9
set_option maxHeartbeats 4000000 in
theorem kL {a0 : List Int} {r : List UInt8} (h : fM a0 = some r) : ap Tryd.prog HG 35 [.list 1 (a0.map (aa .i64)) false] (.list 1 (r.map aO) false) := by
 unfold fM at h
 refine ap.of Tryd.func35 rfl Tryd.ntmps35 (by simp) ?_
 intro F hF h0 hT
 show Sm F _ _ ⟨[(0, .d (.list 1 (a0.map (aa .i64)) false))], [], 0⟩
 refine sr hF ?_
 refine gv hF oA ?_
 refine sn ?_
 refine sr hF ?_
 refine gv hF oA ?_
 refine sn ?_
 refine Sm.seq ?_
 obtain ⟨v9, hv9, h⟩ := ab h
 refine bg ⟨[(3, .d (.list 1 (v9.map aO) false))], [], 1⟩ ?_ ?_
 ·refine Sm.seq ?_
  refine ac hF rfl ?_
  refine gv hF oM ?_
  refine gv hF oA ?_
  refine sn ?_
  refine Sm.ret ?_
  obtain rfl := ae h
  exact bC rfl rfl
 replace h := hv9
 refine sr hF ?_
 refine gv hF oM ?_
 refine gv hF (oN (bp u30)) ?_
 refine gv hF oM ?_
 refine sn ?_
 refine Sm.block ?_
 refine Sm.to (toK (e := [(3, .d (.list 0 [] true)), (6, .d (.list 1 (a0.map (aa .i64)) false)), (7, .d (.v (.int .i64 (a0.length : Int)))), (8, .d (.v (.int .i64 0)))]) (g := []) (m := 0) ⟨rfl, rfl, rfl, rfl, trivial⟩ trivial) ?_
 refine Sm.own (t := 3) 1 rfl ?_
 refine bu (gg a0) (fun s1 => ⟨[(3, .sref 0 0 (s1.2.map aO).length), (6, .d (.list 1 (a0.map (aa .i64)) false)), (7, .d (.v (.int .i64 (a0.length : Int)))), (8, .d (.v (.int .i64 s1.1)))], [(0, dB 1 (s1.2.map aO))], 1⟩) (0, ([] : List UInt8)) h (toK ⟨rfl, rfl, rfl, rfl, trivial⟩ ⟨rfl, trivial⟩) ?_
 intro n2 s1 o3 h hd4
 unfold gg at h
 refine sr hF ?_
 refine gv hF (oB (bt)) ?_
 refine sn ?_
 refine Sm.seq ?_
 refine aM hF rfl (fun hc5 => ?_) (fun hc5 => ?_)
 ·replace h := ifF hc5 h
  refine Sm.exit ?_
  replace h := aE h hd4
  obtain rfl := ae h
  exact (aT (toK (e := [(3, .sref 0 0 (s1.2.map aO).length)]) (g := [(0, dB 1 (s1.2.map aO))]) (m := 1) ⟨rfl, trivial⟩ ⟨rfl, trivial⟩) (bE (l := 0) (sz := 1) (env' := [(3, .d (.list 1 (s1.2.map aO) false))]) (h' := []) (nx := 1) (s1.2.map aO) rfl ⟨⟨_, rfl, cr⟩, trivial⟩ trivial))
 replace h := ifT hc5 h
 refine sk ?_
 refine Sm.seq ?_
 refine Sm.block ?_
 refine sr hF ?_
 obtain ⟨x6, hx6, h⟩ := ab h
 refine gv hF (oI (bF u30 sz3 hx6)) ?_
 refine gv hF (oL (lP1 ag3 rfl)) ?_
 refine gv hF oA ?_
 refine sn ?_
 refine ac hF rfl ?_
 refine gv hF oM ?_
 refine gv hF oM ?_
 refine gv hF (oC (iP u3 u5)) ?_
 refine gv hF (x := .d (.list 1 ([(w8 x6)].map aO) true)) (oS (az u24 sz5 ze5 rfl rfl (PartsQ.cons rfl (PartsQ.nil _)) rfl)) ?_
 obtain ⟨x7, hx7, h⟩ := ab h
 refine a8 hF m6 rfl (ys := [(w8 x6)]) (row := aO) rfl rfl rfl rfl rfl rfl rfl rfl (.inl rfl) hx7 (by (repeat' first | exact bK _ | refine br ?_ | refine au ?_ (aW _ _ _) | refine au ?_ (aW _ _ [_]) | refine au ?_ (bW (by rfl)))) ?_
 refine gv hF oA ?_
 refine SmG.nil ?_
 refine ay ?_
 refine af ?_
 refine ac hF rfl ?_
 obtain ⟨x8, hx8, h⟩ := ab h
 refine gv hF (oB (aX hx8)) ?_
 refine gv hF oM ?_
 refine SmG.nil ?_
 exact bA (bk h hd4) (toK ⟨rfl, rfl, rfl, rfl, trivial⟩ ⟨rfl, trivial⟩)
noncomputable def jb (x1 : List Int) (s2 : (Int × (List UInt8))) : Option ((Int × (List UInt8)) ⊕ List UInt8) :=
 bif (decide (s2.1 < (x1.length : Int))) then (
  ob (idx x1 s2.1) fun x7 =>
  ob (app s2.2 [(w8 x7)]) fun x8 =>
  ob (arI .i64 (s2.1 + 1)) fun x9 =>
  some (.inl (x9, x8))
 ) else (
  some (.inr s2.2)
 )
noncomputable def jQ (a0 : Ps) : Option (List UInt8) :=
 ob ((
  ob (dn ([a0.at_, a0.h0, a0.h1, [a0.rights, a0.side]])) fun x1 =>
  bx (jb x1) (0, ([] : List UInt8))
  : Option (List UInt8))) fun v10 =>
 some v10
set_option maxHeartbeats 4000000 in
theorem sV {a0 : Ps} {r : List UInt8} (h : jQ a0 = some r) : ap Tryd.prog HG 37 [.agg 5 (Ps.row a0)] (.v (.string ⟨(r : List UInt8).toArray⟩)) := by
 unfold jQ at h
 refine ap.of Tryd.func37 rfl Tryd.ntmps37 (by simp) ?_
 intro F hF h0 hT
 show Sm F _ _ ⟨[(0, .d (.agg 5 (Ps.row a0)))], [], 0⟩
 refine sr hF ?_
 refine b9 hF fO ?_
 refine gv hF oA ?_
 refine sn ?_
 refine sr hF ?_
 refine gv hF oA ?_
 refine sn ?_
 refine Sm.seq ?_
 obtain ⟨v10, hv10, h⟩ := ab h
 refine bg ⟨[(3, .d (.list 1 (v10.map aO) false))], [], 2⟩ ?_ ?_
 ·refine Sm.seq ?_
  refine ac hF rfl ?_
  refine gv hF oM ?_
  refine gv hF (oC (qv u24 u9 u5)) ?_
  refine gv hF oA ?_
  refine sn ?_
  refine Sm.ret ?_
  obtain rfl := ae h
  exact bC rfl rfl
 replace h := hv10
 refine sr hF ?_
 refine gv hF (oF (aj jP rfl)) ?_
 refine gv hF (oL (lP1 dV rfl)) ?_
 refine gv hF (oF (aj eh rfl)) ?_
 refine gv hF (oI (bR u31 ed rfl rfl)) ?_
 refine gv hF (oL (lP1 dV rfl)) ?_
 refine gv hF (oF (aj eh rfl)) ?_
 refine gv hF (oI (bR u31 ed rfl rfl)) ?_
 refine gv hF (oL (lP1 dV rfl)) ?_
 refine gv hF (oF (aj nE rfl)) ?_
 refine gv hF (oL (lP1 ag3 rfl)) ?_
 refine gv hF (oF (aj ne rfl)) ?_
 refine gv hF (oL (lP1 ag3 rfl)) ?_
 refine gv hF (x := .d (.list 1 ([a0.rights, a0.side].map (aa .i64)) true)) (oS (az u30 sz3 ze3 rfl rfl (PartsQ.cons rfl (PartsQ.cons rfl (PartsQ.nil _))) rfl)) ?_
 refine dt (cm (env' := [(3, .d (.list 0 [] true)), (7, .d (.list 1 (a0.at_.map (aa .i64)) false)), (10, .d (.list 1 (a0.h0.map (aa .i64)) false)), (13, .d (.list 1 (a0.h1.map (aa .i64)) false)), (18, .d (.list 1 ([a0.rights, a0.side].map (aa .i64)) false))]) (h' := []) (nx' := 0) ⟨⟨_, rfl, V.le.refl _⟩, ⟨_, rfl, V.le.refl _⟩, ⟨_, rfl, V.le.refl _⟩, ⟨_, rfl, V.le.refl _⟩, ⟨_, rfl, V.le.d (by repeat' first | exact D.le.refl _ | exact aH _ _ _ | exact aG _ _ _ | refine aK ?_ | exact LeRows.nil | refine LeRows.cons ?_ ?_ | exact LeL.nil | refine LeL.cons ?_ ?_ | refine aJ ?_ | refine aL ?_)⟩, trivial⟩ trivial (Nat.le_of_ble_eq_true rfl)) rfl ?_
 refine gv hF (x := .d (.list 1 ([a0.at_, a0.h0, a0.h1, [a0.rights, a0.side]].map (aw 1 (aa .i64))) true)) (oS (az u71 ed uE rfl rfl (PartsQ.cons rfl (PartsQ.cons rfl (PartsQ.cons rfl (PartsQ.cons rfl (PartsQ.nil _))))) rfl)) ?_
 obtain ⟨x1, hx1, h⟩ := ab h
 refine SmG.callO hF rfl rfl (by kernel_rfl) rfl rfl rfl (eF.args (jJ hx1) (fun C => (cj (by repeat' first | exact D.le.refl _ | exact aH _ _ _ | exact aG _ _ _ | refine aK ?_ | exact LeRows.nil | refine LeRows.cons ?_ ?_ | exact LeL.nil | refine LeL.cons ?_ ?_ | refine aJ ?_ | refine aL ?_) (fun _ h => h)))) ?_
 refine gv hF (oN (Bj u30)) ?_
 refine gv hF oM ?_
 refine sn ?_
 refine Sm.block ?_
 refine Sm.to (toK (e := [(3, .d (.list 0 [] true)), (20, .sref 0 0 (x1.map (aa .i64)).length), (21, .d (.v (.int .i64 (x1.length : Int)))), (22, .d (.v (.int .i64 0)))]) (g := [(0, dB 1 (x1.map (aa .i64)))]) (m := 1) ⟨rfl, rfl, rfl, rfl, trivial⟩ ⟨rfl, trivial⟩) ?_
 refine Sm.own (t := 3) 1 rfl ?_
 refine bu (jb x1) (fun s2 => ⟨[(3, .sref 1 0 (s2.2.map aO).length), (20, .sref 0 0 (x1.map (aa .i64)).length), (21, .d (.v (.int .i64 (x1.length : Int)))), (22, .d (.v (.int .i64 s2.1)))], [(1, dB 1 (s2.2.map aO)), (0, dB 1 (x1.map (aa .i64)))], 2⟩) (0, ([] : List UInt8)) h (toK ⟨rfl, rfl, rfl, rfl, trivial⟩ ⟨rfl, rfl, trivial⟩) ?_
 intro n3 s2 o4 h hd5
 unfold jb at h
 refine sr hF ?_
 refine gv hF (oB (bt)) ?_
 refine sn ?_
 refine Sm.seq ?_
 refine aM hF rfl (fun hc6 => ?_) (fun hc6 => ?_)
 ·replace h := ifF hc6 h
  refine Sm.exit ?_
  replace h := aE h hd5
  obtain rfl := ae h
  exact (aT (toK (e := [(3, .sref 1 0 (s2.2.map aO).length)]) (g := [(1, dB 1 (s2.2.map aO))]) (m := 2) ⟨rfl, trivial⟩ ⟨rfl, trivial⟩) (bE (l := 1) (sz := 1) (env' := [(3, .d (.list 1 (s2.2.map aO) false))]) (h' := []) (nx := 2) (s2.2.map aO) rfl ⟨⟨_, rfl, cr⟩, trivial⟩ trivial))
 replace h := ifT hc6 h
 refine sk ?_
 refine Sm.seq ?_
 refine Sm.block ?_
 refine sr hF ?_
 obtain ⟨x7, hx7, h⟩ := ab h
 refine gv hF (oI (nQ u30 sz3 rfl hx7)) ?_
 refine gv hF (oL (zq rfl hx7 ag3 rfl)) ?_
 refine gv hF oA ?_
 refine sn ?_
 refine ac hF rfl ?_
 refine gv hF oM ?_
 refine gv hF oM ?_
 refine gv hF (oC (iP u3 u5)) ?_
 refine gv hF (x := .d (.list 1 ([(w8 x7)].map aO) true)) (oS (az u24 sz5 ze5 rfl rfl (PartsQ.cons rfl (PartsQ.nil _)) rfl)) ?_
 obtain ⟨x8, hx8, h⟩ := ab h
 refine a8 hF m6 rfl (ys := [(w8 x7)]) (row := aO) rfl rfl rfl rfl rfl rfl rfl rfl (.inl rfl) hx8 (by (repeat' first | exact bK _ | refine br ?_ | refine au ?_ (aW _ _ _) | refine au ?_ (aW _ _ [_]) | refine au ?_ (bW (by rfl)))) ?_
 refine gv hF oA ?_
 refine SmG.nil ?_
 refine ay ?_
 refine af ?_
 refine ac hF rfl ?_
 obtain ⟨x9, hx9, h⟩ := ab h
 refine gv hF (oB (aX hx9)) ?_
 refine gv hF oM ?_
 refine SmG.nil ?_
 exact bA (bk h hd5) (toK ⟨rfl, rfl, rfl, rfl, trivial⟩ ⟨rfl, rfl, trivial⟩)
noncomputable def fr (a0 : Ps) (a1 : Rs) : Option (List UInt8) :=
 ob (fM [(a0.at_.length : Int), (a0.h0.length : Int), (a0.h1.length : Int)]) fun x1 =>
 ob (jQ a0) fun x2 =>
 ob (ow x2) fun x3 =>
 ob (jm .i64 a1.n 24) fun x4 =>
 ob (jm .i64 a1.n 16) fun x5 =>
 ob (jm .i64 a1.n 8) fun x6 =>
 ob (fM [a1.out, x4, x5, x6, a1.n]) fun x7 =>
 ob (cU [x1, x3, x7]) fun x8 =>
 some x8
set_option maxHeartbeats 4000000 in
theorem i3 {a0 : Ps} {a1 : Rs} {r : List UInt8} (h : fr a0 a1 = some r) : ap Tryd.prog HG 13 [.agg 5 (Ps.row a0), .agg 2 (Rs.row a1)] (.list 1 (r.map aO) false) := by
 unfold fr at h
 refine ap.of Tryd.func13 rfl Tryd.ntmps13 (by simp) ?_
 intro F hF h0 hT
 show Sm F _ _ ⟨[(0, .d (.agg 5 (Ps.row a0))), (1, .d (.agg 2 (Rs.row a1)))], [], 0⟩
 refine sr hF ?_
 refine b9 hF fO ?_
 refine b9 hF fO ?_
 refine gv hF oA ?_
 refine sn ?_
 refine sr hF ?_
 refine gv hF (oF (aj jP rfl)) ?_
 refine gv hF (oL (lP1 dV rfl)) ?_
 refine gv hF (oN (bp u30)) ?_
 refine gv hF (oF (aj eh rfl)) ?_
 refine gv hF (oI (bR u31 ed rfl rfl)) ?_
 refine gv hF (oL (lP1 dV rfl)) ?_
 refine gv hF (oN (bp u30)) ?_
 refine gv hF (oF (aj eh rfl)) ?_
 refine gv hF (oI (bR u31 ed rfl rfl)) ?_
 refine gv hF (oL (lP1 dV rfl)) ?_
 refine gv hF (oN (bp u30)) ?_
 refine gv hF (x := .d (.list 1 ([(a0.at_.length : Int), (a0.h0.length : Int), (a0.h1.length : Int)].map (aa .i64)) true)) (oS (az u30 sz3 ze3 rfl rfl (PartsQ.cons rfl (PartsQ.cons rfl (PartsQ.cons rfl (PartsQ.nil _)))) rfl)) ?_
 obtain ⟨x1, hx1, h⟩ := ab h
 refine SmG.call hF rfl rfl (by kernel_rfl) rfl rfl rfl (ap.args (kL hx1) (fun C => (cj (by repeat' first | exact D.le.refl _ | exact aH _ _ _ | exact aG _ _ _ | refine aK ?_ | exact LeRows.nil | refine LeRows.cons ?_ ?_ | exact LeL.nil | refine LeL.cons ?_ ?_ | refine aJ ?_ | refine aL ?_) (fun _ h => h)))) ?_
 refine gv hF oA ?_
 refine sn ?_
 refine Sm.seq ?_
 refine bd hF (by kernel_rfl) rfl 19 (by kernel_rfl) (by kernel_rfl) ?_
 simp only [List.take_succ_cons, List.take_zero, List.take_nil]
 refine hv hF oM ?_
 refine hv hF (x := .d (.agg 5 (Ps.row a0))) (oL (dv fW dA rfl rfl)) ?_
 obtain ⟨x2, hx2, h⟩ := ab h
 refine ag.c hF rfl rfl (by kernel_rfl) rfl rfl rfl (sV hx2) ?_
 obtain ⟨x3, hx3, h⟩ := ab h
 refine ag.ofString hF rfl rfl rfl rfl rfl Tryd.underlying9 Tryd.underlying24 Tryd.underlying5 hx3 ?_
 refine hv hF (oF (aj sd rfl)) ?_
 refine hv hF (oL (lP1 ag3 rfl)) ?_
 refine hv hF (oF (aj mc rfl)) ?_
 refine hv hF (oL (lP1 ag3 rfl)) ?_
 obtain ⟨x4, hx4, h⟩ := ab h
 refine hv hF (oB (kM hx4)) ?_
 refine hv hF (oF (aj mc rfl)) ?_
 refine hv hF (oL (lP1 ag3 rfl)) ?_
 obtain ⟨x5, hx5, h⟩ := ab h
 refine hv hF (oB (kM hx5)) ?_
 refine hv hF (oF (aj mc rfl)) ?_
 refine hv hF (oL (lP1 ag3 rfl)) ?_
 obtain ⟨x6, hx6, h⟩ := ab h
 refine hv hF (oB (kM hx6)) ?_
 refine hv hF (oF (aj mc rfl)) ?_
 refine hv hF (oL (lP1 ag3 rfl)) ?_
 refine hv hF (x := .d (.list 1 ([a1.out, x4, x5, x6, a1.n].map (aa .i64)) true)) (oS (az u30 sz3 ze3 rfl rfl (PartsQ.cons rfl (PartsQ.cons rfl (PartsQ.cons rfl (PartsQ.cons rfl (PartsQ.cons rfl (PartsQ.nil _)))))) rfl)) ?_
 obtain ⟨x7, hx7, h⟩ := ab h
 refine ag.c hF rfl rfl (by kernel_rfl) rfl rfl rfl (ap.args (kL hx7) (fun C => (cj (by repeat' first | exact D.le.refl _ | exact aH _ _ _ | exact aG _ _ _ | refine aK ?_ | exact LeRows.nil | refine LeRows.cons ?_ ?_ | exact LeL.nil | refine LeL.cons ?_ ?_ | refine aJ ?_ | refine aL ?_) (fun _ h => h)))) ?_
 refine ag.last ⟨rfl, ?_⟩
 simp only [List.drop_succ_cons, List.drop_zero, List.drop_nil, List.nil_append, List.cons_append]
 refine gv hF (x := .d (.list 1 ([x1, x3, x7].map gb) true)) (oS (az u61 lG wq rfl rfl (PartsQ.cons rfl (PartsQ.cons rfl (PartsQ.cons rfl (PartsQ.nil _)))) rfl)) ?_
 obtain ⟨x8, hx8, h⟩ := ab h
 refine SmG.callO hF rfl rfl (by kernel_rfl) rfl rfl rfl (eF.args (jd hx8) (fun C => (cj (by repeat' first | exact D.le.refl _ | exact aH _ _ _ | exact aG _ _ _ | refine aK ?_ | exact LeRows.nil | refine LeRows.cons ?_ ?_ | exact LeL.nil | refine LeL.cons ?_ ?_ | refine aJ ?_ | refine aL ?_) (fun _ h => h)))) ?_
 refine gv hF oA ?_
 refine sn ?_
 refine Sm.to (aT (toK (e := [(4, .sref 0 0 (x8.map aO).length)]) (g := [(0, dB 1 (x8.map aO))]) (m := 1) ⟨rfl, trivial⟩ ⟨rfl, trivial⟩) (bE (l := 0) (sz := 1) (env' := [(4, .d (.list 1 (x8.map aO) false))]) (h' := []) (nx := 1) (x8.map aO) rfl ⟨⟨_, rfl, cr⟩, trivial⟩ trivial)) ?_
 refine Sm.ret ?_
 obtain rfl := ae h
 exact bC rfl rfl
noncomputable def eg (a0 : List Ps) (a1 : List Rs) (s1 : (Int × (List (List UInt8)))) : Option ((Int × (List (List UInt8))) ⊕ List (List UInt8)) :=
 bif (decide (s1.1 < (min (a0.length : Int) (a1.length : Int)))) then (
  ob (idx a0 s1.1) fun x6 =>
  ob (idx a1 s1.1) fun x7 =>
  ob (fr x6 x7) fun x8 =>
  ob (app s1.2 [x8]) fun x9 =>
  ob (arI .i64 (s1.1 + 1)) fun x10 =>
  some (.inl (x10, x9))
 ) else (
  some (.inr s1.2)
 )
noncomputable def fo (a0 : List Ps) (a1 : List Rs) : Option (List (List UInt8)) :=
 ob ((
  bx (eg a0 a1) (0, ([] : List (List UInt8)))
  : Option (List (List UInt8)))) fun v11 =>
 some v11
set_option maxHeartbeats 4000000 in
theorem kc {a0 : List Ps} {a1 : List Rs} {r : List (List UInt8)} (h : fo a0 a1 = some r) : ap Tryd.prog HG 33 [.list 5 (a0.map Ps.row) false, .list 2 (a1.map Rs.row) false] (.list 1 (r.map gb) false) := by
 unfold fo at h
 refine ap.of Tryd.func33 rfl Tryd.ntmps33 (by simp) ?_
 intro F hF h0 hT
 show Sm F _ _ ⟨[(0, .d (.list 5 (a0.map Ps.row) false)), (1, .d (.list 2 (a1.map Rs.row) false))], [], 0⟩
 refine sr hF ?_
 refine gv hF oA ?_
 refine sn ?_
 refine sr hF ?_
 refine gv hF oA ?_
 refine sn ?_
 refine Sm.seq ?_
 obtain ⟨v11, hv11, h⟩ := ab h
 refine bg ⟨[(5, .d (.list 1 (v11.map gb) false))], [], 1⟩ ?_ ?_
 ·refine Sm.seq ?_
  refine ac hF rfl ?_
  refine gv hF oM ?_
  refine gv hF oA ?_
  refine sn ?_
  refine Sm.ret ?_
  obtain rfl := ae h
  exact bC rfl rfl
 replace h := hv11
 refine sr hF ?_
 refine gv hF oM ?_
 refine gv hF (oN (bp u40)) ?_
 refine gv hF oM ?_
 refine gv hF (oN (bp u41)) ?_
 refine gv hF (yb rfl rfl rfl zn) ?_
 refine gv hF oM ?_
 refine sn ?_
 refine Sm.block ?_
 refine Sm.to (toK (e := [(0, .d (.list 5 (a0.map Ps.row) false)), (1, .d (.list 2 (a1.map Rs.row) false)), (5, .d (.list 0 [] true)), (11, .d (.v (.int .i64 (min (a0.length : Int) (a1.length : Int))))), (12, .d (.v (.int .i64 0)))]) (g := []) (m := 0) ⟨rfl, rfl, rfl, rfl, rfl, trivial⟩ trivial) ?_
 refine Sm.own (t := 5) 1 rfl ?_
 refine bu (eg a0 a1) (fun s1 => ⟨[(0, .d (.list 5 (a0.map Ps.row) false)), (1, .d (.list 2 (a1.map Rs.row) false)), (5, .sref 0 0 (s1.2.map gb).length), (11, .d (.v (.int .i64 (min (a0.length : Int) (a1.length : Int))))), (12, .d (.v (.int .i64 s1.1)))], [(0, dB 1 (s1.2.map gb))], 1⟩) (0, ([] : List (List UInt8))) h (toK ⟨rfl, rfl, rfl, rfl, rfl, trivial⟩ ⟨rfl, trivial⟩) ?_
 intro n2 s1 o3 h hd4
 unfold eg at h
 refine sr hF ?_
 refine gv hF (oB (bt)) ?_
 refine sn ?_
 refine Sm.seq ?_
 refine aM hF rfl (fun hc5 => ?_) (fun hc5 => ?_)
 ·replace h := ifF hc5 h
  refine Sm.exit ?_
  replace h := aE h hd4
  obtain rfl := ae h
  exact (aT (toK (e := [(5, .sref 0 0 (s1.2.map gb).length)]) (g := [(0, dB 1 (s1.2.map gb))]) (m := 1) ⟨rfl, trivial⟩ ⟨rfl, trivial⟩) (bE (l := 0) (sz := 1) (env' := [(5, .d (.list 1 (s1.2.map gb) false))]) (h' := []) (nx := 1) (s1.2.map gb) rfl ⟨⟨_, rfl, cr⟩, trivial⟩ trivial))
 replace h := ifT hc5 h
 refine sk ?_
 refine Sm.seq ?_
 refine Sm.block ?_
 refine sr hF ?_
 refine gv hF oM ?_
 refine gv hF oA ?_
 refine sn ?_
 refine bd hF (by kernel_rfl) rfl 11 (by kernel_rfl) (by kernel_rfl) ?_
 simp only [List.take_succ_cons, List.take_zero, List.take_nil]
 refine hv hF oM ?_
 refine hv hF oM ?_
 refine hv hF oM ?_
 obtain ⟨x6, hx6, h⟩ := ab h
 refine hv hF (oI (bF u40 dA hx6)) ?_
 refine hv hF (x := .d (.agg 5 (Ps.row x6))) (oL (dv fW dA rfl rfl)) ?_
 refine hv hF oM ?_
 refine hv hF oM ?_
 obtain ⟨x7, hx7, h⟩ := ab h
 refine hv hF (oI (bF u41 fF hx7)) ?_
 refine hv hF (x := .d (.agg 2 (Rs.row x7))) (oL (dv i5 fF rfl rfl)) ?_
 obtain ⟨x8, hx8, h⟩ := ab h
 refine ag.c hF rfl rfl (by kernel_rfl) rfl rfl rfl (i3 hx8) ?_
 refine hv hF (x := .d (.list 1 ([x8].map gb) true)) (oS (az u61 lG wq rfl rfl (PartsQ.cons rfl (PartsQ.nil _)) rfl)) ?_
 refine ag.last ⟨rfl, ?_⟩
 simp only [List.drop_succ_cons, List.drop_zero, List.drop_nil, List.nil_append, List.cons_append]
 obtain ⟨x9, hx9, h⟩ := ab h
 refine a8 hF C5 rfl (ys := [x8]) (row := gb) rfl rfl rfl rfl rfl rfl rfl rfl (.inl rfl) hx9 (by (repeat' first | exact bK _ | refine br ?_ | refine au ?_ (aW _ _ _) | refine au ?_ (aW _ _ [_]) | refine au ?_ (bW (by rfl)))) ?_
 refine gv hF oA ?_
 refine SmG.nil ?_
 refine ay ?_
 refine af ?_
 refine ac hF rfl ?_
 obtain ⟨x10, hx10, h⟩ := ab h
 refine gv hF (oB (aX hx10)) ?_
 refine gv hF oM ?_
 refine SmG.nil ?_
 exact bA (bk h hd4) (toK ⟨rfl, rfl, rfl, rfl, rfl, trivial⟩ ⟨rfl, trivial⟩)
noncomputable def fu (a0 : List Ps) (a1 : List Rs) : Option (List UInt8) :=
 ob (fo a0 a1) fun x1 =>
 ob (jF x1) fun x2 =>
 ob (vN 32 x2) fun x3 =>
 some x2
set_option maxHeartbeats 4000000 in
theorem ll {a0 : List Ps} {a1 : List Rs} {r : List UInt8} (h : fu a0 a1 = some r) : ap Tryd.prog HG 11 [.list 5 (a0.map Ps.row) false, .list 2 (a1.map Rs.row) false] (.agg 32 (bc r)) := by
 unfold fu at h
 refine ap.of Tryd.func11 rfl Tryd.ntmps11 (by simp) ?_
 intro F hF h0 hT
 show Sm F _ _ ⟨[(0, .d (.list 5 (a0.map Ps.row) false)), (1, .d (.list 2 (a1.map Rs.row) false))], [], 0⟩
 refine sr hF ?_
 refine SmG.new hF rfl rfl rfl (aV rfl pX) ?_
 refine sn ?_
 refine sr hF ?_
 refine gv hF oM ?_
 refine gv hF oM ?_
 obtain ⟨x1, hx1, h⟩ := ab h
 refine SmG.call hF rfl rfl (by kernel_rfl) rfl rfl rfl (kc hx1) ?_
 obtain ⟨x2, hx2, h⟩ := ab h
 refine SmG.call hF rfl rfl (by kernel_rfl) rfl rfl rfl (qX hx2) ?_
 obtain ⟨x3, hx3, h⟩ := ab h
 refine SmG.store hF rfl rfl rfl rfl rfl (pI rfl rfl jr rfl (na hx3)) ?_
 refine sn ?_
 refine Sm.ret ?_
 obtain rfl := ae h
 exact dI (RetR.cons (RetO.cell rfl (jS rfl lM jr)) (RetR.nil)) (D.le.refl _)
noncomputable def cH (a0 : List Ps) (a1 : List Rs) (a2 : Int) (a3 : Int) : Option (Ans × Int) :=
 bif ((a0.length : Int) != (a1.length : Int)) then (
  some ((⟨0, 0, 0, (⟨[], [], [], 0, 0⟩ : Ps), (⟨0, 0⟩ : Rs), []⟩ : Ans), 1)
 ) else (
  ob (fo a0 a1) fun x2 =>
  ob (fP x2 a3) fun x3 =>
  bif (x3.2 != 0) then (
   some ((⟨0, 0, 0, (⟨[], [], [], 0, 0⟩ : Ps), (⟨0, 0⟩ : Rs), []⟩ : Ans), x3.2)
  ) else (
   ob (idx a0 a3) fun x5 =>
   ob (idx a1 a3) fun x6 =>
   some ((⟨a2, a3, (a0.length : Int), x5, x6, x3.1⟩ : Ans), 0)
  )
 )
set_option maxHeartbeats 4000000 in
theorem fw {a0 : List Ps} {a1 : List Rs} {a2 : Int} {a3 : Int} {r : (Ans × Int)} (h : cH a0 a1 a2 a3 = some r) : ap Tryd.prog HG 15 [.list 5 (a0.map Ps.row) false, .list 2 (a1.map Rs.row) false, .v (.int .i64 a2), .v (.int .i64 a3)] (.tup [.agg 11 (Ans.row r.1), .v (.int .i64 r.2)]) := by
 unfold cH at h
 refine ap.of Tryd.func15 rfl Tryd.ntmps15 (by simp) ?_
 intro F hF h0 hT
 show Sm F _ _ ⟨[(0, .d (.list 5 (a0.map Ps.row) false)), (1, .d (.list 2 (a1.map Rs.row) false)), (2, .d (.v (.int .i64 a2))), (3, .d (.v (.int .i64 a3)))], [], 0⟩
 refine sr hF ?_
 refine SmG.new hF rfl rfl rfl (aV rfl qw) ?_
 refine gv hF oA ?_
 refine sn ?_
 refine Sm.seq ?_
 refine sr hF ?_
 refine gv hF oM ?_
 refine gv hF (oN (bp u40)) ?_
 refine gv hF oM ?_
 refine gv hF (oN (bp u41)) ?_
 refine gv hF (oB (gC)) ?_
 refine sn ?_
 refine bD hF rfl (fun hc1 => ?_) (fun hc1 => ?_)
 ·replace h := ifT hc1 h
  refine sr hF ?_
  refine gv hF (x := .d (.agg 11 [.v (.int .i64 0), .v (.int .i64 0), .v (.int .i64 0), .list 0 [] true, .list 0 [] true, .list 0 [] true, .v (.int .i64 0), .v (.int .i64 0), .v (.int .i64 0), .v (.int .i64 0), .list 0 [] true])) (aY rfl u38 (by kernel_rfl) rfl zf) ?_
  refine SmG.store hF rfl rfl rfl rfl rfl (aZ (ys := [.d (.v (.int .i64 0)), .d (.v (.int .i64 0)), .d (.v (.int .i64 0)), .d (.list 0 [] true), .d (.list 0 [] true), .d (.list 0 [] true), .d (.v (.int .i64 0)), .d (.v (.int .i64 0)), .d (.v (.int .i64 0)), .d (.v (.int .i64 0)), .d (.list 0 [] true)]) (r := [.d (.v (.int .i64 0)), .d (.v (.int .i64 0)), .d (.v (.int .i64 0)), .d (.list 0 [] true), .d (.list 0 [] true), .d (.list 0 [] true), .d (.v (.int .i64 0)), .d (.v (.int .i64 0)), .d (.v (.int .i64 0)), .d (.v (.int .i64 0)), .d (.list 0 [] true)]) (rows' := [[.d (.v (.int .i64 0)), .d (.v (.int .i64 0)), .d (.v (.int .i64 0)), .d (.list 0 [] true), .d (.list 0 [] true), .d (.list 0 [] true), .d (.v (.int .i64 0)), .d (.v (.int .i64 0)), .d (.v (.int .i64 0)), .d (.v (.int .i64 0)), .d (.list 0 [] true)]]) rfl rfl rfl gG rfl rfl rfl rfl rfl) ?_
  refine gv hF oA ?_
  refine sn ?_
  refine Sm.ret ?_
  obtain rfl := ae h
  exact dI (RetR.cons (RetO.cell rfl (aD (ds := [.v (.int .i64 0), .v (.int .i64 0), .v (.int .i64 0), .list 0 [] true, .list 0 [] true, .list 0 [] true, .v (.int .i64 0), .v (.int .i64 0), .v (.int .i64 0), .v (.int .i64 0), .list 0 [] true]) rfl rfl kE gG rfl rfl)) (RetR.cons (RetO.tmp rfl) (RetR.nil))) (by repeat' first | exact D.le.refl _ | exact aH _ _ _ | exact aG _ _ _ | refine aK ?_ | exact LeRows.nil | refine LeRows.cons ?_ ?_ | exact LeL.nil | refine LeL.cons ?_ ?_ | refine aJ ?_ | refine aL ?_)
 replace h := ifF hc1 h
 refine sk ?_
 refine sr hF ?_
 refine gv hF oM ?_
 refine gv hF oM ?_
 obtain ⟨x2, hx2, h⟩ := ab h
 refine SmG.call hF rfl rfl (by kernel_rfl) rfl rfl rfl (kc hx2) ?_
 refine gv hF oM ?_
 obtain ⟨x3, hx3, h⟩ := ab h
 refine SmG.call hF rfl rfl (by kernel_rfl) rfl rfl rfl (pN hx3) ?_
 refine gv hF oM ?_
 refine gv hF (bL rfl rfl rfl) ?_
 refine gv hF (bL rfl rfl rfl) ?_
 refine gv hF oA ?_
 refine gv hF oA ?_
 refine sn ?_
 refine Sm.seq ?_
 refine sr hF ?_
 refine gv hF oM ?_
 refine gv hF (oB (gC)) ?_
 refine sn ?_
 refine bD hF rfl (fun hc4 => ?_) (fun hc4 => ?_)
 ·replace h := ifT hc4 h
  refine sr hF ?_
  refine gv hF (x := .d (.agg 11 [.v (.int .i64 0), .v (.int .i64 0), .v (.int .i64 0), .list 0 [] true, .list 0 [] true, .list 0 [] true, .v (.int .i64 0), .v (.int .i64 0), .v (.int .i64 0), .v (.int .i64 0), .list 0 [] true])) (aY rfl u38 (by kernel_rfl) rfl zf) ?_
  refine gv hF oM ?_
  refine SmG.store hF rfl rfl rfl rfl rfl (aZ (ys := [.d (.v (.int .i64 0)), .d (.v (.int .i64 0)), .d (.v (.int .i64 0)), .d (.list 0 [] true), .d (.list 0 [] true), .d (.list 0 [] true), .d (.v (.int .i64 0)), .d (.v (.int .i64 0)), .d (.v (.int .i64 0)), .d (.v (.int .i64 0)), .d (.list 0 [] true)]) (r := [.d (.v (.int .i64 0)), .d (.v (.int .i64 0)), .d (.v (.int .i64 0)), .d (.list 0 [] true), .d (.list 0 [] true), .d (.list 0 [] true), .d (.v (.int .i64 0)), .d (.v (.int .i64 0)), .d (.v (.int .i64 0)), .d (.v (.int .i64 0)), .d (.list 0 [] true)]) (rows' := [[.d (.v (.int .i64 0)), .d (.v (.int .i64 0)), .d (.v (.int .i64 0)), .d (.list 0 [] true), .d (.list 0 [] true), .d (.list 0 [] true), .d (.v (.int .i64 0)), .d (.v (.int .i64 0)), .d (.v (.int .i64 0)), .d (.v (.int .i64 0)), .d (.list 0 [] true)]]) rfl rfl rfl gG rfl rfl rfl rfl rfl) ?_
  refine gv hF oA ?_
  refine sn ?_
  refine Sm.ret ?_
  obtain rfl := ae h
  exact dI (RetR.cons (RetO.cell rfl (aD (ds := [.v (.int .i64 0), .v (.int .i64 0), .v (.int .i64 0), .list 0 [] true, .list 0 [] true, .list 0 [] true, .v (.int .i64 0), .v (.int .i64 0), .v (.int .i64 0), .v (.int .i64 0), .list 0 [] true]) rfl rfl kE gG rfl rfl)) (RetR.cons (RetO.tmp rfl) (RetR.nil))) (by repeat' first | exact D.le.refl _ | exact aH _ _ _ | exact aG _ _ _ | refine aK ?_ | exact LeRows.nil | refine LeRows.cons ?_ ?_ | exact LeL.nil | refine LeL.cons ?_ ?_ | refine aJ ?_ | refine aL ?_)
 replace h := ifF hc4 h
 refine sk ?_
 refine Sm.seq ?_
 refine bd hF (by kernel_rfl) rfl 13 (by kernel_rfl) (by kernel_rfl) ?_
 simp only [List.take_succ_cons, List.take_zero, List.take_nil]
 refine hv hF oM ?_
 refine hv hF oM ?_
 refine hv hF oM ?_
 refine hv hF (oN (bp u40)) ?_
 refine hv hF oM ?_
 refine hv hF oM ?_
 obtain ⟨x5, hx5, h⟩ := ab h
 refine hv hF (oI (bF u40 dA hx5)) ?_
 refine hv hF (x := .d (.agg 5 (Ps.row x5))) (oL (dv fW dA rfl rfl)) ?_
 refine hv hF oM ?_
 refine hv hF oM ?_
 obtain ⟨x6, hx6, h⟩ := ab h
 refine hv hF (oI (bF u41 fF hx6)) ?_
 refine hv hF (x := .d (.agg 2 (Rs.row x6))) (oL (dv i5 fF rfl rfl)) ?_
 refine hv hF oM ?_
 refine ag.last ⟨rfl, ?_⟩
 simp only [List.drop_succ_cons, List.drop_zero, List.drop_nil, List.nil_append, List.cons_append]
 refine gv hF (x := .d (.agg 11 [.v (.int .i64 a2), .v (.int .i64 a3), .v (.int .i64 (a0.length : Int)), .list 1 (x5.at_.map (aa .i64)) false, .list 1 (x5.h0.map (aa .i64)) false, .list 1 (x5.h1.map (aa .i64)) false, .v (.int .i64 x5.rights), .v (.int .i64 x5.side), .v (.int .i64 x6.out), .v (.int .i64 x6.n), .list 32 (x3.1.map bc) false])) (aY rfl u38 (by kernel_rfl) rfl (be (n := 11) yv Eh rfl rfl)) ?_
 refine SmG.store hF rfl rfl rfl rfl rfl (aZ (ys := [.d (.v (.int .i64 a2)), .d (.v (.int .i64 a3)), .d (.v (.int .i64 (a0.length : Int))), .d (.list 1 (x5.at_.map (aa .i64)) false), .d (.list 1 (x5.h0.map (aa .i64)) false), .d (.list 1 (x5.h1.map (aa .i64)) false), .d (.v (.int .i64 x5.rights)), .d (.v (.int .i64 x5.side)), .d (.v (.int .i64 x6.out)), .d (.v (.int .i64 x6.n)), .d (.list 32 (x3.1.map bc) false)]) (r := [.d (.v (.int .i64 0)), .d (.v (.int .i64 0)), .d (.v (.int .i64 0)), .d (.list 0 [] true), .d (.list 0 [] true), .d (.list 0 [] true), .d (.v (.int .i64 0)), .d (.v (.int .i64 0)), .d (.v (.int .i64 0)), .d (.v (.int .i64 0)), .d (.list 0 [] true)]) (rows' := [[.d (.v (.int .i64 a2)), .d (.v (.int .i64 a3)), .d (.v (.int .i64 (a0.length : Int))), .d (.list 1 (x5.at_.map (aa .i64)) false), .d (.list 1 (x5.h0.map (aa .i64)) false), .d (.list 1 (x5.h1.map (aa .i64)) false), .d (.v (.int .i64 x5.rights)), .d (.v (.int .i64 x5.side)), .d (.v (.int .i64 x6.out)), .d (.v (.int .i64 x6.n)), .d (.list 32 (x3.1.map bc) false)]]) rfl rfl rfl gG rfl rfl rfl rfl rfl) ?_
 refine gv hF oA ?_
 refine sn ?_
 refine Sm.ret ?_
 obtain rfl := ae h
 exact dI (RetR.cons (RetO.cell rfl (aD (ds := [.v (.int .i64 a2), .v (.int .i64 a3), .v (.int .i64 (a0.length : Int)), .list 1 (x5.at_.map (aa .i64)) false, .list 1 (x5.h0.map (aa .i64)) false, .list 1 (x5.h1.map (aa .i64)) false, .v (.int .i64 x5.rights), .v (.int .i64 x5.side), .v (.int .i64 x6.out), .v (.int .i64 x6.n), .list 32 (x3.1.map bc) false]) rfl rfl kE gG rfl rfl)) (RetR.cons (RetO.tmp rfl) (RetR.nil))) (D.le.refl _)
noncomputable def cP (a1 : Rs) (s5 : (Int × (List UInt8))) : Option ((Int × (List UInt8)) ⊕ List UInt8) :=
 bif (decide (0 ≤ s5.1)) then (
  ob (arI .i64 (8 * s5.1)) fun x10 =>
  ob (jm .i64 a1.n x10) fun x11 =>
  ob (app s5.2 [(w8 x11)]) fun x12 =>
  ob (arI .i64 (s5.1 - 1)) fun x13 =>
  some (.inl (x13, x12))
 ) else (
  some (.inr s5.2)
 )
noncomputable def e8 (a0 : Ps) (a1 : Rs) : Option (List UInt8) :=
 ob (fA a0) fun x1 =>
 ob (ow x1) fun x2 =>
 ob (app [(w8 (a0.at_.length : Int)), (w8 (a0.h0.length : Int)), (w8 (a0.h1.length : Int))] x2) fun x3 =>
 ob (app x3 [(w8 a1.out)]) fun x4 =>
 ob ((
  bx (cP a1) (3, x4)
  : Option (List UInt8))) fun v14 =>
 some v14
set_option maxHeartbeats 4000000 in
theorem mo {a0 : Ps} {a1 : Rs} {r : List UInt8} (h : e8 a0 a1 = some r) : ap Tryd.prog HG 14 [.agg 5 (Ps.row a0), .agg 2 (Rs.row a1)] (.list 1 (r.map aO) false) := by
 unfold e8 at h
 refine ap.of Tryd.func14 rfl Tryd.ntmps14 (by simp) ?_
 intro F hF h0 hT
 show Sm F _ _ ⟨[(0, .d (.agg 5 (Ps.row a0))), (1, .d (.agg 2 (Rs.row a1)))], [], 0⟩
 refine sr hF ?_
 refine b9 hF fO ?_
 refine b9 hF fO ?_
 refine gv hF oA ?_
 refine sn ?_
 refine sr hF ?_
 refine gv hF (oF (aj jP rfl)) ?_
 refine gv hF (oL (lP1 dV rfl)) ?_
 refine gv hF (oN (bp u30)) ?_
 refine gv hF (oC (iP u3 u5)) ?_
 refine gv hF (oF (aj eh rfl)) ?_
 refine gv hF (oI (bR u31 ed rfl rfl)) ?_
 refine gv hF (oL (lP1 dV rfl)) ?_
 refine gv hF (oN (bp u30)) ?_
 refine gv hF (oC (iP u3 u5)) ?_
 refine gv hF (oF (aj eh rfl)) ?_
 refine gv hF (oI (bR u31 ed rfl rfl)) ?_
 refine gv hF (oL (lP1 dV rfl)) ?_
 refine gv hF (oN (bp u30)) ?_
 refine gv hF (oC (iP u3 u5)) ?_
 refine SmG.buildOwn hF (rows := ([(w8 (a0.at_.length : Int)), (w8 (a0.h0.length : Int)), (w8 (a0.h1.length : Int))].map aO)) rfl rfl rfl rfl rfl (az Tryd.underlying24 sz5 ze5 rfl rfl (PartsQ.cons rfl (PartsQ.cons rfl (PartsQ.cons rfl (PartsQ.nil _)))) rfl) (by simp) ?_
 refine gv hF oA ?_
 refine sn ?_
 refine sr hF ?_
 refine gv hF oM ?_
 refine gv hF (x := .d (.agg 5 (Ps.row a0))) (oL (dv fW dA rfl rfl)) ?_
 obtain ⟨x1, hx1, h⟩ := ab h
 refine SmG.call hF rfl rfl (by kernel_rfl) rfl rfl rfl (mY hx1) ?_
 obtain ⟨x2, hx2, h⟩ := ab h
 refine SmG.ofString hF rfl rfl rfl rfl rfl Tryd.underlying9 Tryd.underlying24 Tryd.underlying5 hx2 ?_
 obtain ⟨x3, hx3, h⟩ := ab h
 refine a8 hF m6 rfl (ys := x2) (row := aO) rfl rfl rfl rfl rfl rfl rfl rfl (.inl rfl) hx3 (by (repeat' first | exact bK _ | refine br ?_ | refine au ?_ (aW _ _ _) | refine au ?_ (aW _ _ [_]) | refine au ?_ (bW (by rfl)))) ?_
 refine gv hF oA ?_
 refine sn ?_
 refine sr hF ?_
 refine gv hF oM ?_
 refine gv hF (oF (aj sd rfl)) ?_
 refine gv hF (oL (lP1 ag3 rfl)) ?_
 refine gv hF (oC (iP u3 u5)) ?_
 refine gv hF (x := .d (.list 1 ([(w8 a1.out)].map aO) true)) (oS (az u24 sz5 ze5 rfl rfl (PartsQ.cons rfl (PartsQ.nil _)) rfl)) ?_
 obtain ⟨x4, hx4, h⟩ := ab h
 refine a8 hF m6 rfl (ys := [(w8 a1.out)]) (row := aO) rfl rfl rfl rfl rfl rfl rfl rfl (.inl rfl) hx4 (by (repeat' first | exact bK _ | refine br ?_ | refine au ?_ (aW _ _ _) | refine au ?_ (aW _ _ [_]) | refine au ?_ (bW (by rfl)))) ?_
 refine gv hF oA ?_
 refine sn ?_
 refine Sm.seq ?_
 obtain ⟨v14, hv14, h⟩ := ab h
 refine bg ⟨[(5, .sref 0 0 (v14.map aO).length)], [(0, dB 1 (v14.map aO))], 1⟩ ?_ ?_
 ·refine Sm.seq ?_
  refine ac hF rfl ?_
  refine gv hF oM ?_
  refine gv hF oA ?_
  refine sn ?_
  refine Sm.to (aT (toK (e := [(4, .sref 0 0 (v14.map aO).length)]) (g := [(0, dB 1 (v14.map aO))]) (m := 1) ⟨rfl, trivial⟩ ⟨rfl, trivial⟩) (bE (l := 0) (sz := 1) (env' := [(4, .d (.list 1 (v14.map aO) false))]) (h' := []) (nx := 1) (v14.map aO) rfl ⟨⟨_, rfl, cr⟩, trivial⟩ trivial)) ?_
  refine Sm.ret ?_
  obtain rfl := ae h
  exact bC rfl rfl
 replace h := hv14
 refine sr hF ?_
 refine gv hF oA ?_
 refine sn ?_
 refine Sm.block ?_
 refine bu (cP a1) (fun s5 => ⟨[(3, .d (.ptr 2 (Rs.row a1))), (5, .sref 0 0 (s5.2.map aO).length), (6, .d (.v (.int .i64 s5.1)))], [(0, dB 1 (s5.2.map aO))], 1⟩) (3, x4) h (toK ⟨rfl, rfl, rfl, trivial⟩ ⟨rfl, trivial⟩) ?_
 intro n6 s5 o7 h hd8
 unfold cP at h
 refine Sm.seq ?_
 refine sr hF ?_
 refine gv hF oM ?_
 refine gv hF (oB (nO)) ?_
 refine sn ?_
 refine aM hF rfl (fun hc9 => ?_) (fun hc9 => ?_)
 ·replace h := ifF hc9 h
  refine Sm.exit ?_
  replace h := aE h hd8
  obtain rfl := ae h
  exact (toK ⟨rfl, trivial⟩ ⟨rfl, trivial⟩)
 replace h := ifT hc9 h
 refine sk ?_
 refine Sm.seq ?_
 refine Sm.block ?_
 refine ac hF rfl ?_
 refine gv hF oM ?_
 refine gv hF (oF (aj mc rfl)) ?_
 refine gv hF (oL (lP1 ag3 rfl)) ?_
 refine gv hF oM ?_
 obtain ⟨x10, hx10, h⟩ := ab h
 refine gv hF (oB (gT hx10)) ?_
 obtain ⟨x11, hx11, h⟩ := ab h
 refine gv hF (oB (kM hx11)) ?_
 refine gv hF (oC (iP u3 u5)) ?_
 refine gv hF (x := .d (.list 1 ([(w8 x11)].map aO) true)) (oS (az u24 sz5 ze5 rfl rfl (PartsQ.cons rfl (PartsQ.nil _)) rfl)) ?_
 obtain ⟨x12, hx12, h⟩ := ab h
 refine a8 hF m6 rfl (ys := [(w8 x11)]) (row := aO) rfl rfl rfl rfl rfl rfl rfl rfl (.inl rfl) hx12 (by (repeat' first | exact bK _ | refine br ?_ | refine au ?_ (aW _ _ _) | refine au ?_ (aW _ _ [_]) | refine au ?_ (bW (by rfl)))) ?_
 refine gv hF oA ?_
 refine SmG.nil ?_
 refine ay ?_
 refine af ?_
 refine ac hF rfl ?_
 refine gv hF oM ?_
 obtain ⟨x13, hx13, h⟩ := ab h
 refine gv hF (oB (nz hx13)) ?_
 refine gv hF oA ?_
 refine SmG.nil ?_
 exact bA (bk h hd8) (toK ⟨rfl, rfl, rfl, trivial⟩ ⟨rfl, trivial⟩)
noncomputable def cO (a0 : List Ps) (a1 : List Int) (s1 : (Int × (List Rs))) : Option ((Int × (List Rs)) ⊕ List Rs) :=
 bif (decide (s1.1 < (a0.length : Int))) then (
  ob (arI .i64 (7 * s1.1)) fun x6 =>
  ob ((
   bif (decide (0 < (a1.length : Int))) then (
    ob (cM s1.1 (a1.length : Int)) fun x8 =>
    ob (idx a1 x8) fun x9 =>
    ob (arI .i64 x9) fun x10 =>
    ob (arI .i64 (x10 + s1.1)) fun x11 =>
    some x11
   ) else (
    some x6
   )
   : Option Int)) fun v12 =>
  ob (cM v12 3) fun x13 =>
  ob (arI .i64 (1 + x13)) fun x14 =>
  ob (iV .i64 v12 3) fun x15 =>
  ob (app s1.2 [(⟨x14, x15⟩ : Rs)]) fun x16 =>
  ob (arI .i64 (s1.1 + 1)) fun x17 =>
  some (.inl (x17, x16))
 ) else (
  some (.inr s1.2)
 )
noncomputable def eC (a0 : List Ps) (a1 : List Int) : Option (List Rs) :=
 ob ((
  bx (cO a0 a1) (0, ([] : List Rs))
  : Option (List Rs))) fun v18 =>
 some v18
set_option maxHeartbeats 4000000 in
theorem kW {a0 : List Ps} {a1 : List Int} {r : List Rs} (h : eC a0 a1 = some r) : ap Tryd.prog HG 31 [.list 5 (a0.map Ps.row) false, .list 1 (a1.map (aa .u16)) false] (.list 2 (r.map Rs.row) false) := by
 unfold eC at h
 refine ap.of Tryd.func31 rfl Tryd.ntmps31 (by simp) ?_
 intro F hF h0 hT
 show Sm F _ _ ⟨[(0, .d (.list 5 (a0.map Ps.row) false)), (1, .d (.list 1 (a1.map (aa .u16)) false))], [], 0⟩
 refine sr hF ?_
 refine gv hF oA ?_
 refine sn ?_
 refine sr hF ?_
 refine gv hF (x := .d (.list 2 (([] : List Rs).map Rs.row) true)) (oS (fJ u41 fF)) ?_
 refine gv hF oA ?_
 refine sn ?_
 refine Sm.seq ?_
 obtain ⟨v18, hv18, h⟩ := ab h
 refine bg ⟨[(5, .d (.list 2 (v18.map Rs.row) false))], [], 1⟩ ?_ ?_
 ·refine Sm.seq ?_
  refine ac hF rfl ?_
  refine gv hF oM ?_
  refine gv hF oA ?_
  refine sn ?_
  refine Sm.ret ?_
  obtain rfl := ae h
  exact bC rfl rfl
 replace h := hv18
 refine sr hF ?_
 refine gv hF oA ?_
 refine sn ?_
 refine Sm.block ?_
 refine Sm.to (toK (e := [(0, .d (.list 5 (a0.map Ps.row) false)), (1, .d (.list 1 (a1.map (aa .u16)) false)), (5, .d (.list 2 ([].map Rs.row) true)), (6, .d (.v (.int .i64 0)))]) (g := []) (m := 0) ⟨rfl, rfl, rfl, rfl, trivial⟩ trivial) ?_
 refine Sm.own (t := 5) 2 rfl ?_
 refine bu (cO a0 a1) (fun s1 => ⟨[(0, .d (.list 5 (a0.map Ps.row) false)), (1, .d (.list 1 (a1.map (aa .u16)) false)), (5, .sref 0 0 (s1.2.map Rs.row).length), (6, .d (.v (.int .i64 s1.1)))], [(0, dB 2 (s1.2.map Rs.row))], 1⟩) (0, ([] : List Rs)) h (toK ⟨rfl, rfl, rfl, rfl, trivial⟩ ⟨rfl, trivial⟩) ?_
 intro n2 s1 o3 h hd4
 unfold cO at h
 refine Sm.seq ?_
 refine sr hF ?_
 refine gv hF oM ?_
 refine gv hF oM ?_
 refine gv hF (oN (bp u40)) ?_
 refine gv hF (oB (bt)) ?_
 refine sn ?_
 refine aM hF rfl (fun hc5 => ?_) (fun hc5 => ?_)
 ·replace h := ifF hc5 h
  refine Sm.exit ?_
  replace h := aE h hd4
  obtain rfl := ae h
  exact (aT (toK (e := [(5, .sref 0 0 (s1.2.map Rs.row).length)]) (g := [(0, dB 2 (s1.2.map Rs.row))]) (m := 1) ⟨rfl, trivial⟩ ⟨rfl, trivial⟩) (bE (l := 0) (sz := 2) (env' := [(5, .d (.list 2 (s1.2.map Rs.row) false))]) (h' := []) (nx := 1) (s1.2.map Rs.row) rfl ⟨⟨_, rfl, cr⟩, trivial⟩ trivial))
 replace h := ifT hc5 h
 refine sk ?_
 refine Sm.seq ?_
 refine Sm.block ?_
 refine sr hF ?_
 refine gv hF oM ?_
 obtain ⟨x6, hx6, h⟩ := ab h
 refine gv hF (oB (gT hx6)) ?_
 refine gv hF oA ?_
 refine sn ?_
 refine Sm.seq ?_
 obtain ⟨v12, hv12, h⟩ := ab h
 refine bg ⟨[(0, .d (.list 5 (a0.map Ps.row) false)), (1, .d (.list 1 (a1.map (aa .u16)) false)), (5, .sref 0 0 (s1.2.map Rs.row).length), (6, .d (.v (.int .i64 s1.1))), (7, .d (.v (.int .i64 v12)))], [(0, dB 2 (s1.2.map Rs.row))], 1⟩ ?_ ?_
 ·refine ac hF rfl ?_
  refine gv hF oM ?_
  refine gv hF oM ?_
  obtain ⟨x13, hx13, h⟩ := ab h
  refine gv hF (oB (bS hx13)) ?_
  obtain ⟨x14, hx14, h⟩ := ab h
  refine gv hF (oB (aX hx14)) ?_
  refine gv hF oM ?_
  obtain ⟨x15, hx15, h⟩ := ab h
  refine gv hF (oB (jR hx15)) ?_
  refine gv hF (x := .d (.agg 2 [.v (.int .i64 x14), .v (.int .i64 x15)])) (aY rfl u35 (by kernel_rfl) rfl (be (n := 2) od zb rfl rfl)) ?_
  refine gv hF (x := .d (.list 2 ([(⟨x14, x15⟩ : Rs)].map Rs.row) true)) (oS (az u41 fF od rfl rfl (PartsQ.cons rfl (PartsQ.nil _)) rfl)) ?_
  obtain ⟨x16, hx16, h⟩ := ab h
  refine a8 hF Dt rfl (ys := [(⟨x14, x15⟩ : Rs)]) (row := Rs.row) rfl rfl rfl rfl rfl rfl rfl rfl (.inl rfl) hx16 (by (repeat' first | exact bK _ | refine br ?_ | refine au ?_ (aW _ _ _) | refine au ?_ (aW _ _ [_]) | refine au ?_ (bW (by rfl)))) ?_
  refine gv hF oA ?_
  refine SmG.nil ?_
  refine ay ?_
  refine af ?_
  refine ac hF rfl ?_
  refine gv hF oM ?_
  obtain ⟨x17, hx17, h⟩ := ab h
  refine gv hF (oB (aX hx17)) ?_
  refine gv hF oA ?_
  refine SmG.nil ?_
  exact bA (bk h hd4) (toK ⟨rfl, rfl, rfl, rfl, trivial⟩ ⟨rfl, trivial⟩)
 replace h := hv12
 refine sr hF ?_
 refine gv hF oM ?_
 refine gv hF (oN (bp u45)) ?_
 refine gv hF (oB (iF)) ?_
 refine sn ?_
 refine aM hF rfl (fun hc7 => ?_) (fun hc7 => ?_)
 ·replace h := ifF hc7 h
  refine Sm.skip ?_
  obtain rfl := ae h
  exact (toK ⟨rfl, rfl, rfl, rfl, rfl, trivial⟩ ⟨rfl, trivial⟩)
 replace h := ifT hc7 h
 refine ac hF rfl ?_
 refine gv hF oM ?_
 refine gv hF oM ?_
 refine gv hF oM ?_
 refine gv hF (oN (bp u45)) ?_
 obtain ⟨x8, hx8, h⟩ := ab h
 refine gv hF (oB (bS hx8)) ?_
 obtain ⟨x9, hx9, h⟩ := ab h
 refine gv hF (oI (bF u45 wW hx9)) ?_
 refine gv hF (oL (lP1 yr rfl)) ?_
 obtain ⟨x10, hx10, h⟩ := ab h
 refine gv hF (oC (jA u44 u3 hx10)) ?_
 refine gv hF oM ?_
 obtain ⟨x11, hx11, h⟩ := ab h
 refine gv hF (oB (aX hx11)) ?_
 refine gv hF oA ?_
 refine SmG.nil ?_
 obtain rfl := ae h
 exact (toK ⟨rfl, rfl, rfl, rfl, rfl, trivial⟩ ⟨rfl, trivial⟩)
end
section
open Go.RowKit
set_option maxRecDepth 100000
noncomputable def gM (a0 : Int) (a1 : Int) (a2 : Int) : Option Bool :=
 bif (decide (a1 ≤ a0)) then (
  some (decide (a0 ≤ a2))
 ) else (
  some false
 )
set_option maxHeartbeats 4000000 in
theorem pB {a0 : Int} {a1 : Int} {a2 : Int} {r : Bool} (h : gM a0 a1 a2 = some r) : ap Tryd.prog HG 88 [.v (.int .i64 a0), .ptr 1 [.v (.int .i64 a1)], .ptr 1 [.v (.int .i64 a2)]] (.v (.bool r)) := by
 unfold gM at h
 refine ap.of Tryd.func88 rfl Tryd.ntmps88 (by simp) ?_
 intro F hF h0 hT
 show Sm F _ _ ⟨[(0, .d (.v (.int .i64 a0))), (1, .d (.ptr 1 [.v (.int .i64 a1)])), (2, .d (.ptr 1 [.v (.int .i64 a2)]))], [], 0⟩
 refine sr hF ?_
 refine gv hF oA ?_
 refine sn ?_
 refine sr hF ?_
 refine gv hF (oL (lP1 ag3 rfl)) ?_
 refine gv hF oM ?_
 refine gv hF (oB (uh)) ?_
 rcases eP (decide (a1 ≤ a0)) with hc1 | hc1
 ·replace h := ifT hc1 h
  refine gv hF (aq rfl rfl hc1) ?_
  refine gv hF oM ?_
  refine gv hF (oL (lP1 ag3 rfl)) ?_
  refine gv hF (oB (uh)) ?_
  refine gv hF (ax rfl rfl rfl) ?_
  refine gv hF oA ?_
  refine sn ?_
  refine Sm.ret ?_
  obtain rfl := ae h
  exact bC rfl rfl
 replace h := ifF hc1 h
 refine gv hF (aq rfl rfl hc1) ?_
 refine gp hF ?_
 refine gp hF ?_
 refine gp hF ?_
 refine gv hF (ak rfl rfl rfl) ?_
 refine gv hF oA ?_
 refine sn ?_
 refine Sm.ret ?_
 obtain rfl := ae h
 exact bC rfl rfl
noncomputable def gP (a0 : Int) (a1 : Int) : Option (FnV Tryd.prog HG (α := Int) (β := Bool) (fun x => [.v (.int .i64 x)]) (fun y => .v (.bool y))) :=
 some (⟨88, [.ptr 1 [.v (.int .i64 a0)], .ptr 1 [.v (.int .i64 a1)]], fun x => gM x a0 a1, by kernel_rfl, fun x y h => pB h⟩ : (FnV Tryd.prog HG (α := Int) (β := Bool) (fun x => [.v (.int .i64 x)]) (fun y => .v (.bool y))))
set_option maxHeartbeats 4000000 in
theorem ka {a0 : Int} {a1 : Int} {r : (FnV Tryd.prog HG (α := Int) (β := Bool) (fun x => [.v (.int .i64 x)]) (fun y => .v (.bool y)))} (h : gP a0 a1 = some r) : ap Tryd.prog HG 67 [.v (.int .i64 a0), .v (.int .i64 a1)] (.fn r.g r.c) := by
 unfold gP at h
 refine ap.of Tryd.func67 rfl Tryd.ntmps67 (by simp) ?_
 intro F hF h0 hT
 show Sm F _ _ ⟨[(0, .d (.v (.int .i64 a0))), (1, .d (.v (.int .i64 a1)))], [], 0⟩
 refine sr hF ?_
 refine b9 hF w7 ?_
 refine b9 hF w7 ?_
 refine gv hF oA ?_
 refine sn ?_
 refine sr hF ?_
 refine gv hF (gk rfl rfl) ?_
 refine gv hF oA ?_
 refine sn ?_
 refine Sm.ret ?_
 obtain rfl := ae h
 exact bC rfl rfl
noncomputable def bZ (a0 : List Int) (a1 : (FnV Tryd.prog HG (α := Int) (β := Bool) (fun x => [.v (.int .i64 x)]) (fun y => .v (.bool y)))) (s1 : Int) : Option (Int ⊕ (Unit ⊕ Int)) :=
 bif (decide (s1 < (a0.length : Int))) then (
  ob (idx a0 s1) fun x6 =>
  ob (a1.f x6) fun x7 =>
  bif x7 then (
   some (.inr (.inr s1))
  ) else (
   ob (arI .i64 (s1 + 1)) fun x9 =>
   some (.inl x9)
  )
 ) else (
  some (.inr (.inl ()))
 )
noncomputable def dG (a0 : List Int) (a1 : (FnV Tryd.prog HG (α := Int) (β := Bool) (fun x => [.v (.int .i64 x)]) (fun y => .v (.bool y)))) : Option Int :=
 ob ((
  bx (bZ a0 a1) 0
  : Option (Unit ⊕ Int))) fun o11 => match o11 with
 | .inl v10 => (
  some (-1)
  )
 | .inr e12 => some e12
set_option maxHeartbeats 4000000 in
theorem ja {a0 : List Int} {a1 : (FnV Tryd.prog HG (α := Int) (β := Bool) (fun x => [.v (.int .i64 x)]) (fun y => .v (.bool y)))} {r : Int} (h : dG a0 a1 = some r) : ap Tryd.prog HG 89 [.list 1 (a0.map (aa .i64)) false, .fn a1.g a1.c] (.v (.int .i64 r)) := by
 unfold dG at h
 refine ap.of Tryd.func89 rfl Tryd.ntmps89 (by simp) ?_
 intro F hF h0 hT
 show Sm F _ _ ⟨[(0, .d (.list 1 (a0.map (aa .i64)) false)), (1, .d (.fn a1.g a1.c))], [], 0⟩
 refine sr hF ?_
 refine gv hF oA ?_
 refine sn ?_
 refine Sm.seq ?_
 obtain ⟨o11, ho11, h⟩ := ab h
 rcases pz o11 with ⟨e12, rfl⟩ | ⟨v10, rfl⟩
 ·have he12 := ae h
  subst he12
  replace h := ho11
  refine sr hF ?_
  refine gv hF oM ?_
  refine gv hF (oN (bp u30)) ?_
  refine gv hF oM ?_
  refine sn ?_
  refine Sm.block ?_
  refine bu (bZ a0 a1) (fun s1 => ⟨[(0, .d (.list 1 (a0.map (aa .i64)) false)), (1, .d (.fn a1.g a1.c)), (7, .d (.v (.int .i64 (a0.length : Int)))), (8, .d (.v (.int .i64 s1)))], [], 0⟩) 0 h (toK ⟨rfl, rfl, rfl, rfl, trivial⟩ trivial) ?_
  intro n2 s1 o3 h hd4
  unfold bZ at h
  refine sr hF ?_
  refine gv hF (oB (bt)) ?_
  refine sn ?_
  refine Sm.seq ?_
  refine aM hF rfl (fun hc5 => ?_) (fun hc5 => ?_)
  ·replace h := ifF hc5 h
   refine Sm.exit ?_
   replace h := aE h hd4
   cases h
  replace h := ifT hc5 h
  refine sk ?_
  refine Sm.seq ?_
  refine Sm.block ?_
  refine sr hF ?_
  refine gv hF oM ?_
  refine gv hF oA ?_
  refine sn ?_
  refine sr hF ?_
  refine gv hF oM ?_
  refine gv hF oM ?_
  refine gv hF oM ?_
  obtain ⟨x6, hx6, h⟩ := ab h
  refine gv hF (oI (bF u30 sz3 hx6)) ?_
  refine gv hF (oL (lP1 ag3 rfl)) ?_
  obtain ⟨x7, hx7, h⟩ := ab h
  refine SmG.callF hF rfl rfl rfl rfl rfl rfl a1.body (a1.ok _ _ hx7) ?_
  refine sn ?_
  refine aM hF rfl (fun hc8 => ?_) (fun hc8 => ?_)
  ·replace h := ifF hc8 h
   refine Sm.skip ?_
   refine ay ?_
   refine af ?_
   refine ac hF rfl ?_
   obtain ⟨x9, hx9, h⟩ := ab h
   refine gv hF (oB (aX hx9)) ?_
   refine gv hF oM ?_
   refine SmG.nil ?_
   exact bA (bk h hd4) (toK ⟨rfl, rfl, rfl, rfl, trivial⟩ trivial)
  replace h := ifT hc8 h
  refine sr hF ?_
  refine gv hF oM ?_
  refine gv hF oA ?_
  refine sn ?_
  refine Sm.ret ?_
  replace h := aE h hd4
  replace h := fK h
  obtain rfl := ae h
  exact bC rfl rfl
 refine bg ⟨[], [], 0⟩ ?_ ?_
 ·refine Sm.seq ?_
  refine ac hF rfl ?_
  refine gv hF oA ?_
  refine sn ?_
  refine Sm.ret ?_
  obtain rfl := ae h
  exact bC rfl rfl
 replace h := ho11
 refine sr hF ?_
 refine gv hF oM ?_
 refine gv hF (oN (bp u30)) ?_
 refine gv hF oM ?_
 refine sn ?_
 refine Sm.block ?_
 refine bu (bZ a0 a1) (fun s1 => ⟨[(0, .d (.list 1 (a0.map (aa .i64)) false)), (1, .d (.fn a1.g a1.c)), (7, .d (.v (.int .i64 (a0.length : Int)))), (8, .d (.v (.int .i64 s1)))], [], 0⟩) 0 h (toK ⟨rfl, rfl, rfl, rfl, trivial⟩ trivial) ?_
 intro n2 s1 o3 h hd4
 unfold bZ at h
 refine sr hF ?_
 refine gv hF (oB (bt)) ?_
 refine sn ?_
 refine Sm.seq ?_
 refine aM hF rfl (fun hc5 => ?_) (fun hc5 => ?_)
 ·replace h := ifF hc5 h
  refine Sm.exit ?_
  replace h := aE h hd4
  obtain rfl := ae (gR h)
  exact (toK trivial trivial)
 replace h := ifT hc5 h
 refine sk ?_
 refine Sm.seq ?_
 refine Sm.block ?_
 refine sr hF ?_
 refine gv hF oM ?_
 refine gv hF oA ?_
 refine sn ?_
 refine sr hF ?_
 refine gv hF oM ?_
 refine gv hF oM ?_
 refine gv hF oM ?_
 obtain ⟨x6, hx6, h⟩ := ab h
 refine gv hF (oI (bF u30 sz3 hx6)) ?_
 refine gv hF (oL (lP1 ag3 rfl)) ?_
 obtain ⟨x7, hx7, h⟩ := ab h
 refine SmG.callF hF rfl rfl rfl rfl rfl rfl a1.body (a1.ok _ _ hx7) ?_
 refine sn ?_
 refine bD hF rfl (fun hc8 => ?_) (fun hc8 => ?_)
 ·replace h := ifT hc8 h
  refine sr hF ?_
  refine gv hF oM ?_
  refine gv hF oA ?_
  refine sn ?_
  refine Sm.ret ?_
  replace h := aE h hd4
  cases h
 replace h := ifF hc8 h
 refine Sm.skip ?_
 refine ay ?_
 refine af ?_
 refine ac hF rfl ?_
 obtain ⟨x9, hx9, h⟩ := ab h
 refine gv hF (oB (aX hx9)) ?_
 refine gv hF oM ?_
 refine SmG.nil ?_
 exact bA (bk h hd4) (toK ⟨rfl, rfl, rfl, rfl, trivial⟩ trivial)
noncomputable def cF (a0 : List Int) (a1 : (FnV Tryd.prog HG (α := Int) (β := Bool) (fun x => [.v (.int .i64 x)]) (fun y => .v (.bool y)))) : Option Bool :=
 ob (dG a0 a1) fun x1 =>
 some (decide (0 ≤ x1))
set_option maxHeartbeats 4000000 in
theorem iA {a0 : List Int} {a1 : (FnV Tryd.prog HG (α := Int) (β := Bool) (fun x => [.v (.int .i64 x)]) (fun y => .v (.bool y)))} {r : Bool} (h : cF a0 a1 = some r) : ap Tryd.prog HG 69 [.list 1 (a0.map (aa .i64)) false, .fn a1.g a1.c] (.v (.bool r)) := by
 unfold cF at h
 refine ap.of Tryd.func69 rfl Tryd.ntmps69 (by simp) ?_
 intro F hF h0 hT
 show Sm F _ _ ⟨[(0, .d (.list 1 (a0.map (aa .i64)) false)), (1, .d (.fn a1.g a1.c))], [], 0⟩
 refine sr hF ?_
 refine gv hF oA ?_
 refine sn ?_
 refine sr hF ?_
 refine gv hF oM ?_
 refine gv hF oM ?_
 obtain ⟨x1, hx1, h⟩ := ab h
 refine SmG.call hF rfl rfl (by kernel_rfl) rfl rfl rfl (ja hx1) ?_
 refine gv hF (oB (nO)) ?_
 refine gv hF oA ?_
 refine sn ?_
 refine Sm.ret ?_
 obtain rfl := ae h
 exact bC rfl rfl
noncomputable def e9 (a0 : Int) (a1 : (FnV Tryd.prog HG (α := Int) (β := Bool) (fun x => [.v (.int .i64 x)]) (fun y => .v (.bool y)))) : Option Bool :=
 ob (a1.f a0) fun x1 =>
 some (!x1)
set_option maxHeartbeats 4000000 in
theorem mm {a0 : Int} {a1 : (FnV Tryd.prog HG (α := Int) (β := Bool) (fun x => [.v (.int .i64 x)]) (fun y => .v (.bool y)))} {r : Bool} (h : e9 a0 a1 = some r) : ap Tryd.prog HG 70 [.v (.int .i64 a0), .ptr 1 [.fn a1.g a1.c]] (.v (.bool r)) := by
 unfold e9 at h
 refine ap.of Tryd.func70 rfl Tryd.ntmps70 (by simp) ?_
 intro F hF h0 hT
 show Sm F _ _ ⟨[(0, .d (.v (.int .i64 a0))), (1, .d (.ptr 1 [.fn a1.g a1.c]))], [], 0⟩
 refine sr hF ?_
 refine gv hF oA ?_
 refine sn ?_
 refine sr hF ?_
 refine gv hF (oL (lP1 rc rfl)) ?_
 refine gv hF oM ?_
 obtain ⟨x1, hx1, h⟩ := ab h
 refine SmG.callF hF rfl rfl rfl rfl rfl rfl a1.body (a1.ok _ _ hx1) ?_
 refine gv hF (gU rfl rfl (ix _)) ?_
 refine gv hF oA ?_
 refine sn ?_
 refine Sm.ret ?_
 obtain rfl := ae h
 exact bC rfl rfl
noncomputable def dZ (a0 : List Int) (a1 : (FnV Tryd.prog HG (α := Int) (β := Bool) (fun x => [.v (.int .i64 x)]) (fun y => .v (.bool y)))) : Option Bool :=
 bif (decide ((a0.length : Int) ≤ 255)) then (
  ob (cF a0 (⟨70, [.ptr 1 [.fn a1.g a1.c]], fun x => e9 x a1, by kernel_rfl, fun x y h => mm h⟩ : (FnV Tryd.prog HG (α := Int) (β := Bool) (fun x => [.v (.int .i64 x)]) (fun y => .v (.bool y))))) fun x2 =>
  some (!x2)
 ) else (
  some false
 )
set_option maxHeartbeats 4000000 in
theorem gY {a0 : List Int} {a1 : (FnV Tryd.prog HG (α := Int) (β := Bool) (fun x => [.v (.int .i64 x)]) (fun y => .v (.bool y)))} {r : Bool} (h : dZ a0 a1 = some r) : ap Tryd.prog HG 68 [.list 1 (a0.map (aa .i64)) false, .ptr 1 [.fn a1.g a1.c]] (.v (.bool r)) := by
 unfold dZ at h
 refine ap.of Tryd.func68 rfl Tryd.ntmps68 (by simp) ?_
 intro F hF h0 hT
 show Sm F _ _ ⟨[(0, .d (.list 1 (a0.map (aa .i64)) false)), (1, .d (.ptr 1 [.fn a1.g a1.c]))], [], 0⟩
 refine sr hF ?_
 refine gv hF oA ?_
 refine sn ?_
 refine sr hF ?_
 refine gv hF oM ?_
 refine gv hF (oN (bp u30)) ?_
 refine gv hF (oB (uh)) ?_
 rcases ci (decide ((a0.length : Int) ≤ 255)) with hc1 | hc1
 ·replace h := ifF hc1 h
  refine gv hF (aq rfl rfl hc1) ?_
  refine gp hF ?_
  refine gp hF ?_
  refine gp hF ?_
  refine gp hF ?_
  refine gv hF (ak rfl rfl rfl) ?_
  refine gv hF oA ?_
  refine sn ?_
  refine Sm.ret ?_
  obtain rfl := ae h
  exact bC rfl rfl
 replace h := ifT hc1 h
 refine gv hF (aq rfl rfl hc1) ?_
 refine gv hF oM ?_
 refine gv hF (gk rfl rfl) ?_
 obtain ⟨x2, hx2, h⟩ := ab h
 refine SmG.call hF rfl rfl (by kernel_rfl) rfl rfl rfl (iA hx2) ?_
 refine gv hF (gU rfl rfl (ix _)) ?_
 refine gv hF (ax rfl rfl rfl) ?_
 refine gv hF oA ?_
 refine sn ?_
 refine Sm.ret ?_
 obtain rfl := ae h
 exact bC rfl rfl
noncomputable def gj (a0 : Ps) (a1 : Rs) : Option Bool :=
 ob (gP 0 255) fun x1 =>
 ob (dZ a0.at_ x1) fun x2 =>
 bif x2 then (
  ob (dZ a0.h0 x1) fun x4 =>
  bif x4 then (
   ob (dZ a0.h1 x1) fun x6 =>
   bif x6 then (
    ob (x1.f a0.rights) fun x8 =>
    bif x8 then (
     ob (x1.f a0.side) fun x10 =>
     bif x10 then (
      ob (gP 1 3) fun x12 =>
      ob (x12.f a1.out) fun x13 =>
      bif x13 then (
       ob (gP 0 2147483647) fun x15 =>
       ob (x15.f a1.n) fun x16 =>
       some x16
      ) else (
       some false
      )
     ) else (
      some false
     )
    ) else (
     some false
    )
   ) else (
    some false
   )
  ) else (
   some false
  )
 ) else (
  some false
 )
set_option maxHeartbeats 4000000 in
theorem oQ {a0 : Ps} {a1 : Rs} {r : Bool} (h : gj a0 a1 = some r) : ap Tryd.prog HG 44 [.agg 5 (Ps.row a0), .agg 2 (Rs.row a1)] (.v (.bool r)) := by
 unfold gj at h
 refine ap.of Tryd.func44 rfl Tryd.ntmps44 (by simp) ?_
 intro F hF h0 hT
 show Sm F _ _ ⟨[(0, .d (.agg 5 (Ps.row a0))), (1, .d (.agg 2 (Rs.row a1)))], [], 0⟩
 refine sr hF ?_
 refine b9 hF fO ?_
 refine b9 hF fO ?_
 refine gv hF oA ?_
 refine sn ?_
 refine sr hF ?_
 obtain ⟨x1, hx1, h⟩ := ab h
 refine SmG.call hF rfl rfl (by kernel_rfl) rfl rfl rfl (ka hx1) ?_
 refine SmG.new hF rfl rfl rfl (aV rfl Am) ?_
 refine SmG.store hF rfl rfl rfl rfl rfl (cR (rows' := [[.d (.fn x1.g x1.c)]]) rfl rfl rfl xn rfl rfl rfl) ?_
 refine sn ?_
 refine sr hF ?_
 refine dt (aT (toK (e := [(2, .d (.ptr 5 (Ps.row a0))), (3, .d (.ptr 2 (Rs.row a1))), (5, .ref 0 0 0)]) (g := [(0, ⟨1, [[.d (.fn x1.g x1.c)]]⟩)]) (m := 1) ⟨rfl, rfl, rfl, trivial⟩ ⟨rfl, trivial⟩) (bE (l := 0) (sz := 1) (env' := [(2, .d (.ptr 5 (Ps.row a0))), (3, .d (.ptr 2 (Rs.row a1))), (5, .d (.ptr 1 [.fn x1.g x1.c]))]) (h' := []) (nx := 1) [[.fn x1.g x1.c]] rfl ⟨⟨_, rfl, rfl⟩, ⟨_, rfl, rfl⟩, ⟨_, rfl, rfl⟩, trivial⟩ trivial)) rfl ?_
 refine gv hF (gk rfl rfl) ?_
 refine gv hF oA ?_
 refine sn ?_
 refine Sm.seq ?_
 refine bd hF (by kernel_rfl) rfl 40 (by kernel_rfl) (by kernel_rfl) ?_
 simp only [List.take_succ_cons, List.take_zero, List.take_nil]
 refine hv hF oM ?_
 refine hv hF (oF (aj jP rfl)) ?_
 refine hv hF (oL (lP1 dV rfl)) ?_
 obtain ⟨x2, hx2, h⟩ := ab h
 refine kz hF rfl rfl rfl rfl rfl rfl (by kernel_rfl) (gY hx2) ?_
 rcases ci x2 with hc3 | hc3
 ·replace h := ifF hc3 h
  refine hv hF (aq rfl rfl hc3) ?_
  refine hp hF ?_
  refine hp hF ?_
  refine hp hF ?_
  refine hp hF ?_
  refine hp hF ?_
  refine hv hF (ak rfl rfl rfl) ?_
  refine hv hF oM ?_
  refine hp hF ?_
  refine hp hF ?_
  refine hp hF ?_
  refine hp hF ?_
  refine hp hF ?_
  refine hv hF (ak rfl rfl rfl) ?_
  refine hv hF oM ?_
  refine hp hF ?_
  refine hp hF ?_
  refine hp hF ?_
  refine hp hF ?_
  refine hv hF (ak rfl rfl rfl) ?_
  refine hv hF oM ?_
  refine hp hF ?_
  refine hp hF ?_
  refine hp hF ?_
  refine hp hF ?_
  refine hv hF (ak rfl rfl rfl) ?_
  refine hv hF oM ?_
  refine hp hF ?_
  refine hp hF ?_
  refine hp hF ?_
  refine hp hF ?_
  refine hv hF (ak rfl rfl rfl) ?_
  refine hv hF oM ?_
  refine hp hF ?_
  refine hp hF ?_
  refine hp hF ?_
  refine ag.last ⟨rfl, ?_⟩
  simp only [List.drop_succ_cons, List.drop_zero, List.drop_nil, List.nil_append, List.cons_append]
  refine gp hF ?_
  refine gv hF (ak rfl rfl rfl) ?_
  refine gv hF oA ?_
  refine sn ?_
  refine Sm.ret ?_
  obtain rfl := ae h
  exact bC rfl rfl
 replace h := ifT hc3 h
 refine hv hF (aq rfl rfl hc3) ?_
 refine hv hF oM ?_
 refine hv hF (oF (aj eh rfl)) ?_
 refine hv hF (oI (bR u31 ed rfl rfl)) ?_
 refine hv hF (oL (lP1 dV rfl)) ?_
 obtain ⟨x4, hx4, h⟩ := ab h
 refine kz hF rfl rfl rfl rfl rfl rfl (by kernel_rfl) (gY hx4) ?_
 refine hv hF (ax rfl rfl rfl) ?_
 rcases ci x4 with hc5 | hc5
 ·replace h := ifF hc5 h
  refine hv hF (aq rfl rfl hc5) ?_
  refine hp hF ?_
  refine hp hF ?_
  refine hp hF ?_
  refine hp hF ?_
  refine hp hF ?_
  refine hv hF (ak rfl rfl rfl) ?_
  refine hv hF oM ?_
  refine hp hF ?_
  refine hp hF ?_
  refine hp hF ?_
  refine hp hF ?_
  refine hv hF (ak rfl rfl rfl) ?_
  refine hv hF oM ?_
  refine hp hF ?_
  refine hp hF ?_
  refine hp hF ?_
  refine hp hF ?_
  refine hv hF (ak rfl rfl rfl) ?_
  refine hv hF oM ?_
  refine hp hF ?_
  refine hp hF ?_
  refine hp hF ?_
  refine hp hF ?_
  refine hv hF (ak rfl rfl rfl) ?_
  refine hv hF oM ?_
  refine hp hF ?_
  refine hp hF ?_
  refine hp hF ?_
  refine ag.last ⟨rfl, ?_⟩
  simp only [List.drop_succ_cons, List.drop_zero, List.drop_nil, List.nil_append, List.cons_append]
  refine gp hF ?_
  refine gv hF (ak rfl rfl rfl) ?_
  refine gv hF oA ?_
  refine sn ?_
  refine Sm.ret ?_
  obtain rfl := ae h
  exact bC rfl rfl
 replace h := ifT hc5 h
 refine hv hF (aq rfl rfl hc5) ?_
 refine hv hF oM ?_
 refine hv hF (oF (aj eh rfl)) ?_
 refine hv hF (oI (bR u31 ed rfl rfl)) ?_
 refine hv hF (oL (lP1 dV rfl)) ?_
 obtain ⟨x6, hx6, h⟩ := ab h
 refine kz hF rfl rfl rfl rfl rfl rfl (by kernel_rfl) (gY hx6) ?_
 refine hv hF (ax rfl rfl rfl) ?_
 rcases ci x6 with hc7 | hc7
 ·replace h := ifF hc7 h
  refine hv hF (aq rfl rfl hc7) ?_
  refine hp hF ?_
  refine hp hF ?_
  refine hp hF ?_
  refine hp hF ?_
  refine hv hF (ak rfl rfl rfl) ?_
  refine hv hF oM ?_
  refine hp hF ?_
  refine hp hF ?_
  refine hp hF ?_
  refine hp hF ?_
  refine hv hF (ak rfl rfl rfl) ?_
  refine hv hF oM ?_
  refine hp hF ?_
  refine hp hF ?_
  refine hp hF ?_
  refine hp hF ?_
  refine hv hF (ak rfl rfl rfl) ?_
  refine hv hF oM ?_
  refine hp hF ?_
  refine hp hF ?_
  refine hp hF ?_
  refine ag.last ⟨rfl, ?_⟩
  simp only [List.drop_succ_cons, List.drop_zero, List.drop_nil, List.nil_append, List.cons_append]
  refine gp hF ?_
  refine gv hF (ak rfl rfl rfl) ?_
  refine gv hF oA ?_
  refine sn ?_
  refine Sm.ret ?_
  obtain rfl := ae h
  exact bC rfl rfl
 replace h := ifT hc7 h
 refine hv hF (aq rfl rfl hc7) ?_
 refine hv hF (oL (lP1 rc rfl)) ?_
 refine hv hF (oF (aj nE rfl)) ?_
 refine hv hF (oL (lP1 ag3 rfl)) ?_
 obtain ⟨x8, hx8, h⟩ := ab h
 refine kz hF rfl rfl rfl rfl rfl rfl x1.body (x1.ok _ _ hx8) ?_
 refine hv hF (ax rfl rfl rfl) ?_
 rcases ci x8 with hc9 | hc9
 ·replace h := ifF hc9 h
  refine hv hF (aq rfl rfl hc9) ?_
  refine hp hF ?_
  refine hp hF ?_
  refine hp hF ?_
  refine hp hF ?_
  refine hv hF (ak rfl rfl rfl) ?_
  refine hv hF oM ?_
  refine hp hF ?_
  refine hp hF ?_
  refine hp hF ?_
  refine hp hF ?_
  refine hv hF (ak rfl rfl rfl) ?_
  refine hv hF oM ?_
  refine hp hF ?_
  refine hp hF ?_
  refine hp hF ?_
  refine ag.last ⟨rfl, ?_⟩
  simp only [List.drop_succ_cons, List.drop_zero, List.drop_nil, List.nil_append, List.cons_append]
  refine gp hF ?_
  refine gv hF (ak rfl rfl rfl) ?_
  refine gv hF oA ?_
  refine sn ?_
  refine Sm.ret ?_
  obtain rfl := ae h
  exact bC rfl rfl
 replace h := ifT hc9 h
 refine hv hF (aq rfl rfl hc9) ?_
 refine hv hF (oL (lP1 rc rfl)) ?_
 refine hv hF (oF (aj ne rfl)) ?_
 refine hv hF (oL (lP1 ag3 rfl)) ?_
 obtain ⟨x10, hx10, h⟩ := ab h
 refine kz hF rfl rfl rfl rfl rfl rfl x1.body (x1.ok _ _ hx10) ?_
 refine hv hF (ax rfl rfl rfl) ?_
 rcases ci x10 with hc11 | hc11
 ·replace h := ifF hc11 h
  refine hv hF (aq rfl rfl hc11) ?_
  refine hp hF ?_
  refine hp hF ?_
  refine hp hF ?_
  refine hp hF ?_
  refine hv hF (ak rfl rfl rfl) ?_
  refine hv hF oM ?_
  refine hp hF ?_
  refine hp hF ?_
  refine hp hF ?_
  refine ag.last ⟨rfl, ?_⟩
  simp only [List.drop_succ_cons, List.drop_zero, List.drop_nil, List.nil_append, List.cons_append]
  refine gp hF ?_
  refine gv hF (ak rfl rfl rfl) ?_
  refine gv hF oA ?_
  refine sn ?_
  refine Sm.ret ?_
  obtain rfl := ae h
  exact bC rfl rfl
 replace h := ifT hc11 h
 refine hv hF (aq rfl rfl hc11) ?_
 obtain ⟨x12, hx12, h⟩ := ab h
 refine ag.c hF rfl rfl (by kernel_rfl) rfl rfl rfl (ka hx12) ?_
 refine hv hF (oF (aj sd rfl)) ?_
 refine hv hF (oL (lP1 ag3 rfl)) ?_
 obtain ⟨x13, hx13, h⟩ := ab h
 refine kz hF rfl rfl rfl rfl rfl rfl x12.body (x12.ok _ _ hx13) ?_
 refine hv hF (ax rfl rfl rfl) ?_
 rcases ci x13 with hc14 | hc14
 ·replace h := ifF hc14 h
  refine hv hF (aq rfl rfl hc14) ?_
  refine hp hF ?_
  refine hp hF ?_
  refine hp hF ?_
  refine ag.last ⟨rfl, ?_⟩
  simp only [List.drop_succ_cons, List.drop_zero, List.drop_nil, List.nil_append, List.cons_append]
  refine gp hF ?_
  refine gv hF (ak rfl rfl rfl) ?_
  refine gv hF oA ?_
  refine sn ?_
  refine Sm.ret ?_
  obtain rfl := ae h
  exact bC rfl rfl
 replace h := ifT hc14 h
 refine hv hF (aq rfl rfl hc14) ?_
 obtain ⟨x15, hx15, h⟩ := ab h
 refine ag.c hF rfl rfl (by kernel_rfl) rfl rfl rfl (ka hx15) ?_
 refine hv hF (oF (aj mc rfl)) ?_
 refine hv hF (oL (lP1 ag3 rfl)) ?_
 refine ag.last ⟨rfl, ?_⟩
 simp only [List.drop_succ_cons, List.drop_zero, List.drop_nil, List.nil_append, List.cons_append]
 obtain ⟨x16, hx16, h⟩ := ab h
 refine SmG.callF hF rfl rfl rfl rfl rfl rfl x15.body (x15.ok _ _ hx16) ?_
 refine gv hF (ax rfl rfl rfl) ?_
 refine gv hF oA ?_
 refine sn ?_
 refine Sm.ret ?_
 obtain rfl := ae h
 exact bC rfl rfl
noncomputable def fR (a0 : Ans) (a1 : Int) : Option Bool :=
 some (a0.version == a1)
set_option maxHeartbeats 4000000 in
theorem jO {a0 : Ans} {a1 : Int} {r : Bool} (h : fR a0 a1 = some r) : ap Tryd.prog HG 42 [.ptr 11 (Ans.row a0), .ptr 1 [.v (.int .i64 a1)]] (.v (.bool r)) := by
 unfold fR at h
 refine ap.of Tryd.func42 rfl Tryd.ntmps42 (by simp) ?_
 intro F hF h0 hT
 show Sm F _ _ ⟨[(0, .d (.ptr 11 (Ans.row a0))), (1, .d (.ptr 1 [.v (.int .i64 a1)]))], [], 0⟩
 refine sr hF ?_
 refine gv hF oA ?_
 refine sn ?_
 refine sr hF ?_
 refine gv hF (oF (aj sw rfl)) ?_
 refine gv hF (oL (lP1 ag3 rfl)) ?_
 refine gv hF (oL (lP1 ag3 rfl)) ?_
 refine gv hF (oB (cL)) ?_
 refine gv hF oA ?_
 refine sn ?_
 refine Sm.ret ?_
 obtain rfl := ae h
 exact bC rfl rfl
noncomputable def eU (a0 : Ans) : Option Bool :=
 ob (gj a0.pos a0.entry) fun x1 =>
 some x1
set_option maxHeartbeats 4000000 in
theorem jV {a0 : Ans} {r : Bool} (h : eU a0 = some r) : ap Tryd.prog HG 43 [.ptr 11 (Ans.row a0)] (.v (.bool r)) := by
 unfold eU at h
 refine ap.of Tryd.func43 rfl Tryd.ntmps43 (by simp) ?_
 intro F hF h0 hT
 show Sm F _ _ ⟨[(0, .d (.ptr 11 (Ans.row a0)))], [], 0⟩
 refine sr hF ?_
 refine gv hF oA ?_
 refine sn ?_
 refine sr hF ?_
 refine gv hF (oF (aj pq rfl)) ?_
 refine gv hF (x := .d (.agg 5 [.list 1 (a0.pos.at_.map (aa .i64)) false, .list 1 (a0.pos.h0.map (aa .i64)) false, .list 1 (a0.pos.h1.map (aa .i64)) false, .v (.int .i64 a0.pos.rights), .v (.int .i64 a0.pos.side)])) (oL (dv fW dA rfl rfl)) ?_
 refine gv hF (oF (aj pr rfl)) ?_
 refine gv hF (x := .d (.agg 2 [.v (.int .i64 a0.entry.out), .v (.int .i64 a0.entry.n)])) (oL (dv i5 fF rfl rfl)) ?_
 obtain ⟨x1, hx1, h⟩ := ab h
 refine SmG.call hF rfl rfl (by kernel_rfl) rfl rfl rfl (oQ hx1) ?_
 refine gv hF oA ?_
 refine sn ?_
 refine Sm.ret ?_
 obtain rfl := ae h
 exact bC rfl rfl
noncomputable def eV (a0 : List UInt8) (a1 : Ans) : Option Bool :=
 ob (fr a1.pos a1.entry) fun x1 =>
 ob (iY a0 a1.count a1.index x1 a1.proof) fun x2 =>
 some x2
set_option maxHeartbeats 4000000 in
theorem jN {a0 : List UInt8} {a1 : Ans} {r : Bool} (h : eV a0 a1 = some r) : ap Tryd.prog HG 45 [.ptr 32 (bc a0), .ptr 11 (Ans.row a1)] (.v (.bool r)) := by
 unfold eV at h
 refine ap.of Tryd.func45 rfl Tryd.ntmps45 (by simp) ?_
 intro F hF h0 hT
 show Sm F _ _ ⟨[(0, .d (.ptr 32 (bc a0))), (1, .d (.ptr 11 (Ans.row a1)))], [], 0⟩
 refine sr hF ?_
 refine gv hF oA ?_
 refine sn ?_
 refine Sm.seq ?_
 refine bd hF (by kernel_rfl) rfl 12 (by kernel_rfl) (by kernel_rfl) ?_
 simp only [List.take_succ_cons, List.take_zero, List.take_nil]
 refine hv hF (x := .d (.agg 32 (bc a0))) (oL (dv lM jr rfl rfl)) ?_
 refine hv hF (oF (aj pp rfl)) ?_
 refine hv hF (oL (lP1 ag3 rfl)) ?_
 refine hv hF (oF (aj sc rfl)) ?_
 refine hv hF (oL (lP1 ag3 rfl)) ?_
 refine hv hF (oF (aj pq rfl)) ?_
 refine hv hF (x := .d (.agg 5 [.list 1 (a1.pos.at_.map (aa .i64)) false, .list 1 (a1.pos.h0.map (aa .i64)) false, .list 1 (a1.pos.h1.map (aa .i64)) false, .v (.int .i64 a1.pos.rights), .v (.int .i64 a1.pos.side)])) (oL (dv fW dA rfl rfl)) ?_
 refine hv hF (oF (aj pr rfl)) ?_
 refine hv hF (x := .d (.agg 2 [.v (.int .i64 a1.entry.out), .v (.int .i64 a1.entry.n)])) (oL (dv i5 fF rfl rfl)) ?_
 obtain ⟨x1, hx1, h⟩ := ab h
 refine ag.c hF rfl rfl (by kernel_rfl) rfl rfl rfl (i3 hx1) ?_
 refine hv hF (oF (aj vj rfl)) ?_
 refine hv hF (oL (lP1 wT rfl)) ?_
 refine ag.last ⟨rfl, ?_⟩
 simp only [List.drop_succ_cons, List.drop_zero, List.drop_nil, List.nil_append, List.cons_append]
 obtain ⟨x2, hx2, h⟩ := ab h
 refine SmG.call hF rfl rfl (by kernel_rfl) rfl rfl rfl (qc hx2) ?_
 refine gv hF oA ?_
 refine sn ?_
 refine Sm.ret ?_
 obtain rfl := ae h
 exact bC rfl rfl
noncomputable def fS (a0 : (FnV Tryd.prog HG (α := Unit) (β := Bool) (fun x => []) (fun y => .v (.bool y)))) : Option Bool :=
 ob (a0.f ()) fun x1 =>
 some (!x1)
set_option maxHeartbeats 4000000 in
theorem nt {a0 : (FnV Tryd.prog HG (α := Unit) (β := Bool) (fun x => []) (fun y => .v (.bool y)))} {r : Bool} (h : fS a0 = some r) : ap Tryd.prog HG 48 [.fn a0.g a0.c] (.v (.bool r)) := by
 unfold fS at h
 refine ap.of Tryd.func48 rfl Tryd.ntmps48 (by simp) ?_
 intro F hF h0 hT
 show Sm F _ _ ⟨[(0, .d (.fn a0.g a0.c))], [], 0⟩
 refine sr hF ?_
 refine gv hF oA ?_
 refine sn ?_
 refine sr hF ?_
 refine gv hF oM ?_
 obtain ⟨x1, hx1, h⟩ := ab h
 refine SmG.callF hF rfl rfl rfl rfl rfl rfl a0.body (a0.ok _ _ hx1) ?_
 refine gv hF (gU rfl rfl (ix _)) ?_
 refine gv hF oA ?_
 refine sn ?_
 refine Sm.ret ?_
 obtain rfl := ae h
 exact bC rfl rfl
noncomputable def bi (a0 : List (FnV Tryd.prog HG (α := Unit) (β := Bool) (fun x => []) (fun y => .v (.bool y)))) (a1 : (FnV Tryd.prog HG (α := (FnV Tryd.prog HG (α := Unit) (β := Bool) (fun x => []) (fun y => .v (.bool y)))) (β := Bool) (fun x => [.fn x.g x.c]) (fun y => .v (.bool y)))) (s1 : Int) : Option (Int ⊕ (Unit ⊕ Int)) :=
 bif (decide (s1 < (a0.length : Int))) then (
  ob (idx a0 s1) fun x6 =>
  ob (a1.f x6) fun x7 =>
  bif x7 then (
   some (.inr (.inr s1))
  ) else (
   ob (arI .i64 (s1 + 1)) fun x9 =>
   some (.inl x9)
  )
 ) else (
  some (.inr (.inl ()))
 )
noncomputable def ck (a0 : List (FnV Tryd.prog HG (α := Unit) (β := Bool) (fun x => []) (fun y => .v (.bool y)))) (a1 : (FnV Tryd.prog HG (α := (FnV Tryd.prog HG (α := Unit) (β := Bool) (fun x => []) (fun y => .v (.bool y)))) (β := Bool) (fun x => [.fn x.g x.c]) (fun y => .v (.bool y)))) : Option Int :=
 ob ((
  bx (bi a0 a1) 0
  : Option (Unit ⊕ Int))) fun o11 => match o11 with
 | .inl v10 => (
  some (-1)
  )
 | .inr e12 => some e12
set_option maxHeartbeats 4000000 in
theorem gu {a0 : List (FnV Tryd.prog HG (α := Unit) (β := Bool) (fun x => []) (fun y => .v (.bool y)))} {a1 : (FnV Tryd.prog HG (α := (FnV Tryd.prog HG (α := Unit) (β := Bool) (fun x => []) (fun y => .v (.bool y)))) (β := Bool) (fun x => [.fn x.g x.c]) (fun y => .v (.bool y)))} {r : Int} (h : ck a0 a1 = some r) : ap Tryd.prog HG 72 [.list 1 (a0.map FnV.row) false, .fn a1.g a1.c] (.v (.int .i64 r)) := by
 unfold ck at h
 refine ap.of Tryd.func72 rfl Tryd.ntmps72 (by simp) ?_
 intro F hF h0 hT
 show Sm F _ _ ⟨[(0, .d (.list 1 (a0.map FnV.row) false)), (1, .d (.fn a1.g a1.c))], [], 0⟩
 refine sr hF ?_
 refine gv hF oA ?_
 refine sn ?_
 refine Sm.seq ?_
 obtain ⟨o11, ho11, h⟩ := ab h
 rcases pz o11 with ⟨e12, rfl⟩ | ⟨v10, rfl⟩
 ·have he12 := ae h
  subst he12
  replace h := ho11
  refine sr hF ?_
  refine gv hF oM ?_
  refine gv hF (oN (bp rM)) ?_
  refine gv hF oM ?_
  refine sn ?_
  refine Sm.block ?_
  refine bu (bi a0 a1) (fun s1 => ⟨[(0, .d (.list 1 (a0.map FnV.row) false)), (1, .d (.fn a1.g a1.c)), (7, .d (.v (.int .i64 (a0.length : Int)))), (8, .d (.v (.int .i64 s1)))], [], 0⟩) 0 h (toK ⟨rfl, rfl, rfl, rfl, trivial⟩ trivial) ?_
  intro n2 s1 o3 h hd4
  unfold bi at h
  refine sr hF ?_
  refine gv hF (oB (bt)) ?_
  refine sn ?_
  refine Sm.seq ?_
  refine aM hF rfl (fun hc5 => ?_) (fun hc5 => ?_)
  ·replace h := ifF hc5 h
   refine Sm.exit ?_
   replace h := aE h hd4
   cases h
  replace h := ifT hc5 h
  refine sk ?_
  refine Sm.seq ?_
  refine Sm.block ?_
  refine sr hF ?_
  refine gv hF oM ?_
  refine gv hF oA ?_
  refine sn ?_
  refine sr hF ?_
  refine gv hF oM ?_
  refine gv hF oM ?_
  refine gv hF oM ?_
  obtain ⟨x6, hx6, h⟩ := ab h
  refine gv hF (oI (bF rM uv hx6)) ?_
  refine gv hF (oL (lP1 wU rfl)) ?_
  obtain ⟨x7, hx7, h⟩ := ab h
  refine SmG.callF hF rfl rfl rfl rfl rfl rfl a1.body (a1.ok _ _ hx7) ?_
  refine sn ?_
  refine aM hF rfl (fun hc8 => ?_) (fun hc8 => ?_)
  ·replace h := ifF hc8 h
   refine Sm.skip ?_
   refine ay ?_
   refine af ?_
   refine ac hF rfl ?_
   obtain ⟨x9, hx9, h⟩ := ab h
   refine gv hF (oB (aX hx9)) ?_
   refine gv hF oM ?_
   refine SmG.nil ?_
   exact bA (bk h hd4) (toK ⟨rfl, rfl, rfl, rfl, trivial⟩ trivial)
  replace h := ifT hc8 h
  refine sr hF ?_
  refine gv hF oM ?_
  refine gv hF oA ?_
  refine sn ?_
  refine Sm.ret ?_
  replace h := aE h hd4
  replace h := fK h
  obtain rfl := ae h
  exact bC rfl rfl
 refine bg ⟨[], [], 0⟩ ?_ ?_
 ·refine Sm.seq ?_
  refine ac hF rfl ?_
  refine gv hF oA ?_
  refine sn ?_
  refine Sm.ret ?_
  obtain rfl := ae h
  exact bC rfl rfl
 replace h := ho11
 refine sr hF ?_
 refine gv hF oM ?_
 refine gv hF (oN (bp rM)) ?_
 refine gv hF oM ?_
 refine sn ?_
 refine Sm.block ?_
 refine bu (bi a0 a1) (fun s1 => ⟨[(0, .d (.list 1 (a0.map FnV.row) false)), (1, .d (.fn a1.g a1.c)), (7, .d (.v (.int .i64 (a0.length : Int)))), (8, .d (.v (.int .i64 s1)))], [], 0⟩) 0 h (toK ⟨rfl, rfl, rfl, rfl, trivial⟩ trivial) ?_
 intro n2 s1 o3 h hd4
 unfold bi at h
 refine sr hF ?_
 refine gv hF (oB (bt)) ?_
 refine sn ?_
 refine Sm.seq ?_
 refine aM hF rfl (fun hc5 => ?_) (fun hc5 => ?_)
 ·replace h := ifF hc5 h
  refine Sm.exit ?_
  replace h := aE h hd4
  obtain rfl := ae (gR h)
  exact (toK trivial trivial)
 replace h := ifT hc5 h
 refine sk ?_
 refine Sm.seq ?_
 refine Sm.block ?_
 refine sr hF ?_
 refine gv hF oM ?_
 refine gv hF oA ?_
 refine sn ?_
 refine sr hF ?_
 refine gv hF oM ?_
 refine gv hF oM ?_
 refine gv hF oM ?_
 obtain ⟨x6, hx6, h⟩ := ab h
 refine gv hF (oI (bF rM uv hx6)) ?_
 refine gv hF (oL (lP1 wU rfl)) ?_
 obtain ⟨x7, hx7, h⟩ := ab h
 refine SmG.callF hF rfl rfl rfl rfl rfl rfl a1.body (a1.ok _ _ hx7) ?_
 refine sn ?_
 refine bD hF rfl (fun hc8 => ?_) (fun hc8 => ?_)
 ·replace h := ifT hc8 h
  refine sr hF ?_
  refine gv hF oM ?_
  refine gv hF oA ?_
  refine sn ?_
  refine Sm.ret ?_
  replace h := aE h hd4
  cases h
 replace h := ifF hc8 h
 refine Sm.skip ?_
 refine ay ?_
 refine af ?_
 refine ac hF rfl ?_
 obtain ⟨x9, hx9, h⟩ := ab h
 refine gv hF (oB (aX hx9)) ?_
 refine gv hF oM ?_
 refine SmG.nil ?_
 exact bA (bk h hd4) (toK ⟨rfl, rfl, rfl, rfl, trivial⟩ trivial)
noncomputable def bG (a0 : List (FnV Tryd.prog HG (α := Unit) (β := Bool) (fun x => []) (fun y => .v (.bool y)))) (a1 : (FnV Tryd.prog HG (α := (FnV Tryd.prog HG (α := Unit) (β := Bool) (fun x => []) (fun y => .v (.bool y)))) (β := Bool) (fun x => [.fn x.g x.c]) (fun y => .v (.bool y)))) : Option Bool :=
 ob (ck a0 a1) fun x1 =>
 some (decide (0 ≤ x1))
set_option maxHeartbeats 4000000 in
theorem f6 {a0 : List (FnV Tryd.prog HG (α := Unit) (β := Bool) (fun x => []) (fun y => .v (.bool y)))} {a1 : (FnV Tryd.prog HG (α := (FnV Tryd.prog HG (α := Unit) (β := Bool) (fun x => []) (fun y => .v (.bool y)))) (β := Bool) (fun x => [.fn x.g x.c]) (fun y => .v (.bool y)))} {r : Bool} (h : bG a0 a1 = some r) : ap Tryd.prog HG 47 [.list 1 (a0.map FnV.row) false, .fn a1.g a1.c] (.v (.bool r)) := by
 unfold bG at h
 refine ap.of Tryd.func47 rfl Tryd.ntmps47 (by simp) ?_
 intro F hF h0 hT
 show Sm F _ _ ⟨[(0, .d (.list 1 (a0.map FnV.row) false)), (1, .d (.fn a1.g a1.c))], [], 0⟩
 refine sr hF ?_
 refine gv hF oA ?_
 refine sn ?_
 refine sr hF ?_
 refine gv hF oM ?_
 refine gv hF oM ?_
 obtain ⟨x1, hx1, h⟩ := ab h
 refine SmG.call hF rfl rfl (by kernel_rfl) rfl rfl rfl (gu hx1) ?_
 refine gv hF (oB (nO)) ?_
 refine gv hF oA ?_
 refine sn ?_
 refine Sm.ret ?_
 obtain rfl := ae h
 exact bC rfl rfl
noncomputable def dK (a0 : List UInt8) (a1 : Int) (a2 : Ans) : Option Bool :=
 ob (bG ([(⟨42, [.ptr 11 (Ans.row a2), .ptr 1 [.v (.int .i64 a1)]], fun x => fR  a2 a1, by kernel_rfl, fun x y h => jO h⟩ : (FnV Tryd.prog HG (α := Unit) (β := Bool) (fun x => []) (fun y => .v (.bool y)))), (⟨43, [.ptr 11 (Ans.row a2)], fun x => eU  a2, by kernel_rfl, fun x y h => jV h⟩ : (FnV Tryd.prog HG (α := Unit) (β := Bool) (fun x => []) (fun y => .v (.bool y)))), (⟨45, [.ptr 32 (bc a0), .ptr 11 (Ans.row a2)], fun x => eV  a0 a2, by kernel_rfl, fun x y h => jN h⟩ : (FnV Tryd.prog HG (α := Unit) (β := Bool) (fun x => []) (fun y => .v (.bool y))))]) (⟨48, [], fun x => fS x , by kernel_rfl, fun x y h => nt h⟩ : (FnV Tryd.prog HG (α := (FnV Tryd.prog HG (α := Unit) (β := Bool) (fun x => []) (fun y => .v (.bool y)))) (β := Bool) (fun x => [.fn x.g x.c]) (fun y => .v (.bool y))))) fun x1 =>
 some (!x1)
set_option maxHeartbeats 4000000 in
theorem d8 {a0 : List UInt8} {a1 : Int} {a2 : Ans} {r : Bool} (h : dK a0 a1 a2 = some r) : ap Tryd.prog HG 18 [.agg 32 (bc a0), .v (.int .i64 a1), .agg 11 (Ans.row a2)] (.v (.bool r)) := by
 unfold dK at h
 refine ap.of Tryd.func18 rfl Tryd.ntmps18 (by simp) ?_
 intro F hF h0 hT
 show Sm F _ _ ⟨[(0, .d (.agg 32 (bc a0))), (1, .d (.v (.int .i64 a1))), (2, .d (.agg 11 (Ans.row a2)))], [], 0⟩
 refine sr hF ?_
 refine b9 hF fO ?_
 refine b9 hF w7 ?_
 refine b9 hF fO ?_
 refine gv hF oA ?_
 refine sn ?_
 refine sr hF ?_
 refine gv hF (gk rfl rfl) ?_
 refine gv hF (gk rfl rfl) ?_
 refine gv hF (gk rfl rfl) ?_
 refine gv hF (x := .d (.list 1 ([(⟨42, [.ptr 11 (Ans.row a2), .ptr 1 [.v (.int .i64 a1)]], fun x => fR  a2 a1, by kernel_rfl, fun x y h => jO h⟩ : (FnV Tryd.prog HG (α := Unit) (β := Bool) (fun x => []) (fun y => .v (.bool y)))), (⟨43, [.ptr 11 (Ans.row a2)], fun x => eU  a2, by kernel_rfl, fun x y h => jV h⟩ : (FnV Tryd.prog HG (α := Unit) (β := Bool) (fun x => []) (fun y => .v (.bool y)))), (⟨45, [.ptr 32 (bc a0), .ptr 11 (Ans.row a2)], fun x => eV  a0 a2, by kernel_rfl, fun x y h => jN h⟩ : (FnV Tryd.prog HG (α := Unit) (β := Bool) (fun x => []) (fun y => .v (.bool y))))].map FnV.row) true)) (oS (az rM uv FB rfl rfl (PartsQ.cons rfl (PartsQ.cons rfl (PartsQ.cons rfl (PartsQ.nil _)))) rfl)) ?_
 refine gv hF oA ?_
 refine sn ?_
 refine sr hF ?_
 refine gv hF oM ?_
 obtain ⟨x1, hx1, h⟩ := ab h
 refine SmG.call hF rfl rfl (by kernel_rfl) rfl rfl rfl (ap.args (f6 hx1) (fun C => (cj (by repeat' first | exact D.le.refl _ | exact aH _ _ _ | exact aG _ _ _ | refine aK ?_ | exact LeRows.nil | refine LeRows.cons ?_ ?_ | exact LeL.nil | refine LeL.cons ?_ ?_ | refine aJ ?_ | refine aL ?_) (cj (by repeat' first | exact D.le.refl _ | exact aH _ _ _ | exact aG _ _ _ | refine aK ?_ | exact LeRows.nil | refine LeRows.cons ?_ ?_ | exact LeL.nil | refine LeL.cons ?_ ?_ | refine aJ ?_ | refine aL ?_) (fun _ h => h))))) ?_
 refine gv hF (gU rfl rfl (ix _)) ?_
 refine gv hF oA ?_
 refine sn ?_
 refine Sm.ret ?_
 obtain rfl := ae h
 exact bC rfl rfl
end
section
open Go.RowKit
set_option maxRecDepth 100000
noncomputable def eQ : Option Bool :=
 ob (fr (⟨[1, 0], [2], [0], 1, 0⟩ : Ps) (⟨1, 258⟩ : Rs)) fun x1 =>
 ob (cH ([(⟨[1, 0], [2], [0], 1, 0⟩ : Ps)]) [(⟨1, 258⟩ : Rs)] 7 0) fun x2 =>
 ob (cH ([(⟨[1, 0], [2], [0], 1, 0⟩ : Ps)]) [] 7 0) fun x3 =>
 ob (cH ([(⟨[1, 0], [2], [0], 1, 0⟩ : Ps)]) [(⟨1, 258⟩ : Rs)] 7 1) fun x4 =>
 ob (fu ([(⟨[1, 0], [2], [0], 1, 0⟩ : Ps)]) [(⟨1, 258⟩ : Rs)]) fun x5 =>
 ob (vN 32 x5) fun x6 =>
 bif (x2.2 == 0) then (
  bif (x3.2 == 1) then (
   bif (x4.2 == 1) then (
    bif (x1 == ([2, 1, 1, 1, 0, 2, 0, 1, 0, 1, 0, 0, 1, 2] : List UInt8)) then (
     bif ((x2.1.proof.length : Int) == 0) then (
      bif (x2.1.count == 1) then (
       ob (e8 (⟨[1, 0], [2], [0], 1, 0⟩ : Ps) (⟨1, 258⟩ : Rs)) fun x13 =>
       ob (f7 x13) fun x14 =>
       ob (vN 32 x5) fun x15 =>
       ob (vN 32 x14) fun x16 =>
       bif (x5 == x14) then (
        ob (dK x5 7 x2.1) fun x18 =>
        bif x18 then (
         ob (dK x5 8 x2.1) fun x20 =>
         bif (!x20) then (
          ob (dK (List.replicate 32 0) 7 x2.1) fun x22 =>
          some (!x22)
         ) else (
          some false
         )
        ) else (
         some false
        )
       ) else (
        some false
       )
      ) else (
       some false
      )
     ) else (
      some false
     )
    ) else (
     some false
    )
   ) else (
    some false
   )
  ) else (
   some false
  )
 ) else (
  some false
 )
set_option maxHeartbeats 4000000 in
theorem lH {r : Bool} (h : eQ = some r) : ap Tryd.prog HG 9 [] (.v (.bool r)) := by
 unfold eQ at h
 refine ap.of Tryd.func9 rfl Tryd.ntmps9 (by simp) ?_
 intro F hF h0 hT
 show Sm F _ _ ⟨[], [], 0⟩
 refine sr hF ?_
 refine gv hF oA ?_
 refine sn ?_
 refine sr hF ?_
 refine gv hF (x := .d (.list 1 ([1, 0].map (aa .i64)) true)) (oS (az u30 sz3 ze3 rfl rfl (PartsQ.cons rfl (PartsQ.cons rfl (PartsQ.nil _))) rfl)) ?_
 refine gv hF (x := .d (.list 1 ([2].map (aa .i64)) true)) (oS (az u30 sz3 ze3 rfl rfl (PartsQ.cons rfl (PartsQ.nil _)) rfl)) ?_
 refine gv hF (x := .d (.list 1 ([0].map (aa .i64)) true)) (oS (az u30 sz3 ze3 rfl rfl (PartsQ.cons rfl (PartsQ.nil _)) rfl)) ?_
 refine gv hF (x := .d (.agg 2 [.list 1 ([2].map (aa .i64)) true, .list 1 ([0].map (aa .i64)) true])) (gD rfl u31 rfl (uL u31 ed yw rfl rfl)) ?_
 refine gv hF (x := .d (.agg 5 [.list 1 ([1, 0].map (aa .i64)) true, .list 1 ([2].map (aa .i64)) true, .list 1 ([0].map (aa .i64)) true, .v (.int .i64 1), .v (.int .i64 0)])) (aY rfl u33 (by kernel_rfl) rfl (be (n := 5) nq yY rfl rfl)) ?_
 refine SmG.new hF rfl rfl rfl (aV rfl wu) ?_
 refine SmG.store hF rfl rfl rfl rfl rfl (aZ (ys := [.d (.list 1 ([1, 0].map (aa .i64)) true), .d (.list 1 ([2].map (aa .i64)) true), .d (.list 1 ([0].map (aa .i64)) true), .d (.v (.int .i64 1)), .d (.v (.int .i64 0))]) (r := [.d (.list 0 [] true), .d (.list 0 [] true), .d (.list 0 [] true), .d (.v (.int .i64 0)), .d (.v (.int .i64 0))]) (rows' := [[.d (.list 1 ([1, 0].map (aa .i64)) true), .d (.list 1 ([2].map (aa .i64)) true), .d (.list 1 ([0].map (aa .i64)) true), .d (.v (.int .i64 1)), .d (.v (.int .i64 0))]]) rfl rfl rfl dA rfl rfl rfl rfl rfl) ?_
 refine sn ?_
 refine sr hF ?_
 refine gv hF (x := .d (.agg 2 [.v (.int .i64 1), .v (.int .i64 258)])) (aY rfl u35 (by kernel_rfl) rfl (be (n := 2) od zb rfl rfl)) ?_
 refine SmG.new hF rfl rfl rfl (aV rfl Fd) ?_
 refine SmG.store hF rfl rfl rfl rfl rfl (aZ (ys := [.d (.v (.int .i64 1)), .d (.v (.int .i64 258))]) (r := [.d (.v (.int .i64 0)), .d (.v (.int .i64 0))]) (rows' := [[.d (.v (.int .i64 1)), .d (.v (.int .i64 258))]]) rfl rfl rfl fF rfl rfl rfl rfl rfl) ?_
 refine sn ?_
 refine sr hF ?_
 refine gv hF (x := .d (.agg 5 [.list 1 ([1, 0].map (aa .i64)) true, .list 1 ([2].map (aa .i64)) true, .list 1 ([0].map (aa .i64)) true, .v (.int .i64 1), .v (.int .i64 0)])) (oL (aD rfl rfl fW dA rfl rfl)) ?_
 refine gv hF (x := .d (.agg 2 [.v (.int .i64 1), .v (.int .i64 258)])) (oL (aD rfl rfl i5 fF rfl rfl)) ?_
 obtain ⟨x1, hx1, h⟩ := ab h
 refine SmG.call hF rfl rfl (by kernel_rfl) rfl rfl rfl (ap.args (i3 hx1) (fun C => (cj (by repeat' first | exact D.le.refl _ | exact aH _ _ _ | exact aG _ _ _ | refine aK ?_ | exact LeRows.nil | refine LeRows.cons ?_ ?_ | exact LeL.nil | refine LeL.cons ?_ ?_ | refine aJ ?_ | refine aL ?_) (cj (by repeat' first | exact D.le.refl _ | exact aH _ _ _ | exact aG _ _ _ | refine aK ?_ | exact LeRows.nil | refine LeRows.cons ?_ ?_ | exact LeL.nil | refine LeL.cons ?_ ?_ | refine aJ ?_ | refine aL ?_) (fun _ h => h))))) ?_
 refine gv hF oA ?_
 refine sn ?_
 refine sr hF ?_
 refine gv hF (x := .d (.agg 5 [.list 1 ([1, 0].map (aa .i64)) true, .list 1 ([2].map (aa .i64)) true, .list 1 ([0].map (aa .i64)) true, .v (.int .i64 1), .v (.int .i64 0)])) (oL (aD rfl rfl fW dA rfl rfl)) ?_
 refine dt (cm (env' := [(1, .ref 0 0 0), (2, .ref 1 0 0), (3, .d (.list 1 (x1.map aO) false)), (22, .d (.agg 5 [.list 1 ([1, 0].map (aa .i64)) false, .list 1 ([2].map (aa .i64)) false, .list 1 ([0].map (aa .i64)) false, .v (.int .i64 1), .v (.int .i64 0)]))]) (h' := [(1, ⟨2, [[.d (.v (.int .i64 1)), .d (.v (.int .i64 258))]]⟩), (0, ⟨5, [[.d (.list 1 ([1, 0].map (aa .i64)) true), .d (.list 1 ([2].map (aa .i64)) true), .d (.list 1 ([0].map (aa .i64)) true), .d (.v (.int .i64 1)), .d (.v (.int .i64 0))]]⟩)]) (nx' := 2) ⟨⟨_, rfl, V.le.refl _⟩, ⟨_, rfl, V.le.refl _⟩, ⟨_, rfl, V.le.refl _⟩, ⟨_, rfl, V.le.d (by repeat' first | exact D.le.refl _ | exact aH _ _ _ | exact aG _ _ _ | refine aK ?_ | exact LeRows.nil | refine LeRows.cons ?_ ?_ | exact LeL.nil | refine LeL.cons ?_ ?_ | refine aJ ?_ | refine aL ?_)⟩, trivial⟩ ⟨⟨_, rfl, bz.refl _⟩, ⟨_, rfl, bz.refl _⟩, trivial⟩ (Nat.le_of_ble_eq_true rfl)) rfl ?_
 refine gv hF (x := .d (.list 5 ([(⟨[1, 0], [2], [0], 1, 0⟩ : Ps)].map Ps.row) true)) (oS (az u40 dA nq rfl rfl (PartsQ.cons rfl (PartsQ.nil _)) rfl)) ?_
 refine gv hF (x := .d (.agg 2 [.v (.int .i64 1), .v (.int .i64 258)])) (oL (aD rfl rfl i5 fF rfl rfl)) ?_
 refine gv hF (x := .d (.list 2 ([(⟨1, 258⟩ : Rs)].map Rs.row) true)) (oS (az u41 fF od rfl rfl (PartsQ.cons rfl (PartsQ.nil _)) rfl)) ?_
 obtain ⟨x2, hx2, h⟩ := ab h
 refine SmG.call hF rfl rfl (by kernel_rfl) rfl rfl rfl (ap.args (fw hx2) (fun C => (cj (by repeat' first | exact D.le.refl _ | exact aH _ _ _ | exact aG _ _ _ | refine aK ?_ | exact LeRows.nil | refine LeRows.cons ?_ ?_ | exact LeL.nil | refine LeL.cons ?_ ?_ | refine aJ ?_ | refine aL ?_) (cj (by repeat' first | exact D.le.refl _ | exact aH _ _ _ | exact aG _ _ _ | refine aK ?_ | exact LeRows.nil | refine LeRows.cons ?_ ?_ | exact LeL.nil | refine LeL.cons ?_ ?_ | refine aJ ?_ | refine aL ?_) (cj (by repeat' first | exact D.le.refl _ | exact aH _ _ _ | exact aG _ _ _ | refine aK ?_ | exact LeRows.nil | refine LeRows.cons ?_ ?_ | exact LeL.nil | refine LeL.cons ?_ ?_ | refine aJ ?_ | refine aL ?_) (cj (by repeat' first | exact D.le.refl _ | exact aH _ _ _ | exact aG _ _ _ | refine aK ?_ | exact LeRows.nil | refine LeRows.cons ?_ ?_ | exact LeL.nil | refine LeL.cons ?_ ?_ | refine aJ ?_ | refine aL ?_) (fun _ h => h))))))) ?_
 refine gv hF oM ?_
 refine gv hF (bL rfl rfl rfl) ?_
 refine gv hF (bL rfl rfl rfl) ?_
 refine SmG.new hF rfl rfl rfl (aV rfl qw) ?_
 refine SmG.store hF rfl rfl rfl rfl rfl (aZ (ys := [.d (.v (.int .i64 x2.1.version)), .d (.v (.int .i64 x2.1.index)), .d (.v (.int .i64 x2.1.count)), .d (.list 1 (x2.1.pos.at_.map (aa .i64)) false), .d (.list 1 (x2.1.pos.h0.map (aa .i64)) false), .d (.list 1 (x2.1.pos.h1.map (aa .i64)) false), .d (.v (.int .i64 x2.1.pos.rights)), .d (.v (.int .i64 x2.1.pos.side)), .d (.v (.int .i64 x2.1.entry.out)), .d (.v (.int .i64 x2.1.entry.n)), .d (.list 32 (x2.1.proof.map bc) false)]) (r := [.d (.v (.int .i64 0)), .d (.v (.int .i64 0)), .d (.v (.int .i64 0)), .d (.list 0 [] true), .d (.list 0 [] true), .d (.list 0 [] true), .d (.v (.int .i64 0)), .d (.v (.int .i64 0)), .d (.v (.int .i64 0)), .d (.v (.int .i64 0)), .d (.list 0 [] true)]) (rows' := [[.d (.v (.int .i64 x2.1.version)), .d (.v (.int .i64 x2.1.index)), .d (.v (.int .i64 x2.1.count)), .d (.list 1 (x2.1.pos.at_.map (aa .i64)) false), .d (.list 1 (x2.1.pos.h0.map (aa .i64)) false), .d (.list 1 (x2.1.pos.h1.map (aa .i64)) false), .d (.v (.int .i64 x2.1.pos.rights)), .d (.v (.int .i64 x2.1.pos.side)), .d (.v (.int .i64 x2.1.entry.out)), .d (.v (.int .i64 x2.1.entry.n)), .d (.list 32 (x2.1.proof.map bc) false)]]) rfl rfl rfl gG rfl rfl rfl rfl rfl) ?_
 refine gv hF oA ?_
 refine sn ?_
 refine sr hF ?_
 refine gv hF (x := .d (.agg 5 [.list 1 ([1, 0].map (aa .i64)) true, .list 1 ([2].map (aa .i64)) true, .list 1 ([0].map (aa .i64)) true, .v (.int .i64 1), .v (.int .i64 0)])) (oL (aD rfl rfl fW dA rfl rfl)) ?_
 refine dt (cm (env' := [(1, .ref 0 0 0), (2, .ref 1 0 0), (3, .d (.list 1 (x1.map aO) false)), (4, .ref 2 0 0), (5, .d (.v (.int .i64 x2.2))), (30, .d (.agg 5 [.list 1 ([1, 0].map (aa .i64)) false, .list 1 ([2].map (aa .i64)) false, .list 1 ([0].map (aa .i64)) false, .v (.int .i64 1), .v (.int .i64 0)]))]) (h' := [(2, ⟨11, [[.d (.v (.int .i64 x2.1.version)), .d (.v (.int .i64 x2.1.index)), .d (.v (.int .i64 x2.1.count)), .d (.list 1 (x2.1.pos.at_.map (aa .i64)) false), .d (.list 1 (x2.1.pos.h0.map (aa .i64)) false), .d (.list 1 (x2.1.pos.h1.map (aa .i64)) false), .d (.v (.int .i64 x2.1.pos.rights)), .d (.v (.int .i64 x2.1.pos.side)), .d (.v (.int .i64 x2.1.entry.out)), .d (.v (.int .i64 x2.1.entry.n)), .d (.list 32 (x2.1.proof.map bc) false)]]⟩), (1, ⟨2, [[.d (.v (.int .i64 1)), .d (.v (.int .i64 258))]]⟩), (0, ⟨5, [[.d (.list 1 ([1, 0].map (aa .i64)) true), .d (.list 1 ([2].map (aa .i64)) true), .d (.list 1 ([0].map (aa .i64)) true), .d (.v (.int .i64 1)), .d (.v (.int .i64 0))]]⟩)]) (nx' := 3) ⟨⟨_, rfl, V.le.refl _⟩, ⟨_, rfl, V.le.refl _⟩, ⟨_, rfl, V.le.refl _⟩, ⟨_, rfl, V.le.refl _⟩, ⟨_, rfl, V.le.refl _⟩, ⟨_, rfl, V.le.d (by repeat' first | exact D.le.refl _ | exact aH _ _ _ | exact aG _ _ _ | refine aK ?_ | exact LeRows.nil | refine LeRows.cons ?_ ?_ | exact LeL.nil | refine LeL.cons ?_ ?_ | refine aJ ?_ | refine aL ?_)⟩, trivial⟩ ⟨⟨_, rfl, bz.refl _⟩, ⟨_, rfl, bz.refl _⟩, ⟨_, rfl, bz.refl _⟩, trivial⟩ (Nat.le_of_ble_eq_true rfl)) rfl ?_
 refine gv hF (x := .d (.list 5 ([(⟨[1, 0], [2], [0], 1, 0⟩ : Ps)].map Ps.row) true)) (oS (az u40 dA nq rfl rfl (PartsQ.cons rfl (PartsQ.nil _)) rfl)) ?_
 obtain ⟨x3, hx3, h⟩ := ab h
 refine SmG.call hF rfl rfl (by kernel_rfl) rfl rfl rfl (ap.args (fw hx3) (fun C => (cj (by repeat' first | exact D.le.refl _ | exact aH _ _ _ | exact aG _ _ _ | refine aK ?_ | exact LeRows.nil | refine LeRows.cons ?_ ?_ | exact LeL.nil | refine LeL.cons ?_ ?_ | refine aJ ?_ | refine aL ?_) (cj (by repeat' first | exact D.le.refl _ | exact aH _ _ _ | exact aG _ _ _ | refine aK ?_ | exact LeRows.nil | refine LeRows.cons ?_ ?_ | exact LeL.nil | refine LeL.cons ?_ ?_ | refine aJ ?_ | refine aL ?_) (cj (by repeat' first | exact D.le.refl _ | exact aH _ _ _ | exact aG _ _ _ | refine aK ?_ | exact LeRows.nil | refine LeRows.cons ?_ ?_ | exact LeL.nil | refine LeL.cons ?_ ?_ | refine aJ ?_ | refine aL ?_) (cj (by repeat' first | exact D.le.refl _ | exact aH _ _ _ | exact aG _ _ _ | refine aK ?_ | exact LeRows.nil | refine LeRows.cons ?_ ?_ | exact LeL.nil | refine LeL.cons ?_ ?_ | refine aJ ?_ | refine aL ?_) (fun _ h => h))))))) ?_
 refine gv hF oM ?_
 refine gv hF (bL rfl rfl rfl) ?_
 refine gv hF (bL rfl rfl rfl) ?_
 refine SmG.new hF rfl rfl rfl (aV rfl qw) ?_
 refine SmG.store hF rfl rfl rfl rfl rfl (aZ (ys := [.d (.v (.int .i64 x3.1.version)), .d (.v (.int .i64 x3.1.index)), .d (.v (.int .i64 x3.1.count)), .d (.list 1 (x3.1.pos.at_.map (aa .i64)) false), .d (.list 1 (x3.1.pos.h0.map (aa .i64)) false), .d (.list 1 (x3.1.pos.h1.map (aa .i64)) false), .d (.v (.int .i64 x3.1.pos.rights)), .d (.v (.int .i64 x3.1.pos.side)), .d (.v (.int .i64 x3.1.entry.out)), .d (.v (.int .i64 x3.1.entry.n)), .d (.list 32 (x3.1.proof.map bc) false)]) (r := [.d (.v (.int .i64 0)), .d (.v (.int .i64 0)), .d (.v (.int .i64 0)), .d (.list 0 [] true), .d (.list 0 [] true), .d (.list 0 [] true), .d (.v (.int .i64 0)), .d (.v (.int .i64 0)), .d (.v (.int .i64 0)), .d (.v (.int .i64 0)), .d (.list 0 [] true)]) (rows' := [[.d (.v (.int .i64 x3.1.version)), .d (.v (.int .i64 x3.1.index)), .d (.v (.int .i64 x3.1.count)), .d (.list 1 (x3.1.pos.at_.map (aa .i64)) false), .d (.list 1 (x3.1.pos.h0.map (aa .i64)) false), .d (.list 1 (x3.1.pos.h1.map (aa .i64)) false), .d (.v (.int .i64 x3.1.pos.rights)), .d (.v (.int .i64 x3.1.pos.side)), .d (.v (.int .i64 x3.1.entry.out)), .d (.v (.int .i64 x3.1.entry.n)), .d (.list 32 (x3.1.proof.map bc) false)]]) rfl rfl rfl gG rfl rfl rfl rfl rfl) ?_
 refine gv hF oA ?_
 refine sn ?_
 refine sr hF ?_
 refine gv hF (x := .d (.agg 5 [.list 1 ([1, 0].map (aa .i64)) true, .list 1 ([2].map (aa .i64)) true, .list 1 ([0].map (aa .i64)) true, .v (.int .i64 1), .v (.int .i64 0)])) (oL (aD rfl rfl fW dA rfl rfl)) ?_
 refine dt (cm (env' := [(1, .ref 0 0 0), (2, .ref 1 0 0), (3, .d (.list 1 (x1.map aO) false)), (4, .ref 2 0 0), (5, .d (.v (.int .i64 x2.2))), (7, .d (.v (.int .i64 x3.2))), (36, .d (.agg 5 [.list 1 ([1, 0].map (aa .i64)) false, .list 1 ([2].map (aa .i64)) false, .list 1 ([0].map (aa .i64)) false, .v (.int .i64 1), .v (.int .i64 0)]))]) (h' := [(2, ⟨11, [[.d (.v (.int .i64 x2.1.version)), .d (.v (.int .i64 x2.1.index)), .d (.v (.int .i64 x2.1.count)), .d (.list 1 (x2.1.pos.at_.map (aa .i64)) false), .d (.list 1 (x2.1.pos.h0.map (aa .i64)) false), .d (.list 1 (x2.1.pos.h1.map (aa .i64)) false), .d (.v (.int .i64 x2.1.pos.rights)), .d (.v (.int .i64 x2.1.pos.side)), .d (.v (.int .i64 x2.1.entry.out)), .d (.v (.int .i64 x2.1.entry.n)), .d (.list 32 (x2.1.proof.map bc) false)]]⟩), (1, ⟨2, [[.d (.v (.int .i64 1)), .d (.v (.int .i64 258))]]⟩), (0, ⟨5, [[.d (.list 1 ([1, 0].map (aa .i64)) true), .d (.list 1 ([2].map (aa .i64)) true), .d (.list 1 ([0].map (aa .i64)) true), .d (.v (.int .i64 1)), .d (.v (.int .i64 0))]]⟩)]) (nx' := 4) ⟨⟨_, rfl, V.le.refl _⟩, ⟨_, rfl, V.le.refl _⟩, ⟨_, rfl, V.le.refl _⟩, ⟨_, rfl, V.le.refl _⟩, ⟨_, rfl, V.le.refl _⟩, ⟨_, rfl, V.le.refl _⟩, ⟨_, rfl, V.le.d (by repeat' first | exact D.le.refl _ | exact aH _ _ _ | exact aG _ _ _ | refine aK ?_ | exact LeRows.nil | refine LeRows.cons ?_ ?_ | exact LeL.nil | refine LeL.cons ?_ ?_ | refine aJ ?_ | refine aL ?_)⟩, trivial⟩ ⟨⟨_, rfl, bz.refl _⟩, ⟨_, rfl, bz.refl _⟩, ⟨_, rfl, bz.refl _⟩, trivial⟩ (Nat.le_of_ble_eq_true rfl)) rfl ?_
 refine gv hF (x := .d (.list 5 ([(⟨[1, 0], [2], [0], 1, 0⟩ : Ps)].map Ps.row) true)) (oS (az u40 dA nq rfl rfl (PartsQ.cons rfl (PartsQ.nil _)) rfl)) ?_
 refine gv hF (x := .d (.agg 2 [.v (.int .i64 1), .v (.int .i64 258)])) (oL (aD rfl rfl i5 fF rfl rfl)) ?_
 refine gv hF (x := .d (.list 2 ([(⟨1, 258⟩ : Rs)].map Rs.row) true)) (oS (az u41 fF od rfl rfl (PartsQ.cons rfl (PartsQ.nil _)) rfl)) ?_
 obtain ⟨x4, hx4, h⟩ := ab h
 refine SmG.call hF rfl rfl (by kernel_rfl) rfl rfl rfl (ap.args (fw hx4) (fun C => (cj (by repeat' first | exact D.le.refl _ | exact aH _ _ _ | exact aG _ _ _ | refine aK ?_ | exact LeRows.nil | refine LeRows.cons ?_ ?_ | exact LeL.nil | refine LeL.cons ?_ ?_ | refine aJ ?_ | refine aL ?_) (cj (by repeat' first | exact D.le.refl _ | exact aH _ _ _ | exact aG _ _ _ | refine aK ?_ | exact LeRows.nil | refine LeRows.cons ?_ ?_ | exact LeL.nil | refine LeL.cons ?_ ?_ | refine aJ ?_ | refine aL ?_) (cj (by repeat' first | exact D.le.refl _ | exact aH _ _ _ | exact aG _ _ _ | refine aK ?_ | exact LeRows.nil | refine LeRows.cons ?_ ?_ | exact LeL.nil | refine LeL.cons ?_ ?_ | refine aJ ?_ | refine aL ?_) (cj (by repeat' first | exact D.le.refl _ | exact aH _ _ _ | exact aG _ _ _ | refine aK ?_ | exact LeRows.nil | refine LeRows.cons ?_ ?_ | exact LeL.nil | refine LeL.cons ?_ ?_ | refine aJ ?_ | refine aL ?_) (fun _ h => h))))))) ?_
 refine gv hF oM ?_
 refine gv hF (bL rfl rfl rfl) ?_
 refine gv hF (bL rfl rfl rfl) ?_
 refine SmG.new hF rfl rfl rfl (aV rfl qw) ?_
 refine SmG.store hF rfl rfl rfl rfl rfl (aZ (ys := [.d (.v (.int .i64 x4.1.version)), .d (.v (.int .i64 x4.1.index)), .d (.v (.int .i64 x4.1.count)), .d (.list 1 (x4.1.pos.at_.map (aa .i64)) false), .d (.list 1 (x4.1.pos.h0.map (aa .i64)) false), .d (.list 1 (x4.1.pos.h1.map (aa .i64)) false), .d (.v (.int .i64 x4.1.pos.rights)), .d (.v (.int .i64 x4.1.pos.side)), .d (.v (.int .i64 x4.1.entry.out)), .d (.v (.int .i64 x4.1.entry.n)), .d (.list 32 (x4.1.proof.map bc) false)]) (r := [.d (.v (.int .i64 0)), .d (.v (.int .i64 0)), .d (.v (.int .i64 0)), .d (.list 0 [] true), .d (.list 0 [] true), .d (.list 0 [] true), .d (.v (.int .i64 0)), .d (.v (.int .i64 0)), .d (.v (.int .i64 0)), .d (.v (.int .i64 0)), .d (.list 0 [] true)]) (rows' := [[.d (.v (.int .i64 x4.1.version)), .d (.v (.int .i64 x4.1.index)), .d (.v (.int .i64 x4.1.count)), .d (.list 1 (x4.1.pos.at_.map (aa .i64)) false), .d (.list 1 (x4.1.pos.h0.map (aa .i64)) false), .d (.list 1 (x4.1.pos.h1.map (aa .i64)) false), .d (.v (.int .i64 x4.1.pos.rights)), .d (.v (.int .i64 x4.1.pos.side)), .d (.v (.int .i64 x4.1.entry.out)), .d (.v (.int .i64 x4.1.entry.n)), .d (.list 32 (x4.1.proof.map bc) false)]]) rfl rfl rfl gG rfl rfl rfl rfl rfl) ?_
 refine gv hF oA ?_
 refine sn ?_
 refine sr hF ?_
 refine gv hF (x := .d (.agg 5 [.list 1 ([1, 0].map (aa .i64)) true, .list 1 ([2].map (aa .i64)) true, .list 1 ([0].map (aa .i64)) true, .v (.int .i64 1), .v (.int .i64 0)])) (oL (aD rfl rfl fW dA rfl rfl)) ?_
 refine dt (cm (env' := [(1, .ref 0 0 0), (2, .ref 1 0 0), (3, .d (.list 1 (x1.map aO) false)), (4, .ref 2 0 0), (5, .d (.v (.int .i64 x2.2))), (7, .d (.v (.int .i64 x3.2))), (9, .d (.v (.int .i64 x4.2))), (43, .d (.agg 5 [.list 1 ([1, 0].map (aa .i64)) false, .list 1 ([2].map (aa .i64)) false, .list 1 ([0].map (aa .i64)) false, .v (.int .i64 1), .v (.int .i64 0)]))]) (h' := [(2, ⟨11, [[.d (.v (.int .i64 x2.1.version)), .d (.v (.int .i64 x2.1.index)), .d (.v (.int .i64 x2.1.count)), .d (.list 1 (x2.1.pos.at_.map (aa .i64)) false), .d (.list 1 (x2.1.pos.h0.map (aa .i64)) false), .d (.list 1 (x2.1.pos.h1.map (aa .i64)) false), .d (.v (.int .i64 x2.1.pos.rights)), .d (.v (.int .i64 x2.1.pos.side)), .d (.v (.int .i64 x2.1.entry.out)), .d (.v (.int .i64 x2.1.entry.n)), .d (.list 32 (x2.1.proof.map bc) false)]]⟩), (1, ⟨2, [[.d (.v (.int .i64 1)), .d (.v (.int .i64 258))]]⟩), (0, ⟨5, [[.d (.list 1 ([1, 0].map (aa .i64)) true), .d (.list 1 ([2].map (aa .i64)) true), .d (.list 1 ([0].map (aa .i64)) true), .d (.v (.int .i64 1)), .d (.v (.int .i64 0))]]⟩)]) (nx' := 5) ⟨⟨_, rfl, V.le.refl _⟩, ⟨_, rfl, V.le.refl _⟩, ⟨_, rfl, V.le.refl _⟩, ⟨_, rfl, V.le.refl _⟩, ⟨_, rfl, V.le.refl _⟩, ⟨_, rfl, V.le.refl _⟩, ⟨_, rfl, V.le.refl _⟩, ⟨_, rfl, V.le.d (by repeat' first | exact D.le.refl _ | exact aH _ _ _ | exact aG _ _ _ | refine aK ?_ | exact LeRows.nil | refine LeRows.cons ?_ ?_ | exact LeL.nil | refine LeL.cons ?_ ?_ | refine aJ ?_ | refine aL ?_)⟩, trivial⟩ ⟨⟨_, rfl, bz.refl _⟩, ⟨_, rfl, bz.refl _⟩, ⟨_, rfl, bz.refl _⟩, trivial⟩ (Nat.le_of_ble_eq_true rfl)) rfl ?_
 refine gv hF (x := .d (.list 5 ([(⟨[1, 0], [2], [0], 1, 0⟩ : Ps)].map Ps.row) true)) (oS (az u40 dA nq rfl rfl (PartsQ.cons rfl (PartsQ.nil _)) rfl)) ?_
 refine gv hF (x := .d (.agg 2 [.v (.int .i64 1), .v (.int .i64 258)])) (oL (aD rfl rfl i5 fF rfl rfl)) ?_
 refine gv hF (x := .d (.list 2 ([(⟨1, 258⟩ : Rs)].map Rs.row) true)) (oS (az u41 fF od rfl rfl (PartsQ.cons rfl (PartsQ.nil _)) rfl)) ?_
 obtain ⟨x5, hx5, h⟩ := ab h
 refine SmG.call hF rfl rfl (by kernel_rfl) rfl rfl rfl (ap.args (ll hx5) (fun C => (cj (by repeat' first | exact D.le.refl _ | exact aH _ _ _ | exact aG _ _ _ | refine aK ?_ | exact LeRows.nil | refine LeRows.cons ?_ ?_ | exact LeL.nil | refine LeL.cons ?_ ?_ | refine aJ ?_ | refine aL ?_) (cj (by repeat' first | exact D.le.refl _ | exact aH _ _ _ | exact aG _ _ _ | refine aK ?_ | exact LeRows.nil | refine LeRows.cons ?_ ?_ | exact LeL.nil | refine LeL.cons ?_ ?_ | refine aJ ?_ | refine aL ?_) (fun _ h => h))))) ?_
 refine SmG.new hF rfl rfl rfl (aV rfl pX) ?_
 obtain ⟨x6, hx6, h⟩ := ab h
 refine SmG.store hF rfl rfl rfl rfl rfl (pI rfl rfl jr rfl (na hx6)) ?_
 refine sn ?_
 refine sr hF ?_
 refine gv hF oM ?_
 refine gv hF (oB (cL)) ?_
 rcases ci (x2.2 == 0) with hc7 | hc7
 ·replace h := ifF hc7 h
  refine gv hF (aq rfl rfl hc7) ?_
  refine gp hF ?_
  refine gp hF ?_
  refine gv hF (ak rfl rfl rfl) ?_
  refine gv hF oM ?_
  refine gp hF ?_
  refine gp hF ?_
  refine gv hF (ak rfl rfl rfl) ?_
  refine gv hF oA ?_
  refine sn ?_
  refine Sm.seq ?_
  refine bd hF (by kernel_rfl) rfl 39 (by kernel_rfl) (by kernel_rfl) ?_
  simp only [List.take_succ_cons, List.take_zero, List.take_nil]
  refine hv hF oM ?_
  refine hv hF oM ?_
  refine hp hF ?_
  refine hp hF ?_
  refine hp hF ?_
  refine hv hF (ak rfl rfl rfl) ?_
  refine hv hF oM ?_
  refine hp hF ?_
  refine hp hF ?_
  refine hp hF ?_
  refine hp hF ?_
  refine hv hF (ak rfl rfl rfl) ?_
  refine hv hF oM ?_
  refine hp hF ?_
  refine hp hF ?_
  refine hp hF ?_
  refine hv hF (ak rfl rfl rfl) ?_
  refine hv hF oM ?_
  refine hp hF ?_
  refine hp hF ?_
  refine hp hF ?_
  refine hp hF ?_
  refine hp hF ?_
  refine hp hF ?_
  refine hv hF (ak rfl rfl rfl) ?_
  refine hv hF oM ?_
  refine hp hF ?_
  refine hp hF ?_
  refine hp hF ?_
  refine hv hF (ak rfl rfl rfl) ?_
  refine hv hF oM ?_
  refine hp hF ?_
  refine hp hF ?_
  refine hp hF ?_
  refine hp hF ?_
  refine hv hF (ak rfl rfl rfl) ?_
  refine hv hF oM ?_
  refine hp hF ?_
  refine hp hF ?_
  refine ag.last ⟨rfl, ?_⟩
  simp only [List.drop_succ_cons, List.drop_zero, List.drop_nil, List.nil_append, List.cons_append]
  refine gp hF ?_
  refine gp hF ?_
  refine gv hF (ak rfl rfl rfl) ?_
  refine gv hF oA ?_
  refine sn ?_
  refine Sm.ret ?_
  obtain rfl := ae h
  exact bC rfl rfl
 replace h := ifT hc7 h
 refine gv hF (aq rfl rfl hc7) ?_
 refine gv hF oM ?_
 refine gv hF (oB (cL)) ?_
 refine gv hF (ax rfl rfl rfl) ?_
 rcases ci (x3.2 == 1) with hc8 | hc8
 ·replace h := ifF hc8 h
  refine gv hF (aq rfl rfl hc8) ?_
  refine gp hF ?_
  refine gp hF ?_
  refine gv hF (ak rfl rfl rfl) ?_
  refine gv hF oA ?_
  refine sn ?_
  refine Sm.seq ?_
  refine bd hF (by kernel_rfl) rfl 39 (by kernel_rfl) (by kernel_rfl) ?_
  simp only [List.take_succ_cons, List.take_zero, List.take_nil]
  refine hv hF oM ?_
  refine hv hF oM ?_
  refine hp hF ?_
  refine hp hF ?_
  refine hp hF ?_
  refine hv hF (ak rfl rfl rfl) ?_
  refine hv hF oM ?_
  refine hp hF ?_
  refine hp hF ?_
  refine hp hF ?_
  refine hp hF ?_
  refine hv hF (ak rfl rfl rfl) ?_
  refine hv hF oM ?_
  refine hp hF ?_
  refine hp hF ?_
  refine hp hF ?_
  refine hv hF (ak rfl rfl rfl) ?_
  refine hv hF oM ?_
  refine hp hF ?_
  refine hp hF ?_
  refine hp hF ?_
  refine hp hF ?_
  refine hp hF ?_
  refine hp hF ?_
  refine hv hF (ak rfl rfl rfl) ?_
  refine hv hF oM ?_
  refine hp hF ?_
  refine hp hF ?_
  refine hp hF ?_
  refine hv hF (ak rfl rfl rfl) ?_
  refine hv hF oM ?_
  refine hp hF ?_
  refine hp hF ?_
  refine hp hF ?_
  refine hp hF ?_
  refine hv hF (ak rfl rfl rfl) ?_
  refine hv hF oM ?_
  refine hp hF ?_
  refine hp hF ?_
  refine ag.last ⟨rfl, ?_⟩
  simp only [List.drop_succ_cons, List.drop_zero, List.drop_nil, List.nil_append, List.cons_append]
  refine gp hF ?_
  refine gp hF ?_
  refine gv hF (ak rfl rfl rfl) ?_
  refine gv hF oA ?_
  refine sn ?_
  refine Sm.ret ?_
  obtain rfl := ae h
  exact bC rfl rfl
 replace h := ifT hc8 h
 refine gv hF (aq rfl rfl hc8) ?_
 refine gv hF oM ?_
 refine gv hF (oB (cL)) ?_
 refine gv hF (ax rfl rfl rfl) ?_
 refine gv hF oA ?_
 refine sn ?_
 refine Sm.seq ?_
 refine bd hF (by kernel_rfl) rfl 39 (by kernel_rfl) (by kernel_rfl) ?_
 simp only [List.take_succ_cons, List.take_zero, List.take_nil]
 refine hv hF oM ?_
 rcases ci (x4.2 == 1) with hc9 | hc9
 ·replace h := ifF hc9 h
  refine hv hF (aq rfl rfl hc9) ?_
  refine hp hF ?_
  refine hp hF ?_
  refine hp hF ?_
  refine hv hF (ak rfl rfl rfl) ?_
  refine hv hF oM ?_
  refine hp hF ?_
  refine hp hF ?_
  refine hp hF ?_
  refine hp hF ?_
  refine hv hF (ak rfl rfl rfl) ?_
  refine hv hF oM ?_
  refine hp hF ?_
  refine hp hF ?_
  refine hp hF ?_
  refine hv hF (ak rfl rfl rfl) ?_
  refine hv hF oM ?_
  refine hp hF ?_
  refine hp hF ?_
  refine hp hF ?_
  refine hp hF ?_
  refine hp hF ?_
  refine hp hF ?_
  refine hv hF (ak rfl rfl rfl) ?_
  refine hv hF oM ?_
  refine hp hF ?_
  refine hp hF ?_
  refine hp hF ?_
  refine hv hF (ak rfl rfl rfl) ?_
  refine hv hF oM ?_
  refine hp hF ?_
  refine hp hF ?_
  refine hp hF ?_
  refine hp hF ?_
  refine hv hF (ak rfl rfl rfl) ?_
  refine hv hF oM ?_
  refine hp hF ?_
  refine hp hF ?_
  refine ag.last ⟨rfl, ?_⟩
  simp only [List.drop_succ_cons, List.drop_zero, List.drop_nil, List.nil_append, List.cons_append]
  refine gp hF ?_
  refine gp hF ?_
  refine gv hF (ak rfl rfl rfl) ?_
  refine gv hF oA ?_
  refine sn ?_
  refine Sm.ret ?_
  obtain rfl := ae h
  exact bC rfl rfl
 replace h := ifT hc9 h
 refine hv hF (aq rfl rfl hc9) ?_
 refine hv hF oM ?_
 refine hv hF (oC (qv u24 u9 u5)) ?_
 refine hv hF (oB (yu rfl)) ?_
 refine hv hF (ax rfl rfl rfl) ?_
 rcases ci (x1 == ([2, 1, 1, 1, 0, 2, 0, 1, 0, 1, 0, 0, 1, 2] : List UInt8)) with hc10 | hc10
 ·replace h := ifF hc10 h
  refine hv hF (aq rfl rfl hc10) ?_
  refine hp hF ?_
  refine hp hF ?_
  refine hp hF ?_
  refine hp hF ?_
  refine hv hF (ak rfl rfl rfl) ?_
  refine hv hF oM ?_
  refine hp hF ?_
  refine hp hF ?_
  refine hp hF ?_
  refine hv hF (ak rfl rfl rfl) ?_
  refine hv hF oM ?_
  refine hp hF ?_
  refine hp hF ?_
  refine hp hF ?_
  refine hp hF ?_
  refine hp hF ?_
  refine hp hF ?_
  refine hv hF (ak rfl rfl rfl) ?_
  refine hv hF oM ?_
  refine hp hF ?_
  refine hp hF ?_
  refine hp hF ?_
  refine hv hF (ak rfl rfl rfl) ?_
  refine hv hF oM ?_
  refine hp hF ?_
  refine hp hF ?_
  refine hp hF ?_
  refine hp hF ?_
  refine hv hF (ak rfl rfl rfl) ?_
  refine hv hF oM ?_
  refine hp hF ?_
  refine hp hF ?_
  refine ag.last ⟨rfl, ?_⟩
  simp only [List.drop_succ_cons, List.drop_zero, List.drop_nil, List.nil_append, List.cons_append]
  refine gp hF ?_
  refine gp hF ?_
  refine gv hF (ak rfl rfl rfl) ?_
  refine gv hF oA ?_
  refine sn ?_
  refine Sm.ret ?_
  obtain rfl := ae h
  exact bC rfl rfl
 replace h := ifT hc10 h
 refine hv hF (aq rfl rfl hc10) ?_
 refine hv hF (oF (aA vj)) ?_
 refine hv hF (oL (bN rfl rfl wT rfl)) ?_
 refine hv hF (oN (bp u36)) ?_
 refine hv hF (oB (cL)) ?_
 refine hv hF (ax rfl rfl rfl) ?_
 rcases ci ((x2.1.proof.length : Int) == 0) with hc11 | hc11
 ·replace h := ifF hc11 h
  refine hv hF (aq rfl rfl hc11) ?_
  refine hp hF ?_
  refine hp hF ?_
  refine hp hF ?_
  refine hv hF (ak rfl rfl rfl) ?_
  refine hv hF oM ?_
  refine hp hF ?_
  refine hp hF ?_
  refine hp hF ?_
  refine hp hF ?_
  refine hp hF ?_
  refine hp hF ?_
  refine hv hF (ak rfl rfl rfl) ?_
  refine hv hF oM ?_
  refine hp hF ?_
  refine hp hF ?_
  refine hp hF ?_
  refine hv hF (ak rfl rfl rfl) ?_
  refine hv hF oM ?_
  refine hp hF ?_
  refine hp hF ?_
  refine hp hF ?_
  refine hp hF ?_
  refine hv hF (ak rfl rfl rfl) ?_
  refine hv hF oM ?_
  refine hp hF ?_
  refine hp hF ?_
  refine ag.last ⟨rfl, ?_⟩
  simp only [List.drop_succ_cons, List.drop_zero, List.drop_nil, List.nil_append, List.cons_append]
  refine gp hF ?_
  refine gp hF ?_
  refine gv hF (ak rfl rfl rfl) ?_
  refine gv hF oA ?_
  refine sn ?_
  refine Sm.ret ?_
  obtain rfl := ae h
  exact bC rfl rfl
 replace h := ifT hc11 h
 refine hv hF (aq rfl rfl hc11) ?_
 refine hv hF (oF (aA pp)) ?_
 refine hv hF (oL (bN rfl rfl ag3 rfl)) ?_
 refine hv hF (oB (cL)) ?_
 refine hv hF (ax rfl rfl rfl) ?_
 rcases ci (x2.1.count == 1) with hc12 | hc12
 ·replace h := ifF hc12 h
  refine hv hF (aq rfl rfl hc12) ?_
  refine hp hF ?_
  refine hp hF ?_
  refine hp hF ?_
  refine hp hF ?_
  refine hp hF ?_
  refine hp hF ?_
  refine hv hF (ak rfl rfl rfl) ?_
  refine hv hF oM ?_
  refine hp hF ?_
  refine hp hF ?_
  refine hp hF ?_
  refine hv hF (ak rfl rfl rfl) ?_
  refine hv hF oM ?_
  refine hp hF ?_
  refine hp hF ?_
  refine hp hF ?_
  refine hp hF ?_
  refine hv hF (ak rfl rfl rfl) ?_
  refine hv hF oM ?_
  refine hp hF ?_
  refine hp hF ?_
  refine ag.last ⟨rfl, ?_⟩
  simp only [List.drop_succ_cons, List.drop_zero, List.drop_nil, List.nil_append, List.cons_append]
  refine gp hF ?_
  refine gp hF ?_
  refine gv hF (ak rfl rfl rfl) ?_
  refine gv hF oA ?_
  refine sn ?_
  refine Sm.ret ?_
  obtain rfl := ae h
  exact bC rfl rfl
 replace h := ifT hc12 h
 refine hv hF (aq rfl rfl hc12) ?_
 refine hv hF (x := .d (.agg 32 (bc x5))) (oL (jS rfl lM jr)) ?_
 refine hv hF (x := .d (.agg 5 [.list 1 ([1, 0].map (aa .i64)) true, .list 1 ([2].map (aa .i64)) true, .list 1 ([0].map (aa .i64)) true, .v (.int .i64 1), .v (.int .i64 0)])) (oL (aD rfl rfl fW dA rfl rfl)) ?_
 refine hv hF (x := .d (.agg 2 [.v (.int .i64 1), .v (.int .i64 258)])) (oL (aD rfl rfl i5 fF rfl rfl)) ?_
 obtain ⟨x13, hx13, h⟩ := ab h
 refine ag.c hF rfl rfl (by kernel_rfl) rfl rfl rfl (ap.args (mo hx13) (fun C => (cj (by repeat' first | exact D.le.refl _ | exact aH _ _ _ | exact aG _ _ _ | refine aK ?_ | exact LeRows.nil | refine LeRows.cons ?_ ?_ | exact LeL.nil | refine LeL.cons ?_ ?_ | refine aJ ?_ | refine aL ?_) (cj (by repeat' first | exact D.le.refl _ | exact aH _ _ _ | exact aG _ _ _ | refine aK ?_ | exact LeRows.nil | refine LeRows.cons ?_ ?_ | exact LeL.nil | refine LeL.cons ?_ ?_ | refine aJ ?_ | refine aL ?_) (fun _ h => h))))) ?_
 obtain ⟨x14, hx14, h⟩ := ab h
 refine ag.c hF rfl rfl (by kernel_rfl) rfl rfl rfl (mH hx14) ?_
 obtain ⟨x15, hx15, h⟩ := ab h
 obtain ⟨x16, hx16, h⟩ := ab h
 refine hv hF (ya rfl rfl rfl (yO (by kernel_rfl) (by kernel_rfl) (na hx15) (na hx16))) ?_
 refine hv hF (ax rfl rfl rfl) ?_
 rcases ci (x5 == x14) with hc17 | hc17
 ·replace h := ifF hc17 h
  refine hv hF (aq rfl rfl hc17) ?_
  refine hp hF ?_
  refine hp hF ?_
  refine hp hF ?_
  refine hv hF (ak rfl rfl rfl) ?_
  refine hv hF oM ?_
  refine hp hF ?_
  refine hp hF ?_
  refine hp hF ?_
  refine hp hF ?_
  refine hv hF (ak rfl rfl rfl) ?_
  refine hv hF oM ?_
  refine hp hF ?_
  refine hp hF ?_
  refine ag.last ⟨rfl, ?_⟩
  simp only [List.drop_succ_cons, List.drop_zero, List.drop_nil, List.nil_append, List.cons_append]
  refine gp hF ?_
  refine gp hF ?_
  refine gv hF (ak rfl rfl rfl) ?_
  refine gv hF oA ?_
  refine sn ?_
  refine Sm.ret ?_
  obtain rfl := ae h
  exact bC rfl rfl
 replace h := ifT hc17 h
 refine hv hF (aq rfl rfl hc17) ?_
 refine hv hF (x := .d (.agg 32 (bc x5))) (oL (jS rfl lM jr)) ?_
 refine hv hF (x := .d (.agg 11 [.v (.int .i64 x2.1.version), .v (.int .i64 x2.1.index), .v (.int .i64 x2.1.count), .list 1 (x2.1.pos.at_.map (aa .i64)) false, .list 1 (x2.1.pos.h0.map (aa .i64)) false, .list 1 (x2.1.pos.h1.map (aa .i64)) false, .v (.int .i64 x2.1.pos.rights), .v (.int .i64 x2.1.pos.side), .v (.int .i64 x2.1.entry.out), .v (.int .i64 x2.1.entry.n), .list 32 (x2.1.proof.map bc) false])) (oL (aD rfl rfl kE gG rfl rfl)) ?_
 obtain ⟨x18, hx18, h⟩ := ab h
 refine ag.c hF rfl rfl (by kernel_rfl) rfl rfl rfl (d8 hx18) ?_
 refine hv hF (ax rfl rfl rfl) ?_
 rcases ci x18 with hc19 | hc19
 ·replace h := ifF hc19 h
  refine hv hF (aq rfl rfl hc19) ?_
  refine hp hF ?_
  refine hp hF ?_
  refine hp hF ?_
  refine hp hF ?_
  refine hv hF (ak rfl rfl rfl) ?_
  refine hv hF oM ?_
  refine hp hF ?_
  refine hp hF ?_
  refine ag.last ⟨rfl, ?_⟩
  simp only [List.drop_succ_cons, List.drop_zero, List.drop_nil, List.nil_append, List.cons_append]
  refine gp hF ?_
  refine gp hF ?_
  refine gv hF (ak rfl rfl rfl) ?_
  refine gv hF oA ?_
  refine sn ?_
  refine Sm.ret ?_
  obtain rfl := ae h
  exact bC rfl rfl
 replace h := ifT hc19 h
 refine hv hF (aq rfl rfl hc19) ?_
 refine hv hF (x := .d (.agg 32 (bc x5))) (oL (jS rfl lM jr)) ?_
 refine hv hF (x := .d (.agg 11 [.v (.int .i64 x2.1.version), .v (.int .i64 x2.1.index), .v (.int .i64 x2.1.count), .list 1 (x2.1.pos.at_.map (aa .i64)) false, .list 1 (x2.1.pos.h0.map (aa .i64)) false, .list 1 (x2.1.pos.h1.map (aa .i64)) false, .v (.int .i64 x2.1.pos.rights), .v (.int .i64 x2.1.pos.side), .v (.int .i64 x2.1.entry.out), .v (.int .i64 x2.1.entry.n), .list 32 (x2.1.proof.map bc) false])) (oL (aD rfl rfl kE gG rfl rfl)) ?_
 obtain ⟨x20, hx20, h⟩ := ab h
 refine ag.c hF rfl rfl (by kernel_rfl) rfl rfl rfl (d8 hx20) ?_
 refine hv hF (gU rfl rfl (ix _)) ?_
 refine hv hF (ax rfl rfl rfl) ?_
 rcases ci (!x20) with hc21 | hc21
 ·replace h := ifF hc21 h
  refine hv hF (aq rfl rfl hc21) ?_
  refine hp hF ?_
  refine hp hF ?_
  refine ag.last ⟨rfl, ?_⟩
  simp only [List.drop_succ_cons, List.drop_zero, List.drop_nil, List.nil_append, List.cons_append]
  refine gp hF ?_
  refine gp hF ?_
  refine gv hF (ak rfl rfl rfl) ?_
  refine gv hF oA ?_
  refine sn ?_
  refine Sm.ret ?_
  obtain rfl := ae h
  exact bC rfl rfl
 replace h := ifT hc21 h
 refine hv hF (aq rfl rfl hc21) ?_
 refine hv hF (x := .d (.agg 32 (bc (List.replicate 32 0)))) (gD rfl u47 rfl yM) ?_
 refine hv hF (x := .d (.agg 11 [.v (.int .i64 x2.1.version), .v (.int .i64 x2.1.index), .v (.int .i64 x2.1.count), .list 1 (x2.1.pos.at_.map (aa .i64)) false, .list 1 (x2.1.pos.h0.map (aa .i64)) false, .list 1 (x2.1.pos.h1.map (aa .i64)) false, .v (.int .i64 x2.1.pos.rights), .v (.int .i64 x2.1.pos.side), .v (.int .i64 x2.1.entry.out), .v (.int .i64 x2.1.entry.n), .list 32 (x2.1.proof.map bc) false])) (oL (aD rfl rfl kE gG rfl rfl)) ?_
 refine ag.last ⟨rfl, ?_⟩
 simp only [List.drop_succ_cons, List.drop_zero, List.drop_nil, List.nil_append, List.cons_append]
 obtain ⟨x22, hx22, h⟩ := ab h
 refine SmG.call hF rfl rfl (by kernel_rfl) rfl rfl rfl (d8 hx22) ?_
 refine gv hF (gU rfl rfl (ix _)) ?_
 refine gv hF (ax rfl rfl rfl) ?_
 refine gv hF oA ?_
 refine sn ?_
 refine Sm.ret ?_
 obtain rfl := ae h
 exact bC rfl rfl
noncomputable def dS (a0 : GRaw) (a1 : List PRaw) (a2 : List Int) : Option (List Ps × List Rs) :=
 ob (fd a0) fun x1 =>
 ob (fc x1 a1 10) fun x2 =>
 ob (eC x2 a2) fun x3 =>
 some (x2, x3)
set_option maxHeartbeats 4000000 in
theorem me {a0 : GRaw} {a1 : List PRaw} {a2 : List Int} {r : (List Ps × List Rs)} (h : dS a0 a1 a2 = some r) : ap Tryd.prog HG 10 [.agg 12 (GRaw.row a0), .list 18 (a1.map PRaw.row) false, .list 1 (a2.map (aa .u16)) false] (.tup [.list 5 (r.1.map Ps.row) false, .list 2 (r.2.map Rs.row) false]) := by
 unfold dS at h
 refine ap.of Tryd.func10 rfl Tryd.ntmps10 (by simp) ?_
 intro F hF h0 hT
 show Sm F _ _ ⟨[(0, .d (.agg 12 (GRaw.row a0))), (1, .d (.list 18 (a1.map PRaw.row) false)), (2, .d (.list 1 (a2.map (aa .u16)) false))], [], 0⟩
 refine sr hF ?_
 refine b9 hF fO ?_
 refine gv hF oA ?_
 refine gv hF oA ?_
 refine sn ?_
 refine sr hF ?_
 refine gv hF (x := .d (.agg 12 (GRaw.row a0))) (oL (dv ub wy rfl rfl)) ?_
 obtain ⟨x1, hx1, h⟩ := ab h
 refine SmG.call hF rfl rfl (by kernel_rfl) rfl rfl rfl (mN hx1) ?_
 refine gv hF oM ?_
 obtain ⟨x2, hx2, h⟩ := ab h
 refine SmG.call hF rfl rfl (by kernel_rfl) rfl rfl rfl (mq hx2) ?_
 refine gv hF oA ?_
 refine sn ?_
 refine sr hF ?_
 refine gv hF oM ?_
 refine gv hF oM ?_
 refine gv hF oM ?_
 obtain ⟨x3, hx3, h⟩ := ab h
 refine SmG.call hF rfl rfl (by kernel_rfl) rfl rfl rfl (kW hx3) ?_
 refine gv hF oA ?_
 refine gv hF oA ?_
 refine sn ?_
 refine Sm.ret ?_
 obtain rfl := ae h
 exact dI (RetR.cons (RetO.tmp rfl) (RetR.cons (RetO.tmp rfl) (RetR.nil))) (D.le.refl _)
noncomputable def cb (a2 : (Int × Int × Int)) (x2 : (List Ps × List Rs)) (x3 : List UInt8) (s5 : Int) : Option (Int ⊕ (Unit ⊕ Bool)) :=
 bif (decide (s5 < (x2.1.length : Int))) then (
  ob (cH x2.1 x2.2 a2.1 s5) fun x10 =>
  bif (x10.2 != 0) then (
   some (.inr (.inr false))
  ) else (
   bif (x10.1.version != a2.1) then (
    some (.inr (.inr false))
   ) else (
    bif (x10.1.index != s5) then (
     some (.inr (.inr false))
    ) else (
     bif (x10.1.count != (x2.1.length : Int)) then (
      some (.inr (.inr false))
     ) else (
      ob (idx x2.1 s5) fun x15 =>
      ob (eo x10.1.pos x15) fun x16 =>
      bif (!x16) then (
       some (.inr (.inr false))
      ) else (
       ob (idx x2.2 s5) fun x18 =>
       bif (!((x10.1.entry.out == x18.out) && ((x10.1.entry.n == x18.n) && true))) then (
        some (.inr (.inr false))
       ) else (
        ob (dK x3 a2.1 x10.1) fun x20 =>
        bif (!x20) then (
         some (.inr (.inr false))
        ) else (
         ob (dK x3 a2.2.1 x10.1) fun x22 =>
         bif (x22 != (a2.2.1 == a2.1)) then (
          some (.inr (.inr false))
         ) else (
          ob (arI .i64 (s5 + 1)) fun x24 =>
          some (.inl x24)
         )
        )
       )
      )
     )
    )
   )
  )
 ) else (
  some (.inr (.inl ()))
 )
noncomputable def dP (a0 : List PRaw) (a1 : GRaw) (a2 : (Int × Int × Int)) : Option Bool :=
 ob (eQ ) fun x1 =>
 ob (dS a1 a0 [(IntKind.u16.wrap a2.2.2)]) fun x2 =>
 ob (fu x2.1 x2.2) fun x3 =>
 ob (vN 32 x3) fun x4 =>
 ob ((
  bx (cb a2 x2 x3) 0
  : Option (Unit ⊕ Bool))) fun o26 => match o26 with
 | .inl v25 => (
  some x1
  )
 | .inr e27 => some e27
set_option maxHeartbeats 4000000 in
theorem je {a0 : List PRaw} {a1 : GRaw} {a2 : (Int × Int × Int)} {r : Bool} (h : dP a0 a1 a2 = some r) : ap Tryd.prog HG 4 [.list 18 (a0.map PRaw.row) false, .agg 12 (GRaw.row a1), .agg 3 [.v (.int .i64 a2.1), .v (.int .i64 a2.2.1), .v (.int .i64 a2.2.2)]] (.v (.bool r)) := by
 unfold dP at h
 refine ap.of Tryd.func4 rfl Tryd.ntmps4 (by simp) ?_
 intro F hF h0 hT
 show Sm F _ _ ⟨[(0, .d (.list 18 (a0.map PRaw.row) false)), (1, .d (.agg 12 (GRaw.row a1))), (2, .d (.agg 3 [.v (.int .i64 a2.1), .v (.int .i64 a2.2.1), .v (.int .i64 a2.2.2)]))], [], 0⟩
 refine sr hF ?_
 refine b9 hF fO ?_
 refine b9 hF fO ?_
 refine gv hF oA ?_
 refine sn ?_
 refine sr hF ?_
 obtain ⟨x1, hx1, h⟩ := ab h
 refine SmG.call hF rfl rfl (by kernel_rfl) rfl rfl rfl (lH hx1) ?_
 refine gv hF oA ?_
 refine sn ?_
 refine sr hF ?_
 refine gv hF (x := .d (.agg 12 (GRaw.row a1))) (oL (dv ub wy rfl rfl)) ?_
 refine gv hF oM ?_
 refine gv hF (oI (bR u56 sz3 rfl rfl)) ?_
 refine gv hF (oL (lP1 ag3 rfl)) ?_
 refine gv hF (oC (pJ u3 u44)) ?_
 refine gv hF (x := .d (.list 1 ([(IntKind.u16.wrap a2.2.2)].map (aa .u16)) true)) (oS (az u45 wW y9 rfl rfl (PartsQ.cons rfl (PartsQ.nil _)) rfl)) ?_
 obtain ⟨x2, hx2, h⟩ := ab h
 refine SmG.call hF rfl rfl (by kernel_rfl) rfl rfl rfl (ap.args (me hx2) (fun C => (cj (by repeat' first | exact D.le.refl _ | exact aH _ _ _ | exact aG _ _ _ | refine aK ?_ | exact LeRows.nil | refine LeRows.cons ?_ ?_ | exact LeL.nil | refine LeL.cons ?_ ?_ | refine aJ ?_ | refine aL ?_) (cj (by repeat' first | exact D.le.refl _ | exact aH _ _ _ | exact aG _ _ _ | refine aK ?_ | exact LeRows.nil | refine LeRows.cons ?_ ?_ | exact LeL.nil | refine LeL.cons ?_ ?_ | refine aJ ?_ | refine aL ?_) (cj (by repeat' first | exact D.le.refl _ | exact aH _ _ _ | exact aG _ _ _ | refine aK ?_ | exact LeRows.nil | refine LeRows.cons ?_ ?_ | exact LeL.nil | refine LeL.cons ?_ ?_ | refine aJ ?_ | refine aL ?_) (fun _ h => h)))))) ?_
 refine gv hF oM ?_
 refine gv hF (bL rfl rfl rfl) ?_
 refine gv hF (bL rfl rfl rfl) ?_
 refine gv hF oA ?_
 refine gv hF oA ?_
 refine sn ?_
 refine sr hF ?_
 refine gv hF oM ?_
 refine gv hF oM ?_
 obtain ⟨x3, hx3, h⟩ := ab h
 refine SmG.call hF rfl rfl (by kernel_rfl) rfl rfl rfl (ll hx3) ?_
 refine SmG.new hF rfl rfl rfl (aV rfl pX) ?_
 obtain ⟨x4, hx4, h⟩ := ab h
 refine SmG.store hF rfl rfl rfl rfl rfl (pI rfl rfl jr rfl (na hx4)) ?_
 refine sn ?_
 refine Sm.seq ?_
 obtain ⟨o26, ho26, h⟩ := ab h
 rcases o26 with v25 | e27
 ·refine bg ⟨[(7, .d (.v (.bool x1)))], [], 1⟩ ?_ ?_
  ·refine Sm.seq ?_
   refine ac hF rfl ?_
   refine gv hF oM ?_
   refine gv hF oA ?_
   refine sn ?_
   refine Sm.ret ?_
   obtain rfl := ae h
   exact bC rfl rfl
  replace h := ho26
  refine sr hF ?_
  refine gv hF oA ?_
  refine sn ?_
  refine Sm.block ?_
  refine bu (cb a2 x2 x3) (fun s5 => ⟨[(5, .d (.ptr 3 [.v (.int .i64 a2.1), .v (.int .i64 a2.2.1), .v (.int .i64 a2.2.2)])), (7, .d (.v (.bool x1))), (8, .d (.list 5 (x2.1.map Ps.row) false)), (9, .d (.list 2 (x2.2.map Rs.row) false)), (10, .ref 0 0 0), (11, .d (.v (.int .i64 s5)))], [(0, ⟨32, [(bc x3).map V.d]⟩)], 1⟩) 0 h (toK ⟨rfl, rfl, rfl, rfl, rfl, rfl, trivial⟩ ⟨rfl, trivial⟩) ?_
  intro n6 s5 o7 h hd8
  unfold cb at h
  refine Sm.seq ?_
  refine sr hF ?_
  refine gv hF oM ?_
  refine gv hF oM ?_
  refine gv hF (oN (bp u40)) ?_
  refine gv hF (oB (bt)) ?_
  refine sn ?_
  refine aM hF rfl (fun hc9 => ?_) (fun hc9 => ?_)
  ·replace h := ifF hc9 h
   refine Sm.exit ?_
   replace h := aE h hd8
   obtain rfl := ae (gR h)
   exact (toK ⟨rfl, trivial⟩ trivial)
  replace h := ifT hc9 h
  refine sk ?_
  refine Sm.seq ?_
  refine Sm.block ?_
  refine sr hF ?_
  refine gv hF oM ?_
  refine gv hF oM ?_
  refine gv hF (oI (bR u56 sz3 rfl rfl)) ?_
  refine gv hF (oL (lP1 ag3 rfl)) ?_
  refine gv hF oM ?_
  obtain ⟨x10, hx10, h⟩ := ab h
  refine SmG.call hF rfl rfl (by kernel_rfl) rfl rfl rfl (fw hx10) ?_
  refine gv hF oM ?_
  refine gv hF (bL rfl rfl rfl) ?_
  refine gv hF (bL rfl rfl rfl) ?_
  refine SmG.new hF rfl rfl rfl (aV rfl qw) ?_
  refine SmG.store hF rfl rfl rfl rfl rfl (aZ (ys := [.d (.v (.int .i64 x10.1.version)), .d (.v (.int .i64 x10.1.index)), .d (.v (.int .i64 x10.1.count)), .d (.list 1 (x10.1.pos.at_.map (aa .i64)) false), .d (.list 1 (x10.1.pos.h0.map (aa .i64)) false), .d (.list 1 (x10.1.pos.h1.map (aa .i64)) false), .d (.v (.int .i64 x10.1.pos.rights)), .d (.v (.int .i64 x10.1.pos.side)), .d (.v (.int .i64 x10.1.entry.out)), .d (.v (.int .i64 x10.1.entry.n)), .d (.list 32 (x10.1.proof.map bc) false)]) (r := [.d (.v (.int .i64 0)), .d (.v (.int .i64 0)), .d (.v (.int .i64 0)), .d (.list 0 [] true), .d (.list 0 [] true), .d (.list 0 [] true), .d (.v (.int .i64 0)), .d (.v (.int .i64 0)), .d (.v (.int .i64 0)), .d (.v (.int .i64 0)), .d (.list 0 [] true)]) (rows' := [[.d (.v (.int .i64 x10.1.version)), .d (.v (.int .i64 x10.1.index)), .d (.v (.int .i64 x10.1.count)), .d (.list 1 (x10.1.pos.at_.map (aa .i64)) false), .d (.list 1 (x10.1.pos.h0.map (aa .i64)) false), .d (.list 1 (x10.1.pos.h1.map (aa .i64)) false), .d (.v (.int .i64 x10.1.pos.rights)), .d (.v (.int .i64 x10.1.pos.side)), .d (.v (.int .i64 x10.1.entry.out)), .d (.v (.int .i64 x10.1.entry.n)), .d (.list 32 (x10.1.proof.map bc) false)]]) rfl rfl rfl gG rfl rfl rfl rfl rfl) ?_
  refine gv hF oA ?_
  refine sn ?_
  refine Sm.seq ?_
  refine Sm.seq ?_
  refine bd hF (by kernel_rfl) rfl 46 (by kernel_rfl) (by kernel_rfl) ?_
  simp only [List.take_succ_cons, List.take_zero, List.take_nil]
  refine hv hF oM ?_
  refine hv hF (oB (gC)) ?_
  rcases eP (x10.2 != 0) with hc11 | hc11
  ·replace h := ifT hc11 h
   refine hv hF (aq rfl rfl hc11) ?_
   refine hp hF ?_
   refine hp hF ?_
   refine hp hF ?_
   refine hp hF ?_
   refine hp hF ?_
   refine hv hF (ax rfl rfl rfl) ?_
   refine hv hF oM ?_
   refine hp hF ?_
   refine hp hF ?_
   refine hp hF ?_
   refine hp hF ?_
   refine hv hF (ax rfl rfl rfl) ?_
   refine hv hF oM ?_
   refine hp hF ?_
   refine hp hF ?_
   refine hp hF ?_
   refine hp hF ?_
   refine hp hF ?_
   refine hv hF (ax rfl rfl rfl) ?_
   refine hv hF oM ?_
   refine hp hF ?_
   refine hp hF ?_
   refine hp hF ?_
   refine hp hF ?_
   refine hp hF ?_
   refine hp hF ?_
   refine hp hF ?_
   refine hp hF ?_
   refine hv hF (ax rfl rfl rfl) ?_
   refine hv hF oM ?_
   refine hp hF ?_
   refine hp hF ?_
   refine hp hF ?_
   refine hp hF ?_
   refine hp hF ?_
   refine hp hF ?_
   refine hp hF ?_
   refine hv hF (ax rfl rfl rfl) ?_
   refine hv hF oM ?_
   refine hp hF ?_
   refine hp hF ?_
   refine hp hF ?_
   refine hp hF ?_
   refine ag.last ⟨rfl, ?_⟩
   simp only [List.drop_succ_cons, List.drop_zero, List.drop_nil, List.nil_append, List.cons_append]
   refine gp hF ?_
   refine gp hF ?_
   refine gv hF (ax rfl rfl rfl) ?_
   refine sn ?_
   refine bQ hF rfl ?_
   refine sr hF ?_
   refine gv hF oA ?_
   refine sn ?_
   refine Sm.ret ?_
   replace h := aE h hd8
   cases h
  replace h := ifF hc11 h
  refine hv hF (aq rfl rfl hc11) ?_
  refine hv hF (oF (aA sw)) ?_
  refine hv hF (oL (bN rfl rfl ag3 rfl)) ?_
  refine hv hF (oI (bR u56 sz3 rfl rfl)) ?_
  refine hv hF (oL (lP1 ag3 rfl)) ?_
  refine hv hF (oB (gC)) ?_
  refine hv hF (ak rfl rfl rfl) ?_
  rcases eP (x10.1.version != a2.1) with hc12 | hc12
  ·replace h := ifT hc12 h
   refine hv hF (aq rfl rfl hc12) ?_
   refine hp hF ?_
   refine hp hF ?_
   refine hp hF ?_
   refine hp hF ?_
   refine hv hF (ax rfl rfl rfl) ?_
   refine hv hF oM ?_
   refine hp hF ?_
   refine hp hF ?_
   refine hp hF ?_
   refine hp hF ?_
   refine hp hF ?_
   refine hv hF (ax rfl rfl rfl) ?_
   refine hv hF oM ?_
   refine hp hF ?_
   refine hp hF ?_
   refine hp hF ?_
   refine hp hF ?_
   refine hp hF ?_
   refine hp hF ?_
   refine hp hF ?_
   refine hp hF ?_
   refine hv hF (ax rfl rfl rfl) ?_
   refine hv hF oM ?_
   refine hp hF ?_
   refine hp hF ?_
   refine hp hF ?_
   refine hp hF ?_
   refine hp hF ?_
   refine hp hF ?_
   refine hp hF ?_
   refine hv hF (ax rfl rfl rfl) ?_
   refine hv hF oM ?_
   refine hp hF ?_
   refine hp hF ?_
   refine hp hF ?_
   refine hp hF ?_
   refine ag.last ⟨rfl, ?_⟩
   simp only [List.drop_succ_cons, List.drop_zero, List.drop_nil, List.nil_append, List.cons_append]
   refine gp hF ?_
   refine gp hF ?_
   refine gv hF (ax rfl rfl rfl) ?_
   refine sn ?_
   refine bQ hF rfl ?_
   refine sr hF ?_
   refine gv hF oA ?_
   refine sn ?_
   refine Sm.ret ?_
   replace h := aE h hd8
   cases h
  replace h := ifF hc12 h
  refine hv hF (aq rfl rfl hc12) ?_
  refine hv hF (oF (aA sc)) ?_
  refine hv hF (oL (bN rfl rfl ag3 rfl)) ?_
  refine hv hF oM ?_
  refine hv hF (oB (gC)) ?_
  refine hv hF (ak rfl rfl rfl) ?_
  rcases eP (x10.1.index != s5) with hc13 | hc13
  ·replace h := ifT hc13 h
   refine hv hF (aq rfl rfl hc13) ?_
   refine hp hF ?_
   refine hp hF ?_
   refine hp hF ?_
   refine hp hF ?_
   refine hp hF ?_
   refine hv hF (ax rfl rfl rfl) ?_
   refine hv hF oM ?_
   refine hp hF ?_
   refine hp hF ?_
   refine hp hF ?_
   refine hp hF ?_
   refine hp hF ?_
   refine hp hF ?_
   refine hp hF ?_
   refine hp hF ?_
   refine hv hF (ax rfl rfl rfl) ?_
   refine hv hF oM ?_
   refine hp hF ?_
   refine hp hF ?_
   refine hp hF ?_
   refine hp hF ?_
   refine hp hF ?_
   refine hp hF ?_
   refine hp hF ?_
   refine hv hF (ax rfl rfl rfl) ?_
   refine hv hF oM ?_
   refine hp hF ?_
   refine hp hF ?_
   refine hp hF ?_
   refine hp hF ?_
   refine ag.last ⟨rfl, ?_⟩
   simp only [List.drop_succ_cons, List.drop_zero, List.drop_nil, List.nil_append, List.cons_append]
   refine gp hF ?_
   refine gp hF ?_
   refine gv hF (ax rfl rfl rfl) ?_
   refine sn ?_
   refine bQ hF rfl ?_
   refine sr hF ?_
   refine gv hF oA ?_
   refine sn ?_
   refine Sm.ret ?_
   replace h := aE h hd8
   cases h
  replace h := ifF hc13 h
  refine hv hF (aq rfl rfl hc13) ?_
  refine hv hF (oF (aA pp)) ?_
  refine hv hF (oL (bN rfl rfl ag3 rfl)) ?_
  refine hv hF oM ?_
  refine hv hF (oN (bp u40)) ?_
  refine hv hF (oB (gC)) ?_
  refine hv hF (ak rfl rfl rfl) ?_
  rcases eP (x10.1.count != (x2.1.length : Int)) with hc14 | hc14
  ·replace h := ifT hc14 h
   refine hv hF (aq rfl rfl hc14) ?_
   refine hp hF ?_
   refine hp hF ?_
   refine hp hF ?_
   refine hp hF ?_
   refine hp hF ?_
   refine hp hF ?_
   refine hp hF ?_
   refine hp hF ?_
   refine hv hF (ax rfl rfl rfl) ?_
   refine hv hF oM ?_
   refine hp hF ?_
   refine hp hF ?_
   refine hp hF ?_
   refine hp hF ?_
   refine hp hF ?_
   refine hp hF ?_
   refine hp hF ?_
   refine hv hF (ax rfl rfl rfl) ?_
   refine hv hF oM ?_
   refine hp hF ?_
   refine hp hF ?_
   refine hp hF ?_
   refine hp hF ?_
   refine ag.last ⟨rfl, ?_⟩
   simp only [List.drop_succ_cons, List.drop_zero, List.drop_nil, List.nil_append, List.cons_append]
   refine gp hF ?_
   refine gp hF ?_
   refine gv hF (ax rfl rfl rfl) ?_
   refine sn ?_
   refine bQ hF rfl ?_
   refine sr hF ?_
   refine gv hF oA ?_
   refine sn ?_
   refine Sm.ret ?_
   replace h := aE h hd8
   cases h
  replace h := ifF hc14 h
  refine hv hF (aq rfl rfl hc14) ?_
  refine hv hF (oF (aA pq)) ?_
  refine hv hF (x := .d (.agg 5 [.list 1 (x10.1.pos.at_.map (aa .i64)) false, .list 1 (x10.1.pos.h0.map (aa .i64)) false, .list 1 (x10.1.pos.h1.map (aa .i64)) false, .v (.int .i64 x10.1.pos.rights), .v (.int .i64 x10.1.pos.side)])) (oL (aD rfl rfl fW dA rfl rfl)) ?_
  refine hv hF oM ?_
  refine hv hF oM ?_
  obtain ⟨x15, hx15, h⟩ := ab h
  refine hv hF (oI (bF u40 dA hx15)) ?_
  refine hv hF (x := .d (.agg 5 (Ps.row x15))) (oL (dv fW dA rfl rfl)) ?_
  obtain ⟨x16, hx16, h⟩ := ab h
  refine ag.c hF rfl rfl (by kernel_rfl) rfl rfl rfl (i2 hx16) ?_
  refine hv hF (gU rfl rfl (ix _)) ?_
  refine hv hF (ak rfl rfl rfl) ?_
  rcases eP (!x16) with hc17 | hc17
  ·replace h := ifT hc17 h
   refine hv hF (aq rfl rfl hc17) ?_
   refine hp hF ?_
   refine hp hF ?_
   refine hp hF ?_
   refine hp hF ?_
   refine hp hF ?_
   refine hp hF ?_
   refine hp hF ?_
   refine hv hF (ax rfl rfl rfl) ?_
   refine hv hF oM ?_
   refine hp hF ?_
   refine hp hF ?_
   refine hp hF ?_
   refine hp hF ?_
   refine ag.last ⟨rfl, ?_⟩
   simp only [List.drop_succ_cons, List.drop_zero, List.drop_nil, List.nil_append, List.cons_append]
   refine gp hF ?_
   refine gp hF ?_
   refine gv hF (ax rfl rfl rfl) ?_
   refine sn ?_
   refine bQ hF rfl ?_
   refine sr hF ?_
   refine gv hF oA ?_
   refine sn ?_
   refine Sm.ret ?_
   replace h := aE h hd8
   cases h
  replace h := ifF hc17 h
  refine hv hF (aq rfl rfl hc17) ?_
  refine hv hF (oF (aA pr)) ?_
  refine hv hF (x := .d (.agg 2 [.v (.int .i64 x10.1.entry.out), .v (.int .i64 x10.1.entry.n)])) (oL (aD rfl rfl i5 fF rfl rfl)) ?_
  refine hv hF oM ?_
  refine hv hF oM ?_
  obtain ⟨x18, hx18, h⟩ := ab h
  refine hv hF (oI (bF u41 fF hx18)) ?_
  refine hv hF (x := .d (.agg 2 (Rs.row x18))) (oL (dv i5 fF rfl rfl)) ?_
  refine hv hF (tB rfl rfl rfl (rF (ds := [.int .i64, .int .i64]) (by kernel_rfl) (by kernel_rfl) rfl)) ?_
  refine hv hF (ak rfl rfl rfl) ?_
  rcases eP (!((x10.1.entry.out == x18.out) && ((x10.1.entry.n == x18.n) && true))) with hc19 | hc19
  ·replace h := ifT hc19 h
   refine hv hF (aq rfl rfl hc19) ?_
   refine hp hF ?_
   refine hp hF ?_
   refine hp hF ?_
   refine hp hF ?_
   refine ag.last ⟨rfl, ?_⟩
   simp only [List.drop_succ_cons, List.drop_zero, List.drop_nil, List.nil_append, List.cons_append]
   refine gp hF ?_
   refine gp hF ?_
   refine gv hF (ax rfl rfl rfl) ?_
   refine sn ?_
   refine bQ hF rfl ?_
   refine sr hF ?_
   refine gv hF oA ?_
   refine sn ?_
   refine Sm.ret ?_
   replace h := aE h hd8
   cases h
  replace h := ifF hc19 h
  refine hv hF (aq rfl rfl hc19) ?_
  refine hv hF (x := .d (.agg 32 (bc x3))) (oL (jS rfl lM jr)) ?_
  refine hv hF (oI (bR u56 sz3 rfl rfl)) ?_
  refine hv hF (oL (lP1 ag3 rfl)) ?_
  refine hv hF (x := .d (.agg 11 [.v (.int .i64 x10.1.version), .v (.int .i64 x10.1.index), .v (.int .i64 x10.1.count), .list 1 (x10.1.pos.at_.map (aa .i64)) false, .list 1 (x10.1.pos.h0.map (aa .i64)) false, .list 1 (x10.1.pos.h1.map (aa .i64)) false, .v (.int .i64 x10.1.pos.rights), .v (.int .i64 x10.1.pos.side), .v (.int .i64 x10.1.entry.out), .v (.int .i64 x10.1.entry.n), .list 32 (x10.1.proof.map bc) false])) (oL (aD rfl rfl kE gG rfl rfl)) ?_
  refine ag.last ⟨rfl, ?_⟩
  simp only [List.drop_succ_cons, List.drop_zero, List.drop_nil, List.nil_append, List.cons_append]
  obtain ⟨x20, hx20, h⟩ := ab h
  refine SmG.call hF rfl rfl (by kernel_rfl) rfl rfl rfl (d8 hx20) ?_
  refine gv hF (gU rfl rfl (ix _)) ?_
  refine gv hF (ak rfl rfl rfl) ?_
  refine sn ?_
  refine bD hF rfl (fun hc21 => ?_) (fun hc21 => ?_)
  ·replace h := ifT hc21 h
   refine sr hF ?_
   refine gv hF oA ?_
   refine sn ?_
   refine Sm.ret ?_
   replace h := aE h hd8
   cases h
  replace h := ifF hc21 h
  refine sk ?_
  refine Sm.seq ?_
  refine bd hF (by kernel_rfl) rfl 10 (by kernel_rfl) (by kernel_rfl) ?_
  simp only [List.take_succ_cons, List.take_zero, List.take_nil]
  refine hv hF (x := .d (.agg 32 (bc x3))) (oL (jS rfl lM jr)) ?_
  refine hv hF (oI (bR u56 sz3 rfl rfl)) ?_
  refine hv hF (oL (lP1 ag3 rfl)) ?_
  refine hv hF (x := .d (.agg 11 [.v (.int .i64 x10.1.version), .v (.int .i64 x10.1.index), .v (.int .i64 x10.1.count), .list 1 (x10.1.pos.at_.map (aa .i64)) false, .list 1 (x10.1.pos.h0.map (aa .i64)) false, .list 1 (x10.1.pos.h1.map (aa .i64)) false, .v (.int .i64 x10.1.pos.rights), .v (.int .i64 x10.1.pos.side), .v (.int .i64 x10.1.entry.out), .v (.int .i64 x10.1.entry.n), .list 32 (x10.1.proof.map bc) false])) (oL (aD rfl rfl kE gG rfl rfl)) ?_
  obtain ⟨x22, hx22, h⟩ := ab h
  refine ag.c hF rfl rfl (by kernel_rfl) rfl rfl rfl (d8 hx22) ?_
  refine hv hF (oI (bR u56 sz3 rfl rfl)) ?_
  refine hv hF (oL (lP1 ag3 rfl)) ?_
  refine hv hF (oI (bR u56 sz3 rfl rfl)) ?_
  refine hv hF (oL (lP1 ag3 rfl)) ?_
  refine hv hF (oB (cL)) ?_
  refine ag.last ⟨rfl, ?_⟩
  simp only [List.drop_succ_cons, List.drop_zero, List.drop_nil, List.nil_append, List.cons_append]
  refine gv hF (oB (va _ _ _ _ (by kernel_rfl) rfl)) ?_
  refine sn ?_
  refine bD hF rfl (fun hc23 => ?_) (fun hc23 => ?_)
  ·replace h := ifT hc23 h
   refine sr hF ?_
   refine gv hF oA ?_
   refine sn ?_
   refine Sm.ret ?_
   replace h := aE h hd8
   cases h
  replace h := ifF hc23 h
  refine Sm.skip ?_
  refine ay ?_
  refine af ?_
  refine ac hF rfl ?_
  refine gv hF oM ?_
  obtain ⟨x24, hx24, h⟩ := ab h
  refine gv hF (oB (aX hx24)) ?_
  refine gv hF oA ?_
  refine SmG.nil ?_
  exact bA (bk h hd8) (aT (toK (e := [(5, .d (.ptr 3 [.v (.int .i64 a2.1), .v (.int .i64 a2.2.1), .v (.int .i64 a2.2.2)])), (7, .d (.v (.bool x1))), (8, .d (.list 5 (x2.1.map Ps.row) false)), (9, .d (.list 2 (x2.2.map Rs.row) false)), (10, .ref 0 0 0), (11, .d (.v (.int .i64 x24)))]) (g := [(0, ⟨32, [(bc x3).map V.d]⟩)]) (m := 2) ⟨rfl, rfl, rfl, rfl, rfl, rfl, trivial⟩ ⟨rfl, trivial⟩) (ir 1 rfl (by (repeat' first | exact ku _ | exact jv _ _ | exact trivial | refine jq ?_ (by decide) | refine iK ?_ (nP _ _ _) | refine kx ?_ ?_ | refine ⟨rfl, ?_⟩)) rfl))
 have he27 := ae h
 subst he27
 replace h := ho26
 refine sr hF ?_
 refine gv hF oA ?_
 refine sn ?_
 refine Sm.block ?_
 refine bu (cb a2 x2 x3) (fun s5 => ⟨[(5, .d (.ptr 3 [.v (.int .i64 a2.1), .v (.int .i64 a2.2.1), .v (.int .i64 a2.2.2)])), (7, .d (.v (.bool x1))), (8, .d (.list 5 (x2.1.map Ps.row) false)), (9, .d (.list 2 (x2.2.map Rs.row) false)), (10, .ref 0 0 0), (11, .d (.v (.int .i64 s5)))], [(0, ⟨32, [(bc x3).map V.d]⟩)], 1⟩) 0 h (toK ⟨rfl, rfl, rfl, rfl, rfl, rfl, trivial⟩ ⟨rfl, trivial⟩) ?_
 intro n6 s5 o7 h hd8
 unfold cb at h
 refine Sm.seq ?_
 refine sr hF ?_
 refine gv hF oM ?_
 refine gv hF oM ?_
 refine gv hF (oN (bp u40)) ?_
 refine gv hF (oB (bt)) ?_
 refine sn ?_
 refine aM hF rfl (fun hc9 => ?_) (fun hc9 => ?_)
 ·replace h := ifF hc9 h
  refine Sm.exit ?_
  replace h := aE h hd8
  cases h
 replace h := ifT hc9 h
 refine sk ?_
 refine Sm.seq ?_
 refine Sm.block ?_
 refine sr hF ?_
 refine gv hF oM ?_
 refine gv hF oM ?_
 refine gv hF (oI (bR u56 sz3 rfl rfl)) ?_
 refine gv hF (oL (lP1 ag3 rfl)) ?_
 refine gv hF oM ?_
 obtain ⟨x10, hx10, h⟩ := ab h
 refine SmG.call hF rfl rfl (by kernel_rfl) rfl rfl rfl (fw hx10) ?_
 refine gv hF oM ?_
 refine gv hF (bL rfl rfl rfl) ?_
 refine gv hF (bL rfl rfl rfl) ?_
 refine SmG.new hF rfl rfl rfl (aV rfl qw) ?_
 refine SmG.store hF rfl rfl rfl rfl rfl (aZ (ys := [.d (.v (.int .i64 x10.1.version)), .d (.v (.int .i64 x10.1.index)), .d (.v (.int .i64 x10.1.count)), .d (.list 1 (x10.1.pos.at_.map (aa .i64)) false), .d (.list 1 (x10.1.pos.h0.map (aa .i64)) false), .d (.list 1 (x10.1.pos.h1.map (aa .i64)) false), .d (.v (.int .i64 x10.1.pos.rights)), .d (.v (.int .i64 x10.1.pos.side)), .d (.v (.int .i64 x10.1.entry.out)), .d (.v (.int .i64 x10.1.entry.n)), .d (.list 32 (x10.1.proof.map bc) false)]) (r := [.d (.v (.int .i64 0)), .d (.v (.int .i64 0)), .d (.v (.int .i64 0)), .d (.list 0 [] true), .d (.list 0 [] true), .d (.list 0 [] true), .d (.v (.int .i64 0)), .d (.v (.int .i64 0)), .d (.v (.int .i64 0)), .d (.v (.int .i64 0)), .d (.list 0 [] true)]) (rows' := [[.d (.v (.int .i64 x10.1.version)), .d (.v (.int .i64 x10.1.index)), .d (.v (.int .i64 x10.1.count)), .d (.list 1 (x10.1.pos.at_.map (aa .i64)) false), .d (.list 1 (x10.1.pos.h0.map (aa .i64)) false), .d (.list 1 (x10.1.pos.h1.map (aa .i64)) false), .d (.v (.int .i64 x10.1.pos.rights)), .d (.v (.int .i64 x10.1.pos.side)), .d (.v (.int .i64 x10.1.entry.out)), .d (.v (.int .i64 x10.1.entry.n)), .d (.list 32 (x10.1.proof.map bc) false)]]) rfl rfl rfl gG rfl rfl rfl rfl rfl) ?_
 refine gv hF oA ?_
 refine sn ?_
 refine Sm.seq ?_
 refine Sm.seq ?_
 refine bd hF (by kernel_rfl) rfl 46 (by kernel_rfl) (by kernel_rfl) ?_
 simp only [List.take_succ_cons, List.take_zero, List.take_nil]
 refine hv hF oM ?_
 refine hv hF (oB (gC)) ?_
 rcases eP (x10.2 != 0) with hc11 | hc11
 ·replace h := ifT hc11 h
  refine hv hF (aq rfl rfl hc11) ?_
  refine hp hF ?_
  refine hp hF ?_
  refine hp hF ?_
  refine hp hF ?_
  refine hp hF ?_
  refine hv hF (ax rfl rfl rfl) ?_
  refine hv hF oM ?_
  refine hp hF ?_
  refine hp hF ?_
  refine hp hF ?_
  refine hp hF ?_
  refine hv hF (ax rfl rfl rfl) ?_
  refine hv hF oM ?_
  refine hp hF ?_
  refine hp hF ?_
  refine hp hF ?_
  refine hp hF ?_
  refine hp hF ?_
  refine hv hF (ax rfl rfl rfl) ?_
  refine hv hF oM ?_
  refine hp hF ?_
  refine hp hF ?_
  refine hp hF ?_
  refine hp hF ?_
  refine hp hF ?_
  refine hp hF ?_
  refine hp hF ?_
  refine hp hF ?_
  refine hv hF (ax rfl rfl rfl) ?_
  refine hv hF oM ?_
  refine hp hF ?_
  refine hp hF ?_
  refine hp hF ?_
  refine hp hF ?_
  refine hp hF ?_
  refine hp hF ?_
  refine hp hF ?_
  refine hv hF (ax rfl rfl rfl) ?_
  refine hv hF oM ?_
  refine hp hF ?_
  refine hp hF ?_
  refine hp hF ?_
  refine hp hF ?_
  refine ag.last ⟨rfl, ?_⟩
  simp only [List.drop_succ_cons, List.drop_zero, List.drop_nil, List.nil_append, List.cons_append]
  refine gp hF ?_
  refine gp hF ?_
  refine gv hF (ax rfl rfl rfl) ?_
  refine sn ?_
  refine bQ hF rfl ?_
  refine sr hF ?_
  refine gv hF oA ?_
  refine sn ?_
  refine Sm.ret ?_
  replace h := aE h hd8
  replace h := fK h
  obtain rfl := ae h
  exact bC rfl rfl
 replace h := ifF hc11 h
 refine hv hF (aq rfl rfl hc11) ?_
 refine hv hF (oF (aA sw)) ?_
 refine hv hF (oL (bN rfl rfl ag3 rfl)) ?_
 refine hv hF (oI (bR u56 sz3 rfl rfl)) ?_
 refine hv hF (oL (lP1 ag3 rfl)) ?_
 refine hv hF (oB (gC)) ?_
 refine hv hF (ak rfl rfl rfl) ?_
 rcases eP (x10.1.version != a2.1) with hc12 | hc12
 ·replace h := ifT hc12 h
  refine hv hF (aq rfl rfl hc12) ?_
  refine hp hF ?_
  refine hp hF ?_
  refine hp hF ?_
  refine hp hF ?_
  refine hv hF (ax rfl rfl rfl) ?_
  refine hv hF oM ?_
  refine hp hF ?_
  refine hp hF ?_
  refine hp hF ?_
  refine hp hF ?_
  refine hp hF ?_
  refine hv hF (ax rfl rfl rfl) ?_
  refine hv hF oM ?_
  refine hp hF ?_
  refine hp hF ?_
  refine hp hF ?_
  refine hp hF ?_
  refine hp hF ?_
  refine hp hF ?_
  refine hp hF ?_
  refine hp hF ?_
  refine hv hF (ax rfl rfl rfl) ?_
  refine hv hF oM ?_
  refine hp hF ?_
  refine hp hF ?_
  refine hp hF ?_
  refine hp hF ?_
  refine hp hF ?_
  refine hp hF ?_
  refine hp hF ?_
  refine hv hF (ax rfl rfl rfl) ?_
  refine hv hF oM ?_
  refine hp hF ?_
  refine hp hF ?_
  refine hp hF ?_
  refine hp hF ?_
  refine ag.last ⟨rfl, ?_⟩
  simp only [List.drop_succ_cons, List.drop_zero, List.drop_nil, List.nil_append, List.cons_append]
  refine gp hF ?_
  refine gp hF ?_
  refine gv hF (ax rfl rfl rfl) ?_
  refine sn ?_
  refine bQ hF rfl ?_
  refine sr hF ?_
  refine gv hF oA ?_
  refine sn ?_
  refine Sm.ret ?_
  replace h := aE h hd8
  replace h := fK h
  obtain rfl := ae h
  exact bC rfl rfl
 replace h := ifF hc12 h
 refine hv hF (aq rfl rfl hc12) ?_
 refine hv hF (oF (aA sc)) ?_
 refine hv hF (oL (bN rfl rfl ag3 rfl)) ?_
 refine hv hF oM ?_
 refine hv hF (oB (gC)) ?_
 refine hv hF (ak rfl rfl rfl) ?_
 rcases eP (x10.1.index != s5) with hc13 | hc13
 ·replace h := ifT hc13 h
  refine hv hF (aq rfl rfl hc13) ?_
  refine hp hF ?_
  refine hp hF ?_
  refine hp hF ?_
  refine hp hF ?_
  refine hp hF ?_
  refine hv hF (ax rfl rfl rfl) ?_
  refine hv hF oM ?_
  refine hp hF ?_
  refine hp hF ?_
  refine hp hF ?_
  refine hp hF ?_
  refine hp hF ?_
  refine hp hF ?_
  refine hp hF ?_
  refine hp hF ?_
  refine hv hF (ax rfl rfl rfl) ?_
  refine hv hF oM ?_
  refine hp hF ?_
  refine hp hF ?_
  refine hp hF ?_
  refine hp hF ?_
  refine hp hF ?_
  refine hp hF ?_
  refine hp hF ?_
  refine hv hF (ax rfl rfl rfl) ?_
  refine hv hF oM ?_
  refine hp hF ?_
  refine hp hF ?_
  refine hp hF ?_
  refine hp hF ?_
  refine ag.last ⟨rfl, ?_⟩
  simp only [List.drop_succ_cons, List.drop_zero, List.drop_nil, List.nil_append, List.cons_append]
  refine gp hF ?_
  refine gp hF ?_
  refine gv hF (ax rfl rfl rfl) ?_
  refine sn ?_
  refine bQ hF rfl ?_
  refine sr hF ?_
  refine gv hF oA ?_
  refine sn ?_
  refine Sm.ret ?_
  replace h := aE h hd8
  replace h := fK h
  obtain rfl := ae h
  exact bC rfl rfl
 replace h := ifF hc13 h
 refine hv hF (aq rfl rfl hc13) ?_
 refine hv hF (oF (aA pp)) ?_
 refine hv hF (oL (bN rfl rfl ag3 rfl)) ?_
 refine hv hF oM ?_
 refine hv hF (oN (bp u40)) ?_
 refine hv hF (oB (gC)) ?_
 refine hv hF (ak rfl rfl rfl) ?_
 rcases eP (x10.1.count != (x2.1.length : Int)) with hc14 | hc14
 ·replace h := ifT hc14 h
  refine hv hF (aq rfl rfl hc14) ?_
  refine hp hF ?_
  refine hp hF ?_
  refine hp hF ?_
  refine hp hF ?_
  refine hp hF ?_
  refine hp hF ?_
  refine hp hF ?_
  refine hp hF ?_
  refine hv hF (ax rfl rfl rfl) ?_
  refine hv hF oM ?_
  refine hp hF ?_
  refine hp hF ?_
  refine hp hF ?_
  refine hp hF ?_
  refine hp hF ?_
  refine hp hF ?_
  refine hp hF ?_
  refine hv hF (ax rfl rfl rfl) ?_
  refine hv hF oM ?_
  refine hp hF ?_
  refine hp hF ?_
  refine hp hF ?_
  refine hp hF ?_
  refine ag.last ⟨rfl, ?_⟩
  simp only [List.drop_succ_cons, List.drop_zero, List.drop_nil, List.nil_append, List.cons_append]
  refine gp hF ?_
  refine gp hF ?_
  refine gv hF (ax rfl rfl rfl) ?_
  refine sn ?_
  refine bQ hF rfl ?_
  refine sr hF ?_
  refine gv hF oA ?_
  refine sn ?_
  refine Sm.ret ?_
  replace h := aE h hd8
  replace h := fK h
  obtain rfl := ae h
  exact bC rfl rfl
 replace h := ifF hc14 h
 refine hv hF (aq rfl rfl hc14) ?_
 refine hv hF (oF (aA pq)) ?_
 refine hv hF (x := .d (.agg 5 [.list 1 (x10.1.pos.at_.map (aa .i64)) false, .list 1 (x10.1.pos.h0.map (aa .i64)) false, .list 1 (x10.1.pos.h1.map (aa .i64)) false, .v (.int .i64 x10.1.pos.rights), .v (.int .i64 x10.1.pos.side)])) (oL (aD rfl rfl fW dA rfl rfl)) ?_
 refine hv hF oM ?_
 refine hv hF oM ?_
 obtain ⟨x15, hx15, h⟩ := ab h
 refine hv hF (oI (bF u40 dA hx15)) ?_
 refine hv hF (x := .d (.agg 5 (Ps.row x15))) (oL (dv fW dA rfl rfl)) ?_
 obtain ⟨x16, hx16, h⟩ := ab h
 refine ag.c hF rfl rfl (by kernel_rfl) rfl rfl rfl (i2 hx16) ?_
 refine hv hF (gU rfl rfl (ix _)) ?_
 refine hv hF (ak rfl rfl rfl) ?_
 rcases eP (!x16) with hc17 | hc17
 ·replace h := ifT hc17 h
  refine hv hF (aq rfl rfl hc17) ?_
  refine hp hF ?_
  refine hp hF ?_
  refine hp hF ?_
  refine hp hF ?_
  refine hp hF ?_
  refine hp hF ?_
  refine hp hF ?_
  refine hv hF (ax rfl rfl rfl) ?_
  refine hv hF oM ?_
  refine hp hF ?_
  refine hp hF ?_
  refine hp hF ?_
  refine hp hF ?_
  refine ag.last ⟨rfl, ?_⟩
  simp only [List.drop_succ_cons, List.drop_zero, List.drop_nil, List.nil_append, List.cons_append]
  refine gp hF ?_
  refine gp hF ?_
  refine gv hF (ax rfl rfl rfl) ?_
  refine sn ?_
  refine bQ hF rfl ?_
  refine sr hF ?_
  refine gv hF oA ?_
  refine sn ?_
  refine Sm.ret ?_
  replace h := aE h hd8
  replace h := fK h
  obtain rfl := ae h
  exact bC rfl rfl
 replace h := ifF hc17 h
 refine hv hF (aq rfl rfl hc17) ?_
 refine hv hF (oF (aA pr)) ?_
 refine hv hF (x := .d (.agg 2 [.v (.int .i64 x10.1.entry.out), .v (.int .i64 x10.1.entry.n)])) (oL (aD rfl rfl i5 fF rfl rfl)) ?_
 refine hv hF oM ?_
 refine hv hF oM ?_
 obtain ⟨x18, hx18, h⟩ := ab h
 refine hv hF (oI (bF u41 fF hx18)) ?_
 refine hv hF (x := .d (.agg 2 (Rs.row x18))) (oL (dv i5 fF rfl rfl)) ?_
 refine hv hF (tB rfl rfl rfl (rF (ds := [.int .i64, .int .i64]) (by kernel_rfl) (by kernel_rfl) rfl)) ?_
 refine hv hF (ak rfl rfl rfl) ?_
 rcases eP (!((x10.1.entry.out == x18.out) && ((x10.1.entry.n == x18.n) && true))) with hc19 | hc19
 ·replace h := ifT hc19 h
  refine hv hF (aq rfl rfl hc19) ?_
  refine hp hF ?_
  refine hp hF ?_
  refine hp hF ?_
  refine hp hF ?_
  refine ag.last ⟨rfl, ?_⟩
  simp only [List.drop_succ_cons, List.drop_zero, List.drop_nil, List.nil_append, List.cons_append]
  refine gp hF ?_
  refine gp hF ?_
  refine gv hF (ax rfl rfl rfl) ?_
  refine sn ?_
  refine bQ hF rfl ?_
  refine sr hF ?_
  refine gv hF oA ?_
  refine sn ?_
  refine Sm.ret ?_
  replace h := aE h hd8
  replace h := fK h
  obtain rfl := ae h
  exact bC rfl rfl
 replace h := ifF hc19 h
 refine hv hF (aq rfl rfl hc19) ?_
 refine hv hF (x := .d (.agg 32 (bc x3))) (oL (jS rfl lM jr)) ?_
 refine hv hF (oI (bR u56 sz3 rfl rfl)) ?_
 refine hv hF (oL (lP1 ag3 rfl)) ?_
 refine hv hF (x := .d (.agg 11 [.v (.int .i64 x10.1.version), .v (.int .i64 x10.1.index), .v (.int .i64 x10.1.count), .list 1 (x10.1.pos.at_.map (aa .i64)) false, .list 1 (x10.1.pos.h0.map (aa .i64)) false, .list 1 (x10.1.pos.h1.map (aa .i64)) false, .v (.int .i64 x10.1.pos.rights), .v (.int .i64 x10.1.pos.side), .v (.int .i64 x10.1.entry.out), .v (.int .i64 x10.1.entry.n), .list 32 (x10.1.proof.map bc) false])) (oL (aD rfl rfl kE gG rfl rfl)) ?_
 refine ag.last ⟨rfl, ?_⟩
 simp only [List.drop_succ_cons, List.drop_zero, List.drop_nil, List.nil_append, List.cons_append]
 obtain ⟨x20, hx20, h⟩ := ab h
 refine SmG.call hF rfl rfl (by kernel_rfl) rfl rfl rfl (d8 hx20) ?_
 refine gv hF (gU rfl rfl (ix _)) ?_
 refine gv hF (ak rfl rfl rfl) ?_
 refine sn ?_
 refine bD hF rfl (fun hc21 => ?_) (fun hc21 => ?_)
 ·replace h := ifT hc21 h
  refine sr hF ?_
  refine gv hF oA ?_
  refine sn ?_
  refine Sm.ret ?_
  replace h := aE h hd8
  replace h := fK h
  obtain rfl := ae h
  exact bC rfl rfl
 replace h := ifF hc21 h
 refine sk ?_
 refine Sm.seq ?_
 refine bd hF (by kernel_rfl) rfl 10 (by kernel_rfl) (by kernel_rfl) ?_
 simp only [List.take_succ_cons, List.take_zero, List.take_nil]
 refine hv hF (x := .d (.agg 32 (bc x3))) (oL (jS rfl lM jr)) ?_
 refine hv hF (oI (bR u56 sz3 rfl rfl)) ?_
 refine hv hF (oL (lP1 ag3 rfl)) ?_
 refine hv hF (x := .d (.agg 11 [.v (.int .i64 x10.1.version), .v (.int .i64 x10.1.index), .v (.int .i64 x10.1.count), .list 1 (x10.1.pos.at_.map (aa .i64)) false, .list 1 (x10.1.pos.h0.map (aa .i64)) false, .list 1 (x10.1.pos.h1.map (aa .i64)) false, .v (.int .i64 x10.1.pos.rights), .v (.int .i64 x10.1.pos.side), .v (.int .i64 x10.1.entry.out), .v (.int .i64 x10.1.entry.n), .list 32 (x10.1.proof.map bc) false])) (oL (aD rfl rfl kE gG rfl rfl)) ?_
 obtain ⟨x22, hx22, h⟩ := ab h
 refine ag.c hF rfl rfl (by kernel_rfl) rfl rfl rfl (d8 hx22) ?_
 refine hv hF (oI (bR u56 sz3 rfl rfl)) ?_
 refine hv hF (oL (lP1 ag3 rfl)) ?_
 refine hv hF (oI (bR u56 sz3 rfl rfl)) ?_
 refine hv hF (oL (lP1 ag3 rfl)) ?_
 refine hv hF (oB (cL)) ?_
 refine ag.last ⟨rfl, ?_⟩
 simp only [List.drop_succ_cons, List.drop_zero, List.drop_nil, List.nil_append, List.cons_append]
 refine gv hF (oB (va _ _ _ _ (by kernel_rfl) rfl)) ?_
 refine sn ?_
 refine bD hF rfl (fun hc23 => ?_) (fun hc23 => ?_)
 ·replace h := ifT hc23 h
  refine sr hF ?_
  refine gv hF oA ?_
  refine sn ?_
  refine Sm.ret ?_
  replace h := aE h hd8
  replace h := fK h
  obtain rfl := ae h
  exact bC rfl rfl
 replace h := ifF hc23 h
 refine Sm.skip ?_
 refine ay ?_
 refine af ?_
 refine ac hF rfl ?_
 refine gv hF oM ?_
 obtain ⟨x24, hx24, h⟩ := ab h
 refine gv hF (oB (aX hx24)) ?_
 refine gv hF oA ?_
 refine SmG.nil ?_
 exact bA (bk h hd8) (aT (toK (e := [(5, .d (.ptr 3 [.v (.int .i64 a2.1), .v (.int .i64 a2.2.1), .v (.int .i64 a2.2.2)])), (7, .d (.v (.bool x1))), (8, .d (.list 5 (x2.1.map Ps.row) false)), (9, .d (.list 2 (x2.2.map Rs.row) false)), (10, .ref 0 0 0), (11, .d (.v (.int .i64 x24)))]) (g := [(0, ⟨32, [(bc x3).map V.d]⟩)]) (m := 2) ⟨rfl, rfl, rfl, rfl, rfl, rfl, trivial⟩ ⟨rfl, trivial⟩) (ir 1 rfl (by (repeat' first | exact ku _ | exact jv _ _ | exact trivial | refine jq ?_ (by decide) | refine iK ?_ (nP _ _ _) | refine kx ?_ ?_ | refine ⟨rfl, ?_⟩)) rfl))
end
section
open Go.RowKit
set_option maxRecDepth 100000
theorem lf (a b : Int) : Ok (cI a b) fun v => (v = 0 ↔ a = b) := by
 unfold cI
 refine Ok.cond (fun h => Ok.ret ?_) fun h => Ok.cond (fun h2 => Ok.ret ?_) fun h2 => Ok.ret ?_
 all_goals simp only [decide_eq_true_eq, decide_eq_false_iff_not] at h
 ·omega
 ·simp only [decide_eq_true_eq] at h2; omega
 ·simp only [decide_eq_false_iff_not] at h2; omega
theorem pQ (a b : List Int) (ha : a.length ≤ 9223372036854775807) : Ok (dw a b) fun v => (v = 0 ↔ a = b) := by
 unfold dw
 refine Ok.bind (P := fun o => match o with | .inl () => a.take (min a.length b.length) = b.take (min a.length b.length) | .inr v => v ≠ 0 ∧ a ≠ b) ?_ ?_
 ·refine Ok.loop (fun s : Int => ∃ i : Nat, s = i ∧ i ≤ a.length ∧ i ≤ b.length ∧ a.take i = b.take i) (fun s : Int => a.length - s.toNat) ⟨0, rfl, by omega, by omega, by simp⟩ ?_
  rintro _ ⟨i, rfl, h1, h2, h3⟩
  unfold dq
  refine Ok.cond (fun c1 => ?_) fun c1 => Ok.ret ?_
  ·refine Ok.cond (fun c2 => ?_) fun c2 => Ok.ret ?_
   ·simp only [decide_eq_true_eq] at c1 c2
    have ea : a[i]? = some (a[i]'(by omega)) := List.getElem?_eq_getElem _
    have eb : b[i]? = some (b[i]'(by omega)) := List.getElem?_eq_getElem _
    generalize a[i]'(by omega) = x at ea
    generalize b[i]'(by omega) = y at eb
    simp only [gq, ea, eb, ai]
    refine Ok.cond (fun c3 => ?_) fun c3 => ?_
    ·refine Ok.bind (lf x y) fun v hv => Ok.ret ?_
     have hxy : x ≠ y := by simpa using c3
     exact ⟨fun h => hxy (hv.1 h), fun h => by subst h; rw [ea] at eb; exact hxy (Option.some.inj eb)⟩
    ·have hxy : x = y := by simpa using c3
     rw [aU (by omega), ai]
     refine Ok.ret ⟨⟨i + 1, by omega, by omega, by omega, ?_⟩, by omega⟩
     rw [List.take_add_one, List.take_add_one, ea, eb, h3, hxy]
   ·simp only [decide_eq_false_iff_not] at c2
    have : min a.length b.length = i := by omega
    simp only [this]; exact h3
  ·simp only [decide_eq_false_iff_not] at c1
   have : min a.length b.length = i := by omega
   simp only [this]; exact h3
 ·rintro (⟨⟩ | v) h
  ·refine Ok.bind (lf _ _) fun v hv => Ok.ret ?_
   simp only at h
   rw [hv]
   constructor
   ·intro e
    have e : a.length = b.length := by omega
    rw [e, Nat.min_self, List.take_length] at h
    rw [← e, List.take_length] at h
    exact h
   ·intro e; rw [e]
  ·exact Ok.ret ⟨fun e => absurd e h.1, fun e => absurd e h.2⟩
structure PsFit (p : Ps) : Prop where
 a : p.at_.length ≤ 9223372036854775807
 b : p.h0.length ≤ 9223372036854775807
 c : p.h1.length ≤ 9223372036854775807
theorem tY (p q : Ps) (hp : PsFit p) : Ok (ey p q) fun v => (v = 0 ↔ p = q) := by
 unfold ey
 refine Ok.bind (pQ _ _ hp.a) fun v1 h1 => ?_
 refine Ok.bind (pQ _ _ hp.b) fun v2 h2 => ?_
 refine Ok.bind (pQ _ _ hp.c) fun v3 h3 => ?_
 refine Ok.bind (lf _ _) fun v4 h4 => ?_
 refine Ok.bind (lf _ _) fun v5 h5 => ?_
 have hpq : p = q ↔ v1 = 0 ∧ v2 = 0 ∧ v3 = 0 ∧ v4 = 0 ∧ v5 = 0 := by
  rw [h1, h2, h3, h4, h5]
  obtain ⟨a, b, c, d, e⟩ := p
  obtain ⟨a', b', c', d', e'⟩ := q
  simp only [Ps.mk.injEq]
 rw [hpq]
 refine Ok.bind (P := fun o => match o with | .inl () => ∀ i, i < 5 → [v1, v2, v3, v4, v5][i]? = some 0 | .inr v => v ≠ 0 ∧ v ∈ [v1, v2, v3, v4, v5]) ?_ ?_
 ·refine Ok.loop (fun s : Int => ∃ i : Nat, s = i ∧ i ≤ 5 ∧ ∀ j, j < i → [v1, v2, v3, v4, v5][j]? = some 0) (fun s : Int => 5 - s.toNat) ⟨0, rfl, by omega, fun j h => by omega⟩ ?_
  rintro _ ⟨i, rfl, hi, hall⟩
  unfold cQ
  refine Ok.cond (fun c1 => ?_) fun c1 => Ok.ret ?_
  ·simp only [decide_eq_true_eq, List.length_cons, List.length_nil] at c1
   have hi5 : i < [v1, v2, v3, v4, v5].length := by simp only [List.length_cons, List.length_nil]; omega
   have e : [v1, v2, v3, v4, v5][i]? = some ([v1, v2, v3, v4, v5][i]'hi5) := List.getElem?_eq_getElem _
   generalize [v1, v2, v3, v4, v5][i]'hi5 = x at e
   simp only [gq, e, ai]
   refine Ok.cond (fun c2 => Ok.ret ⟨by simpa using c2, List.mem_of_getElem? e⟩) fun c2 => ?_
   rw [aU (by omega), ai]
   refine Ok.ret ⟨⟨i + 1, by omega, by omega, fun j hj => ?_⟩, by omega⟩
   rcases Nat.lt_or_ge j i with h | h
   ·exact hall j h
   ·obtain rfl : j = i := by omega
    rw [e]; simpa using c2
  ·simp only [decide_eq_false_iff_not, List.length_cons, List.length_nil] at c1
   intro j hj; exact hall j (by omega)
 ·rintro (⟨⟩ | v) h
  ·refine Ok.ret ?_
   simp only at h
   have g0 := h 0 (by omega); have g1 := h 1 (by omega); have g2 := h 2 (by omega); have g3 := h 3 (by omega); have g4 := h 4 (by omega)
   simp at g0 g1 g2 g3 g4
   simp [g0, g1, g2, g3, g4]
  ·refine Ok.ret ⟨fun e => absurd e h.1, fun e => ?_⟩
   obtain ⟨e1, e2, e3, e4, e5⟩ := e
   have := h.2
   simp [e1, e2, e3, e4, e5] at this
   exact this
theorem yc (p q : Ps) (hp : PsFit p) : eo p q = some (decide (p = q)) := by
 unfold eo
 obtain ⟨v, h1, h2⟩ := tY p q hp
 rw [fY h1]
 congr 1
 rw [Bool.eq_iff_iff]
 simp [h2]
end
section
open Go.RowKit
set_option maxRecDepth 100000
theorem mK {α : Type} (ls : List (List α)) (i : Nat) (x : List α) (h : ls[i]? = some x) : (ls.take (i + 1)).flatten.length = (ls.take i).flatten.length + x.length ∧ (ls.take (i + 1)).flatten = (ls.take i).flatten ++ x := by
 have hi := (List.getElem?_eq_some_iff.1 h).1
 rw [List.take_add_one, h]; simp
theorem i4 {α : Type} (ls : List (List α)) (i : Nat) : (ls.take i).flatten.length ≤ ls.flatten.length := by
 have := congrArg (fun l => l.flatten.length) (List.take_append_drop i ls)
 simp only [List.flatten_append, List.length_append] at this
 omega
theorem su (n : Int) (h : 0 ≤ n ∧ n ≤ 4294967296) : dN [] n = some [] := by
 refine Ok.get ?_
 unfold dN
 refine Ok.cond (fun c => ?_) fun _ => ?_
 ·simp only [decide_eq_true_eq] at c; omega
 ·rw [aU (by omega), ai]
  refine Ok.cond (fun c => ?_) fun _ => Ok.ret rfl
  simp only [decide_eq_true_eq] at c
  have : pY (n - 0) = some (n - 0).toNat := if_pos (by omega)
  rw [this, ai]; exact Ok.ret rfl
theorem qk (ls : List (List Int)) (h : ls.flatten.length ≤ 4294967296) (hl : ls.length ≤ 4294967296) : dn ls = some ls.flatten := by
 unfold dn
 have h1 : bx (bY ls) (0, 0) = some (ls.flatten.length : Int) := by
  have := kG (body := bY ls) (fun i => (((ls.take i).flatten.length : Nat), (i : Int))) ls.length (e := (ls.flatten.length : Int)) (fun i hi => by
   have hx : ls[i]? = some (ls[i]'hi) := List.getElem?_eq_getElem _
   generalize ls[i]'hi = x at hx
   have hle := i4 ls (i + 1)
   have hst := (mK ls i x hx).1
   unfold bY
   simp only
   rw [ki (by omega), cond_true, gq, hx, ai, aU (by omega), ai, gi (by omega), cond_false, aU (by omega), ai, hst]
   rfl) (by
   unfold bY
   simp only [List.take_length]
   rw [gi (by omega), cond_false])
  simpa using this
 rw [fY h1, fY (su _ (by omega))]
 have h2 : bx (bX ls) (0, []) = some ls.flatten := by
  have := kG (body := bX ls) (fun i => ((i : Int), (ls.take i).flatten)) ls.length (e := ls.flatten) (fun i hi => by
   have hx : ls[i]? = some (ls[i]'hi) := List.getElem?_eq_getElem _
   generalize ls[i]'hi = x at hx
   have hle := i4 ls (i + 1)
   obtain ⟨hst, hst2⟩ := mK ls i x hx
   unfold bX
   simp only
   rw [ki (by omega), cond_true, gq, hx, ai, cc (by omega), ai, aU (by omega), ai, hst2]
   rfl) (by
   unfold bX
   simp only [List.take_length]
   rw [gi (by omega), cond_false])
  simpa using this
 rw [fY h2]
theorem pR (n : Int) (h : 0 ≤ n ∧ n ≤ 4294967296) : dk [] n = some [] := by
 refine Ok.get ?_
 unfold dk
 refine Ok.cond (fun c => ?_) fun _ => ?_
 ·simp only [decide_eq_true_eq] at c; omega
 ·rw [aU (by omega), ai]
  refine Ok.cond (fun c => ?_) fun _ => Ok.ret rfl
  simp only [decide_eq_true_eq] at c
  have : pY (n - 0) = some (n - 0).toNat := if_pos (by omega)
  rw [this, ai]; exact Ok.ret rfl
theorem oc (ls : List (List UInt8)) (h : ls.flatten.length ≤ 4294967296) (hl : ls.length ≤ 4294967296) : cU ls = some ls.flatten := by
 unfold cU
 have h1 : bx (bM ls) (0, 0) = some (ls.flatten.length : Int) := by
  have := kG (body := bM ls) (fun i => (((ls.take i).flatten.length : Nat), (i : Int))) ls.length (e := (ls.flatten.length : Int)) (fun i hi => by
   have hx : ls[i]? = some (ls[i]'hi) := List.getElem?_eq_getElem _
   generalize ls[i]'hi = x at hx
   have hle := i4 ls (i + 1)
   have hst := (mK ls i x hx).1
   unfold bM
   simp only
   rw [ki (by omega), cond_true, gq, hx, ai, aU (by omega), ai, gi (by omega), cond_false, aU (by omega), ai, hst]
   rfl) (by
   unfold bM
   simp only [List.take_length]
   rw [gi (by omega), cond_false])
  simpa using this
 rw [fY h1, fY (pR _ (by omega))]
 have h2 : bx (bP ls) (0, []) = some ls.flatten := by
  have := kG (body := bP ls) (fun i => ((i : Int), (ls.take i).flatten)) ls.length (e := ls.flatten) (fun i hi => by
   have hx : ls[i]? = some (ls[i]'hi) := List.getElem?_eq_getElem _
   generalize ls[i]'hi = x at hx
   have hle := i4 ls (i + 1)
   obtain ⟨hst, hst2⟩ := mK ls i x hx
   unfold bP
   simp only
   rw [ki (by omega), cond_true, gq, hx, ai, cc (by omega), ai, aU (by omega), ai, hst2]
   rfl) (by
   unfold bP
   simp only [List.take_length]
   rw [gi (by omega), cond_false])
  simpa using this
 rw [fY h2]
theorem yZ (n : Int) : w8 n = ji n := rfl
theorem uy (p : Ps) (h : p.at_.length ≤ 1000000000) (h0 : p.h0.length ≤ 1000000000) (h1 : p.h1.length ≤ 1000000000) : eE p = some (i7 p) := by
 unfold eE i7
 rw [cc (by simp; omega), ai, cc (by simp; omega), ai, cc (by simp; omega), ai, cc (by simp; omega), ai]
 simp
theorem oO {body : (Int × List UInt8) → Option ((Int × List UInt8) ⊕ List UInt8)} (l : List Int) (hl : l.length ≤ 4294967295)
  (hb : ∀ s, body s = (bif (decide (s.1 < (l.length : Int))) then (ob (idx l s.1) fun x => ob (app s.2 [(w8 x)]) fun y => ob (arI .i64 (s.1 + 1)) fun z => some (.inl (z, y))) else some (.inr s.2))) : bx body (0, []) = some (l.map ji) :=
 nD l ji (fun i x acc hx hacc => by
  have hi := (List.getElem?_eq_some_iff.1 hx).1
  rw [hb]
  simp only
  rw [ki (by omega), cond_true, gq, hx, ai, cc (by simp; omega), ai, aU (by omega), ai]; rfl) (fun acc => by
  rw [hb]; simp only
  rw [gi (by omega), cond_false])
theorem vZ (p : Ps) (h : p.at_.length ≤ 1000000000) (h0 : p.h0.length ≤ 1000000000) (h1 : p.h1.length ≤ 1000000000) : fA p = some (ng p) := by
 unfold fA
 rw [uy p h h0 h1, ai, oO (body := fG (i7 p)) (i7 p) (by simp [i7]; omega) (fun s => rfl), ai]; rfl
theorem y4 (p : Ps) (h : p.at_.length ≤ 1000000000) (h0 : p.h0.length ≤ 1000000000) (h1 : p.h1.length ≤ 1000000000) : jQ p = some (ng p) := by
 unfold jQ
 rw [qk _ (by simp; omega) (by simp), ai]
 have : [p.at_, p.h0, p.h1, [p.rights, p.side]].flatten = i7 p := by simp [i7]
 rw [this, oO (body := jb (i7 p)) (i7 p) (by simp [i7]; omega) (fun s => rfl), ai]; rfl
theorem ro (l : List Int) (h : l.length ≤ 4294967295) : fM l = some (l.map ji) := by
 unfold fM
 rw [oO (body := gg l) l h (fun s => rfl), ai]
structure PsB (p : Ps) : Prop where
 a : p.at_.length ≤ 1000000000
 b : p.h0.length ≤ 1000000000
 c : p.h1.length ≤ 1000000000
theorem PsB.fit {p : Ps} (h : PsB p) : PsFit p := ⟨by have := h.a; omega, by have := h.b; omega, by have := h.c; omega⟩
theorem sx (p : Ps) : (ng p).length = p.at_.length + p.h0.length + p.h1.length + 2 := by simp [ng, i7]; omega
theorem qp (p : Ps) (r : Rs) (h : PsB p) : fr p r = some (eI p r) := by
 have ha := h.a
 have hb := h.b
 have hc := h.c
 unfold fr
 have hk := sx p
 rw [ro _ (by simp), ai, y4 p h.a h.b h.c, ai, qC (by omega), ai, mp (by omega), ai, mp (by omega), ai, mp (by omega), ai, ro _ (by simp), ai, oc _ (by simp; omega) (by simp), ai]
 simp [eI, um]
theorem uG (p : Ps) (r : Rs) (h : PsB p) : e8 p r = some (eI p r) := by
 have ha := h.a
 have hb := h.b
 have hc := h.c
 unfold e8
 have hk := sx p
 rw [vZ p h.a h.b h.c, ai, qC (by omega), ai, cc (by simp; omega), ai, cc (by simp; omega), ai]
 have hloop : bx (cP r) (3, [w8 p.at_.length, w8 p.h0.length, w8 p.h1.length] ++ ng p ++ [w8 r.out]) = some (eI p r) := by
  generalize hL : [w8 p.at_.length, w8 p.h0.length, w8 p.h1.length] ++ ng p ++ [w8 r.out] = L
  have hLl : L.length ≤ 4000000000 := by rw [← hL]; simp; omega
  have step : ∀ (i : Int) (l : List UInt8), 0 ≤ i → i ≤ 3 → l.length ≤ 4000000010 → cP r (i, l) = some (.inl (i - 1, l ++ [w8 (r.n / 2 ^ (8 * i).toNat)])) := fun i l h0 h3 hl => by
   unfold cP
   simp only
   rw [AQ (by omega), cond_true, aU (by omega), ai, mp (by omega), ai, cc (by simp; omega), ai, aU (by omega), ai]
  refine io (step 3 _ (by omega) (by omega) (by omega)) (io (step _ _ (by omega) (by omega) (by simp; omega)) (io (step _ _ (by omega) (by omega) (by simp; omega)) (io (step _ _ (by omega) (by omega) (by simp; omega)) (ml ?_))))
  unfold cP
  simp only
  rw [xg (by omega), cond_false, ← hL]
  simp [eI, um, yZ]
 rw [hloop, ai]
end
section
open Go.RowKit
set_option maxRecDepth 100000
structure BrdOk (b : Brd) : Prop where
 c1 : 1 ≤ b.cells
 c9 : b.cells ≤ 9
 nl : b.next.length = 8
 row : ∀ l ∈ b.next, (l.length : Int) = b.cells
 tl : b.turn.length = 8
theorem okT {α : Type} (v : α) : Ok (some v) fun _ => True := ⟨v, rfl, trivial⟩
theorem pM {a b : Int} (h : 0 < b) : Ok (cM a b) fun _ => True := ⟨_, if_neg (by omega), trivial⟩
theorem xJ {w h : Int} (h1 : 1 ≤ w ∧ w ≤ 3) (h2 : 1 ≤ h ∧ h ≤ 3) : Ok (fe w h) fun r => BrdOk r.1 := by
 obtain ⟨n, hn, hn1, hn9⟩ : ∃ n : Int, w * h = n ∧ 1 ≤ n ∧ n ≤ 9 := by
  obtain rfl | rfl | rfl : w = 1 ∨ w = 2 ∨ w = 3 := by omega
  all_goals exact ⟨_, rfl, by omega, by omega⟩
 unfold fe
 rw [gi (by omega), cond_false, gi (by omega), cond_false, gi (by omega), cond_false, gi (by omega), cond_false, hn, aU (by omega), ai, gi (by omega), cond_false, ai]
 have hin : ∀ (d : Nat) (x : List (List Int)) (y : List Int), d < 8 → Ok (bx (ep w h ((d : Int), x, y)) (0, [])) fun l => (l.length : Int) = n := by
  intro d x y hd
  refine Ok.loop (fun s : Int × List Int => ∃ i : Nat, s.1 = i ∧ (i : Int) ≤ n ∧ s.2.length = i) (fun s => n.toNat - s.1.toNat) ⟨0, rfl, by omega, rfl⟩ ?_
  rintro ⟨_, acc⟩ ⟨i, rfl, hi, ha⟩
  unfold ep
  simp only at ha ⊢
  rw [hn, aU (by omega), ai]
  refine Ok.cond (fun c1 => ?_) fun c1 => Ok.ret (by simp only [decide_eq_false_iff_not] at c1; omega)
  simp only [decide_eq_true_eq] at c1
  have hv : ∀ l : List Int, l.length = 8 → (∀ x ∈ l, -1 ≤ x ∧ x ≤ 1) → ∃ v, idx l (d : Int) = some v ∧ -1 ≤ v ∧ v ≤ 1 := fun l hl hx => ⟨_, dh (by omega) (by omega), hx _ (List.getElem_mem _)⟩
  obtain ⟨a, ha1, ha2⟩ := hv [0, 1, 1, 1, 0, (-1), (-1), (-1)] rfl (by decide)
  obtain ⟨b, hb1, hb2⟩ := hv [(-1), (-1), 0, 1, 1, 1, 0, (-1)] rfl (by decide)
  have q1 := Int.emod_nonneg (i : Int) (b := w) (by omega)
  have q2 := Int.emod_lt_of_pos (i : Int) (b := w) (by omega)
  have q3 : 0 ≤ (i : Int) / w := Int.ediv_nonneg (by omega) (by omega)
  have q4 : (i : Int) / w ≤ i := Int.ediv_le_self _ (by omega)
  rw [bI (by omega) (by omega), ai, ha1, ai, aU (by omega), ai, rC (by omega) (by omega), ai, hb1, ai, aU (by omega), ai]
  refine Ok.bind (P := fun _ => True) ?_ fun v _ => ?_
  ·refine Ok.cond (fun _ => Ok.cond (fun _ => Ok.cond (fun k1 => Ok.cond (fun k2 => ?_) fun _ => okT _) fun _ => okT _) fun _ => okT _) fun _ => okT _
   simp only [decide_eq_true_eq] at k1 k2
   generalize (i : Int) / w + b = z at k1 k2 ⊢
   have : 0 ≤ z * w ∧ z * w ≤ 27 := by
    obtain rfl | rfl | rfl : w = 1 ∨ w = 2 ∨ w = 3 := by omega
    all_goals omega
   rw [aU (by omega), ai, aU (by omega), ai]
   exact okT _
  ·rw [cc (by simp; omega), ai, aU (by omega), ai]
   exact Ok.ret ⟨⟨i + 1, by simp, by omega, by simp [ha]⟩, by simp only; omega⟩
 refine Ok.bind (P := fun r : List (List Int) × List Int => r.1.length = 8 ∧ r.2.length = 8 ∧ ∀ l ∈ r.1, (l.length : Int) = n) ?_ fun r hr => Ok.ret ⟨hn1, hn9, hr.1, hr.2.2, hr.2.1⟩
 refine Ok.loop (fun s : Int × List (List Int) × List Int => ∃ i : Nat, s.1 = i ∧ i ≤ 8 ∧ s.2.1.length = i ∧ s.2.2.length = i ∧ ∀ l ∈ s.2.1, (l.length : Int) = n) (fun s => 8 - s.1.toNat) ⟨0, rfl, by omega, rfl, rfl, fun _ h => by cases h⟩ ?_
 rintro ⟨_, x, y⟩ ⟨i, rfl, hi, hx, hy, hl⟩
 unfold fk
 simp only at hx hy hl ⊢
 refine Ok.cond (fun c1 => ?_) fun c1 => Ok.ret (by simp only [decide_eq_false_iff_not] at c1; simp only; exact ⟨by omega, by omega, hl⟩)
 simp only [decide_eq_true_eq] at c1
 refine Ok.bind (P := fun s : List (List Int) × List Int => s.1.length = i + 1 ∧ s.2.length = i + 1 ∧ ∀ l ∈ s.1, (l.length : Int) = n) ?_ fun s hs => ?_
 ·refine Ok.bind (hin i x y (by omega)) fun v hv => ?_
  rw [cc (by simp; omega), ai, aU (by omega), ai, bI (by omega) (by omega), ai, cc (by simp; omega), ai]
  refine Ok.ret ⟨by simp [hx], by simp [hy], fun l hl' => ?_⟩
  rcases List.mem_append.1 hl' with h | h
  ·exact hl l h
  ·rw [List.mem_singleton.1 h]; exact hv
 ·rw [aU (by omega), ai]
  exact Ok.ret ⟨⟨i + 1, by simp, by omega, hs.1, hs.2.1, hs.2.2⟩, by simp only; omega⟩
theorem tO {b : Brd} {c : Int} (hb : BrdOk b) (hc0 : 0 ≤ c) (hc : c < b.cells) : Ok (ee b c) fun r => BrdOk r.1 := by
 obtain ⟨n, next, turn⟩ := b
 have h1 := hb.c1
 have h9 := hb.c9
 have hnl := hb.nl
 have hrow := hb.row
 have htl := hb.tl
 simp only at h1 h9 hnl hrow htl hc
 unfold ee
 simp only
 rw [gi (by omega), cond_false, xg (by omega), cond_false, cc (by simp; omega), ai]
 have hin : ∀ (d : Nat) (x : List (List Int)), d < 8 → Ok (bx (dz ⟨n, next, turn⟩ c ((d : Int), x)) (0, [])) fun l => (l.length : Int) = n := by
  intro d x hd
  refine Ok.loop (fun s : Int × List Int => ∃ i : Nat, s.1 = i ∧ (i : Int) ≤ n ∧ s.2.length = i) (fun s => n.toNat - s.1.toNat) ⟨0, rfl, by omega, rfl⟩ ?_
  rintro ⟨_, acc⟩ ⟨i, rfl, hi, ha⟩
  unfold dz
  simp only at ha ⊢
  refine Ok.cond (fun c1 => ?_) fun c1 => Ok.ret (by simp only [decide_eq_false_iff_not] at c1; omega)
  simp only [decide_eq_true_eq] at c1
  have hr := hrow (next[d]) (List.getElem_mem _)
  rw [dh (by omega) (by omega), ai]
  refine eJ (dh (by omega) (by show (i : Int) < (next[d].length : Int); omega)) ?_
  refine Ok.bind (P := fun _ => True) (Ok.cond (fun _ => okT _) fun _ => Ok.cond (fun _ => okT _) fun _ => okT _) fun v _ => ?_
  rw [cc (by simp; omega), ai, aU (by omega), ai]
  exact Ok.ret ⟨⟨i + 1, by simp, by omega, by simp [ha]⟩, by simp only; omega⟩
 refine Ok.bind (P := fun r : List (List Int) => r.length = 8 ∧ ∀ l ∈ r, (l.length : Int) = n) ?_ fun r hr => Ok.ret ⟨h1, h9, hr.1, hr.2, by simpa using htl⟩
 refine Ok.loop (fun s : Int × List (List Int) => ∃ i : Nat, s.1 = i ∧ i ≤ 8 ∧ s.2.length = i ∧ ∀ l ∈ s.2, (l.length : Int) = n) (fun s => 8 - s.1.toNat) ⟨0, rfl, by omega, rfl, fun _ h => by cases h⟩ ?_
 rintro ⟨_, x⟩ ⟨i, rfl, hi, hx, hl⟩
 unfold eO
 simp only at hx hl ⊢
 refine Ok.cond (fun c1 => ?_) fun c1 => Ok.ret (by simp only [decide_eq_false_iff_not] at c1; exact ⟨by omega, hl⟩)
 simp only [decide_eq_true_eq] at c1
 refine Ok.bind (P := fun s : List (List Int) => s.length = i + 1 ∧ ∀ l ∈ s, (l.length : Int) = n) ?_ fun s hs => ?_
 ·refine Ok.bind (hin i x (by omega)) fun v hv => ?_
  rw [cc (by simp; omega), ai]
  refine Ok.ret ⟨by simp [hx], fun l hl' => ?_⟩
  rcases List.mem_append.1 hl' with h | h
  ·exact hl l h
  ·rw [List.mem_singleton.1 h]; exact hv
 ·rw [aU (by omega), ai]
  exact Ok.ret ⟨⟨i + 1, by simp, by omega, hs.1, hs.2⟩, by simp only; omega⟩
theorem wz (a b c : UInt8) : Ok (e7 a b c) BrdOk := by
 have ha := a.toNat_lt
 have hb := b.toNat_lt
 have hc := c.toNat_lt
 unfold e7
 rw [bI (by omega) (by omega), ai, aU (by omega), ai, aU (by omega), ai, bI (by omega) (by omega), ai, aU (by omega), ai, aU (by omega), ai]
 refine Ok.bind (xJ (by omega) (by omega)) fun r hr => ?_
 refine Ok.bind (P := fun v : Int × List (List Int) × List Int => BrdOk ⟨v.1, v.2.1, v.2.2⟩) (Ok.cond (fun _ => ?_) fun _ => Ok.ret hr) fun v hv => Ok.ret hv
 have := hr.c1
 rw [bI (by omega) (by omega), ai]
 exact Ok.bind (tO hr (Int.emod_nonneg _ (by omega)) (Int.emod_lt_of_pos _ (by omega))) fun v hv => Ok.ret hv
theorem oV (l : List UInt8) {i : Int} (hi : 0 ≤ i) : Ok (cW l i) fun v => 0 ≤ v ∧ v ≤ 255 := by
 unfold cW
 refine Ok.cond (fun c => ?_) fun _ => Ok.ret (by omega)
 simp only [decide_eq_true_eq] at c
 rw [dh hi c, ai]
 have := (l[i.toNat]'(by omega)).toNat_lt
 exact Ok.ret (by omega)
theorem zh (l : List UInt8) : Ok (fC l) fun r => r.length ≤ 6 := by
 unfold fC
 refine Ok.bind (oV l (by omega)) fun x1 g1 => ?_
 rw [bI (by omega) (by omega), ai]
 refine Ok.bind (oV l (by omega)) fun x3 g3 => ?_
 rw [bI (by omega) (by omega), ai]
 refine Ok.bind (oV l (by omega)) fun x5 g5 => ?_
 rw [bI (by omega) (by omega), ai]
 refine Ok.bind (oV l (by omega)) fun x7 g7 => ?_
 rw [bI (by omega) (by omega), ai, aU (by omega), ai, bI (by omega) (by omega), ai]
 refine Ok.bind (oV l (by omega)) fun x11 g11 => ?_
 have key : ∀ t : List (List Stp), t.length = 16 → (∀ r ∈ t, r.length ≤ 6) → Ok (ob (cM x11 (t.length : Int)) fun x12 => ob (idx t x12) fun x13 => some x13) fun r => r.length ≤ 6 := by
  intro t ht hr
  have ht' : ((t.length : Nat) : Int) = 16 := by omega
  rw [ht', bI (by omega) (by omega), ai, dh (by omega) (by omega), ai]
  exact Ok.ret (hr _ (List.getElem_mem _))
 refine key _ rfl ?_
 intro r hr
 simp only [List.mem_cons, List.not_mem_nil, or_false] at hr
 rcases hr with rfl | rfl | rfl | rfl | rfl | rfl | rfl | rfl | rfl | rfl | rfl | rfl | rfl | rfl | rfl | rfl <;> exact Nat.le_of_ble_eq_true rfl
theorem zt {a : List Stp} {d k r : Int} (ha : a.length ≤ 6) (hd : 0 < d) (hk : 0 < k) (hr : 0 ≤ r) : Ok (fy a d k r) fun _ => True := by
 unfold fy
 refine Ok.bind (P := fun _ => True) ?_ fun v _ => Ok.cond (fun _ => okT _) fun _ => okT _
 refine Ok.loop (fun s : Int × List Stp => ∃ i : Nat, s.1 = i ∧ i ≤ a.length ∧ s.2.length ≤ i) (fun s => a.length - s.1.toNat) ⟨0, rfl, by omega, by simp⟩ ?_
 rintro ⟨_, acc⟩ ⟨i, rfl, hi, hl⟩
 unfold fD
 simp only at hl ⊢
 refine Ok.cond (fun c1 => ?_) fun _ => Ok.ret trivial
 simp only [decide_eq_true_eq] at c1
 refine Ok.bind (P := fun v : List Stp => v.length ≤ i + 1) ?_ fun v hv => ?_
 ·rw [dh (by omega) (by omega), ai]
  generalize a[(i : Int).toNat]'(by omega) = x
  have okL : ∀ z : Int, Ok (some (.inl z : Int ⊕ List Stp)) fun o => ∀ e, o = .inr e → e.length ≤ i := fun z => ⟨_, rfl, fun e h => by cases h⟩
  refine Ok.bind (P := fun o : Int ⊕ List Stp => ∀ e, o = .inr e → e.length ≤ i) ?_ fun o ho => ?_
  ·refine Ok.bind (P := fun _ => True) (Ok.cond (fun _ => okT _) fun _ => Ok.cond (fun _ => okT _) fun _ => okT _) fun _ _ => ?_
   refine Ok.cond (fun _ => Ok.bind (pM hd) fun _ _ => okL _) fun _ => Ok.cond (fun _ => Ok.bind (pM hk) fun _ _ => okL _) fun _ => ?_
   refine Ok.bind (P := fun _ => True) (Ok.cond (fun _ => okT _) fun _ => okT _) fun _ _ => ?_
   refine Ok.cond (fun _ => Ok.cond (fun _ => Ok.ret fun e h => by cases h; exact hl) fun c => ?_) fun _ => okL _
   simp only [beq_eq_false_iff_ne, ne_eq] at c
   exact Ok.bind (pM (by omega)) fun _ _ => okL _
  ·cases o with
   | inl v =>
    show Ok (ob (app acc [_]) _) _
    rw [cc (by simp; omega), ai]
    exact Ok.ret (by simp; omega)
   | inr e => exact Ok.ret (by have := ho e rfl; omega)
 ·rw [aU (by omega), ai]
  exact Ok.ret ⟨⟨i + 1, by simp, by omega, hv⟩, by simp only; omega⟩
theorem tw (n : UInt8) {d k r : Int} (hd : 0 < d) (hk : 0 < k) (hr : 0 ≤ r) : Ok (eH n d k r) fun _ => True := by
 have hn := n.toNat_lt
 unfold eH
 rw [l7 (by omega) (by omega), ai, ai, bI (by omega) (by omega), ai, vD (by omega), ai, l7 (by omega) (by omega), ai]
 have hu : ∀ z : Int, 0 ≤ z ∧ z ≤ 255 → ∃ u, oz z = some u := fun z hz => ⟨_, if_pos hz⟩
 obtain ⟨u1, e1⟩ := hu ((n.toNat : Int) / 16) (by omega)
 obtain ⟨u2, e2⟩ := hu ((n.toNat : Int) / 16 + (n.toNat : Int) % 5) (by omega)
 obtain ⟨u3, e3⟩ := hu ((n.toNat : Int) / 3) (by omega)
 rw [e1, ai, e2, ai, e3, ai]
 exact Ok.bind (zh _) fun x9 h9 => Ok.bind (zt h9 hd hk hr) fun _ _ => okT _
end
section
open Go.RowKit
set_option maxRecDepth 100000
structure GmFine (g : Gm) : Prop where
 board : BrdOk g.board
 k1 : 1 ≤ g.kinds.length
 k2 : g.kinds.length ≤ 2
 r0 : 0 ≤ g.rights
 r2 : g.rights ≤ 2
theorem CL (x : GRaw) : Ok (fd x) GmFine := by
 unfold fd
 refine Ok.bind (wz x.w x.h x.cut) fun b hB => ?_
 have hnl := hB.nl
 have hc1 := hB.c1
 have h0 := x.f0.toNat_lt
 have h1 := x.f1.toNat_lt
 have h3 := x.f3.toNat_lt
 have h4 := x.f4.toNat_lt
 rw [bI (by omega) (by omega), ai, bI (by omega) (by omega), ai]
 obtain ⟨r, hr, hr0, hr2⟩ : ∃ r : Int, (x.f0.toNat : Int) % 3 = r ∧ 0 ≤ r ∧ r ≤ 2 := ⟨_, rfl, by omega, by omega⟩
 rw [hr]
 refine Ok.bind (P := fun v => v = 1 ∨ v = 2) (Ok.cond (fun _ => Ok.ret (.inr rfl)) fun _ => Ok.ret (.inl rfl)) fun kn hkn => ?_
 have hk0 : 0 < kn := by omega
 have hl0 : Ok (bx (eu x b r kn) (0, [])) fun _ => True := by
  refine Ok.loop (fun s : Int × List (List Stp) => ∃ i : Nat, s.1 = i ∧ i ≤ 4 ∧ s.2.length = i) (fun s : Int × List (List Stp) => 4 - s.1.toNat) ⟨0, rfl, by omega, rfl⟩ ?_
  rintro ⟨_, acc⟩ ⟨i, rfl, hi, ha⟩
  unfold eu
  simp only at ha ⊢
  refine Ok.cond (fun c1 => Ok.cond (fun c2 => ?_) fun _ => Ok.ret trivial) fun _ => Ok.ret trivial
  simp only [decide_eq_true_eq] at c1 c2
  rw [dh (by omega) (by omega), ai]
  refine Ok.bind (tw _ (by omega) hk0 hr0) fun _ _ => ?_
  rw [cc (by simp; omega), ai, aU (by omega), ai]
  exact Ok.ret ⟨⟨i + 1, by simp, by omega, by simp [ha]⟩, by simp only; omega⟩
 have hl1 : Ok (bx (ez x b r kn) (0, [])) fun _ => True := by
  refine Ok.loop (fun s : Int × List (List Stp) => ∃ i : Nat, s.1 = i ∧ i ≤ 4 ∧ s.2.length = i) (fun s : Int × List (List Stp) => 4 - s.1.toNat) ⟨0, rfl, by omega, rfl⟩ ?_
  rintro ⟨_, acc⟩ ⟨i, rfl, hi, ha⟩
  unfold ez
  simp only at ha ⊢
  refine Ok.cond (fun c1 => Ok.cond (fun c2 => ?_) fun _ => Ok.ret trivial) fun _ => Ok.ret trivial
  simp only [decide_eq_true_eq] at c1 c2
  rw [dh (by omega) (by omega), ai]
  refine Ok.bind (tw _ (by omega) hk0 hr0) fun _ _ => ?_
  rw [cc (by simp; omega), ai, aU (by omega), ai]
  exact Ok.ret ⟨⟨i + 1, by simp, by omega, by simp [ha]⟩, by simp only; omega⟩
 have hl3 : Ok (bx (eG x b kn) (0, [])) fun _ => True := by
  refine Ok.loop (fun s : Int × List Cls => ∃ i : Nat, s.1 = i ∧ i ≤ 3 ∧ s.2.length = i) (fun s : Int × List Cls => 3 - s.1.toNat) ⟨0, rfl, by omega, rfl⟩ ?_
  rintro ⟨_, acc⟩ ⟨i, rfl, hi, ha⟩
  unfold eG
  simp only at ha ⊢
  refine Ok.cond (fun c1 => Ok.cond (fun c2 => ?_) fun _ => Ok.ret trivial) fun _ => Ok.ret trivial
  simp only [decide_eq_true_eq] at c1 c2
  obtain ⟨e, he⟩ : ∃ e, idx x.c (i : Int) = some e := ⟨_, dh (by omega) (by omega)⟩
  obtain ⟨e1, e2, e3⟩ := e
  have g1 := e1.toNat_lt
  have g2 := e2.toNat_lt
  have g3 := e3.toNat_lt
  simp only [he, ai]
  rw [bI (by omega) (by omega), ai, aU (by omega), ai, l7 (by omega) (by omega), ai, aU (by omega), ai, bI (by omega) (by omega), ai, aU (by omega), ai]
  refine Ok.bind (P := fun _ => True) (Ok.cond (fun _ => ?_) fun _ => Ok.ret trivial) fun _ _ => Ok.bind (P := fun _ => True) (Ok.cond (fun _ => ?_) fun _ => Ok.ret trivial) fun _ _ => Ok.bind (P := fun _ => True) (Ok.cond (fun _ => ?_) fun _ => Ok.ret trivial) fun _ _ => ?_
  ·rw [bI (by omega) (by omega), ai]; exact Ok.ret trivial
  ·rw [bI (by omega) (by omega), ai]; exact Ok.ret trivial
  ·rw [bI (by omega) (by omega), ai]; exact Ok.ret trivial
  ·rw [cc (by simp; omega), ai, aU (by omega), ai]
   exact Ok.ret ⟨⟨i + 1, by simp, by omega, by simp [ha]⟩, by simp only; omega⟩
 refine Ok.bind (P := fun l : List Knd => 1 ≤ l.length ∧ l.length ≤ 2) ?_ fun ks hks => ?_
 ·rw [ki hk0, cond_true]
  refine Ok.bind (P := fun l : List Knd => l.length = 1) ?_ fun l hl => ?_
  ·rw [show idx [([97] : List UInt8), [98, 101, 101]] 0 = some [97] from rfl, ai, tL (by omega), ai]
   refine Ok.bind hl0 fun ps _ => ?_
   rw [cc (by simp), ai]
   exact Ok.ret rfl
  ·refine Ok.cond (fun c1 => ?_) fun _ => Ok.ret ⟨by omega, by omega⟩
   refine Ok.bind (P := fun l : List Knd => l.length = 2) ?_ fun l2 hl2 => ?_
   ·rw [show idx [([97] : List UInt8), [98, 101, 101]] 1 = some [98, 101, 101] from rfl, ai, tL (by omega), ai]
    refine Ok.bind hl1 fun ps _ => ?_
    rw [cc (by simp; omega), ai]
    exact Ok.ret (by simp; omega)
   ·rw [gi (by omega), cond_false]
    exact Ok.ret ⟨by omega, by omega⟩
 ·refine Ok.bind (P := fun _ => True) ?_ fun _ _ => Ok.bind (P := fun _ => True) ?_ fun _ _ => Ok.bind hl3 fun _ _ => Ok.ret ⟨hB, hks.1, hks.2, hr0, hr2⟩
  ·rw [bI (by omega) (by omega), ai]
   refine Ok.cond (fun _ => ?_) fun _ => Ok.ret trivial
   rw [l7 (by omega) (by omega), ai, aU (by omega), ai, bI (by omega) (by omega), ai, aU (by omega), ai]
   exact Ok.ret trivial
  ·rw [bI (by omega) (by omega), ai]
   refine Ok.cond (fun _ => ?_) fun _ => Ok.ret trivial
   rw [l7 (by omega) (by omega), ai, aU (by omega), ai, bI (by omega) (by omega), ai, aU (by omega), ai]
   exact Ok.ret trivial
structure PsFine (g : Gm) (p : Ps) : Prop where
 la : (p.at_.length : Int) = g.board.cells
 l0 : p.h0.length = g.kinds.length
 l1 : p.h1.length = g.kinds.length
 a : ∀ x ∈ p.at_, 0 ≤ x ∧ x ≤ 2 * (g.kinds.length : Int)
 b : ∀ x ∈ p.h0, 0 ≤ x ∧ x ≤ 8
 c : ∀ x ∈ p.h1, 0 ≤ x ∧ x ≤ 8
 r : 0 ≤ p.rights ∧ p.rights < 2 ^ g.rights.toNat
 s : p.side = 0 ∨ p.side = 1
theorem PsFine.ok {g : Gm} {p : Ps} (hg : GmFine g) (h : PsFine g p) : PsOk p := by
 have h1 := hg.board.c9
 have h2 := hg.k2
 have h3 := h.la
 have h4 := h.l0
 have h5 := h.l1
 have hr := hg.r2
 have hr0 := hg.r0
 refine ⟨by omega, by omega, by omega, fun x hx => ?_, fun x hx => ?_, fun x hx => ?_, ?_, ?_⟩
 ·have := h.a x hx; exact ⟨this.1, by omega⟩
 ·have := h.b x hx; exact ⟨this.1, by omega⟩
 ·have := h.c x hx; exact ⟨this.1, by omega⟩
 ·have := h.r
  have h4 : (2 : Int) ^ g.rights.toNat ≤ 4 := by
   have : g.rights.toNat = 0 ∨ g.rights.toNat = 1 ∨ g.rights.toNat = 2 := by omega
   rcases this with h | h | h <;> rw [h] <;> decide
  exact ⟨h.r.1, by have := h.r.2; omega⟩
 ·rcases h.s with e | e <;> rw [e] <;> exact ⟨by omega, by omega⟩
theorem qR (g : Gm) (hs : List UInt8) (o : Nat) (hl : hs.length = 4) (ho : o ≤ 2) (hg : GmFine g) {body : (Int × List Int) → Option ((Int × List Int) ⊕ List Int)}
  (hb : ∀ s, body s = (bif (decide (s.1 < (g.kinds.length : Int))) then (bif (decide (s.1 < 2)) then (ob (ob (idx g.kinds s.1) fun x => bif x.keep then (ob (arI .i64 (o + s.1)) fun a => ob (idx hs a) fun b => ob (cM (b.toNat : Int) 3) fun c => ob (idx s.2 s.1) fun _ => ob (arI .i64 (o + s.1)) fun a2 => ob (idx hs a2) fun b2 =>
   bif (decide (250 < (b2.toNat : Int))) then (ob (idx (s.2.set (s.1 : Int).toNat c) s.1) fun _ => some ((s.2.set (s.1 : Int).toNat c).set (s.1 : Int).toNat 8)) else some (s.2.set (s.1 : Int).toNat c)) else some s.2) fun v => ob (arI .i64 (s.1 + 1)) fun z => some (.inl (z, v))) else some (.inr s.2)) else some (.inr s.2))) :
  Ok (bx body (0, List.replicate g.kinds.length 0)) fun l => l.length = g.kinds.length ∧ ∀ x ∈ l, 0 ≤ x ∧ x ≤ 8 := by
 have hk2 := hg.k2
 refine Ok.loop (fun s : Int × List Int => ∃ i : Nat, s.1 = i ∧ i ≤ 2 ∧ s.2.length = g.kinds.length ∧ ∀ x ∈ s.2, 0 ≤ x ∧ x ≤ 8) (fun s : Int × List Int => 2 - s.1.toNat) ⟨0, rfl, by omega, by simp, fun x hx => by rw [List.eq_of_mem_replicate hx]; omega⟩ ?_
 rintro ⟨_, l⟩ ⟨i, rfl, hi, h1, h2⟩
 rw [hb]
 simp only at h1 h2 ⊢
 refine Ok.cond (fun c1 => Ok.cond (fun c2 => ?_) fun _ => Ok.ret ⟨h1, h2⟩) fun _ => Ok.ret ⟨h1, h2⟩
 simp only [decide_eq_true_eq] at c1 c2
 refine Ok.bind (P := fun v : List Int => v.length = g.kinds.length ∧ ∀ x ∈ v, 0 ≤ x ∧ x ≤ 8) ?_ fun v hv => ?_
 ·rw [dh (by omega) (by omega), ai]
  refine Ok.cond (fun _ => ?_) fun _ => Ok.ret ⟨h1, h2⟩
  rw [aU (by omega), ai]
  obtain ⟨b, hb'⟩ : ∃ b, idx hs ((o : Int) + i) = some b := ⟨_, dh (by omega) (by omega)⟩
  have hbl := b.toNat_lt
  rw [hb', ai, bI (by omega) (by omega), ai, dh (by omega) (by omega), ai, ai, hb', ai]
  have hset : ∀ (l : List Int) (y : Int), (∀ x ∈ l, 0 ≤ x ∧ x ≤ 8) → 0 ≤ y ∧ y ≤ 8 → ∀ x ∈ l.set i y, 0 ≤ x ∧ x ≤ 8 := fun l y hl hy x hx => by
   rcases List.mem_or_eq_of_mem_set hx with h | rfl
   ·exact hl x h
   ·exact hy
  have s1 := hset l ((b.toNat : Int) % 3) h2 (by omega)
  refine Ok.cond (fun _ => ?_) fun _ => Ok.ret ⟨by simpa using h1, by simpa using s1⟩
  rw [dh (by omega) (by simp; omega), ai]
  exact Ok.ret ⟨by simpa using h1, by simpa using hset _ 8 s1 (by omega)⟩
 ·rw [aU (by omega), ai]
  exact Ok.ret ⟨⟨i + 1, by simp, by omega, hv.1, hv.2⟩, by simp only; omega⟩
theorem Bt (g : Gm) (y : PRaw) (hg : GmFine g) : Ok (ff g y) (PsFine g) := by
 unfold ff
 have hc1 := hg.board.c1
 have hc9 := hg.board.c9
 have hk1 := hg.k1
 have hk2 := hg.k2
 have hr0 := hg.r0
 have hr2 := hg.r2
 have hyr := y.rights.toNat_lt
 have hys := y.side.toNat_lt
 have hpow : (1 : Int) ≤ 2 ^ g.rights.toNat ∧ (2 : Int) ^ g.rights.toNat ≤ 4 := by
  have : g.rights.toNat = 0 ∨ g.rights.toNat = 1 ∨ g.rights.toNat = 2 := by omega
  rcases this with h | h | h <;> rw [h] <;> decide
 have hshl : sm .i64 1 g.rights = some (2 ^ g.rights.toNat) := by
  unfold sm
  have : min g.rights.toNat IntKind.i64.bits = g.rights.toNat := by show min _ 64 = _; omega
  rw [if_neg (by omega), this, Int.one_mul, cD _ (by omega)]
 rw [qH (by omega), ai, hshl, ai, bI (by omega) (by omega), ai, bI (by omega) (by omega), ai, aU (by omega), ai]
 refine Ok.bind (P := fun l : List Int => (l.length : Int) = g.board.cells ∧ ∀ x ∈ l, 0 ≤ x ∧ x ≤ 2 * (g.kinds.length : Int)) ?_ fun at_ hat => ?_
 ·refine Ok.loop (fun s : Int × List Int => ∃ i : Nat, s.1 = i ∧ i ≤ 6 ∧ (s.2.length : Int) = g.board.cells ∧ ∀ x ∈ s.2, 0 ≤ x ∧ x ≤ 2 * (g.kinds.length : Int)) (fun s : Int × List Int => 6 - s.1.toNat) ⟨0, rfl, by omega, by simp; omega, fun x hx => by rw [List.eq_of_mem_replicate hx]; omega⟩ ?_
  rintro ⟨_, l⟩ ⟨i, rfl, hi, h1, h2⟩
  unfold fj
  simp only at h1 h2 ⊢
  refine Ok.cond (fun c1 => ?_) fun _ => Ok.ret ⟨h1, h2⟩
  simp only [decide_eq_true_eq] at c1
  refine Ok.bind (P := fun v : List Int => (v.length : Int) = g.board.cells ∧ ∀ x ∈ v, 0 ≤ x ∧ x ≤ 2 * (g.kinds.length : Int)) ?_ fun v hv => ?_
  ·obtain ⟨a, ha⟩ : ∃ a, idx [y.c0, y.c1, y.c2, y.c3, y.c4, y.c5] (i : Int) = some a := ⟨_, dh (by omega) (by simp only [List.length_cons, List.length_nil]; omega)⟩
   have hal := a.toNat_lt
   rw [ha, ai, aU (by omega), ai, bI (by omega) (by omega), ai]
   refine Ok.cond (fun c2 => ?_) fun _ => Ok.ret ⟨h1, h2⟩
   simp only [decide_eq_true_eq] at c2
   rw [ki (by omega), cond_true]
   obtain ⟨k, hk⟩ : ∃ k, idx [y.k0, y.k1, y.k2, y.k3, y.k4, y.k5] (i : Int) = some k := ⟨_, dh (by omega) (by simp only [List.length_cons, List.length_nil]; omega)⟩
   have hkl := k.toNat_lt
   rw [hk, ai, bI (by omega) (by omega), ai]
   obtain ⟨q, hq, hq0, hq1⟩ : ∃ q : Int, (k.toNat : Int) % (g.kinds.length : Int) = q ∧ 0 ≤ q ∧ q < (g.kinds.length : Int) := ⟨_, rfl, Int.emod_nonneg _ (by omega), Int.emod_lt_of_pos _ (by omega)⟩
   rw [hq]
   have hcm := Int.emod_nonneg (a.toNat : Int) (show g.board.cells + 1 ≠ 0 by omega)
   rw [aU (by omega), ai, aU (by omega), ai, bI (by omega) (by omega), ai, aU (by omega), ai, dh (by omega) (by omega), ai]
   refine Ok.ret ⟨by simpa using h1, fun x hx => ?_⟩
   rcases List.mem_or_eq_of_mem_set hx with h | rfl
   ·exact h2 x h
   ·omega
  ·rw [aU (by omega), ai]
   exact Ok.ret ⟨⟨i + 1, by simp, by omega, hv.1, hv.2⟩, by simp only; omega⟩
 ·refine Ok.bind (P := fun v : List Int × List Int => (v.1.length = g.kinds.length ∧ ∀ x ∈ v.1, 0 ≤ x ∧ x ≤ 8) ∧ (v.2.length = g.kinds.length ∧ ∀ x ∈ v.2, 0 ≤ x ∧ x ≤ 8)) ?_ fun v hv => ?_
  ·rw [qH (by omega), Int.toNat_natCast]
   refine Ok.bind (P := fun v : List Int => v.length = g.kinds.length ∧ ∀ x ∈ v, 0 ≤ x ∧ x ≤ 8) ?_ fun v1 hv1 => Ok.bind (P := fun v : List Int => v.length = g.kinds.length ∧ ∀ x ∈ v, 0 ≤ x ∧ x ≤ 8) ?_ fun v2 hv2 => Ok.ret ⟨hv1, hv2⟩
   ·rw [ai]; exact qR g [y.h0, y.h1, y.h2, y.h3] 0 rfl (by omega) hg fun s => rfl
   ·rw [ai]; exact qR g [y.h0, y.h1, y.h2, y.h3] 2 rfl (by omega) hg fun s => rfl
  ·refine Ok.ret ⟨hat.1, hv.1.1, hv.2.1, hat.2, hv.1.2, hv.2.2, ⟨Int.emod_nonneg _ (by omega), Int.emod_lt_of_pos _ (by omega)⟩, ?_⟩
   simp only; omega
end
section
open Go.RowKit
set_option maxRecDepth 100000
open Classical
structure PsS (p : Ps) : Prop where
 a : p.at_.length ≤ 200000
 b : p.h0.length ≤ 200000
 c : p.h1.length ≤ 200000
theorem PsS.B {p : Ps} (h : PsS p) : PsB p := ⟨by have := h.a; omega, by have := h.b; omega, by have := h.c; omega⟩
theorem PsOk.S {p : Ps} (h : PsOk p) : PsS p := ⟨by have := h.la; omega, by have := h.l0; omega, by have := h.l1; omega⟩
theorem se {p : Ps} (h : PsS p) (r : Rs) : (eI p r).length ≤ 700000 := by
 rw [vA]
 have := h.a
 have := h.b
 have := h.c
 simp [i7]; omega
def dJ (l : List Ps) (v : List Rs) : List (List UInt8) := (l.zip v).map fun e => eI e.1 e.2
theorem jC (l : List Ps) (v : List Rs) : (dJ l v).length = min l.length v.length := by simp [dJ]
theorem xP {l : List Ps} {v : List Rs} {i : Nat} {e : Ps × Rs} (h : (l.zip v)[i]? = some e) : l[i]? = some e.1 ∧ v[i]? = some e.2 := by
 rw [List.getElem?_zip_eq_some] at h; exact h
theorem qE (l : List Ps) (v : List Rs) (hl : l.length ≤ 1000000) (hs : ∀ p ∈ l, PsS p) : fo l v = some (dJ l v) := by
 unfold fo
 have := nD (body := eg l v) (l.zip v) (fun e => eI e.1 e.2) (fun i e acc he hacc => by
  obtain ⟨h1, h2⟩ := xP he
  have hi := (List.getElem?_eq_some_iff.1 he).1
  rw [List.length_zip] at hi
  have hS := hs e.1 (List.mem_of_getElem? h1)
  unfold eg
  simp only
  rw [ki (by omega), cond_true, gq, gq, h1, h2, ai, ai, qp _ _ hS.B, ai, cc (by simp; omega), ai, aU (by omega), ai]; rfl) (fun acc => by
  unfold eg
  simp only [List.length_zip]
  rw [gi (by omega), cond_false])
 rw [this, ai]; rfl
theorem mP {l : List Ps} {v : List Rs} (hl : l.length ≤ 1000000) (hs : ∀ p ∈ l, PsS p) : Fit (dJ l v) := by
 refine ⟨by rw [jC]; omega, fun x hx => ?_⟩
 simp only [dJ, List.mem_map] at hx
 obtain ⟨e, he, rfl⟩ := hx
 have := se (hs e.1 (List.of_mem_zip he).1) e.2
 omega
theorem tr (l : List Ps) (v : List Rs) (hl : l.length ≤ 1000000) (hs : ∀ p ∈ l, PsS p) : fu l v = some (Sha.root (dJ l v)) := by
 unfold fu
 rw [qE l v hl hs, ai, show jF (dJ l v) = some (Sha.root (dJ l v)) from if_pos (mP hl hs), ai, lV (Sha.root_len _), ai]
def uo : Ans := ⟨0, 0, 0, ⟨[], [], [], 0, 0⟩, ⟨0, 0⟩, []⟩
noncomputable def jw (l : List Ps) (v : List Rs) (ver i : Int) : Ans × Int :=
 if h : l.length = v.length ∧ 0 ≤ i ∧ i < (l.length : Int) then (⟨ver, i, l.length, l[i.toNat]'(by omega), v[i.toNat]'(by omega), Sha.proof (dJ l v) i.toNat⟩, 0) else (uo, 1)
theorem lh (l : List Ps) (v : List Rs) (ver i : Int) (hl : l.length ≤ 1000000) (hs : ∀ p ∈ l, PsS p) : cH l v ver i = some (jw l v ver i) := by
 refine Ok.get ?_
 unfold cH jw
 refine Ok.cond (fun c => Ok.ret ?_) fun c => ?_
 ·rw [dif_neg (fun h => by rw [h.1] at c; simp at c)]; rfl
 ·have hlv : l.length = v.length := by simp at c; omega
  have hlen := jC l v
  rw [qE l v hl hs, ai]
  by_cases hi : i < 0 ∨ (l.length : Int) ≤ i
  ·rw [show fP (dJ l v) i = some ([], 1) by unfold fP; rw [if_pos (mP hl hs), if_pos (by omega)], ai, dif_neg (by omega)]
   exact Ok.ret rfl
  ·rw [show fP (dJ l v) i = some (Sha.proof (dJ l v) i.toNat, 0) by unfold fP; rw [if_pos (mP hl hs), if_neg (by omega)], ai, dif_pos (by omega)]
   simp only
   rw [o5 rfl, cond_false, dh (by omega) (by omega), ai, dh (by omega) (by omega), ai]
   exact Ok.ret rfl
theorem qy {α : Type} {body : Int → Option (Int ⊕ (Unit ⊕ Int))} (l : List α) (g : α → Bool) (f : α → Option Bool) (hf : ∀ x ∈ l, f x = some (g x)) (hl : l.length ≤ 9223372036854775807)
  (hb : ∀ s, body s = (bif (decide (s < (l.length : Int))) then (ob (idx l s) fun x => ob (f x) fun y => bif y then some (.inr (.inr s)) else ob (arI .i64 (s + 1)) fun z => some (.inl z)) else some (.inr (.inl ())))) :
  Ok (ob (bx body 0) fun o => match o with | .inl _ => some (-1) | .inr e => some e) fun r => decide (0 ≤ r) = l.any g := by
 refine Ok.bind (P := fun o => match o with | .inl () => ∀ x ∈ l, g x = false | .inr r => 0 ≤ r ∧ l.any g = true) ?_ ?_
 ·refine Ok.loop (fun s : Int => ∃ i : Nat, s = i ∧ i ≤ l.length ∧ ∀ j x, j < i → l[j]? = some x → g x = false) (fun s : Int => l.length - s.toNat) ⟨0, rfl, by omega, fun j x h => by omega⟩ ?_
  rintro _ ⟨i, rfl, hi, hall⟩
  rw [hb]
  refine Ok.cond (fun c1 => ?_) fun c1 => Ok.ret ?_
  ·simp only [decide_eq_true_eq] at c1
   have e : l[i]? = some (l[i]'(by omega)) := List.getElem?_eq_getElem _
   generalize l[i]'(by omega) = x at e
   have hx := List.mem_of_getElem? e
   rw [gq, e, ai, hf x hx, ai]
   refine Ok.cond (fun c2 => Ok.ret ⟨by omega, List.any_eq_true.2 ⟨x, hx, c2⟩⟩) fun c2 => ?_
   rw [aU (by omega), ai]
   refine Ok.ret ⟨⟨i + 1, by omega, by omega, fun j y hj hy => ?_⟩, by omega⟩
   rcases Nat.lt_or_ge j i with h | h
   ·exact hall j y h hy
   ·obtain rfl : j = i := by omega
    rw [e] at hy; cases hy; exact c2
  ·simp only [decide_eq_false_iff_not] at c1
   intro x hx
   obtain ⟨j, hj⟩ := List.getElem?_of_mem hx
   exact hall j x (by have := (List.getElem?_eq_some_iff.1 hj).1; omega) hj
 ·rintro (⟨⟩ | r) h
  ·refine Ok.ret ?_
   have : l.any g = false := by rw [List.any_eq_false]; intro x hx; rw [h x hx]; simp
   rw [this]; rfl
  ·refine Ok.ret ?_
   rw [h.2]; exact decide_eq_true h.1
theorem rx (l : List Int) (F : FnV Tryd.prog HG (α := Int) (β := Bool) (fun x => [.v (.int .i64 x)]) (fun y => .v (.bool y))) (g : Int → Bool) (hf : ∀ x ∈ l, F.f x = some (g x)) (hl : l.length ≤ 9223372036854775807) : cF l F = some (l.any g) := by
 unfold cF dG
 obtain ⟨r, h1, h2⟩ := qy l g F.f hf hl (body := bZ l F) (fun s => rfl)
 exact Ok.get (eJ h1 (Ok.ret h2))
abbrev FnB := FnV Tryd.prog HG (α := Unit) (β := Bool) (fun _ => []) (fun y => .v (.bool y))
theorem sH (l : List FnB) (F : FnV Tryd.prog HG (α := FnB) (β := Bool) (fun x => [.fn x.g x.c]) (fun y => .v (.bool y))) (g : FnB → Bool) (hf : ∀ x ∈ l, F.f x = some (g x)) (hl : l.length ≤ 9223372036854775807) : bG l F = some (l.any g) := by
 unfold bG ck
 obtain ⟨r, h1, h2⟩ := qy l g F.f hf hl (body := bi l F) (fun s => rfl)
 exact Ok.get (eJ h1 (Ok.ret h2))
theorem B5 (a b c : Int) : gM a b c = some (decide (b ≤ a) && decide (a ≤ c)) := by
 refine Ok.get ?_
 unfold gM
 exact Ok.cond (fun h => Ok.ret (by rw [h]; simp)) fun h => Ok.ret (by rw [h]; simp)
def u8B (n : Int) : Bool := decide (0 ≤ n) && decide (n ≤ 255)
theorem np (l : List Int) (f : FnV Tryd.prog HG (α := Int) (β := Bool) (fun x => [.v (.int .i64 x)]) (fun y => .v (.bool y))) (hf : ∀ x, f.f x = some (u8B x)) : dZ l f = some (decide (l.length ≤ 255) && l.all u8B) := by
 refine Ok.get ?_
 unfold dZ
 refine Ok.cond (fun c => ?_) fun c => Ok.ret ?_
 ·simp only [decide_eq_true_eq] at c
  refine eJ (rx l _ (fun x => !u8B x) (fun x _ => by show e9 x f = _; unfold e9; rw [hf, ai]) (by omega)) (Ok.ret ?_)
  have : decide (l.length ≤ 255) = true := decide_eq_true (by omega)
  rw [this]
  simp [List.all_eq_not_any_not]
 ·simp only [decide_eq_false_iff_not] at c
  have : decide (l.length ≤ 255) = false := decide_eq_false (by omega)
  rw [this]; simp
def lI (p : Ps) (r : Rs) : Bool := (decide (p.at_.length ≤ 255) && p.at_.all u8B) && ((decide (p.h0.length ≤ 255) && p.h0.all u8B) && ((decide (p.h1.length ≤ 255) && p.h1.all u8B) && (u8B p.rights && (u8B p.side && ((decide (1 ≤ r.out) && decide (r.out ≤ 3)) && (decide (0 ≤ r.n) && decide (r.n ≤ 2147483647)))))))
theorem l8 {a b : Bool} {x : Option Bool} (h : a = true → Ok x (· = b)) : Ok (bif a then x else some false) (· = (a && b)) := by
 cases a with
 | false => exact Ok.ret rfl
 | true => simpa using h rfl
theorem w9 (p : Ps) (r : Rs) : gj p r = some (lI p r) := by
 refine Ok.get ?_
 unfold gj lI
 have hin : ∀ a b, ∃ F : FnV Tryd.prog HG (α := Int) (β := Bool) (fun x => [.v (.int .i64 x)]) (fun y => .v (.bool y)), gP a b = some F ∧ ∀ x, F.f x = some (decide (a ≤ x) && decide (x ≤ b)) := fun a b => ⟨_, rfl, fun x => B5 x a b⟩
 obtain ⟨F, h1, h2⟩ := hin 0 255
 obtain ⟨F2, h3, h4⟩ := hin 1 3
 obtain ⟨F3, h5, h6⟩ := hin 0 2147483647
 rw [h1, ai, np _ F h2, ai]
 refine l8 fun _ => ?_
 rw [np _ F h2, ai]
 refine l8 fun _ => ?_
 rw [np _ F h2, ai]
 refine l8 fun _ => ?_
 rw [h2, ai]
 refine l8 fun _ => ?_
 rw [h2, ai]
 refine l8 fun _ => ?_
 rw [h3, ai, h4, ai]
 refine l8 fun _ => ?_
 rw [h5, ai, h6, ai]
 exact Ok.ret rfl
theorem vI {l : List Int} : l.all u8B = true ↔ ∀ x ∈ l, u8R x := by simp [List.all_eq_true, u8B, u8R]
theorem wo (p : Ps) (r : Rs) : lI p r = true ↔ PsOk p ∧ uq r := by
 unfold lI
 simp only [Bool.and_eq_true, decide_eq_true_eq, vI]
 constructor
 ·rintro ⟨⟨a1, a2⟩, ⟨b1, b2⟩, ⟨c1, c2⟩, d, e, f, g⟩
  simp only [u8B, Bool.and_eq_true, decide_eq_true_eq] at d e
  exact ⟨⟨a1, b1, c1, a2, b2, c2, d, e⟩, f, g⟩
 ·rintro ⟨h, f, g⟩
  refine ⟨⟨h.la, h.a⟩, ⟨h.l0, h.b⟩, ⟨h.l1, h.c⟩, ?_, ?_, f, g⟩
  ·simp only [u8B, Bool.and_eq_true, decide_eq_true_eq]; exact h.r
  ·simp only [u8B, Bool.and_eq_true, decide_eq_true_eq]; exact h.s
end
section
open Go.RowKit
set_option maxRecDepth 100000
structure CkOk (root : List UInt8) (a : Ans) : Prop where
 root : root.length = 32
 pos : PsS a.pos
 proof : ∀ s ∈ a.proof, s.length = 32
 len : a.proof.length ≤ 900000
 c1 : -9223372036854775808 ≤ a.count
 c2 : a.count ≤ 4294967296
 i : -9223372036854775808 ≤ a.index ∧ a.index ≤ 9223372036854775807
def iW (root : List UInt8) (ver : Int) (a : Ans) : Bool := (a.version == ver) && (lI a.pos a.entry && Sha.check root a.count a.index (eI a.pos a.entry) a.proof)
theorem sa {root : List UInt8} {a : Ans} (h : CkOk root a) : iY root a.count a.index (eI a.pos a.entry) a.proof = some (Sha.check root a.count a.index (eI a.pos a.entry) a.proof) :=
 if_pos ⟨h.root, by have := se h.pos a.entry; omega, h.proof, by have := h.len; omega, h.c2, h.c1, h.i⟩
theorem kS {root : List UInt8} {a : Ans} (ver : Int) (h : CkOk root a) : dK root ver a = some (iW root ver a) := by
 refine Ok.get ?_
 unfold dK
 have e3 : eV root a = some (Sha.check root a.count a.index (eI a.pos a.entry) a.proof) := by
  unfold eV
  rw [qp _ _ h.pos.B, ai, sa h, ai]
 have e2 : eU a = some (lI a.pos a.entry) := by
  unfold eU
  rw [w9, ai]
 have e1 : fR a ver = some (a.version == ver) := rfl
 refine eJ (sH _ _ (fun F : FnB => !(F.f ()).getD false) (fun F hF => ?_) (by simp)) ?_
 ·show fS F = _
  unfold fS
  have : ∃ b, F.f () = some b := by
   simp only [List.mem_cons, List.not_mem_nil, or_false] at hF
   rcases hF with rfl | rfl | rfl
   ·exact ⟨_, e1⟩
   ·exact ⟨_, e2⟩
   ·exact ⟨_, e3⟩
  obtain ⟨b, hb⟩ := this
  rw [hb, ai]; rfl
 ·refine Ok.ret ?_
  simp only [List.any_cons, List.any_nil, e1, e2, e3, Option.getD_some, iW]
  cases (a.version == ver) <;> cases lI a.pos a.entry <;> cases Sha.check root a.count a.index (eI a.pos a.entry) a.proof <;> rfl
def kP (x : List Int) (i : Nat) : Int := if x = [] then 7 * i else x[i % x.length]?.getD 0 + i
def tR (x : List Int) (i : Nat) : Rs := ⟨1 + kP x i % 3, kP x i / 3⟩
def jx (n : Nat) (x : List Int) : List Rs := (List.range n).map (tR x)
theorem ue (l : List Ps) (x : List Int) (hl : l.length ≤ 1000000) (hx : ∀ y ∈ x, 0 ≤ y ∧ y ≤ 65535) (hxl : x.length ≤ 1000000) : eC l x = some (jx l.length x) := by
 unfold eC
 have := nD (body := cO l x) (List.range l.length) (tR x) (fun i k acc he hacc => by
  have hi := (List.getElem?_eq_some_iff.1 he).1
  rw [List.length_range] at hi
  obtain rfl : k = i := by rw [List.getElem?_range hi] at he; exact (Option.some.inj he).symm
  have hN : 0 ≤ kP x k ∧ kP x k ≤ 10000000 := by
   unfold kP
   split
   ·omega
   ·rename_i hne
    have hpos : 0 < x.length := List.length_pos_iff.2 hne
    have hm := Nat.mod_lt k hpos
    rw [List.getElem?_eq_getElem hm]
    have := hx _ (List.getElem_mem hm)
    simp only [Option.getD_some]; omega
  refine Ok.get ?_
  unfold cO
  simp only
  rw [ki (by omega), cond_true, aU (by omega), ai]
  refine Ok.bind (P := fun v => v = kP x k) (Ok.cond (fun c => ?_) fun c => Ok.ret ?_) fun v hv => ?_
  ·simp only [decide_eq_true_eq] at c
   have hne : x ≠ [] := fun e => by subst e; simp at c
   have hpos : 0 < x.length := by omega
   have hm := Nat.mod_lt k hpos
   rw [bI (by omega) (by omega), ai]
   have he2 : ((k : Nat) : Int) % (x.length : Int) = ((k % x.length : Nat) : Int) := by simp
   have hb := hx _ (List.getElem_mem hm)
   rw [he2, gq, List.getElem?_eq_getElem hm, ai, aU (by omega), ai, aU (by omega), ai]
   refine Ok.ret ?_
   unfold kP
   rw [if_neg hne, List.getElem?_eq_getElem hm]; rfl
  ·simp only [decide_eq_false_iff_not] at c
   have : x = [] := List.eq_nil_of_length_eq_zero (by omega)
   unfold kP; rw [if_pos this]
  ·subst hv
   rw [bI (by omega) (by omega), ai, aU (by omega), ai, rC (by omega) (by omega), ai, cc (by simp; omega), ai, aU (by omega), ai]
   exact Ok.ret rfl) (fun acc => by
  unfold cO
  simp only [List.length_range]
  rw [gi (by omega), cond_false])
 rw [this, ai]; rfl
theorem xx (x : List Int) (hx : ∀ y ∈ x, 0 ≤ y ∧ y ≤ 65535) (i : Nat) (hi : i ≤ 1000000) : uq (tR x i) := by
 have hN : 0 ≤ kP x i ∧ kP x i ≤ 10000000 := by
  unfold kP
  split
  ·omega
  ·rename_i hne
   have hpos : 0 < x.length := List.length_pos_iff.2 hne
   have hm := Nat.mod_lt i hpos
   rw [List.getElem?_eq_getElem hm]
   have := hx _ (List.getElem_mem hm)
   simp only [Option.getD_some]; omega
 unfold uq tR
 simp only; omega
theorem xT (g : Gm) (l : List PRaw) (hg : GmFine g) (n : Nat) (hn : n ≤ 1000) : Ok (fc g l n) fun ps => ps.length ≤ n ∧ ∀ p ∈ ps, PsFine g p := by
 unfold fc
 refine Ok.bind (P := fun ps : List Ps => ps.length ≤ n ∧ ∀ p ∈ ps, PsFine g p) ?_ fun ps h => Ok.ret h
 refine Ok.loop (fun s : Int × List Ps => ∃ i : Nat, s.1 = i ∧ i ≤ n ∧ s.2.length = i ∧ ∀ p ∈ s.2, PsFine g p) (fun s : Int × List Ps => n - s.1.toNat) ⟨0, rfl, by omega, rfl, by simp⟩ ?_
 rintro ⟨_, acc⟩ ⟨i, rfl, hi, ha, hall⟩
 unfold fm
 simp only at ha hall ⊢
 refine Ok.cond (fun c1 => Ok.cond (fun c2 => ?_) fun _ => Ok.ret ⟨by omega, hall⟩) fun _ => Ok.ret ⟨by omega, hall⟩
 simp only [decide_eq_true_eq] at c1 c2
 rw [dh (by omega) (by omega), ai]
 refine Ok.bind (Bt g _ hg) fun p hp => ?_
 rw [cc (by simp; omega), ai, aU (by omega), ai]
 refine Ok.ret ⟨⟨i + 1, by simp, by omega, by simp [ha], fun q hq => ?_⟩, by simp only; omega⟩
 rcases List.mem_append.1 hq with h | h
 ·exact hall q h
 ·simp at h; subst h; exact hp
theorem s3 (x : GRaw) (l : List PRaw) (n : List Int) (hx : ∀ y ∈ n, 0 ≤ y ∧ y ≤ 65535) (hnl : n.length ≤ 1000) :
  Ok (dS x l n) fun r => r.1.length ≤ 10 ∧ (∀ p ∈ r.1, PsOk p ∧ 1 ≤ p.at_.length) ∧ r.2 = jx r.1.length n := by
 unfold dS
 refine Ok.bind (CL x) fun g hg => ?_
 refine Ok.bind (xT g l hg 10 (by omega)) fun ps hps => ?_
 rw [ue ps n (by omega) hx (by omega), ai]
 refine Ok.ret ⟨hps.1, fun p hp => ⟨(hps.2 p hp).ok hg, ?_⟩, rfl⟩
 have := (hps.2 p hp).la
 have := hg.board.c1
 omega
end
section
open Go.RowKit
set_option maxRecDepth 100000
def P0 : Ps := ⟨[1, 0], [2], [0], 1, 0⟩
def R0 : Rs := ⟨1, 258⟩
theorem pg : eI P0 R0 = [2, 1, 1, 1, 0, 2, 0, 1, 0, 1, 0, 0, 1, 2] := by decide
theorem CK : Sha.leaf [2, 1, 1, 1, 0, 2, 0, 1, 0, 1, 0, 0, 1, 2] ≠ List.replicate 32 0 := by decide +kernel
theorem sN : eQ = some true := by
 have hS : PsS P0 := ⟨by decide, by decide, by decide⟩
 have hs : ∀ p ∈ [P0], PsS p := by simpa using hS
 have hl : dJ [P0] [R0] = [eI P0 R0] := rfl
 have hpr : Sha.proof [eI P0 R0] 0 = [] := by unfold Sha.proof; rw [Sha.path_one 0 (by simp)]; rfl
 have a1 : cH [P0] [R0] 7 0 = some (⟨7, 0, 1, P0, R0, []⟩, 0) := by
  rw [lh _ _ _ _ (by simp) hs]
  unfold jw
  rw [dif_pos ⟨rfl, by decide, by decide⟩]
  show some ((⟨7, 0, 1, P0, R0, Sha.proof [eI P0 R0] 0⟩ : Ans), (0 : Int)) = _
  rw [hpr]
 have a2 : cH [P0] [] 7 0 = some (uo, 1) := by
  rw [lh _ _ _ _ (by simp) hs]
  unfold jw
  rw [dif_neg (by simp)]
 have a3 : cH [P0] [R0] 7 1 = some (uo, 1) := by
  rw [lh _ _ _ _ (by simp) hs]
  unfold jw
  rw [dif_neg (by simp)]
 have a4 : fu [P0] [R0] = some (Sha.leaf (eI P0 R0)) := by
  rw [tr _ _ (by simp) hs, hl, Sha.root_one]
 have hck : ∀ root : List UInt8, root.length = 32 → CkOk root ⟨7, 0, 1, P0, R0, []⟩ := fun root h => ⟨h, hS, by simp, by simp, by decide, by decide, by decide⟩
 have hpl : lI P0 R0 = true := by decide
 have hcl : ∀ root : List UInt8, Sha.check root 1 0 (eI P0 R0) [] = decide (Sha.leaf (eI P0 R0) = root) := fun root => by
  unfold Sha.check Sha.climb; simp
 simp only [pg] at hcl
 refine Ok.get ?_
 unfold eQ
 refine eJ (qp P0 R0 hS.B) ?_
 refine eJ a1 (eJ a2 (eJ a3 (eJ a4 (eJ (lV (Sha.leaf_len _)) ?_))))
 simp only [uo, pg, beq_self_eq_true, cond_true, List.length_nil, Int.natCast_zero, Int.cast_ofNat_Int]
 refine eJ (uG P0 R0 hS.B) ?_
 rw [pg]
 refine eJ (show f7 _ = some (Sha.leaf _) from if_pos (by decide)) ?_
 refine eJ (lV (Sha.leaf_len _)) (eJ (lV (Sha.leaf_len _)) ?_)
 rw [beq_self_eq_true, cond_true]
 refine eJ (kS 7 (hck _ (Sha.leaf_len _))) ?_
 have e1 : iW (Sha.leaf [2, 1, 1, 1, 0, 2, 0, 1, 0, 1, 0, 0, 1, 2]) 7 ⟨7, 0, 1, P0, R0, []⟩ = true := by
  unfold iW; simp only [hpl, pg, hcl]; simp
 have e2 : iW (Sha.leaf [2, 1, 1, 1, 0, 2, 0, 1, 0, 1, 0, 0, 1, 2]) 8 ⟨7, 0, 1, P0, R0, []⟩ = false := by
  unfold iW; simp
 have e3 : iW (List.replicate 32 0) 7 ⟨7, 0, 1, P0, R0, []⟩ = false := by
  unfold iW; simp only [hpl, pg, hcl]
  rw [decide_eq_false CK]; rfl
 rw [e1, cond_true]
 refine eJ (kS 8 (hck _ (Sha.leaf_len _))) ?_
 rw [e2]
 refine eJ (kS 7 (hck _ (by simp))) (Ok.ret ?_)
 rw [e3]; rfl
end
section
open Go.RowKit
set_option maxRecDepth 100000
theorem zm (n : Int) : 0 ≤ IntKind.u16.wrap n ∧ IntKind.u16.wrap n ≤ 65535 := by
 show 0 ≤ n % 65536 ∧ n % 65536 ≤ 65535
 omega
theorem rS (n : Nat) (x : List Int) : (jx n x).length = n := by simp [jx]
theorem vg (l : List (List UInt8)) (i : Nat) : (∀ s ∈ Sha.proof l i, s.length = 32) ∧ (Sha.proof l i).length ≤ l.length := by
 refine ⟨fun s hs => mg _ l i rfl s (by simpa [Sha.proof] using hs), ?_⟩
 have := qi _ l i rfl
 simpa [Sha.proof] using this
structure LsOk (l : List Ps) (v : List Rs) : Prop where
 le : l.length ≤ 1000
 len : l.length = v.length
 ps : ∀ p ∈ l, PsOk p
 rs : ∀ r ∈ v, uq r
theorem LsOk.S {l : List Ps} {v : List Rs} (h : LsOk l v) : ∀ p ∈ l, PsS p := fun p hp => (h.ps p hp).S
theorem LsOk.big {l : List Ps} {v : List Rs} (h : LsOk l v) : l.length ≤ 1000000 := by have := h.le; omega
theorem LsOk.take {l : List Ps} {v : List Rs} (h : LsOk l v) (n : Nat) : LsOk (l.take n) (v.take n) :=
 ⟨by have := h.le; rw [List.length_take]; omega, by rw [List.length_take, List.length_take, h.len], fun p hp => h.ps p (List.mem_of_mem_take hp), fun r hr => h.rs r (List.mem_of_mem_take hr)⟩
theorem ws (x : GRaw) (l : List PRaw) (n : List Int) (hx : ∀ y ∈ n, 0 ≤ y ∧ y ≤ 65535) (hnl : n.length ≤ 1000) :
  Ok (dS x l n) fun r => LsOk r.1 r.2 ∧ r.1.length ≤ 10 ∧ (∀ p ∈ r.1, 1 ≤ p.at_.length) ∧ r.2 = jx r.1.length n :=
 (s3 x l n hx hnl).mono fun r hr => by
  refine ⟨⟨by have := hr.1; omega, by rw [hr.2.2, rS], fun p hp => (hr.2.1 p hp).1, fun s hs => ?_⟩, hr.1, fun p hp => (hr.2.1 p hp).2, hr.2.2⟩
  rw [hr.2.2, jx] at hs
  obtain ⟨i, hi, rfl⟩ := List.mem_map.1 hs
  exact xx n hx i (by have := List.mem_range.1 hi; have := hr.1; omega)
def i9 (l : List Ps) (v : List Rs) (ver : Int) (i : Nat) (h : i < l.length) (h' : i < v.length) : Ans := ⟨ver, i, l.length, l[i], v[i], Sha.proof (dJ l v) i⟩
theorem vQ {l : List Ps} {v : List Rs} (ver : Int) {i : Nat} (h : i < l.length) (hl : l.length = v.length) : jw l v ver i = (i9 l v ver i h (by omega), 0) := by
 unfold jw i9
 rw [dif_pos (by omega)]
 rfl
theorem rZ {l : List Ps} {v : List Rs} {ver : Int} {i : Nat} (h : i < l.length) (h' : i < v.length) (k : LsOk l v) {root : List UInt8} (hr : root.length = 32) : CkOk root (i9 l v ver i h h') := by
 have hp := vg (dJ l v) i
 have := k.le
 have hl := jC l v
 exact ⟨hr, k.S _ (List.getElem_mem _), hp.1, by show (Sha.proof _ _).length ≤ _; omega, by show -9223372036854775808 ≤ (l.length : Int); omega, by show (l.length : Int) ≤ _; omega, by show -9223372036854775808 ≤ (i : Int) ∧ (i : Int) ≤ _; omega⟩
theorem ug {l : List Ps} {v : List Rs} {i : Nat} (h : i < l.length) (h' : i < v.length) : (dJ l v)[i]? = some (eI l[i] v[i]) := by
 have : (l.zip v)[i]? = some (l[i], v[i]) := List.getElem?_zip_eq_some.2 ⟨by simp, by simp⟩
 unfold dJ
 rw [List.getElem?_map, this]; rfl
theorem ve {l : List Ps} {v : List Rs} {ver : Int} {i : Nat} (h : i < l.length) (h' : i < v.length) (k : LsOk l v) (ver' : Int) : iW (Sha.root (dJ l v)) ver' (i9 l v ver i h h') = (ver == ver') := by
 have h1 : lI l[i] v[i] = true := (wo _ _).2 ⟨k.ps _ (List.getElem_mem _), k.rs _ (List.getElem_mem _)⟩
 have h2 := Sha.check_proof (ug h h')
 rw [jC, ← k.len, Nat.min_self] at h2
 show ((ver == ver') && (lI l[i] v[i] && Sha.check _ (l.length : Int) (i : Int) (eI l[i] v[i]) (Sha.proof (dJ l v) i))) = _
 rw [h1, h2]; simp
theorem uz {p : Ps} (h : PsS p) : eo p p = some true := by rw [yc p p h.B.fit]; simp
theorem sP (l : List PRaw) (x : GRaw) (n : Int × Int × Int) : dP l x n = some true := by
 refine Ok.get ?_
 unfold dP
 refine eJ sN ?_
 refine Ok.bind (ws x l [IntKind.u16.wrap n.2.2] (fun y hy => by rw [List.mem_singleton.1 hy]; exact zm _) (by simp)) fun r hr => ?_
 obtain ⟨ps, rs⟩ := r
 obtain ⟨hk, h10, _, _⟩ := hr
 simp only at hk h10 ⊢
 refine eJ (tr ps rs hk.big hk.S) (eJ (lV (Sha.root_len _)) ?_)
 refine Ok.bind (P := fun o => o = .inl ()) ?_ fun o ho => by subst ho; exact Ok.ret rfl
 refine Ok.loop (fun s : Int => ∃ i : Nat, s = i ∧ i ≤ ps.length) (fun s => ps.length - s.toNat) ⟨0, rfl, by omega⟩ ?_
 rintro _ ⟨i, rfl, hi⟩
 unfold cb
 simp only
 refine Ok.cond (fun c => ?_) fun _ => Ok.ret rfl
 simp only [decide_eq_true_eq] at c
 have hi' : i < ps.length := by omega
 have hi2 : i < rs.length := by have := hk.len; omega
 rw [lh ps rs _ _ hk.big hk.S, ai, vQ _ hi' hk.len]
 simp only
 have hS : PsS (i9 ps rs n.1 i hi' hi2).pos := hk.S _ (List.getElem_mem _)
 rw [o5 rfl, cond_false, o5 (show (i9 ps rs n.1 i hi' hi2).version = n.1 from rfl), cond_false, o5 (show (i9 ps rs n.1 i hi' hi2).index = (i : Int) from rfl), cond_false, o5 (show (i9 ps rs n.1 i hi' hi2).count = (ps.length : Int) from rfl), cond_false, dh (by omega) (by omega), ai]
 refine eJ (uz hS) ?_
 rw [Bool.not_true, cond_false, dh (by omega) (by omega), ai]
 have he : ((i9 ps rs n.1 i hi' hi2).entry.out == rs[(i : Int).toNat].out && ((i9 ps rs n.1 i hi' hi2).entry.n == rs[(i : Int).toNat].n && true)) = true := by
  simp [i9]
 rw [he, Bool.not_true, cond_false]
 refine eJ (kS n.1 (rZ hi' hi2 hk (Sha.root_len _))) ?_
 rw [ve hi' hi2 hk, beq_self_eq_true, Bool.not_true, cond_false]
 refine eJ (kS n.2.1 (rZ hi' hi2 hk (Sha.root_len _))) ?_
 rw [ve hi' hi2 hk]
 have hc : ((n.1 == n.2.1) != (n.2.1 == n.1)) = false := by
  rw [show (n.2.1 == n.1) = (n.1 == n.2.1) from BEq.comm]; simp
 rw [hc, cond_false, aU (by omega), ai]
 exact Ok.ret ⟨⟨i + 1, by simp, by omega⟩, by omega⟩
end
end Go.Proofs.YtbaccmkhjmmlnaaDoor
