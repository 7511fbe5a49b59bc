/-
  Lemmas, part 8 of 8: walks through the program's functions, and plain Lean about what they compute.
-/
import Derived.Test.YtbaccmkhjmmlnaaDoorZ1
import Derived.Test.YtbaccmkhjmmlnaaDoorZ2
import Derived.Test.YtbaccmkhjmmlnaaDoorZ3
import Derived.Test.YtbaccmkhjmmlnaaDoorZ4
import Derived.Test.YtbaccmkhjmmlnaaDoorZ5
import Derived.Test.YtbaccmkhjmmlnaaDoorZ6
import Derived.Test.YtbaccmkhjmmlnaaDoorZ7
set_option linter.unnecessarySimpa false
set_option linter.unusedSimpArgs false
set_option linter.unusedVariables false
namespace Go.Proofs.YtbaccmkhjmmlnaaDoor
section
open Go.RowKit
set_option maxRecDepth 100000
noncomputable def ga (l : List (List UInt8)) (i : Int) : Option Pvd := ob (gy l i) fun r => some ⟨r.1, r.2⟩
theorem mJ {l : List (List UInt8)} {i : Int} {r : Pvd} (h : ga l i = some r) : aj Tryd.prog HG 40 [.list 1 (l.map bq) false, .v (.int .i64 i)] (.agg 2 [.list 32 (r.l.map aK) false, .v (.int .i64 r.e)]) := by
 obtain ⟨x, hx, h⟩ := ac h
 cases h
 exact m6 hx
noncomputable def gT (a0 : List Int) (s1 : (Int × (List UInt8))) : Option ((Int × (List UInt8)) ⊕ List UInt8) :=
 bif (decide (s1.1 < (a0.length : Int))) then (
  ob (idx a0 s1.1) fun x6 =>
  ob (app s1.2 [(w8 x6)]) fun x7 =>
  ob (arI .i64 (s1.1 + 1)) fun x8 =>
  some (.inl (x8, x7))
 ) else (
  some (.inr s1.2)
 )
noncomputable def gl (a0 : List Int) : Option (List UInt8) :=
 ob ((
  bH (gT a0) (0, ([] : List UInt8))
  : Option (List UInt8))) fun v9 =>
 some v9
set_option maxHeartbeats 4000000 in
theorem lW {a0 : List Int} {r : List UInt8} (h : gl a0 = some r) : aj Tryd.prog HG 35 [.l a0] (.list 1 (r.map aJ) false) := by
 unfold gl at h
 refine aj.of Tryd.func35 rfl Tryd.ntmps35 (by simp) ?_
 intro F hF h0 hT
 show Sm F _ _ ⟨[(0, .l a0)], [], 0⟩
 refine sr hF (gv hF oA (sn (sr hF (gv hF oA (sn (Sm.seq ?_))))))
 obtain ⟨v9, hv9, h⟩ := ac h
 refine bj ⟨[(3, .d (.list 1 (v9.map aJ) false))], [], 1⟩ ?_ ?_
 ·refine Sm.seq ?_
  refine ab hF rfl ?_
  refine gv hF oM (gv hF oA (sn (Sm.ret ?_)))
  obtain rfl := ae h
  exact bg rfl rfl
 replace h := hv9
 refine sr hF (gv hF oM (gv hF (oN (bc u30)) (gv hF oM (sn (Sm.block ?_)))))
 refine Sm.to (kA (e := [(3, .z), (6, .l a0), (7, .i (a0.length : Int)), (8, .i 0)]) (g := []) (m := 0)) ?_
 refine Sm.own (t := 3) 1 rfl ?_
 refine bz (gT a0) (fun s1 => ⟨[(3, .sref 0 0 (s1.2.map aJ).length), (6, .l a0), (7, .i (a0.length : Int)), (8, .i s1.1)], [(0, dB 1 (s1.2.map aJ))], 1⟩) (0, ([] : List UInt8)) h (kA) ?_
 intro n2 s1 o3 h hd4
 unfold gT at h
 refine sr hF (gv hF (oB (bt)) (sn (Sm.seq ?_)))
 refine aL hF rfl (fun hc5 => ?_) (fun hc5 => ?_)
 ·replace h := ifF hc5 h
  refine Sm.exit ?_
  replace h := aH h hd4
  obtain rfl := ae h
  exact (aS (kA (e := [(3, .sref 0 0 (s1.2.map aJ).length)]) (g := [(0, dB 1 (s1.2.map aJ))]) (m := 1)) (fA (l := 0) (sz := 1) (s1.2.map aJ)))
 replace h := ifT hc5 h
 refine sk (Sm.seq (Sm.block (sr hF ?_)))
 obtain ⟨x6, hx6, h⟩ := ac h
 refine gv hF (oI (bI u30 sz3 hx6)) (gv hF (oL (lP1 ag3 rfl)) (gv hF oA (sn ?_)))
 refine ab hF rfl ?_
 refine gv hF oM (gv hF oM (gv hF (oC (jK u3 u5)) (gv hF (x := .d (.list 1 ([(w8 x6)].map aJ) true)) (oS (aB u24 sz5 ze5 rfl rfl (PartsQ.cons rfl (PartsQ.nil _)) rfl)) ?_)))
 obtain ⟨x7, hx7, h⟩ := ac h
 refine be hF oH rfl (ys := [(w8 x6)]) (row := aJ) rfl rfl rfl rfl rfl rfl rfl rfl (.inl rfl) hx7 (by (repeat' first | exact bm _ | refine bf ?_ | refine ap ?_ (aM _ _ _) | refine ap ?_ (aM _ _ [_]) | refine ap ?_ (bB (by rfl)))) ?_
 refine gv hF oA (SmG.nil (ay (aa ?_)))
 refine ab hF rfl ?_
 obtain ⟨x8, hx8, h⟩ := ac h
 refine gv hF (oB (bb hx8)) (gv hF oM (SmG.nil ?_))
 exact bC (bn h hd4) (kA)
noncomputable def jL (x1 : List Int) (s2 : (Int × (List UInt8))) : Option ((Int × (List UInt8)) ⊕ List UInt8) :=
 bif (decide (s2.1 < (x1.length : Int))) then (
  ob (idx x1 s2.1) fun x7 =>
  ob (app s2.2 [(w8 x7)]) fun x8 =>
  ob (arI .i64 (s2.1 + 1)) fun x9 =>
  some (.inl (x9, x8))
 ) else (
  some (.inr s2.2)
 )
noncomputable def kT (a0 : Ps) : Option (List UInt8) :=
 ob ((
  ob (dK ([a0.at_, a0.h0, a0.h1, [a0.rights, a0.side]])) fun x1 =>
  bH (jL x1) (0, ([] : List UInt8))
  : Option (List UInt8))) fun v10 =>
 some v10
set_option maxHeartbeats 4000000 in
theorem uD {a0 : Ps} {r : List UInt8} (h : kT a0 = some r) : aj Tryd.prog HG 37 [.agg 5 (Ps.row a0)] (.v (.string ⟨(r : List UInt8).toArray⟩)) := by
 unfold kT at h
 refine aj.of Tryd.func37 rfl Tryd.ntmps37 (by simp) ?_
 intro F hF h0 hT
 show Sm F _ _ ⟨[(0, .d (.agg 5 (Ps.row a0)))], [], 0⟩
 refine sr hF ?_
 refine bM hF fa ?_
 refine gv hF oA (sn (sr hF (gv hF oA (sn (Sm.seq ?_)))))
 obtain ⟨v10, hv10, h⟩ := ac h
 refine bj ⟨[(3, .d (.list 1 (v10.map aJ) false))], [], 2⟩ ?_ ?_
 ·refine Sm.seq ?_
  refine ab hF rfl ?_
  refine gv hF oM (gv hF (oC (mX u24 u9 u5)) (gv hF oA (sn (Sm.ret ?_))))
  obtain rfl := ae h
  exact bg rfl rfl
 replace h := hv10
 refine sr hF (gv hF (oF (ag jq rfl)) (gv hF (oL (lP1 dz rfl)) (gv hF (oF (ag dN rfl)) (gv hF (oI (cF u31 dY rfl rfl)) (gv hF (oL (lP1 dz rfl)) (gv hF (oF (ag dN rfl)) (gv hF (oI (cF u31 dY rfl rfl)) (gv hF (oL (lP1 dz rfl)) ?_))))))))
 refine gv hF (oF (ag oG rfl)) (gv hF (oL (lP1 ag3 rfl)) (gv hF (oF (ag oX rfl)) (gv hF (oL (lP1 ag3 rfl)) (gv hF (x := .d (.list 1 ([a0.rights, a0.side].map (af .i64)) true)) (oS (aB u30 sz3 ze3 rfl rfl (PartsQ.cons rfl (PartsQ.cons rfl (PartsQ.nil _))) rfl)) ?_))))
 refine dQ (wA (e := [(3, .z), (7, .l a0.at_), (10, .l a0.h0), (13, .l a0.h1), (18, .d (.list 1 ([a0.rights, a0.side].map (af .i64)) false))]) (g := []) (m := 0)) rfl ?_
 refine gv hF (x := .d (.list 1 ([a0.at_, a0.h0, a0.h1, [a0.rights, a0.side]].map (aC 1 (af .i64))) true)) (oS (aB u71 dY wo rfl rfl (PartsQ.cons rfl (PartsQ.cons rfl (PartsQ.cons rfl (PartsQ.cons rfl (PartsQ.nil _))))) rfl)) ?_
 obtain ⟨x1, hx1, h⟩ := ac h
 refine SmG.callO hF rfl rfl (by kernel_rfl) rfl rfl rfl (cA.args (kQ hx1) (fun C => (oE (fun _ h => h)))) ?_
 refine gv hF (oN (Es u30)) (gv hF oM (sn (Sm.block ?_)))
 refine Sm.to (kA (e := [(3, .z), (20, .sref 0 0 (x1.map (af .i64)).length), (21, .i (x1.length : Int)), (22, .i 0)]) (g := [(0, dB 1 (x1.map (af .i64)))]) (m := 1)) ?_
 refine Sm.own (t := 3) 1 rfl ?_
 refine bz (jL x1) (fun s2 => ⟨[(3, .sref 1 0 (s2.2.map aJ).length), (20, .sref 0 0 (x1.map (af .i64)).length), (21, .i (x1.length : Int)), (22, .i s2.1)], [(1, dB 1 (s2.2.map aJ)), (0, dB 1 (x1.map (af .i64)))], 2⟩) (0, ([] : List UInt8)) h (kA) ?_
 intro n3 s2 o4 h hd5
 unfold jL at h
 refine sr hF (gv hF (oB (bt)) (sn (Sm.seq ?_)))
 refine aL hF rfl (fun hc6 => ?_) (fun hc6 => ?_)
 ·replace h := ifF hc6 h
  refine Sm.exit ?_
  replace h := aH h hd5
  obtain rfl := ae h
  exact (aS (kA (e := [(3, .sref 1 0 (s2.2.map aJ).length)]) (g := [(1, dB 1 (s2.2.map aJ))]) (m := 2)) (fA (l := 1) (sz := 1) (s2.2.map aJ)))
 replace h := ifT hc6 h
 refine sk (Sm.seq (Sm.block (sr hF ?_)))
 obtain ⟨x7, hx7, h⟩ := ac h
 refine gv hF (oI (pF u30 sz3 rfl hx7)) (gv hF (oL (BG rfl hx7 ag3 rfl)) (gv hF oA (sn ?_)))
 refine ab hF rfl ?_
 refine gv hF oM (gv hF oM (gv hF (oC (jK u3 u5)) (gv hF (x := .d (.list 1 ([(w8 x7)].map aJ) true)) (oS (aB u24 sz5 ze5 rfl rfl (PartsQ.cons rfl (PartsQ.nil _)) rfl)) ?_)))
 obtain ⟨x8, hx8, h⟩ := ac h
 refine be hF oH rfl (ys := [(w8 x7)]) (row := aJ) rfl rfl rfl rfl rfl rfl rfl rfl (.inl rfl) hx8 (by (repeat' first | exact bm _ | refine bf ?_ | refine ap ?_ (aM _ _ _) | refine ap ?_ (aM _ _ [_]) | refine ap ?_ (bB (by rfl)))) ?_
 refine gv hF oA (SmG.nil (ay (aa ?_)))
 refine ab hF rfl ?_
 obtain ⟨x9, hx9, h⟩ := ac h
 refine gv hF (oB (bb hx9)) (gv hF oM (SmG.nil ?_))
 exact bC (bn h hd5) (kA)
noncomputable def fm (a0 : Ps) (a1 : Rs) : Option (List UInt8) :=
 ob (gl [(a0.at_.length : Int), (a0.h0.length : Int), (a0.h1.length : Int)]) fun x1 =>
 ob (kT a0) fun x2 =>
 ob (qz x2) fun x3 =>
 ob (kB .i64 a1.n 24) fun x4 =>
 ob (kB .i64 a1.n 16) fun x5 =>
 ob (kB .i64 a1.n 8) fun x6 =>
 ob (gl [a1.out, x4, x5, x6, a1.n]) fun x7 =>
 ob (dk [x1, x3, x7]) fun x8 =>
 some x8
set_option maxHeartbeats 4000000 in
theorem iU {a0 : Ps} {a1 : Rs} {r : List UInt8} (h : fm a0 a1 = some r) : aj Tryd.prog HG 13 [.agg 5 (Ps.row a0), .agg 2 (Rs.row a1)] (.list 1 (r.map aJ) false) := by
 unfold fm at h
 refine aj.of Tryd.func13 rfl Tryd.ntmps13 (by simp) ?_
 intro F hF h0 hT
 show Sm F _ _ ⟨[(0, .d (.agg 5 (Ps.row a0))), (1, .d (.agg 2 (Rs.row a1)))], [], 0⟩
 refine sr hF ?_
 refine bM hF fa ?_
 refine bM hF fa ?_
 refine gv hF oA (sn (sr hF (gv hF (oF (ag jq rfl)) (gv hF (oL (lP1 dz rfl)) (gv hF (oN (bc u30)) (gv hF (oF (ag dN rfl)) (gv hF (oI (cF u31 dY rfl rfl)) (gv hF (oL (lP1 dz rfl)) ?_))))))))
 refine gv hF (oN (bc u30)) (gv hF (oF (ag dN rfl)) (gv hF (oI (cF u31 dY rfl rfl)) (gv hF (oL (lP1 dz rfl)) (gv hF (oN (bc u30)) (gv hF (x := .d (.list 1 ([(a0.at_.length : Int), (a0.h0.length : Int), (a0.h1.length : Int)].map (af .i64)) true)) (oS (aB u30 sz3 ze3 rfl rfl (PartsQ.cons rfl (PartsQ.cons rfl (PartsQ.cons rfl (PartsQ.nil _)))) rfl)) ?_)))))
 obtain ⟨x1, hx1, h⟩ := ac h
 refine SmG.call hF rfl rfl (by kernel_rfl) rfl rfl rfl (aj.args (lW hx1) (fun C => (oE (fun _ h => h)))) ?_
 refine gv hF oA (sn (Sm.seq ?_))
 refine dG hF 19 ?_
 refine hv hF oM (hv hF (x := .d (.agg 5 (Ps.row a0))) (oL (bX fq dg rfl rfl)) ?_)
 obtain ⟨x2, hx2, h⟩ := ac h
 refine cH hF (uD hx2) ?_
 obtain ⟨x3, hx3, h⟩ := ac h
 refine aD.ofString hF rfl rfl rfl rfl rfl Tryd.underlying9 Tryd.underlying24 Tryd.underlying5 hx3 ?_
 refine hv hF (oF (ag pd rfl)) (hv hF (oL (lP1 ag3 rfl)) (hv hF (oF (ag lc rfl)) (hv hF (oL (lP1 ag3 rfl)) ?_)))
 obtain ⟨x4, hx4, h⟩ := ac h
 refine hv hF (oB (l5 hx4)) (hv hF (oF (ag lc rfl)) (hv hF (oL (lP1 ag3 rfl)) ?_))
 obtain ⟨x5, hx5, h⟩ := ac h
 refine hv hF (oB (l5 hx5)) (hv hF (oF (ag lc rfl)) (hv hF (oL (lP1 ag3 rfl)) ?_))
 obtain ⟨x6, hx6, h⟩ := ac h
 refine hv hF (oB (l5 hx6)) (hv hF (oF (ag lc rfl)) (hv hF (oL (lP1 ag3 rfl)) (hv hF (x := .d (.list 1 ([a1.out, x4, x5, x6, a1.n].map (af .i64)) true)) (oS (aB u30 sz3 ze3 rfl rfl (PartsQ.cons rfl (PartsQ.cons rfl (PartsQ.cons rfl (PartsQ.cons rfl (PartsQ.cons rfl (PartsQ.nil _)))))) rfl)) ?_)))
 obtain ⟨x7, hx7, h⟩ := ac h
 refine aD.c hF rfl rfl (by kernel_rfl) rfl rfl rfl (aj.args (lW hx7) (fun C => (oE (fun _ h => h)))) ?_
 refine hE ?_
 refine gv hF (x := .d (.list 1 ([x1, x3, x7].map bq) true)) (oS (aB u61 li vO rfl rfl (PartsQ.cons rfl (PartsQ.cons rfl (PartsQ.cons rfl (PartsQ.nil _)))) rfl)) ?_
 obtain ⟨x8, hx8, h⟩ := ac h
 refine SmG.callO hF rfl rfl (by kernel_rfl) rfl rfl rfl (cA.args (j9 hx8) (fun C => (oE (fun _ h => h)))) ?_
 refine gv hF oA (sn ?_)
 refine Sm.to (aS (kA (e := [(4, .sref 0 0 (x8.map aJ).length)]) (g := [(0, dB 1 (x8.map aJ))]) (m := 1)) (fA (l := 0) (sz := 1) (e := [(4, .d (.list 1 (x8.map aJ) false))]) (g := []) (nx := 1) (x8.map aJ))) ?_
 refine Sm.ret ?_
 obtain rfl := ae h
 exact bg rfl rfl
noncomputable def eW (a0 : List Ps) (a1 : List Rs) (s1 : (Int × (List (List UInt8)))) : Option ((Int × (List (List UInt8))) ⊕ List (List UInt8)) :=
 bif (decide (s1.1 < (min (a0.length : Int) (a1.length : Int)))) then (
  ob (idx a0 s1.1) fun x6 =>
  ob (idx a1 s1.1) fun x7 =>
  ob (fm x6 x7) fun x8 =>
  ob (app s1.2 [x8]) fun x9 =>
  ob (arI .i64 (s1.1 + 1)) fun x10 =>
  some (.inl (x10, x9))
 ) else (
  some (.inr s1.2)
 )
noncomputable def fT (a0 : List Ps) (a1 : List Rs) : Option (List (List UInt8)) :=
 ob ((
  bH (eW a0 a1) (0, ([] : List (List UInt8)))
  : Option (List (List UInt8)))) fun v11 =>
 some v11
set_option maxHeartbeats 4000000 in
theorem lm {a0 : List Ps} {a1 : List Rs} {r : List (List UInt8)} (h : fT a0 a1 = some r) : aj Tryd.prog HG 33 [.list 5 (a0.map Ps.row) false, .list 2 (a1.map Rs.row) false] (.list 1 (r.map bq) false) := by
 unfold fT at h
 refine aj.of Tryd.func33 rfl Tryd.ntmps33 (by simp) ?_
 intro F hF h0 hT
 show Sm F _ _ ⟨[(0, .d (.list 5 (a0.map Ps.row) false)), (1, .d (.list 2 (a1.map Rs.row) false))], [], 0⟩
 refine sr hF (gv hF oA (sn (sr hF (gv hF oA (sn (Sm.seq ?_))))))
 obtain ⟨v11, hv11, h⟩ := ac h
 refine bj ⟨[(5, .d (.list 1 (v11.map bq) false))], [], 1⟩ ?_ ?_
 ·refine Sm.seq ?_
  refine ab hF rfl ?_
  refine gv hF oM (gv hF oA (sn (Sm.ret ?_)))
  obtain rfl := ae h
  exact bg rfl rfl
 replace h := hv11
 refine sr hF (gv hF oM (gv hF (oN (bc u40)) (gv hF oM (gv hF (oN (bc u41)) (gv hF (zB rfl rfl rfl Bu) (gv hF oM (sn (Sm.block ?_))))))))
 refine Sm.to (kA (e := [(0, .d (.list 5 (a0.map Ps.row) false)), (1, .d (.list 2 (a1.map Rs.row) false)), (5, .z), (11, .i (min (a0.length : Int) (a1.length : Int))), (12, .i 0)]) (g := []) (m := 0)) ?_
 refine Sm.own (t := 5) 1 rfl ?_
 refine bz (eW a0 a1) (fun s1 => ⟨[(0, .d (.list 5 (a0.map Ps.row) false)), (1, .d (.list 2 (a1.map Rs.row) false)), (5, .sref 0 0 (s1.2.map bq).length), (11, .i (min (a0.length : Int) (a1.length : Int))), (12, .i s1.1)], [(0, dB 1 (s1.2.map bq))], 1⟩) (0, ([] : List (List UInt8))) h (kA) ?_
 intro n2 s1 o3 h hd4
 unfold eW at h
 refine sr hF (gv hF (oB (bt)) (sn (Sm.seq ?_)))
 refine aL hF rfl (fun hc5 => ?_) (fun hc5 => ?_)
 ·replace h := ifF hc5 h
  refine Sm.exit ?_
  replace h := aH h hd4
  obtain rfl := ae h
  exact (aS (kA (e := [(5, .sref 0 0 (s1.2.map bq).length)]) (g := [(0, dB 1 (s1.2.map bq))]) (m := 1)) (fA (l := 0) (sz := 1) (s1.2.map bq)))
 replace h := ifT hc5 h
 refine sk (Sm.seq (Sm.block (sr hF (gv hF oM (gv hF oA (sn ?_))))))
 refine dG hF 11 ?_
 refine hv hF oM (hv hF oM (hv hF oM ?_))
 obtain ⟨x6, hx6, h⟩ := ac h
 refine hv hF (oI (bI u40 dg hx6)) (hv hF (x := .d (.agg 5 (Ps.row x6))) (oL (bX fq dg rfl rfl)) (hv hF oM (hv hF oM ?_)))
 obtain ⟨x7, hx7, h⟩ := ac h
 refine hv hF (oI (bI u41 fb hx7)) (hv hF (x := .d (.agg 2 (Rs.row x7))) (oL (bX iS fb rfl rfl)) ?_)
 obtain ⟨x8, hx8, h⟩ := ac h
 refine cH hF (iU hx8) ?_
 refine hv hF (x := .d (.list 1 ([x8].map bq) true)) (oS (aB u61 li vO rfl rfl (PartsQ.cons rfl (PartsQ.nil _)) rfl)) ?_
 refine hE ?_
 obtain ⟨x9, hx9, h⟩ := ac h
 refine be hF Ar rfl (ys := [x8]) (row := bq) rfl rfl rfl rfl rfl rfl rfl rfl (.inl rfl) hx9 (by (repeat' first | exact bm _ | refine bf ?_ | refine ap ?_ (aM _ _ _) | refine ap ?_ (aM _ _ [_]) | refine ap ?_ (bB (by rfl)))) ?_
 refine gv hF oA (SmG.nil (ay (aa ?_)))
 refine ab hF rfl ?_
 obtain ⟨x10, hx10, h⟩ := ac h
 refine gv hF (oB (bb hx10)) (gv hF oM (SmG.nil ?_))
 exact bC (bn h hd4) (kA)
noncomputable def fk (a0 : List Ps) (a1 : List Rs) : Option (List UInt8) :=
 ob (fT a0 a1) fun x1 =>
 ob (kL x1) fun x2 =>
 ob (vN 32 x2) fun x3 =>
 some x2
set_option maxHeartbeats 4000000 in
theorem jX {a0 : List Ps} {a1 : List Rs} {r : List UInt8} (h : fk a0 a1 = some r) : aj Tryd.prog HG 11 [.list 5 (a0.map Ps.row) false, .list 2 (a1.map Rs.row) false] (.agg 32 (aK r)) := by
 unfold fk at h
 refine aj.of Tryd.func11 rfl Tryd.ntmps11 (by simp) ?_
 intro F hF h0 hT
 show Sm F _ _ ⟨[(0, .d (.list 5 (a0.map Ps.row) false)), (1, .d (.list 2 (a1.map Rs.row) false))], [], 0⟩
 refine sr hF ?_
 refine SmG.new hF rfl rfl rfl (aI rfl kw) ?_
 refine sn (sr hF (gv hF oM (gv hF oM ?_)))
 obtain ⟨x1, hx1, h⟩ := ac h
 refine cS hF (lm hx1) ?_
 obtain ⟨x2, hx2, h⟩ := ac h
 refine cS hF (sA hx2) ?_
 obtain ⟨x3, hx3, h⟩ := ac h
 refine SmG.store hF rfl rfl rfl rfl rfl (pt rfl rfl iw rfl (ju hx3)) ?_
 refine sn (Sm.ret ?_)
 obtain rfl := ae h
 exact cU (RetR.cons (RetO.cell rfl (iF rfl jA iw)) (RetR.nil)) (D.le.refl _)
noncomputable def cT (a0 : List Ps) (a1 : List Rs) (a2 : Int) (a3 : Int) : Option (Ans × Int) :=
 bif ((a0.length : Int) != (a1.length : Int)) then (
  some ((⟨0, 0, 0, (⟨[], [], [], 0, 0⟩ : Ps), (⟨0, 0⟩ : Rs), []⟩ : Ans), 1)
 ) else (
  ob (fT a0 a1) fun x2 =>
  ob (gu x2 a3) fun x3 =>
  bif (x3.2 != 0) then (
   some ((⟨0, 0, 0, (⟨[], [], [], 0, 0⟩ : Ps), (⟨0, 0⟩ : Rs), []⟩ : Ans), x3.2)
  ) else (
   ob (idx a0 a3) fun x5 =>
   ob (idx a1 a3) fun x6 =>
   some ((⟨a2, a3, (a0.length : Int), x5, x6, x3.1⟩ : Ans), 0)
  )
 )
set_option maxHeartbeats 4000000 in
theorem f6 {a0 : List Ps} {a1 : List Rs} {a2 : Int} {a3 : Int} {r : (Ans × Int)} (h : cT a0 a1 a2 a3 = some r) : aj Tryd.prog HG 15 [.list 5 (a0.map Ps.row) false, .list 2 (a1.map Rs.row) false, .i a2, .i a3] (.tup [.agg 11 (Ans.row r.1), .i r.2]) := by
 unfold cT at h
 refine aj.of Tryd.func15 rfl Tryd.ntmps15 (by simp) ?_
 intro F hF h0 hT
 show Sm F _ _ ⟨[(0, .d (.list 5 (a0.map Ps.row) false)), (1, .d (.list 2 (a1.map Rs.row) false)), (2, .i a2), (3, .i a3)], [], 0⟩
 refine sr hF ?_
 refine SmG.new hF rfl rfl rfl (aI rfl nm) ?_
 refine gv hF oA (sn (Sm.seq (sr hF (gv hF oM (gv hF (oN (bc u40)) (gv hF oM (gv hF (oN (bc u41)) (gv hF (oB (kH)) ?_))))))))
 refine sn ?_
 refine bu hF rfl (fun hc1 => ?_) (fun hc1 => ?_)
 ·replace h := ifT hc1 h
  refine sr hF (gv hF (x := .d (.agg 11 [.i 0, .i 0, .i 0, .z, .z, .z, .i 0, .i 0, .i 0, .i 0, .z])) (aT rfl u38 (by kernel_rfl) rfl tf) ?_)
  refine SmG.store hF rfl rfl rfl rfl rfl (aZ (ys := [.i 0, .i 0, .i 0, .z, .z, .z, .i 0, .i 0, .i 0, .i 0, .z]) (r := [.i 0, .i 0, .i 0, .z, .z, .z, .i 0, .i 0, .i 0, .i 0, .z]) (rows' := [[.i 0, .i 0, .i 0, .z, .z, .z, .i 0, .i 0, .i 0, .i 0, .z]]) rfl rfl rfl dX rfl rfl rfl rfl rfl) ?_
  refine gv hF oA (sn (Sm.ret ?_))
  obtain rfl := ae h
  exact cU (RetR.cons (RetO.cell rfl (aE (ds := [.i 0, .i 0, .i 0, .z, .z, .z, .i 0, .i 0, .i 0, .i 0, .z]) rfl rfl gA dX rfl rfl)) (RetR.cons (RetO.tmp rfl) (RetR.nil))) (by repeat' first | exact D.le.refl _ | exact dI _ _ _ | exact cW _ _ _ | refine d9 ?_ | exact LeRows.nil | refine LeRows.cons ?_ ?_ | exact LeL.nil | refine LeL.cons ?_ ?_ | refine d8 ?_ | refine ed ?_)
 replace h := ifF hc1 h
 refine sk (sr hF (gv hF oM (gv hF oM ?_)))
 obtain ⟨x2, hx2, h⟩ := ac h
 refine cS hF (lm hx2) ?_
 refine gv hF oM ?_
 obtain ⟨x3, hx3, h⟩ := ac h
 refine cS hF (rC hx3) ?_
 refine gv hF oM (gv hF (aX rfl rfl rfl) (gv hF (aX rfl rfl rfl) (gv hF oA (gv hF oA (sn (Sm.seq (sr hF (gv hF oM ?_))))))))
 refine gv hF (oB (kH)) (sn ?_)
 refine bu hF rfl (fun hc4 => ?_) (fun hc4 => ?_)
 ·replace h := ifT hc4 h
  refine sr hF (gv hF (x := .d (.agg 11 [.i 0, .i 0, .i 0, .z, .z, .z, .i 0, .i 0, .i 0, .i 0, .z])) (aT rfl u38 (by kernel_rfl) rfl tf) (gv hF oM ?_))
  refine SmG.store hF rfl rfl rfl rfl rfl (aZ (ys := [.i 0, .i 0, .i 0, .z, .z, .z, .i 0, .i 0, .i 0, .i 0, .z]) (r := [.i 0, .i 0, .i 0, .z, .z, .z, .i 0, .i 0, .i 0, .i 0, .z]) (rows' := [[.i 0, .i 0, .i 0, .z, .z, .z, .i 0, .i 0, .i 0, .i 0, .z]]) rfl rfl rfl dX rfl rfl rfl rfl rfl) ?_
  refine gv hF oA (sn (Sm.ret ?_))
  obtain rfl := ae h
  exact cU (RetR.cons (RetO.cell rfl (aE (ds := [.i 0, .i 0, .i 0, .z, .z, .z, .i 0, .i 0, .i 0, .i 0, .z]) rfl rfl gA dX rfl rfl)) (RetR.cons (RetO.tmp rfl) (RetR.nil))) (by repeat' first | exact D.le.refl _ | exact dI _ _ _ | exact cW _ _ _ | refine d9 ?_ | exact LeRows.nil | refine LeRows.cons ?_ ?_ | exact LeL.nil | refine LeL.cons ?_ ?_ | refine d8 ?_ | refine ed ?_)
 replace h := ifF hc4 h
 refine sk (Sm.seq ?_)
 refine dG hF 13 ?_
 refine hv hF oM (hv hF oM (hv hF oM (hv hF (oN (bc u40)) (hv hF oM (hv hF oM ?_)))))
 obtain ⟨x5, hx5, h⟩ := ac h
 refine hv hF (oI (bI u40 dg hx5)) (hv hF (x := .d (.agg 5 (Ps.row x5))) (oL (bX fq dg rfl rfl)) (hv hF oM (hv hF oM ?_)))
 obtain ⟨x6, hx6, h⟩ := ac h
 refine hv hF (oI (bI u41 fb hx6)) (hv hF (x := .d (.agg 2 (Rs.row x6))) (oL (bX iS fb rfl rfl)) (hv hF oM ?_))
 refine hE ?_
 refine gv hF (x := .d (.agg 11 [.i a2, .i a3, .i (a0.length : Int), .l x5.at_, .l x5.h0, .l x5.h1, .i x5.rights, .i x5.side, .i x6.out, .i x6.n, .list 32 (x3.1.map aK) false])) (aT rfl u38 (by kernel_rfl) rfl (bi (n := 11) yJ Bn rfl rfl)) ?_
 refine SmG.store hF rfl rfl rfl rfl rfl (aZ (ys := [.i a2, .i a3, .i (a0.length : Int), .l x5.at_, .l x5.h0, .l x5.h1, .i x5.rights, .i x5.side, .i x6.out, .i x6.n, .d (.list 32 (x3.1.map aK) false)]) (r := [.i 0, .i 0, .i 0, .z, .z, .z, .i 0, .i 0, .i 0, .i 0, .z]) (rows' := [[.i a2, .i a3, .i (a0.length : Int), .l x5.at_, .l x5.h0, .l x5.h1, .i x5.rights, .i x5.side, .i x6.out, .i x6.n, .d (.list 32 (x3.1.map aK) false)]]) rfl rfl rfl dX rfl rfl rfl rfl rfl) ?_
 refine gv hF oA (sn (Sm.ret ?_))
 obtain rfl := ae h
 exact cU (RetR.cons (RetO.cell rfl (aE (ds := [.i a2, .i a3, .i (a0.length : Int), .l x5.at_, .l x5.h0, .l x5.h1, .i x5.rights, .i x5.side, .i x6.out, .i x6.n, .list 32 (x3.1.map aK) false]) rfl rfl gA dX rfl rfl)) (RetR.cons (RetO.tmp rfl) (RetR.nil))) (D.le.refl _)
noncomputable def da (a1 : Rs) (s5 : (Int × (List UInt8))) : Option ((Int × (List UInt8)) ⊕ List UInt8) :=
 bif (decide (0 ≤ s5.1)) then (
  ob (arI .i64 (8 * s5.1)) fun x10 =>
  ob (kB .i64 a1.n x10) fun x11 =>
  ob (app s5.2 [(w8 x11)]) fun x12 =>
  ob (arI .i64 (s5.1 - 1)) fun x13 =>
  some (.inl (x13, x12))
 ) else (
  some (.inr s5.2)
 )
noncomputable def dh (a0 : Ps) (a1 : Rs) : Option (List UInt8) :=
 ob (f8 a0) fun x1 =>
 ob (qz x1) fun x2 =>
 ob (app [(w8 (a0.at_.length : Int)), (w8 (a0.h0.length : Int)), (w8 (a0.h1.length : Int))] x2) fun x3 =>
 ob (app x3 [(w8 a1.out)]) fun x4 =>
 ob ((
  bH (da a1) (3, x4)
  : Option (List UInt8))) fun v14 =>
 some v14
set_option maxHeartbeats 4000000 in
theorem f9 {a0 : Ps} {a1 : Rs} {r : List UInt8} (h : dh a0 a1 = some r) : aj Tryd.prog HG 14 [.agg 5 (Ps.row a0), .agg 2 (Rs.row a1)] (.list 1 (r.map aJ) false) := by
 unfold dh at h
 refine aj.of Tryd.func14 rfl Tryd.ntmps14 (by simp) ?_
 intro F hF h0 hT
 show Sm F _ _ ⟨[(0, .d (.agg 5 (Ps.row a0))), (1, .d (.agg 2 (Rs.row a1)))], [], 0⟩
 refine sr hF ?_
 refine bM hF fa ?_
 refine bM hF fa ?_
 refine gv hF oA (sn (sr hF (gv hF (oF (ag jq rfl)) (gv hF (oL (lP1 dz rfl)) (gv hF (oN (bc u30)) (gv hF (oC (jK u3 u5)) (gv hF (oF (ag dN rfl)) (gv hF (oI (cF u31 dY rfl rfl)) ?_))))))))
 refine gv hF (oL (lP1 dz rfl)) (gv hF (oN (bc u30)) (gv hF (oC (jK u3 u5)) (gv hF (oF (ag dN rfl)) (gv hF (oI (cF u31 dY rfl rfl)) (gv hF (oL (lP1 dz rfl)) (gv hF (oN (bc u30)) (gv hF (oC (jK u3 u5)) ?_)))))))
 refine SmG.buildOwn hF (rows := ([(w8 (a0.at_.length : Int)), (w8 (a0.h0.length : Int)), (w8 (a0.h1.length : Int))].map aJ)) rfl rfl rfl rfl rfl (aB Tryd.underlying24 sz5 ze5 rfl rfl (PartsQ.cons rfl (PartsQ.cons rfl (PartsQ.cons rfl (PartsQ.nil _)))) rfl) (by simp) ?_
 refine gv hF oA (sn (sr hF (gv hF oM (gv hF (x := .d (.agg 5 (Ps.row a0))) (oL (bX fq dg rfl rfl)) ?_))))
 obtain ⟨x1, hx1, h⟩ := ac h
 refine cS hF (oq hx1) ?_
 obtain ⟨x2, hx2, h⟩ := ac h
 refine SmG.ofString hF rfl rfl rfl rfl rfl Tryd.underlying9 Tryd.underlying24 Tryd.underlying5 hx2 ?_
 obtain ⟨x3, hx3, h⟩ := ac h
 refine be hF oH rfl (ys := x2) (row := aJ) rfl rfl rfl rfl rfl rfl rfl rfl (.inl rfl) hx3 (by (repeat' first | exact bm _ | refine bf ?_ | refine ap ?_ (aM _ _ _) | refine ap ?_ (aM _ _ [_]) | refine ap ?_ (bB (by rfl)))) ?_
 refine gv hF oA (sn (sr hF (gv hF oM (gv hF (oF (ag pd rfl)) (gv hF (oL (lP1 ag3 rfl)) (gv hF (oC (jK u3 u5)) (gv hF (x := .d (.list 1 ([(w8 a1.out)].map aJ) true)) (oS (aB u24 sz5 ze5 rfl rfl (PartsQ.cons rfl (PartsQ.nil _)) rfl)) ?_)))))))
 obtain ⟨x4, hx4, h⟩ := ac h
 refine be hF oH rfl (ys := [(w8 a1.out)]) (row := aJ) rfl rfl rfl rfl rfl rfl rfl rfl (.inl rfl) hx4 (by (repeat' first | exact bm _ | refine bf ?_ | refine ap ?_ (aM _ _ _) | refine ap ?_ (aM _ _ [_]) | refine ap ?_ (bB (by rfl)))) ?_
 refine gv hF oA (sn (Sm.seq ?_))
 obtain ⟨v14, hv14, h⟩ := ac h
 refine bj ⟨[(5, .sref 0 0 (v14.map aJ).length)], [(0, dB 1 (v14.map aJ))], 1⟩ ?_ ?_
 ·refine Sm.seq ?_
  refine ab hF rfl ?_
  refine gv hF oM (gv hF oA (sn ?_))
  refine Sm.to (aS (kA (e := [(4, .sref 0 0 (v14.map aJ).length)]) (g := [(0, dB 1 (v14.map aJ))]) (m := 1)) (fA (l := 0) (sz := 1) (e := [(4, .d (.list 1 (v14.map aJ) false))]) (g := []) (nx := 1) (v14.map aJ))) ?_
  refine Sm.ret ?_
  obtain rfl := ae h
  exact bg rfl rfl
 replace h := hv14
 refine sr hF (gv hF oA (sn (Sm.block ?_)))
 refine bz (da a1) (fun s5 => ⟨[(3, .d (.ptr 2 (Rs.row a1))), (5, .sref 0 0 (s5.2.map aJ).length), (6, .i s5.1)], [(0, dB 1 (s5.2.map aJ))], 1⟩) (3, x4) h (kA) ?_
 intro n6 s5 o7 h hd8
 unfold da at h
 refine Sm.seq (sr hF (gv hF oM (gv hF (oB (kE)) (sn ?_))))
 refine aL hF rfl (fun hc9 => ?_) (fun hc9 => ?_)
 ·replace h := ifF hc9 h
  refine Sm.exit ?_
  replace h := aH h hd8
  obtain rfl := ae h
  exact (kA)
 replace h := ifT hc9 h
 refine sk (Sm.seq (Sm.block ?_))
 refine ab hF rfl ?_
 refine gv hF oM (gv hF (oF (ag lc rfl)) (gv hF (oL (lP1 ag3 rfl)) (gv hF oM ?_)))
 obtain ⟨x10, hx10, h⟩ := ac h
 refine gv hF (oB (i4 hx10)) ?_
 obtain ⟨x11, hx11, h⟩ := ac h
 refine gv hF (oB (l5 hx11)) (gv hF (oC (jK u3 u5)) (gv hF (x := .d (.list 1 ([(w8 x11)].map aJ) true)) (oS (aB u24 sz5 ze5 rfl rfl (PartsQ.cons rfl (PartsQ.nil _)) rfl)) ?_))
 obtain ⟨x12, hx12, h⟩ := ac h
 refine be hF oH rfl (ys := [(w8 x11)]) (row := aJ) rfl rfl rfl rfl rfl rfl rfl rfl (.inl rfl) hx12 (by (repeat' first | exact bm _ | refine bf ?_ | refine ap ?_ (aM _ _ _) | refine ap ?_ (aM _ _ [_]) | refine ap ?_ (bB (by rfl)))) ?_
 refine gv hF oA (SmG.nil (ay (aa ?_)))
 refine ab hF rfl ?_
 refine gv hF oM ?_
 obtain ⟨x13, hx13, h⟩ := ac h
 refine gv hF (oB (ox hx13)) (gv hF oA (SmG.nil ?_))
 exact bC (bn h hd8) (kA)
noncomputable def dn (a0 : List Ps) (a1 : List Rs) (s1 : (Int × (List (List UInt8)))) : Option ((Int × (List (List UInt8))) ⊕ List (List UInt8)) :=
 bif (decide (s1.1 < (a0.length : Int))) then (
  bif (decide (s1.1 < (a1.length : Int))) then (
   ob (idx a0 s1.1) fun x7 =>
   ob (idx a1 s1.1) fun x8 =>
   ob (dh x7 x8) fun x9 =>
   ob (app s1.2 [x9]) fun x10 =>
   ob (arI .i64 (s1.1 + 1)) fun x11 =>
   some (.inl (x11, x10))
  ) else (
   some (.inr s1.2)
  )
 ) else (
  some (.inr s1.2)
 )
noncomputable def eo (a0 : List Ps) (a1 : List Rs) : Option (List (List UInt8)) :=
 ob ((
  bH (dn a0 a1) (0, ([] : List (List UInt8)))
  : Option (List (List UInt8)))) fun v12 =>
 some v12
set_option maxHeartbeats 4000000 in
theorem jm {a0 : List Ps} {a1 : List Rs} {r : List (List UInt8)} (h : eo a0 a1 = some r) : aj Tryd.prog HG 28 [.list 5 (a0.map Ps.row) false, .list 2 (a1.map Rs.row) false] (.list 1 (r.map bq) false) := by
 unfold eo at h
 refine aj.of Tryd.func28 rfl Tryd.ntmps28 (by simp) ?_
 intro F hF h0 hT
 show Sm F _ _ ⟨[(0, .d (.list 5 (a0.map Ps.row) false)), (1, .d (.list 2 (a1.map Rs.row) false))], [], 0⟩
 refine sr hF (gv hF oA (sn (sr hF (gv hF (x := .d (.list 1 (([] : List (List UInt8)).map bq) true)) (oS (fB u61 li)) (gv hF oA (sn (Sm.seq ?_)))))))
 obtain ⟨v12, hv12, h⟩ := ac h
 refine bj ⟨[(5, .d (.list 1 (v12.map bq) false))], [], 1⟩ ?_ ?_
 ·refine Sm.seq ?_
  refine ab hF rfl ?_
  refine gv hF oM (gv hF oA (sn (Sm.ret ?_)))
  obtain rfl := ae h
  exact bg rfl rfl
 replace h := hv12
 refine sr hF (gv hF oA (sn (Sm.block ?_)))
 refine Sm.to (kA (e := [(0, .d (.list 5 (a0.map Ps.row) false)), (1, .d (.list 2 (a1.map Rs.row) false)), (5, .d (.list 1 ([].map bq) true)), (6, .i 0)]) (g := []) (m := 0)) ?_
 refine Sm.own (t := 5) 1 rfl ?_
 refine bz (dn a0 a1) (fun s1 => ⟨[(0, .d (.list 5 (a0.map Ps.row) false)), (1, .d (.list 2 (a1.map Rs.row) false)), (5, .sref 0 0 (s1.2.map bq).length), (6, .i s1.1)], [(0, dB 1 (s1.2.map bq))], 1⟩) (0, ([] : List (List UInt8))) h (kA) ?_
 intro n2 s1 o3 h hd4
 unfold dn at h
 refine Sm.seq (sr hF (gv hF oM (gv hF oM (gv hF (oN (bc u40)) (gv hF (oB (bt)) ?_)))))
 rcases bG (decide (s1.1 < (a0.length : Int))) with hc5 | hc5
 ·replace h := ifF hc5 h
  refine gv hF (am rfl rfl hc5) (gp hF (gp hF (gp hF (gp hF (gv hF (ah rfl rfl rfl) (sn ?_))))))
  refine ba hF rfl ?_
  refine Sm.exit ?_
  replace h := aH h hd4
  obtain rfl := ae h
  exact (aS (kA (e := [(5, .sref 0 0 (s1.2.map bq).length)]) (g := [(0, dB 1 (s1.2.map bq))]) (m := 1)) (fA (l := 0) (sz := 1) (s1.2.map bq)))
 replace h := ifT hc5 h
 refine gv hF (am rfl rfl hc5) (gv hF oM (gv hF oM (gv hF (oN (bc u41)) (gv hF (oB (bt)) (gv hF (aw rfl rfl rfl) (sn ?_))))))
 refine aL hF rfl (fun hc6 => ?_) (fun hc6 => ?_)
 ·replace h := ifF hc6 h
  refine Sm.exit ?_
  replace h := aH h hd4
  obtain rfl := ae h
  exact (aS (kA (e := [(5, .sref 0 0 (s1.2.map bq).length)]) (g := [(0, dB 1 (s1.2.map bq))]) (m := 1)) (fA (l := 0) (sz := 1) (s1.2.map bq)))
 replace h := ifT hc6 h
 refine sk (Sm.seq (Sm.block ?_))
 refine dG hF 11 ?_
 refine hv hF oM (hv hF oM (hv hF oM ?_))
 obtain ⟨x7, hx7, h⟩ := ac h
 refine hv hF (oI (bI u40 dg hx7)) (hv hF (x := .d (.agg 5 (Ps.row x7))) (oL (bX fq dg rfl rfl)) (hv hF oM (hv hF oM ?_)))
 obtain ⟨x8, hx8, h⟩ := ac h
 refine hv hF (oI (bI u41 fb hx8)) (hv hF (x := .d (.agg 2 (Rs.row x8))) (oL (bX iS fb rfl rfl)) ?_)
 obtain ⟨x9, hx9, h⟩ := ac h
 refine cH hF (f9 hx9) ?_
 refine hv hF (x := .d (.list 1 ([x9].map bq) true)) (oS (aB u61 li vO rfl rfl (PartsQ.cons rfl (PartsQ.nil _)) rfl)) ?_
 refine hE ?_
 obtain ⟨x10, hx10, h⟩ := ac h
 refine be hF Ar rfl (ys := [x9]) (row := bq) rfl rfl rfl rfl rfl rfl rfl rfl (.inl rfl) hx10 (by (repeat' first | exact bm _ | refine bf ?_ | refine ap ?_ (aM _ _ _) | refine ap ?_ (aM _ _ [_]) | refine ap ?_ (bB (by rfl)))) ?_
 refine gv hF oA (SmG.nil (ay (aa ?_)))
 refine ab hF rfl ?_
 refine gv hF oM ?_
 obtain ⟨x11, hx11, h⟩ := ac h
 refine gv hF (oB (bb hx11)) (gv hF oA (SmG.nil ?_))
 exact bC (bn h hd4) (kA)
noncomputable def eT (a0 : List Ps) (a1 : List Rs) : Option (List UInt8) :=
 ob (eo a0 a1) fun x1 =>
 ob (gH x1) fun x2 =>
 ob (vN 32 x2) fun x3 =>
 some x2
set_option maxHeartbeats 4000000 in
theorem j4 {a0 : List Ps} {a1 : List Rs} {r : List UInt8} (h : eT a0 a1 = some r) : aj Tryd.prog HG 12 [.list 5 (a0.map Ps.row) false, .list 2 (a1.map Rs.row) false] (.agg 32 (aK r)) := by
 unfold eT at h
 refine aj.of Tryd.func12 rfl Tryd.ntmps12 (by simp) ?_
 intro F hF h0 hT
 show Sm F _ _ ⟨[(0, .d (.list 5 (a0.map Ps.row) false)), (1, .d (.list 2 (a1.map Rs.row) false))], [], 0⟩
 refine sr hF ?_
 refine SmG.new hF rfl rfl rfl (aI rfl kw) ?_
 refine sn (sr hF (gv hF oM (gv hF oM ?_)))
 obtain ⟨x1, hx1, h⟩ := ac h
 refine cS hF (jm hx1) ?_
 obtain ⟨x2, hx2, h⟩ := ac h
 refine cS hF (nH hx2) ?_
 obtain ⟨x3, hx3, h⟩ := ac h
 refine SmG.store hF rfl rfl rfl rfl rfl (pt rfl rfl iw rfl (ju hx3)) ?_
 refine sn (Sm.ret ?_)
 obtain rfl := ae h
 exact cU (RetR.cons (RetO.cell rfl (iF rfl jA iw)) (RetR.nil)) (D.le.refl _)
noncomputable def fe (a0 : List Ps) (a1 : List Rs) (a2 : Int) (a3 : Int) : Option (Ans × Int) :=
 bif ((a0.length : Int) != (a1.length : Int)) then (
  some ((⟨0, 0, 0, (⟨[], [], [], 0, 0⟩ : Ps), (⟨0, 0⟩ : Rs), []⟩ : Ans), 1)
 ) else (
  bif (decide (a3 < 0)) then (
   some ((⟨0, 0, 0, (⟨[], [], [], 0, 0⟩ : Ps), (⟨0, 0⟩ : Rs), []⟩ : Ans), 1)
  ) else (
   bif (decide ((a0.length : Int) ≤ a3)) then (
    some ((⟨0, 0, 0, (⟨[], [], [], 0, 0⟩ : Ps), (⟨0, 0⟩ : Rs), []⟩ : Ans), 1)
   ) else (
    ob (idx a0 a3) fun x4 =>
    ob (idx a1 a3) fun x5 =>
    ob (eo a0 a1) fun x6 =>
    ob (ga x6 a3) fun x7 =>
    some ((⟨a2, a3, (a0.length : Int), x4, x5, x7.l⟩ : Ans), 0)
   )
  )
 )
set_option maxHeartbeats 4000000 in
theorem jo {a0 : List Ps} {a1 : List Rs} {a2 : Int} {a3 : Int} {r : (Ans × Int)} (h : fe a0 a1 a2 a3 = some r) : aj Tryd.prog HG 16 [.list 5 (a0.map Ps.row) false, .list 2 (a1.map Rs.row) false, .i a2, .i a3] (.tup [.agg 11 (Ans.row r.1), .i r.2]) := by
 unfold fe at h
 refine aj.of Tryd.func16 rfl Tryd.ntmps16 (by simp) ?_
 intro F hF h0 hT
 show Sm F _ _ ⟨[(0, .d (.list 5 (a0.map Ps.row) false)), (1, .d (.list 2 (a1.map Rs.row) false)), (2, .i a2), (3, .i a3)], [], 0⟩
 refine sr hF ?_
 refine SmG.new hF rfl rfl rfl (aI rfl nm) ?_
 refine gv hF oA (sn (Sm.seq (sr hF (gv hF oM (gv hF (oN (bc u40)) (gv hF oM (gv hF (oN (bc u41)) (gv hF (oB (kH)) ?_))))))))
 rcases dU ((a0.length : Int) != (a1.length : Int)) with hc1 | hc1
 ·replace h := ifT hc1 h
  refine gv hF (am rfl rfl hc1) (gp hF (gp hF (gv hF (aw rfl rfl rfl) (gv hF oM (gp hF (gp hF (gp hF (gp hF ?_))))))))
  refine gv hF (aw rfl rfl rfl) (sn ?_)
  refine aW hF rfl ?_
  refine sr hF (gv hF (x := .d (.agg 11 [.i 0, .i 0, .i 0, .z, .z, .z, .i 0, .i 0, .i 0, .i 0, .z])) (aT rfl u38 (by kernel_rfl) rfl tf) ?_)
  refine SmG.store hF rfl rfl rfl rfl rfl (aZ (ys := [.i 0, .i 0, .i 0, .z, .z, .z, .i 0, .i 0, .i 0, .i 0, .z]) (r := [.i 0, .i 0, .i 0, .z, .z, .z, .i 0, .i 0, .i 0, .i 0, .z]) (rows' := [[.i 0, .i 0, .i 0, .z, .z, .z, .i 0, .i 0, .i 0, .i 0, .z]]) rfl rfl rfl dX rfl rfl rfl rfl rfl) ?_
  refine gv hF oA (sn (Sm.ret ?_))
  obtain rfl := ae h
  exact cU (RetR.cons (RetO.cell rfl (aE (ds := [.i 0, .i 0, .i 0, .z, .z, .z, .i 0, .i 0, .i 0, .i 0, .z]) rfl rfl gA dX rfl rfl)) (RetR.cons (RetO.tmp rfl) (RetR.nil))) (by repeat' first | exact D.le.refl _ | exact dI _ _ _ | exact cW _ _ _ | refine d9 ?_ | exact LeRows.nil | refine LeRows.cons ?_ ?_ | exact LeL.nil | refine LeL.cons ?_ ?_ | refine d8 ?_ | refine ed ?_)
 replace h := ifF hc1 h
 refine gv hF (am rfl rfl hc1) (gv hF oM (gv hF (oB (bt)) (gv hF (ah rfl rfl rfl) ?_)))
 rcases dU (decide (a3 < 0)) with hc2 | hc2
 ·replace h := ifT hc2 h
  refine gv hF (am rfl rfl hc2) (gp hF (gp hF (gp hF (gp hF (gv hF (aw rfl rfl rfl) (sn ?_))))))
  refine aW hF rfl ?_
  refine sr hF (gv hF (x := .d (.agg 11 [.i 0, .i 0, .i 0, .z, .z, .z, .i 0, .i 0, .i 0, .i 0, .z])) (aT rfl u38 (by kernel_rfl) rfl tf) ?_)
  refine SmG.store hF rfl rfl rfl rfl rfl (aZ (ys := [.i 0, .i 0, .i 0, .z, .z, .z, .i 0, .i 0, .i 0, .i 0, .z]) (r := [.i 0, .i 0, .i 0, .z, .z, .z, .i 0, .i 0, .i 0, .i 0, .z]) (rows' := [[.i 0, .i 0, .i 0, .z, .z, .z, .i 0, .i 0, .i 0, .i 0, .z]]) rfl rfl rfl dX rfl rfl rfl rfl rfl) ?_
  refine gv hF oA (sn (Sm.ret ?_))
  obtain rfl := ae h
  exact cU (RetR.cons (RetO.cell rfl (aE (ds := [.i 0, .i 0, .i 0, .z, .z, .z, .i 0, .i 0, .i 0, .i 0, .z]) rfl rfl gA dX rfl rfl)) (RetR.cons (RetO.tmp rfl) (RetR.nil))) (by repeat' first | exact D.le.refl _ | exact dI _ _ _ | exact cW _ _ _ | refine d9 ?_ | exact LeRows.nil | refine LeRows.cons ?_ ?_ | exact LeL.nil | refine LeL.cons ?_ ?_ | refine d8 ?_ | refine ed ?_)
 replace h := ifF hc2 h
 refine gv hF (am rfl rfl hc2) (gv hF oM (gv hF oM (gv hF (oN (bc u40)) (gv hF (oB (kE)) (gv hF (ah rfl rfl rfl) (sn ?_))))))
 refine bu hF rfl (fun hc3 => ?_) (fun hc3 => ?_)
 ·replace h := ifT hc3 h
  refine sr hF (gv hF (x := .d (.agg 11 [.i 0, .i 0, .i 0, .z, .z, .z, .i 0, .i 0, .i 0, .i 0, .z])) (aT rfl u38 (by kernel_rfl) rfl tf) ?_)
  refine SmG.store hF rfl rfl rfl rfl rfl (aZ (ys := [.i 0, .i 0, .i 0, .z, .z, .z, .i 0, .i 0, .i 0, .i 0, .z]) (r := [.i 0, .i 0, .i 0, .z, .z, .z, .i 0, .i 0, .i 0, .i 0, .z]) (rows' := [[.i 0, .i 0, .i 0, .z, .z, .z, .i 0, .i 0, .i 0, .i 0, .z]]) rfl rfl rfl dX rfl rfl rfl rfl rfl) ?_
  refine gv hF oA (sn (Sm.ret ?_))
  obtain rfl := ae h
  exact cU (RetR.cons (RetO.cell rfl (aE (ds := [.i 0, .i 0, .i 0, .z, .z, .z, .i 0, .i 0, .i 0, .i 0, .z]) rfl rfl gA dX rfl rfl)) (RetR.cons (RetO.tmp rfl) (RetR.nil))) (by repeat' first | exact D.le.refl _ | exact dI _ _ _ | exact cW _ _ _ | refine d9 ?_ | exact LeRows.nil | refine LeRows.cons ?_ ?_ | exact LeL.nil | refine LeL.cons ?_ ?_ | refine d8 ?_ | refine ed ?_)
 replace h := ifF hc3 h
 refine sk (Sm.seq ?_)
 refine dG hF 18 ?_
 refine hv hF oM (hv hF oM (hv hF oM (hv hF (oN (bc u40)) (hv hF oM (hv hF oM ?_)))))
 obtain ⟨x4, hx4, h⟩ := ac h
 refine hv hF (oI (bI u40 dg hx4)) (hv hF (x := .d (.agg 5 (Ps.row x4))) (oL (bX fq dg rfl rfl)) (hv hF oM (hv hF oM ?_)))
 obtain ⟨x5, hx5, h⟩ := ac h
 refine hv hF (oI (bI u41 fb hx5)) (hv hF (x := .d (.agg 2 (Rs.row x5))) (oL (bX iS fb rfl rfl)) (hv hF oM (hv hF oM ?_)))
 obtain ⟨x6, hx6, h⟩ := ac h
 refine cH hF (jm hx6) ?_
 refine hv hF oM ?_
 obtain ⟨x7, hx7, h⟩ := ac h
 refine cH hF (mJ hx7) ?_
 refine hv hF (pa rfl rfl (zx Bz A6 ot rfl)) ?_
 refine hE ?_
 refine gv hF (x := .d (.agg 11 [.i a2, .i a3, .i (a0.length : Int), .l x4.at_, .l x4.h0, .l x4.h1, .i x4.rights, .i x4.side, .i x5.out, .i x5.n, .list 32 (x7.l.map aK) false])) (aT rfl u38 (by kernel_rfl) rfl (bi (n := 11) yJ Bn rfl rfl)) ?_
 refine SmG.store hF rfl rfl rfl rfl rfl (aZ (ys := [.i a2, .i a3, .i (a0.length : Int), .l x4.at_, .l x4.h0, .l x4.h1, .i x4.rights, .i x4.side, .i x5.out, .i x5.n, .d (.list 32 (x7.l.map aK) false)]) (r := [.i 0, .i 0, .i 0, .z, .z, .z, .i 0, .i 0, .i 0, .i 0, .z]) (rows' := [[.i a2, .i a3, .i (a0.length : Int), .l x4.at_, .l x4.h0, .l x4.h1, .i x4.rights, .i x4.side, .i x5.out, .i x5.n, .d (.list 32 (x7.l.map aK) false)]]) rfl rfl rfl dX rfl rfl rfl rfl rfl) ?_
 refine gv hF oA (sn (Sm.ret ?_))
 obtain rfl := ae h
 exact cU (RetR.cons (RetO.cell rfl (aE (ds := [.i a2, .i a3, .i (a0.length : Int), .l x4.at_, .l x4.h0, .l x4.h1, .i x4.rights, .i x4.side, .i x5.out, .i x5.n, .list 32 (x7.l.map aK) false]) rfl rfl gA dX rfl rfl)) (RetR.cons (RetO.tmp rfl) (RetR.nil))) (D.le.refl _)
noncomputable def dC (x4 : List Int) (s5 : Int) : Option (Int ⊕ (Unit ⊕ Bool)) :=
 bif (decide (s5 < (x4.length : Int))) then (
  ob (idx x4 s5) fun x10 =>
  bif (decide (x10 < 0)) then (
   some (.inr (.inr false))
  ) else (
   ob (idx x4 s5) fun x12 =>
   bif (decide (255 < x12)) then (
    some (.inr (.inr false))
   ) else (
    ob (arI .i64 (s5 + 1)) fun x14 =>
    some (.inl x14)
   )
  )
 ) else (
  some (.inr (.inl ()))
 )
noncomputable def eF (a0 : Ps) (a1 : Rs) : Option Bool :=
 bif (decide (255 < (a0.at_.length : Int))) then (
  some false
 ) else (
  bif (decide (255 < (a0.h0.length : Int))) then (
   some false
  ) else (
   bif (decide (255 < (a0.h1.length : Int))) then (
    some false
   ) else (
    ob (dP a0) fun x4 =>
    ob ((
     bH (dC x4) 0
     : Option (Unit ⊕ Bool))) fun o19 => match o19 with
    | .inl v15 => (
     bif (decide (1 ≤ a1.out)) then (
      bif (decide (a1.out ≤ 3)) then (
       bif (decide (0 ≤ a1.n)) then (
        some (decide (a1.n < 2147483648))
       ) else (
        some false
       )
      ) else (
       some false
      )
     ) else (
      some false
     )
     )
    | .inr e20 => some e20
   )
  )
 )
set_option maxHeartbeats 4000000 in
theorem m7 {a0 : Ps} {a1 : Rs} {r : Bool} (h : eF a0 a1 = some r) : aj Tryd.prog HG 49 [.agg 5 (Ps.row a0), .agg 2 (Rs.row a1)] (.v (.bool r)) := by
 unfold eF at h
 refine aj.of Tryd.func49 rfl Tryd.ntmps49 (by simp) ?_
 intro F hF h0 hT
 show Sm F _ _ ⟨[(0, .d (.agg 5 (Ps.row a0))), (1, .d (.agg 2 (Rs.row a1)))], [], 0⟩
 refine sr hF ?_
 refine bM hF fa ?_
 refine bM hF fa ?_
 refine gv hF oA (sn (Sm.seq (sr hF (gv hF (oF (ag jq rfl)) (gv hF (oL (lP1 dz rfl)) (gv hF (oN (bc u30)) (gv hF (oB (fD)) ?_)))))))
 rcases dU (decide (255 < (a0.at_.length : Int))) with hc1 | hc1
 ·replace h := ifT hc1 h
  refine gv hF (am rfl rfl hc1) (gp hF (gp hF (gp hF (gp hF (gp hF (gv hF (aw rfl rfl rfl) (gv hF oM (gp hF ?_))))))))
  refine gp hF (gp hF (gp hF (gp hF (gv hF (aw rfl rfl rfl) (sn ?_)))))
  refine aW hF rfl ?_
  refine sr hF (gv hF oA (sn (Sm.ret ?_)))
  obtain rfl := ae h
  exact bg rfl rfl
 replace h := ifF hc1 h
 refine gv hF (am rfl rfl hc1) (gv hF (oF (ag dN rfl)) (gv hF (oI (cF u31 dY rfl rfl)) (gv hF (oL (lP1 dz rfl)) (gv hF (oN (bc u30)) (gv hF (oB (fD)) (gv hF (ah rfl rfl rfl) ?_))))))
 rcases dU (decide (255 < (a0.h0.length : Int))) with hc2 | hc2
 ·replace h := ifT hc2 h
  refine gv hF (am rfl rfl hc2) (gp hF (gp hF (gp hF (gp hF (gp hF (gv hF (aw rfl rfl rfl) (sn ?_)))))))
  refine aW hF rfl ?_
  refine sr hF (gv hF oA (sn (Sm.ret ?_)))
  obtain rfl := ae h
  exact bg rfl rfl
 replace h := ifF hc2 h
 refine gv hF (am rfl rfl hc2) (gv hF (oF (ag dN rfl)) (gv hF (oI (cF u31 dY rfl rfl)) (gv hF (oL (lP1 dz rfl)) (gv hF (oN (bc u30)) (gv hF (oB (fD)) (gv hF (ah rfl rfl rfl) (sn ?_)))))))
 refine bu hF rfl (fun hc3 => ?_) (fun hc3 => ?_)
 ·replace h := ifT hc3 h
  refine sr hF (gv hF oA (sn (Sm.ret ?_)))
  obtain rfl := ae h
  exact bg rfl rfl
 replace h := ifF hc3 h
 refine sk (sr hF (gv hF (x := .d (.agg 5 (Ps.row a0))) (oL (bX fq dg rfl rfl)) ?_))
 obtain ⟨x4, hx4, h⟩ := ac h
 refine cS hF (ji hx4) ?_
 refine gv hF oA (sn (Sm.seq ?_))
 obtain ⟨o19, ho19, h⟩ := ac h
 rcases nr o19 with ⟨e20, rfl⟩ | ⟨v15, rfl⟩
 ·have he20 := ae h
  subst he20
  replace h := ho19
  refine sr hF (gv hF oA (sn (Sm.block ?_)))
  refine bz (dC x4) (fun s5 => ⟨[(3, .d (.ptr 2 (Rs.row a1))), (5, .l x4), (6, .i s5)], [], 0⟩) 0 h (kA) ?_
  intro n6 s5 o7 h hd8
  unfold dC at h
  refine Sm.seq (sr hF (gv hF oM (gv hF oM (gv hF (oN (bc u30)) (gv hF (oB (bt)) (sn ?_))))))
  refine aL hF rfl (fun hc9 => ?_) (fun hc9 => ?_)
  ·replace h := ifF hc9 h
   refine Sm.exit ?_
   replace h := aH h hd8
   cases h
  replace h := ifT hc9 h
  refine sk (Sm.seq (Sm.block (sr hF (gv hF oM (gv hF oM ?_)))))
  obtain ⟨x10, hx10, h⟩ := ac h
  refine gv hF (oI (bI u30 sz3 hx10)) (gv hF (oL (lP1 ag3 rfl)) (gv hF (oB (bt)) ?_))
  rcases dU (decide (x10 < 0)) with hc11 | hc11
  ·replace h := ifT hc11 h
   refine gv hF (am rfl rfl hc11) (gp hF (gp hF (gp hF (gp hF (gp hF (gv hF (aw rfl rfl rfl) (sn ?_)))))))
   refine aW hF rfl ?_
   refine sr hF (gv hF oA (sn (Sm.ret ?_)))
   replace h := aH h hd8
   replace h := iR h
   obtain rfl := ae h
   exact bg rfl rfl
  replace h := ifF hc11 h
  refine gv hF (am rfl rfl hc11) (gv hF oM (gv hF oM ?_))
  obtain ⟨x12, hx12, h⟩ := ac h
  refine gv hF (oI (bI u30 sz3 hx12)) (gv hF (oL (lP1 ag3 rfl)) (gv hF (oB (fD)) (gv hF (ah rfl rfl rfl) (sn ?_))))
  refine bu hF rfl (fun hc13 => ?_) (fun hc13 => ?_)
  ·replace h := ifT hc13 h
   refine sr hF (gv hF oA (sn (Sm.ret ?_)))
   replace h := aH h hd8
   replace h := iR h
   obtain rfl := ae h
   exact bg rfl rfl
  replace h := ifF hc13 h
  refine Sm.skip ?_
  refine ay (aa ?_)
  refine ab hF rfl ?_
  refine gv hF oM ?_
  obtain ⟨x14, hx14, h⟩ := ac h
  refine gv hF (oB (bb hx14)) (gv hF oA (SmG.nil ?_))
  exact bC (bn h hd8) (kA)
 refine bj ⟨[(3, .d (.ptr 2 (Rs.row a1)))], [], 0⟩ ?_ ?_
 ·refine Sm.seq ?_
  refine ab hF rfl ?_
  refine gv hF (oF (ag pd rfl)) (gv hF (oL (lP1 ag3 rfl)) (gv hF (oB (kE)) ?_))
  rcases bG (decide (1 ≤ a1.out)) with hc16 | hc16
  ·replace h := ifF hc16 h
   refine gv hF (am rfl rfl hc16) (gp hF (gp hF (gp hF (gv hF (ah rfl rfl rfl) (gv hF oM (gp hF (gp hF (gp hF ?_))))))))
   refine gv hF (ah rfl rfl rfl) (gv hF oM (gp hF (gp hF (gp hF (gv hF (ah rfl rfl rfl) (gv hF oA (sn (Sm.ret ?_))))))))
   obtain rfl := ae h
   exact bg rfl rfl
  replace h := ifT hc16 h
  refine gv hF (am rfl rfl hc16) (gv hF (oF (ag pd rfl)) (gv hF (oL (lP1 ag3 rfl)) (gv hF (oB (pD)) (gv hF (aw rfl rfl rfl) ?_))))
  rcases bG (decide (a1.out ≤ 3)) with hc17 | hc17
  ·replace h := ifF hc17 h
   refine gv hF (am rfl rfl hc17) (gp hF (gp hF (gp hF (gv hF (ah rfl rfl rfl) (gv hF oM (gp hF (gp hF (gp hF ?_))))))))
   refine gv hF (ah rfl rfl rfl) (gv hF oA (sn (Sm.ret ?_)))
   obtain rfl := ae h
   exact bg rfl rfl
  replace h := ifT hc17 h
  refine gv hF (am rfl rfl hc17) (gv hF (oF (ag lc rfl)) (gv hF (oL (lP1 ag3 rfl)) (gv hF (oB (kE)) (gv hF (aw rfl rfl rfl) ?_))))
  rcases dU (decide (0 ≤ a1.n)) with hc18 | hc18
  ·replace h := ifT hc18 h
   refine gv hF (am rfl rfl hc18) (gv hF (oF (ag lc rfl)) (gv hF (oL (lP1 ag3 rfl)) (gv hF (oB (bt)) (gv hF (aw rfl rfl rfl) (gv hF oA (sn (Sm.ret ?_)))))))
   obtain rfl := ae h
   exact bg rfl rfl
  replace h := ifF hc18 h
  refine gv hF (am rfl rfl hc18) (gp hF (gp hF (gp hF (gv hF (ah rfl rfl rfl) (gv hF oA (sn (Sm.ret ?_)))))))
  obtain rfl := ae h
  exact bg rfl rfl
 replace h := ho19
 refine sr hF (gv hF oA (sn (Sm.block ?_)))
 refine bz (dC x4) (fun s5 => ⟨[(3, .d (.ptr 2 (Rs.row a1))), (5, .l x4), (6, .i s5)], [], 0⟩) 0 h (kA) ?_
 intro n6 s5 o7 h hd8
 unfold dC at h
 refine Sm.seq (sr hF (gv hF oM (gv hF oM (gv hF (oN (bc u30)) (gv hF (oB (bt)) (sn ?_))))))
 refine aL hF rfl (fun hc9 => ?_) (fun hc9 => ?_)
 ·replace h := ifF hc9 h
  refine Sm.exit ?_
  replace h := aH h hd8
  obtain rfl := ae (ip h)
  exact (kA)
 replace h := ifT hc9 h
 refine sk (Sm.seq (Sm.block (sr hF (gv hF oM (gv hF oM ?_)))))
 obtain ⟨x10, hx10, h⟩ := ac h
 refine gv hF (oI (bI u30 sz3 hx10)) (gv hF (oL (lP1 ag3 rfl)) (gv hF (oB (bt)) ?_))
 rcases dU (decide (x10 < 0)) with hc11 | hc11
 ·replace h := ifT hc11 h
  refine gv hF (am rfl rfl hc11) (gp hF (gp hF (gp hF (gp hF (gp hF (gv hF (aw rfl rfl rfl) (sn ?_)))))))
  refine aW hF rfl ?_
  refine sr hF (gv hF oA (sn (Sm.ret ?_)))
  replace h := aH h hd8
  cases h
 replace h := ifF hc11 h
 refine gv hF (am rfl rfl hc11) (gv hF oM (gv hF oM ?_))
 obtain ⟨x12, hx12, h⟩ := ac h
 refine gv hF (oI (bI u30 sz3 hx12)) (gv hF (oL (lP1 ag3 rfl)) (gv hF (oB (fD)) (gv hF (ah rfl rfl rfl) (sn ?_))))
 refine bu hF rfl (fun hc13 => ?_) (fun hc13 => ?_)
 ·replace h := ifT hc13 h
  refine sr hF (gv hF oA (sn (Sm.ret ?_)))
  replace h := aH h hd8
  cases h
 replace h := ifF hc13 h
 refine Sm.skip ?_
 refine ay (aa ?_)
 refine ab hF rfl ?_
 refine gv hF oM ?_
 obtain ⟨x14, hx14, h⟩ := ac h
 refine gv hF (oB (bb hx14)) (gv hF oA (SmG.nil ?_))
 exact bC (bn h hd8) (kA)
noncomputable def eE (a0 : List UInt8) (a1 : Int) (a2 : Ans) : Option Bool :=
 bif (a2.version == a1) then (
  ob (eF a2.pos a2.entry) fun x2 =>
  bif x2 then (
   ob (dh a2.pos a2.entry) fun x4 =>
   ob (gx a0 a2.count a2.index x4 a2.proof) fun x5 =>
   some x5
  ) else (
   some false
  )
 ) else (
  some false
 )
set_option maxHeartbeats 4000000 in
theorem gX {a0 : List UInt8} {a1 : Int} {a2 : Ans} {r : Bool} (h : eE a0 a1 a2 = some r) : aj Tryd.prog HG 19 [.agg 32 (aK a0), .i a1, .agg 11 (Ans.row a2)] (.v (.bool r)) := by
 unfold eE at h
 refine aj.of Tryd.func19 rfl Tryd.ntmps19 (by simp) ?_
 intro F hF h0 hT
 show Sm F _ _ ⟨[(0, .d (.agg 32 (aK a0))), (1, .i a1), (2, .d (.agg 11 (Ans.row a2)))], [], 0⟩
 refine sr hF ?_
 refine bM hF fa ?_
 refine bM hF fa ?_
 refine gv hF oA (sn (Sm.seq ?_))
 refine dG hF 24 ?_
 refine hv hF (oF (ag gN rfl)) (hv hF (oL (lP1 ag3 rfl)) (hv hF oM (hv hF (oB (cM)) ?_)))
 rcases bG (a2.version == a1) with hc1 | hc1
 ·replace h := ifF hc1 h
  refine hv hF (am rfl rfl hc1) (hp hF (hp hF (hp hF (hp hF (hp hF (hv hF (ah rfl rfl rfl) (hv hF oM (hp hF ?_))))))))
  refine hp hF (hp hF (hp hF (hp hF (hp hF (hp hF (hp hF (hp hF (hp hF ?_))))))))
  refine hp hF (hp hF ?_)
  refine hE ?_
  refine gp hF (gv hF (ah rfl rfl rfl) (gv hF oA (sn (Sm.ret ?_))))
  obtain rfl := ae h
  exact bg rfl rfl
 replace h := ifT hc1 h
 refine hv hF (am rfl rfl hc1) (hv hF (oF (ag i6 rfl)) (hv hF (x := .d (.agg 5 [.l a2.pos.at_, .l a2.pos.h0, .l a2.pos.h1, .i a2.pos.rights, .i a2.pos.side])) (oL (bX fq dg rfl rfl)) (hv hF (oF (ag kN rfl)) (hv hF (x := .d (.agg 2 [.i a2.entry.out, .i a2.entry.n])) (oL (bX iS fb rfl rfl)) ?_))))
 obtain ⟨x2, hx2, h⟩ := ac h
 refine cH hF (m7 hx2) ?_
 refine hv hF (aw rfl rfl rfl) ?_
 rcases bG x2 with hc3 | hc3
 ·replace h := ifF hc3 h
  refine hv hF (am rfl rfl hc3) (hp hF (hp hF (hp hF (hp hF (hp hF (hp hF (hp hF (hp hF ?_))))))))
  refine hp hF (hp hF (hp hF (hp hF ?_)))
  refine hE ?_
  refine gp hF (gv hF (ah rfl rfl rfl) (gv hF oA (sn (Sm.ret ?_))))
  obtain rfl := ae h
  exact bg rfl rfl
 replace h := ifT hc3 h
 refine hv hF (am rfl rfl hc3) (hv hF (x := .d (.agg 32 (aK a0))) (oL (bX jA iw rfl rfl)) (hv hF (oF (ag nf rfl)) (hv hF (oL (lP1 ag3 rfl)) (hv hF (oF (ag oP rfl)) (hv hF (oL (lP1 ag3 rfl)) (hv hF (oF (ag i6 rfl)) (hv hF (x := .d (.agg 5 [.l a2.pos.at_, .l a2.pos.h0, .l a2.pos.h1, .i a2.pos.rights, .i a2.pos.side])) (oL (bX fq dg rfl rfl)) (hv hF (oF (ag kN rfl)) ?_))))))))
 refine hv hF (x := .d (.agg 2 [.i a2.entry.out, .i a2.entry.n])) (oL (bX iS fb rfl rfl)) ?_
 obtain ⟨x4, hx4, h⟩ := ac h
 refine cH hF (f9 hx4) ?_
 refine hv hF (oF (ag nd rfl)) (hv hF (oL (lP1 ot rfl)) ?_)
 refine hE ?_
 obtain ⟨x5, hx5, h⟩ := ac h
 refine cS hF (nh hx5) ?_
 refine gv hF (aw rfl rfl rfl) (gv hF oA (sn (Sm.ret ?_)))
 obtain rfl := ae h
 exact bg rfl rfl
noncomputable def fF (a0 : Ans) (a1 : Ans) : Option Bool :=
 bif (a0.version == a1.version) then (
  bif (a0.index == a1.index) then (
   bif (a0.count == a1.count) then (
    ob (eU a0.pos a1.pos) fun x4 =>
    bif x4 then (
     bif ((a0.entry.out == a1.entry.out) && ((a0.entry.n == a1.entry.n) && true)) then (
      ob (gM a0.proof a1.proof) fun x7 =>
      some x7
     ) else (
      some false
     )
    ) else (
     some false
    )
   ) else (
    some false
   )
  ) else (
   some false
  )
 ) else (
  some false
 )
set_option maxHeartbeats 4000000 in
theorem jM {a0 : Ans} {a1 : Ans} {r : Bool} (h : fF a0 a1 = some r) : aj Tryd.prog HG 17 [.agg 11 (Ans.row a0), .agg 11 (Ans.row a1)] (.v (.bool r)) := by
 unfold fF at h
 refine aj.of Tryd.func17 rfl Tryd.ntmps17 (by simp) ?_
 intro F hF h0 hT
 show Sm F _ _ ⟨[(0, .d (.agg 11 (Ans.row a0))), (1, .d (.agg 11 (Ans.row a1)))], [], 0⟩
 refine sr hF ?_
 refine bM hF fa ?_
 refine bM hF fa ?_
 refine gv hF oA (sn (sr hF (gv hF (oF (ag gN rfl)) (gv hF (oL (lP1 ag3 rfl)) (gv hF (oF (ag gN rfl)) (gv hF (oL (lP1 ag3 rfl)) (gv hF (oB (cM)) ?_)))))))
 rcases bG (a0.version == a1.version) with hc1 | hc1
 ·replace h := ifF hc1 h
  refine gv hF (am rfl rfl hc1) (gp hF (gp hF (gp hF (gp hF (gp hF (gv hF (ah rfl rfl rfl) (gv hF oM (gp hF ?_))))))))
  refine gp hF (gp hF (gp hF (gp hF (gv hF (ah rfl rfl rfl) (gv hF oM (gp hF (gp hF (gp hF ?_))))))))
  refine gp hF (gp hF (gv hF (ah rfl rfl rfl) (gv hF oM (gp hF (gp hF (gp hF (gp hF (gp hF ?_))))))))
  refine gv hF (ah rfl rfl rfl) (gv hF oM (gp hF (gp hF (gp hF (gp hF (gp hF (gv hF (ah rfl rfl rfl) (gv hF oA ?_))))))))
  refine sn (Sm.ret ?_)
  obtain rfl := ae h
  exact bg rfl rfl
 replace h := ifT hc1 h
 refine gv hF (am rfl rfl hc1) (gv hF (oF (ag oP rfl)) (gv hF (oL (lP1 ag3 rfl)) (gv hF (oF (ag oP rfl)) (gv hF (oL (lP1 ag3 rfl)) (gv hF (oB (cM)) (gv hF (aw rfl rfl rfl) ?_))))))
 rcases bG (a0.index == a1.index) with hc2 | hc2
 ·replace h := ifF hc2 h
  refine gv hF (am rfl rfl hc2) (gp hF (gp hF (gp hF (gp hF (gp hF (gv hF (ah rfl rfl rfl) (gv hF oM (gp hF ?_))))))))
  refine gp hF (gp hF (gp hF (gp hF (gv hF (ah rfl rfl rfl) (gv hF oM (gp hF (gp hF (gp hF ?_))))))))
  refine gp hF (gp hF (gv hF (ah rfl rfl rfl) (gv hF oM (gp hF (gp hF (gp hF (gp hF (gp hF ?_))))))))
  refine gv hF (ah rfl rfl rfl) (gv hF oA (sn (Sm.ret ?_)))
  obtain rfl := ae h
  exact bg rfl rfl
 replace h := ifT hc2 h
 refine gv hF (am rfl rfl hc2) (gv hF (oF (ag nf rfl)) (gv hF (oL (lP1 ag3 rfl)) (gv hF (oF (ag nf rfl)) (gv hF (oL (lP1 ag3 rfl)) (gv hF (oB (cM)) (gv hF (aw rfl rfl rfl) ?_))))))
 rcases bG (a0.count == a1.count) with hc3 | hc3
 ·replace h := ifF hc3 h
  refine gv hF (am rfl rfl hc3) (gp hF (gp hF (gp hF (gp hF (gp hF (gv hF (ah rfl rfl rfl) (gv hF oM (gp hF ?_))))))))
  refine gp hF (gp hF (gp hF (gp hF (gv hF (ah rfl rfl rfl) (gv hF oM (gp hF (gp hF (gp hF ?_))))))))
  refine gp hF (gp hF (gv hF (ah rfl rfl rfl) (gv hF oA (sn (Sm.ret ?_)))))
  obtain rfl := ae h
  exact bg rfl rfl
 replace h := ifT hc3 h
 refine gv hF (am rfl rfl hc3) (gv hF (oF (ag i6 rfl)) (gv hF (x := .d (.agg 5 [.l a0.pos.at_, .l a0.pos.h0, .l a0.pos.h1, .i a0.pos.rights, .i a0.pos.side])) (oL (bX fq dg rfl rfl)) (gv hF (oF (ag i6 rfl)) (gv hF (x := .d (.agg 5 [.l a1.pos.at_, .l a1.pos.h0, .l a1.pos.h1, .i a1.pos.rights, .i a1.pos.side])) (oL (bX fq dg rfl rfl)) ?_))))
 obtain ⟨x4, hx4, h⟩ := ac h
 refine cS hF (nB hx4) ?_
 refine gv hF (aw rfl rfl rfl) ?_
 rcases bG x4 with hc5 | hc5
 ·replace h := ifF hc5 h
  refine gv hF (am rfl rfl hc5) (gp hF (gp hF (gp hF (gp hF (gp hF (gv hF (ah rfl rfl rfl) (gv hF oM (gp hF ?_))))))))
  refine gp hF (gp hF (gp hF (gp hF (gv hF (ah rfl rfl rfl) (gv hF oA (sn (Sm.ret ?_)))))))
  obtain rfl := ae h
  exact bg rfl rfl
 replace h := ifT hc5 h
 refine gv hF (am rfl rfl hc5) (gv hF (oF (ag kN rfl)) (gv hF (x := .d (.agg 2 [.i a0.entry.out, .i a0.entry.n])) (oL (bX iS fb rfl rfl)) (gv hF (oF (ag kN rfl)) (gv hF (x := .d (.agg 2 [.i a1.entry.out, .i a1.entry.n])) (oL (bX iS fb rfl rfl)) (gv hF (rb rfl rfl rfl (wV (ds := [.int .i64, .int .i64]) (by kernel_rfl) (by kernel_rfl) rfl)) (gv hF (aw rfl rfl rfl) ?_))))))
 rcases bG ((a0.entry.out == a1.entry.out) && ((a0.entry.n == a1.entry.n) && true)) with hc6 | hc6
 ·replace h := ifF hc6 h
  refine gv hF (am rfl rfl hc6) (gp hF (gp hF (gp hF (gp hF (gp hF (gv hF (ah rfl rfl rfl) (gv hF oA (sn ?_))))))))
  refine Sm.ret ?_
  obtain rfl := ae h
  exact bg rfl rfl
 replace h := ifT hc6 h
 refine gv hF (am rfl rfl hc6) (gv hF (oF (ag nd rfl)) (gv hF (oL (lP1 ot rfl)) (gv hF (oF (ag nd rfl)) (gv hF (oL (lP1 ot rfl)) ?_))))
 obtain ⟨x7, hx7, h⟩ := ac h
 refine cS hF (nT hx7) ?_
 refine gv hF (aw rfl rfl rfl) (gv hF oA (sn (Sm.ret ?_)))
 obtain rfl := ae h
 exact bg rfl rfl
noncomputable def c8 (a0 : List Ps) (a1 : List Int) (s1 : (Int × (List Rs))) : Option ((Int × (List Rs)) ⊕ List Rs) :=
 bif (decide (s1.1 < (a0.length : Int))) then (
  ob (arI .i64 (7 * s1.1)) fun x6 =>
  ob ((
   bif (decide (0 < (a1.length : Int))) then (
    ob (cV s1.1 (a1.length : Int)) fun x8 =>
    ob (idx a1 x8) fun x9 =>
    ob (arI .i64 x9) fun x10 =>
    ob (arI .i64 (x10 + s1.1)) fun x11 =>
    some x11
   ) else (
    some x6
   )
   : Option Int)) fun v12 =>
  ob (cV v12 3) fun x13 =>
  ob (arI .i64 (1 + x13)) fun x14 =>
  ob (jl .i64 v12 3) fun x15 =>
  ob (app s1.2 [(⟨x14, x15⟩ : Rs)]) fun x16 =>
  ob (arI .i64 (s1.1 + 1)) fun x17 =>
  some (.inl (x17, x16))
 ) else (
  some (.inr s1.2)
 )
noncomputable def eS (a0 : List Ps) (a1 : List Int) : Option (List Rs) :=
 ob ((
  bH (c8 a0 a1) (0, ([] : List Rs))
  : Option (List Rs))) fun v18 =>
 some v18
set_option maxHeartbeats 4000000 in
theorem mb {a0 : List Ps} {a1 : List Int} {r : List Rs} (h : eS a0 a1 = some r) : aj Tryd.prog HG 31 [.list 5 (a0.map Ps.row) false, .list 1 (a1.map (af .u16)) false] (.list 2 (r.map Rs.row) false) := by
 unfold eS at h
 refine aj.of Tryd.func31 rfl Tryd.ntmps31 (by simp) ?_
 intro F hF h0 hT
 show Sm F _ _ ⟨[(0, .d (.list 5 (a0.map Ps.row) false)), (1, .d (.list 1 (a1.map (af .u16)) false))], [], 0⟩
 refine sr hF (gv hF oA (sn (sr hF (gv hF (x := .d (.list 2 (([] : List Rs).map Rs.row) true)) (oS (fB u41 fb)) (gv hF oA (sn (Sm.seq ?_)))))))
 obtain ⟨v18, hv18, h⟩ := ac h
 refine bj ⟨[(5, .d (.list 2 (v18.map Rs.row) false))], [], 1⟩ ?_ ?_
 ·refine Sm.seq ?_
  refine ab hF rfl ?_
  refine gv hF oM (gv hF oA (sn (Sm.ret ?_)))
  obtain rfl := ae h
  exact bg rfl rfl
 replace h := hv18
 refine sr hF (gv hF oA (sn (Sm.block ?_)))
 refine Sm.to (kA (e := [(0, .d (.list 5 (a0.map Ps.row) false)), (1, .d (.list 1 (a1.map (af .u16)) false)), (5, .d (.list 2 ([].map Rs.row) true)), (6, .i 0)]) (g := []) (m := 0)) ?_
 refine Sm.own (t := 5) 2 rfl ?_
 refine bz (c8 a0 a1) (fun s1 => ⟨[(0, .d (.list 5 (a0.map Ps.row) false)), (1, .d (.list 1 (a1.map (af .u16)) false)), (5, .sref 0 0 (s1.2.map Rs.row).length), (6, .i s1.1)], [(0, dB 2 (s1.2.map Rs.row))], 1⟩) (0, ([] : List Rs)) h (kA) ?_
 intro n2 s1 o3 h hd4
 unfold c8 at h
 refine Sm.seq (sr hF (gv hF oM (gv hF oM (gv hF (oN (bc u40)) (gv hF (oB (bt)) (sn ?_))))))
 refine aL hF rfl (fun hc5 => ?_) (fun hc5 => ?_)
 ·replace h := ifF hc5 h
  refine Sm.exit ?_
  replace h := aH h hd4
  obtain rfl := ae h
  exact (aS (kA (e := [(5, .sref 0 0 (s1.2.map Rs.row).length)]) (g := [(0, dB 2 (s1.2.map Rs.row))]) (m := 1)) (fA (l := 0) (sz := 2) (s1.2.map Rs.row)))
 replace h := ifT hc5 h
 refine sk (Sm.seq (Sm.block (sr hF (gv hF oM ?_))))
 obtain ⟨x6, hx6, h⟩ := ac h
 refine gv hF (oB (i4 hx6)) (gv hF oA (sn (Sm.seq ?_)))
 obtain ⟨v12, hv12, h⟩ := ac h
 refine bj ⟨[(0, .d (.list 5 (a0.map Ps.row) false)), (1, .d (.list 1 (a1.map (af .u16)) false)), (5, .sref 0 0 (s1.2.map Rs.row).length), (6, .i s1.1), (7, .i v12)], [(0, dB 2 (s1.2.map Rs.row))], 1⟩ ?_ ?_
 ·refine ab hF rfl ?_
  refine gv hF oM (gv hF oM ?_)
  obtain ⟨x13, hx13, h⟩ := ac h
  refine gv hF (oB (b7 hx13)) ?_
  obtain ⟨x14, hx14, h⟩ := ac h
  refine gv hF (oB (bb hx14)) (gv hF oM ?_)
  obtain ⟨x15, hx15, h⟩ := ac h
  refine gv hF (oB (jp hx15)) (gv hF (x := .d (.agg 2 [.i x14, .i x15])) (aT rfl u35 (by kernel_rfl) rfl (bi (n := 2) pX AR rfl rfl)) (gv hF (x := .d (.list 2 ([(⟨x14, x15⟩ : Rs)].map Rs.row) true)) (oS (aB u41 fb pX rfl rfl (PartsQ.cons rfl (PartsQ.nil _)) rfl)) ?_))
  obtain ⟨x16, hx16, h⟩ := ac h
  refine be hF Ig rfl (ys := [(⟨x14, x15⟩ : Rs)]) (row := Rs.row) rfl rfl rfl rfl rfl rfl rfl rfl (.inl rfl) hx16 (by (repeat' first | exact bm _ | refine bf ?_ | refine ap ?_ (aM _ _ _) | refine ap ?_ (aM _ _ [_]) | refine ap ?_ (bB (by rfl)))) ?_
  refine gv hF oA (SmG.nil (ay (aa ?_)))
  refine ab hF rfl ?_
  refine gv hF oM ?_
  obtain ⟨x17, hx17, h⟩ := ac h
  refine gv hF (oB (bb hx17)) (gv hF oA (SmG.nil ?_))
  exact bC (bn h hd4) (kA)
 replace h := hv12
 refine sr hF (gv hF oM (gv hF (oN (bc u45)) (gv hF (oB (fD)) (sn ?_))))
 refine aL hF rfl (fun hc7 => ?_) (fun hc7 => ?_)
 ·replace h := ifF hc7 h
  refine Sm.skip ?_
  obtain rfl := ae h
  exact (kA)
 replace h := ifT hc7 h
 refine ab hF rfl ?_
 refine gv hF oM (gv hF oM (gv hF oM (gv hF (oN (bc u45)) ?_)))
 obtain ⟨x8, hx8, h⟩ := ac h
 refine gv hF (oB (b7 hx8)) ?_
 obtain ⟨x9, hx9, h⟩ := ac h
 refine gv hF (oI (bI u45 yC hx9)) (gv hF (oL (lP1 Bd rfl)) ?_)
 obtain ⟨x10, hx10, h⟩ := ac h
 refine gv hF (oC (ko u44 u3 hx10)) (gv hF oM ?_)
 obtain ⟨x11, hx11, h⟩ := ac h
 refine gv hF (oB (bb hx11)) (gv hF oA (SmG.nil ?_))
 obtain rfl := ae h
 exact (kA)
end
section
open Go.RowKit
set_option maxRecDepth 100000
noncomputable def iC (a0 : Int) (a1 : Int) (a2 : Int) : Option Bool :=
 bif (decide (a1 ≤ a0)) then (
  some (decide (a0 ≤ a2))
 ) else (
  some false
 )
set_option maxHeartbeats 4000000 in
theorem qZ {a0 : Int} {a1 : Int} {a2 : Int} {r : Bool} (h : iC a0 a1 a2 = some r) : aj Tryd.prog HG 88 [.i a0, .ptr 1 [.i a1], .ptr 1 [.i a2]] (.v (.bool r)) := by
 unfold iC at h
 refine aj.of Tryd.func88 rfl Tryd.ntmps88 (by simp) ?_
 intro F hF h0 hT
 show Sm F _ _ ⟨[(0, .i a0), (1, .d (.ptr 1 [.i a1])), (2, .d (.ptr 1 [.i a2]))], [], 0⟩
 refine sr hF (gv hF oA (sn (sr hF (gv hF (oL (lP1 ag3 rfl)) (gv hF oM (gv hF (oB (pD)) ?_))))))
 rcases dU (decide (a1 ≤ a0)) with hc1 | hc1
 ·replace h := ifT hc1 h
  refine gv hF (am rfl rfl hc1) (gv hF oM (gv hF (oL (lP1 ag3 rfl)) (gv hF (oB (pD)) (gv hF (aw rfl rfl rfl) (gv hF oA (sn (Sm.ret ?_)))))))
  obtain rfl := ae h
  exact bg rfl rfl
 replace h := ifF hc1 h
 refine gv hF (am rfl rfl hc1) (gp hF (gp hF (gp hF (gv hF (ah rfl rfl rfl) (gv hF oA (sn (Sm.ret ?_)))))))
 obtain rfl := ae h
 exact bg rfl rfl
noncomputable def iN (a0 : Int) (a1 : Int) : Option (FnV Tryd.prog HG (α := Int) (β := Bool) (fun x => [.i x]) (fun y => .v (.bool y))) :=
 some (⟨88, [.ptr 1 [.i a0], .ptr 1 [.i a1]], fun x => iC x a0 a1, by kernel_rfl, fun x y h => qZ h⟩ : (FnV Tryd.prog HG (α := Int) (β := Bool) (fun x => [.i x]) (fun y => .v (.bool y))))
set_option maxHeartbeats 4000000 in
theorem ld {a0 : Int} {a1 : Int} {r : (FnV Tryd.prog HG (α := Int) (β := Bool) (fun x => [.i x]) (fun y => .v (.bool y)))} (h : iN a0 a1 = some r) : aj Tryd.prog HG 67 [.i a0, .i a1] (.fn r.g r.c) := by
 unfold iN at h
 refine aj.of Tryd.func67 rfl Tryd.ntmps67 (by simp) ?_
 intro F hF h0 hT
 show Sm F _ _ ⟨[(0, .i a0), (1, .i a1)], [], 0⟩
 refine sr hF ?_
 refine bM hF yZ ?_
 refine bM hF yZ ?_
 refine gv hF oA (sn (sr hF (gv hF (ij rfl rfl) (gv hF oA (sn (Sm.ret ?_))))))
 obtain rfl := ae h
 exact bg rfl rfl
noncomputable def cd (a0 : List Int) (a1 : (FnV Tryd.prog HG (α := Int) (β := Bool) (fun x => [.i x]) (fun y => .v (.bool y)))) (s1 : Int) : Option (Int ⊕ (Unit ⊕ Int)) :=
 bif (decide (s1 < (a0.length : Int))) then (
  ob (idx a0 s1) fun x6 =>
  ob (a1.f x6) fun x7 =>
  bif x7 then (
   some (.inr (.inr s1))
  ) else (
   ob (arI .i64 (s1 + 1)) fun x9 =>
   some (.inl x9)
  )
 ) else (
  some (.inr (.inl ()))
 )
noncomputable def eu (a0 : List Int) (a1 : (FnV Tryd.prog HG (α := Int) (β := Bool) (fun x => [.i x]) (fun y => .v (.bool y)))) : Option Int :=
 ob ((
  bH (cd a0 a1) 0
  : Option (Unit ⊕ Int))) fun o11 => match o11 with
 | .inl v10 => (
  some (-1)
  )
 | .inr e12 => some e12
set_option maxHeartbeats 4000000 in
theorem jY {a0 : List Int} {a1 : (FnV Tryd.prog HG (α := Int) (β := Bool) (fun x => [.i x]) (fun y => .v (.bool y)))} {r : Int} (h : eu a0 a1 = some r) : aj Tryd.prog HG 89 [.l a0, .fn a1.g a1.c] (.i r) := by
 unfold eu at h
 refine aj.of Tryd.func89 rfl Tryd.ntmps89 (by simp) ?_
 intro F hF h0 hT
 show Sm F _ _ ⟨[(0, .l a0), (1, .d (.fn a1.g a1.c))], [], 0⟩
 refine sr hF (gv hF oA (sn (Sm.seq ?_)))
 obtain ⟨o11, ho11, h⟩ := ac h
 rcases nr o11 with ⟨e12, rfl⟩ | ⟨v10, rfl⟩
 ·have he12 := ae h
  subst he12
  replace h := ho11
  refine sr hF (gv hF oM (gv hF (oN (bc u30)) (gv hF oM (sn (Sm.block ?_)))))
  refine bz (cd a0 a1) (fun s1 => ⟨[(0, .l a0), (1, .d (.fn a1.g a1.c)), (7, .i (a0.length : Int)), (8, .i s1)], [], 0⟩) 0 h (kA) ?_
  intro n2 s1 o3 h hd4
  unfold cd at h
  refine sr hF (gv hF (oB (bt)) (sn (Sm.seq ?_)))
  refine aL hF rfl (fun hc5 => ?_) (fun hc5 => ?_)
  ·replace h := ifF hc5 h
   refine Sm.exit ?_
   replace h := aH h hd4
   cases h
  replace h := ifT hc5 h
  refine sk (Sm.seq (Sm.block (sr hF (gv hF oM (gv hF oA (sn (sr hF (gv hF oM ?_))))))))
  refine gv hF oM (gv hF oM ?_)
  obtain ⟨x6, hx6, h⟩ := ac h
  refine gv hF (oI (bI u30 sz3 hx6)) (gv hF (oL (lP1 ag3 rfl)) ?_)
  obtain ⟨x7, hx7, h⟩ := ac h
  refine SmG.callF hF rfl rfl rfl rfl rfl rfl a1.body (a1.ok _ _ hx7) ?_
  refine sn ?_
  refine aL hF rfl (fun hc8 => ?_) (fun hc8 => ?_)
  ·replace h := ifF hc8 h
   refine Sm.skip ?_
   refine ay (aa ?_)
   refine ab hF rfl ?_
   obtain ⟨x9, hx9, h⟩ := ac h
   refine gv hF (oB (bb hx9)) (gv hF oM (SmG.nil ?_))
   exact bC (bn h hd4) (kA)
  replace h := ifT hc8 h
  refine sr hF (gv hF oM (gv hF oA (sn (Sm.ret ?_))))
  replace h := aH h hd4
  replace h := iR h
  obtain rfl := ae h
  exact bg rfl rfl
 refine bj ⟨[], [], 0⟩ ?_ ?_
 ·refine Sm.seq ?_
  refine ab hF rfl ?_
  refine gv hF oA (sn (Sm.ret ?_))
  obtain rfl := ae h
  exact bg rfl rfl
 replace h := ho11
 refine sr hF (gv hF oM (gv hF (oN (bc u30)) (gv hF oM (sn (Sm.block ?_)))))
 refine bz (cd a0 a1) (fun s1 => ⟨[(0, .l a0), (1, .d (.fn a1.g a1.c)), (7, .i (a0.length : Int)), (8, .i s1)], [], 0⟩) 0 h (kA) ?_
 intro n2 s1 o3 h hd4
 unfold cd at h
 refine sr hF (gv hF (oB (bt)) (sn (Sm.seq ?_)))
 refine aL hF rfl (fun hc5 => ?_) (fun hc5 => ?_)
 ·replace h := ifF hc5 h
  refine Sm.exit ?_
  replace h := aH h hd4
  obtain rfl := ae (ip h)
  exact (kA)
 replace h := ifT hc5 h
 refine sk (Sm.seq (Sm.block (sr hF (gv hF oM (gv hF oA (sn (sr hF (gv hF oM ?_))))))))
 refine gv hF oM (gv hF oM ?_)
 obtain ⟨x6, hx6, h⟩ := ac h
 refine gv hF (oI (bI u30 sz3 hx6)) (gv hF (oL (lP1 ag3 rfl)) ?_)
 obtain ⟨x7, hx7, h⟩ := ac h
 refine SmG.callF hF rfl rfl rfl rfl rfl rfl a1.body (a1.ok _ _ hx7) ?_
 refine sn ?_
 refine bu hF rfl (fun hc8 => ?_) (fun hc8 => ?_)
 ·replace h := ifT hc8 h
  refine sr hF (gv hF oM (gv hF oA (sn (Sm.ret ?_))))
  replace h := aH h hd4
  cases h
 replace h := ifF hc8 h
 refine Sm.skip ?_
 refine ay (aa ?_)
 refine ab hF rfl ?_
 obtain ⟨x9, hx9, h⟩ := ac h
 refine gv hF (oB (bb hx9)) (gv hF oM (SmG.nil ?_))
 exact bC (bn h hd4) (kA)
noncomputable def cL (a0 : List Int) (a1 : (FnV Tryd.prog HG (α := Int) (β := Bool) (fun x => [.i x]) (fun y => .v (.bool y)))) : Option Bool :=
 ob (eu a0 a1) fun x1 =>
 some (decide (0 ≤ x1))
set_option maxHeartbeats 4000000 in
theorem js {a0 : List Int} {a1 : (FnV Tryd.prog HG (α := Int) (β := Bool) (fun x => [.i x]) (fun y => .v (.bool y)))} {r : Bool} (h : cL a0 a1 = some r) : aj Tryd.prog HG 69 [.l a0, .fn a1.g a1.c] (.v (.bool r)) := by
 unfold cL at h
 refine aj.of Tryd.func69 rfl Tryd.ntmps69 (by simp) ?_
 intro F hF h0 hT
 show Sm F _ _ ⟨[(0, .l a0), (1, .d (.fn a1.g a1.c))], [], 0⟩
 refine sr hF (gv hF oA (sn (sr hF (gv hF oM (gv hF oM ?_)))))
 obtain ⟨x1, hx1, h⟩ := ac h
 refine cS hF (jY hx1) ?_
 refine gv hF (oB (kE)) (gv hF oA (sn (Sm.ret ?_)))
 obtain rfl := ae h
 exact bg rfl rfl
noncomputable def fH (a0 : Int) (a1 : (FnV Tryd.prog HG (α := Int) (β := Bool) (fun x => [.i x]) (fun y => .v (.bool y)))) : Option Bool :=
 ob (a1.f a0) fun x1 =>
 some (!x1)
set_option maxHeartbeats 4000000 in
theorem nj {a0 : Int} {a1 : (FnV Tryd.prog HG (α := Int) (β := Bool) (fun x => [.i x]) (fun y => .v (.bool y)))} {r : Bool} (h : fH a0 a1 = some r) : aj Tryd.prog HG 70 [.i a0, .ptr 1 [.fn a1.g a1.c]] (.v (.bool r)) := by
 unfold fH at h
 refine aj.of Tryd.func70 rfl Tryd.ntmps70 (by simp) ?_
 intro F hF h0 hT
 show Sm F _ _ ⟨[(0, .i a0), (1, .d (.ptr 1 [.fn a1.g a1.c]))], [], 0⟩
 refine sr hF (gv hF oA (sn (sr hF (gv hF (oL (lP1 sM rfl)) (gv hF oM ?_)))))
 obtain ⟨x1, hx1, h⟩ := ac h
 refine SmG.callF hF rfl rfl rfl rfl rfl rfl a1.body (a1.ok _ _ hx1) ?_
 refine gv hF (iG rfl rfl (iW _)) (gv hF oA (sn (Sm.ret ?_)))
 obtain rfl := ae h
 exact bg rfl rfl
noncomputable def eN (a0 : List Int) (a1 : (FnV Tryd.prog HG (α := Int) (β := Bool) (fun x => [.i x]) (fun y => .v (.bool y)))) : Option Bool :=
 bif (decide ((a0.length : Int) ≤ 255)) then (
  ob (cL a0 (⟨70, [.ptr 1 [.fn a1.g a1.c]], fun x => fH x a1, by kernel_rfl, fun x y h => nj h⟩ : (FnV Tryd.prog HG (α := Int) (β := Bool) (fun x => [.i x]) (fun y => .v (.bool y))))) fun x2 =>
  some (!x2)
 ) else (
  some false
 )
set_option maxHeartbeats 4000000 in
theorem jc {a0 : List Int} {a1 : (FnV Tryd.prog HG (α := Int) (β := Bool) (fun x => [.i x]) (fun y => .v (.bool y)))} {r : Bool} (h : eN a0 a1 = some r) : aj Tryd.prog HG 68 [.l a0, .ptr 1 [.fn a1.g a1.c]] (.v (.bool r)) := by
 unfold eN at h
 refine aj.of Tryd.func68 rfl Tryd.ntmps68 (by simp) ?_
 intro F hF h0 hT
 show Sm F _ _ ⟨[(0, .l a0), (1, .d (.ptr 1 [.fn a1.g a1.c]))], [], 0⟩
 refine sr hF (gv hF oA (sn (sr hF (gv hF oM (gv hF (oN (bc u30)) (gv hF (oB (pD)) ?_))))))
 rcases bG (decide ((a0.length : Int) ≤ 255)) with hc1 | hc1
 ·replace h := ifF hc1 h
  refine gv hF (am rfl rfl hc1) (gp hF (gp hF (gp hF (gp hF (gv hF (ah rfl rfl rfl) (gv hF oA (sn (Sm.ret ?_))))))))
  obtain rfl := ae h
  exact bg rfl rfl
 replace h := ifT hc1 h
 refine gv hF (am rfl rfl hc1) (gv hF oM (gv hF (ij rfl rfl) ?_))
 obtain ⟨x2, hx2, h⟩ := ac h
 refine cS hF (js hx2) ?_
 refine gv hF (iG rfl rfl (iW _)) (gv hF (aw rfl rfl rfl) (gv hF oA (sn (Sm.ret ?_))))
 obtain rfl := ae h
 exact bg rfl rfl
noncomputable def gY (a0 : Ps) (a1 : Rs) : Option Bool :=
 ob (iN 0 255) fun x1 =>
 ob (eN a0.at_ x1) fun x2 =>
 bif x2 then (
  ob (eN a0.h0 x1) fun x4 =>
  bif x4 then (
   ob (eN a0.h1 x1) fun x6 =>
   bif x6 then (
    ob (x1.f a0.rights) fun x8 =>
    bif x8 then (
     ob (x1.f a0.side) fun x10 =>
     bif x10 then (
      ob (iN 1 3) fun x12 =>
      ob (x12.f a1.out) fun x13 =>
      bif x13 then (
       ob (iN 0 2147483647) fun x15 =>
       ob (x15.f a1.n) fun x16 =>
       some x16
      ) else (
       some false
      )
     ) else (
      some false
     )
    ) else (
     some false
    )
   ) else (
    some false
   )
  ) else (
   some false
  )
 ) else (
  some false
 )
set_option maxHeartbeats 4000000 in
theorem qj {a0 : Ps} {a1 : Rs} {r : Bool} (h : gY a0 a1 = some r) : aj Tryd.prog HG 44 [.agg 5 (Ps.row a0), .agg 2 (Rs.row a1)] (.v (.bool r)) := by
 unfold gY at h
 refine aj.of Tryd.func44 rfl Tryd.ntmps44 (by simp) ?_
 intro F hF h0 hT
 show Sm F _ _ ⟨[(0, .d (.agg 5 (Ps.row a0))), (1, .d (.agg 2 (Rs.row a1)))], [], 0⟩
 refine sr hF ?_
 refine bM hF fa ?_
 refine bM hF fa ?_
 refine gv hF oA (sn (sr hF ?_))
 obtain ⟨x1, hx1, h⟩ := ac h
 refine cS hF (ld hx1) ?_
 refine SmG.new hF rfl rfl rfl (aI rfl Eo) ?_
 refine SmG.store hF rfl rfl rfl rfl rfl (cY (rows' := [[.d (.fn x1.g x1.c)]]) rfl rfl rfl zo rfl rfl rfl) ?_
 refine sn (sr hF ?_)
 refine dQ (aS (kA (e := [(2, .d (.ptr 5 (Ps.row a0))), (3, .d (.ptr 2 (Rs.row a1))), (5, .ref 0 0 0)]) (g := [(0, ⟨1, [[.d (.fn x1.g x1.c)]]⟩)]) (m := 1)) (fA (l := 0) (sz := 1) (e := [(2, .d (.ptr 5 (Ps.row a0))), (3, .d (.ptr 2 (Rs.row a1))), (5, .d (.ptr 1 [.fn x1.g x1.c]))]) (g := []) (nx := 1) [[.fn x1.g x1.c]])) rfl ?_
 refine gv hF (ij rfl rfl) (gv hF oA (sn (Sm.seq ?_)))
 refine dG hF 40 ?_
 refine hv hF oM (hv hF (oF (ag jq rfl)) (hv hF (oL (lP1 dz rfl)) ?_))
 obtain ⟨x2, hx2, h⟩ := ac h
 refine lK hF rfl rfl rfl rfl rfl rfl (by kernel_rfl) (jc hx2) ?_
 rcases bG x2 with hc3 | hc3
 ·replace h := ifF hc3 h
  refine hv hF (am rfl rfl hc3) (hp hF (hp hF (hp hF (hp hF (hp hF (hv hF (ah rfl rfl rfl) (hv hF oM (hp hF ?_))))))))
  refine hp hF (hp hF (hp hF (hp hF (hv hF (ah rfl rfl rfl) (hv hF oM (hp hF (hp hF (hp hF ?_))))))))
  refine hp hF (hv hF (ah rfl rfl rfl) (hv hF oM (hp hF (hp hF (hp hF (hp hF (hv hF (ah rfl rfl rfl) (hv hF oM ?_))))))))
  refine hp hF (hp hF (hp hF (hp hF (hv hF (ah rfl rfl rfl) (hv hF oM (hp hF (hp hF (hp hF ?_))))))))
  refine hE ?_
  refine gp hF (gv hF (ah rfl rfl rfl) (gv hF oA (sn (Sm.ret ?_))))
  obtain rfl := ae h
  exact bg rfl rfl
 replace h := ifT hc3 h
 refine hv hF (am rfl rfl hc3) (hv hF oM (hv hF (oF (ag dN rfl)) (hv hF (oI (cF u31 dY rfl rfl)) (hv hF (oL (lP1 dz rfl)) ?_))))
 obtain ⟨x4, hx4, h⟩ := ac h
 refine lK hF rfl rfl rfl rfl rfl rfl (by kernel_rfl) (jc hx4) ?_
 refine hv hF (aw rfl rfl rfl) ?_
 rcases bG x4 with hc5 | hc5
 ·replace h := ifF hc5 h
  refine hv hF (am rfl rfl hc5) (hp hF (hp hF (hp hF (hp hF (hp hF (hv hF (ah rfl rfl rfl) (hv hF oM (hp hF ?_))))))))
  refine hp hF (hp hF (hp hF (hv hF (ah rfl rfl rfl) (hv hF oM (hp hF (hp hF (hp hF (hp hF ?_))))))))
  refine hv hF (ah rfl rfl rfl) (hv hF oM (hp hF (hp hF (hp hF (hp hF (hv hF (ah rfl rfl rfl) (hv hF oM (hp hF ?_))))))))
  refine hp hF (hp hF ?_)
  refine hE ?_
  refine gp hF (gv hF (ah rfl rfl rfl) (gv hF oA (sn (Sm.ret ?_))))
  obtain rfl := ae h
  exact bg rfl rfl
 replace h := ifT hc5 h
 refine hv hF (am rfl rfl hc5) (hv hF oM (hv hF (oF (ag dN rfl)) (hv hF (oI (cF u31 dY rfl rfl)) (hv hF (oL (lP1 dz rfl)) ?_))))
 obtain ⟨x6, hx6, h⟩ := ac h
 refine lK hF rfl rfl rfl rfl rfl rfl (by kernel_rfl) (jc hx6) ?_
 refine hv hF (aw rfl rfl rfl) ?_
 rcases bG x6 with hc7 | hc7
 ·replace h := ifF hc7 h
  refine hv hF (am rfl rfl hc7) (hp hF (hp hF (hp hF (hp hF (hv hF (ah rfl rfl rfl) (hv hF oM (hp hF (hp hF ?_))))))))
  refine hp hF (hp hF (hv hF (ah rfl rfl rfl) (hv hF oM (hp hF (hp hF (hp hF (hp hF (hv hF (ah rfl rfl rfl) ?_))))))))
  refine hv hF oM (hp hF (hp hF (hp hF ?_)))
  refine hE ?_
  refine gp hF (gv hF (ah rfl rfl rfl) (gv hF oA (sn (Sm.ret ?_))))
  obtain rfl := ae h
  exact bg rfl rfl
 replace h := ifT hc7 h
 refine hv hF (am rfl rfl hc7) (hv hF (oL (lP1 sM rfl)) (hv hF (oF (ag oG rfl)) (hv hF (oL (lP1 ag3 rfl)) ?_)))
 obtain ⟨x8, hx8, h⟩ := ac h
 refine lK hF rfl rfl rfl rfl rfl rfl x1.body (x1.ok _ _ hx8) ?_
 refine hv hF (aw rfl rfl rfl) ?_
 rcases bG x8 with hc9 | hc9
 ·replace h := ifF hc9 h
  refine hv hF (am rfl rfl hc9) (hp hF (hp hF (hp hF (hp hF (hv hF (ah rfl rfl rfl) (hv hF oM (hp hF (hp hF ?_))))))))
  refine hp hF (hp hF (hv hF (ah rfl rfl rfl) (hv hF oM (hp hF (hp hF (hp hF ?_))))))
  refine hE ?_
  refine gp hF (gv hF (ah rfl rfl rfl) (gv hF oA (sn (Sm.ret ?_))))
  obtain rfl := ae h
  exact bg rfl rfl
 replace h := ifT hc9 h
 refine hv hF (am rfl rfl hc9) (hv hF (oL (lP1 sM rfl)) (hv hF (oF (ag oX rfl)) (hv hF (oL (lP1 ag3 rfl)) ?_)))
 obtain ⟨x10, hx10, h⟩ := ac h
 refine lK hF rfl rfl rfl rfl rfl rfl x1.body (x1.ok _ _ hx10) ?_
 refine hv hF (aw rfl rfl rfl) ?_
 rcases bG x10 with hc11 | hc11
 ·replace h := ifF hc11 h
  refine hv hF (am rfl rfl hc11) (hp hF (hp hF (hp hF (hp hF (hv hF (ah rfl rfl rfl) (hv hF oM (hp hF (hp hF ?_))))))))
  refine hp hF ?_
  refine hE ?_
  refine gp hF (gv hF (ah rfl rfl rfl) (gv hF oA (sn (Sm.ret ?_))))
  obtain rfl := ae h
  exact bg rfl rfl
 replace h := ifT hc11 h
 refine hv hF (am rfl rfl hc11) ?_
 obtain ⟨x12, hx12, h⟩ := ac h
 refine cH hF (ld hx12) ?_
 refine hv hF (oF (ag pd rfl)) (hv hF (oL (lP1 ag3 rfl)) ?_)
 obtain ⟨x13, hx13, h⟩ := ac h
 refine lK hF rfl rfl rfl rfl rfl rfl x12.body (x12.ok _ _ hx13) ?_
 refine hv hF (aw rfl rfl rfl) ?_
 rcases bG x13 with hc14 | hc14
 ·replace h := ifF hc14 h
  refine hv hF (am rfl rfl hc14) (hp hF (hp hF (hp hF ?_)))
  refine hE ?_
  refine gp hF (gv hF (ah rfl rfl rfl) (gv hF oA (sn (Sm.ret ?_))))
  obtain rfl := ae h
  exact bg rfl rfl
 replace h := ifT hc14 h
 refine hv hF (am rfl rfl hc14) ?_
 obtain ⟨x15, hx15, h⟩ := ac h
 refine cH hF (ld hx15) ?_
 refine hv hF (oF (ag lc rfl)) (hv hF (oL (lP1 ag3 rfl)) ?_)
 refine hE ?_
 obtain ⟨x16, hx16, h⟩ := ac h
 refine SmG.callF hF rfl rfl rfl rfl rfl rfl x15.body (x15.ok _ _ hx16) ?_
 refine gv hF (aw rfl rfl rfl) (gv hF oA (sn (Sm.ret ?_)))
 obtain rfl := ae h
 exact bg rfl rfl
noncomputable def gr (a0 : Ans) (a1 : Int) : Option Bool :=
 some (a0.version == a1)
set_option maxHeartbeats 4000000 in
theorem kO {a0 : Ans} {a1 : Int} {r : Bool} (h : gr a0 a1 = some r) : aj Tryd.prog HG 42 [.ptr 11 (Ans.row a0), .ptr 1 [.i a1]] (.v (.bool r)) := by
 unfold gr at h
 refine aj.of Tryd.func42 rfl Tryd.ntmps42 (by simp) ?_
 intro F hF h0 hT
 show Sm F _ _ ⟨[(0, .d (.ptr 11 (Ans.row a0))), (1, .d (.ptr 1 [.i a1]))], [], 0⟩
 refine sr hF (gv hF oA (sn (sr hF (gv hF (oF (ag gN rfl)) (gv hF (oL (lP1 ag3 rfl)) (gv hF (oL (lP1 ag3 rfl)) (gv hF (oB (cM)) (gv hF oA ?_))))))))
 refine sn (Sm.ret ?_)
 obtain rfl := ae h
 exact bg rfl rfl
noncomputable def fp (a0 : Ans) : Option Bool :=
 ob (gY a0.pos a0.entry) fun x1 =>
 some x1
set_option maxHeartbeats 4000000 in
theorem kS {a0 : Ans} {r : Bool} (h : fp a0 = some r) : aj Tryd.prog HG 43 [.ptr 11 (Ans.row a0)] (.v (.bool r)) := by
 unfold fp at h
 refine aj.of Tryd.func43 rfl Tryd.ntmps43 (by simp) ?_
 intro F hF h0 hT
 show Sm F _ _ ⟨[(0, .d (.ptr 11 (Ans.row a0)))], [], 0⟩
 refine sr hF (gv hF oA (sn (sr hF (gv hF (oF (ag i6 rfl)) (gv hF (x := .d (.agg 5 [.l a0.pos.at_, .l a0.pos.h0, .l a0.pos.h1, .i a0.pos.rights, .i a0.pos.side])) (oL (bX fq dg rfl rfl)) (gv hF (oF (ag kN rfl)) (gv hF (x := .d (.agg 2 [.i a0.entry.out, .i a0.entry.n])) (oL (bX iS fb rfl rfl)) ?_)))))))
 obtain ⟨x1, hx1, h⟩ := ac h
 refine cS hF (qj hx1) ?_
 refine gv hF oA (sn (Sm.ret ?_))
 obtain rfl := ae h
 exact bg rfl rfl
noncomputable def ft (a0 : List UInt8) (a1 : Ans) : Option Bool :=
 ob (fm a1.pos a1.entry) fun x1 =>
 ob (jW a0 a1.count a1.index x1 a1.proof) fun x2 =>
 some x2
set_option maxHeartbeats 4000000 in
theorem kP {a0 : List UInt8} {a1 : Ans} {r : Bool} (h : ft a0 a1 = some r) : aj Tryd.prog HG 45 [.ptr 32 (aK a0), .ptr 11 (Ans.row a1)] (.v (.bool r)) := by
 unfold ft at h
 refine aj.of Tryd.func45 rfl Tryd.ntmps45 (by simp) ?_
 intro F hF h0 hT
 show Sm F _ _ ⟨[(0, .d (.ptr 32 (aK a0))), (1, .d (.ptr 11 (Ans.row a1)))], [], 0⟩
 refine sr hF (gv hF oA (sn (Sm.seq ?_)))
 refine dG hF 12 ?_
 refine hv hF (x := .d (.agg 32 (aK a0))) (oL (bX jA iw rfl rfl)) (hv hF (oF (ag nf rfl)) (hv hF (oL (lP1 ag3 rfl)) (hv hF (oF (ag oP rfl)) (hv hF (oL (lP1 ag3 rfl)) (hv hF (oF (ag i6 rfl)) (hv hF (x := .d (.agg 5 [.l a1.pos.at_, .l a1.pos.h0, .l a1.pos.h1, .i a1.pos.rights, .i a1.pos.side])) (oL (bX fq dg rfl rfl)) (hv hF (oF (ag kN rfl)) (hv hF (x := .d (.agg 2 [.i a1.entry.out, .i a1.entry.n])) (oL (bX iS fb rfl rfl)) ?_))))))))
 obtain ⟨x1, hx1, h⟩ := ac h
 refine cH hF (iU hx1) ?_
 refine hv hF (oF (ag nd rfl)) (hv hF (oL (lP1 ot rfl)) ?_)
 refine hE ?_
 obtain ⟨x2, hx2, h⟩ := ac h
 refine cS hF (rB hx2) ?_
 refine gv hF oA (sn (Sm.ret ?_))
 obtain rfl := ae h
 exact bg rfl rfl
noncomputable def gq (a0 : (FnV Tryd.prog HG (α := Unit) (β := Bool) (fun x => []) (fun y => .v (.bool y)))) : Option Bool :=
 ob (a0.f ()) fun x1 =>
 some (!x1)
set_option maxHeartbeats 4000000 in
theorem pj {a0 : (FnV Tryd.prog HG (α := Unit) (β := Bool) (fun x => []) (fun y => .v (.bool y)))} {r : Bool} (h : gq a0 = some r) : aj Tryd.prog HG 48 [.fn a0.g a0.c] (.v (.bool r)) := by
 unfold gq at h
 refine aj.of Tryd.func48 rfl Tryd.ntmps48 (by simp) ?_
 intro F hF h0 hT
 show Sm F _ _ ⟨[(0, .d (.fn a0.g a0.c))], [], 0⟩
 refine sr hF (gv hF oA (sn (sr hF (gv hF oM ?_))))
 obtain ⟨x1, hx1, h⟩ := ac h
 refine SmG.callF hF rfl rfl rfl rfl rfl rfl a0.body (a0.ok _ _ hx1) ?_
 refine gv hF (iG rfl rfl (iW _)) (gv hF oA (sn (Sm.ret ?_)))
 obtain rfl := ae h
 exact bg rfl rfl
noncomputable def bw (a0 : List (FnV Tryd.prog HG (α := Unit) (β := Bool) (fun x => []) (fun y => .v (.bool y)))) (a1 : (FnV Tryd.prog HG (α := (FnV Tryd.prog HG (α := Unit) (β := Bool) (fun x => []) (fun y => .v (.bool y)))) (β := Bool) (fun x => [.fn x.g x.c]) (fun y => .v (.bool y)))) (s1 : Int) : Option (Int ⊕ (Unit ⊕ Int)) :=
 bif (decide (s1 < (a0.length : Int))) then (
  ob (idx a0 s1) fun x6 =>
  ob (a1.f x6) fun x7 =>
  bif x7 then (
   some (.inr (.inr s1))
  ) else (
   ob (arI .i64 (s1 + 1)) fun x9 =>
   some (.inl x9)
  )
 ) else (
  some (.inr (.inl ()))
 )
noncomputable def cz (a0 : List (FnV Tryd.prog HG (α := Unit) (β := Bool) (fun x => []) (fun y => .v (.bool y)))) (a1 : (FnV Tryd.prog HG (α := (FnV Tryd.prog HG (α := Unit) (β := Bool) (fun x => []) (fun y => .v (.bool y)))) (β := Bool) (fun x => [.fn x.g x.c]) (fun y => .v (.bool y)))) : Option Int :=
 ob ((
  bH (bw a0 a1) 0
  : Option (Unit ⊕ Int))) fun o11 => match o11 with
 | .inl v10 => (
  some (-1)
  )
 | .inr e12 => some e12
set_option maxHeartbeats 4000000 in
theorem ib {a0 : List (FnV Tryd.prog HG (α := Unit) (β := Bool) (fun x => []) (fun y => .v (.bool y)))} {a1 : (FnV Tryd.prog HG (α := (FnV Tryd.prog HG (α := Unit) (β := Bool) (fun x => []) (fun y => .v (.bool y)))) (β := Bool) (fun x => [.fn x.g x.c]) (fun y => .v (.bool y)))} {r : Int} (h : cz a0 a1 = some r) : aj Tryd.prog HG 72 [.list 1 (a0.map FnV.row) false, .fn a1.g a1.c] (.i r) := by
 unfold cz at h
 refine aj.of Tryd.func72 rfl Tryd.ntmps72 (by simp) ?_
 intro F hF h0 hT
 show Sm F _ _ ⟨[(0, .d (.list 1 (a0.map FnV.row) false)), (1, .d (.fn a1.g a1.c))], [], 0⟩
 refine sr hF (gv hF oA (sn (Sm.seq ?_)))
 obtain ⟨o11, ho11, h⟩ := ac h
 rcases nr o11 with ⟨e12, rfl⟩ | ⟨v10, rfl⟩
 ·have he12 := ae h
  subst he12
  replace h := ho11
  refine sr hF (gv hF oM (gv hF (oN (bc t6)) (gv hF oM (sn (Sm.block ?_)))))
  refine bz (bw a0 a1) (fun s1 => ⟨[(0, .d (.list 1 (a0.map FnV.row) false)), (1, .d (.fn a1.g a1.c)), (7, .i (a0.length : Int)), (8, .i s1)], [], 0⟩) 0 h (kA) ?_
  intro n2 s1 o3 h hd4
  unfold bw at h
  refine sr hF (gv hF (oB (bt)) (sn (Sm.seq ?_)))
  refine aL hF rfl (fun hc5 => ?_) (fun hc5 => ?_)
  ·replace h := ifF hc5 h
   refine Sm.exit ?_
   replace h := aH h hd4
   cases h
  replace h := ifT hc5 h
  refine sk (Sm.seq (Sm.block (sr hF (gv hF oM (gv hF oA (sn (sr hF (gv hF oM ?_))))))))
  refine gv hF oM (gv hF oM ?_)
  obtain ⟨x6, hx6, h⟩ := ac h
  refine gv hF (oI (bI t6 vV hx6)) (gv hF (oL (lP1 yw rfl)) ?_)
  obtain ⟨x7, hx7, h⟩ := ac h
  refine SmG.callF hF rfl rfl rfl rfl rfl rfl a1.body (a1.ok _ _ hx7) ?_
  refine sn ?_
  refine aL hF rfl (fun hc8 => ?_) (fun hc8 => ?_)
  ·replace h := ifF hc8 h
   refine Sm.skip ?_
   refine ay (aa ?_)
   refine ab hF rfl ?_
   obtain ⟨x9, hx9, h⟩ := ac h
   refine gv hF (oB (bb hx9)) (gv hF oM (SmG.nil ?_))
   exact bC (bn h hd4) (kA)
  replace h := ifT hc8 h
  refine sr hF (gv hF oM (gv hF oA (sn (Sm.ret ?_))))
  replace h := aH h hd4
  replace h := iR h
  obtain rfl := ae h
  exact bg rfl rfl
 refine bj ⟨[], [], 0⟩ ?_ ?_
 ·refine Sm.seq ?_
  refine ab hF rfl ?_
  refine gv hF oA (sn (Sm.ret ?_))
  obtain rfl := ae h
  exact bg rfl rfl
 replace h := ho11
 refine sr hF (gv hF oM (gv hF (oN (bc t6)) (gv hF oM (sn (Sm.block ?_)))))
 refine bz (bw a0 a1) (fun s1 => ⟨[(0, .d (.list 1 (a0.map FnV.row) false)), (1, .d (.fn a1.g a1.c)), (7, .i (a0.length : Int)), (8, .i s1)], [], 0⟩) 0 h (kA) ?_
 intro n2 s1 o3 h hd4
 unfold bw at h
 refine sr hF (gv hF (oB (bt)) (sn (Sm.seq ?_)))
 refine aL hF rfl (fun hc5 => ?_) (fun hc5 => ?_)
 ·replace h := ifF hc5 h
  refine Sm.exit ?_
  replace h := aH h hd4
  obtain rfl := ae (ip h)
  exact (kA)
 replace h := ifT hc5 h
 refine sk (Sm.seq (Sm.block (sr hF (gv hF oM (gv hF oA (sn (sr hF (gv hF oM ?_))))))))
 refine gv hF oM (gv hF oM ?_)
 obtain ⟨x6, hx6, h⟩ := ac h
 refine gv hF (oI (bI t6 vV hx6)) (gv hF (oL (lP1 yw rfl)) ?_)
 obtain ⟨x7, hx7, h⟩ := ac h
 refine SmG.callF hF rfl rfl rfl rfl rfl rfl a1.body (a1.ok _ _ hx7) ?_
 refine sn ?_
 refine bu hF rfl (fun hc8 => ?_) (fun hc8 => ?_)
 ·replace h := ifT hc8 h
  refine sr hF (gv hF oM (gv hF oA (sn (Sm.ret ?_))))
  replace h := aH h hd4
  cases h
 replace h := ifF hc8 h
 refine Sm.skip ?_
 refine ay (aa ?_)
 refine ab hF rfl ?_
 obtain ⟨x9, hx9, h⟩ := ac h
 refine gv hF (oB (bb hx9)) (gv hF oM (SmG.nil ?_))
 exact bC (bn h hd4) (kA)
noncomputable def bQ (a0 : List (FnV Tryd.prog HG (α := Unit) (β := Bool) (fun x => []) (fun y => .v (.bool y)))) (a1 : (FnV Tryd.prog HG (α := (FnV Tryd.prog HG (α := Unit) (β := Bool) (fun x => []) (fun y => .v (.bool y)))) (β := Bool) (fun x => [.fn x.g x.c]) (fun y => .v (.bool y)))) : Option Bool :=
 ob (cz a0 a1) fun x1 =>
 some (decide (0 ≤ x1))
set_option maxHeartbeats 4000000 in
theorem gJ {a0 : List (FnV Tryd.prog HG (α := Unit) (β := Bool) (fun x => []) (fun y => .v (.bool y)))} {a1 : (FnV Tryd.prog HG (α := (FnV Tryd.prog HG (α := Unit) (β := Bool) (fun x => []) (fun y => .v (.bool y)))) (β := Bool) (fun x => [.fn x.g x.c]) (fun y => .v (.bool y)))} {r : Bool} (h : bQ a0 a1 = some r) : aj Tryd.prog HG 47 [.list 1 (a0.map FnV.row) false, .fn a1.g a1.c] (.v (.bool r)) := by
 unfold bQ at h
 refine aj.of Tryd.func47 rfl Tryd.ntmps47 (by simp) ?_
 intro F hF h0 hT
 show Sm F _ _ ⟨[(0, .d (.list 1 (a0.map FnV.row) false)), (1, .d (.fn a1.g a1.c))], [], 0⟩
 refine sr hF (gv hF oA (sn (sr hF (gv hF oM (gv hF oM ?_)))))
 obtain ⟨x1, hx1, h⟩ := ac h
 refine cS hF (ib hx1) ?_
 refine gv hF (oB (kE)) (gv hF oA (sn (Sm.ret ?_)))
 obtain rfl := ae h
 exact bg rfl rfl
noncomputable def ek (a0 : List UInt8) (a1 : Int) (a2 : Ans) : Option Bool :=
 ob (bQ ([(⟨42, [.ptr 11 (Ans.row a2), .ptr 1 [.i a1]], fun x => gr  a2 a1, by kernel_rfl, fun x y h => kO h⟩ : (FnV Tryd.prog HG (α := Unit) (β := Bool) (fun x => []) (fun y => .v (.bool y)))), (⟨43, [.ptr 11 (Ans.row a2)], fun x => fp  a2, by kernel_rfl, fun x y h => kS h⟩ : (FnV Tryd.prog HG (α := Unit) (β := Bool) (fun x => []) (fun y => .v (.bool y)))), (⟨45, [.ptr 32 (aK a0), .ptr 11 (Ans.row a2)], fun x => ft  a0 a2, by kernel_rfl, fun x y h => kP h⟩ : (FnV Tryd.prog HG (α := Unit) (β := Bool) (fun x => []) (fun y => .v (.bool y))))]) (⟨48, [], fun x => gq x , by kernel_rfl, fun x y h => pj h⟩ : (FnV Tryd.prog HG (α := (FnV Tryd.prog HG (α := Unit) (β := Bool) (fun x => []) (fun y => .v (.bool y)))) (β := Bool) (fun x => [.fn x.g x.c]) (fun y => .v (.bool y))))) fun x1 =>
 some (!x1)
set_option maxHeartbeats 4000000 in
theorem fu {a0 : List UInt8} {a1 : Int} {a2 : Ans} {r : Bool} (h : ek a0 a1 a2 = some r) : aj Tryd.prog HG 18 [.agg 32 (aK a0), .i a1, .agg 11 (Ans.row a2)] (.v (.bool r)) := by
 unfold ek at h
 refine aj.of Tryd.func18 rfl Tryd.ntmps18 (by simp) ?_
 intro F hF h0 hT
 show Sm F _ _ ⟨[(0, .d (.agg 32 (aK a0))), (1, .i a1), (2, .d (.agg 11 (Ans.row a2)))], [], 0⟩
 refine sr hF ?_
 refine bM hF fa ?_
 refine bM hF yZ ?_
 refine bM hF fa ?_
 refine gv hF oA (sn (sr hF (gv hF (ij rfl rfl) (gv hF (ij rfl rfl) (gv hF (ij rfl rfl) (gv hF (x := .d (.list 1 ([(⟨42, [.ptr 11 (Ans.row a2), .ptr 1 [.i a1]], fun x => gr  a2 a1, by kernel_rfl, fun x y h => kO h⟩ : (FnV Tryd.prog HG (α := Unit) (β := Bool) (fun x => []) (fun y => .v (.bool y)))), (⟨43, [.ptr 11 (Ans.row a2)], fun x => fp  a2, by kernel_rfl, fun x y h => kS h⟩ : (FnV Tryd.prog HG (α := Unit) (β := Bool) (fun x => []) (fun y => .v (.bool y)))), (⟨45, [.ptr 32 (aK a0), .ptr 11 (Ans.row a2)], fun x => ft  a0 a2, by kernel_rfl, fun x y h => kP h⟩ : (FnV Tryd.prog HG (α := Unit) (β := Bool) (fun x => []) (fun y => .v (.bool y))))].map FnV.row) true)) (oS (aB t6 vV Ir rfl rfl (PartsQ.cons rfl (PartsQ.cons rfl (PartsQ.cons rfl (PartsQ.nil _)))) rfl)) (gv hF oA (sn ?_))))))))
 refine sr hF (gv hF oM ?_)
 obtain ⟨x1, hx1, h⟩ := ac h
 refine SmG.call hF rfl rfl (by kernel_rfl) rfl rfl rfl (aj.args (gJ hx1) (fun C => (oE (oE (fun _ h => h))))) ?_
 refine gv hF (iG rfl rfl (iW _)) (gv hF oA (sn (Sm.ret ?_)))
 obtain rfl := ae h
 exact bg rfl rfl
end
section
open Go.RowKit
set_option maxRecDepth 100000
noncomputable def ff : Option Bool :=
 ob (fm (⟨[1, 0], [2], [0], 1, 0⟩ : Ps) (⟨1, 258⟩ : Rs)) fun x1 =>
 ob (cT ([(⟨[1, 0], [2], [0], 1, 0⟩ : Ps)]) [(⟨1, 258⟩ : Rs)] 7 0) fun x2 =>
 ob (cT ([(⟨[1, 0], [2], [0], 1, 0⟩ : Ps)]) [] 7 0) fun x3 =>
 ob (cT ([(⟨[1, 0], [2], [0], 1, 0⟩ : Ps)]) [(⟨1, 258⟩ : Rs)] 7 1) fun x4 =>
 ob (fk ([(⟨[1, 0], [2], [0], 1, 0⟩ : Ps)]) [(⟨1, 258⟩ : Rs)]) fun x5 =>
 ob (vN 32 x5) fun x6 =>
 bif (x2.2 == 0) then (
  bif (x3.2 == 1) then (
   bif (x4.2 == 1) then (
    bif (x1 == ([2, 1, 1, 1, 0, 2, 0, 1, 0, 1, 0, 0, 1, 2] : List UInt8)) then (
     bif ((x2.1.proof.length : Int) == 0) then (
      bif (x2.1.count == 1) then (
       ob (dh (⟨[1, 0], [2], [0], 1, 0⟩ : Ps) (⟨1, 258⟩ : Rs)) fun x13 =>
       ob (gG x13) fun x14 =>
       ob (vN 32 x5) fun x15 =>
       ob (vN 32 x14) fun x16 =>
       bif (x5 == x14) then (
        ob (ek x5 7 x2.1) fun x18 =>
        bif x18 then (
         ob (ek x5 8 x2.1) fun x20 =>
         bif (!x20) then (
          ob (ek (List.replicate 32 0) 7 x2.1) fun x22 =>
          some (!x22)
         ) else (
          some false
         )
        ) else (
         some false
        )
       ) else (
        some false
       )
      ) else (
       some false
      )
     ) else (
      some false
     )
    ) else (
     some false
    )
   ) else (
    some false
   )
  ) else (
   some false
  )
 ) else (
  some false
 )
set_option maxHeartbeats 4000000 in
theorem mG {r : Bool} (h : ff = some r) : aj Tryd.prog HG 9 [] (.v (.bool r)) := by
 unfold ff at h
 refine aj.of Tryd.func9 rfl Tryd.ntmps9 (by simp) ?_
 intro F hF h0 hT
 show Sm F _ _ ⟨[], [], 0⟩
 refine sr hF (gv hF oA (sn (sr hF (gv hF (x := .d (.list 1 ([1, 0].map (af .i64)) true)) (oS (aB u30 sz3 ze3 rfl rfl (PartsQ.cons rfl (PartsQ.cons rfl (PartsQ.nil _))) rfl)) (gv hF (x := .d (.list 1 ([2].map (af .i64)) true)) (oS (aB u30 sz3 ze3 rfl rfl (PartsQ.cons rfl (PartsQ.nil _)) rfl)) (gv hF (x := .d (.list 1 ([0].map (af .i64)) true)) (oS (aB u30 sz3 ze3 rfl rfl (PartsQ.cons rfl (PartsQ.nil _)) rfl)) (gv hF (x := .d (.agg 2 [.list 1 ([2].map (af .i64)) true, .list 1 ([0].map (af .i64)) true])) (iy rfl u31 rfl (vL u31 dY AF rfl rfl)) (gv hF (x := .d (.agg 5 [.list 1 ([1, 0].map (af .i64)) true, .list 1 ([2].map (af .i64)) true, .list 1 ([0].map (af .i64)) true, .i 1, .i 0])) (aT rfl u33 (by kernel_rfl) rfl (bi (n := 5) oT Au rfl rfl)) ?_))))))))
 refine SmG.new hF rfl rfl rfl (aI rfl yR) ?_
 refine SmG.store hF rfl rfl rfl rfl rfl (aZ (ys := [.d (.list 1 ([1, 0].map (af .i64)) true), .d (.list 1 ([2].map (af .i64)) true), .d (.list 1 ([0].map (af .i64)) true), .i 1, .i 0]) (r := [.z, .z, .z, .i 0, .i 0]) (rows' := [[.d (.list 1 ([1, 0].map (af .i64)) true), .d (.list 1 ([2].map (af .i64)) true), .d (.list 1 ([0].map (af .i64)) true), .i 1, .i 0]]) rfl rfl rfl dg rfl rfl rfl rfl rfl) ?_
 refine sn (sr hF (gv hF (x := .d (.agg 2 [.i 1, .i 258])) (aT rfl u35 (by kernel_rfl) rfl (bi (n := 2) pX AR rfl rfl)) ?_))
 refine SmG.new hF rfl rfl rfl (aI rfl Ih) ?_
 refine SmG.store hF rfl rfl rfl rfl rfl (aZ (ys := [.i 1, .i 258]) (r := [.i 0, .i 0]) (rows' := [[.i 1, .i 258]]) rfl rfl rfl fb rfl rfl rfl rfl rfl) ?_
 refine sn (sr hF (gv hF (x := .d (.agg 5 [.list 1 ([1, 0].map (af .i64)) true, .list 1 ([2].map (af .i64)) true, .list 1 ([0].map (af .i64)) true, .i 1, .i 0])) (oL (aE rfl rfl fq dg rfl rfl)) (gv hF (x := .d (.agg 2 [.i 1, .i 258])) (oL (aE rfl rfl iS fb rfl rfl)) ?_)))
 obtain ⟨x1, hx1, h⟩ := ac h
 refine SmG.call hF rfl rfl (by kernel_rfl) rfl rfl rfl (aj.args (iU hx1) (fun C => (oE (oE (fun _ h => h))))) ?_
 refine gv hF oA (sn (sr hF (gv hF (x := .d (.agg 5 [.list 1 ([1, 0].map (af .i64)) true, .list 1 ([2].map (af .i64)) true, .list 1 ([0].map (af .i64)) true, .i 1, .i 0])) (oL (aE rfl rfl fq dg rfl rfl)) ?_)))
 refine dQ (wA (e := [(1, .ref 0 0 0), (2, .ref 1 0 0), (3, .d (.list 1 (x1.map aJ) false)), (22, .d (.agg 5 [.list 1 ([1, 0].map (af .i64)) false, .list 1 ([2].map (af .i64)) false, .list 1 ([0].map (af .i64)) false, .i 1, .i 0]))]) (g := [(1, ⟨2, [[.i 1, .i 258]]⟩), (0, ⟨5, [[.d (.list 1 ([1, 0].map (af .i64)) true), .d (.list 1 ([2].map (af .i64)) true), .d (.list 1 ([0].map (af .i64)) true), .i 1, .i 0]]⟩)]) (m := 2)) rfl ?_
 refine gv hF (x := .d (.list 5 ([(⟨[1, 0], [2], [0], 1, 0⟩ : Ps)].map Ps.row) true)) (oS (aB u40 dg oT rfl rfl (PartsQ.cons rfl (PartsQ.nil _)) rfl)) (gv hF (x := .d (.agg 2 [.i 1, .i 258])) (oL (aE rfl rfl iS fb rfl rfl)) (gv hF (x := .d (.list 2 ([(⟨1, 258⟩ : Rs)].map Rs.row) true)) (oS (aB u41 fb pX rfl rfl (PartsQ.cons rfl (PartsQ.nil _)) rfl)) ?_))
 obtain ⟨x2, hx2, h⟩ := ac h
 refine SmG.call hF rfl rfl (by kernel_rfl) rfl rfl rfl (aj.args (f6 hx2) (fun C => (oE (oE (oE (oE (fun _ h => h))))))) ?_
 refine gv hF oM (gv hF (aX rfl rfl rfl) (gv hF (aX rfl rfl rfl) ?_))
 refine SmG.new hF rfl rfl rfl (aI rfl nm) ?_
 refine SmG.store hF rfl rfl rfl rfl rfl (aZ (ys := [.i x2.1.version, .i x2.1.index, .i x2.1.count, .l x2.1.pos.at_, .l x2.1.pos.h0, .l x2.1.pos.h1, .i x2.1.pos.rights, .i x2.1.pos.side, .i x2.1.entry.out, .i x2.1.entry.n, .d (.list 32 (x2.1.proof.map aK) false)]) (r := [.i 0, .i 0, .i 0, .z, .z, .z, .i 0, .i 0, .i 0, .i 0, .z]) (rows' := [[.i x2.1.version, .i x2.1.index, .i x2.1.count, .l x2.1.pos.at_, .l x2.1.pos.h0, .l x2.1.pos.h1, .i x2.1.pos.rights, .i x2.1.pos.side, .i x2.1.entry.out, .i x2.1.entry.n, .d (.list 32 (x2.1.proof.map aK) false)]]) rfl rfl rfl dX rfl rfl rfl rfl rfl) ?_
 refine gv hF oA (sn (sr hF (gv hF (x := .d (.agg 5 [.list 1 ([1, 0].map (af .i64)) true, .list 1 ([2].map (af .i64)) true, .list 1 ([0].map (af .i64)) true, .i 1, .i 0])) (oL (aE rfl rfl fq dg rfl rfl)) ?_)))
 refine dQ (wA (e := [(1, .ref 0 0 0), (2, .ref 1 0 0), (3, .d (.list 1 (x1.map aJ) false)), (4, .ref 2 0 0), (5, .i x2.2), (30, .d (.agg 5 [.list 1 ([1, 0].map (af .i64)) false, .list 1 ([2].map (af .i64)) false, .list 1 ([0].map (af .i64)) false, .i 1, .i 0]))]) (g := [(2, ⟨11, [[.i x2.1.version, .i x2.1.index, .i x2.1.count, .l x2.1.pos.at_, .l x2.1.pos.h0, .l x2.1.pos.h1, .i x2.1.pos.rights, .i x2.1.pos.side, .i x2.1.entry.out, .i x2.1.entry.n, .d (.list 32 (x2.1.proof.map aK) false)]]⟩), (1, ⟨2, [[.i 1, .i 258]]⟩), (0, ⟨5, [[.d (.list 1 ([1, 0].map (af .i64)) true), .d (.list 1 ([2].map (af .i64)) true), .d (.list 1 ([0].map (af .i64)) true), .i 1, .i 0]]⟩)]) (m := 3)) rfl ?_
 refine gv hF (x := .d (.list 5 ([(⟨[1, 0], [2], [0], 1, 0⟩ : Ps)].map Ps.row) true)) (oS (aB u40 dg oT rfl rfl (PartsQ.cons rfl (PartsQ.nil _)) rfl)) ?_
 obtain ⟨x3, hx3, h⟩ := ac h
 refine SmG.call hF rfl rfl (by kernel_rfl) rfl rfl rfl (aj.args (f6 hx3) (fun C => (oE (oE (oE (oE (fun _ h => h))))))) ?_
 refine gv hF oM (gv hF (aX rfl rfl rfl) (gv hF (aX rfl rfl rfl) ?_))
 refine SmG.new hF rfl rfl rfl (aI rfl nm) ?_
 refine SmG.store hF rfl rfl rfl rfl rfl (aZ (ys := [.i x3.1.version, .i x3.1.index, .i x3.1.count, .l x3.1.pos.at_, .l x3.1.pos.h0, .l x3.1.pos.h1, .i x3.1.pos.rights, .i x3.1.pos.side, .i x3.1.entry.out, .i x3.1.entry.n, .d (.list 32 (x3.1.proof.map aK) false)]) (r := [.i 0, .i 0, .i 0, .z, .z, .z, .i 0, .i 0, .i 0, .i 0, .z]) (rows' := [[.i x3.1.version, .i x3.1.index, .i x3.1.count, .l x3.1.pos.at_, .l x3.1.pos.h0, .l x3.1.pos.h1, .i x3.1.pos.rights, .i x3.1.pos.side, .i x3.1.entry.out, .i x3.1.entry.n, .d (.list 32 (x3.1.proof.map aK) false)]]) rfl rfl rfl dX rfl rfl rfl rfl rfl) ?_
 refine gv hF oA (sn (sr hF (gv hF (x := .d (.agg 5 [.list 1 ([1, 0].map (af .i64)) true, .list 1 ([2].map (af .i64)) true, .list 1 ([0].map (af .i64)) true, .i 1, .i 0])) (oL (aE rfl rfl fq dg rfl rfl)) ?_)))
 refine dQ (wA (e := [(1, .ref 0 0 0), (2, .ref 1 0 0), (3, .d (.list 1 (x1.map aJ) false)), (4, .ref 2 0 0), (5, .i x2.2), (7, .i x3.2), (36, .d (.agg 5 [.list 1 ([1, 0].map (af .i64)) false, .list 1 ([2].map (af .i64)) false, .list 1 ([0].map (af .i64)) false, .i 1, .i 0]))]) (g := [(2, ⟨11, [[.i x2.1.version, .i x2.1.index, .i x2.1.count, .l x2.1.pos.at_, .l x2.1.pos.h0, .l x2.1.pos.h1, .i x2.1.pos.rights, .i x2.1.pos.side, .i x2.1.entry.out, .i x2.1.entry.n, .d (.list 32 (x2.1.proof.map aK) false)]]⟩), (1, ⟨2, [[.i 1, .i 258]]⟩), (0, ⟨5, [[.d (.list 1 ([1, 0].map (af .i64)) true), .d (.list 1 ([2].map (af .i64)) true), .d (.list 1 ([0].map (af .i64)) true), .i 1, .i 0]]⟩)]) (m := 4)) rfl ?_
 refine gv hF (x := .d (.list 5 ([(⟨[1, 0], [2], [0], 1, 0⟩ : Ps)].map Ps.row) true)) (oS (aB u40 dg oT rfl rfl (PartsQ.cons rfl (PartsQ.nil _)) rfl)) (gv hF (x := .d (.agg 2 [.i 1, .i 258])) (oL (aE rfl rfl iS fb rfl rfl)) (gv hF (x := .d (.list 2 ([(⟨1, 258⟩ : Rs)].map Rs.row) true)) (oS (aB u41 fb pX rfl rfl (PartsQ.cons rfl (PartsQ.nil _)) rfl)) ?_))
 obtain ⟨x4, hx4, h⟩ := ac h
 refine SmG.call hF rfl rfl (by kernel_rfl) rfl rfl rfl (aj.args (f6 hx4) (fun C => (oE (oE (oE (oE (fun _ h => h))))))) ?_
 refine gv hF oM (gv hF (aX rfl rfl rfl) (gv hF (aX rfl rfl rfl) ?_))
 refine SmG.new hF rfl rfl rfl (aI rfl nm) ?_
 refine SmG.store hF rfl rfl rfl rfl rfl (aZ (ys := [.i x4.1.version, .i x4.1.index, .i x4.1.count, .l x4.1.pos.at_, .l x4.1.pos.h0, .l x4.1.pos.h1, .i x4.1.pos.rights, .i x4.1.pos.side, .i x4.1.entry.out, .i x4.1.entry.n, .d (.list 32 (x4.1.proof.map aK) false)]) (r := [.i 0, .i 0, .i 0, .z, .z, .z, .i 0, .i 0, .i 0, .i 0, .z]) (rows' := [[.i x4.1.version, .i x4.1.index, .i x4.1.count, .l x4.1.pos.at_, .l x4.1.pos.h0, .l x4.1.pos.h1, .i x4.1.pos.rights, .i x4.1.pos.side, .i x4.1.entry.out, .i x4.1.entry.n, .d (.list 32 (x4.1.proof.map aK) false)]]) rfl rfl rfl dX rfl rfl rfl rfl rfl) ?_
 refine gv hF oA (sn (sr hF (gv hF (x := .d (.agg 5 [.list 1 ([1, 0].map (af .i64)) true, .list 1 ([2].map (af .i64)) true, .list 1 ([0].map (af .i64)) true, .i 1, .i 0])) (oL (aE rfl rfl fq dg rfl rfl)) ?_)))
 refine dQ (wA (e := [(1, .ref 0 0 0), (2, .ref 1 0 0), (3, .d (.list 1 (x1.map aJ) false)), (4, .ref 2 0 0), (5, .i x2.2), (7, .i x3.2), (9, .i x4.2), (43, .d (.agg 5 [.list 1 ([1, 0].map (af .i64)) false, .list 1 ([2].map (af .i64)) false, .list 1 ([0].map (af .i64)) false, .i 1, .i 0]))]) (g := [(2, ⟨11, [[.i x2.1.version, .i x2.1.index, .i x2.1.count, .l x2.1.pos.at_, .l x2.1.pos.h0, .l x2.1.pos.h1, .i x2.1.pos.rights, .i x2.1.pos.side, .i x2.1.entry.out, .i x2.1.entry.n, .d (.list 32 (x2.1.proof.map aK) false)]]⟩), (1, ⟨2, [[.i 1, .i 258]]⟩), (0, ⟨5, [[.d (.list 1 ([1, 0].map (af .i64)) true), .d (.list 1 ([2].map (af .i64)) true), .d (.list 1 ([0].map (af .i64)) true), .i 1, .i 0]]⟩)]) (m := 5)) rfl ?_
 refine gv hF (x := .d (.list 5 ([(⟨[1, 0], [2], [0], 1, 0⟩ : Ps)].map Ps.row) true)) (oS (aB u40 dg oT rfl rfl (PartsQ.cons rfl (PartsQ.nil _)) rfl)) (gv hF (x := .d (.agg 2 [.i 1, .i 258])) (oL (aE rfl rfl iS fb rfl rfl)) (gv hF (x := .d (.list 2 ([(⟨1, 258⟩ : Rs)].map Rs.row) true)) (oS (aB u41 fb pX rfl rfl (PartsQ.cons rfl (PartsQ.nil _)) rfl)) ?_))
 obtain ⟨x5, hx5, h⟩ := ac h
 refine SmG.call hF rfl rfl (by kernel_rfl) rfl rfl rfl (aj.args (jX hx5) (fun C => (oE (oE (fun _ h => h))))) ?_
 refine SmG.new hF rfl rfl rfl (aI rfl kw) ?_
 obtain ⟨x6, hx6, h⟩ := ac h
 refine SmG.store hF rfl rfl rfl rfl rfl (pt rfl rfl iw rfl (ju hx6)) ?_
 refine sn (sr hF (gv hF oM (gv hF (oB (cM)) ?_)))
 rcases bG (x2.2 == 0) with hc7 | hc7
 ·replace h := ifF hc7 h
  refine gv hF (am rfl rfl hc7) (gp hF (gp hF (gv hF (ah rfl rfl rfl) (gv hF oM (gp hF (gp hF (gv hF (ah rfl rfl rfl) (gv hF oA ?_))))))))
  refine sn (Sm.seq ?_)
  refine dG hF 39 ?_
  refine hv hF oM (hv hF oM (hp hF (hp hF (hp hF (hv hF (ah rfl rfl rfl) (hv hF oM (hp hF (hp hF ?_))))))))
  refine hp hF (hp hF (hv hF (ah rfl rfl rfl) (hv hF oM (hp hF (hp hF (hp hF (hv hF (ah rfl rfl rfl) (hv hF oM ?_))))))))
  refine hp hF (hp hF (hp hF (hp hF (hp hF (hp hF (hv hF (ah rfl rfl rfl) (hv hF oM (hp hF ?_))))))))
  refine hp hF (hp hF (hv hF (ah rfl rfl rfl) (hv hF oM (hp hF (hp hF (hp hF (hp hF (hv hF (ah rfl rfl rfl) ?_))))))))
  refine hv hF oM (hp hF (hp hF ?_))
  refine hE ?_
  refine gp hF (gp hF (gv hF (ah rfl rfl rfl) (gv hF oA (sn (Sm.ret ?_)))))
  obtain rfl := ae h
  exact bg rfl rfl
 replace h := ifT hc7 h
 refine gv hF (am rfl rfl hc7) (gv hF oM (gv hF (oB (cM)) (gv hF (aw rfl rfl rfl) ?_)))
 rcases bG (x3.2 == 1) with hc8 | hc8
 ·replace h := ifF hc8 h
  refine gv hF (am rfl rfl hc8) (gp hF (gp hF (gv hF (ah rfl rfl rfl) (gv hF oA (sn (Sm.seq ?_))))))
  refine dG hF 39 ?_
  refine hv hF oM (hv hF oM (hp hF (hp hF (hp hF (hv hF (ah rfl rfl rfl) (hv hF oM (hp hF (hp hF ?_))))))))
  refine hp hF (hp hF (hv hF (ah rfl rfl rfl) (hv hF oM (hp hF (hp hF (hp hF (hv hF (ah rfl rfl rfl) (hv hF oM ?_))))))))
  refine hp hF (hp hF (hp hF (hp hF (hp hF (hp hF (hv hF (ah rfl rfl rfl) (hv hF oM (hp hF ?_))))))))
  refine hp hF (hp hF (hv hF (ah rfl rfl rfl) (hv hF oM (hp hF (hp hF (hp hF (hp hF (hv hF (ah rfl rfl rfl) ?_))))))))
  refine hv hF oM (hp hF (hp hF ?_))
  refine hE ?_
  refine gp hF (gp hF (gv hF (ah rfl rfl rfl) (gv hF oA (sn (Sm.ret ?_)))))
  obtain rfl := ae h
  exact bg rfl rfl
 replace h := ifT hc8 h
 refine gv hF (am rfl rfl hc8) (gv hF oM (gv hF (oB (cM)) (gv hF (aw rfl rfl rfl) (gv hF oA (sn (Sm.seq ?_))))))
 refine dG hF 39 ?_
 refine hv hF oM ?_
 rcases bG (x4.2 == 1) with hc9 | hc9
 ·replace h := ifF hc9 h
  refine hv hF (am rfl rfl hc9) (hp hF (hp hF (hp hF (hv hF (ah rfl rfl rfl) (hv hF oM (hp hF (hp hF (hp hF ?_))))))))
  refine hp hF (hv hF (ah rfl rfl rfl) (hv hF oM (hp hF (hp hF (hp hF (hv hF (ah rfl rfl rfl) (hv hF oM (hp hF ?_))))))))
  refine hp hF (hp hF (hp hF (hp hF (hp hF (hv hF (ah rfl rfl rfl) (hv hF oM (hp hF (hp hF ?_))))))))
  refine hp hF (hv hF (ah rfl rfl rfl) (hv hF oM (hp hF (hp hF (hp hF (hp hF (hv hF (ah rfl rfl rfl) (hv hF oM ?_))))))))
  refine hp hF (hp hF ?_)
  refine hE ?_
  refine gp hF (gp hF (gv hF (ah rfl rfl rfl) (gv hF oA (sn (Sm.ret ?_)))))
  obtain rfl := ae h
  exact bg rfl rfl
 replace h := ifT hc9 h
 refine hv hF (am rfl rfl hc9) (hv hF oM (hv hF (oC (mX u24 u9 u5)) (hv hF (oB (BD rfl)) (hv hF (aw rfl rfl rfl) ?_))))
 rcases bG (x1 == ([2, 1, 1, 1, 0, 2, 0, 1, 0, 1, 0, 0, 1, 2] : List UInt8)) with hc10 | hc10
 ·replace h := ifF hc10 h
  refine hv hF (am rfl rfl hc10) (hp hF (hp hF (hp hF (hp hF (hv hF (ah rfl rfl rfl) (hv hF oM (hp hF (hp hF ?_))))))))
  refine hp hF (hv hF (ah rfl rfl rfl) (hv hF oM (hp hF (hp hF (hp hF (hp hF (hp hF (hp hF ?_))))))))
  refine hv hF (ah rfl rfl rfl) (hv hF oM (hp hF (hp hF (hp hF (hv hF (ah rfl rfl rfl) (hv hF oM (hp hF (hp hF ?_))))))))
  refine hp hF (hp hF (hv hF (ah rfl rfl rfl) (hv hF oM (hp hF (hp hF ?_)))))
  refine hE ?_
  refine gp hF (gp hF (gv hF (ah rfl rfl rfl) (gv hF oA (sn (Sm.ret ?_)))))
  obtain rfl := ae h
  exact bg rfl rfl
 replace h := ifT hc10 h
 refine hv hF (am rfl rfl hc10) (hv hF (oF (aG nd)) (hv hF (oL (cr rfl rfl ot rfl)) (hv hF (oN (bc u36)) (hv hF (oB (cM)) (hv hF (aw rfl rfl rfl) ?_)))))
 rcases bG ((x2.1.proof.length : Int) == 0) with hc11 | hc11
 ·replace h := ifF hc11 h
  refine hv hF (am rfl rfl hc11) (hp hF (hp hF (hp hF (hv hF (ah rfl rfl rfl) (hv hF oM (hp hF (hp hF (hp hF ?_))))))))
  refine hp hF (hp hF (hp hF (hv hF (ah rfl rfl rfl) (hv hF oM (hp hF (hp hF (hp hF (hv hF (ah rfl rfl rfl) ?_))))))))
  refine hv hF oM (hp hF (hp hF (hp hF (hp hF (hv hF (ah rfl rfl rfl) (hv hF oM (hp hF (hp hF ?_))))))))
  refine hE ?_
  refine gp hF (gp hF (gv hF (ah rfl rfl rfl) (gv hF oA (sn (Sm.ret ?_)))))
  obtain rfl := ae h
  exact bg rfl rfl
 replace h := ifT hc11 h
 refine hv hF (am rfl rfl hc11) (hv hF (oF (aG nf)) (hv hF (oL (cr rfl rfl ag3 rfl)) (hv hF (oB (cM)) (hv hF (aw rfl rfl rfl) ?_))))
 rcases bG (x2.1.count == 1) with hc12 | hc12
 ·replace h := ifF hc12 h
  refine hv hF (am rfl rfl hc12) (hp hF (hp hF (hp hF (hp hF (hp hF (hp hF (hv hF (ah rfl rfl rfl) (hv hF oM ?_))))))))
  refine hp hF (hp hF (hp hF (hv hF (ah rfl rfl rfl) (hv hF oM (hp hF (hp hF (hp hF (hp hF ?_))))))))
  refine hv hF (ah rfl rfl rfl) (hv hF oM (hp hF (hp hF ?_)))
  refine hE ?_
  refine gp hF (gp hF (gv hF (ah rfl rfl rfl) (gv hF oA (sn (Sm.ret ?_)))))
  obtain rfl := ae h
  exact bg rfl rfl
 replace h := ifT hc12 h
 refine hv hF (am rfl rfl hc12) (hv hF (x := .d (.agg 32 (aK x5))) (oL (iF rfl jA iw)) (hv hF (x := .d (.agg 5 [.list 1 ([1, 0].map (af .i64)) true, .list 1 ([2].map (af .i64)) true, .list 1 ([0].map (af .i64)) true, .i 1, .i 0])) (oL (aE rfl rfl fq dg rfl rfl)) (hv hF (x := .d (.agg 2 [.i 1, .i 258])) (oL (aE rfl rfl iS fb rfl rfl)) ?_)))
 obtain ⟨x13, hx13, h⟩ := ac h
 refine aD.c hF rfl rfl (by kernel_rfl) rfl rfl rfl (aj.args (f9 hx13) (fun C => (oE (oE (fun _ h => h))))) ?_
 obtain ⟨x14, hx14, h⟩ := ac h
 refine cH hF (nA hx14) ?_
 obtain ⟨x15, hx15, h⟩ := ac h
 obtain ⟨x16, hx16, h⟩ := ac h
 refine hv hF (rb rfl rfl rfl (tB (by kernel_rfl) (by kernel_rfl) (ju hx15) (ju hx16))) (hv hF (aw rfl rfl rfl) ?_)
 rcases bG (x5 == x14) with hc17 | hc17
 ·replace h := ifF hc17 h
  refine hv hF (am rfl rfl hc17) (hp hF (hp hF (hp hF (hv hF (ah rfl rfl rfl) (hv hF oM (hp hF (hp hF (hp hF ?_))))))))
  refine hp hF (hv hF (ah rfl rfl rfl) (hv hF oM (hp hF (hp hF ?_))))
  refine hE ?_
  refine gp hF (gp hF (gv hF (ah rfl rfl rfl) (gv hF oA (sn (Sm.ret ?_)))))
  obtain rfl := ae h
  exact bg rfl rfl
 replace h := ifT hc17 h
 refine hv hF (am rfl rfl hc17) (hv hF (x := .d (.agg 32 (aK x5))) (oL (iF rfl jA iw)) (hv hF (x := .d (.agg 11 [.i x2.1.version, .i x2.1.index, .i x2.1.count, .l x2.1.pos.at_, .l x2.1.pos.h0, .l x2.1.pos.h1, .i x2.1.pos.rights, .i x2.1.pos.side, .i x2.1.entry.out, .i x2.1.entry.n, .list 32 (x2.1.proof.map aK) false])) (oL (aE rfl rfl gA dX rfl rfl)) ?_))
 obtain ⟨x18, hx18, h⟩ := ac h
 refine cH hF (fu hx18) ?_
 refine hv hF (aw rfl rfl rfl) ?_
 rcases bG x18 with hc19 | hc19
 ·replace h := ifF hc19 h
  refine hv hF (am rfl rfl hc19) (hp hF (hp hF (hp hF (hp hF (hv hF (ah rfl rfl rfl) (hv hF oM (hp hF (hp hF ?_))))))))
  refine hE ?_
  refine gp hF (gp hF (gv hF (ah rfl rfl rfl) (gv hF oA (sn (Sm.ret ?_)))))
  obtain rfl := ae h
  exact bg rfl rfl
 replace h := ifT hc19 h
 refine hv hF (am rfl rfl hc19) (hv hF (x := .d (.agg 32 (aK x5))) (oL (iF rfl jA iw)) (hv hF (x := .d (.agg 11 [.i x2.1.version, .i x2.1.index, .i x2.1.count, .l x2.1.pos.at_, .l x2.1.pos.h0, .l x2.1.pos.h1, .i x2.1.pos.rights, .i x2.1.pos.side, .i x2.1.entry.out, .i x2.1.entry.n, .list 32 (x2.1.proof.map aK) false])) (oL (aE rfl rfl gA dX rfl rfl)) ?_))
 obtain ⟨x20, hx20, h⟩ := ac h
 refine cH hF (fu hx20) ?_
 refine hv hF (iG rfl rfl (iW _)) (hv hF (aw rfl rfl rfl) ?_)
 rcases bG (!x20) with hc21 | hc21
 ·replace h := ifF hc21 h
  refine hv hF (am rfl rfl hc21) (hp hF (hp hF ?_))
  refine hE ?_
  refine gp hF (gp hF (gv hF (ah rfl rfl rfl) (gv hF oA (sn (Sm.ret ?_)))))
  obtain rfl := ae h
  exact bg rfl rfl
 replace h := ifT hc21 h
 refine hv hF (am rfl rfl hc21) (hv hF (x := .d (.agg 32 (aK (List.replicate 32 0)))) (iy rfl u47 rfl AE) (hv hF (x := .d (.agg 11 [.i x2.1.version, .i x2.1.index, .i x2.1.count, .l x2.1.pos.at_, .l x2.1.pos.h0, .l x2.1.pos.h1, .i x2.1.pos.rights, .i x2.1.pos.side, .i x2.1.entry.out, .i x2.1.entry.n, .list 32 (x2.1.proof.map aK) false])) (oL (aE rfl rfl gA dX rfl rfl)) ?_))
 refine hE ?_
 obtain ⟨x22, hx22, h⟩ := ac h
 refine cS hF (fu hx22) ?_
 refine gv hF (iG rfl rfl (iW _)) (gv hF (aw rfl rfl rfl) (gv hF oA (sn (Sm.ret ?_))))
 obtain rfl := ae h
 exact bg rfl rfl
noncomputable def eG (a0 : GRaw) (a1 : List PRaw) (a2 : List Int) : Option (List Ps × List Rs) :=
 ob (fJ a0) fun x1 =>
 ob (fL x1 a1 10) fun x2 =>
 ob (eS x2 a2) fun x3 =>
 some (x2, x3)
set_option maxHeartbeats 4000000 in
theorem mQ {a0 : GRaw} {a1 : List PRaw} {a2 : List Int} {r : (List Ps × List Rs)} (h : eG a0 a1 a2 = some r) : aj Tryd.prog HG 10 [.agg 12 (GRaw.row a0), .list 18 (a1.map PRaw.row) false, .list 1 (a2.map (af .u16)) false] (.tup [.list 5 (r.1.map Ps.row) false, .list 2 (r.2.map Rs.row) false]) := by
 unfold eG at h
 refine aj.of Tryd.func10 rfl Tryd.ntmps10 (by simp) ?_
 intro F hF h0 hT
 show Sm F _ _ ⟨[(0, .d (.agg 12 (GRaw.row a0))), (1, .d (.list 18 (a1.map PRaw.row) false)), (2, .d (.list 1 (a2.map (af .u16)) false))], [], 0⟩
 refine sr hF ?_
 refine bM hF fa ?_
 refine gv hF oA (gv hF oA (sn (sr hF (gv hF (x := .d (.agg 12 (GRaw.row a0))) (oL (bX vM yA rfl rfl)) ?_))))
 obtain ⟨x1, hx1, h⟩ := ac h
 refine cS hF (nC hx1) ?_
 refine gv hF oM ?_
 obtain ⟨x2, hx2, h⟩ := ac h
 refine cS hF (nv hx2) ?_
 refine gv hF oA (sn (sr hF (gv hF oM (gv hF oM (gv hF oM ?_)))))
 obtain ⟨x3, hx3, h⟩ := ac h
 refine cS hF (mb hx3) ?_
 refine gv hF oA (gv hF oA (sn (Sm.ret ?_)))
 obtain rfl := ae h
 exact cU (RetR.cons (RetO.tmp rfl) (RetR.cons (RetO.tmp rfl) (RetR.nil))) (D.le.refl _)
noncomputable def bL (a2 : Ans) (x6 : (List Ps × List Rs)) (x7 : List UInt8) (s25 : Int) : Option (Int ⊕ (Unit ⊕ Bool)) :=
 bif (decide (s25 ≤ (x6.1.length : Int))) then (
  ob (cT x6.1 x6.2 a2.version s25) fun x30 =>
  ob (fe x6.1 x6.2 a2.version s25) fun x31 =>
  ob (fF x30.1 x31.1) fun x32 =>
  bif (!x32) then (
   some (.inr (.inr false))
  ) else (
   bif (x30.2 != x31.2) then (
    some (.inr (.inr false))
   ) else (
    ob (ek x7 a2.version x31.1) fun x35 =>
    ob (eE x7 a2.version x31.1) fun x36 =>
    bif (x35 != x36) then (
     some (.inr (.inr false))
    ) else (
     ob (arI .i64 (s25 + 1)) fun x38 =>
     some (.inl x38)
    )
   )
  )
 ) else (
  some (.inr (.inl ()))
 )
noncomputable def cP (a0 : (List PRaw × List PRaw)) (a1 : GRaw) (a2 : Ans) : Option Bool :=
 ob (ff ) fun x1 =>
 bif (decide (40 < (a2.proof.length : Int))) then (
  some x1
 ) else (
  bif (decide (300 < (a2.pos.at_.length : Int))) then (
   some x1
  ) else (
   bif (decide (300 < (a2.pos.h0.length : Int))) then (
    some x1
   ) else (
    bif (decide (300 < (a2.pos.h1.length : Int))) then (
     some x1
    ) else (
     ob (eG a1 a0.1 [(IntKind.u16.wrap a2.index)]) fun x6 =>
     ob (fk x6.1 x6.2) fun x7 =>
     ob (vN 32 x7) fun x8 =>
     ob (eT x6.1 x6.2) fun x9 =>
     ob (vN 32 x7) fun x10 =>
     ob (vN 32 x9) fun x11 =>
     bif (!(x7 == x9)) then (
      some false
     ) else (
      ob (jl .i64 (x6.2.length : Int) 2) fun x13 =>
      ob (slc x6.2 0 x13) fun x14 =>
      ob (fk x6.1 x14) fun x15 =>
      ob (jl .i64 (x6.2.length : Int) 2) fun x16 =>
      ob (slc x6.2 0 x16) fun x17 =>
      ob (eT x6.1 x17) fun x18 =>
      ob (vN 32 x15) fun x19 =>
      ob (vN 32 x18) fun x20 =>
      bif (!(x15 == x18)) then (
       some false
      ) else (
       ob (fm a2.pos a2.entry) fun x22 =>
       ob (dh a2.pos a2.entry) fun x23 =>
       bif (!(x22 == x23)) then (
        some false
       ) else (
        ob ((
         bH (bL a2 x6 x7) (-1)
         : Option (Unit ⊕ Bool))) fun o44 => match o44 with
        | .inl v39 => (
         bif (decide (2147483648 ≤ a2.count)) then (
          some x1
         ) else (
          bif x1 then (
           ob (ek x7 a2.version a2) fun x42 =>
           ob (eE x7 a2.version a2) fun x43 =>
           some (x42 == x43)
          ) else (
           some false
          )
         )
         )
        | .inr e45 => some e45
       )
      )
     )
    )
   )
  )
 )
set_option maxHeartbeats 4000000 in
theorem iT {a0 : (List PRaw × List PRaw)} {a1 : GRaw} {a2 : Ans} {r : Bool} (h : cP a0 a1 a2 = some r) : aj Tryd.prog HG 3 [.agg 2 [.list 18 (a0.1.map PRaw.row) false, .list 18 (a0.2.map PRaw.row) false], .agg 12 (GRaw.row a1), .agg 11 (Ans.row a2)] (.v (.bool r)) := by
 unfold cP at h
 refine aj.of Tryd.func3 rfl Tryd.ntmps3 (by simp) ?_
 intro F hF h0 hT
 show Sm F _ _ ⟨[(0, .d (.agg 2 [.list 18 (a0.1.map PRaw.row) false, .list 18 (a0.2.map PRaw.row) false])), (1, .d (.agg 12 (GRaw.row a1))), (2, .d (.agg 11 (Ans.row a2)))], [], 0⟩
 refine sr hF ?_
 refine bM hF fa ?_
 refine bM hF fa ?_
 refine bM hF fa ?_
 refine gv hF oA (sn (sr hF ?_))
 obtain ⟨x1, hx1, h⟩ := ac h
 refine cS hF (mG hx1) ?_
 refine gv hF oA (sn (Sm.seq (sr hF (gv hF (oF (ag nd rfl)) (gv hF (oL (lP1 ot rfl)) (gv hF (oN (bc u36)) (gv hF (oB (fD)) ?_)))))))
 rcases dU (decide (40 < (a2.proof.length : Int))) with hc2 | hc2
 ·replace h := ifT hc2 h
  refine gv hF (am rfl rfl hc2) (gp hF (gp hF (gp hF (gp hF (gp hF (gv hF (aw rfl rfl rfl) (gv hF oM (gp hF ?_))))))))
  refine gp hF (gp hF (gp hF (gp hF (gp hF (gv hF (aw rfl rfl rfl) (gv hF oM (gp hF (gp hF ?_))))))))
  refine gp hF (gp hF (gp hF (gp hF (gv hF (aw rfl rfl rfl) (sn ?_)))))
  refine aW hF rfl ?_
  refine sr hF (gv hF oM (gv hF oA (sn (Sm.ret ?_))))
  obtain rfl := ae h
  exact bg rfl rfl
 replace h := ifF hc2 h
 refine gv hF (am rfl rfl hc2) (gv hF (oF (ag i6 rfl)) (gv hF (oF (ag jq rfl)) (gv hF (oL (lP1 dz rfl)) (gv hF (oN (bc u30)) (gv hF (oB (fD)) (gv hF (ah rfl rfl rfl) ?_))))))
 rcases dU (decide (300 < (a2.pos.at_.length : Int))) with hc3 | hc3
 ·replace h := ifT hc3 h
  refine gv hF (am rfl rfl hc3) (gp hF (gp hF (gp hF (gp hF (gp hF (gp hF (gv hF (aw rfl rfl rfl) (gv hF oM ?_))))))))
  refine gp hF (gp hF (gp hF (gp hF (gp hF (gp hF (gv hF (aw rfl rfl rfl) (sn ?_)))))))
  refine aW hF rfl ?_
  refine sr hF (gv hF oM (gv hF oA (sn (Sm.ret ?_))))
  obtain rfl := ae h
  exact bg rfl rfl
 replace h := ifF hc3 h
 refine gv hF (am rfl rfl hc3) (gv hF (oF (ag i6 rfl)) (gv hF (oF (ag dN rfl)) (gv hF (oI (cF u31 dY rfl rfl)) (gv hF (oL (lP1 dz rfl)) (gv hF (oN (bc u30)) (gv hF (oB (fD)) (gv hF (ah rfl rfl rfl) ?_)))))))
 rcases dU (decide (300 < (a2.pos.h0.length : Int))) with hc4 | hc4
 ·replace h := ifT hc4 h
  refine gv hF (am rfl rfl hc4) (gp hF (gp hF (gp hF (gp hF (gp hF (gp hF (gv hF (aw rfl rfl rfl) (sn ?_))))))))
  refine aW hF rfl ?_
  refine sr hF (gv hF oM (gv hF oA (sn (Sm.ret ?_))))
  obtain rfl := ae h
  exact bg rfl rfl
 replace h := ifF hc4 h
 refine gv hF (am rfl rfl hc4) (gv hF (oF (ag i6 rfl)) (gv hF (oF (ag dN rfl)) (gv hF (oI (cF u31 dY rfl rfl)) (gv hF (oL (lP1 dz rfl)) (gv hF (oN (bc u30)) (gv hF (oB (fD)) (gv hF (ah rfl rfl rfl) (sn ?_))))))))
 refine bu hF rfl (fun hc5 => ?_) (fun hc5 => ?_)
 ·replace h := ifT hc5 h
  refine sr hF (gv hF oM (gv hF oA (sn (Sm.ret ?_))))
  obtain rfl := ae h
  exact bg rfl rfl
 replace h := ifF hc5 h
 refine sk (sr hF (gv hF (x := .d (.agg 12 (GRaw.row a1))) (oL (bX vM yA rfl rfl)) (gv hF (oI (cF u23 Ba rfl rfl)) (gv hF (oL (lP1 Bc rfl)) (gv hF (oF (ag oP rfl)) (gv hF (oL (lP1 ag3 rfl)) (gv hF (oC (rE u3 u44)) (gv hF (x := .d (.list 1 ([(IntKind.u16.wrap a2.index)].map (af .u16)) true)) (oS (aB u45 yC Az rfl rfl (PartsQ.cons rfl (PartsQ.nil _)) rfl)) ?_))))))))
 obtain ⟨x6, hx6, h⟩ := ac h
 refine SmG.call hF rfl rfl (by kernel_rfl) rfl rfl rfl (aj.args (mQ hx6) (fun C => (oE (oE (oE (fun _ h => h)))))) ?_
 refine gv hF oM (gv hF (aX rfl rfl rfl) (gv hF (aX rfl rfl rfl) (gv hF oA (gv hF oA (sn (sr hF (gv hF oM (gv hF oM ?_))))))))
 obtain ⟨x7, hx7, h⟩ := ac h
 refine cS hF (jX hx7) ?_
 refine SmG.new hF rfl rfl rfl (aI rfl kw) ?_
 obtain ⟨x8, hx8, h⟩ := ac h
 refine SmG.store hF rfl rfl rfl rfl rfl (pt rfl rfl iw rfl (ju hx8)) ?_
 refine sn (Sm.seq (Sm.seq ?_))
 refine dG hF 35 ?_
 refine hv hF (x := .d (.agg 32 (aK x7))) (oL (iF rfl jA iw)) (hv hF oM (hv hF oM ?_))
 obtain ⟨x9, hx9, h⟩ := ac h
 refine cH hF (j4 hx9) ?_
 obtain ⟨x10, hx10, h⟩ := ac h
 obtain ⟨x11, hx11, h⟩ := ac h
 refine hv hF (pE rfl rfl rfl (tB (by kernel_rfl) (by kernel_rfl) (ju hx10) (ju hx11))) ?_
 rcases dU (!(x7 == x9)) with hc12 | hc12
 ·replace h := ifT hc12 h
  refine hv hF (am rfl rfl hc12) (hp hF (hp hF (hp hF (hp hF (hp hF (hp hF (hp hF (hp hF ?_))))))))
  refine hp hF (hp hF (hp hF (hp hF (hp hF (hp hF (hp hF (hv hF (aw rfl rfl rfl) (hv hF oM ?_))))))))
  refine hp hF (hp hF (hp hF (hp hF (hp hF (hp hF (hp hF (hp hF (hp hF ?_))))))))
  refine hp hF (hp hF (hp hF ?_))
  refine hE ?_
  refine gp hF (gv hF (aw rfl rfl rfl) (sn ?_))
  refine aW hF rfl ?_
  refine sr hF (gv hF oA (sn (Sm.ret ?_)))
  obtain rfl := ae h
  exact bg rfl rfl
 replace h := ifF hc12 h
 refine hv hF (am rfl rfl hc12) (hv hF oM (hv hF oM (hv hF oM (hv hF (oN (bc u41)) ?_))))
 obtain ⟨x13, hx13, h⟩ := ac h
 refine hv hF (oB (jp hx13)) ?_
 obtain ⟨x14, hx14, h⟩ := ac h
 refine hv hF (eZ rfl rfl rfl rfl rfl (zf u41 fb hx14)) ?_
 obtain ⟨x15, hx15, h⟩ := ac h
 refine cH hF (jX hx15) ?_
 refine hv hF oM (hv hF oM (hv hF oM (hv hF (oN (bc u41)) ?_)))
 obtain ⟨x16, hx16, h⟩ := ac h
 refine hv hF (oB (jp hx16)) ?_
 obtain ⟨x17, hx17, h⟩ := ac h
 refine hv hF (eZ rfl rfl rfl rfl rfl (zf u41 fb hx17)) ?_
 obtain ⟨x18, hx18, h⟩ := ac h
 refine cH hF (j4 hx18) ?_
 obtain ⟨x19, hx19, h⟩ := ac h
 obtain ⟨x20, hx20, h⟩ := ac h
 refine hv hF (pE rfl rfl rfl (tB (by kernel_rfl) (by kernel_rfl) (ju hx19) (ju hx20))) (hv hF (ah rfl rfl rfl) ?_)
 rcases dU (!(x15 == x18)) with hc21 | hc21
 ·replace h := ifT hc21 h
  refine hv hF (am rfl rfl hc21) (hp hF (hp hF (hp hF (hp hF (hp hF (hp hF (hp hF (hp hF ?_))))))))
  refine hp hF (hp hF (hp hF (hp hF ?_)))
  refine hE ?_
  refine gp hF (gv hF (aw rfl rfl rfl) (sn ?_))
  refine aW hF rfl ?_
  refine sr hF (gv hF oA (sn (Sm.ret ?_)))
  obtain rfl := ae h
  exact bg rfl rfl
 replace h := ifF hc21 h
 refine hv hF (am rfl rfl hc21) (hv hF (oF (ag i6 rfl)) (hv hF (x := .d (.agg 5 [.l a2.pos.at_, .l a2.pos.h0, .l a2.pos.h1, .i a2.pos.rights, .i a2.pos.side])) (oL (bX fq dg rfl rfl)) (hv hF (oF (ag kN rfl)) (hv hF (x := .d (.agg 2 [.i a2.entry.out, .i a2.entry.n])) (oL (bX iS fb rfl rfl)) ?_))))
 obtain ⟨x22, hx22, h⟩ := ac h
 refine cH hF (iU hx22) ?_
 refine hv hF (oC (mX u24 u9 u5)) (hv hF (oF (ag i6 rfl)) (hv hF (x := .d (.agg 5 [.l a2.pos.at_, .l a2.pos.h0, .l a2.pos.h1, .i a2.pos.rights, .i a2.pos.side])) (oL (bX fq dg rfl rfl)) (hv hF (oF (ag kN rfl)) (hv hF (x := .d (.agg 2 [.i a2.entry.out, .i a2.entry.n])) (oL (bX iS fb rfl rfl)) ?_))))
 obtain ⟨x23, hx23, h⟩ := ac h
 refine cH hF (f9 hx23) ?_
 refine hv hF (oC (mX u24 u9 u5)) ?_
 refine hE ?_
 refine gv hF (oB (Bq rfl)) (gv hF (ah rfl rfl rfl) (sn ?_))
 refine bu hF rfl (fun hc24 => ?_) (fun hc24 => ?_)
 ·replace h := ifT hc24 h
  refine sr hF (gv hF oA (sn (Sm.ret ?_)))
  obtain rfl := ae h
  exact bg rfl rfl
 replace h := ifF hc24 h
 refine sk (Sm.seq ?_)
 obtain ⟨o44, ho44, h⟩ := ac h
 rcases nr o44 with ⟨e45, rfl⟩ | ⟨v39, rfl⟩
 ·have he45 := ae h
  subst he45
  replace h := ho44
  refine sr hF (gv hF oA (sn (Sm.block ?_)))
  refine bz (bL a2 x6 x7) (fun s25 => ⟨[(5, .d (.ptr 11 (Ans.row a2))), (7, .d (.v (.bool x1))), (8, .d (.list 5 (x6.1.map Ps.row) false)), (9, .d (.list 2 (x6.2.map Rs.row) false)), (10, .ref 0 0 0), (11, .i s25)], [(0, ⟨32, [(aK x7).map V.d]⟩)], 1⟩) (-1) h (kA) ?_
  intro n26 s25 o27 h hd28
  unfold bL at h
  refine Sm.seq (sr hF (gv hF oM (gv hF oM (gv hF (oN (bc u40)) (gv hF (oB (pD)) (sn ?_))))))
  refine aL hF rfl (fun hc29 => ?_) (fun hc29 => ?_)
  ·replace h := ifF hc29 h
   refine Sm.exit ?_
   replace h := aH h hd28
   cases h
  replace h := ifT hc29 h
  refine sk (Sm.seq (Sm.block (sr hF (gv hF oM (gv hF oM (gv hF (oF (ag gN rfl)) (gv hF (oL (lP1 ag3 rfl)) (gv hF oM ?_))))))))
  obtain ⟨x30, hx30, h⟩ := ac h
  refine cS hF (f6 hx30) ?_
  refine gv hF oM (gv hF (aX rfl rfl rfl) (gv hF (aX rfl rfl rfl) ?_))
  refine SmG.new hF rfl rfl rfl (aI rfl nm) ?_
  refine SmG.store hF rfl rfl rfl rfl rfl (aZ (ys := [.i x30.1.version, .i x30.1.index, .i x30.1.count, .l x30.1.pos.at_, .l x30.1.pos.h0, .l x30.1.pos.h1, .i x30.1.pos.rights, .i x30.1.pos.side, .i x30.1.entry.out, .i x30.1.entry.n, .d (.list 32 (x30.1.proof.map aK) false)]) (r := [.i 0, .i 0, .i 0, .z, .z, .z, .i 0, .i 0, .i 0, .i 0, .z]) (rows' := [[.i x30.1.version, .i x30.1.index, .i x30.1.count, .l x30.1.pos.at_, .l x30.1.pos.h0, .l x30.1.pos.h1, .i x30.1.pos.rights, .i x30.1.pos.side, .i x30.1.entry.out, .i x30.1.entry.n, .d (.list 32 (x30.1.proof.map aK) false)]]) rfl rfl rfl dX rfl rfl rfl rfl rfl) ?_
  refine gv hF oA (sn (sr hF (gv hF oM (gv hF oM (gv hF (oF (ag gN rfl)) (gv hF (oL (lP1 ag3 rfl)) (gv hF oM ?_)))))))
  obtain ⟨x31, hx31, h⟩ := ac h
  refine cS hF (jo hx31) ?_
  refine gv hF oM (gv hF (aX rfl rfl rfl) (gv hF (aX rfl rfl rfl) ?_))
  refine SmG.new hF rfl rfl rfl (aI rfl nm) ?_
  refine SmG.store hF rfl rfl rfl rfl rfl (aZ (ys := [.i x31.1.version, .i x31.1.index, .i x31.1.count, .l x31.1.pos.at_, .l x31.1.pos.h0, .l x31.1.pos.h1, .i x31.1.pos.rights, .i x31.1.pos.side, .i x31.1.entry.out, .i x31.1.entry.n, .d (.list 32 (x31.1.proof.map aK) false)]) (r := [.i 0, .i 0, .i 0, .z, .z, .z, .i 0, .i 0, .i 0, .i 0, .z]) (rows' := [[.i x31.1.version, .i x31.1.index, .i x31.1.count, .l x31.1.pos.at_, .l x31.1.pos.h0, .l x31.1.pos.h1, .i x31.1.pos.rights, .i x31.1.pos.side, .i x31.1.entry.out, .i x31.1.entry.n, .d (.list 32 (x31.1.proof.map aK) false)]]) rfl rfl rfl dX rfl rfl rfl rfl rfl) ?_
  refine gv hF oA (sn (Sm.seq ?_))
  refine dG hF 19 ?_
  refine hv hF (x := .d (.agg 11 [.i x30.1.version, .i x30.1.index, .i x30.1.count, .l x30.1.pos.at_, .l x30.1.pos.h0, .l x30.1.pos.h1, .i x30.1.pos.rights, .i x30.1.pos.side, .i x30.1.entry.out, .i x30.1.entry.n, .list 32 (x30.1.proof.map aK) false])) (oL (aE rfl rfl gA dX rfl rfl)) (hv hF (x := .d (.agg 11 [.i x31.1.version, .i x31.1.index, .i x31.1.count, .l x31.1.pos.at_, .l x31.1.pos.h0, .l x31.1.pos.h1, .i x31.1.pos.rights, .i x31.1.pos.side, .i x31.1.entry.out, .i x31.1.entry.n, .list 32 (x31.1.proof.map aK) false])) (oL (aE rfl rfl gA dX rfl rfl)) ?_)
  obtain ⟨x32, hx32, h⟩ := ac h
  refine cH hF (jM hx32) ?_
  refine hv hF (iG rfl rfl (iW _)) ?_
  rcases dU (!x32) with hc33 | hc33
  ·replace h := ifT hc33 h
   refine hv hF (am rfl rfl hc33) (hp hF (hp hF (hp hF (hv hF (aw rfl rfl rfl) (hv hF oM (hp hF (hp hF (hp hF ?_))))))))
   refine hp hF (hp hF (hp hF (hp hF (hp hF (hp hF ?_)))))
   refine hE ?_
   refine gp hF (gp hF (gv hF (aw rfl rfl rfl) (sn ?_)))
   refine aW hF rfl ?_
   refine sr hF (gv hF oA (sn (Sm.ret ?_)))
   replace h := aH h hd28
   replace h := iR h
   obtain rfl := ae h
   exact bg rfl rfl
  replace h := ifF hc33 h
  refine hv hF (am rfl rfl hc33) (hv hF oM (hv hF oM (hv hF (oB (kH)) (hv hF (ah rfl rfl rfl) ?_))))
  rcases dU (x30.2 != x31.2) with hc34 | hc34
  ·replace h := ifT hc34 h
   refine hv hF (am rfl rfl hc34) (hp hF (hp hF (hp hF (hp hF (hp hF (hp hF (hp hF (hp hF ?_))))))))
   refine hp hF ?_
   refine hE ?_
   refine gp hF (gp hF (gv hF (aw rfl rfl rfl) (sn ?_)))
   refine aW hF rfl ?_
   refine sr hF (gv hF oA (sn (Sm.ret ?_)))
   replace h := aH h hd28
   replace h := iR h
   obtain rfl := ae h
   exact bg rfl rfl
  replace h := ifF hc34 h
  refine hv hF (am rfl rfl hc34) (hv hF (x := .d (.agg 32 (aK x7))) (oL (iF rfl jA iw)) (hv hF (oF (ag gN rfl)) (hv hF (oL (lP1 ag3 rfl)) (hv hF (x := .d (.agg 11 [.i x31.1.version, .i x31.1.index, .i x31.1.count, .l x31.1.pos.at_, .l x31.1.pos.h0, .l x31.1.pos.h1, .i x31.1.pos.rights, .i x31.1.pos.side, .i x31.1.entry.out, .i x31.1.entry.n, .list 32 (x31.1.proof.map aK) false])) (oL (aE rfl rfl gA dX rfl rfl)) ?_))))
  obtain ⟨x35, hx35, h⟩ := ac h
  refine cH hF (fu hx35) ?_
  refine hv hF (x := .d (.agg 32 (aK x7))) (oL (iF rfl jA iw)) (hv hF (oF (ag gN rfl)) (hv hF (oL (lP1 ag3 rfl)) (hv hF (x := .d (.agg 11 [.i x31.1.version, .i x31.1.index, .i x31.1.count, .l x31.1.pos.at_, .l x31.1.pos.h0, .l x31.1.pos.h1, .i x31.1.pos.rights, .i x31.1.pos.side, .i x31.1.entry.out, .i x31.1.entry.n, .list 32 (x31.1.proof.map aK) false])) (oL (aE rfl rfl gA dX rfl rfl)) ?_)))
  refine hE ?_
  obtain ⟨x36, hx36, h⟩ := ac h
  refine cS hF (gX hx36) ?_
  refine gv hF (oB (wU _ _ _ _ (by kernel_rfl) rfl)) (gv hF (ah rfl rfl rfl) (sn ?_))
  refine bu hF rfl (fun hc37 => ?_) (fun hc37 => ?_)
  ·replace h := ifT hc37 h
   refine sr hF (gv hF oA (sn (Sm.ret ?_)))
   replace h := aH h hd28
   replace h := iR h
   obtain rfl := ae h
   exact bg rfl rfl
  replace h := ifF hc37 h
  refine Sm.skip ?_
  refine ay (aa ?_)
  refine ab hF rfl ?_
  refine gv hF oM ?_
  obtain ⟨x38, hx38, h⟩ := ac h
  refine gv hF (oB (bb hx38)) (gv hF oA (SmG.nil ?_))
  exact bC (bn h hd28) (aS (kA (e := [(5, .d (.ptr 11 (Ans.row a2))), (7, .d (.v (.bool x1))), (8, .d (.list 5 (x6.1.map Ps.row) false)), (9, .d (.list 2 (x6.2.map Rs.row) false)), (10, .ref 0 0 0), (11, .i x38)]) (g := [(0, ⟨32, [(aK x7).map V.d]⟩)]) (m := 3)) (xA 1))
 refine bj ⟨[(5, .d (.ptr 11 (Ans.row a2))), (7, .d (.v (.bool x1))), (10, .ref 0 0 0)], [(0, ⟨32, [(aK x7).map V.d]⟩)], 1⟩ ?_ ?_
 ·refine Sm.seq ?_
  refine sr hF (gv hF (oF (ag nf rfl)) (gv hF (oL (lP1 ag3 rfl)) (gv hF (oB (kE)) (sn ?_))))
  refine bu hF rfl (fun hc40 => ?_) (fun hc40 => ?_)
  ·replace h := ifT hc40 h
   refine sr hF (gv hF oM (gv hF oA (sn (Sm.ret ?_))))
   obtain rfl := ae h
   exact bg rfl rfl
  replace h := ifF hc40 h
  refine sk (Sm.seq ?_)
  refine dG hF 11 ?_
  refine hv hF oM ?_
  rcases bG x1 with hc41 | hc41
  ·replace h := ifF hc41 h
   refine hv hF (am rfl rfl hc41) (hp hF (hp hF (hp hF (hp hF (hp hF (hp hF (hp hF (hp hF ?_))))))))
   refine hp hF ?_
   refine hE ?_
   refine gp hF (gp hF (gv hF (ah rfl rfl rfl) (gv hF oA (sn (Sm.ret ?_)))))
   obtain rfl := ae h
   exact bg rfl rfl
  replace h := ifT hc41 h
  refine hv hF (am rfl rfl hc41) (hv hF (x := .d (.agg 32 (aK x7))) (oL (iF rfl jA iw)) (hv hF (oF (ag gN rfl)) (hv hF (oL (lP1 ag3 rfl)) (hv hF (x := .d (.agg 11 (Ans.row a2))) (oL (bX gA dX rfl rfl)) ?_))))
  obtain ⟨x42, hx42, h⟩ := ac h
  refine cH hF (fu hx42) ?_
  refine hv hF (x := .d (.agg 32 (aK x7))) (oL (iF rfl jA iw)) (hv hF (oF (ag gN rfl)) (hv hF (oL (lP1 ag3 rfl)) (hv hF (x := .d (.agg 11 (Ans.row a2))) (oL (bX gA dX rfl rfl)) ?_)))
  refine hE ?_
  obtain ⟨x43, hx43, h⟩ := ac h
  refine cS hF (gX hx43) ?_
  refine gv hF (oB (BE _ _ _ _ (by kernel_rfl) rfl)) (gv hF (aw rfl rfl rfl) (gv hF oA (sn (Sm.ret ?_))))
  obtain rfl := ae h
  exact bg rfl rfl
 replace h := ho44
 refine sr hF (gv hF oA (sn (Sm.block ?_)))
 refine bz (bL a2 x6 x7) (fun s25 => ⟨[(5, .d (.ptr 11 (Ans.row a2))), (7, .d (.v (.bool x1))), (8, .d (.list 5 (x6.1.map Ps.row) false)), (9, .d (.list 2 (x6.2.map Rs.row) false)), (10, .ref 0 0 0), (11, .i s25)], [(0, ⟨32, [(aK x7).map V.d]⟩)], 1⟩) (-1) h (kA) ?_
 intro n26 s25 o27 h hd28
 unfold bL at h
 refine Sm.seq (sr hF (gv hF oM (gv hF oM (gv hF (oN (bc u40)) (gv hF (oB (pD)) (sn ?_))))))
 refine aL hF rfl (fun hc29 => ?_) (fun hc29 => ?_)
 ·replace h := ifF hc29 h
  refine Sm.exit ?_
  replace h := aH h hd28
  obtain rfl := ae (ip h)
  exact (kA)
 replace h := ifT hc29 h
 refine sk (Sm.seq (Sm.block (sr hF (gv hF oM (gv hF oM (gv hF (oF (ag gN rfl)) (gv hF (oL (lP1 ag3 rfl)) (gv hF oM ?_))))))))
 obtain ⟨x30, hx30, h⟩ := ac h
 refine cS hF (f6 hx30) ?_
 refine gv hF oM (gv hF (aX rfl rfl rfl) (gv hF (aX rfl rfl rfl) ?_))
 refine SmG.new hF rfl rfl rfl (aI rfl nm) ?_
 refine SmG.store hF rfl rfl rfl rfl rfl (aZ (ys := [.i x30.1.version, .i x30.1.index, .i x30.1.count, .l x30.1.pos.at_, .l x30.1.pos.h0, .l x30.1.pos.h1, .i x30.1.pos.rights, .i x30.1.pos.side, .i x30.1.entry.out, .i x30.1.entry.n, .d (.list 32 (x30.1.proof.map aK) false)]) (r := [.i 0, .i 0, .i 0, .z, .z, .z, .i 0, .i 0, .i 0, .i 0, .z]) (rows' := [[.i x30.1.version, .i x30.1.index, .i x30.1.count, .l x30.1.pos.at_, .l x30.1.pos.h0, .l x30.1.pos.h1, .i x30.1.pos.rights, .i x30.1.pos.side, .i x30.1.entry.out, .i x30.1.entry.n, .d (.list 32 (x30.1.proof.map aK) false)]]) rfl rfl rfl dX rfl rfl rfl rfl rfl) ?_
 refine gv hF oA (sn (sr hF (gv hF oM (gv hF oM (gv hF (oF (ag gN rfl)) (gv hF (oL (lP1 ag3 rfl)) (gv hF oM ?_)))))))
 obtain ⟨x31, hx31, h⟩ := ac h
 refine cS hF (jo hx31) ?_
 refine gv hF oM (gv hF (aX rfl rfl rfl) (gv hF (aX rfl rfl rfl) ?_))
 refine SmG.new hF rfl rfl rfl (aI rfl nm) ?_
 refine SmG.store hF rfl rfl rfl rfl rfl (aZ (ys := [.i x31.1.version, .i x31.1.index, .i x31.1.count, .l x31.1.pos.at_, .l x31.1.pos.h0, .l x31.1.pos.h1, .i x31.1.pos.rights, .i x31.1.pos.side, .i x31.1.entry.out, .i x31.1.entry.n, .d (.list 32 (x31.1.proof.map aK) false)]) (r := [.i 0, .i 0, .i 0, .z, .z, .z, .i 0, .i 0, .i 0, .i 0, .z]) (rows' := [[.i x31.1.version, .i x31.1.index, .i x31.1.count, .l x31.1.pos.at_, .l x31.1.pos.h0, .l x31.1.pos.h1, .i x31.1.pos.rights, .i x31.1.pos.side, .i x31.1.entry.out, .i x31.1.entry.n, .d (.list 32 (x31.1.proof.map aK) false)]]) rfl rfl rfl dX rfl rfl rfl rfl rfl) ?_
 refine gv hF oA (sn (Sm.seq ?_))
 refine dG hF 19 ?_
 refine hv hF (x := .d (.agg 11 [.i x30.1.version, .i x30.1.index, .i x30.1.count, .l x30.1.pos.at_, .l x30.1.pos.h0, .l x30.1.pos.h1, .i x30.1.pos.rights, .i x30.1.pos.side, .i x30.1.entry.out, .i x30.1.entry.n, .list 32 (x30.1.proof.map aK) false])) (oL (aE rfl rfl gA dX rfl rfl)) (hv hF (x := .d (.agg 11 [.i x31.1.version, .i x31.1.index, .i x31.1.count, .l x31.1.pos.at_, .l x31.1.pos.h0, .l x31.1.pos.h1, .i x31.1.pos.rights, .i x31.1.pos.side, .i x31.1.entry.out, .i x31.1.entry.n, .list 32 (x31.1.proof.map aK) false])) (oL (aE rfl rfl gA dX rfl rfl)) ?_)
 obtain ⟨x32, hx32, h⟩ := ac h
 refine cH hF (jM hx32) ?_
 refine hv hF (iG rfl rfl (iW _)) ?_
 rcases dU (!x32) with hc33 | hc33
 ·replace h := ifT hc33 h
  refine hv hF (am rfl rfl hc33) (hp hF (hp hF (hp hF (hv hF (aw rfl rfl rfl) (hv hF oM (hp hF (hp hF (hp hF ?_))))))))
  refine hp hF (hp hF (hp hF (hp hF (hp hF (hp hF ?_)))))
  refine hE ?_
  refine gp hF (gp hF (gv hF (aw rfl rfl rfl) (sn ?_)))
  refine aW hF rfl ?_
  refine sr hF (gv hF oA (sn (Sm.ret ?_)))
  replace h := aH h hd28
  cases h
 replace h := ifF hc33 h
 refine hv hF (am rfl rfl hc33) (hv hF oM (hv hF oM (hv hF (oB (kH)) (hv hF (ah rfl rfl rfl) ?_))))
 rcases dU (x30.2 != x31.2) with hc34 | hc34
 ·replace h := ifT hc34 h
  refine hv hF (am rfl rfl hc34) (hp hF (hp hF (hp hF (hp hF (hp hF (hp hF (hp hF (hp hF ?_))))))))
  refine hp hF ?_
  refine hE ?_
  refine gp hF (gp hF (gv hF (aw rfl rfl rfl) (sn ?_)))
  refine aW hF rfl ?_
  refine sr hF (gv hF oA (sn (Sm.ret ?_)))
  replace h := aH h hd28
  cases h
 replace h := ifF hc34 h
 refine hv hF (am rfl rfl hc34) (hv hF (x := .d (.agg 32 (aK x7))) (oL (iF rfl jA iw)) (hv hF (oF (ag gN rfl)) (hv hF (oL (lP1 ag3 rfl)) (hv hF (x := .d (.agg 11 [.i x31.1.version, .i x31.1.index, .i x31.1.count, .l x31.1.pos.at_, .l x31.1.pos.h0, .l x31.1.pos.h1, .i x31.1.pos.rights, .i x31.1.pos.side, .i x31.1.entry.out, .i x31.1.entry.n, .list 32 (x31.1.proof.map aK) false])) (oL (aE rfl rfl gA dX rfl rfl)) ?_))))
 obtain ⟨x35, hx35, h⟩ := ac h
 refine cH hF (fu hx35) ?_
 refine hv hF (x := .d (.agg 32 (aK x7))) (oL (iF rfl jA iw)) (hv hF (oF (ag gN rfl)) (hv hF (oL (lP1 ag3 rfl)) (hv hF (x := .d (.agg 11 [.i x31.1.version, .i x31.1.index, .i x31.1.count, .l x31.1.pos.at_, .l x31.1.pos.h0, .l x31.1.pos.h1, .i x31.1.pos.rights, .i x31.1.pos.side, .i x31.1.entry.out, .i x31.1.entry.n, .list 32 (x31.1.proof.map aK) false])) (oL (aE rfl rfl gA dX rfl rfl)) ?_)))
 refine hE ?_
 obtain ⟨x36, hx36, h⟩ := ac h
 refine cS hF (gX hx36) ?_
 refine gv hF (oB (wU _ _ _ _ (by kernel_rfl) rfl)) (gv hF (ah rfl rfl rfl) (sn ?_))
 refine bu hF rfl (fun hc37 => ?_) (fun hc37 => ?_)
 ·replace h := ifT hc37 h
  refine sr hF (gv hF oA (sn (Sm.ret ?_)))
  replace h := aH h hd28
  cases h
 replace h := ifF hc37 h
 refine Sm.skip ?_
 refine ay (aa ?_)
 refine ab hF rfl ?_
 refine gv hF oM ?_
 obtain ⟨x38, hx38, h⟩ := ac h
 refine gv hF (oB (bb hx38)) (gv hF oA (SmG.nil ?_))
 exact bC (bn h hd28) (aS (kA (e := [(5, .d (.ptr 11 (Ans.row a2))), (7, .d (.v (.bool x1))), (8, .d (.list 5 (x6.1.map Ps.row) false)), (9, .d (.list 2 (x6.2.map Rs.row) false)), (10, .ref 0 0 0), (11, .i x38)]) (g := [(0, ⟨32, [(aK x7).map V.d]⟩)]) (m := 3)) (xA 1))
end
section
open Go.RowKit
set_option maxRecDepth 100000
theorem mo (a b : Int) : Ok (cO a b) fun v => (v = 0 ↔ a = b) := by
 unfold cO
 refine Ok.cond (fun h => Ok.ret ?_) fun h => Ok.cond (fun h2 => Ok.ret ?_) fun h2 => Ok.ret ?_
 all_goals simp only [decide_eq_true_eq, decide_eq_false_iff_not] at h
 ·omega
 ·simp only [decide_eq_true_eq] at h2; omega
 ·simp only [decide_eq_false_iff_not] at h2; omega
theorem rz (a b : List Int) (ha : a.length ≤ 9223372036854775807) : Ok (dR a b) fun v => (v = 0 ↔ a = b) := by
 unfold dR
 refine Ok.bind (P := fun o => match o with | .inl () => a.take (min a.length b.length) = b.take (min a.length b.length) | .inr v => v ≠ 0 ∧ a ≠ b) ?_ ?_
 ·refine Ok.loop (fun s : Int => ∃ i : Nat, s = i ∧ i ≤ a.length ∧ i ≤ b.length ∧ a.take i = b.take i) (fun s : Int => a.length - s.toNat) ⟨0, rfl, by omega, by omega, by simp⟩ ?_
  rintro _ ⟨i, rfl, h1, h2, h3⟩
  unfold dO
  refine Ok.cond (fun c1 => ?_) fun c1 => Ok.ret ?_
  ·refine Ok.cond (fun c2 => ?_) fun c2 => Ok.ret ?_
   ·simp only [decide_eq_true_eq] at c1 c2
    have ea : a[i]? = some (a[i]'(by omega)) := List.getElem?_eq_getElem _
    have eb : b[i]? = some (b[i]'(by omega)) := List.getElem?_eq_getElem _
    generalize a[i]'(by omega) = x at ea
    generalize b[i]'(by omega) = y at eb
    simp only [fS, ea, eb, ai]
    refine Ok.cond (fun c3 => ?_) fun c3 => ?_
    ·refine Ok.bind (mo x y) fun v hv => Ok.ret ?_
     have hxy : x ≠ y := by simpa using c3
     exact ⟨fun h => hxy (hv.1 h), fun h => by subst h; rw [ea] at eb; exact hxy (Option.some.inj eb)⟩
    ·have hxy : x = y := by simpa using c3
     rw [aV (by omega), ai]
     refine Ok.ret ⟨⟨i + 1, by omega, by omega, by omega, ?_⟩, by omega⟩
     rw [List.take_add_one, List.take_add_one, ea, eb, h3, hxy]
   ·simp only [decide_eq_false_iff_not] at c2
    have : min a.length b.length = i := by omega
    simp only [this]; exact h3
  ·simp only [decide_eq_false_iff_not] at c1
   have : min a.length b.length = i := by omega
   simp only [this]; exact h3
 ·rintro (⟨⟩ | v) h
  ·refine Ok.bind (mo _ _) fun v hv => Ok.ret ?_
   simp only at h
   rw [hv]
   constructor
   ·intro e
    have e : a.length = b.length := by omega
    rw [e, Nat.min_self, List.take_length] at h
    rw [← e, List.take_length] at h
    exact h
   ·intro e; rw [e]
  ·exact Ok.ret ⟨fun e => absurd e h.1, fun e => absurd e h.2⟩
structure PsFit (p : Ps) : Prop where
 a : p.at_.length ≤ 9223372036854775807
 b : p.h0.length ≤ 9223372036854775807
 c : p.h1.length ≤ 9223372036854775807
theorem vA (p q : Ps) (hp : PsFit p) : Ok (e7 p q) fun v => (v = 0 ↔ p = q) := by
 unfold e7
 refine Ok.bind (rz _ _ hp.a) fun v1 h1 => ?_
 refine Ok.bind (rz _ _ hp.b) fun v2 h2 => ?_
 refine Ok.bind (rz _ _ hp.c) fun v3 h3 => ?_
 refine Ok.bind (mo _ _) fun v4 h4 => ?_
 refine Ok.bind (mo _ _) fun v5 h5 => ?_
 have hpq : p = q ↔ v1 = 0 ∧ v2 = 0 ∧ v3 = 0 ∧ v4 = 0 ∧ v5 = 0 := by
  rw [h1, h2, h3, h4, h5]
  obtain ⟨a, b, c, d, e⟩ := p
  obtain ⟨a', b', c', d', e'⟩ := q
  simp only [Ps.mk.injEq]
 rw [hpq]
 refine Ok.bind (P := fun o => match o with | .inl () => ∀ i, i < 5 → [v1, v2, v3, v4, v5][i]? = some 0 | .inr v => v ≠ 0 ∧ v ∈ [v1, v2, v3, v4, v5]) ?_ ?_
 ·refine Ok.loop (fun s : Int => ∃ i : Nat, s = i ∧ i ≤ 5 ∧ ∀ j, j < i → [v1, v2, v3, v4, v5][j]? = some 0) (fun s : Int => 5 - s.toNat) ⟨0, rfl, by omega, fun j h => by omega⟩ ?_
  rintro _ ⟨i, rfl, hi, hall⟩
  unfold cZ
  refine Ok.cond (fun c1 => ?_) fun c1 => Ok.ret ?_
  ·simp only [decide_eq_true_eq, List.length_cons, List.length_nil] at c1
   have hi5 : i < [v1, v2, v3, v4, v5].length := by simp only [List.length_cons, List.length_nil]; omega
   have e : [v1, v2, v3, v4, v5][i]? = some ([v1, v2, v3, v4, v5][i]'hi5) := List.getElem?_eq_getElem _
   generalize [v1, v2, v3, v4, v5][i]'hi5 = x at e
   simp only [fS, e, ai]
   refine Ok.cond (fun c2 => Ok.ret ⟨by simpa using c2, List.mem_of_getElem? e⟩) fun c2 => ?_
   rw [aV (by omega), ai]
   refine Ok.ret ⟨⟨i + 1, by omega, by omega, fun j hj => ?_⟩, by omega⟩
   rcases Nat.lt_or_ge j i with h | h
   ·exact hall j h
   ·obtain rfl : j = i := by omega
    rw [e]; simpa using c2
  ·simp only [decide_eq_false_iff_not, List.length_cons, List.length_nil] at c1
   intro j hj; exact hall j (by omega)
 ·rintro (⟨⟩ | v) h
  ·refine Ok.ret ?_
   simp only at h
   have g0 := h 0 (by omega); have g1 := h 1 (by omega); have g2 := h 2 (by omega); have g3 := h 3 (by omega); have g4 := h 4 (by omega)
   simp at g0 g1 g2 g3 g4
   simp [g0, g1, g2, g3, g4]
  ·refine Ok.ret ⟨fun e => absurd e h.1, fun e => ?_⟩
   obtain ⟨e1, e2, e3, e4, e5⟩ := e
   have := h.2
   simp [e1, e2, e3, e4, e5] at this
   exact this
theorem zR (p q : Ps) (hp : PsFit p) : eU p q = some (decide (p = q)) := by
 unfold eU
 obtain ⟨v, h1, h2⟩ := vA p q hp
 rw [gE h1]
 congr 1
 rw [Bool.eq_iff_iff]
 simp [h2]
end
section
open Go.RowKit
set_option maxRecDepth 100000
theorem nD {α : Type} (ls : List (List α)) (i : Nat) (x : List α) (h : ls[i]? = some x) : (ls.take (i + 1)).flatten.length = (ls.take i).flatten.length + x.length ∧ (ls.take (i + 1)).flatten = (ls.take i).flatten ++ x := by
 have hi := (List.getElem?_eq_some_iff.1 h).1
 rw [List.take_add_one, h]; simp
theorem jU {α : Type} (ls : List (List α)) (i : Nat) : (ls.take i).flatten.length ≤ ls.flatten.length := by
 have := congrArg (fun l => l.flatten.length) (List.take_append_drop i ls)
 simp only [List.flatten_append, List.length_append] at this
 omega
theorem sP (n : Int) (h : 0 ≤ n ∧ n ≤ 4294967296) : ey [] n = some [] := by
 refine Ok.get ?_
 unfold ey
 refine Ok.cond (fun c => ?_) fun _ => ?_
 ·simp only [decide_eq_true_eq] at c; omega
 ·rw [aV (by omega), ai]
  refine Ok.cond (fun c => ?_) fun _ => Ok.ret rfl
  simp only [decide_eq_true_eq] at c
  have : ri (n - 0) = some (n - 0).toNat := if_pos (by omega)
  rw [this, ai]; exact Ok.ret rfl
theorem rJ (ls : List (List Int)) (h : ls.flatten.length ≤ 4294967296) (hl : ls.length ≤ 4294967296) : dK ls = some ls.flatten := by
 unfold dK
 have h1 : bH (cb ls) (0, 0) = some (ls.flatten.length : Int) := by
  have := l9 (body := cb ls) (fun i => (((ls.take i).flatten.length : Nat), (i : Int))) ls.length (e := (ls.flatten.length : Int)) (fun i hi => by
   have hx : ls[i]? = some (ls[i]'hi) := List.getElem?_eq_getElem _
   generalize ls[i]'hi = x at hx
   have hle := jU ls (i + 1)
   have hst := (nD ls i x hx).1
   unfold cb
   simp only
   rw [jO (by omega), cond_true, fS, hx, ai, aV (by omega), ai, gV (by omega), cond_false, aV (by omega), ai, hst]
   rfl) (by
   unfold cb
   simp only [List.take_length]
   rw [gV (by omega), cond_false])
  simpa using this
 rw [gE h1, gE (sP _ (by omega))]
 have h2 : bH (cc ls) (0, []) = some ls.flatten := by
  have := l9 (body := cc ls) (fun i => ((i : Int), (ls.take i).flatten)) ls.length (e := ls.flatten) (fun i hi => by
   have hx : ls[i]? = some (ls[i]'hi) := List.getElem?_eq_getElem _
   generalize ls[i]'hi = x at hx
   have hle := jU ls (i + 1)
   obtain ⟨hst, hst2⟩ := nD ls i x hx
   unfold cc
   simp only
   rw [jO (by omega), cond_true, fS, hx, ai, cg (by omega), ai, aV (by omega), ai, hst2]
   rfl) (by
   unfold cc
   simp only [List.take_length]
   rw [gV (by omega), cond_false])
  simpa using this
 rw [gE h2]
theorem re (n : Int) (h : 0 ≤ n ∧ n ≤ 4294967296) : dM [] n = some [] := by
 refine Ok.get ?_
 unfold dM
 refine Ok.cond (fun c => ?_) fun _ => ?_
 ·simp only [decide_eq_true_eq] at c; omega
 ·rw [aV (by omega), ai]
  refine Ok.cond (fun c => ?_) fun _ => Ok.ret rfl
  simp only [decide_eq_true_eq] at c
  have : ri (n - 0) = some (n - 0).toNat := if_pos (by omega)
  rw [this, ai]; exact Ok.ret rfl
theorem qa (ls : List (List UInt8)) (h : ls.flatten.length ≤ 4294967296) (hl : ls.length ≤ 4294967296) : dk ls = some ls.flatten := by
 unfold dk
 have h1 : bH (bW ls) (0, 0) = some (ls.flatten.length : Int) := by
  have := l9 (body := bW ls) (fun i => (((ls.take i).flatten.length : Nat), (i : Int))) ls.length (e := (ls.flatten.length : Int)) (fun i hi => by
   have hx : ls[i]? = some (ls[i]'hi) := List.getElem?_eq_getElem _
   generalize ls[i]'hi = x at hx
   have hle := jU ls (i + 1)
   have hst := (nD ls i x hx).1
   unfold bW
   simp only
   rw [jO (by omega), cond_true, fS, hx, ai, aV (by omega), ai, gV (by omega), cond_false, aV (by omega), ai, hst]
   rfl) (by
   unfold bW
   simp only [List.take_length]
   rw [gV (by omega), cond_false])
  simpa using this
 rw [gE h1, gE (re _ (by omega))]
 have h2 : bH (bV ls) (0, []) = some ls.flatten := by
  have := l9 (body := bV ls) (fun i => ((i : Int), (ls.take i).flatten)) ls.length (e := ls.flatten) (fun i hi => by
   have hx : ls[i]? = some (ls[i]'hi) := List.getElem?_eq_getElem _
   generalize ls[i]'hi = x at hx
   have hle := jU ls (i + 1)
   obtain ⟨hst, hst2⟩ := nD ls i x hx
   unfold bV
   simp only
   rw [jO (by omega), cond_true, fS, hx, ai, cg (by omega), ai, aV (by omega), ai, hst2]
   rfl) (by
   unfold bV
   simp only [List.take_length]
   rw [gV (by omega), cond_false])
  simpa using this
 rw [gE h2]
theorem Aw (n : Int) : w8 n = kx n := rfl
theorem qW (p : Ps) (h : p.at_.length ≤ 1000000000) (h0 : p.h0.length ≤ 1000000000) (h1 : p.h1.length ≤ 1000000000) : dP p = some (eO p) := by
 unfold dP eO
 rw [cg (by simp; omega), ai, cg (by simp; omega), ai, cg (by simp; omega), ai, cg (by simp; omega), ai]
 simp
theorem qA {body : (Int × List UInt8) → Option ((Int × List UInt8) ⊕ List UInt8)} (l : List Int) (hl : l.length ≤ 4294967295)
  (hb : ∀ s, body s = (bif (decide (s.1 < (l.length : Int))) then (ob (idx l s.1) fun x => ob (app s.2 [(w8 x)]) fun y => ob (arI .i64 (s.1 + 1)) fun z => some (.inl (z, y))) else some (.inr s.2))) : bH body (0, []) = some (l.map kx) :=
 mj l kx (fun i x acc hx hacc => by
  have hi := (List.getElem?_eq_some_iff.1 hx).1
  rw [hb]
  simp only
  rw [jO (by omega), cond_true, fS, hx, ai, cg (by simp; omega), ai, aV (by omega), ai]; rfl) (fun acc => by
  rw [hb]; simp only
  rw [gV (by omega), cond_false])
theorem xY (p : Ps) (h : p.at_.length ≤ 1000000000) (h0 : p.h0.length ≤ 1000000000) (h1 : p.h1.length ≤ 1000000000) : f8 p = some (ou p) := by
 unfold f8
 rw [qW p h h0 h1, ai, qA (body := gc (eO p)) (eO p) (by simp [eO]; omega) (fun s => rfl), ai]; rfl
theorem AB (p : Ps) (h : p.at_.length ≤ 1000000000) (h0 : p.h0.length ≤ 1000000000) (h1 : p.h1.length ≤ 1000000000) : kT p = some (ou p) := by
 unfold kT
 rw [rJ _ (by simp; omega) (by simp), ai]
 have : [p.at_, p.h0, p.h1, [p.rights, p.side]].flatten = eO p := by simp [eO]
 rw [this, qA (body := jL (eO p)) (eO p) (by simp [eO]; omega) (fun s => rfl), ai]; rfl
theorem tY (l : List Int) (h : l.length ≤ 4294967295) : gl l = some (l.map kx) := by
 unfold gl
 rw [qA (body := gT l) l h (fun s => rfl), ai]
structure PsB (p : Ps) : Prop where
 a : p.at_.length ≤ 1000000000
 b : p.h0.length ≤ 1000000000
 c : p.h1.length ≤ 1000000000
theorem PsB.fit {p : Ps} (h : PsB p) : PsFit p := ⟨by have := h.a; omega, by have := h.b; omega, by have := h.c; omega⟩
theorem ue (p : Ps) : (ou p).length = p.at_.length + p.h0.length + p.h1.length + 2 := by simp [ou, eO]; omega
theorem pw (p : Ps) (r : Rs) (h : PsB p) : fm p r = some (eI p r) := by
 have ha := h.a
 have hb := h.b
 have hc := h.c
 unfold fm
 have hk := ue p
 rw [tY _ (by simp), ai, AB p h.a h.b h.c, ai, rQ (by omega), ai, nz (by omega), ai, nz (by omega), ai, nz (by omega), ai, tY _ (by simp), ai, qa _ (by simp; omega) (by simp), ai]
 simp [eI, wC]
theorem lu (p : Ps) (r : Rs) (h : PsB p) : dh p r = some (eI p r) := by
 have ha := h.a
 have hb := h.b
 have hc := h.c
 unfold dh
 have hk := ue p
 rw [xY p h.a h.b h.c, ai, rQ (by omega), ai, cg (by simp; omega), ai, cg (by simp; omega), ai]
 have hloop : bH (da r) (3, [w8 p.at_.length, w8 p.h0.length, w8 p.h1.length] ++ ou p ++ [w8 r.out]) = some (eI p r) := by
  generalize hL : [w8 p.at_.length, w8 p.h0.length, w8 p.h1.length] ++ ou p ++ [w8 r.out] = L
  have hLl : L.length ≤ 4000000000 := by rw [← hL]; simp; omega
  have step : ∀ (i : Int) (l : List UInt8), 0 ≤ i → i ≤ 3 → l.length ≤ 4000000010 → da r (i, l) = some (.inl (i - 1, l ++ [w8 (r.n / 2 ^ (8 * i).toNat)])) := fun i l h0 h3 hl => by
   unfold da
   simp only
   rw [DZ (by omega), cond_true, aV (by omega), ai, nz (by omega), ai, cg (by simp; omega), ai, aV (by omega), ai]
  refine jg (step 3 _ (by omega) (by omega) (by omega)) (jg (step _ _ (by omega) (by omega) (by simp; omega)) (jg (step _ _ (by omega) (by omega) (by simp; omega)) (jg (step _ _ (by omega) (by omega) (by simp; omega)) (nS ?_))))
  unfold da
  simp only
  rw [zh (by omega), cond_false, ← hL]
  simp [eI, wC, Aw]
 rw [hloop, ai]
end
section
open Go.RowKit
set_option maxRecDepth 100000
structure BrdOk (b : Brd) : Prop where
 c1 : 1 ≤ b.cells
 c9 : b.cells ≤ 9
 nl : b.next.length = 8
 row : ∀ l ∈ b.next, (l.length : Int) = b.cells
 tl : b.turn.length = 8
theorem okT {α : Type} (v : α) : Ok (some v) fun _ => True := ⟨v, rfl, trivial⟩
theorem rh {a b : Int} (h : 0 < b) : Ok (cV a b) fun _ => True := ⟨_, if_neg (by omega), trivial⟩
theorem zz {w h : Int} (h1 : 1 ≤ w ∧ w ≤ 3) (h2 : 1 ≤ h ∧ h ≤ 3) : Ok (fK w h) fun r => BrdOk r.1 := by
 obtain ⟨n, hn, hn1, hn9⟩ : ∃ n : Int, w * h = n ∧ 1 ≤ n ∧ n ≤ 9 := by
  obtain rfl | rfl | rfl : w = 1 ∨ w = 2 ∨ w = 3 := by omega
  all_goals exact ⟨_, rfl, by omega, by omega⟩
 unfold fK
 rw [gV (by omega), cond_false, gV (by omega), cond_false, gV (by omega), cond_false, gV (by omega), cond_false, hn, aV (by omega), ai, gV (by omega), cond_false, ai]
 have hin : ∀ (d : Nat) (x : List (List Int)) (y : List Int), d < 8 → Ok (bH (e8 w h ((d : Int), x, y)) (0, [])) fun l => (l.length : Int) = n := by
  intro d x y hd
  refine Ok.loop (fun s : Int × List Int => ∃ i : Nat, s.1 = i ∧ (i : Int) ≤ n ∧ s.2.length = i) (fun s => n.toNat - s.1.toNat) ⟨0, rfl, by omega, rfl⟩ ?_
  rintro ⟨_, acc⟩ ⟨i, rfl, hi, ha⟩
  unfold e8
  simp only at ha ⊢
  rw [hn, aV (by omega), ai]
  refine Ok.cond (fun c1 => ?_) fun c1 => Ok.ret (by simp only [decide_eq_false_iff_not] at c1; omega)
  simp only [decide_eq_true_eq] at c1
  have hv : ∀ l : List Int, l.length = 8 → (∀ x ∈ l, -1 ≤ x ∧ x ≤ 1) → ∃ v, idx l (d : Int) = some v ∧ -1 ≤ v ∧ v ≤ 1 := fun l hl hx => ⟨_, dD (by omega) (by omega), hx _ (List.getElem_mem _)⟩
  obtain ⟨a, ha1, ha2⟩ := hv [0, 1, 1, 1, 0, (-1), (-1), (-1)] rfl (by decide)
  obtain ⟨b, hb1, hb2⟩ := hv [(-1), (-1), 0, 1, 1, 1, 0, (-1)] rfl (by decide)
  have q1 := Int.emod_nonneg (i : Int) (b := w) (by omega)
  have q2 := Int.emod_lt_of_pos (i : Int) (b := w) (by omega)
  have q3 : 0 ≤ (i : Int) / w := Int.ediv_nonneg (by omega) (by omega)
  have q4 : (i : Int) / w ≤ i := Int.ediv_le_self _ (by omega)
  rw [bR (by omega) (by omega), ai, ha1, ai, aV (by omega), ai, qf (by omega) (by omega), ai, hb1, ai, aV (by omega), ai]
  refine Ok.bind (P := fun _ => True) ?_ fun v _ => ?_
  ·refine Ok.cond (fun _ => Ok.cond (fun _ => Ok.cond (fun k1 => Ok.cond (fun k2 => ?_) fun _ => okT _) fun _ => okT _) fun _ => okT _) fun _ => okT _
   simp only [decide_eq_true_eq] at k1 k2
   generalize (i : Int) / w + b = z at k1 k2 ⊢
   have : 0 ≤ z * w ∧ z * w ≤ 27 := by
    obtain rfl | rfl | rfl : w = 1 ∨ w = 2 ∨ w = 3 := by omega
    all_goals omega
   rw [aV (by omega), ai, aV (by omega), ai]
   exact okT _
  ·rw [cg (by simp; omega), ai, aV (by omega), ai]
   exact Ok.ret ⟨⟨i + 1, by simp, by omega, by simp [ha]⟩, by simp only; omega⟩
 refine Ok.bind (P := fun r : List (List Int) × List Int => r.1.length = 8 ∧ r.2.length = 8 ∧ ∀ l ∈ r.1, (l.length : Int) = n) ?_ fun r hr => Ok.ret ⟨hn1, hn9, hr.1, hr.2.2, hr.2.1⟩
 refine Ok.loop (fun s : Int × List (List Int) × List Int => ∃ i : Nat, s.1 = i ∧ i ≤ 8 ∧ s.2.1.length = i ∧ s.2.2.length = i ∧ ∀ l ∈ s.2.1, (l.length : Int) = n) (fun s => 8 - s.1.toNat) ⟨0, rfl, by omega, rfl, rfl, fun _ h => by cases h⟩ ?_
 rintro ⟨_, x, y⟩ ⟨i, rfl, hi, hx, hy, hl⟩
 unfold fQ
 simp only at hx hy hl ⊢
 refine Ok.cond (fun c1 => ?_) fun c1 => Ok.ret (by simp only [decide_eq_false_iff_not] at c1; simp only; exact ⟨by omega, by omega, hl⟩)
 simp only [decide_eq_true_eq] at c1
 refine Ok.bind (P := fun s : List (List Int) × List Int => s.1.length = i + 1 ∧ s.2.length = i + 1 ∧ ∀ l ∈ s.1, (l.length : Int) = n) ?_ fun s hs => ?_
 ·refine Ok.bind (hin i x y (by omega)) fun v hv => ?_
  rw [cg (by simp; omega), ai, aV (by omega), ai, bR (by omega) (by omega), ai, cg (by simp; omega), ai]
  refine Ok.ret ⟨by simp [hx], by simp [hy], fun l hl' => ?_⟩
  rcases List.mem_append.1 hl' with h | h
  ·exact hl l h
  ·rw [List.mem_singleton.1 h]; exact hv
 ·rw [aV (by omega), ai]
  exact Ok.ret ⟨⟨i + 1, by simp, by omega, hs.1, hs.2.1, hs.2.2⟩, by simp only; omega⟩
theorem vK {b : Brd} {c : Int} (hb : BrdOk b) (hc0 : 0 ≤ c) (hc : c < b.cells) : Ok (eY b c) fun r => BrdOk r.1 := by
 obtain ⟨n, next, turn⟩ := b
 have h1 := hb.c1
 have h9 := hb.c9
 have hnl := hb.nl
 have hrow := hb.row
 have htl := hb.tl
 simp only at h1 h9 hnl hrow htl hc
 unfold eY
 simp only
 rw [gV (by omega), cond_false, zh (by omega), cond_false, cg (by simp; omega), ai]
 have hin : ∀ (d : Nat) (x : List (List Int)), d < 8 → Ok (bH (dS ⟨n, next, turn⟩ c ((d : Int), x)) (0, [])) fun l => (l.length : Int) = n := by
  intro d x hd
  refine Ok.loop (fun s : Int × List Int => ∃ i : Nat, s.1 = i ∧ (i : Int) ≤ n ∧ s.2.length = i) (fun s => n.toNat - s.1.toNat) ⟨0, rfl, by omega, rfl⟩ ?_
  rintro ⟨_, acc⟩ ⟨i, rfl, hi, ha⟩
  unfold dS
  simp only at ha ⊢
  refine Ok.cond (fun c1 => ?_) fun c1 => Ok.ret (by simp only [decide_eq_false_iff_not] at c1; omega)
  simp only [decide_eq_true_eq] at c1
  have hr := hrow (next[d]) (List.getElem_mem _)
  rw [dD (by omega) (by omega), ai]
  refine Ok.eq (dD (by omega) (by show (i : Int) < (next[d].length : Int); omega)) ?_
  refine Ok.bind (P := fun _ => True) (Ok.cond (fun _ => okT _) fun _ => Ok.cond (fun _ => okT _) fun _ => okT _) fun v _ => ?_
  rw [cg (by simp; omega), ai, aV (by omega), ai]
  exact Ok.ret ⟨⟨i + 1, by simp, by omega, by simp [ha]⟩, by simp only; omega⟩
 refine Ok.bind (P := fun r : List (List Int) => r.length = 8 ∧ ∀ l ∈ r, (l.length : Int) = n) ?_ fun r hr => Ok.ret ⟨h1, h9, hr.1, hr.2, by simpa using htl⟩
 refine Ok.loop (fun s : Int × List (List Int) => ∃ i : Nat, s.1 = i ∧ i ≤ 8 ∧ s.2.length = i ∧ ∀ l ∈ s.2, (l.length : Int) = n) (fun s => 8 - s.1.toNat) ⟨0, rfl, by omega, rfl, fun _ h => by cases h⟩ ?_
 rintro ⟨_, x⟩ ⟨i, rfl, hi, hx, hl⟩
 unfold fc
 simp only at hx hl ⊢
 refine Ok.cond (fun c1 => ?_) fun c1 => Ok.ret (by simp only [decide_eq_false_iff_not] at c1; exact ⟨by omega, hl⟩)
 simp only [decide_eq_true_eq] at c1
 refine Ok.bind (P := fun s : List (List Int) => s.length = i + 1 ∧ ∀ l ∈ s, (l.length : Int) = n) ?_ fun s hs => ?_
 ·refine Ok.bind (hin i x (by omega)) fun v hv => ?_
  rw [cg (by simp; omega), ai]
  refine Ok.ret ⟨by simp [hx], fun l hl' => ?_⟩
  rcases List.mem_append.1 hl' with h | h
  ·exact hl l h
  ·rw [List.mem_singleton.1 h]; exact hv
 ·rw [aV (by omega), ai]
  exact Ok.ret ⟨⟨i + 1, by simp, by omega, hs.1, hs.2⟩, by simp only; omega⟩
theorem yB (a b c : UInt8) : Ok (fE a b c) BrdOk := by
 have ha := a.toNat_lt
 have hb := b.toNat_lt
 have hc := c.toNat_lt
 unfold fE
 rw [bR (by omega) (by omega), ai, aV (by omega), ai, aV (by omega), ai, bR (by omega) (by omega), ai, aV (by omega), ai, aV (by omega), ai]
 refine Ok.bind (zz (by omega) (by omega)) fun r hr => ?_
 refine Ok.bind (P := fun v : Int × List (List Int) × List Int => BrdOk ⟨v.1, v.2.1, v.2.2⟩) (Ok.cond (fun _ => ?_) fun _ => Ok.ret hr) fun v hv => Ok.ret hv
 have := hr.c1
 rw [bR (by omega) (by omega), ai]
 exact Ok.bind (vK hr (Int.emod_nonneg _ (by omega)) (Int.emod_lt_of_pos _ (by omega))) fun v hv => Ok.ret hv
theorem q6 (l : List UInt8) {i : Int} (hi : 0 ≤ i) : Ok (dq l i) fun v => 0 ≤ v ∧ v ≤ 255 := by
 unfold dq
 refine Ok.cond (fun c => ?_) fun _ => Ok.ret (by omega)
 simp only [decide_eq_true_eq] at c
 rw [dD hi c, ai]
 have := (l[i.toNat]'(by omega)).toNat_lt
 exact Ok.ret (by omega)
theorem Br (l : List UInt8) : Ok (fY l) fun r => r.length ≤ 6 := by
 unfold fY
 refine Ok.bind (q6 l (by omega)) fun x1 g1 => ?_
 rw [bR (by omega) (by omega), ai]
 refine Ok.bind (q6 l (by omega)) fun x3 g3 => ?_
 rw [bR (by omega) (by omega), ai]
 refine Ok.bind (q6 l (by omega)) fun x5 g5 => ?_
 rw [bR (by omega) (by omega), ai]
 refine Ok.bind (q6 l (by omega)) fun x7 g7 => ?_
 rw [bR (by omega) (by omega), ai, aV (by omega), ai, bR (by omega) (by omega), ai]
 refine Ok.bind (q6 l (by omega)) fun x11 g11 => ?_
 have key : ∀ t : List (List Stp), t.length = 16 → (∀ r ∈ t, r.length ≤ 6) → Ok (ob (cV x11 (t.length : Int)) fun x12 => ob (idx t x12) fun x13 => some x13) fun r => r.length ≤ 6 := by
  intro t ht hr
  have ht' : ((t.length : Nat) : Int) = 16 := by omega
  rw [ht', bR (by omega) (by omega), ai, dD (by omega) (by omega), ai]
  exact Ok.ret (hr _ (List.getElem_mem _))
 refine key _ rfl ?_
 intro r hr
 simp only [List.mem_cons, List.not_mem_nil, or_false] at hr
 rcases hr with rfl | rfl | rfl | rfl | rfl | rfl | rfl | rfl | rfl | rfl | rfl | rfl | rfl | rfl | rfl | rfl <;> exact Nat.le_of_ble_eq_true rfl
theorem As {a : List Stp} {d k r : Int} (ha : a.length ≤ 6) (hd : 0 < d) (hk : 0 < k) (hr : 0 ≤ r) : Ok (fZ a d k r) fun _ => True := by
 unfold fZ
 refine Ok.bind (P := fun _ => True) ?_ fun v _ => Ok.cond (fun _ => okT _) fun _ => okT _
 refine Ok.loop (fun s : Int × List Stp => ∃ i : Nat, s.1 = i ∧ i ≤ a.length ∧ s.2.length ≤ i) (fun s => a.length - s.1.toNat) ⟨0, rfl, by omega, by simp⟩ ?_
 rintro ⟨_, acc⟩ ⟨i, rfl, hi, hl⟩
 unfold ge
 simp only at hl ⊢
 refine Ok.cond (fun c1 => ?_) fun _ => Ok.ret trivial
 simp only [decide_eq_true_eq] at c1
 refine Ok.bind (P := fun v : List Stp => v.length ≤ i + 1) ?_ fun v hv => ?_
 ·rw [dD (by omega) (by omega), ai]
  generalize a[(i : Int).toNat]'(by omega) = x
  have okL : ∀ z : Int, Ok (some (.inl z : Int ⊕ List Stp)) fun o => ∀ e, o = .inr e → e.length ≤ i := fun z => ⟨_, rfl, fun e h => by cases h⟩
  refine Ok.bind (P := fun o : Int ⊕ List Stp => ∀ e, o = .inr e → e.length ≤ i) ?_ fun o ho => ?_
  ·refine Ok.bind (P := fun _ => True) (Ok.cond (fun _ => okT _) fun _ => Ok.cond (fun _ => okT _) fun _ => okT _) fun _ _ => ?_
   refine Ok.cond (fun _ => Ok.bind (rh hd) fun _ _ => okL _) fun _ => Ok.cond (fun _ => Ok.bind (rh hk) fun _ _ => okL _) fun _ => ?_
   refine Ok.bind (P := fun _ => True) (Ok.cond (fun _ => okT _) fun _ => okT _) fun _ _ => ?_
   refine Ok.cond (fun _ => Ok.cond (fun _ => Ok.ret fun e h => by cases h; exact hl) fun c => ?_) fun _ => okL _
   simp only [beq_eq_false_iff_ne, ne_eq] at c
   exact Ok.bind (rh (by omega)) fun _ _ => okL _
  ·cases o with
   | inl v =>
    show Ok (ob (app acc [_]) _) _
    rw [cg (by simp; omega), ai]
    exact Ok.ret (by simp; omega)
   | inr e => exact Ok.ret (by have := ho e rfl; omega)
 ·rw [aV (by omega), ai]
  exact Ok.ret ⟨⟨i + 1, by simp, by omega, hv⟩, by simp only; omega⟩
theorem vc (n : UInt8) {d k r : Int} (hd : 0 < d) (hk : 0 < k) (hr : 0 ≤ r) : Ok (e6 n d k r) fun _ => True := by
 have hn := n.toNat_lt
 unfold e6
 rw [ne (by omega) (by omega), ai, ai, bR (by omega) (by omega), ai, xl (by omega), ai, ne (by omega) (by omega), ai]
 have hu : ∀ z : Int, 0 ≤ z ∧ z ≤ 255 → ∃ u, qp z = some u := fun z hz => ⟨_, if_pos hz⟩
 obtain ⟨u1, e1⟩ := hu ((n.toNat : Int) / 16) (by omega)
 obtain ⟨u2, e2⟩ := hu ((n.toNat : Int) / 16 + (n.toNat : Int) % 5) (by omega)
 obtain ⟨u3, e3⟩ := hu ((n.toNat : Int) / 3) (by omega)
 rw [e1, ai, e2, ai, e3, ai]
 exact Ok.bind (Br _) fun x9 h9 => Ok.bind (As h9 hd hk hr) fun _ _ => okT _
end
section
open Go.RowKit
set_option maxRecDepth 100000
structure GmFine (g : Gm) : Prop where
 board : BrdOk g.board
 k1 : 1 ≤ g.kinds.length
 k2 : g.kinds.length ≤ 2
 r0 : 0 ≤ g.rights
 r2 : g.rights ≤ 2
theorem DT (x : GRaw) : Ok (fJ x) GmFine := by
 unfold fJ
 refine Ok.bind (yB x.w x.h x.cut) fun b hB => ?_
 have hnl := hB.nl
 have hc1 := hB.c1
 have h0 := x.f0.toNat_lt
 have h1 := x.f1.toNat_lt
 have h3 := x.f3.toNat_lt
 have h4 := x.f4.toNat_lt
 rw [bR (by omega) (by omega), ai, bR (by omega) (by omega), ai]
 obtain ⟨r, hr, hr0, hr2⟩ : ∃ r : Int, (x.f0.toNat : Int) % 3 = r ∧ 0 ≤ r ∧ r ≤ 2 := ⟨_, rfl, by omega, by omega⟩
 rw [hr]
 refine Ok.bind (P := fun v => v = 1 ∨ v = 2) (Ok.cond (fun _ => Ok.ret (.inr rfl)) fun _ => Ok.ret (.inl rfl)) fun kn hkn => ?_
 have hk0 : 0 < kn := by omega
 have hl0 : Ok (bH (eR x b r kn) (0, [])) fun _ => True := by
  refine Ok.loop (fun s : Int × List (List Stp) => ∃ i : Nat, s.1 = i ∧ i ≤ 4 ∧ s.2.length = i) (fun s : Int × List (List Stp) => 4 - s.1.toNat) ⟨0, rfl, by omega, rfl⟩ ?_
  rintro ⟨_, acc⟩ ⟨i, rfl, hi, ha⟩
  unfold eR
  simp only at ha ⊢
  refine Ok.cond (fun c1 => Ok.cond (fun c2 => ?_) fun _ => Ok.ret trivial) fun _ => Ok.ret trivial
  simp only [decide_eq_true_eq] at c1 c2
  rw [dD (by omega) (by omega), ai]
  refine Ok.bind (vc _ (by omega) hk0 hr0) fun _ _ => ?_
  rw [cg (by simp; omega), ai, aV (by omega), ai]
  exact Ok.ret ⟨⟨i + 1, by simp, by omega, by simp [ha]⟩, by simp only; omega⟩
 have hl1 : Ok (bH (eV x b r kn) (0, [])) fun _ => True := by
  refine Ok.loop (fun s : Int × List (List Stp) => ∃ i : Nat, s.1 = i ∧ i ≤ 4 ∧ s.2.length = i) (fun s : Int × List (List Stp) => 4 - s.1.toNat) ⟨0, rfl, by omega, rfl⟩ ?_
  rintro ⟨_, acc⟩ ⟨i, rfl, hi, ha⟩
  unfold eV
  simp only at ha ⊢
  refine Ok.cond (fun c1 => Ok.cond (fun c2 => ?_) fun _ => Ok.ret trivial) fun _ => Ok.ret trivial
  simp only [decide_eq_true_eq] at c1 c2
  rw [dD (by omega) (by omega), ai]
  refine Ok.bind (vc _ (by omega) hk0 hr0) fun _ _ => ?_
  rw [cg (by simp; omega), ai, aV (by omega), ai]
  exact Ok.ret ⟨⟨i + 1, by simp, by omega, by simp [ha]⟩, by simp only; omega⟩
 have hl3 : Ok (bH (eQ x b kn) (0, [])) fun _ => True := by
  refine Ok.loop (fun s : Int × List Cls => ∃ i : Nat, s.1 = i ∧ i ≤ 3 ∧ s.2.length = i) (fun s : Int × List Cls => 3 - s.1.toNat) ⟨0, rfl, by omega, rfl⟩ ?_
  rintro ⟨_, acc⟩ ⟨i, rfl, hi, ha⟩
  unfold eQ
  simp only at ha ⊢
  refine Ok.cond (fun c1 => Ok.cond (fun c2 => ?_) fun _ => Ok.ret trivial) fun _ => Ok.ret trivial
  simp only [decide_eq_true_eq] at c1 c2
  obtain ⟨e, he⟩ : ∃ e, idx x.c (i : Int) = some e := ⟨_, dD (by omega) (by omega)⟩
  obtain ⟨e1, e2, e3⟩ := e
  have g1 := e1.toNat_lt
  have g2 := e2.toNat_lt
  have g3 := e3.toNat_lt
  simp only [he, ai]
  rw [bR (by omega) (by omega), ai, aV (by omega), ai, ne (by omega) (by omega), ai, aV (by omega), ai, bR (by omega) (by omega), ai, aV (by omega), ai]
  refine Ok.bind (P := fun _ => True) (Ok.cond (fun _ => ?_) fun _ => Ok.ret trivial) fun _ _ => Ok.bind (P := fun _ => True) (Ok.cond (fun _ => ?_) fun _ => Ok.ret trivial) fun _ _ => Ok.bind (P := fun _ => True) (Ok.cond (fun _ => ?_) fun _ => Ok.ret trivial) fun _ _ => ?_
  ·rw [bR (by omega) (by omega), ai]; exact Ok.ret trivial
  ·rw [bR (by omega) (by omega), ai]; exact Ok.ret trivial
  ·rw [bR (by omega) (by omega), ai]; exact Ok.ret trivial
  ·rw [cg (by simp; omega), ai, aV (by omega), ai]
   exact Ok.ret ⟨⟨i + 1, by simp, by omega, by simp [ha]⟩, by simp only; omega⟩
 refine Ok.bind (P := fun l : List Knd => 1 ≤ l.length ∧ l.length ≤ 2) ?_ fun ks hks => ?_
 ·rw [jO hk0, cond_true]
  refine Ok.bind (P := fun l : List Knd => l.length = 1) ?_ fun l hl => ?_
  ·rw [show idx [([97] : List UInt8), [98, 101, 101]] 0 = some [97] from rfl, ai, uV (by omega), ai]
   refine Ok.bind hl0 fun ps _ => ?_
   rw [cg (by simp), ai]
   exact Ok.ret rfl
  ·refine Ok.cond (fun c1 => ?_) fun _ => Ok.ret ⟨by omega, by omega⟩
   refine Ok.bind (P := fun l : List Knd => l.length = 2) ?_ fun l2 hl2 => ?_
   ·rw [show idx [([97] : List UInt8), [98, 101, 101]] 1 = some [98, 101, 101] from rfl, ai, uV (by omega), ai]
    refine Ok.bind hl1 fun ps _ => ?_
    rw [cg (by simp; omega), ai]
    exact Ok.ret (by simp; omega)
   ·rw [gV (by omega), cond_false]
    exact Ok.ret ⟨by omega, by omega⟩
 ·refine Ok.bind (P := fun _ => True) ?_ fun _ _ => Ok.bind (P := fun _ => True) ?_ fun _ _ => Ok.bind hl3 fun _ _ => Ok.ret ⟨hB, hks.1, hks.2, hr0, hr2⟩
  ·rw [bR (by omega) (by omega), ai]
   refine Ok.cond (fun _ => ?_) fun _ => Ok.ret trivial
   rw [ne (by omega) (by omega), ai, aV (by omega), ai, bR (by omega) (by omega), ai, aV (by omega), ai]
   exact Ok.ret trivial
  ·rw [bR (by omega) (by omega), ai]
   refine Ok.cond (fun _ => ?_) fun _ => Ok.ret trivial
   rw [ne (by omega) (by omega), ai, aV (by omega), ai, bR (by omega) (by omega), ai, aV (by omega), ai]
   exact Ok.ret trivial
structure PsFine (g : Gm) (p : Ps) : Prop where
 la : (p.at_.length : Int) = g.board.cells
 l0 : p.h0.length = g.kinds.length
 l1 : p.h1.length = g.kinds.length
 a : ∀ x ∈ p.at_, 0 ≤ x ∧ x ≤ 2 * (g.kinds.length : Int)
 b : ∀ x ∈ p.h0, 0 ≤ x ∧ x ≤ 8
 c : ∀ x ∈ p.h1, 0 ≤ x ∧ x ≤ 8
 r : 0 ≤ p.rights ∧ p.rights < 2 ^ g.rights.toNat
 s : p.side = 0 ∨ p.side = 1
theorem PsFine.ok {g : Gm} {p : Ps} (hg : GmFine g) (h : PsFine g p) : PsOk p := by
 have h1 := hg.board.c9
 have h2 := hg.k2
 have h3 := h.la
 have h4 := h.l0
 have h5 := h.l1
 have hr := hg.r2
 have hr0 := hg.r0
 refine ⟨by omega, by omega, by omega, fun x hx => ?_, fun x hx => ?_, fun x hx => ?_, ?_, ?_⟩
 ·have := h.a x hx; exact ⟨this.1, by omega⟩
 ·have := h.b x hx; exact ⟨this.1, by omega⟩
 ·have := h.c x hx; exact ⟨this.1, by omega⟩
 ·have := h.r
  have h4 : (2 : Int) ^ g.rights.toNat ≤ 4 := by
   have : g.rights.toNat = 0 ∨ g.rights.toNat = 1 ∨ g.rights.toNat = 2 := by omega
   rcases this with h | h | h <;> rw [h] <;> decide
  exact ⟨h.r.1, by have := h.r.2; omega⟩
 ·rcases h.s with e | e <;> rw [e] <;> exact ⟨by omega, by omega⟩
theorem r7 (g : Gm) (hs : List UInt8) (o : Nat) (hl : hs.length = 4) (ho : o ≤ 2) (hg : GmFine g) {body : (Int × List Int) → Option ((Int × List Int) ⊕ List Int)}
  (hb : ∀ s, body s = (bif (decide (s.1 < (g.kinds.length : Int))) then (bif (decide (s.1 < 2)) then (ob (ob (idx g.kinds s.1) fun x => bif x.keep then (ob (arI .i64 (o + s.1)) fun a => ob (idx hs a) fun b => ob (cV (b.toNat : Int) 3) fun c => ob (idx s.2 s.1) fun _ => ob (arI .i64 (o + s.1)) fun a2 => ob (idx hs a2) fun b2 =>
   bif (decide (250 < (b2.toNat : Int))) then (ob (idx (s.2.set (s.1 : Int).toNat c) s.1) fun _ => some ((s.2.set (s.1 : Int).toNat c).set (s.1 : Int).toNat 8)) else some (s.2.set (s.1 : Int).toNat c)) else some s.2) fun v => ob (arI .i64 (s.1 + 1)) fun z => some (.inl (z, v))) else some (.inr s.2)) else some (.inr s.2))) :
  Ok (bH body (0, List.replicate g.kinds.length 0)) fun l => l.length = g.kinds.length ∧ ∀ x ∈ l, 0 ≤ x ∧ x ≤ 8 := by
 have hk2 := hg.k2
 refine Ok.loop (fun s : Int × List Int => ∃ i : Nat, s.1 = i ∧ i ≤ 2 ∧ s.2.length = g.kinds.length ∧ ∀ x ∈ s.2, 0 ≤ x ∧ x ≤ 8) (fun s : Int × List Int => 2 - s.1.toNat) ⟨0, rfl, by omega, by simp, fun x hx => by rw [List.eq_of_mem_replicate hx]; omega⟩ ?_
 rintro ⟨_, l⟩ ⟨i, rfl, hi, h1, h2⟩
 rw [hb]
 simp only at h1 h2 ⊢
 refine Ok.cond (fun c1 => Ok.cond (fun c2 => ?_) fun _ => Ok.ret ⟨h1, h2⟩) fun _ => Ok.ret ⟨h1, h2⟩
 simp only [decide_eq_true_eq] at c1 c2
 refine Ok.bind (P := fun v : List Int => v.length = g.kinds.length ∧ ∀ x ∈ v, 0 ≤ x ∧ x ≤ 8) ?_ fun v hv => ?_
 ·rw [dD (by omega) (by omega), ai]
  refine Ok.cond (fun _ => ?_) fun _ => Ok.ret ⟨h1, h2⟩
  rw [aV (by omega), ai]
  obtain ⟨b, hb'⟩ : ∃ b, idx hs ((o : Int) + i) = some b := ⟨_, dD (by omega) (by omega)⟩
  have hbl := b.toNat_lt
  rw [hb', ai, bR (by omega) (by omega), ai, dD (by omega) (by omega), ai, ai, hb', ai]
  have hset : ∀ (l : List Int) (y : Int), (∀ x ∈ l, 0 ≤ x ∧ x ≤ 8) → 0 ≤ y ∧ y ≤ 8 → ∀ x ∈ l.set i y, 0 ≤ x ∧ x ≤ 8 := fun l y hl hy x hx => by
   rcases List.mem_or_eq_of_mem_set hx with h | rfl
   ·exact hl x h
   ·exact hy
  have s1 := hset l ((b.toNat : Int) % 3) h2 (by omega)
  refine Ok.cond (fun _ => ?_) fun _ => Ok.ret ⟨by simpa using h1, by simpa using s1⟩
  rw [dD (by omega) (by simp; omega), ai]
  exact Ok.ret ⟨by simpa using h1, by simpa using hset _ 8 s1 (by omega)⟩
 ·rw [aV (by omega), ai]
  exact Ok.ret ⟨⟨i + 1, by simp, by omega, hv.1, hv.2⟩, by simp only; omega⟩
theorem EE (g : Gm) (y : PRaw) (hg : GmFine g) : Ok (fM g y) (PsFine g) := by
 unfold fM
 have hc1 := hg.board.c1
 have hc9 := hg.board.c9
 have hk1 := hg.k1
 have hk2 := hg.k2
 have hr0 := hg.r0
 have hr2 := hg.r2
 have hyr := y.rights.toNat_lt
 have hys := y.side.toNat_lt
 have hpow : (1 : Int) ≤ 2 ^ g.rights.toNat ∧ (2 : Int) ^ g.rights.toNat ≤ 4 := by
  have : g.rights.toNat = 0 ∨ g.rights.toNat = 1 ∨ g.rights.toNat = 2 := by omega
  rcases this with h | h | h <;> rw [h] <;> decide
 have hshl : tC .i64 1 g.rights = some (2 ^ g.rights.toNat) := by
  unfold tC
  have : min g.rights.toNat IntKind.i64.bits = g.rights.toNat := by show min _ 64 = _; omega
  rw [if_neg (by omega), this, Int.one_mul, bK _ (by omega)]
 rw [r5 (by omega), ai, hshl, ai, bR (by omega) (by omega), ai, bR (by omega) (by omega), ai, aV (by omega), ai]
 refine Ok.bind (P := fun l : List Int => (l.length : Int) = g.board.cells ∧ ∀ x ∈ l, 0 ≤ x ∧ x ≤ 2 * (g.kinds.length : Int)) ?_ fun at_ hat => ?_
 ·refine Ok.loop (fun s : Int × List Int => ∃ i : Nat, s.1 = i ∧ i ≤ 6 ∧ (s.2.length : Int) = g.board.cells ∧ ∀ x ∈ s.2, 0 ≤ x ∧ x ≤ 2 * (g.kinds.length : Int)) (fun s : Int × List Int => 6 - s.1.toNat) ⟨0, rfl, by omega, by simp; omega, fun x hx => by rw [List.eq_of_mem_replicate hx]; omega⟩ ?_
  rintro ⟨_, l⟩ ⟨i, rfl, hi, h1, h2⟩
  unfold fR
  simp only at h1 h2 ⊢
  refine Ok.cond (fun c1 => ?_) fun _ => Ok.ret ⟨h1, h2⟩
  simp only [decide_eq_true_eq] at c1
  refine Ok.bind (P := fun v : List Int => (v.length : Int) = g.board.cells ∧ ∀ x ∈ v, 0 ≤ x ∧ x ≤ 2 * (g.kinds.length : Int)) ?_ fun v hv => ?_
  ·obtain ⟨a, ha⟩ : ∃ a, idx [y.c0, y.c1, y.c2, y.c3, y.c4, y.c5] (i : Int) = some a := ⟨_, dD (by omega) (by simp only [List.length_cons, List.length_nil]; omega)⟩
   have hal := a.toNat_lt
   rw [ha, ai, aV (by omega), ai, bR (by omega) (by omega), ai]
   refine Ok.cond (fun c2 => ?_) fun _ => Ok.ret ⟨h1, h2⟩
   simp only [decide_eq_true_eq] at c2
   rw [jO (by omega), cond_true]
   obtain ⟨k, hk⟩ : ∃ k, idx [y.k0, y.k1, y.k2, y.k3, y.k4, y.k5] (i : Int) = some k := ⟨_, dD (by omega) (by simp only [List.length_cons, List.length_nil]; omega)⟩
   have hkl := k.toNat_lt
   rw [hk, ai, bR (by omega) (by omega), ai]
   obtain ⟨q, hq, hq0, hq1⟩ : ∃ q : Int, (k.toNat : Int) % (g.kinds.length : Int) = q ∧ 0 ≤ q ∧ q < (g.kinds.length : Int) := ⟨_, rfl, Int.emod_nonneg _ (by omega), Int.emod_lt_of_pos _ (by omega)⟩
   rw [hq]
   have hcm := Int.emod_nonneg (a.toNat : Int) (show g.board.cells + 1 ≠ 0 by omega)
   rw [aV (by omega), ai, aV (by omega), ai, bR (by omega) (by omega), ai, aV (by omega), ai, dD (by omega) (by omega), ai]
   refine Ok.ret ⟨by simpa using h1, fun x hx => ?_⟩
   rcases List.mem_or_eq_of_mem_set hx with h | rfl
   ·exact h2 x h
   ·omega
  ·rw [aV (by omega), ai]
   exact Ok.ret ⟨⟨i + 1, by simp, by omega, hv.1, hv.2⟩, by simp only; omega⟩
 ·refine Ok.bind (P := fun v : List Int × List Int => (v.1.length = g.kinds.length ∧ ∀ x ∈ v.1, 0 ≤ x ∧ x ≤ 8) ∧ (v.2.length = g.kinds.length ∧ ∀ x ∈ v.2, 0 ≤ x ∧ x ≤ 8)) ?_ fun v hv => ?_
  ·rw [r5 (by omega), Int.toNat_natCast]
   refine Ok.bind (P := fun v : List Int => v.length = g.kinds.length ∧ ∀ x ∈ v, 0 ≤ x ∧ x ≤ 8) ?_ fun v1 hv1 => Ok.bind (P := fun v : List Int => v.length = g.kinds.length ∧ ∀ x ∈ v, 0 ≤ x ∧ x ≤ 8) ?_ fun v2 hv2 => Ok.ret ⟨hv1, hv2⟩
   ·rw [ai]; exact r7 g [y.h0, y.h1, y.h2, y.h3] 0 rfl (by omega) hg fun s => rfl
   ·rw [ai]; exact r7 g [y.h0, y.h1, y.h2, y.h3] 2 rfl (by omega) hg fun s => rfl
  ·refine Ok.ret ⟨hat.1, hv.1.1, hv.2.1, hat.2, hv.1.2, hv.2.2, ⟨Int.emod_nonneg _ (by omega), Int.emod_lt_of_pos _ (by omega)⟩, ?_⟩
   simp only; omega
end
section
open Go.RowKit
set_option maxRecDepth 100000
open Classical
structure PsS (p : Ps) : Prop where
 a : p.at_.length ≤ 200000
 b : p.h0.length ≤ 200000
 c : p.h1.length ≤ 200000
theorem PsS.B {p : Ps} (h : PsS p) : PsB p := ⟨by have := h.a; omega, by have := h.b; omega, by have := h.c; omega⟩
theorem PsOk.S {p : Ps} (h : PsOk p) : PsS p := ⟨by have := h.la; omega, by have := h.l0; omega, by have := h.l1; omega⟩
theorem qb {p : Ps} (h : PsS p) (r : Rs) : (eI p r).length ≤ 700000 := by
 rw [xe]
 have := h.a
 have := h.b
 have := h.c
 simp [eO]; omega
def cN (l : List Ps) (v : List Rs) : List (List UInt8) := (l.zip v).map fun e => eI e.1 e.2
theorem kK (l : List Ps) (v : List Rs) : (cN l v).length = min l.length v.length := by simp [cN]
theorem u4 {l : List Ps} {v : List Rs} {i : Nat} {e : Ps × Rs} (h : (l.zip v)[i]? = some e) : l[i]? = some e.1 ∧ v[i]? = some e.2 := by
 rw [List.getElem?_zip_eq_some] at h; exact h
theorem r4 (l : List Ps) (v : List Rs) (hl : l.length ≤ 1000000) (hs : ∀ p ∈ l, PsS p) : fT l v = some (cN l v) := by
 unfold fT
 have := mj (body := eW l v) (l.zip v) (fun e => eI e.1 e.2) (fun i e acc he hacc => by
  obtain ⟨h1, h2⟩ := u4 he
  have hi := (List.getElem?_eq_some_iff.1 he).1
  rw [List.length_zip] at hi
  have hS := hs e.1 (List.mem_of_getElem? h1)
  unfold eW
  simp only
  rw [jO (by omega), cond_true, fS, fS, h1, h2, ai, ai, pw _ _ hS.B, ai, cg (by simp; omega), ai, aV (by omega), ai]; rfl) (fun acc => by
  unfold eW
  simp only [List.length_zip]
  rw [gV (by omega), cond_false])
 rw [this, ai]; rfl
theorem o2 (l : List Ps) (v : List Rs) (hl : l.length ≤ 1000000) (hs : ∀ p ∈ l, PsS p) : eo l v = some (cN l v) := by
 unfold eo
 have := mj (body := dn l v) (l.zip v) (fun e => eI e.1 e.2) (fun i e acc he hacc => by
  obtain ⟨h1, h2⟩ := u4 he
  have hi := (List.getElem?_eq_some_iff.1 he).1
  rw [List.length_zip] at hi
  have hS := hs e.1 (List.mem_of_getElem? h1)
  unfold dn
  simp only
  rw [jO (by omega), cond_true, jO (by omega), cond_true, fS, fS, h1, h2, ai, ai, lu _ _ hS.B, ai, cg (by simp; omega), ai, aV (by omega), ai]; rfl) (fun acc => by
  unfold dn
  simp only [List.length_zip]
  refine Ok.get ?_
  refine Ok.cond (fun c1 => Ok.cond (fun c2 => ?_) fun _ => Ok.ret rfl) fun _ => Ok.ret rfl
  simp only [decide_eq_true_eq] at c1 c2; omega)
 rw [this, ai]; rfl
theorem jN {l : List Ps} {v : List Rs} (hl : l.length ≤ 1000000) (hs : ∀ p ∈ l, PsS p) : Fit (cN l v) := by
 refine ⟨by rw [kK]; omega, fun x hx => ?_⟩
 simp only [cN, List.mem_map] at hx
 obtain ⟨e, he, rfl⟩ := hx
 have := qb (hs e.1 (List.of_mem_zip he).1) e.2
 omega
theorem rm (l : List Ps) (v : List Rs) (hl : l.length ≤ 1000000) (hs : ∀ p ∈ l, PsS p) : fk l v = some (Sha.root (cN l v)) := by
 unfold fk
 rw [r4 l v hl hs, ai, show kL (cN l v) = some (Sha.root (cN l v)) from if_pos (jN hl hs), ai, iP (Sha.root_len _), ai]
theorem qN (l : List Ps) (v : List Rs) (hl : l.length ≤ 1000000) (hs : ∀ p ∈ l, PsS p) : eT l v = some (Sha.root (cN l v)) := by
 unfold eT
 rw [o2 l v hl hs, ai, show gH (cN l v) = some (Sha.root (cN l v)) from if_pos (jN hl hs), ai, iP (Sha.root_len _), ai]
def rG : Ans := ⟨0, 0, 0, ⟨[], [], [], 0, 0⟩, ⟨0, 0⟩, []⟩
noncomputable def fO (l : List Ps) (v : List Rs) (ver i : Int) : Ans × Int :=
 if h : l.length = v.length ∧ 0 ≤ i ∧ i < (l.length : Int) then (⟨ver, i, l.length, l[i.toNat]'(by omega), v[i.toNat]'(by omega), Sha.proof (cN l v) i.toNat⟩, 0) else (rG, 1)
theorem mu (l : List Ps) (v : List Rs) (ver i : Int) (hl : l.length ≤ 1000000) (hs : ∀ p ∈ l, PsS p) : cT l v ver i = some (fO l v ver i) := by
 refine Ok.get ?_
 unfold cT fO
 refine Ok.cond (fun c => Ok.ret ?_) fun c => ?_
 ·rw [dif_neg (fun h => by rw [h.1] at c; simp at c)]; rfl
 ·have hlv : l.length = v.length := by simp at c; omega
  have hlen := kK l v
  rw [r4 l v hl hs, ai]
  by_cases hi : i < 0 ∨ (l.length : Int) ≤ i
  ·rw [show gu (cN l v) i = some ([], 1) by unfold gu; rw [if_pos (jN hl hs), if_pos (by omega)], ai, dif_neg (by omega)]
   exact Ok.ret rfl
  ·rw [show gu (cN l v) i = some (Sha.proof (cN l v) i.toNat, 0) by unfold gu; rw [if_pos (jN hl hs), if_neg (by omega)], ai, dif_pos (by omega)]
   simp only
   rw [zn rfl, cond_false, dD (by omega) (by omega), ai, dD (by omega) (by omega), ai]
   exact Ok.ret rfl
theorem tS (l : List Ps) (v : List Rs) (ver i : Int) (hl : l.length ≤ 1000000) (hs : ∀ p ∈ l, PsS p) : fe l v ver i = some (fO l v ver i) := by
 refine Ok.get ?_
 unfold fe fO
 refine Ok.cond (fun c => Ok.ret ?_) fun c => Ok.cond (fun c2 => Ok.ret ?_) fun c2 => Ok.cond (fun c3 => Ok.ret ?_) fun c3 => ?_
 ·rw [dif_neg (fun h => by rw [h.1] at c; simp at c)]; rfl
 ·simp only [decide_eq_true_eq] at c2
  rw [dif_neg (by omega)]; rfl
 ·simp only [decide_eq_true_eq] at c3
  rw [dif_neg (by omega)]; rfl
 ·have hlv : l.length = v.length := by simp at c; omega
  simp only [decide_eq_false_iff_not] at c2 c3
  have hlen := kK l v
  rw [dD (by omega) (by omega), ai, dD (by omega) (by omega), ai, o2 l v hl hs, ai]
  rw [show ga (cN l v) i = some ⟨Sha.proof (cN l v) i.toNat, 0⟩ by unfold ga gy; rw [if_pos (jN hl hs), if_neg (by omega), ai], ai, dif_pos (by omega)]
  exact Ok.ret rfl
theorem sd {α : Type} {body : Int → Option (Int ⊕ (Unit ⊕ Int))} (l : List α) (g : α → Bool) (f : α → Option Bool) (hf : ∀ x ∈ l, f x = some (g x)) (hl : l.length ≤ 9223372036854775807)
  (hb : ∀ s, body s = (bif (decide (s < (l.length : Int))) then (ob (idx l s) fun x => ob (f x) fun y => bif y then some (.inr (.inr s)) else ob (arI .i64 (s + 1)) fun z => some (.inl z)) else some (.inr (.inl ())))) :
  Ok (ob (bH body 0) fun o => match o with | .inl _ => some (-1) | .inr e => some e) fun r => decide (0 ≤ r) = l.any g := by
 refine Ok.bind (P := fun o => match o with | .inl () => ∀ x ∈ l, g x = false | .inr r => 0 ≤ r ∧ l.any g = true) ?_ ?_
 ·refine Ok.loop (fun s : Int => ∃ i : Nat, s = i ∧ i ≤ l.length ∧ ∀ j x, j < i → l[j]? = some x → g x = false) (fun s : Int => l.length - s.toNat) ⟨0, rfl, by omega, fun j x h => by omega⟩ ?_
  rintro _ ⟨i, rfl, hi, hall⟩
  rw [hb]
  refine Ok.cond (fun c1 => ?_) fun c1 => Ok.ret ?_
  ·simp only [decide_eq_true_eq] at c1
   have e : l[i]? = some (l[i]'(by omega)) := List.getElem?_eq_getElem _
   generalize l[i]'(by omega) = x at e
   have hx := List.mem_of_getElem? e
   rw [fS, e, ai, hf x hx, ai]
   refine Ok.cond (fun c2 => Ok.ret ⟨by omega, List.any_eq_true.2 ⟨x, hx, c2⟩⟩) fun c2 => ?_
   rw [aV (by omega), ai]
   refine Ok.ret ⟨⟨i + 1, by omega, by omega, fun j y hj hy => ?_⟩, by omega⟩
   rcases Nat.lt_or_ge j i with h | h
   ·exact hall j y h hy
   ·obtain rfl : j = i := by omega
    rw [e] at hy; cases hy; exact c2
  ·simp only [decide_eq_false_iff_not] at c1
   intro x hx
   obtain ⟨j, hj⟩ := List.getElem?_of_mem hx
   exact hall j x (by have := (List.getElem?_eq_some_iff.1 hj).1; omega) hj
 ·rintro (⟨⟩ | r) h
  ·refine Ok.ret ?_
   have : l.any g = false := by rw [List.any_eq_false]; intro x hx; rw [h x hx]; simp
   rw [this]; rfl
  ·refine Ok.ret ?_
   rw [h.2]; exact decide_eq_true h.1
theorem tw (l : List Int) (F : FnV Tryd.prog HG (α := Int) (β := Bool) (fun x => [.v (.int .i64 x)]) (fun y => .v (.bool y))) (g : Int → Bool) (hf : ∀ x ∈ l, F.f x = some (g x)) (hl : l.length ≤ 9223372036854775807) : cL l F = some (l.any g) := by
 unfold cL eu
 obtain ⟨r, h1, h2⟩ := sd l g F.f hf hl (body := cd l F) (fun s => rfl)
 exact Ok.get (Ok.eq h1 (Ok.ret h2))
abbrev FnB := FnV Tryd.prog HG (α := Unit) (β := Bool) (fun _ => []) (fun y => .v (.bool y))
theorem ul (l : List FnB) (F : FnV Tryd.prog HG (α := FnB) (β := Bool) (fun x => [.fn x.g x.c]) (fun y => .v (.bool y))) (g : FnB → Bool) (hf : ∀ x ∈ l, F.f x = some (g x)) (hl : l.length ≤ 9223372036854775807) : bQ l F = some (l.any g) := by
 unfold bQ cz
 obtain ⟨r, h1, h2⟩ := sd l g F.f hf hl (body := bw l F) (fun s => rfl)
 exact Ok.get (Ok.eq h1 (Ok.ret h2))
theorem BR (a b c : Int) : iC a b c = some (decide (b ≤ a) && decide (a ≤ c)) := by
 refine Ok.get ?_
 unfold iC
 exact Ok.cond (fun h => Ok.ret (by rw [h]; simp)) fun h => Ok.ret (by rw [h]; simp)
def u8B (n : Int) : Bool := decide (0 ≤ n) && decide (n ≤ 255)
theorem oQ (l : List Int) (f : FnV Tryd.prog HG (α := Int) (β := Bool) (fun x => [.v (.int .i64 x)]) (fun y => .v (.bool y))) (hf : ∀ x, f.f x = some (u8B x)) : eN l f = some (decide (l.length ≤ 255) && l.all u8B) := by
 refine Ok.get ?_
 unfold eN
 refine Ok.cond (fun c => ?_) fun c => Ok.ret ?_
 ·simp only [decide_eq_true_eq] at c
  refine Ok.eq (tw l _ (fun x => !u8B x) (fun x _ => by show fH x f = _; unfold fH; rw [hf, ai]) (by omega)) (Ok.ret ?_)
  have : decide (l.length ≤ 255) = true := decide_eq_true (by omega)
  rw [this]
  simp [List.all_eq_not_any_not]
 ·simp only [decide_eq_false_iff_not] at c
  have : decide (l.length ≤ 255) = false := decide_eq_false (by omega)
  rw [this]; simp
def nO (p : Ps) (r : Rs) : Bool := (decide (p.at_.length ≤ 255) && p.at_.all u8B) && ((decide (p.h0.length ≤ 255) && p.h0.all u8B) && ((decide (p.h1.length ≤ 255) && p.h1.all u8B) && (u8B p.rights && (u8B p.side && ((decide (1 ≤ r.out) && decide (r.out ≤ 3)) && (decide (0 ≤ r.n) && decide (r.n ≤ 2147483647)))))))
theorem k6 {a b : Bool} {x : Option Bool} (h : a = true → Ok x (· = b)) : Ok (bif a then x else some false) (· = (a && b)) := by
 cases a with
 | false => exact Ok.ret rfl
 | true => simpa using h rfl
theorem y3 (p : Ps) (r : Rs) : gY p r = some (nO p r) := by
 refine Ok.get ?_
 unfold gY nO
 have hin : ∀ a b, ∃ F : FnV Tryd.prog HG (α := Int) (β := Bool) (fun x => [.v (.int .i64 x)]) (fun y => .v (.bool y)), iN a b = some F ∧ ∀ x, F.f x = some (decide (a ≤ x) && decide (x ≤ b)) := fun a b => ⟨_, rfl, fun x => BR x a b⟩
 obtain ⟨F, h1, h2⟩ := hin 0 255
 obtain ⟨F2, h3, h4⟩ := hin 1 3
 obtain ⟨F3, h5, h6⟩ := hin 0 2147483647
 rw [h1, ai, oQ _ F h2, ai]
 refine k6 fun _ => ?_
 rw [oQ _ F h2, ai]
 refine k6 fun _ => ?_
 rw [oQ _ F h2, ai]
 refine k6 fun _ => ?_
 rw [h2, ai]
 refine k6 fun _ => ?_
 rw [h2, ai]
 refine k6 fun _ => ?_
 rw [h3, ai, h4, ai]
 refine k6 fun _ => ?_
 rw [h5, ai, h6, ai]
 exact Ok.ret rfl
theorem xa {l : List Int} : l.all u8B = true ↔ ∀ x ∈ l, u8R x := by simp [List.all_eq_true, u8B, u8R]
theorem yP (p : Ps) (r : Rs) : nO p r = true ↔ PsOk p ∧ rF r := by
 unfold nO
 simp only [Bool.and_eq_true, decide_eq_true_eq, xa]
 constructor
 ·rintro ⟨⟨a1, a2⟩, ⟨b1, b2⟩, ⟨c1, c2⟩, d, e, f, g⟩
  simp only [u8B, Bool.and_eq_true, decide_eq_true_eq] at d e
  exact ⟨⟨a1, b1, c1, a2, b2, c2, d, e⟩, f, g⟩
 ·rintro ⟨h, f, g⟩
  refine ⟨⟨h.la, h.a⟩, ⟨h.l0, h.b⟩, ⟨h.l1, h.c⟩, ?_, ?_, f, g⟩
  ·simp only [u8B, Bool.and_eq_true, decide_eq_true_eq]; exact h.r
  ·simp only [u8B, Bool.and_eq_true, decide_eq_true_eq]; exact h.s
theorem uL (p : Ps) (r : Rs) (h : PsB p) : eF p r = some (nO p r) := by
 refine Ok.get ?_
 have key : Ok (eF p r) fun b => (b = true ↔ PsOk p ∧ rF r) := by
  unfold eF
  refine Ok.cond (fun c => Ok.ret ?_) fun c1 => Ok.cond (fun c => Ok.ret ?_) fun c2 => Ok.cond (fun c => Ok.ret ?_) fun c3 => ?_
  ·simp only [decide_eq_true_eq] at c
   simp only [Bool.false_eq_true, false_iff]; rintro ⟨h, _⟩; have := h.la; omega
  ·simp only [decide_eq_true_eq] at c
   simp only [Bool.false_eq_true, false_iff]; rintro ⟨h, _⟩; have := h.l0; omega
  ·simp only [decide_eq_true_eq] at c
   simp only [Bool.false_eq_true, false_iff]; rintro ⟨h, _⟩; have := h.l1; omega
  ·simp only [decide_eq_false_iff_not] at c1 c2 c3
   rw [qW p h.a h.b h.c, ai]
   have hnl : (eO p).length ≤ 1000 := by simp [eO]; omega
   refine Ok.bind (P := fun o => match o with | .inl () => ∀ x ∈ eO p, u8R x | .inr b => b = false ∧ ∃ x ∈ eO p, ¬ u8R x) ?_ ?_
   ·refine Ok.loop (fun s : Int => ∃ i : Nat, s = i ∧ i ≤ (eO p).length ∧ ∀ j x, j < i → (eO p)[j]? = some x → u8R x) (fun s : Int => (eO p).length - s.toNat) ⟨0, rfl, by omega, fun j x h => by omega⟩ ?_
    rintro _ ⟨i, rfl, hi, hall⟩
    unfold dC
    refine Ok.cond (fun d1 => ?_) fun d1 => Ok.ret ?_
    ·simp only [decide_eq_true_eq] at d1
     have e : (eO p)[i]? = some ((eO p)[i]'(by omega)) := List.getElem?_eq_getElem _
     generalize (eO p)[i]'(by omega) = x at e
     have hx := List.mem_of_getElem? e
     simp only [fS, e, ai]
     refine Ok.cond (fun d2 => Ok.ret ⟨rfl, x, hx, ?_⟩) fun d2 => Ok.cond (fun d3 => Ok.ret ⟨rfl, x, hx, ?_⟩) fun d3 => ?_
     ·simp only [decide_eq_true_eq] at d2
      unfold u8R; omega
     ·simp only [decide_eq_true_eq] at d3
      unfold u8R; omega
     ·simp only [decide_eq_false_iff_not] at d2 d3
      rw [aV (by omega), ai]
      refine Ok.ret ⟨⟨i + 1, by omega, by omega, fun j y hj hy => ?_⟩, by omega⟩
      rcases Nat.lt_or_ge j i with h | h
      ·exact hall j y h hy
      ·obtain rfl : j = i := by omega
       rw [e] at hy; cases hy; exact ⟨by omega, by omega⟩
    ·simp only [decide_eq_false_iff_not] at d1
     intro x hx
     obtain ⟨j, hj⟩ := List.getElem?_of_mem hx
     exact hall j x (by have := (List.getElem?_eq_some_iff.1 hj).1; omega) hj
   ·rintro (⟨⟩ | b) hb
    ·simp only at hb
     have hP : PsOk p := ⟨by omega, by omega, by omega, fun x hx => hb x (by simp [eO, hx]), fun x hx => hb x (by simp [eO, hx]), fun x hx => hb x (by simp [eO, hx]), hb _ (by simp [eO]), hb _ (by simp [eO])⟩
     refine Ok.cond (fun d => Ok.cond (fun d2 => Ok.cond (fun d3 => Ok.ret ?_) fun d3 => Ok.ret ?_) fun d2 => Ok.ret ?_) fun d => Ok.ret ?_
     all_goals simp only [decide_eq_true_eq, decide_eq_false_iff_not, Bool.false_eq_true, false_iff, hP, true_and, rF] at *
     all_goals omega
    ·refine Ok.ret ?_
     obtain ⟨rfl, x, hx, hn⟩ := hb
     simp only [Bool.false_eq_true, false_iff]
     rintro ⟨hP, _⟩
     exact hn (zH hP x hx)
 refine key.mono fun b hb => ?_
 rw [Bool.eq_iff_iff, hb, yP]
end
section
open Go.RowKit
set_option maxRecDepth 100000
structure CkOk (root : List UInt8) (a : Ans) : Prop where
 root : root.length = 32
 pos : PsS a.pos
 proof : ∀ s ∈ a.proof, s.length = 32
 len : a.proof.length ≤ 900000
 c1 : -9223372036854775808 ≤ a.count
 c2 : a.count ≤ 4294967296
 i : -9223372036854775808 ≤ a.index ∧ a.index ≤ 9223372036854775807
def iH (root : List UInt8) (ver : Int) (a : Ans) : Bool := (a.version == ver) && (nO a.pos a.entry && Sha.check root a.count a.index (eI a.pos a.entry) a.proof)
theorem tZ {root : List UInt8} {a : Ans} (h : CkOk root a) : jW root a.count a.index (eI a.pos a.entry) a.proof = some (Sha.check root a.count a.index (eI a.pos a.entry) a.proof) :=
 if_pos ⟨h.root, by have := qb h.pos a.entry; omega, h.proof, by have := h.len; omega, h.c2, h.c1, h.i⟩
theorem qV {root : List UInt8} {a : Ans} (h : CkOk root a) : gx root a.count a.index (eI a.pos a.entry) a.proof = some (Sha.check root a.count a.index (eI a.pos a.entry) a.proof) :=
 if_pos ⟨h.root, by have := qb h.pos a.entry; omega, h.proof, by have := h.len; omega, h.c2, h.c1, h.i⟩
theorem ma {root : List UInt8} {a : Ans} (ver : Int) (h : CkOk root a) : ek root ver a = some (iH root ver a) := by
 refine Ok.get ?_
 unfold ek
 have e3 : ft root a = some (Sha.check root a.count a.index (eI a.pos a.entry) a.proof) := by
  unfold ft
  rw [pw _ _ h.pos.B, ai, tZ h, ai]
 have e2 : fp a = some (nO a.pos a.entry) := by
  unfold fp
  rw [y3, ai]
 have e1 : gr a ver = some (a.version == ver) := rfl
 refine Ok.eq (ul _ _ (fun F : FnB => !(F.f ()).getD false) (fun F hF => ?_) (by simp)) ?_
 ·show gq F = _
  unfold gq
  have : ∃ b, F.f () = some b := by
   simp only [List.mem_cons, List.not_mem_nil, or_false] at hF
   rcases hF with rfl | rfl | rfl
   ·exact ⟨_, e1⟩
   ·exact ⟨_, e2⟩
   ·exact ⟨_, e3⟩
  obtain ⟨b, hb⟩ := this
  rw [hb, ai]; rfl
 ·refine Ok.ret ?_
  simp only [List.any_cons, List.any_nil, e1, e2, e3, Option.getD_some, iH]
  cases (a.version == ver) <;> cases nO a.pos a.entry <;> cases Sha.check root a.count a.index (eI a.pos a.entry) a.proof <;> rfl
theorem o5 {root : List UInt8} {a : Ans} (ver : Int) (h : CkOk root a) : eE root ver a = some (iH root ver a) := by
 refine Ok.get ?_
 unfold eE iH
 refine k6 fun _ => ?_
 rw [uL _ _ h.pos.B, ai]
 refine k6 fun _ => ?_
 rw [lu _ _ h.pos.B, ai, qV h, ai]
 exact Ok.ret rfl
def lL (x : List Int) (i : Nat) : Int := if x = [] then 7 * i else x[i % x.length]?.getD 0 + i
def ws (x : List Int) (i : Nat) : Rs := ⟨1 + lL x i % 3, lL x i / 3⟩
def kz (n : Nat) (x : List Int) : List Rs := (List.range n).map (ws x)
theorem ww (l : List Ps) (x : List Int) (hl : l.length ≤ 1000000) (hx : ∀ y ∈ x, 0 ≤ y ∧ y ≤ 65535) (hxl : x.length ≤ 1000000) : eS l x = some (kz l.length x) := by
 unfold eS
 have := mj (body := c8 l x) (List.range l.length) (ws x) (fun i k acc he hacc => by
  have hi := (List.getElem?_eq_some_iff.1 he).1
  rw [List.length_range] at hi
  obtain rfl : k = i := by rw [List.getElem?_range hi] at he; exact (Option.some.inj he).symm
  have hN : 0 ≤ lL x k ∧ lL x k ≤ 10000000 := by
   unfold lL
   split
   ·omega
   ·rename_i hne
    have hpos : 0 < x.length := List.length_pos_iff.2 hne
    have hm := Nat.mod_lt k hpos
    rw [List.getElem?_eq_getElem hm]
    have := hx _ (List.getElem_mem hm)
    simp only [Option.getD_some]; omega
  refine Ok.get ?_
  unfold c8
  simp only
  rw [jO (by omega), cond_true, aV (by omega), ai]
  refine Ok.bind (P := fun v => v = lL x k) (Ok.cond (fun c => ?_) fun c => Ok.ret ?_) fun v hv => ?_
  ·simp only [decide_eq_true_eq] at c
   have hne : x ≠ [] := fun e => by subst e; simp at c
   have hpos : 0 < x.length := by omega
   have hm := Nat.mod_lt k hpos
   rw [bR (by omega) (by omega), ai]
   have he2 : ((k : Nat) : Int) % (x.length : Int) = ((k % x.length : Nat) : Int) := by simp
   have hb := hx _ (List.getElem_mem hm)
   rw [he2, fS, List.getElem?_eq_getElem hm, ai, aV (by omega), ai, aV (by omega), ai]
   refine Ok.ret ?_
   unfold lL
   rw [if_neg hne, List.getElem?_eq_getElem hm]; rfl
  ·simp only [decide_eq_false_iff_not] at c
   have : x = [] := List.eq_nil_of_length_eq_zero (by omega)
   unfold lL; rw [if_pos this]
  ·subst hv
   rw [bR (by omega) (by omega), ai, aV (by omega), ai, qf (by omega) (by omega), ai, cg (by simp; omega), ai, aV (by omega), ai]
   exact Ok.ret rfl) (fun acc => by
  unfold c8
  simp only [List.length_range]
  rw [gV (by omega), cond_false])
 rw [this, ai]; rfl
theorem zA (x : List Int) (hx : ∀ y ∈ x, 0 ≤ y ∧ y ≤ 65535) (i : Nat) (hi : i ≤ 1000000) : rF (ws x i) := by
 have hN : 0 ≤ lL x i ∧ lL x i ≤ 10000000 := by
  unfold lL
  split
  ·omega
  ·rename_i hne
   have hpos : 0 < x.length := List.length_pos_iff.2 hne
   have hm := Nat.mod_lt i hpos
   rw [List.getElem?_eq_getElem hm]
   have := hx _ (List.getElem_mem hm)
   simp only [Option.getD_some]; omega
 unfold rF ws
 simp only; omega
theorem zK (g : Gm) (l : List PRaw) (hg : GmFine g) (n : Nat) (hn : n ≤ 1000) : Ok (fL g l n) fun ps => ps.length ≤ n ∧ ∀ p ∈ ps, PsFine g p := by
 unfold fL
 refine Ok.bind (P := fun ps : List Ps => ps.length ≤ n ∧ ∀ p ∈ ps, PsFine g p) ?_ fun ps h => Ok.ret h
 refine Ok.loop (fun s : Int × List Ps => ∃ i : Nat, s.1 = i ∧ i ≤ n ∧ s.2.length = i ∧ ∀ p ∈ s.2, PsFine g p) (fun s : Int × List Ps => n - s.1.toNat) ⟨0, rfl, by omega, rfl, by simp⟩ ?_
 rintro ⟨_, acc⟩ ⟨i, rfl, hi, ha, hall⟩
 unfold fN
 simp only at ha hall ⊢
 refine Ok.cond (fun c1 => Ok.cond (fun c2 => ?_) fun _ => Ok.ret ⟨by omega, hall⟩) fun _ => Ok.ret ⟨by omega, hall⟩
 simp only [decide_eq_true_eq] at c1 c2
 rw [dD (by omega) (by omega), ai]
 refine Ok.bind (EE g _ hg) fun p hp => ?_
 rw [cg (by simp; omega), ai, aV (by omega), ai]
 refine Ok.ret ⟨⟨i + 1, by simp, by omega, by simp [ha], fun q hq => ?_⟩, by simp only; omega⟩
 rcases List.mem_append.1 hq with h | h
 ·exact hall q h
 ·simp at h; subst h; exact hp
theorem uO (x : GRaw) (l : List PRaw) (n : List Int) (hx : ∀ y ∈ n, 0 ≤ y ∧ y ≤ 65535) (hnl : n.length ≤ 1000) :
  Ok (eG x l n) fun r => r.1.length ≤ 10 ∧ (∀ p ∈ r.1, PsOk p ∧ 1 ≤ p.at_.length) ∧ r.2 = kz r.1.length n := by
 unfold eG
 refine Ok.bind (DT x) fun g hg => ?_
 refine Ok.bind (zK g l hg 10 (by omega)) fun ps hps => ?_
 rw [ww ps n (by omega) hx (by omega), ai]
 refine Ok.ret ⟨hps.1, fun p hp => ⟨(hps.2 p hp).ok hg, ?_⟩, rfl⟩
 have := (hps.2 p hp).la
 have := hg.board.c1
 omega
end
section
open Go.RowKit
set_option maxRecDepth 100000
def P0 : Ps := ⟨[1, 0], [2], [0], 1, 0⟩
def R0 : Rs := ⟨1, 258⟩
theorem qK : eI P0 R0 = [2, 1, 1, 1, 0, 2, 0, 1, 0, 1, 0, 0, 1, 2] := by decide
theorem EU : Sha.leaf [2, 1, 1, 1, 0, 2, 0, 1, 0, 1, 0, 0, 1, 2] ≠ List.replicate 32 0 := by decide +kernel
theorem um : ff = some true := by
 have hS : PsS P0 := ⟨by decide, by decide, by decide⟩
 have hs : ∀ p ∈ [P0], PsS p := by simpa using hS
 have hl : cN [P0] [R0] = [eI P0 R0] := rfl
 have hpr : Sha.proof [eI P0 R0] 0 = [] := by unfold Sha.proof; rw [Sha.path_one 0 (by simp)]; rfl
 have a1 : cT [P0] [R0] 7 0 = some (⟨7, 0, 1, P0, R0, []⟩, 0) := by
  rw [mu _ _ _ _ (by simp) hs]
  unfold fO
  rw [dif_pos ⟨rfl, by decide, by decide⟩]
  show some ((⟨7, 0, 1, P0, R0, Sha.proof [eI P0 R0] 0⟩ : Ans), (0 : Int)) = _
  rw [hpr]
 have a2 : cT [P0] [] 7 0 = some (rG, 1) := by
  rw [mu _ _ _ _ (by simp) hs]
  unfold fO
  rw [dif_neg (by simp)]
 have a3 : cT [P0] [R0] 7 1 = some (rG, 1) := by
  rw [mu _ _ _ _ (by simp) hs]
  unfold fO
  rw [dif_neg (by simp)]
 have a4 : fk [P0] [R0] = some (Sha.leaf (eI P0 R0)) := by
  rw [rm _ _ (by simp) hs, hl, Sha.root_one]
 have hck : ∀ root : List UInt8, root.length = 32 → CkOk root ⟨7, 0, 1, P0, R0, []⟩ := fun root h => ⟨h, hS, by simp, by simp, by decide, by decide, by decide⟩
 have hpl : nO P0 R0 = true := by decide
 have hcl : ∀ root : List UInt8, Sha.check root 1 0 (eI P0 R0) [] = decide (Sha.leaf (eI P0 R0) = root) := fun root => by
  unfold Sha.check Sha.climb; simp
 simp only [qK] at hcl
 refine Ok.get ?_
 unfold ff
 refine Ok.eq (pw P0 R0 hS.B) ?_
 refine Ok.eq a1 (Ok.eq a2 (Ok.eq a3 (Ok.eq a4 (Ok.eq (iP (Sha.leaf_len _)) ?_))))
 simp only [rG, qK, beq_self_eq_true, cond_true, List.length_nil, Int.natCast_zero, Int.cast_ofNat_Int]
 refine Ok.eq (lu P0 R0 hS.B) ?_
 rw [qK]
 refine Ok.eq (show gG _ = some (Sha.leaf _) from if_pos (by decide)) ?_
 refine Ok.eq (iP (Sha.leaf_len _)) (Ok.eq (iP (Sha.leaf_len _)) ?_)
 rw [beq_self_eq_true, cond_true]
 refine Ok.eq (ma 7 (hck _ (Sha.leaf_len _))) ?_
 have e1 : iH (Sha.leaf [2, 1, 1, 1, 0, 2, 0, 1, 0, 1, 0, 0, 1, 2]) 7 ⟨7, 0, 1, P0, R0, []⟩ = true := by
  unfold iH; simp only [hpl, qK, hcl]; simp
 have e2 : iH (Sha.leaf [2, 1, 1, 1, 0, 2, 0, 1, 0, 1, 0, 0, 1, 2]) 8 ⟨7, 0, 1, P0, R0, []⟩ = false := by
  unfold iH; simp
 have e3 : iH (List.replicate 32 0) 7 ⟨7, 0, 1, P0, R0, []⟩ = false := by
  unfold iH; simp only [hpl, qK, hcl]
  rw [decide_eq_false EU]; rfl
 rw [e1, cond_true]
 refine Ok.eq (ma 8 (hck _ (Sha.leaf_len _))) ?_
 rw [e2]
 refine Ok.eq (ma 7 (hck _ (by simp))) (Ok.ret ?_)
 rw [e3]; rfl
end
section
open Go.RowKit
set_option maxRecDepth 100000
theorem AV (n : Int) : 0 ≤ IntKind.u16.wrap n ∧ IntKind.u16.wrap n ≤ 65535 := by
 show 0 ≤ n % 65536 ∧ n % 65536 ≤ 65535
 omega
theorem s7 (n : Nat) (x : List Int) : (kz n x).length = n := by simp [kz]
theorem wR (l : List (List UInt8)) (i : Nat) : (∀ s ∈ Sha.proof l i, s.length = 32) ∧ (Sha.proof l i).length ≤ l.length := by
 refine ⟨fun s hs => nW _ l i rfl s (by simpa [Sha.proof] using hs), ?_⟩
 have := rk _ l i rfl
 simpa [Sha.proof] using this
structure LsOk (l : List Ps) (v : List Rs) : Prop where
 le : l.length ≤ 1000
 len : l.length = v.length
 ps : ∀ p ∈ l, PsOk p
 rs : ∀ r ∈ v, rF r
theorem LsOk.S {l : List Ps} {v : List Rs} (h : LsOk l v) : ∀ p ∈ l, PsS p := fun p hp => (h.ps p hp).S
theorem LsOk.big {l : List Ps} {v : List Rs} (h : LsOk l v) : l.length ≤ 1000000 := by have := h.le; omega
theorem LsOk.take {l : List Ps} {v : List Rs} (h : LsOk l v) (n : Nat) : LsOk (l.take n) (v.take n) :=
 ⟨by have := h.le; rw [List.length_take]; omega, by rw [List.length_take, List.length_take, h.len], fun p hp => h.ps p (List.mem_of_mem_take hp), fun r hr => h.rs r (List.mem_of_mem_take hr)⟩
theorem yT (x : GRaw) (l : List PRaw) (n : List Int) (hx : ∀ y ∈ n, 0 ≤ y ∧ y ≤ 65535) (hnl : n.length ≤ 1000) :
  Ok (eG x l n) fun r => LsOk r.1 r.2 ∧ r.1.length ≤ 10 ∧ (∀ p ∈ r.1, 1 ≤ p.at_.length) ∧ r.2 = kz r.1.length n :=
 (uO x l n hx hnl).mono fun r hr => by
  refine ⟨⟨by have := hr.1; omega, by rw [hr.2.2, s7], fun p hp => (hr.2.1 p hp).1, fun s hs => ?_⟩, hr.1, fun p hp => (hr.2.1 p hp).2, hr.2.2⟩
  rw [hr.2.2, kz] at hs
  obtain ⟨i, hi, rfl⟩ := List.mem_map.1 hs
  exact zA n hx i (by have := List.mem_range.1 hi; have := hr.1; omega)
def wy (l : List Ps) (v : List Rs) (ver : Int) (i : Nat) (h : i < l.length) (h' : i < v.length) : Ans := ⟨ver, i, l.length, l[i], v[i], Sha.proof (cN l v) i⟩
theorem xh {l : List Ps} {v : List Rs} (ver : Int) {i : Nat} (h : i < l.length) (hl : l.length = v.length) : fO l v ver i = (wy l v ver i h (by omega), 0) := by
 unfold fO wy
 rw [dif_pos (by omega)]
 rfl
theorem wx {l : List Ps} {v : List Rs} (ver : Int) {i : Int} (h : ¬ (l.length = v.length ∧ 0 ≤ i ∧ i < (l.length : Int))) : fO l v ver i = (rG, 1) := by
 unfold fO
 rw [dif_neg h]
theorem yj {l : List Ps} {v : List Rs} {ver : Int} {i : Nat} (h : i < l.length) (h' : i < v.length) (k : LsOk l v) {root : List UInt8} (hr : root.length = 32) : CkOk root (wy l v ver i h h') := by
 have hp := wR (cN l v) i
 have := k.le
 have hl := kK l v
 exact ⟨hr, k.S _ (List.getElem_mem _), hp.1, by show (Sha.proof _ _).length ≤ _; omega, by show -9223372036854775808 ≤ (l.length : Int); omega, by show (l.length : Int) ≤ _; omega, by show -9223372036854775808 ≤ (i : Int) ∧ (i : Int) ≤ _; omega⟩
theorem vZ {p : Ps} (h : PsS p) : eU p p = some true := by rw [zR p p h.B.fit]; simp
theorem yF {a : Ans} (hS : PsS a.pos) (hp : ∀ s ∈ a.proof, s.length = 32) (hl : a.proof.length ≤ 1000000) : fF a a = some true := by
 unfold fF
 simp only [beq_self_eq_true, cond_true, Bool.and_true]
 rw [vZ hS, ai, cond_true, show gM a.proof a.proof = some (decide (a.proof = a.proof)) from if_pos ⟨hp, hp, by omega, by omega⟩, ai]
 simp
theorem zU {root : List UInt8} (hr : root.length = 32) : CkOk root rG := CkOk.mk hr ⟨by decide, by decide, by decide⟩ (fun s hs => absurd hs (List.not_mem_nil)) (by decide) (by decide) (by decide) (by decide)
theorem uA (l : List PRaw × List PRaw) (x : GRaw) (a : Ans) (hi : -9223372036854775808 ≤ a.index ∧ a.index ≤ 9223372036854775807) (hc : -9223372036854775808 ≤ a.count ∧ a.count ≤ 9223372036854775807) (hp : ∀ s ∈ a.proof, s.length = 32) : cP l x a = some true := by
 refine Ok.get ?_
 unfold cP
 refine Ok.eq um ?_
 refine Ok.cond (fun _ => Ok.ret rfl) fun c1 => Ok.cond (fun _ => Ok.ret rfl) fun c2 => Ok.cond (fun _ => Ok.ret rfl) fun c3 => Ok.cond (fun _ => Ok.ret rfl) fun c4 => ?_
 simp only [decide_eq_false_iff_not] at c1 c2 c3 c4
 have haS : PsS a.pos := ⟨by omega, by omega, by omega⟩
 refine Ok.bind (yT x l.1 [IntKind.u16.wrap a.index] (fun y hy => by rw [List.mem_singleton.1 hy]; exact AV _) (by simp)) fun r hr => ?_
 obtain ⟨ps, rs⟩ := r
 obtain ⟨hk, h10, _, _⟩ := hr
 simp only at hk h10 ⊢
 have lr := hk.len
 refine Ok.eq (rm ps rs hk.big hk.S) (Ok.eq (iP (Sha.root_len _)) (Ok.eq (qN ps rs hk.big hk.S) (Ok.eq (iP (Sha.root_len _)) (Ok.eq (iP (Sha.root_len _)) ?_))))
 rw [beq_self_eq_true, Bool.not_true, cond_false, qf (by omega) (by omega), ai, tb (by omega), ai]
 refine Ok.eq (rm ps _ hk.big hk.S) ?_
 rw [ai, tb (by omega), ai]
 refine Ok.eq (qN ps _ hk.big hk.S) (Ok.eq (iP (Sha.root_len _)) (Ok.eq (iP (Sha.root_len _)) ?_))
 rw [beq_self_eq_true, Bool.not_true, cond_false, pw _ _ haS.B, ai, lu _ _ haS.B, ai, beq_self_eq_true, Bool.not_true, cond_false]
 refine Ok.bind (P := fun o => o = .inl ()) ?_ fun o ho => ?_
 ·refine Ok.loop (fun s : Int => -1 ≤ s ∧ s ≤ ps.length + 1) (fun s => (ps.length + 1 - s).toNat) ⟨by omega, by omega⟩ ?_
  rintro s ⟨hs1, hs2⟩
  unfold bL
  simp only
  refine Ok.cond (fun c => ?_) fun _ => Ok.ret rfl
  simp only [decide_eq_true_eq] at c
  rw [mu ps rs _ _ hk.big hk.S, ai, tS ps rs _ _ hk.big hk.S, ai]
  have hck : CkOk (Sha.root (cN ps rs)) (fO ps rs a.version s).1 := by
   by_cases h : ps.length = rs.length ∧ 0 ≤ s ∧ s < (ps.length : Int)
   ·obtain ⟨i, rfl⟩ : ∃ i : Nat, s = i := ⟨s.toNat, by omega⟩
    rw [xh _ (by omega) hk.len]
    exact yj _ _ hk (Sha.root_len _)
   ·rw [wx _ h]; exact zU (Sha.root_len _)
  rw [yF hck.pos hck.proof (by have := hck.len; omega), ai, Bool.not_true, cond_false, zn rfl, cond_false]
  refine Ok.eq (ma _ hck) (Ok.eq (o5 _ hck) ?_)
  rw [show (iH (Sha.root (cN ps rs)) a.version (fO ps rs a.version s).1 != iH (Sha.root (cN ps rs)) a.version (fO ps rs a.version s).1) = false by simp, cond_false, aV (by omega), ai]
  exact Ok.ret ⟨⟨by omega, by omega⟩, by omega⟩
 ·subst ho
  refine Ok.cond (fun _ => Ok.ret rfl) fun c5 => ?_
  simp only [decide_eq_false_iff_not] at c5
  rw [cond_true]
  have hck : CkOk (Sha.root (cN ps rs)) a := ⟨Sha.root_len _, haS, hp, by omega, hc.1, by omega, hi⟩
  refine Ok.eq (ma _ hck) (Ok.eq (o5 _ hck) (Ok.ret ?_))
  simp
end
end Go.Proofs.YtbaccmkhjmmlnaaDoor
