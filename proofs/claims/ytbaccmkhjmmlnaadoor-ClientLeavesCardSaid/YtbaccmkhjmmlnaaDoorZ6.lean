/-
  Lemmas, part 6 of 9: walks through the program's functions, and plain Lean about what they compute.
-/
import Derived.Test.YtbaccmkhjmmlnaaDoorZ1
import Derived.Test.YtbaccmkhjmmlnaaDoorZ2
import Derived.Test.YtbaccmkhjmmlnaaDoorZ3
import Derived.Test.YtbaccmkhjmmlnaaDoorZ4
import Derived.Test.YtbaccmkhjmmlnaaDoorZ5
set_option linter.unnecessarySimpa false
set_option linter.unusedSimpArgs false
set_option linter.unusedVariables false
namespace Go.Proofs.YtbaccmkhjmmlnaaDoor
section
open Go.RowKit
set_option maxRecDepth 100000
structure Stp where
 op : Int
 n : Int
 deriving DecidableEq
structure Brd where
 cells : Int
 next : List (List Int)
 turn : List Int
def Stp.row (x : Stp) : List D := [.v (.int .i64 x.op), .v (.int .i64 x.n)]
def Brd.row (x : Brd) : List D := [.v (.int .i64 x.cells), .list 1 (x.next.map (rLst 1 (rInt .i64))) false, .list 1 (x.turn.map (rInt .i64)) false]
noncomputable def zuc (a0 : List UInt8) (a1 : Int) : Option Int :=
 bif (decide (a1 < (a0.length : Int))) then (
  ob (idx a0 a1) fun x2 =>
  some (x2.toNat : Int)
 ) else (
  some 0
 )
set_option maxHeartbeats 4000000 in
theorem zhe {a0 : List UInt8} {a1 : Int} {r : Int} (h : zuc a0 a1 = some r) : zg Tryd.prog HG 93 [.list 1 (a0.map rowB) false, .v (.int .i64 a1)] (.v (.int .i64 r)) := by
 unfold zuc at h
 refine zg.of Tryd.func93 rfl Tryd.ntmps93 (by simp) ?_
 intro F hF h0 hT
 show Sm F _ _ ⟨[(0, .d (.list 1 (a0.map rowB) false)), (1, .d (.v (.int .i64 a1)))], [], 0⟩
 refine sr hF ?_
 refine gv hF oA ?_
 refine sn ?_
 refine Sm.seq ?_
 refine sr hF ?_
 refine gv hF oM ?_
 refine gv hF oM ?_
 refine gv hF (oN (lenQD u24)) ?_
 refine gv hF (oB (c_lss)) ?_
 refine sn ?_
 refine Sm.condU hF rfl (fun hc1 => ?_) (fun hc1 => ?_)
 ·replace h := ifF hc1 h
  refine sk ?_
  refine sr hF ?_
  refine gv hF oA ?_
  refine sn ?_
  refine Sm.ret ?_
  obtain rfl := zb h
  exact ret1 rfl rfl
 replace h := ifT hc1 h
 refine sr hF ?_
 refine gv hF oM ?_
 refine gv hF oM ?_
 obtain ⟨x2, hx2, h⟩ := za h
 refine gv hF (oI (idxQD u24 sz5 hx2)) ?_
 refine gv hF (oL (lP1 ag5 rfl)) ?_
 refine gv hF (oC (zbd u5 u3 (z4c _))) ?_
 refine gv hF oA ?_
 refine sn ?_
 refine Sm.ret ?_
 obtain rfl := zb h
 exact ret1 rfl rfl
noncomputable def zte (a0 : List UInt8) : Option (List Stp) :=
 ob (zuc a0 1) fun x1 =>
 ob (remI x1 8) fun x2 =>
 ob (zuc a0 2) fun x3 =>
 ob (remI x3 8) fun x4 =>
 ob (zuc a0 3) fun x5 =>
 ob (remI x5 6) fun x6 =>
 ob (zuc a0 4) fun x7 =>
 ob (remI x7 4) fun x8 =>
 ob (arI .i64 (x2 + 4)) fun x9 =>
 ob (remI x9 8) fun x10 =>
 ob (zuc a0 0) fun x11 =>
 ob (remI x11 (([[(⟨1, x2⟩ : Stp), (⟨3, 0⟩ : Stp)], [(⟨1, x2⟩ : Stp), (⟨4, 0⟩ : Stp), (⟨6, 0⟩ : Stp)], [(⟨2, x2⟩ : Stp)], [(⟨2, x2⟩ : Stp), (⟨4, 0⟩ : Stp), (⟨6, 0⟩ : Stp)], [(⟨1, x2⟩ : Stp), (⟨4, 0⟩ : Stp), (⟨6, 0⟩ : Stp), (⟨1, x2⟩ : Stp)], [(⟨1, x2⟩ : Stp), (⟨1, x4⟩ : Stp)], [(⟨1, x2⟩ : Stp), (⟨7, x2⟩ : Stp)], [(⟨1, x2⟩ : Stp), (⟨3, 0⟩ : Stp), (⟨8, x6⟩ : Stp)], [(⟨9, x8⟩ : Stp), (⟨1, x2⟩ : Stp), (⟨1, x2⟩ : Stp), (⟨10, x8⟩ : Stp)], [(⟨1, x2⟩ : Stp), (⟨5, 0⟩ : Stp), (⟨1, x2⟩ : Stp), (⟨3, 0⟩ : Stp)], [(⟨10, x8⟩ : Stp), (⟨1, x2⟩ : Stp)], [(⟨1, x2⟩ : Stp), (⟨4, 0⟩ : Stp), (⟨6, 0⟩ : Stp), (⟨1, x10⟩ : Stp)], [(⟨1, x2⟩ : Stp), (⟨4, 0⟩ : Stp), (⟨6, 0⟩ : Stp), (⟨1, x4⟩ : Stp), (⟨4, 0⟩ : Stp), (⟨6, 0⟩ : Stp)], [(⟨2, x2⟩ : Stp), (⟨5, 0⟩ : Stp), (⟨1, x2⟩ : Stp)], [(⟨1, x2⟩ : Stp), (⟨4, 0⟩ : Stp), (⟨6, 0⟩ : Stp), (⟨8, x6⟩ : Stp)], [(⟨1, x2⟩ : Stp), (⟨7, x2⟩ : Stp), (⟨1, x4⟩ : Stp)]]).length : Int)) fun x12 =>
 ob (idx ([[(⟨1, x2⟩ : Stp), (⟨3, 0⟩ : Stp)], [(⟨1, x2⟩ : Stp), (⟨4, 0⟩ : Stp), (⟨6, 0⟩ : Stp)], [(⟨2, x2⟩ : Stp)], [(⟨2, x2⟩ : Stp), (⟨4, 0⟩ : Stp), (⟨6, 0⟩ : Stp)], [(⟨1, x2⟩ : Stp), (⟨4, 0⟩ : Stp), (⟨6, 0⟩ : Stp), (⟨1, x2⟩ : Stp)], [(⟨1, x2⟩ : Stp), (⟨1, x4⟩ : Stp)], [(⟨1, x2⟩ : Stp), (⟨7, x2⟩ : Stp)], [(⟨1, x2⟩ : Stp), (⟨3, 0⟩ : Stp), (⟨8, x6⟩ : Stp)], [(⟨9, x8⟩ : Stp), (⟨1, x2⟩ : Stp), (⟨1, x2⟩ : Stp), (⟨10, x8⟩ : Stp)], [(⟨1, x2⟩ : Stp), (⟨5, 0⟩ : Stp), (⟨1, x2⟩ : Stp), (⟨3, 0⟩ : Stp)], [(⟨10, x8⟩ : Stp), (⟨1, x2⟩ : Stp)], [(⟨1, x2⟩ : Stp), (⟨4, 0⟩ : Stp), (⟨6, 0⟩ : Stp), (⟨1, x10⟩ : Stp)], [(⟨1, x2⟩ : Stp), (⟨4, 0⟩ : Stp), (⟨6, 0⟩ : Stp), (⟨1, x4⟩ : Stp), (⟨4, 0⟩ : Stp), (⟨6, 0⟩ : Stp)], [(⟨2, x2⟩ : Stp), (⟨5, 0⟩ : Stp), (⟨1, x2⟩ : Stp)], [(⟨1, x2⟩ : Stp), (⟨4, 0⟩ : Stp), (⟨6, 0⟩ : Stp), (⟨8, x6⟩ : Stp)], [(⟨1, x2⟩ : Stp), (⟨7, x2⟩ : Stp), (⟨1, x4⟩ : Stp)]]) x12) fun x13 =>
 some x13
set_option maxHeartbeats 4000000 in
theorem zil {a0 : List UInt8} {r : List Stp} (h : zte a0 = some r) : zg Tryd.prog HG 82 [.list 1 (a0.map rowB) false] (.list 2 (r.map Stp.row) false) := by
 unfold zte at h
 refine zg.of Tryd.func82 rfl Tryd.ntmps82 (by simp) ?_
 intro F hF h0 hT
 show Sm F _ _ ⟨[(0, .d (.list 1 (a0.map rowB) false))], [], 0⟩
 refine sr hF ?_
 refine gv hF oA ?_
 refine sn ?_
 refine sr hF ?_
 refine gv hF oM ?_
 obtain ⟨x1, hx1, h⟩ := za h
 refine SmG.call hF rfl rfl (by kernel_rfl) rfl rfl rfl (zhe hx1) ?_
 obtain ⟨x2, hx2, h⟩ := za h
 refine gv hF (oB (zsb hx2)) ?_
 refine gv hF oM ?_
 obtain ⟨x3, hx3, h⟩ := za h
 refine SmG.call hF rfl rfl (by kernel_rfl) rfl rfl rfl (zhe hx3) ?_
 obtain ⟨x4, hx4, h⟩ := za h
 refine gv hF (oB (zsb hx4)) ?_
 refine gv hF oM ?_
 obtain ⟨x5, hx5, h⟩ := za h
 refine SmG.call hF rfl rfl (by kernel_rfl) rfl rfl rfl (zhe hx5) ?_
 obtain ⟨x6, hx6, h⟩ := za h
 refine gv hF (oB (zsb hx6)) ?_
 refine gv hF oM ?_
 obtain ⟨x7, hx7, h⟩ := za h
 refine SmG.call hF rfl rfl (by kernel_rfl) rfl rfl rfl (zhe hx7) ?_
 obtain ⟨x8, hx8, h⟩ := za h
 refine gv hF (oB (zsb hx8)) ?_
 refine gv hF oA ?_
 refine gv hF oA ?_
 refine gv hF oA ?_
 refine gv hF oA ?_
 refine sn ?_
 refine sr hF ?_
 refine gv hF oM ?_
 refine gv hF (x := .d (.agg 2 [.v (.int .i64 1), .v (.int .i64 x2)])) (zz rfl u159 (by kernel_rfl) rfl (z8 (n := 2) ze159 pl159 rfl rfl)) ?_
 refine gv hF oM ?_
 refine gv hF (x := .d (.agg 2 [.v (.int .i64 1), .v (.int .i64 x4)])) (zz rfl u159 (by kernel_rfl) rfl (z8 (n := 2) ze159 pl159 rfl rfl)) ?_
 refine gv hF oM ?_
 obtain ⟨x9, hx9, h⟩ := za h
 refine gv hF (oB (z7 hx9)) ?_
 obtain ⟨x10, hx10, h⟩ := za h
 refine gv hF (oB (zsb hx10)) ?_
 refine gv hF (x := .d (.agg 2 [.v (.int .i64 1), .v (.int .i64 x10)])) (zz rfl u159 (by kernel_rfl) rfl (z8 (n := 2) ze159 pl159 rfl rfl)) ?_
 refine SmG.new hF rfl rfl rfl (zx rfl al159) ?_
 refine SmG.new hF rfl rfl rfl (zx rfl al159) ?_
 refine SmG.new hF rfl rfl rfl (zx rfl al159) ?_
 refine SmG.store hF rfl rfl rfl rfl rfl (zy (ys := [.d (.v (.int .i64 1)), .d (.v (.int .i64 x2))]) (r := [.d (.v (.int .i64 0)), .d (.v (.int .i64 0))]) (rows' := [[.d (.v (.int .i64 1)), .d (.v (.int .i64 x2))]]) rfl rfl rfl sz159 rfl rfl rfl rfl rfl) ?_
 refine SmG.store hF rfl rfl rfl rfl rfl (zy (ys := [.d (.v (.int .i64 1)), .d (.v (.int .i64 x4))]) (r := [.d (.v (.int .i64 0)), .d (.v (.int .i64 0))]) (rows' := [[.d (.v (.int .i64 1)), .d (.v (.int .i64 x4))]]) rfl rfl rfl sz159 rfl rfl rfl rfl rfl) ?_
 refine SmG.store hF rfl rfl rfl rfl rfl (zy (ys := [.d (.v (.int .i64 1)), .d (.v (.int .i64 x10))]) (r := [.d (.v (.int .i64 0)), .d (.v (.int .i64 0))]) (rows' := [[.d (.v (.int .i64 1)), .d (.v (.int .i64 x10))]]) rfl rfl rfl sz159 rfl rfl rfl rfl rfl) ?_
 refine sn ?_
 refine sr hF ?_
 refine gv hF oM ?_
 refine gv hF (x := .d (.agg 2 [.v (.int .i64 2), .v (.int .i64 x2)])) (zz rfl u159 (by kernel_rfl) rfl (z8 (n := 2) ze159 pl159 rfl rfl)) ?_
 refine gv hF oM ?_
 refine gv hF (x := .d (.agg 2 [.v (.int .i64 7), .v (.int .i64 x2)])) (zz rfl u159 (by kernel_rfl) rfl (z8 (n := 2) ze159 pl159 rfl rfl)) ?_
 refine SmG.new hF rfl rfl rfl (zx rfl al159) ?_
 refine SmG.new hF rfl rfl rfl (zx rfl al159) ?_
 refine SmG.store hF rfl rfl rfl rfl rfl (zy (ys := [.d (.v (.int .i64 2)), .d (.v (.int .i64 x2))]) (r := [.d (.v (.int .i64 0)), .d (.v (.int .i64 0))]) (rows' := [[.d (.v (.int .i64 2)), .d (.v (.int .i64 x2))]]) rfl rfl rfl sz159 rfl rfl rfl rfl rfl) ?_
 refine SmG.store hF rfl rfl rfl rfl rfl (zy (ys := [.d (.v (.int .i64 7)), .d (.v (.int .i64 x2))]) (r := [.d (.v (.int .i64 0)), .d (.v (.int .i64 0))]) (rows' := [[.d (.v (.int .i64 7)), .d (.v (.int .i64 x2))]]) rfl rfl rfl sz159 rfl rfl rfl rfl rfl) ?_
 refine sn ?_
 refine sr hF ?_
 refine gv hF (x := .d (.agg 2 [.v (.int .i64 3), .v (.int .i64 0)])) (zz rfl u159 (by kernel_rfl) rfl (z8 (n := 2) ze159 pl159 rfl rfl)) ?_
 refine gv hF (x := .d (.agg 2 [.v (.int .i64 4), .v (.int .i64 0)])) (zz rfl u159 (by kernel_rfl) rfl (z8 (n := 2) ze159 pl159 rfl rfl)) ?_
 refine gv hF (x := .d (.agg 2 [.v (.int .i64 5), .v (.int .i64 0)])) (zz rfl u159 (by kernel_rfl) rfl (z8 (n := 2) ze159 pl159 rfl rfl)) ?_
 refine gv hF (x := .d (.agg 2 [.v (.int .i64 6), .v (.int .i64 0)])) (zz rfl u159 (by kernel_rfl) rfl (z8 (n := 2) ze159 pl159 rfl rfl)) ?_
 refine SmG.new hF rfl rfl rfl (zx rfl al159) ?_
 refine SmG.new hF rfl rfl rfl (zx rfl al159) ?_
 refine SmG.new hF rfl rfl rfl (zx rfl al159) ?_
 refine SmG.new hF rfl rfl rfl (zx rfl al159) ?_
 refine SmG.store hF rfl rfl rfl rfl rfl (zy (ys := [.d (.v (.int .i64 3)), .d (.v (.int .i64 0))]) (r := [.d (.v (.int .i64 0)), .d (.v (.int .i64 0))]) (rows' := [[.d (.v (.int .i64 3)), .d (.v (.int .i64 0))]]) rfl rfl rfl sz159 rfl rfl rfl rfl rfl) ?_
 refine SmG.store hF rfl rfl rfl rfl rfl (zy (ys := [.d (.v (.int .i64 4)), .d (.v (.int .i64 0))]) (r := [.d (.v (.int .i64 0)), .d (.v (.int .i64 0))]) (rows' := [[.d (.v (.int .i64 4)), .d (.v (.int .i64 0))]]) rfl rfl rfl sz159 rfl rfl rfl rfl rfl) ?_
 refine SmG.store hF rfl rfl rfl rfl rfl (zy (ys := [.d (.v (.int .i64 5)), .d (.v (.int .i64 0))]) (r := [.d (.v (.int .i64 0)), .d (.v (.int .i64 0))]) (rows' := [[.d (.v (.int .i64 5)), .d (.v (.int .i64 0))]]) rfl rfl rfl sz159 rfl rfl rfl rfl rfl) ?_
 refine SmG.store hF rfl rfl rfl rfl rfl (zy (ys := [.d (.v (.int .i64 6)), .d (.v (.int .i64 0))]) (r := [.d (.v (.int .i64 0)), .d (.v (.int .i64 0))]) (rows' := [[.d (.v (.int .i64 6)), .d (.v (.int .i64 0))]]) rfl rfl rfl sz159 rfl rfl rfl rfl rfl) ?_
 refine sn ?_
 refine sr hF ?_
 refine gv hF oM ?_
 refine gv hF (x := .d (.agg 2 [.v (.int .i64 8), .v (.int .i64 x6)])) (zz rfl u159 (by kernel_rfl) rfl (z8 (n := 2) ze159 pl159 rfl rfl)) ?_
 refine gv hF oM ?_
 refine gv hF (x := .d (.agg 2 [.v (.int .i64 9), .v (.int .i64 x8)])) (zz rfl u159 (by kernel_rfl) rfl (z8 (n := 2) ze159 pl159 rfl rfl)) ?_
 refine gv hF oM ?_
 refine gv hF (x := .d (.agg 2 [.v (.int .i64 10), .v (.int .i64 x8)])) (zz rfl u159 (by kernel_rfl) rfl (z8 (n := 2) ze159 pl159 rfl rfl)) ?_
 refine SmG.new hF rfl rfl rfl (zx rfl al159) ?_
 refine SmG.new hF rfl rfl rfl (zx rfl al159) ?_
 refine SmG.new hF rfl rfl rfl (zx rfl al159) ?_
 refine SmG.store hF rfl rfl rfl rfl rfl (zy (ys := [.d (.v (.int .i64 8)), .d (.v (.int .i64 x6))]) (r := [.d (.v (.int .i64 0)), .d (.v (.int .i64 0))]) (rows' := [[.d (.v (.int .i64 8)), .d (.v (.int .i64 x6))]]) rfl rfl rfl sz159 rfl rfl rfl rfl rfl) ?_
 refine SmG.store hF rfl rfl rfl rfl rfl (zy (ys := [.d (.v (.int .i64 9)), .d (.v (.int .i64 x8))]) (r := [.d (.v (.int .i64 0)), .d (.v (.int .i64 0))]) (rows' := [[.d (.v (.int .i64 9)), .d (.v (.int .i64 x8))]]) rfl rfl rfl sz159 rfl rfl rfl rfl rfl) ?_
 refine SmG.store hF rfl rfl rfl rfl rfl (zy (ys := [.d (.v (.int .i64 10)), .d (.v (.int .i64 x8))]) (r := [.d (.v (.int .i64 0)), .d (.v (.int .i64 0))]) (rows' := [[.d (.v (.int .i64 10)), .d (.v (.int .i64 x8))]]) rfl rfl rfl sz159 rfl rfl rfl rfl rfl) ?_
 refine sn ?_
 refine sr hF ?_
 refine gv hF (x := .d (.agg 2 [.v (.int .i64 1), .v (.int .i64 x2)])) (oL (zn rfl rfl ag159 sz159 rfl rfl)) ?_
 refine gv hF (x := .d (.agg 2 [.v (.int .i64 3), .v (.int .i64 0)])) (oL (zn rfl rfl ag159 sz159 rfl rfl)) ?_
 refine gv hF (x := .d (.list 2 ([(⟨1, x2⟩ : Stp), (⟨3, 0⟩ : Stp)].map Stp.row) true)) (oS (zl u115 sz159 ze159 rfl rfl (PartsQ.cons rfl (PartsQ.cons rfl (PartsQ.nil _))) rfl)) ?_
 refine gv hF (x := .d (.agg 2 [.v (.int .i64 1), .v (.int .i64 x2)])) (oL (zn rfl rfl ag159 sz159 rfl rfl)) ?_
 refine gv hF (x := .d (.agg 2 [.v (.int .i64 4), .v (.int .i64 0)])) (oL (zn rfl rfl ag159 sz159 rfl rfl)) ?_
 refine gv hF (x := .d (.agg 2 [.v (.int .i64 6), .v (.int .i64 0)])) (oL (zn rfl rfl ag159 sz159 rfl rfl)) ?_
 refine gv hF (x := .d (.list 2 ([(⟨1, x2⟩ : Stp), (⟨4, 0⟩ : Stp), (⟨6, 0⟩ : Stp)].map Stp.row) true)) (oS (zl u115 sz159 ze159 rfl rfl (PartsQ.cons rfl (PartsQ.cons rfl (PartsQ.cons rfl (PartsQ.nil _)))) rfl)) ?_
 refine gv hF (x := .d (.agg 2 [.v (.int .i64 2), .v (.int .i64 x2)])) (oL (zn rfl rfl ag159 sz159 rfl rfl)) ?_
 refine gv hF (x := .d (.list 2 ([(⟨2, x2⟩ : Stp)].map Stp.row) true)) (oS (zl u115 sz159 ze159 rfl rfl (PartsQ.cons rfl (PartsQ.nil _)) rfl)) ?_
 refine gv hF (x := .d (.agg 2 [.v (.int .i64 2), .v (.int .i64 x2)])) (oL (zn rfl rfl ag159 sz159 rfl rfl)) ?_
 refine gv hF (x := .d (.agg 2 [.v (.int .i64 4), .v (.int .i64 0)])) (oL (zn rfl rfl ag159 sz159 rfl rfl)) ?_
 refine gv hF (x := .d (.agg 2 [.v (.int .i64 6), .v (.int .i64 0)])) (oL (zn rfl rfl ag159 sz159 rfl rfl)) ?_
 refine gv hF (x := .d (.list 2 ([(⟨2, x2⟩ : Stp), (⟨4, 0⟩ : Stp), (⟨6, 0⟩ : Stp)].map Stp.row) true)) (oS (zl u115 sz159 ze159 rfl rfl (PartsQ.cons rfl (PartsQ.cons rfl (PartsQ.cons rfl (PartsQ.nil _)))) rfl)) ?_
 refine gv hF (x := .d (.agg 2 [.v (.int .i64 1), .v (.int .i64 x2)])) (oL (zn rfl rfl ag159 sz159 rfl rfl)) ?_
 refine gv hF (x := .d (.agg 2 [.v (.int .i64 4), .v (.int .i64 0)])) (oL (zn rfl rfl ag159 sz159 rfl rfl)) ?_
 refine gv hF (x := .d (.agg 2 [.v (.int .i64 6), .v (.int .i64 0)])) (oL (zn rfl rfl ag159 sz159 rfl rfl)) ?_
 refine gv hF (x := .d (.agg 2 [.v (.int .i64 1), .v (.int .i64 x2)])) (oL (zn rfl rfl ag159 sz159 rfl rfl)) ?_
 refine gv hF (x := .d (.list 2 ([(⟨1, x2⟩ : Stp), (⟨4, 0⟩ : Stp), (⟨6, 0⟩ : Stp), (⟨1, x2⟩ : Stp)].map Stp.row) true)) (oS (zl u115 sz159 ze159 rfl rfl (PartsQ.cons rfl (PartsQ.cons rfl (PartsQ.cons rfl (PartsQ.cons rfl (PartsQ.nil _))))) rfl)) ?_
 refine gv hF (x := .d (.agg 2 [.v (.int .i64 1), .v (.int .i64 x2)])) (oL (zn rfl rfl ag159 sz159 rfl rfl)) ?_
 refine gv hF (x := .d (.agg 2 [.v (.int .i64 1), .v (.int .i64 x4)])) (oL (zn rfl rfl ag159 sz159 rfl rfl)) ?_
 refine gv hF (x := .d (.list 2 ([(⟨1, x2⟩ : Stp), (⟨1, x4⟩ : Stp)].map Stp.row) true)) (oS (zl u115 sz159 ze159 rfl rfl (PartsQ.cons rfl (PartsQ.cons rfl (PartsQ.nil _))) rfl)) ?_
 refine gv hF (x := .d (.agg 2 [.v (.int .i64 1), .v (.int .i64 x2)])) (oL (zn rfl rfl ag159 sz159 rfl rfl)) ?_
 refine gv hF (x := .d (.agg 2 [.v (.int .i64 7), .v (.int .i64 x2)])) (oL (zn rfl rfl ag159 sz159 rfl rfl)) ?_
 refine gv hF (x := .d (.list 2 ([(⟨1, x2⟩ : Stp), (⟨7, x2⟩ : Stp)].map Stp.row) true)) (oS (zl u115 sz159 ze159 rfl rfl (PartsQ.cons rfl (PartsQ.cons rfl (PartsQ.nil _))) rfl)) ?_
 refine gv hF (x := .d (.agg 2 [.v (.int .i64 1), .v (.int .i64 x2)])) (oL (zn rfl rfl ag159 sz159 rfl rfl)) ?_
 refine gv hF (x := .d (.agg 2 [.v (.int .i64 3), .v (.int .i64 0)])) (oL (zn rfl rfl ag159 sz159 rfl rfl)) ?_
 refine gv hF (x := .d (.agg 2 [.v (.int .i64 8), .v (.int .i64 x6)])) (oL (zn rfl rfl ag159 sz159 rfl rfl)) ?_
 refine gv hF (x := .d (.list 2 ([(⟨1, x2⟩ : Stp), (⟨3, 0⟩ : Stp), (⟨8, x6⟩ : Stp)].map Stp.row) true)) (oS (zl u115 sz159 ze159 rfl rfl (PartsQ.cons rfl (PartsQ.cons rfl (PartsQ.cons rfl (PartsQ.nil _)))) rfl)) ?_
 refine gv hF (x := .d (.agg 2 [.v (.int .i64 9), .v (.int .i64 x8)])) (oL (zn rfl rfl ag159 sz159 rfl rfl)) ?_
 refine gv hF (x := .d (.agg 2 [.v (.int .i64 1), .v (.int .i64 x2)])) (oL (zn rfl rfl ag159 sz159 rfl rfl)) ?_
 refine gv hF (x := .d (.agg 2 [.v (.int .i64 1), .v (.int .i64 x2)])) (oL (zn rfl rfl ag159 sz159 rfl rfl)) ?_
 refine gv hF (x := .d (.agg 2 [.v (.int .i64 10), .v (.int .i64 x8)])) (oL (zn rfl rfl ag159 sz159 rfl rfl)) ?_
 refine gv hF (x := .d (.list 2 ([(⟨9, x8⟩ : Stp), (⟨1, x2⟩ : Stp), (⟨1, x2⟩ : Stp), (⟨10, x8⟩ : Stp)].map Stp.row) true)) (oS (zl u115 sz159 ze159 rfl rfl (PartsQ.cons rfl (PartsQ.cons rfl (PartsQ.cons rfl (PartsQ.cons rfl (PartsQ.nil _))))) rfl)) ?_
 refine gv hF (x := .d (.agg 2 [.v (.int .i64 1), .v (.int .i64 x2)])) (oL (zn rfl rfl ag159 sz159 rfl rfl)) ?_
 refine gv hF (x := .d (.agg 2 [.v (.int .i64 5), .v (.int .i64 0)])) (oL (zn rfl rfl ag159 sz159 rfl rfl)) ?_
 refine gv hF (x := .d (.agg 2 [.v (.int .i64 1), .v (.int .i64 x2)])) (oL (zn rfl rfl ag159 sz159 rfl rfl)) ?_
 refine gv hF (x := .d (.agg 2 [.v (.int .i64 3), .v (.int .i64 0)])) (oL (zn rfl rfl ag159 sz159 rfl rfl)) ?_
 refine gv hF (x := .d (.list 2 ([(⟨1, x2⟩ : Stp), (⟨5, 0⟩ : Stp), (⟨1, x2⟩ : Stp), (⟨3, 0⟩ : Stp)].map Stp.row) true)) (oS (zl u115 sz159 ze159 rfl rfl (PartsQ.cons rfl (PartsQ.cons rfl (PartsQ.cons rfl (PartsQ.cons rfl (PartsQ.nil _))))) rfl)) ?_
 refine gv hF (x := .d (.agg 2 [.v (.int .i64 10), .v (.int .i64 x8)])) (oL (zn rfl rfl ag159 sz159 rfl rfl)) ?_
 refine gv hF (x := .d (.agg 2 [.v (.int .i64 1), .v (.int .i64 x2)])) (oL (zn rfl rfl ag159 sz159 rfl rfl)) ?_
 refine gv hF (x := .d (.list 2 ([(⟨10, x8⟩ : Stp), (⟨1, x2⟩ : Stp)].map Stp.row) true)) (oS (zl u115 sz159 ze159 rfl rfl (PartsQ.cons rfl (PartsQ.cons rfl (PartsQ.nil _))) rfl)) ?_
 refine gv hF (x := .d (.agg 2 [.v (.int .i64 1), .v (.int .i64 x2)])) (oL (zn rfl rfl ag159 sz159 rfl rfl)) ?_
 refine gv hF (x := .d (.agg 2 [.v (.int .i64 4), .v (.int .i64 0)])) (oL (zn rfl rfl ag159 sz159 rfl rfl)) ?_
 refine gv hF (x := .d (.agg 2 [.v (.int .i64 6), .v (.int .i64 0)])) (oL (zn rfl rfl ag159 sz159 rfl rfl)) ?_
 refine gv hF (x := .d (.agg 2 [.v (.int .i64 1), .v (.int .i64 x10)])) (oL (zn rfl rfl ag159 sz159 rfl rfl)) ?_
 refine gv hF (x := .d (.list 2 ([(⟨1, x2⟩ : Stp), (⟨4, 0⟩ : Stp), (⟨6, 0⟩ : Stp), (⟨1, x10⟩ : Stp)].map Stp.row) true)) (oS (zl u115 sz159 ze159 rfl rfl (PartsQ.cons rfl (PartsQ.cons rfl (PartsQ.cons rfl (PartsQ.cons rfl (PartsQ.nil _))))) rfl)) ?_
 refine gv hF (x := .d (.agg 2 [.v (.int .i64 1), .v (.int .i64 x2)])) (oL (zn rfl rfl ag159 sz159 rfl rfl)) ?_
 refine gv hF (x := .d (.agg 2 [.v (.int .i64 4), .v (.int .i64 0)])) (oL (zn rfl rfl ag159 sz159 rfl rfl)) ?_
 refine gv hF (x := .d (.agg 2 [.v (.int .i64 6), .v (.int .i64 0)])) (oL (zn rfl rfl ag159 sz159 rfl rfl)) ?_
 refine gv hF (x := .d (.agg 2 [.v (.int .i64 1), .v (.int .i64 x4)])) (oL (zn rfl rfl ag159 sz159 rfl rfl)) ?_
 refine gv hF (x := .d (.agg 2 [.v (.int .i64 4), .v (.int .i64 0)])) (oL (zn rfl rfl ag159 sz159 rfl rfl)) ?_
 refine gv hF (x := .d (.agg 2 [.v (.int .i64 6), .v (.int .i64 0)])) (oL (zn rfl rfl ag159 sz159 rfl rfl)) ?_
 refine gv hF (x := .d (.list 2 ([(⟨1, x2⟩ : Stp), (⟨4, 0⟩ : Stp), (⟨6, 0⟩ : Stp), (⟨1, x4⟩ : Stp), (⟨4, 0⟩ : Stp), (⟨6, 0⟩ : Stp)].map Stp.row) true)) (oS (zl u115 sz159 ze159 rfl rfl (PartsQ.cons rfl (PartsQ.cons rfl (PartsQ.cons rfl (PartsQ.cons rfl (PartsQ.cons rfl (PartsQ.cons rfl (PartsQ.nil _))))))) rfl)) ?_
 refine gv hF (x := .d (.agg 2 [.v (.int .i64 2), .v (.int .i64 x2)])) (oL (zn rfl rfl ag159 sz159 rfl rfl)) ?_
 refine gv hF (x := .d (.agg 2 [.v (.int .i64 5), .v (.int .i64 0)])) (oL (zn rfl rfl ag159 sz159 rfl rfl)) ?_
 refine gv hF (x := .d (.agg 2 [.v (.int .i64 1), .v (.int .i64 x2)])) (oL (zn rfl rfl ag159 sz159 rfl rfl)) ?_
 refine gv hF (x := .d (.list 2 ([(⟨2, x2⟩ : Stp), (⟨5, 0⟩ : Stp), (⟨1, x2⟩ : Stp)].map Stp.row) true)) (oS (zl u115 sz159 ze159 rfl rfl (PartsQ.cons rfl (PartsQ.cons rfl (PartsQ.cons rfl (PartsQ.nil _)))) rfl)) ?_
 refine gv hF (x := .d (.agg 2 [.v (.int .i64 1), .v (.int .i64 x2)])) (oL (zn rfl rfl ag159 sz159 rfl rfl)) ?_
 refine gv hF (x := .d (.agg 2 [.v (.int .i64 4), .v (.int .i64 0)])) (oL (zn rfl rfl ag159 sz159 rfl rfl)) ?_
 refine gv hF (x := .d (.agg 2 [.v (.int .i64 6), .v (.int .i64 0)])) (oL (zn rfl rfl ag159 sz159 rfl rfl)) ?_
 refine gv hF (x := .d (.agg 2 [.v (.int .i64 8), .v (.int .i64 x6)])) (oL (zn rfl rfl ag159 sz159 rfl rfl)) ?_
 refine gv hF (x := .d (.list 2 ([(⟨1, x2⟩ : Stp), (⟨4, 0⟩ : Stp), (⟨6, 0⟩ : Stp), (⟨8, x6⟩ : Stp)].map Stp.row) true)) (oS (zl u115 sz159 ze159 rfl rfl (PartsQ.cons rfl (PartsQ.cons rfl (PartsQ.cons rfl (PartsQ.cons rfl (PartsQ.nil _))))) rfl)) ?_
 refine gv hF (x := .d (.agg 2 [.v (.int .i64 1), .v (.int .i64 x2)])) (oL (zn rfl rfl ag159 sz159 rfl rfl)) ?_
 refine gv hF (x := .d (.agg 2 [.v (.int .i64 7), .v (.int .i64 x2)])) (oL (zn rfl rfl ag159 sz159 rfl rfl)) ?_
 refine gv hF (x := .d (.agg 2 [.v (.int .i64 1), .v (.int .i64 x4)])) (oL (zn rfl rfl ag159 sz159 rfl rfl)) ?_
 refine gv hF (x := .d (.list 2 ([(⟨1, x2⟩ : Stp), (⟨7, x2⟩ : Stp), (⟨1, x4⟩ : Stp)].map Stp.row) true)) (oS (zl u115 sz159 ze159 rfl rfl (PartsQ.cons rfl (PartsQ.cons rfl (PartsQ.cons rfl (PartsQ.nil _)))) rfl)) ?_
 refine SmG.toX (St.to_weak (env' := [(0, .d (.list 1 (a0.map rowB) false)), (56, .d (.list 2 ([(⟨1, x2⟩ : Stp), (⟨3, 0⟩ : Stp)].map Stp.row) false)), (60, .d (.list 2 ([(⟨1, x2⟩ : Stp), (⟨4, 0⟩ : Stp), (⟨6, 0⟩ : Stp)].map Stp.row) false)), (62, .d (.list 2 ([(⟨2, x2⟩ : Stp)].map Stp.row) false)), (66, .d (.list 2 ([(⟨2, x2⟩ : Stp), (⟨4, 0⟩ : Stp), (⟨6, 0⟩ : Stp)].map Stp.row) false)), (71, .d (.list 2 ([(⟨1, x2⟩ : Stp), (⟨4, 0⟩ : Stp), (⟨6, 0⟩ : Stp), (⟨1, x2⟩ : Stp)].map Stp.row) false)), (74, .d (.list 2 ([(⟨1, x2⟩ : Stp), (⟨1, x4⟩ : Stp)].map Stp.row) false)), (77, .d (.list 2 ([(⟨1, x2⟩ : Stp), (⟨7, x2⟩ : Stp)].map Stp.row) false)), (81, .d (.list 2 ([(⟨1, x2⟩ : Stp), (⟨3, 0⟩ : Stp), (⟨8, x6⟩ : Stp)].map Stp.row) false)), (86, .d (.list 2 ([(⟨9, x8⟩ : Stp), (⟨1, x2⟩ : Stp), (⟨1, x2⟩ : Stp), (⟨10, x8⟩ : Stp)].map Stp.row) false)), (91, .d (.list 2 ([(⟨1, x2⟩ : Stp), (⟨5, 0⟩ : Stp), (⟨1, x2⟩ : Stp), (⟨3, 0⟩ : Stp)].map Stp.row) false)), (94, .d (.list 2 ([(⟨10, x8⟩ : Stp), (⟨1, x2⟩ : Stp)].map Stp.row) false)), (99, .d (.list 2 ([(⟨1, x2⟩ : Stp), (⟨4, 0⟩ : Stp), (⟨6, 0⟩ : Stp), (⟨1, x10⟩ : Stp)].map Stp.row) false)), (106, .d (.list 2 ([(⟨1, x2⟩ : Stp), (⟨4, 0⟩ : Stp), (⟨6, 0⟩ : Stp), (⟨1, x4⟩ : Stp), (⟨4, 0⟩ : Stp), (⟨6, 0⟩ : Stp)].map Stp.row) false)), (110, .d (.list 2 ([(⟨2, x2⟩ : Stp), (⟨5, 0⟩ : Stp), (⟨1, x2⟩ : Stp)].map Stp.row) false)), (115, .d (.list 2 ([(⟨1, x2⟩ : Stp), (⟨4, 0⟩ : Stp), (⟨6, 0⟩ : Stp), (⟨8, x6⟩ : Stp)].map Stp.row) false)), (119, .d (.list 2 ([(⟨1, x2⟩ : Stp), (⟨7, x2⟩ : Stp), (⟨1, x4⟩ : Stp)].map Stp.row) false))]) (h' := []) (nx' := 12) ⟨⟨_, rfl, V.le.refl _⟩, ⟨_, rfl, V.le.d (by repeat' first | exact D.le.refl _ | exact D.le_full _ _ _ | exact D.le_nil' _ _ _ | refine D.le_list ?_ | exact LeRows.nil | refine LeRows.cons ?_ ?_ | exact LeL.nil | refine LeL.cons ?_ ?_ | refine D.le_tupL ?_ | refine D.le_aggL ?_)⟩, ⟨_, rfl, V.le.d (by repeat' first | exact D.le.refl _ | exact D.le_full _ _ _ | exact D.le_nil' _ _ _ | refine D.le_list ?_ | exact LeRows.nil | refine LeRows.cons ?_ ?_ | exact LeL.nil | refine LeL.cons ?_ ?_ | refine D.le_tupL ?_ | refine D.le_aggL ?_)⟩, ⟨_, rfl, V.le.d (by repeat' first | exact D.le.refl _ | exact D.le_full _ _ _ | exact D.le_nil' _ _ _ | refine D.le_list ?_ | exact LeRows.nil | refine LeRows.cons ?_ ?_ | exact LeL.nil | refine LeL.cons ?_ ?_ | refine D.le_tupL ?_ | refine D.le_aggL ?_)⟩, ⟨_, rfl, V.le.d (by repeat' first | exact D.le.refl _ | exact D.le_full _ _ _ | exact D.le_nil' _ _ _ | refine D.le_list ?_ | exact LeRows.nil | refine LeRows.cons ?_ ?_ | exact LeL.nil | refine LeL.cons ?_ ?_ | refine D.le_tupL ?_ | refine D.le_aggL ?_)⟩, ⟨_, rfl, V.le.d (by repeat' first | exact D.le.refl _ | exact D.le_full _ _ _ | exact D.le_nil' _ _ _ | refine D.le_list ?_ | exact LeRows.nil | refine LeRows.cons ?_ ?_ | exact LeL.nil | refine LeL.cons ?_ ?_ | refine D.le_tupL ?_ | refine D.le_aggL ?_)⟩, ⟨_, rfl, V.le.d (by repeat' first | exact D.le.refl _ | exact D.le_full _ _ _ | exact D.le_nil' _ _ _ | refine D.le_list ?_ | exact LeRows.nil | refine LeRows.cons ?_ ?_ | exact LeL.nil | refine LeL.cons ?_ ?_ | refine D.le_tupL ?_ | refine D.le_aggL ?_)⟩, ⟨_, rfl, V.le.d (by repeat' first | exact D.le.refl _ | exact D.le_full _ _ _ | exact D.le_nil' _ _ _ | refine D.le_list ?_ | exact LeRows.nil | refine LeRows.cons ?_ ?_ | exact LeL.nil | refine LeL.cons ?_ ?_ | refine D.le_tupL ?_ | refine D.le_aggL ?_)⟩, ⟨_, rfl, V.le.d (by repeat' first | exact D.le.refl _ | exact D.le_full _ _ _ | exact D.le_nil' _ _ _ | refine D.le_list ?_ | exact LeRows.nil | refine LeRows.cons ?_ ?_ | exact LeL.nil | refine LeL.cons ?_ ?_ | refine D.le_tupL ?_ | refine D.le_aggL ?_)⟩, ⟨_, rfl, V.le.d (by repeat' first | exact D.le.refl _ | exact D.le_full _ _ _ | exact D.le_nil' _ _ _ | refine D.le_list ?_ | exact LeRows.nil | refine LeRows.cons ?_ ?_ | exact LeL.nil | refine LeL.cons ?_ ?_ | refine D.le_tupL ?_ | refine D.le_aggL ?_)⟩, ⟨_, rfl, V.le.d (by repeat' first | exact D.le.refl _ | exact D.le_full _ _ _ | exact D.le_nil' _ _ _ | refine D.le_list ?_ | exact LeRows.nil | refine LeRows.cons ?_ ?_ | exact LeL.nil | refine LeL.cons ?_ ?_ | refine D.le_tupL ?_ | refine D.le_aggL ?_)⟩, ⟨_, rfl, V.le.d (by repeat' first | exact D.le.refl _ | exact D.le_full _ _ _ | exact D.le_nil' _ _ _ | refine D.le_list ?_ | exact LeRows.nil | refine LeRows.cons ?_ ?_ | exact LeL.nil | refine LeL.cons ?_ ?_ | refine D.le_tupL ?_ | refine D.le_aggL ?_)⟩, ⟨_, rfl, V.le.d (by repeat' first | exact D.le.refl _ | exact D.le_full _ _ _ | exact D.le_nil' _ _ _ | refine D.le_list ?_ | exact LeRows.nil | refine LeRows.cons ?_ ?_ | exact LeL.nil | refine LeL.cons ?_ ?_ | refine D.le_tupL ?_ | refine D.le_aggL ?_)⟩, ⟨_, rfl, V.le.d (by repeat' first | exact D.le.refl _ | exact D.le_full _ _ _ | exact D.le_nil' _ _ _ | refine D.le_list ?_ | exact LeRows.nil | refine LeRows.cons ?_ ?_ | exact LeL.nil | refine LeL.cons ?_ ?_ | refine D.le_tupL ?_ | refine D.le_aggL ?_)⟩, ⟨_, rfl, V.le.d (by repeat' first | exact D.le.refl _ | exact D.le_full _ _ _ | exact D.le_nil' _ _ _ | refine D.le_list ?_ | exact LeRows.nil | refine LeRows.cons ?_ ?_ | exact LeL.nil | refine LeL.cons ?_ ?_ | refine D.le_tupL ?_ | refine D.le_aggL ?_)⟩, ⟨_, rfl, V.le.d (by repeat' first | exact D.le.refl _ | exact D.le_full _ _ _ | exact D.le_nil' _ _ _ | refine D.le_list ?_ | exact LeRows.nil | refine LeRows.cons ?_ ?_ | exact LeL.nil | refine LeL.cons ?_ ?_ | refine D.le_tupL ?_ | refine D.le_aggL ?_)⟩, ⟨_, rfl, V.le.d (by repeat' first | exact D.le.refl _ | exact D.le_full _ _ _ | exact D.le_nil' _ _ _ | refine D.le_list ?_ | exact LeRows.nil | refine LeRows.cons ?_ ?_ | exact LeL.nil | refine LeL.cons ?_ ?_ | refine D.le_tupL ?_ | refine D.le_aggL ?_)⟩, trivial⟩ trivial (Nat.le_of_ble_eq_true rfl)) rfl ?_
 refine gv hF (x := .d (.list 1 ([[(⟨1, x2⟩ : Stp), (⟨3, 0⟩ : Stp)], [(⟨1, x2⟩ : Stp), (⟨4, 0⟩ : Stp), (⟨6, 0⟩ : Stp)], [(⟨2, x2⟩ : Stp)], [(⟨2, x2⟩ : Stp), (⟨4, 0⟩ : Stp), (⟨6, 0⟩ : Stp)], [(⟨1, x2⟩ : Stp), (⟨4, 0⟩ : Stp), (⟨6, 0⟩ : Stp), (⟨1, x2⟩ : Stp)], [(⟨1, x2⟩ : Stp), (⟨1, x4⟩ : Stp)], [(⟨1, x2⟩ : Stp), (⟨7, x2⟩ : Stp)], [(⟨1, x2⟩ : Stp), (⟨3, 0⟩ : Stp), (⟨8, x6⟩ : Stp)], [(⟨9, x8⟩ : Stp), (⟨1, x2⟩ : Stp), (⟨1, x2⟩ : Stp), (⟨10, x8⟩ : Stp)], [(⟨1, x2⟩ : Stp), (⟨5, 0⟩ : Stp), (⟨1, x2⟩ : Stp), (⟨3, 0⟩ : Stp)], [(⟨10, x8⟩ : Stp), (⟨1, x2⟩ : Stp)], [(⟨1, x2⟩ : Stp), (⟨4, 0⟩ : Stp), (⟨6, 0⟩ : Stp), (⟨1, x10⟩ : Stp)], [(⟨1, x2⟩ : Stp), (⟨4, 0⟩ : Stp), (⟨6, 0⟩ : Stp), (⟨1, x4⟩ : Stp), (⟨4, 0⟩ : Stp), (⟨6, 0⟩ : Stp)], [(⟨2, x2⟩ : Stp), (⟨5, 0⟩ : Stp), (⟨1, x2⟩ : Stp)], [(⟨1, x2⟩ : Stp), (⟨4, 0⟩ : Stp), (⟨6, 0⟩ : Stp), (⟨8, x6⟩ : Stp)], [(⟨1, x2⟩ : Stp), (⟨7, x2⟩ : Stp), (⟨1, x4⟩ : Stp)]].map (rLst 2 Stp.row)) true)) (oS (zl u109 sz115 ze115 rfl rfl (PartsQ.cons rfl (PartsQ.cons rfl (PartsQ.cons rfl (PartsQ.cons rfl (PartsQ.cons rfl (PartsQ.cons rfl (PartsQ.cons rfl (PartsQ.cons rfl (PartsQ.cons rfl (PartsQ.cons rfl (PartsQ.cons rfl (PartsQ.cons rfl (PartsQ.cons rfl (PartsQ.cons rfl (PartsQ.cons rfl (PartsQ.cons rfl (PartsQ.nil _))))))))))))))))) rfl)) ?_
 refine gv hF oA ?_
 refine sn ?_
 refine sr hF ?_
 refine gv hF oM ?_
 refine gv hF oM ?_
 obtain ⟨x11, hx11, h⟩ := za h
 refine SmG.call hF rfl rfl (by kernel_rfl) rfl rfl rfl (zhe hx11) ?_
 refine gv hF oM ?_
 refine gv hF (oN (lenQD u109)) ?_
 obtain ⟨x12, hx12, h⟩ := za h
 refine gv hF (oB (zsb hx12)) ?_
 obtain ⟨x13, hx13, h⟩ := za h
 refine gv hF (oI (idxQD u109 sz115 hx13)) ?_
 refine gv hF (oL (lP1 ag115 rfl)) ?_
 refine gv hF oA ?_
 refine sn ?_
 refine Sm.ret ?_
 obtain rfl := zb h
 exact ret1 rfl rfl
noncomputable def zxe (a0 : List Stp) (a1 : Int) (a2 : Int) (a3 : Int) (s1 : (Int × (List Stp))) : Option ((Int × (List Stp)) ⊕ List Stp) :=
 bif (decide (s1.1 < (a0.length : Int))) then (
  ob ((
   ob (idx a0 s1.1) fun x6 =>
   ob ((
    ob ((
     bif (x6.op == 1) then (
      some (x6.op == 1)
     ) else (
      bif (x6.op == 2) then (
       some (x6.op == 2)
      ) else (
       some (x6.op == 7)
      )
     )
     : Option Bool)) fun v9 =>
    bif v9 then (
     ob (remI x6.n a1) fun x11 =>
     some (.inl x11)
    ) else (
     bif (x6.op == 8) then (
      ob (remI x6.n a2) fun x13 =>
      some (.inl x13)
     ) else (
      ob ((
       bif (x6.op == 9) then (
        some (x6.op == 9)
       ) else (
        some (x6.op == 10)
       )
       : Option Bool)) fun v15 =>
      bif v15 then (
       bif (a3 == 0) then (
        some (.inr s1.2)
       ) else (
        ob (remI x6.n a3) fun x18 =>
        some (.inl x18)
       )
      ) else (
       some (.inl x6.n)
      )
     )
    )
    : Option (Int ⊕ List Stp))) fun o21 => match o21 with
   | .inl v19 => (
    ob (app s1.2 [(⟨x6.op, v19⟩ : Stp)]) fun x20 =>
    some x20
    )
   | .inr e22 => some e22
   : Option (List Stp))) fun v23 =>
  ob (arI .i64 (s1.1 + 1)) fun x24 =>
  some (.inl (x24, v23))
 ) else (
  some (.inr s1.2)
 )
noncomputable def zve (a0 : List Stp) (a1 : Int) (a2 : Int) (a3 : Int) : Option (List Stp) :=
 ob ((
  loopO (zxe a0 a1 a2 a3) (0, ([] : List Stp))
  : Option (List Stp))) fun v25 =>
 bif ((v25.length : Int) == 0) then (
  some [(⟨3, 0⟩ : Stp)]
 ) else (
  some v25
 )
set_option maxHeartbeats 4000000 in
theorem zhl {a0 : List Stp} {a1 : Int} {a2 : Int} {a3 : Int} {r : List Stp} (h : zve a0 a1 a2 a3 = some r) : zg Tryd.prog HG 81 [.list 2 (a0.map Stp.row) false, .v (.int .i64 a1), .v (.int .i64 a2), .v (.int .i64 a3)] (.list 2 (r.map Stp.row) false) := by
 unfold zve at h
 refine zg.of Tryd.func81 rfl Tryd.ntmps81 (by simp) ?_
 intro F hF h0 hT
 show Sm F _ _ ⟨[(0, .d (.list 2 (a0.map Stp.row) false)), (1, .d (.v (.int .i64 a1))), (2, .d (.v (.int .i64 a2))), (3, .d (.v (.int .i64 a3)))], [], 0⟩
 refine sr hF ?_
 refine gv hF oA ?_
 refine sn ?_
 refine sr hF ?_
 refine gv hF (x := .d (.list 2 (([] : List Stp).map Stp.row) true)) (oS (z7f u115 sz159)) ?_
 refine gv hF oA ?_
 refine sn ?_
 refine Sm.seq ?_
 obtain ⟨v25, hv25, h⟩ := za h
 refine Sm.joinT ⟨[(9, .d (.list 2 (v25.map Stp.row) false))], [], 1⟩ ?_ ?_
 ·refine Sm.seq ?_
  refine sr hF ?_
  refine gv hF oM ?_
  refine gv hF (oN (lenQD u115)) ?_
  refine gv hF (oB (c_eql)) ?_
  refine sn ?_
  refine Sm.condB hF rfl (fun hc26 => ?_) (fun hc26 => ?_)
  ·replace h := ifT hc26 h
   refine sr hF ?_
   refine gv hF (x := .d (.agg 2 [.v (.int .i64 3), .v (.int .i64 0)])) (zz rfl u159 (by kernel_rfl) rfl (z8 (n := 2) ze159 pl159 rfl rfl)) ?_
   refine gv hF (x := .d (.list 2 ([(⟨3, 0⟩ : Stp)].map Stp.row) true)) (oS (zl u115 sz159 ze159 rfl rfl (PartsQ.cons rfl (PartsQ.nil _)) rfl)) ?_
   refine gv hF oA ?_
   refine sn ?_
   refine Sm.ret ?_
   obtain rfl := zb h
   exact zcd (RetR.cons (RetO.tmp rfl) (RetR.nil)) (by repeat' first | exact D.le.refl _ | exact D.le_full _ _ _ | exact D.le_nil' _ _ _ | refine D.le_list ?_ | exact LeRows.nil | refine LeRows.cons ?_ ?_ | exact LeL.nil | refine LeL.cons ?_ ?_ | refine D.le_tupL ?_ | refine D.le_aggL ?_)
  replace h := ifF hc26 h
  refine sk ?_
  refine sr hF ?_
  refine gv hF oM ?_
  refine gv hF oA ?_
  refine sn ?_
  refine Sm.ret ?_
  obtain rfl := zb h
  exact ret1 rfl rfl
 replace h := hv25
 refine sr hF ?_
 refine gv hF oA ?_
 refine sn ?_
 refine Sm.block ?_
 refine Sm.to (toK (e := [(0, .d (.list 2 (a0.map Stp.row) false)), (1, .d (.v (.int .i64 a1))), (2, .d (.v (.int .i64 a2))), (3, .d (.v (.int .i64 a3))), (9, .d (.list 2 ([].map Stp.row) true)), (10, .d (.v (.int .i64 0)))]) (g := []) (m := 0) ⟨rfl, rfl, rfl, rfl, rfl, rfl, trivial⟩ trivial) ?_
 refine Sm.own (t := 9) 2 rfl ?_
 refine Sm.loopT (zxe a0 a1 a2 a3) (fun s1 => ⟨[(0, .d (.list 2 (a0.map Stp.row) false)), (1, .d (.v (.int .i64 a1))), (2, .d (.v (.int .i64 a2))), (3, .d (.v (.int .i64 a3))), (9, .sref 0 0 (s1.2.map Stp.row).length), (10, .d (.v (.int .i64 s1.1)))], [(0, dB 2 (s1.2.map Stp.row))], 1⟩) (0, ([] : List Stp)) h (toK ⟨rfl, rfl, rfl, rfl, rfl, rfl, trivial⟩ ⟨rfl, trivial⟩) ?_
 intro n2 s1 o3 h hd4
 unfold zxe at h
 refine Sm.seq ?_
 refine sr hF ?_
 refine gv hF oM ?_
 refine gv hF oM ?_
 refine gv hF (oN (lenQD u115)) ?_
 refine gv hF (oB (c_lss)) ?_
 refine sn ?_
 refine Sm.condU hF rfl (fun hc5 => ?_) (fun hc5 => ?_)
 ·replace h := ifF hc5 h
  refine Sm.exit ?_
  replace h := zw h hd4
  obtain rfl := zb h
  exact (St.to_trans (toK (e := [(9, .sref 0 0 (s1.2.map Stp.row).length)]) (g := [(0, dB 2 (s1.2.map Stp.row))]) (m := 1) ⟨rfl, trivial⟩ ⟨rfl, trivial⟩) (St.to_frz (l := 0) (sz := 2) (env' := [(9, .d (.list 2 (s1.2.map Stp.row) false))]) (h' := []) (nx := 1) (s1.2.map Stp.row) rfl ⟨⟨_, rfl, zjc⟩, trivial⟩ trivial))
 replace h := ifT hc5 h
 refine sk ?_
 refine Sm.seq ?_
 obtain ⟨v23, hv23, h⟩ := za h
 refine Sm.joinT ⟨[(0, .d (.list 2 (a0.map Stp.row) false)), (1, .d (.v (.int .i64 a1))), (2, .d (.v (.int .i64 a2))), (3, .d (.v (.int .i64 a3))), (9, .sref 0 0 (v23.map Stp.row).length), (10, .d (.v (.int .i64 s1.1)))], [(0, dB 2 (v23.map Stp.row))], 2⟩ ?_ ?_
 ·refine Sm.regionG hF rfl ?_
  refine gv hF oM ?_
  obtain ⟨x24, hx24, h⟩ := za h
  refine gv hF (oB (z7 hx24)) ?_
  refine gv hF oA ?_
  refine SmG.nil ?_
  exact ztb (zhb h hd4) (St.to_trans (toK (e := [(0, .d (.list 2 (a0.map Stp.row) false)), (1, .d (.v (.int .i64 a1))), (2, .d (.v (.int .i64 a2))), (3, .d (.v (.int .i64 a3))), (9, .sref 0 0 (v23.map Stp.row).length), (10, .d (.v (.int .i64 x24)))]) (g := [(0, dB 2 (v23.map Stp.row))]) (m := 2) ⟨rfl, rfl, rfl, rfl, rfl, rfl, trivial⟩ ⟨rfl, trivial⟩) (St.to_cutX 1 rfl (by (repeat' first | exact z9l _ | exact zik _ _ | exact trivial | refine z6k ?_ (by decide) | refine z8i ?_ (lt_dB _ _ _) | refine zbm ?_ ?_ | refine ⟨rfl, ?_⟩)) rfl))
 replace h := hv23
 refine Sm.block ?_
 refine sr hF ?_
 refine gv hF oM ?_
 refine gv hF oM ?_
 obtain ⟨x6, hx6, h⟩ := za h
 refine gv hF (oI (idxQD u115 sz159 hx6)) ?_
 refine gv hF (x := .d (.agg 2 (Stp.row x6))) (oL (z3d ag159 sz159 rfl rfl)) ?_
 refine SmG.new hF rfl rfl rfl (zx rfl al159) ?_
 refine SmG.store hF rfl rfl rfl rfl rfl (zy (ys := [.d (.v (.int .i64 x6.op)), .d (.v (.int .i64 x6.n))]) (r := [.d (.v (.int .i64 0)), .d (.v (.int .i64 0))]) (rows' := [[.d (.v (.int .i64 x6.op)), .d (.v (.int .i64 x6.n))]]) rfl rfl rfl sz159 rfl rfl rfl rfl rfl) ?_
 refine sn ?_
 refine Sm.seq ?_
 obtain ⟨o21, ho21, h⟩ := za h
 rcases ocase o21 with ⟨e22, rfl⟩ | ⟨v19, rfl⟩
 ·have he22 := zb h
  subst he22
  replace h := ho21
  refine sr hF ?_
  refine gv hF (oF (zq z6r)) ?_
  refine gv hF (oL (z4b rfl rfl ag3 rfl)) ?_
  refine sn ?_
  refine Sm.block ?_
  refine Sm.seq ?_
  obtain ⟨v9, hv9, h⟩ := za h
  refine Sm.joinTU ⟨[(0, .d (.list 2 (a0.map Stp.row) false)), (1, .d (.v (.int .i64 a1))), (2, .d (.v (.int .i64 a2))), (3, .d (.v (.int .i64 a3))), (9, .sref 0 0 (s1.2.map Stp.row).length), (10, .d (.v (.int .i64 s1.1))), (11, .ref 1 0 0), (24, .d (.v (.int .i64 x6.op))), (25, .d (.v (.bool v9)))], [(1, ⟨2, [[.d (.v (.int .i64 x6.op)), .d (.v (.int .i64 x6.n))]]⟩), (0, dB 2 (s1.2.map Stp.row))], 2⟩ ?_ ?_
  ·replace h := hv9
   refine sr hF ?_
   refine gv hF (oB (c_eql)) ?_
   refine gv hF oA ?_
   refine sn ?_
   refine Sm.condB hF rfl (fun hc7 => ?_) (fun hc7 => ?_)
   ·replace h := ifT hc7 h
    refine Sm.skip ?_
    obtain rfl := zb h
    exact (toK ⟨rfl, rfl, rfl, rfl, rfl, rfl, rfl, rfl, rfl, trivial⟩ ⟨rfl, rfl, trivial⟩)
   replace h := ifF hc7 h
   refine sr hF ?_
   refine gv hF (oB (c_eql)) ?_
   refine gv hF oA ?_
   refine sn ?_
   refine Sm.condB hF rfl (fun hc8 => ?_) (fun hc8 => ?_)
   ·replace h := ifT hc8 h
    refine Sm.skip ?_
    obtain rfl := zb h
    exact (toK ⟨rfl, rfl, rfl, rfl, rfl, rfl, rfl, rfl, rfl, trivial⟩ ⟨rfl, rfl, trivial⟩)
   replace h := ifF hc8 h
   refine Sm.regionG hF rfl ?_
   refine gv hF (oB (c_eql)) ?_
   refine gv hF oA ?_
   refine SmG.nil ?_
   obtain rfl := zb h
   exact (toK ⟨rfl, rfl, rfl, rfl, rfl, rfl, rfl, rfl, rfl, trivial⟩ ⟨rfl, rfl, trivial⟩)
  refine Sm.condB hF rfl (fun hc10 => ?_) (fun hc10 => ?_)
  ·replace h := ifT hc10 h
   refine Sm.regionG hF rfl ?_
   refine gv hF (oF (zq zdf)) ?_
   refine gv hF (oL (z4b rfl rfl ag3 rfl)) ?_
   refine gv hF oM ?_
   obtain ⟨x11, hx11, h⟩ := za h
   refine gv hF (oB (zsb hx11)) ?_
   refine gv hF (oF (zq zdf)) ?_
   refine SmG.store hF rfl rfl rfl rfl rfl (zmc (rows' := [[.d (.v (.int .i64 x6.op)), .d (.v (.int .i64 x11))]]) rfl rfl rfl sz3 rfl rfl rfl) ?_
   refine SmG.nil ?_
   refine zk ?_
   cases h
  replace h := ifF hc10 h
  refine sr hF ?_
  refine gv hF (oB (c_eql)) ?_
  refine gv hF oA ?_
  refine sn ?_
  refine Sm.condB hF rfl (fun hc12 => ?_) (fun hc12 => ?_)
  ·replace h := ifT hc12 h
   refine Sm.regionG hF rfl ?_
   refine gv hF (oF (zq zdf)) ?_
   refine gv hF (oL (z4b rfl rfl ag3 rfl)) ?_
   refine gv hF oM ?_
   obtain ⟨x13, hx13, h⟩ := za h
   refine gv hF (oB (zsb hx13)) ?_
   refine gv hF (oF (zq zdf)) ?_
   refine SmG.store hF rfl rfl rfl rfl rfl (zmc (rows' := [[.d (.v (.int .i64 x6.op)), .d (.v (.int .i64 x13))]]) rfl rfl rfl sz3 rfl rfl rfl) ?_
   refine SmG.nil ?_
   refine zk ?_
   cases h
  replace h := ifF hc12 h
  refine Sm.seq ?_
  obtain ⟨v15, hv15, h⟩ := za h
  refine Sm.joinTU ⟨[(0, .d (.list 2 (a0.map Stp.row) false)), (1, .d (.v (.int .i64 a1))), (2, .d (.v (.int .i64 a2))), (3, .d (.v (.int .i64 a3))), (9, .sref 0 0 (s1.2.map Stp.row).length), (10, .d (.v (.int .i64 s1.1))), (11, .ref 1 0 0), (41, .d (.v (.bool v15)))], [(1, ⟨2, [[.d (.v (.int .i64 x6.op)), .d (.v (.int .i64 x6.n))]]⟩), (0, dB 2 (s1.2.map Stp.row))], 2⟩ ?_ ?_
  ·replace h := hv15
   refine sr hF ?_
   refine gv hF (oB (c_eql)) ?_
   refine gv hF oA ?_
   refine sn ?_
   refine Sm.condB hF rfl (fun hc14 => ?_) (fun hc14 => ?_)
   ·replace h := ifT hc14 h
    refine Sm.skip ?_
    obtain rfl := zb h
    exact (toK ⟨rfl, rfl, rfl, rfl, rfl, rfl, rfl, rfl, trivial⟩ ⟨rfl, rfl, trivial⟩)
   replace h := ifF hc14 h
   refine Sm.regionG hF rfl ?_
   refine gv hF (oB (c_eql)) ?_
   refine gv hF oA ?_
   refine SmG.nil ?_
   obtain rfl := zb h
   exact (toK ⟨rfl, rfl, rfl, rfl, rfl, rfl, rfl, rfl, trivial⟩ ⟨rfl, rfl, trivial⟩)
  refine Sm.condU hF rfl (fun hc16 => ?_) (fun hc16 => ?_)
  ·replace h := ifF hc16 h
   refine Sm.skip ?_
   refine zk ?_
   cases h
  replace h := ifT hc16 h
  refine Sm.seq ?_
  refine sr hF ?_
  refine gv hF oM ?_
  refine gv hF (oB (c_eql)) ?_
  refine sn ?_
  refine Sm.condB hF rfl (fun hc17 => ?_) (fun hc17 => ?_)
  ·replace h := ifT hc17 h
   refine Sm.exit ?_
   replace h := zhk h
   obtain rfl := zb h
   exact (toK ⟨rfl, rfl, rfl, rfl, rfl, rfl, trivial⟩ ⟨rfl, trivial⟩)
  replace h := ifF hc17 h
  refine sk ?_
  refine Sm.regionG hF rfl ?_
  refine gv hF (oF (zq zdf)) ?_
  refine gv hF (oL (z4b rfl rfl ag3 rfl)) ?_
  refine gv hF oM ?_
  obtain ⟨x18, hx18, h⟩ := za h
  refine gv hF (oB (zsb hx18)) ?_
  refine gv hF (oF (zq zdf)) ?_
  refine SmG.store hF rfl rfl rfl rfl rfl (zmc (rows' := [[.d (.v (.int .i64 x6.op)), .d (.v (.int .i64 x18))]]) rfl rfl rfl sz3 rfl rfl rfl) ?_
  refine SmG.nil ?_
  refine zk ?_
  cases h
 refine Sm.joinT ⟨[(0, .d (.list 2 (a0.map Stp.row) false)), (1, .d (.v (.int .i64 a1))), (2, .d (.v (.int .i64 a2))), (3, .d (.v (.int .i64 a3))), (9, .sref 0 0 (s1.2.map Stp.row).length), (10, .d (.v (.int .i64 s1.1))), (11, .ref 1 0 0)], [(1, ⟨2, [[.d (.v (.int .i64 x6.op)), .d (.v (.int .i64 v19))]]⟩), (0, dB 2 (s1.2.map Stp.row))], 2⟩ ?_ ?_
 ·refine Sm.regionG hF rfl ?_
  refine gv hF oM ?_
  refine gv hF (x := .d (.agg 2 [.v (.int .i64 x6.op), .v (.int .i64 v19)])) (oL (zn rfl rfl ag159 sz159 rfl rfl)) ?_
  refine gv hF (x := .d (.list 2 ([(⟨x6.op, v19⟩ : Stp)].map Stp.row) true)) (oS (zl u115 sz159 ze159 rfl rfl (PartsQ.cons rfl (PartsQ.nil _)) rfl)) ?_
  obtain ⟨x20, hx20, h⟩ := za h
  refine SmG.appendOwnL hF el115 rfl (ys := [(⟨x6.op, v19⟩ : Stp)]) (row := Stp.row) rfl rfl rfl rfl rfl rfl rfl rfl (.inl rfl) hx20 (by (repeat' first | exact zqb _ | refine zib ?_ | refine zi ?_ (z6 _ _ _) | refine zi ?_ (z6 _ _ [_]) | refine zi ?_ (z2b (by rfl)))) ?_
  refine gv hF oA ?_
  refine SmG.nil ?_
  refine zk ?_
  obtain rfl := zb h
  exact (toK ⟨rfl, rfl, rfl, rfl, rfl, rfl, trivial⟩ ⟨rfl, trivial⟩)
 replace h := ho21
 refine sr hF ?_
 refine gv hF (oF (zq z6r)) ?_
 refine gv hF (oL (z4b rfl rfl ag3 rfl)) ?_
 refine sn ?_
 refine Sm.block ?_
 refine Sm.seq ?_
 obtain ⟨v9, hv9, h⟩ := za h
 refine Sm.joinTU ⟨[(0, .d (.list 2 (a0.map Stp.row) false)), (1, .d (.v (.int .i64 a1))), (2, .d (.v (.int .i64 a2))), (3, .d (.v (.int .i64 a3))), (9, .sref 0 0 (s1.2.map Stp.row).length), (10, .d (.v (.int .i64 s1.1))), (11, .ref 1 0 0), (24, .d (.v (.int .i64 x6.op))), (25, .d (.v (.bool v9)))], [(1, ⟨2, [[.d (.v (.int .i64 x6.op)), .d (.v (.int .i64 x6.n))]]⟩), (0, dB 2 (s1.2.map Stp.row))], 2⟩ ?_ ?_
 ·replace h := hv9
  refine sr hF ?_
  refine gv hF (oB (c_eql)) ?_
  refine gv hF oA ?_
  refine sn ?_
  refine Sm.condB hF rfl (fun hc7 => ?_) (fun hc7 => ?_)
  ·replace h := ifT hc7 h
   refine Sm.skip ?_
   obtain rfl := zb h
   exact (toK ⟨rfl, rfl, rfl, rfl, rfl, rfl, rfl, rfl, rfl, trivial⟩ ⟨rfl, rfl, trivial⟩)
  replace h := ifF hc7 h
  refine sr hF ?_
  refine gv hF (oB (c_eql)) ?_
  refine gv hF oA ?_
  refine sn ?_
  refine Sm.condB hF rfl (fun hc8 => ?_) (fun hc8 => ?_)
  ·replace h := ifT hc8 h
   refine Sm.skip ?_
   obtain rfl := zb h
   exact (toK ⟨rfl, rfl, rfl, rfl, rfl, rfl, rfl, rfl, rfl, trivial⟩ ⟨rfl, rfl, trivial⟩)
  replace h := ifF hc8 h
  refine Sm.regionG hF rfl ?_
  refine gv hF (oB (c_eql)) ?_
  refine gv hF oA ?_
  refine SmG.nil ?_
  obtain rfl := zb h
  exact (toK ⟨rfl, rfl, rfl, rfl, rfl, rfl, rfl, rfl, rfl, trivial⟩ ⟨rfl, rfl, trivial⟩)
 refine Sm.condB hF rfl (fun hc10 => ?_) (fun hc10 => ?_)
 ·replace h := ifT hc10 h
  refine Sm.regionG hF rfl ?_
  refine gv hF (oF (zq zdf)) ?_
  refine gv hF (oL (z4b rfl rfl ag3 rfl)) ?_
  refine gv hF oM ?_
  obtain ⟨x11, hx11, h⟩ := za h
  refine gv hF (oB (zsb hx11)) ?_
  refine gv hF (oF (zq zdf)) ?_
  refine SmG.store hF rfl rfl rfl rfl rfl (zmc (rows' := [[.d (.v (.int .i64 x6.op)), .d (.v (.int .i64 x11))]]) rfl rfl rfl sz3 rfl rfl rfl) ?_
  refine SmG.nil ?_
  refine zk ?_
  obtain rfl := zb (zqg h)
  exact (toK ⟨rfl, rfl, rfl, rfl, rfl, rfl, rfl, trivial⟩ ⟨rfl, rfl, trivial⟩)
 replace h := ifF hc10 h
 refine sr hF ?_
 refine gv hF (oB (c_eql)) ?_
 refine gv hF oA ?_
 refine sn ?_
 refine Sm.condB hF rfl (fun hc12 => ?_) (fun hc12 => ?_)
 ·replace h := ifT hc12 h
  refine Sm.regionG hF rfl ?_
  refine gv hF (oF (zq zdf)) ?_
  refine gv hF (oL (z4b rfl rfl ag3 rfl)) ?_
  refine gv hF oM ?_
  obtain ⟨x13, hx13, h⟩ := za h
  refine gv hF (oB (zsb hx13)) ?_
  refine gv hF (oF (zq zdf)) ?_
  refine SmG.store hF rfl rfl rfl rfl rfl (zmc (rows' := [[.d (.v (.int .i64 x6.op)), .d (.v (.int .i64 x13))]]) rfl rfl rfl sz3 rfl rfl rfl) ?_
  refine SmG.nil ?_
  refine zk ?_
  obtain rfl := zb (zqg h)
  exact (toK ⟨rfl, rfl, rfl, rfl, rfl, rfl, rfl, trivial⟩ ⟨rfl, rfl, trivial⟩)
 replace h := ifF hc12 h
 refine Sm.seq ?_
 obtain ⟨v15, hv15, h⟩ := za h
 refine Sm.joinTU ⟨[(0, .d (.list 2 (a0.map Stp.row) false)), (1, .d (.v (.int .i64 a1))), (2, .d (.v (.int .i64 a2))), (3, .d (.v (.int .i64 a3))), (9, .sref 0 0 (s1.2.map Stp.row).length), (10, .d (.v (.int .i64 s1.1))), (11, .ref 1 0 0), (41, .d (.v (.bool v15)))], [(1, ⟨2, [[.d (.v (.int .i64 x6.op)), .d (.v (.int .i64 x6.n))]]⟩), (0, dB 2 (s1.2.map Stp.row))], 2⟩ ?_ ?_
 ·replace h := hv15
  refine sr hF ?_
  refine gv hF (oB (c_eql)) ?_
  refine gv hF oA ?_
  refine sn ?_
  refine Sm.condB hF rfl (fun hc14 => ?_) (fun hc14 => ?_)
  ·replace h := ifT hc14 h
   refine Sm.skip ?_
   obtain rfl := zb h
   exact (toK ⟨rfl, rfl, rfl, rfl, rfl, rfl, rfl, rfl, trivial⟩ ⟨rfl, rfl, trivial⟩)
  replace h := ifF hc14 h
  refine Sm.regionG hF rfl ?_
  refine gv hF (oB (c_eql)) ?_
  refine gv hF oA ?_
  refine SmG.nil ?_
  obtain rfl := zb h
  exact (toK ⟨rfl, rfl, rfl, rfl, rfl, rfl, rfl, rfl, trivial⟩ ⟨rfl, rfl, trivial⟩)
 refine Sm.condU hF rfl (fun hc16 => ?_) (fun hc16 => ?_)
 ·replace h := ifF hc16 h
  refine Sm.skip ?_
  refine zk ?_
  obtain rfl := zb (zqg h)
  exact (toK ⟨rfl, rfl, rfl, rfl, rfl, rfl, rfl, trivial⟩ ⟨rfl, rfl, trivial⟩)
 replace h := ifT hc16 h
 refine Sm.seq ?_
 refine sr hF ?_
 refine gv hF oM ?_
 refine gv hF (oB (c_eql)) ?_
 refine sn ?_
 refine Sm.condB hF rfl (fun hc17 => ?_) (fun hc17 => ?_)
 ·replace h := ifT hc17 h
  refine Sm.exit ?_
  cases h
 replace h := ifF hc17 h
 refine sk ?_
 refine Sm.regionG hF rfl ?_
 refine gv hF (oF (zq zdf)) ?_
 refine gv hF (oL (z4b rfl rfl ag3 rfl)) ?_
 refine gv hF oM ?_
 obtain ⟨x18, hx18, h⟩ := za h
 refine gv hF (oB (zsb hx18)) ?_
 refine gv hF (oF (zq zdf)) ?_
 refine SmG.store hF rfl rfl rfl rfl rfl (zmc (rows' := [[.d (.v (.int .i64 x6.op)), .d (.v (.int .i64 x18))]]) rfl rfl rfl sz3 rfl rfl rfl) ?_
 refine SmG.nil ?_
 refine zk ?_
 obtain rfl := zb (zqg h)
 exact (toK ⟨rfl, rfl, rfl, rfl, rfl, rfl, rfl, trivial⟩ ⟨rfl, rfl, trivial⟩)
noncomputable def zrd (a0 : UInt8) (a1 : Int) (a2 : Int) (a3 : Int) : Option (List Stp) :=
 ob (quoI .u8 (a0.toNat : Int) 16) fun x1 =>
 ob (quoI .u8 (a0.toNat : Int) 16) fun x2 =>
 ob (remI (a0.toNat : Int) 5) fun x3 =>
 ob (arI .u8 (x2 + x3)) fun x4 =>
 ob (quoI .u8 (a0.toNat : Int) 3) fun x5 =>
 ob (u8of x1) fun x6 =>
 ob (u8of x4) fun x7 =>
 ob (u8of x5) fun x8 =>
 ob (zte [a0, x6, x7, x8, a0]) fun x9 =>
 ob (zve x9 a1 a2 a3) fun x10 =>
 some x10
set_option maxHeartbeats 4000000 in
theorem zgh {a0 : UInt8} {a1 : Int} {a2 : Int} {a3 : Int} {r : List Stp} (h : zrd a0 a1 a2 a3 = some r) : zg Tryd.prog HG 55 [.v (.int .u8 (a0.toNat : Int)), .v (.int .i64 a1), .v (.int .i64 a2), .v (.int .i64 a3)] (.list 2 (r.map Stp.row) false) := by
 unfold zrd at h
 refine zg.of Tryd.func55 rfl Tryd.ntmps55 (by simp) ?_
 intro F hF h0 hT
 show Sm F _ _ ⟨[(0, .d (.v (.int .u8 (a0.toNat : Int)))), (1, .d (.v (.int .i64 a1))), (2, .d (.v (.int .i64 a2))), (3, .d (.v (.int .i64 a3)))], [], 0⟩
 refine sr hF ?_
 refine gv hF oA ?_
 refine sn ?_
 refine sr hF ?_
 refine gv hF oM ?_
 refine gv hF oM ?_
 obtain ⟨x1, hx1, h⟩ := za h
 refine gv hF (oB (z2i hx1)) ?_
 refine gv hF oM ?_
 obtain ⟨x2, hx2, h⟩ := za h
 refine gv hF (oB (z2i hx2)) ?_
 refine gv hF oM ?_
 obtain ⟨x3, hx3, h⟩ := za h
 refine gv hF (oB (zsb hx3)) ?_
 obtain ⟨x4, hx4, h⟩ := za h
 refine gv hF (oB (z7 hx4)) ?_
 refine gv hF oM ?_
 obtain ⟨x5, hx5, h⟩ := za h
 refine gv hF (oB (z2i hx5)) ?_
 refine gv hF oM ?_
 obtain ⟨x6, hx6, h⟩ := za h
 obtain ⟨x7, hx7, h⟩ := za h
 obtain ⟨x8, hx8, h⟩ := za h
 refine gv hF (x := .d (.list 1 ([a0, x6, x7, x8, a0].map rowB) true)) (oS (zl u24 sz5 ze5 rfl rfl (PartsQ.cons rfl (PartsQ.cons (z4n hx6) (PartsQ.cons (z4n hx7) (PartsQ.cons (z4n hx8) (PartsQ.cons rfl (PartsQ.nil _)))))) rfl)) ?_
 obtain ⟨x9, hx9, h⟩ := za h
 refine SmG.call hF rfl rfl (by kernel_rfl) rfl rfl rfl (zg.args (zil hx9) (fun C => (zfc (by repeat' first | exact D.le.refl _ | exact D.le_full _ _ _ | exact D.le_nil' _ _ _ | refine D.le_list ?_ | exact LeRows.nil | refine LeRows.cons ?_ ?_ | exact LeL.nil | refine LeL.cons ?_ ?_ | refine D.le_tupL ?_ | refine D.le_aggL ?_) (fun _ h => h)))) ?_
 refine gv hF oM ?_
 refine gv hF oM ?_
 refine gv hF oM ?_
 obtain ⟨x10, hx10, h⟩ := za h
 refine SmG.call hF rfl rfl (by kernel_rfl) rfl rfl rfl (zhl hx10) ?_
 refine gv hF oA ?_
 refine sn ?_
 refine Sm.ret ?_
 obtain rfl := zb h
 exact ret1 rfl rfl
noncomputable def zpd (a0 : Int) (a1 : Int) (s8 : (Int × (List (List Int)) × (List Int))) (s13 : (Int × (List Int))) : Option ((Int × (List Int)) ⊕ List Int) :=
 ob (arI .i64 (a0 * a1)) fun x17 =>
 bif (decide (s13.1 < x17)) then (
  ob (remI s13.1 a0) fun x19 =>
  ob (idx [0, 1, 1, 1, 0, (-1), (-1), (-1)] s8.1) fun x20 =>
  ob (arI .i64 (x19 + x20)) fun x21 =>
  ob (quoI .i64 s13.1 a0) fun x22 =>
  ob (idx [(-1), (-1), 0, 1, 1, 1, 0, (-1)] s8.1) fun x23 =>
  ob (arI .i64 (x22 + x23)) fun x24 =>
  ob ((
   bif (decide (0 ≤ x21)) then (
    bif (decide (x21 < a0)) then (
     bif (decide (0 ≤ x24)) then (
      bif (decide (x24 < a1)) then (
       ob (arI .i64 (x24 * a0)) fun x29 =>
       ob (arI .i64 (x29 + x21)) fun x30 =>
       some x30
      ) else (
       some (-1)
      )
     ) else (
      some (-1)
     )
    ) else (
     some (-1)
    )
   ) else (
    some (-1)
   )
   : Option Int)) fun v31 =>
  ob (app s13.2 [v31]) fun x32 =>
  ob (arI .i64 (s13.1 + 1)) fun x33 =>
  some (.inl (x33, x32))
 ) else (
  some (.inr s13.2)
 )
noncomputable def zke (a0 : Int) (a1 : Int) (s8 : (Int × (List (List Int)) × (List Int))) : Option ((Int × (List (List Int)) × (List Int)) ⊕ ((List (List Int)) × (List Int))) :=
 bif (decide (s8.1 < 8)) then (
  ob ((
   ob ((
    loopO (zpd a0 a1 s8) (0, ([] : List Int))
    : Option (List Int))) fun v34 =>
   ob (app s8.2.1 [v34]) fun x35 =>
   ob (arI .i64 (s8.1 + 4)) fun x36 =>
   ob (remI x36 8) fun x37 =>
   ob (app s8.2.2 [x37]) fun x38 =>
   some (x35, x38)
   : Option ((List (List Int)) × (List Int)))) fun v39 =>
  ob (arI .i64 (s8.1 + 1)) fun x40 =>
  some (.inl (x40, v39.1, v39.2))
 ) else (
  some (.inr (s8.2.1, s8.2.2))
 )
noncomputable def zee (a0 : Int) (a1 : Int) : Option (Brd × Int) :=
 bif (decide (a0 < 1)) then (
  some ((⟨0, [], []⟩ : Brd), 1)
 ) else (
  bif (decide (a1 < 1)) then (
   some ((⟨0, [], []⟩ : Brd), 1)
  ) else (
   bif (decide (64 < a0)) then (
    some ((⟨0, [], []⟩ : Brd), 1)
   ) else (
    bif (decide (64 < a1)) then (
     some ((⟨0, [], []⟩ : Brd), 1)
    ) else (
     ob (arI .i64 (a0 * a1)) fun x5 =>
     bif (decide (64 < x5)) then (
      some ((⟨0, [], []⟩ : Brd), 1)
     ) else (
      ob (arI .i64 (a0 * a1)) fun x7 =>
      ob ((
       loopO (zke a0 a1) (0, ([] : List (List Int)), ([] : List Int))
       : Option ((List (List Int)) × (List Int)))) fun v41 =>
      some ((⟨x7, v41.1, v41.2⟩ : Brd), 0)
     )
    )
   )
  )
 )
set_option maxHeartbeats 4000000 in
theorem zxk {a0 : Int} {a1 : Int} {r : (Brd × Int)} (h : zee a0 a1 = some r) : zg Tryd.prog HG 79 [.v (.int .i64 a0), .v (.int .i64 a1)] (.tup [.agg 3 (Brd.row r.1), .v (.int .i64 r.2)]) := by
 unfold zee at h
 refine zg.of Tryd.func79 rfl Tryd.ntmps79 (by simp) ?_
 intro F hF h0 hT
 show Sm F _ _ ⟨[(0, .d (.v (.int .i64 a0))), (1, .d (.v (.int .i64 a1)))], [], 0⟩
 refine sr hF ?_
 refine SmG.new hF rfl rfl rfl (zx rfl al73) ?_
 refine gv hF oA ?_
 refine sn ?_
 refine Sm.seq ?_
 refine sr hF ?_
 refine gv hF oM ?_
 refine gv hF (oB (c_lss)) ?_
 rcases z7h (decide (a0 < 1)) with hc1 | hc1
 ·replace h := ifT hc1 h
  refine gv hF (zj rfl rfl hc1) ?_
  refine gp hF ?_
  refine gp hF ?_
  refine gv hF (zu rfl rfl rfl) ?_
  refine gv hF oM ?_
  refine gp hF ?_
  refine gp hF ?_
  refine gv hF (zu rfl rfl rfl) ?_
  refine gv hF oM ?_
  refine gp hF ?_
  refine gp hF ?_
  refine gv hF (zu rfl rfl rfl) ?_
  refine gv hF oM ?_
  refine gp hF ?_
  refine gp hF ?_
  refine gp hF ?_
  refine gp hF ?_
  refine gv hF (zu rfl rfl rfl) ?_
  refine sn ?_
  refine Sm.condT hF rfl ?_
  refine sr hF ?_
  refine gv hF (x := .d (.agg 3 [.v (.int .i64 0), .list 0 [] true, .list 0 [] true])) (zz rfl u73 (by kernel_rfl) rfl bz73) ?_
  refine SmG.store hF rfl rfl rfl rfl rfl (zy (ys := [.d (.v (.int .i64 0)), .d (.list 0 [] true), .d (.list 0 [] true)]) (r := [.d (.v (.int .i64 0)), .d (.list 0 [] true), .d (.list 0 [] true)]) (rows' := [[.d (.v (.int .i64 0)), .d (.list 0 [] true), .d (.list 0 [] true)]]) rfl rfl rfl sz73 rfl rfl rfl rfl rfl) ?_
  refine gv hF oA ?_
  refine sn ?_
  refine Sm.ret ?_
  obtain rfl := zb h
  exact zcd (RetR.cons (RetO.cell rfl (zn (ds := [.v (.int .i64 0), .list 0 [] true, .list 0 [] true]) rfl rfl ag73 sz73 rfl rfl)) (RetR.cons (RetO.tmp rfl) (RetR.nil))) (by repeat' first | exact D.le.refl _ | exact D.le_full _ _ _ | exact D.le_nil' _ _ _ | refine D.le_list ?_ | exact LeRows.nil | refine LeRows.cons ?_ ?_ | exact LeL.nil | refine LeL.cons ?_ ?_ | refine D.le_tupL ?_ | refine D.le_aggL ?_)
 replace h := ifF hc1 h
 refine gv hF (zj rfl rfl hc1) ?_
 refine gv hF oM ?_
 refine gv hF (oB (c_lss)) ?_
 refine gv hF (zf rfl rfl rfl) ?_
 rcases z7h (decide (a1 < 1)) with hc2 | hc2
 ·replace h := ifT hc2 h
  refine gv hF (zj rfl rfl hc2) ?_
  refine gp hF ?_
  refine gp hF ?_
  refine gv hF (zu rfl rfl rfl) ?_
  refine gv hF oM ?_
  refine gp hF ?_
  refine gp hF ?_
  refine gv hF (zu rfl rfl rfl) ?_
  refine gv hF oM ?_
  refine gp hF ?_
  refine gp hF ?_
  refine gp hF ?_
  refine gp hF ?_
  refine gv hF (zu rfl rfl rfl) ?_
  refine sn ?_
  refine Sm.condT hF rfl ?_
  refine sr hF ?_
  refine gv hF (x := .d (.agg 3 [.v (.int .i64 0), .list 0 [] true, .list 0 [] true])) (zz rfl u73 (by kernel_rfl) rfl bz73) ?_
  refine SmG.store hF rfl rfl rfl rfl rfl (zy (ys := [.d (.v (.int .i64 0)), .d (.list 0 [] true), .d (.list 0 [] true)]) (r := [.d (.v (.int .i64 0)), .d (.list 0 [] true), .d (.list 0 [] true)]) (rows' := [[.d (.v (.int .i64 0)), .d (.list 0 [] true), .d (.list 0 [] true)]]) rfl rfl rfl sz73 rfl rfl rfl rfl rfl) ?_
  refine gv hF oA ?_
  refine sn ?_
  refine Sm.ret ?_
  obtain rfl := zb h
  exact zcd (RetR.cons (RetO.cell rfl (zn (ds := [.v (.int .i64 0), .list 0 [] true, .list 0 [] true]) rfl rfl ag73 sz73 rfl rfl)) (RetR.cons (RetO.tmp rfl) (RetR.nil))) (by repeat' first | exact D.le.refl _ | exact D.le_full _ _ _ | exact D.le_nil' _ _ _ | refine D.le_list ?_ | exact LeRows.nil | refine LeRows.cons ?_ ?_ | exact LeL.nil | refine LeL.cons ?_ ?_ | refine D.le_tupL ?_ | refine D.le_aggL ?_)
 replace h := ifF hc2 h
 refine gv hF (zj rfl rfl hc2) ?_
 refine gv hF oM ?_
 refine gv hF (oB (c_gtr)) ?_
 refine gv hF (zf rfl rfl rfl) ?_
 rcases z7h (decide (64 < a0)) with hc3 | hc3
 ·replace h := ifT hc3 h
  refine gv hF (zj rfl rfl hc3) ?_
  refine gp hF ?_
  refine gp hF ?_
  refine gv hF (zu rfl rfl rfl) ?_
  refine gv hF oM ?_
  refine gp hF ?_
  refine gp hF ?_
  refine gp hF ?_
  refine gp hF ?_
  refine gv hF (zu rfl rfl rfl) ?_
  refine sn ?_
  refine Sm.condT hF rfl ?_
  refine sr hF ?_
  refine gv hF (x := .d (.agg 3 [.v (.int .i64 0), .list 0 [] true, .list 0 [] true])) (zz rfl u73 (by kernel_rfl) rfl bz73) ?_
  refine SmG.store hF rfl rfl rfl rfl rfl (zy (ys := [.d (.v (.int .i64 0)), .d (.list 0 [] true), .d (.list 0 [] true)]) (r := [.d (.v (.int .i64 0)), .d (.list 0 [] true), .d (.list 0 [] true)]) (rows' := [[.d (.v (.int .i64 0)), .d (.list 0 [] true), .d (.list 0 [] true)]]) rfl rfl rfl sz73 rfl rfl rfl rfl rfl) ?_
  refine gv hF oA ?_
  refine sn ?_
  refine Sm.ret ?_
  obtain rfl := zb h
  exact zcd (RetR.cons (RetO.cell rfl (zn (ds := [.v (.int .i64 0), .list 0 [] true, .list 0 [] true]) rfl rfl ag73 sz73 rfl rfl)) (RetR.cons (RetO.tmp rfl) (RetR.nil))) (by repeat' first | exact D.le.refl _ | exact D.le_full _ _ _ | exact D.le_nil' _ _ _ | refine D.le_list ?_ | exact LeRows.nil | refine LeRows.cons ?_ ?_ | exact LeL.nil | refine LeL.cons ?_ ?_ | refine D.le_tupL ?_ | refine D.le_aggL ?_)
 replace h := ifF hc3 h
 refine gv hF (zj rfl rfl hc3) ?_
 refine gv hF oM ?_
 refine gv hF (oB (c_gtr)) ?_
 refine gv hF (zf rfl rfl rfl) ?_
 rcases z7h (decide (64 < a1)) with hc4 | hc4
 ·replace h := ifT hc4 h
  refine gv hF (zj rfl rfl hc4) ?_
  refine gp hF ?_
  refine gp hF ?_
  refine gp hF ?_
  refine gp hF ?_
  refine gv hF (zu rfl rfl rfl) ?_
  refine sn ?_
  refine Sm.condT hF rfl ?_
  refine sr hF ?_
  refine gv hF (x := .d (.agg 3 [.v (.int .i64 0), .list 0 [] true, .list 0 [] true])) (zz rfl u73 (by kernel_rfl) rfl bz73) ?_
  refine SmG.store hF rfl rfl rfl rfl rfl (zy (ys := [.d (.v (.int .i64 0)), .d (.list 0 [] true), .d (.list 0 [] true)]) (r := [.d (.v (.int .i64 0)), .d (.list 0 [] true), .d (.list 0 [] true)]) (rows' := [[.d (.v (.int .i64 0)), .d (.list 0 [] true), .d (.list 0 [] true)]]) rfl rfl rfl sz73 rfl rfl rfl rfl rfl) ?_
  refine gv hF oA ?_
  refine sn ?_
  refine Sm.ret ?_
  obtain rfl := zb h
  exact zcd (RetR.cons (RetO.cell rfl (zn (ds := [.v (.int .i64 0), .list 0 [] true, .list 0 [] true]) rfl rfl ag73 sz73 rfl rfl)) (RetR.cons (RetO.tmp rfl) (RetR.nil))) (by repeat' first | exact D.le.refl _ | exact D.le_full _ _ _ | exact D.le_nil' _ _ _ | refine D.le_list ?_ | exact LeRows.nil | refine LeRows.cons ?_ ?_ | exact LeL.nil | refine LeL.cons ?_ ?_ | refine D.le_tupL ?_ | refine D.le_aggL ?_)
 replace h := ifF hc4 h
 refine gv hF (zj rfl rfl hc4) ?_
 refine gv hF oM ?_
 refine gv hF oM ?_
 obtain ⟨x5, hx5, h⟩ := za h
 refine gv hF (oB (zxg hx5)) ?_
 refine gv hF (oB (c_gtr)) ?_
 refine gv hF (zf rfl rfl rfl) ?_
 refine sn ?_
 refine Sm.condB hF rfl (fun hc6 => ?_) (fun hc6 => ?_)
 ·replace h := ifT hc6 h
  refine sr hF ?_
  refine gv hF (x := .d (.agg 3 [.v (.int .i64 0), .list 0 [] true, .list 0 [] true])) (zz rfl u73 (by kernel_rfl) rfl bz73) ?_
  refine SmG.store hF rfl rfl rfl rfl rfl (zy (ys := [.d (.v (.int .i64 0)), .d (.list 0 [] true), .d (.list 0 [] true)]) (r := [.d (.v (.int .i64 0)), .d (.list 0 [] true), .d (.list 0 [] true)]) (rows' := [[.d (.v (.int .i64 0)), .d (.list 0 [] true), .d (.list 0 [] true)]]) rfl rfl rfl sz73 rfl rfl rfl rfl rfl) ?_
  refine gv hF oA ?_
  refine sn ?_
  refine Sm.ret ?_
  obtain rfl := zb h
  exact zcd (RetR.cons (RetO.cell rfl (zn (ds := [.v (.int .i64 0), .list 0 [] true, .list 0 [] true]) rfl rfl ag73 sz73 rfl rfl)) (RetR.cons (RetO.tmp rfl) (RetR.nil))) (by repeat' first | exact D.le.refl _ | exact D.le_full _ _ _ | exact D.le_nil' _ _ _ | refine D.le_list ?_ | exact LeRows.nil | refine LeRows.cons ?_ ?_ | exact LeL.nil | refine LeL.cons ?_ ?_ | refine D.le_tupL ?_ | refine D.le_aggL ?_)
 replace h := ifF hc6 h
 refine sk ?_
 refine sr hF ?_
 refine gv hF (x := .d (.list 1 ([0, 1, 1, 1, 0, (-1), (-1), (-1)].map (rInt .i64)) true)) (oS (zl u30 sz3 ze3 rfl rfl (PartsQ.cons rfl (PartsQ.cons rfl (PartsQ.cons rfl (PartsQ.cons rfl (PartsQ.cons rfl (PartsQ.cons rfl (PartsQ.cons rfl (PartsQ.cons rfl (PartsQ.nil _))))))))) rfl)) ?_
 refine gv hF oA ?_
 refine sn ?_
 refine sr hF ?_
 refine gv hF (x := .d (.list 1 ([(-1), (-1), 0, 1, 1, 1, 0, (-1)].map (rInt .i64)) true)) (oS (zl u30 sz3 ze3 rfl rfl (PartsQ.cons rfl (PartsQ.cons rfl (PartsQ.cons rfl (PartsQ.cons rfl (PartsQ.cons rfl (PartsQ.cons rfl (PartsQ.cons rfl (PartsQ.cons rfl (PartsQ.nil _))))))))) rfl)) ?_
 refine gv hF oA ?_
 refine sn ?_
 refine sr hF ?_
 refine gv hF oM ?_
 refine gv hF oM ?_
 obtain ⟨x7, hx7, h⟩ := za h
 refine gv hF (oB (zxg hx7)) ?_
 refine gv hF (x := .d (.agg 3 [.v (.int .i64 x7), .list 0 [] true, .list 0 [] true])) (zz rfl u73 (by kernel_rfl) rfl (z8 (n := 3) ze73 pl73 rfl rfl)) ?_
 refine SmG.new hF rfl rfl rfl (zx rfl al73) ?_
 refine SmG.store hF rfl rfl rfl rfl rfl (zy (ys := [.d (.v (.int .i64 x7)), .d (.list 0 [] true), .d (.list 0 [] true)]) (r := [.d (.v (.int .i64 0)), .d (.list 0 [] true), .d (.list 0 [] true)]) (rows' := [[.d (.v (.int .i64 x7)), .d (.list 0 [] true), .d (.list 0 [] true)]]) rfl rfl rfl sz73 rfl rfl rfl rfl rfl) ?_
 refine sn ?_
 refine Sm.seq ?_
 obtain ⟨v41, hv41, h⟩ := za h
 refine Sm.joinT ⟨[(4, .ref 0 0 0), (8, .ref 1 0 0)], [(1, ⟨3, [[.d (.v (.int .i64 x7)), .d (.list 1 (v41.1.map (rLst 1 (rInt .i64))) false), .d (.list 1 (v41.2.map (rInt .i64)) false)]]⟩), (0, ⟨3, [[.d (.v (.int .i64 0)), .d (.list 0 [] true), .d (.list 0 [] true)]]⟩)], 4⟩ ?_ ?_
 ·refine Sm.seq ?_
  refine Sm.regionG hF rfl ?_
  refine gv hF (x := .d (.agg 3 [.v (.int .i64 x7), .list 1 (v41.1.map (rLst 1 (rInt .i64))) false, .list 1 (v41.2.map (rInt .i64)) false])) (oL (zn rfl rfl ag73 sz73 rfl rfl)) ?_
  refine SmG.store hF rfl rfl rfl rfl rfl (zy (ys := [.d (.v (.int .i64 x7)), .d (.list 1 (v41.1.map (rLst 1 (rInt .i64))) false), .d (.list 1 (v41.2.map (rInt .i64)) false)]) (r := [.d (.v (.int .i64 0)), .d (.list 0 [] true), .d (.list 0 [] true)]) (rows' := [[.d (.v (.int .i64 x7)), .d (.list 1 (v41.1.map (rLst 1 (rInt .i64))) false), .d (.list 1 (v41.2.map (rInt .i64)) false)]]) rfl rfl rfl sz73 rfl rfl rfl rfl rfl) ?_
  refine gv hF oA ?_
  refine sn ?_
  refine Sm.ret ?_
  obtain rfl := zb h
  exact zcd (RetR.cons (RetO.cell rfl (zn (ds := [.v (.int .i64 x7), .list 1 (v41.1.map (rLst 1 (rInt .i64))) false, .list 1 (v41.2.map (rInt .i64)) false]) rfl rfl ag73 sz73 rfl rfl)) (RetR.cons (RetO.tmp rfl) (RetR.nil))) (D.le.refl _)
 replace h := hv41
 refine sr hF ?_
 refine gv hF oA ?_
 refine sn ?_
 refine Sm.block ?_
 refine Sm.to (toK (e := [(0, .d (.v (.int .i64 a0))), (1, .d (.v (.int .i64 a1))), (4, .ref 0 0 0), (6, .d (.list 1 ([0, 1, 1, 1, 0, (-1), (-1), (-1)].map (rInt .i64)) true)), (7, .d (.list 1 ([(-1), (-1), 0, 1, 1, 1, 0, (-1)].map (rInt .i64)) true)), (8, .ref 1 0 0), (9, .d (.v (.int .i64 0)))]) (g := [(1, ⟨3, [[.d (.v (.int .i64 x7)), .d (.list 0 [] true), .d (.list 0 [] true)]]⟩), (0, ⟨3, [[.d (.v (.int .i64 0)), .d (.list 0 [] true), .d (.list 0 [] true)]]⟩)]) (m := 2) ⟨rfl, rfl, rfl, rfl, rfl, rfl, rfl, trivial⟩ ⟨rfl, rfl, trivial⟩) ?_
 refine Sm.ownCell 1 0 1 1 rfl rfl rfl ?_
 refine Sm.ownCell 1 0 2 1 rfl rfl rfl ?_
 refine Sm.loopT (zke a0 a1) (fun s8 => ⟨[(0, .d (.v (.int .i64 a0))), (1, .d (.v (.int .i64 a1))), (4, .ref 0 0 0), (6, .d (.list 1 ([0, 1, 1, 1, 0, (-1), (-1), (-1)].map (rInt .i64)) true)), (7, .d (.list 1 ([(-1), (-1), 0, 1, 1, 1, 0, (-1)].map (rInt .i64)) true)), (8, .ref 1 0 0), (9, .d (.v (.int .i64 s8.1)))], [(3, dB 1 (s8.2.2.map (rInt .i64))), (2, dB 1 (s8.2.1.map (rLst 1 (rInt .i64)))), (1, ⟨3, [[.d (.v (.int .i64 x7)), .sref 2 0 (s8.2.1.map (rLst 1 (rInt .i64))).length, .sref 3 0 (s8.2.2.map (rInt .i64)).length]]⟩), (0, ⟨3, [[.d (.v (.int .i64 0)), .d (.list 0 [] true), .d (.list 0 [] true)]]⟩)], 4⟩) (0, ([] : List (List Int)), ([] : List Int)) h (toK ⟨rfl, rfl, rfl, rfl, rfl, rfl, rfl, trivial⟩ ⟨rfl, rfl, rfl, rfl, trivial⟩) ?_
 intro n9 s8 o10 h hd11
 unfold zke at h
 refine Sm.seq ?_
 refine sr hF ?_
 refine gv hF oM ?_
 refine gv hF (oB (c_lss)) ?_
 refine sn ?_
 refine Sm.condU hF rfl (fun hc12 => ?_) (fun hc12 => ?_)
 ·replace h := ifF hc12 h
  refine Sm.exit ?_
  replace h := zw h hd11
  obtain rfl := zb h
  exact (St.to_trans (toK (e := [(4, .ref 0 0 0), (8, .ref 1 0 0)]) (g := [(3, dB 1 (s8.2.2.map (rInt .i64))), (2, dB 1 (s8.2.1.map (rLst 1 (rInt .i64)))), (1, ⟨3, [[.d (.v (.int .i64 x7)), .sref 2 0 (s8.2.1.map (rLst 1 (rInt .i64))).length, .sref 3 0 (s8.2.2.map (rInt .i64)).length]]⟩), (0, ⟨3, [[.d (.v (.int .i64 0)), .d (.list 0 [] true), .d (.list 0 [] true)]]⟩)]) (m := 4) ⟨rfl, rfl, trivial⟩ ⟨rfl, rfl, rfl, rfl, trivial⟩) (St.to_trans (St.to_frz (l := 2) (sz := 1) (env' := [(4, .ref 0 0 0), (8, .ref 1 0 0)]) (h' := [(3, dB 1 (s8.2.2.map (rInt .i64))), (1, ⟨3, [[.d (.v (.int .i64 x7)), .d (.list 1 (s8.2.1.map (rLst 1 (rInt .i64))) false), .sref 3 0 (s8.2.2.map (rInt .i64)).length]]⟩), (0, ⟨3, [[.d (.v (.int .i64 0)), .d (.list 0 [] true), .d (.list 0 [] true)]]⟩)]) (nx := 4) (s8.2.1.map (rLst 1 (rInt .i64))) rfl ⟨⟨_, rfl, rfl⟩, ⟨_, rfl, rfl⟩, trivial⟩ ⟨⟨rfl, _, rfl, zpg⟩, ⟨rfl, _, rfl, zfb (.cons rfl (.cons zjc (.cons rfl .nil)))⟩, ⟨rfl, _, rfl, zfb (.cons rfl (.cons rfl (.cons rfl .nil)))⟩, trivial⟩) (St.to_frz (l := 3) (sz := 1) (env' := [(4, .ref 0 0 0), (8, .ref 1 0 0)]) (h' := [(1, ⟨3, [[.d (.v (.int .i64 x7)), .d (.list 1 (s8.2.1.map (rLst 1 (rInt .i64))) false), .d (.list 1 (s8.2.2.map (rInt .i64)) false)]]⟩), (0, ⟨3, [[.d (.v (.int .i64 0)), .d (.list 0 [] true), .d (.list 0 [] true)]]⟩)]) (nx := 4) (s8.2.2.map (rInt .i64)) rfl ⟨⟨_, rfl, rfl⟩, ⟨_, rfl, rfl⟩, trivial⟩ ⟨⟨rfl, _, rfl, zfb (.cons rfl (.cons rfl (.cons zjc .nil)))⟩, ⟨rfl, _, rfl, zfb (.cons rfl (.cons rfl (.cons rfl .nil)))⟩, trivial⟩)))
 replace h := ifT hc12 h
 refine sk ?_
 refine Sm.seq ?_
 obtain ⟨v39, hv39, h⟩ := za h
 refine Sm.joinT ⟨[(0, .d (.v (.int .i64 a0))), (1, .d (.v (.int .i64 a1))), (4, .ref 0 0 0), (6, .d (.list 1 ([0, 1, 1, 1, 0, (-1), (-1), (-1)].map (rInt .i64)) true)), (7, .d (.list 1 ([(-1), (-1), 0, 1, 1, 1, 0, (-1)].map (rInt .i64)) true)), (8, .ref 1 0 0), (9, .d (.v (.int .i64 s8.1)))], [(3, dB 1 (v39.2.map (rInt .i64))), (2, dB 1 (v39.1.map (rLst 1 (rInt .i64)))), (1, ⟨3, [[.d (.v (.int .i64 x7)), .sref 2 0 (v39.1.map (rLst 1 (rInt .i64))).length, .sref 3 0 (v39.2.map (rInt .i64)).length]]⟩), (0, ⟨3, [[.d (.v (.int .i64 0)), .d (.list 0 [] true), .d (.list 0 [] true)]]⟩)], 5⟩ ?_ ?_
 ·refine Sm.regionG hF rfl ?_
  refine gv hF oM ?_
  obtain ⟨x40, hx40, h⟩ := za h
  refine gv hF (oB (z7 hx40)) ?_
  refine gv hF oA ?_
  refine SmG.nil ?_
  exact ztb (zhb h hd11) (St.to_trans (toK (e := [(0, .d (.v (.int .i64 a0))), (1, .d (.v (.int .i64 a1))), (4, .ref 0 0 0), (6, .d (.list 1 ([0, 1, 1, 1, 0, (-1), (-1), (-1)].map (rInt .i64)) true)), (7, .d (.list 1 ([(-1), (-1), 0, 1, 1, 1, 0, (-1)].map (rInt .i64)) true)), (8, .ref 1 0 0), (9, .d (.v (.int .i64 x40)))]) (g := [(3, dB 1 (v39.2.map (rInt .i64))), (2, dB 1 (v39.1.map (rLst 1 (rInt .i64)))), (1, ⟨3, [[.d (.v (.int .i64 x7)), .sref 2 0 (v39.1.map (rLst 1 (rInt .i64))).length, .sref 3 0 (v39.2.map (rInt .i64)).length]]⟩), (0, ⟨3, [[.d (.v (.int .i64 0)), .d (.list 0 [] true), .d (.list 0 [] true)]]⟩)]) (m := 5) ⟨rfl, rfl, rfl, rfl, rfl, rfl, rfl, trivial⟩ ⟨rfl, rfl, rfl, rfl, trivial⟩) (St.to_cutX 4 rfl (by (repeat' first | exact z9l _ | exact zik _ _ | exact trivial | refine z6k ?_ (by decide) | refine z8i ?_ (lt_dB _ _ _) | refine zbm ?_ ?_ | refine ⟨rfl, ?_⟩)) rfl))
 replace h := hv39
 refine Sm.block ?_
 refine sr hF ?_
 refine gv hF (x := .d (.list 1 (([] : List Int).map (rInt .i64)) true)) (oS (z7f u30 sz3)) ?_
 refine gv hF oA ?_
 refine sn ?_
 refine Sm.seq ?_
 obtain ⟨v34, hv34, h⟩ := za h
 refine Sm.joinT ⟨[(0, .d (.v (.int .i64 a0))), (1, .d (.v (.int .i64 a1))), (4, .ref 0 0 0), (6, .d (.list 1 ([0, 1, 1, 1, 0, (-1), (-1), (-1)].map (rInt .i64)) true)), (7, .d (.list 1 ([(-1), (-1), 0, 1, 1, 1, 0, (-1)].map (rInt .i64)) true)), (8, .ref 1 0 0), (9, .d (.v (.int .i64 s8.1))), (10, .d (.list 1 (v34.map (rInt .i64)) false))], [(3, dB 1 (s8.2.2.map (rInt .i64))), (2, dB 1 (s8.2.1.map (rLst 1 (rInt .i64)))), (1, ⟨3, [[.d (.v (.int .i64 x7)), .sref 2 0 (s8.2.1.map (rLst 1 (rInt .i64))).length, .sref 3 0 (s8.2.2.map (rInt .i64)).length]]⟩), (0, ⟨3, [[.d (.v (.int .i64 0)), .d (.list 0 [] true), .d (.list 0 [] true)]]⟩)], 5⟩ ?_ ?_
 ·refine Sm.seq ?_
  refine Sm.regionG hF rfl ?_
  refine gv hF (oF (zq zfi)) ?_
  refine gv hF (oL (z4b rfl rfl ag71 rfl)) ?_
  refine gv hF oM ?_
  refine gv hF (x := .d (.list 1 ([v34].map (rLst 1 (rInt .i64))) true)) (oS (zl u71 sz30 ze30 rfl rfl (PartsQ.cons rfl (PartsQ.nil _)) rfl)) ?_
  refine SmG.toX (St.to_weak (env' := [(0, .d (.v (.int .i64 a0))), (1, .d (.v (.int .i64 a1))), (4, .ref 0 0 0), (6, .d (.list 1 ([0, 1, 1, 1, 0, (-1), (-1), (-1)].map (rInt .i64)) true)), (7, .d (.list 1 ([(-1), (-1), 0, 1, 1, 1, 0, (-1)].map (rInt .i64)) true)), (8, .ref 1 0 0), (9, .d (.v (.int .i64 s8.1))), (96, .sref 2 0 (s8.2.1.map (rLst 1 (rInt .i64))).length), (98, .d (.list 1 ([v34].map (rLst 1 (rInt .i64))) true))]) (h' := [(3, dB 1 (s8.2.2.map (rInt .i64))), (2, dB 1 (s8.2.1.map (rLst 1 (rInt .i64)))), (1, ⟨3, [[.d (.v (.int .i64 x7)), .any, .sref 3 0 (s8.2.2.map (rInt .i64)).length]]⟩), (0, ⟨3, [[.d (.v (.int .i64 0)), .d (.list 0 [] true), .d (.list 0 [] true)]]⟩)]) (nx' := 5) ⟨⟨_, rfl, V.le.refl _⟩, ⟨_, rfl, V.le.refl _⟩, ⟨_, rfl, V.le.refl _⟩, ⟨_, rfl, V.le.refl _⟩, ⟨_, rfl, V.le.refl _⟩, ⟨_, rfl, V.le.refl _⟩, ⟨_, rfl, V.le.refl _⟩, ⟨_, rfl, V.le.refl _⟩, ⟨_, rfl, V.le.refl _⟩, trivial⟩ ⟨⟨_, rfl, BlkR.refl _⟩, ⟨_, rfl, BlkR.refl _⟩, ⟨_, rfl, BlkR.row (.cons (V.le.refl _) (.cons (V.le.any _) (.cons (V.le.refl _) .nil)))⟩, ⟨_, rfl, BlkR.refl _⟩, trivial⟩ (Nat.le_of_ble_eq_true rfl)) rfl ?_
  obtain ⟨x35, hx35, h⟩ := za h
  refine SmG.appendOwnL hF el71 rfl (ys := [v34]) (row := (rLst 1 (rInt .i64))) rfl rfl rfl rfl rfl rfl rfl rfl (.inl rfl) hx35 (by (repeat' first | exact zqb _ | refine zib ?_ | refine zi ?_ (z6 _ _ _) | refine zi ?_ (z6 _ _ [_]) | refine zi ?_ (z2b (by rfl)))) ?_
  refine gv hF (oF (zq zfi)) ?_
  refine SmG.store hF rfl rfl rfl rfl rfl (zmc (rows' := [[.d (.v (.int .i64 x7)), .sref 2 0 (x35.map (rLst 1 (rInt .i64))).length, .sref 3 0 (s8.2.2.map (rInt .i64)).length]]) rfl rfl rfl sz71 rfl rfl rfl) ?_
  refine sn ?_
  refine Sm.regionG hF rfl ?_
  refine gv hF (oF (zq zvq)) ?_
  refine gv hF (oL (z4b rfl rfl ag30 rfl)) ?_
  refine gv hF oM ?_
  obtain ⟨x36, hx36, h⟩ := za h
  refine gv hF (oB (z7 hx36)) ?_
  obtain ⟨x37, hx37, h⟩ := za h
  refine gv hF (oB (zsb hx37)) ?_
  refine gv hF (x := .d (.list 1 ([x37].map (rInt .i64)) true)) (oS (zl u30 sz3 ze3 rfl rfl (PartsQ.cons rfl (PartsQ.nil _)) rfl)) ?_
  refine SmG.toX (St.to_weak (env' := [(0, .d (.v (.int .i64 a0))), (1, .d (.v (.int .i64 a1))), (4, .ref 0 0 0), (6, .d (.list 1 ([0, 1, 1, 1, 0, (-1), (-1), (-1)].map (rInt .i64)) true)), (7, .d (.list 1 ([(-1), (-1), 0, 1, 1, 1, 0, (-1)].map (rInt .i64)) true)), (8, .ref 1 0 0), (9, .d (.v (.int .i64 s8.1))), (102, .sref 3 0 (s8.2.2.map (rInt .i64)).length), (106, .d (.list 1 ([x37].map (rInt .i64)) true))]) (h' := [(3, dB 1 (s8.2.2.map (rInt .i64))), (2, dB 1 (x35.map (rLst 1 (rInt .i64)))), (1, ⟨3, [[.d (.v (.int .i64 x7)), .sref 2 0 (x35.map (rLst 1 (rInt .i64))).length, .any]]⟩), (0, ⟨3, [[.d (.v (.int .i64 0)), .d (.list 0 [] true), .d (.list 0 [] true)]]⟩)]) (nx' := 5) ⟨⟨_, rfl, V.le.refl _⟩, ⟨_, rfl, V.le.refl _⟩, ⟨_, rfl, V.le.refl _⟩, ⟨_, rfl, V.le.refl _⟩, ⟨_, rfl, V.le.refl _⟩, ⟨_, rfl, V.le.refl _⟩, ⟨_, rfl, V.le.refl _⟩, ⟨_, rfl, V.le.refl _⟩, ⟨_, rfl, V.le.refl _⟩, trivial⟩ ⟨⟨_, rfl, BlkR.refl _⟩, ⟨_, rfl, BlkR.refl _⟩, ⟨_, rfl, BlkR.row (.cons (V.le.refl _) (.cons (V.le.refl _) (.cons (V.le.any _) .nil)))⟩, ⟨_, rfl, BlkR.refl _⟩, trivial⟩ (Nat.le_of_ble_eq_true rfl)) rfl ?_
  obtain ⟨x38, hx38, h⟩ := za h
  refine SmG.appendOwnL hF el30 rfl (ys := [x37]) (row := (rInt .i64)) rfl rfl rfl rfl rfl rfl rfl rfl (.inl rfl) hx38 (by (repeat' first | exact zqb _ | refine zib ?_ | refine zi ?_ (z6 _ _ _) | refine zi ?_ (z6 _ _ [_]) | refine zi ?_ (z2b (by rfl)))) ?_
  refine gv hF (oF (zq zvq)) ?_
  refine SmG.store hF rfl rfl rfl rfl rfl (zmc (rows' := [[.d (.v (.int .i64 x7)), .sref 2 0 (x35.map (rLst 1 (rInt .i64))).length, .sref 3 0 (x38.map (rInt .i64)).length]]) rfl rfl rfl sz30 rfl rfl rfl) ?_
  refine SmG.nil ?_
  refine zk ?_
  obtain rfl := zb h
  exact (toK ⟨rfl, rfl, rfl, rfl, rfl, rfl, rfl, trivial⟩ ⟨rfl, rfl, rfl, rfl, trivial⟩)
 replace h := hv34
 refine sr hF ?_
 refine gv hF oA ?_
 refine sn ?_
 refine Sm.block ?_
 refine Sm.to (toK (e := [(0, .d (.v (.int .i64 a0))), (1, .d (.v (.int .i64 a1))), (4, .ref 0 0 0), (6, .d (.list 1 ([0, 1, 1, 1, 0, (-1), (-1), (-1)].map (rInt .i64)) true)), (7, .d (.list 1 ([(-1), (-1), 0, 1, 1, 1, 0, (-1)].map (rInt .i64)) true)), (8, .ref 1 0 0), (9, .d (.v (.int .i64 s8.1))), (10, .d (.list 1 ([].map (rInt .i64)) true)), (11, .d (.v (.int .i64 0)))]) (g := [(3, dB 1 (s8.2.2.map (rInt .i64))), (2, dB 1 (s8.2.1.map (rLst 1 (rInt .i64)))), (1, ⟨3, [[.d (.v (.int .i64 x7)), .sref 2 0 (s8.2.1.map (rLst 1 (rInt .i64))).length, .sref 3 0 (s8.2.2.map (rInt .i64)).length]]⟩), (0, ⟨3, [[.d (.v (.int .i64 0)), .d (.list 0 [] true), .d (.list 0 [] true)]]⟩)]) (m := 4) ⟨rfl, rfl, rfl, rfl, rfl, rfl, rfl, rfl, rfl, trivial⟩ ⟨rfl, rfl, rfl, rfl, trivial⟩) ?_
 refine Sm.own (t := 10) 1 rfl ?_
 refine Sm.loopT (zpd a0 a1 s8) (fun s13 => ⟨[(0, .d (.v (.int .i64 a0))), (1, .d (.v (.int .i64 a1))), (4, .ref 0 0 0), (6, .d (.list 1 ([0, 1, 1, 1, 0, (-1), (-1), (-1)].map (rInt .i64)) true)), (7, .d (.list 1 ([(-1), (-1), 0, 1, 1, 1, 0, (-1)].map (rInt .i64)) true)), (8, .ref 1 0 0), (9, .d (.v (.int .i64 s8.1))), (10, .sref 4 0 (s13.2.map (rInt .i64)).length), (11, .d (.v (.int .i64 s13.1)))], [(4, dB 1 (s13.2.map (rInt .i64))), (3, dB 1 (s8.2.2.map (rInt .i64))), (2, dB 1 (s8.2.1.map (rLst 1 (rInt .i64)))), (1, ⟨3, [[.d (.v (.int .i64 x7)), .sref 2 0 (s8.2.1.map (rLst 1 (rInt .i64))).length, .sref 3 0 (s8.2.2.map (rInt .i64)).length]]⟩), (0, ⟨3, [[.d (.v (.int .i64 0)), .d (.list 0 [] true), .d (.list 0 [] true)]]⟩)], 5⟩) (0, ([] : List Int)) h (toK ⟨rfl, rfl, rfl, rfl, rfl, rfl, rfl, rfl, rfl, trivial⟩ ⟨rfl, rfl, rfl, rfl, rfl, trivial⟩) ?_
 intro n14 s13 o15 h hd16
 unfold zpd at h
 refine Sm.seq ?_
 refine sr hF ?_
 refine gv hF oM ?_
 refine gv hF oM ?_
 refine gv hF oM ?_
 obtain ⟨x17, hx17, h⟩ := za h
 refine gv hF (oB (zxg hx17)) ?_
 refine gv hF (oB (c_lss)) ?_
 refine sn ?_
 refine Sm.condU hF rfl (fun hc18 => ?_) (fun hc18 => ?_)
 ·replace h := ifF hc18 h
  refine Sm.exit ?_
  replace h := zw h hd16
  obtain rfl := zb h
  exact (St.to_trans (toK (e := [(0, .d (.v (.int .i64 a0))), (1, .d (.v (.int .i64 a1))), (4, .ref 0 0 0), (6, .d (.list 1 ([0, 1, 1, 1, 0, (-1), (-1), (-1)].map (rInt .i64)) true)), (7, .d (.list 1 ([(-1), (-1), 0, 1, 1, 1, 0, (-1)].map (rInt .i64)) true)), (8, .ref 1 0 0), (9, .d (.v (.int .i64 s8.1))), (10, .sref 4 0 (s13.2.map (rInt .i64)).length)]) (g := [(4, dB 1 (s13.2.map (rInt .i64))), (3, dB 1 (s8.2.2.map (rInt .i64))), (2, dB 1 (s8.2.1.map (rLst 1 (rInt .i64)))), (1, ⟨3, [[.d (.v (.int .i64 x7)), .sref 2 0 (s8.2.1.map (rLst 1 (rInt .i64))).length, .sref 3 0 (s8.2.2.map (rInt .i64)).length]]⟩), (0, ⟨3, [[.d (.v (.int .i64 0)), .d (.list 0 [] true), .d (.list 0 [] true)]]⟩)]) (m := 5) ⟨rfl, rfl, rfl, rfl, rfl, rfl, rfl, rfl, trivial⟩ ⟨rfl, rfl, rfl, rfl, rfl, trivial⟩) (St.to_frz (l := 4) (sz := 1) (env' := [(0, .d (.v (.int .i64 a0))), (1, .d (.v (.int .i64 a1))), (4, .ref 0 0 0), (6, .d (.list 1 ([0, 1, 1, 1, 0, (-1), (-1), (-1)].map (rInt .i64)) true)), (7, .d (.list 1 ([(-1), (-1), 0, 1, 1, 1, 0, (-1)].map (rInt .i64)) true)), (8, .ref 1 0 0), (9, .d (.v (.int .i64 s8.1))), (10, .d (.list 1 (s13.2.map (rInt .i64)) false))]) (h' := [(3, dB 1 (s8.2.2.map (rInt .i64))), (2, dB 1 (s8.2.1.map (rLst 1 (rInt .i64)))), (1, ⟨3, [[.d (.v (.int .i64 x7)), .sref 2 0 (s8.2.1.map (rLst 1 (rInt .i64))).length, .sref 3 0 (s8.2.2.map (rInt .i64)).length]]⟩), (0, ⟨3, [[.d (.v (.int .i64 0)), .d (.list 0 [] true), .d (.list 0 [] true)]]⟩)]) (nx := 5) (s13.2.map (rInt .i64)) rfl ⟨⟨_, rfl, rfl⟩, ⟨_, rfl, rfl⟩, ⟨_, rfl, rfl⟩, ⟨_, rfl, rfl⟩, ⟨_, rfl, rfl⟩, ⟨_, rfl, rfl⟩, ⟨_, rfl, rfl⟩, ⟨_, rfl, zjc⟩, trivial⟩ ⟨⟨rfl, _, rfl, zpg⟩, ⟨rfl, _, rfl, zpg⟩, ⟨rfl, _, rfl, zfb (.cons rfl (.cons rfl (.cons rfl .nil)))⟩, ⟨rfl, _, rfl, zfb (.cons rfl (.cons rfl (.cons rfl .nil)))⟩, trivial⟩))
 replace h := ifT hc18 h
 refine sk ?_
 refine Sm.seq ?_
 refine Sm.block ?_
 refine Sm.seq ?_
 refine Sm.drawG hF (by kernel_rfl) rfl 7 (by kernel_rfl) (by kernel_rfl) ?_
 simp only [List.take_succ_cons, List.take_zero, List.take_nil]
 refine hv hF oM ?_
 refine hv hF oM ?_
 obtain ⟨x19, hx19, h⟩ := za h
 refine hv hF (oB (zsb hx19)) ?_
 refine hv hF oM ?_
 refine hv hF oM ?_
 obtain ⟨x20, hx20, h⟩ := za h
 refine hv hF (oI (idxQD u30 sz3 hx20)) ?_
 refine hv hF (oL (lP1 ag3 rfl)) ?_
 refine Head.last ⟨rfl, ?_⟩
 simp only [List.drop_succ_cons, List.drop_zero, List.drop_nil, List.nil_append, List.cons_append]
 obtain ⟨x21, hx21, h⟩ := za h
 refine gv hF (oB (z7 hx21)) ?_
 refine gv hF oA ?_
 refine sn ?_
 refine Sm.seq ?_
 refine Sm.drawG hF (by kernel_rfl) rfl 7 (by kernel_rfl) (by kernel_rfl) ?_
 simp only [List.take_succ_cons, List.take_zero, List.take_nil]
 refine hv hF oM ?_
 refine hv hF oM ?_
 obtain ⟨x22, hx22, h⟩ := za h
 refine hv hF (oB (z2i hx22)) ?_
 refine hv hF oM ?_
 refine hv hF oM ?_
 obtain ⟨x23, hx23, h⟩ := za h
 refine hv hF (oI (idxQD u30 sz3 hx23)) ?_
 refine hv hF (oL (lP1 ag3 rfl)) ?_
 refine Head.last ⟨rfl, ?_⟩
 simp only [List.drop_succ_cons, List.drop_zero, List.drop_nil, List.nil_append, List.cons_append]
 obtain ⟨x24, hx24, h⟩ := za h
 refine gv hF (oB (z7 hx24)) ?_
 refine gv hF oA ?_
 refine sn ?_
 refine sr hF ?_
 refine gv hF oA ?_
 refine sn ?_
 refine Sm.seq ?_
 obtain ⟨v31, hv31, h⟩ := za h
 refine Sm.joinT ⟨[(0, .d (.v (.int .i64 a0))), (1, .d (.v (.int .i64 a1))), (4, .ref 0 0 0), (6, .d (.list 1 ([0, 1, 1, 1, 0, (-1), (-1), (-1)].map (rInt .i64)) true)), (7, .d (.list 1 ([(-1), (-1), 0, 1, 1, 1, 0, (-1)].map (rInt .i64)) true)), (8, .ref 1 0 0), (9, .d (.v (.int .i64 s8.1))), (10, .sref 4 0 (s13.2.map (rInt .i64)).length), (11, .d (.v (.int .i64 s13.1))), (14, .d (.v (.int .i64 v31)))], [(4, dB 1 (s13.2.map (rInt .i64))), (3, dB 1 (s8.2.2.map (rInt .i64))), (2, dB 1 (s8.2.1.map (rLst 1 (rInt .i64)))), (1, ⟨3, [[.d (.v (.int .i64 x7)), .sref 2 0 (s8.2.1.map (rLst 1 (rInt .i64))).length, .sref 3 0 (s8.2.2.map (rInt .i64)).length]]⟩), (0, ⟨3, [[.d (.v (.int .i64 0)), .d (.list 0 [] true), .d (.list 0 [] true)]]⟩)], 5⟩ ?_ ?_
 ·refine Sm.regionG hF rfl ?_
  refine gv hF oM ?_
  refine gv hF oM ?_
  refine gv hF (x := .d (.list 1 ([v31].map (rInt .i64)) true)) (oS (zl u30 sz3 ze3 rfl rfl (PartsQ.cons rfl (PartsQ.nil _)) rfl)) ?_
  obtain ⟨x32, hx32, h⟩ := za h
  refine SmG.appendOwnL hF el30 rfl (ys := [v31]) (row := (rInt .i64)) rfl rfl rfl rfl rfl rfl rfl rfl (.inl rfl) hx32 (by (repeat' first | exact zqb _ | refine zib ?_ | refine zi ?_ (z6 _ _ _) | refine zi ?_ (z6 _ _ [_]) | refine zi ?_ (z2b (by rfl)))) ?_
  refine gv hF oA ?_
  refine SmG.nil ?_
  refine zk ?_
  refine zd ?_
  refine Sm.regionG hF rfl ?_
  refine gv hF oM ?_
  obtain ⟨x33, hx33, h⟩ := za h
  refine gv hF (oB (z7 hx33)) ?_
  refine gv hF oA ?_
  refine SmG.nil ?_
  exact ztb (zhb h hd16) (toK ⟨rfl, rfl, rfl, rfl, rfl, rfl, rfl, rfl, rfl, trivial⟩ ⟨rfl, rfl, rfl, rfl, rfl, trivial⟩)
 replace h := hv31
 refine sr hF ?_
 refine gv hF oM ?_
 refine gv hF (oB (c_geq)) ?_
 rcases zzb (decide (0 ≤ x21)) with hc25 | hc25
 ·replace h := ifF hc25 h
  refine gv hF (zj rfl rfl hc25) ?_
  refine gp hF ?_
  refine gp hF ?_
  refine gp hF ?_
  refine gv hF (zf rfl rfl rfl) ?_
  refine gv hF oM ?_
  refine gp hF ?_
  refine gp hF ?_
  refine gv hF (zf rfl rfl rfl) ?_
  refine gv hF oM ?_
  refine gp hF ?_
  refine gp hF ?_
  refine gp hF ?_
  refine gv hF (zf rfl rfl rfl) ?_
  refine sn ?_
  refine Sm.condF hF rfl ?_
  refine Sm.skip ?_
  obtain rfl := zb h
  exact (toK ⟨rfl, rfl, rfl, rfl, rfl, rfl, rfl, rfl, rfl, rfl, trivial⟩ ⟨rfl, rfl, rfl, rfl, rfl, trivial⟩)
 replace h := ifT hc25 h
 refine gv hF (zj rfl rfl hc25) ?_
 refine gv hF oM ?_
 refine gv hF oM ?_
 refine gv hF (oB (c_lss)) ?_
 refine gv hF (zu rfl rfl rfl) ?_
 rcases zzb (decide (x21 < a0)) with hc26 | hc26
 ·replace h := ifF hc26 h
  refine gv hF (zj rfl rfl hc26) ?_
  refine gp hF ?_
  refine gp hF ?_
  refine gv hF (zf rfl rfl rfl) ?_
  refine gv hF oM ?_
  refine gp hF ?_
  refine gp hF ?_
  refine gp hF ?_
  refine gv hF (zf rfl rfl rfl) ?_
  refine sn ?_
  refine Sm.condF hF rfl ?_
  refine Sm.skip ?_
  obtain rfl := zb h
  exact (toK ⟨rfl, rfl, rfl, rfl, rfl, rfl, rfl, rfl, rfl, rfl, trivial⟩ ⟨rfl, rfl, rfl, rfl, rfl, trivial⟩)
 replace h := ifT hc26 h
 refine gv hF (zj rfl rfl hc26) ?_
 refine gv hF oM ?_
 refine gv hF (oB (c_geq)) ?_
 refine gv hF (zu rfl rfl rfl) ?_
 rcases zzb (decide (0 ≤ x24)) with hc27 | hc27
 ·replace h := ifF hc27 h
  refine gv hF (zj rfl rfl hc27) ?_
  refine gp hF ?_
  refine gp hF ?_
  refine gp hF ?_
  refine gv hF (zf rfl rfl rfl) ?_
  refine sn ?_
  refine Sm.condF hF rfl ?_
  refine Sm.skip ?_
  obtain rfl := zb h
  exact (toK ⟨rfl, rfl, rfl, rfl, rfl, rfl, rfl, rfl, rfl, rfl, trivial⟩ ⟨rfl, rfl, rfl, rfl, rfl, trivial⟩)
 replace h := ifT hc27 h
 refine gv hF (zj rfl rfl hc27) ?_
 refine gv hF oM ?_
 refine gv hF oM ?_
 refine gv hF (oB (c_lss)) ?_
 refine gv hF (zu rfl rfl rfl) ?_
 refine sn ?_
 refine Sm.condU hF rfl (fun hc28 => ?_) (fun hc28 => ?_)
 ·replace h := ifF hc28 h
  refine Sm.skip ?_
  obtain rfl := zb h
  exact (toK ⟨rfl, rfl, rfl, rfl, rfl, rfl, rfl, rfl, rfl, rfl, trivial⟩ ⟨rfl, rfl, rfl, rfl, rfl, trivial⟩)
 replace h := ifT hc28 h
 refine Sm.regionG hF rfl ?_
 refine gv hF oM ?_
 refine gv hF oM ?_
 obtain ⟨x29, hx29, h⟩ := za h
 refine gv hF (oB (zxg hx29)) ?_
 refine gv hF oM ?_
 obtain ⟨x30, hx30, h⟩ := za h
 refine gv hF (oB (z7 hx30)) ?_
 refine gv hF oA ?_
 refine SmG.nil ?_
 obtain rfl := zb h
 exact (toK ⟨rfl, rfl, rfl, rfl, rfl, rfl, rfl, rfl, rfl, rfl, trivial⟩ ⟨rfl, rfl, rfl, rfl, rfl, trivial⟩)
noncomputable def z1c (a0 : Brd) (a1 : Int) (s4 : (Int × (List (List Int)))) (s9 : (Int × (List Int))) : Option ((Int × (List Int)) ⊕ List Int) :=
 bif (decide (s9.1 < a0.cells)) then (
  ob (idx a0.next s4.1) fun x14 =>
  ob (idx x14 s9.1) fun x15 =>
  ob ((
   bif (s9.1 == a1) then (
    some (-1)
   ) else (
    bif (x15 == a1) then (
     some (-1)
    ) else (
     some x15
    )
   )
   : Option Int)) fun v18 =>
  ob (app s9.2 [v18]) fun x19 =>
  ob (arI .i64 (s9.1 + 1)) fun x20 =>
  some (.inl (x20, x19))
 ) else (
  some (.inr s9.2)
 )
noncomputable def z2d (a0 : Brd) (a1 : Int) (s4 : (Int × (List (List Int)))) : Option ((Int × (List (List Int))) ⊕ List (List Int)) :=
 bif (decide (s4.1 < (a0.next.length : Int))) then (
  ob ((
   ob ((
    loopO (z1c a0 a1 s4) (0, ([] : List Int))
    : Option (List Int))) fun v21 =>
   ob (app s4.2 [v21]) fun x22 =>
   some x22
   : Option (List (List Int)))) fun v23 =>
  ob (arI .i64 (s4.1 + 1)) fun x24 =>
  some (.inl (x24, v23))
 ) else (
  some (.inr s4.2)
 )
noncomputable def zud (a0 : Brd) (a1 : Int) : Option (Brd × Int) :=
 bif (decide (a1 < 0)) then (
  some ((⟨0, [], []⟩ : Brd), 1)
 ) else (
  bif (decide (a0.cells ≤ a1)) then (
   some ((⟨0, [], []⟩ : Brd), 1)
  ) else (
   ob (app ([] : List Int) a0.turn) fun x3 =>
   ob ((
    loopO (z2d a0 a1) (0, ([] : List (List Int)))
    : Option (List (List Int)))) fun v25 =>
   some ((⟨a0.cells, v25, x3⟩ : Brd), 0)
  )
 )
set_option maxHeartbeats 4000000 in
theorem zcj {a0 : Brd} {a1 : Int} {r : (Brd × Int)} (h : zud a0 a1 = some r) : zg Tryd.prog HG 80 [.agg 3 (Brd.row a0), .v (.int .i64 a1)] (.tup [.agg 3 (Brd.row r.1), .v (.int .i64 r.2)]) := by
 unfold zud at h
 refine zg.of Tryd.func80 rfl Tryd.ntmps80 (by simp) ?_
 intro F hF h0 hT
 show Sm F _ _ ⟨[(0, .d (.agg 3 (Brd.row a0))), (1, .d (.v (.int .i64 a1)))], [], 0⟩
 refine sr hF ?_
 refine SmG.boxP hF boxA ?_
 refine SmG.new hF rfl rfl rfl (zx rfl al73) ?_
 refine gv hF oA ?_
 refine sn ?_
 refine Sm.seq ?_
 refine sr hF ?_
 refine gv hF oM ?_
 refine gv hF (oB (c_lss)) ?_
 rcases z7h (decide (a1 < 0)) with hc1 | hc1
 ·replace h := ifT hc1 h
  refine gv hF (zj rfl rfl hc1) ?_
  refine gp hF ?_
  refine gp hF ?_
  refine gp hF ?_
  refine gp hF ?_
  refine gv hF (zu rfl rfl rfl) ?_
  refine sn ?_
  refine Sm.condT hF rfl ?_
  refine sr hF ?_
  refine gv hF (x := .d (.agg 3 [.v (.int .i64 0), .list 0 [] true, .list 0 [] true])) (zz rfl u73 (by kernel_rfl) rfl bz73) ?_
  refine SmG.store hF rfl rfl rfl rfl rfl (zy (ys := [.d (.v (.int .i64 0)), .d (.list 0 [] true), .d (.list 0 [] true)]) (r := [.d (.v (.int .i64 0)), .d (.list 0 [] true), .d (.list 0 [] true)]) (rows' := [[.d (.v (.int .i64 0)), .d (.list 0 [] true), .d (.list 0 [] true)]]) rfl rfl rfl sz73 rfl rfl rfl rfl rfl) ?_
  refine gv hF oA ?_
  refine sn ?_
  refine Sm.ret ?_
  obtain rfl := zb h
  exact zcd (RetR.cons (RetO.cell rfl (zn (ds := [.v (.int .i64 0), .list 0 [] true, .list 0 [] true]) rfl rfl ag73 sz73 rfl rfl)) (RetR.cons (RetO.tmp rfl) (RetR.nil))) (by repeat' first | exact D.le.refl _ | exact D.le_full _ _ _ | exact D.le_nil' _ _ _ | refine D.le_list ?_ | exact LeRows.nil | refine LeRows.cons ?_ ?_ | exact LeL.nil | refine LeL.cons ?_ ?_ | refine D.le_tupL ?_ | refine D.le_aggL ?_)
 replace h := ifF hc1 h
 refine gv hF (zj rfl rfl hc1) ?_
 refine gv hF oM ?_
 refine gv hF (oF (ze z9h rfl)) ?_
 refine gv hF (oL (lP1 ag3 rfl)) ?_
 refine gv hF (oB (c_geq)) ?_
 refine gv hF (zf rfl rfl rfl) ?_
 refine sn ?_
 refine Sm.condB hF rfl (fun hc2 => ?_) (fun hc2 => ?_)
 ·replace h := ifT hc2 h
  refine sr hF ?_
  refine gv hF (x := .d (.agg 3 [.v (.int .i64 0), .list 0 [] true, .list 0 [] true])) (zz rfl u73 (by kernel_rfl) rfl bz73) ?_
  refine SmG.store hF rfl rfl rfl rfl rfl (zy (ys := [.d (.v (.int .i64 0)), .d (.list 0 [] true), .d (.list 0 [] true)]) (r := [.d (.v (.int .i64 0)), .d (.list 0 [] true), .d (.list 0 [] true)]) (rows' := [[.d (.v (.int .i64 0)), .d (.list 0 [] true), .d (.list 0 [] true)]]) rfl rfl rfl sz73 rfl rfl rfl rfl rfl) ?_
  refine gv hF oA ?_
  refine sn ?_
  refine Sm.ret ?_
  obtain rfl := zb h
  exact zcd (RetR.cons (RetO.cell rfl (zn (ds := [.v (.int .i64 0), .list 0 [] true, .list 0 [] true]) rfl rfl ag73 sz73 rfl rfl)) (RetR.cons (RetO.tmp rfl) (RetR.nil))) (by repeat' first | exact D.le.refl _ | exact D.le_full _ _ _ | exact D.le_nil' _ _ _ | refine D.le_list ?_ | exact LeRows.nil | refine LeRows.cons ?_ ?_ | exact LeL.nil | refine LeL.cons ?_ ?_ | refine D.le_tupL ?_ | refine D.le_aggL ?_)
 replace h := ifF hc2 h
 refine sk ?_
 refine Sm.seq ?_
 refine Sm.drawG hF (by kernel_rfl) rfl 8 (by kernel_rfl) (by kernel_rfl) ?_
 simp only [List.take_succ_cons, List.take_zero, List.take_nil]
 refine hv hF (oF (ze z9h rfl)) ?_
 refine hv hF (oL (lP1 ag3 rfl)) ?_
 refine hv hF (x := .d (.list 1 (([] : List Int).map (rInt .i64)) true)) (oS (z7f u30 sz3)) ?_
 refine hv hF (oF (ze zvq rfl)) ?_
 refine hv hF (oL (lP1 ag30 rfl)) ?_
 obtain ⟨x3, hx3, h⟩ := za h
 refine Head.appendFullL hF el30 rfl (xs := ([] : List Int)) (ys := a0.turn) (row := (rInt .i64)) rfl rfl rfl rfl rfl rfl rfl rfl (.inl rfl) (.inl rfl) hx3 ?_
 refine hv hF (x := .d (.agg 3 [.v (.int .i64 a0.cells), .list 0 [] true, .list 1 (x3.map (rInt .i64)) false])) (zz rfl u73 (by kernel_rfl) rfl (z8 (n := 3) ze73 pl73 rfl rfl)) ?_
 refine Head.new hF rfl rfl rfl rfl al73 ?_
 refine Head.last ⟨rfl, ?_⟩
 simp only [List.drop_succ_cons, List.drop_zero, List.drop_nil, List.nil_append, List.cons_append]
 refine SmG.store hF rfl rfl rfl rfl rfl (zy (ys := [.d (.v (.int .i64 a0.cells)), .d (.list 0 [] true), .d (.list 1 (x3.map (rInt .i64)) false)]) (r := [.d (.v (.int .i64 0)), .d (.list 0 [] true), .d (.list 0 [] true)]) (rows' := [[.d (.v (.int .i64 a0.cells)), .d (.list 0 [] true), .d (.list 1 (x3.map (rInt .i64)) false)]]) rfl rfl rfl sz73 rfl rfl rfl rfl rfl) ?_
 refine sn ?_
 refine Sm.seq ?_
 obtain ⟨v25, hv25, h⟩ := za h
 refine Sm.joinT ⟨[(4, .ref 0 0 0), (6, .ref 1 0 0)], [(1, ⟨3, [[.d (.v (.int .i64 a0.cells)), .d (.list 1 (v25.map (rLst 1 (rInt .i64))) false), .d (.list 1 (x3.map (rInt .i64)) false)]]⟩), (0, ⟨3, [[.d (.v (.int .i64 0)), .d (.list 0 [] true), .d (.list 0 [] true)]]⟩)], 3⟩ ?_ ?_
 ·refine Sm.seq ?_
  refine Sm.regionG hF rfl ?_
  refine gv hF (x := .d (.agg 3 [.v (.int .i64 a0.cells), .list 1 (v25.map (rLst 1 (rInt .i64))) false, .list 1 (x3.map (rInt .i64)) false])) (oL (zn rfl rfl ag73 sz73 rfl rfl)) ?_
  refine SmG.store hF rfl rfl rfl rfl rfl (zy (ys := [.d (.v (.int .i64 a0.cells)), .d (.list 1 (v25.map (rLst 1 (rInt .i64))) false), .d (.list 1 (x3.map (rInt .i64)) false)]) (r := [.d (.v (.int .i64 0)), .d (.list 0 [] true), .d (.list 0 [] true)]) (rows' := [[.d (.v (.int .i64 a0.cells)), .d (.list 1 (v25.map (rLst 1 (rInt .i64))) false), .d (.list 1 (x3.map (rInt .i64)) false)]]) rfl rfl rfl sz73 rfl rfl rfl rfl rfl) ?_
  refine gv hF oA ?_
  refine sn ?_
  refine Sm.ret ?_
  obtain rfl := zb h
  exact zcd (RetR.cons (RetO.cell rfl (zn (ds := [.v (.int .i64 a0.cells), .list 1 (v25.map (rLst 1 (rInt .i64))) false, .list 1 (x3.map (rInt .i64)) false]) rfl rfl ag73 sz73 rfl rfl)) (RetR.cons (RetO.tmp rfl) (RetR.nil))) (D.le.refl _)
 replace h := hv25
 refine sr hF ?_
 refine gv hF oA ?_
 refine sn ?_
 refine Sm.block ?_
 refine Sm.to (toK (e := [(1, .d (.v (.int .i64 a1))), (2, .d (.ptr 3 (Brd.row a0))), (4, .ref 0 0 0), (6, .ref 1 0 0), (7, .d (.v (.int .i64 0)))]) (g := [(1, ⟨3, [[.d (.v (.int .i64 a0.cells)), .d (.list 0 [] true), .d (.list 1 (x3.map (rInt .i64)) false)]]⟩), (0, ⟨3, [[.d (.v (.int .i64 0)), .d (.list 0 [] true), .d (.list 0 [] true)]]⟩)]) (m := 2) ⟨rfl, rfl, rfl, rfl, rfl, trivial⟩ ⟨rfl, rfl, trivial⟩) ?_
 refine Sm.ownCell 1 0 1 1 rfl rfl rfl ?_
 refine Sm.loopT (z2d a0 a1) (fun s4 => ⟨[(1, .d (.v (.int .i64 a1))), (2, .d (.ptr 3 (Brd.row a0))), (4, .ref 0 0 0), (6, .ref 1 0 0), (7, .d (.v (.int .i64 s4.1)))], [(2, dB 1 (s4.2.map (rLst 1 (rInt .i64)))), (1, ⟨3, [[.d (.v (.int .i64 a0.cells)), .sref 2 0 (s4.2.map (rLst 1 (rInt .i64))).length, .d (.list 1 (x3.map (rInt .i64)) false)]]⟩), (0, ⟨3, [[.d (.v (.int .i64 0)), .d (.list 0 [] true), .d (.list 0 [] true)]]⟩)], 3⟩) (0, ([] : List (List Int))) h (toK ⟨rfl, rfl, rfl, rfl, rfl, trivial⟩ ⟨rfl, rfl, rfl, trivial⟩) ?_
 intro n5 s4 o6 h hd7
 unfold z2d at h
 refine Sm.seq ?_
 refine sr hF ?_
 refine gv hF oM ?_
 refine gv hF (oF (ze zfi rfl)) ?_
 refine gv hF (oL (lP1 ag71 rfl)) ?_
 refine gv hF (oN (lenQD u71)) ?_
 refine gv hF (oB (c_lss)) ?_
 refine sn ?_
 refine Sm.condU hF rfl (fun hc8 => ?_) (fun hc8 => ?_)
 ·replace h := ifF hc8 h
  refine Sm.exit ?_
  replace h := zw h hd7
  obtain rfl := zb h
  exact (St.to_trans (toK (e := [(4, .ref 0 0 0), (6, .ref 1 0 0)]) (g := [(2, dB 1 (s4.2.map (rLst 1 (rInt .i64)))), (1, ⟨3, [[.d (.v (.int .i64 a0.cells)), .sref 2 0 (s4.2.map (rLst 1 (rInt .i64))).length, .d (.list 1 (x3.map (rInt .i64)) false)]]⟩), (0, ⟨3, [[.d (.v (.int .i64 0)), .d (.list 0 [] true), .d (.list 0 [] true)]]⟩)]) (m := 3) ⟨rfl, rfl, trivial⟩ ⟨rfl, rfl, rfl, trivial⟩) (St.to_frz (l := 2) (sz := 1) (env' := [(4, .ref 0 0 0), (6, .ref 1 0 0)]) (h' := [(1, ⟨3, [[.d (.v (.int .i64 a0.cells)), .d (.list 1 (s4.2.map (rLst 1 (rInt .i64))) false), .d (.list 1 (x3.map (rInt .i64)) false)]]⟩), (0, ⟨3, [[.d (.v (.int .i64 0)), .d (.list 0 [] true), .d (.list 0 [] true)]]⟩)]) (nx := 3) (s4.2.map (rLst 1 (rInt .i64))) rfl ⟨⟨_, rfl, rfl⟩, ⟨_, rfl, rfl⟩, trivial⟩ ⟨⟨rfl, _, rfl, zfb (.cons rfl (.cons zjc (.cons rfl .nil)))⟩, ⟨rfl, _, rfl, zfb (.cons rfl (.cons rfl (.cons rfl .nil)))⟩, trivial⟩))
 replace h := ifT hc8 h
 refine sk ?_
 refine Sm.seq ?_
 obtain ⟨v23, hv23, h⟩ := za h
 refine Sm.joinT ⟨[(1, .d (.v (.int .i64 a1))), (2, .d (.ptr 3 (Brd.row a0))), (4, .ref 0 0 0), (6, .ref 1 0 0), (7, .d (.v (.int .i64 s4.1)))], [(2, dB 1 (v23.map (rLst 1 (rInt .i64)))), (1, ⟨3, [[.d (.v (.int .i64 a0.cells)), .sref 2 0 (v23.map (rLst 1 (rInt .i64))).length, .d (.list 1 (x3.map (rInt .i64)) false)]]⟩), (0, ⟨3, [[.d (.v (.int .i64 0)), .d (.list 0 [] true), .d (.list 0 [] true)]]⟩)], 4⟩ ?_ ?_
 ·refine Sm.regionG hF rfl ?_
  refine gv hF oM ?_
  obtain ⟨x24, hx24, h⟩ := za h
  refine gv hF (oB (z7 hx24)) ?_
  refine gv hF oA ?_
  refine SmG.nil ?_
  exact ztb (zhb h hd7) (St.to_trans (toK (e := [(1, .d (.v (.int .i64 a1))), (2, .d (.ptr 3 (Brd.row a0))), (4, .ref 0 0 0), (6, .ref 1 0 0), (7, .d (.v (.int .i64 x24)))]) (g := [(2, dB 1 (v23.map (rLst 1 (rInt .i64)))), (1, ⟨3, [[.d (.v (.int .i64 a0.cells)), .sref 2 0 (v23.map (rLst 1 (rInt .i64))).length, .d (.list 1 (x3.map (rInt .i64)) false)]]⟩), (0, ⟨3, [[.d (.v (.int .i64 0)), .d (.list 0 [] true), .d (.list 0 [] true)]]⟩)]) (m := 4) ⟨rfl, rfl, rfl, rfl, rfl, trivial⟩ ⟨rfl, rfl, rfl, trivial⟩) (St.to_cutX 3 rfl (by (repeat' first | exact z9l _ | exact zik _ _ | exact trivial | refine z6k ?_ (by decide) | refine z8i ?_ (lt_dB _ _ _) | refine zbm ?_ ?_ | refine ⟨rfl, ?_⟩)) rfl))
 replace h := hv23
 refine Sm.block ?_
 refine sr hF ?_
 refine gv hF (x := .d (.list 1 (([] : List Int).map (rInt .i64)) true)) (oS (z7f u30 sz3)) ?_
 refine gv hF oA ?_
 refine sn ?_
 refine Sm.seq ?_
 obtain ⟨v21, hv21, h⟩ := za h
 refine Sm.joinT ⟨[(1, .d (.v (.int .i64 a1))), (2, .d (.ptr 3 (Brd.row a0))), (4, .ref 0 0 0), (6, .ref 1 0 0), (7, .d (.v (.int .i64 s4.1))), (8, .d (.list 1 (v21.map (rInt .i64)) false))], [(2, dB 1 (s4.2.map (rLst 1 (rInt .i64)))), (1, ⟨3, [[.d (.v (.int .i64 a0.cells)), .sref 2 0 (s4.2.map (rLst 1 (rInt .i64))).length, .d (.list 1 (x3.map (rInt .i64)) false)]]⟩), (0, ⟨3, [[.d (.v (.int .i64 0)), .d (.list 0 [] true), .d (.list 0 [] true)]]⟩)], 4⟩ ?_ ?_
 ·refine Sm.regionG hF rfl ?_
  refine gv hF (oF (zq zfi)) ?_
  refine gv hF (oL (z4b rfl rfl ag71 rfl)) ?_
  refine gv hF oM ?_
  refine gv hF (x := .d (.list 1 ([v21].map (rLst 1 (rInt .i64))) true)) (oS (zl u71 sz30 ze30 rfl rfl (PartsQ.cons rfl (PartsQ.nil _)) rfl)) ?_
  refine SmG.toX (St.to_weak (env' := [(1, .d (.v (.int .i64 a1))), (2, .d (.ptr 3 (Brd.row a0))), (4, .ref 0 0 0), (6, .ref 1 0 0), (7, .d (.v (.int .i64 s4.1))), (62, .sref 2 0 (s4.2.map (rLst 1 (rInt .i64))).length), (64, .d (.list 1 ([v21].map (rLst 1 (rInt .i64))) true))]) (h' := [(2, dB 1 (s4.2.map (rLst 1 (rInt .i64)))), (1, ⟨3, [[.d (.v (.int .i64 a0.cells)), .any, .d (.list 1 (x3.map (rInt .i64)) false)]]⟩), (0, ⟨3, [[.d (.v (.int .i64 0)), .d (.list 0 [] true), .d (.list 0 [] true)]]⟩)]) (nx' := 4) ⟨⟨_, rfl, V.le.refl _⟩, ⟨_, rfl, V.le.refl _⟩, ⟨_, rfl, V.le.refl _⟩, ⟨_, rfl, V.le.refl _⟩, ⟨_, rfl, V.le.refl _⟩, ⟨_, rfl, V.le.refl _⟩, ⟨_, rfl, V.le.refl _⟩, trivial⟩ ⟨⟨_, rfl, BlkR.refl _⟩, ⟨_, rfl, BlkR.row (.cons (V.le.refl _) (.cons (V.le.any _) (.cons (V.le.refl _) .nil)))⟩, ⟨_, rfl, BlkR.refl _⟩, trivial⟩ (Nat.le_of_ble_eq_true rfl)) rfl ?_
  obtain ⟨x22, hx22, h⟩ := za h
  refine SmG.appendOwnL hF el71 rfl (ys := [v21]) (row := (rLst 1 (rInt .i64))) rfl rfl rfl rfl rfl rfl rfl rfl (.inl rfl) hx22 (by (repeat' first | exact zqb _ | refine zib ?_ | refine zi ?_ (z6 _ _ _) | refine zi ?_ (z6 _ _ [_]) | refine zi ?_ (z2b (by rfl)))) ?_
  refine gv hF (oF (zq zfi)) ?_
  refine SmG.store hF rfl rfl rfl rfl rfl (zmc (rows' := [[.d (.v (.int .i64 a0.cells)), .sref 2 0 (x22.map (rLst 1 (rInt .i64))).length, .d (.list 1 (x3.map (rInt .i64)) false)]]) rfl rfl rfl sz71 rfl rfl rfl) ?_
  refine SmG.nil ?_
  refine zk ?_
  obtain rfl := zb h
  exact (toK ⟨rfl, rfl, rfl, rfl, rfl, trivial⟩ ⟨rfl, rfl, rfl, trivial⟩)
 replace h := hv21
 refine sr hF ?_
 refine gv hF oA ?_
 refine sn ?_
 refine Sm.block ?_
 refine Sm.to (toK (e := [(1, .d (.v (.int .i64 a1))), (2, .d (.ptr 3 (Brd.row a0))), (4, .ref 0 0 0), (6, .ref 1 0 0), (7, .d (.v (.int .i64 s4.1))), (8, .d (.list 1 ([].map (rInt .i64)) true)), (9, .d (.v (.int .i64 0)))]) (g := [(2, dB 1 (s4.2.map (rLst 1 (rInt .i64)))), (1, ⟨3, [[.d (.v (.int .i64 a0.cells)), .sref 2 0 (s4.2.map (rLst 1 (rInt .i64))).length, .d (.list 1 (x3.map (rInt .i64)) false)]]⟩), (0, ⟨3, [[.d (.v (.int .i64 0)), .d (.list 0 [] true), .d (.list 0 [] true)]]⟩)]) (m := 3) ⟨rfl, rfl, rfl, rfl, rfl, rfl, rfl, trivial⟩ ⟨rfl, rfl, rfl, trivial⟩) ?_
 refine Sm.own (t := 8) 1 rfl ?_
 refine Sm.loopT (z1c a0 a1 s4) (fun s9 => ⟨[(1, .d (.v (.int .i64 a1))), (2, .d (.ptr 3 (Brd.row a0))), (4, .ref 0 0 0), (6, .ref 1 0 0), (7, .d (.v (.int .i64 s4.1))), (8, .sref 3 0 (s9.2.map (rInt .i64)).length), (9, .d (.v (.int .i64 s9.1)))], [(3, dB 1 (s9.2.map (rInt .i64))), (2, dB 1 (s4.2.map (rLst 1 (rInt .i64)))), (1, ⟨3, [[.d (.v (.int .i64 a0.cells)), .sref 2 0 (s4.2.map (rLst 1 (rInt .i64))).length, .d (.list 1 (x3.map (rInt .i64)) false)]]⟩), (0, ⟨3, [[.d (.v (.int .i64 0)), .d (.list 0 [] true), .d (.list 0 [] true)]]⟩)], 4⟩) (0, ([] : List Int)) h (toK ⟨rfl, rfl, rfl, rfl, rfl, rfl, rfl, trivial⟩ ⟨rfl, rfl, rfl, rfl, trivial⟩) ?_
 intro n10 s9 o11 h hd12
 unfold z1c at h
 refine Sm.seq ?_
 refine sr hF ?_
 refine gv hF oM ?_
 refine gv hF (oF (ze z9h rfl)) ?_
 refine gv hF (oL (lP1 ag3 rfl)) ?_
 refine gv hF (oB (c_lss)) ?_
 refine sn ?_
 refine Sm.condU hF rfl (fun hc13 => ?_) (fun hc13 => ?_)
 ·replace h := ifF hc13 h
  refine Sm.exit ?_
  replace h := zw h hd12
  obtain rfl := zb h
  exact (St.to_trans (toK (e := [(1, .d (.v (.int .i64 a1))), (2, .d (.ptr 3 (Brd.row a0))), (4, .ref 0 0 0), (6, .ref 1 0 0), (7, .d (.v (.int .i64 s4.1))), (8, .sref 3 0 (s9.2.map (rInt .i64)).length)]) (g := [(3, dB 1 (s9.2.map (rInt .i64))), (2, dB 1 (s4.2.map (rLst 1 (rInt .i64)))), (1, ⟨3, [[.d (.v (.int .i64 a0.cells)), .sref 2 0 (s4.2.map (rLst 1 (rInt .i64))).length, .d (.list 1 (x3.map (rInt .i64)) false)]]⟩), (0, ⟨3, [[.d (.v (.int .i64 0)), .d (.list 0 [] true), .d (.list 0 [] true)]]⟩)]) (m := 4) ⟨rfl, rfl, rfl, rfl, rfl, rfl, trivial⟩ ⟨rfl, rfl, rfl, rfl, trivial⟩) (St.to_frz (l := 3) (sz := 1) (env' := [(1, .d (.v (.int .i64 a1))), (2, .d (.ptr 3 (Brd.row a0))), (4, .ref 0 0 0), (6, .ref 1 0 0), (7, .d (.v (.int .i64 s4.1))), (8, .d (.list 1 (s9.2.map (rInt .i64)) false))]) (h' := [(2, dB 1 (s4.2.map (rLst 1 (rInt .i64)))), (1, ⟨3, [[.d (.v (.int .i64 a0.cells)), .sref 2 0 (s4.2.map (rLst 1 (rInt .i64))).length, .d (.list 1 (x3.map (rInt .i64)) false)]]⟩), (0, ⟨3, [[.d (.v (.int .i64 0)), .d (.list 0 [] true), .d (.list 0 [] true)]]⟩)]) (nx := 4) (s9.2.map (rInt .i64)) rfl ⟨⟨_, rfl, rfl⟩, ⟨_, rfl, rfl⟩, ⟨_, rfl, rfl⟩, ⟨_, rfl, rfl⟩, ⟨_, rfl, rfl⟩, ⟨_, rfl, zjc⟩, trivial⟩ ⟨⟨rfl, _, rfl, zpg⟩, ⟨rfl, _, rfl, zfb (.cons rfl (.cons rfl (.cons rfl .nil)))⟩, ⟨rfl, _, rfl, zfb (.cons rfl (.cons rfl (.cons rfl .nil)))⟩, trivial⟩))
 replace h := ifT hc13 h
 refine sk ?_
 refine Sm.seq ?_
 refine Sm.block ?_
 refine sr hF ?_
 refine gv hF (oF (ze zfi rfl)) ?_
 refine gv hF (oL (lP1 ag71 rfl)) ?_
 refine gv hF oM ?_
 obtain ⟨x14, hx14, h⟩ := za h
 refine gv hF (oI (idxQD u71 sz30 hx14)) ?_
 refine gv hF (oL (lP1 ag30 rfl)) ?_
 refine gv hF oM ?_
 obtain ⟨x15, hx15, h⟩ := za h
 refine gv hF (oI (idxQD u30 sz3 hx15)) ?_
 refine gv hF (oL (lP1 ag3 rfl)) ?_
 refine gv hF oA ?_
 refine sn ?_
 refine Sm.seq ?_
 obtain ⟨v18, hv18, h⟩ := za h
 refine Sm.joinT ⟨[(1, .d (.v (.int .i64 a1))), (2, .d (.ptr 3 (Brd.row a0))), (4, .ref 0 0 0), (6, .ref 1 0 0), (7, .d (.v (.int .i64 s4.1))), (8, .sref 3 0 (s9.2.map (rInt .i64)).length), (9, .d (.v (.int .i64 s9.1))), (10, .d (.v (.int .i64 v18)))], [(3, dB 1 (s9.2.map (rInt .i64))), (2, dB 1 (s4.2.map (rLst 1 (rInt .i64)))), (1, ⟨3, [[.d (.v (.int .i64 a0.cells)), .sref 2 0 (s4.2.map (rLst 1 (rInt .i64))).length, .d (.list 1 (x3.map (rInt .i64)) false)]]⟩), (0, ⟨3, [[.d (.v (.int .i64 0)), .d (.list 0 [] true), .d (.list 0 [] true)]]⟩)], 4⟩ ?_ ?_
 ·refine Sm.regionG hF rfl ?_
  refine gv hF oM ?_
  refine gv hF oM ?_
  refine gv hF (x := .d (.list 1 ([v18].map (rInt .i64)) true)) (oS (zl u30 sz3 ze3 rfl rfl (PartsQ.cons rfl (PartsQ.nil _)) rfl)) ?_
  obtain ⟨x19, hx19, h⟩ := za h
  refine SmG.appendOwnL hF el30 rfl (ys := [v18]) (row := (rInt .i64)) rfl rfl rfl rfl rfl rfl rfl rfl (.inl rfl) hx19 (by (repeat' first | exact zqb _ | refine zib ?_ | refine zi ?_ (z6 _ _ _) | refine zi ?_ (z6 _ _ [_]) | refine zi ?_ (z2b (by rfl)))) ?_
  refine gv hF oA ?_
  refine SmG.nil ?_
  refine zk ?_
  refine zd ?_
  refine Sm.regionG hF rfl ?_
  refine gv hF oM ?_
  obtain ⟨x20, hx20, h⟩ := za h
  refine gv hF (oB (z7 hx20)) ?_
  refine gv hF oA ?_
  refine SmG.nil ?_
  exact ztb (zhb h hd12) (toK ⟨rfl, rfl, rfl, rfl, rfl, rfl, rfl, trivial⟩ ⟨rfl, rfl, rfl, rfl, trivial⟩)
 replace h := hv18
 refine sr hF ?_
 refine gv hF oM ?_
 refine gv hF oM ?_
 refine gv hF (oB (c_eql)) ?_
 rcases z7h (s9.1 == a1) with hc16 | hc16
 ·replace h := ifT hc16 h
  refine gv hF (zj rfl rfl hc16) ?_
  refine gp hF ?_
  refine gp hF ?_
  refine gp hF ?_
  refine gv hF (zu rfl rfl rfl) ?_
  refine sn ?_
  refine Sm.condT hF rfl ?_
  refine Sm.regionG hF rfl ?_
  refine gv hF oA ?_
  refine SmG.nil ?_
  obtain rfl := zb h
  exact (toK ⟨rfl, rfl, rfl, rfl, rfl, rfl, rfl, rfl, trivial⟩ ⟨rfl, rfl, rfl, rfl, trivial⟩)
 replace h := ifF hc16 h
 refine gv hF (zj rfl rfl hc16) ?_
 refine gv hF oM ?_
 refine gv hF oM ?_
 refine gv hF (oB (c_eql)) ?_
 refine gv hF (zf rfl rfl rfl) ?_
 refine sn ?_
 refine Sm.condU hF rfl (fun hc17 => ?_) (fun hc17 => ?_)
 ·replace h := ifF hc17 h
  refine Sm.skip ?_
  obtain rfl := zb h
  exact (toK ⟨rfl, rfl, rfl, rfl, rfl, rfl, rfl, rfl, trivial⟩ ⟨rfl, rfl, rfl, rfl, trivial⟩)
 replace h := ifT hc17 h
 refine Sm.regionG hF rfl ?_
 refine gv hF oA ?_
 refine SmG.nil ?_
 obtain rfl := zb h
 exact (toK ⟨rfl, rfl, rfl, rfl, rfl, rfl, rfl, rfl, trivial⟩ ⟨rfl, rfl, rfl, rfl, trivial⟩)
noncomputable def zde (a0 : UInt8) (a1 : UInt8) (a2 : UInt8) : Option Brd :=
 ob (remI (a0.toNat : Int) 3) fun x1 =>
 ob (arI .i64 x1) fun x2 =>
 ob (arI .i64 (1 + x2)) fun x3 =>
 ob (remI (a1.toNat : Int) 3) fun x4 =>
 ob (arI .i64 x4) fun x5 =>
 ob (arI .i64 (1 + x5)) fun x6 =>
 ob (zee x3 x6) fun x7 =>
 ob ((
  bif (decide (200 < (a2.toNat : Int))) then (
   ob (remI (a2.toNat : Int) x7.1.cells) fun x9 =>
   ob (zud x7.1 x9) fun x10 =>
   some (x10.1.cells, x10.1.next, x10.1.turn)
  ) else (
   some (x7.1.cells, x7.1.next, x7.1.turn)
  )
  : Option (Int × (List (List Int)) × (List Int)))) fun v11 =>
 some (⟨v11.1, v11.2.1, v11.2.2⟩ : Brd)
set_option maxHeartbeats 4000000 in
theorem zzk {a0 : UInt8} {a1 : UInt8} {a2 : UInt8} {r : Brd} (h : zde a0 a1 a2 = some r) : zg Tryd.prog HG 54 [.v (.int .u8 (a0.toNat : Int)), .v (.int .u8 (a1.toNat : Int)), .v (.int .u8 (a2.toNat : Int))] (.agg 3 (Brd.row r)) := by
 unfold zde at h
 refine zg.of Tryd.func54 rfl Tryd.ntmps54 (by simp) ?_
 intro F hF h0 hT
 show Sm F _ _ ⟨[(0, .d (.v (.int .u8 (a0.toNat : Int)))), (1, .d (.v (.int .u8 (a1.toNat : Int)))), (2, .d (.v (.int .u8 (a2.toNat : Int))))], [], 0⟩
 refine sr hF ?_
 refine SmG.new hF rfl rfl rfl (zx rfl al73) ?_
 refine sn ?_
 refine sr hF ?_
 refine gv hF oM ?_
 obtain ⟨x1, hx1, h⟩ := za h
 refine gv hF (oB (zsb hx1)) ?_
 obtain ⟨x2, hx2, h⟩ := za h
 refine gv hF (oC (z8f u5 u3 hx2)) ?_
 obtain ⟨x3, hx3, h⟩ := za h
 refine gv hF (oB (z7 hx3)) ?_
 refine gv hF oM ?_
 obtain ⟨x4, hx4, h⟩ := za h
 refine gv hF (oB (zsb hx4)) ?_
 obtain ⟨x5, hx5, h⟩ := za h
 refine gv hF (oC (z8f u5 u3 hx5)) ?_
 obtain ⟨x6, hx6, h⟩ := za h
 refine gv hF (oB (z7 hx6)) ?_
 obtain ⟨x7, hx7, h⟩ := za h
 refine SmG.call hF rfl rfl (by kernel_rfl) rfl rfl rfl (zxk hx7) ?_
 refine gv hF oM ?_
 refine gv hF (zic rfl rfl rfl) ?_
 refine gv hF (zic rfl rfl rfl) ?_
 refine SmG.new hF rfl rfl rfl (zx rfl al73) ?_
 refine SmG.store hF rfl rfl rfl rfl rfl (zy (ys := [.d (.v (.int .i64 x7.1.cells)), .d (.list 1 (x7.1.next.map (rLst 1 (rInt .i64))) false), .d (.list 1 (x7.1.turn.map (rInt .i64)) false)]) (r := [.d (.v (.int .i64 0)), .d (.list 0 [] true), .d (.list 0 [] true)]) (rows' := [[.d (.v (.int .i64 x7.1.cells)), .d (.list 1 (x7.1.next.map (rLst 1 (rInt .i64))) false), .d (.list 1 (x7.1.turn.map (rInt .i64)) false)]]) rfl rfl rfl sz73 rfl rfl rfl rfl rfl) ?_
 refine gv hF oA ?_
 refine sn ?_
 refine Sm.seq ?_
 obtain ⟨v11, hv11, h⟩ := za h
 refine Sm.joinT ⟨[(6, .ref 0 0 0), (7, .ref 1 0 0)], [(1, ⟨3, [[.d (.v (.int .i64 v11.1)), .d (.list 1 (v11.2.1.map (rLst 1 (rInt .i64))) false), .d (.list 1 (v11.2.2.map (rInt .i64)) false)]]⟩), (0, ⟨3, [[.d (.v (.int .i64 0)), .d (.list 0 [] true), .d (.list 0 [] true)]]⟩)], 2⟩ ?_ ?_
 ·refine Sm.seq ?_
  refine Sm.regionG hF rfl ?_
  refine gv hF (x := .d (.agg 3 [.v (.int .i64 v11.1), .list 1 (v11.2.1.map (rLst 1 (rInt .i64))) false, .list 1 (v11.2.2.map (rInt .i64)) false])) (oL (zn rfl rfl ag73 sz73 rfl rfl)) ?_
  refine SmG.store hF rfl rfl rfl rfl rfl (zy (ys := [.d (.v (.int .i64 v11.1)), .d (.list 1 (v11.2.1.map (rLst 1 (rInt .i64))) false), .d (.list 1 (v11.2.2.map (rInt .i64)) false)]) (r := [.d (.v (.int .i64 0)), .d (.list 0 [] true), .d (.list 0 [] true)]) (rows' := [[.d (.v (.int .i64 v11.1)), .d (.list 1 (v11.2.1.map (rLst 1 (rInt .i64))) false), .d (.list 1 (v11.2.2.map (rInt .i64)) false)]]) rfl rfl rfl sz73 rfl rfl rfl rfl rfl) ?_
  refine sn ?_
  refine Sm.ret ?_
  obtain rfl := zb h
  exact zcd (RetR.cons (RetO.cell rfl (zn (ds := [.v (.int .i64 v11.1), .list 1 (v11.2.1.map (rLst 1 (rInt .i64))) false, .list 1 (v11.2.2.map (rInt .i64)) false]) rfl rfl ag73 sz73 rfl rfl)) (RetR.nil)) (D.le.refl _)
 replace h := hv11
 refine sr hF ?_
 refine gv hF oM ?_
 refine gv hF (oB (c_gtr)) ?_
 refine sn ?_
 refine Sm.condU hF rfl (fun hc8 => ?_) (fun hc8 => ?_)
 ·replace h := ifF hc8 h
  refine Sm.skip ?_
  obtain rfl := zb h
  exact (toK ⟨rfl, rfl, trivial⟩ ⟨rfl, rfl, trivial⟩)
 replace h := ifT hc8 h
 refine Sm.regionAG hF rfl ?_
 refine SmA.headG hF rfl 0 8 (by kernel_rfl) ?_
 simp only [List.take_succ_cons, List.take_zero, List.take_nil, List.drop_zero, Nat.reduceSub]
 refine hv hF (x := .d (.agg 3 [.v (.int .i64 x7.1.cells), .list 1 (x7.1.next.map (rLst 1 (rInt .i64))) false, .list 1 (x7.1.turn.map (rInt .i64)) false])) (oL (zn rfl rfl ag73 sz73 rfl rfl)) ?_
 refine hv hF oM ?_
 refine hv hF (oC (zbd u5 u3 (z4c _))) ?_
 refine hv hF (oF (zq z9h)) ?_
 refine hv hF (oL (z4b rfl rfl ag3 rfl)) ?_
 obtain ⟨x9, hx9, h⟩ := za h
 refine hv hF (oB (zsb hx9)) ?_
 obtain ⟨x10, hx10, h⟩ := za h
 refine Head.c hF rfl rfl (by kernel_rfl) rfl rfl rfl (zcj hx10) ?_
 refine hv hF oM ?_
 refine Head.last ?_
 simp only [List.nil_append, List.cons_append]
 refine SmA.toM (n := 3) rfl rfl ?_
 refine SmM.step hF [8, 9] rfl (by kernel_rfl) rfl ⟨⟨_, rfl, ?_⟩, ⟨_, rfl, ?_⟩, trivial⟩
 ·refine gv hF (zic rfl rfl rfl) ?_
  refine sn ?_
  refine SmM.step hF [9, 10] rfl (by kernel_rfl) rfl ⟨⟨_, rfl, ?_⟩, ⟨_, rfl, ?_⟩, trivial⟩
  ·refine gv hF (zic rfl rfl rfl) ?_
   refine sn ?_
   refine SmM.step hF [10] rfl (by kernel_rfl) rfl ⟨⟨_, rfl, ?_⟩, trivial⟩
   refine SmG.store hF rfl rfl rfl rfl rfl (zy (ys := [.d (.v (.int .i64 x10.1.cells)), .d (.list 1 (x10.1.next.map (rLst 1 (rInt .i64))) false), .d (.list 1 (x10.1.turn.map (rInt .i64)) false)]) (r := [.d (.v (.int .i64 x7.1.cells)), .d (.list 1 (x7.1.next.map (rLst 1 (rInt .i64))) false), .d (.list 1 (x7.1.turn.map (rInt .i64)) false)]) (rows' := [[.d (.v (.int .i64 x10.1.cells)), .d (.list 1 (x10.1.next.map (rLst 1 (rInt .i64))) false), .d (.list 1 (x10.1.turn.map (rInt .i64)) false)]]) rfl rfl rfl sz73 rfl rfl rfl rfl rfl) ?_
   refine sn ?_
   refine SmM.nil (by kernel_rfl) ?_
   obtain rfl := zb h
   exact (toK ⟨rfl, rfl, trivial⟩ ⟨rfl, rfl, trivial⟩)
  ·refine SmG.store hF rfl rfl rfl rfl rfl (zy (ys := [.d (.v (.int .i64 x10.1.cells)), .d (.list 1 (x10.1.next.map (rLst 1 (rInt .i64))) false), .d (.list 1 (x10.1.turn.map (rInt .i64)) false)]) (r := [.d (.v (.int .i64 x7.1.cells)), .d (.list 1 (x7.1.next.map (rLst 1 (rInt .i64))) false), .d (.list 1 (x7.1.turn.map (rInt .i64)) false)]) (rows' := [[.d (.v (.int .i64 x10.1.cells)), .d (.list 1 (x10.1.next.map (rLst 1 (rInt .i64))) false), .d (.list 1 (x10.1.turn.map (rInt .i64)) false)]]) rfl rfl rfl sz73 rfl rfl rfl rfl rfl) ?_
   refine sn ?_
   refine SmM.step hF [9] rfl (by kernel_rfl) rfl ⟨⟨_, rfl, ?_⟩, trivial⟩
   refine gv hF (zic rfl rfl rfl) ?_
   refine sn ?_
   refine SmM.nil (by kernel_rfl) ?_
   obtain rfl := zb h
   exact (toK ⟨rfl, rfl, trivial⟩ ⟨rfl, rfl, trivial⟩)
 ·refine gv hF (zic rfl rfl rfl) ?_
  refine sn ?_
  refine SmM.step hF [8] rfl (by kernel_rfl) rfl ⟨⟨_, rfl, ?_⟩, trivial⟩
  refine gv hF (zic rfl rfl rfl) ?_
  refine sn ?_
  refine SmM.step hF [10] rfl (by kernel_rfl) rfl ⟨⟨_, rfl, ?_⟩, trivial⟩
  refine SmG.store hF rfl rfl rfl rfl rfl (zy (ys := [.d (.v (.int .i64 x10.1.cells)), .d (.list 1 (x10.1.next.map (rLst 1 (rInt .i64))) false), .d (.list 1 (x10.1.turn.map (rInt .i64)) false)]) (r := [.d (.v (.int .i64 x7.1.cells)), .d (.list 1 (x7.1.next.map (rLst 1 (rInt .i64))) false), .d (.list 1 (x7.1.turn.map (rInt .i64)) false)]) (rows' := [[.d (.v (.int .i64 x10.1.cells)), .d (.list 1 (x10.1.next.map (rLst 1 (rInt .i64))) false), .d (.list 1 (x10.1.turn.map (rInt .i64)) false)]]) rfl rfl rfl sz73 rfl rfl rfl rfl rfl) ?_
  refine sn ?_
  refine SmM.nil (by kernel_rfl) ?_
  obtain rfl := zb h
  exact (toK ⟨rfl, rfl, trivial⟩ ⟨rfl, rfl, trivial⟩)
end
section
open Go.RowKit
def lowB (n : Int) : UInt8 := UInt8.ofNat (n % 256).toNat
theorem zaq (n : Int) : ((lowB n).toNat : Int) = n % 256 := by
 unfold lowB
 have : (UInt8.ofNat (n % 256).toNat).toNat = (n % 256).toNat := by simp; omega
 rw [this]; omega
theorem z3k {a b : Int} (ha : 0 ≤ a ∧ a ≤ 255) (hb : 0 ≤ b ∧ b ≤ 255) (h : lowB a = lowB b) : a = b := by
 have := congrArg (fun x : UInt8 => (x.toNat : Int)) h
 simp only [zaq] at this
 omega
structure Ps where
 at_ : List Int
 h0 : List Int
 h1 : List Int
 rights : Int
 side : Int
 deriving DecidableEq
structure Rs where
 out : Int
 n : Int
 deriving DecidableEq
def u8R (n : Int) : Prop := 0 ≤ n ∧ n ≤ 255
structure PsOk (p : Ps) : Prop where
 la : p.at_.length ≤ 255
 l0 : p.h0.length ≤ 255
 l1 : p.h1.length ≤ 255
 a : ∀ x ∈ p.at_, u8R x
 b : ∀ x ∈ p.h0, u8R x
 c : ∀ x ∈ p.h1, u8R x
 r : u8R p.rights
 s : u8R p.side
def RsOk (r : Rs) : Prop := (1 ≤ r.out ∧ r.out ≤ 3) ∧ 0 ≤ r.n ∧ r.n ≤ 2147483647
def nums (p : Ps) : List Int := p.at_ ++ p.h0 ++ p.h1 ++ [p.rights, p.side]
def keyB (p : Ps) : List UInt8 := (nums p).map lowB
def resB (r : Rs) : List UInt8 := [lowB r.out, lowB (r.n / 16777216), lowB (r.n / 65536), lowB (r.n / 256), lowB r.n]
def leafB (p : Ps) (r : Rs) : List UInt8 := [lowB p.at_.length, lowB p.h0.length, lowB p.h1.length] ++ keyB p ++ resB r
theorem zso (p : Ps) (r : Rs) : (leafB p r).length = (nums p).length + 8 := by simp [leafB, keyB, resB]
theorem ztl : ∀ {a b : List Int}, (∀ x ∈ a, u8R x) → (∀ x ∈ b, u8R x) → a.map lowB = b.map lowB → a = b
 | [], [], _, _, _ => rfl
 | [], _ :: _, _, _, h => by cases h
 | _ :: _, [], _, _, h => by cases h
 | x :: a, y :: b, ha, hb, h => by
  simp only [List.map_cons, List.cons.injEq] at h
  rw [z3k (ha x (by simp)) (hb y (by simp)) h.1, ztl (fun z hz => ha z (by simp [hz])) (fun z hz => hb z (by simp [hz])) h.2]
theorem z4u {r s : Rs} (hr : RsOk r) (hs : RsOk s) (h : resB r = resB s) : r = s := by
 obtain ⟨hr0, hr1⟩ := hr
 obtain ⟨hs0, hs1⟩ := hs
 simp only [resB, List.cons.injEq, and_true] at h
 obtain ⟨h0, h1, h2, h3, h4⟩ := h
 have e0 := congrArg (fun x : UInt8 => (x.toNat : Int)) h0
 have e1 := congrArg (fun x : UInt8 => (x.toNat : Int)) h1
 have e2 := congrArg (fun x : UInt8 => (x.toNat : Int)) h2
 have e3 := congrArg (fun x : UInt8 => (x.toNat : Int)) h3
 have e4 := congrArg (fun x : UInt8 => (x.toNat : Int)) h4
 simp only [zaq] at e0 e1 e2 e3 e4
 obtain ⟨o, n⟩ := r
 obtain ⟨o', n'⟩ := s
 simp only at *
 rw [Rs.mk.injEq]
 omega
theorem zvr {p : Ps} (h : PsOk p) : ∀ x ∈ nums p, u8R x := by
 intro x hx
 simp only [nums, List.mem_append, List.mem_cons, List.not_mem_nil, or_false] at hx
 rcases hx with ((hx | hx) | hx) | (rfl | rfl)
 ·exact h.a x hx
 ·exact h.b x hx
 ·exact h.c x hx
 ·exact h.r
 ·exact h.s
theorem z8t {p q : Ps} {r s : Rs} (hp : PsOk p) (hq : PsOk q) (hr : RsOk r) (hs : RsOk s) (h : leafB p r = leafB q s) : p = q ∧ r = s := by
 have hp1 := hp.la
 have hp2 := hp.l0
 have hp3 := hp.l1
 have hq1 := hq.la
 have hq2 := hq.l0
 have hq3 := hq.l1
 unfold leafB at h
 have hlen := congrArg List.length h
 simp only [List.cons_append, List.nil_append, List.cons.injEq] at h
 obtain ⟨h1, h2, h3, h4⟩ := h
 have g1 := z3k (by omega) (by omega) h1
 have g2 := z3k (by omega) (by omega) h2
 have g3 := z3k (by omega) (by omega) h3
 obtain ⟨k1, k2⟩ := List.append_inj h4 (by simp [keyB, nums]; omega)
 have hn := ztl (zvr hp) (zvr hq) k1
 refine ⟨?_, z4u hr hs k2⟩
 unfold nums at hn
 obtain ⟨n1, n2⟩ := List.append_inj hn (by simp; omega)
 obtain ⟨n3, n4⟩ := List.append_inj n1 (by simp; omega)
 obtain ⟨n5, n6⟩ := List.append_inj n3 (by omega)
 obtain ⟨a, b, c, d, e⟩ := p
 obtain ⟨a', b', c', d', e'⟩ := q
 simp only [List.cons.injEq, and_true] at *
 rw [Ps.mk.injEq]
 exact ⟨n5, n6, n4, n2⟩
theorem z5t {p q : Ps} {r s : Rs} (hp : PsOk p) (hq : PsOk q) (hr : RsOk r) (hs : RsOk s) : leafB p r = leafB q s ↔ p = q ∧ r = s :=
 ⟨z8t hp hq hr hs, fun h => by rw [h.1, h.2]⟩
end
section
open Go.RowKit
set_option maxRecDepth 100000
structure Knd where
 name : List UInt8
 progs : List (List Stp)
 keep : Bool
def Knd.row (k : Knd) : List D := [.v (.string ⟨k.name.toArray⟩), .list 1 (k.progs.map (rLst 2 Stp.row)) false, .v (.bool k.keep)]
structure Cls where
 if_ : Int
 kind : Int
 n : Int
 then_ : Int
def Cls.row (c : Cls) : List D := [.v (.int .i64 c.if_), .v (.int .i64 c.kind), .v (.int .i64 c.n), .v (.int .i64 c.then_)]
structure Gm where
 board : Brd
 kinds : List Knd
 rights : Int
 must : Bool
 clauses : List Cls
 blocked : Int
 endless : Int
def Gm.row (x : Gm) : List D := [.v (.int .i64 x.board.cells), .list 1 (x.board.next.map (rLst 1 (rInt .i64))) false, .list 1 (x.board.turn.map (rInt .i64)) false, .list 3 (x.kinds.map Knd.row) false, .v (.int .i64 x.rights), .v (.bool x.must), .list 4 (x.clauses.map Cls.row) false, .v (.int .i64 x.blocked), .v (.int .i64 x.endless)]
def Ps.row (x : Ps) : List D := [.list 1 (x.at_.map (rInt .i64)) false, .list 1 (x.h0.map (rInt .i64)) false, .list 1 (x.h1.map (rInt .i64)) false, .v (.int .i64 x.rights), .v (.int .i64 x.side)]
def Rs.row (x : Rs) : List D := [.v (.int .i64 x.out), .v (.int .i64 x.n)]
structure GRaw where
 w : UInt8
 h : UInt8
 cut : UInt8
 k0 : List UInt8
 k1 : List UInt8
 c : List (UInt8 × UInt8 × UInt8)
 f0 : UInt8
 f1 : UInt8
 f2 : UInt8
 f3 : UInt8
 f4 : UInt8
 f5 : UInt8
def GRaw.row (x : GRaw) : List D := [.v (.int .u8 (x.w.toNat : Int)), .v (.int .u8 (x.h.toNat : Int)), .v (.int .u8 (x.cut.toNat : Int)), .list 1 (x.k0.map rowB) false, .list 1 (x.k1.map rowB) false, .list 3 (x.c.map (fun x : (UInt8 × UInt8 × UInt8) => [.v (.int .u8 (x.1.toNat : Int)), .v (.int .u8 (x.2.1.toNat : Int)), .v (.int .u8 (x.2.2.toNat : Int))])) false, .v (.int .u8 (x.f0.toNat : Int)), .v (.int .u8 (x.f1.toNat : Int)), .v (.int .u8 (x.f2.toNat : Int)), .v (.int .u8 (x.f3.toNat : Int)), .v (.int .u8 (x.f4.toNat : Int)), .v (.int .u8 (x.f5.toNat : Int))]
structure PRaw where
 c0 : UInt8
 c1 : UInt8
 c2 : UInt8
 c3 : UInt8
 c4 : UInt8
 c5 : UInt8
 k0 : UInt8
 k1 : UInt8
 k2 : UInt8
 k3 : UInt8
 k4 : UInt8
 k5 : UInt8
 h0 : UInt8
 h1 : UInt8
 h2 : UInt8
 h3 : UInt8
 rights : UInt8
 side : UInt8
def PRaw.row (x : PRaw) : List D := [.v (.int .u8 (x.c0.toNat : Int)), .v (.int .u8 (x.c1.toNat : Int)), .v (.int .u8 (x.c2.toNat : Int)), .v (.int .u8 (x.c3.toNat : Int)), .v (.int .u8 (x.c4.toNat : Int)), .v (.int .u8 (x.c5.toNat : Int)), .v (.int .u8 (x.k0.toNat : Int)), .v (.int .u8 (x.k1.toNat : Int)), .v (.int .u8 (x.k2.toNat : Int)), .v (.int .u8 (x.k3.toNat : Int)), .v (.int .u8 (x.k4.toNat : Int)), .v (.int .u8 (x.k5.toNat : Int)), .v (.int .u8 (x.h0.toNat : Int)), .v (.int .u8 (x.h1.toNat : Int)), .v (.int .u8 (x.h2.toNat : Int)), .v (.int .u8 (x.h3.toNat : Int)), .v (.int .u8 (x.rights.toNat : Int)), .v (.int .u8 (x.side.toNat : Int))]
end
section
open Go.RowKit
set_option maxRecDepth 100000
noncomputable def zgc (a0 : Int) (a1 : Int) : Option Int :=
 bif (decide (a0 < a1)) then (
  some (-1)
 ) else (
  bif (decide (a1 < a0)) then (
   some 1
  ) else (
   some 0
  )
 )
set_option maxHeartbeats 4000000 in
theorem zfd {a0 : Int} {a1 : Int} {r : Int} (h : zgc a0 a1 = some r) : zg Tryd.prog HG 75 [.v (.int .i64 a0), .v (.int .i64 a1)] (.v (.int .i64 r)) := by
 unfold zgc at h
 refine zg.of Tryd.func75 rfl Tryd.ntmps75 (by simp) ?_
 intro F hF h0 hT
 show Sm F _ _ ⟨[(0, .d (.v (.int .i64 a0))), (1, .d (.v (.int .i64 a1)))], [], 0⟩
 refine sr hF ?_
 refine gv hF oA ?_
 refine sn ?_
 refine Sm.seq ?_
 refine sr hF ?_
 refine gv hF oM ?_
 refine gv hF oM ?_
 refine gv hF (oB (c_lss)) ?_
 refine sn ?_
 refine Sm.condB hF rfl (fun hc1 => ?_) (fun hc1 => ?_)
 ·replace h := ifT hc1 h
  refine sr hF ?_
  refine gv hF oA ?_
  refine sn ?_
  refine Sm.ret ?_
  obtain rfl := zb h
  exact ret1 rfl rfl
 replace h := ifF hc1 h
 refine sk ?_
 refine Sm.seq ?_
 refine sr hF ?_
 refine gv hF oM ?_
 refine gv hF oM ?_
 refine gv hF (oB (c_gtr)) ?_
 refine sn ?_
 refine Sm.condB hF rfl (fun hc2 => ?_) (fun hc2 => ?_)
 ·replace h := ifT hc2 h
  refine sr hF ?_
  refine gv hF oA ?_
  refine sn ?_
  refine Sm.ret ?_
  obtain rfl := zb h
  exact ret1 rfl rfl
 replace h := ifF hc2 h
 refine sk ?_
 refine sr hF ?_
 refine gv hF oA ?_
 refine sn ?_
 refine Sm.ret ?_
 obtain rfl := zb h
 exact ret1 rfl rfl
noncomputable def zzc (a0 : List Int) (a1 : List Int) (s1 : Int) : Option (Int ⊕ (Unit ⊕ Int)) :=
 bif (decide (s1 < (a0.length : Int))) then (
  bif (decide (s1 < (a1.length : Int))) then (
   ob (idx a0 s1) fun x7 =>
   ob (idx a1 s1) fun x8 =>
   bif (x7 != x8) then (
    ob (idx a0 s1) fun x10 =>
    ob (idx a1 s1) fun x11 =>
    ob (zgc x10 x11) fun x12 =>
    some (.inr (.inr x12))
   ) else (
    ob (arI .i64 (s1 + 1)) fun x13 =>
    some (.inl x13)
   )
  ) else (
   some (.inr (.inl ()))
  )
 ) else (
  some (.inr (.inl ()))
 )
noncomputable def z2c (a0 : List Int) (a1 : List Int) : Option Int :=
 ob ((
  loopO (zzc a0 a1) 0
  : Option (Unit ⊕ Int))) fun o16 => match o16 with
 | .inl v14 => (
  ob (zgc (a0.length : Int) (a1.length : Int)) fun x15 =>
  some x15
  )
 | .inr e17 => some e17
set_option maxHeartbeats 4000000 in
theorem zzf {a0 : List Int} {a1 : List Int} {r : Int} (h : z2c a0 a1 = some r) : zg Tryd.prog HG 74 [.list 1 (a0.map (rInt .i64)) false, .list 1 (a1.map (rInt .i64)) false] (.v (.int .i64 r)) := by
 unfold z2c at h
 refine zg.of Tryd.func74 rfl Tryd.ntmps74 (by simp) ?_
 intro F hF h0 hT
 show Sm F _ _ ⟨[(0, .d (.list 1 (a0.map (rInt .i64)) false)), (1, .d (.list 1 (a1.map (rInt .i64)) false))], [], 0⟩
 refine sr hF ?_
 refine gv hF oA ?_
 refine sn ?_
 refine Sm.seq ?_
 obtain ⟨o16, ho16, h⟩ := za h
 rcases ocase o16 with ⟨e17, rfl⟩ | ⟨v14, rfl⟩
 ·have he17 := zb h
  subst he17
  replace h := ho16
  refine sr hF ?_
  refine gv hF oA ?_
  refine sn ?_
  refine Sm.block ?_
  refine Sm.loopT (zzc a0 a1) (fun s1 => ⟨[(0, .d (.list 1 (a0.map (rInt .i64)) false)), (1, .d (.list 1 (a1.map (rInt .i64)) false)), (5, .d (.v (.int .i64 s1)))], [], 0⟩) 0 h (toK ⟨rfl, rfl, rfl, trivial⟩ trivial) ?_
  intro n2 s1 o3 h hd4
  unfold zzc at h
  refine Sm.seq ?_
  refine sr hF ?_
  refine gv hF oM ?_
  refine gv hF oM ?_
  refine gv hF (oN (lenQD u30)) ?_
  refine gv hF (oB (c_lss)) ?_
  rcases zzb (decide (s1 < (a0.length : Int))) with hc5 | hc5
  ·replace h := ifF hc5 h
   refine gv hF (zj rfl rfl hc5) ?_
   refine gp hF ?_
   refine gp hF ?_
   refine gp hF ?_
   refine gp hF ?_
   refine gv hF (zf rfl rfl rfl) ?_
   refine sn ?_
   refine Sm.condF hF rfl ?_
   refine Sm.exit ?_
   replace h := zw h hd4
   cases h
  replace h := ifT hc5 h
  refine gv hF (zj rfl rfl hc5) ?_
  refine gv hF oM ?_
  refine gv hF oM ?_
  refine gv hF (oN (lenQD u30)) ?_
  refine gv hF (oB (c_lss)) ?_
  refine gv hF (zu rfl rfl rfl) ?_
  refine sn ?_
  refine Sm.condU hF rfl (fun hc6 => ?_) (fun hc6 => ?_)
  ·replace h := ifF hc6 h
   refine Sm.exit ?_
   replace h := zw h hd4
   cases h
  replace h := ifT hc6 h
  refine sk ?_
  refine Sm.seq ?_
  refine Sm.block ?_
  refine Sm.seq ?_
  refine Sm.drawG hF (by kernel_rfl) rfl 8 (by kernel_rfl) (by kernel_rfl) ?_
  simp only [List.take_succ_cons, List.take_zero, List.take_nil]
  refine hv hF oM ?_
  refine hv hF oM ?_
  obtain ⟨x7, hx7, h⟩ := za h
  refine hv hF (oI (idxQD u30 sz3 hx7)) ?_
  refine hv hF (oL (lP1 ag3 rfl)) ?_
  refine hv hF oM ?_
  refine hv hF oM ?_
  obtain ⟨x8, hx8, h⟩ := za h
  refine hv hF (oI (idxQD u30 sz3 hx8)) ?_
  refine hv hF (oL (lP1 ag3 rfl)) ?_
  refine Head.last ⟨rfl, ?_⟩
  simp only [List.drop_succ_cons, List.drop_zero, List.drop_nil, List.nil_append, List.cons_append]
  refine gv hF (oB (c_neq)) ?_
  refine sn ?_
  refine Sm.condU hF rfl (fun hc9 => ?_) (fun hc9 => ?_)
  ·replace h := ifF hc9 h
   refine Sm.skip ?_
   refine zk ?_
   refine zd ?_
   refine Sm.regionG hF rfl ?_
   refine gv hF oM ?_
   obtain ⟨x13, hx13, h⟩ := za h
   refine gv hF (oB (z7 hx13)) ?_
   refine gv hF oA ?_
   refine SmG.nil ?_
   exact ztb (zhb h hd4) (toK ⟨rfl, rfl, rfl, trivial⟩ trivial)
  replace h := ifT hc9 h
  refine Sm.seq ?_
  refine Sm.drawG hF (by kernel_rfl) rfl 8 (by kernel_rfl) (by kernel_rfl) ?_
  simp only [List.take_succ_cons, List.take_zero, List.take_nil]
  refine hv hF oM ?_
  refine hv hF oM ?_
  obtain ⟨x10, hx10, h⟩ := za h
  refine hv hF (oI (idxQD u30 sz3 hx10)) ?_
  refine hv hF (oL (lP1 ag3 rfl)) ?_
  refine hv hF oM ?_
  refine hv hF oM ?_
  obtain ⟨x11, hx11, h⟩ := za h
  refine hv hF (oI (idxQD u30 sz3 hx11)) ?_
  refine hv hF (oL (lP1 ag3 rfl)) ?_
  refine Head.last ⟨rfl, ?_⟩
  simp only [List.drop_succ_cons, List.drop_zero, List.drop_nil, List.nil_append, List.cons_append]
  obtain ⟨x12, hx12, h⟩ := za h
  refine SmG.call hF rfl rfl (by kernel_rfl) rfl rfl rfl (zfd hx12) ?_
  refine gv hF oA ?_
  refine sn ?_
  refine Sm.ret ?_
  replace h := zw h hd4
  replace h := zhk h
  obtain rfl := zb h
  exact ret1 rfl rfl
 refine Sm.joinT ⟨[(0, .d (.list 1 (a0.map (rInt .i64)) false)), (1, .d (.list 1 (a1.map (rInt .i64)) false))], [], 0⟩ ?_ ?_
 ·refine Sm.seq ?_
  refine Sm.regionG hF rfl ?_
  refine gv hF oM ?_
  refine gv hF (oN (lenQD u30)) ?_
  refine gv hF oM ?_
  refine gv hF (oN (lenQD u30)) ?_
  obtain ⟨x15, hx15, h⟩ := za h
  refine SmG.call hF rfl rfl (by kernel_rfl) rfl rfl rfl (zfd hx15) ?_
  refine gv hF oA ?_
  refine sn ?_
  refine Sm.ret ?_
  obtain rfl := zb h
  exact ret1 rfl rfl
 replace h := ho16
 refine sr hF ?_
 refine gv hF oA ?_
 refine sn ?_
 refine Sm.block ?_
 refine Sm.loopT (zzc a0 a1) (fun s1 => ⟨[(0, .d (.list 1 (a0.map (rInt .i64)) false)), (1, .d (.list 1 (a1.map (rInt .i64)) false)), (5, .d (.v (.int .i64 s1)))], [], 0⟩) 0 h (toK ⟨rfl, rfl, rfl, trivial⟩ trivial) ?_
 intro n2 s1 o3 h hd4
 unfold zzc at h
 refine Sm.seq ?_
 refine sr hF ?_
 refine gv hF oM ?_
 refine gv hF oM ?_
 refine gv hF (oN (lenQD u30)) ?_
 refine gv hF (oB (c_lss)) ?_
 rcases zzb (decide (s1 < (a0.length : Int))) with hc5 | hc5
 ·replace h := ifF hc5 h
  refine gv hF (zj rfl rfl hc5) ?_
  refine gp hF ?_
  refine gp hF ?_
  refine gp hF ?_
  refine gp hF ?_
  refine gv hF (zf rfl rfl rfl) ?_
  refine sn ?_
  refine Sm.condF hF rfl ?_
  refine Sm.exit ?_
  replace h := zw h hd4
  obtain rfl := zb (zqg h)
  exact (toK ⟨rfl, rfl, trivial⟩ trivial)
 replace h := ifT hc5 h
 refine gv hF (zj rfl rfl hc5) ?_
 refine gv hF oM ?_
 refine gv hF oM ?_
 refine gv hF (oN (lenQD u30)) ?_
 refine gv hF (oB (c_lss)) ?_
 refine gv hF (zu rfl rfl rfl) ?_
 refine sn ?_
 refine Sm.condU hF rfl (fun hc6 => ?_) (fun hc6 => ?_)
 ·replace h := ifF hc6 h
  refine Sm.exit ?_
  replace h := zw h hd4
  obtain rfl := zb (zqg h)
  exact (toK ⟨rfl, rfl, trivial⟩ trivial)
 replace h := ifT hc6 h
 refine sk ?_
 refine Sm.seq ?_
 refine Sm.block ?_
 refine Sm.seq ?_
 refine Sm.drawG hF (by kernel_rfl) rfl 8 (by kernel_rfl) (by kernel_rfl) ?_
 simp only [List.take_succ_cons, List.take_zero, List.take_nil]
 refine hv hF oM ?_
 refine hv hF oM ?_
 obtain ⟨x7, hx7, h⟩ := za h
 refine hv hF (oI (idxQD u30 sz3 hx7)) ?_
 refine hv hF (oL (lP1 ag3 rfl)) ?_
 refine hv hF oM ?_
 refine hv hF oM ?_
 obtain ⟨x8, hx8, h⟩ := za h
 refine hv hF (oI (idxQD u30 sz3 hx8)) ?_
 refine hv hF (oL (lP1 ag3 rfl)) ?_
 refine Head.last ⟨rfl, ?_⟩
 simp only [List.drop_succ_cons, List.drop_zero, List.drop_nil, List.nil_append, List.cons_append]
 refine gv hF (oB (c_neq)) ?_
 refine sn ?_
 refine Sm.condU hF rfl (fun hc9 => ?_) (fun hc9 => ?_)
 ·replace h := ifF hc9 h
  refine Sm.skip ?_
  refine zk ?_
  refine zd ?_
  refine Sm.regionG hF rfl ?_
  refine gv hF oM ?_
  obtain ⟨x13, hx13, h⟩ := za h
  refine gv hF (oB (z7 hx13)) ?_
  refine gv hF oA ?_
  refine SmG.nil ?_
  exact ztb (zhb h hd4) (toK ⟨rfl, rfl, rfl, trivial⟩ trivial)
 replace h := ifT hc9 h
 refine Sm.seq ?_
 refine Sm.drawG hF (by kernel_rfl) rfl 8 (by kernel_rfl) (by kernel_rfl) ?_
 simp only [List.take_succ_cons, List.take_zero, List.take_nil]
 refine hv hF oM ?_
 refine hv hF oM ?_
 obtain ⟨x10, hx10, h⟩ := za h
 refine hv hF (oI (idxQD u30 sz3 hx10)) ?_
 refine hv hF (oL (lP1 ag3 rfl)) ?_
 refine hv hF oM ?_
 refine hv hF oM ?_
 obtain ⟨x11, hx11, h⟩ := za h
 refine hv hF (oI (idxQD u30 sz3 hx11)) ?_
 refine hv hF (oL (lP1 ag3 rfl)) ?_
 refine Head.last ⟨rfl, ?_⟩
 simp only [List.drop_succ_cons, List.drop_zero, List.drop_nil, List.nil_append, List.cons_append]
 obtain ⟨x12, hx12, h⟩ := za h
 refine SmG.call hF rfl rfl (by kernel_rfl) rfl rfl rfl (zfd hx12) ?_
 refine gv hF oA ?_
 refine sn ?_
 refine Sm.ret ?_
 replace h := zw h hd4
 cases h
noncomputable def zoc (x1 : Int) (x2 : Int) (x3 : Int) (x4 : Int) (x5 : Int) (s6 : Int) : Option (Int ⊕ (Unit ⊕ Int)) :=
 bif (decide (s6 < ([x1, x2, x3, x4, x5].length : Int))) then (
  ob (idx [x1, x2, x3, x4, x5] s6) fun x11 =>
  bif (x11 != 0) then (
   ob (idx [x1, x2, x3, x4, x5] s6) fun x13 =>
   some (.inr (.inr x13))
  ) else (
   ob (arI .i64 (s6 + 1)) fun x14 =>
   some (.inl x14)
  )
 ) else (
  some (.inr (.inl ()))
 )
noncomputable def zld (a0 : Ps) (a1 : Ps) : Option Int :=
 ob (z2c a0.at_ a1.at_) fun x1 =>
 ob (z2c a0.h0 a1.h0) fun x2 =>
 ob (z2c a0.h1 a1.h1) fun x3 =>
 ob (zgc a0.rights a1.rights) fun x4 =>
 ob (zgc a0.side a1.side) fun x5 =>
 ob ((
  loopO (zoc x1 x2 x3 x4 x5) 0
  : Option (Unit ⊕ Int))) fun o16 => match o16 with
 | .inl v15 => (
  some 0
  )
 | .inr e17 => some e17
set_option maxHeartbeats 4000000 in
theorem zbj {a0 : Ps} {a1 : Ps} {r : Int} (h : zld a0 a1 = some r) : zg Tryd.prog HG 51 [.agg 5 (Ps.row a0), .agg 5 (Ps.row a1)] (.v (.int .i64 r)) := by
 unfold zld at h
 refine zg.of Tryd.func51 rfl Tryd.ntmps51 (by simp) ?_
 intro F hF h0 hT
 show Sm F _ _ ⟨[(0, .d (.agg 5 (Ps.row a0))), (1, .d (.agg 5 (Ps.row a1)))], [], 0⟩
 refine sr hF ?_
 refine SmG.boxP hF boxA ?_
 refine SmG.boxP hF boxA ?_
 refine gv hF oA ?_
 refine sn ?_
 refine Sm.seq ?_
 refine Sm.drawG hF (by kernel_rfl) rfl 28 (by kernel_rfl) (by kernel_rfl) ?_
 simp only [List.take_succ_cons, List.take_zero, List.take_nil]
 refine hv hF (oF (ze zci rfl)) ?_
 refine hv hF (oL (lP1 ag30 rfl)) ?_
 refine hv hF (oF (ze zci rfl)) ?_
 refine hv hF (oL (lP1 ag30 rfl)) ?_
 obtain ⟨x1, hx1, h⟩ := za h
 refine Head.c hF rfl rfl (by kernel_rfl) rfl rfl rfl (zzf hx1) ?_
 refine hv hF (oF (ze zmd rfl)) ?_
 refine hv hF (oI (idxAP u31 sz30 rfl rfl)) ?_
 refine hv hF (oL (lP1 ag30 rfl)) ?_
 refine hv hF (oF (ze zmd rfl)) ?_
 refine hv hF (oI (idxAP u31 sz30 rfl rfl)) ?_
 refine hv hF (oL (lP1 ag30 rfl)) ?_
 obtain ⟨x2, hx2, h⟩ := za h
 refine Head.c hF rfl rfl (by kernel_rfl) rfl rfl rfl (zzf hx2) ?_
 refine hv hF (oF (ze zmd rfl)) ?_
 refine hv hF (oI (idxAP u31 sz30 rfl rfl)) ?_
 refine hv hF (oL (lP1 ag30 rfl)) ?_
 refine hv hF (oF (ze zmd rfl)) ?_
 refine hv hF (oI (idxAP u31 sz30 rfl rfl)) ?_
 refine hv hF (oL (lP1 ag30 rfl)) ?_
 obtain ⟨x3, hx3, h⟩ := za h
 refine Head.c hF rfl rfl (by kernel_rfl) rfl rfl rfl (zzf hx3) ?_
 refine hv hF (oF (ze zwl rfl)) ?_
 refine hv hF (oL (lP1 ag3 rfl)) ?_
 refine hv hF (oF (ze zwl rfl)) ?_
 refine hv hF (oL (lP1 ag3 rfl)) ?_
 obtain ⟨x4, hx4, h⟩ := za h
 refine Head.c hF rfl rfl (by kernel_rfl) rfl rfl rfl (zfd hx4) ?_
 refine hv hF (oF (ze zpl rfl)) ?_
 refine hv hF (oL (lP1 ag3 rfl)) ?_
 refine hv hF (oF (ze zpl rfl)) ?_
 refine hv hF (oL (lP1 ag3 rfl)) ?_
 refine Head.last ⟨rfl, ?_⟩
 simp only [List.drop_succ_cons, List.drop_zero, List.drop_nil, List.nil_append, List.cons_append]
 obtain ⟨x5, hx5, h⟩ := za h
 refine SmG.call hF rfl rfl (by kernel_rfl) rfl rfl rfl (zfd hx5) ?_
 refine gv hF (x := .d (.list 1 ([x1, x2, x3, x4, x5].map (rInt .i64)) true)) (oS (zl u30 sz3 ze3 rfl rfl (PartsQ.cons rfl (PartsQ.cons rfl (PartsQ.cons rfl (PartsQ.cons rfl (PartsQ.cons rfl (PartsQ.nil _)))))) rfl)) ?_
 refine gv hF oA ?_
 refine sn ?_
 refine Sm.seq ?_
 obtain ⟨o16, ho16, h⟩ := za h
 rcases ocase o16 with ⟨e17, rfl⟩ | ⟨v15, rfl⟩
 ·have he17 := zb h
  subst he17
  replace h := ho16
  refine sr hF ?_
  refine gv hF oA ?_
  refine sn ?_
  refine Sm.block ?_
  refine Sm.loopT (zoc x1 x2 x3 x4 x5) (fun s6 => ⟨[(5, .d (.list 1 ([x1, x2, x3, x4, x5].map (rInt .i64)) true)), (6, .d (.v (.int .i64 s6)))], [], 0⟩) 0 h (toK ⟨rfl, rfl, trivial⟩ trivial) ?_
  intro n7 s6 o8 h hd9
  unfold zoc at h
  refine Sm.seq ?_
  refine sr hF ?_
  refine gv hF oM ?_
  refine gv hF oM ?_
  refine gv hF (oN (lenQD u30)) ?_
  refine gv hF (oB (c_lss)) ?_
  refine sn ?_
  refine Sm.condU hF rfl (fun hc10 => ?_) (fun hc10 => ?_)
  ·replace h := ifF hc10 h
   refine Sm.exit ?_
   replace h := zw h hd9
   cases h
  replace h := ifT hc10 h
  refine sk ?_
  refine Sm.seq ?_
  refine Sm.block ?_
  refine sr hF ?_
  refine gv hF oM ?_
  refine gv hF oM ?_
  obtain ⟨x11, hx11, h⟩ := za h
  refine gv hF (oI (idxQD u30 sz3 hx11)) ?_
  refine gv hF (oL (lP1 ag3 rfl)) ?_
  refine gv hF (oB (c_neq)) ?_
  refine sn ?_
  refine Sm.condU hF rfl (fun hc12 => ?_) (fun hc12 => ?_)
  ·replace h := ifF hc12 h
   refine Sm.skip ?_
   refine zk ?_
   refine zd ?_
   refine Sm.regionG hF rfl ?_
   refine gv hF oM ?_
   obtain ⟨x14, hx14, h⟩ := za h
   refine gv hF (oB (z7 hx14)) ?_
   refine gv hF oA ?_
   refine SmG.nil ?_
   exact ztb (zhb h hd9) (toK ⟨rfl, rfl, trivial⟩ trivial)
  replace h := ifT hc12 h
  refine sr hF ?_
  refine gv hF oM ?_
  refine gv hF oM ?_
  obtain ⟨x13, hx13, h⟩ := za h
  refine gv hF (oI (idxQD u30 sz3 hx13)) ?_
  refine gv hF (oL (lP1 ag3 rfl)) ?_
  refine gv hF oA ?_
  refine sn ?_
  refine Sm.ret ?_
  replace h := zw h hd9
  replace h := zhk h
  obtain rfl := zb h
  exact ret1 rfl rfl
 refine Sm.joinT ⟨[], [], 0⟩ ?_ ?_
 ·refine Sm.seq ?_
  refine Sm.regionG hF rfl ?_
  refine gv hF oA ?_
  refine sn ?_
  refine Sm.ret ?_
  obtain rfl := zb h
  exact ret1 rfl rfl
 replace h := ho16
 refine sr hF ?_
 refine gv hF oA ?_
 refine sn ?_
 refine Sm.block ?_
 refine Sm.loopT (zoc x1 x2 x3 x4 x5) (fun s6 => ⟨[(5, .d (.list 1 ([x1, x2, x3, x4, x5].map (rInt .i64)) true)), (6, .d (.v (.int .i64 s6)))], [], 0⟩) 0 h (toK ⟨rfl, rfl, trivial⟩ trivial) ?_
 intro n7 s6 o8 h hd9
 unfold zoc at h
 refine Sm.seq ?_
 refine sr hF ?_
 refine gv hF oM ?_
 refine gv hF oM ?_
 refine gv hF (oN (lenQD u30)) ?_
 refine gv hF (oB (c_lss)) ?_
 refine sn ?_
 refine Sm.condU hF rfl (fun hc10 => ?_) (fun hc10 => ?_)
 ·replace h := ifF hc10 h
  refine Sm.exit ?_
  replace h := zw h hd9
  obtain rfl := zb (zqg h)
  exact (toK trivial trivial)
 replace h := ifT hc10 h
 refine sk ?_
 refine Sm.seq ?_
 refine Sm.block ?_
 refine sr hF ?_
 refine gv hF oM ?_
 refine gv hF oM ?_
 obtain ⟨x11, hx11, h⟩ := za h
 refine gv hF (oI (idxQD u30 sz3 hx11)) ?_
 refine gv hF (oL (lP1 ag3 rfl)) ?_
 refine gv hF (oB (c_neq)) ?_
 refine sn ?_
 refine Sm.condU hF rfl (fun hc12 => ?_) (fun hc12 => ?_)
 ·replace h := ifF hc12 h
  refine Sm.skip ?_
  refine zk ?_
  refine zd ?_
  refine Sm.regionG hF rfl ?_
  refine gv hF oM ?_
  obtain ⟨x14, hx14, h⟩ := za h
  refine gv hF (oB (z7 hx14)) ?_
  refine gv hF oA ?_
  refine SmG.nil ?_
  exact ztb (zhb h hd9) (toK ⟨rfl, rfl, trivial⟩ trivial)
 replace h := ifT hc12 h
 refine sr hF ?_
 refine gv hF oM ?_
 refine gv hF oM ?_
 obtain ⟨x13, hx13, h⟩ := za h
 refine gv hF (oI (idxQD u30 sz3 hx13)) ?_
 refine gv hF (oL (lP1 ag3 rfl)) ?_
 refine gv hF oA ?_
 refine sn ?_
 refine Sm.ret ?_
 replace h := zw h hd9
 cases h
noncomputable def zje (a0 : Ps) (a1 : Ps) : Option Bool :=
 ob (zld a0 a1) fun x1 =>
 some (x1 == 0)
set_option maxHeartbeats 4000000 in
theorem z5k {a0 : Ps} {a1 : Ps} {r : Bool} (h : zje a0 a1 = some r) : zg Tryd.prog HG 20 [.agg 5 (Ps.row a0), .agg 5 (Ps.row a1)] (.v (.bool r)) := by
 unfold zje at h
 refine zg.of Tryd.func20 rfl Tryd.ntmps20 (by simp) ?_
 intro F hF h0 hT
 show Sm F _ _ ⟨[(0, .d (.agg 5 (Ps.row a0))), (1, .d (.agg 5 (Ps.row a1)))], [], 0⟩
 refine sr hF ?_
 refine SmG.boxP hF boxA ?_
 refine SmG.boxP hF boxA ?_
 refine gv hF oA ?_
 refine sn ?_
 refine sr hF ?_
 refine gv hF (x := .d (.agg 5 (Ps.row a0))) (oL (z3d ag33 sz33 rfl rfl)) ?_
 refine gv hF (x := .d (.agg 5 (Ps.row a1))) (oL (z3d ag33 sz33 rfl rfl)) ?_
 obtain ⟨x1, hx1, h⟩ := za h
 refine SmG.call hF rfl rfl (by kernel_rfl) rfl rfl rfl (zbj hx1) ?_
 refine gv hF (oB (c_eql)) ?_
 refine gv hF oA ?_
 refine sn ?_
 refine Sm.ret ?_
 obtain rfl := zb h
 exact ret1 rfl rfl
noncomputable def zlc (a0 : Ps) : Option (List Int) :=
 ob (app ([] : List Int) a0.at_) fun x1 =>
 ob (app x1 a0.h0) fun x2 =>
 ob (app x2 a0.h1) fun x3 =>
 ob (app x3 [a0.rights, a0.side]) fun x4 =>
 some x4
set_option maxHeartbeats 4000000 in
theorem z9e {a0 : Ps} {r : List Int} (h : zlc a0 = some r) : zg Tryd.prog HG 25 [.agg 5 (Ps.row a0)] (.list 1 (r.map (rInt .i64)) false) := by
 unfold zlc at h
 refine zg.of Tryd.func25 rfl Tryd.ntmps25 (by simp) ?_
 intro F hF h0 hT
 show Sm F _ _ ⟨[(0, .d (.agg 5 (Ps.row a0)))], [], 0⟩
 refine sr hF ?_
 refine SmG.boxP hF boxA ?_
 refine gv hF oA ?_
 refine sn ?_
 refine sr hF ?_
 refine gv hF (x := .d (.list 1 (([] : List Int).map (rInt .i64)) true)) (oS (z7f u30 sz3)) ?_
 refine gv hF (oF (ze zci rfl)) ?_
 refine gv hF (oL (lP1 ag30 rfl)) ?_
 obtain ⟨x1, hx1, h⟩ := za h
 refine SmG.appendFreshL hF el30 rfl (ys := a0.at_) (row := (rInt .i64)) rfl rfl rfl rfl rfl rfl rfl (.inl rfl) hx1 ?_
 refine gv hF oA ?_
 refine sn ?_
 refine sr hF ?_
 refine gv hF oM ?_
 refine gv hF (oF (ze zmd rfl)) ?_
 refine gv hF (oI (idxAP u31 sz30 rfl rfl)) ?_
 refine gv hF (oL (lP1 ag30 rfl)) ?_
 obtain ⟨x2, hx2, h⟩ := za h
 refine SmG.appendOwnL hF el30 rfl (ys := a0.h0) (row := (rInt .i64)) rfl rfl rfl rfl rfl rfl rfl rfl (.inl rfl) hx2 (by (repeat' first | exact zqb _ | refine zib ?_ | refine zi ?_ (z6 _ _ _) | refine zi ?_ (z6 _ _ [_]) | refine zi ?_ (z2b (by rfl)))) ?_
 refine gv hF oA ?_
 refine sn ?_
 refine sr hF ?_
 refine gv hF oM ?_
 refine gv hF (oF (ze zmd rfl)) ?_
 refine gv hF (oI (idxAP u31 sz30 rfl rfl)) ?_
 refine gv hF (oL (lP1 ag30 rfl)) ?_
 obtain ⟨x3, hx3, h⟩ := za h
 refine SmG.appendOwnL hF el30 rfl (ys := a0.h1) (row := (rInt .i64)) rfl rfl rfl rfl rfl rfl rfl rfl (.inl rfl) hx3 (by (repeat' first | exact zqb _ | refine zib ?_ | refine zi ?_ (z6 _ _ _) | refine zi ?_ (z6 _ _ [_]) | refine zi ?_ (z2b (by rfl)))) ?_
 refine gv hF oA ?_
 refine sn ?_
 refine sr hF ?_
 refine gv hF oM ?_
 refine gv hF (oF (ze zwl rfl)) ?_
 refine gv hF (oL (lP1 ag3 rfl)) ?_
 refine gv hF (oF (ze zpl rfl)) ?_
 refine gv hF (oL (lP1 ag3 rfl)) ?_
 refine gv hF (x := .d (.list 1 ([a0.rights, a0.side].map (rInt .i64)) true)) (oS (zl u30 sz3 ze3 rfl rfl (PartsQ.cons rfl (PartsQ.cons rfl (PartsQ.nil _))) rfl)) ?_
 obtain ⟨x4, hx4, h⟩ := za h
 refine SmG.appendOwnL hF el30 rfl (ys := [a0.rights, a0.side]) (row := (rInt .i64)) rfl rfl rfl rfl rfl rfl rfl rfl (.inl rfl) hx4 (by (repeat' first | exact zqb _ | refine zib ?_ | refine zi ?_ (z6 _ _ _) | refine zi ?_ (z6 _ _ [_]) | refine zi ?_ (z2b (by rfl)))) ?_
 refine gv hF oA ?_
 refine sn ?_
 refine Sm.to (St.to_trans (toK (e := [(2, .sref 0 0 (x4.map (rInt .i64)).length)]) (g := [(0, dB 1 (x4.map (rInt .i64)))]) (m := 1) ⟨rfl, trivial⟩ ⟨rfl, trivial⟩) (St.to_frz (l := 0) (sz := 1) (env' := [(2, .d (.list 1 (x4.map (rInt .i64)) false))]) (h' := []) (nx := 1) (x4.map (rInt .i64)) rfl ⟨⟨_, rfl, zjc⟩, trivial⟩ trivial)) ?_
 refine Sm.ret ?_
 obtain rfl := zb h
 exact ret1 rfl rfl
noncomputable def zye (x1 : List Int) (s2 : (Int × (List UInt8))) : Option ((Int × (List UInt8)) ⊕ List UInt8) :=
 bif (decide (s2.1 < (x1.length : Int))) then (
  ob (idx x1 s2.1) fun x7 =>
  ob (app s2.2 [(w8 x7)]) fun x8 =>
  ob (arI .i64 (s2.1 + 1)) fun x9 =>
  some (.inl (x9, x8))
 ) else (
  some (.inr s2.2)
 )
noncomputable def zue (a0 : Ps) : Option (List UInt8) :=
 ob (zlc a0) fun x1 =>
 ob ((
  loopO (zye x1) (0, ([] : List UInt8))
  : Option (List UInt8))) fun v10 =>
 some v10
set_option maxHeartbeats 4000000 in
theorem zkl {a0 : Ps} {r : List UInt8} (h : zue a0 = some r) : zg Tryd.prog HG 38 [.agg 5 (Ps.row a0)] (.v (.string ⟨(r : List UInt8).toArray⟩)) := by
 unfold zue at h
 refine zg.of Tryd.func38 rfl Tryd.ntmps38 (by simp) ?_
 intro F hF h0 hT
 show Sm F _ _ ⟨[(0, .d (.agg 5 (Ps.row a0)))], [], 0⟩
 refine sr hF ?_
 refine SmG.boxP hF boxA ?_
 refine gv hF oA ?_
 refine sn ?_
 refine sr hF ?_
 refine gv hF (x := .d (.agg 5 (Ps.row a0))) (oL (z3d ag33 sz33 rfl rfl)) ?_
 obtain ⟨x1, hx1, h⟩ := za h
 refine SmG.call hF rfl rfl (by kernel_rfl) rfl rfl rfl (z9e hx1) ?_
 refine gv hF oA ?_
 refine sn ?_
 refine sr hF ?_
 refine gv hF (x := .d (.list 1 (([] : List UInt8).map rowB) true)) (oS (z7f u24 sz5)) ?_
 refine gv hF oA ?_
 refine sn ?_
 refine Sm.seq ?_
 obtain ⟨v10, hv10, h⟩ := za h
 refine Sm.joinT ⟨[(4, .d (.list 1 (v10.map rowB) false))], [], 1⟩ ?_ ?_
 ·refine Sm.seq ?_
  refine Sm.regionG hF rfl ?_
  refine gv hF oM ?_
  refine gv hF (oC (zgk u24 u9 u5)) ?_
  refine gv hF oA ?_
  refine sn ?_
  refine Sm.ret ?_
  obtain rfl := zb h
  exact ret1 rfl rfl
 replace h := hv10
 refine sr hF ?_
 refine gv hF oA ?_
 refine sn ?_
 refine Sm.block ?_
 refine Sm.to (toK (e := [(3, .d (.list 1 (x1.map (rInt .i64)) false)), (4, .d (.list 1 ([].map rowB) true)), (5, .d (.v (.int .i64 0)))]) (g := []) (m := 0) ⟨rfl, rfl, rfl, trivial⟩ trivial) ?_
 refine Sm.own (t := 4) 1 rfl ?_
 refine Sm.loopT (zye x1) (fun s2 => ⟨[(3, .d (.list 1 (x1.map (rInt .i64)) false)), (4, .sref 0 0 (s2.2.map rowB).length), (5, .d (.v (.int .i64 s2.1)))], [(0, dB 1 (s2.2.map rowB))], 1⟩) (0, ([] : List UInt8)) h (toK ⟨rfl, rfl, rfl, trivial⟩ ⟨rfl, trivial⟩) ?_
 intro n3 s2 o4 h hd5
 unfold zye at h
 refine Sm.seq ?_
 refine sr hF ?_
 refine gv hF oM ?_
 refine gv hF oM ?_
 refine gv hF (oN (lenQD u30)) ?_
 refine gv hF (oB (c_lss)) ?_
 refine sn ?_
 refine Sm.condU hF rfl (fun hc6 => ?_) (fun hc6 => ?_)
 ·replace h := ifF hc6 h
  refine Sm.exit ?_
  replace h := zw h hd5
  obtain rfl := zb h
  exact (St.to_trans (toK (e := [(4, .sref 0 0 (s2.2.map rowB).length)]) (g := [(0, dB 1 (s2.2.map rowB))]) (m := 1) ⟨rfl, trivial⟩ ⟨rfl, trivial⟩) (St.to_frz (l := 0) (sz := 1) (env' := [(4, .d (.list 1 (s2.2.map rowB) false))]) (h' := []) (nx := 1) (s2.2.map rowB) rfl ⟨⟨_, rfl, zjc⟩, trivial⟩ trivial))
 replace h := ifT hc6 h
 refine sk ?_
 refine Sm.seq ?_
 refine Sm.block ?_
 refine Sm.regionG hF rfl ?_
 refine gv hF oM ?_
 refine gv hF oM ?_
 refine gv hF oM ?_
 obtain ⟨x7, hx7, h⟩ := za h
 refine gv hF (oI (idxQD u30 sz3 hx7)) ?_
 refine gv hF (oL (lP1 ag3 rfl)) ?_
 refine gv hF (oC (z6g u3 u5)) ?_
 refine gv hF (x := .d (.list 1 ([(w8 x7)].map rowB) true)) (oS (zl u24 sz5 ze5 rfl rfl (PartsQ.cons rfl (PartsQ.nil _)) rfl)) ?_
 obtain ⟨x8, hx8, h⟩ := za h
 refine SmG.appendOwnL hF el24 rfl (ys := [(w8 x7)]) (row := rowB) rfl rfl rfl rfl rfl rfl rfl rfl (.inl rfl) hx8 (by (repeat' first | exact zqb _ | refine zib ?_ | refine zi ?_ (z6 _ _ _) | refine zi ?_ (z6 _ _ [_]) | refine zi ?_ (z2b (by rfl)))) ?_
 refine gv hF oA ?_
 refine SmG.nil ?_
 refine zk ?_
 refine zd ?_
 refine Sm.regionG hF rfl ?_
 refine gv hF oM ?_
 obtain ⟨x9, hx9, h⟩ := za h
 refine gv hF (oB (z7 hx9)) ?_
 refine gv hF oA ?_
 refine SmG.nil ?_
 exact ztb (zhb h hd5) (toK ⟨rfl, rfl, rfl, trivial⟩ ⟨rfl, trivial⟩)
noncomputable def zle (a0 : Gm) (a1 : PRaw) (s6 : (Int × (List Int))) : Option ((Int × (List Int)) ⊕ List Int) :=
 bif (decide (s6.1 < 6)) then (
  ob ((
   ob (idx [a1.c0, a1.c1, a1.c2, a1.c3, a1.c4, a1.c5] s6.1) fun x11 =>
   ob (arI .i64 (a0.board.cells + 1)) fun x12 =>
   ob (remI (x11.toNat : Int) x12) fun x13 =>
   bif (decide (x13 < a0.board.cells)) then (
    bif (decide (0 < (a0.kinds.length : Int))) then (
     ob (idx [a1.k0, a1.k1, a1.k2, a1.k3, a1.k4, a1.k5] s6.1) fun x16 =>
     ob (remI (x16.toNat : Int) (a0.kinds.length : Int)) fun x17 =>
     ob (arI .i64 (2 * x17)) fun x18 =>
     ob (arI .i64 (1 + x18)) fun x19 =>
     ob (remI s6.1 2) fun x20 =>
     ob (arI .i64 (x19 + x20)) fun x21 =>
     ob (idx s6.2 x13) fun x22 =>
     some (s6.2.set (x13 : Int).toNat x21)
    ) else (
     some s6.2
    )
   ) else (
    some s6.2
   )
   : Option (List Int))) fun v23 =>
  ob (arI .i64 (s6.1 + 1)) fun x24 =>
  some (.inl (x24, v23))
 ) else (
  some (.inr s6.2)
 )
noncomputable def zpf (a0 : Gm) (a1 : PRaw) (s27 : (Int × (List Int))) : Option ((Int × (List Int)) ⊕ List Int) :=
 bif (decide (s27.1 < (a0.kinds.length : Int))) then (
  bif (decide (s27.1 < 2)) then (
   ob ((
    ob (idx a0.kinds s27.1) fun x33 =>
    bif x33.keep then (
     ob (arI .i64 (0 + s27.1)) fun x35 =>
     ob (idx [a1.h0, a1.h1, a1.h2, a1.h3] x35) fun x36 =>
     ob (remI (x36.toNat : Int) 3) fun x37 =>
     ob (idx s27.2 s27.1) fun x38 =>
     ob (arI .i64 (0 + s27.1)) fun x39 =>
     ob (idx [a1.h0, a1.h1, a1.h2, a1.h3] x39) fun x40 =>
     bif (decide (250 < (x40.toNat : Int))) then (
      ob (idx (s27.2.set (s27.1 : Int).toNat x37) s27.1) fun x42 =>
      some ((s27.2.set (s27.1 : Int).toNat x37).set (s27.1 : Int).toNat 8)
     ) else (
      some (s27.2.set (s27.1 : Int).toNat x37)
     )
    ) else (
     some s27.2
    )
    : Option (List Int))) fun v43 =>
   ob (arI .i64 (s27.1 + 1)) fun x44 =>
   some (.inl (x44, v43))
  ) else (
   some (.inr s27.2)
  )
 ) else (
  some (.inr s27.2)
 )
noncomputable def zof (a0 : Gm) (a1 : PRaw) (s47 : (Int × (List Int))) : Option ((Int × (List Int)) ⊕ List Int) :=
 bif (decide (s47.1 < (a0.kinds.length : Int))) then (
  bif (decide (s47.1 < 2)) then (
   ob ((
    ob (idx a0.kinds s47.1) fun x53 =>
    bif x53.keep then (
     ob (arI .i64 (2 + s47.1)) fun x55 =>
     ob (idx [a1.h0, a1.h1, a1.h2, a1.h3] x55) fun x56 =>
     ob (remI (x56.toNat : Int) 3) fun x57 =>
     ob (idx s47.2 s47.1) fun x58 =>
     ob (arI .i64 (2 + s47.1)) fun x59 =>
     ob (idx [a1.h0, a1.h1, a1.h2, a1.h3] x59) fun x60 =>
     bif (decide (250 < (x60.toNat : Int))) then (
      ob (idx (s47.2.set (s47.1 : Int).toNat x57) s47.1) fun x62 =>
      some ((s47.2.set (s47.1 : Int).toNat x57).set (s47.1 : Int).toNat 8)
     ) else (
      some (s47.2.set (s47.1 : Int).toNat x57)
     )
    ) else (
     some s47.2
    )
    : Option (List Int))) fun v63 =>
   ob (arI .i64 (s47.1 + 1)) fun x64 =>
   some (.inl (x64, v63))
  ) else (
   some (.inr s47.2)
  )
 ) else (
  some (.inr s47.2)
 )
noncomputable def zvd (a0 : Gm) (a1 : PRaw) : Option Ps :=
 ob (lenI a0.board.cells) fun n1 =>
 ob (shlI .i64 1 a0.rights) fun x2 =>
 ob (remI (a1.rights.toNat : Int) x2) fun x3 =>
 ob (remI (a1.side.toNat : Int) 2) fun x4 =>
 ob (arI .i64 x4) fun x5 =>
 ob ((
  loopO (zle a0 a1) (0, (List.replicate n1 (0 : Int)))
  : Option (List Int))) fun v25 =>
 ob ((
  ob ((
   ob (lenI (a0.kinds.length : Int)) fun n26 =>
   loopO (zpf a0 a1) (0, (List.replicate n26 (0 : Int)))
   : Option (List Int))) fun v45 =>
  ob ((
   ob (lenI (a0.kinds.length : Int)) fun n46 =>
   loopO (zof a0 a1) (0, (List.replicate n46 (0 : Int)))
   : Option (List Int))) fun v65 =>
  some (v45, v65)
  : Option ((List Int) × (List Int)))) fun v66 =>
 some (⟨v25, v66.1, v66.2, x3, x5⟩ : Ps)
set_option maxHeartbeats 4000000 in
theorem z8g {a0 : Gm} {a1 : PRaw} {r : Ps} (h : zvd a0 a1 = some r) : zg Tryd.prog HG 23 [.agg 9 (Gm.row a0), .agg 18 (PRaw.row a1)] (.agg 5 (Ps.row r)) := by
 unfold zvd at h
 refine zg.of Tryd.func23 rfl Tryd.ntmps23 (by simp) ?_
 intro F hF h0 hT
 show Sm F _ _ ⟨[(0, .d (.agg 9 (Gm.row a0))), (1, .d (.agg 18 (PRaw.row a1)))], [], 0⟩
 refine sr hF ?_
 refine SmG.boxP hF boxA ?_
 refine SmG.boxP hF boxA ?_
 refine SmG.new hF rfl rfl rfl (zx rfl al33) ?_
 refine sn ?_
 refine Sm.seq ?_
 refine Sm.drawG hF (by kernel_rfl) rfl 17 (by kernel_rfl) (by kernel_rfl) ?_
 simp only [List.take_succ_cons, List.take_zero, List.take_nil]
 refine hv hF (oF (ze z4j rfl)) ?_
 refine hv hF (oF (ze z9h rfl)) ?_
 refine hv hF (oL (lP1 ag3 rfl)) ?_
 obtain ⟨n1, hn1, h⟩ := za h
 refine Head.makeL hF el30 rfl rfl (z0 := (0 : Int)) (row := (rInt .i64)) rfl rfl rfl rfl rfl rfl hn1 rfl ?_
 refine hv hF (oF (ze zyw rfl)) ?_
 refine hv hF (oL (lP1 ag5 rfl)) ?_
 refine hv hF (oC (zbd u5 u3 (z4c _))) ?_
 refine hv hF (oF (ze zmp rfl)) ?_
 refine hv hF (oL (lP1 ag3 rfl)) ?_
 obtain ⟨x2, hx2, h⟩ := za h
 refine hv hF (oB (znx hx2)) ?_
 obtain ⟨x3, hx3, h⟩ := za h
 refine hv hF (oB (zsb hx3)) ?_
 refine hv hF (oF (ze zrx rfl)) ?_
 refine hv hF (oL (lP1 ag5 rfl)) ?_
 obtain ⟨x4, hx4, h⟩ := za h
 refine hv hF (oB (zsb hx4)) ?_
 obtain ⟨x5, hx5, h⟩ := za h
 refine hv hF (oC (z8f u5 u3 hx5)) ?_
 refine hv hF (x := .mix false 1 ((List.replicate n1 (0 : Int)).map (rInt .i64)).length [.list 0 [] true, .list 0 [] true, .v (.int .i64 x3), .v (.int .i64 x5)]) (zz rfl u33 (by kernel_rfl) rfl (zjs (cs := [.list 0 [] true, .list 0 [] true, .list 0 [] true, .v (.int .i64 x3), .v (.int .i64 x5)]) ze33 pl33 rfl (by decide) rfl rfl)) ?_
 refine Head.new hF rfl rfl rfl rfl al33 ?_
 refine Head.last ⟨rfl, ?_⟩
 simp only [List.drop_succ_cons, List.drop_zero, List.drop_nil, List.nil_append, List.cons_append]
 refine SmG.store hF rfl rfl rfl rfl rfl (zy (ys := [.sref 1 0 ((List.replicate n1 (0 : Int)).map (rInt .i64)).length, .d (.list 0 [] true), .d (.list 0 [] true), .d (.v (.int .i64 x3)), .d (.v (.int .i64 x5))]) (r := [.d (.list 0 [] true), .d (.list 0 [] true), .d (.list 0 [] true), .d (.v (.int .i64 0)), .d (.v (.int .i64 0))]) (rows' := [[.sref 1 0 ((List.replicate n1 (0 : Int)).map (rInt .i64)).length, .d (.list 0 [] true), .d (.list 0 [] true), .d (.v (.int .i64 x3)), .d (.v (.int .i64 x5))]]) rfl rfl rfl sz33 rfl rfl rfl rfl rfl) ?_
 refine sn ?_
 refine Sm.seq ?_
 obtain ⟨v25, hv25, h⟩ := za h
 refine Sm.joinTU ⟨[(2, .d (.ptr 9 (Gm.row a0))), (3, .d (.ptr 18 (PRaw.row a1))), (4, .ref 0 0 0), (5, .ref 2 0 0)], [(2, ⟨5, [[.sref 1 0 (v25.map (rInt .i64)).length, .d (.list 0 [] true), .d (.list 0 [] true), .d (.v (.int .i64 x3)), .d (.v (.int .i64 x5))]]⟩), (1, dB 1 (v25.map (rInt .i64))), (0, ⟨5, [[.d (.list 0 [] true), .d (.list 0 [] true), .d (.list 0 [] true), .d (.v (.int .i64 0)), .d (.v (.int .i64 0))]]⟩)], 3⟩ ?_ ?_
 ·replace h := hv25
  refine sr hF ?_
  refine gv hF oA ?_
  refine sn ?_
  refine Sm.block ?_
  refine Sm.loopT (zle a0 a1) (fun s6 => ⟨[(2, .d (.ptr 9 (Gm.row a0))), (3, .d (.ptr 18 (PRaw.row a1))), (4, .ref 0 0 0), (5, .ref 2 0 0), (6, .d (.v (.int .i64 s6.1)))], [(2, ⟨5, [[.sref 1 0 (s6.2.map (rInt .i64)).length, .d (.list 0 [] true), .d (.list 0 [] true), .d (.v (.int .i64 x3)), .d (.v (.int .i64 x5))]]⟩), (1, dB 1 (s6.2.map (rInt .i64))), (0, ⟨5, [[.d (.list 0 [] true), .d (.list 0 [] true), .d (.list 0 [] true), .d (.v (.int .i64 0)), .d (.v (.int .i64 0))]]⟩)], 3⟩) (0, (List.replicate n1 (0 : Int))) h (toK ⟨rfl, rfl, rfl, rfl, rfl, trivial⟩ ⟨rfl, rfl, rfl, trivial⟩) ?_
  intro n7 s6 o8 h hd9
  unfold zle at h
  refine Sm.seq ?_
  refine sr hF ?_
  refine gv hF oM ?_
  refine gv hF (oB (c_lss)) ?_
  refine sn ?_
  refine Sm.condU hF rfl (fun hc10 => ?_) (fun hc10 => ?_)
  ·replace h := ifF hc10 h
   refine Sm.exit ?_
   replace h := zw h hd9
   obtain rfl := zb h
   exact (toK ⟨rfl, rfl, rfl, rfl, trivial⟩ ⟨rfl, rfl, rfl, trivial⟩)
  replace h := ifT hc10 h
  refine sk ?_
  refine Sm.seq ?_
  obtain ⟨v23, hv23, h⟩ := za h
  refine Sm.joinT ⟨[(2, .d (.ptr 9 (Gm.row a0))), (3, .d (.ptr 18 (PRaw.row a1))), (4, .ref 0 0 0), (5, .ref 2 0 0), (6, .d (.v (.int .i64 s6.1)))], [(2, ⟨5, [[.sref 1 0 (v23.map (rInt .i64)).length, .d (.list 0 [] true), .d (.list 0 [] true), .d (.v (.int .i64 x3)), .d (.v (.int .i64 x5))]]⟩), (1, dB 1 (v23.map (rInt .i64))), (0, ⟨5, [[.d (.list 0 [] true), .d (.list 0 [] true), .d (.list 0 [] true), .d (.v (.int .i64 0)), .d (.v (.int .i64 0))]]⟩)], 3⟩ ?_ ?_
  ·refine Sm.regionG hF rfl ?_
   refine gv hF oM ?_
   obtain ⟨x24, hx24, h⟩ := za h
   refine gv hF (oB (z7 hx24)) ?_
   refine gv hF oA ?_
   refine SmG.nil ?_
   exact ztb (zhb h hd9) (toK ⟨rfl, rfl, rfl, rfl, rfl, trivial⟩ ⟨rfl, rfl, rfl, trivial⟩)
  replace h := hv23
  refine Sm.block ?_
  refine Sm.seq ?_
  refine Sm.drawG hF (by kernel_rfl) rfl 9 (by kernel_rfl) (by kernel_rfl) ?_
  simp only [List.take_succ_cons, List.take_zero, List.take_nil]
  refine hv hF oM ?_
  refine hv hF (oF (ze zqx rfl)) ?_
  obtain ⟨x11, hx11, h⟩ := za h
  refine Head.v hF rfl rfl rfl (zm rfl rfl rfl (zok Tryd.underlying27 sz5 (z0j hx11) rfl)) ?_
  refine hv hF (oL (z6j (xs := [a1.c0, a1.c1, a1.c2, a1.c3, a1.c4, a1.c5]) (f := (fun x : UInt8 => (.v (.int .u8 (x.toNat : Int)) : D))) (rest := [.v (.int .u8 (a1.k0.toNat : Int)), .v (.int .u8 (a1.k1.toNat : Int)), .v (.int .u8 (a1.k2.toNat : Int)), .v (.int .u8 (a1.k3.toNat : Int)), .v (.int .u8 (a1.k4.toNat : Int)), .v (.int .u8 (a1.k5.toNat : Int)), .v (.int .u8 (a1.h0.toNat : Int)), .v (.int .u8 (a1.h1.toNat : Int)), .v (.int .u8 (a1.h2.toNat : Int)), .v (.int .u8 (a1.h3.toNat : Int)), .v (.int .u8 (a1.rights.toNat : Int)), .v (.int .u8 (a1.side.toNat : Int))]) ag5 rfl hx11)) ?_
  refine hv hF (oC (zbd u5 u3 (z4c _))) ?_
  refine hv hF (oF (ze z4j rfl)) ?_
  refine hv hF (oF (ze z9h rfl)) ?_
  refine hv hF (oL (lP1 ag3 rfl)) ?_
  obtain ⟨x12, hx12, h⟩ := za h
  refine hv hF (oB (z7 hx12)) ?_
  refine Head.last ⟨rfl, ?_⟩
  simp only [List.drop_succ_cons, List.drop_zero, List.drop_nil, List.nil_append, List.cons_append]
  obtain ⟨x13, hx13, h⟩ := za h
  refine gv hF (oB (zsb hx13)) ?_
  refine gv hF oA ?_
  refine sn ?_
  refine sr hF ?_
  refine gv hF oM ?_
  refine gv hF (oF (ze z4j rfl)) ?_
  refine gv hF (oF (ze z9h rfl)) ?_
  refine gv hF (oL (lP1 ag3 rfl)) ?_
  refine gv hF (oB (c_lss)) ?_
  rcases zzb (decide (x13 < a0.board.cells)) with hc14 | hc14
  ·replace h := ifF hc14 h
   refine gv hF (zj rfl rfl hc14) ?_
   refine gp hF ?_
   refine gp hF ?_
   refine gp hF ?_
   refine gp hF ?_
   refine gv hF (zf rfl rfl rfl) ?_
   refine sn ?_
   refine Sm.condF hF rfl ?_
   refine Sm.skip ?_
   refine zk ?_
   obtain rfl := zb h
   exact (toK ⟨rfl, rfl, rfl, rfl, rfl, trivial⟩ ⟨rfl, rfl, rfl, trivial⟩)
  replace h := ifT hc14 h
  refine gv hF (zj rfl rfl hc14) ?_
  refine gv hF (oF (ze z1f rfl)) ?_
  refine gv hF (oL (lP1 ag74 rfl)) ?_
  refine gv hF (oN (lenQD u74)) ?_
  refine gv hF (oB (c_gtr)) ?_
  refine gv hF (zu rfl rfl rfl) ?_
  refine sn ?_
  refine Sm.condU hF rfl (fun hc15 => ?_) (fun hc15 => ?_)
  ·replace h := ifF hc15 h
   refine Sm.skip ?_
   refine zk ?_
   obtain rfl := zb h
   exact (toK ⟨rfl, rfl, rfl, rfl, rfl, trivial⟩ ⟨rfl, rfl, rfl, trivial⟩)
  replace h := ifT hc15 h
  refine Sm.drawG hF (by kernel_rfl) rfl 17 (by kernel_rfl) (by kernel_rfl) ?_
  simp only [List.take_succ_cons, List.take_zero, List.take_nil]
  refine hv hF (oF (zq zci)) ?_
  refine hv hF (oL (z4b rfl rfl ag30 rfl)) ?_
  refine hv hF oM ?_
  refine hv hF oM ?_
  refine hv hF (oF (ze zxw rfl)) ?_
  obtain ⟨x16, hx16, h⟩ := za h
  refine Head.v hF rfl rfl rfl (zm rfl rfl rfl (zok Tryd.underlying27 sz5 (z0j hx16) rfl)) ?_
  refine hv hF (oL (z6j (xs := [a1.k0, a1.k1, a1.k2, a1.k3, a1.k4, a1.k5]) (f := (fun x : UInt8 => (.v (.int .u8 (x.toNat : Int)) : D))) (rest := [.v (.int .u8 (a1.h0.toNat : Int)), .v (.int .u8 (a1.h1.toNat : Int)), .v (.int .u8 (a1.h2.toNat : Int)), .v (.int .u8 (a1.h3.toNat : Int)), .v (.int .u8 (a1.rights.toNat : Int)), .v (.int .u8 (a1.side.toNat : Int))]) ag5 rfl hx16)) ?_
  refine hv hF (oC (zbd u5 u3 (z4c _))) ?_
  refine hv hF (oF (ze z1f rfl)) ?_
  refine hv hF (oL (lP1 ag74 rfl)) ?_
  refine hv hF (oN (lenQD u74)) ?_
  obtain ⟨x17, hx17, h⟩ := za h
  refine hv hF (oB (zsb hx17)) ?_
  obtain ⟨x18, hx18, h⟩ := za h
  refine hv hF (oB (zxg hx18)) ?_
  obtain ⟨x19, hx19, h⟩ := za h
  refine hv hF (oB (z7 hx19)) ?_
  refine hv hF oM ?_
  obtain ⟨x20, hx20, h⟩ := za h
  refine hv hF (oB (zsb hx20)) ?_
  obtain ⟨x21, hx21, h⟩ := za h
  refine hv hF (oB (z7 hx21)) ?_
  refine Head.last ⟨rfl, ?_⟩
  simp only [List.drop_succ_cons, List.drop_zero, List.drop_nil, List.nil_append, List.cons_append]
  obtain ⟨x22, hx22, h⟩ := za h
  refine gv hF (oI (idxQO u30 sz3 rfl hx22)) ?_
  refine SmG.store hF rfl rfl rfl rfl rfl (zll (x' := x21) (ys := [.v (.int .i64 x21)]) rfl hx22 rfl sz3 rfl rfl rfl rfl rfl) ?_
  refine SmG.toX (St.to_weak (env' := [(2, .d (.ptr 9 (Gm.row a0))), (3, .d (.ptr 18 (PRaw.row a1))), (4, .ref 0 0 0), (5, .ref 2 0 0), (6, .d (.v (.int .i64 s6.1))), (46, .d (.ptr 6 [.list 3 (a0.kinds.map Knd.row) false, .v (.int .i64 a0.rights), .v (.bool a0.must), .list 4 (a0.clauses.map Cls.row) false, .v (.int .i64 a0.blocked), .v (.int .i64 a0.endless)])), (47, .d (.list 3 (a0.kinds.map Knd.row) false)), (48, .d (.v (.int .i64 (a0.kinds.length : Int)))), (49, .d (.v (.bool (decide (0 < (a0.kinds.length : Int)))))), (67, .d (.v (.int .i64 x21)))]) (h' := [(2, ⟨5, [[.sref 1 0 ((s6.2.set (x13 : Int).toNat x21).map (rInt .i64)).length, .d (.list 0 [] true), .d (.list 0 [] true), .d (.v (.int .i64 x3)), .d (.v (.int .i64 x5))]]⟩), (1, dB 1 ((s6.2.set (x13 : Int).toNat x21).map (rInt .i64))), (0, ⟨5, [[.d (.list 0 [] true), .d (.list 0 [] true), .d (.list 0 [] true), .d (.v (.int .i64 0)), .d (.v (.int .i64 0))]]⟩)]) (nx' := 3) ⟨⟨_, rfl, V.le.refl _⟩, ⟨_, rfl, V.le.refl _⟩, ⟨_, rfl, V.le.refl _⟩, ⟨_, rfl, V.le.refl _⟩, ⟨_, rfl, V.le.refl _⟩, ⟨_, rfl, V.le.refl _⟩, ⟨_, rfl, V.le.refl _⟩, ⟨_, rfl, V.le.refl _⟩, ⟨_, rfl, V.le.refl _⟩, ⟨_, rfl, V.le.refl _⟩, trivial⟩ ⟨⟨_, rfl, BlkR.row (.cons (V.le.len (by simp only [List.length_map, List.length_set])) (.cons (V.le.refl _) (.cons (V.le.refl _) (.cons (V.le.refl _) (.cons (V.le.refl _) .nil)))))⟩, ⟨_, rfl, BlkR.refl _⟩, ⟨_, rfl, BlkR.refl _⟩, trivial⟩ (Nat.le_of_ble_eq_true rfl)) rfl ?_
  refine SmG.nil ?_
  refine zk ?_
  obtain rfl := zb h
  exact (toK ⟨rfl, rfl, rfl, rfl, rfl, trivial⟩ ⟨rfl, rfl, rfl, trivial⟩)
 refine Sm.seq ?_
 obtain ⟨v66, hv66, h⟩ := za h
 refine Sm.joinT ⟨[(4, .ref 0 0 0), (5, .ref 2 0 0)], [(4, dB 1 (v66.2.map (rInt .i64))), (3, dB 1 (v66.1.map (rInt .i64))), (2, ⟨5, [[.sref 1 0 (v25.map (rInt .i64)).length, .sref 3 0 (v66.1.map (rInt .i64)).length, .sref 4 0 (v66.2.map (rInt .i64)).length, .d (.v (.int .i64 x3)), .d (.v (.int .i64 x5))]]⟩), (1, dB 1 (v25.map (rInt .i64))), (0, ⟨5, [[.d (.list 0 [] true), .d (.list 0 [] true), .d (.list 0 [] true), .d (.v (.int .i64 0)), .d (.v (.int .i64 0))]]⟩)], 5⟩ ?_ ?_
 ·refine Sm.seq ?_
  refine Sm.regionG hF rfl ?_
  refine SmG.toX (St.to_trans (toK (e := [(4, .ref 0 0 0), (5, .ref 2 0 0)]) (g := [(4, dB 1 (v66.2.map (rInt .i64))), (3, dB 1 (v66.1.map (rInt .i64))), (2, ⟨5, [[.sref 1 0 (v25.map (rInt .i64)).length, .sref 3 0 (v66.1.map (rInt .i64)).length, .sref 4 0 (v66.2.map (rInt .i64)).length, .d (.v (.int .i64 x3)), .d (.v (.int .i64 x5))]]⟩), (1, dB 1 (v25.map (rInt .i64))), (0, ⟨5, [[.d (.list 0 [] true), .d (.list 0 [] true), .d (.list 0 [] true), .d (.v (.int .i64 0)), .d (.v (.int .i64 0))]]⟩)]) (m := 5) ⟨rfl, rfl, trivial⟩ ⟨rfl, rfl, rfl, rfl, rfl, trivial⟩) (St.to_trans (St.to_frz (l := 1) (sz := 1) (env' := [(4, .ref 0 0 0), (5, .ref 2 0 0)]) (h' := [(4, dB 1 (v66.2.map (rInt .i64))), (3, dB 1 (v66.1.map (rInt .i64))), (2, ⟨5, [[.d (.list 1 (v25.map (rInt .i64)) false), .sref 3 0 (v66.1.map (rInt .i64)).length, .sref 4 0 (v66.2.map (rInt .i64)).length, .d (.v (.int .i64 x3)), .d (.v (.int .i64 x5))]]⟩), (0, ⟨5, [[.d (.list 0 [] true), .d (.list 0 [] true), .d (.list 0 [] true), .d (.v (.int .i64 0)), .d (.v (.int .i64 0))]]⟩)]) (nx := 5) (v25.map (rInt .i64)) rfl ⟨⟨_, rfl, rfl⟩, ⟨_, rfl, rfl⟩, trivial⟩ ⟨⟨rfl, _, rfl, zpg⟩, ⟨rfl, _, rfl, zpg⟩, ⟨rfl, _, rfl, zfb (.cons zjc (.cons rfl (.cons rfl (.cons rfl (.cons rfl .nil)))))⟩, ⟨rfl, _, rfl, zfb (.cons rfl (.cons rfl (.cons rfl (.cons rfl (.cons rfl .nil)))))⟩, trivial⟩) (St.to_trans (St.to_frz (l := 3) (sz := 1) (env' := [(4, .ref 0 0 0), (5, .ref 2 0 0)]) (h' := [(4, dB 1 (v66.2.map (rInt .i64))), (2, ⟨5, [[.d (.list 1 (v25.map (rInt .i64)) false), .d (.list 1 (v66.1.map (rInt .i64)) false), .sref 4 0 (v66.2.map (rInt .i64)).length, .d (.v (.int .i64 x3)), .d (.v (.int .i64 x5))]]⟩), (0, ⟨5, [[.d (.list 0 [] true), .d (.list 0 [] true), .d (.list 0 [] true), .d (.v (.int .i64 0)), .d (.v (.int .i64 0))]]⟩)]) (nx := 5) (v66.1.map (rInt .i64)) rfl ⟨⟨_, rfl, rfl⟩, ⟨_, rfl, rfl⟩, trivial⟩ ⟨⟨rfl, _, rfl, zpg⟩, ⟨rfl, _, rfl, zfb (.cons rfl (.cons zjc (.cons rfl (.cons rfl (.cons rfl .nil)))))⟩, ⟨rfl, _, rfl, zfb (.cons rfl (.cons rfl (.cons rfl (.cons rfl (.cons rfl .nil)))))⟩, trivial⟩) (St.to_frz (l := 4) (sz := 1) (env' := [(4, .ref 0 0 0), (5, .ref 2 0 0)]) (h' := [(2, ⟨5, [[.d (.list 1 (v25.map (rInt .i64)) false), .d (.list 1 (v66.1.map (rInt .i64)) false), .d (.list 1 (v66.2.map (rInt .i64)) false), .d (.v (.int .i64 x3)), .d (.v (.int .i64 x5))]]⟩), (0, ⟨5, [[.d (.list 0 [] true), .d (.list 0 [] true), .d (.list 0 [] true), .d (.v (.int .i64 0)), .d (.v (.int .i64 0))]]⟩)]) (nx := 5) (v66.2.map (rInt .i64)) rfl ⟨⟨_, rfl, rfl⟩, ⟨_, rfl, rfl⟩, trivial⟩ ⟨⟨rfl, _, rfl, zfb (.cons rfl (.cons rfl (.cons zjc (.cons rfl (.cons rfl .nil)))))⟩, ⟨rfl, _, rfl, zfb (.cons rfl (.cons rfl (.cons rfl (.cons rfl (.cons rfl .nil)))))⟩, trivial⟩)))) rfl ?_
  refine gv hF (x := .d (.agg 5 [.list 1 (v25.map (rInt .i64)) false, .list 1 (v66.1.map (rInt .i64)) false, .list 1 (v66.2.map (rInt .i64)) false, .v (.int .i64 x3), .v (.int .i64 x5)])) (oL (zn rfl rfl ag33 sz33 rfl rfl)) ?_
  refine SmG.store hF rfl rfl rfl rfl rfl (zy (ys := [.d (.list 1 (v25.map (rInt .i64)) false), .d (.list 1 (v66.1.map (rInt .i64)) false), .d (.list 1 (v66.2.map (rInt .i64)) false), .d (.v (.int .i64 x3)), .d (.v (.int .i64 x5))]) (r := [.d (.list 0 [] true), .d (.list 0 [] true), .d (.list 0 [] true), .d (.v (.int .i64 0)), .d (.v (.int .i64 0))]) (rows' := [[.d (.list 1 (v25.map (rInt .i64)) false), .d (.list 1 (v66.1.map (rInt .i64)) false), .d (.list 1 (v66.2.map (rInt .i64)) false), .d (.v (.int .i64 x3)), .d (.v (.int .i64 x5))]]) rfl rfl rfl sz33 rfl rfl rfl rfl rfl) ?_
  refine sn ?_
  refine Sm.ret ?_
  obtain rfl := zb h
  exact zcd (RetR.cons (RetO.cell rfl (zn (ds := [.list 1 (v25.map (rInt .i64)) false, .list 1 (v66.1.map (rInt .i64)) false, .list 1 (v66.2.map (rInt .i64)) false, .v (.int .i64 x3), .v (.int .i64 x5)]) rfl rfl ag33 sz33 rfl rfl)) (RetR.nil)) (D.le.refl _)
 replace h := hv66
 refine sr hF ?_
 refine gv hF oA ?_
 refine sn ?_
 refine Sm.block ?_
 refine Sm.rounds 60 ?_
 refine zrh ?_
 refine Sm.seq ?_
 refine sr hF ?_
 refine gv hF oM ?_
 refine gv hF (oB (zdd _ _ _ _ _ (by decide : (0 : Int) < 2))) ?_
 refine sn ?_
 refine Sm.condT hF rfl ?_
 refine sk ?_
 refine Sm.seq ?_
 obtain ⟨v45, hv45, h⟩ := za h
 refine Sm.joinTU ⟨[(2, .d (.ptr 9 (Gm.row a0))), (3, .d (.ptr 18 (PRaw.row a1))), (4, .ref 0 0 0), (5, .ref 2 0 0), (8, .d (.v (.int .i64 0)))], [(3, dB 1 (v45.map (rInt .i64))), (2, ⟨5, [[.sref 1 0 (v25.map (rInt .i64)).length, .sref 3 0 (v45.map (rInt .i64)).length, .d (.list 0 [] true), .d (.v (.int .i64 x3)), .d (.v (.int .i64 x5))]]⟩), (1, dB 1 (v25.map (rInt .i64))), (0, ⟨5, [[.d (.list 0 [] true), .d (.list 0 [] true), .d (.list 0 [] true), .d (.v (.int .i64 0)), .d (.v (.int .i64 0))]]⟩)], 4⟩ ?_ ?_
 ·replace h := hv45
  refine Sm.block ?_
  refine sr hF ?_
  refine gv hF oM ?_
  refine gv hF (oF (ze z1f rfl)) ?_
  refine gv hF (oL (lP1 ag74 rfl)) ?_
  refine gv hF (oN (lenQD u74)) ?_
  obtain ⟨n26, hn26, h⟩ := za h
  refine SmG.makeL hF el30 rfl rfl (z0 := (0 : Int)) (row := (rInt .i64)) rfl rfl rfl rfl rfl rfl hn26 rfl ?_
  refine gv hF (oF (zq zmd)) ?_
  refine gv hF (oI (idxAR u31 sz30 rfl)) ?_
  refine SmG.store hF rfl rfl rfl rfl rfl (zmc (rows' := [[.sref 1 0 (v25.map (rInt .i64)).length, .sref 3 0 ((List.replicate n26 (0 : Int)).map (rInt .i64)).length, .d (.list 0 [] true), .d (.v (.int .i64 x3)), .d (.v (.int .i64 x5))]]) rfl rfl rfl sz30 rfl rfl rfl) ?_
  refine sn ?_
  refine sr hF ?_
  refine gv hF oA ?_
  refine sn ?_
  refine Sm.block ?_
  refine Sm.loopT (zpf a0 a1) (fun s27 => ⟨[(2, .d (.ptr 9 (Gm.row a0))), (3, .d (.ptr 18 (PRaw.row a1))), (4, .ref 0 0 0), (5, .ref 2 0 0), (8, .d (.v (.int .i64 0))), (9, .d (.v (.int .i64 s27.1)))], [(3, dB 1 (s27.2.map (rInt .i64))), (2, ⟨5, [[.sref 1 0 (v25.map (rInt .i64)).length, .sref 3 0 (s27.2.map (rInt .i64)).length, .d (.list 0 [] true), .d (.v (.int .i64 x3)), .d (.v (.int .i64 x5))]]⟩), (1, dB 1 (v25.map (rInt .i64))), (0, ⟨5, [[.d (.list 0 [] true), .d (.list 0 [] true), .d (.list 0 [] true), .d (.v (.int .i64 0)), .d (.v (.int .i64 0))]]⟩)], 4⟩) (0, (List.replicate n26 (0 : Int))) h (toK ⟨rfl, rfl, rfl, rfl, rfl, rfl, trivial⟩ ⟨rfl, rfl, rfl, rfl, trivial⟩) ?_
  intro n28 s27 o29 h hd30
  unfold zpf at h
  refine Sm.seq ?_
  refine sr hF ?_
  refine gv hF oM ?_
  refine gv hF (oF (ze z1f rfl)) ?_
  refine gv hF (oL (lP1 ag74 rfl)) ?_
  refine gv hF (oN (lenQD u74)) ?_
  refine gv hF (oB (c_lss)) ?_
  rcases zzb (decide (s27.1 < (a0.kinds.length : Int))) with hc31 | hc31
  ·replace h := ifF hc31 h
   refine gv hF (zj rfl rfl hc31) ?_
   refine gp hF ?_
   refine gp hF ?_
   refine gv hF (zf rfl rfl rfl) ?_
   refine sn ?_
   refine Sm.condF hF rfl ?_
   refine Sm.exit ?_
   replace h := zw h hd30
   obtain rfl := zb h
   exact (toK ⟨rfl, rfl, rfl, rfl, rfl, trivial⟩ ⟨rfl, rfl, rfl, rfl, trivial⟩)
  replace h := ifT hc31 h
  refine gv hF (zj rfl rfl hc31) ?_
  refine gv hF oM ?_
  refine gv hF (oB (c_lss)) ?_
  refine gv hF (zu rfl rfl rfl) ?_
  refine sn ?_
  refine Sm.condU hF rfl (fun hc32 => ?_) (fun hc32 => ?_)
  ·replace h := ifF hc32 h
   refine Sm.exit ?_
   replace h := zw h hd30
   obtain rfl := zb h
   exact (toK ⟨rfl, rfl, rfl, rfl, rfl, trivial⟩ ⟨rfl, rfl, rfl, rfl, trivial⟩)
  replace h := ifT hc32 h
  refine sk ?_
  refine Sm.seq ?_
  obtain ⟨v43, hv43, h⟩ := za h
  refine Sm.joinT ⟨[(2, .d (.ptr 9 (Gm.row a0))), (3, .d (.ptr 18 (PRaw.row a1))), (4, .ref 0 0 0), (5, .ref 2 0 0), (8, .d (.v (.int .i64 0))), (9, .d (.v (.int .i64 s27.1))), (86, .d (.v (.int .i64 s27.1))), (87, .d (.v (.bool (decide (s27.1 < 2)))))], [(3, dB 1 (v43.map (rInt .i64))), (2, ⟨5, [[.sref 1 0 (v25.map (rInt .i64)).length, .sref 3 0 (v43.map (rInt .i64)).length, .d (.list 0 [] true), .d (.v (.int .i64 x3)), .d (.v (.int .i64 x5))]]⟩), (1, dB 1 (v25.map (rInt .i64))), (0, ⟨5, [[.d (.list 0 [] true), .d (.list 0 [] true), .d (.list 0 [] true), .d (.v (.int .i64 0)), .d (.v (.int .i64 0))]]⟩)], 4⟩ ?_ ?_
  ·refine Sm.regionG hF rfl ?_
   refine gv hF oM ?_
   obtain ⟨x44, hx44, h⟩ := za h
   refine gv hF (oB (z7 hx44)) ?_
   refine gv hF oA ?_
   refine SmG.nil ?_
   exact ztb (zhb h hd30) (toK ⟨rfl, rfl, rfl, rfl, rfl, rfl, trivial⟩ ⟨rfl, rfl, rfl, rfl, trivial⟩)
  replace h := hv43
  refine Sm.block ?_
  refine sr hF ?_
  refine gv hF (oF (ze z1f rfl)) ?_
  refine gv hF (oL (lP1 ag74 rfl)) ?_
  refine gv hF oM ?_
  obtain ⟨x33, hx33, h⟩ := za h
  refine gv hF (oI (idxQD u74 sz111 hx33)) ?_
  refine gv hF (oF (ze zyr rfl)) ?_
  refine gv hF (oL (lP1 ag4 rfl)) ?_
  refine sn ?_
  refine Sm.condU hF rfl (fun hc34 => ?_) (fun hc34 => ?_)
  ·replace h := ifF hc34 h
   refine Sm.skip ?_
   refine zk ?_
   obtain rfl := zb h
   exact (toK ⟨rfl, rfl, rfl, rfl, rfl, rfl, rfl, rfl, trivial⟩ ⟨rfl, rfl, rfl, rfl, trivial⟩)
  replace h := ifT hc34 h
  refine Sm.seq ?_
  refine Sm.drawG hF (by kernel_rfl) rfl 14 (by kernel_rfl) (by kernel_rfl) ?_
  simp only [List.take_succ_cons, List.take_zero, List.take_nil]
  refine hv hF oM ?_
  refine hv hF (oF (zq zmd)) ?_
  refine hv hF (oI (idxAR u31 sz30 rfl)) ?_
  refine hv hF (oL (z4b rfl rfl ag30 rfl)) ?_
  refine hv hF oM ?_
  refine hv hF oM ?_
  refine hv hF (oB (zxg (v := 0) rfl)) ?_
  refine hv hF oM ?_
  obtain ⟨x35, hx35, h⟩ := za h
  refine hv hF (oB (z7 hx35)) ?_
  refine hv hF (oF (ze zon rfl)) ?_
  obtain ⟨x36, hx36, h⟩ := za h
  refine Head.v hF rfl rfl rfl (zm rfl rfl rfl (zok Tryd.underlying59 sz5 (z0j hx36) rfl)) ?_
  refine hv hF (oL (z6j (xs := [a1.h0, a1.h1, a1.h2, a1.h3]) (f := (fun x : UInt8 => (.v (.int .u8 (x.toNat : Int)) : D))) (rest := [.v (.int .u8 (a1.rights.toNat : Int)), .v (.int .u8 (a1.side.toNat : Int))]) ag5 rfl hx36)) ?_
  refine hv hF (oC (zbd u5 u3 (z4c _))) ?_
  obtain ⟨x37, hx37, h⟩ := za h
  refine hv hF (oB (zsb hx37)) ?_
  refine Head.last ⟨rfl, ?_⟩
  simp only [List.drop_succ_cons, List.drop_zero, List.drop_nil, List.nil_append, List.cons_append]
  obtain ⟨x38, hx38, h⟩ := za h
  refine gv hF (oI (idxQO u30 sz3 rfl hx38)) ?_
  refine SmG.store hF rfl rfl rfl rfl rfl (zll (x' := x37) (ys := [.v (.int .i64 x37)]) rfl hx38 rfl sz3 rfl rfl rfl rfl rfl) ?_
  refine SmG.toX (St.to_weak (env' := [(2, .d (.ptr 9 (Gm.row a0))), (3, .d (.ptr 18 (PRaw.row a1))), (4, .ref 0 0 0), (5, .ref 2 0 0), (8, .d (.v (.int .i64 0))), (9, .d (.v (.int .i64 s27.1))), (86, .d (.v (.int .i64 s27.1))), (87, .d (.v (.bool (decide (s27.1 < 2))))), (110, .d (.v (.int .i64 x37)))]) (h' := [(3, dB 1 ((s27.2.set (s27.1 : Int).toNat x37).map (rInt .i64))), (2, ⟨5, [[.sref 1 0 (v25.map (rInt .i64)).length, .sref 3 0 ((s27.2.set (s27.1 : Int).toNat x37).map (rInt .i64)).length, .d (.list 0 [] true), .d (.v (.int .i64 x3)), .d (.v (.int .i64 x5))]]⟩), (1, dB 1 (v25.map (rInt .i64))), (0, ⟨5, [[.d (.list 0 [] true), .d (.list 0 [] true), .d (.list 0 [] true), .d (.v (.int .i64 0)), .d (.v (.int .i64 0))]]⟩)]) (nx' := 4) ⟨⟨_, rfl, V.le.refl _⟩, ⟨_, rfl, V.le.refl _⟩, ⟨_, rfl, V.le.refl _⟩, ⟨_, rfl, V.le.refl _⟩, ⟨_, rfl, V.le.refl _⟩, ⟨_, rfl, V.le.refl _⟩, ⟨_, rfl, V.le.refl _⟩, ⟨_, rfl, V.le.refl _⟩, ⟨_, rfl, V.le.refl _⟩, trivial⟩ ⟨⟨_, rfl, BlkR.refl _⟩, ⟨_, rfl, BlkR.row (.cons (V.le.refl _) (.cons (V.le.len (by simp only [List.length_map, List.length_set])) (.cons (V.le.refl _) (.cons (V.le.refl _) (.cons (V.le.refl _) .nil)))))⟩, ⟨_, rfl, BlkR.refl _⟩, ⟨_, rfl, BlkR.refl _⟩, trivial⟩ (Nat.le_of_ble_eq_true rfl)) rfl ?_
  refine sn ?_
  refine sr hF ?_
  refine gv hF oM ?_
  refine gv hF (oB (zxg (v := 0) rfl)) ?_
  refine gv hF oM ?_
  obtain ⟨x39, hx39, h⟩ := za h
  refine gv hF (oB (z7 hx39)) ?_
  refine gv hF (oF (ze zon rfl)) ?_
  obtain ⟨x40, hx40, h⟩ := za h
  refine SmG.v hF rfl rfl rfl (zm rfl rfl rfl (zok Tryd.underlying59 sz5 (z0j hx40) rfl)) ?_
  refine gv hF (oL (z6j (xs := [a1.h0, a1.h1, a1.h2, a1.h3]) (f := (fun x : UInt8 => (.v (.int .u8 (x.toNat : Int)) : D))) (rest := [.v (.int .u8 (a1.rights.toNat : Int)), .v (.int .u8 (a1.side.toNat : Int))]) ag5 rfl hx40)) ?_
  refine gv hF (oB (c_gtr)) ?_
  refine sn ?_
  refine Sm.condU hF rfl (fun hc41 => ?_) (fun hc41 => ?_)
  ·replace h := ifF hc41 h
   refine Sm.skip ?_
   refine zk ?_
   obtain rfl := zb h
   exact (toK ⟨rfl, rfl, rfl, rfl, rfl, rfl, rfl, rfl, trivial⟩ ⟨rfl, rfl, rfl, rfl, trivial⟩)
  replace h := ifT hc41 h
  refine Sm.regionG hF rfl ?_
  refine gv hF oM ?_
  refine gv hF (oF (zq zmd)) ?_
  refine gv hF (oI (idxAR u31 sz30 rfl)) ?_
  refine gv hF (oL (z4b rfl rfl ag30 rfl)) ?_
  refine gv hF oM ?_
  obtain ⟨x42, hx42, h⟩ := za h
  refine gv hF (oI (idxQO u30 sz3 rfl hx42)) ?_
  refine SmG.store hF rfl rfl rfl rfl rfl (zll (x' := 8) (ys := [.v (.int .i64 8)]) rfl hx42 rfl sz3 rfl rfl rfl rfl rfl) ?_
  refine SmG.toX (St.to_weak (env' := [(2, .d (.ptr 9 (Gm.row a0))), (3, .d (.ptr 18 (PRaw.row a1))), (4, .ref 0 0 0), (5, .ref 2 0 0), (8, .d (.v (.int .i64 0))), (9, .d (.v (.int .i64 s27.1))), (86, .d (.v (.int .i64 s27.1))), (87, .d (.v (.bool (decide (s27.1 < 2)))))]) (h' := [(3, dB 1 (((s27.2.set (s27.1 : Int).toNat x37).set (s27.1 : Int).toNat 8).map (rInt .i64))), (2, ⟨5, [[.sref 1 0 (v25.map (rInt .i64)).length, .sref 3 0 (((s27.2.set (s27.1 : Int).toNat x37).set (s27.1 : Int).toNat 8).map (rInt .i64)).length, .d (.list 0 [] true), .d (.v (.int .i64 x3)), .d (.v (.int .i64 x5))]]⟩), (1, dB 1 (v25.map (rInt .i64))), (0, ⟨5, [[.d (.list 0 [] true), .d (.list 0 [] true), .d (.list 0 [] true), .d (.v (.int .i64 0)), .d (.v (.int .i64 0))]]⟩)]) (nx' := 4) ⟨⟨_, rfl, V.le.refl _⟩, ⟨_, rfl, V.le.refl _⟩, ⟨_, rfl, V.le.refl _⟩, ⟨_, rfl, V.le.refl _⟩, ⟨_, rfl, V.le.refl _⟩, ⟨_, rfl, V.le.refl _⟩, ⟨_, rfl, V.le.refl _⟩, ⟨_, rfl, V.le.refl _⟩, trivial⟩ ⟨⟨_, rfl, BlkR.refl _⟩, ⟨_, rfl, BlkR.row (.cons (V.le.refl _) (.cons (V.le.len (by simp only [List.length_map, List.length_set])) (.cons (V.le.refl _) (.cons (V.le.refl _) (.cons (V.le.refl _) .nil)))))⟩, ⟨_, rfl, BlkR.refl _⟩, ⟨_, rfl, BlkR.refl _⟩, trivial⟩ (Nat.le_of_ble_eq_true rfl)) rfl ?_
  refine SmG.nil ?_
  refine zk ?_
  obtain rfl := zb h
  exact (toK ⟨rfl, rfl, rfl, rfl, rfl, rfl, rfl, rfl, trivial⟩ ⟨rfl, rfl, rfl, rfl, trivial⟩)
 refine Sm.regionG hF rfl ?_
 refine gv hF oM ?_
 refine gv hF (oB (z7 (v := 1) rfl)) ?_
 refine gv hF oA ?_
 refine sn ?_
 refine zrh ?_
 refine Sm.seq ?_
 refine sr hF ?_
 refine gv hF oM ?_
 refine gv hF (oB (zdd _ _ _ _ _ (by decide : (1 : Int) < 2))) ?_
 refine sn ?_
 refine Sm.condT hF rfl ?_
 refine sk ?_
 refine Sm.seq ?_
 obtain ⟨v65, hv65, h⟩ := za h
 refine Sm.joinT ⟨[(2, .d (.ptr 9 (Gm.row a0))), (3, .d (.ptr 18 (PRaw.row a1))), (4, .ref 0 0 0), (5, .ref 2 0 0), (8, .d (.v (.int .i64 1)))], [(4, dB 1 (v65.map (rInt .i64))), (3, dB 1 (v45.map (rInt .i64))), (2, ⟨5, [[.sref 1 0 (v25.map (rInt .i64)).length, .sref 3 0 (v45.map (rInt .i64)).length, .sref 4 0 (v65.map (rInt .i64)).length, .d (.v (.int .i64 x3)), .d (.v (.int .i64 x5))]]⟩), (1, dB 1 (v25.map (rInt .i64))), (0, ⟨5, [[.d (.list 0 [] true), .d (.list 0 [] true), .d (.list 0 [] true), .d (.v (.int .i64 0)), .d (.v (.int .i64 0))]]⟩)], 5⟩ ?_ ?_
 ·refine Sm.regionG hF rfl ?_
  refine gv hF oM ?_
  refine gv hF (oB (z7 (v := 2) rfl)) ?_
  refine gv hF oA ?_
  refine sn ?_
  refine zrh ?_
  refine Sm.seq ?_
  refine sr hF ?_
  refine gv hF oM ?_
  refine gv hF (oB (zwd _ _ _ _ _ (by decide : ¬ (2 : Int) < 2))) ?_
  refine sn ?_
  refine Sm.condF hF rfl ?_
  refine Sm.exit ?_
  obtain rfl := zb h
  exact (toK ⟨rfl, rfl, trivial⟩ ⟨rfl, rfl, rfl, rfl, rfl, trivial⟩)
 replace h := hv65
 refine Sm.block ?_
 refine sr hF ?_
 refine gv hF oM ?_
 refine gv hF (oF (ze z1f rfl)) ?_
 refine gv hF (oL (lP1 ag74 rfl)) ?_
 refine gv hF (oN (lenQD u74)) ?_
 obtain ⟨n46, hn46, h⟩ := za h
 refine SmG.makeL hF el30 rfl rfl (z0 := (0 : Int)) (row := (rInt .i64)) rfl rfl rfl rfl rfl rfl hn46 rfl ?_
 refine gv hF (oF (zq zmd)) ?_
 refine gv hF (oI (idxAR u31 sz30 rfl)) ?_
 refine SmG.store hF rfl rfl rfl rfl rfl (zmc (rows' := [[.sref 1 0 (v25.map (rInt .i64)).length, .sref 3 0 (v45.map (rInt .i64)).length, .sref 4 0 ((List.replicate n46 (0 : Int)).map (rInt .i64)).length, .d (.v (.int .i64 x3)), .d (.v (.int .i64 x5))]]) rfl rfl rfl sz30 rfl rfl rfl) ?_
 refine sn ?_
 refine sr hF ?_
 refine gv hF oA ?_
 refine sn ?_
 refine Sm.block ?_
 refine Sm.loopT (zof a0 a1) (fun s47 => ⟨[(2, .d (.ptr 9 (Gm.row a0))), (3, .d (.ptr 18 (PRaw.row a1))), (4, .ref 0 0 0), (5, .ref 2 0 0), (8, .d (.v (.int .i64 1))), (9, .d (.v (.int .i64 s47.1)))], [(4, dB 1 (s47.2.map (rInt .i64))), (3, dB 1 (v45.map (rInt .i64))), (2, ⟨5, [[.sref 1 0 (v25.map (rInt .i64)).length, .sref 3 0 (v45.map (rInt .i64)).length, .sref 4 0 (s47.2.map (rInt .i64)).length, .d (.v (.int .i64 x3)), .d (.v (.int .i64 x5))]]⟩), (1, dB 1 (v25.map (rInt .i64))), (0, ⟨5, [[.d (.list 0 [] true), .d (.list 0 [] true), .d (.list 0 [] true), .d (.v (.int .i64 0)), .d (.v (.int .i64 0))]]⟩)], 5⟩) (0, (List.replicate n46 (0 : Int))) h (toK ⟨rfl, rfl, rfl, rfl, rfl, rfl, trivial⟩ ⟨rfl, rfl, rfl, rfl, rfl, trivial⟩) ?_
 intro n48 s47 o49 h hd50
 unfold zof at h
 refine Sm.seq ?_
 refine sr hF ?_
 refine gv hF oM ?_
 refine gv hF (oF (ze z1f rfl)) ?_
 refine gv hF (oL (lP1 ag74 rfl)) ?_
 refine gv hF (oN (lenQD u74)) ?_
 refine gv hF (oB (c_lss)) ?_
 rcases zzb (decide (s47.1 < (a0.kinds.length : Int))) with hc51 | hc51
 ·replace h := ifF hc51 h
  refine gv hF (zj rfl rfl hc51) ?_
  refine gp hF ?_
  refine gp hF ?_
  refine gv hF (zf rfl rfl rfl) ?_
  refine sn ?_
  refine Sm.condF hF rfl ?_
  refine Sm.exit ?_
  replace h := zw h hd50
  obtain rfl := zb h
  exact (toK ⟨rfl, rfl, rfl, rfl, rfl, trivial⟩ ⟨rfl, rfl, rfl, rfl, rfl, trivial⟩)
 replace h := ifT hc51 h
 refine gv hF (zj rfl rfl hc51) ?_
 refine gv hF oM ?_
 refine gv hF (oB (c_lss)) ?_
 refine gv hF (zu rfl rfl rfl) ?_
 refine sn ?_
 refine Sm.condU hF rfl (fun hc52 => ?_) (fun hc52 => ?_)
 ·replace h := ifF hc52 h
  refine Sm.exit ?_
  replace h := zw h hd50
  obtain rfl := zb h
  exact (toK ⟨rfl, rfl, rfl, rfl, rfl, trivial⟩ ⟨rfl, rfl, rfl, rfl, rfl, trivial⟩)
 replace h := ifT hc52 h
 refine sk ?_
 refine Sm.seq ?_
 obtain ⟨v63, hv63, h⟩ := za h
 refine Sm.joinT ⟨[(2, .d (.ptr 9 (Gm.row a0))), (3, .d (.ptr 18 (PRaw.row a1))), (4, .ref 0 0 0), (5, .ref 2 0 0), (8, .d (.v (.int .i64 1))), (9, .d (.v (.int .i64 s47.1))), (86, .d (.v (.int .i64 s47.1))), (87, .d (.v (.bool (decide (s47.1 < 2)))))], [(4, dB 1 (v63.map (rInt .i64))), (3, dB 1 (v45.map (rInt .i64))), (2, ⟨5, [[.sref 1 0 (v25.map (rInt .i64)).length, .sref 3 0 (v45.map (rInt .i64)).length, .sref 4 0 (v63.map (rInt .i64)).length, .d (.v (.int .i64 x3)), .d (.v (.int .i64 x5))]]⟩), (1, dB 1 (v25.map (rInt .i64))), (0, ⟨5, [[.d (.list 0 [] true), .d (.list 0 [] true), .d (.list 0 [] true), .d (.v (.int .i64 0)), .d (.v (.int .i64 0))]]⟩)], 5⟩ ?_ ?_
 ·refine Sm.regionG hF rfl ?_
  refine gv hF oM ?_
  obtain ⟨x64, hx64, h⟩ := za h
  refine gv hF (oB (z7 hx64)) ?_
  refine gv hF oA ?_
  refine SmG.nil ?_
  exact ztb (zhb h hd50) (toK ⟨rfl, rfl, rfl, rfl, rfl, rfl, trivial⟩ ⟨rfl, rfl, rfl, rfl, rfl, trivial⟩)
 replace h := hv63
 refine Sm.block ?_
 refine sr hF ?_
 refine gv hF (oF (ze z1f rfl)) ?_
 refine gv hF (oL (lP1 ag74 rfl)) ?_
 refine gv hF oM ?_
 obtain ⟨x53, hx53, h⟩ := za h
 refine gv hF (oI (idxQD u74 sz111 hx53)) ?_
 refine gv hF (oF (ze zyr rfl)) ?_
 refine gv hF (oL (lP1 ag4 rfl)) ?_
 refine sn ?_
 refine Sm.condU hF rfl (fun hc54 => ?_) (fun hc54 => ?_)
 ·replace h := ifF hc54 h
  refine Sm.skip ?_
  refine zk ?_
  obtain rfl := zb h
  exact (toK ⟨rfl, rfl, rfl, rfl, rfl, rfl, rfl, rfl, trivial⟩ ⟨rfl, rfl, rfl, rfl, rfl, trivial⟩)
 replace h := ifT hc54 h
 refine Sm.seq ?_
 refine Sm.drawG hF (by kernel_rfl) rfl 14 (by kernel_rfl) (by kernel_rfl) ?_
 simp only [List.take_succ_cons, List.take_zero, List.take_nil]
 refine hv hF oM ?_
 refine hv hF (oF (zq zmd)) ?_
 refine hv hF (oI (idxAR u31 sz30 rfl)) ?_
 refine hv hF (oL (z4b rfl rfl ag30 rfl)) ?_
 refine hv hF oM ?_
 refine hv hF oM ?_
 refine hv hF (oB (zxg (v := 2) rfl)) ?_
 refine hv hF oM ?_
 obtain ⟨x55, hx55, h⟩ := za h
 refine hv hF (oB (z7 hx55)) ?_
 refine hv hF (oF (ze zon rfl)) ?_
 obtain ⟨x56, hx56, h⟩ := za h
 refine Head.v hF rfl rfl rfl (zm rfl rfl rfl (zok Tryd.underlying59 sz5 (z0j hx56) rfl)) ?_
 refine hv hF (oL (z6j (xs := [a1.h0, a1.h1, a1.h2, a1.h3]) (f := (fun x : UInt8 => (.v (.int .u8 (x.toNat : Int)) : D))) (rest := [.v (.int .u8 (a1.rights.toNat : Int)), .v (.int .u8 (a1.side.toNat : Int))]) ag5 rfl hx56)) ?_
 refine hv hF (oC (zbd u5 u3 (z4c _))) ?_
 obtain ⟨x57, hx57, h⟩ := za h
 refine hv hF (oB (zsb hx57)) ?_
 refine Head.last ⟨rfl, ?_⟩
 simp only [List.drop_succ_cons, List.drop_zero, List.drop_nil, List.nil_append, List.cons_append]
 obtain ⟨x58, hx58, h⟩ := za h
 refine gv hF (oI (idxQO u30 sz3 rfl hx58)) ?_
 refine SmG.store hF rfl rfl rfl rfl rfl (zll (x' := x57) (ys := [.v (.int .i64 x57)]) rfl hx58 rfl sz3 rfl rfl rfl rfl rfl) ?_
 refine SmG.toX (St.to_weak (env' := [(2, .d (.ptr 9 (Gm.row a0))), (3, .d (.ptr 18 (PRaw.row a1))), (4, .ref 0 0 0), (5, .ref 2 0 0), (8, .d (.v (.int .i64 1))), (9, .d (.v (.int .i64 s47.1))), (86, .d (.v (.int .i64 s47.1))), (87, .d (.v (.bool (decide (s47.1 < 2))))), (110, .d (.v (.int .i64 x57)))]) (h' := [(4, dB 1 ((s47.2.set (s47.1 : Int).toNat x57).map (rInt .i64))), (3, dB 1 (v45.map (rInt .i64))), (2, ⟨5, [[.sref 1 0 (v25.map (rInt .i64)).length, .sref 3 0 (v45.map (rInt .i64)).length, .sref 4 0 ((s47.2.set (s47.1 : Int).toNat x57).map (rInt .i64)).length, .d (.v (.int .i64 x3)), .d (.v (.int .i64 x5))]]⟩), (1, dB 1 (v25.map (rInt .i64))), (0, ⟨5, [[.d (.list 0 [] true), .d (.list 0 [] true), .d (.list 0 [] true), .d (.v (.int .i64 0)), .d (.v (.int .i64 0))]]⟩)]) (nx' := 5) ⟨⟨_, rfl, V.le.refl _⟩, ⟨_, rfl, V.le.refl _⟩, ⟨_, rfl, V.le.refl _⟩, ⟨_, rfl, V.le.refl _⟩, ⟨_, rfl, V.le.refl _⟩, ⟨_, rfl, V.le.refl _⟩, ⟨_, rfl, V.le.refl _⟩, ⟨_, rfl, V.le.refl _⟩, ⟨_, rfl, V.le.refl _⟩, trivial⟩ ⟨⟨_, rfl, BlkR.refl _⟩, ⟨_, rfl, BlkR.refl _⟩, ⟨_, rfl, BlkR.row (.cons (V.le.refl _) (.cons (V.le.refl _) (.cons (V.le.len (by simp only [List.length_map, List.length_set])) (.cons (V.le.refl _) (.cons (V.le.refl _) .nil)))))⟩, ⟨_, rfl, BlkR.refl _⟩, ⟨_, rfl, BlkR.refl _⟩, trivial⟩ (Nat.le_of_ble_eq_true rfl)) rfl ?_
 refine sn ?_
 refine sr hF ?_
 refine gv hF oM ?_
 refine gv hF (oB (zxg (v := 2) rfl)) ?_
 refine gv hF oM ?_
 obtain ⟨x59, hx59, h⟩ := za h
 refine gv hF (oB (z7 hx59)) ?_
 refine gv hF (oF (ze zon rfl)) ?_
 obtain ⟨x60, hx60, h⟩ := za h
 refine SmG.v hF rfl rfl rfl (zm rfl rfl rfl (zok Tryd.underlying59 sz5 (z0j hx60) rfl)) ?_
 refine gv hF (oL (z6j (xs := [a1.h0, a1.h1, a1.h2, a1.h3]) (f := (fun x : UInt8 => (.v (.int .u8 (x.toNat : Int)) : D))) (rest := [.v (.int .u8 (a1.rights.toNat : Int)), .v (.int .u8 (a1.side.toNat : Int))]) ag5 rfl hx60)) ?_
 refine gv hF (oB (c_gtr)) ?_
 refine sn ?_
 refine Sm.condU hF rfl (fun hc61 => ?_) (fun hc61 => ?_)
 ·replace h := ifF hc61 h
  refine Sm.skip ?_
  refine zk ?_
  obtain rfl := zb h
  exact (toK ⟨rfl, rfl, rfl, rfl, rfl, rfl, rfl, rfl, trivial⟩ ⟨rfl, rfl, rfl, rfl, rfl, trivial⟩)
 replace h := ifT hc61 h
 refine Sm.regionG hF rfl ?_
 refine gv hF oM ?_
 refine gv hF (oF (zq zmd)) ?_
 refine gv hF (oI (idxAR u31 sz30 rfl)) ?_
 refine gv hF (oL (z4b rfl rfl ag30 rfl)) ?_
 refine gv hF oM ?_
 obtain ⟨x62, hx62, h⟩ := za h
 refine gv hF (oI (idxQO u30 sz3 rfl hx62)) ?_
 refine SmG.store hF rfl rfl rfl rfl rfl (zll (x' := 8) (ys := [.v (.int .i64 8)]) rfl hx62 rfl sz3 rfl rfl rfl rfl rfl) ?_
 refine SmG.toX (St.to_weak (env' := [(2, .d (.ptr 9 (Gm.row a0))), (3, .d (.ptr 18 (PRaw.row a1))), (4, .ref 0 0 0), (5, .ref 2 0 0), (8, .d (.v (.int .i64 1))), (9, .d (.v (.int .i64 s47.1))), (86, .d (.v (.int .i64 s47.1))), (87, .d (.v (.bool (decide (s47.1 < 2)))))]) (h' := [(4, dB 1 (((s47.2.set (s47.1 : Int).toNat x57).set (s47.1 : Int).toNat 8).map (rInt .i64))), (3, dB 1 (v45.map (rInt .i64))), (2, ⟨5, [[.sref 1 0 (v25.map (rInt .i64)).length, .sref 3 0 (v45.map (rInt .i64)).length, .sref 4 0 (((s47.2.set (s47.1 : Int).toNat x57).set (s47.1 : Int).toNat 8).map (rInt .i64)).length, .d (.v (.int .i64 x3)), .d (.v (.int .i64 x5))]]⟩), (1, dB 1 (v25.map (rInt .i64))), (0, ⟨5, [[.d (.list 0 [] true), .d (.list 0 [] true), .d (.list 0 [] true), .d (.v (.int .i64 0)), .d (.v (.int .i64 0))]]⟩)]) (nx' := 5) ⟨⟨_, rfl, V.le.refl _⟩, ⟨_, rfl, V.le.refl _⟩, ⟨_, rfl, V.le.refl _⟩, ⟨_, rfl, V.le.refl _⟩, ⟨_, rfl, V.le.refl _⟩, ⟨_, rfl, V.le.refl _⟩, ⟨_, rfl, V.le.refl _⟩, ⟨_, rfl, V.le.refl _⟩, trivial⟩ ⟨⟨_, rfl, BlkR.refl _⟩, ⟨_, rfl, BlkR.refl _⟩, ⟨_, rfl, BlkR.row (.cons (V.le.refl _) (.cons (V.le.refl _) (.cons (V.le.len (by simp only [List.length_map, List.length_set])) (.cons (V.le.refl _) (.cons (V.le.refl _) .nil)))))⟩, ⟨_, rfl, BlkR.refl _⟩, ⟨_, rfl, BlkR.refl _⟩, trivial⟩ (Nat.le_of_ble_eq_true rfl)) rfl ?_
 refine SmG.nil ?_
 refine zk ?_
 obtain rfl := zb h
 exact (toK ⟨rfl, rfl, rfl, rfl, rfl, rfl, rfl, rfl, trivial⟩ ⟨rfl, rfl, rfl, rfl, rfl, trivial⟩)
end
section
open Go.RowKit
section
variable {P : Program} {l : List Oper} {a0 : Act} {w0 : World} {Q : Exit → Act → World → Prop}
def valAt (l : List Oper) (vals : List Value) (j : Nat) : Value := ((l[j]?).bind (·.dst)).elim undef fun _ => vals.getD j undef
theorem zfo {id : Nat} (vals : List Value) (σ : (Nat → Bool) → World → Prop) (hm : P.follows .mixedOrders = true) (hB : parB l a0.tmps.size = true) (hlen : vals.length = l.length)
  (h0 : ∀ S, (∀ j, S j = false) → σ S w0.drew)
  (hstep : ∀ (i : Nat) (o : Oper), l.toArray[i]? = some o → ∀ (S S' : Nat → Bool) a w, S i = false → (∀ e ∈ o.after, Region.binds .any e = true → S e.on = true) →
   (∀ (j : Nat) (oj : Oper), l[j]? = some oj → S j = true → ∀ e ∈ oj.after, Region.binds .any e = true → S e.on = true) → σ S w → Rest l.toArray a0 a →
   (∀ e ∈ o.after, Region.binds .any e = true → ∀ (oe : Oper) (d : Tmp), l[e.on]? = some oe → oe.dst = some d → a.tmps[d]?.getD undef = vals.getD e.on undef) →
   (∀ j, S' j = if j = i then true else S j) →
   if Region.wanted o (yielded l.toArray a.tmps) then o.wp P a w (fun a' w' => a' = a.put o.dst (vals.getD i undef) ∧ σ S' w') Q else vals.getD i undef = undef ∧ σ S' w)
  (hend : ∀ S w, (∀ j, j < l.length → S j = true) → σ S w → Q .normal (znb a0 ((l.map (·.dst)).zip vals)) w) :
  (Code.region id l.toArray true).wp P Q a0 w0 := by
 have hB' := hB
 simp only [parB, Bool.and_eq_true] at hB'
 obtain ⟨⟨hB1, hB2⟩, hB3⟩ := hB'
 have hsz : ∀ (i : Nat) (o : Oper) (d : Tmp), l.toArray[i]? = some o → o.dst = some d → d < a0.tmps.size := by
  intro i o d hi hd
  have := List.all_eq_true.1 hB1 d (List.mem_filterMap.2 ⟨o, List.mem_iff_getElem?.2 ⟨i, by simpa using hi⟩, hd⟩)
  simpa using this
 have hd : ∀ (i j : Nat) (oi oj : Oper) (d : Tmp), l.toArray[i]? = some oi → l.toArray[j]? = some oj → oi.dst = some d → oj.dst = some d → i = j :=
  fun i j oi oj d hi hj => zgi l (of_decide_eq_true hB2) i j oi oj d (by simpa using hi) (by simpa using hj)
 have hbk : ∀ (i : Nat) (o : Oper), l.toArray[i]? = some o → ∀ e ∈ o.after, Region.binds .any e = true → e.on < i := by
  intro i o hi e he hb
  have hz : (o, i) ∈ l.zipIdx := by
   rw [List.mem_zipIdx_iff_getElem?]
   simpa using hi
  have := List.all_eq_true.1 hB3 (o, i) hz
  simp only [Array.all_eq_true_iff_forall_mem] at this
  have := this e he
  simpa [hb] using this
 let G : Nat → (Nat → Value) → World → Prop := fun j ρ _ => ρ j = valAt l vals j
 let E : World → World → Prop := fun _ _ => True
 have hG : ∀ j ρ w w', G j ρ w → E w w' → G j ρ w' := fun _ _ _ _ h _ => h
 have hloc : ∀ (j : Nat) (o : Oper), l.toArray[j]? = some o → ∀ ρ ρ' w, ρ j = ρ' j → (∀ e ∈ o.after, Region.binds .any e = true → ρ e.on = ρ' e.on) → G j ρ w → G j ρ' w :=
  fun j o _ ρ ρ' w h _ hg => h.symm.trans hg
 refine wp_region_any hm ?_
 have hsize : l.toArray.size = l.length := by simp
 have fin : ∀ (listed : Array Bool) (a : Act) (w : World), listed.size = l.toArray.size → ParInv l.toArray a0 w0 G E listed a w → σ (fun j => listed.getD j false) w → Region.ready .any l.toArray listed = [] → Q .normal a w := by
  intro listed a w hls inv hs hr
  have hall := zsi hls hbk hr
  have := hend (fun j => listed.getD j false) w (fun j hj => hall j (by rw [hsize]; exact hj)) hs
  have e : znb a0 ((l.map (·.dst)).zip vals) = a := by
   rw [← zvj l a0 a inv.size inv.defers (fun s hs => inv.rest s (fun j o ho _ => hs j o (by simpa using ho)))]
   refine zhh _ _ _ a0 (by simp [hlen]) (by simp) ?_
   intro j s hj
   rw [List.getElem?_map] at hj
   cases hok : l[j]? with
   | none => rw [hok] at hj; cases hj
   | some ok =>
    rw [hok] at hj
    simp at hj
    have hjl : j < l.length := (List.getElem?_eq_some_iff.1 hok).1
    have hg := inv.got j ok (by simpa using hok) (hall j (by rw [hsize]; exact hjl))
    simp only [G, valAt, hok, Option.bind_some, hj, Option.elim_some] at hg
    rw [← hg]
    simp [rho, hok]
  rwa [e] at this
 have main : ∀ (fuel : Nat) (listed : Array Bool) (a : Act) (w : World), listed.size = l.toArray.size → (listed.toList.filter (fun b => !b)).length ≤ fuel → ParInv l.toArray a0 w0 G E listed a w → σ (fun j => listed.getD j false) w → wpAny P .any l.toArray Q fuel listed a w := by
  intro fuel
  induction fuel with
  | zero =>
   intro listed a w hls hf inv hs
   have hr : Region.ready .any l.toArray listed = [] := by
    cases h : Region.ready .any l.toArray listed with
    | nil => rfl
    | cons j r =>
     have hj : j ∈ Region.ready .any l.toArray listed := by rw [h]; simp
     obtain ⟨h0, o, ho, _⟩ := mem_ready.1 hj
     have hlt : j < listed.size := by rw [hls]; exact (Array.getElem?_eq_some_iff.1 ho).1
     have : false ∈ listed.toList.filter (fun b => !b) := by
      rw [List.mem_filter]
      refine ⟨?_, rfl⟩
      rw [List.mem_iff_getElem?]
      refine ⟨j, ?_⟩
      simp [hlt] at h0 ⊢
      exact h0
     have h3 := List.length_pos_of_mem this
     omega
   exact ⟨hr, fin listed a w hls inv hs hr⟩
  | succ fuel ih =>
   intro listed a w hls hf inv hs
   refine ⟨fin listed a w hls inv hs, fun i hi => ?_⟩
   obtain ⟨h0, o, ho, hall⟩ := mem_ready.1 hi
   have hlt : i < listed.size := by rw [hls]; exact (Array.getElem?_eq_some_iff.1 ho).1
   have hst := hstep i o ho (fun j => listed.getD j false) (fun j => (listed.setIfInBounds i true).getD j false) a w (getD_both h0) hall (fun j oj hj hl e he hb => inv.closed j oj (by simpa using hj) hl e he hb) hs (fun s hs => inv.rest s (fun j oj hj _ => hs j oj hj)) (fun e he hb oe d hoe hde => by
    have hg := inv.got e.on oe (by simpa using hoe) (hall e he hb)
    simp only [G, valAt, hoe, Option.bind_some, hde, Option.elim_some] at hg
    rw [← hg]
    simp [rho, hoe, valOf, hde, Array.getD_eq_getD_getElem?]) (fun j => by
     by_cases hji : j = i
     ·subst hji; rw [if_pos rfl]; simp [hlt]
     ·rw [if_neg hji, getD_set_ne _ (Ne.symm hji)])
   have hcount : ((listed.setIfInBounds i true).toList.filter (fun b => !b)).length ≤ fuel := by
    have h0' : listed.toList[i]? = some false := by
     simp [hlt] at h0 ⊢; exact h0
    have := zqi listed.toList i h0'
    rw [Array.toList_setIfInBounds]
    omega
   have nextInv : ∀ v w', (o.dst.elim undef fun _ => v) = valAt l vals i → ParInv l.toArray a0 w0 G E (listed.setIfInBounds i true) (a.put o.dst v) w' :=
    fun v w' hv => zuj (fun _ _ _ _ _ => trivial) hG hloc hd hsz hbk inv ho hlt h0 hall trivial (by simp only [G, upd]; exact (if_pos trivial).trans hv)
   have hval : (o.dst.elim undef fun _ => vals.getD i undef) = valAt l vals i := by
    have ho' : l[i]? = some o := by simpa using ho
    simp only [valAt, ho', Option.bind_some]
   unfold wpOp
   simp only [ho]
   split
   ·rename_i hw
    rw [if_pos hw] at hst
    refine .inl (Oper.wp_mono (fun a' w' h => ?_) hst)
    obtain ⟨rfl, hs'⟩ := h
    exact ih _ _ _ (by simp [hls]) hcount (nextInv _ w' hval) hs'
   ·rename_i hw
    rw [if_neg hw] at hst
    obtain ⟨hu, hs'⟩ := hst
    refine ih _ _ _ (by simp [hls]) hcount (nextInv undef w ?_) hs'
    rw [← hval, hu]
 have hl0 : ∀ j, (Array.replicate l.toArray.size false).getD j false = false := fun j => getD_replicate_false _ _
 exact main l.toArray.size (Array.replicate l.toArray.size false) a0 w0.drew (by simp) (by
  refine Nat.le_trans (List.length_filter_le _ _) ?_
  simp) ⟨trivial, rfl, rfl, fun s _ => rfl, fun j o _ hl => (by rw [hl0] at hl; cases hl), fun j o _ hl => (by rw [hl0] at hl; cases hl)⟩ (h0 _ hl0)
end
end
section
open Go.RowKit
section
variable {P : Program} {l : List Oper} {a0 : Act} {w0 : World} {Q : Exit → Act → World → Prop}
structure EFresh (B : Nat) (x : Obj) (A C : World) : Prop where
 below : Below B A C
 above : ∀ k, B ≤ k → k < A.heap.size → C.heap[k]? = A.heap[k]? ∨ C.heap[k]? = some x
theorem EFresh.refl (B : Nat) (x : Obj) (A : World) : EFresh B x A A := ⟨Below.refl _ _, fun _ _ _ => .inl rfl⟩
theorem EFresh.trans {B : Nat} {x : Obj} {A C D : World} (h : EFresh B x A C) (k : EFresh B x C D) : EFresh B x A D :=
 ⟨h.below.trans k.below, fun i h1 h2 => by
  rcases k.above i h1 (Nat.lt_of_lt_of_le h2 h.below.size) with h' | h'
  ·rcases h.above i h1 h2 with h'' | h''
   ·exact .inl (h'.trans h'')
   ·exact .inr (h'.trans h'')
  ·exact .inr h'⟩
theorem EFresh.of_below {B : Nat} {x : Obj} {A C : World} (h : Below A.heap.size A C) (hB : B ≤ A.heap.size) : EFresh B x A C :=
 ⟨h.mono hB, fun k _ h2 => .inl (h.block k h2)⟩
def zog (B p s : Nat) (vals : List Value) (z x : Obj) (j : Nat) (ρ : Nat → Value) (W : World) : Prop :=
 if j = p then ∃ a, ρ p = .pointer (some ⟨a, 0, none⟩) ∧ B ≤ a ∧ (W.heap[a]? = some z ∨ W.heap[a]? = some x)
 else if j = s then ∃ a, ρ p = .pointer (some ⟨a, 0, none⟩) ∧ B ≤ a ∧ W.heap[a]? = some x
 else ρ j = vals.getD j undef
theorem zfj {id : Nat} (vals : List Value) (p s : Nat) (T : TypeId) (z x : List Value) (zv : Value) (dp : Tmp) (op os : Oper) (y : Operand)
  (hm : P.follows .mixedOrders = true) (hB : parB l a0.tmps.size = true) (hlen : vals.length = l.length) (hps : p ≠ s)
  (hp : l[p]? = some op) (hp1 : op.op = .alloc T) (hp2 : op.dst = some dp) (hp3 : op.guard = none) (hz : (P.info? T).map (fun i => (i.zero, i.size)) = some (some zv, x.length)) (hzv : zv.cells = z.toArray) (hzl : z.length = x.length)
  (hs : l[s]? = some os) (hs1 : os.op = .store T (.tmp dp) y) (hs2 : os.dst = none) (hs3 : os.guard = none) (hs4 : ∃ e ∈ os.after, Region.binds .any e = true ∧ e.on = p) (hx1 : ∀ v ∈ x, v.oneCell' = true)
  (hund : (l.zipIdx.all fun x => x.1.dst.isSome || x.2 == s) = true)
  (hstore : ∀ a w, Below w0.heap.size w0 w → Rest l.toArray a0 a → (∀ e ∈ os.after, Region.binds .any e = true → e.on ≠ p → ∀ (oe : Oper) (d : Tmp), l[e.on]? = some oe → oe.dst = some d → a.tmps[d]?.getD undef = vals.getD e.on undef) → (a.eval y).cells = x.toArray)
  (hstep : ∀ (i : Nat) (o : Oper), l.toArray[i]? = some o → i ≠ p → i ≠ s → ∀ a w, Below w0.heap.size w0 w → Rest l.toArray a0 a →
   (∀ e ∈ o.after, Region.binds .any e = true → e.on ≠ p → e.on ≠ s → ∀ (oe : Oper) (d : Tmp), l[e.on]? = some oe → oe.dst = some d → a.tmps[d]?.getD undef = vals.getD e.on undef) →
   if Region.wanted o (yielded l.toArray a.tmps) then o.wp P a w (fun a' w' => a' = a.put o.dst (vals.getD i undef) ∧ Below w.heap.size w w') Q else vals.getD i undef = undef)
  (hend : ∀ ad w, Below w0.heap.size w0 w → w0.heap.size ≤ ad → Arr w ad x → Q .normal (znb a0 ((l.map (·.dst)).zip (vals.set p (.pointer (some ⟨ad, 0, none⟩))))) w) :
  (Code.region id l.toArray true).wp P Q a0 w0 := by
 have hval : ∀ (i : Nat) (o : Oper), l[i]? = some o → i ≠ s → (o.dst.elim undef fun _ => vals.getD i undef) = vals.getD i undef := by
  intro i o hi his
  cases hd : o.dst with
  | none =>
   have hz : (o, i) ∈ l.zipIdx := by rw [List.mem_zipIdx_iff_getElem?]; exact hi
   have := List.all_eq_true.1 hund (o, i) hz
   simp [hd, his] at this
  | some d => rfl
 refine zki (ops := l.toArray) (E := EFresh w0.heap.size (.cells x.toArray T)) (G := zog w0.heap.size p s vals (.cells z.toArray T) (.cells x.toArray T)) hm (by simpa using hB) ⟨(Below.refl _ _).drew, fun _ _ _ => .inl rfl⟩ (fun _ => EFresh.refl _ _ _) (fun _ _ _ h k => h.trans k) ?_ ?_ ?_ ?_
 ·intro j ρ w w' hg he
  unfold zog at *
  split
  ·rename_i h
   rw [if_pos h] at hg
   obtain ⟨a, h1, h2, h3⟩ := hg
   have hlt : a < w.heap.size := by rcases h3 with h3 | h3 <;> exact (Array.getElem?_eq_some_iff.1 h3).1
   refine ⟨a, h1, h2, ?_⟩
   rcases he.above a h2 hlt with h4 | h4
   ·rw [h4]; exact h3
   ·exact .inr h4
  ·rename_i h
   rw [if_neg h] at hg
   split
   ·rename_i h'
    rw [if_pos h'] at hg
    obtain ⟨a, h1, h2, h3⟩ := hg
    refine ⟨a, h1, h2, ?_⟩
    rcases he.above a h2 (Array.getElem?_eq_some_iff.1 h3).1 with h4 | h4
    ·rw [h4]; exact h3
    ·exact h4
   ·rename_i h'
    rwa [if_neg h'] at hg
 ·intro j o hj ρ ρ' w e0 he hg
  unfold zog at *
  split
  ·rename_i h
   rw [if_pos h] at hg
   subst h
   rwa [e0] at hg
  ·rename_i h
   rw [if_neg h] at hg
   split
   ·rename_i h'
    rw [if_pos h'] at hg
    subst h'
    have ho : o = os := by
     have : l[j]? = some o := by simpa using hj
     rw [hs] at this; exact (Option.some.inj this).symm
    subst ho
    obtain ⟨e, h1, h2, h3⟩ := hs4
    have := he e h1 h2
    rw [h3] at this
    rwa [this] at hg
   ·rename_i h'
    rw [if_neg h'] at hg
    rwa [e0] at hg
 ·intro i o hi a w hE hR hd
  have hil : l[i]? = some o := by simpa using hi
  have hdep : ∀ e ∈ o.after, Region.binds .any e = true → e.on ≠ p → e.on ≠ s → ∀ (oe : Oper) (d : Tmp), l[e.on]? = some oe → oe.dst = some d → a.tmps[d]?.getD undef = vals.getD e.on undef := by
   intro e he hb h1 h2 oe d hoe hde
   have hg := hd e he hb
   unfold zog at hg
   rw [if_neg h1, if_neg h2] at hg
   rw [← hg]
   simp [rho, hoe, valOf, hde, Array.getD_eq_getD_getElem?]
  by_cases hip : i = p
  ·subst hip
   obtain rfl : o = op := by rw [hp] at hil; exact (Option.some.inj hil).symm
   refine zo hp3 ?_
   refine z1m T hp1 zv x.length hz ⟨_, rfl, EFresh.of_below ((Below.refl _ _).alloc (Nat.le_refl _) _) hE.below.size, ?_⟩
   unfold zog
   rw [if_pos rfl]
   refine ⟨w.heap.size, ?_, hE.below.size, .inl ?_⟩
   ·simp [upd, hp2]
   ·rw [hzv]; exact heap_alloc_new w _
  ·by_cases his : i = s
   ·subst his
    obtain rfl : o = os := by rw [hs] at hil; exact (Option.some.inj hil).symm
    refine zo hs3 ?_
    obtain ⟨e, he1, he2, he3⟩ := hs4
    have hg := hd e he1 he2
    rw [he3] at hg
    unfold zog at hg
    rw [if_pos rfl] at hg
    obtain ⟨ad, h1, h2, h3⟩ := hg
    have h1' : a.eval (.tmp dp) = .pointer (some ⟨ad, 0, none⟩) := by
     rw [← h1]
     simp [rho, hp, valOf, hp2, Act.eval, Array.getD_eq_getD_getElem?]
    obtain ⟨c, hc, hcl⟩ : ∃ c : List Value, w.heap[ad]? = some (.cells c.toArray T) ∧ c.length = x.length := by
     rcases h3 with h3 | h3
     ·exact ⟨z, h3, hzl⟩
     ·exact ⟨x, h3, rfl⟩
    have hy := hstore a w hE.below hR (fun e he hb h1 oe d hoe hde => by
     have hes : e.on ≠ i := by
      have hB' := hB
      simp only [parB, Bool.and_eq_true] at hB'
      have hz : (o, i) ∈ l.zipIdx := by rw [List.mem_zipIdx_iff_getElem?]; exact hil
      have := List.all_eq_true.1 hB'.2 (o, i) hz
      simp only [Array.all_eq_true_iff_forall_mem] at this
      have := this e he
      simp [hb] at this
      omega
     exact hdep e he hb h1 hes oe d hoe hde)
    have hrun : (execOp a.eval o).run P w = .ok .skip (w.setRow ad x.toArray) := by
     have hst : (storeCells ⟨ad, 0, none⟩ x).run P w = .ok () (w.setRow ad x.toArray) := by
      have := run_storeCells_at P ad 0 T x 0 c.toArray w hc (by simp [hcl]) hx1
      simp only [Nat.zero_add] at this
      rw [this]
      have e1 : (List.take 0 c.toArray.toList ++ x ++ List.drop x.length c.toArray.toList) = x := by simp [← hcl]
      first | rw [e1] | simp [← hcl]
     have hzs : (P.info? T).map (·.size) = some x.length := by
      cases hq : P.info? T with
      | none => simp [hq] at hz
      | some i => simp [hq] at hz ⊢; exact hz.2
     simp only [execOp, hs1, h1']
     simp [Instr.storeAt, Instr.sureAddr, storeVar, Sem.run_bind, hy, z7c hzs, hst, Result.andThen]
    unfold Oper.wp
    rw [hrun, Oper.upon_skip]
    refine ⟨undef, rfl, ⟨?_, ?_⟩, ?_⟩
    ·exact (Below.refl _ _).grown (zqd w ad _) hE.below.size (by intro k hk; cases hk; exact h2)
    ·intro k hk1 hk2
     by_cases hka : k = ad
     ·subst hka
      right
      simp only [World.setRow, Array.getElem?_modify, if_pos, hc]; rfl
     ·left
      simp only [World.setRow, Array.getElem?_modify]
      rw [if_neg (fun e => hka e.symm)]
    ·unfold zog
     rw [if_neg (fun e => hps e.symm), if_pos rfl]
     refine ⟨ad, ?_, h2, ?_⟩
     ·simp only [upd]; rw [if_neg hps]; exact h1
     ·simp only [World.setRow, Array.getElem?_modify, if_pos, hc]; rfl
   ·have hst := hstep i o hi hip his a w hE.below hR hdep
    split
    ·rename_i hw
     rw [if_pos hw] at hst
     refine Oper.wp_mono (fun a' w' h => ?_) hst
     obtain ⟨rfl, hb⟩ := h
     refine ⟨_, rfl, EFresh.of_below hb hE.below.size, ?_⟩
     unfold zog
     rw [if_neg hip, if_neg his]
     simp only [upd]
     exact (if_pos trivial).trans (hval i o hil his)
    ·rename_i hw
     rw [if_neg hw] at hst
     unfold zog
     rw [if_neg hip, if_neg his]
     simp only [upd]
     exact (if_pos trivial).trans hst.symm
 ·intro us hus w hE hall
  have hsl : s < l.length := (List.getElem?_eq_some_iff.1 hs).1
  have hpl : p < l.length := (List.getElem?_eq_some_iff.1 hp).1
  have hgs := hall s (by simpa using hsl)
  unfold zog at hgs
  rw [if_neg (fun e => hps e.symm), if_pos rfl] at hgs
  obtain ⟨ad, h1, h2, h3⟩ := hgs
  have e : znb a0 ((l.toArray.toList.map (·.dst)).zip us) = znb a0 ((l.map (·.dst)).zip (vals.set p (.pointer (some ⟨ad, 0, none⟩)))) := by
   refine zhh _ _ _ a0 (by simpa using hus) (by simp [hlen]) ?_
   intro j d hj
   have hjl : j < l.length := by
    have := (List.getElem?_eq_some_iff.1 hj).1
    simpa using this
   by_cases hjp : j = p
   ·subst hjp
    refine (show us.getD j undef = _ from h1).trans ?_
    simp [hlen, hjl]
   ·have hjs : j ≠ s := by
     intro e
     subst e
     simp [hs, hs2] at hj
    have hg := hall j (by simpa using hjl)
    unfold zog at hg
    rw [if_neg hjp, if_neg hjs] at hg
    refine (show us.getD j undef = _ from hg).trans ?_
    simp only [List.getD_eq_getElem?_getD, List.getElem?_set]
    rw [if_neg (fun e => hjp e.symm)]
  rw [e]
  exact hend ad w hE.below h2 ⟨T, h3⟩
end
end
section
open Go.RowKit
section
variable {P : Program} {l : List Oper} {a0 : Act} {w0 : World} {Q : Exit → Act → World → Prop}
def EPut (g : Nat) (x : Obj) (A C : World) : Prop := A.grownBy C (some g) ∧ (C.heap[g]? = A.heap[g]? ∨ C.heap[g]? = some x)
theorem EPut.refl (g : Nat) (x : Obj) (A : World) : EPut g x A A := ⟨World.grownBy.refl _ _, .inl rfl⟩
theorem z8n {w1 w2 w3 : World} {r : Option Nat} (h : w1.grownBy w2 r) (k : w2.grownBy w3 r) : w1.grownBy w3 r :=
 ⟨k.os.trans h.os, k.tape.trans h.tape, k.output.trans h.output, Nat.le_trans h.size k.size, fun i hi hr => (k.block i (Nat.lt_of_lt_of_le hi h.size) hr).trans (h.block i hi hr)⟩
theorem EPut.trans {g : Nat} {x : Obj} {A C D : World} (h : EPut g x A C) (k : EPut g x C D) : EPut g x A D :=
 ⟨z8n h.1 k.1, by
  rcases k.2 with h' | h'
  ·rcases h.2 with h'' | h''
   ·exact .inl (h'.trans h'')
   ·exact .inr (h'.trans h'')
  ·exact .inr h'⟩
theorem EPut.of_below {g : Nat} {x : Obj} {A C : World} (h : Below A.heap.size A C) (hg : g < A.heap.size) : EPut g x A C :=
 ⟨⟨h.os, h.tape, h.output, h.size, fun i hi _ => h.block i hi⟩, .inl (h.block g hg)⟩
def GPut (g s : Nat) (vals : List Value) (x : Obj) (j : Nat) (ρ : Nat → Value) (W : World) : Prop :=
 if j = s then W.heap[g]? = some x else ρ j = vals.getD j undef
theorem zel {id : Nat} (vals : List Value) (s g off : Nat) (T ty : TypeId) (cs cur : List Value) (os : Oper) (px y : Operand)
  (hm : P.follows .mixedOrders = true) (hB : parB l a0.tmps.size = true) (hlen : vals.length = l.length) (hA : Arr w0 g cur) (hfit : off + cs.length ≤ cur.length)
  (hs : l[s]? = some os) (hs1 : os.op = .store ty px y) (hs2 : os.dst = none) (hs3 : os.guard = none) (hty : (P.info? ty).map (·.size) = some cs.length) (hx1 : ∀ v ∈ cs, v.oneCell' = true)
  (hund : (l.zipIdx.all fun x => x.1.dst.isSome || x.2 == s) = true)
  (hstore : ∀ a w, w0.grownBy w (some g) → Rest l.toArray a0 a → (∀ e ∈ os.after, Region.binds .any e = true → ∀ (oe : Oper) (d : Tmp), l[e.on]? = some oe → oe.dst = some d → a.tmps[d]?.getD undef = vals.getD e.on undef) → a.eval px = .pointer (some ⟨g, off, none⟩) ∧ (a.eval y).cells = cs.toArray)
  (hstep : ∀ (i : Nat) (o : Oper), l.toArray[i]? = some o → i ≠ s → ∀ a w, w0.grownBy w (some g) → Rest l.toArray a0 a →
   (∀ e ∈ o.after, Region.binds .any e = true → e.on ≠ s → ∀ (oe : Oper) (d : Tmp), l[e.on]? = some oe → oe.dst = some d → a.tmps[d]?.getD undef = vals.getD e.on undef) →
   if Region.wanted o (yielded l.toArray a.tmps) then o.wp P a w (fun a' w' => a' = a.put o.dst (vals.getD i undef) ∧ Below w.heap.size w w') Q else vals.getD i undef = undef)
  (hend : ∀ w, w0.grownBy w (some g) → Arr w g (lay cur off cs) → Q .normal (znb a0 ((l.map (·.dst)).zip vals)) w) :
  (Code.region id l.toArray true).wp P Q a0 w0 := by
 have hval : ∀ (i : Nat) (o : Oper), l[i]? = some o → i ≠ s → (o.dst.elim undef fun _ => vals.getD i undef) = vals.getD i undef := by
  intro i o hi his
  cases hd : o.dst with
  | none =>
   have hz : (o, i) ∈ l.zipIdx := by rw [List.mem_zipIdx_iff_getElem?]; exact hi
   have := List.all_eq_true.1 hund (o, i) hz
   simp [hd, his] at this
  | some d => rfl
 have hgl := hA.lt
 obtain ⟨T0, hA0⟩ := hA
 have hll : lay (lay cur off cs) off cs = lay cur off cs := by
  unfold lay
  have h1 : (cur.take off).length = off := by rw [List.length_take]; omega
  have e1 : (cur.take off ++ cs ++ cur.drop (off + cs.length)).take off = cur.take off := by
   rw [List.append_assoc, List.take_append_of_le_length (by omega), List.take_of_length_le (by omega)]
  have e2 : (cur.take off ++ cs ++ cur.drop (off + cs.length)).drop (off + cs.length) = cur.drop (off + cs.length) := by
   rw [List.drop_append, List.drop_of_length_le (by rw [List.length_append]; omega), List.length_append, h1]; simp
  rw [e1, e2]
 have hlen2 : (lay cur off cs).length = cur.length := by unfold lay; simp; omega
 refine zki (ops := l.toArray) (E := EPut g (.cells (lay cur off cs).toArray T0)) (G := GPut g s vals (.cells (lay cur off cs).toArray T0)) hm (by simpa using hB) ⟨⟨rfl, rfl, rfl, Nat.le_refl _, fun _ _ _ => rfl⟩, .inl rfl⟩ (fun _ => EPut.refl _ _ _) (fun _ _ _ h k => h.trans k) ?_ ?_ ?_ ?_
 ·intro j ρ w w' hg he
  unfold GPut at *
  split
  ·rename_i h
   rw [if_pos h] at hg
   rcases he.2 with h4 | h4
   ·rw [h4]; exact hg
   ·exact h4
  ·rename_i h
   rwa [if_neg h] at hg
 ·intro j o hj ρ ρ' w e0 he hg
  unfold GPut at *
  split
  ·rename_i h
   rwa [if_pos h] at hg
  ·rename_i h
   rw [if_neg h] at hg
   rwa [e0] at hg
 ·intro i o hi a w hE hR hd
  have hil : l[i]? = some o := by simpa using hi
  have hgw : g < w.heap.size := Nat.lt_of_lt_of_le hgl hE.1.size
  have hdep : ∀ e ∈ o.after, Region.binds .any e = true → e.on ≠ s → ∀ (oe : Oper) (d : Tmp), l[e.on]? = some oe → oe.dst = some d → a.tmps[d]?.getD undef = vals.getD e.on undef := by
   intro e he hb h2 oe d hoe hde
   have hg := hd e he hb
   unfold GPut at hg
   rw [if_neg h2] at hg
   rw [← hg]
   simp [rho, hoe, valOf, hde, Array.getD_eq_getD_getElem?]
  by_cases his : i = s
  ·subst his
   obtain rfl : o = os := by rw [hs] at hil; exact (Option.some.inj hil).symm
   refine zo hs3 ?_
   obtain ⟨c, hc, hcl, hlc⟩ : ∃ c : List Value, w.heap[g]? = some (.cells c.toArray T0) ∧ c.length = cur.length ∧ lay c off cs = lay cur off cs := by
    rcases hE.2 with h3 | h3
    ·exact ⟨cur, h3.trans hA0, rfl, rfl⟩
    ·exact ⟨lay cur off cs, h3, hlen2, hll⟩
   have hy := hstore a w hE.1 hR (fun e he hb oe d hoe hde => by
    have hes : e.on ≠ i := by
     have hB' := hB
     simp only [parB, Bool.and_eq_true] at hB'
     have hz : (o, i) ∈ l.zipIdx := by rw [List.mem_zipIdx_iff_getElem?]; exact hil
     have := List.all_eq_true.1 hB'.2 (o, i) hz
     simp only [Array.all_eq_true_iff_forall_mem] at this
     have := this e he
     simp [hb] at this
     omega
    exact hdep e he hb hes oe d hoe hde)
   have hrun : (execOp a.eval o).run P w = .ok .skip (w.setRow g (lay cur off cs).toArray) := by
    have hst : (storeCells ⟨g, off, none⟩ cs).run P w = .ok () (w.setRow g (lay cur off cs).toArray) := by
     have := run_storeCells_at P g off T0 cs 0 c.toArray w hc (by simpa [hcl] using hfit) hx1
     rw [← hlc]
     simpa [lay] using this
    simp only [execOp, hs1, hy.1]
    simp [Instr.storeAt, Instr.sureAddr, storeVar, Sem.run_bind, hy.2, z7c hty, hst, Result.andThen]
   have hnew : (w.setRow g (lay cur off cs).toArray).heap[g]? = some (.cells (lay cur off cs).toArray T0) := by
    simp only [World.setRow, Array.getElem?_modify, if_pos, hc]; rfl
   unfold Oper.wp
   rw [hrun, Oper.upon_skip]
   refine ⟨undef, rfl, ⟨zqd w g _, .inr hnew⟩, ?_⟩
   unfold GPut
   rw [if_pos rfl]
   exact hnew
  ·have hst := hstep i o hi his a w hE.1 hR hdep
   split
   ·rename_i hw
    rw [if_pos hw] at hst
    refine Oper.wp_mono (fun a' w' h => ?_) hst
    obtain ⟨rfl, hb⟩ := h
    refine ⟨_, rfl, EPut.of_below hb hgw, ?_⟩
    unfold GPut
    rw [if_neg his]
    simp only [upd]
    exact (if_pos trivial).trans (hval i o hil his)
   ·rename_i hw
    rw [if_neg hw] at hst
    unfold GPut
    rw [if_neg his]
    simp only [upd]
    exact (if_pos trivial).trans hst.symm
 ·intro us hus w hE hall
  have hsl : s < l.length := (List.getElem?_eq_some_iff.1 hs).1
  have hgs := hall s (by simpa using hsl)
  unfold GPut at hgs
  rw [if_pos rfl] at hgs
  have e : znb a0 ((l.toArray.toList.map (·.dst)).zip us) = znb a0 ((l.map (·.dst)).zip vals) := by
   refine zhh _ _ _ a0 (by simpa using hus) (by simp [hlen]) ?_
   intro j d hj
   have hjl : j < l.length := by
    have := (List.getElem?_eq_some_iff.1 hj).1
    simpa using this
   have hjs : j ≠ s := by
    intro e
    subst e
    simp [hs, hs2] at hj
   have hg := hall j (by simpa using hjl)
   unfold GPut at hg
   rw [if_neg hjs] at hg
   exact hg
  rw [e]
  exact hend w hE.1 ⟨T0, hgs⟩
end
end
end Go.Proofs.YtbaccmkhjmmlnaaDoor
