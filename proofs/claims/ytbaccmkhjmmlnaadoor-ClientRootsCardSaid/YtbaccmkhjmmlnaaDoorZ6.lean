/-
  Lemmas, part 6 of 8: walks through the program's functions, and plain Lean about what they compute.
-/
import Derived.Test.YtbaccmkhjmmlnaaDoorRows
import Derived.WalkKit
import Derived.WalkSpells
import Derived.WalkLawsBesides
import Derived.BigQuiet
import Derived.Deep.QuietTactic
import Derived.Deep.RegionHeld3
import Derived.Deep.DeepCutAuto
import Derived.Deep.LoopGhost
import Derived.StillTailTactics
import Derived.Lib.Hide
import Derived.Handy
import Derived.Stop.BytesEq
import Derived.Test.YtbaccmkhjmmlnaaDoorZ1
import Derived.Test.YtbaccmkhjmmlnaaDoorZ2
import Derived.Test.YtbaccmkhjmmlnaaDoorZ3
import Derived.Test.YtbaccmkhjmmlnaaDoorZ4
import Derived.Test.YtbaccmkhjmmlnaaDoorZ5
set_option linter.unnecessarySimpa false
set_option linter.unusedSimpArgs false
set_option linter.unusedVariables false
namespace Go.Proofs.YtbaccmkhjmmlnaaDoor
section
open Go.RowKit
set_option maxRecDepth 100000
structure Stp where
 op : Int
 n : Int
 deriving DecidableEq
structure Brd where
 cells : Int
 next : List (List Int)
 turn : List Int
def Stp.row (x : Stp) : List D := [.v (.int .i64 x.op), .v (.int .i64 x.n)]
def Brd.row (x : Brd) : List D := [.v (.int .i64 x.cells), .list 1 (x.next.map (ax 1 (af .i64))) false, .list 1 (x.turn.map (af .i64)) false]
noncomputable def c8 (a0 : List UInt8) (a1 : Int) : Option Int :=
 bif (decide (a1 < (a0.length : Int))) then (
  ob (idx a0 a1) fun x2 =>
  some (x2.toNat : Int)
 ) else (
  some 0
 )
set_option maxHeartbeats 4000000 in
theorem fN {a0 : List UInt8} {a1 : Int} {r : Int} (h : c8 a0 a1 = some r) : aj Tryd.prog HG 93 [.list 1 (a0.map aH) false, .i a1] (.i r) := by
 unfold c8 at h
 refine aj.of Tryd.func93 rfl Tryd.ntmps93 (by simp) ?_
 intro F hF h0 hT
 show Sm F _ _ ⟨[(0, .d (.list 1 (a0.map aH) false)), (1, .i a1)], [], 0⟩
 refine sr hF (gv hF oA (sn (Sm.seq (sr hF (gv hF oM (gv hF oM (gv hF (oN (aY u24)) (gv hF (oB (bh)) ?_))))))))
 refine sn ?_
 refine ay hF rfl (fun hc1 => ?_) (fun hc1 => ?_)
 ·replace h := ifF hc1 h
  refine sk (sr hF (gv hF oA (sn (Sm.ret ?_))))
  obtain rfl := ac h
  exact bu rfl rfl
 replace h := ifT hc1 h
 refine sr hF (gv hF oM (gv hF oM ?_))
 obtain ⟨x2, hx2, h⟩ := aa h
 refine gv hF (oI (aT u24 sz5 hx2)) (gv hF (oL (lP1 ag5 rfl)) (gv hF (oC (ek u5 u3 (dM _))) (gv hF oA (sn (Sm.ret ?_)))))
 obtain rfl := ac h
 exact bu rfl rfl
noncomputable def f6 (a0 : List UInt8) : Option (List Stp) :=
 ob (c8 a0 1) fun x1 =>
 ob (cF x1 8) fun x2 =>
 ob (c8 a0 2) fun x3 =>
 ob (cF x3 8) fun x4 =>
 ob (c8 a0 3) fun x5 =>
 ob (cF x5 6) fun x6 =>
 ob (c8 a0 4) fun x7 =>
 ob (cF x7 4) fun x8 =>
 ob (arI .i64 (x2 + 4)) fun x9 =>
 ob (cF x9 8) fun x10 =>
 ob (c8 a0 0) fun x11 =>
 ob (cF x11 (([[(⟨1, x2⟩ : Stp), (⟨3, 0⟩ : Stp)], [(⟨1, x2⟩ : Stp), (⟨4, 0⟩ : Stp), (⟨6, 0⟩ : Stp)], [(⟨2, x2⟩ : Stp)], [(⟨2, x2⟩ : Stp), (⟨4, 0⟩ : Stp), (⟨6, 0⟩ : Stp)], [(⟨1, x2⟩ : Stp), (⟨4, 0⟩ : Stp), (⟨6, 0⟩ : Stp), (⟨1, x2⟩ : Stp)], [(⟨1, x2⟩ : Stp), (⟨1, x4⟩ : Stp)], [(⟨1, x2⟩ : Stp), (⟨7, x2⟩ : Stp)], [(⟨1, x2⟩ : Stp), (⟨3, 0⟩ : Stp), (⟨8, x6⟩ : Stp)], [(⟨9, x8⟩ : Stp), (⟨1, x2⟩ : Stp), (⟨1, x2⟩ : Stp), (⟨10, x8⟩ : Stp)], [(⟨1, x2⟩ : Stp), (⟨5, 0⟩ : Stp), (⟨1, x2⟩ : Stp), (⟨3, 0⟩ : Stp)], [(⟨10, x8⟩ : Stp), (⟨1, x2⟩ : Stp)], [(⟨1, x2⟩ : Stp), (⟨4, 0⟩ : Stp), (⟨6, 0⟩ : Stp), (⟨1, x10⟩ : Stp)], [(⟨1, x2⟩ : Stp), (⟨4, 0⟩ : Stp), (⟨6, 0⟩ : Stp), (⟨1, x4⟩ : Stp), (⟨4, 0⟩ : Stp), (⟨6, 0⟩ : Stp)], [(⟨2, x2⟩ : Stp), (⟨5, 0⟩ : Stp), (⟨1, x2⟩ : Stp)], [(⟨1, x2⟩ : Stp), (⟨4, 0⟩ : Stp), (⟨6, 0⟩ : Stp), (⟨8, x6⟩ : Stp)], [(⟨1, x2⟩ : Stp), (⟨7, x2⟩ : Stp), (⟨1, x4⟩ : Stp)]]).length : Int)) fun x12 =>
 ob (idx ([[(⟨1, x2⟩ : Stp), (⟨3, 0⟩ : Stp)], [(⟨1, x2⟩ : Stp), (⟨4, 0⟩ : Stp), (⟨6, 0⟩ : Stp)], [(⟨2, x2⟩ : Stp)], [(⟨2, x2⟩ : Stp), (⟨4, 0⟩ : Stp), (⟨6, 0⟩ : Stp)], [(⟨1, x2⟩ : Stp), (⟨4, 0⟩ : Stp), (⟨6, 0⟩ : Stp), (⟨1, x2⟩ : Stp)], [(⟨1, x2⟩ : Stp), (⟨1, x4⟩ : Stp)], [(⟨1, x2⟩ : Stp), (⟨7, x2⟩ : Stp)], [(⟨1, x2⟩ : Stp), (⟨3, 0⟩ : Stp), (⟨8, x6⟩ : Stp)], [(⟨9, x8⟩ : Stp), (⟨1, x2⟩ : Stp), (⟨1, x2⟩ : Stp), (⟨10, x8⟩ : Stp)], [(⟨1, x2⟩ : Stp), (⟨5, 0⟩ : Stp), (⟨1, x2⟩ : Stp), (⟨3, 0⟩ : Stp)], [(⟨10, x8⟩ : Stp), (⟨1, x2⟩ : Stp)], [(⟨1, x2⟩ : Stp), (⟨4, 0⟩ : Stp), (⟨6, 0⟩ : Stp), (⟨1, x10⟩ : Stp)], [(⟨1, x2⟩ : Stp), (⟨4, 0⟩ : Stp), (⟨6, 0⟩ : Stp), (⟨1, x4⟩ : Stp), (⟨4, 0⟩ : Stp), (⟨6, 0⟩ : Stp)], [(⟨2, x2⟩ : Stp), (⟨5, 0⟩ : Stp), (⟨1, x2⟩ : Stp)], [(⟨1, x2⟩ : Stp), (⟨4, 0⟩ : Stp), (⟨6, 0⟩ : Stp), (⟨8, x6⟩ : Stp)], [(⟨1, x2⟩ : Stp), (⟨7, x2⟩ : Stp), (⟨1, x4⟩ : Stp)]]) x12) fun x13 =>
 some x13
set_option maxHeartbeats 4000000 in
theorem nO {a0 : List UInt8} {r : List Stp} (h : f6 a0 = some r) : aj Tryd.prog HG 82 [.list 1 (a0.map aH) false] (.list 2 (r.map Stp.row) false) := by
 unfold f6 at h
 refine aj.of Tryd.func82 rfl Tryd.ntmps82 (by simp) ?_
 intro F hF h0 hT
 show Sm F _ _ ⟨[(0, .d (.list 1 (a0.map aH) false))], [], 0⟩
 refine sr hF (gv hF oA (sn (sr hF (gv hF oM ?_))))
 obtain ⟨x1, hx1, h⟩ := aa h
 refine cS hF (fN hx1) ?_
 obtain ⟨x2, hx2, h⟩ := aa h
 refine gv hF (oB (bM hx2)) (gv hF oM ?_)
 obtain ⟨x3, hx3, h⟩ := aa h
 refine cS hF (fN hx3) ?_
 obtain ⟨x4, hx4, h⟩ := aa h
 refine gv hF (oB (bM hx4)) (gv hF oM ?_)
 obtain ⟨x5, hx5, h⟩ := aa h
 refine cS hF (fN hx5) ?_
 obtain ⟨x6, hx6, h⟩ := aa h
 refine gv hF (oB (bM hx6)) (gv hF oM ?_)
 obtain ⟨x7, hx7, h⟩ := aa h
 refine cS hF (fN hx7) ?_
 obtain ⟨x8, hx8, h⟩ := aa h
 refine gv hF (oB (bM hx8)) (gv hF oA (gv hF oA (gv hF oA (gv hF oA (sn (sr hF (gv hF oM (gv hF (x := .d (.agg 2 [.i 1, .i x2])) (a8 rfl j9 (by kernel_rfl) rfl (bg (n := 2) cR i7 rfl rfl)) ?_))))))))
 refine gv hF oM (gv hF (x := .d (.agg 2 [.i 1, .i x4])) (a8 rfl j9 (by kernel_rfl) rfl (bg (n := 2) cR i7 rfl rfl)) (gv hF oM ?_))
 obtain ⟨x9, hx9, h⟩ := aa h
 refine gv hF (oB (aU hx9)) ?_
 obtain ⟨x10, hx10, h⟩ := aa h
 refine gv hF (oB (bM hx10)) (gv hF (x := .d (.agg 2 [.i 1, .i x10])) (a8 rfl j9 (by kernel_rfl) rfl (bg (n := 2) cR i7 rfl rfl)) ?_)
 refine SmG.new hF rfl rfl rfl (aO rfl i4) ?_
 refine SmG.new hF rfl rfl rfl (aO rfl i4) ?_
 refine SmG.new hF rfl rfl rfl (aO rfl i4) ?_
 refine SmG.store hF rfl rfl rfl rfl rfl (bd (ys := [.i 1, .i x2]) (r := [.i 0, .i 0]) (rows' := [[.i 1, .i x2]]) rfl rfl rfl aR rfl rfl rfl rfl rfl) ?_
 refine SmG.store hF rfl rfl rfl rfl rfl (bd (ys := [.i 1, .i x4]) (r := [.i 0, .i 0]) (rows' := [[.i 1, .i x4]]) rfl rfl rfl aR rfl rfl rfl rfl rfl) ?_
 refine SmG.store hF rfl rfl rfl rfl rfl (bd (ys := [.i 1, .i x10]) (r := [.i 0, .i 0]) (rows' := [[.i 1, .i x10]]) rfl rfl rfl aR rfl rfl rfl rfl rfl) ?_
 refine sn (sr hF (gv hF oM (gv hF (x := .d (.agg 2 [.i 2, .i x2])) (a8 rfl j9 (by kernel_rfl) rfl (bg (n := 2) cR i7 rfl rfl)) (gv hF oM (gv hF (x := .d (.agg 2 [.i 7, .i x2])) (a8 rfl j9 (by kernel_rfl) rfl (bg (n := 2) cR i7 rfl rfl)) ?_)))))
 refine SmG.new hF rfl rfl rfl (aO rfl i4) ?_
 refine SmG.new hF rfl rfl rfl (aO rfl i4) ?_
 refine SmG.store hF rfl rfl rfl rfl rfl (bd (ys := [.i 2, .i x2]) (r := [.i 0, .i 0]) (rows' := [[.i 2, .i x2]]) rfl rfl rfl aR rfl rfl rfl rfl rfl) ?_
 refine SmG.store hF rfl rfl rfl rfl rfl (bd (ys := [.i 7, .i x2]) (r := [.i 0, .i 0]) (rows' := [[.i 7, .i x2]]) rfl rfl rfl aR rfl rfl rfl rfl rfl) ?_
 refine sn (sr hF (gv hF (x := .d (.agg 2 [.i 3, .i 0])) (a8 rfl j9 (by kernel_rfl) rfl (bg (n := 2) cR i7 rfl rfl)) (gv hF (x := .d (.agg 2 [.i 4, .i 0])) (a8 rfl j9 (by kernel_rfl) rfl (bg (n := 2) cR i7 rfl rfl)) (gv hF (x := .d (.agg 2 [.i 5, .i 0])) (a8 rfl j9 (by kernel_rfl) rfl (bg (n := 2) cR i7 rfl rfl)) (gv hF (x := .d (.agg 2 [.i 6, .i 0])) (a8 rfl j9 (by kernel_rfl) rfl (bg (n := 2) cR i7 rfl rfl)) ?_)))))
 refine SmG.new hF rfl rfl rfl (aO rfl i4) ?_
 refine SmG.new hF rfl rfl rfl (aO rfl i4) ?_
 refine SmG.new hF rfl rfl rfl (aO rfl i4) ?_
 refine SmG.new hF rfl rfl rfl (aO rfl i4) ?_
 refine SmG.store hF rfl rfl rfl rfl rfl (bd (ys := [.i 3, .i 0]) (r := [.i 0, .i 0]) (rows' := [[.i 3, .i 0]]) rfl rfl rfl aR rfl rfl rfl rfl rfl) ?_
 refine SmG.store hF rfl rfl rfl rfl rfl (bd (ys := [.i 4, .i 0]) (r := [.i 0, .i 0]) (rows' := [[.i 4, .i 0]]) rfl rfl rfl aR rfl rfl rfl rfl rfl) ?_
 refine SmG.store hF rfl rfl rfl rfl rfl (bd (ys := [.i 5, .i 0]) (r := [.i 0, .i 0]) (rows' := [[.i 5, .i 0]]) rfl rfl rfl aR rfl rfl rfl rfl rfl) ?_
 refine SmG.store hF rfl rfl rfl rfl rfl (bd (ys := [.i 6, .i 0]) (r := [.i 0, .i 0]) (rows' := [[.i 6, .i 0]]) rfl rfl rfl aR rfl rfl rfl rfl rfl) ?_
 refine sn (sr hF (gv hF oM (gv hF (x := .d (.agg 2 [.i 8, .i x6])) (a8 rfl j9 (by kernel_rfl) rfl (bg (n := 2) cR i7 rfl rfl)) (gv hF oM (gv hF (x := .d (.agg 2 [.i 9, .i x8])) (a8 rfl j9 (by kernel_rfl) rfl (bg (n := 2) cR i7 rfl rfl)) (gv hF oM (gv hF (x := .d (.agg 2 [.i 10, .i x8])) (a8 rfl j9 (by kernel_rfl) rfl (bg (n := 2) cR i7 rfl rfl)) ?_)))))))
 refine SmG.new hF rfl rfl rfl (aO rfl i4) ?_
 refine SmG.new hF rfl rfl rfl (aO rfl i4) ?_
 refine SmG.new hF rfl rfl rfl (aO rfl i4) ?_
 refine SmG.store hF rfl rfl rfl rfl rfl (bd (ys := [.i 8, .i x6]) (r := [.i 0, .i 0]) (rows' := [[.i 8, .i x6]]) rfl rfl rfl aR rfl rfl rfl rfl rfl) ?_
 refine SmG.store hF rfl rfl rfl rfl rfl (bd (ys := [.i 9, .i x8]) (r := [.i 0, .i 0]) (rows' := [[.i 9, .i x8]]) rfl rfl rfl aR rfl rfl rfl rfl rfl) ?_
 refine SmG.store hF rfl rfl rfl rfl rfl (bd (ys := [.i 10, .i x8]) (r := [.i 0, .i 0]) (rows' := [[.i 10, .i x8]]) rfl rfl rfl aR rfl rfl rfl rfl rfl) ?_
 refine sn (sr hF (gv hF (x := .d (.agg 2 [.i 1, .i x2])) (oL (aG rfl rfl bA aR rfl rfl)) (gv hF (x := .d (.agg 2 [.i 3, .i 0])) (oL (aG rfl rfl bA aR rfl rfl)) (gv hF (x := .d (.list 2 ([(⟨1, x2⟩ : Stp), (⟨3, 0⟩ : Stp)].map Stp.row) true)) (oS (aw gF aR cR rfl rfl (PartsQ.cons rfl (PartsQ.cons rfl (PartsQ.nil _))) rfl)) (gv hF (x := .d (.agg 2 [.i 1, .i x2])) (oL (aG rfl rfl bA aR rfl rfl)) (gv hF (x := .d (.agg 2 [.i 4, .i 0])) (oL (aG rfl rfl bA aR rfl rfl)) (gv hF (x := .d (.agg 2 [.i 6, .i 0])) (oL (aG rfl rfl bA aR rfl rfl)) (gv hF (x := .d (.list 2 ([(⟨1, x2⟩ : Stp), (⟨4, 0⟩ : Stp), (⟨6, 0⟩ : Stp)].map Stp.row) true)) (oS (aw gF aR cR rfl rfl (PartsQ.cons rfl (PartsQ.cons rfl (PartsQ.cons rfl (PartsQ.nil _)))) rfl)) ?_))))))))
 refine gv hF (x := .d (.agg 2 [.i 2, .i x2])) (oL (aG rfl rfl bA aR rfl rfl)) (gv hF (x := .d (.list 2 ([(⟨2, x2⟩ : Stp)].map Stp.row) true)) (oS (aw gF aR cR rfl rfl (PartsQ.cons rfl (PartsQ.nil _)) rfl)) (gv hF (x := .d (.agg 2 [.i 2, .i x2])) (oL (aG rfl rfl bA aR rfl rfl)) (gv hF (x := .d (.agg 2 [.i 4, .i 0])) (oL (aG rfl rfl bA aR rfl rfl)) (gv hF (x := .d (.agg 2 [.i 6, .i 0])) (oL (aG rfl rfl bA aR rfl rfl)) (gv hF (x := .d (.list 2 ([(⟨2, x2⟩ : Stp), (⟨4, 0⟩ : Stp), (⟨6, 0⟩ : Stp)].map Stp.row) true)) (oS (aw gF aR cR rfl rfl (PartsQ.cons rfl (PartsQ.cons rfl (PartsQ.cons rfl (PartsQ.nil _)))) rfl)) (gv hF (x := .d (.agg 2 [.i 1, .i x2])) (oL (aG rfl rfl bA aR rfl rfl)) (gv hF (x := .d (.agg 2 [.i 4, .i 0])) (oL (aG rfl rfl bA aR rfl rfl)) (gv hF (x := .d (.agg 2 [.i 6, .i 0])) (oL (aG rfl rfl bA aR rfl rfl)) ?_))))))))
 refine gv hF (x := .d (.agg 2 [.i 1, .i x2])) (oL (aG rfl rfl bA aR rfl rfl)) (gv hF (x := .d (.list 2 ([(⟨1, x2⟩ : Stp), (⟨4, 0⟩ : Stp), (⟨6, 0⟩ : Stp), (⟨1, x2⟩ : Stp)].map Stp.row) true)) (oS (aw gF aR cR rfl rfl (PartsQ.cons rfl (PartsQ.cons rfl (PartsQ.cons rfl (PartsQ.cons rfl (PartsQ.nil _))))) rfl)) (gv hF (x := .d (.agg 2 [.i 1, .i x2])) (oL (aG rfl rfl bA aR rfl rfl)) (gv hF (x := .d (.agg 2 [.i 1, .i x4])) (oL (aG rfl rfl bA aR rfl rfl)) (gv hF (x := .d (.list 2 ([(⟨1, x2⟩ : Stp), (⟨1, x4⟩ : Stp)].map Stp.row) true)) (oS (aw gF aR cR rfl rfl (PartsQ.cons rfl (PartsQ.cons rfl (PartsQ.nil _))) rfl)) (gv hF (x := .d (.agg 2 [.i 1, .i x2])) (oL (aG rfl rfl bA aR rfl rfl)) (gv hF (x := .d (.agg 2 [.i 7, .i x2])) (oL (aG rfl rfl bA aR rfl rfl)) (gv hF (x := .d (.list 2 ([(⟨1, x2⟩ : Stp), (⟨7, x2⟩ : Stp)].map Stp.row) true)) (oS (aw gF aR cR rfl rfl (PartsQ.cons rfl (PartsQ.cons rfl (PartsQ.nil _))) rfl)) (gv hF (x := .d (.agg 2 [.i 1, .i x2])) (oL (aG rfl rfl bA aR rfl rfl)) ?_))))))))
 refine gv hF (x := .d (.agg 2 [.i 3, .i 0])) (oL (aG rfl rfl bA aR rfl rfl)) (gv hF (x := .d (.agg 2 [.i 8, .i x6])) (oL (aG rfl rfl bA aR rfl rfl)) (gv hF (x := .d (.list 2 ([(⟨1, x2⟩ : Stp), (⟨3, 0⟩ : Stp), (⟨8, x6⟩ : Stp)].map Stp.row) true)) (oS (aw gF aR cR rfl rfl (PartsQ.cons rfl (PartsQ.cons rfl (PartsQ.cons rfl (PartsQ.nil _)))) rfl)) (gv hF (x := .d (.agg 2 [.i 9, .i x8])) (oL (aG rfl rfl bA aR rfl rfl)) (gv hF (x := .d (.agg 2 [.i 1, .i x2])) (oL (aG rfl rfl bA aR rfl rfl)) (gv hF (x := .d (.agg 2 [.i 1, .i x2])) (oL (aG rfl rfl bA aR rfl rfl)) (gv hF (x := .d (.agg 2 [.i 10, .i x8])) (oL (aG rfl rfl bA aR rfl rfl)) (gv hF (x := .d (.list 2 ([(⟨9, x8⟩ : Stp), (⟨1, x2⟩ : Stp), (⟨1, x2⟩ : Stp), (⟨10, x8⟩ : Stp)].map Stp.row) true)) (oS (aw gF aR cR rfl rfl (PartsQ.cons rfl (PartsQ.cons rfl (PartsQ.cons rfl (PartsQ.cons rfl (PartsQ.nil _))))) rfl)) (gv hF (x := .d (.agg 2 [.i 1, .i x2])) (oL (aG rfl rfl bA aR rfl rfl)) ?_))))))))
 refine gv hF (x := .d (.agg 2 [.i 5, .i 0])) (oL (aG rfl rfl bA aR rfl rfl)) (gv hF (x := .d (.agg 2 [.i 1, .i x2])) (oL (aG rfl rfl bA aR rfl rfl)) (gv hF (x := .d (.agg 2 [.i 3, .i 0])) (oL (aG rfl rfl bA aR rfl rfl)) (gv hF (x := .d (.list 2 ([(⟨1, x2⟩ : Stp), (⟨5, 0⟩ : Stp), (⟨1, x2⟩ : Stp), (⟨3, 0⟩ : Stp)].map Stp.row) true)) (oS (aw gF aR cR rfl rfl (PartsQ.cons rfl (PartsQ.cons rfl (PartsQ.cons rfl (PartsQ.cons rfl (PartsQ.nil _))))) rfl)) (gv hF (x := .d (.agg 2 [.i 10, .i x8])) (oL (aG rfl rfl bA aR rfl rfl)) (gv hF (x := .d (.agg 2 [.i 1, .i x2])) (oL (aG rfl rfl bA aR rfl rfl)) (gv hF (x := .d (.list 2 ([(⟨10, x8⟩ : Stp), (⟨1, x2⟩ : Stp)].map Stp.row) true)) (oS (aw gF aR cR rfl rfl (PartsQ.cons rfl (PartsQ.cons rfl (PartsQ.nil _))) rfl)) (gv hF (x := .d (.agg 2 [.i 1, .i x2])) (oL (aG rfl rfl bA aR rfl rfl)) (gv hF (x := .d (.agg 2 [.i 4, .i 0])) (oL (aG rfl rfl bA aR rfl rfl)) ?_))))))))
 refine gv hF (x := .d (.agg 2 [.i 6, .i 0])) (oL (aG rfl rfl bA aR rfl rfl)) (gv hF (x := .d (.agg 2 [.i 1, .i x10])) (oL (aG rfl rfl bA aR rfl rfl)) (gv hF (x := .d (.list 2 ([(⟨1, x2⟩ : Stp), (⟨4, 0⟩ : Stp), (⟨6, 0⟩ : Stp), (⟨1, x10⟩ : Stp)].map Stp.row) true)) (oS (aw gF aR cR rfl rfl (PartsQ.cons rfl (PartsQ.cons rfl (PartsQ.cons rfl (PartsQ.cons rfl (PartsQ.nil _))))) rfl)) (gv hF (x := .d (.agg 2 [.i 1, .i x2])) (oL (aG rfl rfl bA aR rfl rfl)) (gv hF (x := .d (.agg 2 [.i 4, .i 0])) (oL (aG rfl rfl bA aR rfl rfl)) (gv hF (x := .d (.agg 2 [.i 6, .i 0])) (oL (aG rfl rfl bA aR rfl rfl)) (gv hF (x := .d (.agg 2 [.i 1, .i x4])) (oL (aG rfl rfl bA aR rfl rfl)) (gv hF (x := .d (.agg 2 [.i 4, .i 0])) (oL (aG rfl rfl bA aR rfl rfl)) (gv hF (x := .d (.agg 2 [.i 6, .i 0])) (oL (aG rfl rfl bA aR rfl rfl)) ?_))))))))
 refine gv hF (x := .d (.list 2 ([(⟨1, x2⟩ : Stp), (⟨4, 0⟩ : Stp), (⟨6, 0⟩ : Stp), (⟨1, x4⟩ : Stp), (⟨4, 0⟩ : Stp), (⟨6, 0⟩ : Stp)].map Stp.row) true)) (oS (aw gF aR cR rfl rfl (PartsQ.cons rfl (PartsQ.cons rfl (PartsQ.cons rfl (PartsQ.cons rfl (PartsQ.cons rfl (PartsQ.cons rfl (PartsQ.nil _))))))) rfl)) (gv hF (x := .d (.agg 2 [.i 2, .i x2])) (oL (aG rfl rfl bA aR rfl rfl)) (gv hF (x := .d (.agg 2 [.i 5, .i 0])) (oL (aG rfl rfl bA aR rfl rfl)) (gv hF (x := .d (.agg 2 [.i 1, .i x2])) (oL (aG rfl rfl bA aR rfl rfl)) (gv hF (x := .d (.list 2 ([(⟨2, x2⟩ : Stp), (⟨5, 0⟩ : Stp), (⟨1, x2⟩ : Stp)].map Stp.row) true)) (oS (aw gF aR cR rfl rfl (PartsQ.cons rfl (PartsQ.cons rfl (PartsQ.cons rfl (PartsQ.nil _)))) rfl)) (gv hF (x := .d (.agg 2 [.i 1, .i x2])) (oL (aG rfl rfl bA aR rfl rfl)) (gv hF (x := .d (.agg 2 [.i 4, .i 0])) (oL (aG rfl rfl bA aR rfl rfl)) (gv hF (x := .d (.agg 2 [.i 6, .i 0])) (oL (aG rfl rfl bA aR rfl rfl)) (gv hF (x := .d (.agg 2 [.i 8, .i x6])) (oL (aG rfl rfl bA aR rfl rfl)) ?_))))))))
 refine gv hF (x := .d (.list 2 ([(⟨1, x2⟩ : Stp), (⟨4, 0⟩ : Stp), (⟨6, 0⟩ : Stp), (⟨8, x6⟩ : Stp)].map Stp.row) true)) (oS (aw gF aR cR rfl rfl (PartsQ.cons rfl (PartsQ.cons rfl (PartsQ.cons rfl (PartsQ.cons rfl (PartsQ.nil _))))) rfl)) (gv hF (x := .d (.agg 2 [.i 1, .i x2])) (oL (aG rfl rfl bA aR rfl rfl)) (gv hF (x := .d (.agg 2 [.i 7, .i x2])) (oL (aG rfl rfl bA aR rfl rfl)) (gv hF (x := .d (.agg 2 [.i 1, .i x4])) (oL (aG rfl rfl bA aR rfl rfl)) (gv hF (x := .d (.list 2 ([(⟨1, x2⟩ : Stp), (⟨7, x2⟩ : Stp), (⟨1, x4⟩ : Stp)].map Stp.row) true)) (oS (aw gF aR cR rfl rfl (PartsQ.cons rfl (PartsQ.cons rfl (PartsQ.cons rfl (PartsQ.nil _)))) rfl)) ?_))))
 refine dq (wA (e := [(0, .d (.list 1 (a0.map aH) false)), (56, .d (.list 2 ([(⟨1, x2⟩ : Stp), (⟨3, 0⟩ : Stp)].map Stp.row) false)), (60, .d (.list 2 ([(⟨1, x2⟩ : Stp), (⟨4, 0⟩ : Stp), (⟨6, 0⟩ : Stp)].map Stp.row) false)), (62, .d (.list 2 ([(⟨2, x2⟩ : Stp)].map Stp.row) false)), (66, .d (.list 2 ([(⟨2, x2⟩ : Stp), (⟨4, 0⟩ : Stp), (⟨6, 0⟩ : Stp)].map Stp.row) false)), (71, .d (.list 2 ([(⟨1, x2⟩ : Stp), (⟨4, 0⟩ : Stp), (⟨6, 0⟩ : Stp), (⟨1, x2⟩ : Stp)].map Stp.row) false)), (74, .d (.list 2 ([(⟨1, x2⟩ : Stp), (⟨1, x4⟩ : Stp)].map Stp.row) false)), (77, .d (.list 2 ([(⟨1, x2⟩ : Stp), (⟨7, x2⟩ : Stp)].map Stp.row) false)), (81, .d (.list 2 ([(⟨1, x2⟩ : Stp), (⟨3, 0⟩ : Stp), (⟨8, x6⟩ : Stp)].map Stp.row) false)), (86, .d (.list 2 ([(⟨9, x8⟩ : Stp), (⟨1, x2⟩ : Stp), (⟨1, x2⟩ : Stp), (⟨10, x8⟩ : Stp)].map Stp.row) false)), (91, .d (.list 2 ([(⟨1, x2⟩ : Stp), (⟨5, 0⟩ : Stp), (⟨1, x2⟩ : Stp), (⟨3, 0⟩ : Stp)].map Stp.row) false)), (94, .d (.list 2 ([(⟨10, x8⟩ : Stp), (⟨1, x2⟩ : Stp)].map Stp.row) false)), (99, .d (.list 2 ([(⟨1, x2⟩ : Stp), (⟨4, 0⟩ : Stp), (⟨6, 0⟩ : Stp), (⟨1, x10⟩ : Stp)].map Stp.row) false)), (106, .d (.list 2 ([(⟨1, x2⟩ : Stp), (⟨4, 0⟩ : Stp), (⟨6, 0⟩ : Stp), (⟨1, x4⟩ : Stp), (⟨4, 0⟩ : Stp), (⟨6, 0⟩ : Stp)].map Stp.row) false)), (110, .d (.list 2 ([(⟨2, x2⟩ : Stp), (⟨5, 0⟩ : Stp), (⟨1, x2⟩ : Stp)].map Stp.row) false)), (115, .d (.list 2 ([(⟨1, x2⟩ : Stp), (⟨4, 0⟩ : Stp), (⟨6, 0⟩ : Stp), (⟨8, x6⟩ : Stp)].map Stp.row) false)), (119, .d (.list 2 ([(⟨1, x2⟩ : Stp), (⟨7, x2⟩ : Stp), (⟨1, x4⟩ : Stp)].map Stp.row) false))]) (g := []) (m := 12)) rfl ?_
 refine gv hF (x := .d (.list 1 ([[(⟨1, x2⟩ : Stp), (⟨3, 0⟩ : Stp)], [(⟨1, x2⟩ : Stp), (⟨4, 0⟩ : Stp), (⟨6, 0⟩ : Stp)], [(⟨2, x2⟩ : Stp)], [(⟨2, x2⟩ : Stp), (⟨4, 0⟩ : Stp), (⟨6, 0⟩ : Stp)], [(⟨1, x2⟩ : Stp), (⟨4, 0⟩ : Stp), (⟨6, 0⟩ : Stp), (⟨1, x2⟩ : Stp)], [(⟨1, x2⟩ : Stp), (⟨1, x4⟩ : Stp)], [(⟨1, x2⟩ : Stp), (⟨7, x2⟩ : Stp)], [(⟨1, x2⟩ : Stp), (⟨3, 0⟩ : Stp), (⟨8, x6⟩ : Stp)], [(⟨9, x8⟩ : Stp), (⟨1, x2⟩ : Stp), (⟨1, x2⟩ : Stp), (⟨10, x8⟩ : Stp)], [(⟨1, x2⟩ : Stp), (⟨5, 0⟩ : Stp), (⟨1, x2⟩ : Stp), (⟨3, 0⟩ : Stp)], [(⟨10, x8⟩ : Stp), (⟨1, x2⟩ : Stp)], [(⟨1, x2⟩ : Stp), (⟨4, 0⟩ : Stp), (⟨6, 0⟩ : Stp), (⟨1, x10⟩ : Stp)], [(⟨1, x2⟩ : Stp), (⟨4, 0⟩ : Stp), (⟨6, 0⟩ : Stp), (⟨1, x4⟩ : Stp), (⟨4, 0⟩ : Stp), (⟨6, 0⟩ : Stp)], [(⟨2, x2⟩ : Stp), (⟨5, 0⟩ : Stp), (⟨1, x2⟩ : Stp)], [(⟨1, x2⟩ : Stp), (⟨4, 0⟩ : Stp), (⟨6, 0⟩ : Stp), (⟨8, x6⟩ : Stp)], [(⟨1, x2⟩ : Stp), (⟨7, x2⟩ : Stp), (⟨1, x4⟩ : Stp)]].map (ax 2 Stp.row)) true)) (oS (aw tB qz sf rfl rfl (PartsQ.cons rfl (PartsQ.cons rfl (PartsQ.cons rfl (PartsQ.cons rfl (PartsQ.cons rfl (PartsQ.cons rfl (PartsQ.cons rfl (PartsQ.cons rfl (PartsQ.cons rfl (PartsQ.cons rfl (PartsQ.cons rfl (PartsQ.cons rfl (PartsQ.cons rfl (PartsQ.cons rfl (PartsQ.cons rfl (PartsQ.cons rfl (PartsQ.nil _))))))))))))))))) rfl)) (gv hF oA (sn (sr hF (gv hF oM (gv hF oM ?_)))))
 obtain ⟨x11, hx11, h⟩ := aa h
 refine cS hF (fN hx11) ?_
 refine gv hF oM (gv hF (oN (aY tB)) ?_)
 obtain ⟨x12, hx12, h⟩ := aa h
 refine gv hF (oB (bM hx12)) ?_
 obtain ⟨x13, hx13, h⟩ := aa h
 refine gv hF (oI (aT tB qz hx13)) (gv hF (oL (lP1 yS rfl)) (gv hF oA (sn (Sm.ret ?_))))
 obtain rfl := ac h
 exact bu rfl rfl
noncomputable def gj (a0 : List Stp) (a1 : Int) (a2 : Int) (a3 : Int) (s1 : (Int × (List Stp))) : Option ((Int × (List Stp)) ⊕ List Stp) :=
 bif (decide (s1.1 < (a0.length : Int))) then (
  ob ((
   ob (idx a0 s1.1) fun x6 =>
   ob ((
    ob ((
     bif (x6.op == 1) then (
      some (x6.op == 1)
     ) else (
      bif (x6.op == 2) then (
       some (x6.op == 2)
      ) else (
       some (x6.op == 7)
      )
     )
     : Option Bool)) fun v9 =>
    bif v9 then (
     ob (cF x6.n a1) fun x11 =>
     some (.inl x11)
    ) else (
     bif (x6.op == 8) then (
      ob (cF x6.n a2) fun x13 =>
      some (.inl x13)
     ) else (
      ob ((
       bif (x6.op == 9) then (
        some (x6.op == 9)
       ) else (
        some (x6.op == 10)
       )
       : Option Bool)) fun v15 =>
      bif v15 then (
       bif (a3 == 0) then (
        some (.inr s1.2)
       ) else (
        ob (cF x6.n a3) fun x18 =>
        some (.inl x18)
       )
      ) else (
       some (.inl x6.n)
      )
     )
    )
    : Option (Int ⊕ List Stp))) fun o21 => match o21 with
   | .inl v19 => (
    ob (app s1.2 [(⟨x6.op, v19⟩ : Stp)]) fun x20 =>
    some x20
    )
   | .inr e22 => some e22
   : Option (List Stp))) fun v23 =>
  ob (arI .i64 (s1.1 + 1)) fun x24 =>
  some (.inl (x24, v23))
 ) else (
  some (.inr s1.2)
 )
noncomputable def fY (a0 : List Stp) (a1 : Int) (a2 : Int) (a3 : Int) : Option (List Stp) :=
 ob ((
  bm (gj a0 a1 a2 a3) (0, ([] : List Stp))
  : Option (List Stp))) fun v25 =>
 bif ((v25.length : Int) == 0) then (
  some [(⟨3, 0⟩ : Stp)]
 ) else (
  some v25
 )
set_option maxHeartbeats 4000000 in
theorem nM {a0 : List Stp} {a1 : Int} {a2 : Int} {a3 : Int} {r : List Stp} (h : fY a0 a1 a2 a3 = some r) : aj Tryd.prog HG 81 [.list 2 (a0.map Stp.row) false, .i a1, .i a2, .i a3] (.list 2 (r.map Stp.row) false) := by
 unfold fY at h
 refine aj.of Tryd.func81 rfl Tryd.ntmps81 (by simp) ?_
 intro F hF h0 hT
 show Sm F _ _ ⟨[(0, .d (.list 2 (a0.map Stp.row) false)), (1, .i a1), (2, .i a2), (3, .i a3)], [], 0⟩
 refine sr hF (gv hF oA (sn (sr hF (gv hF (x := .d (.list 2 (([] : List Stp).map Stp.row) true)) (oS (dN gF aR)) (gv hF oA (sn (Sm.seq ?_)))))))
 obtain ⟨v25, hv25, h⟩ := aa h
 refine aW ⟨[(9, .d (.list 2 (v25.map Stp.row) false))], [], 1⟩ ?_ ?_
 ·refine Sm.seq ?_
  refine sr hF (gv hF oM (gv hF (oN (aY gF)) (gv hF (oB (cD)) (sn ?_))))
  refine bw hF rfl (fun hc26 => ?_) (fun hc26 => ?_)
  ·replace h := ifT hc26 h
   refine sr hF (gv hF (x := .d (.agg 2 [.i 3, .i 0])) (a8 rfl j9 (by kernel_rfl) rfl (bg (n := 2) cR i7 rfl rfl)) (gv hF (x := .d (.list 2 ([(⟨3, 0⟩ : Stp)].map Stp.row) true)) (oS (aw gF aR cR rfl rfl (PartsQ.cons rfl (PartsQ.nil _)) rfl)) (gv hF oA (sn (Sm.ret ?_)))))
   obtain rfl := ac h
   exact dS (RetR.cons (RetO.tmp rfl) (RetR.nil)) (by repeat' first | exact D.le.refl _ | exact eV _ _ _ | exact dL _ _ _ | refine ff ?_ | exact LeRows.nil | refine LeRows.cons ?_ ?_ | exact LeL.nil | refine LeL.cons ?_ ?_ | refine fe ?_ | refine fd ?_)
  replace h := ifF hc26 h
  refine sk (sr hF (gv hF oM (gv hF oA (sn (Sm.ret ?_)))))
  obtain rfl := ac h
  exact bu rfl rfl
 replace h := hv25
 refine sr hF (gv hF oA (sn (Sm.block ?_)))
 refine Sm.to (kA (e := [(0, .d (.list 2 (a0.map Stp.row) false)), (1, .i a1), (2, .i a2), (3, .i a3), (9, .d (.list 2 ([].map Stp.row) true)), (10, .i 0)]) (g := []) (m := 0)) ?_
 refine Sm.own (t := 9) 2 rfl ?_
 refine ba (gj a0 a1 a2 a3) (fun s1 => ⟨[(0, .d (.list 2 (a0.map Stp.row) false)), (1, .i a1), (2, .i a2), (3, .i a3), (9, .sref 0 0 (s1.2.map Stp.row).length), (10, .i s1.1)], [(0, dB 2 (s1.2.map Stp.row))], 1⟩) (0, ([] : List Stp)) h (kA) ?_
 intro n2 s1 o3 h hd4
 unfold gj at h
 refine Sm.seq (sr hF (gv hF oM (gv hF oM (gv hF (oN (aY gF)) (gv hF (oB (bh)) (sn ?_))))))
 refine ay hF rfl (fun hc5 => ?_) (fun hc5 => ?_)
 ·replace h := ifF hc5 h
  refine Sm.exit ?_
  replace h := aC h hd4
  obtain rfl := ac h
  exact (aL (kA (e := [(9, .sref 0 0 (s1.2.map Stp.row).length)]) (g := [(0, dB 2 (s1.2.map Stp.row))]) (m := 1)) (fA (l := 0) (sz := 2) (s1.2.map Stp.row)))
 replace h := ifT hc5 h
 refine sk (Sm.seq ?_)
 obtain ⟨v23, hv23, h⟩ := aa h
 refine aW ⟨[(0, .d (.list 2 (a0.map Stp.row) false)), (1, .i a1), (2, .i a2), (3, .i a3), (9, .sref 0 0 (v23.map Stp.row).length), (10, .i s1.1)], [(0, dB 2 (v23.map Stp.row))], 2⟩ ?_ ?_
 ·refine ab hF rfl ?_
  refine gv hF oM ?_
  obtain ⟨x24, hx24, h⟩ := aa h
  refine gv hF (oB (aU hx24)) (gv hF oA (SmG.nil ?_))
  exact bc (aX h hd4) (aL (kA (e := [(0, .d (.list 2 (a0.map Stp.row) false)), (1, .i a1), (2, .i a2), (3, .i a3), (9, .sref 0 0 (v23.map Stp.row).length), (10, .i x24)]) (g := [(0, dB 2 (v23.map Stp.row))]) (m := 2)) (xA 1))
 replace h := hv23
 refine Sm.block (sr hF (gv hF oM (gv hF oM ?_)))
 obtain ⟨x6, hx6, h⟩ := aa h
 refine gv hF (oI (aT gF aR hx6)) (gv hF (x := .d (.agg 2 (Stp.row x6))) (oL (bR bA aR rfl rfl)) ?_)
 refine SmG.new hF rfl rfl rfl (aO rfl i4) ?_
 refine SmG.store hF rfl rfl rfl rfl rfl (bd (ys := [.i x6.op, .i x6.n]) (r := [.i 0, .i 0]) (rows' := [[.i x6.op, .i x6.n]]) rfl rfl rfl aR rfl rfl rfl rfl rfl) ?_
 refine sn (Sm.seq ?_)
 obtain ⟨o21, ho21, h⟩ := aa h
 rcases iZ o21 with ⟨e22, rfl⟩ | ⟨v19, rfl⟩
 ·have he22 := ac h
  subst he22
  replace h := ho21
  refine sr hF (gv hF (oF (aD uA)) (gv hF (oL (bZ rfl rfl ag3 rfl)) (sn (Sm.block (Sm.seq ?_)))))
  obtain ⟨v9, hv9, h⟩ := aa h
  refine dt ⟨[(0, .d (.list 2 (a0.map Stp.row) false)), (1, .i a1), (2, .i a2), (3, .i a3), (9, .sref 0 0 (s1.2.map Stp.row).length), (10, .i s1.1), (11, .ref 1 0 0), (24, .i x6.op), (25, .d (.v (.bool v9)))], [(1, ⟨2, [[.i x6.op, .i x6.n]]⟩), (0, dB 2 (s1.2.map Stp.row))], 2⟩ ?_ ?_
  ·replace h := hv9
   refine sr hF (gv hF (oB (cD)) (gv hF oA (sn ?_)))
   refine bw hF rfl (fun hc7 => ?_) (fun hc7 => ?_)
   ·replace h := ifT hc7 h
    refine Sm.skip ?_
    obtain rfl := ac h
    exact (kA)
   replace h := ifF hc7 h
   refine sr hF (gv hF (oB (cD)) (gv hF oA (sn ?_)))
   refine bw hF rfl (fun hc8 => ?_) (fun hc8 => ?_)
   ·replace h := ifT hc8 h
    refine Sm.skip ?_
    obtain rfl := ac h
    exact (kA)
   replace h := ifF hc8 h
   refine ab hF rfl ?_
   refine gv hF (oB (cD)) (gv hF oA (SmG.nil ?_))
   obtain rfl := ac h
   exact (kA)
  refine bw hF rfl (fun hc10 => ?_) (fun hc10 => ?_)
  ·replace h := ifT hc10 h
   refine ab hF rfl ?_
   refine gv hF (oF (aD gI)) (gv hF (oL (bZ rfl rfl ag3 rfl)) (gv hF oM ?_))
   obtain ⟨x11, hx11, h⟩ := aa h
   refine gv hF (oB (bM hx11)) (gv hF (oF (aD gI)) ?_)
   refine SmG.store hF rfl rfl rfl rfl rfl (cM (rows' := [[.i x6.op, .i x11]]) rfl rfl rfl sz3 rfl rfl rfl) ?_
   refine SmG.nil (ak ?_)
   cases h
  replace h := ifF hc10 h
  refine sr hF (gv hF (oB (cD)) (gv hF oA (sn ?_)))
  refine bw hF rfl (fun hc12 => ?_) (fun hc12 => ?_)
  ·replace h := ifT hc12 h
   refine ab hF rfl ?_
   refine gv hF (oF (aD gI)) (gv hF (oL (bZ rfl rfl ag3 rfl)) (gv hF oM ?_))
   obtain ⟨x13, hx13, h⟩ := aa h
   refine gv hF (oB (bM hx13)) (gv hF (oF (aD gI)) ?_)
   refine SmG.store hF rfl rfl rfl rfl rfl (cM (rows' := [[.i x6.op, .i x13]]) rfl rfl rfl sz3 rfl rfl rfl) ?_
   refine SmG.nil (ak ?_)
   cases h
  replace h := ifF hc12 h
  refine Sm.seq ?_
  obtain ⟨v15, hv15, h⟩ := aa h
  refine dt ⟨[(0, .d (.list 2 (a0.map Stp.row) false)), (1, .i a1), (2, .i a2), (3, .i a3), (9, .sref 0 0 (s1.2.map Stp.row).length), (10, .i s1.1), (11, .ref 1 0 0), (41, .d (.v (.bool v15)))], [(1, ⟨2, [[.i x6.op, .i x6.n]]⟩), (0, dB 2 (s1.2.map Stp.row))], 2⟩ ?_ ?_
  ·replace h := hv15
   refine sr hF (gv hF (oB (cD)) (gv hF oA (sn ?_)))
   refine bw hF rfl (fun hc14 => ?_) (fun hc14 => ?_)
   ·replace h := ifT hc14 h
    refine Sm.skip ?_
    obtain rfl := ac h
    exact (kA)
   replace h := ifF hc14 h
   refine ab hF rfl ?_
   refine gv hF (oB (cD)) (gv hF oA (SmG.nil ?_))
   obtain rfl := ac h
   exact (kA)
  refine ay hF rfl (fun hc16 => ?_) (fun hc16 => ?_)
  ·replace h := ifF hc16 h
   refine Sm.skip ?_
   refine ak ?_
   cases h
  replace h := ifT hc16 h
  refine Sm.seq (sr hF (gv hF oM (gv hF (oB (cD)) (sn ?_))))
  refine bw hF rfl (fun hc17 => ?_) (fun hc17 => ?_)
  ·replace h := ifT hc17 h
   refine Sm.exit ?_
   replace h := gr h
   obtain rfl := ac h
   exact (kA)
  replace h := ifF hc17 h
  refine sk ?_
  refine ab hF rfl ?_
  refine gv hF (oF (aD gI)) (gv hF (oL (bZ rfl rfl ag3 rfl)) (gv hF oM ?_))
  obtain ⟨x18, hx18, h⟩ := aa h
  refine gv hF (oB (bM hx18)) (gv hF (oF (aD gI)) ?_)
  refine SmG.store hF rfl rfl rfl rfl rfl (cM (rows' := [[.i x6.op, .i x18]]) rfl rfl rfl sz3 rfl rfl rfl) ?_
  refine SmG.nil (ak ?_)
  cases h
 refine aW ⟨[(0, .d (.list 2 (a0.map Stp.row) false)), (1, .i a1), (2, .i a2), (3, .i a3), (9, .sref 0 0 (s1.2.map Stp.row).length), (10, .i s1.1), (11, .ref 1 0 0)], [(1, ⟨2, [[.i x6.op, .i v19]]⟩), (0, dB 2 (s1.2.map Stp.row))], 2⟩ ?_ ?_
 ·refine ab hF rfl ?_
  refine gv hF oM (gv hF (x := .d (.agg 2 [.i x6.op, .i v19])) (oL (aG rfl rfl bA aR rfl rfl)) (gv hF (x := .d (.list 2 ([(⟨x6.op, v19⟩ : Stp)].map Stp.row) true)) (oS (aw gF aR cR rfl rfl (PartsQ.cons rfl (PartsQ.nil _)) rfl)) ?_))
  obtain ⟨x20, hx20, h⟩ := aa h
  refine aV hF Dd rfl (ys := [(⟨x6.op, v19⟩ : Stp)]) (row := Stp.row) rfl rfl rfl rfl rfl rfl rfl rfl (.inl rfl) hx20 (by (repeat' first | exact bn _ | refine be ?_ | refine am ?_ (aP _ _ _) | refine am ?_ (aP _ _ [_]) | refine am ?_ (bD (by rfl)))) ?_
  refine gv hF oA (SmG.nil (ak ?_))
  obtain rfl := ac h
  exact (kA)
 replace h := ho21
 refine sr hF (gv hF (oF (aD uA)) (gv hF (oL (bZ rfl rfl ag3 rfl)) (sn (Sm.block (Sm.seq ?_)))))
 obtain ⟨v9, hv9, h⟩ := aa h
 refine dt ⟨[(0, .d (.list 2 (a0.map Stp.row) false)), (1, .i a1), (2, .i a2), (3, .i a3), (9, .sref 0 0 (s1.2.map Stp.row).length), (10, .i s1.1), (11, .ref 1 0 0), (24, .i x6.op), (25, .d (.v (.bool v9)))], [(1, ⟨2, [[.i x6.op, .i x6.n]]⟩), (0, dB 2 (s1.2.map Stp.row))], 2⟩ ?_ ?_
 ·replace h := hv9
  refine sr hF (gv hF (oB (cD)) (gv hF oA (sn ?_)))
  refine bw hF rfl (fun hc7 => ?_) (fun hc7 => ?_)
  ·replace h := ifT hc7 h
   refine Sm.skip ?_
   obtain rfl := ac h
   exact (kA)
  replace h := ifF hc7 h
  refine sr hF (gv hF (oB (cD)) (gv hF oA (sn ?_)))
  refine bw hF rfl (fun hc8 => ?_) (fun hc8 => ?_)
  ·replace h := ifT hc8 h
   refine Sm.skip ?_
   obtain rfl := ac h
   exact (kA)
  replace h := ifF hc8 h
  refine ab hF rfl ?_
  refine gv hF (oB (cD)) (gv hF oA (SmG.nil ?_))
  obtain rfl := ac h
  exact (kA)
 refine bw hF rfl (fun hc10 => ?_) (fun hc10 => ?_)
 ·replace h := ifT hc10 h
  refine ab hF rfl ?_
  refine gv hF (oF (aD gI)) (gv hF (oL (bZ rfl rfl ag3 rfl)) (gv hF oM ?_))
  obtain ⟨x11, hx11, h⟩ := aa h
  refine gv hF (oB (bM hx11)) (gv hF (oF (aD gI)) ?_)
  refine SmG.store hF rfl rfl rfl rfl rfl (cM (rows' := [[.i x6.op, .i x11]]) rfl rfl rfl sz3 rfl rfl rfl) ?_
  refine SmG.nil (ak ?_)
  obtain rfl := ac (dg h)
  exact (kA)
 replace h := ifF hc10 h
 refine sr hF (gv hF (oB (cD)) (gv hF oA (sn ?_)))
 refine bw hF rfl (fun hc12 => ?_) (fun hc12 => ?_)
 ·replace h := ifT hc12 h
  refine ab hF rfl ?_
  refine gv hF (oF (aD gI)) (gv hF (oL (bZ rfl rfl ag3 rfl)) (gv hF oM ?_))
  obtain ⟨x13, hx13, h⟩ := aa h
  refine gv hF (oB (bM hx13)) (gv hF (oF (aD gI)) ?_)
  refine SmG.store hF rfl rfl rfl rfl rfl (cM (rows' := [[.i x6.op, .i x13]]) rfl rfl rfl sz3 rfl rfl rfl) ?_
  refine SmG.nil (ak ?_)
  obtain rfl := ac (dg h)
  exact (kA)
 replace h := ifF hc12 h
 refine Sm.seq ?_
 obtain ⟨v15, hv15, h⟩ := aa h
 refine dt ⟨[(0, .d (.list 2 (a0.map Stp.row) false)), (1, .i a1), (2, .i a2), (3, .i a3), (9, .sref 0 0 (s1.2.map Stp.row).length), (10, .i s1.1), (11, .ref 1 0 0), (41, .d (.v (.bool v15)))], [(1, ⟨2, [[.i x6.op, .i x6.n]]⟩), (0, dB 2 (s1.2.map Stp.row))], 2⟩ ?_ ?_
 ·replace h := hv15
  refine sr hF (gv hF (oB (cD)) (gv hF oA (sn ?_)))
  refine bw hF rfl (fun hc14 => ?_) (fun hc14 => ?_)
  ·replace h := ifT hc14 h
   refine Sm.skip ?_
   obtain rfl := ac h
   exact (kA)
  replace h := ifF hc14 h
  refine ab hF rfl ?_
  refine gv hF (oB (cD)) (gv hF oA (SmG.nil ?_))
  obtain rfl := ac h
  exact (kA)
 refine ay hF rfl (fun hc16 => ?_) (fun hc16 => ?_)
 ·replace h := ifF hc16 h
  refine Sm.skip ?_
  refine ak ?_
  obtain rfl := ac (dg h)
  exact (kA)
 replace h := ifT hc16 h
 refine Sm.seq (sr hF (gv hF oM (gv hF (oB (cD)) (sn ?_))))
 refine bw hF rfl (fun hc17 => ?_) (fun hc17 => ?_)
 ·replace h := ifT hc17 h
  refine Sm.exit ?_
  cases h
 replace h := ifF hc17 h
 refine sk ?_
 refine ab hF rfl ?_
 refine gv hF (oF (aD gI)) (gv hF (oL (bZ rfl rfl ag3 rfl)) (gv hF oM ?_))
 obtain ⟨x18, hx18, h⟩ := aa h
 refine gv hF (oB (bM hx18)) (gv hF (oF (aD gI)) ?_)
 refine SmG.store hF rfl rfl rfl rfl rfl (cM (rows' := [[.i x6.op, .i x18]]) rfl rfl rfl sz3 rfl rfl rfl) ?_
 refine SmG.nil (ak ?_)
 obtain rfl := ac (dg h)
 exact (kA)
noncomputable def eR (a0 : UInt8) (a1 : Int) (a2 : Int) (a3 : Int) : Option (List Stp) :=
 ob (jz .u8 (a0.toNat : Int) 16) fun x1 =>
 ob (jz .u8 (a0.toNat : Int) 16) fun x2 =>
 ob (cF (a0.toNat : Int) 5) fun x3 =>
 ob (arI .u8 (x2 + x3)) fun x4 =>
 ob (jz .u8 (a0.toNat : Int) 3) fun x5 =>
 ob (pA x1) fun x6 =>
 ob (pA x4) fun x7 =>
 ob (pA x5) fun x8 =>
 ob (f6 [a0, x6, x7, x8, a0]) fun x9 =>
 ob (fY x9 a1 a2 a3) fun x10 =>
 some x10
set_option maxHeartbeats 4000000 in
theorem jJ {a0 : UInt8} {a1 : Int} {a2 : Int} {a3 : Int} {r : List Stp} (h : eR a0 a1 a2 a3 = some r) : aj Tryd.prog HG 55 [.v (.int .u8 (a0.toNat : Int)), .i a1, .i a2, .i a3] (.list 2 (r.map Stp.row) false) := by
 unfold eR at h
 refine aj.of Tryd.func55 rfl Tryd.ntmps55 (by simp) ?_
 intro F hF h0 hT
 show Sm F _ _ ⟨[(0, .d (.v (.int .u8 (a0.toNat : Int)))), (1, .i a1), (2, .i a2), (3, .i a3)], [], 0⟩
 refine sr hF (gv hF oA (sn (sr hF (gv hF oM (gv hF oM ?_)))))
 obtain ⟨x1, hx1, h⟩ := aa h
 refine gv hF (oB (kC hx1)) (gv hF oM ?_)
 obtain ⟨x2, hx2, h⟩ := aa h
 refine gv hF (oB (kC hx2)) (gv hF oM ?_)
 obtain ⟨x3, hx3, h⟩ := aa h
 refine gv hF (oB (bM hx3)) ?_
 obtain ⟨x4, hx4, h⟩ := aa h
 refine gv hF (oB (aU hx4)) (gv hF oM ?_)
 obtain ⟨x5, hx5, h⟩ := aa h
 refine gv hF (oB (kC hx5)) (gv hF oM ?_)
 obtain ⟨x6, hx6, h⟩ := aa h
 obtain ⟨x7, hx7, h⟩ := aa h
 obtain ⟨x8, hx8, h⟩ := aa h
 refine gv hF (x := .d (.list 1 ([a0, x6, x7, x8, a0].map aH) true)) (oS (aw u24 sz5 ze5 rfl rfl (PartsQ.cons rfl (PartsQ.cons (qV hx6) (PartsQ.cons (qV hx7) (PartsQ.cons (qV hx8) (PartsQ.cons rfl (PartsQ.nil _)))))) rfl)) ?_
 obtain ⟨x9, hx9, h⟩ := aa h
 refine SmG.call hF rfl rfl (by kernel_rfl) rfl rfl rfl (aj.args (nO hx9) (fun C => (oE (fun _ h => h)))) ?_
 refine gv hF oM (gv hF oM (gv hF oM ?_))
 obtain ⟨x10, hx10, h⟩ := aa h
 refine cS hF (nM hx10) ?_
 refine gv hF oA (sn (Sm.ret ?_))
 obtain rfl := ac h
 exact bu rfl rfl
noncomputable def eH (a0 : Int) (a1 : Int) (s8 : (Int × (List (List Int)) × (List Int))) (s13 : (Int × (List Int))) : Option ((Int × (List Int)) ⊕ List Int) :=
 ob (arI .i64 (a0 * a1)) fun x17 =>
 bif (decide (s13.1 < x17)) then (
  ob (cF s13.1 a0) fun x19 =>
  ob (idx [0, 1, 1, 1, 0, (-1), (-1), (-1)] s8.1) fun x20 =>
  ob (arI .i64 (x19 + x20)) fun x21 =>
  ob (jz .i64 s13.1 a0) fun x22 =>
  ob (idx [(-1), (-1), 0, 1, 1, 1, 0, (-1)] s8.1) fun x23 =>
  ob (arI .i64 (x22 + x23)) fun x24 =>
  ob ((
   bif (decide (0 ≤ x21)) then (
    bif (decide (x21 < a0)) then (
     bif (decide (0 ≤ x24)) then (
      bif (decide (x24 < a1)) then (
       ob (arI .i64 (x24 * a0)) fun x29 =>
       ob (arI .i64 (x29 + x21)) fun x30 =>
       some x30
      ) else (
       some (-1)
      )
     ) else (
      some (-1)
     )
    ) else (
     some (-1)
    )
   ) else (
    some (-1)
   )
   : Option Int)) fun v31 =>
  ob (app s13.2 [v31]) fun x32 =>
  ob (arI .i64 (s13.1 + 1)) fun x33 =>
  some (.inl (x33, x32))
 ) else (
  some (.inr s13.2)
 )
noncomputable def fT (a0 : Int) (a1 : Int) (s8 : (Int × (List (List Int)) × (List Int))) : Option ((Int × (List (List Int)) × (List Int)) ⊕ ((List (List Int)) × (List Int))) :=
 bif (decide (s8.1 < 8)) then (
  ob ((
   ob ((
    bm (eH a0 a1 s8) (0, ([] : List Int))
    : Option (List Int))) fun v34 =>
   ob (app s8.2.1 [v34]) fun x35 =>
   ob (arI .i64 (s8.1 + 4)) fun x36 =>
   ob (cF x36 8) fun x37 =>
   ob (app s8.2.2 [x37]) fun x38 =>
   some (x35, x38)
   : Option ((List (List Int)) × (List Int)))) fun v39 =>
  ob (arI .i64 (s8.1 + 1)) fun x40 =>
  some (.inl (x40, v39.1, v39.2))
 ) else (
  some (.inr (s8.2.1, s8.2.2))
 )
noncomputable def fF (a0 : Int) (a1 : Int) : Option (Brd × Int) :=
 bif (decide (a0 < 1)) then (
  some ((⟨0, [], []⟩ : Brd), 1)
 ) else (
  bif (decide (a1 < 1)) then (
   some ((⟨0, [], []⟩ : Brd), 1)
  ) else (
   bif (decide (64 < a0)) then (
    some ((⟨0, [], []⟩ : Brd), 1)
   ) else (
    bif (decide (64 < a1)) then (
     some ((⟨0, [], []⟩ : Brd), 1)
    ) else (
     ob (arI .i64 (a0 * a1)) fun x5 =>
     bif (decide (64 < x5)) then (
      some ((⟨0, [], []⟩ : Brd), 1)
     ) else (
      ob (arI .i64 (a0 * a1)) fun x7 =>
      ob ((
       bm (fT a0 a1) (0, ([] : List (List Int)), ([] : List Int))
       : Option ((List (List Int)) × (List Int)))) fun v41 =>
      some ((⟨x7, v41.1, v41.2⟩ : Brd), 0)
     )
    )
   )
  )
 )
set_option maxHeartbeats 4000000 in
theorem nh {a0 : Int} {a1 : Int} {r : (Brd × Int)} (h : fF a0 a1 = some r) : aj Tryd.prog HG 79 [.i a0, .i a1] (.tup [.agg 3 (Brd.row r.1), .i r.2]) := by
 unfold fF at h
 refine aj.of Tryd.func79 rfl Tryd.ntmps79 (by simp) ?_
 intro F hF h0 hT
 show Sm F _ _ ⟨[(0, .i a0), (1, .i a1)], [], 0⟩
 refine sr hF ?_
 refine SmG.new hF rfl rfl rfl (aO rfl qP) ?_
 refine gv hF oA (sn (Sm.seq (sr hF (gv hF oM (gv hF (oB (bh)) ?_)))))
 rcases kU (decide (a0 < 1)) with hc1 | hc1
 ·replace h := ifT hc1 h
  refine gv hF (ar rfl rfl hc1) (gp hF (gp hF (gv hF (aJ rfl rfl rfl) (gv hF oM (gp hF (gp hF (gv hF (aJ rfl rfl rfl) (gv hF oM ?_))))))))
  refine gp hF (gp hF (gv hF (aJ rfl rfl rfl) (gv hF oM (gp hF (gp hF (gp hF (gp hF (gv hF (aJ rfl rfl rfl) ?_))))))))
  refine sn ?_
  refine cP hF rfl ?_
  refine sr hF (gv hF (x := .d (.agg 3 [.i 0, .z, .z])) (a8 rfl u73 (by kernel_rfl) rfl pM) ?_)
  refine SmG.store hF rfl rfl rfl rfl rfl (bd (ys := [.i 0, .z, .z]) (r := [.i 0, .z, .z]) (rows' := [[.i 0, .z, .z]]) rfl rfl rfl eD rfl rfl rfl rfl rfl) ?_
  refine gv hF oA (sn (Sm.ret ?_))
  obtain rfl := ac h
  exact dS (RetR.cons (RetO.cell rfl (aG (ds := [.i 0, .z, .z]) rfl rfl jl eD rfl rfl)) (RetR.cons (RetO.tmp rfl) (RetR.nil))) (by repeat' first | exact D.le.refl _ | exact eV _ _ _ | exact dL _ _ _ | refine ff ?_ | exact LeRows.nil | refine LeRows.cons ?_ ?_ | exact LeL.nil | refine LeL.cons ?_ ?_ | refine fe ?_ | refine fd ?_)
 replace h := ifF hc1 h
 refine gv hF (ar rfl rfl hc1) (gv hF oM (gv hF (oB (bh)) (gv hF (ap rfl rfl rfl) ?_)))
 rcases kU (decide (a1 < 1)) with hc2 | hc2
 ·replace h := ifT hc2 h
  refine gv hF (ar rfl rfl hc2) (gp hF (gp hF (gv hF (aJ rfl rfl rfl) (gv hF oM (gp hF (gp hF (gv hF (aJ rfl rfl rfl) (gv hF oM ?_))))))))
  refine gp hF (gp hF (gp hF (gp hF (gv hF (aJ rfl rfl rfl) (sn ?_)))))
  refine cP hF rfl ?_
  refine sr hF (gv hF (x := .d (.agg 3 [.i 0, .z, .z])) (a8 rfl u73 (by kernel_rfl) rfl pM) ?_)
  refine SmG.store hF rfl rfl rfl rfl rfl (bd (ys := [.i 0, .z, .z]) (r := [.i 0, .z, .z]) (rows' := [[.i 0, .z, .z]]) rfl rfl rfl eD rfl rfl rfl rfl rfl) ?_
  refine gv hF oA (sn (Sm.ret ?_))
  obtain rfl := ac h
  exact dS (RetR.cons (RetO.cell rfl (aG (ds := [.i 0, .z, .z]) rfl rfl jl eD rfl rfl)) (RetR.cons (RetO.tmp rfl) (RetR.nil))) (by repeat' first | exact D.le.refl _ | exact eV _ _ _ | exact dL _ _ _ | refine ff ?_ | exact LeRows.nil | refine LeRows.cons ?_ ?_ | exact LeL.nil | refine LeL.cons ?_ ?_ | refine fe ?_ | refine fd ?_)
 replace h := ifF hc2 h
 refine gv hF (ar rfl rfl hc2) (gv hF oM (gv hF (oB (jk)) (gv hF (ap rfl rfl rfl) ?_)))
 rcases kU (decide (64 < a0)) with hc3 | hc3
 ·replace h := ifT hc3 h
  refine gv hF (ar rfl rfl hc3) (gp hF (gp hF (gv hF (aJ rfl rfl rfl) (gv hF oM (gp hF (gp hF (gp hF (gp hF ?_))))))))
  refine gv hF (aJ rfl rfl rfl) (sn ?_)
  refine cP hF rfl ?_
  refine sr hF (gv hF (x := .d (.agg 3 [.i 0, .z, .z])) (a8 rfl u73 (by kernel_rfl) rfl pM) ?_)
  refine SmG.store hF rfl rfl rfl rfl rfl (bd (ys := [.i 0, .z, .z]) (r := [.i 0, .z, .z]) (rows' := [[.i 0, .z, .z]]) rfl rfl rfl eD rfl rfl rfl rfl rfl) ?_
  refine gv hF oA (sn (Sm.ret ?_))
  obtain rfl := ac h
  exact dS (RetR.cons (RetO.cell rfl (aG (ds := [.i 0, .z, .z]) rfl rfl jl eD rfl rfl)) (RetR.cons (RetO.tmp rfl) (RetR.nil))) (by repeat' first | exact D.le.refl _ | exact eV _ _ _ | exact dL _ _ _ | refine ff ?_ | exact LeRows.nil | refine LeRows.cons ?_ ?_ | exact LeL.nil | refine LeL.cons ?_ ?_ | refine fe ?_ | refine fd ?_)
 replace h := ifF hc3 h
 refine gv hF (ar rfl rfl hc3) (gv hF oM (gv hF (oB (jk)) (gv hF (ap rfl rfl rfl) ?_)))
 rcases kU (decide (64 < a1)) with hc4 | hc4
 ·replace h := ifT hc4 h
  refine gv hF (ar rfl rfl hc4) (gp hF (gp hF (gp hF (gp hF (gv hF (aJ rfl rfl rfl) (sn ?_))))))
  refine cP hF rfl ?_
  refine sr hF (gv hF (x := .d (.agg 3 [.i 0, .z, .z])) (a8 rfl u73 (by kernel_rfl) rfl pM) ?_)
  refine SmG.store hF rfl rfl rfl rfl rfl (bd (ys := [.i 0, .z, .z]) (r := [.i 0, .z, .z]) (rows' := [[.i 0, .z, .z]]) rfl rfl rfl eD rfl rfl rfl rfl rfl) ?_
  refine gv hF oA (sn (Sm.ret ?_))
  obtain rfl := ac h
  exact dS (RetR.cons (RetO.cell rfl (aG (ds := [.i 0, .z, .z]) rfl rfl jl eD rfl rfl)) (RetR.cons (RetO.tmp rfl) (RetR.nil))) (by repeat' first | exact D.le.refl _ | exact eV _ _ _ | exact dL _ _ _ | refine ff ?_ | exact LeRows.nil | refine LeRows.cons ?_ ?_ | exact LeL.nil | refine LeL.cons ?_ ?_ | refine fe ?_ | refine fd ?_)
 replace h := ifF hc4 h
 refine gv hF (ar rfl rfl hc4) (gv hF oM (gv hF oM ?_))
 obtain ⟨x5, hx5, h⟩ := aa h
 refine gv hF (oB (iH hx5)) (gv hF (oB (jk)) (gv hF (ap rfl rfl rfl) (sn ?_)))
 refine bw hF rfl (fun hc6 => ?_) (fun hc6 => ?_)
 ·replace h := ifT hc6 h
  refine sr hF (gv hF (x := .d (.agg 3 [.i 0, .z, .z])) (a8 rfl u73 (by kernel_rfl) rfl pM) ?_)
  refine SmG.store hF rfl rfl rfl rfl rfl (bd (ys := [.i 0, .z, .z]) (r := [.i 0, .z, .z]) (rows' := [[.i 0, .z, .z]]) rfl rfl rfl eD rfl rfl rfl rfl rfl) ?_
  refine gv hF oA (sn (Sm.ret ?_))
  obtain rfl := ac h
  exact dS (RetR.cons (RetO.cell rfl (aG (ds := [.i 0, .z, .z]) rfl rfl jl eD rfl rfl)) (RetR.cons (RetO.tmp rfl) (RetR.nil))) (by repeat' first | exact D.le.refl _ | exact eV _ _ _ | exact dL _ _ _ | refine ff ?_ | exact LeRows.nil | refine LeRows.cons ?_ ?_ | exact LeL.nil | refine LeL.cons ?_ ?_ | refine fe ?_ | refine fd ?_)
 replace h := ifF hc6 h
 refine sk (sr hF (gv hF (x := .d (.list 1 ([0, 1, 1, 1, 0, (-1), (-1), (-1)].map (af .i64)) true)) (oS (aw u30 sz3 ze3 rfl rfl (PartsQ.cons rfl (PartsQ.cons rfl (PartsQ.cons rfl (PartsQ.cons rfl (PartsQ.cons rfl (PartsQ.cons rfl (PartsQ.cons rfl (PartsQ.cons rfl (PartsQ.nil _))))))))) rfl)) (gv hF oA (sn (sr hF (gv hF (x := .d (.list 1 ([(-1), (-1), 0, 1, 1, 1, 0, (-1)].map (af .i64)) true)) (oS (aw u30 sz3 ze3 rfl rfl (PartsQ.cons rfl (PartsQ.cons rfl (PartsQ.cons rfl (PartsQ.cons rfl (PartsQ.cons rfl (PartsQ.cons rfl (PartsQ.cons rfl (PartsQ.cons rfl (PartsQ.nil _))))))))) rfl)) (gv hF oA (sn ?_))))))))
 refine sr hF (gv hF oM (gv hF oM ?_))
 obtain ⟨x7, hx7, h⟩ := aa h
 refine gv hF (oB (iH hx7)) (gv hF (x := .d (.agg 3 [.i x7, .z, .z])) (a8 rfl u73 (by kernel_rfl) rfl (bg (n := 3) yr At rfl rfl)) ?_)
 refine SmG.new hF rfl rfl rfl (aO rfl qP) ?_
 refine SmG.store hF rfl rfl rfl rfl rfl (bd (ys := [.i x7, .z, .z]) (r := [.i 0, .z, .z]) (rows' := [[.i x7, .z, .z]]) rfl rfl rfl eD rfl rfl rfl rfl rfl) ?_
 refine sn (Sm.seq ?_)
 obtain ⟨v41, hv41, h⟩ := aa h
 refine aW ⟨[(4, .ref 0 0 0), (8, .ref 1 0 0)], [(1, ⟨3, [[.i x7, .d (.list 1 (v41.1.map (ax 1 (af .i64))) false), .l v41.2]]⟩), (0, ⟨3, [[.i 0, .z, .z]]⟩)], 4⟩ ?_ ?_
 ·refine Sm.seq ?_
  refine ab hF rfl ?_
  refine gv hF (x := .d (.agg 3 [.i x7, .list 1 (v41.1.map (ax 1 (af .i64))) false, .l v41.2])) (oL (aG rfl rfl jl eD rfl rfl)) ?_
  refine SmG.store hF rfl rfl rfl rfl rfl (bd (ys := [.i x7, .d (.list 1 (v41.1.map (ax 1 (af .i64))) false), .l v41.2]) (r := [.i 0, .z, .z]) (rows' := [[.i x7, .d (.list 1 (v41.1.map (ax 1 (af .i64))) false), .l v41.2]]) rfl rfl rfl eD rfl rfl rfl rfl rfl) ?_
  refine gv hF oA (sn (Sm.ret ?_))
  obtain rfl := ac h
  exact dS (RetR.cons (RetO.cell rfl (aG (ds := [.i x7, .list 1 (v41.1.map (ax 1 (af .i64))) false, .l v41.2]) rfl rfl jl eD rfl rfl)) (RetR.cons (RetO.tmp rfl) (RetR.nil))) (D.le.refl _)
 replace h := hv41
 refine sr hF (gv hF oA (sn (Sm.block ?_)))
 refine Sm.to (kA (e := [(0, .i a0), (1, .i a1), (4, .ref 0 0 0), (6, .d (.list 1 ([0, 1, 1, 1, 0, (-1), (-1), (-1)].map (af .i64)) true)), (7, .d (.list 1 ([(-1), (-1), 0, 1, 1, 1, 0, (-1)].map (af .i64)) true)), (8, .ref 1 0 0), (9, .i 0)]) (g := [(1, ⟨3, [[.i x7, .z, .z]]⟩), (0, ⟨3, [[.i 0, .z, .z]]⟩)]) (m := 2)) ?_
 refine Sm.ownCell 1 0 1 1 rfl rfl rfl ?_
 refine Sm.ownCell 1 0 2 1 rfl rfl rfl ?_
 refine ba (fT a0 a1) (fun s8 => ⟨[(0, .i a0), (1, .i a1), (4, .ref 0 0 0), (6, .d (.list 1 ([0, 1, 1, 1, 0, (-1), (-1), (-1)].map (af .i64)) true)), (7, .d (.list 1 ([(-1), (-1), 0, 1, 1, 1, 0, (-1)].map (af .i64)) true)), (8, .ref 1 0 0), (9, .i s8.1)], [(3, dB 1 (s8.2.2.map (af .i64))), (2, dB 1 (s8.2.1.map (ax 1 (af .i64)))), (1, ⟨3, [[.i x7, .sref 2 0 (s8.2.1.map (ax 1 (af .i64))).length, .sref 3 0 (s8.2.2.map (af .i64)).length]]⟩), (0, ⟨3, [[.i 0, .z, .z]]⟩)], 4⟩) (0, ([] : List (List Int)), ([] : List Int)) h (kA) ?_
 intro n9 s8 o10 h hd11
 unfold fT at h
 refine Sm.seq (sr hF (gv hF oM (gv hF (oB (bh)) (sn ?_))))
 refine ay hF rfl (fun hc12 => ?_) (fun hc12 => ?_)
 ·replace h := ifF hc12 h
  refine Sm.exit ?_
  replace h := aC h hd11
  obtain rfl := ac h
  exact (aL (kA (e := [(4, .ref 0 0 0), (8, .ref 1 0 0)]) (g := [(3, dB 1 (s8.2.2.map (af .i64))), (2, dB 1 (s8.2.1.map (ax 1 (af .i64)))), (1, ⟨3, [[.i x7, .sref 2 0 (s8.2.1.map (ax 1 (af .i64))).length, .sref 3 0 (s8.2.2.map (af .i64)).length]]⟩), (0, ⟨3, [[.i 0, .z, .z]]⟩)]) (m := 4)) (aL (fA (l := 2) (sz := 1) (e := [(4, .ref 0 0 0), (8, .ref 1 0 0)]) (g := [(3, dB 1 (s8.2.2.map (af .i64))), (1, ⟨3, [[.i x7, .d (.list 1 (s8.2.1.map (ax 1 (af .i64))) false), .sref 3 0 (s8.2.2.map (af .i64)).length]]⟩), (0, ⟨3, [[.i 0, .z, .z]]⟩)]) (nx := 4) (s8.2.1.map (ax 1 (af .i64)))) (fA (l := 3) (sz := 1) (s8.2.2.map (af .i64)))))
 replace h := ifT hc12 h
 refine sk (Sm.seq ?_)
 obtain ⟨v39, hv39, h⟩ := aa h
 refine aW ⟨[(0, .i a0), (1, .i a1), (4, .ref 0 0 0), (6, .d (.list 1 ([0, 1, 1, 1, 0, (-1), (-1), (-1)].map (af .i64)) true)), (7, .d (.list 1 ([(-1), (-1), 0, 1, 1, 1, 0, (-1)].map (af .i64)) true)), (8, .ref 1 0 0), (9, .i s8.1)], [(3, dB 1 (v39.2.map (af .i64))), (2, dB 1 (v39.1.map (ax 1 (af .i64)))), (1, ⟨3, [[.i x7, .sref 2 0 (v39.1.map (ax 1 (af .i64))).length, .sref 3 0 (v39.2.map (af .i64)).length]]⟩), (0, ⟨3, [[.i 0, .z, .z]]⟩)], 5⟩ ?_ ?_
 ·refine ab hF rfl ?_
  refine gv hF oM ?_
  obtain ⟨x40, hx40, h⟩ := aa h
  refine gv hF (oB (aU hx40)) (gv hF oA (SmG.nil ?_))
  exact bc (aX h hd11) (aL (kA (e := [(0, .i a0), (1, .i a1), (4, .ref 0 0 0), (6, .d (.list 1 ([0, 1, 1, 1, 0, (-1), (-1), (-1)].map (af .i64)) true)), (7, .d (.list 1 ([(-1), (-1), 0, 1, 1, 1, 0, (-1)].map (af .i64)) true)), (8, .ref 1 0 0), (9, .i x40)]) (g := [(3, dB 1 (v39.2.map (af .i64))), (2, dB 1 (v39.1.map (ax 1 (af .i64)))), (1, ⟨3, [[.i x7, .sref 2 0 (v39.1.map (ax 1 (af .i64))).length, .sref 3 0 (v39.2.map (af .i64)).length]]⟩), (0, ⟨3, [[.i 0, .z, .z]]⟩)]) (m := 5)) (xA 4))
 replace h := hv39
 refine Sm.block (sr hF (gv hF (x := .d (.list 1 (([] : List Int).map (af .i64)) true)) (oS (dN u30 sz3)) (gv hF oA (sn (Sm.seq ?_)))))
 obtain ⟨v34, hv34, h⟩ := aa h
 refine aW ⟨[(0, .i a0), (1, .i a1), (4, .ref 0 0 0), (6, .d (.list 1 ([0, 1, 1, 1, 0, (-1), (-1), (-1)].map (af .i64)) true)), (7, .d (.list 1 ([(-1), (-1), 0, 1, 1, 1, 0, (-1)].map (af .i64)) true)), (8, .ref 1 0 0), (9, .i s8.1), (10, .l v34)], [(3, dB 1 (s8.2.2.map (af .i64))), (2, dB 1 (s8.2.1.map (ax 1 (af .i64)))), (1, ⟨3, [[.i x7, .sref 2 0 (s8.2.1.map (ax 1 (af .i64))).length, .sref 3 0 (s8.2.2.map (af .i64)).length]]⟩), (0, ⟨3, [[.i 0, .z, .z]]⟩)], 5⟩ ?_ ?_
 ·refine Sm.seq ?_
  refine ab hF rfl ?_
  refine gv hF (oF (aD kS)) (gv hF (oL (bZ rfl rfl pR rfl)) (gv hF oM (gv hF (x := .d (.list 1 ([v34].map (ax 1 (af .i64))) true)) (oS (aw u71 eE vq rfl rfl (PartsQ.cons rfl (PartsQ.nil _)) rfl)) ?_)))
  refine dq (wA (e := [(0, .i a0), (1, .i a1), (4, .ref 0 0 0), (6, .d (.list 1 ([0, 1, 1, 1, 0, (-1), (-1), (-1)].map (af .i64)) true)), (7, .d (.list 1 ([(-1), (-1), 0, 1, 1, 1, 0, (-1)].map (af .i64)) true)), (8, .ref 1 0 0), (9, .i s8.1), (96, .sref 2 0 (s8.2.1.map (ax 1 (af .i64))).length), (98, .d (.list 1 ([v34].map (ax 1 (af .i64))) true))]) (g := [(3, dB 1 (s8.2.2.map (af .i64))), (2, dB 1 (s8.2.1.map (ax 1 (af .i64)))), (1, ⟨3, [[.i x7, .any, .sref 3 0 (s8.2.2.map (af .i64)).length]]⟩), (0, ⟨3, [[.i 0, .z, .z]]⟩)]) (m := 5)) rfl ?_
  obtain ⟨x35, hx35, h⟩ := aa h
  refine aV hF AK rfl (ys := [v34]) (row := (ax 1 (af .i64))) rfl rfl rfl rfl rfl rfl rfl rfl (.inl rfl) hx35 (by (repeat' first | exact bn _ | refine be ?_ | refine am ?_ (aP _ _ _) | refine am ?_ (aP _ _ [_]) | refine am ?_ (bD (by rfl)))) ?_
  refine gv hF (oF (aD kS)) ?_
  refine SmG.store hF rfl rfl rfl rfl rfl (cM (rows' := [[.i x7, .sref 2 0 (x35.map (ax 1 (af .i64))).length, .sref 3 0 (s8.2.2.map (af .i64)).length]]) rfl rfl rfl yE rfl rfl rfl) ?_
  refine sn ?_
  refine ab hF rfl ?_
  refine gv hF (oF (aD tg)) (gv hF (oL (bZ rfl rfl eo rfl)) (gv hF oM ?_))
  obtain ⟨x36, hx36, h⟩ := aa h
  refine gv hF (oB (aU hx36)) ?_
  obtain ⟨x37, hx37, h⟩ := aa h
  refine gv hF (oB (bM hx37)) (gv hF (x := .d (.list 1 ([x37].map (af .i64)) true)) (oS (aw u30 sz3 ze3 rfl rfl (PartsQ.cons rfl (PartsQ.nil _)) rfl)) ?_)
  refine dq (wA (e := [(0, .i a0), (1, .i a1), (4, .ref 0 0 0), (6, .d (.list 1 ([0, 1, 1, 1, 0, (-1), (-1), (-1)].map (af .i64)) true)), (7, .d (.list 1 ([(-1), (-1), 0, 1, 1, 1, 0, (-1)].map (af .i64)) true)), (8, .ref 1 0 0), (9, .i s8.1), (102, .sref 3 0 (s8.2.2.map (af .i64)).length), (106, .d (.list 1 ([x37].map (af .i64)) true))]) (g := [(3, dB 1 (s8.2.2.map (af .i64))), (2, dB 1 (x35.map (ax 1 (af .i64)))), (1, ⟨3, [[.i x7, .sref 2 0 (x35.map (ax 1 (af .i64))).length, .any]]⟩), (0, ⟨3, [[.i 0, .z, .z]]⟩)]) (m := 5)) rfl ?_
  obtain ⟨x38, hx38, h⟩ := aa h
  refine aV hF kh rfl (ys := [x37]) (row := (af .i64)) rfl rfl rfl rfl rfl rfl rfl rfl (.inl rfl) hx38 (by (repeat' first | exact bn _ | refine be ?_ | refine am ?_ (aP _ _ _) | refine am ?_ (aP _ _ [_]) | refine am ?_ (bD (by rfl)))) ?_
  refine gv hF (oF (aD tg)) ?_
  refine SmG.store hF rfl rfl rfl rfl rfl (cM (rows' := [[.i x7, .sref 2 0 (x35.map (ax 1 (af .i64))).length, .sref 3 0 (x38.map (af .i64)).length]]) rfl rfl rfl eE rfl rfl rfl) ?_
  refine SmG.nil (ak ?_)
  obtain rfl := ac h
  exact (kA)
 replace h := hv34
 refine sr hF (gv hF oA (sn (Sm.block ?_)))
 refine Sm.to (kA (e := [(0, .i a0), (1, .i a1), (4, .ref 0 0 0), (6, .d (.list 1 ([0, 1, 1, 1, 0, (-1), (-1), (-1)].map (af .i64)) true)), (7, .d (.list 1 ([(-1), (-1), 0, 1, 1, 1, 0, (-1)].map (af .i64)) true)), (8, .ref 1 0 0), (9, .i s8.1), (10, .d (.list 1 ([].map (af .i64)) true)), (11, .i 0)]) (g := [(3, dB 1 (s8.2.2.map (af .i64))), (2, dB 1 (s8.2.1.map (ax 1 (af .i64)))), (1, ⟨3, [[.i x7, .sref 2 0 (s8.2.1.map (ax 1 (af .i64))).length, .sref 3 0 (s8.2.2.map (af .i64)).length]]⟩), (0, ⟨3, [[.i 0, .z, .z]]⟩)]) (m := 4)) ?_
 refine Sm.own (t := 10) 1 rfl ?_
 refine ba (eH a0 a1 s8) (fun s13 => ⟨[(0, .i a0), (1, .i a1), (4, .ref 0 0 0), (6, .d (.list 1 ([0, 1, 1, 1, 0, (-1), (-1), (-1)].map (af .i64)) true)), (7, .d (.list 1 ([(-1), (-1), 0, 1, 1, 1, 0, (-1)].map (af .i64)) true)), (8, .ref 1 0 0), (9, .i s8.1), (10, .sref 4 0 (s13.2.map (af .i64)).length), (11, .i s13.1)], [(4, dB 1 (s13.2.map (af .i64))), (3, dB 1 (s8.2.2.map (af .i64))), (2, dB 1 (s8.2.1.map (ax 1 (af .i64)))), (1, ⟨3, [[.i x7, .sref 2 0 (s8.2.1.map (ax 1 (af .i64))).length, .sref 3 0 (s8.2.2.map (af .i64)).length]]⟩), (0, ⟨3, [[.i 0, .z, .z]]⟩)], 5⟩) (0, ([] : List Int)) h (kA) ?_
 intro n14 s13 o15 h hd16
 unfold eH at h
 refine Sm.seq (sr hF (gv hF oM (gv hF oM (gv hF oM ?_))))
 obtain ⟨x17, hx17, h⟩ := aa h
 refine gv hF (oB (iH hx17)) (gv hF (oB (bh)) (sn ?_))
 refine ay hF rfl (fun hc18 => ?_) (fun hc18 => ?_)
 ·replace h := ifF hc18 h
  refine Sm.exit ?_
  replace h := aC h hd16
  obtain rfl := ac h
  exact (aL (kA (e := [(0, .i a0), (1, .i a1), (4, .ref 0 0 0), (6, .d (.list 1 ([0, 1, 1, 1, 0, (-1), (-1), (-1)].map (af .i64)) true)), (7, .d (.list 1 ([(-1), (-1), 0, 1, 1, 1, 0, (-1)].map (af .i64)) true)), (8, .ref 1 0 0), (9, .i s8.1), (10, .sref 4 0 (s13.2.map (af .i64)).length)]) (g := [(4, dB 1 (s13.2.map (af .i64))), (3, dB 1 (s8.2.2.map (af .i64))), (2, dB 1 (s8.2.1.map (ax 1 (af .i64)))), (1, ⟨3, [[.i x7, .sref 2 0 (s8.2.1.map (ax 1 (af .i64))).length, .sref 3 0 (s8.2.2.map (af .i64)).length]]⟩), (0, ⟨3, [[.i 0, .z, .z]]⟩)]) (m := 5)) (fA (l := 4) (sz := 1) (s13.2.map (af .i64))))
 replace h := ifT hc18 h
 refine sk (Sm.seq (Sm.block (Sm.seq ?_)))
 refine dG hF 7 ?_
 refine hv hF oM (hv hF oM ?_)
 obtain ⟨x19, hx19, h⟩ := aa h
 refine hv hF (oB (bM hx19)) (hv hF oM (hv hF oM ?_))
 obtain ⟨x20, hx20, h⟩ := aa h
 refine hv hF (oI (aT u30 sz3 hx20)) (hv hF (oL (lP1 ag3 rfl)) ?_)
 refine hE ?_
 obtain ⟨x21, hx21, h⟩ := aa h
 refine gv hF (oB (aU hx21)) (gv hF oA (sn (Sm.seq ?_)))
 refine dG hF 7 ?_
 refine hv hF oM (hv hF oM ?_)
 obtain ⟨x22, hx22, h⟩ := aa h
 refine hv hF (oB (kC hx22)) (hv hF oM (hv hF oM ?_))
 obtain ⟨x23, hx23, h⟩ := aa h
 refine hv hF (oI (aT u30 sz3 hx23)) (hv hF (oL (lP1 ag3 rfl)) ?_)
 refine hE ?_
 obtain ⟨x24, hx24, h⟩ := aa h
 refine gv hF (oB (aU hx24)) (gv hF oA (sn (sr hF (gv hF oA (sn (Sm.seq ?_))))))
 obtain ⟨v31, hv31, h⟩ := aa h
 refine aW ⟨[(0, .i a0), (1, .i a1), (4, .ref 0 0 0), (6, .d (.list 1 ([0, 1, 1, 1, 0, (-1), (-1), (-1)].map (af .i64)) true)), (7, .d (.list 1 ([(-1), (-1), 0, 1, 1, 1, 0, (-1)].map (af .i64)) true)), (8, .ref 1 0 0), (9, .i s8.1), (10, .sref 4 0 (s13.2.map (af .i64)).length), (11, .i s13.1), (14, .i v31)], [(4, dB 1 (s13.2.map (af .i64))), (3, dB 1 (s8.2.2.map (af .i64))), (2, dB 1 (s8.2.1.map (ax 1 (af .i64)))), (1, ⟨3, [[.i x7, .sref 2 0 (s8.2.1.map (ax 1 (af .i64))).length, .sref 3 0 (s8.2.2.map (af .i64)).length]]⟩), (0, ⟨3, [[.i 0, .z, .z]]⟩)], 5⟩ ?_ ?_
 ·refine ab hF rfl ?_
  refine gv hF oM (gv hF oM (gv hF (x := .d (.list 1 ([v31].map (af .i64)) true)) (oS (aw u30 sz3 ze3 rfl rfl (PartsQ.cons rfl (PartsQ.nil _)) rfl)) ?_))
  obtain ⟨x32, hx32, h⟩ := aa h
  refine aV hF kh rfl (ys := [v31]) (row := (af .i64)) rfl rfl rfl rfl rfl rfl rfl rfl (.inl rfl) hx32 (by (repeat' first | exact bn _ | refine be ?_ | refine am ?_ (aP _ _ _) | refine am ?_ (aP _ _ [_]) | refine am ?_ (bD (by rfl)))) ?_
  refine gv hF oA (SmG.nil (ak (ae ?_)))
  refine ab hF rfl ?_
  refine gv hF oM ?_
  obtain ⟨x33, hx33, h⟩ := aa h
  refine gv hF (oB (aU hx33)) (gv hF oA (SmG.nil ?_))
  exact bc (aX h hd16) (kA)
 replace h := hv31
 refine sr hF (gv hF oM (gv hF (oB (oW)) ?_))
 rcases br (decide (0 ≤ x21)) with hc25 | hc25
 ·replace h := ifF hc25 h
  refine gv hF (ar rfl rfl hc25) (gp hF (gp hF (gp hF (gv hF (ap rfl rfl rfl) (gv hF oM (gp hF (gp hF (gv hF (ap rfl rfl rfl) ?_))))))))
  refine gv hF oM (gp hF (gp hF (gp hF (gv hF (ap rfl rfl rfl) (sn ?_)))))
  refine bq hF rfl ?_
  refine Sm.skip ?_
  obtain rfl := ac h
  exact (kA)
 replace h := ifT hc25 h
 refine gv hF (ar rfl rfl hc25) (gv hF oM (gv hF oM (gv hF (oB (bh)) (gv hF (aJ rfl rfl rfl) ?_))))
 rcases br (decide (x21 < a0)) with hc26 | hc26
 ·replace h := ifF hc26 h
  refine gv hF (ar rfl rfl hc26) (gp hF (gp hF (gv hF (ap rfl rfl rfl) (gv hF oM (gp hF (gp hF (gp hF (gv hF (ap rfl rfl rfl) ?_))))))))
  refine sn ?_
  refine bq hF rfl ?_
  refine Sm.skip ?_
  obtain rfl := ac h
  exact (kA)
 replace h := ifT hc26 h
 refine gv hF (ar rfl rfl hc26) (gv hF oM (gv hF (oB (oW)) (gv hF (aJ rfl rfl rfl) ?_)))
 rcases br (decide (0 ≤ x24)) with hc27 | hc27
 ·replace h := ifF hc27 h
  refine gv hF (ar rfl rfl hc27) (gp hF (gp hF (gp hF (gv hF (ap rfl rfl rfl) (sn ?_)))))
  refine bq hF rfl ?_
  refine Sm.skip ?_
  obtain rfl := ac h
  exact (kA)
 replace h := ifT hc27 h
 refine gv hF (ar rfl rfl hc27) (gv hF oM (gv hF oM (gv hF (oB (bh)) (gv hF (aJ rfl rfl rfl) (sn ?_)))))
 refine ay hF rfl (fun hc28 => ?_) (fun hc28 => ?_)
 ·replace h := ifF hc28 h
  refine Sm.skip ?_
  obtain rfl := ac h
  exact (kA)
 replace h := ifT hc28 h
 refine ab hF rfl ?_
 refine gv hF oM (gv hF oM ?_)
 obtain ⟨x29, hx29, h⟩ := aa h
 refine gv hF (oB (iH hx29)) (gv hF oM ?_)
 obtain ⟨x30, hx30, h⟩ := aa h
 refine gv hF (oB (aU hx30)) (gv hF oA (SmG.nil ?_))
 obtain rfl := ac h
 exact (kA)
noncomputable def dF (a0 : Brd) (a1 : Int) (s4 : (Int × (List (List Int)))) (s9 : (Int × (List Int))) : Option ((Int × (List Int)) ⊕ List Int) :=
 bif (decide (s9.1 < a0.cells)) then (
  ob (idx a0.next s4.1) fun x14 =>
  ob (idx x14 s9.1) fun x15 =>
  ob ((
   bif (s9.1 == a1) then (
    some (-1)
   ) else (
    bif (x15 == a1) then (
     some (-1)
    ) else (
     some x15
    )
   )
   : Option Int)) fun v18 =>
  ob (app s9.2 [v18]) fun x19 =>
  ob (arI .i64 (s9.1 + 1)) fun x20 =>
  some (.inl (x20, x19))
 ) else (
  some (.inr s9.2)
 )
noncomputable def eY (a0 : Brd) (a1 : Int) (s4 : (Int × (List (List Int)))) : Option ((Int × (List (List Int))) ⊕ List (List Int)) :=
 bif (decide (s4.1 < (a0.next.length : Int))) then (
  ob ((
   ob ((
    bm (dF a0 a1 s4) (0, ([] : List Int))
    : Option (List Int))) fun v21 =>
   ob (app s4.2 [v21]) fun x22 =>
   some x22
   : Option (List (List Int)))) fun v23 =>
  ob (arI .i64 (s4.1 + 1)) fun x24 =>
  some (.inl (x24, v23))
 ) else (
  some (.inr s4.2)
 )
noncomputable def eO (a0 : Brd) (a1 : Int) : Option (Brd × Int) :=
 bif (decide (a1 < 0)) then (
  some ((⟨0, [], []⟩ : Brd), 1)
 ) else (
  bif (decide (a0.cells ≤ a1)) then (
   some ((⟨0, [], []⟩ : Brd), 1)
  ) else (
   ob (app ([] : List Int) a0.turn) fun x3 =>
   ob ((
    bm (eY a0 a1) (0, ([] : List (List Int)))
    : Option (List (List Int)))) fun v25 =>
   some ((⟨a0.cells, v25, x3⟩ : Brd), 0)
  )
 )
set_option maxHeartbeats 4000000 in
theorem lU {a0 : Brd} {a1 : Int} {r : (Brd × Int)} (h : eO a0 a1 = some r) : aj Tryd.prog HG 80 [.agg 3 (Brd.row a0), .i a1] (.tup [.agg 3 (Brd.row r.1), .i r.2]) := by
 unfold eO at h
 refine aj.of Tryd.func80 rfl Tryd.ntmps80 (by simp) ?_
 intro F hF h0 hT
 show Sm F _ _ ⟨[(0, .d (.agg 3 (Brd.row a0))), (1, .i a1)], [], 0⟩
 refine sr hF ?_
 refine bQ hF gi ?_
 refine SmG.new hF rfl rfl rfl (aO rfl qP) ?_
 refine gv hF oA (sn (Sm.seq (sr hF (gv hF oM (gv hF (oB (bh)) ?_)))))
 rcases kU (decide (a1 < 0)) with hc1 | hc1
 ·replace h := ifT hc1 h
  refine gv hF (ar rfl rfl hc1) (gp hF (gp hF (gp hF (gp hF (gv hF (aJ rfl rfl rfl) (sn ?_))))))
  refine cP hF rfl ?_
  refine sr hF (gv hF (x := .d (.agg 3 [.i 0, .z, .z])) (a8 rfl u73 (by kernel_rfl) rfl pM) ?_)
  refine SmG.store hF rfl rfl rfl rfl rfl (bd (ys := [.i 0, .z, .z]) (r := [.i 0, .z, .z]) (rows' := [[.i 0, .z, .z]]) rfl rfl rfl eD rfl rfl rfl rfl rfl) ?_
  refine gv hF oA (sn (Sm.ret ?_))
  obtain rfl := ac h
  exact dS (RetR.cons (RetO.cell rfl (aG (ds := [.i 0, .z, .z]) rfl rfl jl eD rfl rfl)) (RetR.cons (RetO.tmp rfl) (RetR.nil))) (by repeat' first | exact D.le.refl _ | exact eV _ _ _ | exact dL _ _ _ | refine ff ?_ | exact LeRows.nil | refine LeRows.cons ?_ ?_ | exact LeL.nil | refine LeL.cons ?_ ?_ | refine fe ?_ | refine fd ?_)
 replace h := ifF hc1 h
 refine gv hF (ar rfl rfl hc1) (gv hF oM (gv hF (oF (ai kM rfl)) (gv hF (oL (lP1 ag3 rfl)) (gv hF (oB (oW)) (gv hF (ap rfl rfl rfl) (sn ?_))))))
 refine bw hF rfl (fun hc2 => ?_) (fun hc2 => ?_)
 ·replace h := ifT hc2 h
  refine sr hF (gv hF (x := .d (.agg 3 [.i 0, .z, .z])) (a8 rfl u73 (by kernel_rfl) rfl pM) ?_)
  refine SmG.store hF rfl rfl rfl rfl rfl (bd (ys := [.i 0, .z, .z]) (r := [.i 0, .z, .z]) (rows' := [[.i 0, .z, .z]]) rfl rfl rfl eD rfl rfl rfl rfl rfl) ?_
  refine gv hF oA (sn (Sm.ret ?_))
  obtain rfl := ac h
  exact dS (RetR.cons (RetO.cell rfl (aG (ds := [.i 0, .z, .z]) rfl rfl jl eD rfl rfl)) (RetR.cons (RetO.tmp rfl) (RetR.nil))) (by repeat' first | exact D.le.refl _ | exact eV _ _ _ | exact dL _ _ _ | refine ff ?_ | exact LeRows.nil | refine LeRows.cons ?_ ?_ | exact LeL.nil | refine LeL.cons ?_ ?_ | refine fe ?_ | refine fd ?_)
 replace h := ifF hc2 h
 refine sk (Sm.seq ?_)
 refine dG hF 8 ?_
 refine hv hF (oF (ai kM rfl)) (hv hF (oL (lP1 ag3 rfl)) (hv hF (x := .d (.list 1 (([] : List Int).map (af .i64)) true)) (oS (dN u30 sz3)) (hv hF (oF (ai tg rfl)) (hv hF (oL (lP1 eo rfl)) ?_))))
 obtain ⟨x3, hx3, h⟩ := aa h
 refine aF.appendFullL hF kh rfl (xs := ([] : List Int)) (ys := a0.turn) (row := (af .i64)) rfl rfl rfl rfl rfl rfl rfl rfl (.inl rfl) (.inl rfl) hx3 ?_
 refine hv hF (x := .d (.agg 3 [.i a0.cells, .z, .l x3])) (a8 rfl u73 (by kernel_rfl) rfl (bg (n := 3) yr At rfl rfl)) ?_
 refine aF.new hF rfl rfl rfl rfl qP ?_
 refine hE ?_
 refine SmG.store hF rfl rfl rfl rfl rfl (bd (ys := [.i a0.cells, .z, .l x3]) (r := [.i 0, .z, .z]) (rows' := [[.i a0.cells, .z, .l x3]]) rfl rfl rfl eD rfl rfl rfl rfl rfl) ?_
 refine sn (Sm.seq ?_)
 obtain ⟨v25, hv25, h⟩ := aa h
 refine aW ⟨[(4, .ref 0 0 0), (6, .ref 1 0 0)], [(1, ⟨3, [[.i a0.cells, .d (.list 1 (v25.map (ax 1 (af .i64))) false), .l x3]]⟩), (0, ⟨3, [[.i 0, .z, .z]]⟩)], 3⟩ ?_ ?_
 ·refine Sm.seq ?_
  refine ab hF rfl ?_
  refine gv hF (x := .d (.agg 3 [.i a0.cells, .list 1 (v25.map (ax 1 (af .i64))) false, .l x3])) (oL (aG rfl rfl jl eD rfl rfl)) ?_
  refine SmG.store hF rfl rfl rfl rfl rfl (bd (ys := [.i a0.cells, .d (.list 1 (v25.map (ax 1 (af .i64))) false), .l x3]) (r := [.i 0, .z, .z]) (rows' := [[.i a0.cells, .d (.list 1 (v25.map (ax 1 (af .i64))) false), .l x3]]) rfl rfl rfl eD rfl rfl rfl rfl rfl) ?_
  refine gv hF oA (sn (Sm.ret ?_))
  obtain rfl := ac h
  exact dS (RetR.cons (RetO.cell rfl (aG (ds := [.i a0.cells, .list 1 (v25.map (ax 1 (af .i64))) false, .l x3]) rfl rfl jl eD rfl rfl)) (RetR.cons (RetO.tmp rfl) (RetR.nil))) (D.le.refl _)
 replace h := hv25
 refine sr hF (gv hF oA (sn (Sm.block ?_)))
 refine Sm.to (kA (e := [(1, .i a1), (2, .d (.ptr 3 (Brd.row a0))), (4, .ref 0 0 0), (6, .ref 1 0 0), (7, .i 0)]) (g := [(1, ⟨3, [[.i a0.cells, .z, .l x3]]⟩), (0, ⟨3, [[.i 0, .z, .z]]⟩)]) (m := 2)) ?_
 refine Sm.ownCell 1 0 1 1 rfl rfl rfl ?_
 refine ba (eY a0 a1) (fun s4 => ⟨[(1, .i a1), (2, .d (.ptr 3 (Brd.row a0))), (4, .ref 0 0 0), (6, .ref 1 0 0), (7, .i s4.1)], [(2, dB 1 (s4.2.map (ax 1 (af .i64)))), (1, ⟨3, [[.i a0.cells, .sref 2 0 (s4.2.map (ax 1 (af .i64))).length, .l x3]]⟩), (0, ⟨3, [[.i 0, .z, .z]]⟩)], 3⟩) (0, ([] : List (List Int))) h (kA) ?_
 intro n5 s4 o6 h hd7
 unfold eY at h
 refine Sm.seq (sr hF (gv hF oM (gv hF (oF (ai kS rfl)) (gv hF (oL (lP1 pR rfl)) (gv hF (oN (aY u71)) (gv hF (oB (bh)) (sn ?_)))))))
 refine ay hF rfl (fun hc8 => ?_) (fun hc8 => ?_)
 ·replace h := ifF hc8 h
  refine Sm.exit ?_
  replace h := aC h hd7
  obtain rfl := ac h
  exact (aL (kA (e := [(4, .ref 0 0 0), (6, .ref 1 0 0)]) (g := [(2, dB 1 (s4.2.map (ax 1 (af .i64)))), (1, ⟨3, [[.i a0.cells, .sref 2 0 (s4.2.map (ax 1 (af .i64))).length, .l x3]]⟩), (0, ⟨3, [[.i 0, .z, .z]]⟩)]) (m := 3)) (fA (l := 2) (sz := 1) (s4.2.map (ax 1 (af .i64)))))
 replace h := ifT hc8 h
 refine sk (Sm.seq ?_)
 obtain ⟨v23, hv23, h⟩ := aa h
 refine aW ⟨[(1, .i a1), (2, .d (.ptr 3 (Brd.row a0))), (4, .ref 0 0 0), (6, .ref 1 0 0), (7, .i s4.1)], [(2, dB 1 (v23.map (ax 1 (af .i64)))), (1, ⟨3, [[.i a0.cells, .sref 2 0 (v23.map (ax 1 (af .i64))).length, .l x3]]⟩), (0, ⟨3, [[.i 0, .z, .z]]⟩)], 4⟩ ?_ ?_
 ·refine ab hF rfl ?_
  refine gv hF oM ?_
  obtain ⟨x24, hx24, h⟩ := aa h
  refine gv hF (oB (aU hx24)) (gv hF oA (SmG.nil ?_))
  exact bc (aX h hd7) (aL (kA (e := [(1, .i a1), (2, .d (.ptr 3 (Brd.row a0))), (4, .ref 0 0 0), (6, .ref 1 0 0), (7, .i x24)]) (g := [(2, dB 1 (v23.map (ax 1 (af .i64)))), (1, ⟨3, [[.i a0.cells, .sref 2 0 (v23.map (ax 1 (af .i64))).length, .l x3]]⟩), (0, ⟨3, [[.i 0, .z, .z]]⟩)]) (m := 4)) (xA 3))
 replace h := hv23
 refine Sm.block (sr hF (gv hF (x := .d (.list 1 (([] : List Int).map (af .i64)) true)) (oS (dN u30 sz3)) (gv hF oA (sn (Sm.seq ?_)))))
 obtain ⟨v21, hv21, h⟩ := aa h
 refine aW ⟨[(1, .i a1), (2, .d (.ptr 3 (Brd.row a0))), (4, .ref 0 0 0), (6, .ref 1 0 0), (7, .i s4.1), (8, .l v21)], [(2, dB 1 (s4.2.map (ax 1 (af .i64)))), (1, ⟨3, [[.i a0.cells, .sref 2 0 (s4.2.map (ax 1 (af .i64))).length, .l x3]]⟩), (0, ⟨3, [[.i 0, .z, .z]]⟩)], 4⟩ ?_ ?_
 ·refine ab hF rfl ?_
  refine gv hF (oF (aD kS)) (gv hF (oL (bZ rfl rfl pR rfl)) (gv hF oM (gv hF (x := .d (.list 1 ([v21].map (ax 1 (af .i64))) true)) (oS (aw u71 eE vq rfl rfl (PartsQ.cons rfl (PartsQ.nil _)) rfl)) ?_)))
  refine dq (wA (e := [(1, .i a1), (2, .d (.ptr 3 (Brd.row a0))), (4, .ref 0 0 0), (6, .ref 1 0 0), (7, .i s4.1), (62, .sref 2 0 (s4.2.map (ax 1 (af .i64))).length), (64, .d (.list 1 ([v21].map (ax 1 (af .i64))) true))]) (g := [(2, dB 1 (s4.2.map (ax 1 (af .i64)))), (1, ⟨3, [[.i a0.cells, .any, .l x3]]⟩), (0, ⟨3, [[.i 0, .z, .z]]⟩)]) (m := 4)) rfl ?_
  obtain ⟨x22, hx22, h⟩ := aa h
  refine aV hF AK rfl (ys := [v21]) (row := (ax 1 (af .i64))) rfl rfl rfl rfl rfl rfl rfl rfl (.inl rfl) hx22 (by (repeat' first | exact bn _ | refine be ?_ | refine am ?_ (aP _ _ _) | refine am ?_ (aP _ _ [_]) | refine am ?_ (bD (by rfl)))) ?_
  refine gv hF (oF (aD kS)) ?_
  refine SmG.store hF rfl rfl rfl rfl rfl (cM (rows' := [[.i a0.cells, .sref 2 0 (x22.map (ax 1 (af .i64))).length, .l x3]]) rfl rfl rfl yE rfl rfl rfl) ?_
  refine SmG.nil (ak ?_)
  obtain rfl := ac h
  exact (kA)
 replace h := hv21
 refine sr hF (gv hF oA (sn (Sm.block ?_)))
 refine Sm.to (kA (e := [(1, .i a1), (2, .d (.ptr 3 (Brd.row a0))), (4, .ref 0 0 0), (6, .ref 1 0 0), (7, .i s4.1), (8, .d (.list 1 ([].map (af .i64)) true)), (9, .i 0)]) (g := [(2, dB 1 (s4.2.map (ax 1 (af .i64)))), (1, ⟨3, [[.i a0.cells, .sref 2 0 (s4.2.map (ax 1 (af .i64))).length, .l x3]]⟩), (0, ⟨3, [[.i 0, .z, .z]]⟩)]) (m := 3)) ?_
 refine Sm.own (t := 8) 1 rfl ?_
 refine ba (dF a0 a1 s4) (fun s9 => ⟨[(1, .i a1), (2, .d (.ptr 3 (Brd.row a0))), (4, .ref 0 0 0), (6, .ref 1 0 0), (7, .i s4.1), (8, .sref 3 0 (s9.2.map (af .i64)).length), (9, .i s9.1)], [(3, dB 1 (s9.2.map (af .i64))), (2, dB 1 (s4.2.map (ax 1 (af .i64)))), (1, ⟨3, [[.i a0.cells, .sref 2 0 (s4.2.map (ax 1 (af .i64))).length, .l x3]]⟩), (0, ⟨3, [[.i 0, .z, .z]]⟩)], 4⟩) (0, ([] : List Int)) h (kA) ?_
 intro n10 s9 o11 h hd12
 unfold dF at h
 refine Sm.seq (sr hF (gv hF oM (gv hF (oF (ai kM rfl)) (gv hF (oL (lP1 ag3 rfl)) (gv hF (oB (bh)) (sn ?_))))))
 refine ay hF rfl (fun hc13 => ?_) (fun hc13 => ?_)
 ·replace h := ifF hc13 h
  refine Sm.exit ?_
  replace h := aC h hd12
  obtain rfl := ac h
  exact (aL (kA (e := [(1, .i a1), (2, .d (.ptr 3 (Brd.row a0))), (4, .ref 0 0 0), (6, .ref 1 0 0), (7, .i s4.1), (8, .sref 3 0 (s9.2.map (af .i64)).length)]) (g := [(3, dB 1 (s9.2.map (af .i64))), (2, dB 1 (s4.2.map (ax 1 (af .i64)))), (1, ⟨3, [[.i a0.cells, .sref 2 0 (s4.2.map (ax 1 (af .i64))).length, .l x3]]⟩), (0, ⟨3, [[.i 0, .z, .z]]⟩)]) (m := 4)) (fA (l := 3) (sz := 1) (s9.2.map (af .i64))))
 replace h := ifT hc13 h
 refine sk (Sm.seq (Sm.block (sr hF (gv hF (oF (ai kS rfl)) (gv hF (oL (lP1 pR rfl)) (gv hF oM ?_))))))
 obtain ⟨x14, hx14, h⟩ := aa h
 refine gv hF (oI (aT u71 eE hx14)) (gv hF (oL (lP1 eo rfl)) (gv hF oM ?_))
 obtain ⟨x15, hx15, h⟩ := aa h
 refine gv hF (oI (aT u30 sz3 hx15)) (gv hF (oL (lP1 ag3 rfl)) (gv hF oA (sn (Sm.seq ?_))))
 obtain ⟨v18, hv18, h⟩ := aa h
 refine aW ⟨[(1, .i a1), (2, .d (.ptr 3 (Brd.row a0))), (4, .ref 0 0 0), (6, .ref 1 0 0), (7, .i s4.1), (8, .sref 3 0 (s9.2.map (af .i64)).length), (9, .i s9.1), (10, .i v18)], [(3, dB 1 (s9.2.map (af .i64))), (2, dB 1 (s4.2.map (ax 1 (af .i64)))), (1, ⟨3, [[.i a0.cells, .sref 2 0 (s4.2.map (ax 1 (af .i64))).length, .l x3]]⟩), (0, ⟨3, [[.i 0, .z, .z]]⟩)], 4⟩ ?_ ?_
 ·refine ab hF rfl ?_
  refine gv hF oM (gv hF oM (gv hF (x := .d (.list 1 ([v18].map (af .i64)) true)) (oS (aw u30 sz3 ze3 rfl rfl (PartsQ.cons rfl (PartsQ.nil _)) rfl)) ?_))
  obtain ⟨x19, hx19, h⟩ := aa h
  refine aV hF kh rfl (ys := [v18]) (row := (af .i64)) rfl rfl rfl rfl rfl rfl rfl rfl (.inl rfl) hx19 (by (repeat' first | exact bn _ | refine be ?_ | refine am ?_ (aP _ _ _) | refine am ?_ (aP _ _ [_]) | refine am ?_ (bD (by rfl)))) ?_
  refine gv hF oA (SmG.nil (ak (ae ?_)))
  refine ab hF rfl ?_
  refine gv hF oM ?_
  obtain ⟨x20, hx20, h⟩ := aa h
  refine gv hF (oB (aU hx20)) (gv hF oA (SmG.nil ?_))
  exact bc (aX h hd12) (kA)
 replace h := hv18
 refine sr hF (gv hF oM (gv hF oM (gv hF (oB (cD)) ?_)))
 rcases kU (s9.1 == a1) with hc16 | hc16
 ·replace h := ifT hc16 h
  refine gv hF (ar rfl rfl hc16) (gp hF (gp hF (gp hF (gv hF (aJ rfl rfl rfl) (sn ?_)))))
  refine cP hF rfl ?_
  refine ab hF rfl ?_
  refine gv hF oA (SmG.nil ?_)
  obtain rfl := ac h
  exact (kA)
 replace h := ifF hc16 h
 refine gv hF (ar rfl rfl hc16) (gv hF oM (gv hF oM (gv hF (oB (cD)) (gv hF (ap rfl rfl rfl) (sn ?_)))))
 refine ay hF rfl (fun hc17 => ?_) (fun hc17 => ?_)
 ·replace h := ifF hc17 h
  refine Sm.skip ?_
  obtain rfl := ac h
  exact (kA)
 replace h := ifT hc17 h
 refine ab hF rfl ?_
 refine gv hF oA (SmG.nil ?_)
 obtain rfl := ac h
 exact (kA)
noncomputable def fD (a0 : UInt8) (a1 : UInt8) (a2 : UInt8) : Option Brd :=
 ob (cF (a0.toNat : Int) 3) fun x1 =>
 ob (arI .i64 x1) fun x2 =>
 ob (arI .i64 (1 + x2)) fun x3 =>
 ob (cF (a1.toNat : Int) 3) fun x4 =>
 ob (arI .i64 x4) fun x5 =>
 ob (arI .i64 (1 + x5)) fun x6 =>
 ob (fF x3 x6) fun x7 =>
 ob ((
  bif (decide (200 < (a2.toNat : Int))) then (
   ob (cF (a2.toNat : Int) x7.1.cells) fun x9 =>
   ob (eO x7.1 x9) fun x10 =>
   some (x10.1.cells, x10.1.next, x10.1.turn)
  ) else (
   some (x7.1.cells, x7.1.next, x7.1.turn)
  )
  : Option (Int × (List (List Int)) × (List Int)))) fun v11 =>
 some (⟨v11.1, v11.2.1, v11.2.2⟩ : Brd)
set_option maxHeartbeats 4000000 in
theorem nc {a0 : UInt8} {a1 : UInt8} {a2 : UInt8} {r : Brd} (h : fD a0 a1 a2 = some r) : aj Tryd.prog HG 54 [.v (.int .u8 (a0.toNat : Int)), .v (.int .u8 (a1.toNat : Int)), .v (.int .u8 (a2.toNat : Int))] (.agg 3 (Brd.row r)) := by
 unfold fD at h
 refine aj.of Tryd.func54 rfl Tryd.ntmps54 (by simp) ?_
 intro F hF h0 hT
 show Sm F _ _ ⟨[(0, .d (.v (.int .u8 (a0.toNat : Int)))), (1, .d (.v (.int .u8 (a1.toNat : Int)))), (2, .d (.v (.int .u8 (a2.toNat : Int))))], [], 0⟩
 refine sr hF ?_
 refine SmG.new hF rfl rfl rfl (aO rfl qP) ?_
 refine sn (sr hF (gv hF oM ?_))
 obtain ⟨x1, hx1, h⟩ := aa h
 refine gv hF (oB (bM hx1)) ?_
 obtain ⟨x2, hx2, h⟩ := aa h
 refine gv hF (oC (ki u5 u3 hx2)) ?_
 obtain ⟨x3, hx3, h⟩ := aa h
 refine gv hF (oB (aU hx3)) (gv hF oM ?_)
 obtain ⟨x4, hx4, h⟩ := aa h
 refine gv hF (oB (bM hx4)) ?_
 obtain ⟨x5, hx5, h⟩ := aa h
 refine gv hF (oC (ki u5 u3 hx5)) ?_
 obtain ⟨x6, hx6, h⟩ := aa h
 refine gv hF (oB (aU hx6)) ?_
 obtain ⟨x7, hx7, h⟩ := aa h
 refine cS hF (nh hx7) ?_
 refine gv hF oM (gv hF (bS rfl rfl rfl) (gv hF (bS rfl rfl rfl) ?_))
 refine SmG.new hF rfl rfl rfl (aO rfl qP) ?_
 refine SmG.store hF rfl rfl rfl rfl rfl (bd (ys := [.i x7.1.cells, .d (.list 1 (x7.1.next.map (ax 1 (af .i64))) false), .l x7.1.turn]) (r := [.i 0, .z, .z]) (rows' := [[.i x7.1.cells, .d (.list 1 (x7.1.next.map (ax 1 (af .i64))) false), .l x7.1.turn]]) rfl rfl rfl eD rfl rfl rfl rfl rfl) ?_
 refine gv hF oA (sn (Sm.seq ?_))
 obtain ⟨v11, hv11, h⟩ := aa h
 refine aW ⟨[(6, .ref 0 0 0), (7, .ref 1 0 0)], [(1, ⟨3, [[.i v11.1, .d (.list 1 (v11.2.1.map (ax 1 (af .i64))) false), .l v11.2.2]]⟩), (0, ⟨3, [[.i 0, .z, .z]]⟩)], 2⟩ ?_ ?_
 ·refine Sm.seq ?_
  refine ab hF rfl ?_
  refine gv hF (x := .d (.agg 3 [.i v11.1, .list 1 (v11.2.1.map (ax 1 (af .i64))) false, .l v11.2.2])) (oL (aG rfl rfl jl eD rfl rfl)) ?_
  refine SmG.store hF rfl rfl rfl rfl rfl (bd (ys := [.i v11.1, .d (.list 1 (v11.2.1.map (ax 1 (af .i64))) false), .l v11.2.2]) (r := [.i 0, .z, .z]) (rows' := [[.i v11.1, .d (.list 1 (v11.2.1.map (ax 1 (af .i64))) false), .l v11.2.2]]) rfl rfl rfl eD rfl rfl rfl rfl rfl) ?_
  refine sn (Sm.ret ?_)
  obtain rfl := ac h
  exact dS (RetR.cons (RetO.cell rfl (aG (ds := [.i v11.1, .list 1 (v11.2.1.map (ax 1 (af .i64))) false, .l v11.2.2]) rfl rfl jl eD rfl rfl)) (RetR.nil)) (D.le.refl _)
 replace h := hv11
 refine sr hF (gv hF oM (gv hF (oB (jk)) (sn ?_)))
 refine ay hF rfl (fun hc8 => ?_) (fun hc8 => ?_)
 ·replace h := ifF hc8 h
  refine Sm.skip ?_
  obtain rfl := ac h
  exact (kA)
 replace h := ifT hc8 h
 refine um hF rfl ?_
 refine xz hF rfl 0 8 (by kernel_rfl) ?_
 simp only [List.take_succ_cons, List.take_zero, List.take_nil, List.drop_zero, Nat.reduceSub]
 refine hv hF (x := .d (.agg 3 [.i x7.1.cells, .list 1 (x7.1.next.map (ax 1 (af .i64))) false, .l x7.1.turn])) (oL (aG rfl rfl jl eD rfl rfl)) (hv hF oM (hv hF (oC (ek u5 u3 (dM _))) (hv hF (oF (aD kM)) (hv hF (oL (bZ rfl rfl ag3 rfl)) ?_))))
 obtain ⟨x9, hx9, h⟩ := aa h
 refine hv hF (oB (bM hx9)) ?_
 obtain ⟨x10, hx10, h⟩ := aa h
 refine cH hF (lU hx10) ?_
 refine hv hF oM ?_
 refine aF.last ?_
 simp only [List.nil_append, List.cons_append]
 refine zH (n := 3) rfl rfl ?_
 refine SmM.step hF [8, 9] rfl (by kernel_rfl) rfl ⟨⟨_, rfl, ?_⟩, ⟨_, rfl, ?_⟩, trivial⟩
 ·refine gv hF (bS rfl rfl rfl) (sn ?_)
  refine SmM.step hF [9, 10] rfl (by kernel_rfl) rfl ⟨⟨_, rfl, ?_⟩, ⟨_, rfl, ?_⟩, trivial⟩
  ·refine gv hF (bS rfl rfl rfl) (sn ?_)
   refine SmM.step hF [10] rfl (by kernel_rfl) rfl ⟨⟨_, rfl, ?_⟩, trivial⟩
   refine SmG.store hF rfl rfl rfl rfl rfl (bd (ys := [.i x10.1.cells, .d (.list 1 (x10.1.next.map (ax 1 (af .i64))) false), .l x10.1.turn]) (r := [.i x7.1.cells, .d (.list 1 (x7.1.next.map (ax 1 (af .i64))) false), .l x7.1.turn]) (rows' := [[.i x10.1.cells, .d (.list 1 (x10.1.next.map (ax 1 (af .i64))) false), .l x10.1.turn]]) rfl rfl rfl eD rfl rfl rfl rfl rfl) ?_
   refine sn ?_
   refine SmM.nil (by kernel_rfl) ?_
   obtain rfl := ac h
   exact (kA)
  ·refine SmG.store hF rfl rfl rfl rfl rfl (bd (ys := [.i x10.1.cells, .d (.list 1 (x10.1.next.map (ax 1 (af .i64))) false), .l x10.1.turn]) (r := [.i x7.1.cells, .d (.list 1 (x7.1.next.map (ax 1 (af .i64))) false), .l x7.1.turn]) (rows' := [[.i x10.1.cells, .d (.list 1 (x10.1.next.map (ax 1 (af .i64))) false), .l x10.1.turn]]) rfl rfl rfl eD rfl rfl rfl rfl rfl) ?_
   refine sn ?_
   refine SmM.step hF [9] rfl (by kernel_rfl) rfl ⟨⟨_, rfl, ?_⟩, trivial⟩
   refine gv hF (bS rfl rfl rfl) (sn ?_)
   refine SmM.nil (by kernel_rfl) ?_
   obtain rfl := ac h
   exact (kA)
 ·refine gv hF (bS rfl rfl rfl) (sn ?_)
  refine SmM.step hF [8] rfl (by kernel_rfl) rfl ⟨⟨_, rfl, ?_⟩, trivial⟩
  refine gv hF (bS rfl rfl rfl) (sn ?_)
  refine SmM.step hF [10] rfl (by kernel_rfl) rfl ⟨⟨_, rfl, ?_⟩, trivial⟩
  refine SmG.store hF rfl rfl rfl rfl rfl (bd (ys := [.i x10.1.cells, .d (.list 1 (x10.1.next.map (ax 1 (af .i64))) false), .l x10.1.turn]) (r := [.i x7.1.cells, .d (.list 1 (x7.1.next.map (ax 1 (af .i64))) false), .l x7.1.turn]) (rows' := [[.i x10.1.cells, .d (.list 1 (x10.1.next.map (ax 1 (af .i64))) false), .l x10.1.turn]]) rfl rfl rfl eD rfl rfl rfl rfl rfl) ?_
  refine sn ?_
  refine SmM.nil (by kernel_rfl) ?_
  obtain rfl := ac h
  exact (kA)
end
section
open Go.RowKit
def im (n : Int) : UInt8 := UInt8.ofNat (n % 256).toNat
theorem th (n : Int) : ((im n).toNat : Int) = n % 256 := by
 unfold im
 have : (UInt8.ofNat (n % 256).toNat).toNat = (n % 256).toNat := by simp; omega
 rw [this]; omega
theorem nm {a b : Int} (ha : 0 ≤ a ∧ a ≤ 255) (hb : 0 ≤ b ∧ b ≤ 255) (h : im a = im b) : a = b := by
 have := congrArg (fun x : UInt8 => (x.toNat : Int)) h
 simp only [th] at this
 omega
structure Ps where
 at_ : List Int
 h0 : List Int
 h1 : List Int
 rights : Int
 side : Int
 deriving DecidableEq
structure Rs where
 out : Int
 n : Int
 deriving DecidableEq
def u8R (n : Int) : Prop := 0 ≤ n ∧ n ≤ 255
structure PsOk (p : Ps) : Prop where
 la : p.at_.length ≤ 255
 l0 : p.h0.length ≤ 255
 l1 : p.h1.length ≤ 255
 a : ∀ x ∈ p.at_, u8R x
 b : ∀ x ∈ p.h0, u8R x
 c : ∀ x ∈ p.h1, u8R x
 r : u8R p.rights
 s : u8R p.side
def nD (r : Rs) : Prop := (1 ≤ r.out ∧ r.out ≤ 3) ∧ 0 ≤ r.n ∧ r.n ≤ 2147483647
def iE (p : Ps) : List Int := p.at_ ++ p.h0 ++ p.h1 ++ [p.rights, p.side]
def ne (p : Ps) : List UInt8 := (iE p).map im
def pK (r : Rs) : List UInt8 := [im r.out, im (r.n / 16777216), im (r.n / 65536), im (r.n / 256), im r.n]
def dE (p : Ps) (r : Rs) : List UInt8 := [im p.at_.length, im p.h0.length, im p.h1.length] ++ ne p ++ pK r
theorem wu (p : Ps) (r : Rs) : (dE p r).length = (iE p).length + 8 := by simp [dE, ne, pK]
theorem ox : ∀ {a b : List Int}, (∀ x ∈ a, u8R x) → (∀ x ∈ b, u8R x) → a.map im = b.map im → a = b
 | [], [], _, _, _ => rfl
 | [], _ :: _, _, _, h => by cases h
 | _ :: _, [], _, _, h => by cases h
 | x :: a, y :: b, ha, hb, h => by
  simp only [List.map_cons, List.cons.injEq] at h
  rw [nm (ha x (by simp)) (hb y (by simp)) h.1, ox (fun z hz => ha z (by simp [hz])) (fun z hz => hb z (by simp [hz])) h.2]
theorem yF {r s : Rs} (hr : nD r) (hs : nD s) (h : pK r = pK s) : r = s := by
 obtain ⟨hr0, hr1⟩ := hr
 obtain ⟨hs0, hs1⟩ := hs
 simp only [pK, List.cons.injEq, and_true] at h
 obtain ⟨h0, h1, h2, h3, h4⟩ := h
 have e0 := congrArg (fun x : UInt8 => (x.toNat : Int)) h0
 have e1 := congrArg (fun x : UInt8 => (x.toNat : Int)) h1
 have e2 := congrArg (fun x : UInt8 => (x.toNat : Int)) h2
 have e3 := congrArg (fun x : UInt8 => (x.toNat : Int)) h3
 have e4 := congrArg (fun x : UInt8 => (x.toNat : Int)) h4
 simp only [th] at e0 e1 e2 e3 e4
 obtain ⟨o, n⟩ := r
 obtain ⟨o', n'⟩ := s
 simp only at *
 rw [Rs.mk.injEq]
 omega
theorem uF {p : Ps} (h : PsOk p) : ∀ x ∈ iE p, u8R x := by
 intro x hx
 simp only [iE, List.mem_append, List.mem_cons, List.not_mem_nil, or_false] at hx
 rcases hx with ((hx | hx) | hx) | (rfl | rfl)
 ·exact h.a x hx
 ·exact h.b x hx
 ·exact h.c x hx
 ·exact h.r
 ·exact h.s
theorem wZ {p q : Ps} {r s : Rs} (hp : PsOk p) (hq : PsOk q) (hr : nD r) (hs : nD s) (h : dE p r = dE q s) : p = q ∧ r = s := by
 have hp1 := hp.la
 have hp2 := hp.l0
 have hp3 := hp.l1
 have hq1 := hq.la
 have hq2 := hq.l0
 have hq3 := hq.l1
 unfold dE at h
 have hlen := congrArg List.length h
 simp only [List.cons_append, List.nil_append, List.cons.injEq] at h
 obtain ⟨h1, h2, h3, h4⟩ := h
 have g1 := nm (by omega) (by omega) h1
 have g2 := nm (by omega) (by omega) h2
 have g3 := nm (by omega) (by omega) h3
 obtain ⟨k1, k2⟩ := List.append_inj h4 (by simp [ne, iE]; omega)
 have hn := ox (uF hp) (uF hq) k1
 refine ⟨?_, yF hr hs k2⟩
 unfold iE at hn
 obtain ⟨n1, n2⟩ := List.append_inj hn (by simp; omega)
 obtain ⟨n3, n4⟩ := List.append_inj n1 (by simp; omega)
 obtain ⟨n5, n6⟩ := List.append_inj n3 (by omega)
 obtain ⟨a, b, c, d, e⟩ := p
 obtain ⟨a', b', c', d', e'⟩ := q
 simp only [List.cons.injEq, and_true] at *
 rw [Ps.mk.injEq]
 exact ⟨n5, n6, n4, n2⟩
theorem wa {p q : Ps} {r s : Rs} (hp : PsOk p) (hq : PsOk q) (hr : nD r) (hs : nD s) : dE p r = dE q s ↔ p = q ∧ r = s :=
 ⟨wZ hp hq hr hs, fun h => by rw [h.1, h.2]⟩
end
section
open Go.RowKit
set_option maxRecDepth 100000
structure Knd where
 name : List UInt8
 progs : List (List Stp)
 keep : Bool
def Knd.row (k : Knd) : List D := [.v (.string ⟨k.name.toArray⟩), .list 1 (k.progs.map (ax 2 Stp.row)) false, .v (.bool k.keep)]
structure Cls where
 if_ : Int
 kind : Int
 n : Int
 then_ : Int
def Cls.row (c : Cls) : List D := [.v (.int .i64 c.if_), .v (.int .i64 c.kind), .v (.int .i64 c.n), .v (.int .i64 c.then_)]
structure Gm where
 board : Brd
 kinds : List Knd
 rights : Int
 must : Bool
 clauses : List Cls
 blocked : Int
 endless : Int
def Gm.row (x : Gm) : List D := [.v (.int .i64 x.board.cells), .list 1 (x.board.next.map (ax 1 (af .i64))) false, .list 1 (x.board.turn.map (af .i64)) false, .list 3 (x.kinds.map Knd.row) false, .v (.int .i64 x.rights), .v (.bool x.must), .list 4 (x.clauses.map Cls.row) false, .v (.int .i64 x.blocked), .v (.int .i64 x.endless)]
def Ps.row (x : Ps) : List D := [.list 1 (x.at_.map (af .i64)) false, .list 1 (x.h0.map (af .i64)) false, .list 1 (x.h1.map (af .i64)) false, .v (.int .i64 x.rights), .v (.int .i64 x.side)]
def Rs.row (x : Rs) : List D := [.v (.int .i64 x.out), .v (.int .i64 x.n)]
structure GRaw where
 w : UInt8
 h : UInt8
 cut : UInt8
 k0 : List UInt8
 k1 : List UInt8
 c : List (UInt8 × UInt8 × UInt8)
 f0 : UInt8
 f1 : UInt8
 f2 : UInt8
 f3 : UInt8
 f4 : UInt8
 f5 : UInt8
def GRaw.row (x : GRaw) : List D := [.v (.int .u8 (x.w.toNat : Int)), .v (.int .u8 (x.h.toNat : Int)), .v (.int .u8 (x.cut.toNat : Int)), .list 1 (x.k0.map aH) false, .list 1 (x.k1.map aH) false, .list 3 (x.c.map (fun x : (UInt8 × UInt8 × UInt8) => [.v (.int .u8 (x.1.toNat : Int)), .v (.int .u8 (x.2.1.toNat : Int)), .v (.int .u8 (x.2.2.toNat : Int))])) false, .v (.int .u8 (x.f0.toNat : Int)), .v (.int .u8 (x.f1.toNat : Int)), .v (.int .u8 (x.f2.toNat : Int)), .v (.int .u8 (x.f3.toNat : Int)), .v (.int .u8 (x.f4.toNat : Int)), .v (.int .u8 (x.f5.toNat : Int))]
structure PRaw where
 c0 : UInt8
 c1 : UInt8
 c2 : UInt8
 c3 : UInt8
 c4 : UInt8
 c5 : UInt8
 k0 : UInt8
 k1 : UInt8
 k2 : UInt8
 k3 : UInt8
 k4 : UInt8
 k5 : UInt8
 h0 : UInt8
 h1 : UInt8
 h2 : UInt8
 h3 : UInt8
 rights : UInt8
 side : UInt8
def PRaw.row (x : PRaw) : List D := [.v (.int .u8 (x.c0.toNat : Int)), .v (.int .u8 (x.c1.toNat : Int)), .v (.int .u8 (x.c2.toNat : Int)), .v (.int .u8 (x.c3.toNat : Int)), .v (.int .u8 (x.c4.toNat : Int)), .v (.int .u8 (x.c5.toNat : Int)), .v (.int .u8 (x.k0.toNat : Int)), .v (.int .u8 (x.k1.toNat : Int)), .v (.int .u8 (x.k2.toNat : Int)), .v (.int .u8 (x.k3.toNat : Int)), .v (.int .u8 (x.k4.toNat : Int)), .v (.int .u8 (x.k5.toNat : Int)), .v (.int .u8 (x.h0.toNat : Int)), .v (.int .u8 (x.h1.toNat : Int)), .v (.int .u8 (x.h2.toNat : Int)), .v (.int .u8 (x.h3.toNat : Int)), .v (.int .u8 (x.rights.toNat : Int)), .v (.int .u8 (x.side.toNat : Int))]
end
section
open Go.RowKit
set_option maxRecDepth 100000
noncomputable def cA (a0 : Int) (a1 : Int) : Option Int :=
 bif (decide (a0 < a1)) then (
  some (-1)
 ) else (
  bif (decide (a1 < a0)) then (
   some 1
  ) else (
   some 0
  )
 )
set_option maxHeartbeats 4000000 in
theorem eu {a0 : Int} {a1 : Int} {r : Int} (h : cA a0 a1 = some r) : aj Tryd.prog HG 75 [.i a0, .i a1] (.i r) := by
 unfold cA at h
 refine aj.of Tryd.func75 rfl Tryd.ntmps75 (by simp) ?_
 intro F hF h0 hT
 show Sm F _ _ ⟨[(0, .i a0), (1, .i a1)], [], 0⟩
 refine sr hF (gv hF oA (sn (Sm.seq (sr hF (gv hF oM (gv hF oM (gv hF (oB (bh)) (sn ?_))))))))
 refine bw hF rfl (fun hc1 => ?_) (fun hc1 => ?_)
 ·replace h := ifT hc1 h
  refine sr hF (gv hF oA (sn (Sm.ret ?_)))
  obtain rfl := ac h
  exact bu rfl rfl
 replace h := ifF hc1 h
 refine sk (Sm.seq (sr hF (gv hF oM (gv hF oM (gv hF (oB (jk)) (sn ?_))))))
 refine bw hF rfl (fun hc2 => ?_) (fun hc2 => ?_)
 ·replace h := ifT hc2 h
  refine sr hF (gv hF oA (sn (Sm.ret ?_)))
  obtain rfl := ac h
  exact bu rfl rfl
 replace h := ifF hc2 h
 refine sk (sr hF (gv hF oA (sn (Sm.ret ?_))))
 obtain rfl := ac h
 exact bu rfl rfl
noncomputable def dC (a0 : List Int) (a1 : List Int) (s1 : Int) : Option (Int ⊕ (Unit ⊕ Int)) :=
 bif (decide (s1 < (a0.length : Int))) then (
  bif (decide (s1 < (a1.length : Int))) then (
   ob (idx a0 s1) fun x7 =>
   ob (idx a1 s1) fun x8 =>
   bif (x7 != x8) then (
    ob (idx a0 s1) fun x10 =>
    ob (idx a1 s1) fun x11 =>
    ob (cA x10 x11) fun x12 =>
    some (.inr (.inr x12))
   ) else (
    ob (arI .i64 (s1 + 1)) fun x13 =>
    some (.inl x13)
   )
  ) else (
   some (.inr (.inl ()))
  )
 ) else (
  some (.inr (.inl ()))
 )
noncomputable def dJ (a0 : List Int) (a1 : List Int) : Option Int :=
 ob ((
  bm (dC a0 a1) 0
  : Option (Unit ⊕ Int))) fun o16 => match o16 with
 | .inl v14 => (
  ob (cA (a0.length : Int) (a1.length : Int)) fun x15 =>
  some x15
  )
 | .inr e17 => some e17
set_option maxHeartbeats 4000000 in
theorem ir {a0 : List Int} {a1 : List Int} {r : Int} (h : dJ a0 a1 = some r) : aj Tryd.prog HG 74 [.l a0, .l a1] (.i r) := by
 unfold dJ at h
 refine aj.of Tryd.func74 rfl Tryd.ntmps74 (by simp) ?_
 intro F hF h0 hT
 show Sm F _ _ ⟨[(0, .l a0), (1, .l a1)], [], 0⟩
 refine sr hF (gv hF oA (sn (Sm.seq ?_)))
 obtain ⟨o16, ho16, h⟩ := aa h
 rcases iZ o16 with ⟨e17, rfl⟩ | ⟨v14, rfl⟩
 ·have he17 := ac h
  subst he17
  replace h := ho16
  refine sr hF (gv hF oA (sn (Sm.block ?_)))
  refine ba (dC a0 a1) (fun s1 => ⟨[(0, .l a0), (1, .l a1), (5, .i s1)], [], 0⟩) 0 h (kA) ?_
  intro n2 s1 o3 h hd4
  unfold dC at h
  refine Sm.seq (sr hF (gv hF oM (gv hF oM (gv hF (oN (aY u30)) (gv hF (oB (bh)) ?_)))))
  rcases br (decide (s1 < (a0.length : Int))) with hc5 | hc5
  ·replace h := ifF hc5 h
   refine gv hF (ar rfl rfl hc5) (gp hF (gp hF (gp hF (gp hF (gv hF (ap rfl rfl rfl) (sn ?_))))))
   refine bq hF rfl ?_
   refine Sm.exit ?_
   replace h := aC h hd4
   cases h
  replace h := ifT hc5 h
  refine gv hF (ar rfl rfl hc5) (gv hF oM (gv hF oM (gv hF (oN (aY u30)) (gv hF (oB (bh)) (gv hF (aJ rfl rfl rfl) (sn ?_))))))
  refine ay hF rfl (fun hc6 => ?_) (fun hc6 => ?_)
  ·replace h := ifF hc6 h
   refine Sm.exit ?_
   replace h := aC h hd4
   cases h
  replace h := ifT hc6 h
  refine sk (Sm.seq (Sm.block (Sm.seq ?_)))
  refine dG hF 8 ?_
  refine hv hF oM (hv hF oM ?_)
  obtain ⟨x7, hx7, h⟩ := aa h
  refine hv hF (oI (aT u30 sz3 hx7)) (hv hF (oL (lP1 ag3 rfl)) (hv hF oM (hv hF oM ?_)))
  obtain ⟨x8, hx8, h⟩ := aa h
  refine hv hF (oI (aT u30 sz3 hx8)) (hv hF (oL (lP1 ag3 rfl)) ?_)
  refine hE ?_
  refine gv hF (oB (lZ)) (sn ?_)
  refine ay hF rfl (fun hc9 => ?_) (fun hc9 => ?_)
  ·replace h := ifF hc9 h
   refine Sm.skip ?_
   refine ak (ae ?_)
   refine ab hF rfl ?_
   refine gv hF oM ?_
   obtain ⟨x13, hx13, h⟩ := aa h
   refine gv hF (oB (aU hx13)) (gv hF oA (SmG.nil ?_))
   exact bc (aX h hd4) (kA)
  replace h := ifT hc9 h
  refine Sm.seq ?_
  refine dG hF 8 ?_
  refine hv hF oM (hv hF oM ?_)
  obtain ⟨x10, hx10, h⟩ := aa h
  refine hv hF (oI (aT u30 sz3 hx10)) (hv hF (oL (lP1 ag3 rfl)) (hv hF oM (hv hF oM ?_)))
  obtain ⟨x11, hx11, h⟩ := aa h
  refine hv hF (oI (aT u30 sz3 hx11)) (hv hF (oL (lP1 ag3 rfl)) ?_)
  refine hE ?_
  obtain ⟨x12, hx12, h⟩ := aa h
  refine cS hF (eu hx12) ?_
  refine gv hF oA (sn (Sm.ret ?_))
  replace h := aC h hd4
  replace h := gr h
  obtain rfl := ac h
  exact bu rfl rfl
 refine aW ⟨[(0, .l a0), (1, .l a1)], [], 0⟩ ?_ ?_
 ·refine Sm.seq ?_
  refine ab hF rfl ?_
  refine gv hF oM (gv hF (oN (aY u30)) (gv hF oM (gv hF (oN (aY u30)) ?_)))
  obtain ⟨x15, hx15, h⟩ := aa h
  refine cS hF (eu hx15) ?_
  refine gv hF oA (sn (Sm.ret ?_))
  obtain rfl := ac h
  exact bu rfl rfl
 replace h := ho16
 refine sr hF (gv hF oA (sn (Sm.block ?_)))
 refine ba (dC a0 a1) (fun s1 => ⟨[(0, .l a0), (1, .l a1), (5, .i s1)], [], 0⟩) 0 h (kA) ?_
 intro n2 s1 o3 h hd4
 unfold dC at h
 refine Sm.seq (sr hF (gv hF oM (gv hF oM (gv hF (oN (aY u30)) (gv hF (oB (bh)) ?_)))))
 rcases br (decide (s1 < (a0.length : Int))) with hc5 | hc5
 ·replace h := ifF hc5 h
  refine gv hF (ar rfl rfl hc5) (gp hF (gp hF (gp hF (gp hF (gv hF (ap rfl rfl rfl) (sn ?_))))))
  refine bq hF rfl ?_
  refine Sm.exit ?_
  replace h := aC h hd4
  obtain rfl := ac (dg h)
  exact (kA)
 replace h := ifT hc5 h
 refine gv hF (ar rfl rfl hc5) (gv hF oM (gv hF oM (gv hF (oN (aY u30)) (gv hF (oB (bh)) (gv hF (aJ rfl rfl rfl) (sn ?_))))))
 refine ay hF rfl (fun hc6 => ?_) (fun hc6 => ?_)
 ·replace h := ifF hc6 h
  refine Sm.exit ?_
  replace h := aC h hd4
  obtain rfl := ac (dg h)
  exact (kA)
 replace h := ifT hc6 h
 refine sk (Sm.seq (Sm.block (Sm.seq ?_)))
 refine dG hF 8 ?_
 refine hv hF oM (hv hF oM ?_)
 obtain ⟨x7, hx7, h⟩ := aa h
 refine hv hF (oI (aT u30 sz3 hx7)) (hv hF (oL (lP1 ag3 rfl)) (hv hF oM (hv hF oM ?_)))
 obtain ⟨x8, hx8, h⟩ := aa h
 refine hv hF (oI (aT u30 sz3 hx8)) (hv hF (oL (lP1 ag3 rfl)) ?_)
 refine hE ?_
 refine gv hF (oB (lZ)) (sn ?_)
 refine ay hF rfl (fun hc9 => ?_) (fun hc9 => ?_)
 ·replace h := ifF hc9 h
  refine Sm.skip ?_
  refine ak (ae ?_)
  refine ab hF rfl ?_
  refine gv hF oM ?_
  obtain ⟨x13, hx13, h⟩ := aa h
  refine gv hF (oB (aU hx13)) (gv hF oA (SmG.nil ?_))
  exact bc (aX h hd4) (kA)
 replace h := ifT hc9 h
 refine Sm.seq ?_
 refine dG hF 8 ?_
 refine hv hF oM (hv hF oM ?_)
 obtain ⟨x10, hx10, h⟩ := aa h
 refine hv hF (oI (aT u30 sz3 hx10)) (hv hF (oL (lP1 ag3 rfl)) (hv hF oM (hv hF oM ?_)))
 obtain ⟨x11, hx11, h⟩ := aa h
 refine hv hF (oI (aT u30 sz3 hx11)) (hv hF (oL (lP1 ag3 rfl)) ?_)
 refine hE ?_
 obtain ⟨x12, hx12, h⟩ := aa h
 refine cS hF (eu hx12) ?_
 refine gv hF oA (sn (Sm.ret ?_))
 replace h := aC h hd4
 cases h
noncomputable def cL (x1 : Int) (x2 : Int) (x3 : Int) (x4 : Int) (x5 : Int) (s6 : Int) : Option (Int ⊕ (Unit ⊕ Int)) :=
 bif (decide (s6 < ([x1, x2, x3, x4, x5].length : Int))) then (
  ob (idx [x1, x2, x3, x4, x5] s6) fun x11 =>
  bif (x11 != 0) then (
   ob (idx [x1, x2, x3, x4, x5] s6) fun x13 =>
   some (.inr (.inr x13))
  ) else (
   ob (arI .i64 (s6 + 1)) fun x14 =>
   some (.inl x14)
  )
 ) else (
  some (.inr (.inl ()))
 )
noncomputable def eU (a0 : Ps) (a1 : Ps) : Option Int :=
 ob (dJ a0.at_ a1.at_) fun x1 =>
 ob (dJ a0.h0 a1.h0) fun x2 =>
 ob (dJ a0.h1 a1.h1) fun x3 =>
 ob (cA a0.rights a1.rights) fun x4 =>
 ob (cA a0.side a1.side) fun x5 =>
 ob ((
  bm (cL x1 x2 x3 x4 x5) 0
  : Option (Unit ⊕ Int))) fun o16 => match o16 with
 | .inl v15 => (
  some 0
  )
 | .inr e17 => some e17
set_option maxHeartbeats 4000000 in
theorem lV {a0 : Ps} {a1 : Ps} {r : Int} (h : eU a0 a1 = some r) : aj Tryd.prog HG 51 [.agg 5 (Ps.row a0), .agg 5 (Ps.row a1)] (.i r) := by
 unfold eU at h
 refine aj.of Tryd.func51 rfl Tryd.ntmps51 (by simp) ?_
 intro F hF h0 hT
 show Sm F _ _ ⟨[(0, .d (.agg 5 (Ps.row a0))), (1, .d (.agg 5 (Ps.row a1)))], [], 0⟩
 refine sr hF ?_
 refine bQ hF gi ?_
 refine bQ hF gi ?_
 refine gv hF oA (sn (Sm.seq ?_))
 refine dG hF 28 ?_
 refine hv hF (oF (ai kD rfl)) (hv hF (oL (lP1 eo rfl)) (hv hF (oF (ai kD rfl)) (hv hF (oL (lP1 eo rfl)) ?_)))
 obtain ⟨x1, hx1, h⟩ := aa h
 refine cH hF (ir hx1) ?_
 refine hv hF (oF (ai eT rfl)) (hv hF (oI (ci u31 eE rfl rfl)) (hv hF (oL (lP1 eo rfl)) (hv hF (oF (ai eT rfl)) (hv hF (oI (ci u31 eE rfl rfl)) (hv hF (oL (lP1 eo rfl)) ?_)))))
 obtain ⟨x2, hx2, h⟩ := aa h
 refine cH hF (ir hx2) ?_
 refine hv hF (oF (ai eT rfl)) (hv hF (oI (ci u31 eE rfl rfl)) (hv hF (oL (lP1 eo rfl)) (hv hF (oF (ai eT rfl)) (hv hF (oI (ci u31 eE rfl rfl)) (hv hF (oL (lP1 eo rfl)) ?_)))))
 obtain ⟨x3, hx3, h⟩ := aa h
 refine cH hF (ir hx3) ?_
 refine hv hF (oF (ai ov rfl)) (hv hF (oL (lP1 ag3 rfl)) (hv hF (oF (ai ov rfl)) (hv hF (oL (lP1 ag3 rfl)) ?_)))
 obtain ⟨x4, hx4, h⟩ := aa h
 refine cH hF (eu hx4) ?_
 refine hv hF (oF (ai oq rfl)) (hv hF (oL (lP1 ag3 rfl)) (hv hF (oF (ai oq rfl)) (hv hF (oL (lP1 ag3 rfl)) ?_)))
 refine hE ?_
 obtain ⟨x5, hx5, h⟩ := aa h
 refine cS hF (eu hx5) ?_
 refine gv hF (x := .d (.list 1 ([x1, x2, x3, x4, x5].map (af .i64)) true)) (oS (aw u30 sz3 ze3 rfl rfl (PartsQ.cons rfl (PartsQ.cons rfl (PartsQ.cons rfl (PartsQ.cons rfl (PartsQ.cons rfl (PartsQ.nil _)))))) rfl)) (gv hF oA (sn (Sm.seq ?_)))
 obtain ⟨o16, ho16, h⟩ := aa h
 rcases iZ o16 with ⟨e17, rfl⟩ | ⟨v15, rfl⟩
 ·have he17 := ac h
  subst he17
  replace h := ho16
  refine sr hF (gv hF oA (sn (Sm.block ?_)))
  refine ba (cL x1 x2 x3 x4 x5) (fun s6 => ⟨[(5, .d (.list 1 ([x1, x2, x3, x4, x5].map (af .i64)) true)), (6, .i s6)], [], 0⟩) 0 h (kA) ?_
  intro n7 s6 o8 h hd9
  unfold cL at h
  refine Sm.seq (sr hF (gv hF oM (gv hF oM (gv hF (oN (aY u30)) (gv hF (oB (bh)) (sn ?_))))))
  refine ay hF rfl (fun hc10 => ?_) (fun hc10 => ?_)
  ·replace h := ifF hc10 h
   refine Sm.exit ?_
   replace h := aC h hd9
   cases h
  replace h := ifT hc10 h
  refine sk (Sm.seq (Sm.block (sr hF (gv hF oM (gv hF oM ?_)))))
  obtain ⟨x11, hx11, h⟩ := aa h
  refine gv hF (oI (aT u30 sz3 hx11)) (gv hF (oL (lP1 ag3 rfl)) (gv hF (oB (lZ)) (sn ?_)))
  refine ay hF rfl (fun hc12 => ?_) (fun hc12 => ?_)
  ·replace h := ifF hc12 h
   refine Sm.skip ?_
   refine ak (ae ?_)
   refine ab hF rfl ?_
   refine gv hF oM ?_
   obtain ⟨x14, hx14, h⟩ := aa h
   refine gv hF (oB (aU hx14)) (gv hF oA (SmG.nil ?_))
   exact bc (aX h hd9) (kA)
  replace h := ifT hc12 h
  refine sr hF (gv hF oM (gv hF oM ?_))
  obtain ⟨x13, hx13, h⟩ := aa h
  refine gv hF (oI (aT u30 sz3 hx13)) (gv hF (oL (lP1 ag3 rfl)) (gv hF oA (sn (Sm.ret ?_))))
  replace h := aC h hd9
  replace h := gr h
  obtain rfl := ac h
  exact bu rfl rfl
 refine aW ⟨[], [], 0⟩ ?_ ?_
 ·refine Sm.seq ?_
  refine ab hF rfl ?_
  refine gv hF oA (sn (Sm.ret ?_))
  obtain rfl := ac h
  exact bu rfl rfl
 replace h := ho16
 refine sr hF (gv hF oA (sn (Sm.block ?_)))
 refine ba (cL x1 x2 x3 x4 x5) (fun s6 => ⟨[(5, .d (.list 1 ([x1, x2, x3, x4, x5].map (af .i64)) true)), (6, .i s6)], [], 0⟩) 0 h (kA) ?_
 intro n7 s6 o8 h hd9
 unfold cL at h
 refine Sm.seq (sr hF (gv hF oM (gv hF oM (gv hF (oN (aY u30)) (gv hF (oB (bh)) (sn ?_))))))
 refine ay hF rfl (fun hc10 => ?_) (fun hc10 => ?_)
 ·replace h := ifF hc10 h
  refine Sm.exit ?_
  replace h := aC h hd9
  obtain rfl := ac (dg h)
  exact (kA)
 replace h := ifT hc10 h
 refine sk (Sm.seq (Sm.block (sr hF (gv hF oM (gv hF oM ?_)))))
 obtain ⟨x11, hx11, h⟩ := aa h
 refine gv hF (oI (aT u30 sz3 hx11)) (gv hF (oL (lP1 ag3 rfl)) (gv hF (oB (lZ)) (sn ?_)))
 refine ay hF rfl (fun hc12 => ?_) (fun hc12 => ?_)
 ·replace h := ifF hc12 h
  refine Sm.skip ?_
  refine ak (ae ?_)
  refine ab hF rfl ?_
  refine gv hF oM ?_
  obtain ⟨x14, hx14, h⟩ := aa h
  refine gv hF (oB (aU hx14)) (gv hF oA (SmG.nil ?_))
  exact bc (aX h hd9) (kA)
 replace h := ifT hc12 h
 refine sr hF (gv hF oM (gv hF oM ?_))
 obtain ⟨x13, hx13, h⟩ := aa h
 refine gv hF (oI (aT u30 sz3 hx13)) (gv hF (oL (lP1 ag3 rfl)) (gv hF oA (sn (Sm.ret ?_))))
 replace h := aC h hd9
 cases h
noncomputable def fM (a0 : Ps) (a1 : Ps) : Option Bool :=
 ob (eU a0 a1) fun x1 =>
 some (x1 == 0)
set_option maxHeartbeats 4000000 in
theorem jR {a0 : Ps} {a1 : Ps} {r : Bool} (h : fM a0 a1 = some r) : aj Tryd.prog HG 20 [.agg 5 (Ps.row a0), .agg 5 (Ps.row a1)] (.v (.bool r)) := by
 unfold fM at h
 refine aj.of Tryd.func20 rfl Tryd.ntmps20 (by simp) ?_
 intro F hF h0 hT
 show Sm F _ _ ⟨[(0, .d (.agg 5 (Ps.row a0))), (1, .d (.agg 5 (Ps.row a1)))], [], 0⟩
 refine sr hF ?_
 refine bQ hF gi ?_
 refine bQ hF gi ?_
 refine gv hF oA (sn (sr hF (gv hF (x := .d (.agg 5 (Ps.row a0))) (oL (bR gz cK rfl rfl)) (gv hF (x := .d (.agg 5 (Ps.row a1))) (oL (bR gz cK rfl rfl)) ?_))))
 obtain ⟨x1, hx1, h⟩ := aa h
 refine cS hF (lV hx1) ?_
 refine gv hF (oB (cD)) (gv hF oA (sn (Sm.ret ?_)))
 obtain rfl := ac h
 exact bu rfl rfl
noncomputable def dk (a0 : List Ps) (a1 : List Ps) (s2 : Int) : Option (Int ⊕ (Unit ⊕ Bool)) :=
 bif (decide (s2 < (a0.length : Int))) then (
  ob (idx a0 s2) fun x7 =>
  ob (idx a1 s2) fun x8 =>
  ob (fM x7 x8) fun x9 =>
  bif (!x9) then (
   some (.inr (.inr false))
  ) else (
   ob (arI .i64 (s2 + 1)) fun x11 =>
   some (.inl x11)
  )
 ) else (
  some (.inr (.inl ()))
 )
noncomputable def fk (a0 : List Ps) (a1 : List Ps) : Option Bool :=
 bif ((a0.length : Int) != (a1.length : Int)) then (
  some false
 ) else (
  ob ((
   bm (dk a0 a1) 0
   : Option (Unit ⊕ Bool))) fun o13 => match o13 with
  | .inl v12 => (
   some true
   )
  | .inr e14 => some e14
 )
set_option maxHeartbeats 4000000 in
theorem mE {a0 : List Ps} {a1 : List Ps} {r : Bool} (h : fk a0 a1 = some r) : aj Tryd.prog HG 26 [.list 5 (a0.map Ps.row) false, .list 5 (a1.map Ps.row) false] (.v (.bool r)) := by
 unfold fk at h
 refine aj.of Tryd.func26 rfl Tryd.ntmps26 (by simp) ?_
 intro F hF h0 hT
 show Sm F _ _ ⟨[(0, .d (.list 5 (a0.map Ps.row) false)), (1, .d (.list 5 (a1.map Ps.row) false))], [], 0⟩
 refine sr hF (gv hF oA (sn (Sm.seq (sr hF (gv hF oM (gv hF (oN (aY u40)) (gv hF oM (gv hF (oN (aY u40)) ?_))))))))
 refine gv hF (oB (lZ)) (sn ?_)
 refine bw hF rfl (fun hc1 => ?_) (fun hc1 => ?_)
 ·replace h := ifT hc1 h
  refine sr hF (gv hF oA (sn (Sm.ret ?_)))
  obtain rfl := ac h
  exact bu rfl rfl
 replace h := ifF hc1 h
 refine sk (Sm.seq ?_)
 obtain ⟨o13, ho13, h⟩ := aa h
 rcases iZ o13 with ⟨e14, rfl⟩ | ⟨v12, rfl⟩
 ·have he14 := ac h
  subst he14
  replace h := ho13
  refine sr hF (gv hF oA (sn (Sm.block ?_)))
  refine ba (dk a0 a1) (fun s2 => ⟨[(0, .d (.list 5 (a0.map Ps.row) false)), (1, .d (.list 5 (a1.map Ps.row) false)), (5, .i s2)], [], 0⟩) 0 h (kA) ?_
  intro n3 s2 o4 h hd5
  unfold dk at h
  refine Sm.seq (sr hF (gv hF oM (gv hF oM (gv hF (oN (aY u40)) (gv hF (oB (bh)) (sn ?_))))))
  refine ay hF rfl (fun hc6 => ?_) (fun hc6 => ?_)
  ·replace h := ifF hc6 h
   refine Sm.exit ?_
   replace h := aC h hd5
   cases h
  replace h := ifT hc6 h
  refine sk (Sm.seq (Sm.block (Sm.seq ?_)))
  refine dG hF 8 ?_
  refine hv hF oM (hv hF oM ?_)
  obtain ⟨x7, hx7, h⟩ := aa h
  refine hv hF (oI (aT u40 cK hx7)) (hv hF (x := .d (.agg 5 (Ps.row x7))) (oL (bR gz cK rfl rfl)) (hv hF oM (hv hF oM ?_)))
  obtain ⟨x8, hx8, h⟩ := aa h
  refine hv hF (oI (aT u40 cK hx8)) (hv hF (x := .d (.agg 5 (Ps.row x8))) (oL (bR gz cK rfl rfl)) ?_)
  refine hE ?_
  obtain ⟨x9, hx9, h⟩ := aa h
  refine cS hF (jR hx9) ?_
  refine gv hF (jF rfl rfl (kz _)) (sn ?_)
  refine bw hF rfl (fun hc10 => ?_) (fun hc10 => ?_)
  ·replace h := ifT hc10 h
   refine sr hF (gv hF oA (sn (Sm.ret ?_)))
   replace h := aC h hd5
   replace h := gr h
   obtain rfl := ac h
   exact bu rfl rfl
  replace h := ifF hc10 h
  refine Sm.skip ?_
  refine ak (ae ?_)
  refine ab hF rfl ?_
  refine gv hF oM ?_
  obtain ⟨x11, hx11, h⟩ := aa h
  refine gv hF (oB (aU hx11)) (gv hF oA (SmG.nil ?_))
  exact bc (aX h hd5) (kA)
 refine aW ⟨[], [], 0⟩ ?_ ?_
 ·refine Sm.seq ?_
  refine ab hF rfl ?_
  refine gv hF oA (sn (Sm.ret ?_))
  obtain rfl := ac h
  exact bu rfl rfl
 replace h := ho13
 refine sr hF (gv hF oA (sn (Sm.block ?_)))
 refine ba (dk a0 a1) (fun s2 => ⟨[(0, .d (.list 5 (a0.map Ps.row) false)), (1, .d (.list 5 (a1.map Ps.row) false)), (5, .i s2)], [], 0⟩) 0 h (kA) ?_
 intro n3 s2 o4 h hd5
 unfold dk at h
 refine Sm.seq (sr hF (gv hF oM (gv hF oM (gv hF (oN (aY u40)) (gv hF (oB (bh)) (sn ?_))))))
 refine ay hF rfl (fun hc6 => ?_) (fun hc6 => ?_)
 ·replace h := ifF hc6 h
  refine Sm.exit ?_
  replace h := aC h hd5
  obtain rfl := ac (dg h)
  exact (kA)
 replace h := ifT hc6 h
 refine sk (Sm.seq (Sm.block (Sm.seq ?_)))
 refine dG hF 8 ?_
 refine hv hF oM (hv hF oM ?_)
 obtain ⟨x7, hx7, h⟩ := aa h
 refine hv hF (oI (aT u40 cK hx7)) (hv hF (x := .d (.agg 5 (Ps.row x7))) (oL (bR gz cK rfl rfl)) (hv hF oM (hv hF oM ?_)))
 obtain ⟨x8, hx8, h⟩ := aa h
 refine hv hF (oI (aT u40 cK hx8)) (hv hF (x := .d (.agg 5 (Ps.row x8))) (oL (bR gz cK rfl rfl)) ?_)
 refine hE ?_
 obtain ⟨x9, hx9, h⟩ := aa h
 refine cS hF (jR hx9) ?_
 refine gv hF (jF rfl rfl (kz _)) (sn ?_)
 refine bw hF rfl (fun hc10 => ?_) (fun hc10 => ?_)
 ·replace h := ifT hc10 h
  refine sr hF (gv hF oA (sn (Sm.ret ?_)))
  replace h := aC h hd5
  cases h
 replace h := ifF hc10 h
 refine Sm.skip ?_
 refine ak (ae ?_)
 refine ab hF rfl ?_
 refine gv hF oM ?_
 obtain ⟨x11, hx11, h⟩ := aa h
 refine gv hF (oB (aU hx11)) (gv hF oA (SmG.nil ?_))
 exact bc (aX h hd5) (kA)
noncomputable def eG (a0 : Ps) : Option (List Int) :=
 ob (app ([] : List Int) a0.at_) fun x1 =>
 ob (app x1 a0.h0) fun x2 =>
 ob (app x2 a0.h1) fun x3 =>
 ob (app x3 [a0.rights, a0.side]) fun x4 =>
 some x4
set_option maxHeartbeats 4000000 in
theorem lX {a0 : Ps} {r : List Int} (h : eG a0 = some r) : aj Tryd.prog HG 25 [.agg 5 (Ps.row a0)] (.l r) := by
 unfold eG at h
 refine aj.of Tryd.func25 rfl Tryd.ntmps25 (by simp) ?_
 intro F hF h0 hT
 show Sm F _ _ ⟨[(0, .d (.agg 5 (Ps.row a0)))], [], 0⟩
 refine sr hF ?_
 refine bQ hF gi ?_
 refine gv hF oA (sn (sr hF (gv hF (x := .d (.list 1 (([] : List Int).map (af .i64)) true)) (oS (dN u30 sz3)) (gv hF (oF (ai kD rfl)) (gv hF (oL (lP1 eo rfl)) ?_)))))
 obtain ⟨x1, hx1, h⟩ := aa h
 refine SmG.appendFreshL hF kh rfl (ys := a0.at_) (row := (af .i64)) rfl rfl rfl rfl rfl rfl rfl (.inl rfl) hx1 ?_
 refine gv hF oA (sn (sr hF (gv hF oM (gv hF (oF (ai eT rfl)) (gv hF (oI (ci u31 eE rfl rfl)) (gv hF (oL (lP1 eo rfl)) ?_))))))
 obtain ⟨x2, hx2, h⟩ := aa h
 refine aV hF kh rfl (ys := a0.h0) (row := (af .i64)) rfl rfl rfl rfl rfl rfl rfl rfl (.inl rfl) hx2 (by (repeat' first | exact bn _ | refine be ?_ | refine am ?_ (aP _ _ _) | refine am ?_ (aP _ _ [_]) | refine am ?_ (bD (by rfl)))) ?_
 refine gv hF oA (sn (sr hF (gv hF oM (gv hF (oF (ai eT rfl)) (gv hF (oI (ci u31 eE rfl rfl)) (gv hF (oL (lP1 eo rfl)) ?_))))))
 obtain ⟨x3, hx3, h⟩ := aa h
 refine aV hF kh rfl (ys := a0.h1) (row := (af .i64)) rfl rfl rfl rfl rfl rfl rfl rfl (.inl rfl) hx3 (by (repeat' first | exact bn _ | refine be ?_ | refine am ?_ (aP _ _ _) | refine am ?_ (aP _ _ [_]) | refine am ?_ (bD (by rfl)))) ?_
 refine gv hF oA (sn (sr hF (gv hF oM (gv hF (oF (ai ov rfl)) (gv hF (oL (lP1 ag3 rfl)) (gv hF (oF (ai oq rfl)) (gv hF (oL (lP1 ag3 rfl)) (gv hF (x := .d (.list 1 ([a0.rights, a0.side].map (af .i64)) true)) (oS (aw u30 sz3 ze3 rfl rfl (PartsQ.cons rfl (PartsQ.cons rfl (PartsQ.nil _))) rfl)) ?_))))))))
 obtain ⟨x4, hx4, h⟩ := aa h
 refine aV hF kh rfl (ys := [a0.rights, a0.side]) (row := (af .i64)) rfl rfl rfl rfl rfl rfl rfl rfl (.inl rfl) hx4 (by (repeat' first | exact bn _ | refine be ?_ | refine am ?_ (aP _ _ _) | refine am ?_ (aP _ _ [_]) | refine am ?_ (bD (by rfl)))) ?_
 refine gv hF oA (sn ?_)
 refine Sm.to (aL (kA (e := [(2, .sref 0 0 (x4.map (af .i64)).length)]) (g := [(0, dB 1 (x4.map (af .i64)))]) (m := 1)) (fA (l := 0) (sz := 1) (e := [(2, .l x4)]) (g := []) (nx := 1) (x4.map (af .i64)))) ?_
 refine Sm.ret ?_
 obtain rfl := ac h
 exact bu rfl rfl
noncomputable def gg (x1 : List Int) (s2 : (Int × (List UInt8))) : Option ((Int × (List UInt8)) ⊕ List UInt8) :=
 bif (decide (s2.1 < (x1.length : Int))) then (
  ob (idx x1 s2.1) fun x7 =>
  ob (app s2.2 [(w8 x7)]) fun x8 =>
  ob (arI .i64 (s2.1 + 1)) fun x9 =>
  some (.inl (x9, x8))
 ) else (
  some (.inr s2.2)
 )
noncomputable def gc (a0 : Ps) : Option (List UInt8) :=
 ob (eG a0) fun x1 =>
 ob ((
  bm (gg x1) (0, ([] : List UInt8))
  : Option (List UInt8))) fun v10 =>
 some v10
set_option maxHeartbeats 4000000 in
theorem nQ {a0 : Ps} {r : List UInt8} (h : gc a0 = some r) : aj Tryd.prog HG 38 [.agg 5 (Ps.row a0)] (.v (.string ⟨(r : List UInt8).toArray⟩)) := by
 unfold gc at h
 refine aj.of Tryd.func38 rfl Tryd.ntmps38 (by simp) ?_
 intro F hF h0 hT
 show Sm F _ _ ⟨[(0, .d (.agg 5 (Ps.row a0)))], [], 0⟩
 refine sr hF ?_
 refine bQ hF gi ?_
 refine gv hF oA (sn (sr hF (gv hF (x := .d (.agg 5 (Ps.row a0))) (oL (bR gz cK rfl rfl)) ?_)))
 obtain ⟨x1, hx1, h⟩ := aa h
 refine cS hF (lX hx1) ?_
 refine gv hF oA (sn (sr hF (gv hF (x := .d (.list 1 (([] : List UInt8).map aH) true)) (oS (dN u24 sz5)) (gv hF oA (sn (Sm.seq ?_))))))
 obtain ⟨v10, hv10, h⟩ := aa h
 refine aW ⟨[(4, .d (.list 1 (v10.map aH) false))], [], 1⟩ ?_ ?_
 ·refine Sm.seq ?_
  refine ab hF rfl ?_
  refine gv hF oM (gv hF (oC (dR u24 u9 u5)) (gv hF oA (sn (Sm.ret ?_))))
  obtain rfl := ac h
  exact bu rfl rfl
 replace h := hv10
 refine sr hF (gv hF oA (sn (Sm.block ?_)))
 refine Sm.to (kA (e := [(3, .l x1), (4, .d (.list 1 ([].map aH) true)), (5, .i 0)]) (g := []) (m := 0)) ?_
 refine Sm.own (t := 4) 1 rfl ?_
 refine ba (gg x1) (fun s2 => ⟨[(3, .l x1), (4, .sref 0 0 (s2.2.map aH).length), (5, .i s2.1)], [(0, dB 1 (s2.2.map aH))], 1⟩) (0, ([] : List UInt8)) h (kA) ?_
 intro n3 s2 o4 h hd5
 unfold gg at h
 refine Sm.seq (sr hF (gv hF oM (gv hF oM (gv hF (oN (aY u30)) (gv hF (oB (bh)) (sn ?_))))))
 refine ay hF rfl (fun hc6 => ?_) (fun hc6 => ?_)
 ·replace h := ifF hc6 h
  refine Sm.exit ?_
  replace h := aC h hd5
  obtain rfl := ac h
  exact (aL (kA (e := [(4, .sref 0 0 (s2.2.map aH).length)]) (g := [(0, dB 1 (s2.2.map aH))]) (m := 1)) (fA (l := 0) (sz := 1) (s2.2.map aH)))
 replace h := ifT hc6 h
 refine sk (Sm.seq (Sm.block ?_))
 refine ab hF rfl ?_
 refine gv hF oM (gv hF oM (gv hF oM ?_))
 obtain ⟨x7, hx7, h⟩ := aa h
 refine gv hF (oI (aT u30 sz3 hx7)) (gv hF (oL (lP1 ag3 rfl)) (gv hF (oC (jw u3 u5)) (gv hF (x := .d (.list 1 ([(w8 x7)].map aH) true)) (oS (aw u24 sz5 ze5 rfl rfl (PartsQ.cons rfl (PartsQ.nil _)) rfl)) ?_)))
 obtain ⟨x8, hx8, h⟩ := aa h
 refine aV hF oD rfl (ys := [(w8 x7)]) (row := aH) rfl rfl rfl rfl rfl rfl rfl rfl (.inl rfl) hx8 (by (repeat' first | exact bn _ | refine be ?_ | refine am ?_ (aP _ _ _) | refine am ?_ (aP _ _ [_]) | refine am ?_ (bD (by rfl)))) ?_
 refine gv hF oA (SmG.nil (ak (ae ?_)))
 refine ab hF rfl ?_
 refine gv hF oM ?_
 obtain ⟨x9, hx9, h⟩ := aa h
 refine gv hF (oB (aU hx9)) (gv hF oA (SmG.nil ?_))
 exact bc (aX h hd5) (kA)
noncomputable def fO (a0 : Gm) (a1 : PRaw) (s6 : (Int × (List Int))) : Option ((Int × (List Int)) ⊕ List Int) :=
 bif (decide (s6.1 < 6)) then (
  ob ((
   ob (idx [a1.c0, a1.c1, a1.c2, a1.c3, a1.c4, a1.c5] s6.1) fun x11 =>
   ob (arI .i64 (a0.board.cells + 1)) fun x12 =>
   ob (cF (x11.toNat : Int) x12) fun x13 =>
   bif (decide (x13 < a0.board.cells)) then (
    bif (decide (0 < (a0.kinds.length : Int))) then (
     ob (idx [a1.k0, a1.k1, a1.k2, a1.k3, a1.k4, a1.k5] s6.1) fun x16 =>
     ob (cF (x16.toNat : Int) (a0.kinds.length : Int)) fun x17 =>
     ob (arI .i64 (2 * x17)) fun x18 =>
     ob (arI .i64 (1 + x18)) fun x19 =>
     ob (cF s6.1 2) fun x20 =>
     ob (arI .i64 (x19 + x20)) fun x21 =>
     ob (idx s6.2 x13) fun x22 =>
     some (s6.2.set (x13 : Int).toNat x21)
    ) else (
     some s6.2
    )
   ) else (
    some s6.2
   )
   : Option (List Int))) fun v23 =>
  ob (arI .i64 (s6.1 + 1)) fun x24 =>
  some (.inl (x24, v23))
 ) else (
  some (.inr s6.2)
 )
noncomputable def ia (a0 : Gm) (a1 : PRaw) (s27 : (Int × (List Int))) : Option ((Int × (List Int)) ⊕ List Int) :=
 bif (decide (s27.1 < (a0.kinds.length : Int))) then (
  bif (decide (s27.1 < 2)) then (
   ob ((
    ob (idx a0.kinds s27.1) fun x33 =>
    bif x33.keep then (
     ob (arI .i64 (0 + s27.1)) fun x35 =>
     ob (idx [a1.h0, a1.h1, a1.h2, a1.h3] x35) fun x36 =>
     ob (cF (x36.toNat : Int) 3) fun x37 =>
     ob (idx s27.2 s27.1) fun x38 =>
     ob (arI .i64 (0 + s27.1)) fun x39 =>
     ob (idx [a1.h0, a1.h1, a1.h2, a1.h3] x39) fun x40 =>
     bif (decide (250 < (x40.toNat : Int))) then (
      ob (idx (s27.2.set (s27.1 : Int).toNat x37) s27.1) fun x42 =>
      some ((s27.2.set (s27.1 : Int).toNat x37).set (s27.1 : Int).toNat 8)
     ) else (
      some (s27.2.set (s27.1 : Int).toNat x37)
     )
    ) else (
     some s27.2
    )
    : Option (List Int))) fun v43 =>
   ob (arI .i64 (s27.1 + 1)) fun x44 =>
   some (.inl (x44, v43))
  ) else (
   some (.inr s27.2)
  )
 ) else (
  some (.inr s27.2)
 )
noncomputable def gW (a0 : Gm) (a1 : PRaw) (s47 : (Int × (List Int))) : Option ((Int × (List Int)) ⊕ List Int) :=
 bif (decide (s47.1 < (a0.kinds.length : Int))) then (
  bif (decide (s47.1 < 2)) then (
   ob ((
    ob (idx a0.kinds s47.1) fun x53 =>
    bif x53.keep then (
     ob (arI .i64 (2 + s47.1)) fun x55 =>
     ob (idx [a1.h0, a1.h1, a1.h2, a1.h3] x55) fun x56 =>
     ob (cF (x56.toNat : Int) 3) fun x57 =>
     ob (idx s47.2 s47.1) fun x58 =>
     ob (arI .i64 (2 + s47.1)) fun x59 =>
     ob (idx [a1.h0, a1.h1, a1.h2, a1.h3] x59) fun x60 =>
     bif (decide (250 < (x60.toNat : Int))) then (
      ob (idx (s47.2.set (s47.1 : Int).toNat x57) s47.1) fun x62 =>
      some ((s47.2.set (s47.1 : Int).toNat x57).set (s47.1 : Int).toNat 8)
     ) else (
      some (s47.2.set (s47.1 : Int).toNat x57)
     )
    ) else (
     some s47.2
    )
    : Option (List Int))) fun v63 =>
   ob (arI .i64 (s47.1 + 1)) fun x64 =>
   some (.inl (x64, v63))
  ) else (
   some (.inr s47.2)
  )
 ) else (
  some (.inr s47.2)
 )
noncomputable def fI (a0 : Gm) (a1 : PRaw) : Option Ps :=
 ob (ol a0.board.cells) fun n1 =>
 ob (tb .i64 1 a0.rights) fun x2 =>
 ob (cF (a1.rights.toNat : Int) x2) fun x3 =>
 ob (cF (a1.side.toNat : Int) 2) fun x4 =>
 ob (arI .i64 x4) fun x5 =>
 ob ((
  bm (fO a0 a1) (0, (List.replicate n1 (0 : Int)))
  : Option (List Int))) fun v25 =>
 ob ((
  ob ((
   ob (ol (a0.kinds.length : Int)) fun n26 =>
   bm (ia a0 a1) (0, (List.replicate n26 (0 : Int)))
   : Option (List Int))) fun v45 =>
  ob ((
   ob (ol (a0.kinds.length : Int)) fun n46 =>
   bm (gW a0 a1) (0, (List.replicate n46 (0 : Int)))
   : Option (List Int))) fun v65 =>
  some (v45, v65)
  : Option ((List Int) × (List Int)))) fun v66 =>
 some (⟨v25, v66.1, v66.2, x3, x5⟩ : Ps)
set_option maxHeartbeats 4000000 in
theorem ny {a0 : Gm} {a1 : PRaw} {r : Ps} (h : fI a0 a1 = some r) : aj Tryd.prog HG 23 [.agg 9 (Gm.row a0), .agg 18 (PRaw.row a1)] (.agg 5 (Ps.row r)) := by
 unfold fI at h
 refine aj.of Tryd.func23 rfl Tryd.ntmps23 (by simp) ?_
 intro F hF h0 hT
 show Sm F _ _ ⟨[(0, .d (.agg 9 (Gm.row a0))), (1, .d (.agg 18 (PRaw.row a1)))], [], 0⟩
 refine sr hF ?_
 refine bQ hF gi ?_
 refine bQ hF gi ?_
 refine SmG.new hF rfl rfl rfl (aO rfl yn) ?_
 refine sn (Sm.seq ?_)
 refine dG hF 17 ?_
 refine hv hF (oF (ai mC rfl)) (hv hF (oF (ai kM rfl)) (hv hF (oL (lP1 ag3 rfl)) ?_))
 obtain ⟨n1, hn1, h⟩ := aa h
 refine aF.makeL hF kh rfl rfl (z0 := (0 : Int)) (row := (af .i64)) rfl rfl rfl rfl rfl rfl hn1 rfl ?_
 refine hv hF (oF (ai AO rfl)) (hv hF (oL (lP1 ag5 rfl)) (hv hF (oC (ek u5 u3 (dM _))) (hv hF (oF (ai sq rfl)) (hv hF (oL (lP1 ag3 rfl)) ?_))))
 obtain ⟨x2, hx2, h⟩ := aa h
 refine hv hF (oB (AW hx2)) ?_
 obtain ⟨x3, hx3, h⟩ := aa h
 refine hv hF (oB (bM hx3)) (hv hF (oF (ai Ax rfl)) (hv hF (oL (lP1 ag5 rfl)) ?_))
 obtain ⟨x4, hx4, h⟩ := aa h
 refine hv hF (oB (bM hx4)) ?_
 obtain ⟨x5, hx5, h⟩ := aa h
 refine hv hF (oC (ki u5 u3 hx5)) (hv hF (x := .mix false 1 ((List.replicate n1 (0 : Int)).map (af .i64)).length [.z, .z, .i x3, .i x5]) (a8 rfl u33 (by kernel_rfl) rfl (va (cs := [.z, .z, .z, .i x3, .i x5]) oz AB rfl (by decide) rfl rfl)) ?_)
 refine aF.new hF rfl rfl rfl rfl yn ?_
 refine hE ?_
 refine SmG.store hF rfl rfl rfl rfl rfl (bd (ys := [.sref 1 0 ((List.replicate n1 (0 : Int)).map (af .i64)).length, .z, .z, .i x3, .i x5]) (r := [.z, .z, .z, .i 0, .i 0]) (rows' := [[.sref 1 0 ((List.replicate n1 (0 : Int)).map (af .i64)).length, .z, .z, .i x3, .i x5]]) rfl rfl rfl cK rfl rfl rfl rfl rfl) ?_
 refine sn (Sm.seq ?_)
 obtain ⟨v25, hv25, h⟩ := aa h
 refine dt ⟨[(2, .d (.ptr 9 (Gm.row a0))), (3, .d (.ptr 18 (PRaw.row a1))), (4, .ref 0 0 0), (5, .ref 2 0 0)], [(2, ⟨5, [[.sref 1 0 (v25.map (af .i64)).length, .z, .z, .i x3, .i x5]]⟩), (1, dB 1 (v25.map (af .i64))), (0, ⟨5, [[.z, .z, .z, .i 0, .i 0]]⟩)], 3⟩ ?_ ?_
 ·replace h := hv25
  refine sr hF (gv hF oA (sn (Sm.block ?_)))
  refine ba (fO a0 a1) (fun s6 => ⟨[(2, .d (.ptr 9 (Gm.row a0))), (3, .d (.ptr 18 (PRaw.row a1))), (4, .ref 0 0 0), (5, .ref 2 0 0), (6, .i s6.1)], [(2, ⟨5, [[.sref 1 0 (s6.2.map (af .i64)).length, .z, .z, .i x3, .i x5]]⟩), (1, dB 1 (s6.2.map (af .i64))), (0, ⟨5, [[.z, .z, .z, .i 0, .i 0]]⟩)], 3⟩) (0, (List.replicate n1 (0 : Int))) h (kA) ?_
  intro n7 s6 o8 h hd9
  unfold fO at h
  refine Sm.seq (sr hF (gv hF oM (gv hF (oB (bh)) (sn ?_))))
  refine ay hF rfl (fun hc10 => ?_) (fun hc10 => ?_)
  ·replace h := ifF hc10 h
   refine Sm.exit ?_
   replace h := aC h hd9
   obtain rfl := ac h
   exact (kA)
  replace h := ifT hc10 h
  refine sk (Sm.seq ?_)
  obtain ⟨v23, hv23, h⟩ := aa h
  refine aW ⟨[(2, .d (.ptr 9 (Gm.row a0))), (3, .d (.ptr 18 (PRaw.row a1))), (4, .ref 0 0 0), (5, .ref 2 0 0), (6, .i s6.1)], [(2, ⟨5, [[.sref 1 0 (v23.map (af .i64)).length, .z, .z, .i x3, .i x5]]⟩), (1, dB 1 (v23.map (af .i64))), (0, ⟨5, [[.z, .z, .z, .i 0, .i 0]]⟩)], 3⟩ ?_ ?_
  ·refine ab hF rfl ?_
   refine gv hF oM ?_
   obtain ⟨x24, hx24, h⟩ := aa h
   refine gv hF (oB (aU hx24)) (gv hF oA (SmG.nil ?_))
   exact bc (aX h hd9) (kA)
  replace h := hv23
  refine Sm.block (Sm.seq ?_)
  refine dG hF 9 ?_
  refine hv hF oM (hv hF (oF (ai As rfl)) ?_)
  obtain ⟨x11, hx11, h⟩ := aa h
  refine hv hF (az rfl rfl rfl (mK Tryd.underlying27 sz5 (mN hx11) rfl)) ?_
  refine hv hF (oL (mQ (xs := [a1.c0, a1.c1, a1.c2, a1.c3, a1.c4, a1.c5]) (f := (fun x : UInt8 => (.v (.int .u8 (x.toNat : Int)) : D))) (rest := [.v (.int .u8 (a1.k0.toNat : Int)), .v (.int .u8 (a1.k1.toNat : Int)), .v (.int .u8 (a1.k2.toNat : Int)), .v (.int .u8 (a1.k3.toNat : Int)), .v (.int .u8 (a1.k4.toNat : Int)), .v (.int .u8 (a1.k5.toNat : Int)), .v (.int .u8 (a1.h0.toNat : Int)), .v (.int .u8 (a1.h1.toNat : Int)), .v (.int .u8 (a1.h2.toNat : Int)), .v (.int .u8 (a1.h3.toNat : Int)), .v (.int .u8 (a1.rights.toNat : Int)), .v (.int .u8 (a1.side.toNat : Int))]) ag5 rfl hx11)) (hv hF (oC (ek u5 u3 (dM _))) (hv hF (oF (ai mC rfl)) (hv hF (oF (ai kM rfl)) (hv hF (oL (lP1 ag3 rfl)) ?_))))
  obtain ⟨x12, hx12, h⟩ := aa h
  refine hv hF (oB (aU hx12)) ?_
  refine hE ?_
  obtain ⟨x13, hx13, h⟩ := aa h
  refine gv hF (oB (bM hx13)) (gv hF oA (sn (sr hF (gv hF oM (gv hF (oF (ai mC rfl)) (gv hF (oF (ai kM rfl)) (gv hF (oL (lP1 ag3 rfl)) (gv hF (oB (bh)) ?_))))))))
  rcases br (decide (x13 < a0.board.cells)) with hc14 | hc14
  ·replace h := ifF hc14 h
   refine gv hF (ar rfl rfl hc14) (gp hF (gp hF (gp hF (gp hF (gv hF (ap rfl rfl rfl) (sn ?_))))))
   refine bq hF rfl ?_
   refine Sm.skip ?_
   refine ak ?_
   obtain rfl := ac h
   exact (kA)
  replace h := ifT hc14 h
  refine gv hF (ar rfl rfl hc14) (gv hF (oF (ai iy rfl)) (gv hF (oL (lP1 lN rfl)) (gv hF (oN (aY u74)) (gv hF (oB (jk)) (gv hF (aJ rfl rfl rfl) (sn ?_))))))
  refine ay hF rfl (fun hc15 => ?_) (fun hc15 => ?_)
  ·replace h := ifF hc15 h
   refine Sm.skip ?_
   refine ak ?_
   obtain rfl := ac h
   exact (kA)
  replace h := ifT hc15 h
  refine dG hF 17 ?_
  refine hv hF (oF (aD kD)) (hv hF (oL (bZ rfl rfl eo rfl)) (hv hF oM (hv hF oM (hv hF (oF (ai zS rfl)) ?_))))
  obtain ⟨x16, hx16, h⟩ := aa h
  refine hv hF (az rfl rfl rfl (mK Tryd.underlying27 sz5 (mN hx16) rfl)) ?_
  refine hv hF (oL (mQ (xs := [a1.k0, a1.k1, a1.k2, a1.k3, a1.k4, a1.k5]) (f := (fun x : UInt8 => (.v (.int .u8 (x.toNat : Int)) : D))) (rest := [.v (.int .u8 (a1.h0.toNat : Int)), .v (.int .u8 (a1.h1.toNat : Int)), .v (.int .u8 (a1.h2.toNat : Int)), .v (.int .u8 (a1.h3.toNat : Int)), .v (.int .u8 (a1.rights.toNat : Int)), .v (.int .u8 (a1.side.toNat : Int))]) ag5 rfl hx16)) (hv hF (oC (ek u5 u3 (dM _))) (hv hF (oF (ai iy rfl)) (hv hF (oL (lP1 lN rfl)) (hv hF (oN (aY u74)) ?_))))
  obtain ⟨x17, hx17, h⟩ := aa h
  refine hv hF (oB (bM hx17)) ?_
  obtain ⟨x18, hx18, h⟩ := aa h
  refine hv hF (oB (iH hx18)) ?_
  obtain ⟨x19, hx19, h⟩ := aa h
  refine hv hF (oB (aU hx19)) (hv hF oM ?_)
  obtain ⟨x20, hx20, h⟩ := aa h
  refine hv hF (oB (bM hx20)) ?_
  obtain ⟨x21, hx21, h⟩ := aa h
  refine hv hF (oB (aU hx21)) ?_
  refine hE ?_
  obtain ⟨x22, hx22, h⟩ := aa h
  refine gv hF (oI (oX u30 sz3 rfl hx22)) ?_
  refine SmG.store hF rfl rfl rfl rfl rfl (n8 (x' := x21) (ys := [.i x21]) rfl hx22 rfl sz3 rfl rfl rfl rfl rfl) ?_
  refine dq (wA (e := [(2, .d (.ptr 9 (Gm.row a0))), (3, .d (.ptr 18 (PRaw.row a1))), (4, .ref 0 0 0), (5, .ref 2 0 0), (6, .i s6.1), (46, .d (.ptr 6 [.list 3 (a0.kinds.map Knd.row) false, .i a0.rights, .v (.bool a0.must), .list 4 (a0.clauses.map Cls.row) false, .i a0.blocked, .i a0.endless])), (47, .d (.list 3 (a0.kinds.map Knd.row) false)), (48, .i (a0.kinds.length : Int)), (49, .d (.v (.bool (decide (0 < (a0.kinds.length : Int)))))), (67, .i x21)]) (g := [(2, ⟨5, [[.sref 1 0 ((s6.2.set (x13 : Int).toNat x21).map (af .i64)).length, .z, .z, .i x3, .i x5]]⟩), (1, dB 1 ((s6.2.set (x13 : Int).toNat x21).map (af .i64))), (0, ⟨5, [[.z, .z, .z, .i 0, .i 0]]⟩)]) (m := 3)) rfl ?_
  refine SmG.nil (ak ?_)
  obtain rfl := ac h
  exact (kA)
 refine Sm.seq ?_
 obtain ⟨v66, hv66, h⟩ := aa h
 refine aW ⟨[(4, .ref 0 0 0), (5, .ref 2 0 0)], [(4, dB 1 (v66.2.map (af .i64))), (3, dB 1 (v66.1.map (af .i64))), (2, ⟨5, [[.sref 1 0 (v25.map (af .i64)).length, .sref 3 0 (v66.1.map (af .i64)).length, .sref 4 0 (v66.2.map (af .i64)).length, .i x3, .i x5]]⟩), (1, dB 1 (v25.map (af .i64))), (0, ⟨5, [[.z, .z, .z, .i 0, .i 0]]⟩)], 5⟩ ?_ ?_
 ·refine Sm.seq ?_
  refine ab hF rfl ?_
  refine dq (aL (kA (e := [(4, .ref 0 0 0), (5, .ref 2 0 0)]) (g := [(4, dB 1 (v66.2.map (af .i64))), (3, dB 1 (v66.1.map (af .i64))), (2, ⟨5, [[.sref 1 0 (v25.map (af .i64)).length, .sref 3 0 (v66.1.map (af .i64)).length, .sref 4 0 (v66.2.map (af .i64)).length, .i x3, .i x5]]⟩), (1, dB 1 (v25.map (af .i64))), (0, ⟨5, [[.z, .z, .z, .i 0, .i 0]]⟩)]) (m := 5)) (aL (fA (l := 1) (sz := 1) (e := [(4, .ref 0 0 0), (5, .ref 2 0 0)]) (g := [(4, dB 1 (v66.2.map (af .i64))), (3, dB 1 (v66.1.map (af .i64))), (2, ⟨5, [[.l v25, .sref 3 0 (v66.1.map (af .i64)).length, .sref 4 0 (v66.2.map (af .i64)).length, .i x3, .i x5]]⟩), (0, ⟨5, [[.z, .z, .z, .i 0, .i 0]]⟩)]) (nx := 5) (v25.map (af .i64))) (aL (fA (l := 3) (sz := 1) (e := [(4, .ref 0 0 0), (5, .ref 2 0 0)]) (g := [(4, dB 1 (v66.2.map (af .i64))), (2, ⟨5, [[.l v25, .l v66.1, .sref 4 0 (v66.2.map (af .i64)).length, .i x3, .i x5]]⟩), (0, ⟨5, [[.z, .z, .z, .i 0, .i 0]]⟩)]) (nx := 5) (v66.1.map (af .i64))) (fA (l := 4) (sz := 1) (e := [(4, .ref 0 0 0), (5, .ref 2 0 0)]) (g := [(2, ⟨5, [[.l v25, .l v66.1, .l v66.2, .i x3, .i x5]]⟩), (0, ⟨5, [[.z, .z, .z, .i 0, .i 0]]⟩)]) (nx := 5) (v66.2.map (af .i64)))))) rfl ?_
  refine gv hF (x := .d (.agg 5 [.l v25, .l v66.1, .l v66.2, .i x3, .i x5])) (oL (aG rfl rfl gz cK rfl rfl)) ?_
  refine SmG.store hF rfl rfl rfl rfl rfl (bd (ys := [.l v25, .l v66.1, .l v66.2, .i x3, .i x5]) (r := [.z, .z, .z, .i 0, .i 0]) (rows' := [[.l v25, .l v66.1, .l v66.2, .i x3, .i x5]]) rfl rfl rfl cK rfl rfl rfl rfl rfl) ?_
  refine sn (Sm.ret ?_)
  obtain rfl := ac h
  exact dS (RetR.cons (RetO.cell rfl (aG (ds := [.l v25, .l v66.1, .l v66.2, .i x3, .i x5]) rfl rfl gz cK rfl rfl)) (RetR.nil)) (D.le.refl _)
 replace h := hv66
 refine sr hF (gv hF oA (sn (Sm.block ?_)))
 refine Sm.rounds 60 ?_
 refine jZ ?_
 refine Sm.seq (sr hF (gv hF oM (gv hF (oB (dD _ _ _ _ _ (by decide : (0 : Int) < 2))) (sn ?_))))
 refine cP hF rfl ?_
 refine sk (Sm.seq ?_)
 obtain ⟨v45, hv45, h⟩ := aa h
 refine dt ⟨[(2, .d (.ptr 9 (Gm.row a0))), (3, .d (.ptr 18 (PRaw.row a1))), (4, .ref 0 0 0), (5, .ref 2 0 0), (8, .i 0)], [(3, dB 1 (v45.map (af .i64))), (2, ⟨5, [[.sref 1 0 (v25.map (af .i64)).length, .sref 3 0 (v45.map (af .i64)).length, .z, .i x3, .i x5]]⟩), (1, dB 1 (v25.map (af .i64))), (0, ⟨5, [[.z, .z, .z, .i 0, .i 0]]⟩)], 4⟩ ?_ ?_
 ·replace h := hv45
  refine Sm.block (sr hF (gv hF oM (gv hF (oF (ai iy rfl)) (gv hF (oL (lP1 lN rfl)) (gv hF (oN (aY u74)) ?_)))))
  obtain ⟨n26, hn26, h⟩ := aa h
  refine SmG.makeL hF kh rfl rfl (z0 := (0 : Int)) (row := (af .i64)) rfl rfl rfl rfl rfl rfl hn26 rfl ?_
  refine gv hF (oF (aD eT)) (gv hF (oI (oY u31 eE rfl)) ?_)
  refine SmG.store hF rfl rfl rfl rfl rfl (cM (rows' := [[.sref 1 0 (v25.map (af .i64)).length, .sref 3 0 ((List.replicate n26 (0 : Int)).map (af .i64)).length, .z, .i x3, .i x5]]) rfl rfl rfl eE rfl rfl rfl) ?_
  refine sn (sr hF (gv hF oA (sn (Sm.block ?_))))
  refine ba (ia a0 a1) (fun s27 => ⟨[(2, .d (.ptr 9 (Gm.row a0))), (3, .d (.ptr 18 (PRaw.row a1))), (4, .ref 0 0 0), (5, .ref 2 0 0), (8, .i 0), (9, .i s27.1)], [(3, dB 1 (s27.2.map (af .i64))), (2, ⟨5, [[.sref 1 0 (v25.map (af .i64)).length, .sref 3 0 (s27.2.map (af .i64)).length, .z, .i x3, .i x5]]⟩), (1, dB 1 (v25.map (af .i64))), (0, ⟨5, [[.z, .z, .z, .i 0, .i 0]]⟩)], 4⟩) (0, (List.replicate n26 (0 : Int))) h (kA) ?_
  intro n28 s27 o29 h hd30
  unfold ia at h
  refine Sm.seq (sr hF (gv hF oM (gv hF (oF (ai iy rfl)) (gv hF (oL (lP1 lN rfl)) (gv hF (oN (aY u74)) (gv hF (oB (bh)) ?_))))))
  rcases br (decide (s27.1 < (a0.kinds.length : Int))) with hc31 | hc31
  ·replace h := ifF hc31 h
   refine gv hF (ar rfl rfl hc31) (gp hF (gp hF (gv hF (ap rfl rfl rfl) (sn ?_))))
   refine bq hF rfl ?_
   refine Sm.exit ?_
   replace h := aC h hd30
   obtain rfl := ac h
   exact (kA)
  replace h := ifT hc31 h
  refine gv hF (ar rfl rfl hc31) (gv hF oM (gv hF (oB (bh)) (gv hF (aJ rfl rfl rfl) (sn ?_))))
  refine ay hF rfl (fun hc32 => ?_) (fun hc32 => ?_)
  ·replace h := ifF hc32 h
   refine Sm.exit ?_
   replace h := aC h hd30
   obtain rfl := ac h
   exact (kA)
  replace h := ifT hc32 h
  refine sk (Sm.seq ?_)
  obtain ⟨v43, hv43, h⟩ := aa h
  refine aW ⟨[(2, .d (.ptr 9 (Gm.row a0))), (3, .d (.ptr 18 (PRaw.row a1))), (4, .ref 0 0 0), (5, .ref 2 0 0), (8, .i 0), (9, .i s27.1), (86, .i s27.1), (87, .d (.v (.bool (decide (s27.1 < 2)))))], [(3, dB 1 (v43.map (af .i64))), (2, ⟨5, [[.sref 1 0 (v25.map (af .i64)).length, .sref 3 0 (v43.map (af .i64)).length, .z, .i x3, .i x5]]⟩), (1, dB 1 (v25.map (af .i64))), (0, ⟨5, [[.z, .z, .z, .i 0, .i 0]]⟩)], 4⟩ ?_ ?_
  ·refine ab hF rfl ?_
   refine gv hF oM ?_
   obtain ⟨x44, hx44, h⟩ := aa h
   refine gv hF (oB (aU hx44)) (gv hF oA (SmG.nil ?_))
   exact bc (aX h hd30) (kA)
  replace h := hv43
  refine Sm.block (sr hF (gv hF (oF (ai iy rfl)) (gv hF (oL (lP1 lN rfl)) (gv hF oM ?_))))
  obtain ⟨x33, hx33, h⟩ := aa h
  refine gv hF (oI (aT u74 kw hx33)) (gv hF (oF (ai uq rfl)) (gv hF (oL (lP1 ag4 rfl)) (sn ?_)))
  refine ay hF rfl (fun hc34 => ?_) (fun hc34 => ?_)
  ·replace h := ifF hc34 h
   refine Sm.skip ?_
   refine ak ?_
   obtain rfl := ac h
   exact (kA)
  replace h := ifT hc34 h
  refine Sm.seq ?_
  refine dG hF 14 ?_
  refine hv hF oM (hv hF (oF (aD eT)) (hv hF (oI (oY u31 eE rfl)) (hv hF (oL (bZ rfl rfl eo rfl)) (hv hF oM (hv hF oM (hv hF (oB (iH (v := 0) rfl)) (hv hF oM ?_)))))))
  obtain ⟨x35, hx35, h⟩ := aa h
  refine hv hF (oB (aU hx35)) (hv hF (oF (ai qf rfl)) ?_)
  obtain ⟨x36, hx36, h⟩ := aa h
  refine hv hF (az rfl rfl rfl (mK Tryd.underlying59 sz5 (mN hx36) rfl)) ?_
  refine hv hF (oL (mQ (xs := [a1.h0, a1.h1, a1.h2, a1.h3]) (f := (fun x : UInt8 => (.v (.int .u8 (x.toNat : Int)) : D))) (rest := [.v (.int .u8 (a1.rights.toNat : Int)), .v (.int .u8 (a1.side.toNat : Int))]) ag5 rfl hx36)) (hv hF (oC (ek u5 u3 (dM _))) ?_)
  obtain ⟨x37, hx37, h⟩ := aa h
  refine hv hF (oB (bM hx37)) ?_
  refine hE ?_
  obtain ⟨x38, hx38, h⟩ := aa h
  refine gv hF (oI (oX u30 sz3 rfl hx38)) ?_
  refine SmG.store hF rfl rfl rfl rfl rfl (n8 (x' := x37) (ys := [.i x37]) rfl hx38 rfl sz3 rfl rfl rfl rfl rfl) ?_
  refine dq (wA (e := [(2, .d (.ptr 9 (Gm.row a0))), (3, .d (.ptr 18 (PRaw.row a1))), (4, .ref 0 0 0), (5, .ref 2 0 0), (8, .i 0), (9, .i s27.1), (86, .i s27.1), (87, .d (.v (.bool (decide (s27.1 < 2))))), (110, .i x37)]) (g := [(3, dB 1 ((s27.2.set (s27.1 : Int).toNat x37).map (af .i64))), (2, ⟨5, [[.sref 1 0 (v25.map (af .i64)).length, .sref 3 0 ((s27.2.set (s27.1 : Int).toNat x37).map (af .i64)).length, .z, .i x3, .i x5]]⟩), (1, dB 1 (v25.map (af .i64))), (0, ⟨5, [[.z, .z, .z, .i 0, .i 0]]⟩)]) (m := 4)) rfl ?_
  refine sn (sr hF (gv hF oM (gv hF (oB (iH (v := 0) rfl)) (gv hF oM ?_))))
  obtain ⟨x39, hx39, h⟩ := aa h
  refine gv hF (oB (aU hx39)) (gv hF (oF (ai qf rfl)) ?_)
  obtain ⟨x40, hx40, h⟩ := aa h
  refine gv hF (az rfl rfl rfl (mK Tryd.underlying59 sz5 (mN hx40) rfl)) ?_
  refine gv hF (oL (mQ (xs := [a1.h0, a1.h1, a1.h2, a1.h3]) (f := (fun x : UInt8 => (.v (.int .u8 (x.toNat : Int)) : D))) (rest := [.v (.int .u8 (a1.rights.toNat : Int)), .v (.int .u8 (a1.side.toNat : Int))]) ag5 rfl hx40)) (gv hF (oB (jk)) (sn ?_))
  refine ay hF rfl (fun hc41 => ?_) (fun hc41 => ?_)
  ·replace h := ifF hc41 h
   refine Sm.skip ?_
   refine ak ?_
   obtain rfl := ac h
   exact (kA)
  replace h := ifT hc41 h
  refine ab hF rfl ?_
  refine gv hF oM (gv hF (oF (aD eT)) (gv hF (oI (oY u31 eE rfl)) (gv hF (oL (bZ rfl rfl eo rfl)) (gv hF oM ?_))))
  obtain ⟨x42, hx42, h⟩ := aa h
  refine gv hF (oI (oX u30 sz3 rfl hx42)) ?_
  refine SmG.store hF rfl rfl rfl rfl rfl (n8 (x' := 8) (ys := [.i 8]) rfl hx42 rfl sz3 rfl rfl rfl rfl rfl) ?_
  refine dq (wA (e := [(2, .d (.ptr 9 (Gm.row a0))), (3, .d (.ptr 18 (PRaw.row a1))), (4, .ref 0 0 0), (5, .ref 2 0 0), (8, .i 0), (9, .i s27.1), (86, .i s27.1), (87, .d (.v (.bool (decide (s27.1 < 2)))))]) (g := [(3, dB 1 (((s27.2.set (s27.1 : Int).toNat x37).set (s27.1 : Int).toNat 8).map (af .i64))), (2, ⟨5, [[.sref 1 0 (v25.map (af .i64)).length, .sref 3 0 (((s27.2.set (s27.1 : Int).toNat x37).set (s27.1 : Int).toNat 8).map (af .i64)).length, .z, .i x3, .i x5]]⟩), (1, dB 1 (v25.map (af .i64))), (0, ⟨5, [[.z, .z, .z, .i 0, .i 0]]⟩)]) (m := 4)) rfl ?_
  refine SmG.nil (ak ?_)
  obtain rfl := ac h
  exact (kA)
 refine ab hF rfl ?_
 refine gv hF oM (gv hF (oB (aU (v := 1) rfl)) (gv hF oA (sn ?_)))
 refine jZ ?_
 refine Sm.seq (sr hF (gv hF oM (gv hF (oB (dD _ _ _ _ _ (by decide : (1 : Int) < 2))) (sn ?_))))
 refine cP hF rfl ?_
 refine sk (Sm.seq ?_)
 obtain ⟨v65, hv65, h⟩ := aa h
 refine aW ⟨[(2, .d (.ptr 9 (Gm.row a0))), (3, .d (.ptr 18 (PRaw.row a1))), (4, .ref 0 0 0), (5, .ref 2 0 0), (8, .i 1)], [(4, dB 1 (v65.map (af .i64))), (3, dB 1 (v45.map (af .i64))), (2, ⟨5, [[.sref 1 0 (v25.map (af .i64)).length, .sref 3 0 (v45.map (af .i64)).length, .sref 4 0 (v65.map (af .i64)).length, .i x3, .i x5]]⟩), (1, dB 1 (v25.map (af .i64))), (0, ⟨5, [[.z, .z, .z, .i 0, .i 0]]⟩)], 5⟩ ?_ ?_
 ·refine ab hF rfl ?_
  refine gv hF oM (gv hF (oB (aU (v := 2) rfl)) (gv hF oA (sn ?_)))
  refine jZ ?_
  refine Sm.seq (sr hF (gv hF oM (gv hF (oB (dO _ _ _ _ _ (by decide : ¬ (2 : Int) < 2))) (sn ?_))))
  refine bq hF rfl ?_
  refine Sm.exit ?_
  obtain rfl := ac h
  exact (kA)
 replace h := hv65
 refine Sm.block (sr hF (gv hF oM (gv hF (oF (ai iy rfl)) (gv hF (oL (lP1 lN rfl)) (gv hF (oN (aY u74)) ?_)))))
 obtain ⟨n46, hn46, h⟩ := aa h
 refine SmG.makeL hF kh rfl rfl (z0 := (0 : Int)) (row := (af .i64)) rfl rfl rfl rfl rfl rfl hn46 rfl ?_
 refine gv hF (oF (aD eT)) (gv hF (oI (oY u31 eE rfl)) ?_)
 refine SmG.store hF rfl rfl rfl rfl rfl (cM (rows' := [[.sref 1 0 (v25.map (af .i64)).length, .sref 3 0 (v45.map (af .i64)).length, .sref 4 0 ((List.replicate n46 (0 : Int)).map (af .i64)).length, .i x3, .i x5]]) rfl rfl rfl eE rfl rfl rfl) ?_
 refine sn (sr hF (gv hF oA (sn (Sm.block ?_))))
 refine ba (gW a0 a1) (fun s47 => ⟨[(2, .d (.ptr 9 (Gm.row a0))), (3, .d (.ptr 18 (PRaw.row a1))), (4, .ref 0 0 0), (5, .ref 2 0 0), (8, .i 1), (9, .i s47.1)], [(4, dB 1 (s47.2.map (af .i64))), (3, dB 1 (v45.map (af .i64))), (2, ⟨5, [[.sref 1 0 (v25.map (af .i64)).length, .sref 3 0 (v45.map (af .i64)).length, .sref 4 0 (s47.2.map (af .i64)).length, .i x3, .i x5]]⟩), (1, dB 1 (v25.map (af .i64))), (0, ⟨5, [[.z, .z, .z, .i 0, .i 0]]⟩)], 5⟩) (0, (List.replicate n46 (0 : Int))) h (kA) ?_
 intro n48 s47 o49 h hd50
 unfold gW at h
 refine Sm.seq (sr hF (gv hF oM (gv hF (oF (ai iy rfl)) (gv hF (oL (lP1 lN rfl)) (gv hF (oN (aY u74)) (gv hF (oB (bh)) ?_))))))
 rcases br (decide (s47.1 < (a0.kinds.length : Int))) with hc51 | hc51
 ·replace h := ifF hc51 h
  refine gv hF (ar rfl rfl hc51) (gp hF (gp hF (gv hF (ap rfl rfl rfl) (sn ?_))))
  refine bq hF rfl ?_
  refine Sm.exit ?_
  replace h := aC h hd50
  obtain rfl := ac h
  exact (kA)
 replace h := ifT hc51 h
 refine gv hF (ar rfl rfl hc51) (gv hF oM (gv hF (oB (bh)) (gv hF (aJ rfl rfl rfl) (sn ?_))))
 refine ay hF rfl (fun hc52 => ?_) (fun hc52 => ?_)
 ·replace h := ifF hc52 h
  refine Sm.exit ?_
  replace h := aC h hd50
  obtain rfl := ac h
  exact (kA)
 replace h := ifT hc52 h
 refine sk (Sm.seq ?_)
 obtain ⟨v63, hv63, h⟩ := aa h
 refine aW ⟨[(2, .d (.ptr 9 (Gm.row a0))), (3, .d (.ptr 18 (PRaw.row a1))), (4, .ref 0 0 0), (5, .ref 2 0 0), (8, .i 1), (9, .i s47.1), (86, .i s47.1), (87, .d (.v (.bool (decide (s47.1 < 2)))))], [(4, dB 1 (v63.map (af .i64))), (3, dB 1 (v45.map (af .i64))), (2, ⟨5, [[.sref 1 0 (v25.map (af .i64)).length, .sref 3 0 (v45.map (af .i64)).length, .sref 4 0 (v63.map (af .i64)).length, .i x3, .i x5]]⟩), (1, dB 1 (v25.map (af .i64))), (0, ⟨5, [[.z, .z, .z, .i 0, .i 0]]⟩)], 5⟩ ?_ ?_
 ·refine ab hF rfl ?_
  refine gv hF oM ?_
  obtain ⟨x64, hx64, h⟩ := aa h
  refine gv hF (oB (aU hx64)) (gv hF oA (SmG.nil ?_))
  exact bc (aX h hd50) (kA)
 replace h := hv63
 refine Sm.block (sr hF (gv hF (oF (ai iy rfl)) (gv hF (oL (lP1 lN rfl)) (gv hF oM ?_))))
 obtain ⟨x53, hx53, h⟩ := aa h
 refine gv hF (oI (aT u74 kw hx53)) (gv hF (oF (ai uq rfl)) (gv hF (oL (lP1 ag4 rfl)) (sn ?_)))
 refine ay hF rfl (fun hc54 => ?_) (fun hc54 => ?_)
 ·replace h := ifF hc54 h
  refine Sm.skip ?_
  refine ak ?_
  obtain rfl := ac h
  exact (kA)
 replace h := ifT hc54 h
 refine Sm.seq ?_
 refine dG hF 14 ?_
 refine hv hF oM (hv hF (oF (aD eT)) (hv hF (oI (oY u31 eE rfl)) (hv hF (oL (bZ rfl rfl eo rfl)) (hv hF oM (hv hF oM (hv hF (oB (iH (v := 2) rfl)) (hv hF oM ?_)))))))
 obtain ⟨x55, hx55, h⟩ := aa h
 refine hv hF (oB (aU hx55)) (hv hF (oF (ai qf rfl)) ?_)
 obtain ⟨x56, hx56, h⟩ := aa h
 refine hv hF (az rfl rfl rfl (mK Tryd.underlying59 sz5 (mN hx56) rfl)) ?_
 refine hv hF (oL (mQ (xs := [a1.h0, a1.h1, a1.h2, a1.h3]) (f := (fun x : UInt8 => (.v (.int .u8 (x.toNat : Int)) : D))) (rest := [.v (.int .u8 (a1.rights.toNat : Int)), .v (.int .u8 (a1.side.toNat : Int))]) ag5 rfl hx56)) (hv hF (oC (ek u5 u3 (dM _))) ?_)
 obtain ⟨x57, hx57, h⟩ := aa h
 refine hv hF (oB (bM hx57)) ?_
 refine hE ?_
 obtain ⟨x58, hx58, h⟩ := aa h
 refine gv hF (oI (oX u30 sz3 rfl hx58)) ?_
 refine SmG.store hF rfl rfl rfl rfl rfl (n8 (x' := x57) (ys := [.i x57]) rfl hx58 rfl sz3 rfl rfl rfl rfl rfl) ?_
 refine dq (wA (e := [(2, .d (.ptr 9 (Gm.row a0))), (3, .d (.ptr 18 (PRaw.row a1))), (4, .ref 0 0 0), (5, .ref 2 0 0), (8, .i 1), (9, .i s47.1), (86, .i s47.1), (87, .d (.v (.bool (decide (s47.1 < 2))))), (110, .i x57)]) (g := [(4, dB 1 ((s47.2.set (s47.1 : Int).toNat x57).map (af .i64))), (3, dB 1 (v45.map (af .i64))), (2, ⟨5, [[.sref 1 0 (v25.map (af .i64)).length, .sref 3 0 (v45.map (af .i64)).length, .sref 4 0 ((s47.2.set (s47.1 : Int).toNat x57).map (af .i64)).length, .i x3, .i x5]]⟩), (1, dB 1 (v25.map (af .i64))), (0, ⟨5, [[.z, .z, .z, .i 0, .i 0]]⟩)]) (m := 5)) rfl ?_
 refine sn (sr hF (gv hF oM (gv hF (oB (iH (v := 2) rfl)) (gv hF oM ?_))))
 obtain ⟨x59, hx59, h⟩ := aa h
 refine gv hF (oB (aU hx59)) (gv hF (oF (ai qf rfl)) ?_)
 obtain ⟨x60, hx60, h⟩ := aa h
 refine gv hF (az rfl rfl rfl (mK Tryd.underlying59 sz5 (mN hx60) rfl)) ?_
 refine gv hF (oL (mQ (xs := [a1.h0, a1.h1, a1.h2, a1.h3]) (f := (fun x : UInt8 => (.v (.int .u8 (x.toNat : Int)) : D))) (rest := [.v (.int .u8 (a1.rights.toNat : Int)), .v (.int .u8 (a1.side.toNat : Int))]) ag5 rfl hx60)) (gv hF (oB (jk)) (sn ?_))
 refine ay hF rfl (fun hc61 => ?_) (fun hc61 => ?_)
 ·replace h := ifF hc61 h
  refine Sm.skip ?_
  refine ak ?_
  obtain rfl := ac h
  exact (kA)
 replace h := ifT hc61 h
 refine ab hF rfl ?_
 refine gv hF oM (gv hF (oF (aD eT)) (gv hF (oI (oY u31 eE rfl)) (gv hF (oL (bZ rfl rfl eo rfl)) (gv hF oM ?_))))
 obtain ⟨x62, hx62, h⟩ := aa h
 refine gv hF (oI (oX u30 sz3 rfl hx62)) ?_
 refine SmG.store hF rfl rfl rfl rfl rfl (n8 (x' := 8) (ys := [.i 8]) rfl hx62 rfl sz3 rfl rfl rfl rfl rfl) ?_
 refine dq (wA (e := [(2, .d (.ptr 9 (Gm.row a0))), (3, .d (.ptr 18 (PRaw.row a1))), (4, .ref 0 0 0), (5, .ref 2 0 0), (8, .i 1), (9, .i s47.1), (86, .i s47.1), (87, .d (.v (.bool (decide (s47.1 < 2)))))]) (g := [(4, dB 1 (((s47.2.set (s47.1 : Int).toNat x57).set (s47.1 : Int).toNat 8).map (af .i64))), (3, dB 1 (v45.map (af .i64))), (2, ⟨5, [[.sref 1 0 (v25.map (af .i64)).length, .sref 3 0 (v45.map (af .i64)).length, .sref 4 0 (((s47.2.set (s47.1 : Int).toNat x57).set (s47.1 : Int).toNat 8).map (af .i64)).length, .i x3, .i x5]]⟩), (1, dB 1 (v25.map (af .i64))), (0, ⟨5, [[.z, .z, .z, .i 0, .i 0]]⟩)]) (m := 5)) rfl ?_
 refine SmG.nil (ak ?_)
 obtain rfl := ac h
 exact (kA)
noncomputable def fS (a0 : Gm) (a1 : List PRaw) (a2 : Int) (s1 : (Int × (List Ps))) : Option ((Int × (List Ps)) ⊕ List Ps) :=
 bif (decide (s1.1 < (a1.length : Int))) then (
  bif (decide (s1.1 < a2)) then (
   ob (idx a1 s1.1) fun x7 =>
   ob (fI a0 x7) fun x8 =>
   ob (app s1.2 [x8]) fun x9 =>
   ob (arI .i64 (s1.1 + 1)) fun x10 =>
   some (.inl (x10, x9))
  ) else (
   some (.inr s1.2)
  )
 ) else (
  some (.inr s1.2)
 )
noncomputable def fE (a0 : Gm) (a1 : List PRaw) (a2 : Int) : Option (List Ps) :=
 ob ((
  bm (fS a0 a1 a2) (0, ([] : List Ps))
  : Option (List Ps))) fun v11 =>
 some v11
set_option maxHeartbeats 4000000 in
theorem np {a0 : Gm} {a1 : List PRaw} {a2 : Int} {r : List Ps} (h : fE a0 a1 a2 = some r) : aj Tryd.prog HG 30 [.agg 9 (Gm.row a0), .list 18 (a1.map PRaw.row) false, .i a2] (.list 5 (r.map Ps.row) false) := by
 unfold fE at h
 refine aj.of Tryd.func30 rfl Tryd.ntmps30 (by simp) ?_
 intro F hF h0 hT
 show Sm F _ _ ⟨[(0, .d (.agg 9 (Gm.row a0))), (1, .d (.list 18 (a1.map PRaw.row) false)), (2, .i a2)], [], 0⟩
 refine sr hF ?_
 refine bQ hF gi ?_
 refine gv hF oA (sn (sr hF (gv hF (x := .d (.list 5 (([] : List Ps).map Ps.row) true)) (oS (dN u40 cK)) (gv hF oA (sn (Sm.seq ?_))))))
 obtain ⟨v11, hv11, h⟩ := aa h
 refine aW ⟨[(7, .d (.list 5 (v11.map Ps.row) false))], [], 1⟩ ?_ ?_
 ·refine Sm.seq ?_
  refine ab hF rfl ?_
  refine gv hF oM (gv hF oA (sn (Sm.ret ?_)))
  obtain rfl := ac h
  exact bu rfl rfl
 replace h := hv11
 refine sr hF (gv hF oA (sn (Sm.block ?_)))
 refine Sm.to (kA (e := [(1, .d (.list 18 (a1.map PRaw.row) false)), (2, .i a2), (3, .d (.ptr 9 (Gm.row a0))), (7, .d (.list 5 ([].map Ps.row) true)), (8, .i 0)]) (g := []) (m := 0)) ?_
 refine Sm.own (t := 7) 5 rfl ?_
 refine ba (fS a0 a1 a2) (fun s1 => ⟨[(1, .d (.list 18 (a1.map PRaw.row) false)), (2, .i a2), (3, .d (.ptr 9 (Gm.row a0))), (7, .sref 0 0 (s1.2.map Ps.row).length), (8, .i s1.1)], [(0, dB 5 (s1.2.map Ps.row))], 1⟩) (0, ([] : List Ps)) h (kA) ?_
 intro n2 s1 o3 h hd4
 unfold fS at h
 refine Sm.seq (sr hF (gv hF oM (gv hF oM (gv hF (oN (aY u22)) (gv hF (oB (bh)) ?_)))))
 rcases br (decide (s1.1 < (a1.length : Int))) with hc5 | hc5
 ·replace h := ifF hc5 h
  refine gv hF (ar rfl rfl hc5) (gp hF (gp hF (gp hF (gv hF (ap rfl rfl rfl) (sn ?_)))))
  refine bq hF rfl ?_
  refine Sm.exit ?_
  replace h := aC h hd4
  obtain rfl := ac h
  exact (aL (kA (e := [(7, .sref 0 0 (s1.2.map Ps.row).length)]) (g := [(0, dB 5 (s1.2.map Ps.row))]) (m := 1)) (fA (l := 0) (sz := 5) (s1.2.map Ps.row)))
 replace h := ifT hc5 h
 refine gv hF (ar rfl rfl hc5) (gv hF oM (gv hF oM (gv hF (oB (bh)) (gv hF (aJ rfl rfl rfl) (sn ?_)))))
 refine ay hF rfl (fun hc6 => ?_) (fun hc6 => ?_)
 ·replace h := ifF hc6 h
  refine Sm.exit ?_
  replace h := aC h hd4
  obtain rfl := ac h
  exact (aL (kA (e := [(7, .sref 0 0 (s1.2.map Ps.row).length)]) (g := [(0, dB 5 (s1.2.map Ps.row))]) (m := 1)) (fA (l := 0) (sz := 5) (s1.2.map Ps.row)))
 replace h := ifT hc6 h
 refine sk (Sm.seq (Sm.block ?_))
 refine dG hF 8 ?_
 refine hv hF oM (hv hF (x := .d (.agg 9 (Gm.row a0))) (oL (bR vj q6 rfl rfl)) (hv hF oM (hv hF oM ?_)))
 obtain ⟨x7, hx7, h⟩ := aa h
 refine hv hF (oI (aT u22 xP hx7)) (hv hF (x := .d (.agg 18 (PRaw.row x7))) (oL (bR zZ xP rfl rfl)) ?_)
 obtain ⟨x8, hx8, h⟩ := aa h
 refine cH hF (ny hx8) ?_
 refine hv hF (x := .d (.list 5 ([x8].map Ps.row) true)) (oS (aw u40 cK oz rfl rfl (PartsQ.cons rfl (PartsQ.nil _)) rfl)) ?_
 refine hE ?_
 obtain ⟨x9, hx9, h⟩ := aa h
 refine aV hF Ga rfl (ys := [x8]) (row := Ps.row) rfl rfl rfl rfl rfl rfl rfl rfl (.inl rfl) hx9 (by (repeat' first | exact bn _ | refine be ?_ | refine am ?_ (aP _ _ _) | refine am ?_ (aP _ _ [_]) | refine am ?_ (bD (by rfl)))) ?_
 refine gv hF oA (SmG.nil (ak (ae ?_)))
 refine ab hF rfl ?_
 refine gv hF oM ?_
 obtain ⟨x10, hx10, h⟩ := aa h
 refine gv hF (oB (aU hx10)) (gv hF oA (SmG.nil ?_))
 exact bc (aX h hd4) (kA)
end
section
open Go.RowKit
section
variable {P : Program} {l : List Oper} {a0 : Act} {w0 : World} {Q : Exit → Act → World → Prop}
def oV (l : List Oper) (vals : List Value) (j : Nat) : Value := ((l[j]?).bind (·.dst)).elim undef fun _ => vals.getD j undef
theorem qL {id : Nat} (vals : List Value) (σ : (Nat → Bool) → World → Prop) (hm : P.follows .mixedOrders = true) (hB : lM l a0.tmps.size = true) (hlen : vals.length = l.length)
  (h0 : ∀ S, (∀ j, S j = false) → σ S w0.drew)
  (hstep : ∀ (i : Nat) (o : Oper), l.toArray[i]? = some o → ∀ (S S' : Nat → Bool) a w, S i = false → (∀ e ∈ o.after, Region.binds .any e = true → S e.on = true) →
   (∀ (j : Nat) (oj : Oper), l[j]? = some oj → S j = true → ∀ e ∈ oj.after, Region.binds .any e = true → S e.on = true) → σ S w → lD l.toArray a0 a →
   (∀ e ∈ o.after, Region.binds .any e = true → ∀ (oe : Oper) (d : Tmp), l[e.on]? = some oe → oe.dst = some d → a.tmps[d]?.getD undef = vals.getD e.on undef) →
   (∀ j, S' j = if j = i then true else S j) →
   if Region.wanted o (yielded l.toArray a.tmps) then o.wp P a w (fun a' w' => a' = a.put o.dst (vals.getD i undef) ∧ σ S' w') Q else vals.getD i undef = undef ∧ σ S' w)
  (hend : ∀ S w, (∀ j, j < l.length → S j = true) → σ S w → Q .normal (bH a0 ((l.map (·.dst)).zip vals)) w) :
  (Code.region id l.toArray true).wp P Q a0 w0 := by
 have hB' := hB
 simp only [lM, Bool.and_eq_true] at hB'
 obtain ⟨⟨hB1, hB2⟩, hB3⟩ := hB'
 have hsz : ∀ (i : Nat) (o : Oper) (d : Tmp), l.toArray[i]? = some o → o.dst = some d → d < a0.tmps.size := by
  intro i o d hi hd
  have := List.all_eq_true.1 hB1 d (List.mem_filterMap.2 ⟨o, List.mem_iff_getElem?.2 ⟨i, by simpa using hi⟩, hd⟩)
  simpa using this
 have hd : ∀ (i j : Nat) (oi oj : Oper) (d : Tmp), l.toArray[i]? = some oi → l.toArray[j]? = some oj → oi.dst = some d → oj.dst = some d → i = j :=
  fun i j oi oj d hi hj => kQ l (of_decide_eq_true hB2) i j oi oj d (by simpa using hi) (by simpa using hj)
 have hbk : ∀ (i : Nat) (o : Oper), l.toArray[i]? = some o → ∀ e ∈ o.after, Region.binds .any e = true → e.on < i := by
  intro i o hi e he hb
  have hz : (o, i) ∈ l.zipIdx := by
   rw [List.mem_zipIdx_iff_getElem?]
   simpa using hi
  have := List.all_eq_true.1 hB3 (o, i) hz
  simp only [Array.all_eq_true_iff_forall_mem] at this
  have := this e he
  simpa [hb] using this
 let G : Nat → (Nat → Value) → World → Prop := fun j ρ _ => ρ j = oV l vals j
 let E : World → World → Prop := fun _ _ => True
 have hG : ∀ j ρ w w', G j ρ w → E w w' → G j ρ w' := fun _ _ _ _ h _ => h
 have hloc : ∀ (j : Nat) (o : Oper), l.toArray[j]? = some o → ∀ ρ ρ' w, ρ j = ρ' j → (∀ e ∈ o.after, Region.binds .any e = true → ρ e.on = ρ' e.on) → G j ρ w → G j ρ' w :=
  fun j o _ ρ ρ' w h _ hg => h.symm.trans hg
 refine wp_region_any hm ?_
 have hsize : l.toArray.size = l.length := by simp
 have fin : ∀ (listed : Array Bool) (a : Act) (w : World), listed.size = l.toArray.size → ParInv l.toArray a0 w0 G E listed a w → σ (fun j => listed.getD j false) w → Region.ready .any l.toArray listed = [] → Q .normal a w := by
  intro listed a w hls inv hs hr
  have hall := lq hls hbk hr
  have := hend (fun j => listed.getD j false) w (fun j hj => hall j (by rw [hsize]; exact hj)) hs
  have e : bH a0 ((l.map (·.dst)).zip vals) = a := by
   rw [← mr l a0 a inv.size inv.defers (fun s hs => inv.rest s (fun j o ho _ => hs j o (by simpa using ho)))]
   refine jN _ _ _ a0 (by simp [hlen]) (by simp) ?_
   intro j s hj
   rw [List.getElem?_map] at hj
   cases hok : l[j]? with
   | none => rw [hok] at hj; cases hj
   | some ok =>
    rw [hok] at hj
    simp at hj
    have hjl : j < l.length := (List.getElem?_eq_some_iff.1 hok).1
    have hg := inv.got j ok (by simpa using hok) (hall j (by rw [hsize]; exact hjl))
    simp only [G, oV, hok, Option.bind_some, hj, Option.elim_some] at hg
    rw [← hg]
    simp [rho, hok]
  rwa [e] at this
 have main : ∀ (fuel : Nat) (listed : Array Bool) (a : Act) (w : World), listed.size = l.toArray.size → (listed.toList.filter (fun b => !b)).length ≤ fuel → ParInv l.toArray a0 w0 G E listed a w → σ (fun j => listed.getD j false) w → wpAny P .any l.toArray Q fuel listed a w := by
  intro fuel
  induction fuel with
  | zero =>
   intro listed a w hls hf inv hs
   have hr : Region.ready .any l.toArray listed = [] := by
    cases h : Region.ready .any l.toArray listed with
    | nil => rfl
    | cons j r =>
     have hj : j ∈ Region.ready .any l.toArray listed := by rw [h]; simp
     obtain ⟨h0, o, ho, _⟩ := mem_ready.1 hj
     have hlt : j < listed.size := by rw [hls]; exact (Array.getElem?_eq_some_iff.1 ho).1
     have : false ∈ listed.toList.filter (fun b => !b) := by
      rw [List.mem_filter]
      refine ⟨?_, rfl⟩
      rw [List.mem_iff_getElem?]
      refine ⟨j, ?_⟩
      simp [hlt] at h0 ⊢
      exact h0
     have h3 := List.length_pos_of_mem this
     omega
   exact ⟨hr, fin listed a w hls inv hs hr⟩
  | succ fuel ih =>
   intro listed a w hls hf inv hs
   refine ⟨fin listed a w hls inv hs, fun i hi => ?_⟩
   obtain ⟨h0, o, ho, hall⟩ := mem_ready.1 hi
   have hlt : i < listed.size := by rw [hls]; exact (Array.getElem?_eq_some_iff.1 ho).1
   have hst := hstep i o ho (fun j => listed.getD j false) (fun j => (listed.setIfInBounds i true).getD j false) a w (getD_both h0) hall (fun j oj hj hl e he hb => inv.closed j oj (by simpa using hj) hl e he hb) hs (fun s hs => inv.rest s (fun j oj hj _ => hs j oj hj)) (fun e he hb oe d hoe hde => by
    have hg := inv.got e.on oe (by simpa using hoe) (hall e he hb)
    simp only [G, oV, hoe, Option.bind_some, hde, Option.elim_some] at hg
    rw [← hg]
    simp [rho, hoe, e6, hde, Array.getD_eq_getD_getElem?]) (fun j => by
     by_cases hji : j = i
     ·subst hji; rw [if_pos rfl]; simp [hlt]
     ·rw [if_neg hji, getD_set_ne _ (Ne.symm hji)])
   have hcount : ((listed.setIfInBounds i true).toList.filter (fun b => !b)).length ≤ fuel := by
    have h0' : listed.toList[i]? = some false := by
     simp [hlt] at h0 ⊢; exact h0
    have := lp listed.toList i h0'
    rw [Array.toList_setIfInBounds]
    omega
   have nextInv : ∀ v w', (o.dst.elim undef fun _ => v) = oV l vals i → ParInv l.toArray a0 w0 G E (listed.setIfInBounds i true) (a.put o.dst v) w' :=
    fun v w' hv => my (fun _ _ _ _ _ => trivial) hG hloc hd hsz hbk inv ho hlt h0 hall trivial (by simp only [G, upd]; exact (if_pos trivial).trans hv)
   have hval : (o.dst.elim undef fun _ => vals.getD i undef) = oV l vals i := by
    have ho' : l[i]? = some o := by simpa using ho
    simp only [oV, ho', Option.bind_some]
   unfold wpOp
   simp only [ho]
   split
   ·rename_i hw
    rw [if_pos hw] at hst
    refine .inl (Oper.wp_mono (fun a' w' h => ?_) hst)
    obtain ⟨rfl, hs'⟩ := h
    exact ih _ _ _ (by simp [hls]) hcount (nextInv _ w' hval) hs'
   ·rename_i hw
    rw [if_neg hw] at hst
    obtain ⟨hu, hs'⟩ := hst
    refine ih _ _ _ (by simp [hls]) hcount (nextInv undef w ?_) hs'
    rw [← hval, hu]
 have hl0 : ∀ j, (Array.replicate l.toArray.size false).getD j false = false := fun j => getD_replicate_false _ _
 exact main l.toArray.size (Array.replicate l.toArray.size false) a0 w0.drew (by simp) (by
  refine Nat.le_trans (List.length_filter_le _ _) ?_
  simp) ⟨trivial, rfl, rfl, fun s _ => rfl, fun j o _ hl => (by rw [hl0] at hl; cases hl), fun j o _ hl => (by rw [hl0] at hl; cases hl)⟩ (h0 _ hl0)
end
end
section
open Go.RowKit
section
variable {P : Program} {l : List Oper} {a0 : Act} {w0 : World} {Q : Exit → Act → World → Prop}
structure EFresh (B : Nat) (x : Obj) (A C : World) : Prop where
 below : Below B A C
 above : ∀ k, B ≤ k → k < A.heap.size → C.heap[k]? = A.heap[k]? ∨ C.heap[k]? = some x
theorem EFresh.refl (B : Nat) (x : Obj) (A : World) : EFresh B x A A := ⟨Below.refl _ _, fun _ _ _ => .inl rfl⟩
theorem EFresh.trans {B : Nat} {x : Obj} {A C D : World} (h : EFresh B x A C) (k : EFresh B x C D) : EFresh B x A D :=
 ⟨h.below.trans k.below, fun i h1 h2 => by
  rcases k.above i h1 (Nat.lt_of_lt_of_le h2 h.below.size) with h' | h'
  ·rcases h.above i h1 h2 with h'' | h''
   ·exact .inl (h'.trans h'')
   ·exact .inr (h'.trans h'')
  ·exact .inr h'⟩
theorem EFresh.of_below {B : Nat} {x : Obj} {A C : World} (h : Below A.heap.size A C) (hB : B ≤ A.heap.size) : EFresh B x A C :=
 ⟨h.mono hB, fun k _ h2 => .inl (h.block k h2)⟩
def iT (B p s : Nat) (vals : List Value) (z x : Obj) (j : Nat) (ρ : Nat → Value) (W : World) : Prop :=
 if j = p then ∃ a, ρ p = .pointer (some ⟨a, 0, none⟩) ∧ B ≤ a ∧ (W.heap[a]? = some z ∨ W.heap[a]? = some x)
 else if j = s then ∃ a, ρ p = .pointer (some ⟨a, 0, none⟩) ∧ B ≤ a ∧ W.heap[a]? = some x
 else ρ j = vals.getD j undef
theorem l8 {id : Nat} (vals : List Value) (p s : Nat) (T : TypeId) (z x : List Value) (zv : Value) (dp : Tmp) (op os : Oper) (y : Operand)
  (hm : P.follows .mixedOrders = true) (hB : lM l a0.tmps.size = true) (hlen : vals.length = l.length) (hps : p ≠ s)
  (hp : l[p]? = some op) (hp1 : op.op = .alloc T) (hp2 : op.dst = some dp) (hp3 : op.guard = none) (hz : (P.info? T).map (fun i => (i.zero, i.size)) = some (some zv, x.length)) (hzv : zv.cells = z.toArray) (hzl : z.length = x.length)
  (hs : l[s]? = some os) (hs1 : os.op = .store T (.tmp dp) y) (hs2 : os.dst = none) (hs3 : os.guard = none) (hs4 : ∃ e ∈ os.after, Region.binds .any e = true ∧ e.on = p) (hx1 : ∀ v ∈ x, v.oneCell' = true)
  (hund : (l.zipIdx.all fun x => x.1.dst.isSome || x.2 == s) = true)
  (hstore : ∀ a w, Below w0.heap.size w0 w → lD l.toArray a0 a → (∀ e ∈ os.after, Region.binds .any e = true → e.on ≠ p → ∀ (oe : Oper) (d : Tmp), l[e.on]? = some oe → oe.dst = some d → a.tmps[d]?.getD undef = vals.getD e.on undef) → (a.eval y).cells = x.toArray)
  (hstep : ∀ (i : Nat) (o : Oper), l.toArray[i]? = some o → i ≠ p → i ≠ s → ∀ a w, Below w0.heap.size w0 w → lD l.toArray a0 a →
   (∀ e ∈ o.after, Region.binds .any e = true → e.on ≠ p → e.on ≠ s → ∀ (oe : Oper) (d : Tmp), l[e.on]? = some oe → oe.dst = some d → a.tmps[d]?.getD undef = vals.getD e.on undef) →
   if Region.wanted o (yielded l.toArray a.tmps) then o.wp P a w (fun a' w' => a' = a.put o.dst (vals.getD i undef) ∧ Below w.heap.size w w') Q else vals.getD i undef = undef)
  (hend : ∀ ad w, Below w0.heap.size w0 w → w0.heap.size ≤ ad → Arr w ad x → Q .normal (bH a0 ((l.map (·.dst)).zip (vals.set p (.pointer (some ⟨ad, 0, none⟩))))) w) :
  (Code.region id l.toArray true).wp P Q a0 w0 := by
 have hval : ∀ (i : Nat) (o : Oper), l[i]? = some o → i ≠ s → (o.dst.elim undef fun _ => vals.getD i undef) = vals.getD i undef := by
  intro i o hi his
  cases hd : o.dst with
  | none =>
   have hz : (o, i) ∈ l.zipIdx := by rw [List.mem_zipIdx_iff_getElem?]; exact hi
   have := List.all_eq_true.1 hund (o, i) hz
   simp [hd, his] at this
  | some d => rfl
 refine kY (ops := l.toArray) (E := EFresh w0.heap.size (.cells x.toArray T)) (G := iT w0.heap.size p s vals (.cells z.toArray T) (.cells x.toArray T)) hm (by simpa using hB) ⟨(Below.refl _ _).drew, fun _ _ _ => .inl rfl⟩ (fun _ => EFresh.refl _ _ _) (fun _ _ _ h k => h.trans k) ?_ ?_ ?_ ?_
 ·intro j ρ w w' hg he
  unfold iT at *
  split
  ·rename_i h
   rw [if_pos h] at hg
   obtain ⟨a, h1, h2, h3⟩ := hg
   have hlt : a < w.heap.size := by rcases h3 with h3 | h3 <;> exact (Array.getElem?_eq_some_iff.1 h3).1
   refine ⟨a, h1, h2, ?_⟩
   rcases he.above a h2 hlt with h4 | h4
   ·rw [h4]; exact h3
   ·exact .inr h4
  ·rename_i h
   rw [if_neg h] at hg
   split
   ·rename_i h'
    rw [if_pos h'] at hg
    obtain ⟨a, h1, h2, h3⟩ := hg
    refine ⟨a, h1, h2, ?_⟩
    rcases he.above a h2 (Array.getElem?_eq_some_iff.1 h3).1 with h4 | h4
    ·rw [h4]; exact h3
    ·exact h4
   ·rename_i h'
    rwa [if_neg h'] at hg
 ·intro j o hj ρ ρ' w e0 he hg
  unfold iT at *
  split
  ·rename_i h
   rw [if_pos h] at hg
   subst h
   rwa [e0] at hg
  ·rename_i h
   rw [if_neg h] at hg
   split
   ·rename_i h'
    rw [if_pos h'] at hg
    subst h'
    have ho : o = os := by
     have : l[j]? = some o := by simpa using hj
     rw [hs] at this; exact (Option.some.inj this).symm
    subst ho
    obtain ⟨e, h1, h2, h3⟩ := hs4
    have := he e h1 h2
    rw [h3] at this
    rwa [this] at hg
   ·rename_i h'
    rw [if_neg h'] at hg
    rwa [e0] at hg
 ·intro i o hi a w hE hR hd
  have hil : l[i]? = some o := by simpa using hi
  have hdep : ∀ e ∈ o.after, Region.binds .any e = true → e.on ≠ p → e.on ≠ s → ∀ (oe : Oper) (d : Tmp), l[e.on]? = some oe → oe.dst = some d → a.tmps[d]?.getD undef = vals.getD e.on undef := by
   intro e he hb h1 h2 oe d hoe hde
   have hg := hd e he hb
   unfold iT at hg
   rw [if_neg h1, if_neg h2] at hg
   rw [← hg]
   simp [rho, hoe, e6, hde, Array.getD_eq_getD_getElem?]
  by_cases hip : i = p
  ·subst hip
   obtain rfl : o = op := by rw [hp] at hil; exact (Option.some.inj hil).symm
   refine aB hp3 ?_
   refine pP T hp1 zv x.length hz ⟨_, rfl, EFresh.of_below ((Below.refl _ _).alloc (Nat.le_refl _) _) hE.below.size, ?_⟩
   unfold iT
   rw [if_pos rfl]
   refine ⟨w.heap.size, ?_, hE.below.size, .inl ?_⟩
   ·simp [upd, hp2]
   ·rw [hzv]; exact heap_alloc_new w _
  ·by_cases his : i = s
   ·subst his
    obtain rfl : o = os := by rw [hs] at hil; exact (Option.some.inj hil).symm
    refine aB hs3 ?_
    obtain ⟨e, he1, he2, he3⟩ := hs4
    have hg := hd e he1 he2
    rw [he3] at hg
    unfold iT at hg
    rw [if_pos rfl] at hg
    obtain ⟨ad, h1, h2, h3⟩ := hg
    have h1' : a.eval (.tmp dp) = .pointer (some ⟨ad, 0, none⟩) := by
     rw [← h1]
     simp [rho, hp, e6, hp2, Act.eval, Array.getD_eq_getD_getElem?]
    obtain ⟨c, hc, hcl⟩ : ∃ c : List Value, w.heap[ad]? = some (.cells c.toArray T) ∧ c.length = x.length := by
     rcases h3 with h3 | h3
     ·exact ⟨z, h3, hzl⟩
     ·exact ⟨x, h3, rfl⟩
    have hy := hstore a w hE.below hR (fun e he hb h1 oe d hoe hde => by
     have hes : e.on ≠ i := by
      have hB' := hB
      simp only [lM, Bool.and_eq_true] at hB'
      have hz : (o, i) ∈ l.zipIdx := by rw [List.mem_zipIdx_iff_getElem?]; exact hil
      have := List.all_eq_true.1 hB'.2 (o, i) hz
      simp only [Array.all_eq_true_iff_forall_mem] at this
      have := this e he
      simp [hb] at this
      omega
     exact hdep e he hb h1 hes oe d hoe hde)
    have hrun : (execOp a.eval o).run P w = .ok .skip (w.setRow ad x.toArray) := by
     have hst : (storeCells ⟨ad, 0, none⟩ x).run P w = .ok () (w.setRow ad x.toArray) := by
      have := run_storeCells_at P ad 0 T x 0 c.toArray w hc (by simp [hcl]) hx1
      simp only [Nat.zero_add] at this
      rw [this]
      have e1 : (List.take 0 c.toArray.toList ++ x ++ List.drop x.length c.toArray.toList) = x := by simp [← hcl]
      first | rw [e1] | simp [← hcl]
     have hzs : (P.info? T).map (·.size) = some x.length := by
      cases hq : P.info? T with
      | none => simp [hq] at hz
      | some i => simp [hq] at hz ⊢; exact hz.2
     simp only [execOp, hs1, h1']
     simp [Instr.storeAt, Instr.sureAddr, storeVar, Sem.run_bind, hy, dP hzs, hst, Result.andThen]
    unfold Oper.wp
    rw [hrun, Oper.upon_skip]
    refine ⟨undef, rfl, ⟨?_, ?_⟩, ?_⟩
    ·exact (Below.refl _ _).grown (eF w ad _) hE.below.size (by intro k hk; cases hk; exact h2)
    ·intro k hk1 hk2
     by_cases hka : k = ad
     ·subst hka
      right
      simp only [World.setRow, Array.getElem?_modify, if_pos, hc]; rfl
     ·left
      simp only [World.setRow, Array.getElem?_modify]
      rw [if_neg (fun e => hka e.symm)]
    ·unfold iT
     rw [if_neg (fun e => hps e.symm), if_pos rfl]
     refine ⟨ad, ?_, h2, ?_⟩
     ·simp only [upd]; rw [if_neg hps]; exact h1
     ·simp only [World.setRow, Array.getElem?_modify, if_pos, hc]; rfl
   ·have hst := hstep i o hi hip his a w hE.below hR hdep
    split
    ·rename_i hw
     rw [if_pos hw] at hst
     refine Oper.wp_mono (fun a' w' h => ?_) hst
     obtain ⟨rfl, hb⟩ := h
     refine ⟨_, rfl, EFresh.of_below hb hE.below.size, ?_⟩
     unfold iT
     rw [if_neg hip, if_neg his]
     simp only [upd]
     exact (if_pos trivial).trans (hval i o hil his)
    ·rename_i hw
     rw [if_neg hw] at hst
     unfold iT
     rw [if_neg hip, if_neg his]
     simp only [upd]
     exact (if_pos trivial).trans hst.symm
 ·intro us hus w hE hall
  have hsl : s < l.length := (List.getElem?_eq_some_iff.1 hs).1
  have hpl : p < l.length := (List.getElem?_eq_some_iff.1 hp).1
  have hgs := hall s (by simpa using hsl)
  unfold iT at hgs
  rw [if_neg (fun e => hps e.symm), if_pos rfl] at hgs
  obtain ⟨ad, h1, h2, h3⟩ := hgs
  have e : bH a0 ((l.toArray.toList.map (·.dst)).zip us) = bH a0 ((l.map (·.dst)).zip (vals.set p (.pointer (some ⟨ad, 0, none⟩)))) := by
   refine jN _ _ _ a0 (by simpa using hus) (by simp [hlen]) ?_
   intro j d hj
   have hjl : j < l.length := by
    have := (List.getElem?_eq_some_iff.1 hj).1
    simpa using this
   by_cases hjp : j = p
   ·subst hjp
    refine (show us.getD j undef = _ from h1).trans ?_
    simp [hlen, hjl]
   ·have hjs : j ≠ s := by
     intro e
     subst e
     simp [hs, hs2] at hj
    have hg := hall j (by simpa using hjl)
    unfold iT at hg
    rw [if_neg hjp, if_neg hjs] at hg
    refine (show us.getD j undef = _ from hg).trans ?_
    simp only [List.getD_eq_getElem?_getD, List.getElem?_set]
    rw [if_neg (fun e => hjp e.symm)]
  rw [e]
  exact hend ad w hE.below h2 ⟨T, h3⟩
end
end
section
open Go.RowKit
section
variable {P : Program} {l : List Oper} {a0 : Act} {w0 : World} {Q : Exit → Act → World → Prop}
def lI (g : Nat) (x : Obj) (A C : World) : Prop := A.grownBy C (some g) ∧ (C.heap[g]? = A.heap[g]? ∨ C.heap[g]? = some x)
theorem lI.refl (g : Nat) (x : Obj) (A : World) : lI g x A A := ⟨World.grownBy.refl _ _, .inl rfl⟩
theorem rc {w1 w2 w3 : World} {r : Option Nat} (h : w1.grownBy w2 r) (k : w2.grownBy w3 r) : w1.grownBy w3 r :=
 ⟨k.os.trans h.os, k.tape.trans h.tape, k.output.trans h.output, Nat.le_trans h.size k.size, fun i hi hr => (k.block i (Nat.lt_of_lt_of_le hi h.size) hr).trans (h.block i hi hr)⟩
theorem lI.trans {g : Nat} {x : Obj} {A C D : World} (h : lI g x A C) (k : lI g x C D) : lI g x A D :=
 ⟨rc h.1 k.1, by
  rcases k.2 with h' | h'
  ·rcases h.2 with h'' | h''
   ·exact .inl (h'.trans h'')
   ·exact .inr (h'.trans h'')
  ·exact .inr h'⟩
theorem lI.of_below {g : Nat} {x : Obj} {A C : World} (h : Below A.heap.size A C) (hg : g < A.heap.size) : lI g x A C :=
 ⟨⟨h.os, h.tape, h.output, h.size, fun i hi _ => h.block i hi⟩, .inl (h.block g hg)⟩
def nn (g s : Nat) (vals : List Value) (x : Obj) (j : Nat) (ρ : Nat → Value) (W : World) : Prop :=
 if j = s then W.heap[g]? = some x else ρ j = vals.getD j undef
theorem nF {id : Nat} (vals : List Value) (s g off : Nat) (T ty : TypeId) (cs cur : List Value) (os : Oper) (px y : Operand)
  (hm : P.follows .mixedOrders = true) (hB : lM l a0.tmps.size = true) (hlen : vals.length = l.length) (hA : Arr w0 g cur) (hfit : off + cs.length ≤ cur.length)
  (hs : l[s]? = some os) (hs1 : os.op = .store ty px y) (hs2 : os.dst = none) (hs3 : os.guard = none) (hty : (P.info? ty).map (·.size) = some cs.length) (hx1 : ∀ v ∈ cs, v.oneCell' = true)
  (hund : (l.zipIdx.all fun x => x.1.dst.isSome || x.2 == s) = true)
  (hstore : ∀ a w, w0.grownBy w (some g) → lD l.toArray a0 a → (∀ e ∈ os.after, Region.binds .any e = true → ∀ (oe : Oper) (d : Tmp), l[e.on]? = some oe → oe.dst = some d → a.tmps[d]?.getD undef = vals.getD e.on undef) → a.eval px = .pointer (some ⟨g, off, none⟩) ∧ (a.eval y).cells = cs.toArray)
  (hstep : ∀ (i : Nat) (o : Oper), l.toArray[i]? = some o → i ≠ s → ∀ a w, w0.grownBy w (some g) → lD l.toArray a0 a →
   (∀ e ∈ o.after, Region.binds .any e = true → e.on ≠ s → ∀ (oe : Oper) (d : Tmp), l[e.on]? = some oe → oe.dst = some d → a.tmps[d]?.getD undef = vals.getD e.on undef) →
   if Region.wanted o (yielded l.toArray a.tmps) then o.wp P a w (fun a' w' => a' = a.put o.dst (vals.getD i undef) ∧ Below w.heap.size w w') Q else vals.getD i undef = undef)
  (hend : ∀ w, w0.grownBy w (some g) → Arr w g (lay cur off cs) → Q .normal (bH a0 ((l.map (·.dst)).zip vals)) w) :
  (Code.region id l.toArray true).wp P Q a0 w0 := by
 have hval : ∀ (i : Nat) (o : Oper), l[i]? = some o → i ≠ s → (o.dst.elim undef fun _ => vals.getD i undef) = vals.getD i undef := by
  intro i o hi his
  cases hd : o.dst with
  | none =>
   have hz : (o, i) ∈ l.zipIdx := by rw [List.mem_zipIdx_iff_getElem?]; exact hi
   have := List.all_eq_true.1 hund (o, i) hz
   simp [hd, his] at this
  | some d => rfl
 have hgl := hA.lt
 obtain ⟨T0, hA0⟩ := hA
 have hll : lay (lay cur off cs) off cs = lay cur off cs := by
  unfold lay
  have h1 : (cur.take off).length = off := by rw [List.length_take]; omega
  have e1 : (cur.take off ++ cs ++ cur.drop (off + cs.length)).take off = cur.take off := by
   rw [List.append_assoc, List.take_append_of_le_length (by omega), List.take_of_length_le (by omega)]
  have e2 : (cur.take off ++ cs ++ cur.drop (off + cs.length)).drop (off + cs.length) = cur.drop (off + cs.length) := by
   rw [List.drop_append, List.drop_of_length_le (by rw [List.length_append]; omega), List.length_append, h1]; simp
  rw [e1, e2]
 have hlen2 : (lay cur off cs).length = cur.length := by unfold lay; simp; omega
 refine kY (ops := l.toArray) (E := lI g (.cells (lay cur off cs).toArray T0)) (G := nn g s vals (.cells (lay cur off cs).toArray T0)) hm (by simpa using hB) ⟨⟨rfl, rfl, rfl, Nat.le_refl _, fun _ _ _ => rfl⟩, .inl rfl⟩ (fun _ => lI.refl _ _ _) (fun _ _ _ h k => h.trans k) ?_ ?_ ?_ ?_
 ·intro j ρ w w' hg he
  unfold nn at *
  split
  ·rename_i h
   rw [if_pos h] at hg
   rcases he.2 with h4 | h4
   ·rw [h4]; exact hg
   ·exact h4
  ·rename_i h
   rwa [if_neg h] at hg
 ·intro j o hj ρ ρ' w e0 he hg
  unfold nn at *
  split
  ·rename_i h
   rwa [if_pos h] at hg
  ·rename_i h
   rw [if_neg h] at hg
   rwa [e0] at hg
 ·intro i o hi a w hE hR hd
  have hil : l[i]? = some o := by simpa using hi
  have hgw : g < w.heap.size := Nat.lt_of_lt_of_le hgl hE.1.size
  have hdep : ∀ e ∈ o.after, Region.binds .any e = true → e.on ≠ s → ∀ (oe : Oper) (d : Tmp), l[e.on]? = some oe → oe.dst = some d → a.tmps[d]?.getD undef = vals.getD e.on undef := by
   intro e he hb h2 oe d hoe hde
   have hg := hd e he hb
   unfold nn at hg
   rw [if_neg h2] at hg
   rw [← hg]
   simp [rho, hoe, e6, hde, Array.getD_eq_getD_getElem?]
  by_cases his : i = s
  ·subst his
   obtain rfl : o = os := by rw [hs] at hil; exact (Option.some.inj hil).symm
   refine aB hs3 ?_
   obtain ⟨c, hc, hcl, hlc⟩ : ∃ c : List Value, w.heap[g]? = some (.cells c.toArray T0) ∧ c.length = cur.length ∧ lay c off cs = lay cur off cs := by
    rcases hE.2 with h3 | h3
    ·exact ⟨cur, h3.trans hA0, rfl, rfl⟩
    ·exact ⟨lay cur off cs, h3, hlen2, hll⟩
   have hy := hstore a w hE.1 hR (fun e he hb oe d hoe hde => by
    have hes : e.on ≠ i := by
     have hB' := hB
     simp only [lM, Bool.and_eq_true] at hB'
     have hz : (o, i) ∈ l.zipIdx := by rw [List.mem_zipIdx_iff_getElem?]; exact hil
     have := List.all_eq_true.1 hB'.2 (o, i) hz
     simp only [Array.all_eq_true_iff_forall_mem] at this
     have := this e he
     simp [hb] at this
     omega
    exact hdep e he hb hes oe d hoe hde)
   have hrun : (execOp a.eval o).run P w = .ok .skip (w.setRow g (lay cur off cs).toArray) := by
    have hst : (storeCells ⟨g, off, none⟩ cs).run P w = .ok () (w.setRow g (lay cur off cs).toArray) := by
     have := run_storeCells_at P g off T0 cs 0 c.toArray w hc (by simpa [hcl] using hfit) hx1
     rw [← hlc]
     simpa [lay] using this
    simp only [execOp, hs1, hy.1]
    simp [Instr.storeAt, Instr.sureAddr, storeVar, Sem.run_bind, hy.2, dP hty, hst, Result.andThen]
   have hnew : (w.setRow g (lay cur off cs).toArray).heap[g]? = some (.cells (lay cur off cs).toArray T0) := by
    simp only [World.setRow, Array.getElem?_modify, if_pos, hc]; rfl
   unfold Oper.wp
   rw [hrun, Oper.upon_skip]
   refine ⟨undef, rfl, ⟨eF w g _, .inr hnew⟩, ?_⟩
   unfold nn
   rw [if_pos rfl]
   exact hnew
  ·have hst := hstep i o hi his a w hE.1 hR hdep
   split
   ·rename_i hw
    rw [if_pos hw] at hst
    refine Oper.wp_mono (fun a' w' h => ?_) hst
    obtain ⟨rfl, hb⟩ := h
    refine ⟨_, rfl, lI.of_below hb hgw, ?_⟩
    unfold nn
    rw [if_neg his]
    simp only [upd]
    exact (if_pos trivial).trans (hval i o hil his)
   ·rename_i hw
    rw [if_neg hw] at hst
    unfold nn
    rw [if_neg his]
    simp only [upd]
    exact (if_pos trivial).trans hst.symm
 ·intro us hus w hE hall
  have hsl : s < l.length := (List.getElem?_eq_some_iff.1 hs).1
  have hgs := hall s (by simpa using hsl)
  unfold nn at hgs
  rw [if_pos rfl] at hgs
  have e : bH a0 ((l.toArray.toList.map (·.dst)).zip us) = bH a0 ((l.map (·.dst)).zip vals) := by
   refine jN _ _ _ a0 (by simpa using hus) (by simp [hlen]) ?_
   intro j d hj
   have hjl : j < l.length := by
    have := (List.getElem?_eq_some_iff.1 hj).1
    simpa using this
   have hjs : j ≠ s := by
    intro e
    subst e
    simp [hs, hs2] at hj
   have hg := hall j (by simpa using hjl)
   unfold nn at hg
   rw [if_neg hjs] at hg
   exact hg
  rw [e]
  exact hend w hE.1 ⟨T0, hgs⟩
end
end
end Go.Proofs.YtbaccmkhjmmlnaaDoor
set_option maxRecDepth 4000
namespace Go.Proofs.YtbaccmkhjmmlnaaDoor
open Go.RowKit
theorem vD (p : List (List UInt8)) (h : 0 < p.length) : ∃ q x, p = q ++ [x] := by
 rcases List.eq_nil_or_concat p with h' | ⟨q, x, h'⟩
 ·subst h'; simp at h
 ·exact ⟨q, x, by simpa using h'⟩
theorem rx (b : List UInt8) (r : List (List UInt8)) (i : Nat) : Sha.climb b r 1 i = (Sha.leaf b, r.length == 0) := by
 cases r <;> simp [Sha.climb]
theorem fK {P : Program} {a : Act} {w : World} {fn : Func} {R : Ending → World → Prop} {p t : Tmp} {ty : TypeId} (hr : fn.results = #[.cell p ty, .tmp t]) (hdef : a.defers = []) (g : Nat) (hp : a.tmps.getD p undef = .pointer (some ⟨g, 0, none⟩))
  (cs : List Value) (hA : Arr w g cs) (hT : ms P ty cs.length) (h : R (.returned (.tuple #[.agg cs.toArray, a.tmps.getD t undef])) w) : bodyPost P fn R .ret a w := by
 refine bodyPost_ret (v := .tuple #[.agg cs.toArray, a.tmps.getD t undef]) ?_ hdef h
 have hl : (loadCells ⟨g, 0, none⟩ cs.length).run P w = .ok cs.toArray w :=
  run_loadCells_list (P := P) w ⟨g, 0, none⟩ cs (fun j v hv => by rw [cX, Nat.zero_add]; exact hA.cell hv)
 have hp' : a.tmps[p]?.getD undef = .pointer (some ⟨g, 0, none⟩) := by simpa using hp
 simp [results, hr, hp', asAddr, loadVar, Sem.run_bind, hT.1, dP hT.2, hl, Result.andThen]
theorem mm {a b : Int} (h : a ≠ b) : (a == b) = false := by simpa using h
set_option maxHeartbeats 400000 in
theorem xq (b : List UInt8) (B3 B4 : Nat) (bv : Value) (hb : b.length ≤ 900000) : ∀ (k : Nat) (p : List (List UInt8)) (pv : Value) (n i : Nat) (w : World), p.length = k → ip w → Arr w B3 [bv] → Sl w bv b.length (u8s b) →
  Arr w B4 [.func (.func 71) #[] #[.pointer (some ⟨B3, 0, none⟩), .pointer (some ⟨B4, 0, none⟩)]] → Sl w pv p.length (cg p) → Len32 p → p.length ≤ 1000000 → 1 ≤ n → n ≤ 4294967296 → i < n →
  Calls Tryd.prog 71 #[.int .i64 n, .int .i64 i, pv, .pointer (some ⟨B3, 0, none⟩), .pointer (some ⟨B4, 0, none⟩)] w fun e w' =>
   e = .returned (.tuple #[.agg (u8s (Sha.climb b p.reverse n i).1).toArray, .bool (Sha.climb b p.reverse n i).2]) ∧ Below w.heap.size w w' := by
 intro k
 induction k using Nat.strongRecOn with
 | _ k ih =>
 intro p pv n i w hk hg h3 hS h4 hP h32 hpn hn1 hn2 hin
 obtain ⟨ao, cap, rfl⟩ := iO hP
 obtain ⟨bao, bcap, rfl⟩ := iO hS
 have hc3 := h3.cell (i := 0) rfl
 have hc4 := h4.cell (i := 0) rfl
 by_cases h1 : n = 1
 ·subst h1
  have hc3' : ∀ o', (w.alloc o').cell? ⟨B3, 0, none⟩ = some (.slice bao b.length bcap) := fun o' => (((Below.refl w.heap.size w).alloc (Nat.le_refl _) o').cell (block_lt_of_cell hc3)).trans hc3
  have hrl : p.reverse.length = p.length := List.length_reverse
  obtain ⟨L, hL⟩ : ∃ L, L = p.length := ⟨_, rfl⟩
  rw [← hL] at hP hpn hrl ⊢
  by_cases h0 : L = 0
  ·subst h0
   have HR := Lib.hid (show Sha.climb b p.reverse 1 i = (Sha.leaf b, true) by rw [rx, hrl]; rfl)
   have HG := Lib.hid hg
   have H3 := Lib.hid h3
   have HS := Lib.hid hS
   clear hP h32 ih hk hg h3 hS h4
   clear hrl hL
   go_enter Tryd.func71, Tryd.ntmps71
   go_wp2_with (go_at_call 60; refine Hid.out ?_)
   refine db ?_
   refine (m5 _ b _ (HG.out.below' ((Below.refl _ _).alloc (Nat.le_refl _) _)) (HS.out.below ((Below.refl _ _).alloc (Nat.le_refl _) _)) hb).mono ?_
   rintro e W ⟨rfl, hb2⟩
   have el : Sha.sum (0 :: b) = Sha.leaf b := rfl
   rw [el]
   have HA8 := Lib.hid ((Arr.new w (u8s (List.replicate 32 0)) _).below' hb2)
   have HB := Lib.hid (((Below.refl w.heap.size w).alloc (Nat.le_refl _) _).trans (hb2.mono (by simp)))
   clear hb2 el
   go_wp2_with (refine bL rfl rfl _ _ _ rfl _ 0 rfl (u8s (Sha.leaf b)) rfl (by rw [av, Sha.leaf_len]; exact cY.2) (cV _) _ HA8.out (by rw [av, av, List.length_replicate, Sha.leaf_len]; decide) ?_; intro w4 hA3 hG3; replace hA3 := Lib.hid hA3; replace hG3 := Lib.hid hG3)
   have hA4 := hA3.out
   rw [cj _ _ (by rw [av, av, List.length_replicate, Sha.leaf_len])] at hA4
   refine fK rfl rfl w.heap.size rfl _ hA4 (by rw [av, Sha.leaf_len]; exact cY) ⟨?_, HB.out.grown hG3.out HB.out.size (by intro k hk; cases hk; exact Nat.le_refl _)⟩
   rw [HR.out]
   rfl
  ·have e2 : ((L : Int) == 0) = false := mm (by omega)
   have HR := Lib.hid (show Sha.climb b p.reverse 1 i = (Sha.leaf b, false) by rw [rx, hrl]; simp [h0])
   have HG := Lib.hid hg
   have H3 := Lib.hid h3
   have HS := Lib.hid hS
   clear hP h32 ih hk hg h3 hS h4
   clear hrl hL
   go_enter Tryd.func71, Tryd.ntmps71
   go_wp2_with (go_at_call 60; refine Hid.out ?_)
   refine db ?_
   refine (m5 _ b _ (HG.out.below' ((Below.refl _ _).alloc (Nat.le_refl _) _)) (HS.out.below ((Below.refl _ _).alloc (Nat.le_refl _) _)) hb).mono ?_
   rintro e W ⟨rfl, hb2⟩
   have el : Sha.sum (0 :: b) = Sha.leaf b := rfl
   rw [el]
   have HA8 := Lib.hid ((Arr.new w (u8s (List.replicate 32 0)) _).below' hb2)
   have HB := Lib.hid (((Below.refl w.heap.size w).alloc (Nat.le_refl _) _).trans (hb2.mono (by simp)))
   clear hb2 el
   go_wp2_with (refine bL rfl rfl _ _ _ rfl _ 0 rfl (u8s (Sha.leaf b)) rfl (by rw [av, Sha.leaf_len]; exact cY.2) (cV _) _ HA8.out (by rw [av, av, List.length_replicate, Sha.leaf_len]; decide) ?_; intro w4 hA3 hG3; replace hA3 := Lib.hid hA3; replace hG3 := Lib.hid hG3)
   have hA4 := hA3.out
   rw [cj _ _ (by rw [av, av, List.length_replicate, Sha.leaf_len])] at hA4
   refine fK rfl rfl w.heap.size rfl _ hA4 (by rw [av, Sha.leaf_len]; exact cY) ⟨?_, HB.out.grown hG3.out HB.out.size (by intro k hk; cases hk; exact Nat.le_refl _)⟩
   rw [HR.out]
   rfl
 ·rcases Nat.eq_zero_or_pos p.length with h0 | h0
  ·have hpn0 : p = [] := List.length_eq_zero_iff.1 h0
   subst hpn0
   have hc3' : ∀ o', (w.alloc o').cell? ⟨B3, 0, none⟩ = some (.slice bao b.length bcap) := fun o' => (((Below.refl w.heap.size w).alloc (Nat.le_refl _) o').cell (block_lt_of_cell hc3)).trans hc3
   have e1 : ((n : Int) == 1) = false := mm (by omega)
   have e3 : (n == 1) = false := by simpa using h1
   have HR := Lib.hid (show Sha.climb b [].reverse n i = (Sha.leaf b, false) by simp [Sha.climb, h1])
   have HG := Lib.hid hg
   have H3 := Lib.hid h3
   have HS := Lib.hid hS
   clear hP h32 ih hk hg h3 hS h4
   simp only [List.length_nil]
   go_enter Tryd.func71, Tryd.ntmps71
   go_wp2_with (go_at_call 60; refine Hid.out ?_)
   refine db ?_
   refine (m5 _ b _ (HG.out.below' ((Below.refl _ _).alloc (Nat.le_refl _) _)) (HS.out.below ((Below.refl _ _).alloc (Nat.le_refl _) _)) hb).mono ?_
   rintro e W ⟨rfl, hb2⟩
   have el : Sha.sum (0 :: b) = Sha.leaf b := rfl
   rw [el]
   have HA8 := Lib.hid ((Arr.new w (u8s (List.replicate 32 0)) _).below' hb2)
   have HB := Lib.hid (((Below.refl w.heap.size w).alloc (Nat.le_refl _) _).trans (hb2.mono (by simp)))
   clear hb2 el
   go_wp2_with (refine bL rfl rfl _ _ _ rfl _ 0 rfl (u8s (Sha.leaf b)) rfl (by rw [av, Sha.leaf_len]; exact cY.2) (cV _) _ HA8.out (by rw [av, av, List.length_replicate, Sha.leaf_len]; decide) ?_; intro w4 hA3 hG3; replace hA3 := Lib.hid hA3; replace hG3 := Lib.hid hG3)
   have hA4 := hA3.out
   rw [cj _ _ (by rw [av, av, List.length_replicate, Sha.leaf_len])] at hA4
   refine fK rfl rfl w.heap.size rfl _ hA4 (by rw [av, Sha.leaf_len]; exact cY) ⟨?_, HB.out.grown hG3.out HB.out.size (by intro k hk; cases hk; exact Nat.le_refl _)⟩
   rw [HR.out]
   rfl
  ·obtain ⟨q, x, rfl⟩ : ∃ q x, p = q ++ [x] := vD p h0
   obtain ⟨m, hM⟩ : ∃ m, m = Sha.cut n := ⟨_, rfl⟩
   have h2 : 2 ≤ n := by omega
   have c1 := Sha.cut_lt h2
   have c0 := Sha.cut_pos n
   rw [← hM] at c1 c0
   have hk' : q.length < k := by rw [← hk]; simp
   have hrev : (q ++ [x]).reverse = x :: q.reverse := by simp
   have hx32 : x.length = 32 := h32 x (by simp)
   have hq32 : Len32 q := fun y hy => h32 y (by simp [hy])
   obtain ⟨L, hL⟩ : ∃ L, L = q.length := ⟨_, rfl⟩
   have hP' : (q ++ [x]).length = L + 1 := by rw [hL]; simp
   rw [hP'] at hP hpn h0 ⊢
   rw [hrev]
   have ihq := ih q.length hk' q
   have hcapP : L + 1 ≤ cap ∧ cap ≤ 9223372036854775807 := by
    obtain ⟨ao', cap', e, g1, g2, _⟩ := hP
    simp only [Value.slice.injEq] at e
    obtain ⟨_, _, rfl⟩ := e
    exact ⟨g1, g2⟩
   obtain ⟨hcap1, hcap2⟩ := hcapP
   have hPq := uL hP L (L * 32) (by omega)
   have hsq : (cg (q ++ [x])).take (L * 32) = cg q := by
    rw [mg, List.take_append_of_le_length (by rw [gl hq32, hL]; omega), List.take_of_length_le (by rw [gl hq32, hL]; omega)]
   rw [hsq] at hPq
   obtain ⟨pb, po, rfl⟩ : ∃ pb po, ao = some ⟨pb, po, none⟩ := by
    obtain ⟨b, o, cap, e, _⟩ := lB hP (by omega)
    simp only [Value.slice.injEq] at e
    exact ⟨b, o, e.1⟩
   have hxc : ∀ j v, (u8s x)[j]? = some v → w.cell? ⟨pb, po + L * 32 + j, none⟩ = some v := by
    intro j v hj
    obtain ⟨ao', cap', e, g1, g2, g3, g4⟩ := hP
    simp only [Value.slice.injEq] at e
    obtain ⟨rfl, _, _⟩ := e
    rw [Nat.add_assoc]
    refine (g4 _ _ _ rfl).2 _ _ ?_
    rw [mg, List.getElem?_append_right (by rw [gl hq32, hL]; omega), gl hq32, hL, show q.length * 32 + j - q.length * 32 = j by omega]
    exact hj
   have e1 : ((n : Int) == 1) = false := mm (by omega)
   have e2 : (((L + 1 : Nat) : Int) == 0) = false := mm (by omega)
   have HM := Lib.hid hM
   have HG := Lib.hid hg
   have H3 := Lib.hid h3
   have HS := Lib.hid hS
   have H4 := Lib.hid h4
   have HPq := Lib.hid hPq
   have HX := Lib.hid hxc
   have Hq := Lib.hid hq32
   have Hx := Lib.hid hx32
   have HL := Lib.hid hL
   clear hM hk ih hrev hg h3 hS h4 hP h32 hk' hP' hPq hsq hxc hq32 hx32 hL
   by_cases hlt : i < m
   ·have HC := Lib.hid (show Sha.climb b (x :: q.reverse) n i = (Sha.pair (Sha.climb b q.reverse m i).1 x, (Sha.climb b q.reverse m i).2) by simp only [Sha.climb]; rw [if_neg h1, if_pos (by rw [← HM.out]; exact hlt), ← HM.out])
    obtain ⟨X, hX⟩ : ∃ X, X = (Sha.climb b q.reverse m i).1 := ⟨_, rfl⟩
    obtain ⟨ok, hok⟩ : ∃ ok, ok = (Sha.climb b q.reverse m i).2 := ⟨_, rfl⟩
    have HI := Lib.hid (fun (W : World) (hb : Below w.heap.size w W) => ihq (.slice (some ⟨pb, po, none⟩) L cap) m i W rfl (HG.out.below' hb) (H3.out.below' hb) (HS.out.below hb) (H4.out.below' hb) (by rw [← HL.out]; exact HPq.out.below hb) Hq.out (by have := HL.out; omega) (by omega) (by omega) (by omega))
    rw [← hX, ← hok] at HC HI
    have HXl := Lib.hid (show X.length = 32 by rw [hX]; exact Sha.climb_len _ _ _ _)
    clear hX hok ihq
    go_enter Tryd.func71, Tryd.ntmps71
    go_wp2_with (go_at_call 61; refine Hid.out ?_)
    refine db ?_
    refine (mL n _ h2 (by omega)).mono ?_
    rintro e W ⟨rfl, hW⟩
    have HB := Lib.hid (show Below w.heap.size w W by rw [← hW]; exact (Below.refl _ _).alloc (Nat.le_refl _) _)
    have HA8 := Lib.hid (show Arr W w.heap.size (u8s (List.replicate 32 0)) by rw [← hW]; exact Arr.new w (u8s (List.replicate 32 0)) _)
    rw [← HM.out]
    clear hW
    go_wp2
    refine l8 [(.func (.func 71) #[] #[.pointer (some ⟨B3, 0, none⟩), .pointer (some ⟨B4, 0, none⟩)]), (.int .i64 m), (.int .i64 i), (.slice (some ⟨pb, po, none⟩) (L + 1) cap), (.int .i64 L), (.slice (some ⟨pb, po, none⟩) L cap), (.tuple #[.agg (u8s X).toArray, .bool ok]), (.tuple #[.agg (u8s X).toArray, .bool ok]), (.agg (u8s X).toArray), (.bool ok), undef, undef, (.bool ok)] 10 11 47 (u8s (List.replicate 32 0)) (u8s X) (.agg (u8s (List.replicate 32 0)).toArray) 12 _ _ (.tmp 48) (by kernel_rfl) (by kernel_rfl) rfl (by decide) rfl rfl rfl rfl (by rw [av, HXl.out]; kernel_rfl) rfl (by rw [av, av, HXl.out]; rfl)
     rfl rfl rfl rfl ⟨⟨10, .data⟩, by simp, rfl, rfl⟩ (cV _) (by kernel_rfl) ?hstore ?hstep ?hend
    case hstore =>
     intro a w1 hE hR hd
     have q48 : a.tmps[48]?.getD undef = (.agg (u8s X).toArray) := hd ⟨8, .data⟩ (by simp) rfl (by decide) _ _ rfl rfl
     simp [Act.eval, q48, Value.cells]
    case hstep =>
     refine ez ⟨?_, ?_, ?_, ?_, ?_, ?_, ?_, ?_, ?_, ?_, ?_, ?_, ?_, trivial⟩ <;> intro hip his a w1 hE hR hd
     ·refine aB rfl ?_
      have q4 : a.tmps[4]?.getD undef = (.pointer (some ⟨B4, 0, none⟩)) := hR.evalD rfl rfl
      have c4 : w1.cell? ⟨B4, 0, none⟩ = _ := (hE.cell (block_lt_of_cell ((H4.out.below' HB.out).cell (i := 0) rfl))).trans ((H4.out.below' HB.out).cell (i := 0) rfl)
      go_simp
      exact Below.refl _ _
     ·refine aB rfl ?_
      have q10 : a.tmps[10]?.getD undef = (.int .i64 m) := hR.evalD rfl rfl
      go_simp
      exact Below.refl _ _
     ·refine aB rfl ?_
      have q1 : a.tmps[1]?.getD undef = (.int .i64 i) := hR.evalD rfl rfl
      go_simp
      exact Below.refl _ _
     ·refine aB rfl ?_
      have q2 : a.tmps[2]?.getD undef = (.slice (some ⟨pb, po, none⟩) (L + 1) cap) := hR.evalD rfl rfl
      go_simp
      exact Below.refl _ _
     ·refine aB rfl ?_
      have q11 : a.tmps[11]?.getD undef = (.int .i64 L) := hR.evalD rfl rfl
      go_simp
      exact Below.refl _ _
     ·refine aB rfl ?_
      have q44 : a.tmps[44]?.getD undef = (.slice (some ⟨pb, po, none⟩) (L + 1) cap) := hd ⟨3, .data⟩ (by simp) rfl (by decide) (by decide) _ _ rfl rfl
      have q45 : a.tmps[45]?.getD undef = (.int .i64 L) := hd ⟨4, .data⟩ (by simp) rfl (by decide) (by decide) _ _ rfl rfl
      have hLc : L ≤ cap := by omega
      go_simp
      exact Below.refl _ _
     ·refine aB rfl ?_
      have q41 : a.tmps[41]?.getD undef = (.func (.func 71) #[] #[.pointer (some ⟨B3, 0, none⟩), .pointer (some ⟨B4, 0, none⟩)]) := hd ⟨0, .data⟩ (by simp) rfl (by decide) (by decide) _ _ rfl rfl
      have q42 : a.tmps[42]?.getD undef = (.int .i64 m) := hd ⟨1, .data⟩ (by simp) rfl (by decide) (by decide) _ _ rfl rfl
      have q43 : a.tmps[43]?.getD undef = (.int .i64 i) := hd ⟨2, .data⟩ (by simp) rfl (by decide) (by decide) _ _ rfl rfl
      have q46 : a.tmps[46]?.getD undef = (.slice (some ⟨pb, po, none⟩) L cap) := hd ⟨5, .data⟩ (by simp) rfl (by decide) (by decide) _ _ rfl rfl
      go_simp
      refine (HI.out w1 (HB.out.trans (hE.mono HB.out.size))).mono ?_
      rintro e w2 ⟨rfl, hb2⟩
      exact ⟨rfl, hb2⟩
     ·refine aB rfl ?_
      have q47 : a.tmps[47]?.getD undef = (.tuple #[.agg (u8s X).toArray, .bool ok]) := hd ⟨6, .data⟩ (by simp) rfl (by decide) (by decide) _ _ rfl rfl
      go_simp
      exact Below.refl _ _
     ·refine aB rfl ?_
      have q40 : a.tmps[40]?.getD undef = (.tuple #[.agg (u8s X).toArray, .bool ok]) := hd ⟨7, .data⟩ (by simp) rfl (by decide) (by decide) _ _ rfl rfl
      go_simp
      exact Below.refl _ _
     ·refine aB rfl ?_
      have q40 : a.tmps[40]?.getD undef = (.tuple #[.agg (u8s X).toArray, .bool ok]) := hd ⟨7, .data⟩ (by simp) rfl (by decide) (by decide) _ _ rfl rfl
      go_simp
      exact Below.refl _ _
     ·exact absurd rfl hip
     ·exact absurd rfl his
     ·refine aB rfl ?_
      have q49 : a.tmps[49]?.getD undef = (.bool ok) := hd ⟨9, .data⟩ (by simp) rfl (by decide) (by decide) _ _ rfl rfl
      go_simp
      exact Below.refl _ _
    case hend =>
     intro ad w1 hE had hAd
     have HB1 := Lib.hid (HB.out.trans (hE.mono HB.out.size))
     have HA1 := Lib.hid (HA8.out.below' hE)
     have HAd := Lib.hid hAd
     have hadn : ad ≠ w.heap.size := by have := HA8.out.lt; omega
     clear hE hAd HA8 HI
     simp only [bH, List.map_cons, List.map_nil, List.set_cons_zero, List.set_cons_succ, List.zip_cons_cons, List.zip_nil_right, Act.put, List.setIfInBounds_toArray]
     go_wp2
     refine nF [(.agg (u8s X).toArray), (.slice (some ⟨pb, po, none⟩) (L + 1) cap), (.int .i64 L), (.pointer (some ⟨pb, po + L * 32, none⟩)), (.agg (u8s x).toArray), (.agg (u8s (Sha.pair X x)).toArray), (.bool ok), undef, (.bool ok)] 7 w.heap.size 0 47 47 (u8s (Sha.pair X x)) (u8s (List.replicate 32 0)) _ (.tmp 8) (.tmp 55) (by kernel_rfl) (by kernel_rfl) rfl HA1.out (by rw [av, Sha.pair_len, av, List.length_replicate]; decide)
      rfl rfl rfl rfl (by rw [av, Sha.pair_len]; kernel_rfl) (cV _) (by kernel_rfl) ?hstore ?hstep ?hend
     case hstore =>
      intro a w2 hE hR hd
      have q55 : a.tmps[55]?.getD undef = (.agg (u8s (Sha.pair X x)).toArray) := hd ⟨5, .data⟩ (by simp) rfl _ _ rfl rfl
      have q8 : a.tmps[8]?.getD undef = (.pointer (some ⟨w.heap.size, 0, none⟩)) := hR.evalD rfl rfl
      simp [Act.eval, q55, q8, Value.cells]
     case hstep =>
      refine ez ⟨?_, ?_, ?_, ?_, ?_, ?_, ?_, ?_, ?_, trivial⟩ <;> intro his a w2 hE hR hd
      ·refine aB rfl ?_
       have q12 : a.tmps[12]?.getD undef = (.pointer (some ⟨ad, 0, none⟩)) := hR.evalD rfl rfl
       refine ey _ _ rfl ad 0 (by simpa [Act.eval] using q12) (u8s X) (by rw [av, HXl.out]; exact cY) (fun j v hv => by rw [Nat.zero_add]; exact (HAd.out.grown hE (by intro h; cases h; exact hadn rfl)).cell hv) ?_
       exact ⟨rfl, Below.refl _ _⟩
      ·refine aB rfl ?_
       have q2 : a.tmps[2]?.getD undef = (.slice (some ⟨pb, po, none⟩) (L + 1) cap) := hR.evalD rfl rfl
       go_simp
       exact Below.refl _ _
      ·refine aB rfl ?_
       have q11 : a.tmps[11]?.getD undef = (.int .i64 L) := hR.evalD rfl rfl
       go_simp
       exact Below.refl _ _
      ·refine aB rfl ?_
       have q51 : a.tmps[51]?.getD undef = (.slice (some ⟨pb, po, none⟩) (L + 1) cap) := hd ⟨1, .data⟩ (by simp) rfl (by decide) _ _ rfl rfl
       have q52 : a.tmps[52]?.getD undef = (.int .i64 L) := hd ⟨2, .data⟩ (by simp) rfl (by decide) _ _ rfl rfl
       have hLL : (L : Int) < (L : Int) + 1 := by omega
       go_simp
       exact Below.refl _ _
      ·refine aB rfl ?_
       have q53 : a.tmps[53]?.getD undef = (.pointer (some ⟨pb, po + L * 32, none⟩)) := hd ⟨3, .data⟩ (by simp) rfl (by decide) _ _ rfl rfl
       refine ey _ _ rfl pb (po + L * 32) (by simpa [Act.eval] using q53) (u8s x) (by rw [av, Hx.out]; exact cY) (fun j v hv => ?_) ?_
       ·have hc := HX.out j v hv
        exact hE.cell ((HB1.out.cell (block_lt_of_cell hc)).trans hc) (by intro h; have := block_lt_of_cell hc; cases h; simp at this)
       exact ⟨rfl, Below.refl _ _⟩
      ·refine aB rfl ?_
       have q50 : a.tmps[50]?.getD undef = (.agg (u8s X).toArray) := hd ⟨0, .data⟩ (by simp) rfl (by decide) _ _ rfl rfl
       have q54 : a.tmps[54]?.getD undef = (.agg (u8s x).toArray) := hd ⟨4, .data⟩ (by simp) rfl (by decide) _ _ rfl rfl
       go_simp
       refine (pq X x w2 (HG.out.below' (HB1.out.grown hE HB1.out.size (by intro k hk; cases hk; exact Nat.le_refl _))) HXl.out Hx.out).mono ?_
       rintro e w3 ⟨rfl, hb3⟩
       exact ⟨rfl, hb3⟩
      ·refine aB rfl ?_
       have q13 : a.tmps[13]?.getD undef = (.bool ok) := hR.evalD rfl rfl
       go_simp
       exact Below.refl _ _
      ·exact absurd rfl his
      ·refine aB rfl ?_
       have q56 : a.tmps[56]?.getD undef = (.bool ok) := hd ⟨6, .data⟩ (by simp) rfl (by decide) _ _ rfl rfl
       go_simp
       exact Below.refl _ _
     case hend =>
      intro w2 hE hA2
      rw [cj _ _ (by rw [av, av, List.length_replicate, Sha.pair_len])] at hA2
      have HB2 := Lib.hid (HB1.out.grown hE HB1.out.size (by intro k hk; cases hk; exact Nat.le_refl _))
      have HA2 := Lib.hid hA2
      clear hA2 hE
      simp only [bH, List.map_cons, List.map_nil, List.set_cons_zero, List.set_cons_succ, List.zip_cons_cons, List.zip_nil_right, Act.put, List.setIfInBounds_toArray]
      go_wp2
      refine fK rfl rfl w.heap.size rfl _ HA2.out (by rw [av, Sha.pair_len]; exact cY) ⟨?_, HB2.out⟩
      rw [HC.out]
      rfl
   ·have HC := Lib.hid (show Sha.climb b (x :: q.reverse) n i = (Sha.pair x (Sha.climb b q.reverse (n - m) (i - m)).1, (Sha.climb b q.reverse (n - m) (i - m)).2) by simp only [Sha.climb]; rw [if_neg h1, if_neg (by rw [← HM.out]; exact hlt), ← HM.out])
    obtain ⟨X, hX⟩ : ∃ X, X = (Sha.climb b q.reverse (n - m) (i - m)).1 := ⟨_, rfl⟩
    obtain ⟨ok, hok⟩ : ∃ ok, ok = (Sha.climb b q.reverse (n - m) (i - m)).2 := ⟨_, rfl⟩
    have HI := Lib.hid (fun (W : World) (hb : Below w.heap.size w W) => ihq (.slice (some ⟨pb, po, none⟩) L cap) (n - m) (i - m) W rfl (HG.out.below' hb) (H3.out.below' hb) (HS.out.below hb) (H4.out.below' hb) (by rw [← HL.out]; exact HPq.out.below hb) Hq.out (by have := HL.out; omega) (by omega) (by omega) (by omega))
    rw [← hX, ← hok] at HC HI
    have HXl := Lib.hid (show X.length = 32 by rw [hX]; exact Sha.climb_len _ _ _ _)
    clear hX hok ihq
    go_enter Tryd.func71, Tryd.ntmps71
    go_wp2_with (go_at_call 61; refine Hid.out ?_)
    refine db ?_
    refine (mL n _ h2 (by omega)).mono ?_
    rintro e W ⟨rfl, hW⟩
    have HB := Lib.hid (show Below w.heap.size w W by rw [← hW]; exact (Below.refl _ _).alloc (Nat.le_refl _) _)
    have HA8 := Lib.hid (show Arr W w.heap.size (u8s (List.replicate 32 0)) by rw [← hW]; exact Arr.new w (u8s (List.replicate 32 0)) _)
    rw [← HM.out]
    clear hW
    go_wp2
    refine l8 [(.func (.func 71) #[] #[.pointer (some ⟨B3, 0, none⟩), .pointer (some ⟨B4, 0, none⟩)]), (.int .i64 n), (.int .i64 m), (.int .i64 ((n : Int) - m)), (.int .i64 i), (.int .i64 m), (.int .i64 ((i : Int) - m)), (.slice (some ⟨pb, po, none⟩) (L + 1) cap), (.int .i64 L), (.slice (some ⟨pb, po, none⟩) L cap), (.tuple #[.agg (u8s X).toArray, .bool ok]), (.tuple #[.agg (u8s X).toArray, .bool ok]), (.agg (u8s X).toArray), (.bool ok), undef, undef, (.bool ok)] 14 15 47 (u8s (List.replicate 32 0)) (u8s X) (.agg (u8s (List.replicate 32 0)).toArray) 14 _ _ (.tmp 69) (by kernel_rfl) (by kernel_rfl) rfl (by decide) rfl rfl rfl rfl (by rw [av, HXl.out]; kernel_rfl) rfl (by rw [av, av, HXl.out]; rfl)
     rfl rfl rfl rfl ⟨⟨14, .data⟩, by simp, rfl, rfl⟩ (cV _) (by kernel_rfl) ?hstore ?hstep ?hend
    case hstore =>
     intro a w1 hE hR hd
     have q69 : a.tmps[69]?.getD undef = (.agg (u8s X).toArray) := hd ⟨12, .data⟩ (by simp) rfl (by decide) _ _ rfl rfl
     simp [Act.eval, q69, Value.cells]
    case hstep =>
     refine ez ⟨?_, ?_, ?_, ?_, ?_, ?_, ?_, ?_, ?_, ?_, ?_, ?_, ?_, ?_, ?_, ?_, ?_, trivial⟩ <;> intro hip his a w1 hE hR hd
     ·refine aB rfl ?_
      have q4 : a.tmps[4]?.getD undef = (.pointer (some ⟨B4, 0, none⟩)) := hR.evalD rfl rfl
      have c4 : w1.cell? ⟨B4, 0, none⟩ = _ := (hE.cell (block_lt_of_cell ((H4.out.below' HB.out).cell (i := 0) rfl))).trans ((H4.out.below' HB.out).cell (i := 0) rfl)
      go_simp
      exact Below.refl _ _
     ·refine aB rfl ?_
      have q0 : a.tmps[0]?.getD undef = (.int .i64 n) := hR.evalD rfl rfl
      go_simp
      exact Below.refl _ _
     ·refine aB rfl ?_
      have q10 : a.tmps[10]?.getD undef = (.int .i64 m) := hR.evalD rfl rfl
      go_simp
      exact Below.refl _ _
     ·refine aB rfl ?_
      have q59 : a.tmps[59]?.getD undef = (.int .i64 n) := hd ⟨1, .data⟩ (by simp) rfl (by decide) (by decide) _ _ rfl rfl
      have q60 : a.tmps[60]?.getD undef = (.int .i64 m) := hd ⟨2, .data⟩ (by simp) rfl (by decide) (by decide) _ _ rfl rfl
      have ew : IntKind.i64.wrap ((n : Int) - m) = (n : Int) - m := IntWalk.i64_in _ (by omega)
      go_simp
      exact Below.refl _ _
     ·refine aB rfl ?_
      have q1 : a.tmps[1]?.getD undef = (.int .i64 i) := hR.evalD rfl rfl
      go_simp
      exact Below.refl _ _
     ·refine aB rfl ?_
      have q10 : a.tmps[10]?.getD undef = (.int .i64 m) := hR.evalD rfl rfl
      go_simp
      exact Below.refl _ _
     ·refine aB rfl ?_
      have q62 : a.tmps[62]?.getD undef = (.int .i64 i) := hd ⟨4, .data⟩ (by simp) rfl (by decide) (by decide) _ _ rfl rfl
      have q63 : a.tmps[63]?.getD undef = (.int .i64 m) := hd ⟨5, .data⟩ (by simp) rfl (by decide) (by decide) _ _ rfl rfl
      have ew : IntKind.i64.wrap ((i : Int) - m) = (i : Int) - m := IntWalk.i64_in _ (by omega)
      go_simp
      exact Below.refl _ _
     ·refine aB rfl ?_
      have q2 : a.tmps[2]?.getD undef = (.slice (some ⟨pb, po, none⟩) (L + 1) cap) := hR.evalD rfl rfl
      go_simp
      exact Below.refl _ _
     ·refine aB rfl ?_
      have q11 : a.tmps[11]?.getD undef = (.int .i64 L) := hR.evalD rfl rfl
      go_simp
      exact Below.refl _ _
     ·refine aB rfl ?_
      have q65 : a.tmps[65]?.getD undef = (.slice (some ⟨pb, po, none⟩) (L + 1) cap) := hd ⟨7, .data⟩ (by simp) rfl (by decide) (by decide) _ _ rfl rfl
      have q66 : a.tmps[66]?.getD undef = (.int .i64 L) := hd ⟨8, .data⟩ (by simp) rfl (by decide) (by decide) _ _ rfl rfl
      have hLc : L ≤ cap := by omega
      go_simp
      exact Below.refl _ _
     ·refine aB rfl ?_
      have q58 : a.tmps[58]?.getD undef = (.func (.func 71) #[] #[.pointer (some ⟨B3, 0, none⟩), .pointer (some ⟨B4, 0, none⟩)]) := hd ⟨0, .data⟩ (by simp) rfl (by decide) (by decide) _ _ rfl rfl
      have q61 : a.tmps[61]?.getD undef = (.int .i64 ((n : Int) - m)) := hd ⟨3, .data⟩ (by simp) rfl (by decide) (by decide) _ _ rfl rfl
      have q64 : a.tmps[64]?.getD undef = (.int .i64 ((i : Int) - m)) := hd ⟨6, .data⟩ (by simp) rfl (by decide) (by decide) _ _ rfl rfl
      have q67 : a.tmps[67]?.getD undef = (.slice (some ⟨pb, po, none⟩) L cap) := hd ⟨9, .data⟩ (by simp) rfl (by decide) (by decide) _ _ rfl rfl
      go_simp
      have en : (n : Int) - m = ((n - m : Nat) : Int) := by omega
      have ei : (i : Int) - m = ((i - m : Nat) : Int) := by omega
      rw [en, ei]
      refine (HI.out w1 (HB.out.trans (hE.mono HB.out.size))).mono ?_
      rintro e w2 ⟨rfl, hb2⟩
      exact ⟨rfl, hb2⟩
     ·refine aB rfl ?_
      have q68 : a.tmps[68]?.getD undef = (.tuple #[.agg (u8s X).toArray, .bool ok]) := hd ⟨10, .data⟩ (by simp) rfl (by decide) (by decide) _ _ rfl rfl
      go_simp
      exact Below.refl _ _
     ·refine aB rfl ?_
      have q57 : a.tmps[57]?.getD undef = (.tuple #[.agg (u8s X).toArray, .bool ok]) := hd ⟨11, .data⟩ (by simp) rfl (by decide) (by decide) _ _ rfl rfl
      go_simp
      exact Below.refl _ _
     ·refine aB rfl ?_
      have q57 : a.tmps[57]?.getD undef = (.tuple #[.agg (u8s X).toArray, .bool ok]) := hd ⟨11, .data⟩ (by simp) rfl (by decide) (by decide) _ _ rfl rfl
      go_simp
      exact Below.refl _ _
     ·exact absurd rfl hip
     ·exact absurd rfl his
     ·refine aB rfl ?_
      have q70 : a.tmps[70]?.getD undef = (.bool ok) := hd ⟨13, .data⟩ (by simp) rfl (by decide) (by decide) _ _ rfl rfl
      go_simp
      exact Below.refl _ _
    case hend =>
     intro ad w1 hE had hAd
     have HB1 := Lib.hid (HB.out.trans (hE.mono HB.out.size))
     have HA1 := Lib.hid (HA8.out.below' hE)
     have HAd := Lib.hid hAd
     have hadn : ad ≠ w.heap.size := by have := HA8.out.lt; omega
     clear hE hAd HA8 HI
     simp only [bH, List.map_cons, List.map_nil, List.set_cons_zero, List.set_cons_succ, List.zip_cons_cons, List.zip_nil_right, Act.put, List.setIfInBounds_toArray]
     go_wp2
     refine nF [(.slice (some ⟨pb, po, none⟩) (L + 1) cap), (.int .i64 L), (.pointer (some ⟨pb, po + L * 32, none⟩)), (.agg (u8s x).toArray), (.agg (u8s X).toArray), (.agg (u8s (Sha.pair x X)).toArray), (.bool ok), undef, (.bool ok)] 7 w.heap.size 0 47 47 (u8s (Sha.pair x X)) (u8s (List.replicate 32 0)) _ (.tmp 8) (.tmp 76) (by kernel_rfl) (by kernel_rfl) rfl HA1.out (by rw [av, Sha.pair_len, av, List.length_replicate]; decide)
      rfl rfl rfl rfl (by rw [av, Sha.pair_len]; kernel_rfl) (cV _) (by kernel_rfl) ?hstore ?hstep ?hend
     case hstore =>
      intro a w2 hE hR hd
      have q76 : a.tmps[76]?.getD undef = (.agg (u8s (Sha.pair x X)).toArray) := hd ⟨5, .data⟩ (by simp) rfl _ _ rfl rfl
      have q8 : a.tmps[8]?.getD undef = (.pointer (some ⟨w.heap.size, 0, none⟩)) := hR.evalD rfl rfl
      simp [Act.eval, q76, q8, Value.cells]
     case hstep =>
      refine ez ⟨?_, ?_, ?_, ?_, ?_, ?_, ?_, ?_, ?_, trivial⟩ <;> intro his a w2 hE hR hd
      ·refine aB rfl ?_
       have q2 : a.tmps[2]?.getD undef = (.slice (some ⟨pb, po, none⟩) (L + 1) cap) := hR.evalD rfl rfl
       go_simp
       exact Below.refl _ _
      ·refine aB rfl ?_
       have q11 : a.tmps[11]?.getD undef = (.int .i64 L) := hR.evalD rfl rfl
       go_simp
       exact Below.refl _ _
      ·refine aB rfl ?_
       have q71 : a.tmps[71]?.getD undef = (.slice (some ⟨pb, po, none⟩) (L + 1) cap) := hd ⟨0, .data⟩ (by simp) rfl (by decide) _ _ rfl rfl
       have q72 : a.tmps[72]?.getD undef = (.int .i64 L) := hd ⟨1, .data⟩ (by simp) rfl (by decide) _ _ rfl rfl
       have hLL : (L : Int) < (L : Int) + 1 := by omega
       go_simp
       exact Below.refl _ _
      ·refine aB rfl ?_
       have q73 : a.tmps[73]?.getD undef = (.pointer (some ⟨pb, po + L * 32, none⟩)) := hd ⟨2, .data⟩ (by simp) rfl (by decide) _ _ rfl rfl
       refine ey _ _ rfl pb (po + L * 32) (by simpa [Act.eval] using q73) (u8s x) (by rw [av, Hx.out]; exact cY) (fun j v hv => ?_) ?_
       ·have hc := HX.out j v hv
        exact hE.cell ((HB1.out.cell (block_lt_of_cell hc)).trans hc) (by intro h; have := block_lt_of_cell hc; cases h; simp at this)
       exact ⟨rfl, Below.refl _ _⟩
      ·refine aB rfl ?_
       have q14 : a.tmps[14]?.getD undef = (.pointer (some ⟨ad, 0, none⟩)) := hR.evalD rfl rfl
       refine ey _ _ rfl ad 0 (by simpa [Act.eval] using q14) (u8s X) (by rw [av, HXl.out]; exact cY) (fun j v hv => by rw [Nat.zero_add]; exact (HAd.out.grown hE (by intro h; cases h; exact hadn rfl)).cell hv) ?_
       exact ⟨rfl, Below.refl _ _⟩
      ·refine aB rfl ?_
       have q74 : a.tmps[74]?.getD undef = (.agg (u8s x).toArray) := hd ⟨3, .data⟩ (by simp) rfl (by decide) _ _ rfl rfl
       have q75 : a.tmps[75]?.getD undef = (.agg (u8s X).toArray) := hd ⟨4, .data⟩ (by simp) rfl (by decide) _ _ rfl rfl
       go_simp
       refine (pq x X w2 (HG.out.below' (HB1.out.grown hE HB1.out.size (by intro k hk; cases hk; exact Nat.le_refl _))) Hx.out HXl.out).mono ?_
       rintro e w3 ⟨rfl, hb3⟩
       exact ⟨rfl, hb3⟩
      ·refine aB rfl ?_
       have q15 : a.tmps[15]?.getD undef = (.bool ok) := hR.evalD rfl rfl
       go_simp
       exact Below.refl _ _
      ·exact absurd rfl his
      ·refine aB rfl ?_
       have q77 : a.tmps[77]?.getD undef = (.bool ok) := hd ⟨6, .data⟩ (by simp) rfl (by decide) _ _ rfl rfl
       go_simp
       exact Below.refl _ _
     case hend =>
      intro w2 hE hA2
      rw [cj _ _ (by rw [av, av, List.length_replicate, Sha.pair_len])] at hA2
      have HB2 := Lib.hid (HB1.out.grown hE HB1.out.size (by intro k hk; cases hk; exact Nat.le_refl _))
      have HA2 := Lib.hid hA2
      clear hA2 hE
      simp only [bH, List.map_cons, List.map_nil, List.set_cons_zero, List.set_cons_succ, List.zip_cons_cons, List.zip_nil_right, Act.put, List.setIfInBounds_toArray]
      go_wp2
      refine fK rfl rfl w.heap.size rfl _ HA2.out (by rw [av, Sha.pair_len]; exact cY) ⟨?_, HB2.out⟩
      rw [HC.out]
      rfl
end Go.Proofs.YtbaccmkhjmmlnaaDoor
namespace Go.Proofs.YtbaccmkhjmmlnaaDoor
section
open Go.RowKit
theorem xe : (Tryd.prog).eqGuardType (Tryd.prog).depth 47 = false := by kernel_rfl
theorem zy (l1 l2 : List UInt8) (h1 : l1.length = 32) (h2 : l2.length = 32) (w : World) :
  (Op.equalIn 10000 47 (.agg (u8s l1).toArray) (.agg (u8s l2).toArray)).run Tryd.prog w = .ok (l1 == l2) w :=
 run_equalIn_bytes w 9998 47 5 32 (by kernel_rfl) (by kernel_rfl) (fun _ => by kernel_rfl) l1 l2 h1 h2
theorem jV {P : Program} {ops : Array Oper} {rest : List Oper} {o : Oper} {a : Act} {w : World} {Q : Exit → Act → World → Prop} (hw : Region.wanted o (yielded ops a.tmps) = true) (ty : TypeId) (x : Operand) (ho : o.op = .load ty x) (g off : Nat) (hx : a.eval x = .pointer (some ⟨g, off, none⟩))
  (cs : List Value) (hT : ms P ty cs.length) (hc : ∀ j v, cs[j]? = some v → w.cell? ⟨g, off + j, none⟩ = some v)
  (h : wpList P ops Q rest (a.put o.dst (.agg cs.toArray)) w) : wpList P ops Q (o :: rest) a w :=
 BigFrame.wpList_want hw fun _ hK => ey ty x ho g off hx cs hT hc (hK _ _ h)
end
section
open Go.RowKit
theorem jq {P : Program} {ops : Array Oper} {rest : List Oper} {o : Oper} {a : Act} {w : World} {Q : Exit → Act → World → Prop} (hgd : o.guard = none) (hd : o.dst = none) (ty : TypeId) (x y : Operand) (ho : o.op = .store ty x y) (g off : Nat) (hx : a.eval x = .pointer (some ⟨g, off, none⟩))
  (cs : List Value) (hy : (a.eval y).cells = cs.toArray) (hT : (P.info? ty).map (·.size) = some cs.length) (h1 : ∀ v ∈ cs, v.oneCell' = true) (cur : List Value) (hA : Arr w g cur) (hfit : off + cs.length ≤ cur.length)
  (h : ∀ w', Arr w' g (lay cur off cs) → w.grownBy w' (some g) → wpList P ops Q rest a w') : wpList P ops Q (o :: rest) a w := by
 obtain ⟨T, hg⟩ := hA
 have hs : (storeCells ⟨g, off, none⟩ cs).run P w = .ok () (w.setRow g (lay cur off cs).toArray) := by
  have := run_storeCells_at P g off T cs 0 cur.toArray w hg (by simpa using hfit) h1
  simpa [lay] using this
 refine wpList_plain hgd fun K hK => ?_
 unfold Oper.wp
 have : (execOp a.eval o).run P w = .ok .skip (w.setRow g (lay cur off cs).toArray) := by
  simp only [execOp, ho, hx]
  simp [Instr.storeAt, Instr.sureAddr, storeVar, Sem.run_bind, hy, dP hT, hs, Result.andThen]
 rw [this, Oper.upon_skip, hd]
 exact hK _ _ (h _ (Arr.setRow ⟨T, hg⟩ _) (eF _ _ _))
set_option maxHeartbeats 400000 in
theorem xj (root b : List UInt8) (n i : Int) (p : List (List UInt8)) (bv pv : Value) (w : World) (hr : root.length = 32) (hb : b.length ≤ 900000) (hg : ip w) (hS : Sl w bv b.length (u8s b)) (hP : Sl w pv p.length (cg p)) (h32 : Len32 p) (hpn : p.length ≤ 1000000) (hn : n ≤ 4294967296) :
  Calls Tryd.prog 46 #[.agg (u8s root).toArray, .int .i64 n, .int .i64 i, bv, pv] w fun e w' => e = .returned (.bool (Sha.check root n i b p)) ∧ Below w.heap.size w w' := by
 obtain ⟨ao, cap, rfl⟩ := iO hP
 obtain ⟨bao, bcap, rfl⟩ := iO hS
 have HG := Lib.hid hg
 have HS := Lib.hid hS
 have HP := Lib.hid hP
 have H32 := Lib.hid h32
 have HR := Lib.hid hr
 clear hg hS hP h32 hr
 by_cases hi0 : i < 0
 ·have hc : Sha.check root n i b p = false := by unfold Sha.check; rw [if_pos (.inl hi0)]
  rw [hc]
  go_enter Tryd.func46, Tryd.ntmps46
  go_wp2
  exact bodyPost_ret (results_tmp rfl _ _ _) rfl ⟨rfl, ((Below.refl _ _).alloc (Nat.le_refl _) _).alloc (by simp) _⟩
 ·by_cases hin : n ≤ i
  ·have hc : Sha.check root n i b p = false := by unfold Sha.check; rw [if_pos (.inr hin)]
   rw [hc]
   go_enter Tryd.func46, Tryd.ntmps46
   go_wp2
   exact bodyPost_ret (results_tmp rfl _ _ _) rfl ⟨rfl, ((Below.refl _ _).alloc (Nat.le_refl _) _).alloc (by simp) _⟩
  ·have hc : Sha.check root n i b p = ((Sha.climb b p.reverse n.toNat i.toNat).2 && decide ((Sha.climb b p.reverse n.toNat i.toNat).1 = root)) := by unfold Sha.check; rw [if_neg (by omega)]
   obtain ⟨n', rfl⟩ : ∃ n' : Nat, n = n' := ⟨n.toNat, by omega⟩
   obtain ⟨i', rfl⟩ : ∃ i' : Nat, i = i' := ⟨i.toNat, by omega⟩
   rw [Int.toNat_natCast, Int.toNat_natCast] at hc
   have HC := Lib.hid hc
   clear hc
   go_enter Tryd.func46, Tryd.ntmps46
   go_wp2_with (refine jq rfl rfl _ _ _ rfl (w.heap.size + 1 + 1) 0 rfl [_] rfl (by kernel_rfl) (by intro v hv; simp only [List.mem_singleton] at hv; subst hv; rfl) [.nilFunc] (Arr.newAt (by simp) [_] _) (by simp) (fun W hA hW => Hid.out ?_))
   refine db ?_
   have hB0 : Below w.heap.size w W := ((((Below.refl _ _).alloc (Nat.le_refl _) _).alloc (by simp) _).alloc (by simp; omega) _).grown hW (by simp; omega) (by intro k hk; cases hk; omega)
   have hA5 : Arr W w.heap.size (u8s root) := ((((Arr.new w (u8s root) _).alloc _).alloc _).grown hW (by simp; omega))
   have hA8 : Arr W (w.heap.size + 1) [.slice bao b.length bcap] := (((Arr.newAt (by simp) [_] _).alloc _).grown hW (by simp))
   have hA11 : Arr W (w.heap.size + 1 + 1) [.func (.func 71) #[] #[.pointer (some ⟨w.heap.size + 1, 0, none⟩), .pointer (some ⟨w.heap.size + 1 + 1, 0, none⟩)]] := hA
   have hc11 := hA11.cell (i := 0) rfl
   have HB0 := Lib.hid hB0
   have HA5 := Lib.hid hA5
   have HA8 := Lib.hid hA8
   have HA11 := Lib.hid hA11
   clear hA hW hB0 hA5 hA8 hA11
   go_wp2_with (go_at_call 71; refine Hid.out ?_)
   refine db ?_
   refine (xq b (w.heap.size + 1) (w.heap.size + 1 + 1) _ hb _ p _ n' i' _ rfl (HG.out.below' HB0.out) HA8.out (HS.out.below HB0.out) HA11.out (HP.out.below HB0.out) H32.out hpn (by omega) (by omega) (by omega)).mono ?_
   rintro e W2 ⟨rfl, hb2⟩
   obtain ⟨X, hX⟩ : ∃ X, X = (Sha.climb b p.reverse n' i').1 := ⟨_, rfl⟩
   obtain ⟨ok, hok⟩ : ∃ ok, ok = (Sha.climb b p.reverse n' i').2 := ⟨_, rfl⟩
   have hXl : X.length = 32 := by rw [hX]; exact Sha.climb_len _ _ _ _
   rw [← hX, ← hok] at HC ⊢
   have HXl := Lib.hid hXl
   have HB2 := Lib.hid (HB0.out.trans (hb2.mono HB0.out.size))
   have HA52 := Lib.hid (HA5.out.below' hb2)
   clear hX hok hXl hb2 hc11
   cases ok with
   | false =>
    go_wp2_with (refine jq rfl rfl _ _ _ rfl _ 0 rfl (u8s X) rfl (by rw [av, HXl.out]; kernel_rfl) (cV _) (u8s (List.replicate 32 0)) (Arr.new _ (u8s (List.replicate 32 0)) _) (by rw [av, av, List.length_replicate, HXl.out]; decide) (fun W3 hA3 hW3 => Hid.out ?_))
    refine db ?_
    have HB3 := Lib.hid ((HB2.out.alloc HB2.out.size _).grown hW3 (by have := HB2.out.size; simp; omega) (by intro k hk; cases hk; exact HB2.out.size))
    clear hA3 hW3
    go_wp2
    exact bodyPost_ret (results_tmp rfl _ _ _) rfl ⟨by rw [HC.out]; rfl, HB3.out⟩
   | true =>
    go_wp2_with (refine jq rfl rfl _ _ _ rfl _ 0 rfl (u8s X) rfl (by rw [av, HXl.out]; kernel_rfl) (cV _) (u8s (List.replicate 32 0)) (Arr.new _ (u8s (List.replicate 32 0)) _) (by rw [av, av, List.length_replicate, HXl.out]; decide) (fun W3 hA3 hW3 => Hid.out ?_))
    refine db ?_
    rw [cj _ _ (by rw [av, av, List.length_replicate, HXl.out])] at hA3
    have HB3 := Lib.hid ((HB2.out.alloc HB2.out.size _).grown hW3 (by have := HB2.out.size; simp; omega) (by intro k hk; cases hk; exact HB2.out.size))
    have HA3 := Lib.hid hA3
    have HA53 := Lib.hid ((HA52.out.alloc _).grown hW3 (by have := HA52.out.lt; intro h; simp only [Option.some.injEq] at h; omega))
    have qe := zy X root HXl.out HR.out
    have qg := xe
    clear hA3 hW3
    go_wp2_with (first
     | (refine jV rfl _ _ rfl W2.heap.size 0 rfl (u8s X) (by rw [av, HXl.out]; exact cY) (fun j v hv => by rw [Nat.zero_add]; exact HA3.out.cell hv) ?_)
     | (refine jV rfl _ _ rfl w.heap.size 0 rfl (u8s root) (by rw [av, HR.out]; exact cY) (fun j v hv => by rw [Nat.zero_add]; exact HA53.out.cell hv) ?_))
    refine bodyPost_ret (results_tmp rfl _ _ _) rfl ⟨?_, HB3.out⟩
    rw [HC.out]
    refine xD ?_
    rw [Bool.true_and]
    exact Bool.eq_iff_iff.2 (by simp)
end
section
open Go.RowKit
theorem nG {w1 w2 w3 : World} {r : Option Nat} (h : w1.grownBy w2 r) (k : w2.grownBy w3 r) : w1.grownBy w3 r :=
 ⟨k.os.trans h.os, k.tape.trans h.tape, k.output.trans h.output, Nat.le_trans h.size k.size, fun i hi hr => (k.block i (Nat.lt_of_lt_of_le hi h.size) hr).trans (h.block i hi hr)⟩
theorem sD {w1 w2 : World} {r : Option Nat} (h : w1.grownBy w2 r) : w1.grownBy w2.drew r := ⟨h.os, h.tape, h.output, h.size, h.block⟩
def iG (g : Nat) (w w' : World) : Prop := ∀ cs T, w.heap[g]? = some (.cells cs T) → ∃ cs', w'.heap[g]? = some (.cells cs' T)
theorem iG.refl (g : Nat) (w : World) : iG g w w := fun cs _ h => ⟨cs, h⟩
theorem iG.trans {g : Nat} {a b c : World} (h : iG g a b) (k : iG g b c) : iG g a c := fun cs T hT => by
 obtain ⟨cs', h'⟩ := h cs T hT; exact k cs' T h'
theorem iG.drew {g : Nat} {a b : World} (h : iG g a b) : iG g a b.drew := h
theorem mi {P : Program} {o : Oper} {a : Act} {w : World} {Q : Exit → Act → World → Prop} {K : Act → World → Prop} (hd : o.dst = none) (ty : TypeId) (x y : Operand) (ho : o.op = .store ty x y) (g off : Nat) (hx : a.eval x = .pointer (some ⟨g, off, none⟩))
  (cs : List Value) (hy : a.eval y = .agg cs.toArray) (hT : (P.info? ty).map (·.size) = some cs.length) (h1 : ∀ v ∈ cs, v.oneCell' = true) (cur : List Value) (hA : Arr w g cur) (hfit : off + cs.length ≤ cur.length)
  (h : ∀ w', Arr w' g (lay cur off cs) → w.grownBy w' (some g) → iG g w w' → K a w') : o.wp P a w K Q := by
 obtain ⟨T, hg⟩ := hA
 have hs : (storeCells ⟨g, off, none⟩ cs).run P w = .ok () (w.setRow g (lay cur off cs).toArray) := by
  have := run_storeCells_at P g off T cs 0 cur.toArray w hg (by simpa using hfit) h1
  simpa [lay] using this
 unfold Oper.wp
 have : (execOp a.eval o).run P w = .ok .skip (w.setRow g (lay cur off cs).toArray) := by
  simp only [execOp, ho, hx, hy]
  simp [Instr.storeAt, Instr.sureAddr, storeVar, Sem.run_bind, Value.cells, dP hT, hs, Result.andThen]
 rw [this, Oper.upon_skip, hd]
 exact h _ (Arr.setRow ⟨T, hg⟩ _) (eF _ _ _) (fun cs' T' h' => ⟨_, by
  simp only [World.setRow, Array.getElem?_modify, if_pos, h']; rfl⟩)
def rb (g : Nat) (w : World) (c0 c1 c2 : List Value) (S : Nat → Bool) (w' : World) : Prop :=
 (w.grownBy w' (some g) ∧ iG g w w') ∧ Arr w' g (if S 15 then c2 else if S 13 then c1 else c0)
theorem rb.same {g : Nat} {w w' : World} {c0 c1 c2 : List Value} {S S' : Nat → Bool} {i : Nat} (h : rb g w c0 c1 c2 S w') (hS : ∀ j, S' j = if j = i then true else S j) (h1 : i ≠ 13) (h2 : i ≠ 15) : rb g w c0 c1 c2 S' w' := by
 unfold rb
 rw [hS 15, hS 13, if_neg (Ne.symm h2), if_neg (Ne.symm h1)]
 exact h
set_option maxHeartbeats 400000 in
theorem tT (g cap : Nat) (l : List (List UInt8)) (tail : List Value) (w : World) (hn : l.length ≤ 1000000) (hc : l.length ≤ cap) (hcap : cap ≤ 9223372036854775807) (hA : Arr w g (cg l ++ tail)) (hL : Len32 l) :
  Calls Tryd.prog 66 #[.slice (some ⟨g, 0, none⟩) l.length cap] w fun e w' => e = .returned (.tuple #[]) ∧ Arr w' g (cg l.reverse ++ tail) ∧ w.grownBy w' (some g) ∧ iG g w w' := by
 have HA := Lib.hid hA; clear hA
 have HL := Lib.hid hL; clear hL
 obtain ⟨n, hN⟩ : ∃ n, n = l.length := ⟨_, rfl⟩
 rw [← hN] at hn hc ⊢
 have HN := Lib.hid hN; clear hN
 go_enter Tryd.func66, Tryd.ntmps66
 go_wp2
 go_loopw [2, 3] (fun i j wr => ∃ k : Nat, k + k ≤ n ∧ i = .int .i64 k ∧ j = .int .i64 ((n : Int) - 1 - k) ∧ (w.grownBy wr (some g) ∧ iG g w wr) ∧ Arr wr g (cg (jb l k) ++ tail)) (fun i j _ => (intOf j - intOf i + 1).toNat)
 case atStart => exact ⟨0, by omega, rfl, by go_num, ⟨World.grownBy.refl _ _, iG.refl _ _⟩, by rw [wi]; exact HA.out⟩
 case round =>
  obtain ⟨k, hk, rfl, rfl, hg, hA⟩ := hrel
  by_cases h : (k : Int) < (n : Int) - 1 - k
  ·obtain ⟨j, hj⟩ : ∃ j, j = n - 1 - k := ⟨_, rfl⟩
   have ej : (n : Int) - 1 - k = (j : Nat) := by omega
   rw [ej] at h ⊢
   have hjn : j < n := by omega
   have hkn : k < n := by omega
   have HJ := Lib.hid hj
   have HE := Lib.hid ej
   clear hj ej
   obtain ⟨X, hX⟩ : ∃ X, X = jb l k := ⟨_, rfl⟩
   rw [← hX] at hA
   have hXl : X.length = n := by rw [hX, fB, HN.out]
   have hX32 : Len32 X := by rw [hX]; exact uX HL.out k
   have hG := Lib.hid hg
   have HX := Lib.hid hX
   have HXA := Lib.hid hA
   have HXl := Lib.hid hXl
   have HX32 := Lib.hid hX32
   clear hX hA hg hXl hX32
   obtain ⟨A, eA⟩ : ∃ A, A = X.getD j [] := ⟨_, rfl⟩
   obtain ⟨B, eB⟩ : ∃ B, B = X.getD k [] := ⟨_, rfl⟩
   have HA := Lib.hid (show A.length = 32 by rw [eA]; exact HX32.out.get (by rw [HXl.out]; exact hjn))
   have HB := Lib.hid (show B.length = 32 by rw [eB]; exact HX32.out.get (by rw [HXl.out]; exact hkn))
   have EA := Lib.hid eA
   have EB := Lib.hid eB
   clear eA eB
   go_wp2
   refine qL [.slice (some ⟨g, 0, none⟩) n cap, .int .i64 k, .slice (some ⟨g, 0, none⟩) n cap, .int .i64 j, .slice (some ⟨g, 0, none⟩) n cap, .int .i64 j, .pointer (some ⟨g, j * 32, none⟩), .agg (u8s A).toArray,
    .slice (some ⟨g, 0, none⟩) n cap, .int .i64 k, .pointer (some ⟨g, k * 32, none⟩), .agg (u8s B).toArray, .pointer (some ⟨g, k * 32, none⟩), undef, .pointer (some ⟨g, j * 32, none⟩), undef]
    (rb g w (cg X ++ tail) (cg (X.set k A) ++ tail) (cg ((X.set k A).set j B) ++ tail)) (by kernel_rfl) (by kernel_rfl) rfl ?_ ?_ ?_
   ·intro S hS
    unfold rb
    rw [hS 13, hS 15]
    exact ⟨⟨sD hG.out.1, hG.out.2.drew⟩, HXA.out⟩
   ·refine ez ⟨?_, ?_, ?_, ?_, ?_, ?_, ?_, ?_, ?_, ?_, ?_, ?_, ?_, ?_, ?_, ?_, trivial⟩ <;> intro S S' a w1 hi hb hcl hs hR hd hS' <;> refine aB rfl ?_
    ·have h2 : a.tmps[0]?.getD undef = .slice (some ⟨g, 0, none⟩) n cap := hR.evalD rfl rfl
     go_simp
     exact hs.same hS' (by omega) (by omega)
    ·have h2 : a.tmps[2]?.getD undef = .int .i64 k := hR.evalD rfl rfl
     go_simp
     exact hs.same hS' (by omega) (by omega)
    ·have h2 : a.tmps[0]?.getD undef = .slice (some ⟨g, 0, none⟩) n cap := hR.evalD rfl rfl
     go_simp
     exact hs.same hS' (by omega) (by omega)
    ·have h2 : a.tmps[3]?.getD undef = .int .i64 j := hR.evalD rfl rfl
     go_simp
     exact hs.same hS' (by omega) (by omega)
    ·have h2 : a.tmps[0]?.getD undef = .slice (some ⟨g, 0, none⟩) n cap := hR.evalD rfl rfl
     go_simp
     exact hs.same hS' (by omega) (by omega)
    ·have h2 : a.tmps[3]?.getD undef = .int .i64 j := hR.evalD rfl rfl
     go_simp
     exact hs.same hS' (by omega) (by omega)
    ·have h2 : a.tmps[18]?.getD undef = .slice (some ⟨g, 0, none⟩) n cap := hd ⟨4, .data⟩ (by simp) rfl _ _ rfl rfl
     have h3 : a.tmps[19]?.getD undef = .int .i64 j := hd ⟨5, .data⟩ (by simp) rfl _ _ rfl rfl
     go_simp
     exact hs.same hS' (by omega) (by omega)
    ·have h2 : a.tmps[20]?.getD undef = .pointer (some ⟨g, j * 32, none⟩) := hd ⟨6, .data⟩ (by simp) rfl _ _ rfl rfl
     have q13 : S 13 = false := by
      cases hq : S 13 with
      | false => rfl
      | true => have := hcl 13 _ rfl hq ⟨7, .phase⟩ (by simp) rfl; rw [hi] at this; cases this
     have q15 : S 15 = false := by
      cases hq : S 15 with
      | false => rfl
      | true => have := hcl 15 _ rfl hq ⟨13, .chain⟩ (by simp) rfl; rw [q13] at this; cases this
     have hA0 := hs.2
     rw [q13, q15] at hA0
     refine ey _ _ rfl g (j * 32) (by simpa [Act.eval] using h2) (u8s A) (by rw [av, HA.out]; exact cY) (fun q v hv => hA0.cell (sj HX32.out tail (by rw [HXl.out]; assumption) (by rw [← EA.out]; exact hv))) ?_
     exact ⟨rfl, hs.same hS' (by omega) (by omega)⟩
    ·have h2 : a.tmps[0]?.getD undef = .slice (some ⟨g, 0, none⟩) n cap := hR.evalD rfl rfl
     go_simp
     exact hs.same hS' (by omega) (by omega)
    ·have h2 : a.tmps[2]?.getD undef = .int .i64 k := hR.evalD rfl rfl
     go_simp
     exact hs.same hS' (by omega) (by omega)
    ·have h2 : a.tmps[22]?.getD undef = .slice (some ⟨g, 0, none⟩) n cap := hd ⟨8, .data⟩ (by simp) rfl _ _ rfl rfl
     have h3 : a.tmps[23]?.getD undef = .int .i64 k := hd ⟨9, .data⟩ (by simp) rfl _ _ rfl rfl
     go_simp
     exact hs.same hS' (by omega) (by omega)
    ·have h2 : a.tmps[24]?.getD undef = .pointer (some ⟨g, k * 32, none⟩) := hd ⟨10, .data⟩ (by simp) rfl _ _ rfl rfl
     have q13 : S 13 = false := by
      cases hq : S 13 with
      | false => rfl
      | true => have := hcl 13 _ rfl hq ⟨11, .phase⟩ (by simp) rfl; rw [hi] at this; cases this
     have q15 : S 15 = false := by
      cases hq : S 15 with
      | false => rfl
      | true => have := hcl 15 _ rfl hq ⟨13, .chain⟩ (by simp) rfl; rw [q13] at this; cases this
     have hA0 := hs.2
     rw [q13, q15] at hA0
     refine ey _ _ rfl g (k * 32) (by simpa [Act.eval] using h2) (u8s B) (by rw [av, HB.out]; exact cY) (fun q v hv => hA0.cell (sj HX32.out tail (by rw [HXl.out]; assumption) (by rw [← EB.out]; exact hv))) ?_
     exact ⟨rfl, hs.same hS' (by omega) (by omega)⟩
    ·have h2 : a.tmps[14]?.getD undef = .slice (some ⟨g, 0, none⟩) n cap := hd ⟨0, .data⟩ (by simp) rfl _ _ rfl rfl
     have h3 : a.tmps[15]?.getD undef = .int .i64 k := hd ⟨1, .data⟩ (by simp) rfl _ _ rfl rfl
     go_simp
     exact hs.same hS' (by omega) (by omega)
    ·have h2 : a.tmps[26]?.getD undef = .pointer (some ⟨g, k * 32, none⟩) := hd ⟨12, .data⟩ (by simp) rfl _ _ rfl rfl
     have h3 : a.tmps[21]?.getD undef = .agg (u8s A).toArray := hd ⟨7, .data⟩ (by simp) rfl _ _ rfl rfl
     have q15 : S 15 = false := by
      cases hq : S 15 with
      | false => rfl
      | true => have := hcl 15 _ rfl hq ⟨13, .chain⟩ (by simp) rfl; rw [hi] at this; cases this
     have hA0 := hs.2
     have q13 : S 13 = false := hi
     rw [q13, q15] at hA0
     refine mi rfl _ _ _ rfl g (k * 32) (by simpa [Act.eval] using h2) (u8s A) (by simpa [Act.eval] using h3) (by rw [av, HA.out]; exact cY.2) (cV _) _ hA0 (by simp only [Bool.false_eq_true, if_false]; rw [List.length_append, gl HX32.out, HXl.out, av, HA.out]; omega) ?_
     intro w2 hA2 hg2 ht2
     refine ⟨rfl, ⟨nG hs.1.1 hg2, hs.1.2.trans ht2⟩, ?_⟩
     have s15 : S' 15 = false := (hS' 15).trans ((if_neg (by decide)).trans q15)
     have s13 : S' 13 = true := (hS' 13).trans (if_pos rfl)
     rw [s15, s13]
     simp only [Bool.false_eq_true, if_false, if_true] at hA2 ⊢
     rwa [sI HX32.out tail (by rw [HXl.out]; exact hkn) HA.out] at hA2
    ·have h2 : a.tmps[16]?.getD undef = .slice (some ⟨g, 0, none⟩) n cap := hd ⟨2, .data⟩ (by simp) rfl _ _ rfl rfl
     have h3 : a.tmps[17]?.getD undef = .int .i64 j := hd ⟨3, .data⟩ (by simp) rfl _ _ rfl rfl
     go_simp
     exact hs.same hS' (by omega) (by omega)
    ·have h2 : a.tmps[27]?.getD undef = .pointer (some ⟨g, j * 32, none⟩) := hd ⟨14, .data⟩ (by simp) rfl _ _ rfl rfl
     have h3 : a.tmps[25]?.getD undef = .agg (u8s B).toArray := hd ⟨11, .data⟩ (by simp) rfl _ _ rfl rfl
     have q13 : S 13 = true := hb ⟨13, .chain⟩ (by simp) rfl
     have q15 : S 15 = false := hi
     have hA0 := hs.2
     rw [q13, q15] at hA0
     simp only [Bool.false_eq_true, if_false, if_true] at hA0
     have hl3 : (X.set k A).length = n := by rw [List.length_set]; exact HXl.out
     have h32 : Len32 (X.set k A) := HX32.out.set HA.out k
     refine mi rfl _ _ _ rfl g (j * 32) (by simpa [Act.eval] using h2) (u8s B) (by simpa [Act.eval] using h3) (by rw [av, HB.out]; exact cY.2) (cV _) _ hA0 (by rw [List.length_append, gl h32, hl3, av, HB.out]; omega) ?_
     intro w2 hA2 hg2 ht2
     refine ⟨rfl, ⟨nG hs.1.1 hg2, hs.1.2.trans ht2⟩, ?_⟩
     have s15 : S' 15 = true := (hS' 15).trans (if_pos rfl)
     rw [s15]
     simp only [if_true]
     rwa [sI h32 tail (by rw [hl3]; exact hjn) HB.out] at hA2
   ·intro S w1 hS hs
    have hA0 := hs.2
    rw [hS 15 (by decide)] at hA0
    simp only [if_true] at hA0
    have HG2 := Lib.hid hs.1
    have HA2 := Lib.hid hA0
    clear hS hs hA0
    simp only [bH, List.map_cons, List.map_nil, List.zip_cons_cons, List.zip_nil_right, Act.put, List.setIfInBounds_toArray, List.set_cons_zero, List.set_cons_succ]
    go_wp2
    go_round
    case rel =>
     refine ⟨k + 1, by have := HE.out; omega, by go_num, by have := HE.out; go_num, HG2.out, ?_⟩
     have hf : jb l (k + 1) = (X.set k A).set j B := by
      have e1 := HN.out
      have e2 := HJ.out
      have e3 := HX.out
      rw [xt l k (by omega), ← e3, ← e1, ← e2, ← EA.out, ← EB.out]
     rw [hf]; exact HA2.out
    case measure => simp [intOf]; omega
  ·obtain ⟨u, hu⟩ : ∃ u : Int, u = (n : Int) - 1 - k := ⟨_, rfl⟩
   rw [← hu] at h ⊢
   have hu1 : -1 ≤ u := by omega
   have hu2 : u ≤ n := by omega
   have hfe : jb l k = l.reverse := yq l k (by have := HN.out; omega)
   rw [hfe] at hA
   have HA2 := Lib.hid hA
   have HG2 := Lib.hid hg
   clear hu hA hg hfe
   go_wp2
   refine bodyPost_end (v := .tuple #[]) (results_none rfl _ _ _) rfl ?_
   exact ⟨rfl, HA2.out, HG2.out.1, HG2.out.2⟩
theorem tj (ao : Option Addr) (cap : Nat) (w : World) :
  Calls Tryd.prog 66 #[.slice ao 0 cap] w fun e w' => e = .returned (.tuple #[]) ∧ w = w' := by
 go_enter Tryd.func66, Tryd.ntmps66
 go_wp2
 go_rounds 1
 exact bodyPost_end (v := .tuple #[]) (results_none rfl _ _ _) rfl ⟨rfl, rfl⟩
end
section
open Go.RowKit
theorem xK (cur : List Value) (k : Nat) (c : Value) (r : List Value) (h : k < cur.length) : lay (cur.set k c) (k + 1) r = lay cur k (c :: r) := by
 unfold lay
 rw [List.set_eq_take_append_cons_drop, if_pos h]
 have h1 : (cur.take k).length = k := by rw [List.length_take]; omega
 have e1 : (cur.take k ++ c :: cur.drop (k + 1)).take (k + 1) = cur.take k ++ [c] := by
  rw [List.take_append, h1, List.take_of_length_le (by omega), show k + 1 - k = 1 by omega]; simp
 have e2 : (cur.take k ++ c :: cur.drop (k + 1)).drop (k + 1 + r.length) = cur.drop (k + (c :: r).length) := by
  rw [List.drop_append, h1, List.drop_of_length_le (by omega), show k + 1 + r.length - k = r.length + 1 by omega, List.drop_succ_cons, List.drop_drop, List.nil_append]
  congr 1; simp; omega
 rw [e1, e2]
 simp
theorem wS (off : Nat) : ∀ (l : List Value) (k : Nat) (arr : Array Value), off + k + l.length ≤ arr.size → (l.zipIdx k).foldl (fun cs (x : Value × Nat) => cs.setIfInBounds (off + x.2) x.1) arr = (lay arr.toList (off + k) l).toArray := by
 intro l
 induction l with
 | nil => intro k arr _; simp [lay]
 | cons c r ih =>
  intro k arr h
  simp only [List.zipIdx_cons, List.foldl_cons]
  rw [ih (k + 1) _ (by simp at h ⊢; omega)]
  congr 1
  have hk : off + k < arr.toList.length := by simp at h ⊢; omega
  rw [Array.toList_setIfInBounds, ← xK _ _ _ _ hk]
  rfl
section
variable {P : Program} {ops : Array Oper} {rest : List Oper} {o : Oper} {a : Act} {w : World} {Q : Exit → Act → World → Prop} {t e : TypeId} {z : Value} {size bytes : Nat}
theorem tz {K : Act → World → Prop} (hE : ElemT P t e z size bytes) (x : Operand) (ho : o.op = .buildSlice t 1 #[(0, x)]) (cs : List Value) (hx : a.eval x = .agg cs.toArray) (hcs : cs.length = size) (hsz : size ≤ 16777216)
  (h : K (a.put o.dst (.slice (some ⟨w.heap.size, 0, none⟩) 1 1)) (w.alloc (.cells cs.toArray e))) : o.wp P a w K Q := by
 obtain ⟨i0, hi, hz0, hz1, hz2⟩ := info_parts hE.info
 have hs : (P.info? e).map (·.size) = some size := by rw [hi]; simp [hz1]
 have hz : ∀ w, (zeroValue e).run P w = .ok z w := by
  intro w; simp [zeroValue, typeInfo, hi, hz0]
 have hf : ∀ Z : Array Value, Z.size = size → Instr.fill (fun i => some (i * size, size)) Z [(0, Value.agg cs.toArray)] = some cs.toArray := by
  intro Z hZ
  have hlay : List.foldl (fun cs (x : Value × Nat) => cs.setIfInBounds (0 + x.2) x.1) Z cs.zipIdx = cs.toArray := by
   rw [wS 0 cs 0 Z (by omega), cj _ _ (by rw [Array.length_toList]; omega)]
  simp only [Nat.zero_add] at hlay
  have hc : (Value.agg cs.toArray).cells = cs.toArray := rfl
  unfold Instr.fill
  simp [hc, hcs, hZ, Instr.fill, hlay]
 unfold Oper.wp
 have : (execOp a.eval o).run P w = .ok (.value (.slice (some ⟨w.heap.size, 0, none⟩) 1 1)) (w.alloc (.cells cs.toArray e)) := by
  have hp := hE.pos
  simp only [execOp, ho]
  simp only [List.map_toArray, List.map_cons, List.map_nil, hx]
  simp only [Instr.buildSlice]
  have hfs := hf ((Array.range size).map (z.cells[· % z.cells.size]!)) (by simp)
  simp [Sem.run_bind, run_underlying hE.und, dP hs, hz, Result.andThen, show ¬ (16777216 < size) by omega, show ¬ (size = 0) by omega, newRow, newObj, hfs]
  rfl
 rw [this]; exact h
theorem lE (hE : ElemT P t e z size bytes) (hgd : o.guard = none) (x : Operand) (ho : o.op = .buildSlice t 1 #[(0, x)]) (cs : List Value) (hx : a.eval x = .agg cs.toArray) (hcs : cs.length = size) (hsz : size ≤ 16777216)
  (h : wpList P ops Q rest (a.put o.dst (.slice (some ⟨w.heap.size, 0, none⟩) 1 1)) (w.alloc (.cells cs.toArray e))) : wpList P ops Q (o :: rest) a w :=
 wpList_plain hgd fun _ hK => tz hE x ho cs hx hcs hsz (hK _ _ h)
end
end
section
open Go.RowKit
theorem qn : ∀ (k : Nat) (l : List (List UInt8)) (i : Nat), l.length = k → Len32 (Sha.path l i) := by
 intro k
 induction k using Nat.strongRecOn with
 | _ k ih =>
  intro l i hk
  rcases Nat.lt_or_ge l.length 2 with h | h
  ·rw [Sha.path_one _ h]; intro x hx; cases hx
  ·have c1 := Sha.cut_lt h
   have c2 := Sha.cut_pos l.length
   rcases Nat.lt_or_ge i (Sha.cut l.length) with hlt | hge
   ·rw [Sha.path_low h hlt]
    intro x hx
    rcases List.mem_cons.1 hx with rfl | h'
    ·exact Sha.root_len _
    ·exact ih _ (by rw [List.length_take]; omega) _ _ rfl x h'
   ·rw [Sha.path_high h hge]
    intro x hx
    rcases List.mem_cons.1 hx with rfl | h'
    ·exact Sha.root_len _
    ·exact ih _ (by rw [List.length_drop]; omega) _ _ rfl x h'
theorem mD {w w' : World} {r : Option Nat} (hb : Below w.heap.size w w') : w.grownBy w' r := ⟨hb.os, hb.tape, hb.output, hb.size, fun i hi _ => hb.block i hi⟩
theorem l7 {w w' : World} {base size n : Nat} {e : TypeId} {v : Value} {xs : List Value} (h : w.ownsRow base e size v n xs) (hb : Below w.heap.size w w') : w'.ownsRow base e size v n xs := by
 cases hq : v.ownBlock with
 | none => exact h.kept (mD (r := none) hb) (.inl hq)
 | some k => exact h.kept (mD (r := none) hb) (.inr (by rw [hq]; simp))
theorem sa : ElemT Tryd.prog 36 47 (.agg (u8s (List.replicate 32 0)).toArray) 32 32 := ⟨Tryd.underlying36, by kernel_rfl, rfl, by omega⟩
theorem xf (v : Value) (ls : List (List UInt8)) (i : Int) (w : World) (hB : BB w v ls) (hi : i < 0 ∨ (ls.length : Int) ≤ i) (hF : ls.length ≤ 1000000) :
  Calls Tryd.prog 39 #[v, .int .i64 i] w fun e w' => e = .returned (.tuple #[.slice none 0 0, .int .i64 1]) ∧ w = w' := by
 obtain ⟨vs, hvs, hS, hel⟩ := hB
 obtain ⟨ao, cap, rfl⟩ := iO hS
 clear hS hel hvs
 obtain ⟨n, hN⟩ : ∃ n, n = ls.length := ⟨_, rfl⟩
 rw [← hN] at hi hF ⊢
 clear hN
 by_cases h0 : i < 0
 ·go_enter Tryd.func39, Tryd.ntmps39
  go_wp2
  exact bodyPost_ret (results_tmp2 rfl _ _ _) rfl ⟨rfl, rfl⟩
 ·have h1 : (n : Int) ≤ i := by omega
  go_enter Tryd.func39, Tryd.ntmps39
  go_wp2
  exact bodyPost_ret (results_tmp2 rfl _ _ _) rfl ⟨rfl, rfl⟩
set_option maxHeartbeats 400000 in
theorem wW (v : Value) (ls : List (List UInt8)) (i : Nat) (w : World) (hg : ip w) (hB : BB w v ls) (hF : Fit ls) (hi : i < ls.length) :
  Calls Tryd.prog 39 #[v, .int .i64 i] w fun e w' => ∃ v', e = .returned (.tuple #[v', .int .i64 0]) ∧ w'.ownsRow w.heap.size 47 32 v' (Sha.proof ls i).length (cg (Sha.proof ls i)) ∧ Below w.heap.size w w' := by
 obtain ⟨vs, hvs, hS, hel⟩ := id hB
 obtain ⟨ao, cap, rfl⟩ := iO hS
 have hn := hF.1
 have HG := Lib.hid hg
 have HB := Lib.hid hB
 have HF := Lib.hid hF
 clear hg hB hF hS hel hvs
 obtain ⟨n, hN⟩ : ∃ n, n = ls.length := ⟨_, rfl⟩
 rw [← hN] at hi hn HB ⊢
 have HN := Lib.hid hN; clear hN
 go_enter Tryd.func39, Tryd.ntmps39
 go_wp2
 have hd1 : decide (n ≤ i) = false := decide_eq_false (by omega)
 simp only [hd1, Bool.or_false]
 clear hd1
 go_loopw [0, 1, 6] (fun x y o wr => ∃ (l' : List (List UInt8)) (i' : Nat) (acc : List (List UInt8)), Sha.path ls i = acc ++ Sha.path l' i' ∧ (∃ ao cap, x = .slice ao l'.length cap) ∧ BB w x l' ∧ Fit l' ∧ i' < l'.length ∧ l'.length + acc.length ≤ n ∧ y = .int .i64 i' ∧
  wr.ownsRow w.heap.size 47 32 o acc.length (cg acc) ∧ Below w.heap.size w wr) (fun x _ _ _ => na x)
 case atStart => exact ⟨ls, i, [], rfl, ⟨ao, cap, by rw [HN.out]⟩, HB.out, HF.out, by have := HN.out; omega, by simp; have := HN.out; omega, rfl, World.ownsRow_nil _ _ _ _, Below.refl _ _⟩
 case round =>
  obtain ⟨l', i', acc, hpath, ⟨ao', cap', rfl⟩, hBB, hF', hi', hle, rfl, hown, hbel⟩ := hrel
  rcases Nat.lt_or_ge l'.length 2 with h2 | h2
  ·have hacc : Sha.path ls i = acc := by rw [hpath, Sha.path_one _ h2]; simp
   have hacc32 : Len32 acc := by rw [← hacc]; exact qn _ _ _ rfl
   have hpr : Sha.proof ls i = acc.reverse := by unfold Sha.proof; rw [hacc]
   obtain ⟨n', hN'⟩ : ∃ n', n' = l'.length := ⟨_, rfl⟩
   rw [← hN'] at h2 hle ⊢
   have HP := Lib.hid hpr
   have H32 := Lib.hid hacc32
   have HBel := Lib.hid hbel
   have HOwn := Lib.hid hown
   clear hacc hpr hacc32 hbel hown hpath hBB hF' hi' hN'
   rcases Nat.eq_zero_or_pos acc.length with h0 | h0
   ·have hnil : acc = [] := List.length_eq_zero_iff.1 h0
    subst hnil
    have hu : u6 = .slice none 0 0 ∨ ∃ g cp, u6 = .slice (some ⟨g, 0, none⟩) 0 cp := by
     rcases HOwn.out.2 with ⟨h, _⟩ | ⟨g, cp, cur, h, _⟩
     ·exact .inl h
     ·exact .inr ⟨g, cp, h⟩
    have ho := HOwn.out
    obtain ⟨ao2, cp2, rfl⟩ : ∃ ao cp, u6 = .slice ao 0 cp := by
     rcases hu with h | ⟨g, cp, h⟩
     ·exact ⟨none, 0, h⟩
     ·exact ⟨_, cp, h⟩
    clear hu h0 ho
    go_wp2_with (go_at_call 66; refine Hid.out ?_)
    refine db ?_
    refine (tj ao2 cp2 _).mono ?_
    rintro e w2 ⟨rfl, rfl⟩
    go_wp2
    refine bodyPost_ret (results_tmp2 rfl _ _ _) rfl ⟨_, rfl, ?_, HBel.out⟩
    rw [HP.out]
    exact HOwn.out
   ·obtain ⟨k, hk⟩ : ∃ k, acc.length = k + 1 := ⟨acc.length - 1, by omega⟩
    have ho := HOwn.out
    rw [hk] at ho
    obtain ⟨g, cp, rfl, hg1, hg2⟩ := pt ho
    rw [← hk] at ho ⊢
    obtain ⟨cu0, hgt⟩ : ∃ cs, wr.heap[g]? = some (.cells cs 47) := by
     rcases ho.2 with ⟨h, _⟩ | ⟨g', cp', cu, h, _, h2, _⟩
     ·cases h
     ·simp only [Value.slice.injEq, Option.some.injEq, Addr.mk.injEq] at h
      obtain ⟨⟨rfl, _⟩, _⟩ := h
      exact ⟨cu, h2⟩
    obtain ⟨cur, hA, htk, hcap1, hcap2, hcl⟩ := uy ho
    have hcur : cur = cg acc ++ cur.drop (acc.length * 32) := by rw [← htk, List.take_append_drop]
    rw [hcur] at hA
    obtain ⟨tl, htl⟩ : ∃ tl, tl = cur.drop (acc.length * 32) := ⟨_, rfl⟩
    rw [← htl] at hA
    have HA := Lib.hid hA
    have htl2 : tl.length = cp * 32 - acc.length * 32 := by rw [htl, List.length_drop, hcl]
    have HTL := Lib.hid htl2
    clear hA hcur htk htl hcl ho hk htl2
    go_wp2_with (go_at_call 66; refine Hid.out ?_)
    refine db ?_
    refine (tT g cp acc tl _ (by omega) (by omega) hcap2 HA.out H32.out).mono ?_
    rintro e w2 ⟨rfl, hA2, hgr, hst⟩
    have HT := Lib.hid (hst _ _ hgt)
    clear hst hgt
    have HB2 := Lib.hid (HBel.out.grown hgr HBel.out.size (by intro k hk; cases hk; exact hg1))
    have HA2 := Lib.hid hA2
    clear hA2 hgr
    go_wp2
    refine bodyPost_ret (results_tmp2 rfl _ _ _) rfl ⟨_, rfl, ?_, HB2.out⟩
    have hl : (Sha.proof ls i).length = acc.length := by rw [HP.out, List.length_reverse]
    rw [hl, HP.out]
    obtain ⟨cs', hcs'⟩ := HT.out
    obtain ⟨T0, hT0⟩ := HA2.out
    have hee := hT0.symm.trans hcs'
    simp only [Option.some.injEq, Obj.cells.injEq] at hee
    obtain ⟨hc0, rfl, _⟩ := hee
    have hls : (cg acc.reverse).length = acc.length * 32 := by rw [gl H32.out.reverse, List.length_reverse]
    refine ⟨hls, .inr ⟨g, cp, _, rfl, hg1, hT0, hcap1, ?_, ?_, ?_⟩⟩
    ·unfold maxLen; omega
    ·have := HTL.out; simp [hls]; omega
    ·simp [hls]
  ·obtain ⟨b, off, rfl⟩ : ∃ b off, ao' = some ⟨b, off, none⟩ := by
    obtain ⟨vs, hvs, hS, hel⟩ := hBB
    obtain ⟨b, o, cap, e, _⟩ := lB hS (by omega)
    simp only [Value.slice.injEq] at e
    exact ⟨b, o, e.1⟩
   have hcap : l'.length ≤ cap' ∧ cap' ≤ 9223372036854775807 := by
    obtain ⟨vs, hvs, hS, hel⟩ := hBB
    obtain ⟨b, o, cap, e, h1, h2, _⟩ := lB hS (by omega)
    simp only [Value.slice.injEq] at e
    obtain ⟨_, _, rfl⟩ := e
    exact ⟨h1, h2⟩
   have hn' := hF'.1
   have c1 := Sha.cut_lt h2
   have c0 := Sha.cut_pos l'.length
   rcases Nat.lt_or_ge i' (Sha.cut l'.length) with hlt | hge
   ·have hp := Sha.path_low h2 hlt
    have hBd := rf hBB (Sha.cut l'.length) (by omega)
    have hBt := qU hBB (Sha.cut l'.length) (by omega)
    have HP := Lib.hid hp
    have HBd := Lib.hid hBd
    have HBt := Lib.hid hBt
    have HF' := Lib.hid hF'
    have HPath := Lib.hid hpath
    have HOwn := Lib.hid hown
    have HBel := Lib.hid hbel
    have HLe := Lib.hid hle
    clear hp hBd hBt hF' hpath hown hbel hBB hle
    obtain ⟨n', hN'⟩ : ∃ n', n' = l'.length := ⟨_, rfl⟩
    obtain ⟨m, hM⟩ : ∃ m, m = Sha.cut n' := ⟨_, rfl⟩
    rw [← hN'] at hi' h2 hn' c1 c0 hlt hcap HP HBd HBt HLe ⊢
    rw [← hM] at c1 c0 hlt HP HBd HBt
    have HM := Lib.hid hM
    have HN' := Lib.hid hN'
    clear hM hN'
    obtain ⟨hc1, hc2⟩ := hcap
    go_wp2_with (go_at_call 61; refine Hid.out ?_)
    refine db ?_
    refine (mL n' _ h2 (by omega)).mono ?_
    rintro e w1 ⟨rfl, rfl⟩
    rw [← HM.out]
    go_wp2_with (go_at_call 32; refine Hid.out ?_)
    refine db ?_
    refine (pT _ _ _ _ rfl (HG.out.below' HBel.out) (HBd.out.below HBel.out) (HF'.out.drop m)).mono ?_
    rintro e w1 ⟨rfl, hb1⟩
    have HO1 := Lib.hid (l7 HOwn.out hb1)
    go_wp2_with (first | refine lE sa rfl _ rfl _ rfl (by rw [cm]) (by omega) ?_ | (at_builtin; refine Hid.out ?_))
    refine db ?_
    have HA1 := Lib.hid (Arr.new w1 (u8s (Sha.root (l'.drop m))) 47)
    refine mp sa rfl _ _ rfl w.heap.size _ acc.length (cg acc) rfl (l7 HO1.out ((Below.refl _ _).alloc (Nat.le_refl _) _)) _ rfl _ HA1.out (by rw [cm]) (cV _) (by have := HLe.out; omega) (by have := HLe.out; omega) (by have := HBel.out.size; have := hb1.size; simp; omega) ?_
    intro g' cp w2 hown2 hg2 hb2 hlt2
    have hB2 : Below w.heap.size w w2 := ((HBel.out.trans (hb1.mono HBel.out.size)).alloc (Nat.le_trans HBel.out.size hb1.size) _).grown hg2 (by have := HBel.out.size; have := hb1.size; simp; omega) (fun k hk => (HO1.out.lt k hk).1)
    have HB2 := Lib.hid hB2
    have HO2 := Lib.hid hown2
    clear hB2 hown2 hg2 HA1 HO1 hb1 hlt2 hb2 HOwn HBel
    go_wp2
    go_roundw
    case rel =>
     have e1 := HN'.out
     have hlk : (l'.take m).length = m := by simp; omega
     refine ⟨l'.take m, i', acc ++ [Sha.root (l'.drop m)], by rw [HPath.out, HP.out]; simp, ⟨_, _, by rw [hlk]⟩, HBt.out, HF'.out.take m, by rw [hlk]; omega, by rw [hlk, List.length_append]; have := HLe.out; simp; omega, by go_num, ?_, HB2.out⟩
     have := HO2.out
     rw [← mg] at this
     simpa using this
    case measure => simp [na]; omega
   ·have hp := Sha.path_high h2 hge
    have hBd := rf hBB (Sha.cut l'.length) (by omega)
    have hBt := qU hBB (Sha.cut l'.length) (by omega)
    have HP := Lib.hid hp
    have HBd := Lib.hid hBd
    have HBt := Lib.hid hBt
    have HF' := Lib.hid hF'
    have HPath := Lib.hid hpath
    have HOwn := Lib.hid hown
    have HBel := Lib.hid hbel
    have HLe := Lib.hid hle
    clear hp hBd hBt hF' hpath hown hbel hBB hle
    obtain ⟨n', hN'⟩ : ∃ n', n' = l'.length := ⟨_, rfl⟩
    obtain ⟨m, hM⟩ : ∃ m, m = Sha.cut n' := ⟨_, rfl⟩
    rw [← hN'] at hi' h2 hn' c1 c0 hge hcap HP HBd HBt HLe ⊢
    rw [← hM] at c1 c0 hge HP HBd HBt
    have HM := Lib.hid hM
    have HN' := Lib.hid hN'
    clear hM hN'
    obtain ⟨hc1, hc2⟩ := hcap
    go_wp2_with (go_at_call 61; refine Hid.out ?_)
    refine db ?_
    refine (mL n' _ h2 (by omega)).mono ?_
    rintro e w1 ⟨rfl, rfl⟩
    rw [← HM.out]
    go_wp2_with (go_at_call 32; refine Hid.out ?_)
    refine db ?_
    refine (pT _ _ _ _ rfl (HG.out.below' HBel.out) (HBt.out.below HBel.out) (HF'.out.take m)).mono ?_
    rintro e w1 ⟨rfl, hb1⟩
    have HO1 := Lib.hid (l7 HOwn.out hb1)
    go_wp2_with (first | refine lE sa rfl _ rfl _ rfl (by rw [cm]) (by omega) ?_ | (at_builtin; refine Hid.out ?_))
    refine db ?_
    have HA1 := Lib.hid (Arr.new w1 (u8s (Sha.root (l'.take m))) 47)
    refine mp sa rfl _ _ rfl w.heap.size _ acc.length (cg acc) rfl (l7 HO1.out ((Below.refl _ _).alloc (Nat.le_refl _) _)) _ rfl _ HA1.out (by rw [cm]) (cV _) (by have := HLe.out; omega) (by have := HLe.out; omega) (by have := HBel.out.size; have := hb1.size; simp; omega) ?_
    intro g' cp w2 hown2 hg2 hb2 hlt2
    have hB2 : Below w.heap.size w w2 := ((HBel.out.trans (hb1.mono HBel.out.size)).alloc (Nat.le_trans HBel.out.size hb1.size) _).grown hg2 (by have := HBel.out.size; have := hb1.size; simp; omega) (fun k hk => (HO1.out.lt k hk).1)
    have HB2 := Lib.hid hB2
    have HO2 := Lib.hid hown2
    clear hB2 hown2 hg2 HA1 HO1 hb1 hlt2 hb2 HOwn HBel
    go_wp2
    go_roundw
    case rel =>
     have e1 := HN'.out
     have hlk : (l'.drop m).length = n' - m := by simp; omega
     refine ⟨l'.drop m, i' - m, acc ++ [Sha.root (l'.take m)], by rw [HPath.out, HP.out]; simp, ⟨_, _, by rw [hlk]⟩, HBd.out, HF'.out.drop m, by rw [hlk]; omega, by rw [hlk, List.length_append]; have := HLe.out; simp; omega, by go_num, ?_, HB2.out⟩
     have := HO2.out
     rw [← mg] at this
     simpa using this
    case measure => simp [na]; omega
end
section
open Go.RowKit
theorem tL (ls : List (List UInt8)) (i : Nat) : Len32 (Sha.proof ls i) := by
 intro x hx
 unfold Sha.proof at hx
 exact qn _ ls i rfl x (by simpa using hx)
theorem uV (ls : List (List UInt8)) (i : Int) (hi : i < 0 ∨ (ls.length : Int) ≤ i) (hF : ls.length ≤ 1000000) : aj Tryd.prog HG 39 [fi ls, .v (.int .i64 i)] (.tup [.list 32 [] true, .v (.int .i64 1)]) := by
 intro C w vs hG hk ha
 obtain ⟨v, u, rfl, hv, hu⟩ := r5 ha
 rw [bp hu]
 refine (xf v ls i w (pJ hv hk) hi hF).mono ?_
 rintro e w' ⟨rfl, rfl⟩
 exact ⟨_, C, rfl, .refl hk, .tup _ _ (.ocons _ _ _ _ (.nil _ _ _ _ ⟨Nat.le_refl _, fun _ => rfl, by omega, fun _ => rfl, fun _ h => by cases h⟩) (.ocons _ _ _ _ (.v _) .onil))⟩
theorem zD (ls : List (List UInt8)) (i : Nat) (hF : Fit ls) (hi : i < ls.length) : aj Tryd.prog HG 39 [fi ls, .v (.int .i64 i)] (.tup [vv (Sha.proof ls i), .v (.int .i64 0)]) := by
 intro C w vs hG hk ha
 obtain ⟨v, u, rfl, hv, hu⟩ := r5 ha
 rw [bp hu]
 refine (wW v ls i w (qQ hG hk) (pJ hv hk) hF hi).mono ?_
 rintro e w' ⟨v', rfl, ho, hb⟩
 obtain ⟨C', hm, hr⟩ := zn (xs := (Sha.proof ls i).map aI) hk hb (Nat.le_refl _) ho (by
  intro x hx
  obtain ⟨s, hs, rfl⟩ := List.mem_map.1 hx
  simpa [aI] using tL ls i s hs) (by simp) (by rw [vt]; exact rP (wD _))
 exact ⟨_, C', rfl, hm, .tup _ _ (.ocons _ _ _ _ hr (.ocons _ _ _ _ (.v _) .onil))⟩
theorem zx (root b : List UInt8) (n i : Int) (p : List (List UInt8)) (hr : root.length = 32) (hb : b.length ≤ 900000) (h32 : Len32 p) (hpn : p.length ≤ 1000000) (hn : n ≤ 4294967296) :
  aj Tryd.prog HG 46 [da root, .v (.int .i64 n), .v (.int .i64 i), bi b, vv p] (.v (.bool (Sha.check root n i b p))) := by
 intro C w vs hG hk ha
 cases ha with | ocons _ v0 _ vs h0 ha =>
 cases ha with | ocons _ v1 _ vs h1 ha =>
 cases ha with | ocons _ v2 _ vs h2 ha =>
 obtain ⟨v3, v4, rfl, h3, h4⟩ := r5 ha
 rw [zw h0, bp h1, bp h2]
 refine (xj root b n i p v3 v4 w hr hb (qQ hG hk) (sB h3 hk) (zr h4 hk) h32 hpn hn).mono ?_
 rintro e w' ⟨rfl, hb⟩
 exact ⟨_, C, rfl, .of_below hk hb, .v _⟩
end
end Go.Proofs.YtbaccmkhjmmlnaaDoor
