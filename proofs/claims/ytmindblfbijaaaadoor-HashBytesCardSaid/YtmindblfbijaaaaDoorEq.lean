/-
  Laws: hashes compared; guarded loads.
-/
import Derived.Test.YtmindblfbijaaaaDoorRows
import Derived.WalkKit
import Derived.WalkSpells
import Derived.WalkLawsBesides
import Derived.BigQuiet
import Derived.Deep.QuietTactic
import Derived.Deep.RegionHeld3
import Derived.Deep.DeepCutAuto
import Derived.Deep.LoopGhost
import Derived.StillTailTactics
import Derived.Lib.Hide
import Derived.Handy
import Derived.Test.YtmindblfbijaaaaDoorSum
import Derived.Stop.BytesEq
namespace Go.Proofs.YtmindblfbijaaaaDoor
open Go.RowKit
theorem u8s_cell (l : List UInt8) : u8s l = l.map Extern.Stop.cell := rfl
theorem guard_sum : (Tryd.prog).eqGuardType (Tryd.prog).depth 28 = false := by kernel_rfl
theorem eq_sums (l1 l2 : List UInt8) (h1 : l1.length = 32) (h2 : l2.length = 32) (w : World) :
    (Op.equalIn 10000 28 (.agg (u8s l1).toArray) (.agg (u8s l2).toArray)).run Tryd.prog w = .ok (l1 == l2) w :=
  run_equalIn_bytes w 9998 28 5 32 (by kernel_rfl) (by kernel_rfl) (fun _ => by kernel_rfl) l1 l2 h1 h2
theorem wpList_load_cells_w {P : Program} {ops : Array Oper} {rest : List Oper} {o : Oper} {a : Act} {w : World} {Q : Exit → Act → World → Prop} (hw : Region.wanted o (yielded ops a.tmps) = true) (ty : TypeId) (x : Operand) (ho : o.op = .load ty x) (g off : Nat) (hx : a.eval x = .pointer (some ⟨g, off, none⟩))
    (cs : List Value) (hT : AggT P ty cs.length) (hc : ∀ j v, cs[j]? = some v → w.cell? ⟨g, off + j, none⟩ = some v)
    (h : wpList P ops Q rest (a.put o.dst (.agg cs.toArray)) w) : wpList P ops Q (o :: rest) a w :=
  BigFrame.wpList_want hw fun _ hK => wp_load_cells ty x ho g off hx cs hT hc (hK _ _ h)
end Go.Proofs.YtmindblfbijaaaaDoor
