/-
  Lemmas, part 6 of 6: walks through the program's functions, and plain Lean about what they compute.
-/
import Derived.Test.YtagfaaijgfigkaaDoorCards
import Derived.Test.YtagfaaijgfigkaaDoorTie
import Derived.Test.YtagfaaijgfigkaaDoorZ1
import Derived.Test.YtagfaaijgfigkaaDoorZ2
import Derived.Test.YtagfaaijgfigkaaDoorZ3
import Derived.Test.YtagfaaijgfigkaaDoorZ4
import Derived.Test.YtagfaaijgfigkaaDoorZ5
set_option linter.unnecessarySimpa false
set_option linter.unusedSimpArgs false
set_option linter.unusedVariables false
namespace Go.Proofs.YtagfaaijgfigkaaDoor
open Go.RowKit
set_option maxRecDepth 100000
def soundC (c : Clm) : Bool := decide (0 ≤ c.lo ∧ c.lo ≤ c.hi ∧ (c.l.length : Int) = c.hi - c.lo ∧ c.root = Sha.root (c.l.map resBytes))
theorem eq_sum' {s t : List UInt8} {c : Bool} (h1 : s.length = 32) (h2 : t.length = 32) (hc : c = decide (s = t)) : eqAgg Tryd.prog 39 (.d (.agg 32 (rowS s))) (.d (.agg 32 (rowS t))) = some c := by rw [hc]; exact eq_sum h1 h2
theorem sound_D (c : Clm) (hr : c.root.length = 32) (hl : c.l.length ≤ 1000000) (hh : c.hi ≤ 9223372036854775807) : CallsD Tryd.prog HG 26 [clmD c] (.v (.bool (soundC c))) := by
  have hR := workRoot_D c.l hl
  have hRl := Sha.root_len (c.l.map resBytes)
  have hcc : decide (c.root = Sha.root (c.l.map resBytes)) = decide (c.root = Sha.root (c.l.map resBytes)) := rfl
  have hs : soundC c = decide (0 ≤ c.lo ∧ c.lo ≤ c.hi ∧ (c.l.length : Int) = c.hi - c.lo ∧ c.root = Sha.root (c.l.map resBytes)) := rfl
  have htk : List.take 32 (List.map V.d (rowS c.root)) = List.map V.d (rowS c.root) := List.take_of_length_le (by simp [rowS, hr])
  generalize Sha.root (c.l.map resBytes) = R at hR hRl hcc hs
  by_cases h1 : 0 ≤ c.lo
  · by_cases h2 : c.lo ≤ c.hi
    · by_cases h3 : (c.l.length : Int) = c.hi - c.lo
      · rw [hs, show decide _ = decide (c.root = R) by simp [h1, h2, h3]]
        refine CallsD.of Tryd.func26 rfl Tryd.ntmps26 (by simp) ?_; intro F hF h0 hT; simp only [List.zipIdx_cons, List.zipIdx_nil, List.map_cons, List.map_nil, Nat.zero_add, Nat.reduceAdd]
        refine Sm.seq ?_
        refine Sm.regionG hF rfl ?_
        refine SmG.new hF rfl rfl rfl (opS_box rfl rfl (by simp (disch := omega) only [go_sem, Nat.reduceEqDiff, iteP, clmD, Clm.row, ressL, sumD, htk, pureRow_map] <;> rfl)) ?_
        refine SmG.v hF rfl rfl rfl (opV_assign rfl rfl) ?_
        refine SmG.nil ?_
        refine nextS_normal ?_
        refine Sm.seq ?_
        refine Sm.drawG hF (by kernel_rfl) rfl 30 (by kernel_rfl) (by kernel_rfl) ?_
        simp only [List.take_succ_cons, List.take_zero, List.take_nil]
        refine Head.v hF rfl rfl rfl (opV_fieldAddr rfl rfl (by simp (disch := omega) only [go_sem, Nat.reduceEqDiff, iteP, clmD, Clm.row, ressL, sumD, htk, pureRow_map] <;> rfl)) ?_
        refine Head.v hF rfl rfl rfl (opV_load rfl rfl (by simp (disch := omega) only [go_sem, Nat.reduceEqDiff, iteP, clmD, Clm.row, ressL, sumD, htk, pureRow_map] <;> rfl)) ?_
        refine Head.v hF rfl rfl rfl (opV_bin rfl rfl rfl (by first | exact rd_geqT _ _ _ _ _ (by omega) | exact rd_geqF _ _ _ _ _ (by omega) | exact rb_geq _ _ _ _ _ _ _)) ?_
        refine Head.v hF rfl rfl rfl (opV_move rfl rfl) ?_
        first | refine Head.v hF rfl rfl rfl (opV_fieldAddr rfl rfl (by simp (disch := omega) only [go_sem, Nat.reduceEqDiff, iteP, clmD, Clm.row, ressL, sumD, htk, pureRow_map] <;> rfl)) ?_ | refine Head.p hF rfl rfl rfl ?_
        first | refine Head.v hF rfl rfl rfl (opV_load rfl rfl (by simp (disch := omega) only [go_sem, Nat.reduceEqDiff, iteP, clmD, Clm.row, ressL, sumD, htk, pureRow_map] <;> rfl)) ?_ | refine Head.p hF rfl rfl rfl ?_
        first | refine Head.v hF rfl rfl rfl (opV_fieldAddr rfl rfl (by simp (disch := omega) only [go_sem, Nat.reduceEqDiff, iteP, clmD, Clm.row, ressL, sumD, htk, pureRow_map] <;> rfl)) ?_ | refine Head.p hF rfl rfl rfl ?_
        first | refine Head.v hF rfl rfl rfl (opV_load rfl rfl (by simp (disch := omega) only [go_sem, Nat.reduceEqDiff, iteP, clmD, Clm.row, ressL, sumD, htk, pureRow_map] <;> rfl)) ?_ | refine Head.p hF rfl rfl rfl ?_
        first | refine Head.v hF rfl rfl rfl (opV_bin rfl rfl rfl (by first | exact rd_geqT _ _ _ _ _ (by omega) | exact rd_geqF _ _ _ _ _ (by omega) | exact rb_geq _ _ _ _ _ _ _)) ?_ | refine Head.p hF rfl rfl rfl ?_
        first | refine Head.v hF rfl rfl rfl (opV_pickT rfl rfl rfl) ?_ | refine Head.v hF rfl rfl rfl (opV_pickF rfl rfl rfl) ?_
        refine Head.v hF rfl rfl rfl (opV_move rfl rfl) ?_
        first | refine Head.v hF rfl rfl rfl (opV_fieldAddr rfl rfl (by simp (disch := omega) only [go_sem, Nat.reduceEqDiff, iteP, clmD, Clm.row, ressL, sumD, htk, pureRow_map] <;> rfl)) ?_ | refine Head.p hF rfl rfl rfl ?_
        first | refine Head.v hF rfl rfl rfl (opV_load rfl rfl (by simp (disch := omega) only [go_sem, Nat.reduceEqDiff, iteP, clmD, Clm.row, ressL, sumD, htk, pureRow_map] <;> rfl)) ?_ | refine Head.p hF rfl rfl rfl ?_
        first | refine Head.v hF rfl rfl rfl (opV_len rfl rfl (by simp (disch := omega) only [go_sem, Nat.reduceEqDiff, iteP, clmD, Clm.row, ressL, sumD, htk, pureRow_map] <;> rfl)) ?_ | refine Head.p hF rfl rfl rfl ?_
        first | refine Head.v hF rfl rfl rfl (opV_fieldAddr rfl rfl (by simp (disch := omega) only [go_sem, Nat.reduceEqDiff, iteP, clmD, Clm.row, ressL, sumD, htk, pureRow_map] <;> rfl)) ?_ | refine Head.p hF rfl rfl rfl ?_
        first | refine Head.v hF rfl rfl rfl (opV_load rfl rfl (by simp (disch := omega) only [go_sem, Nat.reduceEqDiff, iteP, clmD, Clm.row, ressL, sumD, htk, pureRow_map] <;> rfl)) ?_ | refine Head.p hF rfl rfl rfl ?_
        first | refine Head.v hF rfl rfl rfl (opV_fieldAddr rfl rfl (by simp (disch := omega) only [go_sem, Nat.reduceEqDiff, iteP, clmD, Clm.row, ressL, sumD, htk, pureRow_map] <;> rfl)) ?_ | refine Head.p hF rfl rfl rfl ?_
        first | refine Head.v hF rfl rfl rfl (opV_load rfl rfl (by simp (disch := omega) only [go_sem, Nat.reduceEqDiff, iteP, clmD, Clm.row, ressL, sumD, htk, pureRow_map] <;> rfl)) ?_ | refine Head.p hF rfl rfl rfl ?_
        first | refine Head.v hF rfl rfl rfl (opV_bin rfl rfl rfl (by first | exact rd_sub _ _ _ _ _ (wrapI64 _ (by omega)) | exact rb_sub _ _ _ _ _ _ _)) ?_ | refine Head.p hF rfl rfl rfl ?_
        first | refine Head.v hF rfl rfl rfl (opV_bin rfl rfl rfl (by first | exact rd_eqlT _ _ _ _ _ (by omega) | exact rd_eqlF _ _ _ _ _ (by omega) | exact rb_eql _ _ _ _ _ _ _)) ?_ | refine Head.p hF rfl rfl rfl ?_
        first | refine Head.v hF rfl rfl rfl (opV_pickT rfl rfl rfl) ?_ | refine Head.v hF rfl rfl rfl (opV_pickF rfl rfl rfl) ?_
        refine Head.v hF rfl rfl rfl (opV_move rfl rfl) ?_
        first | refine Head.v hF rfl rfl rfl (opV_fieldAddr rfl rfl (by simp (disch := omega) only [go_sem, Nat.reduceEqDiff, iteP, clmD, Clm.row, ressL, sumD, htk, pureRow_map] <;> rfl)) ?_ | refine Head.p hF rfl rfl rfl ?_
        first | refine Head.v hF rfl rfl rfl (opV_load rfl rfl (by simp (disch := omega) only [go_sem, Nat.reduceEqDiff, iteP, clmD, Clm.row, ressL, sumD, htk, pureRow_map] <;> rfl)) ?_ | refine Head.p hF rfl rfl rfl ?_
        first | refine Head.v hF rfl rfl rfl (opV_fieldAddr rfl rfl (by simp (disch := omega) only [go_sem, Nat.reduceEqDiff, iteP, clmD, Clm.row, ressL, sumD, htk, pureRow_map] <;> rfl)) ?_ | refine Head.p hF rfl rfl rfl ?_
        first | refine Head.v hF rfl rfl rfl (opV_load rfl rfl (by simp (disch := omega) only [go_sem, Nat.reduceEqDiff, iteP, clmD, Clm.row, ressL, sumD, htk, pureRow_map] <;> rfl)) ?_ | refine Head.p hF rfl rfl rfl ?_
        first | refine Head.c hF rfl rfl (by kernel_rfl) rfl rfl rfl (hR) ?_ | refine Head.p hF rfl rfl rfl ?_
        first | refine Head.v hF rfl rfl rfl (opV_eqA rfl rfl rfl (eq_sum' hr hRl hcc)) ?_ | refine Head.p hF rfl rfl rfl ?_
        first | refine Head.v hF rfl rfl rfl (opV_pickT rfl rfl rfl) ?_ | refine Head.v hF rfl rfl rfl (opV_pickF rfl rfl rfl) ?_
        refine Head.v hF rfl rfl rfl (opV_assign rfl rfl) ?_
        refine Head.last ⟨rfl, ?_⟩
        simp only [List.drop_succ_cons, List.drop_zero, List.drop_nil, List.nil_append, List.cons_append]
        refine SmG.nil ?_
        refine nextS_normal ?_
        refine Sm.ret ?_
        refine ⟨_, rfl, ?_⟩; exact D.le.refl _
      · rw [hs, decide_eq_false (by omega)]
        refine CallsD.of Tryd.func26 rfl Tryd.ntmps26 (by simp) ?_; intro F hF h0 hT; simp only [List.zipIdx_cons, List.zipIdx_nil, List.map_cons, List.map_nil, Nat.zero_add, Nat.reduceAdd]
        refine Sm.seq ?_
        refine Sm.regionG hF rfl ?_
        refine SmG.new hF rfl rfl rfl (opS_box rfl rfl (by simp (disch := omega) only [go_sem, Nat.reduceEqDiff, iteP, clmD, Clm.row, ressL, sumD, htk, pureRow_map] <;> rfl)) ?_
        refine SmG.v hF rfl rfl rfl (opV_assign rfl rfl) ?_
        refine SmG.nil ?_
        refine nextS_normal ?_
        refine Sm.seq ?_
        refine Sm.drawG hF (by kernel_rfl) rfl 30 (by kernel_rfl) (by kernel_rfl) ?_
        simp only [List.take_succ_cons, List.take_zero, List.take_nil]
        refine Head.v hF rfl rfl rfl (opV_fieldAddr rfl rfl (by simp (disch := omega) only [go_sem, Nat.reduceEqDiff, iteP, clmD, Clm.row, ressL, sumD, htk, pureRow_map] <;> rfl)) ?_
        refine Head.v hF rfl rfl rfl (opV_load rfl rfl (by simp (disch := omega) only [go_sem, Nat.reduceEqDiff, iteP, clmD, Clm.row, ressL, sumD, htk, pureRow_map] <;> rfl)) ?_
        refine Head.v hF rfl rfl rfl (opV_bin rfl rfl rfl (by first | exact rd_geqT _ _ _ _ _ (by omega) | exact rd_geqF _ _ _ _ _ (by omega) | exact rb_geq _ _ _ _ _ _ _)) ?_
        refine Head.v hF rfl rfl rfl (opV_move rfl rfl) ?_
        first | refine Head.v hF rfl rfl rfl (opV_fieldAddr rfl rfl (by simp (disch := omega) only [go_sem, Nat.reduceEqDiff, iteP, clmD, Clm.row, ressL, sumD, htk, pureRow_map] <;> rfl)) ?_ | refine Head.p hF rfl rfl rfl ?_
        first | refine Head.v hF rfl rfl rfl (opV_load rfl rfl (by simp (disch := omega) only [go_sem, Nat.reduceEqDiff, iteP, clmD, Clm.row, ressL, sumD, htk, pureRow_map] <;> rfl)) ?_ | refine Head.p hF rfl rfl rfl ?_
        first | refine Head.v hF rfl rfl rfl (opV_fieldAddr rfl rfl (by simp (disch := omega) only [go_sem, Nat.reduceEqDiff, iteP, clmD, Clm.row, ressL, sumD, htk, pureRow_map] <;> rfl)) ?_ | refine Head.p hF rfl rfl rfl ?_
        first | refine Head.v hF rfl rfl rfl (opV_load rfl rfl (by simp (disch := omega) only [go_sem, Nat.reduceEqDiff, iteP, clmD, Clm.row, ressL, sumD, htk, pureRow_map] <;> rfl)) ?_ | refine Head.p hF rfl rfl rfl ?_
        first | refine Head.v hF rfl rfl rfl (opV_bin rfl rfl rfl (by first | exact rd_geqT _ _ _ _ _ (by omega) | exact rd_geqF _ _ _ _ _ (by omega) | exact rb_geq _ _ _ _ _ _ _)) ?_ | refine Head.p hF rfl rfl rfl ?_
        first | refine Head.v hF rfl rfl rfl (opV_pickT rfl rfl rfl) ?_ | refine Head.v hF rfl rfl rfl (opV_pickF rfl rfl rfl) ?_
        refine Head.v hF rfl rfl rfl (opV_move rfl rfl) ?_
        first | refine Head.v hF rfl rfl rfl (opV_fieldAddr rfl rfl (by simp (disch := omega) only [go_sem, Nat.reduceEqDiff, iteP, clmD, Clm.row, ressL, sumD, htk, pureRow_map] <;> rfl)) ?_ | refine Head.p hF rfl rfl rfl ?_
        first | refine Head.v hF rfl rfl rfl (opV_load rfl rfl (by simp (disch := omega) only [go_sem, Nat.reduceEqDiff, iteP, clmD, Clm.row, ressL, sumD, htk, pureRow_map] <;> rfl)) ?_ | refine Head.p hF rfl rfl rfl ?_
        first | refine Head.v hF rfl rfl rfl (opV_len rfl rfl (by simp (disch := omega) only [go_sem, Nat.reduceEqDiff, iteP, clmD, Clm.row, ressL, sumD, htk, pureRow_map] <;> rfl)) ?_ | refine Head.p hF rfl rfl rfl ?_
        first | refine Head.v hF rfl rfl rfl (opV_fieldAddr rfl rfl (by simp (disch := omega) only [go_sem, Nat.reduceEqDiff, iteP, clmD, Clm.row, ressL, sumD, htk, pureRow_map] <;> rfl)) ?_ | refine Head.p hF rfl rfl rfl ?_
        first | refine Head.v hF rfl rfl rfl (opV_load rfl rfl (by simp (disch := omega) only [go_sem, Nat.reduceEqDiff, iteP, clmD, Clm.row, ressL, sumD, htk, pureRow_map] <;> rfl)) ?_ | refine Head.p hF rfl rfl rfl ?_
        first | refine Head.v hF rfl rfl rfl (opV_fieldAddr rfl rfl (by simp (disch := omega) only [go_sem, Nat.reduceEqDiff, iteP, clmD, Clm.row, ressL, sumD, htk, pureRow_map] <;> rfl)) ?_ | refine Head.p hF rfl rfl rfl ?_
        first | refine Head.v hF rfl rfl rfl (opV_load rfl rfl (by simp (disch := omega) only [go_sem, Nat.reduceEqDiff, iteP, clmD, Clm.row, ressL, sumD, htk, pureRow_map] <;> rfl)) ?_ | refine Head.p hF rfl rfl rfl ?_
        first | refine Head.v hF rfl rfl rfl (opV_bin rfl rfl rfl (by first | exact rd_sub _ _ _ _ _ (wrapI64 _ (by omega)) | exact rb_sub _ _ _ _ _ _ _)) ?_ | refine Head.p hF rfl rfl rfl ?_
        first | refine Head.v hF rfl rfl rfl (opV_bin rfl rfl rfl (by first | exact rd_eqlT _ _ _ _ _ (by omega) | exact rd_eqlF _ _ _ _ _ (by omega) | exact rb_eql _ _ _ _ _ _ _)) ?_ | refine Head.p hF rfl rfl rfl ?_
        first | refine Head.v hF rfl rfl rfl (opV_pickT rfl rfl rfl) ?_ | refine Head.v hF rfl rfl rfl (opV_pickF rfl rfl rfl) ?_
        refine Head.v hF rfl rfl rfl (opV_move rfl rfl) ?_
        first | refine Head.v hF rfl rfl rfl (opV_fieldAddr rfl rfl (by simp (disch := omega) only [go_sem, Nat.reduceEqDiff, iteP, clmD, Clm.row, ressL, sumD, htk, pureRow_map] <;> rfl)) ?_ | refine Head.p hF rfl rfl rfl ?_
        first | refine Head.v hF rfl rfl rfl (opV_load rfl rfl (by simp (disch := omega) only [go_sem, Nat.reduceEqDiff, iteP, clmD, Clm.row, ressL, sumD, htk, pureRow_map] <;> rfl)) ?_ | refine Head.p hF rfl rfl rfl ?_
        first | refine Head.v hF rfl rfl rfl (opV_fieldAddr rfl rfl (by simp (disch := omega) only [go_sem, Nat.reduceEqDiff, iteP, clmD, Clm.row, ressL, sumD, htk, pureRow_map] <;> rfl)) ?_ | refine Head.p hF rfl rfl rfl ?_
        first | refine Head.v hF rfl rfl rfl (opV_load rfl rfl (by simp (disch := omega) only [go_sem, Nat.reduceEqDiff, iteP, clmD, Clm.row, ressL, sumD, htk, pureRow_map] <;> rfl)) ?_ | refine Head.p hF rfl rfl rfl ?_
        first | refine Head.c hF rfl rfl (by kernel_rfl) rfl rfl rfl (hR) ?_ | refine Head.p hF rfl rfl rfl ?_
        first | refine Head.v hF rfl rfl rfl (opV_eqA rfl rfl rfl (eq_sum' hr hRl hcc)) ?_ | refine Head.p hF rfl rfl rfl ?_
        first | refine Head.v hF rfl rfl rfl (opV_pickT rfl rfl rfl) ?_ | refine Head.v hF rfl rfl rfl (opV_pickF rfl rfl rfl) ?_
        refine Head.v hF rfl rfl rfl (opV_assign rfl rfl) ?_
        refine Head.last ⟨rfl, ?_⟩
        simp only [List.drop_succ_cons, List.drop_zero, List.drop_nil, List.nil_append, List.cons_append]
        refine SmG.nil ?_
        refine nextS_normal ?_
        refine Sm.ret ?_
        refine ⟨_, rfl, ?_⟩; exact D.le.refl _
    · rw [hs, decide_eq_false (by omega)]
      refine CallsD.of Tryd.func26 rfl Tryd.ntmps26 (by simp) ?_; intro F hF h0 hT; simp only [List.zipIdx_cons, List.zipIdx_nil, List.map_cons, List.map_nil, Nat.zero_add, Nat.reduceAdd]
      refine Sm.seq ?_
      refine Sm.regionG hF rfl ?_
      refine SmG.new hF rfl rfl rfl (opS_box rfl rfl (by simp (disch := omega) only [go_sem, Nat.reduceEqDiff, iteP, clmD, Clm.row, ressL, sumD, htk, pureRow_map] <;> rfl)) ?_
      refine SmG.v hF rfl rfl rfl (opV_assign rfl rfl) ?_
      refine SmG.nil ?_
      refine nextS_normal ?_
      refine Sm.seq ?_
      refine Sm.drawG hF (by kernel_rfl) rfl 30 (by kernel_rfl) (by kernel_rfl) ?_
      simp only [List.take_succ_cons, List.take_zero, List.take_nil]
      refine Head.v hF rfl rfl rfl (opV_fieldAddr rfl rfl (by simp (disch := omega) only [go_sem, Nat.reduceEqDiff, iteP, clmD, Clm.row, ressL, sumD, htk, pureRow_map] <;> rfl)) ?_
      refine Head.v hF rfl rfl rfl (opV_load rfl rfl (by simp (disch := omega) only [go_sem, Nat.reduceEqDiff, iteP, clmD, Clm.row, ressL, sumD, htk, pureRow_map] <;> rfl)) ?_
      refine Head.v hF rfl rfl rfl (opV_bin rfl rfl rfl (by first | exact rd_geqT _ _ _ _ _ (by omega) | exact rd_geqF _ _ _ _ _ (by omega) | exact rb_geq _ _ _ _ _ _ _)) ?_
      refine Head.v hF rfl rfl rfl (opV_move rfl rfl) ?_
      first | refine Head.v hF rfl rfl rfl (opV_fieldAddr rfl rfl (by simp (disch := omega) only [go_sem, Nat.reduceEqDiff, iteP, clmD, Clm.row, ressL, sumD, htk, pureRow_map] <;> rfl)) ?_ | refine Head.p hF rfl rfl rfl ?_
      first | refine Head.v hF rfl rfl rfl (opV_load rfl rfl (by simp (disch := omega) only [go_sem, Nat.reduceEqDiff, iteP, clmD, Clm.row, ressL, sumD, htk, pureRow_map] <;> rfl)) ?_ | refine Head.p hF rfl rfl rfl ?_
      first | refine Head.v hF rfl rfl rfl (opV_fieldAddr rfl rfl (by simp (disch := omega) only [go_sem, Nat.reduceEqDiff, iteP, clmD, Clm.row, ressL, sumD, htk, pureRow_map] <;> rfl)) ?_ | refine Head.p hF rfl rfl rfl ?_
      first | refine Head.v hF rfl rfl rfl (opV_load rfl rfl (by simp (disch := omega) only [go_sem, Nat.reduceEqDiff, iteP, clmD, Clm.row, ressL, sumD, htk, pureRow_map] <;> rfl)) ?_ | refine Head.p hF rfl rfl rfl ?_
      first | refine Head.v hF rfl rfl rfl (opV_bin rfl rfl rfl (by first | exact rd_geqT _ _ _ _ _ (by omega) | exact rd_geqF _ _ _ _ _ (by omega) | exact rb_geq _ _ _ _ _ _ _)) ?_ | refine Head.p hF rfl rfl rfl ?_
      first | refine Head.v hF rfl rfl rfl (opV_pickT rfl rfl rfl) ?_ | refine Head.v hF rfl rfl rfl (opV_pickF rfl rfl rfl) ?_
      refine Head.v hF rfl rfl rfl (opV_move rfl rfl) ?_
      first | refine Head.v hF rfl rfl rfl (opV_fieldAddr rfl rfl (by simp (disch := omega) only [go_sem, Nat.reduceEqDiff, iteP, clmD, Clm.row, ressL, sumD, htk, pureRow_map] <;> rfl)) ?_ | refine Head.p hF rfl rfl rfl ?_
      first | refine Head.v hF rfl rfl rfl (opV_load rfl rfl (by simp (disch := omega) only [go_sem, Nat.reduceEqDiff, iteP, clmD, Clm.row, ressL, sumD, htk, pureRow_map] <;> rfl)) ?_ | refine Head.p hF rfl rfl rfl ?_
      first | refine Head.v hF rfl rfl rfl (opV_len rfl rfl (by simp (disch := omega) only [go_sem, Nat.reduceEqDiff, iteP, clmD, Clm.row, ressL, sumD, htk, pureRow_map] <;> rfl)) ?_ | refine Head.p hF rfl rfl rfl ?_
      first | refine Head.v hF rfl rfl rfl (opV_fieldAddr rfl rfl (by simp (disch := omega) only [go_sem, Nat.reduceEqDiff, iteP, clmD, Clm.row, ressL, sumD, htk, pureRow_map] <;> rfl)) ?_ | refine Head.p hF rfl rfl rfl ?_
      first | refine Head.v hF rfl rfl rfl (opV_load rfl rfl (by simp (disch := omega) only [go_sem, Nat.reduceEqDiff, iteP, clmD, Clm.row, ressL, sumD, htk, pureRow_map] <;> rfl)) ?_ | refine Head.p hF rfl rfl rfl ?_
      first | refine Head.v hF rfl rfl rfl (opV_fieldAddr rfl rfl (by simp (disch := omega) only [go_sem, Nat.reduceEqDiff, iteP, clmD, Clm.row, ressL, sumD, htk, pureRow_map] <;> rfl)) ?_ | refine Head.p hF rfl rfl rfl ?_
      first | refine Head.v hF rfl rfl rfl (opV_load rfl rfl (by simp (disch := omega) only [go_sem, Nat.reduceEqDiff, iteP, clmD, Clm.row, ressL, sumD, htk, pureRow_map] <;> rfl)) ?_ | refine Head.p hF rfl rfl rfl ?_
      first | refine Head.v hF rfl rfl rfl (opV_bin rfl rfl rfl (by first | exact rd_sub _ _ _ _ _ (wrapI64 _ (by omega)) | exact rb_sub _ _ _ _ _ _ _)) ?_ | refine Head.p hF rfl rfl rfl ?_
      first | refine Head.v hF rfl rfl rfl (opV_bin rfl rfl rfl (by first | exact rd_eqlT _ _ _ _ _ (by omega) | exact rd_eqlF _ _ _ _ _ (by omega) | exact rb_eql _ _ _ _ _ _ _)) ?_ | refine Head.p hF rfl rfl rfl ?_
      first | refine Head.v hF rfl rfl rfl (opV_pickT rfl rfl rfl) ?_ | refine Head.v hF rfl rfl rfl (opV_pickF rfl rfl rfl) ?_
      refine Head.v hF rfl rfl rfl (opV_move rfl rfl) ?_
      first | refine Head.v hF rfl rfl rfl (opV_fieldAddr rfl rfl (by simp (disch := omega) only [go_sem, Nat.reduceEqDiff, iteP, clmD, Clm.row, ressL, sumD, htk, pureRow_map] <;> rfl)) ?_ | refine Head.p hF rfl rfl rfl ?_
      first | refine Head.v hF rfl rfl rfl (opV_load rfl rfl (by simp (disch := omega) only [go_sem, Nat.reduceEqDiff, iteP, clmD, Clm.row, ressL, sumD, htk, pureRow_map] <;> rfl)) ?_ | refine Head.p hF rfl rfl rfl ?_
      first | refine Head.v hF rfl rfl rfl (opV_fieldAddr rfl rfl (by simp (disch := omega) only [go_sem, Nat.reduceEqDiff, iteP, clmD, Clm.row, ressL, sumD, htk, pureRow_map] <;> rfl)) ?_ | refine Head.p hF rfl rfl rfl ?_
      first | refine Head.v hF rfl rfl rfl (opV_load rfl rfl (by simp (disch := omega) only [go_sem, Nat.reduceEqDiff, iteP, clmD, Clm.row, ressL, sumD, htk, pureRow_map] <;> rfl)) ?_ | refine Head.p hF rfl rfl rfl ?_
      first | refine Head.c hF rfl rfl (by kernel_rfl) rfl rfl rfl (hR) ?_ | refine Head.p hF rfl rfl rfl ?_
      first | refine Head.v hF rfl rfl rfl (opV_eqA rfl rfl rfl (eq_sum' hr hRl hcc)) ?_ | refine Head.p hF rfl rfl rfl ?_
      first | refine Head.v hF rfl rfl rfl (opV_pickT rfl rfl rfl) ?_ | refine Head.v hF rfl rfl rfl (opV_pickF rfl rfl rfl) ?_
      refine Head.v hF rfl rfl rfl (opV_assign rfl rfl) ?_
      refine Head.last ⟨rfl, ?_⟩
      simp only [List.drop_succ_cons, List.drop_zero, List.drop_nil, List.nil_append, List.cons_append]
      refine SmG.nil ?_
      refine nextS_normal ?_
      refine Sm.ret ?_
      refine ⟨_, rfl, ?_⟩; exact D.le.refl _
  · rw [hs, decide_eq_false (by omega)]
    refine CallsD.of Tryd.func26 rfl Tryd.ntmps26 (by simp) ?_; intro F hF h0 hT; simp only [List.zipIdx_cons, List.zipIdx_nil, List.map_cons, List.map_nil, Nat.zero_add, Nat.reduceAdd]
    refine Sm.seq ?_
    refine Sm.regionG hF rfl ?_
    refine SmG.new hF rfl rfl rfl (opS_box rfl rfl (by simp (disch := omega) only [go_sem, Nat.reduceEqDiff, iteP, clmD, Clm.row, ressL, sumD, htk, pureRow_map] <;> rfl)) ?_
    refine SmG.v hF rfl rfl rfl (opV_assign rfl rfl) ?_
    refine SmG.nil ?_
    refine nextS_normal ?_
    refine Sm.seq ?_
    refine Sm.drawG hF (by kernel_rfl) rfl 30 (by kernel_rfl) (by kernel_rfl) ?_
    simp only [List.take_succ_cons, List.take_zero, List.take_nil]
    refine Head.v hF rfl rfl rfl (opV_fieldAddr rfl rfl (by simp (disch := omega) only [go_sem, Nat.reduceEqDiff, iteP, clmD, Clm.row, ressL, sumD, htk, pureRow_map] <;> rfl)) ?_
    refine Head.v hF rfl rfl rfl (opV_load rfl rfl (by simp (disch := omega) only [go_sem, Nat.reduceEqDiff, iteP, clmD, Clm.row, ressL, sumD, htk, pureRow_map] <;> rfl)) ?_
    refine Head.v hF rfl rfl rfl (opV_bin rfl rfl rfl (by first | exact rd_geqT _ _ _ _ _ (by omega) | exact rd_geqF _ _ _ _ _ (by omega) | exact rb_geq _ _ _ _ _ _ _)) ?_
    refine Head.v hF rfl rfl rfl (opV_move rfl rfl) ?_
    first | refine Head.v hF rfl rfl rfl (opV_fieldAddr rfl rfl (by simp (disch := omega) only [go_sem, Nat.reduceEqDiff, iteP, clmD, Clm.row, ressL, sumD, htk, pureRow_map] <;> rfl)) ?_ | refine Head.p hF rfl rfl rfl ?_
    first | refine Head.v hF rfl rfl rfl (opV_load rfl rfl (by simp (disch := omega) only [go_sem, Nat.reduceEqDiff, iteP, clmD, Clm.row, ressL, sumD, htk, pureRow_map] <;> rfl)) ?_ | refine Head.p hF rfl rfl rfl ?_
    first | refine Head.v hF rfl rfl rfl (opV_fieldAddr rfl rfl (by simp (disch := omega) only [go_sem, Nat.reduceEqDiff, iteP, clmD, Clm.row, ressL, sumD, htk, pureRow_map] <;> rfl)) ?_ | refine Head.p hF rfl rfl rfl ?_
    first | refine Head.v hF rfl rfl rfl (opV_load rfl rfl (by simp (disch := omega) only [go_sem, Nat.reduceEqDiff, iteP, clmD, Clm.row, ressL, sumD, htk, pureRow_map] <;> rfl)) ?_ | refine Head.p hF rfl rfl rfl ?_
    first | refine Head.v hF rfl rfl rfl (opV_bin rfl rfl rfl (by first | exact rd_geqT _ _ _ _ _ (by omega) | exact rd_geqF _ _ _ _ _ (by omega) | exact rb_geq _ _ _ _ _ _ _)) ?_ | refine Head.p hF rfl rfl rfl ?_
    first | refine Head.v hF rfl rfl rfl (opV_pickT rfl rfl rfl) ?_ | refine Head.v hF rfl rfl rfl (opV_pickF rfl rfl rfl) ?_
    refine Head.v hF rfl rfl rfl (opV_move rfl rfl) ?_
    first | refine Head.v hF rfl rfl rfl (opV_fieldAddr rfl rfl (by simp (disch := omega) only [go_sem, Nat.reduceEqDiff, iteP, clmD, Clm.row, ressL, sumD, htk, pureRow_map] <;> rfl)) ?_ | refine Head.p hF rfl rfl rfl ?_
    first | refine Head.v hF rfl rfl rfl (opV_load rfl rfl (by simp (disch := omega) only [go_sem, Nat.reduceEqDiff, iteP, clmD, Clm.row, ressL, sumD, htk, pureRow_map] <;> rfl)) ?_ | refine Head.p hF rfl rfl rfl ?_
    first | refine Head.v hF rfl rfl rfl (opV_len rfl rfl (by simp (disch := omega) only [go_sem, Nat.reduceEqDiff, iteP, clmD, Clm.row, ressL, sumD, htk, pureRow_map] <;> rfl)) ?_ | refine Head.p hF rfl rfl rfl ?_
    first | refine Head.v hF rfl rfl rfl (opV_fieldAddr rfl rfl (by simp (disch := omega) only [go_sem, Nat.reduceEqDiff, iteP, clmD, Clm.row, ressL, sumD, htk, pureRow_map] <;> rfl)) ?_ | refine Head.p hF rfl rfl rfl ?_
    first | refine Head.v hF rfl rfl rfl (opV_load rfl rfl (by simp (disch := omega) only [go_sem, Nat.reduceEqDiff, iteP, clmD, Clm.row, ressL, sumD, htk, pureRow_map] <;> rfl)) ?_ | refine Head.p hF rfl rfl rfl ?_
    first | refine Head.v hF rfl rfl rfl (opV_fieldAddr rfl rfl (by simp (disch := omega) only [go_sem, Nat.reduceEqDiff, iteP, clmD, Clm.row, ressL, sumD, htk, pureRow_map] <;> rfl)) ?_ | refine Head.p hF rfl rfl rfl ?_
    first | refine Head.v hF rfl rfl rfl (opV_load rfl rfl (by simp (disch := omega) only [go_sem, Nat.reduceEqDiff, iteP, clmD, Clm.row, ressL, sumD, htk, pureRow_map] <;> rfl)) ?_ | refine Head.p hF rfl rfl rfl ?_
    first | refine Head.v hF rfl rfl rfl (opV_bin rfl rfl rfl (by first | exact rd_sub _ _ _ _ _ (wrapI64 _ (by omega)) | exact rb_sub _ _ _ _ _ _ _)) ?_ | refine Head.p hF rfl rfl rfl ?_
    first | refine Head.v hF rfl rfl rfl (opV_bin rfl rfl rfl (by first | exact rd_eqlT _ _ _ _ _ (by omega) | exact rd_eqlF _ _ _ _ _ (by omega) | exact rb_eql _ _ _ _ _ _ _)) ?_ | refine Head.p hF rfl rfl rfl ?_
    first | refine Head.v hF rfl rfl rfl (opV_pickT rfl rfl rfl) ?_ | refine Head.v hF rfl rfl rfl (opV_pickF rfl rfl rfl) ?_
    refine Head.v hF rfl rfl rfl (opV_move rfl rfl) ?_
    first | refine Head.v hF rfl rfl rfl (opV_fieldAddr rfl rfl (by simp (disch := omega) only [go_sem, Nat.reduceEqDiff, iteP, clmD, Clm.row, ressL, sumD, htk, pureRow_map] <;> rfl)) ?_ | refine Head.p hF rfl rfl rfl ?_
    first | refine Head.v hF rfl rfl rfl (opV_load rfl rfl (by simp (disch := omega) only [go_sem, Nat.reduceEqDiff, iteP, clmD, Clm.row, ressL, sumD, htk, pureRow_map] <;> rfl)) ?_ | refine Head.p hF rfl rfl rfl ?_
    first | refine Head.v hF rfl rfl rfl (opV_fieldAddr rfl rfl (by simp (disch := omega) only [go_sem, Nat.reduceEqDiff, iteP, clmD, Clm.row, ressL, sumD, htk, pureRow_map] <;> rfl)) ?_ | refine Head.p hF rfl rfl rfl ?_
    first | refine Head.v hF rfl rfl rfl (opV_load rfl rfl (by simp (disch := omega) only [go_sem, Nat.reduceEqDiff, iteP, clmD, Clm.row, ressL, sumD, htk, pureRow_map] <;> rfl)) ?_ | refine Head.p hF rfl rfl rfl ?_
    first | refine Head.c hF rfl rfl (by kernel_rfl) rfl rfl rfl (hR) ?_ | refine Head.p hF rfl rfl rfl ?_
    first | refine Head.v hF rfl rfl rfl (opV_eqA rfl rfl rfl (eq_sum' hr hRl hcc)) ?_ | refine Head.p hF rfl rfl rfl ?_
    first | refine Head.v hF rfl rfl rfl (opV_pickT rfl rfl rfl) ?_ | refine Head.v hF rfl rfl rfl (opV_pickF rfl rfl rfl) ?_
    refine Head.v hF rfl rfl rfl (opV_assign rfl rfl) ?_
    refine Head.last ⟨rfl, ?_⟩
    simp only [List.drop_succ_cons, List.drop_zero, List.drop_nil, List.nil_append, List.cons_append]
    refine SmG.nil ?_
    refine nextS_normal ?_
    refine Sm.ret ?_
    refine ⟨_, rfl, ?_⟩; exact D.le.refl _
end Go.Proofs.YtagfaaijgfigkaaDoor
namespace Go.Proofs.YtagfaaijgfigkaaDoor
open Go.RowKit
set_option maxRecDepth 100000
def partD4 (who t a b : Int) : D := .agg 4 [.v (.int .i64 who), .v (.int .i64 t), .v (.int .i64 a), .v (.int .i64 b)]
def saidD (c : Clm × Bool) : D := .agg 37 (c.1.row ++ [.v (.bool c.2)])
end Go.Proofs.YtagfaaijgfigkaaDoor
namespace Go.Proofs.YtagfaaijgfigkaaDoor
open Go.RowKit
section
variable {P : Program} {G : Nat → Option D} {N : Nat} {F : Fr} {ops rest : List Oper} {o : Oper} {Q : Exit → St → Prop} {env : List (Nat × V)} {h : List (Nat × Blk)} {nx : Nat}
theorem SmG.yield (hF : Env F P G N) {l i s : Nat} {t : Tmp} {xs : List (List D)} {O0 : Nat → Prop} {J : Jt} {x : List D} (hI : ItFr F P l xs O0 J) {y : Operand} {ys : List Operand} {ts : Array TypeId} (ho : o.op = .call ⟨.value y, ys.toArray, ts⟩) (hd : o.dst = some t) (ht : Nat.blt t N = true)
    (hg : guardB ops env o.guard = some true) (hgh : lookB env s = some (.gh (i + 1))) (hi : xs[i]? = some x) (hy : evB G env y = some (.d (.v (.func (.yield l) #[] #[])))) (hargs : evArgs (evB G env) ys = some x) (hfree : freeH 0 h)
    (k : ∀ c : Bool, SmG F N ops rest Q ⟨(t, .d (.v (.bool c))) :: (s, .gh (if c then i + 2 else 0)) :: killV 0 env, h, nx⟩) : SmG F N ops (o :: rest) Q ⟨env, h, nx⟩ := by
  have ht' : t < N := by simpa [Nat.blt_eq] using ht
  intro hsm
  rw [evB_eq] at hy
  rw [lookB_eq] at hgh
  refine SmL.yield (st := ⟨env, h, nx⟩) hF hsm hI hgh hi (guardB_ok hg) ho hd ht' hy (evArgs_B (by simpa using hargs)) (fun _ _ h => h) hfree fun c => k c ?_
  intro t' y hy
  simp only [look] at hy
  split at hy
  · rename_i e; subst e; exact ht'
  · split at hy
    · rename_i e; subst e; exact hsm s _ hgh
    · rw [look_kill] at hy
      cases hq : look env t' with
      | none => rw [hq] at hy; cases hy
      | some z => exact hsm t' z hq
end
end Go.Proofs.YtagfaaijgfigkaaDoor
namespace Go.Proofs.YtagfaaijgfigkaaDoor
open Go.RowKit
set_option maxRecDepth 100000
def wksL (l : List Wk) : D := .list 5 (l.map Wk.row) false
def clmsL (l : List Clm) : D := .list 36 (l.map Clm.row) false
def sayAt (ws : List Wk) (v : List Res) (t : Int) (ps : List (Int × Int)) (i : Nat) : Clm × Bool :=
  match ws[i]?, ps[i % ps.length]? with
  | some w, some p => claimW w i t v p.1 p.2
  | _, _ => (noClm, false)
def roundN (ws : List Wk) (v : List Res) (t : Int) (ps : List (Int × Int)) : Nat → List Clm
  | 0 => []
  | n + 1 => roundN ws v t ps n ++ if (sayAt ws v t ps n).2 then [(sayAt ws v t ps n).1] else []
def claimsF (ws : List Wk) (v : List Res) (ps : List (Int × Int)) (t : Int) : D := .fn 37 [.ptr 1 [wksL ws], .ptr 1 [partsD ps], .ptr 1 [.v (.int .i64 t)], .ptr 1 [ressL v]]
theorem claims_D (ws : List Wk) (v : List Res) (ps : List (Int × Int)) (t : Int) (G : Nat → Option D) : CallsD Tryd.prog G 32 [wksL ws, ressL v, partsD ps, .v (.int .i64 t)] (claimsF ws v ps t) := by
  refine CallsD.of Tryd.func32 rfl Tryd.ntmps32 (by simp) ?_; intro F hF h0 hT; simp only [List.zipIdx_cons, List.zipIdx_nil, List.map_cons, List.map_nil, Nat.zero_add, Nat.reduceAdd]
  refine Sm.seq ?_
  refine Sm.regionG hF rfl ?_
  refine SmG.new hF rfl rfl rfl (opS_box rfl rfl (by simp (disch := omega) only [go_sem, Nat.reduceEqDiff, iteP, wksL, partsD, ressL] <;> rfl)) ?_
  refine SmG.new hF rfl rfl rfl (opS_box rfl rfl (by simp (disch := omega) only [go_sem, Nat.reduceEqDiff, iteP, wksL, partsD, ressL] <;> rfl)) ?_
  refine SmG.new hF rfl rfl rfl (opS_box rfl rfl (by simp (disch := omega) only [go_sem, Nat.reduceEqDiff, iteP, wksL, partsD, ressL] <;> rfl)) ?_
  refine SmG.new hF rfl rfl rfl (opS_box rfl rfl (by simp (disch := omega) only [go_sem, Nat.reduceEqDiff, iteP, wksL, partsD, ressL] <;> rfl)) ?_
  refine SmG.v hF rfl rfl rfl (opV_assign rfl rfl) ?_
  refine SmG.nil ?_
  refine nextS_normal ?_
  refine Sm.seq ?_
  refine Sm.regionG hF rfl ?_
  (refine SmG.freeze (l := 0) (sz := 1) [[wksL ws]] rfl ?_; simp only [frzE, frzV, dropH, reduceIte, Nat.reduceEqDiff]; refine SmG.freeze (l := 1) (sz := 1) [[ressL v]] rfl ?_; simp only [frzE, frzV, dropH, reduceIte, Nat.reduceEqDiff]; refine SmG.freeze (l := 2) (sz := 1) [[partsD ps]] rfl ?_; simp only [frzE, frzV, dropH, reduceIte, Nat.reduceEqDiff]; refine SmG.freeze (l := 3) (sz := 1) [[.v (.int .i64 t)]] rfl ?_; simp only [frzE, frzV, dropH, reduceIte, Nat.reduceEqDiff])
  refine SmG.v hF rfl rfl rfl (opV_makeFunc rfl rfl) ?_
  refine SmG.v hF rfl rfl rfl (opV_assign rfl rfl) ?_
  refine SmG.nil ?_
  refine nextS_normal ?_
  refine Sm.ret ?_
  refine ⟨_, rfl, ?_⟩; dsimp only
  exact D.le.refl _
theorem roundN_mono (ws : List Wk) (v : List Res) (t : Int) (ps : List (Int × Int)) {i n : Nat} (h : i ≤ n) : ∃ r, roundN ws v t ps n = roundN ws v t ps i ++ r := by
  induction h with
  | refl => exact ⟨[], by simp⟩
  | step _ ih => obtain ⟨r, hr⟩ := ih; exact ⟨_, by rw [roundN, hr, List.append_assoc]⟩
def yieldD (l : Nat) : D := .v (.func (.yield l) #[] #[])
theorem claims_I (ws : List Wk) (v : List Res) (ps : List (Int × Int)) (t : Int) (hl : v.length ≤ 1000000) (hws : ws.length ≤ 1000000) (hps : 0 < ps.length) (hps2 : ps.length ≤ 1000000) : IterD Tryd.prog HG 37 [.ptr 1 [wksL ws], .ptr 1 [partsD ps], .ptr 1 [.v (.int .i64 t)], .ptr 1 [ressL v]] ((roundN ws v t ps ws.length).map fun c => [clmD c]) := by
  refine IterD.of 5 Tryd.func37 rfl Tryd.ntmps37 (by simp) rfl ?_
  intro F l O0 J hF h0 hI
  simp only [List.zipIdx_cons, List.zipIdx_nil, List.map_cons, List.map_nil, Nat.zero_add, Nat.reduceAdd, List.length_map]
  rw [show (D.v (.func (.yield l) #[] #[])) = yieldD l from rfl]
  refine Sm.seq ?_
  refine Sm.regionG hF rfl ?_
  refine SmG.v hF rfl rfl rfl (opV_load rfl rfl (by simp (disch := omega) only [go_sem, Nat.reduceEqDiff, iteP, partsD, wksL] <;> rfl)) ?_
  refine SmG.v hF rfl rfl rfl (opV_len rfl rfl (by simp (disch := omega) only [go_sem, Nat.reduceEqDiff, iteP, partsD, wksL] <;> rfl)) ?_
  refine SmG.v hF rfl rfl rfl (opV_move rfl rfl) ?_
  refine SmG.nil ?_
  refine nextS_normal ?_
  refine Sm.block ?_
  refine Sm.loop (ι := {i : Nat // i ≤ ws.length}) (fun i => ⟨[(5, .gh ((roundN ws v t ps i.1).length + 1)), (0, .d (yieldD l)), (1, .d (.ptr 1 [wksL ws])), (2, .d (.ptr 1 [partsD ps])), (3, .d (.ptr 1 [.v (.int .i64 t)])), (4, .d (.ptr 1 [ressL v])), (11, .d (wksL ws)), (12, .d (.v (.int .i64 ws.length))), (13, .d (.v (.int .i64 i.1)))], [], 1⟩) (fun i => ws.length - i.1) (⟨0, by omega⟩) ?_ ?_
  · exact St.le_of ⟨rfl, rfl, rfl, rfl, rfl, rfl, rfl, rfl, rfl, trivial⟩ trivial (Nat.le_refl _)
  rintro ⟨i, hi⟩
  simp only
  by_cases hlt : i < ws.length
  · have hwi : ws[i]? = some ws[i] := by simp
    have hpl : i % ps.length < ps.length := Nat.mod_lt _ hps
    have hpi : ps[i % ps.length]? = some ps[i % ps.length] := by simp
    have hsa : sayAt ws v t ps i = claimW ws[i] i t v ps[i % ps.length].1 ps[i % ps.length].2 := by
      simp only [sayAt, hwi, hpi]
    have hrem : ∀ t x y, reck Tryd.prog (do eqGuard .rem t x y (.int .i64 (i : Int)) (.int .i64 (ps.length : Int)); binOp .rem t (.int .i64 (i : Int)) (.int .i64 (ps.length : Int))) = some (.int .i64 ((i % ps.length : Nat) : Int)) := fun t x y => by
      rw [rd_rem _ _ _ _ _ (by omega) (by omega)]; simp
    have hW := work_D ws[i] i t v ps[i % ps.length].1 ps[i % ps.length].2 hl
    have hrs : roundN ws v t ps (i + 1) = roundN ws v t ps i ++ if (sayAt ws v t ps i).2 then [(sayAt ws v t ps i).1] else [] := rfl
    obtain ⟨rr, hrr⟩ := roundN_mono ws v t ps (show i + 1 ≤ ws.length by omega)
    rw [hrs] at hrr
    rw [← hsa] at hW
    generalize sayAt ws v t ps i = c at hW hrr hrs
    generalize ps[i % ps.length] = p at hpi hW
    generalize ws[i] = x at hwi hW
    clear hsa
    have he : (i : Int) + 1 = ((i + 1 : Nat) : Int) := by omega
    obtain ⟨c, ok⟩ := c
    simp only at hW hrr hrs
    cases ok with
    | false =>
      simp only [Bool.false_eq_true, if_false, List.append_nil] at hrs
      refine Sm.seq ?_
      refine Sm.regionG hF rfl ?_
      refine SmG.v hF rfl rfl rfl (opV_bin rfl rfl rfl (by first | exact rd_lssT _ _ _ _ _ (by omega) | exact rd_lssF _ _ _ _ _ (by omega) | exact rb_lss _ _ _ _ _ _ _)) ?_
      refine SmG.nil ?_
      refine nextS_normal ?_
      refine Sm.seq ?_
      refine Sm.condT hF rfl ?_
      refine Sm.skip ?_
      refine nextS_normal ?_
      refine Sm.seq ?_
      refine Sm.block ?_
      refine Sm.seq ?_
      refine Sm.regionG hF rfl ?_
      refine SmG.v hF rfl rfl rfl (opV_move rfl rfl) ?_
      refine SmG.v hF rfl rfl rfl (opV_indexAddr rfl rfl rfl (by simp (disch := omega) only [go_sem, Nat.reduceEqDiff, iteP, partsD, wksL, pureRow_map, hwi, hpi, rowP, clmD] <;> rfl)) ?_
      refine SmG.v hF rfl rfl rfl (opV_load rfl rfl (by simp (disch := omega) only [go_sem, Nat.reduceEqDiff, iteP, partsD, wksL, pureRow_map, hwi, hpi, rowP, clmD] <;> rfl)) ?_
      refine SmG.new hF rfl rfl rfl (opS_alloc rfl al36) ?_
      refine SmG.v hF rfl rfl rfl (opV_assign rfl rfl) ?_
      refine SmG.store hF rfl rfl rfl rfl rfl (by simp (disch := omega) only [go_sem, Nat.reduceEqDiff, iteP, partsD, wksL, pureRow_map, hwi, hpi, rowP, clmD] <;> rfl) ?_
      refine SmG.nil ?_
      refine nextS_normal ?_
      refine Sm.seq ?_
      refine Sm.drawG hF (by kernel_rfl) rfl 8 (by kernel_rfl) (by kernel_rfl) ?_
      simp only [List.take_succ_cons, List.take_zero, List.take_nil]
      refine Head.v hF rfl rfl rfl (opV_load rfl rfl (by simp (disch := omega) only [go_sem, Nat.reduceEqDiff, iteP, partsD, wksL, pureRow_map, hwi, hpi, rowP, clmD] <;> rfl)) ?_
      refine Head.v hF rfl rfl rfl (opV_move rfl rfl) ?_
      refine Head.v hF rfl rfl rfl (opV_load rfl rfl (by simp (disch := omega) only [go_sem, Nat.reduceEqDiff, iteP, partsD, wksL, pureRow_map, hwi, hpi, rowP, clmD] <;> rfl)) ?_
      refine Head.v hF rfl rfl rfl (opV_len rfl rfl (by simp (disch := omega) only [go_sem, Nat.reduceEqDiff, iteP, partsD, wksL, pureRow_map, hwi, hpi, rowP, clmD] <;> rfl)) ?_
      refine Head.v hF rfl rfl rfl (opV_bin rfl rfl rfl (hrem _ _ _)) ?_
      refine Head.v hF rfl rfl rfl (opV_indexAddr rfl rfl rfl (by simp (disch := omega) only [go_sem, Nat.reduceEqDiff, iteP, partsD, wksL, pureRow_map, hwi, hpi, rowP, clmD] <;> rfl)) ?_
      refine Head.v hF rfl rfl rfl (opV_load rfl rfl (by simp (disch := omega) only [go_sem, Nat.reduceEqDiff, iteP, partsD, wksL, pureRow_map, hwi, hpi, rowP, clmD] <;> rfl)) ?_
      refine Head.new hF rfl rfl rfl rfl al56 ?_
      refine Head.last ⟨rfl, ?_⟩
      simp only [List.drop_succ_cons, List.drop_zero, List.drop_nil, List.nil_append, List.cons_append]
      refine SmG.store hF rfl rfl rfl rfl rfl (by simp (disch := omega) only [go_sem, Nat.reduceEqDiff, iteP, partsD, wksL, pureRow_map, hwi, hpi, rowP, clmD] <;> rfl) ?_
      refine SmG.nil ?_
      refine nextS_normal ?_
      refine Sm.seq ?_
      refine Sm.regionG hF rfl ?_
      refine SmG.v hF rfl rfl rfl (opV_load rfl rfl (by simp (disch := omega) only [go_sem, Nat.reduceEqDiff, iteP, partsD, wksL, pureRow_map, hwi, hpi, rowP, clmD] <;> rfl)) ?_
      refine SmG.v hF rfl rfl rfl (opV_move rfl rfl) ?_
      refine SmG.v hF rfl rfl rfl (opV_load rfl rfl (by simp (disch := omega) only [go_sem, Nat.reduceEqDiff, iteP, partsD, wksL, pureRow_map, hwi, hpi, rowP, clmD] <;> rfl)) ?_
      refine SmG.v hF rfl rfl rfl (opV_load rfl rfl (by simp (disch := omega) only [go_sem, Nat.reduceEqDiff, iteP, partsD, wksL, pureRow_map, hwi, hpi, rowP, clmD] <;> rfl)) ?_
      refine SmG.v hF rfl rfl rfl (opV_indexAddr rfl rfl rfl (by simp (disch := omega) only [go_sem, Nat.reduceEqDiff, iteP, partsD, wksL, pureRow_map, hwi, hpi, rowP, clmD] <;> rfl)) ?_
      refine SmG.v hF rfl rfl rfl (opV_load rfl rfl (by simp (disch := omega) only [go_sem, Nat.reduceEqDiff, iteP, partsD, wksL, pureRow_map, hwi, hpi, rowP, clmD] <;> rfl)) ?_
      refine SmG.v hF rfl rfl rfl (opV_indexAddr rfl rfl rfl (by simp (disch := omega) only [go_sem, Nat.reduceEqDiff, iteP, partsD, wksL, pureRow_map, hwi, hpi, rowP, clmD] <;> rfl)) ?_
      refine SmG.v hF rfl rfl rfl (opV_load rfl rfl (by simp (disch := omega) only [go_sem, Nat.reduceEqDiff, iteP, partsD, wksL, pureRow_map, hwi, hpi, rowP, clmD] <;> rfl)) ?_
      refine SmG.call hF rfl rfl (by kernel_rfl) rfl rfl rfl (hW) ?_
      refine SmG.v hF rfl rfl rfl (opV_move rfl rfl) ?_
      refine SmG.v hF rfl rfl rfl (by first | exact opV_extract rfl rfl rfl | exact opV_extract0 rfl rfl) ?_
      refine SmG.v hF rfl rfl rfl (by first | exact opV_extract rfl rfl rfl | exact opV_extractS rfl rfl rfl) ?_
      refine SmG.new hF rfl rfl rfl (opS_alloc rfl al41) ?_
      refine SmG.store hF rfl rfl rfl rfl rfl (by simp (disch := omega) only [go_sem, Nat.reduceEqDiff, iteP, partsD, wksL, pureRow_map, hwi, hpi, rowP, clmD] <;> rfl) ?_
      refine SmG.v hF rfl rfl rfl (opV_assign rfl rfl) ?_
      refine SmG.nil ?_
      refine nextS_normal ?_
      refine Sm.seq ?_
      refine Sm.regionG hF rfl ?_
      refine SmG.v hF rfl rfl rfl (opV_move rfl rfl) ?_
      refine SmG.v hF rfl rfl rfl (opV_move rfl rfl) ?_
      first | refine SmG.v hF rfl rfl rfl (opV_move rfl rfl) ?_ | refine SmG.pass hF rfl rfl rfl ?_
      first | refine SmG.v hF rfl rfl rfl (opV_load rfl rfl (by simp (disch := omega) only [go_sem, Nat.reduceEqDiff, iteP, partsD, wksL, pureRow_map, hwi, hpi, rowP, clmD] <;> rfl)) ?_ | refine SmG.pass hF rfl rfl rfl ?_
      refine SmG.pass hF rfl rfl rfl ?_
      first | refine SmG.v hF rfl rfl rfl (opV_un rfl rfl (by first | exact rd_notT _ | exact rd_notF _ | exact rd_not _)) ?_ | refine SmG.pass hF rfl rfl rfl ?_
      first | refine SmG.v hF rfl rfl rfl (opV_pickT rfl rfl rfl) ?_ | refine SmG.v hF rfl rfl rfl (opV_pickF rfl rfl rfl) ?_
      refine SmG.nil ?_
      refine nextS_normal ?_
      refine Sm.condF hF rfl ?_
      refine Sm.skip ?_
      refine blockS_normal ?_
      refine nextS_normal ?_
      refine Sm.regionG hF rfl ?_
      refine SmG.cut 1 (by (repeat' first | exact ltH_nil _ | exact ltR_map _ _ | exact trivial | refine ltH_over ?_ (by decide) | refine ltH_cons ?_ (lt_dB _ _ _) | refine ltH_row ?_ ?_ | refine ⟨rfl, ?_⟩)) ?_; simp only [Pk.v, cutE, cutH, V.lt, Nat.reduceAdd, Nat.reduceLT, decide_true, decide_false, reduceIte, Bool.false_eq_true, Nat.lt_irrefl, Nat.not_lt_zero, Nat.zero_lt_one, Nat.zero_lt_succ, Nat.zero_lt_two, Nat.one_lt_two]
      refine SmG.v hF rfl rfl rfl (opV_bin rfl rfl rfl (by first | exact rd_add _ _ _ _ _ (wrapI64 _ (by omega)) | exact rb_add _ _ _ _ _ _ _)) ?_
      refine SmG.v hF rfl rfl rfl (opV_move rfl rfl) ?_
      refine SmG.nil ?_
      refine nextS_normal ?_
      rw [← hrs, he]
      exact ⟨⟨i + 1, by omega⟩, by show ws.length - (i + 1) < ws.length - i; omega, St.le_of ⟨rfl, rfl, rfl, rfl, rfl, rfl, rfl, rfl, rfl, trivial⟩ trivial (Nat.le_refl _)⟩
    | true =>
      simp only [if_true] at hrs hrr
      have hxi : ((roundN ws v t ps ws.length).map fun c => [clmD c])[(roundN ws v t ps i).length]? = some [clmD c] := by rw [hrr]; simp
      refine Sm.seq ?_
      refine Sm.regionG hF rfl ?_
      refine SmG.v hF rfl rfl rfl (opV_bin rfl rfl rfl (by first | exact rd_lssT _ _ _ _ _ (by omega) | exact rd_lssF _ _ _ _ _ (by omega) | exact rb_lss _ _ _ _ _ _ _)) ?_
      refine SmG.nil ?_
      refine nextS_normal ?_
      refine Sm.seq ?_
      refine Sm.condT hF rfl ?_
      refine Sm.skip ?_
      refine nextS_normal ?_
      refine Sm.seq ?_
      refine Sm.block ?_
      refine Sm.seq ?_
      refine Sm.regionG hF rfl ?_
      refine SmG.v hF rfl rfl rfl (opV_move rfl rfl) ?_
      refine SmG.v hF rfl rfl rfl (opV_indexAddr rfl rfl rfl (by simp (disch := omega) only [go_sem, Nat.reduceEqDiff, iteP, partsD, wksL, pureRow_map, hwi, hpi, rowP, clmD] <;> rfl)) ?_
      refine SmG.v hF rfl rfl rfl (opV_load rfl rfl (by simp (disch := omega) only [go_sem, Nat.reduceEqDiff, iteP, partsD, wksL, pureRow_map, hwi, hpi, rowP, clmD] <;> rfl)) ?_
      refine SmG.new hF rfl rfl rfl (opS_alloc rfl al36) ?_
      refine SmG.v hF rfl rfl rfl (opV_assign rfl rfl) ?_
      refine SmG.store hF rfl rfl rfl rfl rfl (by simp (disch := omega) only [go_sem, Nat.reduceEqDiff, iteP, partsD, wksL, pureRow_map, hwi, hpi, rowP, clmD] <;> rfl) ?_
      refine SmG.nil ?_
      refine nextS_normal ?_
      refine Sm.seq ?_
      refine Sm.drawG hF (by kernel_rfl) rfl 8 (by kernel_rfl) (by kernel_rfl) ?_
      simp only [List.take_succ_cons, List.take_zero, List.take_nil]
      refine Head.v hF rfl rfl rfl (opV_load rfl rfl (by simp (disch := omega) only [go_sem, Nat.reduceEqDiff, iteP, partsD, wksL, pureRow_map, hwi, hpi, rowP, clmD] <;> rfl)) ?_
      refine Head.v hF rfl rfl rfl (opV_move rfl rfl) ?_
      refine Head.v hF rfl rfl rfl (opV_load rfl rfl (by simp (disch := omega) only [go_sem, Nat.reduceEqDiff, iteP, partsD, wksL, pureRow_map, hwi, hpi, rowP, clmD] <;> rfl)) ?_
      refine Head.v hF rfl rfl rfl (opV_len rfl rfl (by simp (disch := omega) only [go_sem, Nat.reduceEqDiff, iteP, partsD, wksL, pureRow_map, hwi, hpi, rowP, clmD] <;> rfl)) ?_
      refine Head.v hF rfl rfl rfl (opV_bin rfl rfl rfl (hrem _ _ _)) ?_
      refine Head.v hF rfl rfl rfl (opV_indexAddr rfl rfl rfl (by simp (disch := omega) only [go_sem, Nat.reduceEqDiff, iteP, partsD, wksL, pureRow_map, hwi, hpi, rowP, clmD] <;> rfl)) ?_
      refine Head.v hF rfl rfl rfl (opV_load rfl rfl (by simp (disch := omega) only [go_sem, Nat.reduceEqDiff, iteP, partsD, wksL, pureRow_map, hwi, hpi, rowP, clmD] <;> rfl)) ?_
      refine Head.new hF rfl rfl rfl rfl al56 ?_
      refine Head.last ⟨rfl, ?_⟩
      simp only [List.drop_succ_cons, List.drop_zero, List.drop_nil, List.nil_append, List.cons_append]
      refine SmG.store hF rfl rfl rfl rfl rfl (by simp (disch := omega) only [go_sem, Nat.reduceEqDiff, iteP, partsD, wksL, pureRow_map, hwi, hpi, rowP, clmD] <;> rfl) ?_
      refine SmG.nil ?_
      refine nextS_normal ?_
      refine Sm.seq ?_
      refine Sm.regionG hF rfl ?_
      refine SmG.v hF rfl rfl rfl (opV_load rfl rfl (by simp (disch := omega) only [go_sem, Nat.reduceEqDiff, iteP, partsD, wksL, pureRow_map, hwi, hpi, rowP, clmD] <;> rfl)) ?_
      refine SmG.v hF rfl rfl rfl (opV_move rfl rfl) ?_
      refine SmG.v hF rfl rfl rfl (opV_load rfl rfl (by simp (disch := omega) only [go_sem, Nat.reduceEqDiff, iteP, partsD, wksL, pureRow_map, hwi, hpi, rowP, clmD] <;> rfl)) ?_
      refine SmG.v hF rfl rfl rfl (opV_load rfl rfl (by simp (disch := omega) only [go_sem, Nat.reduceEqDiff, iteP, partsD, wksL, pureRow_map, hwi, hpi, rowP, clmD] <;> rfl)) ?_
      refine SmG.v hF rfl rfl rfl (opV_indexAddr rfl rfl rfl (by simp (disch := omega) only [go_sem, Nat.reduceEqDiff, iteP, partsD, wksL, pureRow_map, hwi, hpi, rowP, clmD] <;> rfl)) ?_
      refine SmG.v hF rfl rfl rfl (opV_load rfl rfl (by simp (disch := omega) only [go_sem, Nat.reduceEqDiff, iteP, partsD, wksL, pureRow_map, hwi, hpi, rowP, clmD] <;> rfl)) ?_
      refine SmG.v hF rfl rfl rfl (opV_indexAddr rfl rfl rfl (by simp (disch := omega) only [go_sem, Nat.reduceEqDiff, iteP, partsD, wksL, pureRow_map, hwi, hpi, rowP, clmD] <;> rfl)) ?_
      refine SmG.v hF rfl rfl rfl (opV_load rfl rfl (by simp (disch := omega) only [go_sem, Nat.reduceEqDiff, iteP, partsD, wksL, pureRow_map, hwi, hpi, rowP, clmD] <;> rfl)) ?_
      refine SmG.call hF rfl rfl (by kernel_rfl) rfl rfl rfl (hW) ?_
      refine SmG.v hF rfl rfl rfl (opV_move rfl rfl) ?_
      refine SmG.v hF rfl rfl rfl (by first | exact opV_extract rfl rfl rfl | exact opV_extract0 rfl rfl) ?_
      refine SmG.v hF rfl rfl rfl (by first | exact opV_extract rfl rfl rfl | exact opV_extractS rfl rfl rfl) ?_
      refine SmG.new hF rfl rfl rfl (opS_alloc rfl al41) ?_
      refine SmG.store hF rfl rfl rfl rfl rfl (by simp (disch := omega) only [go_sem, Nat.reduceEqDiff, iteP, partsD, wksL, pureRow_map, hwi, hpi, rowP, clmD] <;> rfl) ?_
      refine SmG.v hF rfl rfl rfl (opV_assign rfl rfl) ?_
      refine SmG.nil ?_
      refine nextS_normal ?_
      refine Sm.seq ?_
      refine Sm.regionG hF rfl ?_
      refine SmG.v hF rfl rfl rfl (opV_move rfl rfl) ?_
      refine SmG.v hF rfl rfl rfl (opV_move rfl rfl) ?_
      first | refine SmG.v hF rfl rfl rfl (opV_move rfl rfl) ?_ | refine SmG.pass hF rfl rfl rfl ?_
      first | refine SmG.v hF rfl rfl rfl (opV_load rfl rfl (by simp (disch := omega) only [go_sem, Nat.reduceEqDiff, iteP, partsD, wksL, pureRow_map, hwi, hpi, rowP, clmD] <;> rfl)) ?_ | refine SmG.pass hF rfl rfl rfl ?_
      refine SmG.yield hF (s := 5) (i := (roundN ws v t ps i).length) hI rfl rfl rfl rfl rfl hxi rfl rfl (by (repeat' first | exact freeH_nil _ | refine freeH_same ?_ | refine freeH_cons ?_ (free_dB _ _ _) | refine freeH_cons ?_ (free_dB _ _ [_]) | refine freeH_cons ?_ (free_row (by rfl)))) (fun c2 => ?_)
      simp only [killV, V.free, Nat.reduceBNe, bne_self_eq_false, reduceIte, Bool.false_eq_true]
      cases c2 with
      | true =>
        first | refine SmG.v hF rfl rfl rfl (opV_un rfl rfl (by first | exact rd_notT _ | exact rd_notF _ | exact rd_not _)) ?_ | refine SmG.pass hF rfl rfl rfl ?_
        first | refine SmG.v hF rfl rfl rfl (opV_pickT rfl rfl rfl) ?_ | refine SmG.v hF rfl rfl rfl (opV_pickF rfl rfl rfl) ?_
        refine SmG.nil ?_
        refine nextS_normal ?_
        refine Sm.condF hF rfl ?_
        refine Sm.skip ?_
        refine blockS_normal ?_
        refine nextS_normal ?_
        refine Sm.regionG hF rfl ?_
        refine SmG.cut 1 (by (repeat' first | exact ltH_nil _ | exact ltR_map _ _ | exact trivial | refine ltH_over ?_ (by decide) | refine ltH_cons ?_ (lt_dB _ _ _) | refine ltH_row ?_ ?_ | refine ⟨rfl, ?_⟩)) ?_; simp only [Pk.v, cutE, cutH, V.lt, Nat.reduceAdd, Nat.reduceLT, decide_true, decide_false, reduceIte, Bool.false_eq_true, Nat.lt_irrefl, Nat.not_lt_zero, Nat.zero_lt_one, Nat.zero_lt_succ, Nat.zero_lt_two, Nat.one_lt_two]
        refine SmG.v hF rfl rfl rfl (opV_bin rfl rfl rfl (by first | exact rd_add _ _ _ _ _ (wrapI64 _ (by omega)) | exact rb_add _ _ _ _ _ _ _)) ?_
        refine SmG.v hF rfl rfl rfl (opV_move rfl rfl) ?_
        refine SmG.nil ?_
        refine nextS_normal ?_
        rw [he]
        exact ⟨⟨i + 1, by omega⟩, by show ws.length - (i + 1) < ws.length - i; omega, St.le_of ⟨(by rw [hrs]; simp; rfl), rfl, rfl, rfl, rfl, rfl, rfl, rfl, rfl, trivial⟩ trivial (Nat.le_refl _)⟩
      | false =>
        first | refine SmG.v hF rfl rfl rfl (opV_un rfl rfl (by first | exact rd_notT _ | exact rd_notF _ | exact rd_not _)) ?_ | refine SmG.pass hF rfl rfl rfl ?_
        first | refine SmG.v hF rfl rfl rfl (opV_pickT rfl rfl rfl) ?_ | refine SmG.v hF rfl rfl rfl (opV_pickF rfl rfl rfl) ?_
        refine SmG.nil ?_
        refine nextS_normal ?_
        refine Sm.condT hF rfl ?_
        refine Sm.ret ?_
        simp only [nextS, blockS]
        exact ⟨_, rfl, .inl rfl⟩
  · obtain rfl : i = ws.length := by omega
    refine Sm.seq ?_
    refine Sm.regionG hF rfl ?_
    refine SmG.v hF rfl rfl rfl (opV_bin rfl rfl rfl (by first | exact rd_lssT _ _ _ _ _ (by omega) | exact rd_lssF _ _ _ _ _ (by omega) | exact rb_lss _ _ _ _ _ _ _)) ?_
    refine SmG.nil ?_
    refine nextS_normal ?_
    refine Sm.seq ?_
    refine Sm.condF hF rfl ?_
    refine Sm.exit ?_
    simp only [nextS, blockS, reduceIte, reduceCtorEq]
    exact ⟨_, rfl, .inr rfl⟩
def roundW (ws : List Wk) (v : List Res) (k t : Int) : List Clm := if cutL v.length k = [] then [] else roundN ws v t (cutL v.length k) ws.length
theorem cutL_len (n k : Int) : (cutL n k).length ≤ 4000 := by
  unfold cutL
  split
  · simp
  · simp only [cutN, List.length_map, List.length_range]; omega
theorem roundN_len (ws : List Wk) (v : List Res) (t : Int) (ps : List (Int × Int)) : ∀ n, (roundN ws v t ps n).length ≤ n := by
  intro n
  induction n with
  | zero => simp [roundN]
  | succ n ih => rw [roundN, List.length_append]; split <;> simp <;> omega
theorem elClm : ElemT Tryd.prog 45 41 (.agg (#[.int .i64 0, .int .i64 0, .int .i64 0, .slice none 0 0] ++ Array.replicate 32 (.int .u8 0))) 36 80 := ⟨Tryd.underlying45, by kernel_rfl, rfl, by decide⟩
def yrow : List D → List D
  | [.agg _ r] => r
  | _ => []
theorem round_no (ws : List Wk) (v : List Res) (k t : Int) (h : cutL v.length k = []) : CallsD Tryd.prog HG 16 [wksL ws, ressL v, .v (.int .i64 k), .v (.int .i64 t)] (clmsL []) := by
  have hc := cut17_D v.length k HG
  rw [h] at hc
  refine CallsD.of Tryd.func16 rfl Tryd.ntmps16 (by simp) ?_; intro F hF h0 hT; simp only [List.zipIdx_cons, List.zipIdx_nil, List.map_cons, List.map_nil, Nat.zero_add, Nat.reduceAdd]
  refine Sm.seq ?_
  refine Sm.regionG hF rfl ?_
  refine SmG.v hF rfl rfl rfl (opV_assign rfl rfl) ?_
  refine SmG.nil ?_
  refine nextS_normal ?_
  refine Sm.seq ?_
  refine Sm.regionG hF rfl ?_
  refine SmG.v hF rfl rfl rfl (opV_move rfl rfl) ?_
  refine SmG.v hF rfl rfl rfl (opV_len rfl rfl (by simp (disch := omega) only [go_sem, Nat.reduceEqDiff, iteP, ressL, partsD, clmD, pureRow_map] <;> rfl)) ?_
  refine SmG.v hF rfl rfl rfl (opV_move rfl rfl) ?_
  refine SmG.call hF rfl rfl (by kernel_rfl) rfl rfl rfl (hc) ?_
  refine SmG.v hF rfl rfl rfl (opV_assign rfl rfl) ?_
  refine SmG.nil ?_
  refine nextS_normal ?_
  refine Sm.seq ?_
  refine Sm.seq ?_
  refine Sm.regionG hF rfl ?_
  refine SmG.v hF rfl rfl rfl (opV_move rfl rfl) ?_
  refine SmG.v hF rfl rfl rfl (opV_len rfl rfl (by simp (disch := omega) only [go_sem, Nat.reduceEqDiff, iteP, ressL, partsD, clmD, pureRow_map] <;> rfl)) ?_
  refine SmG.v hF rfl rfl rfl (opV_bin rfl rfl rfl (by first | exact rd_eqlT _ _ _ _ _ (by omega) | exact rd_eqlF _ _ _ _ _ (by omega) | exact rb_eql _ _ _ _ _ _ _)) ?_
  refine SmG.nil ?_
  refine nextS_normal ?_
  refine Sm.condT hF rfl ?_
  refine Sm.seq ?_
  refine Sm.regionG hF rfl ?_
  refine SmG.v hF rfl rfl rfl (opV_assign rfl rfl) ?_
  refine SmG.nil ?_
  refine nextS_normal ?_
  refine Sm.ret ?_
  simp only [nextS, blockS]
  refine ⟨_, rfl, ?_⟩; dsimp only
  exact D.le_nil' _ _ _
theorem round_yes (ws : List Wk) (v : List Res) (k t : Int) (hl : v.length ≤ 1000000) (hws : ws.length ≤ 1000000) (h : cutL v.length k ≠ []) : CallsD Tryd.prog HG 16 [wksL ws, ressL v, .v (.int .i64 k), .v (.int .i64 t)] (clmsL (roundN ws v t (cutL v.length k) ws.length)) := by
  have hc := cut17_D v.length k HG
  have hcl2 := cutL_len v.length k
  generalize cutL v.length k = ps at h hc hcl2 ⊢
  have hps : 0 < ps.length := List.length_pos_iff.2 h
  have hcl := claims_D ws v ps t HG
  have hit := claims_I ws v ps t hl hws hps (by omega)
  have hrl := roundN_len ws v t ps ws.length
  generalize roundN ws v t ps ws.length = cs at hit hrl ⊢
  refine CallsD.of Tryd.func16 rfl Tryd.ntmps16 (by simp) ?_; intro F hF h0 hT; simp only [List.zipIdx_cons, List.zipIdx_nil, List.map_cons, List.map_nil, Nat.zero_add, Nat.reduceAdd]
  refine Sm.seq ?_
  refine Sm.regionG hF rfl ?_
  refine SmG.v hF rfl rfl rfl (opV_assign rfl rfl) ?_
  refine SmG.nil ?_
  refine nextS_normal ?_
  refine Sm.seq ?_
  refine Sm.regionG hF rfl ?_
  refine SmG.v hF rfl rfl rfl (opV_move rfl rfl) ?_
  refine SmG.v hF rfl rfl rfl (opV_len rfl rfl (by simp (disch := omega) only [go_sem, Nat.reduceEqDiff, iteP, ressL, partsD, clmD, pureRow_map] <;> rfl)) ?_
  refine SmG.v hF rfl rfl rfl (opV_move rfl rfl) ?_
  refine SmG.call hF rfl rfl (by kernel_rfl) rfl rfl rfl (hc) ?_
  refine SmG.v hF rfl rfl rfl (opV_assign rfl rfl) ?_
  refine SmG.nil ?_
  refine nextS_normal ?_
  refine Sm.seq ?_
  refine Sm.seq ?_
  refine Sm.regionG hF rfl ?_
  refine SmG.v hF rfl rfl rfl (opV_move rfl rfl) ?_
  refine SmG.v hF rfl rfl rfl (opV_len rfl rfl (by simp (disch := omega) only [go_sem, Nat.reduceEqDiff, iteP, ressL, partsD, clmD, pureRow_map] <;> rfl)) ?_
  refine SmG.v hF rfl rfl rfl (opV_bin rfl rfl rfl (by first | exact rd_eqlT _ _ _ _ _ (by omega) | exact rd_eqlF _ _ _ _ _ (by omega) | exact rb_eql _ _ _ _ _ _ _)) ?_
  refine SmG.nil ?_
  refine nextS_normal ?_
  refine Sm.condF hF rfl ?_
  refine Sm.skip ?_
  refine nextS_normal ?_
  refine Sm.seq ?_
  refine Sm.regionG hF rfl ?_
  refine SmG.new hF rfl rfl rfl (opS_alloc rfl al45) ?_
  refine SmG.nil ?_
  refine nextS_normal ?_
  refine Sm.seq ?_
  refine Sm.seq ?_
  refine Sm.regionG hF rfl ?_
  refine SmG.ownCell 0 0 0 36 rfl rfl rfl ?_
  refine SmG.v hF rfl rfl rfl (opV_move rfl rfl) ?_
  refine SmG.v hF rfl rfl rfl (opV_move rfl rfl) ?_
  refine SmG.v hF rfl rfl rfl (opV_move rfl rfl) ?_
  refine SmG.v hF rfl rfl rfl (opV_move rfl rfl) ?_
  refine SmG.call hF rfl rfl (by kernel_rfl) rfl rfl rfl (hcl) ?_
  refine SmG.nil ?_
  refine nextS_normal ?_
  refine Sm.block ?_
  refine Sm.rangeFunc hF hT (xs := cs.map fun c => [clmD c]) 1 (by omega) rfl (by kernel_rfl) hit (by simp) (by simp) (fun i => [(1, dB 36 ((cs.take i).map Clm.row)), (0, ⟨1, [[.sref 1 0 (cs.take i).length]]⟩)]) (fun _ => 2)
    (fun i x => ⟨[(10, .ref 0 0 0), (11, .ref 2 0 0)], [(2, dB 36 [yrow x]), (1, dB 36 ((cs.take i).map Clm.row)), (0, ⟨1, [[.sref 1 0 (cs.take i).length]]⟩)], 3⟩) (leH_look ⟨rfl, rfl, trivial⟩) (Nat.le_refl 2) ?_ ?_ ?_
  · intro i x hx F' hF h0
    have hx' := hx
    simp only [List.getElem?_map, Option.map_eq_some_iff] at hx'
    obtain ⟨c, hc, rfl⟩ := hx'
    simp only [cutE, V.lt, roundE, List.zip_cons_cons, List.zip_nil_left, List.zip_nil_right, List.map_cons, List.map_nil, List.reverse_cons, List.reverse_nil, List.nil_append, List.cons_append, Nat.reduceLT, Nat.zero_lt_one, Nat.reduceAdd, Nat.lt_irrefl, decide_true, decide_false, reduceIte, Bool.false_eq_true, claimsF]
    refine Sm.regionG hF rfl ?_
    refine SmG.new hF rfl rfl rfl (opS_alloc rfl al41) ?_
    refine SmG.store hF rfl rfl rfl rfl rfl (by simp (disch := omega) only [go_sem, Nat.reduceEqDiff, iteP, ressL, partsD, clmD, pureRow_map] <;> rfl) ?_
    refine SmG.nil ?_
    exact St.le_of ⟨rfl, rfl, trivial⟩ ⟨rfl, rfl, rfl, trivial⟩ (Nat.le_refl _)
  · intro i x hx F' hF h0
    have hx' := hx
    simp only [List.getElem?_map, Option.map_eq_some_iff] at hx'
    obtain ⟨c, hc, rfl⟩ := hx'
    have hil : i < cs.length := (List.getElem?_eq_some_iff.1 hc).1
    have htk : (cs.take i).map Clm.row ++ [c.row] = (cs.take (i + 1)).map Clm.row := by rw [List.take_add_one, hc]; simp
    have hlen : (cs.take i).length = i := by rw [List.length_take]; omega
    simp only [yrow, clmD]
    refine Sm.block ?_
    refine Sm.regionG hF rfl ?_
    refine SmG.v hF rfl rfl rfl (opV_load rfl rfl (by simp (disch := omega) only [go_sem, Nat.reduceEqDiff, iteP, pureRow_map] <;> rfl)) ?_
    refine SmG.v hF rfl rfl rfl (opV_load rfl rfl (by simp (disch := omega) only [go_sem, Nat.reduceEqDiff, iteP, pureRow_map] <;> rfl)) ?_
    refine SmG.v hF rfl rfl rfl (opV_buildSlice rfl rfl (by simp (disch := omega) only [go_sem, Nat.reduceEqDiff, iteP, pureRow_map] <;> rfl)) ?_
    refine SmG.appendCell hF elClm rfl rfl rfl rfl rfl rfl rfl (by first | rfl | (simp; done) | (simp; omega)) (Or.inl rfl) ?_ ?_ ?_; rotate_left; rotate_left; simp only [killV, Pk.v, V.free, rep, mapH, mapB, killB_dB, kill_map_d, kill_rows, killX, List.map_cons, List.map_nil, bne_self_eq_false, Nat.reduceAdd, Nat.reduceBNe, Nat.reduceBEq, Nat.reduceEqDiff, reduceIte, Bool.false_eq_true]
    rotate_left
    · simp only [List.length_map, List.length_cons, List.length_nil]; omega
    · simp only [List.length_map, List.length_cons, List.length_nil]; omega
    rw [htk]
    refine SmG.cut 2 (by (repeat' first | exact ltH_nil _ | exact ltR_map _ _ | exact trivial | refine ltH_over ?_ (by decide) | refine ltH_cons ?_ (lt_dB _ _ _) | refine ltH_row ?_ ?_ | refine ⟨rfl, ?_⟩)) ?_; simp only [Pk.v, cutE, cutH, V.lt, Nat.reduceAdd, Nat.reduceLT, decide_true, decide_false, reduceIte, Bool.false_eq_true, Nat.lt_irrefl, Nat.not_lt_zero, Nat.zero_lt_one, Nat.zero_lt_succ, Nat.zero_lt_two, Nat.one_lt_two]
    refine SmG.store hF rfl rfl rfl rfl rfl (by simp (disch := omega) only [go_sem, Nat.reduceEqDiff, iteP, pureRow_map] <;> rfl) ?_
    refine SmG.nil ?_
    refine blockS_normal ?_
    exact ⟨leH_look ⟨rfl, rfl, trivial⟩, Nat.le_refl _⟩
  · rw [List.length_map, List.take_of_length_le (Nat.le_refl _)]
    simp only [cutE, V.lt, roundE, List.zip_cons_cons, List.zip_nil_left, List.zip_nil_right, List.map_cons, List.map_nil, List.reverse_cons, List.reverse_nil, List.nil_append, List.cons_append, Nat.reduceLT, Nat.zero_lt_one, Nat.reduceAdd, Nat.lt_irrefl, decide_true, decide_false, reduceIte, Bool.false_eq_true, claimsF]
    refine blockS_normal ?_
    refine nextS_normal ?_
    refine Sm.freezeH (l := 1) _ rfl ?_
    simp only [Pk.v, frzE, frzV, dropH, mapH, frzB_dB, frz_map_d, frz_rows, mapB, List.map_cons, List.map_nil, reduceIte, Nat.reduceAdd, Nat.zero_add, List.length_map, List.length_append, Nat.le_refl, true_and, and_self, if_true, Nat.reduceEqDiff, true_and]
    refine Sm.seq ?_
    refine Sm.regionG hF rfl ?_
    refine SmG.v hF rfl rfl rfl (opV_load rfl rfl (by simp (disch := omega) only [go_sem, Nat.reduceEqDiff, iteP, ressL, partsD, clmD, pureRow_map] <;> rfl)) ?_
    refine SmG.v hF rfl rfl rfl (opV_assign rfl rfl) ?_
    refine SmG.nil ?_
    refine nextS_normal ?_
    refine Sm.ret ?_
    refine ⟨_, rfl, ?_⟩; dsimp only
    exact D.le.refl _
theorem round_D (ws : List Wk) (v : List Res) (k t : Int) (hl : v.length ≤ 1000000) (hws : ws.length ≤ 1000000) : CallsD Tryd.prog HG 16 [wksL ws, ressL v, .v (.int .i64 k), .v (.int .i64 t)] (clmsL (roundW ws v k t)) := by
  unfold roundW
  split
  · rename_i h; exact round_no ws v k t h
  · rename_i h; exact round_yes ws v k t hl hws h
theorem claimW_root (x : Wk) (who t : Int) (v : List Res) (a b : Int) : (claimW x who t v a b).1.root.length = 32 := by
  unfold claimW
  split
  · exact Sha.root_len _
  · rfl
theorem clm_row_len {c : Clm} (h : c.root.length = 32) : c.row.length = 36 := by simp [Clm.row, rowS, h]
end Go.Proofs.YtagfaaijgfigkaaDoor
namespace Go.Proofs.YtagfaaijgfigkaaDoor
open Go.RowKit
section
variable {P : Program} {G : Nat → Option D} {N : Nat} {F : Fr} {ops : Array Oper} {rest : List Oper} {o : Oper} {Q : Exit → St → Prop} {st : St} {t e : TypeId} {z : Value} {size bytes : Nat}
theorem run_make (hE : ElemT P t e z size bytes) {k1 k2 : IntKind} {n : Nat} (hn : n ≤ 281474976710656) (hb : n * bytes ≤ 140737488355328) (w : World) :
    (Instr.makeSlice t (.int k1 n) (.int k2 n)).run P w = .ok (.slice (some ⟨w.heap.size, 0, none⟩) n n) (w.alloc (.cells ((Array.range (n * size)).map (fun i => (if n * size = 0 then #[] else z.cells)[i % (if n * size = 0 then #[] else z.cells).size]!)) e)) := by
  obtain ⟨i0, hi, hz0, hz1, hz2⟩ := info_parts hE.info
  have hw : IntKind.i64.wrap (n : Int) = n := wrapI64 _ (by omega)
  have hrb : roomBytes = 140737488355328 := rfl
  have hask : (askRoom (n * bytes)).run P w = .ok () w := by
    unfold askRoom
    rw [if_neg (by omega)]; rfl
  have hbz : decide ((bytes : Int) * (n : Int) > 2 ^ 48) = false := by
    have h1 : (bytes : Int) * (n : Int) = ((n * bytes : Nat) : Int) := by rw [Nat.mul_comm]; simp
    rw [h1]
    apply decide_eq_false
    have : ((2 : Int) ^ 48) = 281474976710656 := rfl
    omega
  have hti : (typeInfo e).run P w = .ok i0 w := by simp [typeInfo, hi]
  have hsz : (sizeOf e).run P w = .ok size w := by simp [sizeOf, typeInfo, hi, hz1]
  have hzv : (zeroValue e).run P w = .ok z w := by simp [zeroValue, typeInfo, hi, hz0]
  have hneg : decide ((n : Int) < 0) = false := decide_eq_false (by omega)
  have hgt : decide ((n : Int) > (n : Int)) = false := decide_eq_false (by omega)
  have hai : ∀ k w', (asInt (.int k (n : Int))).run P w' = .ok (n : Int) w' := fun _ _ => rfl
  unfold Instr.makeSlice
  simp only [Sem.run_bind, run_underlying hE.und, Result.andThen_ok, hai, Sem.run_pure, hti, hw, hz2, hneg, hbz, hgt, Bool.or_self, Bool.false_eq_true, if_false, Int.toNat_natCast, hask, hsz]
  by_cases h0 : n * size = 0
  · simp only [h0, if_true, Sem.run_pure, Result.andThen_ok]
    rfl
  · simp only [h0, if_false, Sem.run_bind, hzv, Sem.run_pure, Result.andThen_ok]
    rfl
theorem SmL.makeOwn (hF : Env F P G N) (hN : St.small N st) (hE : ElemT P t e z size bytes) (hz : z.cells.toList.all (·.oneCell') = true) {x y : Operand} {d : Tmp} {k1 k2 : IntKind} (n : Nat) (hg : guardS ops st.env o.guard = some true) (ho : o.op = .makeSlice t x y) (hd : o.dst = some d) (hdN : d < N)
    (hx : evD G st.env x = some (.d (.v (.int k1 n)))) (hy : evD G st.env y = some (.d (.v (.int k2 n)))) (hn : n ≤ 281474976710656) (hb : n * bytes ≤ 140737488355328)
    (k : SmL F ops rest Q ⟨(d, .sref st.nx 0 n) :: st.env, (st.nx, dB size (List.replicate n (z.cells.toList.map constD))) :: st.h, st.nx + 1⟩) : SmL F ops (o :: rest) Q st := by
  intro μ C a w hs
  obtain ⟨rfl, rfl, hG⟩ := hF
  refine wpS_step (fun _ => by rw [ho]; simp) fun K hK => ?_
  rw [guardS_ok hs hg hN, if_pos rfl]
  have hxv := Rep.v_eq (evD_ok hs hG hx)
  have hyv := Rep.v_eq (evD_ok hs hG hy)
  have hrun := run_make (P := F.P) hE (k1 := k1) (k2 := k2) hn hb w
  unfold Oper.wp
  have hex : (execOp a.eval o).run F.P w = .ok (.value (.slice (some ⟨w.heap.size, 0, none⟩) n n)) (w.alloc (.cells ((Array.range (n * size)).map (fun i => (if n * size = 0 then #[] else z.cells)[i % (if n * size = 0 then #[] else z.cells).size]!)) e)) := by
    simp only [execOp, ho, hxv, hyv]
    simp [Sem.run_bind, hrun, Result.andThen]
  rw [hex, Oper.upon_value, hd]
  refine hK _ _ ?_
  have hzl : z.cells.toList.length = size := by rw [Array.length_toList]; exact hE.zs
  have hs1 := hs.allocCap n size ((List.replicate n (z.cells.toList.map constD)).map fun r => r.map V.d) ((Array.range (n * size)).map (fun i => (if n * size = 0 then #[] else z.cells)[i % (if n * size = 0 then #[] else z.cells).size]!)) e
    (by intro r hr; obtain ⟨r', hr', rfl⟩ := List.mem_map.1 hr; rw [List.eq_of_mem_replicate hr']; simpa using hzl) (by simp) (by omega) (by simp)
    (by
      intro i r hr j v hj
      have hin : i < n := by have := (List.getElem?_eq_some_iff.1 hr).1; simpa using this
      have hr' : r = (z.cells.toList.map constD).map V.d := by
        rw [List.getElem?_map, List.getElem?_replicate, if_pos hin] at hr
        simpa using hr.symm
      subst hr'
      have hjs : j < size := by have := (List.getElem?_eq_some_iff.1 hj).1; simp only [List.length_map] at this; omega
      have hzj : z.cells.toList[j]? = some z.cells.toList[j] := List.getElem?_eq_getElem (by omega)
      rw [List.getElem?_map, List.getElem?_map, hzj] at hj
      simp only [Option.map_some, Option.some.injEq] at hj
      have hlt : i * size + j < n * size := by
        have := Nat.mul_le_mul_right size (show i + 1 ≤ n by omega)
        rw [Nat.succ_mul] at this; omega
      have hne : n * size ≠ 0 := by omega
      have hcell : (i * size + j) % z.cells.size = j := by rw [hE.zs, Nat.mul_comm, Nat.mul_add_mod, Nat.mod_eq_of_lt hjs]
      refine ⟨z.cells.toList[j], ?_, List.all_eq_true.1 hz _ (List.getElem_mem _), ?_⟩
      · simp only [Array.toList_map, List.getElem?_map, if_neg hne]
        rw [Array.getElem?_toList, Array.getElem?_eq_getElem (by simpa using hlt)]
        simp only [Array.getElem_range, Option.map_some, hcell]
        congr 1
        rw [getElem!_pos z.cells j (by rw [hE.zs]; exact hjs)]; simp
      · subst hj; exact constD_ok _)
  have hput := hs1.put (t := d) hdN (x := .sref st.nx 0 n) (v := .slice (some ⟨w.heap.size, 0, none⟩) n n) ⟨⟨w.heap.size, n, size⟩, some ⟨w.heap.size, 0, none⟩, (by show (if st.nx = st.nx then _ else _) = _; rw [if_pos rfl]), by simp, by simp, fun _ => by simp⟩
  exact k _ C _ _ hput
end
section
variable {P : Program} {G : Nat → Option D} {N : Nat} {F : Fr} {ops rest : List Oper} {o : Oper} {Q : Exit → St → Prop} {env : List (Nat × V)} {h : List (Nat × Blk)} {nx : Nat} {t e : TypeId} {z : Value} {size bytes : Nat}
theorem SmG.makeOwn (hF : Env F P G N) (hE : ElemT P t e z size bytes) (hz : z.cells.toList.all (·.oneCell') = true) {x y : Operand} {d : Tmp} {k1 k2 : IntKind} (n : Nat) (ho : o.op = .makeSlice t x y) (hd : o.dst = some d) (hdN : Nat.blt d N = true) (hg : guardB ops env o.guard = some true)
    (hx : evB G env x = some (.d (.v (.int k1 n)))) (hy : evB G env y = some (.d (.v (.int k2 n)))) (hn : n ≤ 281474976710656) (hb : n * bytes ≤ 140737488355328)
    (k : SmG F N ops rest Q ⟨(d, .sref nx 0 n) :: env, (nx, dB size (List.replicate n (z.cells.toList.map constD))) :: h, nx + 1⟩) : SmG F N ops (o :: rest) Q ⟨env, h, nx⟩ := by
  have hdN' : d < N := by simpa [Nat.blt_eq] using hdN
  intro hsm
  rw [evB_eq] at hx hy
  exact SmL.makeOwn hF hsm hE hz n (guardB_ok hg) ho hd hdN' hx hy hn hb (k (small_put hsm hdN'))
end
end Go.Proofs.YtagfaaijgfigkaaDoor
namespace Go.Proofs.YtagfaaijgfigkaaDoor
open Go.RowKit
set_option maxRecDepth 100000
theorem eq_two {t : TypeId} (hg : Tryd.prog.eqGuardType Tryd.prog.depth t = false) (hk : kindsT Tryd.prog t = some [.int .i64, .int .i64]) (a b c d : Int) : eqAgg Tryd.prog t (.d (.agg 2 [.v (.int .i64 a), .v (.int .i64 b)])) (.d (.agg 2 [.v (.int .i64 c), .v (.int .i64 d)])) = some (decide (a = c ∧ b = d)) := by
  have : ∀ x y : Int, (x == y) = decide (x = y) := fun x y => by
    rw [Bool.eq_iff_iff, beq_iff_eq, decide_eq_true_eq]
  simp only [eqAgg, hg, if_true, hk, Option.bind_some, eqCells, sameV, Option.map_some, this, Bool.and_true, Bool.decide_and]
theorem eq_res (x y : Res) : eqAgg Tryd.prog 34 (.d (.agg 2 x.row)) (.d (.agg 2 y.row)) = some (decide (x = y)) := by
  rw [show x.row = [.v (.int .i64 x.out), .v (.int .i64 x.n)] from rfl, show y.row = [.v (.int .i64 y.out), .v (.int .i64 y.n)] from rfl, eq_two (by kernel_rfl) (by kernel_rfl)]
  congr 1
  rw [decide_eq_decide]
  cases x; cases y; simp
theorem eq_prt (x y : Int × Int) : eqAgg Tryd.prog 56 (.d (.agg 2 (rowP x))) (.d (.agg 2 (rowP y))) = some (decide (x = y)) := by
  unfold rowP
  rw [eq_two (by kernel_rfl) (by kernel_rfl)]
  congr 1
  rw [decide_eq_decide]
  cases x; cases y; simp
theorem take_eq_succ {α : Type} {a b : List α} {i : Nat} {x : α} (h : a.take i = b.take i) (ha : a[i]? = some x) (hb : b[i]? = some x) : a.take (i + 1) = b.take (i + 1) := by
  rw [List.take_add_one, List.take_add_one, h, ha, hb]
theorem sameResults_D (a b : List Res) (hl : a.length ≤ 1000000) (G : Nat → Option D) (hG : G = HG) : CallsD Tryd.prog G 27 [ressL a, ressL b] (.v (.bool (decide (a = b)))) := by
  subst hG
  by_cases hlen : a.length = b.length
  · have hle : (b.length : Int) = (a.length : Int) := by omega
    refine CallsD.of Tryd.func27 rfl Tryd.ntmps27 (by simp) ?_; intro F hF h0 hT; simp only [List.zipIdx_cons, List.zipIdx_nil, List.map_cons, List.map_nil, Nat.zero_add, Nat.reduceAdd]
    refine Sm.seq ?_
    refine Sm.regionG hF rfl ?_
    refine SmG.v hF rfl rfl rfl (opV_assign rfl rfl) ?_
    refine SmG.nil ?_
    refine nextS_normal ?_
    refine Sm.seq ?_
    refine Sm.seq ?_
    refine Sm.regionG hF rfl ?_
    refine SmG.v hF rfl rfl rfl (opV_move rfl rfl) ?_
    refine SmG.v hF rfl rfl rfl (opV_len rfl rfl (by simp (disch := omega) only [go_sem, Nat.reduceEqDiff, iteP, ressL, hle] <;> rfl)) ?_
    refine SmG.v hF rfl rfl rfl (opV_move rfl rfl) ?_
    refine SmG.v hF rfl rfl rfl (opV_len rfl rfl (by simp (disch := omega) only [go_sem, Nat.reduceEqDiff, iteP, ressL, hle] <;> rfl)) ?_
    refine SmG.v hF rfl rfl rfl (opV_bin rfl rfl rfl (by first | exact rd_neqT _ _ _ _ _ (by omega) | exact rd_neqF _ _ _ _ _ (by omega) | exact rb_neq _ _ _ _ _ _ _)) ?_
    refine SmG.nil ?_
    refine nextS_normal ?_
    refine Sm.condF hF rfl ?_
    refine Sm.skip ?_
    refine nextS_normal ?_
    refine Sm.seq ?_
    refine Sm.seq ?_
    refine Sm.regionG hF rfl ?_
    refine SmG.v hF rfl rfl rfl (opV_assign rfl rfl) ?_
    refine SmG.nil ?_
    refine nextS_normal ?_
    refine Sm.block ?_
    refine Sm.loop (ι := {i : Nat // i ≤ a.length ∧ a.take i = b.take i}) (fun i => ⟨[(0, .d (ressL a)), (1, .d (ressL b)), (5, .d (.v (.int .i64 i.1)))], [], 0⟩) (fun i => a.length - i.1) (⟨0, by omega, rfl⟩) ?_ ?_
    · exact St.le_of ⟨rfl, rfl, rfl, trivial⟩ trivial (Nat.le_refl _)
    rintro ⟨i, hi, htk⟩
    simp only
    by_cases hlt : i < a.length
    · have hai : a[i]? = some a[i] := by simp
      have hbi : b[i]? = some (b[i]'(by omega)) := by simp
      have hma : a[i] ∈ a := List.getElem_mem _
      have hmb : b[i]'(by omega) ∈ b := List.getElem_mem _
      have he : (i : Int) + 1 = ((i + 1 : Nat) : Int) := by omega
      generalize a[i] = x at hai hma
      generalize b[i]'(by omega) = y at hbi hmb
      by_cases hxy : x = y
      · have hd : decide (x = y) = true := decide_eq_true hxy
        refine Sm.seq ?_
        refine Sm.seq ?_
        refine Sm.regionG hF rfl ?_
        refine SmG.v hF rfl rfl rfl (opV_move rfl rfl) ?_
        refine SmG.v hF rfl rfl rfl (opV_move rfl rfl) ?_
        refine SmG.v hF rfl rfl rfl (opV_len rfl rfl (by simp (disch := omega) only [go_sem, Nat.reduceEqDiff, iteP, ressL, hle, hai, hbi] <;> rfl)) ?_
        refine SmG.v hF rfl rfl rfl (opV_bin rfl rfl rfl (by first | exact rd_lssT _ _ _ _ _ (by omega) | exact rd_lssF _ _ _ _ _ (by omega) | exact rb_lss _ _ _ _ _ _ _)) ?_
        refine SmG.nil ?_
        refine nextS_normal ?_
        refine Sm.condT hF rfl ?_
        refine Sm.skip ?_
        refine nextS_normal ?_
        refine Sm.seq ?_
        refine Sm.block ?_
        refine Sm.seq ?_
        refine Sm.drawG hF (by kernel_rfl) rfl 9 (by kernel_rfl) (by kernel_rfl) ?_
        simp only [List.take_succ_cons, List.take_zero, List.take_nil]
        refine Head.v hF rfl rfl rfl (opV_move rfl rfl) ?_
        refine Head.v hF rfl rfl rfl (opV_move rfl rfl) ?_
        refine Head.v hF rfl rfl rfl (opV_indexAddr rfl rfl rfl (by simp (disch := omega) only [go_sem, Nat.reduceEqDiff, iteP, ressL, hle, hai, hbi] <;> rfl)) ?_
        refine Head.v hF rfl rfl rfl (opV_load rfl rfl (by simp (disch := omega) only [go_sem, Nat.reduceEqDiff, iteP, ressL, hle, hai, hbi] <;> rfl)) ?_
        refine Head.v hF rfl rfl rfl (opV_move rfl rfl) ?_
        refine Head.v hF rfl rfl rfl (opV_move rfl rfl) ?_
        refine Head.v hF rfl rfl rfl (opV_indexAddr rfl rfl rfl (by simp (disch := omega) only [go_sem, Nat.reduceEqDiff, iteP, ressL, hle, hai, hbi] <;> rfl)) ?_
        refine Head.v hF rfl rfl rfl (opV_load rfl rfl (by simp (disch := omega) only [go_sem, Nat.reduceEqDiff, iteP, ressL, hle, hai, hbi] <;> rfl)) ?_
        refine Head.v hF rfl rfl rfl (opV_neA rfl rfl rfl (eq_res _ _)) ?_
        refine Head.last ⟨rfl, ?_⟩
        simp only [List.drop_succ_cons, List.drop_zero, List.drop_nil, List.nil_append, List.cons_append]
        refine SmG.nil ?_
        refine nextS_normal ?_
        rw [hd]
        refine Sm.condF hF rfl ?_
        refine Sm.skip ?_
        refine blockS_normal ?_
        refine nextS_normal ?_
        refine Sm.regionG hF rfl ?_
        refine SmG.v hF rfl rfl rfl (opV_move rfl rfl) ?_
        refine SmG.v hF rfl rfl rfl (opV_bin rfl rfl rfl (by first | exact rd_add _ _ _ _ _ (wrapI64 _ (by omega)) | exact rb_add _ _ _ _ _ _ _)) ?_
        refine SmG.v hF rfl rfl rfl (opV_assign rfl rfl) ?_
        refine SmG.nil ?_
        refine nextS_normal ?_
        rw [he]
        exact ⟨⟨i + 1, by omega, take_eq_succ htk hai (hxy ▸ hbi)⟩, by show a.length - (i + 1) < a.length - i; omega, St.le_of ⟨rfl, rfl, rfl, trivial⟩ trivial (Nat.le_refl _)⟩
      · have hd : decide (x = y) = false := decide_eq_false hxy
        have hne : decide (a = b) = false := decide_eq_false fun e => by rw [e, hbi] at hai; exact hxy (Option.some.inj hai).symm
        rw [hne]
        refine Sm.seq ?_
        refine Sm.seq ?_
        refine Sm.regionG hF rfl ?_
        refine SmG.v hF rfl rfl rfl (opV_move rfl rfl) ?_
        refine SmG.v hF rfl rfl rfl (opV_move rfl rfl) ?_
        refine SmG.v hF rfl rfl rfl (opV_len rfl rfl (by simp (disch := omega) only [go_sem, Nat.reduceEqDiff, iteP, ressL, hle, hai, hbi] <;> rfl)) ?_
        refine SmG.v hF rfl rfl rfl (opV_bin rfl rfl rfl (by first | exact rd_lssT _ _ _ _ _ (by omega) | exact rd_lssF _ _ _ _ _ (by omega) | exact rb_lss _ _ _ _ _ _ _)) ?_
        refine SmG.nil ?_
        refine nextS_normal ?_
        refine Sm.condT hF rfl ?_
        refine Sm.skip ?_
        refine nextS_normal ?_
        refine Sm.seq ?_
        refine Sm.block ?_
        refine Sm.seq ?_
        refine Sm.drawG hF (by kernel_rfl) rfl 9 (by kernel_rfl) (by kernel_rfl) ?_
        simp only [List.take_succ_cons, List.take_zero, List.take_nil]
        refine Head.v hF rfl rfl rfl (opV_move rfl rfl) ?_
        refine Head.v hF rfl rfl rfl (opV_move rfl rfl) ?_
        refine Head.v hF rfl rfl rfl (opV_indexAddr rfl rfl rfl (by simp (disch := omega) only [go_sem, Nat.reduceEqDiff, iteP, ressL, hle, hai, hbi] <;> rfl)) ?_
        refine Head.v hF rfl rfl rfl (opV_load rfl rfl (by simp (disch := omega) only [go_sem, Nat.reduceEqDiff, iteP, ressL, hle, hai, hbi] <;> rfl)) ?_
        refine Head.v hF rfl rfl rfl (opV_move rfl rfl) ?_
        refine Head.v hF rfl rfl rfl (opV_move rfl rfl) ?_
        refine Head.v hF rfl rfl rfl (opV_indexAddr rfl rfl rfl (by simp (disch := omega) only [go_sem, Nat.reduceEqDiff, iteP, ressL, hle, hai, hbi] <;> rfl)) ?_
        refine Head.v hF rfl rfl rfl (opV_load rfl rfl (by simp (disch := omega) only [go_sem, Nat.reduceEqDiff, iteP, ressL, hle, hai, hbi] <;> rfl)) ?_
        refine Head.v hF rfl rfl rfl (opV_neA rfl rfl rfl (eq_res _ _)) ?_
        refine Head.last ⟨rfl, ?_⟩
        simp only [List.drop_succ_cons, List.drop_zero, List.drop_nil, List.nil_append, List.cons_append]
        refine SmG.nil ?_
        refine nextS_normal ?_
        rw [hd]
        refine Sm.condT hF rfl ?_
        refine Sm.seq ?_
        refine Sm.regionG hF rfl ?_
        refine SmG.v hF rfl rfl rfl (opV_assign rfl rfl) ?_
        refine SmG.nil ?_
        refine nextS_normal ?_
        refine Sm.ret ?_
        simp only [nextS, blockS]
        refine ⟨_, rfl, ?_⟩; exact D.le.refl _
    · have hil : i = a.length := by omega
      have hab : decide (a = b) = true := decide_eq_true (by rw [hil, List.take_of_length_le (Nat.le_refl _), List.take_of_length_le (by omega)] at htk; exact htk)
      rw [hab]
      subst hil
      refine Sm.seq ?_
      refine Sm.seq ?_
      refine Sm.regionG hF rfl ?_
      refine SmG.v hF rfl rfl rfl (opV_move rfl rfl) ?_
      refine SmG.v hF rfl rfl rfl (opV_move rfl rfl) ?_
      refine SmG.v hF rfl rfl rfl (opV_len rfl rfl (by simp (disch := omega) only [go_sem, Nat.reduceEqDiff, iteP, ressL, hle] <;> rfl)) ?_
      refine SmG.v hF rfl rfl rfl (opV_bin rfl rfl rfl (by first | exact rd_lssT _ _ _ _ _ (by omega) | exact rd_lssF _ _ _ _ _ (by omega) | exact rb_lss _ _ _ _ _ _ _)) ?_
      refine SmG.nil ?_
      refine nextS_normal ?_
      refine Sm.condF hF rfl ?_
      refine Sm.exit ?_
      simp only [nextS, blockS, reduceIte, reduceCtorEq]
      refine Sm.seq ?_
      refine Sm.regionG hF rfl ?_
      refine SmG.v hF rfl rfl rfl (opV_assign rfl rfl) ?_
      refine SmG.nil ?_
      refine nextS_normal ?_
      refine Sm.ret ?_
      refine ⟨_, rfl, ?_⟩; exact D.le.refl _
  · have hne : decide (a = b) = false := decide_eq_false fun e => hlen (by rw [e])
    rw [hne]
    refine CallsD.of Tryd.func27 rfl Tryd.ntmps27 (by simp) ?_; intro F hF h0 hT; simp only [List.zipIdx_cons, List.zipIdx_nil, List.map_cons, List.map_nil, Nat.zero_add, Nat.reduceAdd]
    refine Sm.seq ?_
    refine Sm.regionG hF rfl ?_
    refine SmG.v hF rfl rfl rfl (opV_assign rfl rfl) ?_
    refine SmG.nil ?_
    refine nextS_normal ?_
    refine Sm.seq ?_
    refine Sm.seq ?_
    refine Sm.regionG hF rfl ?_
    refine SmG.v hF rfl rfl rfl (opV_move rfl rfl) ?_
    refine SmG.v hF rfl rfl rfl (opV_len rfl rfl (by simp (disch := omega) only [go_sem, Nat.reduceEqDiff, iteP, ressL] <;> rfl)) ?_
    refine SmG.v hF rfl rfl rfl (opV_move rfl rfl) ?_
    refine SmG.v hF rfl rfl rfl (opV_len rfl rfl (by simp (disch := omega) only [go_sem, Nat.reduceEqDiff, iteP, ressL] <;> rfl)) ?_
    refine SmG.v hF rfl rfl rfl (opV_bin rfl rfl rfl (by first | exact rd_neqT _ _ _ _ _ (by omega) | exact rd_neqF _ _ _ _ _ (by omega) | exact rb_neq _ _ _ _ _ _ _)) ?_
    refine SmG.nil ?_
    refine nextS_normal ?_
    refine Sm.condT hF rfl ?_
    refine Sm.seq ?_
    refine Sm.regionG hF rfl ?_
    refine SmG.v hF rfl rfl rfl (opV_assign rfl rfl) ?_
    refine SmG.nil ?_
    refine nextS_normal ?_
    refine Sm.ret ?_
    simp only [nextS, blockS]
    refine ⟨_, rfl, ?_⟩; exact D.le.refl _
theorem sameParts_D (a b : List (Int × Int)) (hl : a.length ≤ 1000000) (G : Nat → Option D) (hG : G = HG) : CallsD Tryd.prog G 19 [partsD a, partsD b] (.v (.bool (decide (a = b)))) := by
  subst hG
  by_cases hlen : a.length = b.length
  · have hle : (b.length : Int) = (a.length : Int) := by omega
    refine CallsD.of Tryd.func19 rfl Tryd.ntmps19 (by simp) ?_; intro F hF h0 hT; simp only [List.zipIdx_cons, List.zipIdx_nil, List.map_cons, List.map_nil, Nat.zero_add, Nat.reduceAdd]
    refine Sm.seq ?_
    refine Sm.regionG hF rfl ?_
    refine SmG.v hF rfl rfl rfl (opV_assign rfl rfl) ?_
    refine SmG.nil ?_
    refine nextS_normal ?_
    refine Sm.seq ?_
    refine Sm.seq ?_
    refine Sm.regionG hF rfl ?_
    refine SmG.v hF rfl rfl rfl (opV_move rfl rfl) ?_
    refine SmG.v hF rfl rfl rfl (opV_len rfl rfl (by simp (disch := omega) only [go_sem, Nat.reduceEqDiff, iteP, partsD, hle] <;> rfl)) ?_
    refine SmG.v hF rfl rfl rfl (opV_move rfl rfl) ?_
    refine SmG.v hF rfl rfl rfl (opV_len rfl rfl (by simp (disch := omega) only [go_sem, Nat.reduceEqDiff, iteP, partsD, hle] <;> rfl)) ?_
    refine SmG.v hF rfl rfl rfl (opV_bin rfl rfl rfl (by first | exact rd_neqT _ _ _ _ _ (by omega) | exact rd_neqF _ _ _ _ _ (by omega) | exact rb_neq _ _ _ _ _ _ _)) ?_
    refine SmG.nil ?_
    refine nextS_normal ?_
    refine Sm.condF hF rfl ?_
    refine Sm.skip ?_
    refine nextS_normal ?_
    refine Sm.seq ?_
    refine Sm.seq ?_
    refine Sm.regionG hF rfl ?_
    refine SmG.v hF rfl rfl rfl (opV_assign rfl rfl) ?_
    refine SmG.nil ?_
    refine nextS_normal ?_
    refine Sm.block ?_
    refine Sm.loop (ι := {i : Nat // i ≤ a.length ∧ a.take i = b.take i}) (fun i => ⟨[(0, .d (partsD a)), (1, .d (partsD b)), (5, .d (.v (.int .i64 i.1)))], [], 0⟩) (fun i => a.length - i.1) (⟨0, by omega, rfl⟩) ?_ ?_
    · exact St.le_of ⟨rfl, rfl, rfl, trivial⟩ trivial (Nat.le_refl _)
    rintro ⟨i, hi, htk⟩
    simp only
    by_cases hlt : i < a.length
    · have hai : a[i]? = some a[i] := by simp
      have hbi : b[i]? = some (b[i]'(by omega)) := by simp
      have hma : a[i] ∈ a := List.getElem_mem _
      have hmb : b[i]'(by omega) ∈ b := List.getElem_mem _
      have he : (i : Int) + 1 = ((i + 1 : Nat) : Int) := by omega
      generalize a[i] = x at hai hma
      generalize b[i]'(by omega) = y at hbi hmb
      by_cases hxy : x = y
      · have hd : decide (x = y) = true := decide_eq_true hxy
        refine Sm.seq ?_
        refine Sm.seq ?_
        refine Sm.regionG hF rfl ?_
        refine SmG.v hF rfl rfl rfl (opV_move rfl rfl) ?_
        refine SmG.v hF rfl rfl rfl (opV_move rfl rfl) ?_
        refine SmG.v hF rfl rfl rfl (opV_len rfl rfl (by simp (disch := omega) only [go_sem, Nat.reduceEqDiff, iteP, partsD, hle, hai, hbi] <;> rfl)) ?_
        refine SmG.v hF rfl rfl rfl (opV_bin rfl rfl rfl (by first | exact rd_lssT _ _ _ _ _ (by omega) | exact rd_lssF _ _ _ _ _ (by omega) | exact rb_lss _ _ _ _ _ _ _)) ?_
        refine SmG.nil ?_
        refine nextS_normal ?_
        refine Sm.condT hF rfl ?_
        refine Sm.skip ?_
        refine nextS_normal ?_
        refine Sm.seq ?_
        refine Sm.block ?_
        refine Sm.seq ?_
        refine Sm.drawG hF (by kernel_rfl) rfl 9 (by kernel_rfl) (by kernel_rfl) ?_
        simp only [List.take_succ_cons, List.take_zero, List.take_nil]
        refine Head.v hF rfl rfl rfl (opV_move rfl rfl) ?_
        refine Head.v hF rfl rfl rfl (opV_move rfl rfl) ?_
        refine Head.v hF rfl rfl rfl (opV_indexAddr rfl rfl rfl (by simp (disch := omega) only [go_sem, Nat.reduceEqDiff, iteP, partsD, hle, hai, hbi] <;> rfl)) ?_
        refine Head.v hF rfl rfl rfl (opV_load rfl rfl (by simp (disch := omega) only [go_sem, Nat.reduceEqDiff, iteP, partsD, hle, hai, hbi] <;> rfl)) ?_
        refine Head.v hF rfl rfl rfl (opV_move rfl rfl) ?_
        refine Head.v hF rfl rfl rfl (opV_move rfl rfl) ?_
        refine Head.v hF rfl rfl rfl (opV_indexAddr rfl rfl rfl (by simp (disch := omega) only [go_sem, Nat.reduceEqDiff, iteP, partsD, hle, hai, hbi] <;> rfl)) ?_
        refine Head.v hF rfl rfl rfl (opV_load rfl rfl (by simp (disch := omega) only [go_sem, Nat.reduceEqDiff, iteP, partsD, hle, hai, hbi] <;> rfl)) ?_
        refine Head.v hF rfl rfl rfl (opV_neA rfl rfl rfl (eq_prt _ _)) ?_
        refine Head.last ⟨rfl, ?_⟩
        simp only [List.drop_succ_cons, List.drop_zero, List.drop_nil, List.nil_append, List.cons_append]
        refine SmG.nil ?_
        refine nextS_normal ?_
        rw [hd]
        refine Sm.condF hF rfl ?_
        refine Sm.skip ?_
        refine blockS_normal ?_
        refine nextS_normal ?_
        refine Sm.regionG hF rfl ?_
        refine SmG.v hF rfl rfl rfl (opV_move rfl rfl) ?_
        refine SmG.v hF rfl rfl rfl (opV_bin rfl rfl rfl (by first | exact rd_add _ _ _ _ _ (wrapI64 _ (by omega)) | exact rb_add _ _ _ _ _ _ _)) ?_
        refine SmG.v hF rfl rfl rfl (opV_assign rfl rfl) ?_
        refine SmG.nil ?_
        refine nextS_normal ?_
        rw [he]
        exact ⟨⟨i + 1, by omega, take_eq_succ htk hai (hxy ▸ hbi)⟩, by show a.length - (i + 1) < a.length - i; omega, St.le_of ⟨rfl, rfl, rfl, trivial⟩ trivial (Nat.le_refl _)⟩
      · have hd : decide (x = y) = false := decide_eq_false hxy
        have hne : decide (a = b) = false := decide_eq_false fun e => by rw [e, hbi] at hai; exact hxy (Option.some.inj hai).symm
        rw [hne]
        refine Sm.seq ?_
        refine Sm.seq ?_
        refine Sm.regionG hF rfl ?_
        refine SmG.v hF rfl rfl rfl (opV_move rfl rfl) ?_
        refine SmG.v hF rfl rfl rfl (opV_move rfl rfl) ?_
        refine SmG.v hF rfl rfl rfl (opV_len rfl rfl (by simp (disch := omega) only [go_sem, Nat.reduceEqDiff, iteP, partsD, hle, hai, hbi] <;> rfl)) ?_
        refine SmG.v hF rfl rfl rfl (opV_bin rfl rfl rfl (by first | exact rd_lssT _ _ _ _ _ (by omega) | exact rd_lssF _ _ _ _ _ (by omega) | exact rb_lss _ _ _ _ _ _ _)) ?_
        refine SmG.nil ?_
        refine nextS_normal ?_
        refine Sm.condT hF rfl ?_
        refine Sm.skip ?_
        refine nextS_normal ?_
        refine Sm.seq ?_
        refine Sm.block ?_
        refine Sm.seq ?_
        refine Sm.drawG hF (by kernel_rfl) rfl 9 (by kernel_rfl) (by kernel_rfl) ?_
        simp only [List.take_succ_cons, List.take_zero, List.take_nil]
        refine Head.v hF rfl rfl rfl (opV_move rfl rfl) ?_
        refine Head.v hF rfl rfl rfl (opV_move rfl rfl) ?_
        refine Head.v hF rfl rfl rfl (opV_indexAddr rfl rfl rfl (by simp (disch := omega) only [go_sem, Nat.reduceEqDiff, iteP, partsD, hle, hai, hbi] <;> rfl)) ?_
        refine Head.v hF rfl rfl rfl (opV_load rfl rfl (by simp (disch := omega) only [go_sem, Nat.reduceEqDiff, iteP, partsD, hle, hai, hbi] <;> rfl)) ?_
        refine Head.v hF rfl rfl rfl (opV_move rfl rfl) ?_
        refine Head.v hF rfl rfl rfl (opV_move rfl rfl) ?_
        refine Head.v hF rfl rfl rfl (opV_indexAddr rfl rfl rfl (by simp (disch := omega) only [go_sem, Nat.reduceEqDiff, iteP, partsD, hle, hai, hbi] <;> rfl)) ?_
        refine Head.v hF rfl rfl rfl (opV_load rfl rfl (by simp (disch := omega) only [go_sem, Nat.reduceEqDiff, iteP, partsD, hle, hai, hbi] <;> rfl)) ?_
        refine Head.v hF rfl rfl rfl (opV_neA rfl rfl rfl (eq_prt _ _)) ?_
        refine Head.last ⟨rfl, ?_⟩
        simp only [List.drop_succ_cons, List.drop_zero, List.drop_nil, List.nil_append, List.cons_append]
        refine SmG.nil ?_
        refine nextS_normal ?_
        rw [hd]
        refine Sm.condT hF rfl ?_
        refine Sm.seq ?_
        refine Sm.regionG hF rfl ?_
        refine SmG.v hF rfl rfl rfl (opV_assign rfl rfl) ?_
        refine SmG.nil ?_
        refine nextS_normal ?_
        refine Sm.ret ?_
        simp only [nextS, blockS]
        refine ⟨_, rfl, ?_⟩; exact D.le.refl _
    · have hil : i = a.length := by omega
      have hab : decide (a = b) = true := decide_eq_true (by rw [hil, List.take_of_length_le (Nat.le_refl _), List.take_of_length_le (by omega)] at htk; exact htk)
      rw [hab]
      subst hil
      refine Sm.seq ?_
      refine Sm.seq ?_
      refine Sm.regionG hF rfl ?_
      refine SmG.v hF rfl rfl rfl (opV_move rfl rfl) ?_
      refine SmG.v hF rfl rfl rfl (opV_move rfl rfl) ?_
      refine SmG.v hF rfl rfl rfl (opV_len rfl rfl (by simp (disch := omega) only [go_sem, Nat.reduceEqDiff, iteP, partsD, hle] <;> rfl)) ?_
      refine SmG.v hF rfl rfl rfl (opV_bin rfl rfl rfl (by first | exact rd_lssT _ _ _ _ _ (by omega) | exact rd_lssF _ _ _ _ _ (by omega) | exact rb_lss _ _ _ _ _ _ _)) ?_
      refine SmG.nil ?_
      refine nextS_normal ?_
      refine Sm.condF hF rfl ?_
      refine Sm.exit ?_
      simp only [nextS, blockS, reduceIte, reduceCtorEq]
      refine Sm.seq ?_
      refine Sm.regionG hF rfl ?_
      refine SmG.v hF rfl rfl rfl (opV_assign rfl rfl) ?_
      refine SmG.nil ?_
      refine nextS_normal ?_
      refine Sm.ret ?_
      refine ⟨_, rfl, ?_⟩; exact D.le.refl _
  · have hne : decide (a = b) = false := decide_eq_false fun e => hlen (by rw [e])
    rw [hne]
    refine CallsD.of Tryd.func19 rfl Tryd.ntmps19 (by simp) ?_; intro F hF h0 hT; simp only [List.zipIdx_cons, List.zipIdx_nil, List.map_cons, List.map_nil, Nat.zero_add, Nat.reduceAdd]
    refine Sm.seq ?_
    refine Sm.regionG hF rfl ?_
    refine SmG.v hF rfl rfl rfl (opV_assign rfl rfl) ?_
    refine SmG.nil ?_
    refine nextS_normal ?_
    refine Sm.seq ?_
    refine Sm.seq ?_
    refine Sm.regionG hF rfl ?_
    refine SmG.v hF rfl rfl rfl (opV_move rfl rfl) ?_
    refine SmG.v hF rfl rfl rfl (opV_len rfl rfl (by simp (disch := omega) only [go_sem, Nat.reduceEqDiff, iteP, partsD] <;> rfl)) ?_
    refine SmG.v hF rfl rfl rfl (opV_move rfl rfl) ?_
    refine SmG.v hF rfl rfl rfl (opV_len rfl rfl (by simp (disch := omega) only [go_sem, Nat.reduceEqDiff, iteP, partsD] <;> rfl)) ?_
    refine SmG.v hF rfl rfl rfl (opV_bin rfl rfl rfl (by first | exact rd_neqT _ _ _ _ _ (by omega) | exact rd_neqF _ _ _ _ _ (by omega) | exact rb_neq _ _ _ _ _ _ _)) ?_
    refine SmG.nil ?_
    refine nextS_normal ?_
    refine Sm.condT hF rfl ?_
    refine Sm.seq ?_
    refine Sm.regionG hF rfl ?_
    refine SmG.v hF rfl rfl rfl (opV_assign rfl rfl) ?_
    refine SmG.nil ?_
    refine nextS_normal ?_
    refine Sm.ret ?_
    simp only [nextS, blockS]
    refine ⟨_, rfl, ?_⟩; exact D.le.refl _
theorem Clm.ext_iff' (x y : Clm) : x = y ↔ x.who = y.who ∧ x.lo = y.lo ∧ x.hi = y.hi ∧ x.root = y.root ∧ x.l = y.l := by
  cases x; cases y; simp only [Clm.mk.injEq]; exact ⟨fun h => ⟨h.1, h.2.1, h.2.2.1, h.2.2.2.2, h.2.2.2.1⟩, fun h => ⟨h.1, h.2.1, h.2.2.1, h.2.2.2.2, h.2.2.2.1⟩⟩
instance : DecidableEq Clm := fun x y => if h : x.who = y.who ∧ x.lo = y.lo ∧ x.hi = y.hi ∧ x.root = y.root ∧ x.l = y.l then isTrue ((Clm.ext_iff' x y).2 h) else isFalse fun e => h ((Clm.ext_iff' x y).1 e)
end Go.Proofs.YtagfaaijgfigkaaDoor
namespace Go.Proofs.YtagfaaijgfigkaaDoor
open Go.RowKit
set_option maxRecDepth 100000
def resOf (x : UInt8 × UInt8) : Res := ⟨1 + (x.1.toNat : Int) % 3, if 1 + (x.1.toNat : Int) % 3 = 2 then 0 else x.2.toNat⟩
def rowU2 (x : UInt8 × UInt8) : List D := [byteD x.1, byteD x.2]
def u2sL (l : List (UInt8 × UInt8)) : D := .list 2 (l.map rowU2) false
def resultsOf (l : List (UInt8 × UInt8)) (n : Nat) : List Res := (l.take n).map resOf
theorem resultsOf_len (l : List (UInt8 × UInt8)) (n : Nat) : (resultsOf l n).length ≤ n := by simp [resultsOf]; omega
theorem results_D (l : List (UInt8 × UInt8)) (n : Nat) (hl : l.length ≤ 9223372036854775807) (hn : n ≤ 1000000) (G : Nat → Option D) : CallsD Tryd.prog G 11 [u2sL l, .v (.int .i64 n)] (ressL (resultsOf l n)) := by
  refine CallsD.of Tryd.func11 rfl Tryd.ntmps11 (by simp) ?_; intro F hF h0 hT; simp only [List.zipIdx_cons, List.zipIdx_nil, List.map_cons, List.map_nil, Nat.zero_add, Nat.reduceAdd]
  refine Sm.seq ?_
  refine Sm.regionG hF rfl ?_
  refine SmG.v hF rfl rfl rfl (opV_assign rfl rfl) ?_
  refine SmG.nil ?_
  refine nextS_normal ?_
  refine Sm.seq ?_
  refine Sm.regionG hF rfl ?_
  refine SmG.v hF rfl rfl rfl (opV_buildSlice rfl rfl (by simp (disch := omega) only [go_sem, Nat.reduceEqDiff, iteP, u2sL] <;> rfl)) ?_
  refine SmG.v hF rfl rfl rfl (opV_assign rfl rfl) ?_
  refine SmG.nil ?_
  refine nextS_normal ?_
  refine Sm.seq ?_
  refine Sm.seq ?_
  refine Sm.regionG hF rfl ?_
  refine SmG.v hF rfl rfl rfl (opV_assign rfl rfl) ?_
  refine SmG.nil ?_
  refine nextS_normal ?_
  refine Sm.block ?_
  refine Sm.own (t := 5) (sz := 2) 2 rfl ?_
  refine Sm.loop (ι := {i : Nat // i ≤ l.length ∧ i ≤ n}) (fun i => ⟨[(0, .d (u2sL l)), (1, .d (.v (.int .i64 n))), (5, .sref 0 0 ((resultsOf l i.1).map Res.row).length), (6, .d (.v (.int .i64 i.1)))], [(0, dB 2 ((resultsOf l i.1).map Res.row))], 1⟩) (fun i => n - i.1) (⟨0, by omega, by omega⟩) ?_ ?_
  · exact St.le_of ⟨rfl, rfl, rfl, rfl, trivial⟩ ⟨rfl, trivial⟩ (Nat.le_refl _)
  rintro ⟨i, hi, hin⟩
  simp only
  have fin : i = l.length ∨ i = n → resultsOf l i = resultsOf l n := by
    rintro (h | h)
    · unfold resultsOf; rw [List.take_of_length_le (by omega), List.take_of_length_le (by omega)]
    · rw [h]
  by_cases hlt : i < l.length ∧ i < n
  · obtain ⟨hlt, hltn⟩ := hlt
    have hli : l[i]? = some l[i] := by simp
    have htk : resultsOf l (i + 1) = resultsOf l i ++ [resOf l[i]] := by unfold resultsOf; rw [List.take_add_one, hli, List.map_append]; rfl
    have hlen : (resultsOf l i).length = i := by simp [resultsOf]; omega
    have he : (i : Int) + 1 = ((i + 1 : Nat) : Int) := by omega
    generalize l[i] = x at hli htk
    obtain ⟨x, y⟩ := x
    have hx := x.toNat_lt
    have hy := y.toNat_lt
    by_cases h2 : 1 + (x.toNat : Int) % 3 = 2
    · have hrow : (resultsOf l i).map Res.row ++ [[.v (.int .i64 (1 + (x.toNat : Int) % 3)), .v (.int .i64 0)]] = (resultsOf l (i + 1)).map Res.row := by rw [htk]; simp [resOf, Res.row, h2]
      refine Sm.seq ?_
      refine Sm.seq ?_
      refine Sm.regionG hF rfl ?_
      refine SmG.v hF rfl rfl rfl (opV_move rfl rfl) ?_
      refine SmG.v hF rfl rfl rfl (opV_move rfl rfl) ?_
      refine SmG.v hF rfl rfl rfl (opV_len rfl rfl (by simp (disch := omega) only [go_sem, Nat.reduceEqDiff, iteP, u2sL, hli, rowU2, byteD] <;> rfl)) ?_
      refine SmG.v hF rfl rfl rfl (opV_bin rfl rfl rfl (by first | exact rd_lssT _ _ _ _ _ (by omega) | exact rd_lssF _ _ _ _ _ (by omega) | exact rb_lss _ _ _ _ _ _ _)) ?_
      refine SmG.v hF rfl rfl rfl (opV_move rfl rfl) ?_
      first | refine SmG.v hF rfl rfl rfl (opV_move rfl rfl) ?_ | refine SmG.pass hF rfl rfl rfl ?_
      first | refine SmG.v hF rfl rfl rfl (opV_move rfl rfl) ?_ | refine SmG.pass hF rfl rfl rfl ?_
      first | refine SmG.v hF rfl rfl rfl (opV_bin rfl rfl rfl (by first | exact rd_lssT _ _ _ _ _ (by omega) | exact rd_lssF _ _ _ _ _ (by omega) | exact rb_lss _ _ _ _ _ _ _)) ?_ | refine SmG.pass hF rfl rfl rfl ?_
      first | refine SmG.v hF rfl rfl rfl (opV_pickT rfl rfl rfl) ?_ | refine SmG.v hF rfl rfl rfl (opV_pickF rfl rfl rfl) ?_
      refine SmG.nil ?_
      refine nextS_normal ?_
      refine Sm.condT hF rfl ?_
      refine Sm.skip ?_
      refine nextS_normal ?_
      refine Sm.seq ?_
      refine Sm.block ?_
      refine Sm.seq ?_
      refine Sm.drawG hF (by kernel_rfl) rfl 16 (by kernel_rfl) (by kernel_rfl) ?_
      simp only [List.take_succ_cons, List.take_zero, List.take_nil]
      refine Head.v hF rfl rfl rfl (opV_move rfl rfl) ?_
      refine Head.v hF rfl rfl rfl (opV_move rfl rfl) ?_
      refine Head.v hF rfl rfl rfl (opV_indexAddr rfl rfl rfl (by simp (disch := omega) only [go_sem, Nat.reduceEqDiff, iteP, u2sL, hli, rowU2, byteD] <;> rfl)) ?_
      refine Head.v hF rfl rfl rfl (opV_indexAddr rfl rfl rfl (by simp (disch := omega) only [go_sem, Nat.reduceEqDiff, iteP, u2sL, hli, rowU2, byteD] <;> rfl)) ?_
      refine Head.v hF rfl rfl rfl (opV_load rfl rfl (by simp (disch := omega) only [go_sem, Nat.reduceEqDiff, iteP, u2sL, hli, rowU2, byteD] <;> rfl)) ?_
      refine Head.v hF rfl rfl rfl (opV_bin rfl rfl rfl (by first | exact rd_rem _ _ _ _ _ (by omega) (by omega) | exact rb_rem _ _ _ _ _ _ _ (by omega))) ?_
      refine Head.v hF rfl rfl rfl (opV_conv rfl rfl (by first | exact convS_int rfl rfl (wrapI64 _ (by omega)) | (simp (disch := omega) only [go_sem, u2sL, hli, rowU2, byteD] <;> rfl))) ?_
      refine Head.v hF rfl rfl rfl (opV_bin rfl rfl rfl (by first | exact rd_add _ _ _ _ _ (wrapI64 _ (by omega)) | exact rb_add _ _ _ _ _ _ _)) ?_
      refine Head.v hF rfl rfl rfl (opV_move rfl rfl) ?_
      refine Head.v hF rfl rfl rfl (opV_move rfl rfl) ?_
      refine Head.v hF rfl rfl rfl (opV_indexAddr rfl rfl rfl (by simp (disch := omega) only [go_sem, Nat.reduceEqDiff, iteP, u2sL, hli, rowU2, byteD] <;> rfl)) ?_
      refine Head.v hF rfl rfl rfl (opV_indexAddr rfl rfl rfl (by simp (disch := omega) only [go_sem, Nat.reduceEqDiff, iteP, u2sL, hli, rowU2, byteD] <;> rfl)) ?_
      refine Head.v hF rfl rfl rfl (opV_load rfl rfl (by simp (disch := omega) only [go_sem, Nat.reduceEqDiff, iteP, u2sL, hli, rowU2, byteD] <;> rfl)) ?_
      refine Head.v hF rfl rfl rfl (opV_conv rfl rfl (by first | exact convS_int rfl rfl (wrapI64 _ (by omega)) | (simp (disch := omega) only [go_sem, u2sL, hli, rowU2, byteD] <;> rfl))) ?_
      refine Head.v hF rfl rfl rfl (opV_buildT rfl Tryd.underlying34 (by kernel_rfl) rfl (by simp (disch := omega) only [go_sem, Nat.reduceEqDiff, iteP, u2sL, hli, rowU2, byteD] <;> rfl)) ?_
      refine Head.new hF rfl rfl rfl rfl al34 ?_
      refine Head.last ⟨rfl, ?_⟩
      simp only [List.drop_succ_cons, List.drop_zero, List.drop_nil, List.nil_append, List.cons_append]
      refine SmG.store hF rfl rfl rfl rfl rfl (by simp (disch := omega) only [go_sem, Nat.reduceEqDiff, iteP, u2sL, hli, rowU2, byteD] <;> rfl) ?_
      refine SmG.nil ?_
      refine nextS_normal ?_
      refine Sm.seq ?_
      refine Sm.seq ?_
      refine Sm.regionG hF rfl ?_
      refine SmG.v hF rfl rfl rfl (opV_fieldAddr rfl rfl (by simp (disch := omega) only [go_sem, Nat.reduceEqDiff, iteP, u2sL, hli, rowU2, byteD] <;> rfl)) ?_
      refine SmG.v hF rfl rfl rfl (opV_load rfl rfl (by simp (disch := omega) only [go_sem, Nat.reduceEqDiff, iteP, u2sL, hli, rowU2, byteD] <;> rfl)) ?_
      refine SmG.v hF rfl rfl rfl (opV_bin rfl rfl rfl (by first | exact rd_eqlT _ _ _ _ _ (by omega) | exact rd_eqlF _ _ _ _ _ (by omega) | exact rb_eql _ _ _ _ _ _ _)) ?_
      refine SmG.nil ?_
      refine nextS_normal ?_
      refine Sm.condT hF rfl ?_
      refine Sm.regionG hF rfl ?_
      refine SmG.v hF rfl rfl rfl (opV_fieldAddr rfl rfl (by simp (disch := omega) only [go_sem, Nat.reduceEqDiff, iteP, u2sL, hli, rowU2, byteD] <;> rfl)) ?_
      refine SmG.store hF rfl rfl rfl rfl rfl (by simp (disch := omega) only [go_sem, Nat.reduceEqDiff, iteP, u2sL, hli, rowU2, byteD] <;> rfl) ?_
      refine SmG.nil ?_
      refine nextS_normal ?_
      refine Sm.regionG hF rfl ?_
      refine SmG.v hF rfl rfl rfl (opV_move rfl rfl) ?_
      refine SmG.v hF rfl rfl rfl (opV_load rfl rfl (by simp (disch := omega) only [go_sem, Nat.reduceEqDiff, iteP, u2sL, hli, rowU2, byteD] <;> rfl)) ?_
      refine SmG.v hF rfl rfl rfl (opV_buildSlice rfl rfl (by simp (disch := omega) only [go_sem, Nat.reduceEqDiff, iteP, u2sL, hli, rowU2, byteD] <;> rfl)) ?_
      refine SmG.appendOwn hF elRes rfl rfl rfl rfl rfl rfl rfl (by first | rfl | (simp; done) | (simp; omega)) (Or.inl rfl) (by (repeat' first | exact freeH_nil _ | refine freeH_same ?_ | refine freeH_cons ?_ (free_dB _ _ _) | refine freeH_cons ?_ (free_dB _ _ [_]) | refine freeH_cons ?_ (free_row (by rfl)))) ?_ ?_ ?_; rotate_left; rotate_left; simp only [killV, Pk.v, V.free, rep, bne_self_eq_false, Nat.reduceAdd, Nat.reduceBNe, Nat.reduceBEq, Nat.reduceEqDiff, reduceIte, Bool.false_eq_true]
      rotate_left
      · simp only [List.length_map, List.length_cons, List.length_nil]; omega
      · simp only [List.length_map, List.length_cons, List.length_nil]; omega
      refine SmG.cut 1 (by (repeat' first | exact ltH_nil _ | exact ltR_map _ _ | exact trivial | refine ltH_over ?_ (by decide) | refine ltH_cons ?_ (lt_dB _ _ _) | refine ltH_row ?_ ?_ | refine ⟨rfl, ?_⟩)) ?_; simp only [Pk.v, cutE, cutH, V.lt, Nat.reduceAdd, Nat.reduceLT, decide_true, decide_false, reduceIte, Bool.false_eq_true, Nat.lt_irrefl, Nat.not_lt_zero, Nat.zero_lt_one, Nat.zero_lt_succ, Nat.zero_lt_two, Nat.one_lt_two]
      rw [hrow]
      refine SmG.v hF rfl rfl rfl (opV_assign rfl rfl) ?_
      refine SmG.nil ?_
      refine blockS_normal ?_
      refine nextS_normal ?_
      refine Sm.regionG hF rfl ?_
      refine SmG.v hF rfl rfl rfl (opV_move rfl rfl) ?_
      refine SmG.v hF rfl rfl rfl (opV_bin rfl rfl rfl (by first | exact rd_add _ _ _ _ _ (wrapI64 _ (by omega)) | exact rb_add _ _ _ _ _ _ _)) ?_
      refine SmG.v hF rfl rfl rfl (opV_assign rfl rfl) ?_
      refine SmG.nil ?_
      refine nextS_normal ?_
      rw [he]
      exact ⟨⟨i + 1, by omega, by omega⟩, by show n - (i + 1) < n - i; omega, St.le_of ⟨rfl, rfl, rfl, rfl, trivial⟩ ⟨rfl, trivial⟩ (Nat.le_refl _)⟩
    · have hrow : (resultsOf l i).map Res.row ++ [[.v (.int .i64 (1 + (x.toNat : Int) % 3)), .v (.int .i64 (y.toNat : Int))]] = (resultsOf l (i + 1)).map Res.row := by rw [htk]; simp [resOf, Res.row, h2]
      refine Sm.seq ?_
      refine Sm.seq ?_
      refine Sm.regionG hF rfl ?_
      refine SmG.v hF rfl rfl rfl (opV_move rfl rfl) ?_
      refine SmG.v hF rfl rfl rfl (opV_move rfl rfl) ?_
      refine SmG.v hF rfl rfl rfl (opV_len rfl rfl (by simp (disch := omega) only [go_sem, Nat.reduceEqDiff, iteP, u2sL, hli, rowU2, byteD] <;> rfl)) ?_
      refine SmG.v hF rfl rfl rfl (opV_bin rfl rfl rfl (by first | exact rd_lssT _ _ _ _ _ (by omega) | exact rd_lssF _ _ _ _ _ (by omega) | exact rb_lss _ _ _ _ _ _ _)) ?_
      refine SmG.v hF rfl rfl rfl (opV_move rfl rfl) ?_
      first | refine SmG.v hF rfl rfl rfl (opV_move rfl rfl) ?_ | refine SmG.pass hF rfl rfl rfl ?_
      first | refine SmG.v hF rfl rfl rfl (opV_move rfl rfl) ?_ | refine SmG.pass hF rfl rfl rfl ?_
      first | refine SmG.v hF rfl rfl rfl (opV_bin rfl rfl rfl (by first | exact rd_lssT _ _ _ _ _ (by omega) | exact rd_lssF _ _ _ _ _ (by omega) | exact rb_lss _ _ _ _ _ _ _)) ?_ | refine SmG.pass hF rfl rfl rfl ?_
      first | refine SmG.v hF rfl rfl rfl (opV_pickT rfl rfl rfl) ?_ | refine SmG.v hF rfl rfl rfl (opV_pickF rfl rfl rfl) ?_
      refine SmG.nil ?_
      refine nextS_normal ?_
      refine Sm.condT hF rfl ?_
      refine Sm.skip ?_
      refine nextS_normal ?_
      refine Sm.seq ?_
      refine Sm.block ?_
      refine Sm.seq ?_
      refine Sm.drawG hF (by kernel_rfl) rfl 16 (by kernel_rfl) (by kernel_rfl) ?_
      simp only [List.take_succ_cons, List.take_zero, List.take_nil]
      refine Head.v hF rfl rfl rfl (opV_move rfl rfl) ?_
      refine Head.v hF rfl rfl rfl (opV_move rfl rfl) ?_
      refine Head.v hF rfl rfl rfl (opV_indexAddr rfl rfl rfl (by simp (disch := omega) only [go_sem, Nat.reduceEqDiff, iteP, u2sL, hli, rowU2, byteD] <;> rfl)) ?_
      refine Head.v hF rfl rfl rfl (opV_indexAddr rfl rfl rfl (by simp (disch := omega) only [go_sem, Nat.reduceEqDiff, iteP, u2sL, hli, rowU2, byteD] <;> rfl)) ?_
      refine Head.v hF rfl rfl rfl (opV_load rfl rfl (by simp (disch := omega) only [go_sem, Nat.reduceEqDiff, iteP, u2sL, hli, rowU2, byteD] <;> rfl)) ?_
      refine Head.v hF rfl rfl rfl (opV_bin rfl rfl rfl (by first | exact rd_rem _ _ _ _ _ (by omega) (by omega) | exact rb_rem _ _ _ _ _ _ _ (by omega))) ?_
      refine Head.v hF rfl rfl rfl (opV_conv rfl rfl (by first | exact convS_int rfl rfl (wrapI64 _ (by omega)) | (simp (disch := omega) only [go_sem, u2sL, hli, rowU2, byteD] <;> rfl))) ?_
      refine Head.v hF rfl rfl rfl (opV_bin rfl rfl rfl (by first | exact rd_add _ _ _ _ _ (wrapI64 _ (by omega)) | exact rb_add _ _ _ _ _ _ _)) ?_
      refine Head.v hF rfl rfl rfl (opV_move rfl rfl) ?_
      refine Head.v hF rfl rfl rfl (opV_move rfl rfl) ?_
      refine Head.v hF rfl rfl rfl (opV_indexAddr rfl rfl rfl (by simp (disch := omega) only [go_sem, Nat.reduceEqDiff, iteP, u2sL, hli, rowU2, byteD] <;> rfl)) ?_
      refine Head.v hF rfl rfl rfl (opV_indexAddr rfl rfl rfl (by simp (disch := omega) only [go_sem, Nat.reduceEqDiff, iteP, u2sL, hli, rowU2, byteD] <;> rfl)) ?_
      refine Head.v hF rfl rfl rfl (opV_load rfl rfl (by simp (disch := omega) only [go_sem, Nat.reduceEqDiff, iteP, u2sL, hli, rowU2, byteD] <;> rfl)) ?_
      refine Head.v hF rfl rfl rfl (opV_conv rfl rfl (by first | exact convS_int rfl rfl (wrapI64 _ (by omega)) | (simp (disch := omega) only [go_sem, u2sL, hli, rowU2, byteD] <;> rfl))) ?_
      refine Head.v hF rfl rfl rfl (opV_buildT rfl Tryd.underlying34 (by kernel_rfl) rfl (by simp (disch := omega) only [go_sem, Nat.reduceEqDiff, iteP, u2sL, hli, rowU2, byteD] <;> rfl)) ?_
      refine Head.new hF rfl rfl rfl rfl al34 ?_
      refine Head.last ⟨rfl, ?_⟩
      simp only [List.drop_succ_cons, List.drop_zero, List.drop_nil, List.nil_append, List.cons_append]
      refine SmG.store hF rfl rfl rfl rfl rfl (by simp (disch := omega) only [go_sem, Nat.reduceEqDiff, iteP, u2sL, hli, rowU2, byteD] <;> rfl) ?_
      refine SmG.nil ?_
      refine nextS_normal ?_
      refine Sm.seq ?_
      refine Sm.seq ?_
      refine Sm.regionG hF rfl ?_
      refine SmG.v hF rfl rfl rfl (opV_fieldAddr rfl rfl (by simp (disch := omega) only [go_sem, Nat.reduceEqDiff, iteP, u2sL, hli, rowU2, byteD] <;> rfl)) ?_
      refine SmG.v hF rfl rfl rfl (opV_load rfl rfl (by simp (disch := omega) only [go_sem, Nat.reduceEqDiff, iteP, u2sL, hli, rowU2, byteD] <;> rfl)) ?_
      refine SmG.v hF rfl rfl rfl (opV_bin rfl rfl rfl (by first | exact rd_eqlT _ _ _ _ _ (by omega) | exact rd_eqlF _ _ _ _ _ (by omega) | exact rb_eql _ _ _ _ _ _ _)) ?_
      refine SmG.nil ?_
      refine nextS_normal ?_
      refine Sm.condF hF rfl ?_
      refine Sm.skip ?_
      refine nextS_normal ?_
      refine Sm.regionG hF rfl ?_
      refine SmG.v hF rfl rfl rfl (opV_move rfl rfl) ?_
      refine SmG.v hF rfl rfl rfl (opV_load rfl rfl (by simp (disch := omega) only [go_sem, Nat.reduceEqDiff, iteP, u2sL, hli, rowU2, byteD] <;> rfl)) ?_
      refine SmG.v hF rfl rfl rfl (opV_buildSlice rfl rfl (by simp (disch := omega) only [go_sem, Nat.reduceEqDiff, iteP, u2sL, hli, rowU2, byteD] <;> rfl)) ?_
      refine SmG.appendOwn hF elRes rfl rfl rfl rfl rfl rfl rfl (by first | rfl | (simp; done) | (simp; omega)) (Or.inl rfl) (by (repeat' first | exact freeH_nil _ | refine freeH_same ?_ | refine freeH_cons ?_ (free_dB _ _ _) | refine freeH_cons ?_ (free_dB _ _ [_]) | refine freeH_cons ?_ (free_row (by rfl)))) ?_ ?_ ?_; rotate_left; rotate_left; simp only [killV, Pk.v, V.free, rep, bne_self_eq_false, Nat.reduceAdd, Nat.reduceBNe, Nat.reduceBEq, Nat.reduceEqDiff, reduceIte, Bool.false_eq_true]
      rotate_left
      · simp only [List.length_map, List.length_cons, List.length_nil]; omega
      · simp only [List.length_map, List.length_cons, List.length_nil]; omega
      refine SmG.cut 1 (by (repeat' first | exact ltH_nil _ | exact ltR_map _ _ | exact trivial | refine ltH_over ?_ (by decide) | refine ltH_cons ?_ (lt_dB _ _ _) | refine ltH_row ?_ ?_ | refine ⟨rfl, ?_⟩)) ?_; simp only [Pk.v, cutE, cutH, V.lt, Nat.reduceAdd, Nat.reduceLT, decide_true, decide_false, reduceIte, Bool.false_eq_true, Nat.lt_irrefl, Nat.not_lt_zero, Nat.zero_lt_one, Nat.zero_lt_succ, Nat.zero_lt_two, Nat.one_lt_two]
      rw [hrow]
      refine SmG.v hF rfl rfl rfl (opV_assign rfl rfl) ?_
      refine SmG.nil ?_
      refine blockS_normal ?_
      refine nextS_normal ?_
      refine Sm.regionG hF rfl ?_
      refine SmG.v hF rfl rfl rfl (opV_move rfl rfl) ?_
      refine SmG.v hF rfl rfl rfl (opV_bin rfl rfl rfl (by first | exact rd_add _ _ _ _ _ (wrapI64 _ (by omega)) | exact rb_add _ _ _ _ _ _ _)) ?_
      refine SmG.v hF rfl rfl rfl (opV_assign rfl rfl) ?_
      refine SmG.nil ?_
      refine nextS_normal ?_
      rw [he]
      exact ⟨⟨i + 1, by omega, by omega⟩, by show n - (i + 1) < n - i; omega, St.le_of ⟨rfl, rfl, rfl, rfl, trivial⟩ ⟨rfl, trivial⟩ (Nat.le_refl _)⟩
  · have hcs : i = l.length ∨ (i < l.length ∧ i = n) := by omega
    rw [fin (by omega)]
    rcases hcs with h | ⟨h, h'⟩
    all_goals
      refine Sm.seq ?_
      refine Sm.seq ?_
      refine Sm.regionG hF rfl ?_
      refine SmG.v hF rfl rfl rfl (opV_move rfl rfl) ?_
      refine SmG.v hF rfl rfl rfl (opV_move rfl rfl) ?_
      refine SmG.v hF rfl rfl rfl (opV_len rfl rfl (by simp (disch := omega) only [go_sem, Nat.reduceEqDiff, iteP, u2sL] <;> rfl)) ?_
      refine SmG.v hF rfl rfl rfl (opV_bin rfl rfl rfl (by first | exact rd_lssT _ _ _ _ _ (by omega) | exact rd_lssF _ _ _ _ _ (by omega) | exact rb_lss _ _ _ _ _ _ _)) ?_
      refine SmG.v hF rfl rfl rfl (opV_move rfl rfl) ?_
      first | refine SmG.v hF rfl rfl rfl (opV_move rfl rfl) ?_ | refine SmG.pass hF rfl rfl rfl ?_
      first | refine SmG.v hF rfl rfl rfl (opV_move rfl rfl) ?_ | refine SmG.pass hF rfl rfl rfl ?_
      first | refine SmG.v hF rfl rfl rfl (opV_bin rfl rfl rfl (by first | exact rd_lssT _ _ _ _ _ (by omega) | exact rd_lssF _ _ _ _ _ (by omega) | exact rb_lss _ _ _ _ _ _ _)) ?_ | refine SmG.pass hF rfl rfl rfl ?_
      first | refine SmG.v hF rfl rfl rfl (opV_pickT rfl rfl rfl) ?_ | refine SmG.v hF rfl rfl rfl (opV_pickF rfl rfl rfl) ?_
      refine SmG.nil ?_
      refine nextS_normal ?_
      refine Sm.condF hF rfl ?_
      refine Sm.freeze (l := 0) _ rfl ?_
      simp only [Pk.v, frzE, frzV, dropH,  reduceIte, Nat.reduceAdd, Nat.zero_add, List.length_map, List.length_append, Nat.le_refl, true_and, and_self, if_true, Nat.reduceEqDiff, true_and]
      refine Sm.exit ?_
      simp only [nextS, blockS, reduceIte, reduceCtorEq]
      refine Sm.seq ?_
      refine Sm.regionG hF rfl ?_
      refine SmG.v hF rfl rfl rfl (opV_move rfl rfl) ?_
      refine SmG.v hF rfl rfl rfl (opV_assign rfl rfl) ?_
      refine SmG.nil ?_
      refine nextS_normal ?_
      refine Sm.ret ?_
      refine ⟨_, rfl, ?_⟩; dsimp only
      exact D.le.refl _
structure B5 where
  a : UInt8
  b : UInt8
  c : UInt8
  d : UInt8
  e : UInt8
def B5.row (x : B5) : List D := [byteD x.a, byteD x.b, byteD x.c, byteD x.d, byteD x.e]
theorem elWk : ElemT Tryd.prog 29 36 (.agg #[.int .i64 0, .int .i64 0, .int .i64 0, .int .i64 0, .int .i64 0]) 5 40 := ⟨Tryd.underlying29, by kernel_rfl, rfl, by decide⟩
theorem lawWork_D (x : Wk) (who t : Int) (v : List Res) (a b : Int) (hl : v.length ≤ 1000000) : CallsD Tryd.prog HG 14 [wkD x, partD4 who t a b, ressL v] (saidD (claimW x who t v a b)) := by
  have hW := work_D x who t v a b hl
  have hrt := clm_row_len (claimW_root x who t v a b)
  generalize claimW x who t v a b = c at hW hrt ⊢
  obtain ⟨c, ok⟩ := c
  simp only at hW hrt
  have hset : ∀ x, (c.row ++ [D.v (.bool false)]).set 36 x = c.row ++ [x] := fun x => by
    rw [List.set_append_right _ _ (by omega), hrt]; simp
  refine CallsD.of Tryd.func14 rfl Tryd.ntmps14 (by simp) ?_; intro F hF h0 hT; simp only [List.zipIdx_cons, List.zipIdx_nil, List.map_cons, List.map_nil, Nat.zero_add, Nat.reduceAdd]
  refine Sm.seq ?_
  refine Sm.regionG hF rfl ?_
  refine SmG.new hF rfl rfl rfl (opS_box rfl rfl (by simp (disch := omega) only [go_sem, Nat.reduceEqDiff, iteP, wkD, Wk.row, partD4, clmD, pureRow_map, hrt, hset] <;> rfl)) ?_
  refine SmG.new hF rfl rfl rfl (opS_box rfl rfl (by simp (disch := omega) only [go_sem, Nat.reduceEqDiff, iteP, wkD, Wk.row, partD4, clmD, pureRow_map, hrt, hset] <;> rfl)) ?_
  refine SmG.new hF rfl rfl rfl (opS_alloc rfl al43) ?_
  refine SmG.nil ?_
  refine nextS_normal ?_
  refine Sm.seq ?_
  refine Sm.regionG hF rfl ?_
  refine SmG.v hF rfl rfl rfl (opV_load rfl rfl (by simp (disch := omega) only [go_sem, Nat.reduceEqDiff, iteP, wkD, Wk.row, partD4, clmD, pureRow_map, hrt, hset] <;> rfl)) ?_
  refine SmG.v hF rfl rfl rfl (opV_fieldAddr rfl rfl (by simp (disch := omega) only [go_sem, Nat.reduceEqDiff, iteP, wkD, Wk.row, partD4, clmD, pureRow_map, hrt, hset] <;> rfl)) ?_
  refine SmG.v hF rfl rfl rfl (opV_load rfl rfl (by simp (disch := omega) only [go_sem, Nat.reduceEqDiff, iteP, wkD, Wk.row, partD4, clmD, pureRow_map, hrt, hset] <;> rfl)) ?_
  refine SmG.v hF rfl rfl rfl (opV_fieldAddr rfl rfl (by simp (disch := omega) only [go_sem, Nat.reduceEqDiff, iteP, wkD, Wk.row, partD4, clmD, pureRow_map, hrt, hset] <;> rfl)) ?_
  refine SmG.v hF rfl rfl rfl (opV_load rfl rfl (by simp (disch := omega) only [go_sem, Nat.reduceEqDiff, iteP, wkD, Wk.row, partD4, clmD, pureRow_map, hrt, hset] <;> rfl)) ?_
  refine SmG.v hF rfl rfl rfl (opV_move rfl rfl) ?_
  refine SmG.v hF rfl rfl rfl (opV_fieldAddr rfl rfl (by simp (disch := omega) only [go_sem, Nat.reduceEqDiff, iteP, wkD, Wk.row, partD4, clmD, pureRow_map, hrt, hset] <;> rfl)) ?_
  refine SmG.v hF rfl rfl rfl (opV_load rfl rfl (by simp (disch := omega) only [go_sem, Nat.reduceEqDiff, iteP, wkD, Wk.row, partD4, clmD, pureRow_map, hrt, hset] <;> rfl)) ?_
  refine SmG.v hF rfl rfl rfl (opV_fieldAddr rfl rfl (by simp (disch := omega) only [go_sem, Nat.reduceEqDiff, iteP, wkD, Wk.row, partD4, clmD, pureRow_map, hrt, hset] <;> rfl)) ?_
  refine SmG.v hF rfl rfl rfl (opV_load rfl rfl (by simp (disch := omega) only [go_sem, Nat.reduceEqDiff, iteP, wkD, Wk.row, partD4, clmD, pureRow_map, hrt, hset] <;> rfl)) ?_
  refine SmG.call hF rfl rfl (by kernel_rfl) rfl rfl rfl (hW) ?_
  refine SmG.v hF rfl rfl rfl (opV_move rfl rfl) ?_
  refine SmG.v hF rfl rfl rfl (by first | exact opV_extract rfl rfl rfl | exact opV_extract0 rfl rfl) ?_
  refine SmG.v hF rfl rfl rfl (by first | exact opV_extract rfl rfl rfl | exact opV_extractS rfl rfl rfl) ?_
  refine SmG.new hF rfl rfl rfl (opS_alloc rfl al41) ?_
  refine SmG.store hF rfl rfl rfl rfl rfl (by simp (disch := omega) only [go_sem, Nat.reduceEqDiff, iteP, wkD, Wk.row, partD4, clmD, pureRow_map, hrt, hset] <;> rfl) ?_
  refine SmG.v hF rfl rfl rfl (opV_assign rfl rfl) ?_
  refine SmG.nil ?_
  refine nextS_normal ?_
  refine Sm.seq ?_
  refine Sm.regionG hF rfl ?_
  refine SmG.v hF rfl rfl rfl (opV_load rfl rfl (by simp (disch := omega) only [go_sem, Nat.reduceEqDiff, iteP, wkD, Wk.row, partD4, clmD, pureRow_map, hrt, hset] <;> rfl)) ?_
  refine SmG.v hF rfl rfl rfl (opV_move rfl rfl) ?_
  refine SmG.v hF rfl rfl rfl (opV_buildT rfl Tryd.underlying43 (by kernel_rfl) rfl (buildS_struct (n := 37) ze43 pl43 rfl (by repeat' first | apply fill_oneE rfl rfl (by first | rfl | simp [rowS, wkD, Wk.row, partD4, clmD, pureRow_map, hrt, hset]) | apply fill_aggE rfl rfl rfl (by first | assumption | simp [rowS, wkD, Wk.row, partD4, clmD, pureRow_map, hrt, hset]) | (apply fillE; simp only [List.set_cons_succ, List.set_cons_zero, List.take_succ_cons, List.take_zero, List.drop_succ_cons, List.drop_zero, List.drop_nil, List.cons_append, List.nil_append, List.append_nil, wkD, Wk.row, partD4, clmD, pureRow_map, hrt, hset] <;> rfl)))) ?_
  refine SmG.store hF rfl rfl rfl rfl rfl (by simp (disch := omega) only [go_sem, Nat.reduceEqDiff, iteP, wkD, Wk.row, partD4, clmD, pureRow_map, hrt, hset] <;> rfl) ?_
  refine SmG.nil ?_
  refine nextS_normal ?_
  refine Sm.ret ?_
  refine retQ_cell rfl rfl (by simp (disch := omega) only [go_sem, Nat.reduceEqDiff, iteP, pureRow_map] <;> rfl) ?_
  exact D.le.refl _
end Go.Proofs.YtagfaaijgfigkaaDoor
namespace Go.Proofs.YtagfaaijgfigkaaDoor
open Go.RowKit
set_option maxRecDepth 100000
theorem outs_leL {C : Facts} : ∀ {ds ds' : List D} {vs : List Value}, leL ds ds' → Rp C (.outs ds vs) → Rp C (.outs ds' vs)
  | [], [], _, _, h => h
  | _ :: _, _ :: _, _, hl, h => by cases h with | ocons _ v _ vs h1 h2 => exact .ocons _ _ _ _ (hl.1 C v h1) (outs_leL hl.2 h2)
  | [], _ :: _, _, hl, _ => hl.elim
  | _ :: _, [], _, hl, _ => hl.elim
theorem CallsD.leArgs {P : Program} {G : Nat → Option D} {f : FuncId} {ds ds' : List D} {r : D} (h : CallsD P G f ds' r) (hl : leL ds ds') : CallsD P G f ds r := h.args fun _ _ k => outs_leL hl k
def v7 : List Res := [⟨1, 1⟩, ⟨1, 3⟩, ⟨1, 5⟩, ⟨1, 7⟩, ⟨1, 9⟩, ⟨1, 11⟩, ⟨1, 13⟩]
def late2 : Wk := ⟨3, 0, 2, ⟨0, 0⟩⟩
def hon : Wk := ⟨1, 0, 0, ⟨0, 0⟩⟩
theorem s_one : claimW late2 4 1 v7 1 3 = (noClm, false) := by simp [claimW, saidW, late2, v7]
theorem s_two : claimW late2 4 2 v7 1 3 = (⟨4, 1, 3, partOfL v7 1 3, Sha.root ((partOfL v7 1 3).map resBytes)⟩, true) := by simp [claimW, saidW, late2, v7]
theorem s_cut72 : cutL 7 2 = [(0, 4), (4, 7)] := by decide
theorem s_cut73 : cutL 7 3 = [(0, 3), (3, 5), (5, 7)] := by decide
theorem s_cut25 : cutL 2 5 = [(0, 1), (1, 2)] := by decide
theorem s_cut03 : cutL 0 3 = [] := by decide
theorem s_cut30 : cutL 3 0 = [] := by decide
theorem s_cutBig : cutL 4001 2 = [] := by decide
theorem s_round : ∃ R0 R1 R2, roundW [hon, hon, hon] v7 2 0 = [⟨0, 0, 4, partOfL v7 0 4, R0⟩, ⟨1, 4, 7, partOfL v7 4 7, R1⟩, ⟨2, 0, 4, partOfL v7 0 4, R2⟩] := by
  refine ⟨Sha.root ((partOfL v7 0 4).map resBytes), Sha.root ((partOfL v7 4 7).map resBytes), Sha.root ((partOfL v7 0 4).map resBytes), ?_⟩
  unfold roundW
  rw [show ((v7.length : Nat) : Int) = 7 from rfl, s_cut72]
  rfl
def vAt (i : Nat) : List Res := v7.take i ++ List.replicate (7 - i) ⟨0, 0⟩
theorem vAt_set (i : Nat) (h : i < 7) : (List.map (fun r => List.map V.d r) ((vAt i).map Res.row)).set i [V.d (.v (.int .i64 1)), V.d (.v (.int .i64 (1 + 2 * (i : Int))))] = List.map (fun r => List.map V.d r) ((vAt (i + 1)).map Res.row) := by
  match i, h with
  | 0, _ => rfl
  | 1, _ => rfl
  | 2, _ => rfl
  | 3, _ => rfl
  | 4, _ => rfl
  | 5, _ => rfl
  | 6, _ => rfl
theorem vAt_get (i : Nat) (h : i < 7) : ((vAt i).map Res.row)[i]? = some [.v (.int .i64 0), .v (.int .i64 0)] := by
  match i, h with
  | 0, _ => rfl
  | 1, _ => rfl
  | 2, _ => rfl
  | 3, _ => rfl
  | 4, _ => rfl
  | 5, _ => rfl
  | 6, _ => rfl
set_option maxHeartbeats 4000000 in
theorem sanity_D : CallsD Tryd.prog HG 10 [] (.v (.bool true)) := by
  have hw1 := lawWork_D late2 4 1 v7 1 3 (by decide)
  rw [s_one] at hw1
  have hw2 := lawWork_D late2 4 2 v7 1 3 (by decide)
  rw [s_two] at hw2
  have hRl := Sha.root_len ((partOfL v7 1 3).map resBytes)
  obtain ⟨R0, R1, R2, hr⟩ := s_round
  have hrd := (round_D [hon, hon, hon] v7 2 0 (by decide) (by decide)).leArgs (ds := [.list 5 [hon.row, hon.row, hon.row] true, ressL v7, .v (.int .i64 2), .v (.int .i64 0)]) ⟨D.le_full _ _ _, D.le.refl _, D.le.refl _, D.le.refl _, trivial⟩
  rw [hr] at hrd
  clear hr
  obtain ⟨CL, hCL⟩ : ∃ CL, CL = [Clm.mk 0 0 4 (partOfL v7 0 4) R0, ⟨1, 4, 7, partOfL v7 4 7, R1⟩, ⟨2, 0, 4, partOfL v7 0 4, R2⟩] := ⟨_, rfl⟩
  rw [← hCL] at hrd
  have hCn : CL.length = 3 := by rw [hCL]; rfl
  obtain ⟨r0, hC0, hr02⟩ : ∃ r0 : Clm, CL[0]? = some r0 ∧ r0.hi = 4 := ⟨_, by rw [hCL]; rfl, rfl⟩
  obtain ⟨r1, hC1, hr11⟩ : ∃ r0 : Clm, CL[1]? = some r0 ∧ r0.lo = 4 := ⟨_, by rw [hCL]; rfl, rfl⟩
  obtain ⟨r2, hC2, hr22, hr20⟩ : ∃ r0 : Clm, CL[2]? = some r0 ∧ r0.hi = 4 ∧ r0.who = 2 := ⟨_, by rw [hCL]; rfl, rfl, rfl⟩
  clear hCL
  have hby := workBytes_D ⟨1, 258⟩ HG
  have hc1 := cut17_D 7 3 HG
  have hc2 := cut17_D 2 5 HG
  have hc3 := cut17_D 0 3 HG
  have hc4 := cut17_D 3 0 HG
  have hc5 := cut17_D 4001 2 HG
  rw [s_cut73] at hc1
  rw [s_cut25] at hc2
  rw [s_cut03] at hc3
  rw [s_cut30] at hc4
  rw [s_cutBig] at hc5
  have hp1 := (sameParts_D [(0, 3), (3, 5), (5, 7)] [(0, 3), (3, 5), (5, 7)] (by decide) HG rfl).leArgs (ds := [partsD [(0, 3), (3, 5), (5, 7)], .list 2 ([(0, 3), (3, 5), (5, 7)].map rowP) true]) ⟨D.le.refl _, D.le_full _ _ _, trivial⟩
  have hp2 := (sameParts_D [(0, 1), (1, 2)] [(0, 1), (1, 2)] (by decide) HG rfl).leArgs (ds := [partsD [(0, 1), (1, 2)], .list 2 ([(0, 1), (1, 2)].map rowP) true]) ⟨D.le.refl _, D.le_full _ _ _, trivial⟩
  simp only [decide_true] at hp1 hp2
  have hsd : CallsD Tryd.prog HG 26 [clmD ⟨4, 1, 3, partOfL v7 1 3, Sha.root ((partOfL v7 1 3).map resBytes)⟩] (.v (.bool true)) := by
    have := sound_D ⟨4, 1, 3, partOfL v7 1 3, Sha.root ((partOfL v7 1 3).map resBytes)⟩ hRl (by decide) (by decide)
    rwa [show soundC ⟨4, 1, 3, partOfL v7 1 3, Sha.root ((partOfL v7 1 3).map resBytes)⟩ = true by simp [soundC]; decide] at this
  have hsn := (sound_D ⟨0, 1, 2, [], List.replicate 32 0⟩ rfl (by decide) (by decide)).leArgs (ds := [.agg 36 (.v (.int .i64 0) :: .v (.int .i64 1) :: .v (.int .i64 2) :: .list 0 [] true :: rowS (List.replicate 32 0))]) ⟨D.le_agg ⟨D.le.refl _, D.le.refl _, D.le.refl _, D.le_nil' 0 2 true, leL.refl _⟩, trivial⟩
  rw [show soundC ⟨0, 1, 2, [], List.replicate 32 0⟩ = false from decide_eq_false (by decide)] at hsn
  have hsr := (sameResults_D (partOfL v7 1 3) (partOfL v7 1 3) (by decide) HG rfl)
  simp only [decide_true] at hsr
  generalize Sha.root ((partOfL v7 1 3).map resBytes) = R at hw2 hRl hsd
  have hA36 : (noClm.row ++ [D.v (.bool false)])[36]? = some (D.v (.bool false)) := rfl
  unfold saidD at hw1 hw2
  simp only at hw1 hw2
  generalize noClm.row ++ [D.v (.bool false)] = RA at hw1 hA36
  have hRr : (Clm.mk 4 1 3 (partOfL v7 1 3) R).row.length = 36 := clm_row_len hRl
  have hB0 : ((Clm.mk 4 1 3 (partOfL v7 1 3) R).row ++ [D.v (.bool true)])[0]? = some (D.v (.int .i64 4)) := rfl
  have hB1 : ((Clm.mk 4 1 3 (partOfL v7 1 3) R).row ++ [D.v (.bool true)])[1]? = some (D.v (.int .i64 1)) := rfl
  have hB2 : ((Clm.mk 4 1 3 (partOfL v7 1 3) R).row ++ [D.v (.bool true)])[2]? = some (D.v (.int .i64 3)) := rfl
  have hB3 : ((Clm.mk 4 1 3 (partOfL v7 1 3) R).row ++ [D.v (.bool true)])[3]? = some (ressL (partOfL v7 1 3)) := rfl
  have hB36 : ((Clm.mk 4 1 3 (partOfL v7 1 3) R).row ++ [D.v (.bool true)])[36]? = some (D.v (.bool true)) := by rw [List.getElem?_append_right (by omega), hRr]; rfl
  have hBt : List.take 36 (List.map V.d ((Clm.mk 4 1 3 (partOfL v7 1 3) R).row ++ [D.v (.bool true)])) = List.map V.d (Clm.mk 4 1 3 (partOfL v7 1 3) R).row := by
    rw [← List.map_take, List.take_append_of_le_length (by omega), List.take_of_length_le (by omega)]
  generalize (Clm.mk 4 1 3 (partOfL v7 1 3) R).row ++ [D.v (.bool true)] = RB at hw2 hB0 hB1 hB2 hB3 hB36 hBt
  refine CallsD.of Tryd.func10 rfl Tryd.ntmps10 (by simp) ?_; intro F hF h0 hT; simp only [List.zipIdx_cons, List.zipIdx_nil, List.map_cons, List.map_nil, Nat.zero_add, Nat.reduceAdd]
  refine Sm.seq ?_
  refine Sm.regionG hF rfl ?_
  refine SmG.v hF rfl rfl rfl (opV_assign rfl rfl) ?_
  refine SmG.nil ?_
  refine nextS_normal ?_
  refine Sm.seq ?_
  refine Sm.regionG hF rfl ?_
  refine SmG.makeOwn hF elRes (by decide) 7 rfl rfl rfl rfl rfl rfl (by omega) (by omega) ?_
  refine SmG.v hF rfl rfl rfl (opV_assign rfl rfl) ?_
  refine SmG.nil ?_
  refine nextS_normal ?_
  refine Sm.seq ?_
  refine Sm.seq ?_
  refine Sm.regionG hF rfl ?_
  refine SmG.v hF rfl rfl rfl (opV_assign rfl rfl) ?_
  refine SmG.nil ?_
  refine nextS_normal ?_
  refine Sm.block ?_
  refine Sm.loop (ι := {i : Nat // i ≤ 7}) (fun i => ⟨[(1, .sref 0 0 7), (2, .d (.v (.int .i64 i.1)))], [(0, dB 2 ((vAt i.1).map Res.row))], 1⟩) (fun i => 7 - i.1) (⟨0, by omega⟩) ?_ ?_
  · exact St.le_of ⟨rfl, rfl, trivial⟩ ⟨rfl, trivial⟩ (Nat.le_refl _)
  rintro ⟨i, hi⟩
  simp only
  by_cases hlt : i < 7
  · have hget := vAt_get i hlt
    have hset := vAt_set i hlt
    have he : (i : Int) + 1 = ((i + 1 : Nat) : Int) := by omega
    refine Sm.seq ?_
    refine Sm.seq ?_
    refine Sm.regionG hF rfl ?_
    refine SmG.v hF rfl rfl rfl (opV_move rfl rfl) ?_
    refine SmG.v hF rfl rfl rfl (opV_bin rfl rfl rfl (by first | exact rd_lssT _ _ _ _ _ (by omega) | exact rd_lssF _ _ _ _ _ (by omega) | exact rb_lss _ _ _ _ _ _ _)) ?_
    refine SmG.nil ?_
    refine nextS_normal ?_
    refine Sm.condT hF rfl ?_
    refine Sm.skip ?_
    refine nextS_normal ?_
    refine Sm.seq ?_
    refine Sm.block ?_
    refine Sm.regionG hF rfl ?_
    refine SmG.v hF rfl rfl rfl (opV_move rfl rfl) ?_
    refine SmG.v hF rfl rfl rfl (opV_move rfl rfl) ?_
    refine SmG.v hF rfl rfl rfl (opV_move rfl rfl) ?_
    refine SmG.v hF rfl rfl rfl (opV_bin rfl rfl rfl (by first | exact rd_mul _ _ _ _ _ (wrapI64 _ (by omega)) | exact rb_mul _ _ _ _ _ _ _)) ?_
    refine SmG.v hF rfl rfl rfl (opV_bin rfl rfl rfl (by first | exact rd_add _ _ _ _ _ (wrapI64 _ (by omega)) | exact rb_add _ _ _ _ _ _ _)) ?_
    refine SmG.v hF rfl rfl rfl (opV_buildT rfl Tryd.underlying34 (by kernel_rfl) rfl (by simp (disch := omega) only [go_sem, Nat.reduceEqDiff, iteP, hget, hset, dB] <;> rfl)) ?_
    refine SmG.v hF rfl rfl rfl (opV_indexAddr rfl rfl rfl (by simp (disch := omega) only [go_sem, Nat.reduceEqDiff, iteP, hget, hset, dB] <;> rfl)) ?_
    refine SmG.store hF rfl rfl rfl rfl rfl (by simp (disch := omega) only [go_sem, Nat.reduceEqDiff, iteP, hget, hset, dB] <;> rfl) ?_
    refine SmG.nil ?_
    refine blockS_normal ?_
    refine nextS_normal ?_
    refine Sm.regionG hF rfl ?_
    refine SmG.v hF rfl rfl rfl (opV_move rfl rfl) ?_
    refine SmG.v hF rfl rfl rfl (opV_bin rfl rfl rfl (by first | exact rd_add _ _ _ _ _ (wrapI64 _ (by omega)) | exact rb_add _ _ _ _ _ _ _)) ?_
    refine SmG.v hF rfl rfl rfl (opV_assign rfl rfl) ?_
    refine SmG.nil ?_
    refine nextS_normal ?_
    rw [he]
    exact ⟨⟨i + 1, by omega⟩, by show 7 - (i + 1) < 7 - i; omega, St.le_of ⟨rfl, rfl, trivial⟩ ⟨rfl, trivial⟩ (Nat.le_refl _)⟩
  · obtain rfl : i = 7 := by omega
    refine Sm.seq ?_
    refine Sm.seq ?_
    refine Sm.regionG hF rfl ?_
    refine SmG.v hF rfl rfl rfl (opV_move rfl rfl) ?_
    refine SmG.v hF rfl rfl rfl (opV_bin rfl rfl rfl (by first | exact rd_lssT _ _ _ _ _ (by omega) | exact rd_lssF _ _ _ _ _ (by omega) | exact rb_lss _ _ _ _ _ _ _)) ?_
    refine SmG.nil ?_
    refine nextS_normal ?_
    refine Sm.condF hF rfl ?_
    refine Sm.freeze (l := 0) (v7.map Res.row) rfl ?_
    simp only [Pk.v, frzE, frzV, dropH,  reduceIte, Nat.reduceAdd, Nat.zero_add, List.length_map, List.length_append, Nat.le_refl, true_and, and_self, if_true, Nat.reduceEqDiff, true_and]
    refine Sm.exit ?_
    simp only [nextS, blockS, reduceIte, reduceCtorEq]
    refine Sm.seq ?_
    refine Sm.regionG hF rfl ?_
    refine SmG.v hF rfl rfl rfl (opV_buildT rfl Tryd.underlying36 (by kernel_rfl) rfl (buildS_struct (n := 5) ze36 pl36 rfl (by repeat' first | apply fill_oneE rfl rfl (by first | rfl | simp [rowS, v7, hon, late2, Wk.row, Res.row, ressL, hA36, hB0, hB1, hB2, hB3, hB36, hBt, pureRow_map, clmsL, hCn, hC0, hC1, hC2, Int.reduceToNat]) | apply fill_aggE rfl rfl rfl (by first | assumption | simp [rowS, v7, hon, late2, Wk.row, Res.row, ressL, hA36, hB0, hB1, hB2, hB3, hB36, hBt, pureRow_map, clmsL, hCn, hC0, hC1, hC2, Int.reduceToNat]) | (apply fillE; simp only [List.set_cons_succ, List.set_cons_zero, List.take_succ_cons, List.take_zero, List.drop_succ_cons, List.drop_zero, List.drop_nil, List.cons_append, List.nil_append, List.append_nil, v7, hon, late2, Wk.row, Res.row, ressL, hA36, hB0, hB1, hB2, hB3, hB36, hBt, pureRow_map, clmsL, hCn, hC0, hC1, hC2, Int.reduceToNat] <;> rfl)))) ?_
    refine SmG.new hF rfl rfl rfl (opS_alloc rfl al36) ?_
    refine SmG.store hF rfl rfl rfl rfl rfl (by simp (disch := omega) only [go_sem, Nat.reduceEqDiff, iteP, v7, hon, late2, Wk.row, Res.row, ressL, hA36, hB0, hB1, hB2, hB3, hB36, hBt, pureRow_map, clmsL, hCn, hC0, hC1, hC2, Int.reduceToNat] <;> rfl) ?_
    refine SmG.nil ?_
    refine nextS_normal ?_
    refine Sm.seq ?_
    refine Sm.regionG hF rfl ?_
    refine SmG.v hF rfl rfl rfl (opV_load rfl rfl (by simp (disch := omega) only [go_sem, Nat.reduceEqDiff, iteP, v7, hon, late2, Wk.row, Res.row, ressL, hA36, hB0, hB1, hB2, hB3, hB36, hBt, pureRow_map, clmsL, hCn, hC0, hC1, hC2, Int.reduceToNat] <;> rfl)) ?_
    refine SmG.v hF rfl rfl rfl (opV_buildT rfl Tryd.underlying32 (by kernel_rfl) rfl (buildS_struct (n := 4) ze32 pl32 rfl (by repeat' first | apply fill_oneE rfl rfl (by first | rfl | simp [rowS, v7, hon, late2, Wk.row, Res.row, ressL, hA36, hB0, hB1, hB2, hB3, hB36, hBt, pureRow_map, clmsL, hCn, hC0, hC1, hC2, Int.reduceToNat]) | apply fill_aggE rfl rfl rfl (by first | assumption | simp [rowS, v7, hon, late2, Wk.row, Res.row, ressL, hA36, hB0, hB1, hB2, hB3, hB36, hBt, pureRow_map, clmsL, hCn, hC0, hC1, hC2, Int.reduceToNat]) | (apply fillE; simp only [List.set_cons_succ, List.set_cons_zero, List.take_succ_cons, List.take_zero, List.drop_succ_cons, List.drop_zero, List.drop_nil, List.cons_append, List.nil_append, List.append_nil, v7, hon, late2, Wk.row, Res.row, ressL, hA36, hB0, hB1, hB2, hB3, hB36, hBt, pureRow_map, clmsL, hCn, hC0, hC1, hC2, Int.reduceToNat] <;> rfl)))) ?_
    refine SmG.v hF rfl rfl rfl (opV_move rfl rfl) ?_
    refine SmG.call hF rfl rfl (by kernel_rfl) rfl rfl rfl (hw1) ?_
    refine SmG.new hF rfl rfl rfl (opS_alloc rfl al43) ?_
    refine SmG.store hF rfl rfl rfl rfl rfl (by simp (disch := omega) only [go_sem, Nat.reduceEqDiff, iteP, v7, hon, late2, Wk.row, Res.row, ressL, hA36, hB0, hB1, hB2, hB3, hB36, hBt, pureRow_map, clmsL, hCn, hC0, hC1, hC2, Int.reduceToNat] <;> rfl) ?_
    refine SmG.nil ?_
    refine nextS_normal ?_
    refine Sm.seq ?_
    refine Sm.regionG hF rfl ?_
    refine SmG.v hF rfl rfl rfl (opV_load rfl rfl (by simp (disch := omega) only [go_sem, Nat.reduceEqDiff, iteP, v7, hon, late2, Wk.row, Res.row, ressL, hA36, hB0, hB1, hB2, hB3, hB36, hBt, pureRow_map, clmsL, hCn, hC0, hC1, hC2, Int.reduceToNat] <;> rfl)) ?_
    refine SmG.v hF rfl rfl rfl (opV_buildT rfl Tryd.underlying32 (by kernel_rfl) rfl (buildS_struct (n := 4) ze32 pl32 rfl (by repeat' first | apply fill_oneE rfl rfl (by first | rfl | simp [rowS, v7, hon, late2, Wk.row, Res.row, ressL, hA36, hB0, hB1, hB2, hB3, hB36, hBt, pureRow_map, clmsL, hCn, hC0, hC1, hC2, Int.reduceToNat]) | apply fill_aggE rfl rfl rfl (by first | assumption | simp [rowS, v7, hon, late2, Wk.row, Res.row, ressL, hA36, hB0, hB1, hB2, hB3, hB36, hBt, pureRow_map, clmsL, hCn, hC0, hC1, hC2, Int.reduceToNat]) | (apply fillE; simp only [List.set_cons_succ, List.set_cons_zero, List.take_succ_cons, List.take_zero, List.drop_succ_cons, List.drop_zero, List.drop_nil, List.cons_append, List.nil_append, List.append_nil, v7, hon, late2, Wk.row, Res.row, ressL, hA36, hB0, hB1, hB2, hB3, hB36, hBt, pureRow_map, clmsL, hCn, hC0, hC1, hC2, Int.reduceToNat] <;> rfl)))) ?_
    refine SmG.v hF rfl rfl rfl (opV_move rfl rfl) ?_
    refine SmG.call hF rfl rfl (by kernel_rfl) rfl rfl rfl (hw2) ?_
    refine SmG.new hF rfl rfl rfl (opS_alloc rfl al43) ?_
    refine SmG.store hF rfl rfl rfl rfl rfl (by simp (disch := omega) only [go_sem, Nat.reduceEqDiff, iteP, v7, hon, late2, Wk.row, Res.row, ressL, hA36, hB0, hB1, hB2, hB3, hB36, hBt, pureRow_map, clmsL, hCn, hC0, hC1, hC2, Int.reduceToNat] <;> rfl) ?_
    refine SmG.nil ?_
    refine nextS_normal ?_
    refine Sm.seq ?_
    refine Sm.regionG hF rfl ?_
    refine SmG.v hF rfl rfl rfl (opV_buildT rfl Tryd.underlying36 (by kernel_rfl) rfl (buildS_struct (n := 5) ze36 pl36 rfl (by repeat' first | apply fill_oneE rfl rfl (by first | rfl | simp [rowS, v7, hon, late2, Wk.row, Res.row, ressL, hA36, hB0, hB1, hB2, hB3, hB36, hBt, pureRow_map, clmsL, hCn, hC0, hC1, hC2, Int.reduceToNat]) | apply fill_aggE rfl rfl rfl (by first | assumption | simp [rowS, v7, hon, late2, Wk.row, Res.row, ressL, hA36, hB0, hB1, hB2, hB3, hB36, hBt, pureRow_map, clmsL, hCn, hC0, hC1, hC2, Int.reduceToNat]) | (apply fillE; simp only [List.set_cons_succ, List.set_cons_zero, List.take_succ_cons, List.take_zero, List.drop_succ_cons, List.drop_zero, List.drop_nil, List.cons_append, List.nil_append, List.append_nil, v7, hon, late2, Wk.row, Res.row, ressL, hA36, hB0, hB1, hB2, hB3, hB36, hBt, pureRow_map, clmsL, hCn, hC0, hC1, hC2, Int.reduceToNat] <;> rfl)))) ?_
    refine SmG.new hF rfl rfl rfl (opS_alloc rfl al36) ?_
    refine SmG.store hF rfl rfl rfl rfl rfl (by simp (disch := omega) only [go_sem, Nat.reduceEqDiff, iteP, v7, hon, late2, Wk.row, Res.row, ressL, hA36, hB0, hB1, hB2, hB3, hB36, hBt, pureRow_map, clmsL, hCn, hC0, hC1, hC2, Int.reduceToNat] <;> rfl) ?_
    refine SmG.nil ?_
    refine nextS_normal ?_
    refine Sm.seq ?_
    refine Sm.regionG hF rfl ?_
    refine SmG.v hF rfl rfl rfl (opV_load rfl rfl (by simp (disch := omega) only [go_sem, Nat.reduceEqDiff, iteP, v7, hon, late2, Wk.row, Res.row, ressL, hA36, hB0, hB1, hB2, hB3, hB36, hBt, pureRow_map, clmsL, hCn, hC0, hC1, hC2, Int.reduceToNat] <;> rfl)) ?_
    refine SmG.v hF rfl rfl rfl (opV_load rfl rfl (by simp (disch := omega) only [go_sem, Nat.reduceEqDiff, iteP, v7, hon, late2, Wk.row, Res.row, ressL, hA36, hB0, hB1, hB2, hB3, hB36, hBt, pureRow_map, clmsL, hCn, hC0, hC1, hC2, Int.reduceToNat] <;> rfl)) ?_
    refine SmG.v hF rfl rfl rfl (opV_load rfl rfl (by simp (disch := omega) only [go_sem, Nat.reduceEqDiff, iteP, v7, hon, late2, Wk.row, Res.row, ressL, hA36, hB0, hB1, hB2, hB3, hB36, hBt, pureRow_map, clmsL, hCn, hC0, hC1, hC2, Int.reduceToNat] <;> rfl)) ?_
    refine SmG.v hF rfl rfl rfl (opV_buildSlice rfl rfl (by simp (disch := omega) only [go_sem, Nat.reduceEqDiff, iteP, v7, hon, late2, Wk.row, Res.row, ressL, hA36, hB0, hB1, hB2, hB3, hB36, hBt, pureRow_map, clmsL, hCn, hC0, hC1, hC2, Int.reduceToNat] <;> rfl)) ?_
    refine SmG.v hF rfl rfl rfl (opV_move rfl rfl) ?_
    refine SmG.call hF rfl rfl (by kernel_rfl) rfl rfl rfl (hrd) ?_
    refine SmG.v hF rfl rfl rfl (opV_assign rfl rfl) ?_
    refine SmG.nil ?_
    refine nextS_normal ?_
    refine Sm.seq ?_
    refine Sm.regionG hF rfl ?_
    refine SmG.v hF rfl rfl rfl (opV_buildT rfl Tryd.underlying34 (by kernel_rfl) rfl (by simp (disch := omega) only [go_sem, Nat.reduceEqDiff, iteP, v7, hon, late2, Wk.row, Res.row, ressL, hA36, hB0, hB1, hB2, hB3, hB36, hBt, pureRow_map, clmsL, hCn, hC0, hC1, hC2, Int.reduceToNat] <;> rfl)) ?_
    refine SmG.call hF rfl rfl (by kernel_rfl) rfl rfl rfl (hby) ?_
    refine SmG.v hF rfl rfl rfl (opV_conv rfl rfl (by simp (disch := omega) only [go_sem, Nat.reduceEqDiff, iteP, v7, hon, late2, Wk.row, Res.row, ressL, hA36, hB0, hB1, hB2, hB3, hB36, hBt, pureRow_map, clmsL, hCn, hC0, hC1, hC2, Int.reduceToNat] <;> rfl)) ?_
    refine SmG.v hF rfl rfl rfl (opV_bin rfl rfl rfl ((rb_seql _ _ _ _ _ _).trans (congrArg (fun b => some (Value.bool b)) (by decide +kernel : _ = true)))) ?_
    refine SmG.v hF rfl rfl rfl (opV_assign rfl rfl) ?_
    refine SmG.nil ?_
    refine nextS_normal ?_
    refine Sm.seq ?_
    refine Sm.regionG hF rfl ?_
    refine SmG.call hF rfl rfl (by kernel_rfl) rfl rfl rfl (hc1) ?_
    refine SmG.v hF rfl rfl rfl (opV_buildA rfl Tryd.underlying56 rfl (by simp (disch := omega) only [go_sem, Nat.reduceEqDiff, iteP, v7, hon, late2, Wk.row, Res.row, ressL, hA36, hB0, hB1, hB2, hB3, hB36, hBt, pureRow_map, clmsL, hCn, hC0, hC1, hC2, Int.reduceToNat] <;> rfl)) ?_
    refine SmG.v hF rfl rfl rfl (opV_buildA rfl Tryd.underlying56 rfl (by simp (disch := omega) only [go_sem, Nat.reduceEqDiff, iteP, v7, hon, late2, Wk.row, Res.row, ressL, hA36, hB0, hB1, hB2, hB3, hB36, hBt, pureRow_map, clmsL, hCn, hC0, hC1, hC2, Int.reduceToNat] <;> rfl)) ?_
    refine SmG.v hF rfl rfl rfl (opV_buildA rfl Tryd.underlying56 rfl (by simp (disch := omega) only [go_sem, Nat.reduceEqDiff, iteP, v7, hon, late2, Wk.row, Res.row, ressL, hA36, hB0, hB1, hB2, hB3, hB36, hBt, pureRow_map, clmsL, hCn, hC0, hC1, hC2, Int.reduceToNat] <;> rfl)) ?_
    refine SmG.v hF rfl rfl rfl (opV_buildSlice rfl rfl (by simp (disch := omega) only [go_sem, Nat.reduceEqDiff, iteP, v7, hon, late2, Wk.row, Res.row, ressL, hA36, hB0, hB1, hB2, hB3, hB36, hBt, pureRow_map, clmsL, hCn, hC0, hC1, hC2, Int.reduceToNat] <;> rfl)) ?_
    refine SmG.call hF rfl rfl (by kernel_rfl) rfl rfl rfl (hp1) ?_
    refine SmG.v hF rfl rfl rfl (opV_move rfl rfl) ?_
    first | refine SmG.call hF rfl rfl (by kernel_rfl) rfl rfl rfl (hc2) ?_ | refine SmG.pass hF rfl rfl rfl ?_
    first | refine SmG.v hF rfl rfl rfl (opV_buildA rfl Tryd.underlying56 rfl (by simp (disch := omega) only [go_sem, Nat.reduceEqDiff, iteP, v7, hon, late2, Wk.row, Res.row, ressL, hA36, hB0, hB1, hB2, hB3, hB36, hBt, pureRow_map, clmsL, hCn, hC0, hC1, hC2, Int.reduceToNat] <;> rfl)) ?_ | refine SmG.pass hF rfl rfl rfl ?_
    first | refine SmG.v hF rfl rfl rfl (opV_buildA rfl Tryd.underlying56 rfl (by simp (disch := omega) only [go_sem, Nat.reduceEqDiff, iteP, v7, hon, late2, Wk.row, Res.row, ressL, hA36, hB0, hB1, hB2, hB3, hB36, hBt, pureRow_map, clmsL, hCn, hC0, hC1, hC2, Int.reduceToNat] <;> rfl)) ?_ | refine SmG.pass hF rfl rfl rfl ?_
    first | refine SmG.v hF rfl rfl rfl (opV_buildSlice rfl rfl (by simp (disch := omega) only [go_sem, Nat.reduceEqDiff, iteP, v7, hon, late2, Wk.row, Res.row, ressL, hA36, hB0, hB1, hB2, hB3, hB36, hBt, pureRow_map, clmsL, hCn, hC0, hC1, hC2, Int.reduceToNat] <;> rfl)) ?_ | refine SmG.pass hF rfl rfl rfl ?_
    first | refine SmG.call hF rfl rfl (by kernel_rfl) rfl rfl rfl (hp2) ?_ | refine SmG.pass hF rfl rfl rfl ?_
    first | refine SmG.v hF rfl rfl rfl (opV_pickT rfl rfl rfl) ?_ | refine SmG.v hF rfl rfl rfl (opV_pickF rfl rfl rfl) ?_
    refine SmG.v hF rfl rfl rfl (opV_move rfl rfl) ?_
    first | refine SmG.call hF rfl rfl (by kernel_rfl) rfl rfl rfl (hc3) ?_ | refine SmG.pass hF rfl rfl rfl ?_
    first | refine SmG.v hF rfl rfl rfl (opV_len rfl rfl (by simp (disch := omega) only [go_sem, Nat.reduceEqDiff, iteP, v7, hon, late2, Wk.row, Res.row, ressL, hA36, hB0, hB1, hB2, hB3, hB36, hBt, pureRow_map, clmsL, hCn, hC0, hC1, hC2, Int.reduceToNat] <;> rfl)) ?_ | refine SmG.pass hF rfl rfl rfl ?_
    first | refine SmG.v hF rfl rfl rfl (opV_bin rfl rfl rfl (by first | exact rd_eqlT _ _ _ _ _ (by omega) | exact rd_eqlF _ _ _ _ _ (by omega) | exact rb_eql _ _ _ _ _ _ _)) ?_ | refine SmG.pass hF rfl rfl rfl ?_
    first | refine SmG.v hF rfl rfl rfl (opV_pickT rfl rfl rfl) ?_ | refine SmG.v hF rfl rfl rfl (opV_pickF rfl rfl rfl) ?_
    refine SmG.v hF rfl rfl rfl (opV_move rfl rfl) ?_
    first | refine SmG.call hF rfl rfl (by kernel_rfl) rfl rfl rfl (hc4) ?_ | refine SmG.pass hF rfl rfl rfl ?_
    first | refine SmG.v hF rfl rfl rfl (opV_len rfl rfl (by simp (disch := omega) only [go_sem, Nat.reduceEqDiff, iteP, v7, hon, late2, Wk.row, Res.row, ressL, hA36, hB0, hB1, hB2, hB3, hB36, hBt, pureRow_map, clmsL, hCn, hC0, hC1, hC2, Int.reduceToNat] <;> rfl)) ?_ | refine SmG.pass hF rfl rfl rfl ?_
    first | refine SmG.v hF rfl rfl rfl (opV_bin rfl rfl rfl (by first | exact rd_eqlT _ _ _ _ _ (by omega) | exact rd_eqlF _ _ _ _ _ (by omega) | exact rb_eql _ _ _ _ _ _ _)) ?_ | refine SmG.pass hF rfl rfl rfl ?_
    first | refine SmG.v hF rfl rfl rfl (opV_pickT rfl rfl rfl) ?_ | refine SmG.v hF rfl rfl rfl (opV_pickF rfl rfl rfl) ?_
    refine SmG.v hF rfl rfl rfl (opV_move rfl rfl) ?_
    first | refine SmG.call hF rfl rfl (by kernel_rfl) rfl rfl rfl (hc5) ?_ | refine SmG.pass hF rfl rfl rfl ?_
    first | refine SmG.v hF rfl rfl rfl (opV_len rfl rfl (by simp (disch := omega) only [go_sem, Nat.reduceEqDiff, iteP, v7, hon, late2, Wk.row, Res.row, ressL, hA36, hB0, hB1, hB2, hB3, hB36, hBt, pureRow_map, clmsL, hCn, hC0, hC1, hC2, Int.reduceToNat] <;> rfl)) ?_ | refine SmG.pass hF rfl rfl rfl ?_
    first | refine SmG.v hF rfl rfl rfl (opV_bin rfl rfl rfl (by first | exact rd_eqlT _ _ _ _ _ (by omega) | exact rd_eqlF _ _ _ _ _ (by omega) | exact rb_eql _ _ _ _ _ _ _)) ?_ | refine SmG.pass hF rfl rfl rfl ?_
    first | refine SmG.v hF rfl rfl rfl (opV_pickT rfl rfl rfl) ?_ | refine SmG.v hF rfl rfl rfl (opV_pickF rfl rfl rfl) ?_
    refine SmG.v hF rfl rfl rfl (opV_assign rfl rfl) ?_
    refine SmG.nil ?_
    refine nextS_normal ?_
    refine Sm.seq ?_
    refine Sm.seq ?_
    refine Sm.regionG hF rfl ?_
    refine SmG.v hF rfl rfl rfl (opV_move rfl rfl) ?_
    refine SmG.v hF rfl rfl rfl (opV_un rfl rfl (by first | exact rd_notT _ | exact rd_notF _ | exact rd_not _)) ?_
    refine SmG.v hF rfl rfl rfl (opV_move rfl rfl) ?_
    first | refine SmG.v hF rfl rfl rfl (opV_move rfl rfl) ?_ | refine SmG.pass hF rfl rfl rfl ?_
    first | refine SmG.v hF rfl rfl rfl (opV_un rfl rfl (by first | exact rd_notT _ | exact rd_notF _ | exact rd_not _)) ?_ | refine SmG.pass hF rfl rfl rfl ?_
    first | refine SmG.v hF rfl rfl rfl (opV_pickT rfl rfl rfl) ?_ | refine SmG.v hF rfl rfl rfl (opV_pickF rfl rfl rfl) ?_
    refine SmG.v hF rfl rfl rfl (opV_move rfl rfl) ?_
    first | refine SmG.v hF rfl rfl rfl (opV_fieldAddr rfl rfl (by simp (disch := omega) only [go_sem, Nat.reduceEqDiff, iteP, v7, hon, late2, Wk.row, Res.row, ressL, hA36, hB0, hB1, hB2, hB3, hB36, hBt, pureRow_map, clmsL, hCn, hC0, hC1, hC2, Int.reduceToNat] <;> rfl)) ?_ | refine SmG.pass hF rfl rfl rfl ?_
    first | refine SmG.v hF rfl rfl rfl (opV_load rfl rfl (by simp (disch := omega) only [go_sem, Nat.reduceEqDiff, iteP, v7, hon, late2, Wk.row, Res.row, ressL, hA36, hB0, hB1, hB2, hB3, hB36, hBt, pureRow_map, clmsL, hCn, hC0, hC1, hC2, Int.reduceToNat] <;> rfl)) ?_ | refine SmG.pass hF rfl rfl rfl ?_
    first | refine SmG.v hF rfl rfl rfl (opV_pickT rfl rfl rfl) ?_ | refine SmG.v hF rfl rfl rfl (opV_pickF rfl rfl rfl) ?_
    refine SmG.v hF rfl rfl rfl (opV_move rfl rfl) ?_
    first | refine SmG.v hF rfl rfl rfl (opV_fieldAddr rfl rfl (by simp (disch := omega) only [go_sem, Nat.reduceEqDiff, iteP, v7, hon, late2, Wk.row, Res.row, ressL, hA36, hB0, hB1, hB2, hB3, hB36, hBt, pureRow_map, clmsL, hCn, hC0, hC1, hC2, Int.reduceToNat] <;> rfl)) ?_ | refine SmG.pass hF rfl rfl rfl ?_
    first | refine SmG.v hF rfl rfl rfl (opV_load rfl rfl (by simp (disch := omega) only [go_sem, Nat.reduceEqDiff, iteP, v7, hon, late2, Wk.row, Res.row, ressL, hA36, hB0, hB1, hB2, hB3, hB36, hBt, pureRow_map, clmsL, hCn, hC0, hC1, hC2, Int.reduceToNat] <;> rfl)) ?_ | refine SmG.pass hF rfl rfl rfl ?_
    first | refine SmG.v hF rfl rfl rfl (opV_un rfl rfl (by first | exact rd_notT _ | exact rd_notF _ | exact rd_not _)) ?_ | refine SmG.pass hF rfl rfl rfl ?_
    first | refine SmG.v hF rfl rfl rfl (opV_pickT rfl rfl rfl) ?_ | refine SmG.v hF rfl rfl rfl (opV_pickF rfl rfl rfl) ?_
    refine SmG.v hF rfl rfl rfl (opV_move rfl rfl) ?_
    first | refine SmG.v hF rfl rfl rfl (opV_fieldAddr rfl rfl (by simp (disch := omega) only [go_sem, Nat.reduceEqDiff, iteP, v7, hon, late2, Wk.row, Res.row, ressL, hA36, hB0, hB1, hB2, hB3, hB36, hBt, pureRow_map, clmsL, hCn, hC0, hC1, hC2, Int.reduceToNat] <;> rfl)) ?_ | refine SmG.pass hF rfl rfl rfl ?_
    first | refine SmG.v hF rfl rfl rfl (opV_fieldAddr rfl rfl (by simp (disch := omega) only [go_sem, Nat.reduceEqDiff, iteP, v7, hon, late2, Wk.row, Res.row, ressL, hA36, hB0, hB1, hB2, hB3, hB36, hBt, pureRow_map, clmsL, hCn, hC0, hC1, hC2, Int.reduceToNat] <;> rfl)) ?_ | refine SmG.pass hF rfl rfl rfl ?_
    first | refine SmG.v hF rfl rfl rfl (opV_load rfl rfl (by simp (disch := omega) only [go_sem, Nat.reduceEqDiff, iteP, v7, hon, late2, Wk.row, Res.row, ressL, hA36, hB0, hB1, hB2, hB3, hB36, hBt, pureRow_map, clmsL, hCn, hC0, hC1, hC2, Int.reduceToNat] <;> rfl)) ?_ | refine SmG.pass hF rfl rfl rfl ?_
    first | refine SmG.v hF rfl rfl rfl (opV_bin rfl rfl rfl (by first | exact rd_neqT _ _ _ _ _ (by omega) | exact rd_neqF _ _ _ _ _ (by omega) | exact rb_neq _ _ _ _ _ _ _)) ?_ | refine SmG.pass hF rfl rfl rfl ?_
    first | refine SmG.v hF rfl rfl rfl (opV_pickT rfl rfl rfl) ?_ | refine SmG.v hF rfl rfl rfl (opV_pickF rfl rfl rfl) ?_
    refine SmG.v hF rfl rfl rfl (opV_move rfl rfl) ?_
    first | refine SmG.v hF rfl rfl rfl (opV_fieldAddr rfl rfl (by simp (disch := omega) only [go_sem, Nat.reduceEqDiff, iteP, v7, hon, late2, Wk.row, Res.row, ressL, hA36, hB0, hB1, hB2, hB3, hB36, hBt, pureRow_map, clmsL, hCn, hC0, hC1, hC2, Int.reduceToNat] <;> rfl)) ?_ | refine SmG.pass hF rfl rfl rfl ?_
    first | refine SmG.v hF rfl rfl rfl (opV_fieldAddr rfl rfl (by simp (disch := omega) only [go_sem, Nat.reduceEqDiff, iteP, v7, hon, late2, Wk.row, Res.row, ressL, hA36, hB0, hB1, hB2, hB3, hB36, hBt, pureRow_map, clmsL, hCn, hC0, hC1, hC2, Int.reduceToNat] <;> rfl)) ?_ | refine SmG.pass hF rfl rfl rfl ?_
    first | refine SmG.v hF rfl rfl rfl (opV_load rfl rfl (by simp (disch := omega) only [go_sem, Nat.reduceEqDiff, iteP, v7, hon, late2, Wk.row, Res.row, ressL, hA36, hB0, hB1, hB2, hB3, hB36, hBt, pureRow_map, clmsL, hCn, hC0, hC1, hC2, Int.reduceToNat] <;> rfl)) ?_ | refine SmG.pass hF rfl rfl rfl ?_
    first | refine SmG.v hF rfl rfl rfl (opV_bin rfl rfl rfl (by first | exact rd_neqT _ _ _ _ _ (by omega) | exact rd_neqF _ _ _ _ _ (by omega) | exact rb_neq _ _ _ _ _ _ _)) ?_ | refine SmG.pass hF rfl rfl rfl ?_
    first | refine SmG.v hF rfl rfl rfl (opV_pickT rfl rfl rfl) ?_ | refine SmG.v hF rfl rfl rfl (opV_pickF rfl rfl rfl) ?_
    refine SmG.v hF rfl rfl rfl (opV_move rfl rfl) ?_
    first | refine SmG.v hF rfl rfl rfl (opV_fieldAddr rfl rfl (by simp (disch := omega) only [go_sem, Nat.reduceEqDiff, iteP, v7, hon, late2, Wk.row, Res.row, ressL, hA36, hB0, hB1, hB2, hB3, hB36, hBt, pureRow_map, clmsL, hCn, hC0, hC1, hC2, Int.reduceToNat] <;> rfl)) ?_ | refine SmG.pass hF rfl rfl rfl ?_
    first | refine SmG.v hF rfl rfl rfl (opV_fieldAddr rfl rfl (by simp (disch := omega) only [go_sem, Nat.reduceEqDiff, iteP, v7, hon, late2, Wk.row, Res.row, ressL, hA36, hB0, hB1, hB2, hB3, hB36, hBt, pureRow_map, clmsL, hCn, hC0, hC1, hC2, Int.reduceToNat] <;> rfl)) ?_ | refine SmG.pass hF rfl rfl rfl ?_
    first | refine SmG.v hF rfl rfl rfl (opV_load rfl rfl (by simp (disch := omega) only [go_sem, Nat.reduceEqDiff, iteP, v7, hon, late2, Wk.row, Res.row, ressL, hA36, hB0, hB1, hB2, hB3, hB36, hBt, pureRow_map, clmsL, hCn, hC0, hC1, hC2, Int.reduceToNat] <;> rfl)) ?_ | refine SmG.pass hF rfl rfl rfl ?_
    first | refine SmG.v hF rfl rfl rfl (opV_bin rfl rfl rfl (by first | exact rd_neqT _ _ _ _ _ (by omega) | exact rd_neqF _ _ _ _ _ (by omega) | exact rb_neq _ _ _ _ _ _ _)) ?_ | refine SmG.pass hF rfl rfl rfl ?_
    first | refine SmG.v hF rfl rfl rfl (opV_pickT rfl rfl rfl) ?_ | refine SmG.v hF rfl rfl rfl (opV_pickF rfl rfl rfl) ?_
    refine SmG.v hF rfl rfl rfl (opV_move rfl rfl) ?_
    first | refine SmG.v hF rfl rfl rfl (opV_move rfl rfl) ?_ | refine SmG.pass hF rfl rfl rfl ?_
    first | refine SmG.v hF rfl rfl rfl (opV_len rfl rfl (by simp (disch := omega) only [go_sem, Nat.reduceEqDiff, iteP, v7, hon, late2, Wk.row, Res.row, ressL, hA36, hB0, hB1, hB2, hB3, hB36, hBt, pureRow_map, clmsL, hCn, hC0, hC1, hC2, Int.reduceToNat] <;> rfl)) ?_ | refine SmG.pass hF rfl rfl rfl ?_
    first | refine SmG.v hF rfl rfl rfl (opV_bin rfl rfl rfl (by first | exact rd_neqT _ _ _ _ _ (by omega) | exact rd_neqF _ _ _ _ _ (by omega) | exact rb_neq _ _ _ _ _ _ _)) ?_ | refine SmG.pass hF rfl rfl rfl ?_
    first | refine SmG.v hF rfl rfl rfl (opV_pickT rfl rfl rfl) ?_ | refine SmG.v hF rfl rfl rfl (opV_pickF rfl rfl rfl) ?_
    refine SmG.nil ?_
    refine nextS_normal ?_
    refine Sm.condF hF rfl ?_
    refine Sm.skip ?_
    refine nextS_normal ?_
    refine Sm.seq ?_
    refine Sm.drawG hF (by kernel_rfl) rfl 45 (by kernel_rfl) (by kernel_rfl) ?_
    simp only [List.take_succ_cons, List.take_zero, List.take_nil]
    refine Head.v hF rfl rfl rfl (opV_fieldAddr rfl rfl (by simp (disch := omega) only [go_sem, Nat.reduceEqDiff, iteP, v7, hon, late2, Wk.row, Res.row, ressL, hA36, hB0, hB1, hB2, hB3, hB36, hBt, pureRow_map, clmsL, hCn, hC0, hC1, hC2, Int.reduceToNat] <;> rfl)) ?_
    refine Head.v hF rfl rfl rfl (opV_fieldAddr rfl rfl (by simp (disch := omega) only [go_sem, Nat.reduceEqDiff, iteP, v7, hon, late2, Wk.row, Res.row, ressL, hA36, hB0, hB1, hB2, hB3, hB36, hBt, pureRow_map, clmsL, hCn, hC0, hC1, hC2, Int.reduceToNat] <;> rfl)) ?_
    refine Head.v hF rfl rfl rfl (opV_load rfl rfl (by simp (disch := omega) only [go_sem, Nat.reduceEqDiff, iteP, v7, hon, late2, Wk.row, Res.row, ressL, hA36, hB0, hB1, hB2, hB3, hB36, hBt, pureRow_map, clmsL, hCn, hC0, hC1, hC2, Int.reduceToNat] <;> rfl)) ?_
    refine Head.v hF rfl rfl rfl (opV_move rfl rfl) ?_
    refine Head.v hF rfl rfl rfl (opV_slice rfl rfl rfl rfl rfl (by simp (disch := omega) only [go_sem, Nat.reduceEqDiff, iteP, v7, hon, late2, Wk.row, Res.row, ressL, hA36, hB0, hB1, hB2, hB3, hB36, hBt, pureRow_map, clmsL, hCn, hC0, hC1, hC2, Int.reduceToNat] <;> rfl)) ?_
    refine Head.c hF rfl rfl (by kernel_rfl) rfl rfl rfl (hsr) ?_
    refine Head.v hF rfl rfl rfl (opV_move rfl rfl) ?_
    first | refine Head.v hF rfl rfl rfl (opV_move rfl rfl) ?_ | refine Head.p hF rfl rfl rfl ?_
    first | refine Head.v hF rfl rfl rfl (opV_indexAddr rfl rfl rfl (by simp (disch := omega) only [go_sem, Nat.reduceEqDiff, iteP, v7, hon, late2, Wk.row, Res.row, ressL, hA36, hB0, hB1, hB2, hB3, hB36, hBt, pureRow_map, clmsL, hCn, hC0, hC1, hC2, Int.reduceToNat] <;> rfl)) ?_ | refine Head.p hF rfl rfl rfl ?_
    first | refine Head.v hF rfl rfl rfl (opV_fieldAddr rfl rfl (by simp (disch := omega) only [go_sem, Nat.reduceEqDiff, iteP, v7, hon, late2, Wk.row, Res.row, ressL, hA36, hB0, hB1, hB2, hB3, hB36, hBt, pureRow_map, clmsL, hCn, hC0, hC1, hC2, Int.reduceToNat] <;> rfl)) ?_ | refine Head.p hF rfl rfl rfl ?_
    first | refine Head.v hF rfl rfl rfl (opV_load rfl rfl (by simp (disch := omega) only [go_sem, Nat.reduceEqDiff, iteP, v7, hon, late2, Wk.row, Res.row, ressL, hA36, hB0, hB1, hB2, hB3, hB36, hBt, pureRow_map, clmsL, hCn, hC0, hC1, hC2, Int.reduceToNat] <;> rfl)) ?_ | refine Head.p hF rfl rfl rfl ?_
    first | refine Head.v hF rfl rfl rfl (opV_bin rfl rfl rfl (by first | exact rd_eqlT _ _ _ _ _ (by omega) | exact rd_eqlF _ _ _ _ _ (by omega) | exact rb_eql _ _ _ _ _ _ _)) ?_ | refine Head.p hF rfl rfl rfl ?_
    first | refine Head.v hF rfl rfl rfl (opV_pickT rfl rfl rfl) ?_ | refine Head.v hF rfl rfl rfl (opV_pickF rfl rfl rfl) ?_
    refine Head.v hF rfl rfl rfl (opV_move rfl rfl) ?_
    first | refine Head.v hF rfl rfl rfl (opV_move rfl rfl) ?_ | refine Head.p hF rfl rfl rfl ?_
    first | refine Head.v hF rfl rfl rfl (opV_indexAddr rfl rfl rfl (by simp (disch := omega) only [go_sem, Nat.reduceEqDiff, iteP, v7, hon, late2, Wk.row, Res.row, ressL, hA36, hB0, hB1, hB2, hB3, hB36, hBt, pureRow_map, clmsL, hCn, hC0, hC1, hC2, Int.reduceToNat] <;> rfl)) ?_ | refine Head.p hF rfl rfl rfl ?_
    first | refine Head.v hF rfl rfl rfl (opV_fieldAddr rfl rfl (by simp (disch := omega) only [go_sem, Nat.reduceEqDiff, iteP, v7, hon, late2, Wk.row, Res.row, ressL, hA36, hB0, hB1, hB2, hB3, hB36, hBt, pureRow_map, clmsL, hCn, hC0, hC1, hC2, Int.reduceToNat] <;> rfl)) ?_ | refine Head.p hF rfl rfl rfl ?_
    first | refine Head.v hF rfl rfl rfl (opV_load rfl rfl (by simp (disch := omega) only [go_sem, Nat.reduceEqDiff, iteP, v7, hon, late2, Wk.row, Res.row, ressL, hA36, hB0, hB1, hB2, hB3, hB36, hBt, pureRow_map, clmsL, hCn, hC0, hC1, hC2, Int.reduceToNat] <;> rfl)) ?_ | refine Head.p hF rfl rfl rfl ?_
    first | refine Head.v hF rfl rfl rfl (opV_bin rfl rfl rfl (by first | exact rd_eqlT _ _ _ _ _ (by omega) | exact rd_eqlF _ _ _ _ _ (by omega) | exact rb_eql _ _ _ _ _ _ _)) ?_ | refine Head.p hF rfl rfl rfl ?_
    first | refine Head.v hF rfl rfl rfl (opV_pickT rfl rfl rfl) ?_ | refine Head.v hF rfl rfl rfl (opV_pickF rfl rfl rfl) ?_
    refine Head.v hF rfl rfl rfl (opV_move rfl rfl) ?_
    first | refine Head.v hF rfl rfl rfl (opV_move rfl rfl) ?_ | refine Head.p hF rfl rfl rfl ?_
    first | refine Head.v hF rfl rfl rfl (opV_indexAddr rfl rfl rfl (by simp (disch := omega) only [go_sem, Nat.reduceEqDiff, iteP, v7, hon, late2, Wk.row, Res.row, ressL, hA36, hB0, hB1, hB2, hB3, hB36, hBt, pureRow_map, clmsL, hCn, hC0, hC1, hC2, Int.reduceToNat] <;> rfl)) ?_ | refine Head.p hF rfl rfl rfl ?_
    first | refine Head.v hF rfl rfl rfl (opV_fieldAddr rfl rfl (by simp (disch := omega) only [go_sem, Nat.reduceEqDiff, iteP, v7, hon, late2, Wk.row, Res.row, ressL, hA36, hB0, hB1, hB2, hB3, hB36, hBt, pureRow_map, clmsL, hCn, hC0, hC1, hC2, Int.reduceToNat] <;> rfl)) ?_ | refine Head.p hF rfl rfl rfl ?_
    first | refine Head.v hF rfl rfl rfl (opV_load rfl rfl (by simp (disch := omega) only [go_sem, Nat.reduceEqDiff, iteP, v7, hon, late2, Wk.row, Res.row, ressL, hA36, hB0, hB1, hB2, hB3, hB36, hBt, pureRow_map, clmsL, hCn, hC0, hC1, hC2, Int.reduceToNat] <;> rfl)) ?_ | refine Head.p hF rfl rfl rfl ?_
    first | refine Head.v hF rfl rfl rfl (opV_bin rfl rfl rfl (by first | exact rd_eqlT _ _ _ _ _ (by omega) | exact rd_eqlF _ _ _ _ _ (by omega) | exact rb_eql _ _ _ _ _ _ _)) ?_ | refine Head.p hF rfl rfl rfl ?_
    first | refine Head.v hF rfl rfl rfl (opV_pickT rfl rfl rfl) ?_ | refine Head.v hF rfl rfl rfl (opV_pickF rfl rfl rfl) ?_
    refine Head.v hF rfl rfl rfl (opV_move rfl rfl) ?_
    first | refine Head.v hF rfl rfl rfl (opV_move rfl rfl) ?_ | refine Head.p hF rfl rfl rfl ?_
    first | refine Head.v hF rfl rfl rfl (opV_indexAddr rfl rfl rfl (by simp (disch := omega) only [go_sem, Nat.reduceEqDiff, iteP, v7, hon, late2, Wk.row, Res.row, ressL, hA36, hB0, hB1, hB2, hB3, hB36, hBt, pureRow_map, clmsL, hCn, hC0, hC1, hC2, Int.reduceToNat] <;> rfl)) ?_ | refine Head.p hF rfl rfl rfl ?_
    first | refine Head.v hF rfl rfl rfl (opV_fieldAddr rfl rfl (by simp (disch := omega) only [go_sem, Nat.reduceEqDiff, iteP, v7, hon, late2, Wk.row, Res.row, ressL, hA36, hB0, hB1, hB2, hB3, hB36, hBt, pureRow_map, clmsL, hCn, hC0, hC1, hC2, Int.reduceToNat] <;> rfl)) ?_ | refine Head.p hF rfl rfl rfl ?_
    first | refine Head.v hF rfl rfl rfl (opV_load rfl rfl (by simp (disch := omega) only [go_sem, Nat.reduceEqDiff, iteP, v7, hon, late2, Wk.row, Res.row, ressL, hA36, hB0, hB1, hB2, hB3, hB36, hBt, pureRow_map, clmsL, hCn, hC0, hC1, hC2, Int.reduceToNat] <;> rfl)) ?_ | refine Head.p hF rfl rfl rfl ?_
    first | refine Head.v hF rfl rfl rfl (opV_bin rfl rfl rfl (by first | exact rd_eqlT _ _ _ _ _ (by omega) | exact rd_eqlF _ _ _ _ _ (by omega) | exact rb_eql _ _ _ _ _ _ _)) ?_ | refine Head.p hF rfl rfl rfl ?_
    first | refine Head.v hF rfl rfl rfl (opV_pickT rfl rfl rfl) ?_ | refine Head.v hF rfl rfl rfl (opV_pickF rfl rfl rfl) ?_
    refine Head.v hF rfl rfl rfl (opV_move rfl rfl) ?_
    first | refine Head.v hF rfl rfl rfl (opV_fieldAddr rfl rfl (by simp (disch := omega) only [go_sem, Nat.reduceEqDiff, iteP, v7, hon, late2, Wk.row, Res.row, ressL, hA36, hB0, hB1, hB2, hB3, hB36, hBt, pureRow_map, clmsL, hCn, hC0, hC1, hC2, Int.reduceToNat] <;> rfl)) ?_ | refine Head.p hF rfl rfl rfl ?_
    first | refine Head.v hF rfl rfl rfl (opV_load rfl rfl (by simp (disch := omega) only [go_sem, Nat.reduceEqDiff, iteP, v7, hon, late2, Wk.row, Res.row, ressL, hA36, hB0, hB1, hB2, hB3, hB36, hBt, pureRow_map, clmsL, hCn, hC0, hC1, hC2, Int.reduceToNat] <;> rfl)) ?_ | refine Head.p hF rfl rfl rfl ?_
    first | refine Head.c hF rfl rfl (by kernel_rfl) rfl rfl rfl (hsd) ?_ | refine Head.p hF rfl rfl rfl ?_
    first | refine Head.v hF rfl rfl rfl (opV_pickT rfl rfl rfl) ?_ | refine Head.v hF rfl rfl rfl (opV_pickF rfl rfl rfl) ?_
    refine Head.v hF rfl rfl rfl (opV_move rfl rfl) ?_
    first | refine Head.v hF rfl rfl rfl (opV_buildT rfl Tryd.underlying41 (by kernel_rfl) rfl (buildS_struct (n := 36) ze41 pl41 rfl (by repeat' first | apply fill_oneE rfl rfl (by first | rfl | simp [rowS, v7, hon, late2, Wk.row, Res.row, ressL, hA36, hB0, hB1, hB2, hB3, hB36, hBt, pureRow_map, clmsL, hCn, hC0, hC1, hC2, Int.reduceToNat]) | apply fill_aggE rfl rfl rfl (by first | assumption | simp [rowS, v7, hon, late2, Wk.row, Res.row, ressL, hA36, hB0, hB1, hB2, hB3, hB36, hBt, pureRow_map, clmsL, hCn, hC0, hC1, hC2, Int.reduceToNat]) | (apply fillE; simp only [List.set_cons_succ, List.set_cons_zero, List.take_succ_cons, List.take_zero, List.drop_succ_cons, List.drop_zero, List.drop_nil, List.cons_append, List.nil_append, List.append_nil, v7, hon, late2, Wk.row, Res.row, ressL, hA36, hB0, hB1, hB2, hB3, hB36, hBt, pureRow_map, clmsL, hCn, hC0, hC1, hC2, Int.reduceToNat] <;> rfl)))) ?_ | refine Head.p hF rfl rfl rfl ?_
    first | refine Head.c hF rfl rfl (by kernel_rfl) rfl rfl rfl (hsn) ?_ | refine Head.p hF rfl rfl rfl ?_
    first | refine Head.v hF rfl rfl rfl (opV_un rfl rfl (by first | exact rd_notT _ | exact rd_notF _ | exact rd_not _)) ?_ | refine Head.p hF rfl rfl rfl ?_
    first | refine Head.v hF rfl rfl rfl (opV_pickT rfl rfl rfl) ?_ | refine Head.v hF rfl rfl rfl (opV_pickF rfl rfl rfl) ?_
    refine Head.v hF rfl rfl rfl (opV_assign rfl rfl) ?_
    refine Head.last ⟨rfl, ?_⟩
    simp only [List.drop_succ_cons, List.drop_zero, List.drop_nil, List.nil_append, List.cons_append]
    refine SmG.nil ?_
    refine nextS_normal ?_
    refine Sm.ret ?_
    refine ⟨_, rfl, ?_⟩; dsimp only
    exact D.le.refl _
end Go.Proofs.YtagfaaijgfigkaaDoor
namespace Go.Proofs.YtagfaaijgfigkaaDoor
open Go.ChangeShapes Go.WideShapes Go.ChangeAt Go.RowKit
set_option maxRecDepth 100000
theorem u2_typed {n : Nat} {x : List D} (h : TyD Tryd.prog (n + 2) 66 x) : ∃ p : UInt8 × UInt8, x = rowU2 p := by
  rw [TyD] at h
  simp only [Tryd.underlying66] at h
  obtain ⟨parts, hl, rfl, hp⟩ := h
  match parts, hl with
  | [a, b], _ =>
    obtain ⟨w0, rfl⟩ := byte_typed (hp a (by simp))
    obtain ⟨w1, rfl⟩ := byte_typed (hp b (by simp))
    exact ⟨(w0, w1), rfl⟩
theorem u2s_arg {n : Nat} {d : D} (h : ArgD Tryd.prog (n + 3) 22 d) : ∃ l : List (UInt8 × UInt8), d = u2sL l ∧ l.length ≤ 9223372036854775807 := by
  simp only [ArgD, ag22] at h
  rw [TyD] at h
  simp only [Tryd.underlying22] at h
  obtain ⟨xs, h0, h1, h2⟩ := h
  obtain ⟨l, rfl⟩ := map_of (f := rowU2) fun x hx => u2_typed (h2 x hx)
  have hc : Tryd.prog.cellsOf 66 = 2 := by kernel_rfl
  rw [hc] at h0
  injection h0 with h0
  exact ⟨l, by rw [h0]; rfl, by simpa using h1⟩
theorem u8_arg {n : Nat} {d : D} (h : ArgD Tryd.prog (n + 1) 5 d) : ∃ a : UInt8, d = byteD a := by
  simp only [ArgD, ag5] at h
  obtain ⟨a, ha⟩ := byte_typed h
  exact ⟨a, by simpa [rowB] using ha⟩
def i8R (z : Int) : Prop := -128 ≤ z ∧ z ≤ 127
theorem i8_typed {n : Nat} {x : List D} (h : TyD Tryd.prog (n + 1) 24 x) : ∃ z : Int, x = [.v (.int .i8 z)] ∧ i8R z := by
  simp only [TyD, Tryd.underlying24] at h
  obtain ⟨z, h1, h2, h3⟩ := h
  simp [IntKind.min, IntKind.max, IntKind.signed, IntKind.bits] at h2 h3
  exact ⟨z, by simpa using h1, h2, h3⟩
theorem i8_arg {n : Nat} {d : D} (h : ArgD Tryd.prog (n + 1) 24 d) : ∃ z : Int, d = .v (.int .i8 z) ∧ i8R z := by
  simp only [ArgD, ag24] at h
  obtain ⟨a, ha, hz⟩ := i8_typed h
  exact ⟨a, by simpa using ha, hz⟩
end Go.Proofs.YtagfaaijgfigkaaDoor
namespace Go.Proofs.YtagfaaijgfigkaaDoor
open Go.RowKit
section
variable {P : Program} {G : Nat → Option D} {N : Nat} {F : Fr} {ops rest : List Oper} {o : Oper} {h : List (Nat × Blk)} {env : List (Nat × V)} {al : List (Nat × Blk)} {nx : Nat} {t e : TypeId} {z : Value} {size bytes : Nat} {K : List (Nat × V) → List (Nat × Blk) → Nat → Prop}
theorem OpMakes.appendFresh (hF : Env F P G N) (hE : ElemT P t e z size bytes) {s x : Operand} {sz sz' : Nat} {ys : List (List D)} {f : Bool} (ho : o.op = .call ⟨.builtin .append, #[s, x], #[t, t]⟩)
    (hs : evD G env s = some (.d (.list sz [] true))) (hx : evD G env x = some (.d (.list sz' ys f))) (hsz' : sz' = size ∨ ys = []) (hb : ys.length * bytes ≤ 140737488355328) (hb2 : ys.length ≤ 140737488355328) :
    OpMakes F G o env (dB size ys) (fun m => .sref m 0 ys.length) := by
  intro μ C a w nx' hh hsim hop m hm hfree K Q hK
  obtain ⟨rfl, rfl, hG⟩ := hF
  obtain ⟨i0, hi, hz0, hz1, hz2⟩ := info_parts hE.info
  have hsv : RepV μ C (.d (.list sz [] true)) (a.eval s) := hop s (by rw [ho]; simp [Op.operands, Call.operands]) _ hs
  have hxv : RepV μ C (.d (.list sz' ys f)) (a.eval x) := hop x (by rw [ho]; simp [Op.operands, Call.operands]) _ hx
  have hk := hsim.known
  obtain ⟨ao, cap, vs, e1, hcap, hvl, hvv, hvx, hvr⟩ := firstCells_ok (P := F.P) (size := size) hk hsv (.inr rfl)
  obtain ⟨bo, cap', us, e2, _, hul, huv, hux, hur⟩ := firstCells_ok (P := F.P) hk hxv hsz'
  by_cases hy : ys = []
  · subst hy
    unfold Oper.wp
    rw [exec_append ho, Sem.run_bind, e1, e2]
    rw [hcap rfl]
    have : (Builtin.append_ #[t, t] o.type #[.slice ao ([] : List (List D)).length ([] : List (List D)).length, .slice bo ([] : List (List D)).length cap']).run F.P w = .ok (.slice ao ([] : List (List D)).length ([] : List (List D)).length) w := by
      have hf0 := hur w (Below.refl _ _)
      rw [e2] at hf0
      have : us = [] := List.eq_nil_of_length_eq_zero (by simpa using hul)
      subst this
      have hszr : (sizeOf e).run F.P w = .ok size w := by simp [sizeOf, typeInfo, hi, hz1]
      simp only [List.length_nil] at hf0
      cases ao with
      | none => simp [Builtin.append_, run_underlying hE.und, hszr, Builtin.lenOf, hf0]
      | some b => simp [Builtin.append_, run_underlying hE.und, hszr, Builtin.lenOf, hf0, storeCells]
    rw [this, Result.andThen_ok]
    show Oper.upon F.P o a K _ (.ok (.value _) w)
    rw [Oper.upon_value]
    have hs2 := hsim.adopt (.of_below hk (Below.refl _ w)) (m := m) (n' := nx') hfree hm (Nat.le_refl _) (p := ⟨w.heap.size, 0, size⟩) (sz := size) (rows := []) ⟨rfl, by simp [dB], by simp, by simp [dB], fun h => absurd h (by simp)⟩
    refine hK _ _ _ C hs2 (fun _ _ _ h => h) (fun l q hq => ?_) (fun l hl => by simp [hl]) ⟨⟨w.heap.size, 0, size⟩, ao, by simp, by simp, by simp, fun h => absurd h (by simp)⟩
    have : l ≠ m := fun e => by rw [e, hfree] at hq; cases hq
    simp [this, hq]
  · have hsz2 : sz' = size := hsz'.resolve_right hy
    have hdr : Below w.heap.size w w.drew := (Below.refl _ _).drew
    unfold Oper.wp
    rw [exec_append ho, Sem.run_bind, e1, e2]
    rw [hcap rfl]
    have hm0 : 0 < ys.length := List.length_pos_iff.2 hy
    have hr1 := hvr w.drew hdr
    have hr2 := hur w.drew hdr
    rw [e1, hcap rfl] at hr1
    rw [e2] at hr2
    have hrun := run_append_gen (P := F.P) (w := w) hE.und i0 hi hz0 ao 0 0 vs bo ys.length cap' us o.type (by rw [hz1]; exact hr1) (by rw [hz1]; exact hr2) (by omega) (by rw [hz2]; simpa using hb) (by simpa using hb2)
    simp only [List.length_nil]
    rw [hrun, Result.andThen_ok]
    show Oper.upon F.P o a K _ (.ok (.value _) _)
    rw [Oper.upon_value]
    have hge := grownCap_ge w (0 + ys.length) 0 e
    have hgm := grownCap_le_maxLen w (0 + ys.length) 0 e (by unfold maxLen; omega)
    generalize hgc : grownCap w (0 + ys.length) 0 e = g at hge hgm ⊢
    have hv0 : vs = [] := List.eq_nil_of_length_eq_zero (by simpa using hvl)
    subst hv0
    have hmore : More w C (w.drew.alloc (.cells (([] : List Value).toArray ++ us.toArray ++ Builtin.zeroCells z.cells (g - (0 + ys.length))) e)) C := .of_below hk (hdr.alloc (Nat.le_refl _) _)
    have hs2 := hsim.adopt hmore (m := m) (n' := nx') hfree hm (Nat.le_refl _) (p := ⟨w.heap.size, g, size⟩) (sz := size) (rows := ys)
      ⟨rfl, by simp [dB]; omega, by unfold maxLen at hgm; exact Nat.le_trans hgm (by decide), by
        intro r hr
        obtain ⟨x, hx, rfl⟩ := List.mem_map.1 hr
        simpa using hux x hx, fun _ => ⟨Nat.le_refl _, fun o u hc => absurd (hk.lt hc) (Nat.lt_irrefl _), _, e, heap_alloc_new w.drew _, grown_size g (0 + ys.length) size z.cells hE.zs [] us (by rw [hul]; simp) hge, by
        have := rowsV_flat (μ := fun _ => none) (C := C) (rows := ys) (vs := us) (size := size) hux huv (Builtin.zeroCells z.cells (g - (0 + ys.length))).toList
        simpa using this⟩⟩
    refine hK _ _ _ C hs2 (fun _ _ _ h => h) (fun l q hq => ?_) (fun l hl => by simp [hl]) ⟨⟨w.heap.size, g, size⟩, some ⟨w.heap.size, 0, none⟩, by simp, by simp, by simp; omega, fun _ => by simp⟩
    have : l ≠ m := fun e => by rw [e, hfree] at hq; cases hq
    simp [this, hq]
theorem Head.appendFresh (hF : Env F P G N) (hE : ElemT P t e z size bytes) {s x : Operand} {d : Tmp} {sz sz' : Nat} {ys : List (List D)} {f : Bool} (ho : o.op = .call ⟨.builtin .append, #[s, x], #[t, t]⟩) (hd : o.dst = some d) (hdN : Nat.blt d N = true) (hg : guardB ops env o.guard = some true)
    (hs : evB G env s = some (.d (.list sz [] true))) (hx : evB G env x = some (.d (.list sz' ys f))) (hsz' : sz' = size ∨ ys = []) (hb : ys.length * bytes ≤ 140737488355328) (hb2 : ys.length ≤ 140737488355328)
    (k : Head F G N ops.toArray h rest ((d, .sref nx 0 ys.length) :: env) ((nx, dB size ys) :: al) (nx + 1) K) : Head F G N ops.toArray h (o :: rest) env al nx K := by
  rw [evB_eq] at hs hx
  exact .inl ⟨d, hd, by simpa [Nat.blt_eq] using hdN, .inr ⟨dB size ys, fun m => .sref m 0 ys.length, guardB_ok hg, .appendFresh hF hE ho hs hx hsz' hb hb2, k⟩⟩
end
end Go.Proofs.YtagfaaijgfigkaaDoor
namespace Go.Proofs.YtagfaaijgfigkaaDoor
open Go.RowKit
set_option maxRecDepth 100000
theorem sound_true {c : Clm} (h1 : 0 ≤ c.lo) (h2 : c.lo ≤ c.hi) (h3 : (c.l.length : Int) = c.hi - c.lo) (h4 : c.root = Sha.root (c.l.map resBytes)) : soundC c = true := decide_eq_true ⟨h1, h2, h3, h4⟩
end Go.Proofs.YtagfaaijgfigkaaDoor
namespace Go.Proofs.YtagfaaijgfigkaaDoor
open Go.RowKit
section
variable {P : Program} {G : Nat → Option D} {N : Nat} {F : Fr} {l : List Oper} {Q : Exit → St → Prop} {st : St}
end
end Go.Proofs.YtagfaaijgfigkaaDoor
namespace Go.Proofs.YtagfaaijgfigkaaDoor
open Go.RowKit
set_option maxRecDepth 100000
end Go.Proofs.YtagfaaijgfigkaaDoor
namespace Go.Proofs.YtagfaaijgfigkaaDoor
open Go.RowKit
set_option maxRecDepth 100000
end Go.Proofs.YtagfaaijgfigkaaDoor
namespace Go.Proofs.YtagfaaijgfigkaaDoor
open Go.RowKit
def honC (v : List Res) (i lo hi : Nat) : Clm := ⟨i, lo, hi, partOfL v lo hi, Sha.root ((partOfL v lo hi).map resBytes)⟩
structure HonR (v : List Res) (k : Nat) (cs : List Clm) (lo hi B : Nat → Nat) : Prop where
  len : cs.length = if v.length = 0 then 0 else k
  get : ∀ i, i < cs.length → cs[i]? = some (honC v i (lo i) (hi i))
  le : ∀ i, i < cs.length → lo i ≤ hi i ∧ hi i ≤ v.length ∧ lo i ≤ B i ∧ max (B i) (hi i) = B (i + 1)
  top : ∀ i, B i ≤ v.length
  b0 : B 0 = 0
  bn : B cs.length = v.length
theorem claimW_hon (who t : Int) (v : List Res) (a b : Nat) (h1 : a ≤ b) (h2 : b ≤ v.length) : claimW hon who t v a b = (⟨who, a, b, partOfL v a b, Sha.root ((partOfL v a b).map resBytes)⟩, true) := by
  have h1' : (a : Int) ≤ b := by omega
  have h2' : (b : Int) ≤ v.length := by omega
  have h0' : (0 : Int) ≤ a := by omega
  simp [claimW, saidW, hon, h1', h2', h1, h2]
theorem honest_round (v : List Res) (k : Nat) (t : Int) (hk : 1 ≤ k) (hv : v.length ≤ 4000) : ∃ lo hi B : Nat → Nat, HonR v k (roundW (List.replicate k hon) v k t) lo hi B := by
  by_cases h0 : v.length = 0
  · refine ⟨fun _ => 0, fun _ => 0, fun _ => 0, ?_⟩
    have hr : roundW (List.replicate k hon) v k t = [] := by
      unfold roundW
      rw [if_pos]
      rw [h0]
      unfold cutL
      rw [if_pos (by omega)]
    rw [hr]
    exact ⟨by rw [if_pos h0]; rfl, fun i hi => absurd hi (by simp), fun i hi => absurd hi (by simp), fun i => Nat.zero_le _, rfl, h0.symm⟩
  · obtain ⟨n, hn⟩ : ∃ n, n = v.length := ⟨_, rfl⟩
    obtain ⟨m, hm⟩ : ∃ m, m = min n k := ⟨_, rfl⟩
    have hm1 : 1 ≤ m := by omega
    have hc : cutL v.length k = cutN n m := by
      unfold cutL
      rw [if_neg (by omega), ← hn, hm]
      congr 1; omega
    have hend := bnd_end (n := n) (m := m) (by omega)
    obtain ⟨q, hq⟩ : ∃ q, q = n / m := ⟨_, rfl⟩
    obtain ⟨r, hr⟩ : ∃ r, r = n % m := ⟨_, rfl⟩
    have hcl : (cutN n m).length = m := by simp [cutN]
    rw [← hq, ← hr] at hend
    have hcg : ∀ i, i < m → (cutN n m)[i]? = some (cutAt q r i) := fun i hi => by rw [hq, hr]; simp [cutN, hi]
    have hmono : ∀ i j, i ≤ j → bnd q r i ≤ bnd q r j := fun i j h => bnd_mono h
    have hmod : ∀ i, i % m < m := fun i => Nat.mod_lt _ (by omega)
    have hhi : ∀ i, bnd q r (i % m + 1) ≤ n := fun i => by have := hmono (i % m + 1) m (hmod i); omega
    have hsay : ∀ i, i < k → sayAt (List.replicate k hon) v t (cutN n m) i = (honC v i (bnd q r (i % m)) (bnd q r (i % m + 1)), true) := fun i hi => by
      have h1 : (List.replicate k hon)[i]? = some hon := by rw [List.getElem?_replicate, if_pos hi]
      have h2 : (cutN n m)[i % (cutN n m).length]? = some (cutAt q r (i % m)) := by rw [hcl]; exact hcg _ (hmod i)
      simp only [sayAt, h1, h2, cutAt]
      exact claimW_hon _ _ _ _ _ (hmono _ _ (by omega)) (by rw [← hn]; exact hhi i)
    have hN : ∀ j, j ≤ k → roundN (List.replicate k hon) v t (cutN n m) j = (List.range j).map fun i => honC v i (bnd q r (i % m)) (bnd q r (i % m + 1)) := by
      intro j
      induction j with
      | zero => intro _; rfl
      | succ j ih =>
        intro hj
        rw [roundN, ih (by omega), hsay j (by omega), List.range_succ, List.map_append]
        rfl
    have hW : roundW (List.replicate k hon) v k t = (List.range k).map fun i => honC v i (bnd q r (i % m)) (bnd q r (i % m + 1)) := by
      unfold roundW
      rw [hc, if_neg (fun e => by rw [e] at hcl; simp at hcl; omega), List.length_replicate]
      exact hN k (Nat.le_refl _)
    rw [hW]
    refine ⟨fun i => bnd q r (i % m), fun i => bnd q r (i % m + 1), fun i => if i < m then bnd q r i else n, ?_⟩
    have hkl : ((List.range k).map fun i => honC v i (bnd q r (i % m)) (bnd q r (i % m + 1))).length = k := by simp
    refine ⟨by rw [hkl, if_neg h0], fun i hi => ?_, fun i hi => ?_, fun i => ?_, ?_, ?_⟩
    · rw [hkl] at hi
      simp [hi]
    · rw [hkl] at hi
      refine ⟨hmono _ _ (by omega), by rw [← hn]; exact hhi i, ?_, ?_⟩
      · split
        · rename_i h; rw [Nat.mod_eq_of_lt h]; exact Nat.le_refl _
        · have := hmono (i % m) (i % m + 1) (by omega); have := hhi i; omega
      · by_cases h : i < m
        · rw [if_pos h, Nat.mod_eq_of_lt h]
          have := hmono i (i + 1) (by omega)
          by_cases h' : i + 1 < m
          · rw [if_pos h']; omega
          · rw [if_neg h']
            have he : bnd q r (i + 1) = n := by rw [show i + 1 = m by omega]; exact hend
            omega
        · rw [if_neg h, if_neg (by omega)]
          have := hhi i
          omega
    · split
      · rename_i h; have := hmono i m (by omega); omega
      · omega
    · rw [if_pos (by omega)]; simp [bnd]
    · rw [hkl, if_neg (by omega)]; exact hn
def saidL (n b : Nat) : List Bool := List.replicate b true ++ List.replicate (n - b) false
theorem saidL_len {n b : Nat} (h : b ≤ n) : (saidL n b).length = n := by simp [saidL]; omega
theorem saidL_set {n b j : Nat} (h : b ≤ n) (hj : j ≤ b) (hn : j < n) : (saidL n b).set j true = saidL n (max b (j + 1)) := by
  apply List.ext_getElem?
  intro i
  rw [List.getElem?_set]
  unfold saidL
  simp only [List.getElem?_append, List.length_replicate, List.getElem?_replicate, List.length_append]
  repeat' split
  all_goals first | rfl | omega | (simp; omega) | simp_all
def rowT (b : Bool) : List D := [.v (.bool b)]
theorem saidL_row (n b j : Nat) (h : b ≤ n) (hj : j ≤ b) (hn : j < n) : (List.map (fun r => List.map V.d r) ((saidL n b).map rowT)).set j [V.d (.v (.bool true))] = List.map (fun r => List.map V.d r) ((saidL n (max b (j + 1))).map rowT) := by
  rw [← saidL_set h hj hn, List.map_set, List.map_set]; rfl
theorem saidL_all (n j : Nat) (h : j < n) : ((saidL n n).map rowT)[j]? = some [.v (.bool true)] := by
  simp [saidL, rowT, h]
end Go.Proofs.YtagfaaijgfigkaaDoor
namespace Go.Proofs.YtagfaaijgfigkaaDoor
open Go.RowKit
section
variable {P : Program} {G : Nat → Option D} {N : Nat} {F : Fr} {ops rest : List Oper} {o : Oper} {h : List (Nat × Blk)} {env : List (Nat × V)} {al : List (Nat × Blk)} {nx : Nat} {t e : TypeId} {z : Value} {size bytes : Nat} {K : List (Nat × V) → List (Nat × Blk) → Nat → Prop}
theorem OpMakes.make (hF : Env F P G N) (hE : ElemT P t e z size bytes) (hz : z.cells.toList.all (·.oneCell') = true) {x y : Operand} {k1 k2 : IntKind} (n : Nat) (ho : o.op = .makeSlice t x y)
    (hx : evD G env x = some (.d (.v (.int k1 n)))) (hy : evD G env y = some (.d (.v (.int k2 n)))) (hn : n ≤ 281474976710656) (hb : n * bytes ≤ 140737488355328) :
    OpMakes F G o env (dB size (List.replicate n (z.cells.toList.map constD))) (fun m => .sref m 0 n) := by
  intro μ C a w nx' hh hs hop m hm hfree K Q hK
  obtain ⟨rfl, rfl, hG⟩ := hF
  have hxv := Rep.v_eq (hop x (by rw [ho]; simp [Op.operands]) _ hx)
  have hyv := Rep.v_eq (hop y (by rw [ho]; simp [Op.operands]) _ hy)
  have hrun := run_make (P := F.P) hE (k1 := k1) (k2 := k2) hn hb w
  unfold Oper.wp
  have hex : (execOp a.eval o).run F.P w = .ok (.value (.slice (some ⟨w.heap.size, 0, none⟩) n n)) (w.alloc (.cells ((Array.range (n * size)).map (fun i => (if n * size = 0 then #[] else z.cells)[i % (if n * size = 0 then #[] else z.cells).size]!)) e)) := by
    simp only [execOp, ho, hxv, hyv]
    simp [Sem.run_bind, hrun, Result.andThen]
  rw [hex, Oper.upon_value]
  have hk := hs.known
  have hzl : z.cells.toList.length = size := by rw [Array.length_toList]; exact hE.zs
  have hmore : More w C (w.alloc (.cells ((Array.range (n * size)).map (fun i => (if n * size = 0 then #[] else z.cells)[i % (if n * size = 0 then #[] else z.cells).size]!)) e)) C := .of_below hk ((Below.refl _ w).alloc (Nat.le_refl _) _)
  have hs2 := hs.adopt hmore (m := m) (n' := nx') hfree hm (Nat.le_refl _) (p := ⟨w.heap.size, n, size⟩) (sz := size) (rows := List.replicate n (z.cells.toList.map constD))
    ⟨rfl, by simp [dB], by show n ≤ _; omega, by
      intro r hr
      obtain ⟨r', hr', rfl⟩ := List.mem_map.1 hr
      rw [List.eq_of_mem_replicate hr']
      simpa using hzl, fun _ => ⟨Nat.le_refl _, fun o u hc => absurd (hk.lt hc) (Nat.lt_irrefl _), _, e, heap_alloc_new w _, by simp, by
      intro i r hr j v hj
      have hin : i < n := by have := (List.getElem?_eq_some_iff.1 hr).1; simpa [dB] using this
      have hr' : r = (z.cells.toList.map constD).map V.d := by
        simp only [dB] at hr
        rw [List.getElem?_map, List.getElem?_replicate, if_pos hin] at hr
        simpa using hr.symm
      subst hr'
      have hjs : j < size := by have := (List.getElem?_eq_some_iff.1 hj).1; simp only [List.length_map] at this; omega
      have hzj : z.cells.toList[j]? = some z.cells.toList[j] := List.getElem?_eq_getElem (by omega)
      rw [List.getElem?_map, List.getElem?_map, hzj] at hj
      simp only [Option.map_some, Option.some.injEq] at hj
      have hlt : i * size + j < n * size := by
        have := Nat.mul_le_mul_right size (show i + 1 ≤ n by omega)
        rw [Nat.succ_mul] at this; omega
      have hne : n * size ≠ 0 := by omega
      have hcell : (i * size + j) % z.cells.size = j := by rw [hE.zs, Nat.mul_comm, Nat.mul_add_mod, Nat.mod_eq_of_lt hjs]
      refine ⟨z.cells.toList[j], ?_, List.all_eq_true.1 hz _ (List.getElem_mem _), ?_⟩
      · simp only [dB, Array.toList_map, List.getElem?_map, if_neg hne]
        rw [Array.getElem?_toList, Array.getElem?_eq_getElem (by simpa using hlt)]
        simp only [Array.getElem_range, Option.map_some, hcell]
        congr 1
        rw [getElem!_pos z.cells j (by rw [hE.zs]; exact hjs)]; simp
      · subst hj; exact constD_ok _⟩⟩
  refine hK _ _ _ C hs2 (fun _ _ _ h => h) (fun l q hq => ?_) (fun l hl => by simp [hl]) ⟨⟨w.heap.size, n, size⟩, some ⟨w.heap.size, 0, none⟩, by simp, by simp, by simp, fun _ => by simp⟩
  have : l ≠ m := fun e => by rw [e, hfree] at hq; cases hq
  simp [this, hq]
theorem Head.make (hF : Env F P G N) (hE : ElemT P t e z size bytes) (hz : z.cells.toList.all (·.oneCell') = true) {x y : Operand} {d : Tmp} {k1 k2 : IntKind} (n : Nat) (ho : o.op = .makeSlice t x y) (hd : o.dst = some d) (hdN : Nat.blt d N = true) (hg : guardB ops env o.guard = some true)
    (hx : evB G env x = some (.d (.v (.int k1 n)))) (hy : evB G env y = some (.d (.v (.int k2 n)))) (hn : n ≤ 281474976710656) (hb : n * bytes ≤ 140737488355328)
    (k : Head F G N ops.toArray h rest ((d, .sref nx 0 n) :: env) ((nx, dB size (List.replicate n (z.cells.toList.map constD))) :: al) (nx + 1) K) : Head F G N ops.toArray h (o :: rest) env al nx K := by
  rw [evB_eq] at hx hy
  exact .inl ⟨d, hd, by simpa [Nat.blt_eq] using hdN, .inr ⟨_, fun m => .sref m 0 n, guardB_ok hg, .make hF hE hz n ho hx hy hn hb, k⟩⟩
end
end Go.Proofs.YtagfaaijgfigkaaDoor
namespace Go.Proofs.YtagfaaijgfigkaaDoor
open Go.RowKit
set_option maxRecDepth 100000
theorem elBool17 : ElemT Tryd.prog 58 4 (.bool false) 1 1 := ⟨Tryd.underlying58, by kernel_rfl, rfl, by decide⟩
def zeroWk : Wk := ⟨0, 0, 0, ⟨0, 0⟩⟩
def wsAt (k i : Nat) : List Wk := List.replicate i hon ++ List.replicate (k - i) zeroWk
theorem wsAt_get {k i : Nat} (h : i < k) : ((wsAt k i).map Wk.row)[i]? = some [.v (.int .i64 0), .v (.int .i64 0), .v (.int .i64 0), .v (.int .i64 0), .v (.int .i64 0)] := by
  have h' : 0 < k - i := by omega
  simp [wsAt, h', zeroWk, Wk.row]
theorem wsAt_set {k i : Nat} (h : i < k) : (List.map (fun r => List.map V.d r) ((wsAt k i).map Wk.row)).set i [V.d (.v (.int .i64 1)), V.d (.v (.int .i64 0)), V.d (.v (.int .i64 0)), V.d (.v (.int .i64 0)), V.d (.v (.int .i64 0))] = List.map (fun r => List.map V.d r) ((wsAt k (i + 1)).map Wk.row) := by
  have e : (wsAt k i).set i hon = wsAt k (i + 1) := by
    unfold wsAt
    rw [List.set_append_right _ _ (by simp)]
    rw [show k - i = (k - (i + 1)) + 1 by omega, List.replicate_succ, List.replicate_succ']
    simp
  rw [← e, List.map_set, List.map_set]; rfl
set_option maxHeartbeats 1000000 in
theorem workerHonest_D (l : List (UInt8 × UInt8)) (a : UInt8) (t : Int) (hl : l.length ≤ 9223372036854775807) (ht : -128 ≤ t ∧ t ≤ 127) :
    CallsD Tryd.prog HG 5 [u2sL l, byteD a, .v (.int .i8 t)] (.v (.bool true)) := by
  have ha := a.toNat_lt
  have hvl := resultsOf_len l 40
  have hres := results_D l 40 hl (by omega) HG
  generalize resultsOf l 40 = v at hvl hres
  obtain ⟨k, hk, hk1, hk8⟩ : ∃ k : Nat, 1 + (a.toNat : Int) % 8 = k ∧ 1 ≤ k ∧ k ≤ 8 := ⟨1 + a.toNat % 8, by omega, by omega, by omega⟩
  have hrd := round_D (List.replicate k hon) v k t (by omega) (by simp; omega)
  obtain ⟨lo, hi, B, hH⟩ := honest_round v k t hk1 (by omega)
  generalize roundW (List.replicate k hon) v k t = cs at hrd hH
  have hz0 : List.replicate k ((#[Value.int .i64 0, .int .i64 0, .int .i64 0, .int .i64 0, .int .i64 0] : Array Value).toList.map constD) = (wsAt k 0).map Wk.row := by simp [wsAt, zeroWk, Wk.row, constD]
  have hzn : wsAt k k = List.replicate k hon := by simp [wsAt]
  have hrl : ((List.replicate k hon).map Wk.row).length = k := by simp
  refine CallsD.of Tryd.func5 rfl Tryd.ntmps5 (by simp) ?_; intro F hF h0 hT; simp only [List.zipIdx_cons, List.zipIdx_nil, List.map_cons, List.map_nil, Nat.zero_add, Nat.reduceAdd]
  refine Sm.seq ?_
  refine Sm.regionG hF rfl ?_
  refine SmG.v hF rfl rfl rfl (opV_assign rfl rfl) ?_
  refine SmG.nil ?_
  refine nextS_normal ?_
  refine Sm.seq ?_
  refine Sm.regionG hF rfl ?_
  refine SmG.call hF rfl rfl (by kernel_rfl) rfl rfl rfl (sanity_D) ?_
  refine SmG.v hF rfl rfl rfl (opV_assign rfl rfl) ?_
  refine SmG.nil ?_
  refine nextS_normal ?_
  refine Sm.seq ?_
  refine Sm.regionG hF rfl ?_
  refine SmG.v hF rfl rfl rfl (opV_move rfl rfl) ?_
  refine SmG.call hF rfl rfl (by kernel_rfl) rfl rfl rfl (hres) ?_
  refine SmG.v hF rfl rfl rfl (opV_move rfl rfl) ?_
  refine SmG.v hF rfl rfl rfl (opV_bin rfl rfl rfl (by first | exact rd_rem _ _ _ _ _ (by omega) (by omega) | exact rb_rem _ _ _ _ _ _ _ (by omega))) ?_
  refine SmG.v hF rfl rfl rfl (opV_conv rfl rfl (by first | exact convS_int rfl rfl (wrapI64 _ (by omega)) | (simp (disch := omega) only [go_sem] <;> rfl))) ?_
  refine SmG.v hF rfl rfl rfl (opV_bin rfl rfl rfl ((rd_add _ _ _ _ _ (wrapI64 _ (by omega))).trans (congrArg (fun x => some (Value.int .i64 x)) hk))) ?_
  refine SmG.v hF rfl rfl rfl (opV_assign rfl rfl) ?_
  refine SmG.v hF rfl rfl rfl (opV_assign rfl rfl) ?_
  refine SmG.nil ?_
  refine nextS_normal ?_
  refine Sm.seq ?_
  refine Sm.regionG hF rfl ?_
  refine SmG.v hF rfl rfl rfl (opV_move rfl rfl) ?_
  refine SmG.makeOwn hF elWk (by decide) k rfl rfl rfl rfl rfl rfl (by omega) (by omega) ?_
  refine SmG.v hF rfl rfl rfl (opV_assign rfl rfl) ?_
  refine SmG.nil ?_
  refine nextS_normal ?_
  refine Sm.seq ?_
  refine Sm.seq ?_
  refine Sm.regionG hF rfl ?_
  refine SmG.v hF rfl rfl rfl (opV_assign rfl rfl) ?_
  refine SmG.nil ?_
  refine nextS_normal ?_
  refine Sm.block ?_
  refine Sm.loop (ι := {i : Nat // i ≤ k}) (fun i => ⟨[(2, .d (.v (.int .i8 t))), (7, .d (.v (.bool true))), (8, .d (ressL v)), (9, .d (.v (.int .i64 k))), (10, .sref 0 0 k), (11, .d (.v (.int .i64 i.1)))], [(0, dB 5 ((wsAt k i.1).map Wk.row))], 1⟩) (fun i => k - i.1) (⟨0, by omega⟩) ?_ ?_
  · exact St.le_of ⟨rfl, rfl, rfl, rfl, rfl, rfl, trivial⟩ ⟨congrArg (fun rs => some (dB 5 rs)) hz0, trivial⟩ (Nat.le_refl _)
  rintro ⟨i, hi'⟩
  simp only
  by_cases hlt : i < k
  · have hget := wsAt_get hlt
    have hset := wsAt_set hlt
    have he : (i : Int) + 1 = ((i + 1 : Nat) : Int) := by omega
    refine Sm.seq ?_
    refine Sm.seq ?_
    refine Sm.regionG hF rfl ?_
    refine SmG.v hF rfl rfl rfl (opV_move rfl rfl) ?_
    refine SmG.v hF rfl rfl rfl (opV_move rfl rfl) ?_
    refine SmG.v hF rfl rfl rfl (opV_bin rfl rfl rfl (by first | exact rd_lssT _ _ _ _ _ (by omega) | exact rd_lssF _ _ _ _ _ (by omega) | exact rb_lss _ _ _ _ _ _ _)) ?_
    refine SmG.nil ?_
    refine nextS_normal ?_
    refine Sm.condT hF rfl ?_
    refine Sm.skip ?_
    refine nextS_normal ?_
    refine Sm.seq ?_
    refine Sm.block ?_
    refine Sm.regionG hF rfl ?_
    refine SmG.v hF rfl rfl rfl (opV_move rfl rfl) ?_
    refine SmG.v hF rfl rfl rfl (opV_move rfl rfl) ?_
    refine SmG.v hF rfl rfl rfl (opV_indexAddr rfl rfl rfl (by simp (disch := omega) only [go_sem, Nat.reduceEqDiff, iteP, hget, hset, dB] <;> rfl)) ?_
    refine SmG.v hF rfl rfl rfl (opV_fieldAddr rfl rfl (by simp (disch := omega) only [go_sem, Nat.reduceEqDiff, iteP, hget, hset, dB] <;> rfl)) ?_
    refine SmG.store hF rfl rfl rfl rfl rfl (by simp (disch := omega) only [go_sem, Nat.reduceEqDiff, iteP, hget, hset, dB] <;> rfl) ?_
    refine SmG.nil ?_
    refine blockS_normal ?_
    refine nextS_normal ?_
    refine Sm.regionG hF rfl ?_
    refine SmG.v hF rfl rfl rfl (opV_move rfl rfl) ?_
    refine SmG.v hF rfl rfl rfl (opV_bin rfl rfl rfl (by first | exact rd_add _ _ _ _ _ (wrapI64 _ (by omega)) | exact rb_add _ _ _ _ _ _ _)) ?_
    refine SmG.v hF rfl rfl rfl (opV_assign rfl rfl) ?_
    refine SmG.nil ?_
    refine nextS_normal ?_
    rw [he]
    exact ⟨⟨i + 1, by omega⟩, by show k - (i + 1) < k - i; omega, St.le_of ⟨rfl, rfl, rfl, rfl, rfl, rfl, trivial⟩ ⟨rfl, trivial⟩ (Nat.le_refl _)⟩
  · have hik : i = k := by omega
    rw [hik, hzn]
    refine Sm.seq ?_
    refine Sm.seq ?_
    refine Sm.regionG hF rfl ?_
    refine SmG.v hF rfl rfl rfl (opV_move rfl rfl) ?_
    refine SmG.v hF rfl rfl rfl (opV_move rfl rfl) ?_
    refine SmG.v hF rfl rfl rfl (opV_bin rfl rfl rfl (by first | exact rd_lssT _ _ _ _ _ (by omega) | exact rd_lssF _ _ _ _ _ (by omega) | exact rb_lss _ _ _ _ _ _ _)) ?_
    refine SmG.nil ?_
    refine nextS_normal ?_
    refine Sm.condF hF rfl ?_
    refine Sm.exit ?_
    simp only [nextS, blockS, reduceIte, reduceCtorEq]
    refine Sm.seq ?_
    refine Sm.freeze (l := 0) ((List.replicate k hon).map Wk.row) rfl ?_
    simp only [frzE, frzV, dropH, reduceIte, Nat.reduceEqDiff, hrl, Nat.zero_add, Nat.le_refl, and_self, if_true]
    refine Sm.drawG hF (by kernel_rfl) rfl 11 (by kernel_rfl) (by kernel_rfl) ?_
    simp only [List.take_succ_cons, List.take_zero, List.take_nil]
    refine Head.v hF rfl rfl rfl (opV_move rfl rfl) ?_
    refine Head.v hF rfl rfl rfl (opV_move rfl rfl) ?_
    refine Head.v hF rfl rfl rfl (opV_move rfl rfl) ?_
    refine Head.v hF rfl rfl rfl (opV_move rfl rfl) ?_
    refine Head.v hF rfl rfl rfl (opV_conv rfl rfl (by first | exact convS_int rfl rfl (wrapI64 _ (by omega)) | (simp (disch := omega) only [go_sem, hrl, ressL, List.length_map] <;> rfl))) ?_
    refine Head.c hF rfl rfl (by kernel_rfl) rfl rfl rfl (hrd) ?_
    refine Head.v hF rfl rfl rfl (opV_move rfl rfl) ?_
    refine Head.v hF rfl rfl rfl (opV_len rfl rfl (by simp (disch := omega) only [go_sem, Nat.reduceEqDiff, iteP, hrl, ressL, List.length_map] <;> rfl)) ?_
    refine Head.make hF elBool17 (by decide) v.length rfl rfl rfl rfl rfl rfl (by omega) (by omega) ?_
    refine Head.v hF rfl rfl rfl (opV_assign rfl rfl) ?_
    refine Head.v hF rfl rfl rfl (opV_assign rfl rfl) ?_
    refine Head.last ⟨rfl, ?_⟩
    simp only [List.drop_succ_cons, List.drop_zero, List.drop_nil, List.nil_append, List.cons_append]
    refine SmG.nil ?_
    refine nextS_normal ?_
    refine Sm.seq ?_
    refine Sm.seq ?_
    have hlen := hH.len
    have hcl : cs.length ≤ 8 := by rw [hlen]; split <;> omega
    have hs0 : List.replicate v.length ((#[Value.bool false] : Array Value).toList.map constD) = (saidL v.length 0).map rowT := by simp [saidL, rowT, constD]
    refine Sm.join (ι := Unit) (fun _ => ⟨[(7, .d (.v (.bool true))), (8, .d (ressL v)), (12, .d (clmsL cs)), (13, .sref 1 0 v.length), (63, .d (.v (.bool false)))], [(1, dB 1 ((saidL v.length 0).map rowT))], 2⟩) ?_ ?_
    rotate_left
    · have hs0' := congrArg (fun rs => some (dB 1 rs)) hs0
      by_cases hv0 : v.length = 0
      · rw [if_pos hv0] at hlen
        refine Sm.regionG hF rfl ?_
        refine SmG.v hF rfl rfl rfl (opV_move rfl rfl) ?_
        refine SmG.v hF rfl rfl rfl (opV_len rfl rfl (by simp (disch := omega) only [go_sem, Nat.reduceEqDiff, iteP, clmsL, ressL, List.length_map] <;> rfl)) ?_
        refine SmG.v hF rfl rfl rfl (opV_bin rfl rfl rfl (by first | exact rd_gtrT _ _ _ _ _ (by omega) | exact rd_gtrF _ _ _ _ _ (by omega) | exact rb_gtr _ _ _ _ _ _ _)) ?_
        refine SmG.v hF rfl rfl rfl (opV_move rfl rfl) ?_
        first | refine SmG.v hF rfl rfl rfl (opV_move rfl rfl) ?_ | refine SmG.pass hF rfl rfl rfl ?_
        first | refine SmG.v hF rfl rfl rfl (opV_len rfl rfl (by simp (disch := omega) only [go_sem, Nat.reduceEqDiff, iteP, clmsL, ressL, List.length_map] <;> rfl)) ?_ | refine SmG.pass hF rfl rfl rfl ?_
        first | refine SmG.v hF rfl rfl rfl (opV_move rfl rfl) ?_ | refine SmG.pass hF rfl rfl rfl ?_
        first | refine SmG.v hF rfl rfl rfl (opV_bin rfl rfl rfl (by first | exact rd_neqT _ _ _ _ _ (by omega) | exact rd_neqF _ _ _ _ _ (by omega) | exact rb_neq _ _ _ _ _ _ _)) ?_ | refine SmG.pass hF rfl rfl rfl ?_
        first | refine SmG.v hF rfl rfl rfl (opV_pickT rfl rfl rfl) ?_ | refine SmG.v hF rfl rfl rfl (opV_pickF rfl rfl rfl) ?_
        refine SmG.v hF rfl rfl rfl (opV_move rfl rfl) ?_
        first | refine SmG.v hF rfl rfl rfl (opV_move rfl rfl) ?_ | refine SmG.pass hF rfl rfl rfl ?_
        first | refine SmG.v hF rfl rfl rfl (opV_len rfl rfl (by simp (disch := omega) only [go_sem, Nat.reduceEqDiff, iteP, clmsL, ressL, List.length_map] <;> rfl)) ?_ | refine SmG.pass hF rfl rfl rfl ?_
        first | refine SmG.v hF rfl rfl rfl (opV_bin rfl rfl rfl (by first | exact rd_eqlT _ _ _ _ _ (by omega) | exact rd_eqlF _ _ _ _ _ (by omega) | exact rb_eql _ _ _ _ _ _ _)) ?_ | refine SmG.pass hF rfl rfl rfl ?_
        first | refine SmG.v hF rfl rfl rfl (opV_move rfl rfl) ?_ | refine SmG.pass hF rfl rfl rfl ?_
        first | refine SmG.v hF rfl rfl rfl (opV_move rfl rfl) ?_ | refine SmG.pass hF rfl rfl rfl ?_
        first | refine SmG.v hF rfl rfl rfl (opV_len rfl rfl (by simp (disch := omega) only [go_sem, Nat.reduceEqDiff, iteP, clmsL, ressL, List.length_map] <;> rfl)) ?_ | refine SmG.pass hF rfl rfl rfl ?_
        first | refine SmG.v hF rfl rfl rfl (opV_bin rfl rfl rfl (by first | exact rd_neqT _ _ _ _ _ (by omega) | exact rd_neqF _ _ _ _ _ (by omega) | exact rb_neq _ _ _ _ _ _ _)) ?_ | refine SmG.pass hF rfl rfl rfl ?_
        first | refine SmG.v hF rfl rfl rfl (opV_pickT rfl rfl rfl) ?_ | refine SmG.v hF rfl rfl rfl (opV_pickF rfl rfl rfl) ?_ | refine SmG.pass hF rfl rfl rfl ?_
        first | refine SmG.v hF rfl rfl rfl (opV_pickT rfl rfl rfl) ?_ | refine SmG.v hF rfl rfl rfl (opV_pickF rfl rfl rfl) ?_
        refine SmG.nil ?_
        refine nextS_normal ?_
        exact ⟨(), St.le_of ⟨rfl, rfl, rfl, rfl, rfl, trivial⟩ ⟨hs0', trivial⟩ (Nat.le_refl _)⟩
      · rw [if_neg hv0] at hlen
        refine Sm.regionG hF rfl ?_
        refine SmG.v hF rfl rfl rfl (opV_move rfl rfl) ?_
        refine SmG.v hF rfl rfl rfl (opV_len rfl rfl (by simp (disch := omega) only [go_sem, Nat.reduceEqDiff, iteP, clmsL, ressL, List.length_map] <;> rfl)) ?_
        refine SmG.v hF rfl rfl rfl (opV_bin rfl rfl rfl (by first | exact rd_gtrT _ _ _ _ _ (by omega) | exact rd_gtrF _ _ _ _ _ (by omega) | exact rb_gtr _ _ _ _ _ _ _)) ?_
        refine SmG.v hF rfl rfl rfl (opV_move rfl rfl) ?_
        first | refine SmG.v hF rfl rfl rfl (opV_move rfl rfl) ?_ | refine SmG.pass hF rfl rfl rfl ?_
        first | refine SmG.v hF rfl rfl rfl (opV_len rfl rfl (by simp (disch := omega) only [go_sem, Nat.reduceEqDiff, iteP, clmsL, ressL, List.length_map] <;> rfl)) ?_ | refine SmG.pass hF rfl rfl rfl ?_
        first | refine SmG.v hF rfl rfl rfl (opV_move rfl rfl) ?_ | refine SmG.pass hF rfl rfl rfl ?_
        first | refine SmG.v hF rfl rfl rfl (opV_bin rfl rfl rfl (by first | exact rd_neqT _ _ _ _ _ (by omega) | exact rd_neqF _ _ _ _ _ (by omega) | exact rb_neq _ _ _ _ _ _ _)) ?_ | refine SmG.pass hF rfl rfl rfl ?_
        first | refine SmG.v hF rfl rfl rfl (opV_pickT rfl rfl rfl) ?_ | refine SmG.v hF rfl rfl rfl (opV_pickF rfl rfl rfl) ?_
        refine SmG.v hF rfl rfl rfl (opV_move rfl rfl) ?_
        first | refine SmG.v hF rfl rfl rfl (opV_move rfl rfl) ?_ | refine SmG.pass hF rfl rfl rfl ?_
        first | refine SmG.v hF rfl rfl rfl (opV_len rfl rfl (by simp (disch := omega) only [go_sem, Nat.reduceEqDiff, iteP, clmsL, ressL, List.length_map] <;> rfl)) ?_ | refine SmG.pass hF rfl rfl rfl ?_
        first | refine SmG.v hF rfl rfl rfl (opV_bin rfl rfl rfl (by first | exact rd_eqlT _ _ _ _ _ (by omega) | exact rd_eqlF _ _ _ _ _ (by omega) | exact rb_eql _ _ _ _ _ _ _)) ?_ | refine SmG.pass hF rfl rfl rfl ?_
        first | refine SmG.v hF rfl rfl rfl (opV_move rfl rfl) ?_ | refine SmG.pass hF rfl rfl rfl ?_
        first | refine SmG.v hF rfl rfl rfl (opV_move rfl rfl) ?_ | refine SmG.pass hF rfl rfl rfl ?_
        first | refine SmG.v hF rfl rfl rfl (opV_len rfl rfl (by simp (disch := omega) only [go_sem, Nat.reduceEqDiff, iteP, clmsL, ressL, List.length_map] <;> rfl)) ?_ | refine SmG.pass hF rfl rfl rfl ?_
        first | refine SmG.v hF rfl rfl rfl (opV_bin rfl rfl rfl (by first | exact rd_neqT _ _ _ _ _ (by omega) | exact rd_neqF _ _ _ _ _ (by omega) | exact rb_neq _ _ _ _ _ _ _)) ?_ | refine SmG.pass hF rfl rfl rfl ?_
        first | refine SmG.v hF rfl rfl rfl (opV_pickT rfl rfl rfl) ?_ | refine SmG.v hF rfl rfl rfl (opV_pickF rfl rfl rfl) ?_ | refine SmG.pass hF rfl rfl rfl ?_
        first | refine SmG.v hF rfl rfl rfl (opV_pickT rfl rfl rfl) ?_ | refine SmG.v hF rfl rfl rfl (opV_pickF rfl rfl rfl) ?_
        refine SmG.nil ?_
        refine nextS_normal ?_
        exact ⟨(), St.le_of ⟨rfl, rfl, rfl, rfl, rfl, trivial⟩ ⟨hs0', trivial⟩ (Nat.le_refl _)⟩
    intro _
    have hb0 := hH.b0
    skip
    refine Sm.condF hF rfl ?_
    refine Sm.skip ?_
    refine nextS_normal ?_
    refine Sm.seq ?_
    refine Sm.seq ?_
    refine Sm.regionG hF rfl ?_
    refine SmG.v hF rfl rfl rfl (opV_assign rfl rfl) ?_
    refine SmG.nil ?_
    refine nextS_normal ?_
    refine Sm.block ?_
    refine Sm.loop (ι := {i : Nat // i ≤ cs.length}) (fun i => ⟨[(7, .d (.v (.bool true))), (8, .d (ressL v)), (12, .d (clmsL cs)), (13, .sref 1 0 v.length), (14, .d (.v (.int .i64 i.1)))], [(1, dB 1 ((saidL v.length (B i.1)).map rowT))], 2⟩) (fun i => cs.length - i.1) (⟨0, by omega⟩) ?_ ?_
    · exact St.le_of ⟨rfl, rfl, rfl, rfl, rfl, trivial⟩ ⟨(congrArg (fun b => some (dB 1 ((saidL v.length b).map rowT))) hb0).symm, trivial⟩ (Nat.le_refl _)
    rintro ⟨i, hic⟩
    simp only
    by_cases hlt : i < cs.length
    · have hci := hH.get i hlt
      obtain ⟨h1, h2, h3, h4⟩ := hH.le i hlt
      have hBt := hH.top i
      have he : (i : Int) + 1 = ((i + 1 : Nat) : Int) := by omega
      have hRl := Sha.root_len ((partOfL v (lo i) (hi i)).map resBytes)
      have hpl := part_len (v := v) (a := lo i) (b := hi i) h2
      have hsl : List.drop (lo i) (List.take (hi i) (List.map Res.row v)) = List.map Res.row (partOfL v (lo i) (hi i)) := by simp [partOfL, List.map_take, List.map_drop]
      have hsd := sound_D (honC v i (lo i) (hi i)) hRl (by show (partOfL v (lo i) (hi i)).length ≤ _; omega) (by show (hi i : Int) ≤ _; omega)
      rw [show soundC (honC v i (lo i) (hi i)) = true from sound_true (by show (0 : Int) ≤ lo i; omega) (by show (lo i : Int) ≤ hi i; omega) (by show ((partOfL v (lo i) (hi i)).length : Int) = (hi i : Int) - lo i; omega) rfl] at hsd
      have hsr := sameResults_D (partOfL v (lo i) (hi i)) (partOfL v (lo i) (hi i)) (by omega) HG rfl
      rw [show decide (partOfL v (lo i) (hi i) = partOfL v (lo i) (hi i)) = true from decide_eq_true rfl] at hsr
      unfold honC at hci hsd
      generalize Sha.root ((partOfL v (lo i) (hi i)).map resBytes) = R at hci hsd hRl
      generalize partOfL v (lo i) (hi i) = PL at hci hsd hsr hsl hpl
      have hcR : (rowS R).length = 32 := by simp [rowS, hRl]
      have hBi := hH.top (i + 1)
      rw [← h4] at hBi
      refine Sm.seq ?_
      refine Sm.seq ?_
      refine Sm.regionG hF rfl ?_
      refine SmG.v hF rfl rfl rfl (opV_move rfl rfl) ?_
      refine SmG.v hF rfl rfl rfl (opV_move rfl rfl) ?_
      refine SmG.v hF rfl rfl rfl (opV_len rfl rfl (by simp (disch := omega) only [go_sem, Nat.reduceEqDiff, iteP, clmsL, ressL, List.length_map, hci, Clm.row, hcR, hsl, Int.toNat_natCast, pureRow_map] <;> rfl)) ?_
      refine SmG.v hF rfl rfl rfl (opV_bin rfl rfl rfl (by first | exact rd_lssT _ _ _ _ _ (by omega) | exact rd_lssF _ _ _ _ _ (by omega) | exact rb_lss _ _ _ _ _ _ _)) ?_
      refine SmG.nil ?_
      refine nextS_normal ?_
      refine Sm.condT hF rfl ?_
      refine Sm.skip ?_
      refine nextS_normal ?_
      refine Sm.seq ?_
      refine Sm.block ?_
      refine Sm.seq ?_
      refine Sm.regionG hF rfl ?_
      refine SmG.v hF rfl rfl rfl (opV_move rfl rfl) ?_
      refine SmG.v hF rfl rfl rfl (opV_move rfl rfl) ?_
      refine SmG.v hF rfl rfl rfl (opV_indexAddr rfl rfl rfl (by simp (disch := omega) only [go_sem, Nat.reduceEqDiff, iteP, clmsL, ressL, List.length_map, hci, Clm.row, hcR, hsl, Int.toNat_natCast, pureRow_map] <;> rfl)) ?_
      refine SmG.v hF rfl rfl rfl (opV_load rfl rfl (by simp (disch := omega) only [go_sem, Nat.reduceEqDiff, iteP, clmsL, ressL, List.length_map, hci, Clm.row, hcR, hsl, Int.toNat_natCast, pureRow_map] <;> rfl)) ?_
      refine SmG.new hF rfl rfl rfl (opS_alloc rfl al41) ?_
      refine SmG.store hF rfl rfl rfl rfl rfl (by simp (disch := omega) only [go_sem, Nat.reduceEqDiff, iteP, clmsL, ressL, List.length_map, hci, Clm.row, hcR, hsl, Int.toNat_natCast, pureRow_map] <;> rfl) ?_
      refine SmG.nil ?_
      refine nextS_normal ?_
      refine Sm.seq ?_
      refine Sm.seq ?_
      refine Sm.drawG hF (by kernel_rfl) rfl 40 (by kernel_rfl) (by kernel_rfl) ?_
      simp only [List.take_succ_cons, List.take_zero, List.take_nil]
      refine Head.v hF rfl rfl rfl (opV_fieldAddr rfl rfl (by simp (disch := omega) only [go_sem, Nat.reduceEqDiff, iteP, clmsL, ressL, List.length_map, hci, Clm.row, hcR, hsl, Int.toNat_natCast, pureRow_map] <;> rfl)) ?_
      refine Head.v hF rfl rfl rfl (opV_load rfl rfl (by simp (disch := omega) only [go_sem, Nat.reduceEqDiff, iteP, clmsL, ressL, List.length_map, hci, Clm.row, hcR, hsl, Int.toNat_natCast, pureRow_map] <;> rfl)) ?_
      refine Head.v hF rfl rfl rfl (opV_move rfl rfl) ?_
      refine Head.v hF rfl rfl rfl (opV_bin rfl rfl rfl (by first | exact rd_neqT _ _ _ _ _ (by omega) | exact rd_neqF _ _ _ _ _ (by omega) | exact rb_neq _ _ _ _ _ _ _)) ?_
      refine Head.v hF rfl rfl rfl (opV_move rfl rfl) ?_
      first | refine Head.v hF rfl rfl rfl (opV_fieldAddr rfl rfl (by simp (disch := omega) only [go_sem, Nat.reduceEqDiff, iteP, clmsL, ressL, List.length_map, hci, Clm.row, hcR, hsl, Int.toNat_natCast, pureRow_map] <;> rfl)) ?_ | refine Head.p hF rfl rfl rfl ?_
      first | refine Head.v hF rfl rfl rfl (opV_load rfl rfl (by simp (disch := omega) only [go_sem, Nat.reduceEqDiff, iteP, clmsL, ressL, List.length_map, hci, Clm.row, hcR, hsl, Int.toNat_natCast, pureRow_map] <;> rfl)) ?_ | refine Head.p hF rfl rfl rfl ?_
      first | refine Head.v hF rfl rfl rfl (opV_bin rfl rfl rfl (by first | exact rd_lssT _ _ _ _ _ (by omega) | exact rd_lssF _ _ _ _ _ (by omega) | exact rb_lss _ _ _ _ _ _ _)) ?_ | refine Head.p hF rfl rfl rfl ?_
      first | refine Head.v hF rfl rfl rfl (opV_pickT rfl rfl rfl) ?_ | refine Head.v hF rfl rfl rfl (opV_pickF rfl rfl rfl) ?_
      refine Head.v hF rfl rfl rfl (opV_move rfl rfl) ?_
      first | refine Head.v hF rfl rfl rfl (opV_fieldAddr rfl rfl (by simp (disch := omega) only [go_sem, Nat.reduceEqDiff, iteP, clmsL, ressL, List.length_map, hci, Clm.row, hcR, hsl, Int.toNat_natCast, pureRow_map] <;> rfl)) ?_ | refine Head.p hF rfl rfl rfl ?_
      first | refine Head.v hF rfl rfl rfl (opV_load rfl rfl (by simp (disch := omega) only [go_sem, Nat.reduceEqDiff, iteP, clmsL, ressL, List.length_map, hci, Clm.row, hcR, hsl, Int.toNat_natCast, pureRow_map] <;> rfl)) ?_ | refine Head.p hF rfl rfl rfl ?_
      first | refine Head.v hF rfl rfl rfl (opV_fieldAddr rfl rfl (by simp (disch := omega) only [go_sem, Nat.reduceEqDiff, iteP, clmsL, ressL, List.length_map, hci, Clm.row, hcR, hsl, Int.toNat_natCast, pureRow_map] <;> rfl)) ?_ | refine Head.p hF rfl rfl rfl ?_
      first | refine Head.v hF rfl rfl rfl (opV_load rfl rfl (by simp (disch := omega) only [go_sem, Nat.reduceEqDiff, iteP, clmsL, ressL, List.length_map, hci, Clm.row, hcR, hsl, Int.toNat_natCast, pureRow_map] <;> rfl)) ?_ | refine Head.p hF rfl rfl rfl ?_
      first | refine Head.v hF rfl rfl rfl (opV_bin rfl rfl rfl (by first | exact rd_lssT _ _ _ _ _ (by omega) | exact rd_lssF _ _ _ _ _ (by omega) | exact rb_lss _ _ _ _ _ _ _)) ?_ | refine Head.p hF rfl rfl rfl ?_
      first | refine Head.v hF rfl rfl rfl (opV_pickT rfl rfl rfl) ?_ | refine Head.v hF rfl rfl rfl (opV_pickF rfl rfl rfl) ?_
      refine Head.v hF rfl rfl rfl (opV_move rfl rfl) ?_
      first | refine Head.v hF rfl rfl rfl (opV_fieldAddr rfl rfl (by simp (disch := omega) only [go_sem, Nat.reduceEqDiff, iteP, clmsL, ressL, List.length_map, hci, Clm.row, hcR, hsl, Int.toNat_natCast, pureRow_map] <;> rfl)) ?_ | refine Head.p hF rfl rfl rfl ?_
      first | refine Head.v hF rfl rfl rfl (opV_load rfl rfl (by simp (disch := omega) only [go_sem, Nat.reduceEqDiff, iteP, clmsL, ressL, List.length_map, hci, Clm.row, hcR, hsl, Int.toNat_natCast, pureRow_map] <;> rfl)) ?_ | refine Head.p hF rfl rfl rfl ?_
      first | refine Head.v hF rfl rfl rfl (opV_move rfl rfl) ?_ | refine Head.p hF rfl rfl rfl ?_
      first | refine Head.v hF rfl rfl rfl (opV_len rfl rfl (by simp (disch := omega) only [go_sem, Nat.reduceEqDiff, iteP, clmsL, ressL, List.length_map, hci, Clm.row, hcR, hsl, Int.toNat_natCast, pureRow_map] <;> rfl)) ?_ | refine Head.p hF rfl rfl rfl ?_
      first | refine Head.v hF rfl rfl rfl (opV_bin rfl rfl rfl (by first | exact rd_gtrT _ _ _ _ _ (by omega) | exact rd_gtrF _ _ _ _ _ (by omega) | exact rb_gtr _ _ _ _ _ _ _)) ?_ | refine Head.p hF rfl rfl rfl ?_
      first | refine Head.v hF rfl rfl rfl (opV_pickT rfl rfl rfl) ?_ | refine Head.v hF rfl rfl rfl (opV_pickF rfl rfl rfl) ?_
      refine Head.v hF rfl rfl rfl (opV_move rfl rfl) ?_
      first | refine Head.v hF rfl rfl rfl (opV_load rfl rfl (by simp (disch := omega) only [go_sem, Nat.reduceEqDiff, iteP, clmsL, ressL, List.length_map, hci, Clm.row, hcR, hsl, Int.toNat_natCast, pureRow_map] <;> rfl)) ?_ | refine Head.p hF rfl rfl rfl ?_
      first | refine Head.c hF rfl rfl (by kernel_rfl) rfl rfl rfl (hsd) ?_ | refine Head.p hF rfl rfl rfl ?_
      first | refine Head.v hF rfl rfl rfl (opV_un rfl rfl (by first | exact rd_notT _ | exact rd_notF _ | exact rd_not _)) ?_ | refine Head.p hF rfl rfl rfl ?_
      first | refine Head.v hF rfl rfl rfl (opV_pickT rfl rfl rfl) ?_ | refine Head.v hF rfl rfl rfl (opV_pickF rfl rfl rfl) ?_
      refine Head.v hF rfl rfl rfl (opV_move rfl rfl) ?_
      first | refine Head.v hF rfl rfl rfl (opV_fieldAddr rfl rfl (by simp (disch := omega) only [go_sem, Nat.reduceEqDiff, iteP, clmsL, ressL, List.length_map, hci, Clm.row, hcR, hsl, Int.toNat_natCast, pureRow_map] <;> rfl)) ?_ | refine Head.p hF rfl rfl rfl ?_
      first | refine Head.v hF rfl rfl rfl (opV_load rfl rfl (by simp (disch := omega) only [go_sem, Nat.reduceEqDiff, iteP, clmsL, ressL, List.length_map, hci, Clm.row, hcR, hsl, Int.toNat_natCast, pureRow_map] <;> rfl)) ?_ | refine Head.p hF rfl rfl rfl ?_
      first | refine Head.v hF rfl rfl rfl (opV_move rfl rfl) ?_ | refine Head.p hF rfl rfl rfl ?_
      first | refine Head.v hF rfl rfl rfl (opV_fieldAddr rfl rfl (by simp (disch := omega) only [go_sem, Nat.reduceEqDiff, iteP, clmsL, ressL, List.length_map, hci, Clm.row, hcR, hsl, Int.toNat_natCast, pureRow_map] <;> rfl)) ?_ | refine Head.p hF rfl rfl rfl ?_
      first | refine Head.v hF rfl rfl rfl (opV_load rfl rfl (by simp (disch := omega) only [go_sem, Nat.reduceEqDiff, iteP, clmsL, ressL, List.length_map, hci, Clm.row, hcR, hsl, Int.toNat_natCast, pureRow_map] <;> rfl)) ?_ | refine Head.p hF rfl rfl rfl ?_
      first | refine Head.v hF rfl rfl rfl (opV_fieldAddr rfl rfl (by simp (disch := omega) only [go_sem, Nat.reduceEqDiff, iteP, clmsL, ressL, List.length_map, hci, Clm.row, hcR, hsl, Int.toNat_natCast, pureRow_map] <;> rfl)) ?_ | refine Head.p hF rfl rfl rfl ?_
      first | refine Head.v hF rfl rfl rfl (opV_load rfl rfl (by simp (disch := omega) only [go_sem, Nat.reduceEqDiff, iteP, clmsL, ressL, List.length_map, hci, Clm.row, hcR, hsl, Int.toNat_natCast, pureRow_map] <;> rfl)) ?_ | refine Head.p hF rfl rfl rfl ?_
      first | refine Head.v hF rfl rfl rfl (opV_slice rfl rfl rfl rfl rfl (by simp (disch := omega) only [go_sem, Nat.reduceEqDiff, iteP, clmsL, ressL, List.length_map, hci, Clm.row, hcR, hsl, Int.toNat_natCast, pureRow_map] <;> rfl)) ?_ | refine Head.p hF rfl rfl rfl ?_
      first | refine Head.c hF rfl rfl (by kernel_rfl) rfl rfl rfl (hsr) ?_ | refine Head.p hF rfl rfl rfl ?_
      first | refine Head.v hF rfl rfl rfl (opV_un rfl rfl (by first | exact rd_notT _ | exact rd_notF _ | exact rd_not _)) ?_ | refine Head.p hF rfl rfl rfl ?_
      first | refine Head.v hF rfl rfl rfl (opV_pickT rfl rfl rfl) ?_ | refine Head.v hF rfl rfl rfl (opV_pickF rfl rfl rfl) ?_
      refine Head.last ⟨rfl, ?_⟩
      simp only [List.drop_succ_cons, List.drop_zero, List.drop_nil, List.nil_append, List.cons_append]
      refine SmG.nil ?_
      refine nextS_normal ?_
      refine Sm.condF hF rfl ?_
      refine Sm.skip ?_
      refine nextS_normal ?_
      refine Sm.seq ?_
      refine Sm.regionG hF rfl ?_
      refine SmG.v hF rfl rfl rfl (opV_fieldAddr rfl rfl (by simp (disch := omega) only [go_sem, Nat.reduceEqDiff, iteP, clmsL, ressL, List.length_map, hci, Clm.row, hcR, hsl, Int.toNat_natCast, pureRow_map] <;> rfl)) ?_
      refine SmG.v hF rfl rfl rfl (opV_load rfl rfl (by simp (disch := omega) only [go_sem, Nat.reduceEqDiff, iteP, clmsL, ressL, List.length_map, hci, Clm.row, hcR, hsl, Int.toNat_natCast, pureRow_map] <;> rfl)) ?_
      refine SmG.v hF rfl rfl rfl (opV_assign rfl rfl) ?_
      refine SmG.nil ?_
      refine nextS_normal ?_
      refine Sm.block ?_
      refine Sm.loop (ι := {j : Nat // lo i ≤ j ∧ j ≤ hi i}) (fun j => ⟨[(7, .d (.v (.bool true))), (8, .d (ressL v)), (12, .d (clmsL cs)), (13, .sref 1 0 v.length), (14, .d (.v (.int .i64 i))), (15, .ref 2 0 0), (16, .d (.v (.int .i64 j.1)))], [(2, dB 36 [(Clm.mk i (lo i) (hi i) PL R).row]), (1, dB 1 ((saidL v.length (max (B i) j.1)).map rowT))], 3⟩) (fun j => hi i - j.1) (⟨lo i, by omega, by omega⟩) ?_ ?_
      · exact St.le_of ⟨rfl, rfl, rfl, rfl, rfl, rfl, rfl, trivial⟩ ⟨rfl, (congrArg (fun b => some (dB 1 ((saidL v.length b).map rowT))) (show max (B i) (lo i) = B i by omega)).symm, trivial⟩ (Nat.le_refl _)
      rintro ⟨j, hj1, hj2⟩
      simp only
      by_cases hjl : j < hi i
      · obtain ⟨bb, hget⟩ : ∃ bb, ((saidL v.length (max (B i) j)).map rowT)[j]? = some [D.v (.bool bb)] := ⟨(saidL v.length (max (B i) j))[j]'(by rw [saidL_len (by omega)]; omega), by rw [List.getElem?_map, List.getElem?_eq_getElem (by rw [saidL_len (by omega)]; omega)]; rfl⟩
        have hset := saidL_row v.length (max (B i) j) j (by omega) (by omega) (by omega)
        rw [show max (max (B i) j) (j + 1) = max (B i) (j + 1) by omega] at hset
        have hje : (j : Int) + 1 = ((j + 1 : Nat) : Int) := by omega
        refine Sm.seq ?_
        refine Sm.seq ?_
        refine Sm.regionG hF rfl ?_
        refine SmG.v hF rfl rfl rfl (opV_move rfl rfl) ?_
        refine SmG.v hF rfl rfl rfl (opV_fieldAddr rfl rfl (by simp (disch := omega) only [go_sem, Nat.reduceEqDiff, iteP, Clm.row, hget, hset, dB] <;> rfl)) ?_
        refine SmG.v hF rfl rfl rfl (opV_load rfl rfl (by simp (disch := omega) only [go_sem, Nat.reduceEqDiff, iteP, Clm.row, hget, hset, dB] <;> rfl)) ?_
        refine SmG.v hF rfl rfl rfl (opV_bin rfl rfl rfl (by first | exact rd_lssT _ _ _ _ _ (by omega) | exact rd_lssF _ _ _ _ _ (by omega) | exact rb_lss _ _ _ _ _ _ _)) ?_
        refine SmG.nil ?_
        refine nextS_normal ?_
        refine Sm.condT hF rfl ?_
        refine Sm.skip ?_
        refine nextS_normal ?_
        refine Sm.seq ?_
        refine Sm.block ?_
        refine Sm.regionG hF rfl ?_
        refine SmG.v hF rfl rfl rfl (opV_move rfl rfl) ?_
        refine SmG.v hF rfl rfl rfl (opV_move rfl rfl) ?_
        refine SmG.v hF rfl rfl rfl (opV_indexAddr rfl rfl rfl (by simp (disch := omega) only [go_sem, Nat.reduceEqDiff, iteP, Clm.row, hget, hset, dB] <;> rfl)) ?_
        refine SmG.store hF rfl rfl rfl rfl rfl (by simp (disch := omega) only [go_sem, Nat.reduceEqDiff, iteP, Clm.row, hget, hset, dB] <;> rfl) ?_
        refine SmG.nil ?_
        refine blockS_normal ?_
        refine nextS_normal ?_
        refine Sm.regionG hF rfl ?_
        refine SmG.v hF rfl rfl rfl (opV_move rfl rfl) ?_
        refine SmG.v hF rfl rfl rfl (opV_bin rfl rfl rfl (by first | exact rd_add _ _ _ _ _ (wrapI64 _ (by omega)) | exact rb_add _ _ _ _ _ _ _)) ?_
        refine SmG.v hF rfl rfl rfl (opV_assign rfl rfl) ?_
        refine SmG.nil ?_
        refine nextS_normal ?_
        rw [hje]
        exact ⟨⟨j + 1, by omega, by omega⟩, by show hi i - (j + 1) < hi i - j; omega, St.le_of ⟨rfl, rfl, rfl, rfl, rfl, rfl, rfl, trivial⟩ ⟨rfl, rfl, trivial⟩ (Nat.le_refl _)⟩
      · have hje : j = hi i := by omega
        rw [hje, show max (B i) (hi i) = B (i + 1) from h4]
        refine Sm.seq ?_
        refine Sm.seq ?_
        refine Sm.regionG hF rfl ?_
        refine SmG.v hF rfl rfl rfl (opV_move rfl rfl) ?_
        refine SmG.v hF rfl rfl rfl (opV_fieldAddr rfl rfl (by simp (disch := omega) only [go_sem, Nat.reduceEqDiff, iteP, Clm.row] <;> rfl)) ?_
        refine SmG.v hF rfl rfl rfl (opV_load rfl rfl (by simp (disch := omega) only [go_sem, Nat.reduceEqDiff, iteP, Clm.row] <;> rfl)) ?_
        refine SmG.v hF rfl rfl rfl (opV_bin rfl rfl rfl (by first | exact rd_lssT _ _ _ _ _ (by omega) | exact rd_lssF _ _ _ _ _ (by omega) | exact rb_lss _ _ _ _ _ _ _)) ?_
        refine SmG.nil ?_
        refine nextS_normal ?_
        refine Sm.condF hF rfl ?_
        refine Sm.exit ?_
        simp only [nextS, blockS, reduceIte, reduceCtorEq]
        refine Sm.regionG hF rfl ?_
        refine SmG.cut 2 (by (repeat' first | exact ltH_nil _ | exact ltR_map _ _ | exact trivial | refine ltH_over ?_ (by decide) | refine ltH_cons ?_ (lt_dB _ _ _) | refine ltH_row ?_ ?_ | refine ⟨rfl, ?_⟩)) ?_; simp only [Pk.v, cutE, cutH, V.lt, Nat.reduceAdd, Nat.reduceLT, decide_true, decide_false, reduceIte, Bool.false_eq_true, Nat.lt_irrefl, Nat.not_lt_zero, Nat.zero_lt_one, Nat.zero_lt_succ, Nat.zero_lt_two, Nat.one_lt_two]
        refine SmG.v hF rfl rfl rfl (opV_move rfl rfl) ?_
        refine SmG.v hF rfl rfl rfl (opV_bin rfl rfl rfl (by first | exact rd_add _ _ _ _ _ (wrapI64 _ (by omega)) | exact rb_add _ _ _ _ _ _ _)) ?_
        refine SmG.v hF rfl rfl rfl (opV_assign rfl rfl) ?_
        refine SmG.nil ?_
        refine nextS_normal ?_
        rw [he]
        exact ⟨⟨i + 1, by omega⟩, by show cs.length - (i + 1) < cs.length - i; omega, St.le_of ⟨rfl, rfl, rfl, rfl, rfl, trivial⟩ ⟨rfl, trivial⟩ (Nat.le_refl _)⟩
    · have hie : i = cs.length := by omega
      rw [hie, hH.bn]
      refine Sm.seq ?_
      refine Sm.seq ?_
      refine Sm.regionG hF rfl ?_
      refine SmG.v hF rfl rfl rfl (opV_move rfl rfl) ?_
      refine SmG.v hF rfl rfl rfl (opV_move rfl rfl) ?_
      refine SmG.v hF rfl rfl rfl (opV_len rfl rfl (by simp (disch := omega) only [go_sem, Nat.reduceEqDiff, iteP, clmsL, List.length_map] <;> rfl)) ?_
      refine SmG.v hF rfl rfl rfl (opV_bin rfl rfl rfl (by first | exact rd_lssT _ _ _ _ _ (by omega) | exact rd_lssF _ _ _ _ _ (by omega) | exact rb_lss _ _ _ _ _ _ _)) ?_
      refine SmG.nil ?_
      refine nextS_normal ?_
      refine Sm.condF hF rfl ?_
      refine Sm.exit ?_
      simp only [nextS, blockS, reduceIte, reduceCtorEq]
      refine Sm.seq ?_
      refine Sm.seq ?_
      refine Sm.regionG hF rfl ?_
      refine SmG.v hF rfl rfl rfl (opV_assign rfl rfl) ?_
      refine SmG.nil ?_
      refine nextS_normal ?_
      refine Sm.block ?_
      refine Sm.loop (ι := {j : Nat // j ≤ v.length}) (fun j => ⟨[(7, .d (.v (.bool true))), (13, .sref 1 0 v.length), (17, .d (.v (.int .i64 j.1)))], [(1, dB 1 ((saidL v.length v.length).map rowT))], 2⟩) (fun j => v.length - j.1) (⟨0, by omega⟩) ?_ ?_
      · exact St.le_of ⟨rfl, rfl, rfl, trivial⟩ ⟨rfl, trivial⟩ (Nat.le_refl _)
      rintro ⟨j, hj⟩
      simp only
      by_cases hjl : j < v.length
      · have hget := saidL_all v.length j hjl
        have hje : (j : Int) + 1 = ((j + 1 : Nat) : Int) := by omega
        refine Sm.seq ?_
        refine Sm.seq ?_
        refine Sm.regionG hF rfl ?_
        refine SmG.v hF rfl rfl rfl (opV_move rfl rfl) ?_
        refine SmG.v hF rfl rfl rfl (opV_move rfl rfl) ?_
        refine SmG.v hF rfl rfl rfl (opV_len rfl rfl (by simp (disch := omega) only [go_sem, Nat.reduceEqDiff, iteP, hget, dB] <;> rfl)) ?_
        refine SmG.v hF rfl rfl rfl (opV_bin rfl rfl rfl (by first | exact rd_lssT _ _ _ _ _ (by omega) | exact rd_lssF _ _ _ _ _ (by omega) | exact rb_lss _ _ _ _ _ _ _)) ?_
        refine SmG.nil ?_
        refine nextS_normal ?_
        refine Sm.condT hF rfl ?_
        refine Sm.skip ?_
        refine nextS_normal ?_
        refine Sm.seq ?_
        refine Sm.block ?_
        refine Sm.seq ?_
        refine Sm.regionG hF rfl ?_
        refine SmG.v hF rfl rfl rfl (opV_move rfl rfl) ?_
        refine SmG.v hF rfl rfl rfl (opV_move rfl rfl) ?_
        refine SmG.v hF rfl rfl rfl (opV_indexAddr rfl rfl rfl (by simp (disch := omega) only [go_sem, Nat.reduceEqDiff, iteP, hget, dB] <;> rfl)) ?_
        refine SmG.v hF rfl rfl rfl (opV_load rfl rfl (by simp (disch := omega) only [go_sem, Nat.reduceEqDiff, iteP, hget, dB] <;> rfl)) ?_
        refine SmG.v hF rfl rfl rfl (opV_un rfl rfl (by first | exact rd_notT _ | exact rd_notF _ | exact rd_not _)) ?_
        refine SmG.nil ?_
        refine nextS_normal ?_
        refine Sm.condF hF rfl ?_
        refine Sm.skip ?_
        refine blockS_normal ?_
        refine nextS_normal ?_
        refine Sm.regionG hF rfl ?_
        refine SmG.v hF rfl rfl rfl (opV_move rfl rfl) ?_
        refine SmG.v hF rfl rfl rfl (opV_bin rfl rfl rfl (by first | exact rd_add _ _ _ _ _ (wrapI64 _ (by omega)) | exact rb_add _ _ _ _ _ _ _)) ?_
        refine SmG.v hF rfl rfl rfl (opV_assign rfl rfl) ?_
        refine SmG.nil ?_
        refine nextS_normal ?_
        rw [hje]
        exact ⟨⟨j + 1, by omega⟩, by show v.length - (j + 1) < v.length - j; omega, St.le_of ⟨rfl, rfl, rfl, trivial⟩ ⟨rfl, trivial⟩ (Nat.le_refl _)⟩
      · have hje : j = v.length := by omega
        rw [hje]
        refine Sm.seq ?_
        refine Sm.seq ?_
        refine Sm.regionG hF rfl ?_
        refine SmG.v hF rfl rfl rfl (opV_move rfl rfl) ?_
        refine SmG.v hF rfl rfl rfl (opV_move rfl rfl) ?_
        refine SmG.v hF rfl rfl rfl (opV_len rfl rfl (by simp (disch := omega) only [go_sem, Nat.reduceEqDiff, iteP, clmsL, List.length_map] <;> rfl)) ?_
        refine SmG.v hF rfl rfl rfl (opV_bin rfl rfl rfl (by first | exact rd_lssT _ _ _ _ _ (by omega) | exact rd_lssF _ _ _ _ _ (by omega) | exact rb_lss _ _ _ _ _ _ _)) ?_
        refine SmG.nil ?_
        refine nextS_normal ?_
        refine Sm.condF hF rfl ?_
        refine Sm.exit ?_
        simp only [nextS, blockS, reduceIte, reduceCtorEq]
        refine Sm.seq ?_
        refine Sm.regionG hF rfl ?_
        refine SmG.v hF rfl rfl rfl (opV_move rfl rfl) ?_
        refine SmG.v hF rfl rfl rfl (opV_assign rfl rfl) ?_
        refine SmG.nil ?_
        refine nextS_normal ?_
        refine Sm.ret ?_
        refine ⟨_, rfl, ?_⟩; dsimp only
        exact D.le.refl _
end Go.Proofs.YtagfaaijgfigkaaDoor
