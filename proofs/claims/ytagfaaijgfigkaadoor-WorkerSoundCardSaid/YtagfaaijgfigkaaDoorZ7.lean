/-
  Lemmas, part 7 of 7: walks through the program's functions, and plain Lean about what they compute.
-/
import Derived.Test.YtagfaaijgfigkaaDoorCards
import Derived.Test.YtagfaaijgfigkaaDoorTie
import Derived.Test.YtagfaaijgfigkaaDoorZ1
import Derived.Test.YtagfaaijgfigkaaDoorZ2
import Derived.Test.YtagfaaijgfigkaaDoorZ3
import Derived.Test.YtagfaaijgfigkaaDoorZ4
import Derived.Test.YtagfaaijgfigkaaDoorZ5
import Derived.Test.YtagfaaijgfigkaaDoorZ6
set_option linter.unnecessarySimpa false
set_option linter.unusedSimpArgs false
set_option linter.unusedVariables false
namespace Go.Proofs.YtagfaaijgfigkaaDoor
open Go.RowKit
set_option maxRecDepth 100000
def resOf (x : UInt8 × UInt8) : Res := ⟨1 + (x.1.toNat : Int) % 3, if 1 + (x.1.toNat : Int) % 3 = 2 then 0 else x.2.toNat⟩
def rowU2 (x : UInt8 × UInt8) : List D := [byteD x.1, byteD x.2]
def u2sL (l : List (UInt8 × UInt8)) : D := .list 2 (l.map rowU2) false
def resultsOf (l : List (UInt8 × UInt8)) (n : Nat) : List Res := (l.take n).map resOf
theorem resultsOf_len (l : List (UInt8 × UInt8)) (n : Nat) : (resultsOf l n).length ≤ n := by simp [resultsOf]; omega
theorem results_D (l : List (UInt8 × UInt8)) (n : Nat) (hl : l.length ≤ 9223372036854775807) (hn : n ≤ 1000000) (G : Nat → Option D) : CallsD Tryd.prog G 11 [u2sL l, .v (.int .i64 n)] (ressL (resultsOf l n)) := by
  refine CallsD.of Tryd.func11 rfl Tryd.ntmps11 (by simp) ?_; intro F hF h0 hT; simp only [List.zipIdx_cons, List.zipIdx_nil, List.map_cons, List.map_nil, Nat.zero_add, Nat.reduceAdd]
  refine Sm.seq ?_
  refine Sm.regionG hF rfl ?_
  refine SmG.v hF rfl rfl rfl (opV_assign rfl rfl) ?_
  refine SmG.nil ?_
  refine nextS_normal ?_
  refine Sm.seq ?_
  refine Sm.regionG hF rfl ?_
  refine SmG.v hF rfl rfl rfl (opV_buildSlice rfl rfl (by simp (disch := omega) only [go_sem, Nat.reduceEqDiff, iteP, u2sL] <;> rfl)) ?_
  refine SmG.v hF rfl rfl rfl (opV_assign rfl rfl) ?_
  refine SmG.nil ?_
  refine nextS_normal ?_
  refine Sm.seq ?_
  refine Sm.seq ?_
  refine Sm.regionG hF rfl ?_
  refine SmG.v hF rfl rfl rfl (opV_assign rfl rfl) ?_
  refine SmG.nil ?_
  refine nextS_normal ?_
  refine Sm.block ?_
  refine Sm.own (t := 5) (sz := 2) 2 rfl ?_
  refine Sm.loop (ι := {i : Nat // i ≤ l.length ∧ i ≤ n}) (fun i => ⟨[(0, .d (u2sL l)), (1, .d (.v (.int .i64 n))), (5, .sref 0 0 ((resultsOf l i.1).map Res.row).length), (6, .d (.v (.int .i64 i.1)))], [(0, dB 2 ((resultsOf l i.1).map Res.row))], 1⟩) (fun i => n - i.1) (⟨0, by omega, by omega⟩) ?_ ?_
  · exact St.le_of ⟨rfl, rfl, rfl, rfl, trivial⟩ ⟨rfl, trivial⟩ (Nat.le_refl _)
  rintro ⟨i, hi, hin⟩
  simp only
  have fin : i = l.length ∨ i = n → resultsOf l i = resultsOf l n := by
    rintro (h | h)
    · unfold resultsOf; rw [List.take_of_length_le (by omega), List.take_of_length_le (by omega)]
    · rw [h]
  by_cases hlt : i < l.length ∧ i < n
  · obtain ⟨hlt, hltn⟩ := hlt
    have hli : l[i]? = some l[i] := by simp
    have htk : resultsOf l (i + 1) = resultsOf l i ++ [resOf l[i]] := by unfold resultsOf; rw [List.take_add_one, hli, List.map_append]; rfl
    have hlen : (resultsOf l i).length = i := by simp [resultsOf]; omega
    have he : (i : Int) + 1 = ((i + 1 : Nat) : Int) := by omega
    generalize l[i] = x at hli htk
    obtain ⟨x, y⟩ := x
    have hx := x.toNat_lt
    have hy := y.toNat_lt
    by_cases h2 : 1 + (x.toNat : Int) % 3 = 2
    · have hrow : (resultsOf l i).map Res.row ++ [[.v (.int .i64 (1 + (x.toNat : Int) % 3)), .v (.int .i64 0)]] = (resultsOf l (i + 1)).map Res.row := by rw [htk]; simp [resOf, Res.row, h2]
      refine Sm.seq ?_
      refine Sm.seq ?_
      refine Sm.regionG hF rfl ?_
      refine SmG.v hF rfl rfl rfl (opV_move rfl rfl) ?_
      refine SmG.v hF rfl rfl rfl (opV_move rfl rfl) ?_
      refine SmG.v hF rfl rfl rfl (opV_len rfl rfl (by simp (disch := omega) only [go_sem, Nat.reduceEqDiff, iteP, u2sL, hli, rowU2, byteD] <;> rfl)) ?_
      refine SmG.v hF rfl rfl rfl (opV_bin rfl rfl rfl (by first | exact rd_lssT _ _ _ _ _ (by omega) | exact rd_lssF _ _ _ _ _ (by omega) | exact rb_lss _ _ _ _ _ _ _)) ?_
      refine SmG.v hF rfl rfl rfl (opV_move rfl rfl) ?_
      first | refine SmG.v hF rfl rfl rfl (opV_move rfl rfl) ?_ | refine SmG.pass hF rfl rfl rfl ?_
      first | refine SmG.v hF rfl rfl rfl (opV_move rfl rfl) ?_ | refine SmG.pass hF rfl rfl rfl ?_
      first | refine SmG.v hF rfl rfl rfl (opV_bin rfl rfl rfl (by first | exact rd_lssT _ _ _ _ _ (by omega) | exact rd_lssF _ _ _ _ _ (by omega) | exact rb_lss _ _ _ _ _ _ _)) ?_ | refine SmG.pass hF rfl rfl rfl ?_
      first | refine SmG.v hF rfl rfl rfl (opV_pickT rfl rfl rfl) ?_ | refine SmG.v hF rfl rfl rfl (opV_pickF rfl rfl rfl) ?_
      refine SmG.nil ?_
      refine nextS_normal ?_
      refine Sm.condT hF rfl ?_
      refine Sm.skip ?_
      refine nextS_normal ?_
      refine Sm.seq ?_
      refine Sm.block ?_
      refine Sm.seq ?_
      refine Sm.drawG hF (by kernel_rfl) rfl 16 (by kernel_rfl) (by kernel_rfl) ?_
      simp only [List.take_succ_cons, List.take_zero, List.take_nil]
      refine Head.v hF rfl rfl rfl (opV_move rfl rfl) ?_
      refine Head.v hF rfl rfl rfl (opV_move rfl rfl) ?_
      refine Head.v hF rfl rfl rfl (opV_indexAddr rfl rfl rfl (by simp (disch := omega) only [go_sem, Nat.reduceEqDiff, iteP, u2sL, hli, rowU2, byteD] <;> rfl)) ?_
      refine Head.v hF rfl rfl rfl (opV_indexAddr rfl rfl rfl (by simp (disch := omega) only [go_sem, Nat.reduceEqDiff, iteP, u2sL, hli, rowU2, byteD] <;> rfl)) ?_
      refine Head.v hF rfl rfl rfl (opV_load rfl rfl (by simp (disch := omega) only [go_sem, Nat.reduceEqDiff, iteP, u2sL, hli, rowU2, byteD] <;> rfl)) ?_
      refine Head.v hF rfl rfl rfl (opV_bin rfl rfl rfl (by first | exact rd_rem _ _ _ _ _ (by omega) (by omega) | exact rb_rem _ _ _ _ _ _ _ (by omega))) ?_
      refine Head.v hF rfl rfl rfl (opV_conv rfl rfl (by first | exact convS_int rfl rfl (wrapI64 _ (by omega)) | (simp (disch := omega) only [go_sem, u2sL, hli, rowU2, byteD] <;> rfl))) ?_
      refine Head.v hF rfl rfl rfl (opV_bin rfl rfl rfl (by first | exact rd_add _ _ _ _ _ (wrapI64 _ (by omega)) | exact rb_add _ _ _ _ _ _ _)) ?_
      refine Head.v hF rfl rfl rfl (opV_move rfl rfl) ?_
      refine Head.v hF rfl rfl rfl (opV_move rfl rfl) ?_
      refine Head.v hF rfl rfl rfl (opV_indexAddr rfl rfl rfl (by simp (disch := omega) only [go_sem, Nat.reduceEqDiff, iteP, u2sL, hli, rowU2, byteD] <;> rfl)) ?_
      refine Head.v hF rfl rfl rfl (opV_indexAddr rfl rfl rfl (by simp (disch := omega) only [go_sem, Nat.reduceEqDiff, iteP, u2sL, hli, rowU2, byteD] <;> rfl)) ?_
      refine Head.v hF rfl rfl rfl (opV_load rfl rfl (by simp (disch := omega) only [go_sem, Nat.reduceEqDiff, iteP, u2sL, hli, rowU2, byteD] <;> rfl)) ?_
      refine Head.v hF rfl rfl rfl (opV_conv rfl rfl (by first | exact convS_int rfl rfl (wrapI64 _ (by omega)) | (simp (disch := omega) only [go_sem, u2sL, hli, rowU2, byteD] <;> rfl))) ?_
      refine Head.v hF rfl rfl rfl (opV_buildT rfl Tryd.underlying34 (by kernel_rfl) rfl (by simp (disch := omega) only [go_sem, Nat.reduceEqDiff, iteP, u2sL, hli, rowU2, byteD] <;> rfl)) ?_
      refine Head.new hF rfl rfl rfl rfl al34 ?_
      refine Head.last ⟨rfl, ?_⟩
      simp only [List.drop_succ_cons, List.drop_zero, List.drop_nil, List.nil_append, List.cons_append]
      refine SmG.store hF rfl rfl rfl rfl rfl (by simp (disch := omega) only [go_sem, Nat.reduceEqDiff, iteP, u2sL, hli, rowU2, byteD] <;> rfl) ?_
      refine SmG.nil ?_
      refine nextS_normal ?_
      refine Sm.seq ?_
      refine Sm.seq ?_
      refine Sm.regionG hF rfl ?_
      refine SmG.v hF rfl rfl rfl (opV_fieldAddr rfl rfl (by simp (disch := omega) only [go_sem, Nat.reduceEqDiff, iteP, u2sL, hli, rowU2, byteD] <;> rfl)) ?_
      refine SmG.v hF rfl rfl rfl (opV_load rfl rfl (by simp (disch := omega) only [go_sem, Nat.reduceEqDiff, iteP, u2sL, hli, rowU2, byteD] <;> rfl)) ?_
      refine SmG.v hF rfl rfl rfl (opV_bin rfl rfl rfl (by first | exact rd_eqlT _ _ _ _ _ (by omega) | exact rd_eqlF _ _ _ _ _ (by omega) | exact rb_eql _ _ _ _ _ _ _)) ?_
      refine SmG.nil ?_
      refine nextS_normal ?_
      refine Sm.condT hF rfl ?_
      refine Sm.regionG hF rfl ?_
      refine SmG.v hF rfl rfl rfl (opV_fieldAddr rfl rfl (by simp (disch := omega) only [go_sem, Nat.reduceEqDiff, iteP, u2sL, hli, rowU2, byteD] <;> rfl)) ?_
      refine SmG.store hF rfl rfl rfl rfl rfl (by simp (disch := omega) only [go_sem, Nat.reduceEqDiff, iteP, u2sL, hli, rowU2, byteD] <;> rfl) ?_
      refine SmG.nil ?_
      refine nextS_normal ?_
      refine Sm.regionG hF rfl ?_
      refine SmG.v hF rfl rfl rfl (opV_move rfl rfl) ?_
      refine SmG.v hF rfl rfl rfl (opV_load rfl rfl (by simp (disch := omega) only [go_sem, Nat.reduceEqDiff, iteP, u2sL, hli, rowU2, byteD] <;> rfl)) ?_
      refine SmG.v hF rfl rfl rfl (opV_buildSlice rfl rfl (by simp (disch := omega) only [go_sem, Nat.reduceEqDiff, iteP, u2sL, hli, rowU2, byteD] <;> rfl)) ?_
      refine SmG.appendOwn hF elRes rfl rfl rfl rfl rfl rfl rfl (by first | rfl | (simp; done) | (simp; omega)) (Or.inl rfl) (by (repeat' first | exact freeH_nil _ | refine freeH_same ?_ | refine freeH_cons ?_ (free_dB _ _ _) | refine freeH_cons ?_ (free_dB _ _ [_]) | refine freeH_cons ?_ (free_row (by rfl)))) ?_ ?_ ?_; rotate_left; rotate_left; simp only [killV, Pk.v, V.free, rep, bne_self_eq_false, Nat.reduceAdd, Nat.reduceBNe, Nat.reduceBEq, Nat.reduceEqDiff, reduceIte, Bool.false_eq_true]
      rotate_left
      · simp only [List.length_map, List.length_cons, List.length_nil]; omega
      · simp only [List.length_map, List.length_cons, List.length_nil]; omega
      refine SmG.cut 1 (by (repeat' first | exact ltH_nil _ | exact ltR_map _ _ | exact trivial | refine ltH_over ?_ (by decide) | refine ltH_cons ?_ (lt_dB _ _ _) | refine ltH_row ?_ ?_ | refine ⟨rfl, ?_⟩)) ?_; simp only [Pk.v, cutE, cutH, V.lt, Nat.reduceAdd, Nat.reduceLT, decide_true, decide_false, reduceIte, Bool.false_eq_true, Nat.lt_irrefl, Nat.not_lt_zero, Nat.zero_lt_one, Nat.zero_lt_succ, Nat.zero_lt_two, Nat.one_lt_two]
      rw [hrow]
      refine SmG.v hF rfl rfl rfl (opV_assign rfl rfl) ?_
      refine SmG.nil ?_
      refine blockS_normal ?_
      refine nextS_normal ?_
      refine Sm.regionG hF rfl ?_
      refine SmG.v hF rfl rfl rfl (opV_move rfl rfl) ?_
      refine SmG.v hF rfl rfl rfl (opV_bin rfl rfl rfl (by first | exact rd_add _ _ _ _ _ (wrapI64 _ (by omega)) | exact rb_add _ _ _ _ _ _ _)) ?_
      refine SmG.v hF rfl rfl rfl (opV_assign rfl rfl) ?_
      refine SmG.nil ?_
      refine nextS_normal ?_
      rw [he]
      exact ⟨⟨i + 1, by omega, by omega⟩, by show n - (i + 1) < n - i; omega, St.le_of ⟨rfl, rfl, rfl, rfl, trivial⟩ ⟨rfl, trivial⟩ (Nat.le_refl _)⟩
    · have hrow : (resultsOf l i).map Res.row ++ [[.v (.int .i64 (1 + (x.toNat : Int) % 3)), .v (.int .i64 (y.toNat : Int))]] = (resultsOf l (i + 1)).map Res.row := by rw [htk]; simp [resOf, Res.row, h2]
      refine Sm.seq ?_
      refine Sm.seq ?_
      refine Sm.regionG hF rfl ?_
      refine SmG.v hF rfl rfl rfl (opV_move rfl rfl) ?_
      refine SmG.v hF rfl rfl rfl (opV_move rfl rfl) ?_
      refine SmG.v hF rfl rfl rfl (opV_len rfl rfl (by simp (disch := omega) only [go_sem, Nat.reduceEqDiff, iteP, u2sL, hli, rowU2, byteD] <;> rfl)) ?_
      refine SmG.v hF rfl rfl rfl (opV_bin rfl rfl rfl (by first | exact rd_lssT _ _ _ _ _ (by omega) | exact rd_lssF _ _ _ _ _ (by omega) | exact rb_lss _ _ _ _ _ _ _)) ?_
      refine SmG.v hF rfl rfl rfl (opV_move rfl rfl) ?_
      first | refine SmG.v hF rfl rfl rfl (opV_move rfl rfl) ?_ | refine SmG.pass hF rfl rfl rfl ?_
      first | refine SmG.v hF rfl rfl rfl (opV_move rfl rfl) ?_ | refine SmG.pass hF rfl rfl rfl ?_
      first | refine SmG.v hF rfl rfl rfl (opV_bin rfl rfl rfl (by first | exact rd_lssT _ _ _ _ _ (by omega) | exact rd_lssF _ _ _ _ _ (by omega) | exact rb_lss _ _ _ _ _ _ _)) ?_ | refine SmG.pass hF rfl rfl rfl ?_
      first | refine SmG.v hF rfl rfl rfl (opV_pickT rfl rfl rfl) ?_ | refine SmG.v hF rfl rfl rfl (opV_pickF rfl rfl rfl) ?_
      refine SmG.nil ?_
      refine nextS_normal ?_
      refine Sm.condT hF rfl ?_
      refine Sm.skip ?_
      refine nextS_normal ?_
      refine Sm.seq ?_
      refine Sm.block ?_
      refine Sm.seq ?_
      refine Sm.drawG hF (by kernel_rfl) rfl 16 (by kernel_rfl) (by kernel_rfl) ?_
      simp only [List.take_succ_cons, List.take_zero, List.take_nil]
      refine Head.v hF rfl rfl rfl (opV_move rfl rfl) ?_
      refine Head.v hF rfl rfl rfl (opV_move rfl rfl) ?_
      refine Head.v hF rfl rfl rfl (opV_indexAddr rfl rfl rfl (by simp (disch := omega) only [go_sem, Nat.reduceEqDiff, iteP, u2sL, hli, rowU2, byteD] <;> rfl)) ?_
      refine Head.v hF rfl rfl rfl (opV_indexAddr rfl rfl rfl (by simp (disch := omega) only [go_sem, Nat.reduceEqDiff, iteP, u2sL, hli, rowU2, byteD] <;> rfl)) ?_
      refine Head.v hF rfl rfl rfl (opV_load rfl rfl (by simp (disch := omega) only [go_sem, Nat.reduceEqDiff, iteP, u2sL, hli, rowU2, byteD] <;> rfl)) ?_
      refine Head.v hF rfl rfl rfl (opV_bin rfl rfl rfl (by first | exact rd_rem _ _ _ _ _ (by omega) (by omega) | exact rb_rem _ _ _ _ _ _ _ (by omega))) ?_
      refine Head.v hF rfl rfl rfl (opV_conv rfl rfl (by first | exact convS_int rfl rfl (wrapI64 _ (by omega)) | (simp (disch := omega) only [go_sem, u2sL, hli, rowU2, byteD] <;> rfl))) ?_
      refine Head.v hF rfl rfl rfl (opV_bin rfl rfl rfl (by first | exact rd_add _ _ _ _ _ (wrapI64 _ (by omega)) | exact rb_add _ _ _ _ _ _ _)) ?_
      refine Head.v hF rfl rfl rfl (opV_move rfl rfl) ?_
      refine Head.v hF rfl rfl rfl (opV_move rfl rfl) ?_
      refine Head.v hF rfl rfl rfl (opV_indexAddr rfl rfl rfl (by simp (disch := omega) only [go_sem, Nat.reduceEqDiff, iteP, u2sL, hli, rowU2, byteD] <;> rfl)) ?_
      refine Head.v hF rfl rfl rfl (opV_indexAddr rfl rfl rfl (by simp (disch := omega) only [go_sem, Nat.reduceEqDiff, iteP, u2sL, hli, rowU2, byteD] <;> rfl)) ?_
      refine Head.v hF rfl rfl rfl (opV_load rfl rfl (by simp (disch := omega) only [go_sem, Nat.reduceEqDiff, iteP, u2sL, hli, rowU2, byteD] <;> rfl)) ?_
      refine Head.v hF rfl rfl rfl (opV_conv rfl rfl (by first | exact convS_int rfl rfl (wrapI64 _ (by omega)) | (simp (disch := omega) only [go_sem, u2sL, hli, rowU2, byteD] <;> rfl))) ?_
      refine Head.v hF rfl rfl rfl (opV_buildT rfl Tryd.underlying34 (by kernel_rfl) rfl (by simp (disch := omega) only [go_sem, Nat.reduceEqDiff, iteP, u2sL, hli, rowU2, byteD] <;> rfl)) ?_
      refine Head.new hF rfl rfl rfl rfl al34 ?_
      refine Head.last ⟨rfl, ?_⟩
      simp only [List.drop_succ_cons, List.drop_zero, List.drop_nil, List.nil_append, List.cons_append]
      refine SmG.store hF rfl rfl rfl rfl rfl (by simp (disch := omega) only [go_sem, Nat.reduceEqDiff, iteP, u2sL, hli, rowU2, byteD] <;> rfl) ?_
      refine SmG.nil ?_
      refine nextS_normal ?_
      refine Sm.seq ?_
      refine Sm.seq ?_
      refine Sm.regionG hF rfl ?_
      refine SmG.v hF rfl rfl rfl (opV_fieldAddr rfl rfl (by simp (disch := omega) only [go_sem, Nat.reduceEqDiff, iteP, u2sL, hli, rowU2, byteD] <;> rfl)) ?_
      refine SmG.v hF rfl rfl rfl (opV_load rfl rfl (by simp (disch := omega) only [go_sem, Nat.reduceEqDiff, iteP, u2sL, hli, rowU2, byteD] <;> rfl)) ?_
      refine SmG.v hF rfl rfl rfl (opV_bin rfl rfl rfl (by first | exact rd_eqlT _ _ _ _ _ (by omega) | exact rd_eqlF _ _ _ _ _ (by omega) | exact rb_eql _ _ _ _ _ _ _)) ?_
      refine SmG.nil ?_
      refine nextS_normal ?_
      refine Sm.condF hF rfl ?_
      refine Sm.skip ?_
      refine nextS_normal ?_
      refine Sm.regionG hF rfl ?_
      refine SmG.v hF rfl rfl rfl (opV_move rfl rfl) ?_
      refine SmG.v hF rfl rfl rfl (opV_load rfl rfl (by simp (disch := omega) only [go_sem, Nat.reduceEqDiff, iteP, u2sL, hli, rowU2, byteD] <;> rfl)) ?_
      refine SmG.v hF rfl rfl rfl (opV_buildSlice rfl rfl (by simp (disch := omega) only [go_sem, Nat.reduceEqDiff, iteP, u2sL, hli, rowU2, byteD] <;> rfl)) ?_
      refine SmG.appendOwn hF elRes rfl rfl rfl rfl rfl rfl rfl (by first | rfl | (simp; done) | (simp; omega)) (Or.inl rfl) (by (repeat' first | exact freeH_nil _ | refine freeH_same ?_ | refine freeH_cons ?_ (free_dB _ _ _) | refine freeH_cons ?_ (free_dB _ _ [_]) | refine freeH_cons ?_ (free_row (by rfl)))) ?_ ?_ ?_; rotate_left; rotate_left; simp only [killV, Pk.v, V.free, rep, bne_self_eq_false, Nat.reduceAdd, Nat.reduceBNe, Nat.reduceBEq, Nat.reduceEqDiff, reduceIte, Bool.false_eq_true]
      rotate_left
      · simp only [List.length_map, List.length_cons, List.length_nil]; omega
      · simp only [List.length_map, List.length_cons, List.length_nil]; omega
      refine SmG.cut 1 (by (repeat' first | exact ltH_nil _ | exact ltR_map _ _ | exact trivial | refine ltH_over ?_ (by decide) | refine ltH_cons ?_ (lt_dB _ _ _) | refine ltH_row ?_ ?_ | refine ⟨rfl, ?_⟩)) ?_; simp only [Pk.v, cutE, cutH, V.lt, Nat.reduceAdd, Nat.reduceLT, decide_true, decide_false, reduceIte, Bool.false_eq_true, Nat.lt_irrefl, Nat.not_lt_zero, Nat.zero_lt_one, Nat.zero_lt_succ, Nat.zero_lt_two, Nat.one_lt_two]
      rw [hrow]
      refine SmG.v hF rfl rfl rfl (opV_assign rfl rfl) ?_
      refine SmG.nil ?_
      refine blockS_normal ?_
      refine nextS_normal ?_
      refine Sm.regionG hF rfl ?_
      refine SmG.v hF rfl rfl rfl (opV_move rfl rfl) ?_
      refine SmG.v hF rfl rfl rfl (opV_bin rfl rfl rfl (by first | exact rd_add _ _ _ _ _ (wrapI64 _ (by omega)) | exact rb_add _ _ _ _ _ _ _)) ?_
      refine SmG.v hF rfl rfl rfl (opV_assign rfl rfl) ?_
      refine SmG.nil ?_
      refine nextS_normal ?_
      rw [he]
      exact ⟨⟨i + 1, by omega, by omega⟩, by show n - (i + 1) < n - i; omega, St.le_of ⟨rfl, rfl, rfl, rfl, trivial⟩ ⟨rfl, trivial⟩ (Nat.le_refl _)⟩
  · have hcs : i = l.length ∨ (i < l.length ∧ i = n) := by omega
    rw [fin (by omega)]
    rcases hcs with h | ⟨h, h'⟩
    all_goals
      refine Sm.seq ?_
      refine Sm.seq ?_
      refine Sm.regionG hF rfl ?_
      refine SmG.v hF rfl rfl rfl (opV_move rfl rfl) ?_
      refine SmG.v hF rfl rfl rfl (opV_move rfl rfl) ?_
      refine SmG.v hF rfl rfl rfl (opV_len rfl rfl (by simp (disch := omega) only [go_sem, Nat.reduceEqDiff, iteP, u2sL] <;> rfl)) ?_
      refine SmG.v hF rfl rfl rfl (opV_bin rfl rfl rfl (by first | exact rd_lssT _ _ _ _ _ (by omega) | exact rd_lssF _ _ _ _ _ (by omega) | exact rb_lss _ _ _ _ _ _ _)) ?_
      refine SmG.v hF rfl rfl rfl (opV_move rfl rfl) ?_
      first | refine SmG.v hF rfl rfl rfl (opV_move rfl rfl) ?_ | refine SmG.pass hF rfl rfl rfl ?_
      first | refine SmG.v hF rfl rfl rfl (opV_move rfl rfl) ?_ | refine SmG.pass hF rfl rfl rfl ?_
      first | refine SmG.v hF rfl rfl rfl (opV_bin rfl rfl rfl (by first | exact rd_lssT _ _ _ _ _ (by omega) | exact rd_lssF _ _ _ _ _ (by omega) | exact rb_lss _ _ _ _ _ _ _)) ?_ | refine SmG.pass hF rfl rfl rfl ?_
      first | refine SmG.v hF rfl rfl rfl (opV_pickT rfl rfl rfl) ?_ | refine SmG.v hF rfl rfl rfl (opV_pickF rfl rfl rfl) ?_
      refine SmG.nil ?_
      refine nextS_normal ?_
      refine Sm.condF hF rfl ?_
      refine Sm.freeze (l := 0) _ rfl ?_
      simp only [Pk.v, frzE, frzV, dropH,  reduceIte, Nat.reduceAdd, Nat.zero_add, List.length_map, List.length_append, Nat.le_refl, true_and, and_self, if_true, Nat.reduceEqDiff, true_and]
      refine Sm.exit ?_
      simp only [nextS, blockS, reduceIte, reduceCtorEq]
      refine Sm.seq ?_
      refine Sm.regionG hF rfl ?_
      refine SmG.v hF rfl rfl rfl (opV_move rfl rfl) ?_
      refine SmG.v hF rfl rfl rfl (opV_assign rfl rfl) ?_
      refine SmG.nil ?_
      refine nextS_normal ?_
      refine Sm.ret ?_
      refine ⟨_, rfl, ?_⟩; dsimp only
      exact D.le.refl _
structure B5 where
  a : UInt8
  b : UInt8
  c : UInt8
  d : UInt8
  e : UInt8
def B5.row (x : B5) : List D := [byteD x.a, byteD x.b, byteD x.c, byteD x.d, byteD x.e]
theorem lawWork_D (x : Wk) (who t : Int) (v : List Res) (a b : Int) (hl : v.length ≤ 1000000) : CallsD Tryd.prog HG 14 [wkD x, partD4 who t a b, ressL v] (saidD (claimW x who t v a b)) := by
  have hW := work_D x who t v a b hl
  have hrt := clm_row_len (claimW_root x who t v a b)
  generalize claimW x who t v a b = c at hW hrt ⊢
  obtain ⟨c, ok⟩ := c
  simp only at hW hrt
  have hset : ∀ x, (c.row ++ [D.v (.bool false)]).set 36 x = c.row ++ [x] := fun x => by
    rw [List.set_append_right _ _ (by omega), hrt]; simp
  refine CallsD.of Tryd.func14 rfl Tryd.ntmps14 (by simp) ?_; intro F hF h0 hT; simp only [List.zipIdx_cons, List.zipIdx_nil, List.map_cons, List.map_nil, Nat.zero_add, Nat.reduceAdd]
  refine Sm.seq ?_
  refine Sm.regionG hF rfl ?_
  refine SmG.new hF rfl rfl rfl (opS_box rfl rfl (by simp (disch := omega) only [go_sem, Nat.reduceEqDiff, iteP, wkD, Wk.row, partD4, clmD, pureRow_map, hrt, hset] <;> rfl)) ?_
  refine SmG.new hF rfl rfl rfl (opS_box rfl rfl (by simp (disch := omega) only [go_sem, Nat.reduceEqDiff, iteP, wkD, Wk.row, partD4, clmD, pureRow_map, hrt, hset] <;> rfl)) ?_
  refine SmG.new hF rfl rfl rfl (opS_alloc rfl al43) ?_
  refine SmG.nil ?_
  refine nextS_normal ?_
  refine Sm.seq ?_
  refine Sm.regionG hF rfl ?_
  refine SmG.v hF rfl rfl rfl (opV_load rfl rfl (by simp (disch := omega) only [go_sem, Nat.reduceEqDiff, iteP, wkD, Wk.row, partD4, clmD, pureRow_map, hrt, hset] <;> rfl)) ?_
  refine SmG.v hF rfl rfl rfl (opV_fieldAddr rfl rfl (by simp (disch := omega) only [go_sem, Nat.reduceEqDiff, iteP, wkD, Wk.row, partD4, clmD, pureRow_map, hrt, hset] <;> rfl)) ?_
  refine SmG.v hF rfl rfl rfl (opV_load rfl rfl (by simp (disch := omega) only [go_sem, Nat.reduceEqDiff, iteP, wkD, Wk.row, partD4, clmD, pureRow_map, hrt, hset] <;> rfl)) ?_
  refine SmG.v hF rfl rfl rfl (opV_fieldAddr rfl rfl (by simp (disch := omega) only [go_sem, Nat.reduceEqDiff, iteP, wkD, Wk.row, partD4, clmD, pureRow_map, hrt, hset] <;> rfl)) ?_
  refine SmG.v hF rfl rfl rfl (opV_load rfl rfl (by simp (disch := omega) only [go_sem, Nat.reduceEqDiff, iteP, wkD, Wk.row, partD4, clmD, pureRow_map, hrt, hset] <;> rfl)) ?_
  refine SmG.v hF rfl rfl rfl (opV_move rfl rfl) ?_
  refine SmG.v hF rfl rfl rfl (opV_fieldAddr rfl rfl (by simp (disch := omega) only [go_sem, Nat.reduceEqDiff, iteP, wkD, Wk.row, partD4, clmD, pureRow_map, hrt, hset] <;> rfl)) ?_
  refine SmG.v hF rfl rfl rfl (opV_load rfl rfl (by simp (disch := omega) only [go_sem, Nat.reduceEqDiff, iteP, wkD, Wk.row, partD4, clmD, pureRow_map, hrt, hset] <;> rfl)) ?_
  refine SmG.v hF rfl rfl rfl (opV_fieldAddr rfl rfl (by simp (disch := omega) only [go_sem, Nat.reduceEqDiff, iteP, wkD, Wk.row, partD4, clmD, pureRow_map, hrt, hset] <;> rfl)) ?_
  refine SmG.v hF rfl rfl rfl (opV_load rfl rfl (by simp (disch := omega) only [go_sem, Nat.reduceEqDiff, iteP, wkD, Wk.row, partD4, clmD, pureRow_map, hrt, hset] <;> rfl)) ?_
  refine SmG.call hF rfl rfl (by kernel_rfl) rfl rfl rfl (hW) ?_
  refine SmG.v hF rfl rfl rfl (opV_move rfl rfl) ?_
  refine SmG.v hF rfl rfl rfl (by first | exact opV_extract rfl rfl rfl | exact opV_extract0 rfl rfl) ?_
  refine SmG.v hF rfl rfl rfl (by first | exact opV_extract rfl rfl rfl | exact opV_extractS rfl rfl rfl) ?_
  refine SmG.new hF rfl rfl rfl (opS_alloc rfl al41) ?_
  refine SmG.store hF rfl rfl rfl rfl rfl (by simp (disch := omega) only [go_sem, Nat.reduceEqDiff, iteP, wkD, Wk.row, partD4, clmD, pureRow_map, hrt, hset] <;> rfl) ?_
  refine SmG.v hF rfl rfl rfl (opV_assign rfl rfl) ?_
  refine SmG.nil ?_
  refine nextS_normal ?_
  refine Sm.seq ?_
  refine Sm.regionG hF rfl ?_
  refine SmG.v hF rfl rfl rfl (opV_load rfl rfl (by simp (disch := omega) only [go_sem, Nat.reduceEqDiff, iteP, wkD, Wk.row, partD4, clmD, pureRow_map, hrt, hset] <;> rfl)) ?_
  refine SmG.v hF rfl rfl rfl (opV_move rfl rfl) ?_
  refine SmG.v hF rfl rfl rfl (opV_buildT rfl Tryd.underlying43 (by kernel_rfl) rfl (buildS_struct (n := 37) ze43 pl43 rfl (by repeat' first | apply fill_oneE rfl rfl (by first | rfl | simp [rowS, wkD, Wk.row, partD4, clmD, pureRow_map, hrt, hset]) | apply fill_aggE rfl rfl rfl (by first | assumption | simp [rowS, wkD, Wk.row, partD4, clmD, pureRow_map, hrt, hset]) | (apply fillE; simp only [List.set_cons_succ, List.set_cons_zero, List.take_succ_cons, List.take_zero, List.drop_succ_cons, List.drop_zero, List.drop_nil, List.cons_append, List.nil_append, List.append_nil, wkD, Wk.row, partD4, clmD, pureRow_map, hrt, hset] <;> rfl)))) ?_
  refine SmG.store hF rfl rfl rfl rfl rfl (by simp (disch := omega) only [go_sem, Nat.reduceEqDiff, iteP, wkD, Wk.row, partD4, clmD, pureRow_map, hrt, hset] <;> rfl) ?_
  refine SmG.nil ?_
  refine nextS_normal ?_
  refine Sm.ret ?_
  refine retQ_cell rfl rfl (by simp (disch := omega) only [go_sem, Nat.reduceEqDiff, iteP, pureRow_map] <;> rfl) ?_
  exact D.le.refl _
end Go.Proofs.YtagfaaijgfigkaaDoor
namespace Go.Proofs.YtagfaaijgfigkaaDoor
open Go.RowKit
set_option maxRecDepth 100000
theorem outs_leL {C : Facts} : ∀ {ds ds' : List D} {vs : List Value}, leL ds ds' → Rp C (.outs ds vs) → Rp C (.outs ds' vs)
  | [], [], _, _, h => h
  | _ :: _, _ :: _, _, hl, h => by cases h with | ocons _ v _ vs h1 h2 => exact .ocons _ _ _ _ (hl.1 C v h1) (outs_leL hl.2 h2)
  | [], _ :: _, _, hl, _ => hl.elim
  | _ :: _, [], _, hl, _ => hl.elim
theorem CallsD.leArgs {P : Program} {G : Nat → Option D} {f : FuncId} {ds ds' : List D} {r : D} (h : CallsD P G f ds' r) (hl : leL ds ds') : CallsD P G f ds r := h.args fun _ _ k => outs_leL hl k
def v7 : List Res := [⟨1, 1⟩, ⟨1, 3⟩, ⟨1, 5⟩, ⟨1, 7⟩, ⟨1, 9⟩, ⟨1, 11⟩, ⟨1, 13⟩]
def late2 : Wk := ⟨3, 0, 2, ⟨0, 0⟩⟩
def hon : Wk := ⟨1, 0, 0, ⟨0, 0⟩⟩
theorem s_one : claimW late2 4 1 v7 1 3 = (noClm, false) := by simp [claimW, saidW, late2, v7]
theorem s_two : claimW late2 4 2 v7 1 3 = (⟨4, 1, 3, partOfL v7 1 3, Sha.root ((partOfL v7 1 3).map resBytes)⟩, true) := by simp [claimW, saidW, late2, v7]
theorem s_cut72 : cutL 7 2 = [(0, 4), (4, 7)] := by decide
theorem s_cut73 : cutL 7 3 = [(0, 3), (3, 5), (5, 7)] := by decide
theorem s_cut25 : cutL 2 5 = [(0, 1), (1, 2)] := by decide
theorem s_cut03 : cutL 0 3 = [] := by decide
theorem s_cut30 : cutL 3 0 = [] := by decide
theorem s_cutBig : cutL 4001 2 = [] := by decide
theorem s_round : ∃ R0 R1 R2, roundW [hon, hon, hon] v7 2 0 = [⟨0, 0, 4, partOfL v7 0 4, R0⟩, ⟨1, 4, 7, partOfL v7 4 7, R1⟩, ⟨2, 0, 4, partOfL v7 0 4, R2⟩] := by
  refine ⟨Sha.root ((partOfL v7 0 4).map resBytes), Sha.root ((partOfL v7 4 7).map resBytes), Sha.root ((partOfL v7 0 4).map resBytes), ?_⟩
  unfold roundW
  rw [show ((v7.length : Nat) : Int) = 7 from rfl, s_cut72]
  rfl
def vAt (i : Nat) : List Res := v7.take i ++ List.replicate (7 - i) ⟨0, 0⟩
theorem vAt_set (i : Nat) (h : i < 7) : (List.map (fun r => List.map V.d r) ((vAt i).map Res.row)).set i [V.d (.v (.int .i64 1)), V.d (.v (.int .i64 (1 + 2 * (i : Int))))] = List.map (fun r => List.map V.d r) ((vAt (i + 1)).map Res.row) := by
  match i, h with
  | 0, _ => rfl
  | 1, _ => rfl
  | 2, _ => rfl
  | 3, _ => rfl
  | 4, _ => rfl
  | 5, _ => rfl
  | 6, _ => rfl
theorem vAt_get (i : Nat) (h : i < 7) : ((vAt i).map Res.row)[i]? = some [.v (.int .i64 0), .v (.int .i64 0)] := by
  match i, h with
  | 0, _ => rfl
  | 1, _ => rfl
  | 2, _ => rfl
  | 3, _ => rfl
  | 4, _ => rfl
  | 5, _ => rfl
  | 6, _ => rfl
set_option maxHeartbeats 4000000 in
theorem sanity_D : CallsD Tryd.prog HG 10 [] (.v (.bool true)) := by
  have hw1 := lawWork_D late2 4 1 v7 1 3 (by decide)
  rw [s_one] at hw1
  have hw2 := lawWork_D late2 4 2 v7 1 3 (by decide)
  rw [s_two] at hw2
  have hRl := Sha.root_len ((partOfL v7 1 3).map resBytes)
  obtain ⟨R0, R1, R2, hr⟩ := s_round
  have hrd := (round_D [hon, hon, hon] v7 2 0 (by decide) (by decide)).leArgs (ds := [.list 5 [hon.row, hon.row, hon.row] true, ressL v7, .v (.int .i64 2), .v (.int .i64 0)]) ⟨D.le_full _ _ _, D.le.refl _, D.le.refl _, D.le.refl _, trivial⟩
  rw [hr] at hrd
  clear hr
  obtain ⟨CL, hCL⟩ : ∃ CL, CL = [Clm.mk 0 0 4 (partOfL v7 0 4) R0, ⟨1, 4, 7, partOfL v7 4 7, R1⟩, ⟨2, 0, 4, partOfL v7 0 4, R2⟩] := ⟨_, rfl⟩
  rw [← hCL] at hrd
  have hCn : CL.length = 3 := by rw [hCL]; rfl
  obtain ⟨r0, hC0, hr02⟩ : ∃ r0 : Clm, CL[0]? = some r0 ∧ r0.hi = 4 := ⟨_, by rw [hCL]; rfl, rfl⟩
  obtain ⟨r1, hC1, hr11⟩ : ∃ r0 : Clm, CL[1]? = some r0 ∧ r0.lo = 4 := ⟨_, by rw [hCL]; rfl, rfl⟩
  obtain ⟨r2, hC2, hr22, hr20⟩ : ∃ r0 : Clm, CL[2]? = some r0 ∧ r0.hi = 4 ∧ r0.who = 2 := ⟨_, by rw [hCL]; rfl, rfl, rfl⟩
  clear hCL
  have hby := workBytes_D ⟨1, 258⟩ HG
  have hc1 := cut17_D 7 3 HG
  have hc2 := cut17_D 2 5 HG
  have hc3 := cut17_D 0 3 HG
  have hc4 := cut17_D 3 0 HG
  have hc5 := cut17_D 4001 2 HG
  rw [s_cut73] at hc1
  rw [s_cut25] at hc2
  rw [s_cut03] at hc3
  rw [s_cut30] at hc4
  rw [s_cutBig] at hc5
  have hp1 := (sameParts_D [(0, 3), (3, 5), (5, 7)] [(0, 3), (3, 5), (5, 7)] (by decide) HG rfl).leArgs (ds := [partsD [(0, 3), (3, 5), (5, 7)], .list 2 ([(0, 3), (3, 5), (5, 7)].map rowP) true]) ⟨D.le.refl _, D.le_full _ _ _, trivial⟩
  have hp2 := (sameParts_D [(0, 1), (1, 2)] [(0, 1), (1, 2)] (by decide) HG rfl).leArgs (ds := [partsD [(0, 1), (1, 2)], .list 2 ([(0, 1), (1, 2)].map rowP) true]) ⟨D.le.refl _, D.le_full _ _ _, trivial⟩
  simp only [decide_true] at hp1 hp2
  have hsd : CallsD Tryd.prog HG 26 [clmD ⟨4, 1, 3, partOfL v7 1 3, Sha.root ((partOfL v7 1 3).map resBytes)⟩] (.v (.bool true)) := by
    have := sound_D ⟨4, 1, 3, partOfL v7 1 3, Sha.root ((partOfL v7 1 3).map resBytes)⟩ hRl (by decide) (by decide)
    rwa [show soundC ⟨4, 1, 3, partOfL v7 1 3, Sha.root ((partOfL v7 1 3).map resBytes)⟩ = true by simp [soundC]; decide] at this
  have hsn := (sound_D ⟨0, 1, 2, [], List.replicate 32 0⟩ rfl (by decide) (by decide)).leArgs (ds := [.agg 36 (.v (.int .i64 0) :: .v (.int .i64 1) :: .v (.int .i64 2) :: .list 0 [] true :: rowS (List.replicate 32 0))]) ⟨D.le_agg ⟨D.le.refl _, D.le.refl _, D.le.refl _, D.le_nil' 0 2 true, leL.refl _⟩, trivial⟩
  rw [show soundC ⟨0, 1, 2, [], List.replicate 32 0⟩ = false from decide_eq_false (by decide)] at hsn
  have hsr := (sameResults_D (partOfL v7 1 3) (partOfL v7 1 3) (by decide) HG rfl)
  simp only [decide_true] at hsr
  generalize Sha.root ((partOfL v7 1 3).map resBytes) = R at hw2 hRl hsd
  have hA36 : (noClm.row ++ [D.v (.bool false)])[36]? = some (D.v (.bool false)) := rfl
  unfold saidD at hw1 hw2
  simp only at hw1 hw2
  generalize noClm.row ++ [D.v (.bool false)] = RA at hw1 hA36
  have hRr : (Clm.mk 4 1 3 (partOfL v7 1 3) R).row.length = 36 := clm_row_len hRl
  have hB0 : ((Clm.mk 4 1 3 (partOfL v7 1 3) R).row ++ [D.v (.bool true)])[0]? = some (D.v (.int .i64 4)) := rfl
  have hB1 : ((Clm.mk 4 1 3 (partOfL v7 1 3) R).row ++ [D.v (.bool true)])[1]? = some (D.v (.int .i64 1)) := rfl
  have hB2 : ((Clm.mk 4 1 3 (partOfL v7 1 3) R).row ++ [D.v (.bool true)])[2]? = some (D.v (.int .i64 3)) := rfl
  have hB3 : ((Clm.mk 4 1 3 (partOfL v7 1 3) R).row ++ [D.v (.bool true)])[3]? = some (ressL (partOfL v7 1 3)) := rfl
  have hB36 : ((Clm.mk 4 1 3 (partOfL v7 1 3) R).row ++ [D.v (.bool true)])[36]? = some (D.v (.bool true)) := by rw [List.getElem?_append_right (by omega), hRr]; rfl
  have hBt : List.take 36 (List.map V.d ((Clm.mk 4 1 3 (partOfL v7 1 3) R).row ++ [D.v (.bool true)])) = List.map V.d (Clm.mk 4 1 3 (partOfL v7 1 3) R).row := by
    rw [← List.map_take, List.take_append_of_le_length (by omega), List.take_of_length_le (by omega)]
  generalize (Clm.mk 4 1 3 (partOfL v7 1 3) R).row ++ [D.v (.bool true)] = RB at hw2 hB0 hB1 hB2 hB3 hB36 hBt
  refine CallsD.of Tryd.func10 rfl Tryd.ntmps10 (by simp) ?_; intro F hF h0 hT; simp only [List.zipIdx_cons, List.zipIdx_nil, List.map_cons, List.map_nil, Nat.zero_add, Nat.reduceAdd]
  refine Sm.seq ?_
  refine Sm.regionG hF rfl ?_
  refine SmG.v hF rfl rfl rfl (opV_assign rfl rfl) ?_
  refine SmG.nil ?_
  refine nextS_normal ?_
  refine Sm.seq ?_
  refine Sm.regionG hF rfl ?_
  refine SmG.makeOwn hF elRes (by decide) 7 rfl rfl rfl rfl rfl rfl (by omega) (by omega) ?_
  refine SmG.v hF rfl rfl rfl (opV_assign rfl rfl) ?_
  refine SmG.nil ?_
  refine nextS_normal ?_
  refine Sm.seq ?_
  refine Sm.seq ?_
  refine Sm.regionG hF rfl ?_
  refine SmG.v hF rfl rfl rfl (opV_assign rfl rfl) ?_
  refine SmG.nil ?_
  refine nextS_normal ?_
  refine Sm.block ?_
  refine Sm.loop (ι := {i : Nat // i ≤ 7}) (fun i => ⟨[(1, .sref 0 0 7), (2, .d (.v (.int .i64 i.1)))], [(0, dB 2 ((vAt i.1).map Res.row))], 1⟩) (fun i => 7 - i.1) (⟨0, by omega⟩) ?_ ?_
  · exact St.le_of ⟨rfl, rfl, trivial⟩ ⟨rfl, trivial⟩ (Nat.le_refl _)
  rintro ⟨i, hi⟩
  simp only
  by_cases hlt : i < 7
  · have hget := vAt_get i hlt
    have hset := vAt_set i hlt
    have he : (i : Int) + 1 = ((i + 1 : Nat) : Int) := by omega
    refine Sm.seq ?_
    refine Sm.seq ?_
    refine Sm.regionG hF rfl ?_
    refine SmG.v hF rfl rfl rfl (opV_move rfl rfl) ?_
    refine SmG.v hF rfl rfl rfl (opV_bin rfl rfl rfl (by first | exact rd_lssT _ _ _ _ _ (by omega) | exact rd_lssF _ _ _ _ _ (by omega) | exact rb_lss _ _ _ _ _ _ _)) ?_
    refine SmG.nil ?_
    refine nextS_normal ?_
    refine Sm.condT hF rfl ?_
    refine Sm.skip ?_
    refine nextS_normal ?_
    refine Sm.seq ?_
    refine Sm.block ?_
    refine Sm.regionG hF rfl ?_
    refine SmG.v hF rfl rfl rfl (opV_move rfl rfl) ?_
    refine SmG.v hF rfl rfl rfl (opV_move rfl rfl) ?_
    refine SmG.v hF rfl rfl rfl (opV_move rfl rfl) ?_
    refine SmG.v hF rfl rfl rfl (opV_bin rfl rfl rfl (by first | exact rd_mul _ _ _ _ _ (wrapI64 _ (by omega)) | exact rb_mul _ _ _ _ _ _ _)) ?_
    refine SmG.v hF rfl rfl rfl (opV_bin rfl rfl rfl (by first | exact rd_add _ _ _ _ _ (wrapI64 _ (by omega)) | exact rb_add _ _ _ _ _ _ _)) ?_
    refine SmG.v hF rfl rfl rfl (opV_buildT rfl Tryd.underlying34 (by kernel_rfl) rfl (by simp (disch := omega) only [go_sem, Nat.reduceEqDiff, iteP, hget, hset, dB] <;> rfl)) ?_
    refine SmG.v hF rfl rfl rfl (opV_indexAddr rfl rfl rfl (by simp (disch := omega) only [go_sem, Nat.reduceEqDiff, iteP, hget, hset, dB] <;> rfl)) ?_
    refine SmG.store hF rfl rfl rfl rfl rfl (by simp (disch := omega) only [go_sem, Nat.reduceEqDiff, iteP, hget, hset, dB] <;> rfl) ?_
    refine SmG.nil ?_
    refine blockS_normal ?_
    refine nextS_normal ?_
    refine Sm.regionG hF rfl ?_
    refine SmG.v hF rfl rfl rfl (opV_move rfl rfl) ?_
    refine SmG.v hF rfl rfl rfl (opV_bin rfl rfl rfl (by first | exact rd_add _ _ _ _ _ (wrapI64 _ (by omega)) | exact rb_add _ _ _ _ _ _ _)) ?_
    refine SmG.v hF rfl rfl rfl (opV_assign rfl rfl) ?_
    refine SmG.nil ?_
    refine nextS_normal ?_
    rw [he]
    exact ⟨⟨i + 1, by omega⟩, by show 7 - (i + 1) < 7 - i; omega, St.le_of ⟨rfl, rfl, trivial⟩ ⟨rfl, trivial⟩ (Nat.le_refl _)⟩
  · obtain rfl : i = 7 := by omega
    refine Sm.seq ?_
    refine Sm.seq ?_
    refine Sm.regionG hF rfl ?_
    refine SmG.v hF rfl rfl rfl (opV_move rfl rfl) ?_
    refine SmG.v hF rfl rfl rfl (opV_bin rfl rfl rfl (by first | exact rd_lssT _ _ _ _ _ (by omega) | exact rd_lssF _ _ _ _ _ (by omega) | exact rb_lss _ _ _ _ _ _ _)) ?_
    refine SmG.nil ?_
    refine nextS_normal ?_
    refine Sm.condF hF rfl ?_
    refine Sm.freeze (l := 0) (v7.map Res.row) rfl ?_
    simp only [Pk.v, frzE, frzV, dropH,  reduceIte, Nat.reduceAdd, Nat.zero_add, List.length_map, List.length_append, Nat.le_refl, true_and, and_self, if_true, Nat.reduceEqDiff, true_and]
    refine Sm.exit ?_
    simp only [nextS, blockS, reduceIte, reduceCtorEq]
    refine Sm.seq ?_
    refine Sm.regionG hF rfl ?_
    refine SmG.v hF rfl rfl rfl (opV_buildT rfl Tryd.underlying36 (by kernel_rfl) rfl (buildS_struct (n := 5) ze36 pl36 rfl (by repeat' first | apply fill_oneE rfl rfl (by first | rfl | simp [rowS, v7, hon, late2, Wk.row, Res.row, ressL, hA36, hB0, hB1, hB2, hB3, hB36, hBt, pureRow_map, clmsL, hCn, hC0, hC1, hC2, Int.reduceToNat]) | apply fill_aggE rfl rfl rfl (by first | assumption | simp [rowS, v7, hon, late2, Wk.row, Res.row, ressL, hA36, hB0, hB1, hB2, hB3, hB36, hBt, pureRow_map, clmsL, hCn, hC0, hC1, hC2, Int.reduceToNat]) | (apply fillE; simp only [List.set_cons_succ, List.set_cons_zero, List.take_succ_cons, List.take_zero, List.drop_succ_cons, List.drop_zero, List.drop_nil, List.cons_append, List.nil_append, List.append_nil, v7, hon, late2, Wk.row, Res.row, ressL, hA36, hB0, hB1, hB2, hB3, hB36, hBt, pureRow_map, clmsL, hCn, hC0, hC1, hC2, Int.reduceToNat] <;> rfl)))) ?_
    refine SmG.new hF rfl rfl rfl (opS_alloc rfl al36) ?_
    refine SmG.store hF rfl rfl rfl rfl rfl (by simp (disch := omega) only [go_sem, Nat.reduceEqDiff, iteP, v7, hon, late2, Wk.row, Res.row, ressL, hA36, hB0, hB1, hB2, hB3, hB36, hBt, pureRow_map, clmsL, hCn, hC0, hC1, hC2, Int.reduceToNat] <;> rfl) ?_
    refine SmG.nil ?_
    refine nextS_normal ?_
    refine Sm.seq ?_
    refine Sm.regionG hF rfl ?_
    refine SmG.v hF rfl rfl rfl (opV_load rfl rfl (by simp (disch := omega) only [go_sem, Nat.reduceEqDiff, iteP, v7, hon, late2, Wk.row, Res.row, ressL, hA36, hB0, hB1, hB2, hB3, hB36, hBt, pureRow_map, clmsL, hCn, hC0, hC1, hC2, Int.reduceToNat] <;> rfl)) ?_
    refine SmG.v hF rfl rfl rfl (opV_buildT rfl Tryd.underlying32 (by kernel_rfl) rfl (buildS_struct (n := 4) ze32 pl32 rfl (by repeat' first | apply fill_oneE rfl rfl (by first | rfl | simp [rowS, v7, hon, late2, Wk.row, Res.row, ressL, hA36, hB0, hB1, hB2, hB3, hB36, hBt, pureRow_map, clmsL, hCn, hC0, hC1, hC2, Int.reduceToNat]) | apply fill_aggE rfl rfl rfl (by first | assumption | simp [rowS, v7, hon, late2, Wk.row, Res.row, ressL, hA36, hB0, hB1, hB2, hB3, hB36, hBt, pureRow_map, clmsL, hCn, hC0, hC1, hC2, Int.reduceToNat]) | (apply fillE; simp only [List.set_cons_succ, List.set_cons_zero, List.take_succ_cons, List.take_zero, List.drop_succ_cons, List.drop_zero, List.drop_nil, List.cons_append, List.nil_append, List.append_nil, v7, hon, late2, Wk.row, Res.row, ressL, hA36, hB0, hB1, hB2, hB3, hB36, hBt, pureRow_map, clmsL, hCn, hC0, hC1, hC2, Int.reduceToNat] <;> rfl)))) ?_
    refine SmG.v hF rfl rfl rfl (opV_move rfl rfl) ?_
    refine SmG.call hF rfl rfl (by kernel_rfl) rfl rfl rfl (hw1) ?_
    refine SmG.new hF rfl rfl rfl (opS_alloc rfl al43) ?_
    refine SmG.store hF rfl rfl rfl rfl rfl (by simp (disch := omega) only [go_sem, Nat.reduceEqDiff, iteP, v7, hon, late2, Wk.row, Res.row, ressL, hA36, hB0, hB1, hB2, hB3, hB36, hBt, pureRow_map, clmsL, hCn, hC0, hC1, hC2, Int.reduceToNat] <;> rfl) ?_
    refine SmG.nil ?_
    refine nextS_normal ?_
    refine Sm.seq ?_
    refine Sm.regionG hF rfl ?_
    refine SmG.v hF rfl rfl rfl (opV_load rfl rfl (by simp (disch := omega) only [go_sem, Nat.reduceEqDiff, iteP, v7, hon, late2, Wk.row, Res.row, ressL, hA36, hB0, hB1, hB2, hB3, hB36, hBt, pureRow_map, clmsL, hCn, hC0, hC1, hC2, Int.reduceToNat] <;> rfl)) ?_
    refine SmG.v hF rfl rfl rfl (opV_buildT rfl Tryd.underlying32 (by kernel_rfl) rfl (buildS_struct (n := 4) ze32 pl32 rfl (by repeat' first | apply fill_oneE rfl rfl (by first | rfl | simp [rowS, v7, hon, late2, Wk.row, Res.row, ressL, hA36, hB0, hB1, hB2, hB3, hB36, hBt, pureRow_map, clmsL, hCn, hC0, hC1, hC2, Int.reduceToNat]) | apply fill_aggE rfl rfl rfl (by first | assumption | simp [rowS, v7, hon, late2, Wk.row, Res.row, ressL, hA36, hB0, hB1, hB2, hB3, hB36, hBt, pureRow_map, clmsL, hCn, hC0, hC1, hC2, Int.reduceToNat]) | (apply fillE; simp only [List.set_cons_succ, List.set_cons_zero, List.take_succ_cons, List.take_zero, List.drop_succ_cons, List.drop_zero, List.drop_nil, List.cons_append, List.nil_append, List.append_nil, v7, hon, late2, Wk.row, Res.row, ressL, hA36, hB0, hB1, hB2, hB3, hB36, hBt, pureRow_map, clmsL, hCn, hC0, hC1, hC2, Int.reduceToNat] <;> rfl)))) ?_
    refine SmG.v hF rfl rfl rfl (opV_move rfl rfl) ?_
    refine SmG.call hF rfl rfl (by kernel_rfl) rfl rfl rfl (hw2) ?_
    refine SmG.new hF rfl rfl rfl (opS_alloc rfl al43) ?_
    refine SmG.store hF rfl rfl rfl rfl rfl (by simp (disch := omega) only [go_sem, Nat.reduceEqDiff, iteP, v7, hon, late2, Wk.row, Res.row, ressL, hA36, hB0, hB1, hB2, hB3, hB36, hBt, pureRow_map, clmsL, hCn, hC0, hC1, hC2, Int.reduceToNat] <;> rfl) ?_
    refine SmG.nil ?_
    refine nextS_normal ?_
    refine Sm.seq ?_
    refine Sm.regionG hF rfl ?_
    refine SmG.v hF rfl rfl rfl (opV_buildT rfl Tryd.underlying36 (by kernel_rfl) rfl (buildS_struct (n := 5) ze36 pl36 rfl (by repeat' first | apply fill_oneE rfl rfl (by first | rfl | simp [rowS, v7, hon, late2, Wk.row, Res.row, ressL, hA36, hB0, hB1, hB2, hB3, hB36, hBt, pureRow_map, clmsL, hCn, hC0, hC1, hC2, Int.reduceToNat]) | apply fill_aggE rfl rfl rfl (by first | assumption | simp [rowS, v7, hon, late2, Wk.row, Res.row, ressL, hA36, hB0, hB1, hB2, hB3, hB36, hBt, pureRow_map, clmsL, hCn, hC0, hC1, hC2, Int.reduceToNat]) | (apply fillE; simp only [List.set_cons_succ, List.set_cons_zero, List.take_succ_cons, List.take_zero, List.drop_succ_cons, List.drop_zero, List.drop_nil, List.cons_append, List.nil_append, List.append_nil, v7, hon, late2, Wk.row, Res.row, ressL, hA36, hB0, hB1, hB2, hB3, hB36, hBt, pureRow_map, clmsL, hCn, hC0, hC1, hC2, Int.reduceToNat] <;> rfl)))) ?_
    refine SmG.new hF rfl rfl rfl (opS_alloc rfl al36) ?_
    refine SmG.store hF rfl rfl rfl rfl rfl (by simp (disch := omega) only [go_sem, Nat.reduceEqDiff, iteP, v7, hon, late2, Wk.row, Res.row, ressL, hA36, hB0, hB1, hB2, hB3, hB36, hBt, pureRow_map, clmsL, hCn, hC0, hC1, hC2, Int.reduceToNat] <;> rfl) ?_
    refine SmG.nil ?_
    refine nextS_normal ?_
    refine Sm.seq ?_
    refine Sm.regionG hF rfl ?_
    refine SmG.v hF rfl rfl rfl (opV_load rfl rfl (by simp (disch := omega) only [go_sem, Nat.reduceEqDiff, iteP, v7, hon, late2, Wk.row, Res.row, ressL, hA36, hB0, hB1, hB2, hB3, hB36, hBt, pureRow_map, clmsL, hCn, hC0, hC1, hC2, Int.reduceToNat] <;> rfl)) ?_
    refine SmG.v hF rfl rfl rfl (opV_load rfl rfl (by simp (disch := omega) only [go_sem, Nat.reduceEqDiff, iteP, v7, hon, late2, Wk.row, Res.row, ressL, hA36, hB0, hB1, hB2, hB3, hB36, hBt, pureRow_map, clmsL, hCn, hC0, hC1, hC2, Int.reduceToNat] <;> rfl)) ?_
    refine SmG.v hF rfl rfl rfl (opV_load rfl rfl (by simp (disch := omega) only [go_sem, Nat.reduceEqDiff, iteP, v7, hon, late2, Wk.row, Res.row, ressL, hA36, hB0, hB1, hB2, hB3, hB36, hBt, pureRow_map, clmsL, hCn, hC0, hC1, hC2, Int.reduceToNat] <;> rfl)) ?_
    refine SmG.v hF rfl rfl rfl (opV_buildSlice rfl rfl (by simp (disch := omega) only [go_sem, Nat.reduceEqDiff, iteP, v7, hon, late2, Wk.row, Res.row, ressL, hA36, hB0, hB1, hB2, hB3, hB36, hBt, pureRow_map, clmsL, hCn, hC0, hC1, hC2, Int.reduceToNat] <;> rfl)) ?_
    refine SmG.v hF rfl rfl rfl (opV_move rfl rfl) ?_
    refine SmG.call hF rfl rfl (by kernel_rfl) rfl rfl rfl (hrd) ?_
    refine SmG.v hF rfl rfl rfl (opV_assign rfl rfl) ?_
    refine SmG.nil ?_
    refine nextS_normal ?_
    refine Sm.seq ?_
    refine Sm.regionG hF rfl ?_
    refine SmG.v hF rfl rfl rfl (opV_buildT rfl Tryd.underlying34 (by kernel_rfl) rfl (by simp (disch := omega) only [go_sem, Nat.reduceEqDiff, iteP, v7, hon, late2, Wk.row, Res.row, ressL, hA36, hB0, hB1, hB2, hB3, hB36, hBt, pureRow_map, clmsL, hCn, hC0, hC1, hC2, Int.reduceToNat] <;> rfl)) ?_
    refine SmG.call hF rfl rfl (by kernel_rfl) rfl rfl rfl (hby) ?_
    refine SmG.v hF rfl rfl rfl (opV_conv rfl rfl (by simp (disch := omega) only [go_sem, Nat.reduceEqDiff, iteP, v7, hon, late2, Wk.row, Res.row, ressL, hA36, hB0, hB1, hB2, hB3, hB36, hBt, pureRow_map, clmsL, hCn, hC0, hC1, hC2, Int.reduceToNat] <;> rfl)) ?_
    refine SmG.v hF rfl rfl rfl (opV_bin rfl rfl rfl ((rb_seql _ _ _ _ _ _).trans (congrArg (fun b => some (Value.bool b)) (by decide +kernel : _ = true)))) ?_
    refine SmG.v hF rfl rfl rfl (opV_assign rfl rfl) ?_
    refine SmG.nil ?_
    refine nextS_normal ?_
    refine Sm.seq ?_
    refine Sm.regionG hF rfl ?_
    refine SmG.call hF rfl rfl (by kernel_rfl) rfl rfl rfl (hc1) ?_
    refine SmG.v hF rfl rfl rfl (opV_buildA rfl Tryd.underlying56 rfl (by simp (disch := omega) only [go_sem, Nat.reduceEqDiff, iteP, v7, hon, late2, Wk.row, Res.row, ressL, hA36, hB0, hB1, hB2, hB3, hB36, hBt, pureRow_map, clmsL, hCn, hC0, hC1, hC2, Int.reduceToNat] <;> rfl)) ?_
    refine SmG.v hF rfl rfl rfl (opV_buildA rfl Tryd.underlying56 rfl (by simp (disch := omega) only [go_sem, Nat.reduceEqDiff, iteP, v7, hon, late2, Wk.row, Res.row, ressL, hA36, hB0, hB1, hB2, hB3, hB36, hBt, pureRow_map, clmsL, hCn, hC0, hC1, hC2, Int.reduceToNat] <;> rfl)) ?_
    refine SmG.v hF rfl rfl rfl (opV_buildA rfl Tryd.underlying56 rfl (by simp (disch := omega) only [go_sem, Nat.reduceEqDiff, iteP, v7, hon, late2, Wk.row, Res.row, ressL, hA36, hB0, hB1, hB2, hB3, hB36, hBt, pureRow_map, clmsL, hCn, hC0, hC1, hC2, Int.reduceToNat] <;> rfl)) ?_
    refine SmG.v hF rfl rfl rfl (opV_buildSlice rfl rfl (by simp (disch := omega) only [go_sem, Nat.reduceEqDiff, iteP, v7, hon, late2, Wk.row, Res.row, ressL, hA36, hB0, hB1, hB2, hB3, hB36, hBt, pureRow_map, clmsL, hCn, hC0, hC1, hC2, Int.reduceToNat] <;> rfl)) ?_
    refine SmG.call hF rfl rfl (by kernel_rfl) rfl rfl rfl (hp1) ?_
    refine SmG.v hF rfl rfl rfl (opV_move rfl rfl) ?_
    first | refine SmG.call hF rfl rfl (by kernel_rfl) rfl rfl rfl (hc2) ?_ | refine SmG.pass hF rfl rfl rfl ?_
    first | refine SmG.v hF rfl rfl rfl (opV_buildA rfl Tryd.underlying56 rfl (by simp (disch := omega) only [go_sem, Nat.reduceEqDiff, iteP, v7, hon, late2, Wk.row, Res.row, ressL, hA36, hB0, hB1, hB2, hB3, hB36, hBt, pureRow_map, clmsL, hCn, hC0, hC1, hC2, Int.reduceToNat] <;> rfl)) ?_ | refine SmG.pass hF rfl rfl rfl ?_
    first | refine SmG.v hF rfl rfl rfl (opV_buildA rfl Tryd.underlying56 rfl (by simp (disch := omega) only [go_sem, Nat.reduceEqDiff, iteP, v7, hon, late2, Wk.row, Res.row, ressL, hA36, hB0, hB1, hB2, hB3, hB36, hBt, pureRow_map, clmsL, hCn, hC0, hC1, hC2, Int.reduceToNat] <;> rfl)) ?_ | refine SmG.pass hF rfl rfl rfl ?_
    first | refine SmG.v hF rfl rfl rfl (opV_buildSlice rfl rfl (by simp (disch := omega) only [go_sem, Nat.reduceEqDiff, iteP, v7, hon, late2, Wk.row, Res.row, ressL, hA36, hB0, hB1, hB2, hB3, hB36, hBt, pureRow_map, clmsL, hCn, hC0, hC1, hC2, Int.reduceToNat] <;> rfl)) ?_ | refine SmG.pass hF rfl rfl rfl ?_
    first | refine SmG.call hF rfl rfl (by kernel_rfl) rfl rfl rfl (hp2) ?_ | refine SmG.pass hF rfl rfl rfl ?_
    first | refine SmG.v hF rfl rfl rfl (opV_pickT rfl rfl rfl) ?_ | refine SmG.v hF rfl rfl rfl (opV_pickF rfl rfl rfl) ?_
    refine SmG.v hF rfl rfl rfl (opV_move rfl rfl) ?_
    first | refine SmG.call hF rfl rfl (by kernel_rfl) rfl rfl rfl (hc3) ?_ | refine SmG.pass hF rfl rfl rfl ?_
    first | refine SmG.v hF rfl rfl rfl (opV_len rfl rfl (by simp (disch := omega) only [go_sem, Nat.reduceEqDiff, iteP, v7, hon, late2, Wk.row, Res.row, ressL, hA36, hB0, hB1, hB2, hB3, hB36, hBt, pureRow_map, clmsL, hCn, hC0, hC1, hC2, Int.reduceToNat] <;> rfl)) ?_ | refine SmG.pass hF rfl rfl rfl ?_
    first | refine SmG.v hF rfl rfl rfl (opV_bin rfl rfl rfl (by first | exact rd_eqlT _ _ _ _ _ (by omega) | exact rd_eqlF _ _ _ _ _ (by omega) | exact rb_eql _ _ _ _ _ _ _)) ?_ | refine SmG.pass hF rfl rfl rfl ?_
    first | refine SmG.v hF rfl rfl rfl (opV_pickT rfl rfl rfl) ?_ | refine SmG.v hF rfl rfl rfl (opV_pickF rfl rfl rfl) ?_
    refine SmG.v hF rfl rfl rfl (opV_move rfl rfl) ?_
    first | refine SmG.call hF rfl rfl (by kernel_rfl) rfl rfl rfl (hc4) ?_ | refine SmG.pass hF rfl rfl rfl ?_
    first | refine SmG.v hF rfl rfl rfl (opV_len rfl rfl (by simp (disch := omega) only [go_sem, Nat.reduceEqDiff, iteP, v7, hon, late2, Wk.row, Res.row, ressL, hA36, hB0, hB1, hB2, hB3, hB36, hBt, pureRow_map, clmsL, hCn, hC0, hC1, hC2, Int.reduceToNat] <;> rfl)) ?_ | refine SmG.pass hF rfl rfl rfl ?_
    first | refine SmG.v hF rfl rfl rfl (opV_bin rfl rfl rfl (by first | exact rd_eqlT _ _ _ _ _ (by omega) | exact rd_eqlF _ _ _ _ _ (by omega) | exact rb_eql _ _ _ _ _ _ _)) ?_ | refine SmG.pass hF rfl rfl rfl ?_
    first | refine SmG.v hF rfl rfl rfl (opV_pickT rfl rfl rfl) ?_ | refine SmG.v hF rfl rfl rfl (opV_pickF rfl rfl rfl) ?_
    refine SmG.v hF rfl rfl rfl (opV_move rfl rfl) ?_
    first | refine SmG.call hF rfl rfl (by kernel_rfl) rfl rfl rfl (hc5) ?_ | refine SmG.pass hF rfl rfl rfl ?_
    first | refine SmG.v hF rfl rfl rfl (opV_len rfl rfl (by simp (disch := omega) only [go_sem, Nat.reduceEqDiff, iteP, v7, hon, late2, Wk.row, Res.row, ressL, hA36, hB0, hB1, hB2, hB3, hB36, hBt, pureRow_map, clmsL, hCn, hC0, hC1, hC2, Int.reduceToNat] <;> rfl)) ?_ | refine SmG.pass hF rfl rfl rfl ?_
    first | refine SmG.v hF rfl rfl rfl (opV_bin rfl rfl rfl (by first | exact rd_eqlT _ _ _ _ _ (by omega) | exact rd_eqlF _ _ _ _ _ (by omega) | exact rb_eql _ _ _ _ _ _ _)) ?_ | refine SmG.pass hF rfl rfl rfl ?_
    first | refine SmG.v hF rfl rfl rfl (opV_pickT rfl rfl rfl) ?_ | refine SmG.v hF rfl rfl rfl (opV_pickF rfl rfl rfl) ?_
    refine SmG.v hF rfl rfl rfl (opV_assign rfl rfl) ?_
    refine SmG.nil ?_
    refine nextS_normal ?_
    refine Sm.seq ?_
    refine Sm.seq ?_
    refine Sm.regionG hF rfl ?_
    refine SmG.v hF rfl rfl rfl (opV_move rfl rfl) ?_
    refine SmG.v hF rfl rfl rfl (opV_un rfl rfl (by first | exact rd_notT _ | exact rd_notF _ | exact rd_not _)) ?_
    refine SmG.v hF rfl rfl rfl (opV_move rfl rfl) ?_
    first | refine SmG.v hF rfl rfl rfl (opV_move rfl rfl) ?_ | refine SmG.pass hF rfl rfl rfl ?_
    first | refine SmG.v hF rfl rfl rfl (opV_un rfl rfl (by first | exact rd_notT _ | exact rd_notF _ | exact rd_not _)) ?_ | refine SmG.pass hF rfl rfl rfl ?_
    first | refine SmG.v hF rfl rfl rfl (opV_pickT rfl rfl rfl) ?_ | refine SmG.v hF rfl rfl rfl (opV_pickF rfl rfl rfl) ?_
    refine SmG.v hF rfl rfl rfl (opV_move rfl rfl) ?_
    first | refine SmG.v hF rfl rfl rfl (opV_fieldAddr rfl rfl (by simp (disch := omega) only [go_sem, Nat.reduceEqDiff, iteP, v7, hon, late2, Wk.row, Res.row, ressL, hA36, hB0, hB1, hB2, hB3, hB36, hBt, pureRow_map, clmsL, hCn, hC0, hC1, hC2, Int.reduceToNat] <;> rfl)) ?_ | refine SmG.pass hF rfl rfl rfl ?_
    first | refine SmG.v hF rfl rfl rfl (opV_load rfl rfl (by simp (disch := omega) only [go_sem, Nat.reduceEqDiff, iteP, v7, hon, late2, Wk.row, Res.row, ressL, hA36, hB0, hB1, hB2, hB3, hB36, hBt, pureRow_map, clmsL, hCn, hC0, hC1, hC2, Int.reduceToNat] <;> rfl)) ?_ | refine SmG.pass hF rfl rfl rfl ?_
    first | refine SmG.v hF rfl rfl rfl (opV_pickT rfl rfl rfl) ?_ | refine SmG.v hF rfl rfl rfl (opV_pickF rfl rfl rfl) ?_
    refine SmG.v hF rfl rfl rfl (opV_move rfl rfl) ?_
    first | refine SmG.v hF rfl rfl rfl (opV_fieldAddr rfl rfl (by simp (disch := omega) only [go_sem, Nat.reduceEqDiff, iteP, v7, hon, late2, Wk.row, Res.row, ressL, hA36, hB0, hB1, hB2, hB3, hB36, hBt, pureRow_map, clmsL, hCn, hC0, hC1, hC2, Int.reduceToNat] <;> rfl)) ?_ | refine SmG.pass hF rfl rfl rfl ?_
    first | refine SmG.v hF rfl rfl rfl (opV_load rfl rfl (by simp (disch := omega) only [go_sem, Nat.reduceEqDiff, iteP, v7, hon, late2, Wk.row, Res.row, ressL, hA36, hB0, hB1, hB2, hB3, hB36, hBt, pureRow_map, clmsL, hCn, hC0, hC1, hC2, Int.reduceToNat] <;> rfl)) ?_ | refine SmG.pass hF rfl rfl rfl ?_
    first | refine SmG.v hF rfl rfl rfl (opV_un rfl rfl (by first | exact rd_notT _ | exact rd_notF _ | exact rd_not _)) ?_ | refine SmG.pass hF rfl rfl rfl ?_
    first | refine SmG.v hF rfl rfl rfl (opV_pickT rfl rfl rfl) ?_ | refine SmG.v hF rfl rfl rfl (opV_pickF rfl rfl rfl) ?_
    refine SmG.v hF rfl rfl rfl (opV_move rfl rfl) ?_
    first | refine SmG.v hF rfl rfl rfl (opV_fieldAddr rfl rfl (by simp (disch := omega) only [go_sem, Nat.reduceEqDiff, iteP, v7, hon, late2, Wk.row, Res.row, ressL, hA36, hB0, hB1, hB2, hB3, hB36, hBt, pureRow_map, clmsL, hCn, hC0, hC1, hC2, Int.reduceToNat] <;> rfl)) ?_ | refine SmG.pass hF rfl rfl rfl ?_
    first | refine SmG.v hF rfl rfl rfl (opV_fieldAddr rfl rfl (by simp (disch := omega) only [go_sem, Nat.reduceEqDiff, iteP, v7, hon, late2, Wk.row, Res.row, ressL, hA36, hB0, hB1, hB2, hB3, hB36, hBt, pureRow_map, clmsL, hCn, hC0, hC1, hC2, Int.reduceToNat] <;> rfl)) ?_ | refine SmG.pass hF rfl rfl rfl ?_
    first | refine SmG.v hF rfl rfl rfl (opV_load rfl rfl (by simp (disch := omega) only [go_sem, Nat.reduceEqDiff, iteP, v7, hon, late2, Wk.row, Res.row, ressL, hA36, hB0, hB1, hB2, hB3, hB36, hBt, pureRow_map, clmsL, hCn, hC0, hC1, hC2, Int.reduceToNat] <;> rfl)) ?_ | refine SmG.pass hF rfl rfl rfl ?_
    first | refine SmG.v hF rfl rfl rfl (opV_bin rfl rfl rfl (by first | exact rd_neqT _ _ _ _ _ (by omega) | exact rd_neqF _ _ _ _ _ (by omega) | exact rb_neq _ _ _ _ _ _ _)) ?_ | refine SmG.pass hF rfl rfl rfl ?_
    first | refine SmG.v hF rfl rfl rfl (opV_pickT rfl rfl rfl) ?_ | refine SmG.v hF rfl rfl rfl (opV_pickF rfl rfl rfl) ?_
    refine SmG.v hF rfl rfl rfl (opV_move rfl rfl) ?_
    first | refine SmG.v hF rfl rfl rfl (opV_fieldAddr rfl rfl (by simp (disch := omega) only [go_sem, Nat.reduceEqDiff, iteP, v7, hon, late2, Wk.row, Res.row, ressL, hA36, hB0, hB1, hB2, hB3, hB36, hBt, pureRow_map, clmsL, hCn, hC0, hC1, hC2, Int.reduceToNat] <;> rfl)) ?_ | refine SmG.pass hF rfl rfl rfl ?_
    first | refine SmG.v hF rfl rfl rfl (opV_fieldAddr rfl rfl (by simp (disch := omega) only [go_sem, Nat.reduceEqDiff, iteP, v7, hon, late2, Wk.row, Res.row, ressL, hA36, hB0, hB1, hB2, hB3, hB36, hBt, pureRow_map, clmsL, hCn, hC0, hC1, hC2, Int.reduceToNat] <;> rfl)) ?_ | refine SmG.pass hF rfl rfl rfl ?_
    first | refine SmG.v hF rfl rfl rfl (opV_load rfl rfl (by simp (disch := omega) only [go_sem, Nat.reduceEqDiff, iteP, v7, hon, late2, Wk.row, Res.row, ressL, hA36, hB0, hB1, hB2, hB3, hB36, hBt, pureRow_map, clmsL, hCn, hC0, hC1, hC2, Int.reduceToNat] <;> rfl)) ?_ | refine SmG.pass hF rfl rfl rfl ?_
    first | refine SmG.v hF rfl rfl rfl (opV_bin rfl rfl rfl (by first | exact rd_neqT _ _ _ _ _ (by omega) | exact rd_neqF _ _ _ _ _ (by omega) | exact rb_neq _ _ _ _ _ _ _)) ?_ | refine SmG.pass hF rfl rfl rfl ?_
    first | refine SmG.v hF rfl rfl rfl (opV_pickT rfl rfl rfl) ?_ | refine SmG.v hF rfl rfl rfl (opV_pickF rfl rfl rfl) ?_
    refine SmG.v hF rfl rfl rfl (opV_move rfl rfl) ?_
    first | refine SmG.v hF rfl rfl rfl (opV_fieldAddr rfl rfl (by simp (disch := omega) only [go_sem, Nat.reduceEqDiff, iteP, v7, hon, late2, Wk.row, Res.row, ressL, hA36, hB0, hB1, hB2, hB3, hB36, hBt, pureRow_map, clmsL, hCn, hC0, hC1, hC2, Int.reduceToNat] <;> rfl)) ?_ | refine SmG.pass hF rfl rfl rfl ?_
    first | refine SmG.v hF rfl rfl rfl (opV_fieldAddr rfl rfl (by simp (disch := omega) only [go_sem, Nat.reduceEqDiff, iteP, v7, hon, late2, Wk.row, Res.row, ressL, hA36, hB0, hB1, hB2, hB3, hB36, hBt, pureRow_map, clmsL, hCn, hC0, hC1, hC2, Int.reduceToNat] <;> rfl)) ?_ | refine SmG.pass hF rfl rfl rfl ?_
    first | refine SmG.v hF rfl rfl rfl (opV_load rfl rfl (by simp (disch := omega) only [go_sem, Nat.reduceEqDiff, iteP, v7, hon, late2, Wk.row, Res.row, ressL, hA36, hB0, hB1, hB2, hB3, hB36, hBt, pureRow_map, clmsL, hCn, hC0, hC1, hC2, Int.reduceToNat] <;> rfl)) ?_ | refine SmG.pass hF rfl rfl rfl ?_
    first | refine SmG.v hF rfl rfl rfl (opV_bin rfl rfl rfl (by first | exact rd_neqT _ _ _ _ _ (by omega) | exact rd_neqF _ _ _ _ _ (by omega) | exact rb_neq _ _ _ _ _ _ _)) ?_ | refine SmG.pass hF rfl rfl rfl ?_
    first | refine SmG.v hF rfl rfl rfl (opV_pickT rfl rfl rfl) ?_ | refine SmG.v hF rfl rfl rfl (opV_pickF rfl rfl rfl) ?_
    refine SmG.v hF rfl rfl rfl (opV_move rfl rfl) ?_
    first | refine SmG.v hF rfl rfl rfl (opV_move rfl rfl) ?_ | refine SmG.pass hF rfl rfl rfl ?_
    first | refine SmG.v hF rfl rfl rfl (opV_len rfl rfl (by simp (disch := omega) only [go_sem, Nat.reduceEqDiff, iteP, v7, hon, late2, Wk.row, Res.row, ressL, hA36, hB0, hB1, hB2, hB3, hB36, hBt, pureRow_map, clmsL, hCn, hC0, hC1, hC2, Int.reduceToNat] <;> rfl)) ?_ | refine SmG.pass hF rfl rfl rfl ?_
    first | refine SmG.v hF rfl rfl rfl (opV_bin rfl rfl rfl (by first | exact rd_neqT _ _ _ _ _ (by omega) | exact rd_neqF _ _ _ _ _ (by omega) | exact rb_neq _ _ _ _ _ _ _)) ?_ | refine SmG.pass hF rfl rfl rfl ?_
    first | refine SmG.v hF rfl rfl rfl (opV_pickT rfl rfl rfl) ?_ | refine SmG.v hF rfl rfl rfl (opV_pickF rfl rfl rfl) ?_
    refine SmG.nil ?_
    refine nextS_normal ?_
    refine Sm.condF hF rfl ?_
    refine Sm.skip ?_
    refine nextS_normal ?_
    refine Sm.seq ?_
    refine Sm.drawG hF (by kernel_rfl) rfl 45 (by kernel_rfl) (by kernel_rfl) ?_
    simp only [List.take_succ_cons, List.take_zero, List.take_nil]
    refine Head.v hF rfl rfl rfl (opV_fieldAddr rfl rfl (by simp (disch := omega) only [go_sem, Nat.reduceEqDiff, iteP, v7, hon, late2, Wk.row, Res.row, ressL, hA36, hB0, hB1, hB2, hB3, hB36, hBt, pureRow_map, clmsL, hCn, hC0, hC1, hC2, Int.reduceToNat] <;> rfl)) ?_
    refine Head.v hF rfl rfl rfl (opV_fieldAddr rfl rfl (by simp (disch := omega) only [go_sem, Nat.reduceEqDiff, iteP, v7, hon, late2, Wk.row, Res.row, ressL, hA36, hB0, hB1, hB2, hB3, hB36, hBt, pureRow_map, clmsL, hCn, hC0, hC1, hC2, Int.reduceToNat] <;> rfl)) ?_
    refine Head.v hF rfl rfl rfl (opV_load rfl rfl (by simp (disch := omega) only [go_sem, Nat.reduceEqDiff, iteP, v7, hon, late2, Wk.row, Res.row, ressL, hA36, hB0, hB1, hB2, hB3, hB36, hBt, pureRow_map, clmsL, hCn, hC0, hC1, hC2, Int.reduceToNat] <;> rfl)) ?_
    refine Head.v hF rfl rfl rfl (opV_move rfl rfl) ?_
    refine Head.v hF rfl rfl rfl (opV_slice rfl rfl rfl rfl rfl (by simp (disch := omega) only [go_sem, Nat.reduceEqDiff, iteP, v7, hon, late2, Wk.row, Res.row, ressL, hA36, hB0, hB1, hB2, hB3, hB36, hBt, pureRow_map, clmsL, hCn, hC0, hC1, hC2, Int.reduceToNat] <;> rfl)) ?_
    refine Head.c hF rfl rfl (by kernel_rfl) rfl rfl rfl (hsr) ?_
    refine Head.v hF rfl rfl rfl (opV_move rfl rfl) ?_
    first | refine Head.v hF rfl rfl rfl (opV_move rfl rfl) ?_ | refine Head.p hF rfl rfl rfl ?_
    first | refine Head.v hF rfl rfl rfl (opV_indexAddr rfl rfl rfl (by simp (disch := omega) only [go_sem, Nat.reduceEqDiff, iteP, v7, hon, late2, Wk.row, Res.row, ressL, hA36, hB0, hB1, hB2, hB3, hB36, hBt, pureRow_map, clmsL, hCn, hC0, hC1, hC2, Int.reduceToNat] <;> rfl)) ?_ | refine Head.p hF rfl rfl rfl ?_
    first | refine Head.v hF rfl rfl rfl (opV_fieldAddr rfl rfl (by simp (disch := omega) only [go_sem, Nat.reduceEqDiff, iteP, v7, hon, late2, Wk.row, Res.row, ressL, hA36, hB0, hB1, hB2, hB3, hB36, hBt, pureRow_map, clmsL, hCn, hC0, hC1, hC2, Int.reduceToNat] <;> rfl)) ?_ | refine Head.p hF rfl rfl rfl ?_
    first | refine Head.v hF rfl rfl rfl (opV_load rfl rfl (by simp (disch := omega) only [go_sem, Nat.reduceEqDiff, iteP, v7, hon, late2, Wk.row, Res.row, ressL, hA36, hB0, hB1, hB2, hB3, hB36, hBt, pureRow_map, clmsL, hCn, hC0, hC1, hC2, Int.reduceToNat] <;> rfl)) ?_ | refine Head.p hF rfl rfl rfl ?_
    first | refine Head.v hF rfl rfl rfl (opV_bin rfl rfl rfl (by first | exact rd_eqlT _ _ _ _ _ (by omega) | exact rd_eqlF _ _ _ _ _ (by omega) | exact rb_eql _ _ _ _ _ _ _)) ?_ | refine Head.p hF rfl rfl rfl ?_
    first | refine Head.v hF rfl rfl rfl (opV_pickT rfl rfl rfl) ?_ | refine Head.v hF rfl rfl rfl (opV_pickF rfl rfl rfl) ?_
    refine Head.v hF rfl rfl rfl (opV_move rfl rfl) ?_
    first | refine Head.v hF rfl rfl rfl (opV_move rfl rfl) ?_ | refine Head.p hF rfl rfl rfl ?_
    first | refine Head.v hF rfl rfl rfl (opV_indexAddr rfl rfl rfl (by simp (disch := omega) only [go_sem, Nat.reduceEqDiff, iteP, v7, hon, late2, Wk.row, Res.row, ressL, hA36, hB0, hB1, hB2, hB3, hB36, hBt, pureRow_map, clmsL, hCn, hC0, hC1, hC2, Int.reduceToNat] <;> rfl)) ?_ | refine Head.p hF rfl rfl rfl ?_
    first | refine Head.v hF rfl rfl rfl (opV_fieldAddr rfl rfl (by simp (disch := omega) only [go_sem, Nat.reduceEqDiff, iteP, v7, hon, late2, Wk.row, Res.row, ressL, hA36, hB0, hB1, hB2, hB3, hB36, hBt, pureRow_map, clmsL, hCn, hC0, hC1, hC2, Int.reduceToNat] <;> rfl)) ?_ | refine Head.p hF rfl rfl rfl ?_
    first | refine Head.v hF rfl rfl rfl (opV_load rfl rfl (by simp (disch := omega) only [go_sem, Nat.reduceEqDiff, iteP, v7, hon, late2, Wk.row, Res.row, ressL, hA36, hB0, hB1, hB2, hB3, hB36, hBt, pureRow_map, clmsL, hCn, hC0, hC1, hC2, Int.reduceToNat] <;> rfl)) ?_ | refine Head.p hF rfl rfl rfl ?_
    first | refine Head.v hF rfl rfl rfl (opV_bin rfl rfl rfl (by first | exact rd_eqlT _ _ _ _ _ (by omega) | exact rd_eqlF _ _ _ _ _ (by omega) | exact rb_eql _ _ _ _ _ _ _)) ?_ | refine Head.p hF rfl rfl rfl ?_
    first | refine Head.v hF rfl rfl rfl (opV_pickT rfl rfl rfl) ?_ | refine Head.v hF rfl rfl rfl (opV_pickF rfl rfl rfl) ?_
    refine Head.v hF rfl rfl rfl (opV_move rfl rfl) ?_
    first | refine Head.v hF rfl rfl rfl (opV_move rfl rfl) ?_ | refine Head.p hF rfl rfl rfl ?_
    first | refine Head.v hF rfl rfl rfl (opV_indexAddr rfl rfl rfl (by simp (disch := omega) only [go_sem, Nat.reduceEqDiff, iteP, v7, hon, late2, Wk.row, Res.row, ressL, hA36, hB0, hB1, hB2, hB3, hB36, hBt, pureRow_map, clmsL, hCn, hC0, hC1, hC2, Int.reduceToNat] <;> rfl)) ?_ | refine Head.p hF rfl rfl rfl ?_
    first | refine Head.v hF rfl rfl rfl (opV_fieldAddr rfl rfl (by simp (disch := omega) only [go_sem, Nat.reduceEqDiff, iteP, v7, hon, late2, Wk.row, Res.row, ressL, hA36, hB0, hB1, hB2, hB3, hB36, hBt, pureRow_map, clmsL, hCn, hC0, hC1, hC2, Int.reduceToNat] <;> rfl)) ?_ | refine Head.p hF rfl rfl rfl ?_
    first | refine Head.v hF rfl rfl rfl (opV_load rfl rfl (by simp (disch := omega) only [go_sem, Nat.reduceEqDiff, iteP, v7, hon, late2, Wk.row, Res.row, ressL, hA36, hB0, hB1, hB2, hB3, hB36, hBt, pureRow_map, clmsL, hCn, hC0, hC1, hC2, Int.reduceToNat] <;> rfl)) ?_ | refine Head.p hF rfl rfl rfl ?_
    first | refine Head.v hF rfl rfl rfl (opV_bin rfl rfl rfl (by first | exact rd_eqlT _ _ _ _ _ (by omega) | exact rd_eqlF _ _ _ _ _ (by omega) | exact rb_eql _ _ _ _ _ _ _)) ?_ | refine Head.p hF rfl rfl rfl ?_
    first | refine Head.v hF rfl rfl rfl (opV_pickT rfl rfl rfl) ?_ | refine Head.v hF rfl rfl rfl (opV_pickF rfl rfl rfl) ?_
    refine Head.v hF rfl rfl rfl (opV_move rfl rfl) ?_
    first | refine Head.v hF rfl rfl rfl (opV_move rfl rfl) ?_ | refine Head.p hF rfl rfl rfl ?_
    first | refine Head.v hF rfl rfl rfl (opV_indexAddr rfl rfl rfl (by simp (disch := omega) only [go_sem, Nat.reduceEqDiff, iteP, v7, hon, late2, Wk.row, Res.row, ressL, hA36, hB0, hB1, hB2, hB3, hB36, hBt, pureRow_map, clmsL, hCn, hC0, hC1, hC2, Int.reduceToNat] <;> rfl)) ?_ | refine Head.p hF rfl rfl rfl ?_
    first | refine Head.v hF rfl rfl rfl (opV_fieldAddr rfl rfl (by simp (disch := omega) only [go_sem, Nat.reduceEqDiff, iteP, v7, hon, late2, Wk.row, Res.row, ressL, hA36, hB0, hB1, hB2, hB3, hB36, hBt, pureRow_map, clmsL, hCn, hC0, hC1, hC2, Int.reduceToNat] <;> rfl)) ?_ | refine Head.p hF rfl rfl rfl ?_
    first | refine Head.v hF rfl rfl rfl (opV_load rfl rfl (by simp (disch := omega) only [go_sem, Nat.reduceEqDiff, iteP, v7, hon, late2, Wk.row, Res.row, ressL, hA36, hB0, hB1, hB2, hB3, hB36, hBt, pureRow_map, clmsL, hCn, hC0, hC1, hC2, Int.reduceToNat] <;> rfl)) ?_ | refine Head.p hF rfl rfl rfl ?_
    first | refine Head.v hF rfl rfl rfl (opV_bin rfl rfl rfl (by first | exact rd_eqlT _ _ _ _ _ (by omega) | exact rd_eqlF _ _ _ _ _ (by omega) | exact rb_eql _ _ _ _ _ _ _)) ?_ | refine Head.p hF rfl rfl rfl ?_
    first | refine Head.v hF rfl rfl rfl (opV_pickT rfl rfl rfl) ?_ | refine Head.v hF rfl rfl rfl (opV_pickF rfl rfl rfl) ?_
    refine Head.v hF rfl rfl rfl (opV_move rfl rfl) ?_
    first | refine Head.v hF rfl rfl rfl (opV_fieldAddr rfl rfl (by simp (disch := omega) only [go_sem, Nat.reduceEqDiff, iteP, v7, hon, late2, Wk.row, Res.row, ressL, hA36, hB0, hB1, hB2, hB3, hB36, hBt, pureRow_map, clmsL, hCn, hC0, hC1, hC2, Int.reduceToNat] <;> rfl)) ?_ | refine Head.p hF rfl rfl rfl ?_
    first | refine Head.v hF rfl rfl rfl (opV_load rfl rfl (by simp (disch := omega) only [go_sem, Nat.reduceEqDiff, iteP, v7, hon, late2, Wk.row, Res.row, ressL, hA36, hB0, hB1, hB2, hB3, hB36, hBt, pureRow_map, clmsL, hCn, hC0, hC1, hC2, Int.reduceToNat] <;> rfl)) ?_ | refine Head.p hF rfl rfl rfl ?_
    first | refine Head.c hF rfl rfl (by kernel_rfl) rfl rfl rfl (hsd) ?_ | refine Head.p hF rfl rfl rfl ?_
    first | refine Head.v hF rfl rfl rfl (opV_pickT rfl rfl rfl) ?_ | refine Head.v hF rfl rfl rfl (opV_pickF rfl rfl rfl) ?_
    refine Head.v hF rfl rfl rfl (opV_move rfl rfl) ?_
    first | refine Head.v hF rfl rfl rfl (opV_buildT rfl Tryd.underlying41 (by kernel_rfl) rfl (buildS_struct (n := 36) ze41 pl41 rfl (by repeat' first | apply fill_oneE rfl rfl (by first | rfl | simp [rowS, v7, hon, late2, Wk.row, Res.row, ressL, hA36, hB0, hB1, hB2, hB3, hB36, hBt, pureRow_map, clmsL, hCn, hC0, hC1, hC2, Int.reduceToNat]) | apply fill_aggE rfl rfl rfl (by first | assumption | simp [rowS, v7, hon, late2, Wk.row, Res.row, ressL, hA36, hB0, hB1, hB2, hB3, hB36, hBt, pureRow_map, clmsL, hCn, hC0, hC1, hC2, Int.reduceToNat]) | (apply fillE; simp only [List.set_cons_succ, List.set_cons_zero, List.take_succ_cons, List.take_zero, List.drop_succ_cons, List.drop_zero, List.drop_nil, List.cons_append, List.nil_append, List.append_nil, v7, hon, late2, Wk.row, Res.row, ressL, hA36, hB0, hB1, hB2, hB3, hB36, hBt, pureRow_map, clmsL, hCn, hC0, hC1, hC2, Int.reduceToNat] <;> rfl)))) ?_ | refine Head.p hF rfl rfl rfl ?_
    first | refine Head.c hF rfl rfl (by kernel_rfl) rfl rfl rfl (hsn) ?_ | refine Head.p hF rfl rfl rfl ?_
    first | refine Head.v hF rfl rfl rfl (opV_un rfl rfl (by first | exact rd_notT _ | exact rd_notF _ | exact rd_not _)) ?_ | refine Head.p hF rfl rfl rfl ?_
    first | refine Head.v hF rfl rfl rfl (opV_pickT rfl rfl rfl) ?_ | refine Head.v hF rfl rfl rfl (opV_pickF rfl rfl rfl) ?_
    refine Head.v hF rfl rfl rfl (opV_assign rfl rfl) ?_
    refine Head.last ⟨rfl, ?_⟩
    simp only [List.drop_succ_cons, List.drop_zero, List.drop_nil, List.nil_append, List.cons_append]
    refine SmG.nil ?_
    refine nextS_normal ?_
    refine Sm.ret ?_
    refine ⟨_, rfl, ?_⟩; dsimp only
    exact D.le.refl _
end Go.Proofs.YtagfaaijgfigkaaDoor
namespace Go.Proofs.YtagfaaijgfigkaaDoor
open Go.ChangeShapes Go.WideShapes Go.ChangeAt Go.RowKit
set_option maxRecDepth 100000
theorem u2_typed {n : Nat} {x : List D} (h : TyD Tryd.prog (n + 2) 66 x) : ∃ p : UInt8 × UInt8, x = rowU2 p := by
  rw [TyD] at h
  simp only [Tryd.underlying66] at h
  obtain ⟨parts, hl, rfl, hp⟩ := h
  match parts, hl with
  | [a, b], _ =>
    obtain ⟨w0, rfl⟩ := byte_typed (hp a (by simp))
    obtain ⟨w1, rfl⟩ := byte_typed (hp b (by simp))
    exact ⟨(w0, w1), rfl⟩
theorem u2_arg {n : Nat} {d : D} (h : ArgD Tryd.prog (n + 2) 66 d) : ∃ a b : UInt8, d = .agg 2 [byteD a, byteD b] := by
  simp only [ArgD, ag66] at h
  obtain ⟨ds, rfl, _, h⟩ := h
  obtain ⟨p, rfl⟩ := u2_typed h
  have hc : Tryd.prog.cellsOf 66 = 2 := by kernel_rfl
  exact ⟨p.1, p.2, by rw [hc]; rfl⟩
theorem u2s_arg {n : Nat} {d : D} (h : ArgD Tryd.prog (n + 3) 22 d) : ∃ l : List (UInt8 × UInt8), d = u2sL l ∧ l.length ≤ 9223372036854775807 := by
  simp only [ArgD, ag22] at h
  rw [TyD] at h
  simp only [Tryd.underlying22] at h
  obtain ⟨xs, h0, h1, h2⟩ := h
  obtain ⟨l, rfl⟩ := map_of (f := rowU2) fun x hx => u2_typed (h2 x hx)
  have hc : Tryd.prog.cellsOf 66 = 2 := by kernel_rfl
  rw [hc] at h0
  injection h0 with h0
  exact ⟨l, by rw [h0]; rfl, by simpa using h1⟩
def i8R (z : Int) : Prop := -128 ≤ z ∧ z ≤ 127
theorem i8_typed {n : Nat} {x : List D} (h : TyD Tryd.prog (n + 1) 24 x) : ∃ z : Int, x = [.v (.int .i8 z)] ∧ i8R z := by
  simp only [TyD, Tryd.underlying24] at h
  obtain ⟨z, h1, h2, h3⟩ := h
  simp [IntKind.min, IntKind.max, IntKind.signed, IntKind.bits] at h2 h3
  exact ⟨z, by simpa using h1, h2, h3⟩
theorem i8x4_arg {n : Nat} {d : D} (h : ArgD Tryd.prog (n + 2) 62 d) : ∃ a b c e : Int, d = .agg 4 [.v (.int .i8 a), .v (.int .i8 b), .v (.int .i8 c), .v (.int .i8 e)] ∧ i8R a ∧ i8R b ∧ i8R c ∧ i8R e := by
  simp only [ArgD, ag62] at h
  obtain ⟨ds, rfl, _, h⟩ := h
  rw [TyD] at h
  simp only [Tryd.underlying62] at h
  obtain ⟨parts, hl, rfl, hp⟩ := h
  match parts, hl with
  | [a, b, c, e], _ =>
    obtain ⟨w0, rfl, h0⟩ := i8_typed (hp a (by simp))
    obtain ⟨w1, rfl, h1⟩ := i8_typed (hp b (by simp))
    obtain ⟨w2, rfl, h2⟩ := i8_typed (hp c (by simp))
    obtain ⟨w3, rfl, h3⟩ := i8_typed (hp e (by simp))
    have hc : Tryd.prog.cellsOf 62 = 4 := by kernel_rfl
    exact ⟨w0, w1, w2, w3, by rw [hc]; rfl, h0, h1, h2, h3⟩
end Go.Proofs.YtagfaaijgfigkaaDoor
namespace Go.Proofs.YtagfaaijgfigkaaDoor
open Go.RowKit
set_option maxRecDepth 100000
theorem sound_true {c : Clm} (h1 : 0 ≤ c.lo) (h2 : c.lo ≤ c.hi) (h3 : (c.l.length : Int) = c.hi - c.lo) (h4 : c.root = Sha.root (c.l.map resBytes)) : soundC c = true := decide_eq_true ⟨h1, h2, h3, h4⟩
end Go.Proofs.YtagfaaijgfigkaaDoor
namespace Go.Proofs.YtagfaaijgfigkaaDoor
open Go.RowKit
set_option maxRecDepth 100000
theorem conv_i8u8 (n : Int) : convS Tryd.prog 24 5 (.d (.v (.int .i8 n))) = some (.d (.v (.int .u8 (n % 256)))) := by
  simp only [convS, rc_int Tryd.prog .u8 n _ _ Tryd.underlying24 Tryd.underlying5 .i8, Option.map_some, IntKind.wrap_u8']
structure OddOk (c : Clm) : Prop where
  root : c.root.length = 32
  len : c.l.length ≤ 1000000
  hi : c.hi ≤ 9223372036854775807
theorem row_at (a b c d : V) (R : List UInt8) (j : Nat) (h : j < R.length) : (a :: b :: c :: d :: List.map V.d (rowS R))[4 + j]? = some (V.d (byteD R[j])) := by
  rw [show 4 + j = j + 1 + 1 + 1 + 1 by omega]
  simp [rowS, h]
theorem row_set (a b c d : V) (R : List UInt8) (j : Nat) (x : UInt8) : (a :: b :: c :: d :: List.map V.d (rowS R)).set (4 + j) (V.d (.v (.int .u8 x.toNat))) = a :: b :: c :: d :: List.map V.d (rowS (R.set j x)) := by
  rw [show 4 + j = j + 1 + 1 + 1 + 1 by omega]
  simp [rowS, List.map_set, byteD]
theorem wrapU8_ex (n : Int) : ∃ x : UInt8, IntKind.u8.wrap n = (x.toNat : Int) := by
  refine ⟨UInt8.ofNat (n % 256).toNat, ?_⟩
  rw [IntKind.wrap_u8', UInt8.toNat_ofNat']
  omega
theorem bool_self (c : Bool) (x y : Operand) : reck Tryd.prog (do eqGuard .eql 4 x y (.bool c) (.bool c); binOp .eql 4 (.bool c) (.bool c)) = some (.bool true) := rd_beq _ _ _ _ (by kernel_rfl) (by simp)
set_option maxHeartbeats 1000000 in
theorem workerSound_D (l : List (UInt8 × UInt8)) (w0 w1 w2 w3 : Int) (y0 y1 : UInt8) (hl : l.length ≤ 9223372036854775807) (hw0 : -128 ≤ w0 ∧ w0 ≤ 127) (hw1 : -128 ≤ w1 ∧ w1 ≤ 127) (hw2 : -128 ≤ w2 ∧ w2 ≤ 127) (hw3 : -128 ≤ w3 ∧ w3 ≤ 127) :
    CallsD Tryd.prog HG 8 [u2sL l, .agg 4 [.v (.int .i8 w0), .v (.int .i8 w1), .v (.int .i8 w2), .v (.int .i8 w3)], .agg 2 [byteD y0, byteD y1]] (.v (.bool true)) := by
  have hy0 := y0.toNat_lt
  have hy1 := y1.toNat_lt
  have hvl := resultsOf_len l 40
  have hres := results_D l 40 hl (by omega) HG
  generalize resultsOf l 40 = v at hvl hres
  have hR := refRoot17_D v (by omega)
  have hRl := Sha.root_len (v.map resBytes)
  have hs0 := sound_D ⟨w0, 2, 2 + v.length, v, Sha.root (v.map resBytes)⟩ hRl (by show v.length ≤ _; omega) (by show 2 + (v.length : Int) ≤ _; omega)
  rw [show soundC ⟨w0, 2, 2 + v.length, v, Sha.root (v.map resBytes)⟩ = true from sound_true (by show (0:Int) ≤ 2; decide) (by show (2 : Int) ≤ 2 + v.length; omega) (by show (v.length : Int) = 2 + v.length - 2; omega) rfl] at hs0
  generalize Sha.root (v.map resBytes) = R at hR hRl hs0
  have hcR : (rowS R).length = 32 := by simp [rowS, hRl]
  refine CallsD.of Tryd.func8 rfl Tryd.ntmps8 (by simp) ?_; intro F hF h0 hT; simp only [List.zipIdx_cons, List.zipIdx_nil, List.map_cons, List.map_nil, Nat.zero_add, Nat.reduceAdd]
  refine Sm.seq ?_
  refine Sm.regionG hF rfl ?_
  refine SmG.new hF rfl rfl rfl (opS_box rfl rfl (by simp (disch := omega) only [go_sem, Nat.reduceEqDiff, iteP, byteD, clmD, pureRow_map, ressL, sumD, hcR] <;> rfl)) ?_
  refine SmG.new hF rfl rfl rfl (opS_box rfl rfl (by simp (disch := omega) only [go_sem, Nat.reduceEqDiff, iteP, byteD, clmD, pureRow_map, ressL, sumD, hcR] <;> rfl)) ?_
  refine SmG.v hF rfl rfl rfl (opV_assign rfl rfl) ?_
  refine SmG.nil ?_
  refine nextS_normal ?_
  refine Sm.seq ?_
  refine Sm.regionG hF rfl ?_
  refine SmG.call hF rfl rfl (by kernel_rfl) rfl rfl rfl (sanity_D) ?_
  refine SmG.v hF rfl rfl rfl (opV_assign rfl rfl) ?_
  refine SmG.nil ?_
  refine nextS_normal ?_
  refine Sm.seq ?_
  refine Sm.regionG hF rfl ?_
  refine SmG.v hF rfl rfl rfl (opV_move rfl rfl) ?_
  refine SmG.call hF rfl rfl (by kernel_rfl) rfl rfl rfl (hres) ?_
  refine SmG.v hF rfl rfl rfl (opV_assign rfl rfl) ?_
  refine SmG.nil ?_
  refine nextS_normal ?_
  refine Sm.seq ?_
  refine Sm.drawG hF (by kernel_rfl) rfl 11 (by kernel_rfl) (by kernel_rfl) ?_
  simp only [List.take_succ_cons, List.take_zero, List.take_nil]
  refine Head.v hF rfl rfl rfl (opV_indexAddr rfl rfl rfl (by simp (disch := omega) only [go_sem, Nat.reduceEqDiff, iteP, byteD, clmD, pureRow_map, ressL, sumD, hcR] <;> rfl)) ?_
  refine Head.v hF rfl rfl rfl (opV_load rfl rfl (by simp (disch := omega) only [go_sem, Nat.reduceEqDiff, iteP, byteD, clmD, pureRow_map, ressL, sumD, hcR] <;> rfl)) ?_
  refine Head.v hF rfl rfl rfl (opV_conv rfl rfl (by first | exact convS_int rfl rfl (wrapI64 _ (by omega)) | (simp (disch := omega) only [go_sem, byteD, clmD, pureRow_map, ressL, sumD, hcR] <;> rfl))) ?_
  refine Head.v hF rfl rfl rfl (opV_move rfl rfl) ?_
  refine Head.v hF rfl rfl rfl (opV_len rfl rfl (by simp (disch := omega) only [go_sem, Nat.reduceEqDiff, iteP, byteD, clmD, pureRow_map, ressL, sumD, hcR] <;> rfl)) ?_
  refine Head.v hF rfl rfl rfl (opV_bin rfl rfl rfl (by first | exact rd_add _ _ _ _ _ (wrapI64 _ (by omega)) | exact rb_add _ _ _ _ _ _ _)) ?_
  refine Head.v hF rfl rfl rfl (opV_move rfl rfl) ?_
  refine Head.v hF rfl rfl rfl (opV_move rfl rfl) ?_
  refine Head.c hF rfl rfl (by kernel_rfl) rfl rfl rfl (hR) ?_
  refine Head.v hF rfl rfl rfl (opV_buildT rfl Tryd.underlying41 (by kernel_rfl) rfl (buildS_struct (n := 36) ze41 pl41 rfl (by repeat' first | apply fill_oneE rfl rfl (by first | rfl | simp [rowS, byteD, clmD, pureRow_map, ressL, sumD, hcR]) | apply fill_aggE rfl rfl rfl (by first | assumption | simp [rowS, byteD, clmD, pureRow_map, ressL, sumD, hcR]) | (apply fillE; simp only [List.set_cons_succ, List.set_cons_zero, List.take_succ_cons, List.take_zero, List.drop_succ_cons, List.drop_zero, List.drop_nil, List.cons_append, List.nil_append, List.append_nil, byteD, clmD, pureRow_map, ressL, sumD, hcR] <;> rfl)))) ?_
  refine Head.new hF rfl rfl rfl rfl al41 ?_
  refine Head.last ⟨rfl, ?_⟩
  simp only [List.drop_succ_cons, List.drop_zero, List.drop_nil, List.nil_append, List.cons_append]
  refine SmG.store hF rfl rfl rfl rfl rfl (by simp (disch := omega) only [go_sem, Nat.reduceEqDiff, iteP, byteD, clmD, pureRow_map, ressL, sumD, hcR] <;> rfl) ?_
  refine SmG.nil ?_
  refine nextS_normal ?_
  refine Sm.seq ?_
  refine Sm.seq ?_
  refine Sm.regionG hF rfl ?_
  refine SmG.v hF rfl rfl rfl (opV_load rfl rfl (by simp (disch := omega) only [go_sem, Nat.reduceEqDiff, iteP, byteD, clmD, pureRow_map, ressL, sumD, hcR] <;> rfl)) ?_
  refine SmG.call hF rfl rfl (by kernel_rfl) rfl rfl rfl (hs0) ?_
  refine SmG.v hF rfl rfl rfl (opV_un rfl rfl (by first | exact rd_notT _ | exact rd_notF _ | exact rd_not _)) ?_
  refine SmG.nil ?_
  refine nextS_normal ?_
  refine Sm.condF hF rfl ?_
  refine Sm.skip ?_
  refine nextS_normal ?_
  refine Sm.seq ?_
  refine Sm.regionG hF rfl ?_
  refine SmG.v hF rfl rfl rfl (opV_load rfl rfl (by simp (disch := omega) only [go_sem, Nat.reduceEqDiff, iteP, byteD, clmD, pureRow_map, ressL, sumD, hcR] <;> rfl)) ?_
  refine SmG.new hF rfl rfl rfl (opS_alloc rfl al41) ?_
  refine SmG.store hF rfl rfl rfl rfl rfl (by simp (disch := omega) only [go_sem, Nat.reduceEqDiff, iteP, byteD, clmD, pureRow_map, ressL, sumD, hcR] <;> rfl) ?_
  refine SmG.nil ?_
  refine nextS_normal ?_
  refine Sm.seq ?_
  refine Sm.seq ?_
  refine Sm.regionG hF rfl ?_
  refine SmG.v hF rfl rfl rfl (opV_indexAddr rfl rfl rfl (by simp (disch := omega) only [go_sem, Nat.reduceEqDiff, iteP, byteD, clmD, pureRow_map, ressL, sumD, hcR] <;> rfl)) ?_
  refine SmG.v hF rfl rfl rfl (opV_load rfl rfl (by simp (disch := omega) only [go_sem, Nat.reduceEqDiff, iteP, byteD, clmD, pureRow_map, ressL, sumD, hcR] <;> rfl)) ?_
  refine SmG.v hF rfl rfl rfl (opV_conv rfl rfl (conv_i8u8 _)) ?_
  refine SmG.v hF rfl rfl rfl (opV_bin rfl rfl rfl (rd_rem _ _ _ _ _ (by omega) (by omega))) ?_
  refine SmG.nil ?_
  refine nextS_normal ?_
  refine Sm.join (ι := {c : Clm // OddOk c}) (fun c => ⟨[(7, .d (.v (.bool true))), (10, .ref 3 0 0)], [(3, dB 36 [c.1.row])], 5⟩) ?_ ?_
  · rintro ⟨c, hc⟩
    have hsa := sound_D c hc.root hc.len hc.hi
    have hsb := refSound_D c hc.root hc.len hc.hi
    refine Sm.seq ?_
    refine Sm.drawG hF (by kernel_rfl) rfl 9 (by kernel_rfl) (by kernel_rfl) ?_
    simp only [List.take_succ_cons, List.take_zero, List.take_nil]
    refine Head.v hF rfl rfl rfl (opV_load rfl rfl (by simp (disch := omega) only [go_sem, Nat.reduceEqDiff, iteP, clmD, pureRow_map] <;> rfl)) ?_
    refine Head.c hF rfl rfl (by kernel_rfl) rfl rfl rfl (hsa) ?_
    refine Head.v hF rfl rfl rfl (opV_load rfl rfl (by simp (disch := omega) only [go_sem, Nat.reduceEqDiff, iteP, clmD, pureRow_map] <;> rfl)) ?_
    refine Head.c hF rfl rfl (by kernel_rfl) rfl rfl rfl (hsb) ?_
    refine Head.v hF rfl rfl rfl (opV_bin rfl rfl rfl (bool_self _ _ _)) ?_
    refine Head.v hF rfl rfl rfl (opV_move rfl rfl) ?_
    first | refine Head.v hF rfl rfl rfl (opV_move rfl rfl) ?_ | refine Head.p hF rfl rfl rfl ?_
    first | refine Head.v hF rfl rfl rfl (opV_pickT rfl rfl rfl) ?_ | refine Head.v hF rfl rfl rfl (opV_pickF rfl rfl rfl) ?_
    refine Head.v hF rfl rfl rfl (opV_assign rfl rfl) ?_
    refine Head.last ⟨rfl, ?_⟩
    simp only [List.drop_succ_cons, List.drop_zero, List.drop_nil, List.nil_append, List.cons_append]
    refine SmG.nil ?_
    refine nextS_normal ?_
    refine Sm.ret ?_
    refine ⟨_, rfl, ?_⟩; dsimp only
    exact D.le.refl _
  have hq : w1 % 256 % 4 = 0 ∨ w1 % 256 % 4 = 1 ∨ w1 % 256 % 4 = 2 ∨ w1 % 256 % 4 = 3 := by omega
  rcases hq with hq | hq | hq | hq
  · refine Sm.block ?_
    refine Sm.seq ?_
    refine Sm.regionG hF rfl ?_
    refine SmG.v hF rfl rfl rfl (opV_bin rfl rfl rfl (by first | exact rd_eqlT _ _ _ _ _ (by omega) | exact rd_eqlF _ _ _ _ _ (by omega) | exact rb_eql _ _ _ _ _ _ _)) ?_
    refine SmG.v hF rfl rfl rfl (opV_assign rfl rfl) ?_
    refine SmG.nil ?_
    refine nextS_normal ?_
    refine Sm.condT hF rfl ?_
    refine Sm.regionG hF rfl ?_
    refine SmG.v hF rfl rfl rfl (opV_fieldAddr rfl rfl (by simp (disch := omega) only [go_sem, Nat.reduceEqDiff, iteP, byteD, clmD, pureRow_map, ressL, sumD, hcR] <;> rfl)) ?_
    refine SmG.v hF rfl rfl rfl (opV_load rfl rfl (by simp (disch := omega) only [go_sem, Nat.reduceEqDiff, iteP, byteD, clmD, pureRow_map, ressL, sumD, hcR] <;> rfl)) ?_
    refine SmG.v hF rfl rfl rfl (opV_indexAddr rfl rfl rfl (by simp (disch := omega) only [go_sem, Nat.reduceEqDiff, iteP, byteD, clmD, pureRow_map, ressL, sumD, hcR] <;> rfl)) ?_
    refine SmG.v hF rfl rfl rfl (opV_load rfl rfl (by simp (disch := omega) only [go_sem, Nat.reduceEqDiff, iteP, byteD, clmD, pureRow_map, ressL, sumD, hcR] <;> rfl)) ?_
    refine SmG.v hF rfl rfl rfl (opV_conv rfl rfl (by first | exact convS_int rfl rfl (wrapI64 _ (by omega)) | (simp (disch := omega) only [go_sem, byteD, clmD, pureRow_map, ressL, sumD, hcR] <;> rfl))) ?_
    refine SmG.v hF rfl rfl rfl (opV_bin rfl rfl rfl (by first | exact rd_add _ _ _ _ _ (wrapI64 _ (by omega)) | exact rb_add _ _ _ _ _ _ _)) ?_
    refine SmG.v hF rfl rfl rfl (opV_fieldAddr rfl rfl (by simp (disch := omega) only [go_sem, Nat.reduceEqDiff, iteP, byteD, clmD, pureRow_map, ressL, sumD, hcR] <;> rfl)) ?_
    refine SmG.store hF rfl rfl rfl rfl rfl (by simp (disch := omega) only [go_sem, Nat.reduceEqDiff, iteP, byteD, clmD, pureRow_map, ressL, sumD, hcR] <;> rfl) ?_
    refine SmG.nil ?_
    refine blockS_normal ?_
    refine nextS_normal ?_
    exact ⟨⟨⟨w0, 2 + w2, 2 + v.length, v, R⟩, ⟨hRl, by show v.length ≤ _; omega, by show 2 + (v.length : Int) ≤ _; omega⟩⟩, St.le_of ⟨rfl, rfl, trivial⟩ ⟨rfl, trivial⟩ (Nat.le_of_ble_eq_true rfl)⟩
  · refine Sm.block ?_
    refine Sm.seq ?_
    refine Sm.regionG hF rfl ?_
    refine SmG.v hF rfl rfl rfl (opV_bin rfl rfl rfl (by first | exact rd_eqlT _ _ _ _ _ (by omega) | exact rd_eqlF _ _ _ _ _ (by omega) | exact rb_eql _ _ _ _ _ _ _)) ?_
    refine SmG.v hF rfl rfl rfl (opV_assign rfl rfl) ?_
    refine SmG.nil ?_
    refine nextS_normal ?_
    refine Sm.condF hF rfl ?_
    refine Sm.seq ?_
    refine Sm.regionG hF rfl ?_
    refine SmG.v hF rfl rfl rfl (opV_bin rfl rfl rfl (by first | exact rd_eqlT _ _ _ _ _ (by omega) | exact rd_eqlF _ _ _ _ _ (by omega) | exact rb_eql _ _ _ _ _ _ _)) ?_
    refine SmG.v hF rfl rfl rfl (opV_assign rfl rfl) ?_
    refine SmG.nil ?_
    refine nextS_normal ?_
    refine Sm.condT hF rfl ?_
    refine Sm.regionG hF rfl ?_
    refine SmG.v hF rfl rfl rfl (opV_fieldAddr rfl rfl (by simp (disch := omega) only [go_sem, Nat.reduceEqDiff, iteP, byteD, clmD, pureRow_map, ressL, sumD, hcR] <;> rfl)) ?_
    refine SmG.v hF rfl rfl rfl (opV_load rfl rfl (by simp (disch := omega) only [go_sem, Nat.reduceEqDiff, iteP, byteD, clmD, pureRow_map, ressL, sumD, hcR] <;> rfl)) ?_
    refine SmG.v hF rfl rfl rfl (opV_indexAddr rfl rfl rfl (by simp (disch := omega) only [go_sem, Nat.reduceEqDiff, iteP, byteD, clmD, pureRow_map, ressL, sumD, hcR] <;> rfl)) ?_
    refine SmG.v hF rfl rfl rfl (opV_load rfl rfl (by simp (disch := omega) only [go_sem, Nat.reduceEqDiff, iteP, byteD, clmD, pureRow_map, ressL, sumD, hcR] <;> rfl)) ?_
    refine SmG.v hF rfl rfl rfl (opV_conv rfl rfl (by first | exact convS_int rfl rfl (wrapI64 _ (by omega)) | (simp (disch := omega) only [go_sem, byteD, clmD, pureRow_map, ressL, sumD, hcR] <;> rfl))) ?_
    refine SmG.v hF rfl rfl rfl (opV_bin rfl rfl rfl (by first | exact rd_add _ _ _ _ _ (wrapI64 _ (by omega)) | exact rb_add _ _ _ _ _ _ _)) ?_
    refine SmG.v hF rfl rfl rfl (opV_fieldAddr rfl rfl (by simp (disch := omega) only [go_sem, Nat.reduceEqDiff, iteP, byteD, clmD, pureRow_map, ressL, sumD, hcR] <;> rfl)) ?_
    refine SmG.store hF rfl rfl rfl rfl rfl (by simp (disch := omega) only [go_sem, Nat.reduceEqDiff, iteP, byteD, clmD, pureRow_map, ressL, sumD, hcR] <;> rfl) ?_
    refine SmG.nil ?_
    refine blockS_normal ?_
    refine nextS_normal ?_
    exact ⟨⟨⟨w0, 2, 2 + v.length + w2, v, R⟩, ⟨hRl, by show v.length ≤ _; omega, by show 2 + (v.length : Int) + w2 ≤ _; omega⟩⟩, St.le_of ⟨rfl, rfl, trivial⟩ ⟨rfl, trivial⟩ (Nat.le_of_ble_eq_true rfl)⟩
  · obtain ⟨j, hj, hj2⟩ : ∃ j : Nat, w3 % 256 % 32 = j ∧ j < 32 := ⟨(w3 % 256 % 32).toNat, by omega, by omega⟩
    have hjl : j < R.length := by omega
    have hat := fun a b c d => row_at a b c d R j hjl
    obtain ⟨x, hx⟩ := wrapU8_ex (((BitVec.ofInt IntKind.u8.bits (R[j].toNat : Int) ^^^ BitVec.ofInt IntKind.u8.bits (w2 % 256)).toNat : Nat) : Int)
    have hset := fun a b c d => row_set a b c d R j x
    refine Sm.block ?_
    refine Sm.seq ?_
    refine Sm.regionG hF rfl ?_
    refine SmG.v hF rfl rfl rfl (opV_bin rfl rfl rfl (by first | exact rd_eqlT _ _ _ _ _ (by omega) | exact rd_eqlF _ _ _ _ _ (by omega) | exact rb_eql _ _ _ _ _ _ _)) ?_
    refine SmG.v hF rfl rfl rfl (opV_assign rfl rfl) ?_
    refine SmG.nil ?_
    refine nextS_normal ?_
    refine Sm.condF hF rfl ?_
    refine Sm.seq ?_
    refine Sm.regionG hF rfl ?_
    refine SmG.v hF rfl rfl rfl (opV_bin rfl rfl rfl (by first | exact rd_eqlT _ _ _ _ _ (by omega) | exact rd_eqlF _ _ _ _ _ (by omega) | exact rb_eql _ _ _ _ _ _ _)) ?_
    refine SmG.v hF rfl rfl rfl (opV_assign rfl rfl) ?_
    refine SmG.nil ?_
    refine nextS_normal ?_
    refine Sm.condF hF rfl ?_
    refine Sm.seq ?_
    refine Sm.regionG hF rfl ?_
    refine SmG.v hF rfl rfl rfl (opV_bin rfl rfl rfl (by first | exact rd_eqlT _ _ _ _ _ (by omega) | exact rd_eqlF _ _ _ _ _ (by omega) | exact rb_eql _ _ _ _ _ _ _)) ?_
    refine SmG.v hF rfl rfl rfl (opV_assign rfl rfl) ?_
    refine SmG.nil ?_
    refine nextS_normal ?_
    refine Sm.condT hF rfl ?_
    refine Sm.drawG hF (by kernel_rfl) rfl 13 (by kernel_rfl) (by kernel_rfl) ?_
    simp only [List.take_succ_cons, List.take_zero, List.take_nil]
    refine Head.v hF rfl rfl rfl (opV_indexAddr rfl rfl rfl (by simp (disch := omega) only [go_sem, Nat.reduceEqDiff, iteP, byteD, clmD, pureRow_map, ressL, sumD, hcR, Int.toNat_natCast, hat, hset, byteD, and_false, if_false] <;> rfl)) ?_
    refine Head.v hF rfl rfl rfl (opV_load rfl rfl (by simp (disch := omega) only [go_sem, Nat.reduceEqDiff, iteP, byteD, clmD, pureRow_map, ressL, sumD, hcR, Int.toNat_natCast, hat, hset, byteD, and_false, if_false] <;> rfl)) ?_
    refine Head.v hF rfl rfl rfl (opV_conv rfl rfl (conv_i8u8 _)) ?_
    refine Head.v hF rfl rfl rfl (opV_bin rfl rfl rfl ((rd_rem _ _ _ _ _ (by omega) (by omega)).trans (congrArg (fun x => some (Value.int .u8 x)) hj))) ?_
    refine Head.v hF rfl rfl rfl (opV_fieldAddr rfl rfl (by simp (disch := omega) only [go_sem, Nat.reduceEqDiff, iteP, byteD, clmD, pureRow_map, ressL, sumD, hcR, Int.toNat_natCast, hat, hset, byteD, and_false, if_false] <;> rfl)) ?_
    refine Head.v hF rfl rfl rfl (opV_indexAddr rfl rfl rfl (by simp (disch := omega) only [go_sem, Nat.reduceEqDiff, iteP, byteD, clmD, pureRow_map, ressL, sumD, hcR, Int.toNat_natCast, hat, hset, byteD, and_false, if_false] <;> rfl)) ?_
    refine Head.v hF rfl rfl rfl (opV_load rfl rfl (by simp (disch := omega) only [go_sem, Nat.reduceEqDiff, iteP, byteD, clmD, pureRow_map, ressL, sumD, hcR, Int.toNat_natCast, hat, hset, byteD, and_false, if_false] <;> rfl)) ?_
    refine Head.v hF rfl rfl rfl (opV_indexAddr rfl rfl rfl (by simp (disch := omega) only [go_sem, Nat.reduceEqDiff, iteP, byteD, clmD, pureRow_map, ressL, sumD, hcR, Int.toNat_natCast, hat, hset, byteD, and_false, if_false] <;> rfl)) ?_
    refine Head.v hF rfl rfl rfl (opV_load rfl rfl (by simp (disch := omega) only [go_sem, Nat.reduceEqDiff, iteP, byteD, clmD, pureRow_map, ressL, sumD, hcR, Int.toNat_natCast, hat, hset, byteD, and_false, if_false] <;> rfl)) ?_
    refine Head.v hF rfl rfl rfl (opV_conv rfl rfl (conv_i8u8 _)) ?_
    refine Head.v hF rfl rfl rfl (opV_bin rfl rfl rfl ((rb_xor _ _ _ _ _ _ _).trans (congrArg (fun x => some (Value.int .u8 x)) hx))) ?_
    refine Head.v hF rfl rfl rfl (opV_fieldAddr rfl rfl (by simp (disch := omega) only [go_sem, Nat.reduceEqDiff, iteP, byteD, clmD, pureRow_map, ressL, sumD, hcR, Int.toNat_natCast, hat, hset, byteD, and_false, if_false] <;> rfl)) ?_
    refine Head.v hF rfl rfl rfl (opV_indexAddr rfl rfl rfl (by simp (disch := omega) only [go_sem, Nat.reduceEqDiff, iteP, byteD, clmD, pureRow_map, ressL, sumD, hcR, Int.toNat_natCast, hat, hset, byteD, and_false, if_false] <;> rfl)) ?_
    refine Head.last ⟨rfl, ?_⟩
    simp only [List.drop_succ_cons, List.drop_zero, List.drop_nil, List.nil_append, List.cons_append]
    refine SmG.store hF rfl rfl rfl rfl rfl (by simp (disch := omega) only [go_sem, Nat.reduceEqDiff, iteP, byteD, clmD, pureRow_map, ressL, sumD, hcR, Int.toNat_natCast, hat, hset, byteD, and_false, if_false] <;> rfl) ?_
    refine SmG.nil ?_
    refine blockS_normal ?_
    refine nextS_normal ?_
    exact ⟨⟨⟨w0, 2, 2 + v.length, v, R.set j x⟩, ⟨by rw [List.length_set]; exact hRl, by show v.length ≤ _; omega, by show 2 + (v.length : Int) ≤ _; omega⟩⟩, St.le_of ⟨rfl, rfl, trivial⟩ ⟨rfl, trivial⟩ (Nat.le_of_ble_eq_true rfl)⟩
  · by_cases hv : 0 < v.length
    · obtain ⟨j, hj, hj2⟩ : ∃ j : Nat, (y0.toNat : Int) % (v.length : Int) = j ∧ j < v.length := ⟨y0.toNat % v.length, by simp, Nat.mod_lt _ hv⟩
      have hrow : (v.map Res.row)[j]? = some v[j].row := by simp [hj2]
      have hlen : (v.map Res.row).length = v.length := List.length_map ..
      have hset : (List.map (fun r => List.map V.d r) (List.map Res.row v)).set j [V.d (.v (.int .i64 (1 + (y1.toNat : Int) % 3))), V.d (.v (.int .i64 w2))] = List.map (fun r => List.map V.d r) (List.map Res.row (v.set j ⟨1 + (y1.toNat : Int) % 3, w2⟩)) := by simp [List.map_set, Res.row]
      refine Sm.block ?_
      refine Sm.seq ?_
      refine Sm.regionG hF rfl ?_
      refine SmG.v hF rfl rfl rfl (opV_bin rfl rfl rfl (by first | exact rd_eqlT _ _ _ _ _ (by omega) | exact rd_eqlF _ _ _ _ _ (by omega) | exact rb_eql _ _ _ _ _ _ _)) ?_
      refine SmG.v hF rfl rfl rfl (opV_assign rfl rfl) ?_
      refine SmG.nil ?_
      refine nextS_normal ?_
      refine Sm.condF hF rfl ?_
      refine Sm.seq ?_
      refine Sm.regionG hF rfl ?_
      refine SmG.v hF rfl rfl rfl (opV_bin rfl rfl rfl (by first | exact rd_eqlT _ _ _ _ _ (by omega) | exact rd_eqlF _ _ _ _ _ (by omega) | exact rb_eql _ _ _ _ _ _ _)) ?_
      refine SmG.v hF rfl rfl rfl (opV_assign rfl rfl) ?_
      refine SmG.nil ?_
      refine nextS_normal ?_
      refine Sm.condF hF rfl ?_
      refine Sm.seq ?_
      refine Sm.regionG hF rfl ?_
      refine SmG.v hF rfl rfl rfl (opV_bin rfl rfl rfl (by first | exact rd_eqlT _ _ _ _ _ (by omega) | exact rd_eqlF _ _ _ _ _ (by omega) | exact rb_eql _ _ _ _ _ _ _)) ?_
      refine SmG.v hF rfl rfl rfl (opV_assign rfl rfl) ?_
      refine SmG.nil ?_
      refine nextS_normal ?_
      refine Sm.condF hF rfl ?_
      refine Sm.seq ?_
      refine Sm.regionG hF rfl ?_
      refine SmG.v hF rfl rfl rfl (opV_move rfl rfl) ?_
      refine SmG.v hF rfl rfl rfl (opV_len rfl rfl (by simp (disch := omega) only [go_sem, Nat.reduceEqDiff, iteP, byteD, clmD, pureRow_map, ressL, sumD, hcR, Int.toNat_natCast, hrow, hlen, hset, Res.row, dB] <;> rfl)) ?_
      refine SmG.v hF rfl rfl rfl (opV_bin rfl rfl rfl (by first | exact rd_gtrT _ _ _ _ _ (by omega) | exact rd_gtrF _ _ _ _ _ (by omega) | exact rb_gtr _ _ _ _ _ _ _)) ?_
      refine SmG.nil ?_
      refine nextS_normal ?_
      refine Sm.condT hF rfl ?_
      refine Sm.seq ?_
      refine Sm.regionG hF rfl ?_
      refine SmG.v hF rfl rfl rfl (opV_buildSlice rfl rfl (by simp (disch := omega) only [go_sem, Nat.reduceEqDiff, iteP, byteD, clmD, pureRow_map, ressL, sumD, hcR, Int.toNat_natCast, hrow, hlen, hset, Res.row, dB] <;> rfl)) ?_
      refine SmG.v hF rfl rfl rfl (opV_move rfl rfl) ?_
      refine SmG.appendFresh hF elRes rfl rfl rfl rfl rfl rfl (Or.inl rfl) (by simp only [List.length_map]; omega) (by simp only [List.length_map]; omega) ?_
      refine SmG.v hF rfl rfl rfl (opV_fieldAddr rfl rfl (by simp (disch := omega) only [go_sem, Nat.reduceEqDiff, iteP, byteD, clmD, pureRow_map, ressL, sumD, hcR, Int.toNat_natCast, hrow, hlen, hset, Res.row, dB] <;> rfl)) ?_
      refine SmG.store hF rfl rfl rfl rfl rfl (by simp (disch := omega) only [go_sem, Nat.reduceEqDiff, iteP, byteD, clmD, pureRow_map, ressL, sumD, hcR, Int.toNat_natCast, hrow, hlen, hset, Res.row, dB] <;> rfl) ?_
      refine SmG.nil ?_
      refine nextS_normal ?_
      refine Sm.drawG hF (by kernel_rfl) rfl 18 (by kernel_rfl) (by kernel_rfl) ?_
      simp only [List.take_succ_cons, List.take_zero, List.take_nil]
      refine Head.v hF rfl rfl rfl (opV_fieldAddr rfl rfl (by simp (disch := omega) only [go_sem, Nat.reduceEqDiff, iteP, byteD, clmD, pureRow_map, ressL, sumD, hcR, Int.toNat_natCast, hrow, hlen, hset, Res.row, dB] <;> rfl)) ?_
      refine Head.v hF rfl rfl rfl (opV_load rfl rfl (by simp (disch := omega) only [go_sem, Nat.reduceEqDiff, iteP, byteD, clmD, pureRow_map, ressL, sumD, hcR, Int.toNat_natCast, hrow, hlen, hset, Res.row, dB] <;> rfl)) ?_
      refine Head.v hF rfl rfl rfl (opV_indexAddr rfl rfl rfl (by simp (disch := omega) only [go_sem, Nat.reduceEqDiff, iteP, byteD, clmD, pureRow_map, ressL, sumD, hcR, Int.toNat_natCast, hrow, hlen, hset, Res.row, dB] <;> rfl)) ?_
      refine Head.v hF rfl rfl rfl (opV_load rfl rfl (by simp (disch := omega) only [go_sem, Nat.reduceEqDiff, iteP, byteD, clmD, pureRow_map, ressL, sumD, hcR, Int.toNat_natCast, hrow, hlen, hset, Res.row, dB] <;> rfl)) ?_
      refine Head.v hF rfl rfl rfl (opV_conv rfl rfl (by first | exact convS_int rfl rfl (wrapI64 _ (by omega)) | (simp (disch := omega) only [go_sem, byteD, clmD, pureRow_map, ressL, sumD, hcR, Int.toNat_natCast, hrow, hlen, hset, Res.row, dB] <;> rfl))) ?_
      refine Head.v hF rfl rfl rfl (opV_move rfl rfl) ?_
      refine Head.v hF rfl rfl rfl (opV_len rfl rfl (by simp (disch := omega) only [go_sem, Nat.reduceEqDiff, iteP, byteD, clmD, pureRow_map, ressL, sumD, hcR, Int.toNat_natCast, hrow, hlen, hset, Res.row, dB] <;> rfl)) ?_
      refine Head.v hF rfl rfl rfl (opV_bin rfl rfl rfl ((rd_rem _ _ _ _ _ (by omega) (by omega)).trans (congrArg (fun x => some (Value.int .i64 x)) hj))) ?_
      refine Head.v hF rfl rfl rfl (opV_indexAddr rfl rfl rfl (by simp (disch := omega) only [go_sem, Nat.reduceEqDiff, iteP, byteD, clmD, pureRow_map, ressL, sumD, hcR, Int.toNat_natCast, hrow, hlen, hset, Res.row, dB] <;> rfl)) ?_
      refine Head.v hF rfl rfl rfl (opV_load rfl rfl (by simp (disch := omega) only [go_sem, Nat.reduceEqDiff, iteP, byteD, clmD, pureRow_map, ressL, sumD, hcR, Int.toNat_natCast, hrow, hlen, hset, Res.row, dB] <;> rfl)) ?_
      refine Head.v hF rfl rfl rfl (opV_bin rfl rfl rfl (by first | exact rd_rem _ _ _ _ _ (by omega) (by omega) | exact rb_rem _ _ _ _ _ _ _ (by omega))) ?_
      refine Head.v hF rfl rfl rfl (opV_conv rfl rfl (by first | exact convS_int rfl rfl (wrapI64 _ (by omega)) | (simp (disch := omega) only [go_sem, byteD, clmD, pureRow_map, ressL, sumD, hcR, Int.toNat_natCast, hrow, hlen, hset, Res.row, dB] <;> rfl))) ?_
      refine Head.v hF rfl rfl rfl (opV_bin rfl rfl rfl (by first | exact rd_add _ _ _ _ _ (wrapI64 _ (by omega)) | exact rb_add _ _ _ _ _ _ _)) ?_
      refine Head.v hF rfl rfl rfl (opV_indexAddr rfl rfl rfl (by simp (disch := omega) only [go_sem, Nat.reduceEqDiff, iteP, byteD, clmD, pureRow_map, ressL, sumD, hcR, Int.toNat_natCast, hrow, hlen, hset, Res.row, dB] <;> rfl)) ?_
      refine Head.v hF rfl rfl rfl (opV_load rfl rfl (by simp (disch := omega) only [go_sem, Nat.reduceEqDiff, iteP, byteD, clmD, pureRow_map, ressL, sumD, hcR, Int.toNat_natCast, hrow, hlen, hset, Res.row, dB] <;> rfl)) ?_
      refine Head.v hF rfl rfl rfl (opV_conv rfl rfl (convS_int rfl rfl (wrapI64 _ (by omega)))) ?_
      refine Head.v hF rfl rfl rfl (opV_buildT rfl Tryd.underlying34 (by kernel_rfl) rfl (by simp (disch := omega) only [go_sem, Nat.reduceEqDiff, iteP, byteD, clmD, pureRow_map, ressL, sumD, hcR, Int.toNat_natCast, hrow, hlen, hset, Res.row, dB] <;> rfl)) ?_
      refine Head.v hF rfl rfl rfl (opV_indexAddr rfl rfl rfl (by simp (disch := omega) only [go_sem, Nat.reduceEqDiff, iteP, byteD, clmD, pureRow_map, ressL, sumD, hcR, Int.toNat_natCast, hrow, hlen, hset, Res.row, dB] <;> rfl)) ?_
      refine Head.last ⟨rfl, ?_⟩
      simp only [List.drop_succ_cons, List.drop_zero, List.drop_nil, List.nil_append, List.cons_append]
      refine SmG.store hF rfl rfl rfl rfl rfl (by simp (disch := omega) only [go_sem, Nat.reduceEqDiff, iteP, byteD, clmD, pureRow_map, ressL, sumD, hcR, Int.toNat_natCast, hrow, hlen, hset, Res.row, dB] <;> rfl) (SmG.freezeH (l := 4) (sz := 2) ((v.set j ⟨1 + (y1.toNat : Int) % 3, w2⟩).map Res.row) rfl ?_)
      refine SmG.nil ?_
      refine blockS_normal ?_
      refine nextS_normal ?_
      have hfr : List.map (frzV 4 2 ((v.set j ⟨1 + (y1.toNat : Int) % 3, w2⟩).map Res.row)) (V.d (.v (.int .i64 w0)) :: V.d (.v (.int .i64 2)) :: V.d (.v (.int .i64 (2 + v.length))) :: V.sref 4 0 v.length :: List.map V.d (rowS R)) = List.map V.d (Clm.row ⟨w0, 2, 2 + v.length, v.set j ⟨1 + (y1.toNat : Int) % 3, w2⟩, R⟩) := by
        simp [frzV, Clm.row, ressL, List.map_set]
      exact ⟨⟨⟨w0, 2, 2 + v.length, v.set j ⟨1 + (y1.toNat : Int) % 3, w2⟩, R⟩, ⟨hRl, by show (v.set _ _).length ≤ _; rw [List.length_set]; omega, by show 2 + (v.length : Int) ≤ _; omega⟩⟩, St.le_of ⟨rfl, rfl, trivial⟩ ⟨congrArg (fun r => some (Blk.mk 36 [r])) hfr, trivial⟩ (Nat.le_of_ble_eq_true rfl)⟩
    · refine Sm.block ?_
      refine Sm.seq ?_
      refine Sm.regionG hF rfl ?_
      refine SmG.v hF rfl rfl rfl (opV_bin rfl rfl rfl (by first | exact rd_eqlT _ _ _ _ _ (by omega) | exact rd_eqlF _ _ _ _ _ (by omega) | exact rb_eql _ _ _ _ _ _ _)) ?_
      refine SmG.v hF rfl rfl rfl (opV_assign rfl rfl) ?_
      refine SmG.nil ?_
      refine nextS_normal ?_
      refine Sm.condF hF rfl ?_
      refine Sm.seq ?_
      refine Sm.regionG hF rfl ?_
      refine SmG.v hF rfl rfl rfl (opV_bin rfl rfl rfl (by first | exact rd_eqlT _ _ _ _ _ (by omega) | exact rd_eqlF _ _ _ _ _ (by omega) | exact rb_eql _ _ _ _ _ _ _)) ?_
      refine SmG.v hF rfl rfl rfl (opV_assign rfl rfl) ?_
      refine SmG.nil ?_
      refine nextS_normal ?_
      refine Sm.condF hF rfl ?_
      refine Sm.seq ?_
      refine Sm.regionG hF rfl ?_
      refine SmG.v hF rfl rfl rfl (opV_bin rfl rfl rfl (by first | exact rd_eqlT _ _ _ _ _ (by omega) | exact rd_eqlF _ _ _ _ _ (by omega) | exact rb_eql _ _ _ _ _ _ _)) ?_
      refine SmG.v hF rfl rfl rfl (opV_assign rfl rfl) ?_
      refine SmG.nil ?_
      refine nextS_normal ?_
      refine Sm.condF hF rfl ?_
      refine Sm.seq ?_
      refine Sm.regionG hF rfl ?_
      refine SmG.v hF rfl rfl rfl (opV_move rfl rfl) ?_
      refine SmG.v hF rfl rfl rfl (opV_len rfl rfl (by simp (disch := omega) only [go_sem, Nat.reduceEqDiff, iteP, byteD, clmD, pureRow_map, ressL, sumD, hcR] <;> rfl)) ?_
      refine SmG.v hF rfl rfl rfl (opV_bin rfl rfl rfl (by first | exact rd_gtrT _ _ _ _ _ (by omega) | exact rd_gtrF _ _ _ _ _ (by omega) | exact rb_gtr _ _ _ _ _ _ _)) ?_
      refine SmG.nil ?_
      refine nextS_normal ?_
      refine Sm.condF hF rfl ?_
      refine Sm.skip ?_
      refine blockS_normal ?_
      refine nextS_normal ?_
      exact ⟨⟨⟨w0, 2, 2 + v.length, v, R⟩, ⟨hRl, by show v.length ≤ _; omega, by show 2 + (v.length : Int) ≤ _; omega⟩⟩, St.le_of ⟨rfl, rfl, trivial⟩ ⟨rfl, trivial⟩ (Nat.le_of_ble_eq_true rfl)⟩
end Go.Proofs.YtagfaaijgfigkaaDoor
