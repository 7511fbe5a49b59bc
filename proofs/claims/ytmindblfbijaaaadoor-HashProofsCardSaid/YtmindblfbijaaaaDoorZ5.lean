/-
  Lemmas, part 5 of 6: walks through the program's functions, and plain Lean about what they compute.
-/
import Derived.Test.YtmindblfbijaaaaDoorZ1
import Derived.Test.YtmindblfbijaaaaDoorZ2
import Derived.Test.YtmindblfbijaaaaDoorZ3
import Derived.Test.YtmindblfbijaaaaDoorZ4
set_option linter.unnecessarySimpa false
set_option linter.unusedSimpArgs false
set_option linter.unusedVariables false
namespace Go.Proofs.YtmindblfbijaaaaDoor
open Go.RowKit
set_option maxRecDepth 100000
theorem proof_low {l : List (List UInt8)} {i : Nat} (h : 2 ≤ l.length) (hi : i < Sha.cut l.length) : Sha.proof l i = Sha.proof (l.take (Sha.cut l.length)) i ++ [Sha.root (l.drop (Sha.cut l.length))] := by
  unfold Sha.proof; rw [Sha.path_low h hi, List.reverse_cons]
theorem proof_high {l : List (List UInt8)} {i : Nat} (h : 2 ≤ l.length) (hi : Sha.cut l.length ≤ i) : Sha.proof l i = Sha.proof (l.drop (Sha.cut l.length)) (i - Sha.cut l.length) ++ [Sha.root (l.take (Sha.cut l.length))] := by
  unfold Sha.proof; rw [Sha.path_high h hi, List.reverse_cons]
theorem fit_take {l : List (List UInt8)} (h : Fit l) (m : Nat) : Fit (l.take m) := ⟨by have := h.1; rw [List.length_take]; omega, fun x hx => h.2 x (List.mem_of_mem_take hx)⟩
theorem fit_drop {l : List (List UInt8)} (h : Fit l) (m : Nat) : Fit (l.drop m) := ⟨by have := h.1; rw [List.length_drop]; omega, fun x hx => h.2 x (List.mem_of_mem_drop hx)⟩
theorem eq_self {s : List UInt8} (h : s.length = 32) : eqAgg Tryd.prog 28 (.d (.agg 32 (rowS s))) (.d (.agg 32 (rowS s))) = some true := by rw [eq_sum h h]; simp
theorem same_self (p : List (List UInt8)) (hp : Len32' p) (h : p.length ≤ 9223372036854775807) : CallsD Tryd.prog HG 22 [sumsL p, sumsL p] (.v (.bool true)) := by
  have := same_D p p hp hp h h
  simpa using this
theorem sumNil_D : CallsD Tryd.prog HG 12 [.list 0 [] true] (sumD (Sha.sum [])) := (sum_D [] (by simp)).args fun _ => outs_le nil_bytes (outs_same [])
theorem one_row (p : List (List UInt8)) (s : List UInt8) : List.map rowS p ++ [rowS s] = List.map rowS (p ++ [s]) := by simp
theorem lt_two (a b : List UInt8) (k : Blk) : ltH 2 [(2, k), (1, dB 32 [rowS b]), (0, dB 32 [rowS a])] := ltH_over (ltH_cons (ltH_cons (ltH_nil _) (lt_dB _ 32 [rowS a])) (lt_dB _ 32 [rowS b])) (by omega)

theorem parts_D (xs : List (List UInt8)) (hx : xs.length ≤ 9223372036854775807) : CallsD Tryd.prog HG 6 [elemsL xs] (.v (.bool true)) := by
  obtain ⟨hF', hl⟩ := fit_elems xs
  by_cases h2 : 2 ≤ (elems xs).length
  · refine CallsD.of Tryd.func6 rfl Tryd.ntmps6 (by simp) ?_; intro F hF; simp only [List.zipIdx_cons, List.zipIdx_nil, List.map_cons, List.map_nil, Nat.zero_add, Nat.reduceAdd]
    refine Sm.seq ?_
    refine Sm.regionG hF rfl ?_
    refine SmG.v hF rfl rfl rfl (opV_assign rfl rfl) ?_
    refine SmG.nil ?_
    refine nextS_normal ?_
    refine Sm.seq ?_
    refine Sm.regionG hF rfl ?_
    refine SmG.call hF rfl rfl (by kernel_rfl) rfl rfl rfl (sanity_D) ?_
    refine SmG.v hF rfl rfl rfl (opV_assign rfl rfl) ?_
    refine SmG.nil ?_
    refine nextS_normal ?_
    refine Sm.seq ?_
    refine Sm.regionG hF rfl ?_
    refine SmG.v hF rfl rfl rfl (opV_move rfl rfl) ?_
    refine SmG.call hF rfl rfl (by kernel_rfl) rfl rfl rfl (elements_D xs hx) ?_
    refine SmG.v hF rfl rfl rfl (opV_assign rfl rfl) ?_
    refine SmG.nil ?_
    refine nextS_normal ?_
    refine Sm.seq ?_
    refine Sm.seq ?_
    refine Sm.regionG hF rfl ?_
    refine SmG.v hF rfl rfl rfl (opV_move rfl rfl) ?_
    refine SmG.v hF rfl rfl rfl (opV_len rfl rfl (by simp (disch := omega) only [go_sem, Nat.reduceEqDiff, iteP, elemsL] <;> rfl)) ?_
    refine SmG.v hF rfl rfl rfl (opV_bin rfl rfl rfl (by first | exact rd_lssT _ _ _ _ _ (by omega) | exact rd_lssF _ _ _ _ _ (by omega) | exact rb_lss _ _ _ _ _ _ _)) ?_
    refine SmG.nil ?_
    refine nextS_normal ?_
    generalize elems xs = l at hF' hl h2 ⊢
    have hm1 := Sha.cut_lt h2
    have hm2 := Sha.cut_ge h2
    have hmp := Sha.cut_pos l.length
    have k0 := cut_D l.length h2 (by omega) HG
    have k1 := root_D _ (fit_take hF' (Sha.cut l.length))
    have k2 := root_D _ (fit_drop hF' (Sha.cut l.length))
    have k3 := root_D l hF'
    rw [Sha.root_cut h2] at k3
    have k4 := pair_D _ _ (Sha.root_len (l.take (Sha.cut l.length))) (Sha.root_len (l.drop (Sha.cut l.length)))
    have plow : ∀ i, i < Sha.cut l.length → _ := fun i => proof_low (i := i) h2
    have phigh : ∀ i, Sha.cut l.length ≤ i → _ := fun i => proof_high (i := i) h2
    have hA := Sha.root_len (l.take (Sha.cut l.length))
    have hB := Sha.root_len (l.drop (Sha.cut l.length))
    have hab := eq_self (Sha.pair_len (Sha.root (l.take (Sha.cut l.length))) (Sha.root (l.drop (Sha.cut l.length))))
    generalize Sha.root (l.take (Sha.cut l.length)) = A at k1 k2 k3 k4 plow phigh hA hB hab
    generalize Sha.root (l.drop (Sha.cut l.length)) = B at k1 k2 k3 k4 plow phigh hA hB hab
    generalize Sha.cut l.length = m at hm1 hm2 hmp k0 k1 k2 k3 k4 plow phigh
    have hml : m ≤ l.length := by omega

    refine Sm.condF hF rfl ?_
    refine Sm.skip ?_
    refine nextS_normal ?_
    refine Sm.seq ?_
    refine Sm.regionG hF rfl ?_
    refine SmG.v hF rfl rfl rfl (opV_move rfl rfl) ?_
    refine SmG.v hF rfl rfl rfl (opV_len rfl rfl (by simp (disch := omega) only [go_sem, Nat.reduceEqDiff, iteP, elemsL, sumD, sumD_length, hA, hB, hab, hml, Nat.zero_le, take_map', drop_map'] <;> rfl)) ?_
    refine SmG.call hF rfl rfl (by kernel_rfl) rfl rfl rfl (k0) ?_
    refine SmG.v hF rfl rfl rfl (opV_assign rfl rfl) ?_
    refine SmG.nil ?_
    refine nextS_normal ?_
    refine Sm.seq ?_
    refine Sm.regionG hF rfl ?_
    refine SmG.v hF rfl rfl rfl (opV_move rfl rfl) ?_
    refine SmG.v hF rfl rfl rfl (opV_move rfl rfl) ?_
    refine SmG.v hF rfl rfl rfl (opV_slice rfl rfl rfl rfl rfl (by simp (disch := omega) only [go_sem, Nat.reduceEqDiff, iteP, elemsL, sumD, sumD_length, hA, hB, hab, hml, Nat.zero_le, take_map', drop_map'] <;> rfl)) ?_
    refine SmG.call hF rfl rfl (by kernel_rfl) rfl rfl rfl (k1) ?_
    refine SmG.new hF rfl rfl rfl (opS_alloc rfl al28) ?_
    refine SmG.store hF rfl rfl rfl rfl rfl (by simp (disch := omega) only [go_sem, Nat.reduceEqDiff, iteP, elemsL, sumD, sumD_length, hA, hB, hab, hml, Nat.zero_le, take_map', drop_map'] <;> rfl) ?_
    refine SmG.nil ?_
    refine nextS_normal ?_
    refine Sm.seq ?_
    refine Sm.regionG hF rfl ?_
    refine SmG.v hF rfl rfl rfl (opV_move rfl rfl) ?_
    refine SmG.v hF rfl rfl rfl (opV_move rfl rfl) ?_
    refine SmG.v hF rfl rfl rfl (opV_slice rfl rfl rfl rfl rfl (by simp (disch := omega) only [go_sem, Nat.reduceEqDiff, iteP, elemsL, sumD, sumD_length, hA, hB, hab, hml, Nat.zero_le, take_map', drop_map'] <;> rfl)) ?_
    refine SmG.call hF rfl rfl (by kernel_rfl) rfl rfl rfl (k2) ?_
    refine SmG.new hF rfl rfl rfl (opS_alloc rfl al28) ?_
    refine SmG.store hF rfl rfl rfl rfl rfl (by simp (disch := omega) only [go_sem, Nat.reduceEqDiff, iteP, elemsL, sumD, sumD_length, hA, hB, hab, hml, Nat.zero_le, take_map', drop_map'] <;> rfl) ?_
    refine SmG.nil ?_
    refine nextS_normal ?_
    refine Sm.seq ?_
    refine Sm.seq ?_
    refine Sm.drawG hF (by kernel_rfl) rfl 19 (by kernel_rfl) (by kernel_rfl) ?_
    simp only [List.take_succ_cons, List.take_zero, List.take_nil]
    refine Head.v hF rfl rfl rfl (opV_move rfl rfl) ?_
    refine Head.v hF rfl rfl rfl (opV_move rfl rfl) ?_
    refine Head.v hF rfl rfl rfl (opV_len rfl rfl (by simp (disch := omega) only [go_sem, Nat.reduceEqDiff, iteP, elemsL, sumD, sumD_length, hA, hB, hab, hml, Nat.zero_le, take_map', drop_map'] <;> rfl)) ?_
    refine Head.v hF rfl rfl rfl (opV_bin rfl rfl rfl (by first | exact rd_geqT _ _ _ _ _ (by omega) | exact rd_geqF _ _ _ _ _ (by omega) | exact rb_geq _ _ _ _ _ _ _)) ?_
    refine Head.v hF rfl rfl rfl (opV_move rfl rfl) ?_
    first | refine Head.v hF rfl rfl rfl (opV_move rfl rfl) ?_ | refine Head.p hF rfl rfl rfl ?_
    first | refine Head.v hF rfl rfl rfl (opV_bin rfl rfl rfl (by first | exact rd_mul _ _ _ _ _ (wrapI64 _ (by omega)) | exact rb_mul _ _ _ _ _ _ _)) ?_ | refine Head.p hF rfl rfl rfl ?_
    first | refine Head.v hF rfl rfl rfl (opV_move rfl rfl) ?_ | refine Head.p hF rfl rfl rfl ?_
    first | refine Head.v hF rfl rfl rfl (opV_len rfl rfl (by simp (disch := omega) only [go_sem, Nat.reduceEqDiff, iteP, elemsL, sumD, sumD_length, hA, hB, hab, hml, Nat.zero_le, take_map', drop_map'] <;> rfl)) ?_ | refine Head.p hF rfl rfl rfl ?_
    first | refine Head.v hF rfl rfl rfl (opV_bin rfl rfl rfl (by first | exact rd_lssT _ _ _ _ _ (by omega) | exact rd_lssF _ _ _ _ _ (by omega) | exact rb_lss _ _ _ _ _ _ _)) ?_ | refine Head.p hF rfl rfl rfl ?_
    first | refine Head.v hF rfl rfl rfl (opV_pickT rfl rfl rfl) ?_ | refine Head.v hF rfl rfl rfl (opV_pickF rfl rfl rfl) ?_
    refine Head.v hF rfl rfl rfl (opV_move rfl rfl) ?_
    first | refine Head.v hF rfl rfl rfl (opV_move rfl rfl) ?_ | refine Head.p hF rfl rfl rfl ?_
    first | refine Head.c hF rfl rfl (by kernel_rfl) rfl rfl rfl (k3) ?_ | refine Head.p hF rfl rfl rfl ?_
    first | refine Head.v hF rfl rfl rfl (opV_load rfl rfl (by simp (disch := omega) only [go_sem, Nat.reduceEqDiff, iteP, elemsL, sumD, sumD_length, hA, hB, hab, hml, Nat.zero_le, take_map', drop_map'] <;> rfl)) ?_ | refine Head.p hF rfl rfl rfl ?_
    first | refine Head.v hF rfl rfl rfl (opV_load rfl rfl (by simp (disch := omega) only [go_sem, Nat.reduceEqDiff, iteP, elemsL, sumD, sumD_length, hA, hB, hab, hml, Nat.zero_le, take_map', drop_map'] <;> rfl)) ?_ | refine Head.p hF rfl rfl rfl ?_
    first | refine Head.c hF rfl rfl (by kernel_rfl) rfl rfl rfl (k4) ?_ | refine Head.p hF rfl rfl rfl ?_
    first | refine Head.v hF rfl rfl rfl (opV_neA rfl rfl rfl (by simp (disch := omega) only [go_sem, Nat.reduceEqDiff, iteP, elemsL, sumD, sumD_length, hA, hB, hab, hml, Nat.zero_le, take_map', drop_map'] <;> rfl)) ?_ | refine Head.p hF rfl rfl rfl ?_
    first | refine Head.v hF rfl rfl rfl (opV_pickT rfl rfl rfl) ?_ | refine Head.v hF rfl rfl rfl (opV_pickF rfl rfl rfl) ?_
    refine Head.last ⟨rfl, ?_⟩
    simp only [List.drop_succ_cons, List.drop_zero, List.drop_nil, List.nil_append, List.cons_append]
    refine SmG.nil ?_
    refine nextS_normal ?_
    refine Sm.condF hF rfl ?_
    refine Sm.skip ?_
    refine nextS_normal ?_
    refine Sm.seq ?_
    refine Sm.seq ?_
    refine Sm.regionG hF rfl ?_
    refine SmG.v hF rfl rfl rfl (opV_assign rfl rfl) ?_
    refine SmG.nil ?_
    refine nextS_normal ?_
    refine Sm.block ?_
    refine Sm.loop (ι := {k : Nat // k ≤ l.length}) (fun k => ⟨[(3, .d (.v (.bool true))), (4, .d (elemsL l)), (7, .d (.v (.int .i64 m))), (8, .ref 0 0 0), (9, .ref 1 0 0), (10, .d (.v (.int .i64 k.1)))], [(1, dB 32 [rowS B]), (0, dB 32 [rowS A])], 2⟩) (fun k => l.length - k.1) (⟨0, by omega⟩) ?_ ?_
    · exact St.le_of (by simp [leE, look, constD]) (by simp [leH, look, rep]) (by first | exact Nat.le_refl _ | (dsimp only; omega))
    rintro ⟨k, hk⟩
    simp only

    by_cases hlt : k < l.length
    · have c0 := proof_D l k hF' hlt
      by_cases hkm : k < m
      · have c1 := proof_D (l.take m) k (fit_take hF' m) (by rw [List.length_take]; omega)
        rw [plow k hkm] at c0
        have hp := proof_len32' (l.take m) k
        have hpl := proof_le (l.take m) k
        generalize Sha.proof (l.take m) k = p at c0 c1 hp hpl
        have hpl9 : p.length ≤ 9 := by rw [List.length_take] at hpl; omega
        have hpb : Len32' (p ++ [B]) := by
          intro s hs; rcases List.mem_append.1 hs with h | h
          · exact hp s h
          · simp at h; rw [h]; exact hB
        have c3 := same_self (p ++ [B]) hpb (by simp; omega)

        refine Sm.seq ?_
        refine Sm.seq ?_
        refine Sm.regionG hF rfl ?_
        refine SmG.v hF rfl rfl rfl (opV_move rfl rfl) ?_
        refine SmG.v hF rfl rfl rfl (opV_move rfl rfl) ?_
        refine SmG.v hF rfl rfl rfl (opV_len rfl rfl (by simp (disch := omega) only [go_sem, Nat.reduceEqDiff, iteP, elemsL, sumsL, sumD, sumD_length, hA, hB, hml, Nat.zero_le, take_map', drop_map'] <;> rfl)) ?_
        refine SmG.v hF rfl rfl rfl (opV_bin rfl rfl rfl (by first | exact rd_lssT _ _ _ _ _ (by omega) | exact rd_lssF _ _ _ _ _ (by omega) | exact rb_lss _ _ _ _ _ _ _)) ?_
        refine SmG.nil ?_
        refine nextS_normal ?_
        refine Sm.condT hF rfl ?_
        refine Sm.skip ?_
        refine nextS_normal ?_
        refine Sm.seq ?_
        refine Sm.block ?_
        refine Sm.seq ?_
        refine Sm.regionG hF rfl ?_
        refine SmG.v hF rfl rfl rfl (opV_move rfl rfl) ?_
        refine SmG.v hF rfl rfl rfl (opV_move rfl rfl) ?_
        refine SmG.call hF rfl rfl (by kernel_rfl) rfl rfl rfl (c0) ?_
        refine SmG.v hF rfl rfl rfl (opV_move rfl rfl) ?_
        refine SmG.v hF rfl rfl rfl (by first | exact opV_extract rfl rfl rfl | exact opV_extract0 rfl rfl) ?_
        refine SmG.v hF rfl rfl rfl (by first | exact opV_extract rfl rfl rfl | exact opV_extractS rfl rfl rfl) ?_
        refine SmG.v hF rfl rfl rfl (opV_assign rfl rfl) ?_
        refine SmG.v hF rfl rfl rfl (opV_assign rfl rfl) ?_
        refine SmG.nil ?_
        refine nextS_normal ?_
        refine Sm.seq ?_
        refine Sm.regionG hF rfl ?_
        refine SmG.v hF rfl rfl rfl (opV_move rfl rfl) ?_
        refine SmG.v hF rfl rfl rfl (opV_move rfl rfl) ?_
        refine SmG.v hF rfl rfl rfl (opV_slice rfl rfl rfl rfl rfl (by simp (disch := omega) only [go_sem, Nat.reduceEqDiff, iteP, elemsL, sumsL, sumD, sumD_length, hA, hB, hml, Nat.zero_le, take_map', drop_map'] <;> rfl)) ?_
        refine SmG.v hF rfl rfl rfl (opV_move rfl rfl) ?_
        refine SmG.call hF rfl rfl (by kernel_rfl) rfl rfl rfl (c1) ?_
        refine SmG.v hF rfl rfl rfl (opV_move rfl rfl) ?_
        refine SmG.v hF rfl rfl rfl (by first | exact opV_extract rfl rfl rfl | exact opV_extract0 rfl rfl) ?_
        refine SmG.v hF rfl rfl rfl (by first | exact opV_extract rfl rfl rfl | exact opV_extractS rfl rfl rfl) ?_
        refine SmG.v hF rfl rfl rfl (opV_assign rfl rfl) ?_
        refine SmG.v hF rfl rfl rfl (opV_assign rfl rfl) ?_
        refine SmG.nil ?_
        refine nextS_normal ?_
        refine Sm.seq ?_
        refine Sm.regionG hF rfl ?_
        refine SmG.v hF rfl rfl rfl (opV_load rfl rfl (by simp (disch := omega) only [go_sem, Nat.reduceEqDiff, iteP, elemsL, sumsL, sumD, sumD_length, hA, hB, hml, Nat.zero_le, take_map', drop_map'] <;> rfl)) ?_
        refine SmG.new hF rfl rfl rfl (opS_alloc rfl al28) ?_
        refine SmG.store hF rfl rfl rfl rfl rfl (by simp (disch := omega) only [go_sem, Nat.reduceEqDiff, iteP, elemsL, sumsL, sumD, sumD_length, hA, hB, hml, Nat.zero_le, take_map', drop_map'] <;> rfl) ?_
        refine SmG.nil ?_
        refine nextS_normal ?_
        refine Sm.seq ?_
        refine Sm.seq ?_
        refine Sm.regionG hF rfl ?_
        refine SmG.v hF rfl rfl rfl (opV_move rfl rfl) ?_
        refine SmG.v hF rfl rfl rfl (opV_move rfl rfl) ?_
        refine SmG.v hF rfl rfl rfl (opV_bin rfl rfl rfl (by first | exact rd_geqT _ _ _ _ _ (by omega) | exact rd_geqF _ _ _ _ _ (by omega) | exact rb_geq _ _ _ _ _ _ _)) ?_
        refine SmG.nil ?_
        refine nextS_normal ?_
        refine Sm.condF hF rfl ?_
        refine Sm.skip ?_
        refine nextS_normal ?_
        refine Sm.seq ?_
        refine Sm.regionG hF rfl ?_
        refine SmG.v hF rfl rfl rfl (opV_buildSlice rfl rfl (by simp (disch := omega) only [go_sem, Nat.reduceEqDiff, iteP, elemsL, sumsL, sumD, sumD_length, hA, hB, hml, Nat.zero_le, take_map', drop_map'] <;> rfl)) ?_
        refine SmG.v hF rfl rfl rfl (opV_move rfl rfl) ?_
        -- stands at 124 of region 22: {"dst": 124, "op": "call", "a": [{"callee": ["builtin", "Callee.builtin Builtin.append"], "args": [["tmp", 122], ["tmp", 123]], "types": [32, 32]}], "
        refine SmG.appendFresh hF elSum rfl rfl rfl rfl rfl rfl (Or.inl rfl) (by simp only [List.length_map]; omega) (by simp only [List.length_map]; omega) ?_
        refine SmG.v hF rfl rfl rfl (opV_assign rfl rfl) ?_
        refine SmG.nil ?_
        refine nextS_normal ?_
        refine Sm.seq ?_
        refine Sm.regionG hF rfl ?_
        refine SmG.v hF rfl rfl rfl (opV_move rfl rfl) ?_
        refine SmG.v hF rfl rfl rfl (opV_load rfl rfl (by simp (disch := omega) only [go_sem, Nat.reduceEqDiff, iteP, elemsL, sumsL, sumD, sumD_length, hA, hB, hml, Nat.zero_le, take_map', drop_map'] <;> rfl)) ?_
        refine SmG.v hF rfl rfl rfl (opV_buildSlice rfl rfl (by simp (disch := omega) only [go_sem, Nat.reduceEqDiff, iteP, elemsL, sumsL, sumD, sumD_length, hA, hB, hml, Nat.zero_le, take_map', drop_map'] <;> rfl)) ?_
        -- stands at 128 of region 23: {"dst": 128, "op": "call", "a": [{"callee": ["builtin", "Callee.builtin Builtin.append"], "args": [["tmp", 125], ["tmp", 127]], "types": [32, 32]}], "
        refine SmG.appendOwn hF elSum rfl rfl rfl rfl rfl rfl rfl (by first | rfl | (simp; done) | (simp; omega)) (Or.inl rfl) (by (repeat' first | exact freeH_nil _ | refine freeH_same ?_ | refine freeH_cons ?_ (free_dB _ _ _) | refine freeH_cons ?_ (free_dB _ _ [_]) | refine freeH_cons ?_ (free_row (by rfl)))) ?_ ?_ ?_; rotate_left; rotate_left; simp only [killV, Pk.v, V.free, rep, bne_self_eq_false, Nat.reduceAdd, Nat.reduceBNe, Nat.reduceBEq, Nat.reduceEqDiff, reduceIte, Bool.false_eq_true]
        rotate_left
        · simp only [List.length_map, List.length_cons, List.length_nil]; omega
        · simp only [List.length_map, List.length_cons, List.length_nil]; omega
        refine SmG.freeze (l := 3) (sz := 32) (List.map rowS (p ++ [B])) (by show some (dB 32 (List.map rowS p ++ [rowS B])) = _; rw [one_row]) ?_
        simp only [Pk.v, frzE, frzV, dropH, reduceIte, Nat.reduceAdd, Nat.zero_add, List.length_map, List.length_append, Nat.le_refl, true_and, and_self, if_true, Nat.reduceEqDiff, List.length_cons, List.length_nil]
        refine SmG.cut 2 (by exact lt_two A B _) ?_; simp only [Pk.v, cutE, cutH, V.lt, Nat.reduceAdd, Nat.reduceLT, decide_true, decide_false, reduceIte, Bool.false_eq_true, Nat.lt_irrefl, Nat.not_lt_zero, Nat.zero_lt_one, Nat.zero_lt_succ, Nat.zero_lt_two, Nat.one_lt_two]
        refine SmG.v hF rfl rfl rfl (opV_assign rfl rfl) ?_
        refine SmG.nil ?_
        refine nextS_normal ?_
        refine Sm.seq ?_
        refine Sm.regionG hF rfl ?_
        refine SmG.v hF rfl rfl rfl (opV_move rfl rfl) ?_
        refine SmG.v hF rfl rfl rfl (opV_bin rfl rfl rfl (by first | exact rd_neqT _ _ _ _ _ (by omega) | exact rd_neqF _ _ _ _ _ (by omega) | exact rb_neq _ _ _ _ _ _ _)) ?_
        refine SmG.v hF rfl rfl rfl (opV_move rfl rfl) ?_
        first | refine SmG.v hF rfl rfl rfl (opV_move rfl rfl) ?_ | refine SmG.pass hF rfl rfl rfl ?_
        first | refine SmG.v hF rfl rfl rfl (opV_bin rfl rfl rfl (by first | exact rd_neqT _ _ _ _ _ (by omega) | exact rd_neqF _ _ _ _ _ (by omega) | exact rb_neq _ _ _ _ _ _ _)) ?_ | refine SmG.pass hF rfl rfl rfl ?_
        first | refine SmG.v hF rfl rfl rfl (opV_pickT rfl rfl rfl) ?_ | refine SmG.v hF rfl rfl rfl (opV_pickF rfl rfl rfl) ?_
        refine SmG.v hF rfl rfl rfl (opV_move rfl rfl) ?_
        first | refine SmG.v hF rfl rfl rfl (opV_move rfl rfl) ?_ | refine SmG.pass hF rfl rfl rfl ?_
        first | refine SmG.v hF rfl rfl rfl (opV_move rfl rfl) ?_ | refine SmG.pass hF rfl rfl rfl ?_
        first | refine SmG.call hF rfl rfl (by kernel_rfl) rfl rfl rfl (c3) ?_ | refine SmG.pass hF rfl rfl rfl ?_
        first | refine SmG.v hF rfl rfl rfl (opV_un rfl rfl (by first | exact rd_notT _ | exact rd_notF _ | exact rd_not _)) ?_ | refine SmG.pass hF rfl rfl rfl ?_
        first | refine SmG.v hF rfl rfl rfl (opV_pickT rfl rfl rfl) ?_ | refine SmG.v hF rfl rfl rfl (opV_pickF rfl rfl rfl) ?_
        refine SmG.nil ?_
        refine nextS_normal ?_
        refine Sm.condF hF rfl ?_
        refine Sm.skip ?_
        refine blockS_normal ?_
        refine nextS_normal ?_
        refine Sm.regionG hF rfl ?_
        refine SmG.v hF rfl rfl rfl (opV_move rfl rfl) ?_
        refine SmG.v hF rfl rfl rfl (opV_bin rfl rfl rfl (by first | exact rd_add _ _ _ _ _ (wrapI64 _ (by omega)) | exact rb_add _ _ _ _ _ _ _)) ?_
        refine SmG.v hF rfl rfl rfl (opV_assign rfl rfl) ?_
        refine SmG.nil ?_
        refine nextS_normal ?_
        exact ⟨⟨k + 1, by omega⟩, by show l.length - (k + 1) < l.length - k; omega, by exact St.le_of (by simp [leE, look, constD]) (by simp [leH, look, rep]) (by first | exact Nat.le_refl _ | (dsimp only; omega))⟩
      · have c1 := proofErr_D (l.take m) k (by rw [List.length_take]; omega) (by rw [List.length_take]; omega)
        have c2 := proof_D (l.drop m) (k - m) (fit_drop hF' m) (by rw [List.length_drop]; omega)
        rw [show (((k - m : Nat) : Nat) : Int) = (k : Int) - (m : Int) by omega] at c2
        rw [phigh k (by omega)] at c0
        have hp := proof_len32' (l.drop m) (k - m)
        have hpl := proof_le (l.drop m) (k - m)
        generalize Sha.proof (l.drop m) (k - m) = p at c0 c2 hp hpl
        have hpl9 : p.length ≤ 9 := by rw [List.length_drop] at hpl; omega
        have hpb : Len32' (p ++ [A]) := by
          intro s hs; rcases List.mem_append.1 hs with h | h
          · exact hp s h
          · simp at h; rw [h]; exact hA
        have c3 := same_self (p ++ [A]) hpb (by simp; omega)

        refine Sm.seq ?_
        refine Sm.seq ?_
        refine Sm.regionG hF rfl ?_
        refine SmG.v hF rfl rfl rfl (opV_move rfl rfl) ?_
        refine SmG.v hF rfl rfl rfl (opV_move rfl rfl) ?_
        refine SmG.v hF rfl rfl rfl (opV_len rfl rfl (by simp (disch := omega) only [go_sem, Nat.reduceEqDiff, iteP, elemsL, sumsL, sumD, sumD_length, hA, hB, hml, Nat.zero_le, take_map', drop_map'] <;> rfl)) ?_
        refine SmG.v hF rfl rfl rfl (opV_bin rfl rfl rfl (by first | exact rd_lssT _ _ _ _ _ (by omega) | exact rd_lssF _ _ _ _ _ (by omega) | exact rb_lss _ _ _ _ _ _ _)) ?_
        refine SmG.nil ?_
        refine nextS_normal ?_
        refine Sm.condT hF rfl ?_
        refine Sm.skip ?_
        refine nextS_normal ?_
        refine Sm.seq ?_
        refine Sm.block ?_
        refine Sm.seq ?_
        refine Sm.regionG hF rfl ?_
        refine SmG.v hF rfl rfl rfl (opV_move rfl rfl) ?_
        refine SmG.v hF rfl rfl rfl (opV_move rfl rfl) ?_
        refine SmG.call hF rfl rfl (by kernel_rfl) rfl rfl rfl (c0) ?_
        refine SmG.v hF rfl rfl rfl (opV_move rfl rfl) ?_
        refine SmG.v hF rfl rfl rfl (by first | exact opV_extract rfl rfl rfl | exact opV_extract0 rfl rfl) ?_
        refine SmG.v hF rfl rfl rfl (by first | exact opV_extract rfl rfl rfl | exact opV_extractS rfl rfl rfl) ?_
        refine SmG.v hF rfl rfl rfl (opV_assign rfl rfl) ?_
        refine SmG.v hF rfl rfl rfl (opV_assign rfl rfl) ?_
        refine SmG.nil ?_
        refine nextS_normal ?_
        refine Sm.seq ?_
        refine Sm.regionG hF rfl ?_
        refine SmG.v hF rfl rfl rfl (opV_move rfl rfl) ?_
        refine SmG.v hF rfl rfl rfl (opV_move rfl rfl) ?_
        refine SmG.v hF rfl rfl rfl (opV_slice rfl rfl rfl rfl rfl (by simp (disch := omega) only [go_sem, Nat.reduceEqDiff, iteP, elemsL, sumsL, sumD, sumD_length, hA, hB, hml, Nat.zero_le, take_map', drop_map'] <;> rfl)) ?_
        refine SmG.v hF rfl rfl rfl (opV_move rfl rfl) ?_
        refine SmG.call hF rfl rfl (by kernel_rfl) rfl rfl rfl (c1) ?_
        refine SmG.v hF rfl rfl rfl (opV_move rfl rfl) ?_
        refine SmG.v hF rfl rfl rfl (by first | exact opV_extract rfl rfl rfl | exact opV_extract0 rfl rfl) ?_
        refine SmG.v hF rfl rfl rfl (by first | exact opV_extract rfl rfl rfl | exact opV_extractS rfl rfl rfl) ?_
        refine SmG.v hF rfl rfl rfl (opV_assign rfl rfl) ?_
        refine SmG.v hF rfl rfl rfl (opV_assign rfl rfl) ?_
        refine SmG.nil ?_
        refine nextS_normal ?_
        refine Sm.seq ?_
        refine Sm.regionG hF rfl ?_
        refine SmG.v hF rfl rfl rfl (opV_load rfl rfl (by simp (disch := omega) only [go_sem, Nat.reduceEqDiff, iteP, elemsL, sumsL, sumD, sumD_length, hA, hB, hml, Nat.zero_le, take_map', drop_map'] <;> rfl)) ?_
        refine SmG.new hF rfl rfl rfl (opS_alloc rfl al28) ?_
        refine SmG.store hF rfl rfl rfl rfl rfl (by simp (disch := omega) only [go_sem, Nat.reduceEqDiff, iteP, elemsL, sumsL, sumD, sumD_length, hA, hB, hml, Nat.zero_le, take_map', drop_map'] <;> rfl) ?_
        refine SmG.nil ?_
        refine nextS_normal ?_
        refine Sm.seq ?_
        refine Sm.seq ?_
        refine Sm.regionG hF rfl ?_
        refine SmG.v hF rfl rfl rfl (opV_move rfl rfl) ?_
        refine SmG.v hF rfl rfl rfl (opV_move rfl rfl) ?_
        refine SmG.v hF rfl rfl rfl (opV_bin rfl rfl rfl (by first | exact rd_geqT _ _ _ _ _ (by omega) | exact rd_geqF _ _ _ _ _ (by omega) | exact rb_geq _ _ _ _ _ _ _)) ?_
        refine SmG.nil ?_
        refine nextS_normal ?_
        refine Sm.condT hF rfl ?_
        refine Sm.seq ?_
        refine Sm.regionG hF rfl ?_
        refine SmG.v hF rfl rfl rfl (opV_move rfl rfl) ?_
        refine SmG.v hF rfl rfl rfl (opV_move rfl rfl) ?_
        refine SmG.v hF rfl rfl rfl (opV_slice rfl rfl rfl rfl rfl (by simp (disch := omega) only [go_sem, Nat.reduceEqDiff, iteP, elemsL, sumsL, sumD, sumD_length, hA, hB, hml, Nat.zero_le, take_map', drop_map'] <;> rfl)) ?_
        refine SmG.v hF rfl rfl rfl (opV_move rfl rfl) ?_
        refine SmG.v hF rfl rfl rfl (opV_move rfl rfl) ?_
        refine SmG.v hF rfl rfl rfl (opV_bin rfl rfl rfl (by first | exact rd_sub _ _ _ _ _ (wrapI64 _ (by omega)) | exact rb_sub _ _ _ _ _ _ _)) ?_
        refine SmG.call hF rfl rfl (by kernel_rfl) rfl rfl rfl (c2) ?_
        refine SmG.v hF rfl rfl rfl (opV_move rfl rfl) ?_
        refine SmG.v hF rfl rfl rfl (by first | exact opV_extract rfl rfl rfl | exact opV_extract0 rfl rfl) ?_
        refine SmG.v hF rfl rfl rfl (by first | exact opV_extract rfl rfl rfl | exact opV_extractS rfl rfl rfl) ?_
        refine SmG.v hF rfl rfl rfl (opV_assign rfl rfl) ?_
        refine SmG.v hF rfl rfl rfl (opV_assign rfl rfl) ?_
        refine SmG.nil ?_
        refine nextS_normal ?_
        refine Sm.regionG hF rfl ?_
        refine SmG.v hF rfl rfl rfl (opV_load rfl rfl (by simp (disch := omega) only [go_sem, Nat.reduceEqDiff, iteP, elemsL, sumsL, sumD, sumD_length, hA, hB, hml, Nat.zero_le, take_map', drop_map'] <;> rfl)) ?_
        refine SmG.store hF rfl rfl rfl rfl rfl (by simp (disch := omega) only [go_sem, Nat.reduceEqDiff, iteP, elemsL, sumsL, sumD, sumD_length, hA, hB, hml, Nat.zero_le, take_map', drop_map'] <;> rfl) ?_
        refine SmG.nil ?_
        refine nextS_normal ?_
        refine Sm.seq ?_
        refine Sm.regionG hF rfl ?_
        refine SmG.v hF rfl rfl rfl (opV_buildSlice rfl rfl (by simp (disch := omega) only [go_sem, Nat.reduceEqDiff, iteP, elemsL, sumsL, sumD, sumD_length, hA, hB, hml, Nat.zero_le, take_map', drop_map'] <;> rfl)) ?_
        refine SmG.v hF rfl rfl rfl (opV_move rfl rfl) ?_
        -- stands at 124 of region 22: {"dst": 124, "op": "call", "a": [{"callee": ["builtin", "Callee.builtin Builtin.append"], "args": [["tmp", 122], ["tmp", 123]], "types": [32, 32]}], "
        refine SmG.appendFresh hF elSum rfl rfl rfl rfl rfl rfl (Or.inl rfl) (by simp only [List.length_map]; omega) (by simp only [List.length_map]; omega) ?_
        refine SmG.v hF rfl rfl rfl (opV_assign rfl rfl) ?_
        refine SmG.nil ?_
        refine nextS_normal ?_
        refine Sm.seq ?_
        refine Sm.regionG hF rfl ?_
        refine SmG.v hF rfl rfl rfl (opV_move rfl rfl) ?_
        refine SmG.v hF rfl rfl rfl (opV_load rfl rfl (by simp (disch := omega) only [go_sem, Nat.reduceEqDiff, iteP, elemsL, sumsL, sumD, sumD_length, hA, hB, hml, Nat.zero_le, take_map', drop_map'] <;> rfl)) ?_
        refine SmG.v hF rfl rfl rfl (opV_buildSlice rfl rfl (by simp (disch := omega) only [go_sem, Nat.reduceEqDiff, iteP, elemsL, sumsL, sumD, sumD_length, hA, hB, hml, Nat.zero_le, take_map', drop_map'] <;> rfl)) ?_
        -- stands at 128 of region 23: {"dst": 128, "op": "call", "a": [{"callee": ["builtin", "Callee.builtin Builtin.append"], "args": [["tmp", 125], ["tmp", 127]], "types": [32, 32]}], "
        refine SmG.appendOwn hF elSum rfl rfl rfl rfl rfl rfl rfl (by first | rfl | (simp; done) | (simp; omega)) (Or.inl rfl) (by (repeat' first | exact freeH_nil _ | refine freeH_same ?_ | refine freeH_cons ?_ (free_dB _ _ _) | refine freeH_cons ?_ (free_dB _ _ [_]) | refine freeH_cons ?_ (free_row (by rfl)))) ?_ ?_ ?_; rotate_left; rotate_left; simp only [killV, Pk.v, V.free, rep, bne_self_eq_false, Nat.reduceAdd, Nat.reduceBNe, Nat.reduceBEq, Nat.reduceEqDiff, reduceIte, Bool.false_eq_true]
        rotate_left
        · simp only [List.length_map, List.length_cons, List.length_nil]; omega
        · simp only [List.length_map, List.length_cons, List.length_nil]; omega
        refine SmG.freeze (l := 3) (sz := 32) (List.map rowS (p ++ [A])) (by show some (dB 32 (List.map rowS p ++ [rowS A])) = _; rw [one_row]) ?_
        simp only [Pk.v, frzE, frzV, dropH, reduceIte, Nat.reduceAdd, Nat.zero_add, List.length_map, List.length_append, Nat.le_refl, true_and, and_self, if_true, Nat.reduceEqDiff, List.length_cons, List.length_nil]
        refine SmG.cut 2 (by exact lt_two A B _) ?_; simp only [Pk.v, cutE, cutH, V.lt, Nat.reduceAdd, Nat.reduceLT, decide_true, decide_false, reduceIte, Bool.false_eq_true, Nat.lt_irrefl, Nat.not_lt_zero, Nat.zero_lt_one, Nat.zero_lt_succ, Nat.zero_lt_two, Nat.one_lt_two]
        refine SmG.v hF rfl rfl rfl (opV_assign rfl rfl) ?_
        refine SmG.nil ?_
        refine nextS_normal ?_
        refine Sm.seq ?_
        refine Sm.regionG hF rfl ?_
        refine SmG.v hF rfl rfl rfl (opV_move rfl rfl) ?_
        refine SmG.v hF rfl rfl rfl (opV_bin rfl rfl rfl (by first | exact rd_neqT _ _ _ _ _ (by omega) | exact rd_neqF _ _ _ _ _ (by omega) | exact rb_neq _ _ _ _ _ _ _)) ?_
        refine SmG.v hF rfl rfl rfl (opV_move rfl rfl) ?_
        first | refine SmG.v hF rfl rfl rfl (opV_move rfl rfl) ?_ | refine SmG.pass hF rfl rfl rfl ?_
        first | refine SmG.v hF rfl rfl rfl (opV_bin rfl rfl rfl (by first | exact rd_neqT _ _ _ _ _ (by omega) | exact rd_neqF _ _ _ _ _ (by omega) | exact rb_neq _ _ _ _ _ _ _)) ?_ | refine SmG.pass hF rfl rfl rfl ?_
        first | refine SmG.v hF rfl rfl rfl (opV_pickT rfl rfl rfl) ?_ | refine SmG.v hF rfl rfl rfl (opV_pickF rfl rfl rfl) ?_
        refine SmG.v hF rfl rfl rfl (opV_move rfl rfl) ?_
        first | refine SmG.v hF rfl rfl rfl (opV_move rfl rfl) ?_ | refine SmG.pass hF rfl rfl rfl ?_
        first | refine SmG.v hF rfl rfl rfl (opV_move rfl rfl) ?_ | refine SmG.pass hF rfl rfl rfl ?_
        first | refine SmG.call hF rfl rfl (by kernel_rfl) rfl rfl rfl (c3) ?_ | refine SmG.pass hF rfl rfl rfl ?_
        first | refine SmG.v hF rfl rfl rfl (opV_un rfl rfl (by first | exact rd_notT _ | exact rd_notF _ | exact rd_not _)) ?_ | refine SmG.pass hF rfl rfl rfl ?_
        first | refine SmG.v hF rfl rfl rfl (opV_pickT rfl rfl rfl) ?_ | refine SmG.v hF rfl rfl rfl (opV_pickF rfl rfl rfl) ?_
        refine SmG.nil ?_
        refine nextS_normal ?_
        refine Sm.condF hF rfl ?_
        refine Sm.skip ?_
        refine blockS_normal ?_
        refine nextS_normal ?_
        refine Sm.regionG hF rfl ?_
        refine SmG.v hF rfl rfl rfl (opV_move rfl rfl) ?_
        refine SmG.v hF rfl rfl rfl (opV_bin rfl rfl rfl (by first | exact rd_add _ _ _ _ _ (wrapI64 _ (by omega)) | exact rb_add _ _ _ _ _ _ _)) ?_
        refine SmG.v hF rfl rfl rfl (opV_assign rfl rfl) ?_
        refine SmG.nil ?_
        refine nextS_normal ?_
        exact ⟨⟨k + 1, by omega⟩, by show l.length - (k + 1) < l.length - k; omega, by exact St.le_of (by simp [leE, look, constD]) (by simp [leH, look, rep]) (by first | exact Nat.le_refl _ | (dsimp only; omega))⟩

    · refine Sm.seq ?_
      refine Sm.seq ?_
      refine Sm.regionG hF rfl ?_
      refine SmG.v hF rfl rfl rfl (opV_move rfl rfl) ?_
      refine SmG.v hF rfl rfl rfl (opV_move rfl rfl) ?_
      refine SmG.v hF rfl rfl rfl (opV_len rfl rfl (by simp (disch := omega) only [go_sem, Nat.reduceEqDiff, iteP, elemsL, sumD, sumD_length, hA, hB, hab, hml, Nat.zero_le, take_map', drop_map'] <;> rfl)) ?_
      refine SmG.v hF rfl rfl rfl (opV_bin rfl rfl rfl (by first | exact rd_lssT _ _ _ _ _ (by omega) | exact rd_lssF _ _ _ _ _ (by omega) | exact rb_lss _ _ _ _ _ _ _)) ?_
      refine SmG.nil ?_
      refine nextS_normal ?_
      refine Sm.condF hF rfl ?_
      refine Sm.exit ?_
      simp only [nextS, blockS, reduceIte, reduceCtorEq]
      refine Sm.seq ?_
      refine Sm.regionG hF rfl ?_
      refine SmG.v hF rfl rfl rfl (opV_move rfl rfl) ?_
      refine SmG.v hF rfl rfl rfl (opV_assign rfl rfl) ?_
      refine SmG.nil ?_
      refine nextS_normal ?_
      refine Sm.ret ?_
      refine ⟨_, rfl, ?_⟩; dsimp only
      exact D.le.refl _

  · refine CallsD.of Tryd.func6 rfl Tryd.ntmps6 (by simp) ?_; intro F hF; simp only [List.zipIdx_cons, List.zipIdx_nil, List.map_cons, List.map_nil, Nat.zero_add, Nat.reduceAdd]
    refine Sm.seq ?_
    refine Sm.regionG hF rfl ?_
    refine SmG.v hF rfl rfl rfl (opV_assign rfl rfl) ?_
    refine SmG.nil ?_
    refine nextS_normal ?_
    refine Sm.seq ?_
    refine Sm.regionG hF rfl ?_
    refine SmG.call hF rfl rfl (by kernel_rfl) rfl rfl rfl (sanity_D) ?_
    refine SmG.v hF rfl rfl rfl (opV_assign rfl rfl) ?_
    refine SmG.nil ?_
    refine nextS_normal ?_
    refine Sm.seq ?_
    refine Sm.regionG hF rfl ?_
    refine SmG.v hF rfl rfl rfl (opV_move rfl rfl) ?_
    refine SmG.call hF rfl rfl (by kernel_rfl) rfl rfl rfl (elements_D xs hx) ?_
    refine SmG.v hF rfl rfl rfl (opV_assign rfl rfl) ?_
    refine SmG.nil ?_
    refine nextS_normal ?_
    refine Sm.seq ?_
    refine Sm.seq ?_
    refine Sm.regionG hF rfl ?_
    refine SmG.v hF rfl rfl rfl (opV_move rfl rfl) ?_
    refine SmG.v hF rfl rfl rfl (opV_len rfl rfl (by simp (disch := omega) only [go_sem, Nat.reduceEqDiff, iteP, elemsL] <;> rfl)) ?_
    refine SmG.v hF rfl rfl rfl (opV_bin rfl rfl rfl (by first | exact rd_lssT _ _ _ _ _ (by omega) | exact rd_lssF _ _ _ _ _ (by omega) | exact rb_lss _ _ _ _ _ _ _)) ?_
    refine SmG.nil ?_
    refine nextS_normal ?_
    generalize elems xs = l at hF' hl h2 ⊢

    rcases l with _ | ⟨b, _ | ⟨c, l⟩⟩
    · have k1 := root_D [] hF'
      rw [Sha.root_nil] at k1
      have hq := eq_self (Sha.sum_len [])

      refine Sm.condT hF rfl ?_
      refine Sm.seq ?_
      refine Sm.seq ?_
      refine Sm.regionG hF rfl ?_
      refine SmG.v hF rfl rfl rfl (opV_move rfl rfl) ?_
      refine SmG.v hF rfl rfl rfl (opV_len rfl rfl (by simp (disch := omega) only [go_sem, Nat.reduceEqDiff, iteP, elemsL, sumD, hq] <;> rfl)) ?_
      refine SmG.v hF rfl rfl rfl (opV_bin rfl rfl rfl (by first | exact rd_eqlT _ _ _ _ _ (by omega) | exact rd_eqlF _ _ _ _ _ (by omega) | exact rb_eql _ _ _ _ _ _ _)) ?_
      refine SmG.nil ?_
      refine nextS_normal ?_
      refine Sm.condF hF rfl ?_
      refine Sm.skip ?_
      refine nextS_normal ?_
      refine Sm.seq ?_
      refine Sm.regionG hF rfl ?_
      refine SmG.v hF rfl rfl rfl (opV_move rfl rfl) ?_
      refine SmG.v hF rfl rfl rfl (opV_move rfl rfl) ?_
      first | refine SmG.v hF rfl rfl rfl (opV_move rfl rfl) ?_ | refine SmG.pass hF rfl rfl rfl ?_
      first | refine SmG.call hF rfl rfl (by kernel_rfl) rfl rfl rfl (k1) ?_ | refine SmG.pass hF rfl rfl rfl ?_
      first | refine SmG.call hF rfl rfl (by kernel_rfl) rfl rfl rfl (sumNil_D) ?_ | refine SmG.pass hF rfl rfl rfl ?_
      first | refine SmG.v hF rfl rfl rfl (opV_eqA rfl rfl rfl (by simp (disch := omega) only [go_sem, Nat.reduceEqDiff, iteP, elemsL, sumD, hq] <;> rfl)) ?_ | refine SmG.pass hF rfl rfl rfl ?_
      first | refine SmG.v hF rfl rfl rfl (opV_pickT rfl rfl rfl) ?_ | refine SmG.v hF rfl rfl rfl (opV_pickF rfl rfl rfl) ?_
      refine SmG.v hF rfl rfl rfl (opV_assign rfl rfl) ?_
      refine SmG.nil ?_
      refine nextS_normal ?_
      refine Sm.ret ?_
      simp only [nextS, blockS]
      refine ⟨_, rfl, ?_⟩; dsimp only
      exact D.le.refl _
    · have k1 := root_D [b] hF'
      rw [Sha.root_one] at k1
      have k2 := leaf_D b (hF'.2 b (by simp))
      have k3 := proof_D [b] 0 hF' (by simp)
      have hp : Sha.proof [b] 0 = [] := by unfold Sha.proof; rw [Sha.path_one _ (by simp)]; rfl
      rw [hp] at k3
      have hq := eq_self (Sha.leaf_len b)

      refine Sm.condT hF rfl ?_
      refine Sm.seq ?_
      refine Sm.seq ?_
      refine Sm.regionG hF rfl ?_
      refine SmG.v hF rfl rfl rfl (opV_move rfl rfl) ?_
      refine SmG.v hF rfl rfl rfl (opV_len rfl rfl (by simp (disch := omega) only [go_sem, Nat.reduceEqDiff, iteP, elemsL, sumD, hq, rowE, bytesL, sumsL] <;> rfl)) ?_
      refine SmG.v hF rfl rfl rfl (opV_bin rfl rfl rfl (by first | exact rd_eqlT _ _ _ _ _ (by omega) | exact rd_eqlF _ _ _ _ _ (by omega) | exact rb_eql _ _ _ _ _ _ _)) ?_
      refine SmG.nil ?_
      refine nextS_normal ?_
      refine Sm.condT hF rfl ?_
      refine Sm.seq ?_
      refine Sm.regionG hF rfl ?_
      refine SmG.v hF rfl rfl rfl (opV_move rfl rfl) ?_
      refine SmG.call hF rfl rfl (by kernel_rfl) rfl rfl rfl (k3) ?_
      refine SmG.v hF rfl rfl rfl (opV_move rfl rfl) ?_
      refine SmG.v hF rfl rfl rfl (by first | exact opV_extract rfl rfl rfl | exact opV_extract0 rfl rfl) ?_
      refine SmG.v hF rfl rfl rfl (by first | exact opV_extract rfl rfl rfl | exact opV_extractS rfl rfl rfl) ?_
      refine SmG.v hF rfl rfl rfl (opV_assign rfl rfl) ?_
      refine SmG.v hF rfl rfl rfl (opV_assign rfl rfl) ?_
      refine SmG.nil ?_
      refine nextS_normal ?_
      refine Sm.seq ?_
      refine Sm.drawG hF (by kernel_rfl) rfl 20 (by kernel_rfl) (by kernel_rfl) ?_
      simp only [List.take_succ_cons, List.take_zero, List.take_nil]
      refine Head.v hF rfl rfl rfl (opV_move rfl rfl) ?_
      refine Head.v hF rfl rfl rfl (opV_move rfl rfl) ?_
      first | refine Head.v hF rfl rfl rfl (opV_move rfl rfl) ?_ | refine Head.p hF rfl rfl rfl ?_
      first | refine Head.c hF rfl rfl (by kernel_rfl) rfl rfl rfl (k1) ?_ | refine Head.p hF rfl rfl rfl ?_
      first | refine Head.v hF rfl rfl rfl (opV_move rfl rfl) ?_ | refine Head.p hF rfl rfl rfl ?_
      first | refine Head.v hF rfl rfl rfl (opV_indexAddr rfl rfl rfl (by simp (disch := omega) only [go_sem, Nat.reduceEqDiff, iteP, elemsL, sumD, hq, rowE, bytesL, sumsL] <;> rfl)) ?_ | refine Head.p hF rfl rfl rfl ?_
      first | refine Head.v hF rfl rfl rfl (opV_load rfl rfl (by simp (disch := omega) only [go_sem, Nat.reduceEqDiff, iteP, elemsL, sumD, hq, rowE, bytesL, sumsL] <;> rfl)) ?_ | refine Head.p hF rfl rfl rfl ?_
      first | refine Head.c hF rfl rfl (by kernel_rfl) rfl rfl rfl (k2) ?_ | refine Head.p hF rfl rfl rfl ?_
      first | refine Head.v hF rfl rfl rfl (opV_eqA rfl rfl rfl (by simp (disch := omega) only [go_sem, Nat.reduceEqDiff, iteP, elemsL, sumD, hq, rowE, bytesL, sumsL] <;> rfl)) ?_ | refine Head.p hF rfl rfl rfl ?_
      first | refine Head.v hF rfl rfl rfl (opV_pickT rfl rfl rfl) ?_ | refine Head.v hF rfl rfl rfl (opV_pickF rfl rfl rfl) ?_
      refine Head.v hF rfl rfl rfl (opV_move rfl rfl) ?_
      first | refine Head.v hF rfl rfl rfl (opV_move rfl rfl) ?_ | refine Head.p hF rfl rfl rfl ?_
      first | refine Head.v hF rfl rfl rfl (opV_bin rfl rfl rfl (by first | exact rd_eqlT _ _ _ _ _ (by omega) | exact rd_eqlF _ _ _ _ _ (by omega) | exact rb_eql _ _ _ _ _ _ _)) ?_ | refine Head.p hF rfl rfl rfl ?_
      first | refine Head.v hF rfl rfl rfl (opV_pickT rfl rfl rfl) ?_ | refine Head.v hF rfl rfl rfl (opV_pickF rfl rfl rfl) ?_
      refine Head.v hF rfl rfl rfl (opV_move rfl rfl) ?_
      first | refine Head.v hF rfl rfl rfl (opV_move rfl rfl) ?_ | refine Head.p hF rfl rfl rfl ?_
      first | refine Head.v hF rfl rfl rfl (opV_len rfl rfl (by simp (disch := omega) only [go_sem, Nat.reduceEqDiff, iteP, elemsL, sumD, hq, rowE, bytesL, sumsL] <;> rfl)) ?_ | refine Head.p hF rfl rfl rfl ?_
      first | refine Head.v hF rfl rfl rfl (opV_bin rfl rfl rfl (by first | exact rd_eqlT _ _ _ _ _ (by omega) | exact rd_eqlF _ _ _ _ _ (by omega) | exact rb_eql _ _ _ _ _ _ _)) ?_ | refine Head.p hF rfl rfl rfl ?_
      first | refine Head.v hF rfl rfl rfl (opV_pickT rfl rfl rfl) ?_ | refine Head.v hF rfl rfl rfl (opV_pickF rfl rfl rfl) ?_
      refine Head.v hF rfl rfl rfl (opV_assign rfl rfl) ?_
      refine Head.last ⟨rfl, ?_⟩
      simp only [List.drop_succ_cons, List.drop_zero, List.drop_nil, List.nil_append, List.cons_append]
      refine SmG.nil ?_
      refine nextS_normal ?_
      refine Sm.ret ?_
      simp only [nextS, blockS]
      refine ⟨_, rfl, ?_⟩; dsimp only
      exact D.le.refl _
    · simp at h2
end Go.Proofs.YtmindblfbijaaaaDoor
namespace Go.Proofs.YtmindblfbijaaaaDoor
open Go.RowKit
set_option maxRecDepth 100000
theorem one_ne_zero' : ((1 : Nat) = 0) = False := by simp
theorem map_ne {α : Type} {f : α → List D} {l : List α} (z : List D) (h : 0 < l.length) : List.map f l ≠ [] := by intro e; rw [List.map_eq_nil_iff] at e; subst e; simp at h
theorem row_split (l : List UInt8) : (rowS l).map (fun d => [d]) = l.map rowB := by simp [rowS, rowB, Function.comp_def]

theorem leafBytes_D (b : List UInt8) (hb : b.length ≤ 900000) (G : Nat → Option D) : CallsD Tryd.prog G 36 [bytesL b] (bytesL (0 :: b)) := by
  refine CallsD.of Tryd.func36 rfl Tryd.ntmps36 (by simp) ?_; intro F hF; simp only [List.zipIdx_cons, List.zipIdx_nil, List.map_cons, List.map_nil, Nat.zero_add, Nat.reduceAdd]
  refine Sm.seq ?_
  refine Sm.regionG hF rfl ?_
  refine SmG.v hF rfl rfl rfl (opV_assign rfl rfl) ?_
  refine SmG.nil ?_
  refine nextS_normal ?_
  refine Sm.seq ?_
  refine Sm.regionG hF rfl ?_
  refine SmG.v hF rfl rfl rfl (opV_buildSlice rfl rfl (by simp (disch := omega) only [go_sem, Nat.reduceEqDiff, iteP, bytesL, rowB, byteD] <;> rfl)) ?_
  refine SmG.v hF rfl rfl rfl (opV_move rfl rfl) ?_
  -- stands at 5 of region 1: {"dst": 5, "op": "call", "a": [{"callee": ["builtin", "Callee.builtin Builtin.append"], "args": [["tmp", 3], ["tmp", 4]], "types": [22, 22]}], "ty": 2
  refine SmG.append hF elU8 rfl rfl rfl rfl rfl rfl (Or.inl rfl) (Or.inl rfl) (by simp only [List.length_map, List.length_cons, List.length_nil]; omega) (by simp only [List.length_map, List.length_cons, List.length_nil]; omega) ?_
  refine SmG.v hF rfl rfl rfl (opV_assign rfl rfl) ?_
  refine SmG.nil ?_
  refine nextS_normal ?_
  refine Sm.ret ?_
  refine ⟨_, rfl, ?_⟩; dsimp only
  exact D.le.refl _

theorem pairBytes_D (a b : List UInt8) (ha : a.length = 32) (hb : b.length = 32) (G : Nat → Option D) : CallsD Tryd.prog G 37 [sumD a, sumD b] (bytesL (1 :: (a ++ b))) := by
  have h1 := row_split a
  have h2 := row_split b
  refine CallsD.of Tryd.func37 rfl Tryd.ntmps37 (by simp) ?_; intro F hF; simp only [List.zipIdx_cons, List.zipIdx_nil, List.map_cons, List.map_nil, Nat.zero_add, Nat.reduceAdd]
  refine Sm.seq ?_
  refine Sm.regionG hF rfl ?_
  refine SmG.new hF rfl rfl rfl (opS_box rfl rfl (by simp (disch := omega) only [go_sem, Nat.reduceEqDiff, iteP, bytesL, rowB, byteD, sumD, ha, hb] <;> rfl)) ?_
  refine SmG.new hF rfl rfl rfl (opS_box rfl rfl (by simp (disch := omega) only [go_sem, Nat.reduceEqDiff, iteP, bytesL, rowB, byteD, sumD, ha, hb] <;> rfl)) ?_
  refine SmG.v hF rfl rfl rfl (opV_assign rfl rfl) ?_
  refine SmG.nil ?_
  refine nextS_normal ?_
  refine Sm.seq ?_
  refine Sm.regionG hF rfl ?_
  refine SmG.v hF rfl rfl rfl (opV_buildSlice rfl rfl (by simp (disch := omega) only [go_sem, Nat.reduceEqDiff, iteP, bytesL, rowB, byteD, sumD, ha, hb] <;> rfl)) ?_
  refine SmG.v hF rfl rfl rfl (opV_slice rfl rfl rfl rfl rfl (by simp (disch := omega) only [go_sem, Nat.reduceEqDiff, iteP, bytesL, rowB, byteD, sumD, ha, hb] <;> rfl)) ?_
  -- stands at 8 of region 1: {"dst": 8, "op": "call", "a": [{"callee": ["builtin", "Callee.builtin Builtin.append"], "args": [["tmp", 6], ["tmp", 7]], "types": [22, 22]}], "ty": 2
  refine SmG.freeze (l := 0) (sz := 32) [rowS a] rfl ?_
  simp only [Pk.v, frzE, frzV, dropH, reduceIte, Nat.reduceAdd, Nat.zero_add, List.length_map, List.length_append, Nat.le_refl, true_and, and_self, if_true, Nat.reduceEqDiff, List.getElem?_cons_zero, Nat.mul_one, Nat.one_mul, Nat.reduceLeDiff, Nat.reduceMul, h1, Nat.zero_ne_one, one_ne_zero']
  refine SmG.appendNew hF elU8 rfl rfl rfl rfl rfl rfl (Or.inl rfl) rfl (map_ne [] (by omega)) (by simp only [List.length_map, List.length_cons, List.length_nil]; omega) (by simp only [List.length_map, List.length_cons, List.length_nil]; omega) ?_
  refine SmG.v hF rfl rfl rfl (opV_assign rfl rfl) ?_
  refine SmG.nil ?_
  refine nextS_normal ?_
  refine Sm.seq ?_
  refine Sm.regionG hF rfl ?_
  refine SmG.v hF rfl rfl rfl (opV_move rfl rfl) ?_
  refine SmG.v hF rfl rfl rfl (opV_slice rfl rfl rfl rfl rfl (by simp (disch := omega) only [go_sem, Nat.reduceEqDiff, iteP, bytesL, rowB, byteD, sumD, ha, hb] <;> rfl)) ?_
  -- stands at 11 of region 2: {"dst": 11, "op": "call", "a": [{"callee": ["builtin", "Callee.builtin Builtin.append"], "args": [["tmp", 9], ["tmp", 10]], "types": [22, 22]}], "ty":
  refine SmG.freeze (l := 1) (sz := 32) [rowS b] rfl ?_
  simp only [Pk.v, frzE, frzV, dropH, reduceIte, Nat.reduceAdd, Nat.zero_add, List.length_map, List.length_append, Nat.le_refl, true_and, and_self, if_true, Nat.reduceEqDiff, List.getElem?_cons_zero, Nat.mul_one, Nat.one_mul, Nat.reduceLeDiff, Nat.reduceMul, h2]
  refine SmG.appendOwn hF elU8 rfl rfl rfl rfl rfl rfl rfl (by first | rfl | (simp; done) | (simp; omega)) (Or.inl rfl) (by (repeat' first | exact freeH_nil _ | refine freeH_same ?_ | refine freeH_cons ?_ (free_dB _ _ _) | refine freeH_cons ?_ (free_dB _ _ [_]) | refine freeH_cons ?_ (free_row (by rfl)))) ?_ ?_ ?_; rotate_left; rotate_left; simp only [killV, Pk.v, V.free, rep, bne_self_eq_false, Nat.reduceAdd, Nat.reduceBNe, Nat.reduceBEq, Nat.reduceEqDiff, reduceIte, Bool.false_eq_true]
  rotate_left
  · simp only [List.length_map, List.length_append, List.length_cons, List.length_nil]; omega
  · simp only [List.length_map, List.length_append, List.length_cons, List.length_nil]; omega
  refine SmG.freeze (l := 2) (sz := 1) (List.map rowB (1 :: (a ++ b))) (by show some (dB 1 (([rowB 1] ++ List.map rowB a) ++ List.map rowB b)) = _; simp) ?_
  have e : 1 + a.length + b.length = a.length + b.length + 1 := by omega
  simp only [Pk.v, frzE, frzV, dropH, reduceIte, Nat.reduceAdd, Nat.zero_add, List.length_map, List.length_append, Nat.le_refl, true_and, and_self, if_true, Nat.reduceEqDiff, List.length_cons, List.length_nil, e]
  refine SmG.v hF rfl rfl rfl (opV_assign rfl rfl) ?_
  refine SmG.nil ?_
  refine nextS_normal ?_
  refine Sm.ret ?_
  refine ⟨_, rfl, ?_⟩; dsimp only
  exact D.le.refl _

theorem refLeaf_D (b : List UInt8) (hb : b.length ≤ 900000) (G : Nat → Option D) : CallsD Tryd.prog G 15 [bytesL b] (sumD (Sha.leaf b)) := by
  have hl := Sha.leaf_len b
  have hS : Sha.sum (0 :: b) = Sha.leaf b := rfl
  generalize Sha.leaf b = s at hl hS ⊢

  refine CallsD.of Tryd.func15 rfl Tryd.ntmps15 (by simp) ?_; intro F hF; simp only [List.zipIdx_cons, List.zipIdx_nil, List.map_cons, List.map_nil, Nat.zero_add, Nat.reduceAdd]
  refine Sm.seq ?_
  refine Sm.regionG hF rfl ?_
  refine SmG.new hF rfl rfl rfl (opS_alloc rfl al28) ?_
  refine SmG.nil ?_
  refine nextS_normal ?_
  refine Sm.seq ?_
  refine Sm.regionG hF rfl ?_
  refine SmG.v hF rfl rfl rfl (opV_move rfl rfl) ?_
  refine SmG.call hF rfl rfl (by kernel_rfl) rfl rfl rfl (leafBytes_D b hb G) ?_
  refine SmG.call hF rfl rfl (by kernel_rfl) rfl rfl rfl (refSum_D (0 :: b) (by simp; omega) G) ?_
  refine SmG.store hF rfl rfl rfl rfl rfl (by simp (disch := omega) only [go_sem, Nat.reduceEqDiff, iteP, sumD, sumD_length, hl, hS] <;> rfl) ?_
  refine SmG.nil ?_
  refine nextS_normal ?_
  refine Sm.ret ?_
  refine retQ_cell rfl rfl (by simp (disch := omega) only [go_sem, Nat.reduceEqDiff, iteP, sumD_length, hl, hS] <;> rfl) ?_
  exact D.le.refl _

theorem refPair_D (a b : List UInt8) (ha : a.length = 32) (hb : b.length = 32) (G : Nat → Option D) : CallsD Tryd.prog G 17 [sumD a, sumD b] (sumD (Sha.pair a b)) := by
  have hl := Sha.pair_len a b
  have hS : Sha.sum (1 :: (a ++ b)) = Sha.pair a b := rfl
  generalize Sha.pair a b = s at hl hS ⊢
  refine CallsD.of Tryd.func17 rfl Tryd.ntmps17 (by simp) ?_; intro F hF; simp only [List.zipIdx_cons, List.zipIdx_nil, List.map_cons, List.map_nil, Nat.zero_add, Nat.reduceAdd]
  refine Sm.seq ?_
  refine Sm.regionG hF rfl ?_
  refine SmG.new hF rfl rfl rfl (opS_box rfl rfl (by simp (disch := omega) only [go_sem, Nat.reduceEqDiff, iteP, sumD, sumD_length, ha, hb, hl, hS] <;> rfl)) ?_
  refine SmG.new hF rfl rfl rfl (opS_box rfl rfl (by simp (disch := omega) only [go_sem, Nat.reduceEqDiff, iteP, sumD, sumD_length, ha, hb, hl, hS] <;> rfl)) ?_
  refine SmG.new hF rfl rfl rfl (opS_alloc rfl al28) ?_
  refine SmG.nil ?_
  refine nextS_normal ?_
  refine Sm.seq ?_
  refine Sm.regionG hF rfl ?_
  refine SmG.v hF rfl rfl rfl (opV_load rfl rfl (by simp (disch := omega) only [go_sem, Nat.reduceEqDiff, iteP, sumD, sumD_length, ha, hb, hl, hS] <;> rfl)) ?_
  refine SmG.v hF rfl rfl rfl (opV_load rfl rfl (by simp (disch := omega) only [go_sem, Nat.reduceEqDiff, iteP, sumD, sumD_length, ha, hb, hl, hS] <;> rfl)) ?_
  refine SmG.call hF rfl rfl (by kernel_rfl) rfl rfl rfl (pairBytes_D a b ha hb G) ?_
  refine SmG.call hF rfl rfl (by kernel_rfl) rfl rfl rfl (refSum_D (1 :: (a ++ b)) (by simp; omega) G) ?_
  refine SmG.store hF rfl rfl rfl rfl rfl (by simp (disch := omega) only [go_sem, Nat.reduceEqDiff, iteP, sumD, sumD_length, ha, hb, hl, hS] <;> rfl) ?_
  refine SmG.nil ?_
  refine nextS_normal ?_
  refine Sm.ret ?_
  refine retQ_cell rfl rfl (by simp (disch := omega) only [go_sem, Nat.reduceEqDiff, iteP, sumD_length, hl, hS] <;> rfl) ?_
  exact D.le.refl _
theorem refSumNil_D (G : Nat → Option D) : CallsD Tryd.prog G 13 [.list 0 [] true] (sumD (Sha.sum [])) := (refSum_D [] (by simp) G).args fun _ => outs_le nil_bytes (outs_same [])

theorem refRoot_D (G : Nat → Option D) : ∀ (n : Nat) (l : List (List UInt8)), l.length = n → Fit l → CallsD Tryd.prog G 19 [elemsL l] (sumD (Sha.root l)) := by
  intro n
  induction n using Nat.strongRecOn with
  | _ n ih =>
  intro l hn hF'
  have hRl := Sha.root_len l
  have hfl := hF'.1
  by_cases h2 : 2 ≤ l.length
  · have hm1 := Sha.cut_lt h2
    have hmp := Sha.cut_pos l.length
    have k0 := cut_D l.length h2 (by omega) G
    have k1 := ih (Sha.cut l.length) (by omega) (l.take (Sha.cut l.length)) (by rw [List.length_take]; omega) (fit_take hF' _)
    have k2 := ih (l.length - Sha.cut l.length) (by omega) (l.drop (Sha.cut l.length)) (by rw [List.length_drop]) (fit_drop hF' _)
    have k4 := refPair_D _ _ (Sha.root_len (l.take (Sha.cut l.length))) (Sha.root_len (l.drop (Sha.cut l.length))) G
    rw [← Sha.root_cut h2] at k4
    generalize Sha.root (l.take (Sha.cut l.length)) = A at k1 k4
    generalize Sha.root (l.drop (Sha.cut l.length)) = B at k2 k4
    generalize Sha.cut l.length = m at hm1 hmp k0 k1 k2
    generalize Sha.root l = R at k4 hRl ⊢
    have hml : m ≤ l.length := by omega

    refine CallsD.of Tryd.func19 rfl Tryd.ntmps19 (by simp) ?_; intro F hF; simp only [List.zipIdx_cons, List.zipIdx_nil, List.map_cons, List.map_nil, Nat.zero_add, Nat.reduceAdd]
    refine Sm.seq ?_
    refine Sm.regionG hF rfl ?_
    refine SmG.new hF rfl rfl rfl (opS_alloc rfl al28) ?_
    refine SmG.nil ?_
    refine nextS_normal ?_
    refine Sm.seq ?_
    refine Sm.seq ?_
    refine Sm.regionG hF rfl ?_
    refine SmG.v hF rfl rfl rfl (opV_move rfl rfl) ?_
    refine SmG.v hF rfl rfl rfl (opV_len rfl rfl (by simp (disch := omega) only [go_sem, Nat.reduceEqDiff, iteP, elemsL, sumD, sumD_length, hRl, hml, Nat.zero_le, take_map', drop_map'] <;> rfl)) ?_
    refine SmG.v hF rfl rfl rfl (opV_bin rfl rfl rfl (by first | exact rd_eqlT _ _ _ _ _ (by omega) | exact rd_eqlF _ _ _ _ _ (by omega) | exact rb_eql _ _ _ _ _ _ _)) ?_
    refine SmG.nil ?_
    refine nextS_normal ?_
    refine Sm.condF hF rfl ?_
    refine Sm.skip ?_
    refine nextS_normal ?_
    refine Sm.seq ?_
    refine Sm.seq ?_
    refine Sm.regionG hF rfl ?_
    refine SmG.v hF rfl rfl rfl (opV_move rfl rfl) ?_
    refine SmG.v hF rfl rfl rfl (opV_len rfl rfl (by simp (disch := omega) only [go_sem, Nat.reduceEqDiff, iteP, elemsL, sumD, sumD_length, hRl, hml, Nat.zero_le, take_map', drop_map'] <;> rfl)) ?_
    refine SmG.v hF rfl rfl rfl (opV_bin rfl rfl rfl (by first | exact rd_eqlT _ _ _ _ _ (by omega) | exact rd_eqlF _ _ _ _ _ (by omega) | exact rb_eql _ _ _ _ _ _ _)) ?_
    refine SmG.nil ?_
    refine nextS_normal ?_
    refine Sm.condF hF rfl ?_
    refine Sm.skip ?_
    refine nextS_normal ?_
    refine Sm.seq ?_
    refine Sm.regionG hF rfl ?_
    refine SmG.v hF rfl rfl rfl (opV_move rfl rfl) ?_
    refine SmG.v hF rfl rfl rfl (opV_len rfl rfl (by simp (disch := omega) only [go_sem, Nat.reduceEqDiff, iteP, elemsL, sumD, sumD_length, hRl, hml, Nat.zero_le, take_map', drop_map'] <;> rfl)) ?_
    refine SmG.call hF rfl rfl (by kernel_rfl) rfl rfl rfl (k0) ?_
    refine SmG.v hF rfl rfl rfl (opV_assign rfl rfl) ?_
    refine SmG.nil ?_
    refine nextS_normal ?_
    refine Sm.seq ?_
    refine Sm.drawG hF (by kernel_rfl) rfl 9 (by kernel_rfl) (by kernel_rfl) ?_
    simp only [List.take_succ_cons, List.take_zero, List.take_nil]
    refine Head.v hF rfl rfl rfl (opV_move rfl rfl) ?_
    refine Head.v hF rfl rfl rfl (opV_move rfl rfl) ?_
    refine Head.v hF rfl rfl rfl (opV_slice rfl rfl rfl rfl rfl (by simp (disch := omega) only [go_sem, Nat.reduceEqDiff, iteP, elemsL, sumD, sumD_length, hRl, hml, Nat.zero_le, take_map', drop_map'] <;> rfl)) ?_
    refine Head.c hF rfl rfl (by kernel_rfl) rfl rfl rfl (k1) ?_
    refine Head.v hF rfl rfl rfl (opV_move rfl rfl) ?_
    refine Head.v hF rfl rfl rfl (opV_move rfl rfl) ?_
    refine Head.v hF rfl rfl rfl (opV_slice rfl rfl rfl rfl rfl (by simp (disch := omega) only [go_sem, Nat.reduceEqDiff, iteP, elemsL, sumD, sumD_length, hRl, hml, Nat.zero_le, take_map', drop_map'] <;> rfl)) ?_
    refine Head.c hF rfl rfl (by kernel_rfl) rfl rfl rfl (k2) ?_
    refine Head.c hF rfl rfl (by kernel_rfl) rfl rfl rfl (k4) ?_
    refine Head.last ⟨rfl, ?_⟩
    simp only [List.drop_succ_cons, List.drop_zero, List.drop_nil, List.nil_append, List.cons_append]
    refine SmG.store hF rfl rfl rfl rfl rfl (by simp (disch := omega) only [go_sem, Nat.reduceEqDiff, iteP, elemsL, sumD, sumD_length, hRl, hml, Nat.zero_le, take_map', drop_map'] <;> rfl) ?_
    refine SmG.nil ?_
    refine nextS_normal ?_
    refine Sm.ret ?_
    refine retQ_cell rfl rfl (by simp (disch := omega) only [go_sem, Nat.reduceEqDiff, iteP, sumD_length, hRl] <;> rfl) ?_
    exact D.le.refl _

  · rcases l with _ | ⟨b, _ | ⟨c, l⟩⟩
    · rw [Sha.root_nil] at hRl ⊢
      have k1 := refSumNil_D G
      generalize Sha.sum [] = R at k1 hRl ⊢

      refine CallsD.of Tryd.func19 rfl Tryd.ntmps19 (by simp) ?_; intro F hF; simp only [List.zipIdx_cons, List.zipIdx_nil, List.map_cons, List.map_nil, Nat.zero_add, Nat.reduceAdd]
      refine Sm.seq ?_
      refine Sm.regionG hF rfl ?_
      refine SmG.new hF rfl rfl rfl (opS_alloc rfl al28) ?_
      refine SmG.nil ?_
      refine nextS_normal ?_
      refine Sm.seq ?_
      refine Sm.seq ?_
      refine Sm.regionG hF rfl ?_
      refine SmG.v hF rfl rfl rfl (opV_move rfl rfl) ?_
      refine SmG.v hF rfl rfl rfl (opV_len rfl rfl (by simp (disch := omega) only [go_sem, Nat.reduceEqDiff, iteP, elemsL, sumD, sumD_length, hRl] <;> rfl)) ?_
      refine SmG.v hF rfl rfl rfl (opV_bin rfl rfl rfl (by first | exact rd_eqlT _ _ _ _ _ (by omega) | exact rd_eqlF _ _ _ _ _ (by omega) | exact rb_eql _ _ _ _ _ _ _)) ?_
      refine SmG.nil ?_
      refine nextS_normal ?_
      refine Sm.condT hF rfl ?_
      refine Sm.seq ?_
      refine Sm.regionG hF rfl ?_
      refine SmG.call hF rfl rfl (by kernel_rfl) rfl rfl rfl (k1) ?_
      refine SmG.store hF rfl rfl rfl rfl rfl (by simp (disch := omega) only [go_sem, Nat.reduceEqDiff, iteP, elemsL, sumD, sumD_length, hRl] <;> rfl) ?_
      refine SmG.nil ?_
      refine nextS_normal ?_
      refine Sm.ret ?_
      simp only [nextS, blockS]
      refine retQ_cell rfl rfl (by simp (disch := omega) only [go_sem, Nat.reduceEqDiff, iteP, sumD_length, hRl] <;> rfl) ?_
      exact D.le.refl _
    · rw [Sha.root_one] at hRl ⊢
      have k1 := refLeaf_D b (hF'.2 b (by simp)) G
      generalize Sha.leaf b = R at k1 hRl ⊢

      refine CallsD.of Tryd.func19 rfl Tryd.ntmps19 (by simp) ?_; intro F hF; simp only [List.zipIdx_cons, List.zipIdx_nil, List.map_cons, List.map_nil, Nat.zero_add, Nat.reduceAdd]
      refine Sm.seq ?_
      refine Sm.regionG hF rfl ?_
      refine SmG.new hF rfl rfl rfl (opS_alloc rfl al28) ?_
      refine SmG.nil ?_
      refine nextS_normal ?_
      refine Sm.seq ?_
      refine Sm.seq ?_
      refine Sm.regionG hF rfl ?_
      refine SmG.v hF rfl rfl rfl (opV_move rfl rfl) ?_
      refine SmG.v hF rfl rfl rfl (opV_len rfl rfl (by simp (disch := omega) only [go_sem, Nat.reduceEqDiff, iteP, elemsL, rowE, bytesL, sumD, sumD_length, hRl] <;> rfl)) ?_
      refine SmG.v hF rfl rfl rfl (opV_bin rfl rfl rfl (by first | exact rd_eqlT _ _ _ _ _ (by omega) | exact rd_eqlF _ _ _ _ _ (by omega) | exact rb_eql _ _ _ _ _ _ _)) ?_
      refine SmG.nil ?_
      refine nextS_normal ?_
      refine Sm.condF hF rfl ?_
      refine Sm.skip ?_
      refine nextS_normal ?_
      refine Sm.seq ?_
      refine Sm.seq ?_
      refine Sm.regionG hF rfl ?_
      refine SmG.v hF rfl rfl rfl (opV_move rfl rfl) ?_
      refine SmG.v hF rfl rfl rfl (opV_len rfl rfl (by simp (disch := omega) only [go_sem, Nat.reduceEqDiff, iteP, elemsL, rowE, bytesL, sumD, sumD_length, hRl] <;> rfl)) ?_
      refine SmG.v hF rfl rfl rfl (opV_bin rfl rfl rfl (by first | exact rd_eqlT _ _ _ _ _ (by omega) | exact rd_eqlF _ _ _ _ _ (by omega) | exact rb_eql _ _ _ _ _ _ _)) ?_
      refine SmG.nil ?_
      refine nextS_normal ?_
      refine Sm.condT hF rfl ?_
      refine Sm.seq ?_
      refine Sm.regionG hF rfl ?_
      refine SmG.v hF rfl rfl rfl (opV_move rfl rfl) ?_
      refine SmG.v hF rfl rfl rfl (opV_indexAddr rfl rfl rfl (by simp (disch := omega) only [go_sem, Nat.reduceEqDiff, iteP, elemsL, rowE, bytesL, sumD, sumD_length, hRl] <;> rfl)) ?_
      refine SmG.v hF rfl rfl rfl (opV_load rfl rfl (by simp (disch := omega) only [go_sem, Nat.reduceEqDiff, iteP, elemsL, rowE, bytesL, sumD, sumD_length, hRl] <;> rfl)) ?_
      refine SmG.call hF rfl rfl (by kernel_rfl) rfl rfl rfl (k1) ?_
      refine SmG.store hF rfl rfl rfl rfl rfl (by simp (disch := omega) only [go_sem, Nat.reduceEqDiff, iteP, elemsL, rowE, bytesL, sumD, sumD_length, hRl] <;> rfl) ?_
      refine SmG.nil ?_
      refine nextS_normal ?_
      refine Sm.ret ?_
      simp only [nextS, blockS]
      refine retQ_cell rfl rfl (by simp (disch := omega) only [go_sem, Nat.reduceEqDiff, iteP, sumD_length, hRl] <;> rfl) ?_
      exact D.le.refl _
    · simp at h2
def rowT (b : Bool) : List D := [.v (.bool b)]
theorem elBool : ElemT Tryd.prog 68 4 (.bool false) 1 1 := ⟨Tryd.underlying68, by kernel_rfl, rfl, by decide⟩
theorem sides_le : ∀ (n i : Nat), (Sha.sides n i).length ≤ n := by
  intro n
  induction n using Nat.strongRecOn with
  | _ n ih =>
  intro i
  rcases Nat.lt_or_ge n 2 with h | h
  · rw [Sha.sides_one i h]; simp
  · have c1 := Sha.cut_lt h
    have c2 := Sha.cut_pos n
    rcases Nat.lt_or_ge i (Sha.cut n) with hi | hi
    · rw [Sha.sides_low h hi]; have := ih _ c1 i; simp; omega
    · rw [Sha.sides_high h hi]; have := ih (n - Sha.cut n) (by omega) (i - Sha.cut n); simp; omega
theorem rowT_one (l : List Bool) (b : Bool) : List.map rowT l ++ [[D.v (.bool b)]] = List.map rowT (l ++ [b]) := by simp [rowT]

theorem sides_O (G : Nat → Option D) : ∀ (n i : Nat), i < n → n ≤ 1000000 → CallsO Tryd.prog G 41 [.v (.int .i64 n), .v (.int .i64 i)] .tup 1 ((Sha.sides n i).map rowT) [.v (.bool true)] := by
  intro n
  induction n using Nat.strongRecOn with
  | _ n ih =>
  intro i hin hn
  have hsl := sides_le n i
  by_cases h2 : 2 ≤ n
  · have hm1 := Sha.cut_lt h2
    have hmp := Sha.cut_pos n
    have k0 := cut_D n h2 (by omega) G
    by_cases hi : i < Sha.cut n
    · have k1 := ih _ hm1 i hi (by omega)
      rw [Sha.sides_low h2 hi] at hsl ⊢
      have hl1 : (Sha.sides (Sha.cut n) i).length ≤ 1000000 := by have := sides_le (Sha.cut n) i; omega
      generalize Sha.sides (Sha.cut n) i = ss at k1 hsl hl1 ⊢
      generalize Sha.cut n = m at hm1 hmp k0 hi k1

      refine CallsO.of Tryd.func41 rfl Tryd.ntmps41 (by simp) ?_; intro F hF; simp only [List.zipIdx_cons, List.zipIdx_nil, List.map_cons, List.map_nil, Nat.zero_add, Nat.reduceAdd]
      refine Sm.seq ?_
      refine Sm.regionG hF rfl ?_
      refine SmG.v hF rfl rfl rfl (opV_assign rfl rfl) ?_
      refine SmG.v hF rfl rfl rfl (opV_assign rfl rfl) ?_
      refine SmG.nil ?_
      refine nextS_normal ?_
      refine Sm.seq ?_
      refine Sm.seq ?_
      refine Sm.regionG hF rfl ?_
      refine SmG.v hF rfl rfl rfl (opV_move rfl rfl) ?_
      refine SmG.v hF rfl rfl rfl (opV_bin rfl rfl rfl (by first | exact rd_lssT _ _ _ _ _ (by omega) | exact rd_lssF _ _ _ _ _ (by omega) | exact rb_lss _ _ _ _ _ _ _)) ?_
      refine SmG.v hF rfl rfl rfl (opV_move rfl rfl) ?_
      first | refine SmG.v hF rfl rfl rfl (opV_move rfl rfl) ?_ | refine SmG.pass hF rfl rfl rfl ?_
      first | refine SmG.v hF rfl rfl rfl (opV_move rfl rfl) ?_ | refine SmG.pass hF rfl rfl rfl ?_
      first | refine SmG.v hF rfl rfl rfl (opV_bin rfl rfl rfl (by first | exact rd_geqT _ _ _ _ _ (by omega) | exact rd_geqF _ _ _ _ _ (by omega) | exact rb_geq _ _ _ _ _ _ _)) ?_ | refine SmG.pass hF rfl rfl rfl ?_
      first | refine SmG.v hF rfl rfl rfl (opV_pickT rfl rfl rfl) ?_ | refine SmG.v hF rfl rfl rfl (opV_pickF rfl rfl rfl) ?_
      refine SmG.nil ?_
      refine nextS_normal ?_
      refine Sm.condF hF rfl ?_
      refine Sm.skip ?_
      refine nextS_normal ?_
      refine Sm.seq ?_
      refine Sm.seq ?_
      refine Sm.regionG hF rfl ?_
      refine SmG.v hF rfl rfl rfl (opV_move rfl rfl) ?_
      refine SmG.v hF rfl rfl rfl (opV_bin rfl rfl rfl (by first | exact rd_eqlT _ _ _ _ _ (by omega) | exact rd_eqlF _ _ _ _ _ (by omega) | exact rb_eql _ _ _ _ _ _ _)) ?_
      refine SmG.nil ?_
      refine nextS_normal ?_
      refine Sm.condF hF rfl ?_
      refine Sm.skip ?_
      refine nextS_normal ?_
      refine Sm.seq ?_
      refine Sm.regionG hF rfl ?_
      refine SmG.v hF rfl rfl rfl (opV_move rfl rfl) ?_
      refine SmG.call hF rfl rfl (by kernel_rfl) rfl rfl rfl (k0) ?_
      refine SmG.v hF rfl rfl rfl (opV_assign rfl rfl) ?_
      refine SmG.nil ?_
      refine nextS_normal ?_
      refine Sm.seq ?_
      refine Sm.seq ?_
      refine Sm.regionG hF rfl ?_
      refine SmG.v hF rfl rfl rfl (opV_move rfl rfl) ?_
      refine SmG.v hF rfl rfl rfl (opV_move rfl rfl) ?_
      refine SmG.v hF rfl rfl rfl (opV_bin rfl rfl rfl (by first | exact rd_lssT _ _ _ _ _ (by omega) | exact rd_lssF _ _ _ _ _ (by omega) | exact rb_lss _ _ _ _ _ _ _)) ?_
      refine SmG.nil ?_
      refine nextS_normal ?_
      refine Sm.condT hF rfl ?_
      refine Sm.seq ?_
      refine Sm.regionG hF rfl ?_
      refine SmG.v hF rfl rfl rfl (opV_move rfl rfl) ?_
      refine SmG.v hF rfl rfl rfl (opV_move rfl rfl) ?_
      refine SmG.callO hF rfl rfl (by kernel_rfl) rfl rfl rfl (k1) ?_
      refine SmG.v hF rfl rfl rfl (opV_move rfl rfl) ?_
      refine SmG.v hF rfl rfl rfl (by first | exact opV_extract rfl rfl rfl | exact opV_extract0 rfl rfl) ?_
      refine SmG.v hF rfl rfl rfl (by first | exact opV_extract rfl rfl rfl | exact opV_extractS rfl rfl rfl) ?_
      refine SmG.v hF rfl rfl rfl (opV_assign rfl rfl) ?_
      refine SmG.v hF rfl rfl rfl (opV_assign rfl rfl) ?_
      refine SmG.nil ?_
      refine nextS_normal ?_
      refine Sm.seq ?_
      refine Sm.regionG hF rfl ?_
      refine SmG.v hF rfl rfl rfl (opV_move rfl rfl) ?_
      refine SmG.v hF rfl rfl rfl (opV_buildSlice rfl rfl (by simp (disch := omega) only [go_sem, Nat.reduceEqDiff, iteP] <;> rfl)) ?_
      -- stands at 33 of region 8: {"dst": 33, "op": "call", "a": [{"callee": ["builtin", "Callee.builtin Builtin.append"], "args": [["tmp", 31], ["tmp", 32]], "types": [68, 68]}], "ty"
      refine SmG.appendOwn hF elBool rfl rfl rfl rfl rfl rfl rfl (by first | rfl | (simp; done) | (simp; omega)) (Or.inl rfl) (by (repeat' first | exact freeH_nil _ | refine freeH_same ?_ | refine freeH_cons ?_ (free_dB _ _ _) | refine freeH_cons ?_ (free_dB _ _ [_]) | refine freeH_cons ?_ (free_row (by rfl)))) ?_ ?_ ?_; rotate_left; rotate_left; simp only [killV, Pk.v, V.free, rep, bne_self_eq_false, Nat.reduceAdd, Nat.reduceBNe, Nat.reduceBEq, Nat.reduceEqDiff, reduceIte, Bool.false_eq_true]
      rotate_left
      · simp only [List.length_map, List.length_cons, List.length_nil]; omega
      · simp only [List.length_map, List.length_cons, List.length_nil]; omega
      rw [rowT_one]
      refine SmG.v hF rfl rfl rfl (opV_assign rfl rfl) ?_
      refine SmG.v hF rfl rfl rfl (opV_assign rfl rfl) ?_
      refine SmG.nil ?_
      refine nextS_normal ?_
      refine Sm.ret ?_
      simp only [nextS, blockS]
      exact ⟨0, rfl, rfl⟩
    · have k1 := ih (n - Sha.cut n) (by omega) (i - Sha.cut n) (by omega) (by omega)
      rw [Sha.sides_high h2 (by omega)] at hsl ⊢
      rw [show ((n - Sha.cut n : Nat) : Int) = (n : Int) - (Sha.cut n : Nat) by omega, show ((i - Sha.cut n : Nat) : Int) = (i : Int) - (Sha.cut n : Nat) by omega] at k1
      have hl1 : (Sha.sides (n - Sha.cut n) (i - Sha.cut n)).length ≤ 1000000 := by have := sides_le (n - Sha.cut n) (i - Sha.cut n); omega
      generalize Sha.sides (n - Sha.cut n) (i - Sha.cut n) = ss at k1 hsl hl1 ⊢
      generalize Sha.cut n = m at hm1 hmp k0 hi k1

      refine CallsO.of Tryd.func41 rfl Tryd.ntmps41 (by simp) ?_; intro F hF; simp only [List.zipIdx_cons, List.zipIdx_nil, List.map_cons, List.map_nil, Nat.zero_add, Nat.reduceAdd]
      refine Sm.seq ?_
      refine Sm.regionG hF rfl ?_
      refine SmG.v hF rfl rfl rfl (opV_assign rfl rfl) ?_
      refine SmG.v hF rfl rfl rfl (opV_assign rfl rfl) ?_
      refine SmG.nil ?_
      refine nextS_normal ?_
      refine Sm.seq ?_
      refine Sm.seq ?_
      refine Sm.regionG hF rfl ?_
      refine SmG.v hF rfl rfl rfl (opV_move rfl rfl) ?_
      refine SmG.v hF rfl rfl rfl (opV_bin rfl rfl rfl (by first | exact rd_lssT _ _ _ _ _ (by omega) | exact rd_lssF _ _ _ _ _ (by omega) | exact rb_lss _ _ _ _ _ _ _)) ?_
      refine SmG.v hF rfl rfl rfl (opV_move rfl rfl) ?_
      first | refine SmG.v hF rfl rfl rfl (opV_move rfl rfl) ?_ | refine SmG.pass hF rfl rfl rfl ?_
      first | refine SmG.v hF rfl rfl rfl (opV_move rfl rfl) ?_ | refine SmG.pass hF rfl rfl rfl ?_
      first | refine SmG.v hF rfl rfl rfl (opV_bin rfl rfl rfl (by first | exact rd_geqT _ _ _ _ _ (by omega) | exact rd_geqF _ _ _ _ _ (by omega) | exact rb_geq _ _ _ _ _ _ _)) ?_ | refine SmG.pass hF rfl rfl rfl ?_
      first | refine SmG.v hF rfl rfl rfl (opV_pickT rfl rfl rfl) ?_ | refine SmG.v hF rfl rfl rfl (opV_pickF rfl rfl rfl) ?_
      refine SmG.nil ?_
      refine nextS_normal ?_
      refine Sm.condF hF rfl ?_
      refine Sm.skip ?_
      refine nextS_normal ?_
      refine Sm.seq ?_
      refine Sm.seq ?_
      refine Sm.regionG hF rfl ?_
      refine SmG.v hF rfl rfl rfl (opV_move rfl rfl) ?_
      refine SmG.v hF rfl rfl rfl (opV_bin rfl rfl rfl (by first | exact rd_eqlT _ _ _ _ _ (by omega) | exact rd_eqlF _ _ _ _ _ (by omega) | exact rb_eql _ _ _ _ _ _ _)) ?_
      refine SmG.nil ?_
      refine nextS_normal ?_
      refine Sm.condF hF rfl ?_
      refine Sm.skip ?_
      refine nextS_normal ?_
      refine Sm.seq ?_
      refine Sm.regionG hF rfl ?_
      refine SmG.v hF rfl rfl rfl (opV_move rfl rfl) ?_
      refine SmG.call hF rfl rfl (by kernel_rfl) rfl rfl rfl (k0) ?_
      refine SmG.v hF rfl rfl rfl (opV_assign rfl rfl) ?_
      refine SmG.nil ?_
      refine nextS_normal ?_
      refine Sm.seq ?_
      refine Sm.seq ?_
      refine Sm.regionG hF rfl ?_
      refine SmG.v hF rfl rfl rfl (opV_move rfl rfl) ?_
      refine SmG.v hF rfl rfl rfl (opV_move rfl rfl) ?_
      refine SmG.v hF rfl rfl rfl (opV_bin rfl rfl rfl (by first | exact rd_lssT _ _ _ _ _ (by omega) | exact rd_lssF _ _ _ _ _ (by omega) | exact rb_lss _ _ _ _ _ _ _)) ?_
      refine SmG.nil ?_
      refine nextS_normal ?_
      refine Sm.condF hF rfl ?_
      refine Sm.skip ?_
      refine nextS_normal ?_
      refine Sm.seq ?_
      refine Sm.regionG hF rfl ?_
      refine SmG.v hF rfl rfl rfl (opV_move rfl rfl) ?_
      refine SmG.v hF rfl rfl rfl (opV_move rfl rfl) ?_
      refine SmG.v hF rfl rfl rfl (opV_bin rfl rfl rfl (by first | exact rd_sub _ _ _ _ _ (wrapI64 _ (by omega)) | exact rb_sub _ _ _ _ _ _ _)) ?_
      refine SmG.v hF rfl rfl rfl (opV_move rfl rfl) ?_
      refine SmG.v hF rfl rfl rfl (opV_move rfl rfl) ?_
      refine SmG.v hF rfl rfl rfl (opV_bin rfl rfl rfl (by first | exact rd_sub _ _ _ _ _ (wrapI64 _ (by omega)) | exact rb_sub _ _ _ _ _ _ _)) ?_
      refine SmG.callO hF rfl rfl (by kernel_rfl) rfl rfl rfl (k1) ?_
      refine SmG.v hF rfl rfl rfl (opV_move rfl rfl) ?_
      refine SmG.v hF rfl rfl rfl (by first | exact opV_extract rfl rfl rfl | exact opV_extract0 rfl rfl) ?_
      refine SmG.v hF rfl rfl rfl (by first | exact opV_extract rfl rfl rfl | exact opV_extractS rfl rfl rfl) ?_
      refine SmG.v hF rfl rfl rfl (opV_assign rfl rfl) ?_
      refine SmG.v hF rfl rfl rfl (opV_assign rfl rfl) ?_
      refine SmG.nil ?_
      refine nextS_normal ?_
      refine Sm.seq ?_
      refine Sm.regionG hF rfl ?_
      refine SmG.v hF rfl rfl rfl (opV_move rfl rfl) ?_
      refine SmG.v hF rfl rfl rfl (opV_buildSlice rfl rfl (by simp (disch := omega) only [go_sem, Nat.reduceEqDiff, iteP] <;> rfl)) ?_
      -- stands at 46 of region 10: {"dst": 46, "op": "call", "a": [{"callee": ["builtin", "Callee.builtin Builtin.append"], "args": [["tmp", 44], ["tmp", 45]], "types": [68, 68]}], "ty"
      refine SmG.appendOwn hF elBool rfl rfl rfl rfl rfl rfl rfl (by first | rfl | (simp; done) | (simp; omega)) (Or.inl rfl) (by (repeat' first | exact freeH_nil _ | refine freeH_same ?_ | refine freeH_cons ?_ (free_dB _ _ _) | refine freeH_cons ?_ (free_dB _ _ [_]) | refine freeH_cons ?_ (free_row (by rfl)))) ?_ ?_ ?_; rotate_left; rotate_left; simp only [killV, Pk.v, V.free, rep, bne_self_eq_false, Nat.reduceAdd, Nat.reduceBNe, Nat.reduceBEq, Nat.reduceEqDiff, reduceIte, Bool.false_eq_true]
      rotate_left
      · simp only [List.length_map, List.length_cons, List.length_nil]; omega
      · simp only [List.length_map, List.length_cons, List.length_nil]; omega
      rw [rowT_one]
      refine SmG.v hF rfl rfl rfl (opV_assign rfl rfl) ?_
      refine SmG.v hF rfl rfl rfl (opV_assign rfl rfl) ?_
      refine SmG.nil ?_
      refine nextS_normal ?_
      refine Sm.ret ?_
      exact ⟨0, rfl, rfl⟩
  · obtain rfl : n = 1 := by omega
    rw [Sha.sides_one i (by omega)]

    refine CallsO.of Tryd.func41 rfl Tryd.ntmps41 (by simp) ?_; intro F hF; simp only [List.zipIdx_cons, List.zipIdx_nil, List.map_cons, List.map_nil, Nat.zero_add, Nat.reduceAdd]
    refine Sm.seq ?_
    refine Sm.regionG hF rfl ?_
    refine SmG.v hF rfl rfl rfl (opV_assign rfl rfl) ?_
    refine SmG.v hF rfl rfl rfl (opV_assign rfl rfl) ?_
    refine SmG.nil ?_
    refine nextS_normal ?_
    refine Sm.seq ?_
    refine Sm.seq ?_
    refine Sm.regionG hF rfl ?_
    refine SmG.v hF rfl rfl rfl (opV_move rfl rfl) ?_
    refine SmG.v hF rfl rfl rfl (opV_bin rfl rfl rfl (by first | exact rd_lssT _ _ _ _ _ (by omega) | exact rd_lssF _ _ _ _ _ (by omega) | exact rb_lss _ _ _ _ _ _ _)) ?_
    refine SmG.v hF rfl rfl rfl (opV_move rfl rfl) ?_
    first | refine SmG.v hF rfl rfl rfl (opV_move rfl rfl) ?_ | refine SmG.pass hF rfl rfl rfl ?_
    first | refine SmG.v hF rfl rfl rfl (opV_move rfl rfl) ?_ | refine SmG.pass hF rfl rfl rfl ?_
    first | refine SmG.v hF rfl rfl rfl (opV_bin rfl rfl rfl (by first | exact rd_geqT _ _ _ _ _ (by omega) | exact rd_geqF _ _ _ _ _ (by omega) | exact rb_geq _ _ _ _ _ _ _)) ?_ | refine SmG.pass hF rfl rfl rfl ?_
    first | refine SmG.v hF rfl rfl rfl (opV_pickT rfl rfl rfl) ?_ | refine SmG.v hF rfl rfl rfl (opV_pickF rfl rfl rfl) ?_
    refine SmG.nil ?_
    refine nextS_normal ?_
    refine Sm.condF hF rfl ?_
    refine Sm.skip ?_
    refine nextS_normal ?_
    refine Sm.seq ?_
    refine Sm.seq ?_
    refine Sm.regionG hF rfl ?_
    refine SmG.v hF rfl rfl rfl (opV_move rfl rfl) ?_
    refine SmG.v hF rfl rfl rfl (opV_bin rfl rfl rfl (by first | exact rd_eqlT _ _ _ _ _ (by omega) | exact rd_eqlF _ _ _ _ _ (by omega) | exact rb_eql _ _ _ _ _ _ _)) ?_
    refine SmG.nil ?_
    refine nextS_normal ?_
    refine Sm.condT hF rfl ?_
    refine Sm.seq ?_
    refine Sm.regionG hF rfl ?_
    refine SmG.v hF rfl rfl rfl (opV_assign rfl rfl) ?_
    refine SmG.own (t := 4) (sz := 0) 1 rfl ?_
    refine SmG.v hF rfl rfl rfl (opV_assign rfl rfl) ?_
    refine SmG.nil ?_
    refine nextS_normal ?_
    refine Sm.ret ?_
    simp only [nextS, blockS]
    exact ⟨0, rfl, rfl⟩
theorem sides_D (G : Nat → Option D) (n i : Nat) (hin : i < n) (hn : n ≤ 1000000) : CallsD Tryd.prog G 41 [.v (.int .i64 n), .v (.int .i64 i)] (.tup [.list 1 ((Sha.sides n i).map rowT) false, .v (.bool true)]) := (sides_O G n i hin hn).data

theorem sidesErr_D (G : Nat → Option D) (n i : Int) (h : i < 0 ∨ n ≤ i) : CallsD Tryd.prog G 41 [.v (.int .i64 n), .v (.int .i64 i)] (.tup [.list 0 [] true, .v (.bool false)]) := by
  by_cases hi : i < 0
  · refine CallsD.of Tryd.func41 rfl Tryd.ntmps41 (by simp) ?_; intro F hF; simp only [List.zipIdx_cons, List.zipIdx_nil, List.map_cons, List.map_nil, Nat.zero_add, Nat.reduceAdd]
    refine Sm.seq ?_
    refine Sm.regionG hF rfl ?_
    refine SmG.v hF rfl rfl rfl (opV_assign rfl rfl) ?_
    refine SmG.v hF rfl rfl rfl (opV_assign rfl rfl) ?_
    refine SmG.nil ?_
    refine nextS_normal ?_
    refine Sm.seq ?_
    refine Sm.seq ?_
    refine Sm.regionG hF rfl ?_
    refine SmG.v hF rfl rfl rfl (opV_move rfl rfl) ?_
    refine SmG.v hF rfl rfl rfl (opV_bin rfl rfl rfl (by first | exact rd_lssT _ _ _ _ _ (by omega) | exact rd_lssF _ _ _ _ _ (by omega) | exact rb_lss _ _ _ _ _ _ _)) ?_
    refine SmG.v hF rfl rfl rfl (opV_move rfl rfl) ?_
    first | refine SmG.v hF rfl rfl rfl (opV_move rfl rfl) ?_ | refine SmG.pass hF rfl rfl rfl ?_
    first | refine SmG.v hF rfl rfl rfl (opV_move rfl rfl) ?_ | refine SmG.pass hF rfl rfl rfl ?_
    first | refine SmG.v hF rfl rfl rfl (opV_bin rfl rfl rfl (by first | exact rd_geqT _ _ _ _ _ (by omega) | exact rd_geqF _ _ _ _ _ (by omega) | exact rb_geq _ _ _ _ _ _ _)) ?_ | refine SmG.pass hF rfl rfl rfl ?_
    first | refine SmG.v hF rfl rfl rfl (opV_pickT rfl rfl rfl) ?_ | refine SmG.v hF rfl rfl rfl (opV_pickF rfl rfl rfl) ?_
    refine SmG.nil ?_
    refine nextS_normal ?_
    refine Sm.condT hF rfl ?_
    refine Sm.seq ?_
    refine Sm.regionG hF rfl ?_
    refine SmG.v hF rfl rfl rfl (opV_assign rfl rfl) ?_
    refine SmG.v hF rfl rfl rfl (opV_assign rfl rfl) ?_
    refine SmG.nil ?_
    refine nextS_normal ?_
    refine Sm.ret ?_
    simp only [nextS, blockS]
    refine ⟨_, rfl, ?_⟩; dsimp only
    exact D.le.refl _

  · have hin : n ≤ i := by omega
    refine CallsD.of Tryd.func41 rfl Tryd.ntmps41 (by simp) ?_; intro F hF; simp only [List.zipIdx_cons, List.zipIdx_nil, List.map_cons, List.map_nil, Nat.zero_add, Nat.reduceAdd]
    refine Sm.seq ?_
    refine Sm.regionG hF rfl ?_
    refine SmG.v hF rfl rfl rfl (opV_assign rfl rfl) ?_
    refine SmG.v hF rfl rfl rfl (opV_assign rfl rfl) ?_
    refine SmG.nil ?_
    refine nextS_normal ?_
    refine Sm.seq ?_
    refine Sm.seq ?_
    refine Sm.regionG hF rfl ?_
    refine SmG.v hF rfl rfl rfl (opV_move rfl rfl) ?_
    refine SmG.v hF rfl rfl rfl (opV_bin rfl rfl rfl (by first | exact rd_lssT _ _ _ _ _ (by omega) | exact rd_lssF _ _ _ _ _ (by omega) | exact rb_lss _ _ _ _ _ _ _)) ?_
    refine SmG.v hF rfl rfl rfl (opV_move rfl rfl) ?_
    first | refine SmG.v hF rfl rfl rfl (opV_move rfl rfl) ?_ | refine SmG.pass hF rfl rfl rfl ?_
    first | refine SmG.v hF rfl rfl rfl (opV_move rfl rfl) ?_ | refine SmG.pass hF rfl rfl rfl ?_
    first | refine SmG.v hF rfl rfl rfl (opV_bin rfl rfl rfl (by first | exact rd_geqT _ _ _ _ _ (by omega) | exact rd_geqF _ _ _ _ _ (by omega) | exact rb_geq _ _ _ _ _ _ _)) ?_ | refine SmG.pass hF rfl rfl rfl ?_
    first | refine SmG.v hF rfl rfl rfl (opV_pickT rfl rfl rfl) ?_ | refine SmG.v hF rfl rfl rfl (opV_pickF rfl rfl rfl) ?_
    refine SmG.nil ?_
    refine nextS_normal ?_
    refine Sm.condT hF rfl ?_
    refine Sm.seq ?_
    refine Sm.regionG hF rfl ?_
    refine SmG.v hF rfl rfl rfl (opV_assign rfl rfl) ?_
    refine SmG.v hF rfl rfl rfl (opV_assign rfl rfl) ?_
    refine SmG.nil ?_
    refine nextS_normal ?_
    refine Sm.ret ?_
    simp only [nextS, blockS]
    refine ⟨_, rfl, ?_⟩; dsimp only
    exact D.le.refl _
end Go.Proofs.YtmindblfbijaaaaDoor
namespace Go.Proofs.YtmindblfbijaaaaDoor
open Go.RowKit
set_option maxRecDepth 100000
/-- Lists of a size that hashing takes. -/
def Fit' (a : List (List UInt8)) : Prop := a.length ≤ 1000000 ∧ ∀ x ∈ a, x.length ≤ 900001
theorem rowE_one (l : List (List UInt8)) (x : List UInt8) : List.map rowE l ++ [[bytesL x]] = List.map rowE (l ++ [x]) := by simp [rowE]
theorem chain_get (r : List (Bool × List UInt8)) : ∀ x : List UInt8, x.length ≤ 900001 → (∀ e ∈ r, e.2.length = 32) → ∃ e, (Sha.chain x r)[r.length]? = some e ∧ Sha.sum e = Sha.top x r ∧ e.length ≤ 900001 := by
  induction r with
  | nil => intro x hx _; exact ⟨x, rfl, rfl, hx⟩
  | cons e r ih =>
    obtain ⟨s, q⟩ := e
    intro x hx hq
    have hj : (Sha.join s q (Sha.sum x)).length ≤ 900001 := by
      have h1 := hq (s, q) (by simp)
      have h2 := Sha.sum_len x
      cases s <;> simp [Sha.join] <;> simp at h1 <;> omega
    obtain ⟨e, h1, h2, h3⟩ := ih _ hj fun e he => hq e (by simp [he])
    exact ⟨e, by simpa [Sha.chain] using h1, by simpa [Sha.top] using h2, h3⟩
theorem top_len (r : List (Bool × List UInt8)) : ∀ x, (Sha.top x r).length = 32 := by
  induction r with
  | nil => intro x; exact Sha.sum_len x
  | cons e r ih => intro x; obtain ⟨s, q⟩ := e; exact ih _
theorem lt_one (k : Blk) (sz : Nat) (rows : List (List D)) : ltH 1 [(1, k), (0, dB sz rows)] := ltH_over (ltH_cons (ltH_nil _) (lt_dB _ sz rows)) (Nat.le_refl _)

theorem chain_D (G : Nat → Option D) (n i : Nat) (b : List UInt8) (p : List (List UInt8)) (hin : i < n) (hn : n ≤ 1000000) (hb : b.length ≤ 900000) (hp : Len32' p) (hpl : p.length ≤ 1000000) :
    CallsD Tryd.prog G 26 [.v (.int .i64 n), .v (.int .i64 i), bytesL b, sumsL p] (elemsL (Sha.chain (0 :: b) ((Sha.sides n i).zip p))) := by
  have hsd := sides_D G n i hin hn
  have hsl := sides_le n i
  generalize Sha.sides n i = ss at hsd hsl ⊢
  have hx : (0 :: b).length ≤ 900001 := by simp; omega
  refine CallsD.of Tryd.func26 rfl Tryd.ntmps26 (by simp) ?_; intro F hF; simp only [List.zipIdx_cons, List.zipIdx_nil, List.map_cons, List.map_nil, Nat.zero_add, Nat.reduceAdd]
  refine Sm.seq ?_
  refine Sm.regionG hF rfl ?_
  refine SmG.v hF rfl rfl rfl (opV_assign rfl rfl) ?_
  refine SmG.nil ?_
  refine nextS_normal ?_
  refine Sm.seq ?_
  refine Sm.regionG hF rfl ?_
  refine SmG.v hF rfl rfl rfl (opV_move rfl rfl) ?_
  refine SmG.v hF rfl rfl rfl (opV_move rfl rfl) ?_
  refine SmG.call hF rfl rfl (by kernel_rfl) rfl rfl rfl (hsd) ?_
  refine SmG.v hF rfl rfl rfl (opV_move rfl rfl) ?_
  refine SmG.v hF rfl rfl rfl (by first | exact opV_extract rfl rfl rfl | exact opV_extract0 rfl rfl) ?_
  refine SmG.v hF rfl rfl rfl (by first | exact opV_extract rfl rfl rfl | exact opV_extractS rfl rfl rfl) ?_
  refine SmG.v hF rfl rfl rfl (opV_assign rfl rfl) ?_
  refine SmG.v hF rfl rfl rfl (opV_assign rfl rfl) ?_
  refine SmG.nil ?_
  refine nextS_normal ?_
  refine Sm.seq ?_
  refine Sm.regionG hF rfl ?_
  refine SmG.v hF rfl rfl rfl (opV_move rfl rfl) ?_
  refine SmG.call hF rfl rfl (by kernel_rfl) rfl rfl rfl (leafBytes_D b hb G) ?_
  refine SmG.buildOwn hF rfl rfl rfl rfl rfl (by simp (disch := omega) only [go_sem, Nat.reduceEqDiff, iteP, elemsL, sumsL, rowT] <;> rfl) (by simp) ?_
  refine SmG.v hF rfl rfl rfl (opV_assign rfl rfl) ?_
  refine SmG.nil ?_
  refine nextS_normal ?_
  refine Sm.seq ?_
  refine Sm.seq ?_
  refine Sm.regionG hF rfl ?_
  refine SmG.v hF rfl rfl rfl (opV_assign rfl rfl) ?_
  refine SmG.nil ?_
  refine nextS_normal ?_
  refine Sm.block ?_
  generalize hxx : (0 :: b) = x at hx ⊢
  have hz : ∀ k, k < (ss.zip p).length → ∃ s q, ss[k]? = some s ∧ p[k]? = some q ∧ (ss.zip p).take (k + 1) = (ss.zip p).take k ++ [(s, q)] ∧ q.length = 32 := by
    intro k hk
    have hk1 : k < ss.length := by rw [List.length_zip] at hk; omega
    have hk2 : k < p.length := by rw [List.length_zip] at hk; omega
    refine ⟨ss[k], p[k], by simp, by simp, ?_, hp _ (List.getElem_mem hk2)⟩
    rw [List.take_succ_eq_append_getElem hk]; simp
  have hq : ∀ e ∈ ss.zip p, e.2.length = 32 := fun e he => hp _ (List.of_mem_zip he).2
  have hzl : (ss.zip p).length = min ss.length p.length := List.length_zip
  generalize ss.zip p = z at hz hq hzl ⊢
  refine Sm.loop (ι := {k : Nat // k ≤ z.length}) (fun k => ⟨[(3, .d (sumsL p)), (9, .d (.list 1 (ss.map rowT) false)), (11, .sref 0 0 ((Sha.chain x (z.take k.1)).map rowE).length), (12, .d (.v (.int .i64 k.1)))], [(0, dB 1 ((Sha.chain x (z.take k.1)).map rowE))], 1⟩) (fun k => z.length - k.1) (⟨0, by omega⟩) ?_ ?_
  · exact St.le_of (by first | (simp [leE, look, constD] <;> omega) | (simp [leE, look, constD, List.take_zero, Sha.chain] <;> omega)) (by simp only [leH, look, rep, reduceIte, Nat.reduceEqDiff, List.set_cons_zero, List.set_cons_succ, List.take_zero, Sha.chain, and_self, and_true, and_false, false_and, if_true, if_false] <;> (repeat' first | rfl | constructor)) (by first | exact Nat.le_refl _ | (dsimp only; omega))
  rintro ⟨k, hk⟩
  simp only

  by_cases hlt : k < z.length
  · obtain ⟨s, q, hs, hpk, htk, hq32⟩ := hz k hlt
    obtain ⟨e, he1, he2, he3⟩ := chain_get (z.take k) x hx fun e he => hq e (List.mem_of_mem_take he)
    have htl : (z.take k).length = k := by rw [List.length_take]; omega
    rw [htl] at he1
    have hLl : (Sha.chain x (z.take k)).length = k + 1 := by rw [Sha.chain_length, htl]
    have k1 := refSum_D e (by omega) G
    rw [he2] at k1
    have hT := top_len (z.take k) x
    have hnext := Sha.chain_snoc s q (z.take k) x
    rw [← htk] at hnext
    generalize Sha.top x (z.take k) = T at k1 hT hnext
    generalize Sha.chain x (z.take k) = L at he1 hLl hnext ⊢
    have hcast : (((k + 1 : Nat) : Int) - 1).toNat = k := by omega
    have hbound : k < p.length ∧ k < ss.length := by omega
    cases s with
    | true =>
      have k2 : CallsD Tryd.prog G 37 [sumD q, sumD T] (bytesL (Sha.join true q T)) := pairBytes_D q T hq32 hT G

      refine Sm.seq ?_
      refine Sm.seq ?_
      refine Sm.regionG hF rfl ?_
      refine SmG.v hF rfl rfl rfl (opV_move rfl rfl) ?_
      refine SmG.v hF rfl rfl rfl (opV_move rfl rfl) ?_
      refine SmG.v hF rfl rfl rfl (opV_len rfl rfl (by simp (disch := omega) only [go_sem, Nat.reduceEqDiff, iteP, elemsL, sumsL, sumD, rowE, rowT, sumD_length, hT, hs, hpk, he1, hLl, hcast] <;> rfl)) ?_
      refine SmG.v hF rfl rfl rfl (opV_bin rfl rfl rfl (by first | exact rd_lssT _ _ _ _ _ (by omega) | exact rd_lssF _ _ _ _ _ (by omega) | exact rb_lss _ _ _ _ _ _ _)) ?_
      refine SmG.v hF rfl rfl rfl (opV_move rfl rfl) ?_
      first | refine SmG.v hF rfl rfl rfl (opV_move rfl rfl) ?_ | refine SmG.pass hF rfl rfl rfl ?_
      first | refine SmG.v hF rfl rfl rfl (opV_move rfl rfl) ?_ | refine SmG.pass hF rfl rfl rfl ?_
      first | refine SmG.v hF rfl rfl rfl (opV_len rfl rfl (by simp (disch := omega) only [go_sem, Nat.reduceEqDiff, iteP, elemsL, sumsL, sumD, rowE, rowT, sumD_length, hT, hs, hpk, he1, hLl, hcast] <;> rfl)) ?_ | refine SmG.pass hF rfl rfl rfl ?_
      first | refine SmG.v hF rfl rfl rfl (opV_bin rfl rfl rfl (by first | exact rd_lssT _ _ _ _ _ (by omega) | exact rd_lssF _ _ _ _ _ (by omega) | exact rb_lss _ _ _ _ _ _ _)) ?_ | refine SmG.pass hF rfl rfl rfl ?_
      first | refine SmG.v hF rfl rfl rfl (opV_pickT rfl rfl rfl) ?_ | refine SmG.v hF rfl rfl rfl (opV_pickF rfl rfl rfl) ?_
      refine SmG.nil ?_
      refine nextS_normal ?_
      refine Sm.condT hF rfl ?_
      refine Sm.skip ?_
      refine nextS_normal ?_
      refine Sm.seq ?_
      refine Sm.block ?_
      refine Sm.seq ?_
      refine Sm.regionG hF rfl ?_
      refine SmG.v hF rfl rfl rfl (opV_move rfl rfl) ?_
      refine SmG.v hF rfl rfl rfl (opV_move rfl rfl) ?_
      refine SmG.v hF rfl rfl rfl (opV_len rfl rfl (by simp (disch := omega) only [go_sem, Nat.reduceEqDiff, iteP, elemsL, sumsL, sumD, rowE, rowT, sumD_length, hT, hs, hpk, he1, hLl, hcast] <;> rfl)) ?_
      refine SmG.v hF rfl rfl rfl (opV_bin rfl rfl rfl (by first | exact rd_sub _ _ _ _ _ (wrapI64 _ (by omega)) | exact rb_sub _ _ _ _ _ _ _)) ?_
      refine SmG.v hF rfl rfl rfl (opV_indexAddr rfl rfl rfl (by simp (disch := omega) only [go_sem, Nat.reduceEqDiff, iteP, elemsL, sumsL, sumD, rowE, rowT, sumD_length, hT, hs, hpk, he1, hLl, hcast] <;> rfl)) ?_
      refine SmG.v hF rfl rfl rfl (opV_load rfl rfl (by simp (disch := omega) only [go_sem, Nat.reduceEqDiff, iteP, elemsL, sumsL, sumD, rowE, rowT, sumD_length, hT, hs, hpk, he1, hLl, hcast] <;> rfl)) ?_
      refine SmG.call hF rfl rfl (by kernel_rfl) rfl rfl rfl (k1) ?_
      refine SmG.new hF rfl rfl rfl (opS_alloc rfl al28) ?_
      refine SmG.store hF rfl rfl rfl rfl rfl (by simp (disch := omega) only [go_sem, Nat.reduceEqDiff, iteP, elemsL, sumsL, sumD, rowE, rowT, sumD_length, hT, hs, hpk, he1, hLl, hcast] <;> rfl) ?_
      refine SmG.nil ?_
      refine nextS_normal ?_
      refine Sm.seq ?_
      refine Sm.regionG hF rfl ?_
      refine SmG.v hF rfl rfl rfl (opV_move rfl rfl) ?_
      refine SmG.v hF rfl rfl rfl (opV_move rfl rfl) ?_
      refine SmG.v hF rfl rfl rfl (opV_indexAddr rfl rfl rfl (by simp (disch := omega) only [go_sem, Nat.reduceEqDiff, iteP, elemsL, sumsL, sumD, rowE, rowT, sumD_length, hT, hs, hpk, he1, hLl, hcast] <;> rfl)) ?_
      refine SmG.v hF rfl rfl rfl (opV_load rfl rfl (by simp (disch := omega) only [go_sem, Nat.reduceEqDiff, iteP, elemsL, sumsL, sumD, rowE, rowT, sumD_length, hT, hs, hpk, he1, hLl, hcast] <;> rfl)) ?_
      refine SmG.nil ?_
      refine nextS_normal ?_
      refine Sm.condT hF rfl ?_
      refine Sm.drawG hF (by kernel_rfl) rfl 8 (by kernel_rfl) (by kernel_rfl) ?_
      simp only [List.take_succ_cons, List.take_zero, List.take_nil]
      refine Head.v hF rfl rfl rfl (opV_move rfl rfl) ?_
      refine Head.v hF rfl rfl rfl (opV_move rfl rfl) ?_
      refine Head.v hF rfl rfl rfl (opV_move rfl rfl) ?_
      refine Head.v hF rfl rfl rfl (opV_indexAddr rfl rfl rfl (by simp (disch := omega) only [go_sem, Nat.reduceEqDiff, iteP, elemsL, sumsL, sumD, rowE, rowT, sumD_length, hT, hs, hpk, he1, hLl, hcast] <;> rfl)) ?_
      refine Head.v hF rfl rfl rfl (opV_load rfl rfl (by simp (disch := omega) only [go_sem, Nat.reduceEqDiff, iteP, elemsL, sumsL, sumD, rowE, rowT, sumD_length, hT, hs, hpk, he1, hLl, hcast] <;> rfl)) ?_
      refine Head.v hF rfl rfl rfl (opV_load rfl rfl (by simp (disch := omega) only [go_sem, Nat.reduceEqDiff, iteP, elemsL, sumsL, sumD, rowE, rowT, sumD_length, hT, hs, hpk, he1, hLl, hcast] <;> rfl)) ?_
      refine Head.c hF rfl rfl (by kernel_rfl) rfl rfl rfl (k2) ?_
      refine Head.v hF rfl rfl rfl (opV_buildSlice rfl rfl (by simp (disch := omega) only [go_sem, Nat.reduceEqDiff, iteP, elemsL, sumsL, sumD, rowE, rowT, sumD_length, hT, hs, hpk, he1, hLl, hcast] <;> rfl)) ?_
      refine Head.last ⟨rfl, ?_⟩
      simp only [List.drop_succ_cons, List.drop_zero, List.drop_nil, List.nil_append, List.cons_append]
      -- stands at 54 of region 8: {"dst": 54, "op": "call", "a": [{"callee": ["builtin", "Callee.builtin Builtin.append"], "args": [["tmp", 46], ["tmp", 53]], "types": [23, 23]}], "ty"
      refine SmG.appendOwn hF elBB rfl rfl rfl rfl rfl rfl rfl (by first | rfl | (simp; done) | (simp; omega)) (Or.inl rfl) (by (repeat' first | exact freeH_nil _ | refine freeH_same ?_ | refine freeH_cons ?_ (free_dB _ _ _) | refine freeH_cons ?_ (free_dB _ _ [_]) | refine freeH_cons ?_ (free_row (by rfl)))) ?_ ?_ ?_; rotate_left; rotate_left; simp only [killV, Pk.v, V.free, rep, bne_self_eq_false, Nat.reduceAdd, Nat.reduceBNe, Nat.reduceBEq, Nat.reduceEqDiff, reduceIte, Bool.false_eq_true]
      rotate_left
      · simp only [List.length_map, List.length_cons, List.length_nil]; omega
      · simp only [List.length_map, List.length_cons, List.length_nil]; omega
      rw [rowE_one, ← hnext]
      refine SmG.cut 1 (by exact lt_one _ _ _) ?_; simp only [Pk.v, cutE, cutH, V.lt, Nat.reduceAdd, Nat.reduceLT, decide_true, decide_false, reduceIte, Bool.false_eq_true, Nat.lt_irrefl, Nat.not_lt_zero, Nat.zero_lt_one, Nat.zero_lt_succ, Nat.zero_lt_two, Nat.one_lt_two]
      refine SmG.v hF rfl rfl rfl (opV_assign rfl rfl) ?_
      refine SmG.nil ?_
      refine blockS_normal ?_
      refine nextS_normal ?_
      refine Sm.regionG hF rfl ?_
      refine SmG.v hF rfl rfl rfl (opV_move rfl rfl) ?_
      refine SmG.v hF rfl rfl rfl (opV_bin rfl rfl rfl (by first | exact rd_add _ _ _ _ _ (wrapI64 _ (by omega)) | exact rb_add _ _ _ _ _ _ _)) ?_
      refine SmG.v hF rfl rfl rfl (opV_assign rfl rfl) ?_
      refine SmG.nil ?_
      refine nextS_normal ?_
      exact ⟨⟨k + 1, by omega⟩, by show z.length - (k + 1) < z.length - k; omega, by exact St.le_of (by simp [leE, look, constD]) (by simp [leH, look, rep]) (by first | exact Nat.le_refl _ | (dsimp only; omega))⟩
    | false =>
      have k2 : CallsD Tryd.prog G 37 [sumD T, sumD q] (bytesL (Sha.join false q T)) := pairBytes_D T q hT hq32 G

      refine Sm.seq ?_
      refine Sm.seq ?_
      refine Sm.regionG hF rfl ?_
      refine SmG.v hF rfl rfl rfl (opV_move rfl rfl) ?_
      refine SmG.v hF rfl rfl rfl (opV_move rfl rfl) ?_
      refine SmG.v hF rfl rfl rfl (opV_len rfl rfl (by simp (disch := omega) only [go_sem, Nat.reduceEqDiff, iteP, elemsL, sumsL, sumD, rowE, rowT, sumD_length, hT, hs, hpk, he1, hLl, hcast] <;> rfl)) ?_
      refine SmG.v hF rfl rfl rfl (opV_bin rfl rfl rfl (by first | exact rd_lssT _ _ _ _ _ (by omega) | exact rd_lssF _ _ _ _ _ (by omega) | exact rb_lss _ _ _ _ _ _ _)) ?_
      refine SmG.v hF rfl rfl rfl (opV_move rfl rfl) ?_
      first | refine SmG.v hF rfl rfl rfl (opV_move rfl rfl) ?_ | refine SmG.pass hF rfl rfl rfl ?_
      first | refine SmG.v hF rfl rfl rfl (opV_move rfl rfl) ?_ | refine SmG.pass hF rfl rfl rfl ?_
      first | refine SmG.v hF rfl rfl rfl (opV_len rfl rfl (by simp (disch := omega) only [go_sem, Nat.reduceEqDiff, iteP, elemsL, sumsL, sumD, rowE, rowT, sumD_length, hT, hs, hpk, he1, hLl, hcast] <;> rfl)) ?_ | refine SmG.pass hF rfl rfl rfl ?_
      first | refine SmG.v hF rfl rfl rfl (opV_bin rfl rfl rfl (by first | exact rd_lssT _ _ _ _ _ (by omega) | exact rd_lssF _ _ _ _ _ (by omega) | exact rb_lss _ _ _ _ _ _ _)) ?_ | refine SmG.pass hF rfl rfl rfl ?_
      first | refine SmG.v hF rfl rfl rfl (opV_pickT rfl rfl rfl) ?_ | refine SmG.v hF rfl rfl rfl (opV_pickF rfl rfl rfl) ?_
      refine SmG.nil ?_
      refine nextS_normal ?_
      refine Sm.condT hF rfl ?_
      refine Sm.skip ?_
      refine nextS_normal ?_
      refine Sm.seq ?_
      refine Sm.block ?_
      refine Sm.seq ?_
      refine Sm.regionG hF rfl ?_
      refine SmG.v hF rfl rfl rfl (opV_move rfl rfl) ?_
      refine SmG.v hF rfl rfl rfl (opV_move rfl rfl) ?_
      refine SmG.v hF rfl rfl rfl (opV_len rfl rfl (by simp (disch := omega) only [go_sem, Nat.reduceEqDiff, iteP, elemsL, sumsL, sumD, rowE, rowT, sumD_length, hT, hs, hpk, he1, hLl, hcast] <;> rfl)) ?_
      refine SmG.v hF rfl rfl rfl (opV_bin rfl rfl rfl (by first | exact rd_sub _ _ _ _ _ (wrapI64 _ (by omega)) | exact rb_sub _ _ _ _ _ _ _)) ?_
      refine SmG.v hF rfl rfl rfl (opV_indexAddr rfl rfl rfl (by simp (disch := omega) only [go_sem, Nat.reduceEqDiff, iteP, elemsL, sumsL, sumD, rowE, rowT, sumD_length, hT, hs, hpk, he1, hLl, hcast] <;> rfl)) ?_
      refine SmG.v hF rfl rfl rfl (opV_load rfl rfl (by simp (disch := omega) only [go_sem, Nat.reduceEqDiff, iteP, elemsL, sumsL, sumD, rowE, rowT, sumD_length, hT, hs, hpk, he1, hLl, hcast] <;> rfl)) ?_
      refine SmG.call hF rfl rfl (by kernel_rfl) rfl rfl rfl (k1) ?_
      refine SmG.new hF rfl rfl rfl (opS_alloc rfl al28) ?_
      refine SmG.store hF rfl rfl rfl rfl rfl (by simp (disch := omega) only [go_sem, Nat.reduceEqDiff, iteP, elemsL, sumsL, sumD, rowE, rowT, sumD_length, hT, hs, hpk, he1, hLl, hcast] <;> rfl) ?_
      refine SmG.nil ?_
      refine nextS_normal ?_
      refine Sm.seq ?_
      refine Sm.regionG hF rfl ?_
      refine SmG.v hF rfl rfl rfl (opV_move rfl rfl) ?_
      refine SmG.v hF rfl rfl rfl (opV_move rfl rfl) ?_
      refine SmG.v hF rfl rfl rfl (opV_indexAddr rfl rfl rfl (by simp (disch := omega) only [go_sem, Nat.reduceEqDiff, iteP, elemsL, sumsL, sumD, rowE, rowT, sumD_length, hT, hs, hpk, he1, hLl, hcast] <;> rfl)) ?_
      refine SmG.v hF rfl rfl rfl (opV_load rfl rfl (by simp (disch := omega) only [go_sem, Nat.reduceEqDiff, iteP, elemsL, sumsL, sumD, rowE, rowT, sumD_length, hT, hs, hpk, he1, hLl, hcast] <;> rfl)) ?_
      refine SmG.nil ?_
      refine nextS_normal ?_
      refine Sm.condF hF rfl ?_
      refine Sm.drawG hF (by kernel_rfl) rfl 8 (by kernel_rfl) (by kernel_rfl) ?_
      simp only [List.take_succ_cons, List.take_zero, List.take_nil]
      refine Head.v hF rfl rfl rfl (opV_move rfl rfl) ?_
      refine Head.v hF rfl rfl rfl (opV_load rfl rfl (by simp (disch := omega) only [go_sem, Nat.reduceEqDiff, iteP, elemsL, sumsL, sumD, rowE, rowT, sumD_length, hT, hs, hpk, he1, hLl, hcast] <;> rfl)) ?_
      refine Head.v hF rfl rfl rfl (opV_move rfl rfl) ?_
      refine Head.v hF rfl rfl rfl (opV_move rfl rfl) ?_
      refine Head.v hF rfl rfl rfl (opV_indexAddr rfl rfl rfl (by simp (disch := omega) only [go_sem, Nat.reduceEqDiff, iteP, elemsL, sumsL, sumD, rowE, rowT, sumD_length, hT, hs, hpk, he1, hLl, hcast] <;> rfl)) ?_
      refine Head.v hF rfl rfl rfl (opV_load rfl rfl (by simp (disch := omega) only [go_sem, Nat.reduceEqDiff, iteP, elemsL, sumsL, sumD, rowE, rowT, sumD_length, hT, hs, hpk, he1, hLl, hcast] <;> rfl)) ?_
      refine Head.c hF rfl rfl (by kernel_rfl) rfl rfl rfl (k2) ?_
      refine Head.v hF rfl rfl rfl (opV_buildSlice rfl rfl (by simp (disch := omega) only [go_sem, Nat.reduceEqDiff, iteP, elemsL, sumsL, sumD, rowE, rowT, sumD_length, hT, hs, hpk, he1, hLl, hcast] <;> rfl)) ?_
      refine Head.last ⟨rfl, ?_⟩
      simp only [List.drop_succ_cons, List.drop_zero, List.drop_nil, List.nil_append, List.cons_append]
      -- stands at 63 of region 9: {"dst": 63, "op": "call", "a": [{"callee": ["builtin", "Callee.builtin Builtin.append"], "args": [["tmp", 55], ["tmp", 62]], "types": [23, 23]}], "ty"
      refine SmG.appendOwn hF elBB rfl rfl rfl rfl rfl rfl rfl (by first | rfl | (simp; done) | (simp; omega)) (Or.inl rfl) (by (repeat' first | exact freeH_nil _ | refine freeH_same ?_ | refine freeH_cons ?_ (free_dB _ _ _) | refine freeH_cons ?_ (free_dB _ _ [_]) | refine freeH_cons ?_ (free_row (by rfl)))) ?_ ?_ ?_; rotate_left; rotate_left; simp only [killV, Pk.v, V.free, rep, bne_self_eq_false, Nat.reduceAdd, Nat.reduceBNe, Nat.reduceBEq, Nat.reduceEqDiff, reduceIte, Bool.false_eq_true]
      rotate_left
      · simp only [List.length_map, List.length_cons, List.length_nil]; omega
      · simp only [List.length_map, List.length_cons, List.length_nil]; omega
      rw [rowE_one, ← hnext]
      refine SmG.cut 1 (by exact lt_one _ _ _) ?_; simp only [Pk.v, cutE, cutH, V.lt, Nat.reduceAdd, Nat.reduceLT, decide_true, decide_false, reduceIte, Bool.false_eq_true, Nat.lt_irrefl, Nat.not_lt_zero, Nat.zero_lt_one, Nat.zero_lt_succ, Nat.zero_lt_two, Nat.one_lt_two]
      refine SmG.v hF rfl rfl rfl (opV_assign rfl rfl) ?_
      refine SmG.nil ?_
      refine blockS_normal ?_
      refine nextS_normal ?_
      refine Sm.regionG hF rfl ?_
      refine SmG.v hF rfl rfl rfl (opV_move rfl rfl) ?_
      refine SmG.v hF rfl rfl rfl (opV_bin rfl rfl rfl (by first | exact rd_add _ _ _ _ _ (wrapI64 _ (by omega)) | exact rb_add _ _ _ _ _ _ _)) ?_
      refine SmG.v hF rfl rfl rfl (opV_assign rfl rfl) ?_
      refine SmG.nil ?_
      refine nextS_normal ?_
      exact ⟨⟨k + 1, by omega⟩, by show z.length - (k + 1) < z.length - k; omega, by exact St.le_of (by simp [leE, look, constD]) (by simp [leH, look, rep]) (by first | exact Nat.le_refl _ | (dsimp only; omega))⟩
  · have hke : k = z.length := by omega

    by_cases hkp : k < p.length
    · have hks : ¬ k < ss.length := by omega
      refine Sm.seq ?_
      refine Sm.seq ?_
      refine Sm.regionG hF rfl ?_
      refine SmG.v hF rfl rfl rfl (opV_move rfl rfl) ?_
      refine SmG.v hF rfl rfl rfl (opV_move rfl rfl) ?_
      refine SmG.v hF rfl rfl rfl (opV_len rfl rfl (by simp (disch := omega) only [go_sem, Nat.reduceEqDiff, iteP, sumsL] <;> rfl)) ?_
      refine SmG.v hF rfl rfl rfl (opV_bin rfl rfl rfl (by first | exact rd_lssT _ _ _ _ _ (by omega) | exact rd_lssF _ _ _ _ _ (by omega) | exact rb_lss _ _ _ _ _ _ _)) ?_
      refine SmG.v hF rfl rfl rfl (opV_move rfl rfl) ?_
      first | refine SmG.v hF rfl rfl rfl (opV_move rfl rfl) ?_ | refine SmG.pass hF rfl rfl rfl ?_
      first | refine SmG.v hF rfl rfl rfl (opV_move rfl rfl) ?_ | refine SmG.pass hF rfl rfl rfl ?_
      first | refine SmG.v hF rfl rfl rfl (opV_len rfl rfl (by simp (disch := omega) only [go_sem, Nat.reduceEqDiff, iteP, sumsL] <;> rfl)) ?_ | refine SmG.pass hF rfl rfl rfl ?_
      first | refine SmG.v hF rfl rfl rfl (opV_bin rfl rfl rfl (by first | exact rd_lssT _ _ _ _ _ (by omega) | exact rd_lssF _ _ _ _ _ (by omega) | exact rb_lss _ _ _ _ _ _ _)) ?_ | refine SmG.pass hF rfl rfl rfl ?_
      first | refine SmG.v hF rfl rfl rfl (opV_pickT rfl rfl rfl) ?_ | refine SmG.v hF rfl rfl rfl (opV_pickF rfl rfl rfl) ?_
      refine SmG.nil ?_
      refine nextS_normal ?_
      refine Sm.condF hF rfl ?_
      refine Sm.freeze (l := 0) _ rfl ?_
      simp only [Pk.v, frzE, frzV, dropH, reduceIte, Nat.reduceAdd, Nat.zero_add, List.length_map, List.length_append, Nat.le_refl, true_and, and_self, if_true, Nat.reduceEqDiff, true_and]
      refine Sm.exit ?_
      simp only [nextS, blockS, reduceIte, reduceCtorEq]
      refine Sm.seq ?_
      refine Sm.regionG hF rfl ?_
      refine SmG.v hF rfl rfl rfl (opV_move rfl rfl) ?_
      refine SmG.v hF rfl rfl rfl (opV_assign rfl rfl) ?_
      refine SmG.nil ?_
      refine nextS_normal ?_
      refine Sm.ret ?_
      refine ⟨_, rfl, ?_⟩; dsimp only
      rw [List.take_of_length_le (by omega)]; exact D.le.refl _

    · refine Sm.seq ?_
      refine Sm.seq ?_
      refine Sm.regionG hF rfl ?_
      refine SmG.v hF rfl rfl rfl (opV_move rfl rfl) ?_
      refine SmG.v hF rfl rfl rfl (opV_move rfl rfl) ?_
      refine SmG.v hF rfl rfl rfl (opV_len rfl rfl (by simp (disch := omega) only [go_sem, Nat.reduceEqDiff, iteP, sumsL] <;> rfl)) ?_
      refine SmG.v hF rfl rfl rfl (opV_bin rfl rfl rfl (by first | exact rd_lssT _ _ _ _ _ (by omega) | exact rd_lssF _ _ _ _ _ (by omega) | exact rb_lss _ _ _ _ _ _ _)) ?_
      refine SmG.v hF rfl rfl rfl (opV_move rfl rfl) ?_
      first | refine SmG.v hF rfl rfl rfl (opV_move rfl rfl) ?_ | refine SmG.pass hF rfl rfl rfl ?_
      first | refine SmG.v hF rfl rfl rfl (opV_move rfl rfl) ?_ | refine SmG.pass hF rfl rfl rfl ?_
      first | refine SmG.v hF rfl rfl rfl (opV_len rfl rfl (by simp (disch := omega) only [go_sem, Nat.reduceEqDiff, iteP, sumsL] <;> rfl)) ?_ | refine SmG.pass hF rfl rfl rfl ?_
      first | refine SmG.v hF rfl rfl rfl (opV_bin rfl rfl rfl (by first | exact rd_lssT _ _ _ _ _ (by omega) | exact rd_lssF _ _ _ _ _ (by omega) | exact rb_lss _ _ _ _ _ _ _)) ?_ | refine SmG.pass hF rfl rfl rfl ?_
      first | refine SmG.v hF rfl rfl rfl (opV_pickT rfl rfl rfl) ?_ | refine SmG.v hF rfl rfl rfl (opV_pickF rfl rfl rfl) ?_
      refine SmG.nil ?_
      refine nextS_normal ?_
      refine Sm.condF hF rfl ?_
      refine Sm.freeze (l := 0) _ rfl ?_
      simp only [Pk.v, frzE, frzV, dropH, reduceIte, Nat.reduceAdd, Nat.zero_add, List.length_map, List.length_append, Nat.le_refl, true_and, and_self, if_true, Nat.reduceEqDiff, true_and]
      refine Sm.exit ?_
      simp only [nextS, blockS, reduceIte, reduceCtorEq]
      refine Sm.seq ?_
      refine Sm.regionG hF rfl ?_
      refine SmG.v hF rfl rfl rfl (opV_move rfl rfl) ?_
      refine SmG.v hF rfl rfl rfl (opV_assign rfl rfl) ?_
      refine SmG.nil ?_
      refine nextS_normal ?_
      refine Sm.ret ?_
      refine ⟨_, rfl, ?_⟩; dsimp only
      rw [List.take_of_length_le (by omega)]; exact D.le.refl _
theorem bytesD_map (l : List UInt8) : bytesD (l.map rowB) = some l := by
  induction l with
  | nil => rfl
  | cons b l ih =>
    simp only [List.map_cons, rowB, byteD]
    show (bytesD (l.map rowB)).map (UInt8.ofNat ((b.toNat : Int)).toNat :: ·) = _
    rw [ih]; simp
theorem conv_bytes {P : Program} {s d e : TypeId} (l : List UInt8) (h1 : P.underlying s = some (.slice e)) (h2 : P.underlying d = some .string) (h3 : P.underlying e = some (.int .u8)) : convS P s d (.d (bytesL l)) = some (.d (.v (.string ⟨l.toArray⟩))) := by
  simp only [convS, bytesL, h1, h2, h3, true_or, if_true, bytesD_map, Option.map_some]
theorem rd_sneq (P : Program) (t : TypeId) (x y : Operand) (a b : List UInt8) : reck P (do eqGuard .neq t x y (.string ⟨a.toArray⟩) (.string ⟨b.toArray⟩); binOp .neq t (.string ⟨a.toArray⟩) (.string ⟨b.toArray⟩)) = some (.bool (decide (a ≠ b))) := by
  rw [rb_sneq]
  congr 2
  rw [ByteArray.toList_eq, ByteArray.toList_eq]
  by_cases h : a = b <;> simp [h]
theorem rd_seql (P : Program) (t : TypeId) (x y : Operand) (a b : List UInt8) : reck P (do eqGuard .eql t x y (.string ⟨a.toArray⟩) (.string ⟨b.toArray⟩); binOp .eql t (.string ⟨a.toArray⟩) (.string ⟨b.toArray⟩)) = some (.bool (decide (a = b))) := by
  rw [rb_seql]
  congr 2
  rw [ByteArray.toList_eq, ByteArray.toList_eq]
  by_cases h : a = b <;> simp [h]
/-- One list's bytes and one of others are different and have the same hash. -/
def metAt (x y : List UInt8) : Prop := x ≠ y ∧ Sha.sum x = Sha.sum y
open Classical in
noncomputable def metB (a b : List (List UInt8)) : Bool := decide (Sha.Met a b)
open Classical in
theorem metB_true {a b : List (List UInt8)} (h : Sha.Met a b) : metB a b = true := by unfold metB; exact decide_eq_true h
open Classical in
theorem metB_false {a b : List (List UInt8)} (h : ¬ Sha.Met a b) : metB a b = false := by unfold metB; exact decide_eq_false h

theorem met_D (a b : List (List UInt8)) (ha : Fit' a) (hb : Fit' b) : CallsD Tryd.prog HG 25 [elemsL a, elemsL b] (.v (.bool (metB a b))) := by
  refine CallsD.of Tryd.func25 rfl Tryd.ntmps25 (by simp) ?_; intro F hF; simp only [List.zipIdx_cons, List.zipIdx_nil, List.map_cons, List.map_nil, Nat.zero_add, Nat.reduceAdd]
  refine Sm.seq ?_
  refine Sm.regionG hF rfl ?_
  refine SmG.v hF rfl rfl rfl (opV_assign rfl rfl) ?_
  refine SmG.nil ?_
  refine nextS_normal ?_
  refine Sm.seq ?_
  refine Sm.seq ?_
  refine Sm.regionG hF rfl ?_
  refine SmG.v hF rfl rfl rfl (opV_assign rfl rfl) ?_
  refine SmG.nil ?_
  refine nextS_normal ?_
  refine Sm.block ?_
  refine Sm.loop (ι := {i : Nat // i ≤ a.length ∧ ∀ x ∈ a.take i, ∀ y ∈ b, ¬ metAt x y}) (fun i => ⟨[(0, .d (elemsL a)), (1, .d (elemsL b)), (5, .d (.v (.int .i64 i.1)))], [], 0⟩) (fun i => a.length - i.1) (⟨0, by omega, by simp⟩) ?_ ?_
  · exact St.le_of (by simp [leE, look, constD]) (by simp [leH, look, rep]) (by first | exact Nat.le_refl _ | (dsimp only; omega))
  rintro ⟨i, hi, hno⟩
  simp only
  have hal := ha.1
  have hbl := hb.1

  by_cases hlt : i < a.length
  · have hxi : a[i]? = some a[i] := by simp
    have hxl := ha.2 _ (List.getElem_mem hlt)
    have htk := List.take_succ_eq_append_getElem hlt
    have hmem : a[i] ∈ a := List.getElem_mem hlt
    generalize a[i] = x at hxi hxl htk hmem
    refine Sm.seq ?_
    refine Sm.seq ?_
    refine Sm.regionG hF rfl ?_
    refine SmG.v hF rfl rfl rfl (opV_move rfl rfl) ?_
    refine SmG.v hF rfl rfl rfl (opV_move rfl rfl) ?_
    refine SmG.v hF rfl rfl rfl (opV_len rfl rfl (by simp (disch := omega) only [go_sem, Nat.reduceEqDiff, iteP, elemsL, rowE, bytesL] <;> rfl)) ?_
    refine SmG.v hF rfl rfl rfl (opV_bin rfl rfl rfl (by first | exact rd_lssT _ _ _ _ _ (by omega) | exact rd_lssF _ _ _ _ _ (by omega) | exact rb_lss _ _ _ _ _ _ _)) ?_
    refine SmG.nil ?_
    refine nextS_normal ?_
    refine Sm.condT hF rfl ?_
    refine Sm.skip ?_
    refine nextS_normal ?_
    refine Sm.seq ?_
    refine Sm.block ?_
    refine Sm.seq ?_
    refine Sm.regionG hF rfl ?_
    refine SmG.v hF rfl rfl rfl (opV_assign rfl rfl) ?_
    refine SmG.nil ?_
    refine nextS_normal ?_
    refine Sm.block ?_
    refine Sm.loop (ι := {k : Nat // k ≤ b.length ∧ ∀ y ∈ b.take k, ¬ metAt x y}) (fun k => ⟨[(0, .d (elemsL a)), (1, .d (elemsL b)), (5, .d (.v (.int .i64 i))), (6, .d (.v (.int .i64 k.1)))], [], 0⟩) (fun k => b.length - k.1) (⟨0, by omega, by simp⟩) ?_ ?_
    · exact St.le_of (by simp [leE, look, constD]) (by simp [leH, look, rep]) (by first | exact Nat.le_refl _ | (dsimp only; omega))
    rintro ⟨k, hk, hno2⟩
    simp only

    by_cases hlk : k < b.length
    · have hyk : b[k]? = some b[k] := by simp
      have hyl := hb.2 _ (List.getElem_mem hlk)
      have htk2 := List.take_succ_eq_append_getElem hlk
      have hmem2 : b[k] ∈ b := List.getElem_mem hlk
      generalize b[k] = y at hyk hyl htk2 hmem2
      have hd0 : x ≠ y → decide (x ≠ y) = true := fun h => decide_eq_true h
      by_cases hxy : x = y
      · subst hxy
        have hd : decide (x ≠ x) = false := by simp
        have hstep : ∀ z ∈ b.take (k + 1), ¬ metAt x z := by
          intro z hz
          rw [htk2] at hz
          rcases List.mem_append.1 hz with h | h
          · exact hno2 z h
          · simp at h; subst h; exact fun hm => hm.1 rfl

        refine Sm.seq ?_
        refine Sm.seq ?_
        refine Sm.regionG hF rfl ?_
        refine SmG.v hF rfl rfl rfl (opV_move rfl rfl) ?_
        refine SmG.v hF rfl rfl rfl (opV_move rfl rfl) ?_
        refine SmG.v hF rfl rfl rfl (opV_len rfl rfl (by simp (disch := omega) only [go_sem, Nat.reduceEqDiff, iteP, elemsL, rowE, hxi, hyk] <;> rfl)) ?_
        refine SmG.v hF rfl rfl rfl (opV_bin rfl rfl rfl (by first | exact rd_lssT _ _ _ _ _ (by omega) | exact rd_lssF _ _ _ _ _ (by omega) | exact rb_lss _ _ _ _ _ _ _)) ?_
        refine SmG.nil ?_
        refine nextS_normal ?_
        refine Sm.condT hF rfl ?_
        refine Sm.skip ?_
        refine nextS_normal ?_
        refine Sm.seq ?_
        refine Sm.block ?_
        refine Sm.seq ?_
        refine Sm.drawG hF (by kernel_rfl) rfl 24 (by kernel_rfl) (by kernel_rfl) ?_
        simp only [List.take_succ_cons, List.take_zero, List.take_nil]
        refine Head.v hF rfl rfl rfl (opV_move rfl rfl) ?_
        refine Head.v hF rfl rfl rfl (opV_move rfl rfl) ?_
        refine Head.v hF rfl rfl rfl (opV_indexAddr rfl rfl rfl (by simp (disch := omega) only [go_sem, Nat.reduceEqDiff, iteP, elemsL, rowE, hxi, hyk] <;> rfl)) ?_
        refine Head.v hF rfl rfl rfl (opV_load rfl rfl (by simp (disch := omega) only [go_sem, Nat.reduceEqDiff, iteP, elemsL, rowE, hxi, hyk] <;> rfl)) ?_
        refine Head.v hF rfl rfl rfl (opV_conv rfl rfl (conv_bytes _ Tryd.underlying22 Tryd.underlying9 Tryd.underlying5)) ?_
        refine Head.v hF rfl rfl rfl (opV_move rfl rfl) ?_
        refine Head.v hF rfl rfl rfl (opV_move rfl rfl) ?_
        refine Head.v hF rfl rfl rfl (opV_indexAddr rfl rfl rfl (by simp (disch := omega) only [go_sem, Nat.reduceEqDiff, iteP, elemsL, rowE, hxi, hyk] <;> rfl)) ?_
        refine Head.v hF rfl rfl rfl (opV_load rfl rfl (by simp (disch := omega) only [go_sem, Nat.reduceEqDiff, iteP, elemsL, rowE, hxi, hyk] <;> rfl)) ?_
        refine Head.v hF rfl rfl rfl (opV_conv rfl rfl (conv_bytes _ Tryd.underlying22 Tryd.underlying9 Tryd.underlying5)) ?_
        refine Head.v hF rfl rfl rfl (opV_bin rfl rfl rfl ((rd_sneq _ _ _ _ _ _).trans (by rw [hd]))) ?_
        refine Head.v hF rfl rfl rfl (opV_move rfl rfl) ?_
        first | refine Head.v hF rfl rfl rfl (opV_move rfl rfl) ?_ | refine Head.p hF rfl rfl rfl ?_
        first | refine Head.v hF rfl rfl rfl (opV_move rfl rfl) ?_ | refine Head.p hF rfl rfl rfl ?_
        first | refine Head.v hF rfl rfl rfl (opV_indexAddr rfl rfl rfl (by simp (disch := omega) only [go_sem, Nat.reduceEqDiff, iteP, elemsL, rowE, hxi, hyk] <;> rfl)) ?_ | refine Head.p hF rfl rfl rfl ?_
        first | refine Head.v hF rfl rfl rfl (opV_load rfl rfl (by simp (disch := omega) only [go_sem, Nat.reduceEqDiff, iteP, elemsL, rowE, hxi, hyk] <;> rfl)) ?_ | refine Head.p hF rfl rfl rfl ?_
        refine Head.p hF rfl rfl rfl ?_
        first | refine Head.v hF rfl rfl rfl (opV_move rfl rfl) ?_ | refine Head.p hF rfl rfl rfl ?_
        first | refine Head.v hF rfl rfl rfl (opV_move rfl rfl) ?_ | refine Head.p hF rfl rfl rfl ?_
        first | refine Head.v hF rfl rfl rfl (opV_indexAddr rfl rfl rfl (by simp (disch := omega) only [go_sem, Nat.reduceEqDiff, iteP, elemsL, rowE, hxi, hyk] <;> rfl)) ?_ | refine Head.p hF rfl rfl rfl ?_
        first | refine Head.v hF rfl rfl rfl (opV_load rfl rfl (by simp (disch := omega) only [go_sem, Nat.reduceEqDiff, iteP, elemsL, rowE, hxi, hyk] <;> rfl)) ?_ | refine Head.p hF rfl rfl rfl ?_
        refine Head.p hF rfl rfl rfl ?_
        first | refine Head.v hF rfl rfl rfl (opV_eqA rfl rfl rfl (by simp (disch := omega) only [go_sem, Nat.reduceEqDiff, iteP, elemsL, rowE, hxi, hyk] <;> rfl)) ?_ | refine Head.p hF rfl rfl rfl ?_
        first | refine Head.v hF rfl rfl rfl (opV_pickT rfl rfl rfl) ?_ | refine Head.v hF rfl rfl rfl (opV_pickF rfl rfl rfl) ?_
        refine Head.last ⟨rfl, ?_⟩
        simp only [List.drop_succ_cons, List.drop_zero, List.drop_nil, List.nil_append, List.cons_append]
        refine SmG.nil ?_
        refine nextS_normal ?_
        refine Sm.condF hF rfl ?_
        refine Sm.skip ?_
        refine blockS_normal ?_
        refine nextS_normal ?_
        refine Sm.regionG hF rfl ?_
        refine SmG.v hF rfl rfl rfl (opV_move rfl rfl) ?_
        refine SmG.v hF rfl rfl rfl (opV_bin rfl rfl rfl (by first | exact rd_add _ _ _ _ _ (wrapI64 _ (by omega)) | exact rb_add _ _ _ _ _ _ _)) ?_
        refine SmG.v hF rfl rfl rfl (opV_assign rfl rfl) ?_
        refine SmG.nil ?_
        refine nextS_normal ?_
        exact ⟨⟨k + 1, by omega, hstep⟩, by show b.length - (k + 1) < b.length - k; omega, by exact St.le_of (by simp [leE, look, constD]) (by simp [leH, look, rep]) (by first | exact Nat.le_refl _ | (dsimp only; omega))⟩
      · have hd : decide (x ≠ y) = true := decide_eq_true hxy
        have k1 := sum_D x (by omega)
        have k2 := sum_D y (by omega)
        by_cases hs : Sha.sum x = Sha.sum y
        · have hq := eq_sum (Sha.sum_len x) (Sha.sum_len y)
          rw [decide_eq_true hs] at hq

          refine Sm.seq ?_
          refine Sm.seq ?_
          refine Sm.regionG hF rfl ?_
          refine SmG.v hF rfl rfl rfl (opV_move rfl rfl) ?_
          refine SmG.v hF rfl rfl rfl (opV_move rfl rfl) ?_
          refine SmG.v hF rfl rfl rfl (opV_len rfl rfl (by simp (disch := omega) only [go_sem, Nat.reduceEqDiff, iteP, elemsL, rowE, hxi, hyk, sumD, hq] <;> rfl)) ?_
          refine SmG.v hF rfl rfl rfl (opV_bin rfl rfl rfl (by first | exact rd_lssT _ _ _ _ _ (by omega) | exact rd_lssF _ _ _ _ _ (by omega) | exact rb_lss _ _ _ _ _ _ _)) ?_
          refine SmG.nil ?_
          refine nextS_normal ?_
          refine Sm.condT hF rfl ?_
          refine Sm.skip ?_
          refine nextS_normal ?_
          refine Sm.seq ?_
          refine Sm.block ?_
          refine Sm.seq ?_
          refine Sm.drawG hF (by kernel_rfl) rfl 24 (by kernel_rfl) (by kernel_rfl) ?_
          simp only [List.take_succ_cons, List.take_zero, List.take_nil]
          refine Head.v hF rfl rfl rfl (opV_move rfl rfl) ?_
          refine Head.v hF rfl rfl rfl (opV_move rfl rfl) ?_
          refine Head.v hF rfl rfl rfl (opV_indexAddr rfl rfl rfl (by simp (disch := omega) only [go_sem, Nat.reduceEqDiff, iteP, elemsL, rowE, hxi, hyk, sumD, hq] <;> rfl)) ?_
          refine Head.v hF rfl rfl rfl (opV_load rfl rfl (by simp (disch := omega) only [go_sem, Nat.reduceEqDiff, iteP, elemsL, rowE, hxi, hyk, sumD, hq] <;> rfl)) ?_
          refine Head.v hF rfl rfl rfl (opV_conv rfl rfl (conv_bytes _ Tryd.underlying22 Tryd.underlying9 Tryd.underlying5)) ?_
          refine Head.v hF rfl rfl rfl (opV_move rfl rfl) ?_
          refine Head.v hF rfl rfl rfl (opV_move rfl rfl) ?_
          refine Head.v hF rfl rfl rfl (opV_indexAddr rfl rfl rfl (by simp (disch := omega) only [go_sem, Nat.reduceEqDiff, iteP, elemsL, rowE, hxi, hyk, sumD, hq] <;> rfl)) ?_
          refine Head.v hF rfl rfl rfl (opV_load rfl rfl (by simp (disch := omega) only [go_sem, Nat.reduceEqDiff, iteP, elemsL, rowE, hxi, hyk, sumD, hq] <;> rfl)) ?_
          refine Head.v hF rfl rfl rfl (opV_conv rfl rfl (conv_bytes _ Tryd.underlying22 Tryd.underlying9 Tryd.underlying5)) ?_
          refine Head.v hF rfl rfl rfl (opV_bin rfl rfl rfl ((rd_sneq _ _ _ _ _ _).trans (by rw [hd]))) ?_
          refine Head.v hF rfl rfl rfl (opV_move rfl rfl) ?_
          first | refine Head.v hF rfl rfl rfl (opV_move rfl rfl) ?_ | refine Head.p hF rfl rfl rfl ?_
          first | refine Head.v hF rfl rfl rfl (opV_move rfl rfl) ?_ | refine Head.p hF rfl rfl rfl ?_
          first | refine Head.v hF rfl rfl rfl (opV_indexAddr rfl rfl rfl (by simp (disch := omega) only [go_sem, Nat.reduceEqDiff, iteP, elemsL, rowE, hxi, hyk, sumD, hq] <;> rfl)) ?_ | refine Head.p hF rfl rfl rfl ?_
          first | refine Head.v hF rfl rfl rfl (opV_load rfl rfl (by simp (disch := omega) only [go_sem, Nat.reduceEqDiff, iteP, elemsL, rowE, hxi, hyk, sumD, hq] <;> rfl)) ?_ | refine Head.p hF rfl rfl rfl ?_
          first | refine Head.c hF rfl rfl (by kernel_rfl) rfl rfl rfl (k1) ?_ | refine Head.p hF rfl rfl rfl ?_
          first | refine Head.v hF rfl rfl rfl (opV_move rfl rfl) ?_ | refine Head.p hF rfl rfl rfl ?_
          first | refine Head.v hF rfl rfl rfl (opV_move rfl rfl) ?_ | refine Head.p hF rfl rfl rfl ?_
          first | refine Head.v hF rfl rfl rfl (opV_indexAddr rfl rfl rfl (by simp (disch := omega) only [go_sem, Nat.reduceEqDiff, iteP, elemsL, rowE, hxi, hyk, sumD, hq] <;> rfl)) ?_ | refine Head.p hF rfl rfl rfl ?_
          first | refine Head.v hF rfl rfl rfl (opV_load rfl rfl (by simp (disch := omega) only [go_sem, Nat.reduceEqDiff, iteP, elemsL, rowE, hxi, hyk, sumD, hq] <;> rfl)) ?_ | refine Head.p hF rfl rfl rfl ?_
          first | refine Head.c hF rfl rfl (by kernel_rfl) rfl rfl rfl (k2) ?_ | refine Head.p hF rfl rfl rfl ?_
          first | refine Head.v hF rfl rfl rfl (opV_eqA rfl rfl rfl (by simp (disch := omega) only [go_sem, Nat.reduceEqDiff, iteP, elemsL, rowE, hxi, hyk, sumD, hq] <;> rfl)) ?_ | refine Head.p hF rfl rfl rfl ?_
          first | refine Head.v hF rfl rfl rfl (opV_pickT rfl rfl rfl) ?_ | refine Head.v hF rfl rfl rfl (opV_pickF rfl rfl rfl) ?_
          refine Head.last ⟨rfl, ?_⟩
          simp only [List.drop_succ_cons, List.drop_zero, List.drop_nil, List.nil_append, List.cons_append]
          refine SmG.nil ?_
          refine nextS_normal ?_
          refine Sm.condT hF rfl ?_
          refine Sm.seq ?_
          refine Sm.regionG hF rfl ?_
          refine SmG.v hF rfl rfl rfl (opV_assign rfl rfl) ?_
          refine SmG.nil ?_
          refine nextS_normal ?_
          refine Sm.ret ?_
          simp only [nextS, blockS]
          refine ⟨_, rfl, ?_⟩; dsimp only
          rw [metB_true ⟨x, hmem, y, hmem2, hxy, hs⟩]; exact D.le.refl _
        · have hq := eq_sum (Sha.sum_len x) (Sha.sum_len y)
          rw [decide_eq_false hs] at hq
          have hstep : ∀ z ∈ b.take (k + 1), ¬ metAt x z := by
            intro z hz
            rw [htk2] at hz
            rcases List.mem_append.1 hz with h | h
            · exact hno2 z h
            · simp at h; subst h; exact fun hm => hs hm.2

          refine Sm.seq ?_
          refine Sm.seq ?_
          refine Sm.regionG hF rfl ?_
          refine SmG.v hF rfl rfl rfl (opV_move rfl rfl) ?_
          refine SmG.v hF rfl rfl rfl (opV_move rfl rfl) ?_
          refine SmG.v hF rfl rfl rfl (opV_len rfl rfl (by simp (disch := omega) only [go_sem, Nat.reduceEqDiff, iteP, elemsL, rowE, hxi, hyk, sumD, hq] <;> rfl)) ?_
          refine SmG.v hF rfl rfl rfl (opV_bin rfl rfl rfl (by first | exact rd_lssT _ _ _ _ _ (by omega) | exact rd_lssF _ _ _ _ _ (by omega) | exact rb_lss _ _ _ _ _ _ _)) ?_
          refine SmG.nil ?_
          refine nextS_normal ?_
          refine Sm.condT hF rfl ?_
          refine Sm.skip ?_
          refine nextS_normal ?_
          refine Sm.seq ?_
          refine Sm.block ?_
          refine Sm.seq ?_
          refine Sm.drawG hF (by kernel_rfl) rfl 24 (by kernel_rfl) (by kernel_rfl) ?_
          simp only [List.take_succ_cons, List.take_zero, List.take_nil]
          refine Head.v hF rfl rfl rfl (opV_move rfl rfl) ?_
          refine Head.v hF rfl rfl rfl (opV_move rfl rfl) ?_
          refine Head.v hF rfl rfl rfl (opV_indexAddr rfl rfl rfl (by simp (disch := omega) only [go_sem, Nat.reduceEqDiff, iteP, elemsL, rowE, hxi, hyk, sumD, hq] <;> rfl)) ?_
          refine Head.v hF rfl rfl rfl (opV_load rfl rfl (by simp (disch := omega) only [go_sem, Nat.reduceEqDiff, iteP, elemsL, rowE, hxi, hyk, sumD, hq] <;> rfl)) ?_
          refine Head.v hF rfl rfl rfl (opV_conv rfl rfl (conv_bytes _ Tryd.underlying22 Tryd.underlying9 Tryd.underlying5)) ?_
          refine Head.v hF rfl rfl rfl (opV_move rfl rfl) ?_
          refine Head.v hF rfl rfl rfl (opV_move rfl rfl) ?_
          refine Head.v hF rfl rfl rfl (opV_indexAddr rfl rfl rfl (by simp (disch := omega) only [go_sem, Nat.reduceEqDiff, iteP, elemsL, rowE, hxi, hyk, sumD, hq] <;> rfl)) ?_
          refine Head.v hF rfl rfl rfl (opV_load rfl rfl (by simp (disch := omega) only [go_sem, Nat.reduceEqDiff, iteP, elemsL, rowE, hxi, hyk, sumD, hq] <;> rfl)) ?_
          refine Head.v hF rfl rfl rfl (opV_conv rfl rfl (conv_bytes _ Tryd.underlying22 Tryd.underlying9 Tryd.underlying5)) ?_
          refine Head.v hF rfl rfl rfl (opV_bin rfl rfl rfl ((rd_sneq _ _ _ _ _ _).trans (by rw [hd]))) ?_
          refine Head.v hF rfl rfl rfl (opV_move rfl rfl) ?_
          first | refine Head.v hF rfl rfl rfl (opV_move rfl rfl) ?_ | refine Head.p hF rfl rfl rfl ?_
          first | refine Head.v hF rfl rfl rfl (opV_move rfl rfl) ?_ | refine Head.p hF rfl rfl rfl ?_
          first | refine Head.v hF rfl rfl rfl (opV_indexAddr rfl rfl rfl (by simp (disch := omega) only [go_sem, Nat.reduceEqDiff, iteP, elemsL, rowE, hxi, hyk, sumD, hq] <;> rfl)) ?_ | refine Head.p hF rfl rfl rfl ?_
          first | refine Head.v hF rfl rfl rfl (opV_load rfl rfl (by simp (disch := omega) only [go_sem, Nat.reduceEqDiff, iteP, elemsL, rowE, hxi, hyk, sumD, hq] <;> rfl)) ?_ | refine Head.p hF rfl rfl rfl ?_
          first | refine Head.c hF rfl rfl (by kernel_rfl) rfl rfl rfl (k1) ?_ | refine Head.p hF rfl rfl rfl ?_
          first | refine Head.v hF rfl rfl rfl (opV_move rfl rfl) ?_ | refine Head.p hF rfl rfl rfl ?_
          first | refine Head.v hF rfl rfl rfl (opV_move rfl rfl) ?_ | refine Head.p hF rfl rfl rfl ?_
          first | refine Head.v hF rfl rfl rfl (opV_indexAddr rfl rfl rfl (by simp (disch := omega) only [go_sem, Nat.reduceEqDiff, iteP, elemsL, rowE, hxi, hyk, sumD, hq] <;> rfl)) ?_ | refine Head.p hF rfl rfl rfl ?_
          first | refine Head.v hF rfl rfl rfl (opV_load rfl rfl (by simp (disch := omega) only [go_sem, Nat.reduceEqDiff, iteP, elemsL, rowE, hxi, hyk, sumD, hq] <;> rfl)) ?_ | refine Head.p hF rfl rfl rfl ?_
          first | refine Head.c hF rfl rfl (by kernel_rfl) rfl rfl rfl (k2) ?_ | refine Head.p hF rfl rfl rfl ?_
          first | refine Head.v hF rfl rfl rfl (opV_eqA rfl rfl rfl (by simp (disch := omega) only [go_sem, Nat.reduceEqDiff, iteP, elemsL, rowE, hxi, hyk, sumD, hq] <;> rfl)) ?_ | refine Head.p hF rfl rfl rfl ?_
          first | refine Head.v hF rfl rfl rfl (opV_pickT rfl rfl rfl) ?_ | refine Head.v hF rfl rfl rfl (opV_pickF rfl rfl rfl) ?_
          refine Head.last ⟨rfl, ?_⟩
          simp only [List.drop_succ_cons, List.drop_zero, List.drop_nil, List.nil_append, List.cons_append]
          refine SmG.nil ?_
          refine nextS_normal ?_
          refine Sm.condF hF rfl ?_
          refine Sm.skip ?_
          refine blockS_normal ?_
          refine nextS_normal ?_
          refine Sm.regionG hF rfl ?_
          refine SmG.v hF rfl rfl rfl (opV_move rfl rfl) ?_
          refine SmG.v hF rfl rfl rfl (opV_bin rfl rfl rfl (by first | exact rd_add _ _ _ _ _ (wrapI64 _ (by omega)) | exact rb_add _ _ _ _ _ _ _)) ?_
          refine SmG.v hF rfl rfl rfl (opV_assign rfl rfl) ?_
          refine SmG.nil ?_
          refine nextS_normal ?_
          exact ⟨⟨k + 1, by omega, hstep⟩, by show b.length - (k + 1) < b.length - k; omega, by exact St.le_of (by simp [leE, look, constD]) (by simp [leH, look, rep]) (by first | exact Nat.le_refl _ | (dsimp only; omega))⟩

    · have hstep : ∀ z ∈ a.take (i + 1), ∀ y ∈ b, ¬ metAt z y := by
        intro z hz y hy
        rw [htk] at hz
        rw [List.take_of_length_le (by omega)] at hno2
        rcases List.mem_append.1 hz with h | h
        · exact hno z h y hy
        · simp at h; subst h; exact hno2 y hy
      refine Sm.seq ?_
      refine Sm.seq ?_
      refine Sm.regionG hF rfl ?_
      refine SmG.v hF rfl rfl rfl (opV_move rfl rfl) ?_
      refine SmG.v hF rfl rfl rfl (opV_move rfl rfl) ?_
      refine SmG.v hF rfl rfl rfl (opV_len rfl rfl (by simp (disch := omega) only [go_sem, Nat.reduceEqDiff, iteP, elemsL] <;> rfl)) ?_
      refine SmG.v hF rfl rfl rfl (opV_bin rfl rfl rfl (by first | exact rd_lssT _ _ _ _ _ (by omega) | exact rd_lssF _ _ _ _ _ (by omega) | exact rb_lss _ _ _ _ _ _ _)) ?_
      refine SmG.nil ?_
      refine nextS_normal ?_
      refine Sm.condF hF rfl ?_
      refine Sm.exit ?_
      simp only [nextS, blockS, reduceIte, reduceCtorEq]
      refine Sm.regionG hF rfl ?_
      refine SmG.v hF rfl rfl rfl (opV_move rfl rfl) ?_
      refine SmG.v hF rfl rfl rfl (opV_bin rfl rfl rfl (by first | exact rd_add _ _ _ _ _ (wrapI64 _ (by omega)) | exact rb_add _ _ _ _ _ _ _)) ?_
      refine SmG.v hF rfl rfl rfl (opV_assign rfl rfl) ?_
      refine SmG.nil ?_
      refine nextS_normal ?_
      exact ⟨⟨i + 1, by omega, hstep⟩, by show a.length - (i + 1) < a.length - i; omega, by exact St.le_of (by simp [leE, look, constD]) (by simp [leH, look, rep]) (by first | exact Nat.le_refl _ | (dsimp only; omega))⟩

  · refine Sm.seq ?_
    refine Sm.seq ?_
    refine Sm.regionG hF rfl ?_
    refine SmG.v hF rfl rfl rfl (opV_move rfl rfl) ?_
    refine SmG.v hF rfl rfl rfl (opV_move rfl rfl) ?_
    refine SmG.v hF rfl rfl rfl (opV_len rfl rfl (by simp (disch := omega) only [go_sem, Nat.reduceEqDiff, iteP, elemsL] <;> rfl)) ?_
    refine SmG.v hF rfl rfl rfl (opV_bin rfl rfl rfl (by first | exact rd_lssT _ _ _ _ _ (by omega) | exact rd_lssF _ _ _ _ _ (by omega) | exact rb_lss _ _ _ _ _ _ _)) ?_
    refine SmG.nil ?_
    refine nextS_normal ?_
    refine Sm.condF hF rfl ?_
    refine Sm.exit ?_
    simp only [nextS, blockS, reduceIte, reduceCtorEq]
    refine Sm.seq ?_
    refine Sm.regionG hF rfl ?_
    refine SmG.v hF rfl rfl rfl (opV_assign rfl rfl) ?_
    refine SmG.nil ?_
    refine nextS_normal ?_
    refine Sm.ret ?_
    refine ⟨_, rfl, ?_⟩; dsimp only
    rw [metB_false ?_]
    · exact D.le.refl _
    · rintro ⟨x, hx, y, hy, h1, h2⟩
      rw [List.take_of_length_le (by omega)] at hno
      exact hno x hx y hy ⟨h1, h2⟩
end Go.Proofs.YtmindblfbijaaaaDoor
namespace Go.Proofs.YtmindblfbijaaaaDoor
open Go.RowKit
set_option maxRecDepth 100000
theorem chain_lens : ∀ (r : List (Bool × List UInt8)) (x : List UInt8), x.length ≤ 900001 → (∀ e ∈ r, e.2.length = 32) → ∀ e ∈ Sha.chain x r, e.length ≤ 900001 := by
  intro r
  induction r with
  | nil => intro x hx _ e he; simp [Sha.chain] at he; rw [he]; exact hx
  | cons e r ih =>
    obtain ⟨s, q⟩ := e
    intro x hx hq e he
    have hj : (Sha.join s q (Sha.sum x)).length ≤ 900001 := by
      have h1 := hq (s, q) (by simp)
      have h2 := Sha.sum_len x
      cases s <;> simp [Sha.join] <;> simp at h1 <;> omega
    simp only [Sha.chain, List.mem_cons] at he
    rcases he with rfl | he
    · exact hx
    · exact ih _ hj (fun e he => hq e (by simp [he])) e he
theorem chain_fit (ss : List Bool) (p : List (List UInt8)) (b : List UInt8) (hb : b.length ≤ 900000) (hp : Len32' p) (hpl : p.length ≤ 900000) : Fit' (Sha.chain (0 :: b) (ss.zip p)) := by
  refine ⟨?_, chain_lens _ _ (by simp; omega) fun e he => hp _ (List.of_mem_zip he).2⟩
  rw [Sha.chain_length, List.length_zip]; omega

theorem proofs_D (xs : List (List UInt8)) (o : List UInt8) (hx : xs.length ≤ 9223372036854775807) (ho : o.length ≤ 9223372036854775807) : CallsD Tryd.prog HG 4 [elemsL xs, bytesL o] (.v (.bool true)) := by
  obtain ⟨hF', hl⟩ := fit_elems xs
  by_cases ho40 : 40 < o.length
  · refine CallsD.of Tryd.func4 rfl Tryd.ntmps4 (by simp) ?_; intro F hF; simp only [List.zipIdx_cons, List.zipIdx_nil, List.map_cons, List.map_nil, Nat.zero_add, Nat.reduceAdd]
    refine Sm.seq ?_
    refine Sm.regionG hF rfl ?_
    refine SmG.v hF rfl rfl rfl (opV_assign rfl rfl) ?_
    refine SmG.nil ?_
    refine nextS_normal ?_
    refine Sm.seq ?_
    refine Sm.regionG hF rfl ?_
    refine SmG.call hF rfl rfl (by kernel_rfl) rfl rfl rfl (sanity_D) ?_
    refine SmG.v hF rfl rfl rfl (opV_assign rfl rfl) ?_
    refine SmG.nil ?_
    refine nextS_normal ?_
    refine Sm.seq ?_
    refine Sm.regionG hF rfl ?_
    refine SmG.v hF rfl rfl rfl (opV_move rfl rfl) ?_
    refine SmG.call hF rfl rfl (by kernel_rfl) rfl rfl rfl (elements_D xs hx) ?_
    refine SmG.v hF rfl rfl rfl (opV_assign rfl rfl) ?_
    refine SmG.nil ?_
    refine nextS_normal ?_
    refine Sm.seq ?_
    refine Sm.seq ?_
    refine Sm.regionG hF rfl ?_
    refine SmG.v hF rfl rfl rfl (opV_move rfl rfl) ?_
    refine SmG.v hF rfl rfl rfl (opV_len rfl rfl (by simp (disch := omega) only [go_sem, Nat.reduceEqDiff, iteP, elemsL, bytesL] <;> rfl)) ?_
    refine SmG.v hF rfl rfl rfl (opV_bin rfl rfl rfl (by first | exact rd_gtrT _ _ _ _ _ (by omega) | exact rd_gtrF _ _ _ _ _ (by omega) | exact rb_gtr _ _ _ _ _ _ _)) ?_
    refine SmG.nil ?_
    refine nextS_normal ?_
    refine Sm.condT hF rfl ?_
    refine Sm.seq ?_
    refine Sm.regionG hF rfl ?_
    refine SmG.v hF rfl rfl rfl (opV_move rfl rfl) ?_
    refine SmG.v hF rfl rfl rfl (opV_assign rfl rfl) ?_
    refine SmG.nil ?_
    refine nextS_normal ?_
    refine Sm.ret ?_
    simp only [nextS, blockS]
    refine ⟨_, rfl, ?_⟩; dsimp only
    exact D.le.refl _
  refine CallsD.of Tryd.func4 rfl Tryd.ntmps4 (by simp) ?_; intro F hF; simp only [List.zipIdx_cons, List.zipIdx_nil, List.map_cons, List.map_nil, Nat.zero_add, Nat.reduceAdd]
  refine Sm.seq ?_
  refine Sm.regionG hF rfl ?_
  refine SmG.v hF rfl rfl rfl (opV_assign rfl rfl) ?_
  refine SmG.nil ?_
  refine nextS_normal ?_
  refine Sm.seq ?_
  refine Sm.regionG hF rfl ?_
  refine SmG.call hF rfl rfl (by kernel_rfl) rfl rfl rfl (sanity_D) ?_
  refine SmG.v hF rfl rfl rfl (opV_assign rfl rfl) ?_
  refine SmG.nil ?_
  refine nextS_normal ?_
  refine Sm.seq ?_
  refine Sm.regionG hF rfl ?_
  refine SmG.v hF rfl rfl rfl (opV_move rfl rfl) ?_
  refine SmG.call hF rfl rfl (by kernel_rfl) rfl rfl rfl (elements_D xs hx) ?_
  refine SmG.v hF rfl rfl rfl (opV_assign rfl rfl) ?_
  refine SmG.nil ?_
  refine nextS_normal ?_
  refine Sm.seq ?_
  refine Sm.seq ?_
  refine Sm.regionG hF rfl ?_
  refine SmG.v hF rfl rfl rfl (opV_move rfl rfl) ?_
  refine SmG.v hF rfl rfl rfl (opV_len rfl rfl (by simp (disch := omega) only [go_sem, Nat.reduceEqDiff, iteP, elemsL, bytesL] <;> rfl)) ?_
  refine SmG.v hF rfl rfl rfl (opV_bin rfl rfl rfl (by first | exact rd_gtrT _ _ _ _ _ (by omega) | exact rd_gtrF _ _ _ _ _ (by omega) | exact rb_gtr _ _ _ _ _ _ _)) ?_
  refine SmG.nil ?_
  refine nextS_normal ?_
  refine Sm.condF hF rfl ?_
  refine Sm.skip ?_
  refine nextS_normal ?_
  refine Sm.seq ?_
  refine Sm.regionG hF rfl ?_
  refine SmG.v hF rfl rfl rfl (opV_move rfl rfl) ?_
  refine SmG.call hF rfl rfl (by kernel_rfl) rfl rfl rfl (root_D _ hF') ?_
  refine SmG.new hF rfl rfl rfl (opS_alloc rfl al28) ?_
  refine SmG.store hF rfl rfl rfl rfl rfl (by simp (disch := omega) only [go_sem, Nat.reduceEqDiff, iteP, elemsL, bytesL] <;> rfl) ?_
  refine SmG.nil ?_
  refine nextS_normal ?_
  refine Sm.seq ?_
  refine Sm.seq ?_
  refine Sm.regionG hF rfl ?_
  refine SmG.v hF rfl rfl rfl (opV_assign rfl rfl) ?_
  refine SmG.nil ?_
  refine nextS_normal ?_
  refine Sm.block ?_
  generalize elems xs = l at hF' hl ⊢
  have hR := Sha.root_len l
  have hcp := fun i b => Sha.check_proof (l := l) (i := i) (b := b)
  generalize hroot : Sha.root l = R at hR hcp ⊢
  refine Sm.loop (ι := {k : Nat // k ≤ l.length}) (fun k => ⟨[(1, .d (bytesL o)), (5, .d (.v (.bool true))), (6, .d (elemsL l)), (7, .ref 0 0 0), (8, .d (.v (.int .i64 k.1)))], [(0, dB 32 [rowS R])], 1⟩) (fun k => l.length - k.1) (⟨0, by omega⟩) ?_ ?_
  · exact St.le_of (by first | (simp [leE, look, constD] <;> omega) | (simp [leE, look, constD, true_and] <;> omega)) (by simp only [leH, look, rep, reduceIte, Nat.reduceEqDiff, List.set_cons_zero, List.set_cons_succ, true_and, and_self, and_true, and_false, false_and, if_true, if_false] <;> (repeat' first | rfl | constructor)) (by first | exact Nat.le_refl _ | (dsimp only; omega))
  rintro ⟨k, hk⟩
  simp only

  by_cases hlt : k < l.length
  · have hk1 : l[k]? = some l[k] := by simp
    have c0 := proof_D l k hF' hlt
    have hP : Len32' (Sha.proof l k) := proof_len32' l k
    have hPl := Sha.proof_pow 4 l k (by omega)
    have hb := hF'.2 _ (List.getElem_mem hlt)
    have hck := hcp k l[k] hk1
    generalize l[k] = b at hk1 hb hck
    generalize Sha.proof l k = p at c0 hP hPl hck
    have c1 := check_D R b l.length k p hR hb hP (by omega) (by omega)
    rw [hck] at c1
    by_cases hob : o = b
    · subst hob
      have hd : decide (o ≠ o) = false := by simp

      refine Sm.seq ?_
      refine Sm.seq ?_
      refine Sm.regionG hF rfl ?_
      refine SmG.v hF rfl rfl rfl (opV_move rfl rfl) ?_
      refine SmG.v hF rfl rfl rfl (opV_move rfl rfl) ?_
      refine SmG.v hF rfl rfl rfl (opV_len rfl rfl (by simp (disch := omega) only [go_sem, Nat.reduceEqDiff, iteP, hk1, elemsL, rowE, sumsL, sumD, sumD_length, hR] <;> rfl)) ?_
      refine SmG.v hF rfl rfl rfl (opV_bin rfl rfl rfl (by first | exact rd_lssT _ _ _ _ _ (by omega) | exact rd_lssF _ _ _ _ _ (by omega) | exact rb_lss _ _ _ _ _ _ _)) ?_
      refine SmG.nil ?_
      refine nextS_normal ?_
      refine Sm.condT hF rfl ?_
      refine Sm.skip ?_
      refine nextS_normal ?_
      refine Sm.seq ?_
      refine Sm.block ?_
      refine Sm.seq ?_
      refine Sm.regionG hF rfl ?_
      refine SmG.v hF rfl rfl rfl (opV_move rfl rfl) ?_
      refine SmG.v hF rfl rfl rfl (opV_move rfl rfl) ?_
      refine SmG.call hF rfl rfl (by kernel_rfl) rfl rfl rfl (c0) ?_
      refine SmG.v hF rfl rfl rfl (opV_move rfl rfl) ?_
      refine SmG.v hF rfl rfl rfl (by first | exact opV_extract rfl rfl rfl | exact opV_extract0 rfl rfl) ?_
      refine SmG.v hF rfl rfl rfl (by first | exact opV_extract rfl rfl rfl | exact opV_extractS rfl rfl rfl) ?_
      refine SmG.v hF rfl rfl rfl (opV_assign rfl rfl) ?_
      refine SmG.v hF rfl rfl rfl (opV_assign rfl rfl) ?_
      refine SmG.nil ?_
      refine nextS_normal ?_
      refine Sm.seq ?_
      refine Sm.seq ?_
      refine Sm.drawG hF (by kernel_rfl) rfl 20 (by kernel_rfl) (by kernel_rfl) ?_
      simp only [List.take_succ_cons, List.take_zero, List.take_nil]
      refine Head.v hF rfl rfl rfl (opV_move rfl rfl) ?_
      refine Head.v hF rfl rfl rfl (opV_bin rfl rfl rfl (by first | exact rd_neqT _ _ _ _ _ (by omega) | exact rd_neqF _ _ _ _ _ (by omega) | exact rb_neq _ _ _ _ _ _ _)) ?_
      refine Head.v hF rfl rfl rfl (opV_move rfl rfl) ?_
      first | refine Head.v hF rfl rfl rfl (opV_move rfl rfl) ?_ | refine Head.p hF rfl rfl rfl ?_
      first | refine Head.v hF rfl rfl rfl (opV_len rfl rfl (by simp (disch := omega) only [go_sem, Nat.reduceEqDiff, iteP, hk1, elemsL, rowE, sumsL, sumD, sumD_length, hR] <;> rfl)) ?_ | refine Head.p hF rfl rfl rfl ?_
      first | refine Head.v hF rfl rfl rfl (opV_bin rfl rfl rfl (by first | exact rd_gtrT _ _ _ _ _ (by omega) | exact rd_gtrF _ _ _ _ _ (by omega) | exact rb_gtr _ _ _ _ _ _ _)) ?_ | refine Head.p hF rfl rfl rfl ?_
      first | refine Head.v hF rfl rfl rfl (opV_pickT rfl rfl rfl) ?_ | refine Head.v hF rfl rfl rfl (opV_pickF rfl rfl rfl) ?_
      refine Head.v hF rfl rfl rfl (opV_move rfl rfl) ?_
      first | refine Head.v hF rfl rfl rfl (opV_load rfl rfl (by simp (disch := omega) only [go_sem, Nat.reduceEqDiff, iteP, hk1, elemsL, rowE, sumsL, sumD, sumD_length, hR] <;> rfl)) ?_ | refine Head.p hF rfl rfl rfl ?_
      first | refine Head.v hF rfl rfl rfl (opV_move rfl rfl) ?_ | refine Head.p hF rfl rfl rfl ?_
      first | refine Head.v hF rfl rfl rfl (opV_len rfl rfl (by simp (disch := omega) only [go_sem, Nat.reduceEqDiff, iteP, hk1, elemsL, rowE, sumsL, sumD, sumD_length, hR] <;> rfl)) ?_ | refine Head.p hF rfl rfl rfl ?_
      first | refine Head.v hF rfl rfl rfl (opV_move rfl rfl) ?_ | refine Head.p hF rfl rfl rfl ?_
      first | refine Head.v hF rfl rfl rfl (opV_move rfl rfl) ?_ | refine Head.p hF rfl rfl rfl ?_
      first | refine Head.v hF rfl rfl rfl (opV_move rfl rfl) ?_ | refine Head.p hF rfl rfl rfl ?_
      first | refine Head.v hF rfl rfl rfl (opV_indexAddr rfl rfl rfl (by simp (disch := omega) only [go_sem, Nat.reduceEqDiff, iteP, hk1, elemsL, rowE, sumsL, sumD, sumD_length, hR] <;> rfl)) ?_ | refine Head.p hF rfl rfl rfl ?_
      first | refine Head.v hF rfl rfl rfl (opV_load rfl rfl (by simp (disch := omega) only [go_sem, Nat.reduceEqDiff, iteP, hk1, elemsL, rowE, sumsL, sumD, sumD_length, hR] <;> rfl)) ?_ | refine Head.p hF rfl rfl rfl ?_
      first | refine Head.v hF rfl rfl rfl (opV_move rfl rfl) ?_ | refine Head.p hF rfl rfl rfl ?_
      first | refine Head.c hF rfl rfl (by kernel_rfl) rfl rfl rfl (c1) ?_ | refine Head.p hF rfl rfl rfl ?_
      first | refine Head.v hF rfl rfl rfl (opV_un rfl rfl (by first | exact rd_notT _ | exact rd_notF _ | exact rd_not _)) ?_ | refine Head.p hF rfl rfl rfl ?_
      first | refine Head.v hF rfl rfl rfl (opV_pickT rfl rfl rfl) ?_ | refine Head.v hF rfl rfl rfl (opV_pickF rfl rfl rfl) ?_
      refine Head.last ⟨rfl, ?_⟩
      simp only [List.drop_succ_cons, List.drop_zero, List.drop_nil, List.nil_append, List.cons_append]
      refine SmG.nil ?_
      refine nextS_normal ?_
      refine Sm.condF hF rfl ?_
      refine Sm.skip ?_
      refine nextS_normal ?_
      refine Sm.seq ?_
      refine Sm.drawG hF (by kernel_rfl) rfl 36 (by kernel_rfl) (by kernel_rfl) ?_
      simp only [List.take_succ_cons, List.take_zero, List.take_nil]
      refine Head.v hF rfl rfl rfl (opV_move rfl rfl) ?_
      refine Head.v hF rfl rfl rfl (opV_conv rfl rfl (conv_bytes _ Tryd.underlying22 Tryd.underlying9 Tryd.underlying5)) ?_
      refine Head.v hF rfl rfl rfl (opV_move rfl rfl) ?_
      refine Head.v hF rfl rfl rfl (opV_move rfl rfl) ?_
      refine Head.v hF rfl rfl rfl (opV_indexAddr rfl rfl rfl (by simp (disch := omega) only [go_sem, Nat.reduceEqDiff, iteP, hk1, elemsL, rowE, sumsL, sumD, sumD_length, hR] <;> rfl)) ?_
      refine Head.v hF rfl rfl rfl (opV_load rfl rfl (by simp (disch := omega) only [go_sem, Nat.reduceEqDiff, iteP, hk1, elemsL, rowE, sumsL, sumD, sumD_length, hR] <;> rfl)) ?_
      refine Head.v hF rfl rfl rfl (opV_conv rfl rfl (conv_bytes _ Tryd.underlying22 Tryd.underlying9 Tryd.underlying5)) ?_
      refine Head.v hF rfl rfl rfl (opV_bin rfl rfl rfl ((rd_sneq _ _ _ _ _ _).trans (by rw [hd]))) ?_
      refine Head.v hF rfl rfl rfl (opV_move rfl rfl) ?_
      first | refine Head.v hF rfl rfl rfl (opV_load rfl rfl (by simp (disch := omega) only [go_sem, Nat.reduceEqDiff, iteP, hk1, elemsL, rowE, sumsL, sumD, sumD_length, hR] <;> rfl)) ?_ | refine Head.p hF rfl rfl rfl ?_
      first | refine Head.v hF rfl rfl rfl (opV_move rfl rfl) ?_ | refine Head.p hF rfl rfl rfl ?_
      first | refine Head.v hF rfl rfl rfl (opV_len rfl rfl (by simp (disch := omega) only [go_sem, Nat.reduceEqDiff, iteP, hk1, elemsL, rowE, sumsL, sumD, sumD_length, hR] <;> rfl)) ?_ | refine Head.p hF rfl rfl rfl ?_
      first | refine Head.v hF rfl rfl rfl (opV_move rfl rfl) ?_ | refine Head.p hF rfl rfl rfl ?_
      first | refine Head.v hF rfl rfl rfl (opV_move rfl rfl) ?_ | refine Head.p hF rfl rfl rfl ?_
      first | refine Head.v hF rfl rfl rfl (opV_move rfl rfl) ?_ | refine Head.p hF rfl rfl rfl ?_
      refine Head.p hF rfl rfl rfl ?_
      first | refine Head.v hF rfl rfl rfl (opV_pickT rfl rfl rfl) ?_ | refine Head.v hF rfl rfl rfl (opV_pickF rfl rfl rfl) ?_
      refine Head.v hF rfl rfl rfl (opV_move rfl rfl) ?_
      first | refine Head.v hF rfl rfl rfl (opV_move rfl rfl) ?_ | refine Head.p hF rfl rfl rfl ?_
      first | refine Head.v hF rfl rfl rfl (opV_len rfl rfl (by simp (disch := omega) only [go_sem, Nat.reduceEqDiff, iteP, hk1, elemsL, rowE, sumsL, sumD, sumD_length, hR] <;> rfl)) ?_ | refine Head.p hF rfl rfl rfl ?_
      first | refine Head.v hF rfl rfl rfl (opV_move rfl rfl) ?_ | refine Head.p hF rfl rfl rfl ?_
      first | refine Head.v hF rfl rfl rfl (opV_move rfl rfl) ?_ | refine Head.p hF rfl rfl rfl ?_
      first | refine Head.v hF rfl rfl rfl (opV_move rfl rfl) ?_ | refine Head.p hF rfl rfl rfl ?_
      first | refine Head.v hF rfl rfl rfl (opV_indexAddr rfl rfl rfl (by simp (disch := omega) only [go_sem, Nat.reduceEqDiff, iteP, hk1, elemsL, rowE, sumsL, sumD, sumD_length, hR] <;> rfl)) ?_ | refine Head.p hF rfl rfl rfl ?_
      first | refine Head.v hF rfl rfl rfl (opV_load rfl rfl (by simp (disch := omega) only [go_sem, Nat.reduceEqDiff, iteP, hk1, elemsL, rowE, sumsL, sumD, sumD_length, hR] <;> rfl)) ?_ | refine Head.p hF rfl rfl rfl ?_
      first | refine Head.v hF rfl rfl rfl (opV_move rfl rfl) ?_ | refine Head.p hF rfl rfl rfl ?_
      refine Head.p hF rfl rfl rfl ?_
      first | refine Head.v hF rfl rfl rfl (opV_move rfl rfl) ?_ | refine Head.p hF rfl rfl rfl ?_
      first | refine Head.v hF rfl rfl rfl (opV_len rfl rfl (by simp (disch := omega) only [go_sem, Nat.reduceEqDiff, iteP, hk1, elemsL, rowE, sumsL, sumD, sumD_length, hR] <;> rfl)) ?_ | refine Head.p hF rfl rfl rfl ?_
      first | refine Head.v hF rfl rfl rfl (opV_move rfl rfl) ?_ | refine Head.p hF rfl rfl rfl ?_
      first | refine Head.v hF rfl rfl rfl (opV_move rfl rfl) ?_ | refine Head.p hF rfl rfl rfl ?_
      first | refine Head.v hF rfl rfl rfl (opV_move rfl rfl) ?_ | refine Head.p hF rfl rfl rfl ?_
      refine Head.p hF rfl rfl rfl ?_
      refine Head.p hF rfl rfl rfl ?_
      first | refine Head.v hF rfl rfl rfl (opV_un rfl rfl (by first | exact rd_notT _ | exact rd_notF _ | exact rd_not _)) ?_ | refine Head.p hF rfl rfl rfl ?_
      first | refine Head.v hF rfl rfl rfl (opV_pickT rfl rfl rfl) ?_ | refine Head.v hF rfl rfl rfl (opV_pickF rfl rfl rfl) ?_
      refine Head.last ⟨rfl, ?_⟩
      simp only [List.drop_succ_cons, List.drop_zero, List.drop_nil, List.nil_append, List.cons_append]
      refine SmG.nil ?_
      refine nextS_normal ?_
      refine Sm.condF hF rfl ?_
      refine Sm.skip ?_
      refine blockS_normal ?_
      refine nextS_normal ?_
      refine Sm.regionG hF rfl ?_
      refine SmG.v hF rfl rfl rfl (opV_move rfl rfl) ?_
      refine SmG.v hF rfl rfl rfl (opV_bin rfl rfl rfl (by first | exact rd_add _ _ _ _ _ (wrapI64 _ (by omega)) | exact rb_add _ _ _ _ _ _ _)) ?_
      refine SmG.v hF rfl rfl rfl (opV_assign rfl rfl) ?_
      refine SmG.nil ?_
      refine nextS_normal ?_
      exact ⟨⟨k + 1, by omega⟩, by show l.length - (k + 1) < l.length - k; omega, by exact St.le_of (by simp [leE, look, constD]) (by simp [leH, look, rep]) (by first | exact Nat.le_refl _ | (dsimp only; omega))⟩
    · have hd : decide (o ≠ b) = true := decide_eq_true hob
      have c2 := check_D R o l.length k p hR (by omega) hP (by omega) (by omega)
      cases hc : Sha.check R l.length k o p with
      | false =>
        rw [hc] at c2

        refine Sm.seq ?_
        refine Sm.seq ?_
        refine Sm.regionG hF rfl ?_
        refine SmG.v hF rfl rfl rfl (opV_move rfl rfl) ?_
        refine SmG.v hF rfl rfl rfl (opV_move rfl rfl) ?_
        refine SmG.v hF rfl rfl rfl (opV_len rfl rfl (by simp (disch := omega) only [go_sem, Nat.reduceEqDiff, iteP, hk1, elemsL, rowE, sumsL, sumD, sumD_length, hR] <;> rfl)) ?_
        refine SmG.v hF rfl rfl rfl (opV_bin rfl rfl rfl (by first | exact rd_lssT _ _ _ _ _ (by omega) | exact rd_lssF _ _ _ _ _ (by omega) | exact rb_lss _ _ _ _ _ _ _)) ?_
        refine SmG.nil ?_
        refine nextS_normal ?_
        refine Sm.condT hF rfl ?_
        refine Sm.skip ?_
        refine nextS_normal ?_
        refine Sm.seq ?_
        refine Sm.block ?_
        refine Sm.seq ?_
        refine Sm.regionG hF rfl ?_
        refine SmG.v hF rfl rfl rfl (opV_move rfl rfl) ?_
        refine SmG.v hF rfl rfl rfl (opV_move rfl rfl) ?_
        refine SmG.call hF rfl rfl (by kernel_rfl) rfl rfl rfl (c0) ?_
        refine SmG.v hF rfl rfl rfl (opV_move rfl rfl) ?_
        refine SmG.v hF rfl rfl rfl (by first | exact opV_extract rfl rfl rfl | exact opV_extract0 rfl rfl) ?_
        refine SmG.v hF rfl rfl rfl (by first | exact opV_extract rfl rfl rfl | exact opV_extractS rfl rfl rfl) ?_
        refine SmG.v hF rfl rfl rfl (opV_assign rfl rfl) ?_
        refine SmG.v hF rfl rfl rfl (opV_assign rfl rfl) ?_
        refine SmG.nil ?_
        refine nextS_normal ?_
        refine Sm.seq ?_
        refine Sm.seq ?_
        refine Sm.drawG hF (by kernel_rfl) rfl 20 (by kernel_rfl) (by kernel_rfl) ?_
        simp only [List.take_succ_cons, List.take_zero, List.take_nil]
        refine Head.v hF rfl rfl rfl (opV_move rfl rfl) ?_
        refine Head.v hF rfl rfl rfl (opV_bin rfl rfl rfl (by first | exact rd_neqT _ _ _ _ _ (by omega) | exact rd_neqF _ _ _ _ _ (by omega) | exact rb_neq _ _ _ _ _ _ _)) ?_
        refine Head.v hF rfl rfl rfl (opV_move rfl rfl) ?_
        first | refine Head.v hF rfl rfl rfl (opV_move rfl rfl) ?_ | refine Head.p hF rfl rfl rfl ?_
        first | refine Head.v hF rfl rfl rfl (opV_len rfl rfl (by simp (disch := omega) only [go_sem, Nat.reduceEqDiff, iteP, hk1, elemsL, rowE, sumsL, sumD, sumD_length, hR] <;> rfl)) ?_ | refine Head.p hF rfl rfl rfl ?_
        first | refine Head.v hF rfl rfl rfl (opV_bin rfl rfl rfl (by first | exact rd_gtrT _ _ _ _ _ (by omega) | exact rd_gtrF _ _ _ _ _ (by omega) | exact rb_gtr _ _ _ _ _ _ _)) ?_ | refine Head.p hF rfl rfl rfl ?_
        first | refine Head.v hF rfl rfl rfl (opV_pickT rfl rfl rfl) ?_ | refine Head.v hF rfl rfl rfl (opV_pickF rfl rfl rfl) ?_
        refine Head.v hF rfl rfl rfl (opV_move rfl rfl) ?_
        first | refine Head.v hF rfl rfl rfl (opV_load rfl rfl (by simp (disch := omega) only [go_sem, Nat.reduceEqDiff, iteP, hk1, elemsL, rowE, sumsL, sumD, sumD_length, hR] <;> rfl)) ?_ | refine Head.p hF rfl rfl rfl ?_
        first | refine Head.v hF rfl rfl rfl (opV_move rfl rfl) ?_ | refine Head.p hF rfl rfl rfl ?_
        first | refine Head.v hF rfl rfl rfl (opV_len rfl rfl (by simp (disch := omega) only [go_sem, Nat.reduceEqDiff, iteP, hk1, elemsL, rowE, sumsL, sumD, sumD_length, hR] <;> rfl)) ?_ | refine Head.p hF rfl rfl rfl ?_
        first | refine Head.v hF rfl rfl rfl (opV_move rfl rfl) ?_ | refine Head.p hF rfl rfl rfl ?_
        first | refine Head.v hF rfl rfl rfl (opV_move rfl rfl) ?_ | refine Head.p hF rfl rfl rfl ?_
        first | refine Head.v hF rfl rfl rfl (opV_move rfl rfl) ?_ | refine Head.p hF rfl rfl rfl ?_
        first | refine Head.v hF rfl rfl rfl (opV_indexAddr rfl rfl rfl (by simp (disch := omega) only [go_sem, Nat.reduceEqDiff, iteP, hk1, elemsL, rowE, sumsL, sumD, sumD_length, hR] <;> rfl)) ?_ | refine Head.p hF rfl rfl rfl ?_
        first | refine Head.v hF rfl rfl rfl (opV_load rfl rfl (by simp (disch := omega) only [go_sem, Nat.reduceEqDiff, iteP, hk1, elemsL, rowE, sumsL, sumD, sumD_length, hR] <;> rfl)) ?_ | refine Head.p hF rfl rfl rfl ?_
        first | refine Head.v hF rfl rfl rfl (opV_move rfl rfl) ?_ | refine Head.p hF rfl rfl rfl ?_
        first | refine Head.c hF rfl rfl (by kernel_rfl) rfl rfl rfl (c1) ?_ | refine Head.p hF rfl rfl rfl ?_
        first | refine Head.v hF rfl rfl rfl (opV_un rfl rfl (by first | exact rd_notT _ | exact rd_notF _ | exact rd_not _)) ?_ | refine Head.p hF rfl rfl rfl ?_
        first | refine Head.v hF rfl rfl rfl (opV_pickT rfl rfl rfl) ?_ | refine Head.v hF rfl rfl rfl (opV_pickF rfl rfl rfl) ?_
        refine Head.last ⟨rfl, ?_⟩
        simp only [List.drop_succ_cons, List.drop_zero, List.drop_nil, List.nil_append, List.cons_append]
        refine SmG.nil ?_
        refine nextS_normal ?_
        refine Sm.condF hF rfl ?_
        refine Sm.skip ?_
        refine nextS_normal ?_
        refine Sm.seq ?_
        refine Sm.drawG hF (by kernel_rfl) rfl 36 (by kernel_rfl) (by kernel_rfl) ?_
        simp only [List.take_succ_cons, List.take_zero, List.take_nil]
        refine Head.v hF rfl rfl rfl (opV_move rfl rfl) ?_
        refine Head.v hF rfl rfl rfl (opV_conv rfl rfl (conv_bytes _ Tryd.underlying22 Tryd.underlying9 Tryd.underlying5)) ?_
        refine Head.v hF rfl rfl rfl (opV_move rfl rfl) ?_
        refine Head.v hF rfl rfl rfl (opV_move rfl rfl) ?_
        refine Head.v hF rfl rfl rfl (opV_indexAddr rfl rfl rfl (by simp (disch := omega) only [go_sem, Nat.reduceEqDiff, iteP, hk1, elemsL, rowE, sumsL, sumD, sumD_length, hR] <;> rfl)) ?_
        refine Head.v hF rfl rfl rfl (opV_load rfl rfl (by simp (disch := omega) only [go_sem, Nat.reduceEqDiff, iteP, hk1, elemsL, rowE, sumsL, sumD, sumD_length, hR] <;> rfl)) ?_
        refine Head.v hF rfl rfl rfl (opV_conv rfl rfl (conv_bytes _ Tryd.underlying22 Tryd.underlying9 Tryd.underlying5)) ?_
        refine Head.v hF rfl rfl rfl (opV_bin rfl rfl rfl ((rd_sneq _ _ _ _ _ _).trans (by rw [hd]))) ?_
        refine Head.v hF rfl rfl rfl (opV_move rfl rfl) ?_
        first | refine Head.v hF rfl rfl rfl (opV_load rfl rfl (by simp (disch := omega) only [go_sem, Nat.reduceEqDiff, iteP, hk1, elemsL, rowE, sumsL, sumD, sumD_length, hR] <;> rfl)) ?_ | refine Head.p hF rfl rfl rfl ?_
        first | refine Head.v hF rfl rfl rfl (opV_move rfl rfl) ?_ | refine Head.p hF rfl rfl rfl ?_
        first | refine Head.v hF rfl rfl rfl (opV_len rfl rfl (by simp (disch := omega) only [go_sem, Nat.reduceEqDiff, iteP, hk1, elemsL, rowE, sumsL, sumD, sumD_length, hR] <;> rfl)) ?_ | refine Head.p hF rfl rfl rfl ?_
        first | refine Head.v hF rfl rfl rfl (opV_move rfl rfl) ?_ | refine Head.p hF rfl rfl rfl ?_
        first | refine Head.v hF rfl rfl rfl (opV_move rfl rfl) ?_ | refine Head.p hF rfl rfl rfl ?_
        first | refine Head.v hF rfl rfl rfl (opV_move rfl rfl) ?_ | refine Head.p hF rfl rfl rfl ?_
        first | refine Head.c hF rfl rfl (by kernel_rfl) rfl rfl rfl (c2) ?_ | refine Head.p hF rfl rfl rfl ?_
        first | refine Head.v hF rfl rfl rfl (opV_pickT rfl rfl rfl) ?_ | refine Head.v hF rfl rfl rfl (opV_pickF rfl rfl rfl) ?_
        refine Head.v hF rfl rfl rfl (opV_move rfl rfl) ?_
        first | refine Head.v hF rfl rfl rfl (opV_move rfl rfl) ?_ | refine Head.p hF rfl rfl rfl ?_
        first | refine Head.v hF rfl rfl rfl (opV_len rfl rfl (by simp (disch := omega) only [go_sem, Nat.reduceEqDiff, iteP, hk1, elemsL, rowE, sumsL, sumD, sumD_length, hR] <;> rfl)) ?_ | refine Head.p hF rfl rfl rfl ?_
        first | refine Head.v hF rfl rfl rfl (opV_move rfl rfl) ?_ | refine Head.p hF rfl rfl rfl ?_
        first | refine Head.v hF rfl rfl rfl (opV_move rfl rfl) ?_ | refine Head.p hF rfl rfl rfl ?_
        first | refine Head.v hF rfl rfl rfl (opV_move rfl rfl) ?_ | refine Head.p hF rfl rfl rfl ?_
        first | refine Head.v hF rfl rfl rfl (opV_indexAddr rfl rfl rfl (by simp (disch := omega) only [go_sem, Nat.reduceEqDiff, iteP, hk1, elemsL, rowE, sumsL, sumD, sumD_length, hR] <;> rfl)) ?_ | refine Head.p hF rfl rfl rfl ?_
        first | refine Head.v hF rfl rfl rfl (opV_load rfl rfl (by simp (disch := omega) only [go_sem, Nat.reduceEqDiff, iteP, hk1, elemsL, rowE, sumsL, sumD, sumD_length, hR] <;> rfl)) ?_ | refine Head.p hF rfl rfl rfl ?_
        first | refine Head.v hF rfl rfl rfl (opV_move rfl rfl) ?_ | refine Head.p hF rfl rfl rfl ?_
        refine Head.p hF rfl rfl rfl ?_
        first | refine Head.v hF rfl rfl rfl (opV_move rfl rfl) ?_ | refine Head.p hF rfl rfl rfl ?_
        first | refine Head.v hF rfl rfl rfl (opV_len rfl rfl (by simp (disch := omega) only [go_sem, Nat.reduceEqDiff, iteP, hk1, elemsL, rowE, sumsL, sumD, sumD_length, hR] <;> rfl)) ?_ | refine Head.p hF rfl rfl rfl ?_
        first | refine Head.v hF rfl rfl rfl (opV_move rfl rfl) ?_ | refine Head.p hF rfl rfl rfl ?_
        first | refine Head.v hF rfl rfl rfl (opV_move rfl rfl) ?_ | refine Head.p hF rfl rfl rfl ?_
        first | refine Head.v hF rfl rfl rfl (opV_move rfl rfl) ?_ | refine Head.p hF rfl rfl rfl ?_
        refine Head.p hF rfl rfl rfl ?_
        refine Head.p hF rfl rfl rfl ?_
        first | refine Head.v hF rfl rfl rfl (opV_un rfl rfl (by first | exact rd_notT _ | exact rd_notF _ | exact rd_not _)) ?_ | refine Head.p hF rfl rfl rfl ?_
        first | refine Head.v hF rfl rfl rfl (opV_pickT rfl rfl rfl) ?_ | refine Head.v hF rfl rfl rfl (opV_pickF rfl rfl rfl) ?_
        refine Head.last ⟨rfl, ?_⟩
        simp only [List.drop_succ_cons, List.drop_zero, List.drop_nil, List.nil_append, List.cons_append]
        refine SmG.nil ?_
        refine nextS_normal ?_
        refine Sm.condF hF rfl ?_
        refine Sm.skip ?_
        refine blockS_normal ?_
        refine nextS_normal ?_
        refine Sm.regionG hF rfl ?_
        refine SmG.v hF rfl rfl rfl (opV_move rfl rfl) ?_
        refine SmG.v hF rfl rfl rfl (opV_bin rfl rfl rfl (by first | exact rd_add _ _ _ _ _ (wrapI64 _ (by omega)) | exact rb_add _ _ _ _ _ _ _)) ?_
        refine SmG.v hF rfl rfl rfl (opV_assign rfl rfl) ?_
        refine SmG.nil ?_
        refine nextS_normal ?_
        exact ⟨⟨k + 1, by omega⟩, by show l.length - (k + 1) < l.length - k; omega, by exact St.le_of (by simp [leE, look, constD]) (by simp [leH, look, rep]) (by first | exact Nat.le_refl _ | (dsimp only; omega))⟩
      | true =>
        rw [hc] at c2
        have hm := Sha.check_binds hP hP hck hc (fun h => hob h.1)
        have k1 := chain_D HG l.length k b p hlt (by omega) hb hP (by omega)
        have k2 := chain_D HG l.length k o p hlt (by omega) (by omega) hP (by omega)
        have k3 := met_D _ _ (chain_fit (Sha.sides l.length k) p b hb hP (by omega)) (chain_fit (Sha.sides l.length k) p o (by omega) hP (by omega))
        rw [metB_true hm] at k3

        refine Sm.seq ?_
        refine Sm.seq ?_
        refine Sm.regionG hF rfl ?_
        refine SmG.v hF rfl rfl rfl (opV_move rfl rfl) ?_
        refine SmG.v hF rfl rfl rfl (opV_move rfl rfl) ?_
        refine SmG.v hF rfl rfl rfl (opV_len rfl rfl (by simp (disch := omega) only [go_sem, Nat.reduceEqDiff, iteP, hk1, elemsL, rowE, sumsL, sumD, sumD_length, hR] <;> rfl)) ?_
        refine SmG.v hF rfl rfl rfl (opV_bin rfl rfl rfl (by first | exact rd_lssT _ _ _ _ _ (by omega) | exact rd_lssF _ _ _ _ _ (by omega) | exact rb_lss _ _ _ _ _ _ _)) ?_
        refine SmG.nil ?_
        refine nextS_normal ?_
        refine Sm.condT hF rfl ?_
        refine Sm.skip ?_
        refine nextS_normal ?_
        refine Sm.seq ?_
        refine Sm.block ?_
        refine Sm.seq ?_
        refine Sm.regionG hF rfl ?_
        refine SmG.v hF rfl rfl rfl (opV_move rfl rfl) ?_
        refine SmG.v hF rfl rfl rfl (opV_move rfl rfl) ?_
        refine SmG.call hF rfl rfl (by kernel_rfl) rfl rfl rfl (c0) ?_
        refine SmG.v hF rfl rfl rfl (opV_move rfl rfl) ?_
        refine SmG.v hF rfl rfl rfl (by first | exact opV_extract rfl rfl rfl | exact opV_extract0 rfl rfl) ?_
        refine SmG.v hF rfl rfl rfl (by first | exact opV_extract rfl rfl rfl | exact opV_extractS rfl rfl rfl) ?_
        refine SmG.v hF rfl rfl rfl (opV_assign rfl rfl) ?_
        refine SmG.v hF rfl rfl rfl (opV_assign rfl rfl) ?_
        refine SmG.nil ?_
        refine nextS_normal ?_
        refine Sm.seq ?_
        refine Sm.seq ?_
        refine Sm.drawG hF (by kernel_rfl) rfl 20 (by kernel_rfl) (by kernel_rfl) ?_
        simp only [List.take_succ_cons, List.take_zero, List.take_nil]
        refine Head.v hF rfl rfl rfl (opV_move rfl rfl) ?_
        refine Head.v hF rfl rfl rfl (opV_bin rfl rfl rfl (by first | exact rd_neqT _ _ _ _ _ (by omega) | exact rd_neqF _ _ _ _ _ (by omega) | exact rb_neq _ _ _ _ _ _ _)) ?_
        refine Head.v hF rfl rfl rfl (opV_move rfl rfl) ?_
        first | refine Head.v hF rfl rfl rfl (opV_move rfl rfl) ?_ | refine Head.p hF rfl rfl rfl ?_
        first | refine Head.v hF rfl rfl rfl (opV_len rfl rfl (by simp (disch := omega) only [go_sem, Nat.reduceEqDiff, iteP, hk1, elemsL, rowE, sumsL, sumD, sumD_length, hR] <;> rfl)) ?_ | refine Head.p hF rfl rfl rfl ?_
        first | refine Head.v hF rfl rfl rfl (opV_bin rfl rfl rfl (by first | exact rd_gtrT _ _ _ _ _ (by omega) | exact rd_gtrF _ _ _ _ _ (by omega) | exact rb_gtr _ _ _ _ _ _ _)) ?_ | refine Head.p hF rfl rfl rfl ?_
        first | refine Head.v hF rfl rfl rfl (opV_pickT rfl rfl rfl) ?_ | refine Head.v hF rfl rfl rfl (opV_pickF rfl rfl rfl) ?_
        refine Head.v hF rfl rfl rfl (opV_move rfl rfl) ?_
        first | refine Head.v hF rfl rfl rfl (opV_load rfl rfl (by simp (disch := omega) only [go_sem, Nat.reduceEqDiff, iteP, hk1, elemsL, rowE, sumsL, sumD, sumD_length, hR] <;> rfl)) ?_ | refine Head.p hF rfl rfl rfl ?_
        first | refine Head.v hF rfl rfl rfl (opV_move rfl rfl) ?_ | refine Head.p hF rfl rfl rfl ?_
        first | refine Head.v hF rfl rfl rfl (opV_len rfl rfl (by simp (disch := omega) only [go_sem, Nat.reduceEqDiff, iteP, hk1, elemsL, rowE, sumsL, sumD, sumD_length, hR] <;> rfl)) ?_ | refine Head.p hF rfl rfl rfl ?_
        first | refine Head.v hF rfl rfl rfl (opV_move rfl rfl) ?_ | refine Head.p hF rfl rfl rfl ?_
        first | refine Head.v hF rfl rfl rfl (opV_move rfl rfl) ?_ | refine Head.p hF rfl rfl rfl ?_
        first | refine Head.v hF rfl rfl rfl (opV_move rfl rfl) ?_ | refine Head.p hF rfl rfl rfl ?_
        first | refine Head.v hF rfl rfl rfl (opV_indexAddr rfl rfl rfl (by simp (disch := omega) only [go_sem, Nat.reduceEqDiff, iteP, hk1, elemsL, rowE, sumsL, sumD, sumD_length, hR] <;> rfl)) ?_ | refine Head.p hF rfl rfl rfl ?_
        first | refine Head.v hF rfl rfl rfl (opV_load rfl rfl (by simp (disch := omega) only [go_sem, Nat.reduceEqDiff, iteP, hk1, elemsL, rowE, sumsL, sumD, sumD_length, hR] <;> rfl)) ?_ | refine Head.p hF rfl rfl rfl ?_
        first | refine Head.v hF rfl rfl rfl (opV_move rfl rfl) ?_ | refine Head.p hF rfl rfl rfl ?_
        first | refine Head.c hF rfl rfl (by kernel_rfl) rfl rfl rfl (c1) ?_ | refine Head.p hF rfl rfl rfl ?_
        first | refine Head.v hF rfl rfl rfl (opV_un rfl rfl (by first | exact rd_notT _ | exact rd_notF _ | exact rd_not _)) ?_ | refine Head.p hF rfl rfl rfl ?_
        first | refine Head.v hF rfl rfl rfl (opV_pickT rfl rfl rfl) ?_ | refine Head.v hF rfl rfl rfl (opV_pickF rfl rfl rfl) ?_
        refine Head.last ⟨rfl, ?_⟩
        simp only [List.drop_succ_cons, List.drop_zero, List.drop_nil, List.nil_append, List.cons_append]
        refine SmG.nil ?_
        refine nextS_normal ?_
        refine Sm.condF hF rfl ?_
        refine Sm.skip ?_
        refine nextS_normal ?_
        refine Sm.seq ?_
        refine Sm.drawG hF (by kernel_rfl) rfl 36 (by kernel_rfl) (by kernel_rfl) ?_
        simp only [List.take_succ_cons, List.take_zero, List.take_nil]
        refine Head.v hF rfl rfl rfl (opV_move rfl rfl) ?_
        refine Head.v hF rfl rfl rfl (opV_conv rfl rfl (conv_bytes _ Tryd.underlying22 Tryd.underlying9 Tryd.underlying5)) ?_
        refine Head.v hF rfl rfl rfl (opV_move rfl rfl) ?_
        refine Head.v hF rfl rfl rfl (opV_move rfl rfl) ?_
        refine Head.v hF rfl rfl rfl (opV_indexAddr rfl rfl rfl (by simp (disch := omega) only [go_sem, Nat.reduceEqDiff, iteP, hk1, elemsL, rowE, sumsL, sumD, sumD_length, hR] <;> rfl)) ?_
        refine Head.v hF rfl rfl rfl (opV_load rfl rfl (by simp (disch := omega) only [go_sem, Nat.reduceEqDiff, iteP, hk1, elemsL, rowE, sumsL, sumD, sumD_length, hR] <;> rfl)) ?_
        refine Head.v hF rfl rfl rfl (opV_conv rfl rfl (conv_bytes _ Tryd.underlying22 Tryd.underlying9 Tryd.underlying5)) ?_
        refine Head.v hF rfl rfl rfl (opV_bin rfl rfl rfl ((rd_sneq _ _ _ _ _ _).trans (by rw [hd]))) ?_
        refine Head.v hF rfl rfl rfl (opV_move rfl rfl) ?_
        first | refine Head.v hF rfl rfl rfl (opV_load rfl rfl (by simp (disch := omega) only [go_sem, Nat.reduceEqDiff, iteP, hk1, elemsL, rowE, sumsL, sumD, sumD_length, hR] <;> rfl)) ?_ | refine Head.p hF rfl rfl rfl ?_
        first | refine Head.v hF rfl rfl rfl (opV_move rfl rfl) ?_ | refine Head.p hF rfl rfl rfl ?_
        first | refine Head.v hF rfl rfl rfl (opV_len rfl rfl (by simp (disch := omega) only [go_sem, Nat.reduceEqDiff, iteP, hk1, elemsL, rowE, sumsL, sumD, sumD_length, hR] <;> rfl)) ?_ | refine Head.p hF rfl rfl rfl ?_
        first | refine Head.v hF rfl rfl rfl (opV_move rfl rfl) ?_ | refine Head.p hF rfl rfl rfl ?_
        first | refine Head.v hF rfl rfl rfl (opV_move rfl rfl) ?_ | refine Head.p hF rfl rfl rfl ?_
        first | refine Head.v hF rfl rfl rfl (opV_move rfl rfl) ?_ | refine Head.p hF rfl rfl rfl ?_
        first | refine Head.c hF rfl rfl (by kernel_rfl) rfl rfl rfl (c2) ?_ | refine Head.p hF rfl rfl rfl ?_
        first | refine Head.v hF rfl rfl rfl (opV_pickT rfl rfl rfl) ?_ | refine Head.v hF rfl rfl rfl (opV_pickF rfl rfl rfl) ?_
        refine Head.v hF rfl rfl rfl (opV_move rfl rfl) ?_
        first | refine Head.v hF rfl rfl rfl (opV_move rfl rfl) ?_ | refine Head.p hF rfl rfl rfl ?_
        first | refine Head.v hF rfl rfl rfl (opV_len rfl rfl (by simp (disch := omega) only [go_sem, Nat.reduceEqDiff, iteP, hk1, elemsL, rowE, sumsL, sumD, sumD_length, hR] <;> rfl)) ?_ | refine Head.p hF rfl rfl rfl ?_
        first | refine Head.v hF rfl rfl rfl (opV_move rfl rfl) ?_ | refine Head.p hF rfl rfl rfl ?_
        first | refine Head.v hF rfl rfl rfl (opV_move rfl rfl) ?_ | refine Head.p hF rfl rfl rfl ?_
        first | refine Head.v hF rfl rfl rfl (opV_move rfl rfl) ?_ | refine Head.p hF rfl rfl rfl ?_
        first | refine Head.v hF rfl rfl rfl (opV_indexAddr rfl rfl rfl (by simp (disch := omega) only [go_sem, Nat.reduceEqDiff, iteP, hk1, elemsL, rowE, sumsL, sumD, sumD_length, hR] <;> rfl)) ?_ | refine Head.p hF rfl rfl rfl ?_
        first | refine Head.v hF rfl rfl rfl (opV_load rfl rfl (by simp (disch := omega) only [go_sem, Nat.reduceEqDiff, iteP, hk1, elemsL, rowE, sumsL, sumD, sumD_length, hR] <;> rfl)) ?_ | refine Head.p hF rfl rfl rfl ?_
        first | refine Head.v hF rfl rfl rfl (opV_move rfl rfl) ?_ | refine Head.p hF rfl rfl rfl ?_
        first | refine Head.c hF rfl rfl (by kernel_rfl) rfl rfl rfl (k1) ?_ | refine Head.p hF rfl rfl rfl ?_
        first | refine Head.v hF rfl rfl rfl (opV_move rfl rfl) ?_ | refine Head.p hF rfl rfl rfl ?_
        first | refine Head.v hF rfl rfl rfl (opV_len rfl rfl (by simp (disch := omega) only [go_sem, Nat.reduceEqDiff, iteP, hk1, elemsL, rowE, sumsL, sumD, sumD_length, hR] <;> rfl)) ?_ | refine Head.p hF rfl rfl rfl ?_
        first | refine Head.v hF rfl rfl rfl (opV_move rfl rfl) ?_ | refine Head.p hF rfl rfl rfl ?_
        first | refine Head.v hF rfl rfl rfl (opV_move rfl rfl) ?_ | refine Head.p hF rfl rfl rfl ?_
        first | refine Head.v hF rfl rfl rfl (opV_move rfl rfl) ?_ | refine Head.p hF rfl rfl rfl ?_
        first | refine Head.c hF rfl rfl (by kernel_rfl) rfl rfl rfl (k2) ?_ | refine Head.p hF rfl rfl rfl ?_
        first | refine Head.c hF rfl rfl (by kernel_rfl) rfl rfl rfl (k3) ?_ | refine Head.p hF rfl rfl rfl ?_
        first | refine Head.v hF rfl rfl rfl (opV_un rfl rfl (by first | exact rd_notT _ | exact rd_notF _ | exact rd_not _)) ?_ | refine Head.p hF rfl rfl rfl ?_
        first | refine Head.v hF rfl rfl rfl (opV_pickT rfl rfl rfl) ?_ | refine Head.v hF rfl rfl rfl (opV_pickF rfl rfl rfl) ?_
        refine Head.last ⟨rfl, ?_⟩
        simp only [List.drop_succ_cons, List.drop_zero, List.drop_nil, List.nil_append, List.cons_append]
        refine SmG.nil ?_
        refine nextS_normal ?_
        refine Sm.condF hF rfl ?_
        refine Sm.skip ?_
        refine blockS_normal ?_
        refine nextS_normal ?_
        refine Sm.regionG hF rfl ?_
        refine SmG.v hF rfl rfl rfl (opV_move rfl rfl) ?_
        refine SmG.v hF rfl rfl rfl (opV_bin rfl rfl rfl (by first | exact rd_add _ _ _ _ _ (wrapI64 _ (by omega)) | exact rb_add _ _ _ _ _ _ _)) ?_
        refine SmG.v hF rfl rfl rfl (opV_assign rfl rfl) ?_
        refine SmG.nil ?_
        refine nextS_normal ?_
        exact ⟨⟨k + 1, by omega⟩, by show l.length - (k + 1) < l.length - k; omega, by exact St.le_of (by simp [leE, look, constD]) (by simp [leH, look, rep]) (by first | exact Nat.le_refl _ | (dsimp only; omega))⟩

  · refine Sm.seq ?_
    refine Sm.seq ?_
    refine Sm.regionG hF rfl ?_
    refine SmG.v hF rfl rfl rfl (opV_move rfl rfl) ?_
    refine SmG.v hF rfl rfl rfl (opV_move rfl rfl) ?_
    refine SmG.v hF rfl rfl rfl (opV_len rfl rfl (by simp (disch := omega) only [go_sem, Nat.reduceEqDiff, iteP, elemsL] <;> rfl)) ?_
    refine SmG.v hF rfl rfl rfl (opV_bin rfl rfl rfl (by first | exact rd_lssT _ _ _ _ _ (by omega) | exact rd_lssF _ _ _ _ _ (by omega) | exact rb_lss _ _ _ _ _ _ _)) ?_
    refine SmG.nil ?_
    refine nextS_normal ?_
    refine Sm.condF hF rfl ?_
    refine Sm.exit ?_
    simp only [nextS, blockS, reduceIte, reduceCtorEq]
    refine Sm.seq ?_
    refine Sm.regionG hF rfl ?_
    refine SmG.v hF rfl rfl rfl (opV_move rfl rfl) ?_
    refine SmG.v hF rfl rfl rfl (opV_assign rfl rfl) ?_
    refine SmG.nil ?_
    refine nextS_normal ?_
    refine Sm.ret ?_
    refine ⟨_, rfl, ?_⟩; dsimp only
    exact D.le.refl _
end Go.Proofs.YtmindblfbijaaaaDoor
namespace Go.Proofs.YtmindblfbijaaaaDoor
open Go.RowKit
set_option maxRecDepth 100000

theorem refCheck_D (R b : List UInt8) (n i : Int) (p : List (List UInt8)) (hR : R.length = 32) (hb : b.length ≤ 900000) (hp : Len32' p) (hpl : p.length ≤ 900000) (hn : n ≤ 1000000) (hn0 : -9223372036854775808 ≤ n) (hi0 : -9223372036854775808 ≤ i ∧ i ≤ 9223372036854775807) :
    CallsD Tryd.prog HG 24 [sumD R, .v (.int .i64 n), .v (.int .i64 i), bytesL b, sumsL p] (.v (.bool (Sha.check R n i b p))) := by
  by_cases hin : i < 0 ∨ n ≤ i
  · rw [Sha.check_out _ _ _ _ _ hin]
    have k1 := sidesErr_D HG n i hin

    refine CallsD.of Tryd.func24 rfl Tryd.ntmps24 (by simp) ?_; intro F hF; simp only [List.zipIdx_cons, List.zipIdx_nil, List.map_cons, List.map_nil, Nat.zero_add, Nat.reduceAdd]
    refine Sm.seq ?_
    refine Sm.regionG hF rfl ?_
    refine SmG.new hF rfl rfl rfl (opS_box rfl rfl (by simp (disch := omega) only [go_sem, Nat.reduceEqDiff, iteP, sumsL, sumD, sumD_length, hR] <;> rfl)) ?_
    refine SmG.v hF rfl rfl rfl (opV_assign rfl rfl) ?_
    refine SmG.nil ?_
    refine nextS_normal ?_
    refine Sm.seq ?_
    refine Sm.regionG hF rfl ?_
    refine SmG.v hF rfl rfl rfl (opV_move rfl rfl) ?_
    refine SmG.v hF rfl rfl rfl (opV_move rfl rfl) ?_
    refine SmG.call hF rfl rfl (by kernel_rfl) rfl rfl rfl (k1) ?_
    refine SmG.v hF rfl rfl rfl (opV_move rfl rfl) ?_
    refine SmG.v hF rfl rfl rfl (by first | exact opV_extract rfl rfl rfl | exact opV_extract0 rfl rfl) ?_
    refine SmG.v hF rfl rfl rfl (by first | exact opV_extract rfl rfl rfl | exact opV_extractS rfl rfl rfl) ?_
    refine SmG.v hF rfl rfl rfl (opV_assign rfl rfl) ?_
    refine SmG.v hF rfl rfl rfl (opV_assign rfl rfl) ?_
    refine SmG.nil ?_
    refine nextS_normal ?_
    refine Sm.seq ?_
    refine Sm.seq ?_
    refine Sm.regionG hF rfl ?_
    refine SmG.v hF rfl rfl rfl (opV_move rfl rfl) ?_
    refine SmG.v hF rfl rfl rfl (opV_un rfl rfl (by first | exact rd_notT _ | exact rd_notF _ | exact rd_not _)) ?_
    refine SmG.v hF rfl rfl rfl (opV_move rfl rfl) ?_
    first | refine SmG.v hF rfl rfl rfl (opV_move rfl rfl) ?_ | refine SmG.pass hF rfl rfl rfl ?_
    first | refine SmG.v hF rfl rfl rfl (opV_len rfl rfl (by simp (disch := omega) only [go_sem, Nat.reduceEqDiff, iteP, sumsL, sumD, sumD_length, hR] <;> rfl)) ?_ | refine SmG.pass hF rfl rfl rfl ?_
    first | refine SmG.v hF rfl rfl rfl (opV_move rfl rfl) ?_ | refine SmG.pass hF rfl rfl rfl ?_
    first | refine SmG.v hF rfl rfl rfl (opV_len rfl rfl (by simp (disch := omega) only [go_sem, Nat.reduceEqDiff, iteP, sumsL, sumD, sumD_length, hR] <;> rfl)) ?_ | refine SmG.pass hF rfl rfl rfl ?_
    first | refine SmG.v hF rfl rfl rfl (opV_bin rfl rfl rfl (by first | exact rd_neqT _ _ _ _ _ (by omega) | exact rd_neqF _ _ _ _ _ (by omega) | exact rb_neq _ _ _ _ _ _ _)) ?_ | refine SmG.pass hF rfl rfl rfl ?_
    first | refine SmG.v hF rfl rfl rfl (opV_pickT rfl rfl rfl) ?_ | refine SmG.v hF rfl rfl rfl (opV_pickF rfl rfl rfl) ?_
    refine SmG.nil ?_
    refine nextS_normal ?_
    refine Sm.condT hF rfl ?_
    refine Sm.seq ?_
    refine Sm.regionG hF rfl ?_
    refine SmG.v hF rfl rfl rfl (opV_assign rfl rfl) ?_
    refine SmG.nil ?_
    refine nextS_normal ?_
    refine Sm.ret ?_
    simp only [nextS, blockS]
    refine ⟨_, rfl, ?_⟩; dsimp only
    exact D.le.refl _
  · obtain ⟨N, rfl⟩ : ∃ N : Nat, n = N := ⟨n.toNat, by omega⟩
    obtain ⟨I, rfl⟩ : ∃ I : Nat, i = I := ⟨i.toNat, by omega⟩
    have hck : Sha.check R N I b p = (decide (p.length = (Sha.sides N I).length) && decide (Sha.top (0 :: b) ((Sha.sides N I).zip p) = R)) := by rw [Sha.check_top, if_neg hin]; simp
    rw [hck]
    clear hck
    have k1 := sides_D HG N I (by omega) (by omega)
    have k2 := chain_D HG N I b p (by omega) (by omega) hb hp (by omega)
    have hsl := sides_le N I
    generalize Sha.sides N I = ss at k1 k2 hsl ⊢
    by_cases hl : p.length = ss.length
    · obtain ⟨e, he1, he2, he3⟩ := chain_get (ss.zip p) (0 :: b) (by simp; omega) fun e he => hp _ (List.of_mem_zip he).2
      have hLl := Sha.chain_length (ss.zip p) (0 :: b)
      have hzl : (ss.zip p).length = p.length := by rw [List.length_zip]; omega
      rw [hzl] at he1 hLl
      have k3 := refSum_D e (by omega) HG
      rw [he2] at k3
      have hT := top_len (ss.zip p) (0 :: b)
      have hq := eq_sum hT hR
      rw [decide_eq_true hl, Bool.true_and]
      generalize Sha.top (0 :: b) (ss.zip p) = T at k3 hT hq ⊢
      generalize Sha.chain (0 :: b) (ss.zip p) = L at k2 he1 hLl
      have hcast : (((p.length + 1 : Nat) : Int) - 1).toNat = p.length := by omega

      refine CallsD.of Tryd.func24 rfl Tryd.ntmps24 (by simp) ?_; intro F hF; simp only [List.zipIdx_cons, List.zipIdx_nil, List.map_cons, List.map_nil, Nat.zero_add, Nat.reduceAdd]
      refine Sm.seq ?_
      refine Sm.regionG hF rfl ?_
      refine SmG.new hF rfl rfl rfl (opS_box rfl rfl (by simp (disch := omega) only [go_sem, Nat.reduceEqDiff, iteP, sumsL, sumD, sumD_length, hR, elemsL, rowE, he1, hLl, hcast, hq, rowT] <;> rfl)) ?_
      refine SmG.v hF rfl rfl rfl (opV_assign rfl rfl) ?_
      refine SmG.nil ?_
      refine nextS_normal ?_
      refine Sm.seq ?_
      refine Sm.regionG hF rfl ?_
      refine SmG.v hF rfl rfl rfl (opV_move rfl rfl) ?_
      refine SmG.v hF rfl rfl rfl (opV_move rfl rfl) ?_
      refine SmG.call hF rfl rfl (by kernel_rfl) rfl rfl rfl (k1) ?_
      refine SmG.v hF rfl rfl rfl (opV_move rfl rfl) ?_
      refine SmG.v hF rfl rfl rfl (by first | exact opV_extract rfl rfl rfl | exact opV_extract0 rfl rfl) ?_
      refine SmG.v hF rfl rfl rfl (by first | exact opV_extract rfl rfl rfl | exact opV_extractS rfl rfl rfl) ?_
      refine SmG.v hF rfl rfl rfl (opV_assign rfl rfl) ?_
      refine SmG.v hF rfl rfl rfl (opV_assign rfl rfl) ?_
      refine SmG.nil ?_
      refine nextS_normal ?_
      refine Sm.seq ?_
      refine Sm.seq ?_
      refine Sm.regionG hF rfl ?_
      refine SmG.v hF rfl rfl rfl (opV_move rfl rfl) ?_
      refine SmG.v hF rfl rfl rfl (opV_un rfl rfl (by first | exact rd_notT _ | exact rd_notF _ | exact rd_not _)) ?_
      refine SmG.v hF rfl rfl rfl (opV_move rfl rfl) ?_
      first | refine SmG.v hF rfl rfl rfl (opV_move rfl rfl) ?_ | refine SmG.pass hF rfl rfl rfl ?_
      first | refine SmG.v hF rfl rfl rfl (opV_len rfl rfl (by simp (disch := omega) only [go_sem, Nat.reduceEqDiff, iteP, sumsL, sumD, sumD_length, hR, elemsL, rowE, he1, hLl, hcast, hq, rowT] <;> rfl)) ?_ | refine SmG.pass hF rfl rfl rfl ?_
      first | refine SmG.v hF rfl rfl rfl (opV_move rfl rfl) ?_ | refine SmG.pass hF rfl rfl rfl ?_
      first | refine SmG.v hF rfl rfl rfl (opV_len rfl rfl (by simp (disch := omega) only [go_sem, Nat.reduceEqDiff, iteP, sumsL, sumD, sumD_length, hR, elemsL, rowE, he1, hLl, hcast, hq, rowT] <;> rfl)) ?_ | refine SmG.pass hF rfl rfl rfl ?_
      first | refine SmG.v hF rfl rfl rfl (opV_bin rfl rfl rfl (by first | exact rd_neqT _ _ _ _ _ (by omega) | exact rd_neqF _ _ _ _ _ (by omega) | exact rb_neq _ _ _ _ _ _ _)) ?_ | refine SmG.pass hF rfl rfl rfl ?_
      first | refine SmG.v hF rfl rfl rfl (opV_pickT rfl rfl rfl) ?_ | refine SmG.v hF rfl rfl rfl (opV_pickF rfl rfl rfl) ?_
      refine SmG.nil ?_
      refine nextS_normal ?_
      refine Sm.condF hF rfl ?_
      refine Sm.skip ?_
      refine nextS_normal ?_
      refine Sm.seq ?_
      refine Sm.regionG hF rfl ?_
      refine SmG.v hF rfl rfl rfl (opV_move rfl rfl) ?_
      refine SmG.v hF rfl rfl rfl (opV_move rfl rfl) ?_
      refine SmG.v hF rfl rfl rfl (opV_move rfl rfl) ?_
      refine SmG.v hF rfl rfl rfl (opV_move rfl rfl) ?_
      refine SmG.call hF rfl rfl (by kernel_rfl) rfl rfl rfl (k2) ?_
      refine SmG.v hF rfl rfl rfl (opV_assign rfl rfl) ?_
      refine SmG.nil ?_
      refine nextS_normal ?_
      refine Sm.seq ?_
      refine Sm.drawG hF (by kernel_rfl) rfl 10 (by kernel_rfl) (by kernel_rfl) ?_
      simp only [List.take_succ_cons, List.take_zero, List.take_nil]
      refine Head.v hF rfl rfl rfl (opV_move rfl rfl) ?_
      refine Head.v hF rfl rfl rfl (opV_move rfl rfl) ?_
      refine Head.v hF rfl rfl rfl (opV_len rfl rfl (by simp (disch := omega) only [go_sem, Nat.reduceEqDiff, iteP, sumsL, sumD, sumD_length, hR, elemsL, rowE, he1, hLl, hcast, hq, rowT] <;> rfl)) ?_
      refine Head.v hF rfl rfl rfl (opV_bin rfl rfl rfl (by first | exact rd_sub _ _ _ _ _ (wrapI64 _ (by omega)) | exact rb_sub _ _ _ _ _ _ _)) ?_
      refine Head.v hF rfl rfl rfl (opV_indexAddr rfl rfl rfl (by simp (disch := omega) only [go_sem, Nat.reduceEqDiff, iteP, sumsL, sumD, sumD_length, hR, elemsL, rowE, he1, hLl, hcast, hq, rowT] <;> rfl)) ?_
      refine Head.v hF rfl rfl rfl (opV_load rfl rfl (by simp (disch := omega) only [go_sem, Nat.reduceEqDiff, iteP, sumsL, sumD, sumD_length, hR, elemsL, rowE, he1, hLl, hcast, hq, rowT] <;> rfl)) ?_
      refine Head.c hF rfl rfl (by kernel_rfl) rfl rfl rfl (k3) ?_
      refine Head.v hF rfl rfl rfl (opV_load rfl rfl (by simp (disch := omega) only [go_sem, Nat.reduceEqDiff, iteP, sumsL, sumD, sumD_length, hR, elemsL, rowE, he1, hLl, hcast, hq, rowT] <;> rfl)) ?_
      refine Head.v hF rfl rfl rfl (opV_eqA rfl rfl rfl (by simp (disch := omega) only [go_sem, Nat.reduceEqDiff, iteP, sumsL, sumD, sumD_length, hR, elemsL, rowE, he1, hLl, hcast, hq, rowT] <;> rfl)) ?_
      refine Head.v hF rfl rfl rfl (opV_assign rfl rfl) ?_
      refine Head.last ⟨rfl, ?_⟩
      simp only [List.drop_succ_cons, List.drop_zero, List.drop_nil, List.nil_append, List.cons_append]
      refine SmG.nil ?_
      refine nextS_normal ?_
      refine Sm.ret ?_
      refine ⟨_, rfl, ?_⟩; dsimp only
      exact D.le.refl _

    · rw [decide_eq_false hl, Bool.false_and]
      refine CallsD.of Tryd.func24 rfl Tryd.ntmps24 (by simp) ?_; intro F hF; simp only [List.zipIdx_cons, List.zipIdx_nil, List.map_cons, List.map_nil, Nat.zero_add, Nat.reduceAdd]
      refine Sm.seq ?_
      refine Sm.regionG hF rfl ?_
      refine SmG.new hF rfl rfl rfl (opS_box rfl rfl (by simp (disch := omega) only [go_sem, Nat.reduceEqDiff, iteP, sumsL, sumD, sumD_length, hR] <;> rfl)) ?_
      refine SmG.v hF rfl rfl rfl (opV_assign rfl rfl) ?_
      refine SmG.nil ?_
      refine nextS_normal ?_
      refine Sm.seq ?_
      refine Sm.regionG hF rfl ?_
      refine SmG.v hF rfl rfl rfl (opV_move rfl rfl) ?_
      refine SmG.v hF rfl rfl rfl (opV_move rfl rfl) ?_
      refine SmG.call hF rfl rfl (by kernel_rfl) rfl rfl rfl (k1) ?_
      refine SmG.v hF rfl rfl rfl (opV_move rfl rfl) ?_
      refine SmG.v hF rfl rfl rfl (by first | exact opV_extract rfl rfl rfl | exact opV_extract0 rfl rfl) ?_
      refine SmG.v hF rfl rfl rfl (by first | exact opV_extract rfl rfl rfl | exact opV_extractS rfl rfl rfl) ?_
      refine SmG.v hF rfl rfl rfl (opV_assign rfl rfl) ?_
      refine SmG.v hF rfl rfl rfl (opV_assign rfl rfl) ?_
      refine SmG.nil ?_
      refine nextS_normal ?_
      refine Sm.seq ?_
      refine Sm.seq ?_
      refine Sm.regionG hF rfl ?_
      refine SmG.v hF rfl rfl rfl (opV_move rfl rfl) ?_
      refine SmG.v hF rfl rfl rfl (opV_un rfl rfl (by first | exact rd_notT _ | exact rd_notF _ | exact rd_not _)) ?_
      refine SmG.v hF rfl rfl rfl (opV_move rfl rfl) ?_
      first | refine SmG.v hF rfl rfl rfl (opV_move rfl rfl) ?_ | refine SmG.pass hF rfl rfl rfl ?_
      first | refine SmG.v hF rfl rfl rfl (opV_len rfl rfl (by simp (disch := omega) only [go_sem, Nat.reduceEqDiff, iteP, sumsL, sumD, sumD_length, hR] <;> rfl)) ?_ | refine SmG.pass hF rfl rfl rfl ?_
      first | refine SmG.v hF rfl rfl rfl (opV_move rfl rfl) ?_ | refine SmG.pass hF rfl rfl rfl ?_
      first | refine SmG.v hF rfl rfl rfl (opV_len rfl rfl (by simp (disch := omega) only [go_sem, Nat.reduceEqDiff, iteP, sumsL, sumD, sumD_length, hR] <;> rfl)) ?_ | refine SmG.pass hF rfl rfl rfl ?_
      first | refine SmG.v hF rfl rfl rfl (opV_bin rfl rfl rfl (by first | exact rd_neqT _ _ _ _ _ (by omega) | exact rd_neqF _ _ _ _ _ (by omega) | exact rb_neq _ _ _ _ _ _ _)) ?_ | refine SmG.pass hF rfl rfl rfl ?_
      first | refine SmG.v hF rfl rfl rfl (opV_pickT rfl rfl rfl) ?_ | refine SmG.v hF rfl rfl rfl (opV_pickF rfl rfl rfl) ?_
      refine SmG.nil ?_
      refine nextS_normal ?_
      refine Sm.condT hF rfl ?_
      refine Sm.seq ?_
      refine Sm.regionG hF rfl ?_
      refine SmG.v hF rfl rfl rfl (opV_assign rfl rfl) ?_
      refine SmG.nil ?_
      refine nextS_normal ?_
      refine Sm.ret ?_
      simp only [nextS, blockS]
      refine ⟨_, rfl, ?_⟩; dsimp only
      exact D.le.refl _

theorem refProofErr_O (l : List (List UInt8)) (i : Int) (hl : l.length ≤ 1000000) (h : i < 0 ∨ (l.length : Int) ≤ i) : CallsO Tryd.prog HG 21 [elemsL l, .v (.int .i64 i)] .agg 32 [] [.v (.int .i64 1)] := by
  by_cases hi : i < 0
  · refine CallsO.of Tryd.func21 rfl Tryd.ntmps21 (by simp) ?_; intro F hF; simp only [List.zipIdx_cons, List.zipIdx_nil, List.map_cons, List.map_nil, Nat.zero_add, Nat.reduceAdd]
    refine Sm.seq ?_
    refine Sm.regionG hF rfl ?_
    refine SmG.new hF rfl rfl rfl (opS_alloc rfl al37) ?_
    refine SmG.nil ?_
    refine nextS_normal ?_
    refine Sm.seq ?_
    refine Sm.seq ?_
    refine Sm.regionG hF rfl ?_
    refine SmG.v hF rfl rfl rfl (opV_move rfl rfl) ?_
    refine SmG.v hF rfl rfl rfl (opV_bin rfl rfl rfl (by first | exact rd_lssT _ _ _ _ _ (by omega) | exact rd_lssF _ _ _ _ _ (by omega) | exact rb_lss _ _ _ _ _ _ _)) ?_
    refine SmG.v hF rfl rfl rfl (opV_move rfl rfl) ?_
    first | refine SmG.v hF rfl rfl rfl (opV_move rfl rfl) ?_ | refine SmG.pass hF rfl rfl rfl ?_
    first | refine SmG.v hF rfl rfl rfl (opV_move rfl rfl) ?_ | refine SmG.pass hF rfl rfl rfl ?_
    first | refine SmG.v hF rfl rfl rfl (opV_len rfl rfl (by simp (disch := omega) only [go_sem, Nat.reduceEqDiff, iteP, elemsL] <;> rfl)) ?_ | refine SmG.pass hF rfl rfl rfl ?_
    first | refine SmG.v hF rfl rfl rfl (opV_bin rfl rfl rfl (by first | exact rd_geqT _ _ _ _ _ (by omega) | exact rd_geqF _ _ _ _ _ (by omega) | exact rb_geq _ _ _ _ _ _ _)) ?_ | refine SmG.pass hF rfl rfl rfl ?_
    first | refine SmG.v hF rfl rfl rfl (opV_pickT rfl rfl rfl) ?_ | refine SmG.v hF rfl rfl rfl (opV_pickF rfl rfl rfl) ?_
    refine SmG.nil ?_
    refine nextS_normal ?_
    refine Sm.condT hF rfl ?_
    refine Sm.seq ?_
    refine Sm.regionG hF rfl ?_
    refine SmG.v hF rfl rfl rfl (opV_buildT rfl Tryd.underlying37 (by kernel_rfl) rfl (by simp (disch := omega) only [go_sem, Nat.reduceEqDiff, iteP, elemsL] <;> rfl)) ?_
    refine SmG.ownMix (t := 14) (sz := 0) 32 rfl ?_
    refine SmG.store hF rfl rfl rfl rfl rfl (by simp (disch := omega) only [go_sem, Nat.reduceEqDiff, iteP, elemsL] <;> rfl) ?_
    refine SmG.nil ?_
    refine nextS_normal ?_
    refine Sm.ret ?_
    simp only [nextS, blockS]
    exact retO_cell 1 rfl rfl (by simp (disch := omega) only [go_sem, Nat.reduceEqDiff, iteP] <;> rfl) rfl

  · have h1 : (l.length : Int) ≤ i := by omega
    refine CallsO.of Tryd.func21 rfl Tryd.ntmps21 (by simp) ?_; intro F hF; simp only [List.zipIdx_cons, List.zipIdx_nil, List.map_cons, List.map_nil, Nat.zero_add, Nat.reduceAdd]
    refine Sm.seq ?_
    refine Sm.regionG hF rfl ?_
    refine SmG.new hF rfl rfl rfl (opS_alloc rfl al37) ?_
    refine SmG.nil ?_
    refine nextS_normal ?_
    refine Sm.seq ?_
    refine Sm.seq ?_
    refine Sm.regionG hF rfl ?_
    refine SmG.v hF rfl rfl rfl (opV_move rfl rfl) ?_
    refine SmG.v hF rfl rfl rfl (opV_bin rfl rfl rfl (by first | exact rd_lssT _ _ _ _ _ (by omega) | exact rd_lssF _ _ _ _ _ (by omega) | exact rb_lss _ _ _ _ _ _ _)) ?_
    refine SmG.v hF rfl rfl rfl (opV_move rfl rfl) ?_
    first | refine SmG.v hF rfl rfl rfl (opV_move rfl rfl) ?_ | refine SmG.pass hF rfl rfl rfl ?_
    first | refine SmG.v hF rfl rfl rfl (opV_move rfl rfl) ?_ | refine SmG.pass hF rfl rfl rfl ?_
    first | refine SmG.v hF rfl rfl rfl (opV_len rfl rfl (by simp (disch := omega) only [go_sem, Nat.reduceEqDiff, iteP, elemsL] <;> rfl)) ?_ | refine SmG.pass hF rfl rfl rfl ?_
    first | refine SmG.v hF rfl rfl rfl (opV_bin rfl rfl rfl (by first | exact rd_geqT _ _ _ _ _ (by omega) | exact rd_geqF _ _ _ _ _ (by omega) | exact rb_geq _ _ _ _ _ _ _)) ?_ | refine SmG.pass hF rfl rfl rfl ?_
    first | refine SmG.v hF rfl rfl rfl (opV_pickT rfl rfl rfl) ?_ | refine SmG.v hF rfl rfl rfl (opV_pickF rfl rfl rfl) ?_
    refine SmG.nil ?_
    refine nextS_normal ?_
    refine Sm.condT hF rfl ?_
    refine Sm.seq ?_
    refine Sm.regionG hF rfl ?_
    refine SmG.v hF rfl rfl rfl (opV_buildT rfl Tryd.underlying37 (by kernel_rfl) rfl (by simp (disch := omega) only [go_sem, Nat.reduceEqDiff, iteP, elemsL] <;> rfl)) ?_
    refine SmG.ownMix (t := 14) (sz := 0) 32 rfl ?_
    refine SmG.store hF rfl rfl rfl rfl rfl (by simp (disch := omega) only [go_sem, Nat.reduceEqDiff, iteP, elemsL] <;> rfl) ?_
    refine SmG.nil ?_
    refine nextS_normal ?_
    refine Sm.ret ?_
    simp only [nextS, blockS]
    exact retO_cell 1 rfl rfl (by simp (disch := omega) only [go_sem, Nat.reduceEqDiff, iteP] <;> rfl) rfl

theorem refProof_O : ∀ (n : Nat) (l : List (List UInt8)) (i : Nat), l.length = n → Fit l → i < l.length → CallsO Tryd.prog HG 21 [elemsL l, .v (.int .i64 i)] .agg 32 ((Sha.proof l i).map rowS) [.v (.int .i64 0)] := by
  intro n
  induction n using Nat.strongRecOn with
  | _ n ih =>
  intro l i hn hF' hi
  have hfl := hF'.1
  by_cases h2 : 2 ≤ l.length
  · have hm1 := Sha.cut_lt h2
    have hmp := Sha.cut_pos l.length
    have k0 := cut_D l.length h2 (by omega) HG
    have kl := fun h => proof_low (l := l) (i := i) h2 h
    have kh := fun h => proof_high (l := l) (i := i) h2 h
    have i1 := fun h : i < Sha.cut l.length => ih (Sha.cut l.length) (by omega) (l.take (Sha.cut l.length)) i (by rw [List.length_take]; omega) (fit_take hF' _) (by rw [List.length_take]; omega)
    have i2 := fun h : Sha.cut l.length ≤ i => ih (l.length - Sha.cut l.length) (by omega) (l.drop (Sha.cut l.length)) (i - Sha.cut l.length) (by rw [List.length_drop]) (fit_drop hF' _) (by rw [List.length_drop]; omega)
    have r1 := refRoot_D HG _ (l.drop (Sha.cut l.length)) rfl (fit_drop hF' _)
    have r2 := refRoot_D HG _ (l.take (Sha.cut l.length)) rfl (fit_take hF' _)
    have l1 := proof_le (l.take (Sha.cut l.length)) i
    have l2 := proof_le (l.drop (Sha.cut l.length)) (i - Sha.cut l.length)
    rw [List.length_take] at l1
    rw [List.length_drop] at l2
    have hA := Sha.root_len (l.drop (Sha.cut l.length))
    have hB := Sha.root_len (l.take (Sha.cut l.length))
    generalize Sha.root (l.drop (Sha.cut l.length)) = A at kl r1 hA
    generalize Sha.root (l.take (Sha.cut l.length)) = B at kh r2 hB
    generalize Sha.cut l.length = m at hm1 hmp k0 kl kh i1 i2 r1 r2 l1 l2
    have hml : m ≤ l.length := by omega
    by_cases him : i < m
    · have k1 := i1 him
      rw [kl him]
      generalize Sha.proof (l.take m) i = p at k1 l1 ⊢

      refine CallsO.of Tryd.func21 rfl Tryd.ntmps21 (by simp) ?_; intro F hF; simp only [List.zipIdx_cons, List.zipIdx_nil, List.map_cons, List.map_nil, Nat.zero_add, Nat.reduceAdd]
      refine Sm.seq ?_
      refine Sm.regionG hF rfl ?_
      refine SmG.new hF rfl rfl rfl (opS_alloc rfl al37) ?_
      refine SmG.nil ?_
      refine nextS_normal ?_
      refine Sm.seq ?_
      refine Sm.seq ?_
      refine Sm.regionG hF rfl ?_
      refine SmG.v hF rfl rfl rfl (opV_move rfl rfl) ?_
      refine SmG.v hF rfl rfl rfl (opV_bin rfl rfl rfl (by first | exact rd_lssT _ _ _ _ _ (by omega) | exact rd_lssF _ _ _ _ _ (by omega) | exact rb_lss _ _ _ _ _ _ _)) ?_
      refine SmG.v hF rfl rfl rfl (opV_move rfl rfl) ?_
      first | refine SmG.v hF rfl rfl rfl (opV_move rfl rfl) ?_ | refine SmG.pass hF rfl rfl rfl ?_
      first | refine SmG.v hF rfl rfl rfl (opV_move rfl rfl) ?_ | refine SmG.pass hF rfl rfl rfl ?_
      first | refine SmG.v hF rfl rfl rfl (opV_len rfl rfl (by simp (disch := omega) only [go_sem, Nat.reduceEqDiff, iteP, elemsL, sumD, sumD_length, hA, hml, Nat.zero_le, take_map', drop_map'] <;> rfl)) ?_ | refine SmG.pass hF rfl rfl rfl ?_
      first | refine SmG.v hF rfl rfl rfl (opV_bin rfl rfl rfl (by first | exact rd_geqT _ _ _ _ _ (by omega) | exact rd_geqF _ _ _ _ _ (by omega) | exact rb_geq _ _ _ _ _ _ _)) ?_ | refine SmG.pass hF rfl rfl rfl ?_
      first | refine SmG.v hF rfl rfl rfl (opV_pickT rfl rfl rfl) ?_ | refine SmG.v hF rfl rfl rfl (opV_pickF rfl rfl rfl) ?_
      refine SmG.nil ?_
      refine nextS_normal ?_
      refine Sm.condF hF rfl ?_
      refine Sm.skip ?_
      refine nextS_normal ?_
      refine Sm.seq ?_
      refine Sm.seq ?_
      refine Sm.regionG hF rfl ?_
      refine SmG.v hF rfl rfl rfl (opV_move rfl rfl) ?_
      refine SmG.v hF rfl rfl rfl (opV_len rfl rfl (by simp (disch := omega) only [go_sem, Nat.reduceEqDiff, iteP, elemsL, sumD, sumD_length, hA, hml, Nat.zero_le, take_map', drop_map'] <;> rfl)) ?_
      refine SmG.v hF rfl rfl rfl (opV_bin rfl rfl rfl (by first | exact rd_eqlT _ _ _ _ _ (by omega) | exact rd_eqlF _ _ _ _ _ (by omega) | exact rb_eql _ _ _ _ _ _ _)) ?_
      refine SmG.nil ?_
      refine nextS_normal ?_
      refine Sm.condF hF rfl ?_
      refine Sm.skip ?_
      refine nextS_normal ?_
      refine Sm.seq ?_
      refine Sm.regionG hF rfl ?_
      refine SmG.v hF rfl rfl rfl (opV_move rfl rfl) ?_
      refine SmG.v hF rfl rfl rfl (opV_len rfl rfl (by simp (disch := omega) only [go_sem, Nat.reduceEqDiff, iteP, elemsL, sumD, sumD_length, hA, hml, Nat.zero_le, take_map', drop_map'] <;> rfl)) ?_
      refine SmG.call hF rfl rfl (by kernel_rfl) rfl rfl rfl (k0) ?_
      refine SmG.v hF rfl rfl rfl (opV_assign rfl rfl) ?_
      refine SmG.nil ?_
      refine nextS_normal ?_
      refine Sm.seq ?_
      refine Sm.seq ?_
      refine Sm.regionG hF rfl ?_
      refine SmG.v hF rfl rfl rfl (opV_move rfl rfl) ?_
      refine SmG.v hF rfl rfl rfl (opV_move rfl rfl) ?_
      refine SmG.v hF rfl rfl rfl (opV_bin rfl rfl rfl (by first | exact rd_lssT _ _ _ _ _ (by omega) | exact rd_lssF _ _ _ _ _ (by omega) | exact rb_lss _ _ _ _ _ _ _)) ?_
      refine SmG.nil ?_
      refine nextS_normal ?_
      refine Sm.condT hF rfl ?_
      refine Sm.seq ?_
      refine Sm.drawG hF (by kernel_rfl) rfl 11 (by kernel_rfl) (by kernel_rfl) ?_
      simp only [List.take_succ_cons, List.take_zero, List.take_nil]
      refine Head.v hF rfl rfl rfl (opV_move rfl rfl) ?_
      refine Head.v hF rfl rfl rfl (opV_move rfl rfl) ?_
      refine Head.v hF rfl rfl rfl (opV_slice rfl rfl rfl rfl rfl (by simp (disch := omega) only [go_sem, Nat.reduceEqDiff, iteP, elemsL, sumD, sumD_length, hA, hml, Nat.zero_le, take_map', drop_map'] <;> rfl)) ?_
      refine Head.v hF rfl rfl rfl (opV_move rfl rfl) ?_
      refine Head.co hF rfl rfl (by kernel_rfl) rfl rfl rfl (k1) ?_
      refine Head.v hF rfl rfl rfl (opV_field rfl rfl (by simp (disch := omega) only [go_sem, Nat.reduceEqDiff, iteP, elemsL, sumD, sumD_length, hA, hml, Nat.zero_le, take_map', drop_map'] <;> rfl)) ?_
      refine Head.v hF rfl rfl rfl (opV_move rfl rfl) ?_
      refine Head.v hF rfl rfl rfl (opV_move rfl rfl) ?_
      refine Head.v hF rfl rfl rfl (opV_slice rfl rfl rfl rfl rfl (by simp (disch := omega) only [go_sem, Nat.reduceEqDiff, iteP, elemsL, sumD, sumD_length, hA, hml, Nat.zero_le, take_map', drop_map'] <;> rfl)) ?_
      refine Head.c hF rfl rfl (by kernel_rfl) rfl rfl rfl (r1) ?_
      refine Head.v hF rfl rfl rfl (opV_buildSlice rfl rfl (by simp (disch := omega) only [go_sem, Nat.reduceEqDiff, iteP, elemsL, sumD, sumD_length, hA, hml, Nat.zero_le, take_map', drop_map'] <;> rfl)) ?_
      refine Head.last ⟨rfl, ?_⟩
      simp only [List.drop_succ_cons, List.drop_zero, List.drop_nil, List.nil_append, List.cons_append]
      -- stands at 36 of region 7: {"dst": 36, "op": "call", "a": [{"callee": ["builtin", "Callee.builtin Builtin.append"], "args": [["tmp", 30], ["tmp", 35]], "types": [32, 32]}], "ty"
      refine SmG.appendOwn hF elSum rfl rfl rfl rfl rfl rfl rfl (by first | rfl | (simp; done) | (simp; omega)) (Or.inl rfl) (by (repeat' first | exact freeH_nil _ | refine freeH_same ?_ | refine freeH_cons ?_ (free_dB _ _ _) | refine freeH_cons ?_ (free_dB _ _ [_]) | refine freeH_cons ?_ (free_row (by rfl)))) ?_ ?_ ?_; rotate_left; rotate_left; simp only [killV, Pk.v, V.free, rep, bne_self_eq_false, Nat.reduceAdd, Nat.reduceBNe, Nat.reduceBEq, Nat.reduceEqDiff, reduceIte, Bool.false_eq_true]
      rotate_left
      · simp only [List.length_map, List.length_cons, List.length_nil]; omega
      · simp only [List.length_map, List.length_cons, List.length_nil]; omega
      rw [one_row]
      refine SmG.v hF rfl rfl rfl (opV_buildT rfl Tryd.underlying37 (by kernel_rfl) rfl (by simp (disch := omega) only [go_sem, Nat.reduceEqDiff, iteP, elemsL, sumD, sumD_length, hA, hml, Nat.zero_le, take_map', drop_map'] <;> rfl)) ?_
      refine SmG.store hF rfl rfl rfl rfl rfl (by simp (disch := omega) only [go_sem, Nat.reduceEqDiff, iteP, elemsL, sumD, sumD_length, hA, hml, Nat.zero_le, take_map', drop_map'] <;> rfl) ?_
      refine SmG.nil ?_
      refine nextS_normal ?_
      refine Sm.ret ?_
      simp only [nextS, blockS]
      exact retO_cell 1 rfl rfl (by simp (disch := omega) only [go_sem, Nat.reduceEqDiff, iteP] <;> rfl) rfl
    · have k1 := i2 (by omega)
      rw [show ((i - m : Nat) : Int) = (i : Int) - (m : Int) by omega] at k1
      rw [kh (by omega)]
      generalize Sha.proof (l.drop m) (i - m) = p at k1 l2 ⊢

      refine CallsO.of Tryd.func21 rfl Tryd.ntmps21 (by simp) ?_; intro F hF; simp only [List.zipIdx_cons, List.zipIdx_nil, List.map_cons, List.map_nil, Nat.zero_add, Nat.reduceAdd]
      refine Sm.seq ?_
      refine Sm.regionG hF rfl ?_
      refine SmG.new hF rfl rfl rfl (opS_alloc rfl al37) ?_
      refine SmG.nil ?_
      refine nextS_normal ?_
      refine Sm.seq ?_
      refine Sm.seq ?_
      refine Sm.regionG hF rfl ?_
      refine SmG.v hF rfl rfl rfl (opV_move rfl rfl) ?_
      refine SmG.v hF rfl rfl rfl (opV_bin rfl rfl rfl (by first | exact rd_lssT _ _ _ _ _ (by omega) | exact rd_lssF _ _ _ _ _ (by omega) | exact rb_lss _ _ _ _ _ _ _)) ?_
      refine SmG.v hF rfl rfl rfl (opV_move rfl rfl) ?_
      first | refine SmG.v hF rfl rfl rfl (opV_move rfl rfl) ?_ | refine SmG.pass hF rfl rfl rfl ?_
      first | refine SmG.v hF rfl rfl rfl (opV_move rfl rfl) ?_ | refine SmG.pass hF rfl rfl rfl ?_
      first | refine SmG.v hF rfl rfl rfl (opV_len rfl rfl (by simp (disch := omega) only [go_sem, Nat.reduceEqDiff, iteP, elemsL, sumD, sumD_length, hB, hml, Nat.zero_le, take_map', drop_map'] <;> rfl)) ?_ | refine SmG.pass hF rfl rfl rfl ?_
      first | refine SmG.v hF rfl rfl rfl (opV_bin rfl rfl rfl (by first | exact rd_geqT _ _ _ _ _ (by omega) | exact rd_geqF _ _ _ _ _ (by omega) | exact rb_geq _ _ _ _ _ _ _)) ?_ | refine SmG.pass hF rfl rfl rfl ?_
      first | refine SmG.v hF rfl rfl rfl (opV_pickT rfl rfl rfl) ?_ | refine SmG.v hF rfl rfl rfl (opV_pickF rfl rfl rfl) ?_
      refine SmG.nil ?_
      refine nextS_normal ?_
      refine Sm.condF hF rfl ?_
      refine Sm.skip ?_
      refine nextS_normal ?_
      refine Sm.seq ?_
      refine Sm.seq ?_
      refine Sm.regionG hF rfl ?_
      refine SmG.v hF rfl rfl rfl (opV_move rfl rfl) ?_
      refine SmG.v hF rfl rfl rfl (opV_len rfl rfl (by simp (disch := omega) only [go_sem, Nat.reduceEqDiff, iteP, elemsL, sumD, sumD_length, hB, hml, Nat.zero_le, take_map', drop_map'] <;> rfl)) ?_
      refine SmG.v hF rfl rfl rfl (opV_bin rfl rfl rfl (by first | exact rd_eqlT _ _ _ _ _ (by omega) | exact rd_eqlF _ _ _ _ _ (by omega) | exact rb_eql _ _ _ _ _ _ _)) ?_
      refine SmG.nil ?_
      refine nextS_normal ?_
      refine Sm.condF hF rfl ?_
      refine Sm.skip ?_
      refine nextS_normal ?_
      refine Sm.seq ?_
      refine Sm.regionG hF rfl ?_
      refine SmG.v hF rfl rfl rfl (opV_move rfl rfl) ?_
      refine SmG.v hF rfl rfl rfl (opV_len rfl rfl (by simp (disch := omega) only [go_sem, Nat.reduceEqDiff, iteP, elemsL, sumD, sumD_length, hB, hml, Nat.zero_le, take_map', drop_map'] <;> rfl)) ?_
      refine SmG.call hF rfl rfl (by kernel_rfl) rfl rfl rfl (k0) ?_
      refine SmG.v hF rfl rfl rfl (opV_assign rfl rfl) ?_
      refine SmG.nil ?_
      refine nextS_normal ?_
      refine Sm.seq ?_
      refine Sm.seq ?_
      refine Sm.regionG hF rfl ?_
      refine SmG.v hF rfl rfl rfl (opV_move rfl rfl) ?_
      refine SmG.v hF rfl rfl rfl (opV_move rfl rfl) ?_
      refine SmG.v hF rfl rfl rfl (opV_bin rfl rfl rfl (by first | exact rd_lssT _ _ _ _ _ (by omega) | exact rd_lssF _ _ _ _ _ (by omega) | exact rb_lss _ _ _ _ _ _ _)) ?_
      refine SmG.nil ?_
      refine nextS_normal ?_
      refine Sm.condF hF rfl ?_
      refine Sm.skip ?_
      refine nextS_normal ?_
      refine Sm.seq ?_
      refine Sm.drawG hF (by kernel_rfl) rfl 13 (by kernel_rfl) (by kernel_rfl) ?_
      simp only [List.take_succ_cons, List.take_zero, List.take_nil]
      refine Head.v hF rfl rfl rfl (opV_move rfl rfl) ?_
      refine Head.v hF rfl rfl rfl (opV_move rfl rfl) ?_
      refine Head.v hF rfl rfl rfl (opV_slice rfl rfl rfl rfl rfl (by simp (disch := omega) only [go_sem, Nat.reduceEqDiff, iteP, elemsL, sumD, sumD_length, hB, hml, Nat.zero_le, take_map', drop_map'] <;> rfl)) ?_
      refine Head.v hF rfl rfl rfl (opV_move rfl rfl) ?_
      refine Head.v hF rfl rfl rfl (opV_move rfl rfl) ?_
      refine Head.v hF rfl rfl rfl (opV_bin rfl rfl rfl (by first | exact rd_sub _ _ _ _ _ (wrapI64 _ (by omega)) | exact rb_sub _ _ _ _ _ _ _)) ?_
      refine Head.co hF rfl rfl (by kernel_rfl) rfl rfl rfl (k1) ?_
      refine Head.v hF rfl rfl rfl (opV_field rfl rfl (by simp (disch := omega) only [go_sem, Nat.reduceEqDiff, iteP, elemsL, sumD, sumD_length, hB, hml, Nat.zero_le, take_map', drop_map'] <;> rfl)) ?_
      refine Head.v hF rfl rfl rfl (opV_move rfl rfl) ?_
      refine Head.v hF rfl rfl rfl (opV_move rfl rfl) ?_
      refine Head.v hF rfl rfl rfl (opV_slice rfl rfl rfl rfl rfl (by simp (disch := omega) only [go_sem, Nat.reduceEqDiff, iteP, elemsL, sumD, sumD_length, hB, hml, Nat.zero_le, take_map', drop_map'] <;> rfl)) ?_
      refine Head.c hF rfl rfl (by kernel_rfl) rfl rfl rfl (r2) ?_
      refine Head.v hF rfl rfl rfl (opV_buildSlice rfl rfl (by simp (disch := omega) only [go_sem, Nat.reduceEqDiff, iteP, elemsL, sumD, sumD_length, hB, hml, Nat.zero_le, take_map', drop_map'] <;> rfl)) ?_
      refine Head.last ⟨rfl, ?_⟩
      simp only [List.drop_succ_cons, List.drop_zero, List.drop_nil, List.nil_append, List.cons_append]
      -- stands at 51 of region 8: {"dst": 51, "op": "call", "a": [{"callee": ["builtin", "Callee.builtin Builtin.append"], "args": [["tmp", 45], ["tmp", 50]], "types": [32, 32]}], "ty"
      refine SmG.appendOwn hF elSum rfl rfl rfl rfl rfl rfl rfl (by first | rfl | (simp; done) | (simp; omega)) (Or.inl rfl) (by (repeat' first | exact freeH_nil _ | refine freeH_same ?_ | refine freeH_cons ?_ (free_dB _ _ _) | refine freeH_cons ?_ (free_dB _ _ [_]) | refine freeH_cons ?_ (free_row (by rfl)))) ?_ ?_ ?_; rotate_left; rotate_left; simp only [killV, Pk.v, V.free, rep, bne_self_eq_false, Nat.reduceAdd, Nat.reduceBNe, Nat.reduceBEq, Nat.reduceEqDiff, reduceIte, Bool.false_eq_true]
      rotate_left
      · simp only [List.length_map, List.length_cons, List.length_nil]; omega
      · simp only [List.length_map, List.length_cons, List.length_nil]; omega
      rw [one_row]
      refine SmG.v hF rfl rfl rfl (opV_buildT rfl Tryd.underlying37 (by kernel_rfl) rfl (by simp (disch := omega) only [go_sem, Nat.reduceEqDiff, iteP, elemsL, sumD, sumD_length, hB, hml, Nat.zero_le, take_map', drop_map'] <;> rfl)) ?_
      refine SmG.store hF rfl rfl rfl rfl rfl (by simp (disch := omega) only [go_sem, Nat.reduceEqDiff, iteP, elemsL, sumD, sumD_length, hB, hml, Nat.zero_le, take_map', drop_map'] <;> rfl) ?_
      refine SmG.nil ?_
      refine nextS_normal ?_
      refine Sm.ret ?_
      exact retO_cell 1 rfl rfl (by simp (disch := omega) only [go_sem, Nat.reduceEqDiff, iteP] <;> rfl) rfl
  · have hp : Sha.proof l i = [] := by unfold Sha.proof; rw [Sha.path_one _ (by omega)]; rfl
    rw [hp]
    have h1 : l.length = 1 := by omega

    refine CallsO.of Tryd.func21 rfl Tryd.ntmps21 (by simp) ?_; intro F hF; simp only [List.zipIdx_cons, List.zipIdx_nil, List.map_cons, List.map_nil, Nat.zero_add, Nat.reduceAdd]
    refine Sm.seq ?_
    refine Sm.regionG hF rfl ?_
    refine SmG.new hF rfl rfl rfl (opS_alloc rfl al37) ?_
    refine SmG.nil ?_
    refine nextS_normal ?_
    refine Sm.seq ?_
    refine Sm.seq ?_
    refine Sm.regionG hF rfl ?_
    refine SmG.v hF rfl rfl rfl (opV_move rfl rfl) ?_
    refine SmG.v hF rfl rfl rfl (opV_bin rfl rfl rfl (by first | exact rd_lssT _ _ _ _ _ (by omega) | exact rd_lssF _ _ _ _ _ (by omega) | exact rb_lss _ _ _ _ _ _ _)) ?_
    refine SmG.v hF rfl rfl rfl (opV_move rfl rfl) ?_
    first | refine SmG.v hF rfl rfl rfl (opV_move rfl rfl) ?_ | refine SmG.pass hF rfl rfl rfl ?_
    first | refine SmG.v hF rfl rfl rfl (opV_move rfl rfl) ?_ | refine SmG.pass hF rfl rfl rfl ?_
    first | refine SmG.v hF rfl rfl rfl (opV_len rfl rfl (by simp (disch := omega) only [go_sem, Nat.reduceEqDiff, iteP, elemsL] <;> rfl)) ?_ | refine SmG.pass hF rfl rfl rfl ?_
    first | refine SmG.v hF rfl rfl rfl (opV_bin rfl rfl rfl (by first | exact rd_geqT _ _ _ _ _ (by omega) | exact rd_geqF _ _ _ _ _ (by omega) | exact rb_geq _ _ _ _ _ _ _)) ?_ | refine SmG.pass hF rfl rfl rfl ?_
    first | refine SmG.v hF rfl rfl rfl (opV_pickT rfl rfl rfl) ?_ | refine SmG.v hF rfl rfl rfl (opV_pickF rfl rfl rfl) ?_
    refine SmG.nil ?_
    refine nextS_normal ?_
    refine Sm.condF hF rfl ?_
    refine Sm.skip ?_
    refine nextS_normal ?_
    refine Sm.seq ?_
    refine Sm.seq ?_
    refine Sm.regionG hF rfl ?_
    refine SmG.v hF rfl rfl rfl (opV_move rfl rfl) ?_
    refine SmG.v hF rfl rfl rfl (opV_len rfl rfl (by simp (disch := omega) only [go_sem, Nat.reduceEqDiff, iteP, elemsL] <;> rfl)) ?_
    refine SmG.v hF rfl rfl rfl (opV_bin rfl rfl rfl (by first | exact rd_eqlT _ _ _ _ _ (by omega) | exact rd_eqlF _ _ _ _ _ (by omega) | exact rb_eql _ _ _ _ _ _ _)) ?_
    refine SmG.nil ?_
    refine nextS_normal ?_
    refine Sm.condT hF rfl ?_
    refine Sm.seq ?_
    refine Sm.regionG hF rfl ?_
    refine SmG.v hF rfl rfl rfl (opV_buildT rfl Tryd.underlying37 (by kernel_rfl) rfl bz37) ?_
    refine SmG.ownMix (t := 18) (sz := 0) 32 rfl ?_
    refine SmG.store hF rfl rfl rfl rfl rfl (by simp (disch := omega) only [go_sem, Nat.reduceEqDiff, iteP, elemsL] <;> rfl) ?_
    refine SmG.nil ?_
    refine nextS_normal ?_
    refine Sm.ret ?_
    simp only [nextS, blockS]
    exact retO_cell 1 rfl rfl (by simp (disch := omega) only [go_sem, Nat.reduceEqDiff, iteP] <;> rfl) rfl
end Go.Proofs.YtmindblfbijaaaaDoor
