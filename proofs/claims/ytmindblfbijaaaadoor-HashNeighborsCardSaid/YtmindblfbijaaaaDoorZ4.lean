/-
  Lemmas, part 4 of 4: walks through the program's functions, and plain Lean about what they compute.
-/
import Derived.Test.YtmindblfbijaaaaDoorZ1
import Derived.Test.YtmindblfbijaaaaDoorZ2
import Derived.Test.YtmindblfbijaaaaDoorZ3
set_option linter.unusedSimpArgs false
set_option linter.unusedVariables false
namespace Go.Proofs.YtmindblfbijaaaaDoor
namespace Sha
theorem cut_even {n : Nat} (h : 3 ≤ n) : cut n % 2 = 0 ∧ 2 ≤ cut n := by
  have hl : 1 ≤ Nat.log2 (n - 1) := by
    have := (Nat.le_log2 (n := n - 1) (k := 1) (by omega)).2 (by omega)
    exact this
  unfold cut
  obtain ⟨k, hk⟩ : ∃ k, Nat.log2 (n - 1) = k + 1 := ⟨Nat.log2 (n - 1) - 1, by omega⟩
  rw [hk, Nat.pow_succ]
  have := Nat.pow_pos (n := k) (show 0 < 2 by omega)
  omega
theorem cut_two : cut 2 = 1 := by decide
theorem neighbours : ∀ (k : Nat) (l : List (List UInt8)) (i : Nat), l.length = k → i % 2 = 0 → i + 1 < l.length →
    ∃ P, path l i = P ++ [leaf (l.getD (i + 1) [])] ∧ path l (i + 1) = P ++ [leaf (l.getD i [])] := by
  intro k
  induction k using Nat.strongRecOn with
  | _ k ih =>
    intro l i hk he hi
    have h2 : 2 ≤ l.length := by omega
    rcases Nat.lt_or_ge l.length 3 with h3 | h3
    · match l, h2, h3 with
      | [a, b], _, _ =>
        have : i = 0 := by simp at hi; omega
        subst this
        refine ⟨[], ?_, ?_⟩
        · rw [path_low (by simp) (by simp [cut_two])]
          simp [cut_two, root_one, path_one]
        · rw [path_high (by simp) (by simp [cut_two])]
          simp [cut_two, root_one, path_one]
    · obtain ⟨ce, c2⟩ := cut_even h3
      have c1 := cut_lt h2
      rcases Nat.lt_or_ge i (cut l.length) with hlt | hge
      · have hlt' : i + 1 < cut l.length := by omega
        obtain ⟨P, h1, h2'⟩ := ih (l.take (cut l.length)).length (by rw [List.length_take]; omega) (l.take (cut l.length)) i rfl he (by rw [List.length_take]; omega)
        refine ⟨root (l.drop (cut l.length)) :: P, ?_, ?_⟩
        · rw [path_low h2 hlt, h1]
          simp [List.getD_eq_getElem?_getD, List.getElem?_take_of_lt hlt']
        · rw [path_low h2 hlt', h2']
          simp [List.getD_eq_getElem?_getD, List.getElem?_take_of_lt hlt]
      · obtain ⟨P, h1, h2'⟩ := ih (l.drop (cut l.length)).length (by rw [List.length_drop]; omega) (l.drop (cut l.length)) (i - cut l.length) rfl (by omega) (by rw [List.length_drop]; omega)
        refine ⟨root (l.take (cut l.length)) :: P, ?_, ?_⟩
        · rw [path_high h2 hge, h1]
          simp [List.getD_eq_getElem?_getD, List.getElem?_drop, show cut l.length + (i - cut l.length + 1) = i + 1 by omega]
        · rw [path_high h2 (by omega), show i + 1 - cut l.length = i - cut l.length + 1 by omega, h2']
          simp [List.getD_eq_getElem?_getD, List.getElem?_drop, show cut l.length + (i - cut l.length) = i by omega]
theorem neighbours_proof (l : List (List UInt8)) (i : Nat) (he : i % 2 = 0) (hi : i + 1 < l.length) :
    ∃ P, proof l i = leaf (l.getD (i + 1) []) :: P ∧ proof l (i + 1) = leaf (l.getD i []) :: P := by
  obtain ⟨P, h1, h2⟩ := neighbours _ l i rfl he hi
  exact ⟨P.reverse, by unfold proof; rw [h1]; simp, by unfold proof; rw [h2]; simp⟩
end Sha
end Go.Proofs.YtmindblfbijaaaaDoor
namespace Go.Proofs.YtmindblfbijaaaaDoor
open Go.RowKit
set_option maxRecDepth 100000
theorem fit_elems (xs : List (List UInt8)) : Fit (elems xs) ∧ (elems xs).length ≤ 9 := by
  have hl : (elems xs).length ≤ 9 := by simp [elems]; omega
  refine ⟨⟨by omega, fun l h => ?_⟩, hl⟩
  simp only [elems, List.mem_map] at h
  obtain ⟨y, _, rfl⟩ := h
  rw [List.length_take]; omega
theorem path_le : ∀ (k : Nat) (l : List (List UInt8)) (i : Nat), l.length = k → (Sha.path l i).length ≤ l.length := by
  intro k
  induction k using Nat.strongRecOn with
  | _ k ih =>
    intro l i hk
    rcases Nat.lt_or_ge l.length 2 with h | h
    · rw [Sha.path_one _ h]; simp
    · have c1 := Sha.cut_lt h
      have c2 := Sha.cut_pos l.length
      rcases Nat.lt_or_ge i (Sha.cut l.length) with hi | hi
      · rw [Sha.path_low h hi]
        have := ih (l.take (Sha.cut l.length)).length (by rw [List.length_take]; omega) (l.take (Sha.cut l.length)) i rfl
        rw [List.length_take] at this
        simp only [List.length_cons]; omega
      · rw [Sha.path_high h hi]
        have := ih (l.drop (Sha.cut l.length)).length (by rw [List.length_drop]; omega) (l.drop (Sha.cut l.length)) (i - Sha.cut l.length) rfl
        rw [List.length_drop] at this
        simp only [List.length_cons]; omega
theorem proof_le (l : List (List UInt8)) (i : Nat) : (Sha.proof l i).length ≤ l.length := by
  unfold Sha.proof; rw [List.length_reverse]; exact path_le _ l i rfl
theorem proof_len32' (ls : List (List UInt8)) (i : Nat) : Len32' (Sha.proof ls i) := fun s hs => proof_len32 ls i s hs

theorem neigh_D (xs : List (List UInt8)) (hx : xs.length ≤ 9223372036854775807) : CallsD Tryd.prog HG 8 [elemsL xs] (.v (.bool true)) := by
  refine CallsD.of Tryd.func8 rfl Tryd.ntmps8 (by simp) ?_; intro F hF; simp only [List.zipIdx_cons, List.zipIdx_nil, List.map_cons, List.map_nil, Nat.zero_add, Nat.reduceAdd]
  refine Sm.seq ?_
  refine Sm.regionG hF rfl ?_
  refine SmG.v hF rfl rfl rfl (opV_assign rfl rfl) ?_
  refine SmG.nil ?_
  refine nextS_normal ?_
  refine Sm.seq ?_
  refine Sm.regionG hF rfl ?_
  refine SmG.call hF rfl rfl (by kernel_rfl) rfl rfl rfl (sanity_D) ?_
  refine SmG.v hF rfl rfl rfl (opV_assign rfl rfl) ?_
  refine SmG.nil ?_
  refine nextS_normal ?_
  refine Sm.seq ?_
  refine Sm.regionG hF rfl ?_
  refine SmG.v hF rfl rfl rfl (opV_move rfl rfl) ?_
  refine SmG.call hF rfl rfl (by kernel_rfl) rfl rfl rfl (elements_D xs hx) ?_
  refine SmG.v hF rfl rfl rfl (opV_assign rfl rfl) ?_
  refine SmG.nil ?_
  refine nextS_normal ?_
  refine Sm.seq ?_
  refine Sm.seq ?_
  refine Sm.regionG hF rfl ?_
  refine SmG.v hF rfl rfl rfl (opV_assign rfl rfl) ?_
  refine SmG.nil ?_
  refine nextS_normal ?_
  refine Sm.block ?_
  obtain ⟨hF', hl⟩ := fit_elems xs
  generalize elems xs = l at hF' hl ⊢
  refine Sm.loop (ι := {k : Nat // k ≤ l.length + 1 ∧ k % 2 = 0}) (fun k => ⟨[(3, .d (.v (.bool true))), (4, .d (elemsL l)), (5, .d (.v (.int .i64 k.1)))], [], 0⟩) (fun k => l.length + 1 - k.1) (⟨0, by omega, rfl⟩) ?_ ?_
  · exact St.le_of (by simp [leE, look, constD]) (by simp [leH, look]) (by first | exact Nat.le_refl _ | (dsimp only; omega))
  rintro ⟨k, hk, he⟩
  simp only
  by_cases hlt : k + 1 < l.length
  · obtain ⟨P, e1, e2⟩ := Sha.neighbours_proof l k he hlt
    have hk1 : l[k]? = some (l[k]'(by omega)) := by simp
    have hk2 : l[k + 1]? = some l[k + 1] := by simp
    have g1 : l.getD k [] = l[k]'(by omega) := by simp [List.getD, hk1]
    have g2 : l.getD (k + 1) [] = l[k + 1] := by simp [List.getD, hk2]
    rw [g2] at e1
    rw [g1] at e2
    have hP : Len32' P := fun s hs => proof_len32' l k s (by rw [e1]; simp [hs])
    have c1 := proof_D l k hF' (by omega)
    have c2 := proof_D l (k + 1) hF' hlt
    rw [e1] at c1
    rw [e2] at c2
    have hPl : P.length ≤ 9223372036854775806 := by
      have := proof_le l k
      rw [e1] at this; simp at this; omega
    have m1 := leaf_D l[k + 1] (hF'.2 _ (List.getElem_mem hlt))
    have m2 := leaf_D (l[k]'(by omega)) (hF'.2 _ (List.getElem_mem (by omega)))
    have m3 : CallsD Tryd.prog HG 22 [sumsL P, sumsL P] (.v (.bool true)) := by
      have := same_D P P hP hP (by omega) (by omega)
      simpa using this
    have q1 : eqAgg Tryd.prog 28 (.d (.agg 32 (rowS (Sha.leaf l[k + 1])))) (.d (.agg 32 (rowS (Sha.leaf l[k + 1])))) = some true := by
      rw [eq_sum (Sha.leaf_len _) (Sha.leaf_len _)]; simp
    have q2 : eqAgg Tryd.prog 28 (.d (.agg 32 (rowS (Sha.leaf (l[k]'(by omega)))))) (.d (.agg 32 (rowS (Sha.leaf (l[k]'(by omega)))))) = some true := by
      rw [eq_sum (Sha.leaf_len _) (Sha.leaf_len _)]; simp
    have hcast : ((k : Int) + 1).toNat = k + 1 := by omega

    refine Sm.seq ?_
    refine Sm.seq ?_
    refine Sm.regionG hF rfl ?_
    refine SmG.v hF rfl rfl rfl (opV_move rfl rfl) ?_
    refine SmG.v hF rfl rfl rfl (opV_bin rfl rfl rfl (by first | exact rd_add _ _ _ _ _ (wrapI64 _ (by omega)) | exact rb_add _ _ _ _ _ _ _)) ?_
    refine SmG.v hF rfl rfl rfl (opV_move rfl rfl) ?_
    refine SmG.v hF rfl rfl rfl (opV_len rfl rfl (by simp (disch := omega) only [go_sem, hk1, hk2, sumsL, elemsL, bytesL, rowE, sumD, q1, q2, hcast, Nat.le_add_left, sumD_length, Sha.leaf_len] <;> rfl)) ?_
    refine SmG.v hF rfl rfl rfl (opV_bin rfl rfl rfl (by first | exact rd_lssT _ _ _ _ _ (by omega) | exact rd_lssF _ _ _ _ _ (by omega) | exact rb_lss _ _ _ _ _ _ _)) ?_
    refine SmG.nil ?_
    refine nextS_normal ?_
    refine Sm.condT hF rfl ?_
    refine Sm.skip ?_
    refine nextS_normal ?_
    refine Sm.seq ?_
    refine Sm.block ?_
    refine Sm.seq ?_
    refine Sm.regionG hF rfl ?_
    refine SmG.v hF rfl rfl rfl (opV_move rfl rfl) ?_
    refine SmG.v hF rfl rfl rfl (opV_move rfl rfl) ?_
    refine SmG.call hF rfl rfl (by kernel_rfl) rfl rfl rfl (c1) ?_
    refine SmG.v hF rfl rfl rfl (opV_move rfl rfl) ?_
    refine SmG.v hF rfl rfl rfl (opV_extract rfl rfl rfl) ?_
    refine SmG.v hF rfl rfl rfl (opV_extract rfl rfl rfl) ?_
    refine SmG.v hF rfl rfl rfl (opV_assign rfl rfl) ?_
    refine SmG.v hF rfl rfl rfl (opV_assign rfl rfl) ?_
    refine SmG.nil ?_
    refine nextS_normal ?_
    refine Sm.seq ?_
    refine Sm.regionG hF rfl ?_
    refine SmG.v hF rfl rfl rfl (opV_move rfl rfl) ?_
    refine SmG.v hF rfl rfl rfl (opV_move rfl rfl) ?_
    refine SmG.v hF rfl rfl rfl (opV_bin rfl rfl rfl (by first | exact rd_add _ _ _ _ _ (wrapI64 _ (by omega)) | exact rb_add _ _ _ _ _ _ _)) ?_
    refine SmG.call hF rfl rfl (by kernel_rfl) rfl rfl rfl (c2) ?_
    refine SmG.v hF rfl rfl rfl (opV_move rfl rfl) ?_
    refine SmG.v hF rfl rfl rfl (opV_extract rfl rfl rfl) ?_
    refine SmG.v hF rfl rfl rfl (opV_extract rfl rfl rfl) ?_
    refine SmG.v hF rfl rfl rfl (opV_assign rfl rfl) ?_
    refine SmG.v hF rfl rfl rfl (opV_assign rfl rfl) ?_
    refine SmG.nil ?_
    refine nextS_normal ?_
    refine Sm.seq ?_
    refine Sm.drawG hF (by kernel_rfl) rfl 49 (by kernel_rfl) (by kernel_rfl) ?_
    simp only [List.take_succ_cons, List.take_zero, List.take_nil]
    refine Head.v hF rfl rfl rfl (opV_move rfl rfl) ?_
    refine Head.v hF rfl rfl rfl (opV_bin rfl rfl rfl (by first | exact rd_neqT _ _ _ _ _ (by omega) | exact rd_neqF _ _ _ _ _ (by omega) | exact rb_neq _ _ _ _ _ _ _)) ?_
    refine Head.v hF rfl rfl rfl (opV_move rfl rfl) ?_
    first | refine Head.v hF rfl rfl rfl (opV_move rfl rfl) ?_ | refine Head.p hF rfl rfl rfl ?_
    first | refine Head.v hF rfl rfl rfl (opV_bin rfl rfl rfl (by first | exact rd_neqT _ _ _ _ _ (by omega) | exact rd_neqF _ _ _ _ _ (by omega) | exact rb_neq _ _ _ _ _ _ _)) ?_ | refine Head.p hF rfl rfl rfl ?_
    first | refine Head.v hF rfl rfl rfl (opV_pickT rfl rfl rfl) ?_ | refine Head.v hF rfl rfl rfl (opV_pickF rfl rfl rfl) ?_
    refine Head.v hF rfl rfl rfl (opV_move rfl rfl) ?_
    first | refine Head.v hF rfl rfl rfl (opV_move rfl rfl) ?_ | refine Head.p hF rfl rfl rfl ?_
    first | refine Head.v hF rfl rfl rfl (opV_len rfl rfl (by simp (disch := omega) only [go_sem, hk1, hk2, sumsL, elemsL, bytesL, rowE, sumD, q1, q2, hcast, Nat.le_add_left, sumD_length, Sha.leaf_len] <;> rfl)) ?_ | refine Head.p hF rfl rfl rfl ?_
    first | refine Head.v hF rfl rfl rfl (opV_bin rfl rfl rfl (by first | exact rd_lssT _ _ _ _ _ (by omega) | exact rd_lssF _ _ _ _ _ (by omega) | exact rb_lss _ _ _ _ _ _ _)) ?_ | refine Head.p hF rfl rfl rfl ?_
    first | refine Head.v hF rfl rfl rfl (opV_pickT rfl rfl rfl) ?_ | refine Head.v hF rfl rfl rfl (opV_pickF rfl rfl rfl) ?_
    refine Head.v hF rfl rfl rfl (opV_move rfl rfl) ?_
    first | refine Head.v hF rfl rfl rfl (opV_move rfl rfl) ?_ | refine Head.p hF rfl rfl rfl ?_
    first | refine Head.v hF rfl rfl rfl (opV_len rfl rfl (by simp (disch := omega) only [go_sem, hk1, hk2, sumsL, elemsL, bytesL, rowE, sumD, q1, q2, hcast, Nat.le_add_left, sumD_length, Sha.leaf_len] <;> rfl)) ?_ | refine Head.p hF rfl rfl rfl ?_
    first | refine Head.v hF rfl rfl rfl (opV_move rfl rfl) ?_ | refine Head.p hF rfl rfl rfl ?_
    first | refine Head.v hF rfl rfl rfl (opV_len rfl rfl (by simp (disch := omega) only [go_sem, hk1, hk2, sumsL, elemsL, bytesL, rowE, sumD, q1, q2, hcast, Nat.le_add_left, sumD_length, Sha.leaf_len] <;> rfl)) ?_ | refine Head.p hF rfl rfl rfl ?_
    first | refine Head.v hF rfl rfl rfl (opV_bin rfl rfl rfl (by first | exact rd_neqT _ _ _ _ _ (by omega) | exact rd_neqF _ _ _ _ _ (by omega) | exact rb_neq _ _ _ _ _ _ _)) ?_ | refine Head.p hF rfl rfl rfl ?_
    first | refine Head.v hF rfl rfl rfl (opV_pickT rfl rfl rfl) ?_ | refine Head.v hF rfl rfl rfl (opV_pickF rfl rfl rfl) ?_
    refine Head.v hF rfl rfl rfl (opV_move rfl rfl) ?_
    first | refine Head.v hF rfl rfl rfl (opV_move rfl rfl) ?_ | refine Head.p hF rfl rfl rfl ?_
    first | refine Head.v hF rfl rfl rfl (opV_indexAddr rfl rfl rfl (by simp (disch := omega) only [go_sem, hk1, hk2, sumsL, elemsL, bytesL, rowE, sumD, q1, q2, hcast, Nat.le_add_left, sumD_length, Sha.leaf_len] <;> rfl)) ?_ | refine Head.p hF rfl rfl rfl ?_
    first | refine Head.v hF rfl rfl rfl (opV_load rfl rfl (by simp (disch := omega) only [go_sem, hk1, hk2, sumsL, elemsL, bytesL, rowE, sumD, q1, q2, hcast, Nat.le_add_left, sumD_length, Sha.leaf_len] <;> rfl)) ?_ | refine Head.p hF rfl rfl rfl ?_
    first | refine Head.v hF rfl rfl rfl (opV_move rfl rfl) ?_ | refine Head.p hF rfl rfl rfl ?_
    first | refine Head.v hF rfl rfl rfl (opV_move rfl rfl) ?_ | refine Head.p hF rfl rfl rfl ?_
    first | refine Head.v hF rfl rfl rfl (opV_bin rfl rfl rfl (by first | exact rd_add _ _ _ _ _ (wrapI64 _ (by omega)) | exact rb_add _ _ _ _ _ _ _)) ?_ | refine Head.p hF rfl rfl rfl ?_
    first | refine Head.v hF rfl rfl rfl (opV_indexAddr rfl rfl rfl (by simp (disch := omega) only [go_sem, hk1, hk2, sumsL, elemsL, bytesL, rowE, sumD, q1, q2, hcast, Nat.le_add_left, sumD_length, Sha.leaf_len] <;> rfl)) ?_ | refine Head.p hF rfl rfl rfl ?_
    first | refine Head.v hF rfl rfl rfl (opV_load rfl rfl (by simp (disch := omega) only [go_sem, hk1, hk2, sumsL, elemsL, bytesL, rowE, sumD, q1, q2, hcast, Nat.le_add_left, sumD_length, Sha.leaf_len] <;> rfl)) ?_ | refine Head.p hF rfl rfl rfl ?_
    first | refine Head.c hF rfl rfl (by kernel_rfl) rfl rfl rfl (m1) ?_ | refine Head.p hF rfl rfl rfl ?_
    first | refine Head.v hF rfl rfl rfl (opV_neA rfl rfl rfl (by simp (disch := omega) only [go_sem, hk1, hk2, sumsL, elemsL, bytesL, rowE, sumD, q1, q2, hcast, Nat.le_add_left, sumD_length, Sha.leaf_len] <;> rfl)) ?_ | refine Head.p hF rfl rfl rfl ?_
    first | refine Head.v hF rfl rfl rfl (opV_pickT rfl rfl rfl) ?_ | refine Head.v hF rfl rfl rfl (opV_pickF rfl rfl rfl) ?_
    refine Head.v hF rfl rfl rfl (opV_move rfl rfl) ?_
    first | refine Head.v hF rfl rfl rfl (opV_move rfl rfl) ?_ | refine Head.p hF rfl rfl rfl ?_
    first | refine Head.v hF rfl rfl rfl (opV_indexAddr rfl rfl rfl (by simp (disch := omega) only [go_sem, hk1, hk2, sumsL, elemsL, bytesL, rowE, sumD, q1, q2, hcast, Nat.le_add_left, sumD_length, Sha.leaf_len] <;> rfl)) ?_ | refine Head.p hF rfl rfl rfl ?_
    first | refine Head.v hF rfl rfl rfl (opV_load rfl rfl (by simp (disch := omega) only [go_sem, hk1, hk2, sumsL, elemsL, bytesL, rowE, sumD, q1, q2, hcast, Nat.le_add_left, sumD_length, Sha.leaf_len] <;> rfl)) ?_ | refine Head.p hF rfl rfl rfl ?_
    first | refine Head.v hF rfl rfl rfl (opV_move rfl rfl) ?_ | refine Head.p hF rfl rfl rfl ?_
    first | refine Head.v hF rfl rfl rfl (opV_move rfl rfl) ?_ | refine Head.p hF rfl rfl rfl ?_
    first | refine Head.v hF rfl rfl rfl (opV_indexAddr rfl rfl rfl (by simp (disch := omega) only [go_sem, hk1, hk2, sumsL, elemsL, bytesL, rowE, sumD, q1, q2, hcast, Nat.le_add_left, sumD_length, Sha.leaf_len] <;> rfl)) ?_ | refine Head.p hF rfl rfl rfl ?_
    first | refine Head.v hF rfl rfl rfl (opV_load rfl rfl (by simp (disch := omega) only [go_sem, hk1, hk2, sumsL, elemsL, bytesL, rowE, sumD, q1, q2, hcast, Nat.le_add_left, sumD_length, Sha.leaf_len] <;> rfl)) ?_ | refine Head.p hF rfl rfl rfl ?_
    first | refine Head.c hF rfl rfl (by kernel_rfl) rfl rfl rfl (m2) ?_ | refine Head.p hF rfl rfl rfl ?_
    first | refine Head.v hF rfl rfl rfl (opV_neA rfl rfl rfl (by simp (disch := omega) only [go_sem, hk1, hk2, sumsL, elemsL, bytesL, rowE, sumD, q1, q2, hcast, Nat.le_add_left, sumD_length, Sha.leaf_len] <;> rfl)) ?_ | refine Head.p hF rfl rfl rfl ?_
    first | refine Head.v hF rfl rfl rfl (opV_pickT rfl rfl rfl) ?_ | refine Head.v hF rfl rfl rfl (opV_pickF rfl rfl rfl) ?_
    refine Head.v hF rfl rfl rfl (opV_move rfl rfl) ?_
    first | refine Head.v hF rfl rfl rfl (opV_move rfl rfl) ?_ | refine Head.p hF rfl rfl rfl ?_
    first | refine Head.v hF rfl rfl rfl (opV_slice rfl rfl rfl rfl rfl (by simp (disch := omega) only [go_sem, hk1, hk2, sumsL, elemsL, bytesL, rowE, sumD, q1, q2, hcast, Nat.le_add_left, sumD_length, Sha.leaf_len] <;> rfl)) ?_ | refine Head.p hF rfl rfl rfl ?_
    first | refine Head.v hF rfl rfl rfl (opV_move rfl rfl) ?_ | refine Head.p hF rfl rfl rfl ?_
    first | refine Head.v hF rfl rfl rfl (opV_slice rfl rfl rfl rfl rfl (by simp (disch := omega) only [go_sem, hk1, hk2, sumsL, elemsL, bytesL, rowE, sumD, q1, q2, hcast, Nat.le_add_left, sumD_length, Sha.leaf_len] <;> rfl)) ?_ | refine Head.p hF rfl rfl rfl ?_
    first | refine Head.c hF rfl rfl (by kernel_rfl) rfl rfl rfl (m3) ?_ | refine Head.p hF rfl rfl rfl ?_
    first | refine Head.v hF rfl rfl rfl (opV_un rfl rfl (by first | exact rd_notT _ | exact rd_notF _ | exact rd_not _)) ?_ | refine Head.p hF rfl rfl rfl ?_
    first | refine Head.v hF rfl rfl rfl (opV_pickT rfl rfl rfl) ?_ | refine Head.v hF rfl rfl rfl (opV_pickF rfl rfl rfl) ?_
    refine Head.last ⟨rfl, ?_⟩
    simp only [List.drop_succ_cons, List.drop_zero, List.drop_nil, List.nil_append, List.cons_append]
    refine SmG.nil ?_
    refine nextS_normal ?_
    refine Sm.condF hF rfl ?_
    refine Sm.skip ?_
    refine blockS_normal ?_
    refine nextS_normal ?_
    refine Sm.regionG hF rfl ?_
    refine SmG.v hF rfl rfl rfl (opV_move rfl rfl) ?_
    refine SmG.v hF rfl rfl rfl (opV_bin rfl rfl rfl (by first | exact rd_add _ _ _ _ _ (wrapI64 _ (by omega)) | exact rb_add _ _ _ _ _ _ _)) ?_
    refine SmG.v hF rfl rfl rfl (opV_assign rfl rfl) ?_
    refine SmG.nil ?_
    refine nextS_normal ?_
    exact ⟨⟨k + 2, by omega, by omega⟩, by show l.length + 1 - (k + 2) < l.length + 1 - k; omega, by exact St.le_of (by simp [leE, look, constD]) (by simp [leH, look]) (by first | exact Nat.le_refl _ | (dsimp only; omega))⟩

  · refine Sm.seq ?_
    refine Sm.seq ?_
    refine Sm.regionG hF rfl ?_
    refine SmG.v hF rfl rfl rfl (opV_move rfl rfl) ?_
    refine SmG.v hF rfl rfl rfl (opV_bin rfl rfl rfl (by first | exact rd_add _ _ _ _ _ (wrapI64 _ (by omega)) | exact rb_add _ _ _ _ _ _ _)) ?_
    refine SmG.v hF rfl rfl rfl (opV_move rfl rfl) ?_
    refine SmG.v hF rfl rfl rfl (opV_len rfl rfl (by simp (disch := omega) only [go_sem, elemsL] <;> rfl)) ?_
    refine SmG.v hF rfl rfl rfl (opV_bin rfl rfl rfl (by first | exact rd_lssT _ _ _ _ _ (by omega) | exact rd_lssF _ _ _ _ _ (by omega) | exact rb_lss _ _ _ _ _ _ _)) ?_
    refine SmG.nil ?_
    refine nextS_normal ?_
    refine Sm.condF hF rfl ?_
    refine Sm.exit ?_
    simp only [nextS, blockS, reduceIte, reduceCtorEq]
    refine Sm.seq ?_
    refine Sm.regionG hF rfl ?_
    refine SmG.v hF rfl rfl rfl (opV_move rfl rfl) ?_
    refine SmG.v hF rfl rfl rfl (opV_assign rfl rfl) ?_
    refine SmG.nil ?_
    refine nextS_normal ?_
    refine Sm.ret ?_
    refine ⟨_, rfl, ?_⟩; dsimp only
    exact D.le.refl _
end Go.Proofs.YtmindblfbijaaaaDoor
