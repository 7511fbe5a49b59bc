/-
  Plain Lean: rows of hashes (32 cells each), and turning them round; no program in sight.
-/
import Derived.Test.YtmindblfbijaaaaDoorTree
import Derived.Test.YtmindblfbijaaaaDoorMem
namespace Go.Proofs.YtmindblfbijaaaaDoor
open Go.RowKit
/-- The cells of a list of hashes. -/
def sums (l : List (List UInt8)) : List Value := (l.map u8s).flatten
/-- A list of hashes. -/
def Len32 (l : List (List UInt8)) : Prop := ∀ x ∈ l, x.length = 32
theorem Len32.get {l : List (List UInt8)} (h : Len32 l) {k : Nat} (hk : k < l.length) : (l.getD k []).length = 32 := by
  have : l.getD k [] = l[k] := by simp [hk]
  rw [this]; exact h _ (List.getElem_mem hk)
theorem Len32.set {l : List (List UInt8)} (h : Len32 l) {x : List UInt8} (hx : x.length = 32) (k : Nat) : Len32 (l.set k x) := by
  intro y hy
  rcases List.mem_or_eq_of_mem_set hy with h' | h'
  · exact h y h'
  · rw [h']; exact hx
theorem Len32.append {l m : List (List UInt8)} (h : Len32 l) (k : Len32 m) : Len32 (l ++ m) := by
  intro x hx; rcases List.mem_append.1 hx with h' | h'
  · exact h x h'
  · exact k x h'
theorem Len32.reverse {l : List (List UInt8)} (h : Len32 l) : Len32 l.reverse := fun x hx => h x (by simpa using hx)
theorem Len32.take {l : List (List UInt8)} (h : Len32 l) (k : Nat) : Len32 (l.take k) := fun x hx => h x (List.mem_of_mem_take hx)
theorem Len32.drop {l : List (List UInt8)} (h : Len32 l) (k : Nat) : Len32 (l.drop k) := fun x hx => h x (List.mem_of_mem_drop hx)
theorem sums_nil : sums [] = [] := rfl
theorem sums_cons (x : List UInt8) (l : List (List UInt8)) : sums (x :: l) = u8s x ++ sums l := by simp [sums]
theorem sums_append (l m : List (List UInt8)) : sums (l ++ m) = sums l ++ sums m := by simp [sums]
theorem sums_one (x : List UInt8) : sums [x] = u8s x := by simp [sums]
theorem sums_snoc (l : List (List UInt8)) (x : List UInt8) : sums (l ++ [x]) = sums l ++ u8s x := by simp [sums]
theorem sums_length {l : List (List UInt8)} (h : Len32 l) : (sums l).length = l.length * 32 := by
  induction l with
  | nil => rfl
  | cons x r ih =>
    rw [sums_cons, List.length_append, u8s_length, h x (by simp), ih (fun y hy => h y (by simp [hy]))]
    simp [Nat.add_mul]; omega
theorem sums_get {l : List (List UInt8)} (h : Len32 l) (tail : List Value) {k : Nat} (hk : k < l.length) {j : Nat} {v : Value} (hj : (u8s (l.getD k []))[j]? = some v) : (sums l ++ tail)[k * 32 + j]? = some v := by
  induction l generalizing k with
  | nil => simp at hk
  | cons x r ih =>
    rw [sums_cons, List.append_assoc]
    have hx : (u8s x).length = 32 := by rw [u8s_length]; exact h x (by simp)
    cases k with
    | zero =>
      simp only [List.getD_cons_zero] at hj
      rw [Nat.zero_mul, Nat.zero_add, List.getElem?_append_left (List.getElem?_eq_some_iff.1 hj).1]; exact hj
    | succ k =>
      simp only [List.getD_cons_succ] at hj
      rw [List.getElem?_append_right (by omega), hx, show (k + 1) * 32 + j - 32 = k * 32 + j by omega]
      exact ih (fun y hy => h y (by simp [hy])) (by simpa using hk) hj
theorem sums_lay {l : List (List UInt8)} (h : Len32 l) (tail : List Value) {k : Nat} (hk : k < l.length) {x : List UInt8} (hx : x.length = 32) : lay (sums l ++ tail) (k * 32) (u8s x) = sums (l.set k x) ++ tail := by
  have hux : (u8s x).length = 32 := by rw [u8s_length]; exact hx
  have e1 : l = l.take k ++ [l.getD k []] ++ l.drop (k + 1) := by
    have : l.getD k [] = l[k] := by simp [hk]
    rw [this, List.append_assoc, List.singleton_append, List.getElem_cons_drop, List.take_append_drop]
  have e2 : l.set k x = l.take k ++ [x] ++ l.drop (k + 1) := by
    rw [List.set_eq_take_append_cons_drop, if_pos hk, List.append_assoc, List.singleton_append]
  have l1 : (sums (l.take k)).length = k * 32 := by rw [sums_length (h.take k), List.length_take, Nat.min_eq_left (by omega)]
  have l2 : (u8s (l.getD k [])).length = 32 := by rw [u8s_length]; exact h.get hk
  rw [e2]
  have e3 : sums l = sums (l.take k) ++ u8s (l.getD k []) ++ sums (l.drop (k + 1)) := by
    conv => lhs; rw [e1]
    rw [sums_append, sums_append, sums_one]
  rw [e3, sums_append, sums_append, sums_one]
  unfold lay
  have t1 : (sums (l.take k) ++ u8s (l.getD k []) ++ sums (l.drop (k + 1)) ++ tail).take (k * 32) = sums (l.take k) := by
    rw [List.append_assoc, List.append_assoc, List.take_append_of_le_length (by omega), List.take_of_length_le (by omega)]
  have t2 : (sums (l.take k) ++ u8s (l.getD k []) ++ sums (l.drop (k + 1)) ++ tail).drop (k * 32 + (u8s x).length) = sums (l.drop (k + 1)) ++ tail := by
    rw [hux, List.append_assoc, List.drop_append, List.length_append, l1, l2]
    rw [List.drop_of_length_le (by rw [List.length_append]; omega)]
    simp
  rw [t1, t2]
  simp [List.append_assoc]
/-- The list whose first k and last k elements have changed places. -/
def flip (l : List (List UInt8)) (k : Nat) : List (List UInt8) := (List.range l.length).map fun i => if i < k ∨ l.length ≤ i + k then l.getD (l.length - 1 - i) [] else l.getD i []
theorem flip_length (l : List (List UInt8)) (k : Nat) : (flip l k).length = l.length := by simp [flip]
theorem flip_get (l : List (List UInt8)) (k i : Nat) (hi : i < l.length) : (flip l k).getD i [] = if i < k ∨ l.length ≤ i + k then l.getD (l.length - 1 - i) [] else l.getD i [] := by
  simp [flip, hi]
theorem list_ext_getD {l m : List (List UInt8)} (hl : l.length = m.length) (h : ∀ i, i < l.length → l.getD i [] = m.getD i []) : l = m := by
  apply List.ext_getElem hl
  intro i h1 h2
  have := h i h1
  simpa [h1, h2] using this
theorem flip_zero (l : List (List UInt8)) : flip l 0 = l := by
  refine list_ext_getD (flip_length _ _) fun i hi => ?_
  rw [flip_length] at hi
  rw [flip_get _ _ _ hi, if_neg (by omega)]
theorem getD_set (l : List (List UInt8)) (i j : Nat) (x : List UInt8) (hi : i < l.length) : (l.set i x).getD j [] = if j = i then x else l.getD j [] := by
  simp only [List.getD_eq_getElem?_getD, List.getElem?_set]
  by_cases h : i = j
  · subst h; simp [hi]
  · rw [if_neg h, if_neg (Ne.symm h)]
theorem flip_succ (l : List (List UInt8)) (k : Nat) (h : k + k + 1 < l.length) :
    flip l (k + 1) = ((flip l k).set k ((flip l k).getD (l.length - 1 - k) [])).set (l.length - 1 - k) ((flip l k).getD k []) := by
  refine list_ext_getD (by simp [flip_length]) fun i hi => ?_
  rw [flip_length] at hi
  rw [getD_set _ _ _ _ (by simp [flip_length]; omega), getD_set _ _ _ _ (by simp [flip_length]; omega)]
  rw [flip_get _ _ _ hi, flip_get _ _ _ hi, flip_get _ _ _ (by omega), flip_get _ _ _ (by omega)]
  by_cases h1 : i = l.length - 1 - k
  · rw [if_pos h1, if_pos (by omega), if_neg (by omega), h1]; congr 1; omega
  · rw [if_neg h1]
    by_cases h2 : i = k
    · rw [if_pos h2, if_pos (by omega), if_neg (by omega), h2]
    · rw [if_neg h2]
      by_cases h3 : i < k ∨ l.length ≤ i + k
      · rw [if_pos h3, if_pos (by omega)]
      · rw [if_neg h3, if_neg (by omega)]
theorem flip_end (l : List (List UInt8)) (k : Nat) (h : l.length ≤ k + k + 1) : flip l k = l.reverse := by
  refine list_ext_getD (by simp [flip_length]) fun i hi => ?_
  rw [flip_length] at hi
  rw [flip_get _ _ _ hi]
  have e : l.reverse.getD i [] = l.getD (l.length - 1 - i) [] := by
    simp only [List.getD_eq_getElem?_getD, List.getElem?_reverse hi]
  rw [e]
  split
  · rfl
  · rename_i h'; congr 1; omega
theorem flip_len32 {l : List (List UInt8)} (h : Len32 l) (k : Nat) : Len32 (flip l k) := by
  intro x hx
  simp only [flip, List.mem_map, List.mem_range] at hx
  obtain ⟨i, hi, rfl⟩ := hx
  split
  · exact h.get (by omega)
  · exact h.get hi
end Go.Proofs.YtmindblfbijaaaaDoor
