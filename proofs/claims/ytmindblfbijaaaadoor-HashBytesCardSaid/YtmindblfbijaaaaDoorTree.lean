/-
  Plain Lean: the tree of hashes; no program in sight.
-/
import Derived.Test.YtmindblfbijaaaaDoorSha
import Derived.Lib.ItoaNum
namespace Go.Proofs.YtmindblfbijaaaaDoor
namespace Sha
theorem sum_len (l : List UInt8) : (sum l).length = 32 := out_length _
def leaf (b : List UInt8) : List UInt8 := sum (0 :: b)
def pair (a b : List UInt8) : List UInt8 := sum (1 :: (a ++ b))
theorem leaf_len (b : List UInt8) : (leaf b).length = 32 := sum_len _
theorem pair_len (a b : List UInt8) : (pair a b).length = 32 := sum_len _
/-- The greatest power of 2 less than n (n from 2 on). -/
def cut (n : Nat) : Nat := 2 ^ Nat.log2 (n - 1)
theorem cut_pos (n : Nat) : 0 < cut n := Nat.pow_pos (by omega)
theorem cut_lt {n : Nat} (h : 2 ≤ n) : cut n < n := by
  have := Nat.log2_self_le (n := n - 1) (by omega)
  unfold cut; omega
theorem cut_ge {n : Nat} (h : 2 ≤ n) : n ≤ 2 * cut n := by
  have := Nat.lt_log2_self (n := n - 1)
  unfold cut
  rw [Nat.pow_succ] at this; omega
theorem pow_unique {a b n : Nat} (h1 : 2 ^ a < n) (h2 : n ≤ 2 ^ (a + 1)) (h3 : 2 ^ b < n) (h4 : n ≤ 2 ^ (b + 1)) : a = b := by
  have key : ∀ x y : Nat, 2 ^ x < n → n ≤ 2 ^ (y + 1) → x ≤ y := by
    intro x y hx hy
    rcases Nat.lt_or_ge y x with h | h
    · have : 2 ^ (y + 1) ≤ 2 ^ x := Nat.pow_le_pow_right (by omega) h
      omega
    · exact h
  exact Nat.le_antisymm (key a b h1 h4) (key b a h3 h2)
theorem cut_eq {n k : Nat} (h : 2 ≤ n) (h1 : 2 ^ k < n) (h2 : n ≤ 2 * 2 ^ k) : cut n = 2 ^ k := by
  have a1 := cut_lt h
  have a2 := cut_ge h
  unfold cut at *
  rw [pow_unique (a := Nat.log2 (n - 1)) (b := k) (n := n) a1 (by rw [Nat.pow_succ]; omega) h1 (by rw [Nat.pow_succ]; omega)]
theorem cut_bits {n : Nat} (h : 2 ≤ n) (h2 : n < 2 ^ 64) : 1 ≤ Lib.bitLen (n - 1) ∧ Lib.bitLen (n - 1) ≤ 64 ∧ cut n = 2 ^ (Lib.bitLen (n - 1) - 1) := by
  obtain ⟨a, b, c⟩ := Lib.bitLenAux_bounds 64 (n - 1) (by omega) (by omega)
  have hle : Lib.bitLen (n - 1) ≤ 64 := Lib.bitLen_le _ 64 (by omega) (by omega)
  refine ⟨a, hle, ?_⟩
  change 1 ≤ Lib.bitLen (n - 1) at a
  change 2 ^ (Lib.bitLen (n - 1) - 1) ≤ n - 1 at b
  change n - 1 < 2 ^ Lib.bitLen (n - 1) at c
  have e : Lib.bitLen (n - 1) = (Lib.bitLen (n - 1) - 1) + 1 := by omega
  rw [e, Nat.pow_succ] at c
  exact cut_eq h (by omega) (by omega)
/-- The root of a list of elements. -/
def root (l : List (List UInt8)) : List UInt8 :=
  if h : 2 ≤ l.length then pair (root (l.take (cut l.length))) (root (l.drop (cut l.length))) else match l with
    | [] => sum []
    | b :: _ => leaf b
termination_by l.length
decreasing_by
  · have := cut_lt h; rw [List.length_take]; omega
  · have := cut_pos l.length; rw [List.length_drop]; omega
theorem root_cut {l : List (List UInt8)} (h : 2 ≤ l.length) : root l = pair (root (l.take (cut l.length))) (root (l.drop (cut l.length))) := by
  rw [root, dif_pos h]
theorem root_nil : root [] = sum [] := by rw [root, dif_neg (by simp)]
theorem root_one (b : List UInt8) : root [b] = leaf b := by rw [root, dif_neg (by simp)]
theorem root_len (l : List (List UInt8)) : (root l).length = 32 := by
  rw [root]
  split
  · exact pair_len _ _
  · split <;> first | exact sum_len _ | exact leaf_len _
/-- The proof for the element i, from the top of the tree down. -/
def path (l : List (List UInt8)) (i : Nat) : List (List UInt8) :=
  if h : 2 ≤ l.length then
    if i < cut l.length then root (l.drop (cut l.length)) :: path (l.take (cut l.length)) i
    else root (l.take (cut l.length)) :: path (l.drop (cut l.length)) (i - cut l.length)
  else []
termination_by l.length
decreasing_by
  · have := cut_lt h; rw [List.length_take]; omega
  · have := cut_pos l.length; rw [List.length_drop]; omega
def proof (l : List (List UInt8)) (i : Nat) : List (List UInt8) := (path l i).reverse
theorem path_low {l : List (List UInt8)} {i : Nat} (h : 2 ≤ l.length) (hi : i < cut l.length) : path l i = root (l.drop (cut l.length)) :: path (l.take (cut l.length)) i := by
  rw [path, dif_pos h, if_pos hi]
theorem path_high {l : List (List UInt8)} {i : Nat} (h : 2 ≤ l.length) (hi : cut l.length ≤ i) : path l i = root (l.take (cut l.length)) :: path (l.drop (cut l.length)) (i - cut l.length) := by
  rw [path, dif_pos h, if_neg (by omega)]
theorem path_one {l : List (List UInt8)} (i : Nat) (h : l.length < 2) : path l i = [] := by
  rw [path, dif_neg (by omega)]
/-- What the hashes of a proof (from the top down) make of the leaf of the element i of n. -/
def climb (b : List UInt8) : List (List UInt8) → Nat → Nat → List UInt8 × Bool
  | [], n, _ => (leaf b, n == 1)
  | q :: r, n, i =>
    if n = 1 then (leaf b, false)
    else if i < cut n then (pair (climb b r (cut n) i).1 q, (climb b r (cut n) i).2)
    else (pair q (climb b r (n - cut n) (i - cut n)).1, (climb b r (n - cut n) (i - cut n)).2)
theorem climb_len (b : List UInt8) (p : List (List UInt8)) (n i : Nat) : (climb b p n i).1.length = 32 := by
  cases p with
  | nil => exact leaf_len _
  | cons q r =>
    simp only [climb]
    split
    · exact leaf_len _
    · split <;> exact pair_len _ _
/-- Whether a proof fits. -/
def check (root : List UInt8) (n i : Int) (b : List UInt8) (p : List (List UInt8)) : Bool :=
  if i < 0 ∨ n ≤ i then false else (climb b p.reverse n.toNat i.toNat).2 && decide ((climb b p.reverse n.toNat i.toNat).1 = root)
theorem climb_path (b : List UInt8) : ∀ (k : Nat) (l : List (List UInt8)) (i : Nat), l.length = k → l[i]? = some b → climb b (path l i) l.length i = (root l, true) := by
  intro k
  induction k using Nat.strongRecOn with
  | _ k ih =>
    intro l i hk hi
    have hil : i < l.length := (List.getElem?_eq_some_iff.1 hi).1
    rcases Nat.lt_or_ge l.length 2 with h | h
    · match l, h, hil with
      | [x], _, hil =>
        have : i = 0 := by simpa using hil
        subst this
        simp at hi; subst hi
        rw [path_one _ (by simp), root_one]
        rfl
    · have c1 := cut_lt h
      have c2 := cut_pos l.length
      rw [root_cut h]
      rcases Nat.lt_or_ge i (cut l.length) with hlt | hge
      · rw [path_low h hlt]
        have := ih (l.take (cut l.length)).length (by rw [List.length_take]; omega) (l.take (cut l.length)) i rfl (by rw [List.getElem?_take_of_lt hlt]; exact hi)
        rw [List.length_take, Nat.min_eq_left (Nat.le_of_lt c1)] at this
        simp only [climb]
        rw [if_neg (by omega), if_pos hlt, this]
      · rw [path_high h hge]
        have := ih (l.drop (cut l.length)).length (by rw [List.length_drop]; omega) (l.drop (cut l.length)) (i - cut l.length) rfl (by rw [List.getElem?_drop, show cut l.length + (i - cut l.length) = i by omega]; exact hi)
        rw [List.length_drop] at this
        simp only [climb]
        rw [if_neg (by omega), if_neg (by omega), this]
theorem check_proof {l : List (List UInt8)} {i : Nat} {b : List UInt8} (h : l[i]? = some b) : check (root l) l.length i b (proof l i) = true := by
  have hil : i < l.length := (List.getElem?_eq_some_iff.1 h).1
  unfold check proof
  rw [if_neg (by omega), List.reverse_reverse, Int.toNat_natCast, Int.toNat_natCast, climb_path b _ l i rfl h]
  simp
end Sha
end Go.Proofs.YtmindblfbijaaaaDoor
