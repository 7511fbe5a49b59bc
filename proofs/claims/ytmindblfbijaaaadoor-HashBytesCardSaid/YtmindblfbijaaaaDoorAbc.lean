/-
  Plain Lean: the fixed examples (the kernel reckons the hashes); no program in sight.
-/
import Derived.Test.YtmindblfbijaaaaDoorHex
import Derived.Test.YtmindblfbijaaaaDoorTree
namespace Go.Proofs.YtmindblfbijaaaaDoor
open Go.RowKit
def abc : List (List UInt8) := [[97], [98], [99]]
def abcProof : List (List UInt8) := [Sha.pair (Sha.leaf [97]) (Sha.leaf [98])]
theorem cut2 : Sha.cut 2 = 1 := by decide
theorem cut3 : Sha.cut 3 = 2 := by decide
theorem root_ab : Sha.root [[97], [98]] = Sha.pair (Sha.leaf [97]) (Sha.leaf [98]) := by
  rw [Sha.root_cut (by decide)]
  simp only [List.length_cons, List.length_nil, Nat.zero_add, Nat.reduceAdd, cut2, List.take_succ_cons, List.take_zero, List.drop_succ_cons, List.drop_zero, Sha.root_one]
theorem root_abc : Sha.root abc = Sha.pair (Sha.pair (Sha.leaf [97]) (Sha.leaf [98])) (Sha.leaf [99]) := by
  unfold abc
  rw [Sha.root_cut (by decide)]
  simp only [List.length_cons, List.length_nil, Nat.zero_add, Nat.reduceAdd, cut3, List.take_succ_cons, List.take_zero, List.drop_succ_cons, List.drop_zero, Sha.root_one, root_ab]
theorem proof_abc : Sha.proof abc 2 = abcProof := by
  unfold Sha.proof abc
  rw [Sha.path_high (by decide) (by decide)]
  simp only [List.length_cons, List.length_nil, Nat.zero_add, Nat.reduceAdd, cut3, List.take_succ_cons, List.take_zero, List.drop_succ_cons, List.drop_zero]
  rw [Sha.path_one _ (by decide), root_ab]
  rfl
theorem check_abc : Sha.check (Sha.root abc) 3 2 [99] abcProof = true := by
  have := Sha.check_proof (l := abc) (i := 2) (b := [99]) rfl
  rw [proof_abc] at this
  exact this
theorem check_abc1 : Sha.check (Sha.root abc) 3 1 [99] abcProof = false := by
  unfold Sha.check
  rw [if_neg (by decide)]
  have : (Sha.climb [99] abcProof.reverse (3 : Int).toNat (1 : Int).toNat).2 = false := by
    unfold abcProof
    simp only [List.reverse_cons, List.reverse_nil, List.nil_append, Sha.climb]
    rfl
  rw [this]; rfl
set_option maxRecDepth 100000 in
theorem hex_nil : hexB (Sha.sum []) = { data := #[101, 51, 98, 48, 99, 52, 52, 50, 57, 56, 102, 99, 49, 99, 49, 52, 57, 97, 102, 98, 102, 52, 99, 56, 57, 57, 54, 102, 98, 57, 50, 52, 50, 55, 97, 101, 52, 49, 101, 52, 54, 52, 57, 98, 57, 51, 52, 99, 97, 52, 57, 53, 57, 57, 49, 98, 55, 56, 53, 50, 98, 56, 53, 53] } := by decide +kernel
set_option maxRecDepth 100000 in
theorem hex_abc : hexB (Sha.sum [97, 98, 99]) = { data := #[98, 97, 55, 56, 49, 54, 98, 102, 56, 102, 48, 49, 99, 102, 101, 97, 52, 49, 52, 49, 52, 48, 100, 101, 53, 100, 97, 101, 50, 50, 50, 51, 98, 48, 48, 51, 54, 49, 97, 51, 57, 54, 49, 55, 55, 97, 57, 99, 98, 52, 49, 48, 102, 102, 54, 49, 102, 50, 48, 48, 49, 53, 97, 100] } := by decide +kernel
set_option maxRecDepth 100000 in
theorem hex_root : hexB (Sha.root abc) = { data := #[51, 54, 54, 52, 50, 101, 55, 51, 99, 50, 53, 52, 48, 97, 98, 49, 50, 49, 101, 51, 97, 54, 98, 102, 57, 53, 52, 53, 98, 48, 97, 50, 52, 57, 56, 50, 99, 100, 56, 51, 48, 101, 98, 49, 51, 100, 51, 99, 100, 49, 57, 100, 101, 51, 99, 101, 54, 99, 48, 50, 49, 101, 99, 49] } := by
  rw [root_abc]; decide +kernel
set_option maxRecDepth 100000 in
theorem hex_proof : hexB (Sha.pair (Sha.leaf [97]) (Sha.leaf [98])) = { data := #[98, 49, 51, 55, 57, 56, 53, 102, 102, 52, 56, 52, 102, 98, 54, 48, 48, 100, 98, 57, 51, 49, 48, 55, 99, 55, 55, 98, 48, 51, 54, 53, 99, 56, 48, 100, 55, 56, 102, 53, 98, 52, 50, 57, 100, 101, 100, 48, 102, 100, 57, 55, 51, 54, 49, 100, 48, 55, 55, 57, 57, 57, 101, 98] } := by decide +kernel
end Go.Proofs.YtmindblfbijaaaaDoor
