/-
  Walks: the cut of a number.
-/
import Derived.Test.YtmindblfbijaaaaDoorRows
import Derived.WalkKit
import Derived.WalkSpells
import Derived.WalkLawsBesides
import Derived.BigQuiet
import Derived.Deep.QuietTactic
import Derived.Deep.RegionHeld3
import Derived.Deep.DeepCutAuto
import Derived.Deep.LoopGhost
import Derived.StillTailTactics
import Derived.Lib.Hide
import Derived.Handy
import Derived.Test.YtmindblfbijaaaaDoorTree
import Derived.Test.YtmindblfbijaaaaDoorMem
import Derived.Test.YtmindblfbijaaaaDoorShelf
namespace Go.Proofs.YtmindblfbijaaaaDoor
open Go.RowKit
set_option maxHeartbeats 400000 in
theorem cut_any (n : Nat) (w : World) (h2 : 2 ≤ n) (hn : n ≤ 4294967296) :
    Calls Tryd.prog 38 #[.int .i64 n] w fun e w' => e = .returned (.int .i64 (Sha.cut n)) ∧ w = w' := by
  obtain ⟨b1, b2, hc⟩ := Sha.cut_bits h2 (by omega)
  have cl := Sha.cut_lt h2
  obtain ⟨L, hL⟩ : ∃ L, L = Lib.bitLen (n - 1) := ⟨_, rfl⟩
  rw [← hL] at b1 b2 hc
  go_enter Tryd.func38, Tryd.ntmps38
  go_wp2_with (go_at_call 49; refine Hid.out ?_)
  refine stop ?_
  refine (Tryd.bits_Len _ w (by omega) (by omega)).mono ?_
  rintro e w1 ⟨rfl, rfl⟩
  have eL : (((n : Int) - 1).toNat) = n - 1 := by omega
  rw [eL, ← hL]
  clear hL eL
  have HC := Lib.hid hc; clear hc
  go_wp2
  have e := HC.out
  have hw : wrap64 (2 ^ (L - 1)) = ((Sha.cut n : Nat) : Int) := by
    rw [e]
    have : ((2 ^ (L - 1) : Nat) : Int) = 2 ^ (L - 1) := by exact Int.natCast_pow 2 (L - 1)
    rw [← this, ← e]
    exact IntWalk.wrap64_in _ (by omega)
  rw [hw]
  exact bodyPost_ret (results_tmp rfl _ _ _) rfl ⟨rfl, rfl⟩
set_option maxHeartbeats 400000 in
theorem refCut_any (n : Nat) (w : World) (h2 : 2 ≤ n) (hn : n ≤ 4294967296) :
    Calls Tryd.prog 27 #[.int .i64 n] w fun e w' => e = .returned (.int .i64 (Sha.cut n)) ∧ w = w' := by
  obtain ⟨N, hN⟩ : ∃ N, N = Sha.cut n := ⟨_, rfl⟩
  have cl := Sha.cut_lt h2
  have cg := Sha.cut_ge h2
  rw [← hN] at cl cg ⊢
  have HN := Lib.hid hN; clear hN
  go_enter Tryd.func27, Tryd.ntmps27
  go_wp2
  go_loop [3] (fun m => ∃ k : Nat, 2 ^ k ≤ N ∧ m = .int .i64 ((2 ^ k : Nat) : Int)) (fun m => n - (intOf m).toNat)
  case atStart => exact ⟨0, by omega, rfl⟩
  case round =>
    obtain ⟨k, hk, rfl⟩ := hrel
    have hp : 2 ^ (k + 1) = 2 * 2 ^ k := by rw [Nat.pow_succ]; omega
    by_cases hlt : 2 * 2 ^ k < n
    · have hk2 : 2 ^ (k + 1) ≤ N := by
        rw [HN.out]
        have e : n - 1 ≠ 0 := by omega
        exact Nat.pow_le_pow_right (by omega) ((Nat.le_log2 e).2 (by omega))
      have HP := Lib.hid hp; clear hp
      obtain ⟨m, hm⟩ : ∃ m, m = 2 ^ k := ⟨_, rfl⟩
      rw [← hm] at hlt hk HP ⊢
      have hm0 : 0 < m := by rw [hm]; exact Nat.pow_pos (by omega)
      have HK := Lib.hid hk2; clear hk2
      clear hm
      go_wp2
      go_round
      case rel => exact ⟨k + 1, HK.out, by rw [HP.out]; go_num⟩
      case measure => simp [intOf]; omega
    · have hm0 : 2 ^ k = N := by rw [HN.out]; exact (Sha.cut_eq (k := k) h2 (by have := cl; omega) (by omega)).symm
      rw [hm0] at hlt ⊢
      clear hp hm0
      go_wp2
      exact bodyPost_ret (results_tmp rfl _ _ _) rfl ⟨rfl, rfl⟩
end Go.Proofs.YtmindblfbijaaaaDoor
