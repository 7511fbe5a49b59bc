/-
  Walks: the functions on words.
-/
import Derived.Test.YtmindblfbijaaaaDoorRows
import Derived.WalkKit
import Derived.WalkSpells
import Derived.WalkLawsBesides
import Derived.BigQuiet
import Derived.Deep.QuietTactic
import Derived.Deep.RegionHeld3
import Derived.Deep.DeepCutAuto
import Derived.Deep.LoopGhost
import Derived.StillTailTactics
import Derived.Lib.Hide
import Derived.Handy
import Derived.Test.YtmindblfbijaaaaDoorSha
import Derived.Test.YtmindblfbijaaaaDoorMem
namespace Go.Proofs.YtmindblfbijaaaaDoor
open Go.RowKit
theorem bits_comm (k : IntKind) (a b : Int) : bits BinOp.or k a b = bits BinOp.or k b a := by
  simp only [bits, BitVec.or_comm]
theorem lt32 (x : UInt32) : (x.toNat : Int) ≤ 4294967295 := by have := x.toNat_lt; omega
theorem or32 (x : UInt32) (n : Nat) : bits BinOp.or IntKind.u32 (↑x.toNat / 2 ^ n) (↑x.toNat * 2 ^ (32 - n) % 4294967296) = ((Sha.rotr x n).toNat : Int) := by
  have hx := x.toNat_lt
  have h1 : x.toNat / 2 ^ n < 4294967296 := Nat.lt_of_le_of_lt (Nat.div_le_self _ _) hx
  have h2 : x.toNat * 2 ^ (32 - n) % 4294967296 < 4294967296 := Nat.mod_lt _ (by decide)
  have := u32_or_nat _ _ h1 h2
  have e : (x.toNat / 2 ^ n ||| x.toNat * 2 ^ (32 - n) % 4294967296) < 4294967296 := Nat.or_lt_two_pow (n := 32) h1 h2
  unfold Sha.rotr
  rw [show (UInt32.ofNat (x.toNat / 2 ^ n ||| x.toNat * 2 ^ (32 - n) % 4294967296)).toNat = (x.toNat / 2 ^ n ||| x.toNat * 2 ^ (32 - n) % 4294967296) from Nat.mod_eq_of_lt e]
  rw [← this]; simp
set_option maxHeartbeats 400000 in
theorem turn_any (n : Nat) (x : UInt32) (w : World) (h1 : n ≤ 31) :
    Calls Tryd.prog 47 #[.int .i64 n, .int .u32 x.toNat] w fun e w' => e = .returned (.int .u32 (Sha.rotr x n).toNat) ∧ ∃ k, w' = w.drewN k := by
  have hx := lt32 x
  go_enter Tryd.func47, Tryd.ntmps47
  go_wp2
  go_quiet (fail)
  go_wp2
  go_ret
  exact ⟨ret_int (or32 x n), _, rfl⟩
theorem negBits_fin : ∀ m : Fin 32, 1 ≤ m.1 → bits BinOp.and IntKind.u64 (IntKind.u64.wrap (-(m.1 : Int))) 31 = 32 - (m.1 : Int) := by decide +kernel
theorem negBits (m : Nat) (h1 : 1 ≤ m) (h2 : m ≤ 31) : bits BinOp.and IntKind.u64 (IntKind.u64.wrap (-(m : Int))) 31 = 32 - (m : Int) := negBits_fin ⟨m, by omega⟩ h1
set_option maxHeartbeats 400000 in
theorem rot_any (m : Nat) (x : UInt32) (w : World) (h1 : 1 ≤ m) (h2 : m ≤ 31) :
    Calls Tryd.prog 50 #[.int .u32 x.toNat, .int .i64 (-(m : Int))] w fun e w' => e = .returned (.int .u32 (Sha.rotr x m).toNat) ∧ w = w' := by
  have hx := lt32 x
  obtain ⟨s, hs⟩ : ∃ s : Nat, s = 32 - m := ⟨_, rfl⟩
  have hb : bits BinOp.and IntKind.u64 (IntKind.u64.wrap (-(m : Int))) 31 = (s : Int) := by rw [negBits m h1 h2]; omega
  have hs1 : s ≤ 31 := by omega
  have H := Lib.hid hs; clear hs
  go_enter Tryd.func50, Tryd.ntmps50
  go_wp2
  go_ret
  refine ⟨ret_int ?_, rfl⟩
  rw [bits_comm, ← or32]
  have := H.out
  rw [show 32 - s = m by omega, show s = 32 - m by omega]
theorem rot_at (n : Int) (m : Nat) (x : UInt32) (w : World) (hn : n = -(m : Int)) (h1 : 1 ≤ m) (h2 : m ≤ 31) :
    Calls Tryd.prog 50 #[.int .u32 x.toNat, .int .i64 n] w fun e w' => e = .returned (.int .u32 (Sha.rotr x m).toNat) ∧ w = w' := by
  subst hn; exact rot_any m x w h1 h2
set_option maxHeartbeats 400000 in
theorem mix1_any (m : Nat) (x : UInt32) (b : Nat) (w : World) (hc : w.cell? ⟨b, 0, none⟩ = some (.int .u32 x.toNat)) (h1 : 1 ≤ m) (h2 : m ≤ 31) :
    Calls Tryd.prog 51 #[.int .i64 m, .pointer (some ⟨b, 0, none⟩)] w fun e w' => e = .returned (.int .u32 (Sha.rotr x m).toNat) ∧ w = w' := by
  have hx := lt32 x
  go_enter Tryd.func51, Tryd.ntmps51
  go_wp2_with (go_at_call 50; refine (rot_any _ _ _ h1 h2).mono ?_; rintro e w' ⟨rfl, rfl⟩)
  go_ret
  exact ⟨rfl, rfl⟩
theorem xor32 (x y : UInt32) : bits BinOp.xor IntKind.u32 x.toNat y.toNat = ((x ^^^ y).toNat : Int) := by
  rw [u32_xor_nat _ _ x.toNat_lt y.toNat_lt, UInt32.toNat_xor]
theorem and32 (x y : UInt32) : bits BinOp.and IntKind.u32 x.toNat y.toNat = ((x &&& y).toNat : Int) := by
  rw [u32_and_nat _ _ x.toNat_lt y.toNat_lt, UInt32.toNat_and]
theorem add32 (x y : UInt32) : ((x.toNat : Int) + y.toNat) % 4294967296 = ((x + y).toNat : Int) := by
  rw [UInt32.toNat_add]; simp
theorem add32_3 (x y z : UInt32) : ((x.toNat : Int) + y.toNat + z.toNat) % 4294967296 = ((x + y + z).toNat : Int) := by
  rw [UInt32.toNat_add, UInt32.toNat_add]; simp
theorem add32_4 (x y z u : UInt32) : ((x.toNat : Int) + y.toNat + z.toNat + u.toNat) % 4294967296 = ((x + y + z + u).toNat : Int) := by
  rw [UInt32.toNat_add, UInt32.toNat_add, UInt32.toNat_add]; simp
theorem add32_5 (x y z u v : UInt32) : ((x.toNat : Int) + y.toNat + z.toNat + u.toNat + v.toNat) % 4294967296 = ((x + y + z + u + v).toNat : Int) := by
  rw [UInt32.toNat_add, UInt32.toNat_add, UInt32.toNat_add, UInt32.toNat_add]; simp
set_option maxHeartbeats 400000 in
theorem mix_any (a b c : Nat) (x : UInt32) (w : World) (ha : 1 ≤ a ∧ a ≤ 31) (hb : 1 ≤ b ∧ b ≤ 31) (hc : 1 ≤ c ∧ c ≤ 31) :
    Calls Tryd.prog 44 #[.int .u32 x.toNat, .int .i64 a, .int .i64 b, .int .i64 c] w fun e w' => e = .returned (.int .u32 (Sha.rot3 x a b c).toNat) ∧ Below w.heap.size w w' := by
  have hx := lt32 x
  have Ha := Lib.hid ha; clear ha
  have Hb := Lib.hid hb; clear hb
  have Hc := Lib.hid hc; clear hc
  go_enter Tryd.func44, Tryd.ntmps44
  go_wp2_with fail
  refine (mix1_any a x _ _ (by simp) Ha.out.1 Ha.out.2).mono ?_
  rintro e w' ⟨rfl, rfl⟩
  go_wp2_with fail
  refine (mix1_any b x _ _ (by simp) Hb.out.1 Hb.out.2).mono ?_
  rintro e w' ⟨rfl, rfl⟩
  go_wp2_with fail
  refine (mix1_any c x _ _ (by simp) Hc.out.1 Hc.out.2).mono ?_
  rintro e w' ⟨rfl, rfl⟩
  go_wp2_with fail
  go_ret
  refine ⟨ret_int ?_, ?_⟩
  · rw [xor32, xor32]; rfl
  · exact (Below.refl _ _).alloc (Nat.le_refl _) _
theorem mix_at (a b c : Int) (m1 m2 m3 : Nat) (x : UInt32) (w : World) (ea : a = m1) (eb : b = m2) (ec : c = m3) (ha : 1 ≤ m1 ∧ m1 ≤ 31) (hb : 1 ≤ m2 ∧ m2 ≤ 31) (hc : 1 ≤ m3 ∧ m3 ≤ 31) :
    Calls Tryd.prog 44 #[.int .u32 x.toNat, .int .i64 a, .int .i64 b, .int .i64 c] w fun e w' => e = .returned (.int .u32 (Sha.rot3 x m1 m2 m3).toNat) ∧ Below w.heap.size w w' := by
  subst ea eb ec; exact mix_any m1 m2 m3 x w ha hb hc
theorem shr32 (x : UInt32) (n : Nat) : (x.toNat : Int) / ((2 ^ n : Nat) : Int) = ((Sha.shr x n).toNat : Int) := by
  have : x.toNat / 2 ^ n < 4294967296 := Nat.lt_of_le_of_lt (Nat.div_le_self _ _) x.toNat_lt
  rw [← Int.natCast_ediv]
  unfold Sha.shr
  rw [show (UInt32.ofNat (x.toNat / 2 ^ n)).toNat = x.toNat / 2 ^ n from Nat.mod_eq_of_lt this]
end Go.Proofs.YtmindblfbijaaaaDoor
