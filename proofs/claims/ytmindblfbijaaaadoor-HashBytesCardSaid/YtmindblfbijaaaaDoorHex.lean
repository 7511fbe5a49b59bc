/-
  Walks: a hash in hexadecimal digits.
-/
import Derived.Test.YtmindblfbijaaaaDoorRows
import Derived.WalkKit
import Derived.WalkSpells
import Derived.WalkLawsBesides
import Derived.BigQuiet
import Derived.Deep.QuietTactic
import Derived.Deep.RegionHeld3
import Derived.Deep.DeepCutAuto
import Derived.Deep.LoopGhost
import Derived.StillTailTactics
import Derived.Lib.Hide
import Derived.Handy
import Derived.Test.YtmindblfbijaaaaDoorRoot
namespace Go.Proofs.YtmindblfbijaaaaDoor
open Go.RowKit
def digits : ByteArray := { data := #[48, 49, 50, 51, 52, 53, 54, 55, 56, 57, 97, 98, 99, 100, 101, 102] }
def hex1 (x : UInt8) : ByteArray := digits.extract (x.toNat / 16) (x.toNat / 16 + 1) ++ digits.extract (x.toNat % 16) (x.toNat % 16 + 1)
/-- The hexadecimal digits of bytes. -/
def hexB (l : List UInt8) : ByteArray := l.foldl (fun s x => s ++ hex1 x) { data := #[] }
theorem hex1_size (x : UInt8) : (hex1 x).size ≤ 2 := by
  unfold hex1
  rw [ByteArray.size_append, ByteArray.size_extract, ByteArray.size_extract]; omega
theorem hexB_take (l : List UInt8) (k : Nat) (h : k < l.length) : hexB (l.take (k + 1)) = hexB (l.take k) ++ hex1 (l.getD k 0) := by
  unfold hexB
  rw [List.take_succ_eq_append_getElem h, List.foldl_append]
  simp [h]
theorem hexB_size (l : List UInt8) : ∀ k, k ≤ l.length → (hexB (l.take k)).size ≤ 2 * k := by
  intro k
  induction k with
  | zero => intro _; exact Nat.le_of_eq rfl
  | succ k ih =>
    intro h
    rw [hexB_take l k (by omega), ByteArray.size_append]
    have := ih (by omega)
    have := hex1_size (l.getD k 0)
    omega
set_option maxHeartbeats 400000 in
theorem hex_any (l : List UInt8) (w : World) (hl : l.length = 32) :
    Calls Tryd.prog 28 #[.agg (u8s l).toArray] w fun e w' => e = .returned (.string (hexB l)) ∧ Below w.heap.size w w' := by
  have HL := Lib.hid hl; clear hl
  go_enter Tryd.func28, Tryd.ntmps28
  go_wp2
  go_loopw [3, 4] (fun s i wr => ∃ k : Nat, k ≤ 32 ∧ i = .int .i64 k ∧ s = .string (hexB (l.take k)) ∧ Arr wr w.heap.size (u8s l) ∧ Below w.heap.size w wr) (fun _ i _ => 32 - (intOf i).toNat)
  case atStart => exact ⟨0, by omega, rfl, rfl, Arr.new w _ _, (Below.refl _ _).alloc (Nat.le_refl _) _⟩
  case round =>
    obtain ⟨k, hk, rfl, rfl, hA, hB⟩ := hrel
    by_cases hlt : k < 32
    · obtain ⟨x, hx⟩ : ∃ x : UInt8, x = l.getD k 0 := ⟨_, rfl⟩
      have hc : wr.cell? ⟨w.heap.size, k, none⟩ = some (.int .u8 x.toNat) := by
        rw [hx]; exact hA.cell (u8s_get (by rw [HL.out]; exact hlt))
      have hnx := hexB_take l k (by rw [HL.out]; exact hlt)
      rw [← hx] at hnx
      have hts := hexB_size l k (by rw [HL.out]; omega)
      obtain ⟨t, ht⟩ : ∃ t, t = hexB (l.take k) := ⟨_, rfl⟩
      rw [← ht] at hnx hts ⊢
      have HN := Lib.hid hnx
      have HA := Lib.hid hA
      have HB := Lib.hid hB
      clear hx hA hB hnx ht
      have hx255 := x.toNat_lt
      have hT : ¬ 9223372036854775807 < t.size + (min (x.toNat / 16 + 1) 16 - x.toNat / 16 + (min (x.toNat % 16 + 1) 16 - x.toNat % 16)) := by omega
      go_wp2
      go_quiet (fail)
      have HA2 := Lib.hid (HA.out.drewN nq)
      have HB2 := Lib.hid (show Below w.heap.size w (wr.drewN nq) from ⟨HB.out.os, HB.out.tape, HB.out.output, HB.out.size, HB.out.block⟩)
      clear hT HA HB hts hc
      go_wp2
      go_roundw
      case rel => exact ⟨k + 1, by omega, by go_num, by rw [HN.out]; rfl, HA2.out, HB2.out⟩
      case measure => simp [intOf]; omega
    · have hkk : k = 32 := by omega
      subst hkk
      have ht : l.take 32 = l := List.take_of_length_le (by rw [HL.out]; omega)
      rw [ht]
      have HB := Lib.hid hB
      clear hA hB ht hk hlt
      go_wp2
      exact bodyPost_ret (results_tmp rfl _ _ _) rfl ⟨rfl, HB.out⟩
end Go.Proofs.YtmindblfbijaaaaDoor
