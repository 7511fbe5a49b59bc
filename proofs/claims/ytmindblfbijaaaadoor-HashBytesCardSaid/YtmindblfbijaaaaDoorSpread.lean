/-
  Walks: the words of a block.
-/
import Derived.Test.YtmindblfbijaaaaDoorRows
import Derived.WalkKit
import Derived.WalkSpells
import Derived.WalkLawsBesides
import Derived.BigQuiet
import Derived.Deep.QuietTactic
import Derived.Deep.RegionHeld3
import Derived.Deep.DeepCutAuto
import Derived.Deep.LoopGhost
import Derived.StillTailTactics
import Derived.Lib.Hide
import Derived.Handy
import Derived.Test.YtmindblfbijaaaaDoorBits
namespace Go.Proofs.YtmindblfbijaaaaDoor
open Go.RowKit
theorem shift8 (p c : Nat) (hp : p < 16777216) (hc : c < 256) : bits BinOp.or IntKind.u32 (↑p * 256 % 4294967296) ↑c = ((p * 256 + c : Nat) : Int) := by
  have h1 : p * 256 < 4294967296 := by omega
  have := u32_or_nat (p * 256) c h1 (by omega)
  have e : p * 256 ||| c = p * 256 + c := by
    rw [Nat.mul_comm]; exact (Nat.two_pow_add_eq_or_of_lt (i := 8) hc p).symm
  rw [e] at this
  rw [← this]
  rw [show (p : Int) * 256 % 4294967296 = ((p * 256 : Nat) : Int) by omega]
theorem le8 (x : UInt8) : (x.toNat : Int) ≤ 255 := by have := x.toNat_lt; omega
theorem agg64 : AggT Tryd.prog 73 64 := ⟨fun _ => by kernel_rfl, by kernel_rfl⟩
set_option maxRecDepth 100000 in
set_option maxHeartbeats 400000 in
theorem spread_any (b o cap : Nat) (l : List UInt8) (w : World) (hb : b < w.heap.size) (hcell : ∀ i, i < 64 → w.cell? ⟨b, o + i, none⟩ = some (.int .u8 (l.getD i 0).toNat)) :
    Calls Tryd.prog 43 #[.slice (some ⟨b, o, none⟩) 64 cap] w fun e w' => e = .returned (.agg (u32s (Sha.spread l)).toArray) ∧ Below w.heap.size w w' := by
  have HC := Lib.hid hcell; clear hcell
  go_enter Tryd.func43, Tryd.ntmps43
  go_wp2
  go_loopw [10] (fun i wr => ∃ k : Nat, k ≤ 64 ∧ i = .int .i64 k ∧ Arr wr w.heap.size (u32s (List.replicate 64 0)) ∧ Arr wr (w.heap.size + 1) (u32s (Sha.fill l k)) ∧ Below w.heap.size w wr) (fun i _ => 64 - (intOf i).toNat)
  case atStart =>
    refine ⟨0, by omega, rfl, ?_, ?_, ?_⟩
    · exact (Arr.new w _ _).alloc _
    · rw [Sha.fill_zero]; exact Arr.newAt (by simp) (u32s (List.replicate 64 0)) _
    · exact ((Below.refl _ _).alloc (Nat.le_refl _) _).alloc (by simp) _
  case round =>
    obtain ⟨k, hk, rfl, ha0, ha1, hbl⟩ := hrel
    by_cases hlt : k < 64
    · have hA := Lib.hid ha0
      have hA1 := Lib.hid ha1
      have hBl := Lib.hid hbl
      have c1 := ha1.cell (u32s_get (l := Sha.fill l k) (i := k / 4) (by rw [Sha.fill_length]; omega))
      have f1 := ha1.frozen (k / 4)
      have c2 : wr.cell? ⟨b, o + k, none⟩ = some (.int .u8 (l.getD k 0).toNat) := (hbl.cell (p := ⟨b, o + k, none⟩) hb).trans (HC.out k hlt)
      obtain ⟨x, hx⟩ : ∃ x, x = (Sha.fill l k).getD (k / 4) 0 := ⟨_, rfl⟩
      obtain ⟨c, hc⟩ : ∃ c, c = l.getD k 0 := ⟨_, rfl⟩
      rw [← hx] at c1
      rw [← hc] at c2
      have HX := Lib.hid hx; clear hx
      have HCC := Lib.hid hc; clear hc
      have l1 := lt32 x
      have l2 := le8 c
      clear ha0 ha1 hbl
      go_wp2
      go_region
      all_goals go_wp2
      have hp := Sha.part_lt l (k / 4) (k % 4)
      have hp' : 256 ^ (k % 4) ≤ 16777216 := Nat.pow_le_pow_right (n := 256) (j := 3) (by decide) (by omega)
      have hxe : x.toNat = Sha.part l (k / 4) (k % 4) := by
        rw [HX.out, Sha.fill_get l k _ (by omega), show min 4 (k - 4 * (k / 4)) = k % 4 by omega]
        exact Nat.mod_eq_of_lt (by omega)
      have hv : bits BinOp.or IntKind.u32 (↑x.toNat * 256 % 4294967296) ↑c.toNat = ((UInt32.ofNat (Sha.part l (k / 4) (k % 4) * 256 + (l.getD k 0).toNat)).toNat : Int) := by
        rw [shift8 _ _ (by omega) c.toNat_lt, hxe, ← HCC.out]
        congr 1
        exact (Nat.mod_eq_of_lt (by have := c.toNat_lt; omega)).symm
      rw [hv]
      refine ⟨⟨k + 1, by omega, by go_num, hA.out.other (by simp) _, ?_, (hBl.out.setCell (by simp) _).drew⟩, by simp [intOf]; omega⟩
      rw [Sha.fill_succ l k hlt, ← u32s_set]
      exact hA1.out.set _ _
    · have hk64 : k = 64 := by omega
      rw [hk64, Sha.grown_first] at ha1
      clear hk64
      go_wp2
      go_loopw [5] (fun i wr => ∃ t : Nat, 16 ≤ t ∧ t ≤ 64 ∧ i = .int .i64 t ∧ Arr wr w.heap.size (u32s (List.replicate 64 0)) ∧ Arr wr (w.heap.size + 1) (u32s (Sha.grown l t)) ∧ Below w.heap.size w wr) (fun i _ => 64 - (intOf i).toNat)
      case atStart => exact ⟨16, by omega, by omega, rfl, ha0, ha1, hbl⟩
      case round =>
        clear ha0 ha1 hbl hk hlt
        obtain ⟨t, ht0, ht, rfl, ha0, ha1, hbl⟩ := hrel
        by_cases hlt : t < 64
        · have hA := Lib.hid ha0
          have hA1 := Lib.hid ha1
          have hBl := Lib.hid hbl
          have hln := Sha.grown_length l t ht0 ht
          have c1 := ha1.cell (u32s_get (l := Sha.grown l t) (i := t - 15) (by omega))
          have c2 := ha1.cell (u32s_get (l := Sha.grown l t) (i := t - 2) (by omega))
          have c3 := ha1.cell (u32s_get (l := Sha.grown l t) (i := t - 16) (by omega))
          have c4 := ha1.cell (u32s_get (l := Sha.grown l t) (i := t - 7) (by omega))
          obtain ⟨y, hy⟩ : ∃ x, x = (Sha.grown l t).getD (t - 15) 0 := ⟨_, rfl⟩
          obtain ⟨z, hz⟩ : ∃ x, x = (Sha.grown l t).getD (t - 2) 0 := ⟨_, rfl⟩
          obtain ⟨p, hp⟩ : ∃ x, x = (Sha.grown l t).getD (t - 16) 0 := ⟨_, rfl⟩
          obtain ⟨q, hq⟩ : ∃ x, x = (Sha.grown l t).getD (t - 7) 0 := ⟨_, rfl⟩
          rw [← hy] at c1
          rw [← hz] at c2
          rw [← hp] at c3
          rw [← hq] at c4
          have HY := Lib.hid hy; clear hy
          have HZ := Lib.hid hz; clear hz
          have HP := Lib.hid hp; clear hp
          have HQ := Lib.hid hq; clear hq
          have f1 := ha1.frozen t
          have f2 := ha1.cell (u32s_get (l := Sha.grown l t) (i := t) (by omega))
          obtain ⟨old, hold⟩ : ∃ x, x = (Sha.grown l t).getD t 0 := ⟨_, rfl⟩
          rw [← hold] at f2
          clear hold
          clear ha0 ha1 hbl hln
          go_wp2
          go_region
          all_goals go_wp2_with fail
          refine (rot_at _ 7 y _ rfl (by decide) (by decide)).mono ?_
          rintro e w1 ⟨rfl, rfl⟩
          go_wp2_with fail
          refine (rot_at _ 18 y _ rfl (by decide) (by decide)).mono ?_
          rintro e w1 ⟨rfl, rfl⟩
          have ly := lt32 y
          have lz := lt32 z
          go_wp2_with fail
          refine (rot_at _ 17 z _ rfl (by decide) (by decide)).mono ?_
          rintro e w1 ⟨rfl, rfl⟩
          go_wp2_with fail
          refine (rot_at _ 19 z _ rfl (by decide) (by decide)).mono ?_
          rintro e w1 ⟨rfl, rfl⟩
          go_wp2
          go_region
          all_goals go_wp2
          go_roundw
          case rel =>
            refine ⟨t + 1, by omega, by omega, by go_num, hA.out.other (by simp) _, ?_, ((hBl.out.setCell (by simp) _).drew).drew⟩
            rw [Sha.grown_succ l t ht0 hlt, ← HY.out, ← HZ.out, ← HP.out, ← HQ.out, ← u32s_set]
            have e1 := shr32 y 3
            have e2 := shr32 z 10
            simp only [Nat.reducePow, Int.cast_ofNat_Int] at e1 e2
            rw [e1, e2]
            simp only [xor32, add32_4]
            exact hA1.out.set _ _
          case measure => simp [intOf]; omega
        · obtain rfl : t = 64 := by omega
          rw [Sha.grown_last] at ha1
          have hs64 : (u32s (Sha.spread l)).length = 64 := by rw [u32s_length, ← Sha.grown_last, Sha.grown_length l 64 (by omega) (by omega)]
          have hA := Lib.hid ha0
          have hA1 := Lib.hid ha1
          have hBl := Lib.hid hbl
          have H64 := Lib.hid hs64
          clear ha0 ha1 hbl hs64
          go_wp2_with (first
            | (refine wpList_load_cells rfl _ _ rfl _ _ rfl (u32s (Sha.spread l)) (by rw [H64.out]; exact agg64) (fun j v hv => by rw [Nat.zero_add]; exact hA1.out.cell hv) ?_)
            | (refine wpList_store_cells rfl rfl _ _ _ rfl _ _ rfl (u32s (Sha.spread l)) rfl (by rw [H64.out]; exact agg64.2) (u32s_one _) _ hA.out (by simp [H64.out, u32s_length]) ?_; intro w2 hA2 hG2))
          refine bodyPost_cells rfl rfl _ rfl _ hA2 ?_ ⟨?_, ?_⟩
          · rw [lay_whole _ _ (by simp [H64.out, u32s_length]), H64.out]; exact agg64
          · rw [lay_whole _ _ (by simp [H64.out, u32s_length])]
          · exact hBl.out.grown hG2 hBl.out.size (by intro k hk; cases hk; exact Nat.le_refl _)
end Go.Proofs.YtmindblfbijaaaaDoor
