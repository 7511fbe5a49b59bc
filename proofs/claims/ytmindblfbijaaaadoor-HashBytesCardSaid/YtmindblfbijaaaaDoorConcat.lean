/-
  Walks: slices.Grow from nil, slices.Concat of lists of bytes; the leaf and the pair.
-/
import Derived.Test.YtmindblfbijaaaaDoorRows
import Derived.WalkKit
import Derived.WalkSpells
import Derived.WalkLawsBesides
import Derived.BigQuiet
import Derived.Deep.QuietTactic
import Derived.Deep.RegionHeld3
import Derived.Deep.DeepCutAuto
import Derived.Deep.LoopGhost
import Derived.StillTailTactics
import Derived.Lib.Hide
import Derived.Handy
import Derived.Test.YtmindblfbijaaaaDoorSum
import Derived.Test.YtmindblfbijaaaaDoorApp
namespace Go.Proofs.YtmindblfbijaaaaDoor
open Go.RowKit
/-- A slice of slices of bytes. -/
def BB (w : World) (v : Value) (ls : List (List UInt8)) : Prop :=
  ∃ vs : List Value, vs.length = ls.length ∧ Sl w v ls.length vs ∧ ∀ (i : Nat) (l : List UInt8), ls[i]? = some l → ∃ u, vs[i]? = some u ∧ Sl w u l.length (u8s l)
theorem BB.below {w w' : World} {v : Value} {ls : List (List UInt8)} (h : BB w v ls) (hb : Below w.heap.size w w') : BB w' v ls := by
  obtain ⟨vs, h1, h2, h3⟩ := h
  exact ⟨vs, h1, h2.below hb, fun i l hi => by obtain ⟨u, hu, hs⟩ := h3 i l hi; exact ⟨u, hu, hs.below hb⟩⟩
/-- A made row is owned, or the slice is nil. -/
def OwnEmpty (w w' : World) (e : Ending) : Prop := ∃ v, e = .returned v ∧ w'.ownsRow w.heap.size 5 1 v 0 [] ∧ Below w.heap.size w w'
set_option maxHeartbeats 400000 in
theorem grow_nil (n : Nat) (w : World) (hn : n ≤ 1000000) :
    Calls Tryd.prog 48 #[.slice none 0 0, .int .i64 n] w fun e w' => OwnEmpty w w' e := by
  by_cases h0 : n = 0
  · subst h0
    go_enter Tryd.func48, Tryd.ntmps48
    go_wp2
    go_ret
    exact ⟨_, rfl, World.ownsRow_nil _ _ _ _, Below.refl _ _⟩
  · have hp : 0 < n := by omega
    go_enter Tryd.func48, Tryd.ntmps48
    go_wp2_with (at_builtin; refine Hid.out ?_)
    refine stop ?_
    refine wpList_append_make_nil elU8 rfl _ _ 3 .i64 (by kernel_rfl) rfl n rfl rfl hp (by omega) (by omega) ?_
    intro cap w' h1 h2 hown hg hlt
    have H := Lib.hid hown; clear hown
    go_wp2
    go_ret
    exact ⟨_, rfl, H.out, (Below.refl _ _).grown hg (Nat.le_refl _) (by intro k hk; cases hk)⟩
def OwnRes (w : World) (ls : List (List UInt8)) (e : Ending) (w' : World) : Prop := ∃ v', e = .returned v' ∧ w'.ownsRow w.heap.size 5 1 v' ls.flatten.length (u8s ls.flatten) ∧ Below w.heap.size w w'
def total (ls : List (List UInt8)) : Nat := ls.flatten.length
theorem flatten_take (ls : List (List UInt8)) (k : Nat) (l : List UInt8) (h : ls[k]? = some l) : (ls.take (k + 1)).flatten = (ls.take k).flatten ++ l := by
  have hk := (List.getElem?_eq_some_iff.1 h).1
  rw [List.take_succ_eq_append_getElem hk, List.flatten_append]
  have := (List.getElem?_eq_some_iff.1 h).2
  simp [this]
theorem flatten_le (ls : List (List UInt8)) (k : Nat) : (ls.take k).flatten.length ≤ ls.flatten.length := by
  conv => rhs; rw [← List.take_append_drop k ls, List.flatten_append, List.length_append]
  omega
/-- The address of a slice that is not empty. -/
theorem sl_addr {w : World} {v : Value} {n : Nat} {cs : List Value} (h : Sl w v n cs) (hn : 0 < n) :
    ∃ b o cap, v = .slice (some ⟨b, o, none⟩) n cap ∧ n ≤ cap ∧ cap ≤ 9223372036854775807 ∧ ∀ (j : Nat) (u : Value), cs[j]? = some u → w.cell? ⟨b, o + j, none⟩ = some u := by
  obtain ⟨ao, cap, rfl, hle, hcap, hnil, hc⟩ := h
  cases ao with
  | none => have := hnil rfl; omega
  | some a =>
    obtain ⟨b, o, s⟩ := a
    obtain ⟨rfl, h⟩ := hc b o s rfl
    exact ⟨b, o, cap, rfl, hle, hcap, h⟩
theorem sl_lit {w : World} {v : Value} {n : Nat} {cs : List Value} (h : Sl w v n cs) : ∃ ao cap, v = .slice ao n cap := by
  obtain ⟨ao, cap, h, _⟩ := h; exact ⟨ao, cap, h⟩
set_option maxHeartbeats 400000 in
theorem concat_any (v : Value) (ls : List (List UInt8)) (w : World) (hB : BB w v ls) (hn : ls.flatten.length ≤ 1000000) (hn2 : ls.length ≤ 1000000) (h0 : 0 < ls.length) :
    Calls Tryd.prog 35 #[v] w fun e w' => ∃ v', e = .returned v' ∧ w'.ownsRow w.heap.size 5 1 v' ls.flatten.length (u8s ls.flatten) ∧ Below w.heap.size w w' := by
  obtain ⟨vs, hvs, hS, hel⟩ := hB
  obtain ⟨b, o, cap, rfl, hle, hcap, hcell⟩ := sl_addr hS h0
  clear hS
  obtain ⟨m, hm⟩ : ∃ m, m = ls.length := ⟨_, rfl⟩
  rw [← hm] at hle hn2 h0 ⊢
  have HC := Lib.hid hcell; clear hcell
  have HE := Lib.hid hel; clear hel
  have HV := Lib.hid hvs; clear hvs
  have HN := Lib.hid hn; clear hn
  have HM := Lib.hid hm; clear hm
  refine calls_ret (R := fun e w' => OwnRes w ls e w') ?_ (fun e w' h => h)
  go_enter Tryd.func35, Tryd.ntmps35
  go_wp2
  go_loop [3, 11] (fun s i => ∃ k : Nat, k ≤ m ∧ i = .int .i64 k ∧ s = .int .i64 ((ls.take k).flatten.length : Nat)) (fun _ i => m - (intOf i).toNat)
  case atStart => exact ⟨0, by omega, rfl, rfl⟩
  case round =>
    obtain ⟨k, hk, rfl, rfl⟩ := hrel
    have hfk := Nat.le_trans (flatten_le ls k) HN.out
    by_cases hlt : k < m
    · obtain ⟨l, hl⟩ : ∃ l, ls[k]? = some l := ⟨ls[k]'(by have := HM.out; omega), by simp⟩
      obtain ⟨u, hu, hS⟩ := HE.out k l hl
      obtain ⟨ao1, cap1, rfl⟩ := sl_lit hS
      have hc := HC.out k _ hu
      have hft := Nat.le_trans (flatten_le ls (k + 1)) HN.out
      have hfe := flatten_take ls k l hl
      have hle2 : (ls.take k).flatten.length + l.length ≤ 1000000 := by rw [hfe, List.length_append] at hft; exact hft
      have HF : Hid ((ls.take (k + 1)).flatten.length = (ls.take k).flatten.length + l.length) := by rw [hfe, List.length_append]; exact rfl
      clear hu hS hl hft hfe
      obtain ⟨p, hp⟩ : ∃ p, p = (ls.take k).flatten.length := ⟨_, rfl⟩
      rw [← hp] at hfk hle2 HF ⊢
      clear hp
      go_wp2
      go_round
      case rel => exact ⟨k + 1, by omega, by go_num, by rw [HF.out]; go_num⟩
      case measure => simp [intOf]; omega
    · have hkm : k = m := by omega
      have e : (ls.take k).flatten = ls.flatten := by rw [hkm, HM.out, List.take_length]
      rw [e] at hfk ⊢
      clear e hkm
      obtain ⟨p, hp⟩ : ∃ p, p = ls.flatten.length := ⟨_, rfl⟩
      rw [← hp] at hfk ⊢
      have HP := Lib.hid hp; clear hp
      go_wp2_with (go_at_call 48; refine (grow_nil p _ hfk).mono ?_; rintro e w1 ⟨v1, rfl, hown1, hb1⟩)
      have hs1 := hb1.size
      go_loopw [6, 27] (fun v i wr => ∃ k : Nat, k ≤ m ∧ i = .int .i64 k ∧ wr.ownsRow w.heap.size 5 1 v (ls.take k).flatten.length (u8s (ls.take k).flatten) ∧ Below w.heap.size w wr) (fun _ i _ => m - (intOf i).toNat)
      case atStart => exact ⟨0, by omega, rfl, hown1, hb1⟩
      case round =>
        clear hown1 hb1 hs1 hlt
        obtain ⟨k, hk, rfl, hown, hB⟩ := hrel
        have hfk := Nat.le_trans (flatten_le ls k) HN.out
        by_cases hlt : k < m
        · obtain ⟨l, hl⟩ : ∃ l, ls[k]? = some l := ⟨ls[k]'(by have := HM.out; omega), by simp⟩
          obtain ⟨u, hu, hS⟩ := HE.out k l hl
          obtain ⟨ao1, cap1, rfl⟩ := sl_lit hS
          have hc := cellK hB (HC.out k _ hu)
          have hft := Nat.le_trans (flatten_le ls (k + 1)) HN.out
          have hfe := flatten_take ls k l hl
          have hle2 : (ls.take k).flatten.length + l.length ≤ 1000000 := by rw [hfe, List.length_append] at hft; exact hft
          have HS := Lib.hid (hS.below hB); clear hS
          have HF := Lib.hid hfe; clear hfe hu hl hft
          have hsz := hB.size
          have HO := Lib.hid hown; clear hown
          have HB := Lib.hid hB; clear hB
          go_wp2_with (at_builtin; refine Hid.out ?_)
          refine stop ?_
          refine wpList_append_sl elU8 rfl _ _ rfl w.heap.size _ _ _ rfl HO.out _ l.length (u8s l) rfl HS.out (by rw [u8s_length, Nat.mul_one]) (u8s_one _) (by omega) (by omega) hsz ?_
          intro v' w' hown' hg'
          have HO' : Hid (w'.ownsRow w.heap.size 5 1 v' (ls.take (k + 1)).flatten.length (u8s (ls.take (k + 1)).flatten)) := by
            rw [HF.out, List.length_append, show u8s ((ls.take k).flatten ++ l) = u8s (ls.take k).flatten ++ u8s l by simp [u8s]]
            exact hown'
          have HB' : Hid (Below w.heap.size w w') := stop (HB.out.grown hg' hsz (fun q hq => (HO.out.lt q hq).1))
          clear hown' hg'
          go_wp2
          go_roundw
          case rel => exact ⟨k + 1, by omega, by go_num, HO'.out, HB'.out⟩
          case measure => simp [intOf]; omega
        · have hkm : k = m := by omega
          have e : (ls.take k).flatten = ls.flatten := by rw [hkm, HM.out, List.take_length]
          rw [e] at hown
          clear e hkm hfk
          have HO := Lib.hid hown; clear hown
          have HB := Lib.hid hB; clear hB
          go_wp2
          go_ret
          exact ⟨_, rfl, HO.out, HB.out⟩
end Go.Proofs.YtmindblfbijaaaaDoor
