/-
  Walks: the root.
-/
import Derived.Test.YtmindblfbijaaaaDoorRows
import Derived.WalkKit
import Derived.WalkSpells
import Derived.WalkLawsBesides
import Derived.BigQuiet
import Derived.Deep.QuietTactic
import Derived.Deep.RegionHeld3
import Derived.Deep.DeepCutAuto
import Derived.Deep.LoopGhost
import Derived.StillTailTactics
import Derived.Lib.Hide
import Derived.Handy
import Derived.Test.YtmindblfbijaaaaDoorLeaf
import Derived.Test.YtmindblfbijaaaaDoorCut
import Derived.Test.YtmindblfbijaaaaDoorQuiet
namespace Go.Proofs.YtmindblfbijaaaaDoor
open Go.RowKit
theorem BelowT.size {B : Nat} {w : World} (d : BelowT B w) (h : B ≤ w.heap.size) : B ≤ d.1.heap.size := Nat.le_trans h d.2.size
/-- A call in a region, in the class of worlds in which all below lies as it lay. -/
theorem calls_bt {P : Program} {f : FuncId} {args : Array Value} {B : Nat} {w : World} {v : Value} (hB : B ≤ w.heap.size) (d : BelowT B w)
    (h : Calls P f args d.1 fun e w' => e = .returned v ∧ Below d.1.heap.size d.1 w') : Calls P f args d.1 fun e w' => e = .returned v ∧ ∃ d' : BelowT B w, w' = d'.1 :=
  h.mono fun _ _ ⟨he, hb⟩ => ⟨he, ⟨_, d.2.trans (hb.mono (d.size hB))⟩, rfl⟩
theorem calls_bt_same {P : Program} {f : FuncId} {args : Array Value} {B : Nat} {w : World} {v : Value} (d : BelowT B w)
    (h : Calls P f args d.1 fun e w' => e = .returned v ∧ d.1 = w') : Calls P f args d.1 fun e w' => e = .returned v ∧ ∃ d' : BelowT B w, w' = d'.1 :=
  h.mono fun _ _ ⟨he, hb⟩ => ⟨he, d, hb.symm⟩
theorem wp_region_qbt {P : Program} {id : Nat} {Q : Exit → Act → World → Prop} {a : Act} {w : World} {l : List Oper} (n : Nat) (hm : P.follows .mixedOrders = true) (hB : quietTailB l a.tmps.size n = true)
    (h : wpQuiet P l.toArray (fun w' => ∃ d : BelowT w.heap.size w, w' = d.1) (fun a' => ∀ w', Below w.heap.size w w' → wpList P l.toArray Q (l.drop n) a' w') (l.take n) a) : (Code.region id l.toArray true).wp P Q a w := by
  refine wp_region_quiet_tail (C := fun w' => ∃ d : BelowT w.heap.size w, w' = d.1) n hm hB ⟨⟨w, Below.refl _ _⟩, rfl⟩ ⟨⟨w.drew, (Below.refl _ _).drew⟩, rfl⟩ ?_
  have e : (fun a' => ∀ w', (∃ d : BelowT w.heap.size w, w' = d.1) → wpList P l.toArray Q (l.drop n) a' w') = (fun a' => ∀ w', Below w.heap.size w w' → wpList P l.toArray Q (l.drop n) a' w') := by
    funext a'
    apply propext
    constructor
    · intro h w' hb; exact h w' ⟨⟨w', hb⟩, rfl⟩
    · rintro h w' ⟨d, rfl⟩; exact h d.1 d.2
  rw [e]; exact h
theorem sl_take {w : World} {ao : Option Addr} {n cap : Nat} {cs : List Value} (h : Sl w (.slice ao n cap) n cs) (m k : Nat) (hm : m ≤ n) : Sl w (.slice ao m cap) m (cs.take k) := by
  obtain ⟨ao', cap', e, h2, h3, h4, h5⟩ := h
  simp only [Value.slice.injEq, true_and] at e
  obtain ⟨rfl, rfl⟩ := e
  refine ⟨ao, cap, rfl, by omega, h3, h4, fun b o s e => ⟨(h5 b o s e).1, fun j u hj => (h5 b o s e).2 j u ?_⟩⟩
  by_cases hjk : j < k
  · rwa [List.getElem?_take_of_lt hjk] at hj
  · rw [List.getElem?_eq_none (by rw [List.length_take]; omega)] at hj; cases hj
theorem sl_drop {w : World} {b o n cap : Nat} {cs : List Value} (h : Sl w (.slice (some ⟨b, o, none⟩) n cap) n cs) (m k : Nat) (hm : m ≤ n) : Sl w (.slice (some ⟨b, o + k, none⟩) (n - m) (cap - m)) (n - m) (cs.drop k) := by
  obtain ⟨ao', cap', e, h2, h3, h4, h5⟩ := h
  simp only [Value.slice.injEq, true_and] at e
  obtain ⟨rfl, rfl⟩ := e
  refine ⟨_, _, rfl, by omega, by omega, fun e => (by cases e), fun b' o' s e => ?_⟩
  simp only [Option.some.injEq, Addr.mk.injEq] at e
  obtain ⟨rfl, rfl, rfl⟩ := e
  refine ⟨rfl, fun j u hj => ?_⟩
  rw [List.getElem?_drop] at hj
  have := (h5 _ _ _ rfl).2 _ u hj
  rwa [← Nat.add_assoc] at this
theorem bb_take {w : World} {ao : Option Addr} {cap : Nat} {ls : List (List UInt8)} (h : BB w (.slice ao ls.length cap) ls) (m : Nat) (hm : m ≤ ls.length) : BB w (.slice ao m cap) (ls.take m) := by
  obtain ⟨vs, h1, h2, h3⟩ := h
  refine ⟨vs.take m, by simp [h1], ?_, fun i l hi => ?_⟩
  · rw [List.length_take, Nat.min_eq_left hm]; exact sl_take h2 m m hm
  · have him : i < m := by
      have := (List.getElem?_eq_some_iff.1 hi).1
      rw [List.length_take] at this; omega
    rw [List.getElem?_take_of_lt him] at hi ⊢
    exact h3 i l hi
theorem bb_drop {w : World} {b o cap : Nat} {ls : List (List UInt8)} (h : BB w (.slice (some ⟨b, o, none⟩) ls.length cap) ls) (m : Nat) (hm : m ≤ ls.length) : BB w (.slice (some ⟨b, o + m, none⟩) (ls.length - m) (cap - m)) (ls.drop m) := by
  obtain ⟨vs, h1, h2, h3⟩ := h
  refine ⟨vs.drop m, by simp [h1], ?_, fun i l hi => ?_⟩
  · rw [List.length_drop]; exact sl_drop h2 m m hm
  · rw [List.getElem?_drop] at hi ⊢
    exact h3 _ l hi
/-- The sizes for which the walks are shown. -/
def Fit (ls : List (List UInt8)) : Prop := ls.length ≤ 1000000 ∧ ∀ l ∈ ls, l.length ≤ 900000
theorem Fit.take {ls : List (List UInt8)} (h : Fit ls) (m : Nat) : Fit (ls.take m) := ⟨by rw [List.length_take]; have := h.1; omega, fun l hl => h.2 l (List.mem_of_mem_take hl)⟩
theorem Fit.drop {ls : List (List UInt8)} (h : Fit ls) (m : Nat) : Fit (ls.drop m) := ⟨by rw [List.length_drop]; have := h.1; omega, fun l hl => h.2 l (List.mem_of_mem_drop hl)⟩
theorem root_length (ls : List (List UInt8)) : (u8s (Sha.root ls)).length = 32 := by rw [u8s_length, Sha.root_len]
set_option maxHeartbeats 400000 in
theorem root_any : ∀ (k : Nat) (ls : List (List UInt8)) (v : Value) (w : World), ls.length = k → Glob w → BB w v ls → Fit ls →
    Calls Tryd.prog 18 #[v] w fun e w' => e = .returned (.agg (u8s (Sha.root ls)).toArray) ∧ Below w.heap.size w w' := by
  intro k
  induction k using Nat.strongRecOn with
  | _ k ih =>
  intro ls v w hk hg hBB hF
  rcases Nat.lt_or_ge ls.length 2 with h2 | h2
  · match ls, h2 with
    | [], _ =>
      obtain ⟨vs, hvs, hS, hel⟩ := hBB
      obtain ⟨ao, cap, rfl⟩ := sl_lit hS
      have HG := Lib.hid hg; clear hg
      clear hS hel hvs ih hk
      simp only [List.length_nil]
      go_enter Tryd.func18, Tryd.ntmps18
      go_wp2_with (go_at_call 12; refine Hid.out ?_)
      refine stop ?_
      refine (sum_any (.slice none 0 0) [] _ ?_ ⟨none, 0, rfl, Nat.le_refl _, by omega, fun _ => rfl, fun b o s e => by cases e⟩ (by simp)).mono ?_
      · exact HG.out.below' ((Below.refl _ _).alloc (Nat.le_refl _) _)
      rintro e w1 ⟨rfl, hb⟩
      rw [← Sha.root_nil]
      have HA := Lib.hid ((Arr.new w (u8s (List.replicate 32 0)) _).below' hb)
      have HB := Lib.hid (((Below.refl w.heap.size w).alloc (Nat.le_refl _) _).trans (hb.mono (by simp)))
      clear hb
      go_wp2_with (refine wpList_store_cells rfl rfl _ _ _ rfl _ 0 rfl (u8s (Sha.root [])) rfl (by rw [root_length]; exact agg32.2) (u8s_one _) _ HA.out (by rw [root_length, u8s_length, List.length_replicate]; decide) ?_; intro w4 hA3 hG3)
      rw [lay_whole _ _ (by rw [root_length, u8s_length, List.length_replicate])] at hA3
      exact bodyPost_cells rfl rfl _ rfl _ hA3 (by rw [root_length]; exact agg32) ⟨rfl, HB.out.grown hG3 HB.out.size (by intro k hk; cases hk; omega)⟩
    | [x], _ =>
      obtain ⟨vs, hvs, hS, hel⟩ := hBB
      obtain ⟨b, o, cap, rfl, hle, hcap, hcell⟩ := sl_addr hS (by simp)
      obtain ⟨u, hu, hSx⟩ := hel 0 x rfl
      have hc := hcell 0 u hu
      obtain ⟨ao, cap1, rfl⟩ := sl_lit hSx
      have hxn : x.length ≤ 900000 := hF.2 x (by simp)
      have HG := Lib.hid hg; clear hg
      have HS := Lib.hid hSx; clear hSx
      have HC := Lib.hid hc
      clear hel hvs ih hk hcell hu hF hS hc
      simp only [List.length_cons, List.length_nil, Nat.zero_add, Nat.add_zero] at hle ⊢
      have hc2 : ∀ o', (w.alloc o').cell? ⟨b, o, none⟩ = some (.slice ao x.length cap1) := fun o' => by
        have := HC.out
        simp only [Nat.add_zero] at this
        exact (((Below.refl w.heap.size w).alloc (Nat.le_refl _) o').cell (block_lt_of_cell this)).trans this
      go_enter Tryd.func18, Tryd.ntmps18
      go_wp2_with (go_at_call 14; refine Hid.out ?_)
      refine stop ?_
      clear hc2
      refine (leaf_any _ x _ ?_ (HS.out.below ((Below.refl _ _).alloc (Nat.le_refl _) _)) hxn).mono ?_
      · exact HG.out.below' ((Below.refl _ _).alloc (Nat.le_refl _) _)
      rintro e w1 ⟨rfl, hb⟩
      have er : Sha.sum (0 :: x) = Sha.root [x] := (Sha.root_one x).symm
      rw [er]
      have HA := Lib.hid ((Arr.new w (u8s (List.replicate 32 0)) _).below' hb)
      have HB := Lib.hid (((Below.refl w.heap.size w).alloc (Nat.le_refl _) _).trans (hb.mono (by simp)))
      clear hb er
      go_wp2_with (refine wpList_store_cells rfl rfl _ _ _ rfl _ 0 rfl (u8s (Sha.root [x])) rfl (by rw [root_length]; exact agg32.2) (u8s_one _) _ HA.out (by rw [root_length, u8s_length, List.length_replicate]; decide) ?_; intro w4 hA3 hG3)
      rw [lay_whole _ _ (by rw [root_length, u8s_length, List.length_replicate])] at hA3
      exact bodyPost_cells rfl rfl _ rfl _ hA3 (by rw [root_length]; exact agg32) ⟨rfl, HB.out.grown hG3 HB.out.size (by intro k hk; cases hk; omega)⟩
  · obtain ⟨b, o, cap, rfl, hle, hcap⟩ : ∃ b o cap, v = .slice (some ⟨b, o, none⟩) ls.length cap ∧ ls.length ≤ cap ∧ cap ≤ 9223372036854775807 := by
      obtain ⟨vs, hvs, hS, hel⟩ := hBB
      obtain ⟨b, o, cap, rfl, hle, hcap, hcell⟩ := sl_addr hS (by omega)
      exact ⟨b, o, cap, rfl, hle, hcap⟩
    have hn := hF.1
    have c1 := Sha.cut_lt h2
    have c0 := Sha.cut_pos ls.length
    have HT := Lib.hid (fun d : BelowT (w.alloc (Obj.cells (u8s (List.replicate 32 0)).toArray 28)).heap.size (w.alloc (Obj.cells (u8s (List.replicate 32 0)).toArray 28)) =>
      calls_bt (Nat.le_refl _) d (ih (ls.take (Sha.cut ls.length)).length (by rw [List.length_take]; omega) (ls.take (Sha.cut ls.length)) (.slice (some ⟨b, o, none⟩) (Sha.cut ls.length) cap) d.1 rfl
        ((hg.below' ((Below.refl _ _).alloc (Nat.le_refl _) _)).below' d.2) ((bb_take hBB _ (by omega)).below (((Below.refl _ _).alloc (Nat.le_refl _) _).trans (d.2.mono (by simp)))) (hF.take _)))
    have HD := Lib.hid (fun d : BelowT (w.alloc (Obj.cells (u8s (List.replicate 32 0)).toArray 28)).heap.size (w.alloc (Obj.cells (u8s (List.replicate 32 0)).toArray 28)) =>
      calls_bt (Nat.le_refl _) d (ih (ls.drop (Sha.cut ls.length)).length (by rw [List.length_drop]; omega) (ls.drop (Sha.cut ls.length)) (.slice (some ⟨b, o + Sha.cut ls.length, none⟩) (ls.length - Sha.cut ls.length) (cap - Sha.cut ls.length)) d.1 rfl
        ((hg.below' ((Below.refl _ _).alloc (Nat.le_refl _) _)).below' d.2) ((bb_drop hBB _ (by omega)).below (((Below.refl _ _).alloc (Nat.le_refl _) _).trans (d.2.mono (by simp)))) (hF.drop _)))
    have HR := Lib.hid (Sha.root_cut h2)
    have HG := Lib.hid hg
    clear ih hBB hF hk hg
    obtain ⟨n, hN⟩ : ∃ n, n = ls.length := ⟨_, rfl⟩
    obtain ⟨m, hM⟩ : ∃ m, m = Sha.cut n := ⟨_, rfl⟩
    rw [← hN, ← hM] at c0 c1 HT HD HR
    rw [← hN] at h2 hn hle ⊢
    have HM := Lib.hid hM
    clear hN hM
    go_enter Tryd.func18, Tryd.ntmps18
    go_wp2_with (go_at_call 38; refine Hid.out ?_)
    refine stop ?_
    refine (cut_any n _ h2 (by omega)).mono ?_
    rintro e w1 ⟨rfl, rfl⟩
    rw [← HM.out]
    go_wp2
    refine wp_region_qbt 8 (by kernel_rfl) (by kernel_rfl) ?_
    simp only [List.take_succ_cons, List.take_zero, List.drop_succ_cons, List.drop_zero]
    go_big_quiet_step (fail)
    go_big_quiet_step (fail)
    go_big_quiet_step (fail)
    go_big_quiet_step (exact HT.out _)
    go_big_quiet_step (fail)
    go_big_quiet_step (fail)
    go_big_quiet_step (fail)
    go_big_quiet_step (exact HD.out _)
    refine wpQuiet_nil ?_
    intro w2 hb2
    have hb2' : Below (w.alloc (Obj.cells (u8s (List.replicate 32 0)).toArray 28)).heap.size (w.alloc (Obj.cells (u8s (List.replicate 32 0)).toArray 28)) w2 := hb2
    have HA := Lib.hid ((Arr.new w (u8s (List.replicate 32 0)) _).below' hb2')
    have HB := Lib.hid (((Below.refl w.heap.size w).alloc (Nat.le_refl _) _).trans (hb2'.mono (by simp)))
    clear hb2 hb2' HT HD
    go_wp2_with (go_at_call 16; refine Hid.out ?_)
    refine stop ?_
    refine (pair_any _ _ _ (HG.out.below' HB.out) (Sha.root_len _) (Sha.root_len _)).mono ?_
    rintro e w3 ⟨rfl, hb3⟩
    have er : Sha.sum (1 :: (Sha.root (ls.take m) ++ Sha.root (ls.drop m))) = Sha.root ls := HR.out.symm
    rw [er]
    have HA2 := Lib.hid (HA.out.below' hb3)
    have HB2 := Lib.hid (HB.out.trans (hb3.mono HB.out.size))
    clear hb3 er
    go_wp2_with (refine wpList_store_cells rfl rfl _ _ _ rfl _ 0 rfl (u8s (Sha.root ls)) rfl (by rw [root_length]; exact agg32.2) (u8s_one _) _ HA2.out (by rw [root_length, u8s_length, List.length_replicate]; decide) ?_; intro w4 hA3 hG3)
    rw [lay_whole _ _ (by rw [root_length, u8s_length, List.length_replicate])] at hA3
    exact bodyPost_cells rfl rfl _ rfl _ hA3 (by rw [root_length]; exact agg32) ⟨rfl, HB2.out.grown hG3 HB2.out.size (by intro k hk; cases hk; omega)⟩
end Go.Proofs.YtmindblfbijaaaaDoor
