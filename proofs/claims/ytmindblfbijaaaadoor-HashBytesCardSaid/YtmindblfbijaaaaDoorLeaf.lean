/-
  Walks: the leaf and the pair; a rule for drawn regions whose calls make memory.
-/
import Derived.Test.YtmindblfbijaaaaDoorRows
import Derived.WalkKit
import Derived.WalkSpells
import Derived.WalkLawsBesides
import Derived.BigQuiet
import Derived.Deep.QuietTactic
import Derived.Deep.RegionHeld3
import Derived.Deep.DeepCutAuto
import Derived.Deep.LoopGhost
import Derived.StillTailTactics
import Derived.Lib.Hide
import Derived.Handy
import Derived.Test.YtmindblfbijaaaaDoorConcat
import Derived.Test.YtmindblfbijaaaaDoorParTail
import Derived.BigQuiet
namespace Go.Proofs.YtmindblfbijaaaaDoor
open Go.RowKit
/-- The worlds in which all that lay below B lies as it lay. -/
def BelowT (B : Nat) (w : World) : Type := { w' : World // Below B w w' }
instance (B : Nat) (w : World) : Nonempty (BelowT B w) := ⟨⟨w, Below.refl B w⟩⟩
theorem wp_region_qb {P : Program} {id : Nat} {Q : Exit → Act → World → Prop} {a : Act} {w : World} {l : List Oper} (hm : P.follows .mixedOrders = true) (hB : Region.lexB .any l.toArray = true)
    (h : wpQuiet P l.toArray (fun w' => ∃ d : BelowT w.heap.size w, w' = d.1) (fun a' => ∀ w', Below w.heap.size w w' → Q .normal a' w') l a) : (Code.region id l.toArray true).wp P Q a w := by
  refine wp_region_quiet (C := fun w' => ∃ d : BelowT w.heap.size w, w' = d.1) hm hB ⟨⟨w.drew, (Below.refl _ _).drew⟩, rfl⟩ ?_
  have e : (fun a' => ∀ w', (∃ d : BelowT w.heap.size w, w' = d.1) → Q .normal a' w') = (fun a' => ∀ w', Below w.heap.size w w' → Q .normal a' w') := by
    funext a'
    apply propext
    constructor
    · intro h w' hb; exact h w' ⟨⟨w', hb⟩, rfl⟩
    · rintro h w' ⟨d, rfl⟩; exact h d.1 d.2
  rw [e]; simpa using h
theorem arr_sl {W : World} {g : Nat} {vs : List Value} (h : Arr W g vs) (hn : vs.length ≤ 1000000) : Sl W (.slice (some ⟨g, 0, none⟩) vs.length vs.length) vs.length vs :=
  ⟨_, _, rfl, Nat.le_refl _, by omega, fun e => (by cases e), fun b o s e => by
    simp only [Option.some.injEq, Addr.mk.injEq] at e
    obtain ⟨rfl, rfl, rfl⟩ := e
    exact ⟨rfl, fun j u hj => by rw [Nat.zero_add]; exact h.cell hj⟩⟩
theorem bb_two {W : World} {g : Nat} {v1 v2 : Value} {l1 l2 : List UInt8} (hA : Arr W g [v1, v2]) (h1 : Sl W v1 l1.length (u8s l1)) (h2 : Sl W v2 l2.length (u8s l2)) : BB W (.slice (some ⟨g, 0, none⟩) 2 2) [l1, l2] :=
  ⟨[v1, v2], rfl, arr_sl hA (by simp), fun i l hi => by
    match i with
    | 0 => simp at hi; subst hi; exact ⟨v1, rfl, h1⟩
    | 1 => simp at hi; subst hi; exact ⟨v2, rfl, h2⟩
    | n + 2 => simp at hi⟩
theorem bb_three {W : World} {g : Nat} {v1 v2 v3 : Value} {l1 l2 l3 : List UInt8} (hA : Arr W g [v1, v2, v3]) (h1 : Sl W v1 l1.length (u8s l1)) (h2 : Sl W v2 l2.length (u8s l2)) (h3 : Sl W v3 l3.length (u8s l3)) : BB W (.slice (some ⟨g, 0, none⟩) 3 3) [l1, l2, l3] :=
  ⟨[v1, v2, v3], rfl, arr_sl hA (by simp), fun i l hi => by
    match i with
    | 0 => simp at hi; subst hi; exact ⟨v1, rfl, h1⟩
    | 1 => simp at hi; subst hi; exact ⟨v2, rfl, h2⟩
    | 2 => simp at hi; subst hi; exact ⟨v3, rfl, h3⟩
    | n + 3 => simp at hi⟩
theorem Glob.below' {w w' : World} (h : Glob w) (hb : Below w.heap.size w w') : Glob w' := h.below hb h.size
/-- The contract of the hash of bytes, from a slice that is owned. -/
theorem sum_own (v : Value) (l : List UInt8) (w : World) (base : Nat) (hg : Glob w) (hO : w.ownsRow base 5 1 v l.length (u8s l)) (hn : l.length ≤ 1000000) :
    Calls Tryd.prog 12 #[v] w fun e w' => e = .returned (.agg (u8s (Sha.sum l)).toArray) ∧ Below w.heap.size w w' := sum_any v l w hg (own_sl hO) hn
theorem sum_length (l : List UInt8) : (u8s (Sha.sum l)).length = 32 := by rw [u8s_length]; exact Sha.out_length _
set_option maxHeartbeats 400000 in
theorem leaf_any (v : Value) (l : List UInt8) (w : World) (hg : Glob w) (hS : Sl w v l.length (u8s l)) (hn : l.length ≤ 900000) :
    Calls Tryd.prog 14 #[v] w fun e w' => e = .returned (.agg (u8s (Sha.sum (0 :: l))).toArray) ∧ Below w.heap.size w w' := by
  obtain ⟨ao, cap, rfl⟩ := sl_lit hS
  have HS := Lib.hid hS; clear hS
  have HG := Lib.hid hg; clear hg
  go_enter Tryd.func14, Tryd.ntmps14
  go_wp2_with (go_at_call 35; refine Hid.out ?_)
  refine stop ?_
  have e0 : u8s [0] = [.int .u8 0] := rfl
  refine (concat_any _ [[0], l] _ (bb_two (Arr.newAt (by simp) [_, _] _) ?_ ?_) (by simp; omega) (by simp) (by simp)).mono ?_
  · exact arr_sl (vs := u8s [0]) ((Arr.newAt (by simp) [_] _).alloc _) (by simp [u8s])
  · exact HS.out.below (((Below.refl _ _).alloc (Nat.le_refl _) _).alloc (by simp) _ |>.alloc (by simp; omega) _)
  rintro e w1 ⟨v1, rfl, hown, hb⟩
  have ef : [[0], l].flatten = 0 :: l := by simp
  rw [ef] at hown
  have hB1 : Below w.heap.size w w1 := ((((Below.refl _ _).alloc (Nat.le_refl _) _).alloc (by simp) _).alloc (by simp; omega) _).trans (hb.mono (by simp; omega))
  have hA1 : Arr w1 w.heap.size (u8s (List.replicate 32 0)) := (((Arr.new w (u8s (List.replicate 32 0)) _).alloc _).alloc _).below' hb
  have HA := Lib.hid hA1
  have HB := Lib.hid hB1
  have HO := Lib.hid hown
  clear hb hown hA1 hB1
  go_wp2_with (go_at_call 12; refine Hid.out ?_)
  refine stop ?_
  refine (sum_own _ (0 :: l) _ _ (HG.out.below' HB.out) HO.out (by simp; omega)).mono ?_
  rintro e w2 ⟨rfl, hb2⟩
  have HA2 := Lib.hid (HA.out.below' hb2)
  have HB2 := Lib.hid (HB.out.trans (hb2.mono HB.out.size))
  go_wp2_with (refine wpList_store_cells rfl rfl _ _ _ rfl _ 0 rfl (u8s (Sha.sum (0 :: l))) rfl (by rw [sum_length]; exact agg32.2) (u8s_one _) _ HA2.out (by rw [sum_length, u8s_length, List.length_replicate]; decide) ?_; intro w3 hA3 hG3)
  rw [lay_whole _ _ (by rw [sum_length, u8s_length, List.length_replicate])] at hA3
  exact bodyPost_cells rfl rfl _ rfl _ hA3 (by rw [sum_length]; exact agg32) ⟨rfl, HB2.out.grown hG3 HB2.out.size (by intro k hk; cases hk; exact Nat.le_refl _)⟩
set_option maxHeartbeats 400000 in
theorem pair_any (l1 l2 : List UInt8) (w : World) (hg : Glob w) (h1 : l1.length = 32) (h2 : l2.length = 32) :
    Calls Tryd.prog 16 #[.agg (u8s l1).toArray, .agg (u8s l2).toArray] w fun e w' => e = .returned (.agg (u8s (Sha.sum (1 :: (l1 ++ l2)))).toArray) ∧ Below w.heap.size w w' := by
  have HG := Lib.hid hg; clear hg
  have H1 := Lib.hid h1; clear h1
  have H2 := Lib.hid h2; clear h2
  go_enter Tryd.func16, Tryd.ntmps16
  go_wp2
  obtain ⟨W, hW⟩ : ∃ W, W = ((w.alloc (Obj.cells (u8s l1).toArray 28)).alloc (Obj.cells (u8s l2).toArray 28)).alloc (Obj.cells (u8s (List.replicate 32 0)).toArray 28) := ⟨_, rfl⟩
  have hB0 : Below w.heap.size w W := by rw [hW]; exact (((Below.refl _ _).alloc (Nat.le_refl _) _).alloc (by simp) _).alloc (by simp; omega) _
  have hA1 : Arr W w.heap.size (u8s l1) := by rw [hW]; exact ((Arr.new w _ _).alloc _).alloc _
  have hA2 : Arr W (w.heap.size + 1) (u8s l2) := by rw [hW]; exact (Arr.newAt (by simp) _ _).alloc _
  have hA4 : Arr W (w.heap.size + 2) (u8s (List.replicate 32 0)) := by rw [hW]; exact Arr.newAt (by simp) _ _
  change Code.wp _ _ _ _ (((w.alloc (Obj.cells (u8s l1).toArray 28)).alloc (Obj.cells (u8s l2).toArray 28)).alloc (Obj.cells (u8s (List.replicate 32 0)).toArray 28))
  rw [← hW]
  clear hW
  have HB := Lib.hid hB0; clear hB0
  have HA1 := Lib.hid hA1; clear hA1
  have HA2 := Lib.hid hA2; clear hA2
  have HA4 := Lib.hid hA4; clear hA4
  refine wp_region_par_tail (E := fun A B => Below A.heap.size A B)
    (G := fun j ρ W' => match j with
      | 0 => ∃ b, ρ 0 = .slice (some ⟨b, 0, none⟩) 1 1 ∧ Arr W' b [.int .u8 1]
      | 1 => ρ 1 = .slice (some ⟨w.heap.size, 0, none⟩) 32 32
      | 2 => ρ 2 = .slice (some ⟨w.heap.size + 1, 0, none⟩) 32 32
      | _ => True) 3 (by kernel_rfl) (by kernel_rfl) (Below.refl _ _).drew (fun _ => Below.refl _ _) (fun _ _ _ h k => h.trans (k.mono h.size)) ?hG ?hloc ?hstep ?hend
  case hG =>
    intro j ρ w1 w2 hg he
    match j with
    | 0 => obtain ⟨b, h1, h2⟩ := hg; exact ⟨b, h1, h2.below' he⟩
    | 1 | 2 => exact hg
    | n + 3 => trivial
  case hloc =>
    refine allFrom_array ⟨?_, ?_, ?_, ?_, ?_, ?_, ?_, trivial⟩ <;> intro ρ ρ' w h0 he hg
    · obtain ⟨b, h1, h2⟩ := hg; exact ⟨b, h0.symm.trans h1, h2⟩
    · exact h0.symm.trans hg
    · exact h0.symm.trans hg
    all_goals trivial
  case hstep =>
    refine allFrom_array ⟨?_, ?_, ?_, trivial⟩ <;> intro a w1 hE hR hd <;> refine wanted_none rfl ?_
    · go_simp
      exact ⟨_, rfl, (Below.refl _ _).alloc (Nat.le_refl _) _, _, rfl, Arr.new w1 [_] _⟩
    · have h2 : a.tmps[2]?.getD undef = .pointer (some ⟨w.heap.size, 0, none⟩) := hR.evalD rfl rfl
      go_simp
      exact ⟨_, rfl, Below.refl _ _, rfl⟩
    · have h2 : a.tmps[3]?.getD undef = .pointer (some ⟨w.heap.size + 1, 0, none⟩) := hR.evalD rfl rfl
      go_simp
      exact ⟨_, rfl, Below.refl _ _, rfl⟩
  case hend =>
    intro vs hvs w1 hE hall
    obtain ⟨v0, v1, v2, rfl⟩ : ∃ v0 v1 v2, vs = [v0, v1, v2] := by
      match vs, hvs with
      | [v0, v1, v2], _ => exact ⟨v0, v1, v2, rfl⟩
    obtain ⟨b, e0, hb1⟩ := hall 0 (by omega)
    have e1 := hall 1 (by omega)
    have e2 := hall 2 (by omega)
    simp only [List.getD_cons_zero, List.getD_cons_succ] at e0 e1 e2
    subst e0 e1 e2
    have HB1 := Lib.hid (HB.out.trans (hE.mono HB.out.size))
    have K1 := Lib.hid (HA1.out.below' hE)
    have K2 := Lib.hid (HA2.out.below' hE)
    have K4 := Lib.hid (HA4.out.below' hE)
    have KB := Lib.hid hb1
    clear hall hvs hE hb1 HB HA1 HA2 HA4 W
    simp only [putAll, List.take_succ_cons, List.take_zero, List.drop_succ_cons, List.drop_zero, List.map_cons, List.map_nil, List.zip_cons_cons, List.zip_nil_right, Act.put, List.setIfInBounds_toArray, List.set_cons_zero, List.set_cons_succ]
    go_wp2_with (go_at_call 35; refine Hid.out ?_)
    refine stop ?_
    have n1 := H1.out
    have n2 := H2.out
    have s1 : Sl w1 (.slice (some ⟨w.heap.size, 0, none⟩) l1.length l1.length) l1.length (u8s l1) := by
      have := arr_sl K1.out (by rw [u8s_length]; omega); rwa [u8s_length] at this
    have s2 : Sl w1 (.slice (some ⟨w.heap.size + 1, 0, none⟩) l2.length l2.length) l2.length (u8s l2) := by
      have := arr_sl K2.out (by rw [u8s_length]; omega); rwa [u8s_length] at this
    rw [n1] at s1
    rw [n2] at s2
    refine (concat_any _ [[1], l1, l2] _ (bb_three (Arr.newAt rfl [_, _, _] _) ?_ ?_ ?_) (by simp; omega) (by simp) (by simp)).mono ?_
    · exact arr_sl (vs := u8s [1]) (KB.out.alloc _) (by simp [u8s])
    · rw [n1]; exact s1.below ((Below.refl _ _).alloc (Nat.le_refl _) _)
    · rw [n2]; exact s2.below ((Below.refl _ _).alloc (Nat.le_refl _) _)
    rintro e w2 ⟨v1, rfl, hown, hb⟩
    have ef : [[1], l1, l2].flatten = 1 :: (l1 ++ l2) := by simp
    rw [ef] at hown
    have hb' : Below w1.heap.size w1 w2 := ((Below.refl _ _).alloc (Nat.le_refl _) _).trans (hb.mono (by simp))
    have HB2 := Lib.hid (HB1.out.trans (hb'.mono HB1.out.size))
    have HA := Lib.hid (K4.out.below' hb')
    have HO := Lib.hid hown
    clear hb hb' hown n1 n2 s1 s2 ef
    go_wp2_with (go_at_call 12; refine Hid.out ?_)
    refine stop ?_
    refine (sum_own _ (1 :: (l1 ++ l2)) _ _ (HG.out.below' HB2.out) HO.out (by have := H1.out; have := H2.out; simp; omega)).mono ?_
    rintro e w3 ⟨rfl, hb2⟩
    have HA2 := Lib.hid (HA.out.below' hb2)
    have HB3 := Lib.hid (HB2.out.trans (hb2.mono HB2.out.size))
    go_wp2_with (refine wpList_store_cells rfl rfl _ _ _ rfl _ 0 rfl (u8s (Sha.sum (1 :: (l1 ++ l2)))) rfl (by rw [sum_length]; exact agg32.2) (u8s_one _) _ HA2.out (by rw [sum_length, u8s_length, List.length_replicate]; decide) ?_; intro w4 hA3 hG3)
    rw [lay_whole _ _ (by rw [sum_length, u8s_length, List.length_replicate])] at hA3
    exact bodyPost_cells rfl rfl _ rfl _ hA3 (by rw [sum_length]; exact agg32) ⟨rfl, HB3.out.grown hG3 HB3.out.size (by intro k hk; cases hk; omega)⟩
end Go.Proofs.YtmindblfbijaaaaDoor
