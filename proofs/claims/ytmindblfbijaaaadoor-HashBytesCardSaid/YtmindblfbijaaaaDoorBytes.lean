/-
  Walks: the law HashBytes.
-/
import Derived.Test.YtmindblfbijaaaaDoorRows
import Derived.WalkKit
import Derived.WalkSpells
import Derived.WalkLawsBesides
import Derived.BigQuiet
import Derived.Deep.QuietTactic
import Derived.Deep.RegionHeld3
import Derived.Deep.DeepCutAuto
import Derived.Deep.LoopGhost
import Derived.StillTailTactics
import Derived.Lib.Hide
import Derived.Handy
import Derived.Test.YtmindblfbijaaaaDoorSanity
namespace Go.Proofs.YtmindblfbijaaaaDoor
open Go.RowKit
theorem own_new {w : World} {base n g : Nat} {e : TypeId} (hg : g = w.heap.size) (cs : List Value) (size : Nat) (hl : cs.length = n * size) (hb : base ≤ w.heap.size) (hm : n ≤ 1000000) :
    (w.alloc (.cells cs.toArray e)).ownsRow base e size (.slice (some ⟨g, 0, none⟩) n n) n cs := by
  subst hg
  exact ⟨hl, .inr ⟨w.heap.size, n, cs.toArray, rfl, hb, heap_alloc_new w _, Nat.le_refl _, by unfold maxLen; omega, by simpa using hl, by simp [← hl]⟩⟩
/-- A guarded operation whose guard holds is carried out as one without. -/
theorem wpList_unguard {P : Program} {ops : Array Oper} {rest : List Oper} {o : Oper} {a : Act} {w : World} {Q : Exit → Act → World → Prop} (hw : Region.wanted o (yielded ops a.tmps) = true)
    (h : wpList P ops Q ({ o with guard := none } :: rest) a w) : wpList P ops Q (o :: rest) a w := by
  unfold wpList at h ⊢
  have h1 : Region.wanted { o with guard := none } (yielded ops a.tmps) = true := rfl
  rw [if_pos h1] at h
  rw [if_pos hw]
  exact h
/-- A slice from a place on. -/
theorem wpList_slice_from {P : Program} {ops : Array Oper} {rest : List Oper} {o : Oper} {a : Act} {w : World} {Q : Exit → Act → World → Prop} {t e : TypeId} {z : Value} {size bytes : Nat} (hE : ElemT P t e z size bytes) (hgd : o.guard = none) (x lo : Operand) (ho : o.op = .slice t x (some lo) none none)
    (ao : Option Addr) (n k cap : Nat) (hx : a.eval x = .slice ao n cap) (hlo : a.eval lo = .int .i64 k) (hk : k ≤ n) (cs : List Value) (hS : Sl w (.slice ao n cap) n cs) (hl : cs.length = n * size)
    (h : ∀ v', Sl w v' (n - k) (cs.drop (k * size)) → wpList P ops Q rest (a.put o.dst v') w) : wpList P ops Q (o :: rest) a w := by
  obtain ⟨i0, hi, hz0, hz1, hz2⟩ := info_parts hE.info
  have hs : (P.info? e).map (·.size) = some size := by rw [hi]; simp [hz1]
  refine wpList_plain hgd fun K hK => ?_
  have hrun : (execOp a.eval o).run P w = .ok (.value (.slice (if cap = k then ao else ao.map (·.add (k * size))) (n - k) (cap - k))) w := by
    have hb : (Instr.sliceBound (.int .i64 (k : Int)) n .sliceB).run P w = .ok k w := by
      unfold Instr.sliceBound
      simp [asIntOf, Sem.run_bind, Result.andThen, show ((k : Int) ≤ n) by omega]
    simp only [execOp, ho, hx, Option.map_some, Option.map_none, hlo]
    simp [Instr.sliceAt, Instr.slice, Instr.sliceBounds, Sem.run_bind, run_underlying hE.und, hb, run_sizeOf hs, Result.andThen]
  unfold Oper.wp
  rw [hrun]
  refine hK _ _ (h _ ?_)
  obtain ⟨ao', cap', e', h2, h3, h4, h5⟩ := hS
  simp only [Value.slice.injEq, true_and] at e'
  obtain ⟨rfl, rfl⟩ := e'
  by_cases hc : cap = k
  · rw [if_pos hc]
    have hnk : n = k := by omega
    subst hnk
    refine ⟨ao, _, rfl, by omega, by omega, fun e => by have := h4 e; omega, fun b o s e => ⟨(h5 b o s e).1, fun j u hj => ?_⟩⟩
    rw [List.drop_of_length_le (by omega)] at hj
    simp at hj
  · rw [if_neg hc]
    refine ⟨_, _, rfl, by omega, by omega, fun e => ?_, fun b o s e => ?_⟩
    · cases ao with
      | none => have := h4 rfl; omega
      | some a => simp at e
    · cases ao with
      | none => simp at e
      | some ad =>
        obtain ⟨b', o', s'⟩ := ad
        obtain ⟨rfl, h6⟩ := h5 b' o' s' rfl
        simp only [Option.map_some, addr_add, Option.some.injEq, Addr.mk.injEq] at e
        obtain ⟨rfl, rfl, rfl⟩ := e
        refine ⟨rfl, fun j u hj => ?_⟩
        rw [List.getElem?_drop] at hj
        have := h6 _ u hj
        rwa [← Nat.add_assoc] at this
set_option maxHeartbeats 400000 in
theorem bytes_any (v1 v2 : Value) (b m : List UInt8) (w : World) (hg : Glob w) (h1 : Sl w v1 b.length (u8s b)) (h2 : Sl w v2 m.length (u8s m)) :
    Calls Tryd.prog 9 #[v1, v2] w fun e w' => e = .returned (.bool true) ∧ Below w.heap.size w w' := by
  obtain ⟨ao1, cap1, rfl⟩ := sl_lit h1
  obtain ⟨ao2, cap2, rfl⟩ := sl_lit h2
  have HG := Lib.hid hg
  have H1 := Lib.hid h1
  have H2 := Lib.hid h2
  clear hg h1 h2
  obtain ⟨n, hN⟩ : ∃ n, n = b.length := ⟨_, rfl⟩
  obtain ⟨k, hK⟩ : ∃ k, k = m.length := ⟨_, rfl⟩
  rw [← hN] at H1
  rw [← hK] at H2
  rw [← hN, ← hK]
  have HN := Lib.hid hN
  have HK := Lib.hid hK
  clear hN hK
  go_enter Tryd.func9, Tryd.ntmps9
  go_wp2_with (go_at_call 10; refine Hid.out ?_)
  refine stop ?_
  refine (sanity_any _ HG.out).mono ?_
  rintro e W1 ⟨rfl, hb1⟩
  have HB1 := Lib.hid hb1
  have HG1 := Lib.hid (HG.out.below' hb1)
  have H11 := Lib.hid (H1.out.below hb1)
  have H21 := Lib.hid (H2.out.below hb1)
  clear hb1 HG H1 H2
  by_cases hn : 200 < n
  · have hn' : (200 : Int) < n := by omega
    go_wp2
    exact bodyPost_ret (results_tmp rfl _ _ _) rfl ⟨rfl, HB1.out⟩
  by_cases hk : 200 < k
  · have hk' : (200 : Int) < k := by omega
    have hn' : ¬ (200 : Int) < n := by omega
    go_wp2
    exact bodyPost_ret (results_tmp rfl _ _ _) rfl ⟨rfl, HB1.out⟩
  have hk' : ¬ (200 : Int) < k := by omega
  have hn' : ¬ (200 : Int) < n := by omega
  go_wp2_with (go_at_call 12; refine Hid.out ?_)
  refine stop ?_
  refine (sum_any _ b _ HG1.out (by rw [← HN.out]; exact H11.out) (by rw [← HN.out]; omega)).mono ?_
  rintro e W2 ⟨rfl, hb2⟩
  have HB2 := Lib.hid (HB1.out.trans (hb2.mono HB1.out.size))
  have HG2 := Lib.hid (HG1.out.below' hb2)
  have H12 := Lib.hid (H11.out.below hb2)
  have H22 := Lib.hid (H21.out.below hb2)
  clear hb2 HB1 HG1 H11 H21
  obtain ⟨S, hS⟩ : ∃ S, S = Sha.sum b := ⟨_, rfl⟩
  rw [← hS]
  have hSl : S.length = 32 := by rw [hS]; exact Sha.sum_len _
  have HSl := Lib.hid hSl
  have HS := Lib.hid hS
  clear hS hSl
  go_wp2_with (refine wpList_store_any rfl rfl _ _ _ rfl _ 0 rfl (u8s S) rfl (by rw [u8s_length, HSl.out]; kernel_rfl) (u8s_one _) (u8s (List.replicate 32 0)) (Arr.new _ (u8s (List.replicate 32 0)) _) (by rw [u8s_length, u8s_length, List.length_replicate, HSl.out]; decide) (fun W3 hA3 hW3 => Hid.out ?_))
  refine stop ?_
  rw [lay_whole _ _ (by rw [u8s_length, u8s_length, List.length_replicate, HSl.out])] at hA3
  obtain ⟨s6, hs6⟩ : ∃ s, s = W2.heap.size := ⟨_, rfl⟩
  have hB3 : Below W2.heap.size W2 W3 := ((Below.refl _ _).alloc (Nat.le_refl _) _).grown hW3 (by simp) (by intro k hk; cases hk; exact Nat.le_refl _)
  rw [← hs6] at hA3 ⊢
  have HB3 := Lib.hid (HB2.out.trans (hB3.mono HB2.out.size))
  have HG3 := Lib.hid (HG2.out.below' hB3)
  have H13 := Lib.hid (H12.out.below hB3)
  have H23 := Lib.hid (H22.out.below hB3)
  have HA3 := Lib.hid hA3
  have Hs6 := Lib.hid (show w.heap.size ≤ s6 by rw [hs6]; exact HB2.out.size)
  clear hA3 hW3 hB3 HB2 HG2 H12 H22 hs6
  go_wp2_with (at_builtin; refine Hid.out ?_)
  refine stop ?_
  have e0 : u8s [] = [] := rfl
  refine wpList_append_sl elU8 rfl _ _ rfl W3.heap.size _ 0 [] rfl (own_new rfl [] 1 rfl (Nat.le_refl _) (by omega)) _ k (u8s m) rfl (H23.out.below ((Below.refl _ _).alloc (Nat.le_refl _) _)) (by rw [u8s_length, ← HK.out, Nat.mul_one]) (u8s_one _) (by omega) (by omega) (by simp) ?_
  intro v7 W4 hown4 hg4
  have hB4 : Below W3.heap.size W3 W4 := ((Below.refl _ _).alloc (Nat.le_refl _) _).grown hg4 (by simp) (by intro k hk; cases hk; exact Nat.le_refl _)
  rw [List.nil_append, Nat.zero_add] at hown4
  have HB4 := Lib.hid hB4
  have HO4 := Lib.hid hown4
  clear hB4 hown4 hg4 e0
  go_wp2_with (at_builtin; refine Hid.out ?_)
  refine stop ?_
  refine wpList_append_sl elU8 rfl _ _ rfl W3.heap.size _ k (u8s m) rfl HO4.out _ n (u8s b) rfl (H13.out.below HB4.out) (by rw [u8s_length, ← HN.out, Nat.mul_one]) (u8s_one _) (by omega) (by omega) HB4.out.size ?_
  intro v8 W5 hown5 hg5
  have hB5 : Below W3.heap.size W3 W5 := HB4.out.grown hg5 HB4.out.size (fun j hj => (HO4.out.lt j hj).1)
  have HB5 := Lib.hid hB5
  have HB5w := Lib.hid (HB3.out.trans (hB5.mono HB3.out.size))
  have HS5 := Lib.hid (own_sl hown5)
  have HO5 := Lib.hid hown5
  clear hB5 hown5 hg5 HB4 HO4
  obtain ⟨ao8, cap8, rfl⟩ := sl_lit HS5.out
  go_wp2_with (refine wpList_slice_from elU8 rfl _ _ rfl ao8 (k + n) k cap8 rfl rfl (by omega) (u8s m ++ u8s b) HS5.out (by rw [List.length_append, u8s_length, u8s_length, ← HN.out, ← HK.out, Nat.mul_one]) (fun v9 h9 => Hid.out ?_))
  refine stop ?_
  have hd : (u8s m ++ u8s b).drop (k * 1) = u8s b := by rw [Nat.mul_one, List.drop_append, List.drop_of_length_le (by rw [u8s_length, HK.out]; omega), u8s_length, HK.out]; simp
  rw [hd, show k + n - k = n by omega] at h9
  have H9 := Lib.hid h9
  clear hd h9
  go_wp2_with (go_at_call 12; refine Hid.out ?_)
  refine stop ?_
  refine (sum_any _ b _ (HG3.out.below' HB5.out) (by rw [← HN.out]; exact H9.out) (by rw [← HN.out]; omega)).mono ?_
  rintro e W6 ⟨rfl, hb6⟩
  rw [← HS.out]
  have hB6 : Below W3.heap.size W3 W6 := HB5.out.trans (hb6.mono HB5.out.size)
  have HB6 := Lib.hid hB6
  clear hB6 hb6 HB5 HO5 HS5 H9 HB5w
  go_wp2_with (refine wpList_store_any rfl rfl _ _ _ rfl _ 0 rfl (u8s S) rfl (by rw [u8s_length, HSl.out]; kernel_rfl) (u8s_one _) (u8s (List.replicate 32 0)) (Arr.new _ (u8s (List.replicate 32 0)) _) (by rw [u8s_length, u8s_length, List.length_replicate, HSl.out]; decide) (fun W7 hA7 hW7 => Hid.out ?_))
  refine stop ?_
  rw [lay_whole _ _ (by rw [u8s_length, u8s_length, List.length_replicate, HSl.out])] at hA7
  obtain ⟨s8, hs8⟩ : ∃ s, s = W6.heap.size := ⟨_, rfl⟩
  have hB7 : Below W3.heap.size W3 W7 := (HB6.out.alloc HB6.out.size _).grown hW7 (by have := HB6.out.size; simp; omega) (by intro k hk; cases hk; exact HB6.out.size)
  rw [← hs8] at hA7 ⊢
  have HB7 := Lib.hid (HB3.out.trans (hB7.mono HB3.out.size))
  have HG7 := Lib.hid (HG3.out.below' hB7)
  have H17 := Lib.hid (H13.out.below hB7)
  have HA7 := Lib.hid (HA3.out.below' hB7)
  have HT7 := Lib.hid hA7
  clear hA7 hW7 hB7 HB3 HG3 H13 H23 HB6 HA3 hs8
  go_wp2_with (at_builtin; refine Hid.out ?_)
  refine stop ?_
  have s1 : Sl (W7.alloc (.cells #[.int .u8 1] 5)) (.slice (some ⟨s6, 0, none⟩) 32 32) 32 (u8s S) := by
    have := arr_sl (HA7.out.alloc (.cells #[.int .u8 1] 5)) (by rw [u8s_length, HSl.out]; decide)
    rwa [u8s_length, HSl.out] at this
  refine wpList_append_sl elU8 rfl _ _ rfl W7.heap.size _ 1 (u8s [1]) rfl (own_new rfl (u8s [1]) 1 rfl (Nat.le_refl _) (by omega)) _ 32 (u8s S) rfl s1 (by rw [u8s_length, HSl.out]) (u8s_one _) (by omega) (by omega) (by simp) ?_
  intro v9 W8 hown8 hg8
  have hB8 : Below W7.heap.size W7 W8 := ((Below.refl _ _).alloc (Nat.le_refl _) _).grown hg8 (by simp) (by intro k hk; cases hk; exact Nat.le_refl _)
  have HB8 := Lib.hid hB8
  have HO8 := Lib.hid hown8
  clear hB8 hown8 hg8 s1
  go_wp2_with (at_builtin; refine Hid.out ?_)
  refine stop ?_
  have s2 : Sl W8 (.slice (some ⟨s8, 0, none⟩) 32 32) 32 (u8s S) := by
    have := arr_sl (HT7.out.below' HB8.out) (by rw [u8s_length, HSl.out]; decide)
    rwa [u8s_length, HSl.out] at this
  refine wpList_append_sl elU8 rfl _ _ rfl W7.heap.size _ 33 (u8s [1] ++ u8s S) rfl HO8.out _ 32 (u8s S) rfl s2 (by rw [u8s_length, HSl.out]) (u8s_one _) (by omega) (by omega) HB8.out.size ?_
  intro v10 W9 hown9 hg9
  have hB9 : Below W7.heap.size W7 W9 := HB8.out.grown hg9 HB8.out.size (fun j hj => (HO8.out.lt j hj).1)
  have e9 : u8s [1] ++ u8s S ++ u8s S = u8s (1 :: (S ++ S)) := by simp [u8s]
  rw [e9] at hown9
  have HO9 := Lib.hid (own_sl hown9)
  have HB9 := Lib.hid (HB7.out.trans (hB9.mono HB7.out.size))
  have HG9 := Lib.hid (HG7.out.below' hB9)
  have H19 := Lib.hid (H17.out.below hB9)
  have HA9 := Lib.hid (HA7.out.below' hB9)
  have HT9 := Lib.hid (HT7.out.below' hB9)
  clear hB9 e9 hown9 hg9 s2 HB8 HO8 HB7 HG7 H17 HA7 HT7
  have qg := guard_sum
  have qe := fun w => eq_sums S S HSl.out HSl.out w
  simp only [beq_self_eq_true] at qe
  go_wp2_with (first
    | (refine wpList_load_cells_w rfl _ _ rfl s6 0 rfl (u8s S) (by rw [u8s_length, HSl.out]; exact agg32) (fun j v hv => by rw [Nat.zero_add]; exact HA9.out.cell hv) ?_)
    | (refine wpList_load_cells_w rfl _ _ rfl s8 0 rfl (u8s S) (by rw [u8s_length, HSl.out]; exact agg32) (fun j v hv => by rw [Nat.zero_add]; exact HT9.out.cell hv) ?_)
    | (go_at_call 14; refine Hid.out ?_))
  refine stop ?_
  refine (leaf_any _ b _ HG9.out (by rw [← HN.out]; exact H19.out) (by rw [← HN.out]; omega)).mono ?_
  rintro e W10 ⟨rfl, hb10⟩
  have HB10 := Lib.hid (HB9.out.trans (hb10.mono HB9.out.size))
  have HG10 := Lib.hid (HG9.out.below' hb10)
  have H110 := Lib.hid (H19.out.below hb10)
  have HA10 := Lib.hid (HA9.out.below' hb10)
  have HT10 := Lib.hid (HT9.out.below' hb10)
  have HO10 := Lib.hid (HO9.out.below hb10)
  clear hb10 HB9 HG9 H19 HA9 HT9 HO9
  go_wp2_with (at_builtin; refine Hid.out ?_)
  refine stop ?_
  refine wpList_unguard rfl ?_
  refine wpList_append_sl elU8 rfl _ _ rfl W10.heap.size _ 1 (u8s [0]) rfl (own_new rfl (u8s [0]) 1 rfl (Nat.le_refl _) (by omega)) _ n (u8s b) rfl (H110.out.below ((Below.refl _ _).alloc (Nat.le_refl _) _)) (by rw [u8s_length, ← HN.out, Nat.mul_one]) (u8s_one _) (by omega) (by omega) (by simp) ?_
  intro v11 W11 hown11 hg11
  have hB11 : Below W10.heap.size W10 W11 := ((Below.refl _ _).alloc (Nat.le_refl _) _).grown hg11 (by simp) (by intro k hk; cases hk; exact Nat.le_refl _)
  have e11 : u8s [0] ++ u8s b = u8s (0 :: b) := by simp [u8s]
  rw [e11] at hown11
  have HO11 := Lib.hid (own_sl hown11)
  have HB11 := Lib.hid (HB10.out.trans (hB11.mono HB10.out.size))
  have HG11 := Lib.hid (HG10.out.below' hB11)
  have HA11 := Lib.hid (HA10.out.below' hB11)
  have HT11 := Lib.hid (HT10.out.below' hB11)
  have HOb11 := Lib.hid (HO10.out.below hB11)
  clear hB11 e11 hown11 hg11 HB10 HG10 H110 HA10 HT10 HO10
  go_wp2_with (go_at_call 12; refine Hid.out ?_)
  refine stop ?_
  refine (sum_any _ (0 :: b) _ HG11.out (by rw [List.length_cons, ← HN.out, Nat.add_comm]; exact HO11.out) (by rw [List.length_cons, ← HN.out]; omega)).mono ?_
  rintro e W12 ⟨rfl, hb12⟩
  have HB12 := Lib.hid (HB11.out.trans (hb12.mono HB11.out.size))
  have HG12 := Lib.hid (HG11.out.below' hb12)
  have HA12 := Lib.hid (HA11.out.below' hb12)
  have HT12 := Lib.hid (HT11.out.below' hb12)
  have HO12 := Lib.hid (HOb11.out.below hb12)
  clear hb12 HB11 HG11 HA11 HT11 HO11 HOb11
  have qf := fun w => eq_sums (Sha.sum (0 :: b)) (Sha.sum (0 :: b)) (Sha.sum_len _) (Sha.sum_len _) w
  simp only [beq_self_eq_true] at qf
  go_wp2_with (first
    | (refine wpList_load_cells_w rfl _ _ rfl s6 0 rfl (u8s S) (by rw [u8s_length, HSl.out]; exact agg32) (fun j v hv => by rw [Nat.zero_add]; exact HA12.out.cell hv) ?_)
    | (refine wpList_load_cells_w rfl _ _ rfl s8 0 rfl (u8s S) (by rw [u8s_length, HSl.out]; exact agg32) (fun j v hv => by rw [Nat.zero_add]; exact HT12.out.cell hv) ?_)
    | (go_at_call 16; refine Hid.out ?_))
  refine stop ?_
  refine (pair_any S S _ HG12.out HSl.out HSl.out).mono ?_
  rintro e W13 ⟨rfl, hb13⟩
  have HB13 := Lib.hid (HB12.out.trans (hb13.mono HB12.out.size))
  have HG13 := Lib.hid (HG12.out.below' hb13)
  have HO13 := Lib.hid (HO12.out.below hb13)
  clear hb13 HB12 HG12 HA12 HT12 HO12 qf
  have qf := fun w => eq_sums (Sha.sum (1 :: (S ++ S))) (Sha.sum (1 :: (S ++ S))) (Sha.sum_len _) (Sha.sum_len _) w
  simp only [beq_self_eq_true] at qf
  go_wp2_with (go_at_call 12; refine Hid.out ?_)
  refine stop ?_
  have el : (1 :: (S ++ S)).length = 65 := by have := HSl.out; simp; omega
  refine (sum_any _ (1 :: (S ++ S)) _ HG13.out (by rw [el]; exact HO13.out) (by rw [el]; decide)).mono ?_
  rintro e W14 ⟨rfl, hb14⟩
  have HB14 := Lib.hid (HB13.out.trans (hb14.mono HB13.out.size))
  clear hb14 el
  go_wp2
  exact bodyPost_ret (results_tmp rfl _ _ _) rfl ⟨rfl, HB14.out⟩
end Go.Proofs.YtmindblfbijaaaaDoor
