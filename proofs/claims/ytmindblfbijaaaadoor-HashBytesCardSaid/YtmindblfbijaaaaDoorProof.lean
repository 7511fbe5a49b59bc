/-
  Walks: the proof.
-/
import Derived.Test.YtmindblfbijaaaaDoorRows
import Derived.WalkKit
import Derived.WalkSpells
import Derived.WalkLawsBesides
import Derived.BigQuiet
import Derived.Deep.QuietTactic
import Derived.Deep.RegionHeld3
import Derived.Deep.DeepCutAuto
import Derived.Deep.LoopGhost
import Derived.StillTailTactics
import Derived.Lib.Hide
import Derived.Handy
import Derived.Test.YtmindblfbijaaaaDoorReverse
import Derived.Test.YtmindblfbijaaaaDoorBuild
namespace Go.Proofs.YtmindblfbijaaaaDoor
open Go.RowKit
theorem path_len32 : ∀ (k : Nat) (l : List (List UInt8)) (i : Nat), l.length = k → Len32 (Sha.path l i) := by
  intro k
  induction k using Nat.strongRecOn with
  | _ k ih =>
    intro l i hk
    rcases Nat.lt_or_ge l.length 2 with h | h
    · rw [Sha.path_one _ h]; intro x hx; cases hx
    · have c1 := Sha.cut_lt h
      have c2 := Sha.cut_pos l.length
      rcases Nat.lt_or_ge i (Sha.cut l.length) with hlt | hge
      · rw [Sha.path_low h hlt]
        intro x hx
        rcases List.mem_cons.1 hx with rfl | h'
        · exact Sha.root_len _
        · exact ih _ (by rw [List.length_take]; omega) _ _ rfl x h'
      · rw [Sha.path_high h hge]
        intro x hx
        rcases List.mem_cons.1 hx with rfl | h'
        · exact Sha.root_len _
        · exact ih _ (by rw [List.length_drop]; omega) _ _ rfl x h'
theorem path_length_le : ∀ (k : Nat) (l : List (List UInt8)) (i : Nat), l.length = k → (Sha.path l i).length ≤ k := by
  intro k
  induction k using Nat.strongRecOn with
  | _ k ih =>
    intro l i hk
    rcases Nat.lt_or_ge l.length 2 with h | h
    · rw [Sha.path_one _ h]; simp
    · have c1 := Sha.cut_lt h
      have c2 := Sha.cut_pos l.length
      rcases Nat.lt_or_ge i (Sha.cut l.length) with hlt | hge
      · rw [Sha.path_low h hlt]
        have := ih _ (by rw [List.length_take]; omega) (l.take (Sha.cut l.length)) i rfl
        rw [List.length_take] at this
        simp only [List.length_cons]; omega
      · rw [Sha.path_high h hge]
        have := ih _ (by rw [List.length_drop]; omega) (l.drop (Sha.cut l.length)) (i - Sha.cut l.length) rfl
        rw [List.length_drop] at this
        simp only [List.length_cons]; omega
theorem grown_of_below {w w' : World} {r : Option Nat} (hb : Below w.heap.size w w') : w.grownBy w' r := ⟨hb.os, hb.tape, hb.output, hb.size, fun i hi _ => hb.block i hi⟩
theorem own_below {w w' : World} {base size n : Nat} {e : TypeId} {v : Value} {xs : List Value} (h : w.ownsRow base e size v n xs) (hb : Below w.heap.size w w') : w'.ownsRow base e size v n xs := by
  cases hq : v.ownBlock with
  | none => exact h.kept (grown_of_below (r := none) hb) (.inl hq)
  | some k => exact h.kept (grown_of_below (r := none) hb) (.inr (by rw [hq]; simp))
theorem elSum : ElemT Tryd.prog 32 28 (.agg (u8s (List.replicate 32 0)).toArray) 32 32 := ⟨rfl, rfl, rfl, by omega⟩
/-- A place that is not there. -/
theorem proof_err (v : Value) (ls : List (List UInt8)) (i : Int) (w : World) (hB : BB w v ls) (hi : i < 0 ∨ (ls.length : Int) ≤ i) (hF : ls.length ≤ 1000000) :
    Calls Tryd.prog 20 #[v, .int .i64 i] w fun e w' => e = .returned (.tuple #[.slice none 0 0, .int .i64 1]) ∧ w = w' := by
  obtain ⟨vs, hvs, hS, hel⟩ := hB
  obtain ⟨ao, cap, rfl⟩ := sl_lit hS
  clear hS hel hvs
  obtain ⟨n, hN⟩ : ∃ n, n = ls.length := ⟨_, rfl⟩
  rw [← hN] at hi hF ⊢
  clear hN
  by_cases h0 : i < 0
  · go_enter Tryd.func20, Tryd.ntmps20
    go_wp2
    exact bodyPost_ret (results_tmp2 rfl _ _ _) rfl ⟨rfl, rfl⟩
  · have h1 : (n : Int) ≤ i := by omega
    go_enter Tryd.func20, Tryd.ntmps20
    go_wp2
    exact bodyPost_ret (results_tmp2 rfl _ _ _) rfl ⟨rfl, rfl⟩
set_option maxHeartbeats 400000 in
theorem proof_any (v : Value) (ls : List (List UInt8)) (i : Nat) (w : World) (hg : Glob w) (hB : BB w v ls) (hF : Fit ls) (hi : i < ls.length) :
    Calls Tryd.prog 20 #[v, .int .i64 i] w fun e w' => ∃ v', e = .returned (.tuple #[v', .int .i64 0]) ∧ w'.ownsRow w.heap.size 28 32 v' (Sha.proof ls i).length (sums (Sha.proof ls i)) ∧ Below w.heap.size w w' := by
  obtain ⟨vs, hvs, hS, hel⟩ := id hB
  obtain ⟨ao, cap, rfl⟩ := sl_lit hS
  have hn := hF.1
  have HG := Lib.hid hg
  have HB := Lib.hid hB
  have HF := Lib.hid hF
  clear hg hB hF hS hel hvs
  obtain ⟨n, hN⟩ : ∃ n, n = ls.length := ⟨_, rfl⟩
  rw [← hN] at hi hn HB ⊢
  have HN := Lib.hid hN; clear hN
  go_enter Tryd.func20, Tryd.ntmps20
  go_wp2
  have hd1 : decide (n ≤ i) = false := decide_eq_false (by omega)
  simp only [hd1, Bool.or_false]
  clear hd1
  go_loopw [0, 1, 6] (fun x y o wr => ∃ (l' : List (List UInt8)) (i' : Nat) (acc : List (List UInt8)), Sha.path ls i = acc ++ Sha.path l' i' ∧ (∃ ao cap, x = .slice ao l'.length cap) ∧ BB w x l' ∧ Fit l' ∧ i' < l'.length ∧ l'.length + acc.length ≤ n ∧ y = .int .i64 i' ∧
    wr.ownsRow w.heap.size 28 32 o acc.length (sums acc) ∧ Below w.heap.size w wr) (fun x _ _ _ => slLen x)
  case atStart => exact ⟨ls, i, [], rfl, ⟨ao, cap, by rw [HN.out]⟩, HB.out, HF.out, by have := HN.out; omega, by simp; have := HN.out; omega, rfl, World.ownsRow_nil _ _ _ _, Below.refl _ _⟩
  case round =>
    obtain ⟨l', i', acc, hpath, ⟨ao', cap', rfl⟩, hBB, hF', hi', hle, rfl, hown, hbel⟩ := hrel
    rcases Nat.lt_or_ge l'.length 2 with h2 | h2
    · have hacc : Sha.path ls i = acc := by rw [hpath, Sha.path_one _ h2]; simp
      have hacc32 : Len32 acc := by rw [← hacc]; exact path_len32 _ _ _ rfl
      have hpr : Sha.proof ls i = acc.reverse := by unfold Sha.proof; rw [hacc]
      obtain ⟨n', hN'⟩ : ∃ n', n' = l'.length := ⟨_, rfl⟩
      rw [← hN'] at h2 hle ⊢
      have HP := Lib.hid hpr
      have H32 := Lib.hid hacc32
      have HBel := Lib.hid hbel
      have HOwn := Lib.hid hown
      clear hacc hpr hacc32 hbel hown hpath hBB hF' hi' hN'
      rcases Nat.eq_zero_or_pos acc.length with h0 | h0
      · have hnil : acc = [] := List.length_eq_zero_iff.1 h0
        subst hnil
        have hu : u6 = .slice none 0 0 ∨ ∃ g cp, u6 = .slice (some ⟨g, 0, none⟩) 0 cp := by
          rcases HOwn.out.2 with ⟨h, _⟩ | ⟨g, cp, cur, h, _⟩
          · exact .inl h
          · exact .inr ⟨g, cp, h⟩
        have ho := HOwn.out
        obtain ⟨ao2, cp2, rfl⟩ : ∃ ao cp, u6 = .slice ao 0 cp := by
          rcases hu with h | ⟨g, cp, h⟩
          · exact ⟨none, 0, h⟩
          · exact ⟨_, cp, h⟩
        clear hu h0 ho
        go_wp2_with (go_at_call 39; refine Hid.out ?_)
        refine stop ?_
        refine (reverse_zero ao2 cp2 _).mono ?_
        rintro e w2 ⟨rfl, rfl⟩
        go_wp2
        refine bodyPost_ret (results_tmp2 rfl _ _ _) rfl ⟨_, rfl, ?_, HBel.out⟩
        rw [HP.out]
        exact HOwn.out
      · obtain ⟨k, hk⟩ : ∃ k, acc.length = k + 1 := ⟨acc.length - 1, by omega⟩
        have ho := HOwn.out
        rw [hk] at ho
        obtain ⟨g, cp, rfl, hg1, hg2⟩ := own_succ ho
        rw [← hk] at ho ⊢
        obtain ⟨cu0, hgt⟩ : ∃ cs, wr.heap[g]? = some (.cells cs 28) := by
          rcases ho.2 with ⟨h, _⟩ | ⟨g', cp', cu, h, _, h2, _⟩
          · cases h
          · simp only [Value.slice.injEq, Option.some.injEq, Addr.mk.injEq] at h
            obtain ⟨⟨rfl, _⟩, _⟩ := h
            exact ⟨cu, h2⟩
        obtain ⟨cur, hA, htk, hcap1, hcap2, hcl⟩ := own_arr ho
        have hcur : cur = sums acc ++ cur.drop (acc.length * 32) := by rw [← htk, List.take_append_drop]
        rw [hcur] at hA
        obtain ⟨tl, htl⟩ : ∃ tl, tl = cur.drop (acc.length * 32) := ⟨_, rfl⟩
        rw [← htl] at hA
        have HA := Lib.hid hA
        have htl2 : tl.length = cp * 32 - acc.length * 32 := by rw [htl, List.length_drop, hcl]
        have HTL := Lib.hid htl2
        clear hA hcur htk htl hcl ho hk htl2
        go_wp2_with (go_at_call 39; refine Hid.out ?_)
        refine stop ?_
        refine (reverse_any g cp acc tl _ (by omega) (by omega) hcap2 HA.out H32.out).mono ?_
        rintro e w2 ⟨rfl, hA2, hgr, hst⟩
        have HT := Lib.hid (hst _ _ hgt)
        clear hst hgt
        have HB2 := Lib.hid (HBel.out.grown hgr HBel.out.size (by intro k hk; cases hk; exact hg1))
        have HA2 := Lib.hid hA2
        clear hA2 hgr
        go_wp2
        refine bodyPost_ret (results_tmp2 rfl _ _ _) rfl ⟨_, rfl, ?_, HB2.out⟩
        have hl : (Sha.proof ls i).length = acc.length := by rw [HP.out, List.length_reverse]
        rw [hl, HP.out]
        obtain ⟨cs', hcs'⟩ := HT.out
        obtain ⟨T0, hT0⟩ := HA2.out
        have hee := hT0.symm.trans hcs'
        simp only [Option.some.injEq, Obj.cells.injEq] at hee
        obtain ⟨hc0, rfl, _⟩ := hee
        have hls : (sums acc.reverse).length = acc.length * 32 := by rw [sums_length H32.out.reverse, List.length_reverse]
        refine ⟨hls, .inr ⟨g, cp, _, rfl, hg1, hT0, hcap1, ?_, ?_, ?_⟩⟩
        · unfold maxLen; omega
        · have := HTL.out; simp [hls]; omega
        · simp [hls]
    · obtain ⟨b, off, rfl⟩ : ∃ b off, ao' = some ⟨b, off, none⟩ := by
        obtain ⟨vs, hvs, hS, hel⟩ := hBB
        obtain ⟨b, o, cap, e, _⟩ := sl_addr hS (by omega)
        simp only [Value.slice.injEq] at e
        exact ⟨b, o, e.1⟩
      have hcap : l'.length ≤ cap' ∧ cap' ≤ 9223372036854775807 := by
        obtain ⟨vs, hvs, hS, hel⟩ := hBB
        obtain ⟨b, o, cap, e, h1, h2, _⟩ := sl_addr hS (by omega)
        simp only [Value.slice.injEq] at e
        obtain ⟨_, _, rfl⟩ := e
        exact ⟨h1, h2⟩
      have hn' := hF'.1
      have c1 := Sha.cut_lt h2
      have c0 := Sha.cut_pos l'.length
      rcases Nat.lt_or_ge i' (Sha.cut l'.length) with hlt | hge
      · have hp := Sha.path_low h2 hlt
        have hBd := bb_drop hBB (Sha.cut l'.length) (by omega)
        have hBt := bb_take hBB (Sha.cut l'.length) (by omega)
        have HP := Lib.hid hp
        have HBd := Lib.hid hBd
        have HBt := Lib.hid hBt
        have HF' := Lib.hid hF'
        have HPath := Lib.hid hpath
        have HOwn := Lib.hid hown
        have HBel := Lib.hid hbel
        have HLe := Lib.hid hle
        clear hp hBd hBt hF' hpath hown hbel hBB hle
        obtain ⟨n', hN'⟩ : ∃ n', n' = l'.length := ⟨_, rfl⟩
        obtain ⟨m, hM⟩ : ∃ m, m = Sha.cut n' := ⟨_, rfl⟩
        rw [← hN'] at hi' h2 hn' c1 c0 hlt hcap HP HBd HBt HLe ⊢
        rw [← hM] at c1 c0 hlt HP HBd HBt
        have HM := Lib.hid hM
        have HN' := Lib.hid hN'
        clear hM hN'
        obtain ⟨hc1, hc2⟩ := hcap
        go_wp2_with (go_at_call 38; refine Hid.out ?_)
        refine stop ?_
        refine (cut_any n' _ h2 (by omega)).mono ?_
        rintro e w1 ⟨rfl, rfl⟩
        rw [← HM.out]
        go_wp2_with (go_at_call 18; refine Hid.out ?_)
        refine stop ?_
        refine (root_any _ _ _ _ rfl (HG.out.below' HBel.out) (HBd.out.below HBel.out) (HF'.out.drop m)).mono ?_
        rintro e w1 ⟨rfl, hb1⟩
        have HO1 := Lib.hid (own_below HOwn.out hb1)
        go_wp2_with (first | refine wpList_build_one elSum rfl _ rfl _ rfl (by rw [root_length]) (by omega) ?_ | (at_builtin; refine Hid.out ?_))
        refine stop ?_
        have HA1 := Lib.hid (Arr.new w1 (u8s (Sha.root (l'.drop m))) 28)
        refine wpList_push elSum rfl _ _ rfl w.heap.size _ acc.length (sums acc) rfl (own_below HO1.out ((Below.refl _ _).alloc (Nat.le_refl _) _)) _ rfl _ HA1.out (by rw [root_length]) (u8s_one _) (by have := HLe.out; omega) (by have := HLe.out; omega) (by have := HBel.out.size; have := hb1.size; simp; omega) ?_
        intro g' cp w2 hown2 hg2 hb2 hlt2
        have hB2 : Below w.heap.size w w2 := ((HBel.out.trans (hb1.mono HBel.out.size)).alloc (Nat.le_trans HBel.out.size hb1.size) _).grown hg2 (by have := HBel.out.size; have := hb1.size; simp; omega) (fun k hk => (HO1.out.lt k hk).1)
        have HB2 := Lib.hid hB2
        have HO2 := Lib.hid hown2
        clear hB2 hown2 hg2 HA1 HO1 hb1 hlt2 hb2 HOwn HBel
        go_wp2
        go_roundw
        case rel =>
          have e1 := HN'.out
          have hlk : (l'.take m).length = m := by simp; omega
          refine ⟨l'.take m, i', acc ++ [Sha.root (l'.drop m)], by rw [HPath.out, HP.out]; simp, ⟨_, _, by rw [hlk]⟩, HBt.out, HF'.out.take m, by rw [hlk]; omega, by rw [hlk, List.length_append]; have := HLe.out; simp; omega, by go_num, ?_, HB2.out⟩
          have := HO2.out
          rw [← sums_snoc] at this
          simpa using this
        case measure => simp [slLen]; omega
      · have hp := Sha.path_high h2 hge
        have hBd := bb_drop hBB (Sha.cut l'.length) (by omega)
        have hBt := bb_take hBB (Sha.cut l'.length) (by omega)
        have HP := Lib.hid hp
        have HBd := Lib.hid hBd
        have HBt := Lib.hid hBt
        have HF' := Lib.hid hF'
        have HPath := Lib.hid hpath
        have HOwn := Lib.hid hown
        have HBel := Lib.hid hbel
        have HLe := Lib.hid hle
        clear hp hBd hBt hF' hpath hown hbel hBB hle
        obtain ⟨n', hN'⟩ : ∃ n', n' = l'.length := ⟨_, rfl⟩
        obtain ⟨m, hM⟩ : ∃ m, m = Sha.cut n' := ⟨_, rfl⟩
        rw [← hN'] at hi' h2 hn' c1 c0 hge hcap HP HBd HBt HLe ⊢
        rw [← hM] at c1 c0 hge HP HBd HBt
        have HM := Lib.hid hM
        have HN' := Lib.hid hN'
        clear hM hN'
        obtain ⟨hc1, hc2⟩ := hcap
        go_wp2_with (go_at_call 38; refine Hid.out ?_)
        refine stop ?_
        refine (cut_any n' _ h2 (by omega)).mono ?_
        rintro e w1 ⟨rfl, rfl⟩
        rw [← HM.out]
        go_wp2_with (go_at_call 18; refine Hid.out ?_)
        refine stop ?_
        refine (root_any _ _ _ _ rfl (HG.out.below' HBel.out) (HBt.out.below HBel.out) (HF'.out.take m)).mono ?_
        rintro e w1 ⟨rfl, hb1⟩
        have HO1 := Lib.hid (own_below HOwn.out hb1)
        go_wp2_with (first | refine wpList_build_one elSum rfl _ rfl _ rfl (by rw [root_length]) (by omega) ?_ | (at_builtin; refine Hid.out ?_))
        refine stop ?_
        have HA1 := Lib.hid (Arr.new w1 (u8s (Sha.root (l'.take m))) 28)
        refine wpList_push elSum rfl _ _ rfl w.heap.size _ acc.length (sums acc) rfl (own_below HO1.out ((Below.refl _ _).alloc (Nat.le_refl _) _)) _ rfl _ HA1.out (by rw [root_length]) (u8s_one _) (by have := HLe.out; omega) (by have := HLe.out; omega) (by have := HBel.out.size; have := hb1.size; simp; omega) ?_
        intro g' cp w2 hown2 hg2 hb2 hlt2
        have hB2 : Below w.heap.size w w2 := ((HBel.out.trans (hb1.mono HBel.out.size)).alloc (Nat.le_trans HBel.out.size hb1.size) _).grown hg2 (by have := HBel.out.size; have := hb1.size; simp; omega) (fun k hk => (HO1.out.lt k hk).1)
        have HB2 := Lib.hid hB2
        have HO2 := Lib.hid hown2
        clear hB2 hown2 hg2 HA1 HO1 hb1 hlt2 hb2 HOwn HBel
        go_wp2
        go_roundw
        case rel =>
          have e1 := HN'.out
          have hlk : (l'.drop m).length = n' - m := by simp; omega
          refine ⟨l'.drop m, i' - m, acc ++ [Sha.root (l'.take m)], by rw [HPath.out, HP.out]; simp, ⟨_, _, by rw [hlk]⟩, HBd.out, HF'.out.drop m, by rw [hlk]; omega, by rw [hlk, List.length_append]; have := HLe.out; simp; omega, by go_num, ?_, HB2.out⟩
          have := HO2.out
          rw [← sums_snoc] at this
          simpa using this
        case measure => simp [slLen]; omega
end Go.Proofs.YtmindblfbijaaaaDoor
