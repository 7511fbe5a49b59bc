/-
  Walks: the fixed examples.
-/
import Derived.Test.YtmindblfbijaaaaDoorRows
import Derived.WalkKit
import Derived.WalkSpells
import Derived.WalkLawsBesides
import Derived.BigQuiet
import Derived.Deep.QuietTactic
import Derived.Deep.RegionHeld3
import Derived.Deep.DeepCutAuto
import Derived.Deep.LoopGhost
import Derived.StillTailTactics
import Derived.Lib.Hide
import Derived.Handy
import Derived.Test.YtmindblfbijaaaaDoorCheck
import Derived.Test.YtmindblfbijaaaaDoorHex
import Derived.Test.YtmindblfbijaaaaDoorProof
import Derived.Lib.SlBytesConst
import Derived.Test.YtmindblfbijaaaaDoorAbc
namespace Go.Proofs.YtmindblfbijaaaaDoor
open Go.RowKit
theorem wpQuiet_load_cells {P : Program} {ops : Array Oper} {C : World → Prop} {Q : Act → Prop} {a : Act} {o : Oper} {rest : List Oper} (hw : Region.wanted o (yielded ops a.tmps) = true) (ty : TypeId) (x : Operand) (ho : o.op = .load ty x) (g off : Nat) (hx : a.eval x = .pointer (some ⟨g, off, none⟩))
    (cs : List Value) (hT : AggT P ty cs.length) (hc : ∀ w, C w → ∀ j v, cs[j]? = some v → w.cell? ⟨g, off + j, none⟩ = some v) (h : wpQuiet P ops C Q rest (a.put o.dst (.agg cs.toArray))) : wpQuiet P ops C Q (o :: rest) a := by
  refine BigFrame.wpQuiet_want hw fun K hK => ⟨.agg cs.toArray, fun w hCw => ?_, hK _ h⟩
  have hl : (loadCells ⟨g, off, none⟩ cs.length).run P w = .ok cs.toArray w :=
    run_loadCells_list (P := P) w ⟨g, off, none⟩ cs (fun j v hv => by rw [addr_add]; exact hc w hCw j v hv)
  unfold Oper.quietAt
  have : (execOp a.eval o).run P w = .ok (.value (.agg cs.toArray)) w := by
    simp only [execOp, ho, hx]
    simp [Instr.loadAt, Instr.sureAddr, loadVar, Sem.run_bind, hT.1, run_sizeOf hT.2, hl, Result.andThen]
  rw [this]
  exact ⟨rfl, rfl⟩
theorem sl_new (w : World) {n : Nat} (hn : n = w.heap.size) (cs : List Value) (T : TypeId) (fr : Nat × Nat) (h : cs.length ≤ 1000000) : Sl (w.alloc (.cells cs.toArray T fr)) (.slice (some ⟨n, 0, none⟩) cs.length cs.length) cs.length cs := by
  subst hn
  refine ⟨_, _, rfl, Nat.le_refl _, by omega, fun e => (by cases e), fun b o s e => ?_⟩
  simp only [Option.some.injEq, Addr.mk.injEq] at e
  obtain ⟨rfl, rfl, rfl⟩ := e
  refine ⟨rfl, fun j u hj => ?_⟩
  have hb : (w.alloc (.cells cs.toArray T fr)).heap[w.heap.size]? = some (.cells cs.toArray T fr) := heap_alloc_new w _
  rw [Nat.zero_add]
  simp only [World.cell?, hb]
  simpa using hj
theorem conv_const (w : World) (C : Array Value) (n c : Nat) :
    (convert 22 22 (.slice (some ⟨w.heap.size, 0, none⟩) n c)).run Tryd.prog (w.alloc (.cells C 5)) = .ok (.slice (some ⟨w.heap.size, 0, none⟩) n c) (w.alloc (.cells C 5 (C.size, C.size + 1))) :=
  Lib.run_convert_bytes_const w _ _ C n c Tryd.underlying22 (by kernel_rfl)
set_option maxHeartbeats 400000 in
theorem sanity_any (w : World) (hg : Glob w) :
    Calls Tryd.prog 10 #[] w fun e w' => e = .returned (.bool true) ∧ Below w.heap.size w w' := by
  have HG := Lib.hid hg; clear hg
  have q1 := conv_const w #[.int .u8 97] 1 1
  have q2 := conv_const (w.alloc (.cells #[.int .u8 97] 5 (1, 1 + 1))) #[.int .u8 98] 1 1
  have q3 := conv_const ((w.alloc (.cells #[.int .u8 97] 5 (1, 1 + 1))).alloc (.cells #[.int .u8 98] 5 (1, 1 + 1))) #[.int .u8 99] 1 1
  simp only [World.size_alloc, List.size_toArray, List.length_cons, List.length_nil, Nat.zero_add] at q1 q2 q3
  go_enter Tryd.func10, Tryd.ntmps10
  go_wp2_with (go_at_call 20; refine Hid.out ?_)
  refine stop ?_
  clear q1 q2 q3
  obtain ⟨W0, hW0⟩ : ∃ W : World, W = ((((w.alloc (.cells (u8s [97]).toArray 5 (1, 2))).alloc (.cells (u8s [98]).toArray 5 (1, 2))).alloc (.cells (u8s [99]).toArray 5 (1, 2))).alloc (.cells #[.slice (some ⟨w.heap.size, 0, none⟩) 1 1, .slice (some ⟨w.heap.size + 1, 0, none⟩) 1 1, .slice (some ⟨w.heap.size + 1 + 1, 0, none⟩) 1 1] 22)) := ⟨_, rfl⟩
  have hB0 : Below w.heap.size w W0 := by rw [hW0]; exact (((((Below.refl _ _).alloc (Nat.le_refl _) _).alloc (by simp) _).alloc (by simp <;> omega) _).alloc (by simp <;> omega) _)
  have hL0 : Arr W0 (w.heap.size + 1 + 1 + 1) [.slice (some ⟨w.heap.size, 0, none⟩) 1 1, .slice (some ⟨w.heap.size + 1, 0, none⟩) 1 1, .slice (some ⟨w.heap.size + 1 + 1, 0, none⟩) 1 1] := by rw [hW0]; exact Arr.newAt (by simp) [_, _, _] _
  have hSc : Sl W0 (.slice (some ⟨w.heap.size + 1 + 1, 0, none⟩) 1 1) 1 (u8s [99]) := by rw [hW0]; exact (sl_new _ (by simp) (u8s [99]) _ _ (by decide)).below ((Below.refl _ _).alloc (Nat.le_refl _) _)
  have hBB0 : BB W0 (.slice (some ⟨w.heap.size + 1 + 1 + 1, 0, none⟩) 3 3) abc := by
    refine bb_three hL0 ?_ ?_ hSc
    · rw [hW0]; exact (sl_new w rfl (u8s [97]) _ _ (by decide)).below ((((Below.refl _ _).alloc (Nat.le_refl _) _).alloc (by simp) _).alloc (by simp <;> omega) _)
    · rw [hW0]; exact (sl_new _ (by simp) (u8s [98]) _ _ (by decide)).below (((Below.refl _ _).alloc (Nat.le_refl _) _).alloc (by simp) _)
  change Calls _ _ _ ((((w.alloc (.cells (u8s [97]).toArray 5 (1, 2))).alloc (.cells (u8s [98]).toArray 5 (1, 2))).alloc (.cells (u8s [99]).toArray 5 (1, 2))).alloc (.cells #[.slice (some ⟨w.heap.size, 0, none⟩) 1 1, .slice (some ⟨w.heap.size + 1, 0, none⟩) 1 1, .slice (some ⟨w.heap.size + 1 + 1, 0, none⟩) 1 1] 22)) _
  rw [← hW0]
  have HB0 := Lib.hid hB0
  have HL0 := Lib.hid hL0
  have HSc := Lib.hid hSc
  have HBB0 := Lib.hid hBB0
  clear hW0 hB0 hL0 hSc hBB0
  have hfit : Fit abc := ⟨by decide, by decide⟩
  refine (proof_any _ abc 2 _ (HG.out.below' HB0.out) HBB0.out hfit (by decide)).mono ?_
  rintro e W1 ⟨v', rfl, hown, hb1⟩
  rw [proof_abc] at hown
  obtain ⟨g, cap, rfl, hg1, hg2⟩ := own_succ hown
  obtain ⟨cur, hAp, htk, hcap1, hcap2, _⟩ := own_arr hown
  have HP := Lib.hid (own_sl hown)
  have HB1 := Lib.hid (HB0.out.trans (hb1.mono HB0.out.size))
  have HL1 := Lib.hid (HL0.out.below' hb1)
  have HS1 := Lib.hid (HSc.out.below hb1)
  have HBB1 := Lib.hid (HBB0.out.below hb1)
  clear hb1 hown hg1 hg2 hAp htk hcap1 HB0 HL0 HSc HBB0
  go_wp2_with (go_at_call 20; refine Hid.out ?_)
  refine stop ?_
  refine (proof_err _ abc 3 _ HBB1.out (by decide) (by decide)).mono ?_
  rintro e W1' ⟨rfl, rfl⟩
  go_wp2_with (go_at_call 12; refine Hid.out ?_)
  refine stop ?_
  refine (sum_any (.slice none 0 0) [] _ (HG.out.below' HB1.out) ⟨none, 0, rfl, Nat.le_refl _, by omega, fun _ => rfl, fun b o s e => by cases e⟩ (by simp)).mono ?_
  rintro e W2 ⟨rfl, hb2⟩
  have HB2 := Lib.hid (HB1.out.trans (hb2.mono HB1.out.size))
  have HL2 := Lib.hid (HL1.out.below' hb2)
  have HS2 := Lib.hid (HS1.out.below hb2)
  have HBB2 := Lib.hid (HBB1.out.below hb2)
  have HP2 := Lib.hid (HP.out.below hb2)
  clear hb2 HB1 HL1 HS1 HBB1 HP
  go_wp2_with (go_at_call 28; refine Hid.out ?_)
  refine stop ?_
  refine (hex_any _ _ (Sha.sum_len _)).mono ?_
  rintro e W3 ⟨rfl, hb3⟩
  rw [hex_nil]
  have HB3 := Lib.hid (HB2.out.trans (hb3.mono HB2.out.size))
  have HL3 := Lib.hid (HL2.out.below' hb3)
  have HS3 := Lib.hid (HS2.out.below hb3)
  have HBB3 := Lib.hid (HBB2.out.below hb3)
  have HP3 := Lib.hid (HP2.out.below hb3)
  clear hb3 HB2 HL2 HS2 HBB2 HP2
  have q4 := conv_const W3 #[.int .u8 97, .int .u8 98, .int .u8 99] 3 3
  simp only [List.size_toArray, List.length_cons, List.length_nil, Nat.zero_add] at q4
  go_wp2_with (go_at_call 12; refine Hid.out ?_)
  refine stop ?_
  refine (sum_any _ [97, 98, 99] _ (HG.out.below' (HB3.out.alloc HB3.out.size _)) (sl_new W3 rfl (u8s [97, 98, 99]) _ _ (by decide)) (by simp)).mono ?_
  rintro e W4 ⟨rfl, hb4⟩
  have hb4' : Below W3.heap.size W3 W4 := ((Below.refl _ _).alloc (Nat.le_refl _) _).trans (hb4.mono (by simp))
  have HB4 := Lib.hid (HB3.out.trans (hb4'.mono HB3.out.size))
  have HL4 := Lib.hid (HL3.out.below' hb4')
  have HS4 := Lib.hid (HS3.out.below hb4')
  have HBB4 := Lib.hid (HBB3.out.below hb4')
  have HP4 := Lib.hid (HP3.out.below hb4')
  clear hb4 hb4' HB3 HL3 HS3 HBB3 HP3 q4
  go_wp2_with (go_at_call 28; refine Hid.out ?_)
  refine stop ?_
  refine (hex_any _ _ (Sha.sum_len _)).mono ?_
  rintro e W5 ⟨rfl, hb5⟩
  rw [hex_abc]
  have HB5 := Lib.hid (HB4.out.trans (hb5.mono HB4.out.size))
  have HL5 := Lib.hid (HL4.out.below' hb5)
  have HS5 := Lib.hid (HS4.out.below hb5)
  have HBB5 := Lib.hid (HBB4.out.below hb5)
  have HP5 := Lib.hid (HP4.out.below hb5)
  clear hb5 HB4 HL4 HS4 HBB4 HP4
  go_wp2
  have h32 : Len32 abcProof := by intro x hx; simp only [abcProof, List.mem_singleton] at hx; subst hx; exact Sha.pair_len _ _
  have KR := Lib.hid (fun d : BelowT W5.heap.size W5 => calls_bt (Nat.le_refl _) d (root_any _ abc _ d.1 rfl ((HG.out.below' HB5.out).below' d.2) (HBB5.out.below d.2) hfit))
  have KH := Lib.hid (fun (l : List UInt8) (hl : l.length = 32) (d : BelowT W5.heap.size W5) => calls_bt (Nat.le_refl _) d (hex_any l d.1 hl))
  have KC := Lib.hid (fun (i : Int) (d : BelowT W5.heap.size W5) => calls_bt (Nat.le_refl _) d (check_any (Sha.root abc) [99] 3 i abcProof _ _ d.1 (Sha.root_len _) (by decide) ((HG.out.below' HB5.out).below' d.2) (HS5.out.below d.2) (HP5.out.below d.2) h32 (by decide) (by decide)))
  have hl2 : ∀ d : BelowT W5.heap.size W5, d.1.cell? ⟨w.heap.size + 1 + 1 + 1, 2, none⟩ = some (.slice (some ⟨w.heap.size + 1 + 1, 0, none⟩) 1 1) := fun d => (HL5.out.below' d.2).cell rfl
  refine wp_region_qb (by kernel_rfl) (by kernel_rfl) ?_
  go_big_quiet_step (fail)
  go_big_quiet_step (fail)
  go_big_quiet_step (fail)
  go_big_quiet_step (exact KR.out _)
  go_big_quiet_step (exact KH.out _ (Sha.root_len _) _)
  rw [hex_root]
  repeat (go_big_quiet_step (fail))
  refine wpQuiet_load_cells rfl _ _ rfl g 0 rfl (u8s (Sha.pair (Sha.leaf [97]) (Sha.leaf [98]))) (by rw [u8s_length, Sha.pair_len]; exact agg32) (fun w' hw' j v hv => ?_) ?_
  · obtain ⟨d, rfl⟩ := hw'
    obtain ⟨ao, c, e, _, _, _, h5⟩ := HP5.out
    simp only [Value.slice.injEq] at e
    obtain ⟨rfl, _, _⟩ := e
    have hc := (h5 _ _ _ rfl).2 j v (by rw [abcProof, sums_one]; exact hv)
    exact (d.2.cell (block_lt_of_cell hc)).trans hc
  simp only [Act.put, List.setIfInBounds_toArray, List.set_cons_zero, List.set_cons_succ]
  go_big_quiet_step (exact KH.out _ (Sha.pair_len _ _) _)
  rw [hex_proof]
  repeat (go_big_quiet_step (exact KR.out _))
  go_big_quiet_step (exact KC.out 2 _)
  rw [check_abc]
  repeat (go_big_quiet_step (exact KR.out _))
  go_big_quiet_step (exact KC.out 1 _)
  rw [check_abc1]
  repeat (go_big_quiet_step (fail))
  refine wpQuiet_nil ?_
  intro W6 hb6
  have HB6 := Lib.hid (HB5.out.trans (hb6.mono HB5.out.size))
  clear hb6 hl2 h32 KR KH KC
  go_wp2
  exact bodyPost_ret (results_tmp rfl _ _ _) rfl ⟨rfl, HB6.out⟩
end Go.Proofs.YtmindblfbijaaaaDoor
