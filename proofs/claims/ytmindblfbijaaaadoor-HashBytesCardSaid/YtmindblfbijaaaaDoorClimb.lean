/-
  Walks: the climb from a leaf.
-/
import Derived.Test.YtmindblfbijaaaaDoorRows
import Derived.WalkKit
import Derived.WalkSpells
import Derived.WalkLawsBesides
import Derived.BigQuiet
import Derived.Deep.QuietTactic
import Derived.Deep.RegionHeld3
import Derived.Deep.DeepCutAuto
import Derived.Deep.LoopGhost
import Derived.StillTailTactics
import Derived.Lib.Hide
import Derived.Handy
import Derived.Test.YtmindblfbijaaaaDoorRoot
import Derived.Test.YtmindblfbijaaaaDoorSums
import Derived.Test.YtmindblfbijaaaaDoorPut
namespace Go.Proofs.YtmindblfbijaaaaDoor
open Go.RowKit
theorem len32_nil : Len32 [] := fun _ h => by cases h
theorem split_last (p : List (List UInt8)) (h : 0 < p.length) : ∃ q x, p = q ++ [x] := by
  rcases List.eq_nil_or_concat p with h' | ⟨q, x, h'⟩
  · subst h'; simp at h
  · exact ⟨q, x, by simpa using h'⟩
theorem climb_one (b : List UInt8) (r : List (List UInt8)) (i : Nat) : Sha.climb b r 1 i = (Sha.leaf b, r.length == 0) := by
  cases r <;> simp [Sha.climb]
theorem bodyPost_cells_tmp {P : Program} {a : Act} {w : World} {fn : Func} {R : Ending → World → Prop} {p t : Tmp} {ty : TypeId} (hr : fn.results = #[.cell p ty, .tmp t]) (hdef : a.defers = []) (g : Nat) (hp : a.tmps.getD p undef = .pointer (some ⟨g, 0, none⟩))
    (cs : List Value) (hA : Arr w g cs) (hT : AggT P ty cs.length) (h : R (.returned (.tuple #[.agg cs.toArray, a.tmps.getD t undef])) w) : bodyPost P fn R .ret a w := by
  refine bodyPost_ret (v := .tuple #[.agg cs.toArray, a.tmps.getD t undef]) ?_ hdef h
  have hl : (loadCells ⟨g, 0, none⟩ cs.length).run P w = .ok cs.toArray w :=
    run_loadCells_list (P := P) w ⟨g, 0, none⟩ cs (fun j v hv => by rw [addr_add, Nat.zero_add]; exact hA.cell hv)
  have hp' : a.tmps[p]?.getD undef = .pointer (some ⟨g, 0, none⟩) := by simpa using hp
  simp [results, hr, hp', asAddr, loadVar, Sem.run_bind, hT.1, run_sizeOf hT.2, hl, Result.andThen]
theorem beq_false {a b : Int} (h : a ≠ b) : (a == b) = false := by simpa using h
set_option maxHeartbeats 400000 in
theorem climb_any (b : List UInt8) (B3 B4 : Nat) (bv : Value) (hb : b.length ≤ 900000) : ∀ (k : Nat) (p : List (List UInt8)) (pv : Value) (n i : Nat) (w : World), p.length = k → Glob w → Arr w B3 [bv] → Sl w bv b.length (u8s b) →
    Arr w B4 [.func (.func 40) #[] #[.pointer (some ⟨B3, 0, none⟩), .pointer (some ⟨B4, 0, none⟩)]] → Sl w pv p.length (sums p) → Len32 p → p.length ≤ 1000000 → 1 ≤ n → n ≤ 4294967296 → i < n →
    Calls Tryd.prog 40 #[.int .i64 n, .int .i64 i, pv, .pointer (some ⟨B3, 0, none⟩), .pointer (some ⟨B4, 0, none⟩)] w fun e w' =>
      e = .returned (.tuple #[.agg (u8s (Sha.climb b p.reverse n i).1).toArray, .bool (Sha.climb b p.reverse n i).2]) ∧ Below w.heap.size w w' := by
  intro k
  induction k using Nat.strongRecOn with
  | _ k ih =>
  intro p pv n i w hk hg h3 hS h4 hP h32 hpn hn1 hn2 hin
  obtain ⟨ao, cap, rfl⟩ := sl_lit hP
  obtain ⟨bao, bcap, rfl⟩ := sl_lit hS
  have hc3 := h3.cell (i := 0) rfl
  have hc4 := h4.cell (i := 0) rfl
  by_cases h1 : n = 1
  · subst h1
    have hc3' : ∀ o', (w.alloc o').cell? ⟨B3, 0, none⟩ = some (.slice bao b.length bcap) := fun o' => (((Below.refl w.heap.size w).alloc (Nat.le_refl _) o').cell (block_lt_of_cell hc3)).trans hc3
    have hrl : p.reverse.length = p.length := List.length_reverse
    obtain ⟨L, hL⟩ : ∃ L, L = p.length := ⟨_, rfl⟩
    rw [← hL] at hP hpn hrl ⊢
    by_cases h0 : L = 0
    · subst h0
      have HR := Lib.hid (show Sha.climb b p.reverse 1 i = (Sha.leaf b, true) by rw [climb_one, hrl]; rfl)
      have HG := Lib.hid hg
      have H3 := Lib.hid h3
      have HS := Lib.hid hS
      clear hP h32 ih hk hg h3 hS h4
      clear hrl hL
      go_enter Tryd.func40, Tryd.ntmps40
      go_wp2_with (go_at_call 14; refine Hid.out ?_)
      refine stop ?_
      refine (leaf_any _ b _ (HG.out.below' ((Below.refl _ _).alloc (Nat.le_refl _) _)) (HS.out.below ((Below.refl _ _).alloc (Nat.le_refl _) _)) hb).mono ?_
      rintro e W ⟨rfl, hb2⟩
      have el : Sha.sum (0 :: b) = Sha.leaf b := rfl
      rw [el]
      have HA8 := Lib.hid ((Arr.new w (u8s (List.replicate 32 0)) _).below' hb2)
      have HB := Lib.hid (((Below.refl w.heap.size w).alloc (Nat.le_refl _) _).trans (hb2.mono (by simp)))
      clear hb2 el
      go_wp2_with (refine wpList_store_cells rfl rfl _ _ _ rfl _ 0 rfl (u8s (Sha.leaf b)) rfl (by rw [u8s_length, Sha.leaf_len]; exact agg32.2) (u8s_one _) _ HA8.out (by rw [u8s_length, u8s_length, List.length_replicate, Sha.leaf_len]; decide) ?_; intro w4 hA3 hG3; replace hA3 := Lib.hid hA3; replace hG3 := Lib.hid hG3)
      have hA4 := hA3.out
      rw [lay_whole _ _ (by rw [u8s_length, u8s_length, List.length_replicate, Sha.leaf_len])] at hA4
      refine bodyPost_cells_tmp rfl rfl w.heap.size rfl _ hA4 (by rw [u8s_length, Sha.leaf_len]; exact agg32) ⟨?_, HB.out.grown hG3.out HB.out.size (by intro k hk; cases hk; exact Nat.le_refl _)⟩
      rw [HR.out]
      rfl
    · have e2 : ((L : Int) == 0) = false := beq_false (by omega)
      have HR := Lib.hid (show Sha.climb b p.reverse 1 i = (Sha.leaf b, false) by rw [climb_one, hrl]; simp [h0])
      have HG := Lib.hid hg
      have H3 := Lib.hid h3
      have HS := Lib.hid hS
      clear hP h32 ih hk hg h3 hS h4
      clear hrl hL
      go_enter Tryd.func40, Tryd.ntmps40
      go_wp2_with (go_at_call 14; refine Hid.out ?_)
      refine stop ?_
      refine (leaf_any _ b _ (HG.out.below' ((Below.refl _ _).alloc (Nat.le_refl _) _)) (HS.out.below ((Below.refl _ _).alloc (Nat.le_refl _) _)) hb).mono ?_
      rintro e W ⟨rfl, hb2⟩
      have el : Sha.sum (0 :: b) = Sha.leaf b := rfl
      rw [el]
      have HA8 := Lib.hid ((Arr.new w (u8s (List.replicate 32 0)) _).below' hb2)
      have HB := Lib.hid (((Below.refl w.heap.size w).alloc (Nat.le_refl _) _).trans (hb2.mono (by simp)))
      clear hb2 el
      go_wp2_with (refine wpList_store_cells rfl rfl _ _ _ rfl _ 0 rfl (u8s (Sha.leaf b)) rfl (by rw [u8s_length, Sha.leaf_len]; exact agg32.2) (u8s_one _) _ HA8.out (by rw [u8s_length, u8s_length, List.length_replicate, Sha.leaf_len]; decide) ?_; intro w4 hA3 hG3; replace hA3 := Lib.hid hA3; replace hG3 := Lib.hid hG3)
      have hA4 := hA3.out
      rw [lay_whole _ _ (by rw [u8s_length, u8s_length, List.length_replicate, Sha.leaf_len])] at hA4
      refine bodyPost_cells_tmp rfl rfl w.heap.size rfl _ hA4 (by rw [u8s_length, Sha.leaf_len]; exact agg32) ⟨?_, HB.out.grown hG3.out HB.out.size (by intro k hk; cases hk; exact Nat.le_refl _)⟩
      rw [HR.out]
      rfl
  · rcases Nat.eq_zero_or_pos p.length with h0 | h0
    · have hpn0 : p = [] := List.length_eq_zero_iff.1 h0
      subst hpn0
      have hc3' : ∀ o', (w.alloc o').cell? ⟨B3, 0, none⟩ = some (.slice bao b.length bcap) := fun o' => (((Below.refl w.heap.size w).alloc (Nat.le_refl _) o').cell (block_lt_of_cell hc3)).trans hc3
      have e1 : ((n : Int) == 1) = false := beq_false (by omega)
      have e3 : (n == 1) = false := by simpa using h1
      have HR := Lib.hid (show Sha.climb b [].reverse n i = (Sha.leaf b, false) by simp [Sha.climb, h1])
      have HG := Lib.hid hg
      have H3 := Lib.hid h3
      have HS := Lib.hid hS
      clear hP h32 ih hk hg h3 hS h4
      simp only [List.length_nil]
      go_enter Tryd.func40, Tryd.ntmps40
      go_wp2_with (go_at_call 14; refine Hid.out ?_)
      refine stop ?_
      refine (leaf_any _ b _ (HG.out.below' ((Below.refl _ _).alloc (Nat.le_refl _) _)) (HS.out.below ((Below.refl _ _).alloc (Nat.le_refl _) _)) hb).mono ?_
      rintro e W ⟨rfl, hb2⟩
      have el : Sha.sum (0 :: b) = Sha.leaf b := rfl
      rw [el]
      have HA8 := Lib.hid ((Arr.new w (u8s (List.replicate 32 0)) _).below' hb2)
      have HB := Lib.hid (((Below.refl w.heap.size w).alloc (Nat.le_refl _) _).trans (hb2.mono (by simp)))
      clear hb2 el
      go_wp2_with (refine wpList_store_cells rfl rfl _ _ _ rfl _ 0 rfl (u8s (Sha.leaf b)) rfl (by rw [u8s_length, Sha.leaf_len]; exact agg32.2) (u8s_one _) _ HA8.out (by rw [u8s_length, u8s_length, List.length_replicate, Sha.leaf_len]; decide) ?_; intro w4 hA3 hG3; replace hA3 := Lib.hid hA3; replace hG3 := Lib.hid hG3)
      have hA4 := hA3.out
      rw [lay_whole _ _ (by rw [u8s_length, u8s_length, List.length_replicate, Sha.leaf_len])] at hA4
      refine bodyPost_cells_tmp rfl rfl w.heap.size rfl _ hA4 (by rw [u8s_length, Sha.leaf_len]; exact agg32) ⟨?_, HB.out.grown hG3.out HB.out.size (by intro k hk; cases hk; exact Nat.le_refl _)⟩
      rw [HR.out]
      rfl
    · obtain ⟨q, x, rfl⟩ : ∃ q x, p = q ++ [x] := split_last p h0
      obtain ⟨m, hM⟩ : ∃ m, m = Sha.cut n := ⟨_, rfl⟩
      have h2 : 2 ≤ n := by omega
      have c1 := Sha.cut_lt h2
      have c0 := Sha.cut_pos n
      rw [← hM] at c1 c0
      have hk' : q.length < k := by rw [← hk]; simp
      have hrev : (q ++ [x]).reverse = x :: q.reverse := by simp
      have hx32 : x.length = 32 := h32 x (by simp)
      have hq32 : Len32 q := fun y hy => h32 y (by simp [hy])
      obtain ⟨L, hL⟩ : ∃ L, L = q.length := ⟨_, rfl⟩
      have hP' : (q ++ [x]).length = L + 1 := by rw [hL]; simp
      rw [hP'] at hP hpn h0 ⊢
      rw [hrev]
      have ihq := ih q.length hk' q
      have hcapP : L + 1 ≤ cap ∧ cap ≤ 9223372036854775807 := by
        obtain ⟨ao', cap', e, g1, g2, _⟩ := hP
        simp only [Value.slice.injEq] at e
        obtain ⟨_, _, rfl⟩ := e
        exact ⟨g1, g2⟩
      obtain ⟨hcap1, hcap2⟩ := hcapP
      have hPq := sl_take hP L (L * 32) (by omega)
      have hsq : (sums (q ++ [x])).take (L * 32) = sums q := by
        rw [sums_snoc, List.take_append_of_le_length (by rw [sums_length hq32, hL]; omega), List.take_of_length_le (by rw [sums_length hq32, hL]; omega)]
      rw [hsq] at hPq
      obtain ⟨pb, po, rfl⟩ : ∃ pb po, ao = some ⟨pb, po, none⟩ := by
        obtain ⟨b, o, cap, e, _⟩ := sl_addr hP (by omega)
        simp only [Value.slice.injEq] at e
        exact ⟨b, o, e.1⟩
      have hxc : ∀ j v, (u8s x)[j]? = some v → w.cell? ⟨pb, po + L * 32 + j, none⟩ = some v := by
        intro j v hj
        obtain ⟨ao', cap', e, g1, g2, g3, g4⟩ := hP
        simp only [Value.slice.injEq] at e
        obtain ⟨rfl, _, _⟩ := e
        rw [Nat.add_assoc]
        refine (g4 _ _ _ rfl).2 _ _ ?_
        rw [sums_snoc, List.getElem?_append_right (by rw [sums_length hq32, hL]; omega), sums_length hq32, hL, show q.length * 32 + j - q.length * 32 = j by omega]
        exact hj
      have e1 : ((n : Int) == 1) = false := beq_false (by omega)
      have e2 : (((L + 1 : Nat) : Int) == 0) = false := beq_false (by omega)
      have HM := Lib.hid hM
      have HG := Lib.hid hg
      have H3 := Lib.hid h3
      have HS := Lib.hid hS
      have H4 := Lib.hid h4
      have HPq := Lib.hid hPq
      have HX := Lib.hid hxc
      have Hq := Lib.hid hq32
      have Hx := Lib.hid hx32
      have HL := Lib.hid hL
      clear hM hk ih hrev hg h3 hS h4 hP h32 hk' hP' hPq hsq hxc hq32 hx32 hL
      by_cases hlt : i < m
      · have HC := Lib.hid (show Sha.climb b (x :: q.reverse) n i = (Sha.pair (Sha.climb b q.reverse m i).1 x, (Sha.climb b q.reverse m i).2) by simp only [Sha.climb]; rw [if_neg h1, if_pos (by rw [← HM.out]; exact hlt), ← HM.out])
        obtain ⟨X, hX⟩ : ∃ X, X = (Sha.climb b q.reverse m i).1 := ⟨_, rfl⟩
        obtain ⟨ok, hok⟩ : ∃ ok, ok = (Sha.climb b q.reverse m i).2 := ⟨_, rfl⟩
        have HI := Lib.hid (fun (W : World) (hb : Below w.heap.size w W) => ihq (.slice (some ⟨pb, po, none⟩) L cap) m i W rfl (HG.out.below' hb) (H3.out.below' hb) (HS.out.below hb) (H4.out.below' hb) (by rw [← HL.out]; exact HPq.out.below hb) Hq.out (by have := HL.out; omega) (by omega) (by omega) (by omega))
        rw [← hX, ← hok] at HC HI
        have HXl := Lib.hid (show X.length = 32 by rw [hX]; exact Sha.climb_len _ _ _ _)
        clear hX hok ihq
        go_enter Tryd.func40, Tryd.ntmps40
        go_wp2_with (go_at_call 38; refine Hid.out ?_)
        refine stop ?_
        refine (cut_any n _ h2 (by omega)).mono ?_
        rintro e W ⟨rfl, hW⟩
        have HB := Lib.hid (show Below w.heap.size w W by rw [← hW]; exact (Below.refl _ _).alloc (Nat.le_refl _) _)
        have HA8 := Lib.hid (show Arr W w.heap.size (u8s (List.replicate 32 0)) by rw [← hW]; exact Arr.new w (u8s (List.replicate 32 0)) _)
        rw [← HM.out]
        clear hW
        go_wp2
        refine wp_region_fresh [(.func (.func 40) #[] #[.pointer (some ⟨B3, 0, none⟩), .pointer (some ⟨B4, 0, none⟩)]), (.int .i64 m), (.int .i64 i), (.slice (some ⟨pb, po, none⟩) (L + 1) cap), (.int .i64 L), (.slice (some ⟨pb, po, none⟩) L cap), (.tuple #[.agg (u8s X).toArray, .bool ok]), (.tuple #[.agg (u8s X).toArray, .bool ok]), (.agg (u8s X).toArray), (.bool ok), undef, undef, (.bool ok)] 10 11 28 (u8s (List.replicate 32 0)) (u8s X) (.agg (u8s (List.replicate 32 0)).toArray) 12 _ _ (.tmp 48) (by kernel_rfl) (by kernel_rfl) rfl (by decide) rfl rfl rfl rfl (by rw [u8s_length, HXl.out]; kernel_rfl) rfl (by rw [u8s_length, u8s_length, HXl.out]; rfl)
          rfl rfl rfl rfl ⟨⟨10, .data⟩, by simp, rfl, rfl⟩ (u8s_one _) (by kernel_rfl) ?hstore ?hstep ?hend
        case hstore =>
          intro a w1 hE hR hd
          have q48 : a.tmps[48]?.getD undef = (.agg (u8s X).toArray) := hd ⟨8, .data⟩ (by simp) rfl (by decide) _ _ rfl rfl
          simp [Act.eval, q48, Value.cells]
        case hstep =>
          refine allFrom_array ⟨?_, ?_, ?_, ?_, ?_, ?_, ?_, ?_, ?_, ?_, ?_, ?_, ?_, trivial⟩ <;> intro hip his a w1 hE hR hd
          · refine wanted_none rfl ?_
            have q4 : a.tmps[4]?.getD undef = (.pointer (some ⟨B4, 0, none⟩)) := hR.evalD rfl rfl
            have c4 : w1.cell? ⟨B4, 0, none⟩ = _ := (hE.cell (block_lt_of_cell ((H4.out.below' HB.out).cell (i := 0) rfl))).trans ((H4.out.below' HB.out).cell (i := 0) rfl)
            go_simp
            exact Below.refl _ _
          · refine wanted_none rfl ?_
            have q10 : a.tmps[10]?.getD undef = (.int .i64 m) := hR.evalD rfl rfl
            go_simp
            exact Below.refl _ _
          · refine wanted_none rfl ?_
            have q1 : a.tmps[1]?.getD undef = (.int .i64 i) := hR.evalD rfl rfl
            go_simp
            exact Below.refl _ _
          · refine wanted_none rfl ?_
            have q2 : a.tmps[2]?.getD undef = (.slice (some ⟨pb, po, none⟩) (L + 1) cap) := hR.evalD rfl rfl
            go_simp
            exact Below.refl _ _
          · refine wanted_none rfl ?_
            have q11 : a.tmps[11]?.getD undef = (.int .i64 L) := hR.evalD rfl rfl
            go_simp
            exact Below.refl _ _
          · refine wanted_none rfl ?_
            have q44 : a.tmps[44]?.getD undef = (.slice (some ⟨pb, po, none⟩) (L + 1) cap) := hd ⟨3, .data⟩ (by simp) rfl (by decide) (by decide) _ _ rfl rfl
            have q45 : a.tmps[45]?.getD undef = (.int .i64 L) := hd ⟨4, .data⟩ (by simp) rfl (by decide) (by decide) _ _ rfl rfl
            have hLc : L ≤ cap := by omega
            go_simp
            exact Below.refl _ _
          · refine wanted_none rfl ?_
            have q41 : a.tmps[41]?.getD undef = (.func (.func 40) #[] #[.pointer (some ⟨B3, 0, none⟩), .pointer (some ⟨B4, 0, none⟩)]) := hd ⟨0, .data⟩ (by simp) rfl (by decide) (by decide) _ _ rfl rfl
            have q42 : a.tmps[42]?.getD undef = (.int .i64 m) := hd ⟨1, .data⟩ (by simp) rfl (by decide) (by decide) _ _ rfl rfl
            have q43 : a.tmps[43]?.getD undef = (.int .i64 i) := hd ⟨2, .data⟩ (by simp) rfl (by decide) (by decide) _ _ rfl rfl
            have q46 : a.tmps[46]?.getD undef = (.slice (some ⟨pb, po, none⟩) L cap) := hd ⟨5, .data⟩ (by simp) rfl (by decide) (by decide) _ _ rfl rfl
            go_simp
            refine (HI.out w1 (HB.out.trans (hE.mono HB.out.size))).mono ?_
            rintro e w2 ⟨rfl, hb2⟩
            exact ⟨rfl, hb2⟩
          · refine wanted_none rfl ?_
            have q47 : a.tmps[47]?.getD undef = (.tuple #[.agg (u8s X).toArray, .bool ok]) := hd ⟨6, .data⟩ (by simp) rfl (by decide) (by decide) _ _ rfl rfl
            go_simp
            exact Below.refl _ _
          · refine wanted_none rfl ?_
            have q40 : a.tmps[40]?.getD undef = (.tuple #[.agg (u8s X).toArray, .bool ok]) := hd ⟨7, .data⟩ (by simp) rfl (by decide) (by decide) _ _ rfl rfl
            go_simp
            exact Below.refl _ _
          · refine wanted_none rfl ?_
            have q40 : a.tmps[40]?.getD undef = (.tuple #[.agg (u8s X).toArray, .bool ok]) := hd ⟨7, .data⟩ (by simp) rfl (by decide) (by decide) _ _ rfl rfl
            go_simp
            exact Below.refl _ _
          · exact absurd rfl hip
          · exact absurd rfl his
          · refine wanted_none rfl ?_
            have q49 : a.tmps[49]?.getD undef = (.bool ok) := hd ⟨9, .data⟩ (by simp) rfl (by decide) (by decide) _ _ rfl rfl
            go_simp
            exact Below.refl _ _
        case hend =>
          intro ad w1 hE had hAd
          have HB1 := Lib.hid (HB.out.trans (hE.mono HB.out.size))
          have HA1 := Lib.hid (HA8.out.below' hE)
          have HAd := Lib.hid hAd
          have hadn : ad ≠ w.heap.size := by have := HA8.out.lt; omega
          clear hE hAd HA8 HI
          simp only [putAll, List.map_cons, List.map_nil, List.set_cons_zero, List.set_cons_succ, List.zip_cons_cons, List.zip_nil_right, Act.put, List.setIfInBounds_toArray]
          go_wp2
          refine wp_region_put [(.agg (u8s X).toArray), (.slice (some ⟨pb, po, none⟩) (L + 1) cap), (.int .i64 L), (.pointer (some ⟨pb, po + L * 32, none⟩)), (.agg (u8s x).toArray), (.agg (u8s (Sha.pair X x)).toArray), (.bool ok), undef, (.bool ok)] 7 w.heap.size 0 28 28 (u8s (Sha.pair X x)) (u8s (List.replicate 32 0)) _ (.tmp 8) (.tmp 55) (by kernel_rfl) (by kernel_rfl) rfl HA1.out (by rw [u8s_length, Sha.pair_len, u8s_length, List.length_replicate]; decide)
            rfl rfl rfl rfl (by rw [u8s_length, Sha.pair_len]; kernel_rfl) (u8s_one _) (by kernel_rfl) ?hstore ?hstep ?hend
          case hstore =>
            intro a w2 hE hR hd
            have q55 : a.tmps[55]?.getD undef = (.agg (u8s (Sha.pair X x)).toArray) := hd ⟨5, .data⟩ (by simp) rfl _ _ rfl rfl
            have q8 : a.tmps[8]?.getD undef = (.pointer (some ⟨w.heap.size, 0, none⟩)) := hR.evalD rfl rfl
            simp [Act.eval, q55, q8, Value.cells]
          case hstep =>
            refine allFrom_array ⟨?_, ?_, ?_, ?_, ?_, ?_, ?_, ?_, ?_, trivial⟩ <;> intro his a w2 hE hR hd
            · refine wanted_none rfl ?_
              have q12 : a.tmps[12]?.getD undef = (.pointer (some ⟨ad, 0, none⟩)) := hR.evalD rfl rfl
              refine wp_load_cells _ _ rfl ad 0 (by simpa [Act.eval] using q12) (u8s X) (by rw [u8s_length, HXl.out]; exact agg32) (fun j v hv => by rw [Nat.zero_add]; exact (HAd.out.grown hE (by intro h; cases h; exact hadn rfl)).cell hv) ?_
              exact ⟨rfl, Below.refl _ _⟩
            · refine wanted_none rfl ?_
              have q2 : a.tmps[2]?.getD undef = (.slice (some ⟨pb, po, none⟩) (L + 1) cap) := hR.evalD rfl rfl
              go_simp
              exact Below.refl _ _
            · refine wanted_none rfl ?_
              have q11 : a.tmps[11]?.getD undef = (.int .i64 L) := hR.evalD rfl rfl
              go_simp
              exact Below.refl _ _
            · refine wanted_none rfl ?_
              have q51 : a.tmps[51]?.getD undef = (.slice (some ⟨pb, po, none⟩) (L + 1) cap) := hd ⟨1, .data⟩ (by simp) rfl (by decide) _ _ rfl rfl
              have q52 : a.tmps[52]?.getD undef = (.int .i64 L) := hd ⟨2, .data⟩ (by simp) rfl (by decide) _ _ rfl rfl
              have hLL : (L : Int) < (L : Int) + 1 := by omega
              go_simp
              exact Below.refl _ _
            · refine wanted_none rfl ?_
              have q53 : a.tmps[53]?.getD undef = (.pointer (some ⟨pb, po + L * 32, none⟩)) := hd ⟨3, .data⟩ (by simp) rfl (by decide) _ _ rfl rfl
              refine wp_load_cells _ _ rfl pb (po + L * 32) (by simpa [Act.eval] using q53) (u8s x) (by rw [u8s_length, Hx.out]; exact agg32) (fun j v hv => ?_) ?_
              · have hc := HX.out j v hv
                exact hE.cell ((HB1.out.cell (block_lt_of_cell hc)).trans hc) (by intro h; have := block_lt_of_cell hc; cases h; simp at this)
              exact ⟨rfl, Below.refl _ _⟩
            · refine wanted_none rfl ?_
              have q50 : a.tmps[50]?.getD undef = (.agg (u8s X).toArray) := hd ⟨0, .data⟩ (by simp) rfl (by decide) _ _ rfl rfl
              have q54 : a.tmps[54]?.getD undef = (.agg (u8s x).toArray) := hd ⟨4, .data⟩ (by simp) rfl (by decide) _ _ rfl rfl
              go_simp
              refine (pair_any X x w2 (HG.out.below' (HB1.out.grown hE HB1.out.size (by intro k hk; cases hk; exact Nat.le_refl _))) HXl.out Hx.out).mono ?_
              rintro e w3 ⟨rfl, hb3⟩
              exact ⟨rfl, hb3⟩
            · refine wanted_none rfl ?_
              have q13 : a.tmps[13]?.getD undef = (.bool ok) := hR.evalD rfl rfl
              go_simp
              exact Below.refl _ _
            · exact absurd rfl his
            · refine wanted_none rfl ?_
              have q56 : a.tmps[56]?.getD undef = (.bool ok) := hd ⟨6, .data⟩ (by simp) rfl (by decide) _ _ rfl rfl
              go_simp
              exact Below.refl _ _
          case hend =>
            intro w2 hE hA2
            rw [lay_whole _ _ (by rw [u8s_length, u8s_length, List.length_replicate, Sha.pair_len])] at hA2
            have HB2 := Lib.hid (HB1.out.grown hE HB1.out.size (by intro k hk; cases hk; exact Nat.le_refl _))
            have HA2 := Lib.hid hA2
            clear hA2 hE
            simp only [putAll, List.map_cons, List.map_nil, List.set_cons_zero, List.set_cons_succ, List.zip_cons_cons, List.zip_nil_right, Act.put, List.setIfInBounds_toArray]
            go_wp2
            refine bodyPost_cells_tmp rfl rfl w.heap.size rfl _ HA2.out (by rw [u8s_length, Sha.pair_len]; exact agg32) ⟨?_, HB2.out⟩
            rw [HC.out]
            rfl
      · have HC := Lib.hid (show Sha.climb b (x :: q.reverse) n i = (Sha.pair x (Sha.climb b q.reverse (n - m) (i - m)).1, (Sha.climb b q.reverse (n - m) (i - m)).2) by simp only [Sha.climb]; rw [if_neg h1, if_neg (by rw [← HM.out]; exact hlt), ← HM.out])
        obtain ⟨X, hX⟩ : ∃ X, X = (Sha.climb b q.reverse (n - m) (i - m)).1 := ⟨_, rfl⟩
        obtain ⟨ok, hok⟩ : ∃ ok, ok = (Sha.climb b q.reverse (n - m) (i - m)).2 := ⟨_, rfl⟩
        have HI := Lib.hid (fun (W : World) (hb : Below w.heap.size w W) => ihq (.slice (some ⟨pb, po, none⟩) L cap) (n - m) (i - m) W rfl (HG.out.below' hb) (H3.out.below' hb) (HS.out.below hb) (H4.out.below' hb) (by rw [← HL.out]; exact HPq.out.below hb) Hq.out (by have := HL.out; omega) (by omega) (by omega) (by omega))
        rw [← hX, ← hok] at HC HI
        have HXl := Lib.hid (show X.length = 32 by rw [hX]; exact Sha.climb_len _ _ _ _)
        clear hX hok ihq
        go_enter Tryd.func40, Tryd.ntmps40
        go_wp2_with (go_at_call 38; refine Hid.out ?_)
        refine stop ?_
        refine (cut_any n _ h2 (by omega)).mono ?_
        rintro e W ⟨rfl, hW⟩
        have HB := Lib.hid (show Below w.heap.size w W by rw [← hW]; exact (Below.refl _ _).alloc (Nat.le_refl _) _)
        have HA8 := Lib.hid (show Arr W w.heap.size (u8s (List.replicate 32 0)) by rw [← hW]; exact Arr.new w (u8s (List.replicate 32 0)) _)
        rw [← HM.out]
        clear hW
        go_wp2
        refine wp_region_fresh [(.func (.func 40) #[] #[.pointer (some ⟨B3, 0, none⟩), .pointer (some ⟨B4, 0, none⟩)]), (.int .i64 n), (.int .i64 m), (.int .i64 ((n : Int) - m)), (.int .i64 i), (.int .i64 m), (.int .i64 ((i : Int) - m)), (.slice (some ⟨pb, po, none⟩) (L + 1) cap), (.int .i64 L), (.slice (some ⟨pb, po, none⟩) L cap), (.tuple #[.agg (u8s X).toArray, .bool ok]), (.tuple #[.agg (u8s X).toArray, .bool ok]), (.agg (u8s X).toArray), (.bool ok), undef, undef, (.bool ok)] 14 15 28 (u8s (List.replicate 32 0)) (u8s X) (.agg (u8s (List.replicate 32 0)).toArray) 14 _ _ (.tmp 69) (by kernel_rfl) (by kernel_rfl) rfl (by decide) rfl rfl rfl rfl (by rw [u8s_length, HXl.out]; kernel_rfl) rfl (by rw [u8s_length, u8s_length, HXl.out]; rfl)
          rfl rfl rfl rfl ⟨⟨14, .data⟩, by simp, rfl, rfl⟩ (u8s_one _) (by kernel_rfl) ?hstore ?hstep ?hend
        case hstore =>
          intro a w1 hE hR hd
          have q69 : a.tmps[69]?.getD undef = (.agg (u8s X).toArray) := hd ⟨12, .data⟩ (by simp) rfl (by decide) _ _ rfl rfl
          simp [Act.eval, q69, Value.cells]
        case hstep =>
          refine allFrom_array ⟨?_, ?_, ?_, ?_, ?_, ?_, ?_, ?_, ?_, ?_, ?_, ?_, ?_, ?_, ?_, ?_, ?_, trivial⟩ <;> intro hip his a w1 hE hR hd
          · refine wanted_none rfl ?_
            have q4 : a.tmps[4]?.getD undef = (.pointer (some ⟨B4, 0, none⟩)) := hR.evalD rfl rfl
            have c4 : w1.cell? ⟨B4, 0, none⟩ = _ := (hE.cell (block_lt_of_cell ((H4.out.below' HB.out).cell (i := 0) rfl))).trans ((H4.out.below' HB.out).cell (i := 0) rfl)
            go_simp
            exact Below.refl _ _
          · refine wanted_none rfl ?_
            have q0 : a.tmps[0]?.getD undef = (.int .i64 n) := hR.evalD rfl rfl
            go_simp
            exact Below.refl _ _
          · refine wanted_none rfl ?_
            have q10 : a.tmps[10]?.getD undef = (.int .i64 m) := hR.evalD rfl rfl
            go_simp
            exact Below.refl _ _
          · refine wanted_none rfl ?_
            have q59 : a.tmps[59]?.getD undef = (.int .i64 n) := hd ⟨1, .data⟩ (by simp) rfl (by decide) (by decide) _ _ rfl rfl
            have q60 : a.tmps[60]?.getD undef = (.int .i64 m) := hd ⟨2, .data⟩ (by simp) rfl (by decide) (by decide) _ _ rfl rfl
            have ew : IntKind.i64.wrap ((n : Int) - m) = (n : Int) - m := IntWalk.i64_in _ (by omega)
            go_simp
            exact Below.refl _ _
          · refine wanted_none rfl ?_
            have q1 : a.tmps[1]?.getD undef = (.int .i64 i) := hR.evalD rfl rfl
            go_simp
            exact Below.refl _ _
          · refine wanted_none rfl ?_
            have q10 : a.tmps[10]?.getD undef = (.int .i64 m) := hR.evalD rfl rfl
            go_simp
            exact Below.refl _ _
          · refine wanted_none rfl ?_
            have q62 : a.tmps[62]?.getD undef = (.int .i64 i) := hd ⟨4, .data⟩ (by simp) rfl (by decide) (by decide) _ _ rfl rfl
            have q63 : a.tmps[63]?.getD undef = (.int .i64 m) := hd ⟨5, .data⟩ (by simp) rfl (by decide) (by decide) _ _ rfl rfl
            have ew : IntKind.i64.wrap ((i : Int) - m) = (i : Int) - m := IntWalk.i64_in _ (by omega)
            go_simp
            exact Below.refl _ _
          · refine wanted_none rfl ?_
            have q2 : a.tmps[2]?.getD undef = (.slice (some ⟨pb, po, none⟩) (L + 1) cap) := hR.evalD rfl rfl
            go_simp
            exact Below.refl _ _
          · refine wanted_none rfl ?_
            have q11 : a.tmps[11]?.getD undef = (.int .i64 L) := hR.evalD rfl rfl
            go_simp
            exact Below.refl _ _
          · refine wanted_none rfl ?_
            have q65 : a.tmps[65]?.getD undef = (.slice (some ⟨pb, po, none⟩) (L + 1) cap) := hd ⟨7, .data⟩ (by simp) rfl (by decide) (by decide) _ _ rfl rfl
            have q66 : a.tmps[66]?.getD undef = (.int .i64 L) := hd ⟨8, .data⟩ (by simp) rfl (by decide) (by decide) _ _ rfl rfl
            have hLc : L ≤ cap := by omega
            go_simp
            exact Below.refl _ _
          · refine wanted_none rfl ?_
            have q58 : a.tmps[58]?.getD undef = (.func (.func 40) #[] #[.pointer (some ⟨B3, 0, none⟩), .pointer (some ⟨B4, 0, none⟩)]) := hd ⟨0, .data⟩ (by simp) rfl (by decide) (by decide) _ _ rfl rfl
            have q61 : a.tmps[61]?.getD undef = (.int .i64 ((n : Int) - m)) := hd ⟨3, .data⟩ (by simp) rfl (by decide) (by decide) _ _ rfl rfl
            have q64 : a.tmps[64]?.getD undef = (.int .i64 ((i : Int) - m)) := hd ⟨6, .data⟩ (by simp) rfl (by decide) (by decide) _ _ rfl rfl
            have q67 : a.tmps[67]?.getD undef = (.slice (some ⟨pb, po, none⟩) L cap) := hd ⟨9, .data⟩ (by simp) rfl (by decide) (by decide) _ _ rfl rfl
            go_simp
            have en : (n : Int) - m = ((n - m : Nat) : Int) := by omega
            have ei : (i : Int) - m = ((i - m : Nat) : Int) := by omega
            rw [en, ei]
            refine (HI.out w1 (HB.out.trans (hE.mono HB.out.size))).mono ?_
            rintro e w2 ⟨rfl, hb2⟩
            exact ⟨rfl, hb2⟩
          · refine wanted_none rfl ?_
            have q68 : a.tmps[68]?.getD undef = (.tuple #[.agg (u8s X).toArray, .bool ok]) := hd ⟨10, .data⟩ (by simp) rfl (by decide) (by decide) _ _ rfl rfl
            go_simp
            exact Below.refl _ _
          · refine wanted_none rfl ?_
            have q57 : a.tmps[57]?.getD undef = (.tuple #[.agg (u8s X).toArray, .bool ok]) := hd ⟨11, .data⟩ (by simp) rfl (by decide) (by decide) _ _ rfl rfl
            go_simp
            exact Below.refl _ _
          · refine wanted_none rfl ?_
            have q57 : a.tmps[57]?.getD undef = (.tuple #[.agg (u8s X).toArray, .bool ok]) := hd ⟨11, .data⟩ (by simp) rfl (by decide) (by decide) _ _ rfl rfl
            go_simp
            exact Below.refl _ _
          · exact absurd rfl hip
          · exact absurd rfl his
          · refine wanted_none rfl ?_
            have q70 : a.tmps[70]?.getD undef = (.bool ok) := hd ⟨13, .data⟩ (by simp) rfl (by decide) (by decide) _ _ rfl rfl
            go_simp
            exact Below.refl _ _
        case hend =>
          intro ad w1 hE had hAd
          have HB1 := Lib.hid (HB.out.trans (hE.mono HB.out.size))
          have HA1 := Lib.hid (HA8.out.below' hE)
          have HAd := Lib.hid hAd
          have hadn : ad ≠ w.heap.size := by have := HA8.out.lt; omega
          clear hE hAd HA8 HI
          simp only [putAll, List.map_cons, List.map_nil, List.set_cons_zero, List.set_cons_succ, List.zip_cons_cons, List.zip_nil_right, Act.put, List.setIfInBounds_toArray]
          go_wp2
          refine wp_region_put [(.slice (some ⟨pb, po, none⟩) (L + 1) cap), (.int .i64 L), (.pointer (some ⟨pb, po + L * 32, none⟩)), (.agg (u8s x).toArray), (.agg (u8s X).toArray), (.agg (u8s (Sha.pair x X)).toArray), (.bool ok), undef, (.bool ok)] 7 w.heap.size 0 28 28 (u8s (Sha.pair x X)) (u8s (List.replicate 32 0)) _ (.tmp 8) (.tmp 76) (by kernel_rfl) (by kernel_rfl) rfl HA1.out (by rw [u8s_length, Sha.pair_len, u8s_length, List.length_replicate]; decide)
            rfl rfl rfl rfl (by rw [u8s_length, Sha.pair_len]; kernel_rfl) (u8s_one _) (by kernel_rfl) ?hstore ?hstep ?hend
          case hstore =>
            intro a w2 hE hR hd
            have q76 : a.tmps[76]?.getD undef = (.agg (u8s (Sha.pair x X)).toArray) := hd ⟨5, .data⟩ (by simp) rfl _ _ rfl rfl
            have q8 : a.tmps[8]?.getD undef = (.pointer (some ⟨w.heap.size, 0, none⟩)) := hR.evalD rfl rfl
            simp [Act.eval, q76, q8, Value.cells]
          case hstep =>
            refine allFrom_array ⟨?_, ?_, ?_, ?_, ?_, ?_, ?_, ?_, ?_, trivial⟩ <;> intro his a w2 hE hR hd
            · refine wanted_none rfl ?_
              have q2 : a.tmps[2]?.getD undef = (.slice (some ⟨pb, po, none⟩) (L + 1) cap) := hR.evalD rfl rfl
              go_simp
              exact Below.refl _ _
            · refine wanted_none rfl ?_
              have q11 : a.tmps[11]?.getD undef = (.int .i64 L) := hR.evalD rfl rfl
              go_simp
              exact Below.refl _ _
            · refine wanted_none rfl ?_
              have q71 : a.tmps[71]?.getD undef = (.slice (some ⟨pb, po, none⟩) (L + 1) cap) := hd ⟨0, .data⟩ (by simp) rfl (by decide) _ _ rfl rfl
              have q72 : a.tmps[72]?.getD undef = (.int .i64 L) := hd ⟨1, .data⟩ (by simp) rfl (by decide) _ _ rfl rfl
              have hLL : (L : Int) < (L : Int) + 1 := by omega
              go_simp
              exact Below.refl _ _
            · refine wanted_none rfl ?_
              have q73 : a.tmps[73]?.getD undef = (.pointer (some ⟨pb, po + L * 32, none⟩)) := hd ⟨2, .data⟩ (by simp) rfl (by decide) _ _ rfl rfl
              refine wp_load_cells _ _ rfl pb (po + L * 32) (by simpa [Act.eval] using q73) (u8s x) (by rw [u8s_length, Hx.out]; exact agg32) (fun j v hv => ?_) ?_
              · have hc := HX.out j v hv
                exact hE.cell ((HB1.out.cell (block_lt_of_cell hc)).trans hc) (by intro h; have := block_lt_of_cell hc; cases h; simp at this)
              exact ⟨rfl, Below.refl _ _⟩
            · refine wanted_none rfl ?_
              have q14 : a.tmps[14]?.getD undef = (.pointer (some ⟨ad, 0, none⟩)) := hR.evalD rfl rfl
              refine wp_load_cells _ _ rfl ad 0 (by simpa [Act.eval] using q14) (u8s X) (by rw [u8s_length, HXl.out]; exact agg32) (fun j v hv => by rw [Nat.zero_add]; exact (HAd.out.grown hE (by intro h; cases h; exact hadn rfl)).cell hv) ?_
              exact ⟨rfl, Below.refl _ _⟩
            · refine wanted_none rfl ?_
              have q74 : a.tmps[74]?.getD undef = (.agg (u8s x).toArray) := hd ⟨3, .data⟩ (by simp) rfl (by decide) _ _ rfl rfl
              have q75 : a.tmps[75]?.getD undef = (.agg (u8s X).toArray) := hd ⟨4, .data⟩ (by simp) rfl (by decide) _ _ rfl rfl
              go_simp
              refine (pair_any x X w2 (HG.out.below' (HB1.out.grown hE HB1.out.size (by intro k hk; cases hk; exact Nat.le_refl _))) Hx.out HXl.out).mono ?_
              rintro e w3 ⟨rfl, hb3⟩
              exact ⟨rfl, hb3⟩
            · refine wanted_none rfl ?_
              have q15 : a.tmps[15]?.getD undef = (.bool ok) := hR.evalD rfl rfl
              go_simp
              exact Below.refl _ _
            · exact absurd rfl his
            · refine wanted_none rfl ?_
              have q77 : a.tmps[77]?.getD undef = (.bool ok) := hd ⟨6, .data⟩ (by simp) rfl (by decide) _ _ rfl rfl
              go_simp
              exact Below.refl _ _
          case hend =>
            intro w2 hE hA2
            rw [lay_whole _ _ (by rw [u8s_length, u8s_length, List.length_replicate, Sha.pair_len])] at hA2
            have HB2 := Lib.hid (HB1.out.grown hE HB1.out.size (by intro k hk; cases hk; exact Nat.le_refl _))
            have HA2 := Lib.hid hA2
            clear hA2 hE
            simp only [putAll, List.map_cons, List.map_nil, List.set_cons_zero, List.set_cons_succ, List.zip_cons_cons, List.zip_nil_right, Act.put, List.setIfInBounds_toArray]
            go_wp2
            refine bodyPost_cells_tmp rfl rfl w.heap.size rfl _ HA2.out (by rw [u8s_length, Sha.pair_len]; exact agg32) ⟨?_, HB2.out⟩
            rw [HC.out]
            rfl
end Go.Proofs.YtmindblfbijaaaaDoor
