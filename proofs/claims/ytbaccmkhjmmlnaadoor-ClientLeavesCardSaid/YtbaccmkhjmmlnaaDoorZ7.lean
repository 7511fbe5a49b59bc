/-
  Lemmas, part 7 of 9: walks through the program's functions, and plain Lean about what they compute.
-/
import Derived.Test.YtbaccmkhjmmlnaaDoorRows
import Derived.WalkKit
import Derived.WalkSpells
import Derived.WalkLawsBesides
import Derived.BigQuiet
import Derived.Deep.QuietTactic
import Derived.Deep.RegionHeld3
import Derived.Deep.DeepCutAuto
import Derived.Deep.LoopGhost
import Derived.StillTailTactics
import Derived.Lib.Hide
import Derived.Handy
import Derived.Stop.BytesEq
import Derived.Test.YtbaccmkhjmmlnaaDoorZ1
import Derived.Test.YtbaccmkhjmmlnaaDoorZ2
import Derived.Test.YtbaccmkhjmmlnaaDoorZ3
import Derived.Test.YtbaccmkhjmmlnaaDoorZ4
import Derived.Test.YtbaccmkhjmmlnaaDoorZ5
import Derived.Test.YtbaccmkhjmmlnaaDoorZ6
set_option linter.unnecessarySimpa false
set_option linter.unusedSimpArgs false
set_option linter.unusedVariables false
namespace Go.Proofs.YtbaccmkhjmmlnaaDoor
end Go.Proofs.YtbaccmkhjmmlnaaDoor
set_option maxRecDepth 4000
namespace Go.Proofs.YtbaccmkhjmmlnaaDoor
open Go.RowKit
theorem zzs (p : List (List UInt8)) (h : 0 < p.length) : ∃ q x, p = q ++ [x] := by
 rcases List.eq_nil_or_concat p with h' | ⟨q, x, h'⟩
 ·subst h'; simp at h
 ·exact ⟨q, x, by simpa using h'⟩
theorem zro (b : List UInt8) (r : List (List UInt8)) (i : Nat) : Sha.climb b r 1 i = (Sha.leaf b, r.length == 0) := by
 cases r <;> simp [Sha.climb]
theorem zfe {P : Program} {a : Act} {w : World} {fn : Func} {R : Ending → World → Prop} {p t : Tmp} {ty : TypeId} (hr : fn.results = #[.cell p ty, .tmp t]) (hdef : a.defers = []) (g : Nat) (hp : a.tmps.getD p undef = .pointer (some ⟨g, 0, none⟩))
  (cs : List Value) (hA : Arr w g cs) (hT : AggT P ty cs.length) (h : R (.returned (.tuple #[.agg cs.toArray, a.tmps.getD t undef])) w) : bodyPost P fn R .ret a w := by
 refine bodyPost_ret (v := .tuple #[.agg cs.toArray, a.tmps.getD t undef]) ?_ hdef h
 have hl : (loadCells ⟨g, 0, none⟩ cs.length).run P w = .ok cs.toArray w :=
  run_loadCells_list (P := P) w ⟨g, 0, none⟩ cs (fun j v hv => by rw [ztc, Nat.zero_add]; exact hA.cell hv)
 have hp' : a.tmps[p]?.getD undef = .pointer (some ⟨g, 0, none⟩) := by simpa using hp
 simp [results, hr, hp', asAddr, loadVar, Sem.run_bind, hT.1, z7c hT.2, hl, Result.andThen]
theorem zgj {a b : Int} (h : a ≠ b) : (a == b) = false := by simpa using h
set_option maxHeartbeats 400000 in
theorem zqt (b : List UInt8) (B3 B4 : Nat) (bv : Value) (hb : b.length ≤ 900000) : ∀ (k : Nat) (p : List (List UInt8)) (pv : Value) (n i : Nat) (w : World), p.length = k → Glob w → Arr w B3 [bv] → Sl w bv b.length (u8s b) →
  Arr w B4 [.func (.func 71) #[] #[.pointer (some ⟨B3, 0, none⟩), .pointer (some ⟨B4, 0, none⟩)]] → Sl w pv p.length (sums p) → Len32 p → p.length ≤ 1000000 → 1 ≤ n → n ≤ 4294967296 → i < n →
  Calls Tryd.prog 71 #[.int .i64 n, .int .i64 i, pv, .pointer (some ⟨B3, 0, none⟩), .pointer (some ⟨B4, 0, none⟩)] w fun e w' =>
   e = .returned (.tuple #[.agg (u8s (Sha.climb b p.reverse n i).1).toArray, .bool (Sha.climb b p.reverse n i).2]) ∧ Below w.heap.size w w' := by
 intro k
 induction k using Nat.strongRecOn with
 | _ k ih =>
 intro p pv n i w hk hg h3 hS h4 hP h32 hpn hn1 hn2 hin
 obtain ⟨ao, cap, rfl⟩ := zlg hP
 obtain ⟨bao, bcap, rfl⟩ := zlg hS
 have hc3 := h3.cell (i := 0) rfl
 have hc4 := h4.cell (i := 0) rfl
 by_cases h1 : n = 1
 ·subst h1
  have hc3' : ∀ o', (w.alloc o').cell? ⟨B3, 0, none⟩ = some (.slice bao b.length bcap) := fun o' => (((Below.refl w.heap.size w).alloc (Nat.le_refl _) o').cell (block_lt_of_cell hc3)).trans hc3
  have hrl : p.reverse.length = p.length := List.length_reverse
  obtain ⟨L, hL⟩ : ∃ L, L = p.length := ⟨_, rfl⟩
  rw [← hL] at hP hpn hrl ⊢
  by_cases h0 : L = 0
  ·subst h0
   have HR := Lib.hid (show Sha.climb b p.reverse 1 i = (Sha.leaf b, true) by rw [zro, hrl]; rfl)
   have HG := Lib.hid hg
   have H3 := Lib.hid h3
   have HS := Lib.hid hS
   clear hP h32 ih hk hg h3 hS h4
   clear hrl hL
   go_enter Tryd.func71, Tryd.ntmps71
   go_wp2_with (go_at_call 60; refine Hid.out ?_)
   refine stop ?_
   refine (zwk _ b _ (HG.out.below' ((Below.refl _ _).alloc (Nat.le_refl _) _)) (HS.out.below ((Below.refl _ _).alloc (Nat.le_refl _) _)) hb).mono ?_
   rintro e W ⟨rfl, hb2⟩
   have el : Sha.sum (0 :: b) = Sha.leaf b := rfl
   rw [el]
   have HA8 := Lib.hid ((Arr.new w (u8s (List.replicate 32 0)) _).below' hb2)
   have HB := Lib.hid (((Below.refl w.heap.size w).alloc (Nat.le_refl _) _).trans (hb2.mono (by simp)))
   clear hb2 el
   go_wp2_with (refine zrb rfl rfl _ _ _ rfl _ 0 rfl (u8s (Sha.leaf b)) rfl (by rw [zh, Sha.leaf_len]; exact agg32.2) (zsc _) _ HA8.out (by rw [zh, zh, List.length_replicate, Sha.leaf_len]; decide) ?_; intro w4 hA3 hG3; replace hA3 := Lib.hid hA3; replace hG3 := Lib.hid hG3)
   have hA4 := hA3.out
   rw [zcc _ _ (by rw [zh, zh, List.length_replicate, Sha.leaf_len])] at hA4
   refine zfe rfl rfl w.heap.size rfl _ hA4 (by rw [zh, Sha.leaf_len]; exact agg32) ⟨?_, HB.out.grown hG3.out HB.out.size (by intro k hk; cases hk; exact Nat.le_refl _)⟩
   rw [HR.out]
   rfl
  ·have e2 : ((L : Int) == 0) = false := zgj (by omega)
   have HR := Lib.hid (show Sha.climb b p.reverse 1 i = (Sha.leaf b, false) by rw [zro, hrl]; simp [h0])
   have HG := Lib.hid hg
   have H3 := Lib.hid h3
   have HS := Lib.hid hS
   clear hP h32 ih hk hg h3 hS h4
   clear hrl hL
   go_enter Tryd.func71, Tryd.ntmps71
   go_wp2_with (go_at_call 60; refine Hid.out ?_)
   refine stop ?_
   refine (zwk _ b _ (HG.out.below' ((Below.refl _ _).alloc (Nat.le_refl _) _)) (HS.out.below ((Below.refl _ _).alloc (Nat.le_refl _) _)) hb).mono ?_
   rintro e W ⟨rfl, hb2⟩
   have el : Sha.sum (0 :: b) = Sha.leaf b := rfl
   rw [el]
   have HA8 := Lib.hid ((Arr.new w (u8s (List.replicate 32 0)) _).below' hb2)
   have HB := Lib.hid (((Below.refl w.heap.size w).alloc (Nat.le_refl _) _).trans (hb2.mono (by simp)))
   clear hb2 el
   go_wp2_with (refine zrb rfl rfl _ _ _ rfl _ 0 rfl (u8s (Sha.leaf b)) rfl (by rw [zh, Sha.leaf_len]; exact agg32.2) (zsc _) _ HA8.out (by rw [zh, zh, List.length_replicate, Sha.leaf_len]; decide) ?_; intro w4 hA3 hG3; replace hA3 := Lib.hid hA3; replace hG3 := Lib.hid hG3)
   have hA4 := hA3.out
   rw [zcc _ _ (by rw [zh, zh, List.length_replicate, Sha.leaf_len])] at hA4
   refine zfe rfl rfl w.heap.size rfl _ hA4 (by rw [zh, Sha.leaf_len]; exact agg32) ⟨?_, HB.out.grown hG3.out HB.out.size (by intro k hk; cases hk; exact Nat.le_refl _)⟩
   rw [HR.out]
   rfl
 ·rcases Nat.eq_zero_or_pos p.length with h0 | h0
  ·have hpn0 : p = [] := List.length_eq_zero_iff.1 h0
   subst hpn0
   have hc3' : ∀ o', (w.alloc o').cell? ⟨B3, 0, none⟩ = some (.slice bao b.length bcap) := fun o' => (((Below.refl w.heap.size w).alloc (Nat.le_refl _) o').cell (block_lt_of_cell hc3)).trans hc3
   have e1 : ((n : Int) == 1) = false := zgj (by omega)
   have e3 : (n == 1) = false := by simpa using h1
   have HR := Lib.hid (show Sha.climb b [].reverse n i = (Sha.leaf b, false) by simp [Sha.climb, h1])
   have HG := Lib.hid hg
   have H3 := Lib.hid h3
   have HS := Lib.hid hS
   clear hP h32 ih hk hg h3 hS h4
   simp only [List.length_nil]
   go_enter Tryd.func71, Tryd.ntmps71
   go_wp2_with (go_at_call 60; refine Hid.out ?_)
   refine stop ?_
   refine (zwk _ b _ (HG.out.below' ((Below.refl _ _).alloc (Nat.le_refl _) _)) (HS.out.below ((Below.refl _ _).alloc (Nat.le_refl _) _)) hb).mono ?_
   rintro e W ⟨rfl, hb2⟩
   have el : Sha.sum (0 :: b) = Sha.leaf b := rfl
   rw [el]
   have HA8 := Lib.hid ((Arr.new w (u8s (List.replicate 32 0)) _).below' hb2)
   have HB := Lib.hid (((Below.refl w.heap.size w).alloc (Nat.le_refl _) _).trans (hb2.mono (by simp)))
   clear hb2 el
   go_wp2_with (refine zrb rfl rfl _ _ _ rfl _ 0 rfl (u8s (Sha.leaf b)) rfl (by rw [zh, Sha.leaf_len]; exact agg32.2) (zsc _) _ HA8.out (by rw [zh, zh, List.length_replicate, Sha.leaf_len]; decide) ?_; intro w4 hA3 hG3; replace hA3 := Lib.hid hA3; replace hG3 := Lib.hid hG3)
   have hA4 := hA3.out
   rw [zcc _ _ (by rw [zh, zh, List.length_replicate, Sha.leaf_len])] at hA4
   refine zfe rfl rfl w.heap.size rfl _ hA4 (by rw [zh, Sha.leaf_len]; exact agg32) ⟨?_, HB.out.grown hG3.out HB.out.size (by intro k hk; cases hk; exact Nat.le_refl _)⟩
   rw [HR.out]
   rfl
  ·obtain ⟨q, x, rfl⟩ : ∃ q x, p = q ++ [x] := zzs p h0
   obtain ⟨m, hM⟩ : ∃ m, m = Sha.cut n := ⟨_, rfl⟩
   have h2 : 2 ≤ n := by omega
   have c1 := Sha.cut_lt h2
   have c0 := Sha.cut_pos n
   rw [← hM] at c1 c0
   have hk' : q.length < k := by rw [← hk]; simp
   have hrev : (q ++ [x]).reverse = x :: q.reverse := by simp
   have hx32 : x.length = 32 := h32 x (by simp)
   have hq32 : Len32 q := fun y hy => h32 y (by simp [hy])
   obtain ⟨L, hL⟩ : ∃ L, L = q.length := ⟨_, rfl⟩
   have hP' : (q ++ [x]).length = L + 1 := by rw [hL]; simp
   rw [hP'] at hP hpn h0 ⊢
   rw [hrev]
   have ihq := ih q.length hk' q
   have hcapP : L + 1 ≤ cap ∧ cap ≤ 9223372036854775807 := by
    obtain ⟨ao', cap', e, g1, g2, _⟩ := hP
    simp only [Value.slice.injEq] at e
    obtain ⟨_, _, rfl⟩ := e
    exact ⟨g1, g2⟩
   obtain ⟨hcap1, hcap2⟩ := hcapP
   have hPq := zcs hP L (L * 32) (by omega)
   have hsq : (sums (q ++ [x])).take (L * 32) = sums q := by
    rw [znj, List.take_append_of_le_length (by rw [zze hq32, hL]; omega), List.take_of_length_le (by rw [zze hq32, hL]; omega)]
   rw [hsq] at hPq
   obtain ⟨pb, po, rfl⟩ : ∃ pb po, ao = some ⟨pb, po, none⟩ := by
    obtain ⟨b, o, cap, e, _⟩ := zyi hP (by omega)
    simp only [Value.slice.injEq] at e
    exact ⟨b, o, e.1⟩
   have hxc : ∀ j v, (u8s x)[j]? = some v → w.cell? ⟨pb, po + L * 32 + j, none⟩ = some v := by
    intro j v hj
    obtain ⟨ao', cap', e, g1, g2, g3, g4⟩ := hP
    simp only [Value.slice.injEq] at e
    obtain ⟨rfl, _, _⟩ := e
    rw [Nat.add_assoc]
    refine (g4 _ _ _ rfl).2 _ _ ?_
    rw [znj, List.getElem?_append_right (by rw [zze hq32, hL]; omega), zze hq32, hL, show q.length * 32 + j - q.length * 32 = j by omega]
    exact hj
   have e1 : ((n : Int) == 1) = false := zgj (by omega)
   have e2 : (((L + 1 : Nat) : Int) == 0) = false := zgj (by omega)
   have HM := Lib.hid hM
   have HG := Lib.hid hg
   have H3 := Lib.hid h3
   have HS := Lib.hid hS
   have H4 := Lib.hid h4
   have HPq := Lib.hid hPq
   have HX := Lib.hid hxc
   have Hq := Lib.hid hq32
   have Hx := Lib.hid hx32
   have HL := Lib.hid hL
   clear hM hk ih hrev hg h3 hS h4 hP h32 hk' hP' hPq hsq hxc hq32 hx32 hL
   by_cases hlt : i < m
   ·have HC := Lib.hid (show Sha.climb b (x :: q.reverse) n i = (Sha.pair (Sha.climb b q.reverse m i).1 x, (Sha.climb b q.reverse m i).2) by simp only [Sha.climb]; rw [if_neg h1, if_pos (by rw [← HM.out]; exact hlt), ← HM.out])
    obtain ⟨X, hX⟩ : ∃ X, X = (Sha.climb b q.reverse m i).1 := ⟨_, rfl⟩
    obtain ⟨ok, hok⟩ : ∃ ok, ok = (Sha.climb b q.reverse m i).2 := ⟨_, rfl⟩
    have HI := Lib.hid (fun (W : World) (hb : Below w.heap.size w W) => ihq (.slice (some ⟨pb, po, none⟩) L cap) m i W rfl (HG.out.below' hb) (H3.out.below' hb) (HS.out.below hb) (H4.out.below' hb) (by rw [← HL.out]; exact HPq.out.below hb) Hq.out (by have := HL.out; omega) (by omega) (by omega) (by omega))
    rw [← hX, ← hok] at HC HI
    have HXl := Lib.hid (show X.length = 32 by rw [hX]; exact Sha.climb_len _ _ _ _)
    clear hX hok ihq
    go_enter Tryd.func71, Tryd.ntmps71
    go_wp2_with (go_at_call 61; refine Hid.out ?_)
    refine stop ?_
    refine (z1j n _ h2 (by omega)).mono ?_
    rintro e W ⟨rfl, hW⟩
    have HB := Lib.hid (show Below w.heap.size w W by rw [← hW]; exact (Below.refl _ _).alloc (Nat.le_refl _) _)
    have HA8 := Lib.hid (show Arr W w.heap.size (u8s (List.replicate 32 0)) by rw [← hW]; exact Arr.new w (u8s (List.replicate 32 0)) _)
    rw [← HM.out]
    clear hW
    go_wp2
    refine zfj [(.func (.func 71) #[] #[.pointer (some ⟨B3, 0, none⟩), .pointer (some ⟨B4, 0, none⟩)]), (.int .i64 m), (.int .i64 i), (.slice (some ⟨pb, po, none⟩) (L + 1) cap), (.int .i64 L), (.slice (some ⟨pb, po, none⟩) L cap), (.tuple #[.agg (u8s X).toArray, .bool ok]), (.tuple #[.agg (u8s X).toArray, .bool ok]), (.agg (u8s X).toArray), (.bool ok), undef, undef, (.bool ok)] 10 11 47 (u8s (List.replicate 32 0)) (u8s X) (.agg (u8s (List.replicate 32 0)).toArray) 12 _ _ (.tmp 48) (by kernel_rfl) (by kernel_rfl) rfl (by decide) rfl rfl rfl rfl (by rw [zh, HXl.out]; kernel_rfl) rfl (by rw [zh, zh, HXl.out]; rfl)
     rfl rfl rfl rfl ⟨⟨10, .data⟩, by simp, rfl, rfl⟩ (zsc _) (by kernel_rfl) ?hstore ?hstep ?hend
    case hstore =>
     intro a w1 hE hR hd
     have q48 : a.tmps[48]?.getD undef = (.agg (u8s X).toArray) := hd ⟨8, .data⟩ (by simp) rfl (by decide) _ _ rfl rfl
     simp [Act.eval, q48, Value.cells]
    case hstep =>
     refine zgd ⟨?_, ?_, ?_, ?_, ?_, ?_, ?_, ?_, ?_, ?_, ?_, ?_, ?_, trivial⟩ <;> intro hip his a w1 hE hR hd
     ·refine zo rfl ?_
      have q4 : a.tmps[4]?.getD undef = (.pointer (some ⟨B4, 0, none⟩)) := hR.evalD rfl rfl
      have c4 : w1.cell? ⟨B4, 0, none⟩ = _ := (hE.cell (block_lt_of_cell ((H4.out.below' HB.out).cell (i := 0) rfl))).trans ((H4.out.below' HB.out).cell (i := 0) rfl)
      go_simp
      exact Below.refl _ _
     ·refine zo rfl ?_
      have q10 : a.tmps[10]?.getD undef = (.int .i64 m) := hR.evalD rfl rfl
      go_simp
      exact Below.refl _ _
     ·refine zo rfl ?_
      have q1 : a.tmps[1]?.getD undef = (.int .i64 i) := hR.evalD rfl rfl
      go_simp
      exact Below.refl _ _
     ·refine zo rfl ?_
      have q2 : a.tmps[2]?.getD undef = (.slice (some ⟨pb, po, none⟩) (L + 1) cap) := hR.evalD rfl rfl
      go_simp
      exact Below.refl _ _
     ·refine zo rfl ?_
      have q11 : a.tmps[11]?.getD undef = (.int .i64 L) := hR.evalD rfl rfl
      go_simp
      exact Below.refl _ _
     ·refine zo rfl ?_
      have q44 : a.tmps[44]?.getD undef = (.slice (some ⟨pb, po, none⟩) (L + 1) cap) := hd ⟨3, .data⟩ (by simp) rfl (by decide) (by decide) _ _ rfl rfl
      have q45 : a.tmps[45]?.getD undef = (.int .i64 L) := hd ⟨4, .data⟩ (by simp) rfl (by decide) (by decide) _ _ rfl rfl
      have hLc : L ≤ cap := by omega
      go_simp
      exact Below.refl _ _
     ·refine zo rfl ?_
      have q41 : a.tmps[41]?.getD undef = (.func (.func 71) #[] #[.pointer (some ⟨B3, 0, none⟩), .pointer (some ⟨B4, 0, none⟩)]) := hd ⟨0, .data⟩ (by simp) rfl (by decide) (by decide) _ _ rfl rfl
      have q42 : a.tmps[42]?.getD undef = (.int .i64 m) := hd ⟨1, .data⟩ (by simp) rfl (by decide) (by decide) _ _ rfl rfl
      have q43 : a.tmps[43]?.getD undef = (.int .i64 i) := hd ⟨2, .data⟩ (by simp) rfl (by decide) (by decide) _ _ rfl rfl
      have q46 : a.tmps[46]?.getD undef = (.slice (some ⟨pb, po, none⟩) L cap) := hd ⟨5, .data⟩ (by simp) rfl (by decide) (by decide) _ _ rfl rfl
      go_simp
      refine (HI.out w1 (HB.out.trans (hE.mono HB.out.size))).mono ?_
      rintro e w2 ⟨rfl, hb2⟩
      exact ⟨rfl, hb2⟩
     ·refine zo rfl ?_
      have q47 : a.tmps[47]?.getD undef = (.tuple #[.agg (u8s X).toArray, .bool ok]) := hd ⟨6, .data⟩ (by simp) rfl (by decide) (by decide) _ _ rfl rfl
      go_simp
      exact Below.refl _ _
     ·refine zo rfl ?_
      have q40 : a.tmps[40]?.getD undef = (.tuple #[.agg (u8s X).toArray, .bool ok]) := hd ⟨7, .data⟩ (by simp) rfl (by decide) (by decide) _ _ rfl rfl
      go_simp
      exact Below.refl _ _
     ·refine zo rfl ?_
      have q40 : a.tmps[40]?.getD undef = (.tuple #[.agg (u8s X).toArray, .bool ok]) := hd ⟨7, .data⟩ (by simp) rfl (by decide) (by decide) _ _ rfl rfl
      go_simp
      exact Below.refl _ _
     ·exact absurd rfl hip
     ·exact absurd rfl his
     ·refine zo rfl ?_
      have q49 : a.tmps[49]?.getD undef = (.bool ok) := hd ⟨9, .data⟩ (by simp) rfl (by decide) (by decide) _ _ rfl rfl
      go_simp
      exact Below.refl _ _
    case hend =>
     intro ad w1 hE had hAd
     have HB1 := Lib.hid (HB.out.trans (hE.mono HB.out.size))
     have HA1 := Lib.hid (HA8.out.below' hE)
     have HAd := Lib.hid hAd
     have hadn : ad ≠ w.heap.size := by have := HA8.out.lt; omega
     clear hE hAd HA8 HI
     simp only [znb, List.map_cons, List.map_nil, List.set_cons_zero, List.set_cons_succ, List.zip_cons_cons, List.zip_nil_right, Act.put, List.setIfInBounds_toArray]
     go_wp2
     refine zel [(.agg (u8s X).toArray), (.slice (some ⟨pb, po, none⟩) (L + 1) cap), (.int .i64 L), (.pointer (some ⟨pb, po + L * 32, none⟩)), (.agg (u8s x).toArray), (.agg (u8s (Sha.pair X x)).toArray), (.bool ok), undef, (.bool ok)] 7 w.heap.size 0 47 47 (u8s (Sha.pair X x)) (u8s (List.replicate 32 0)) _ (.tmp 8) (.tmp 55) (by kernel_rfl) (by kernel_rfl) rfl HA1.out (by rw [zh, Sha.pair_len, zh, List.length_replicate]; decide)
      rfl rfl rfl rfl (by rw [zh, Sha.pair_len]; kernel_rfl) (zsc _) (by kernel_rfl) ?hstore ?hstep ?hend
     case hstore =>
      intro a w2 hE hR hd
      have q55 : a.tmps[55]?.getD undef = (.agg (u8s (Sha.pair X x)).toArray) := hd ⟨5, .data⟩ (by simp) rfl _ _ rfl rfl
      have q8 : a.tmps[8]?.getD undef = (.pointer (some ⟨w.heap.size, 0, none⟩)) := hR.evalD rfl rfl
      simp [Act.eval, q55, q8, Value.cells]
     case hstep =>
      refine zgd ⟨?_, ?_, ?_, ?_, ?_, ?_, ?_, ?_, ?_, trivial⟩ <;> intro his a w2 hE hR hd
      ·refine zo rfl ?_
       have q12 : a.tmps[12]?.getD undef = (.pointer (some ⟨ad, 0, none⟩)) := hR.evalD rfl rfl
       refine zid _ _ rfl ad 0 (by simpa [Act.eval] using q12) (u8s X) (by rw [zh, HXl.out]; exact agg32) (fun j v hv => by rw [Nat.zero_add]; exact (HAd.out.grown hE (by intro h; cases h; exact hadn rfl)).cell hv) ?_
       exact ⟨rfl, Below.refl _ _⟩
      ·refine zo rfl ?_
       have q2 : a.tmps[2]?.getD undef = (.slice (some ⟨pb, po, none⟩) (L + 1) cap) := hR.evalD rfl rfl
       go_simp
       exact Below.refl _ _
      ·refine zo rfl ?_
       have q11 : a.tmps[11]?.getD undef = (.int .i64 L) := hR.evalD rfl rfl
       go_simp
       exact Below.refl _ _
      ·refine zo rfl ?_
       have q51 : a.tmps[51]?.getD undef = (.slice (some ⟨pb, po, none⟩) (L + 1) cap) := hd ⟨1, .data⟩ (by simp) rfl (by decide) _ _ rfl rfl
       have q52 : a.tmps[52]?.getD undef = (.int .i64 L) := hd ⟨2, .data⟩ (by simp) rfl (by decide) _ _ rfl rfl
       have hLL : (L : Int) < (L : Int) + 1 := by omega
       go_simp
       exact Below.refl _ _
      ·refine zo rfl ?_
       have q53 : a.tmps[53]?.getD undef = (.pointer (some ⟨pb, po + L * 32, none⟩)) := hd ⟨3, .data⟩ (by simp) rfl (by decide) _ _ rfl rfl
       refine zid _ _ rfl pb (po + L * 32) (by simpa [Act.eval] using q53) (u8s x) (by rw [zh, Hx.out]; exact agg32) (fun j v hv => ?_) ?_
       ·have hc := HX.out j v hv
        exact hE.cell ((HB1.out.cell (block_lt_of_cell hc)).trans hc) (by intro h; have := block_lt_of_cell hc; cases h; simp at this)
       exact ⟨rfl, Below.refl _ _⟩
      ·refine zo rfl ?_
       have q50 : a.tmps[50]?.getD undef = (.agg (u8s X).toArray) := hd ⟨0, .data⟩ (by simp) rfl (by decide) _ _ rfl rfl
       have q54 : a.tmps[54]?.getD undef = (.agg (u8s x).toArray) := hd ⟨4, .data⟩ (by simp) rfl (by decide) _ _ rfl rfl
       go_simp
       refine (znm X x w2 (HG.out.below' (HB1.out.grown hE HB1.out.size (by intro k hk; cases hk; exact Nat.le_refl _))) HXl.out Hx.out).mono ?_
       rintro e w3 ⟨rfl, hb3⟩
       exact ⟨rfl, hb3⟩
      ·refine zo rfl ?_
       have q13 : a.tmps[13]?.getD undef = (.bool ok) := hR.evalD rfl rfl
       go_simp
       exact Below.refl _ _
      ·exact absurd rfl his
      ·refine zo rfl ?_
       have q56 : a.tmps[56]?.getD undef = (.bool ok) := hd ⟨6, .data⟩ (by simp) rfl (by decide) _ _ rfl rfl
       go_simp
       exact Below.refl _ _
     case hend =>
      intro w2 hE hA2
      rw [zcc _ _ (by rw [zh, zh, List.length_replicate, Sha.pair_len])] at hA2
      have HB2 := Lib.hid (HB1.out.grown hE HB1.out.size (by intro k hk; cases hk; exact Nat.le_refl _))
      have HA2 := Lib.hid hA2
      clear hA2 hE
      simp only [znb, List.map_cons, List.map_nil, List.set_cons_zero, List.set_cons_succ, List.zip_cons_cons, List.zip_nil_right, Act.put, List.setIfInBounds_toArray]
      go_wp2
      refine zfe rfl rfl w.heap.size rfl _ HA2.out (by rw [zh, Sha.pair_len]; exact agg32) ⟨?_, HB2.out⟩
      rw [HC.out]
      rfl
   ·have HC := Lib.hid (show Sha.climb b (x :: q.reverse) n i = (Sha.pair x (Sha.climb b q.reverse (n - m) (i - m)).1, (Sha.climb b q.reverse (n - m) (i - m)).2) by simp only [Sha.climb]; rw [if_neg h1, if_neg (by rw [← HM.out]; exact hlt), ← HM.out])
    obtain ⟨X, hX⟩ : ∃ X, X = (Sha.climb b q.reverse (n - m) (i - m)).1 := ⟨_, rfl⟩
    obtain ⟨ok, hok⟩ : ∃ ok, ok = (Sha.climb b q.reverse (n - m) (i - m)).2 := ⟨_, rfl⟩
    have HI := Lib.hid (fun (W : World) (hb : Below w.heap.size w W) => ihq (.slice (some ⟨pb, po, none⟩) L cap) (n - m) (i - m) W rfl (HG.out.below' hb) (H3.out.below' hb) (HS.out.below hb) (H4.out.below' hb) (by rw [← HL.out]; exact HPq.out.below hb) Hq.out (by have := HL.out; omega) (by omega) (by omega) (by omega))
    rw [← hX, ← hok] at HC HI
    have HXl := Lib.hid (show X.length = 32 by rw [hX]; exact Sha.climb_len _ _ _ _)
    clear hX hok ihq
    go_enter Tryd.func71, Tryd.ntmps71
    go_wp2_with (go_at_call 61; refine Hid.out ?_)
    refine stop ?_
    refine (z1j n _ h2 (by omega)).mono ?_
    rintro e W ⟨rfl, hW⟩
    have HB := Lib.hid (show Below w.heap.size w W by rw [← hW]; exact (Below.refl _ _).alloc (Nat.le_refl _) _)
    have HA8 := Lib.hid (show Arr W w.heap.size (u8s (List.replicate 32 0)) by rw [← hW]; exact Arr.new w (u8s (List.replicate 32 0)) _)
    rw [← HM.out]
    clear hW
    go_wp2
    refine zfj [(.func (.func 71) #[] #[.pointer (some ⟨B3, 0, none⟩), .pointer (some ⟨B4, 0, none⟩)]), (.int .i64 n), (.int .i64 m), (.int .i64 ((n : Int) - m)), (.int .i64 i), (.int .i64 m), (.int .i64 ((i : Int) - m)), (.slice (some ⟨pb, po, none⟩) (L + 1) cap), (.int .i64 L), (.slice (some ⟨pb, po, none⟩) L cap), (.tuple #[.agg (u8s X).toArray, .bool ok]), (.tuple #[.agg (u8s X).toArray, .bool ok]), (.agg (u8s X).toArray), (.bool ok), undef, undef, (.bool ok)] 14 15 47 (u8s (List.replicate 32 0)) (u8s X) (.agg (u8s (List.replicate 32 0)).toArray) 14 _ _ (.tmp 69) (by kernel_rfl) (by kernel_rfl) rfl (by decide) rfl rfl rfl rfl (by rw [zh, HXl.out]; kernel_rfl) rfl (by rw [zh, zh, HXl.out]; rfl)
     rfl rfl rfl rfl ⟨⟨14, .data⟩, by simp, rfl, rfl⟩ (zsc _) (by kernel_rfl) ?hstore ?hstep ?hend
    case hstore =>
     intro a w1 hE hR hd
     have q69 : a.tmps[69]?.getD undef = (.agg (u8s X).toArray) := hd ⟨12, .data⟩ (by simp) rfl (by decide) _ _ rfl rfl
     simp [Act.eval, q69, Value.cells]
    case hstep =>
     refine zgd ⟨?_, ?_, ?_, ?_, ?_, ?_, ?_, ?_, ?_, ?_, ?_, ?_, ?_, ?_, ?_, ?_, ?_, trivial⟩ <;> intro hip his a w1 hE hR hd
     ·refine zo rfl ?_
      have q4 : a.tmps[4]?.getD undef = (.pointer (some ⟨B4, 0, none⟩)) := hR.evalD rfl rfl
      have c4 : w1.cell? ⟨B4, 0, none⟩ = _ := (hE.cell (block_lt_of_cell ((H4.out.below' HB.out).cell (i := 0) rfl))).trans ((H4.out.below' HB.out).cell (i := 0) rfl)
      go_simp
      exact Below.refl _ _
     ·refine zo rfl ?_
      have q0 : a.tmps[0]?.getD undef = (.int .i64 n) := hR.evalD rfl rfl
      go_simp
      exact Below.refl _ _
     ·refine zo rfl ?_
      have q10 : a.tmps[10]?.getD undef = (.int .i64 m) := hR.evalD rfl rfl
      go_simp
      exact Below.refl _ _
     ·refine zo rfl ?_
      have q59 : a.tmps[59]?.getD undef = (.int .i64 n) := hd ⟨1, .data⟩ (by simp) rfl (by decide) (by decide) _ _ rfl rfl
      have q60 : a.tmps[60]?.getD undef = (.int .i64 m) := hd ⟨2, .data⟩ (by simp) rfl (by decide) (by decide) _ _ rfl rfl
      have ew : IntKind.i64.wrap ((n : Int) - m) = (n : Int) - m := IntWalk.i64_in _ (by omega)
      go_simp
      exact Below.refl _ _
     ·refine zo rfl ?_
      have q1 : a.tmps[1]?.getD undef = (.int .i64 i) := hR.evalD rfl rfl
      go_simp
      exact Below.refl _ _
     ·refine zo rfl ?_
      have q10 : a.tmps[10]?.getD undef = (.int .i64 m) := hR.evalD rfl rfl
      go_simp
      exact Below.refl _ _
     ·refine zo rfl ?_
      have q62 : a.tmps[62]?.getD undef = (.int .i64 i) := hd ⟨4, .data⟩ (by simp) rfl (by decide) (by decide) _ _ rfl rfl
      have q63 : a.tmps[63]?.getD undef = (.int .i64 m) := hd ⟨5, .data⟩ (by simp) rfl (by decide) (by decide) _ _ rfl rfl
      have ew : IntKind.i64.wrap ((i : Int) - m) = (i : Int) - m := IntWalk.i64_in _ (by omega)
      go_simp
      exact Below.refl _ _
     ·refine zo rfl ?_
      have q2 : a.tmps[2]?.getD undef = (.slice (some ⟨pb, po, none⟩) (L + 1) cap) := hR.evalD rfl rfl
      go_simp
      exact Below.refl _ _
     ·refine zo rfl ?_
      have q11 : a.tmps[11]?.getD undef = (.int .i64 L) := hR.evalD rfl rfl
      go_simp
      exact Below.refl _ _
     ·refine zo rfl ?_
      have q65 : a.tmps[65]?.getD undef = (.slice (some ⟨pb, po, none⟩) (L + 1) cap) := hd ⟨7, .data⟩ (by simp) rfl (by decide) (by decide) _ _ rfl rfl
      have q66 : a.tmps[66]?.getD undef = (.int .i64 L) := hd ⟨8, .data⟩ (by simp) rfl (by decide) (by decide) _ _ rfl rfl
      have hLc : L ≤ cap := by omega
      go_simp
      exact Below.refl _ _
     ·refine zo rfl ?_
      have q58 : a.tmps[58]?.getD undef = (.func (.func 71) #[] #[.pointer (some ⟨B3, 0, none⟩), .pointer (some ⟨B4, 0, none⟩)]) := hd ⟨0, .data⟩ (by simp) rfl (by decide) (by decide) _ _ rfl rfl
      have q61 : a.tmps[61]?.getD undef = (.int .i64 ((n : Int) - m)) := hd ⟨3, .data⟩ (by simp) rfl (by decide) (by decide) _ _ rfl rfl
      have q64 : a.tmps[64]?.getD undef = (.int .i64 ((i : Int) - m)) := hd ⟨6, .data⟩ (by simp) rfl (by decide) (by decide) _ _ rfl rfl
      have q67 : a.tmps[67]?.getD undef = (.slice (some ⟨pb, po, none⟩) L cap) := hd ⟨9, .data⟩ (by simp) rfl (by decide) (by decide) _ _ rfl rfl
      go_simp
      have en : (n : Int) - m = ((n - m : Nat) : Int) := by omega
      have ei : (i : Int) - m = ((i - m : Nat) : Int) := by omega
      rw [en, ei]
      refine (HI.out w1 (HB.out.trans (hE.mono HB.out.size))).mono ?_
      rintro e w2 ⟨rfl, hb2⟩
      exact ⟨rfl, hb2⟩
     ·refine zo rfl ?_
      have q68 : a.tmps[68]?.getD undef = (.tuple #[.agg (u8s X).toArray, .bool ok]) := hd ⟨10, .data⟩ (by simp) rfl (by decide) (by decide) _ _ rfl rfl
      go_simp
      exact Below.refl _ _
     ·refine zo rfl ?_
      have q57 : a.tmps[57]?.getD undef = (.tuple #[.agg (u8s X).toArray, .bool ok]) := hd ⟨11, .data⟩ (by simp) rfl (by decide) (by decide) _ _ rfl rfl
      go_simp
      exact Below.refl _ _
     ·refine zo rfl ?_
      have q57 : a.tmps[57]?.getD undef = (.tuple #[.agg (u8s X).toArray, .bool ok]) := hd ⟨11, .data⟩ (by simp) rfl (by decide) (by decide) _ _ rfl rfl
      go_simp
      exact Below.refl _ _
     ·exact absurd rfl hip
     ·exact absurd rfl his
     ·refine zo rfl ?_
      have q70 : a.tmps[70]?.getD undef = (.bool ok) := hd ⟨13, .data⟩ (by simp) rfl (by decide) (by decide) _ _ rfl rfl
      go_simp
      exact Below.refl _ _
    case hend =>
     intro ad w1 hE had hAd
     have HB1 := Lib.hid (HB.out.trans (hE.mono HB.out.size))
     have HA1 := Lib.hid (HA8.out.below' hE)
     have HAd := Lib.hid hAd
     have hadn : ad ≠ w.heap.size := by have := HA8.out.lt; omega
     clear hE hAd HA8 HI
     simp only [znb, List.map_cons, List.map_nil, List.set_cons_zero, List.set_cons_succ, List.zip_cons_cons, List.zip_nil_right, Act.put, List.setIfInBounds_toArray]
     go_wp2
     refine zel [(.slice (some ⟨pb, po, none⟩) (L + 1) cap), (.int .i64 L), (.pointer (some ⟨pb, po + L * 32, none⟩)), (.agg (u8s x).toArray), (.agg (u8s X).toArray), (.agg (u8s (Sha.pair x X)).toArray), (.bool ok), undef, (.bool ok)] 7 w.heap.size 0 47 47 (u8s (Sha.pair x X)) (u8s (List.replicate 32 0)) _ (.tmp 8) (.tmp 76) (by kernel_rfl) (by kernel_rfl) rfl HA1.out (by rw [zh, Sha.pair_len, zh, List.length_replicate]; decide)
      rfl rfl rfl rfl (by rw [zh, Sha.pair_len]; kernel_rfl) (zsc _) (by kernel_rfl) ?hstore ?hstep ?hend
     case hstore =>
      intro a w2 hE hR hd
      have q76 : a.tmps[76]?.getD undef = (.agg (u8s (Sha.pair x X)).toArray) := hd ⟨5, .data⟩ (by simp) rfl _ _ rfl rfl
      have q8 : a.tmps[8]?.getD undef = (.pointer (some ⟨w.heap.size, 0, none⟩)) := hR.evalD rfl rfl
      simp [Act.eval, q76, q8, Value.cells]
     case hstep =>
      refine zgd ⟨?_, ?_, ?_, ?_, ?_, ?_, ?_, ?_, ?_, trivial⟩ <;> intro his a w2 hE hR hd
      ·refine zo rfl ?_
       have q2 : a.tmps[2]?.getD undef = (.slice (some ⟨pb, po, none⟩) (L + 1) cap) := hR.evalD rfl rfl
       go_simp
       exact Below.refl _ _
      ·refine zo rfl ?_
       have q11 : a.tmps[11]?.getD undef = (.int .i64 L) := hR.evalD rfl rfl
       go_simp
       exact Below.refl _ _
      ·refine zo rfl ?_
       have q71 : a.tmps[71]?.getD undef = (.slice (some ⟨pb, po, none⟩) (L + 1) cap) := hd ⟨0, .data⟩ (by simp) rfl (by decide) _ _ rfl rfl
       have q72 : a.tmps[72]?.getD undef = (.int .i64 L) := hd ⟨1, .data⟩ (by simp) rfl (by decide) _ _ rfl rfl
       have hLL : (L : Int) < (L : Int) + 1 := by omega
       go_simp
       exact Below.refl _ _
      ·refine zo rfl ?_
       have q73 : a.tmps[73]?.getD undef = (.pointer (some ⟨pb, po + L * 32, none⟩)) := hd ⟨2, .data⟩ (by simp) rfl (by decide) _ _ rfl rfl
       refine zid _ _ rfl pb (po + L * 32) (by simpa [Act.eval] using q73) (u8s x) (by rw [zh, Hx.out]; exact agg32) (fun j v hv => ?_) ?_
       ·have hc := HX.out j v hv
        exact hE.cell ((HB1.out.cell (block_lt_of_cell hc)).trans hc) (by intro h; have := block_lt_of_cell hc; cases h; simp at this)
       exact ⟨rfl, Below.refl _ _⟩
      ·refine zo rfl ?_
       have q14 : a.tmps[14]?.getD undef = (.pointer (some ⟨ad, 0, none⟩)) := hR.evalD rfl rfl
       refine zid _ _ rfl ad 0 (by simpa [Act.eval] using q14) (u8s X) (by rw [zh, HXl.out]; exact agg32) (fun j v hv => by rw [Nat.zero_add]; exact (HAd.out.grown hE (by intro h; cases h; exact hadn rfl)).cell hv) ?_
       exact ⟨rfl, Below.refl _ _⟩
      ·refine zo rfl ?_
       have q74 : a.tmps[74]?.getD undef = (.agg (u8s x).toArray) := hd ⟨3, .data⟩ (by simp) rfl (by decide) _ _ rfl rfl
       have q75 : a.tmps[75]?.getD undef = (.agg (u8s X).toArray) := hd ⟨4, .data⟩ (by simp) rfl (by decide) _ _ rfl rfl
       go_simp
       refine (znm x X w2 (HG.out.below' (HB1.out.grown hE HB1.out.size (by intro k hk; cases hk; exact Nat.le_refl _))) Hx.out HXl.out).mono ?_
       rintro e w3 ⟨rfl, hb3⟩
       exact ⟨rfl, hb3⟩
      ·refine zo rfl ?_
       have q15 : a.tmps[15]?.getD undef = (.bool ok) := hR.evalD rfl rfl
       go_simp
       exact Below.refl _ _
      ·exact absurd rfl his
      ·refine zo rfl ?_
       have q77 : a.tmps[77]?.getD undef = (.bool ok) := hd ⟨6, .data⟩ (by simp) rfl (by decide) _ _ rfl rfl
       go_simp
       exact Below.refl _ _
     case hend =>
      intro w2 hE hA2
      rw [zcc _ _ (by rw [zh, zh, List.length_replicate, Sha.pair_len])] at hA2
      have HB2 := Lib.hid (HB1.out.grown hE HB1.out.size (by intro k hk; cases hk; exact Nat.le_refl _))
      have HA2 := Lib.hid hA2
      clear hA2 hE
      simp only [znb, List.map_cons, List.map_nil, List.set_cons_zero, List.set_cons_succ, List.zip_cons_cons, List.zip_nil_right, Act.put, List.setIfInBounds_toArray]
      go_wp2
      refine zfe rfl rfl w.heap.size rfl _ HA2.out (by rw [zh, Sha.pair_len]; exact agg32) ⟨?_, HB2.out⟩
      rw [HC.out]
      rfl
end Go.Proofs.YtbaccmkhjmmlnaaDoor
namespace Go.Proofs.YtbaccmkhjmmlnaaDoor
section
open Go.RowKit
theorem zbt : (Tryd.prog).eqGuardType (Tryd.prog).depth 47 = false := by kernel_rfl
theorem zaw (l1 l2 : List UInt8) (h1 : l1.length = 32) (h2 : l2.length = 32) (w : World) :
  (Op.equalIn 10000 47 (.agg (u8s l1).toArray) (.agg (u8s l2).toArray)).run Tryd.prog w = .ok (l1 == l2) w :=
 run_equalIn_bytes w 9998 47 5 32 (by kernel_rfl) (by kernel_rfl) (fun _ => by kernel_rfl) l1 l2 h1 h2
theorem zkh {P : Program} {ops : Array Oper} {rest : List Oper} {o : Oper} {a : Act} {w : World} {Q : Exit → Act → World → Prop} (hw : Region.wanted o (yielded ops a.tmps) = true) (ty : TypeId) (x : Operand) (ho : o.op = .load ty x) (g off : Nat) (hx : a.eval x = .pointer (some ⟨g, off, none⟩))
  (cs : List Value) (hT : AggT P ty cs.length) (hc : ∀ j v, cs[j]? = some v → w.cell? ⟨g, off + j, none⟩ = some v)
  (h : wpList P ops Q rest (a.put o.dst (.agg cs.toArray)) w) : wpList P ops Q (o :: rest) a w :=
 BigFrame.wpList_want hw fun _ hK => zid ty x ho g off hx cs hT hc (hK _ _ h)
end
section
open Go.RowKit
theorem zyg {P : Program} {ops : Array Oper} {rest : List Oper} {o : Oper} {a : Act} {w : World} {Q : Exit → Act → World → Prop} (hgd : o.guard = none) (hd : o.dst = none) (ty : TypeId) (x y : Operand) (ho : o.op = .store ty x y) (g off : Nat) (hx : a.eval x = .pointer (some ⟨g, off, none⟩))
  (cs : List Value) (hy : (a.eval y).cells = cs.toArray) (hT : (P.info? ty).map (·.size) = some cs.length) (h1 : ∀ v ∈ cs, v.oneCell' = true) (cur : List Value) (hA : Arr w g cur) (hfit : off + cs.length ≤ cur.length)
  (h : ∀ w', Arr w' g (lay cur off cs) → w.grownBy w' (some g) → wpList P ops Q rest a w') : wpList P ops Q (o :: rest) a w := by
 obtain ⟨T, hg⟩ := hA
 have hs : (storeCells ⟨g, off, none⟩ cs).run P w = .ok () (w.setRow g (lay cur off cs).toArray) := by
  have := run_storeCells_at P g off T cs 0 cur.toArray w hg (by simpa using hfit) h1
  simpa [lay] using this
 refine wpList_plain hgd fun K hK => ?_
 unfold Oper.wp
 have : (execOp a.eval o).run P w = .ok .skip (w.setRow g (lay cur off cs).toArray) := by
  simp only [execOp, ho, hx]
  simp [Instr.storeAt, Instr.sureAddr, storeVar, Sem.run_bind, hy, z7c hT, hs, Result.andThen]
 rw [this, Oper.upon_skip, hd]
 exact hK _ _ (h _ (Arr.setRow ⟨T, hg⟩ _) (zqd _ _ _))
set_option maxHeartbeats 400000 in
theorem z8s (root b : List UInt8) (n i : Int) (p : List (List UInt8)) (bv pv : Value) (w : World) (hr : root.length = 32) (hb : b.length ≤ 900000) (hg : Glob w) (hS : Sl w bv b.length (u8s b)) (hP : Sl w pv p.length (sums p)) (h32 : Len32 p) (hpn : p.length ≤ 1000000) (hn : n ≤ 4294967296) :
  Calls Tryd.prog 46 #[.agg (u8s root).toArray, .int .i64 n, .int .i64 i, bv, pv] w fun e w' => e = .returned (.bool (Sha.check root n i b p)) ∧ Below w.heap.size w w' := by
 obtain ⟨ao, cap, rfl⟩ := zlg hP
 obtain ⟨bao, bcap, rfl⟩ := zlg hS
 have HG := Lib.hid hg
 have HS := Lib.hid hS
 have HP := Lib.hid hP
 have H32 := Lib.hid h32
 have HR := Lib.hid hr
 clear hg hS hP h32 hr
 by_cases hi0 : i < 0
 ·have hc : Sha.check root n i b p = false := by unfold Sha.check; rw [if_pos (.inl hi0)]
  rw [hc]
  go_enter Tryd.func46, Tryd.ntmps46
  go_wp2
  exact bodyPost_ret (results_tmp rfl _ _ _) rfl ⟨rfl, ((Below.refl _ _).alloc (Nat.le_refl _) _).alloc (by simp) _⟩
 ·by_cases hin : n ≤ i
  ·have hc : Sha.check root n i b p = false := by unfold Sha.check; rw [if_pos (.inr hin)]
   rw [hc]
   go_enter Tryd.func46, Tryd.ntmps46
   go_wp2
   exact bodyPost_ret (results_tmp rfl _ _ _) rfl ⟨rfl, ((Below.refl _ _).alloc (Nat.le_refl _) _).alloc (by simp) _⟩
  ·have hc : Sha.check root n i b p = ((Sha.climb b p.reverse n.toNat i.toNat).2 && decide ((Sha.climb b p.reverse n.toNat i.toNat).1 = root)) := by unfold Sha.check; rw [if_neg (by omega)]
   obtain ⟨n', rfl⟩ : ∃ n' : Nat, n = n' := ⟨n.toNat, by omega⟩
   obtain ⟨i', rfl⟩ : ∃ i' : Nat, i = i' := ⟨i.toNat, by omega⟩
   rw [Int.toNat_natCast, Int.toNat_natCast] at hc
   have HC := Lib.hid hc
   clear hc
   go_enter Tryd.func46, Tryd.ntmps46
   go_wp2_with (refine zyg rfl rfl _ _ _ rfl (w.heap.size + 1 + 1) 0 rfl [_] rfl (by kernel_rfl) (by intro v hv; simp only [List.mem_singleton] at hv; subst hv; rfl) [.nilFunc] (Arr.newAt (by simp) [_] _) (by simp) (fun W hA hW => Hid.out ?_))
   refine stop ?_
   have hB0 : Below w.heap.size w W := ((((Below.refl _ _).alloc (Nat.le_refl _) _).alloc (by simp) _).alloc (by simp; omega) _).grown hW (by simp; omega) (by intro k hk; cases hk; omega)
   have hA5 : Arr W w.heap.size (u8s root) := ((((Arr.new w (u8s root) _).alloc _).alloc _).grown hW (by simp; omega))
   have hA8 : Arr W (w.heap.size + 1) [.slice bao b.length bcap] := (((Arr.newAt (by simp) [_] _).alloc _).grown hW (by simp))
   have hA11 : Arr W (w.heap.size + 1 + 1) [.func (.func 71) #[] #[.pointer (some ⟨w.heap.size + 1, 0, none⟩), .pointer (some ⟨w.heap.size + 1 + 1, 0, none⟩)]] := hA
   have hc11 := hA11.cell (i := 0) rfl
   have HB0 := Lib.hid hB0
   have HA5 := Lib.hid hA5
   have HA8 := Lib.hid hA8
   have HA11 := Lib.hid hA11
   clear hA hW hB0 hA5 hA8 hA11
   go_wp2_with (go_at_call 71; refine Hid.out ?_)
   refine stop ?_
   refine (zqt b (w.heap.size + 1) (w.heap.size + 1 + 1) _ hb _ p _ n' i' _ rfl (HG.out.below' HB0.out) HA8.out (HS.out.below HB0.out) HA11.out (HP.out.below HB0.out) H32.out hpn (by omega) (by omega) (by omega)).mono ?_
   rintro e W2 ⟨rfl, hb2⟩
   obtain ⟨X, hX⟩ : ∃ X, X = (Sha.climb b p.reverse n' i').1 := ⟨_, rfl⟩
   obtain ⟨ok, hok⟩ : ∃ ok, ok = (Sha.climb b p.reverse n' i').2 := ⟨_, rfl⟩
   have hXl : X.length = 32 := by rw [hX]; exact Sha.climb_len _ _ _ _
   rw [← hX, ← hok] at HC ⊢
   have HXl := Lib.hid hXl
   have HB2 := Lib.hid (HB0.out.trans (hb2.mono HB0.out.size))
   have HA52 := Lib.hid (HA5.out.below' hb2)
   clear hX hok hXl hb2 hc11
   cases ok with
   | false =>
    go_wp2_with (refine zyg rfl rfl _ _ _ rfl _ 0 rfl (u8s X) rfl (by rw [zh, HXl.out]; kernel_rfl) (zsc _) (u8s (List.replicate 32 0)) (Arr.new _ (u8s (List.replicate 32 0)) _) (by rw [zh, zh, List.length_replicate, HXl.out]; decide) (fun W3 hA3 hW3 => Hid.out ?_))
    refine stop ?_
    have HB3 := Lib.hid ((HB2.out.alloc HB2.out.size _).grown hW3 (by have := HB2.out.size; simp; omega) (by intro k hk; cases hk; exact HB2.out.size))
    clear hA3 hW3
    go_wp2
    exact bodyPost_ret (results_tmp rfl _ _ _) rfl ⟨by rw [HC.out]; rfl, HB3.out⟩
   | true =>
    go_wp2_with (refine zyg rfl rfl _ _ _ rfl _ 0 rfl (u8s X) rfl (by rw [zh, HXl.out]; kernel_rfl) (zsc _) (u8s (List.replicate 32 0)) (Arr.new _ (u8s (List.replicate 32 0)) _) (by rw [zh, zh, List.length_replicate, HXl.out]; decide) (fun W3 hA3 hW3 => Hid.out ?_))
    refine stop ?_
    rw [zcc _ _ (by rw [zh, zh, List.length_replicate, HXl.out])] at hA3
    have HB3 := Lib.hid ((HB2.out.alloc HB2.out.size _).grown hW3 (by have := HB2.out.size; simp; omega) (by intro k hk; cases hk; exact HB2.out.size))
    have HA3 := Lib.hid hA3
    have HA53 := Lib.hid ((HA52.out.alloc _).grown hW3 (by have := HA52.out.lt; intro h; simp only [Option.some.injEq] at h; omega))
    have qe := zaw X root HXl.out HR.out
    have qg := zbt
    clear hA3 hW3
    go_wp2_with (first
     | (refine zkh rfl _ _ rfl W2.heap.size 0 rfl (u8s X) (by rw [zh, HXl.out]; exact agg32) (fun j v hv => by rw [Nat.zero_add]; exact HA3.out.cell hv) ?_)
     | (refine zkh rfl _ _ rfl w.heap.size 0 rfl (u8s root) (by rw [zh, HR.out]; exact agg32) (fun j v hv => by rw [Nat.zero_add]; exact HA53.out.cell hv) ?_))
    refine bodyPost_ret (results_tmp rfl _ _ _) rfl ⟨?_, HB3.out⟩
    rw [HC.out]
    refine znv ?_
    rw [Bool.true_and]
    exact Bool.eq_iff_iff.2 (by simp)
end
section
open Go.RowKit
theorem zfl {w1 w2 w3 : World} {r : Option Nat} (h : w1.grownBy w2 r) (k : w2.grownBy w3 r) : w1.grownBy w3 r :=
 ⟨k.os.trans h.os, k.tape.trans h.tape, k.output.trans h.output, Nat.le_trans h.size k.size, fun i hi hr => (k.block i (Nat.lt_of_lt_of_le hi h.size) hr).trans (h.block i hi hr)⟩
theorem z4p {w1 w2 : World} {r : Option Nat} (h : w1.grownBy w2 r) : w1.grownBy w2.drew r := ⟨h.os, h.tape, h.output, h.size, h.block⟩
def SameT (g : Nat) (w w' : World) : Prop := ∀ cs T, w.heap[g]? = some (.cells cs T) → ∃ cs', w'.heap[g]? = some (.cells cs' T)
theorem SameT.refl (g : Nat) (w : World) : SameT g w w := fun cs _ h => ⟨cs, h⟩
theorem SameT.trans {g : Nat} {a b c : World} (h : SameT g a b) (k : SameT g b c) : SameT g a c := fun cs T hT => by
 obtain ⟨cs', h'⟩ := h cs T hT; exact k cs' T h'
theorem SameT.drew {g : Nat} {a b : World} (h : SameT g a b) : SameT g a b.drew := h
theorem zsj {P : Program} {o : Oper} {a : Act} {w : World} {Q : Exit → Act → World → Prop} {K : Act → World → Prop} (hd : o.dst = none) (ty : TypeId) (x y : Operand) (ho : o.op = .store ty x y) (g off : Nat) (hx : a.eval x = .pointer (some ⟨g, off, none⟩))
  (cs : List Value) (hy : a.eval y = .agg cs.toArray) (hT : (P.info? ty).map (·.size) = some cs.length) (h1 : ∀ v ∈ cs, v.oneCell' = true) (cur : List Value) (hA : Arr w g cur) (hfit : off + cs.length ≤ cur.length)
  (h : ∀ w', Arr w' g (lay cur off cs) → w.grownBy w' (some g) → SameT g w w' → K a w') : o.wp P a w K Q := by
 obtain ⟨T, hg⟩ := hA
 have hs : (storeCells ⟨g, off, none⟩ cs).run P w = .ok () (w.setRow g (lay cur off cs).toArray) := by
  have := run_storeCells_at P g off T cs 0 cur.toArray w hg (by simpa using hfit) h1
  simpa [lay] using this
 unfold Oper.wp
 have : (execOp a.eval o).run P w = .ok .skip (w.setRow g (lay cur off cs).toArray) := by
  simp only [execOp, ho, hx, hy]
  simp [Instr.storeAt, Instr.sureAddr, storeVar, Sem.run_bind, Value.cells, z7c hT, hs, Result.andThen]
 rw [this, Oper.upon_skip, hd]
 exact h _ (Arr.setRow ⟨T, hg⟩ _) (zqd _ _ _) (fun cs' T' h' => ⟨_, by
  simp only [World.setRow, Array.getElem?_modify, if_pos, h']; rfl⟩)
def RevS (g : Nat) (w : World) (c0 c1 c2 : List Value) (S : Nat → Bool) (w' : World) : Prop :=
 (w.grownBy w' (some g) ∧ SameT g w w') ∧ Arr w' g (if S 15 then c2 else if S 13 then c1 else c0)
theorem RevS.same {g : Nat} {w w' : World} {c0 c1 c2 : List Value} {S S' : Nat → Bool} {i : Nat} (h : RevS g w c0 c1 c2 S w') (hS : ∀ j, S' j = if j = i then true else S j) (h1 : i ≠ 13) (h2 : i ≠ 15) : RevS g w c0 c1 c2 S' w' := by
 unfold RevS
 rw [hS 15, hS 13, if_neg (Ne.symm h2), if_neg (Ne.symm h1)]
 exact h
set_option maxHeartbeats 400000 in
theorem z3q (g cap : Nat) (l : List (List UInt8)) (tail : List Value) (w : World) (hn : l.length ≤ 1000000) (hc : l.length ≤ cap) (hcap : cap ≤ 9223372036854775807) (hA : Arr w g (sums l ++ tail)) (hL : Len32 l) :
  Calls Tryd.prog 66 #[.slice (some ⟨g, 0, none⟩) l.length cap] w fun e w' => e = .returned (.tuple #[]) ∧ Arr w' g (sums l.reverse ++ tail) ∧ w.grownBy w' (some g) ∧ SameT g w w' := by
 have HA := Lib.hid hA; clear hA
 have HL := Lib.hid hL; clear hL
 obtain ⟨n, hN⟩ : ∃ n, n = l.length := ⟨_, rfl⟩
 rw [← hN] at hn hc ⊢
 have HN := Lib.hid hN; clear hN
 go_enter Tryd.func66, Tryd.ntmps66
 go_wp2
 go_loopw [2, 3] (fun i j wr => ∃ k : Nat, k + k ≤ n ∧ i = .int .i64 k ∧ j = .int .i64 ((n : Int) - 1 - k) ∧ (w.grownBy wr (some g) ∧ SameT g w wr) ∧ Arr wr g (sums (flip l k) ++ tail)) (fun i j _ => (intOf j - intOf i + 1).toNat)
 case atStart => exact ⟨0, by omega, rfl, by go_num, ⟨World.grownBy.refl _ _, SameT.refl _ _⟩, by rw [z0t]; exact HA.out⟩
 case round =>
  obtain ⟨k, hk, rfl, rfl, hg, hA⟩ := hrel
  by_cases h : (k : Int) < (n : Int) - 1 - k
  ·obtain ⟨j, hj⟩ : ∃ j, j = n - 1 - k := ⟨_, rfl⟩
   have ej : (n : Int) - 1 - k = (j : Nat) := by omega
   rw [ej] at h ⊢
   have hjn : j < n := by omega
   have hkn : k < n := by omega
   have HJ := Lib.hid hj
   have HE := Lib.hid ej
   clear hj ej
   obtain ⟨X, hX⟩ : ∃ X, X = flip l k := ⟨_, rfl⟩
   rw [← hX] at hA
   have hXl : X.length = n := by rw [hX, zae, HN.out]
   have hX32 : Len32 X := by rw [hX]; exact z0s HL.out k
   have hG := Lib.hid hg
   have HX := Lib.hid hX
   have HXA := Lib.hid hA
   have HXl := Lib.hid hXl
   have HX32 := Lib.hid hX32
   clear hX hA hg hXl hX32
   obtain ⟨A, eA⟩ : ∃ A, A = X.getD j [] := ⟨_, rfl⟩
   obtain ⟨B, eB⟩ : ∃ B, B = X.getD k [] := ⟨_, rfl⟩
   have HA := Lib.hid (show A.length = 32 by rw [eA]; exact HX32.out.get (by rw [HXl.out]; exact hjn))
   have HB := Lib.hid (show B.length = 32 by rw [eB]; exact HX32.out.get (by rw [HXl.out]; exact hkn))
   have EA := Lib.hid eA
   have EB := Lib.hid eB
   clear eA eB
   go_wp2
   refine zfo [.slice (some ⟨g, 0, none⟩) n cap, .int .i64 k, .slice (some ⟨g, 0, none⟩) n cap, .int .i64 j, .slice (some ⟨g, 0, none⟩) n cap, .int .i64 j, .pointer (some ⟨g, j * 32, none⟩), .agg (u8s A).toArray,
    .slice (some ⟨g, 0, none⟩) n cap, .int .i64 k, .pointer (some ⟨g, k * 32, none⟩), .agg (u8s B).toArray, .pointer (some ⟨g, k * 32, none⟩), undef, .pointer (some ⟨g, j * 32, none⟩), undef]
    (RevS g w (sums X ++ tail) (sums (X.set k A) ++ tail) (sums ((X.set k A).set j B) ++ tail)) (by kernel_rfl) (by kernel_rfl) rfl ?_ ?_ ?_
   ·intro S hS
    unfold RevS
    rw [hS 13, hS 15]
    exact ⟨⟨z4p hG.out.1, hG.out.2.drew⟩, HXA.out⟩
   ·refine zgd ⟨?_, ?_, ?_, ?_, ?_, ?_, ?_, ?_, ?_, ?_, ?_, ?_, ?_, ?_, ?_, ?_, trivial⟩ <;> intro S S' a w1 hi hb hcl hs hR hd hS' <;> refine zo rfl ?_
    ·have h2 : a.tmps[0]?.getD undef = .slice (some ⟨g, 0, none⟩) n cap := hR.evalD rfl rfl
     go_simp
     exact hs.same hS' (by omega) (by omega)
    ·have h2 : a.tmps[2]?.getD undef = .int .i64 k := hR.evalD rfl rfl
     go_simp
     exact hs.same hS' (by omega) (by omega)
    ·have h2 : a.tmps[0]?.getD undef = .slice (some ⟨g, 0, none⟩) n cap := hR.evalD rfl rfl
     go_simp
     exact hs.same hS' (by omega) (by omega)
    ·have h2 : a.tmps[3]?.getD undef = .int .i64 j := hR.evalD rfl rfl
     go_simp
     exact hs.same hS' (by omega) (by omega)
    ·have h2 : a.tmps[0]?.getD undef = .slice (some ⟨g, 0, none⟩) n cap := hR.evalD rfl rfl
     go_simp
     exact hs.same hS' (by omega) (by omega)
    ·have h2 : a.tmps[3]?.getD undef = .int .i64 j := hR.evalD rfl rfl
     go_simp
     exact hs.same hS' (by omega) (by omega)
    ·have h2 : a.tmps[18]?.getD undef = .slice (some ⟨g, 0, none⟩) n cap := hd ⟨4, .data⟩ (by simp) rfl _ _ rfl rfl
     have h3 : a.tmps[19]?.getD undef = .int .i64 j := hd ⟨5, .data⟩ (by simp) rfl _ _ rfl rfl
     go_simp
     exact hs.same hS' (by omega) (by omega)
    ·have h2 : a.tmps[20]?.getD undef = .pointer (some ⟨g, j * 32, none⟩) := hd ⟨6, .data⟩ (by simp) rfl _ _ rfl rfl
     have q13 : S 13 = false := by
      cases hq : S 13 with
      | false => rfl
      | true => have := hcl 13 _ rfl hq ⟨7, .phase⟩ (by simp) rfl; rw [hi] at this; cases this
     have q15 : S 15 = false := by
      cases hq : S 15 with
      | false => rfl
      | true => have := hcl 15 _ rfl hq ⟨13, .chain⟩ (by simp) rfl; rw [q13] at this; cases this
     have hA0 := hs.2
     rw [q13, q15] at hA0
     refine zid _ _ rfl g (j * 32) (by simpa [Act.eval] using h2) (u8s A) (by rw [zh, HA.out]; exact agg32) (fun q v hv => hA0.cell (zuq HX32.out tail (by rw [HXl.out]; assumption) (by rw [← EA.out]; exact hv))) ?_
     exact ⟨rfl, hs.same hS' (by omega) (by omega)⟩
    ·have h2 : a.tmps[0]?.getD undef = .slice (some ⟨g, 0, none⟩) n cap := hR.evalD rfl rfl
     go_simp
     exact hs.same hS' (by omega) (by omega)
    ·have h2 : a.tmps[2]?.getD undef = .int .i64 k := hR.evalD rfl rfl
     go_simp
     exact hs.same hS' (by omega) (by omega)
    ·have h2 : a.tmps[22]?.getD undef = .slice (some ⟨g, 0, none⟩) n cap := hd ⟨8, .data⟩ (by simp) rfl _ _ rfl rfl
     have h3 : a.tmps[23]?.getD undef = .int .i64 k := hd ⟨9, .data⟩ (by simp) rfl _ _ rfl rfl
     go_simp
     exact hs.same hS' (by omega) (by omega)
    ·have h2 : a.tmps[24]?.getD undef = .pointer (some ⟨g, k * 32, none⟩) := hd ⟨10, .data⟩ (by simp) rfl _ _ rfl rfl
     have q13 : S 13 = false := by
      cases hq : S 13 with
      | false => rfl
      | true => have := hcl 13 _ rfl hq ⟨11, .phase⟩ (by simp) rfl; rw [hi] at this; cases this
     have q15 : S 15 = false := by
      cases hq : S 15 with
      | false => rfl
      | true => have := hcl 15 _ rfl hq ⟨13, .chain⟩ (by simp) rfl; rw [q13] at this; cases this
     have hA0 := hs.2
     rw [q13, q15] at hA0
     refine zid _ _ rfl g (k * 32) (by simpa [Act.eval] using h2) (u8s B) (by rw [zh, HB.out]; exact agg32) (fun q v hv => hA0.cell (zuq HX32.out tail (by rw [HXl.out]; assumption) (by rw [← EB.out]; exact hv))) ?_
     exact ⟨rfl, hs.same hS' (by omega) (by omega)⟩
    ·have h2 : a.tmps[14]?.getD undef = .slice (some ⟨g, 0, none⟩) n cap := hd ⟨0, .data⟩ (by simp) rfl _ _ rfl rfl
     have h3 : a.tmps[15]?.getD undef = .int .i64 k := hd ⟨1, .data⟩ (by simp) rfl _ _ rfl rfl
     go_simp
     exact hs.same hS' (by omega) (by omega)
    ·have h2 : a.tmps[26]?.getD undef = .pointer (some ⟨g, k * 32, none⟩) := hd ⟨12, .data⟩ (by simp) rfl _ _ rfl rfl
     have h3 : a.tmps[21]?.getD undef = .agg (u8s A).toArray := hd ⟨7, .data⟩ (by simp) rfl _ _ rfl rfl
     have q15 : S 15 = false := by
      cases hq : S 15 with
      | false => rfl
      | true => have := hcl 15 _ rfl hq ⟨13, .chain⟩ (by simp) rfl; rw [hi] at this; cases this
     have hA0 := hs.2
     have q13 : S 13 = false := hi
     rw [q13, q15] at hA0
     refine zsj rfl _ _ _ rfl g (k * 32) (by simpa [Act.eval] using h2) (u8s A) (by simpa [Act.eval] using h3) (by rw [zh, HA.out]; exact agg32.2) (zsc _) _ hA0 (by simp only [Bool.false_eq_true, if_false]; rw [List.length_append, zze HX32.out, HXl.out, zh, HA.out]; omega) ?_
     intro w2 hA2 hg2 ht2
     refine ⟨rfl, ⟨zfl hs.1.1 hg2, hs.1.2.trans ht2⟩, ?_⟩
     have s15 : S' 15 = false := (hS' 15).trans ((if_neg (by decide)).trans q15)
     have s13 : S' 13 = true := (hS' 13).trans (if_pos rfl)
     rw [s15, s13]
     simp only [Bool.false_eq_true, if_false, if_true] at hA2 ⊢
     rwa [zqp HX32.out tail (by rw [HXl.out]; exact hkn) HA.out] at hA2
    ·have h2 : a.tmps[16]?.getD undef = .slice (some ⟨g, 0, none⟩) n cap := hd ⟨2, .data⟩ (by simp) rfl _ _ rfl rfl
     have h3 : a.tmps[17]?.getD undef = .int .i64 j := hd ⟨3, .data⟩ (by simp) rfl _ _ rfl rfl
     go_simp
     exact hs.same hS' (by omega) (by omega)
    ·have h2 : a.tmps[27]?.getD undef = .pointer (some ⟨g, j * 32, none⟩) := hd ⟨14, .data⟩ (by simp) rfl _ _ rfl rfl
     have h3 : a.tmps[25]?.getD undef = .agg (u8s B).toArray := hd ⟨11, .data⟩ (by simp) rfl _ _ rfl rfl
     have q13 : S 13 = true := hb ⟨13, .chain⟩ (by simp) rfl
     have q15 : S 15 = false := hi
     have hA0 := hs.2
     rw [q13, q15] at hA0
     simp only [Bool.false_eq_true, if_false, if_true] at hA0
     have hl3 : (X.set k A).length = n := by rw [List.length_set]; exact HXl.out
     have h32 : Len32 (X.set k A) := HX32.out.set HA.out k
     refine zsj rfl _ _ _ rfl g (j * 32) (by simpa [Act.eval] using h2) (u8s B) (by simpa [Act.eval] using h3) (by rw [zh, HB.out]; exact agg32.2) (zsc _) _ hA0 (by rw [List.length_append, zze h32, hl3, zh, HB.out]; omega) ?_
     intro w2 hA2 hg2 ht2
     refine ⟨rfl, ⟨zfl hs.1.1 hg2, hs.1.2.trans ht2⟩, ?_⟩
     have s15 : S' 15 = true := (hS' 15).trans (if_pos rfl)
     rw [s15]
     simp only [if_true]
     rwa [zqp h32 tail (by rw [hl3]; exact hjn) HB.out] at hA2
   ·intro S w1 hS hs
    have hA0 := hs.2
    rw [hS 15 (by decide)] at hA0
    simp only [if_true] at hA0
    have HG2 := Lib.hid hs.1
    have HA2 := Lib.hid hA0
    clear hS hs hA0
    simp only [znb, List.map_cons, List.map_nil, List.zip_cons_cons, List.zip_nil_right, Act.put, List.setIfInBounds_toArray, List.set_cons_zero, List.set_cons_succ]
    go_wp2
    go_round
    case rel =>
     refine ⟨k + 1, by have := HE.out; omega, by go_num, by have := HE.out; go_num, HG2.out, ?_⟩
     have hf : flip l (k + 1) = (X.set k A).set j B := by
      have e1 := HN.out
      have e2 := HJ.out
      have e3 := HX.out
      rw [ztt l k (by omega), ← e3, ← e1, ← e2, ← EA.out, ← EB.out]
     rw [hf]; exact HA2.out
    case measure => simp [intOf]; omega
  ·obtain ⟨u, hu⟩ : ∃ u : Int, u = (n : Int) - 1 - k := ⟨_, rfl⟩
   rw [← hu] at h ⊢
   have hu1 : -1 ≤ u := by omega
   have hu2 : u ≤ n := by omega
   have hfe : flip l k = l.reverse := zcv l k (by have := HN.out; omega)
   rw [hfe] at hA
   have HA2 := Lib.hid hA
   have HG2 := Lib.hid hg
   clear hu hA hg hfe
   go_wp2
   refine bodyPost_end (v := .tuple #[]) (results_none rfl _ _ _) rfl ?_
   exact ⟨rfl, HA2.out, HG2.out.1, HG2.out.2⟩
theorem z3p (ao : Option Addr) (cap : Nat) (w : World) :
  Calls Tryd.prog 66 #[.slice ao 0 cap] w fun e w' => e = .returned (.tuple #[]) ∧ w = w' := by
 go_enter Tryd.func66, Tryd.ntmps66
 go_wp2
 go_rounds 1
 exact bodyPost_end (v := .tuple #[]) (results_none rfl _ _ _) rfl ⟨rfl, rfl⟩
end
section
open Go.RowKit
theorem zov (cur : List Value) (k : Nat) (c : Value) (r : List Value) (h : k < cur.length) : lay (cur.set k c) (k + 1) r = lay cur k (c :: r) := by
 unfold lay
 rw [List.set_eq_take_append_cons_drop, if_pos h]
 have h1 : (cur.take k).length = k := by rw [List.length_take]; omega
 have e1 : (cur.take k ++ c :: cur.drop (k + 1)).take (k + 1) = cur.take k ++ [c] := by
  rw [List.take_append, h1, List.take_of_length_le (by omega), show k + 1 - k = 1 by omega]; simp
 have e2 : (cur.take k ++ c :: cur.drop (k + 1)).drop (k + 1 + r.length) = cur.drop (k + (c :: r).length) := by
  rw [List.drop_append, h1, List.drop_of_length_le (by omega), show k + 1 + r.length - k = r.length + 1 by omega, List.drop_succ_cons, List.drop_drop, List.nil_append]
  congr 1; simp; omega
 rw [e1, e2]
 simp
theorem zbu (off : Nat) : ∀ (l : List Value) (k : Nat) (arr : Array Value), off + k + l.length ≤ arr.size → (l.zipIdx k).foldl (fun cs (x : Value × Nat) => cs.setIfInBounds (off + x.2) x.1) arr = (lay arr.toList (off + k) l).toArray := by
 intro l
 induction l with
 | nil => intro k arr _; simp [lay]
 | cons c r ih =>
  intro k arr h
  simp only [List.zipIdx_cons, List.foldl_cons]
  rw [ih (k + 1) _ (by simp at h ⊢; omega)]
  congr 1
  have hk : off + k < arr.toList.length := by simp at h ⊢; omega
  rw [Array.toList_setIfInBounds, ← zov _ _ _ _ hk]
  rfl
section
variable {P : Program} {ops : Array Oper} {rest : List Oper} {o : Oper} {a : Act} {w : World} {Q : Exit → Act → World → Prop} {t e : TypeId} {z : Value} {size bytes : Nat}
theorem z1p {K : Act → World → Prop} (hE : ElemT P t e z size bytes) (x : Operand) (ho : o.op = .buildSlice t 1 #[(0, x)]) (cs : List Value) (hx : a.eval x = .agg cs.toArray) (hcs : cs.length = size) (hsz : size ≤ 16777216)
  (h : K (a.put o.dst (.slice (some ⟨w.heap.size, 0, none⟩) 1 1)) (w.alloc (.cells cs.toArray e))) : o.wp P a w K Q := by
 obtain ⟨i0, hi, hz0, hz1, hz2⟩ := info_parts hE.info
 have hs : (P.info? e).map (·.size) = some size := by rw [hi]; simp [hz1]
 have hz : ∀ w, (zeroValue e).run P w = .ok z w := by
  intro w; simp [zeroValue, typeInfo, hi, hz0]
 have hf : ∀ Z : Array Value, Z.size = size → Instr.fill (fun i => some (i * size, size)) Z [(0, Value.agg cs.toArray)] = some cs.toArray := by
  intro Z hZ
  have hlay : List.foldl (fun cs (x : Value × Nat) => cs.setIfInBounds (0 + x.2) x.1) Z cs.zipIdx = cs.toArray := by
   rw [zbu 0 cs 0 Z (by omega), zcc _ _ (by rw [Array.length_toList]; omega)]
  simp only [Nat.zero_add] at hlay
  have hc : (Value.agg cs.toArray).cells = cs.toArray := rfl
  unfold Instr.fill
  simp [hc, hcs, hZ, Instr.fill, hlay]
 unfold Oper.wp
 have : (execOp a.eval o).run P w = .ok (.value (.slice (some ⟨w.heap.size, 0, none⟩) 1 1)) (w.alloc (.cells cs.toArray e)) := by
  have hp := hE.pos
  simp only [execOp, ho]
  simp only [List.map_toArray, List.map_cons, List.map_nil, hx]
  simp only [Instr.buildSlice]
  have hfs := hf ((Array.range size).map (z.cells[· % z.cells.size]!)) (by simp)
  simp [Sem.run_bind, run_underlying hE.und, z7c hs, hz, Result.andThen, show ¬ (16777216 < size) by omega, show ¬ (size = 0) by omega, newRow, newObj, hfs]
  rfl
 rw [this]; exact h
theorem z1i (hE : ElemT P t e z size bytes) (hgd : o.guard = none) (x : Operand) (ho : o.op = .buildSlice t 1 #[(0, x)]) (cs : List Value) (hx : a.eval x = .agg cs.toArray) (hcs : cs.length = size) (hsz : size ≤ 16777216)
  (h : wpList P ops Q rest (a.put o.dst (.slice (some ⟨w.heap.size, 0, none⟩) 1 1)) (w.alloc (.cells cs.toArray e))) : wpList P ops Q (o :: rest) a w :=
 wpList_plain hgd fun _ hK => z1p hE x ho cs hx hcs hsz (hK _ _ h)
end
end
section
open Go.RowKit
theorem zgn : ∀ (k : Nat) (l : List (List UInt8)) (i : Nat), l.length = k → Len32 (Sha.path l i) := by
 intro k
 induction k using Nat.strongRecOn with
 | _ k ih =>
  intro l i hk
  rcases Nat.lt_or_ge l.length 2 with h | h
  ·rw [Sha.path_one _ h]; intro x hx; cases hx
  ·have c1 := Sha.cut_lt h
   have c2 := Sha.cut_pos l.length
   rcases Nat.lt_or_ge i (Sha.cut l.length) with hlt | hge
   ·rw [Sha.path_low h hlt]
    intro x hx
    rcases List.mem_cons.1 hx with rfl | h'
    ·exact Sha.root_len _
    ·exact ih _ (by rw [List.length_take]; omega) _ _ rfl x h'
   ·rw [Sha.path_high h hge]
    intro x hx
    rcases List.mem_cons.1 hx with rfl | h'
    ·exact Sha.root_len _
    ·exact ih _ (by rw [List.length_drop]; omega) _ _ rfl x h'
theorem z3j {w w' : World} {r : Option Nat} (hb : Below w.heap.size w w') : w.grownBy w' r := ⟨hb.os, hb.tape, hb.output, hb.size, fun i hi _ => hb.block i hi⟩
theorem zdj {w w' : World} {base size n : Nat} {e : TypeId} {v : Value} {xs : List Value} (h : w.ownsRow base e size v n xs) (hb : Below w.heap.size w w') : w'.ownsRow base e size v n xs := by
 cases hq : v.ownBlock with
 | none => exact h.kept (z3j (r := none) hb) (.inl hq)
 | some k => exact h.kept (z3j (r := none) hb) (.inr (by rw [hq]; simp))
theorem elSum : ElemT Tryd.prog 36 47 (.agg (u8s (List.replicate 32 0)).toArray) 32 32 := ⟨Tryd.underlying36, by kernel_rfl, rfl, by omega⟩
theorem zxt (v : Value) (ls : List (List UInt8)) (i : Int) (w : World) (hB : BB w v ls) (hi : i < 0 ∨ (ls.length : Int) ≤ i) (hF : ls.length ≤ 1000000) :
  Calls Tryd.prog 39 #[v, .int .i64 i] w fun e w' => e = .returned (.tuple #[.slice none 0 0, .int .i64 1]) ∧ w = w' := by
 obtain ⟨vs, hvs, hS, hel⟩ := hB
 obtain ⟨ao, cap, rfl⟩ := zlg hS
 clear hS hel hvs
 obtain ⟨n, hN⟩ : ∃ n, n = ls.length := ⟨_, rfl⟩
 rw [← hN] at hi hF ⊢
 clear hN
 by_cases h0 : i < 0
 ·go_enter Tryd.func39, Tryd.ntmps39
  go_wp2
  exact bodyPost_ret (results_tmp2 rfl _ _ _) rfl ⟨rfl, rfl⟩
 ·have h1 : (n : Int) ≤ i := by omega
  go_enter Tryd.func39, Tryd.ntmps39
  go_wp2
  exact bodyPost_ret (results_tmp2 rfl _ _ _) rfl ⟨rfl, rfl⟩
set_option maxHeartbeats 400000 in
theorem z4s (v : Value) (ls : List (List UInt8)) (i : Nat) (w : World) (hg : Glob w) (hB : BB w v ls) (hF : Fit ls) (hi : i < ls.length) :
  Calls Tryd.prog 39 #[v, .int .i64 i] w fun e w' => ∃ v', e = .returned (.tuple #[v', .int .i64 0]) ∧ w'.ownsRow w.heap.size 47 32 v' (Sha.proof ls i).length (sums (Sha.proof ls i)) ∧ Below w.heap.size w w' := by
 obtain ⟨vs, hvs, hS, hel⟩ := id hB
 obtain ⟨ao, cap, rfl⟩ := zlg hS
 have hn := hF.1
 have HG := Lib.hid hg
 have HB := Lib.hid hB
 have HF := Lib.hid hF
 clear hg hB hF hS hel hvs
 obtain ⟨n, hN⟩ : ∃ n, n = ls.length := ⟨_, rfl⟩
 rw [← hN] at hi hn HB ⊢
 have HN := Lib.hid hN; clear hN
 go_enter Tryd.func39, Tryd.ntmps39
 go_wp2
 have hd1 : decide (n ≤ i) = false := decide_eq_false (by omega)
 simp only [hd1, Bool.or_false]
 clear hd1
 go_loopw [0, 1, 6] (fun x y o wr => ∃ (l' : List (List UInt8)) (i' : Nat) (acc : List (List UInt8)), Sha.path ls i = acc ++ Sha.path l' i' ∧ (∃ ao cap, x = .slice ao l'.length cap) ∧ BB w x l' ∧ Fit l' ∧ i' < l'.length ∧ l'.length + acc.length ≤ n ∧ y = .int .i64 i' ∧
  wr.ownsRow w.heap.size 47 32 o acc.length (sums acc) ∧ Below w.heap.size w wr) (fun x _ _ _ => slLen x)
 case atStart => exact ⟨ls, i, [], rfl, ⟨ao, cap, by rw [HN.out]⟩, HB.out, HF.out, by have := HN.out; omega, by simp; have := HN.out; omega, rfl, World.ownsRow_nil _ _ _ _, Below.refl _ _⟩
 case round =>
  obtain ⟨l', i', acc, hpath, ⟨ao', cap', rfl⟩, hBB, hF', hi', hle, rfl, hown, hbel⟩ := hrel
  rcases Nat.lt_or_ge l'.length 2 with h2 | h2
  ·have hacc : Sha.path ls i = acc := by rw [hpath, Sha.path_one _ h2]; simp
   have hacc32 : Len32 acc := by rw [← hacc]; exact zgn _ _ _ rfl
   have hpr : Sha.proof ls i = acc.reverse := by unfold Sha.proof; rw [hacc]
   obtain ⟨n', hN'⟩ : ∃ n', n' = l'.length := ⟨_, rfl⟩
   rw [← hN'] at h2 hle ⊢
   have HP := Lib.hid hpr
   have H32 := Lib.hid hacc32
   have HBel := Lib.hid hbel
   have HOwn := Lib.hid hown
   clear hacc hpr hacc32 hbel hown hpath hBB hF' hi' hN'
   rcases Nat.eq_zero_or_pos acc.length with h0 | h0
   ·have hnil : acc = [] := List.length_eq_zero_iff.1 h0
    subst hnil
    have hu : u6 = .slice none 0 0 ∨ ∃ g cp, u6 = .slice (some ⟨g, 0, none⟩) 0 cp := by
     rcases HOwn.out.2 with ⟨h, _⟩ | ⟨g, cp, cur, h, _⟩
     ·exact .inl h
     ·exact .inr ⟨g, cp, h⟩
    have ho := HOwn.out
    obtain ⟨ao2, cp2, rfl⟩ : ∃ ao cp, u6 = .slice ao 0 cp := by
     rcases hu with h | ⟨g, cp, h⟩
     ·exact ⟨none, 0, h⟩
     ·exact ⟨_, cp, h⟩
    clear hu h0 ho
    go_wp2_with (go_at_call 66; refine Hid.out ?_)
    refine stop ?_
    refine (z3p ao2 cp2 _).mono ?_
    rintro e w2 ⟨rfl, rfl⟩
    go_wp2
    refine bodyPost_ret (results_tmp2 rfl _ _ _) rfl ⟨_, rfl, ?_, HBel.out⟩
    rw [HP.out]
    exact HOwn.out
   ·obtain ⟨k, hk⟩ : ∃ k, acc.length = k + 1 := ⟨acc.length - 1, by omega⟩
    have ho := HOwn.out
    rw [hk] at ho
    obtain ⟨g, cp, rfl, hg1, hg2⟩ := zom ho
    rw [← hk] at ho ⊢
    obtain ⟨cu0, hgt⟩ : ∃ cs, wr.heap[g]? = some (.cells cs 47) := by
     rcases ho.2 with ⟨h, _⟩ | ⟨g', cp', cu, h, _, h2, _⟩
     ·cases h
     ·simp only [Value.slice.injEq, Option.some.injEq, Addr.mk.injEq] at h
      obtain ⟨⟨rfl, _⟩, _⟩ := h
      exact ⟨cu, h2⟩
    obtain ⟨cur, hA, htk, hcap1, hcap2, hcl⟩ := zsr ho
    have hcur : cur = sums acc ++ cur.drop (acc.length * 32) := by rw [← htk, List.take_append_drop]
    rw [hcur] at hA
    obtain ⟨tl, htl⟩ : ∃ tl, tl = cur.drop (acc.length * 32) := ⟨_, rfl⟩
    rw [← htl] at hA
    have HA := Lib.hid hA
    have htl2 : tl.length = cp * 32 - acc.length * 32 := by rw [htl, List.length_drop, hcl]
    have HTL := Lib.hid htl2
    clear hA hcur htk htl hcl ho hk htl2
    go_wp2_with (go_at_call 66; refine Hid.out ?_)
    refine stop ?_
    refine (z3q g cp acc tl _ (by omega) (by omega) hcap2 HA.out H32.out).mono ?_
    rintro e w2 ⟨rfl, hA2, hgr, hst⟩
    have HT := Lib.hid (hst _ _ hgt)
    clear hst hgt
    have HB2 := Lib.hid (HBel.out.grown hgr HBel.out.size (by intro k hk; cases hk; exact hg1))
    have HA2 := Lib.hid hA2
    clear hA2 hgr
    go_wp2
    refine bodyPost_ret (results_tmp2 rfl _ _ _) rfl ⟨_, rfl, ?_, HB2.out⟩
    have hl : (Sha.proof ls i).length = acc.length := by rw [HP.out, List.length_reverse]
    rw [hl, HP.out]
    obtain ⟨cs', hcs'⟩ := HT.out
    obtain ⟨T0, hT0⟩ := HA2.out
    have hee := hT0.symm.trans hcs'
    simp only [Option.some.injEq, Obj.cells.injEq] at hee
    obtain ⟨hc0, rfl, _⟩ := hee
    have hls : (sums acc.reverse).length = acc.length * 32 := by rw [zze H32.out.reverse, List.length_reverse]
    refine ⟨hls, .inr ⟨g, cp, _, rfl, hg1, hT0, hcap1, ?_, ?_, ?_⟩⟩
    ·unfold maxLen; omega
    ·have := HTL.out; simp [hls]; omega
    ·simp [hls]
  ·obtain ⟨b, off, rfl⟩ : ∃ b off, ao' = some ⟨b, off, none⟩ := by
    obtain ⟨vs, hvs, hS, hel⟩ := hBB
    obtain ⟨b, o, cap, e, _⟩ := zyi hS (by omega)
    simp only [Value.slice.injEq] at e
    exact ⟨b, o, e.1⟩
   have hcap : l'.length ≤ cap' ∧ cap' ≤ 9223372036854775807 := by
    obtain ⟨vs, hvs, hS, hel⟩ := hBB
    obtain ⟨b, o, cap, e, h1, h2, _⟩ := zyi hS (by omega)
    simp only [Value.slice.injEq] at e
    obtain ⟨_, _, rfl⟩ := e
    exact ⟨h1, h2⟩
   have hn' := hF'.1
   have c1 := Sha.cut_lt h2
   have c0 := Sha.cut_pos l'.length
   rcases Nat.lt_or_ge i' (Sha.cut l'.length) with hlt | hge
   ·have hp := Sha.path_low h2 hlt
    have hBd := zeo hBB (Sha.cut l'.length) (by omega)
    have hBt := zdo hBB (Sha.cut l'.length) (by omega)
    have HP := Lib.hid hp
    have HBd := Lib.hid hBd
    have HBt := Lib.hid hBt
    have HF' := Lib.hid hF'
    have HPath := Lib.hid hpath
    have HOwn := Lib.hid hown
    have HBel := Lib.hid hbel
    have HLe := Lib.hid hle
    clear hp hBd hBt hF' hpath hown hbel hBB hle
    obtain ⟨n', hN'⟩ : ∃ n', n' = l'.length := ⟨_, rfl⟩
    obtain ⟨m, hM⟩ : ∃ m, m = Sha.cut n' := ⟨_, rfl⟩
    rw [← hN'] at hi' h2 hn' c1 c0 hlt hcap HP HBd HBt HLe ⊢
    rw [← hM] at c1 c0 hlt HP HBd HBt
    have HM := Lib.hid hM
    have HN' := Lib.hid hN'
    clear hM hN'
    obtain ⟨hc1, hc2⟩ := hcap
    go_wp2_with (go_at_call 61; refine Hid.out ?_)
    refine stop ?_
    refine (z1j n' _ h2 (by omega)).mono ?_
    rintro e w1 ⟨rfl, rfl⟩
    rw [← HM.out]
    go_wp2_with (go_at_call 32; refine Hid.out ?_)
    refine stop ?_
    refine (zpm _ _ _ _ rfl (HG.out.below' HBel.out) (HBd.out.below HBel.out) (HF'.out.drop m)).mono ?_
    rintro e w1 ⟨rfl, hb1⟩
    have HO1 := Lib.hid (zdj HOwn.out hb1)
    go_wp2_with (first | refine z1i elSum rfl _ rfl _ rfl (by rw [zdc]) (by omega) ?_ | (at_builtin; refine Hid.out ?_))
    refine stop ?_
    have HA1 := Lib.hid (Arr.new w1 (u8s (Sha.root (l'.drop m))) 47)
    refine zyj elSum rfl _ _ rfl w.heap.size _ acc.length (sums acc) rfl (zdj HO1.out ((Below.refl _ _).alloc (Nat.le_refl _) _)) _ rfl _ HA1.out (by rw [zdc]) (zsc _) (by have := HLe.out; omega) (by have := HLe.out; omega) (by have := HBel.out.size; have := hb1.size; simp; omega) ?_
    intro g' cp w2 hown2 hg2 hb2 hlt2
    have hB2 : Below w.heap.size w w2 := ((HBel.out.trans (hb1.mono HBel.out.size)).alloc (Nat.le_trans HBel.out.size hb1.size) _).grown hg2 (by have := HBel.out.size; have := hb1.size; simp; omega) (fun k hk => (HO1.out.lt k hk).1)
    have HB2 := Lib.hid hB2
    have HO2 := Lib.hid hown2
    clear hB2 hown2 hg2 HA1 HO1 hb1 hlt2 hb2 HOwn HBel
    go_wp2
    go_roundw
    case rel =>
     have e1 := HN'.out
     have hlk : (l'.take m).length = m := by simp; omega
     refine ⟨l'.take m, i', acc ++ [Sha.root (l'.drop m)], by rw [HPath.out, HP.out]; simp, ⟨_, _, by rw [hlk]⟩, HBt.out, HF'.out.take m, by rw [hlk]; omega, by rw [hlk, List.length_append]; have := HLe.out; simp; omega, by go_num, ?_, HB2.out⟩
     have := HO2.out
     rw [← znj] at this
     simpa using this
    case measure => simp [slLen]; omega
   ·have hp := Sha.path_high h2 hge
    have hBd := zeo hBB (Sha.cut l'.length) (by omega)
    have hBt := zdo hBB (Sha.cut l'.length) (by omega)
    have HP := Lib.hid hp
    have HBd := Lib.hid hBd
    have HBt := Lib.hid hBt
    have HF' := Lib.hid hF'
    have HPath := Lib.hid hpath
    have HOwn := Lib.hid hown
    have HBel := Lib.hid hbel
    have HLe := Lib.hid hle
    clear hp hBd hBt hF' hpath hown hbel hBB hle
    obtain ⟨n', hN'⟩ : ∃ n', n' = l'.length := ⟨_, rfl⟩
    obtain ⟨m, hM⟩ : ∃ m, m = Sha.cut n' := ⟨_, rfl⟩
    rw [← hN'] at hi' h2 hn' c1 c0 hge hcap HP HBd HBt HLe ⊢
    rw [← hM] at c1 c0 hge HP HBd HBt
    have HM := Lib.hid hM
    have HN' := Lib.hid hN'
    clear hM hN'
    obtain ⟨hc1, hc2⟩ := hcap
    go_wp2_with (go_at_call 61; refine Hid.out ?_)
    refine stop ?_
    refine (z1j n' _ h2 (by omega)).mono ?_
    rintro e w1 ⟨rfl, rfl⟩
    rw [← HM.out]
    go_wp2_with (go_at_call 32; refine Hid.out ?_)
    refine stop ?_
    refine (zpm _ _ _ _ rfl (HG.out.below' HBel.out) (HBt.out.below HBel.out) (HF'.out.take m)).mono ?_
    rintro e w1 ⟨rfl, hb1⟩
    have HO1 := Lib.hid (zdj HOwn.out hb1)
    go_wp2_with (first | refine z1i elSum rfl _ rfl _ rfl (by rw [zdc]) (by omega) ?_ | (at_builtin; refine Hid.out ?_))
    refine stop ?_
    have HA1 := Lib.hid (Arr.new w1 (u8s (Sha.root (l'.take m))) 47)
    refine zyj elSum rfl _ _ rfl w.heap.size _ acc.length (sums acc) rfl (zdj HO1.out ((Below.refl _ _).alloc (Nat.le_refl _) _)) _ rfl _ HA1.out (by rw [zdc]) (zsc _) (by have := HLe.out; omega) (by have := HLe.out; omega) (by have := HBel.out.size; have := hb1.size; simp; omega) ?_
    intro g' cp w2 hown2 hg2 hb2 hlt2
    have hB2 : Below w.heap.size w w2 := ((HBel.out.trans (hb1.mono HBel.out.size)).alloc (Nat.le_trans HBel.out.size hb1.size) _).grown hg2 (by have := HBel.out.size; have := hb1.size; simp; omega) (fun k hk => (HO1.out.lt k hk).1)
    have HB2 := Lib.hid hB2
    have HO2 := Lib.hid hown2
    clear hB2 hown2 hg2 HA1 HO1 hb1 hlt2 hb2 HOwn HBel
    go_wp2
    go_roundw
    case rel =>
     have e1 := HN'.out
     have hlk : (l'.drop m).length = n' - m := by simp; omega
     refine ⟨l'.drop m, i' - m, acc ++ [Sha.root (l'.take m)], by rw [HPath.out, HP.out]; simp, ⟨_, _, by rw [hlk]⟩, HBd.out, HF'.out.drop m, by rw [hlk]; omega, by rw [hlk, List.length_append]; have := HLe.out; simp; omega, by go_num, ?_, HB2.out⟩
     have := HO2.out
     rw [← znj] at this
     simpa using this
    case measure => simp [slLen]; omega
end
section
open Go.RowKit
theorem z8q (ls : List (List UInt8)) (i : Nat) : Len32 (Sha.proof ls i) := by
 intro x hx
 unfold Sha.proof at hx
 exact zgn _ ls i rfl x (by simpa using hx)
theorem zps (ls : List (List UInt8)) (i : Int) (hi : i < 0 ∨ (ls.length : Int) ≤ i) (hF : ls.length ≤ 1000000) : zg Tryd.prog HG 39 [zhn ls, .v (.int .i64 i)] (.tup [.list 32 [] true, .v (.int .i64 1)]) := by
 intro C w vs hG hk ha
 obtain ⟨v, u, rfl, hv, hu⟩ := outs2 ha
 rw [Rep.v_eq hu]
 refine (zxt v ls i w (zum hv hk) hi hF).mono ?_
 rintro e w' ⟨rfl, rfl⟩
 exact ⟨_, C, rfl, .refl hk, .tup _ _ (.ocons _ _ _ _ (.nil _ _ _ _ ⟨Nat.le_refl _, fun _ => rfl, by omega, fun _ => rfl, fun _ h => by cases h⟩) (.ocons _ _ _ _ (.v _) .onil))⟩
theorem zqv (ls : List (List UInt8)) (i : Nat) (hF : Fit ls) (hi : i < ls.length) : zg Tryd.prog HG 39 [zhn ls, .v (.int .i64 i)] (.tup [sumsL (Sha.proof ls i), .v (.int .i64 0)]) := by
 intro C w vs hG hk ha
 obtain ⟨v, u, rfl, hv, hu⟩ := outs2 ha
 rw [Rep.v_eq hu]
 refine (z4s v ls i w (zbo hG hk) (zum hv hk) hF hi).mono ?_
 rintro e w' ⟨v', rfl, ho, hb⟩
 obtain ⟨C', hm, hr⟩ := zdw (xs := (Sha.proof ls i).map rowS) hk hb (Nat.le_refl _) ho (by
  intro x hx
  obtain ⟨s, hs, rfl⟩ := List.mem_map.1 hx
  simpa [rowS] using z8q ls i s hs) (by simp) (by rw [zss]; exact z4o (zzt _))
 exact ⟨_, C', rfl, hm, .tup _ _ (.ocons _ _ _ _ hr (.ocons _ _ _ _ (.v _) .onil))⟩
theorem ztv (root b : List UInt8) (n i : Int) (p : List (List UInt8)) (hr : root.length = 32) (hb : b.length ≤ 900000) (h32 : Len32 p) (hpn : p.length ≤ 1000000) (hn : n ≤ 4294967296) :
  zg Tryd.prog HG 46 [sumD root, .v (.int .i64 n), .v (.int .i64 i), zmb b, sumsL p] (.v (.bool (Sha.check root n i b p))) := by
 intro C w vs hG hk ha
 cases ha with | ocons _ v0 _ vs h0 ha =>
 cases ha with | ocons _ v1 _ vs h1 ha =>
 cases ha with | ocons _ v2 _ vs h2 ha =>
 obtain ⟨v3, v4, rfl, h3, h4⟩ := outs2 ha
 rw [zjw h0, Rep.v_eq h1, Rep.v_eq h2]
 refine (z8s root b n i p v3 v4 w hr hb (zbo hG hk) (ztq h3 hk) (z7v h4 hk) h32 hpn hn).mono ?_
 rintro e w' ⟨rfl, hb⟩
 exact ⟨_, C, rfl, .of_below hk hb, .v _⟩
end
section
open Go.RowKit
theorem zfm {s : List UInt8} (h : s.length = 32) : (rowS s).length = 32 := by simp [rowS, h]
set_option maxRecDepth 100000
end
section
open Go.RowKit
set_option maxRecDepth 100000
section
variable (P : Program) (t : TypeId) (x y : Operand)
theorem zdg (a b : UInt32) : reck P (do eqGuard .add t x y (.int .u32 a.toNat) (.int .u32 b.toNat); binOp .add t (.int .u32 a.toNat) (.int .u32 b.toNat)) = some (.int .u32 ((a + b).toNat : Int)) := by rw [zrc, wadd]
theorem zeg (a b : UInt32) : reck P (do eqGuard .xor t x y (.int .u32 a.toNat) (.int .u32 b.toNat); binOp .xor t (.int .u32 a.toNat) (.int .u32 b.toNat)) = some (.int .u32 ((a ^^^ b).toNat : Int)) := by
 rw [z4f]; exact congrArg (fun n => some (Value.int .u32 n)) (xor32 a b)
theorem z2l (a b : UInt32) : reck P (do eqGuard .and t x y (.int .u32 a.toNat) (.int .u32 b.toNat); binOp .and t (.int .u32 a.toNat) (.int .u32 b.toNat)) = some (.int .u32 ((a &&& b).toNat : Int)) := by
 rw [z7i]; exact congrArg (fun n => some (Value.int .u32 n)) (and32 a b)
theorem z5w (a : UInt32) : reck P (Op.unary .xor (.int .u32 a.toNat)) = some (.int .u32 ((~~~a).toNat : Int)) := by
 rw [← not32 a]; rfl
theorem zkp (n : Nat) {b : Int} (k2 : IntKind) (hb : b = (n : Int)) (hn : n ≤ 32) (a : UInt32) : reck P (do eqGuard .shr t x y (.int .u32 a.toNat) (.int k2 b); binOp .shr t (.int .u32 a.toNat) (.int k2 b)) = some (.int .u32 ((Sha.shr a n).toNat : Int)) := by
 rw [zgp P t x y .u32 a.toNat b k2 (by omega), ← shr32]
 subst hb
 have : min ((n : Int).toNat) IntKind.u32.bits = n := by show min _ 32 = n; omega
 rw [this, Int.fdiv_eq_ediv_of_nonneg _ (Int.le_of_lt (Int.pow_pos (by omega)))]
 norm_cast
theorem zxv (p : Nat) (k2 : IntKind) (hp : p < 16777216) : reck P (do eqGuard .shl t x y (.int .u32 p) (.int k2 8); binOp .shl t (.int .u32 p) (.int k2 8)) = some (.int .u32 ((p * 256 : Nat) : Int)) := by
 have e : (2 : Int) ^ (min (8 : Int).toNat IntKind.u32.bits) = 256 := by decide
 rw [z6t P t x y .u32 p 8 k2 (by omega), e, z2r _ (by omega)]
 simp
theorem zkx (p c : Nat) (hp : p < 16777216) (hc : c < 256) : reck P (do eqGuard .or t x y (.int .u32 ((p * 256 : Nat) : Int)) (.int .u32 c); binOp .or t (.int .u32 ((p * 256 : Nat) : Int)) (.int .u32 c)) = some (.int .u32 ((p * 256 + c : Nat) : Int)) := by
 rw [rb_or]
 have := zfu p c hp hc
 rw [show (p : Int) * 256 % 4294967296 = ((p * 256 : Nat) : Int) by omega] at this
 exact congrArg (fun n => some (Value.int .u32 n)) this
end
theorem ztg {n : Int} (m : Nat) (x : UInt32) (hn : n = m) (h1 : m ≤ 31) (G : Nat → Option D) : zg Tryd.prog G 92 [.v (.int .i64 n), .v (.int .u32 x.toNat)] (.v (.int .u32 (Sha.rotr x m).toNat)) := by
 intro C w vs hG hk ha
 obtain ⟨v, u, rfl, hv, hu⟩ := outs2 ha
 rw [Rep.v_eq hv, Rep.v_eq hu]
 subst hn
 refine (z6u m x w h1).mono ?_
 rintro e w' ⟨rfl, k, rfl⟩
 exact ⟨_, C, rfl, .of_below hk (below_drewN (Below.refl _ _) k), .v _⟩
theorem zew (G : Nat → Option D) : zg Tryd.prog G 77 [] (.agg 8 (Sha.begin8.map u32D)) := by
 refine zg.of Tryd.func77 rfl Tryd.ntmps77 (by simp) ?_; intro F hF h0 hT; simp only [List.zipIdx_cons, List.zipIdx_nil, List.map_cons, List.map_nil, Nat.zero_add, Nat.reduceAdd]
 refine Sm.seq ?_
 refine Sm.regionG hF rfl ?_
 refine SmG.new hF rfl rfl rfl (zx rfl al139) ?_
 refine SmG.nil ?_
 refine zd ?_
 refine Sm.seq ?_
 refine Sm.regionG hF rfl ?_
 refine SmG.v hF rfl rfl rfl (zyf rfl Tryd.underlying139 rfl (show _ = some (.d (.agg 8 (Sha.begin8.map u32D))) from by kernel_rfl)) ?_
 refine SmG.store hF rfl rfl rfl rfl rfl (by simp (disch := omega) only [go_sem, Nat.reduceEqDiff, iteP] <;> rfl) ?_
 refine SmG.nil ?_
 refine zd ?_
 refine Sm.ret ?_
 refine ⟨.agg 8 (Sha.begin8.map u32D), ?_, D.le.refl _⟩
 kernel_rfl
theorem z4w (G : Nat → Option D) : zg Tryd.prog G 91 [] (.agg 64 (Sha.keys64.map u32D)) := by
 refine zg.of Tryd.func91 rfl Tryd.ntmps91 (by simp) ?_; intro F hF h0 hT; simp only [List.zipIdx_cons, List.zipIdx_nil, List.map_cons, List.map_nil, Nat.zero_add, Nat.reduceAdd]
 refine Sm.seq ?_
 refine Sm.regionG hF rfl ?_
 refine SmG.new hF rfl rfl rfl (zx rfl al154) ?_
 refine SmG.nil ?_
 refine zd ?_
 refine Sm.seq ?_
 refine Sm.regionG hF rfl ?_
 refine SmG.v hF rfl rfl rfl (zyf rfl Tryd.underlying154 rfl (show _ = some (.d (.agg 64 (Sha.keys64.map u32D))) from by kernel_rfl)) ?_
 refine SmG.store hF rfl rfl rfl rfl rfl (by simp (disch := omega) only [go_sem, Nat.reduceEqDiff, iteP] <;> rfl) ?_
 refine SmG.nil ?_
 refine zd ?_
 refine Sm.ret ?_
 refine ⟨.agg 64 (Sha.keys64.map u32D), ?_, D.le.refl _⟩
 kernel_rfl
abbrev dW (n : Nat) (l : List UInt32) : Blk := dB n [l.map u32D]
theorem zdv (l : List UInt32) (i z : Nat) (h : z < 4294967296) : (List.map V.d (List.map u32D l)).set i (.d (.v (.int .u32 (z : Int)))) = List.map V.d (List.map u32D (l.set i (UInt32.ofNat z))) := by
 rw [List.map_set, List.map_set]
 have : (UInt32.ofNat z).toNat = z := Nat.mod_eq_of_lt h
 rw [u32D, this]
theorem zlo (l : List UInt32) (i : Nat) (z : UInt32) : (List.map V.d (List.map u32D l)).set i (.d (.v (.int .u32 (z.toNat : Int)))) = List.map V.d (List.map u32D (l.set i z)) := by
 rw [List.map_set, List.map_set]; rfl
theorem zxf (l : List UInt32) (i : Nat) (h : i < l.length) : l[i]? = some (l.getD i 0) := by simp [List.getD, h]
theorem zhv (b : List UInt8) (hb : b.length = 64) (G : Nat → Option D) : zg Tryd.prog G 90 [zmb b] (.agg 64 ((Sha.spread b).map u32D)) := by
 refine zg.of Tryd.func90 rfl Tryd.ntmps90 (by simp) ?_; intro F hF h0 hT; simp only [List.zipIdx_cons, List.zipIdx_nil, List.map_cons, List.map_nil, Nat.zero_add, Nat.reduceAdd]
 refine Sm.seq ?_
 refine Sm.regionG hF rfl ?_
 refine SmG.new hF rfl rfl rfl (zx rfl al154) ?_
 refine SmG.nil ?_
 refine zd ?_
 refine Sm.seq ?_
 refine Sm.regionG hF rfl ?_
 refine SmG.v hF rfl rfl rfl (zyf rfl Tryd.underlying154 rfl bz154) ?_
 refine SmG.new hF rfl rfl rfl (zx rfl al154) ?_
 refine SmG.store hF rfl rfl rfl rfl rfl (by simp (disch := omega) only [go_sem, Nat.reduceEqDiff, iteP] <;> rfl) ?_
 refine SmG.nil ?_
 refine zd ?_
 refine Sm.seq ?_
 refine Sm.seq ?_
 refine Sm.regionG hF rfl ?_
 refine SmG.v hF rfl rfl rfl (zbb rfl rfl) ?_
 refine SmG.nil ?_
 refine zd ?_
 refine Sm.block ?_
 refine Sm.loop (ι := {t : Nat // t ≤ 16}) (fun t => ⟨[(0, .d (zmb b)), (2, .ref 0 0 0), (3, .ref 1 0 0), (4, .d (.v (.int .i64 t.1)))], [(1, dW 64 (Sha.fill b (4 * t.1))), (0, dW 64 (List.replicate 64 0))], 2⟩) (fun t => 16 - t.1) (⟨0, by omega⟩) ?_ ?_
 ·refine St.le_of (by simp [leE, look, zcb]) ⟨?_, rfl, trivial⟩ (Nat.le_refl _)
  show _ = some (dW 64 (Sha.fill b 0))
  rw [Sha.fill_zero]; rfl
 rintro ⟨t, ht⟩
 simp only
 by_cases hlt : t < 16
 ·refine Sm.seq ?_
  refine Sm.seq ?_
  refine Sm.regionG hF rfl ?_
  refine SmG.v hF rfl rfl rfl (zp rfl rfl) ?_
  refine SmG.v hF rfl rfl rfl (zr rfl rfl rfl (by first | exact zdd _ _ _ _ _ (by omega) | exact zwd _ _ _ _ _ (by omega) | exact z0d _ _ _ _ _ _ _)) ?_
  refine SmG.nil ?_
  refine zd ?_
  refine Sm.condT hF rfl ?_
  refine Sm.skip ?_
  refine zd ?_
  refine Sm.seq ?_
  refine Sm.block ?_
  refine Sm.seq ?_
  refine Sm.regionG hF rfl ?_
  refine SmG.v hF rfl rfl rfl (zbb rfl rfl) ?_
  refine SmG.nil ?_
  refine zd ?_
  refine Sm.block ?_
  refine Sm.loop (ι := {k : Nat // k ≤ 4}) (fun k => ⟨[(0, .d (zmb b)), (2, .ref 0 0 0), (3, .ref 1 0 0), (4, .d (.v (.int .i64 t))), (5, .d (.v (.int .i64 k.1)))], [(1, dW 64 (Sha.fill b (4 * t + k.1))), (0, dW 64 (List.replicate 64 0))], 2⟩) (fun k => 4 - k.1) (⟨0, by omega⟩) ?_ ?_
  ·exact St.le_of (by simp [leE, look, zcb]) (by simp [leH, look, rep]) (by first | exact Nat.le_refl _ | (dsimp only; omega))
  rintro ⟨k, hk⟩
  simp only
  by_cases hlk : k < 4
  ·have hpl : Sha.part b t k < 16777216 := Nat.lt_of_lt_of_le (Sha.part_lt b t k) (by
    have : (256 : Nat) ^ k ≤ 256 ^ 3 := Nat.pow_le_pow_right (by omega) (by omega)
    simpa using this)
   have hget : (Sha.fill b (4 * t + k))[t]? = some (UInt32.ofNat (Sha.part b t k)) := by
    rw [zxf _ _ (by rw [Sha.fill_length]; omega), Sha.fill_get b _ t (by omega)]
    congr 3; omega
   have hw : (UInt32.ofNat (Sha.part b t k)).toNat = Sha.part b t k := Nat.mod_eq_of_lt (by omega)
   have hb1 : b[4 * t + k]? = some (b.getD (4 * t + k) 0) := by simp [List.getD, show 4 * t + k < b.length by omega]
   have hlb : (b.getD (4 * t + k) 0).toNat < 256 := (b.getD (4 * t + k) 0).toNat_lt
   have hset := Sha.fill_succ b (4 * t + k) (by omega)
   rw [show (4 * t + k) / 4 = t by omega, show (4 * t + k) % 4 = k by omega] at hset
   have hst := zdv (Sha.fill b (4 * t + k)) t (Sha.part b t k * 256 + (b.getD (4 * t + k) 0).toNat) (by omega)
   rw [← hset] at hst
   generalize b.getD (4 * t + k) 0 = c at hb1 hlb hst
   generalize Sha.part b t k = p at hpl hget hw hst
   have hcast : (4 * (t : Int) + (k : Int)).toNat = 4 * t + k := by omega
   have e1 : 4 * t + (k + 1) = 4 * t + k + 1 := by omega
   refine Sm.seq ?_
   refine Sm.seq ?_
   refine Sm.regionG hF rfl ?_
   refine SmG.v hF rfl rfl rfl (zp rfl rfl) ?_
   refine SmG.v hF rfl rfl rfl (zr rfl rfl rfl (by first | exact zdd _ _ _ _ _ (by omega) | exact zwd _ _ _ _ _ (by omega) | exact z0d _ _ _ _ _ _ _)) ?_
   refine SmG.nil ?_
   refine zd ?_
   refine Sm.condT hF rfl ?_
   refine Sm.skip ?_
   refine zd ?_
   refine Sm.seq ?_
   refine Sm.block ?_
   refine Sm.drawG hF (by kernel_rfl) rfl 15 (by kernel_rfl) (by kernel_rfl) ?_
   simp only [List.take_succ_cons, List.take_zero, List.take_nil]
   refine Head.v hF rfl rfl rfl (zp rfl rfl) ?_
   refine Head.v hF rfl rfl rfl (zp rfl rfl) ?_
   refine Head.v hF rfl rfl rfl (zm rfl rfl rfl (by simp (disch := omega) only [go_sem, Nat.reduceEqDiff, iteP, zmb, rowB, byteD, hget, hw, hb1, hcast, u32D] <;> rfl)) ?_
   refine Head.v hF rfl rfl rfl (zab rfl rfl (by simp (disch := omega) only [go_sem, Nat.reduceEqDiff, iteP, zmb, rowB, byteD, hget, hw, hb1, hcast, u32D] <;> rfl)) ?_
   refine Head.v hF rfl rfl rfl (zr rfl rfl rfl (zxv _ _ _ _ p _ hpl)) ?_
   refine Head.v hF rfl rfl rfl (zp rfl rfl) ?_
   refine Head.v hF rfl rfl rfl (zp rfl rfl) ?_
   refine Head.v hF rfl rfl rfl (zr rfl rfl rfl (by first | exact zpn _ _ _ _ _ (zbc _ (by omega)) | exact zbk _ _ _ _ _ _ _)) ?_
   refine Head.v hF rfl rfl rfl (zp rfl rfl) ?_
   refine Head.v hF rfl rfl rfl (zr rfl rfl rfl (by first | exact z2f _ _ _ _ _ (zbc _ (by omega)) | exact zrc _ _ _ _ _ _ _)) ?_
   refine Head.v hF rfl rfl rfl (zm rfl rfl rfl (by simp (disch := omega) only [go_sem, Nat.reduceEqDiff, iteP, zmb, rowB, byteD, hget, hw, hb1, hcast, u32D] <;> rfl)) ?_
   refine Head.v hF rfl rfl rfl (zab rfl rfl (by simp (disch := omega) only [go_sem, Nat.reduceEqDiff, iteP, zmb, rowB, byteD, hget, hw, hb1, hcast, u32D] <;> rfl)) ?_
   refine Head.v hF rfl rfl rfl (z0i rfl rfl (by first | exact zbd rfl rfl (z2r _ (by omega)) | (simp (disch := omega) only [go_sem, zmb, rowB, byteD, hget, hw, hb1, hcast, u32D] <;> rfl))) ?_
   refine Head.v hF rfl rfl rfl (zr rfl rfl rfl (zkx _ _ _ _ p c.toNat hpl hlb)) ?_
   refine Head.v hF rfl rfl rfl (zm rfl rfl rfl (by simp (disch := omega) only [go_sem, Nat.reduceEqDiff, iteP, zmb, rowB, byteD, hget, hw, hb1, hcast, u32D] <;> rfl)) ?_
   refine Head.last ⟨rfl, ?_⟩
   simp only [List.drop_succ_cons, List.drop_zero, List.drop_nil, List.nil_append, List.cons_append]
   refine SmG.store hF rfl rfl rfl rfl rfl (by simp (disch := omega) only [go_sem, Nat.reduceEqDiff, iteP, zmb, rowB, byteD, hget, hw, hb1, hcast, u32D] <;> rfl) ?_
   refine SmG.nil ?_
   refine zk ?_
   refine zd ?_
   refine Sm.regionG hF rfl ?_
   refine SmG.v hF rfl rfl rfl (zp rfl rfl) ?_
   refine SmG.v hF rfl rfl rfl (zr rfl rfl rfl (by first | exact z2f _ _ _ _ _ (zbc _ (by omega)) | exact zrc _ _ _ _ _ _ _)) ?_
   refine SmG.v hF rfl rfl rfl (zbb rfl rfl) ?_
   refine SmG.nil ?_
   refine zd ?_
   exact ⟨⟨k + 1, by omega⟩, by show 4 - (k + 1) < 4 - k; omega, by exact St.le_of (by first | (simp [leE, look, zcb] <;> omega) | (simp [leE, look, zcb, hst, e1] <;> omega)) (by simp only [leH, look, rep, reduceIte, Nat.reduceEqDiff, List.set_cons_zero, List.set_cons_succ, hst, e1, and_self, and_true, and_false, false_and, if_true, if_false] <;> (repeat' first | rfl | constructor)) (by first | exact Nat.le_refl _ | (dsimp only; omega))⟩
  ·obtain rfl : k = 4 := by omega
   refine Sm.seq ?_
   refine Sm.seq ?_
   refine Sm.regionG hF rfl ?_
   refine SmG.v hF rfl rfl rfl (zp rfl rfl) ?_
   refine SmG.v hF rfl rfl rfl (zr rfl rfl rfl (by first | exact zdd _ _ _ _ _ (by omega) | exact zwd _ _ _ _ _ (by omega) | exact z0d _ _ _ _ _ _ _)) ?_
   refine SmG.nil ?_
   refine zd ?_
   refine Sm.condF hF rfl ?_
   refine Sm.exit ?_
   simp only [nextS, z3f, reduceIte, reduceCtorEq]
   refine Sm.regionG hF rfl ?_
   refine SmG.v hF rfl rfl rfl (zp rfl rfl) ?_
   refine SmG.v hF rfl rfl rfl (zr rfl rfl rfl (by first | exact z2f _ _ _ _ _ (zbc _ (by omega)) | exact zrc _ _ _ _ _ _ _)) ?_
   refine SmG.v hF rfl rfl rfl (zbb rfl rfl) ?_
   refine SmG.nil ?_
   refine zd ?_
   exact ⟨⟨t + 1, by omega⟩, by show 16 - (t + 1) < 16 - t; omega, by exact St.le_of (by first | (simp [leE, look, zcb] <;> omega) | (simp [leE, look, zcb, show 4 * t + 4 = 4 * (t + 1) by omega] <;> omega)) (by simp only [leH, look, rep, reduceIte, Nat.reduceEqDiff, List.set_cons_zero, List.set_cons_succ, show 4 * t + 4 = 4 * (t + 1) by omega, and_self, and_true, and_false, false_and, if_true, if_false] <;> (repeat' first | rfl | constructor)) (by first | exact Nat.le_refl _ | (dsimp only; omega))⟩
 ·obtain rfl : t = 16 := by omega
  refine Sm.seq ?_
  refine Sm.seq ?_
  refine Sm.regionG hF rfl ?_
  refine SmG.v hF rfl rfl rfl (zp rfl rfl) ?_
  refine SmG.v hF rfl rfl rfl (zr rfl rfl rfl (by first | exact zdd _ _ _ _ _ (by omega) | exact zwd _ _ _ _ _ (by omega) | exact z0d _ _ _ _ _ _ _)) ?_
  refine SmG.nil ?_
  refine zd ?_
  refine Sm.condF hF rfl ?_
  refine Sm.exit ?_
  simp only [nextS, z3f, reduceIte, reduceCtorEq]
  refine Sm.seq ?_
  refine Sm.seq ?_
  refine Sm.regionG hF rfl ?_
  refine SmG.v hF rfl rfl rfl (zbb rfl rfl) ?_
  refine SmG.nil ?_
  refine zd ?_
  refine Sm.block ?_
  refine Sm.loop (ι := {t : Nat // 16 ≤ t ∧ t ≤ 64}) (fun t => ⟨[(0, .d (zmb b)), (2, .ref 0 0 0), (3, .ref 1 0 0), (6, .d (.v (.int .i64 t.1)))], [(1, dW 64 (Sha.grown b t.1)), (0, dW 64 (List.replicate 64 0))], 2⟩) (fun t => 64 - t.1) (⟨16, by omega, by omega⟩) ?_ ?_
  ·refine St.le_of (by simp [leE, look, zcb]) ⟨?_, rfl, trivial⟩ (Nat.le_refl _)
   show _ = some (dW 64 (Sha.grown b 16))
   rw [← Sha.grown_first]; rfl
  rintro ⟨t, ht, ht2⟩
  simp only
  by_cases hlt : t < 64
  ·have hln := Sha.grown_length b t ht ht2
   have h1 := zxf (Sha.grown b t) (t - 16) (by omega)
   have h2 := zxf (Sha.grown b t) (t - 7) (by omega)
   have h3 := zxf (Sha.grown b t) (t - 15) (by omega)
   have h4 := zxf (Sha.grown b t) (t - 2) (by omega)
   have hset := Sha.grown_succ b t ht hlt
   have hst := zlo (Sha.grown b t) t ((Sha.grown b t).getD (t - 16) 0 + (Sha.grown b t).getD (t - 7) 0 + Sha.low ((Sha.grown b t).getD (t - 15) 0) + Sha.high ((Sha.grown b t).getD (t - 2) 0))
   rw [← hset] at hst
   generalize (Sha.grown b t).getD (t - 16) 0 = x1 at h1 hst
   generalize (Sha.grown b t).getD (t - 7) 0 = x2 at h2 hst
   generalize (Sha.grown b t).getD (t - 15) 0 = y at h3 hst
   generalize (Sha.grown b t).getD (t - 2) 0 = z at h4 hst
   simp only [Sha.low, Sha.high] at hst
   have c1 : ((t : Int) - 16).toNat = t - 16 := by omega
   have c2 : ((t : Int) - 7).toNat = t - 7 := by omega
   have c3 : ((t : Int) - 15).toNat = t - 15 := by omega
   have c4 : ((t : Int) - 2).toNat = t - 2 := by omega
   refine Sm.seq ?_
   refine Sm.seq ?_
   refine Sm.regionG hF rfl ?_
   refine SmG.v hF rfl rfl rfl (zp rfl rfl) ?_
   refine SmG.v hF rfl rfl rfl (zr rfl rfl rfl (by first | exact zdd _ _ _ _ _ (by omega) | exact zwd _ _ _ _ _ (by omega) | exact z0d _ _ _ _ _ _ _)) ?_
   refine SmG.nil ?_
   refine zd ?_
   refine Sm.condT hF rfl ?_
   refine Sm.skip ?_
   refine zd ?_
   refine Sm.seq ?_
   refine Sm.block ?_
   refine Sm.seq ?_
   refine Sm.regionG hF rfl ?_
   refine SmG.v hF rfl rfl rfl (zp rfl rfl) ?_
   refine SmG.v hF rfl rfl rfl (zr rfl rfl rfl (by first | exact zjk _ _ _ _ _ (zbc _ (by omega)) | exact zhi _ _ _ _ _ _ _)) ?_
   refine SmG.v hF rfl rfl rfl (zm rfl rfl rfl (by simp (disch := omega) only [go_sem, Nat.reduceEqDiff, iteP, u32D, h1, h2, h3, h4, c1, c2, c3, c4] <;> rfl)) ?_
   refine SmG.v hF rfl rfl rfl (zab rfl rfl (by simp (disch := omega) only [go_sem, Nat.reduceEqDiff, iteP, u32D, h1, h2, h3, h4, c1, c2, c3, c4] <;> rfl)) ?_
   refine SmG.v hF rfl rfl rfl (zbb rfl rfl) ?_
   refine SmG.nil ?_
   refine zd ?_
   refine Sm.seq ?_
   refine Sm.regionG hF rfl ?_
   refine SmG.v hF rfl rfl rfl (zp rfl rfl) ?_
   refine SmG.v hF rfl rfl rfl (zr rfl rfl rfl (by first | exact zjk _ _ _ _ _ (zbc _ (by omega)) | exact zhi _ _ _ _ _ _ _)) ?_
   refine SmG.v hF rfl rfl rfl (zm rfl rfl rfl (by simp (disch := omega) only [go_sem, Nat.reduceEqDiff, iteP, u32D, h1, h2, h3, h4, c1, c2, c3, c4] <;> rfl)) ?_
   refine SmG.v hF rfl rfl rfl (zab rfl rfl (by simp (disch := omega) only [go_sem, Nat.reduceEqDiff, iteP, u32D, h1, h2, h3, h4, c1, c2, c3, c4] <;> rfl)) ?_
   refine SmG.v hF rfl rfl rfl (zbb rfl rfl) ?_
   refine SmG.nil ?_
   refine zd ?_
   refine Sm.drawG hF (by kernel_rfl) rfl 29 (by kernel_rfl) (by kernel_rfl) ?_
   simp only [List.take_succ_cons, List.take_zero, List.take_nil]
   refine Head.v hF rfl rfl rfl (zp rfl rfl) ?_
   refine Head.v hF rfl rfl rfl (zp rfl rfl) ?_
   refine Head.v hF rfl rfl rfl (zr rfl rfl rfl (by first | exact zjk _ _ _ _ _ (zbc _ (by omega)) | exact zhi _ _ _ _ _ _ _)) ?_
   refine Head.v hF rfl rfl rfl (zm rfl rfl rfl (by simp (disch := omega) only [go_sem, Nat.reduceEqDiff, iteP, u32D, h1, h2, h3, h4, c1, c2, c3, c4] <;> rfl)) ?_
   refine Head.v hF rfl rfl rfl (zab rfl rfl (by simp (disch := omega) only [go_sem, Nat.reduceEqDiff, iteP, u32D, h1, h2, h3, h4, c1, c2, c3, c4] <;> rfl)) ?_
   refine Head.v hF rfl rfl rfl (zp rfl rfl) ?_
   refine Head.v hF rfl rfl rfl (zr rfl rfl rfl (by first | exact zjk _ _ _ _ _ (zbc _ (by omega)) | exact zhi _ _ _ _ _ _ _)) ?_
   refine Head.v hF rfl rfl rfl (zm rfl rfl rfl (by simp (disch := omega) only [go_sem, Nat.reduceEqDiff, iteP, u32D, h1, h2, h3, h4, c1, c2, c3, c4] <;> rfl)) ?_
   refine Head.v hF rfl rfl rfl (zab rfl rfl (by simp (disch := omega) only [go_sem, Nat.reduceEqDiff, iteP, u32D, h1, h2, h3, h4, c1, c2, c3, c4] <;> rfl)) ?_
   refine Head.v hF rfl rfl rfl (zr rfl rfl rfl (by first | exact zdg _ _ _ _ _ _ | exact zrc _ _ _ _ _ _ _)) ?_
   refine Head.v hF rfl rfl rfl (zp rfl rfl) ?_
   refine Head.c hF rfl rfl (by kernel_rfl) rfl rfl rfl (ztg 7 y rfl (by omega) G) ?_
   refine Head.v hF rfl rfl rfl (zp rfl rfl) ?_
   refine Head.c hF rfl rfl (by kernel_rfl) rfl rfl rfl (ztg 18 y rfl (by omega) G) ?_
   refine Head.v hF rfl rfl rfl (zr rfl rfl rfl (by first | exact zeg _ _ _ _ _ _ | exact z4f _ _ _ _ _ _ _)) ?_
   refine Head.v hF rfl rfl rfl (zp rfl rfl) ?_
   refine Head.v hF rfl rfl rfl (zr rfl rfl rfl (zkp _ _ _ _ 3 _ rfl (by omega) y)) ?_
   refine Head.v hF rfl rfl rfl (zr rfl rfl rfl (by first | exact zeg _ _ _ _ _ _ | exact z4f _ _ _ _ _ _ _)) ?_
   refine Head.v hF rfl rfl rfl (zr rfl rfl rfl (by first | exact zdg _ _ _ _ _ _ | exact zrc _ _ _ _ _ _ _)) ?_
   refine Head.v hF rfl rfl rfl (zp rfl rfl) ?_
   refine Head.c hF rfl rfl (by kernel_rfl) rfl rfl rfl (ztg 17 z rfl (by omega) G) ?_
   refine Head.v hF rfl rfl rfl (zp rfl rfl) ?_
   refine Head.c hF rfl rfl (by kernel_rfl) rfl rfl rfl (ztg 19 z rfl (by omega) G) ?_
   refine Head.v hF rfl rfl rfl (zr rfl rfl rfl (by first | exact zeg _ _ _ _ _ _ | exact z4f _ _ _ _ _ _ _)) ?_
   refine Head.v hF rfl rfl rfl (zp rfl rfl) ?_
   refine Head.v hF rfl rfl rfl (zr rfl rfl rfl (zkp _ _ _ _ 10 _ rfl (by omega) z)) ?_
   refine Head.v hF rfl rfl rfl (zr rfl rfl rfl (by first | exact zeg _ _ _ _ _ _ | exact z4f _ _ _ _ _ _ _)) ?_
   refine Head.v hF rfl rfl rfl (zr rfl rfl rfl (by first | exact zdg _ _ _ _ _ _ | exact zrc _ _ _ _ _ _ _)) ?_
   refine Head.v hF rfl rfl rfl (zm rfl rfl rfl (by simp (disch := omega) only [go_sem, Nat.reduceEqDiff, iteP, u32D, h1, h2, h3, h4, c1, c2, c3, c4] <;> rfl)) ?_
   refine Head.last ⟨rfl, ?_⟩
   simp only [List.drop_succ_cons, List.drop_zero, List.drop_nil, List.nil_append, List.cons_append]
   refine SmG.store hF rfl rfl rfl rfl rfl (by simp (disch := omega) only [go_sem, Nat.reduceEqDiff, iteP, u32D, h1, h2, h3, h4, c1, c2, c3, c4] <;> rfl) ?_
   refine SmG.nil ?_
   refine zk ?_
   refine zd ?_
   refine Sm.regionG hF rfl ?_
   refine SmG.v hF rfl rfl rfl (zp rfl rfl) ?_
   refine SmG.v hF rfl rfl rfl (zr rfl rfl rfl (by first | exact z2f _ _ _ _ _ (zbc _ (by omega)) | exact zrc _ _ _ _ _ _ _)) ?_
   refine SmG.v hF rfl rfl rfl (zbb rfl rfl) ?_
   refine SmG.nil ?_
   refine zd ?_
   exact ⟨⟨t + 1, by omega, by omega⟩, by show 64 - (t + 1) < 64 - t; omega, by exact St.le_of (by first | (simp [leE, look, zcb] <;> omega) | (simp [leE, look, zcb, hst] <;> omega)) (by simp only [leH, look, rep, reduceIte, Nat.reduceEqDiff, List.set_cons_zero, List.set_cons_succ, hst, and_self, and_true, and_false, false_and, if_true, if_false] <;> (repeat' first | rfl | constructor)) (by first | exact Nat.le_refl _ | (dsimp only; omega))⟩
  ·obtain rfl : t = 64 := by omega
   have hln := Sha.grown_length b 64 ht ht2
   have hll : (List.map u32D (Sha.grown b 64)).length = 64 := by rw [List.length_map, hln]
   refine Sm.seq ?_
   refine Sm.seq ?_
   refine Sm.regionG hF rfl ?_
   refine SmG.v hF rfl rfl rfl (zp rfl rfl) ?_
   refine SmG.v hF rfl rfl rfl (zr rfl rfl rfl (by first | exact zdd _ _ _ _ _ (by omega) | exact zwd _ _ _ _ _ (by omega) | exact z0d _ _ _ _ _ _ _)) ?_
   refine SmG.nil ?_
   refine zd ?_
   refine Sm.condF hF rfl ?_
   refine Sm.exit ?_
   simp only [nextS, z3f, reduceIte, reduceCtorEq]
   refine Sm.seq ?_
   refine Sm.regionG hF rfl ?_
   refine SmG.v hF rfl rfl rfl (zab rfl rfl (by simp (disch := omega) only [go_sem, Nat.reduceEqDiff, iteP, u32D] <;> rfl)) ?_
   refine SmG.store hF rfl rfl rfl rfl rfl (by simp (disch := omega) only [go_sem, Nat.reduceEqDiff, iteP, u32D] <;> rfl) ?_
   refine SmG.nil ?_
   refine zd ?_
   refine Sm.ret ?_
   refine zmj rfl rfl (by simp (disch := omega) only [go_sem, Nat.reduceEqDiff, iteP, hll] <;> rfl) ?_
   rw [Sha.grown_last]; exact D.le.refl _
end
section
open Go.RowKit
set_option maxRecDepth 100000
def addTo (c s : List UInt32) (i : Nat) : List UInt32 := (List.zipWith (· + ·) c s).take i ++ c.drop i
theorem zcn (c s : List UInt32) : addTo c s 0 = c := by simp [addTo]
theorem zwt (c s : List UInt32) (i : Nat) (hl : c.length = s.length) (hi : i < c.length) : (addTo c s i)[i]? = some (c.getD i 0) := by
 unfold addTo
 have : ((List.zipWith (· + ·) c s).take i).length = i := by simp [hl]; omega
 rw [List.getElem?_append_right (by omega), this, Nat.sub_self, List.getElem?_drop]
 simp [List.getD, hi]
theorem z2s (c s : List UInt32) (i : Nat) (hl : c.length = s.length) (hi : i < c.length) : (addTo c s i).set i (c.getD i 0 + s.getD i 0) = addTo c s (i + 1) := by
 unfold addTo
 have h1 : ((List.zipWith (· + ·) c s).take i).length = i := by simp [hl]; omega
 rw [List.set_append_right _ _ (by omega), h1, Nat.sub_self, List.drop_eq_getElem_cons hi, List.set_cons_zero, List.take_succ_eq_append_getElem (by simp; omega)]
 simp [List.getD, hi, show i < s.length by omega]
theorem zpt (c s : List UInt32) (hl : c.length = s.length) : addTo c s c.length = List.zipWith (· + ·) c s := by
 unfold addTo
 rw [List.take_of_length_le (by simp; omega), List.drop_length, List.append_nil]
theorem zlr (w : List UInt32) (s : Sha.S8) (n : Nat) : Sha.rounds w s (n + 1) = Sha.round (Sha.rounds w s n) (Sha.keys64.getD n 0) (w.getD n 0) := rfl
theorem z7q (a0 a1 a2 a3 a4 a5 a6 a7 : Int) : z5d Tryd.prog 139 [(0, V.d (.v (.int .u32 a0))), (1, V.d (.v (.int .u32 a1))), (2, V.d (.v (.int .u32 a2))), (3, V.d (.v (.int .u32 a3))), (4, V.d (.v (.int .u32 a4))), (5, V.d (.v (.int .u32 a5))), (6, V.d (.v (.int .u32 a6))), (7, V.d (.v (.int .u32 a7)))] = some (.d (.agg 8 [.v (.int .u32 a0), .v (.int .u32 a1), .v (.int .u32 a2), .v (.int .u32 a3), .v (.int .u32 a4), .v (.int .u32 a5), .v (.int .u32 a6), .v (.int .u32 a7)])) := by kernel_rfl
set_option maxHeartbeats 4000000 in
theorem z3w (S : Sha.S8) (b : List UInt8) (hb : b.length = 64) (G : Nat → Option D) : zg Tryd.prog G 78 [.agg 8 (S.list.map u32D), zmb b] (.agg 8 ((Sha.after S b).list.map u32D)) := by
 have hkeys := z4w G
 have hks := zlr (Sha.spread b) S
 have hkl : Sha.keys64.length = 64 := by decide
 have haf : Sha.after S b = Sha.plus S (Sha.rounds (Sha.spread b) S 64) := rfl
 generalize Sha.keys64 = K at hkeys hks hkl
 have hwl : (Sha.spread b).length = 64 := by rw [← Sha.grown_last, Sha.grown_length b 64 (by omega) (by omega)]
 have hSl : S.list.length = 8 := rfl
 have hKl : (List.map u32D K).length = 64 := by rw [List.length_map, hkl]
 have hWl : (List.map u32D (Sha.spread b)).length = 64 := by rw [List.length_map, hwl]
 have hSS : (List.map u32D S.list).length = 8 := by rw [List.length_map, hSl]
 refine zg.of Tryd.func78 rfl Tryd.ntmps78 (by simp) ?_; intro F hF h0 hT; simp only [List.zipIdx_cons, List.zipIdx_nil, List.map_cons, List.map_nil, Nat.zero_add, Nat.reduceAdd]
 refine Sm.seq ?_
 refine Sm.regionG hF rfl ?_
 refine SmG.new hF rfl rfl rfl (zlw rfl rfl (by simp (disch := omega) only [go_sem, Nat.reduceEqDiff, iteP, u32D] <;> rfl)) ?_
 refine SmG.new hF rfl rfl rfl (zx rfl al139) ?_
 refine SmG.nil ?_
 refine zd ?_
 refine Sm.seq ?_
 refine Sm.regionG hF rfl ?_
 refine SmG.v hF rfl rfl rfl (zp rfl rfl) ?_
 refine SmG.call hF rfl rfl (by kernel_rfl) rfl rfl rfl (zhv b hb G) ?_
 refine SmG.new hF rfl rfl rfl (zx rfl al154) ?_
 refine SmG.store hF rfl rfl rfl rfl rfl (by simp (disch := omega) only [go_sem, Nat.reduceEqDiff, iteP, u32D] <;> rfl) ?_
 refine SmG.nil ?_
 refine zd ?_
 refine Sm.seq ?_
 refine Sm.regionG hF rfl ?_
 refine SmG.call hF rfl rfl (by kernel_rfl) rfl rfl rfl (hkeys) ?_
 refine SmG.new hF rfl rfl rfl (zx rfl al154) ?_
 refine SmG.store hF rfl rfl rfl rfl rfl (by simp (disch := omega) only [go_sem, Nat.reduceEqDiff, iteP, u32D] <;> rfl) ?_
 refine SmG.nil ?_
 refine zd ?_
 refine Sm.seq ?_
 refine Sm.regionG hF rfl ?_
 refine SmG.v hF rfl rfl rfl (zab rfl rfl (by simp (disch := omega) only [go_sem, Nat.reduceEqDiff, iteP, u32D] <;> rfl)) ?_
 refine SmG.new hF rfl rfl rfl (zx rfl al139) ?_
 refine SmG.store hF rfl rfl rfl rfl rfl (by simp (disch := omega) only [go_sem, Nat.reduceEqDiff, iteP, u32D] <;> rfl) ?_
 refine SmG.nil ?_
 refine zd ?_
 refine Sm.seq ?_
 refine Sm.seq ?_
 refine Sm.regionG hF rfl ?_
 refine SmG.v hF rfl rfl rfl (zbb rfl rfl) ?_
 refine SmG.nil ?_
 refine zd ?_
 refine Sm.block ?_
 generalize hW : Sha.spread b = W at hks haf hwl hWl ⊢
 refine Sm.loop (ι := {t : Nat // t ≤ 64}) (fun t => ⟨[(2, .ref 0 0 0), (4, .ref 1 0 0), (5, .ref 2 0 0), (6, .ref 3 0 0), (7, .ref 4 0 0), (8, .d (.v (.int .i64 t.1)))], [(4, dW 8 (Sha.rounds W S t.1).list), (3, dW 64 K), (2, dW 64 W), (1, dW 8 (List.replicate 8 0)), (0, dW 8 S.list)], 5⟩) (fun t => 64 - t.1) (⟨0, by omega⟩) ?_ ?_
 ·exact St.le_of (by first | (simp [leE, look, zcb] <;> omega) | (simp [leE, look, zcb, true_and] <;> omega)) (by simp only [leH, look, rep, reduceIte, Nat.reduceEqDiff, List.set_cons_zero, List.set_cons_succ, true_and, and_self, and_true, and_false, false_and, if_true, if_false] <;> (repeat' first | rfl | constructor)) (by first | exact Nat.le_refl _ | (dsimp only; omega))
 rintro ⟨t, ht⟩
 simp only
 by_cases hlt : t < 64
 ·have hk1 := zxf K t (by omega)
  have hw1 := zxf W t (by omega)
  have hs := hks t
  generalize K.getD t 0 = k at hk1 hs
  generalize W.getD t 0 = x at hw1 hs
  generalize Sha.rounds W S t = c at hs ⊢
  rcases c with ⟨a, b1, c, d, e, f, g, h⟩
  have hrow : (Sha.rounds W S (t + 1)).list = [Sha.tx ⟨a, b1, c, d, e, f, g, h⟩ k x + Sha.ty ⟨a, b1, c, d, e, f, g, h⟩, a, b1, c, d + Sha.tx ⟨a, b1, c, d, e, f, g, h⟩ k x, e, f, g] := by rw [hs]; rfl
  simp only [Sha.tx, Sha.ty, Sha.rot3] at hrow
  rw [show Sha.S8.list ⟨a, b1, c, d, e, f, g, h⟩ = [a, b1, c, d, e, f, g, h] from rfl]
  refine Sm.seq ?_
  refine Sm.seq ?_
  refine Sm.regionG hF rfl ?_
  refine SmG.v hF rfl rfl rfl (zp rfl rfl) ?_
  refine SmG.v hF rfl rfl rfl (zr rfl rfl rfl (by first | exact zdd _ _ _ _ _ (by omega) | exact zwd _ _ _ _ _ (by omega) | exact z0d _ _ _ _ _ _ _)) ?_
  refine SmG.nil ?_
  refine zd ?_
  refine Sm.condT hF rfl ?_
  refine Sm.skip ?_
  refine zd ?_
  refine Sm.seq ?_
  refine Sm.block ?_
  refine Sm.seq ?_
  refine Sm.drawG hF (by kernel_rfl) rfl 36 (by kernel_rfl) (by kernel_rfl) ?_
  simp only [List.take_succ_cons, List.take_zero, List.take_nil]
  refine Head.v hF rfl rfl rfl (zm rfl rfl rfl (by simp (disch := omega) only [go_sem, Nat.reduceEqDiff, iteP, u32D, hk1, hw1, hkl, hwl] <;> rfl)) ?_
  refine Head.v hF rfl rfl rfl (zab rfl rfl (by simp (disch := omega) only [go_sem, Nat.reduceEqDiff, iteP, u32D, hk1, hw1, hkl, hwl] <;> rfl)) ?_
  refine Head.v hF rfl rfl rfl (zm rfl rfl rfl (by simp (disch := omega) only [go_sem, Nat.reduceEqDiff, iteP, u32D, hk1, hw1, hkl, hwl] <;> rfl)) ?_
  refine Head.v hF rfl rfl rfl (zab rfl rfl (by simp (disch := omega) only [go_sem, Nat.reduceEqDiff, iteP, u32D, hk1, hw1, hkl, hwl] <;> rfl)) ?_
  refine Head.c hF rfl rfl (by kernel_rfl) rfl rfl rfl (ztg 6 e rfl (by omega) G) ?_
  refine Head.v hF rfl rfl rfl (zm rfl rfl rfl (by simp (disch := omega) only [go_sem, Nat.reduceEqDiff, iteP, u32D, hk1, hw1, hkl, hwl] <;> rfl)) ?_
  refine Head.v hF rfl rfl rfl (zab rfl rfl (by simp (disch := omega) only [go_sem, Nat.reduceEqDiff, iteP, u32D, hk1, hw1, hkl, hwl] <;> rfl)) ?_
  refine Head.c hF rfl rfl (by kernel_rfl) rfl rfl rfl (ztg 11 e rfl (by omega) G) ?_
  refine Head.v hF rfl rfl rfl (zr rfl rfl rfl (by first | exact zeg _ _ _ _ _ _ | exact z4f _ _ _ _ _ _ _)) ?_
  refine Head.v hF rfl rfl rfl (zm rfl rfl rfl (by simp (disch := omega) only [go_sem, Nat.reduceEqDiff, iteP, u32D, hk1, hw1, hkl, hwl] <;> rfl)) ?_
  refine Head.v hF rfl rfl rfl (zab rfl rfl (by simp (disch := omega) only [go_sem, Nat.reduceEqDiff, iteP, u32D, hk1, hw1, hkl, hwl] <;> rfl)) ?_
  refine Head.c hF rfl rfl (by kernel_rfl) rfl rfl rfl (ztg 25 e rfl (by omega) G) ?_
  refine Head.v hF rfl rfl rfl (zr rfl rfl rfl (by first | exact zeg _ _ _ _ _ _ | exact z4f _ _ _ _ _ _ _)) ?_
  refine Head.v hF rfl rfl rfl (zr rfl rfl rfl (by first | exact zdg _ _ _ _ _ _ | exact zrc _ _ _ _ _ _ _)) ?_
  refine Head.v hF rfl rfl rfl (zm rfl rfl rfl (by simp (disch := omega) only [go_sem, Nat.reduceEqDiff, iteP, u32D, hk1, hw1, hkl, hwl] <;> rfl)) ?_
  refine Head.v hF rfl rfl rfl (zab rfl rfl (by simp (disch := omega) only [go_sem, Nat.reduceEqDiff, iteP, u32D, hk1, hw1, hkl, hwl] <;> rfl)) ?_
  refine Head.v hF rfl rfl rfl (zm rfl rfl rfl (by simp (disch := omega) only [go_sem, Nat.reduceEqDiff, iteP, u32D, hk1, hw1, hkl, hwl] <;> rfl)) ?_
  refine Head.v hF rfl rfl rfl (zab rfl rfl (by simp (disch := omega) only [go_sem, Nat.reduceEqDiff, iteP, u32D, hk1, hw1, hkl, hwl] <;> rfl)) ?_
  refine Head.v hF rfl rfl rfl (zr rfl rfl rfl (by first | exact z2l _ _ _ _ _ _ | exact z7i _ _ _ _ _ _ _)) ?_
  refine Head.v hF rfl rfl rfl (zm rfl rfl rfl (by simp (disch := omega) only [go_sem, Nat.reduceEqDiff, iteP, u32D, hk1, hw1, hkl, hwl] <;> rfl)) ?_
  refine Head.v hF rfl rfl rfl (zab rfl rfl (by simp (disch := omega) only [go_sem, Nat.reduceEqDiff, iteP, u32D, hk1, hw1, hkl, hwl] <;> rfl)) ?_
  refine Head.v hF rfl rfl rfl (z5i rfl rfl (z5w _ _)) ?_
  refine Head.v hF rfl rfl rfl (zm rfl rfl rfl (by simp (disch := omega) only [go_sem, Nat.reduceEqDiff, iteP, u32D, hk1, hw1, hkl, hwl] <;> rfl)) ?_
  refine Head.v hF rfl rfl rfl (zab rfl rfl (by simp (disch := omega) only [go_sem, Nat.reduceEqDiff, iteP, u32D, hk1, hw1, hkl, hwl] <;> rfl)) ?_
  refine Head.v hF rfl rfl rfl (zr rfl rfl rfl (by first | exact z2l _ _ _ _ _ _ | exact z7i _ _ _ _ _ _ _)) ?_
  refine Head.v hF rfl rfl rfl (zr rfl rfl rfl (by first | exact zeg _ _ _ _ _ _ | exact z4f _ _ _ _ _ _ _)) ?_
  refine Head.v hF rfl rfl rfl (zr rfl rfl rfl (by first | exact zdg _ _ _ _ _ _ | exact zrc _ _ _ _ _ _ _)) ?_
  refine Head.v hF rfl rfl rfl (zp rfl rfl) ?_
  refine Head.v hF rfl rfl rfl (zm rfl rfl rfl (by simp (disch := omega) only [go_sem, Nat.reduceEqDiff, iteP, u32D, hk1, hw1, hkl, hwl] <;> rfl)) ?_
  refine Head.v hF rfl rfl rfl (zab rfl rfl (by simp (disch := omega) only [go_sem, Nat.reduceEqDiff, iteP, u32D, hk1, hw1, hkl, hwl] <;> rfl)) ?_
  refine Head.v hF rfl rfl rfl (zr rfl rfl rfl (by first | exact zdg _ _ _ _ _ _ | exact zrc _ _ _ _ _ _ _)) ?_
  refine Head.v hF rfl rfl rfl (zp rfl rfl) ?_
  refine Head.v hF rfl rfl rfl (zm rfl rfl rfl (by simp (disch := omega) only [go_sem, Nat.reduceEqDiff, iteP, u32D, hk1, hw1, hkl, hwl] <;> rfl)) ?_
  refine Head.v hF rfl rfl rfl (zab rfl rfl (by simp (disch := omega) only [go_sem, Nat.reduceEqDiff, iteP, u32D, hk1, hw1, hkl, hwl] <;> rfl)) ?_
  refine Head.v hF rfl rfl rfl (zr rfl rfl rfl (by first | exact zdg _ _ _ _ _ _ | exact zrc _ _ _ _ _ _ _)) ?_
  refine Head.v hF rfl rfl rfl (zbb rfl rfl) ?_
  refine Head.last ⟨rfl, ?_⟩
  simp only [List.drop_succ_cons, List.drop_zero, List.drop_nil, List.nil_append, List.cons_append]
  refine SmG.nil ?_
  refine zd ?_
  refine Sm.seq ?_
  refine Sm.drawG hF (by kernel_rfl) rfl 30 (by kernel_rfl) (by kernel_rfl) ?_
  simp only [List.take_succ_cons, List.take_zero, List.take_nil]
  refine Head.v hF rfl rfl rfl (zm rfl rfl rfl (by simp (disch := omega) only [go_sem, Nat.reduceEqDiff, iteP, u32D, hk1, hw1, hkl, hwl] <;> rfl)) ?_
  refine Head.v hF rfl rfl rfl (zab rfl rfl (by simp (disch := omega) only [go_sem, Nat.reduceEqDiff, iteP, u32D, hk1, hw1, hkl, hwl] <;> rfl)) ?_
  refine Head.c hF rfl rfl (by kernel_rfl) rfl rfl rfl (ztg 2 a rfl (by omega) G) ?_
  refine Head.v hF rfl rfl rfl (zm rfl rfl rfl (by simp (disch := omega) only [go_sem, Nat.reduceEqDiff, iteP, u32D, hk1, hw1, hkl, hwl] <;> rfl)) ?_
  refine Head.v hF rfl rfl rfl (zab rfl rfl (by simp (disch := omega) only [go_sem, Nat.reduceEqDiff, iteP, u32D, hk1, hw1, hkl, hwl] <;> rfl)) ?_
  refine Head.c hF rfl rfl (by kernel_rfl) rfl rfl rfl (ztg 13 a rfl (by omega) G) ?_
  refine Head.v hF rfl rfl rfl (zr rfl rfl rfl (by first | exact zeg _ _ _ _ _ _ | exact z4f _ _ _ _ _ _ _)) ?_
  refine Head.v hF rfl rfl rfl (zm rfl rfl rfl (by simp (disch := omega) only [go_sem, Nat.reduceEqDiff, iteP, u32D, hk1, hw1, hkl, hwl] <;> rfl)) ?_
  refine Head.v hF rfl rfl rfl (zab rfl rfl (by simp (disch := omega) only [go_sem, Nat.reduceEqDiff, iteP, u32D, hk1, hw1, hkl, hwl] <;> rfl)) ?_
  refine Head.c hF rfl rfl (by kernel_rfl) rfl rfl rfl (ztg 22 a rfl (by omega) G) ?_
  refine Head.v hF rfl rfl rfl (zr rfl rfl rfl (by first | exact zeg _ _ _ _ _ _ | exact z4f _ _ _ _ _ _ _)) ?_
  refine Head.v hF rfl rfl rfl (zm rfl rfl rfl (by simp (disch := omega) only [go_sem, Nat.reduceEqDiff, iteP, u32D, hk1, hw1, hkl, hwl] <;> rfl)) ?_
  refine Head.v hF rfl rfl rfl (zab rfl rfl (by simp (disch := omega) only [go_sem, Nat.reduceEqDiff, iteP, u32D, hk1, hw1, hkl, hwl] <;> rfl)) ?_
  refine Head.v hF rfl rfl rfl (zm rfl rfl rfl (by simp (disch := omega) only [go_sem, Nat.reduceEqDiff, iteP, u32D, hk1, hw1, hkl, hwl] <;> rfl)) ?_
  refine Head.v hF rfl rfl rfl (zab rfl rfl (by simp (disch := omega) only [go_sem, Nat.reduceEqDiff, iteP, u32D, hk1, hw1, hkl, hwl] <;> rfl)) ?_
  refine Head.v hF rfl rfl rfl (zr rfl rfl rfl (by first | exact z2l _ _ _ _ _ _ | exact z7i _ _ _ _ _ _ _)) ?_
  refine Head.v hF rfl rfl rfl (zm rfl rfl rfl (by simp (disch := omega) only [go_sem, Nat.reduceEqDiff, iteP, u32D, hk1, hw1, hkl, hwl] <;> rfl)) ?_
  refine Head.v hF rfl rfl rfl (zab rfl rfl (by simp (disch := omega) only [go_sem, Nat.reduceEqDiff, iteP, u32D, hk1, hw1, hkl, hwl] <;> rfl)) ?_
  refine Head.v hF rfl rfl rfl (zm rfl rfl rfl (by simp (disch := omega) only [go_sem, Nat.reduceEqDiff, iteP, u32D, hk1, hw1, hkl, hwl] <;> rfl)) ?_
  refine Head.v hF rfl rfl rfl (zab rfl rfl (by simp (disch := omega) only [go_sem, Nat.reduceEqDiff, iteP, u32D, hk1, hw1, hkl, hwl] <;> rfl)) ?_
  refine Head.v hF rfl rfl rfl (zr rfl rfl rfl (by first | exact z2l _ _ _ _ _ _ | exact z7i _ _ _ _ _ _ _)) ?_
  refine Head.v hF rfl rfl rfl (zr rfl rfl rfl (by first | exact zeg _ _ _ _ _ _ | exact z4f _ _ _ _ _ _ _)) ?_
  refine Head.v hF rfl rfl rfl (zm rfl rfl rfl (by simp (disch := omega) only [go_sem, Nat.reduceEqDiff, iteP, u32D, hk1, hw1, hkl, hwl] <;> rfl)) ?_
  refine Head.v hF rfl rfl rfl (zab rfl rfl (by simp (disch := omega) only [go_sem, Nat.reduceEqDiff, iteP, u32D, hk1, hw1, hkl, hwl] <;> rfl)) ?_
  refine Head.v hF rfl rfl rfl (zm rfl rfl rfl (by simp (disch := omega) only [go_sem, Nat.reduceEqDiff, iteP, u32D, hk1, hw1, hkl, hwl] <;> rfl)) ?_
  refine Head.v hF rfl rfl rfl (zab rfl rfl (by simp (disch := omega) only [go_sem, Nat.reduceEqDiff, iteP, u32D, hk1, hw1, hkl, hwl] <;> rfl)) ?_
  refine Head.v hF rfl rfl rfl (zr rfl rfl rfl (by first | exact z2l _ _ _ _ _ _ | exact z7i _ _ _ _ _ _ _)) ?_
  refine Head.v hF rfl rfl rfl (zr rfl rfl rfl (by first | exact zeg _ _ _ _ _ _ | exact z4f _ _ _ _ _ _ _)) ?_
  refine Head.v hF rfl rfl rfl (zr rfl rfl rfl (by first | exact zdg _ _ _ _ _ _ | exact zrc _ _ _ _ _ _ _)) ?_
  refine Head.v hF rfl rfl rfl (zbb rfl rfl) ?_
  refine Head.last ⟨rfl, ?_⟩
  simp only [List.drop_succ_cons, List.drop_zero, List.drop_nil, List.nil_append, List.cons_append]
  refine SmG.nil ?_
  refine zd ?_
  refine Sm.regionG hF rfl ?_
  refine SmG.v hF rfl rfl rfl (zp rfl rfl) ?_
  refine SmG.v hF rfl rfl rfl (zp rfl rfl) ?_
  refine SmG.v hF rfl rfl rfl (zr rfl rfl rfl (by first | exact zdg _ _ _ _ _ _ | exact zrc _ _ _ _ _ _ _)) ?_
  refine SmG.v hF rfl rfl rfl (zm rfl rfl rfl (by simp (disch := omega) only [go_sem, Nat.reduceEqDiff, iteP, u32D, hk1, hw1, hkl, hwl] <;> rfl)) ?_
  refine SmG.v hF rfl rfl rfl (zab rfl rfl (by simp (disch := omega) only [go_sem, Nat.reduceEqDiff, iteP, u32D, hk1, hw1, hkl, hwl] <;> rfl)) ?_
  refine SmG.v hF rfl rfl rfl (zm rfl rfl rfl (by simp (disch := omega) only [go_sem, Nat.reduceEqDiff, iteP, u32D, hk1, hw1, hkl, hwl] <;> rfl)) ?_
  refine SmG.v hF rfl rfl rfl (zab rfl rfl (by simp (disch := omega) only [go_sem, Nat.reduceEqDiff, iteP, u32D, hk1, hw1, hkl, hwl] <;> rfl)) ?_
  refine SmG.v hF rfl rfl rfl (zm rfl rfl rfl (by simp (disch := omega) only [go_sem, Nat.reduceEqDiff, iteP, u32D, hk1, hw1, hkl, hwl] <;> rfl)) ?_
  refine SmG.v hF rfl rfl rfl (zab rfl rfl (by simp (disch := omega) only [go_sem, Nat.reduceEqDiff, iteP, u32D, hk1, hw1, hkl, hwl] <;> rfl)) ?_
  refine SmG.v hF rfl rfl rfl (zm rfl rfl rfl (by simp (disch := omega) only [go_sem, Nat.reduceEqDiff, iteP, u32D, hk1, hw1, hkl, hwl] <;> rfl)) ?_
  refine SmG.v hF rfl rfl rfl (zab rfl rfl (by simp (disch := omega) only [go_sem, Nat.reduceEqDiff, iteP, u32D, hk1, hw1, hkl, hwl] <;> rfl)) ?_
  refine SmG.v hF rfl rfl rfl (zp rfl rfl) ?_
  refine SmG.v hF rfl rfl rfl (zr rfl rfl rfl (by first | exact zdg _ _ _ _ _ _ | exact zrc _ _ _ _ _ _ _)) ?_
  refine SmG.v hF rfl rfl rfl (zm rfl rfl rfl (by simp (disch := omega) only [go_sem, Nat.reduceEqDiff, iteP, u32D, hk1, hw1, hkl, hwl] <;> rfl)) ?_
  refine SmG.v hF rfl rfl rfl (zab rfl rfl (by simp (disch := omega) only [go_sem, Nat.reduceEqDiff, iteP, u32D, hk1, hw1, hkl, hwl] <;> rfl)) ?_
  refine SmG.v hF rfl rfl rfl (zm rfl rfl rfl (by simp (disch := omega) only [go_sem, Nat.reduceEqDiff, iteP, u32D, hk1, hw1, hkl, hwl] <;> rfl)) ?_
  refine SmG.v hF rfl rfl rfl (zab rfl rfl (by simp (disch := omega) only [go_sem, Nat.reduceEqDiff, iteP, u32D, hk1, hw1, hkl, hwl] <;> rfl)) ?_
  refine SmG.v hF rfl rfl rfl (zm rfl rfl rfl (by simp (disch := omega) only [go_sem, Nat.reduceEqDiff, iteP, u32D, hk1, hw1, hkl, hwl] <;> rfl)) ?_
  refine SmG.v hF rfl rfl rfl (zab rfl rfl (by simp (disch := omega) only [go_sem, Nat.reduceEqDiff, iteP, u32D, hk1, hw1, hkl, hwl] <;> rfl)) ?_
  refine SmG.v hF rfl rfl rfl (zyf rfl Tryd.underlying139 rfl (z7q _ _ _ _ _ _ _ _)) ?_
  refine SmG.store hF rfl rfl rfl rfl rfl (by simp (disch := omega) only [go_sem, Nat.reduceEqDiff, iteP, u32D, hk1, hw1, hkl, hwl] <;> rfl) ?_
  refine SmG.nil ?_
  refine zk ?_
  refine zd ?_
  refine Sm.regionG hF rfl ?_
  refine SmG.v hF rfl rfl rfl (zp rfl rfl) ?_
  refine SmG.v hF rfl rfl rfl (zr rfl rfl rfl (by first | exact z2f _ _ _ _ _ (zbc _ (by omega)) | exact zrc _ _ _ _ _ _ _)) ?_
  refine SmG.v hF rfl rfl rfl (zbb rfl rfl) ?_
  refine SmG.nil ?_
  refine zd ?_
  exact ⟨⟨t + 1, by omega⟩, by show 64 - (t + 1) < 64 - t; omega, by exact St.le_of (by first | (simp [leE, look, zcb] <;> omega) | (simp [leE, look, zcb, hrow, List.map_cons, List.map_nil] <;> omega)) (by simp only [leH, look, rep, reduceIte, Nat.reduceEqDiff, List.set_cons_zero, List.set_cons_succ, hrow, List.map_cons, List.map_nil, and_self, and_true, and_false, false_and, if_true, if_false] <;> (repeat' first | rfl | constructor)) (by first | exact Nat.le_refl _ | (dsimp only; omega))⟩
 ·obtain rfl : t = 64 := by omega
  have hcl : (Sha.rounds W S 64).list.length = 8 := rfl
  have hpl : (Sha.after S b).list = List.zipWith (· + ·) (Sha.rounds W S 64).list S.list := by rw [haf]; rfl
  generalize (Sha.rounds W S 64).list = C at hcl hpl ⊢
  generalize S.list = L at hSl hpl hSS ⊢
  refine Sm.seq ?_
  refine Sm.seq ?_
  refine Sm.regionG hF rfl ?_
  refine SmG.v hF rfl rfl rfl (zp rfl rfl) ?_
  refine SmG.v hF rfl rfl rfl (zr rfl rfl rfl (by first | exact zdd _ _ _ _ _ (by omega) | exact zwd _ _ _ _ _ (by omega) | exact z0d _ _ _ _ _ _ _)) ?_
  refine SmG.nil ?_
  refine zd ?_
  refine Sm.condF hF rfl ?_
  refine Sm.exit ?_
  simp only [nextS, z3f, reduceIte, reduceCtorEq]
  refine Sm.seq ?_
  refine Sm.seq ?_
  refine Sm.regionG hF rfl ?_
  refine SmG.v hF rfl rfl rfl (zbb rfl rfl) ?_
  refine SmG.nil ?_
  refine zd ?_
  refine Sm.block ?_
  refine Sm.loop (ι := {i : Nat // i ≤ 8}) (fun i => ⟨[(2, .ref 0 0 0), (4, .ref 1 0 0), (7, .ref 4 0 0), (11, .d (.v (.int .i64 i.1)))], [(4, dW 8 (addTo C L i.1)), (1, dW 8 (List.replicate 8 0)), (0, dW 8 L)], 5⟩) (fun i => 8 - i.1) (⟨0, by omega⟩) ?_ ?_
  ·exact St.le_of (by first | (simp [leE, look, zcb] <;> omega) | (simp [leE, look, zcb, zcn] <;> omega)) (by simp only [leH, look, rep, reduceIte, Nat.reduceEqDiff, List.set_cons_zero, List.set_cons_succ, zcn, and_self, and_true, and_false, false_and, if_true, if_false] <;> (repeat' first | rfl | constructor)) (by first | exact Nat.le_refl _ | (dsimp only; omega))
  rintro ⟨i, hi⟩
  simp only
  by_cases hlt : i < 8
  ·have h1 := zwt C L i (by omega) (by omega)
   have h2 := zxf L i (by omega)
   have hst := zlo (addTo C L i) i (C.getD i 0 + L.getD i 0)
   rw [z2s C L i (by omega) (by omega)] at hst
   generalize C.getD i 0 = x at h1 hst
   generalize L.getD i 0 = y at h2 hst
   refine Sm.seq ?_
   refine Sm.seq ?_
   refine Sm.regionG hF rfl ?_
   refine SmG.v hF rfl rfl rfl (zp rfl rfl) ?_
   refine SmG.v hF rfl rfl rfl (zr rfl rfl rfl (by first | exact zdd _ _ _ _ _ (by omega) | exact zwd _ _ _ _ _ (by omega) | exact z0d _ _ _ _ _ _ _)) ?_
   refine SmG.nil ?_
   refine zd ?_
   refine Sm.condT hF rfl ?_
   refine Sm.skip ?_
   refine zd ?_
   refine Sm.seq ?_
   refine Sm.block ?_
   refine Sm.drawG hF (by kernel_rfl) rfl 8 (by kernel_rfl) (by kernel_rfl) ?_
   simp only [List.take_succ_cons, List.take_zero, List.take_nil]
   refine Head.v hF rfl rfl rfl (zp rfl rfl) ?_
   refine Head.v hF rfl rfl rfl (zm rfl rfl rfl (by simp (disch := omega) only [go_sem, Nat.reduceEqDiff, iteP, u32D, h1, h2] <;> rfl)) ?_
   refine Head.v hF rfl rfl rfl (zab rfl rfl (by simp (disch := omega) only [go_sem, Nat.reduceEqDiff, iteP, u32D, h1, h2] <;> rfl)) ?_
   refine Head.v hF rfl rfl rfl (zp rfl rfl) ?_
   refine Head.v hF rfl rfl rfl (zm rfl rfl rfl (by simp (disch := omega) only [go_sem, Nat.reduceEqDiff, iteP, u32D, h1, h2] <;> rfl)) ?_
   refine Head.v hF rfl rfl rfl (zab rfl rfl (by simp (disch := omega) only [go_sem, Nat.reduceEqDiff, iteP, u32D, h1, h2] <;> rfl)) ?_
   refine Head.v hF rfl rfl rfl (zr rfl rfl rfl (by first | exact zdg _ _ _ _ _ _ | exact zrc _ _ _ _ _ _ _)) ?_
   refine Head.v hF rfl rfl rfl (zm rfl rfl rfl (by simp (disch := omega) only [go_sem, Nat.reduceEqDiff, iteP, u32D, h1, h2] <;> rfl)) ?_
   refine Head.last ⟨rfl, ?_⟩
   simp only [List.drop_succ_cons, List.drop_zero, List.drop_nil, List.nil_append, List.cons_append]
   refine SmG.store hF rfl rfl rfl rfl rfl (by simp (disch := omega) only [go_sem, Nat.reduceEqDiff, iteP, u32D, h1, h2] <;> rfl) ?_
   refine SmG.nil ?_
   refine zk ?_
   refine zd ?_
   refine Sm.regionG hF rfl ?_
   refine SmG.v hF rfl rfl rfl (zp rfl rfl) ?_
   refine SmG.v hF rfl rfl rfl (zr rfl rfl rfl (by first | exact z2f _ _ _ _ _ (zbc _ (by omega)) | exact zrc _ _ _ _ _ _ _)) ?_
   refine SmG.v hF rfl rfl rfl (zbb rfl rfl) ?_
   refine SmG.nil ?_
   refine zd ?_
   exact ⟨⟨i + 1, by omega⟩, by show 8 - (i + 1) < 8 - i; omega, by exact St.le_of (by first | (simp [leE, look, zcb] <;> omega) | (simp [leE, look, zcb, hst] <;> omega)) (by simp only [leH, look, rep, reduceIte, Nat.reduceEqDiff, List.set_cons_zero, List.set_cons_succ, hst, and_self, and_true, and_false, false_and, if_true, if_false] <;> (repeat' first | rfl | constructor)) (by first | exact Nat.le_refl _ | (dsimp only; omega))⟩
  ·obtain rfl : i = 8 := by omega
   have hall := zpt C L (by omega)
   rw [hcl] at hall
   have hll : (List.map u32D (addTo C L 8)).length = 8 := by rw [hall]; simp [hcl, hSl]
   refine Sm.seq ?_
   refine Sm.seq ?_
   refine Sm.regionG hF rfl ?_
   refine SmG.v hF rfl rfl rfl (zp rfl rfl) ?_
   refine SmG.v hF rfl rfl rfl (zr rfl rfl rfl (by first | exact zdd _ _ _ _ _ (by omega) | exact zwd _ _ _ _ _ (by omega) | exact z0d _ _ _ _ _ _ _)) ?_
   refine SmG.nil ?_
   refine zd ?_
   refine Sm.condF hF rfl ?_
   refine Sm.exit ?_
   simp only [nextS, z3f, reduceIte, reduceCtorEq]
   refine Sm.seq ?_
   refine Sm.regionG hF rfl ?_
   refine SmG.v hF rfl rfl rfl (zab rfl rfl (by simp (disch := omega) only [go_sem, Nat.reduceEqDiff, iteP, u32D, hll] <;> rfl)) ?_
   refine SmG.store hF rfl rfl rfl rfl rfl (by simp (disch := omega) only [go_sem, Nat.reduceEqDiff, iteP, u32D, hll] <;> rfl) ?_
   refine SmG.nil ?_
   refine zd ?_
   refine Sm.ret ?_
   refine zmj rfl rfl (by simp (disch := omega) only [go_sem, Nat.reduceEqDiff, iteP, hll] <;> rfl) ?_
   rw [hall, ← hpl]; exact D.le.refl _
end
section
open Go.RowKit
set_option maxRecDepth 100000
theorem z9r {P : Program} {s d : TypeId} {td : TypeDesc} {k2 : IntKind} (z : Nat) (h1 : P.underlying s = some td) (h2 : P.underlying d = some (.int .u8)) : convS P s d (.d (.v (.int k2 (z : Int)))) = some (.d (byteD (UInt8.ofNat z))) := by
 simp only [convS, zhp P .u8 z s d h1 h2 k2, Option.map_some, byteD]
 have : IntKind.u8.wrap (z : Int) = ((UInt8.ofNat z).toNat : Int) := by
  rw [IntKind.wrap_u8']
  simp
 rw [this]
theorem z0m (l : List UInt8) (b : UInt8) : List.map rowB l ++ [[byteD b]] = List.map rowB (l ++ [b]) := by simp [rowB]
theorem zat (n i : Nat) (h : i < 8) : (Sha.lenBytes n).take i ++ [UInt8.ofNat (8 * n / 2 ^ (56 - 8 * i))] = (Sha.lenBytes n).take (i + 1) := (Sha.lenBytes_take n i h).symm
theorem shr64 (P : Program) (t : TypeId) (x y : Operand) (a n : Nat) {b : Int} (k2 : IntKind) (hb : b = (n : Int)) (hn : n ≤ 64) : reck P (do eqGuard .shr t x y (.int .u64 a) (.int k2 b); binOp .shr t (.int .u64 a) (.int k2 b)) = some (.int .u64 ((a / 2 ^ n : Nat) : Int)) := by
 rw [zgp P t x y .u64 a b k2 (by omega)]
 subst hb
 have : min ((n : Int).toNat) IntKind.u64.bits = n := by show min _ 64 = n; omega
 rw [this, Int.fdiv_eq_ediv_of_nonneg _ (Int.le_of_lt (Int.pow_pos (by omega)))]
 norm_cast
theorem z1u (b : List UInt8) (hb : b.length ≤ 1000000) (G : Nat → Option D) : zg Tryd.prog G 76 [zmb b] (zmb (Sha.padded b)) := by
 have hpad : Sha.padded b = b ++ [128] ++ List.replicate (Sha.zeros b.length) 0 ++ Sha.lenBytes b.length := rfl
 have hz : Sha.zeros b.length < 64 := by unfold Sha.zeros; omega
 have hzt := fun j => Sha.zeros_test b.length j
 have hze := Sha.zeros_end b.length
 generalize Sha.zeros b.length = z at hpad hz hzt hze
 refine zg.of Tryd.func76 rfl Tryd.ntmps76 (by simp) ?_; intro F hF h0 hT; simp only [List.zipIdx_cons, List.zipIdx_nil, List.map_cons, List.map_nil, Nat.zero_add, Nat.reduceAdd]
 refine Sm.seq ?_
 refine Sm.regionG hF rfl ?_
 refine SmG.v hF rfl rfl rfl (zbb rfl rfl) ?_
 refine SmG.nil ?_
 refine zd ?_
 refine Sm.seq ?_
 refine Sm.regionG hF rfl ?_
 refine SmG.v hF rfl rfl rfl (z2e rfl rfl (by simp (disch := omega) only [go_sem, Nat.reduceEqDiff, iteP, zmb, rowB] <;> rfl)) ?_
 refine SmG.v hF rfl rfl rfl (zp rfl rfl) ?_
 refine SmG.appendFresh hF elU8 rfl rfl rfl rfl rfl rfl (Or.inl rfl) (by simp only [List.length_map]; omega) (by simp only [List.length_map]; omega) ?_
 refine SmG.v hF rfl rfl rfl (zbb rfl rfl) ?_
 refine SmG.nil ?_
 refine zd ?_
 refine Sm.seq ?_
 refine Sm.regionG hF rfl ?_
 refine SmG.v hF rfl rfl rfl (zp rfl rfl) ?_
 refine SmG.v hF rfl rfl rfl (z2e rfl rfl (by simp (disch := omega) only [go_sem, Nat.reduceEqDiff, iteP, zmb, rowB] <;> rfl)) ?_
 refine SmG.appendOwn hF elU8 rfl rfl rfl rfl rfl rfl rfl (by first | rfl | (simp; done) | (simp; omega)) (Or.inl rfl) (by (repeat' first | exact zqb _ | refine zib ?_ | refine zi ?_ (z6 _ _ _) | refine zi ?_ (z6 _ _ [_]) | refine zi ?_ (z2b (by rfl)))) ?_ ?_ ?_; rotate_left; rotate_left; simp only [killV, Pk.v, V.free, rep, bne_self_eq_false, Nat.reduceAdd, Nat.reduceBNe, Nat.reduceBEq, Nat.reduceEqDiff, reduceIte, Bool.false_eq_true]
 rotate_left
 ·simp only [List.length_map, List.length_cons, List.length_nil]; omega
 ·simp only [List.length_map, List.length_cons, List.length_nil]; omega
 refine SmG.v hF rfl rfl rfl (zbb rfl rfl) ?_
 refine SmG.nil ?_
 refine zd ?_
 refine Sm.seq ?_
 refine Sm.block ?_
 refine Sm.loop (ι := {j : Nat // j ≤ z}) (fun j => ⟨[(0, .d (zmb b)), (3, .sref 0 0 ((b ++ [128] ++ List.replicate j.1 0).map rowB).length)], [(0, dB 1 ((b ++ [128] ++ List.replicate j.1 0).map rowB))], 1⟩) (fun j => z - j.1) (⟨0, by omega⟩) ?_ ?_
 ·have h0 : List.map rowB b ++ [[D.v (.int .u8 128)]] = List.map rowB (b ++ [128] ++ List.replicate 0 0) := by
   rw [List.replicate_zero, List.append_nil, ← z0m]; rfl
  exact St.le_of (by first | (simp [leE, look, zcb] <;> omega) | (simp [leE, look, zcb, h0] <;> omega)) (by simp only [leH, look, rep, reduceIte, Nat.reduceEqDiff, List.set_cons_zero, List.set_cons_succ, h0, and_self, and_true, and_false, false_and, if_true, if_false] <;> (repeat' first | rfl | constructor)) (by first | exact Nat.le_refl _ | (dsimp only; omega))
 rintro ⟨j, hj⟩
 simp only
 by_cases hlt : j < z
 ·have hzj := hzt j hlt
  have hrow : List.map rowB (b ++ [128] ++ List.replicate j 0) ++ [[D.v (.int .u8 0)]] = List.map rowB (b ++ [128] ++ List.replicate (j + 1) 0) := by
   rw [List.replicate_succ', ← List.append_assoc, ← z0m]; rfl
  refine Sm.seq ?_
  refine Sm.seq ?_
  refine Sm.regionG hF rfl ?_
  refine SmG.v hF rfl rfl rfl (zp rfl rfl) ?_
  refine SmG.v hF rfl rfl rfl (zxi rfl rfl (by simp (disch := omega) only [go_sem, Nat.reduceEqDiff, iteP, zmb, rowB, List.length_append, List.length_cons, List.length_nil, List.length_replicate] <;> rfl)) ?_
  refine SmG.v hF rfl rfl rfl (zr rfl rfl rfl (by first | exact z2f _ _ _ _ _ (zbc _ (by omega)) | exact zrc _ _ _ _ _ _ _)) ?_
  refine SmG.v hF rfl rfl rfl (zr rfl rfl rfl (by first | exact zjq _ _ _ _ _ (by omega) (by omega) | exact zql _ _ _ _ _ _ _ (by omega))) ?_
  refine SmG.v hF rfl rfl rfl (zr rfl rfl rfl (by first | exact zrr _ _ _ _ _ (by omega) | exact zzr _ _ _ _ _ (by omega) | exact zxl _ _ _ _ _ _ _)) ?_
  refine SmG.nil ?_
  refine zd ?_
  refine Sm.condT hF rfl ?_
  refine Sm.skip ?_
  refine zd ?_
  refine Sm.block ?_
  refine Sm.regionG hF rfl ?_
  refine SmG.v hF rfl rfl rfl (zp rfl rfl) ?_
  refine SmG.v hF rfl rfl rfl (z2e rfl rfl (by simp (disch := omega) only [go_sem, Nat.reduceEqDiff, iteP, zmb, rowB, List.length_append, List.length_cons, List.length_nil, List.length_replicate] <;> rfl)) ?_
  refine SmG.appendOwn hF elU8 rfl rfl rfl rfl rfl rfl rfl (by first | rfl | (simp; done) | (simp; omega)) (Or.inl rfl) (by (repeat' first | exact zqb _ | refine zib ?_ | refine zi ?_ (z6 _ _ _) | refine zi ?_ (z6 _ _ [_]) | refine zi ?_ (z2b (by rfl)))) ?_ ?_ ?_; rotate_left; rotate_left; simp only [killV, Pk.v, V.free, rep, bne_self_eq_false, Nat.reduceAdd, Nat.reduceBNe, Nat.reduceBEq, Nat.reduceEqDiff, reduceIte, Bool.false_eq_true]
  rotate_left
  ·simp only [List.length_map, List.length_append, List.length_cons, List.length_nil, List.length_replicate]; omega
  ·simp only [List.length_map, List.length_append, List.length_cons, List.length_nil, List.length_replicate]; omega
  refine SmG.v hF rfl rfl rfl (zbb rfl rfl) ?_
  refine SmG.nil ?_
  refine zk ?_
  refine zd ?_
  exact ⟨⟨j + 1, by omega⟩, by show z - (j + 1) < z - j; omega, by exact St.le_of (by first | (simp [leE, look, zcb] <;> omega) | (simp [leE, look, zcb, hrow] <;> omega)) (by simp only [leH, look, rep, reduceIte, Nat.reduceEqDiff, List.set_cons_zero, List.set_cons_succ, hrow, and_self, and_true, and_false, false_and, if_true, if_false] <;> (repeat' first | rfl | constructor)) (by first | exact Nat.le_refl _ | (dsimp only; omega))⟩
 ·obtain rfl : j = z := by omega
  refine Sm.seq ?_
  refine Sm.seq ?_
  refine Sm.regionG hF rfl ?_
  refine SmG.v hF rfl rfl rfl (zp rfl rfl) ?_
  refine SmG.v hF rfl rfl rfl (zxi rfl rfl (by simp (disch := omega) only [go_sem, Nat.reduceEqDiff, iteP, zmb, rowB, List.length_append, List.length_cons, List.length_nil, List.length_replicate] <;> rfl)) ?_
  refine SmG.v hF rfl rfl rfl (zr rfl rfl rfl (by first | exact z2f _ _ _ _ _ (zbc _ (by omega)) | exact zrc _ _ _ _ _ _ _)) ?_
  refine SmG.v hF rfl rfl rfl (zr rfl rfl rfl (by first | exact zjq _ _ _ _ _ (by omega) (by omega) | exact zql _ _ _ _ _ _ _ (by omega))) ?_
  refine SmG.v hF rfl rfl rfl (zr rfl rfl rfl (by first | exact zrr _ _ _ _ _ (by omega) | exact zzr _ _ _ _ _ (by omega) | exact zxl _ _ _ _ _ _ _)) ?_
  refine SmG.nil ?_
  refine zd ?_
  refine Sm.condF hF rfl ?_
  refine Sm.exit ?_
  simp only [nextS, z3f, reduceIte, reduceCtorEq]
  refine Sm.seq ?_
  refine Sm.regionG hF rfl ?_
  refine SmG.v hF rfl rfl rfl (zp rfl rfl) ?_
  refine SmG.v hF rfl rfl rfl (zxi rfl rfl (by simp (disch := omega) only [go_sem, Nat.reduceEqDiff, iteP, zmb, rowB, List.length_append, List.length_cons, List.length_nil, List.length_replicate] <;> rfl)) ?_
  refine SmG.v hF rfl rfl rfl (z0i rfl rfl (by first | exact zbd rfl rfl (z1r _ (by omega)) | (simp (disch := omega) only [go_sem, zmb, rowB, List.length_append, List.length_cons, List.length_nil, List.length_replicate] <;> rfl))) ?_
  refine SmG.v hF rfl rfl rfl (zr rfl rfl rfl (by first | exact zpn _ _ _ _ _ (z1r _ (by omega)) | exact zbk _ _ _ _ _ _ _)) ?_
  refine SmG.v hF rfl rfl rfl (zbb rfl rfl) ?_
  refine SmG.nil ?_
  refine zd ?_
  refine Sm.seq ?_
  refine Sm.seq ?_
  refine Sm.regionG hF rfl ?_
  refine SmG.v hF rfl rfl rfl (zbb rfl rfl) ?_
  refine SmG.nil ?_
  refine zd ?_
  refine Sm.block ?_
  refine Sm.loop (ι := {i : Nat // i ≤ 8}) (fun i => ⟨[(3, .sref 0 0 ((b ++ [128] ++ List.replicate j 0 ++ (Sha.lenBytes b.length).take i.1).map rowB).length), (4, .d (.v (.int .u64 ((8 * b.length : Nat) : Int)))), (5, .d (.v (.int .i64 i.1)))], [(0, dB 1 ((b ++ [128] ++ List.replicate j 0 ++ (Sha.lenBytes b.length).take i.1).map rowB))], 1⟩) (fun i => 8 - i.1) (⟨0, by omega⟩) ?_ ?_
  ·exact St.le_of (by first | (simp [leE, look, zcb] <;> omega) | (simp [leE, look, zcb, List.take_zero, List.append_nil] <;> omega)) (by simp only [leH, look, rep, reduceIte, Nat.reduceEqDiff, List.set_cons_zero, List.set_cons_succ, List.take_zero, List.append_nil, and_self, and_true, and_false, false_and, if_true, if_false] <;> (repeat' first | rfl | constructor)) (by first | exact Nat.le_refl _ | (dsimp only; omega))
  rintro ⟨i, hi⟩
  simp only
  have hll : (Sha.lenBytes b.length).length = 8 := by simp [Sha.lenBytes]
  by_cases hlt : i < 8
  ·have hrow : List.map rowB (b ++ [128] ++ List.replicate j 0 ++ (Sha.lenBytes b.length).take i) ++ [[D.v (.int .u8 ((UInt8.ofNat (8 * b.length / 2 ^ (56 - 8 * i))).toNat : Int))]] = List.map rowB (b ++ [128] ++ List.replicate j 0 ++ (Sha.lenBytes b.length).take (i + 1)) := by
    show _ ++ [[byteD _]] = _
    rw [z0m, List.append_assoc, zat _ _ hlt]
   refine Sm.seq ?_
   refine Sm.seq ?_
   refine Sm.regionG hF rfl ?_
   refine SmG.v hF rfl rfl rfl (zp rfl rfl) ?_
   refine SmG.v hF rfl rfl rfl (zr rfl rfl rfl (by first | exact zdd _ _ _ _ _ (by omega) | exact zwd _ _ _ _ _ (by omega) | exact z0d _ _ _ _ _ _ _)) ?_
   refine SmG.nil ?_
   refine zd ?_
   refine Sm.condT hF rfl ?_
   refine Sm.skip ?_
   refine zd ?_
   refine Sm.seq ?_
   refine Sm.block ?_
   refine Sm.regionG hF rfl ?_
   refine SmG.v hF rfl rfl rfl (zp rfl rfl) ?_
   refine SmG.v hF rfl rfl rfl (zp rfl rfl) ?_
   refine SmG.v hF rfl rfl rfl (zp rfl rfl) ?_
   refine SmG.v hF rfl rfl rfl (zr rfl rfl rfl (by first | exact zpn _ _ _ _ _ (zbc _ (by omega)) | exact zbk _ _ _ _ _ _ _)) ?_
   refine SmG.v hF rfl rfl rfl (zr rfl rfl rfl (by first | exact zjk _ _ _ _ _ (zbc _ (by omega)) | exact zhi _ _ _ _ _ _ _)) ?_
   refine SmG.v hF rfl rfl rfl (zr rfl rfl rfl (shr64 _ _ _ _ (8 * b.length) (56 - 8 * i) _ (by omega) (by omega))) ?_
   refine SmG.v hF rfl rfl rfl (z0i rfl rfl (z9r _ Tryd.underlying147 Tryd.underlying5)) ?_
   refine SmG.v hF rfl rfl rfl (z2e rfl rfl (by simp (disch := omega) only [go_sem, Nat.reduceEqDiff, iteP, zmb, rowB, List.length_append, List.length_cons, List.length_nil, List.length_replicate] <;> rfl)) ?_
   refine SmG.appendOwn hF elU8 rfl rfl rfl rfl rfl rfl rfl (by first | rfl | (simp; done) | (simp; omega)) (Or.inl rfl) (by (repeat' first | exact zqb _ | refine zib ?_ | refine zi ?_ (z6 _ _ _) | refine zi ?_ (z6 _ _ [_]) | refine zi ?_ (z2b (by rfl)))) ?_ ?_ ?_; rotate_left; rotate_left; simp only [killV, Pk.v, V.free, rep, bne_self_eq_false, Nat.reduceAdd, Nat.reduceBNe, Nat.reduceBEq, Nat.reduceEqDiff, reduceIte, Bool.false_eq_true]
   rotate_left
   ·simp only [List.length_map, List.length_append, List.length_cons, List.length_nil, List.length_replicate, List.length_take]; omega
   ·simp only [List.length_map, List.length_append, List.length_cons, List.length_nil, List.length_replicate, List.length_take]; omega
   refine SmG.v hF rfl rfl rfl (zbb rfl rfl) ?_
   refine SmG.nil ?_
   refine zk ?_
   refine zd ?_
   refine Sm.regionG hF rfl ?_
   refine SmG.v hF rfl rfl rfl (zp rfl rfl) ?_
   refine SmG.v hF rfl rfl rfl (zr rfl rfl rfl (by first | exact z2f _ _ _ _ _ (zbc _ (by omega)) | exact zrc _ _ _ _ _ _ _)) ?_
   refine SmG.v hF rfl rfl rfl (zbb rfl rfl) ?_
   refine SmG.nil ?_
   refine zd ?_
   exact ⟨⟨i + 1, by omega⟩, by show 8 - (i + 1) < 8 - i; omega, by exact St.le_of (by first | (simp [leE, look, zcb] <;> omega) | (simp [leE, look, zcb, hrow] <;> omega)) (by simp only [leH, look, rep, reduceIte, Nat.reduceEqDiff, List.set_cons_zero, List.set_cons_succ, hrow, and_self, and_true, and_false, false_and, if_true, if_false] <;> (repeat' first | rfl | constructor)) (by first | exact Nat.le_refl _ | (dsimp only; omega))⟩
  ·obtain rfl : i = 8 := by omega
   refine Sm.seq ?_
   refine Sm.seq ?_
   refine Sm.regionG hF rfl ?_
   refine SmG.v hF rfl rfl rfl (zp rfl rfl) ?_
   refine SmG.v hF rfl rfl rfl (zr rfl rfl rfl (by first | exact zdd _ _ _ _ _ (by omega) | exact zwd _ _ _ _ _ (by omega) | exact z0d _ _ _ _ _ _ _)) ?_
   refine SmG.nil ?_
   refine zd ?_
   refine Sm.condF hF rfl ?_
   refine Sm.freeze (l := 0) _ rfl ?_
   simp only [Pk.v, frzE, frzV, dropH,  reduceIte, Nat.reduceAdd, Nat.zero_add, List.length_map, List.length_append, Nat.le_refl, true_and, and_self, if_true, Nat.reduceEqDiff, true_and]
   refine Sm.exit ?_
   simp only [nextS, z3f, reduceIte, reduceCtorEq]
   refine Sm.seq ?_
   refine Sm.regionG hF rfl ?_
   refine SmG.v hF rfl rfl rfl (zp rfl rfl) ?_
   refine SmG.v hF rfl rfl rfl (zbb rfl rfl) ?_
   refine SmG.nil ?_
   refine zd ?_
   refine Sm.ret ?_
   refine ⟨_, rfl, ?_⟩; dsimp only
   rw [List.take_of_length_le (by omega), ← hpad]; exact D.le.refl _
theorem zft (all : List UInt8) (j : Nat) : List.drop (64 * j) (List.map rowB (List.take (64 * j + 64) all)) = List.map rowB ((all.drop (64 * j)).take 64) := by
 rw [← List.map_drop, List.drop_take]; congr 2; omega
theorem zwv (S : Sha.S8) (k : Nat) (h : k ≤ 32) : ((Sha.out S).take k ++ List.replicate (32 - k) 0).length = 32 := by
 simp [Sha.out_length]; omega
theorem zfv (b : List UInt8) (hb : b.length ≤ 1000000) (G : Nat → Option D) : zg Tryd.prog G 52 [zmb b] (sumD (Sha.sum b)) := by
 have hmod := Sha.padded_mod b
 have hplen := Sha.padded_length b
 have hz : Sha.zeros b.length < 64 := by unfold Sha.zeros; omega
 have hS : Sha.sum b = Sha.out (Sha.over (Sha.padded b) ((Sha.padded b).length / 64)) := rfl
 refine zg.of Tryd.func52 rfl Tryd.ntmps52 (by simp) ?_; intro F hF h0 hT; simp only [List.zipIdx_cons, List.zipIdx_nil, List.map_cons, List.map_nil, Nat.zero_add, Nat.reduceAdd]
 refine Sm.seq ?_
 refine Sm.regionG hF rfl ?_
 refine SmG.new hF rfl rfl rfl (zx rfl al47) ?_
 refine SmG.nil ?_
 refine zd ?_
 refine Sm.seq ?_
 refine Sm.regionG hF rfl ?_
 refine SmG.v hF rfl rfl rfl (zp rfl rfl) ?_
 refine SmG.call hF rfl rfl (by kernel_rfl) rfl rfl rfl (z1u b hb G) ?_
 refine SmG.v hF rfl rfl rfl (zbb rfl rfl) ?_
 refine SmG.nil ?_
 refine zd ?_
 refine Sm.seq ?_
 refine Sm.regionG hF rfl ?_
 refine SmG.call hF rfl rfl (by kernel_rfl) rfl rfl rfl (zew G) ?_
 refine SmG.new hF rfl rfl rfl (zx rfl al139) ?_
 refine SmG.store hF rfl rfl rfl rfl rfl (by simp (disch := omega) only [go_sem, Nat.reduceEqDiff, iteP, u32D, sumD] <;> rfl) ?_
 refine SmG.nil ?_
 refine zd ?_
 refine Sm.seq ?_
 refine Sm.seq ?_
 refine Sm.regionG hF rfl ?_
 refine SmG.v hF rfl rfl rfl (zbb rfl rfl) ?_
 refine SmG.nil ?_
 refine zd ?_
 refine Sm.block ?_
 generalize Sha.padded b = all at hmod hplen hS ⊢
 generalize hm : all.length / 64 = m at hmod hS
 refine Sm.loop (ι := {j : Nat // j ≤ m}) (fun j => ⟨[(2, .ref 0 0 0), (3, .d (zmb all)), (4, .ref 1 0 0), (5, .d (.v (.int .i64 ((64 * j.1 : Nat) : Int))))], [(1, dW 8 (Sha.over all j.1).list), (0, dB 32 [rowS (List.replicate 32 0)])], 2⟩) (fun j => m - j.1) (⟨0, by omega⟩) ?_ ?_
 ·exact St.le_of (by first | (simp [leE, look, zcb] <;> omega) | (simp [leE, look, zcb, true_and] <;> omega)) (by simp only [leH, look, rep, reduceIte, Nat.reduceEqDiff, List.set_cons_zero, List.set_cons_succ, true_and, and_self, and_true, and_false, false_and, if_true, if_false] <;> (repeat' first | rfl | constructor)) (by first | exact Nat.le_refl _ | (dsimp only; omega))
 rintro ⟨j, hj⟩
 simp only
 by_cases hlt : j < m
 ·have c1 := z3w (Sha.over all j) ((all.drop (64 * j)).take 64) (by rw [List.length_take, List.length_drop]; omega) G
  have hcm := zft all j
  have hle : 64 * j ≤ 64 * j + 64 := by omega
  have hle2 : 64 * j + 64 ≤ all.length := by omega
  have hcast : (((64 * j : Nat) : Int) + 64).toNat = 64 * j + 64 := by omega
  have hov : Sha.over all (j + 1) = Sha.after (Sha.over all j) ((all.drop (64 * j)).take 64) := rfl
  have hl8 : (Sha.over all j).list.length = 8 := rfl
  refine Sm.seq ?_
  refine Sm.seq ?_
  refine Sm.regionG hF rfl ?_
  refine SmG.v hF rfl rfl rfl (zp rfl rfl) ?_
  refine SmG.v hF rfl rfl rfl (zp rfl rfl) ?_
  refine SmG.v hF rfl rfl rfl (zxi rfl rfl (by simp (disch := omega) only [go_sem, Nat.reduceEqDiff, iteP, zmb, hcm, hcast, hle, hle2, zpj, hl8] <;> rfl)) ?_
  refine SmG.v hF rfl rfl rfl (zr rfl rfl rfl (by first | exact zdd _ _ _ _ _ (by omega) | exact zwd _ _ _ _ _ (by omega) | exact z0d _ _ _ _ _ _ _)) ?_
  refine SmG.nil ?_
  refine zd ?_
  refine Sm.condT hF rfl ?_
  refine Sm.skip ?_
  refine zd ?_
  refine Sm.seq ?_
  refine Sm.block ?_
  refine Sm.drawG hF (by kernel_rfl) rfl 7 (by kernel_rfl) (by kernel_rfl) ?_
  simp only [List.take_succ_cons, List.take_zero, List.take_nil]
  refine Head.v hF rfl rfl rfl (zab rfl rfl (by simp (disch := omega) only [go_sem, Nat.reduceEqDiff, iteP, zmb, hcm, hcast, hle, hle2, zpj, hl8] <;> rfl)) ?_
  refine Head.v hF rfl rfl rfl (zp rfl rfl) ?_
  refine Head.v hF rfl rfl rfl (zp rfl rfl) ?_
  refine Head.v hF rfl rfl rfl (zp rfl rfl) ?_
  refine Head.v hF rfl rfl rfl (zr rfl rfl rfl (by first | exact z2f _ _ _ _ _ (zbc _ (by omega)) | exact zrc _ _ _ _ _ _ _)) ?_
  refine Head.v hF rfl rfl rfl (zzl rfl rfl rfl rfl rfl (by simp (disch := omega) only [go_sem, Nat.reduceEqDiff, iteP, zmb, hcm, hcast, hle, hle2, zpj, hl8] <;> rfl)) ?_
  refine Head.c hF rfl rfl (by kernel_rfl) rfl rfl rfl (c1) ?_
  refine Head.last ⟨rfl, ?_⟩
  simp only [List.drop_succ_cons, List.drop_zero, List.drop_nil, List.nil_append, List.cons_append]
  refine SmG.store hF rfl rfl rfl rfl rfl (by simp (disch := omega) only [go_sem, Nat.reduceEqDiff, iteP, zmb, hcm, hcast, hle, hle2, zpj, hl8] <;> rfl) ?_
  refine SmG.nil ?_
  refine zk ?_
  refine zd ?_
  refine Sm.regionG hF rfl ?_
  refine SmG.v hF rfl rfl rfl (zp rfl rfl) ?_
  refine SmG.v hF rfl rfl rfl (zr rfl rfl rfl (by first | exact z2f _ _ _ _ _ (zbc _ (by omega)) | exact zrc _ _ _ _ _ _ _)) ?_
  refine SmG.v hF rfl rfl rfl (zbb rfl rfl) ?_
  refine SmG.nil ?_
  refine zd ?_
  exact ⟨⟨j + 1, by omega⟩, by show m - (j + 1) < m - j; omega, by exact St.le_of (by first | (simp [leE, look, zcb] <;> omega) | (simp [leE, look, zcb, hov] <;> omega)) (by simp only [leH, look, rep, reduceIte, Nat.reduceEqDiff, List.set_cons_zero, List.set_cons_succ, hov, and_self, and_true, and_false, false_and, if_true, if_false] <;> (repeat' first | rfl | constructor)) (by first | exact Nat.le_refl _ | (dsimp only; omega))⟩
 ·obtain rfl : j = m := by omega
  generalize Sha.over all j = S at hS ⊢
  refine Sm.seq ?_
  refine Sm.seq ?_
  refine Sm.regionG hF rfl ?_
  refine SmG.v hF rfl rfl rfl (zp rfl rfl) ?_
  refine SmG.v hF rfl rfl rfl (zp rfl rfl) ?_
  refine SmG.v hF rfl rfl rfl (zxi rfl rfl (by simp (disch := omega) only [go_sem, Nat.reduceEqDiff, iteP, zmb] <;> rfl)) ?_
  refine SmG.v hF rfl rfl rfl (zr rfl rfl rfl (by first | exact zdd _ _ _ _ _ (by omega) | exact zwd _ _ _ _ _ (by omega) | exact z0d _ _ _ _ _ _ _)) ?_
  refine SmG.nil ?_
  refine zd ?_
  refine Sm.condF hF rfl ?_
  refine Sm.exit ?_
  simp only [nextS, z3f, reduceIte, reduceCtorEq]
  refine Sm.seq ?_
  refine Sm.regionG hF rfl ?_
  refine SmG.v hF rfl rfl rfl (zyf rfl Tryd.underlying47 rfl bz47) ?_
  refine SmG.new hF rfl rfl rfl (zx rfl al47) ?_
  refine SmG.store hF rfl rfl rfl rfl rfl (by simp (disch := omega) only [go_sem, Nat.reduceEqDiff, iteP, zmb] <;> rfl) ?_
  refine SmG.nil ?_
  refine zd ?_
  refine Sm.seq ?_
  refine Sm.seq ?_
  refine Sm.regionG hF rfl ?_
  refine SmG.v hF rfl rfl rfl (zbb rfl rfl) ?_
  refine SmG.nil ?_
  refine zd ?_
  refine Sm.block ?_
  refine Sm.loop (ι := {k : Nat // k ≤ 32}) (fun k => ⟨[(2, .ref 0 0 0), (4, .ref 1 0 0), (6, .ref 2 0 0), (7, .d (.v (.int .i64 k.1)))], [(2, dB 32 [rowS ((Sha.out S).take k.1 ++ List.replicate (32 - k.1) 0)]), (1, dW 8 S.list), (0, dB 32 [rowS (List.replicate 32 0)])], 3⟩) (fun k => 32 - k.1) (⟨0, by omega⟩) ?_ ?_
  ·exact St.le_of (by first | (simp [leE, look, zcb] <;> omega) | (simp [leE, look, zcb, List.take_zero, List.nil_append] <;> omega)) (by simp only [leH, look, rep, reduceIte, Nat.reduceEqDiff, List.set_cons_zero, List.set_cons_succ, List.take_zero, List.nil_append, and_self, and_true, and_false, false_and, if_true, if_false] <;> (repeat' first | rfl | constructor)) (by first | exact Nat.le_refl _ | (dsimp only; omega))
  rintro ⟨k, hk⟩
  simp only
  have hl8 : S.list.length = 8 := rfl
  by_cases hlt : k < 32
  ·have hg := zxf S.list (k / 4) (by omega)
   have hset := Sha.out_set S k hlt
   have hsh : ∀ (x : UInt32) (n : Nat), (Sha.shr x n).toNat = x.toNat / 2 ^ n := fun x n => Nat.mod_eq_of_lt (Nat.lt_of_le_of_lt (Nat.div_le_self _ _) x.toNat_lt)
   generalize S.list.getD (k / 4) 0 = x at hg hset
   have hcast : ((k : Int) / 4).toNat = k / 4 := by omega
   have hst : (List.map V.d (rowS ((Sha.out S).take k ++ List.replicate (32 - k) 0))).set k (.d (.v (.int .u8 ((UInt8.ofNat (Sha.shr x (24 - 8 * (k % 4))).toNat).toNat : Int)))) = List.map V.d (rowS ((Sha.out S).take (k + 1) ++ List.replicate (32 - (k + 1)) 0)) := by
    rw [← hset, hsh]
    simp only [rowS, List.map_set, byteD]
   refine Sm.seq ?_
   refine Sm.seq ?_
   refine Sm.regionG hF rfl ?_
   refine SmG.v hF rfl rfl rfl (zp rfl rfl) ?_
   refine SmG.v hF rfl rfl rfl (zr rfl rfl rfl (by first | exact zdd _ _ _ _ _ (by omega) | exact zwd _ _ _ _ _ (by omega) | exact z0d _ _ _ _ _ _ _)) ?_
   refine SmG.nil ?_
   refine zd ?_
   refine Sm.condT hF rfl ?_
   refine Sm.skip ?_
   refine zd ?_
   refine Sm.seq ?_
   refine Sm.block ?_
   refine Sm.regionG hF rfl ?_
   refine SmG.v hF rfl rfl rfl (zp rfl rfl) ?_
   refine SmG.v hF rfl rfl rfl (zp rfl rfl) ?_
   refine SmG.v hF rfl rfl rfl (zr rfl rfl rfl (by first | exact zix _ _ _ _ (by omega) (by omega) | exact zqq _ _ _ _ _ _ _ (by omega))) ?_
   refine SmG.v hF rfl rfl rfl (zm rfl rfl rfl (by simp (disch := omega) only [go_sem, Nat.reduceEqDiff, iteP, u32D, hg, hcast, byteD, hl8] <;> rfl)) ?_
   refine SmG.v hF rfl rfl rfl (zab rfl rfl (by simp (disch := omega) only [go_sem, Nat.reduceEqDiff, iteP, u32D, hg, hcast, byteD, hl8] <;> rfl)) ?_
   refine SmG.v hF rfl rfl rfl (zp rfl rfl) ?_
   refine SmG.v hF rfl rfl rfl (zr rfl rfl rfl (by first | exact zjq _ _ _ _ _ (by omega) (by omega) | exact zql _ _ _ _ _ _ _ (by omega))) ?_
   refine SmG.v hF rfl rfl rfl (zr rfl rfl rfl (by first | exact zpn _ _ _ _ _ (zbc _ (by omega)) | exact zbk _ _ _ _ _ _ _)) ?_
   refine SmG.v hF rfl rfl rfl (zr rfl rfl rfl (by first | exact zjk _ _ _ _ _ (zbc _ (by omega)) | exact zhi _ _ _ _ _ _ _)) ?_
   refine SmG.v hF rfl rfl rfl (zr rfl rfl rfl (zkp _ _ _ _ (24 - 8 * (k % 4)) _ (by omega) (by omega) x)) ?_
   refine SmG.v hF rfl rfl rfl (z0i rfl rfl (z9r _ Tryd.underlying68 Tryd.underlying5)) ?_
   refine SmG.v hF rfl rfl rfl (zm rfl rfl rfl (by simp (disch := omega) only [go_sem, Nat.reduceEqDiff, iteP, u32D, hg, hcast, byteD, hl8] <;> rfl)) ?_
   refine SmG.store hF rfl rfl rfl rfl rfl (by simp (disch := omega) only [go_sem, Nat.reduceEqDiff, iteP, u32D, hg, hcast, byteD, hl8] <;> rfl) ?_
   refine SmG.nil ?_
   refine zk ?_
   refine zd ?_
   refine Sm.regionG hF rfl ?_
   refine SmG.v hF rfl rfl rfl (zp rfl rfl) ?_
   refine SmG.v hF rfl rfl rfl (zr rfl rfl rfl (by first | exact z2f _ _ _ _ _ (zbc _ (by omega)) | exact zrc _ _ _ _ _ _ _)) ?_
   refine SmG.v hF rfl rfl rfl (zbb rfl rfl) ?_
   refine SmG.nil ?_
   refine zd ?_
   exact ⟨⟨k + 1, by omega⟩, by show 32 - (k + 1) < 32 - k; omega, by exact St.le_of (by first | (simp [leE, look, zcb] <;> omega) | (simp [leE, look, zcb, hst] <;> omega)) (by simp only [leH, look, rep, reduceIte, Nat.reduceEqDiff, List.set_cons_zero, List.set_cons_succ, hst, and_self, and_true, and_false, false_and, if_true, if_false] <;> (repeat' first | rfl | constructor)) (by first | exact Nat.le_refl _ | (dsimp only; omega))⟩
  ·obtain rfl : k = 32 := by omega
   have hll : (rowS ((Sha.out S).take 32 ++ List.replicate (32 - 32) 0)).length = 32 := by rw [rowS, List.length_map, zwv S 32 (by omega)]
   refine Sm.seq ?_
   refine Sm.seq ?_
   refine Sm.regionG hF rfl ?_
   refine SmG.v hF rfl rfl rfl (zp rfl rfl) ?_
   refine SmG.v hF rfl rfl rfl (zr rfl rfl rfl (by first | exact zdd _ _ _ _ _ (by omega) | exact zwd _ _ _ _ _ (by omega) | exact z0d _ _ _ _ _ _ _)) ?_
   refine SmG.nil ?_
   refine zd ?_
   refine Sm.condF hF rfl ?_
   refine Sm.exit ?_
   simp only [nextS, z3f, reduceIte, reduceCtorEq]
   refine Sm.seq ?_
   refine Sm.regionG hF rfl ?_
   refine SmG.v hF rfl rfl rfl (zab rfl rfl (by simp (disch := omega) only [go_sem, Nat.reduceEqDiff, iteP, hll] <;> rfl)) ?_
   refine SmG.store hF rfl rfl rfl rfl rfl (by simp (disch := omega) only [go_sem, Nat.reduceEqDiff, iteP, hll] <;> rfl) ?_
   refine SmG.nil ?_
   refine zd ?_
   refine Sm.ret ?_
   refine zmj rfl rfl (by simp (disch := omega) only [go_sem, Nat.reduceEqDiff, iteP, hll] <;> rfl) ?_
   rw [hS, List.take_of_length_le (by rw [Sha.out_length]; omega), List.append_nil]
   exact D.le.refl _
end
section
open Go.RowKit
set_option maxRecDepth 100000
theorem zcr (b : List UInt8) (hb : b.length ≤ 900000) (G : Nat → Option D) : zg Tryd.prog G 56 [zmb b] (zmb (0 :: b)) := by
 refine zg.of Tryd.func56 rfl Tryd.ntmps56 (by simp) ?_; intro F hF h0 hT; simp only [List.zipIdx_cons, List.zipIdx_nil, List.map_cons, List.map_nil, Nat.zero_add, Nat.reduceAdd]
 refine Sm.seq ?_
 refine Sm.regionG hF rfl ?_
 refine SmG.v hF rfl rfl rfl (zbb rfl rfl) ?_
 refine SmG.nil ?_
 refine zd ?_
 refine Sm.seq ?_
 refine Sm.regionG hF rfl ?_
 refine SmG.v hF rfl rfl rfl (z2e rfl rfl (by simp (disch := omega) only [go_sem, Nat.reduceEqDiff, iteP, zmb, rowB, byteD] <;> rfl)) ?_
 refine SmG.v hF rfl rfl rfl (zp rfl rfl) ?_
 refine SmG.append hF elU8 rfl rfl rfl rfl rfl rfl (Or.inl rfl) (Or.inl rfl) (by simp only [List.length_map, List.length_cons, List.length_nil]; omega) (by simp only [List.length_map, List.length_cons, List.length_nil]; omega) ?_
 refine SmG.v hF rfl rfl rfl (zbb rfl rfl) ?_
 refine SmG.nil ?_
 refine zd ?_
 refine Sm.ret ?_
 refine ⟨_, rfl, ?_⟩; dsimp only
 exact D.le.refl _
theorem z6s (b : List UInt8) (hb : b.length ≤ 900000) (G : Nat → Option D) : zg Tryd.prog G 29 [zmb b] (sumD (Sha.leaf b)) := by
 have hl := Sha.leaf_len b
 have hS : Sha.sum (0 :: b) = Sha.leaf b := rfl
 generalize Sha.leaf b = s at hl hS ⊢
 refine zg.of Tryd.func29 rfl Tryd.ntmps29 (by simp) ?_; intro F hF h0 hT; simp only [List.zipIdx_cons, List.zipIdx_nil, List.map_cons, List.map_nil, Nat.zero_add, Nat.reduceAdd]
 refine Sm.seq ?_
 refine Sm.regionG hF rfl ?_
 refine SmG.new hF rfl rfl rfl (zx rfl al47) ?_
 refine SmG.nil ?_
 refine zd ?_
 refine Sm.seq ?_
 refine Sm.regionG hF rfl ?_
 refine SmG.v hF rfl rfl rfl (zp rfl rfl) ?_
 refine SmG.call hF rfl rfl (by kernel_rfl) rfl rfl rfl (zcr b hb G) ?_
 refine SmG.call hF rfl rfl (by kernel_rfl) rfl rfl rfl (zfv (0 :: b) (by simp; omega) G) ?_
 refine SmG.store hF rfl rfl rfl rfl rfl (by simp (disch := omega) only [go_sem, Nat.reduceEqDiff, iteP, sumD, zfm, hl, hS] <;> rfl) ?_
 refine SmG.nil ?_
 refine zd ?_
 refine Sm.ret ?_
 refine zmj rfl rfl (by simp (disch := omega) only [go_sem, Nat.reduceEqDiff, iteP, zfm, hl, hS] <;> rfl) ?_
 exact D.le.refl _
end
end Go.Proofs.YtbaccmkhjmmlnaaDoor
namespace Go.Proofs.YtbaccmkhjmmlnaaDoor.Sha
end Go.Proofs.YtbaccmkhjmmlnaaDoor.Sha
namespace Go.Proofs.YtbaccmkhjmmlnaaDoor
end Go.Proofs.YtbaccmkhjmmlnaaDoor
namespace Go.Proofs.YtbaccmkhjmmlnaaDoor.Sha
def join (s : Bool) (q h : List UInt8) : List UInt8 := 1 :: (if s then q ++ h else h ++ q)
def chain (x : List UInt8) : List (Bool × List UInt8) → List (List UInt8)
 | [] => [x]
 | (s, q) :: r => x :: chain (join s q (sum x)) r
def top (x : List UInt8) : List (Bool × List UInt8) → List UInt8
 | [] => sum x
 | (s, q) :: r => top (join s q (sum x)) r
end Go.Proofs.YtbaccmkhjmmlnaaDoor.Sha
namespace Go.Proofs.YtbaccmkhjmmlnaaDoor
section
open Go.RowKit
def elems (xs : List (List UInt8)) : List (List UInt8) := (xs.take 9).map (·.take 40)
set_option maxRecDepth 100000
end
section
open Go.RowKit
set_option maxRecDepth 100000
end
section
namespace Sha
end Sha
end
section
open Go.RowKit
set_option maxRecDepth 100000
end
section
open Go.RowKit
set_option maxRecDepth 100000
end
section
open Go.RowKit
set_option maxRecDepth 100000
end
section
open Go.RowKit
set_option maxRecDepth 100000
end
section
open Go.RowKit
set_option maxRecDepth 100000
end
section
open Go.RowKit
set_option maxRecDepth 100000
end
section
open Go.RowKit
set_option maxRecDepth 100000
end
section
open Go.RowKit
set_option maxRecDepth 100000
section
open Classical
noncomputable def zzh (l : List (List UInt8)) : Option (List UInt8) := if Fit l then some (Sha.root l) else none
theorem z9o {l : List (List UInt8)} {r : List UInt8} (h : zzh l = some r) : zg Tryd.prog HG 32 [.list 1 (l.map rowE) false] (.agg 32 (rowS r)) := by
 unfold zzh at h; split at h
 ·cases h; exact z7w l (by assumption)
 ·cases h
noncomputable def z7e (l : List (List UInt8)) (i : Int) : Option (List (List UInt8) × Int) :=
 if Fit l then (if i < 0 ∨ (l.length : Int) ≤ i then some ([], 1) else some (Sha.proof l i.toNat, 0)) else none
theorem zg.res {P : Program} {G : Nat → Option D} {f : FuncId} {ds : List D} {r r' : D} (h : zg P G f ds r) (hr : r.le r') : zg P G f ds r' := by
 intro C w vs hG hk ha
 refine Calls.mono (h C w vs hG hk ha) ?_
 rintro e w' ⟨v, C', h1, h2, h3⟩
 exact ⟨v, C', h1, h2, hr _ _ h3⟩
theorem z0n {l : List (List UInt8)} {i : Int} {r : List (List UInt8) × Int} (h : z7e l i = some r) : zg Tryd.prog HG 39 [.list 1 (l.map rowE) false, .v (.int .i64 i)] (.tup [.list 32 (r.1.map rowS) false, .v (.int .i64 r.2)]) := by
 unfold z7e at h; split at h
 ·rename_i hF
  split at h
  ·rename_i hi
   cases h
   exact (zps l i hi hF.1).res (D.le_tup ⟨D.le_full _ _ _, D.le.refl _, trivial⟩)
  ·cases h
   obtain ⟨n, rfl⟩ : ∃ n : Nat, i = n := ⟨i.toNat, by omega⟩
   exact zqv l n hF (by omega)
 ·cases h
noncomputable def z9g (root : List UInt8) (n i : Int) (b : List UInt8) (p : List (List UInt8)) : Option Bool :=
 if root.length = 32 ∧ b.length ≤ 900000 ∧ Len32 p ∧ p.length ≤ 1000000 ∧ n ≤ 4294967296 ∧ (-9223372036854775808 ≤ n) ∧ (-9223372036854775808 ≤ i ∧ i ≤ 9223372036854775807) then some (Sha.check root n i b p) else none
theorem z7n {root : List UInt8} {n i : Int} {b : List UInt8} {p : List (List UInt8)} {r : Bool} (h : z9g root n i b p = some r) : zg Tryd.prog HG 46 [.agg 32 (rowS root), .v (.int .i64 n), .v (.int .i64 i), .list 1 (b.map rowB) false, .list 32 (p.map rowS) false] (.v (.bool r)) := by
 unfold z9g at h; split at h
 ·rename_i hc
  obtain ⟨h1, h2, h3, h4, h5, h6, h7⟩ := hc
  cases h; exact ztv root b n i p h1 h2 h3 h4 h5
 ·cases h
noncomputable def zff (l : List UInt8) : Option (List UInt8) := if l.length ≤ 900000 then some (Sha.leaf l) else none
theorem z4k {l r : List UInt8} (h : zff l = some r) : zg Tryd.prog HG 29 [.list 1 (l.map rowB) false] (.agg 32 (rowS r)) := by
 unfold zff at h; split at h
 ·cases h; exact z6s l (by assumption) HG
 ·cases h
end
end
section
open Go.RowKit
set_option maxRecDepth 100000
noncomputable def z9c (a0 : List Int) (a1 : Int) : Option (List Int) :=
 bif (decide (a1 < 0)) then (
  none
 ) else (
  ob (arI .i64 (a1 - 0)) fun x2 =>
  bif (decide (0 < x2)) then (
   ob (posI x2) fun n4 =>
   some ([] : List Int)
  ) else (
   some ([] : List Int)
  )
 )
set_option maxHeartbeats 4000000 in
theorem zti {a0 : List Int} {a1 : Int} {r : List Int} (h : z9c a0 a1 = some r) : ztd Tryd.prog HG 87 [.list 0 [] true, .v (.int .i64 a1)] .one 1 (r.map (rInt .i64)) [] := by
 unfold z9c at h
 refine ztd.of Tryd.func87 rfl Tryd.ntmps87 (by simp) ?_
 intro F hF h0 hT
 show Sm F _ _ ⟨[(0, .d (.list 0 [] true)), (1, .d (.v (.int .i64 a1)))], [], 0⟩
 refine sr hF ?_
 refine gv hF oA ?_
 refine sn ?_
 refine Sm.seq ?_
 refine sr hF ?_
 refine gv hF oM ?_
 refine gv hF (oB (c_lss)) ?_
 refine sn ?_
 refine Sm.condB hF rfl (fun hc1 => ?_) (fun hc1 => ?_)
 ·replace h := ifT hc1 h
  refine Sm.regionG hF rfl ?_
  cases h
 replace h := ifF hc1 h
 refine sk ?_
 refine Sm.seq ?_
 refine sr hF ?_
 refine gv hF oM ?_
 refine gv hF oM ?_
 refine SmG.capFull hF Tryd.underlying30 rfl rfl rfl rfl rfl ?_
 refine gv hF oM ?_
 refine gv hF (oN (lenQN u30)) ?_
 refine gv hF (oB (z4l (v := 0) rfl)) ?_
 obtain ⟨x2, hx2, h⟩ := za h
 refine gv hF (oB (z4l hx2)) ?_
 refine gv hF oA ?_
 refine sn ?_
 refine sr hF ?_
 refine gv hF oM ?_
 refine gv hF (oB (c_gtr)) ?_
 refine sn ?_
 refine Sm.condU hF rfl (fun hc3 => ?_) (fun hc3 => ?_)
 ·replace h := ifF hc3 h
  refine sk ?_
  refine sr hF ?_
  refine gv hF oM ?_
  refine gv hF oA ?_
  refine sn ?_
  refine Sm.to (toK (e := [(4, .d (.list 0 [] true))]) (g := []) (m := 0) ⟨rfl, trivial⟩ trivial) ?_
  refine Sm.own (t := 4) 1 rfl ?_
  refine Sm.ret ?_
  obtain rfl := zb h
  exact zwi 0 rfl rfl rfl
 replace h := ifT hc3 h
 refine Sm.regionG hF rfl ?_
 refine gv hF oM ?_
 refine gv hF oM ?_
 refine SmG.capFull hF Tryd.underlying30 rfl rfl rfl rfl rfl ?_
 refine SmG.sliceNil hF Tryd.underlying30 sz3 rfl rfl rfl rfl rfl rfl ?_
 refine gv hF oM ?_
 obtain ⟨n4, hn4, h⟩ := za h
 refine SmG.appendMake hF el30 Tryd.underlying3 rfl rfl rfl rfl rfl rfl (zfg hn4).1 (zfg hn4).2.1 (zyo (zfg hn4).2.2 rfl) (Nat.le_trans (zfg hn4).2.2 (by decide)) ?_
 refine gv hF oM ?_
 refine gv hF (oN (lenQN u30)) ?_
 refine gv hF (zzl rfl rfl rfl rfl rfl (slcQ0 u30 rfl sz3)) ?_
 refine gv hF oA ?_
 refine sn ?_
 refine sr hF ?_
 refine gv hF oM ?_
 refine gv hF oA ?_
 refine sn ?_
 refine Sm.ret ?_
 obtain rfl := zb h
 exact zwi 0 rfl rfl rfl
noncomputable def zxb (a0 : List (List Int)) (s1 : (Int × Int)) : Option ((Int × Int) ⊕ Int) :=
 bif (decide (s1.2 < (a0.length : Int))) then (
  ob (idx a0 s1.2) fun x6 =>
  ob (arI .i64 (s1.1 + (x6.length : Int))) fun x7 =>
  bif (decide (x7 < 0)) then (
   none
  ) else (
   ob (arI .i64 (s1.2 + 1)) fun x9 =>
   some (.inl (x7, x9))
  )
 ) else (
  some (.inr s1.1)
 )
noncomputable def zwb (a0 : List (List Int)) (s12 : (Int × (List Int))) : Option ((Int × (List Int)) ⊕ List Int) :=
 bif (decide (s12.1 < (a0.length : Int))) then (
  ob (idx a0 s12.1) fun x17 =>
  ob (app s12.2 x17) fun x18 =>
  ob (arI .i64 (s12.1 + 1)) fun x19 =>
  some (.inl (x19, x18))
 ) else (
  some (.inr s12.2)
 )
noncomputable def zyc (a0 : List (List Int)) : Option (List Int) :=
 ob ((
  loopO (zxb a0) (0, 0)
  : Option Int)) fun v10 =>
 ob (z9c [] v10) fun x11 =>
 ob ((
  loopO (zwb a0) (0, x11)
  : Option (List Int))) fun v20 =>
 some v20
set_option maxHeartbeats 4000000 in
theorem z1h {a0 : List (List Int)} {r : List Int} (h : zyc a0 = some r) : ztd Tryd.prog HG 65 [.list 1 (a0.map (rLst 1 (rInt .i64))) false] .one 1 (r.map (rInt .i64)) [] := by
 unfold zyc at h
 refine ztd.of Tryd.func65 rfl Tryd.ntmps65 (by simp) ?_
 intro F hF h0 hT
 show Sm F _ _ ⟨[(0, .d (.list 1 (a0.map (rLst 1 (rInt .i64))) false))], [], 0⟩
 refine sr hF ?_
 refine gv hF oA ?_
 refine sn ?_
 refine sr hF ?_
 refine gv hF oA ?_
 refine sn ?_
 refine Sm.seq ?_
 obtain ⟨v10, hv10, h⟩ := za h
 refine Sm.joinTU ⟨[(0, .d (.list 1 (a0.map (rLst 1 (rInt .i64))) false)), (3, .d (.v (.int .i64 v10)))], [], 0⟩ ?_ ?_
 ·replace h := hv10
  refine sr hF ?_
  refine gv hF oM ?_
  refine gv hF (oN (lenQD u71)) ?_
  refine gv hF oM ?_
  refine sn ?_
  refine Sm.block ?_
  refine Sm.loopT (zxb a0) (fun s1 => ⟨[(0, .d (.list 1 (a0.map (rLst 1 (rInt .i64))) false)), (3, .d (.v (.int .i64 s1.1))), (9, .d (.list 1 (a0.map (rLst 1 (rInt .i64))) false)), (10, .d (.v (.int .i64 (a0.length : Int)))), (11, .d (.v (.int .i64 s1.2)))], [], 0⟩) (0, 0) h (toK ⟨rfl, rfl, rfl, rfl, rfl, trivial⟩ trivial) ?_
  intro n2 s1 o3 h hd4
  unfold zxb at h
  refine sr hF ?_
  refine gv hF (oB (c_lss)) ?_
  refine sn ?_
  refine Sm.seq ?_
  refine Sm.condU hF rfl (fun hc5 => ?_) (fun hc5 => ?_)
  ·replace h := ifF hc5 h
   refine Sm.exit ?_
   replace h := zw h hd4
   obtain rfl := zb h
   exact (toK ⟨rfl, rfl, trivial⟩ trivial)
  replace h := ifT hc5 h
  refine sk ?_
  refine Sm.seq ?_
  refine Sm.block ?_
  refine sr hF ?_
  obtain ⟨x6, hx6, h⟩ := za h
  refine gv hF (oI (idxQD u71 sz30 hx6)) ?_
  refine gv hF (oL (lP1 ag30 rfl)) ?_
  refine gv hF oA ?_
  refine sn ?_
  refine sr hF ?_
  refine gv hF oM ?_
  refine gv hF oM ?_
  refine gv hF (oN (lenQD u30)) ?_
  obtain ⟨x7, hx7, h⟩ := za h
  refine gv hF (oB (z7 hx7)) ?_
  refine gv hF oA ?_
  refine sn ?_
  refine sr hF ?_
  refine gv hF oM ?_
  refine gv hF (oB (c_lss)) ?_
  refine sn ?_
  refine Sm.condB hF rfl (fun hc8 => ?_) (fun hc8 => ?_)
  ·replace h := ifT hc8 h
   refine Sm.regionG hF rfl ?_
   cases h
  replace h := ifF hc8 h
  refine Sm.skip ?_
  refine zk ?_
  refine zd ?_
  refine Sm.regionG hF rfl ?_
  obtain ⟨x9, hx9, h⟩ := za h
  refine gv hF (oB (z7 hx9)) ?_
  refine gv hF oM ?_
  refine SmG.nil ?_
  exact ztb (zhb h hd4) (toK ⟨rfl, rfl, rfl, rfl, rfl, trivial⟩ trivial)
 refine sr hF ?_
 refine gv hF oM ?_
 obtain ⟨x11, hx11, h⟩ := za h
 refine SmG.callO hF rfl rfl (by kernel_rfl) rfl rfl rfl (zti hx11) ?_
 refine gv hF oA ?_
 refine sn ?_
 refine Sm.seq ?_
 obtain ⟨v20, hv20, h⟩ := za h
 refine Sm.joinT ⟨[(6, .sref 0 0 (v20.map (rInt .i64)).length)], [(0, dB 1 (v20.map (rInt .i64)))], 1⟩ ?_ ?_
 ·refine Sm.seq ?_
  refine Sm.regionG hF rfl ?_
  refine gv hF oM ?_
  refine gv hF oA ?_
  refine sn ?_
  refine Sm.ret ?_
  obtain rfl := zb h
  exact zwi 0 rfl rfl rfl
 replace h := hv20
 refine sr hF ?_
 refine gv hF oM ?_
 refine gv hF (oN (lenQD u71)) ?_
 refine gv hF oM ?_
 refine sn ?_
 refine Sm.block ?_
 refine Sm.loopT (zwb a0) (fun s12 => ⟨[(6, .sref 0 0 (s12.2.map (rInt .i64)).length), (25, .d (.list 1 (a0.map (rLst 1 (rInt .i64))) false)), (26, .d (.v (.int .i64 (a0.length : Int)))), (27, .d (.v (.int .i64 s12.1)))], [(0, dB 1 (s12.2.map (rInt .i64)))], 1⟩) (0, x11) h (toK ⟨rfl, rfl, rfl, rfl, trivial⟩ ⟨rfl, trivial⟩) ?_
 intro n13 s12 o14 h hd15
 unfold zwb at h
 refine sr hF ?_
 refine gv hF (oB (c_lss)) ?_
 refine sn ?_
 refine Sm.seq ?_
 refine Sm.condU hF rfl (fun hc16 => ?_) (fun hc16 => ?_)
 ·replace h := ifF hc16 h
  refine Sm.exit ?_
  replace h := zw h hd15
  obtain rfl := zb h
  exact (toK ⟨rfl, trivial⟩ ⟨rfl, trivial⟩)
 replace h := ifT hc16 h
 refine sk ?_
 refine Sm.seq ?_
 refine Sm.block ?_
 refine sr hF ?_
 obtain ⟨x17, hx17, h⟩ := za h
 refine gv hF (oI (idxQD u71 sz30 hx17)) ?_
 refine gv hF (oL (lP1 ag30 rfl)) ?_
 refine gv hF oA ?_
 refine sn ?_
 refine Sm.regionG hF rfl ?_
 refine gv hF oM ?_
 refine gv hF oM ?_
 obtain ⟨x18, hx18, h⟩ := za h
 refine SmG.appendOwnL hF el30 rfl (ys := x17) (row := (rInt .i64)) rfl rfl rfl rfl rfl rfl rfl rfl (.inl rfl) hx18 (by (repeat' first | exact zqb _ | refine zib ?_ | refine zi ?_ (z6 _ _ _) | refine zi ?_ (z6 _ _ [_]) | refine zi ?_ (z2b (by rfl)))) ?_
 refine gv hF oA ?_
 refine SmG.nil ?_
 refine zk ?_
 refine zd ?_
 refine Sm.regionG hF rfl ?_
 obtain ⟨x19, hx19, h⟩ := za h
 refine gv hF (oB (z7 hx19)) ?_
 refine gv hF oM ?_
 refine SmG.nil ?_
 exact ztb (zhb h hd15) (toK ⟨rfl, rfl, rfl, rfl, trivial⟩ ⟨rfl, trivial⟩)
noncomputable def zxc (a0 : List UInt8) (a1 : Int) : Option (List UInt8) :=
 bif (decide (a1 < 0)) then (
  none
 ) else (
  ob (arI .i64 (a1 - 0)) fun x2 =>
  bif (decide (0 < x2)) then (
   ob (posI x2) fun n4 =>
   some ([] : List UInt8)
  ) else (
   some ([] : List UInt8)
  )
 )
set_option maxHeartbeats 4000000 in
theorem zai {a0 : List UInt8} {a1 : Int} {r : List UInt8} (h : zxc a0 a1 = some r) : ztd Tryd.prog HG 64 [.list 0 [] true, .v (.int .i64 a1)] .one 1 (r.map rowB) [] := by
 unfold zxc at h
 refine ztd.of Tryd.func64 rfl Tryd.ntmps64 (by simp) ?_
 intro F hF h0 hT
 show Sm F _ _ ⟨[(0, .d (.list 0 [] true)), (1, .d (.v (.int .i64 a1)))], [], 0⟩
 refine sr hF ?_
 refine gv hF oA ?_
 refine sn ?_
 refine Sm.seq ?_
 refine sr hF ?_
 refine gv hF oM ?_
 refine gv hF (oB (c_lss)) ?_
 refine sn ?_
 refine Sm.condB hF rfl (fun hc1 => ?_) (fun hc1 => ?_)
 ·replace h := ifT hc1 h
  refine Sm.regionG hF rfl ?_
  cases h
 replace h := ifF hc1 h
 refine sk ?_
 refine Sm.seq ?_
 refine sr hF ?_
 refine gv hF oM ?_
 refine gv hF oM ?_
 refine SmG.capFull hF Tryd.underlying24 rfl rfl rfl rfl rfl ?_
 refine gv hF oM ?_
 refine gv hF (oN (lenQN u24)) ?_
 refine gv hF (oB (z4l (v := 0) rfl)) ?_
 obtain ⟨x2, hx2, h⟩ := za h
 refine gv hF (oB (z4l hx2)) ?_
 refine gv hF oA ?_
 refine sn ?_
 refine sr hF ?_
 refine gv hF oM ?_
 refine gv hF (oB (c_gtr)) ?_
 refine sn ?_
 refine Sm.condU hF rfl (fun hc3 => ?_) (fun hc3 => ?_)
 ·replace h := ifF hc3 h
  refine sk ?_
  refine sr hF ?_
  refine gv hF oM ?_
  refine gv hF oA ?_
  refine sn ?_
  refine Sm.to (toK (e := [(4, .d (.list 0 [] true))]) (g := []) (m := 0) ⟨rfl, trivial⟩ trivial) ?_
  refine Sm.own (t := 4) 1 rfl ?_
  refine Sm.ret ?_
  obtain rfl := zb h
  exact zwi 0 rfl rfl rfl
 replace h := ifT hc3 h
 refine Sm.regionG hF rfl ?_
 refine gv hF oM ?_
 refine gv hF oM ?_
 refine SmG.capFull hF Tryd.underlying24 rfl rfl rfl rfl rfl ?_
 refine SmG.sliceNil hF Tryd.underlying24 sz5 rfl rfl rfl rfl rfl rfl ?_
 refine gv hF oM ?_
 obtain ⟨n4, hn4, h⟩ := za h
 refine SmG.appendMake hF el24 Tryd.underlying3 rfl rfl rfl rfl rfl rfl (zfg hn4).1 (zfg hn4).2.1 (zyo (zfg hn4).2.2 rfl) (Nat.le_trans (zfg hn4).2.2 (by decide)) ?_
 refine gv hF oM ?_
 refine gv hF (oN (lenQN u24)) ?_
 refine gv hF (zzl rfl rfl rfl rfl rfl (slcQ0 u24 rfl sz5)) ?_
 refine gv hF oA ?_
 refine sn ?_
 refine sr hF ?_
 refine gv hF oM ?_
 refine gv hF oA ?_
 refine sn ?_
 refine Sm.ret ?_
 obtain rfl := zb h
 exact zwi 0 rfl rfl rfl
noncomputable def zpb (a0 : List (List UInt8)) (s1 : (Int × Int)) : Option ((Int × Int) ⊕ Int) :=
 bif (decide (s1.2 < (a0.length : Int))) then (
  ob (idx a0 s1.2) fun x6 =>
  ob (arI .i64 (s1.1 + (x6.length : Int))) fun x7 =>
  bif (decide (x7 < 0)) then (
   none
  ) else (
   ob (arI .i64 (s1.2 + 1)) fun x9 =>
   some (.inl (x7, x9))
  )
 ) else (
  some (.inr s1.1)
 )
noncomputable def zob (a0 : List (List UInt8)) (s12 : (Int × (List UInt8))) : Option ((Int × (List UInt8)) ⊕ List UInt8) :=
 bif (decide (s12.1 < (a0.length : Int))) then (
  ob (idx a0 s12.1) fun x17 =>
  ob (app s12.2 x17) fun x18 =>
  ob (arI .i64 (s12.1 + 1)) fun x19 =>
  some (.inl (x19, x18))
 ) else (
  some (.inr s12.2)
 )
noncomputable def zqc (a0 : List (List UInt8)) : Option (List UInt8) :=
 ob ((
  loopO (zpb a0) (0, 0)
  : Option Int)) fun v10 =>
 ob (zxc [] v10) fun x11 =>
 ob ((
  loopO (zob a0) (0, x11)
  : Option (List UInt8))) fun v20 =>
 some v20
set_option maxHeartbeats 4000000 in
theorem zjh {a0 : List (List UInt8)} {r : List UInt8} (h : zqc a0 = some r) : ztd Tryd.prog HG 36 [.list 1 (a0.map rowE) false] .one 1 (r.map rowB) [] := by
 unfold zqc at h
 refine ztd.of Tryd.func36 rfl Tryd.ntmps36 (by simp) ?_
 intro F hF h0 hT
 show Sm F _ _ ⟨[(0, .d (.list 1 (a0.map rowE) false))], [], 0⟩
 refine sr hF ?_
 refine gv hF oA ?_
 refine sn ?_
 refine sr hF ?_
 refine gv hF oA ?_
 refine sn ?_
 refine Sm.seq ?_
 obtain ⟨v10, hv10, h⟩ := za h
 refine Sm.joinTU ⟨[(0, .d (.list 1 (a0.map rowE) false)), (3, .d (.v (.int .i64 v10)))], [], 0⟩ ?_ ?_
 ·replace h := hv10
  refine sr hF ?_
  refine gv hF oM ?_
  refine gv hF (oN (lenQD u61)) ?_
  refine gv hF oM ?_
  refine sn ?_
  refine Sm.block ?_
  refine Sm.loopT (zpb a0) (fun s1 => ⟨[(0, .d (.list 1 (a0.map rowE) false)), (3, .d (.v (.int .i64 s1.1))), (9, .d (.list 1 (a0.map rowE) false)), (10, .d (.v (.int .i64 (a0.length : Int)))), (11, .d (.v (.int .i64 s1.2)))], [], 0⟩) (0, 0) h (toK ⟨rfl, rfl, rfl, rfl, rfl, trivial⟩ trivial) ?_
  intro n2 s1 o3 h hd4
  unfold zpb at h
  refine sr hF ?_
  refine gv hF (oB (c_lss)) ?_
  refine sn ?_
  refine Sm.seq ?_
  refine Sm.condU hF rfl (fun hc5 => ?_) (fun hc5 => ?_)
  ·replace h := ifF hc5 h
   refine Sm.exit ?_
   replace h := zw h hd4
   obtain rfl := zb h
   exact (toK ⟨rfl, rfl, trivial⟩ trivial)
  replace h := ifT hc5 h
  refine sk ?_
  refine Sm.seq ?_
  refine Sm.block ?_
  refine sr hF ?_
  obtain ⟨x6, hx6, h⟩ := za h
  refine gv hF (oI (idxQD u61 sz24 hx6)) ?_
  refine gv hF (oL (lP1 ag24 rfl)) ?_
  refine gv hF oA ?_
  refine sn ?_
  refine sr hF ?_
  refine gv hF oM ?_
  refine gv hF oM ?_
  refine gv hF (oN (lenQD u24)) ?_
  obtain ⟨x7, hx7, h⟩ := za h
  refine gv hF (oB (z7 hx7)) ?_
  refine gv hF oA ?_
  refine sn ?_
  refine sr hF ?_
  refine gv hF oM ?_
  refine gv hF (oB (c_lss)) ?_
  refine sn ?_
  refine Sm.condB hF rfl (fun hc8 => ?_) (fun hc8 => ?_)
  ·replace h := ifT hc8 h
   refine Sm.regionG hF rfl ?_
   cases h
  replace h := ifF hc8 h
  refine Sm.skip ?_
  refine zk ?_
  refine zd ?_
  refine Sm.regionG hF rfl ?_
  obtain ⟨x9, hx9, h⟩ := za h
  refine gv hF (oB (z7 hx9)) ?_
  refine gv hF oM ?_
  refine SmG.nil ?_
  exact ztb (zhb h hd4) (toK ⟨rfl, rfl, rfl, rfl, rfl, trivial⟩ trivial)
 refine sr hF ?_
 refine gv hF oM ?_
 obtain ⟨x11, hx11, h⟩ := za h
 refine SmG.callO hF rfl rfl (by kernel_rfl) rfl rfl rfl (zai hx11) ?_
 refine gv hF oA ?_
 refine sn ?_
 refine Sm.seq ?_
 obtain ⟨v20, hv20, h⟩ := za h
 refine Sm.joinT ⟨[(6, .sref 0 0 (v20.map rowB).length)], [(0, dB 1 (v20.map rowB))], 1⟩ ?_ ?_
 ·refine Sm.seq ?_
  refine Sm.regionG hF rfl ?_
  refine gv hF oM ?_
  refine gv hF oA ?_
  refine sn ?_
  refine Sm.ret ?_
  obtain rfl := zb h
  exact zwi 0 rfl rfl rfl
 replace h := hv20
 refine sr hF ?_
 refine gv hF oM ?_
 refine gv hF (oN (lenQD u61)) ?_
 refine gv hF oM ?_
 refine sn ?_
 refine Sm.block ?_
 refine Sm.loopT (zob a0) (fun s12 => ⟨[(6, .sref 0 0 (s12.2.map rowB).length), (25, .d (.list 1 (a0.map rowE) false)), (26, .d (.v (.int .i64 (a0.length : Int)))), (27, .d (.v (.int .i64 s12.1)))], [(0, dB 1 (s12.2.map rowB))], 1⟩) (0, x11) h (toK ⟨rfl, rfl, rfl, rfl, trivial⟩ ⟨rfl, trivial⟩) ?_
 intro n13 s12 o14 h hd15
 unfold zob at h
 refine sr hF ?_
 refine gv hF (oB (c_lss)) ?_
 refine sn ?_
 refine Sm.seq ?_
 refine Sm.condU hF rfl (fun hc16 => ?_) (fun hc16 => ?_)
 ·replace h := ifF hc16 h
  refine Sm.exit ?_
  replace h := zw h hd15
  obtain rfl := zb h
  exact (toK ⟨rfl, trivial⟩ ⟨rfl, trivial⟩)
 replace h := ifT hc16 h
 refine sk ?_
 refine Sm.seq ?_
 refine Sm.block ?_
 refine sr hF ?_
 obtain ⟨x17, hx17, h⟩ := za h
 refine gv hF (oI (idxQD u61 sz24 hx17)) ?_
 refine gv hF (oL (lP1 ag24 rfl)) ?_
 refine gv hF oA ?_
 refine sn ?_
 refine Sm.regionG hF rfl ?_
 refine gv hF oM ?_
 refine gv hF oM ?_
 obtain ⟨x18, hx18, h⟩ := za h
 refine SmG.appendOwnL hF el24 rfl (ys := x17) (row := rowB) rfl rfl rfl rfl rfl rfl rfl rfl (.inl rfl) hx18 (by (repeat' first | exact zqb _ | refine zib ?_ | refine zi ?_ (z6 _ _ _) | refine zi ?_ (z6 _ _ [_]) | refine zi ?_ (z2b (by rfl)))) ?_
 refine gv hF oA ?_
 refine SmG.nil ?_
 refine zk ?_
 refine zd ?_
 refine Sm.regionG hF rfl ?_
 obtain ⟨x19, hx19, h⟩ := za h
 refine gv hF (oB (z7 hx19)) ?_
 refine gv hF oM ?_
 refine SmG.nil ?_
 exact ztb (zhb h hd15) (toK ⟨rfl, rfl, rfl, rfl, trivial⟩ ⟨rfl, trivial⟩)
end
end Go.Proofs.YtbaccmkhjmmlnaaDoor
