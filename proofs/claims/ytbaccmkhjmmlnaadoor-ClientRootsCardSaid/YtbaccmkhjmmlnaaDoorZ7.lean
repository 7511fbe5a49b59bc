/-
  Lemmas, part 7 of 8: walks through the program's functions, and plain Lean about what they compute.
-/
import Derived.Test.YtbaccmkhjmmlnaaDoorRows
import Derived.WalkKit
import Derived.WalkSpells
import Derived.WalkLawsBesides
import Derived.BigQuiet
import Derived.Deep.QuietTactic
import Derived.Deep.RegionHeld3
import Derived.Deep.DeepCutAuto
import Derived.Deep.LoopGhost
import Derived.StillTailTactics
import Derived.Lib.Hide
import Derived.Handy
import Derived.Test.YtbaccmkhjmmlnaaDoorZ1
import Derived.Test.YtbaccmkhjmmlnaaDoorZ2
import Derived.Test.YtbaccmkhjmmlnaaDoorZ3
import Derived.Test.YtbaccmkhjmmlnaaDoorZ4
import Derived.Test.YtbaccmkhjmmlnaaDoorZ5
import Derived.Test.YtbaccmkhjmmlnaaDoorZ6
set_option linter.unnecessarySimpa false
set_option linter.unusedSimpArgs false
set_option linter.unusedVariables false
namespace Go.Proofs.YtbaccmkhjmmlnaaDoor
section
open Go.RowKit
theorem qc : ∀ (k : Nat) (l : List (List UInt8)) (i : Nat), l.length = k → Len32 (Sha.path l i) := by
 intro k
 induction k using Nat.strongRecOn with
 | _ k ih =>
  intro l i hk
  rcases Nat.lt_or_ge l.length 2 with h | h
  ·rw [Sha.path_one _ h]; intro x hx; cases hx
  ·have c1 := Sha.cut_lt h
   have c2 := Sha.cut_pos l.length
   rcases Nat.lt_or_ge i (Sha.cut l.length) with hlt | hge
   ·rw [Sha.path_low h hlt]
    intro x hx
    rcases List.mem_cons.1 hx with rfl | h'
    ·exact Sha.root_len _
    ·exact ih _ (by rw [List.length_take]; omega) _ _ rfl x h'
   ·rw [Sha.path_high h hge]
    intro x hx
    rcases List.mem_cons.1 hx with rfl | h'
    ·exact Sha.root_len _
    ·exact ih _ (by rw [List.length_drop]; omega) _ _ rfl x h'
theorem mT {w w' : World} {r : Option Nat} (hb : Below w.heap.size w w') : w.grownBy w' r := ⟨hb.os, hb.tape, hb.output, hb.size, fun i hi _ => hb.block i hi⟩
theorem mf {w w' : World} {base size n : Nat} {e : TypeId} {v : Value} {xs : List Value} (h : w.ownsRow base e size v n xs) (hb : Below w.heap.size w w') : w'.ownsRow base e size v n xs := by
 cases hq : v.ownBlock with
 | none => exact h.kept (mT (r := none) hb) (.inl hq)
 | some k => exact h.kept (mT (r := none) hb) (.inr (by rw [hq]; simp))
theorem sc : ElemT Tryd.prog 36 47 (.agg (u8s (List.replicate 32 0)).toArray) 32 32 := ⟨Tryd.underlying36, by kernel_rfl, rfl, by omega⟩
theorem vU (v : Value) (ls : List (List UInt8)) (i : Int) (w : World) (hB : BB w v ls) (hi : i < 0 ∨ (ls.length : Int) ≤ i) (hF : ls.length ≤ 1000000) :
  Calls Tryd.prog 39 #[v, .int .i64 i] w fun e w' => e = .returned (.tuple #[.slice none 0 0, .int .i64 1]) ∧ w = w' := by
 obtain ⟨vs, hvs, hS, hel⟩ := hB
 obtain ⟨ao, cap, rfl⟩ := iR hS
 clear hS hel hvs
 obtain ⟨n, hN⟩ : ∃ n, n = ls.length := ⟨_, rfl⟩
 rw [← hN] at hi hF ⊢
 clear hN
 by_cases h0 : i < 0
 ·go_enter Tryd.func39, Tryd.ntmps39
  go_wp2
  exact bodyPost_ret (results_tmp2 rfl _ _ _) rfl ⟨rfl, rfl⟩
 ·have h1 : (n : Int) ≤ i := by omega
  go_enter Tryd.func39, Tryd.ntmps39
  go_wp2
  exact bodyPost_ret (results_tmp2 rfl _ _ _) rfl ⟨rfl, rfl⟩
set_option maxHeartbeats 400000 in
theorem vY (v : Value) (ls : List (List UInt8)) (i : Nat) (w : World) (hg : iu w) (hB : BB w v ls) (hF : Fit ls) (hi : i < ls.length) :
  Calls Tryd.prog 39 #[v, .int .i64 i] w fun e w' => ∃ v', e = .returned (.tuple #[v', .int .i64 0]) ∧ w'.ownsRow w.heap.size 47 32 v' (Sha.proof ls i).length (cA (Sha.proof ls i)) ∧ Below w.heap.size w w' := by
 obtain ⟨vs, hvs, hS, hel⟩ := id hB
 obtain ⟨ao, cap, rfl⟩ := iR hS
 have hn := hF.1
 have HG := Lib.hid hg
 have HB := Lib.hid hB
 have HF := Lib.hid hF
 clear hg hB hF hS hel hvs
 obtain ⟨n, hN⟩ : ∃ n, n = ls.length := ⟨_, rfl⟩
 rw [← hN] at hi hn HB ⊢
 have HN := Lib.hid hN; clear hN
 go_enter Tryd.func39, Tryd.ntmps39
 go_wp2
 have hd1 : decide (n ≤ i) = false := decide_eq_false (by omega)
 simp only [hd1, Bool.or_false]
 clear hd1
 go_loopw [0, 1, 6] (fun x y o wr => ∃ (l' : List (List UInt8)) (i' : Nat) (acc : List (List UInt8)), Sha.path ls i = acc ++ Sha.path l' i' ∧ (∃ ao cap, x = .slice ao l'.length cap) ∧ BB w x l' ∧ Fit l' ∧ i' < l'.length ∧ l'.length + acc.length ≤ n ∧ y = .int .i64 i' ∧
  wr.ownsRow w.heap.size 47 32 o acc.length (cA acc) ∧ Below w.heap.size w wr) (fun x _ _ _ => m7 x)
 case atStart => exact ⟨ls, i, [], rfl, ⟨ao, cap, by rw [HN.out]⟩, HB.out, HF.out, by have := HN.out; omega, by simp; have := HN.out; omega, rfl, World.ownsRow_nil _ _ _ _, Below.refl _ _⟩
 case round =>
  obtain ⟨l', i', acc, hpath, ⟨ao', cap', rfl⟩, hBB, hF', hi', hle, rfl, hown, hbel⟩ := hrel
  rcases Nat.lt_or_ge l'.length 2 with h2 | h2
  ·have hacc : Sha.path ls i = acc := by rw [hpath, Sha.path_one _ h2]; simp
   have hacc32 : Len32 acc := by rw [← hacc]; exact qc _ _ _ rfl
   have hpr : Sha.proof ls i = acc.reverse := by unfold Sha.proof; rw [hacc]
   obtain ⟨n', hN'⟩ : ∃ n', n' = l'.length := ⟨_, rfl⟩
   rw [← hN'] at h2 hle ⊢
   have HP := Lib.hid hpr
   have H32 := Lib.hid hacc32
   have HBel := Lib.hid hbel
   have HOwn := Lib.hid hown
   clear hacc hpr hacc32 hbel hown hpath hBB hF' hi' hN'
   rcases Nat.eq_zero_or_pos acc.length with h0 | h0
   ·have hnil : acc = [] := List.length_eq_zero_iff.1 h0
    subst hnil
    have hu : u6 = .slice none 0 0 ∨ ∃ g cp, u6 = .slice (some ⟨g, 0, none⟩) 0 cp := by
     rcases HOwn.out.2 with ⟨h, _⟩ | ⟨g, cp, cur, h, _⟩
     ·exact .inl h
     ·exact .inr ⟨g, cp, h⟩
    have ho := HOwn.out
    obtain ⟨ao2, cp2, rfl⟩ : ∃ ao cp, u6 = .slice ao 0 cp := by
     rcases hu with h | ⟨g, cp, h⟩
     ·exact ⟨none, 0, h⟩
     ·exact ⟨_, cp, h⟩
    clear hu h0 ho
    go_wp2_with (go_at_call 66; refine Hid.out ?_)
    refine dq ?_
    refine (sC ao2 cp2 _).mono ?_
    rintro e w2 ⟨rfl, rfl⟩
    go_wp2
    refine bodyPost_ret (results_tmp2 rfl _ _ _) rfl ⟨_, rfl, ?_, HBel.out⟩
    rw [HP.out]
    exact HOwn.out
   ·obtain ⟨k, hk⟩ : ∃ k, acc.length = k + 1 := ⟨acc.length - 1, by omega⟩
    have ho := HOwn.out
    rw [hk] at ho
    obtain ⟨g, cp, rfl, hg1, hg2⟩ := pM ho
    rw [← hk] at ho ⊢
    obtain ⟨cu0, hgt⟩ : ∃ cs, wr.heap[g]? = some (.cells cs 47) := by
     rcases ho.2 with ⟨h, _⟩ | ⟨g', cp', cu, h, _, h2, _⟩
     ·cases h
     ·simp only [Value.slice.injEq, Option.some.injEq, Addr.mk.injEq] at h
      obtain ⟨⟨rfl, _⟩, _⟩ := h
      exact ⟨cu, h2⟩
    obtain ⟨cur, hA, htk, hcap1, hcap2, hcl⟩ := um ho
    have hcur : cur = cA acc ++ cur.drop (acc.length * 32) := by rw [← htk, List.take_append_drop]
    rw [hcur] at hA
    obtain ⟨tl, htl⟩ : ∃ tl, tl = cur.drop (acc.length * 32) := ⟨_, rfl⟩
    rw [← htl] at hA
    have HA := Lib.hid hA
    have htl2 : tl.length = cp * 32 - acc.length * 32 := by rw [htl, List.length_drop, hcl]
    have HTL := Lib.hid htl2
    clear hA hcur htk htl hcl ho hk htl2
    go_wp2_with (go_at_call 66; refine Hid.out ?_)
    refine dq ?_
    refine (ua g cp acc tl _ (by omega) (by omega) hcap2 HA.out H32.out).mono ?_
    rintro e w2 ⟨rfl, hA2, hgr, hst⟩
    have HT := Lib.hid (hst _ _ hgt)
    clear hst hgt
    have HB2 := Lib.hid (HBel.out.grown hgr HBel.out.size (by intro k hk; cases hk; exact hg1))
    have HA2 := Lib.hid hA2
    clear hA2 hgr
    go_wp2
    refine bodyPost_ret (results_tmp2 rfl _ _ _) rfl ⟨_, rfl, ?_, HB2.out⟩
    have hl : (Sha.proof ls i).length = acc.length := by rw [HP.out, List.length_reverse]
    rw [hl, HP.out]
    obtain ⟨cs', hcs'⟩ := HT.out
    obtain ⟨T0, hT0⟩ := HA2.out
    have hee := hT0.symm.trans hcs'
    simp only [Option.some.injEq, Obj.cells.injEq] at hee
    obtain ⟨hc0, rfl, _⟩ := hee
    have hls : (cA acc.reverse).length = acc.length * 32 := by rw [gm H32.out.reverse, List.length_reverse]
    refine ⟨hls, .inr ⟨g, cp, _, rfl, hg1, hT0, hcap1, ?_, ?_, ?_⟩⟩
    ·unfold maxLen; omega
    ·have := HTL.out; simp [hls]; omega
    ·simp [hls]
  ·obtain ⟨b, off, rfl⟩ : ∃ b off, ao' = some ⟨b, off, none⟩ := by
    obtain ⟨vs, hvs, hS, hel⟩ := hBB
    obtain ⟨b, o, cap, e, _⟩ := lB hS (by omega)
    simp only [Value.slice.injEq] at e
    exact ⟨b, o, e.1⟩
   have hcap : l'.length ≤ cap' ∧ cap' ≤ 9223372036854775807 := by
    obtain ⟨vs, hvs, hS, hel⟩ := hBB
    obtain ⟨b, o, cap, e, h1, h2, _⟩ := lB hS (by omega)
    simp only [Value.slice.injEq] at e
    obtain ⟨_, _, rfl⟩ := e
    exact ⟨h1, h2⟩
   have hn' := hF'.1
   have c1 := Sha.cut_lt h2
   have c0 := Sha.cut_pos l'.length
   rcases Nat.lt_or_ge i' (Sha.cut l'.length) with hlt | hge
   ·have hp := Sha.path_low h2 hlt
    have hBd := rl hBB (Sha.cut l'.length) (by omega)
    have hBt := rh hBB (Sha.cut l'.length) (by omega)
    have HP := Lib.hid hp
    have HBd := Lib.hid hBd
    have HBt := Lib.hid hBt
    have HF' := Lib.hid hF'
    have HPath := Lib.hid hpath
    have HOwn := Lib.hid hown
    have HBel := Lib.hid hbel
    have HLe := Lib.hid hle
    clear hp hBd hBt hF' hpath hown hbel hBB hle
    obtain ⟨n', hN'⟩ : ∃ n', n' = l'.length := ⟨_, rfl⟩
    obtain ⟨m, hM⟩ : ∃ m, m = Sha.cut n' := ⟨_, rfl⟩
    rw [← hN'] at hi' h2 hn' c1 c0 hlt hcap HP HBd HBt HLe ⊢
    rw [← hM] at c1 c0 hlt HP HBd HBt
    have HM := Lib.hid hM
    have HN' := Lib.hid hN'
    clear hM hN'
    obtain ⟨hc1, hc2⟩ := hcap
    go_wp2_with (go_at_call 61; refine Hid.out ?_)
    refine dq ?_
    refine (mL n' _ h2 (by omega)).mono ?_
    rintro e w1 ⟨rfl, rfl⟩
    rw [← HM.out]
    go_wp2_with (go_at_call 32; refine Hid.out ?_)
    refine dq ?_
    refine (pu _ _ _ _ rfl (HG.out.below' HBel.out) (HBd.out.below HBel.out) (HF'.out.drop m)).mono ?_
    rintro e w1 ⟨rfl, hb1⟩
    have HO1 := Lib.hid (mf HOwn.out hb1)
    go_wp2_with (first | refine lK sc rfl _ rfl _ rfl (by rw [cE]) (by omega) ?_ | (at_builtin; refine Hid.out ?_))
    refine dq ?_
    have HA1 := Lib.hid (Arr.new w1 (u8s (Sha.root (l'.drop m))) 47)
    refine my sc rfl _ _ rfl w.heap.size _ acc.length (cA acc) rfl (mf HO1.out ((Below.refl _ _).alloc (Nat.le_refl _) _)) _ rfl _ HA1.out (by rw [cE]) (db _) (by have := HLe.out; omega) (by have := HLe.out; omega) (by have := HBel.out.size; have := hb1.size; simp; omega) ?_
    intro g' cp w2 hown2 hg2 hb2 hlt2
    have hB2 : Below w.heap.size w w2 := ((HBel.out.trans (hb1.mono HBel.out.size)).alloc (Nat.le_trans HBel.out.size hb1.size) _).grown hg2 (by have := HBel.out.size; have := hb1.size; simp; omega) (fun k hk => (HO1.out.lt k hk).1)
    have HB2 := Lib.hid hB2
    have HO2 := Lib.hid hown2
    clear hB2 hown2 hg2 HA1 HO1 hb1 hlt2 hb2 HOwn HBel
    go_wp2
    go_roundw
    case rel =>
     have e1 := HN'.out
     have hlk : (l'.take m).length = m := by simp; omega
     refine ⟨l'.take m, i', acc ++ [Sha.root (l'.drop m)], by rw [HPath.out, HP.out]; simp, ⟨_, _, by rw [hlk]⟩, HBt.out, HF'.out.take m, by rw [hlk]; omega, by rw [hlk, List.length_append]; have := HLe.out; simp; omega, by go_num, ?_, HB2.out⟩
     have := HO2.out
     rw [← me] at this
     simpa using this
    case measure => simp [m7]; omega
   ·have hp := Sha.path_high h2 hge
    have hBd := rl hBB (Sha.cut l'.length) (by omega)
    have hBt := rh hBB (Sha.cut l'.length) (by omega)
    have HP := Lib.hid hp
    have HBd := Lib.hid hBd
    have HBt := Lib.hid hBt
    have HF' := Lib.hid hF'
    have HPath := Lib.hid hpath
    have HOwn := Lib.hid hown
    have HBel := Lib.hid hbel
    have HLe := Lib.hid hle
    clear hp hBd hBt hF' hpath hown hbel hBB hle
    obtain ⟨n', hN'⟩ : ∃ n', n' = l'.length := ⟨_, rfl⟩
    obtain ⟨m, hM⟩ : ∃ m, m = Sha.cut n' := ⟨_, rfl⟩
    rw [← hN'] at hi' h2 hn' c1 c0 hge hcap HP HBd HBt HLe ⊢
    rw [← hM] at c1 c0 hge HP HBd HBt
    have HM := Lib.hid hM
    have HN' := Lib.hid hN'
    clear hM hN'
    obtain ⟨hc1, hc2⟩ := hcap
    go_wp2_with (go_at_call 61; refine Hid.out ?_)
    refine dq ?_
    refine (mL n' _ h2 (by omega)).mono ?_
    rintro e w1 ⟨rfl, rfl⟩
    rw [← HM.out]
    go_wp2_with (go_at_call 32; refine Hid.out ?_)
    refine dq ?_
    refine (pu _ _ _ _ rfl (HG.out.below' HBel.out) (HBt.out.below HBel.out) (HF'.out.take m)).mono ?_
    rintro e w1 ⟨rfl, hb1⟩
    have HO1 := Lib.hid (mf HOwn.out hb1)
    go_wp2_with (first | refine lK sc rfl _ rfl _ rfl (by rw [cE]) (by omega) ?_ | (at_builtin; refine Hid.out ?_))
    refine dq ?_
    have HA1 := Lib.hid (Arr.new w1 (u8s (Sha.root (l'.take m))) 47)
    refine my sc rfl _ _ rfl w.heap.size _ acc.length (cA acc) rfl (mf HO1.out ((Below.refl _ _).alloc (Nat.le_refl _) _)) _ rfl _ HA1.out (by rw [cE]) (db _) (by have := HLe.out; omega) (by have := HLe.out; omega) (by have := HBel.out.size; have := hb1.size; simp; omega) ?_
    intro g' cp w2 hown2 hg2 hb2 hlt2
    have hB2 : Below w.heap.size w w2 := ((HBel.out.trans (hb1.mono HBel.out.size)).alloc (Nat.le_trans HBel.out.size hb1.size) _).grown hg2 (by have := HBel.out.size; have := hb1.size; simp; omega) (fun k hk => (HO1.out.lt k hk).1)
    have HB2 := Lib.hid hB2
    have HO2 := Lib.hid hown2
    clear hB2 hown2 hg2 HA1 HO1 hb1 hlt2 hb2 HOwn HBel
    go_wp2
    go_roundw
    case rel =>
     have e1 := HN'.out
     have hlk : (l'.drop m).length = n' - m := by simp; omega
     refine ⟨l'.drop m, i' - m, acc ++ [Sha.root (l'.take m)], by rw [HPath.out, HP.out]; simp, ⟨_, _, by rw [hlk]⟩, HBd.out, HF'.out.drop m, by rw [hlk]; omega, by rw [hlk, List.length_append]; have := HLe.out; simp; omega, by go_num, ?_, HB2.out⟩
     have := HO2.out
     rw [← me] at this
     simpa using this
    case measure => simp [m7]; omega
end
section
open Go.RowKit
theorem tV (ls : List (List UInt8)) (i : Nat) : Len32 (Sha.proof ls i) := by
 intro x hx
 unfold Sha.proof at hx
 exact qc _ ls i rfl x (by simpa using hx)
theorem uV (ls : List (List UInt8)) (i : Int) (hi : i < 0 ∨ (ls.length : Int) ≤ i) (hF : ls.length ≤ 1000000) : ak Tryd.prog HG 39 [fj ls, .v (.int .i64 i)] (.tup [.list 32 [] true, .v (.int .i64 1)]) := by
 intro C w vs hG hk ha
 obtain ⟨v, u, rfl, hv, hu⟩ := r6 ha
 rw [bA hu]
 refine (vU v ls i w (pL hv hk) hi hF).mono ?_
 rintro e w' ⟨rfl, rfl⟩
 exact ⟨_, C, rfl, .refl hk, .tup _ _ (.ocons _ _ _ _ (.nil _ _ _ _ ⟨Nat.le_refl _, fun _ => rfl, by omega, fun _ => rfl, fun _ h => by cases h⟩) (.ocons _ _ _ _ (.v _) .onil))⟩
theorem zu (ls : List (List UInt8)) (i : Nat) (hF : Fit ls) (hi : i < ls.length) : ak Tryd.prog HG 39 [fj ls, .v (.int .i64 i)] (.tup [uY (Sha.proof ls i), .v (.int .i64 0)]) := by
 intro C w vs hG hk ha
 obtain ⟨v, u, rfl, hv, hu⟩ := r6 ha
 rw [bA hu]
 refine (vY v ls i w (rj hG hk) (pL hv hk) hF hi).mono ?_
 rintro e w' ⟨v', rfl, ho, hb⟩
 obtain ⟨C', hm, hr⟩ := ze (xs := (Sha.proof ls i).map aJ) hk hb (Nat.le_refl _) ho (by
  intro x hx
  obtain ⟨s, hs, rfl⟩ := List.mem_map.1 hx
  simpa [aJ] using tV ls i s hs) (by simp) (by rw [vn]; exact ru (xb _))
 exact ⟨_, C', rfl, hm, .tup _ _ (.ocons _ _ _ _ hr (.ocons _ _ _ _ (.v _) .onil))⟩
theorem yX (root b : List UInt8) (n i : Int) (p : List (List UInt8)) (hr : root.length = 32) (hb : b.length ≤ 900000) (h32 : Len32 p) (hpn : p.length ≤ 1000000) (hn : n ≤ 4294967296) :
  ak Tryd.prog HG 46 [dt root, .v (.int .i64 n), .v (.int .i64 i), bt b, uY p] (.v (.bool (Sha.check root n i b p))) := by
 intro C w vs hG hk ha
 cases ha with | ocons _ v0 _ vs h0 ha =>
 cases ha with | ocons _ v1 _ vs h1 ha =>
 cases ha with | ocons _ v2 _ vs h2 ha =>
 obtain ⟨v3, v4, rfl, h3, h4⟩ := r6 ha
 rw [zA h0, bA h1, bA h2]
 refine (xm root b n i p v3 v4 w hr hb (rj hG hk) (te h3 hk) (y5 h4 hk) h32 hpn hn).mono ?_
 rintro e w' ⟨rfl, hb⟩
 exact ⟨_, C, rfl, .of_below hk hb, .v _⟩
end
section
open Go.RowKit
theorem bG {s : List UInt8} (h : s.length = 32) : (aJ s).length = 32 := by simp [aJ, h]
theorem vX : (D.list 0 [] true).le (bt []) := aV 0 1 true
theorem pY {l : List (List UInt8)} (h : Fit l) (m : Nat) : Fit (l.take m) := ⟨by have := h.1; rw [List.length_take]; omega, fun x hx => h.2 x (List.mem_of_mem_take hx)⟩
theorem pT {l : List (List UInt8)} (h : Fit l) (m : Nat) : Fit (l.drop m) := ⟨by have := h.1; rw [List.length_drop]; omega, fun x hx => h.2 x (List.mem_of_mem_drop hx)⟩
set_option maxRecDepth 100000
theorem AP (n k : Nat) (h : 2 ^ k < n) (h' : n ≤ 2 * 2 ^ k) : 2 ^ k = Sha.cut n := (Sha.cut_eq (by have := Nat.pow_pos (n := k) (show 0 < 2 by omega); omega) h h').symm
theorem yE (n : Nat) (h1 : 2 ≤ n) (h2 : n ≤ 4611686018427387904) (G : Nat → Option D) : ak Tryd.prog G 57 [.v (.int .i64 n)] (.v (.int .i64 (Sha.cut n : Nat))) := by
 refine ak.of Tryd.func57 rfl Tryd.ntmps57 (by simp) ?_; intro F hF h0 hT; simp only [List.zipIdx_cons, List.zipIdx_nil, List.map_cons, List.map_nil, Nat.zero_add, Nat.reduceAdd]
 refine Sm.seq ?_
 refine ab hF rfl ?_
 refine SmG.v hF rfl rfl rfl (aZ rfl rfl) ?_
 refine SmG.nil ?_
 refine ae ?_
 refine Sm.seq ?_
 refine ab hF rfl ?_
 refine SmG.v hF rfl rfl rfl (aZ rfl rfl) ?_
 refine SmG.nil ?_
 refine ae ?_
 refine Sm.seq ?_
 refine Sm.block ?_
 refine Sm.loop (ι := {k : Nat // 2 ^ k < n}) (fun k => ⟨[(0, .d (.v (.int .i64 n))), (3, .d (.v (.int .i64 (2 ^ k.1 : Nat))))], [], 0⟩) (fun k => n - 2 ^ k.1) (⟨0, by simp; omega⟩) ?_ ?_
 ·exact cL (by simp [leE, look, bp]) (by simp [leH, look, rep]) (by first | exact Nat.le_refl _ | (dsimp only; omega))
 rintro ⟨k, hk⟩
 have hpos : 0 < 2 ^ k := Nat.pow_pos (by omega)
 have hs : 2 ^ (k + 1) = 2 * 2 ^ k := by rw [Nat.pow_succ]; omega
 have hc := AP n k hk
 generalize hm : 2 ^ k = m at hs hc hpos ⊢
 simp only [hm] at hk ⊢
 clear hm
 by_cases hlt : 2 * m < n
 ·refine Sm.seq ?_
  refine Sm.seq ?_
  refine ab hF rfl ?_
  refine SmG.v hF rfl rfl rfl (ay rfl rfl) ?_
  refine SmG.v hF rfl rfl rfl (aC rfl rfl rfl (by first | exact lH _ _ _ _ _ (ci _ (by omega)) | exact jA _ _ _ _ _ _ _)) ?_
  refine SmG.v hF rfl rfl rfl (ay rfl rfl) ?_
  refine SmG.v hF rfl rfl rfl (aC rfl rfl rfl (by first | exact dK _ _ _ _ _ (by omega) | exact dV _ _ _ _ _ (by omega) | exact eD _ _ _ _ _ _ _)) ?_
  refine SmG.nil ?_
  refine ae ?_
  refine cX hF rfl ?_
  refine Sm.skip ?_
  refine ae ?_
  refine Sm.block ?_
  refine ab hF rfl ?_
  refine SmG.v hF rfl rfl rfl (ay rfl rfl) ?_
  refine SmG.v hF rfl rfl rfl (aC rfl rfl rfl (by first | exact lH _ _ _ _ _ (ci _ (by omega)) | exact jA _ _ _ _ _ _ _)) ?_
  refine SmG.v hF rfl rfl rfl (aZ rfl rfl) ?_
  refine SmG.nil ?_
  refine am ?_
  refine ae ?_
  refine ⟨⟨k + 1, by omega⟩, by show n - 2 ^ (k + 1) < n - m; omega, ?_⟩
  exact cL (by simp [leE, look, bp, hs]) (by simp [leH, look, rep, hs]) (by first | exact Nat.le_refl _ | (dsimp only; omega))
 ·refine Sm.seq ?_
  refine Sm.seq ?_
  refine ab hF rfl ?_
  refine SmG.v hF rfl rfl rfl (ay rfl rfl) ?_
  refine SmG.v hF rfl rfl rfl (aC rfl rfl rfl (by first | exact lH _ _ _ _ _ (ci _ (by omega)) | exact jA _ _ _ _ _ _ _)) ?_
  refine SmG.v hF rfl rfl rfl (ay rfl rfl) ?_
  refine SmG.v hF rfl rfl rfl (aC rfl rfl rfl (by first | exact dK _ _ _ _ _ (by omega) | exact dV _ _ _ _ _ (by omega) | exact eD _ _ _ _ _ _ _)) ?_
  refine SmG.nil ?_
  refine ae ?_
  refine bB hF rfl ?_
  refine Sm.exit ?_
  simp only [dl, gz, reduceIte, reduceCtorEq]
  refine Sm.seq ?_
  refine ab hF rfl ?_
  refine SmG.v hF rfl rfl rfl (ay rfl rfl) ?_
  refine SmG.v hF rfl rfl rfl (aZ rfl rfl) ?_
  refine SmG.nil ?_
  refine ae ?_
  refine Sm.ret ?_
  refine ⟨_, rfl, ?_⟩; dsimp only
  rw [← hc (by omega)]
  exact D.le.refl _
end
section
open Go.RowKit
set_option maxRecDepth 100000
section
variable (P : Program) (t : TypeId) (x y : Operand)
theorem iL (a b : UInt32) : bj P (do eqGuard .add t x y (.int .u32 a.toNat) (.int .u32 b.toNat); binOp .add t (.int .u32 a.toNat) (.int .u32 b.toNat)) = some (.int .u32 ((a + b).toNat : Int)) := by rw [da, xS]
theorem iN (a b : UInt32) : bj P (do eqGuard .xor t x y (.int .u32 a.toNat) (.int .u32 b.toNat); binOp .xor t (.int .u32 a.toNat) (.int .u32 b.toNat)) = some (.int .u32 ((a ^^^ b).toNat : Int)) := by
 rw [ix]; exact congrArg (fun n => some (Value.int .u32 n)) (mY a b)
theorem oy (a b : UInt32) : bj P (do eqGuard .and t x y (.int .u32 a.toNat) (.int .u32 b.toNat); binOp .and t (.int .u32 a.toNat) (.int .u32 b.toNat)) = some (.int .u32 ((a &&& b).toNat : Int)) := by
 rw [lQ]; exact congrArg (fun n => some (Value.int .u32 n)) (vA a b)
theorem zU (a : UInt32) : bj P (Op.unary .xor (.int .u32 a.toNat)) = some (.int .u32 ((~~~a).toNat : Int)) := by
 rw [← yN a]; rfl
theorem tg (n : Nat) {b : Int} (k2 : IntKind) (hb : b = (n : Int)) (hn : n ≤ 32) (a : UInt32) : bj P (do eqGuard .shr t x y (.int .u32 a.toNat) (.int k2 b); binOp .shr t (.int .u32 a.toNat) (.int k2 b)) = some (.int .u32 ((Sha.shr a n).toNat : Int)) := by
 rw [tq P t x y .u32 a.toNat b k2 (by omega), ← vb]
 subst hb
 have : min ((n : Int).toNat) IntKind.u32.bits = n := by show min _ 32 = n; omega
 rw [this, Int.fdiv_eq_ediv_of_nonneg _ (Int.le_of_lt (Int.pow_pos (by omega)))]
 norm_cast
theorem y9 (p : Nat) (k2 : IntKind) (hp : p < 16777216) : bj P (do eqGuard .shl t x y (.int .u32 p) (.int k2 8); binOp .shl t (.int .u32 p) (.int k2 8)) = some (.int .u32 ((p * 256 : Nat) : Int)) := by
 have e : (2 : Int) ^ (min (8 : Int).toNat IntKind.u32.bits) = 256 := by decide
 rw [wk P t x y .u32 p 8 k2 (by omega), e, uI _ (by omega)]
 simp
theorem zM (p c : Nat) (hp : p < 16777216) (hc : c < 256) : bj P (do eqGuard .or t x y (.int .u32 ((p * 256 : Nat) : Int)) (.int .u32 c); binOp .or t (.int .u32 ((p * 256 : Nat) : Int)) (.int .u32 c)) = some (.int .u32 ((p * 256 + c : Nat) : Int)) := by
 rw [Bp]
 have := xi p c hp hc
 rw [show (p : Int) * 256 % 4294967296 = ((p * 256 : Nat) : Int) by omega] at this
 exact congrArg (fun n => some (Value.int .u32 n)) this
end
theorem je {n : Int} (m : Nat) (x : UInt32) (hn : n = m) (h1 : m ≤ 31) (G : Nat → Option D) : ak Tryd.prog G 92 [.v (.int .i64 n), .v (.int .u32 x.toNat)] (.v (.int .u32 (Sha.rotr x m).toNat)) := by
 intro C w vs hG hk ha
 obtain ⟨v, u, rfl, hv, hu⟩ := r6 ha
 rw [bA hv, bA hu]
 subst hn
 refine (yr m x w h1).mono ?_
 rintro e w' ⟨rfl, k, rfl⟩
 exact ⟨_, C, rfl, .of_below hk (below_drewN (Below.refl _ _) k), .v _⟩
theorem zq (G : Nat → Option D) : ak Tryd.prog G 77 [] (.agg 8 (Sha.begin8.map aN)) := by
 refine ak.of Tryd.func77 rfl Tryd.ntmps77 (by simp) ?_; intro F hF h0 hT; simp only [List.zipIdx_cons, List.zipIdx_nil, List.map_cons, List.map_nil, Nat.zero_add, Nat.reduceAdd]
 refine Sm.seq ?_
 refine ab hF rfl ?_
 refine SmG.new hF rfl rfl rfl (aO rfl r5) ?_
 refine SmG.nil ?_
 refine ae ?_
 refine Sm.seq ?_
 refine ab hF rfl ?_
 refine SmG.v hF rfl rfl rfl (io rfl Tryd.underlying139 rfl (show _ = some (.d (.agg 8 (Sha.begin8.map aN))) from by kernel_rfl)) ?_
 refine SmG.store hF rfl rfl rfl rfl rfl (by simp (disch := omega) only [go_sem, Nat.reduceEqDiff, aG] <;> rfl) ?_
 refine SmG.nil ?_
 refine ae ?_
 refine Sm.ret ?_
 refine ⟨.agg 8 (Sha.begin8.map aN), ?_, D.le.refl _⟩
 kernel_rfl
theorem zY (G : Nat → Option D) : ak Tryd.prog G 91 [] (.agg 64 (Sha.keys64.map aN)) := by
 refine ak.of Tryd.func91 rfl Tryd.ntmps91 (by simp) ?_; intro F hF h0 hT; simp only [List.zipIdx_cons, List.zipIdx_nil, List.map_cons, List.map_nil, Nat.zero_add, Nat.reduceAdd]
 refine Sm.seq ?_
 refine ab hF rfl ?_
 refine SmG.new hF rfl rfl rfl (aO rfl qm) ?_
 refine SmG.nil ?_
 refine ae ?_
 refine Sm.seq ?_
 refine ab hF rfl ?_
 refine SmG.v hF rfl rfl rfl (io rfl Tryd.underlying154 rfl (show _ = some (.d (.agg 64 (Sha.keys64.map aN))) from by kernel_rfl)) ?_
 refine SmG.store hF rfl rfl rfl rfl rfl (by simp (disch := omega) only [go_sem, Nat.reduceEqDiff, aG] <;> rfl) ?_
 refine SmG.nil ?_
 refine ae ?_
 refine Sm.ret ?_
 refine ⟨.agg 64 (Sha.keys64.map aN), ?_, D.le.refl _⟩
 kernel_rfl
abbrev dW (n : Nat) (l : List UInt32) : Blk := dB n [l.map aN]
theorem xZ (l : List UInt32) (i z : Nat) (h : z < 4294967296) : (List.map V.d (List.map aN l)).set i (.d (.v (.int .u32 (z : Int)))) = List.map V.d (List.map aN (l.set i (UInt32.ofNat z))) := by
 rw [List.map_set, List.map_set]
 have : (UInt32.ofNat z).toNat = z := Nat.mod_eq_of_lt h
 rw [aN, this]
theorem rt (l : List UInt32) (i : Nat) (z : UInt32) : (List.map V.d (List.map aN l)).set i (.d (.v (.int .u32 (z.toNat : Int)))) = List.map V.d (List.map aN (l.set i z)) := by
 rw [List.map_set, List.map_set]; rfl
theorem ir (l : List UInt32) (i : Nat) (h : i < l.length) : l[i]? = some (l.getD i 0) := by simp [List.getD, h]
theorem yd (b : List UInt8) (hb : b.length = 64) (G : Nat → Option D) : ak Tryd.prog G 90 [bt b] (.agg 64 ((Sha.spread b).map aN)) := by
 refine ak.of Tryd.func90 rfl Tryd.ntmps90 (by simp) ?_; intro F hF h0 hT; simp only [List.zipIdx_cons, List.zipIdx_nil, List.map_cons, List.map_nil, Nat.zero_add, Nat.reduceAdd]
 refine Sm.seq ?_
 refine ab hF rfl ?_
 refine SmG.new hF rfl rfl rfl (aO rfl qm) ?_
 refine SmG.nil ?_
 refine ae ?_
 refine Sm.seq ?_
 refine ab hF rfl ?_
 refine SmG.v hF rfl rfl rfl (io rfl Tryd.underlying154 rfl BR) ?_
 refine SmG.new hF rfl rfl rfl (aO rfl qm) ?_
 refine SmG.store hF rfl rfl rfl rfl rfl (by simp (disch := omega) only [go_sem, Nat.reduceEqDiff, aG] <;> rfl) ?_
 refine SmG.nil ?_
 refine ae ?_
 refine Sm.seq ?_
 refine Sm.seq ?_
 refine ab hF rfl ?_
 refine SmG.v hF rfl rfl rfl (aZ rfl rfl) ?_
 refine SmG.nil ?_
 refine ae ?_
 refine Sm.block ?_
 refine Sm.loop (ι := {t : Nat // t ≤ 16}) (fun t => ⟨[(0, .d (bt b)), (2, .ref 0 0 0), (3, .ref 1 0 0), (4, .d (.v (.int .i64 t.1)))], [(1, dW 64 (Sha.fill b (4 * t.1))), (0, dW 64 (List.replicate 64 0))], 2⟩) (fun t => 16 - t.1) (⟨0, by omega⟩) ?_ ?_
 ·refine cL (by simp [leE, look, bp]) ⟨?_, rfl, trivial⟩ (Nat.le_refl _)
  show _ = some (dW 64 (Sha.fill b 0))
  rw [Sha.fill_zero]; rfl
 rintro ⟨t, ht⟩
 simp only
 by_cases hlt : t < 16
 ·refine Sm.seq ?_
  refine Sm.seq ?_
  refine ab hF rfl ?_
  refine SmG.v hF rfl rfl rfl (ay rfl rfl) ?_
  refine SmG.v hF rfl rfl rfl (aC rfl rfl rfl (by first | exact dK _ _ _ _ _ (by omega) | exact dV _ _ _ _ _ (by omega) | exact eD _ _ _ _ _ _ _)) ?_
  refine SmG.nil ?_
  refine ae ?_
  refine cX hF rfl ?_
  refine Sm.skip ?_
  refine ae ?_
  refine Sm.seq ?_
  refine Sm.block ?_
  refine Sm.seq ?_
  refine ab hF rfl ?_
  refine SmG.v hF rfl rfl rfl (aZ rfl rfl) ?_
  refine SmG.nil ?_
  refine ae ?_
  refine Sm.block ?_
  refine Sm.loop (ι := {k : Nat // k ≤ 4}) (fun k => ⟨[(0, .d (bt b)), (2, .ref 0 0 0), (3, .ref 1 0 0), (4, .d (.v (.int .i64 t))), (5, .d (.v (.int .i64 k.1)))], [(1, dW 64 (Sha.fill b (4 * t + k.1))), (0, dW 64 (List.replicate 64 0))], 2⟩) (fun k => 4 - k.1) (⟨0, by omega⟩) ?_ ?_
  ·exact cL (by simp [leE, look, bp]) (by simp [leH, look, rep]) (by first | exact Nat.le_refl _ | (dsimp only; omega))
  rintro ⟨k, hk⟩
  simp only
  by_cases hlk : k < 4
  ·have hpl : Sha.part b t k < 16777216 := Nat.lt_of_lt_of_le (Sha.part_lt b t k) (by
    have : (256 : Nat) ^ k ≤ 256 ^ 3 := Nat.pow_le_pow_right (by omega) (by omega)
    simpa using this)
   have hget : (Sha.fill b (4 * t + k))[t]? = some (UInt32.ofNat (Sha.part b t k)) := by
    rw [ir _ _ (by rw [Sha.fill_length]; omega), Sha.fill_get b _ t (by omega)]
    congr 3; omega
   have hw : (UInt32.ofNat (Sha.part b t k)).toNat = Sha.part b t k := Nat.mod_eq_of_lt (by omega)
   have hb1 : b[4 * t + k]? = some (b.getD (4 * t + k) 0) := by simp [List.getD, show 4 * t + k < b.length by omega]
   have hlb : (b.getD (4 * t + k) 0).toNat < 256 := (b.getD (4 * t + k) 0).toNat_lt
   have hset := Sha.fill_succ b (4 * t + k) (by omega)
   rw [show (4 * t + k) / 4 = t by omega, show (4 * t + k) % 4 = k by omega] at hset
   have hst := xZ (Sha.fill b (4 * t + k)) t (Sha.part b t k * 256 + (b.getD (4 * t + k) 0).toNat) (by omega)
   rw [← hset] at hst
   generalize b.getD (4 * t + k) 0 = c at hb1 hlb hst
   generalize Sha.part b t k = p at hpl hget hw hst
   have hcast : (4 * (t : Int) + (k : Int)).toNat = 4 * t + k := by omega
   have e1 : 4 * t + (k + 1) = 4 * t + k + 1 := by omega
   refine Sm.seq ?_
   refine Sm.seq ?_
   refine ab hF rfl ?_
   refine SmG.v hF rfl rfl rfl (ay rfl rfl) ?_
   refine SmG.v hF rfl rfl rfl (aC rfl rfl rfl (by first | exact dK _ _ _ _ _ (by omega) | exact dV _ _ _ _ _ (by omega) | exact eD _ _ _ _ _ _ _)) ?_
   refine SmG.nil ?_
   refine ae ?_
   refine cX hF rfl ?_
   refine Sm.skip ?_
   refine ae ?_
   refine Sm.seq ?_
   refine Sm.block ?_
   refine aX hF (by kernel_rfl) rfl 15 (by kernel_rfl) (by kernel_rfl) ?_
   simp only [List.take_succ_cons, List.take_zero, List.take_nil]
   refine ag.v hF rfl rfl rfl (ay rfl rfl) ?_
   refine ag.v hF rfl rfl rfl (ay rfl rfl) ?_
   refine ag.v hF rfl rfl rfl (aB rfl rfl rfl (by simp (disch := omega) only [go_sem, Nat.reduceEqDiff, aG, bt, aI, d8, hget, hw, hb1, hcast, aN] <;> rfl)) ?_
   refine ag.v hF rfl rfl rfl (bg rfl rfl (by simp (disch := omega) only [go_sem, Nat.reduceEqDiff, aG, bt, aI, d8, hget, hw, hb1, hcast, aN] <;> rfl)) ?_
   refine ag.v hF rfl rfl rfl (aC rfl rfl rfl (y9 _ _ _ _ p _ hpl)) ?_
   refine ag.v hF rfl rfl rfl (ay rfl rfl) ?_
   refine ag.v hF rfl rfl rfl (ay rfl rfl) ?_
   refine ag.v hF rfl rfl rfl (aC rfl rfl rfl (by first | exact lH _ _ _ _ _ (ci _ (by omega)) | exact jA _ _ _ _ _ _ _)) ?_
   refine ag.v hF rfl rfl rfl (ay rfl rfl) ?_
   refine ag.v hF rfl rfl rfl (aC rfl rfl rfl (by first | exact iy _ _ _ _ _ (ci _ (by omega)) | exact da _ _ _ _ _ _ _)) ?_
   refine ag.v hF rfl rfl rfl (aB rfl rfl rfl (by simp (disch := omega) only [go_sem, Nat.reduceEqDiff, aG, bt, aI, d8, hget, hw, hb1, hcast, aN] <;> rfl)) ?_
   refine ag.v hF rfl rfl rfl (bg rfl rfl (by simp (disch := omega) only [go_sem, Nat.reduceEqDiff, aG, bt, aI, d8, hget, hw, hb1, hcast, aN] <;> rfl)) ?_
   refine ag.v hF rfl rfl rfl (lG rfl rfl (by first | exact ez rfl rfl (uI _ (by omega)) | (simp (disch := omega) only [go_sem, bt, aI, d8, hget, hw, hb1, hcast, aN] <;> rfl))) ?_
   refine ag.v hF rfl rfl rfl (aC rfl rfl rfl (zM _ _ _ _ p c.toNat hpl hlb)) ?_
   refine ag.v hF rfl rfl rfl (aB rfl rfl rfl (by simp (disch := omega) only [go_sem, Nat.reduceEqDiff, aG, bt, aI, d8, hget, hw, hb1, hcast, aN] <;> rfl)) ?_
   refine ag.last ⟨rfl, ?_⟩
   simp only [List.drop_succ_cons, List.drop_zero, List.drop_nil, List.nil_append, List.cons_append]
   refine SmG.store hF rfl rfl rfl rfl rfl (by simp (disch := omega) only [go_sem, Nat.reduceEqDiff, aG, bt, aI, d8, hget, hw, hb1, hcast, aN] <;> rfl) ?_
   refine SmG.nil ?_
   refine am ?_
   refine ae ?_
   refine ab hF rfl ?_
   refine SmG.v hF rfl rfl rfl (ay rfl rfl) ?_
   refine SmG.v hF rfl rfl rfl (aC rfl rfl rfl (by first | exact iy _ _ _ _ _ (ci _ (by omega)) | exact da _ _ _ _ _ _ _)) ?_
   refine SmG.v hF rfl rfl rfl (aZ rfl rfl) ?_
   refine SmG.nil ?_
   refine ae ?_
   exact ⟨⟨k + 1, by omega⟩, by show 4 - (k + 1) < 4 - k; omega, by exact cL (by first | (simp [leE, look, bp] <;> omega) | (simp [leE, look, bp, hst, e1] <;> omega)) (by simp only [leH, look, rep, reduceIte, Nat.reduceEqDiff, List.set_cons_zero, List.set_cons_succ, hst, e1, and_self, and_true, and_false, false_and, if_true, if_false] <;> (repeat' first | rfl | constructor)) (by first | exact Nat.le_refl _ | (dsimp only; omega))⟩
  ·obtain rfl : k = 4 := by omega
   refine Sm.seq ?_
   refine Sm.seq ?_
   refine ab hF rfl ?_
   refine SmG.v hF rfl rfl rfl (ay rfl rfl) ?_
   refine SmG.v hF rfl rfl rfl (aC rfl rfl rfl (by first | exact dK _ _ _ _ _ (by omega) | exact dV _ _ _ _ _ (by omega) | exact eD _ _ _ _ _ _ _)) ?_
   refine SmG.nil ?_
   refine ae ?_
   refine bB hF rfl ?_
   refine Sm.exit ?_
   simp only [dl, gz, reduceIte, reduceCtorEq]
   refine ab hF rfl ?_
   refine SmG.v hF rfl rfl rfl (ay rfl rfl) ?_
   refine SmG.v hF rfl rfl rfl (aC rfl rfl rfl (by first | exact iy _ _ _ _ _ (ci _ (by omega)) | exact da _ _ _ _ _ _ _)) ?_
   refine SmG.v hF rfl rfl rfl (aZ rfl rfl) ?_
   refine SmG.nil ?_
   refine ae ?_
   exact ⟨⟨t + 1, by omega⟩, by show 16 - (t + 1) < 16 - t; omega, by exact cL (by first | (simp [leE, look, bp] <;> omega) | (simp [leE, look, bp, show 4 * t + 4 = 4 * (t + 1) by omega] <;> omega)) (by simp only [leH, look, rep, reduceIte, Nat.reduceEqDiff, List.set_cons_zero, List.set_cons_succ, show 4 * t + 4 = 4 * (t + 1) by omega, and_self, and_true, and_false, false_and, if_true, if_false] <;> (repeat' first | rfl | constructor)) (by first | exact Nat.le_refl _ | (dsimp only; omega))⟩
 ·obtain rfl : t = 16 := by omega
  refine Sm.seq ?_
  refine Sm.seq ?_
  refine ab hF rfl ?_
  refine SmG.v hF rfl rfl rfl (ay rfl rfl) ?_
  refine SmG.v hF rfl rfl rfl (aC rfl rfl rfl (by first | exact dK _ _ _ _ _ (by omega) | exact dV _ _ _ _ _ (by omega) | exact eD _ _ _ _ _ _ _)) ?_
  refine SmG.nil ?_
  refine ae ?_
  refine bB hF rfl ?_
  refine Sm.exit ?_
  simp only [dl, gz, reduceIte, reduceCtorEq]
  refine Sm.seq ?_
  refine Sm.seq ?_
  refine ab hF rfl ?_
  refine SmG.v hF rfl rfl rfl (aZ rfl rfl) ?_
  refine SmG.nil ?_
  refine ae ?_
  refine Sm.block ?_
  refine Sm.loop (ι := {t : Nat // 16 ≤ t ∧ t ≤ 64}) (fun t => ⟨[(0, .d (bt b)), (2, .ref 0 0 0), (3, .ref 1 0 0), (6, .d (.v (.int .i64 t.1)))], [(1, dW 64 (Sha.grown b t.1)), (0, dW 64 (List.replicate 64 0))], 2⟩) (fun t => 64 - t.1) (⟨16, by omega, by omega⟩) ?_ ?_
  ·refine cL (by simp [leE, look, bp]) ⟨?_, rfl, trivial⟩ (Nat.le_refl _)
   show _ = some (dW 64 (Sha.grown b 16))
   rw [← Sha.grown_first]; rfl
  rintro ⟨t, ht, ht2⟩
  simp only
  by_cases hlt : t < 64
  ·have hln := Sha.grown_length b t ht ht2
   have h1 := ir (Sha.grown b t) (t - 16) (by omega)
   have h2 := ir (Sha.grown b t) (t - 7) (by omega)
   have h3 := ir (Sha.grown b t) (t - 15) (by omega)
   have h4 := ir (Sha.grown b t) (t - 2) (by omega)
   have hset := Sha.grown_succ b t ht hlt
   have hst := rt (Sha.grown b t) t ((Sha.grown b t).getD (t - 16) 0 + (Sha.grown b t).getD (t - 7) 0 + Sha.low ((Sha.grown b t).getD (t - 15) 0) + Sha.high ((Sha.grown b t).getD (t - 2) 0))
   rw [← hset] at hst
   generalize (Sha.grown b t).getD (t - 16) 0 = x1 at h1 hst
   generalize (Sha.grown b t).getD (t - 7) 0 = x2 at h2 hst
   generalize (Sha.grown b t).getD (t - 15) 0 = y at h3 hst
   generalize (Sha.grown b t).getD (t - 2) 0 = z at h4 hst
   simp only [Sha.low, Sha.high] at hst
   have c1 : ((t : Int) - 16).toNat = t - 16 := by omega
   have c2 : ((t : Int) - 7).toNat = t - 7 := by omega
   have c3 : ((t : Int) - 15).toNat = t - 15 := by omega
   have c4 : ((t : Int) - 2).toNat = t - 2 := by omega
   refine Sm.seq ?_
   refine Sm.seq ?_
   refine ab hF rfl ?_
   refine SmG.v hF rfl rfl rfl (ay rfl rfl) ?_
   refine SmG.v hF rfl rfl rfl (aC rfl rfl rfl (by first | exact dK _ _ _ _ _ (by omega) | exact dV _ _ _ _ _ (by omega) | exact eD _ _ _ _ _ _ _)) ?_
   refine SmG.nil ?_
   refine ae ?_
   refine cX hF rfl ?_
   refine Sm.skip ?_
   refine ae ?_
   refine Sm.seq ?_
   refine Sm.block ?_
   refine Sm.seq ?_
   refine ab hF rfl ?_
   refine SmG.v hF rfl rfl rfl (ay rfl rfl) ?_
   refine SmG.v hF rfl rfl rfl (aC rfl rfl rfl (by first | exact mB _ _ _ _ _ (ci _ (by omega)) | exact kP _ _ _ _ _ _ _)) ?_
   refine SmG.v hF rfl rfl rfl (aB rfl rfl rfl (by simp (disch := omega) only [go_sem, Nat.reduceEqDiff, aG, aN, h1, h2, h3, h4, c1, c2, c3, c4] <;> rfl)) ?_
   refine SmG.v hF rfl rfl rfl (bg rfl rfl (by simp (disch := omega) only [go_sem, Nat.reduceEqDiff, aG, aN, h1, h2, h3, h4, c1, c2, c3, c4] <;> rfl)) ?_
   refine SmG.v hF rfl rfl rfl (aZ rfl rfl) ?_
   refine SmG.nil ?_
   refine ae ?_
   refine Sm.seq ?_
   refine ab hF rfl ?_
   refine SmG.v hF rfl rfl rfl (ay rfl rfl) ?_
   refine SmG.v hF rfl rfl rfl (aC rfl rfl rfl (by first | exact mB _ _ _ _ _ (ci _ (by omega)) | exact kP _ _ _ _ _ _ _)) ?_
   refine SmG.v hF rfl rfl rfl (aB rfl rfl rfl (by simp (disch := omega) only [go_sem, Nat.reduceEqDiff, aG, aN, h1, h2, h3, h4, c1, c2, c3, c4] <;> rfl)) ?_
   refine SmG.v hF rfl rfl rfl (bg rfl rfl (by simp (disch := omega) only [go_sem, Nat.reduceEqDiff, aG, aN, h1, h2, h3, h4, c1, c2, c3, c4] <;> rfl)) ?_
   refine SmG.v hF rfl rfl rfl (aZ rfl rfl) ?_
   refine SmG.nil ?_
   refine ae ?_
   refine aX hF (by kernel_rfl) rfl 29 (by kernel_rfl) (by kernel_rfl) ?_
   simp only [List.take_succ_cons, List.take_zero, List.take_nil]
   refine ag.v hF rfl rfl rfl (ay rfl rfl) ?_
   refine ag.v hF rfl rfl rfl (ay rfl rfl) ?_
   refine ag.v hF rfl rfl rfl (aC rfl rfl rfl (by first | exact mB _ _ _ _ _ (ci _ (by omega)) | exact kP _ _ _ _ _ _ _)) ?_
   refine ag.v hF rfl rfl rfl (aB rfl rfl rfl (by simp (disch := omega) only [go_sem, Nat.reduceEqDiff, aG, aN, h1, h2, h3, h4, c1, c2, c3, c4] <;> rfl)) ?_
   refine ag.v hF rfl rfl rfl (bg rfl rfl (by simp (disch := omega) only [go_sem, Nat.reduceEqDiff, aG, aN, h1, h2, h3, h4, c1, c2, c3, c4] <;> rfl)) ?_
   refine ag.v hF rfl rfl rfl (ay rfl rfl) ?_
   refine ag.v hF rfl rfl rfl (aC rfl rfl rfl (by first | exact mB _ _ _ _ _ (ci _ (by omega)) | exact kP _ _ _ _ _ _ _)) ?_
   refine ag.v hF rfl rfl rfl (aB rfl rfl rfl (by simp (disch := omega) only [go_sem, Nat.reduceEqDiff, aG, aN, h1, h2, h3, h4, c1, c2, c3, c4] <;> rfl)) ?_
   refine ag.v hF rfl rfl rfl (bg rfl rfl (by simp (disch := omega) only [go_sem, Nat.reduceEqDiff, aG, aN, h1, h2, h3, h4, c1, c2, c3, c4] <;> rfl)) ?_
   refine ag.v hF rfl rfl rfl (aC rfl rfl rfl (by first | exact iL _ _ _ _ _ _ | exact da _ _ _ _ _ _ _)) ?_
   refine ag.v hF rfl rfl rfl (ay rfl rfl) ?_
   refine ag.c hF rfl rfl (by kernel_rfl) rfl rfl rfl (je 7 y rfl (by omega) G) ?_
   refine ag.v hF rfl rfl rfl (ay rfl rfl) ?_
   refine ag.c hF rfl rfl (by kernel_rfl) rfl rfl rfl (je 18 y rfl (by omega) G) ?_
   refine ag.v hF rfl rfl rfl (aC rfl rfl rfl (by first | exact iN _ _ _ _ _ _ | exact ix _ _ _ _ _ _ _)) ?_
   refine ag.v hF rfl rfl rfl (ay rfl rfl) ?_
   refine ag.v hF rfl rfl rfl (aC rfl rfl rfl (tg _ _ _ _ 3 _ rfl (by omega) y)) ?_
   refine ag.v hF rfl rfl rfl (aC rfl rfl rfl (by first | exact iN _ _ _ _ _ _ | exact ix _ _ _ _ _ _ _)) ?_
   refine ag.v hF rfl rfl rfl (aC rfl rfl rfl (by first | exact iL _ _ _ _ _ _ | exact da _ _ _ _ _ _ _)) ?_
   refine ag.v hF rfl rfl rfl (ay rfl rfl) ?_
   refine ag.c hF rfl rfl (by kernel_rfl) rfl rfl rfl (je 17 z rfl (by omega) G) ?_
   refine ag.v hF rfl rfl rfl (ay rfl rfl) ?_
   refine ag.c hF rfl rfl (by kernel_rfl) rfl rfl rfl (je 19 z rfl (by omega) G) ?_
   refine ag.v hF rfl rfl rfl (aC rfl rfl rfl (by first | exact iN _ _ _ _ _ _ | exact ix _ _ _ _ _ _ _)) ?_
   refine ag.v hF rfl rfl rfl (ay rfl rfl) ?_
   refine ag.v hF rfl rfl rfl (aC rfl rfl rfl (tg _ _ _ _ 10 _ rfl (by omega) z)) ?_
   refine ag.v hF rfl rfl rfl (aC rfl rfl rfl (by first | exact iN _ _ _ _ _ _ | exact ix _ _ _ _ _ _ _)) ?_
   refine ag.v hF rfl rfl rfl (aC rfl rfl rfl (by first | exact iL _ _ _ _ _ _ | exact da _ _ _ _ _ _ _)) ?_
   refine ag.v hF rfl rfl rfl (aB rfl rfl rfl (by simp (disch := omega) only [go_sem, Nat.reduceEqDiff, aG, aN, h1, h2, h3, h4, c1, c2, c3, c4] <;> rfl)) ?_
   refine ag.last ⟨rfl, ?_⟩
   simp only [List.drop_succ_cons, List.drop_zero, List.drop_nil, List.nil_append, List.cons_append]
   refine SmG.store hF rfl rfl rfl rfl rfl (by simp (disch := omega) only [go_sem, Nat.reduceEqDiff, aG, aN, h1, h2, h3, h4, c1, c2, c3, c4] <;> rfl) ?_
   refine SmG.nil ?_
   refine am ?_
   refine ae ?_
   refine ab hF rfl ?_
   refine SmG.v hF rfl rfl rfl (ay rfl rfl) ?_
   refine SmG.v hF rfl rfl rfl (aC rfl rfl rfl (by first | exact iy _ _ _ _ _ (ci _ (by omega)) | exact da _ _ _ _ _ _ _)) ?_
   refine SmG.v hF rfl rfl rfl (aZ rfl rfl) ?_
   refine SmG.nil ?_
   refine ae ?_
   exact ⟨⟨t + 1, by omega, by omega⟩, by show 64 - (t + 1) < 64 - t; omega, by exact cL (by first | (simp [leE, look, bp] <;> omega) | (simp [leE, look, bp, hst] <;> omega)) (by simp only [leH, look, rep, reduceIte, Nat.reduceEqDiff, List.set_cons_zero, List.set_cons_succ, hst, and_self, and_true, and_false, false_and, if_true, if_false] <;> (repeat' first | rfl | constructor)) (by first | exact Nat.le_refl _ | (dsimp only; omega))⟩
  ·obtain rfl : t = 64 := by omega
   have hln := Sha.grown_length b 64 ht ht2
   have hll : (List.map aN (Sha.grown b 64)).length = 64 := by rw [List.length_map, hln]
   refine Sm.seq ?_
   refine Sm.seq ?_
   refine ab hF rfl ?_
   refine SmG.v hF rfl rfl rfl (ay rfl rfl) ?_
   refine SmG.v hF rfl rfl rfl (aC rfl rfl rfl (by first | exact dK _ _ _ _ _ (by omega) | exact dV _ _ _ _ _ (by omega) | exact eD _ _ _ _ _ _ _)) ?_
   refine SmG.nil ?_
   refine ae ?_
   refine bB hF rfl ?_
   refine Sm.exit ?_
   simp only [dl, gz, reduceIte, reduceCtorEq]
   refine Sm.seq ?_
   refine ab hF rfl ?_
   refine SmG.v hF rfl rfl rfl (bg rfl rfl (by simp (disch := omega) only [go_sem, Nat.reduceEqDiff, aG, aN] <;> rfl)) ?_
   refine SmG.store hF rfl rfl rfl rfl rfl (by simp (disch := omega) only [go_sem, Nat.reduceEqDiff, aG, aN] <;> rfl) ?_
   refine SmG.nil ?_
   refine ae ?_
   refine Sm.ret ?_
   refine il rfl rfl (by simp (disch := omega) only [go_sem, Nat.reduceEqDiff, aG, hll] <;> rfl) ?_
   rw [Sha.grown_last]; exact D.le.refl _
end
section
open Go.RowKit
set_option maxRecDepth 100000
def jj (c s : List UInt32) (i : Nat) : List UInt32 := (List.zipWith (· + ·) c s).take i ++ c.drop i
theorem qH (c s : List UInt32) : jj c s 0 = c := by simp [jj]
theorem wB (c s : List UInt32) (i : Nat) (hl : c.length = s.length) (hi : i < c.length) : (jj c s i)[i]? = some (c.getD i 0) := by
 unfold jj
 have : ((List.zipWith (· + ·) c s).take i).length = i := by simp [hl]; omega
 rw [List.getElem?_append_right (by omega), this, Nat.sub_self, List.getElem?_drop]
 simp [List.getD, hi]
theorem xr (c s : List UInt32) (i : Nat) (hl : c.length = s.length) (hi : i < c.length) : (jj c s i).set i (c.getD i 0 + s.getD i 0) = jj c s (i + 1) := by
 unfold jj
 have h1 : ((List.zipWith (· + ·) c s).take i).length = i := by simp [hl]; omega
 rw [List.set_append_right _ _ (by omega), h1, Nat.sub_self, List.drop_eq_getElem_cons hi, List.set_cons_zero, List.take_succ_eq_append_getElem (by simp; omega)]
 simp [List.getD, hi, show i < s.length by omega]
theorem wu (c s : List UInt32) (hl : c.length = s.length) : jj c s c.length = List.zipWith (· + ·) c s := by
 unfold jj
 rw [List.take_of_length_le (by simp; omega), List.drop_length, List.append_nil]
theorem tR (w : List UInt32) (s : Sha.S8) (n : Nat) : Sha.rounds w s (n + 1) = Sha.round (Sha.rounds w s n) (Sha.keys64.getD n 0) (w.getD n 0) := rfl
theorem tN (a0 a1 a2 a3 a4 a5 a6 a7 : Int) : fo Tryd.prog 139 [(0, V.d (.v (.int .u32 a0))), (1, V.d (.v (.int .u32 a1))), (2, V.d (.v (.int .u32 a2))), (3, V.d (.v (.int .u32 a3))), (4, V.d (.v (.int .u32 a4))), (5, V.d (.v (.int .u32 a5))), (6, V.d (.v (.int .u32 a6))), (7, V.d (.v (.int .u32 a7)))] = some (.d (.agg 8 [.v (.int .u32 a0), .v (.int .u32 a1), .v (.int .u32 a2), .v (.int .u32 a3), .v (.int .u32 a4), .v (.int .u32 a5), .v (.int .u32 a6), .v (.int .u32 a7)])) := by kernel_rfl
set_option maxHeartbeats 4000000 in
theorem zI (S : Sha.S8) (b : List UInt8) (hb : b.length = 64) (G : Nat → Option D) : ak Tryd.prog G 78 [.agg 8 (S.list.map aN), bt b] (.agg 8 ((Sha.after S b).list.map aN)) := by
 have hkeys := zY G
 have hks := tR (Sha.spread b) S
 have hkl : Sha.keys64.length = 64 := by decide
 have haf : Sha.after S b = Sha.plus S (Sha.rounds (Sha.spread b) S 64) := rfl
 generalize Sha.keys64 = K at hkeys hks hkl
 have hwl : (Sha.spread b).length = 64 := by rw [← Sha.grown_last, Sha.grown_length b 64 (by omega) (by omega)]
 have hSl : S.list.length = 8 := rfl
 have hKl : (List.map aN K).length = 64 := by rw [List.length_map, hkl]
 have hWl : (List.map aN (Sha.spread b)).length = 64 := by rw [List.length_map, hwl]
 have hSS : (List.map aN S.list).length = 8 := by rw [List.length_map, hSl]
 refine ak.of Tryd.func78 rfl Tryd.ntmps78 (by simp) ?_; intro F hF h0 hT; simp only [List.zipIdx_cons, List.zipIdx_nil, List.map_cons, List.map_nil, Nat.zero_add, Nat.reduceAdd]
 refine Sm.seq ?_
 refine ab hF rfl ?_
 refine SmG.new hF rfl rfl rfl (mR rfl rfl (by simp (disch := omega) only [go_sem, Nat.reduceEqDiff, aG, aN] <;> rfl)) ?_
 refine SmG.new hF rfl rfl rfl (aO rfl r5) ?_
 refine SmG.nil ?_
 refine ae ?_
 refine Sm.seq ?_
 refine ab hF rfl ?_
 refine SmG.v hF rfl rfl rfl (ay rfl rfl) ?_
 refine SmG.call hF rfl rfl (by kernel_rfl) rfl rfl rfl (yd b hb G) ?_
 refine SmG.new hF rfl rfl rfl (aO rfl qm) ?_
 refine SmG.store hF rfl rfl rfl rfl rfl (by simp (disch := omega) only [go_sem, Nat.reduceEqDiff, aG, aN] <;> rfl) ?_
 refine SmG.nil ?_
 refine ae ?_
 refine Sm.seq ?_
 refine ab hF rfl ?_
 refine SmG.call hF rfl rfl (by kernel_rfl) rfl rfl rfl (hkeys) ?_
 refine SmG.new hF rfl rfl rfl (aO rfl qm) ?_
 refine SmG.store hF rfl rfl rfl rfl rfl (by simp (disch := omega) only [go_sem, Nat.reduceEqDiff, aG, aN] <;> rfl) ?_
 refine SmG.nil ?_
 refine ae ?_
 refine Sm.seq ?_
 refine ab hF rfl ?_
 refine SmG.v hF rfl rfl rfl (bg rfl rfl (by simp (disch := omega) only [go_sem, Nat.reduceEqDiff, aG, aN] <;> rfl)) ?_
 refine SmG.new hF rfl rfl rfl (aO rfl r5) ?_
 refine SmG.store hF rfl rfl rfl rfl rfl (by simp (disch := omega) only [go_sem, Nat.reduceEqDiff, aG, aN] <;> rfl) ?_
 refine SmG.nil ?_
 refine ae ?_
 refine Sm.seq ?_
 refine Sm.seq ?_
 refine ab hF rfl ?_
 refine SmG.v hF rfl rfl rfl (aZ rfl rfl) ?_
 refine SmG.nil ?_
 refine ae ?_
 refine Sm.block ?_
 generalize hW : Sha.spread b = W at hks haf hwl hWl ⊢
 refine Sm.loop (ι := {t : Nat // t ≤ 64}) (fun t => ⟨[(2, .ref 0 0 0), (4, .ref 1 0 0), (5, .ref 2 0 0), (6, .ref 3 0 0), (7, .ref 4 0 0), (8, .d (.v (.int .i64 t.1)))], [(4, dW 8 (Sha.rounds W S t.1).list), (3, dW 64 K), (2, dW 64 W), (1, dW 8 (List.replicate 8 0)), (0, dW 8 S.list)], 5⟩) (fun t => 64 - t.1) (⟨0, by omega⟩) ?_ ?_
 ·exact cL (by first | (simp [leE, look, bp] <;> omega) | (simp [leE, look, bp, true_and] <;> omega)) (by simp only [leH, look, rep, reduceIte, Nat.reduceEqDiff, List.set_cons_zero, List.set_cons_succ, true_and, and_self, and_true, and_false, false_and, if_true, if_false] <;> (repeat' first | rfl | constructor)) (by first | exact Nat.le_refl _ | (dsimp only; omega))
 rintro ⟨t, ht⟩
 simp only
 by_cases hlt : t < 64
 ·have hk1 := ir K t (by omega)
  have hw1 := ir W t (by omega)
  have hs := hks t
  generalize K.getD t 0 = k at hk1 hs
  generalize W.getD t 0 = x at hw1 hs
  generalize Sha.rounds W S t = c at hs ⊢
  rcases c with ⟨a, b1, c, d, e, f, g, h⟩
  have hrow : (Sha.rounds W S (t + 1)).list = [Sha.tx ⟨a, b1, c, d, e, f, g, h⟩ k x + Sha.ty ⟨a, b1, c, d, e, f, g, h⟩, a, b1, c, d + Sha.tx ⟨a, b1, c, d, e, f, g, h⟩ k x, e, f, g] := by rw [hs]; rfl
  simp only [Sha.tx, Sha.ty, Sha.rot3] at hrow
  rw [show Sha.S8.list ⟨a, b1, c, d, e, f, g, h⟩ = [a, b1, c, d, e, f, g, h] from rfl]
  refine Sm.seq ?_
  refine Sm.seq ?_
  refine ab hF rfl ?_
  refine SmG.v hF rfl rfl rfl (ay rfl rfl) ?_
  refine SmG.v hF rfl rfl rfl (aC rfl rfl rfl (by first | exact dK _ _ _ _ _ (by omega) | exact dV _ _ _ _ _ (by omega) | exact eD _ _ _ _ _ _ _)) ?_
  refine SmG.nil ?_
  refine ae ?_
  refine cX hF rfl ?_
  refine Sm.skip ?_
  refine ae ?_
  refine Sm.seq ?_
  refine Sm.block ?_
  refine Sm.seq ?_
  refine aX hF (by kernel_rfl) rfl 36 (by kernel_rfl) (by kernel_rfl) ?_
  simp only [List.take_succ_cons, List.take_zero, List.take_nil]
  refine ag.v hF rfl rfl rfl (aB rfl rfl rfl (by simp (disch := omega) only [go_sem, Nat.reduceEqDiff, aG, aN, hk1, hw1, hkl, hwl] <;> rfl)) ?_
  refine ag.v hF rfl rfl rfl (bg rfl rfl (by simp (disch := omega) only [go_sem, Nat.reduceEqDiff, aG, aN, hk1, hw1, hkl, hwl] <;> rfl)) ?_
  refine ag.v hF rfl rfl rfl (aB rfl rfl rfl (by simp (disch := omega) only [go_sem, Nat.reduceEqDiff, aG, aN, hk1, hw1, hkl, hwl] <;> rfl)) ?_
  refine ag.v hF rfl rfl rfl (bg rfl rfl (by simp (disch := omega) only [go_sem, Nat.reduceEqDiff, aG, aN, hk1, hw1, hkl, hwl] <;> rfl)) ?_
  refine ag.c hF rfl rfl (by kernel_rfl) rfl rfl rfl (je 6 e rfl (by omega) G) ?_
  refine ag.v hF rfl rfl rfl (aB rfl rfl rfl (by simp (disch := omega) only [go_sem, Nat.reduceEqDiff, aG, aN, hk1, hw1, hkl, hwl] <;> rfl)) ?_
  refine ag.v hF rfl rfl rfl (bg rfl rfl (by simp (disch := omega) only [go_sem, Nat.reduceEqDiff, aG, aN, hk1, hw1, hkl, hwl] <;> rfl)) ?_
  refine ag.c hF rfl rfl (by kernel_rfl) rfl rfl rfl (je 11 e rfl (by omega) G) ?_
  refine ag.v hF rfl rfl rfl (aC rfl rfl rfl (by first | exact iN _ _ _ _ _ _ | exact ix _ _ _ _ _ _ _)) ?_
  refine ag.v hF rfl rfl rfl (aB rfl rfl rfl (by simp (disch := omega) only [go_sem, Nat.reduceEqDiff, aG, aN, hk1, hw1, hkl, hwl] <;> rfl)) ?_
  refine ag.v hF rfl rfl rfl (bg rfl rfl (by simp (disch := omega) only [go_sem, Nat.reduceEqDiff, aG, aN, hk1, hw1, hkl, hwl] <;> rfl)) ?_
  refine ag.c hF rfl rfl (by kernel_rfl) rfl rfl rfl (je 25 e rfl (by omega) G) ?_
  refine ag.v hF rfl rfl rfl (aC rfl rfl rfl (by first | exact iN _ _ _ _ _ _ | exact ix _ _ _ _ _ _ _)) ?_
  refine ag.v hF rfl rfl rfl (aC rfl rfl rfl (by first | exact iL _ _ _ _ _ _ | exact da _ _ _ _ _ _ _)) ?_
  refine ag.v hF rfl rfl rfl (aB rfl rfl rfl (by simp (disch := omega) only [go_sem, Nat.reduceEqDiff, aG, aN, hk1, hw1, hkl, hwl] <;> rfl)) ?_
  refine ag.v hF rfl rfl rfl (bg rfl rfl (by simp (disch := omega) only [go_sem, Nat.reduceEqDiff, aG, aN, hk1, hw1, hkl, hwl] <;> rfl)) ?_
  refine ag.v hF rfl rfl rfl (aB rfl rfl rfl (by simp (disch := omega) only [go_sem, Nat.reduceEqDiff, aG, aN, hk1, hw1, hkl, hwl] <;> rfl)) ?_
  refine ag.v hF rfl rfl rfl (bg rfl rfl (by simp (disch := omega) only [go_sem, Nat.reduceEqDiff, aG, aN, hk1, hw1, hkl, hwl] <;> rfl)) ?_
  refine ag.v hF rfl rfl rfl (aC rfl rfl rfl (by first | exact oy _ _ _ _ _ _ | exact lQ _ _ _ _ _ _ _)) ?_
  refine ag.v hF rfl rfl rfl (aB rfl rfl rfl (by simp (disch := omega) only [go_sem, Nat.reduceEqDiff, aG, aN, hk1, hw1, hkl, hwl] <;> rfl)) ?_
  refine ag.v hF rfl rfl rfl (bg rfl rfl (by simp (disch := omega) only [go_sem, Nat.reduceEqDiff, aG, aN, hk1, hw1, hkl, hwl] <;> rfl)) ?_
  refine ag.v hF rfl rfl rfl (jK rfl rfl (zU _ _)) ?_
  refine ag.v hF rfl rfl rfl (aB rfl rfl rfl (by simp (disch := omega) only [go_sem, Nat.reduceEqDiff, aG, aN, hk1, hw1, hkl, hwl] <;> rfl)) ?_
  refine ag.v hF rfl rfl rfl (bg rfl rfl (by simp (disch := omega) only [go_sem, Nat.reduceEqDiff, aG, aN, hk1, hw1, hkl, hwl] <;> rfl)) ?_
  refine ag.v hF rfl rfl rfl (aC rfl rfl rfl (by first | exact oy _ _ _ _ _ _ | exact lQ _ _ _ _ _ _ _)) ?_
  refine ag.v hF rfl rfl rfl (aC rfl rfl rfl (by first | exact iN _ _ _ _ _ _ | exact ix _ _ _ _ _ _ _)) ?_
  refine ag.v hF rfl rfl rfl (aC rfl rfl rfl (by first | exact iL _ _ _ _ _ _ | exact da _ _ _ _ _ _ _)) ?_
  refine ag.v hF rfl rfl rfl (ay rfl rfl) ?_
  refine ag.v hF rfl rfl rfl (aB rfl rfl rfl (by simp (disch := omega) only [go_sem, Nat.reduceEqDiff, aG, aN, hk1, hw1, hkl, hwl] <;> rfl)) ?_
  refine ag.v hF rfl rfl rfl (bg rfl rfl (by simp (disch := omega) only [go_sem, Nat.reduceEqDiff, aG, aN, hk1, hw1, hkl, hwl] <;> rfl)) ?_
  refine ag.v hF rfl rfl rfl (aC rfl rfl rfl (by first | exact iL _ _ _ _ _ _ | exact da _ _ _ _ _ _ _)) ?_
  refine ag.v hF rfl rfl rfl (ay rfl rfl) ?_
  refine ag.v hF rfl rfl rfl (aB rfl rfl rfl (by simp (disch := omega) only [go_sem, Nat.reduceEqDiff, aG, aN, hk1, hw1, hkl, hwl] <;> rfl)) ?_
  refine ag.v hF rfl rfl rfl (bg rfl rfl (by simp (disch := omega) only [go_sem, Nat.reduceEqDiff, aG, aN, hk1, hw1, hkl, hwl] <;> rfl)) ?_
  refine ag.v hF rfl rfl rfl (aC rfl rfl rfl (by first | exact iL _ _ _ _ _ _ | exact da _ _ _ _ _ _ _)) ?_
  refine ag.v hF rfl rfl rfl (aZ rfl rfl) ?_
  refine ag.last ⟨rfl, ?_⟩
  simp only [List.drop_succ_cons, List.drop_zero, List.drop_nil, List.nil_append, List.cons_append]
  refine SmG.nil ?_
  refine ae ?_
  refine Sm.seq ?_
  refine aX hF (by kernel_rfl) rfl 30 (by kernel_rfl) (by kernel_rfl) ?_
  simp only [List.take_succ_cons, List.take_zero, List.take_nil]
  refine ag.v hF rfl rfl rfl (aB rfl rfl rfl (by simp (disch := omega) only [go_sem, Nat.reduceEqDiff, aG, aN, hk1, hw1, hkl, hwl] <;> rfl)) ?_
  refine ag.v hF rfl rfl rfl (bg rfl rfl (by simp (disch := omega) only [go_sem, Nat.reduceEqDiff, aG, aN, hk1, hw1, hkl, hwl] <;> rfl)) ?_
  refine ag.c hF rfl rfl (by kernel_rfl) rfl rfl rfl (je 2 a rfl (by omega) G) ?_
  refine ag.v hF rfl rfl rfl (aB rfl rfl rfl (by simp (disch := omega) only [go_sem, Nat.reduceEqDiff, aG, aN, hk1, hw1, hkl, hwl] <;> rfl)) ?_
  refine ag.v hF rfl rfl rfl (bg rfl rfl (by simp (disch := omega) only [go_sem, Nat.reduceEqDiff, aG, aN, hk1, hw1, hkl, hwl] <;> rfl)) ?_
  refine ag.c hF rfl rfl (by kernel_rfl) rfl rfl rfl (je 13 a rfl (by omega) G) ?_
  refine ag.v hF rfl rfl rfl (aC rfl rfl rfl (by first | exact iN _ _ _ _ _ _ | exact ix _ _ _ _ _ _ _)) ?_
  refine ag.v hF rfl rfl rfl (aB rfl rfl rfl (by simp (disch := omega) only [go_sem, Nat.reduceEqDiff, aG, aN, hk1, hw1, hkl, hwl] <;> rfl)) ?_
  refine ag.v hF rfl rfl rfl (bg rfl rfl (by simp (disch := omega) only [go_sem, Nat.reduceEqDiff, aG, aN, hk1, hw1, hkl, hwl] <;> rfl)) ?_
  refine ag.c hF rfl rfl (by kernel_rfl) rfl rfl rfl (je 22 a rfl (by omega) G) ?_
  refine ag.v hF rfl rfl rfl (aC rfl rfl rfl (by first | exact iN _ _ _ _ _ _ | exact ix _ _ _ _ _ _ _)) ?_
  refine ag.v hF rfl rfl rfl (aB rfl rfl rfl (by simp (disch := omega) only [go_sem, Nat.reduceEqDiff, aG, aN, hk1, hw1, hkl, hwl] <;> rfl)) ?_
  refine ag.v hF rfl rfl rfl (bg rfl rfl (by simp (disch := omega) only [go_sem, Nat.reduceEqDiff, aG, aN, hk1, hw1, hkl, hwl] <;> rfl)) ?_
  refine ag.v hF rfl rfl rfl (aB rfl rfl rfl (by simp (disch := omega) only [go_sem, Nat.reduceEqDiff, aG, aN, hk1, hw1, hkl, hwl] <;> rfl)) ?_
  refine ag.v hF rfl rfl rfl (bg rfl rfl (by simp (disch := omega) only [go_sem, Nat.reduceEqDiff, aG, aN, hk1, hw1, hkl, hwl] <;> rfl)) ?_
  refine ag.v hF rfl rfl rfl (aC rfl rfl rfl (by first | exact oy _ _ _ _ _ _ | exact lQ _ _ _ _ _ _ _)) ?_
  refine ag.v hF rfl rfl rfl (aB rfl rfl rfl (by simp (disch := omega) only [go_sem, Nat.reduceEqDiff, aG, aN, hk1, hw1, hkl, hwl] <;> rfl)) ?_
  refine ag.v hF rfl rfl rfl (bg rfl rfl (by simp (disch := omega) only [go_sem, Nat.reduceEqDiff, aG, aN, hk1, hw1, hkl, hwl] <;> rfl)) ?_
  refine ag.v hF rfl rfl rfl (aB rfl rfl rfl (by simp (disch := omega) only [go_sem, Nat.reduceEqDiff, aG, aN, hk1, hw1, hkl, hwl] <;> rfl)) ?_
  refine ag.v hF rfl rfl rfl (bg rfl rfl (by simp (disch := omega) only [go_sem, Nat.reduceEqDiff, aG, aN, hk1, hw1, hkl, hwl] <;> rfl)) ?_
  refine ag.v hF rfl rfl rfl (aC rfl rfl rfl (by first | exact oy _ _ _ _ _ _ | exact lQ _ _ _ _ _ _ _)) ?_
  refine ag.v hF rfl rfl rfl (aC rfl rfl rfl (by first | exact iN _ _ _ _ _ _ | exact ix _ _ _ _ _ _ _)) ?_
  refine ag.v hF rfl rfl rfl (aB rfl rfl rfl (by simp (disch := omega) only [go_sem, Nat.reduceEqDiff, aG, aN, hk1, hw1, hkl, hwl] <;> rfl)) ?_
  refine ag.v hF rfl rfl rfl (bg rfl rfl (by simp (disch := omega) only [go_sem, Nat.reduceEqDiff, aG, aN, hk1, hw1, hkl, hwl] <;> rfl)) ?_
  refine ag.v hF rfl rfl rfl (aB rfl rfl rfl (by simp (disch := omega) only [go_sem, Nat.reduceEqDiff, aG, aN, hk1, hw1, hkl, hwl] <;> rfl)) ?_
  refine ag.v hF rfl rfl rfl (bg rfl rfl (by simp (disch := omega) only [go_sem, Nat.reduceEqDiff, aG, aN, hk1, hw1, hkl, hwl] <;> rfl)) ?_
  refine ag.v hF rfl rfl rfl (aC rfl rfl rfl (by first | exact oy _ _ _ _ _ _ | exact lQ _ _ _ _ _ _ _)) ?_
  refine ag.v hF rfl rfl rfl (aC rfl rfl rfl (by first | exact iN _ _ _ _ _ _ | exact ix _ _ _ _ _ _ _)) ?_
  refine ag.v hF rfl rfl rfl (aC rfl rfl rfl (by first | exact iL _ _ _ _ _ _ | exact da _ _ _ _ _ _ _)) ?_
  refine ag.v hF rfl rfl rfl (aZ rfl rfl) ?_
  refine ag.last ⟨rfl, ?_⟩
  simp only [List.drop_succ_cons, List.drop_zero, List.drop_nil, List.nil_append, List.cons_append]
  refine SmG.nil ?_
  refine ae ?_
  refine ab hF rfl ?_
  refine SmG.v hF rfl rfl rfl (ay rfl rfl) ?_
  refine SmG.v hF rfl rfl rfl (ay rfl rfl) ?_
  refine SmG.v hF rfl rfl rfl (aC rfl rfl rfl (by first | exact iL _ _ _ _ _ _ | exact da _ _ _ _ _ _ _)) ?_
  refine SmG.v hF rfl rfl rfl (aB rfl rfl rfl (by simp (disch := omega) only [go_sem, Nat.reduceEqDiff, aG, aN, hk1, hw1, hkl, hwl] <;> rfl)) ?_
  refine SmG.v hF rfl rfl rfl (bg rfl rfl (by simp (disch := omega) only [go_sem, Nat.reduceEqDiff, aG, aN, hk1, hw1, hkl, hwl] <;> rfl)) ?_
  refine SmG.v hF rfl rfl rfl (aB rfl rfl rfl (by simp (disch := omega) only [go_sem, Nat.reduceEqDiff, aG, aN, hk1, hw1, hkl, hwl] <;> rfl)) ?_
  refine SmG.v hF rfl rfl rfl (bg rfl rfl (by simp (disch := omega) only [go_sem, Nat.reduceEqDiff, aG, aN, hk1, hw1, hkl, hwl] <;> rfl)) ?_
  refine SmG.v hF rfl rfl rfl (aB rfl rfl rfl (by simp (disch := omega) only [go_sem, Nat.reduceEqDiff, aG, aN, hk1, hw1, hkl, hwl] <;> rfl)) ?_
  refine SmG.v hF rfl rfl rfl (bg rfl rfl (by simp (disch := omega) only [go_sem, Nat.reduceEqDiff, aG, aN, hk1, hw1, hkl, hwl] <;> rfl)) ?_
  refine SmG.v hF rfl rfl rfl (aB rfl rfl rfl (by simp (disch := omega) only [go_sem, Nat.reduceEqDiff, aG, aN, hk1, hw1, hkl, hwl] <;> rfl)) ?_
  refine SmG.v hF rfl rfl rfl (bg rfl rfl (by simp (disch := omega) only [go_sem, Nat.reduceEqDiff, aG, aN, hk1, hw1, hkl, hwl] <;> rfl)) ?_
  refine SmG.v hF rfl rfl rfl (ay rfl rfl) ?_
  refine SmG.v hF rfl rfl rfl (aC rfl rfl rfl (by first | exact iL _ _ _ _ _ _ | exact da _ _ _ _ _ _ _)) ?_
  refine SmG.v hF rfl rfl rfl (aB rfl rfl rfl (by simp (disch := omega) only [go_sem, Nat.reduceEqDiff, aG, aN, hk1, hw1, hkl, hwl] <;> rfl)) ?_
  refine SmG.v hF rfl rfl rfl (bg rfl rfl (by simp (disch := omega) only [go_sem, Nat.reduceEqDiff, aG, aN, hk1, hw1, hkl, hwl] <;> rfl)) ?_
  refine SmG.v hF rfl rfl rfl (aB rfl rfl rfl (by simp (disch := omega) only [go_sem, Nat.reduceEqDiff, aG, aN, hk1, hw1, hkl, hwl] <;> rfl)) ?_
  refine SmG.v hF rfl rfl rfl (bg rfl rfl (by simp (disch := omega) only [go_sem, Nat.reduceEqDiff, aG, aN, hk1, hw1, hkl, hwl] <;> rfl)) ?_
  refine SmG.v hF rfl rfl rfl (aB rfl rfl rfl (by simp (disch := omega) only [go_sem, Nat.reduceEqDiff, aG, aN, hk1, hw1, hkl, hwl] <;> rfl)) ?_
  refine SmG.v hF rfl rfl rfl (bg rfl rfl (by simp (disch := omega) only [go_sem, Nat.reduceEqDiff, aG, aN, hk1, hw1, hkl, hwl] <;> rfl)) ?_
  refine SmG.v hF rfl rfl rfl (io rfl Tryd.underlying139 rfl (tN _ _ _ _ _ _ _ _)) ?_
  refine SmG.store hF rfl rfl rfl rfl rfl (by simp (disch := omega) only [go_sem, Nat.reduceEqDiff, aG, aN, hk1, hw1, hkl, hwl] <;> rfl) ?_
  refine SmG.nil ?_
  refine am ?_
  refine ae ?_
  refine ab hF rfl ?_
  refine SmG.v hF rfl rfl rfl (ay rfl rfl) ?_
  refine SmG.v hF rfl rfl rfl (aC rfl rfl rfl (by first | exact iy _ _ _ _ _ (ci _ (by omega)) | exact da _ _ _ _ _ _ _)) ?_
  refine SmG.v hF rfl rfl rfl (aZ rfl rfl) ?_
  refine SmG.nil ?_
  refine ae ?_
  exact ⟨⟨t + 1, by omega⟩, by show 64 - (t + 1) < 64 - t; omega, by exact cL (by first | (simp [leE, look, bp] <;> omega) | (simp [leE, look, bp, hrow, List.map_cons, List.map_nil] <;> omega)) (by simp only [leH, look, rep, reduceIte, Nat.reduceEqDiff, List.set_cons_zero, List.set_cons_succ, hrow, List.map_cons, List.map_nil, and_self, and_true, and_false, false_and, if_true, if_false] <;> (repeat' first | rfl | constructor)) (by first | exact Nat.le_refl _ | (dsimp only; omega))⟩
 ·obtain rfl : t = 64 := by omega
  have hcl : (Sha.rounds W S 64).list.length = 8 := rfl
  have hpl : (Sha.after S b).list = List.zipWith (· + ·) (Sha.rounds W S 64).list S.list := by rw [haf]; rfl
  generalize (Sha.rounds W S 64).list = C at hcl hpl ⊢
  generalize S.list = L at hSl hpl hSS ⊢
  refine Sm.seq ?_
  refine Sm.seq ?_
  refine ab hF rfl ?_
  refine SmG.v hF rfl rfl rfl (ay rfl rfl) ?_
  refine SmG.v hF rfl rfl rfl (aC rfl rfl rfl (by first | exact dK _ _ _ _ _ (by omega) | exact dV _ _ _ _ _ (by omega) | exact eD _ _ _ _ _ _ _)) ?_
  refine SmG.nil ?_
  refine ae ?_
  refine bB hF rfl ?_
  refine Sm.exit ?_
  simp only [dl, gz, reduceIte, reduceCtorEq]
  refine Sm.seq ?_
  refine Sm.seq ?_
  refine ab hF rfl ?_
  refine SmG.v hF rfl rfl rfl (aZ rfl rfl) ?_
  refine SmG.nil ?_
  refine ae ?_
  refine Sm.block ?_
  refine Sm.loop (ι := {i : Nat // i ≤ 8}) (fun i => ⟨[(2, .ref 0 0 0), (4, .ref 1 0 0), (7, .ref 4 0 0), (11, .d (.v (.int .i64 i.1)))], [(4, dW 8 (jj C L i.1)), (1, dW 8 (List.replicate 8 0)), (0, dW 8 L)], 5⟩) (fun i => 8 - i.1) (⟨0, by omega⟩) ?_ ?_
  ·exact cL (by first | (simp [leE, look, bp] <;> omega) | (simp [leE, look, bp, qH] <;> omega)) (by simp only [leH, look, rep, reduceIte, Nat.reduceEqDiff, List.set_cons_zero, List.set_cons_succ, qH, and_self, and_true, and_false, false_and, if_true, if_false] <;> (repeat' first | rfl | constructor)) (by first | exact Nat.le_refl _ | (dsimp only; omega))
  rintro ⟨i, hi⟩
  simp only
  by_cases hlt : i < 8
  ·have h1 := wB C L i (by omega) (by omega)
   have h2 := ir L i (by omega)
   have hst := rt (jj C L i) i (C.getD i 0 + L.getD i 0)
   rw [xr C L i (by omega) (by omega)] at hst
   generalize C.getD i 0 = x at h1 hst
   generalize L.getD i 0 = y at h2 hst
   refine Sm.seq ?_
   refine Sm.seq ?_
   refine ab hF rfl ?_
   refine SmG.v hF rfl rfl rfl (ay rfl rfl) ?_
   refine SmG.v hF rfl rfl rfl (aC rfl rfl rfl (by first | exact dK _ _ _ _ _ (by omega) | exact dV _ _ _ _ _ (by omega) | exact eD _ _ _ _ _ _ _)) ?_
   refine SmG.nil ?_
   refine ae ?_
   refine cX hF rfl ?_
   refine Sm.skip ?_
   refine ae ?_
   refine Sm.seq ?_
   refine Sm.block ?_
   refine aX hF (by kernel_rfl) rfl 8 (by kernel_rfl) (by kernel_rfl) ?_
   simp only [List.take_succ_cons, List.take_zero, List.take_nil]
   refine ag.v hF rfl rfl rfl (ay rfl rfl) ?_
   refine ag.v hF rfl rfl rfl (aB rfl rfl rfl (by simp (disch := omega) only [go_sem, Nat.reduceEqDiff, aG, aN, h1, h2] <;> rfl)) ?_
   refine ag.v hF rfl rfl rfl (bg rfl rfl (by simp (disch := omega) only [go_sem, Nat.reduceEqDiff, aG, aN, h1, h2] <;> rfl)) ?_
   refine ag.v hF rfl rfl rfl (ay rfl rfl) ?_
   refine ag.v hF rfl rfl rfl (aB rfl rfl rfl (by simp (disch := omega) only [go_sem, Nat.reduceEqDiff, aG, aN, h1, h2] <;> rfl)) ?_
   refine ag.v hF rfl rfl rfl (bg rfl rfl (by simp (disch := omega) only [go_sem, Nat.reduceEqDiff, aG, aN, h1, h2] <;> rfl)) ?_
   refine ag.v hF rfl rfl rfl (aC rfl rfl rfl (by first | exact iL _ _ _ _ _ _ | exact da _ _ _ _ _ _ _)) ?_
   refine ag.v hF rfl rfl rfl (aB rfl rfl rfl (by simp (disch := omega) only [go_sem, Nat.reduceEqDiff, aG, aN, h1, h2] <;> rfl)) ?_
   refine ag.last ⟨rfl, ?_⟩
   simp only [List.drop_succ_cons, List.drop_zero, List.drop_nil, List.nil_append, List.cons_append]
   refine SmG.store hF rfl rfl rfl rfl rfl (by simp (disch := omega) only [go_sem, Nat.reduceEqDiff, aG, aN, h1, h2] <;> rfl) ?_
   refine SmG.nil ?_
   refine am ?_
   refine ae ?_
   refine ab hF rfl ?_
   refine SmG.v hF rfl rfl rfl (ay rfl rfl) ?_
   refine SmG.v hF rfl rfl rfl (aC rfl rfl rfl (by first | exact iy _ _ _ _ _ (ci _ (by omega)) | exact da _ _ _ _ _ _ _)) ?_
   refine SmG.v hF rfl rfl rfl (aZ rfl rfl) ?_
   refine SmG.nil ?_
   refine ae ?_
   exact ⟨⟨i + 1, by omega⟩, by show 8 - (i + 1) < 8 - i; omega, by exact cL (by first | (simp [leE, look, bp] <;> omega) | (simp [leE, look, bp, hst] <;> omega)) (by simp only [leH, look, rep, reduceIte, Nat.reduceEqDiff, List.set_cons_zero, List.set_cons_succ, hst, and_self, and_true, and_false, false_and, if_true, if_false] <;> (repeat' first | rfl | constructor)) (by first | exact Nat.le_refl _ | (dsimp only; omega))⟩
  ·obtain rfl : i = 8 := by omega
   have hall := wu C L (by omega)
   rw [hcl] at hall
   have hll : (List.map aN (jj C L 8)).length = 8 := by rw [hall]; simp [hcl, hSl]
   refine Sm.seq ?_
   refine Sm.seq ?_
   refine ab hF rfl ?_
   refine SmG.v hF rfl rfl rfl (ay rfl rfl) ?_
   refine SmG.v hF rfl rfl rfl (aC rfl rfl rfl (by first | exact dK _ _ _ _ _ (by omega) | exact dV _ _ _ _ _ (by omega) | exact eD _ _ _ _ _ _ _)) ?_
   refine SmG.nil ?_
   refine ae ?_
   refine bB hF rfl ?_
   refine Sm.exit ?_
   simp only [dl, gz, reduceIte, reduceCtorEq]
   refine Sm.seq ?_
   refine ab hF rfl ?_
   refine SmG.v hF rfl rfl rfl (bg rfl rfl (by simp (disch := omega) only [go_sem, Nat.reduceEqDiff, aG, aN, hll] <;> rfl)) ?_
   refine SmG.store hF rfl rfl rfl rfl rfl (by simp (disch := omega) only [go_sem, Nat.reduceEqDiff, aG, aN, hll] <;> rfl) ?_
   refine SmG.nil ?_
   refine ae ?_
   refine Sm.ret ?_
   refine il rfl rfl (by simp (disch := omega) only [go_sem, Nat.reduceEqDiff, aG, hll] <;> rfl) ?_
   rw [hall, ← hpl]; exact D.le.refl _
end
section
open Go.RowKit
set_option maxRecDepth 100000
theorem uE {P : Program} {s d : TypeId} {td : TypeDesc} {k2 : IntKind} (z : Nat) (h1 : P.underlying s = some td) (h2 : P.underlying d = some (.int .u8)) : gT P s d (.d (.v (.int k2 (z : Int)))) = some (.d (d8 (UInt8.ofNat z))) := by
 simp only [gT, su P .u8 z s d h1 h2 k2, Option.map_some, d8]
 have : IntKind.u8.wrap (z : Int) = ((UInt8.ofNat z).toNat : Int) := by
  rw [IntKind.wrap_u8']
  simp
 rw [this]
theorem pt (l : List UInt8) (b : UInt8) : List.map aI l ++ [[d8 b]] = List.map aI (l ++ [b]) := by simp [aI]
theorem xe (n i : Nat) (h : i < 8) : (Sha.lenBytes n).take i ++ [UInt8.ofNat (8 * n / 2 ^ (56 - 8 * i))] = (Sha.lenBytes n).take (i + 1) := (Sha.lenBytes_take n i h).symm
theorem DN (P : Program) (t : TypeId) (x y : Operand) (a n : Nat) {b : Int} (k2 : IntKind) (hb : b = (n : Int)) (hn : n ≤ 64) : bj P (do eqGuard .shr t x y (.int .u64 a) (.int k2 b); binOp .shr t (.int .u64 a) (.int k2 b)) = some (.int .u64 ((a / 2 ^ n : Nat) : Int)) := by
 rw [tq P t x y .u64 a b k2 (by omega)]
 subst hb
 have : min ((n : Int).toNat) IntKind.u64.bits = n := by show min _ 64 = n; omega
 rw [this, Int.fdiv_eq_ediv_of_nonneg _ (Int.le_of_lt (Int.pow_pos (by omega)))]
 norm_cast
theorem xI (b : List UInt8) (hb : b.length ≤ 1000000) (G : Nat → Option D) : ak Tryd.prog G 76 [bt b] (bt (Sha.padded b)) := by
 have hpad : Sha.padded b = b ++ [128] ++ List.replicate (Sha.zeros b.length) 0 ++ Sha.lenBytes b.length := rfl
 have hz : Sha.zeros b.length < 64 := by unfold Sha.zeros; omega
 have hzt := fun j => Sha.zeros_test b.length j
 have hze := Sha.zeros_end b.length
 generalize Sha.zeros b.length = z at hpad hz hzt hze
 refine ak.of Tryd.func76 rfl Tryd.ntmps76 (by simp) ?_; intro F hF h0 hT; simp only [List.zipIdx_cons, List.zipIdx_nil, List.map_cons, List.map_nil, Nat.zero_add, Nat.reduceAdd]
 refine Sm.seq ?_
 refine ab hF rfl ?_
 refine SmG.v hF rfl rfl rfl (aZ rfl rfl) ?_
 refine SmG.nil ?_
 refine ae ?_
 refine Sm.seq ?_
 refine ab hF rfl ?_
 refine SmG.v hF rfl rfl rfl (fr rfl rfl (by simp (disch := omega) only [go_sem, Nat.reduceEqDiff, aG, bt, aI] <;> rfl)) ?_
 refine SmG.v hF rfl rfl rfl (ay rfl rfl) ?_
 refine SmG.appendFresh hF k6 rfl rfl rfl rfl rfl rfl (Or.inl rfl) (by simp only [List.length_map]; omega) (by simp only [List.length_map]; omega) ?_
 refine SmG.v hF rfl rfl rfl (aZ rfl rfl) ?_
 refine SmG.nil ?_
 refine ae ?_
 refine Sm.seq ?_
 refine ab hF rfl ?_
 refine SmG.v hF rfl rfl rfl (ay rfl rfl) ?_
 refine SmG.v hF rfl rfl rfl (fr rfl rfl (by simp (disch := omega) only [go_sem, Nat.reduceEqDiff, aG, bt, aI] <;> rfl)) ?_
 refine SmG.appendOwn hF k6 rfl rfl rfl rfl rfl rfl rfl (by first | rfl | (simp; done) | (simp; omega)) (Or.inl rfl) (by (repeat' first | exact bz _ | refine bn ?_ | refine ap ?_ (aQ _ _ _) | refine ap ?_ (aQ _ _ [_]) | refine ap ?_ (bJ (by rfl)))) ?_ ?_ ?_; rotate_left; rotate_left; simp only [iY, Pk.v, V.free, rep, bne_self_eq_false, Nat.reduceAdd, Nat.reduceBNe, Nat.reduceBEq, Nat.reduceEqDiff, reduceIte, Bool.false_eq_true]
 rotate_left
 ·simp only [List.length_map, List.length_cons, List.length_nil]; omega
 ·simp only [List.length_map, List.length_cons, List.length_nil]; omega
 refine SmG.v hF rfl rfl rfl (aZ rfl rfl) ?_
 refine SmG.nil ?_
 refine ae ?_
 refine Sm.seq ?_
 refine Sm.block ?_
 refine Sm.loop (ι := {j : Nat // j ≤ z}) (fun j => ⟨[(0, .d (bt b)), (3, .sref 0 0 ((b ++ [128] ++ List.replicate j.1 0).map aI).length)], [(0, dB 1 ((b ++ [128] ++ List.replicate j.1 0).map aI))], 1⟩) (fun j => z - j.1) (⟨0, by omega⟩) ?_ ?_
 ·have h0 : List.map aI b ++ [[D.v (.int .u8 128)]] = List.map aI (b ++ [128] ++ List.replicate 0 0) := by
   rw [List.replicate_zero, List.append_nil, ← pt]; rfl
  exact cL (by first | (simp [leE, look, bp] <;> omega) | (simp [leE, look, bp, h0] <;> omega)) (by simp only [leH, look, rep, reduceIte, Nat.reduceEqDiff, List.set_cons_zero, List.set_cons_succ, h0, and_self, and_true, and_false, false_and, if_true, if_false] <;> (repeat' first | rfl | constructor)) (by first | exact Nat.le_refl _ | (dsimp only; omega))
 rintro ⟨j, hj⟩
 simp only
 by_cases hlt : j < z
 ·have hzj := hzt j hlt
  have hrow : List.map aI (b ++ [128] ++ List.replicate j 0) ++ [[D.v (.int .u8 0)]] = List.map aI (b ++ [128] ++ List.replicate (j + 1) 0) := by
   rw [List.replicate_succ', ← List.append_assoc, ← pt]; rfl
  refine Sm.seq ?_
  refine Sm.seq ?_
  refine ab hF rfl ?_
  refine SmG.v hF rfl rfl rfl (ay rfl rfl) ?_
  refine SmG.v hF rfl rfl rfl (gH rfl rfl (by simp (disch := omega) only [go_sem, Nat.reduceEqDiff, aG, bt, aI, List.length_append, List.length_cons, List.length_nil, List.length_replicate] <;> rfl)) ?_
  refine SmG.v hF rfl rfl rfl (aC rfl rfl rfl (by first | exact iy _ _ _ _ _ (ci _ (by omega)) | exact da _ _ _ _ _ _ _)) ?_
  refine SmG.v hF rfl rfl rfl (aC rfl rfl rfl (by first | exact tf _ _ _ _ _ (by omega) (by omega) | exact oq _ _ _ _ _ _ _ (by omega))) ?_
  refine SmG.v hF rfl rfl rfl (aC rfl rfl rfl (by first | exact uv _ _ _ _ _ (by omega) | exact ux _ _ _ _ _ (by omega) | exact ot _ _ _ _ _ _ _)) ?_
  refine SmG.nil ?_
  refine ae ?_
  refine cX hF rfl ?_
  refine Sm.skip ?_
  refine ae ?_
  refine Sm.block ?_
  refine ab hF rfl ?_
  refine SmG.v hF rfl rfl rfl (ay rfl rfl) ?_
  refine SmG.v hF rfl rfl rfl (fr rfl rfl (by simp (disch := omega) only [go_sem, Nat.reduceEqDiff, aG, bt, aI, List.length_append, List.length_cons, List.length_nil, List.length_replicate] <;> rfl)) ?_
  refine SmG.appendOwn hF k6 rfl rfl rfl rfl rfl rfl rfl (by first | rfl | (simp; done) | (simp; omega)) (Or.inl rfl) (by (repeat' first | exact bz _ | refine bn ?_ | refine ap ?_ (aQ _ _ _) | refine ap ?_ (aQ _ _ [_]) | refine ap ?_ (bJ (by rfl)))) ?_ ?_ ?_; rotate_left; rotate_left; simp only [iY, Pk.v, V.free, rep, bne_self_eq_false, Nat.reduceAdd, Nat.reduceBNe, Nat.reduceBEq, Nat.reduceEqDiff, reduceIte, Bool.false_eq_true]
  rotate_left
  ·simp only [List.length_map, List.length_append, List.length_cons, List.length_nil, List.length_replicate]; omega
  ·simp only [List.length_map, List.length_append, List.length_cons, List.length_nil, List.length_replicate]; omega
  refine SmG.v hF rfl rfl rfl (aZ rfl rfl) ?_
  refine SmG.nil ?_
  refine am ?_
  refine ae ?_
  exact ⟨⟨j + 1, by omega⟩, by show z - (j + 1) < z - j; omega, by exact cL (by first | (simp [leE, look, bp] <;> omega) | (simp [leE, look, bp, hrow] <;> omega)) (by simp only [leH, look, rep, reduceIte, Nat.reduceEqDiff, List.set_cons_zero, List.set_cons_succ, hrow, and_self, and_true, and_false, false_and, if_true, if_false] <;> (repeat' first | rfl | constructor)) (by first | exact Nat.le_refl _ | (dsimp only; omega))⟩
 ·obtain rfl : j = z := by omega
  refine Sm.seq ?_
  refine Sm.seq ?_
  refine ab hF rfl ?_
  refine SmG.v hF rfl rfl rfl (ay rfl rfl) ?_
  refine SmG.v hF rfl rfl rfl (gH rfl rfl (by simp (disch := omega) only [go_sem, Nat.reduceEqDiff, aG, bt, aI, List.length_append, List.length_cons, List.length_nil, List.length_replicate] <;> rfl)) ?_
  refine SmG.v hF rfl rfl rfl (aC rfl rfl rfl (by first | exact iy _ _ _ _ _ (ci _ (by omega)) | exact da _ _ _ _ _ _ _)) ?_
  refine SmG.v hF rfl rfl rfl (aC rfl rfl rfl (by first | exact tf _ _ _ _ _ (by omega) (by omega) | exact oq _ _ _ _ _ _ _ (by omega))) ?_
  refine SmG.v hF rfl rfl rfl (aC rfl rfl rfl (by first | exact uv _ _ _ _ _ (by omega) | exact ux _ _ _ _ _ (by omega) | exact ot _ _ _ _ _ _ _)) ?_
  refine SmG.nil ?_
  refine ae ?_
  refine bB hF rfl ?_
  refine Sm.exit ?_
  simp only [dl, gz, reduceIte, reduceCtorEq]
  refine Sm.seq ?_
  refine ab hF rfl ?_
  refine SmG.v hF rfl rfl rfl (ay rfl rfl) ?_
  refine SmG.v hF rfl rfl rfl (gH rfl rfl (by simp (disch := omega) only [go_sem, Nat.reduceEqDiff, aG, bt, aI, List.length_append, List.length_cons, List.length_nil, List.length_replicate] <;> rfl)) ?_
  refine SmG.v hF rfl rfl rfl (lG rfl rfl (by first | exact ez rfl rfl (ur _ (by omega)) | (simp (disch := omega) only [go_sem, bt, aI, List.length_append, List.length_cons, List.length_nil, List.length_replicate] <;> rfl))) ?_
  refine SmG.v hF rfl rfl rfl (aC rfl rfl rfl (by first | exact lH _ _ _ _ _ (ur _ (by omega)) | exact jA _ _ _ _ _ _ _)) ?_
  refine SmG.v hF rfl rfl rfl (aZ rfl rfl) ?_
  refine SmG.nil ?_
  refine ae ?_
  refine Sm.seq ?_
  refine Sm.seq ?_
  refine ab hF rfl ?_
  refine SmG.v hF rfl rfl rfl (aZ rfl rfl) ?_
  refine SmG.nil ?_
  refine ae ?_
  refine Sm.block ?_
  refine Sm.loop (ι := {i : Nat // i ≤ 8}) (fun i => ⟨[(3, .sref 0 0 ((b ++ [128] ++ List.replicate j 0 ++ (Sha.lenBytes b.length).take i.1).map aI).length), (4, .d (.v (.int .u64 ((8 * b.length : Nat) : Int)))), (5, .d (.v (.int .i64 i.1)))], [(0, dB 1 ((b ++ [128] ++ List.replicate j 0 ++ (Sha.lenBytes b.length).take i.1).map aI))], 1⟩) (fun i => 8 - i.1) (⟨0, by omega⟩) ?_ ?_
  ·exact cL (by first | (simp [leE, look, bp] <;> omega) | (simp [leE, look, bp, List.take_zero, List.append_nil] <;> omega)) (by simp only [leH, look, rep, reduceIte, Nat.reduceEqDiff, List.set_cons_zero, List.set_cons_succ, List.take_zero, List.append_nil, and_self, and_true, and_false, false_and, if_true, if_false] <;> (repeat' first | rfl | constructor)) (by first | exact Nat.le_refl _ | (dsimp only; omega))
  rintro ⟨i, hi⟩
  simp only
  have hll : (Sha.lenBytes b.length).length = 8 := by simp [Sha.lenBytes]
  by_cases hlt : i < 8
  ·have hrow : List.map aI (b ++ [128] ++ List.replicate j 0 ++ (Sha.lenBytes b.length).take i) ++ [[D.v (.int .u8 ((UInt8.ofNat (8 * b.length / 2 ^ (56 - 8 * i))).toNat : Int))]] = List.map aI (b ++ [128] ++ List.replicate j 0 ++ (Sha.lenBytes b.length).take (i + 1)) := by
    show _ ++ [[d8 _]] = _
    rw [pt, List.append_assoc, xe _ _ hlt]
   refine Sm.seq ?_
   refine Sm.seq ?_
   refine ab hF rfl ?_
   refine SmG.v hF rfl rfl rfl (ay rfl rfl) ?_
   refine SmG.v hF rfl rfl rfl (aC rfl rfl rfl (by first | exact dK _ _ _ _ _ (by omega) | exact dV _ _ _ _ _ (by omega) | exact eD _ _ _ _ _ _ _)) ?_
   refine SmG.nil ?_
   refine ae ?_
   refine cX hF rfl ?_
   refine Sm.skip ?_
   refine ae ?_
   refine Sm.seq ?_
   refine Sm.block ?_
   refine ab hF rfl ?_
   refine SmG.v hF rfl rfl rfl (ay rfl rfl) ?_
   refine SmG.v hF rfl rfl rfl (ay rfl rfl) ?_
   refine SmG.v hF rfl rfl rfl (ay rfl rfl) ?_
   refine SmG.v hF rfl rfl rfl (aC rfl rfl rfl (by first | exact lH _ _ _ _ _ (ci _ (by omega)) | exact jA _ _ _ _ _ _ _)) ?_
   refine SmG.v hF rfl rfl rfl (aC rfl rfl rfl (by first | exact mB _ _ _ _ _ (ci _ (by omega)) | exact kP _ _ _ _ _ _ _)) ?_
   refine SmG.v hF rfl rfl rfl (aC rfl rfl rfl (DN _ _ _ _ (8 * b.length) (56 - 8 * i) _ (by omega) (by omega))) ?_
   refine SmG.v hF rfl rfl rfl (lG rfl rfl (uE _ Tryd.underlying147 Tryd.underlying5)) ?_
   refine SmG.v hF rfl rfl rfl (fr rfl rfl (by simp (disch := omega) only [go_sem, Nat.reduceEqDiff, aG, bt, aI, List.length_append, List.length_cons, List.length_nil, List.length_replicate] <;> rfl)) ?_
   refine SmG.appendOwn hF k6 rfl rfl rfl rfl rfl rfl rfl (by first | rfl | (simp; done) | (simp; omega)) (Or.inl rfl) (by (repeat' first | exact bz _ | refine bn ?_ | refine ap ?_ (aQ _ _ _) | refine ap ?_ (aQ _ _ [_]) | refine ap ?_ (bJ (by rfl)))) ?_ ?_ ?_; rotate_left; rotate_left; simp only [iY, Pk.v, V.free, rep, bne_self_eq_false, Nat.reduceAdd, Nat.reduceBNe, Nat.reduceBEq, Nat.reduceEqDiff, reduceIte, Bool.false_eq_true]
   rotate_left
   ·simp only [List.length_map, List.length_append, List.length_cons, List.length_nil, List.length_replicate, List.length_take]; omega
   ·simp only [List.length_map, List.length_append, List.length_cons, List.length_nil, List.length_replicate, List.length_take]; omega
   refine SmG.v hF rfl rfl rfl (aZ rfl rfl) ?_
   refine SmG.nil ?_
   refine am ?_
   refine ae ?_
   refine ab hF rfl ?_
   refine SmG.v hF rfl rfl rfl (ay rfl rfl) ?_
   refine SmG.v hF rfl rfl rfl (aC rfl rfl rfl (by first | exact iy _ _ _ _ _ (ci _ (by omega)) | exact da _ _ _ _ _ _ _)) ?_
   refine SmG.v hF rfl rfl rfl (aZ rfl rfl) ?_
   refine SmG.nil ?_
   refine ae ?_
   exact ⟨⟨i + 1, by omega⟩, by show 8 - (i + 1) < 8 - i; omega, by exact cL (by first | (simp [leE, look, bp] <;> omega) | (simp [leE, look, bp, hrow] <;> omega)) (by simp only [leH, look, rep, reduceIte, Nat.reduceEqDiff, List.set_cons_zero, List.set_cons_succ, hrow, and_self, and_true, and_false, false_and, if_true, if_false] <;> (repeat' first | rfl | constructor)) (by first | exact Nat.le_refl _ | (dsimp only; omega))⟩
  ·obtain rfl : i = 8 := by omega
   refine Sm.seq ?_
   refine Sm.seq ?_
   refine ab hF rfl ?_
   refine SmG.v hF rfl rfl rfl (ay rfl rfl) ?_
   refine SmG.v hF rfl rfl rfl (aC rfl rfl rfl (by first | exact dK _ _ _ _ _ (by omega) | exact dV _ _ _ _ _ (by omega) | exact eD _ _ _ _ _ _ _)) ?_
   refine SmG.nil ?_
   refine ae ?_
   refine bB hF rfl ?_
   refine Sm.freeze (l := 0) _ rfl ?_
   simp only [Pk.v, k7, fu, iF,  reduceIte, Nat.reduceAdd, Nat.zero_add, List.length_map, List.length_append, Nat.le_refl, true_and, and_self, if_true, Nat.reduceEqDiff, true_and]
   refine Sm.exit ?_
   simp only [dl, gz, reduceIte, reduceCtorEq]
   refine Sm.seq ?_
   refine ab hF rfl ?_
   refine SmG.v hF rfl rfl rfl (ay rfl rfl) ?_
   refine SmG.v hF rfl rfl rfl (aZ rfl rfl) ?_
   refine SmG.nil ?_
   refine ae ?_
   refine Sm.ret ?_
   refine ⟨_, rfl, ?_⟩; dsimp only
   rw [List.take_of_length_le (by omega), ← hpad]; exact D.le.refl _
theorem ww (all : List UInt8) (j : Nat) : List.drop (64 * j) (List.map aI (List.take (64 * j + 64) all)) = List.map aI ((all.drop (64 * j)).take 64) := by
 rw [← List.map_drop, List.drop_take]; congr 2; omega
theorem zh (S : Sha.S8) (k : Nat) (h : k ≤ 32) : ((Sha.out S).take k ++ List.replicate (32 - k) 0).length = 32 := by
 simp [Sha.out_length]; omega
theorem np (b : List UInt8) (hb : b.length ≤ 1000000) (G : Nat → Option D) : ak Tryd.prog G 52 [bt b] (dt (Sha.sum b)) := by
 have hmod := Sha.padded_mod b
 have hplen := Sha.padded_length b
 have hz : Sha.zeros b.length < 64 := by unfold Sha.zeros; omega
 have hS : Sha.sum b = Sha.out (Sha.over (Sha.padded b) ((Sha.padded b).length / 64)) := rfl
 refine ak.of Tryd.func52 rfl Tryd.ntmps52 (by simp) ?_; intro F hF h0 hT; simp only [List.zipIdx_cons, List.zipIdx_nil, List.map_cons, List.map_nil, Nat.zero_add, Nat.reduceAdd]
 refine Sm.seq ?_
 refine ab hF rfl ?_
 refine SmG.new hF rfl rfl rfl (aO rfl jp) ?_
 refine SmG.nil ?_
 refine ae ?_
 refine Sm.seq ?_
 refine ab hF rfl ?_
 refine SmG.v hF rfl rfl rfl (ay rfl rfl) ?_
 refine SmG.call hF rfl rfl (by kernel_rfl) rfl rfl rfl (xI b hb G) ?_
 refine SmG.v hF rfl rfl rfl (aZ rfl rfl) ?_
 refine SmG.nil ?_
 refine ae ?_
 refine Sm.seq ?_
 refine ab hF rfl ?_
 refine SmG.call hF rfl rfl (by kernel_rfl) rfl rfl rfl (zq G) ?_
 refine SmG.new hF rfl rfl rfl (aO rfl r5) ?_
 refine SmG.store hF rfl rfl rfl rfl rfl (by simp (disch := omega) only [go_sem, Nat.reduceEqDiff, aG, aN, dt] <;> rfl) ?_
 refine SmG.nil ?_
 refine ae ?_
 refine Sm.seq ?_
 refine Sm.seq ?_
 refine ab hF rfl ?_
 refine SmG.v hF rfl rfl rfl (aZ rfl rfl) ?_
 refine SmG.nil ?_
 refine ae ?_
 refine Sm.block ?_
 generalize Sha.padded b = all at hmod hplen hS ⊢
 generalize hm : all.length / 64 = m at hmod hS
 refine Sm.loop (ι := {j : Nat // j ≤ m}) (fun j => ⟨[(2, .ref 0 0 0), (3, .d (bt all)), (4, .ref 1 0 0), (5, .d (.v (.int .i64 ((64 * j.1 : Nat) : Int))))], [(1, dW 8 (Sha.over all j.1).list), (0, dB 32 [aJ (List.replicate 32 0)])], 2⟩) (fun j => m - j.1) (⟨0, by omega⟩) ?_ ?_
 ·exact cL (by first | (simp [leE, look, bp] <;> omega) | (simp [leE, look, bp, true_and] <;> omega)) (by simp only [leH, look, rep, reduceIte, Nat.reduceEqDiff, List.set_cons_zero, List.set_cons_succ, true_and, and_self, and_true, and_false, false_and, if_true, if_false] <;> (repeat' first | rfl | constructor)) (by first | exact Nat.le_refl _ | (dsimp only; omega))
 rintro ⟨j, hj⟩
 simp only
 by_cases hlt : j < m
 ·have c1 := zI (Sha.over all j) ((all.drop (64 * j)).take 64) (by rw [List.length_take, List.length_drop]; omega) G
  have hcm := ww all j
  have hle : 64 * j ≤ 64 * j + 64 := by omega
  have hle2 : 64 * j + 64 ≤ all.length := by omega
  have hcast : (((64 * j : Nat) : Int) + 64).toNat = 64 * j + 64 := by omega
  have hov : Sha.over all (j + 1) = Sha.after (Sha.over all j) ((all.drop (64 * j)).take 64) := rfl
  have hl8 : (Sha.over all j).list.length = 8 := rfl
  refine Sm.seq ?_
  refine Sm.seq ?_
  refine ab hF rfl ?_
  refine SmG.v hF rfl rfl rfl (ay rfl rfl) ?_
  refine SmG.v hF rfl rfl rfl (ay rfl rfl) ?_
  refine SmG.v hF rfl rfl rfl (gH rfl rfl (by simp (disch := omega) only [go_sem, Nat.reduceEqDiff, aG, bt, hcm, hcast, hle, hle2, gn, hl8] <;> rfl)) ?_
  refine SmG.v hF rfl rfl rfl (aC rfl rfl rfl (by first | exact dK _ _ _ _ _ (by omega) | exact dV _ _ _ _ _ (by omega) | exact eD _ _ _ _ _ _ _)) ?_
  refine SmG.nil ?_
  refine ae ?_
  refine cX hF rfl ?_
  refine Sm.skip ?_
  refine ae ?_
  refine Sm.seq ?_
  refine Sm.block ?_
  refine aX hF (by kernel_rfl) rfl 7 (by kernel_rfl) (by kernel_rfl) ?_
  simp only [List.take_succ_cons, List.take_zero, List.take_nil]
  refine ag.v hF rfl rfl rfl (bg rfl rfl (by simp (disch := omega) only [go_sem, Nat.reduceEqDiff, aG, bt, hcm, hcast, hle, hle2, gn, hl8] <;> rfl)) ?_
  refine ag.v hF rfl rfl rfl (ay rfl rfl) ?_
  refine ag.v hF rfl rfl rfl (ay rfl rfl) ?_
  refine ag.v hF rfl rfl rfl (ay rfl rfl) ?_
  refine ag.v hF rfl rfl rfl (aC rfl rfl rfl (by first | exact iy _ _ _ _ _ (ci _ (by omega)) | exact da _ _ _ _ _ _ _)) ?_
  refine ag.v hF rfl rfl rfl (dM rfl rfl rfl rfl rfl (by simp (disch := omega) only [go_sem, Nat.reduceEqDiff, aG, bt, hcm, hcast, hle, hle2, gn, hl8] <;> rfl)) ?_
  refine ag.c hF rfl rfl (by kernel_rfl) rfl rfl rfl (c1) ?_
  refine ag.last ⟨rfl, ?_⟩
  simp only [List.drop_succ_cons, List.drop_zero, List.drop_nil, List.nil_append, List.cons_append]
  refine SmG.store hF rfl rfl rfl rfl rfl (by simp (disch := omega) only [go_sem, Nat.reduceEqDiff, aG, bt, hcm, hcast, hle, hle2, gn, hl8] <;> rfl) ?_
  refine SmG.nil ?_
  refine am ?_
  refine ae ?_
  refine ab hF rfl ?_
  refine SmG.v hF rfl rfl rfl (ay rfl rfl) ?_
  refine SmG.v hF rfl rfl rfl (aC rfl rfl rfl (by first | exact iy _ _ _ _ _ (ci _ (by omega)) | exact da _ _ _ _ _ _ _)) ?_
  refine SmG.v hF rfl rfl rfl (aZ rfl rfl) ?_
  refine SmG.nil ?_
  refine ae ?_
  exact ⟨⟨j + 1, by omega⟩, by show m - (j + 1) < m - j; omega, by exact cL (by first | (simp [leE, look, bp] <;> omega) | (simp [leE, look, bp, hov] <;> omega)) (by simp only [leH, look, rep, reduceIte, Nat.reduceEqDiff, List.set_cons_zero, List.set_cons_succ, hov, and_self, and_true, and_false, false_and, if_true, if_false] <;> (repeat' first | rfl | constructor)) (by first | exact Nat.le_refl _ | (dsimp only; omega))⟩
 ·obtain rfl : j = m := by omega
  generalize Sha.over all j = S at hS ⊢
  refine Sm.seq ?_
  refine Sm.seq ?_
  refine ab hF rfl ?_
  refine SmG.v hF rfl rfl rfl (ay rfl rfl) ?_
  refine SmG.v hF rfl rfl rfl (ay rfl rfl) ?_
  refine SmG.v hF rfl rfl rfl (gH rfl rfl (by simp (disch := omega) only [go_sem, Nat.reduceEqDiff, aG, bt] <;> rfl)) ?_
  refine SmG.v hF rfl rfl rfl (aC rfl rfl rfl (by first | exact dK _ _ _ _ _ (by omega) | exact dV _ _ _ _ _ (by omega) | exact eD _ _ _ _ _ _ _)) ?_
  refine SmG.nil ?_
  refine ae ?_
  refine bB hF rfl ?_
  refine Sm.exit ?_
  simp only [dl, gz, reduceIte, reduceCtorEq]
  refine Sm.seq ?_
  refine ab hF rfl ?_
  refine SmG.v hF rfl rfl rfl (io rfl Tryd.underlying47 rfl Ag) ?_
  refine SmG.new hF rfl rfl rfl (aO rfl jp) ?_
  refine SmG.store hF rfl rfl rfl rfl rfl (by simp (disch := omega) only [go_sem, Nat.reduceEqDiff, aG, bt] <;> rfl) ?_
  refine SmG.nil ?_
  refine ae ?_
  refine Sm.seq ?_
  refine Sm.seq ?_
  refine ab hF rfl ?_
  refine SmG.v hF rfl rfl rfl (aZ rfl rfl) ?_
  refine SmG.nil ?_
  refine ae ?_
  refine Sm.block ?_
  refine Sm.loop (ι := {k : Nat // k ≤ 32}) (fun k => ⟨[(2, .ref 0 0 0), (4, .ref 1 0 0), (6, .ref 2 0 0), (7, .d (.v (.int .i64 k.1)))], [(2, dB 32 [aJ ((Sha.out S).take k.1 ++ List.replicate (32 - k.1) 0)]), (1, dW 8 S.list), (0, dB 32 [aJ (List.replicate 32 0)])], 3⟩) (fun k => 32 - k.1) (⟨0, by omega⟩) ?_ ?_
  ·exact cL (by first | (simp [leE, look, bp] <;> omega) | (simp [leE, look, bp, List.take_zero, List.nil_append] <;> omega)) (by simp only [leH, look, rep, reduceIte, Nat.reduceEqDiff, List.set_cons_zero, List.set_cons_succ, List.take_zero, List.nil_append, and_self, and_true, and_false, false_and, if_true, if_false] <;> (repeat' first | rfl | constructor)) (by first | exact Nat.le_refl _ | (dsimp only; omega))
  rintro ⟨k, hk⟩
  simp only
  have hl8 : S.list.length = 8 := rfl
  by_cases hlt : k < 32
  ·have hg := ir S.list (k / 4) (by omega)
   have hset := Sha.out_set S k hlt
   have hsh : ∀ (x : UInt32) (n : Nat), (Sha.shr x n).toNat = x.toNat / 2 ^ n := fun x n => Nat.mod_eq_of_lt (Nat.lt_of_le_of_lt (Nat.div_le_self _ _) x.toNat_lt)
   generalize S.list.getD (k / 4) 0 = x at hg hset
   have hcast : ((k : Int) / 4).toNat = k / 4 := by omega
   have hst : (List.map V.d (aJ ((Sha.out S).take k ++ List.replicate (32 - k) 0))).set k (.d (.v (.int .u8 ((UInt8.ofNat (Sha.shr x (24 - 8 * (k % 4))).toNat).toNat : Int)))) = List.map V.d (aJ ((Sha.out S).take (k + 1) ++ List.replicate (32 - (k + 1)) 0)) := by
    rw [← hset, hsh]
    simp only [aJ, List.map_set, d8]
   refine Sm.seq ?_
   refine Sm.seq ?_
   refine ab hF rfl ?_
   refine SmG.v hF rfl rfl rfl (ay rfl rfl) ?_
   refine SmG.v hF rfl rfl rfl (aC rfl rfl rfl (by first | exact dK _ _ _ _ _ (by omega) | exact dV _ _ _ _ _ (by omega) | exact eD _ _ _ _ _ _ _)) ?_
   refine SmG.nil ?_
   refine ae ?_
   refine cX hF rfl ?_
   refine Sm.skip ?_
   refine ae ?_
   refine Sm.seq ?_
   refine Sm.block ?_
   refine ab hF rfl ?_
   refine SmG.v hF rfl rfl rfl (ay rfl rfl) ?_
   refine SmG.v hF rfl rfl rfl (ay rfl rfl) ?_
   refine SmG.v hF rfl rfl rfl (aC rfl rfl rfl (by first | exact zP _ _ _ _ (by omega) (by omega) | exact sO _ _ _ _ _ _ _ (by omega))) ?_
   refine SmG.v hF rfl rfl rfl (aB rfl rfl rfl (by simp (disch := omega) only [go_sem, Nat.reduceEqDiff, aG, aN, hg, hcast, d8, hl8] <;> rfl)) ?_
   refine SmG.v hF rfl rfl rfl (bg rfl rfl (by simp (disch := omega) only [go_sem, Nat.reduceEqDiff, aG, aN, hg, hcast, d8, hl8] <;> rfl)) ?_
   refine SmG.v hF rfl rfl rfl (ay rfl rfl) ?_
   refine SmG.v hF rfl rfl rfl (aC rfl rfl rfl (by first | exact tf _ _ _ _ _ (by omega) (by omega) | exact oq _ _ _ _ _ _ _ (by omega))) ?_
   refine SmG.v hF rfl rfl rfl (aC rfl rfl rfl (by first | exact lH _ _ _ _ _ (ci _ (by omega)) | exact jA _ _ _ _ _ _ _)) ?_
   refine SmG.v hF rfl rfl rfl (aC rfl rfl rfl (by first | exact mB _ _ _ _ _ (ci _ (by omega)) | exact kP _ _ _ _ _ _ _)) ?_
   refine SmG.v hF rfl rfl rfl (aC rfl rfl rfl (tg _ _ _ _ (24 - 8 * (k % 4)) _ (by omega) (by omega) x)) ?_
   refine SmG.v hF rfl rfl rfl (lG rfl rfl (uE _ Tryd.underlying68 Tryd.underlying5)) ?_
   refine SmG.v hF rfl rfl rfl (aB rfl rfl rfl (by simp (disch := omega) only [go_sem, Nat.reduceEqDiff, aG, aN, hg, hcast, d8, hl8] <;> rfl)) ?_
   refine SmG.store hF rfl rfl rfl rfl rfl (by simp (disch := omega) only [go_sem, Nat.reduceEqDiff, aG, aN, hg, hcast, d8, hl8] <;> rfl) ?_
   refine SmG.nil ?_
   refine am ?_
   refine ae ?_
   refine ab hF rfl ?_
   refine SmG.v hF rfl rfl rfl (ay rfl rfl) ?_
   refine SmG.v hF rfl rfl rfl (aC rfl rfl rfl (by first | exact iy _ _ _ _ _ (ci _ (by omega)) | exact da _ _ _ _ _ _ _)) ?_
   refine SmG.v hF rfl rfl rfl (aZ rfl rfl) ?_
   refine SmG.nil ?_
   refine ae ?_
   exact ⟨⟨k + 1, by omega⟩, by show 32 - (k + 1) < 32 - k; omega, by exact cL (by first | (simp [leE, look, bp] <;> omega) | (simp [leE, look, bp, hst] <;> omega)) (by simp only [leH, look, rep, reduceIte, Nat.reduceEqDiff, List.set_cons_zero, List.set_cons_succ, hst, and_self, and_true, and_false, false_and, if_true, if_false] <;> (repeat' first | rfl | constructor)) (by first | exact Nat.le_refl _ | (dsimp only; omega))⟩
  ·obtain rfl : k = 32 := by omega
   have hll : (aJ ((Sha.out S).take 32 ++ List.replicate (32 - 32) 0)).length = 32 := by rw [aJ, List.length_map, zh S 32 (by omega)]
   refine Sm.seq ?_
   refine Sm.seq ?_
   refine ab hF rfl ?_
   refine SmG.v hF rfl rfl rfl (ay rfl rfl) ?_
   refine SmG.v hF rfl rfl rfl (aC rfl rfl rfl (by first | exact dK _ _ _ _ _ (by omega) | exact dV _ _ _ _ _ (by omega) | exact eD _ _ _ _ _ _ _)) ?_
   refine SmG.nil ?_
   refine ae ?_
   refine bB hF rfl ?_
   refine Sm.exit ?_
   simp only [dl, gz, reduceIte, reduceCtorEq]
   refine Sm.seq ?_
   refine ab hF rfl ?_
   refine SmG.v hF rfl rfl rfl (bg rfl rfl (by simp (disch := omega) only [go_sem, Nat.reduceEqDiff, aG, hll] <;> rfl)) ?_
   refine SmG.store hF rfl rfl rfl rfl rfl (by simp (disch := omega) only [go_sem, Nat.reduceEqDiff, aG, hll] <;> rfl) ?_
   refine SmG.nil ?_
   refine ae ?_
   refine Sm.ret ?_
   refine il rfl rfl (by simp (disch := omega) only [go_sem, Nat.reduceEqDiff, aG, hll] <;> rfl) ?_
   rw [hS, List.take_of_length_le (by rw [Sha.out_length]; omega), List.append_nil]
   exact D.le.refl _
end
section
open Go.RowKit
set_option maxRecDepth 100000
theorem sQ : ((1 : Nat) = 0) = False := by simp
theorem Ah {α : Type} {f : α → List D} {l : List α} (z : List D) (h : 0 < l.length) : List.map f l ≠ [] := by intro e; rw [List.map_eq_nil_iff] at e; subst e; simp at h
theorem rB (l : List UInt8) : (aJ l).map (fun d => [d]) = l.map aI := by simp [aJ, aI, Function.comp_def]
theorem pd (b : List UInt8) (hb : b.length ≤ 900000) (G : Nat → Option D) : ak Tryd.prog G 56 [bt b] (bt (0 :: b)) := by
 refine ak.of Tryd.func56 rfl Tryd.ntmps56 (by simp) ?_; intro F hF h0 hT; simp only [List.zipIdx_cons, List.zipIdx_nil, List.map_cons, List.map_nil, Nat.zero_add, Nat.reduceAdd]
 refine Sm.seq ?_
 refine ab hF rfl ?_
 refine SmG.v hF rfl rfl rfl (aZ rfl rfl) ?_
 refine SmG.nil ?_
 refine ae ?_
 refine Sm.seq ?_
 refine ab hF rfl ?_
 refine SmG.v hF rfl rfl rfl (fr rfl rfl (by simp (disch := omega) only [go_sem, Nat.reduceEqDiff, aG, bt, aI, d8] <;> rfl)) ?_
 refine SmG.v hF rfl rfl rfl (ay rfl rfl) ?_
 refine SmG.append hF k6 rfl rfl rfl rfl rfl rfl (Or.inl rfl) (Or.inl rfl) (by simp only [List.length_map, List.length_cons, List.length_nil]; omega) (by simp only [List.length_map, List.length_cons, List.length_nil]; omega) ?_
 refine SmG.v hF rfl rfl rfl (aZ rfl rfl) ?_
 refine SmG.nil ?_
 refine ae ?_
 refine Sm.ret ?_
 refine ⟨_, rfl, ?_⟩; dsimp only
 exact D.le.refl _
theorem pf (a b : List UInt8) (ha : a.length = 32) (hb : b.length = 32) (G : Nat → Option D) : ak Tryd.prog G 58 [dt a, dt b] (bt (1 :: (a ++ b))) := by
 have h1 := rB a
 have h2 := rB b
 refine ak.of Tryd.func58 rfl Tryd.ntmps58 (by simp) ?_; intro F hF h0 hT; simp only [List.zipIdx_cons, List.zipIdx_nil, List.map_cons, List.map_nil, Nat.zero_add, Nat.reduceAdd]
 refine Sm.seq ?_
 refine ab hF rfl ?_
 refine SmG.new hF rfl rfl rfl (mR rfl rfl (by simp (disch := omega) only [go_sem, Nat.reduceEqDiff, aG, bt, aI, d8, dt, ha, hb] <;> rfl)) ?_
 refine SmG.new hF rfl rfl rfl (mR rfl rfl (by simp (disch := omega) only [go_sem, Nat.reduceEqDiff, aG, bt, aI, d8, dt, ha, hb] <;> rfl)) ?_
 refine SmG.v hF rfl rfl rfl (aZ rfl rfl) ?_
 refine SmG.nil ?_
 refine ae ?_
 refine Sm.seq ?_
 refine ab hF rfl ?_
 refine SmG.v hF rfl rfl rfl (fr rfl rfl (by simp (disch := omega) only [go_sem, Nat.reduceEqDiff, aG, bt, aI, d8, dt, ha, hb] <;> rfl)) ?_
 refine SmG.v hF rfl rfl rfl (dM rfl rfl rfl rfl rfl (by simp (disch := omega) only [go_sem, Nat.reduceEqDiff, aG, bt, aI, d8, dt, ha, hb] <;> rfl)) ?_
 refine SmG.freeze (l := 0) (sz := 32) [aJ a] rfl ?_
 simp only [Pk.v, k7, fu, iF,  reduceIte, Nat.reduceAdd, Nat.zero_add, List.length_map, List.length_append, Nat.le_refl, true_and, and_self, if_true, Nat.reduceEqDiff, List.getElem?_cons_zero, Nat.mul_one, Nat.one_mul, Nat.reduceLeDiff, Nat.reduceMul, h1, Nat.zero_ne_one, sQ]
 refine SmG.appendNew hF k6 rfl rfl rfl rfl rfl rfl (Or.inl rfl) rfl (Ah [] (by omega)) (by simp only [List.length_map, List.length_cons, List.length_nil]; omega) (by simp only [List.length_map, List.length_cons, List.length_nil]; omega) ?_
 refine SmG.v hF rfl rfl rfl (aZ rfl rfl) ?_
 refine SmG.nil ?_
 refine ae ?_
 refine Sm.seq ?_
 refine ab hF rfl ?_
 refine SmG.v hF rfl rfl rfl (ay rfl rfl) ?_
 refine SmG.v hF rfl rfl rfl (dM rfl rfl rfl rfl rfl (by simp (disch := omega) only [go_sem, Nat.reduceEqDiff, aG, bt, aI, d8, dt, ha, hb] <;> rfl)) ?_
 refine SmG.freeze (l := 1) (sz := 32) [aJ b] rfl ?_
 simp only [Pk.v, k7, fu, iF,  reduceIte, Nat.reduceAdd, Nat.zero_add, List.length_map, List.length_append, Nat.le_refl, true_and, and_self, if_true, Nat.reduceEqDiff, List.getElem?_cons_zero, Nat.mul_one, Nat.one_mul, Nat.reduceLeDiff, Nat.reduceMul, h2]
 refine SmG.appendOwn hF k6 rfl rfl rfl rfl rfl rfl rfl (by first | rfl | (simp; done) | (simp; omega)) (Or.inl rfl) (by (repeat' first | exact bz _ | refine bn ?_ | refine ap ?_ (aQ _ _ _) | refine ap ?_ (aQ _ _ [_]) | refine ap ?_ (bJ (by rfl)))) ?_ ?_ ?_; rotate_left; rotate_left; simp only [iY, Pk.v, V.free, rep, bne_self_eq_false, Nat.reduceAdd, Nat.reduceBNe, Nat.reduceBEq, Nat.reduceEqDiff, reduceIte, Bool.false_eq_true]
 rotate_left
 ·simp only [List.length_map, List.length_append, List.length_cons, List.length_nil]; omega
 ·simp only [List.length_map, List.length_append, List.length_cons, List.length_nil]; omega
 refine SmG.freeze (l := 2) (sz := 1) (List.map aI (1 :: (a ++ b))) (by show some (dB 1 (([aI 1] ++ List.map aI a) ++ List.map aI b)) = _; simp) ?_
 have e : 1 + a.length + b.length = a.length + b.length + 1 := by omega
 simp only [Pk.v, k7, fu, iF,  reduceIte, Nat.reduceAdd, Nat.zero_add, List.length_map, List.length_append, Nat.le_refl, true_and, and_self, if_true, Nat.reduceEqDiff, List.length_cons, List.length_nil, e]
 refine SmG.v hF rfl rfl rfl (aZ rfl rfl) ?_
 refine SmG.nil ?_
 refine ae ?_
 refine Sm.ret ?_
 refine ⟨_, rfl, ?_⟩; dsimp only
 exact D.le.refl _
theorem rG (b : List UInt8) (hb : b.length ≤ 900000) (G : Nat → Option D) : ak Tryd.prog G 29 [bt b] (dt (Sha.leaf b)) := by
 have hl := Sha.leaf_len b
 have hS : Sha.sum (0 :: b) = Sha.leaf b := rfl
 generalize Sha.leaf b = s at hl hS ⊢
 refine ak.of Tryd.func29 rfl Tryd.ntmps29 (by simp) ?_; intro F hF h0 hT; simp only [List.zipIdx_cons, List.zipIdx_nil, List.map_cons, List.map_nil, Nat.zero_add, Nat.reduceAdd]
 refine Sm.seq ?_
 refine ab hF rfl ?_
 refine SmG.new hF rfl rfl rfl (aO rfl jp) ?_
 refine SmG.nil ?_
 refine ae ?_
 refine Sm.seq ?_
 refine ab hF rfl ?_
 refine SmG.v hF rfl rfl rfl (ay rfl rfl) ?_
 refine SmG.call hF rfl rfl (by kernel_rfl) rfl rfl rfl (pd b hb G) ?_
 refine SmG.call hF rfl rfl (by kernel_rfl) rfl rfl rfl (np (0 :: b) (by simp; omega) G) ?_
 refine SmG.store hF rfl rfl rfl rfl rfl (by simp (disch := omega) only [go_sem, Nat.reduceEqDiff, aG, dt, bG, hl, hS] <;> rfl) ?_
 refine SmG.nil ?_
 refine ae ?_
 refine Sm.ret ?_
 refine il rfl rfl (by simp (disch := omega) only [go_sem, Nat.reduceEqDiff, aG, bG, hl, hS] <;> rfl) ?_
 exact D.le.refl _
theorem wO (a b : List UInt8) (ha : a.length = 32) (hb : b.length = 32) (G : Nat → Option D) : ak Tryd.prog G 63 [dt a, dt b] (dt (Sha.pair a b)) := by
 have hl := Sha.pair_len a b
 have hS : Sha.sum (1 :: (a ++ b)) = Sha.pair a b := rfl
 generalize Sha.pair a b = s at hl hS ⊢
 refine ak.of Tryd.func63 rfl Tryd.ntmps63 (by simp) ?_; intro F hF h0 hT; simp only [List.zipIdx_cons, List.zipIdx_nil, List.map_cons, List.map_nil, Nat.zero_add, Nat.reduceAdd]
 refine Sm.seq ?_
 refine ab hF rfl ?_
 refine SmG.new hF rfl rfl rfl (mR rfl rfl (by simp (disch := omega) only [go_sem, Nat.reduceEqDiff, aG, dt, bG, ha, hb, hl, hS] <;> rfl)) ?_
 refine SmG.new hF rfl rfl rfl (mR rfl rfl (by simp (disch := omega) only [go_sem, Nat.reduceEqDiff, aG, dt, bG, ha, hb, hl, hS] <;> rfl)) ?_
 refine SmG.new hF rfl rfl rfl (aO rfl jp) ?_
 refine SmG.nil ?_
 refine ae ?_
 refine Sm.seq ?_
 refine ab hF rfl ?_
 refine SmG.v hF rfl rfl rfl (bg rfl rfl (by simp (disch := omega) only [go_sem, Nat.reduceEqDiff, aG, dt, bG, ha, hb, hl, hS] <;> rfl)) ?_
 refine SmG.v hF rfl rfl rfl (bg rfl rfl (by simp (disch := omega) only [go_sem, Nat.reduceEqDiff, aG, dt, bG, ha, hb, hl, hS] <;> rfl)) ?_
 refine SmG.call hF rfl rfl (by kernel_rfl) rfl rfl rfl (pf a b ha hb G) ?_
 refine SmG.call hF rfl rfl (by kernel_rfl) rfl rfl rfl (np (1 :: (a ++ b)) (by simp; omega) G) ?_
 refine SmG.store hF rfl rfl rfl rfl rfl (by simp (disch := omega) only [go_sem, Nat.reduceEqDiff, aG, dt, bG, ha, hb, hl, hS] <;> rfl) ?_
 refine SmG.nil ?_
 refine ae ?_
 refine Sm.ret ?_
 refine il rfl rfl (by simp (disch := omega) only [go_sem, Nat.reduceEqDiff, aG, bG, hl, hS] <;> rfl) ?_
 exact D.le.refl _
theorem tX (G : Nat → Option D) : ak Tryd.prog G 52 [.list 0 [] true] (dt (Sha.sum [])) := (np [] (by simp) G).args fun _ => bV vX (wY [])
theorem xa (G : Nat → Option D) : ∀ (n : Nat) (l : List (List UInt8)), l.length = n → Fit l → ak Tryd.prog G 34 [fj l] (dt (Sha.root l)) := by
 intro n
 induction n using Nat.strongRecOn with
 | _ n ih =>
 intro l hn hF'
 have hRl := Sha.root_len l
 have hfl := hF'.1
 by_cases h2 : 2 ≤ l.length
 ·have hm1 := Sha.cut_lt h2
  have hmp := Sha.cut_pos l.length
  have k0 := yE l.length h2 (by omega) G
  have k1 := ih (Sha.cut l.length) (by omega) (l.take (Sha.cut l.length)) (by rw [List.length_take]; omega) (pY hF' _)
  have k2 := ih (l.length - Sha.cut l.length) (by omega) (l.drop (Sha.cut l.length)) (by rw [List.length_drop]) (pT hF' _)
  have k4 := wO _ _ (Sha.root_len (l.take (Sha.cut l.length))) (Sha.root_len (l.drop (Sha.cut l.length))) G
  rw [← Sha.root_cut h2] at k4
  generalize Sha.root (l.take (Sha.cut l.length)) = A at k1 k4
  generalize Sha.root (l.drop (Sha.cut l.length)) = B at k2 k4
  generalize Sha.cut l.length = m at hm1 hmp k0 k1 k2
  generalize Sha.root l = R at k4 hRl ⊢
  have hml : m ≤ l.length := by omega
  refine ak.of Tryd.func34 rfl Tryd.ntmps34 (by simp) ?_; intro F hF h0 hT; simp only [List.zipIdx_cons, List.zipIdx_nil, List.map_cons, List.map_nil, Nat.zero_add, Nat.reduceAdd]
  refine Sm.seq ?_
  refine ab hF rfl ?_
  refine SmG.new hF rfl rfl rfl (aO rfl jp) ?_
  refine SmG.nil ?_
  refine ae ?_
  refine Sm.seq ?_
  refine Sm.seq ?_
  refine ab hF rfl ?_
  refine SmG.v hF rfl rfl rfl (ay rfl rfl) ?_
  refine SmG.v hF rfl rfl rfl (gH rfl rfl (by simp (disch := omega) only [go_sem, Nat.reduceEqDiff, aG, fj, dt, bG, hRl, hml, Nat.zero_le, gn, js] <;> rfl)) ?_
  refine SmG.v hF rfl rfl rfl (aC rfl rfl rfl (by first | exact mW _ _ _ _ _ (by omega) | exact mH _ _ _ _ _ (by omega) | exact kG _ _ _ _ _ _ _)) ?_
  refine SmG.nil ?_
  refine ae ?_
  refine bB hF rfl ?_
  refine Sm.skip ?_
  refine ae ?_
  refine Sm.seq ?_
  refine Sm.seq ?_
  refine ab hF rfl ?_
  refine SmG.v hF rfl rfl rfl (ay rfl rfl) ?_
  refine SmG.v hF rfl rfl rfl (gH rfl rfl (by simp (disch := omega) only [go_sem, Nat.reduceEqDiff, aG, fj, dt, bG, hRl, hml, Nat.zero_le, gn, js] <;> rfl)) ?_
  refine SmG.v hF rfl rfl rfl (aC rfl rfl rfl (by first | exact mW _ _ _ _ _ (by omega) | exact mH _ _ _ _ _ (by omega) | exact kG _ _ _ _ _ _ _)) ?_
  refine SmG.nil ?_
  refine ae ?_
  refine bB hF rfl ?_
  refine Sm.skip ?_
  refine ae ?_
  refine Sm.seq ?_
  refine ab hF rfl ?_
  refine SmG.v hF rfl rfl rfl (ay rfl rfl) ?_
  refine SmG.v hF rfl rfl rfl (gH rfl rfl (by simp (disch := omega) only [go_sem, Nat.reduceEqDiff, aG, fj, dt, bG, hRl, hml, Nat.zero_le, gn, js] <;> rfl)) ?_
  refine SmG.call hF rfl rfl (by kernel_rfl) rfl rfl rfl (k0) ?_
  refine SmG.v hF rfl rfl rfl (aZ rfl rfl) ?_
  refine SmG.nil ?_
  refine ae ?_
  refine Sm.seq ?_
  refine aX hF (by kernel_rfl) rfl 9 (by kernel_rfl) (by kernel_rfl) ?_
  simp only [List.take_succ_cons, List.take_zero, List.take_nil]
  refine ag.v hF rfl rfl rfl (ay rfl rfl) ?_
  refine ag.v hF rfl rfl rfl (ay rfl rfl) ?_
  refine ag.v hF rfl rfl rfl (dM rfl rfl rfl rfl rfl (by simp (disch := omega) only [go_sem, Nat.reduceEqDiff, aG, fj, dt, bG, hRl, hml, Nat.zero_le, gn, js] <;> rfl)) ?_
  refine ag.c hF rfl rfl (by kernel_rfl) rfl rfl rfl (k1) ?_
  refine ag.v hF rfl rfl rfl (ay rfl rfl) ?_
  refine ag.v hF rfl rfl rfl (ay rfl rfl) ?_
  refine ag.v hF rfl rfl rfl (dM rfl rfl rfl rfl rfl (by simp (disch := omega) only [go_sem, Nat.reduceEqDiff, aG, fj, dt, bG, hRl, hml, Nat.zero_le, gn, js] <;> rfl)) ?_
  refine ag.c hF rfl rfl (by kernel_rfl) rfl rfl rfl (k2) ?_
  refine ag.c hF rfl rfl (by kernel_rfl) rfl rfl rfl (k4) ?_
  refine ag.last ⟨rfl, ?_⟩
  simp only [List.drop_succ_cons, List.drop_zero, List.drop_nil, List.nil_append, List.cons_append]
  refine SmG.store hF rfl rfl rfl rfl rfl (by simp (disch := omega) only [go_sem, Nat.reduceEqDiff, aG, fj, dt, bG, hRl, hml, Nat.zero_le, gn, js] <;> rfl) ?_
  refine SmG.nil ?_
  refine ae ?_
  refine Sm.ret ?_
  refine il rfl rfl (by simp (disch := omega) only [go_sem, Nat.reduceEqDiff, aG, bG, hRl] <;> rfl) ?_
  exact D.le.refl _
 ·rcases l with _ | ⟨b, _ | ⟨c, l⟩⟩
  ·rw [Sha.root_nil] at hRl ⊢
   have k1 := tX G
   generalize Sha.sum [] = R at k1 hRl ⊢
   refine ak.of Tryd.func34 rfl Tryd.ntmps34 (by simp) ?_; intro F hF h0 hT; simp only [List.zipIdx_cons, List.zipIdx_nil, List.map_cons, List.map_nil, Nat.zero_add, Nat.reduceAdd]
   refine Sm.seq ?_
   refine ab hF rfl ?_
   refine SmG.new hF rfl rfl rfl (aO rfl jp) ?_
   refine SmG.nil ?_
   refine ae ?_
   refine Sm.seq ?_
   refine Sm.seq ?_
   refine ab hF rfl ?_
   refine SmG.v hF rfl rfl rfl (ay rfl rfl) ?_
   refine SmG.v hF rfl rfl rfl (gH rfl rfl (by simp (disch := omega) only [go_sem, Nat.reduceEqDiff, aG, fj, dt, bG, hRl] <;> rfl)) ?_
   refine SmG.v hF rfl rfl rfl (aC rfl rfl rfl (by first | exact mW _ _ _ _ _ (by omega) | exact mH _ _ _ _ _ (by omega) | exact kG _ _ _ _ _ _ _)) ?_
   refine SmG.nil ?_
   refine ae ?_
   refine cX hF rfl ?_
   refine Sm.seq ?_
   refine ab hF rfl ?_
   refine SmG.call hF rfl rfl (by kernel_rfl) rfl rfl rfl (k1) ?_
   refine SmG.store hF rfl rfl rfl rfl rfl (by simp (disch := omega) only [go_sem, Nat.reduceEqDiff, aG, fj, dt, bG, hRl] <;> rfl) ?_
   refine SmG.nil ?_
   refine ae ?_
   refine Sm.ret ?_
   simp only [dl, gz]
   refine il rfl rfl (by simp (disch := omega) only [go_sem, Nat.reduceEqDiff, aG, bG, hRl] <;> rfl) ?_
   exact D.le.refl _
  ·rw [Sha.root_one] at hRl ⊢
   have k1 := rG b (hF'.2 b (by simp)) G
   generalize Sha.leaf b = R at k1 hRl ⊢
   refine ak.of Tryd.func34 rfl Tryd.ntmps34 (by simp) ?_; intro F hF h0 hT; simp only [List.zipIdx_cons, List.zipIdx_nil, List.map_cons, List.map_nil, Nat.zero_add, Nat.reduceAdd]
   refine Sm.seq ?_
   refine ab hF rfl ?_
   refine SmG.new hF rfl rfl rfl (aO rfl jp) ?_
   refine SmG.nil ?_
   refine ae ?_
   refine Sm.seq ?_
   refine Sm.seq ?_
   refine ab hF rfl ?_
   refine SmG.v hF rfl rfl rfl (ay rfl rfl) ?_
   refine SmG.v hF rfl rfl rfl (gH rfl rfl (by simp (disch := omega) only [go_sem, Nat.reduceEqDiff, aG, fj, aT, bt, dt, bG, hRl] <;> rfl)) ?_
   refine SmG.v hF rfl rfl rfl (aC rfl rfl rfl (by first | exact mW _ _ _ _ _ (by omega) | exact mH _ _ _ _ _ (by omega) | exact kG _ _ _ _ _ _ _)) ?_
   refine SmG.nil ?_
   refine ae ?_
   refine bB hF rfl ?_
   refine Sm.skip ?_
   refine ae ?_
   refine Sm.seq ?_
   refine Sm.seq ?_
   refine ab hF rfl ?_
   refine SmG.v hF rfl rfl rfl (ay rfl rfl) ?_
   refine SmG.v hF rfl rfl rfl (gH rfl rfl (by simp (disch := omega) only [go_sem, Nat.reduceEqDiff, aG, fj, aT, bt, dt, bG, hRl] <;> rfl)) ?_
   refine SmG.v hF rfl rfl rfl (aC rfl rfl rfl (by first | exact mW _ _ _ _ _ (by omega) | exact mH _ _ _ _ _ (by omega) | exact kG _ _ _ _ _ _ _)) ?_
   refine SmG.nil ?_
   refine ae ?_
   refine cX hF rfl ?_
   refine Sm.seq ?_
   refine ab hF rfl ?_
   refine SmG.v hF rfl rfl rfl (ay rfl rfl) ?_
   refine SmG.v hF rfl rfl rfl (aB rfl rfl rfl (by simp (disch := omega) only [go_sem, Nat.reduceEqDiff, aG, fj, aT, bt, dt, bG, hRl] <;> rfl)) ?_
   refine SmG.v hF rfl rfl rfl (bg rfl rfl (by simp (disch := omega) only [go_sem, Nat.reduceEqDiff, aG, fj, aT, bt, dt, bG, hRl] <;> rfl)) ?_
   refine SmG.call hF rfl rfl (by kernel_rfl) rfl rfl rfl (k1) ?_
   refine SmG.store hF rfl rfl rfl rfl rfl (by simp (disch := omega) only [go_sem, Nat.reduceEqDiff, aG, fj, aT, bt, dt, bG, hRl] <;> rfl) ?_
   refine SmG.nil ?_
   refine ae ?_
   refine Sm.ret ?_
   simp only [dl, gz]
   refine il rfl rfl (by simp (disch := omega) only [go_sem, Nat.reduceEqDiff, aG, bG, hRl] <;> rfl) ?_
   exact D.le.refl _
  ·simp at h2
end
end Go.Proofs.YtbaccmkhjmmlnaaDoor
namespace Go.Proofs.YtbaccmkhjmmlnaaDoor.Sha
end Go.Proofs.YtbaccmkhjmmlnaaDoor.Sha
namespace Go.Proofs.YtbaccmkhjmmlnaaDoor
end Go.Proofs.YtbaccmkhjmmlnaaDoor
namespace Go.Proofs.YtbaccmkhjmmlnaaDoor.Sha
def zO (s : Bool) (q h : List UInt8) : List UInt8 := 1 :: (if s then q ++ h else h ++ q)
def chain (x : List UInt8) : List (Bool × List UInt8) → List (List UInt8)
 | [] => [x]
 | (s, q) :: r => x :: chain (zO s q (sum x)) r
def top (x : List UInt8) : List (Bool × List UInt8) → List UInt8
 | [] => sum x
 | (s, q) :: r => top (zO s q (sum x)) r
def Met (a b : List (List UInt8)) : Prop := ∃ x ∈ a, ∃ y ∈ b, x ≠ y ∧ sum x = sum y
end Go.Proofs.YtbaccmkhjmmlnaaDoor.Sha
namespace Go.Proofs.YtbaccmkhjmmlnaaDoor
section
open Go.RowKit
def elems (xs : List (List UInt8)) : List (List UInt8) := (xs.take 9).map (·.take 40)
set_option maxRecDepth 100000
end
section
open Go.RowKit
set_option maxRecDepth 100000
end
section
namespace Sha
end Sha
end
section
open Go.RowKit
set_option maxRecDepth 100000
end
section
open Go.RowKit
set_option maxRecDepth 100000
end
section
open Go.RowKit
set_option maxRecDepth 100000
end
section
open Go.RowKit
set_option maxRecDepth 100000
end
section
open Go.RowKit
set_option maxRecDepth 100000
end
section
open Go.RowKit
set_option maxRecDepth 100000
end
section
open Go.RowKit
set_option maxRecDepth 100000
end
section
open Go.RowKit
set_option maxRecDepth 100000
section
open Classical
noncomputable def kr (l : List (List UInt8)) : Option (List UInt8) := if Fit l then some (Sha.root l) else none
theorem rQ {l : List (List UInt8)} {r : List UInt8} (h : kr l = some r) : ak Tryd.prog HG 32 [.list 1 (l.map aT) false] (.agg 32 (aJ r)) := by
 unfold kr at h; split at h
 ·cases h; exact zX l (by assumption)
 ·cases h
noncomputable def gy (l : List (List UInt8)) (i : Int) : Option (List (List UInt8) × Int) :=
 if Fit l then (if i < 0 ∨ (l.length : Int) ≤ i then some ([], 1) else some (Sha.proof l i.toNat, 0)) else none
theorem ak.res {P : Program} {G : Nat → Option D} {f : FuncId} {ds : List D} {r r' : D} (h : ak P G f ds r) (hr : r.le r') : ak P G f ds r' := by
 intro C w vs hG hk ha
 refine Calls.mono (h C w vs hG hk ha) ?_
 rintro e w' ⟨v, C', h1, h2, h3⟩
 exact ⟨v, C', h1, h2, hr _ _ h3⟩
theorem ri {l : List (List UInt8)} {i : Int} {r : List (List UInt8) × Int} (h : gy l i = some r) : ak Tryd.prog HG 39 [.list 1 (l.map aT) false, .v (.int .i64 i)] (.tup [.list 32 (r.1.map aJ) false, .v (.int .i64 r.2)]) := by
 unfold gy at h; split at h
 ·rename_i hF
  split at h
  ·rename_i hi
   cases h
   exact (uV l i hi hF.1).res (tG ⟨a8 _ _ _, D.le.refl _, trivial⟩)
  ·cases h
   obtain ⟨n, rfl⟩ : ∃ n : Nat, i = n := ⟨i.toNat, by omega⟩
   exact zu l n hF (by omega)
 ·cases h
noncomputable def jI (root : List UInt8) (n i : Int) (b : List UInt8) (p : List (List UInt8)) : Option Bool :=
 if root.length = 32 ∧ b.length ≤ 900000 ∧ Len32 p ∧ p.length ≤ 1000000 ∧ n ≤ 4294967296 ∧ (-9223372036854775808 ≤ n) ∧ (-9223372036854775808 ≤ i ∧ i ≤ 9223372036854775807) then some (Sha.check root n i b p) else none
theorem rk {root : List UInt8} {n i : Int} {b : List UInt8} {p : List (List UInt8)} {r : Bool} (h : jI root n i b p = some r) : ak Tryd.prog HG 46 [.agg 32 (aJ root), .v (.int .i64 n), .v (.int .i64 i), .list 1 (b.map aI) false, .list 32 (p.map aJ) false] (.v (.bool r)) := by
 unfold jI at h; split at h
 ·rename_i hc
  obtain ⟨h1, h2, h3, h4, h5, h6, h7⟩ := hc
  cases h; exact yX root b n i p h1 h2 h3 h4 h5
 ·cases h
noncomputable def gb (l : List UInt8) : Option (List UInt8) := if l.length ≤ 1000000 then some (Sha.sum l) else none
theorem fk {l r : List UInt8} (h : gb l = some r) : ak Tryd.prog HG 52 [.list 1 (l.map aI) false] (.agg 32 (aJ r)) := by
 unfold gb at h; split at h
 ·cases h; exact np l (by assumption) HG
 ·cases h
noncomputable def fh (l : List UInt8) : Option (List UInt8) := if l.length ≤ 900000 then some (0 :: l) else none
theorem lm {l r : List UInt8} (h : fh l = some r) : ak Tryd.prog HG 56 [.list 1 (l.map aI) false] (.list 1 (r.map aI) false) := by
 unfold fh at h; split at h
 ·cases h; exact pd l (by assumption) HG
 ·cases h
noncomputable def fi (a b : List UInt8) : Option (List UInt8) := if a.length = 32 ∧ b.length = 32 then some (1 :: (a ++ b)) else none
theorem ll {a b r : List UInt8} (h : fi a b = some r) : ak Tryd.prog HG 58 [.agg 32 (aJ a), .agg 32 (aJ b)] (.list 1 (r.map aI) false) := by
 unfold fi at h; split at h
 ·rename_i hc
  cases h; exact pf a b hc.1 hc.2 HG
 ·cases h
noncomputable def gP (l : List UInt8) : Option (List UInt8) := if l.length ≤ 900000 then some (Sha.leaf l) else none
theorem ng {l r : List UInt8} (h : gP l = some r) : ak Tryd.prog HG 29 [.list 1 (l.map aI) false] (.agg 32 (aJ r)) := by
 unfold gP at h; split at h
 ·cases h; exact rG l (by assumption) HG
 ·cases h
noncomputable def eS (l : List (List UInt8)) : Option (List UInt8) := if Fit l then some (Sha.root l) else none
theorem jJ {l : List (List UInt8)} {r : List UInt8} (h : eS l = some r) : ak Tryd.prog HG 34 [.list 1 (l.map aT) false] (.agg 32 (aJ r)) := by
 unfold eS at h; split at h
 ·cases h; exact xa HG _ l rfl (by assumption)
 ·cases h
end
def gc (n : Int) : Option Int := if 2 ≤ n ∧ n ≤ 4611686018427387904 then some (Sha.cut n.toNat : Nat) else none
theorem nP {n r : Int} (h : gc n = some r) : ak Tryd.prog HG 57 [.v (.int .i64 n)] (.v (.int .i64 r)) := by
 unfold gc at h; split at h
 ·obtain ⟨n, rfl⟩ : ∃ m : Nat, n = m := ⟨n.toNat, by omega⟩
  cases h; exact yE n (by omega) (by omega) HG
 ·cases h
end
section
open Go.RowKit
set_option maxRecDepth 100000
noncomputable def eu (a0 : List Int) (a1 : Int) : Option (List Int) :=
 bif (decide (a1 < 0)) then (
  none
 ) else (
  ob (arI .i64 (a1 - 0)) fun x2 =>
  bif (decide (0 < x2)) then (
   ob (q7 x2) fun n4 =>
   some ([] : List Int)
  ) else (
   some ([] : List Int)
  )
 )
set_option maxHeartbeats 4000000 in
theorem lf {a0 : List Int} {a1 : Int} {r : List Int} (h : eu a0 a1 = some r) : eW Tryd.prog HG 87 [.z, .i a1] .one 1 (r.map (af .i64)) [] := by
 unfold eu at h
 refine eW.of Tryd.func87 rfl Tryd.ntmps87 (by simp) ?_
 intro F hF h0 hT
 show Sm F _ _ ⟨[(0, .z), (1, .i a1)], [], 0⟩
 refine sr hF ?_
 refine gv hF oA ?_
 refine sn ?_
 refine Sm.seq ?_
 refine sr hF ?_
 refine gv hF oM ?_
 refine gv hF (oB (bq)) ?_
 refine sn ?_
 refine bF hF rfl (fun hc1 => ?_) (fun hc1 => ?_)
 ·replace h := ifT hc1 h
  refine ab hF rfl ?_
  cases h
 replace h := ifF hc1 h
 refine sk ?_
 refine Sm.seq ?_
 refine sr hF ?_
 refine gv hF oM ?_
 refine gv hF oM ?_
 refine SmG.capFull hF Tryd.underlying30 rfl rfl rfl rfl rfl ?_
 refine gv hF oM ?_
 refine gv hF (oN (r9 u30)) ?_
 refine gv hF (oB (od (v := 0) rfl)) ?_
 obtain ⟨x2, hx2, h⟩ := aa h
 refine gv hF (oB (od hx2)) ?_
 refine gv hF oA ?_
 refine sn ?_
 refine sr hF ?_
 refine gv hF oM ?_
 refine gv hF (oB (jk)) ?_
 refine sn ?_
 refine aA hF rfl (fun hc3 => ?_) (fun hc3 => ?_)
 ·replace h := ifF hc3 h
  refine sk ?_
  refine sr hF ?_
  refine gv hF oM ?_
  refine gv hF oA ?_
  refine sn ?_
  refine Sm.to (kA (e := [(4, .z)]) (g := []) (m := 0)) ?_
  refine Sm.own (t := 4) 1 rfl ?_
  refine Sm.ret ?_
  obtain rfl := ac h
  exact lA 0 rfl rfl rfl
 replace h := ifT hc3 h
 refine ab hF rfl ?_
 refine gv hF oM ?_
 refine gv hF oM ?_
 refine SmG.capFull hF Tryd.underlying30 rfl rfl rfl rfl rfl ?_
 refine SmG.sliceNil hF Tryd.underlying30 sz3 rfl rfl rfl rfl rfl rfl ?_
 refine gv hF oM ?_
 obtain ⟨n4, hn4, h⟩ := aa h
 refine SmG.appendMake hF jZ Tryd.underlying3 rfl rfl rfl rfl rfl rfl (iO hn4).1 (iO hn4).2.1 (rp (iO hn4).2.2 rfl) (Nat.le_trans (iO hn4).2.2 (by decide)) ?_
 refine gv hF oM ?_
 refine gv hF (oN (r9 u30)) ?_
 refine gv hF (dM rfl rfl rfl rfl rfl (yL u30 rfl sz3)) ?_
 refine gv hF oA ?_
 refine sn ?_
 refine sr hF ?_
 refine gv hF oM ?_
 refine gv hF oA ?_
 refine sn ?_
 refine Sm.ret ?_
 obtain rfl := ac h
 exact lA 0 rfl rfl rfl
noncomputable def bX (a0 : List (List Int)) (s1 : (Int × Int)) : Option ((Int × Int) ⊕ Int) :=
 bif (decide (s1.2 < (a0.length : Int))) then (
  ob (idx a0 s1.2) fun x6 =>
  ob (arI .i64 (s1.1 + (x6.length : Int))) fun x7 =>
  bif (decide (x7 < 0)) then (
   none
  ) else (
   ob (arI .i64 (s1.2 + 1)) fun x9 =>
   some (.inl (x7, x9))
  )
 ) else (
  some (.inr s1.1)
 )
noncomputable def bY (a0 : List (List Int)) (s12 : (Int × (List Int))) : Option ((Int × (List Int)) ⊕ List Int) :=
 bif (decide (s12.1 < (a0.length : Int))) then (
  ob (idx a0 s12.1) fun x17 =>
  ob (app s12.2 x17) fun x18 =>
  ob (arI .i64 (s12.1 + 1)) fun x19 =>
  some (.inl (x19, x18))
 ) else (
  some (.inr s12.2)
 )
noncomputable def dH (a0 : List (List Int)) : Option (List Int) :=
 ob ((
  bx (bX a0) (0, 0)
  : Option Int)) fun v10 =>
 ob (eu [] v10) fun x11 =>
 ob ((
  bx (bY a0) (0, x11)
  : Option (List Int))) fun v20 =>
 some v20
set_option maxHeartbeats 4000000 in
theorem kW {a0 : List (List Int)} {r : List Int} (h : dH a0 = some r) : eW Tryd.prog HG 65 [.list 1 (a0.map (az 1 (af .i64))) false] .one 1 (r.map (af .i64)) [] := by
 unfold dH at h
 refine eW.of Tryd.func65 rfl Tryd.ntmps65 (by simp) ?_
 intro F hF h0 hT
 show Sm F _ _ ⟨[(0, .d (.list 1 (a0.map (az 1 (af .i64))) false))], [], 0⟩
 refine sr hF ?_
 refine gv hF oA ?_
 refine sn ?_
 refine sr hF ?_
 refine gv hF oA ?_
 refine sn ?_
 refine Sm.seq ?_
 obtain ⟨v10, hv10, h⟩ := aa h
 refine dE ⟨[(0, .d (.list 1 (a0.map (az 1 (af .i64))) false)), (3, .i v10)], [], 0⟩ ?_ ?_
 ·replace h := hv10
  refine sr hF ?_
  refine gv hF oM ?_
  refine gv hF (oN (bf u71)) ?_
  refine gv hF oM ?_
  refine sn ?_
  refine Sm.block ?_
  refine bi (bX a0) (fun s1 => ⟨[(0, .d (.list 1 (a0.map (az 1 (af .i64))) false)), (3, .i s1.1), (9, .d (.list 1 (a0.map (az 1 (af .i64))) false)), (10, .i (a0.length : Int)), (11, .i s1.2)], [], 0⟩) (0, 0) h (kA) ?_
  intro n2 s1 o3 h hd4
  unfold bX at h
  refine sr hF ?_
  refine gv hF (oB (bq)) ?_
  refine sn ?_
  refine Sm.seq ?_
  refine aA hF rfl (fun hc5 => ?_) (fun hc5 => ?_)
  ·replace h := ifF hc5 h
   refine Sm.exit ?_
   replace h := aE h hd4
   obtain rfl := ac h
   exact (kA)
  replace h := ifT hc5 h
  refine sk ?_
  refine Sm.seq ?_
  refine Sm.block ?_
  refine sr hF ?_
  obtain ⟨x6, hx6, h⟩ := aa h
  refine gv hF (oI (aU u71 eJ hx6)) ?_
  refine gv hF (oL (lP1 eC rfl)) ?_
  refine gv hF oA ?_
  refine sn ?_
  refine sr hF ?_
  refine gv hF oM ?_
  refine gv hF oM ?_
  refine gv hF (oN (bf u30)) ?_
  obtain ⟨x7, hx7, h⟩ := aa h
  refine gv hF (oB (aW hx7)) ?_
  refine gv hF oA ?_
  refine sn ?_
  refine sr hF ?_
  refine gv hF oM ?_
  refine gv hF (oB (bq)) ?_
  refine sn ?_
  refine bF hF rfl (fun hc8 => ?_) (fun hc8 => ?_)
  ·replace h := ifT hc8 h
   refine ab hF rfl ?_
   cases h
  replace h := ifF hc8 h
  refine Sm.skip ?_
  refine am ?_
  refine ae ?_
  refine ab hF rfl ?_
  obtain ⟨x9, hx9, h⟩ := aa h
  refine gv hF (oB (aW hx9)) ?_
  refine gv hF oM ?_
  refine SmG.nil ?_
  exact bm (be h hd4) (kA)
 refine sr hF ?_
 refine gv hF oM ?_
 obtain ⟨x11, hx11, h⟩ := aa h
 refine SmG.callO hF rfl rfl (by kernel_rfl) rfl rfl rfl (lf hx11) ?_
 refine gv hF oA ?_
 refine sn ?_
 refine Sm.seq ?_
 obtain ⟨v20, hv20, h⟩ := aa h
 refine ba ⟨[(6, .sref 0 0 (v20.map (af .i64)).length)], [(0, dB 1 (v20.map (af .i64)))], 1⟩ ?_ ?_
 ·refine Sm.seq ?_
  refine ab hF rfl ?_
  refine gv hF oM ?_
  refine gv hF oA ?_
  refine sn ?_
  refine Sm.ret ?_
  obtain rfl := ac h
  exact lA 0 rfl rfl rfl
 replace h := hv20
 refine sr hF ?_
 refine gv hF oM ?_
 refine gv hF (oN (bf u71)) ?_
 refine gv hF oM ?_
 refine sn ?_
 refine Sm.block ?_
 refine bi (bY a0) (fun s12 => ⟨[(6, .sref 0 0 (s12.2.map (af .i64)).length), (25, .d (.list 1 (a0.map (az 1 (af .i64))) false)), (26, .i (a0.length : Int)), (27, .i s12.1)], [(0, dB 1 (s12.2.map (af .i64)))], 1⟩) (0, x11) h (kA) ?_
 intro n13 s12 o14 h hd15
 unfold bY at h
 refine sr hF ?_
 refine gv hF (oB (bq)) ?_
 refine sn ?_
 refine Sm.seq ?_
 refine aA hF rfl (fun hc16 => ?_) (fun hc16 => ?_)
 ·replace h := ifF hc16 h
  refine Sm.exit ?_
  replace h := aE h hd15
  obtain rfl := ac h
  exact (kA)
 replace h := ifT hc16 h
 refine sk ?_
 refine Sm.seq ?_
 refine Sm.block ?_
 refine sr hF ?_
 obtain ⟨x17, hx17, h⟩ := aa h
 refine gv hF (oI (aU u71 eJ hx17)) ?_
 refine gv hF (oL (lP1 eC rfl)) ?_
 refine gv hF oA ?_
 refine sn ?_
 refine ab hF rfl ?_
 refine gv hF oM ?_
 refine gv hF oM ?_
 obtain ⟨x18, hx18, h⟩ := aa h
 refine aY hF jZ rfl (ys := x17) (row := (af .i64)) rfl rfl rfl rfl rfl rfl rfl rfl (.inl rfl) hx18 (by (repeat' first | exact bz _ | refine bn ?_ | refine ap ?_ (aQ _ _ _) | refine ap ?_ (aQ _ _ [_]) | refine ap ?_ (bJ (by rfl)))) ?_
 refine gv hF oA ?_
 refine SmG.nil ?_
 refine am ?_
 refine ae ?_
 refine ab hF rfl ?_
 obtain ⟨x19, hx19, h⟩ := aa h
 refine gv hF (oB (aW hx19)) ?_
 refine gv hF oM ?_
 refine SmG.nil ?_
 exact bm (be h hd15) (kA)
noncomputable def dG (a0 : List UInt8) (a1 : Int) : Option (List UInt8) :=
 bif (decide (a1 < 0)) then (
  none
 ) else (
  ob (arI .i64 (a1 - 0)) fun x2 =>
  bif (decide (0 < x2)) then (
   ob (q7 x2) fun n4 =>
   some ([] : List UInt8)
  ) else (
   some ([] : List UInt8)
  )
 )
set_option maxHeartbeats 4000000 in
theorem kN {a0 : List UInt8} {a1 : Int} {r : List UInt8} (h : dG a0 a1 = some r) : eW Tryd.prog HG 64 [.z, .i a1] .one 1 (r.map aI) [] := by
 unfold dG at h
 refine eW.of Tryd.func64 rfl Tryd.ntmps64 (by simp) ?_
 intro F hF h0 hT
 show Sm F _ _ ⟨[(0, .z), (1, .i a1)], [], 0⟩
 refine sr hF ?_
 refine gv hF oA ?_
 refine sn ?_
 refine Sm.seq ?_
 refine sr hF ?_
 refine gv hF oM ?_
 refine gv hF (oB (bq)) ?_
 refine sn ?_
 refine bF hF rfl (fun hc1 => ?_) (fun hc1 => ?_)
 ·replace h := ifT hc1 h
  refine ab hF rfl ?_
  cases h
 replace h := ifF hc1 h
 refine sk ?_
 refine Sm.seq ?_
 refine sr hF ?_
 refine gv hF oM ?_
 refine gv hF oM ?_
 refine SmG.capFull hF Tryd.underlying24 rfl rfl rfl rfl rfl ?_
 refine gv hF oM ?_
 refine gv hF (oN (r9 u24)) ?_
 refine gv hF (oB (od (v := 0) rfl)) ?_
 obtain ⟨x2, hx2, h⟩ := aa h
 refine gv hF (oB (od hx2)) ?_
 refine gv hF oA ?_
 refine sn ?_
 refine sr hF ?_
 refine gv hF oM ?_
 refine gv hF (oB (jk)) ?_
 refine sn ?_
 refine aA hF rfl (fun hc3 => ?_) (fun hc3 => ?_)
 ·replace h := ifF hc3 h
  refine sk ?_
  refine sr hF ?_
  refine gv hF oM ?_
  refine gv hF oA ?_
  refine sn ?_
  refine Sm.to (kA (e := [(4, .z)]) (g := []) (m := 0)) ?_
  refine Sm.own (t := 4) 1 rfl ?_
  refine Sm.ret ?_
  obtain rfl := ac h
  exact lA 0 rfl rfl rfl
 replace h := ifT hc3 h
 refine ab hF rfl ?_
 refine gv hF oM ?_
 refine gv hF oM ?_
 refine SmG.capFull hF Tryd.underlying24 rfl rfl rfl rfl rfl ?_
 refine SmG.sliceNil hF Tryd.underlying24 sz5 rfl rfl rfl rfl rfl rfl ?_
 refine gv hF oM ?_
 obtain ⟨n4, hn4, h⟩ := aa h
 refine SmG.appendMake hF oh Tryd.underlying3 rfl rfl rfl rfl rfl rfl (iO hn4).1 (iO hn4).2.1 (rp (iO hn4).2.2 rfl) (Nat.le_trans (iO hn4).2.2 (by decide)) ?_
 refine gv hF oM ?_
 refine gv hF (oN (r9 u24)) ?_
 refine gv hF (dM rfl rfl rfl rfl rfl (yL u24 rfl sz5)) ?_
 refine gv hF oA ?_
 refine sn ?_
 refine sr hF ?_
 refine gv hF oM ?_
 refine gv hF oA ?_
 refine sn ?_
 refine Sm.ret ?_
 obtain rfl := ac h
 exact lA 0 rfl rfl rfl
noncomputable def bP (a0 : List (List UInt8)) (s1 : (Int × Int)) : Option ((Int × Int) ⊕ Int) :=
 bif (decide (s1.2 < (a0.length : Int))) then (
  ob (idx a0 s1.2) fun x6 =>
  ob (arI .i64 (s1.1 + (x6.length : Int))) fun x7 =>
  bif (decide (x7 < 0)) then (
   none
  ) else (
   ob (arI .i64 (s1.2 + 1)) fun x9 =>
   some (.inl (x7, x9))
  )
 ) else (
  some (.inr s1.1)
 )
noncomputable def bO (a0 : List (List UInt8)) (s12 : (Int × (List UInt8))) : Option ((Int × (List UInt8)) ⊕ List UInt8) :=
 bif (decide (s12.1 < (a0.length : Int))) then (
  ob (idx a0 s12.1) fun x17 =>
  ob (app s12.2 x17) fun x18 =>
  ob (arI .i64 (s12.1 + 1)) fun x19 =>
  some (.inl (x19, x18))
 ) else (
  some (.inr s12.2)
 )
noncomputable def c8 (a0 : List (List UInt8)) : Option (List UInt8) :=
 ob ((
  bx (bP a0) (0, 0)
  : Option Int)) fun v10 =>
 ob (dG [] v10) fun x11 =>
 ob ((
  bx (bO a0) (0, x11)
  : Option (List UInt8))) fun v20 =>
 some v20
set_option maxHeartbeats 4000000 in
theorem jU {a0 : List (List UInt8)} {r : List UInt8} (h : c8 a0 = some r) : eW Tryd.prog HG 36 [.list 1 (a0.map aT) false] .one 1 (r.map aI) [] := by
 unfold c8 at h
 refine eW.of Tryd.func36 rfl Tryd.ntmps36 (by simp) ?_
 intro F hF h0 hT
 show Sm F _ _ ⟨[(0, .d (.list 1 (a0.map aT) false))], [], 0⟩
 refine sr hF ?_
 refine gv hF oA ?_
 refine sn ?_
 refine sr hF ?_
 refine gv hF oA ?_
 refine sn ?_
 refine Sm.seq ?_
 obtain ⟨v10, hv10, h⟩ := aa h
 refine dE ⟨[(0, .d (.list 1 (a0.map aT) false)), (3, .i v10)], [], 0⟩ ?_ ?_
 ·replace h := hv10
  refine sr hF ?_
  refine gv hF oM ?_
  refine gv hF (oN (bf u61)) ?_
  refine gv hF oM ?_
  refine sn ?_
  refine Sm.block ?_
  refine bi (bP a0) (fun s1 => ⟨[(0, .d (.list 1 (a0.map aT) false)), (3, .i s1.1), (9, .d (.list 1 (a0.map aT) false)), (10, .i (a0.length : Int)), (11, .i s1.2)], [], 0⟩) (0, 0) h (kA) ?_
  intro n2 s1 o3 h hd4
  unfold bP at h
  refine sr hF ?_
  refine gv hF (oB (bq)) ?_
  refine sn ?_
  refine Sm.seq ?_
  refine aA hF rfl (fun hc5 => ?_) (fun hc5 => ?_)
  ·replace h := ifF hc5 h
   refine Sm.exit ?_
   replace h := aE h hd4
   obtain rfl := ac h
   exact (kA)
  replace h := ifT hc5 h
  refine sk ?_
  refine Sm.seq ?_
  refine Sm.block ?_
  refine sr hF ?_
  obtain ⟨x6, hx6, h⟩ := aa h
  refine gv hF (oI (aU u61 cO hx6)) ?_
  refine gv hF (oL (lP1 e7 rfl)) ?_
  refine gv hF oA ?_
  refine sn ?_
  refine sr hF ?_
  refine gv hF oM ?_
  refine gv hF oM ?_
  refine gv hF (oN (bf u24)) ?_
  obtain ⟨x7, hx7, h⟩ := aa h
  refine gv hF (oB (aW hx7)) ?_
  refine gv hF oA ?_
  refine sn ?_
  refine sr hF ?_
  refine gv hF oM ?_
  refine gv hF (oB (bq)) ?_
  refine sn ?_
  refine bF hF rfl (fun hc8 => ?_) (fun hc8 => ?_)
  ·replace h := ifT hc8 h
   refine ab hF rfl ?_
   cases h
  replace h := ifF hc8 h
  refine Sm.skip ?_
  refine am ?_
  refine ae ?_
  refine ab hF rfl ?_
  obtain ⟨x9, hx9, h⟩ := aa h
  refine gv hF (oB (aW hx9)) ?_
  refine gv hF oM ?_
  refine SmG.nil ?_
  exact bm (be h hd4) (kA)
 refine sr hF ?_
 refine gv hF oM ?_
 obtain ⟨x11, hx11, h⟩ := aa h
 refine SmG.callO hF rfl rfl (by kernel_rfl) rfl rfl rfl (kN hx11) ?_
 refine gv hF oA ?_
 refine sn ?_
 refine Sm.seq ?_
 obtain ⟨v20, hv20, h⟩ := aa h
 refine ba ⟨[(6, .sref 0 0 (v20.map aI).length)], [(0, dB 1 (v20.map aI))], 1⟩ ?_ ?_
 ·refine Sm.seq ?_
  refine ab hF rfl ?_
  refine gv hF oM ?_
  refine gv hF oA ?_
  refine sn ?_
  refine Sm.ret ?_
  obtain rfl := ac h
  exact lA 0 rfl rfl rfl
 replace h := hv20
 refine sr hF ?_
 refine gv hF oM ?_
 refine gv hF (oN (bf u61)) ?_
 refine gv hF oM ?_
 refine sn ?_
 refine Sm.block ?_
 refine bi (bO a0) (fun s12 => ⟨[(6, .sref 0 0 (s12.2.map aI).length), (25, .d (.list 1 (a0.map aT) false)), (26, .i (a0.length : Int)), (27, .i s12.1)], [(0, dB 1 (s12.2.map aI))], 1⟩) (0, x11) h (kA) ?_
 intro n13 s12 o14 h hd15
 unfold bO at h
 refine sr hF ?_
 refine gv hF (oB (bq)) ?_
 refine sn ?_
 refine Sm.seq ?_
 refine aA hF rfl (fun hc16 => ?_) (fun hc16 => ?_)
 ·replace h := ifF hc16 h
  refine Sm.exit ?_
  replace h := aE h hd15
  obtain rfl := ac h
  exact (kA)
 replace h := ifT hc16 h
 refine sk ?_
 refine Sm.seq ?_
 refine Sm.block ?_
 refine sr hF ?_
 obtain ⟨x17, hx17, h⟩ := aa h
 refine gv hF (oI (aU u61 cO hx17)) ?_
 refine gv hF (oL (lP1 e7 rfl)) ?_
 refine gv hF oA ?_
 refine sn ?_
 refine ab hF rfl ?_
 refine gv hF oM ?_
 refine gv hF oM ?_
 obtain ⟨x18, hx18, h⟩ := aa h
 refine aY hF oh rfl (ys := x17) (row := aI) rfl rfl rfl rfl rfl rfl rfl rfl (.inl rfl) hx18 (by (repeat' first | exact bz _ | refine bn ?_ | refine ap ?_ (aQ _ _ _) | refine ap ?_ (aQ _ _ [_]) | refine ap ?_ (bJ (by rfl)))) ?_
 refine gv hF oA ?_
 refine SmG.nil ?_
 refine am ?_
 refine ae ?_
 refine ab hF rfl ?_
 obtain ⟨x19, hx19, h⟩ := aa h
 refine gv hF (oB (aW hx19)) ?_
 refine gv hF oM ?_
 refine SmG.nil ?_
 exact bm (be h hd15) (kA)
end
section
open Go.RowKit
set_option maxRecDepth 100000
structure Ans where
 version : Int
 index : Int
 count : Int
 pos : Ps
 entry : Rs
 proof : List (List UInt8)
def Ans.row (x : Ans) : List D := [.v (.int .i64 x.version), .v (.int .i64 x.index), .v (.int .i64 x.count), .list 1 (x.pos.at_.map (af .i64)) false, .list 1 (x.pos.h0.map (af .i64)) false, .list 1 (x.pos.h1.map (af .i64)) false, .v (.int .i64 x.pos.rights), .v (.int .i64 x.pos.side), .v (.int .i64 x.entry.out), .v (.int .i64 x.entry.n), .list 32 (x.proof.map aJ) false]
structure Pvd where
 l : List (List UInt8)
 e : Int
def Pvd.row (x : Pvd) : List D := [.list 32 (x.l.map aJ) false, .v (.int .i64 x.e)]
noncomputable def eY (a0 : GRaw) (x1 : Brd) (x2 : Int) (v5 : Int) (s9 : (Int × (List (List Stp)))) : Option ((Int × (List (List Stp))) ⊕ List (List Stp)) :=
 bif (decide (s9.1 < (a0.k0.length : Int))) then (
  bif (decide (s9.1 < 4)) then (
   ob (idx a0.k0 s9.1) fun x15 =>
   ob (eM x15 (x1.next.length : Int) v5 x2) fun x16 =>
   ob (app s9.2 [x16]) fun x17 =>
   ob (arI .i64 (s9.1 + 1)) fun x18 =>
   some (.inl (x18, x17))
  ) else (
   some (.inr s9.2)
  )
 ) else (
  some (.inr s9.2)
 )
noncomputable def eN (a0 : GRaw) (x1 : Brd) (x2 : Int) (v5 : Int) (s25 : (Int × (List (List Stp)))) : Option ((Int × (List (List Stp))) ⊕ List (List Stp)) :=
 bif (decide (s25.1 < (a0.k1.length : Int))) then (
  bif (decide (s25.1 < 4)) then (
   ob (idx a0.k1 s25.1) fun x31 =>
   ob (eM x31 (x1.next.length : Int) v5 x2) fun x32 =>
   ob (app s25.2 [x32]) fun x33 =>
   ob (arI .i64 (s25.1 + 1)) fun x34 =>
   some (.inl (x34, x33))
  ) else (
   some (.inr s25.2)
  )
 ) else (
  some (.inr s25.2)
 )
noncomputable def gY (s41 : Int) : Option (Int ⊕ List Knd) :=
 none
noncomputable def eT (a0 : GRaw) (x1 : Brd) (v5 : Int) (s60 : (Int × (List Cls))) : Option ((Int × (List Cls)) ⊕ List Cls) :=
 bif (decide (s60.1 < (a0.c.length : Int))) then (
  bif (decide (s60.1 < 3)) then (
   ob (idx a0.c s60.1) fun x66 =>
   ob (cN (x66.1.toNat : Int) 3) fun x67 =>
   ob (arI .i64 (1 + x67)) fun x68 =>
   ob (idx a0.c s60.1) fun x69 =>
   ob (jB .u8 (x69.1.toNat : Int) 4) fun x70 =>
   ob (arI .i64 x70) fun x71 =>
   ob (cN x71 3) fun x72 =>
   ob (arI .i64 (1 + x72)) fun x73 =>
   ob ((
    bif (x68 != 3) then (
     ob (idx a0.c s60.1) fun x75 =>
     ob (cN (x75.2.1.toNat : Int) v5) fun x76 =>
     some x76
    ) else (
     some 0
    )
    : Option Int)) fun v77 =>
   ob ((
    bif (x68 == 2) then (
     ob (idx a0.c s60.1) fun x79 =>
     ob (cN (x79.2.2.toNat : Int) x1.cells) fun x80 =>
     some x80
    ) else (
     some 0
    )
    : Option Int)) fun v81 =>
   ob ((
    bif (x68 == 3) then (
     ob (idx a0.c s60.1) fun x83 =>
     ob (cN (x83.2.2.toNat : Int) 3) fun x84 =>
     some x84
    ) else (
     some v81
    )
    : Option Int)) fun v85 =>
   ob (app s60.2 [(⟨x68, v77, v85, x73⟩ : Cls)]) fun x86 =>
   ob (arI .i64 (s60.1 + 1)) fun x87 =>
   some (.inl (x87, x86))
  ) else (
   some (.inr s60.2)
  )
 ) else (
  some (.inr s60.2)
 )
noncomputable def fL (a0 : GRaw) : Option Gm :=
 ob (fM a0.w a0.h a0.cut) fun x1 =>
 ob (cN (a0.f0.toNat : Int) 3) fun x2 =>
 ob (cN (a0.f1.toNat : Int) 4) fun x3 =>
 ob ((
  bif (decide (0 < (a0.k1.length : Int))) then (
   some 2
  ) else (
   some 1
  )
  : Option Int)) fun v5 =>
 ob ((
  bif (decide (0 < v5)) then (
   ob ((
    ob (idx ([([97] : List UInt8), ([98, 101, 101] : List UInt8)]) 0) fun x7 =>
    ob (kj .u8 (a0.f2.toNat : Int) 0) fun x8 =>
    ob ((
     bx (eY a0 x1 x2 v5) (0, ([] : List (List Stp)))
     : Option (List (List Stp)))) fun v19 =>
    ob (app ([] : List Knd) [(⟨x7, v19, ((dX .u8 x8 1) == 1)⟩ : Knd)]) fun x20 =>
    some x20
    : Option (List Knd))) fun v21 =>
   bif (decide (1 < v5)) then (
    ob ((
     ob (idx ([([97] : List UInt8), ([98, 101, 101] : List UInt8)]) 1) fun x23 =>
     ob (kj .u8 (a0.f2.toNat : Int) 1) fun x24 =>
     ob ((
      bx (eN a0 x1 x2 v5) (0, ([] : List (List Stp)))
      : Option (List (List Stp)))) fun v35 =>
     ob (app v21 [(⟨x23, v35, ((dX .u8 x24 1) == 1)⟩ : Knd)]) fun x36 =>
     some x36
     : Option (List Knd))) fun v37 =>
    bif (decide (2 < v5)) then (
     ob (idx ([([97] : List UInt8), ([98, 101, 101] : List UInt8)]) 2) fun x39 =>
     ob (kj .u8 (a0.f2.toNat : Int) 2) fun x40 =>
     bx (gY) 0
    ) else (
     some v37
    )
   ) else (
    some v21
   )
  ) else (
   some []
  )
  : Option (List Knd))) fun v45 =>
 ob ((
  ob (cN (a0.f3.toNat : Int) 4) fun x46 =>
  bif (x46 == 3) then (
   ob (jB .u8 (a0.f3.toNat : Int) 4) fun x48 =>
   ob (arI .i64 x48) fun x49 =>
   ob (cN x49 3) fun x50 =>
   ob (arI .i64 (1 + x50)) fun x51 =>
   some x51
  ) else (
   some 3
  )
  : Option Int)) fun v52 =>
 ob ((
  ob (cN (a0.f4.toNat : Int) 4) fun x53 =>
  bif (x53 == 3) then (
   ob (jB .u8 (a0.f4.toNat : Int) 4) fun x55 =>
   ob (arI .i64 x55) fun x56 =>
   ob (cN x56 3) fun x57 =>
   ob (arI .i64 (1 + x57)) fun x58 =>
   some x58
  ) else (
   some 2
  )
  : Option Int)) fun v59 =>
 ob ((
  bx (eT a0 x1 v5) (0, ([] : List Cls))
  : Option (List Cls))) fun v88 =>
 some (⟨x1, v45, x2, (x3 == 3), v88, v52, v59⟩ : Gm)
set_option maxHeartbeats 4000000 in
theorem nn {a0 : GRaw} {r : Gm} (h : fL a0 = some r) : ak Tryd.prog HG 24 [.agg 12 (GRaw.row a0)] (.agg 9 (Gm.row r)) := by
 unfold fL at h
 refine ak.of Tryd.func24 rfl Tryd.ntmps24 (by simp) ?_
 intro F hF h0 hT
 show Sm F _ _ ⟨[(0, .d (.agg 12 (GRaw.row a0)))], [], 0⟩
 refine sr hF ?_
 refine bZ hF gk ?_
 refine SmG.new hF rfl rfl rfl (aO rfl AE) ?_
 refine sn ?_
 refine Sm.seq ?_
 refine aX hF (by kernel_rfl) rfl 19 (by kernel_rfl) (by kernel_rfl) ?_
 simp only [List.take_succ_cons, List.take_zero, List.take_nil]
 refine hv hF (oF (aj zV rfl)) ?_
 refine hv hF (oL (lP1 ag5 rfl)) ?_
 refine hv hF (oF (aj AB rfl)) ?_
 refine hv hF (oL (lP1 ag5 rfl)) ?_
 refine hv hF (oF (aj Am rfl)) ?_
 refine hv hF (oL (lP1 ag5 rfl)) ?_
 obtain ⟨x1, hx1, h⟩ := aa h
 refine ag.c hF rfl rfl (by kernel_rfl) rfl rfl rfl (ny hx1) ?_
 refine hv hF (oF (aj jL rfl)) ?_
 refine hv hF (oI (cB u27 sz5 rfl rfl)) ?_
 refine hv hF (oL (lP1 ag5 rfl)) ?_
 refine hv hF (oC (ez u5 u3 (dS _))) ?_
 obtain ⟨x2, hx2, h⟩ := aa h
 refine hv hF (oB (bU hx2)) ?_
 refine hv hF (oF (aj jL rfl)) ?_
 refine hv hF (oI (cB u27 sz5 rfl rfl)) ?_
 refine hv hF (oL (lP1 ag5 rfl)) ?_
 obtain ⟨x3, hx3, h⟩ := aa h
 refine hv hF (oB (bU hx3)) ?_
 refine hv hF (oB (cM)) ?_
 refine hv hF (x := .d (.agg 9 [.i x1.cells, .list 1 (x1.next.map (az 1 (af .i64))) false, .l x1.turn, .z, .i x2, .v (.bool (x3 == 3)), .z, .i 3, .i 2])) (bh rfl u77 (by kernel_rfl) rfl (br (n := 9) Af He rfl rfl)) ?_
 refine ag.new hF rfl rfl rfl rfl AE ?_
 refine ag.last ⟨rfl, ?_⟩
 simp only [List.drop_succ_cons, List.drop_zero, List.drop_nil, List.nil_append, List.cons_append]
 refine SmG.store hF rfl rfl rfl rfl rfl (bk (ys := [.i x1.cells, .d (.list 1 (x1.next.map (az 1 (af .i64))) false), .l x1.turn, .z, .i x2, .d (.v (.bool (x3 == 3))), .z, .i 3, .i 2]) (r := [.i 0, .z, .z, .z, .i 0, .d (.v (.bool false)), .z, .i 0, .i 0]) (rows' := [[.i x1.cells, .d (.list 1 (x1.next.map (az 1 (af .i64))) false), .l x1.turn, .z, .i x2, .d (.v (.bool (x3 == 3))), .z, .i 3, .i 2]]) rfl rfl rfl qK rfl rfl rfl rfl rfl) ?_
 refine sn ?_
 refine sr hF ?_
 refine gv hF oA ?_
 refine sn ?_
 refine Sm.seq ?_
 obtain ⟨v5, hv5, h⟩ := aa h
 refine dE ⟨[(1, .d (.ptr 12 (GRaw.row a0))), (2, .ref 0 0 0), (3, .ref 1 0 0), (4, .i v5)], [(1, ⟨9, [[.i x1.cells, .d (.list 1 (x1.next.map (az 1 (af .i64))) false), .l x1.turn, .z, .i x2, .d (.v (.bool (x3 == 3))), .z, .i 3, .i 2]]⟩), (0, ⟨9, [[.i 0, .z, .z, .z, .i 0, .d (.v (.bool false)), .z, .i 0, .i 0]]⟩)], 2⟩ ?_ ?_
 ·replace h := hv5
  refine sr hF ?_
  refine gv hF (oF (aj mI rfl)) ?_
  refine gv hF (oI (cB u25 cO rfl rfl)) ?_
  refine gv hF (oL (lP1 e7 rfl)) ?_
  refine gv hF (oN (bf u24)) ?_
  refine gv hF (oB (jk)) ?_
  refine sn ?_
  refine aA hF rfl (fun hc4 => ?_) (fun hc4 => ?_)
  ·replace h := ifF hc4 h
   refine Sm.skip ?_
   obtain rfl := ac h
   exact (kA)
  replace h := ifT hc4 h
  refine ab hF rfl ?_
  refine gv hF oA ?_
  refine SmG.nil ?_
  obtain rfl := ac h
  exact (kA)
 refine Sm.seq ?_
 obtain ⟨v45, hv45, h⟩ := aa h
 refine ba ⟨[(1, .d (.ptr 12 (GRaw.row a0))), (2, .ref 0 0 0), (3, .ref 1 0 0), (4, .i v5)], [(1, ⟨9, [[.i x1.cells, .d (.list 1 (x1.next.map (az 1 (af .i64))) false), .l x1.turn, .d (.list 3 (v45.map Knd.row) false), .i x2, .d (.v (.bool (x3 == 3))), .z, .i 3, .i 2]]⟩), (0, ⟨9, [[.i 0, .z, .z, .z, .i 0, .d (.v (.bool false)), .z, .i 0, .i 0]]⟩)], 7⟩ ?_ ?_
 ·refine Sm.seq ?_
  obtain ⟨v52, hv52, h⟩ := aa h
  refine dE ⟨[(1, .d (.ptr 12 (GRaw.row a0))), (2, .ref 0 0 0), (3, .ref 1 0 0), (4, .i v5)], [(1, ⟨9, [[.i x1.cells, .d (.list 1 (x1.next.map (az 1 (af .i64))) false), .l x1.turn, .d (.list 3 (v45.map Knd.row) false), .i x2, .d (.v (.bool (x3 == 3))), .z, .i v52, .i 2]]⟩), (0, ⟨9, [[.i 0, .z, .z, .z, .i 0, .d (.v (.bool false)), .z, .i 0, .i 0]]⟩)], 7⟩ ?_ ?_
  ·replace h := hv52
   refine sr hF ?_
   refine gv hF (oF (aj jL rfl)) ?_
   refine gv hF (oI (cB u27 sz5 rfl rfl)) ?_
   refine gv hF (oL (lP1 ag5 rfl)) ?_
   obtain ⟨x46, hx46, h⟩ := aa h
   refine gv hF (oB (bU hx46)) ?_
   refine gv hF (oB (cM)) ?_
   refine sn ?_
   refine aA hF rfl (fun hc47 => ?_) (fun hc47 => ?_)
   ·replace h := ifF hc47 h
    refine Sm.skip ?_
    obtain rfl := ac h
    exact (kA)
   replace h := ifT hc47 h
   refine ab hF rfl ?_
   refine gv hF (oF (aj jL rfl)) ?_
   refine gv hF (oI (cB u27 sz5 rfl rfl)) ?_
   refine gv hF (oL (lP1 ag5 rfl)) ?_
   obtain ⟨x48, hx48, h⟩ := aa h
   refine gv hF (oB (kK hx48)) ?_
   obtain ⟨x49, hx49, h⟩ := aa h
   refine gv hF (oC (kc u5 u3 hx49)) ?_
   obtain ⟨x50, hx50, h⟩ := aa h
   refine gv hF (oB (bU hx50)) ?_
   obtain ⟨x51, hx51, h⟩ := aa h
   refine gv hF (oB (aW hx51)) ?_
   refine gv hF (oF (aF Aq)) ?_
   refine SmG.store hF rfl rfl rfl rfl rfl (cU (rows' := [[.i x1.cells, .d (.list 1 (x1.next.map (az 1 (af .i64))) false), .l x1.turn, .d (.list 3 (v45.map Knd.row) false), .i x2, .d (.v (.bool (x3 == 3))), .z, .i x51, .i 2]]) rfl rfl rfl sz3 rfl rfl rfl) ?_
   refine SmG.nil ?_
   obtain rfl := ac h
   exact (kA)
  refine Sm.seq ?_
  obtain ⟨v59, hv59, h⟩ := aa h
  refine dE ⟨[(1, .d (.ptr 12 (GRaw.row a0))), (2, .ref 0 0 0), (3, .ref 1 0 0), (4, .i v5)], [(1, ⟨9, [[.i x1.cells, .d (.list 1 (x1.next.map (az 1 (af .i64))) false), .l x1.turn, .d (.list 3 (v45.map Knd.row) false), .i x2, .d (.v (.bool (x3 == 3))), .z, .i v52, .i v59]]⟩), (0, ⟨9, [[.i 0, .z, .z, .z, .i 0, .d (.v (.bool false)), .z, .i 0, .i 0]]⟩)], 7⟩ ?_ ?_
  ·replace h := hv59
   refine sr hF ?_
   refine gv hF (oF (aj jL rfl)) ?_
   refine gv hF (oI (cB u27 sz5 rfl rfl)) ?_
   refine gv hF (oL (lP1 ag5 rfl)) ?_
   obtain ⟨x53, hx53, h⟩ := aa h
   refine gv hF (oB (bU hx53)) ?_
   refine gv hF (oB (cM)) ?_
   refine sn ?_
   refine aA hF rfl (fun hc54 => ?_) (fun hc54 => ?_)
   ·replace h := ifF hc54 h
    refine Sm.skip ?_
    obtain rfl := ac h
    exact (kA)
   replace h := ifT hc54 h
   refine ab hF rfl ?_
   refine gv hF (oF (aj jL rfl)) ?_
   refine gv hF (oI (cB u27 sz5 rfl rfl)) ?_
   refine gv hF (oL (lP1 ag5 rfl)) ?_
   obtain ⟨x55, hx55, h⟩ := aa h
   refine gv hF (oB (kK hx55)) ?_
   obtain ⟨x56, hx56, h⟩ := aa h
   refine gv hF (oC (kc u5 u3 hx56)) ?_
   obtain ⟨x57, hx57, h⟩ := aa h
   refine gv hF (oB (bU hx57)) ?_
   obtain ⟨x58, hx58, h⟩ := aa h
   refine gv hF (oB (aW hx58)) ?_
   refine gv hF (oF (aF AG)) ?_
   refine SmG.store hF rfl rfl rfl rfl rfl (cU (rows' := [[.i x1.cells, .d (.list 1 (x1.next.map (az 1 (af .i64))) false), .l x1.turn, .d (.list 3 (v45.map Knd.row) false), .i x2, .d (.v (.bool (x3 == 3))), .z, .i v52, .i x58]]) rfl rfl rfl sz3 rfl rfl rfl) ?_
   refine SmG.nil ?_
   obtain rfl := ac h
   exact (kA)
  refine Sm.seq ?_
  obtain ⟨v88, hv88, h⟩ := aa h
  refine ba ⟨[(2, .ref 0 0 0), (3, .ref 1 0 0)], [(1, ⟨9, [[.i x1.cells, .d (.list 1 (x1.next.map (az 1 (af .i64))) false), .l x1.turn, .d (.list 3 (v45.map Knd.row) false), .i x2, .d (.v (.bool (x3 == 3))), .d (.list 4 (v88.map Cls.row) false), .i v52, .i v59]]⟩), (0, ⟨9, [[.i 0, .z, .z, .z, .i 0, .d (.v (.bool false)), .z, .i 0, .i 0]]⟩)], 8⟩ ?_ ?_
  ·refine Sm.seq ?_
   refine ab hF rfl ?_
   refine gv hF (x := .d (.agg 9 [.i x1.cells, .list 1 (x1.next.map (az 1 (af .i64))) false, .l x1.turn, .list 3 (v45.map Knd.row) false, .i x2, .v (.bool (x3 == 3)), .list 4 (v88.map Cls.row) false, .i v52, .i v59])) (oL (aH rfl rfl vh qK rfl rfl)) ?_
   refine SmG.store hF rfl rfl rfl rfl rfl (bk (ys := [.i x1.cells, .d (.list 1 (x1.next.map (az 1 (af .i64))) false), .l x1.turn, .d (.list 3 (v45.map Knd.row) false), .i x2, .d (.v (.bool (x3 == 3))), .d (.list 4 (v88.map Cls.row) false), .i v52, .i v59]) (r := [.i 0, .z, .z, .z, .i 0, .d (.v (.bool false)), .z, .i 0, .i 0]) (rows' := [[.i x1.cells, .d (.list 1 (x1.next.map (az 1 (af .i64))) false), .l x1.turn, .d (.list 3 (v45.map Knd.row) false), .i x2, .d (.v (.bool (x3 == 3))), .d (.list 4 (v88.map Cls.row) false), .i v52, .i v59]]) rfl rfl rfl qK rfl rfl rfl rfl rfl) ?_
   refine sn ?_
   refine Sm.ret ?_
   obtain rfl := ac h
   exact eg (RetR.cons (RetO.cell rfl (aH (ds := [.i x1.cells, .list 1 (x1.next.map (az 1 (af .i64))) false, .l x1.turn, .list 3 (v45.map Knd.row) false, .i x2, .v (.bool (x3 == 3)), .list 4 (v88.map Cls.row) false, .i v52, .i v59]) rfl rfl vh qK rfl rfl)) (RetR.nil)) (D.le.refl _)
  replace h := hv88
  refine sr hF ?_
  refine gv hF oA ?_
  refine sn ?_
  refine Sm.block ?_
  refine Sm.to (kA (e := [(1, .d (.ptr 12 (GRaw.row a0))), (2, .ref 0 0 0), (3, .ref 1 0 0), (4, .i v5), (8, .i 0)]) (g := [(1, ⟨9, [[.i x1.cells, .d (.list 1 (x1.next.map (az 1 (af .i64))) false), .l x1.turn, .d (.list 3 (v45.map Knd.row) false), .i x2, .d (.v (.bool (x3 == 3))), .z, .i v52, .i v59]]⟩), (0, ⟨9, [[.i 0, .z, .z, .z, .i 0, .d (.v (.bool false)), .z, .i 0, .i 0]]⟩)]) (m := 7)) ?_
  refine Sm.ownCell 1 0 6 4 rfl rfl rfl ?_
  refine bi (eT a0 x1 v5) (fun s60 => ⟨[(1, .d (.ptr 12 (GRaw.row a0))), (2, .ref 0 0 0), (3, .ref 1 0 0), (4, .i v5), (8, .i s60.1)], [(7, dB 4 (s60.2.map Cls.row)), (1, ⟨9, [[.i x1.cells, .d (.list 1 (x1.next.map (az 1 (af .i64))) false), .l x1.turn, .d (.list 3 (v45.map Knd.row) false), .i x2, .d (.v (.bool (x3 == 3))), .sref 7 0 (s60.2.map Cls.row).length, .i v52, .i v59]]⟩), (0, ⟨9, [[.i 0, .z, .z, .z, .i 0, .d (.v (.bool false)), .z, .i 0, .i 0]]⟩)], 8⟩) (0, ([] : List Cls)) h (kA) ?_
  intro n61 s60 o62 h hd63
  unfold eT at h
  refine Sm.seq ?_
  refine sr hF ?_
  refine gv hF oM ?_
  refine gv hF (oF (aj mS rfl)) ?_
  refine gv hF (oL (lP1 pQ rfl)) ?_
  refine gv hF (oN (bf u26)) ?_
  refine gv hF (oB (bq)) ?_
  rcases bC (decide (s60.1 < (a0.c.length : Int))) with hc64 | hc64
  ·replace h := ifF hc64 h
   refine gv hF (au rfl rfl hc64) ?_
   refine gp hF ?_
   refine gp hF ?_
   refine gv hF (aq rfl rfl rfl) ?_
   refine sn ?_
   refine bB hF rfl ?_
   refine Sm.exit ?_
   replace h := aE h hd63
   obtain rfl := ac h
   exact (aL (kA (e := [(2, .ref 0 0 0), (3, .ref 1 0 0)]) (g := [(7, dB 4 (s60.2.map Cls.row)), (1, ⟨9, [[.i x1.cells, .d (.list 1 (x1.next.map (az 1 (af .i64))) false), .l x1.turn, .d (.list 3 (v45.map Knd.row) false), .i x2, .d (.v (.bool (x3 == 3))), .sref 7 0 (s60.2.map Cls.row).length, .i v52, .i v59]]⟩), (0, ⟨9, [[.i 0, .z, .z, .z, .i 0, .d (.v (.bool false)), .z, .i 0, .i 0]]⟩)]) (m := 8)) (fA (l := 7) (sz := 4) (s60.2.map Cls.row)))
  replace h := ifT hc64 h
  refine gv hF (au rfl rfl hc64) ?_
  refine gv hF oM ?_
  refine gv hF (oB (bq)) ?_
  refine gv hF (aK rfl rfl rfl) ?_
  refine sn ?_
  refine aA hF rfl (fun hc65 => ?_) (fun hc65 => ?_)
  ·replace h := ifF hc65 h
   refine Sm.exit ?_
   replace h := aE h hd63
   obtain rfl := ac h
   exact (aL (kA (e := [(2, .ref 0 0 0), (3, .ref 1 0 0)]) (g := [(7, dB 4 (s60.2.map Cls.row)), (1, ⟨9, [[.i x1.cells, .d (.list 1 (x1.next.map (az 1 (af .i64))) false), .l x1.turn, .d (.list 3 (v45.map Knd.row) false), .i x2, .d (.v (.bool (x3 == 3))), .sref 7 0 (s60.2.map Cls.row).length, .i v52, .i v59]]⟩), (0, ⟨9, [[.i 0, .z, .z, .z, .i 0, .d (.v (.bool false)), .z, .i 0, .i 0]]⟩)]) (m := 8)) (fA (l := 7) (sz := 4) (s60.2.map Cls.row)))
  replace h := ifT hc65 h
  refine sk ?_
  refine Sm.seq ?_
  refine Sm.block ?_
  refine Sm.seq ?_
  refine aX hF (by kernel_rfl) rfl 21 (by kernel_rfl) (by kernel_rfl) ?_
  simp only [List.take_succ_cons, List.take_zero, List.take_nil]
  refine hv hF (oF (aj mS rfl)) ?_
  refine hv hF (oL (lP1 pQ rfl)) ?_
  refine hv hF oM ?_
  obtain ⟨x66, hx66, h⟩ := aa h
  refine hv hF (oI (aU u26 oX hx66)) ?_
  refine hv hF (oI (cB sm sz5 rfl rfl)) ?_
  refine hv hF (oL (lP1 ag5 rfl)) ?_
  refine hv hF (oC (ez u5 u3 (dS _))) ?_
  obtain ⟨x67, hx67, h⟩ := aa h
  refine hv hF (oB (bU hx67)) ?_
  obtain ⟨x68, hx68, h⟩ := aa h
  refine hv hF (oB (aW hx68)) ?_
  refine hv hF (oF (aj mS rfl)) ?_
  refine hv hF (oL (lP1 pQ rfl)) ?_
  refine hv hF oM ?_
  obtain ⟨x69, hx69, h⟩ := aa h
  refine hv hF (oI (aU u26 oX hx69)) ?_
  refine hv hF (oI (cB sm sz5 rfl rfl)) ?_
  refine hv hF (oL (lP1 ag5 rfl)) ?_
  obtain ⟨x70, hx70, h⟩ := aa h
  refine hv hF (oB (kK hx70)) ?_
  obtain ⟨x71, hx71, h⟩ := aa h
  refine hv hF (oC (kc u5 u3 hx71)) ?_
  obtain ⟨x72, hx72, h⟩ := aa h
  refine hv hF (oB (bU hx72)) ?_
  obtain ⟨x73, hx73, h⟩ := aa h
  refine hv hF (oB (aW hx73)) ?_
  refine hv hF (x := .d (.agg 4 [.i x68, .i 0, .i 0, .i x73])) (bh rfl En (by kernel_rfl) rfl (br (n := 4) vc BK rfl rfl)) ?_
  refine ag.new hF rfl rfl rfl rfl CE ?_
  refine ag.last ⟨rfl, ?_⟩
  simp only [List.drop_succ_cons, List.drop_zero, List.drop_nil, List.nil_append, List.cons_append]
  refine SmG.store hF rfl rfl rfl rfl rfl (bk (ys := [.i x68, .i 0, .i 0, .i x73]) (r := [.i 0, .i 0, .i 0, .i 0]) (rows' := [[.i x68, .i 0, .i 0, .i x73]]) rfl rfl rfl r7 rfl rfl rfl rfl rfl) ?_
  refine sn ?_
  refine Sm.seq ?_
  obtain ⟨v77, hv77, h⟩ := aa h
  refine dE ⟨[(1, .d (.ptr 12 (GRaw.row a0))), (2, .ref 0 0 0), (3, .ref 1 0 0), (4, .i v5), (8, .i s60.1), (9, .ref 8 0 0), (121, .i s60.1), (122, .d (.v (.bool (decide (s60.1 < 3)))))], [(8, ⟨4, [[.i x68, .i v77, .i 0, .i x73]]⟩), (7, dB 4 (s60.2.map Cls.row)), (1, ⟨9, [[.i x1.cells, .d (.list 1 (x1.next.map (az 1 (af .i64))) false), .l x1.turn, .d (.list 3 (v45.map Knd.row) false), .i x2, .d (.v (.bool (x3 == 3))), .sref 7 0 (s60.2.map Cls.row).length, .i v52, .i v59]]⟩), (0, ⟨9, [[.i 0, .z, .z, .z, .i 0, .d (.v (.bool false)), .z, .i 0, .i 0]]⟩)], 9⟩ ?_ ?_
  ·replace h := hv77
   refine sr hF ?_
   refine gv hF (oF (aF qL)) ?_
   refine gv hF (oL (ck rfl rfl ag3 rfl)) ?_
   refine gv hF (oB (mg)) ?_
   refine sn ?_
   refine aA hF rfl (fun hc74 => ?_) (fun hc74 => ?_)
   ·replace h := ifF hc74 h
    refine Sm.skip ?_
    obtain rfl := ac h
    exact (kA)
   replace h := ifT hc74 h
   refine ab hF rfl ?_
   refine gv hF (oF (aj mS rfl)) ?_
   refine gv hF (oL (lP1 pQ rfl)) ?_
   refine gv hF oM ?_
   obtain ⟨x75, hx75, h⟩ := aa h
   refine gv hF (oI (aU u26 oX hx75)) ?_
   refine gv hF (oI (cB sm sz5 rfl rfl)) ?_
   refine gv hF (oL (lP1 ag5 rfl)) ?_
   refine gv hF (oC (ez u5 u3 (dS _))) ?_
   refine gv hF oM ?_
   obtain ⟨x76, hx76, h⟩ := aa h
   refine gv hF (oB (bU hx76)) ?_
   refine gv hF (oF (aF yU)) ?_
   refine SmG.store hF rfl rfl rfl rfl rfl (cU (rows' := [[.i x68, .i x76, .i 0, .i x73]]) rfl rfl rfl sz3 rfl rfl rfl) ?_
   refine SmG.nil ?_
   obtain rfl := ac h
   exact (kA)
  refine Sm.seq ?_
  obtain ⟨v81, hv81, h⟩ := aa h
  refine dE ⟨[(1, .d (.ptr 12 (GRaw.row a0))), (2, .ref 0 0 0), (3, .ref 1 0 0), (4, .i v5), (8, .i s60.1), (9, .ref 8 0 0), (121, .i s60.1), (122, .d (.v (.bool (decide (s60.1 < 3)))))], [(8, ⟨4, [[.i x68, .i v77, .i v81, .i x73]]⟩), (7, dB 4 (s60.2.map Cls.row)), (1, ⟨9, [[.i x1.cells, .d (.list 1 (x1.next.map (az 1 (af .i64))) false), .l x1.turn, .d (.list 3 (v45.map Knd.row) false), .i x2, .d (.v (.bool (x3 == 3))), .sref 7 0 (s60.2.map Cls.row).length, .i v52, .i v59]]⟩), (0, ⟨9, [[.i 0, .z, .z, .z, .i 0, .d (.v (.bool false)), .z, .i 0, .i 0]]⟩)], 9⟩ ?_ ?_
  ·replace h := hv81
   refine sr hF ?_
   refine gv hF (oF (aF qL)) ?_
   refine gv hF (oL (ck rfl rfl ag3 rfl)) ?_
   refine gv hF (oB (cM)) ?_
   refine sn ?_
   refine aA hF rfl (fun hc78 => ?_) (fun hc78 => ?_)
   ·replace h := ifF hc78 h
    refine Sm.skip ?_
    obtain rfl := ac h
    exact (kA)
   replace h := ifT hc78 h
   refine aX hF (by kernel_rfl) rfl 10 (by kernel_rfl) (by kernel_rfl) ?_
   simp only [List.take_succ_cons, List.take_zero, List.take_nil]
   refine hv hF (oF (aj mS rfl)) ?_
   refine hv hF (oL (lP1 pQ rfl)) ?_
   refine hv hF oM ?_
   obtain ⟨x79, hx79, h⟩ := aa h
   refine hv hF (oI (aU u26 oX hx79)) ?_
   refine hv hF (oI (cB sm sz5 rfl rfl)) ?_
   refine hv hF (oL (lP1 ag5 rfl)) ?_
   refine hv hF (oC (ez u5 u3 (dS _))) ?_
   refine hv hF (oF (aF mJ)) ?_
   refine hv hF (oF (aF kS)) ?_
   refine hv hF (oL (ck rfl rfl ag3 rfl)) ?_
   refine ag.last ⟨rfl, ?_⟩
   simp only [List.drop_succ_cons, List.drop_zero, List.drop_nil, List.nil_append, List.cons_append]
   obtain ⟨x80, hx80, h⟩ := aa h
   refine gv hF (oB (bU hx80)) ?_
   refine gv hF (oF (aF uo)) ?_
   refine SmG.store hF rfl rfl rfl rfl rfl (cU (rows' := [[.i x68, .i v77, .i x80, .i x73]]) rfl rfl rfl sz3 rfl rfl rfl) ?_
   refine SmG.nil ?_
   obtain rfl := ac h
   exact (kA)
  refine Sm.seq ?_
  obtain ⟨v85, hv85, h⟩ := aa h
  refine ba ⟨[(1, .d (.ptr 12 (GRaw.row a0))), (2, .ref 0 0 0), (3, .ref 1 0 0), (4, .i v5), (8, .i s60.1), (9, .ref 8 0 0), (121, .i s60.1), (122, .d (.v (.bool (decide (s60.1 < 3)))))], [(8, ⟨4, [[.i x68, .i v77, .i v85, .i x73]]⟩), (7, dB 4 (s60.2.map Cls.row)), (1, ⟨9, [[.i x1.cells, .d (.list 1 (x1.next.map (az 1 (af .i64))) false), .l x1.turn, .d (.list 3 (v45.map Knd.row) false), .i x2, .d (.v (.bool (x3 == 3))), .sref 7 0 (s60.2.map Cls.row).length, .i v52, .i v59]]⟩), (0, ⟨9, [[.i 0, .z, .z, .z, .i 0, .d (.v (.bool false)), .z, .i 0, .i 0]]⟩)], 9⟩ ?_ ?_
  ·refine ab hF rfl ?_
   refine gv hF (oF (aF wn)) ?_
   refine gv hF (oL (ck rfl rfl AA rfl)) ?_
   refine gv hF (x := .d (.agg 4 [.i x68, .i v77, .i v85, .i x73])) (oL (aH rfl rfl yG r7 rfl rfl)) ?_
   refine gv hF (x := .d (.list 4 ([(⟨x68, v77, v85, x73⟩ : Cls)].map Cls.row) true)) (oS (ax u75 r7 vc rfl rfl (PartsQ.cons rfl (PartsQ.nil _)) rfl)) ?_
   refine dD (wA (e := [(1, .d (.ptr 12 (GRaw.row a0))), (2, .ref 0 0 0), (3, .ref 1 0 0), (4, .i v5), (8, .i s60.1), (121, .i s60.1), (122, .d (.v (.bool (decide (s60.1 < 3))))), (187, .sref 7 0 (s60.2.map Cls.row).length), (189, .d (.list 4 ([(⟨x68, v77, v85, x73⟩ : Cls)].map Cls.row) true))]) (g := [(7, dB 4 (s60.2.map Cls.row)), (1, ⟨9, [[.i x1.cells, .d (.list 1 (x1.next.map (az 1 (af .i64))) false), .l x1.turn, .d (.list 3 (v45.map Knd.row) false), .i x2, .d (.v (.bool (x3 == 3))), .any, .i v52, .i v59]]⟩), (0, ⟨9, [[.i 0, .z, .z, .z, .i 0, .d (.v (.bool false)), .z, .i 0, .i 0]]⟩)]) (m := 9)) rfl ?_
   obtain ⟨x86, hx86, h⟩ := aa h
   refine aY hF Gy rfl (ys := [(⟨x68, v77, v85, x73⟩ : Cls)]) (row := Cls.row) rfl rfl rfl rfl rfl rfl rfl rfl (.inl rfl) hx86 (by (repeat' first | exact bz _ | refine bn ?_ | refine ap ?_ (aQ _ _ _) | refine ap ?_ (aQ _ _ [_]) | refine ap ?_ (bJ (by rfl)))) ?_
   refine gv hF (oF (aF wn)) ?_
   refine SmG.store hF rfl rfl rfl rfl rfl (cU (rows' := [[.i x1.cells, .d (.list 1 (x1.next.map (az 1 (af .i64))) false), .l x1.turn, .d (.list 3 (v45.map Knd.row) false), .i x2, .d (.v (.bool (x3 == 3))), .sref 7 0 (x86.map Cls.row).length, .i v52, .i v59]]) rfl rfl rfl zN rfl rfl rfl) ?_
   refine SmG.nil ?_
   refine am ?_
   refine ae ?_
   refine ab hF rfl ?_
   refine gv hF oM ?_
   obtain ⟨x87, hx87, h⟩ := aa h
   refine gv hF (oB (aW hx87)) ?_
   refine gv hF oA ?_
   refine SmG.nil ?_
   exact bm (be h hd63) (aL (kA (e := [(1, .d (.ptr 12 (GRaw.row a0))), (2, .ref 0 0 0), (3, .ref 1 0 0), (4, .i v5), (8, .i x87)]) (g := [(7, dB 4 (x86.map Cls.row)), (1, ⟨9, [[.i x1.cells, .d (.list 1 (x1.next.map (az 1 (af .i64))) false), .l x1.turn, .d (.list 3 (v45.map Knd.row) false), .i x2, .d (.v (.bool (x3 == 3))), .sref 7 0 (x86.map Cls.row).length, .i v52, .i v59]]⟩), (0, ⟨9, [[.i 0, .z, .z, .z, .i 0, .d (.v (.bool false)), .z, .i 0, .i 0]]⟩)]) (m := 9)) (xA 8))
  replace h := hv85
  refine sr hF ?_
  refine gv hF (oF (aF qL)) ?_
  refine gv hF (oL (ck rfl rfl ag3 rfl)) ?_
  refine gv hF (oB (cM)) ?_
  refine sn ?_
  refine aA hF rfl (fun hc82 => ?_) (fun hc82 => ?_)
  ·replace h := ifF hc82 h
   refine Sm.skip ?_
   obtain rfl := ac h
   exact (kA)
  replace h := ifT hc82 h
  refine ab hF rfl ?_
  refine gv hF (oF (aj mS rfl)) ?_
  refine gv hF (oL (lP1 pQ rfl)) ?_
  refine gv hF oM ?_
  obtain ⟨x83, hx83, h⟩ := aa h
  refine gv hF (oI (aU u26 oX hx83)) ?_
  refine gv hF (oI (cB sm sz5 rfl rfl)) ?_
  refine gv hF (oL (lP1 ag5 rfl)) ?_
  refine gv hF (oC (ez u5 u3 (dS _))) ?_
  obtain ⟨x84, hx84, h⟩ := aa h
  refine gv hF (oB (bU hx84)) ?_
  refine gv hF (oF (aF uo)) ?_
  refine SmG.store hF rfl rfl rfl rfl rfl (cU (rows' := [[.i x68, .i v77, .i x84, .i x73]]) rfl rfl rfl sz3 rfl rfl rfl) ?_
  refine SmG.nil ?_
  obtain rfl := ac h
  exact (kA)
 replace h := hv45
 refine sr hF ?_
 refine gv hF oA ?_
 refine sn ?_
 refine Sm.block ?_
 refine Sm.rounds 60 ?_
 refine j5 ?_
 refine Sm.seq ?_
 refine sr hF ?_
 refine gv hF oM ?_
 refine gv hF oM ?_
 refine gv hF (oB (bq)) ?_
 refine sn ?_
 refine aA hF rfl (fun hc6 => ?_) (fun hc6 => ?_)
 ·replace h := ifF hc6 h
  refine Sm.exit ?_
  obtain rfl := ac h
  exact (aL (kA (e := [(1, .d (.ptr 12 (GRaw.row a0))), (2, .ref 0 0 0), (3, .ref 1 0 0), (4, .i v5)]) (g := [(1, ⟨9, [[.i x1.cells, .d (.list 1 (x1.next.map (az 1 (af .i64))) false), .l x1.turn, .z, .i x2, .d (.v (.bool (x3 == 3))), .z, .i 3, .i 2]]⟩), (0, ⟨9, [[.i 0, .z, .z, .z, .i 0, .d (.v (.bool false)), .z, .i 0, .i 0]]⟩)]) (m := 2)) (wA))
 replace h := ifT hc6 h
 refine sk ?_
 refine Sm.seq ?_
 obtain ⟨v21, hv21, h⟩ := aa h
 refine dE ⟨[(1, .d (.ptr 12 (GRaw.row a0))), (2, .ref 0 0 0), (3, .ref 1 0 0), (4, .i v5), (5, .i 0)], [(4, dB 3 (v21.map Knd.row)), (1, ⟨9, [[.i x1.cells, .d (.list 1 (x1.next.map (az 1 (af .i64))) false), .l x1.turn, .sref 4 0 (v21.map Knd.row).length, .i x2, .d (.v (.bool (x3 == 3))), .z, .i 3, .i 2]]⟩), (0, ⟨9, [[.i 0, .z, .z, .z, .i 0, .d (.v (.bool false)), .z, .i 0, .i 0]]⟩)], 5⟩ ?_ ?_
 ·replace h := hv21
  refine Sm.block ?_
  refine Sm.seq ?_
  refine aX hF (by kernel_rfl) rfl 13 (by kernel_rfl) (by kernel_rfl) ?_
  simp only [List.take_succ_cons, List.take_zero, List.take_nil]
  refine hv hF (x := .d (.list 1 ([([97] : List UInt8), ([98, 101, 101] : List UInt8)].map sW) true)) (oS (ax qR sz9 ze9 rfl rfl (PartsQ.cons rfl (PartsQ.cons rfl (PartsQ.nil _))) rfl)) ?_
  refine hv hF oM ?_
  obtain ⟨x7, hx7, h⟩ := aa h
  refine hv hF (oI (aU qR sz9 hx7)) ?_
  refine hv hF (oL (lP1 ag9 rfl)) ?_
  refine hv hF (oF (aj jL rfl)) ?_
  refine hv hF (oI (cB u27 sz5 rfl rfl)) ?_
  refine hv hF (oL (lP1 ag5 rfl)) ?_
  refine hv hF oM ?_
  obtain ⟨x8, hx8, h⟩ := aa h
  refine hv hF (oB (lF hx8)) ?_
  refine hv hF (oB sF) ?_
  refine hv hF (oB (cM)) ?_
  refine hv hF (x := .d (.agg 3 [.v (.string ⟨(x7 : List UInt8).toArray⟩), .z, .v (.bool ((dX .u8 x8 1) == 1))])) (bh rfl xX (by kernel_rfl) rfl (br (n := 3) oT uO rfl rfl)) ?_
  refine ag.new hF rfl rfl rfl rfl vL ?_
  refine ag.last ⟨rfl, ?_⟩
  simp only [List.drop_succ_cons, List.drop_zero, List.drop_nil, List.nil_append, List.cons_append]
  refine SmG.store hF rfl rfl rfl rfl rfl (bk (ys := [.d (.v (.string ⟨(x7 : List UInt8).toArray⟩)), .z, .d (.v (.bool ((dX .u8 x8 1) == 1)))]) (r := [.d (.v (.string ⟨([] : List UInt8).toArray⟩)), .z, .d (.v (.bool false))]) (rows' := [[.d (.v (.string ⟨(x7 : List UInt8).toArray⟩)), .z, .d (.v (.bool ((dX .u8 x8 1) == 1)))]]) rfl rfl rfl kv rfl rfl rfl rfl rfl) ?_
  refine sn ?_
  refine Sm.seq ?_
  obtain ⟨v19, hv19, h⟩ := aa h
  refine ba ⟨[(1, .d (.ptr 12 (GRaw.row a0))), (2, .ref 0 0 0), (3, .ref 1 0 0), (4, .i v5), (5, .i 0), (6, .ref 2 0 0)], [(2, ⟨3, [[.d (.v (.string ⟨(x7 : List UInt8).toArray⟩)), .d (.list 1 (v19.map (az 2 Stp.row)) false), .d (.v (.bool ((dX .u8 x8 1) == 1)))]]⟩), (1, ⟨9, [[.i x1.cells, .d (.list 1 (x1.next.map (az 1 (af .i64))) false), .l x1.turn, .z, .i x2, .d (.v (.bool (x3 == 3))), .z, .i 3, .i 2]]⟩), (0, ⟨9, [[.i 0, .z, .z, .z, .i 0, .d (.v (.bool false)), .z, .i 0, .i 0]]⟩)], 4⟩ ?_ ?_
  ·refine ab hF rfl ?_
   refine gv hF (oF (aF iz)) ?_
   refine gv hF (oL (ck rfl rfl lS rfl)) ?_
   refine gv hF (x := .d (.agg 3 [.v (.string ⟨(x7 : List UInt8).toArray⟩), .list 1 (v19.map (az 2 Stp.row)) false, .v (.bool ((dX .u8 x8 1) == 1))])) (oL (aH rfl rfl vw kv rfl rfl)) ?_
   refine gv hF (x := .d (.list 3 ([(⟨x7, v19, ((dX .u8 x8 1) == 1)⟩ : Knd)].map Knd.row) true)) (oS (ax u74 kv oT rfl rfl (PartsQ.cons rfl (PartsQ.nil _)) rfl)) ?_
   obtain ⟨x20, hx20, h⟩ := aa h
   refine SmG.appendFreshL hF Ac rfl (ys := [(⟨x7, v19, ((dX .u8 x8 1) == 1)⟩ : Knd)]) (row := Knd.row) rfl rfl rfl rfl rfl rfl rfl (.inl rfl) hx20 ?_
   refine gv hF (oF (aF iz)) ?_
   refine SmG.store hF rfl rfl rfl rfl rfl (cU (rows' := [[.i x1.cells, .d (.list 1 (x1.next.map (az 1 (af .i64))) false), .l x1.turn, .sref 4 0 (x20.map Knd.row).length, .i x2, .d (.v (.bool (x3 == 3))), .z, .i 3, .i 2]]) rfl rfl rfl yw rfl rfl rfl) ?_
   refine SmG.nil ?_
   refine am ?_
   obtain rfl := ac h
   exact (kA)
  replace h := hv19
  refine sr hF ?_
  refine gv hF oA ?_
  refine sn ?_
  refine Sm.block ?_
  refine Sm.to (kA (e := [(1, .d (.ptr 12 (GRaw.row a0))), (2, .ref 0 0 0), (3, .ref 1 0 0), (4, .i v5), (5, .i 0), (6, .ref 2 0 0), (7, .i 0)]) (g := [(2, ⟨3, [[.d (.v (.string ⟨(x7 : List UInt8).toArray⟩)), .z, .d (.v (.bool ((dX .u8 x8 1) == 1)))]]⟩), (1, ⟨9, [[.i x1.cells, .d (.list 1 (x1.next.map (az 1 (af .i64))) false), .l x1.turn, .z, .i x2, .d (.v (.bool (x3 == 3))), .z, .i 3, .i 2]]⟩), (0, ⟨9, [[.i 0, .z, .z, .z, .i 0, .d (.v (.bool false)), .z, .i 0, .i 0]]⟩)]) (m := 3)) ?_
  refine Sm.ownCell 2 0 1 1 rfl rfl rfl ?_
  refine bi (eY a0 x1 x2 v5) (fun s9 => ⟨[(1, .d (.ptr 12 (GRaw.row a0))), (2, .ref 0 0 0), (3, .ref 1 0 0), (4, .i v5), (5, .i 0), (6, .ref 2 0 0), (7, .i s9.1)], [(3, dB 1 (s9.2.map (az 2 Stp.row))), (2, ⟨3, [[.d (.v (.string ⟨(x7 : List UInt8).toArray⟩)), .sref 3 0 (s9.2.map (az 2 Stp.row)).length, .d (.v (.bool ((dX .u8 x8 1) == 1)))]]⟩), (1, ⟨9, [[.i x1.cells, .d (.list 1 (x1.next.map (az 1 (af .i64))) false), .l x1.turn, .z, .i x2, .d (.v (.bool (x3 == 3))), .z, .i 3, .i 2]]⟩), (0, ⟨9, [[.i 0, .z, .z, .z, .i 0, .d (.v (.bool false)), .z, .i 0, .i 0]]⟩)], 4⟩) (0, ([] : List (List Stp))) h (kA) ?_
  intro n10 s9 o11 h hd12
  unfold eY at h
  refine Sm.seq ?_
  refine sr hF ?_
  refine gv hF oM ?_
  refine gv hF oM ?_
  refine gv hF (oF (aj mI rfl)) ?_
  refine gv hF (oI (cB u25 cO rfl rfl)) ?_
  refine gv hF (oL (lP1 e7 rfl)) ?_
  refine gv hF (oN (bf u24)) ?_
  refine gv hF (oB (bq)) ?_
  rcases bC (decide (s9.1 < (a0.k0.length : Int))) with hc13 | hc13
  ·replace h := ifF hc13 h
   refine gv hF (au rfl rfl hc13) ?_
   refine gp hF ?_
   refine gp hF ?_
   refine gv hF (aq rfl rfl rfl) ?_
   refine sn ?_
   refine bB hF rfl ?_
   refine Sm.exit ?_
   replace h := aE h hd12
   obtain rfl := ac h
   exact (aL (kA (e := [(1, .d (.ptr 12 (GRaw.row a0))), (2, .ref 0 0 0), (3, .ref 1 0 0), (4, .i v5), (5, .i 0), (6, .ref 2 0 0)]) (g := [(3, dB 1 (s9.2.map (az 2 Stp.row))), (2, ⟨3, [[.d (.v (.string ⟨(x7 : List UInt8).toArray⟩)), .sref 3 0 (s9.2.map (az 2 Stp.row)).length, .d (.v (.bool ((dX .u8 x8 1) == 1)))]]⟩), (1, ⟨9, [[.i x1.cells, .d (.list 1 (x1.next.map (az 1 (af .i64))) false), .l x1.turn, .z, .i x2, .d (.v (.bool (x3 == 3))), .z, .i 3, .i 2]]⟩), (0, ⟨9, [[.i 0, .z, .z, .z, .i 0, .d (.v (.bool false)), .z, .i 0, .i 0]]⟩)]) (m := 4)) (fA (l := 3) (sz := 1) (s9.2.map (az 2 Stp.row))))
  replace h := ifT hc13 h
  refine gv hF (au rfl rfl hc13) ?_
  refine gv hF oM ?_
  refine gv hF (oB (bq)) ?_
  refine gv hF (aK rfl rfl rfl) ?_
  refine sn ?_
  refine aA hF rfl (fun hc14 => ?_) (fun hc14 => ?_)
  ·replace h := ifF hc14 h
   refine Sm.exit ?_
   replace h := aE h hd12
   obtain rfl := ac h
   exact (aL (kA (e := [(1, .d (.ptr 12 (GRaw.row a0))), (2, .ref 0 0 0), (3, .ref 1 0 0), (4, .i v5), (5, .i 0), (6, .ref 2 0 0)]) (g := [(3, dB 1 (s9.2.map (az 2 Stp.row))), (2, ⟨3, [[.d (.v (.string ⟨(x7 : List UInt8).toArray⟩)), .sref 3 0 (s9.2.map (az 2 Stp.row)).length, .d (.v (.bool ((dX .u8 x8 1) == 1)))]]⟩), (1, ⟨9, [[.i x1.cells, .d (.list 1 (x1.next.map (az 1 (af .i64))) false), .l x1.turn, .z, .i x2, .d (.v (.bool (x3 == 3))), .z, .i 3, .i 2]]⟩), (0, ⟨9, [[.i 0, .z, .z, .z, .i 0, .d (.v (.bool false)), .z, .i 0, .i 0]]⟩)]) (m := 4)) (fA (l := 3) (sz := 1) (s9.2.map (az 2 Stp.row))))
  replace h := ifT hc14 h
  refine sk ?_
  refine Sm.seq ?_
  refine Sm.block ?_
  refine aX hF (by kernel_rfl) rfl 18 (by kernel_rfl) (by kernel_rfl) ?_
  simp only [List.take_succ_cons, List.take_zero, List.take_nil]
  refine hv hF (oF (aF oZ)) ?_
  refine hv hF (oL (ck rfl rfl vg rfl)) ?_
  refine hv hF oM ?_
  refine hv hF (oF (aj mI rfl)) ?_
  refine hv hF (oI (cB u25 cO rfl rfl)) ?_
  refine hv hF (oL (lP1 e7 rfl)) ?_
  refine hv hF oM ?_
  obtain ⟨x15, hx15, h⟩ := aa h
  refine hv hF (oI (aU u24 sz5 hx15)) ?_
  refine hv hF (oL (lP1 ag5 rfl)) ?_
  refine hv hF (oF (aF mJ)) ?_
  refine hv hF (oF (aF kM)) ?_
  refine hv hF (oL (ck rfl rfl pH rfl)) ?_
  refine hv hF (oN (bf u71)) ?_
  refine hv hF oM ?_
  refine hv hF (oF (aF sN)) ?_
  refine hv hF (oL (ck rfl rfl ag3 rfl)) ?_
  obtain ⟨x16, hx16, h⟩ := aa h
  refine ag.c hF rfl rfl (by kernel_rfl) rfl rfl rfl (jG hx16) ?_
  refine hv hF (x := .d (.list 1 ([x16].map (az 2 Stp.row)) true)) (oS (ax tD qA r3 rfl rfl (PartsQ.cons rfl (PartsQ.nil _)) rfl)) ?_
  refine ag.last ⟨rfl, ?_⟩
  simp only [List.drop_succ_cons, List.drop_zero, List.drop_nil, List.nil_append, List.cons_append]
  refine dD (wA (e := [(1, .d (.ptr 12 (GRaw.row a0))), (2, .ref 0 0 0), (3, .ref 1 0 0), (4, .i v5), (5, .i 0), (6, .ref 2 0 0), (7, .i s9.1), (58, .i s9.1), (59, .d (.v (.bool (decide (s9.1 < 4))))), (64, .sref 3 0 (s9.2.map (az 2 Stp.row)).length), (80, .d (.list 1 ([x16].map (az 2 Stp.row)) true))]) (g := [(3, dB 1 (s9.2.map (az 2 Stp.row))), (2, ⟨3, [[.d (.v (.string ⟨(x7 : List UInt8).toArray⟩)), .any, .d (.v (.bool ((dX .u8 x8 1) == 1)))]]⟩), (1, ⟨9, [[.i x1.cells, .d (.list 1 (x1.next.map (az 1 (af .i64))) false), .l x1.turn, .z, .i x2, .d (.v (.bool (x3 == 3))), .z, .i 3, .i 2]]⟩), (0, ⟨9, [[.i 0, .z, .z, .z, .i 0, .d (.v (.bool false)), .z, .i 0, .i 0]]⟩)]) (m := 4)) rfl ?_
  obtain ⟨x17, hx17, h⟩ := aa h
  refine aY hF yJ rfl (ys := [x16]) (row := (az 2 Stp.row)) rfl rfl rfl rfl rfl rfl rfl rfl (.inl rfl) hx17 (by (repeat' first | exact bz _ | refine bn ?_ | refine ap ?_ (aQ _ _ _) | refine ap ?_ (aQ _ _ [_]) | refine ap ?_ (bJ (by rfl)))) ?_
  refine gv hF (oF (aF oZ)) ?_
  refine SmG.store hF rfl rfl rfl rfl rfl (cU (rows' := [[.d (.v (.string ⟨(x7 : List UInt8).toArray⟩)), .sref 3 0 (x17.map (az 2 Stp.row)).length, .d (.v (.bool ((dX .u8 x8 1) == 1)))]]) rfl rfl rfl uT rfl rfl rfl) ?_
  refine SmG.nil ?_
  refine am ?_
  refine ae ?_
  refine ab hF rfl ?_
  refine gv hF oM ?_
  obtain ⟨x18, hx18, h⟩ := aa h
  refine gv hF (oB (aW hx18)) ?_
  refine gv hF oA ?_
  refine SmG.nil ?_
  exact bm (be h hd12) (kA)
 refine ab hF rfl ?_
 refine gv hF oM ?_
 refine gv hF (oB (aW (v := 1) rfl)) ?_
 refine gv hF oA ?_
 refine sn ?_
 refine j5 ?_
 refine Sm.seq ?_
 refine sr hF ?_
 refine gv hF oM ?_
 refine gv hF oM ?_
 refine gv hF (oB (bq)) ?_
 refine sn ?_
 refine aA hF rfl (fun hc22 => ?_) (fun hc22 => ?_)
 ·replace h := ifF hc22 h
  refine Sm.exit ?_
  obtain rfl := ac h
  exact (aL (kA (e := [(1, .d (.ptr 12 (GRaw.row a0))), (2, .ref 0 0 0), (3, .ref 1 0 0), (4, .i v5)]) (g := [(4, dB 3 (v21.map Knd.row)), (1, ⟨9, [[.i x1.cells, .d (.list 1 (x1.next.map (az 1 (af .i64))) false), .l x1.turn, .sref 4 0 (v21.map Knd.row).length, .i x2, .d (.v (.bool (x3 == 3))), .z, .i 3, .i 2]]⟩), (0, ⟨9, [[.i 0, .z, .z, .z, .i 0, .d (.v (.bool false)), .z, .i 0, .i 0]]⟩)]) (m := 5)) (aL (fA (l := 4) (sz := 3) (e := [(1, .d (.ptr 12 (GRaw.row a0))), (2, .ref 0 0 0), (3, .ref 1 0 0), (4, .i v5)]) (g := [(1, ⟨9, [[.i x1.cells, .d (.list 1 (x1.next.map (az 1 (af .i64))) false), .l x1.turn, .d (.list 3 (v21.map Knd.row) false), .i x2, .d (.v (.bool (x3 == 3))), .z, .i 3, .i 2]]⟩), (0, ⟨9, [[.i 0, .z, .z, .z, .i 0, .d (.v (.bool false)), .z, .i 0, .i 0]]⟩)]) (nx := 5) (v21.map Knd.row)) (kA)))
 replace h := ifT hc22 h
 refine sk ?_
 refine Sm.seq ?_
 obtain ⟨v37, hv37, h⟩ := aa h
 refine ba ⟨[(1, .d (.ptr 12 (GRaw.row a0))), (2, .ref 0 0 0), (3, .ref 1 0 0), (4, .i v5), (5, .i 1)], [(4, dB 3 (v37.map Knd.row)), (1, ⟨9, [[.i x1.cells, .d (.list 1 (x1.next.map (az 1 (af .i64))) false), .l x1.turn, .sref 4 0 (v37.map Knd.row).length, .i x2, .d (.v (.bool (x3 == 3))), .z, .i 3, .i 2]]⟩), (0, ⟨9, [[.i 0, .z, .z, .z, .i 0, .d (.v (.bool false)), .z, .i 0, .i 0]]⟩)], 7⟩ ?_ ?_
 ·refine ab hF rfl ?_
  refine gv hF oM ?_
  refine gv hF (oB (aW (v := 2) rfl)) ?_
  refine gv hF oA ?_
  refine sn ?_
  refine j5 ?_
  refine Sm.seq ?_
  refine sr hF ?_
  refine gv hF oM ?_
  refine gv hF oM ?_
  refine gv hF (oB (bq)) ?_
  refine sn ?_
  refine aA hF rfl (fun hc38 => ?_) (fun hc38 => ?_)
  ·replace h := ifF hc38 h
   refine Sm.exit ?_
   obtain rfl := ac h
   exact (aL (kA (e := [(1, .d (.ptr 12 (GRaw.row a0))), (2, .ref 0 0 0), (3, .ref 1 0 0), (4, .i v5)]) (g := [(4, dB 3 (v37.map Knd.row)), (1, ⟨9, [[.i x1.cells, .d (.list 1 (x1.next.map (az 1 (af .i64))) false), .l x1.turn, .sref 4 0 (v37.map Knd.row).length, .i x2, .d (.v (.bool (x3 == 3))), .z, .i 3, .i 2]]⟩), (0, ⟨9, [[.i 0, .z, .z, .z, .i 0, .d (.v (.bool false)), .z, .i 0, .i 0]]⟩)]) (m := 7)) (fA (l := 4) (sz := 3) (v37.map Knd.row)))
  replace h := ifT hc38 h
  refine sk ?_
  refine Sm.seq ?_
  refine Sm.block ?_
  refine Sm.seq ?_
  refine aX hF (by kernel_rfl) rfl 13 (by kernel_rfl) (by kernel_rfl) ?_
  simp only [List.take_succ_cons, List.take_zero, List.take_nil]
  refine hv hF (x := .d (.list 1 ([([97] : List UInt8), ([98, 101, 101] : List UInt8)].map sW) true)) (oS (ax qR sz9 ze9 rfl rfl (PartsQ.cons rfl (PartsQ.cons rfl (PartsQ.nil _))) rfl)) ?_
  refine hv hF oM ?_
  obtain ⟨x39, hx39, h⟩ := aa h
  refine hv hF (oI (aU qR sz9 hx39)) ?_
  refine hv hF (oL (lP1 ag9 rfl)) ?_
  refine hv hF (oF (aj jL rfl)) ?_
  refine hv hF (oI (cB u27 sz5 rfl rfl)) ?_
  refine hv hF (oL (lP1 ag5 rfl)) ?_
  refine hv hF oM ?_
  obtain ⟨x40, hx40, h⟩ := aa h
  refine hv hF (oB (lF hx40)) ?_
  refine hv hF (oB sF) ?_
  refine hv hF (oB (cM)) ?_
  refine hv hF (x := .d (.agg 3 [.v (.string ⟨(x39 : List UInt8).toArray⟩), .z, .v (.bool ((dX .u8 x40 1) == 1))])) (bh rfl xX (by kernel_rfl) rfl (br (n := 3) oT uO rfl rfl)) ?_
  refine ag.new hF rfl rfl rfl rfl vL ?_
  refine ag.last ⟨rfl, ?_⟩
  simp only [List.drop_succ_cons, List.drop_zero, List.drop_nil, List.nil_append, List.cons_append]
  refine SmG.store hF rfl rfl rfl rfl rfl (bk (ys := [.d (.v (.string ⟨(x39 : List UInt8).toArray⟩)), .z, .d (.v (.bool ((dX .u8 x40 1) == 1)))]) (r := [.d (.v (.string ⟨([] : List UInt8).toArray⟩)), .z, .d (.v (.bool false))]) (rows' := [[.d (.v (.string ⟨(x39 : List UInt8).toArray⟩)), .z, .d (.v (.bool ((dX .u8 x40 1) == 1)))]]) rfl rfl rfl kv rfl rfl rfl rfl rfl) ?_
  refine sn ?_
  refine Sm.seq ?_
  refine sr hF ?_
  refine gv hF oA ?_
  refine sn ?_
  refine Sm.block ?_
  refine bi (gY) (fun s41 => ⟨[(1, .d (.ptr 12 (GRaw.row a0))), (2, .ref 0 0 0), (3, .ref 1 0 0), (4, .i v5), (5, .i 2), (6, .ref 7 0 0), (7, .i s41)], [(7, ⟨3, [[.d (.v (.string ⟨(x39 : List UInt8).toArray⟩)), .z, .d (.v (.bool ((dX .u8 x40 1) == 1)))]]⟩), (4, dB 3 (v37.map Knd.row)), (1, ⟨9, [[.i x1.cells, .d (.list 1 (x1.next.map (az 1 (af .i64))) false), .l x1.turn, .sref 4 0 (v37.map Knd.row).length, .i x2, .d (.v (.bool (x3 == 3))), .z, .i 3, .i 2]]⟩), (0, ⟨9, [[.i 0, .z, .z, .z, .i 0, .d (.v (.bool false)), .z, .i 0, .i 0]]⟩)], 8⟩) 0 h (kA) ?_
  intro n42 s41 o43 h hd44
  unfold gY at h
  refine Sm.seq ?_
  refine sr hF ?_
  refine gv hF oM ?_
  refine gv hF oM ?_
  refine gv hF (oF (aj mI rfl)) ?_
  cases h
 replace h := hv37
 refine Sm.block ?_
 refine Sm.seq ?_
 refine aX hF (by kernel_rfl) rfl 13 (by kernel_rfl) (by kernel_rfl) ?_
 simp only [List.take_succ_cons, List.take_zero, List.take_nil]
 refine hv hF (x := .d (.list 1 ([([97] : List UInt8), ([98, 101, 101] : List UInt8)].map sW) true)) (oS (ax qR sz9 ze9 rfl rfl (PartsQ.cons rfl (PartsQ.cons rfl (PartsQ.nil _))) rfl)) ?_
 refine hv hF oM ?_
 obtain ⟨x23, hx23, h⟩ := aa h
 refine hv hF (oI (aU qR sz9 hx23)) ?_
 refine hv hF (oL (lP1 ag9 rfl)) ?_
 refine hv hF (oF (aj jL rfl)) ?_
 refine hv hF (oI (cB u27 sz5 rfl rfl)) ?_
 refine hv hF (oL (lP1 ag5 rfl)) ?_
 refine hv hF oM ?_
 obtain ⟨x24, hx24, h⟩ := aa h
 refine hv hF (oB (lF hx24)) ?_
 refine hv hF (oB sF) ?_
 refine hv hF (oB (cM)) ?_
 refine hv hF (x := .d (.agg 3 [.v (.string ⟨(x23 : List UInt8).toArray⟩), .z, .v (.bool ((dX .u8 x24 1) == 1))])) (bh rfl xX (by kernel_rfl) rfl (br (n := 3) oT uO rfl rfl)) ?_
 refine ag.new hF rfl rfl rfl rfl vL ?_
 refine ag.last ⟨rfl, ?_⟩
 simp only [List.drop_succ_cons, List.drop_zero, List.drop_nil, List.nil_append, List.cons_append]
 refine SmG.store hF rfl rfl rfl rfl rfl (bk (ys := [.d (.v (.string ⟨(x23 : List UInt8).toArray⟩)), .z, .d (.v (.bool ((dX .u8 x24 1) == 1)))]) (r := [.d (.v (.string ⟨([] : List UInt8).toArray⟩)), .z, .d (.v (.bool false))]) (rows' := [[.d (.v (.string ⟨(x23 : List UInt8).toArray⟩)), .z, .d (.v (.bool ((dX .u8 x24 1) == 1)))]]) rfl rfl rfl kv rfl rfl rfl rfl rfl) ?_
 refine sn ?_
 refine Sm.seq ?_
 obtain ⟨v35, hv35, h⟩ := aa h
 refine ba ⟨[(1, .d (.ptr 12 (GRaw.row a0))), (2, .ref 0 0 0), (3, .ref 1 0 0), (4, .i v5), (5, .i 1), (6, .ref 5 0 0)], [(5, ⟨3, [[.d (.v (.string ⟨(x23 : List UInt8).toArray⟩)), .d (.list 1 (v35.map (az 2 Stp.row)) false), .d (.v (.bool ((dX .u8 x24 1) == 1)))]]⟩), (4, dB 3 (v21.map Knd.row)), (1, ⟨9, [[.i x1.cells, .d (.list 1 (x1.next.map (az 1 (af .i64))) false), .l x1.turn, .sref 4 0 (v21.map Knd.row).length, .i x2, .d (.v (.bool (x3 == 3))), .z, .i 3, .i 2]]⟩), (0, ⟨9, [[.i 0, .z, .z, .z, .i 0, .d (.v (.bool false)), .z, .i 0, .i 0]]⟩)], 7⟩ ?_ ?_
 ·refine ab hF rfl ?_
  refine gv hF (oF (aF iz)) ?_
  refine gv hF (oL (ck rfl rfl lS rfl)) ?_
  refine gv hF (x := .d (.agg 3 [.v (.string ⟨(x23 : List UInt8).toArray⟩), .list 1 (v35.map (az 2 Stp.row)) false, .v (.bool ((dX .u8 x24 1) == 1))])) (oL (aH rfl rfl vw kv rfl rfl)) ?_
  refine gv hF (x := .d (.list 3 ([(⟨x23, v35, ((dX .u8 x24 1) == 1)⟩ : Knd)].map Knd.row) true)) (oS (ax u74 kv oT rfl rfl (PartsQ.cons rfl (PartsQ.nil _)) rfl)) ?_
  refine dD (wA (e := [(1, .d (.ptr 12 (GRaw.row a0))), (2, .ref 0 0 0), (3, .ref 1 0 0), (4, .i v5), (5, .i 1), (84, .sref 4 0 (v21.map Knd.row).length), (86, .d (.list 3 ([(⟨x23, v35, ((dX .u8 x24 1) == 1)⟩ : Knd)].map Knd.row) true))]) (g := [(4, dB 3 (v21.map Knd.row)), (1, ⟨9, [[.i x1.cells, .d (.list 1 (x1.next.map (az 1 (af .i64))) false), .l x1.turn, .any, .i x2, .d (.v (.bool (x3 == 3))), .z, .i 3, .i 2]]⟩), (0, ⟨9, [[.i 0, .z, .z, .z, .i 0, .d (.v (.bool false)), .z, .i 0, .i 0]]⟩)]) (m := 7)) rfl ?_
  obtain ⟨x36, hx36, h⟩ := aa h
  refine aY hF Ac rfl (ys := [(⟨x23, v35, ((dX .u8 x24 1) == 1)⟩ : Knd)]) (row := Knd.row) rfl rfl rfl rfl rfl rfl rfl rfl (.inl rfl) hx36 (by (repeat' first | exact bz _ | refine bn ?_ | refine ap ?_ (aQ _ _ _) | refine ap ?_ (aQ _ _ [_]) | refine ap ?_ (bJ (by rfl)))) ?_
  refine gv hF (oF (aF iz)) ?_
  refine SmG.store hF rfl rfl rfl rfl rfl (cU (rows' := [[.i x1.cells, .d (.list 1 (x1.next.map (az 1 (af .i64))) false), .l x1.turn, .sref 4 0 (x36.map Knd.row).length, .i x2, .d (.v (.bool (x3 == 3))), .z, .i 3, .i 2]]) rfl rfl rfl yw rfl rfl rfl) ?_
  refine SmG.nil ?_
  refine am ?_
  obtain rfl := ac h
  exact (kA)
 replace h := hv35
 refine sr hF ?_
 refine gv hF oA ?_
 refine sn ?_
 refine Sm.block ?_
 refine Sm.to (kA (e := [(1, .d (.ptr 12 (GRaw.row a0))), (2, .ref 0 0 0), (3, .ref 1 0 0), (4, .i v5), (5, .i 1), (6, .ref 5 0 0), (7, .i 0)]) (g := [(5, ⟨3, [[.d (.v (.string ⟨(x23 : List UInt8).toArray⟩)), .z, .d (.v (.bool ((dX .u8 x24 1) == 1)))]]⟩), (4, dB 3 (v21.map Knd.row)), (1, ⟨9, [[.i x1.cells, .d (.list 1 (x1.next.map (az 1 (af .i64))) false), .l x1.turn, .sref 4 0 (v21.map Knd.row).length, .i x2, .d (.v (.bool (x3 == 3))), .z, .i 3, .i 2]]⟩), (0, ⟨9, [[.i 0, .z, .z, .z, .i 0, .d (.v (.bool false)), .z, .i 0, .i 0]]⟩)]) (m := 6)) ?_
 refine Sm.ownCell 5 0 1 1 rfl rfl rfl ?_
 refine bi (eN a0 x1 x2 v5) (fun s25 => ⟨[(1, .d (.ptr 12 (GRaw.row a0))), (2, .ref 0 0 0), (3, .ref 1 0 0), (4, .i v5), (5, .i 1), (6, .ref 5 0 0), (7, .i s25.1)], [(6, dB 1 (s25.2.map (az 2 Stp.row))), (5, ⟨3, [[.d (.v (.string ⟨(x23 : List UInt8).toArray⟩)), .sref 6 0 (s25.2.map (az 2 Stp.row)).length, .d (.v (.bool ((dX .u8 x24 1) == 1)))]]⟩), (4, dB 3 (v21.map Knd.row)), (1, ⟨9, [[.i x1.cells, .d (.list 1 (x1.next.map (az 1 (af .i64))) false), .l x1.turn, .sref 4 0 (v21.map Knd.row).length, .i x2, .d (.v (.bool (x3 == 3))), .z, .i 3, .i 2]]⟩), (0, ⟨9, [[.i 0, .z, .z, .z, .i 0, .d (.v (.bool false)), .z, .i 0, .i 0]]⟩)], 7⟩) (0, ([] : List (List Stp))) h (kA) ?_
 intro n26 s25 o27 h hd28
 unfold eN at h
 refine Sm.seq ?_
 refine sr hF ?_
 refine gv hF oM ?_
 refine gv hF oM ?_
 refine gv hF (oF (aj mI rfl)) ?_
 refine gv hF (oI (cB u25 cO rfl rfl)) ?_
 refine gv hF (oL (lP1 e7 rfl)) ?_
 refine gv hF (oN (bf u24)) ?_
 refine gv hF (oB (bq)) ?_
 rcases bC (decide (s25.1 < (a0.k1.length : Int))) with hc29 | hc29
 ·replace h := ifF hc29 h
  refine gv hF (au rfl rfl hc29) ?_
  refine gp hF ?_
  refine gp hF ?_
  refine gv hF (aq rfl rfl rfl) ?_
  refine sn ?_
  refine bB hF rfl ?_
  refine Sm.exit ?_
  replace h := aE h hd28
  obtain rfl := ac h
  exact (aL (kA (e := [(1, .d (.ptr 12 (GRaw.row a0))), (2, .ref 0 0 0), (3, .ref 1 0 0), (4, .i v5), (5, .i 1), (6, .ref 5 0 0)]) (g := [(6, dB 1 (s25.2.map (az 2 Stp.row))), (5, ⟨3, [[.d (.v (.string ⟨(x23 : List UInt8).toArray⟩)), .sref 6 0 (s25.2.map (az 2 Stp.row)).length, .d (.v (.bool ((dX .u8 x24 1) == 1)))]]⟩), (4, dB 3 (v21.map Knd.row)), (1, ⟨9, [[.i x1.cells, .d (.list 1 (x1.next.map (az 1 (af .i64))) false), .l x1.turn, .sref 4 0 (v21.map Knd.row).length, .i x2, .d (.v (.bool (x3 == 3))), .z, .i 3, .i 2]]⟩), (0, ⟨9, [[.i 0, .z, .z, .z, .i 0, .d (.v (.bool false)), .z, .i 0, .i 0]]⟩)]) (m := 7)) (fA (l := 6) (sz := 1) (s25.2.map (az 2 Stp.row))))
 replace h := ifT hc29 h
 refine gv hF (au rfl rfl hc29) ?_
 refine gv hF oM ?_
 refine gv hF (oB (bq)) ?_
 refine gv hF (aK rfl rfl rfl) ?_
 refine sn ?_
 refine aA hF rfl (fun hc30 => ?_) (fun hc30 => ?_)
 ·replace h := ifF hc30 h
  refine Sm.exit ?_
  replace h := aE h hd28
  obtain rfl := ac h
  exact (aL (kA (e := [(1, .d (.ptr 12 (GRaw.row a0))), (2, .ref 0 0 0), (3, .ref 1 0 0), (4, .i v5), (5, .i 1), (6, .ref 5 0 0)]) (g := [(6, dB 1 (s25.2.map (az 2 Stp.row))), (5, ⟨3, [[.d (.v (.string ⟨(x23 : List UInt8).toArray⟩)), .sref 6 0 (s25.2.map (az 2 Stp.row)).length, .d (.v (.bool ((dX .u8 x24 1) == 1)))]]⟩), (4, dB 3 (v21.map Knd.row)), (1, ⟨9, [[.i x1.cells, .d (.list 1 (x1.next.map (az 1 (af .i64))) false), .l x1.turn, .sref 4 0 (v21.map Knd.row).length, .i x2, .d (.v (.bool (x3 == 3))), .z, .i 3, .i 2]]⟩), (0, ⟨9, [[.i 0, .z, .z, .z, .i 0, .d (.v (.bool false)), .z, .i 0, .i 0]]⟩)]) (m := 7)) (fA (l := 6) (sz := 1) (s25.2.map (az 2 Stp.row))))
 replace h := ifT hc30 h
 refine sk ?_
 refine Sm.seq ?_
 refine Sm.block ?_
 refine aX hF (by kernel_rfl) rfl 18 (by kernel_rfl) (by kernel_rfl) ?_
 simp only [List.take_succ_cons, List.take_zero, List.take_nil]
 refine hv hF (oF (aF oZ)) ?_
 refine hv hF (oL (ck rfl rfl vg rfl)) ?_
 refine hv hF oM ?_
 refine hv hF (oF (aj mI rfl)) ?_
 refine hv hF (oI (cB u25 cO rfl rfl)) ?_
 refine hv hF (oL (lP1 e7 rfl)) ?_
 refine hv hF oM ?_
 obtain ⟨x31, hx31, h⟩ := aa h
 refine hv hF (oI (aU u24 sz5 hx31)) ?_
 refine hv hF (oL (lP1 ag5 rfl)) ?_
 refine hv hF (oF (aF mJ)) ?_
 refine hv hF (oF (aF kM)) ?_
 refine hv hF (oL (ck rfl rfl pH rfl)) ?_
 refine hv hF (oN (bf u71)) ?_
 refine hv hF oM ?_
 refine hv hF (oF (aF sN)) ?_
 refine hv hF (oL (ck rfl rfl ag3 rfl)) ?_
 obtain ⟨x32, hx32, h⟩ := aa h
 refine ag.c hF rfl rfl (by kernel_rfl) rfl rfl rfl (jG hx32) ?_
 refine hv hF (x := .d (.list 1 ([x32].map (az 2 Stp.row)) true)) (oS (ax tD qA r3 rfl rfl (PartsQ.cons rfl (PartsQ.nil _)) rfl)) ?_
 refine ag.last ⟨rfl, ?_⟩
 simp only [List.drop_succ_cons, List.drop_zero, List.drop_nil, List.nil_append, List.cons_append]
 refine dD (wA (e := [(1, .d (.ptr 12 (GRaw.row a0))), (2, .ref 0 0 0), (3, .ref 1 0 0), (4, .i v5), (5, .i 1), (6, .ref 5 0 0), (7, .i s25.1), (58, .i s25.1), (59, .d (.v (.bool (decide (s25.1 < 4))))), (64, .sref 6 0 (s25.2.map (az 2 Stp.row)).length), (80, .d (.list 1 ([x32].map (az 2 Stp.row)) true))]) (g := [(6, dB 1 (s25.2.map (az 2 Stp.row))), (5, ⟨3, [[.d (.v (.string ⟨(x23 : List UInt8).toArray⟩)), .any, .d (.v (.bool ((dX .u8 x24 1) == 1)))]]⟩), (4, dB 3 (v21.map Knd.row)), (1, ⟨9, [[.i x1.cells, .d (.list 1 (x1.next.map (az 1 (af .i64))) false), .l x1.turn, .sref 4 0 (v21.map Knd.row).length, .i x2, .d (.v (.bool (x3 == 3))), .z, .i 3, .i 2]]⟩), (0, ⟨9, [[.i 0, .z, .z, .z, .i 0, .d (.v (.bool false)), .z, .i 0, .i 0]]⟩)]) (m := 7)) rfl ?_
 obtain ⟨x33, hx33, h⟩ := aa h
 refine aY hF yJ rfl (ys := [x32]) (row := (az 2 Stp.row)) rfl rfl rfl rfl rfl rfl rfl rfl (.inl rfl) hx33 (by (repeat' first | exact bz _ | refine bn ?_ | refine ap ?_ (aQ _ _ _) | refine ap ?_ (aQ _ _ [_]) | refine ap ?_ (bJ (by rfl)))) ?_
 refine gv hF (oF (aF oZ)) ?_
 refine SmG.store hF rfl rfl rfl rfl rfl (cU (rows' := [[.d (.v (.string ⟨(x23 : List UInt8).toArray⟩)), .sref 6 0 (x33.map (az 2 Stp.row)).length, .d (.v (.bool ((dX .u8 x24 1) == 1)))]]) rfl rfl rfl uT rfl rfl rfl) ?_
 refine SmG.nil ?_
 refine am ?_
 refine ae ?_
 refine ab hF rfl ?_
 refine gv hF oM ?_
 obtain ⟨x34, hx34, h⟩ := aa h
 refine gv hF (oB (aW hx34)) ?_
 refine gv hF oA ?_
 refine SmG.nil ?_
 exact bm (be h hd28) (kA)
end
end Go.Proofs.YtbaccmkhjmmlnaaDoor
