/-
  Lemmas, part 7 of 8: walks through the program's functions, and plain Lean about what they compute.
-/
import Derived.Test.YtbaccmkhjmmlnaaDoorRows
import Derived.WalkKit
import Derived.WalkSpells
import Derived.WalkLawsBesides
import Derived.BigQuiet
import Derived.Deep.QuietTactic
import Derived.Deep.RegionHeld3
import Derived.Deep.DeepCutAuto
import Derived.Deep.LoopGhost
import Derived.StillTailTactics
import Derived.Lib.Hide
import Derived.Handy
import Derived.Test.YtbaccmkhjmmlnaaDoorZ1
import Derived.Test.YtbaccmkhjmmlnaaDoorZ2
import Derived.Test.YtbaccmkhjmmlnaaDoorZ3
import Derived.Test.YtbaccmkhjmmlnaaDoorZ4
import Derived.Test.YtbaccmkhjmmlnaaDoorZ5
import Derived.Test.YtbaccmkhjmmlnaaDoorZ6
set_option linter.unnecessarySimpa false
set_option linter.unusedSimpArgs false
set_option linter.unusedVariables false
namespace Go.Proofs.YtbaccmkhjmmlnaaDoor
section
open Go.RowKit
theorem mV : ∀ (k : Nat) (l : List (List UInt8)) (i : Nat), l.length = k → Len32 (Sha.path l i) := by
 intro k
 induction k using Nat.strongRecOn with
 | _ k ih =>
  intro l i hk
  rcases Nat.lt_or_ge l.length 2 with h | h
  ·rw [Sha.path_one _ h]; intro x hx; cases hx
  ·have c1 := Sha.cut_lt h
   have c2 := Sha.cut_pos l.length
   rcases Nat.lt_or_ge i (Sha.cut l.length) with hlt | hge
   ·rw [Sha.path_low h hlt]
    intro x hx
    rcases List.mem_cons.1 hx with rfl | h'
    ·exact Sha.root_len _
    ·exact ih _ (by rw [List.length_take]; omega) _ _ rfl x h'
   ·rw [Sha.path_high h hge]
    intro x hx
    rcases List.mem_cons.1 hx with rfl | h'
    ·exact Sha.root_len _
    ·exact ih _ (by rw [List.length_drop]; omega) _ _ rfl x h'
theorem q6 : ∀ (k : Nat) (l : List (List UInt8)) (i : Nat), l.length = k → (Sha.path l i).length ≤ k := by
 intro k
 induction k using Nat.strongRecOn with
 | _ k ih =>
  intro l i hk
  rcases Nat.lt_or_ge l.length 2 with h | h
  ·rw [Sha.path_one _ h]; simp
  ·have c1 := Sha.cut_lt h
   have c2 := Sha.cut_pos l.length
   rcases Nat.lt_or_ge i (Sha.cut l.length) with hlt | hge
   ·rw [Sha.path_low h hlt]
    have := ih _ (by rw [List.length_take]; omega) (l.take (Sha.cut l.length)) i rfl
    rw [List.length_take] at this
    simp only [List.length_cons]; omega
   ·rw [Sha.path_high h hge]
    have := ih _ (by rw [List.length_drop]; omega) (l.drop (Sha.cut l.length)) (i - Sha.cut l.length) rfl
    rw [List.length_drop] at this
    simp only [List.length_cons]; omega
theorem mL {w w' : World} {r : Option Nat} (hb : Below w.heap.size w w') : w.grownBy w' r := ⟨hb.os, hb.tape, hb.output, hb.size, fun i hi _ => hb.block i hi⟩
theorem l9 {w w' : World} {base size n : Nat} {e : TypeId} {v : Value} {xs : List Value} (h : w.ownsRow base e size v n xs) (hb : Below w.heap.size w w') : w'.ownsRow base e size v n xs := by
 cases hq : v.ownBlock with
 | none => exact h.kept (mL (r := none) hb) (.inl hq)
 | some k => exact h.kept (mL (r := none) hb) (.inr (by rw [hq]; simp))
theorem rP : ElemT Tryd.prog 36 47 (.agg (u8s (List.replicate 32 0)).toArray) 32 32 := ⟨Tryd.underlying36, by kernel_rfl, rfl, by omega⟩
theorem wa (v : Value) (ls : List (List UInt8)) (i : Int) (w : World) (hB : BB w v ls) (hi : i < 0 ∨ (ls.length : Int) ≤ i) (hF : ls.length ≤ 1000000) :
  Calls Tryd.prog 39 #[v, .int .i64 i] w fun e w' => e = .returned (.tuple #[.slice none 0 0, .int .i64 1]) ∧ w = w' := by
 obtain ⟨vs, hvs, hS, hel⟩ := hB
 obtain ⟨ao, cap, rfl⟩ := iO hS
 clear hS hel hvs
 obtain ⟨n, hN⟩ : ∃ n, n = ls.length := ⟨_, rfl⟩
 rw [← hN] at hi hF ⊢
 clear hN
 by_cases h0 : i < 0
 ·go_enter Tryd.func39, Tryd.ntmps39
  go_wp2
  exact bodyPost_ret (results_tmp2 rfl _ _ _) rfl ⟨rfl, rfl⟩
 ·have h1 : (n : Int) ≤ i := by omega
  go_enter Tryd.func39, Tryd.ntmps39
  go_wp2
  exact bodyPost_ret (results_tmp2 rfl _ _ _) rfl ⟨rfl, rfl⟩
set_option maxHeartbeats 400000 in
theorem wJ (v : Value) (ls : List (List UInt8)) (i : Nat) (w : World) (hg : ij w) (hB : BB w v ls) (hF : Fit ls) (hi : i < ls.length) :
  Calls Tryd.prog 39 #[v, .int .i64 i] w fun e w' => ∃ v', e = .returned (.tuple #[v', .int .i64 0]) ∧ w'.ownsRow w.heap.size 47 32 v' (Sha.proof ls i).length (cA (Sha.proof ls i)) ∧ Below w.heap.size w w' := by
 obtain ⟨vs, hvs, hS, hel⟩ := id hB
 obtain ⟨ao, cap, rfl⟩ := iO hS
 have hn := hF.1
 have HG := Lib.hid hg
 have HB := Lib.hid hB
 have HF := Lib.hid hF
 clear hg hB hF hS hel hvs
 obtain ⟨n, hN⟩ : ∃ n, n = ls.length := ⟨_, rfl⟩
 rw [← hN] at hi hn HB ⊢
 have HN := Lib.hid hN; clear hN
 go_enter Tryd.func39, Tryd.ntmps39
 go_wp2
 have hd1 : decide (n ≤ i) = false := decide_eq_false (by omega)
 simp only [hd1, Bool.or_false]
 clear hd1
 go_loopw [0, 1, 6] (fun x y o wr => ∃ (l' : List (List UInt8)) (i' : Nat) (acc : List (List UInt8)), Sha.path ls i = acc ++ Sha.path l' i' ∧ (∃ ao cap, x = .slice ao l'.length cap) ∧ BB w x l' ∧ Fit l' ∧ i' < l'.length ∧ l'.length + acc.length ≤ n ∧ y = .int .i64 i' ∧
  wr.ownsRow w.heap.size 47 32 o acc.length (cA acc) ∧ Below w.heap.size w wr) (fun x _ _ _ => nn x)
 case atStart => exact ⟨ls, i, [], rfl, ⟨ao, cap, by rw [HN.out]⟩, HB.out, HF.out, by have := HN.out; omega, by simp; have := HN.out; omega, rfl, World.ownsRow_nil _ _ _ _, Below.refl _ _⟩
 case round =>
  obtain ⟨l', i', acc, hpath, ⟨ao', cap', rfl⟩, hBB, hF', hi', hle, rfl, hown, hbel⟩ := hrel
  rcases Nat.lt_or_ge l'.length 2 with h2 | h2
  ·have hacc : Sha.path ls i = acc := by rw [hpath, Sha.path_one _ h2]; simp
   have hacc32 : Len32 acc := by rw [← hacc]; exact mV _ _ _ rfl
   have hpr : Sha.proof ls i = acc.reverse := by unfold Sha.proof; rw [hacc]
   obtain ⟨n', hN'⟩ : ∃ n', n' = l'.length := ⟨_, rfl⟩
   rw [← hN'] at h2 hle ⊢
   have HP := Lib.hid hpr
   have H32 := Lib.hid hacc32
   have HBel := Lib.hid hbel
   have HOwn := Lib.hid hown
   clear hacc hpr hacc32 hbel hown hpath hBB hF' hi' hN'
   rcases Nat.eq_zero_or_pos acc.length with h0 | h0
   ·have hnil : acc = [] := List.length_eq_zero_iff.1 h0
    subst hnil
    have hu : u6 = .slice none 0 0 ∨ ∃ g cp, u6 = .slice (some ⟨g, 0, none⟩) 0 cp := by
     rcases HOwn.out.2 with ⟨h, _⟩ | ⟨g, cp, cur, h, _⟩
     ·exact .inl h
     ·exact .inr ⟨g, cp, h⟩
    have ho := HOwn.out
    obtain ⟨ao2, cp2, rfl⟩ : ∃ ao cp, u6 = .slice ao 0 cp := by
     rcases hu with h | ⟨g, cp, h⟩
     ·exact ⟨none, 0, h⟩
     ·exact ⟨_, cp, h⟩
    clear hu h0 ho
    go_wp2_with (go_at_call 66; refine Hid.out ?_)
    refine dv ?_
    refine (sj ao2 cp2 _).mono ?_
    rintro e w2 ⟨rfl, rfl⟩
    go_wp2
    refine bodyPost_ret (results_tmp2 rfl _ _ _) rfl ⟨_, rfl, ?_, HBel.out⟩
    rw [HP.out]
    exact HOwn.out
   ·obtain ⟨k, hk⟩ : ∃ k, acc.length = k + 1 := ⟨acc.length - 1, by omega⟩
    have ho := HOwn.out
    rw [hk] at ho
    obtain ⟨g, cp, rfl, hg1, hg2⟩ := pm ho
    rw [← hk] at ho ⊢
    obtain ⟨cu0, hgt⟩ : ∃ cs, wr.heap[g]? = some (.cells cs 47) := by
     rcases ho.2 with ⟨h, _⟩ | ⟨g', cp', cu, h, _, h2, _⟩
     ·cases h
     ·simp only [Value.slice.injEq, Option.some.injEq, Addr.mk.injEq] at h
      obtain ⟨⟨rfl, _⟩, _⟩ := h
      exact ⟨cu, h2⟩
    obtain ⟨cur, hA, htk, hcap1, hcap2, hcl⟩ := uo ho
    have hcur : cur = cA acc ++ cur.drop (acc.length * 32) := by rw [← htk, List.take_append_drop]
    rw [hcur] at hA
    obtain ⟨tl, htl⟩ : ∃ tl, tl = cur.drop (acc.length * 32) := ⟨_, rfl⟩
    rw [← htl] at hA
    have HA := Lib.hid hA
    have htl2 : tl.length = cp * 32 - acc.length * 32 := by rw [htl, List.length_drop, hcl]
    have HTL := Lib.hid htl2
    clear hA hcur htk htl hcl ho hk htl2
    go_wp2_with (go_at_call 66; refine Hid.out ?_)
    refine dv ?_
    refine (tZ g cp acc tl _ (by omega) (by omega) hcap2 HA.out H32.out).mono ?_
    rintro e w2 ⟨rfl, hA2, hgr, hst⟩
    have HT := Lib.hid (hst _ _ hgt)
    clear hst hgt
    have HB2 := Lib.hid (HBel.out.grown hgr HBel.out.size (by intro k hk; cases hk; exact hg1))
    have HA2 := Lib.hid hA2
    clear hA2 hgr
    go_wp2
    refine bodyPost_ret (results_tmp2 rfl _ _ _) rfl ⟨_, rfl, ?_, HB2.out⟩
    have hl : (Sha.proof ls i).length = acc.length := by rw [HP.out, List.length_reverse]
    rw [hl, HP.out]
    obtain ⟨cs', hcs'⟩ := HT.out
    obtain ⟨T0, hT0⟩ := HA2.out
    have hee := hT0.symm.trans hcs'
    simp only [Option.some.injEq, Obj.cells.injEq] at hee
    obtain ⟨hc0, rfl, _⟩ := hee
    have hls : (cA acc.reverse).length = acc.length * 32 := by rw [gg H32.out.reverse, List.length_reverse]
    refine ⟨hls, .inr ⟨g, cp, _, rfl, hg1, hT0, hcap1, ?_, ?_, ?_⟩⟩
    ·unfold maxLen; omega
    ·have := HTL.out; simp [hls]; omega
    ·simp [hls]
  ·obtain ⟨b, off, rfl⟩ : ∃ b off, ao' = some ⟨b, off, none⟩ := by
    obtain ⟨vs, hvs, hS, hel⟩ := hBB
    obtain ⟨b, o, cap, e, _⟩ := kY hS (by omega)
    simp only [Value.slice.injEq] at e
    exact ⟨b, o, e.1⟩
   have hcap : l'.length ≤ cap' ∧ cap' ≤ 9223372036854775807 := by
    obtain ⟨vs, hvs, hS, hel⟩ := hBB
    obtain ⟨b, o, cap, e, h1, h2, _⟩ := kY hS (by omega)
    simp only [Value.slice.injEq] at e
    obtain ⟨_, _, rfl⟩ := e
    exact ⟨h1, h2⟩
   have hn' := hF'.1
   have c1 := Sha.cut_lt h2
   have c0 := Sha.cut_pos l'.length
   rcases Nat.lt_or_ge i' (Sha.cut l'.length) with hlt | hge
   ·have hp := Sha.path_low h2 hlt
    have hBd := qT hBB (Sha.cut l'.length) (by omega)
    have hBt := qQ hBB (Sha.cut l'.length) (by omega)
    have HP := Lib.hid hp
    have HBd := Lib.hid hBd
    have HBt := Lib.hid hBt
    have HF' := Lib.hid hF'
    have HPath := Lib.hid hpath
    have HOwn := Lib.hid hown
    have HBel := Lib.hid hbel
    have HLe := Lib.hid hle
    clear hp hBd hBt hF' hpath hown hbel hBB hle
    obtain ⟨n', hN'⟩ : ∃ n', n' = l'.length := ⟨_, rfl⟩
    obtain ⟨m, hM⟩ : ∃ m, m = Sha.cut n' := ⟨_, rfl⟩
    rw [← hN'] at hi' h2 hn' c1 c0 hlt hcap HP HBd HBt HLe ⊢
    rw [← hM] at c1 c0 hlt HP HBd HBt
    have HM := Lib.hid hM
    have HN' := Lib.hid hN'
    clear hM hN'
    obtain ⟨hc1, hc2⟩ := hcap
    go_wp2_with (go_at_call 61; refine Hid.out ?_)
    refine dv ?_
    refine (mD n' _ h2 (by omega)).mono ?_
    rintro e w1 ⟨rfl, rfl⟩
    rw [← HM.out]
    go_wp2_with (go_at_call 32; refine Hid.out ?_)
    refine dv ?_
    refine (pf _ _ _ _ rfl (HG.out.below' HBel.out) (HBd.out.below HBel.out) (HF'.out.drop m)).mono ?_
    rintro e w1 ⟨rfl, hb1⟩
    have HO1 := Lib.hid (l9 HOwn.out hb1)
    go_wp2_with (first | refine ld rP rfl _ rfl _ rfl (by rw [cF]) (by omega) ?_ | (at_builtin; refine Hid.out ?_))
    refine dv ?_
    have HA1 := Lib.hid (Arr.new w1 (u8s (Sha.root (l'.drop m))) 47)
    refine mm rP rfl _ _ rfl w.heap.size _ acc.length (cA acc) rfl (l9 HO1.out ((Below.refl _ _).alloc (Nat.le_refl _) _)) _ rfl _ HA1.out (by rw [cF]) (dl _) (by have := HLe.out; omega) (by have := HLe.out; omega) (by have := HBel.out.size; have := hb1.size; simp; omega) ?_
    intro g' cp w2 hown2 hg2 hb2 hlt2
    have hB2 : Below w.heap.size w w2 := ((HBel.out.trans (hb1.mono HBel.out.size)).alloc (Nat.le_trans HBel.out.size hb1.size) _).grown hg2 (by have := HBel.out.size; have := hb1.size; simp; omega) (fun k hk => (HO1.out.lt k hk).1)
    have HB2 := Lib.hid hB2
    have HO2 := Lib.hid hown2
    clear hB2 hown2 hg2 HA1 HO1 hb1 hlt2 hb2 HOwn HBel
    go_wp2
    go_roundw
    case rel =>
     have e1 := HN'.out
     have hlk : (l'.take m).length = m := by simp; omega
     refine ⟨l'.take m, i', acc ++ [Sha.root (l'.drop m)], by rw [HPath.out, HP.out]; simp, ⟨_, _, by rw [hlk]⟩, HBt.out, HF'.out.take m, by rw [hlk]; omega, by rw [hlk, List.length_append]; have := HLe.out; simp; omega, by go_num, ?_, HB2.out⟩
     have := HO2.out
     rw [← lJ] at this
     simpa using this
    case measure => simp [nn]; omega
   ·have hp := Sha.path_high h2 hge
    have hBd := qT hBB (Sha.cut l'.length) (by omega)
    have hBt := qQ hBB (Sha.cut l'.length) (by omega)
    have HP := Lib.hid hp
    have HBd := Lib.hid hBd
    have HBt := Lib.hid hBt
    have HF' := Lib.hid hF'
    have HPath := Lib.hid hpath
    have HOwn := Lib.hid hown
    have HBel := Lib.hid hbel
    have HLe := Lib.hid hle
    clear hp hBd hBt hF' hpath hown hbel hBB hle
    obtain ⟨n', hN'⟩ : ∃ n', n' = l'.length := ⟨_, rfl⟩
    obtain ⟨m, hM⟩ : ∃ m, m = Sha.cut n' := ⟨_, rfl⟩
    rw [← hN'] at hi' h2 hn' c1 c0 hge hcap HP HBd HBt HLe ⊢
    rw [← hM] at c1 c0 hge HP HBd HBt
    have HM := Lib.hid hM
    have HN' := Lib.hid hN'
    clear hM hN'
    obtain ⟨hc1, hc2⟩ := hcap
    go_wp2_with (go_at_call 61; refine Hid.out ?_)
    refine dv ?_
    refine (mD n' _ h2 (by omega)).mono ?_
    rintro e w1 ⟨rfl, rfl⟩
    rw [← HM.out]
    go_wp2_with (go_at_call 32; refine Hid.out ?_)
    refine dv ?_
    refine (pf _ _ _ _ rfl (HG.out.below' HBel.out) (HBt.out.below HBel.out) (HF'.out.take m)).mono ?_
    rintro e w1 ⟨rfl, hb1⟩
    have HO1 := Lib.hid (l9 HOwn.out hb1)
    go_wp2_with (first | refine ld rP rfl _ rfl _ rfl (by rw [cF]) (by omega) ?_ | (at_builtin; refine Hid.out ?_))
    refine dv ?_
    have HA1 := Lib.hid (Arr.new w1 (u8s (Sha.root (l'.take m))) 47)
    refine mm rP rfl _ _ rfl w.heap.size _ acc.length (cA acc) rfl (l9 HO1.out ((Below.refl _ _).alloc (Nat.le_refl _) _)) _ rfl _ HA1.out (by rw [cF]) (dl _) (by have := HLe.out; omega) (by have := HLe.out; omega) (by have := HBel.out.size; have := hb1.size; simp; omega) ?_
    intro g' cp w2 hown2 hg2 hb2 hlt2
    have hB2 : Below w.heap.size w w2 := ((HBel.out.trans (hb1.mono HBel.out.size)).alloc (Nat.le_trans HBel.out.size hb1.size) _).grown hg2 (by have := HBel.out.size; have := hb1.size; simp; omega) (fun k hk => (HO1.out.lt k hk).1)
    have HB2 := Lib.hid hB2
    have HO2 := Lib.hid hown2
    clear hB2 hown2 hg2 HA1 HO1 hb1 hlt2 hb2 HOwn HBel
    go_wp2
    go_roundw
    case rel =>
     have e1 := HN'.out
     have hlk : (l'.drop m).length = n' - m := by simp; omega
     refine ⟨l'.drop m, i' - m, acc ++ [Sha.root (l'.take m)], by rw [HPath.out, HP.out]; simp, ⟨_, _, by rw [hlk]⟩, HBd.out, HF'.out.drop m, by rw [hlk]; omega, by rw [hlk, List.length_append]; have := HLe.out; simp; omega, by go_num, ?_, HB2.out⟩
     have := HO2.out
     rw [← lJ] at this
     simpa using this
    case measure => simp [nn]; omega
end
section
open Go.RowKit
theorem tQ (ls : List (List UInt8)) (i : Nat) : Len32 (Sha.proof ls i) := by
 intro x hx
 unfold Sha.proof at hx
 exact mV _ ls i rfl x (by simpa using hx)
theorem vh (ls : List (List UInt8)) (i : Int) (hi : i < 0 ∨ (ls.length : Int) ≤ i) (hF : ls.length ≤ 1000000) : aq Tryd.prog HG 39 [cJ ls, .v (.int .i64 i)] (.tup [.list 32 [] true, .v (.int .i64 1)]) := by
 intro C w vs hG hk ha
 obtain ⟨v, u, rfl, hv, hu⟩ := rU ha
 rw [bw hu]
 refine (wa v ls i w (pB hv hk) hi hF).mono ?_
 rintro e w' ⟨rfl, rfl⟩
 exact ⟨_, C, rfl, .refl hk, .tup _ _ (.ocons _ _ _ _ (.nil _ _ _ _ ⟨Nat.le_refl _, fun _ => rfl, by omega, fun _ => rfl, fun _ h => by cases h⟩) (.ocons _ _ _ _ (.v _) .onil))⟩
theorem yJ (ls : List (List UInt8)) (i : Nat) (hF : Fit ls) (hi : i < ls.length) : aq Tryd.prog HG 39 [cJ ls, .v (.int .i64 i)] (.tup [cT (Sha.proof ls i), .v (.int .i64 0)]) := by
 intro C w vs hG hk ha
 obtain ⟨v, u, rfl, hv, hu⟩ := rU ha
 rw [bw hu]
 refine (wJ v ls i w (qy hG hk) (pB hv hk) hF hi).mono ?_
 rintro e w' ⟨v', rfl, ho, hb⟩
 obtain ⟨C', hm, hr⟩ := yW (xs := (Sha.proof ls i).map aJ) hk hb (Nat.le_refl _) ho (by
  intro x hx
  obtain ⟨s, hs, rfl⟩ := List.mem_map.1 hx
  simpa [aJ] using tQ ls i s hs) (by simp) (by rw [uL]; exact rj (vS _))
 exact ⟨_, C', rfl, hm, .tup _ _ (.ocons _ _ _ _ hr (.ocons _ _ _ _ (.v _) .onil))⟩
theorem zq (root b : List UInt8) (n i : Int) (p : List (List UInt8)) (hr : root.length = 32) (hb : b.length ≤ 900000) (h32 : Len32 p) (hpn : p.length ≤ 1000000) (hn : n ≤ 4294967296) :
  aq Tryd.prog HG 46 [cQ root, .v (.int .i64 n), .v (.int .i64 i), bk b, cT p] (.v (.bool (Sha.check root n i b p))) := by
 intro C w vs hG hk ha
 cases ha with | ocons _ v0 _ vs h0 ha =>
 cases ha with | ocons _ v1 _ vs h1 ha =>
 cases ha with | ocons _ v2 _ vs h2 ha =>
 obtain ⟨v3, v4, rfl, h3, h4⟩ := rU ha
 rw [zn h0, bw h1, bw h2]
 refine (wy root b n i p v3 v4 w hr hb (qy hG hk) (sq h3 hk) (zg h4 hk) h32 hpn hn).mono ?_
 rintro e w' ⟨rfl, hb⟩
 exact ⟨_, C, rfl, .of_below hk hb, .v _⟩
end
section
open Go.RowKit
theorem zz : ElemT Tryd.prog 61 24 (.slice none 0 0) 1 24 := ⟨Tryd.underlying61, by kernel_rfl, rfl, by decide⟩
theorem bu {s : List UInt8} (h : s.length = 32) : (aJ s).length = 32 := by simp [aJ, h]
def vI (p : List (List UInt8)) : Prop := ∀ s ∈ p, s.length = 32
set_option maxRecDepth 100000
theorem zw (n k : Nat) (h : 2 ^ k < n) (h' : n ≤ 2 * 2 ^ k) : 2 ^ k = Sha.cut n := (Sha.cut_eq (by have := Nat.pow_pos (n := k) (show 0 < 2 by omega); omega) h h').symm
theorem Bl (n : Nat) (h1 : 2 ≤ n) (h2 : n ≤ 4611686018427387904) (G : Nat → Option D) : aq Tryd.prog G 57 [.v (.int .i64 n)] (.v (.int .i64 (Sha.cut n : Nat))) := by
 refine aq.of Tryd.func57 rfl Tryd.ntmps57 (by simp) ?_; intro F hF h0 hT; simp only [List.zipIdx_cons, List.zipIdx_nil, List.map_cons, List.map_nil, Nat.zero_add, Nat.reduceAdd]
 refine Sm.seq ?_
 refine ab hF rfl ?_
 refine SmG.v hF rfl rfl rfl (aD rfl rfl) ?_
 refine SmG.nil ?_
 refine ac ?_
 refine Sm.seq ?_
 refine ab hF rfl ?_
 refine SmG.v hF rfl rfl rfl (aD rfl rfl) ?_
 refine SmG.nil ?_
 refine ac ?_
 refine Sm.seq ?_
 refine Sm.block ?_
 refine Sm.loop (ι := {k : Nat // 2 ^ k < n}) (fun k => ⟨[(0, .d (.v (.int .i64 n))), (3, .d (.v (.int .i64 (2 ^ k.1 : Nat))))], [], 0⟩) (fun k => n - 2 ^ k.1) (⟨0, by simp; omega⟩) ?_ ?_
 ·exact cm (by simp [leE, look, bb]) (by simp [leH, look, rep]) (by first | exact Nat.le_refl _ | (dsimp only; omega))
 rintro ⟨k, hk⟩
 have hpos : 0 < 2 ^ k := Nat.pow_pos (by omega)
 have hs : 2 ^ (k + 1) = 2 * 2 ^ k := by rw [Nat.pow_succ]; omega
 have hc := zw n k hk
 generalize hm : 2 ^ k = m at hs hc hpos ⊢
 simp only [hm] at hk ⊢
 clear hm
 by_cases hlt : 2 * m < n
 ·refine Sm.seq ?_
  refine Sm.seq ?_
  refine ab hF rfl ?_
  refine SmG.v hF rfl rfl rfl (ai rfl rfl) ?_
  refine SmG.v hF rfl rfl rfl (ay rfl rfl rfl (by first | exact lf _ _ _ _ _ (bL _ (by omega)) | exact jt _ _ _ _ _ _ _)) ?_
  refine SmG.v hF rfl rfl rfl (ai rfl rfl) ?_
  refine SmG.v hF rfl rfl rfl (ay rfl rfl rfl (by first | exact bR _ _ _ _ _ (by omega) | exact bU _ _ _ _ _ (by omega) | exact cc _ _ _ _ _ _ _)) ?_
  refine SmG.nil ?_
  refine ac ?_
  refine ca hF rfl ?_
  refine Sm.skip ?_
  refine ac ?_
  refine Sm.block ?_
  refine ab hF rfl ?_
  refine SmG.v hF rfl rfl rfl (ai rfl rfl) ?_
  refine SmG.v hF rfl rfl rfl (ay rfl rfl rfl (by first | exact lf _ _ _ _ _ (bL _ (by omega)) | exact jt _ _ _ _ _ _ _)) ?_
  refine SmG.v hF rfl rfl rfl (aD rfl rfl) ?_
  refine SmG.nil ?_
  refine ar ?_
  refine ac ?_
  refine ⟨⟨k + 1, by omega⟩, by show n - 2 ^ (k + 1) < n - m; omega, ?_⟩
  exact cm (by simp [leE, look, bb, hs]) (by simp [leH, look, rep, hs]) (by first | exact Nat.le_refl _ | (dsimp only; omega))
 ·refine Sm.seq ?_
  refine Sm.seq ?_
  refine ab hF rfl ?_
  refine SmG.v hF rfl rfl rfl (ai rfl rfl) ?_
  refine SmG.v hF rfl rfl rfl (ay rfl rfl rfl (by first | exact lf _ _ _ _ _ (bL _ (by omega)) | exact jt _ _ _ _ _ _ _)) ?_
  refine SmG.v hF rfl rfl rfl (ai rfl rfl) ?_
  refine SmG.v hF rfl rfl rfl (ay rfl rfl rfl (by first | exact bR _ _ _ _ _ (by omega) | exact bU _ _ _ _ _ (by omega) | exact cc _ _ _ _ _ _ _)) ?_
  refine SmG.nil ?_
  refine ac ?_
  refine bi hF rfl ?_
  refine Sm.exit ?_
  simp only [cN, fK, reduceIte, reduceCtorEq]
  refine Sm.seq ?_
  refine ab hF rfl ?_
  refine SmG.v hF rfl rfl rfl (ai rfl rfl) ?_
  refine SmG.v hF rfl rfl rfl (aD rfl rfl) ?_
  refine SmG.nil ?_
  refine ac ?_
  refine Sm.ret ?_
  refine ⟨_, rfl, ?_⟩; dsimp only
  rw [← hc (by omega)]
  exact D.le.refl _
end
section
open Go.RowKit
set_option maxRecDepth 100000
section
variable (P : Program) (t : TypeId) (x y : Operand)
theorem iF (a b : UInt32) : bd P (do eqGuard .add t x y (.int .u32 a.toNat) (.int .u32 b.toNat); binOp .add t (.int .u32 a.toNat) (.int .u32 b.toNat)) = some (.int .u32 ((a + b).toNat : Int)) := by rw [cU, xp]
theorem iD (a b : UInt32) : bd P (do eqGuard .xor t x y (.int .u32 a.toNat) (.int .u32 b.toNat); binOp .xor t (.int .u32 a.toNat) (.int .u32 b.toNat)) = some (.int .u32 ((a ^^^ b).toNat : Int)) := by
 rw [ip]; exact congrArg (fun n => some (Value.int .u32 n)) (nv a b)
theorem oa (a b : UInt32) : bd P (do eqGuard .and t x y (.int .u32 a.toNat) (.int .u32 b.toNat); binOp .and t (.int .u32 a.toNat) (.int .u32 b.toNat)) = some (.int .u32 ((a &&& b).toNat : Int)) := by
 rw [lj]; exact congrArg (fun n => some (Value.int .u32 n)) (uG a b)
theorem zP (a : UInt32) : bd P (Op.unary .xor (.int .u32 a.toNat)) = some (.int .u32 ((~~~a).toNat : Int)) := by
 rw [← yr a]; rfl
theorem r7 (n : Nat) {b : Int} (k2 : IntKind) (hb : b = (n : Int)) (hn : n ≤ 32) (a : UInt32) : bd P (do eqGuard .shr t x y (.int .u32 a.toNat) (.int k2 b); binOp .shr t (.int .u32 a.toNat) (.int k2 b)) = some (.int .u32 ((Sha.shr a n).toNat : Int)) := by
 rw [tg P t x y .u32 a.toNat b k2 (by omega), ← vd]
 subst hb
 have : min ((n : Int).toNat) IntKind.u32.bits = n := by show min _ 32 = n; omega
 rw [this, Int.fdiv_eq_ediv_of_nonneg _ (Int.le_of_lt (Int.pow_pos (by omega)))]
 norm_cast
theorem zd (p : Nat) (k2 : IntKind) (hp : p < 16777216) : bd P (do eqGuard .shl t x y (.int .u32 p) (.int k2 8); binOp .shl t (.int .u32 p) (.int k2 8)) = some (.int .u32 ((p * 256 : Nat) : Int)) := by
 have e : (2 : Int) ^ (min (8 : Int).toNat IntKind.u32.bits) = 256 := by decide
 rw [wQ P t x y .u32 p 8 k2 (by omega), e, uC _ (by omega)]
 simp
theorem Az (p c : Nat) (hp : p < 16777216) (hc : c < 256) : bd P (do eqGuard .or t x y (.int .u32 ((p * 256 : Nat) : Int)) (.int .u32 c); binOp .or t (.int .u32 ((p * 256 : Nat) : Int)) (.int .u32 c)) = some (.int .u32 ((p * 256 + c : Nat) : Int)) := by
 rw [Ce]
 have := vP p c hp hc
 rw [show (p : Int) * 256 % 4294967296 = ((p * 256 : Nat) : Int) by omega] at this
 exact congrArg (fun n => some (Value.int .u32 n)) this
end
theorem iZ {n : Int} (m : Nat) (x : UInt32) (hn : n = m) (h1 : m ≤ 31) (G : Nat → Option D) : aq Tryd.prog G 92 [.v (.int .i64 n), .v (.int .u32 x.toNat)] (.v (.int .u32 (Sha.rotr x m).toNat)) := by
 intro C w vs hG hk ha
 obtain ⟨v, u, rfl, hv, hu⟩ := rU ha
 rw [bw hv, bw hu]
 subst hn
 refine (xG m x w h1).mono ?_
 rintro e w' ⟨rfl, k, rfl⟩
 exact ⟨_, C, rfl, .of_below hk (below_drewN (Below.refl _ _) k), .v _⟩
theorem zi (G : Nat → Option D) : aq Tryd.prog G 77 [] (.agg 8 (Sha.begin8.map aN)) := by
 refine aq.of Tryd.func77 rfl Tryd.ntmps77 (by simp) ?_; intro F hF h0 hT; simp only [List.zipIdx_cons, List.zipIdx_nil, List.map_cons, List.map_nil, Nat.zero_add, Nat.reduceAdd]
 refine Sm.seq ?_
 refine ab hF rfl ?_
 refine SmG.new hF rfl rfl rfl (aQ rfl rX) ?_
 refine SmG.nil ?_
 refine ac ?_
 refine Sm.seq ?_
 refine ab hF rfl ?_
 refine SmG.v hF rfl rfl rfl (il rfl Tryd.underlying139 rfl (show _ = some (.d (.agg 8 (Sha.begin8.map aN))) from by kernel_rfl)) ?_
 refine SmG.store hF rfl rfl rfl rfl rfl (by simp (disch := omega) only [go_sem, Nat.reduceEqDiff, aI] <;> rfl) ?_
 refine SmG.nil ?_
 refine ac ?_
 refine Sm.ret ?_
 refine ⟨.agg 8 (Sha.begin8.map aN), ?_, D.le.refl _⟩
 kernel_rfl
theorem zY (G : Nat → Option D) : aq Tryd.prog G 91 [] (.agg 64 (Sha.keys64.map aN)) := by
 refine aq.of Tryd.func91 rfl Tryd.ntmps91 (by simp) ?_; intro F hF h0 hT; simp only [List.zipIdx_cons, List.zipIdx_nil, List.map_cons, List.map_nil, Nat.zero_add, Nat.reduceAdd]
 refine Sm.seq ?_
 refine ab hF rfl ?_
 refine SmG.new hF rfl rfl rfl (aQ rfl qk) ?_
 refine SmG.nil ?_
 refine ac ?_
 refine Sm.seq ?_
 refine ab hF rfl ?_
 refine SmG.v hF rfl rfl rfl (il rfl Tryd.underlying154 rfl (show _ = some (.d (.agg 64 (Sha.keys64.map aN))) from by kernel_rfl)) ?_
 refine SmG.store hF rfl rfl rfl rfl rfl (by simp (disch := omega) only [go_sem, Nat.reduceEqDiff, aI] <;> rfl) ?_
 refine SmG.nil ?_
 refine ac ?_
 refine Sm.ret ?_
 refine ⟨.agg 64 (Sha.keys64.map aN), ?_, D.le.refl _⟩
 kernel_rfl
abbrev dW (n : Nat) (l : List UInt32) : Blk := dB n [l.map aN]
theorem xu (l : List UInt32) (i z : Nat) (h : z < 4294967296) : (List.map V.d (List.map aN l)).set i (.d (.v (.int .u32 (z : Int)))) = List.map V.d (List.map aN (l.set i (UInt32.ofNat z))) := by
 rw [List.map_set, List.map_set]
 have : (UInt32.ofNat z).toNat = z := Nat.mod_eq_of_lt h
 rw [aN, this]
theorem rg (l : List UInt32) (i : Nat) (z : UInt32) : (List.map V.d (List.map aN l)).set i (.d (.v (.int .u32 (z.toNat : Int)))) = List.map V.d (List.map aN (l.set i z)) := by
 rw [List.map_set, List.map_set]; rfl
theorem ig (l : List UInt32) (i : Nat) (h : i < l.length) : l[i]? = some (l.getD i 0) := by simp [List.getD, h]
theorem yc (b : List UInt8) (hb : b.length = 64) (G : Nat → Option D) : aq Tryd.prog G 90 [bk b] (.agg 64 ((Sha.spread b).map aN)) := by
 refine aq.of Tryd.func90 rfl Tryd.ntmps90 (by simp) ?_; intro F hF h0 hT; simp only [List.zipIdx_cons, List.zipIdx_nil, List.map_cons, List.map_nil, Nat.zero_add, Nat.reduceAdd]
 refine Sm.seq ?_
 refine ab hF rfl ?_
 refine SmG.new hF rfl rfl rfl (aQ rfl qk) ?_
 refine SmG.nil ?_
 refine ac ?_
 refine Sm.seq ?_
 refine ab hF rfl ?_
 refine SmG.v hF rfl rfl rfl (il rfl Tryd.underlying154 rfl CS) ?_
 refine SmG.new hF rfl rfl rfl (aQ rfl qk) ?_
 refine SmG.store hF rfl rfl rfl rfl rfl (by simp (disch := omega) only [go_sem, Nat.reduceEqDiff, aI] <;> rfl) ?_
 refine SmG.nil ?_
 refine ac ?_
 refine Sm.seq ?_
 refine Sm.seq ?_
 refine ab hF rfl ?_
 refine SmG.v hF rfl rfl rfl (aD rfl rfl) ?_
 refine SmG.nil ?_
 refine ac ?_
 refine Sm.block ?_
 refine Sm.loop (ι := {t : Nat // t ≤ 16}) (fun t => ⟨[(0, .d (bk b)), (2, .ref 0 0 0), (3, .ref 1 0 0), (4, .d (.v (.int .i64 t.1)))], [(1, dW 64 (Sha.fill b (4 * t.1))), (0, dW 64 (List.replicate 64 0))], 2⟩) (fun t => 16 - t.1) (⟨0, by omega⟩) ?_ ?_
 ·refine cm (by simp [leE, look, bb]) ⟨?_, rfl, trivial⟩ (Nat.le_refl _)
  show _ = some (dW 64 (Sha.fill b 0))
  rw [Sha.fill_zero]; rfl
 rintro ⟨t, ht⟩
 simp only
 by_cases hlt : t < 16
 ·refine Sm.seq ?_
  refine Sm.seq ?_
  refine ab hF rfl ?_
  refine SmG.v hF rfl rfl rfl (ai rfl rfl) ?_
  refine SmG.v hF rfl rfl rfl (ay rfl rfl rfl (by first | exact bR _ _ _ _ _ (by omega) | exact bU _ _ _ _ _ (by omega) | exact cc _ _ _ _ _ _ _)) ?_
  refine SmG.nil ?_
  refine ac ?_
  refine ca hF rfl ?_
  refine Sm.skip ?_
  refine ac ?_
  refine Sm.seq ?_
  refine Sm.block ?_
  refine Sm.seq ?_
  refine ab hF rfl ?_
  refine SmG.v hF rfl rfl rfl (aD rfl rfl) ?_
  refine SmG.nil ?_
  refine ac ?_
  refine Sm.block ?_
  refine Sm.loop (ι := {k : Nat // k ≤ 4}) (fun k => ⟨[(0, .d (bk b)), (2, .ref 0 0 0), (3, .ref 1 0 0), (4, .d (.v (.int .i64 t))), (5, .d (.v (.int .i64 k.1)))], [(1, dW 64 (Sha.fill b (4 * t + k.1))), (0, dW 64 (List.replicate 64 0))], 2⟩) (fun k => 4 - k.1) (⟨0, by omega⟩) ?_ ?_
  ·exact cm (by simp [leE, look, bb]) (by simp [leH, look, rep]) (by first | exact Nat.le_refl _ | (dsimp only; omega))
  rintro ⟨k, hk⟩
  simp only
  by_cases hlk : k < 4
  ·have hpl : Sha.part b t k < 16777216 := Nat.lt_of_lt_of_le (Sha.part_lt b t k) (by
    have : (256 : Nat) ^ k ≤ 256 ^ 3 := Nat.pow_le_pow_right (by omega) (by omega)
    simpa using this)
   have hget : (Sha.fill b (4 * t + k))[t]? = some (UInt32.ofNat (Sha.part b t k)) := by
    rw [ig _ _ (by rw [Sha.fill_length]; omega), Sha.fill_get b _ t (by omega)]
    congr 3; omega
   have hw : (UInt32.ofNat (Sha.part b t k)).toNat = Sha.part b t k := Nat.mod_eq_of_lt (by omega)
   have hb1 : b[4 * t + k]? = some (b.getD (4 * t + k) 0) := by simp [List.getD, show 4 * t + k < b.length by omega]
   have hlb : (b.getD (4 * t + k) 0).toNat < 256 := (b.getD (4 * t + k) 0).toNat_lt
   have hset := Sha.fill_succ b (4 * t + k) (by omega)
   rw [show (4 * t + k) / 4 = t by omega, show (4 * t + k) % 4 = k by omega] at hset
   have hst := xu (Sha.fill b (4 * t + k)) t (Sha.part b t k * 256 + (b.getD (4 * t + k) 0).toNat) (by omega)
   rw [← hset] at hst
   generalize b.getD (4 * t + k) 0 = c at hb1 hlb hst
   generalize Sha.part b t k = p at hpl hget hw hst
   have hcast : (4 * (t : Int) + (k : Int)).toNat = 4 * t + k := by omega
   have e1 : 4 * t + (k + 1) = 4 * t + k + 1 := by omega
   refine Sm.seq ?_
   refine Sm.seq ?_
   refine ab hF rfl ?_
   refine SmG.v hF rfl rfl rfl (ai rfl rfl) ?_
   refine SmG.v hF rfl rfl rfl (ay rfl rfl rfl (by first | exact bR _ _ _ _ _ (by omega) | exact bU _ _ _ _ _ (by omega) | exact cc _ _ _ _ _ _ _)) ?_
   refine SmG.nil ?_
   refine ac ?_
   refine ca hF rfl ?_
   refine Sm.skip ?_
   refine ac ?_
   refine Sm.seq ?_
   refine Sm.block ?_
   refine aV hF (by kernel_rfl) rfl 15 (by kernel_rfl) (by kernel_rfl) ?_
   simp only [List.take_succ_cons, List.take_zero, List.take_nil]
   refine ag.v hF rfl rfl rfl (ai rfl rfl) ?_
   refine ag.v hF rfl rfl rfl (ai rfl rfl) ?_
   refine ag.v hF rfl rfl rfl (aB rfl rfl rfl (by simp (disch := omega) only [go_sem, Nat.reduceEqDiff, aI, bk, aL, dY, hget, hw, hb1, hcast, aN] <;> rfl)) ?_
   refine ag.v hF rfl rfl rfl (aU rfl rfl (by simp (disch := omega) only [go_sem, Nat.reduceEqDiff, aI, bk, aL, dY, hget, hw, hb1, hcast, aN] <;> rfl)) ?_
   refine ag.v hF rfl rfl rfl (ay rfl rfl rfl (zd _ _ _ _ p _ hpl)) ?_
   refine ag.v hF rfl rfl rfl (ai rfl rfl) ?_
   refine ag.v hF rfl rfl rfl (ai rfl rfl) ?_
   refine ag.v hF rfl rfl rfl (ay rfl rfl rfl (by first | exact lf _ _ _ _ _ (bL _ (by omega)) | exact jt _ _ _ _ _ _ _)) ?_
   refine ag.v hF rfl rfl rfl (ai rfl rfl) ?_
   refine ag.v hF rfl rfl rfl (ay rfl rfl rfl (by first | exact gG _ _ _ _ _ (bL _ (by omega)) | exact cU _ _ _ _ _ _ _)) ?_
   refine ag.v hF rfl rfl rfl (aB rfl rfl rfl (by simp (disch := omega) only [go_sem, Nat.reduceEqDiff, aI, bk, aL, dY, hget, hw, hb1, hcast, aN] <;> rfl)) ?_
   refine ag.v hF rfl rfl rfl (aU rfl rfl (by simp (disch := omega) only [go_sem, Nat.reduceEqDiff, aI, bk, aL, dY, hget, hw, hb1, hcast, aN] <;> rfl)) ?_
   refine ag.v hF rfl rfl rfl (lk rfl rfl (by first | exact dD rfl rfl (uC _ (by omega)) | (simp (disch := omega) only [go_sem, bk, aL, dY, hget, hw, hb1, hcast, aN] <;> rfl))) ?_
   refine ag.v hF rfl rfl rfl (ay rfl rfl rfl (Az _ _ _ _ p c.toNat hpl hlb)) ?_
   refine ag.v hF rfl rfl rfl (aB rfl rfl rfl (by simp (disch := omega) only [go_sem, Nat.reduceEqDiff, aI, bk, aL, dY, hget, hw, hb1, hcast, aN] <;> rfl)) ?_
   refine ag.last ⟨rfl, ?_⟩
   simp only [List.drop_succ_cons, List.drop_zero, List.drop_nil, List.nil_append, List.cons_append]
   refine SmG.store hF rfl rfl rfl rfl rfl (by simp (disch := omega) only [go_sem, Nat.reduceEqDiff, aI, bk, aL, dY, hget, hw, hb1, hcast, aN] <;> rfl) ?_
   refine SmG.nil ?_
   refine ar ?_
   refine ac ?_
   refine ab hF rfl ?_
   refine SmG.v hF rfl rfl rfl (ai rfl rfl) ?_
   refine SmG.v hF rfl rfl rfl (ay rfl rfl rfl (by first | exact gG _ _ _ _ _ (bL _ (by omega)) | exact cU _ _ _ _ _ _ _)) ?_
   refine SmG.v hF rfl rfl rfl (aD rfl rfl) ?_
   refine SmG.nil ?_
   refine ac ?_
   exact ⟨⟨k + 1, by omega⟩, by show 4 - (k + 1) < 4 - k; omega, by exact cm (by first | (simp [leE, look, bb] <;> omega) | (simp [leE, look, bb, hst, e1] <;> omega)) (by simp only [leH, look, rep, reduceIte, Nat.reduceEqDiff, List.set_cons_zero, List.set_cons_succ, hst, e1, and_self, and_true, and_false, false_and, if_true, if_false] <;> (repeat' first | rfl | constructor)) (by first | exact Nat.le_refl _ | (dsimp only; omega))⟩
  ·obtain rfl : k = 4 := by omega
   refine Sm.seq ?_
   refine Sm.seq ?_
   refine ab hF rfl ?_
   refine SmG.v hF rfl rfl rfl (ai rfl rfl) ?_
   refine SmG.v hF rfl rfl rfl (ay rfl rfl rfl (by first | exact bR _ _ _ _ _ (by omega) | exact bU _ _ _ _ _ (by omega) | exact cc _ _ _ _ _ _ _)) ?_
   refine SmG.nil ?_
   refine ac ?_
   refine bi hF rfl ?_
   refine Sm.exit ?_
   simp only [cN, fK, reduceIte, reduceCtorEq]
   refine ab hF rfl ?_
   refine SmG.v hF rfl rfl rfl (ai rfl rfl) ?_
   refine SmG.v hF rfl rfl rfl (ay rfl rfl rfl (by first | exact gG _ _ _ _ _ (bL _ (by omega)) | exact cU _ _ _ _ _ _ _)) ?_
   refine SmG.v hF rfl rfl rfl (aD rfl rfl) ?_
   refine SmG.nil ?_
   refine ac ?_
   exact ⟨⟨t + 1, by omega⟩, by show 16 - (t + 1) < 16 - t; omega, by exact cm (by first | (simp [leE, look, bb] <;> omega) | (simp [leE, look, bb, show 4 * t + 4 = 4 * (t + 1) by omega] <;> omega)) (by simp only [leH, look, rep, reduceIte, Nat.reduceEqDiff, List.set_cons_zero, List.set_cons_succ, show 4 * t + 4 = 4 * (t + 1) by omega, and_self, and_true, and_false, false_and, if_true, if_false] <;> (repeat' first | rfl | constructor)) (by first | exact Nat.le_refl _ | (dsimp only; omega))⟩
 ·obtain rfl : t = 16 := by omega
  refine Sm.seq ?_
  refine Sm.seq ?_
  refine ab hF rfl ?_
  refine SmG.v hF rfl rfl rfl (ai rfl rfl) ?_
  refine SmG.v hF rfl rfl rfl (ay rfl rfl rfl (by first | exact bR _ _ _ _ _ (by omega) | exact bU _ _ _ _ _ (by omega) | exact cc _ _ _ _ _ _ _)) ?_
  refine SmG.nil ?_
  refine ac ?_
  refine bi hF rfl ?_
  refine Sm.exit ?_
  simp only [cN, fK, reduceIte, reduceCtorEq]
  refine Sm.seq ?_
  refine Sm.seq ?_
  refine ab hF rfl ?_
  refine SmG.v hF rfl rfl rfl (aD rfl rfl) ?_
  refine SmG.nil ?_
  refine ac ?_
  refine Sm.block ?_
  refine Sm.loop (ι := {t : Nat // 16 ≤ t ∧ t ≤ 64}) (fun t => ⟨[(0, .d (bk b)), (2, .ref 0 0 0), (3, .ref 1 0 0), (6, .d (.v (.int .i64 t.1)))], [(1, dW 64 (Sha.grown b t.1)), (0, dW 64 (List.replicate 64 0))], 2⟩) (fun t => 64 - t.1) (⟨16, by omega, by omega⟩) ?_ ?_
  ·refine cm (by simp [leE, look, bb]) ⟨?_, rfl, trivial⟩ (Nat.le_refl _)
   show _ = some (dW 64 (Sha.grown b 16))
   rw [← Sha.grown_first]; rfl
  rintro ⟨t, ht, ht2⟩
  simp only
  by_cases hlt : t < 64
  ·have hln := Sha.grown_length b t ht ht2
   have h1 := ig (Sha.grown b t) (t - 16) (by omega)
   have h2 := ig (Sha.grown b t) (t - 7) (by omega)
   have h3 := ig (Sha.grown b t) (t - 15) (by omega)
   have h4 := ig (Sha.grown b t) (t - 2) (by omega)
   have hset := Sha.grown_succ b t ht hlt
   have hst := rg (Sha.grown b t) t ((Sha.grown b t).getD (t - 16) 0 + (Sha.grown b t).getD (t - 7) 0 + Sha.low ((Sha.grown b t).getD (t - 15) 0) + Sha.high ((Sha.grown b t).getD (t - 2) 0))
   rw [← hset] at hst
   generalize (Sha.grown b t).getD (t - 16) 0 = x1 at h1 hst
   generalize (Sha.grown b t).getD (t - 7) 0 = x2 at h2 hst
   generalize (Sha.grown b t).getD (t - 15) 0 = y at h3 hst
   generalize (Sha.grown b t).getD (t - 2) 0 = z at h4 hst
   simp only [Sha.low, Sha.high] at hst
   have c1 : ((t : Int) - 16).toNat = t - 16 := by omega
   have c2 : ((t : Int) - 7).toNat = t - 7 := by omega
   have c3 : ((t : Int) - 15).toNat = t - 15 := by omega
   have c4 : ((t : Int) - 2).toNat = t - 2 := by omega
   refine Sm.seq ?_
   refine Sm.seq ?_
   refine ab hF rfl ?_
   refine SmG.v hF rfl rfl rfl (ai rfl rfl) ?_
   refine SmG.v hF rfl rfl rfl (ay rfl rfl rfl (by first | exact bR _ _ _ _ _ (by omega) | exact bU _ _ _ _ _ (by omega) | exact cc _ _ _ _ _ _ _)) ?_
   refine SmG.nil ?_
   refine ac ?_
   refine ca hF rfl ?_
   refine Sm.skip ?_
   refine ac ?_
   refine Sm.seq ?_
   refine Sm.block ?_
   refine Sm.seq ?_
   refine ab hF rfl ?_
   refine SmG.v hF rfl rfl rfl (ai rfl rfl) ?_
   refine SmG.v hF rfl rfl rfl (ay rfl rfl rfl (by first | exact i1 _ _ _ _ _ (bL _ (by omega)) | exact iq _ _ _ _ _ _ _)) ?_
   refine SmG.v hF rfl rfl rfl (aB rfl rfl rfl (by simp (disch := omega) only [go_sem, Nat.reduceEqDiff, aI, aN, h1, h2, h3, h4, c1, c2, c3, c4] <;> rfl)) ?_
   refine SmG.v hF rfl rfl rfl (aU rfl rfl (by simp (disch := omega) only [go_sem, Nat.reduceEqDiff, aI, aN, h1, h2, h3, h4, c1, c2, c3, c4] <;> rfl)) ?_
   refine SmG.v hF rfl rfl rfl (aD rfl rfl) ?_
   refine SmG.nil ?_
   refine ac ?_
   refine Sm.seq ?_
   refine ab hF rfl ?_
   refine SmG.v hF rfl rfl rfl (ai rfl rfl) ?_
   refine SmG.v hF rfl rfl rfl (ay rfl rfl rfl (by first | exact i1 _ _ _ _ _ (bL _ (by omega)) | exact iq _ _ _ _ _ _ _)) ?_
   refine SmG.v hF rfl rfl rfl (aB rfl rfl rfl (by simp (disch := omega) only [go_sem, Nat.reduceEqDiff, aI, aN, h1, h2, h3, h4, c1, c2, c3, c4] <;> rfl)) ?_
   refine SmG.v hF rfl rfl rfl (aU rfl rfl (by simp (disch := omega) only [go_sem, Nat.reduceEqDiff, aI, aN, h1, h2, h3, h4, c1, c2, c3, c4] <;> rfl)) ?_
   refine SmG.v hF rfl rfl rfl (aD rfl rfl) ?_
   refine SmG.nil ?_
   refine ac ?_
   refine aV hF (by kernel_rfl) rfl 29 (by kernel_rfl) (by kernel_rfl) ?_
   simp only [List.take_succ_cons, List.take_zero, List.take_nil]
   refine ag.v hF rfl rfl rfl (ai rfl rfl) ?_
   refine ag.v hF rfl rfl rfl (ai rfl rfl) ?_
   refine ag.v hF rfl rfl rfl (ay rfl rfl rfl (by first | exact i1 _ _ _ _ _ (bL _ (by omega)) | exact iq _ _ _ _ _ _ _)) ?_
   refine ag.v hF rfl rfl rfl (aB rfl rfl rfl (by simp (disch := omega) only [go_sem, Nat.reduceEqDiff, aI, aN, h1, h2, h3, h4, c1, c2, c3, c4] <;> rfl)) ?_
   refine ag.v hF rfl rfl rfl (aU rfl rfl (by simp (disch := omega) only [go_sem, Nat.reduceEqDiff, aI, aN, h1, h2, h3, h4, c1, c2, c3, c4] <;> rfl)) ?_
   refine ag.v hF rfl rfl rfl (ai rfl rfl) ?_
   refine ag.v hF rfl rfl rfl (ay rfl rfl rfl (by first | exact i1 _ _ _ _ _ (bL _ (by omega)) | exact iq _ _ _ _ _ _ _)) ?_
   refine ag.v hF rfl rfl rfl (aB rfl rfl rfl (by simp (disch := omega) only [go_sem, Nat.reduceEqDiff, aI, aN, h1, h2, h3, h4, c1, c2, c3, c4] <;> rfl)) ?_
   refine ag.v hF rfl rfl rfl (aU rfl rfl (by simp (disch := omega) only [go_sem, Nat.reduceEqDiff, aI, aN, h1, h2, h3, h4, c1, c2, c3, c4] <;> rfl)) ?_
   refine ag.v hF rfl rfl rfl (ay rfl rfl rfl (by first | exact iF _ _ _ _ _ _ | exact cU _ _ _ _ _ _ _)) ?_
   refine ag.v hF rfl rfl rfl (ai rfl rfl) ?_
   refine ag.c hF rfl rfl (by kernel_rfl) rfl rfl rfl (iZ 7 y rfl (by omega) G) ?_
   refine ag.v hF rfl rfl rfl (ai rfl rfl) ?_
   refine ag.c hF rfl rfl (by kernel_rfl) rfl rfl rfl (iZ 18 y rfl (by omega) G) ?_
   refine ag.v hF rfl rfl rfl (ay rfl rfl rfl (by first | exact iD _ _ _ _ _ _ | exact ip _ _ _ _ _ _ _)) ?_
   refine ag.v hF rfl rfl rfl (ai rfl rfl) ?_
   refine ag.v hF rfl rfl rfl (ay rfl rfl rfl (r7 _ _ _ _ 3 _ rfl (by omega) y)) ?_
   refine ag.v hF rfl rfl rfl (ay rfl rfl rfl (by first | exact iD _ _ _ _ _ _ | exact ip _ _ _ _ _ _ _)) ?_
   refine ag.v hF rfl rfl rfl (ay rfl rfl rfl (by first | exact iF _ _ _ _ _ _ | exact cU _ _ _ _ _ _ _)) ?_
   refine ag.v hF rfl rfl rfl (ai rfl rfl) ?_
   refine ag.c hF rfl rfl (by kernel_rfl) rfl rfl rfl (iZ 17 z rfl (by omega) G) ?_
   refine ag.v hF rfl rfl rfl (ai rfl rfl) ?_
   refine ag.c hF rfl rfl (by kernel_rfl) rfl rfl rfl (iZ 19 z rfl (by omega) G) ?_
   refine ag.v hF rfl rfl rfl (ay rfl rfl rfl (by first | exact iD _ _ _ _ _ _ | exact ip _ _ _ _ _ _ _)) ?_
   refine ag.v hF rfl rfl rfl (ai rfl rfl) ?_
   refine ag.v hF rfl rfl rfl (ay rfl rfl rfl (r7 _ _ _ _ 10 _ rfl (by omega) z)) ?_
   refine ag.v hF rfl rfl rfl (ay rfl rfl rfl (by first | exact iD _ _ _ _ _ _ | exact ip _ _ _ _ _ _ _)) ?_
   refine ag.v hF rfl rfl rfl (ay rfl rfl rfl (by first | exact iF _ _ _ _ _ _ | exact cU _ _ _ _ _ _ _)) ?_
   refine ag.v hF rfl rfl rfl (aB rfl rfl rfl (by simp (disch := omega) only [go_sem, Nat.reduceEqDiff, aI, aN, h1, h2, h3, h4, c1, c2, c3, c4] <;> rfl)) ?_
   refine ag.last ⟨rfl, ?_⟩
   simp only [List.drop_succ_cons, List.drop_zero, List.drop_nil, List.nil_append, List.cons_append]
   refine SmG.store hF rfl rfl rfl rfl rfl (by simp (disch := omega) only [go_sem, Nat.reduceEqDiff, aI, aN, h1, h2, h3, h4, c1, c2, c3, c4] <;> rfl) ?_
   refine SmG.nil ?_
   refine ar ?_
   refine ac ?_
   refine ab hF rfl ?_
   refine SmG.v hF rfl rfl rfl (ai rfl rfl) ?_
   refine SmG.v hF rfl rfl rfl (ay rfl rfl rfl (by first | exact gG _ _ _ _ _ (bL _ (by omega)) | exact cU _ _ _ _ _ _ _)) ?_
   refine SmG.v hF rfl rfl rfl (aD rfl rfl) ?_
   refine SmG.nil ?_
   refine ac ?_
   exact ⟨⟨t + 1, by omega, by omega⟩, by show 64 - (t + 1) < 64 - t; omega, by exact cm (by first | (simp [leE, look, bb] <;> omega) | (simp [leE, look, bb, hst] <;> omega)) (by simp only [leH, look, rep, reduceIte, Nat.reduceEqDiff, List.set_cons_zero, List.set_cons_succ, hst, and_self, and_true, and_false, false_and, if_true, if_false] <;> (repeat' first | rfl | constructor)) (by first | exact Nat.le_refl _ | (dsimp only; omega))⟩
  ·obtain rfl : t = 64 := by omega
   have hln := Sha.grown_length b 64 ht ht2
   have hll : (List.map aN (Sha.grown b 64)).length = 64 := by rw [List.length_map, hln]
   refine Sm.seq ?_
   refine Sm.seq ?_
   refine ab hF rfl ?_
   refine SmG.v hF rfl rfl rfl (ai rfl rfl) ?_
   refine SmG.v hF rfl rfl rfl (ay rfl rfl rfl (by first | exact bR _ _ _ _ _ (by omega) | exact bU _ _ _ _ _ (by omega) | exact cc _ _ _ _ _ _ _)) ?_
   refine SmG.nil ?_
   refine ac ?_
   refine bi hF rfl ?_
   refine Sm.exit ?_
   simp only [cN, fK, reduceIte, reduceCtorEq]
   refine Sm.seq ?_
   refine ab hF rfl ?_
   refine SmG.v hF rfl rfl rfl (aU rfl rfl (by simp (disch := omega) only [go_sem, Nat.reduceEqDiff, aI, aN] <;> rfl)) ?_
   refine SmG.store hF rfl rfl rfl rfl rfl (by simp (disch := omega) only [go_sem, Nat.reduceEqDiff, aI, aN] <;> rfl) ?_
   refine SmG.nil ?_
   refine ac ?_
   refine Sm.ret ?_
   refine l7 rfl rfl (by simp (disch := omega) only [go_sem, Nat.reduceEqDiff, aI, hll] <;> rfl) ?_
   rw [Sha.grown_last]; exact D.le.refl _
end
section
open Go.RowKit
set_option maxRecDepth 100000
def i3 (c s : List UInt32) (i : Nat) : List UInt32 := (List.zipWith (· + ·) c s).take i ++ c.drop i
theorem pO (c s : List UInt32) : i3 c s 0 = c := by simp [i3]
theorem wY (c s : List UInt32) (i : Nat) (hl : c.length = s.length) (hi : i < c.length) : (i3 c s i)[i]? = some (c.getD i 0) := by
 unfold i3
 have : ((List.zipWith (· + ·) c s).take i).length = i := by simp [hl]; omega
 rw [List.getElem?_append_right (by omega), this, Nat.sub_self, List.getElem?_drop]
 simp [List.getD, hi]
theorem xa (c s : List UInt32) (i : Nat) (hl : c.length = s.length) (hi : i < c.length) : (i3 c s i).set i (c.getD i 0 + s.getD i 0) = i3 c s (i + 1) := by
 unfold i3
 have h1 : ((List.zipWith (· + ·) c s).take i).length = i := by simp [hl]; omega
 rw [List.set_append_right _ _ (by omega), h1, Nat.sub_self, List.drop_eq_getElem_cons hi, List.set_cons_zero, List.take_succ_eq_append_getElem (by simp; omega)]
 simp [List.getD, hi, show i < s.length by omega]
theorem vU (c s : List UInt32) (hl : c.length = s.length) : i3 c s c.length = List.zipWith (· + ·) c s := by
 unfold i3
 rw [List.take_of_length_le (by simp; omega), List.drop_length, List.append_nil]
theorem tX (w : List UInt32) (s : Sha.S8) (n : Nat) : Sha.rounds w s (n + 1) = Sha.round (Sha.rounds w s n) (Sha.keys64.getD n 0) (w.getD n 0) := rfl
theorem tR (a0 a1 a2 a3 a4 a5 a6 a7 : Int) : fj Tryd.prog 139 [(0, V.d (.v (.int .u32 a0))), (1, V.d (.v (.int .u32 a1))), (2, V.d (.v (.int .u32 a2))), (3, V.d (.v (.int .u32 a3))), (4, V.d (.v (.int .u32 a4))), (5, V.d (.v (.int .u32 a5))), (6, V.d (.v (.int .u32 a6))), (7, V.d (.v (.int .u32 a7)))] = some (.d (.agg 8 [.v (.int .u32 a0), .v (.int .u32 a1), .v (.int .u32 a2), .v (.int .u32 a3), .v (.int .u32 a4), .v (.int .u32 a5), .v (.int .u32 a6), .v (.int .u32 a7)])) := by kernel_rfl
set_option maxHeartbeats 4000000 in
theorem zQ (S : Sha.S8) (b : List UInt8) (hb : b.length = 64) (G : Nat → Option D) : aq Tryd.prog G 78 [.agg 8 (S.list.map aN), bk b] (.agg 8 ((Sha.after S b).list.map aN)) := by
 have hkeys := zY G
 have hks := tX (Sha.spread b) S
 have hkl : Sha.keys64.length = 64 := by decide
 have haf : Sha.after S b = Sha.plus S (Sha.rounds (Sha.spread b) S 64) := rfl
 generalize Sha.keys64 = K at hkeys hks hkl
 have hwl : (Sha.spread b).length = 64 := by rw [← Sha.grown_last, Sha.grown_length b 64 (by omega) (by omega)]
 have hSl : S.list.length = 8 := rfl
 have hKl : (List.map aN K).length = 64 := by rw [List.length_map, hkl]
 have hWl : (List.map aN (Sha.spread b)).length = 64 := by rw [List.length_map, hwl]
 have hSS : (List.map aN S.list).length = 8 := by rw [List.length_map, hSl]
 refine aq.of Tryd.func78 rfl Tryd.ntmps78 (by simp) ?_; intro F hF h0 hT; simp only [List.zipIdx_cons, List.zipIdx_nil, List.map_cons, List.map_nil, Nat.zero_add, Nat.reduceAdd]
 refine Sm.seq ?_
 refine ab hF rfl ?_
 refine SmG.new hF rfl rfl rfl (qM rfl rfl (by simp (disch := omega) only [go_sem, Nat.reduceEqDiff, aI, aN] <;> rfl)) ?_
 refine SmG.new hF rfl rfl rfl (aQ rfl rX) ?_
 refine SmG.nil ?_
 refine ac ?_
 refine Sm.seq ?_
 refine ab hF rfl ?_
 refine SmG.v hF rfl rfl rfl (ai rfl rfl) ?_
 refine SmG.call hF rfl rfl (by kernel_rfl) rfl rfl rfl (yc b hb G) ?_
 refine SmG.new hF rfl rfl rfl (aQ rfl qk) ?_
 refine SmG.store hF rfl rfl rfl rfl rfl (by simp (disch := omega) only [go_sem, Nat.reduceEqDiff, aI, aN] <;> rfl) ?_
 refine SmG.nil ?_
 refine ac ?_
 refine Sm.seq ?_
 refine ab hF rfl ?_
 refine SmG.call hF rfl rfl (by kernel_rfl) rfl rfl rfl (hkeys) ?_
 refine SmG.new hF rfl rfl rfl (aQ rfl qk) ?_
 refine SmG.store hF rfl rfl rfl rfl rfl (by simp (disch := omega) only [go_sem, Nat.reduceEqDiff, aI, aN] <;> rfl) ?_
 refine SmG.nil ?_
 refine ac ?_
 refine Sm.seq ?_
 refine ab hF rfl ?_
 refine SmG.v hF rfl rfl rfl (aU rfl rfl (by simp (disch := omega) only [go_sem, Nat.reduceEqDiff, aI, aN] <;> rfl)) ?_
 refine SmG.new hF rfl rfl rfl (aQ rfl rX) ?_
 refine SmG.store hF rfl rfl rfl rfl rfl (by simp (disch := omega) only [go_sem, Nat.reduceEqDiff, aI, aN] <;> rfl) ?_
 refine SmG.nil ?_
 refine ac ?_
 refine Sm.seq ?_
 refine Sm.seq ?_
 refine ab hF rfl ?_
 refine SmG.v hF rfl rfl rfl (aD rfl rfl) ?_
 refine SmG.nil ?_
 refine ac ?_
 refine Sm.block ?_
 generalize hW : Sha.spread b = W at hks haf hwl hWl ⊢
 refine Sm.loop (ι := {t : Nat // t ≤ 64}) (fun t => ⟨[(2, .ref 0 0 0), (4, .ref 1 0 0), (5, .ref 2 0 0), (6, .ref 3 0 0), (7, .ref 4 0 0), (8, .d (.v (.int .i64 t.1)))], [(4, dW 8 (Sha.rounds W S t.1).list), (3, dW 64 K), (2, dW 64 W), (1, dW 8 (List.replicate 8 0)), (0, dW 8 S.list)], 5⟩) (fun t => 64 - t.1) (⟨0, by omega⟩) ?_ ?_
 ·exact cm (by first | (simp [leE, look, bb] <;> omega) | (simp [leE, look, bb, true_and] <;> omega)) (by simp only [leH, look, rep, reduceIte, Nat.reduceEqDiff, List.set_cons_zero, List.set_cons_succ, true_and, and_self, and_true, and_false, false_and, if_true, if_false] <;> (repeat' first | rfl | constructor)) (by first | exact Nat.le_refl _ | (dsimp only; omega))
 rintro ⟨t, ht⟩
 simp only
 by_cases hlt : t < 64
 ·have hk1 := ig K t (by omega)
  have hw1 := ig W t (by omega)
  have hs := hks t
  generalize K.getD t 0 = k at hk1 hs
  generalize W.getD t 0 = x at hw1 hs
  generalize Sha.rounds W S t = c at hs ⊢
  rcases c with ⟨a, b1, c, d, e, f, g, h⟩
  have hrow : (Sha.rounds W S (t + 1)).list = [Sha.tx ⟨a, b1, c, d, e, f, g, h⟩ k x + Sha.ty ⟨a, b1, c, d, e, f, g, h⟩, a, b1, c, d + Sha.tx ⟨a, b1, c, d, e, f, g, h⟩ k x, e, f, g] := by rw [hs]; rfl
  simp only [Sha.tx, Sha.ty, Sha.rot3] at hrow
  rw [show Sha.S8.list ⟨a, b1, c, d, e, f, g, h⟩ = [a, b1, c, d, e, f, g, h] from rfl]
  refine Sm.seq ?_
  refine Sm.seq ?_
  refine ab hF rfl ?_
  refine SmG.v hF rfl rfl rfl (ai rfl rfl) ?_
  refine SmG.v hF rfl rfl rfl (ay rfl rfl rfl (by first | exact bR _ _ _ _ _ (by omega) | exact bU _ _ _ _ _ (by omega) | exact cc _ _ _ _ _ _ _)) ?_
  refine SmG.nil ?_
  refine ac ?_
  refine ca hF rfl ?_
  refine Sm.skip ?_
  refine ac ?_
  refine Sm.seq ?_
  refine Sm.block ?_
  refine Sm.seq ?_
  refine aV hF (by kernel_rfl) rfl 36 (by kernel_rfl) (by kernel_rfl) ?_
  simp only [List.take_succ_cons, List.take_zero, List.take_nil]
  refine ag.v hF rfl rfl rfl (aB rfl rfl rfl (by simp (disch := omega) only [go_sem, Nat.reduceEqDiff, aI, aN, hk1, hw1, hkl, hwl] <;> rfl)) ?_
  refine ag.v hF rfl rfl rfl (aU rfl rfl (by simp (disch := omega) only [go_sem, Nat.reduceEqDiff, aI, aN, hk1, hw1, hkl, hwl] <;> rfl)) ?_
  refine ag.v hF rfl rfl rfl (aB rfl rfl rfl (by simp (disch := omega) only [go_sem, Nat.reduceEqDiff, aI, aN, hk1, hw1, hkl, hwl] <;> rfl)) ?_
  refine ag.v hF rfl rfl rfl (aU rfl rfl (by simp (disch := omega) only [go_sem, Nat.reduceEqDiff, aI, aN, hk1, hw1, hkl, hwl] <;> rfl)) ?_
  refine ag.c hF rfl rfl (by kernel_rfl) rfl rfl rfl (iZ 6 e rfl (by omega) G) ?_
  refine ag.v hF rfl rfl rfl (aB rfl rfl rfl (by simp (disch := omega) only [go_sem, Nat.reduceEqDiff, aI, aN, hk1, hw1, hkl, hwl] <;> rfl)) ?_
  refine ag.v hF rfl rfl rfl (aU rfl rfl (by simp (disch := omega) only [go_sem, Nat.reduceEqDiff, aI, aN, hk1, hw1, hkl, hwl] <;> rfl)) ?_
  refine ag.c hF rfl rfl (by kernel_rfl) rfl rfl rfl (iZ 11 e rfl (by omega) G) ?_
  refine ag.v hF rfl rfl rfl (ay rfl rfl rfl (by first | exact iD _ _ _ _ _ _ | exact ip _ _ _ _ _ _ _)) ?_
  refine ag.v hF rfl rfl rfl (aB rfl rfl rfl (by simp (disch := omega) only [go_sem, Nat.reduceEqDiff, aI, aN, hk1, hw1, hkl, hwl] <;> rfl)) ?_
  refine ag.v hF rfl rfl rfl (aU rfl rfl (by simp (disch := omega) only [go_sem, Nat.reduceEqDiff, aI, aN, hk1, hw1, hkl, hwl] <;> rfl)) ?_
  refine ag.c hF rfl rfl (by kernel_rfl) rfl rfl rfl (iZ 25 e rfl (by omega) G) ?_
  refine ag.v hF rfl rfl rfl (ay rfl rfl rfl (by first | exact iD _ _ _ _ _ _ | exact ip _ _ _ _ _ _ _)) ?_
  refine ag.v hF rfl rfl rfl (ay rfl rfl rfl (by first | exact iF _ _ _ _ _ _ | exact cU _ _ _ _ _ _ _)) ?_
  refine ag.v hF rfl rfl rfl (aB rfl rfl rfl (by simp (disch := omega) only [go_sem, Nat.reduceEqDiff, aI, aN, hk1, hw1, hkl, hwl] <;> rfl)) ?_
  refine ag.v hF rfl rfl rfl (aU rfl rfl (by simp (disch := omega) only [go_sem, Nat.reduceEqDiff, aI, aN, hk1, hw1, hkl, hwl] <;> rfl)) ?_
  refine ag.v hF rfl rfl rfl (aB rfl rfl rfl (by simp (disch := omega) only [go_sem, Nat.reduceEqDiff, aI, aN, hk1, hw1, hkl, hwl] <;> rfl)) ?_
  refine ag.v hF rfl rfl rfl (aU rfl rfl (by simp (disch := omega) only [go_sem, Nat.reduceEqDiff, aI, aN, hk1, hw1, hkl, hwl] <;> rfl)) ?_
  refine ag.v hF rfl rfl rfl (ay rfl rfl rfl (by first | exact oa _ _ _ _ _ _ | exact lj _ _ _ _ _ _ _)) ?_
  refine ag.v hF rfl rfl rfl (aB rfl rfl rfl (by simp (disch := omega) only [go_sem, Nat.reduceEqDiff, aI, aN, hk1, hw1, hkl, hwl] <;> rfl)) ?_
  refine ag.v hF rfl rfl rfl (aU rfl rfl (by simp (disch := omega) only [go_sem, Nat.reduceEqDiff, aI, aN, hk1, hw1, hkl, hwl] <;> rfl)) ?_
  refine ag.v hF rfl rfl rfl (jB rfl rfl (zP _ _)) ?_
  refine ag.v hF rfl rfl rfl (aB rfl rfl rfl (by simp (disch := omega) only [go_sem, Nat.reduceEqDiff, aI, aN, hk1, hw1, hkl, hwl] <;> rfl)) ?_
  refine ag.v hF rfl rfl rfl (aU rfl rfl (by simp (disch := omega) only [go_sem, Nat.reduceEqDiff, aI, aN, hk1, hw1, hkl, hwl] <;> rfl)) ?_
  refine ag.v hF rfl rfl rfl (ay rfl rfl rfl (by first | exact oa _ _ _ _ _ _ | exact lj _ _ _ _ _ _ _)) ?_
  refine ag.v hF rfl rfl rfl (ay rfl rfl rfl (by first | exact iD _ _ _ _ _ _ | exact ip _ _ _ _ _ _ _)) ?_
  refine ag.v hF rfl rfl rfl (ay rfl rfl rfl (by first | exact iF _ _ _ _ _ _ | exact cU _ _ _ _ _ _ _)) ?_
  refine ag.v hF rfl rfl rfl (ai rfl rfl) ?_
  refine ag.v hF rfl rfl rfl (aB rfl rfl rfl (by simp (disch := omega) only [go_sem, Nat.reduceEqDiff, aI, aN, hk1, hw1, hkl, hwl] <;> rfl)) ?_
  refine ag.v hF rfl rfl rfl (aU rfl rfl (by simp (disch := omega) only [go_sem, Nat.reduceEqDiff, aI, aN, hk1, hw1, hkl, hwl] <;> rfl)) ?_
  refine ag.v hF rfl rfl rfl (ay rfl rfl rfl (by first | exact iF _ _ _ _ _ _ | exact cU _ _ _ _ _ _ _)) ?_
  refine ag.v hF rfl rfl rfl (ai rfl rfl) ?_
  refine ag.v hF rfl rfl rfl (aB rfl rfl rfl (by simp (disch := omega) only [go_sem, Nat.reduceEqDiff, aI, aN, hk1, hw1, hkl, hwl] <;> rfl)) ?_
  refine ag.v hF rfl rfl rfl (aU rfl rfl (by simp (disch := omega) only [go_sem, Nat.reduceEqDiff, aI, aN, hk1, hw1, hkl, hwl] <;> rfl)) ?_
  refine ag.v hF rfl rfl rfl (ay rfl rfl rfl (by first | exact iF _ _ _ _ _ _ | exact cU _ _ _ _ _ _ _)) ?_
  refine ag.v hF rfl rfl rfl (aD rfl rfl) ?_
  refine ag.last ⟨rfl, ?_⟩
  simp only [List.drop_succ_cons, List.drop_zero, List.drop_nil, List.nil_append, List.cons_append]
  refine SmG.nil ?_
  refine ac ?_
  refine Sm.seq ?_
  refine aV hF (by kernel_rfl) rfl 30 (by kernel_rfl) (by kernel_rfl) ?_
  simp only [List.take_succ_cons, List.take_zero, List.take_nil]
  refine ag.v hF rfl rfl rfl (aB rfl rfl rfl (by simp (disch := omega) only [go_sem, Nat.reduceEqDiff, aI, aN, hk1, hw1, hkl, hwl] <;> rfl)) ?_
  refine ag.v hF rfl rfl rfl (aU rfl rfl (by simp (disch := omega) only [go_sem, Nat.reduceEqDiff, aI, aN, hk1, hw1, hkl, hwl] <;> rfl)) ?_
  refine ag.c hF rfl rfl (by kernel_rfl) rfl rfl rfl (iZ 2 a rfl (by omega) G) ?_
  refine ag.v hF rfl rfl rfl (aB rfl rfl rfl (by simp (disch := omega) only [go_sem, Nat.reduceEqDiff, aI, aN, hk1, hw1, hkl, hwl] <;> rfl)) ?_
  refine ag.v hF rfl rfl rfl (aU rfl rfl (by simp (disch := omega) only [go_sem, Nat.reduceEqDiff, aI, aN, hk1, hw1, hkl, hwl] <;> rfl)) ?_
  refine ag.c hF rfl rfl (by kernel_rfl) rfl rfl rfl (iZ 13 a rfl (by omega) G) ?_
  refine ag.v hF rfl rfl rfl (ay rfl rfl rfl (by first | exact iD _ _ _ _ _ _ | exact ip _ _ _ _ _ _ _)) ?_
  refine ag.v hF rfl rfl rfl (aB rfl rfl rfl (by simp (disch := omega) only [go_sem, Nat.reduceEqDiff, aI, aN, hk1, hw1, hkl, hwl] <;> rfl)) ?_
  refine ag.v hF rfl rfl rfl (aU rfl rfl (by simp (disch := omega) only [go_sem, Nat.reduceEqDiff, aI, aN, hk1, hw1, hkl, hwl] <;> rfl)) ?_
  refine ag.c hF rfl rfl (by kernel_rfl) rfl rfl rfl (iZ 22 a rfl (by omega) G) ?_
  refine ag.v hF rfl rfl rfl (ay rfl rfl rfl (by first | exact iD _ _ _ _ _ _ | exact ip _ _ _ _ _ _ _)) ?_
  refine ag.v hF rfl rfl rfl (aB rfl rfl rfl (by simp (disch := omega) only [go_sem, Nat.reduceEqDiff, aI, aN, hk1, hw1, hkl, hwl] <;> rfl)) ?_
  refine ag.v hF rfl rfl rfl (aU rfl rfl (by simp (disch := omega) only [go_sem, Nat.reduceEqDiff, aI, aN, hk1, hw1, hkl, hwl] <;> rfl)) ?_
  refine ag.v hF rfl rfl rfl (aB rfl rfl rfl (by simp (disch := omega) only [go_sem, Nat.reduceEqDiff, aI, aN, hk1, hw1, hkl, hwl] <;> rfl)) ?_
  refine ag.v hF rfl rfl rfl (aU rfl rfl (by simp (disch := omega) only [go_sem, Nat.reduceEqDiff, aI, aN, hk1, hw1, hkl, hwl] <;> rfl)) ?_
  refine ag.v hF rfl rfl rfl (ay rfl rfl rfl (by first | exact oa _ _ _ _ _ _ | exact lj _ _ _ _ _ _ _)) ?_
  refine ag.v hF rfl rfl rfl (aB rfl rfl rfl (by simp (disch := omega) only [go_sem, Nat.reduceEqDiff, aI, aN, hk1, hw1, hkl, hwl] <;> rfl)) ?_
  refine ag.v hF rfl rfl rfl (aU rfl rfl (by simp (disch := omega) only [go_sem, Nat.reduceEqDiff, aI, aN, hk1, hw1, hkl, hwl] <;> rfl)) ?_
  refine ag.v hF rfl rfl rfl (aB rfl rfl rfl (by simp (disch := omega) only [go_sem, Nat.reduceEqDiff, aI, aN, hk1, hw1, hkl, hwl] <;> rfl)) ?_
  refine ag.v hF rfl rfl rfl (aU rfl rfl (by simp (disch := omega) only [go_sem, Nat.reduceEqDiff, aI, aN, hk1, hw1, hkl, hwl] <;> rfl)) ?_
  refine ag.v hF rfl rfl rfl (ay rfl rfl rfl (by first | exact oa _ _ _ _ _ _ | exact lj _ _ _ _ _ _ _)) ?_
  refine ag.v hF rfl rfl rfl (ay rfl rfl rfl (by first | exact iD _ _ _ _ _ _ | exact ip _ _ _ _ _ _ _)) ?_
  refine ag.v hF rfl rfl rfl (aB rfl rfl rfl (by simp (disch := omega) only [go_sem, Nat.reduceEqDiff, aI, aN, hk1, hw1, hkl, hwl] <;> rfl)) ?_
  refine ag.v hF rfl rfl rfl (aU rfl rfl (by simp (disch := omega) only [go_sem, Nat.reduceEqDiff, aI, aN, hk1, hw1, hkl, hwl] <;> rfl)) ?_
  refine ag.v hF rfl rfl rfl (aB rfl rfl rfl (by simp (disch := omega) only [go_sem, Nat.reduceEqDiff, aI, aN, hk1, hw1, hkl, hwl] <;> rfl)) ?_
  refine ag.v hF rfl rfl rfl (aU rfl rfl (by simp (disch := omega) only [go_sem, Nat.reduceEqDiff, aI, aN, hk1, hw1, hkl, hwl] <;> rfl)) ?_
  refine ag.v hF rfl rfl rfl (ay rfl rfl rfl (by first | exact oa _ _ _ _ _ _ | exact lj _ _ _ _ _ _ _)) ?_
  refine ag.v hF rfl rfl rfl (ay rfl rfl rfl (by first | exact iD _ _ _ _ _ _ | exact ip _ _ _ _ _ _ _)) ?_
  refine ag.v hF rfl rfl rfl (ay rfl rfl rfl (by first | exact iF _ _ _ _ _ _ | exact cU _ _ _ _ _ _ _)) ?_
  refine ag.v hF rfl rfl rfl (aD rfl rfl) ?_
  refine ag.last ⟨rfl, ?_⟩
  simp only [List.drop_succ_cons, List.drop_zero, List.drop_nil, List.nil_append, List.cons_append]
  refine SmG.nil ?_
  refine ac ?_
  refine ab hF rfl ?_
  refine SmG.v hF rfl rfl rfl (ai rfl rfl) ?_
  refine SmG.v hF rfl rfl rfl (ai rfl rfl) ?_
  refine SmG.v hF rfl rfl rfl (ay rfl rfl rfl (by first | exact iF _ _ _ _ _ _ | exact cU _ _ _ _ _ _ _)) ?_
  refine SmG.v hF rfl rfl rfl (aB rfl rfl rfl (by simp (disch := omega) only [go_sem, Nat.reduceEqDiff, aI, aN, hk1, hw1, hkl, hwl] <;> rfl)) ?_
  refine SmG.v hF rfl rfl rfl (aU rfl rfl (by simp (disch := omega) only [go_sem, Nat.reduceEqDiff, aI, aN, hk1, hw1, hkl, hwl] <;> rfl)) ?_
  refine SmG.v hF rfl rfl rfl (aB rfl rfl rfl (by simp (disch := omega) only [go_sem, Nat.reduceEqDiff, aI, aN, hk1, hw1, hkl, hwl] <;> rfl)) ?_
  refine SmG.v hF rfl rfl rfl (aU rfl rfl (by simp (disch := omega) only [go_sem, Nat.reduceEqDiff, aI, aN, hk1, hw1, hkl, hwl] <;> rfl)) ?_
  refine SmG.v hF rfl rfl rfl (aB rfl rfl rfl (by simp (disch := omega) only [go_sem, Nat.reduceEqDiff, aI, aN, hk1, hw1, hkl, hwl] <;> rfl)) ?_
  refine SmG.v hF rfl rfl rfl (aU rfl rfl (by simp (disch := omega) only [go_sem, Nat.reduceEqDiff, aI, aN, hk1, hw1, hkl, hwl] <;> rfl)) ?_
  refine SmG.v hF rfl rfl rfl (aB rfl rfl rfl (by simp (disch := omega) only [go_sem, Nat.reduceEqDiff, aI, aN, hk1, hw1, hkl, hwl] <;> rfl)) ?_
  refine SmG.v hF rfl rfl rfl (aU rfl rfl (by simp (disch := omega) only [go_sem, Nat.reduceEqDiff, aI, aN, hk1, hw1, hkl, hwl] <;> rfl)) ?_
  refine SmG.v hF rfl rfl rfl (ai rfl rfl) ?_
  refine SmG.v hF rfl rfl rfl (ay rfl rfl rfl (by first | exact iF _ _ _ _ _ _ | exact cU _ _ _ _ _ _ _)) ?_
  refine SmG.v hF rfl rfl rfl (aB rfl rfl rfl (by simp (disch := omega) only [go_sem, Nat.reduceEqDiff, aI, aN, hk1, hw1, hkl, hwl] <;> rfl)) ?_
  refine SmG.v hF rfl rfl rfl (aU rfl rfl (by simp (disch := omega) only [go_sem, Nat.reduceEqDiff, aI, aN, hk1, hw1, hkl, hwl] <;> rfl)) ?_
  refine SmG.v hF rfl rfl rfl (aB rfl rfl rfl (by simp (disch := omega) only [go_sem, Nat.reduceEqDiff, aI, aN, hk1, hw1, hkl, hwl] <;> rfl)) ?_
  refine SmG.v hF rfl rfl rfl (aU rfl rfl (by simp (disch := omega) only [go_sem, Nat.reduceEqDiff, aI, aN, hk1, hw1, hkl, hwl] <;> rfl)) ?_
  refine SmG.v hF rfl rfl rfl (aB rfl rfl rfl (by simp (disch := omega) only [go_sem, Nat.reduceEqDiff, aI, aN, hk1, hw1, hkl, hwl] <;> rfl)) ?_
  refine SmG.v hF rfl rfl rfl (aU rfl rfl (by simp (disch := omega) only [go_sem, Nat.reduceEqDiff, aI, aN, hk1, hw1, hkl, hwl] <;> rfl)) ?_
  refine SmG.v hF rfl rfl rfl (il rfl Tryd.underlying139 rfl (tR _ _ _ _ _ _ _ _)) ?_
  refine SmG.store hF rfl rfl rfl rfl rfl (by simp (disch := omega) only [go_sem, Nat.reduceEqDiff, aI, aN, hk1, hw1, hkl, hwl] <;> rfl) ?_
  refine SmG.nil ?_
  refine ar ?_
  refine ac ?_
  refine ab hF rfl ?_
  refine SmG.v hF rfl rfl rfl (ai rfl rfl) ?_
  refine SmG.v hF rfl rfl rfl (ay rfl rfl rfl (by first | exact gG _ _ _ _ _ (bL _ (by omega)) | exact cU _ _ _ _ _ _ _)) ?_
  refine SmG.v hF rfl rfl rfl (aD rfl rfl) ?_
  refine SmG.nil ?_
  refine ac ?_
  exact ⟨⟨t + 1, by omega⟩, by show 64 - (t + 1) < 64 - t; omega, by exact cm (by first | (simp [leE, look, bb] <;> omega) | (simp [leE, look, bb, hrow, List.map_cons, List.map_nil] <;> omega)) (by simp only [leH, look, rep, reduceIte, Nat.reduceEqDiff, List.set_cons_zero, List.set_cons_succ, hrow, List.map_cons, List.map_nil, and_self, and_true, and_false, false_and, if_true, if_false] <;> (repeat' first | rfl | constructor)) (by first | exact Nat.le_refl _ | (dsimp only; omega))⟩
 ·obtain rfl : t = 64 := by omega
  have hcl : (Sha.rounds W S 64).list.length = 8 := rfl
  have hpl : (Sha.after S b).list = List.zipWith (· + ·) (Sha.rounds W S 64).list S.list := by rw [haf]; rfl
  generalize (Sha.rounds W S 64).list = C at hcl hpl ⊢
  generalize S.list = L at hSl hpl hSS ⊢
  refine Sm.seq ?_
  refine Sm.seq ?_
  refine ab hF rfl ?_
  refine SmG.v hF rfl rfl rfl (ai rfl rfl) ?_
  refine SmG.v hF rfl rfl rfl (ay rfl rfl rfl (by first | exact bR _ _ _ _ _ (by omega) | exact bU _ _ _ _ _ (by omega) | exact cc _ _ _ _ _ _ _)) ?_
  refine SmG.nil ?_
  refine ac ?_
  refine bi hF rfl ?_
  refine Sm.exit ?_
  simp only [cN, fK, reduceIte, reduceCtorEq]
  refine Sm.seq ?_
  refine Sm.seq ?_
  refine ab hF rfl ?_
  refine SmG.v hF rfl rfl rfl (aD rfl rfl) ?_
  refine SmG.nil ?_
  refine ac ?_
  refine Sm.block ?_
  refine Sm.loop (ι := {i : Nat // i ≤ 8}) (fun i => ⟨[(2, .ref 0 0 0), (4, .ref 1 0 0), (7, .ref 4 0 0), (11, .d (.v (.int .i64 i.1)))], [(4, dW 8 (i3 C L i.1)), (1, dW 8 (List.replicate 8 0)), (0, dW 8 L)], 5⟩) (fun i => 8 - i.1) (⟨0, by omega⟩) ?_ ?_
  ·exact cm (by first | (simp [leE, look, bb] <;> omega) | (simp [leE, look, bb, pO] <;> omega)) (by simp only [leH, look, rep, reduceIte, Nat.reduceEqDiff, List.set_cons_zero, List.set_cons_succ, pO, and_self, and_true, and_false, false_and, if_true, if_false] <;> (repeat' first | rfl | constructor)) (by first | exact Nat.le_refl _ | (dsimp only; omega))
  rintro ⟨i, hi⟩
  simp only
  by_cases hlt : i < 8
  ·have h1 := wY C L i (by omega) (by omega)
   have h2 := ig L i (by omega)
   have hst := rg (i3 C L i) i (C.getD i 0 + L.getD i 0)
   rw [xa C L i (by omega) (by omega)] at hst
   generalize C.getD i 0 = x at h1 hst
   generalize L.getD i 0 = y at h2 hst
   refine Sm.seq ?_
   refine Sm.seq ?_
   refine ab hF rfl ?_
   refine SmG.v hF rfl rfl rfl (ai rfl rfl) ?_
   refine SmG.v hF rfl rfl rfl (ay rfl rfl rfl (by first | exact bR _ _ _ _ _ (by omega) | exact bU _ _ _ _ _ (by omega) | exact cc _ _ _ _ _ _ _)) ?_
   refine SmG.nil ?_
   refine ac ?_
   refine ca hF rfl ?_
   refine Sm.skip ?_
   refine ac ?_
   refine Sm.seq ?_
   refine Sm.block ?_
   refine aV hF (by kernel_rfl) rfl 8 (by kernel_rfl) (by kernel_rfl) ?_
   simp only [List.take_succ_cons, List.take_zero, List.take_nil]
   refine ag.v hF rfl rfl rfl (ai rfl rfl) ?_
   refine ag.v hF rfl rfl rfl (aB rfl rfl rfl (by simp (disch := omega) only [go_sem, Nat.reduceEqDiff, aI, aN, h1, h2] <;> rfl)) ?_
   refine ag.v hF rfl rfl rfl (aU rfl rfl (by simp (disch := omega) only [go_sem, Nat.reduceEqDiff, aI, aN, h1, h2] <;> rfl)) ?_
   refine ag.v hF rfl rfl rfl (ai rfl rfl) ?_
   refine ag.v hF rfl rfl rfl (aB rfl rfl rfl (by simp (disch := omega) only [go_sem, Nat.reduceEqDiff, aI, aN, h1, h2] <;> rfl)) ?_
   refine ag.v hF rfl rfl rfl (aU rfl rfl (by simp (disch := omega) only [go_sem, Nat.reduceEqDiff, aI, aN, h1, h2] <;> rfl)) ?_
   refine ag.v hF rfl rfl rfl (ay rfl rfl rfl (by first | exact iF _ _ _ _ _ _ | exact cU _ _ _ _ _ _ _)) ?_
   refine ag.v hF rfl rfl rfl (aB rfl rfl rfl (by simp (disch := omega) only [go_sem, Nat.reduceEqDiff, aI, aN, h1, h2] <;> rfl)) ?_
   refine ag.last ⟨rfl, ?_⟩
   simp only [List.drop_succ_cons, List.drop_zero, List.drop_nil, List.nil_append, List.cons_append]
   refine SmG.store hF rfl rfl rfl rfl rfl (by simp (disch := omega) only [go_sem, Nat.reduceEqDiff, aI, aN, h1, h2] <;> rfl) ?_
   refine SmG.nil ?_
   refine ar ?_
   refine ac ?_
   refine ab hF rfl ?_
   refine SmG.v hF rfl rfl rfl (ai rfl rfl) ?_
   refine SmG.v hF rfl rfl rfl (ay rfl rfl rfl (by first | exact gG _ _ _ _ _ (bL _ (by omega)) | exact cU _ _ _ _ _ _ _)) ?_
   refine SmG.v hF rfl rfl rfl (aD rfl rfl) ?_
   refine SmG.nil ?_
   refine ac ?_
   exact ⟨⟨i + 1, by omega⟩, by show 8 - (i + 1) < 8 - i; omega, by exact cm (by first | (simp [leE, look, bb] <;> omega) | (simp [leE, look, bb, hst] <;> omega)) (by simp only [leH, look, rep, reduceIte, Nat.reduceEqDiff, List.set_cons_zero, List.set_cons_succ, hst, and_self, and_true, and_false, false_and, if_true, if_false] <;> (repeat' first | rfl | constructor)) (by first | exact Nat.le_refl _ | (dsimp only; omega))⟩
  ·obtain rfl : i = 8 := by omega
   have hall := vU C L (by omega)
   rw [hcl] at hall
   have hll : (List.map aN (i3 C L 8)).length = 8 := by rw [hall]; simp [hcl, hSl]
   refine Sm.seq ?_
   refine Sm.seq ?_
   refine ab hF rfl ?_
   refine SmG.v hF rfl rfl rfl (ai rfl rfl) ?_
   refine SmG.v hF rfl rfl rfl (ay rfl rfl rfl (by first | exact bR _ _ _ _ _ (by omega) | exact bU _ _ _ _ _ (by omega) | exact cc _ _ _ _ _ _ _)) ?_
   refine SmG.nil ?_
   refine ac ?_
   refine bi hF rfl ?_
   refine Sm.exit ?_
   simp only [cN, fK, reduceIte, reduceCtorEq]
   refine Sm.seq ?_
   refine ab hF rfl ?_
   refine SmG.v hF rfl rfl rfl (aU rfl rfl (by simp (disch := omega) only [go_sem, Nat.reduceEqDiff, aI, aN, hll] <;> rfl)) ?_
   refine SmG.store hF rfl rfl rfl rfl rfl (by simp (disch := omega) only [go_sem, Nat.reduceEqDiff, aI, aN, hll] <;> rfl) ?_
   refine SmG.nil ?_
   refine ac ?_
   refine Sm.ret ?_
   refine l7 rfl rfl (by simp (disch := omega) only [go_sem, Nat.reduceEqDiff, aI, hll] <;> rfl) ?_
   rw [hall, ← hpl]; exact D.le.refl _
end
section
open Go.RowKit
set_option maxRecDepth 100000
theorem ud {P : Program} {s d : TypeId} {td : TypeDesc} {k2 : IntKind} (z : Nat) (h1 : P.underlying s = some td) (h2 : P.underlying d = some (.int .u8)) : gQ P s d (.d (.v (.int k2 (z : Int)))) = some (.d (dY (UInt8.ofNat z))) := by
 simp only [gQ, sa P .u8 z s d h1 h2 k2, Option.map_some, dY]
 have : IntKind.u8.wrap (z : Int) = ((UInt8.ofNat z).toNat : Int) := by
  rw [IntKind.wrap_u8']
  simp
 rw [this]
theorem pz (l : List UInt8) (b : UInt8) : List.map aL l ++ [[dY b]] = List.map aL (l ++ [b]) := by simp [aL]
theorem wT (n i : Nat) (h : i < 8) : (Sha.lenBytes n).take i ++ [UInt8.ofNat (8 * n / 2 ^ (56 - 8 * i))] = (Sha.lenBytes n).take (i + 1) := (Sha.lenBytes_take n i h).symm
theorem CT (P : Program) (t : TypeId) (x y : Operand) (a n : Nat) {b : Int} (k2 : IntKind) (hb : b = (n : Int)) (hn : n ≤ 64) : bd P (do eqGuard .shr t x y (.int .u64 a) (.int k2 b); binOp .shr t (.int .u64 a) (.int k2 b)) = some (.int .u64 ((a / 2 ^ n : Nat) : Int)) := by
 rw [tg P t x y .u64 a b k2 (by omega)]
 subst hb
 have : min ((n : Int).toNat) IntKind.u64.bits = n := by show min _ 64 = n; omega
 rw [this, Int.fdiv_eq_ediv_of_nonneg _ (Int.le_of_lt (Int.pow_pos (by omega)))]
 norm_cast
theorem xw (b : List UInt8) (hb : b.length ≤ 1000000) (G : Nat → Option D) : aq Tryd.prog G 76 [bk b] (bk (Sha.padded b)) := by
 have hpad : Sha.padded b = b ++ [128] ++ List.replicate (Sha.zeros b.length) 0 ++ Sha.lenBytes b.length := rfl
 have hz : Sha.zeros b.length < 64 := by unfold Sha.zeros; omega
 have hzt := fun j => Sha.zeros_test b.length j
 have hze := Sha.zeros_end b.length
 generalize Sha.zeros b.length = z at hpad hz hzt hze
 refine aq.of Tryd.func76 rfl Tryd.ntmps76 (by simp) ?_; intro F hF h0 hT; simp only [List.zipIdx_cons, List.zipIdx_nil, List.map_cons, List.map_nil, Nat.zero_add, Nat.reduceAdd]
 refine Sm.seq ?_
 refine ab hF rfl ?_
 refine SmG.v hF rfl rfl rfl (aD rfl rfl) ?_
 refine SmG.nil ?_
 refine ac ?_
 refine Sm.seq ?_
 refine ab hF rfl ?_
 refine SmG.v hF rfl rfl rfl (cX rfl rfl (by simp (disch := omega) only [go_sem, Nat.reduceEqDiff, aI, bk, aL] <;> rfl)) ?_
 refine SmG.v hF rfl rfl rfl (ai rfl rfl) ?_
 refine SmG.appendFresh hF kJ rfl rfl rfl rfl rfl rfl (Or.inl rfl) (by simp only [List.length_map]; omega) (by simp only [List.length_map]; omega) ?_
 refine SmG.v hF rfl rfl rfl (aD rfl rfl) ?_
 refine SmG.nil ?_
 refine ac ?_
 refine Sm.seq ?_
 refine ab hF rfl ?_
 refine SmG.v hF rfl rfl rfl (ai rfl rfl) ?_
 refine SmG.v hF rfl rfl rfl (cX rfl rfl (by simp (disch := omega) only [go_sem, Nat.reduceEqDiff, aI, bk, aL] <;> rfl)) ?_
 refine SmG.appendOwn hF kJ rfl rfl rfl rfl rfl rfl rfl (by first | rfl | (simp; done) | (simp; omega)) (Or.inl rfl) (by (repeat' first | exact bn _ | refine bf ?_ | refine ap ?_ (aO _ _ _) | refine ap ?_ (aO _ _ [_]) | refine ap ?_ (bE (by rfl)))) ?_ ?_ ?_; rotate_left; rotate_left; simp only [gC, Pk.v, V.free, rep, bne_self_eq_false, Nat.reduceAdd, Nat.reduceBNe, Nat.reduceBEq, Nat.reduceEqDiff, reduceIte, Bool.false_eq_true]
 rotate_left
 ·simp only [List.length_map, List.length_cons, List.length_nil]; omega
 ·simp only [List.length_map, List.length_cons, List.length_nil]; omega
 refine SmG.v hF rfl rfl rfl (aD rfl rfl) ?_
 refine SmG.nil ?_
 refine ac ?_
 refine Sm.seq ?_
 refine Sm.block ?_
 refine Sm.loop (ι := {j : Nat // j ≤ z}) (fun j => ⟨[(0, .d (bk b)), (3, .sref 0 0 ((b ++ [128] ++ List.replicate j.1 0).map aL).length)], [(0, dB 1 ((b ++ [128] ++ List.replicate j.1 0).map aL))], 1⟩) (fun j => z - j.1) (⟨0, by omega⟩) ?_ ?_
 ·have h0 : List.map aL b ++ [[D.v (.int .u8 128)]] = List.map aL (b ++ [128] ++ List.replicate 0 0) := by
   rw [List.replicate_zero, List.append_nil, ← pz]; rfl
  exact cm (by first | (simp [leE, look, bb] <;> omega) | (simp [leE, look, bb, h0] <;> omega)) (by simp only [leH, look, rep, reduceIte, Nat.reduceEqDiff, List.set_cons_zero, List.set_cons_succ, h0, and_self, and_true, and_false, false_and, if_true, if_false] <;> (repeat' first | rfl | constructor)) (by first | exact Nat.le_refl _ | (dsimp only; omega))
 rintro ⟨j, hj⟩
 simp only
 by_cases hlt : j < z
 ·have hzj := hzt j hlt
  have hrow : List.map aL (b ++ [128] ++ List.replicate j 0) ++ [[D.v (.int .u8 0)]] = List.map aL (b ++ [128] ++ List.replicate (j + 1) 0) := by
   rw [List.replicate_succ', ← List.append_assoc, ← pz]; rfl
  refine Sm.seq ?_
  refine Sm.seq ?_
  refine ab hF rfl ?_
  refine SmG.v hF rfl rfl rfl (ai rfl rfl) ?_
  refine SmG.v hF rfl rfl rfl (fc rfl rfl (by simp (disch := omega) only [go_sem, Nat.reduceEqDiff, aI, bk, aL, List.length_append, List.length_cons, List.length_nil, List.length_replicate] <;> rfl)) ?_
  refine SmG.v hF rfl rfl rfl (ay rfl rfl rfl (by first | exact gG _ _ _ _ _ (bL _ (by omega)) | exact cU _ _ _ _ _ _ _)) ?_
  refine SmG.v hF rfl rfl rfl (ay rfl rfl rfl (by first | exact r9 _ _ _ _ _ (by omega) (by omega) | exact oc _ _ _ _ _ _ _ (by omega))) ?_
  refine SmG.v hF rfl rfl rfl (ay rfl rfl rfl (by first | exact ut _ _ _ _ _ (by omega) | exact uk _ _ _ _ _ (by omega) | exact ou _ _ _ _ _ _ _)) ?_
  refine SmG.nil ?_
  refine ac ?_
  refine ca hF rfl ?_
  refine Sm.skip ?_
  refine ac ?_
  refine Sm.block ?_
  refine ab hF rfl ?_
  refine SmG.v hF rfl rfl rfl (ai rfl rfl) ?_
  refine SmG.v hF rfl rfl rfl (cX rfl rfl (by simp (disch := omega) only [go_sem, Nat.reduceEqDiff, aI, bk, aL, List.length_append, List.length_cons, List.length_nil, List.length_replicate] <;> rfl)) ?_
  refine SmG.appendOwn hF kJ rfl rfl rfl rfl rfl rfl rfl (by first | rfl | (simp; done) | (simp; omega)) (Or.inl rfl) (by (repeat' first | exact bn _ | refine bf ?_ | refine ap ?_ (aO _ _ _) | refine ap ?_ (aO _ _ [_]) | refine ap ?_ (bE (by rfl)))) ?_ ?_ ?_; rotate_left; rotate_left; simp only [gC, Pk.v, V.free, rep, bne_self_eq_false, Nat.reduceAdd, Nat.reduceBNe, Nat.reduceBEq, Nat.reduceEqDiff, reduceIte, Bool.false_eq_true]
  rotate_left
  ·simp only [List.length_map, List.length_append, List.length_cons, List.length_nil, List.length_replicate]; omega
  ·simp only [List.length_map, List.length_append, List.length_cons, List.length_nil, List.length_replicate]; omega
  refine SmG.v hF rfl rfl rfl (aD rfl rfl) ?_
  refine SmG.nil ?_
  refine ar ?_
  refine ac ?_
  exact ⟨⟨j + 1, by omega⟩, by show z - (j + 1) < z - j; omega, by exact cm (by first | (simp [leE, look, bb] <;> omega) | (simp [leE, look, bb, hrow] <;> omega)) (by simp only [leH, look, rep, reduceIte, Nat.reduceEqDiff, List.set_cons_zero, List.set_cons_succ, hrow, and_self, and_true, and_false, false_and, if_true, if_false] <;> (repeat' first | rfl | constructor)) (by first | exact Nat.le_refl _ | (dsimp only; omega))⟩
 ·obtain rfl : j = z := by omega
  refine Sm.seq ?_
  refine Sm.seq ?_
  refine ab hF rfl ?_
  refine SmG.v hF rfl rfl rfl (ai rfl rfl) ?_
  refine SmG.v hF rfl rfl rfl (fc rfl rfl (by simp (disch := omega) only [go_sem, Nat.reduceEqDiff, aI, bk, aL, List.length_append, List.length_cons, List.length_nil, List.length_replicate] <;> rfl)) ?_
  refine SmG.v hF rfl rfl rfl (ay rfl rfl rfl (by first | exact gG _ _ _ _ _ (bL _ (by omega)) | exact cU _ _ _ _ _ _ _)) ?_
  refine SmG.v hF rfl rfl rfl (ay rfl rfl rfl (by first | exact r9 _ _ _ _ _ (by omega) (by omega) | exact oc _ _ _ _ _ _ _ (by omega))) ?_
  refine SmG.v hF rfl rfl rfl (ay rfl rfl rfl (by first | exact ut _ _ _ _ _ (by omega) | exact uk _ _ _ _ _ (by omega) | exact ou _ _ _ _ _ _ _)) ?_
  refine SmG.nil ?_
  refine ac ?_
  refine bi hF rfl ?_
  refine Sm.exit ?_
  simp only [cN, fK, reduceIte, reduceCtorEq]
  refine Sm.seq ?_
  refine ab hF rfl ?_
  refine SmG.v hF rfl rfl rfl (ai rfl rfl) ?_
  refine SmG.v hF rfl rfl rfl (fc rfl rfl (by simp (disch := omega) only [go_sem, Nat.reduceEqDiff, aI, bk, aL, List.length_append, List.length_cons, List.length_nil, List.length_replicate] <;> rfl)) ?_
  refine SmG.v hF rfl rfl rfl (lk rfl rfl (by first | exact dD rfl rfl (uv _ (by omega)) | (simp (disch := omega) only [go_sem, bk, aL, List.length_append, List.length_cons, List.length_nil, List.length_replicate] <;> rfl))) ?_
  refine SmG.v hF rfl rfl rfl (ay rfl rfl rfl (by first | exact lf _ _ _ _ _ (uv _ (by omega)) | exact jt _ _ _ _ _ _ _)) ?_
  refine SmG.v hF rfl rfl rfl (aD rfl rfl) ?_
  refine SmG.nil ?_
  refine ac ?_
  refine Sm.seq ?_
  refine Sm.seq ?_
  refine ab hF rfl ?_
  refine SmG.v hF rfl rfl rfl (aD rfl rfl) ?_
  refine SmG.nil ?_
  refine ac ?_
  refine Sm.block ?_
  refine Sm.loop (ι := {i : Nat // i ≤ 8}) (fun i => ⟨[(3, .sref 0 0 ((b ++ [128] ++ List.replicate j 0 ++ (Sha.lenBytes b.length).take i.1).map aL).length), (4, .d (.v (.int .u64 ((8 * b.length : Nat) : Int)))), (5, .d (.v (.int .i64 i.1)))], [(0, dB 1 ((b ++ [128] ++ List.replicate j 0 ++ (Sha.lenBytes b.length).take i.1).map aL))], 1⟩) (fun i => 8 - i.1) (⟨0, by omega⟩) ?_ ?_
  ·exact cm (by first | (simp [leE, look, bb] <;> omega) | (simp [leE, look, bb, List.take_zero, List.append_nil] <;> omega)) (by simp only [leH, look, rep, reduceIte, Nat.reduceEqDiff, List.set_cons_zero, List.set_cons_succ, List.take_zero, List.append_nil, and_self, and_true, and_false, false_and, if_true, if_false] <;> (repeat' first | rfl | constructor)) (by first | exact Nat.le_refl _ | (dsimp only; omega))
  rintro ⟨i, hi⟩
  simp only
  have hll : (Sha.lenBytes b.length).length = 8 := by simp [Sha.lenBytes]
  by_cases hlt : i < 8
  ·have hrow : List.map aL (b ++ [128] ++ List.replicate j 0 ++ (Sha.lenBytes b.length).take i) ++ [[D.v (.int .u8 ((UInt8.ofNat (8 * b.length / 2 ^ (56 - 8 * i))).toNat : Int))]] = List.map aL (b ++ [128] ++ List.replicate j 0 ++ (Sha.lenBytes b.length).take (i + 1)) := by
    show _ ++ [[dY _]] = _
    rw [pz, List.append_assoc, wT _ _ hlt]
   refine Sm.seq ?_
   refine Sm.seq ?_
   refine ab hF rfl ?_
   refine SmG.v hF rfl rfl rfl (ai rfl rfl) ?_
   refine SmG.v hF rfl rfl rfl (ay rfl rfl rfl (by first | exact bR _ _ _ _ _ (by omega) | exact bU _ _ _ _ _ (by omega) | exact cc _ _ _ _ _ _ _)) ?_
   refine SmG.nil ?_
   refine ac ?_
   refine ca hF rfl ?_
   refine Sm.skip ?_
   refine ac ?_
   refine Sm.seq ?_
   refine Sm.block ?_
   refine ab hF rfl ?_
   refine SmG.v hF rfl rfl rfl (ai rfl rfl) ?_
   refine SmG.v hF rfl rfl rfl (ai rfl rfl) ?_
   refine SmG.v hF rfl rfl rfl (ai rfl rfl) ?_
   refine SmG.v hF rfl rfl rfl (ay rfl rfl rfl (by first | exact lf _ _ _ _ _ (bL _ (by omega)) | exact jt _ _ _ _ _ _ _)) ?_
   refine SmG.v hF rfl rfl rfl (ay rfl rfl rfl (by first | exact i1 _ _ _ _ _ (bL _ (by omega)) | exact iq _ _ _ _ _ _ _)) ?_
   refine SmG.v hF rfl rfl rfl (ay rfl rfl rfl (CT _ _ _ _ (8 * b.length) (56 - 8 * i) _ (by omega) (by omega))) ?_
   refine SmG.v hF rfl rfl rfl (lk rfl rfl (ud _ Tryd.underlying147 Tryd.underlying5)) ?_
   refine SmG.v hF rfl rfl rfl (cX rfl rfl (by simp (disch := omega) only [go_sem, Nat.reduceEqDiff, aI, bk, aL, List.length_append, List.length_cons, List.length_nil, List.length_replicate] <;> rfl)) ?_
   refine SmG.appendOwn hF kJ rfl rfl rfl rfl rfl rfl rfl (by first | rfl | (simp; done) | (simp; omega)) (Or.inl rfl) (by (repeat' first | exact bn _ | refine bf ?_ | refine ap ?_ (aO _ _ _) | refine ap ?_ (aO _ _ [_]) | refine ap ?_ (bE (by rfl)))) ?_ ?_ ?_; rotate_left; rotate_left; simp only [gC, Pk.v, V.free, rep, bne_self_eq_false, Nat.reduceAdd, Nat.reduceBNe, Nat.reduceBEq, Nat.reduceEqDiff, reduceIte, Bool.false_eq_true]
   rotate_left
   ·simp only [List.length_map, List.length_append, List.length_cons, List.length_nil, List.length_replicate, List.length_take]; omega
   ·simp only [List.length_map, List.length_append, List.length_cons, List.length_nil, List.length_replicate, List.length_take]; omega
   refine SmG.v hF rfl rfl rfl (aD rfl rfl) ?_
   refine SmG.nil ?_
   refine ar ?_
   refine ac ?_
   refine ab hF rfl ?_
   refine SmG.v hF rfl rfl rfl (ai rfl rfl) ?_
   refine SmG.v hF rfl rfl rfl (ay rfl rfl rfl (by first | exact gG _ _ _ _ _ (bL _ (by omega)) | exact cU _ _ _ _ _ _ _)) ?_
   refine SmG.v hF rfl rfl rfl (aD rfl rfl) ?_
   refine SmG.nil ?_
   refine ac ?_
   exact ⟨⟨i + 1, by omega⟩, by show 8 - (i + 1) < 8 - i; omega, by exact cm (by first | (simp [leE, look, bb] <;> omega) | (simp [leE, look, bb, hrow] <;> omega)) (by simp only [leH, look, rep, reduceIte, Nat.reduceEqDiff, List.set_cons_zero, List.set_cons_succ, hrow, and_self, and_true, and_false, false_and, if_true, if_false] <;> (repeat' first | rfl | constructor)) (by first | exact Nat.le_refl _ | (dsimp only; omega))⟩
  ·obtain rfl : i = 8 := by omega
   refine Sm.seq ?_
   refine Sm.seq ?_
   refine ab hF rfl ?_
   refine SmG.v hF rfl rfl rfl (ai rfl rfl) ?_
   refine SmG.v hF rfl rfl rfl (ay rfl rfl rfl (by first | exact bR _ _ _ _ _ (by omega) | exact bU _ _ _ _ _ (by omega) | exact cc _ _ _ _ _ _ _)) ?_
   refine SmG.nil ?_
   refine ac ?_
   refine bi hF rfl ?_
   refine Sm.freeze (l := 0) _ rfl ?_
   simp only [Pk.v, ju, eZ, gR,  reduceIte, Nat.reduceAdd, Nat.zero_add, List.length_map, List.length_append, Nat.le_refl, true_and, and_self, if_true, Nat.reduceEqDiff, true_and]
   refine Sm.exit ?_
   simp only [cN, fK, reduceIte, reduceCtorEq]
   refine Sm.seq ?_
   refine ab hF rfl ?_
   refine SmG.v hF rfl rfl rfl (ai rfl rfl) ?_
   refine SmG.v hF rfl rfl rfl (aD rfl rfl) ?_
   refine SmG.nil ?_
   refine ac ?_
   refine Sm.ret ?_
   refine ⟨_, rfl, ?_⟩; dsimp only
   rw [List.take_of_length_le (by omega), ← hpad]; exact D.le.refl _
theorem wC (all : List UInt8) (j : Nat) : List.drop (64 * j) (List.map aL (List.take (64 * j + 64) all)) = List.map aL ((all.drop (64 * j)).take 64) := by
 rw [← List.map_drop, List.drop_take]; congr 2; omega
theorem yV (S : Sha.S8) (k : Nat) (h : k ≤ 32) : ((Sha.out S).take k ++ List.replicate (32 - k) 0).length = 32 := by
 simp [Sha.out_length]; omega
theorem o9 (b : List UInt8) (hb : b.length ≤ 1000000) (G : Nat → Option D) : aq Tryd.prog G 52 [bk b] (cQ (Sha.sum b)) := by
 have hmod := Sha.padded_mod b
 have hplen := Sha.padded_length b
 have hz : Sha.zeros b.length < 64 := by unfold Sha.zeros; omega
 have hS : Sha.sum b = Sha.out (Sha.over (Sha.padded b) ((Sha.padded b).length / 64)) := rfl
 refine aq.of Tryd.func52 rfl Tryd.ntmps52 (by simp) ?_; intro F hF h0 hT; simp only [List.zipIdx_cons, List.zipIdx_nil, List.map_cons, List.map_nil, Nat.zero_add, Nat.reduceAdd]
 refine Sm.seq ?_
 refine ab hF rfl ?_
 refine SmG.new hF rfl rfl rfl (aQ rfl kG) ?_
 refine SmG.nil ?_
 refine ac ?_
 refine Sm.seq ?_
 refine ab hF rfl ?_
 refine SmG.v hF rfl rfl rfl (ai rfl rfl) ?_
 refine SmG.call hF rfl rfl (by kernel_rfl) rfl rfl rfl (xw b hb G) ?_
 refine SmG.v hF rfl rfl rfl (aD rfl rfl) ?_
 refine SmG.nil ?_
 refine ac ?_
 refine Sm.seq ?_
 refine ab hF rfl ?_
 refine SmG.call hF rfl rfl (by kernel_rfl) rfl rfl rfl (zi G) ?_
 refine SmG.new hF rfl rfl rfl (aQ rfl rX) ?_
 refine SmG.store hF rfl rfl rfl rfl rfl (by simp (disch := omega) only [go_sem, Nat.reduceEqDiff, aI, aN, cQ] <;> rfl) ?_
 refine SmG.nil ?_
 refine ac ?_
 refine Sm.seq ?_
 refine Sm.seq ?_
 refine ab hF rfl ?_
 refine SmG.v hF rfl rfl rfl (aD rfl rfl) ?_
 refine SmG.nil ?_
 refine ac ?_
 refine Sm.block ?_
 generalize Sha.padded b = all at hmod hplen hS ⊢
 generalize hm : all.length / 64 = m at hmod hS
 refine Sm.loop (ι := {j : Nat // j ≤ m}) (fun j => ⟨[(2, .ref 0 0 0), (3, .d (bk all)), (4, .ref 1 0 0), (5, .d (.v (.int .i64 ((64 * j.1 : Nat) : Int))))], [(1, dW 8 (Sha.over all j.1).list), (0, dB 32 [aJ (List.replicate 32 0)])], 2⟩) (fun j => m - j.1) (⟨0, by omega⟩) ?_ ?_
 ·exact cm (by first | (simp [leE, look, bb] <;> omega) | (simp [leE, look, bb, true_and] <;> omega)) (by simp only [leH, look, rep, reduceIte, Nat.reduceEqDiff, List.set_cons_zero, List.set_cons_succ, true_and, and_self, and_true, and_false, false_and, if_true, if_false] <;> (repeat' first | rfl | constructor)) (by first | exact Nat.le_refl _ | (dsimp only; omega))
 rintro ⟨j, hj⟩
 simp only
 by_cases hlt : j < m
 ·have c1 := zQ (Sha.over all j) ((all.drop (64 * j)).take 64) (by rw [List.length_take, List.length_drop]; omega) G
  have hcm := wC all j
  have hle : 64 * j ≤ 64 * j + 64 := by omega
  have hle2 : 64 * j + 64 ≤ all.length := by omega
  have hcast : (((64 * j : Nat) : Int) + 64).toNat = 64 * j + 64 := by omega
  have hov : Sha.over all (j + 1) = Sha.after (Sha.over all j) ((all.drop (64 * j)).take 64) := rfl
  have hl8 : (Sha.over all j).list.length = 8 := rfl
  refine Sm.seq ?_
  refine Sm.seq ?_
  refine ab hF rfl ?_
  refine SmG.v hF rfl rfl rfl (ai rfl rfl) ?_
  refine SmG.v hF rfl rfl rfl (ai rfl rfl) ?_
  refine SmG.v hF rfl rfl rfl (fc rfl rfl (by simp (disch := omega) only [go_sem, Nat.reduceEqDiff, aI, bk, hcm, hcast, hle, hle2, lV, hl8] <;> rfl)) ?_
  refine SmG.v hF rfl rfl rfl (ay rfl rfl rfl (by first | exact bR _ _ _ _ _ (by omega) | exact bU _ _ _ _ _ (by omega) | exact cc _ _ _ _ _ _ _)) ?_
  refine SmG.nil ?_
  refine ac ?_
  refine ca hF rfl ?_
  refine Sm.skip ?_
  refine ac ?_
  refine Sm.seq ?_
  refine Sm.block ?_
  refine aV hF (by kernel_rfl) rfl 7 (by kernel_rfl) (by kernel_rfl) ?_
  simp only [List.take_succ_cons, List.take_zero, List.take_nil]
  refine ag.v hF rfl rfl rfl (aU rfl rfl (by simp (disch := omega) only [go_sem, Nat.reduceEqDiff, aI, bk, hcm, hcast, hle, hle2, lV, hl8] <;> rfl)) ?_
  refine ag.v hF rfl rfl rfl (ai rfl rfl) ?_
  refine ag.v hF rfl rfl rfl (ai rfl rfl) ?_
  refine ag.v hF rfl rfl rfl (ai rfl rfl) ?_
  refine ag.v hF rfl rfl rfl (ay rfl rfl rfl (by first | exact gG _ _ _ _ _ (bL _ (by omega)) | exact cU _ _ _ _ _ _ _)) ?_
  refine ag.v hF rfl rfl rfl (ke rfl rfl rfl rfl rfl (by simp (disch := omega) only [go_sem, Nat.reduceEqDiff, aI, bk, hcm, hcast, hle, hle2, lV, hl8] <;> rfl)) ?_
  refine ag.c hF rfl rfl (by kernel_rfl) rfl rfl rfl (c1) ?_
  refine ag.last ⟨rfl, ?_⟩
  simp only [List.drop_succ_cons, List.drop_zero, List.drop_nil, List.nil_append, List.cons_append]
  refine SmG.store hF rfl rfl rfl rfl rfl (by simp (disch := omega) only [go_sem, Nat.reduceEqDiff, aI, bk, hcm, hcast, hle, hle2, lV, hl8] <;> rfl) ?_
  refine SmG.nil ?_
  refine ar ?_
  refine ac ?_
  refine ab hF rfl ?_
  refine SmG.v hF rfl rfl rfl (ai rfl rfl) ?_
  refine SmG.v hF rfl rfl rfl (ay rfl rfl rfl (by first | exact gG _ _ _ _ _ (bL _ (by omega)) | exact cU _ _ _ _ _ _ _)) ?_
  refine SmG.v hF rfl rfl rfl (aD rfl rfl) ?_
  refine SmG.nil ?_
  refine ac ?_
  exact ⟨⟨j + 1, by omega⟩, by show m - (j + 1) < m - j; omega, by exact cm (by first | (simp [leE, look, bb] <;> omega) | (simp [leE, look, bb, hov] <;> omega)) (by simp only [leH, look, rep, reduceIte, Nat.reduceEqDiff, List.set_cons_zero, List.set_cons_succ, hov, and_self, and_true, and_false, false_and, if_true, if_false] <;> (repeat' first | rfl | constructor)) (by first | exact Nat.le_refl _ | (dsimp only; omega))⟩
 ·obtain rfl : j = m := by omega
  generalize Sha.over all j = S at hS ⊢
  refine Sm.seq ?_
  refine Sm.seq ?_
  refine ab hF rfl ?_
  refine SmG.v hF rfl rfl rfl (ai rfl rfl) ?_
  refine SmG.v hF rfl rfl rfl (ai rfl rfl) ?_
  refine SmG.v hF rfl rfl rfl (fc rfl rfl (by simp (disch := omega) only [go_sem, Nat.reduceEqDiff, aI, bk] <;> rfl)) ?_
  refine SmG.v hF rfl rfl rfl (ay rfl rfl rfl (by first | exact bR _ _ _ _ _ (by omega) | exact bU _ _ _ _ _ (by omega) | exact cc _ _ _ _ _ _ _)) ?_
  refine SmG.nil ?_
  refine ac ?_
  refine bi hF rfl ?_
  refine Sm.exit ?_
  simp only [cN, fK, reduceIte, reduceCtorEq]
  refine Sm.seq ?_
  refine ab hF rfl ?_
  refine SmG.v hF rfl rfl rfl (il rfl Tryd.underlying47 rfl zZ) ?_
  refine SmG.new hF rfl rfl rfl (aQ rfl kG) ?_
  refine SmG.store hF rfl rfl rfl rfl rfl (by simp (disch := omega) only [go_sem, Nat.reduceEqDiff, aI, bk] <;> rfl) ?_
  refine SmG.nil ?_
  refine ac ?_
  refine Sm.seq ?_
  refine Sm.seq ?_
  refine ab hF rfl ?_
  refine SmG.v hF rfl rfl rfl (aD rfl rfl) ?_
  refine SmG.nil ?_
  refine ac ?_
  refine Sm.block ?_
  refine Sm.loop (ι := {k : Nat // k ≤ 32}) (fun k => ⟨[(2, .ref 0 0 0), (4, .ref 1 0 0), (6, .ref 2 0 0), (7, .d (.v (.int .i64 k.1)))], [(2, dB 32 [aJ ((Sha.out S).take k.1 ++ List.replicate (32 - k.1) 0)]), (1, dW 8 S.list), (0, dB 32 [aJ (List.replicate 32 0)])], 3⟩) (fun k => 32 - k.1) (⟨0, by omega⟩) ?_ ?_
  ·exact cm (by first | (simp [leE, look, bb] <;> omega) | (simp [leE, look, bb, List.take_zero, List.nil_append] <;> omega)) (by simp only [leH, look, rep, reduceIte, Nat.reduceEqDiff, List.set_cons_zero, List.set_cons_succ, List.take_zero, List.nil_append, and_self, and_true, and_false, false_and, if_true, if_false] <;> (repeat' first | rfl | constructor)) (by first | exact Nat.le_refl _ | (dsimp only; omega))
  rintro ⟨k, hk⟩
  simp only
  have hl8 : S.list.length = 8 := rfl
  by_cases hlt : k < 32
  ·have hg := ig S.list (k / 4) (by omega)
   have hset := Sha.out_set S k hlt
   have hsh : ∀ (x : UInt32) (n : Nat), (Sha.shr x n).toNat = x.toNat / 2 ^ n := fun x n => Nat.mod_eq_of_lt (Nat.lt_of_le_of_lt (Nat.div_le_self _ _) x.toNat_lt)
   generalize S.list.getD (k / 4) 0 = x at hg hset
   have hcast : ((k : Int) / 4).toNat = k / 4 := by omega
   have hst : (List.map V.d (aJ ((Sha.out S).take k ++ List.replicate (32 - k) 0))).set k (.d (.v (.int .u8 ((UInt8.ofNat (Sha.shr x (24 - 8 * (k % 4))).toNat).toNat : Int)))) = List.map V.d (aJ ((Sha.out S).take (k + 1) ++ List.replicate (32 - (k + 1)) 0)) := by
    rw [← hset, hsh]
    simp only [aJ, List.map_set, dY]
   refine Sm.seq ?_
   refine Sm.seq ?_
   refine ab hF rfl ?_
   refine SmG.v hF rfl rfl rfl (ai rfl rfl) ?_
   refine SmG.v hF rfl rfl rfl (ay rfl rfl rfl (by first | exact bR _ _ _ _ _ (by omega) | exact bU _ _ _ _ _ (by omega) | exact cc _ _ _ _ _ _ _)) ?_
   refine SmG.nil ?_
   refine ac ?_
   refine ca hF rfl ?_
   refine Sm.skip ?_
   refine ac ?_
   refine Sm.seq ?_
   refine Sm.block ?_
   refine ab hF rfl ?_
   refine SmG.v hF rfl rfl rfl (ai rfl rfl) ?_
   refine SmG.v hF rfl rfl rfl (ai rfl rfl) ?_
   refine SmG.v hF rfl rfl rfl (ay rfl rfl rfl (by first | exact zU _ _ _ _ (by omega) (by omega) | exact tf _ _ _ _ _ _ _ (by omega))) ?_
   refine SmG.v hF rfl rfl rfl (aB rfl rfl rfl (by simp (disch := omega) only [go_sem, Nat.reduceEqDiff, aI, aN, hg, hcast, dY, hl8] <;> rfl)) ?_
   refine SmG.v hF rfl rfl rfl (aU rfl rfl (by simp (disch := omega) only [go_sem, Nat.reduceEqDiff, aI, aN, hg, hcast, dY, hl8] <;> rfl)) ?_
   refine SmG.v hF rfl rfl rfl (ai rfl rfl) ?_
   refine SmG.v hF rfl rfl rfl (ay rfl rfl rfl (by first | exact r9 _ _ _ _ _ (by omega) (by omega) | exact oc _ _ _ _ _ _ _ (by omega))) ?_
   refine SmG.v hF rfl rfl rfl (ay rfl rfl rfl (by first | exact lf _ _ _ _ _ (bL _ (by omega)) | exact jt _ _ _ _ _ _ _)) ?_
   refine SmG.v hF rfl rfl rfl (ay rfl rfl rfl (by first | exact i1 _ _ _ _ _ (bL _ (by omega)) | exact iq _ _ _ _ _ _ _)) ?_
   refine SmG.v hF rfl rfl rfl (ay rfl rfl rfl (r7 _ _ _ _ (24 - 8 * (k % 4)) _ (by omega) (by omega) x)) ?_
   refine SmG.v hF rfl rfl rfl (lk rfl rfl (ud _ Tryd.underlying68 Tryd.underlying5)) ?_
   refine SmG.v hF rfl rfl rfl (aB rfl rfl rfl (by simp (disch := omega) only [go_sem, Nat.reduceEqDiff, aI, aN, hg, hcast, dY, hl8] <;> rfl)) ?_
   refine SmG.store hF rfl rfl rfl rfl rfl (by simp (disch := omega) only [go_sem, Nat.reduceEqDiff, aI, aN, hg, hcast, dY, hl8] <;> rfl) ?_
   refine SmG.nil ?_
   refine ar ?_
   refine ac ?_
   refine ab hF rfl ?_
   refine SmG.v hF rfl rfl rfl (ai rfl rfl) ?_
   refine SmG.v hF rfl rfl rfl (ay rfl rfl rfl (by first | exact gG _ _ _ _ _ (bL _ (by omega)) | exact cU _ _ _ _ _ _ _)) ?_
   refine SmG.v hF rfl rfl rfl (aD rfl rfl) ?_
   refine SmG.nil ?_
   refine ac ?_
   exact ⟨⟨k + 1, by omega⟩, by show 32 - (k + 1) < 32 - k; omega, by exact cm (by first | (simp [leE, look, bb] <;> omega) | (simp [leE, look, bb, hst] <;> omega)) (by simp only [leH, look, rep, reduceIte, Nat.reduceEqDiff, List.set_cons_zero, List.set_cons_succ, hst, and_self, and_true, and_false, false_and, if_true, if_false] <;> (repeat' first | rfl | constructor)) (by first | exact Nat.le_refl _ | (dsimp only; omega))⟩
  ·obtain rfl : k = 32 := by omega
   have hll : (aJ ((Sha.out S).take 32 ++ List.replicate (32 - 32) 0)).length = 32 := by rw [aJ, List.length_map, yV S 32 (by omega)]
   refine Sm.seq ?_
   refine Sm.seq ?_
   refine ab hF rfl ?_
   refine SmG.v hF rfl rfl rfl (ai rfl rfl) ?_
   refine SmG.v hF rfl rfl rfl (ay rfl rfl rfl (by first | exact bR _ _ _ _ _ (by omega) | exact bU _ _ _ _ _ (by omega) | exact cc _ _ _ _ _ _ _)) ?_
   refine SmG.nil ?_
   refine ac ?_
   refine bi hF rfl ?_
   refine Sm.exit ?_
   simp only [cN, fK, reduceIte, reduceCtorEq]
   refine Sm.seq ?_
   refine ab hF rfl ?_
   refine SmG.v hF rfl rfl rfl (aU rfl rfl (by simp (disch := omega) only [go_sem, Nat.reduceEqDiff, aI, hll] <;> rfl)) ?_
   refine SmG.store hF rfl rfl rfl rfl rfl (by simp (disch := omega) only [go_sem, Nat.reduceEqDiff, aI, hll] <;> rfl) ?_
   refine SmG.nil ?_
   refine ac ?_
   refine Sm.ret ?_
   refine l7 rfl rfl (by simp (disch := omega) only [go_sem, Nat.reduceEqDiff, aI, hll] <;> rfl) ?_
   rw [hS, List.take_of_length_le (by rw [Sha.out_length]; omega), List.append_nil]
   exact D.le.refl _
end
section
open Go.RowKit
set_option maxRecDepth 100000
theorem tk : ((1 : Nat) = 0) = False := by simp
theorem zE {α : Type} {f : α → List D} {l : List α} (z : List D) (h : 0 < l.length) : List.map f l ≠ [] := by intro e; rw [List.map_eq_nil_iff] at e; subst e; simp at h
theorem tb (l : List (List UInt8)) (x : List UInt8) : List.map aY l ++ [[bk x]] = List.map aY (l ++ [x]) := by simp [aY]
theorem ru (l : List UInt8) : (aJ l).map (fun d => [d]) = l.map aL := by simp [aJ, aL, Function.comp_def]
theorem oV (b : List UInt8) (hb : b.length ≤ 900000) (G : Nat → Option D) : aq Tryd.prog G 56 [bk b] (bk (0 :: b)) := by
 refine aq.of Tryd.func56 rfl Tryd.ntmps56 (by simp) ?_; intro F hF h0 hT; simp only [List.zipIdx_cons, List.zipIdx_nil, List.map_cons, List.map_nil, Nat.zero_add, Nat.reduceAdd]
 refine Sm.seq ?_
 refine ab hF rfl ?_
 refine SmG.v hF rfl rfl rfl (aD rfl rfl) ?_
 refine SmG.nil ?_
 refine ac ?_
 refine Sm.seq ?_
 refine ab hF rfl ?_
 refine SmG.v hF rfl rfl rfl (cX rfl rfl (by simp (disch := omega) only [go_sem, Nat.reduceEqDiff, aI, bk, aL, dY] <;> rfl)) ?_
 refine SmG.v hF rfl rfl rfl (ai rfl rfl) ?_
 refine SmG.append hF kJ rfl rfl rfl rfl rfl rfl (Or.inl rfl) (Or.inl rfl) (by simp only [List.length_map, List.length_cons, List.length_nil]; omega) (by simp only [List.length_map, List.length_cons, List.length_nil]; omega) ?_
 refine SmG.v hF rfl rfl rfl (aD rfl rfl) ?_
 refine SmG.nil ?_
 refine ac ?_
 refine Sm.ret ?_
 refine ⟨_, rfl, ?_⟩; dsimp only
 exact D.le.refl _
theorem o2 (a b : List UInt8) (ha : a.length = 32) (hb : b.length = 32) (G : Nat → Option D) : aq Tryd.prog G 58 [cQ a, cQ b] (bk (1 :: (a ++ b))) := by
 have h1 := ru a
 have h2 := ru b
 refine aq.of Tryd.func58 rfl Tryd.ntmps58 (by simp) ?_; intro F hF h0 hT; simp only [List.zipIdx_cons, List.zipIdx_nil, List.map_cons, List.map_nil, Nat.zero_add, Nat.reduceAdd]
 refine Sm.seq ?_
 refine ab hF rfl ?_
 refine SmG.new hF rfl rfl rfl (qM rfl rfl (by simp (disch := omega) only [go_sem, Nat.reduceEqDiff, aI, bk, aL, dY, cQ, ha, hb] <;> rfl)) ?_
 refine SmG.new hF rfl rfl rfl (qM rfl rfl (by simp (disch := omega) only [go_sem, Nat.reduceEqDiff, aI, bk, aL, dY, cQ, ha, hb] <;> rfl)) ?_
 refine SmG.v hF rfl rfl rfl (aD rfl rfl) ?_
 refine SmG.nil ?_
 refine ac ?_
 refine Sm.seq ?_
 refine ab hF rfl ?_
 refine SmG.v hF rfl rfl rfl (cX rfl rfl (by simp (disch := omega) only [go_sem, Nat.reduceEqDiff, aI, bk, aL, dY, cQ, ha, hb] <;> rfl)) ?_
 refine SmG.v hF rfl rfl rfl (ke rfl rfl rfl rfl rfl (by simp (disch := omega) only [go_sem, Nat.reduceEqDiff, aI, bk, aL, dY, cQ, ha, hb] <;> rfl)) ?_
 refine SmG.freeze (l := 0) (sz := 32) [aJ a] rfl ?_
 simp only [Pk.v, ju, eZ, gR,  reduceIte, Nat.reduceAdd, Nat.zero_add, List.length_map, List.length_append, Nat.le_refl, true_and, and_self, if_true, Nat.reduceEqDiff, List.getElem?_cons_zero, Nat.mul_one, Nat.one_mul, Nat.reduceLeDiff, Nat.reduceMul, h1, Nat.zero_ne_one, tk]
 refine SmG.appendNew hF kJ rfl rfl rfl rfl rfl rfl (Or.inl rfl) rfl (zE [] (by omega)) (by simp only [List.length_map, List.length_cons, List.length_nil]; omega) (by simp only [List.length_map, List.length_cons, List.length_nil]; omega) ?_
 refine SmG.v hF rfl rfl rfl (aD rfl rfl) ?_
 refine SmG.nil ?_
 refine ac ?_
 refine Sm.seq ?_
 refine ab hF rfl ?_
 refine SmG.v hF rfl rfl rfl (ai rfl rfl) ?_
 refine SmG.v hF rfl rfl rfl (ke rfl rfl rfl rfl rfl (by simp (disch := omega) only [go_sem, Nat.reduceEqDiff, aI, bk, aL, dY, cQ, ha, hb] <;> rfl)) ?_
 refine SmG.freeze (l := 1) (sz := 32) [aJ b] rfl ?_
 simp only [Pk.v, ju, eZ, gR,  reduceIte, Nat.reduceAdd, Nat.zero_add, List.length_map, List.length_append, Nat.le_refl, true_and, and_self, if_true, Nat.reduceEqDiff, List.getElem?_cons_zero, Nat.mul_one, Nat.one_mul, Nat.reduceLeDiff, Nat.reduceMul, h2]
 refine SmG.appendOwn hF kJ rfl rfl rfl rfl rfl rfl rfl (by first | rfl | (simp; done) | (simp; omega)) (Or.inl rfl) (by (repeat' first | exact bn _ | refine bf ?_ | refine ap ?_ (aO _ _ _) | refine ap ?_ (aO _ _ [_]) | refine ap ?_ (bE (by rfl)))) ?_ ?_ ?_; rotate_left; rotate_left; simp only [gC, Pk.v, V.free, rep, bne_self_eq_false, Nat.reduceAdd, Nat.reduceBNe, Nat.reduceBEq, Nat.reduceEqDiff, reduceIte, Bool.false_eq_true]
 rotate_left
 ·simp only [List.length_map, List.length_append, List.length_cons, List.length_nil]; omega
 ·simp only [List.length_map, List.length_append, List.length_cons, List.length_nil]; omega
 refine SmG.freeze (l := 2) (sz := 1) (List.map aL (1 :: (a ++ b))) (by show some (dB 1 (([aL 1] ++ List.map aL a) ++ List.map aL b)) = _; simp) ?_
 have e : 1 + a.length + b.length = a.length + b.length + 1 := by omega
 simp only [Pk.v, ju, eZ, gR,  reduceIte, Nat.reduceAdd, Nat.zero_add, List.length_map, List.length_append, Nat.le_refl, true_and, and_self, if_true, Nat.reduceEqDiff, List.length_cons, List.length_nil, e]
 refine SmG.v hF rfl rfl rfl (aD rfl rfl) ?_
 refine SmG.nil ?_
 refine ac ?_
 refine Sm.ret ?_
 refine ⟨_, rfl, ?_⟩; dsimp only
 exact D.le.refl _
theorem wB (b : List UInt8) (hb : b.length ≤ 900000) (G : Nat → Option D) : aq Tryd.prog G 29 [bk b] (cQ (Sha.leaf b)) := by
 have hl := Sha.leaf_len b
 have hS : Sha.sum (0 :: b) = Sha.leaf b := rfl
 generalize Sha.leaf b = s at hl hS ⊢
 refine aq.of Tryd.func29 rfl Tryd.ntmps29 (by simp) ?_; intro F hF h0 hT; simp only [List.zipIdx_cons, List.zipIdx_nil, List.map_cons, List.map_nil, Nat.zero_add, Nat.reduceAdd]
 refine Sm.seq ?_
 refine ab hF rfl ?_
 refine SmG.new hF rfl rfl rfl (aQ rfl kG) ?_
 refine SmG.nil ?_
 refine ac ?_
 refine Sm.seq ?_
 refine ab hF rfl ?_
 refine SmG.v hF rfl rfl rfl (ai rfl rfl) ?_
 refine SmG.call hF rfl rfl (by kernel_rfl) rfl rfl rfl (oV b hb G) ?_
 refine SmG.call hF rfl rfl (by kernel_rfl) rfl rfl rfl (o9 (0 :: b) (by simp; omega) G) ?_
 refine SmG.store hF rfl rfl rfl rfl rfl (by simp (disch := omega) only [go_sem, Nat.reduceEqDiff, aI, cQ, bu, hl, hS] <;> rfl) ?_
 refine SmG.nil ?_
 refine ac ?_
 refine Sm.ret ?_
 refine l7 rfl rfl (by simp (disch := omega) only [go_sem, Nat.reduceEqDiff, aI, bu, hl, hS] <;> rfl) ?_
 exact D.le.refl _
end
end Go.Proofs.YtbaccmkhjmmlnaaDoor
namespace Go.Proofs.YtbaccmkhjmmlnaaDoor.Sha
end Go.Proofs.YtbaccmkhjmmlnaaDoor.Sha
namespace Go.Proofs.YtbaccmkhjmmlnaaDoor
end Go.Proofs.YtbaccmkhjmmlnaaDoor
namespace Go.Proofs.YtbaccmkhjmmlnaaDoor.Sha
def sides (n i : Nat) : List Bool :=
 if h : 2 ≤ n then (if i < cut n then sides (cut n) i ++ [false] else sides (n - cut n) (i - cut n) ++ [true]) else []
termination_by n
decreasing_by
 ·exact cut_lt h
 ·have := cut_pos n; omega
theorem sides_low {n i : Nat} (h : 2 ≤ n) (hi : i < cut n) : sides n i = sides (cut n) i ++ [false] := by
 rw [sides, dif_pos h, if_pos hi]
theorem sides_high {n i : Nat} (h : 2 ≤ n) (hi : cut n ≤ i) : sides n i = sides (n - cut n) (i - cut n) ++ [true] := by
 rw [sides, dif_pos h, if_neg (by omega)]
theorem sides_one {n : Nat} (i : Nat) (h : n < 2) : sides n i = [] := by rw [sides, dif_neg (by omega)]
def join (s : Bool) (q h : List UInt8) : List UInt8 := 1 :: (if s then q ++ h else h ++ q)
def chain (x : List UInt8) : List (Bool × List UInt8) → List (List UInt8)
 | [] => [x]
 | (s, q) :: r => x :: chain (join s q (sum x)) r
def top (x : List UInt8) : List (Bool × List UInt8) → List UInt8
 | [] => sum x
 | (s, q) :: r => top (join s q (sum x)) r
theorem si (s : Bool) (q : List UInt8) : ∀ (r : List (Bool × List UInt8)) (x : List UInt8), top x (r ++ [(s, q)]) = sum (join s q (top x r)) := by
 intro r
 induction r with
 | nil => intro x; rfl
 | cons e r ih => intro x; obtain ⟨t, y⟩ := e; exact ih _
theorem sl (s : Bool) (q h : List UInt8) : sum (join s q h) = if s then pair q h else pair h q := by
 cases s <;> rfl
theorem chain_length (r : List (Bool × List UInt8)) : ∀ x, (chain x r).length = r.length + 1 := by
 induction r with
 | nil => intro x; rfl
 | cons e r ih => intro x; obtain ⟨s, q⟩ := e; simp [chain, ih]
theorem chain_snoc (s : Bool) (q : List UInt8) : ∀ (r : List (Bool × List UInt8)) (x : List UInt8), chain x (r ++ [(s, q)]) = chain x r ++ [join s q (top x r)] := by
 intro r
 induction r with
 | nil => intro x; rfl
 | cons e r ih => intro x; obtain ⟨t, y⟩ := e; simp [chain, top, ih]
theorem wg (b : List UInt8) : ∀ (p : List (List UInt8)) (n i : Nat), 1 ≤ n → (climb b p n i).2 = decide (p.length = (sides n i).length) ∧ (p.length = (sides n i).length → (climb b p n i).1 = top (0 :: b) ((sides n i).zip p.reverse)) := by
 intro p
 induction p with
 | nil =>
  intro n i hn
  by_cases h1 : n = 1
  ·subst h1; rw [sides_one i (by omega)]; exact ⟨rfl, fun _ => rfl⟩
  ·have : (sides n i).length ≠ 0 := by
    rcases Nat.lt_or_ge i (cut n) with h | h
    ·rw [sides_low (by omega) h]; simp
    ·rw [sides_high (by omega) h]; simp
   refine ⟨?_, fun h => absurd h.symm this⟩
   simp only [climb, List.length_nil]
   rw [decide_eq_false (Ne.symm this)]; simpa using h1
 | cons q r ih =>
  intro n i hn
  by_cases h1 : n = 1
  ·subst h1; rw [sides_one i (by omega)]
   simp [climb]
  ·have h2 : 2 ≤ n := by omega
   have c1 := cut_lt h2
   have c2 := cut_pos n
   simp only [climb, if_neg h1]
   rcases Nat.lt_or_ge i (cut n) with h | h
   ·obtain ⟨k1, k2⟩ := ih (cut n) i (by omega)
    rw [if_pos h, sides_low h2 h]
    refine ⟨by simp [k1], fun hl => ?_⟩
    have hl' : r.length = (sides (cut n) i).length := by simpa using hl
    rw [List.reverse_cons, List.zip_append (by simpa using hl'.symm), List.zip_cons_cons, List.zip_nil_right, si, sl, ← k2 hl']
    rfl
   ·obtain ⟨k1, k2⟩ := ih (n - cut n) (i - cut n) (by omega)
    rw [if_neg (by omega), sides_high h2 h]
    refine ⟨by simp [k1], fun hl => ?_⟩
    have hl' : r.length = (sides (n - cut n) (i - cut n)).length := by simpa using hl
    rw [List.reverse_cons, List.zip_append (by simpa using hl'.symm), List.zip_cons_cons, List.zip_nil_right, si, sl, ← k2 hl']
    rfl
theorem wK (root b : List UInt8) (n i : Int) (p : List (List UInt8)) : check root n i b p = if i < 0 ∨ n ≤ i then false else decide (p.length = (sides n.toNat i.toNat).length) && decide (top (0 :: b) ((sides n.toNat i.toNat).zip p) = root) := by
 unfold check
 split
 ·rfl
 ·rename_i h
  obtain ⟨k1, k2⟩ := wg b p.reverse n.toNat i.toNat (by omega)
  rw [k1]
  simp only [List.length_reverse, List.reverse_reverse] at k2 ⊢
  by_cases hl : p.length = (sides n.toNat i.toNat).length
  ·rw [k2 hl]
  ·simp [hl]
def Met (a b : List (List UInt8)) : Prop := ∃ x ∈ a, ∃ y ∈ b, x ≠ y ∧ sum x = sum y
theorem yO {s : Bool} {q q' h h' : List UInt8} (h1 : q.length = 32) (h2 : q'.length = 32) (h3 : h.length = 32) (h4 : h'.length = 32) (e : join s q h = join s q' h') : q = q' ∧ h = h' := by
 simp only [join, List.cons.injEq, true_and] at e
 cases s with
 | true => exact List.append_inj e (by omega)
 | false => exact (List.append_inj e (by omega)).symm
theorem vQ : ∀ (ss : List Bool) (p q : List (List UInt8)) (x y : List UInt8), p.length = ss.length → q.length = ss.length → (∀ s ∈ p, s.length = 32) → (∀ s ∈ q, s.length = 32) → top x (ss.zip p) = top y (ss.zip q) →
  (x = y ∧ p = q) ∨ Met (chain x (ss.zip p)) (chain y (ss.zip q)) := by
 intro ss
 induction ss with
 | nil =>
  intro p q x y hp hq _ _ h
  have : p = [] := List.eq_nil_of_length_eq_zero hp
  have : q = [] := List.eq_nil_of_length_eq_zero hq
  subst p; subst q
  by_cases e : x = y
  ·exact .inl ⟨e, rfl⟩
  ·exact .inr ⟨x, by simp [chain], y, by simp [chain], e, h⟩
 | cons s ss ih =>
  intro p q x y hp hq lp lq h
  match p, q, hp, hq with
  | u :: p, v :: q, hp, hq =>
   simp only [List.zip_cons_cons, top, chain] at h ⊢
   rcases ih p q _ _ (by simpa using hp) (by simpa using hq) (fun s hs => lp s (by simp [hs])) (fun s hs => lq s (by simp [hs])) h with ⟨e1, e2⟩ | ⟨a, ha, b, hb, hne, hs⟩
   ·obtain ⟨e3, e4⟩ := yO (lp u (by simp)) (lq v (by simp)) (sum_len x) (sum_len y) e1
    by_cases e : x = y
    ·exact .inl ⟨e, by rw [e2, e3]⟩
    ·exact .inr ⟨x, by simp, y, by simp, e, e4⟩
   ·exact .inr ⟨a, by simp [ha], b, by simp [hb], hne, hs⟩
theorem check_binds {root b b' : List UInt8} {n i : Nat} {p q : List (List UInt8)} (lp : ∀ s ∈ p, s.length = 32) (lq : ∀ s ∈ q, s.length = 32) (h1 : check root n i b p = true) (h2 : check root n i b' q = true) (hne : ¬ (b' = b ∧ q = p)) :
  Met (chain (0 :: b) ((sides n i).zip p)) (chain (0 :: b') ((sides n i).zip q)) := by
 rw [wK] at h1 h2
 split at h1
 ·cases h1
 ·rename_i hin
  rw [if_neg hin] at h2
  simp only [Bool.and_eq_true, decide_eq_true_eq, Int.toNat_natCast] at h1 h2
  rcases vQ _ p q _ _ h1.1 h2.1 lp lq (h1.2.trans h2.2.symm) with ⟨e1, e2⟩ | h
  ·exact absurd ⟨(List.cons.inj e1).2.symm, e2.symm⟩ hne
  ·exact h
end Go.Proofs.YtbaccmkhjmmlnaaDoor.Sha
namespace Go.Proofs.YtbaccmkhjmmlnaaDoor
section
open Go.RowKit
def elems (xs : List (List UInt8)) : List (List UInt8) := (xs.take 9).map (·.take 40)
set_option maxRecDepth 100000
end
section
open Go.RowKit
set_option maxRecDepth 100000
end
section
namespace Sha
end Sha
end
section
open Go.RowKit
set_option maxRecDepth 100000
end
section
open Go.RowKit
set_option maxRecDepth 100000
end
section
open Go.RowKit
set_option maxRecDepth 100000
end
section
open Go.RowKit
set_option maxRecDepth 100000
def ez (b : Bool) : List D := [.v (.bool b)]
theorem vW : ElemT Tryd.prog 134 4 (.bool false) 1 1 := ⟨Tryd.underlying134, by kernel_rfl, rfl, by decide⟩
theorem nu : ∀ (n i : Nat), (Sha.sides n i).length ≤ n := by
 intro n
 induction n using Nat.strongRecOn with
 | _ n ih =>
 intro i
 rcases Nat.lt_or_ge n 2 with h | h
 ·rw [Sha.sides_one i h]; simp
 ·have c1 := Sha.cut_lt h
  have c2 := Sha.cut_pos n
  rcases Nat.lt_or_ge i (Sha.cut n) with hi | hi
  ·rw [Sha.sides_low h hi]; have := ih _ c1 i; simp; omega
  ·rw [Sha.sides_high h hi]; have := ih (n - Sha.cut n) (by omega) (i - Sha.cut n); simp; omega
theorem tj (l : List Bool) (b : Bool) : List.map ez l ++ [[D.v (.bool b)]] = List.map ez (l ++ [b]) := by simp [ez]
theorem yU (G : Nat → Option D) : ∀ (n i : Nat), i < n → n ≤ 4294967296 → dI Tryd.prog G 73 [.v (.int .i64 n), .v (.int .i64 i)] .tup 1 ((Sha.sides n i).map ez) [.v (.bool true)] := by
 intro n
 induction n using Nat.strongRecOn with
 | _ n ih =>
 intro i hin hn
 have hsl := nu n i
 by_cases h2 : 2 ≤ n
 ·have hm1 := Sha.cut_lt h2
  have hmp := Sha.cut_pos n
  have k0 := Bl n h2 (by omega) G
  by_cases hi : i < Sha.cut n
  ·have k1 := ih _ hm1 i hi (by omega)
   rw [Sha.sides_low h2 hi] at hsl ⊢
   have hl1 : (Sha.sides (Sha.cut n) i).length ≤ 4294967296 := by have := nu (Sha.cut n) i; omega
   generalize Sha.sides (Sha.cut n) i = ss at k1 hsl hl1 ⊢
   generalize Sha.cut n = m at hm1 hmp k0 hi k1
   refine dI.of Tryd.func73 rfl Tryd.ntmps73 (by simp) ?_; intro F hF h0 hT; simp only [List.zipIdx_cons, List.zipIdx_nil, List.map_cons, List.map_nil, Nat.zero_add, Nat.reduceAdd]
   refine Sm.seq ?_
   refine ab hF rfl ?_
   refine SmG.v hF rfl rfl rfl (aD rfl rfl) ?_
   refine SmG.v hF rfl rfl rfl (aD rfl rfl) ?_
   refine SmG.nil ?_
   refine ac ?_
   refine Sm.seq ?_
   refine Sm.seq ?_
   refine ab hF rfl ?_
   refine SmG.v hF rfl rfl rfl (ai rfl rfl) ?_
   refine SmG.v hF rfl rfl rfl (ay rfl rfl rfl (by first | exact bR _ _ _ _ _ (by omega) | exact bU _ _ _ _ _ (by omega) | exact cc _ _ _ _ _ _ _)) ?_
   refine SmG.v hF rfl rfl rfl (ai rfl rfl) ?_
   first | refine SmG.v hF rfl rfl rfl (ai rfl rfl) ?_ | refine SmG.pass hF rfl rfl rfl ?_
   first | refine SmG.v hF rfl rfl rfl (ai rfl rfl) ?_ | refine SmG.pass hF rfl rfl rfl ?_
   first | refine SmG.v hF rfl rfl rfl (ay rfl rfl rfl (by first | exact qZ _ _ _ _ _ (by omega) | exact qF _ _ _ _ _ (by omega) | exact mI _ _ _ _ _ _ _)) ?_ | refine SmG.pass hF rfl rfl rfl ?_
   first | refine SmG.v hF rfl rfl rfl (aH rfl rfl rfl) ?_ | refine SmG.v hF rfl rfl rfl (am rfl rfl rfl) ?_
   refine SmG.nil ?_
   refine ac ?_
   refine bi hF rfl ?_
   refine Sm.skip ?_
   refine ac ?_
   refine Sm.seq ?_
   refine Sm.seq ?_
   refine ab hF rfl ?_
   refine SmG.v hF rfl rfl rfl (ai rfl rfl) ?_
   refine SmG.v hF rfl rfl rfl (ay rfl rfl rfl (by first | exact qK _ _ _ _ _ (by omega) | exact qW _ _ _ _ _ (by omega) | exact ms _ _ _ _ _ _ _)) ?_
   refine SmG.nil ?_
   refine ac ?_
   refine bi hF rfl ?_
   refine Sm.skip ?_
   refine ac ?_
   refine Sm.seq ?_
   refine ab hF rfl ?_
   refine SmG.v hF rfl rfl rfl (ai rfl rfl) ?_
   refine SmG.call hF rfl rfl (by kernel_rfl) rfl rfl rfl (k0) ?_
   refine SmG.v hF rfl rfl rfl (aD rfl rfl) ?_
   refine SmG.nil ?_
   refine ac ?_
   refine Sm.seq ?_
   refine Sm.seq ?_
   refine ab hF rfl ?_
   refine SmG.v hF rfl rfl rfl (ai rfl rfl) ?_
   refine SmG.v hF rfl rfl rfl (ai rfl rfl) ?_
   refine SmG.v hF rfl rfl rfl (ay rfl rfl rfl (by first | exact bR _ _ _ _ _ (by omega) | exact bU _ _ _ _ _ (by omega) | exact cc _ _ _ _ _ _ _)) ?_
   refine SmG.nil ?_
   refine ac ?_
   refine ca hF rfl ?_
   refine Sm.seq ?_
   refine ab hF rfl ?_
   refine SmG.v hF rfl rfl rfl (ai rfl rfl) ?_
   refine SmG.v hF rfl rfl rfl (ai rfl rfl) ?_
   refine SmG.callO hF rfl rfl (by kernel_rfl) rfl rfl rfl (k1) ?_
   refine SmG.v hF rfl rfl rfl (ai rfl rfl) ?_
   refine SmG.v hF rfl rfl rfl (by first | exact bh rfl rfl rfl | exact ll rfl rfl) ?_
   refine SmG.v hF rfl rfl rfl (by first | exact bh rfl rfl rfl | exact ln rfl rfl rfl) ?_
   refine SmG.v hF rfl rfl rfl (aD rfl rfl) ?_
   refine SmG.v hF rfl rfl rfl (aD rfl rfl) ?_
   refine SmG.nil ?_
   refine ac ?_
   refine Sm.seq ?_
   refine ab hF rfl ?_
   refine SmG.v hF rfl rfl rfl (ai rfl rfl) ?_
   refine SmG.v hF rfl rfl rfl (cX rfl rfl (by simp (disch := omega) only [go_sem, Nat.reduceEqDiff, aI] <;> rfl)) ?_
   refine SmG.appendOwn hF vW rfl rfl rfl rfl rfl rfl rfl (by first | rfl | (simp; done) | (simp; omega)) (Or.inl rfl) (by (repeat' first | exact bn _ | refine bf ?_ | refine ap ?_ (aO _ _ _) | refine ap ?_ (aO _ _ [_]) | refine ap ?_ (bE (by rfl)))) ?_ ?_ ?_; rotate_left; rotate_left; simp only [gC, Pk.v, V.free, rep, bne_self_eq_false, Nat.reduceAdd, Nat.reduceBNe, Nat.reduceBEq, Nat.reduceEqDiff, reduceIte, Bool.false_eq_true]
   rotate_left
   ·simp only [List.length_map, List.length_cons, List.length_nil]; omega
   ·simp only [List.length_map, List.length_cons, List.length_nil]; omega
   rw [tj]
   refine SmG.v hF rfl rfl rfl (aD rfl rfl) ?_
   refine SmG.v hF rfl rfl rfl (aD rfl rfl) ?_
   refine SmG.nil ?_
   refine ac ?_
   refine Sm.ret ?_
   simp only [cN, fK]
   exact ⟨0, rfl, rfl⟩
  ·have k1 := ih (n - Sha.cut n) (by omega) (i - Sha.cut n) (by omega) (by omega)
   rw [Sha.sides_high h2 (by omega)] at hsl ⊢
   rw [show ((n - Sha.cut n : Nat) : Int) = (n : Int) - (Sha.cut n : Nat) by omega, show ((i - Sha.cut n : Nat) : Int) = (i : Int) - (Sha.cut n : Nat) by omega] at k1
   have hl1 : (Sha.sides (n - Sha.cut n) (i - Sha.cut n)).length ≤ 4294967296 := by have := nu (n - Sha.cut n) (i - Sha.cut n); omega
   generalize Sha.sides (n - Sha.cut n) (i - Sha.cut n) = ss at k1 hsl hl1 ⊢
   generalize Sha.cut n = m at hm1 hmp k0 hi k1
   refine dI.of Tryd.func73 rfl Tryd.ntmps73 (by simp) ?_; intro F hF h0 hT; simp only [List.zipIdx_cons, List.zipIdx_nil, List.map_cons, List.map_nil, Nat.zero_add, Nat.reduceAdd]
   refine Sm.seq ?_
   refine ab hF rfl ?_
   refine SmG.v hF rfl rfl rfl (aD rfl rfl) ?_
   refine SmG.v hF rfl rfl rfl (aD rfl rfl) ?_
   refine SmG.nil ?_
   refine ac ?_
   refine Sm.seq ?_
   refine Sm.seq ?_
   refine ab hF rfl ?_
   refine SmG.v hF rfl rfl rfl (ai rfl rfl) ?_
   refine SmG.v hF rfl rfl rfl (ay rfl rfl rfl (by first | exact bR _ _ _ _ _ (by omega) | exact bU _ _ _ _ _ (by omega) | exact cc _ _ _ _ _ _ _)) ?_
   refine SmG.v hF rfl rfl rfl (ai rfl rfl) ?_
   first | refine SmG.v hF rfl rfl rfl (ai rfl rfl) ?_ | refine SmG.pass hF rfl rfl rfl ?_
   first | refine SmG.v hF rfl rfl rfl (ai rfl rfl) ?_ | refine SmG.pass hF rfl rfl rfl ?_
   first | refine SmG.v hF rfl rfl rfl (ay rfl rfl rfl (by first | exact qZ _ _ _ _ _ (by omega) | exact qF _ _ _ _ _ (by omega) | exact mI _ _ _ _ _ _ _)) ?_ | refine SmG.pass hF rfl rfl rfl ?_
   first | refine SmG.v hF rfl rfl rfl (aH rfl rfl rfl) ?_ | refine SmG.v hF rfl rfl rfl (am rfl rfl rfl) ?_
   refine SmG.nil ?_
   refine ac ?_
   refine bi hF rfl ?_
   refine Sm.skip ?_
   refine ac ?_
   refine Sm.seq ?_
   refine Sm.seq ?_
   refine ab hF rfl ?_
   refine SmG.v hF rfl rfl rfl (ai rfl rfl) ?_
   refine SmG.v hF rfl rfl rfl (ay rfl rfl rfl (by first | exact qK _ _ _ _ _ (by omega) | exact qW _ _ _ _ _ (by omega) | exact ms _ _ _ _ _ _ _)) ?_
   refine SmG.nil ?_
   refine ac ?_
   refine bi hF rfl ?_
   refine Sm.skip ?_
   refine ac ?_
   refine Sm.seq ?_
   refine ab hF rfl ?_
   refine SmG.v hF rfl rfl rfl (ai rfl rfl) ?_
   refine SmG.call hF rfl rfl (by kernel_rfl) rfl rfl rfl (k0) ?_
   refine SmG.v hF rfl rfl rfl (aD rfl rfl) ?_
   refine SmG.nil ?_
   refine ac ?_
   refine Sm.seq ?_
   refine Sm.seq ?_
   refine ab hF rfl ?_
   refine SmG.v hF rfl rfl rfl (ai rfl rfl) ?_
   refine SmG.v hF rfl rfl rfl (ai rfl rfl) ?_
   refine SmG.v hF rfl rfl rfl (ay rfl rfl rfl (by first | exact bR _ _ _ _ _ (by omega) | exact bU _ _ _ _ _ (by omega) | exact cc _ _ _ _ _ _ _)) ?_
   refine SmG.nil ?_
   refine ac ?_
   refine bi hF rfl ?_
   refine Sm.skip ?_
   refine ac ?_
   refine Sm.seq ?_
   refine ab hF rfl ?_
   refine SmG.v hF rfl rfl rfl (ai rfl rfl) ?_
   refine SmG.v hF rfl rfl rfl (ai rfl rfl) ?_
   refine SmG.v hF rfl rfl rfl (ay rfl rfl rfl (by first | exact i1 _ _ _ _ _ (bL _ (by omega)) | exact iq _ _ _ _ _ _ _)) ?_
   refine SmG.v hF rfl rfl rfl (ai rfl rfl) ?_
   refine SmG.v hF rfl rfl rfl (ai rfl rfl) ?_
   refine SmG.v hF rfl rfl rfl (ay rfl rfl rfl (by first | exact i1 _ _ _ _ _ (bL _ (by omega)) | exact iq _ _ _ _ _ _ _)) ?_
   refine SmG.callO hF rfl rfl (by kernel_rfl) rfl rfl rfl (k1) ?_
   refine SmG.v hF rfl rfl rfl (ai rfl rfl) ?_
   refine SmG.v hF rfl rfl rfl (by first | exact bh rfl rfl rfl | exact ll rfl rfl) ?_
   refine SmG.v hF rfl rfl rfl (by first | exact bh rfl rfl rfl | exact ln rfl rfl rfl) ?_
   refine SmG.v hF rfl rfl rfl (aD rfl rfl) ?_
   refine SmG.v hF rfl rfl rfl (aD rfl rfl) ?_
   refine SmG.nil ?_
   refine ac ?_
   refine Sm.seq ?_
   refine ab hF rfl ?_
   refine SmG.v hF rfl rfl rfl (ai rfl rfl) ?_
   refine SmG.v hF rfl rfl rfl (cX rfl rfl (by simp (disch := omega) only [go_sem, Nat.reduceEqDiff, aI] <;> rfl)) ?_
   refine SmG.appendOwn hF vW rfl rfl rfl rfl rfl rfl rfl (by first | rfl | (simp; done) | (simp; omega)) (Or.inl rfl) (by (repeat' first | exact bn _ | refine bf ?_ | refine ap ?_ (aO _ _ _) | refine ap ?_ (aO _ _ [_]) | refine ap ?_ (bE (by rfl)))) ?_ ?_ ?_; rotate_left; rotate_left; simp only [gC, Pk.v, V.free, rep, bne_self_eq_false, Nat.reduceAdd, Nat.reduceBNe, Nat.reduceBEq, Nat.reduceEqDiff, reduceIte, Bool.false_eq_true]
   rotate_left
   ·simp only [List.length_map, List.length_cons, List.length_nil]; omega
   ·simp only [List.length_map, List.length_cons, List.length_nil]; omega
   rw [tj]
   refine SmG.v hF rfl rfl rfl (aD rfl rfl) ?_
   refine SmG.v hF rfl rfl rfl (aD rfl rfl) ?_
   refine SmG.nil ?_
   refine ac ?_
   refine Sm.ret ?_
   exact ⟨0, rfl, rfl⟩
 ·obtain rfl : n = 1 := by omega
  rw [Sha.sides_one i (by omega)]
  refine dI.of Tryd.func73 rfl Tryd.ntmps73 (by simp) ?_; intro F hF h0 hT; simp only [List.zipIdx_cons, List.zipIdx_nil, List.map_cons, List.map_nil, Nat.zero_add, Nat.reduceAdd]
  refine Sm.seq ?_
  refine ab hF rfl ?_
  refine SmG.v hF rfl rfl rfl (aD rfl rfl) ?_
  refine SmG.v hF rfl rfl rfl (aD rfl rfl) ?_
  refine SmG.nil ?_
  refine ac ?_
  refine Sm.seq ?_
  refine Sm.seq ?_
  refine ab hF rfl ?_
  refine SmG.v hF rfl rfl rfl (ai rfl rfl) ?_
  refine SmG.v hF rfl rfl rfl (ay rfl rfl rfl (by first | exact bR _ _ _ _ _ (by omega) | exact bU _ _ _ _ _ (by omega) | exact cc _ _ _ _ _ _ _)) ?_
  refine SmG.v hF rfl rfl rfl (ai rfl rfl) ?_
  first | refine SmG.v hF rfl rfl rfl (ai rfl rfl) ?_ | refine SmG.pass hF rfl rfl rfl ?_
  first | refine SmG.v hF rfl rfl rfl (ai rfl rfl) ?_ | refine SmG.pass hF rfl rfl rfl ?_
  first | refine SmG.v hF rfl rfl rfl (ay rfl rfl rfl (by first | exact qZ _ _ _ _ _ (by omega) | exact qF _ _ _ _ _ (by omega) | exact mI _ _ _ _ _ _ _)) ?_ | refine SmG.pass hF rfl rfl rfl ?_
  first | refine SmG.v hF rfl rfl rfl (aH rfl rfl rfl) ?_ | refine SmG.v hF rfl rfl rfl (am rfl rfl rfl) ?_
  refine SmG.nil ?_
  refine ac ?_
  refine bi hF rfl ?_
  refine Sm.skip ?_
  refine ac ?_
  refine Sm.seq ?_
  refine Sm.seq ?_
  refine ab hF rfl ?_
  refine SmG.v hF rfl rfl rfl (ai rfl rfl) ?_
  refine SmG.v hF rfl rfl rfl (ay rfl rfl rfl (by first | exact qK _ _ _ _ _ (by omega) | exact qW _ _ _ _ _ (by omega) | exact ms _ _ _ _ _ _ _)) ?_
  refine SmG.nil ?_
  refine ac ?_
  refine ca hF rfl ?_
  refine Sm.seq ?_
  refine ab hF rfl ?_
  refine SmG.v hF rfl rfl rfl (aD rfl rfl) ?_
  refine SmG.own (t := 4) (sz := 0) 1 rfl ?_
  refine SmG.v hF rfl rfl rfl (aD rfl rfl) ?_
  refine SmG.nil ?_
  refine ac ?_
  refine Sm.ret ?_
  simp only [cN, fK]
  exact ⟨0, rfl, rfl⟩
theorem zr (G : Nat → Option D) (n i : Nat) (hin : i < n) (hn : n ≤ 4294967296) : aq Tryd.prog G 73 [.v (.int .i64 n), .v (.int .i64 i)] (.tup [.list 1 ((Sha.sides n i).map ez) false, .v (.bool true)]) := (yU G n i hin hn).data
end
section
open Go.RowKit
set_option maxRecDepth 100000
theorem wM (r : List (Bool × List UInt8)) : ∀ x : List UInt8, x.length ≤ 900001 → (∀ e ∈ r, e.2.length = 32) → ∃ e, (Sha.chain x r)[r.length]? = some e ∧ Sha.sum e = Sha.top x r ∧ e.length ≤ 900001 := by
 induction r with
 | nil => intro x hx _; exact ⟨x, rfl, rfl, hx⟩
 | cons e r ih =>
  obtain ⟨s, q⟩ := e
  intro x hx hq
  have hj : (Sha.join s q (Sha.sum x)).length ≤ 900001 := by
   have h1 := hq (s, q) (by simp)
   have h2 := Sha.sum_len x
   cases s <;> simp [Sha.join] <;> simp at h1 <;> omega
  obtain ⟨e, h1, h2, h3⟩ := ih _ hj fun e he => hq e (by simp [he])
  exact ⟨e, by simpa [Sha.chain] using h1, by simpa [Sha.top] using h2, h3⟩
theorem yK (r : List (Bool × List UInt8)) : ∀ x, (Sha.top x r).length = 32 := by
 induction r with
 | nil => intro x; exact Sha.sum_len x
 | cons e r ih => intro x; obtain ⟨s, q⟩ := e; exact ih _
theorem wm (k : Blk) (sz : Nat) (rows : List (List D)) : ltH 1 [(1, k), (0, dB sz rows)] := sS (pc (ue _) (yu _ sz rows)) (Nat.le_refl _)
theorem yQ (G : Nat → Option D) (n i : Nat) (b : List UInt8) (p : List (List UInt8)) (hin : i < n) (hn : n ≤ 4294967296) (hb : b.length ≤ 900000) (hp : vI p) (hpl : p.length ≤ 1000000) :
  aq Tryd.prog G 53 [.v (.int .i64 n), .v (.int .i64 i), bk b, cT p] (cJ (Sha.chain (0 :: b) ((Sha.sides n i).zip p))) := by
 have hsd := zr G n i hin hn
 have hsl := nu n i
 generalize Sha.sides n i = ss at hsd hsl ⊢
 have hx : (0 :: b).length ≤ 900001 := by simp; omega
 refine aq.of Tryd.func53 rfl Tryd.ntmps53 (by simp) ?_; intro F hF h0 hT; simp only [List.zipIdx_cons, List.zipIdx_nil, List.map_cons, List.map_nil, Nat.zero_add, Nat.reduceAdd]
 refine Sm.seq ?_
 refine ab hF rfl ?_
 refine SmG.v hF rfl rfl rfl (aD rfl rfl) ?_
 refine SmG.nil ?_
 refine ac ?_
 refine Sm.seq ?_
 refine ab hF rfl ?_
 refine SmG.v hF rfl rfl rfl (ai rfl rfl) ?_
 refine SmG.v hF rfl rfl rfl (ai rfl rfl) ?_
 refine SmG.call hF rfl rfl (by kernel_rfl) rfl rfl rfl (hsd) ?_
 refine SmG.v hF rfl rfl rfl (ai rfl rfl) ?_
 refine SmG.v hF rfl rfl rfl (by first | exact bh rfl rfl rfl | exact ll rfl rfl) ?_
 refine SmG.v hF rfl rfl rfl (by first | exact bh rfl rfl rfl | exact ln rfl rfl rfl) ?_
 refine SmG.v hF rfl rfl rfl (aD rfl rfl) ?_
 refine SmG.v hF rfl rfl rfl (aD rfl rfl) ?_
 refine SmG.nil ?_
 refine ac ?_
 refine Sm.seq ?_
 refine ab hF rfl ?_
 refine SmG.v hF rfl rfl rfl (ai rfl rfl) ?_
 refine SmG.call hF rfl rfl (by kernel_rfl) rfl rfl rfl (oV b hb G) ?_
 refine SmG.buildOwn hF rfl rfl rfl rfl rfl (by simp (disch := omega) only [go_sem, Nat.reduceEqDiff, aI, cJ, cT, ez] <;> rfl) (by simp) ?_
 refine SmG.v hF rfl rfl rfl (aD rfl rfl) ?_
 refine SmG.nil ?_
 refine ac ?_
 refine Sm.seq ?_
 refine Sm.seq ?_
 refine ab hF rfl ?_
 refine SmG.v hF rfl rfl rfl (aD rfl rfl) ?_
 refine SmG.nil ?_
 refine ac ?_
 refine Sm.block ?_
 generalize hxx : (0 :: b) = x at hx ⊢
 have hz : ∀ k, k < (ss.zip p).length → ∃ s q, ss[k]? = some s ∧ p[k]? = some q ∧ (ss.zip p).take (k + 1) = (ss.zip p).take k ++ [(s, q)] ∧ q.length = 32 := by
  intro k hk
  have hk1 : k < ss.length := by rw [List.length_zip] at hk; omega
  have hk2 : k < p.length := by rw [List.length_zip] at hk; omega
  refine ⟨ss[k], p[k], by simp, by simp, ?_, hp _ (List.getElem_mem hk2)⟩
  rw [List.take_succ_eq_append_getElem hk]; simp
 have hq : ∀ e ∈ ss.zip p, e.2.length = 32 := fun e he => hp _ (List.of_mem_zip he).2
 have hzl : (ss.zip p).length = min ss.length p.length := List.length_zip
 generalize ss.zip p = z at hz hq hzl ⊢
 refine Sm.loop (ι := {k : Nat // k ≤ z.length}) (fun k => ⟨[(3, .d (cT p)), (9, .d (.list 1 (ss.map ez) false)), (11, .sref 0 0 ((Sha.chain x (z.take k.1)).map aY).length), (12, .d (.v (.int .i64 k.1)))], [(0, dB 1 ((Sha.chain x (z.take k.1)).map aY))], 1⟩) (fun k => z.length - k.1) (⟨0, by omega⟩) ?_ ?_
 ·exact cm (by first | (simp [leE, look, bb] <;> omega) | (simp [leE, look, bb, List.take_zero, Sha.chain] <;> omega)) (by simp only [leH, look, rep, reduceIte, Nat.reduceEqDiff, List.set_cons_zero, List.set_cons_succ, List.take_zero, Sha.chain, and_self, and_true, and_false, false_and, if_true, if_false] <;> (repeat' first | rfl | constructor)) (by first | exact Nat.le_refl _ | (dsimp only; omega))
 rintro ⟨k, hk⟩
 simp only
 by_cases hlt : k < z.length
 ·obtain ⟨s, q, hs, hpk, htk, hq32⟩ := hz k hlt
  obtain ⟨e, he1, he2, he3⟩ := wM (z.take k) x hx fun e he => hq e (List.mem_of_mem_take he)
  have htl : (z.take k).length = k := by rw [List.length_take]; omega
  rw [htl] at he1
  have hLl : (Sha.chain x (z.take k)).length = k + 1 := by rw [Sha.chain_length, htl]
  have k1 := o9 e (by omega) G
  rw [he2] at k1
  have hT := yK (z.take k) x
  have hnext := Sha.chain_snoc s q (z.take k) x
  rw [← htk] at hnext
  generalize Sha.top x (z.take k) = T at k1 hT hnext
  generalize Sha.chain x (z.take k) = L at he1 hLl hnext ⊢
  have hcast : (((k + 1 : Nat) : Int) - 1).toNat = k := by omega
  have hbound : k < p.length ∧ k < ss.length := by omega
  cases s with
  | true =>
   have k2 : aq Tryd.prog G 58 [cQ q, cQ T] (bk (Sha.join true q T)) := o2 q T hq32 hT G
   refine Sm.seq ?_
   refine Sm.seq ?_
   refine ab hF rfl ?_
   refine SmG.v hF rfl rfl rfl (ai rfl rfl) ?_
   refine SmG.v hF rfl rfl rfl (ai rfl rfl) ?_
   refine SmG.v hF rfl rfl rfl (fc rfl rfl (by simp (disch := omega) only [go_sem, Nat.reduceEqDiff, aI, cJ, cT, cQ, aY, ez, bu, hT, hs, hpk, he1, hLl, hcast] <;> rfl)) ?_
   refine SmG.v hF rfl rfl rfl (ay rfl rfl rfl (by first | exact bR _ _ _ _ _ (by omega) | exact bU _ _ _ _ _ (by omega) | exact cc _ _ _ _ _ _ _)) ?_
   refine SmG.v hF rfl rfl rfl (ai rfl rfl) ?_
   first | refine SmG.v hF rfl rfl rfl (ai rfl rfl) ?_ | refine SmG.pass hF rfl rfl rfl ?_
   first | refine SmG.v hF rfl rfl rfl (ai rfl rfl) ?_ | refine SmG.pass hF rfl rfl rfl ?_
   first | refine SmG.v hF rfl rfl rfl (fc rfl rfl (by simp (disch := omega) only [go_sem, Nat.reduceEqDiff, aI, cJ, cT, cQ, aY, ez, bu, hT, hs, hpk, he1, hLl, hcast] <;> rfl)) ?_ | refine SmG.pass hF rfl rfl rfl ?_
   first | refine SmG.v hF rfl rfl rfl (ay rfl rfl rfl (by first | exact bR _ _ _ _ _ (by omega) | exact bU _ _ _ _ _ (by omega) | exact cc _ _ _ _ _ _ _)) ?_ | refine SmG.pass hF rfl rfl rfl ?_
   first | refine SmG.v hF rfl rfl rfl (aH rfl rfl rfl) ?_ | refine SmG.v hF rfl rfl rfl (am rfl rfl rfl) ?_
   refine SmG.nil ?_
   refine ac ?_
   refine ca hF rfl ?_
   refine Sm.skip ?_
   refine ac ?_
   refine Sm.seq ?_
   refine Sm.block ?_
   refine Sm.seq ?_
   refine ab hF rfl ?_
   refine SmG.v hF rfl rfl rfl (ai rfl rfl) ?_
   refine SmG.v hF rfl rfl rfl (ai rfl rfl) ?_
   refine SmG.v hF rfl rfl rfl (fc rfl rfl (by simp (disch := omega) only [go_sem, Nat.reduceEqDiff, aI, cJ, cT, cQ, aY, ez, bu, hT, hs, hpk, he1, hLl, hcast] <;> rfl)) ?_
   refine SmG.v hF rfl rfl rfl (ay rfl rfl rfl (by first | exact i1 _ _ _ _ _ (bL _ (by omega)) | exact iq _ _ _ _ _ _ _)) ?_
   refine SmG.v hF rfl rfl rfl (aB rfl rfl rfl (by simp (disch := omega) only [go_sem, Nat.reduceEqDiff, aI, cJ, cT, cQ, aY, ez, bu, hT, hs, hpk, he1, hLl, hcast] <;> rfl)) ?_
   refine SmG.v hF rfl rfl rfl (aU rfl rfl (by simp (disch := omega) only [go_sem, Nat.reduceEqDiff, aI, cJ, cT, cQ, aY, ez, bu, hT, hs, hpk, he1, hLl, hcast] <;> rfl)) ?_
   refine SmG.call hF rfl rfl (by kernel_rfl) rfl rfl rfl (k1) ?_
   refine SmG.new hF rfl rfl rfl (aQ rfl kG) ?_
   refine SmG.store hF rfl rfl rfl rfl rfl (by simp (disch := omega) only [go_sem, Nat.reduceEqDiff, aI, cJ, cT, cQ, aY, ez, bu, hT, hs, hpk, he1, hLl, hcast] <;> rfl) ?_
   refine SmG.nil ?_
   refine ac ?_
   refine Sm.seq ?_
   refine ab hF rfl ?_
   refine SmG.v hF rfl rfl rfl (ai rfl rfl) ?_
   refine SmG.v hF rfl rfl rfl (ai rfl rfl) ?_
   refine SmG.v hF rfl rfl rfl (aB rfl rfl rfl (by simp (disch := omega) only [go_sem, Nat.reduceEqDiff, aI, cJ, cT, cQ, aY, ez, bu, hT, hs, hpk, he1, hLl, hcast] <;> rfl)) ?_
   refine SmG.v hF rfl rfl rfl (aU rfl rfl (by simp (disch := omega) only [go_sem, Nat.reduceEqDiff, aI, cJ, cT, cQ, aY, ez, bu, hT, hs, hpk, he1, hLl, hcast] <;> rfl)) ?_
   refine SmG.nil ?_
   refine ac ?_
   refine ca hF rfl ?_
   refine aV hF (by kernel_rfl) rfl 8 (by kernel_rfl) (by kernel_rfl) ?_
   simp only [List.take_succ_cons, List.take_zero, List.take_nil]
   refine ag.v hF rfl rfl rfl (ai rfl rfl) ?_
   refine ag.v hF rfl rfl rfl (ai rfl rfl) ?_
   refine ag.v hF rfl rfl rfl (ai rfl rfl) ?_
   refine ag.v hF rfl rfl rfl (aB rfl rfl rfl (by simp (disch := omega) only [go_sem, Nat.reduceEqDiff, aI, cJ, cT, cQ, aY, ez, bu, hT, hs, hpk, he1, hLl, hcast] <;> rfl)) ?_
   refine ag.v hF rfl rfl rfl (aU rfl rfl (by simp (disch := omega) only [go_sem, Nat.reduceEqDiff, aI, cJ, cT, cQ, aY, ez, bu, hT, hs, hpk, he1, hLl, hcast] <;> rfl)) ?_
   refine ag.v hF rfl rfl rfl (aU rfl rfl (by simp (disch := omega) only [go_sem, Nat.reduceEqDiff, aI, cJ, cT, cQ, aY, ez, bu, hT, hs, hpk, he1, hLl, hcast] <;> rfl)) ?_
   refine ag.c hF rfl rfl (by kernel_rfl) rfl rfl rfl (k2) ?_
   refine ag.v hF rfl rfl rfl (cX rfl rfl (by simp (disch := omega) only [go_sem, Nat.reduceEqDiff, aI, cJ, cT, cQ, aY, ez, bu, hT, hs, hpk, he1, hLl, hcast] <;> rfl)) ?_
   refine ag.last ⟨rfl, ?_⟩
   simp only [List.drop_succ_cons, List.drop_zero, List.drop_nil, List.nil_append, List.cons_append]
   refine SmG.appendOwn hF zz rfl rfl rfl rfl rfl rfl rfl (by first | rfl | (simp; done) | (simp; omega)) (Or.inl rfl) (by (repeat' first | exact bn _ | refine bf ?_ | refine ap ?_ (aO _ _ _) | refine ap ?_ (aO _ _ [_]) | refine ap ?_ (bE (by rfl)))) ?_ ?_ ?_; rotate_left; rotate_left; simp only [gC, Pk.v, V.free, rep, bne_self_eq_false, Nat.reduceAdd, Nat.reduceBNe, Nat.reduceBEq, Nat.reduceEqDiff, reduceIte, Bool.false_eq_true]
   rotate_left
   ·simp only [List.length_map, List.length_cons, List.length_nil]; omega
   ·simp only [List.length_map, List.length_cons, List.length_nil]; omega
   rw [tb, ← hnext]
   refine SmG.cut 1 (by exact wm _ _ _) ?_; simp only [Pk.v, nO, mq, V.lt, Nat.reduceAdd, Nat.reduceLT, decide_true, decide_false, reduceIte, Bool.false_eq_true, Nat.lt_irrefl, Nat.not_lt_zero, Nat.zero_lt_one, Nat.zero_lt_succ, Nat.zero_lt_two, Nat.one_lt_two]
   refine SmG.v hF rfl rfl rfl (aD rfl rfl) ?_
   refine SmG.nil ?_
   refine ar ?_
   refine ac ?_
   refine ab hF rfl ?_
   refine SmG.v hF rfl rfl rfl (ai rfl rfl) ?_
   refine SmG.v hF rfl rfl rfl (ay rfl rfl rfl (by first | exact gG _ _ _ _ _ (bL _ (by omega)) | exact cU _ _ _ _ _ _ _)) ?_
   refine SmG.v hF rfl rfl rfl (aD rfl rfl) ?_
   refine SmG.nil ?_
   refine ac ?_
   exact ⟨⟨k + 1, by omega⟩, by show z.length - (k + 1) < z.length - k; omega, by exact cm (by simp [leE, look, bb]) (by simp [leH, look, rep]) (by first | exact Nat.le_refl _ | (dsimp only; omega))⟩
  | false =>
   have k2 : aq Tryd.prog G 58 [cQ T, cQ q] (bk (Sha.join false q T)) := o2 T q hT hq32 G
   refine Sm.seq ?_
   refine Sm.seq ?_
   refine ab hF rfl ?_
   refine SmG.v hF rfl rfl rfl (ai rfl rfl) ?_
   refine SmG.v hF rfl rfl rfl (ai rfl rfl) ?_
   refine SmG.v hF rfl rfl rfl (fc rfl rfl (by simp (disch := omega) only [go_sem, Nat.reduceEqDiff, aI, cJ, cT, cQ, aY, ez, bu, hT, hs, hpk, he1, hLl, hcast] <;> rfl)) ?_
   refine SmG.v hF rfl rfl rfl (ay rfl rfl rfl (by first | exact bR _ _ _ _ _ (by omega) | exact bU _ _ _ _ _ (by omega) | exact cc _ _ _ _ _ _ _)) ?_
   refine SmG.v hF rfl rfl rfl (ai rfl rfl) ?_
   first | refine SmG.v hF rfl rfl rfl (ai rfl rfl) ?_ | refine SmG.pass hF rfl rfl rfl ?_
   first | refine SmG.v hF rfl rfl rfl (ai rfl rfl) ?_ | refine SmG.pass hF rfl rfl rfl ?_
   first | refine SmG.v hF rfl rfl rfl (fc rfl rfl (by simp (disch := omega) only [go_sem, Nat.reduceEqDiff, aI, cJ, cT, cQ, aY, ez, bu, hT, hs, hpk, he1, hLl, hcast] <;> rfl)) ?_ | refine SmG.pass hF rfl rfl rfl ?_
   first | refine SmG.v hF rfl rfl rfl (ay rfl rfl rfl (by first | exact bR _ _ _ _ _ (by omega) | exact bU _ _ _ _ _ (by omega) | exact cc _ _ _ _ _ _ _)) ?_ | refine SmG.pass hF rfl rfl rfl ?_
   first | refine SmG.v hF rfl rfl rfl (aH rfl rfl rfl) ?_ | refine SmG.v hF rfl rfl rfl (am rfl rfl rfl) ?_
   refine SmG.nil ?_
   refine ac ?_
   refine ca hF rfl ?_
   refine Sm.skip ?_
   refine ac ?_
   refine Sm.seq ?_
   refine Sm.block ?_
   refine Sm.seq ?_
   refine ab hF rfl ?_
   refine SmG.v hF rfl rfl rfl (ai rfl rfl) ?_
   refine SmG.v hF rfl rfl rfl (ai rfl rfl) ?_
   refine SmG.v hF rfl rfl rfl (fc rfl rfl (by simp (disch := omega) only [go_sem, Nat.reduceEqDiff, aI, cJ, cT, cQ, aY, ez, bu, hT, hs, hpk, he1, hLl, hcast] <;> rfl)) ?_
   refine SmG.v hF rfl rfl rfl (ay rfl rfl rfl (by first | exact i1 _ _ _ _ _ (bL _ (by omega)) | exact iq _ _ _ _ _ _ _)) ?_
   refine SmG.v hF rfl rfl rfl (aB rfl rfl rfl (by simp (disch := omega) only [go_sem, Nat.reduceEqDiff, aI, cJ, cT, cQ, aY, ez, bu, hT, hs, hpk, he1, hLl, hcast] <;> rfl)) ?_
   refine SmG.v hF rfl rfl rfl (aU rfl rfl (by simp (disch := omega) only [go_sem, Nat.reduceEqDiff, aI, cJ, cT, cQ, aY, ez, bu, hT, hs, hpk, he1, hLl, hcast] <;> rfl)) ?_
   refine SmG.call hF rfl rfl (by kernel_rfl) rfl rfl rfl (k1) ?_
   refine SmG.new hF rfl rfl rfl (aQ rfl kG) ?_
   refine SmG.store hF rfl rfl rfl rfl rfl (by simp (disch := omega) only [go_sem, Nat.reduceEqDiff, aI, cJ, cT, cQ, aY, ez, bu, hT, hs, hpk, he1, hLl, hcast] <;> rfl) ?_
   refine SmG.nil ?_
   refine ac ?_
   refine Sm.seq ?_
   refine ab hF rfl ?_
   refine SmG.v hF rfl rfl rfl (ai rfl rfl) ?_
   refine SmG.v hF rfl rfl rfl (ai rfl rfl) ?_
   refine SmG.v hF rfl rfl rfl (aB rfl rfl rfl (by simp (disch := omega) only [go_sem, Nat.reduceEqDiff, aI, cJ, cT, cQ, aY, ez, bu, hT, hs, hpk, he1, hLl, hcast] <;> rfl)) ?_
   refine SmG.v hF rfl rfl rfl (aU rfl rfl (by simp (disch := omega) only [go_sem, Nat.reduceEqDiff, aI, cJ, cT, cQ, aY, ez, bu, hT, hs, hpk, he1, hLl, hcast] <;> rfl)) ?_
   refine SmG.nil ?_
   refine ac ?_
   refine bi hF rfl ?_
   refine aV hF (by kernel_rfl) rfl 8 (by kernel_rfl) (by kernel_rfl) ?_
   simp only [List.take_succ_cons, List.take_zero, List.take_nil]
   refine ag.v hF rfl rfl rfl (ai rfl rfl) ?_
   refine ag.v hF rfl rfl rfl (aU rfl rfl (by simp (disch := omega) only [go_sem, Nat.reduceEqDiff, aI, cJ, cT, cQ, aY, ez, bu, hT, hs, hpk, he1, hLl, hcast] <;> rfl)) ?_
   refine ag.v hF rfl rfl rfl (ai rfl rfl) ?_
   refine ag.v hF rfl rfl rfl (ai rfl rfl) ?_
   refine ag.v hF rfl rfl rfl (aB rfl rfl rfl (by simp (disch := omega) only [go_sem, Nat.reduceEqDiff, aI, cJ, cT, cQ, aY, ez, bu, hT, hs, hpk, he1, hLl, hcast] <;> rfl)) ?_
   refine ag.v hF rfl rfl rfl (aU rfl rfl (by simp (disch := omega) only [go_sem, Nat.reduceEqDiff, aI, cJ, cT, cQ, aY, ez, bu, hT, hs, hpk, he1, hLl, hcast] <;> rfl)) ?_
   refine ag.c hF rfl rfl (by kernel_rfl) rfl rfl rfl (k2) ?_
   refine ag.v hF rfl rfl rfl (cX rfl rfl (by simp (disch := omega) only [go_sem, Nat.reduceEqDiff, aI, cJ, cT, cQ, aY, ez, bu, hT, hs, hpk, he1, hLl, hcast] <;> rfl)) ?_
   refine ag.last ⟨rfl, ?_⟩
   simp only [List.drop_succ_cons, List.drop_zero, List.drop_nil, List.nil_append, List.cons_append]
   refine SmG.appendOwn hF zz rfl rfl rfl rfl rfl rfl rfl (by first | rfl | (simp; done) | (simp; omega)) (Or.inl rfl) (by (repeat' first | exact bn _ | refine bf ?_ | refine ap ?_ (aO _ _ _) | refine ap ?_ (aO _ _ [_]) | refine ap ?_ (bE (by rfl)))) ?_ ?_ ?_; rotate_left; rotate_left; simp only [gC, Pk.v, V.free, rep, bne_self_eq_false, Nat.reduceAdd, Nat.reduceBNe, Nat.reduceBEq, Nat.reduceEqDiff, reduceIte, Bool.false_eq_true]
   rotate_left
   ·simp only [List.length_map, List.length_cons, List.length_nil]; omega
   ·simp only [List.length_map, List.length_cons, List.length_nil]; omega
   rw [tb, ← hnext]
   refine SmG.cut 1 (by exact wm _ _ _) ?_; simp only [Pk.v, nO, mq, V.lt, Nat.reduceAdd, Nat.reduceLT, decide_true, decide_false, reduceIte, Bool.false_eq_true, Nat.lt_irrefl, Nat.not_lt_zero, Nat.zero_lt_one, Nat.zero_lt_succ, Nat.zero_lt_two, Nat.one_lt_two]
   refine SmG.v hF rfl rfl rfl (aD rfl rfl) ?_
   refine SmG.nil ?_
   refine ar ?_
   refine ac ?_
   refine ab hF rfl ?_
   refine SmG.v hF rfl rfl rfl (ai rfl rfl) ?_
   refine SmG.v hF rfl rfl rfl (ay rfl rfl rfl (by first | exact gG _ _ _ _ _ (bL _ (by omega)) | exact cU _ _ _ _ _ _ _)) ?_
   refine SmG.v hF rfl rfl rfl (aD rfl rfl) ?_
   refine SmG.nil ?_
   refine ac ?_
   exact ⟨⟨k + 1, by omega⟩, by show z.length - (k + 1) < z.length - k; omega, by exact cm (by simp [leE, look, bb]) (by simp [leH, look, rep]) (by first | exact Nat.le_refl _ | (dsimp only; omega))⟩
 ·have hke : k = z.length := by omega
  by_cases hkp : k < p.length
  ·have hks : ¬ k < ss.length := by omega
   refine Sm.seq ?_
   refine Sm.seq ?_
   refine ab hF rfl ?_
   refine SmG.v hF rfl rfl rfl (ai rfl rfl) ?_
   refine SmG.v hF rfl rfl rfl (ai rfl rfl) ?_
   refine SmG.v hF rfl rfl rfl (fc rfl rfl (by simp (disch := omega) only [go_sem, Nat.reduceEqDiff, aI, cT] <;> rfl)) ?_
   refine SmG.v hF rfl rfl rfl (ay rfl rfl rfl (by first | exact bR _ _ _ _ _ (by omega) | exact bU _ _ _ _ _ (by omega) | exact cc _ _ _ _ _ _ _)) ?_
   refine SmG.v hF rfl rfl rfl (ai rfl rfl) ?_
   first | refine SmG.v hF rfl rfl rfl (ai rfl rfl) ?_ | refine SmG.pass hF rfl rfl rfl ?_
   first | refine SmG.v hF rfl rfl rfl (ai rfl rfl) ?_ | refine SmG.pass hF rfl rfl rfl ?_
   first | refine SmG.v hF rfl rfl rfl (fc rfl rfl (by simp (disch := omega) only [go_sem, Nat.reduceEqDiff, aI, cT] <;> rfl)) ?_ | refine SmG.pass hF rfl rfl rfl ?_
   first | refine SmG.v hF rfl rfl rfl (ay rfl rfl rfl (by first | exact bR _ _ _ _ _ (by omega) | exact bU _ _ _ _ _ (by omega) | exact cc _ _ _ _ _ _ _)) ?_ | refine SmG.pass hF rfl rfl rfl ?_
   first | refine SmG.v hF rfl rfl rfl (aH rfl rfl rfl) ?_ | refine SmG.v hF rfl rfl rfl (am rfl rfl rfl) ?_
   refine SmG.nil ?_
   refine ac ?_
   refine bi hF rfl ?_
   refine Sm.freeze (l := 0) _ rfl ?_
   simp only [Pk.v, ju, eZ, gR,  reduceIte, Nat.reduceAdd, Nat.zero_add, List.length_map, List.length_append, Nat.le_refl, true_and, and_self, if_true, Nat.reduceEqDiff, true_and]
   refine Sm.exit ?_
   simp only [cN, fK, reduceIte, reduceCtorEq]
   refine Sm.seq ?_
   refine ab hF rfl ?_
   refine SmG.v hF rfl rfl rfl (ai rfl rfl) ?_
   refine SmG.v hF rfl rfl rfl (aD rfl rfl) ?_
   refine SmG.nil ?_
   refine ac ?_
   refine Sm.ret ?_
   refine ⟨_, rfl, ?_⟩; dsimp only
   rw [List.take_of_length_le (by omega)]; exact D.le.refl _
  ·refine Sm.seq ?_
   refine Sm.seq ?_
   refine ab hF rfl ?_
   refine SmG.v hF rfl rfl rfl (ai rfl rfl) ?_
   refine SmG.v hF rfl rfl rfl (ai rfl rfl) ?_
   refine SmG.v hF rfl rfl rfl (fc rfl rfl (by simp (disch := omega) only [go_sem, Nat.reduceEqDiff, aI, cT] <;> rfl)) ?_
   refine SmG.v hF rfl rfl rfl (ay rfl rfl rfl (by first | exact bR _ _ _ _ _ (by omega) | exact bU _ _ _ _ _ (by omega) | exact cc _ _ _ _ _ _ _)) ?_
   refine SmG.v hF rfl rfl rfl (ai rfl rfl) ?_
   first | refine SmG.v hF rfl rfl rfl (ai rfl rfl) ?_ | refine SmG.pass hF rfl rfl rfl ?_
   first | refine SmG.v hF rfl rfl rfl (ai rfl rfl) ?_ | refine SmG.pass hF rfl rfl rfl ?_
   first | refine SmG.v hF rfl rfl rfl (fc rfl rfl (by simp (disch := omega) only [go_sem, Nat.reduceEqDiff, aI, cT] <;> rfl)) ?_ | refine SmG.pass hF rfl rfl rfl ?_
   first | refine SmG.v hF rfl rfl rfl (ay rfl rfl rfl (by first | exact bR _ _ _ _ _ (by omega) | exact bU _ _ _ _ _ (by omega) | exact cc _ _ _ _ _ _ _)) ?_ | refine SmG.pass hF rfl rfl rfl ?_
   first | refine SmG.v hF rfl rfl rfl (aH rfl rfl rfl) ?_ | refine SmG.v hF rfl rfl rfl (am rfl rfl rfl) ?_
   refine SmG.nil ?_
   refine ac ?_
   refine bi hF rfl ?_
   refine Sm.freeze (l := 0) _ rfl ?_
   simp only [Pk.v, ju, eZ, gR,  reduceIte, Nat.reduceAdd, Nat.zero_add, List.length_map, List.length_append, Nat.le_refl, true_and, and_self, if_true, Nat.reduceEqDiff, true_and]
   refine Sm.exit ?_
   simp only [cN, fK, reduceIte, reduceCtorEq]
   refine Sm.seq ?_
   refine ab hF rfl ?_
   refine SmG.v hF rfl rfl rfl (ai rfl rfl) ?_
   refine SmG.v hF rfl rfl rfl (aD rfl rfl) ?_
   refine SmG.nil ?_
   refine ac ?_
   refine Sm.ret ?_
   refine ⟨_, rfl, ?_⟩; dsimp only
   rw [List.take_of_length_le (by omega)]; exact D.le.refl _
end
section
open Go.RowKit
set_option maxRecDepth 100000
end
section
open Go.RowKit
set_option maxRecDepth 100000
end
section
open Go.RowKit
set_option maxRecDepth 100000
section
open Classical
noncomputable def j9 (l : List (List UInt8)) : Option (List UInt8) := if Fit l then some (Sha.root l) else none
theorem rN {l : List (List UInt8)} {r : List UInt8} (h : j9 l = some r) : aq Tryd.prog HG 32 [.list 1 (l.map aY) false] (.agg 32 (aJ r)) := by
 unfold j9 at h; split at h
 ·cases h; exact zC l (by assumption)
 ·cases h
noncomputable def gr (l : List (List UInt8)) (i : Int) : Option (List (List UInt8) × Int) :=
 if Fit l then (if i < 0 ∨ (l.length : Int) ≤ i then some ([], 1) else some (Sha.proof l i.toNat, 0)) else none
theorem aq.res {P : Program} {G : Nat → Option D} {f : FuncId} {ds : List D} {r r' : D} (h : aq P G f ds r) (hr : r.le r') : aq P G f ds r' := by
 intro C w vs hG hk ha
 refine Calls.mono (h C w vs hG hk ha) ?_
 rintro e w' ⟨v, C', h1, h2, h3⟩
 exact ⟨v, C', h1, h2, hr _ _ h3⟩
theorem qC {l : List (List UInt8)} {i : Int} {r : List (List UInt8) × Int} (h : gr l i = some r) : aq Tryd.prog HG 39 [.list 1 (l.map aY) false, .v (.int .i64 i)] (.tup [.list 32 (r.1.map aJ) false, .v (.int .i64 r.2)]) := by
 unfold gr at h; split at h
 ·rename_i hF
  split at h
  ·rename_i hi
   cases h
   exact (vh l i hi hF.1).res (tz ⟨eV _ _ _, D.le.refl _, trivial⟩)
  ·cases h
   obtain ⟨n, rfl⟩ : ∃ n : Nat, i = n := ⟨i.toNat, by omega⟩
   exact yJ l n hF (by omega)
 ·cases h
noncomputable def jn (root : List UInt8) (n i : Int) (b : List UInt8) (p : List (List UInt8)) : Option Bool :=
 if root.length = 32 ∧ b.length ≤ 900000 ∧ Len32 p ∧ p.length ≤ 1000000 ∧ n ≤ 4294967296 ∧ (-9223372036854775808 ≤ n) ∧ (-9223372036854775808 ≤ i ∧ i ≤ 9223372036854775807) then some (Sha.check root n i b p) else none
theorem qP {root : List UInt8} {n i : Int} {b : List UInt8} {p : List (List UInt8)} {r : Bool} (h : jn root n i b p = some r) : aq Tryd.prog HG 46 [.agg 32 (aJ root), .v (.int .i64 n), .v (.int .i64 i), .list 1 (b.map aL) false, .list 32 (p.map aJ) false] (.v (.bool r)) := by
 unfold jn at h; split at h
 ·rename_i hc
  obtain ⟨h1, h2, h3, h4, h5, h6, h7⟩ := hc
  cases h; exact zq root b n i p h1 h2 h3 h4 h5
 ·cases h
noncomputable def f7 (l : List UInt8) : Option (List UInt8) := if l.length ≤ 1000000 then some (Sha.sum l) else none
theorem fi {l r : List UInt8} (h : f7 l = some r) : aq Tryd.prog HG 52 [.list 1 (l.map aL) false] (.agg 32 (aJ r)) := by
 unfold f7 at h; split at h
 ·cases h; exact o9 l (by assumption) HG
 ·cases h
noncomputable def gJ (l : List UInt8) : Option (List UInt8) := if l.length ≤ 900000 then some (Sha.leaf l) else none
theorem nh {l r : List UInt8} (h : gJ l = some r) : aq Tryd.prog HG 29 [.list 1 (l.map aL) false] (.agg 32 (aJ r)) := by
 unfold gJ at h; split at h
 ·cases h; exact wB l (by assumption) HG
 ·cases h
noncomputable def fh (n i : Int) (b : List UInt8) (p : List (List UInt8)) : Option (List (List UInt8)) :=
 if 0 ≤ i ∧ i < n ∧ n ≤ 4294967296 ∧ b.length ≤ 900000 ∧ vI p ∧ p.length ≤ 1000000 then some (Sha.chain (0 :: b) ((Sha.sides n.toNat i.toNat).zip p)) else none
theorem mE {n i : Int} {b : List UInt8} {p r : List (List UInt8)} (h : fh n i b p = some r) : aq Tryd.prog HG 53 [.v (.int .i64 n), .v (.int .i64 i), .list 1 (b.map aL) false, .list 32 (p.map aJ) false] (.list 1 (r.map aY) false) := by
 unfold fh at h; split at h
 ·rename_i hc
  obtain ⟨h1, h2, h3, h4, h5, h6⟩ := hc
  cases h
  obtain ⟨n, rfl⟩ : ∃ m : Nat, n = m := ⟨n.toNat, by omega⟩
  obtain ⟨i, rfl⟩ : ∃ m : Nat, i = m := ⟨i.toNat, by omega⟩
  exact yQ HG n i b p (by omega) (by omega) h4 h5 h6
 ·cases h
end
end
section
open Go.RowKit
set_option maxRecDepth 100000
noncomputable def ee (a0 : List Int) (a1 : Int) : Option (List Int) :=
 bif (decide (a1 < 0)) then (
  none
 ) else (
  ob (arI .i64 (a1 - 0)) fun x2 =>
  bif (decide (0 < x2)) then (
   ob (qU x2) fun n4 =>
   some ([] : List Int)
  ) else (
   some ([] : List Int)
  )
 )
set_option maxHeartbeats 4000000 in
theorem kQ {a0 : List Int} {a1 : Int} {r : List Int} (h : ee a0 a1 = some r) : dI Tryd.prog HG 87 [.z, .i a1] .one 1 (r.map (af .i64)) [] := by
 unfold ee at h
 refine dI.of Tryd.func87 rfl Tryd.ntmps87 (by simp) ?_
 intro F hF h0 hT
 show Sm F _ _ ⟨[(0, .z), (1, .i a1)], [], 0⟩
 refine sr hF ?_
 refine gv hF oA ?_
 refine sn ?_
 refine Sm.seq ?_
 refine sr hF ?_
 refine gv hF oM ?_
 refine gv hF (oB (br)) ?_
 refine sn ?_
 refine bK hF rfl (fun hc1 => ?_) (fun hc1 => ?_)
 ·replace h := ifT hc1 h
  refine ab hF rfl ?_
  cases h
 replace h := ifF hc1 h
 refine sk ?_
 refine Sm.seq ?_
 refine sr hF ?_
 refine gv hF oM ?_
 refine gv hF oM ?_
 refine SmG.capFull hF Tryd.underlying30 rfl rfl rfl rfl rfl ?_
 refine gv hF oM ?_
 refine gv hF (oN (rQ u30)) ?_
 refine gv hF (oB (n8 (v := 0) rfl)) ?_
 obtain ⟨x2, hx2, h⟩ := aa h
 refine gv hF (oB (n8 hx2)) ?_
 refine gv hF oA ?_
 refine sn ?_
 refine sr hF ?_
 refine gv hF oM ?_
 refine gv hF (oB (i6)) ?_
 refine sn ?_
 refine aF hF rfl (fun hc3 => ?_) (fun hc3 => ?_)
 ·replace h := ifF hc3 h
  refine sk ?_
  refine sr hF ?_
  refine gv hF oM ?_
  refine gv hF oA ?_
  refine sn ?_
  refine Sm.to (kA (e := [(4, .z)]) (g := []) (m := 0)) ?_
  refine Sm.own (t := 4) 1 rfl ?_
  refine Sm.ret ?_
  obtain rfl := ae h
  exact kZ 0 rfl rfl rfl
 replace h := ifT hc3 h
 refine ab hF rfl ?_
 refine gv hF oM ?_
 refine gv hF oM ?_
 refine SmG.capFull hF Tryd.underlying30 rfl rfl rfl rfl rfl ?_
 refine SmG.sliceNil hF Tryd.underlying30 sz3 rfl rfl rfl rfl rfl rfl ?_
 refine gv hF oM ?_
 obtain ⟨n4, hn4, h⟩ := aa h
 refine SmG.appendMake hF jP Tryd.underlying3 rfl rfl rfl rfl rfl rfl (iN hn4).1 (iN hn4).2.1 (rb (iN hn4).2.2 rfl) (Nat.le_trans (iN hn4).2.2 (by decide)) ?_
 refine gv hF oM ?_
 refine gv hF (oN (rQ u30)) ?_
 refine gv hF (ke rfl rfl rfl rfl rfl (yv u30 rfl sz3)) ?_
 refine gv hF oA ?_
 refine sn ?_
 refine sr hF ?_
 refine gv hF oM ?_
 refine gv hF oA ?_
 refine sn ?_
 refine Sm.ret ?_
 obtain rfl := ae h
 exact kZ 0 rfl rfl rfl
noncomputable def bX (a0 : List (List Int)) (s1 : (Int × Int)) : Option ((Int × Int) ⊕ Int) :=
 bif (decide (s1.2 < (a0.length : Int))) then (
  ob (idx a0 s1.2) fun x6 =>
  ob (arI .i64 (s1.1 + (x6.length : Int))) fun x7 =>
  bif (decide (x7 < 0)) then (
   none
  ) else (
   ob (arI .i64 (s1.2 + 1)) fun x9 =>
   some (.inl (x7, x9))
  )
 ) else (
  some (.inr s1.1)
 )
noncomputable def bW (a0 : List (List Int)) (s12 : (Int × (List Int))) : Option ((Int × (List Int)) ⊕ List Int) :=
 bif (decide (s12.1 < (a0.length : Int))) then (
  ob (idx a0 s12.1) fun x17 =>
  ob (app s12.2 x17) fun x18 =>
  ob (arI .i64 (s12.1 + 1)) fun x19 =>
  some (.inl (x19, x18))
 ) else (
  some (.inr s12.2)
 )
noncomputable def dG (a0 : List (List Int)) : Option (List Int) :=
 ob ((
  bC (bX a0) (0, 0)
  : Option Int)) fun v10 =>
 ob (ee [] v10) fun x11 =>
 ob ((
  bC (bW a0) (0, x11)
  : Option (List Int))) fun v20 =>
 some v20
set_option maxHeartbeats 4000000 in
theorem kc {a0 : List (List Int)} {r : List Int} (h : dG a0 = some r) : dI Tryd.prog HG 65 [.list 1 (a0.map (aC 1 (af .i64))) false] .one 1 (r.map (af .i64)) [] := by
 unfold dG at h
 refine dI.of Tryd.func65 rfl Tryd.ntmps65 (by simp) ?_
 intro F hF h0 hT
 show Sm F _ _ ⟨[(0, .d (.list 1 (a0.map (aC 1 (af .i64))) false))], [], 0⟩
 refine sr hF ?_
 refine gv hF oA ?_
 refine sn ?_
 refine sr hF ?_
 refine gv hF oA ?_
 refine sn ?_
 refine Sm.seq ?_
 obtain ⟨v10, hv10, h⟩ := aa h
 refine dk ⟨[(0, .d (.list 1 (a0.map (aC 1 (af .i64))) false)), (3, .i v10)], [], 0⟩ ?_ ?_
 ·replace h := hv10
  refine sr hF ?_
  refine gv hF oM ?_
  refine gv hF (oN (bg u71)) ?_
  refine gv hF oM ?_
  refine sn ?_
  refine Sm.block ?_
  refine bm (bX a0) (fun s1 => ⟨[(0, .d (.list 1 (a0.map (aC 1 (af .i64))) false)), (3, .i s1.1), (9, .d (.list 1 (a0.map (aC 1 (af .i64))) false)), (10, .i (a0.length : Int)), (11, .i s1.2)], [], 0⟩) (0, 0) h (kA) ?_
  intro n2 s1 o3 h hd4
  unfold bX at h
  refine sr hF ?_
  refine gv hF (oB (br)) ?_
  refine sn ?_
  refine Sm.seq ?_
  refine aF hF rfl (fun hc5 => ?_) (fun hc5 => ?_)
  ·replace h := ifF hc5 h
   refine Sm.exit ?_
   replace h := aK h hd4
   obtain rfl := ae h
   exact (kA)
  replace h := ifT hc5 h
  refine sk ?_
  refine Sm.seq ?_
  refine Sm.block ?_
  refine sr hF ?_
  obtain ⟨x6, hx6, h⟩ := aa h
  refine gv hF (oI (aW u71 eF hx6)) ?_
  refine gv hF (oL (lP1 eo rfl)) ?_
  refine gv hF oA ?_
  refine sn ?_
  refine sr hF ?_
  refine gv hF oM ?_
  refine gv hF oM ?_
  refine gv hF (oN (bg u30)) ?_
  obtain ⟨x7, hx7, h⟩ := aa h
  refine gv hF (oB (aX hx7)) ?_
  refine gv hF oA ?_
  refine sn ?_
  refine sr hF ?_
  refine gv hF oM ?_
  refine gv hF (oB (br)) ?_
  refine sn ?_
  refine bK hF rfl (fun hc8 => ?_) (fun hc8 => ?_)
  ·replace h := ifT hc8 h
   refine ab hF rfl ?_
   cases h
  replace h := ifF hc8 h
  refine Sm.skip ?_
  refine ar ?_
  refine ac ?_
  refine ab hF rfl ?_
  obtain ⟨x9, hx9, h⟩ := aa h
  refine gv hF (oB (aX hx9)) ?_
  refine gv hF oM ?_
  refine SmG.nil ?_
  exact bp (be h hd4) (kA)
 refine sr hF ?_
 refine gv hF oM ?_
 obtain ⟨x11, hx11, h⟩ := aa h
 refine SmG.callO hF rfl rfl (by kernel_rfl) rfl rfl rfl (kQ hx11) ?_
 refine gv hF oA ?_
 refine sn ?_
 refine Sm.seq ?_
 obtain ⟨v20, hv20, h⟩ := aa h
 refine aZ ⟨[(6, .sref 0 0 (v20.map (af .i64)).length)], [(0, dB 1 (v20.map (af .i64)))], 1⟩ ?_ ?_
 ·refine Sm.seq ?_
  refine ab hF rfl ?_
  refine gv hF oM ?_
  refine gv hF oA ?_
  refine sn ?_
  refine Sm.ret ?_
  obtain rfl := ae h
  exact kZ 0 rfl rfl rfl
 replace h := hv20
 refine sr hF ?_
 refine gv hF oM ?_
 refine gv hF (oN (bg u71)) ?_
 refine gv hF oM ?_
 refine sn ?_
 refine Sm.block ?_
 refine bm (bW a0) (fun s12 => ⟨[(6, .sref 0 0 (s12.2.map (af .i64)).length), (25, .d (.list 1 (a0.map (aC 1 (af .i64))) false)), (26, .i (a0.length : Int)), (27, .i s12.1)], [(0, dB 1 (s12.2.map (af .i64)))], 1⟩) (0, x11) h (kA) ?_
 intro n13 s12 o14 h hd15
 unfold bW at h
 refine sr hF ?_
 refine gv hF (oB (br)) ?_
 refine sn ?_
 refine Sm.seq ?_
 refine aF hF rfl (fun hc16 => ?_) (fun hc16 => ?_)
 ·replace h := ifF hc16 h
  refine Sm.exit ?_
  replace h := aK h hd15
  obtain rfl := ae h
  exact (kA)
 replace h := ifT hc16 h
 refine sk ?_
 refine Sm.seq ?_
 refine Sm.block ?_
 refine sr hF ?_
 obtain ⟨x17, hx17, h⟩ := aa h
 refine gv hF (oI (aW u71 eF hx17)) ?_
 refine gv hF (oL (lP1 eo rfl)) ?_
 refine gv hF oA ?_
 refine sn ?_
 refine ab hF rfl ?_
 refine gv hF oM ?_
 refine gv hF oM ?_
 obtain ⟨x18, hx18, h⟩ := aa h
 refine a8 hF jP rfl (ys := x17) (row := (af .i64)) rfl rfl rfl rfl rfl rfl rfl rfl (.inl rfl) hx18 (by (repeat' first | exact bn _ | refine bf ?_ | refine ap ?_ (aO _ _ _) | refine ap ?_ (aO _ _ [_]) | refine ap ?_ (bE (by rfl)))) ?_
 refine gv hF oA ?_
 refine SmG.nil ?_
 refine ar ?_
 refine ac ?_
 refine ab hF rfl ?_
 obtain ⟨x19, hx19, h⟩ := aa h
 refine gv hF (oB (aX hx19)) ?_
 refine gv hF oM ?_
 refine SmG.nil ?_
 exact bp (be h hd15) (kA)
noncomputable def dH (a0 : List UInt8) (a1 : Int) : Option (List UInt8) :=
 bif (decide (a1 < 0)) then (
  none
 ) else (
  ob (arI .i64 (a1 - 0)) fun x2 =>
  bif (decide (0 < x2)) then (
   ob (qU x2) fun n4 =>
   some ([] : List UInt8)
  ) else (
   some ([] : List UInt8)
  )
 )
set_option maxHeartbeats 4000000 in
theorem kl {a0 : List UInt8} {a1 : Int} {r : List UInt8} (h : dH a0 a1 = some r) : dI Tryd.prog HG 64 [.z, .i a1] .one 1 (r.map aL) [] := by
 unfold dH at h
 refine dI.of Tryd.func64 rfl Tryd.ntmps64 (by simp) ?_
 intro F hF h0 hT
 show Sm F _ _ ⟨[(0, .z), (1, .i a1)], [], 0⟩
 refine sr hF ?_
 refine gv hF oA ?_
 refine sn ?_
 refine Sm.seq ?_
 refine sr hF ?_
 refine gv hF oM ?_
 refine gv hF (oB (br)) ?_
 refine sn ?_
 refine bK hF rfl (fun hc1 => ?_) (fun hc1 => ?_)
 ·replace h := ifT hc1 h
  refine ab hF rfl ?_
  cases h
 replace h := ifF hc1 h
 refine sk ?_
 refine Sm.seq ?_
 refine sr hF ?_
 refine gv hF oM ?_
 refine gv hF oM ?_
 refine SmG.capFull hF Tryd.underlying24 rfl rfl rfl rfl rfl ?_
 refine gv hF oM ?_
 refine gv hF (oN (rQ u24)) ?_
 refine gv hF (oB (n8 (v := 0) rfl)) ?_
 obtain ⟨x2, hx2, h⟩ := aa h
 refine gv hF (oB (n8 hx2)) ?_
 refine gv hF oA ?_
 refine sn ?_
 refine sr hF ?_
 refine gv hF oM ?_
 refine gv hF (oB (i6)) ?_
 refine sn ?_
 refine aF hF rfl (fun hc3 => ?_) (fun hc3 => ?_)
 ·replace h := ifF hc3 h
  refine sk ?_
  refine sr hF ?_
  refine gv hF oM ?_
  refine gv hF oA ?_
  refine sn ?_
  refine Sm.to (kA (e := [(4, .z)]) (g := []) (m := 0)) ?_
  refine Sm.own (t := 4) 1 rfl ?_
  refine Sm.ret ?_
  obtain rfl := ae h
  exact kZ 0 rfl rfl rfl
 replace h := ifT hc3 h
 refine ab hF rfl ?_
 refine gv hF oM ?_
 refine gv hF oM ?_
 refine SmG.capFull hF Tryd.underlying24 rfl rfl rfl rfl rfl ?_
 refine SmG.sliceNil hF Tryd.underlying24 sz5 rfl rfl rfl rfl rfl rfl ?_
 refine gv hF oM ?_
 obtain ⟨n4, hn4, h⟩ := aa h
 refine SmG.appendMake hF oh Tryd.underlying3 rfl rfl rfl rfl rfl rfl (iN hn4).1 (iN hn4).2.1 (rb (iN hn4).2.2 rfl) (Nat.le_trans (iN hn4).2.2 (by decide)) ?_
 refine gv hF oM ?_
 refine gv hF (oN (rQ u24)) ?_
 refine gv hF (ke rfl rfl rfl rfl rfl (yv u24 rfl sz5)) ?_
 refine gv hF oA ?_
 refine sn ?_
 refine sr hF ?_
 refine gv hF oM ?_
 refine gv hF oA ?_
 refine sn ?_
 refine Sm.ret ?_
 obtain rfl := ae h
 exact kZ 0 rfl rfl rfl
noncomputable def bO (a0 : List (List UInt8)) (s1 : (Int × Int)) : Option ((Int × Int) ⊕ Int) :=
 bif (decide (s1.2 < (a0.length : Int))) then (
  ob (idx a0 s1.2) fun x6 =>
  ob (arI .i64 (s1.1 + (x6.length : Int))) fun x7 =>
  bif (decide (x7 < 0)) then (
   none
  ) else (
   ob (arI .i64 (s1.2 + 1)) fun x9 =>
   some (.inl (x7, x9))
  )
 ) else (
  some (.inr s1.1)
 )
noncomputable def bN (a0 : List (List UInt8)) (s12 : (Int × (List UInt8))) : Option ((Int × (List UInt8)) ⊕ List UInt8) :=
 bif (decide (s12.1 < (a0.length : Int))) then (
  ob (idx a0 s12.1) fun x17 =>
  ob (app s12.2 x17) fun x18 =>
  ob (arI .i64 (s12.1 + 1)) fun x19 =>
  some (.inl (x19, x18))
 ) else (
  some (.inr s12.2)
 )
noncomputable def dh (a0 : List (List UInt8)) : Option (List UInt8) :=
 ob ((
  bC (bO a0) (0, 0)
  : Option Int)) fun v10 =>
 ob (dH [] v10) fun x11 =>
 ob ((
  bC (bN a0) (0, x11)
  : Option (List UInt8))) fun v20 =>
 some v20
set_option maxHeartbeats 4000000 in
theorem jD {a0 : List (List UInt8)} {r : List UInt8} (h : dh a0 = some r) : dI Tryd.prog HG 36 [.list 1 (a0.map aY) false] .one 1 (r.map aL) [] := by
 unfold dh at h
 refine dI.of Tryd.func36 rfl Tryd.ntmps36 (by simp) ?_
 intro F hF h0 hT
 show Sm F _ _ ⟨[(0, .d (.list 1 (a0.map aY) false))], [], 0⟩
 refine sr hF ?_
 refine gv hF oA ?_
 refine sn ?_
 refine sr hF ?_
 refine gv hF oA ?_
 refine sn ?_
 refine Sm.seq ?_
 obtain ⟨v10, hv10, h⟩ := aa h
 refine dk ⟨[(0, .d (.list 1 (a0.map aY) false)), (3, .i v10)], [], 0⟩ ?_ ?_
 ·replace h := hv10
  refine sr hF ?_
  refine gv hF oM ?_
  refine gv hF (oN (bg u61)) ?_
  refine gv hF oM ?_
  refine sn ?_
  refine Sm.block ?_
  refine bm (bO a0) (fun s1 => ⟨[(0, .d (.list 1 (a0.map aY) false)), (3, .i s1.1), (9, .d (.list 1 (a0.map aY) false)), (10, .i (a0.length : Int)), (11, .i s1.2)], [], 0⟩) (0, 0) h (kA) ?_
  intro n2 s1 o3 h hd4
  unfold bO at h
  refine sr hF ?_
  refine gv hF (oB (br)) ?_
  refine sn ?_
  refine Sm.seq ?_
  refine aF hF rfl (fun hc5 => ?_) (fun hc5 => ?_)
  ·replace h := ifF hc5 h
   refine Sm.exit ?_
   replace h := aK h hd4
   obtain rfl := ae h
   exact (kA)
  replace h := ifT hc5 h
  refine sk ?_
  refine Sm.seq ?_
  refine Sm.block ?_
  refine sr hF ?_
  obtain ⟨x6, hx6, h⟩ := aa h
  refine gv hF (oI (aW u61 eC hx6)) ?_
  refine gv hF (oL (lP1 e8 rfl)) ?_
  refine gv hF oA ?_
  refine sn ?_
  refine sr hF ?_
  refine gv hF oM ?_
  refine gv hF oM ?_
  refine gv hF (oN (bg u24)) ?_
  obtain ⟨x7, hx7, h⟩ := aa h
  refine gv hF (oB (aX hx7)) ?_
  refine gv hF oA ?_
  refine sn ?_
  refine sr hF ?_
  refine gv hF oM ?_
  refine gv hF (oB (br)) ?_
  refine sn ?_
  refine bK hF rfl (fun hc8 => ?_) (fun hc8 => ?_)
  ·replace h := ifT hc8 h
   refine ab hF rfl ?_
   cases h
  replace h := ifF hc8 h
  refine Sm.skip ?_
  refine ar ?_
  refine ac ?_
  refine ab hF rfl ?_
  obtain ⟨x9, hx9, h⟩ := aa h
  refine gv hF (oB (aX hx9)) ?_
  refine gv hF oM ?_
  refine SmG.nil ?_
  exact bp (be h hd4) (kA)
 refine sr hF ?_
 refine gv hF oM ?_
 obtain ⟨x11, hx11, h⟩ := aa h
 refine SmG.callO hF rfl rfl (by kernel_rfl) rfl rfl rfl (kl hx11) ?_
 refine gv hF oA ?_
 refine sn ?_
 refine Sm.seq ?_
 obtain ⟨v20, hv20, h⟩ := aa h
 refine aZ ⟨[(6, .sref 0 0 (v20.map aL).length)], [(0, dB 1 (v20.map aL))], 1⟩ ?_ ?_
 ·refine Sm.seq ?_
  refine ab hF rfl ?_
  refine gv hF oM ?_
  refine gv hF oA ?_
  refine sn ?_
  refine Sm.ret ?_
  obtain rfl := ae h
  exact kZ 0 rfl rfl rfl
 replace h := hv20
 refine sr hF ?_
 refine gv hF oM ?_
 refine gv hF (oN (bg u61)) ?_
 refine gv hF oM ?_
 refine sn ?_
 refine Sm.block ?_
 refine bm (bN a0) (fun s12 => ⟨[(6, .sref 0 0 (s12.2.map aL).length), (25, .d (.list 1 (a0.map aY) false)), (26, .i (a0.length : Int)), (27, .i s12.1)], [(0, dB 1 (s12.2.map aL))], 1⟩) (0, x11) h (kA) ?_
 intro n13 s12 o14 h hd15
 unfold bN at h
 refine sr hF ?_
 refine gv hF (oB (br)) ?_
 refine sn ?_
 refine Sm.seq ?_
 refine aF hF rfl (fun hc16 => ?_) (fun hc16 => ?_)
 ·replace h := ifF hc16 h
  refine Sm.exit ?_
  replace h := aK h hd15
  obtain rfl := ae h
  exact (kA)
 replace h := ifT hc16 h
 refine sk ?_
 refine Sm.seq ?_
 refine Sm.block ?_
 refine sr hF ?_
 obtain ⟨x17, hx17, h⟩ := aa h
 refine gv hF (oI (aW u61 eC hx17)) ?_
 refine gv hF (oL (lP1 e8 rfl)) ?_
 refine gv hF oA ?_
 refine sn ?_
 refine ab hF rfl ?_
 refine gv hF oM ?_
 refine gv hF oM ?_
 obtain ⟨x18, hx18, h⟩ := aa h
 refine a8 hF oh rfl (ys := x17) (row := aL) rfl rfl rfl rfl rfl rfl rfl rfl (.inl rfl) hx18 (by (repeat' first | exact bn _ | refine bf ?_ | refine ap ?_ (aO _ _ _) | refine ap ?_ (aO _ _ [_]) | refine ap ?_ (bE (by rfl)))) ?_
 refine gv hF oA ?_
 refine SmG.nil ?_
 refine ar ?_
 refine ac ?_
 refine ab hF rfl ?_
 obtain ⟨x19, hx19, h⟩ := aa h
 refine gv hF (oB (aX hx19)) ?_
 refine gv hF oM ?_
 refine SmG.nil ?_
 exact bp (be h hd15) (kA)
end
section
open Go.RowKit
set_option maxRecDepth 100000
structure Ans where
 version : Int
 index : Int
 count : Int
 pos : Ps
 entry : Rs
 proof : List (List UInt8)
def Ans.row (x : Ans) : List D := [.v (.int .i64 x.version), .v (.int .i64 x.index), .v (.int .i64 x.count), .list 1 (x.pos.at_.map (af .i64)) false, .list 1 (x.pos.h0.map (af .i64)) false, .list 1 (x.pos.h1.map (af .i64)) false, .v (.int .i64 x.pos.rights), .v (.int .i64 x.pos.side), .v (.int .i64 x.entry.out), .v (.int .i64 x.entry.n), .list 32 (x.proof.map aJ) false]
structure Pvd where
 l : List (List UInt8)
 e : Int
def Pvd.row (x : Pvd) : List D := [.list 32 (x.l.map aJ) false, .v (.int .i64 x.e)]
noncomputable def eK (a0 : GRaw) (x1 : Brd) (x2 : Int) (v5 : Int) (s9 : (Int × (List (List Stp)))) : Option ((Int × (List (List Stp))) ⊕ List (List Stp)) :=
 bif (decide (s9.1 < (a0.k0.length : Int))) then (
  bif (decide (s9.1 < 4)) then (
   ob (idx a0.k0 s9.1) fun x15 =>
   ob (eP x15 (x1.next.length : Int) v5 x2) fun x16 =>
   ob (app s9.2 [x16]) fun x17 =>
   ob (arI .i64 (s9.1 + 1)) fun x18 =>
   some (.inl (x18, x17))
  ) else (
   some (.inr s9.2)
  )
 ) else (
  some (.inr s9.2)
 )
noncomputable def eS (a0 : GRaw) (x1 : Brd) (x2 : Int) (v5 : Int) (s25 : (Int × (List (List Stp)))) : Option ((Int × (List (List Stp))) ⊕ List (List Stp)) :=
 bif (decide (s25.1 < (a0.k1.length : Int))) then (
  bif (decide (s25.1 < 4)) then (
   ob (idx a0.k1 s25.1) fun x31 =>
   ob (eP x31 (x1.next.length : Int) v5 x2) fun x32 =>
   ob (app s25.2 [x32]) fun x33 =>
   ob (arI .i64 (s25.1 + 1)) fun x34 =>
   some (.inl (x34, x33))
  ) else (
   some (.inr s25.2)
  )
 ) else (
  some (.inr s25.2)
 )
noncomputable def gU (s41 : Int) : Option (Int ⊕ List Knd) :=
 none
noncomputable def eO (a0 : GRaw) (x1 : Brd) (v5 : Int) (s60 : (Int × (List Cls))) : Option ((Int × (List Cls)) ⊕ List Cls) :=
 bif (decide (s60.1 < (a0.c.length : Int))) then (
  bif (decide (s60.1 < 3)) then (
   ob (idx a0.c s60.1) fun x66 =>
   ob (cE (x66.1.toNat : Int) 3) fun x67 =>
   ob (arI .i64 (1 + x67)) fun x68 =>
   ob (idx a0.c s60.1) fun x69 =>
   ob (jy .u8 (x69.1.toNat : Int) 4) fun x70 =>
   ob (arI .i64 x70) fun x71 =>
   ob (cE x71 3) fun x72 =>
   ob (arI .i64 (1 + x72)) fun x73 =>
   ob ((
    bif (x68 != 3) then (
     ob (idx a0.c s60.1) fun x75 =>
     ob (cE (x75.2.1.toNat : Int) v5) fun x76 =>
     some x76
    ) else (
     some 0
    )
    : Option Int)) fun v77 =>
   ob ((
    bif (x68 == 2) then (
     ob (idx a0.c s60.1) fun x79 =>
     ob (cE (x79.2.2.toNat : Int) x1.cells) fun x80 =>
     some x80
    ) else (
     some 0
    )
    : Option Int)) fun v81 =>
   ob ((
    bif (x68 == 3) then (
     ob (idx a0.c s60.1) fun x83 =>
     ob (cE (x83.2.2.toNat : Int) 3) fun x84 =>
     some x84
    ) else (
     some v81
    )
    : Option Int)) fun v85 =>
   ob (app s60.2 [(⟨x68, v77, v85, x73⟩ : Cls)]) fun x86 =>
   ob (arI .i64 (s60.1 + 1)) fun x87 =>
   some (.inl (x87, x86))
  ) else (
   some (.inr s60.2)
  )
 ) else (
  some (.inr s60.2)
 )
noncomputable def fE (a0 : GRaw) : Option Gm :=
 ob (fB a0.w a0.h a0.cut) fun x1 =>
 ob (cE (a0.f0.toNat : Int) 3) fun x2 =>
 ob (cE (a0.f1.toNat : Int) 4) fun x3 =>
 ob ((
  bif (decide (0 < (a0.k1.length : Int))) then (
   some 2
  ) else (
   some 1
  )
  : Option Int)) fun v5 =>
 ob ((
  bif (decide (0 < v5)) then (
   ob ((
    ob (idx ([([97] : List UInt8), ([98, 101, 101] : List UInt8)]) 0) fun x7 =>
    ob (jJ .u8 (a0.f2.toNat : Int) 0) fun x8 =>
    ob ((
     bC (eK a0 x1 x2 v5) (0, ([] : List (List Stp)))
     : Option (List (List Stp)))) fun v19 =>
    ob (app ([] : List Knd) [(⟨x7, v19, ((dU .u8 x8 1) == 1)⟩ : Knd)]) fun x20 =>
    some x20
    : Option (List Knd))) fun v21 =>
   bif (decide (1 < v5)) then (
    ob ((
     ob (idx ([([97] : List UInt8), ([98, 101, 101] : List UInt8)]) 1) fun x23 =>
     ob (jJ .u8 (a0.f2.toNat : Int) 1) fun x24 =>
     ob ((
      bC (eS a0 x1 x2 v5) (0, ([] : List (List Stp)))
      : Option (List (List Stp)))) fun v35 =>
     ob (app v21 [(⟨x23, v35, ((dU .u8 x24 1) == 1)⟩ : Knd)]) fun x36 =>
     some x36
     : Option (List Knd))) fun v37 =>
    bif (decide (2 < v5)) then (
     ob (idx ([([97] : List UInt8), ([98, 101, 101] : List UInt8)]) 2) fun x39 =>
     ob (jJ .u8 (a0.f2.toNat : Int) 2) fun x40 =>
     bC (gU) 0
    ) else (
     some v37
    )
   ) else (
    some v21
   )
  ) else (
   some []
  )
  : Option (List Knd))) fun v45 =>
 ob ((
  ob (cE (a0.f3.toNat : Int) 4) fun x46 =>
  bif (x46 == 3) then (
   ob (jy .u8 (a0.f3.toNat : Int) 4) fun x48 =>
   ob (arI .i64 x48) fun x49 =>
   ob (cE x49 3) fun x50 =>
   ob (arI .i64 (1 + x50)) fun x51 =>
   some x51
  ) else (
   some 3
  )
  : Option Int)) fun v52 =>
 ob ((
  ob (cE (a0.f4.toNat : Int) 4) fun x53 =>
  bif (x53 == 3) then (
   ob (jy .u8 (a0.f4.toNat : Int) 4) fun x55 =>
   ob (arI .i64 x55) fun x56 =>
   ob (cE x56 3) fun x57 =>
   ob (arI .i64 (1 + x57)) fun x58 =>
   some x58
  ) else (
   some 2
  )
  : Option Int)) fun v59 =>
 ob ((
  bC (eO a0 x1 v5) (0, ([] : List Cls))
  : Option (List Cls))) fun v88 =>
 some (⟨x1, v45, x2, (x3 == 3), v88, v52, v59⟩ : Gm)
set_option maxHeartbeats 4000000 in
theorem nf {a0 : GRaw} {r : Gm} (h : fE a0 = some r) : aq Tryd.prog HG 24 [.agg 12 (GRaw.row a0)] (.agg 9 (Gm.row r)) := by
 unfold fE at h
 refine aq.of Tryd.func24 rfl Tryd.ntmps24 (by simp) ?_
 intro F hF h0 hT
 show Sm F _ _ ⟨[(0, .d (.agg 12 (GRaw.row a0)))], [], 0⟩
 refine sr hF ?_
 refine bT hF fU ?_
 refine SmG.new hF rfl rfl rfl (aQ rfl Ay) ?_
 refine sn ?_
 refine Sm.seq ?_
 refine aV hF (by kernel_rfl) rfl 19 (by kernel_rfl) (by kernel_rfl) ?_
 simp only [List.take_succ_cons, List.take_zero, List.take_nil]
 refine hv hF (oF (ak zT rfl)) ?_
 refine hv hF (oL (lP1 ag5 rfl)) ?_
 refine hv hF (oF (ak zK rfl)) ?_
 refine hv hF (oL (lP1 ag5 rfl)) ?_
 refine hv hF (oF (ak AB rfl)) ?_
 refine hv hF (oL (lP1 ag5 rfl)) ?_
 obtain ⟨x1, hx1, h⟩ := aa h
 refine cH hF (m8 hx1) ?_
 refine hv hF (oF (ak jo rfl)) ?_
 refine hv hF (oI (ci u27 sz5 rfl rfl)) ?_
 refine hv hF (oL (lP1 ag5 rfl)) ?_
 refine hv hF (oC (dD u5 u3 (dg _))) ?_
 obtain ⟨x2, hx2, h⟩ := aa h
 refine hv hF (oB (bJ hx2)) ?_
 refine hv hF (oF (ak jo rfl)) ?_
 refine hv hF (oI (ci u27 sz5 rfl rfl)) ?_
 refine hv hF (oL (lP1 ag5 rfl)) ?_
 obtain ⟨x3, hx3, h⟩ := aa h
 refine hv hF (oB (bJ hx3)) ?_
 refine hv hF (oB (cK)) ?_
 refine hv hF (x := .d (.agg 9 [.i x1.cells, .list 1 (x1.next.map (aC 1 (af .i64))) false, .l x1.turn, .z, .i x2, .v (.bool (x3 == 3)), .z, .i 3, .i 2])) (bc rfl u77 (by kernel_rfl) rfl (bj (n := 9) zV EK rfl rfl)) ?_
 refine ag.new hF rfl rfl rfl rfl Ay ?_
 refine ag.last ⟨rfl, ?_⟩
 simp only [List.drop_succ_cons, List.drop_zero, List.drop_nil, List.nil_append, List.cons_append]
 refine SmG.store hF rfl rfl rfl rfl rfl (ba (ys := [.i x1.cells, .d (.list 1 (x1.next.map (aC 1 (af .i64))) false), .l x1.turn, .z, .i x2, .d (.v (.bool (x3 == 3))), .z, .i 3, .i 2]) (r := [.i 0, .z, .z, .z, .i 0, .d (.v (.bool false)), .z, .i 0, .i 0]) (rows' := [[.i x1.cells, .d (.list 1 (x1.next.map (aC 1 (af .i64))) false), .l x1.turn, .z, .i x2, .d (.v (.bool (x3 == 3))), .z, .i 3, .i 2]]) rfl rfl rfl qz rfl rfl rfl rfl rfl) ?_
 refine sn ?_
 refine sr hF ?_
 refine gv hF oA ?_
 refine sn ?_
 refine Sm.seq ?_
 obtain ⟨v5, hv5, h⟩ := aa h
 refine dk ⟨[(1, .d (.ptr 12 (GRaw.row a0))), (2, .ref 0 0 0), (3, .ref 1 0 0), (4, .i v5)], [(1, ⟨9, [[.i x1.cells, .d (.list 1 (x1.next.map (aC 1 (af .i64))) false), .l x1.turn, .z, .i x2, .d (.v (.bool (x3 == 3))), .z, .i 3, .i 2]]⟩), (0, ⟨9, [[.i 0, .z, .z, .z, .i 0, .d (.v (.bool false)), .z, .i 0, .i 0]]⟩)], 2⟩ ?_ ?_
 ·replace h := hv5
  refine sr hF ?_
  refine gv hF (oF (ak mB rfl)) ?_
  refine gv hF (oI (ci u25 eC rfl rfl)) ?_
  refine gv hF (oL (lP1 e8 rfl)) ?_
  refine gv hF (oN (bg u24)) ?_
  refine gv hF (oB (i6)) ?_
  refine sn ?_
  refine aF hF rfl (fun hc4 => ?_) (fun hc4 => ?_)
  ·replace h := ifF hc4 h
   refine Sm.skip ?_
   obtain rfl := ae h
   exact (kA)
  replace h := ifT hc4 h
  refine ab hF rfl ?_
  refine gv hF oA ?_
  refine SmG.nil ?_
  obtain rfl := ae h
  exact (kA)
 refine Sm.seq ?_
 obtain ⟨v45, hv45, h⟩ := aa h
 refine aZ ⟨[(1, .d (.ptr 12 (GRaw.row a0))), (2, .ref 0 0 0), (3, .ref 1 0 0), (4, .i v5)], [(1, ⟨9, [[.i x1.cells, .d (.list 1 (x1.next.map (aC 1 (af .i64))) false), .l x1.turn, .d (.list 3 (v45.map Knd.row) false), .i x2, .d (.v (.bool (x3 == 3))), .z, .i 3, .i 2]]⟩), (0, ⟨9, [[.i 0, .z, .z, .z, .i 0, .d (.v (.bool false)), .z, .i 0, .i 0]]⟩)], 7⟩ ?_ ?_
 ·refine Sm.seq ?_
  obtain ⟨v52, hv52, h⟩ := aa h
  refine dk ⟨[(1, .d (.ptr 12 (GRaw.row a0))), (2, .ref 0 0 0), (3, .ref 1 0 0), (4, .i v5)], [(1, ⟨9, [[.i x1.cells, .d (.list 1 (x1.next.map (aC 1 (af .i64))) false), .l x1.turn, .d (.list 3 (v45.map Knd.row) false), .i x2, .d (.v (.bool (x3 == 3))), .z, .i v52, .i 2]]⟩), (0, ⟨9, [[.i 0, .z, .z, .z, .i 0, .d (.v (.bool false)), .z, .i 0, .i 0]]⟩)], 7⟩ ?_ ?_
  ·replace h := hv52
   refine sr hF ?_
   refine gv hF (oF (ak jo rfl)) ?_
   refine gv hF (oI (ci u27 sz5 rfl rfl)) ?_
   refine gv hF (oL (lP1 ag5 rfl)) ?_
   obtain ⟨x46, hx46, h⟩ := aa h
   refine gv hF (oB (bJ hx46)) ?_
   refine gv hF (oB (cK)) ?_
   refine sn ?_
   refine aF hF rfl (fun hc47 => ?_) (fun hc47 => ?_)
   ·replace h := ifF hc47 h
    refine Sm.skip ?_
    obtain rfl := ae h
    exact (kA)
   replace h := ifT hc47 h
   refine ab hF rfl ?_
   refine gv hF (oF (ak jo rfl)) ?_
   refine gv hF (oI (ci u27 sz5 rfl rfl)) ?_
   refine gv hF (oL (lP1 ag5 rfl)) ?_
   obtain ⟨x48, hx48, h⟩ := aa h
   refine gv hF (oB (kj hx48)) ?_
   obtain ⟨x49, hx49, h⟩ := aa h
   refine gv hF (oC (jO u5 u3 hx49)) ?_
   obtain ⟨x50, hx50, h⟩ := aa h
   refine gv hF (oB (bJ hx50)) ?_
   obtain ⟨x51, hx51, h⟩ := aa h
   refine gv hF (oB (aX hx51)) ?_
   refine gv hF (oF (aA Ae)) ?_
   refine SmG.store hF rfl rfl rfl rfl rfl (cC (rows' := [[.i x1.cells, .d (.list 1 (x1.next.map (aC 1 (af .i64))) false), .l x1.turn, .d (.list 3 (v45.map Knd.row) false), .i x2, .d (.v (.bool (x3 == 3))), .z, .i x51, .i 2]]) rfl rfl rfl sz3 rfl rfl rfl) ?_
   refine SmG.nil ?_
   obtain rfl := ae h
   exact (kA)
  refine Sm.seq ?_
  obtain ⟨v59, hv59, h⟩ := aa h
  refine dk ⟨[(1, .d (.ptr 12 (GRaw.row a0))), (2, .ref 0 0 0), (3, .ref 1 0 0), (4, .i v5)], [(1, ⟨9, [[.i x1.cells, .d (.list 1 (x1.next.map (aC 1 (af .i64))) false), .l x1.turn, .d (.list 3 (v45.map Knd.row) false), .i x2, .d (.v (.bool (x3 == 3))), .z, .i v52, .i v59]]⟩), (0, ⟨9, [[.i 0, .z, .z, .z, .i 0, .d (.v (.bool false)), .z, .i 0, .i 0]]⟩)], 7⟩ ?_ ?_
  ·replace h := hv59
   refine sr hF ?_
   refine gv hF (oF (ak jo rfl)) ?_
   refine gv hF (oI (ci u27 sz5 rfl rfl)) ?_
   refine gv hF (oL (lP1 ag5 rfl)) ?_
   obtain ⟨x53, hx53, h⟩ := aa h
   refine gv hF (oB (bJ hx53)) ?_
   refine gv hF (oB (cK)) ?_
   refine sn ?_
   refine aF hF rfl (fun hc54 => ?_) (fun hc54 => ?_)
   ·replace h := ifF hc54 h
    refine Sm.skip ?_
    obtain rfl := ae h
    exact (kA)
   replace h := ifT hc54 h
   refine ab hF rfl ?_
   refine gv hF (oF (ak jo rfl)) ?_
   refine gv hF (oI (ci u27 sz5 rfl rfl)) ?_
   refine gv hF (oL (lP1 ag5 rfl)) ?_
   obtain ⟨x55, hx55, h⟩ := aa h
   refine gv hF (oB (kj hx55)) ?_
   obtain ⟨x56, hx56, h⟩ := aa h
   refine gv hF (oC (jO u5 u3 hx56)) ?_
   obtain ⟨x57, hx57, h⟩ := aa h
   refine gv hF (oB (bJ hx57)) ?_
   obtain ⟨x58, hx58, h⟩ := aa h
   refine gv hF (oB (aX hx58)) ?_
   refine gv hF (oF (aA zG)) ?_
   refine SmG.store hF rfl rfl rfl rfl rfl (cC (rows' := [[.i x1.cells, .d (.list 1 (x1.next.map (aC 1 (af .i64))) false), .l x1.turn, .d (.list 3 (v45.map Knd.row) false), .i x2, .d (.v (.bool (x3 == 3))), .z, .i v52, .i x58]]) rfl rfl rfl sz3 rfl rfl rfl) ?_
   refine SmG.nil ?_
   obtain rfl := ae h
   exact (kA)
  refine Sm.seq ?_
  obtain ⟨v88, hv88, h⟩ := aa h
  refine aZ ⟨[(2, .ref 0 0 0), (3, .ref 1 0 0)], [(1, ⟨9, [[.i x1.cells, .d (.list 1 (x1.next.map (aC 1 (af .i64))) false), .l x1.turn, .d (.list 3 (v45.map Knd.row) false), .i x2, .d (.v (.bool (x3 == 3))), .d (.list 4 (v88.map Cls.row) false), .i v52, .i v59]]⟩), (0, ⟨9, [[.i 0, .z, .z, .z, .i 0, .d (.v (.bool false)), .z, .i 0, .i 0]]⟩)], 8⟩ ?_ ?_
  ·refine Sm.seq ?_
   refine ab hF rfl ?_
   refine gv hF (x := .d (.agg 9 [.i x1.cells, .list 1 (x1.next.map (aC 1 (af .i64))) false, .l x1.turn, .list 3 (v45.map Knd.row) false, .i x2, .v (.bool (x3 == 3)), .list 4 (v88.map Cls.row) false, .i v52, .i v59])) (oL (aE rfl rfl uY qz rfl rfl)) ?_
   refine SmG.store hF rfl rfl rfl rfl rfl (ba (ys := [.i x1.cells, .d (.list 1 (x1.next.map (aC 1 (af .i64))) false), .l x1.turn, .d (.list 3 (v45.map Knd.row) false), .i x2, .d (.v (.bool (x3 == 3))), .d (.list 4 (v88.map Cls.row) false), .i v52, .i v59]) (r := [.i 0, .z, .z, .z, .i 0, .d (.v (.bool false)), .z, .i 0, .i 0]) (rows' := [[.i x1.cells, .d (.list 1 (x1.next.map (aC 1 (af .i64))) false), .l x1.turn, .d (.list 3 (v45.map Knd.row) false), .i x2, .d (.v (.bool (x3 == 3))), .d (.list 4 (v88.map Cls.row) false), .i v52, .i v59]]) rfl rfl rfl qz rfl rfl rfl rfl rfl) ?_
   refine sn ?_
   refine Sm.ret ?_
   obtain rfl := ae h
   exact dV (RetR.cons (RetO.cell rfl (aE (ds := [.i x1.cells, .list 1 (x1.next.map (aC 1 (af .i64))) false, .l x1.turn, .list 3 (v45.map Knd.row) false, .i x2, .v (.bool (x3 == 3)), .list 4 (v88.map Cls.row) false, .i v52, .i v59]) rfl rfl uY qz rfl rfl)) (RetR.nil)) (D.le.refl _)
  replace h := hv88
  refine sr hF ?_
  refine gv hF oA ?_
  refine sn ?_
  refine Sm.block ?_
  refine Sm.to (kA (e := [(1, .d (.ptr 12 (GRaw.row a0))), (2, .ref 0 0 0), (3, .ref 1 0 0), (4, .i v5), (8, .i 0)]) (g := [(1, ⟨9, [[.i x1.cells, .d (.list 1 (x1.next.map (aC 1 (af .i64))) false), .l x1.turn, .d (.list 3 (v45.map Knd.row) false), .i x2, .d (.v (.bool (x3 == 3))), .z, .i v52, .i v59]]⟩), (0, ⟨9, [[.i 0, .z, .z, .z, .i 0, .d (.v (.bool false)), .z, .i 0, .i 0]]⟩)]) (m := 7)) ?_
  refine Sm.ownCell 1 0 6 4 rfl rfl rfl ?_
  refine bm (eO a0 x1 v5) (fun s60 => ⟨[(1, .d (.ptr 12 (GRaw.row a0))), (2, .ref 0 0 0), (3, .ref 1 0 0), (4, .i v5), (8, .i s60.1)], [(7, dB 4 (s60.2.map Cls.row)), (1, ⟨9, [[.i x1.cells, .d (.list 1 (x1.next.map (aC 1 (af .i64))) false), .l x1.turn, .d (.list 3 (v45.map Knd.row) false), .i x2, .d (.v (.bool (x3 == 3))), .sref 7 0 (s60.2.map Cls.row).length, .i v52, .i v59]]⟩), (0, ⟨9, [[.i 0, .z, .z, .z, .i 0, .d (.v (.bool false)), .z, .i 0, .i 0]]⟩)], 8⟩) (0, ([] : List Cls)) h (kA) ?_
  intro n61 s60 o62 h hd63
  unfold eO at h
  refine Sm.seq ?_
  refine sr hF ?_
  refine gv hF oM ?_
  refine gv hF (oF (ak mr rfl)) ?_
  refine gv hF (oL (lP1 pA rfl)) ?_
  refine gv hF (oN (bg u26)) ?_
  refine gv hF (oB (br)) ?_
  rcases bx (decide (s60.1 < (a0.c.length : Int))) with hc64 | hc64
  ·replace h := ifF hc64 h
   refine gv hF (au rfl rfl hc64) ?_
   refine gp hF ?_
   refine gp hF ?_
   refine gv hF (am rfl rfl rfl) ?_
   refine sn ?_
   refine bi hF rfl ?_
   refine Sm.exit ?_
   replace h := aK h hd63
   obtain rfl := ae h
   exact (aR (kA (e := [(2, .ref 0 0 0), (3, .ref 1 0 0)]) (g := [(7, dB 4 (s60.2.map Cls.row)), (1, ⟨9, [[.i x1.cells, .d (.list 1 (x1.next.map (aC 1 (af .i64))) false), .l x1.turn, .d (.list 3 (v45.map Knd.row) false), .i x2, .d (.v (.bool (x3 == 3))), .sref 7 0 (s60.2.map Cls.row).length, .i v52, .i v59]]⟩), (0, ⟨9, [[.i 0, .z, .z, .z, .i 0, .d (.v (.bool false)), .z, .i 0, .i 0]]⟩)]) (m := 8)) (fA (l := 7) (sz := 4) (s60.2.map Cls.row)))
  replace h := ifT hc64 h
  refine gv hF (au rfl rfl hc64) ?_
  refine gv hF oM ?_
  refine gv hF (oB (br)) ?_
  refine gv hF (aH rfl rfl rfl) ?_
  refine sn ?_
  refine aF hF rfl (fun hc65 => ?_) (fun hc65 => ?_)
  ·replace h := ifF hc65 h
   refine Sm.exit ?_
   replace h := aK h hd63
   obtain rfl := ae h
   exact (aR (kA (e := [(2, .ref 0 0 0), (3, .ref 1 0 0)]) (g := [(7, dB 4 (s60.2.map Cls.row)), (1, ⟨9, [[.i x1.cells, .d (.list 1 (x1.next.map (aC 1 (af .i64))) false), .l x1.turn, .d (.list 3 (v45.map Knd.row) false), .i x2, .d (.v (.bool (x3 == 3))), .sref 7 0 (s60.2.map Cls.row).length, .i v52, .i v59]]⟩), (0, ⟨9, [[.i 0, .z, .z, .z, .i 0, .d (.v (.bool false)), .z, .i 0, .i 0]]⟩)]) (m := 8)) (fA (l := 7) (sz := 4) (s60.2.map Cls.row)))
  replace h := ifT hc65 h
  refine sk ?_
  refine Sm.seq ?_
  refine Sm.block ?_
  refine Sm.seq ?_
  refine aV hF (by kernel_rfl) rfl 21 (by kernel_rfl) (by kernel_rfl) ?_
  simp only [List.take_succ_cons, List.take_zero, List.take_nil]
  refine hv hF (oF (ak mr rfl)) ?_
  refine hv hF (oL (lP1 pA rfl)) ?_
  refine hv hF oM ?_
  obtain ⟨x66, hx66, h⟩ := aa h
  refine hv hF (oI (aW u26 oH hx66)) ?_
  refine hv hF (oI (ci sd sz5 rfl rfl)) ?_
  refine hv hF (oL (lP1 ag5 rfl)) ?_
  refine hv hF (oC (dD u5 u3 (dg _))) ?_
  obtain ⟨x67, hx67, h⟩ := aa h
  refine hv hF (oB (bJ hx67)) ?_
  obtain ⟨x68, hx68, h⟩ := aa h
  refine hv hF (oB (aX hx68)) ?_
  refine hv hF (oF (ak mr rfl)) ?_
  refine hv hF (oL (lP1 pA rfl)) ?_
  refine hv hF oM ?_
  obtain ⟨x69, hx69, h⟩ := aa h
  refine hv hF (oI (aW u26 oH hx69)) ?_
  refine hv hF (oI (ci sd sz5 rfl rfl)) ?_
  refine hv hF (oL (lP1 ag5 rfl)) ?_
  obtain ⟨x70, hx70, h⟩ := aa h
  refine hv hF (oB (kj hx70)) ?_
  obtain ⟨x71, hx71, h⟩ := aa h
  refine hv hF (oC (jO u5 u3 hx71)) ?_
  obtain ⟨x72, hx72, h⟩ := aa h
  refine hv hF (oB (bJ hx72)) ?_
  obtain ⟨x73, hx73, h⟩ := aa h
  refine hv hF (oB (aX hx73)) ?_
  refine hv hF (x := .d (.agg 4 [.i x68, .i 0, .i 0, .i x73])) (bc rfl FD (by kernel_rfl) rfl (bj (n := 4) vq Bb rfl rfl)) ?_
  refine ag.new hF rfl rfl rfl rfl B6 ?_
  refine ag.last ⟨rfl, ?_⟩
  simp only [List.drop_succ_cons, List.drop_zero, List.drop_nil, List.nil_append, List.cons_append]
  refine SmG.store hF rfl rfl rfl rfl rfl (ba (ys := [.i x68, .i 0, .i 0, .i x73]) (r := [.i 0, .i 0, .i 0, .i 0]) (rows' := [[.i x68, .i 0, .i 0, .i x73]]) rfl rfl rfl rW rfl rfl rfl rfl rfl) ?_
  refine sn ?_
  refine Sm.seq ?_
  obtain ⟨v77, hv77, h⟩ := aa h
  refine dk ⟨[(1, .d (.ptr 12 (GRaw.row a0))), (2, .ref 0 0 0), (3, .ref 1 0 0), (4, .i v5), (8, .i s60.1), (9, .ref 8 0 0), (121, .i s60.1), (122, .d (.v (.bool (decide (s60.1 < 3)))))], [(8, ⟨4, [[.i x68, .i v77, .i 0, .i x73]]⟩), (7, dB 4 (s60.2.map Cls.row)), (1, ⟨9, [[.i x1.cells, .d (.list 1 (x1.next.map (aC 1 (af .i64))) false), .l x1.turn, .d (.list 3 (v45.map Knd.row) false), .i x2, .d (.v (.bool (x3 == 3))), .sref 7 0 (s60.2.map Cls.row).length, .i v52, .i v59]]⟩), (0, ⟨9, [[.i 0, .z, .z, .z, .i 0, .d (.v (.bool false)), .z, .i 0, .i 0]]⟩)], 9⟩ ?_ ?_
  ·replace h := hv77
   refine sr hF ?_
   refine gv hF (oF (aA qA)) ?_
   refine gv hF (oL (bY rfl rfl ag3 rfl)) ?_
   refine gv hF (oB (kW)) ?_
   refine sn ?_
   refine aF hF rfl (fun hc74 => ?_) (fun hc74 => ?_)
   ·replace h := ifF hc74 h
    refine Sm.skip ?_
    obtain rfl := ae h
    exact (kA)
   replace h := ifT hc74 h
   refine ab hF rfl ?_
   refine gv hF (oF (ak mr rfl)) ?_
   refine gv hF (oL (lP1 pA rfl)) ?_
   refine gv hF oM ?_
   obtain ⟨x75, hx75, h⟩ := aa h
   refine gv hF (oI (aW u26 oH hx75)) ?_
   refine gv hF (oI (ci sd sz5 rfl rfl)) ?_
   refine gv hF (oL (lP1 ag5 rfl)) ?_
   refine gv hF (oC (dD u5 u3 (dg _))) ?_
   refine gv hF oM ?_
   obtain ⟨x76, hx76, h⟩ := aa h
   refine gv hF (oB (bJ hx76)) ?_
   refine gv hF (oF (aA yN)) ?_
   refine SmG.store hF rfl rfl rfl rfl rfl (cC (rows' := [[.i x68, .i x76, .i 0, .i x73]]) rfl rfl rfl sz3 rfl rfl rfl) ?_
   refine SmG.nil ?_
   obtain rfl := ae h
   exact (kA)
  refine Sm.seq ?_
  obtain ⟨v81, hv81, h⟩ := aa h
  refine dk ⟨[(1, .d (.ptr 12 (GRaw.row a0))), (2, .ref 0 0 0), (3, .ref 1 0 0), (4, .i v5), (8, .i s60.1), (9, .ref 8 0 0), (121, .i s60.1), (122, .d (.v (.bool (decide (s60.1 < 3)))))], [(8, ⟨4, [[.i x68, .i v77, .i v81, .i x73]]⟩), (7, dB 4 (s60.2.map Cls.row)), (1, ⟨9, [[.i x1.cells, .d (.list 1 (x1.next.map (aC 1 (af .i64))) false), .l x1.turn, .d (.list 3 (v45.map Knd.row) false), .i x2, .d (.v (.bool (x3 == 3))), .sref 7 0 (s60.2.map Cls.row).length, .i v52, .i v59]]⟩), (0, ⟨9, [[.i 0, .z, .z, .z, .i 0, .d (.v (.bool false)), .z, .i 0, .i 0]]⟩)], 9⟩ ?_ ?_
  ·replace h := hv81
   refine sr hF ?_
   refine gv hF (oF (aA qA)) ?_
   refine gv hF (oL (bY rfl rfl ag3 rfl)) ?_
   refine gv hF (oB (cK)) ?_
   refine sn ?_
   refine aF hF rfl (fun hc78 => ?_) (fun hc78 => ?_)
   ·replace h := ifF hc78 h
    refine Sm.skip ?_
    obtain rfl := ae h
    exact (kA)
   replace h := ifT hc78 h
   refine aV hF (by kernel_rfl) rfl 10 (by kernel_rfl) (by kernel_rfl) ?_
   simp only [List.take_succ_cons, List.take_zero, List.take_nil]
   refine hv hF (oF (ak mr rfl)) ?_
   refine hv hF (oL (lP1 pA rfl)) ?_
   refine hv hF oM ?_
   obtain ⟨x79, hx79, h⟩ := aa h
   refine hv hF (oI (aW u26 oH hx79)) ?_
   refine hv hF (oI (ci sd sz5 rfl rfl)) ?_
   refine hv hF (oL (lP1 ag5 rfl)) ?_
   refine hv hF (oC (dD u5 u3 (dg _))) ?_
   refine hv hF (oF (aA mJ)) ?_
   refine hv hF (oF (aA ko)) ?_
   refine hv hF (oL (bY rfl rfl ag3 rfl)) ?_
   refine ag.last ⟨rfl, ?_⟩
   simp only [List.drop_succ_cons, List.drop_zero, List.drop_nil, List.nil_append, List.cons_append]
   obtain ⟨x80, hx80, h⟩ := aa h
   refine gv hF (oB (bJ hx80)) ?_
   refine gv hF (oF (aA ui)) ?_
   refine SmG.store hF rfl rfl rfl rfl rfl (cC (rows' := [[.i x68, .i v77, .i x80, .i x73]]) rfl rfl rfl sz3 rfl rfl rfl) ?_
   refine SmG.nil ?_
   obtain rfl := ae h
   exact (kA)
  refine Sm.seq ?_
  obtain ⟨v85, hv85, h⟩ := aa h
  refine aZ ⟨[(1, .d (.ptr 12 (GRaw.row a0))), (2, .ref 0 0 0), (3, .ref 1 0 0), (4, .i v5), (8, .i s60.1), (9, .ref 8 0 0), (121, .i s60.1), (122, .d (.v (.bool (decide (s60.1 < 3)))))], [(8, ⟨4, [[.i x68, .i v77, .i v85, .i x73]]⟩), (7, dB 4 (s60.2.map Cls.row)), (1, ⟨9, [[.i x1.cells, .d (.list 1 (x1.next.map (aC 1 (af .i64))) false), .l x1.turn, .d (.list 3 (v45.map Knd.row) false), .i x2, .d (.v (.bool (x3 == 3))), .sref 7 0 (s60.2.map Cls.row).length, .i v52, .i v59]]⟩), (0, ⟨9, [[.i 0, .z, .z, .z, .i 0, .d (.v (.bool false)), .z, .i 0, .i 0]]⟩)], 9⟩ ?_ ?_
  ·refine ab hF rfl ?_
   refine gv hF (oF (aA wu)) ?_
   refine gv hF (oL (bY rfl rfl AD rfl)) ?_
   refine gv hF (x := .d (.agg 4 [.i x68, .i v77, .i v85, .i x73])) (oL (aE rfl rfl yD rW rfl rfl)) ?_
   refine gv hF (x := .d (.list 4 ([(⟨x68, v77, v85, x73⟩ : Cls)].map Cls.row) true)) (oS (az u75 rW vq rfl rfl (PartsQ.cons rfl (PartsQ.nil _)) rfl)) ?_
   refine dM (wA (e := [(1, .d (.ptr 12 (GRaw.row a0))), (2, .ref 0 0 0), (3, .ref 1 0 0), (4, .i v5), (8, .i s60.1), (121, .i s60.1), (122, .d (.v (.bool (decide (s60.1 < 3))))), (187, .sref 7 0 (s60.2.map Cls.row).length), (189, .d (.list 4 ([(⟨x68, v77, v85, x73⟩ : Cls)].map Cls.row) true))]) (g := [(7, dB 4 (s60.2.map Cls.row)), (1, ⟨9, [[.i x1.cells, .d (.list 1 (x1.next.map (aC 1 (af .i64))) false), .l x1.turn, .d (.list 3 (v45.map Knd.row) false), .i x2, .d (.v (.bool (x3 == 3))), .any, .i v52, .i v59]]⟩), (0, ⟨9, [[.i 0, .z, .z, .z, .i 0, .d (.v (.bool false)), .z, .i 0, .i 0]]⟩)]) (m := 9)) rfl ?_
   obtain ⟨x86, hx86, h⟩ := aa h
   refine a8 hF FZ rfl (ys := [(⟨x68, v77, v85, x73⟩ : Cls)]) (row := Cls.row) rfl rfl rfl rfl rfl rfl rfl rfl (.inl rfl) hx86 (by (repeat' first | exact bn _ | refine bf ?_ | refine ap ?_ (aO _ _ _) | refine ap ?_ (aO _ _ [_]) | refine ap ?_ (bE (by rfl)))) ?_
   refine gv hF (oF (aA wu)) ?_
   refine SmG.store hF rfl rfl rfl rfl rfl (cC (rows' := [[.i x1.cells, .d (.list 1 (x1.next.map (aC 1 (af .i64))) false), .l x1.turn, .d (.list 3 (v45.map Knd.row) false), .i x2, .d (.v (.bool (x3 == 3))), .sref 7 0 (x86.map Cls.row).length, .i v52, .i v59]]) rfl rfl rfl z6 rfl rfl rfl) ?_
   refine SmG.nil ?_
   refine ar ?_
   refine ac ?_
   refine ab hF rfl ?_
   refine gv hF oM ?_
   obtain ⟨x87, hx87, h⟩ := aa h
   refine gv hF (oB (aX hx87)) ?_
   refine gv hF oA ?_
   refine SmG.nil ?_
   exact bp (be h hd63) (aR (kA (e := [(1, .d (.ptr 12 (GRaw.row a0))), (2, .ref 0 0 0), (3, .ref 1 0 0), (4, .i v5), (8, .i x87)]) (g := [(7, dB 4 (x86.map Cls.row)), (1, ⟨9, [[.i x1.cells, .d (.list 1 (x1.next.map (aC 1 (af .i64))) false), .l x1.turn, .d (.list 3 (v45.map Knd.row) false), .i x2, .d (.v (.bool (x3 == 3))), .sref 7 0 (x86.map Cls.row).length, .i v52, .i v59]]⟩), (0, ⟨9, [[.i 0, .z, .z, .z, .i 0, .d (.v (.bool false)), .z, .i 0, .i 0]]⟩)]) (m := 9)) (xA 8))
  replace h := hv85
  refine sr hF ?_
  refine gv hF (oF (aA qA)) ?_
  refine gv hF (oL (bY rfl rfl ag3 rfl)) ?_
  refine gv hF (oB (cK)) ?_
  refine sn ?_
  refine aF hF rfl (fun hc82 => ?_) (fun hc82 => ?_)
  ·replace h := ifF hc82 h
   refine Sm.skip ?_
   obtain rfl := ae h
   exact (kA)
  replace h := ifT hc82 h
  refine ab hF rfl ?_
  refine gv hF (oF (ak mr rfl)) ?_
  refine gv hF (oL (lP1 pA rfl)) ?_
  refine gv hF oM ?_
  obtain ⟨x83, hx83, h⟩ := aa h
  refine gv hF (oI (aW u26 oH hx83)) ?_
  refine gv hF (oI (ci sd sz5 rfl rfl)) ?_
  refine gv hF (oL (lP1 ag5 rfl)) ?_
  refine gv hF (oC (dD u5 u3 (dg _))) ?_
  obtain ⟨x84, hx84, h⟩ := aa h
  refine gv hF (oB (bJ hx84)) ?_
  refine gv hF (oF (aA ui)) ?_
  refine SmG.store hF rfl rfl rfl rfl rfl (cC (rows' := [[.i x68, .i v77, .i x84, .i x73]]) rfl rfl rfl sz3 rfl rfl rfl) ?_
  refine SmG.nil ?_
  obtain rfl := ae h
  exact (kA)
 replace h := hv45
 refine sr hF ?_
 refine gv hF oA ?_
 refine sn ?_
 refine Sm.block ?_
 refine Sm.rounds 60 ?_
 refine jS ?_
 refine Sm.seq ?_
 refine sr hF ?_
 refine gv hF oM ?_
 refine gv hF oM ?_
 refine gv hF (oB (br)) ?_
 refine sn ?_
 refine aF hF rfl (fun hc6 => ?_) (fun hc6 => ?_)
 ·replace h := ifF hc6 h
  refine Sm.exit ?_
  obtain rfl := ae h
  exact (aR (kA (e := [(1, .d (.ptr 12 (GRaw.row a0))), (2, .ref 0 0 0), (3, .ref 1 0 0), (4, .i v5)]) (g := [(1, ⟨9, [[.i x1.cells, .d (.list 1 (x1.next.map (aC 1 (af .i64))) false), .l x1.turn, .z, .i x2, .d (.v (.bool (x3 == 3))), .z, .i 3, .i 2]]⟩), (0, ⟨9, [[.i 0, .z, .z, .z, .i 0, .d (.v (.bool false)), .z, .i 0, .i 0]]⟩)]) (m := 2)) (wA))
 replace h := ifT hc6 h
 refine sk ?_
 refine Sm.seq ?_
 obtain ⟨v21, hv21, h⟩ := aa h
 refine dk ⟨[(1, .d (.ptr 12 (GRaw.row a0))), (2, .ref 0 0 0), (3, .ref 1 0 0), (4, .i v5), (5, .i 0)], [(4, dB 3 (v21.map Knd.row)), (1, ⟨9, [[.i x1.cells, .d (.list 1 (x1.next.map (aC 1 (af .i64))) false), .l x1.turn, .sref 4 0 (v21.map Knd.row).length, .i x2, .d (.v (.bool (x3 == 3))), .z, .i 3, .i 2]]⟩), (0, ⟨9, [[.i 0, .z, .z, .z, .i 0, .d (.v (.bool false)), .z, .i 0, .i 0]]⟩)], 5⟩ ?_ ?_
 ·replace h := hv21
  refine Sm.block ?_
  refine Sm.seq ?_
  refine aV hF (by kernel_rfl) rfl 13 (by kernel_rfl) (by kernel_rfl) ?_
  simp only [List.take_succ_cons, List.take_zero, List.take_nil]
  refine hv hF (x := .d (.list 1 ([([97] : List UInt8), ([98, 101, 101] : List UInt8)].map sw) true)) (oS (az qO sz9 ze9 rfl rfl (PartsQ.cons rfl (PartsQ.cons rfl (PartsQ.nil _))) rfl)) ?_
  refine hv hF oM ?_
  obtain ⟨x7, hx7, h⟩ := aa h
  refine hv hF (oI (aW qO sz9 hx7)) ?_
  refine hv hF (oL (lP1 ag9 rfl)) ?_
  refine hv hF (oF (ak jo rfl)) ?_
  refine hv hF (oI (ci u27 sz5 rfl rfl)) ?_
  refine hv hF (oL (lP1 ag5 rfl)) ?_
  refine hv hF oM ?_
  obtain ⟨x8, hx8, h⟩ := aa h
  refine hv hF (oB (lC hx8)) ?_
  refine hv hF (oB sM) ?_
  refine hv hF (oB (cK)) ?_
  refine hv hF (x := .d (.agg 3 [.v (.string ⟨(x7 : List UInt8).toArray⟩), .z, .v (.bool ((dU .u8 x8 1) == 1))])) (bc rfl xH (by kernel_rfl) rfl (bj (n := 3) oJ uF rfl rfl)) ?_
  refine ag.new hF rfl rfl rfl rfl uE ?_
  refine ag.last ⟨rfl, ?_⟩
  simp only [List.drop_succ_cons, List.drop_zero, List.drop_nil, List.nil_append, List.cons_append]
  refine SmG.store hF rfl rfl rfl rfl rfl (ba (ys := [.d (.v (.string ⟨(x7 : List UInt8).toArray⟩)), .z, .d (.v (.bool ((dU .u8 x8 1) == 1)))]) (r := [.d (.v (.string ⟨([] : List UInt8).toArray⟩)), .z, .d (.v (.bool false))]) (rows' := [[.d (.v (.string ⟨(x7 : List UInt8).toArray⟩)), .z, .d (.v (.bool ((dU .u8 x8 1) == 1)))]]) rfl rfl rfl j8 rfl rfl rfl rfl rfl) ?_
  refine sn ?_
  refine Sm.seq ?_
  obtain ⟨v19, hv19, h⟩ := aa h
  refine aZ ⟨[(1, .d (.ptr 12 (GRaw.row a0))), (2, .ref 0 0 0), (3, .ref 1 0 0), (4, .i v5), (5, .i 0), (6, .ref 2 0 0)], [(2, ⟨3, [[.d (.v (.string ⟨(x7 : List UInt8).toArray⟩)), .d (.list 1 (v19.map (aC 2 Stp.row)) false), .d (.v (.bool ((dU .u8 x8 1) == 1)))]]⟩), (1, ⟨9, [[.i x1.cells, .d (.list 1 (x1.next.map (aC 1 (af .i64))) false), .l x1.turn, .z, .i x2, .d (.v (.bool (x3 == 3))), .z, .i 3, .i 2]]⟩), (0, ⟨9, [[.i 0, .z, .z, .z, .i 0, .d (.v (.bool false)), .z, .i 0, .i 0]]⟩)], 4⟩ ?_ ?_
  ·refine ab hF rfl ?_
   refine gv hF (oF (aA io)) ?_
   refine gv hF (oL (bY rfl rfl lg rfl)) ?_
   refine gv hF (x := .d (.agg 3 [.v (.string ⟨(x7 : List UInt8).toArray⟩), .list 1 (v19.map (aC 2 Stp.row)) false, .v (.bool ((dU .u8 x8 1) == 1))])) (oL (aE rfl rfl uU j8 rfl rfl)) ?_
   refine gv hF (x := .d (.list 3 ([(⟨x7, v19, ((dU .u8 x8 1) == 1)⟩ : Knd)].map Knd.row) true)) (oS (az u74 j8 oJ rfl rfl (PartsQ.cons rfl (PartsQ.nil _)) rfl)) ?_
   obtain ⟨x20, hx20, h⟩ := aa h
   refine SmG.appendFreshL hF Ac rfl (ys := [(⟨x7, v19, ((dU .u8 x8 1) == 1)⟩ : Knd)]) (row := Knd.row) rfl rfl rfl rfl rfl rfl rfl (.inl rfl) hx20 ?_
   refine gv hF (oF (aA io)) ?_
   refine SmG.store hF rfl rfl rfl rfl rfl (cC (rows' := [[.i x1.cells, .d (.list 1 (x1.next.map (aC 1 (af .i64))) false), .l x1.turn, .sref 4 0 (x20.map Knd.row).length, .i x2, .d (.v (.bool (x3 == 3))), .z, .i 3, .i 2]]) rfl rfl rfl yf rfl rfl rfl) ?_
   refine SmG.nil ?_
   refine ar ?_
   obtain rfl := ae h
   exact (kA)
  replace h := hv19
  refine sr hF ?_
  refine gv hF oA ?_
  refine sn ?_
  refine Sm.block ?_
  refine Sm.to (kA (e := [(1, .d (.ptr 12 (GRaw.row a0))), (2, .ref 0 0 0), (3, .ref 1 0 0), (4, .i v5), (5, .i 0), (6, .ref 2 0 0), (7, .i 0)]) (g := [(2, ⟨3, [[.d (.v (.string ⟨(x7 : List UInt8).toArray⟩)), .z, .d (.v (.bool ((dU .u8 x8 1) == 1)))]]⟩), (1, ⟨9, [[.i x1.cells, .d (.list 1 (x1.next.map (aC 1 (af .i64))) false), .l x1.turn, .z, .i x2, .d (.v (.bool (x3 == 3))), .z, .i 3, .i 2]]⟩), (0, ⟨9, [[.i 0, .z, .z, .z, .i 0, .d (.v (.bool false)), .z, .i 0, .i 0]]⟩)]) (m := 3)) ?_
  refine Sm.ownCell 2 0 1 1 rfl rfl rfl ?_
  refine bm (eK a0 x1 x2 v5) (fun s9 => ⟨[(1, .d (.ptr 12 (GRaw.row a0))), (2, .ref 0 0 0), (3, .ref 1 0 0), (4, .i v5), (5, .i 0), (6, .ref 2 0 0), (7, .i s9.1)], [(3, dB 1 (s9.2.map (aC 2 Stp.row))), (2, ⟨3, [[.d (.v (.string ⟨(x7 : List UInt8).toArray⟩)), .sref 3 0 (s9.2.map (aC 2 Stp.row)).length, .d (.v (.bool ((dU .u8 x8 1) == 1)))]]⟩), (1, ⟨9, [[.i x1.cells, .d (.list 1 (x1.next.map (aC 1 (af .i64))) false), .l x1.turn, .z, .i x2, .d (.v (.bool (x3 == 3))), .z, .i 3, .i 2]]⟩), (0, ⟨9, [[.i 0, .z, .z, .z, .i 0, .d (.v (.bool false)), .z, .i 0, .i 0]]⟩)], 4⟩) (0, ([] : List (List Stp))) h (kA) ?_
  intro n10 s9 o11 h hd12
  unfold eK at h
  refine Sm.seq ?_
  refine sr hF ?_
  refine gv hF oM ?_
  refine gv hF oM ?_
  refine gv hF (oF (ak mB rfl)) ?_
  refine gv hF (oI (ci u25 eC rfl rfl)) ?_
  refine gv hF (oL (lP1 e8 rfl)) ?_
  refine gv hF (oN (bg u24)) ?_
  refine gv hF (oB (br)) ?_
  rcases bx (decide (s9.1 < (a0.k0.length : Int))) with hc13 | hc13
  ·replace h := ifF hc13 h
   refine gv hF (au rfl rfl hc13) ?_
   refine gp hF ?_
   refine gp hF ?_
   refine gv hF (am rfl rfl rfl) ?_
   refine sn ?_
   refine bi hF rfl ?_
   refine Sm.exit ?_
   replace h := aK h hd12
   obtain rfl := ae h
   exact (aR (kA (e := [(1, .d (.ptr 12 (GRaw.row a0))), (2, .ref 0 0 0), (3, .ref 1 0 0), (4, .i v5), (5, .i 0), (6, .ref 2 0 0)]) (g := [(3, dB 1 (s9.2.map (aC 2 Stp.row))), (2, ⟨3, [[.d (.v (.string ⟨(x7 : List UInt8).toArray⟩)), .sref 3 0 (s9.2.map (aC 2 Stp.row)).length, .d (.v (.bool ((dU .u8 x8 1) == 1)))]]⟩), (1, ⟨9, [[.i x1.cells, .d (.list 1 (x1.next.map (aC 1 (af .i64))) false), .l x1.turn, .z, .i x2, .d (.v (.bool (x3 == 3))), .z, .i 3, .i 2]]⟩), (0, ⟨9, [[.i 0, .z, .z, .z, .i 0, .d (.v (.bool false)), .z, .i 0, .i 0]]⟩)]) (m := 4)) (fA (l := 3) (sz := 1) (s9.2.map (aC 2 Stp.row))))
  replace h := ifT hc13 h
  refine gv hF (au rfl rfl hc13) ?_
  refine gv hF oM ?_
  refine gv hF (oB (br)) ?_
  refine gv hF (aH rfl rfl rfl) ?_
  refine sn ?_
  refine aF hF rfl (fun hc14 => ?_) (fun hc14 => ?_)
  ·replace h := ifF hc14 h
   refine Sm.exit ?_
   replace h := aK h hd12
   obtain rfl := ae h
   exact (aR (kA (e := [(1, .d (.ptr 12 (GRaw.row a0))), (2, .ref 0 0 0), (3, .ref 1 0 0), (4, .i v5), (5, .i 0), (6, .ref 2 0 0)]) (g := [(3, dB 1 (s9.2.map (aC 2 Stp.row))), (2, ⟨3, [[.d (.v (.string ⟨(x7 : List UInt8).toArray⟩)), .sref 3 0 (s9.2.map (aC 2 Stp.row)).length, .d (.v (.bool ((dU .u8 x8 1) == 1)))]]⟩), (1, ⟨9, [[.i x1.cells, .d (.list 1 (x1.next.map (aC 1 (af .i64))) false), .l x1.turn, .z, .i x2, .d (.v (.bool (x3 == 3))), .z, .i 3, .i 2]]⟩), (0, ⟨9, [[.i 0, .z, .z, .z, .i 0, .d (.v (.bool false)), .z, .i 0, .i 0]]⟩)]) (m := 4)) (fA (l := 3) (sz := 1) (s9.2.map (aC 2 Stp.row))))
  replace h := ifT hc14 h
  refine sk ?_
  refine Sm.seq ?_
  refine Sm.block ?_
  refine aV hF (by kernel_rfl) rfl 18 (by kernel_rfl) (by kernel_rfl) ?_
  simp only [List.take_succ_cons, List.take_zero, List.take_nil]
  refine hv hF (oF (aA oR)) ?_
  refine hv hF (oL (bY rfl rfl vj rfl)) ?_
  refine hv hF oM ?_
  refine hv hF (oF (ak mB rfl)) ?_
  refine hv hF (oI (ci u25 eC rfl rfl)) ?_
  refine hv hF (oL (lP1 e8 rfl)) ?_
  refine hv hF oM ?_
  obtain ⟨x15, hx15, h⟩ := aa h
  refine hv hF (oI (aW u24 sz5 hx15)) ?_
  refine hv hF (oL (lP1 ag5 rfl)) ?_
  refine hv hF (oF (aA mJ)) ?_
  refine hv hF (oF (aA kq)) ?_
  refine hv hF (oL (bY rfl rfl ph rfl)) ?_
  refine hv hF (oN (bg u71)) ?_
  refine hv hF oM ?_
  refine hv hF (oF (aA sY)) ?_
  refine hv hF (oL (bY rfl rfl ag3 rfl)) ?_
  obtain ⟨x16, hx16, h⟩ := aa h
  refine cH hF (jC hx16) ?_
  refine hv hF (x := .d (.list 1 ([x16].map (aC 2 Stp.row)) true)) (oS (az tw pU rT rfl rfl (PartsQ.cons rfl (PartsQ.nil _)) rfl)) ?_
  refine ag.last ⟨rfl, ?_⟩
  simp only [List.drop_succ_cons, List.drop_zero, List.drop_nil, List.nil_append, List.cons_append]
  refine dM (wA (e := [(1, .d (.ptr 12 (GRaw.row a0))), (2, .ref 0 0 0), (3, .ref 1 0 0), (4, .i v5), (5, .i 0), (6, .ref 2 0 0), (7, .i s9.1), (58, .i s9.1), (59, .d (.v (.bool (decide (s9.1 < 4))))), (64, .sref 3 0 (s9.2.map (aC 2 Stp.row)).length), (80, .d (.list 1 ([x16].map (aC 2 Stp.row)) true))]) (g := [(3, dB 1 (s9.2.map (aC 2 Stp.row))), (2, ⟨3, [[.d (.v (.string ⟨(x7 : List UInt8).toArray⟩)), .any, .d (.v (.bool ((dU .u8 x8 1) == 1)))]]⟩), (1, ⟨9, [[.i x1.cells, .d (.list 1 (x1.next.map (aC 1 (af .i64))) false), .l x1.turn, .z, .i x2, .d (.v (.bool (x3 == 3))), .z, .i 3, .i 2]]⟩), (0, ⟨9, [[.i 0, .z, .z, .z, .i 0, .d (.v (.bool false)), .z, .i 0, .i 0]]⟩)]) (m := 4)) rfl ?_
  obtain ⟨x17, hx17, h⟩ := aa h
  refine a8 hF yx rfl (ys := [x16]) (row := (aC 2 Stp.row)) rfl rfl rfl rfl rfl rfl rfl rfl (.inl rfl) hx17 (by (repeat' first | exact bn _ | refine bf ?_ | refine ap ?_ (aO _ _ _) | refine ap ?_ (aO _ _ [_]) | refine ap ?_ (bE (by rfl)))) ?_
  refine gv hF (oF (aA oR)) ?_
  refine SmG.store hF rfl rfl rfl rfl rfl (cC (rows' := [[.d (.v (.string ⟨(x7 : List UInt8).toArray⟩)), .sref 3 0 (x17.map (aC 2 Stp.row)).length, .d (.v (.bool ((dU .u8 x8 1) == 1)))]]) rfl rfl rfl vC rfl rfl rfl) ?_
  refine SmG.nil ?_
  refine ar ?_
  refine ac ?_
  refine ab hF rfl ?_
  refine gv hF oM ?_
  obtain ⟨x18, hx18, h⟩ := aa h
  refine gv hF (oB (aX hx18)) ?_
  refine gv hF oA ?_
  refine SmG.nil ?_
  exact bp (be h hd12) (kA)
 refine ab hF rfl ?_
 refine gv hF oM ?_
 refine gv hF (oB (aX (v := 1) rfl)) ?_
 refine gv hF oA ?_
 refine sn ?_
 refine jS ?_
 refine Sm.seq ?_
 refine sr hF ?_
 refine gv hF oM ?_
 refine gv hF oM ?_
 refine gv hF (oB (br)) ?_
 refine sn ?_
 refine aF hF rfl (fun hc22 => ?_) (fun hc22 => ?_)
 ·replace h := ifF hc22 h
  refine Sm.exit ?_
  obtain rfl := ae h
  exact (aR (kA (e := [(1, .d (.ptr 12 (GRaw.row a0))), (2, .ref 0 0 0), (3, .ref 1 0 0), (4, .i v5)]) (g := [(4, dB 3 (v21.map Knd.row)), (1, ⟨9, [[.i x1.cells, .d (.list 1 (x1.next.map (aC 1 (af .i64))) false), .l x1.turn, .sref 4 0 (v21.map Knd.row).length, .i x2, .d (.v (.bool (x3 == 3))), .z, .i 3, .i 2]]⟩), (0, ⟨9, [[.i 0, .z, .z, .z, .i 0, .d (.v (.bool false)), .z, .i 0, .i 0]]⟩)]) (m := 5)) (aR (fA (l := 4) (sz := 3) (e := [(1, .d (.ptr 12 (GRaw.row a0))), (2, .ref 0 0 0), (3, .ref 1 0 0), (4, .i v5)]) (g := [(1, ⟨9, [[.i x1.cells, .d (.list 1 (x1.next.map (aC 1 (af .i64))) false), .l x1.turn, .d (.list 3 (v21.map Knd.row) false), .i x2, .d (.v (.bool (x3 == 3))), .z, .i 3, .i 2]]⟩), (0, ⟨9, [[.i 0, .z, .z, .z, .i 0, .d (.v (.bool false)), .z, .i 0, .i 0]]⟩)]) (nx := 5) (v21.map Knd.row)) (kA)))
 replace h := ifT hc22 h
 refine sk ?_
 refine Sm.seq ?_
 obtain ⟨v37, hv37, h⟩ := aa h
 refine aZ ⟨[(1, .d (.ptr 12 (GRaw.row a0))), (2, .ref 0 0 0), (3, .ref 1 0 0), (4, .i v5), (5, .i 1)], [(4, dB 3 (v37.map Knd.row)), (1, ⟨9, [[.i x1.cells, .d (.list 1 (x1.next.map (aC 1 (af .i64))) false), .l x1.turn, .sref 4 0 (v37.map Knd.row).length, .i x2, .d (.v (.bool (x3 == 3))), .z, .i 3, .i 2]]⟩), (0, ⟨9, [[.i 0, .z, .z, .z, .i 0, .d (.v (.bool false)), .z, .i 0, .i 0]]⟩)], 7⟩ ?_ ?_
 ·refine ab hF rfl ?_
  refine gv hF oM ?_
  refine gv hF (oB (aX (v := 2) rfl)) ?_
  refine gv hF oA ?_
  refine sn ?_
  refine jS ?_
  refine Sm.seq ?_
  refine sr hF ?_
  refine gv hF oM ?_
  refine gv hF oM ?_
  refine gv hF (oB (br)) ?_
  refine sn ?_
  refine aF hF rfl (fun hc38 => ?_) (fun hc38 => ?_)
  ·replace h := ifF hc38 h
   refine Sm.exit ?_
   obtain rfl := ae h
   exact (aR (kA (e := [(1, .d (.ptr 12 (GRaw.row a0))), (2, .ref 0 0 0), (3, .ref 1 0 0), (4, .i v5)]) (g := [(4, dB 3 (v37.map Knd.row)), (1, ⟨9, [[.i x1.cells, .d (.list 1 (x1.next.map (aC 1 (af .i64))) false), .l x1.turn, .sref 4 0 (v37.map Knd.row).length, .i x2, .d (.v (.bool (x3 == 3))), .z, .i 3, .i 2]]⟩), (0, ⟨9, [[.i 0, .z, .z, .z, .i 0, .d (.v (.bool false)), .z, .i 0, .i 0]]⟩)]) (m := 7)) (fA (l := 4) (sz := 3) (v37.map Knd.row)))
  replace h := ifT hc38 h
  refine sk ?_
  refine Sm.seq ?_
  refine Sm.block ?_
  refine Sm.seq ?_
  refine aV hF (by kernel_rfl) rfl 13 (by kernel_rfl) (by kernel_rfl) ?_
  simp only [List.take_succ_cons, List.take_zero, List.take_nil]
  refine hv hF (x := .d (.list 1 ([([97] : List UInt8), ([98, 101, 101] : List UInt8)].map sw) true)) (oS (az qO sz9 ze9 rfl rfl (PartsQ.cons rfl (PartsQ.cons rfl (PartsQ.nil _))) rfl)) ?_
  refine hv hF oM ?_
  obtain ⟨x39, hx39, h⟩ := aa h
  refine hv hF (oI (aW qO sz9 hx39)) ?_
  refine hv hF (oL (lP1 ag9 rfl)) ?_
  refine hv hF (oF (ak jo rfl)) ?_
  refine hv hF (oI (ci u27 sz5 rfl rfl)) ?_
  refine hv hF (oL (lP1 ag5 rfl)) ?_
  refine hv hF oM ?_
  obtain ⟨x40, hx40, h⟩ := aa h
  refine hv hF (oB (lC hx40)) ?_
  refine hv hF (oB sM) ?_
  refine hv hF (oB (cK)) ?_
  refine hv hF (x := .d (.agg 3 [.v (.string ⟨(x39 : List UInt8).toArray⟩), .z, .v (.bool ((dU .u8 x40 1) == 1))])) (bc rfl xH (by kernel_rfl) rfl (bj (n := 3) oJ uF rfl rfl)) ?_
  refine ag.new hF rfl rfl rfl rfl uE ?_
  refine ag.last ⟨rfl, ?_⟩
  simp only [List.drop_succ_cons, List.drop_zero, List.drop_nil, List.nil_append, List.cons_append]
  refine SmG.store hF rfl rfl rfl rfl rfl (ba (ys := [.d (.v (.string ⟨(x39 : List UInt8).toArray⟩)), .z, .d (.v (.bool ((dU .u8 x40 1) == 1)))]) (r := [.d (.v (.string ⟨([] : List UInt8).toArray⟩)), .z, .d (.v (.bool false))]) (rows' := [[.d (.v (.string ⟨(x39 : List UInt8).toArray⟩)), .z, .d (.v (.bool ((dU .u8 x40 1) == 1)))]]) rfl rfl rfl j8 rfl rfl rfl rfl rfl) ?_
  refine sn ?_
  refine Sm.seq ?_
  refine sr hF ?_
  refine gv hF oA ?_
  refine sn ?_
  refine Sm.block ?_
  refine bm (gU) (fun s41 => ⟨[(1, .d (.ptr 12 (GRaw.row a0))), (2, .ref 0 0 0), (3, .ref 1 0 0), (4, .i v5), (5, .i 2), (6, .ref 7 0 0), (7, .i s41)], [(7, ⟨3, [[.d (.v (.string ⟨(x39 : List UInt8).toArray⟩)), .z, .d (.v (.bool ((dU .u8 x40 1) == 1)))]]⟩), (4, dB 3 (v37.map Knd.row)), (1, ⟨9, [[.i x1.cells, .d (.list 1 (x1.next.map (aC 1 (af .i64))) false), .l x1.turn, .sref 4 0 (v37.map Knd.row).length, .i x2, .d (.v (.bool (x3 == 3))), .z, .i 3, .i 2]]⟩), (0, ⟨9, [[.i 0, .z, .z, .z, .i 0, .d (.v (.bool false)), .z, .i 0, .i 0]]⟩)], 8⟩) 0 h (kA) ?_
  intro n42 s41 o43 h hd44
  unfold gU at h
  refine Sm.seq ?_
  refine sr hF ?_
  refine gv hF oM ?_
  refine gv hF oM ?_
  refine gv hF (oF (ak mB rfl)) ?_
  cases h
 replace h := hv37
 refine Sm.block ?_
 refine Sm.seq ?_
 refine aV hF (by kernel_rfl) rfl 13 (by kernel_rfl) (by kernel_rfl) ?_
 simp only [List.take_succ_cons, List.take_zero, List.take_nil]
 refine hv hF (x := .d (.list 1 ([([97] : List UInt8), ([98, 101, 101] : List UInt8)].map sw) true)) (oS (az qO sz9 ze9 rfl rfl (PartsQ.cons rfl (PartsQ.cons rfl (PartsQ.nil _))) rfl)) ?_
 refine hv hF oM ?_
 obtain ⟨x23, hx23, h⟩ := aa h
 refine hv hF (oI (aW qO sz9 hx23)) ?_
 refine hv hF (oL (lP1 ag9 rfl)) ?_
 refine hv hF (oF (ak jo rfl)) ?_
 refine hv hF (oI (ci u27 sz5 rfl rfl)) ?_
 refine hv hF (oL (lP1 ag5 rfl)) ?_
 refine hv hF oM ?_
 obtain ⟨x24, hx24, h⟩ := aa h
 refine hv hF (oB (lC hx24)) ?_
 refine hv hF (oB sM) ?_
 refine hv hF (oB (cK)) ?_
 refine hv hF (x := .d (.agg 3 [.v (.string ⟨(x23 : List UInt8).toArray⟩), .z, .v (.bool ((dU .u8 x24 1) == 1))])) (bc rfl xH (by kernel_rfl) rfl (bj (n := 3) oJ uF rfl rfl)) ?_
 refine ag.new hF rfl rfl rfl rfl uE ?_
 refine ag.last ⟨rfl, ?_⟩
 simp only [List.drop_succ_cons, List.drop_zero, List.drop_nil, List.nil_append, List.cons_append]
 refine SmG.store hF rfl rfl rfl rfl rfl (ba (ys := [.d (.v (.string ⟨(x23 : List UInt8).toArray⟩)), .z, .d (.v (.bool ((dU .u8 x24 1) == 1)))]) (r := [.d (.v (.string ⟨([] : List UInt8).toArray⟩)), .z, .d (.v (.bool false))]) (rows' := [[.d (.v (.string ⟨(x23 : List UInt8).toArray⟩)), .z, .d (.v (.bool ((dU .u8 x24 1) == 1)))]]) rfl rfl rfl j8 rfl rfl rfl rfl rfl) ?_
 refine sn ?_
 refine Sm.seq ?_
 obtain ⟨v35, hv35, h⟩ := aa h
 refine aZ ⟨[(1, .d (.ptr 12 (GRaw.row a0))), (2, .ref 0 0 0), (3, .ref 1 0 0), (4, .i v5), (5, .i 1), (6, .ref 5 0 0)], [(5, ⟨3, [[.d (.v (.string ⟨(x23 : List UInt8).toArray⟩)), .d (.list 1 (v35.map (aC 2 Stp.row)) false), .d (.v (.bool ((dU .u8 x24 1) == 1)))]]⟩), (4, dB 3 (v21.map Knd.row)), (1, ⟨9, [[.i x1.cells, .d (.list 1 (x1.next.map (aC 1 (af .i64))) false), .l x1.turn, .sref 4 0 (v21.map Knd.row).length, .i x2, .d (.v (.bool (x3 == 3))), .z, .i 3, .i 2]]⟩), (0, ⟨9, [[.i 0, .z, .z, .z, .i 0, .d (.v (.bool false)), .z, .i 0, .i 0]]⟩)], 7⟩ ?_ ?_
 ·refine ab hF rfl ?_
  refine gv hF (oF (aA io)) ?_
  refine gv hF (oL (bY rfl rfl lg rfl)) ?_
  refine gv hF (x := .d (.agg 3 [.v (.string ⟨(x23 : List UInt8).toArray⟩), .list 1 (v35.map (aC 2 Stp.row)) false, .v (.bool ((dU .u8 x24 1) == 1))])) (oL (aE rfl rfl uU j8 rfl rfl)) ?_
  refine gv hF (x := .d (.list 3 ([(⟨x23, v35, ((dU .u8 x24 1) == 1)⟩ : Knd)].map Knd.row) true)) (oS (az u74 j8 oJ rfl rfl (PartsQ.cons rfl (PartsQ.nil _)) rfl)) ?_
  refine dM (wA (e := [(1, .d (.ptr 12 (GRaw.row a0))), (2, .ref 0 0 0), (3, .ref 1 0 0), (4, .i v5), (5, .i 1), (84, .sref 4 0 (v21.map Knd.row).length), (86, .d (.list 3 ([(⟨x23, v35, ((dU .u8 x24 1) == 1)⟩ : Knd)].map Knd.row) true))]) (g := [(4, dB 3 (v21.map Knd.row)), (1, ⟨9, [[.i x1.cells, .d (.list 1 (x1.next.map (aC 1 (af .i64))) false), .l x1.turn, .any, .i x2, .d (.v (.bool (x3 == 3))), .z, .i 3, .i 2]]⟩), (0, ⟨9, [[.i 0, .z, .z, .z, .i 0, .d (.v (.bool false)), .z, .i 0, .i 0]]⟩)]) (m := 7)) rfl ?_
  obtain ⟨x36, hx36, h⟩ := aa h
  refine a8 hF Ac rfl (ys := [(⟨x23, v35, ((dU .u8 x24 1) == 1)⟩ : Knd)]) (row := Knd.row) rfl rfl rfl rfl rfl rfl rfl rfl (.inl rfl) hx36 (by (repeat' first | exact bn _ | refine bf ?_ | refine ap ?_ (aO _ _ _) | refine ap ?_ (aO _ _ [_]) | refine ap ?_ (bE (by rfl)))) ?_
  refine gv hF (oF (aA io)) ?_
  refine SmG.store hF rfl rfl rfl rfl rfl (cC (rows' := [[.i x1.cells, .d (.list 1 (x1.next.map (aC 1 (af .i64))) false), .l x1.turn, .sref 4 0 (x36.map Knd.row).length, .i x2, .d (.v (.bool (x3 == 3))), .z, .i 3, .i 2]]) rfl rfl rfl yf rfl rfl rfl) ?_
  refine SmG.nil ?_
  refine ar ?_
  obtain rfl := ae h
  exact (kA)
 replace h := hv35
 refine sr hF ?_
 refine gv hF oA ?_
 refine sn ?_
 refine Sm.block ?_
 refine Sm.to (kA (e := [(1, .d (.ptr 12 (GRaw.row a0))), (2, .ref 0 0 0), (3, .ref 1 0 0), (4, .i v5), (5, .i 1), (6, .ref 5 0 0), (7, .i 0)]) (g := [(5, ⟨3, [[.d (.v (.string ⟨(x23 : List UInt8).toArray⟩)), .z, .d (.v (.bool ((dU .u8 x24 1) == 1)))]]⟩), (4, dB 3 (v21.map Knd.row)), (1, ⟨9, [[.i x1.cells, .d (.list 1 (x1.next.map (aC 1 (af .i64))) false), .l x1.turn, .sref 4 0 (v21.map Knd.row).length, .i x2, .d (.v (.bool (x3 == 3))), .z, .i 3, .i 2]]⟩), (0, ⟨9, [[.i 0, .z, .z, .z, .i 0, .d (.v (.bool false)), .z, .i 0, .i 0]]⟩)]) (m := 6)) ?_
 refine Sm.ownCell 5 0 1 1 rfl rfl rfl ?_
 refine bm (eS a0 x1 x2 v5) (fun s25 => ⟨[(1, .d (.ptr 12 (GRaw.row a0))), (2, .ref 0 0 0), (3, .ref 1 0 0), (4, .i v5), (5, .i 1), (6, .ref 5 0 0), (7, .i s25.1)], [(6, dB 1 (s25.2.map (aC 2 Stp.row))), (5, ⟨3, [[.d (.v (.string ⟨(x23 : List UInt8).toArray⟩)), .sref 6 0 (s25.2.map (aC 2 Stp.row)).length, .d (.v (.bool ((dU .u8 x24 1) == 1)))]]⟩), (4, dB 3 (v21.map Knd.row)), (1, ⟨9, [[.i x1.cells, .d (.list 1 (x1.next.map (aC 1 (af .i64))) false), .l x1.turn, .sref 4 0 (v21.map Knd.row).length, .i x2, .d (.v (.bool (x3 == 3))), .z, .i 3, .i 2]]⟩), (0, ⟨9, [[.i 0, .z, .z, .z, .i 0, .d (.v (.bool false)), .z, .i 0, .i 0]]⟩)], 7⟩) (0, ([] : List (List Stp))) h (kA) ?_
 intro n26 s25 o27 h hd28
 unfold eS at h
 refine Sm.seq ?_
 refine sr hF ?_
 refine gv hF oM ?_
 refine gv hF oM ?_
 refine gv hF (oF (ak mB rfl)) ?_
 refine gv hF (oI (ci u25 eC rfl rfl)) ?_
 refine gv hF (oL (lP1 e8 rfl)) ?_
 refine gv hF (oN (bg u24)) ?_
 refine gv hF (oB (br)) ?_
 rcases bx (decide (s25.1 < (a0.k1.length : Int))) with hc29 | hc29
 ·replace h := ifF hc29 h
  refine gv hF (au rfl rfl hc29) ?_
  refine gp hF ?_
  refine gp hF ?_
  refine gv hF (am rfl rfl rfl) ?_
  refine sn ?_
  refine bi hF rfl ?_
  refine Sm.exit ?_
  replace h := aK h hd28
  obtain rfl := ae h
  exact (aR (kA (e := [(1, .d (.ptr 12 (GRaw.row a0))), (2, .ref 0 0 0), (3, .ref 1 0 0), (4, .i v5), (5, .i 1), (6, .ref 5 0 0)]) (g := [(6, dB 1 (s25.2.map (aC 2 Stp.row))), (5, ⟨3, [[.d (.v (.string ⟨(x23 : List UInt8).toArray⟩)), .sref 6 0 (s25.2.map (aC 2 Stp.row)).length, .d (.v (.bool ((dU .u8 x24 1) == 1)))]]⟩), (4, dB 3 (v21.map Knd.row)), (1, ⟨9, [[.i x1.cells, .d (.list 1 (x1.next.map (aC 1 (af .i64))) false), .l x1.turn, .sref 4 0 (v21.map Knd.row).length, .i x2, .d (.v (.bool (x3 == 3))), .z, .i 3, .i 2]]⟩), (0, ⟨9, [[.i 0, .z, .z, .z, .i 0, .d (.v (.bool false)), .z, .i 0, .i 0]]⟩)]) (m := 7)) (fA (l := 6) (sz := 1) (s25.2.map (aC 2 Stp.row))))
 replace h := ifT hc29 h
 refine gv hF (au rfl rfl hc29) ?_
 refine gv hF oM ?_
 refine gv hF (oB (br)) ?_
 refine gv hF (aH rfl rfl rfl) ?_
 refine sn ?_
 refine aF hF rfl (fun hc30 => ?_) (fun hc30 => ?_)
 ·replace h := ifF hc30 h
  refine Sm.exit ?_
  replace h := aK h hd28
  obtain rfl := ae h
  exact (aR (kA (e := [(1, .d (.ptr 12 (GRaw.row a0))), (2, .ref 0 0 0), (3, .ref 1 0 0), (4, .i v5), (5, .i 1), (6, .ref 5 0 0)]) (g := [(6, dB 1 (s25.2.map (aC 2 Stp.row))), (5, ⟨3, [[.d (.v (.string ⟨(x23 : List UInt8).toArray⟩)), .sref 6 0 (s25.2.map (aC 2 Stp.row)).length, .d (.v (.bool ((dU .u8 x24 1) == 1)))]]⟩), (4, dB 3 (v21.map Knd.row)), (1, ⟨9, [[.i x1.cells, .d (.list 1 (x1.next.map (aC 1 (af .i64))) false), .l x1.turn, .sref 4 0 (v21.map Knd.row).length, .i x2, .d (.v (.bool (x3 == 3))), .z, .i 3, .i 2]]⟩), (0, ⟨9, [[.i 0, .z, .z, .z, .i 0, .d (.v (.bool false)), .z, .i 0, .i 0]]⟩)]) (m := 7)) (fA (l := 6) (sz := 1) (s25.2.map (aC 2 Stp.row))))
 replace h := ifT hc30 h
 refine sk ?_
 refine Sm.seq ?_
 refine Sm.block ?_
 refine aV hF (by kernel_rfl) rfl 18 (by kernel_rfl) (by kernel_rfl) ?_
 simp only [List.take_succ_cons, List.take_zero, List.take_nil]
 refine hv hF (oF (aA oR)) ?_
 refine hv hF (oL (bY rfl rfl vj rfl)) ?_
 refine hv hF oM ?_
 refine hv hF (oF (ak mB rfl)) ?_
 refine hv hF (oI (ci u25 eC rfl rfl)) ?_
 refine hv hF (oL (lP1 e8 rfl)) ?_
 refine hv hF oM ?_
 obtain ⟨x31, hx31, h⟩ := aa h
 refine hv hF (oI (aW u24 sz5 hx31)) ?_
 refine hv hF (oL (lP1 ag5 rfl)) ?_
 refine hv hF (oF (aA mJ)) ?_
 refine hv hF (oF (aA kq)) ?_
 refine hv hF (oL (bY rfl rfl ph rfl)) ?_
 refine hv hF (oN (bg u71)) ?_
 refine hv hF oM ?_
 refine hv hF (oF (aA sY)) ?_
 refine hv hF (oL (bY rfl rfl ag3 rfl)) ?_
 obtain ⟨x32, hx32, h⟩ := aa h
 refine cH hF (jC hx32) ?_
 refine hv hF (x := .d (.list 1 ([x32].map (aC 2 Stp.row)) true)) (oS (az tw pU rT rfl rfl (PartsQ.cons rfl (PartsQ.nil _)) rfl)) ?_
 refine ag.last ⟨rfl, ?_⟩
 simp only [List.drop_succ_cons, List.drop_zero, List.drop_nil, List.nil_append, List.cons_append]
 refine dM (wA (e := [(1, .d (.ptr 12 (GRaw.row a0))), (2, .ref 0 0 0), (3, .ref 1 0 0), (4, .i v5), (5, .i 1), (6, .ref 5 0 0), (7, .i s25.1), (58, .i s25.1), (59, .d (.v (.bool (decide (s25.1 < 4))))), (64, .sref 6 0 (s25.2.map (aC 2 Stp.row)).length), (80, .d (.list 1 ([x32].map (aC 2 Stp.row)) true))]) (g := [(6, dB 1 (s25.2.map (aC 2 Stp.row))), (5, ⟨3, [[.d (.v (.string ⟨(x23 : List UInt8).toArray⟩)), .any, .d (.v (.bool ((dU .u8 x24 1) == 1)))]]⟩), (4, dB 3 (v21.map Knd.row)), (1, ⟨9, [[.i x1.cells, .d (.list 1 (x1.next.map (aC 1 (af .i64))) false), .l x1.turn, .sref 4 0 (v21.map Knd.row).length, .i x2, .d (.v (.bool (x3 == 3))), .z, .i 3, .i 2]]⟩), (0, ⟨9, [[.i 0, .z, .z, .z, .i 0, .d (.v (.bool false)), .z, .i 0, .i 0]]⟩)]) (m := 7)) rfl ?_
 obtain ⟨x33, hx33, h⟩ := aa h
 refine a8 hF yx rfl (ys := [x32]) (row := (aC 2 Stp.row)) rfl rfl rfl rfl rfl rfl rfl rfl (.inl rfl) hx33 (by (repeat' first | exact bn _ | refine bf ?_ | refine ap ?_ (aO _ _ _) | refine ap ?_ (aO _ _ [_]) | refine ap ?_ (bE (by rfl)))) ?_
 refine gv hF (oF (aA oR)) ?_
 refine SmG.store hF rfl rfl rfl rfl rfl (cC (rows' := [[.d (.v (.string ⟨(x23 : List UInt8).toArray⟩)), .sref 6 0 (x33.map (aC 2 Stp.row)).length, .d (.v (.bool ((dU .u8 x24 1) == 1)))]]) rfl rfl rfl vC rfl rfl rfl) ?_
 refine SmG.nil ?_
 refine ar ?_
 refine ac ?_
 refine ab hF rfl ?_
 refine gv hF oM ?_
 obtain ⟨x34, hx34, h⟩ := aa h
 refine gv hF (oB (aX hx34)) ?_
 refine gv hF oA ?_
 refine SmG.nil ?_
 exact bp (be h hd28) (kA)
end
end Go.Proofs.YtbaccmkhjmmlnaaDoor
