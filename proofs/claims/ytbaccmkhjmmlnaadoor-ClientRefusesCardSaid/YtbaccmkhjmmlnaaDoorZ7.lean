/-
  Lemmas, part 7 of 8: walks through the program's functions, and plain Lean about what they compute.
-/
import Derived.Test.YtbaccmkhjmmlnaaDoorRows
import Derived.WalkKit
import Derived.WalkSpells
import Derived.WalkLawsBesides
import Derived.BigQuiet
import Derived.Deep.QuietTactic
import Derived.Deep.RegionHeld3
import Derived.Deep.DeepCutAuto
import Derived.Deep.LoopGhost
import Derived.StillTailTactics
import Derived.Lib.Hide
import Derived.Handy
import Derived.Test.YtbaccmkhjmmlnaaDoorZ1
import Derived.Test.YtbaccmkhjmmlnaaDoorZ2
import Derived.Test.YtbaccmkhjmmlnaaDoorZ3
import Derived.Test.YtbaccmkhjmmlnaaDoorZ4
import Derived.Test.YtbaccmkhjmmlnaaDoorZ5
import Derived.Test.YtbaccmkhjmmlnaaDoorZ6
set_option linter.unnecessarySimpa false
set_option linter.unusedSimpArgs false
set_option linter.unusedVariables false
namespace Go.Proofs.YtbaccmkhjmmlnaaDoor
section
open Go.RowKit
theorem mN {w1 w2 w3 : World} {r : Option Nat} (h : w1.grownBy w2 r) (k : w2.grownBy w3 r) : w1.grownBy w3 r :=
 ⟨k.os.trans h.os, k.tape.trans h.tape, k.output.trans h.output, Nat.le_trans h.size k.size, fun i hi hr => (k.block i (Nat.lt_of_lt_of_le hi h.size) hr).trans (h.block i hi hr)⟩
theorem r8 {w1 w2 : World} {r : Option Nat} (h : w1.grownBy w2 r) : w1.grownBy w2.drew r := ⟨h.os, h.tape, h.output, h.size, h.block⟩
def gI (g : Nat) (w w' : World) : Prop := ∀ cs T, w.heap[g]? = some (.cells cs T) → ∃ cs', w'.heap[g]? = some (.cells cs' T)
theorem gI.refl (g : Nat) (w : World) : gI g w w := fun cs _ h => ⟨cs, h⟩
theorem gI.trans {g : Nat} {a b c : World} (h : gI g a b) (k : gI g b c) : gI g a c := fun cs T hT => by
 obtain ⟨cs', h'⟩ := h cs T hT; exact k cs' T h'
theorem gI.drew {g : Nat} {a b : World} (h : gI g a b) : gI g a b.drew := h
theorem li {P : Program} {o : Oper} {a : Act} {w : World} {Q : Exit → Act → World → Prop} {K : Act → World → Prop} (hd : o.dst = none) (ty : TypeId) (x y : Operand) (ho : o.op = .store ty x y) (g off : Nat) (hx : a.eval x = .pointer (some ⟨g, off, none⟩))
  (cs : List Value) (hy : a.eval y = .agg cs.toArray) (hT : (P.info? ty).map (·.size) = some cs.length) (h1 : ∀ v ∈ cs, v.oneCell' = true) (cur : List Value) (hA : Arr w g cur) (hfit : off + cs.length ≤ cur.length)
  (h : ∀ w', Arr w' g (lay cur off cs) → w.grownBy w' (some g) → gI g w w' → K a w') : o.wp P a w K Q := by
 obtain ⟨T, hg⟩ := hA
 have hs : (storeCells ⟨g, off, none⟩ cs).run P w = .ok () (w.setRow g (lay cur off cs).toArray) := by
  have := run_storeCells_at P g off T cs 0 cur.toArray w hg (by simpa using hfit) h1
  simpa [lay] using this
 unfold Oper.wp
 have : (execOp a.eval o).run P w = .ok .skip (w.setRow g (lay cur off cs).toArray) := by
  simp only [execOp, ho, hx, hy]
  simp [Instr.storeAt, Instr.sureAddr, storeVar, Sem.run_bind, Value.cells, dE hT, hs, Result.andThen]
 rw [this, Oper.upon_skip, hd]
 exact h _ (Arr.setRow ⟨T, hg⟩ _) (dX _ _ _) (fun cs' T' h' => ⟨_, by
  simp only [World.setRow, Array.getElem?_modify, if_pos, h']; rfl⟩)
def pN (g : Nat) (w : World) (c0 c1 c2 : List Value) (S : Nat → Bool) (w' : World) : Prop :=
 (w.grownBy w' (some g) ∧ gI g w w') ∧ Arr w' g (if S 15 then c2 else if S 13 then c1 else c0)
theorem pN.same {g : Nat} {w w' : World} {c0 c1 c2 : List Value} {S S' : Nat → Bool} {i : Nat} (h : pN g w c0 c1 c2 S w') (hS : ∀ j, S' j = if j = i then true else S j) (h1 : i ≠ 13) (h2 : i ≠ 15) : pN g w c0 c1 c2 S' w' := by
 unfold pN
 rw [hS 15, hS 13, if_neg (Ne.symm h2), if_neg (Ne.symm h1)]
 exact h
set_option maxHeartbeats 400000 in
theorem sy (g cap : Nat) (l : List (List UInt8)) (tail : List Value) (w : World) (hn : l.length ≤ 1000000) (hc : l.length ≤ cap) (hcap : cap ≤ 9223372036854775807) (hA : Arr w g (cw l ++ tail)) (hL : Len32 l) :
  Calls Tryd.prog 66 #[.slice (some ⟨g, 0, none⟩) l.length cap] w fun e w' => e = .returned (.tuple #[]) ∧ Arr w' g (cw l.reverse ++ tail) ∧ w.grownBy w' (some g) ∧ gI g w w' := by
 have HA := Lib.hid hA; clear hA
 have HL := Lib.hid hL; clear hL
 obtain ⟨n, hN⟩ : ∃ n, n = l.length := ⟨_, rfl⟩
 rw [← hN] at hn hc ⊢
 have HN := Lib.hid hN; clear hN
 go_enter Tryd.func66, Tryd.ntmps66
 go_wp2
 go_loopw [2, 3] (fun i j wr => ∃ k : Nat, k + k ≤ n ∧ i = .int .i64 k ∧ j = .int .i64 ((n : Int) - 1 - k) ∧ (w.grownBy wr (some g) ∧ gI g w wr) ∧ Arr wr g (cw (il l k) ++ tail)) (fun i j _ => (intOf j - intOf i + 1).toNat)
 case atStart => exact ⟨0, by omega, rfl, by go_num, ⟨World.grownBy.refl _ _, gI.refl _ _⟩, by rw [vf]; exact HA.out⟩
 case round =>
  obtain ⟨k, hk, rfl, rfl, hg, hA⟩ := hrel
  by_cases h : (k : Int) < (n : Int) - 1 - k
  ·obtain ⟨j, hj⟩ : ∃ j, j = n - 1 - k := ⟨_, rfl⟩
   have ej : (n : Int) - 1 - k = (j : Nat) := by omega
   rw [ej] at h ⊢
   have hjn : j < n := by omega
   have hkn : k < n := by omega
   have HJ := Lib.hid hj
   have HE := Lib.hid ej
   clear hj ej
   obtain ⟨X, hX⟩ : ∃ X, X = il l k := ⟨_, rfl⟩
   rw [← hX] at hA
   have hXl : X.length = n := by rw [hX, eT, HN.out]
   have hX32 : Len32 X := by rw [hX]; exact ui HL.out k
   have hG := Lib.hid hg
   have HX := Lib.hid hX
   have HXA := Lib.hid hA
   have HXl := Lib.hid hXl
   have HX32 := Lib.hid hX32
   clear hX hA hg hXl hX32
   obtain ⟨A, eA⟩ : ∃ A, A = X.getD j [] := ⟨_, rfl⟩
   obtain ⟨B, eB⟩ : ∃ B, B = X.getD k [] := ⟨_, rfl⟩
   have HA := Lib.hid (show A.length = 32 by rw [eA]; exact HX32.out.get (by rw [HXl.out]; exact hjn))
   have HB := Lib.hid (show B.length = 32 by rw [eB]; exact HX32.out.get (by rw [HXl.out]; exact hkn))
   have EA := Lib.hid eA
   have EB := Lib.hid eB
   clear eA eB
   go_wp2
   refine pT [.slice (some ⟨g, 0, none⟩) n cap, .int .i64 k, .slice (some ⟨g, 0, none⟩) n cap, .int .i64 j, .slice (some ⟨g, 0, none⟩) n cap, .int .i64 j, .pointer (some ⟨g, j * 32, none⟩), .agg (u8s A).toArray,
    .slice (some ⟨g, 0, none⟩) n cap, .int .i64 k, .pointer (some ⟨g, k * 32, none⟩), .agg (u8s B).toArray, .pointer (some ⟨g, k * 32, none⟩), undef, .pointer (some ⟨g, j * 32, none⟩), undef]
    (pN g w (cw X ++ tail) (cw (X.set k A) ++ tail) (cw ((X.set k A).set j B) ++ tail)) (by kernel_rfl) (by kernel_rfl) rfl ?_ ?_ ?_
   ·intro S hS
    unfold pN
    rw [hS 13, hS 15]
    exact ⟨⟨r8 hG.out.1, hG.out.2.drew⟩, HXA.out⟩
   ·refine dN ⟨?_, ?_, ?_, ?_, ?_, ?_, ?_, ?_, ?_, ?_, ?_, ?_, ?_, ?_, ?_, ?_, trivial⟩ <;> intro S S' a w1 hi hb hcl hs hR hd hS' <;> refine aB rfl ?_
    ·have h2 : a.tmps[0]?.getD undef = .slice (some ⟨g, 0, none⟩) n cap := hR.evalD rfl rfl
     go_simp
     exact hs.same hS' (by omega) (by omega)
    ·have h2 : a.tmps[2]?.getD undef = .int .i64 k := hR.evalD rfl rfl
     go_simp
     exact hs.same hS' (by omega) (by omega)
    ·have h2 : a.tmps[0]?.getD undef = .slice (some ⟨g, 0, none⟩) n cap := hR.evalD rfl rfl
     go_simp
     exact hs.same hS' (by omega) (by omega)
    ·have h2 : a.tmps[3]?.getD undef = .int .i64 j := hR.evalD rfl rfl
     go_simp
     exact hs.same hS' (by omega) (by omega)
    ·have h2 : a.tmps[0]?.getD undef = .slice (some ⟨g, 0, none⟩) n cap := hR.evalD rfl rfl
     go_simp
     exact hs.same hS' (by omega) (by omega)
    ·have h2 : a.tmps[3]?.getD undef = .int .i64 j := hR.evalD rfl rfl
     go_simp
     exact hs.same hS' (by omega) (by omega)
    ·have h2 : a.tmps[18]?.getD undef = .slice (some ⟨g, 0, none⟩) n cap := hd ⟨4, .data⟩ (by simp) rfl _ _ rfl rfl
     have h3 : a.tmps[19]?.getD undef = .int .i64 j := hd ⟨5, .data⟩ (by simp) rfl _ _ rfl rfl
     go_simp
     exact hs.same hS' (by omega) (by omega)
    ·have h2 : a.tmps[20]?.getD undef = .pointer (some ⟨g, j * 32, none⟩) := hd ⟨6, .data⟩ (by simp) rfl _ _ rfl rfl
     have q13 : S 13 = false := by
      cases hq : S 13 with
      | false => rfl
      | true => have := hcl 13 _ rfl hq ⟨7, .phase⟩ (by simp) rfl; rw [hi] at this; cases this
     have q15 : S 15 = false := by
      cases hq : S 15 with
      | false => rfl
      | true => have := hcl 15 _ rfl hq ⟨13, .chain⟩ (by simp) rfl; rw [q13] at this; cases this
     have hA0 := hs.2
     rw [q13, q15] at hA0
     refine dM _ _ rfl g (j * 32) (by simpa [Act.eval] using h2) (u8s A) (by rw [ar, HA.out]; exact cX) (fun q v hv => hA0.cell (rR HX32.out tail (by rw [HXl.out]; assumption) (by rw [← EA.out]; exact hv))) ?_
     exact ⟨rfl, hs.same hS' (by omega) (by omega)⟩
    ·have h2 : a.tmps[0]?.getD undef = .slice (some ⟨g, 0, none⟩) n cap := hR.evalD rfl rfl
     go_simp
     exact hs.same hS' (by omega) (by omega)
    ·have h2 : a.tmps[2]?.getD undef = .int .i64 k := hR.evalD rfl rfl
     go_simp
     exact hs.same hS' (by omega) (by omega)
    ·have h2 : a.tmps[22]?.getD undef = .slice (some ⟨g, 0, none⟩) n cap := hd ⟨8, .data⟩ (by simp) rfl _ _ rfl rfl
     have h3 : a.tmps[23]?.getD undef = .int .i64 k := hd ⟨9, .data⟩ (by simp) rfl _ _ rfl rfl
     go_simp
     exact hs.same hS' (by omega) (by omega)
    ·have h2 : a.tmps[24]?.getD undef = .pointer (some ⟨g, k * 32, none⟩) := hd ⟨10, .data⟩ (by simp) rfl _ _ rfl rfl
     have q13 : S 13 = false := by
      cases hq : S 13 with
      | false => rfl
      | true => have := hcl 13 _ rfl hq ⟨11, .phase⟩ (by simp) rfl; rw [hi] at this; cases this
     have q15 : S 15 = false := by
      cases hq : S 15 with
      | false => rfl
      | true => have := hcl 15 _ rfl hq ⟨13, .chain⟩ (by simp) rfl; rw [q13] at this; cases this
     have hA0 := hs.2
     rw [q13, q15] at hA0
     refine dM _ _ rfl g (k * 32) (by simpa [Act.eval] using h2) (u8s B) (by rw [ar, HB.out]; exact cX) (fun q v hv => hA0.cell (rR HX32.out tail (by rw [HXl.out]; assumption) (by rw [← EB.out]; exact hv))) ?_
     exact ⟨rfl, hs.same hS' (by omega) (by omega)⟩
    ·have h2 : a.tmps[14]?.getD undef = .slice (some ⟨g, 0, none⟩) n cap := hd ⟨0, .data⟩ (by simp) rfl _ _ rfl rfl
     have h3 : a.tmps[15]?.getD undef = .int .i64 k := hd ⟨1, .data⟩ (by simp) rfl _ _ rfl rfl
     go_simp
     exact hs.same hS' (by omega) (by omega)
    ·have h2 : a.tmps[26]?.getD undef = .pointer (some ⟨g, k * 32, none⟩) := hd ⟨12, .data⟩ (by simp) rfl _ _ rfl rfl
     have h3 : a.tmps[21]?.getD undef = .agg (u8s A).toArray := hd ⟨7, .data⟩ (by simp) rfl _ _ rfl rfl
     have q15 : S 15 = false := by
      cases hq : S 15 with
      | false => rfl
      | true => have := hcl 15 _ rfl hq ⟨13, .chain⟩ (by simp) rfl; rw [hi] at this; cases this
     have hA0 := hs.2
     have q13 : S 13 = false := hi
     rw [q13, q15] at hA0
     refine li rfl _ _ _ rfl g (k * 32) (by simpa [Act.eval] using h2) (u8s A) (by simpa [Act.eval] using h3) (by rw [ar, HA.out]; exact cX.2) (cU _) _ hA0 (by simp only [Bool.false_eq_true, if_false]; rw [List.length_append, fB HX32.out, HXl.out, ar, HA.out]; omega) ?_
     intro w2 hA2 hg2 ht2
     refine ⟨rfl, ⟨mN hs.1.1 hg2, hs.1.2.trans ht2⟩, ?_⟩
     have s15 : S' 15 = false := (hS' 15).trans ((if_neg (by decide)).trans q15)
     have s13 : S' 13 = true := (hS' 13).trans (if_pos rfl)
     rw [s15, s13]
     simp only [Bool.false_eq_true, if_false, if_true] at hA2 ⊢
     rwa [rU HX32.out tail (by rw [HXl.out]; exact hkn) HA.out] at hA2
    ·have h2 : a.tmps[16]?.getD undef = .slice (some ⟨g, 0, none⟩) n cap := hd ⟨2, .data⟩ (by simp) rfl _ _ rfl rfl
     have h3 : a.tmps[17]?.getD undef = .int .i64 j := hd ⟨3, .data⟩ (by simp) rfl _ _ rfl rfl
     go_simp
     exact hs.same hS' (by omega) (by omega)
    ·have h2 : a.tmps[27]?.getD undef = .pointer (some ⟨g, j * 32, none⟩) := hd ⟨14, .data⟩ (by simp) rfl _ _ rfl rfl
     have h3 : a.tmps[25]?.getD undef = .agg (u8s B).toArray := hd ⟨11, .data⟩ (by simp) rfl _ _ rfl rfl
     have q13 : S 13 = true := hb ⟨13, .chain⟩ (by simp) rfl
     have q15 : S 15 = false := hi
     have hA0 := hs.2
     rw [q13, q15] at hA0
     simp only [Bool.false_eq_true, if_false, if_true] at hA0
     have hl3 : (X.set k A).length = n := by rw [List.length_set]; exact HXl.out
     have h32 : Len32 (X.set k A) := HX32.out.set HA.out k
     refine li rfl _ _ _ rfl g (j * 32) (by simpa [Act.eval] using h2) (u8s B) (by simpa [Act.eval] using h3) (by rw [ar, HB.out]; exact cX.2) (cU _) _ hA0 (by rw [List.length_append, fB h32, hl3, ar, HB.out]; omega) ?_
     intro w2 hA2 hg2 ht2
     refine ⟨rfl, ⟨mN hs.1.1 hg2, hs.1.2.trans ht2⟩, ?_⟩
     have s15 : S' 15 = true := (hS' 15).trans (if_pos rfl)
     rw [s15]
     simp only [if_true]
     rwa [rU h32 tail (by rw [hl3]; exact hjn) HB.out] at hA2
   ·intro S w1 hS hs
    have hA0 := hs.2
    rw [hS 15 (by decide)] at hA0
    simp only [if_true] at hA0
    have HG2 := Lib.hid hs.1
    have HA2 := Lib.hid hA0
    clear hS hs hA0
    simp only [bI, List.map_cons, List.map_nil, List.zip_cons_cons, List.zip_nil_right, Act.put, List.setIfInBounds_toArray, List.set_cons_zero, List.set_cons_succ]
    go_wp2
    go_round
    case rel =>
     refine ⟨k + 1, by have := HE.out; omega, by go_num, by have := HE.out; go_num, HG2.out, ?_⟩
     have hf : il l (k + 1) = (X.set k A).set j B := by
      have e1 := HN.out
      have e2 := HJ.out
      have e3 := HX.out
      rw [vp l k (by omega), ← e3, ← e1, ← e2, ← EA.out, ← EB.out]
     rw [hf]; exact HA2.out
    case measure => simp [intOf]; omega
  ·obtain ⟨u, hu⟩ : ∃ u : Int, u = (n : Int) - 1 - k := ⟨_, rfl⟩
   rw [← hu] at h ⊢
   have hu1 : -1 ≤ u := by omega
   have hu2 : u ≤ n := by omega
   have hfe : il l k = l.reverse := wc l k (by have := HN.out; omega)
   rw [hfe] at hA
   have HA2 := Lib.hid hA
   have HG2 := Lib.hid hg
   clear hu hA hg hfe
   go_wp2
   refine bodyPost_end (v := .tuple #[]) (results_none rfl _ _ _) rfl ?_
   exact ⟨rfl, HA2.out, HG2.out.1, HG2.out.2⟩
theorem rt (ao : Option Addr) (cap : Nat) (w : World) :
  Calls Tryd.prog 66 #[.slice ao 0 cap] w fun e w' => e = .returned (.tuple #[]) ∧ w = w' := by
 go_enter Tryd.func66, Tryd.ntmps66
 go_wp2
 go_rounds 1
 exact bodyPost_end (v := .tuple #[]) (results_none rfl _ _ _) rfl ⟨rfl, rfl⟩
end
section
open Go.RowKit
theorem wL (cur : List Value) (k : Nat) (c : Value) (r : List Value) (h : k < cur.length) : lay (cur.set k c) (k + 1) r = lay cur k (c :: r) := by
 unfold lay
 rw [List.set_eq_take_append_cons_drop, if_pos h]
 have h1 : (cur.take k).length = k := by rw [List.length_take]; omega
 have e1 : (cur.take k ++ c :: cur.drop (k + 1)).take (k + 1) = cur.take k ++ [c] := by
  rw [List.take_append, h1, List.take_of_length_le (by omega), show k + 1 - k = 1 by omega]; simp
 have e2 : (cur.take k ++ c :: cur.drop (k + 1)).drop (k + 1 + r.length) = cur.drop (k + (c :: r).length) := by
  rw [List.drop_append, h1, List.drop_of_length_le (by omega), show k + 1 + r.length - k = r.length + 1 by omega, List.drop_succ_cons, List.drop_drop, List.nil_append]
  congr 1; simp; omega
 rw [e1, e2]
 simp
theorem uK (off : Nat) : ∀ (l : List Value) (k : Nat) (arr : Array Value), off + k + l.length ≤ arr.size → (l.zipIdx k).foldl (fun cs (x : Value × Nat) => cs.setIfInBounds (off + x.2) x.1) arr = (lay arr.toList (off + k) l).toArray := by
 intro l
 induction l with
 | nil => intro k arr _; simp [lay]
 | cons c r ih =>
  intro k arr h
  simp only [List.zipIdx_cons, List.foldl_cons]
  rw [ih (k + 1) _ (by simp at h ⊢; omega)]
  congr 1
  have hk : off + k < arr.toList.length := by simp at h ⊢; omega
  rw [Array.toList_setIfInBounds, ← wL _ _ _ _ hk]
  rfl
section
variable {P : Program} {ops : Array Oper} {rest : List Oper} {o : Oper} {a : Act} {w : World} {Q : Exit → Act → World → Prop} {t e : TypeId} {z : Value} {size bytes : Nat}
theorem ro {K : Act → World → Prop} (hE : ElemT P t e z size bytes) (x : Operand) (ho : o.op = .buildSlice t 1 #[(0, x)]) (cs : List Value) (hx : a.eval x = .agg cs.toArray) (hcs : cs.length = size) (hsz : size ≤ 16777216)
  (h : K (a.put o.dst (.slice (some ⟨w.heap.size, 0, none⟩) 1 1)) (w.alloc (.cells cs.toArray e))) : o.wp P a w K Q := by
 obtain ⟨i0, hi, hz0, hz1, hz2⟩ := info_parts hE.info
 have hs : (P.info? e).map (·.size) = some size := by rw [hi]; simp [hz1]
 have hz : ∀ w, (zeroValue e).run P w = .ok z w := by
  intro w; simp [zeroValue, typeInfo, hi, hz0]
 have hf : ∀ Z : Array Value, Z.size = size → Instr.fill (fun i => some (i * size, size)) Z [(0, Value.agg cs.toArray)] = some cs.toArray := by
  intro Z hZ
  have hlay : List.foldl (fun cs (x : Value × Nat) => cs.setIfInBounds (0 + x.2) x.1) Z cs.zipIdx = cs.toArray := by
   rw [uK 0 cs 0 Z (by omega), cz _ _ (by rw [Array.length_toList]; omega)]
  simp only [Nat.zero_add] at hlay
  have hc : (Value.agg cs.toArray).cells = cs.toArray := rfl
  unfold Instr.fill
  simp [hc, hcs, hZ, Instr.fill, hlay]
 unfold Oper.wp
 have : (execOp a.eval o).run P w = .ok (.value (.slice (some ⟨w.heap.size, 0, none⟩) 1 1)) (w.alloc (.cells cs.toArray e)) := by
  have hp := hE.pos
  simp only [execOp, ho]
  simp only [List.map_toArray, List.map_cons, List.map_nil, hx]
  simp only [Instr.buildSlice]
  have hfs := hf ((Array.range size).map (z.cells[· % z.cells.size]!)) (by simp)
  simp [Sem.run_bind, run_underlying hE.und, dE hs, hz, Result.andThen, show ¬ (16777216 < size) by omega, show ¬ (size = 0) by omega, newRow, newObj, hfs]
  rfl
 rw [this]; exact h
theorem kJ (hE : ElemT P t e z size bytes) (hgd : o.guard = none) (x : Operand) (ho : o.op = .buildSlice t 1 #[(0, x)]) (cs : List Value) (hx : a.eval x = .agg cs.toArray) (hcs : cs.length = size) (hsz : size ≤ 16777216)
  (h : wpList P ops Q rest (a.put o.dst (.slice (some ⟨w.heap.size, 0, none⟩) 1 1)) (w.alloc (.cells cs.toArray e))) : wpList P ops Q (o :: rest) a w :=
 wpList_plain hgd fun _ hK => ro hE x ho cs hx hcs hsz (hK _ _ h)
end
end
section
open Go.RowKit
theorem mC : ∀ (k : Nat) (l : List (List UInt8)) (i : Nat), l.length = k → Len32 (Sha.path l i) := by
 intro k
 induction k using Nat.strongRecOn with
 | _ k ih =>
  intro l i hk
  rcases Nat.lt_or_ge l.length 2 with h | h
  ·rw [Sha.path_one _ h]; intro x hx; cases hx
  ·have c1 := Sha.cut_lt h
   have c2 := Sha.cut_pos l.length
   rcases Nat.lt_or_ge i (Sha.cut l.length) with hlt | hge
   ·rw [Sha.path_low h hlt]
    intro x hx
    rcases List.mem_cons.1 hx with rfl | h'
    ·exact Sha.root_len _
    ·exact ih _ (by rw [List.length_take]; omega) _ _ rfl x h'
   ·rw [Sha.path_high h hge]
    intro x hx
    rcases List.mem_cons.1 hx with rfl | h'
    ·exact Sha.root_len _
    ·exact ih _ (by rw [List.length_drop]; omega) _ _ rfl x h'
theorem qm : ∀ (k : Nat) (l : List (List UInt8)) (i : Nat), l.length = k → (Sha.path l i).length ≤ k := by
 intro k
 induction k using Nat.strongRecOn with
 | _ k ih =>
  intro l i hk
  rcases Nat.lt_or_ge l.length 2 with h | h
  ·rw [Sha.path_one _ h]; simp
  ·have c1 := Sha.cut_lt h
   have c2 := Sha.cut_pos l.length
   rcases Nat.lt_or_ge i (Sha.cut l.length) with hlt | hge
   ·rw [Sha.path_low h hlt]
    have := ih _ (by rw [List.length_take]; omega) (l.take (Sha.cut l.length)) i rfl
    rw [List.length_take] at this
    simp only [List.length_cons]; omega
   ·rw [Sha.path_high h hge]
    have := ih _ (by rw [List.length_drop]; omega) (l.drop (Sha.cut l.length)) (i - Sha.cut l.length) rfl
    rw [List.length_drop] at this
    simp only [List.length_cons]; omega
theorem lV {w w' : World} {r : Option Nat} (hb : Below w.heap.size w w') : w.grownBy w' r := ⟨hb.os, hb.tape, hb.output, hb.size, fun i hi _ => hb.block i hi⟩
theorem kQ {w w' : World} {base size n : Nat} {e : TypeId} {v : Value} {xs : List Value} (h : w.ownsRow base e size v n xs) (hb : Below w.heap.size w w') : w'.ownsRow base e size v n xs := by
 cases hq : v.ownBlock with
 | none => exact h.kept (lV (r := none) hb) (.inl hq)
 | some k => exact h.kept (lV (r := none) hb) (.inr (by rw [hq]; simp))
theorem rb : ElemT Tryd.prog 36 47 (.agg (u8s (List.replicate 32 0)).toArray) 32 32 := ⟨Tryd.underlying36, by kernel_rfl, rfl, by omega⟩
theorem vK (v : Value) (ls : List (List UInt8)) (i : Int) (w : World) (hB : BB w v ls) (hi : i < 0 ∨ (ls.length : Int) ≤ i) (hF : ls.length ≤ 1000000) :
  Calls Tryd.prog 39 #[v, .int .i64 i] w fun e w' => e = .returned (.tuple #[.slice none 0 0, .int .i64 1]) ∧ w = w' := by
 obtain ⟨vs, hvs, hS, hel⟩ := hB
 obtain ⟨ao, cap, rfl⟩ := gV hS
 clear hS hel hvs
 obtain ⟨n, hN⟩ : ∃ n, n = ls.length := ⟨_, rfl⟩
 rw [← hN] at hi hF ⊢
 clear hN
 by_cases h0 : i < 0
 ·go_enter Tryd.func39, Tryd.ntmps39
  go_wp2
  exact bodyPost_ret (results_tmp2 rfl _ _ _) rfl ⟨rfl, rfl⟩
 ·have h1 : (n : Int) ≤ i := by omega
  go_enter Tryd.func39, Tryd.ntmps39
  go_wp2
  exact bodyPost_ret (results_tmp2 rfl _ _ _) rfl ⟨rfl, rfl⟩
set_option maxHeartbeats 400000 in
theorem uM (v : Value) (ls : List (List UInt8)) (i : Nat) (w : World) (hg : gr w) (hB : BB w v ls) (hF : Fit ls) (hi : i < ls.length) :
  Calls Tryd.prog 39 #[v, .int .i64 i] w fun e w' => ∃ v', e = .returned (.tuple #[v', .int .i64 0]) ∧ w'.ownsRow w.heap.size 47 32 v' (Sha.proof ls i).length (cw (Sha.proof ls i)) ∧ Below w.heap.size w w' := by
 obtain ⟨vs, hvs, hS, hel⟩ := id hB
 obtain ⟨ao, cap, rfl⟩ := gV hS
 have hn := hF.1
 have HG := Lib.hid hg
 have HB := Lib.hid hB
 have HF := Lib.hid hF
 clear hg hB hF hS hel hvs
 obtain ⟨n, hN⟩ : ∃ n, n = ls.length := ⟨_, rfl⟩
 rw [← hN] at hi hn HB ⊢
 have HN := Lib.hid hN; clear hN
 go_enter Tryd.func39, Tryd.ntmps39
 go_wp2
 have hd1 : decide (n ≤ i) = false := decide_eq_false (by omega)
 simp only [hd1, Bool.or_false]
 clear hd1
 go_loopw [0, 1, 6] (fun x y o wr => ∃ (l' : List (List UInt8)) (i' : Nat) (acc : List (List UInt8)), Sha.path ls i = acc ++ Sha.path l' i' ∧ (∃ ao cap, x = .slice ao l'.length cap) ∧ BB w x l' ∧ Fit l' ∧ i' < l'.length ∧ l'.length + acc.length ≤ n ∧ y = .int .i64 i' ∧
  wr.ownsRow w.heap.size 47 32 o acc.length (cw acc) ∧ Below w.heap.size w wr) (fun x _ _ _ => mf x)
 case atStart => exact ⟨ls, i, [], rfl, ⟨ao, cap, by rw [HN.out]⟩, HB.out, HF.out, by have := HN.out; omega, by simp; have := HN.out; omega, rfl, World.ownsRow_nil _ _ _ _, Below.refl _ _⟩
 case round =>
  obtain ⟨l', i', acc, hpath, ⟨ao', cap', rfl⟩, hBB, hF', hi', hle, rfl, hown, hbel⟩ := hrel
  rcases Nat.lt_or_ge l'.length 2 with h2 | h2
  ·have hacc : Sha.path ls i = acc := by rw [hpath, Sha.path_one _ h2]; simp
   have hacc32 : Len32 acc := by rw [← hacc]; exact mC _ _ _ rfl
   have hpr : Sha.proof ls i = acc.reverse := by unfold Sha.proof; rw [hacc]
   obtain ⟨n', hN'⟩ : ∃ n', n' = l'.length := ⟨_, rfl⟩
   rw [← hN'] at h2 hle ⊢
   have HP := Lib.hid hpr
   have H32 := Lib.hid hacc32
   have HBel := Lib.hid hbel
   have HOwn := Lib.hid hown
   clear hacc hpr hacc32 hbel hown hpath hBB hF' hi' hN'
   rcases Nat.eq_zero_or_pos acc.length with h0 | h0
   ·have hnil : acc = [] := List.length_eq_zero_iff.1 h0
    subst hnil
    have hu : u6 = .slice none 0 0 ∨ ∃ g cp, u6 = .slice (some ⟨g, 0, none⟩) 0 cp := by
     rcases HOwn.out.2 with ⟨h, _⟩ | ⟨g, cp, cur, h, _⟩
     ·exact .inl h
     ·exact .inr ⟨g, cp, h⟩
    have ho := HOwn.out
    obtain ⟨ao2, cp2, rfl⟩ : ∃ ao cp, u6 = .slice ao 0 cp := by
     rcases hu with h | ⟨g, cp, h⟩
     ·exact ⟨none, 0, h⟩
     ·exact ⟨_, cp, h⟩
    clear hu h0 ho
    go_wp2_with (go_at_call 66; refine Hid.out ?_)
    refine da ?_
    refine (rt ao2 cp2 _).mono ?_
    rintro e w2 ⟨rfl, rfl⟩
    go_wp2
    refine bodyPost_ret (results_tmp2 rfl _ _ _) rfl ⟨_, rfl, ?_, HBel.out⟩
    rw [HP.out]
    exact HOwn.out
   ·obtain ⟨k, hk⟩ : ∃ k, acc.length = k + 1 := ⟨acc.length - 1, by omega⟩
    have ho := HOwn.out
    rw [hk] at ho
    obtain ⟨g, cp, rfl, hg1, hg2⟩ := oO ho
    rw [← hk] at ho ⊢
    obtain ⟨cu0, hgt⟩ : ∃ cs, wr.heap[g]? = some (.cells cs 47) := by
     rcases ho.2 with ⟨h, _⟩ | ⟨g', cp', cu, h, _, h2, _⟩
     ·cases h
     ·simp only [Value.slice.injEq, Option.some.injEq, Addr.mk.injEq] at h
      obtain ⟨⟨rfl, _⟩, _⟩ := h
      exact ⟨cu, h2⟩
    obtain ⟨cur, hA, htk, hcap1, hcap2, hcl⟩ := th ho
    have hcur : cur = cw acc ++ cur.drop (acc.length * 32) := by rw [← htk, List.take_append_drop]
    rw [hcur] at hA
    obtain ⟨tl, htl⟩ : ∃ tl, tl = cur.drop (acc.length * 32) := ⟨_, rfl⟩
    rw [← htl] at hA
    have HA := Lib.hid hA
    have htl2 : tl.length = cp * 32 - acc.length * 32 := by rw [htl, List.length_drop, hcl]
    have HTL := Lib.hid htl2
    clear hA hcur htk htl hcl ho hk htl2
    go_wp2_with (go_at_call 66; refine Hid.out ?_)
    refine da ?_
    refine (sy g cp acc tl _ (by omega) (by omega) hcap2 HA.out H32.out).mono ?_
    rintro e w2 ⟨rfl, hA2, hgr, hst⟩
    have HT := Lib.hid (hst _ _ hgt)
    clear hst hgt
    have HB2 := Lib.hid (HBel.out.grown hgr HBel.out.size (by intro k hk; cases hk; exact hg1))
    have HA2 := Lib.hid hA2
    clear hA2 hgr
    go_wp2
    refine bodyPost_ret (results_tmp2 rfl _ _ _) rfl ⟨_, rfl, ?_, HB2.out⟩
    have hl : (Sha.proof ls i).length = acc.length := by rw [HP.out, List.length_reverse]
    rw [hl, HP.out]
    obtain ⟨cs', hcs'⟩ := HT.out
    obtain ⟨T0, hT0⟩ := HA2.out
    have hee := hT0.symm.trans hcs'
    simp only [Option.some.injEq, Obj.cells.injEq] at hee
    obtain ⟨hc0, rfl, _⟩ := hee
    have hls : (cw acc.reverse).length = acc.length * 32 := by rw [fB H32.out.reverse, List.length_reverse]
    refine ⟨hls, .inr ⟨g, cp, _, rfl, hg1, hT0, hcap1, ?_, ?_, ?_⟩⟩
    ·unfold maxLen; omega
    ·have := HTL.out; simp [hls]; omega
    ·simp [hls]
  ·obtain ⟨b, off, rfl⟩ : ∃ b off, ao' = some ⟨b, off, none⟩ := by
    obtain ⟨vs, hvs, hS, hel⟩ := hBB
    obtain ⟨b, o, cap, e, _⟩ := ko hS (by omega)
    simp only [Value.slice.injEq] at e
    exact ⟨b, o, e.1⟩
   have hcap : l'.length ≤ cap' ∧ cap' ≤ 9223372036854775807 := by
    obtain ⟨vs, hvs, hS, hel⟩ := hBB
    obtain ⟨b, o, cap, e, h1, h2, _⟩ := ko hS (by omega)
    simp only [Value.slice.injEq] at e
    obtain ⟨_, _, rfl⟩ := e
    exact ⟨h1, h2⟩
   have hn' := hF'.1
   have c1 := Sha.cut_lt h2
   have c0 := Sha.cut_pos l'.length
   rcases Nat.lt_or_ge i' (Sha.cut l'.length) with hlt | hge
   ·have hp := Sha.path_low h2 hlt
    have hBd := pS hBB (Sha.cut l'.length) (by omega)
    have hBt := qb hBB (Sha.cut l'.length) (by omega)
    have HP := Lib.hid hp
    have HBd := Lib.hid hBd
    have HBt := Lib.hid hBt
    have HF' := Lib.hid hF'
    have HPath := Lib.hid hpath
    have HOwn := Lib.hid hown
    have HBel := Lib.hid hbel
    have HLe := Lib.hid hle
    clear hp hBd hBt hF' hpath hown hbel hBB hle
    obtain ⟨n', hN'⟩ : ∃ n', n' = l'.length := ⟨_, rfl⟩
    obtain ⟨m, hM⟩ : ∃ m, m = Sha.cut n' := ⟨_, rfl⟩
    rw [← hN'] at hi' h2 hn' c1 c0 hlt hcap HP HBd HBt HLe ⊢
    rw [← hM] at c1 c0 hlt HP HBd HBt
    have HM := Lib.hid hM
    have HN' := Lib.hid hN'
    clear hM hN'
    obtain ⟨hc1, hc2⟩ := hcap
    go_wp2_with (go_at_call 61; refine Hid.out ?_)
    refine da ?_
    refine (lM n' _ h2 (by omega)).mono ?_
    rintro e w1 ⟨rfl, rfl⟩
    rw [← HM.out]
    go_wp2_with (go_at_call 32; refine Hid.out ?_)
    refine da ?_
    refine (oy _ _ _ _ rfl (HG.out.below' HBel.out) (HBd.out.below HBel.out) (HF'.out.drop m)).mono ?_
    rintro e w1 ⟨rfl, hb1⟩
    have HO1 := Lib.hid (kQ HOwn.out hb1)
    go_wp2_with (first | refine kJ rb rfl _ rfl _ rfl (by rw [cC]) (by omega) ?_ | (at_builtin; refine Hid.out ?_))
    refine da ?_
    have HA1 := Lib.hid (Arr.new w1 (u8s (Sha.root (l'.drop m))) 47)
    refine lE rb rfl _ _ rfl w.heap.size _ acc.length (cw acc) rfl (kQ HO1.out ((Below.refl _ _).alloc (Nat.le_refl _) _)) _ rfl _ HA1.out (by rw [cC]) (cU _) (by have := HLe.out; omega) (by have := HLe.out; omega) (by have := HBel.out.size; have := hb1.size; simp; omega) ?_
    intro g' cp w2 hown2 hg2 hb2 hlt2
    have hB2 : Below w.heap.size w w2 := ((HBel.out.trans (hb1.mono HBel.out.size)).alloc (Nat.le_trans HBel.out.size hb1.size) _).grown hg2 (by have := HBel.out.size; have := hb1.size; simp; omega) (fun k hk => (HO1.out.lt k hk).1)
    have HB2 := Lib.hid hB2
    have HO2 := Lib.hid hown2
    clear hB2 hown2 hg2 HA1 HO1 hb1 hlt2 hb2 HOwn HBel
    go_wp2
    go_roundw
    case rel =>
     have e1 := HN'.out
     have hlk : (l'.take m).length = m := by simp; omega
     refine ⟨l'.take m, i', acc ++ [Sha.root (l'.drop m)], by rw [HPath.out, HP.out]; simp, ⟨_, _, by rw [hlk]⟩, HBt.out, HF'.out.take m, by rw [hlk]; omega, by rw [hlk, List.length_append]; have := HLe.out; simp; omega, by go_num, ?_, HB2.out⟩
     have := HO2.out
     rw [← kU] at this
     simpa using this
    case measure => simp [mf]; omega
   ·have hp := Sha.path_high h2 hge
    have hBd := pS hBB (Sha.cut l'.length) (by omega)
    have hBt := qb hBB (Sha.cut l'.length) (by omega)
    have HP := Lib.hid hp
    have HBd := Lib.hid hBd
    have HBt := Lib.hid hBt
    have HF' := Lib.hid hF'
    have HPath := Lib.hid hpath
    have HOwn := Lib.hid hown
    have HBel := Lib.hid hbel
    have HLe := Lib.hid hle
    clear hp hBd hBt hF' hpath hown hbel hBB hle
    obtain ⟨n', hN'⟩ : ∃ n', n' = l'.length := ⟨_, rfl⟩
    obtain ⟨m, hM⟩ : ∃ m, m = Sha.cut n' := ⟨_, rfl⟩
    rw [← hN'] at hi' h2 hn' c1 c0 hge hcap HP HBd HBt HLe ⊢
    rw [← hM] at c1 c0 hge HP HBd HBt
    have HM := Lib.hid hM
    have HN' := Lib.hid hN'
    clear hM hN'
    obtain ⟨hc1, hc2⟩ := hcap
    go_wp2_with (go_at_call 61; refine Hid.out ?_)
    refine da ?_
    refine (lM n' _ h2 (by omega)).mono ?_
    rintro e w1 ⟨rfl, rfl⟩
    rw [← HM.out]
    go_wp2_with (go_at_call 32; refine Hid.out ?_)
    refine da ?_
    refine (oy _ _ _ _ rfl (HG.out.below' HBel.out) (HBt.out.below HBel.out) (HF'.out.take m)).mono ?_
    rintro e w1 ⟨rfl, hb1⟩
    have HO1 := Lib.hid (kQ HOwn.out hb1)
    go_wp2_with (first | refine kJ rb rfl _ rfl _ rfl (by rw [cC]) (by omega) ?_ | (at_builtin; refine Hid.out ?_))
    refine da ?_
    have HA1 := Lib.hid (Arr.new w1 (u8s (Sha.root (l'.take m))) 47)
    refine lE rb rfl _ _ rfl w.heap.size _ acc.length (cw acc) rfl (kQ HO1.out ((Below.refl _ _).alloc (Nat.le_refl _) _)) _ rfl _ HA1.out (by rw [cC]) (cU _) (by have := HLe.out; omega) (by have := HLe.out; omega) (by have := HBel.out.size; have := hb1.size; simp; omega) ?_
    intro g' cp w2 hown2 hg2 hb2 hlt2
    have hB2 : Below w.heap.size w w2 := ((HBel.out.trans (hb1.mono HBel.out.size)).alloc (Nat.le_trans HBel.out.size hb1.size) _).grown hg2 (by have := HBel.out.size; have := hb1.size; simp; omega) (fun k hk => (HO1.out.lt k hk).1)
    have HB2 := Lib.hid hB2
    have HO2 := Lib.hid hown2
    clear hB2 hown2 hg2 HA1 HO1 hb1 hlt2 hb2 HOwn HBel
    go_wp2
    go_roundw
    case rel =>
     have e1 := HN'.out
     have hlk : (l'.drop m).length = n' - m := by simp; omega
     refine ⟨l'.drop m, i' - m, acc ++ [Sha.root (l'.take m)], by rw [HPath.out, HP.out]; simp, ⟨_, _, by rw [hlk]⟩, HBd.out, HF'.out.drop m, by rw [hlk]; omega, by rw [hlk, List.length_append]; have := HLe.out; simp; omega, by go_num, ?_, HB2.out⟩
     have := HO2.out
     rw [← kU] at this
     simpa using this
    case measure => simp [mf]; omega
end
section
open Go.RowKit
theorem sU (ls : List (List UInt8)) (i : Nat) : Len32 (Sha.proof ls i) := by
 intro x hx
 unfold Sha.proof at hx
 exact mC _ ls i rfl x (by simpa using hx)
theorem tP (ls : List (List UInt8)) (i : Int) (hi : i < 0 ∨ (ls.length : Int) ≤ i) (hF : ls.length ≤ 1000000) : aq Tryd.prog HG 39 [pu ls, .v (.int .i64 i)] (.tup [.list 32 [] true, .v (.int .i64 1)]) := by
 intro C w vs hG hk ha
 obtain ⟨v, u, rfl, hv, hu⟩ := q7 ha
 rw [bj hu]
 refine (vK v ls i w (oc hv hk) hi hF).mono ?_
 rintro e w' ⟨rfl, rfl⟩
 exact ⟨_, C, rfl, .refl hk, .tup _ _ (.ocons _ _ _ _ (.nil _ _ _ _ ⟨Nat.le_refl _, fun _ => rfl, by omega, fun _ => rfl, fun _ h => by cases h⟩) (.ocons _ _ _ _ (.v _) .onil))⟩
theorem xN (ls : List (List UInt8)) (i : Nat) (hF : Fit ls) (hi : i < ls.length) : aq Tryd.prog HG 39 [pu ls, .v (.int .i64 i)] (.tup [tJ (Sha.proof ls i), .v (.int .i64 0)]) := by
 intro C w vs hG hk ha
 obtain ⟨v, u, rfl, hv, hu⟩ := q7 ha
 rw [bj hu]
 refine (uM v ls i w (pK hG hk) (oc hv hk) hF hi).mono ?_
 rintro e w' ⟨v', rfl, ho, hb⟩
 obtain ⟨C', hm, hr⟩ := xq (xs := (Sha.proof ls i).map aS) hk hb (Nat.le_refl _) ho (by
  intro x hx
  obtain ⟨s, hs, rfl⟩ := List.mem_map.1 hx
  simpa [aS] using sU ls i s hs) (by simp) (by rw [uI]; exact qJ (vc _))
 exact ⟨_, C', rfl, hm, .tup _ _ (.ocons _ _ _ _ hr (.ocons _ _ _ _ (.v _) .onil))⟩
theorem xy (root b : List UInt8) (n i : Int) (p : List (List UInt8)) (hr : root.length = 32) (hb : b.length ≤ 900000) (h32 : Len32 p) (hpn : p.length ≤ 1000000) (hn : n ≤ 4294967296) :
  aq Tryd.prog HG 46 [mY root, .v (.int .i64 n), .v (.int .i64 i), bE b, tJ p] (.v (.bool (Sha.check root n i b p))) := by
 intro C w vs hG hk ha
 cases ha with | ocons _ v0 _ vs h0 ha =>
 cases ha with | ocons _ v1 _ vs h1 ha =>
 cases ha with | ocons _ v2 _ vs h2 ha =>
 obtain ⟨v3, v4, rfl, h3, h4⟩ := q7 ha
 rw [xZ h0, bj h1, bj h2]
 refine (vL root b n i p v3 v4 w hr hb (pK hG hk) (sm h3 hk) (xX h4 hk) h32 hpn hn).mono ?_
 rintro e w' ⟨rfl, hb⟩
 exact ⟨_, C, rfl, .of_below hk hb, .v _⟩
end
section
open Go.RowKit
theorem nR {s : List UInt8} (h : s.length = 32) : (aS s).length = 32 := by simp [aS, h]
set_option maxRecDepth 100000
end
section
open Go.RowKit
set_option maxRecDepth 100000
section
variable (P : Program) (t : TypeId) (x y : Operand)
theorem gR (a b : UInt32) : ba P (do eqGuard .add t x y (.int .u32 a.toNat) (.int .u32 b.toNat); binOp .add t (.int .u32 a.toNat) (.int .u32 b.toNat)) = some (.int .u32 ((a + b).toNat : Int)) := by rw [cT, wN]
theorem gU (a b : UInt32) : ba P (do eqGuard .xor t x y (.int .u32 a.toNat) (.int .u32 b.toNat); binOp .xor t (.int .u32 a.toNat) (.int .u32 b.toNat)) = some (.int .u32 ((a ^^^ b).toNat : Int)) := by
 rw [gA]; exact congrArg (fun n => some (Value.int .u32 n)) (mg a b)
theorem nt (a b : UInt32) : ba P (do eqGuard .and t x y (.int .u32 a.toNat) (.int .u32 b.toNat); binOp .and t (.int .u32 a.toNat) (.int .u32 b.toNat)) = some (.int .u32 ((a &&& b).toNat : Int)) := by
 rw [kD]; exact congrArg (fun n => some (Value.int .u32 n)) (uC a b)
theorem zu (a : UInt32) : ba P (Op.unary .xor (.int .u32 a.toNat)) = some (.int .u32 ((~~~a).toNat : Int)) := by
 rw [← xh a]; rfl
theorem ru (n : Nat) {b : Int} (k2 : IntKind) (hb : b = (n : Int)) (hn : n ≤ 32) (a : UInt32) : ba P (do eqGuard .shr t x y (.int .u32 a.toNat) (.int k2 b); binOp .shr t (.int .u32 a.toNat) (.int k2 b)) = some (.int .u32 ((Sha.shr a n).toNat : Int)) := by
 rw [sj P t x y .u32 a.toNat b k2 (by omega), ← tL]
 subst hb
 have : min ((n : Int).toNat) IntKind.u32.bits = n := by show min _ 32 = n; omega
 rw [this, Int.fdiv_eq_ediv_of_nonneg _ (Int.le_of_lt (Int.pow_pos (by omega)))]
 norm_cast
theorem xF (p : Nat) (k2 : IntKind) (hp : p < 16777216) : ba P (do eqGuard .shl t x y (.int .u32 p) (.int k2 8); binOp .shl t (.int .u32 p) (.int k2 8)) = some (.int .u32 ((p * 256 : Nat) : Int)) := by
 have e : (2 : Int) ^ (min (8 : Int).toNat IntKind.u32.bits) = 256 := by decide
 rw [vm P t x y .u32 p 8 k2 (by omega), e, tv _ (by omega)]
 simp
theorem yU (p c : Nat) (hp : p < 16777216) (hc : c < 256) : ba P (do eqGuard .or t x y (.int .u32 ((p * 256 : Nat) : Int)) (.int .u32 c); binOp .or t (.int .u32 ((p * 256 : Nat) : Int)) (.int .u32 c)) = some (.int .u32 ((p * 256 + c : Nat) : Int)) := by
 rw [A0]
 have := uY p c hp hc
 rw [show (p : Int) * 256 % 4294967296 = ((p * 256 : Nat) : Int) by omega] at this
 exact congrArg (fun n => some (Value.int .u32 n)) this
end
theorem iq {n : Int} (m : Nat) (x : UInt32) (hn : n = m) (h1 : m ≤ 31) (G : Nat → Option D) : aq Tryd.prog G 92 [.v (.int .i64 n), .v (.int .u32 x.toNat)] (.v (.int .u32 (Sha.rotr x m).toNat)) := by
 intro C w vs hG hk ha
 obtain ⟨v, u, rfl, hv, hu⟩ := q7 ha
 rw [bj hv, bj hu]
 subst hn
 refine (wF m x w h1).mono ?_
 rintro e w' ⟨rfl, k, rfl⟩
 exact ⟨_, C, rfl, .of_below hk (below_drewN (Below.refl _ _) k), .v _⟩
theorem xz (G : Nat → Option D) : aq Tryd.prog G 77 [] (.agg 8 (Sha.begin8.map aM)) := by
 refine aq.of Tryd.func77 rfl Tryd.ntmps77 (by simp) ?_; intro F hF h0 hT; simp only [List.zipIdx_cons, List.zipIdx_nil, List.map_cons, List.map_nil, Nat.zero_add, Nat.reduceAdd]
 refine Sm.seq ?_
 refine ac hF rfl ?_
 refine SmG.new hF rfl rfl rfl (aT rfl rh) ?_
 refine SmG.nil ?_
 refine ag ?_
 refine Sm.seq ?_
 refine ac hF rfl ?_
 refine SmG.v hF rfl rfl rfl (fS rfl Tryd.underlying139 rfl (show _ = some (.d (.agg 8 (Sha.begin8.map aM))) from by kernel_rfl)) ?_
 refine SmG.store hF rfl rfl rfl rfl rfl (by simp (disch := omega) only [go_sem, Nat.reduceEqDiff, aP] <;> rfl) ?_
 refine SmG.nil ?_
 refine ag ?_
 refine Sm.ret ?_
 refine ⟨.agg 8 (Sha.begin8.map aM), ?_, D.le.refl _⟩
 kernel_rfl
theorem yr (G : Nat → Option D) : aq Tryd.prog G 91 [] (.agg 64 (Sha.keys64.map aM)) := by
 refine aq.of Tryd.func91 rfl Tryd.ntmps91 (by simp) ?_; intro F hF h0 hT; simp only [List.zipIdx_cons, List.zipIdx_nil, List.map_cons, List.map_nil, Nat.zero_add, Nat.reduceAdd]
 refine Sm.seq ?_
 refine ac hF rfl ?_
 refine SmG.new hF rfl rfl rfl (aT rfl pq) ?_
 refine SmG.nil ?_
 refine ag ?_
 refine Sm.seq ?_
 refine ac hF rfl ?_
 refine SmG.v hF rfl rfl rfl (fS rfl Tryd.underlying154 rfl (show _ = some (.d (.agg 64 (Sha.keys64.map aM))) from by kernel_rfl)) ?_
 refine SmG.store hF rfl rfl rfl rfl rfl (by simp (disch := omega) only [go_sem, Nat.reduceEqDiff, aP] <;> rfl) ?_
 refine SmG.nil ?_
 refine ag ?_
 refine Sm.ret ?_
 refine ⟨.agg 64 (Sha.keys64.map aM), ?_, D.le.refl _⟩
 kernel_rfl
abbrev dW (n : Nat) (l : List UInt32) : Blk := dB n [l.map aM]
theorem wC (l : List UInt32) (i z : Nat) (h : z < 4294967296) : (List.map V.d (List.map aM l)).set i (.d (.v (.int .u32 (z : Int)))) = List.map V.d (List.map aM (l.set i (UInt32.ofNat z))) := by
 rw [List.map_set, List.map_set]
 have : (UInt32.ofNat z).toNat = z := Nat.mod_eq_of_lt h
 rw [aM, this]
theorem qo (l : List UInt32) (i : Nat) (z : UInt32) : (List.map V.d (List.map aM l)).set i (.d (.v (.int .u32 (z.toNat : Int)))) = List.map V.d (List.map aM (l.set i z)) := by
 rw [List.map_set, List.map_set]; rfl
theorem gt (l : List UInt32) (i : Nat) (h : i < l.length) : l[i]? = some (l.getD i 0) := by simp [List.getD, h]
theorem wO (b : List UInt8) (hb : b.length = 64) (G : Nat → Option D) : aq Tryd.prog G 90 [bE b] (.agg 64 ((Sha.spread b).map aM)) := by
 refine aq.of Tryd.func90 rfl Tryd.ntmps90 (by simp) ?_; intro F hF h0 hT; simp only [List.zipIdx_cons, List.zipIdx_nil, List.map_cons, List.map_nil, Nat.zero_add, Nat.reduceAdd]
 refine Sm.seq ?_
 refine ac hF rfl ?_
 refine SmG.new hF rfl rfl rfl (aT rfl pq) ?_
 refine SmG.nil ?_
 refine ag ?_
 refine Sm.seq ?_
 refine ac hF rfl ?_
 refine SmG.v hF rfl rfl rfl (fS rfl Tryd.underlying154 rfl CJ) ?_
 refine SmG.new hF rfl rfl rfl (aT rfl pq) ?_
 refine SmG.store hF rfl rfl rfl rfl rfl (by simp (disch := omega) only [go_sem, Nat.reduceEqDiff, aP] <;> rfl) ?_
 refine SmG.nil ?_
 refine ag ?_
 refine Sm.seq ?_
 refine Sm.seq ?_
 refine ac hF rfl ?_
 refine SmG.v hF rfl rfl rfl (be rfl rfl) ?_
 refine SmG.nil ?_
 refine ag ?_
 refine Sm.block ?_
 refine Sm.loop (ι := {t : Nat // t ≤ 16}) (fun t => ⟨[(0, .d (bE b)), (2, .ref 0 0 0), (3, .ref 1 0 0), (4, .d (.v (.int .i64 t.1)))], [(1, dW 64 (Sha.fill b (4 * t.1))), (0, dW 64 (List.replicate 64 0))], 2⟩) (fun t => 16 - t.1) (⟨0, by omega⟩) ?_ ?_
 ·refine cZ (by simp [leE, look, bf]) ⟨?_, rfl, trivial⟩ (Nat.le_refl _)
  show _ = some (dW 64 (Sha.fill b 0))
  rw [Sha.fill_zero]; rfl
 rintro ⟨t, ht⟩
 simp only
 by_cases hlt : t < 16
 ·refine Sm.seq ?_
  refine Sm.seq ?_
  refine ac hF rfl ?_
  refine SmG.v hF rfl rfl rfl (aF rfl rfl) ?_
  refine SmG.v hF rfl rfl rfl (aJ rfl rfl rfl (by first | exact dK _ _ _ _ _ (by omega) | exact eh _ _ _ _ _ (by omega) | exact eE _ _ _ _ _ _ _)) ?_
  refine SmG.nil ?_
  refine ag ?_
  refine cQ hF rfl ?_
  refine Sm.skip ?_
  refine ag ?_
  refine Sm.seq ?_
  refine Sm.block ?_
  refine Sm.seq ?_
  refine ac hF rfl ?_
  refine SmG.v hF rfl rfl rfl (be rfl rfl) ?_
  refine SmG.nil ?_
  refine ag ?_
  refine Sm.block ?_
  refine Sm.loop (ι := {k : Nat // k ≤ 4}) (fun k => ⟨[(0, .d (bE b)), (2, .ref 0 0 0), (3, .ref 1 0 0), (4, .d (.v (.int .i64 t))), (5, .d (.v (.int .i64 k.1)))], [(1, dW 64 (Sha.fill b (4 * t + k.1))), (0, dW 64 (List.replicate 64 0))], 2⟩) (fun k => 4 - k.1) (⟨0, by omega⟩) ?_ ?_
  ·exact cZ (by simp [leE, look, bf]) (by simp [leH, look, rep]) (by first | exact Nat.le_refl _ | (dsimp only; omega))
  rintro ⟨k, hk⟩
  simp only
  by_cases hlk : k < 4
  ·have hpl : Sha.part b t k < 16777216 := Nat.lt_of_lt_of_le (Sha.part_lt b t k) (by
    have : (256 : Nat) ^ k ≤ 256 ^ 3 := Nat.pow_le_pow_right (by omega) (by omega)
    simpa using this)
   have hget : (Sha.fill b (4 * t + k))[t]? = some (UInt32.ofNat (Sha.part b t k)) := by
    rw [gt _ _ (by rw [Sha.fill_length]; omega), Sha.fill_get b _ t (by omega)]
    congr 3; omega
   have hw : (UInt32.ofNat (Sha.part b t k)).toNat = Sha.part b t k := Nat.mod_eq_of_lt (by omega)
   have hb1 : b[4 * t + k]? = some (b.getD (4 * t + k) 0) := by simp [List.getD, show 4 * t + k < b.length by omega]
   have hlb : (b.getD (4 * t + k) 0).toNat < 256 := (b.getD (4 * t + k) 0).toNat_lt
   have hset := Sha.fill_succ b (4 * t + k) (by omega)
   rw [show (4 * t + k) / 4 = t by omega, show (4 * t + k) % 4 = k by omega] at hset
   have hst := wC (Sha.fill b (4 * t + k)) t (Sha.part b t k * 256 + (b.getD (4 * t + k) 0).toNat) (by omega)
   rw [← hset] at hst
   generalize b.getD (4 * t + k) 0 = c at hb1 hlb hst
   generalize Sha.part b t k = p at hpl hget hw hst
   have hcast : (4 * (t : Int) + (k : Int)).toNat = 4 * t + k := by omega
   have e1 : 4 * t + (k + 1) = 4 * t + k + 1 := by omega
   refine Sm.seq ?_
   refine Sm.seq ?_
   refine ac hF rfl ?_
   refine SmG.v hF rfl rfl rfl (aF rfl rfl) ?_
   refine SmG.v hF rfl rfl rfl (aJ rfl rfl rfl (by first | exact dK _ _ _ _ _ (by omega) | exact eh _ _ _ _ _ (by omega) | exact eE _ _ _ _ _ _ _)) ?_
   refine SmG.nil ?_
   refine ag ?_
   refine cQ hF rfl ?_
   refine Sm.skip ?_
   refine ag ?_
   refine Sm.seq ?_
   refine Sm.block ?_
   refine bm hF (by kernel_rfl) rfl 15 (by kernel_rfl) (by kernel_rfl) ?_
   simp only [List.take_succ_cons, List.take_zero, List.take_nil]
   refine af.v hF rfl rfl rfl (aF rfl rfl) ?_
   refine af.v hF rfl rfl rfl (aF rfl rfl) ?_
   refine af.v hF rfl rfl rfl (aA rfl rfl rfl (by simp (disch := omega) only [go_sem, Nat.reduceEqDiff, aP, bE, aL, eJ, hget, hw, hb1, hcast, aM] <;> rfl)) ?_
   refine af.v hF rfl rfl rfl (bb rfl rfl (by simp (disch := omega) only [go_sem, Nat.reduceEqDiff, aP, bE, aL, eJ, hget, hw, hb1, hcast, aM] <;> rfl)) ?_
   refine af.v hF rfl rfl rfl (aJ rfl rfl rfl (xF _ _ _ _ p _ hpl)) ?_
   refine af.v hF rfl rfl rfl (aF rfl rfl) ?_
   refine af.v hF rfl rfl rfl (aF rfl rfl) ?_
   refine af.v hF rfl rfl rfl (aJ rfl rfl rfl (by first | exact o1 _ _ _ _ _ (cA _ (by omega)) | exact lJ _ _ _ _ _ _ _)) ?_
   refine af.v hF rfl rfl rfl (aF rfl rfl) ?_
   refine af.v hF rfl rfl rfl (aJ rfl rfl rfl (by first | exact gC _ _ _ _ _ (cA _ (by omega)) | exact cT _ _ _ _ _ _ _)) ?_
   refine af.v hF rfl rfl rfl (aA rfl rfl rfl (by simp (disch := omega) only [go_sem, Nat.reduceEqDiff, aP, bE, aL, eJ, hget, hw, hb1, hcast, aM] <;> rfl)) ?_
   refine af.v hF rfl rfl rfl (bb rfl rfl (by simp (disch := omega) only [go_sem, Nat.reduceEqDiff, aP, bE, aL, eJ, hget, hw, hb1, hcast, aM] <;> rfl)) ?_
   refine af.v hF rfl rfl rfl (kA rfl rfl (by first | exact dJ rfl rfl (tv _ (by omega)) | (simp (disch := omega) only [go_sem, bE, aL, eJ, hget, hw, hb1, hcast, aM] <;> rfl))) ?_
   refine af.v hF rfl rfl rfl (aJ rfl rfl rfl (yU _ _ _ _ p c.toNat hpl hlb)) ?_
   refine af.v hF rfl rfl rfl (aA rfl rfl rfl (by simp (disch := omega) only [go_sem, Nat.reduceEqDiff, aP, bE, aL, eJ, hget, hw, hb1, hcast, aM] <;> rfl)) ?_
   refine af.last ⟨rfl, ?_⟩
   simp only [List.drop_succ_cons, List.drop_zero, List.drop_nil, List.nil_append, List.cons_append]
   refine SmG.store hF rfl rfl rfl rfl rfl (by simp (disch := omega) only [go_sem, Nat.reduceEqDiff, aP, bE, aL, eJ, hget, hw, hb1, hcast, aM] <;> rfl) ?_
   refine SmG.nil ?_
   refine ay ?_
   refine ag ?_
   refine ac hF rfl ?_
   refine SmG.v hF rfl rfl rfl (aF rfl rfl) ?_
   refine SmG.v hF rfl rfl rfl (aJ rfl rfl rfl (by first | exact gC _ _ _ _ _ (cA _ (by omega)) | exact cT _ _ _ _ _ _ _)) ?_
   refine SmG.v hF rfl rfl rfl (be rfl rfl) ?_
   refine SmG.nil ?_
   refine ag ?_
   exact ⟨⟨k + 1, by omega⟩, by show 4 - (k + 1) < 4 - k; omega, by exact cZ (by first | (simp [leE, look, bf] <;> omega) | (simp [leE, look, bf, hst, e1] <;> omega)) (by simp only [leH, look, rep, reduceIte, Nat.reduceEqDiff, List.set_cons_zero, List.set_cons_succ, hst, e1, and_self, and_true, and_false, false_and, if_true, if_false] <;> (repeat' first | rfl | constructor)) (by first | exact Nat.le_refl _ | (dsimp only; omega))⟩
  ·obtain rfl : k = 4 := by omega
   refine Sm.seq ?_
   refine Sm.seq ?_
   refine ac hF rfl ?_
   refine SmG.v hF rfl rfl rfl (aF rfl rfl) ?_
   refine SmG.v hF rfl rfl rfl (aJ rfl rfl rfl (by first | exact dK _ _ _ _ _ (by omega) | exact eh _ _ _ _ _ (by omega) | exact eE _ _ _ _ _ _ _)) ?_
   refine SmG.nil ?_
   refine ag ?_
   refine cP hF rfl ?_
   refine Sm.exit ?_
   simp only [dt, gz, reduceIte, reduceCtorEq]
   refine ac hF rfl ?_
   refine SmG.v hF rfl rfl rfl (aF rfl rfl) ?_
   refine SmG.v hF rfl rfl rfl (aJ rfl rfl rfl (by first | exact gC _ _ _ _ _ (cA _ (by omega)) | exact cT _ _ _ _ _ _ _)) ?_
   refine SmG.v hF rfl rfl rfl (be rfl rfl) ?_
   refine SmG.nil ?_
   refine ag ?_
   exact ⟨⟨t + 1, by omega⟩, by show 16 - (t + 1) < 16 - t; omega, by exact cZ (by first | (simp [leE, look, bf] <;> omega) | (simp [leE, look, bf, show 4 * t + 4 = 4 * (t + 1) by omega] <;> omega)) (by simp only [leH, look, rep, reduceIte, Nat.reduceEqDiff, List.set_cons_zero, List.set_cons_succ, show 4 * t + 4 = 4 * (t + 1) by omega, and_self, and_true, and_false, false_and, if_true, if_false] <;> (repeat' first | rfl | constructor)) (by first | exact Nat.le_refl _ | (dsimp only; omega))⟩
 ·obtain rfl : t = 16 := by omega
  refine Sm.seq ?_
  refine Sm.seq ?_
  refine ac hF rfl ?_
  refine SmG.v hF rfl rfl rfl (aF rfl rfl) ?_
  refine SmG.v hF rfl rfl rfl (aJ rfl rfl rfl (by first | exact dK _ _ _ _ _ (by omega) | exact eh _ _ _ _ _ (by omega) | exact eE _ _ _ _ _ _ _)) ?_
  refine SmG.nil ?_
  refine ag ?_
  refine cP hF rfl ?_
  refine Sm.exit ?_
  simp only [dt, gz, reduceIte, reduceCtorEq]
  refine Sm.seq ?_
  refine Sm.seq ?_
  refine ac hF rfl ?_
  refine SmG.v hF rfl rfl rfl (be rfl rfl) ?_
  refine SmG.nil ?_
  refine ag ?_
  refine Sm.block ?_
  refine Sm.loop (ι := {t : Nat // 16 ≤ t ∧ t ≤ 64}) (fun t => ⟨[(0, .d (bE b)), (2, .ref 0 0 0), (3, .ref 1 0 0), (6, .d (.v (.int .i64 t.1)))], [(1, dW 64 (Sha.grown b t.1)), (0, dW 64 (List.replicate 64 0))], 2⟩) (fun t => 64 - t.1) (⟨16, by omega, by omega⟩) ?_ ?_
  ·refine cZ (by simp [leE, look, bf]) ⟨?_, rfl, trivial⟩ (Nat.le_refl _)
   show _ = some (dW 64 (Sha.grown b 16))
   rw [← Sha.grown_first]; rfl
  rintro ⟨t, ht, ht2⟩
  simp only
  by_cases hlt : t < 64
  ·have hln := Sha.grown_length b t ht ht2
   have h1 := gt (Sha.grown b t) (t - 16) (by omega)
   have h2 := gt (Sha.grown b t) (t - 7) (by omega)
   have h3 := gt (Sha.grown b t) (t - 15) (by omega)
   have h4 := gt (Sha.grown b t) (t - 2) (by omega)
   have hset := Sha.grown_succ b t ht hlt
   have hst := qo (Sha.grown b t) t ((Sha.grown b t).getD (t - 16) 0 + (Sha.grown b t).getD (t - 7) 0 + Sha.low ((Sha.grown b t).getD (t - 15) 0) + Sha.high ((Sha.grown b t).getD (t - 2) 0))
   rw [← hset] at hst
   generalize (Sha.grown b t).getD (t - 16) 0 = x1 at h1 hst
   generalize (Sha.grown b t).getD (t - 7) 0 = x2 at h2 hst
   generalize (Sha.grown b t).getD (t - 15) 0 = y at h3 hst
   generalize (Sha.grown b t).getD (t - 2) 0 = z at h4 hst
   simp only [Sha.low, Sha.high] at hst
   have c1 : ((t : Int) - 16).toNat = t - 16 := by omega
   have c2 : ((t : Int) - 7).toNat = t - 7 := by omega
   have c3 : ((t : Int) - 15).toNat = t - 15 := by omega
   have c4 : ((t : Int) - 2).toNat = t - 2 := by omega
   refine Sm.seq ?_
   refine Sm.seq ?_
   refine ac hF rfl ?_
   refine SmG.v hF rfl rfl rfl (aF rfl rfl) ?_
   refine SmG.v hF rfl rfl rfl (aJ rfl rfl rfl (by first | exact dK _ _ _ _ _ (by omega) | exact eh _ _ _ _ _ (by omega) | exact eE _ _ _ _ _ _ _)) ?_
   refine SmG.nil ?_
   refine ag ?_
   refine cQ hF rfl ?_
   refine Sm.skip ?_
   refine ag ?_
   refine Sm.seq ?_
   refine Sm.block ?_
   refine Sm.seq ?_
   refine ac hF rfl ?_
   refine SmG.v hF rfl rfl rfl (aF rfl rfl) ?_
   refine SmG.v hF rfl rfl rfl (aJ rfl rfl rfl (by first | exact lK _ _ _ _ _ (cA _ (by omega)) | exact jM _ _ _ _ _ _ _)) ?_
   refine SmG.v hF rfl rfl rfl (aA rfl rfl rfl (by simp (disch := omega) only [go_sem, Nat.reduceEqDiff, aP, aM, h1, h2, h3, h4, c1, c2, c3, c4] <;> rfl)) ?_
   refine SmG.v hF rfl rfl rfl (bb rfl rfl (by simp (disch := omega) only [go_sem, Nat.reduceEqDiff, aP, aM, h1, h2, h3, h4, c1, c2, c3, c4] <;> rfl)) ?_
   refine SmG.v hF rfl rfl rfl (be rfl rfl) ?_
   refine SmG.nil ?_
   refine ag ?_
   refine Sm.seq ?_
   refine ac hF rfl ?_
   refine SmG.v hF rfl rfl rfl (aF rfl rfl) ?_
   refine SmG.v hF rfl rfl rfl (aJ rfl rfl rfl (by first | exact lK _ _ _ _ _ (cA _ (by omega)) | exact jM _ _ _ _ _ _ _)) ?_
   refine SmG.v hF rfl rfl rfl (aA rfl rfl rfl (by simp (disch := omega) only [go_sem, Nat.reduceEqDiff, aP, aM, h1, h2, h3, h4, c1, c2, c3, c4] <;> rfl)) ?_
   refine SmG.v hF rfl rfl rfl (bb rfl rfl (by simp (disch := omega) only [go_sem, Nat.reduceEqDiff, aP, aM, h1, h2, h3, h4, c1, c2, c3, c4] <;> rfl)) ?_
   refine SmG.v hF rfl rfl rfl (be rfl rfl) ?_
   refine SmG.nil ?_
   refine ag ?_
   refine bm hF (by kernel_rfl) rfl 29 (by kernel_rfl) (by kernel_rfl) ?_
   simp only [List.take_succ_cons, List.take_zero, List.take_nil]
   refine af.v hF rfl rfl rfl (aF rfl rfl) ?_
   refine af.v hF rfl rfl rfl (aF rfl rfl) ?_
   refine af.v hF rfl rfl rfl (aJ rfl rfl rfl (by first | exact lK _ _ _ _ _ (cA _ (by omega)) | exact jM _ _ _ _ _ _ _)) ?_
   refine af.v hF rfl rfl rfl (aA rfl rfl rfl (by simp (disch := omega) only [go_sem, Nat.reduceEqDiff, aP, aM, h1, h2, h3, h4, c1, c2, c3, c4] <;> rfl)) ?_
   refine af.v hF rfl rfl rfl (bb rfl rfl (by simp (disch := omega) only [go_sem, Nat.reduceEqDiff, aP, aM, h1, h2, h3, h4, c1, c2, c3, c4] <;> rfl)) ?_
   refine af.v hF rfl rfl rfl (aF rfl rfl) ?_
   refine af.v hF rfl rfl rfl (aJ rfl rfl rfl (by first | exact lK _ _ _ _ _ (cA _ (by omega)) | exact jM _ _ _ _ _ _ _)) ?_
   refine af.v hF rfl rfl rfl (aA rfl rfl rfl (by simp (disch := omega) only [go_sem, Nat.reduceEqDiff, aP, aM, h1, h2, h3, h4, c1, c2, c3, c4] <;> rfl)) ?_
   refine af.v hF rfl rfl rfl (bb rfl rfl (by simp (disch := omega) only [go_sem, Nat.reduceEqDiff, aP, aM, h1, h2, h3, h4, c1, c2, c3, c4] <;> rfl)) ?_
   refine af.v hF rfl rfl rfl (aJ rfl rfl rfl (by first | exact gR _ _ _ _ _ _ | exact cT _ _ _ _ _ _ _)) ?_
   refine af.v hF rfl rfl rfl (aF rfl rfl) ?_
   refine af.c hF rfl rfl (by kernel_rfl) rfl rfl rfl (iq 7 y rfl (by omega) G) ?_
   refine af.v hF rfl rfl rfl (aF rfl rfl) ?_
   refine af.c hF rfl rfl (by kernel_rfl) rfl rfl rfl (iq 18 y rfl (by omega) G) ?_
   refine af.v hF rfl rfl rfl (aJ rfl rfl rfl (by first | exact gU _ _ _ _ _ _ | exact gA _ _ _ _ _ _ _)) ?_
   refine af.v hF rfl rfl rfl (aF rfl rfl) ?_
   refine af.v hF rfl rfl rfl (aJ rfl rfl rfl (ru _ _ _ _ 3 _ rfl (by omega) y)) ?_
   refine af.v hF rfl rfl rfl (aJ rfl rfl rfl (by first | exact gU _ _ _ _ _ _ | exact gA _ _ _ _ _ _ _)) ?_
   refine af.v hF rfl rfl rfl (aJ rfl rfl rfl (by first | exact gR _ _ _ _ _ _ | exact cT _ _ _ _ _ _ _)) ?_
   refine af.v hF rfl rfl rfl (aF rfl rfl) ?_
   refine af.c hF rfl rfl (by kernel_rfl) rfl rfl rfl (iq 17 z rfl (by omega) G) ?_
   refine af.v hF rfl rfl rfl (aF rfl rfl) ?_
   refine af.c hF rfl rfl (by kernel_rfl) rfl rfl rfl (iq 19 z rfl (by omega) G) ?_
   refine af.v hF rfl rfl rfl (aJ rfl rfl rfl (by first | exact gU _ _ _ _ _ _ | exact gA _ _ _ _ _ _ _)) ?_
   refine af.v hF rfl rfl rfl (aF rfl rfl) ?_
   refine af.v hF rfl rfl rfl (aJ rfl rfl rfl (ru _ _ _ _ 10 _ rfl (by omega) z)) ?_
   refine af.v hF rfl rfl rfl (aJ rfl rfl rfl (by first | exact gU _ _ _ _ _ _ | exact gA _ _ _ _ _ _ _)) ?_
   refine af.v hF rfl rfl rfl (aJ rfl rfl rfl (by first | exact gR _ _ _ _ _ _ | exact cT _ _ _ _ _ _ _)) ?_
   refine af.v hF rfl rfl rfl (aA rfl rfl rfl (by simp (disch := omega) only [go_sem, Nat.reduceEqDiff, aP, aM, h1, h2, h3, h4, c1, c2, c3, c4] <;> rfl)) ?_
   refine af.last ⟨rfl, ?_⟩
   simp only [List.drop_succ_cons, List.drop_zero, List.drop_nil, List.nil_append, List.cons_append]
   refine SmG.store hF rfl rfl rfl rfl rfl (by simp (disch := omega) only [go_sem, Nat.reduceEqDiff, aP, aM, h1, h2, h3, h4, c1, c2, c3, c4] <;> rfl) ?_
   refine SmG.nil ?_
   refine ay ?_
   refine ag ?_
   refine ac hF rfl ?_
   refine SmG.v hF rfl rfl rfl (aF rfl rfl) ?_
   refine SmG.v hF rfl rfl rfl (aJ rfl rfl rfl (by first | exact gC _ _ _ _ _ (cA _ (by omega)) | exact cT _ _ _ _ _ _ _)) ?_
   refine SmG.v hF rfl rfl rfl (be rfl rfl) ?_
   refine SmG.nil ?_
   refine ag ?_
   exact ⟨⟨t + 1, by omega, by omega⟩, by show 64 - (t + 1) < 64 - t; omega, by exact cZ (by first | (simp [leE, look, bf] <;> omega) | (simp [leE, look, bf, hst] <;> omega)) (by simp only [leH, look, rep, reduceIte, Nat.reduceEqDiff, List.set_cons_zero, List.set_cons_succ, hst, and_self, and_true, and_false, false_and, if_true, if_false] <;> (repeat' first | rfl | constructor)) (by first | exact Nat.le_refl _ | (dsimp only; omega))⟩
  ·obtain rfl : t = 64 := by omega
   have hln := Sha.grown_length b 64 ht ht2
   have hll : (List.map aM (Sha.grown b 64)).length = 64 := by rw [List.length_map, hln]
   refine Sm.seq ?_
   refine Sm.seq ?_
   refine ac hF rfl ?_
   refine SmG.v hF rfl rfl rfl (aF rfl rfl) ?_
   refine SmG.v hF rfl rfl rfl (aJ rfl rfl rfl (by first | exact dK _ _ _ _ _ (by omega) | exact eh _ _ _ _ _ (by omega) | exact eE _ _ _ _ _ _ _)) ?_
   refine SmG.nil ?_
   refine ag ?_
   refine cP hF rfl ?_
   refine Sm.exit ?_
   simp only [dt, gz, reduceIte, reduceCtorEq]
   refine Sm.seq ?_
   refine ac hF rfl ?_
   refine SmG.v hF rfl rfl rfl (bb rfl rfl (by simp (disch := omega) only [go_sem, Nat.reduceEqDiff, aP, aM] <;> rfl)) ?_
   refine SmG.store hF rfl rfl rfl rfl rfl (by simp (disch := omega) only [go_sem, Nat.reduceEqDiff, aP, aM] <;> rfl) ?_
   refine SmG.nil ?_
   refine ag ?_
   refine Sm.ret ?_
   refine kZ rfl rfl (by simp (disch := omega) only [go_sem, Nat.reduceEqDiff, aP, hll] <;> rfl) ?_
   rw [Sha.grown_last]; exact D.le.refl _
end
section
open Go.RowKit
set_option maxRecDepth 100000
def iy (c s : List UInt32) (i : Nat) : List UInt32 := (List.zipWith (· + ·) c s).take i ++ c.drop i
theorem pa (c s : List UInt32) : iy c s 0 = c := by simp [iy]
theorem uU (c s : List UInt32) (i : Nat) (hl : c.length = s.length) (hi : i < c.length) : (iy c s i)[i]? = some (c.getD i 0) := by
 unfold iy
 have : ((List.zipWith (· + ·) c s).take i).length = i := by simp [hl]; omega
 rw [List.getElem?_append_right (by omega), this, Nat.sub_self, List.getElem?_drop]
 simp [List.getD, hi]
theorem uJ (c s : List UInt32) (i : Nat) (hl : c.length = s.length) (hi : i < c.length) : (iy c s i).set i (c.getD i 0 + s.getD i 0) = iy c s (i + 1) := by
 unfold iy
 have h1 : ((List.zipWith (· + ·) c s).take i).length = i := by simp [hl]; omega
 rw [List.set_append_right _ _ (by omega), h1, Nat.sub_self, List.drop_eq_getElem_cons hi, List.set_cons_zero, List.take_succ_eq_append_getElem (by simp; omega)]
 simp [List.getD, hi, show i < s.length by omega]
theorem vr (c s : List UInt32) (hl : c.length = s.length) : iy c s c.length = List.zipWith (· + ·) c s := by
 unfold iy
 rw [List.take_of_length_le (by simp; omega), List.drop_length, List.append_nil]
theorem ta (w : List UInt32) (s : Sha.S8) (n : Nat) : Sha.rounds w s (n + 1) = Sha.round (Sha.rounds w s n) (Sha.keys64.getD n 0) (w.getD n 0) := rfl
theorem sF (a0 a1 a2 a3 a4 a5 a6 a7 : Int) : eK Tryd.prog 139 [(0, V.d (.v (.int .u32 a0))), (1, V.d (.v (.int .u32 a1))), (2, V.d (.v (.int .u32 a2))), (3, V.d (.v (.int .u32 a3))), (4, V.d (.v (.int .u32 a4))), (5, V.d (.v (.int .u32 a5))), (6, V.d (.v (.int .u32 a6))), (7, V.d (.v (.int .u32 a7)))] = some (.d (.agg 8 [.v (.int .u32 a0), .v (.int .u32 a1), .v (.int .u32 a2), .v (.int .u32 a3), .v (.int .u32 a4), .v (.int .u32 a5), .v (.int .u32 a6), .v (.int .u32 a7)])) := by kernel_rfl
set_option maxHeartbeats 4000000 in
theorem yJ (S : Sha.S8) (b : List UInt8) (hb : b.length = 64) (G : Nat → Option D) : aq Tryd.prog G 78 [.agg 8 (S.list.map aM), bE b] (.agg 8 ((Sha.after S b).list.map aM)) := by
 have hkeys := yr G
 have hks := ta (Sha.spread b) S
 have hkl : Sha.keys64.length = 64 := by decide
 have haf : Sha.after S b = Sha.plus S (Sha.rounds (Sha.spread b) S 64) := rfl
 generalize Sha.keys64 = K at hkeys hks hkl
 have hwl : (Sha.spread b).length = 64 := by rw [← Sha.grown_last, Sha.grown_length b 64 (by omega) (by omega)]
 have hSl : S.list.length = 8 := rfl
 have hKl : (List.map aM K).length = 64 := by rw [List.length_map, hkl]
 have hWl : (List.map aM (Sha.spread b)).length = 64 := by rw [List.length_map, hwl]
 have hSS : (List.map aM S.list).length = 8 := by rw [List.length_map, hSl]
 refine aq.of Tryd.func78 rfl Tryd.ntmps78 (by simp) ?_; intro F hF h0 hT; simp only [List.zipIdx_cons, List.zipIdx_nil, List.map_cons, List.map_nil, Nat.zero_add, Nat.reduceAdd]
 refine Sm.seq ?_
 refine ac hF rfl ?_
 refine SmG.new hF rfl rfl rfl (xp rfl rfl (by simp (disch := omega) only [go_sem, Nat.reduceEqDiff, aP, aM] <;> rfl)) ?_
 refine SmG.new hF rfl rfl rfl (aT rfl rh) ?_
 refine SmG.nil ?_
 refine ag ?_
 refine Sm.seq ?_
 refine ac hF rfl ?_
 refine SmG.v hF rfl rfl rfl (aF rfl rfl) ?_
 refine SmG.call hF rfl rfl (by kernel_rfl) rfl rfl rfl (wO b hb G) ?_
 refine SmG.new hF rfl rfl rfl (aT rfl pq) ?_
 refine SmG.store hF rfl rfl rfl rfl rfl (by simp (disch := omega) only [go_sem, Nat.reduceEqDiff, aP, aM] <;> rfl) ?_
 refine SmG.nil ?_
 refine ag ?_
 refine Sm.seq ?_
 refine ac hF rfl ?_
 refine SmG.call hF rfl rfl (by kernel_rfl) rfl rfl rfl (hkeys) ?_
 refine SmG.new hF rfl rfl rfl (aT rfl pq) ?_
 refine SmG.store hF rfl rfl rfl rfl rfl (by simp (disch := omega) only [go_sem, Nat.reduceEqDiff, aP, aM] <;> rfl) ?_
 refine SmG.nil ?_
 refine ag ?_
 refine Sm.seq ?_
 refine ac hF rfl ?_
 refine SmG.v hF rfl rfl rfl (bb rfl rfl (by simp (disch := omega) only [go_sem, Nat.reduceEqDiff, aP, aM] <;> rfl)) ?_
 refine SmG.new hF rfl rfl rfl (aT rfl rh) ?_
 refine SmG.store hF rfl rfl rfl rfl rfl (by simp (disch := omega) only [go_sem, Nat.reduceEqDiff, aP, aM] <;> rfl) ?_
 refine SmG.nil ?_
 refine ag ?_
 refine Sm.seq ?_
 refine Sm.seq ?_
 refine ac hF rfl ?_
 refine SmG.v hF rfl rfl rfl (be rfl rfl) ?_
 refine SmG.nil ?_
 refine ag ?_
 refine Sm.block ?_
 generalize hW : Sha.spread b = W at hks haf hwl hWl ⊢
 refine Sm.loop (ι := {t : Nat // t ≤ 64}) (fun t => ⟨[(2, .ref 0 0 0), (4, .ref 1 0 0), (5, .ref 2 0 0), (6, .ref 3 0 0), (7, .ref 4 0 0), (8, .d (.v (.int .i64 t.1)))], [(4, dW 8 (Sha.rounds W S t.1).list), (3, dW 64 K), (2, dW 64 W), (1, dW 8 (List.replicate 8 0)), (0, dW 8 S.list)], 5⟩) (fun t => 64 - t.1) (⟨0, by omega⟩) ?_ ?_
 ·exact cZ (by first | (simp [leE, look, bf] <;> omega) | (simp [leE, look, bf, true_and] <;> omega)) (by simp only [leH, look, rep, reduceIte, Nat.reduceEqDiff, List.set_cons_zero, List.set_cons_succ, true_and, and_self, and_true, and_false, false_and, if_true, if_false] <;> (repeat' first | rfl | constructor)) (by first | exact Nat.le_refl _ | (dsimp only; omega))
 rintro ⟨t, ht⟩
 simp only
 by_cases hlt : t < 64
 ·have hk1 := gt K t (by omega)
  have hw1 := gt W t (by omega)
  have hs := hks t
  generalize K.getD t 0 = k at hk1 hs
  generalize W.getD t 0 = x at hw1 hs
  generalize Sha.rounds W S t = c at hs ⊢
  rcases c with ⟨a, b1, c, d, e, f, g, h⟩
  have hrow : (Sha.rounds W S (t + 1)).list = [Sha.tx ⟨a, b1, c, d, e, f, g, h⟩ k x + Sha.ty ⟨a, b1, c, d, e, f, g, h⟩, a, b1, c, d + Sha.tx ⟨a, b1, c, d, e, f, g, h⟩ k x, e, f, g] := by rw [hs]; rfl
  simp only [Sha.tx, Sha.ty, Sha.rot3] at hrow
  rw [show Sha.S8.list ⟨a, b1, c, d, e, f, g, h⟩ = [a, b1, c, d, e, f, g, h] from rfl]
  refine Sm.seq ?_
  refine Sm.seq ?_
  refine ac hF rfl ?_
  refine SmG.v hF rfl rfl rfl (aF rfl rfl) ?_
  refine SmG.v hF rfl rfl rfl (aJ rfl rfl rfl (by first | exact dK _ _ _ _ _ (by omega) | exact eh _ _ _ _ _ (by omega) | exact eE _ _ _ _ _ _ _)) ?_
  refine SmG.nil ?_
  refine ag ?_
  refine cQ hF rfl ?_
  refine Sm.skip ?_
  refine ag ?_
  refine Sm.seq ?_
  refine Sm.block ?_
  refine Sm.seq ?_
  refine bm hF (by kernel_rfl) rfl 36 (by kernel_rfl) (by kernel_rfl) ?_
  simp only [List.take_succ_cons, List.take_zero, List.take_nil]
  refine af.v hF rfl rfl rfl (aA rfl rfl rfl (by simp (disch := omega) only [go_sem, Nat.reduceEqDiff, aP, aM, hk1, hw1, hkl, hwl] <;> rfl)) ?_
  refine af.v hF rfl rfl rfl (bb rfl rfl (by simp (disch := omega) only [go_sem, Nat.reduceEqDiff, aP, aM, hk1, hw1, hkl, hwl] <;> rfl)) ?_
  refine af.v hF rfl rfl rfl (aA rfl rfl rfl (by simp (disch := omega) only [go_sem, Nat.reduceEqDiff, aP, aM, hk1, hw1, hkl, hwl] <;> rfl)) ?_
  refine af.v hF rfl rfl rfl (bb rfl rfl (by simp (disch := omega) only [go_sem, Nat.reduceEqDiff, aP, aM, hk1, hw1, hkl, hwl] <;> rfl)) ?_
  refine af.c hF rfl rfl (by kernel_rfl) rfl rfl rfl (iq 6 e rfl (by omega) G) ?_
  refine af.v hF rfl rfl rfl (aA rfl rfl rfl (by simp (disch := omega) only [go_sem, Nat.reduceEqDiff, aP, aM, hk1, hw1, hkl, hwl] <;> rfl)) ?_
  refine af.v hF rfl rfl rfl (bb rfl rfl (by simp (disch := omega) only [go_sem, Nat.reduceEqDiff, aP, aM, hk1, hw1, hkl, hwl] <;> rfl)) ?_
  refine af.c hF rfl rfl (by kernel_rfl) rfl rfl rfl (iq 11 e rfl (by omega) G) ?_
  refine af.v hF rfl rfl rfl (aJ rfl rfl rfl (by first | exact gU _ _ _ _ _ _ | exact gA _ _ _ _ _ _ _)) ?_
  refine af.v hF rfl rfl rfl (aA rfl rfl rfl (by simp (disch := omega) only [go_sem, Nat.reduceEqDiff, aP, aM, hk1, hw1, hkl, hwl] <;> rfl)) ?_
  refine af.v hF rfl rfl rfl (bb rfl rfl (by simp (disch := omega) only [go_sem, Nat.reduceEqDiff, aP, aM, hk1, hw1, hkl, hwl] <;> rfl)) ?_
  refine af.c hF rfl rfl (by kernel_rfl) rfl rfl rfl (iq 25 e rfl (by omega) G) ?_
  refine af.v hF rfl rfl rfl (aJ rfl rfl rfl (by first | exact gU _ _ _ _ _ _ | exact gA _ _ _ _ _ _ _)) ?_
  refine af.v hF rfl rfl rfl (aJ rfl rfl rfl (by first | exact gR _ _ _ _ _ _ | exact cT _ _ _ _ _ _ _)) ?_
  refine af.v hF rfl rfl rfl (aA rfl rfl rfl (by simp (disch := omega) only [go_sem, Nat.reduceEqDiff, aP, aM, hk1, hw1, hkl, hwl] <;> rfl)) ?_
  refine af.v hF rfl rfl rfl (bb rfl rfl (by simp (disch := omega) only [go_sem, Nat.reduceEqDiff, aP, aM, hk1, hw1, hkl, hwl] <;> rfl)) ?_
  refine af.v hF rfl rfl rfl (aA rfl rfl rfl (by simp (disch := omega) only [go_sem, Nat.reduceEqDiff, aP, aM, hk1, hw1, hkl, hwl] <;> rfl)) ?_
  refine af.v hF rfl rfl rfl (bb rfl rfl (by simp (disch := omega) only [go_sem, Nat.reduceEqDiff, aP, aM, hk1, hw1, hkl, hwl] <;> rfl)) ?_
  refine af.v hF rfl rfl rfl (aJ rfl rfl rfl (by first | exact nt _ _ _ _ _ _ | exact kD _ _ _ _ _ _ _)) ?_
  refine af.v hF rfl rfl rfl (aA rfl rfl rfl (by simp (disch := omega) only [go_sem, Nat.reduceEqDiff, aP, aM, hk1, hw1, hkl, hwl] <;> rfl)) ?_
  refine af.v hF rfl rfl rfl (bb rfl rfl (by simp (disch := omega) only [go_sem, Nat.reduceEqDiff, aP, aM, hk1, hw1, hkl, hwl] <;> rfl)) ?_
  refine af.v hF rfl rfl rfl (iU rfl rfl (zu _ _)) ?_
  refine af.v hF rfl rfl rfl (aA rfl rfl rfl (by simp (disch := omega) only [go_sem, Nat.reduceEqDiff, aP, aM, hk1, hw1, hkl, hwl] <;> rfl)) ?_
  refine af.v hF rfl rfl rfl (bb rfl rfl (by simp (disch := omega) only [go_sem, Nat.reduceEqDiff, aP, aM, hk1, hw1, hkl, hwl] <;> rfl)) ?_
  refine af.v hF rfl rfl rfl (aJ rfl rfl rfl (by first | exact nt _ _ _ _ _ _ | exact kD _ _ _ _ _ _ _)) ?_
  refine af.v hF rfl rfl rfl (aJ rfl rfl rfl (by first | exact gU _ _ _ _ _ _ | exact gA _ _ _ _ _ _ _)) ?_
  refine af.v hF rfl rfl rfl (aJ rfl rfl rfl (by first | exact gR _ _ _ _ _ _ | exact cT _ _ _ _ _ _ _)) ?_
  refine af.v hF rfl rfl rfl (aF rfl rfl) ?_
  refine af.v hF rfl rfl rfl (aA rfl rfl rfl (by simp (disch := omega) only [go_sem, Nat.reduceEqDiff, aP, aM, hk1, hw1, hkl, hwl] <;> rfl)) ?_
  refine af.v hF rfl rfl rfl (bb rfl rfl (by simp (disch := omega) only [go_sem, Nat.reduceEqDiff, aP, aM, hk1, hw1, hkl, hwl] <;> rfl)) ?_
  refine af.v hF rfl rfl rfl (aJ rfl rfl rfl (by first | exact gR _ _ _ _ _ _ | exact cT _ _ _ _ _ _ _)) ?_
  refine af.v hF rfl rfl rfl (aF rfl rfl) ?_
  refine af.v hF rfl rfl rfl (aA rfl rfl rfl (by simp (disch := omega) only [go_sem, Nat.reduceEqDiff, aP, aM, hk1, hw1, hkl, hwl] <;> rfl)) ?_
  refine af.v hF rfl rfl rfl (bb rfl rfl (by simp (disch := omega) only [go_sem, Nat.reduceEqDiff, aP, aM, hk1, hw1, hkl, hwl] <;> rfl)) ?_
  refine af.v hF rfl rfl rfl (aJ rfl rfl rfl (by first | exact gR _ _ _ _ _ _ | exact cT _ _ _ _ _ _ _)) ?_
  refine af.v hF rfl rfl rfl (be rfl rfl) ?_
  refine af.last ⟨rfl, ?_⟩
  simp only [List.drop_succ_cons, List.drop_zero, List.drop_nil, List.nil_append, List.cons_append]
  refine SmG.nil ?_
  refine ag ?_
  refine Sm.seq ?_
  refine bm hF (by kernel_rfl) rfl 30 (by kernel_rfl) (by kernel_rfl) ?_
  simp only [List.take_succ_cons, List.take_zero, List.take_nil]
  refine af.v hF rfl rfl rfl (aA rfl rfl rfl (by simp (disch := omega) only [go_sem, Nat.reduceEqDiff, aP, aM, hk1, hw1, hkl, hwl] <;> rfl)) ?_
  refine af.v hF rfl rfl rfl (bb rfl rfl (by simp (disch := omega) only [go_sem, Nat.reduceEqDiff, aP, aM, hk1, hw1, hkl, hwl] <;> rfl)) ?_
  refine af.c hF rfl rfl (by kernel_rfl) rfl rfl rfl (iq 2 a rfl (by omega) G) ?_
  refine af.v hF rfl rfl rfl (aA rfl rfl rfl (by simp (disch := omega) only [go_sem, Nat.reduceEqDiff, aP, aM, hk1, hw1, hkl, hwl] <;> rfl)) ?_
  refine af.v hF rfl rfl rfl (bb rfl rfl (by simp (disch := omega) only [go_sem, Nat.reduceEqDiff, aP, aM, hk1, hw1, hkl, hwl] <;> rfl)) ?_
  refine af.c hF rfl rfl (by kernel_rfl) rfl rfl rfl (iq 13 a rfl (by omega) G) ?_
  refine af.v hF rfl rfl rfl (aJ rfl rfl rfl (by first | exact gU _ _ _ _ _ _ | exact gA _ _ _ _ _ _ _)) ?_
  refine af.v hF rfl rfl rfl (aA rfl rfl rfl (by simp (disch := omega) only [go_sem, Nat.reduceEqDiff, aP, aM, hk1, hw1, hkl, hwl] <;> rfl)) ?_
  refine af.v hF rfl rfl rfl (bb rfl rfl (by simp (disch := omega) only [go_sem, Nat.reduceEqDiff, aP, aM, hk1, hw1, hkl, hwl] <;> rfl)) ?_
  refine af.c hF rfl rfl (by kernel_rfl) rfl rfl rfl (iq 22 a rfl (by omega) G) ?_
  refine af.v hF rfl rfl rfl (aJ rfl rfl rfl (by first | exact gU _ _ _ _ _ _ | exact gA _ _ _ _ _ _ _)) ?_
  refine af.v hF rfl rfl rfl (aA rfl rfl rfl (by simp (disch := omega) only [go_sem, Nat.reduceEqDiff, aP, aM, hk1, hw1, hkl, hwl] <;> rfl)) ?_
  refine af.v hF rfl rfl rfl (bb rfl rfl (by simp (disch := omega) only [go_sem, Nat.reduceEqDiff, aP, aM, hk1, hw1, hkl, hwl] <;> rfl)) ?_
  refine af.v hF rfl rfl rfl (aA rfl rfl rfl (by simp (disch := omega) only [go_sem, Nat.reduceEqDiff, aP, aM, hk1, hw1, hkl, hwl] <;> rfl)) ?_
  refine af.v hF rfl rfl rfl (bb rfl rfl (by simp (disch := omega) only [go_sem, Nat.reduceEqDiff, aP, aM, hk1, hw1, hkl, hwl] <;> rfl)) ?_
  refine af.v hF rfl rfl rfl (aJ rfl rfl rfl (by first | exact nt _ _ _ _ _ _ | exact kD _ _ _ _ _ _ _)) ?_
  refine af.v hF rfl rfl rfl (aA rfl rfl rfl (by simp (disch := omega) only [go_sem, Nat.reduceEqDiff, aP, aM, hk1, hw1, hkl, hwl] <;> rfl)) ?_
  refine af.v hF rfl rfl rfl (bb rfl rfl (by simp (disch := omega) only [go_sem, Nat.reduceEqDiff, aP, aM, hk1, hw1, hkl, hwl] <;> rfl)) ?_
  refine af.v hF rfl rfl rfl (aA rfl rfl rfl (by simp (disch := omega) only [go_sem, Nat.reduceEqDiff, aP, aM, hk1, hw1, hkl, hwl] <;> rfl)) ?_
  refine af.v hF rfl rfl rfl (bb rfl rfl (by simp (disch := omega) only [go_sem, Nat.reduceEqDiff, aP, aM, hk1, hw1, hkl, hwl] <;> rfl)) ?_
  refine af.v hF rfl rfl rfl (aJ rfl rfl rfl (by first | exact nt _ _ _ _ _ _ | exact kD _ _ _ _ _ _ _)) ?_
  refine af.v hF rfl rfl rfl (aJ rfl rfl rfl (by first | exact gU _ _ _ _ _ _ | exact gA _ _ _ _ _ _ _)) ?_
  refine af.v hF rfl rfl rfl (aA rfl rfl rfl (by simp (disch := omega) only [go_sem, Nat.reduceEqDiff, aP, aM, hk1, hw1, hkl, hwl] <;> rfl)) ?_
  refine af.v hF rfl rfl rfl (bb rfl rfl (by simp (disch := omega) only [go_sem, Nat.reduceEqDiff, aP, aM, hk1, hw1, hkl, hwl] <;> rfl)) ?_
  refine af.v hF rfl rfl rfl (aA rfl rfl rfl (by simp (disch := omega) only [go_sem, Nat.reduceEqDiff, aP, aM, hk1, hw1, hkl, hwl] <;> rfl)) ?_
  refine af.v hF rfl rfl rfl (bb rfl rfl (by simp (disch := omega) only [go_sem, Nat.reduceEqDiff, aP, aM, hk1, hw1, hkl, hwl] <;> rfl)) ?_
  refine af.v hF rfl rfl rfl (aJ rfl rfl rfl (by first | exact nt _ _ _ _ _ _ | exact kD _ _ _ _ _ _ _)) ?_
  refine af.v hF rfl rfl rfl (aJ rfl rfl rfl (by first | exact gU _ _ _ _ _ _ | exact gA _ _ _ _ _ _ _)) ?_
  refine af.v hF rfl rfl rfl (aJ rfl rfl rfl (by first | exact gR _ _ _ _ _ _ | exact cT _ _ _ _ _ _ _)) ?_
  refine af.v hF rfl rfl rfl (be rfl rfl) ?_
  refine af.last ⟨rfl, ?_⟩
  simp only [List.drop_succ_cons, List.drop_zero, List.drop_nil, List.nil_append, List.cons_append]
  refine SmG.nil ?_
  refine ag ?_
  refine ac hF rfl ?_
  refine SmG.v hF rfl rfl rfl (aF rfl rfl) ?_
  refine SmG.v hF rfl rfl rfl (aF rfl rfl) ?_
  refine SmG.v hF rfl rfl rfl (aJ rfl rfl rfl (by first | exact gR _ _ _ _ _ _ | exact cT _ _ _ _ _ _ _)) ?_
  refine SmG.v hF rfl rfl rfl (aA rfl rfl rfl (by simp (disch := omega) only [go_sem, Nat.reduceEqDiff, aP, aM, hk1, hw1, hkl, hwl] <;> rfl)) ?_
  refine SmG.v hF rfl rfl rfl (bb rfl rfl (by simp (disch := omega) only [go_sem, Nat.reduceEqDiff, aP, aM, hk1, hw1, hkl, hwl] <;> rfl)) ?_
  refine SmG.v hF rfl rfl rfl (aA rfl rfl rfl (by simp (disch := omega) only [go_sem, Nat.reduceEqDiff, aP, aM, hk1, hw1, hkl, hwl] <;> rfl)) ?_
  refine SmG.v hF rfl rfl rfl (bb rfl rfl (by simp (disch := omega) only [go_sem, Nat.reduceEqDiff, aP, aM, hk1, hw1, hkl, hwl] <;> rfl)) ?_
  refine SmG.v hF rfl rfl rfl (aA rfl rfl rfl (by simp (disch := omega) only [go_sem, Nat.reduceEqDiff, aP, aM, hk1, hw1, hkl, hwl] <;> rfl)) ?_
  refine SmG.v hF rfl rfl rfl (bb rfl rfl (by simp (disch := omega) only [go_sem, Nat.reduceEqDiff, aP, aM, hk1, hw1, hkl, hwl] <;> rfl)) ?_
  refine SmG.v hF rfl rfl rfl (aA rfl rfl rfl (by simp (disch := omega) only [go_sem, Nat.reduceEqDiff, aP, aM, hk1, hw1, hkl, hwl] <;> rfl)) ?_
  refine SmG.v hF rfl rfl rfl (bb rfl rfl (by simp (disch := omega) only [go_sem, Nat.reduceEqDiff, aP, aM, hk1, hw1, hkl, hwl] <;> rfl)) ?_
  refine SmG.v hF rfl rfl rfl (aF rfl rfl) ?_
  refine SmG.v hF rfl rfl rfl (aJ rfl rfl rfl (by first | exact gR _ _ _ _ _ _ | exact cT _ _ _ _ _ _ _)) ?_
  refine SmG.v hF rfl rfl rfl (aA rfl rfl rfl (by simp (disch := omega) only [go_sem, Nat.reduceEqDiff, aP, aM, hk1, hw1, hkl, hwl] <;> rfl)) ?_
  refine SmG.v hF rfl rfl rfl (bb rfl rfl (by simp (disch := omega) only [go_sem, Nat.reduceEqDiff, aP, aM, hk1, hw1, hkl, hwl] <;> rfl)) ?_
  refine SmG.v hF rfl rfl rfl (aA rfl rfl rfl (by simp (disch := omega) only [go_sem, Nat.reduceEqDiff, aP, aM, hk1, hw1, hkl, hwl] <;> rfl)) ?_
  refine SmG.v hF rfl rfl rfl (bb rfl rfl (by simp (disch := omega) only [go_sem, Nat.reduceEqDiff, aP, aM, hk1, hw1, hkl, hwl] <;> rfl)) ?_
  refine SmG.v hF rfl rfl rfl (aA rfl rfl rfl (by simp (disch := omega) only [go_sem, Nat.reduceEqDiff, aP, aM, hk1, hw1, hkl, hwl] <;> rfl)) ?_
  refine SmG.v hF rfl rfl rfl (bb rfl rfl (by simp (disch := omega) only [go_sem, Nat.reduceEqDiff, aP, aM, hk1, hw1, hkl, hwl] <;> rfl)) ?_
  refine SmG.v hF rfl rfl rfl (fS rfl Tryd.underlying139 rfl (sF _ _ _ _ _ _ _ _)) ?_
  refine SmG.store hF rfl rfl rfl rfl rfl (by simp (disch := omega) only [go_sem, Nat.reduceEqDiff, aP, aM, hk1, hw1, hkl, hwl] <;> rfl) ?_
  refine SmG.nil ?_
  refine ay ?_
  refine ag ?_
  refine ac hF rfl ?_
  refine SmG.v hF rfl rfl rfl (aF rfl rfl) ?_
  refine SmG.v hF rfl rfl rfl (aJ rfl rfl rfl (by first | exact gC _ _ _ _ _ (cA _ (by omega)) | exact cT _ _ _ _ _ _ _)) ?_
  refine SmG.v hF rfl rfl rfl (be rfl rfl) ?_
  refine SmG.nil ?_
  refine ag ?_
  exact ⟨⟨t + 1, by omega⟩, by show 64 - (t + 1) < 64 - t; omega, by exact cZ (by first | (simp [leE, look, bf] <;> omega) | (simp [leE, look, bf, hrow, List.map_cons, List.map_nil] <;> omega)) (by simp only [leH, look, rep, reduceIte, Nat.reduceEqDiff, List.set_cons_zero, List.set_cons_succ, hrow, List.map_cons, List.map_nil, and_self, and_true, and_false, false_and, if_true, if_false] <;> (repeat' first | rfl | constructor)) (by first | exact Nat.le_refl _ | (dsimp only; omega))⟩
 ·obtain rfl : t = 64 := by omega
  have hcl : (Sha.rounds W S 64).list.length = 8 := rfl
  have hpl : (Sha.after S b).list = List.zipWith (· + ·) (Sha.rounds W S 64).list S.list := by rw [haf]; rfl
  generalize (Sha.rounds W S 64).list = C at hcl hpl ⊢
  generalize S.list = L at hSl hpl hSS ⊢
  refine Sm.seq ?_
  refine Sm.seq ?_
  refine ac hF rfl ?_
  refine SmG.v hF rfl rfl rfl (aF rfl rfl) ?_
  refine SmG.v hF rfl rfl rfl (aJ rfl rfl rfl (by first | exact dK _ _ _ _ _ (by omega) | exact eh _ _ _ _ _ (by omega) | exact eE _ _ _ _ _ _ _)) ?_
  refine SmG.nil ?_
  refine ag ?_
  refine cP hF rfl ?_
  refine Sm.exit ?_
  simp only [dt, gz, reduceIte, reduceCtorEq]
  refine Sm.seq ?_
  refine Sm.seq ?_
  refine ac hF rfl ?_
  refine SmG.v hF rfl rfl rfl (be rfl rfl) ?_
  refine SmG.nil ?_
  refine ag ?_
  refine Sm.block ?_
  refine Sm.loop (ι := {i : Nat // i ≤ 8}) (fun i => ⟨[(2, .ref 0 0 0), (4, .ref 1 0 0), (7, .ref 4 0 0), (11, .d (.v (.int .i64 i.1)))], [(4, dW 8 (iy C L i.1)), (1, dW 8 (List.replicate 8 0)), (0, dW 8 L)], 5⟩) (fun i => 8 - i.1) (⟨0, by omega⟩) ?_ ?_
  ·exact cZ (by first | (simp [leE, look, bf] <;> omega) | (simp [leE, look, bf, pa] <;> omega)) (by simp only [leH, look, rep, reduceIte, Nat.reduceEqDiff, List.set_cons_zero, List.set_cons_succ, pa, and_self, and_true, and_false, false_and, if_true, if_false] <;> (repeat' first | rfl | constructor)) (by first | exact Nat.le_refl _ | (dsimp only; omega))
  rintro ⟨i, hi⟩
  simp only
  by_cases hlt : i < 8
  ·have h1 := uU C L i (by omega) (by omega)
   have h2 := gt L i (by omega)
   have hst := qo (iy C L i) i (C.getD i 0 + L.getD i 0)
   rw [uJ C L i (by omega) (by omega)] at hst
   generalize C.getD i 0 = x at h1 hst
   generalize L.getD i 0 = y at h2 hst
   refine Sm.seq ?_
   refine Sm.seq ?_
   refine ac hF rfl ?_
   refine SmG.v hF rfl rfl rfl (aF rfl rfl) ?_
   refine SmG.v hF rfl rfl rfl (aJ rfl rfl rfl (by first | exact dK _ _ _ _ _ (by omega) | exact eh _ _ _ _ _ (by omega) | exact eE _ _ _ _ _ _ _)) ?_
   refine SmG.nil ?_
   refine ag ?_
   refine cQ hF rfl ?_
   refine Sm.skip ?_
   refine ag ?_
   refine Sm.seq ?_
   refine Sm.block ?_
   refine bm hF (by kernel_rfl) rfl 8 (by kernel_rfl) (by kernel_rfl) ?_
   simp only [List.take_succ_cons, List.take_zero, List.take_nil]
   refine af.v hF rfl rfl rfl (aF rfl rfl) ?_
   refine af.v hF rfl rfl rfl (aA rfl rfl rfl (by simp (disch := omega) only [go_sem, Nat.reduceEqDiff, aP, aM, h1, h2] <;> rfl)) ?_
   refine af.v hF rfl rfl rfl (bb rfl rfl (by simp (disch := omega) only [go_sem, Nat.reduceEqDiff, aP, aM, h1, h2] <;> rfl)) ?_
   refine af.v hF rfl rfl rfl (aF rfl rfl) ?_
   refine af.v hF rfl rfl rfl (aA rfl rfl rfl (by simp (disch := omega) only [go_sem, Nat.reduceEqDiff, aP, aM, h1, h2] <;> rfl)) ?_
   refine af.v hF rfl rfl rfl (bb rfl rfl (by simp (disch := omega) only [go_sem, Nat.reduceEqDiff, aP, aM, h1, h2] <;> rfl)) ?_
   refine af.v hF rfl rfl rfl (aJ rfl rfl rfl (by first | exact gR _ _ _ _ _ _ | exact cT _ _ _ _ _ _ _)) ?_
   refine af.v hF rfl rfl rfl (aA rfl rfl rfl (by simp (disch := omega) only [go_sem, Nat.reduceEqDiff, aP, aM, h1, h2] <;> rfl)) ?_
   refine af.last ⟨rfl, ?_⟩
   simp only [List.drop_succ_cons, List.drop_zero, List.drop_nil, List.nil_append, List.cons_append]
   refine SmG.store hF rfl rfl rfl rfl rfl (by simp (disch := omega) only [go_sem, Nat.reduceEqDiff, aP, aM, h1, h2] <;> rfl) ?_
   refine SmG.nil ?_
   refine ay ?_
   refine ag ?_
   refine ac hF rfl ?_
   refine SmG.v hF rfl rfl rfl (aF rfl rfl) ?_
   refine SmG.v hF rfl rfl rfl (aJ rfl rfl rfl (by first | exact gC _ _ _ _ _ (cA _ (by omega)) | exact cT _ _ _ _ _ _ _)) ?_
   refine SmG.v hF rfl rfl rfl (be rfl rfl) ?_
   refine SmG.nil ?_
   refine ag ?_
   exact ⟨⟨i + 1, by omega⟩, by show 8 - (i + 1) < 8 - i; omega, by exact cZ (by first | (simp [leE, look, bf] <;> omega) | (simp [leE, look, bf, hst] <;> omega)) (by simp only [leH, look, rep, reduceIte, Nat.reduceEqDiff, List.set_cons_zero, List.set_cons_succ, hst, and_self, and_true, and_false, false_and, if_true, if_false] <;> (repeat' first | rfl | constructor)) (by first | exact Nat.le_refl _ | (dsimp only; omega))⟩
  ·obtain rfl : i = 8 := by omega
   have hall := vr C L (by omega)
   rw [hcl] at hall
   have hll : (List.map aM (iy C L 8)).length = 8 := by rw [hall]; simp [hcl, hSl]
   refine Sm.seq ?_
   refine Sm.seq ?_
   refine ac hF rfl ?_
   refine SmG.v hF rfl rfl rfl (aF rfl rfl) ?_
   refine SmG.v hF rfl rfl rfl (aJ rfl rfl rfl (by first | exact dK _ _ _ _ _ (by omega) | exact eh _ _ _ _ _ (by omega) | exact eE _ _ _ _ _ _ _)) ?_
   refine SmG.nil ?_
   refine ag ?_
   refine cP hF rfl ?_
   refine Sm.exit ?_
   simp only [dt, gz, reduceIte, reduceCtorEq]
   refine Sm.seq ?_
   refine ac hF rfl ?_
   refine SmG.v hF rfl rfl rfl (bb rfl rfl (by simp (disch := omega) only [go_sem, Nat.reduceEqDiff, aP, aM, hll] <;> rfl)) ?_
   refine SmG.store hF rfl rfl rfl rfl rfl (by simp (disch := omega) only [go_sem, Nat.reduceEqDiff, aP, aM, hll] <;> rfl) ?_
   refine SmG.nil ?_
   refine ag ?_
   refine Sm.ret ?_
   refine kZ rfl rfl (by simp (disch := omega) only [go_sem, Nat.reduceEqDiff, aP, hll] <;> rfl) ?_
   rw [hall, ← hpl]; exact D.le.refl _
end
section
open Go.RowKit
set_option maxRecDepth 100000
theorem tw {P : Program} {s d : TypeId} {td : TypeDesc} {k2 : IntKind} (z : Nat) (h1 : P.underlying s = some td) (h2 : P.underlying d = some (.int .u8)) : f6 P s d (.d (.v (.int k2 (z : Int)))) = some (.d (eJ (UInt8.ofNat z))) := by
 simp only [f6, rT P .u8 z s d h1 h2 k2, Option.map_some, eJ]
 have : IntKind.u8.wrap (z : Int) = ((UInt8.ofNat z).toNat : Int) := by
  rw [IntKind.wrap_u8']
  simp
 rw [this]
theorem oa (l : List UInt8) (b : UInt8) : List.map aL l ++ [[eJ b]] = List.map aL (l ++ [b]) := by simp [aL]
theorem vl (n i : Nat) (h : i < 8) : (Sha.lenBytes n).take i ++ [UInt8.ofNat (8 * n / 2 ^ (56 - 8 * i))] = (Sha.lenBytes n).take (i + 1) := (Sha.lenBytes_take n i h).symm
theorem CO (P : Program) (t : TypeId) (x y : Operand) (a n : Nat) {b : Int} (k2 : IntKind) (hb : b = (n : Int)) (hn : n ≤ 64) : ba P (do eqGuard .shr t x y (.int .u64 a) (.int k2 b); binOp .shr t (.int .u64 a) (.int k2 b)) = some (.int .u64 ((a / 2 ^ n : Nat) : Int)) := by
 rw [sj P t x y .u64 a b k2 (by omega)]
 subst hb
 have : min ((n : Int).toNat) IntKind.u64.bits = n := by show min _ 64 = n; omega
 rw [this, Int.fdiv_eq_ediv_of_nonneg _ (Int.le_of_lt (Int.pow_pos (by omega)))]
 norm_cast
theorem wK (b : List UInt8) (hb : b.length ≤ 1000000) (G : Nat → Option D) : aq Tryd.prog G 76 [bE b] (bE (Sha.padded b)) := by
 have hpad : Sha.padded b = b ++ [128] ++ List.replicate (Sha.zeros b.length) 0 ++ Sha.lenBytes b.length := rfl
 have hz : Sha.zeros b.length < 64 := by unfold Sha.zeros; omega
 have hzt := fun j => Sha.zeros_test b.length j
 have hze := Sha.zeros_end b.length
 generalize Sha.zeros b.length = z at hpad hz hzt hze
 refine aq.of Tryd.func76 rfl Tryd.ntmps76 (by simp) ?_; intro F hF h0 hT; simp only [List.zipIdx_cons, List.zipIdx_nil, List.map_cons, List.map_nil, Nat.zero_add, Nat.reduceAdd]
 refine Sm.seq ?_
 refine ac hF rfl ?_
 refine SmG.v hF rfl rfl rfl (be rfl rfl) ?_
 refine SmG.nil ?_
 refine ag ?_
 refine Sm.seq ?_
 refine ac hF rfl ?_
 refine SmG.v hF rfl rfl rfl (fE rfl rfl (by simp (disch := omega) only [go_sem, Nat.reduceEqDiff, aP, bE, aL] <;> rfl)) ?_
 refine SmG.v hF rfl rfl rfl (aF rfl rfl) ?_
 refine SmG.appendFresh hF lp rfl rfl rfl rfl rfl rfl (Or.inl rfl) (by simp only [List.length_map]; omega) (by simp only [List.length_map]; omega) ?_
 refine SmG.v hF rfl rfl rfl (be rfl rfl) ?_
 refine SmG.nil ?_
 refine ag ?_
 refine Sm.seq ?_
 refine ac hF rfl ?_
 refine SmG.v hF rfl rfl rfl (aF rfl rfl) ?_
 refine SmG.v hF rfl rfl rfl (fE rfl rfl (by simp (disch := omega) only [go_sem, Nat.reduceEqDiff, aP, bE, aL] <;> rfl)) ?_
 refine SmG.appendOwn hF lp rfl rfl rfl rfl rfl rfl rfl (by first | rfl | (simp; done) | (simp; omega)) (Or.inl rfl) (by (repeat' first | exact bD _ | refine bq ?_ | refine au ?_ (aW _ _ _) | refine au ?_ (aW _ _ [_]) | refine au ?_ (bU (by rfl)))) ?_ ?_ ?_; rotate_left; rotate_left; simp only [iz, Pk.v, V.free, rep, bne_self_eq_false, Nat.reduceAdd, Nat.reduceBNe, Nat.reduceBEq, Nat.reduceEqDiff, reduceIte, Bool.false_eq_true]
 rotate_left
 ·simp only [List.length_map, List.length_cons, List.length_nil]; omega
 ·simp only [List.length_map, List.length_cons, List.length_nil]; omega
 refine SmG.v hF rfl rfl rfl (be rfl rfl) ?_
 refine SmG.nil ?_
 refine ag ?_
 refine Sm.seq ?_
 refine Sm.block ?_
 refine Sm.loop (ι := {j : Nat // j ≤ z}) (fun j => ⟨[(0, .d (bE b)), (3, .sref 0 0 ((b ++ [128] ++ List.replicate j.1 0).map aL).length)], [(0, dB 1 ((b ++ [128] ++ List.replicate j.1 0).map aL))], 1⟩) (fun j => z - j.1) (⟨0, by omega⟩) ?_ ?_
 ·have h0 : List.map aL b ++ [[D.v (.int .u8 128)]] = List.map aL (b ++ [128] ++ List.replicate 0 0) := by
   rw [List.replicate_zero, List.append_nil, ← oa]; rfl
  exact cZ (by first | (simp [leE, look, bf] <;> omega) | (simp [leE, look, bf, h0] <;> omega)) (by simp only [leH, look, rep, reduceIte, Nat.reduceEqDiff, List.set_cons_zero, List.set_cons_succ, h0, and_self, and_true, and_false, false_and, if_true, if_false] <;> (repeat' first | rfl | constructor)) (by first | exact Nat.le_refl _ | (dsimp only; omega))
 rintro ⟨j, hj⟩
 simp only
 by_cases hlt : j < z
 ·have hzj := hzt j hlt
  have hrow : List.map aL (b ++ [128] ++ List.replicate j 0) ++ [[D.v (.int .u8 0)]] = List.map aL (b ++ [128] ++ List.replicate (j + 1) 0) := by
   rw [List.replicate_succ', ← List.append_assoc, ← oa]; rfl
  refine Sm.seq ?_
  refine Sm.seq ?_
  refine ac hF rfl ?_
  refine SmG.v hF rfl rfl rfl (aF rfl rfl) ?_
  refine SmG.v hF rfl rfl rfl (kl rfl rfl (by simp (disch := omega) only [go_sem, Nat.reduceEqDiff, aP, bE, aL, List.length_append, List.length_cons, List.length_nil, List.length_replicate] <;> rfl)) ?_
  refine SmG.v hF rfl rfl rfl (aJ rfl rfl rfl (by first | exact gC _ _ _ _ _ (cA _ (by omega)) | exact cT _ _ _ _ _ _ _)) ?_
  refine SmG.v hF rfl rfl rfl (aJ rfl rfl rfl (by first | exact r3 _ _ _ _ _ (by omega) (by omega) | exact na _ _ _ _ _ _ _ (by omega))) ?_
  refine SmG.v hF rfl rfl rfl (aJ rfl rfl rfl (by first | exact tk _ _ _ _ _ (by omega) | exact tG _ _ _ _ _ (by omega) | exact ng _ _ _ _ _ _ _)) ?_
  refine SmG.nil ?_
  refine ag ?_
  refine cQ hF rfl ?_
  refine Sm.skip ?_
  refine ag ?_
  refine Sm.block ?_
  refine ac hF rfl ?_
  refine SmG.v hF rfl rfl rfl (aF rfl rfl) ?_
  refine SmG.v hF rfl rfl rfl (fE rfl rfl (by simp (disch := omega) only [go_sem, Nat.reduceEqDiff, aP, bE, aL, List.length_append, List.length_cons, List.length_nil, List.length_replicate] <;> rfl)) ?_
  refine SmG.appendOwn hF lp rfl rfl rfl rfl rfl rfl rfl (by first | rfl | (simp; done) | (simp; omega)) (Or.inl rfl) (by (repeat' first | exact bD _ | refine bq ?_ | refine au ?_ (aW _ _ _) | refine au ?_ (aW _ _ [_]) | refine au ?_ (bU (by rfl)))) ?_ ?_ ?_; rotate_left; rotate_left; simp only [iz, Pk.v, V.free, rep, bne_self_eq_false, Nat.reduceAdd, Nat.reduceBNe, Nat.reduceBEq, Nat.reduceEqDiff, reduceIte, Bool.false_eq_true]
  rotate_left
  ·simp only [List.length_map, List.length_append, List.length_cons, List.length_nil, List.length_replicate]; omega
  ·simp only [List.length_map, List.length_append, List.length_cons, List.length_nil, List.length_replicate]; omega
  refine SmG.v hF rfl rfl rfl (be rfl rfl) ?_
  refine SmG.nil ?_
  refine ay ?_
  refine ag ?_
  exact ⟨⟨j + 1, by omega⟩, by show z - (j + 1) < z - j; omega, by exact cZ (by first | (simp [leE, look, bf] <;> omega) | (simp [leE, look, bf, hrow] <;> omega)) (by simp only [leH, look, rep, reduceIte, Nat.reduceEqDiff, List.set_cons_zero, List.set_cons_succ, hrow, and_self, and_true, and_false, false_and, if_true, if_false] <;> (repeat' first | rfl | constructor)) (by first | exact Nat.le_refl _ | (dsimp only; omega))⟩
 ·obtain rfl : j = z := by omega
  refine Sm.seq ?_
  refine Sm.seq ?_
  refine ac hF rfl ?_
  refine SmG.v hF rfl rfl rfl (aF rfl rfl) ?_
  refine SmG.v hF rfl rfl rfl (kl rfl rfl (by simp (disch := omega) only [go_sem, Nat.reduceEqDiff, aP, bE, aL, List.length_append, List.length_cons, List.length_nil, List.length_replicate] <;> rfl)) ?_
  refine SmG.v hF rfl rfl rfl (aJ rfl rfl rfl (by first | exact gC _ _ _ _ _ (cA _ (by omega)) | exact cT _ _ _ _ _ _ _)) ?_
  refine SmG.v hF rfl rfl rfl (aJ rfl rfl rfl (by first | exact r3 _ _ _ _ _ (by omega) (by omega) | exact na _ _ _ _ _ _ _ (by omega))) ?_
  refine SmG.v hF rfl rfl rfl (aJ rfl rfl rfl (by first | exact tk _ _ _ _ _ (by omega) | exact tG _ _ _ _ _ (by omega) | exact ng _ _ _ _ _ _ _)) ?_
  refine SmG.nil ?_
  refine ag ?_
  refine cP hF rfl ?_
  refine Sm.exit ?_
  simp only [dt, gz, reduceIte, reduceCtorEq]
  refine Sm.seq ?_
  refine ac hF rfl ?_
  refine SmG.v hF rfl rfl rfl (aF rfl rfl) ?_
  refine SmG.v hF rfl rfl rfl (kl rfl rfl (by simp (disch := omega) only [go_sem, Nat.reduceEqDiff, aP, bE, aL, List.length_append, List.length_cons, List.length_nil, List.length_replicate] <;> rfl)) ?_
  refine SmG.v hF rfl rfl rfl (kA rfl rfl (by first | exact dJ rfl rfl (tE _ (by omega)) | (simp (disch := omega) only [go_sem, bE, aL, List.length_append, List.length_cons, List.length_nil, List.length_replicate] <;> rfl))) ?_
  refine SmG.v hF rfl rfl rfl (aJ rfl rfl rfl (by first | exact o1 _ _ _ _ _ (tE _ (by omega)) | exact lJ _ _ _ _ _ _ _)) ?_
  refine SmG.v hF rfl rfl rfl (be rfl rfl) ?_
  refine SmG.nil ?_
  refine ag ?_
  refine Sm.seq ?_
  refine Sm.seq ?_
  refine ac hF rfl ?_
  refine SmG.v hF rfl rfl rfl (be rfl rfl) ?_
  refine SmG.nil ?_
  refine ag ?_
  refine Sm.block ?_
  refine Sm.loop (ι := {i : Nat // i ≤ 8}) (fun i => ⟨[(3, .sref 0 0 ((b ++ [128] ++ List.replicate j 0 ++ (Sha.lenBytes b.length).take i.1).map aL).length), (4, .d (.v (.int .u64 ((8 * b.length : Nat) : Int)))), (5, .d (.v (.int .i64 i.1)))], [(0, dB 1 ((b ++ [128] ++ List.replicate j 0 ++ (Sha.lenBytes b.length).take i.1).map aL))], 1⟩) (fun i => 8 - i.1) (⟨0, by omega⟩) ?_ ?_
  ·exact cZ (by first | (simp [leE, look, bf] <;> omega) | (simp [leE, look, bf, List.take_zero, List.append_nil] <;> omega)) (by simp only [leH, look, rep, reduceIte, Nat.reduceEqDiff, List.set_cons_zero, List.set_cons_succ, List.take_zero, List.append_nil, and_self, and_true, and_false, false_and, if_true, if_false] <;> (repeat' first | rfl | constructor)) (by first | exact Nat.le_refl _ | (dsimp only; omega))
  rintro ⟨i, hi⟩
  simp only
  have hll : (Sha.lenBytes b.length).length = 8 := by simp [Sha.lenBytes]
  by_cases hlt : i < 8
  ·have hrow : List.map aL (b ++ [128] ++ List.replicate j 0 ++ (Sha.lenBytes b.length).take i) ++ [[D.v (.int .u8 ((UInt8.ofNat (8 * b.length / 2 ^ (56 - 8 * i))).toNat : Int))]] = List.map aL (b ++ [128] ++ List.replicate j 0 ++ (Sha.lenBytes b.length).take (i + 1)) := by
    show _ ++ [[eJ _]] = _
    rw [oa, List.append_assoc, vl _ _ hlt]
   refine Sm.seq ?_
   refine Sm.seq ?_
   refine ac hF rfl ?_
   refine SmG.v hF rfl rfl rfl (aF rfl rfl) ?_
   refine SmG.v hF rfl rfl rfl (aJ rfl rfl rfl (by first | exact dK _ _ _ _ _ (by omega) | exact eh _ _ _ _ _ (by omega) | exact eE _ _ _ _ _ _ _)) ?_
   refine SmG.nil ?_
   refine ag ?_
   refine cQ hF rfl ?_
   refine Sm.skip ?_
   refine ag ?_
   refine Sm.seq ?_
   refine Sm.block ?_
   refine ac hF rfl ?_
   refine SmG.v hF rfl rfl rfl (aF rfl rfl) ?_
   refine SmG.v hF rfl rfl rfl (aF rfl rfl) ?_
   refine SmG.v hF rfl rfl rfl (aF rfl rfl) ?_
   refine SmG.v hF rfl rfl rfl (aJ rfl rfl rfl (by first | exact o1 _ _ _ _ _ (cA _ (by omega)) | exact lJ _ _ _ _ _ _ _)) ?_
   refine SmG.v hF rfl rfl rfl (aJ rfl rfl rfl (by first | exact lK _ _ _ _ _ (cA _ (by omega)) | exact jM _ _ _ _ _ _ _)) ?_
   refine SmG.v hF rfl rfl rfl (aJ rfl rfl rfl (CO _ _ _ _ (8 * b.length) (56 - 8 * i) _ (by omega) (by omega))) ?_
   refine SmG.v hF rfl rfl rfl (kA rfl rfl (tw _ Tryd.underlying147 Tryd.underlying5)) ?_
   refine SmG.v hF rfl rfl rfl (fE rfl rfl (by simp (disch := omega) only [go_sem, Nat.reduceEqDiff, aP, bE, aL, List.length_append, List.length_cons, List.length_nil, List.length_replicate] <;> rfl)) ?_
   refine SmG.appendOwn hF lp rfl rfl rfl rfl rfl rfl rfl (by first | rfl | (simp; done) | (simp; omega)) (Or.inl rfl) (by (repeat' first | exact bD _ | refine bq ?_ | refine au ?_ (aW _ _ _) | refine au ?_ (aW _ _ [_]) | refine au ?_ (bU (by rfl)))) ?_ ?_ ?_; rotate_left; rotate_left; simp only [iz, Pk.v, V.free, rep, bne_self_eq_false, Nat.reduceAdd, Nat.reduceBNe, Nat.reduceBEq, Nat.reduceEqDiff, reduceIte, Bool.false_eq_true]
   rotate_left
   ·simp only [List.length_map, List.length_append, List.length_cons, List.length_nil, List.length_replicate, List.length_take]; omega
   ·simp only [List.length_map, List.length_append, List.length_cons, List.length_nil, List.length_replicate, List.length_take]; omega
   refine SmG.v hF rfl rfl rfl (be rfl rfl) ?_
   refine SmG.nil ?_
   refine ay ?_
   refine ag ?_
   refine ac hF rfl ?_
   refine SmG.v hF rfl rfl rfl (aF rfl rfl) ?_
   refine SmG.v hF rfl rfl rfl (aJ rfl rfl rfl (by first | exact gC _ _ _ _ _ (cA _ (by omega)) | exact cT _ _ _ _ _ _ _)) ?_
   refine SmG.v hF rfl rfl rfl (be rfl rfl) ?_
   refine SmG.nil ?_
   refine ag ?_
   exact ⟨⟨i + 1, by omega⟩, by show 8 - (i + 1) < 8 - i; omega, by exact cZ (by first | (simp [leE, look, bf] <;> omega) | (simp [leE, look, bf, hrow] <;> omega)) (by simp only [leH, look, rep, reduceIte, Nat.reduceEqDiff, List.set_cons_zero, List.set_cons_succ, hrow, and_self, and_true, and_false, false_and, if_true, if_false] <;> (repeat' first | rfl | constructor)) (by first | exact Nat.le_refl _ | (dsimp only; omega))⟩
  ·obtain rfl : i = 8 := by omega
   refine Sm.seq ?_
   refine Sm.seq ?_
   refine ac hF rfl ?_
   refine SmG.v hF rfl rfl rfl (aF rfl rfl) ?_
   refine SmG.v hF rfl rfl rfl (aJ rfl rfl rfl (by first | exact dK _ _ _ _ _ (by omega) | exact eh _ _ _ _ _ (by omega) | exact eE _ _ _ _ _ _ _)) ?_
   refine SmG.nil ?_
   refine ag ?_
   refine cP hF rfl ?_
   refine Sm.freeze (l := 0) _ rfl ?_
   simp only [Pk.v, ms, gk, i4,  reduceIte, Nat.reduceAdd, Nat.zero_add, List.length_map, List.length_append, Nat.le_refl, true_and, and_self, if_true, Nat.reduceEqDiff, true_and]
   refine Sm.exit ?_
   simp only [dt, gz, reduceIte, reduceCtorEq]
   refine Sm.seq ?_
   refine ac hF rfl ?_
   refine SmG.v hF rfl rfl rfl (aF rfl rfl) ?_
   refine SmG.v hF rfl rfl rfl (be rfl rfl) ?_
   refine SmG.nil ?_
   refine ag ?_
   refine Sm.ret ?_
   refine ⟨_, rfl, ?_⟩; dsimp only
   rw [List.take_of_length_le (by omega), ← hpad]; exact D.le.refl _
theorem vU (all : List UInt8) (j : Nat) : List.drop (64 * j) (List.map aL (List.take (64 * j + 64) all)) = List.map aL ((all.drop (64 * j)).take 64) := by
 rw [← List.map_drop, List.drop_take]; congr 2; omega
theorem xQ (S : Sha.S8) (k : Nat) (h : k ≤ 32) : ((Sha.out S).take k ++ List.replicate (32 - k) 0).length = 32 := by
 simp [Sha.out_length]; omega
theorem wG (b : List UInt8) (hb : b.length ≤ 1000000) (G : Nat → Option D) : aq Tryd.prog G 52 [bE b] (mY (Sha.sum b)) := by
 have hmod := Sha.padded_mod b
 have hplen := Sha.padded_length b
 have hz : Sha.zeros b.length < 64 := by unfold Sha.zeros; omega
 have hS : Sha.sum b = Sha.out (Sha.over (Sha.padded b) ((Sha.padded b).length / 64)) := rfl
 refine aq.of Tryd.func52 rfl Tryd.ntmps52 (by simp) ?_; intro F hF h0 hT; simp only [List.zipIdx_cons, List.zipIdx_nil, List.map_cons, List.map_nil, Nat.zero_add, Nat.reduceAdd]
 refine Sm.seq ?_
 refine ac hF rfl ?_
 refine SmG.new hF rfl rfl rfl (aT rfl oJ) ?_
 refine SmG.nil ?_
 refine ag ?_
 refine Sm.seq ?_
 refine ac hF rfl ?_
 refine SmG.v hF rfl rfl rfl (aF rfl rfl) ?_
 refine SmG.call hF rfl rfl (by kernel_rfl) rfl rfl rfl (wK b hb G) ?_
 refine SmG.v hF rfl rfl rfl (be rfl rfl) ?_
 refine SmG.nil ?_
 refine ag ?_
 refine Sm.seq ?_
 refine ac hF rfl ?_
 refine SmG.call hF rfl rfl (by kernel_rfl) rfl rfl rfl (xz G) ?_
 refine SmG.new hF rfl rfl rfl (aT rfl rh) ?_
 refine SmG.store hF rfl rfl rfl rfl rfl (by simp (disch := omega) only [go_sem, Nat.reduceEqDiff, aP, aM, mY] <;> rfl) ?_
 refine SmG.nil ?_
 refine ag ?_
 refine Sm.seq ?_
 refine Sm.seq ?_
 refine ac hF rfl ?_
 refine SmG.v hF rfl rfl rfl (be rfl rfl) ?_
 refine SmG.nil ?_
 refine ag ?_
 refine Sm.block ?_
 generalize Sha.padded b = all at hmod hplen hS ⊢
 generalize hm : all.length / 64 = m at hmod hS
 refine Sm.loop (ι := {j : Nat // j ≤ m}) (fun j => ⟨[(2, .ref 0 0 0), (3, .d (bE all)), (4, .ref 1 0 0), (5, .d (.v (.int .i64 ((64 * j.1 : Nat) : Int))))], [(1, dW 8 (Sha.over all j.1).list), (0, dB 32 [aS (List.replicate 32 0)])], 2⟩) (fun j => m - j.1) (⟨0, by omega⟩) ?_ ?_
 ·exact cZ (by first | (simp [leE, look, bf] <;> omega) | (simp [leE, look, bf, true_and] <;> omega)) (by simp only [leH, look, rep, reduceIte, Nat.reduceEqDiff, List.set_cons_zero, List.set_cons_succ, true_and, and_self, and_true, and_false, false_and, if_true, if_false] <;> (repeat' first | rfl | constructor)) (by first | exact Nat.le_refl _ | (dsimp only; omega))
 rintro ⟨j, hj⟩
 simp only
 by_cases hlt : j < m
 ·have c1 := yJ (Sha.over all j) ((all.drop (64 * j)).take 64) (by rw [List.length_take, List.length_drop]; omega) G
  have hcm := vU all j
  have hle : 64 * j ≤ 64 * j + 64 := by omega
  have hle2 : 64 * j + 64 ≤ all.length := by omega
  have hcast : (((64 * j : Nat) : Int) + 64).toNat = 64 * j + 64 := by omega
  have hov : Sha.over all (j + 1) = Sha.after (Sha.over all j) ((all.drop (64 * j)).take 64) := rfl
  have hl8 : (Sha.over all j).list.length = 8 := rfl
  refine Sm.seq ?_
  refine Sm.seq ?_
  refine ac hF rfl ?_
  refine SmG.v hF rfl rfl rfl (aF rfl rfl) ?_
  refine SmG.v hF rfl rfl rfl (aF rfl rfl) ?_
  refine SmG.v hF rfl rfl rfl (kl rfl rfl (by simp (disch := omega) only [go_sem, Nat.reduceEqDiff, aP, bE, hcm, hcast, hle, hle2, k6, hl8] <;> rfl)) ?_
  refine SmG.v hF rfl rfl rfl (aJ rfl rfl rfl (by first | exact dK _ _ _ _ _ (by omega) | exact eh _ _ _ _ _ (by omega) | exact eE _ _ _ _ _ _ _)) ?_
  refine SmG.nil ?_
  refine ag ?_
  refine cQ hF rfl ?_
  refine Sm.skip ?_
  refine ag ?_
  refine Sm.seq ?_
  refine Sm.block ?_
  refine bm hF (by kernel_rfl) rfl 7 (by kernel_rfl) (by kernel_rfl) ?_
  simp only [List.take_succ_cons, List.take_zero, List.take_nil]
  refine af.v hF rfl rfl rfl (bb rfl rfl (by simp (disch := omega) only [go_sem, Nat.reduceEqDiff, aP, bE, hcm, hcast, hle, hle2, k6, hl8] <;> rfl)) ?_
  refine af.v hF rfl rfl rfl (aF rfl rfl) ?_
  refine af.v hF rfl rfl rfl (aF rfl rfl) ?_
  refine af.v hF rfl rfl rfl (aF rfl rfl) ?_
  refine af.v hF rfl rfl rfl (aJ rfl rfl rfl (by first | exact gC _ _ _ _ _ (cA _ (by omega)) | exact cT _ _ _ _ _ _ _)) ?_
  refine af.v hF rfl rfl rfl (gq rfl rfl rfl rfl rfl (by simp (disch := omega) only [go_sem, Nat.reduceEqDiff, aP, bE, hcm, hcast, hle, hle2, k6, hl8] <;> rfl)) ?_
  refine af.c hF rfl rfl (by kernel_rfl) rfl rfl rfl (c1) ?_
  refine af.last ⟨rfl, ?_⟩
  simp only [List.drop_succ_cons, List.drop_zero, List.drop_nil, List.nil_append, List.cons_append]
  refine SmG.store hF rfl rfl rfl rfl rfl (by simp (disch := omega) only [go_sem, Nat.reduceEqDiff, aP, bE, hcm, hcast, hle, hle2, k6, hl8] <;> rfl) ?_
  refine SmG.nil ?_
  refine ay ?_
  refine ag ?_
  refine ac hF rfl ?_
  refine SmG.v hF rfl rfl rfl (aF rfl rfl) ?_
  refine SmG.v hF rfl rfl rfl (aJ rfl rfl rfl (by first | exact gC _ _ _ _ _ (cA _ (by omega)) | exact cT _ _ _ _ _ _ _)) ?_
  refine SmG.v hF rfl rfl rfl (be rfl rfl) ?_
  refine SmG.nil ?_
  refine ag ?_
  exact ⟨⟨j + 1, by omega⟩, by show m - (j + 1) < m - j; omega, by exact cZ (by first | (simp [leE, look, bf] <;> omega) | (simp [leE, look, bf, hov] <;> omega)) (by simp only [leH, look, rep, reduceIte, Nat.reduceEqDiff, List.set_cons_zero, List.set_cons_succ, hov, and_self, and_true, and_false, false_and, if_true, if_false] <;> (repeat' first | rfl | constructor)) (by first | exact Nat.le_refl _ | (dsimp only; omega))⟩
 ·obtain rfl : j = m := by omega
  generalize Sha.over all j = S at hS ⊢
  refine Sm.seq ?_
  refine Sm.seq ?_
  refine ac hF rfl ?_
  refine SmG.v hF rfl rfl rfl (aF rfl rfl) ?_
  refine SmG.v hF rfl rfl rfl (aF rfl rfl) ?_
  refine SmG.v hF rfl rfl rfl (kl rfl rfl (by simp (disch := omega) only [go_sem, Nat.reduceEqDiff, aP, bE] <;> rfl)) ?_
  refine SmG.v hF rfl rfl rfl (aJ rfl rfl rfl (by first | exact dK _ _ _ _ _ (by omega) | exact eh _ _ _ _ _ (by omega) | exact eE _ _ _ _ _ _ _)) ?_
  refine SmG.nil ?_
  refine ag ?_
  refine cP hF rfl ?_
  refine Sm.exit ?_
  simp only [dt, gz, reduceIte, reduceCtorEq]
  refine Sm.seq ?_
  refine ac hF rfl ?_
  refine SmG.v hF rfl rfl rfl (fS rfl Tryd.underlying47 rfl wd) ?_
  refine SmG.new hF rfl rfl rfl (aT rfl oJ) ?_
  refine SmG.store hF rfl rfl rfl rfl rfl (by simp (disch := omega) only [go_sem, Nat.reduceEqDiff, aP, bE] <;> rfl) ?_
  refine SmG.nil ?_
  refine ag ?_
  refine Sm.seq ?_
  refine Sm.seq ?_
  refine ac hF rfl ?_
  refine SmG.v hF rfl rfl rfl (be rfl rfl) ?_
  refine SmG.nil ?_
  refine ag ?_
  refine Sm.block ?_
  refine Sm.loop (ι := {k : Nat // k ≤ 32}) (fun k => ⟨[(2, .ref 0 0 0), (4, .ref 1 0 0), (6, .ref 2 0 0), (7, .d (.v (.int .i64 k.1)))], [(2, dB 32 [aS ((Sha.out S).take k.1 ++ List.replicate (32 - k.1) 0)]), (1, dW 8 S.list), (0, dB 32 [aS (List.replicate 32 0)])], 3⟩) (fun k => 32 - k.1) (⟨0, by omega⟩) ?_ ?_
  ·exact cZ (by first | (simp [leE, look, bf] <;> omega) | (simp [leE, look, bf, List.take_zero, List.nil_append] <;> omega)) (by simp only [leH, look, rep, reduceIte, Nat.reduceEqDiff, List.set_cons_zero, List.set_cons_succ, List.take_zero, List.nil_append, and_self, and_true, and_false, false_and, if_true, if_false] <;> (repeat' first | rfl | constructor)) (by first | exact Nat.le_refl _ | (dsimp only; omega))
  rintro ⟨k, hk⟩
  simp only
  have hl8 : S.list.length = 8 := rfl
  by_cases hlt : k < 32
  ·have hg := gt S.list (k / 4) (by omega)
   have hset := Sha.out_set S k hlt
   have hsh : ∀ (x : UInt32) (n : Nat), (Sha.shr x n).toNat = x.toNat / 2 ^ n := fun x n => Nat.mod_eq_of_lt (Nat.lt_of_le_of_lt (Nat.div_le_self _ _) x.toNat_lt)
   generalize S.list.getD (k / 4) 0 = x at hg hset
   have hcast : ((k : Int) / 4).toNat = k / 4 := by omega
   have hst : (List.map V.d (aS ((Sha.out S).take k ++ List.replicate (32 - k) 0))).set k (.d (.v (.int .u8 ((UInt8.ofNat (Sha.shr x (24 - 8 * (k % 4))).toNat).toNat : Int)))) = List.map V.d (aS ((Sha.out S).take (k + 1) ++ List.replicate (32 - (k + 1)) 0)) := by
    rw [← hset, hsh]
    simp only [aS, List.map_set, eJ]
   refine Sm.seq ?_
   refine Sm.seq ?_
   refine ac hF rfl ?_
   refine SmG.v hF rfl rfl rfl (aF rfl rfl) ?_
   refine SmG.v hF rfl rfl rfl (aJ rfl rfl rfl (by first | exact dK _ _ _ _ _ (by omega) | exact eh _ _ _ _ _ (by omega) | exact eE _ _ _ _ _ _ _)) ?_
   refine SmG.nil ?_
   refine ag ?_
   refine cQ hF rfl ?_
   refine Sm.skip ?_
   refine ag ?_
   refine Sm.seq ?_
   refine Sm.block ?_
   refine ac hF rfl ?_
   refine SmG.v hF rfl rfl rfl (aF rfl rfl) ?_
   refine SmG.v hF rfl rfl rfl (aF rfl rfl) ?_
   refine SmG.v hF rfl rfl rfl (aJ rfl rfl rfl (by first | exact yO _ _ _ _ (by omega) (by omega) | exact rK _ _ _ _ _ _ _ (by omega))) ?_
   refine SmG.v hF rfl rfl rfl (aA rfl rfl rfl (by simp (disch := omega) only [go_sem, Nat.reduceEqDiff, aP, aM, hg, hcast, eJ, hl8] <;> rfl)) ?_
   refine SmG.v hF rfl rfl rfl (bb rfl rfl (by simp (disch := omega) only [go_sem, Nat.reduceEqDiff, aP, aM, hg, hcast, eJ, hl8] <;> rfl)) ?_
   refine SmG.v hF rfl rfl rfl (aF rfl rfl) ?_
   refine SmG.v hF rfl rfl rfl (aJ rfl rfl rfl (by first | exact r3 _ _ _ _ _ (by omega) (by omega) | exact na _ _ _ _ _ _ _ (by omega))) ?_
   refine SmG.v hF rfl rfl rfl (aJ rfl rfl rfl (by first | exact o1 _ _ _ _ _ (cA _ (by omega)) | exact lJ _ _ _ _ _ _ _)) ?_
   refine SmG.v hF rfl rfl rfl (aJ rfl rfl rfl (by first | exact lK _ _ _ _ _ (cA _ (by omega)) | exact jM _ _ _ _ _ _ _)) ?_
   refine SmG.v hF rfl rfl rfl (aJ rfl rfl rfl (ru _ _ _ _ (24 - 8 * (k % 4)) _ (by omega) (by omega) x)) ?_
   refine SmG.v hF rfl rfl rfl (kA rfl rfl (tw _ Tryd.underlying68 Tryd.underlying5)) ?_
   refine SmG.v hF rfl rfl rfl (aA rfl rfl rfl (by simp (disch := omega) only [go_sem, Nat.reduceEqDiff, aP, aM, hg, hcast, eJ, hl8] <;> rfl)) ?_
   refine SmG.store hF rfl rfl rfl rfl rfl (by simp (disch := omega) only [go_sem, Nat.reduceEqDiff, aP, aM, hg, hcast, eJ, hl8] <;> rfl) ?_
   refine SmG.nil ?_
   refine ay ?_
   refine ag ?_
   refine ac hF rfl ?_
   refine SmG.v hF rfl rfl rfl (aF rfl rfl) ?_
   refine SmG.v hF rfl rfl rfl (aJ rfl rfl rfl (by first | exact gC _ _ _ _ _ (cA _ (by omega)) | exact cT _ _ _ _ _ _ _)) ?_
   refine SmG.v hF rfl rfl rfl (be rfl rfl) ?_
   refine SmG.nil ?_
   refine ag ?_
   exact ⟨⟨k + 1, by omega⟩, by show 32 - (k + 1) < 32 - k; omega, by exact cZ (by first | (simp [leE, look, bf] <;> omega) | (simp [leE, look, bf, hst] <;> omega)) (by simp only [leH, look, rep, reduceIte, Nat.reduceEqDiff, List.set_cons_zero, List.set_cons_succ, hst, and_self, and_true, and_false, false_and, if_true, if_false] <;> (repeat' first | rfl | constructor)) (by first | exact Nat.le_refl _ | (dsimp only; omega))⟩
  ·obtain rfl : k = 32 := by omega
   have hll : (aS ((Sha.out S).take 32 ++ List.replicate (32 - 32) 0)).length = 32 := by rw [aS, List.length_map, xQ S 32 (by omega)]
   refine Sm.seq ?_
   refine Sm.seq ?_
   refine ac hF rfl ?_
   refine SmG.v hF rfl rfl rfl (aF rfl rfl) ?_
   refine SmG.v hF rfl rfl rfl (aJ rfl rfl rfl (by first | exact dK _ _ _ _ _ (by omega) | exact eh _ _ _ _ _ (by omega) | exact eE _ _ _ _ _ _ _)) ?_
   refine SmG.nil ?_
   refine ag ?_
   refine cP hF rfl ?_
   refine Sm.exit ?_
   simp only [dt, gz, reduceIte, reduceCtorEq]
   refine Sm.seq ?_
   refine ac hF rfl ?_
   refine SmG.v hF rfl rfl rfl (bb rfl rfl (by simp (disch := omega) only [go_sem, Nat.reduceEqDiff, aP, hll] <;> rfl)) ?_
   refine SmG.store hF rfl rfl rfl rfl rfl (by simp (disch := omega) only [go_sem, Nat.reduceEqDiff, aP, hll] <;> rfl) ?_
   refine SmG.nil ?_
   refine ag ?_
   refine Sm.ret ?_
   refine kZ rfl rfl (by simp (disch := omega) only [go_sem, Nat.reduceEqDiff, aP, hll] <;> rfl) ?_
   rw [hS, List.take_of_length_le (by rw [Sha.out_length]; omega), List.append_nil]
   exact D.le.refl _
end
section
open Go.RowKit
set_option maxRecDepth 100000
theorem sQ (b : List UInt8) (hb : b.length ≤ 900000) (G : Nat → Option D) : aq Tryd.prog G 56 [bE b] (bE (0 :: b)) := by
 refine aq.of Tryd.func56 rfl Tryd.ntmps56 (by simp) ?_; intro F hF h0 hT; simp only [List.zipIdx_cons, List.zipIdx_nil, List.map_cons, List.map_nil, Nat.zero_add, Nat.reduceAdd]
 refine Sm.seq ?_
 refine ac hF rfl ?_
 refine SmG.v hF rfl rfl rfl (be rfl rfl) ?_
 refine SmG.nil ?_
 refine ag ?_
 refine Sm.seq ?_
 refine ac hF rfl ?_
 refine SmG.v hF rfl rfl rfl (fE rfl rfl (by simp (disch := omega) only [go_sem, Nat.reduceEqDiff, aP, bE, aL, eJ] <;> rfl)) ?_
 refine SmG.v hF rfl rfl rfl (aF rfl rfl) ?_
 refine SmG.append hF lp rfl rfl rfl rfl rfl rfl (Or.inl rfl) (Or.inl rfl) (by simp only [List.length_map, List.length_cons, List.length_nil]; omega) (by simp only [List.length_map, List.length_cons, List.length_nil]; omega) ?_
 refine SmG.v hF rfl rfl rfl (be rfl rfl) ?_
 refine SmG.nil ?_
 refine ag ?_
 refine Sm.ret ?_
 refine ⟨_, rfl, ?_⟩; dsimp only
 exact D.le.refl _
theorem vH (b : List UInt8) (hb : b.length ≤ 900000) (G : Nat → Option D) : aq Tryd.prog G 29 [bE b] (mY (Sha.leaf b)) := by
 have hl := Sha.leaf_len b
 have hS : Sha.sum (0 :: b) = Sha.leaf b := rfl
 generalize Sha.leaf b = s at hl hS ⊢
 refine aq.of Tryd.func29 rfl Tryd.ntmps29 (by simp) ?_; intro F hF h0 hT; simp only [List.zipIdx_cons, List.zipIdx_nil, List.map_cons, List.map_nil, Nat.zero_add, Nat.reduceAdd]
 refine Sm.seq ?_
 refine ac hF rfl ?_
 refine SmG.new hF rfl rfl rfl (aT rfl oJ) ?_
 refine SmG.nil ?_
 refine ag ?_
 refine Sm.seq ?_
 refine ac hF rfl ?_
 refine SmG.v hF rfl rfl rfl (aF rfl rfl) ?_
 refine SmG.call hF rfl rfl (by kernel_rfl) rfl rfl rfl (sQ b hb G) ?_
 refine SmG.call hF rfl rfl (by kernel_rfl) rfl rfl rfl (wG (0 :: b) (by simp; omega) G) ?_
 refine SmG.store hF rfl rfl rfl rfl rfl (by simp (disch := omega) only [go_sem, Nat.reduceEqDiff, aP, mY, nR, hl, hS] <;> rfl) ?_
 refine SmG.nil ?_
 refine ag ?_
 refine Sm.ret ?_
 refine kZ rfl rfl (by simp (disch := omega) only [go_sem, Nat.reduceEqDiff, aP, nR, hl, hS] <;> rfl) ?_
 exact D.le.refl _
end
end Go.Proofs.YtbaccmkhjmmlnaaDoor
namespace Go.Proofs.YtbaccmkhjmmlnaaDoor.Sha
end Go.Proofs.YtbaccmkhjmmlnaaDoor.Sha
namespace Go.Proofs.YtbaccmkhjmmlnaaDoor
end Go.Proofs.YtbaccmkhjmmlnaaDoor
namespace Go.Proofs.YtbaccmkhjmmlnaaDoor.Sha
def sides (n i : Nat) : List Bool :=
 if h : 2 ≤ n then (if i < cut n then sides (cut n) i ++ [false] else sides (n - cut n) (i - cut n) ++ [true]) else []
termination_by n
decreasing_by
 ·exact cut_lt h
 ·have := cut_pos n; omega
theorem qK {n i : Nat} (h : 2 ≤ n) (hi : i < cut n) : sides n i = sides (cut n) i ++ [false] := by
 rw [sides, dif_pos h, if_pos hi]
theorem oZ {n i : Nat} (h : 2 ≤ n) (hi : cut n ≤ i) : sides n i = sides (n - cut n) (i - cut n) ++ [true] := by
 rw [sides, dif_pos h, if_neg (by omega)]
theorem sides_one {n : Nat} (i : Nat) (h : n < 2) : sides n i = [] := by rw [sides, dif_neg (by omega)]
def tQ (s : Bool) (q h : List UInt8) : List UInt8 := 1 :: (if s then q ++ h else h ++ q)
def chain (x : List UInt8) : List (Bool × List UInt8) → List (List UInt8)
 | [] => [x]
 | (s, q) :: r => x :: chain (tQ s q (sum x)) r
def top (x : List UInt8) : List (Bool × List UInt8) → List UInt8
 | [] => sum x
 | (s, q) :: r => top (tQ s q (sum x)) r
theorem rQ (s : Bool) (q : List UInt8) : ∀ (r : List (Bool × List UInt8)) (x : List UInt8), top x (r ++ [(s, q)]) = sum (tQ s q (top x r)) := by
 intro r
 induction r with
 | nil => intro x; rfl
 | cons e r ih => intro x; obtain ⟨t, y⟩ := e; exact ih _
theorem rl (s : Bool) (q h : List UInt8) : sum (tQ s q h) = if s then pair q h else pair h q := by
 cases s <;> rfl
theorem vQ (b : List UInt8) : ∀ (p : List (List UInt8)) (n i : Nat), 1 ≤ n → (climb b p n i).2 = decide (p.length = (sides n i).length) ∧ (p.length = (sides n i).length → (climb b p n i).1 = top (0 :: b) ((sides n i).zip p.reverse)) := by
 intro p
 induction p with
 | nil =>
  intro n i hn
  by_cases h1 : n = 1
  ·subst h1; rw [sides_one i (by omega)]; exact ⟨rfl, fun _ => rfl⟩
  ·have : (sides n i).length ≠ 0 := by
    rcases Nat.lt_or_ge i (cut n) with h | h
    ·rw [qK (by omega) h]; simp
    ·rw [oZ (by omega) h]; simp
   refine ⟨?_, fun h => absurd h.symm this⟩
   simp only [climb, List.length_nil]
   rw [decide_eq_false (Ne.symm this)]; simpa using h1
 | cons q r ih =>
  intro n i hn
  by_cases h1 : n = 1
  ·subst h1; rw [sides_one i (by omega)]
   simp [climb]
  ·have h2 : 2 ≤ n := by omega
   have c1 := cut_lt h2
   have c2 := cut_pos n
   simp only [climb, if_neg h1]
   rcases Nat.lt_or_ge i (cut n) with h | h
   ·obtain ⟨k1, k2⟩ := ih (cut n) i (by omega)
    rw [if_pos h, qK h2 h]
    refine ⟨by simp [k1], fun hl => ?_⟩
    have hl' : r.length = (sides (cut n) i).length := by simpa using hl
    rw [List.reverse_cons, List.zip_append (by simpa using hl'.symm), List.zip_cons_cons, List.zip_nil_right, rQ, rl, ← k2 hl']
    rfl
   ·obtain ⟨k1, k2⟩ := ih (n - cut n) (i - cut n) (by omega)
    rw [if_neg (by omega), oZ h2 h]
    refine ⟨by simp [k1], fun hl => ?_⟩
    have hl' : r.length = (sides (n - cut n) (i - cut n)).length := by simpa using hl
    rw [List.reverse_cons, List.zip_append (by simpa using hl'.symm), List.zip_cons_cons, List.zip_nil_right, rQ, rl, ← k2 hl']
    rfl
theorem check_top (root b : List UInt8) (n i : Int) (p : List (List UInt8)) : check root n i b p = if i < 0 ∨ n ≤ i then false else decide (p.length = (sides n.toNat i.toNat).length) && decide (top (0 :: b) ((sides n.toNat i.toNat).zip p) = root) := by
 unfold check
 split
 ·rfl
 ·rename_i h
  obtain ⟨k1, k2⟩ := vQ b p.reverse n.toNat i.toNat (by omega)
  rw [k1]
  simp only [List.length_reverse, List.reverse_reverse] at k2 ⊢
  by_cases hl : p.length = (sides n.toNat i.toNat).length
  ·rw [k2 hl]
  ·simp [hl]
def Met (a b : List (List UInt8)) : Prop := ∃ x ∈ a, ∃ y ∈ b, x ≠ y ∧ sum x = sum y
end Go.Proofs.YtbaccmkhjmmlnaaDoor.Sha
namespace Go.Proofs.YtbaccmkhjmmlnaaDoor
section
open Go.RowKit
def elems (xs : List (List UInt8)) : List (List UInt8) := (xs.take 9).map (·.take 40)
set_option maxRecDepth 100000
end
section
open Go.RowKit
set_option maxRecDepth 100000
end
section
namespace Sha
end Sha
end
section
open Go.RowKit
set_option maxRecDepth 100000
end
section
open Go.RowKit
set_option maxRecDepth 100000
end
section
open Go.RowKit
set_option maxRecDepth 100000
end
section
open Go.RowKit
set_option maxRecDepth 100000
end
section
open Go.RowKit
set_option maxRecDepth 100000
end
section
open Go.RowKit
set_option maxRecDepth 100000
end
section
open Go.RowKit
set_option maxRecDepth 100000
end
section
open Go.RowKit
set_option maxRecDepth 100000
section
open Classical
noncomputable def jx (l : List (List UInt8)) : Option (List UInt8) := if Fit l then some (Sha.root l) else none
theorem qN {l : List (List UInt8)} {r : List UInt8} (h : jx l = some r) : aq Tryd.prog HG 32 [.list 1 (l.map fV) false] (.agg 32 (aS r)) := by
 unfold jx at h; split at h
 ·cases h; exact yQ l (by assumption)
 ·cases h
noncomputable def fJ (l : List (List UInt8)) (i : Int) : Option (List (List UInt8) × Int) :=
 if Fit l then (if i < 0 ∨ (l.length : Int) ≤ i then some ([], 1) else some (Sha.proof l i.toNat, 0)) else none
theorem aq.res {P : Program} {G : Nat → Option D} {f : FuncId} {ds : List D} {r r' : D} (h : aq P G f ds r) (hr : r.le r') : aq P G f ds r' := by
 intro C w vs hG hk ha
 refine Calls.mono (h C w vs hG hk ha) ?_
 rintro e w' ⟨v, C', h1, h2, h3⟩
 exact ⟨v, C', h1, h2, hr _ _ h3⟩
theorem pO {l : List (List UInt8)} {i : Int} {r : List (List UInt8) × Int} (h : fJ l i = some r) : aq Tryd.prog HG 39 [.list 1 (l.map fV) false, .v (.int .i64 i)] (.tup [.list 32 (r.1.map aS) false, .v (.int .i64 r.2)]) := by
 unfold fJ at h; split at h
 ·rename_i hF
  split at h
  ·rename_i hi
   cases h
   exact (tP l i hi hF.1).res (sw ⟨aE _ _ _, D.le.refl _, trivial⟩)
  ·cases h
   obtain ⟨n, rfl⟩ : ∃ n : Nat, i = n := ⟨i.toNat, by omega⟩
   exact xN l n hF (by omega)
 ·cases h
noncomputable def iQ (root : List UInt8) (n i : Int) (b : List UInt8) (p : List (List UInt8)) : Option Bool :=
 if root.length = 32 ∧ b.length ≤ 900000 ∧ Len32 p ∧ p.length ≤ 1000000 ∧ n ≤ 4294967296 ∧ (-9223372036854775808 ≤ n) ∧ (-9223372036854775808 ≤ i ∧ i ≤ 9223372036854775807) then some (Sha.check root n i b p) else none
theorem pH {root : List UInt8} {n i : Int} {b : List UInt8} {p : List (List UInt8)} {r : Bool} (h : iQ root n i b p = some r) : aq Tryd.prog HG 46 [.agg 32 (aS root), .v (.int .i64 n), .v (.int .i64 i), .list 1 (b.map aL) false, .list 32 (p.map aS) false] (.v (.bool r)) := by
 unfold iQ at h; split at h
 ·rename_i hc
  obtain ⟨h1, h2, h3, h4, h5, h6, h7⟩ := hc
  cases h; exact xy root b n i p h1 h2 h3 h4 h5
 ·cases h
noncomputable def dY (l : List UInt8) : Option (List UInt8) := if l.length ≤ 900000 then some (Sha.leaf l) else none
theorem ja {l r : List UInt8} (h : dY l = some r) : aq Tryd.prog HG 29 [.list 1 (l.map aL) false] (.agg 32 (aS r)) := by
 unfold dY at h; split at h
 ·cases h; exact vH l (by assumption) HG
 ·cases h
end
end
section
open Go.RowKit
set_option maxRecDepth 100000
noncomputable def dF (a0 : List Int) (a1 : Int) : Option (List Int) :=
 bif (decide (a1 < 0)) then (
  none
 ) else (
  ob (arI .i64 (a1 - 0)) fun x2 =>
  bif (decide (0 < x2)) then (
   ob (pP x2) fun n4 =>
   some ([] : List Int)
  ) else (
   some ([] : List Int)
  )
 )
set_option maxHeartbeats 4000000 in
theorem kg {a0 : List Int} {a1 : Int} {r : List Int} (h : dF a0 a1 = some r) : d8 Tryd.prog HG 87 [.list 0 [] true, .v (.int .i64 a1)] .one 1 (r.map (aa .i64)) [] := by
 unfold dF at h
 refine d8.of Tryd.func87 rfl Tryd.ntmps87 (by simp) ?_
 intro F hF h0 hT
 show Sm F _ _ ⟨[(0, .d (.list 0 [] true)), (1, .d (.v (.int .i64 a1)))], [], 0⟩
 refine sr hF ?_
 refine gv hF oA ?_
 refine sn ?_
 refine Sm.seq ?_
 refine sr hF ?_
 refine gv hF oM ?_
 refine gv hF (oB (bP)) ?_
 refine sn ?_
 refine bA hF rfl (fun hc1 => ?_) (fun hc1 => ?_)
 ·replace h := ifT hc1 h
  refine ac hF rfl ?_
  cases h
 replace h := ifF hc1 h
 refine sk ?_
 refine Sm.seq ?_
 refine sr hF ?_
 refine gv hF oM ?_
 refine gv hF oM ?_
 refine SmG.capFull hF Tryd.underlying30 rfl rfl rfl rfl rfl ?_
 refine gv hF oM ?_
 refine gv hF (oN (q9 u30)) ?_
 refine gv hF (oB (lP (v := 0) rfl)) ?_
 obtain ⟨x2, hx2, h⟩ := ab h
 refine gv hF (oB (lP hx2)) ?_
 refine gv hF oA ?_
 refine sn ?_
 refine sr hF ?_
 refine gv hF oM ?_
 refine gv hF (oB (i3)) ?_
 refine sn ?_
 refine aU hF rfl (fun hc3 => ?_) (fun hc3 => ?_)
 ·replace h := ifF hc3 h
  refine sk ?_
  refine sr hF ?_
  refine gv hF oM ?_
  refine gv hF oA ?_
  refine sn ?_
  refine Sm.to (toK (e := [(4, .d (.list 0 [] true))]) (g := []) (m := 0) ⟨rfl, trivial⟩ trivial) ?_
  refine Sm.own (t := 4) 1 rfl ?_
  refine Sm.ret ?_
  obtain rfl := ae h
  exact km 0 rfl rfl rfl
 replace h := ifT hc3 h
 refine ac hF rfl ?_
 refine gv hF oM ?_
 refine gv hF oM ?_
 refine SmG.capFull hF Tryd.underlying30 rfl rfl rfl rfl rfl ?_
 refine SmG.sliceNil hF Tryd.underlying30 sz3 rfl rfl rfl rfl rfl rfl ?_
 refine gv hF oM ?_
 obtain ⟨n4, hn4, h⟩ := ab h
 refine SmG.appendMake hF iR Tryd.underlying3 rfl rfl rfl rfl rfl rfl (gM hn4).1 (gM hn4).2.1 (qA (gM hn4).2.2 rfl) (Nat.le_trans (gM hn4).2.2 (by decide)) ?_
 refine gv hF oM ?_
 refine gv hF (oN (q9 u30)) ?_
 refine gv hF (gq rfl rfl rfl rfl rfl (xj u30 rfl sz3)) ?_
 refine gv hF oA ?_
 refine sn ?_
 refine sr hF ?_
 refine gv hF oM ?_
 refine gv hF oA ?_
 refine sn ?_
 refine Sm.ret ?_
 obtain rfl := ae h
 exact km 0 rfl rfl rfl
noncomputable def bR (a0 : List (List Int)) (s1 : (Int × Int)) : Option ((Int × Int) ⊕ Int) :=
 bif (decide (s1.2 < (a0.length : Int))) then (
  ob (idx a0 s1.2) fun x6 =>
  ob (arI .i64 (s1.1 + (x6.length : Int))) fun x7 =>
  bif (decide (x7 < 0)) then (
   none
  ) else (
   ob (arI .i64 (s1.2 + 1)) fun x9 =>
   some (.inl (x7, x9))
  )
 ) else (
  some (.inr s1.1)
 )
noncomputable def bS (a0 : List (List Int)) (s12 : (Int × (List Int))) : Option ((Int × (List Int)) ⊕ List Int) :=
 bif (decide (s12.1 < (a0.length : Int))) then (
  ob (idx a0 s12.1) fun x17 =>
  ob (app s12.2 x17) fun x18 =>
  ob (arI .i64 (s12.1 + 1)) fun x19 =>
  some (.inl (x19, x18))
 ) else (
  some (.inr s12.2)
 )
noncomputable def dl (a0 : List (List Int)) : Option (List Int) :=
 ob ((
  bC (bR a0) (0, 0)
  : Option Int)) fun v10 =>
 ob (dF [] v10) fun x11 =>
 ob ((
  bC (bS a0) (0, x11)
  : Option (List Int))) fun v20 =>
 some v20
set_option maxHeartbeats 4000000 in
theorem jT {a0 : List (List Int)} {r : List Int} (h : dl a0 = some r) : d8 Tryd.prog HG 65 [.list 1 (a0.map (aw 1 (aa .i64))) false] .one 1 (r.map (aa .i64)) [] := by
 unfold dl at h
 refine d8.of Tryd.func65 rfl Tryd.ntmps65 (by simp) ?_
 intro F hF h0 hT
 show Sm F _ _ ⟨[(0, .d (.list 1 (a0.map (aw 1 (aa .i64))) false))], [], 0⟩
 refine sr hF ?_
 refine gv hF oA ?_
 refine sn ?_
 refine sr hF ?_
 refine gv hF oA ?_
 refine sn ?_
 refine Sm.seq ?_
 obtain ⟨v10, hv10, h⟩ := ab h
 refine dh ⟨[(0, .d (.list 1 (a0.map (aw 1 (aa .i64))) false)), (3, .d (.v (.int .i64 v10)))], [], 0⟩ ?_ ?_
 ·replace h := hv10
  refine sr hF ?_
  refine gv hF oM ?_
  refine gv hF (oN (bF u71)) ?_
  refine gv hF oM ?_
  refine sn ?_
  refine Sm.block ?_
  refine bV (bR a0) (fun s1 => ⟨[(0, .d (.list 1 (a0.map (aw 1 (aa .i64))) false)), (3, .d (.v (.int .i64 s1.1))), (9, .d (.list 1 (a0.map (aw 1 (aa .i64))) false)), (10, .d (.v (.int .i64 (a0.length : Int)))), (11, .d (.v (.int .i64 s1.2)))], [], 0⟩) (0, 0) h (toK ⟨rfl, rfl, rfl, rfl, rfl, trivial⟩ trivial) ?_
  intro n2 s1 o3 h hd4
  unfold bR at h
  refine sr hF ?_
  refine gv hF (oB (bP)) ?_
  refine sn ?_
  refine Sm.seq ?_
  refine aU hF rfl (fun hc5 => ?_) (fun hc5 => ?_)
  ·replace h := ifF hc5 h
   refine Sm.exit ?_
   replace h := bc h hd4
   obtain rfl := ae h
   exact (toK ⟨rfl, rfl, trivial⟩ trivial)
  replace h := ifT hc5 h
  refine sk ?_
  refine Sm.seq ?_
  refine Sm.block ?_
  refine sr hF ?_
  obtain ⟨x6, hx6, h⟩ := ab h
  refine gv hF (oI (cE u71 eI hx6)) ?_
  refine gv hF (oL (lP1 ep rfl)) ?_
  refine gv hF oA ?_
  refine sn ?_
  refine sr hF ?_
  refine gv hF oM ?_
  refine gv hF oM ?_
  refine gv hF (oN (bF u30)) ?_
  obtain ⟨x7, hx7, h⟩ := ab h
  refine gv hF (oB (a8 hx7)) ?_
  refine gv hF oA ?_
  refine sn ?_
  refine sr hF ?_
  refine gv hF oM ?_
  refine gv hF (oB (bP)) ?_
  refine sn ?_
  refine bA hF rfl (fun hc8 => ?_) (fun hc8 => ?_)
  ·replace h := ifT hc8 h
   refine ac hF rfl ?_
   cases h
  replace h := ifF hc8 h
  refine Sm.skip ?_
  refine ay ?_
  refine ag ?_
  refine ac hF rfl ?_
  obtain ⟨x9, hx9, h⟩ := ab h
  refine gv hF (oB (a8 hx9)) ?_
  refine gv hF oM ?_
  refine SmG.nil ?_
  exact bZ (bH h hd4) (toK ⟨rfl, rfl, rfl, rfl, rfl, trivial⟩ trivial)
 refine sr hF ?_
 refine gv hF oM ?_
 obtain ⟨x11, hx11, h⟩ := ab h
 refine SmG.callO hF rfl rfl (by kernel_rfl) rfl rfl rfl (kg hx11) ?_
 refine gv hF oA ?_
 refine sn ?_
 refine Sm.seq ?_
 obtain ⟨v20, hv20, h⟩ := ab h
 refine bk ⟨[(6, .sref 0 0 (v20.map (aa .i64)).length)], [(0, dB 1 (v20.map (aa .i64)))], 1⟩ ?_ ?_
 ·refine Sm.seq ?_
  refine ac hF rfl ?_
  refine gv hF oM ?_
  refine gv hF oA ?_
  refine sn ?_
  refine Sm.ret ?_
  obtain rfl := ae h
  exact km 0 rfl rfl rfl
 replace h := hv20
 refine sr hF ?_
 refine gv hF oM ?_
 refine gv hF (oN (bF u71)) ?_
 refine gv hF oM ?_
 refine sn ?_
 refine Sm.block ?_
 refine bV (bS a0) (fun s12 => ⟨[(6, .sref 0 0 (s12.2.map (aa .i64)).length), (25, .d (.list 1 (a0.map (aw 1 (aa .i64))) false)), (26, .d (.v (.int .i64 (a0.length : Int)))), (27, .d (.v (.int .i64 s12.1)))], [(0, dB 1 (s12.2.map (aa .i64)))], 1⟩) (0, x11) h (toK ⟨rfl, rfl, rfl, rfl, trivial⟩ ⟨rfl, trivial⟩) ?_
 intro n13 s12 o14 h hd15
 unfold bS at h
 refine sr hF ?_
 refine gv hF (oB (bP)) ?_
 refine sn ?_
 refine Sm.seq ?_
 refine aU hF rfl (fun hc16 => ?_) (fun hc16 => ?_)
 ·replace h := ifF hc16 h
  refine Sm.exit ?_
  replace h := bc h hd15
  obtain rfl := ae h
  exact (toK ⟨rfl, trivial⟩ ⟨rfl, trivial⟩)
 replace h := ifT hc16 h
 refine sk ?_
 refine Sm.seq ?_
 refine Sm.block ?_
 refine sr hF ?_
 obtain ⟨x17, hx17, h⟩ := ab h
 refine gv hF (oI (cE u71 eI hx17)) ?_
 refine gv hF (oL (lP1 ep rfl)) ?_
 refine gv hF oA ?_
 refine sn ?_
 refine ac hF rfl ?_
 refine gv hF oM ?_
 refine gv hF oM ?_
 obtain ⟨x18, hx18, h⟩ := ab h
 refine aZ hF iR rfl (ys := x17) (row := (aa .i64)) rfl rfl rfl rfl rfl rfl rfl rfl (.inl rfl) hx18 (by (repeat' first | exact bD _ | refine bq ?_ | refine au ?_ (aW _ _ _) | refine au ?_ (aW _ _ [_]) | refine au ?_ (bU (by rfl)))) ?_
 refine gv hF oA ?_
 refine SmG.nil ?_
 refine ay ?_
 refine ag ?_
 refine ac hF rfl ?_
 obtain ⟨x19, hx19, h⟩ := ab h
 refine gv hF (oB (a8 hx19)) ?_
 refine gv hF oM ?_
 refine SmG.nil ?_
 exact bZ (bH h hd15) (toK ⟨rfl, rfl, rfl, rfl, trivial⟩ ⟨rfl, trivial⟩)
noncomputable def dk (a0 : List UInt8) (a1 : Int) : Option (List UInt8) :=
 bif (decide (a1 < 0)) then (
  none
 ) else (
  ob (arI .i64 (a1 - 0)) fun x2 =>
  bif (decide (0 < x2)) then (
   ob (pP x2) fun n4 =>
   some ([] : List UInt8)
  ) else (
   some ([] : List UInt8)
  )
 )
set_option maxHeartbeats 4000000 in
theorem jN {a0 : List UInt8} {a1 : Int} {r : List UInt8} (h : dk a0 a1 = some r) : d8 Tryd.prog HG 64 [.list 0 [] true, .v (.int .i64 a1)] .one 1 (r.map aL) [] := by
 unfold dk at h
 refine d8.of Tryd.func64 rfl Tryd.ntmps64 (by simp) ?_
 intro F hF h0 hT
 show Sm F _ _ ⟨[(0, .d (.list 0 [] true)), (1, .d (.v (.int .i64 a1)))], [], 0⟩
 refine sr hF ?_
 refine gv hF oA ?_
 refine sn ?_
 refine Sm.seq ?_
 refine sr hF ?_
 refine gv hF oM ?_
 refine gv hF (oB (bP)) ?_
 refine sn ?_
 refine bA hF rfl (fun hc1 => ?_) (fun hc1 => ?_)
 ·replace h := ifT hc1 h
  refine ac hF rfl ?_
  cases h
 replace h := ifF hc1 h
 refine sk ?_
 refine Sm.seq ?_
 refine sr hF ?_
 refine gv hF oM ?_
 refine gv hF oM ?_
 refine SmG.capFull hF Tryd.underlying24 rfl rfl rfl rfl rfl ?_
 refine gv hF oM ?_
 refine gv hF (oN (q9 u24)) ?_
 refine gv hF (oB (lP (v := 0) rfl)) ?_
 obtain ⟨x2, hx2, h⟩ := ab h
 refine gv hF (oB (lP hx2)) ?_
 refine gv hF oA ?_
 refine sn ?_
 refine sr hF ?_
 refine gv hF oM ?_
 refine gv hF (oB (i3)) ?_
 refine sn ?_
 refine aU hF rfl (fun hc3 => ?_) (fun hc3 => ?_)
 ·replace h := ifF hc3 h
  refine sk ?_
  refine sr hF ?_
  refine gv hF oM ?_
  refine gv hF oA ?_
  refine sn ?_
  refine Sm.to (toK (e := [(4, .d (.list 0 [] true))]) (g := []) (m := 0) ⟨rfl, trivial⟩ trivial) ?_
  refine Sm.own (t := 4) 1 rfl ?_
  refine Sm.ret ?_
  obtain rfl := ae h
  exact km 0 rfl rfl rfl
 replace h := ifT hc3 h
 refine ac hF rfl ?_
 refine gv hF oM ?_
 refine gv hF oM ?_
 refine SmG.capFull hF Tryd.underlying24 rfl rfl rfl rfl rfl ?_
 refine SmG.sliceNil hF Tryd.underlying24 sz5 rfl rfl rfl rfl rfl rfl ?_
 refine gv hF oM ?_
 obtain ⟨n4, hn4, h⟩ := ab h
 refine SmG.appendMake hF m6 Tryd.underlying3 rfl rfl rfl rfl rfl rfl (gM hn4).1 (gM hn4).2.1 (qA (gM hn4).2.2 rfl) (Nat.le_trans (gM hn4).2.2 (by decide)) ?_
 refine gv hF oM ?_
 refine gv hF (oN (q9 u24)) ?_
 refine gv hF (gq rfl rfl rfl rfl rfl (xj u24 rfl sz5)) ?_
 refine gv hF oA ?_
 refine sn ?_
 refine sr hF ?_
 refine gv hF oM ?_
 refine gv hF oA ?_
 refine sn ?_
 refine Sm.ret ?_
 obtain rfl := ae h
 exact km 0 rfl rfl rfl
noncomputable def bJ (a0 : List (List UInt8)) (s1 : (Int × Int)) : Option ((Int × Int) ⊕ Int) :=
 bif (decide (s1.2 < (a0.length : Int))) then (
  ob (idx a0 s1.2) fun x6 =>
  ob (arI .i64 (s1.1 + (x6.length : Int))) fun x7 =>
  bif (decide (x7 < 0)) then (
   none
  ) else (
   ob (arI .i64 (s1.2 + 1)) fun x9 =>
   some (.inl (x7, x9))
  )
 ) else (
  some (.inr s1.1)
 )
noncomputable def bK (a0 : List (List UInt8)) (s12 : (Int × (List UInt8))) : Option ((Int × (List UInt8)) ⊕ List UInt8) :=
 bif (decide (s12.1 < (a0.length : Int))) then (
  ob (idx a0 s12.1) fun x17 =>
  ob (app s12.2 x17) fun x18 =>
  ob (arI .i64 (s12.1 + 1)) fun x19 =>
  some (.inl (x19, x18))
 ) else (
  some (.inr s12.2)
 )
noncomputable def cS (a0 : List (List UInt8)) : Option (List UInt8) :=
 ob ((
  bC (bJ a0) (0, 0)
  : Option Int)) fun v10 =>
 ob (dk [] v10) fun x11 =>
 ob ((
  bC (bK a0) (0, x11)
  : Option (List UInt8))) fun v20 =>
 some v20
set_option maxHeartbeats 4000000 in
theorem jc {a0 : List (List UInt8)} {r : List UInt8} (h : cS a0 = some r) : d8 Tryd.prog HG 36 [.list 1 (a0.map fV) false] .one 1 (r.map aL) [] := by
 unfold cS at h
 refine d8.of Tryd.func36 rfl Tryd.ntmps36 (by simp) ?_
 intro F hF h0 hT
 show Sm F _ _ ⟨[(0, .d (.list 1 (a0.map fV) false))], [], 0⟩
 refine sr hF ?_
 refine gv hF oA ?_
 refine sn ?_
 refine sr hF ?_
 refine gv hF oA ?_
 refine sn ?_
 refine Sm.seq ?_
 obtain ⟨v10, hv10, h⟩ := ab h
 refine dh ⟨[(0, .d (.list 1 (a0.map fV) false)), (3, .d (.v (.int .i64 v10)))], [], 0⟩ ?_ ?_
 ·replace h := hv10
  refine sr hF ?_
  refine gv hF oM ?_
  refine gv hF (oN (bF u61)) ?_
  refine gv hF oM ?_
  refine sn ?_
  refine Sm.block ?_
  refine bV (bJ a0) (fun s1 => ⟨[(0, .d (.list 1 (a0.map fV) false)), (3, .d (.v (.int .i64 s1.1))), (9, .d (.list 1 (a0.map fV) false)), (10, .d (.v (.int .i64 (a0.length : Int)))), (11, .d (.v (.int .i64 s1.2)))], [], 0⟩) (0, 0) h (toK ⟨rfl, rfl, rfl, rfl, rfl, trivial⟩ trivial) ?_
  intro n2 s1 o3 h hd4
  unfold bJ at h
  refine sr hF ?_
  refine gv hF (oB (bP)) ?_
  refine sn ?_
  refine Sm.seq ?_
  refine aU hF rfl (fun hc5 => ?_) (fun hc5 => ?_)
  ·replace h := ifF hc5 h
   refine Sm.exit ?_
   replace h := bc h hd4
   obtain rfl := ae h
   exact (toK ⟨rfl, rfl, trivial⟩ trivial)
  replace h := ifT hc5 h
  refine sk ?_
  refine Sm.seq ?_
  refine Sm.block ?_
  refine sr hF ?_
  obtain ⟨x6, hx6, h⟩ := ab h
  refine gv hF (oI (cE u61 ln hx6)) ?_
  refine gv hF (oL (lP1 nq rfl)) ?_
  refine gv hF oA ?_
  refine sn ?_
  refine sr hF ?_
  refine gv hF oM ?_
  refine gv hF oM ?_
  refine gv hF (oN (bF u24)) ?_
  obtain ⟨x7, hx7, h⟩ := ab h
  refine gv hF (oB (a8 hx7)) ?_
  refine gv hF oA ?_
  refine sn ?_
  refine sr hF ?_
  refine gv hF oM ?_
  refine gv hF (oB (bP)) ?_
  refine sn ?_
  refine bA hF rfl (fun hc8 => ?_) (fun hc8 => ?_)
  ·replace h := ifT hc8 h
   refine ac hF rfl ?_
   cases h
  replace h := ifF hc8 h
  refine Sm.skip ?_
  refine ay ?_
  refine ag ?_
  refine ac hF rfl ?_
  obtain ⟨x9, hx9, h⟩ := ab h
  refine gv hF (oB (a8 hx9)) ?_
  refine gv hF oM ?_
  refine SmG.nil ?_
  exact bZ (bH h hd4) (toK ⟨rfl, rfl, rfl, rfl, rfl, trivial⟩ trivial)
 refine sr hF ?_
 refine gv hF oM ?_
 obtain ⟨x11, hx11, h⟩ := ab h
 refine SmG.callO hF rfl rfl (by kernel_rfl) rfl rfl rfl (jN hx11) ?_
 refine gv hF oA ?_
 refine sn ?_
 refine Sm.seq ?_
 obtain ⟨v20, hv20, h⟩ := ab h
 refine bk ⟨[(6, .sref 0 0 (v20.map aL).length)], [(0, dB 1 (v20.map aL))], 1⟩ ?_ ?_
 ·refine Sm.seq ?_
  refine ac hF rfl ?_
  refine gv hF oM ?_
  refine gv hF oA ?_
  refine sn ?_
  refine Sm.ret ?_
  obtain rfl := ae h
  exact km 0 rfl rfl rfl
 replace h := hv20
 refine sr hF ?_
 refine gv hF oM ?_
 refine gv hF (oN (bF u61)) ?_
 refine gv hF oM ?_
 refine sn ?_
 refine Sm.block ?_
 refine bV (bK a0) (fun s12 => ⟨[(6, .sref 0 0 (s12.2.map aL).length), (25, .d (.list 1 (a0.map fV) false)), (26, .d (.v (.int .i64 (a0.length : Int)))), (27, .d (.v (.int .i64 s12.1)))], [(0, dB 1 (s12.2.map aL))], 1⟩) (0, x11) h (toK ⟨rfl, rfl, rfl, rfl, trivial⟩ ⟨rfl, trivial⟩) ?_
 intro n13 s12 o14 h hd15
 unfold bK at h
 refine sr hF ?_
 refine gv hF (oB (bP)) ?_
 refine sn ?_
 refine Sm.seq ?_
 refine aU hF rfl (fun hc16 => ?_) (fun hc16 => ?_)
 ·replace h := ifF hc16 h
  refine Sm.exit ?_
  replace h := bc h hd15
  obtain rfl := ae h
  exact (toK ⟨rfl, trivial⟩ ⟨rfl, trivial⟩)
 replace h := ifT hc16 h
 refine sk ?_
 refine Sm.seq ?_
 refine Sm.block ?_
 refine sr hF ?_
 obtain ⟨x17, hx17, h⟩ := ab h
 refine gv hF (oI (cE u61 ln hx17)) ?_
 refine gv hF (oL (lP1 nq rfl)) ?_
 refine gv hF oA ?_
 refine sn ?_
 refine ac hF rfl ?_
 refine gv hF oM ?_
 refine gv hF oM ?_
 obtain ⟨x18, hx18, h⟩ := ab h
 refine aZ hF m6 rfl (ys := x17) (row := aL) rfl rfl rfl rfl rfl rfl rfl rfl (.inl rfl) hx18 (by (repeat' first | exact bD _ | refine bq ?_ | refine au ?_ (aW _ _ _) | refine au ?_ (aW _ _ [_]) | refine au ?_ (bU (by rfl)))) ?_
 refine gv hF oA ?_
 refine SmG.nil ?_
 refine ay ?_
 refine ag ?_
 refine ac hF rfl ?_
 obtain ⟨x19, hx19, h⟩ := ab h
 refine gv hF (oB (a8 hx19)) ?_
 refine gv hF oM ?_
 refine SmG.nil ?_
 exact bZ (bH h hd15) (toK ⟨rfl, rfl, rfl, rfl, trivial⟩ ⟨rfl, trivial⟩)
end
section
open Go.RowKit
set_option maxRecDepth 100000
structure Ans where
 version : Int
 index : Int
 count : Int
 pos : Ps
 entry : Rs
 proof : List (List UInt8)
def Ans.row (x : Ans) : List D := [.v (.int .i64 x.version), .v (.int .i64 x.index), .v (.int .i64 x.count), .list 1 (x.pos.at_.map (aa .i64)) false, .list 1 (x.pos.h0.map (aa .i64)) false, .list 1 (x.pos.h1.map (aa .i64)) false, .v (.int .i64 x.pos.rights), .v (.int .i64 x.pos.side), .v (.int .i64 x.entry.out), .v (.int .i64 x.entry.n), .list 32 (x.proof.map aS) false]
structure Pvd where
 l : List (List UInt8)
 e : Int
def Pvd.row (x : Pvd) : List D := [.list 32 (x.l.map aS) false, .v (.int .i64 x.e)]
noncomputable def eg (a0 : GRaw) (x1 : Brd) (x2 : Int) (v5 : Int) (s9 : (Int × (List (List Stp)))) : Option ((Int × (List (List Stp))) ⊕ List (List Stp)) :=
 bif (decide (s9.1 < (a0.k0.length : Int))) then (
  bif (decide (s9.1 < 4)) then (
   ob (idx a0.k0 s9.1) fun x15 =>
   ob (dU x15 (x1.next.length : Int) v5 x2) fun x16 =>
   ob (app s9.2 [x16]) fun x17 =>
   ob (arI .i64 (s9.1 + 1)) fun x18 =>
   some (.inl (x18, x17))
  ) else (
   some (.inr s9.2)
  )
 ) else (
  some (.inr s9.2)
 )
noncomputable def dV (a0 : GRaw) (x1 : Brd) (x2 : Int) (v5 : Int) (s25 : (Int × (List (List Stp)))) : Option ((Int × (List (List Stp))) ⊕ List (List Stp)) :=
 bif (decide (s25.1 < (a0.k1.length : Int))) then (
  bif (decide (s25.1 < 4)) then (
   ob (idx a0.k1 s25.1) fun x31 =>
   ob (dU x31 (x1.next.length : Int) v5 x2) fun x32 =>
   ob (app s25.2 [x32]) fun x33 =>
   ob (arI .i64 (s25.1 + 1)) fun x34 =>
   some (.inl (x34, x33))
  ) else (
   some (.inr s25.2)
  )
 ) else (
  some (.inr s25.2)
 )
noncomputable def gm (s41 : Int) : Option (Int ⊕ List Knd) :=
 none
noncomputable def dS (a0 : GRaw) (x1 : Brd) (v5 : Int) (s60 : (Int × (List Cls))) : Option ((Int × (List Cls)) ⊕ List Cls) :=
 bif (decide (s60.1 < (a0.c.length : Int))) then (
  bif (decide (s60.1 < 3)) then (
   ob (idx a0.c s60.1) fun x66 =>
   ob (cH (x66.1.toNat : Int) 3) fun x67 =>
   ob (arI .i64 (1 + x67)) fun x68 =>
   ob (idx a0.c s60.1) fun x69 =>
   ob (iV .u8 (x69.1.toNat : Int) 4) fun x70 =>
   ob (arI .i64 x70) fun x71 =>
   ob (cH x71 3) fun x72 =>
   ob (arI .i64 (1 + x72)) fun x73 =>
   ob ((
    bif (x68 != 3) then (
     ob (idx a0.c s60.1) fun x75 =>
     ob (cH (x75.2.1.toNat : Int) v5) fun x76 =>
     some x76
    ) else (
     some 0
    )
    : Option Int)) fun v77 =>
   ob ((
    bif (x68 == 2) then (
     ob (idx a0.c s60.1) fun x79 =>
     ob (cH (x79.2.2.toNat : Int) x1.cells) fun x80 =>
     some x80
    ) else (
     some 0
    )
    : Option Int)) fun v81 =>
   ob ((
    bif (x68 == 3) then (
     ob (idx a0.c s60.1) fun x83 =>
     ob (cH (x83.2.2.toNat : Int) 3) fun x84 =>
     some x84
    ) else (
     some v81
    )
    : Option Int)) fun v85 =>
   ob (app s60.2 [(⟨x68, v77, v85, x73⟩ : Cls)]) fun x86 =>
   ob (arI .i64 (s60.1 + 1)) fun x87 =>
   some (.inl (x87, x86))
  ) else (
   some (.inr s60.2)
  )
 ) else (
  some (.inr s60.2)
 )
noncomputable def e7 (a0 : GRaw) : Option Gm :=
 ob (eY a0.w a0.h a0.cut) fun x1 =>
 ob (cH (a0.f0.toNat : Int) 3) fun x2 =>
 ob (cH (a0.f1.toNat : Int) 4) fun x3 =>
 ob ((
  bif (decide (0 < (a0.k1.length : Int))) then (
   some 2
  ) else (
   some 1
  )
  : Option Int)) fun v5 =>
 ob ((
  bif (decide (0 < v5)) then (
   ob ((
    ob (idx ([([97] : List UInt8), ([98, 101, 101] : List UInt8)]) 0) fun x7 =>
    ob (jg .u8 (a0.f2.toNat : Int) 0) fun x8 =>
    ob ((
     bC (eg a0 x1 x2 v5) (0, ([] : List (List Stp)))
     : Option (List (List Stp)))) fun v19 =>
    ob (app ([] : List Knd) [(⟨x7, v19, ((c8 .u8 x8 1) == 1)⟩ : Knd)]) fun x20 =>
    some x20
    : Option (List Knd))) fun v21 =>
   bif (decide (1 < v5)) then (
    ob ((
     ob (idx ([([97] : List UInt8), ([98, 101, 101] : List UInt8)]) 1) fun x23 =>
     ob (jg .u8 (a0.f2.toNat : Int) 1) fun x24 =>
     ob ((
      bC (dV a0 x1 x2 v5) (0, ([] : List (List Stp)))
      : Option (List (List Stp)))) fun v35 =>
     ob (app v21 [(⟨x23, v35, ((c8 .u8 x24 1) == 1)⟩ : Knd)]) fun x36 =>
     some x36
     : Option (List Knd))) fun v37 =>
    bif (decide (2 < v5)) then (
     ob (idx ([([97] : List UInt8), ([98, 101, 101] : List UInt8)]) 2) fun x39 =>
     ob (jg .u8 (a0.f2.toNat : Int) 2) fun x40 =>
     bC (gm) 0
    ) else (
     some v37
    )
   ) else (
    some v21
   )
  ) else (
   some []
  )
  : Option (List Knd))) fun v45 =>
 ob ((
  ob (cH (a0.f3.toNat : Int) 4) fun x46 =>
  bif (x46 == 3) then (
   ob (iV .u8 (a0.f3.toNat : Int) 4) fun x48 =>
   ob (arI .i64 x48) fun x49 =>
   ob (cH x49 3) fun x50 =>
   ob (arI .i64 (1 + x50)) fun x51 =>
   some x51
  ) else (
   some 3
  )
  : Option Int)) fun v52 =>
 ob ((
  ob (cH (a0.f4.toNat : Int) 4) fun x53 =>
  bif (x53 == 3) then (
   ob (iV .u8 (a0.f4.toNat : Int) 4) fun x55 =>
   ob (arI .i64 x55) fun x56 =>
   ob (cH x56 3) fun x57 =>
   ob (arI .i64 (1 + x57)) fun x58 =>
   some x58
  ) else (
   some 2
  )
  : Option Int)) fun v59 =>
 ob ((
  bC (dS a0 x1 v5) (0, ([] : List Cls))
  : Option (List Cls))) fun v88 =>
 some (⟨x1, v45, x2, (x3 == 3), v88, v52, v59⟩ : Gm)
set_option maxHeartbeats 4000000 in
theorem mu {a0 : GRaw} {r : Gm} (h : e7 a0 = some r) : aq Tryd.prog HG 24 [.agg 12 (GRaw.row a0)] (.agg 9 (Gm.row r)) := by
 unfold e7 at h
 refine aq.of Tryd.func24 rfl Tryd.ntmps24 (by simp) ?_
 intro F hF h0 hT
 show Sm F _ _ ⟨[(0, .d (.agg 12 (GRaw.row a0)))], [], 0⟩
 refine sr hF ?_
 refine cG hF gu ?_
 refine SmG.new hF rfl rfl rfl (aT rfl y4) ?_
 refine sn ?_
 refine Sm.seq ?_
 refine bm hF (by kernel_rfl) rfl 19 (by kernel_rfl) (by kernel_rfl) ?_
 simp only [List.take_succ_cons, List.take_zero, List.take_nil]
 refine hv hF (oF (aj yE rfl)) ?_
 refine hv hF (oL (lP1 ag5 rfl)) ?_
 refine hv hF (oF (aj yl rfl)) ?_
 refine hv hF (oL (lP1 ag5 rfl)) ?_
 refine hv hF (oF (aj zx rfl)) ?_
 refine hv hF (oL (lP1 ag5 rfl)) ?_
 obtain ⟨x1, hx1, h⟩ := ab h
 refine af.c hF rfl rfl (by kernel_rfl) rfl rfl rfl (mB hx1) ?_
 refine hv hF (oF (aj iZ rfl)) ?_
 refine hv hF (oI (cF u27 sz5 rfl rfl)) ?_
 refine hv hF (oL (lP1 ag5 rfl)) ?_
 refine hv hF (oC (dJ u5 u3 (dz _))) ?_
 obtain ⟨x2, hx2, h⟩ := ab h
 refine hv hF (oB (bG hx2)) ?_
 refine hv hF (oF (aj iZ rfl)) ?_
 refine hv hF (oI (cF u27 sz5 rfl rfl)) ?_
 refine hv hF (oL (lP1 ag5 rfl)) ?_
 obtain ⟨x3, hx3, h⟩ := ab h
 refine hv hF (oB (bG hx3)) ?_
 refine hv hF (oB (cq)) ?_
 refine hv hF (x := .d (.agg 9 [.v (.int .i64 x1.cells), .list 1 (x1.next.map (aw 1 (aa .i64))) false, .list 1 (x1.turn.map (aa .i64)) false, .list 0 [] true, .v (.int .i64 x2), .v (.bool (x3 == 3)), .list 0 [] true, .v (.int .i64 3), .v (.int .i64 2)])) (aY rfl u77 (by kernel_rfl) rfl (bd (n := 9) yw FL rfl rfl)) ?_
 refine af.new hF rfl rfl rfl rfl y4 ?_
 refine af.last ⟨rfl, ?_⟩
 simp only [List.drop_succ_cons, List.drop_zero, List.drop_nil, List.nil_append, List.cons_append]
 refine SmG.store hF rfl rfl rfl rfl rfl (aX (ys := [.d (.v (.int .i64 x1.cells)), .d (.list 1 (x1.next.map (aw 1 (aa .i64))) false), .d (.list 1 (x1.turn.map (aa .i64)) false), .d (.list 0 [] true), .d (.v (.int .i64 x2)), .d (.v (.bool (x3 == 3))), .d (.list 0 [] true), .d (.v (.int .i64 3)), .d (.v (.int .i64 2))]) (r := [.d (.v (.int .i64 0)), .d (.list 0 [] true), .d (.list 0 [] true), .d (.list 0 [] true), .d (.v (.int .i64 0)), .d (.v (.bool false)), .d (.list 0 [] true), .d (.v (.int .i64 0)), .d (.v (.int .i64 0))]) (rows' := [[.d (.v (.int .i64 x1.cells)), .d (.list 1 (x1.next.map (aw 1 (aa .i64))) false), .d (.list 1 (x1.turn.map (aa .i64)) false), .d (.list 0 [] true), .d (.v (.int .i64 x2)), .d (.v (.bool (x3 == 3))), .d (.list 0 [] true), .d (.v (.int .i64 3)), .d (.v (.int .i64 2))]]) rfl rfl rfl qh rfl rfl rfl rfl rfl) ?_
 refine sn ?_
 refine sr hF ?_
 refine gv hF oA ?_
 refine sn ?_
 refine Sm.seq ?_
 obtain ⟨v5, hv5, h⟩ := ab h
 refine dh ⟨[(1, .d (.ptr 12 (GRaw.row a0))), (2, .ref 0 0 0), (3, .ref 1 0 0), (4, .d (.v (.int .i64 v5)))], [(1, ⟨9, [[.d (.v (.int .i64 x1.cells)), .d (.list 1 (x1.next.map (aw 1 (aa .i64))) false), .d (.list 1 (x1.turn.map (aa .i64)) false), .d (.list 0 [] true), .d (.v (.int .i64 x2)), .d (.v (.bool (x3 == 3))), .d (.list 0 [] true), .d (.v (.int .i64 3)), .d (.v (.int .i64 2))]]⟩), (0, ⟨9, [[.d (.v (.int .i64 0)), .d (.list 0 [] true), .d (.list 0 [] true), .d (.list 0 [] true), .d (.v (.int .i64 0)), .d (.v (.bool false)), .d (.list 0 [] true), .d (.v (.int .i64 0)), .d (.v (.int .i64 0))]]⟩)], 2⟩ ?_ ?_
 ·replace h := hv5
  refine sr hF ?_
  refine gv hF (oF (aj l6 rfl)) ?_
  refine gv hF (oI (cF u25 ln rfl rfl)) ?_
  refine gv hF (oL (lP1 nq rfl)) ?_
  refine gv hF (oN (bF u24)) ?_
  refine gv hF (oB (i3)) ?_
  refine sn ?_
  refine aU hF rfl (fun hc4 => ?_) (fun hc4 => ?_)
  ·replace h := ifF hc4 h
   refine Sm.skip ?_
   obtain rfl := ae h
   exact (toK ⟨rfl, rfl, rfl, rfl, trivial⟩ ⟨rfl, rfl, trivial⟩)
  replace h := ifT hc4 h
  refine ac hF rfl ?_
  refine gv hF oA ?_
  refine SmG.nil ?_
  obtain rfl := ae h
  exact (toK ⟨rfl, rfl, rfl, rfl, trivial⟩ ⟨rfl, rfl, trivial⟩)
 refine Sm.seq ?_
 obtain ⟨v45, hv45, h⟩ := ab h
 refine bk ⟨[(1, .d (.ptr 12 (GRaw.row a0))), (2, .ref 0 0 0), (3, .ref 1 0 0), (4, .d (.v (.int .i64 v5)))], [(1, ⟨9, [[.d (.v (.int .i64 x1.cells)), .d (.list 1 (x1.next.map (aw 1 (aa .i64))) false), .d (.list 1 (x1.turn.map (aa .i64)) false), .d (.list 3 (v45.map Knd.row) false), .d (.v (.int .i64 x2)), .d (.v (.bool (x3 == 3))), .d (.list 0 [] true), .d (.v (.int .i64 3)), .d (.v (.int .i64 2))]]⟩), (0, ⟨9, [[.d (.v (.int .i64 0)), .d (.list 0 [] true), .d (.list 0 [] true), .d (.list 0 [] true), .d (.v (.int .i64 0)), .d (.v (.bool false)), .d (.list 0 [] true), .d (.v (.int .i64 0)), .d (.v (.int .i64 0))]]⟩)], 7⟩ ?_ ?_
 ·refine Sm.seq ?_
  obtain ⟨v52, hv52, h⟩ := ab h
  refine dh ⟨[(1, .d (.ptr 12 (GRaw.row a0))), (2, .ref 0 0 0), (3, .ref 1 0 0), (4, .d (.v (.int .i64 v5)))], [(1, ⟨9, [[.d (.v (.int .i64 x1.cells)), .d (.list 1 (x1.next.map (aw 1 (aa .i64))) false), .d (.list 1 (x1.turn.map (aa .i64)) false), .d (.list 3 (v45.map Knd.row) false), .d (.v (.int .i64 x2)), .d (.v (.bool (x3 == 3))), .d (.list 0 [] true), .d (.v (.int .i64 v52)), .d (.v (.int .i64 2))]]⟩), (0, ⟨9, [[.d (.v (.int .i64 0)), .d (.list 0 [] true), .d (.list 0 [] true), .d (.list 0 [] true), .d (.v (.int .i64 0)), .d (.v (.bool false)), .d (.list 0 [] true), .d (.v (.int .i64 0)), .d (.v (.int .i64 0))]]⟩)], 7⟩ ?_ ?_
  ·replace h := hv52
   refine sr hF ?_
   refine gv hF (oF (aj iZ rfl)) ?_
   refine gv hF (oI (cF u27 sz5 rfl rfl)) ?_
   refine gv hF (oL (lP1 ag5 rfl)) ?_
   obtain ⟨x46, hx46, h⟩ := ab h
   refine gv hF (oB (bG hx46)) ?_
   refine gv hF (oB (cq)) ?_
   refine sn ?_
   refine aU hF rfl (fun hc47 => ?_) (fun hc47 => ?_)
   ·replace h := ifF hc47 h
    refine Sm.skip ?_
    obtain rfl := ae h
    exact (toK ⟨rfl, rfl, rfl, rfl, trivial⟩ ⟨rfl, rfl, trivial⟩)
   replace h := ifT hc47 h
   refine ac hF rfl ?_
   refine gv hF (oF (aj iZ rfl)) ?_
   refine gv hF (oI (cF u27 sz5 rfl rfl)) ?_
   refine gv hF (oL (lP1 ag5 rfl)) ?_
   obtain ⟨x48, hx48, h⟩ := ab h
   refine gv hF (oB (jB hx48)) ?_
   obtain ⟨x49, hx49, h⟩ := ab h
   refine gv hF (oC (fN u5 u3 hx49)) ?_
   obtain ⟨x50, hx50, h⟩ := ab h
   refine gv hF (oB (bG hx50)) ?_
   obtain ⟨x51, hx51, h⟩ := ab h
   refine gv hF (oB (a8 hx51)) ?_
   refine gv hF (oF (av yT)) ?_
   refine SmG.store hF rfl rfl rfl rfl rfl (bY (rows' := [[.d (.v (.int .i64 x1.cells)), .d (.list 1 (x1.next.map (aw 1 (aa .i64))) false), .d (.list 1 (x1.turn.map (aa .i64)) false), .d (.list 3 (v45.map Knd.row) false), .d (.v (.int .i64 x2)), .d (.v (.bool (x3 == 3))), .d (.list 0 [] true), .d (.v (.int .i64 x51)), .d (.v (.int .i64 2))]]) rfl rfl rfl sz3 rfl rfl rfl) ?_
   refine SmG.nil ?_
   obtain rfl := ae h
   exact (toK ⟨rfl, rfl, rfl, rfl, trivial⟩ ⟨rfl, rfl, trivial⟩)
  refine Sm.seq ?_
  obtain ⟨v59, hv59, h⟩ := ab h
  refine dh ⟨[(1, .d (.ptr 12 (GRaw.row a0))), (2, .ref 0 0 0), (3, .ref 1 0 0), (4, .d (.v (.int .i64 v5)))], [(1, ⟨9, [[.d (.v (.int .i64 x1.cells)), .d (.list 1 (x1.next.map (aw 1 (aa .i64))) false), .d (.list 1 (x1.turn.map (aa .i64)) false), .d (.list 3 (v45.map Knd.row) false), .d (.v (.int .i64 x2)), .d (.v (.bool (x3 == 3))), .d (.list 0 [] true), .d (.v (.int .i64 v52)), .d (.v (.int .i64 v59))]]⟩), (0, ⟨9, [[.d (.v (.int .i64 0)), .d (.list 0 [] true), .d (.list 0 [] true), .d (.list 0 [] true), .d (.v (.int .i64 0)), .d (.v (.bool false)), .d (.list 0 [] true), .d (.v (.int .i64 0)), .d (.v (.int .i64 0))]]⟩)], 7⟩ ?_ ?_
  ·replace h := hv59
   refine sr hF ?_
   refine gv hF (oF (aj iZ rfl)) ?_
   refine gv hF (oI (cF u27 sz5 rfl rfl)) ?_
   refine gv hF (oL (lP1 ag5 rfl)) ?_
   obtain ⟨x53, hx53, h⟩ := ab h
   refine gv hF (oB (bG hx53)) ?_
   refine gv hF (oB (cq)) ?_
   refine sn ?_
   refine aU hF rfl (fun hc54 => ?_) (fun hc54 => ?_)
   ·replace h := ifF hc54 h
    refine Sm.skip ?_
    obtain rfl := ae h
    exact (toK ⟨rfl, rfl, rfl, rfl, trivial⟩ ⟨rfl, rfl, trivial⟩)
   replace h := ifT hc54 h
   refine ac hF rfl ?_
   refine gv hF (oF (aj iZ rfl)) ?_
   refine gv hF (oI (cF u27 sz5 rfl rfl)) ?_
   refine gv hF (oL (lP1 ag5 rfl)) ?_
   obtain ⟨x55, hx55, h⟩ := ab h
   refine gv hF (oB (jB hx55)) ?_
   obtain ⟨x56, hx56, h⟩ := ab h
   refine gv hF (oC (fN u5 u3 hx56)) ?_
   obtain ⟨x57, hx57, h⟩ := ab h
   refine gv hF (oB (bG hx57)) ?_
   obtain ⟨x58, hx58, h⟩ := ab h
   refine gv hF (oB (a8 hx58)) ?_
   refine gv hF (oF (av yN)) ?_
   refine SmG.store hF rfl rfl rfl rfl rfl (bY (rows' := [[.d (.v (.int .i64 x1.cells)), .d (.list 1 (x1.next.map (aw 1 (aa .i64))) false), .d (.list 1 (x1.turn.map (aa .i64)) false), .d (.list 3 (v45.map Knd.row) false), .d (.v (.int .i64 x2)), .d (.v (.bool (x3 == 3))), .d (.list 0 [] true), .d (.v (.int .i64 v52)), .d (.v (.int .i64 x58))]]) rfl rfl rfl sz3 rfl rfl rfl) ?_
   refine SmG.nil ?_
   obtain rfl := ae h
   exact (toK ⟨rfl, rfl, rfl, rfl, trivial⟩ ⟨rfl, rfl, trivial⟩)
  refine Sm.seq ?_
  obtain ⟨v88, hv88, h⟩ := ab h
  refine bk ⟨[(2, .ref 0 0 0), (3, .ref 1 0 0)], [(1, ⟨9, [[.d (.v (.int .i64 x1.cells)), .d (.list 1 (x1.next.map (aw 1 (aa .i64))) false), .d (.list 1 (x1.turn.map (aa .i64)) false), .d (.list 3 (v45.map Knd.row) false), .d (.v (.int .i64 x2)), .d (.v (.bool (x3 == 3))), .d (.list 4 (v88.map Cls.row) false), .d (.v (.int .i64 v52)), .d (.v (.int .i64 v59))]]⟩), (0, ⟨9, [[.d (.v (.int .i64 0)), .d (.list 0 [] true), .d (.list 0 [] true), .d (.list 0 [] true), .d (.v (.int .i64 0)), .d (.v (.bool false)), .d (.list 0 [] true), .d (.v (.int .i64 0)), .d (.v (.int .i64 0))]]⟩)], 8⟩ ?_ ?_
  ·refine Sm.seq ?_
   refine ac hF rfl ?_
   refine gv hF (x := .d (.agg 9 [.v (.int .i64 x1.cells), .list 1 (x1.next.map (aw 1 (aa .i64))) false, .list 1 (x1.turn.map (aa .i64)) false, .list 3 (v45.map Knd.row) false, .v (.int .i64 x2), .v (.bool (x3 == 3)), .list 4 (v88.map Cls.row) false, .v (.int .i64 v52), .v (.int .i64 v59)])) (oL (aC rfl rfl t8 qh rfl rfl)) ?_
   refine SmG.store hF rfl rfl rfl rfl rfl (aX (ys := [.d (.v (.int .i64 x1.cells)), .d (.list 1 (x1.next.map (aw 1 (aa .i64))) false), .d (.list 1 (x1.turn.map (aa .i64)) false), .d (.list 3 (v45.map Knd.row) false), .d (.v (.int .i64 x2)), .d (.v (.bool (x3 == 3))), .d (.list 4 (v88.map Cls.row) false), .d (.v (.int .i64 v52)), .d (.v (.int .i64 v59))]) (r := [.d (.v (.int .i64 0)), .d (.list 0 [] true), .d (.list 0 [] true), .d (.list 0 [] true), .d (.v (.int .i64 0)), .d (.v (.bool false)), .d (.list 0 [] true), .d (.v (.int .i64 0)), .d (.v (.int .i64 0))]) (rows' := [[.d (.v (.int .i64 x1.cells)), .d (.list 1 (x1.next.map (aw 1 (aa .i64))) false), .d (.list 1 (x1.turn.map (aa .i64)) false), .d (.list 3 (v45.map Knd.row) false), .d (.v (.int .i64 x2)), .d (.v (.bool (x3 == 3))), .d (.list 4 (v88.map Cls.row) false), .d (.v (.int .i64 v52)), .d (.v (.int .i64 v59))]]) rfl rfl rfl qh rfl rfl rfl rfl rfl) ?_
   refine sn ?_
   refine Sm.ret ?_
   obtain rfl := ae h
   exact dD (RetR.cons (RetO.cell rfl (aC (ds := [.v (.int .i64 x1.cells), .list 1 (x1.next.map (aw 1 (aa .i64))) false, .list 1 (x1.turn.map (aa .i64)) false, .list 3 (v45.map Knd.row) false, .v (.int .i64 x2), .v (.bool (x3 == 3)), .list 4 (v88.map Cls.row) false, .v (.int .i64 v52), .v (.int .i64 v59)]) rfl rfl t8 qh rfl rfl)) (RetR.nil)) (D.le.refl _)
  replace h := hv88
  refine sr hF ?_
  refine gv hF oA ?_
  refine sn ?_
  refine Sm.block ?_
  refine Sm.to (toK (e := [(1, .d (.ptr 12 (GRaw.row a0))), (2, .ref 0 0 0), (3, .ref 1 0 0), (4, .d (.v (.int .i64 v5))), (8, .d (.v (.int .i64 0)))]) (g := [(1, ⟨9, [[.d (.v (.int .i64 x1.cells)), .d (.list 1 (x1.next.map (aw 1 (aa .i64))) false), .d (.list 1 (x1.turn.map (aa .i64)) false), .d (.list 3 (v45.map Knd.row) false), .d (.v (.int .i64 x2)), .d (.v (.bool (x3 == 3))), .d (.list 0 [] true), .d (.v (.int .i64 v52)), .d (.v (.int .i64 v59))]]⟩), (0, ⟨9, [[.d (.v (.int .i64 0)), .d (.list 0 [] true), .d (.list 0 [] true), .d (.list 0 [] true), .d (.v (.int .i64 0)), .d (.v (.bool false)), .d (.list 0 [] true), .d (.v (.int .i64 0)), .d (.v (.int .i64 0))]]⟩)]) (m := 7) ⟨rfl, rfl, rfl, rfl, rfl, trivial⟩ ⟨rfl, rfl, trivial⟩) ?_
  refine Sm.ownCell 1 0 6 4 rfl rfl rfl ?_
  refine bV (dS a0 x1 v5) (fun s60 => ⟨[(1, .d (.ptr 12 (GRaw.row a0))), (2, .ref 0 0 0), (3, .ref 1 0 0), (4, .d (.v (.int .i64 v5))), (8, .d (.v (.int .i64 s60.1)))], [(7, dB 4 (s60.2.map Cls.row)), (1, ⟨9, [[.d (.v (.int .i64 x1.cells)), .d (.list 1 (x1.next.map (aw 1 (aa .i64))) false), .d (.list 1 (x1.turn.map (aa .i64)) false), .d (.list 3 (v45.map Knd.row) false), .d (.v (.int .i64 x2)), .d (.v (.bool (x3 == 3))), .sref 7 0 (s60.2.map Cls.row).length, .d (.v (.int .i64 v52)), .d (.v (.int .i64 v59))]]⟩), (0, ⟨9, [[.d (.v (.int .i64 0)), .d (.list 0 [] true), .d (.list 0 [] true), .d (.list 0 [] true), .d (.v (.int .i64 0)), .d (.v (.bool false)), .d (.list 0 [] true), .d (.v (.int .i64 0)), .d (.v (.int .i64 0))]]⟩)], 8⟩) (0, ([] : List Cls)) h (toK ⟨rfl, rfl, rfl, rfl, rfl, trivial⟩ ⟨rfl, rfl, rfl, trivial⟩) ?_
  intro n61 s60 o62 h hd63
  unfold dS at h
  refine Sm.seq ?_
  refine sr hF ?_
  refine gv hF oM ?_
  refine gv hF (oF (aj lL rfl)) ?_
  refine gv hF (oL (lP1 om rfl)) ?_
  refine gv hF (oN (bF u26)) ?_
  refine gv hF (oB (bP)) ?_
  rcases bX (decide (s60.1 < (a0.c.length : Int))) with hc64 | hc64
  ·replace h := ifF hc64 h
   refine gv hF (ax rfl rfl hc64) ?_
   refine gp hF ?_
   refine gp hF ?_
   refine gv hF (ak rfl rfl rfl) ?_
   refine sn ?_
   refine cP hF rfl ?_
   refine Sm.exit ?_
   replace h := bc h hd63
   obtain rfl := ae h
   exact (aV (toK (e := [(2, .ref 0 0 0), (3, .ref 1 0 0)]) (g := [(7, dB 4 (s60.2.map Cls.row)), (1, ⟨9, [[.d (.v (.int .i64 x1.cells)), .d (.list 1 (x1.next.map (aw 1 (aa .i64))) false), .d (.list 1 (x1.turn.map (aa .i64)) false), .d (.list 3 (v45.map Knd.row) false), .d (.v (.int .i64 x2)), .d (.v (.bool (x3 == 3))), .sref 7 0 (s60.2.map Cls.row).length, .d (.v (.int .i64 v52)), .d (.v (.int .i64 v59))]]⟩), (0, ⟨9, [[.d (.v (.int .i64 0)), .d (.list 0 [] true), .d (.list 0 [] true), .d (.list 0 [] true), .d (.v (.int .i64 0)), .d (.v (.bool false)), .d (.list 0 [] true), .d (.v (.int .i64 0)), .d (.v (.int .i64 0))]]⟩)]) (m := 8) ⟨rfl, rfl, trivial⟩ ⟨rfl, rfl, rfl, trivial⟩) (bu (l := 7) (sz := 4) (env' := [(2, .ref 0 0 0), (3, .ref 1 0 0)]) (h' := [(1, ⟨9, [[.d (.v (.int .i64 x1.cells)), .d (.list 1 (x1.next.map (aw 1 (aa .i64))) false), .d (.list 1 (x1.turn.map (aa .i64)) false), .d (.list 3 (v45.map Knd.row) false), .d (.v (.int .i64 x2)), .d (.v (.bool (x3 == 3))), .d (.list 4 (s60.2.map Cls.row) false), .d (.v (.int .i64 v52)), .d (.v (.int .i64 v59))]]⟩), (0, ⟨9, [[.d (.v (.int .i64 0)), .d (.list 0 [] true), .d (.list 0 [] true), .d (.list 0 [] true), .d (.v (.int .i64 0)), .d (.v (.bool false)), .d (.list 0 [] true), .d (.v (.int .i64 0)), .d (.v (.int .i64 0))]]⟩)]) (nx := 8) (s60.2.map Cls.row) rfl ⟨⟨_, rfl, rfl⟩, ⟨_, rfl, rfl⟩, trivial⟩ ⟨⟨rfl, _, rfl, bg (.cons rfl (.cons rfl (.cons rfl (.cons rfl (.cons rfl (.cons rfl (.cons cj (.cons rfl (.cons rfl .nil)))))))))⟩, ⟨rfl, _, rfl, bg (.cons rfl (.cons rfl (.cons rfl (.cons rfl (.cons rfl (.cons rfl (.cons rfl (.cons rfl (.cons rfl .nil)))))))))⟩, trivial⟩))
  replace h := ifT hc64 h
  refine gv hF (ax rfl rfl hc64) ?_
  refine gv hF oM ?_
  refine gv hF (oB (bP)) ?_
  refine gv hF (aQ rfl rfl rfl) ?_
  refine sn ?_
  refine aU hF rfl (fun hc65 => ?_) (fun hc65 => ?_)
  ·replace h := ifF hc65 h
   refine Sm.exit ?_
   replace h := bc h hd63
   obtain rfl := ae h
   exact (aV (toK (e := [(2, .ref 0 0 0), (3, .ref 1 0 0)]) (g := [(7, dB 4 (s60.2.map Cls.row)), (1, ⟨9, [[.d (.v (.int .i64 x1.cells)), .d (.list 1 (x1.next.map (aw 1 (aa .i64))) false), .d (.list 1 (x1.turn.map (aa .i64)) false), .d (.list 3 (v45.map Knd.row) false), .d (.v (.int .i64 x2)), .d (.v (.bool (x3 == 3))), .sref 7 0 (s60.2.map Cls.row).length, .d (.v (.int .i64 v52)), .d (.v (.int .i64 v59))]]⟩), (0, ⟨9, [[.d (.v (.int .i64 0)), .d (.list 0 [] true), .d (.list 0 [] true), .d (.list 0 [] true), .d (.v (.int .i64 0)), .d (.v (.bool false)), .d (.list 0 [] true), .d (.v (.int .i64 0)), .d (.v (.int .i64 0))]]⟩)]) (m := 8) ⟨rfl, rfl, trivial⟩ ⟨rfl, rfl, rfl, trivial⟩) (bu (l := 7) (sz := 4) (env' := [(2, .ref 0 0 0), (3, .ref 1 0 0)]) (h' := [(1, ⟨9, [[.d (.v (.int .i64 x1.cells)), .d (.list 1 (x1.next.map (aw 1 (aa .i64))) false), .d (.list 1 (x1.turn.map (aa .i64)) false), .d (.list 3 (v45.map Knd.row) false), .d (.v (.int .i64 x2)), .d (.v (.bool (x3 == 3))), .d (.list 4 (s60.2.map Cls.row) false), .d (.v (.int .i64 v52)), .d (.v (.int .i64 v59))]]⟩), (0, ⟨9, [[.d (.v (.int .i64 0)), .d (.list 0 [] true), .d (.list 0 [] true), .d (.list 0 [] true), .d (.v (.int .i64 0)), .d (.v (.bool false)), .d (.list 0 [] true), .d (.v (.int .i64 0)), .d (.v (.int .i64 0))]]⟩)]) (nx := 8) (s60.2.map Cls.row) rfl ⟨⟨_, rfl, rfl⟩, ⟨_, rfl, rfl⟩, trivial⟩ ⟨⟨rfl, _, rfl, bg (.cons rfl (.cons rfl (.cons rfl (.cons rfl (.cons rfl (.cons rfl (.cons cj (.cons rfl (.cons rfl .nil)))))))))⟩, ⟨rfl, _, rfl, bg (.cons rfl (.cons rfl (.cons rfl (.cons rfl (.cons rfl (.cons rfl (.cons rfl (.cons rfl (.cons rfl .nil)))))))))⟩, trivial⟩))
  replace h := ifT hc65 h
  refine sk ?_
  refine Sm.seq ?_
  refine Sm.block ?_
  refine Sm.seq ?_
  refine bm hF (by kernel_rfl) rfl 21 (by kernel_rfl) (by kernel_rfl) ?_
  simp only [List.take_succ_cons, List.take_zero, List.take_nil]
  refine hv hF (oF (aj lL rfl)) ?_
  refine hv hF (oL (lP1 om rfl)) ?_
  refine hv hF oM ?_
  obtain ⟨x66, hx66, h⟩ := ab h
  refine hv hF (oI (cE u26 nC hx66)) ?_
  refine hv hF (oI (cF rH sz5 rfl rfl)) ?_
  refine hv hF (oL (lP1 ag5 rfl)) ?_
  refine hv hF (oC (dJ u5 u3 (dz _))) ?_
  obtain ⟨x67, hx67, h⟩ := ab h
  refine hv hF (oB (bG hx67)) ?_
  obtain ⟨x68, hx68, h⟩ := ab h
  refine hv hF (oB (a8 hx68)) ?_
  refine hv hF (oF (aj lL rfl)) ?_
  refine hv hF (oL (lP1 om rfl)) ?_
  refine hv hF oM ?_
  obtain ⟨x69, hx69, h⟩ := ab h
  refine hv hF (oI (cE u26 nC hx69)) ?_
  refine hv hF (oI (cF rH sz5 rfl rfl)) ?_
  refine hv hF (oL (lP1 ag5 rfl)) ?_
  obtain ⟨x70, hx70, h⟩ := ab h
  refine hv hF (oB (jB hx70)) ?_
  obtain ⟨x71, hx71, h⟩ := ab h
  refine hv hF (oC (fN u5 u3 hx71)) ?_
  obtain ⟨x72, hx72, h⟩ := ab h
  refine hv hF (oB (bG hx72)) ?_
  obtain ⟨x73, hx73, h⟩ := ab h
  refine hv hF (oB (a8 hx73)) ?_
  refine hv hF (x := .d (.agg 4 [.v (.int .i64 x68), .v (.int .i64 0), .v (.int .i64 0), .v (.int .i64 x73)])) (aY rfl Dd (by kernel_rfl) rfl (bd (n := 4) ub Bu rfl rfl)) ?_
  refine af.new hF rfl rfl rfl rfl zE ?_
  refine af.last ⟨rfl, ?_⟩
  simp only [List.drop_succ_cons, List.drop_zero, List.drop_nil, List.nil_append, List.cons_append]
  refine SmG.store hF rfl rfl rfl rfl rfl (aX (ys := [.d (.v (.int .i64 x68)), .d (.v (.int .i64 0)), .d (.v (.int .i64 0)), .d (.v (.int .i64 x73))]) (r := [.d (.v (.int .i64 0)), .d (.v (.int .i64 0)), .d (.v (.int .i64 0)), .d (.v (.int .i64 0))]) (rows' := [[.d (.v (.int .i64 x68)), .d (.v (.int .i64 0)), .d (.v (.int .i64 0)), .d (.v (.int .i64 x73))]]) rfl rfl rfl rg rfl rfl rfl rfl rfl) ?_
  refine sn ?_
  refine Sm.seq ?_
  obtain ⟨v77, hv77, h⟩ := ab h
  refine dh ⟨[(1, .d (.ptr 12 (GRaw.row a0))), (2, .ref 0 0 0), (3, .ref 1 0 0), (4, .d (.v (.int .i64 v5))), (8, .d (.v (.int .i64 s60.1))), (9, .ref 8 0 0), (121, .d (.v (.int .i64 s60.1))), (122, .d (.v (.bool (decide (s60.1 < 3)))))], [(8, ⟨4, [[.d (.v (.int .i64 x68)), .d (.v (.int .i64 v77)), .d (.v (.int .i64 0)), .d (.v (.int .i64 x73))]]⟩), (7, dB 4 (s60.2.map Cls.row)), (1, ⟨9, [[.d (.v (.int .i64 x1.cells)), .d (.list 1 (x1.next.map (aw 1 (aa .i64))) false), .d (.list 1 (x1.turn.map (aa .i64)) false), .d (.list 3 (v45.map Knd.row) false), .d (.v (.int .i64 x2)), .d (.v (.bool (x3 == 3))), .sref 7 0 (s60.2.map Cls.row).length, .d (.v (.int .i64 v52)), .d (.v (.int .i64 v59))]]⟩), (0, ⟨9, [[.d (.v (.int .i64 0)), .d (.list 0 [] true), .d (.list 0 [] true), .d (.list 0 [] true), .d (.v (.int .i64 0)), .d (.v (.bool false)), .d (.list 0 [] true), .d (.v (.int .i64 0)), .d (.v (.int .i64 0))]]⟩)], 9⟩ ?_ ?_
  ·replace h := hv77
   refine sr hF ?_
   refine gv hF (oF (av pG)) ?_
   refine gv hF (oL (bQ rfl rfl ag3 rfl)) ?_
   refine gv hF (oB (nJ)) ?_
   refine sn ?_
   refine aU hF rfl (fun hc74 => ?_) (fun hc74 => ?_)
   ·replace h := ifF hc74 h
    refine Sm.skip ?_
    obtain rfl := ae h
    exact (toK ⟨rfl, rfl, rfl, rfl, rfl, rfl, rfl, rfl, trivial⟩ ⟨rfl, rfl, rfl, rfl, trivial⟩)
   replace h := ifT hc74 h
   refine ac hF rfl ?_
   refine gv hF (oF (aj lL rfl)) ?_
   refine gv hF (oL (lP1 om rfl)) ?_
   refine gv hF oM ?_
   obtain ⟨x75, hx75, h⟩ := ab h
   refine gv hF (oI (cE u26 nC hx75)) ?_
   refine gv hF (oI (cF rH sz5 rfl rfl)) ?_
   refine gv hF (oL (lP1 ag5 rfl)) ?_
   refine gv hF (oC (dJ u5 u3 (dz _))) ?_
   refine gv hF oM ?_
   obtain ⟨x76, hx76, h⟩ := ab h
   refine gv hF (oB (bG hx76)) ?_
   refine gv hF (oF (av xD)) ?_
   refine SmG.store hF rfl rfl rfl rfl rfl (bY (rows' := [[.d (.v (.int .i64 x68)), .d (.v (.int .i64 x76)), .d (.v (.int .i64 0)), .d (.v (.int .i64 x73))]]) rfl rfl rfl sz3 rfl rfl rfl) ?_
   refine SmG.nil ?_
   obtain rfl := ae h
   exact (toK ⟨rfl, rfl, rfl, rfl, rfl, rfl, rfl, rfl, trivial⟩ ⟨rfl, rfl, rfl, rfl, trivial⟩)
  refine Sm.seq ?_
  obtain ⟨v81, hv81, h⟩ := ab h
  refine dh ⟨[(1, .d (.ptr 12 (GRaw.row a0))), (2, .ref 0 0 0), (3, .ref 1 0 0), (4, .d (.v (.int .i64 v5))), (8, .d (.v (.int .i64 s60.1))), (9, .ref 8 0 0), (121, .d (.v (.int .i64 s60.1))), (122, .d (.v (.bool (decide (s60.1 < 3)))))], [(8, ⟨4, [[.d (.v (.int .i64 x68)), .d (.v (.int .i64 v77)), .d (.v (.int .i64 v81)), .d (.v (.int .i64 x73))]]⟩), (7, dB 4 (s60.2.map Cls.row)), (1, ⟨9, [[.d (.v (.int .i64 x1.cells)), .d (.list 1 (x1.next.map (aw 1 (aa .i64))) false), .d (.list 1 (x1.turn.map (aa .i64)) false), .d (.list 3 (v45.map Knd.row) false), .d (.v (.int .i64 x2)), .d (.v (.bool (x3 == 3))), .sref 7 0 (s60.2.map Cls.row).length, .d (.v (.int .i64 v52)), .d (.v (.int .i64 v59))]]⟩), (0, ⟨9, [[.d (.v (.int .i64 0)), .d (.list 0 [] true), .d (.list 0 [] true), .d (.list 0 [] true), .d (.v (.int .i64 0)), .d (.v (.bool false)), .d (.list 0 [] true), .d (.v (.int .i64 0)), .d (.v (.int .i64 0))]]⟩)], 9⟩ ?_ ?_
  ·replace h := hv81
   refine sr hF ?_
   refine gv hF (oF (av pG)) ?_
   refine gv hF (oL (bQ rfl rfl ag3 rfl)) ?_
   refine gv hF (oB (cq)) ?_
   refine sn ?_
   refine aU hF rfl (fun hc78 => ?_) (fun hc78 => ?_)
   ·replace h := ifF hc78 h
    refine Sm.skip ?_
    obtain rfl := ae h
    exact (toK ⟨rfl, rfl, rfl, rfl, rfl, rfl, rfl, rfl, trivial⟩ ⟨rfl, rfl, rfl, rfl, trivial⟩)
   replace h := ifT hc78 h
   refine bm hF (by kernel_rfl) rfl 10 (by kernel_rfl) (by kernel_rfl) ?_
   simp only [List.take_succ_cons, List.take_zero, List.take_nil]
   refine hv hF (oF (aj lL rfl)) ?_
   refine hv hF (oL (lP1 om rfl)) ?_
   refine hv hF oM ?_
   obtain ⟨x79, hx79, h⟩ := ab h
   refine hv hF (oI (cE u26 nC hx79)) ?_
   refine hv hF (oI (cF rH sz5 rfl rfl)) ?_
   refine hv hF (oL (lP1 ag5 rfl)) ?_
   refine hv hF (oC (dJ u5 u3 (dz _))) ?_
   refine hv hF (oF (av l5)) ?_
   refine hv hF (oF (av jE)) ?_
   refine hv hF (oL (bQ rfl rfl ag3 rfl)) ?_
   refine af.last ⟨rfl, ?_⟩
   simp only [List.drop_succ_cons, List.drop_zero, List.drop_nil, List.nil_append, List.cons_append]
   obtain ⟨x80, hx80, h⟩ := ab h
   refine gv hF (oB (bG hx80)) ?_
   refine gv hF (oF (av tq)) ?_
   refine SmG.store hF rfl rfl rfl rfl rfl (bY (rows' := [[.d (.v (.int .i64 x68)), .d (.v (.int .i64 v77)), .d (.v (.int .i64 x80)), .d (.v (.int .i64 x73))]]) rfl rfl rfl sz3 rfl rfl rfl) ?_
   refine SmG.nil ?_
   obtain rfl := ae h
   exact (toK ⟨rfl, rfl, rfl, rfl, rfl, rfl, rfl, rfl, trivial⟩ ⟨rfl, rfl, rfl, rfl, trivial⟩)
  refine Sm.seq ?_
  obtain ⟨v85, hv85, h⟩ := ab h
  refine bk ⟨[(1, .d (.ptr 12 (GRaw.row a0))), (2, .ref 0 0 0), (3, .ref 1 0 0), (4, .d (.v (.int .i64 v5))), (8, .d (.v (.int .i64 s60.1))), (9, .ref 8 0 0), (121, .d (.v (.int .i64 s60.1))), (122, .d (.v (.bool (decide (s60.1 < 3)))))], [(8, ⟨4, [[.d (.v (.int .i64 x68)), .d (.v (.int .i64 v77)), .d (.v (.int .i64 v85)), .d (.v (.int .i64 x73))]]⟩), (7, dB 4 (s60.2.map Cls.row)), (1, ⟨9, [[.d (.v (.int .i64 x1.cells)), .d (.list 1 (x1.next.map (aw 1 (aa .i64))) false), .d (.list 1 (x1.turn.map (aa .i64)) false), .d (.list 3 (v45.map Knd.row) false), .d (.v (.int .i64 x2)), .d (.v (.bool (x3 == 3))), .sref 7 0 (s60.2.map Cls.row).length, .d (.v (.int .i64 v52)), .d (.v (.int .i64 v59))]]⟩), (0, ⟨9, [[.d (.v (.int .i64 0)), .d (.list 0 [] true), .d (.list 0 [] true), .d (.list 0 [] true), .d (.v (.int .i64 0)), .d (.v (.bool false)), .d (.list 0 [] true), .d (.v (.int .i64 0)), .d (.v (.int .i64 0))]]⟩)], 9⟩ ?_ ?_
  ·refine ac hF rfl ?_
   refine gv hF (oF (av uW)) ?_
   refine gv hF (oL (bQ rfl rfl zi rfl)) ?_
   refine gv hF (x := .d (.agg 4 [.v (.int .i64 x68), .v (.int .i64 v77), .v (.int .i64 v85), .v (.int .i64 x73)])) (oL (aC rfl rfl xn rg rfl rfl)) ?_
   refine gv hF (x := .d (.list 4 ([(⟨x68, v77, v85, x73⟩ : Cls)].map Cls.row) true)) (oS (az u75 rg ub rfl rfl (PartsQ.cons rfl (PartsQ.nil _)) rfl)) ?_
   refine cV (cc (env' := [(1, .d (.ptr 12 (GRaw.row a0))), (2, .ref 0 0 0), (3, .ref 1 0 0), (4, .d (.v (.int .i64 v5))), (8, .d (.v (.int .i64 s60.1))), (121, .d (.v (.int .i64 s60.1))), (122, .d (.v (.bool (decide (s60.1 < 3))))), (187, .sref 7 0 (s60.2.map Cls.row).length), (189, .d (.list 4 ([(⟨x68, v77, v85, x73⟩ : Cls)].map Cls.row) true))]) (h' := [(7, dB 4 (s60.2.map Cls.row)), (1, ⟨9, [[.d (.v (.int .i64 x1.cells)), .d (.list 1 (x1.next.map (aw 1 (aa .i64))) false), .d (.list 1 (x1.turn.map (aa .i64)) false), .d (.list 3 (v45.map Knd.row) false), .d (.v (.int .i64 x2)), .d (.v (.bool (x3 == 3))), .any, .d (.v (.int .i64 v52)), .d (.v (.int .i64 v59))]]⟩), (0, ⟨9, [[.d (.v (.int .i64 0)), .d (.list 0 [] true), .d (.list 0 [] true), .d (.list 0 [] true), .d (.v (.int .i64 0)), .d (.v (.bool false)), .d (.list 0 [] true), .d (.v (.int .i64 0)), .d (.v (.int .i64 0))]]⟩)]) (nx' := 9) ⟨⟨_, rfl, V.le.refl _⟩, ⟨_, rfl, V.le.refl _⟩, ⟨_, rfl, V.le.refl _⟩, ⟨_, rfl, V.le.refl _⟩, ⟨_, rfl, V.le.refl _⟩, ⟨_, rfl, V.le.refl _⟩, ⟨_, rfl, V.le.refl _⟩, ⟨_, rfl, V.le.refl _⟩, ⟨_, rfl, V.le.refl _⟩, trivial⟩ ⟨⟨_, rfl, bp.refl _⟩, ⟨_, rfl, bp.row (.cons (V.le.refl _) (.cons (V.le.refl _) (.cons (V.le.refl _) (.cons (V.le.refl _) (.cons (V.le.refl _) (.cons (V.le.refl _) (.cons (V.le.any _) (.cons (V.le.refl _) (.cons (V.le.refl _) .nil)))))))))⟩, ⟨_, rfl, bp.refl _⟩, trivial⟩ (Nat.le_of_ble_eq_true rfl)) rfl ?_
   obtain ⟨x86, hx86, h⟩ := ab h
   refine aZ hF F0 rfl (ys := [(⟨x68, v77, v85, x73⟩ : Cls)]) (row := Cls.row) rfl rfl rfl rfl rfl rfl rfl rfl (.inl rfl) hx86 (by (repeat' first | exact bD _ | refine bq ?_ | refine au ?_ (aW _ _ _) | refine au ?_ (aW _ _ [_]) | refine au ?_ (bU (by rfl)))) ?_
   refine gv hF (oF (av uW)) ?_
   refine SmG.store hF rfl rfl rfl rfl rfl (bY (rows' := [[.d (.v (.int .i64 x1.cells)), .d (.list 1 (x1.next.map (aw 1 (aa .i64))) false), .d (.list 1 (x1.turn.map (aa .i64)) false), .d (.list 3 (v45.map Knd.row) false), .d (.v (.int .i64 x2)), .d (.v (.bool (x3 == 3))), .sref 7 0 (x86.map Cls.row).length, .d (.v (.int .i64 v52)), .d (.v (.int .i64 v59))]]) rfl rfl rfl yM rfl rfl rfl) ?_
   refine SmG.nil ?_
   refine ay ?_
   refine ag ?_
   refine ac hF rfl ?_
   refine gv hF oM ?_
   obtain ⟨x87, hx87, h⟩ := ab h
   refine gv hF (oB (a8 hx87)) ?_
   refine gv hF oA ?_
   refine SmG.nil ?_
   exact bZ (bH h hd63) (aV (toK (e := [(1, .d (.ptr 12 (GRaw.row a0))), (2, .ref 0 0 0), (3, .ref 1 0 0), (4, .d (.v (.int .i64 v5))), (8, .d (.v (.int .i64 x87)))]) (g := [(7, dB 4 (x86.map Cls.row)), (1, ⟨9, [[.d (.v (.int .i64 x1.cells)), .d (.list 1 (x1.next.map (aw 1 (aa .i64))) false), .d (.list 1 (x1.turn.map (aa .i64)) false), .d (.list 3 (v45.map Knd.row) false), .d (.v (.int .i64 x2)), .d (.v (.bool (x3 == 3))), .sref 7 0 (x86.map Cls.row).length, .d (.v (.int .i64 v52)), .d (.v (.int .i64 v59))]]⟩), (0, ⟨9, [[.d (.v (.int .i64 0)), .d (.list 0 [] true), .d (.list 0 [] true), .d (.list 0 [] true), .d (.v (.int .i64 0)), .d (.v (.bool false)), .d (.list 0 [] true), .d (.v (.int .i64 0)), .d (.v (.int .i64 0))]]⟩)]) (m := 9) ⟨rfl, rfl, rfl, rfl, rfl, trivial⟩ ⟨rfl, rfl, rfl, trivial⟩) (kh 8 rfl (by (repeat' first | exact nF _ | exact lW _ _ | exact trivial | refine mp ?_ (by decide) | refine ky ?_ (rf _ _ _) | refine nK ?_ ?_ | refine ⟨rfl, ?_⟩)) rfl))
  replace h := hv85
  refine sr hF ?_
  refine gv hF (oF (av pG)) ?_
  refine gv hF (oL (bQ rfl rfl ag3 rfl)) ?_
  refine gv hF (oB (cq)) ?_
  refine sn ?_
  refine aU hF rfl (fun hc82 => ?_) (fun hc82 => ?_)
  ·replace h := ifF hc82 h
   refine Sm.skip ?_
   obtain rfl := ae h
   exact (toK ⟨rfl, rfl, rfl, rfl, rfl, rfl, rfl, rfl, trivial⟩ ⟨rfl, rfl, rfl, rfl, trivial⟩)
  replace h := ifT hc82 h
  refine ac hF rfl ?_
  refine gv hF (oF (aj lL rfl)) ?_
  refine gv hF (oL (lP1 om rfl)) ?_
  refine gv hF oM ?_
  obtain ⟨x83, hx83, h⟩ := ab h
  refine gv hF (oI (cE u26 nC hx83)) ?_
  refine gv hF (oI (cF rH sz5 rfl rfl)) ?_
  refine gv hF (oL (lP1 ag5 rfl)) ?_
  refine gv hF (oC (dJ u5 u3 (dz _))) ?_
  obtain ⟨x84, hx84, h⟩ := ab h
  refine gv hF (oB (bG hx84)) ?_
  refine gv hF (oF (av tq)) ?_
  refine SmG.store hF rfl rfl rfl rfl rfl (bY (rows' := [[.d (.v (.int .i64 x68)), .d (.v (.int .i64 v77)), .d (.v (.int .i64 x84)), .d (.v (.int .i64 x73))]]) rfl rfl rfl sz3 rfl rfl rfl) ?_
  refine SmG.nil ?_
  obtain rfl := ae h
  exact (toK ⟨rfl, rfl, rfl, rfl, rfl, rfl, rfl, rfl, trivial⟩ ⟨rfl, rfl, rfl, rfl, trivial⟩)
 replace h := hv45
 refine sr hF ?_
 refine gv hF oA ?_
 refine sn ?_
 refine Sm.block ?_
 refine Sm.rounds 60 ?_
 refine jn ?_
 refine Sm.seq ?_
 refine sr hF ?_
 refine gv hF oM ?_
 refine gv hF oM ?_
 refine gv hF (oB (bP)) ?_
 refine sn ?_
 refine aU hF rfl (fun hc6 => ?_) (fun hc6 => ?_)
 ·replace h := ifF hc6 h
  refine Sm.exit ?_
  obtain rfl := ae h
  exact (aV (toK (e := [(1, .d (.ptr 12 (GRaw.row a0))), (2, .ref 0 0 0), (3, .ref 1 0 0), (4, .d (.v (.int .i64 v5)))]) (g := [(1, ⟨9, [[.d (.v (.int .i64 x1.cells)), .d (.list 1 (x1.next.map (aw 1 (aa .i64))) false), .d (.list 1 (x1.turn.map (aa .i64)) false), .d (.list 0 [] true), .d (.v (.int .i64 x2)), .d (.v (.bool (x3 == 3))), .d (.list 0 [] true), .d (.v (.int .i64 3)), .d (.v (.int .i64 2))]]⟩), (0, ⟨9, [[.d (.v (.int .i64 0)), .d (.list 0 [] true), .d (.list 0 [] true), .d (.list 0 [] true), .d (.v (.int .i64 0)), .d (.v (.bool false)), .d (.list 0 [] true), .d (.v (.int .i64 0)), .d (.v (.int .i64 0))]]⟩)]) (m := 2) ⟨rfl, rfl, rfl, rfl, trivial⟩ ⟨rfl, rfl, trivial⟩) (cc (env' := [(1, .d (.ptr 12 (GRaw.row a0))), (2, .ref 0 0 0), (3, .ref 1 0 0), (4, .d (.v (.int .i64 v5)))]) (h' := [(1, ⟨9, [[.d (.v (.int .i64 x1.cells)), .d (.list 1 (x1.next.map (aw 1 (aa .i64))) false), .d (.list 1 (x1.turn.map (aa .i64)) false), .d (.list 3 ([].map Knd.row) false), .d (.v (.int .i64 x2)), .d (.v (.bool (x3 == 3))), .d (.list 0 [] true), .d (.v (.int .i64 3)), .d (.v (.int .i64 2))]]⟩), (0, ⟨9, [[.d (.v (.int .i64 0)), .d (.list 0 [] true), .d (.list 0 [] true), .d (.list 0 [] true), .d (.v (.int .i64 0)), .d (.v (.bool false)), .d (.list 0 [] true), .d (.v (.int .i64 0)), .d (.v (.int .i64 0))]]⟩)]) (nx' := 7) ⟨⟨_, rfl, V.le.refl _⟩, ⟨_, rfl, V.le.refl _⟩, ⟨_, rfl, V.le.refl _⟩, ⟨_, rfl, V.le.refl _⟩, trivial⟩ ⟨⟨_, rfl, bp.row (.cons (V.le.refl _) (.cons (V.le.refl _) (.cons (V.le.refl _) (.cons (V.le.d (by repeat' first | exact D.le.refl _ | exact aE _ _ _ | exact aD _ _ _ | refine aI ?_ | exact LeRows.nil | refine LeRows.cons ?_ ?_ | exact LeL.nil | refine LeL.cons ?_ ?_ | refine aH ?_ | refine aG ?_)) (.cons (V.le.refl _) (.cons (V.le.refl _) (.cons (V.le.refl _) (.cons (V.le.refl _) (.cons (V.le.refl _) .nil)))))))))⟩, ⟨_, rfl, bp.refl _⟩, trivial⟩ (Nat.le_of_ble_eq_true rfl)))
 replace h := ifT hc6 h
 refine sk ?_
 refine Sm.seq ?_
 obtain ⟨v21, hv21, h⟩ := ab h
 refine dh ⟨[(1, .d (.ptr 12 (GRaw.row a0))), (2, .ref 0 0 0), (3, .ref 1 0 0), (4, .d (.v (.int .i64 v5))), (5, .d (.v (.int .i64 0)))], [(4, dB 3 (v21.map Knd.row)), (1, ⟨9, [[.d (.v (.int .i64 x1.cells)), .d (.list 1 (x1.next.map (aw 1 (aa .i64))) false), .d (.list 1 (x1.turn.map (aa .i64)) false), .sref 4 0 (v21.map Knd.row).length, .d (.v (.int .i64 x2)), .d (.v (.bool (x3 == 3))), .d (.list 0 [] true), .d (.v (.int .i64 3)), .d (.v (.int .i64 2))]]⟩), (0, ⟨9, [[.d (.v (.int .i64 0)), .d (.list 0 [] true), .d (.list 0 [] true), .d (.list 0 [] true), .d (.v (.int .i64 0)), .d (.v (.bool false)), .d (.list 0 [] true), .d (.v (.int .i64 0)), .d (.v (.int .i64 0))]]⟩)], 5⟩ ?_ ?_
 ·replace h := hv21
  refine Sm.block ?_
  refine Sm.seq ?_
  refine bm hF (by kernel_rfl) rfl 13 (by kernel_rfl) (by kernel_rfl) ?_
  simp only [List.take_succ_cons, List.take_zero, List.take_nil]
  refine hv hF (x := .d (.list 1 ([([97] : List UInt8), ([98, 101, 101] : List UInt8)].map rO) true)) (oS (az pI sz9 ze9 rfl rfl (PartsQ.cons rfl (PartsQ.cons rfl (PartsQ.nil _))) rfl)) ?_
  refine hv hF oM ?_
  obtain ⟨x7, hx7, h⟩ := ab h
  refine hv hF (oI (cE pI sz9 hx7)) ?_
  refine hv hF (oL (lP1 ag9 rfl)) ?_
  refine hv hF (oF (aj iZ rfl)) ?_
  refine hv hF (oI (cF u27 sz5 rfl rfl)) ?_
  refine hv hF (oL (lP1 ag5 rfl)) ?_
  refine hv hF oM ?_
  obtain ⟨x8, hx8, h⟩ := ab h
  refine hv hF (oB (kv hx8)) ?_
  refine hv hF (oB rj) ?_
  refine hv hF (oB (cq)) ?_
  refine hv hF (x := .d (.agg 3 [.v (.string ⟨(x7 : List UInt8).toArray⟩), .list 0 [] true, .v (.bool ((c8 .u8 x8 1) == 1))])) (aY rfl wE (by kernel_rfl) rfl (bd (n := 3) nL tU rfl rfl)) ?_
  refine af.new hF rfl rfl rfl rfl tM ?_
  refine af.last ⟨rfl, ?_⟩
  simp only [List.drop_succ_cons, List.drop_zero, List.drop_nil, List.nil_append, List.cons_append]
  refine SmG.store hF rfl rfl rfl rfl rfl (aX (ys := [.d (.v (.string ⟨(x7 : List UInt8).toArray⟩)), .d (.list 0 [] true), .d (.v (.bool ((c8 .u8 x8 1) == 1)))]) (r := [.d (.v (.string ⟨([] : List UInt8).toArray⟩)), .d (.list 0 [] true), .d (.v (.bool false))]) (rows' := [[.d (.v (.string ⟨(x7 : List UInt8).toArray⟩)), .d (.list 0 [] true), .d (.v (.bool ((c8 .u8 x8 1) == 1)))]]) rfl rfl rfl ju rfl rfl rfl rfl rfl) ?_
  refine sn ?_
  refine Sm.seq ?_
  obtain ⟨v19, hv19, h⟩ := ab h
  refine bk ⟨[(1, .d (.ptr 12 (GRaw.row a0))), (2, .ref 0 0 0), (3, .ref 1 0 0), (4, .d (.v (.int .i64 v5))), (5, .d (.v (.int .i64 0))), (6, .ref 2 0 0)], [(2, ⟨3, [[.d (.v (.string ⟨(x7 : List UInt8).toArray⟩)), .d (.list 1 (v19.map (aw 2 Stp.row)) false), .d (.v (.bool ((c8 .u8 x8 1) == 1)))]]⟩), (1, ⟨9, [[.d (.v (.int .i64 x1.cells)), .d (.list 1 (x1.next.map (aw 1 (aa .i64))) false), .d (.list 1 (x1.turn.map (aa .i64)) false), .d (.list 0 [] true), .d (.v (.int .i64 x2)), .d (.v (.bool (x3 == 3))), .d (.list 0 [] true), .d (.v (.int .i64 3)), .d (.v (.int .i64 2))]]⟩), (0, ⟨9, [[.d (.v (.int .i64 0)), .d (.list 0 [] true), .d (.list 0 [] true), .d (.list 0 [] true), .d (.v (.int .i64 0)), .d (.v (.bool false)), .d (.list 0 [] true), .d (.v (.int .i64 0)), .d (.v (.int .i64 0))]]⟩)], 4⟩ ?_ ?_
  ·refine ac hF rfl ?_
   refine gv hF (oF (av gB)) ?_
   refine gv hF (oL (bQ rfl rfl kH rfl)) ?_
   refine gv hF (x := .d (.agg 3 [.v (.string ⟨(x7 : List UInt8).toArray⟩), .list 1 (v19.map (aw 2 Stp.row)) false, .v (.bool ((c8 .u8 x8 1) == 1))])) (oL (aC rfl rfl un ju rfl rfl)) ?_
   refine gv hF (x := .d (.list 3 ([(⟨x7, v19, ((c8 .u8 x8 1) == 1)⟩ : Knd)].map Knd.row) true)) (oS (az u74 ju nL rfl rfl (PartsQ.cons rfl (PartsQ.nil _)) rfl)) ?_
   obtain ⟨x20, hx20, h⟩ := ab h
   refine SmG.appendFreshL hF yC rfl (ys := [(⟨x7, v19, ((c8 .u8 x8 1) == 1)⟩ : Knd)]) (row := Knd.row) rfl rfl rfl rfl rfl rfl rfl (.inl rfl) hx20 ?_
   refine gv hF (oF (av gB)) ?_
   refine SmG.store hF rfl rfl rfl rfl rfl (bY (rows' := [[.d (.v (.int .i64 x1.cells)), .d (.list 1 (x1.next.map (aw 1 (aa .i64))) false), .d (.list 1 (x1.turn.map (aa .i64)) false), .sref 4 0 (x20.map Knd.row).length, .d (.v (.int .i64 x2)), .d (.v (.bool (x3 == 3))), .d (.list 0 [] true), .d (.v (.int .i64 3)), .d (.v (.int .i64 2))]]) rfl rfl rfl wo rfl rfl rfl) ?_
   refine SmG.nil ?_
   refine ay ?_
   obtain rfl := ae h
   exact (toK ⟨rfl, rfl, rfl, rfl, rfl, trivial⟩ ⟨rfl, rfl, rfl, trivial⟩)
  replace h := hv19
  refine sr hF ?_
  refine gv hF oA ?_
  refine sn ?_
  refine Sm.block ?_
  refine Sm.to (toK (e := [(1, .d (.ptr 12 (GRaw.row a0))), (2, .ref 0 0 0), (3, .ref 1 0 0), (4, .d (.v (.int .i64 v5))), (5, .d (.v (.int .i64 0))), (6, .ref 2 0 0), (7, .d (.v (.int .i64 0)))]) (g := [(2, ⟨3, [[.d (.v (.string ⟨(x7 : List UInt8).toArray⟩)), .d (.list 0 [] true), .d (.v (.bool ((c8 .u8 x8 1) == 1)))]]⟩), (1, ⟨9, [[.d (.v (.int .i64 x1.cells)), .d (.list 1 (x1.next.map (aw 1 (aa .i64))) false), .d (.list 1 (x1.turn.map (aa .i64)) false), .d (.list 0 [] true), .d (.v (.int .i64 x2)), .d (.v (.bool (x3 == 3))), .d (.list 0 [] true), .d (.v (.int .i64 3)), .d (.v (.int .i64 2))]]⟩), (0, ⟨9, [[.d (.v (.int .i64 0)), .d (.list 0 [] true), .d (.list 0 [] true), .d (.list 0 [] true), .d (.v (.int .i64 0)), .d (.v (.bool false)), .d (.list 0 [] true), .d (.v (.int .i64 0)), .d (.v (.int .i64 0))]]⟩)]) (m := 3) ⟨rfl, rfl, rfl, rfl, rfl, rfl, rfl, trivial⟩ ⟨rfl, rfl, rfl, trivial⟩) ?_
  refine Sm.ownCell 2 0 1 1 rfl rfl rfl ?_
  refine bV (eg a0 x1 x2 v5) (fun s9 => ⟨[(1, .d (.ptr 12 (GRaw.row a0))), (2, .ref 0 0 0), (3, .ref 1 0 0), (4, .d (.v (.int .i64 v5))), (5, .d (.v (.int .i64 0))), (6, .ref 2 0 0), (7, .d (.v (.int .i64 s9.1)))], [(3, dB 1 (s9.2.map (aw 2 Stp.row))), (2, ⟨3, [[.d (.v (.string ⟨(x7 : List UInt8).toArray⟩)), .sref 3 0 (s9.2.map (aw 2 Stp.row)).length, .d (.v (.bool ((c8 .u8 x8 1) == 1)))]]⟩), (1, ⟨9, [[.d (.v (.int .i64 x1.cells)), .d (.list 1 (x1.next.map (aw 1 (aa .i64))) false), .d (.list 1 (x1.turn.map (aa .i64)) false), .d (.list 0 [] true), .d (.v (.int .i64 x2)), .d (.v (.bool (x3 == 3))), .d (.list 0 [] true), .d (.v (.int .i64 3)), .d (.v (.int .i64 2))]]⟩), (0, ⟨9, [[.d (.v (.int .i64 0)), .d (.list 0 [] true), .d (.list 0 [] true), .d (.list 0 [] true), .d (.v (.int .i64 0)), .d (.v (.bool false)), .d (.list 0 [] true), .d (.v (.int .i64 0)), .d (.v (.int .i64 0))]]⟩)], 4⟩) (0, ([] : List (List Stp))) h (toK ⟨rfl, rfl, rfl, rfl, rfl, rfl, rfl, trivial⟩ ⟨rfl, rfl, rfl, rfl, trivial⟩) ?_
  intro n10 s9 o11 h hd12
  unfold eg at h
  refine Sm.seq ?_
  refine sr hF ?_
  refine gv hF oM ?_
  refine gv hF oM ?_
  refine gv hF (oF (aj l6 rfl)) ?_
  refine gv hF (oI (cF u25 ln rfl rfl)) ?_
  refine gv hF (oL (lP1 nq rfl)) ?_
  refine gv hF (oN (bF u24)) ?_
  refine gv hF (oB (bP)) ?_
  rcases bX (decide (s9.1 < (a0.k0.length : Int))) with hc13 | hc13
  ·replace h := ifF hc13 h
   refine gv hF (ax rfl rfl hc13) ?_
   refine gp hF ?_
   refine gp hF ?_
   refine gv hF (ak rfl rfl rfl) ?_
   refine sn ?_
   refine cP hF rfl ?_
   refine Sm.exit ?_
   replace h := bc h hd12
   obtain rfl := ae h
   exact (aV (toK (e := [(1, .d (.ptr 12 (GRaw.row a0))), (2, .ref 0 0 0), (3, .ref 1 0 0), (4, .d (.v (.int .i64 v5))), (5, .d (.v (.int .i64 0))), (6, .ref 2 0 0)]) (g := [(3, dB 1 (s9.2.map (aw 2 Stp.row))), (2, ⟨3, [[.d (.v (.string ⟨(x7 : List UInt8).toArray⟩)), .sref 3 0 (s9.2.map (aw 2 Stp.row)).length, .d (.v (.bool ((c8 .u8 x8 1) == 1)))]]⟩), (1, ⟨9, [[.d (.v (.int .i64 x1.cells)), .d (.list 1 (x1.next.map (aw 1 (aa .i64))) false), .d (.list 1 (x1.turn.map (aa .i64)) false), .d (.list 0 [] true), .d (.v (.int .i64 x2)), .d (.v (.bool (x3 == 3))), .d (.list 0 [] true), .d (.v (.int .i64 3)), .d (.v (.int .i64 2))]]⟩), (0, ⟨9, [[.d (.v (.int .i64 0)), .d (.list 0 [] true), .d (.list 0 [] true), .d (.list 0 [] true), .d (.v (.int .i64 0)), .d (.v (.bool false)), .d (.list 0 [] true), .d (.v (.int .i64 0)), .d (.v (.int .i64 0))]]⟩)]) (m := 4) ⟨rfl, rfl, rfl, rfl, rfl, rfl, trivial⟩ ⟨rfl, rfl, rfl, rfl, trivial⟩) (bu (l := 3) (sz := 1) (env' := [(1, .d (.ptr 12 (GRaw.row a0))), (2, .ref 0 0 0), (3, .ref 1 0 0), (4, .d (.v (.int .i64 v5))), (5, .d (.v (.int .i64 0))), (6, .ref 2 0 0)]) (h' := [(2, ⟨3, [[.d (.v (.string ⟨(x7 : List UInt8).toArray⟩)), .d (.list 1 (s9.2.map (aw 2 Stp.row)) false), .d (.v (.bool ((c8 .u8 x8 1) == 1)))]]⟩), (1, ⟨9, [[.d (.v (.int .i64 x1.cells)), .d (.list 1 (x1.next.map (aw 1 (aa .i64))) false), .d (.list 1 (x1.turn.map (aa .i64)) false), .d (.list 0 [] true), .d (.v (.int .i64 x2)), .d (.v (.bool (x3 == 3))), .d (.list 0 [] true), .d (.v (.int .i64 3)), .d (.v (.int .i64 2))]]⟩), (0, ⟨9, [[.d (.v (.int .i64 0)), .d (.list 0 [] true), .d (.list 0 [] true), .d (.list 0 [] true), .d (.v (.int .i64 0)), .d (.v (.bool false)), .d (.list 0 [] true), .d (.v (.int .i64 0)), .d (.v (.int .i64 0))]]⟩)]) (nx := 4) (s9.2.map (aw 2 Stp.row)) rfl ⟨⟨_, rfl, rfl⟩, ⟨_, rfl, rfl⟩, ⟨_, rfl, rfl⟩, ⟨_, rfl, rfl⟩, ⟨_, rfl, rfl⟩, ⟨_, rfl, rfl⟩, trivial⟩ ⟨⟨rfl, _, rfl, bg (.cons rfl (.cons cj (.cons rfl .nil)))⟩, ⟨rfl, _, rfl, bg (.cons rfl (.cons rfl (.cons rfl (.cons rfl (.cons rfl (.cons rfl (.cons rfl (.cons rfl (.cons rfl .nil)))))))))⟩, ⟨rfl, _, rfl, bg (.cons rfl (.cons rfl (.cons rfl (.cons rfl (.cons rfl (.cons rfl (.cons rfl (.cons rfl (.cons rfl .nil)))))))))⟩, trivial⟩))
  replace h := ifT hc13 h
  refine gv hF (ax rfl rfl hc13) ?_
  refine gv hF oM ?_
  refine gv hF (oB (bP)) ?_
  refine gv hF (aQ rfl rfl rfl) ?_
  refine sn ?_
  refine aU hF rfl (fun hc14 => ?_) (fun hc14 => ?_)
  ·replace h := ifF hc14 h
   refine Sm.exit ?_
   replace h := bc h hd12
   obtain rfl := ae h
   exact (aV (toK (e := [(1, .d (.ptr 12 (GRaw.row a0))), (2, .ref 0 0 0), (3, .ref 1 0 0), (4, .d (.v (.int .i64 v5))), (5, .d (.v (.int .i64 0))), (6, .ref 2 0 0)]) (g := [(3, dB 1 (s9.2.map (aw 2 Stp.row))), (2, ⟨3, [[.d (.v (.string ⟨(x7 : List UInt8).toArray⟩)), .sref 3 0 (s9.2.map (aw 2 Stp.row)).length, .d (.v (.bool ((c8 .u8 x8 1) == 1)))]]⟩), (1, ⟨9, [[.d (.v (.int .i64 x1.cells)), .d (.list 1 (x1.next.map (aw 1 (aa .i64))) false), .d (.list 1 (x1.turn.map (aa .i64)) false), .d (.list 0 [] true), .d (.v (.int .i64 x2)), .d (.v (.bool (x3 == 3))), .d (.list 0 [] true), .d (.v (.int .i64 3)), .d (.v (.int .i64 2))]]⟩), (0, ⟨9, [[.d (.v (.int .i64 0)), .d (.list 0 [] true), .d (.list 0 [] true), .d (.list 0 [] true), .d (.v (.int .i64 0)), .d (.v (.bool false)), .d (.list 0 [] true), .d (.v (.int .i64 0)), .d (.v (.int .i64 0))]]⟩)]) (m := 4) ⟨rfl, rfl, rfl, rfl, rfl, rfl, trivial⟩ ⟨rfl, rfl, rfl, rfl, trivial⟩) (bu (l := 3) (sz := 1) (env' := [(1, .d (.ptr 12 (GRaw.row a0))), (2, .ref 0 0 0), (3, .ref 1 0 0), (4, .d (.v (.int .i64 v5))), (5, .d (.v (.int .i64 0))), (6, .ref 2 0 0)]) (h' := [(2, ⟨3, [[.d (.v (.string ⟨(x7 : List UInt8).toArray⟩)), .d (.list 1 (s9.2.map (aw 2 Stp.row)) false), .d (.v (.bool ((c8 .u8 x8 1) == 1)))]]⟩), (1, ⟨9, [[.d (.v (.int .i64 x1.cells)), .d (.list 1 (x1.next.map (aw 1 (aa .i64))) false), .d (.list 1 (x1.turn.map (aa .i64)) false), .d (.list 0 [] true), .d (.v (.int .i64 x2)), .d (.v (.bool (x3 == 3))), .d (.list 0 [] true), .d (.v (.int .i64 3)), .d (.v (.int .i64 2))]]⟩), (0, ⟨9, [[.d (.v (.int .i64 0)), .d (.list 0 [] true), .d (.list 0 [] true), .d (.list 0 [] true), .d (.v (.int .i64 0)), .d (.v (.bool false)), .d (.list 0 [] true), .d (.v (.int .i64 0)), .d (.v (.int .i64 0))]]⟩)]) (nx := 4) (s9.2.map (aw 2 Stp.row)) rfl ⟨⟨_, rfl, rfl⟩, ⟨_, rfl, rfl⟩, ⟨_, rfl, rfl⟩, ⟨_, rfl, rfl⟩, ⟨_, rfl, rfl⟩, ⟨_, rfl, rfl⟩, trivial⟩ ⟨⟨rfl, _, rfl, bg (.cons rfl (.cons cj (.cons rfl .nil)))⟩, ⟨rfl, _, rfl, bg (.cons rfl (.cons rfl (.cons rfl (.cons rfl (.cons rfl (.cons rfl (.cons rfl (.cons rfl (.cons rfl .nil)))))))))⟩, ⟨rfl, _, rfl, bg (.cons rfl (.cons rfl (.cons rfl (.cons rfl (.cons rfl (.cons rfl (.cons rfl (.cons rfl (.cons rfl .nil)))))))))⟩, trivial⟩))
  replace h := ifT hc14 h
  refine sk ?_
  refine Sm.seq ?_
  refine Sm.block ?_
  refine bm hF (by kernel_rfl) rfl 18 (by kernel_rfl) (by kernel_rfl) ?_
  simp only [List.take_succ_cons, List.take_zero, List.take_nil]
  refine hv hF (oF (av nD)) ?_
  refine hv hF (oL (bQ rfl rfl um rfl)) ?_
  refine hv hF oM ?_
  refine hv hF (oF (aj l6 rfl)) ?_
  refine hv hF (oI (cF u25 ln rfl rfl)) ?_
  refine hv hF (oL (lP1 nq rfl)) ?_
  refine hv hF oM ?_
  obtain ⟨x15, hx15, h⟩ := ab h
  refine hv hF (oI (cE u24 sz5 hx15)) ?_
  refine hv hF (oL (lP1 ag5 rfl)) ?_
  refine hv hF (oF (av l5)) ?_
  refine hv hF (oF (av jF)) ?_
  refine hv hF (oL (bQ rfl rfl nV rfl)) ?_
  refine hv hF (oN (bF u71)) ?_
  refine hv hF oM ?_
  refine hv hF (oF (av sf)) ?_
  refine hv hF (oL (bQ rfl rfl ag3 rfl)) ?_
  obtain ⟨x16, hx16, h⟩ := ab h
  refine af.c hF rfl rfl (by kernel_rfl) rfl rfl rfl (iY hx16) ?_
  refine hv hF (x := .d (.list 1 ([x16].map (aw 2 Stp.row)) true)) (oS (az rC o9 qY rfl rfl (PartsQ.cons rfl (PartsQ.nil _)) rfl)) ?_
  refine af.last ⟨rfl, ?_⟩
  simp only [List.drop_succ_cons, List.drop_zero, List.drop_nil, List.nil_append, List.cons_append]
  refine cV (cc (env' := [(1, .d (.ptr 12 (GRaw.row a0))), (2, .ref 0 0 0), (3, .ref 1 0 0), (4, .d (.v (.int .i64 v5))), (5, .d (.v (.int .i64 0))), (6, .ref 2 0 0), (7, .d (.v (.int .i64 s9.1))), (58, .d (.v (.int .i64 s9.1))), (59, .d (.v (.bool (decide (s9.1 < 4))))), (64, .sref 3 0 (s9.2.map (aw 2 Stp.row)).length), (80, .d (.list 1 ([x16].map (aw 2 Stp.row)) true))]) (h' := [(3, dB 1 (s9.2.map (aw 2 Stp.row))), (2, ⟨3, [[.d (.v (.string ⟨(x7 : List UInt8).toArray⟩)), .any, .d (.v (.bool ((c8 .u8 x8 1) == 1)))]]⟩), (1, ⟨9, [[.d (.v (.int .i64 x1.cells)), .d (.list 1 (x1.next.map (aw 1 (aa .i64))) false), .d (.list 1 (x1.turn.map (aa .i64)) false), .d (.list 0 [] true), .d (.v (.int .i64 x2)), .d (.v (.bool (x3 == 3))), .d (.list 0 [] true), .d (.v (.int .i64 3)), .d (.v (.int .i64 2))]]⟩), (0, ⟨9, [[.d (.v (.int .i64 0)), .d (.list 0 [] true), .d (.list 0 [] true), .d (.list 0 [] true), .d (.v (.int .i64 0)), .d (.v (.bool false)), .d (.list 0 [] true), .d (.v (.int .i64 0)), .d (.v (.int .i64 0))]]⟩)]) (nx' := 4) ⟨⟨_, rfl, V.le.refl _⟩, ⟨_, rfl, V.le.refl _⟩, ⟨_, rfl, V.le.refl _⟩, ⟨_, rfl, V.le.refl _⟩, ⟨_, rfl, V.le.refl _⟩, ⟨_, rfl, V.le.refl _⟩, ⟨_, rfl, V.le.refl _⟩, ⟨_, rfl, V.le.refl _⟩, ⟨_, rfl, V.le.refl _⟩, ⟨_, rfl, V.le.refl _⟩, ⟨_, rfl, V.le.refl _⟩, trivial⟩ ⟨⟨_, rfl, bp.refl _⟩, ⟨_, rfl, bp.row (.cons (V.le.refl _) (.cons (V.le.any _) (.cons (V.le.refl _) .nil)))⟩, ⟨_, rfl, bp.refl _⟩, ⟨_, rfl, bp.refl _⟩, trivial⟩ (Nat.le_of_ble_eq_true rfl)) rfl ?_
  obtain ⟨x17, hx17, h⟩ := ab h
  refine aZ hF xe rfl (ys := [x16]) (row := (aw 2 Stp.row)) rfl rfl rfl rfl rfl rfl rfl rfl (.inl rfl) hx17 (by (repeat' first | exact bD _ | refine bq ?_ | refine au ?_ (aW _ _ _) | refine au ?_ (aW _ _ [_]) | refine au ?_ (bU (by rfl)))) ?_
  refine gv hF (oF (av nD)) ?_
  refine SmG.store hF rfl rfl rfl rfl rfl (bY (rows' := [[.d (.v (.string ⟨(x7 : List UInt8).toArray⟩)), .sref 3 0 (x17.map (aw 2 Stp.row)).length, .d (.v (.bool ((c8 .u8 x8 1) == 1)))]]) rfl rfl rfl uA rfl rfl rfl) ?_
  refine SmG.nil ?_
  refine ay ?_
  refine ag ?_
  refine ac hF rfl ?_
  refine gv hF oM ?_
  obtain ⟨x18, hx18, h⟩ := ab h
  refine gv hF (oB (a8 hx18)) ?_
  refine gv hF oA ?_
  refine SmG.nil ?_
  exact bZ (bH h hd12) (toK ⟨rfl, rfl, rfl, rfl, rfl, rfl, rfl, trivial⟩ ⟨rfl, rfl, rfl, rfl, trivial⟩)
 refine ac hF rfl ?_
 refine gv hF oM ?_
 refine gv hF (oB (a8 (v := 1) rfl)) ?_
 refine gv hF oA ?_
 refine sn ?_
 refine jn ?_
 refine Sm.seq ?_
 refine sr hF ?_
 refine gv hF oM ?_
 refine gv hF oM ?_
 refine gv hF (oB (bP)) ?_
 refine sn ?_
 refine aU hF rfl (fun hc22 => ?_) (fun hc22 => ?_)
 ·replace h := ifF hc22 h
  refine Sm.exit ?_
  obtain rfl := ae h
  exact (aV (toK (e := [(1, .d (.ptr 12 (GRaw.row a0))), (2, .ref 0 0 0), (3, .ref 1 0 0), (4, .d (.v (.int .i64 v5)))]) (g := [(4, dB 3 (v21.map Knd.row)), (1, ⟨9, [[.d (.v (.int .i64 x1.cells)), .d (.list 1 (x1.next.map (aw 1 (aa .i64))) false), .d (.list 1 (x1.turn.map (aa .i64)) false), .sref 4 0 (v21.map Knd.row).length, .d (.v (.int .i64 x2)), .d (.v (.bool (x3 == 3))), .d (.list 0 [] true), .d (.v (.int .i64 3)), .d (.v (.int .i64 2))]]⟩), (0, ⟨9, [[.d (.v (.int .i64 0)), .d (.list 0 [] true), .d (.list 0 [] true), .d (.list 0 [] true), .d (.v (.int .i64 0)), .d (.v (.bool false)), .d (.list 0 [] true), .d (.v (.int .i64 0)), .d (.v (.int .i64 0))]]⟩)]) (m := 5) ⟨rfl, rfl, rfl, rfl, trivial⟩ ⟨rfl, rfl, rfl, trivial⟩) (aV (bu (l := 4) (sz := 3) (env' := [(1, .d (.ptr 12 (GRaw.row a0))), (2, .ref 0 0 0), (3, .ref 1 0 0), (4, .d (.v (.int .i64 v5)))]) (h' := [(1, ⟨9, [[.d (.v (.int .i64 x1.cells)), .d (.list 1 (x1.next.map (aw 1 (aa .i64))) false), .d (.list 1 (x1.turn.map (aa .i64)) false), .d (.list 3 (v21.map Knd.row) false), .d (.v (.int .i64 x2)), .d (.v (.bool (x3 == 3))), .d (.list 0 [] true), .d (.v (.int .i64 3)), .d (.v (.int .i64 2))]]⟩), (0, ⟨9, [[.d (.v (.int .i64 0)), .d (.list 0 [] true), .d (.list 0 [] true), .d (.list 0 [] true), .d (.v (.int .i64 0)), .d (.v (.bool false)), .d (.list 0 [] true), .d (.v (.int .i64 0)), .d (.v (.int .i64 0))]]⟩)]) (nx := 5) (v21.map Knd.row) rfl ⟨⟨_, rfl, rfl⟩, ⟨_, rfl, rfl⟩, ⟨_, rfl, rfl⟩, ⟨_, rfl, rfl⟩, trivial⟩ ⟨⟨rfl, _, rfl, bg (.cons rfl (.cons rfl (.cons rfl (.cons cj (.cons rfl (.cons rfl (.cons rfl (.cons rfl (.cons rfl .nil)))))))))⟩, ⟨rfl, _, rfl, bg (.cons rfl (.cons rfl (.cons rfl (.cons rfl (.cons rfl (.cons rfl (.cons rfl (.cons rfl (.cons rfl .nil)))))))))⟩, trivial⟩) (toK ⟨rfl, rfl, rfl, rfl, trivial⟩ ⟨rfl, rfl, trivial⟩)))
 replace h := ifT hc22 h
 refine sk ?_
 refine Sm.seq ?_
 obtain ⟨v37, hv37, h⟩ := ab h
 refine bk ⟨[(1, .d (.ptr 12 (GRaw.row a0))), (2, .ref 0 0 0), (3, .ref 1 0 0), (4, .d (.v (.int .i64 v5))), (5, .d (.v (.int .i64 1)))], [(4, dB 3 (v37.map Knd.row)), (1, ⟨9, [[.d (.v (.int .i64 x1.cells)), .d (.list 1 (x1.next.map (aw 1 (aa .i64))) false), .d (.list 1 (x1.turn.map (aa .i64)) false), .sref 4 0 (v37.map Knd.row).length, .d (.v (.int .i64 x2)), .d (.v (.bool (x3 == 3))), .d (.list 0 [] true), .d (.v (.int .i64 3)), .d (.v (.int .i64 2))]]⟩), (0, ⟨9, [[.d (.v (.int .i64 0)), .d (.list 0 [] true), .d (.list 0 [] true), .d (.list 0 [] true), .d (.v (.int .i64 0)), .d (.v (.bool false)), .d (.list 0 [] true), .d (.v (.int .i64 0)), .d (.v (.int .i64 0))]]⟩)], 7⟩ ?_ ?_
 ·refine ac hF rfl ?_
  refine gv hF oM ?_
  refine gv hF (oB (a8 (v := 2) rfl)) ?_
  refine gv hF oA ?_
  refine sn ?_
  refine jn ?_
  refine Sm.seq ?_
  refine sr hF ?_
  refine gv hF oM ?_
  refine gv hF oM ?_
  refine gv hF (oB (bP)) ?_
  refine sn ?_
  refine aU hF rfl (fun hc38 => ?_) (fun hc38 => ?_)
  ·replace h := ifF hc38 h
   refine Sm.exit ?_
   obtain rfl := ae h
   exact (aV (toK (e := [(1, .d (.ptr 12 (GRaw.row a0))), (2, .ref 0 0 0), (3, .ref 1 0 0), (4, .d (.v (.int .i64 v5)))]) (g := [(4, dB 3 (v37.map Knd.row)), (1, ⟨9, [[.d (.v (.int .i64 x1.cells)), .d (.list 1 (x1.next.map (aw 1 (aa .i64))) false), .d (.list 1 (x1.turn.map (aa .i64)) false), .sref 4 0 (v37.map Knd.row).length, .d (.v (.int .i64 x2)), .d (.v (.bool (x3 == 3))), .d (.list 0 [] true), .d (.v (.int .i64 3)), .d (.v (.int .i64 2))]]⟩), (0, ⟨9, [[.d (.v (.int .i64 0)), .d (.list 0 [] true), .d (.list 0 [] true), .d (.list 0 [] true), .d (.v (.int .i64 0)), .d (.v (.bool false)), .d (.list 0 [] true), .d (.v (.int .i64 0)), .d (.v (.int .i64 0))]]⟩)]) (m := 7) ⟨rfl, rfl, rfl, rfl, trivial⟩ ⟨rfl, rfl, rfl, trivial⟩) (bu (l := 4) (sz := 3) (env' := [(1, .d (.ptr 12 (GRaw.row a0))), (2, .ref 0 0 0), (3, .ref 1 0 0), (4, .d (.v (.int .i64 v5)))]) (h' := [(1, ⟨9, [[.d (.v (.int .i64 x1.cells)), .d (.list 1 (x1.next.map (aw 1 (aa .i64))) false), .d (.list 1 (x1.turn.map (aa .i64)) false), .d (.list 3 (v37.map Knd.row) false), .d (.v (.int .i64 x2)), .d (.v (.bool (x3 == 3))), .d (.list 0 [] true), .d (.v (.int .i64 3)), .d (.v (.int .i64 2))]]⟩), (0, ⟨9, [[.d (.v (.int .i64 0)), .d (.list 0 [] true), .d (.list 0 [] true), .d (.list 0 [] true), .d (.v (.int .i64 0)), .d (.v (.bool false)), .d (.list 0 [] true), .d (.v (.int .i64 0)), .d (.v (.int .i64 0))]]⟩)]) (nx := 7) (v37.map Knd.row) rfl ⟨⟨_, rfl, rfl⟩, ⟨_, rfl, rfl⟩, ⟨_, rfl, rfl⟩, ⟨_, rfl, rfl⟩, trivial⟩ ⟨⟨rfl, _, rfl, bg (.cons rfl (.cons rfl (.cons rfl (.cons cj (.cons rfl (.cons rfl (.cons rfl (.cons rfl (.cons rfl .nil)))))))))⟩, ⟨rfl, _, rfl, bg (.cons rfl (.cons rfl (.cons rfl (.cons rfl (.cons rfl (.cons rfl (.cons rfl (.cons rfl (.cons rfl .nil)))))))))⟩, trivial⟩))
  replace h := ifT hc38 h
  refine sk ?_
  refine Sm.seq ?_
  refine Sm.block ?_
  refine Sm.seq ?_
  refine bm hF (by kernel_rfl) rfl 13 (by kernel_rfl) (by kernel_rfl) ?_
  simp only [List.take_succ_cons, List.take_zero, List.take_nil]
  refine hv hF (x := .d (.list 1 ([([97] : List UInt8), ([98, 101, 101] : List UInt8)].map rO) true)) (oS (az pI sz9 ze9 rfl rfl (PartsQ.cons rfl (PartsQ.cons rfl (PartsQ.nil _))) rfl)) ?_
  refine hv hF oM ?_
  obtain ⟨x39, hx39, h⟩ := ab h
  refine hv hF (oI (cE pI sz9 hx39)) ?_
  refine hv hF (oL (lP1 ag9 rfl)) ?_
  refine hv hF (oF (aj iZ rfl)) ?_
  refine hv hF (oI (cF u27 sz5 rfl rfl)) ?_
  refine hv hF (oL (lP1 ag5 rfl)) ?_
  refine hv hF oM ?_
  obtain ⟨x40, hx40, h⟩ := ab h
  refine hv hF (oB (kv hx40)) ?_
  refine hv hF (oB rj) ?_
  refine hv hF (oB (cq)) ?_
  refine hv hF (x := .d (.agg 3 [.v (.string ⟨(x39 : List UInt8).toArray⟩), .list 0 [] true, .v (.bool ((c8 .u8 x40 1) == 1))])) (aY rfl wE (by kernel_rfl) rfl (bd (n := 3) nL tU rfl rfl)) ?_
  refine af.new hF rfl rfl rfl rfl tM ?_
  refine af.last ⟨rfl, ?_⟩
  simp only [List.drop_succ_cons, List.drop_zero, List.drop_nil, List.nil_append, List.cons_append]
  refine SmG.store hF rfl rfl rfl rfl rfl (aX (ys := [.d (.v (.string ⟨(x39 : List UInt8).toArray⟩)), .d (.list 0 [] true), .d (.v (.bool ((c8 .u8 x40 1) == 1)))]) (r := [.d (.v (.string ⟨([] : List UInt8).toArray⟩)), .d (.list 0 [] true), .d (.v (.bool false))]) (rows' := [[.d (.v (.string ⟨(x39 : List UInt8).toArray⟩)), .d (.list 0 [] true), .d (.v (.bool ((c8 .u8 x40 1) == 1)))]]) rfl rfl rfl ju rfl rfl rfl rfl rfl) ?_
  refine sn ?_
  refine Sm.seq ?_
  refine sr hF ?_
  refine gv hF oA ?_
  refine sn ?_
  refine Sm.block ?_
  refine bV (gm) (fun s41 => ⟨[(1, .d (.ptr 12 (GRaw.row a0))), (2, .ref 0 0 0), (3, .ref 1 0 0), (4, .d (.v (.int .i64 v5))), (5, .d (.v (.int .i64 2))), (6, .ref 7 0 0), (7, .d (.v (.int .i64 s41)))], [(7, ⟨3, [[.d (.v (.string ⟨(x39 : List UInt8).toArray⟩)), .d (.list 0 [] true), .d (.v (.bool ((c8 .u8 x40 1) == 1)))]]⟩), (4, dB 3 (v37.map Knd.row)), (1, ⟨9, [[.d (.v (.int .i64 x1.cells)), .d (.list 1 (x1.next.map (aw 1 (aa .i64))) false), .d (.list 1 (x1.turn.map (aa .i64)) false), .sref 4 0 (v37.map Knd.row).length, .d (.v (.int .i64 x2)), .d (.v (.bool (x3 == 3))), .d (.list 0 [] true), .d (.v (.int .i64 3)), .d (.v (.int .i64 2))]]⟩), (0, ⟨9, [[.d (.v (.int .i64 0)), .d (.list 0 [] true), .d (.list 0 [] true), .d (.list 0 [] true), .d (.v (.int .i64 0)), .d (.v (.bool false)), .d (.list 0 [] true), .d (.v (.int .i64 0)), .d (.v (.int .i64 0))]]⟩)], 8⟩) 0 h (toK ⟨rfl, rfl, rfl, rfl, rfl, rfl, rfl, trivial⟩ ⟨rfl, rfl, rfl, rfl, trivial⟩) ?_
  intro n42 s41 o43 h hd44
  unfold gm at h
  refine Sm.seq ?_
  refine sr hF ?_
  refine gv hF oM ?_
  refine gv hF oM ?_
  refine gv hF (oF (aj l6 rfl)) ?_
  cases h
 replace h := hv37
 refine Sm.block ?_
 refine Sm.seq ?_
 refine bm hF (by kernel_rfl) rfl 13 (by kernel_rfl) (by kernel_rfl) ?_
 simp only [List.take_succ_cons, List.take_zero, List.take_nil]
 refine hv hF (x := .d (.list 1 ([([97] : List UInt8), ([98, 101, 101] : List UInt8)].map rO) true)) (oS (az pI sz9 ze9 rfl rfl (PartsQ.cons rfl (PartsQ.cons rfl (PartsQ.nil _))) rfl)) ?_
 refine hv hF oM ?_
 obtain ⟨x23, hx23, h⟩ := ab h
 refine hv hF (oI (cE pI sz9 hx23)) ?_
 refine hv hF (oL (lP1 ag9 rfl)) ?_
 refine hv hF (oF (aj iZ rfl)) ?_
 refine hv hF (oI (cF u27 sz5 rfl rfl)) ?_
 refine hv hF (oL (lP1 ag5 rfl)) ?_
 refine hv hF oM ?_
 obtain ⟨x24, hx24, h⟩ := ab h
 refine hv hF (oB (kv hx24)) ?_
 refine hv hF (oB rj) ?_
 refine hv hF (oB (cq)) ?_
 refine hv hF (x := .d (.agg 3 [.v (.string ⟨(x23 : List UInt8).toArray⟩), .list 0 [] true, .v (.bool ((c8 .u8 x24 1) == 1))])) (aY rfl wE (by kernel_rfl) rfl (bd (n := 3) nL tU rfl rfl)) ?_
 refine af.new hF rfl rfl rfl rfl tM ?_
 refine af.last ⟨rfl, ?_⟩
 simp only [List.drop_succ_cons, List.drop_zero, List.drop_nil, List.nil_append, List.cons_append]
 refine SmG.store hF rfl rfl rfl rfl rfl (aX (ys := [.d (.v (.string ⟨(x23 : List UInt8).toArray⟩)), .d (.list 0 [] true), .d (.v (.bool ((c8 .u8 x24 1) == 1)))]) (r := [.d (.v (.string ⟨([] : List UInt8).toArray⟩)), .d (.list 0 [] true), .d (.v (.bool false))]) (rows' := [[.d (.v (.string ⟨(x23 : List UInt8).toArray⟩)), .d (.list 0 [] true), .d (.v (.bool ((c8 .u8 x24 1) == 1)))]]) rfl rfl rfl ju rfl rfl rfl rfl rfl) ?_
 refine sn ?_
 refine Sm.seq ?_
 obtain ⟨v35, hv35, h⟩ := ab h
 refine bk ⟨[(1, .d (.ptr 12 (GRaw.row a0))), (2, .ref 0 0 0), (3, .ref 1 0 0), (4, .d (.v (.int .i64 v5))), (5, .d (.v (.int .i64 1))), (6, .ref 5 0 0)], [(5, ⟨3, [[.d (.v (.string ⟨(x23 : List UInt8).toArray⟩)), .d (.list 1 (v35.map (aw 2 Stp.row)) false), .d (.v (.bool ((c8 .u8 x24 1) == 1)))]]⟩), (4, dB 3 (v21.map Knd.row)), (1, ⟨9, [[.d (.v (.int .i64 x1.cells)), .d (.list 1 (x1.next.map (aw 1 (aa .i64))) false), .d (.list 1 (x1.turn.map (aa .i64)) false), .sref 4 0 (v21.map Knd.row).length, .d (.v (.int .i64 x2)), .d (.v (.bool (x3 == 3))), .d (.list 0 [] true), .d (.v (.int .i64 3)), .d (.v (.int .i64 2))]]⟩), (0, ⟨9, [[.d (.v (.int .i64 0)), .d (.list 0 [] true), .d (.list 0 [] true), .d (.list 0 [] true), .d (.v (.int .i64 0)), .d (.v (.bool false)), .d (.list 0 [] true), .d (.v (.int .i64 0)), .d (.v (.int .i64 0))]]⟩)], 7⟩ ?_ ?_
 ·refine ac hF rfl ?_
  refine gv hF (oF (av gB)) ?_
  refine gv hF (oL (bQ rfl rfl kH rfl)) ?_
  refine gv hF (x := .d (.agg 3 [.v (.string ⟨(x23 : List UInt8).toArray⟩), .list 1 (v35.map (aw 2 Stp.row)) false, .v (.bool ((c8 .u8 x24 1) == 1))])) (oL (aC rfl rfl un ju rfl rfl)) ?_
  refine gv hF (x := .d (.list 3 ([(⟨x23, v35, ((c8 .u8 x24 1) == 1)⟩ : Knd)].map Knd.row) true)) (oS (az u74 ju nL rfl rfl (PartsQ.cons rfl (PartsQ.nil _)) rfl)) ?_
  refine cV (cc (env' := [(1, .d (.ptr 12 (GRaw.row a0))), (2, .ref 0 0 0), (3, .ref 1 0 0), (4, .d (.v (.int .i64 v5))), (5, .d (.v (.int .i64 1))), (84, .sref 4 0 (v21.map Knd.row).length), (86, .d (.list 3 ([(⟨x23, v35, ((c8 .u8 x24 1) == 1)⟩ : Knd)].map Knd.row) true))]) (h' := [(4, dB 3 (v21.map Knd.row)), (1, ⟨9, [[.d (.v (.int .i64 x1.cells)), .d (.list 1 (x1.next.map (aw 1 (aa .i64))) false), .d (.list 1 (x1.turn.map (aa .i64)) false), .any, .d (.v (.int .i64 x2)), .d (.v (.bool (x3 == 3))), .d (.list 0 [] true), .d (.v (.int .i64 3)), .d (.v (.int .i64 2))]]⟩), (0, ⟨9, [[.d (.v (.int .i64 0)), .d (.list 0 [] true), .d (.list 0 [] true), .d (.list 0 [] true), .d (.v (.int .i64 0)), .d (.v (.bool false)), .d (.list 0 [] true), .d (.v (.int .i64 0)), .d (.v (.int .i64 0))]]⟩)]) (nx' := 7) ⟨⟨_, rfl, V.le.refl _⟩, ⟨_, rfl, V.le.refl _⟩, ⟨_, rfl, V.le.refl _⟩, ⟨_, rfl, V.le.refl _⟩, ⟨_, rfl, V.le.refl _⟩, ⟨_, rfl, V.le.refl _⟩, ⟨_, rfl, V.le.refl _⟩, trivial⟩ ⟨⟨_, rfl, bp.refl _⟩, ⟨_, rfl, bp.row (.cons (V.le.refl _) (.cons (V.le.refl _) (.cons (V.le.refl _) (.cons (V.le.any _) (.cons (V.le.refl _) (.cons (V.le.refl _) (.cons (V.le.refl _) (.cons (V.le.refl _) (.cons (V.le.refl _) .nil)))))))))⟩, ⟨_, rfl, bp.refl _⟩, trivial⟩ (Nat.le_of_ble_eq_true rfl)) rfl ?_
  obtain ⟨x36, hx36, h⟩ := ab h
  refine aZ hF yC rfl (ys := [(⟨x23, v35, ((c8 .u8 x24 1) == 1)⟩ : Knd)]) (row := Knd.row) rfl rfl rfl rfl rfl rfl rfl rfl (.inl rfl) hx36 (by (repeat' first | exact bD _ | refine bq ?_ | refine au ?_ (aW _ _ _) | refine au ?_ (aW _ _ [_]) | refine au ?_ (bU (by rfl)))) ?_
  refine gv hF (oF (av gB)) ?_
  refine SmG.store hF rfl rfl rfl rfl rfl (bY (rows' := [[.d (.v (.int .i64 x1.cells)), .d (.list 1 (x1.next.map (aw 1 (aa .i64))) false), .d (.list 1 (x1.turn.map (aa .i64)) false), .sref 4 0 (x36.map Knd.row).length, .d (.v (.int .i64 x2)), .d (.v (.bool (x3 == 3))), .d (.list 0 [] true), .d (.v (.int .i64 3)), .d (.v (.int .i64 2))]]) rfl rfl rfl wo rfl rfl rfl) ?_
  refine SmG.nil ?_
  refine ay ?_
  obtain rfl := ae h
  exact (toK ⟨rfl, rfl, rfl, rfl, rfl, trivial⟩ ⟨rfl, rfl, rfl, trivial⟩)
 replace h := hv35
 refine sr hF ?_
 refine gv hF oA ?_
 refine sn ?_
 refine Sm.block ?_
 refine Sm.to (toK (e := [(1, .d (.ptr 12 (GRaw.row a0))), (2, .ref 0 0 0), (3, .ref 1 0 0), (4, .d (.v (.int .i64 v5))), (5, .d (.v (.int .i64 1))), (6, .ref 5 0 0), (7, .d (.v (.int .i64 0)))]) (g := [(5, ⟨3, [[.d (.v (.string ⟨(x23 : List UInt8).toArray⟩)), .d (.list 0 [] true), .d (.v (.bool ((c8 .u8 x24 1) == 1)))]]⟩), (4, dB 3 (v21.map Knd.row)), (1, ⟨9, [[.d (.v (.int .i64 x1.cells)), .d (.list 1 (x1.next.map (aw 1 (aa .i64))) false), .d (.list 1 (x1.turn.map (aa .i64)) false), .sref 4 0 (v21.map Knd.row).length, .d (.v (.int .i64 x2)), .d (.v (.bool (x3 == 3))), .d (.list 0 [] true), .d (.v (.int .i64 3)), .d (.v (.int .i64 2))]]⟩), (0, ⟨9, [[.d (.v (.int .i64 0)), .d (.list 0 [] true), .d (.list 0 [] true), .d (.list 0 [] true), .d (.v (.int .i64 0)), .d (.v (.bool false)), .d (.list 0 [] true), .d (.v (.int .i64 0)), .d (.v (.int .i64 0))]]⟩)]) (m := 6) ⟨rfl, rfl, rfl, rfl, rfl, rfl, rfl, trivial⟩ ⟨rfl, rfl, rfl, rfl, trivial⟩) ?_
 refine Sm.ownCell 5 0 1 1 rfl rfl rfl ?_
 refine bV (dV a0 x1 x2 v5) (fun s25 => ⟨[(1, .d (.ptr 12 (GRaw.row a0))), (2, .ref 0 0 0), (3, .ref 1 0 0), (4, .d (.v (.int .i64 v5))), (5, .d (.v (.int .i64 1))), (6, .ref 5 0 0), (7, .d (.v (.int .i64 s25.1)))], [(6, dB 1 (s25.2.map (aw 2 Stp.row))), (5, ⟨3, [[.d (.v (.string ⟨(x23 : List UInt8).toArray⟩)), .sref 6 0 (s25.2.map (aw 2 Stp.row)).length, .d (.v (.bool ((c8 .u8 x24 1) == 1)))]]⟩), (4, dB 3 (v21.map Knd.row)), (1, ⟨9, [[.d (.v (.int .i64 x1.cells)), .d (.list 1 (x1.next.map (aw 1 (aa .i64))) false), .d (.list 1 (x1.turn.map (aa .i64)) false), .sref 4 0 (v21.map Knd.row).length, .d (.v (.int .i64 x2)), .d (.v (.bool (x3 == 3))), .d (.list 0 [] true), .d (.v (.int .i64 3)), .d (.v (.int .i64 2))]]⟩), (0, ⟨9, [[.d (.v (.int .i64 0)), .d (.list 0 [] true), .d (.list 0 [] true), .d (.list 0 [] true), .d (.v (.int .i64 0)), .d (.v (.bool false)), .d (.list 0 [] true), .d (.v (.int .i64 0)), .d (.v (.int .i64 0))]]⟩)], 7⟩) (0, ([] : List (List Stp))) h (toK ⟨rfl, rfl, rfl, rfl, rfl, rfl, rfl, trivial⟩ ⟨rfl, rfl, rfl, rfl, rfl, trivial⟩) ?_
 intro n26 s25 o27 h hd28
 unfold dV at h
 refine Sm.seq ?_
 refine sr hF ?_
 refine gv hF oM ?_
 refine gv hF oM ?_
 refine gv hF (oF (aj l6 rfl)) ?_
 refine gv hF (oI (cF u25 ln rfl rfl)) ?_
 refine gv hF (oL (lP1 nq rfl)) ?_
 refine gv hF (oN (bF u24)) ?_
 refine gv hF (oB (bP)) ?_
 rcases bX (decide (s25.1 < (a0.k1.length : Int))) with hc29 | hc29
 ·replace h := ifF hc29 h
  refine gv hF (ax rfl rfl hc29) ?_
  refine gp hF ?_
  refine gp hF ?_
  refine gv hF (ak rfl rfl rfl) ?_
  refine sn ?_
  refine cP hF rfl ?_
  refine Sm.exit ?_
  replace h := bc h hd28
  obtain rfl := ae h
  exact (aV (toK (e := [(1, .d (.ptr 12 (GRaw.row a0))), (2, .ref 0 0 0), (3, .ref 1 0 0), (4, .d (.v (.int .i64 v5))), (5, .d (.v (.int .i64 1))), (6, .ref 5 0 0)]) (g := [(6, dB 1 (s25.2.map (aw 2 Stp.row))), (5, ⟨3, [[.d (.v (.string ⟨(x23 : List UInt8).toArray⟩)), .sref 6 0 (s25.2.map (aw 2 Stp.row)).length, .d (.v (.bool ((c8 .u8 x24 1) == 1)))]]⟩), (4, dB 3 (v21.map Knd.row)), (1, ⟨9, [[.d (.v (.int .i64 x1.cells)), .d (.list 1 (x1.next.map (aw 1 (aa .i64))) false), .d (.list 1 (x1.turn.map (aa .i64)) false), .sref 4 0 (v21.map Knd.row).length, .d (.v (.int .i64 x2)), .d (.v (.bool (x3 == 3))), .d (.list 0 [] true), .d (.v (.int .i64 3)), .d (.v (.int .i64 2))]]⟩), (0, ⟨9, [[.d (.v (.int .i64 0)), .d (.list 0 [] true), .d (.list 0 [] true), .d (.list 0 [] true), .d (.v (.int .i64 0)), .d (.v (.bool false)), .d (.list 0 [] true), .d (.v (.int .i64 0)), .d (.v (.int .i64 0))]]⟩)]) (m := 7) ⟨rfl, rfl, rfl, rfl, rfl, rfl, trivial⟩ ⟨rfl, rfl, rfl, rfl, rfl, trivial⟩) (bu (l := 6) (sz := 1) (env' := [(1, .d (.ptr 12 (GRaw.row a0))), (2, .ref 0 0 0), (3, .ref 1 0 0), (4, .d (.v (.int .i64 v5))), (5, .d (.v (.int .i64 1))), (6, .ref 5 0 0)]) (h' := [(5, ⟨3, [[.d (.v (.string ⟨(x23 : List UInt8).toArray⟩)), .d (.list 1 (s25.2.map (aw 2 Stp.row)) false), .d (.v (.bool ((c8 .u8 x24 1) == 1)))]]⟩), (4, dB 3 (v21.map Knd.row)), (1, ⟨9, [[.d (.v (.int .i64 x1.cells)), .d (.list 1 (x1.next.map (aw 1 (aa .i64))) false), .d (.list 1 (x1.turn.map (aa .i64)) false), .sref 4 0 (v21.map Knd.row).length, .d (.v (.int .i64 x2)), .d (.v (.bool (x3 == 3))), .d (.list 0 [] true), .d (.v (.int .i64 3)), .d (.v (.int .i64 2))]]⟩), (0, ⟨9, [[.d (.v (.int .i64 0)), .d (.list 0 [] true), .d (.list 0 [] true), .d (.list 0 [] true), .d (.v (.int .i64 0)), .d (.v (.bool false)), .d (.list 0 [] true), .d (.v (.int .i64 0)), .d (.v (.int .i64 0))]]⟩)]) (nx := 7) (s25.2.map (aw 2 Stp.row)) rfl ⟨⟨_, rfl, rfl⟩, ⟨_, rfl, rfl⟩, ⟨_, rfl, rfl⟩, ⟨_, rfl, rfl⟩, ⟨_, rfl, rfl⟩, ⟨_, rfl, rfl⟩, trivial⟩ ⟨⟨rfl, _, rfl, bg (.cons rfl (.cons cj (.cons rfl .nil)))⟩, ⟨rfl, _, rfl, ig⟩, ⟨rfl, _, rfl, bg (.cons rfl (.cons rfl (.cons rfl (.cons rfl (.cons rfl (.cons rfl (.cons rfl (.cons rfl (.cons rfl .nil)))))))))⟩, ⟨rfl, _, rfl, bg (.cons rfl (.cons rfl (.cons rfl (.cons rfl (.cons rfl (.cons rfl (.cons rfl (.cons rfl (.cons rfl .nil)))))))))⟩, trivial⟩))
 replace h := ifT hc29 h
 refine gv hF (ax rfl rfl hc29) ?_
 refine gv hF oM ?_
 refine gv hF (oB (bP)) ?_
 refine gv hF (aQ rfl rfl rfl) ?_
 refine sn ?_
 refine aU hF rfl (fun hc30 => ?_) (fun hc30 => ?_)
 ·replace h := ifF hc30 h
  refine Sm.exit ?_
  replace h := bc h hd28
  obtain rfl := ae h
  exact (aV (toK (e := [(1, .d (.ptr 12 (GRaw.row a0))), (2, .ref 0 0 0), (3, .ref 1 0 0), (4, .d (.v (.int .i64 v5))), (5, .d (.v (.int .i64 1))), (6, .ref 5 0 0)]) (g := [(6, dB 1 (s25.2.map (aw 2 Stp.row))), (5, ⟨3, [[.d (.v (.string ⟨(x23 : List UInt8).toArray⟩)), .sref 6 0 (s25.2.map (aw 2 Stp.row)).length, .d (.v (.bool ((c8 .u8 x24 1) == 1)))]]⟩), (4, dB 3 (v21.map Knd.row)), (1, ⟨9, [[.d (.v (.int .i64 x1.cells)), .d (.list 1 (x1.next.map (aw 1 (aa .i64))) false), .d (.list 1 (x1.turn.map (aa .i64)) false), .sref 4 0 (v21.map Knd.row).length, .d (.v (.int .i64 x2)), .d (.v (.bool (x3 == 3))), .d (.list 0 [] true), .d (.v (.int .i64 3)), .d (.v (.int .i64 2))]]⟩), (0, ⟨9, [[.d (.v (.int .i64 0)), .d (.list 0 [] true), .d (.list 0 [] true), .d (.list 0 [] true), .d (.v (.int .i64 0)), .d (.v (.bool false)), .d (.list 0 [] true), .d (.v (.int .i64 0)), .d (.v (.int .i64 0))]]⟩)]) (m := 7) ⟨rfl, rfl, rfl, rfl, rfl, rfl, trivial⟩ ⟨rfl, rfl, rfl, rfl, rfl, trivial⟩) (bu (l := 6) (sz := 1) (env' := [(1, .d (.ptr 12 (GRaw.row a0))), (2, .ref 0 0 0), (3, .ref 1 0 0), (4, .d (.v (.int .i64 v5))), (5, .d (.v (.int .i64 1))), (6, .ref 5 0 0)]) (h' := [(5, ⟨3, [[.d (.v (.string ⟨(x23 : List UInt8).toArray⟩)), .d (.list 1 (s25.2.map (aw 2 Stp.row)) false), .d (.v (.bool ((c8 .u8 x24 1) == 1)))]]⟩), (4, dB 3 (v21.map Knd.row)), (1, ⟨9, [[.d (.v (.int .i64 x1.cells)), .d (.list 1 (x1.next.map (aw 1 (aa .i64))) false), .d (.list 1 (x1.turn.map (aa .i64)) false), .sref 4 0 (v21.map Knd.row).length, .d (.v (.int .i64 x2)), .d (.v (.bool (x3 == 3))), .d (.list 0 [] true), .d (.v (.int .i64 3)), .d (.v (.int .i64 2))]]⟩), (0, ⟨9, [[.d (.v (.int .i64 0)), .d (.list 0 [] true), .d (.list 0 [] true), .d (.list 0 [] true), .d (.v (.int .i64 0)), .d (.v (.bool false)), .d (.list 0 [] true), .d (.v (.int .i64 0)), .d (.v (.int .i64 0))]]⟩)]) (nx := 7) (s25.2.map (aw 2 Stp.row)) rfl ⟨⟨_, rfl, rfl⟩, ⟨_, rfl, rfl⟩, ⟨_, rfl, rfl⟩, ⟨_, rfl, rfl⟩, ⟨_, rfl, rfl⟩, ⟨_, rfl, rfl⟩, trivial⟩ ⟨⟨rfl, _, rfl, bg (.cons rfl (.cons cj (.cons rfl .nil)))⟩, ⟨rfl, _, rfl, ig⟩, ⟨rfl, _, rfl, bg (.cons rfl (.cons rfl (.cons rfl (.cons rfl (.cons rfl (.cons rfl (.cons rfl (.cons rfl (.cons rfl .nil)))))))))⟩, ⟨rfl, _, rfl, bg (.cons rfl (.cons rfl (.cons rfl (.cons rfl (.cons rfl (.cons rfl (.cons rfl (.cons rfl (.cons rfl .nil)))))))))⟩, trivial⟩))
 replace h := ifT hc30 h
 refine sk ?_
 refine Sm.seq ?_
 refine Sm.block ?_
 refine bm hF (by kernel_rfl) rfl 18 (by kernel_rfl) (by kernel_rfl) ?_
 simp only [List.take_succ_cons, List.take_zero, List.take_nil]
 refine hv hF (oF (av nD)) ?_
 refine hv hF (oL (bQ rfl rfl um rfl)) ?_
 refine hv hF oM ?_
 refine hv hF (oF (aj l6 rfl)) ?_
 refine hv hF (oI (cF u25 ln rfl rfl)) ?_
 refine hv hF (oL (lP1 nq rfl)) ?_
 refine hv hF oM ?_
 obtain ⟨x31, hx31, h⟩ := ab h
 refine hv hF (oI (cE u24 sz5 hx31)) ?_
 refine hv hF (oL (lP1 ag5 rfl)) ?_
 refine hv hF (oF (av l5)) ?_
 refine hv hF (oF (av jF)) ?_
 refine hv hF (oL (bQ rfl rfl nV rfl)) ?_
 refine hv hF (oN (bF u71)) ?_
 refine hv hF oM ?_
 refine hv hF (oF (av sf)) ?_
 refine hv hF (oL (bQ rfl rfl ag3 rfl)) ?_
 obtain ⟨x32, hx32, h⟩ := ab h
 refine af.c hF rfl rfl (by kernel_rfl) rfl rfl rfl (iY hx32) ?_
 refine hv hF (x := .d (.list 1 ([x32].map (aw 2 Stp.row)) true)) (oS (az rC o9 qY rfl rfl (PartsQ.cons rfl (PartsQ.nil _)) rfl)) ?_
 refine af.last ⟨rfl, ?_⟩
 simp only [List.drop_succ_cons, List.drop_zero, List.drop_nil, List.nil_append, List.cons_append]
 refine cV (cc (env' := [(1, .d (.ptr 12 (GRaw.row a0))), (2, .ref 0 0 0), (3, .ref 1 0 0), (4, .d (.v (.int .i64 v5))), (5, .d (.v (.int .i64 1))), (6, .ref 5 0 0), (7, .d (.v (.int .i64 s25.1))), (58, .d (.v (.int .i64 s25.1))), (59, .d (.v (.bool (decide (s25.1 < 4))))), (64, .sref 6 0 (s25.2.map (aw 2 Stp.row)).length), (80, .d (.list 1 ([x32].map (aw 2 Stp.row)) true))]) (h' := [(6, dB 1 (s25.2.map (aw 2 Stp.row))), (5, ⟨3, [[.d (.v (.string ⟨(x23 : List UInt8).toArray⟩)), .any, .d (.v (.bool ((c8 .u8 x24 1) == 1)))]]⟩), (4, dB 3 (v21.map Knd.row)), (1, ⟨9, [[.d (.v (.int .i64 x1.cells)), .d (.list 1 (x1.next.map (aw 1 (aa .i64))) false), .d (.list 1 (x1.turn.map (aa .i64)) false), .sref 4 0 (v21.map Knd.row).length, .d (.v (.int .i64 x2)), .d (.v (.bool (x3 == 3))), .d (.list 0 [] true), .d (.v (.int .i64 3)), .d (.v (.int .i64 2))]]⟩), (0, ⟨9, [[.d (.v (.int .i64 0)), .d (.list 0 [] true), .d (.list 0 [] true), .d (.list 0 [] true), .d (.v (.int .i64 0)), .d (.v (.bool false)), .d (.list 0 [] true), .d (.v (.int .i64 0)), .d (.v (.int .i64 0))]]⟩)]) (nx' := 7) ⟨⟨_, rfl, V.le.refl _⟩, ⟨_, rfl, V.le.refl _⟩, ⟨_, rfl, V.le.refl _⟩, ⟨_, rfl, V.le.refl _⟩, ⟨_, rfl, V.le.refl _⟩, ⟨_, rfl, V.le.refl _⟩, ⟨_, rfl, V.le.refl _⟩, ⟨_, rfl, V.le.refl _⟩, ⟨_, rfl, V.le.refl _⟩, ⟨_, rfl, V.le.refl _⟩, ⟨_, rfl, V.le.refl _⟩, trivial⟩ ⟨⟨_, rfl, bp.refl _⟩, ⟨_, rfl, bp.row (.cons (V.le.refl _) (.cons (V.le.any _) (.cons (V.le.refl _) .nil)))⟩, ⟨_, rfl, bp.refl _⟩, ⟨_, rfl, bp.refl _⟩, ⟨_, rfl, bp.refl _⟩, trivial⟩ (Nat.le_of_ble_eq_true rfl)) rfl ?_
 obtain ⟨x33, hx33, h⟩ := ab h
 refine aZ hF xe rfl (ys := [x32]) (row := (aw 2 Stp.row)) rfl rfl rfl rfl rfl rfl rfl rfl (.inl rfl) hx33 (by (repeat' first | exact bD _ | refine bq ?_ | refine au ?_ (aW _ _ _) | refine au ?_ (aW _ _ [_]) | refine au ?_ (bU (by rfl)))) ?_
 refine gv hF (oF (av nD)) ?_
 refine SmG.store hF rfl rfl rfl rfl rfl (bY (rows' := [[.d (.v (.string ⟨(x23 : List UInt8).toArray⟩)), .sref 6 0 (x33.map (aw 2 Stp.row)).length, .d (.v (.bool ((c8 .u8 x24 1) == 1)))]]) rfl rfl rfl uA rfl rfl rfl) ?_
 refine SmG.nil ?_
 refine ay ?_
 refine ag ?_
 refine ac hF rfl ?_
 refine gv hF oM ?_
 obtain ⟨x34, hx34, h⟩ := ab h
 refine gv hF (oB (a8 hx34)) ?_
 refine gv hF oA ?_
 refine SmG.nil ?_
 exact bZ (bH h hd28) (toK ⟨rfl, rfl, rfl, rfl, rfl, rfl, rfl, trivial⟩ ⟨rfl, rfl, rfl, rfl, rfl, trivial⟩)
end
end Go.Proofs.YtbaccmkhjmmlnaaDoor
