/-
  Walks: slices.Reverse of hashes.
-/
import Derived.Test.YtmindblfbijaaaaDoorRows
import Derived.WalkKit
import Derived.WalkSpells
import Derived.WalkLawsBesides
import Derived.BigQuiet
import Derived.Deep.QuietTactic
import Derived.Deep.RegionHeld3
import Derived.Deep.DeepCutAuto
import Derived.Deep.LoopGhost
import Derived.StillTailTactics
import Derived.Lib.Hide
import Derived.Handy
import Derived.Test.YtmindblfbijaaaaDoorRoot
import Derived.Test.YtmindblfbijaaaaDoorSums
import Derived.Test.YtmindblfbijaaaaDoorVals
namespace Go.Proofs.YtmindblfbijaaaaDoor
open Go.RowKit
theorem grownBy_trans {w1 w2 w3 : World} {r : Option Nat} (h : w1.grownBy w2 r) (k : w2.grownBy w3 r) : w1.grownBy w3 r :=
  ⟨k.os.trans h.os, k.tape.trans h.tape, k.output.trans h.output, Nat.le_trans h.size k.size, fun i hi hr => (k.block i (Nat.lt_of_lt_of_le hi h.size) hr).trans (h.block i hi hr)⟩
theorem grownBy_drew {w1 w2 : World} {r : Option Nat} (h : w1.grownBy w2 r) : w1.grownBy w2.drew r := ⟨h.os, h.tape, h.output, h.size, h.block⟩
/-- The block g has cells of the type that it had. -/
def SameT (g : Nat) (w w' : World) : Prop := ∀ cs T, w.heap[g]? = some (.cells cs T) → ∃ cs', w'.heap[g]? = some (.cells cs' T)
theorem SameT.refl (g : Nat) (w : World) : SameT g w w := fun cs _ h => ⟨cs, h⟩
theorem SameT.trans {g : Nat} {a b c : World} (h : SameT g a b) (k : SameT g b c) : SameT g a c := fun cs T hT => by
  obtain ⟨cs', h'⟩ := h cs T hT; exact k cs' T h'
theorem SameT.drew {g : Nat} {a b : World} (h : SameT g a b) : SameT g a b.drew := h
/-- Store of a whole array or struct; the type of the block is kept. -/
theorem wp_store_cellsT {P : Program} {o : Oper} {a : Act} {w : World} {Q : Exit → Act → World → Prop} {K : Act → World → Prop} (hd : o.dst = none) (ty : TypeId) (x y : Operand) (ho : o.op = .store ty x y) (g off : Nat) (hx : a.eval x = .pointer (some ⟨g, off, none⟩))
    (cs : List Value) (hy : a.eval y = .agg cs.toArray) (hT : (P.info? ty).map (·.size) = some cs.length) (h1 : ∀ v ∈ cs, v.oneCell' = true) (cur : List Value) (hA : Arr w g cur) (hfit : off + cs.length ≤ cur.length)
    (h : ∀ w', Arr w' g (lay cur off cs) → w.grownBy w' (some g) → SameT g w w' → K a w') : o.wp P a w K Q := by
  obtain ⟨T, hg⟩ := hA
  have hs : (storeCells ⟨g, off, none⟩ cs).run P w = .ok () (w.setRow g (lay cur off cs).toArray) := by
    have := run_storeCells_at P g off T cs 0 cur.toArray w hg (by simpa using hfit) h1
    simpa [lay] using this
  unfold Oper.wp
  have : (execOp a.eval o).run P w = .ok .skip (w.setRow g (lay cur off cs).toArray) := by
    simp only [execOp, ho, hx, hy]
    simp [Instr.storeAt, Instr.sureAddr, storeVar, Sem.run_bind, Value.cells, run_sizeOf hT, hs, Result.andThen]
  rw [this, Oper.upon_skip, hd]
  exact h _ (Arr.setRow ⟨T, hg⟩ _) (grownBy_setRow _ _ _) (fun cs' T' h' => ⟨_, by
    simp only [World.setRow, Array.getElem?_modify, if_pos, h']; rfl⟩)
def RevS (g : Nat) (w : World) (c0 c1 c2 : List Value) (S : Nat → Bool) (w' : World) : Prop :=
  (w.grownBy w' (some g) ∧ SameT g w w') ∧ Arr w' g (if S 15 then c2 else if S 13 then c1 else c0)
theorem RevS.same {g : Nat} {w w' : World} {c0 c1 c2 : List Value} {S S' : Nat → Bool} {i : Nat} (h : RevS g w c0 c1 c2 S w') (hS : ∀ j, S' j = if j = i then true else S j) (h1 : i ≠ 13) (h2 : i ≠ 15) : RevS g w c0 c1 c2 S' w' := by
  unfold RevS
  rw [hS 15, hS 13, if_neg (Ne.symm h2), if_neg (Ne.symm h1)]
  exact h
set_option maxHeartbeats 400000 in
theorem reverse_any (g cap : Nat) (l : List (List UInt8)) (tail : List Value) (w : World) (hn : l.length ≤ 1000000) (hc : l.length ≤ cap) (hcap : cap ≤ 9223372036854775807) (hA : Arr w g (sums l ++ tail)) (hL : Len32 l) :
    Calls Tryd.prog 39 #[.slice (some ⟨g, 0, none⟩) l.length cap] w fun e w' => e = .returned (.tuple #[]) ∧ Arr w' g (sums l.reverse ++ tail) ∧ w.grownBy w' (some g) ∧ SameT g w w' := by
  have HA := Lib.hid hA; clear hA
  have HL := Lib.hid hL; clear hL
  obtain ⟨n, hN⟩ : ∃ n, n = l.length := ⟨_, rfl⟩
  rw [← hN] at hn hc ⊢
  have HN := Lib.hid hN; clear hN
  go_enter Tryd.func39, Tryd.ntmps39
  go_wp2
  go_loopw [2, 3] (fun i j wr => ∃ k : Nat, k + k ≤ n ∧ i = .int .i64 k ∧ j = .int .i64 ((n : Int) - 1 - k) ∧ (w.grownBy wr (some g) ∧ SameT g w wr) ∧ Arr wr g (sums (flip l k) ++ tail)) (fun i j _ => (intOf j - intOf i + 1).toNat)
  case atStart => exact ⟨0, by omega, rfl, by go_num, ⟨World.grownBy.refl _ _, SameT.refl _ _⟩, by rw [flip_zero]; exact HA.out⟩
  case round =>
    obtain ⟨k, hk, rfl, rfl, hg, hA⟩ := hrel
    by_cases h : (k : Int) < (n : Int) - 1 - k
    · obtain ⟨j, hj⟩ : ∃ j, j = n - 1 - k := ⟨_, rfl⟩
      have ej : (n : Int) - 1 - k = (j : Nat) := by omega
      rw [ej] at h ⊢
      have hjn : j < n := by omega
      have hkn : k < n := by omega
      have HJ := Lib.hid hj
      have HE := Lib.hid ej
      clear hj ej
      obtain ⟨X, hX⟩ : ∃ X, X = flip l k := ⟨_, rfl⟩
      rw [← hX] at hA
      have hXl : X.length = n := by rw [hX, flip_length, HN.out]
      have hX32 : Len32 X := by rw [hX]; exact flip_len32 HL.out k
      have hG := Lib.hid hg
      have HX := Lib.hid hX
      have HXA := Lib.hid hA
      have HXl := Lib.hid hXl
      have HX32 := Lib.hid hX32
      clear hX hA hg hXl hX32
      obtain ⟨A, eA⟩ : ∃ A, A = X.getD j [] := ⟨_, rfl⟩
      obtain ⟨B, eB⟩ : ∃ B, B = X.getD k [] := ⟨_, rfl⟩
      have HA := Lib.hid (show A.length = 32 by rw [eA]; exact HX32.out.get (by rw [HXl.out]; exact hjn))
      have HB := Lib.hid (show B.length = 32 by rw [eB]; exact HX32.out.get (by rw [HXl.out]; exact hkn))
      have EA := Lib.hid eA
      have EB := Lib.hid eB
      clear eA eB
      go_wp2
      refine wp_region_vals [.slice (some ⟨g, 0, none⟩) n cap, .int .i64 k, .slice (some ⟨g, 0, none⟩) n cap, .int .i64 j, .slice (some ⟨g, 0, none⟩) n cap, .int .i64 j, .pointer (some ⟨g, j * 32, none⟩), .agg (u8s A).toArray,
        .slice (some ⟨g, 0, none⟩) n cap, .int .i64 k, .pointer (some ⟨g, k * 32, none⟩), .agg (u8s B).toArray, .pointer (some ⟨g, k * 32, none⟩), undef, .pointer (some ⟨g, j * 32, none⟩), undef]
        (RevS g w (sums X ++ tail) (sums (X.set k A) ++ tail) (sums ((X.set k A).set j B) ++ tail)) (by kernel_rfl) (by kernel_rfl) rfl ?_ ?_ ?_
      · intro S hS
        unfold RevS
        rw [hS 13, hS 15]
        exact ⟨⟨grownBy_drew hG.out.1, hG.out.2.drew⟩, HXA.out⟩
      · refine allFrom_array ⟨?_, ?_, ?_, ?_, ?_, ?_, ?_, ?_, ?_, ?_, ?_, ?_, ?_, ?_, ?_, ?_, trivial⟩ <;> intro S S' a w1 hi hb hcl hs hR hd hS' <;> refine wanted_none rfl ?_
        · have h2 : a.tmps[0]?.getD undef = .slice (some ⟨g, 0, none⟩) n cap := hR.evalD rfl rfl
          go_simp
          exact hs.same hS' (by omega) (by omega)
        · have h2 : a.tmps[2]?.getD undef = .int .i64 k := hR.evalD rfl rfl
          go_simp
          exact hs.same hS' (by omega) (by omega)
        · have h2 : a.tmps[0]?.getD undef = .slice (some ⟨g, 0, none⟩) n cap := hR.evalD rfl rfl
          go_simp
          exact hs.same hS' (by omega) (by omega)
        · have h2 : a.tmps[3]?.getD undef = .int .i64 j := hR.evalD rfl rfl
          go_simp
          exact hs.same hS' (by omega) (by omega)
        · have h2 : a.tmps[0]?.getD undef = .slice (some ⟨g, 0, none⟩) n cap := hR.evalD rfl rfl
          go_simp
          exact hs.same hS' (by omega) (by omega)
        · have h2 : a.tmps[3]?.getD undef = .int .i64 j := hR.evalD rfl rfl
          go_simp
          exact hs.same hS' (by omega) (by omega)
        · have h2 : a.tmps[18]?.getD undef = .slice (some ⟨g, 0, none⟩) n cap := hd ⟨4, .data⟩ (by simp) rfl _ _ rfl rfl
          have h3 : a.tmps[19]?.getD undef = .int .i64 j := hd ⟨5, .data⟩ (by simp) rfl _ _ rfl rfl
          go_simp
          exact hs.same hS' (by omega) (by omega)
        · have h2 : a.tmps[20]?.getD undef = .pointer (some ⟨g, j * 32, none⟩) := hd ⟨6, .data⟩ (by simp) rfl _ _ rfl rfl
          have q13 : S 13 = false := by
            cases hq : S 13 with
            | false => rfl
            | true => have := hcl 13 _ rfl hq ⟨7, .phase⟩ (by simp) rfl; rw [hi] at this; cases this
          have q15 : S 15 = false := by
            cases hq : S 15 with
            | false => rfl
            | true => have := hcl 15 _ rfl hq ⟨13, .chain⟩ (by simp) rfl; rw [q13] at this; cases this
          have hA0 := hs.2
          rw [q13, q15] at hA0
          refine wp_load_cells _ _ rfl g (j * 32) (by simpa [Act.eval] using h2) (u8s A) (by rw [u8s_length, HA.out]; exact agg32) (fun q v hv => hA0.cell (sums_get HX32.out tail (by rw [HXl.out]; assumption) (by rw [← EA.out]; exact hv))) ?_
          exact ⟨rfl, hs.same hS' (by omega) (by omega)⟩
        · have h2 : a.tmps[0]?.getD undef = .slice (some ⟨g, 0, none⟩) n cap := hR.evalD rfl rfl
          go_simp
          exact hs.same hS' (by omega) (by omega)
        · have h2 : a.tmps[2]?.getD undef = .int .i64 k := hR.evalD rfl rfl
          go_simp
          exact hs.same hS' (by omega) (by omega)
        · have h2 : a.tmps[22]?.getD undef = .slice (some ⟨g, 0, none⟩) n cap := hd ⟨8, .data⟩ (by simp) rfl _ _ rfl rfl
          have h3 : a.tmps[23]?.getD undef = .int .i64 k := hd ⟨9, .data⟩ (by simp) rfl _ _ rfl rfl
          go_simp
          exact hs.same hS' (by omega) (by omega)
        · have h2 : a.tmps[24]?.getD undef = .pointer (some ⟨g, k * 32, none⟩) := hd ⟨10, .data⟩ (by simp) rfl _ _ rfl rfl
          have q13 : S 13 = false := by
            cases hq : S 13 with
            | false => rfl
            | true => have := hcl 13 _ rfl hq ⟨11, .phase⟩ (by simp) rfl; rw [hi] at this; cases this
          have q15 : S 15 = false := by
            cases hq : S 15 with
            | false => rfl
            | true => have := hcl 15 _ rfl hq ⟨13, .chain⟩ (by simp) rfl; rw [q13] at this; cases this
          have hA0 := hs.2
          rw [q13, q15] at hA0
          refine wp_load_cells _ _ rfl g (k * 32) (by simpa [Act.eval] using h2) (u8s B) (by rw [u8s_length, HB.out]; exact agg32) (fun q v hv => hA0.cell (sums_get HX32.out tail (by rw [HXl.out]; assumption) (by rw [← EB.out]; exact hv))) ?_
          exact ⟨rfl, hs.same hS' (by omega) (by omega)⟩
        · have h2 : a.tmps[14]?.getD undef = .slice (some ⟨g, 0, none⟩) n cap := hd ⟨0, .data⟩ (by simp) rfl _ _ rfl rfl
          have h3 : a.tmps[15]?.getD undef = .int .i64 k := hd ⟨1, .data⟩ (by simp) rfl _ _ rfl rfl
          go_simp
          exact hs.same hS' (by omega) (by omega)
        · have h2 : a.tmps[26]?.getD undef = .pointer (some ⟨g, k * 32, none⟩) := hd ⟨12, .data⟩ (by simp) rfl _ _ rfl rfl
          have h3 : a.tmps[21]?.getD undef = .agg (u8s A).toArray := hd ⟨7, .data⟩ (by simp) rfl _ _ rfl rfl
          have q15 : S 15 = false := by
            cases hq : S 15 with
            | false => rfl
            | true => have := hcl 15 _ rfl hq ⟨13, .chain⟩ (by simp) rfl; rw [hi] at this; cases this
          have hA0 := hs.2
          have q13 : S 13 = false := hi
          rw [q13, q15] at hA0
          refine wp_store_cellsT rfl _ _ _ rfl g (k * 32) (by simpa [Act.eval] using h2) (u8s A) (by simpa [Act.eval] using h3) (by rw [u8s_length, HA.out]; exact agg32.2) (u8s_one _) _ hA0 (by simp only [Bool.false_eq_true, if_false]; rw [List.length_append, sums_length HX32.out, HXl.out, u8s_length, HA.out]; omega) ?_
          intro w2 hA2 hg2 ht2
          refine ⟨rfl, ⟨grownBy_trans hs.1.1 hg2, hs.1.2.trans ht2⟩, ?_⟩
          have s15 : S' 15 = false := (hS' 15).trans ((if_neg (by decide)).trans q15)
          have s13 : S' 13 = true := (hS' 13).trans (if_pos rfl)
          rw [s15, s13]
          simp only [Bool.false_eq_true, if_false, if_true] at hA2 ⊢
          rwa [sums_lay HX32.out tail (by rw [HXl.out]; exact hkn) HA.out] at hA2
        · have h2 : a.tmps[16]?.getD undef = .slice (some ⟨g, 0, none⟩) n cap := hd ⟨2, .data⟩ (by simp) rfl _ _ rfl rfl
          have h3 : a.tmps[17]?.getD undef = .int .i64 j := hd ⟨3, .data⟩ (by simp) rfl _ _ rfl rfl
          go_simp
          exact hs.same hS' (by omega) (by omega)
        · have h2 : a.tmps[27]?.getD undef = .pointer (some ⟨g, j * 32, none⟩) := hd ⟨14, .data⟩ (by simp) rfl _ _ rfl rfl
          have h3 : a.tmps[25]?.getD undef = .agg (u8s B).toArray := hd ⟨11, .data⟩ (by simp) rfl _ _ rfl rfl
          have q13 : S 13 = true := hb ⟨13, .chain⟩ (by simp) rfl
          have q15 : S 15 = false := hi
          have hA0 := hs.2
          rw [q13, q15] at hA0
          simp only [Bool.false_eq_true, if_false, if_true] at hA0
          have hl3 : (X.set k A).length = n := by rw [List.length_set]; exact HXl.out
          have h32 : Len32 (X.set k A) := HX32.out.set HA.out k
          refine wp_store_cellsT rfl _ _ _ rfl g (j * 32) (by simpa [Act.eval] using h2) (u8s B) (by simpa [Act.eval] using h3) (by rw [u8s_length, HB.out]; exact agg32.2) (u8s_one _) _ hA0 (by rw [List.length_append, sums_length h32, hl3, u8s_length, HB.out]; omega) ?_
          intro w2 hA2 hg2 ht2
          refine ⟨rfl, ⟨grownBy_trans hs.1.1 hg2, hs.1.2.trans ht2⟩, ?_⟩
          have s15 : S' 15 = true := (hS' 15).trans (if_pos rfl)
          rw [s15]
          simp only [if_true]
          rwa [sums_lay h32 tail (by rw [hl3]; exact hjn) HB.out] at hA2
      · intro S w1 hS hs
        have hA0 := hs.2
        rw [hS 15 (by decide)] at hA0
        simp only [if_true] at hA0
        have HG2 := Lib.hid hs.1
        have HA2 := Lib.hid hA0
        clear hS hs hA0
        simp only [putAll, List.map_cons, List.map_nil, List.zip_cons_cons, List.zip_nil_right, Act.put, List.setIfInBounds_toArray, List.set_cons_zero, List.set_cons_succ]
        go_wp2
        go_round
        case rel =>
          refine ⟨k + 1, by have := HE.out; omega, by go_num, by have := HE.out; go_num, HG2.out, ?_⟩
          have hf : flip l (k + 1) = (X.set k A).set j B := by
            have e1 := HN.out
            have e2 := HJ.out
            have e3 := HX.out
            rw [flip_succ l k (by omega), ← e3, ← e1, ← e2, ← EA.out, ← EB.out]
          rw [hf]; exact HA2.out
        case measure => simp [intOf]; omega
    · obtain ⟨u, hu⟩ : ∃ u : Int, u = (n : Int) - 1 - k := ⟨_, rfl⟩
      rw [← hu] at h ⊢
      have hu1 : -1 ≤ u := by omega
      have hu2 : u ≤ n := by omega
      have hfe : flip l k = l.reverse := flip_end l k (by have := HN.out; omega)
      rw [hfe] at hA
      have HA2 := Lib.hid hA
      have HG2 := Lib.hid hg
      clear hu hA hg hfe
      go_wp2
      refine bodyPost_end (v := .tuple #[]) (results_none rfl _ _ _) rfl ?_
      exact ⟨rfl, HA2.out, HG2.out.1, HG2.out.2⟩
theorem reverse_zero (ao : Option Addr) (cap : Nat) (w : World) :
    Calls Tryd.prog 39 #[.slice ao 0 cap] w fun e w' => e = .returned (.tuple #[]) ∧ w = w' := by
  go_enter Tryd.func39, Tryd.ntmps39
  go_wp2
  go_rounds 1
  exact bodyPost_end (v := .tuple #[]) (results_none rfl _ _ _) rfl ⟨rfl, rfl⟩
end Go.Proofs.YtmindblfbijaaaaDoor
