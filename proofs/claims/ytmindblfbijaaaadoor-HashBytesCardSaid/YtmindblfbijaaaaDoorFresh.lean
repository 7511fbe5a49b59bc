/-
  A rule for a region that draws its order: told values, and one new variable that is made and stored into once; no program in sight.
-/
import Derived.Test.YtmindblfbijaaaaDoorVals
namespace Go.Proofs.YtmindblfbijaaaaDoor
open Go.RowKit
section
variable {P : Program} {l : List Oper} {a0 : Act} {w0 : World} {Q : Exit → Act → World → Prop}
/-- What a world has become: nothing below B is turned; above it, nothing but that a block may have become x. -/
structure EFresh (B : Nat) (x : Obj) (A C : World) : Prop where
  below : Below B A C
  above : ∀ k, B ≤ k → k < A.heap.size → C.heap[k]? = A.heap[k]? ∨ C.heap[k]? = some x
theorem EFresh.refl (B : Nat) (x : Obj) (A : World) : EFresh B x A A := ⟨Below.refl _ _, fun _ _ _ => .inl rfl⟩
theorem EFresh.trans {B : Nat} {x : Obj} {A C D : World} (h : EFresh B x A C) (k : EFresh B x C D) : EFresh B x A D :=
  ⟨h.below.trans k.below, fun i h1 h2 => by
    rcases k.above i h1 (Nat.lt_of_lt_of_le h2 h.below.size) with h' | h'
    · rcases h.above i h1 h2 with h'' | h''
      · exact .inl (h'.trans h'')
      · exact .inr (h'.trans h'')
    · exact .inr h'⟩
theorem EFresh.of_below {B : Nat} {x : Obj} {A C : World} (h : Below A.heap.size A C) (hB : B ≤ A.heap.size) : EFresh B x A C :=
  ⟨h.mono hB, fun k _ h2 => .inl (h.block k h2)⟩
def GFresh (B p s : Nat) (vals : List Value) (z x : Obj) (j : Nat) (ρ : Nat → Value) (W : World) : Prop :=
  if j = p then ∃ a, ρ p = .pointer (some ⟨a, 0, none⟩) ∧ B ≤ a ∧ (W.heap[a]? = some z ∨ W.heap[a]? = some x)
  else if j = s then ∃ a, ρ p = .pointer (some ⟨a, 0, none⟩) ∧ B ≤ a ∧ W.heap[a]? = some x
  else ρ j = vals.getD j undef
theorem wp_region_fresh {id : Nat} (vals : List Value) (p s : Nat) (T : TypeId) (z x : List Value) (zv : Value) (dp : Tmp) (op os : Oper) (y : Operand)
    (hm : P.follows .mixedOrders = true) (hB : parB l a0.tmps.size = true) (hlen : vals.length = l.length) (hps : p ≠ s)
    (hp : l[p]? = some op) (hp1 : op.op = .alloc T) (hp2 : op.dst = some dp) (hp3 : op.guard = none) (hz : (P.info? T).map (fun i => (i.zero, i.size)) = some (some zv, x.length)) (hzv : zv.cells = z.toArray) (hzl : z.length = x.length)
    (hs : l[s]? = some os) (hs1 : os.op = .store T (.tmp dp) y) (hs2 : os.dst = none) (hs3 : os.guard = none) (hs4 : ∃ e ∈ os.after, Region.binds .any e = true ∧ e.on = p) (hx1 : ∀ v ∈ x, v.oneCell' = true)
    (hund : (l.zipIdx.all fun x => x.1.dst.isSome || x.2 == s) = true)
    (hstore : ∀ a w, Below w0.heap.size w0 w → Rest l.toArray a0 a → (∀ e ∈ os.after, Region.binds .any e = true → e.on ≠ p → ∀ (oe : Oper) (d : Tmp), l[e.on]? = some oe → oe.dst = some d → a.tmps[d]?.getD undef = vals.getD e.on undef) → (a.eval y).cells = x.toArray)
    (hstep : ∀ (i : Nat) (o : Oper), l.toArray[i]? = some o → i ≠ p → i ≠ s → ∀ a w, Below w0.heap.size w0 w → Rest l.toArray a0 a →
      (∀ e ∈ o.after, Region.binds .any e = true → e.on ≠ p → e.on ≠ s → ∀ (oe : Oper) (d : Tmp), l[e.on]? = some oe → oe.dst = some d → a.tmps[d]?.getD undef = vals.getD e.on undef) →
      if Region.wanted o (yielded l.toArray a.tmps) then o.wp P a w (fun a' w' => a' = a.put o.dst (vals.getD i undef) ∧ Below w.heap.size w w') Q else vals.getD i undef = undef)
    (hend : ∀ ad w, Below w0.heap.size w0 w → w0.heap.size ≤ ad → Arr w ad x → Q .normal (putAll a0 ((l.map (·.dst)).zip (vals.set p (.pointer (some ⟨ad, 0, none⟩))))) w) :
    (Code.region id l.toArray true).wp P Q a0 w0 := by
  have hval : ∀ (i : Nat) (o : Oper), l[i]? = some o → i ≠ s → (o.dst.elim undef fun _ => vals.getD i undef) = vals.getD i undef := by
    intro i o hi his
    cases hd : o.dst with
    | none =>
      have hz : (o, i) ∈ l.zipIdx := by rw [List.mem_zipIdx_iff_getElem?]; exact hi
      have := List.all_eq_true.1 hund (o, i) hz
      simp [hd, his] at this
    | some d => rfl
  refine wp_region_par (ops := l.toArray) (E := EFresh w0.heap.size (.cells x.toArray T)) (G := GFresh w0.heap.size p s vals (.cells z.toArray T) (.cells x.toArray T)) hm (by simpa using hB) ⟨(Below.refl _ _).drew, fun _ _ _ => .inl rfl⟩ (fun _ => EFresh.refl _ _ _) (fun _ _ _ h k => h.trans k) ?_ ?_ ?_ ?_
  · intro j ρ w w' hg he
    unfold GFresh at *
    split
    · rename_i h
      rw [if_pos h] at hg
      obtain ⟨a, h1, h2, h3⟩ := hg
      have hlt : a < w.heap.size := by rcases h3 with h3 | h3 <;> exact (Array.getElem?_eq_some_iff.1 h3).1
      refine ⟨a, h1, h2, ?_⟩
      rcases he.above a h2 hlt with h4 | h4
      · rw [h4]; exact h3
      · exact .inr h4
    · rename_i h
      rw [if_neg h] at hg
      split
      · rename_i h'
        rw [if_pos h'] at hg
        obtain ⟨a, h1, h2, h3⟩ := hg
        refine ⟨a, h1, h2, ?_⟩
        rcases he.above a h2 (Array.getElem?_eq_some_iff.1 h3).1 with h4 | h4
        · rw [h4]; exact h3
        · exact h4
      · rename_i h'
        rwa [if_neg h'] at hg
  · intro j o hj ρ ρ' w e0 he hg
    unfold GFresh at *
    split
    · rename_i h
      rw [if_pos h] at hg
      subst h
      rwa [e0] at hg
    · rename_i h
      rw [if_neg h] at hg
      split
      · rename_i h'
        rw [if_pos h'] at hg
        subst h'
        have ho : o = os := by
          have : l[j]? = some o := by simpa using hj
          rw [hs] at this; exact (Option.some.inj this).symm
        subst ho
        obtain ⟨e, h1, h2, h3⟩ := hs4
        have := he e h1 h2
        rw [h3] at this
        rwa [this] at hg
      · rename_i h'
        rw [if_neg h'] at hg
        rwa [e0] at hg
  · intro i o hi a w hE hR hd
    have hil : l[i]? = some o := by simpa using hi
    have hdep : ∀ e ∈ o.after, Region.binds .any e = true → e.on ≠ p → e.on ≠ s → ∀ (oe : Oper) (d : Tmp), l[e.on]? = some oe → oe.dst = some d → a.tmps[d]?.getD undef = vals.getD e.on undef := by
      intro e he hb h1 h2 oe d hoe hde
      have hg := hd e he hb
      unfold GFresh at hg
      rw [if_neg h1, if_neg h2] at hg
      rw [← hg]
      simp [rho, hoe, valOf, hde, Array.getD_eq_getD_getElem?]
    by_cases hip : i = p
    · subst hip
      obtain rfl : o = op := by rw [hp] at hil; exact (Option.some.inj hil).symm
      refine wanted_none hp3 ?_
      refine wp_alloc T hp1 zv x.length hz ⟨_, rfl, EFresh.of_below ((Below.refl _ _).alloc (Nat.le_refl _) _) hE.below.size, ?_⟩
      unfold GFresh
      rw [if_pos rfl]
      refine ⟨w.heap.size, ?_, hE.below.size, .inl ?_⟩
      · simp [upd, hp2]
      · rw [hzv]; exact heap_alloc_new w _
    · by_cases his : i = s
      · subst his
        obtain rfl : o = os := by rw [hs] at hil; exact (Option.some.inj hil).symm
        refine wanted_none hs3 ?_
        obtain ⟨e, he1, he2, he3⟩ := hs4
        have hg := hd e he1 he2
        rw [he3] at hg
        unfold GFresh at hg
        rw [if_pos rfl] at hg
        obtain ⟨ad, h1, h2, h3⟩ := hg
        have h1' : a.eval (.tmp dp) = .pointer (some ⟨ad, 0, none⟩) := by
          rw [← h1]
          simp [rho, hp, valOf, hp2, Act.eval, Array.getD_eq_getD_getElem?]
        obtain ⟨c, hc, hcl⟩ : ∃ c : List Value, w.heap[ad]? = some (.cells c.toArray T) ∧ c.length = x.length := by
          rcases h3 with h3 | h3
          · exact ⟨z, h3, hzl⟩
          · exact ⟨x, h3, rfl⟩
        have hy := hstore a w hE.below hR (fun e he hb h1 oe d hoe hde => by
          have hes : e.on ≠ i := by
            have hB' := hB
            simp only [parB, Bool.and_eq_true] at hB'
            have hz : (o, i) ∈ l.zipIdx := by rw [List.mem_zipIdx_iff_getElem?]; exact hil
            have := List.all_eq_true.1 hB'.2 (o, i) hz
            simp only [Array.all_eq_true_iff_forall_mem] at this
            have := this e he
            simp [hb] at this
            omega
          exact hdep e he hb h1 hes oe d hoe hde)
        have hrun : (execOp a.eval o).run P w = .ok .skip (w.setRow ad x.toArray) := by
          have hst : (storeCells ⟨ad, 0, none⟩ x).run P w = .ok () (w.setRow ad x.toArray) := by
            have := run_storeCells_at P ad 0 T x 0 c.toArray w hc (by simp [hcl]) hx1
            simp only [Nat.zero_add] at this
            rw [this]
            have e1 : (List.take 0 c.toArray.toList ++ x ++ List.drop x.length c.toArray.toList) = x := by simp [← hcl]
            first | rw [e1] | simp [← hcl]
          have hzs : (P.info? T).map (·.size) = some x.length := by
            cases hq : P.info? T with
            | none => simp [hq] at hz
            | some i => simp [hq] at hz ⊢; exact hz.2
          simp only [execOp, hs1, h1']
          simp [Instr.storeAt, Instr.sureAddr, storeVar, Sem.run_bind, hy, run_sizeOf hzs, hst, Result.andThen]
        unfold Oper.wp
        rw [hrun, Oper.upon_skip]
        refine ⟨undef, rfl, ⟨?_, ?_⟩, ?_⟩
        · exact (Below.refl _ _).grown (grownBy_setRow w ad _) hE.below.size (by intro k hk; cases hk; exact h2)
        · intro k hk1 hk2
          by_cases hka : k = ad
          · subst hka
            right
            simp only [World.setRow, Array.getElem?_modify, if_pos, hc]; rfl
          · left
            simp only [World.setRow, Array.getElem?_modify]
            rw [if_neg (fun e => hka e.symm)]
        · unfold GFresh
          rw [if_neg (fun e => hps e.symm), if_pos rfl]
          refine ⟨ad, ?_, h2, ?_⟩
          · simp only [upd]; rw [if_neg hps]; exact h1
          · simp only [World.setRow, Array.getElem?_modify, if_pos, hc]; rfl
      · have hst := hstep i o hi hip his a w hE.below hR hdep
        split
        · rename_i hw
          rw [if_pos hw] at hst
          refine Oper.wp_mono (fun a' w' h => ?_) hst
          obtain ⟨rfl, hb⟩ := h
          refine ⟨_, rfl, EFresh.of_below hb hE.below.size, ?_⟩
          unfold GFresh
          rw [if_neg hip, if_neg his]
          simp only [upd]
          exact (if_pos trivial).trans (hval i o hil his)
        · rename_i hw
          rw [if_neg hw] at hst
          unfold GFresh
          rw [if_neg hip, if_neg his]
          simp only [upd]
          exact (if_pos trivial).trans hst.symm
  · intro us hus w hE hall
    have hsl : s < l.length := (List.getElem?_eq_some_iff.1 hs).1
    have hpl : p < l.length := (List.getElem?_eq_some_iff.1 hp).1
    have hgs := hall s (by simpa using hsl)
    unfold GFresh at hgs
    rw [if_neg (fun e => hps e.symm), if_pos rfl] at hgs
    obtain ⟨ad, h1, h2, h3⟩ := hgs
    have e : putAll a0 ((l.toArray.toList.map (·.dst)).zip us) = putAll a0 ((l.map (·.dst)).zip (vals.set p (.pointer (some ⟨ad, 0, none⟩)))) := by
      refine putAll_congr _ _ _ a0 (by simpa using hus) (by simp [hlen]) ?_
      intro j d hj
      have hjl : j < l.length := by
        have := (List.getElem?_eq_some_iff.1 hj).1
        simpa using this
      by_cases hjp : j = p
      · subst hjp
        refine (show us.getD j undef = _ from h1).trans ?_
        simp [hlen, hjl]
      · have hjs : j ≠ s := by
          intro e
          subst e
          simp [hs, hs2] at hj
        have hg := hall j (by simpa using hjl)
        unfold GFresh at hg
        rw [if_neg hjp, if_neg hjs] at hg
        refine (show us.getD j undef = _ from hg).trans ?_
        simp only [List.getD_eq_getElem?_getD, List.getElem?_set]
        rw [if_neg (fun e => hjp e.symm)]
    rw [e]
    exact hend ad w hE.below h2 ⟨T, h3⟩
end
end Go.Proofs.YtmindblfbijaaaaDoor
