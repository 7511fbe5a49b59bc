/-
  A rule for a region that draws its order: told values, and one store into a known block; no program in sight.
-/
import Derived.Test.YtmindblfbijaaaaDoorFresh
namespace Go.Proofs.YtmindblfbijaaaaDoor
open Go.RowKit
section
variable {P : Program} {l : List Oper} {a0 : Act} {w0 : World} {Q : Exit → Act → World → Prop}
def EPut (g : Nat) (x : Obj) (A C : World) : Prop := A.grownBy C (some g) ∧ (C.heap[g]? = A.heap[g]? ∨ C.heap[g]? = some x)
theorem EPut.refl (g : Nat) (x : Obj) (A : World) : EPut g x A A := ⟨World.grownBy.refl _ _, .inl rfl⟩
theorem grownBy_trans' {w1 w2 w3 : World} {r : Option Nat} (h : w1.grownBy w2 r) (k : w2.grownBy w3 r) : w1.grownBy w3 r :=
  ⟨k.os.trans h.os, k.tape.trans h.tape, k.output.trans h.output, Nat.le_trans h.size k.size, fun i hi hr => (k.block i (Nat.lt_of_lt_of_le hi h.size) hr).trans (h.block i hi hr)⟩
theorem EPut.trans {g : Nat} {x : Obj} {A C D : World} (h : EPut g x A C) (k : EPut g x C D) : EPut g x A D :=
  ⟨grownBy_trans' h.1 k.1, by
    rcases k.2 with h' | h'
    · rcases h.2 with h'' | h''
      · exact .inl (h'.trans h'')
      · exact .inr (h'.trans h'')
    · exact .inr h'⟩
theorem EPut.of_below {g : Nat} {x : Obj} {A C : World} (h : Below A.heap.size A C) (hg : g < A.heap.size) : EPut g x A C :=
  ⟨⟨h.os, h.tape, h.output, h.size, fun i hi _ => h.block i hi⟩, .inl (h.block g hg)⟩
def GPut (g s : Nat) (vals : List Value) (x : Obj) (j : Nat) (ρ : Nat → Value) (W : World) : Prop :=
  if j = s then W.heap[g]? = some x else ρ j = vals.getD j undef
theorem wp_region_put {id : Nat} (vals : List Value) (s g off : Nat) (T ty : TypeId) (cs cur : List Value) (os : Oper) (px y : Operand)
    (hm : P.follows .mixedOrders = true) (hB : parB l a0.tmps.size = true) (hlen : vals.length = l.length) (hA : Arr w0 g cur) (hfit : off + cs.length ≤ cur.length)
    (hs : l[s]? = some os) (hs1 : os.op = .store ty px y) (hs2 : os.dst = none) (hs3 : os.guard = none) (hty : (P.info? ty).map (·.size) = some cs.length) (hx1 : ∀ v ∈ cs, v.oneCell' = true)
    (hund : (l.zipIdx.all fun x => x.1.dst.isSome || x.2 == s) = true)
    (hstore : ∀ a w, w0.grownBy w (some g) → Rest l.toArray a0 a → (∀ e ∈ os.after, Region.binds .any e = true → ∀ (oe : Oper) (d : Tmp), l[e.on]? = some oe → oe.dst = some d → a.tmps[d]?.getD undef = vals.getD e.on undef) → a.eval px = .pointer (some ⟨g, off, none⟩) ∧ (a.eval y).cells = cs.toArray)
    (hstep : ∀ (i : Nat) (o : Oper), l.toArray[i]? = some o → i ≠ s → ∀ a w, w0.grownBy w (some g) → Rest l.toArray a0 a →
      (∀ e ∈ o.after, Region.binds .any e = true → e.on ≠ s → ∀ (oe : Oper) (d : Tmp), l[e.on]? = some oe → oe.dst = some d → a.tmps[d]?.getD undef = vals.getD e.on undef) →
      if Region.wanted o (yielded l.toArray a.tmps) then o.wp P a w (fun a' w' => a' = a.put o.dst (vals.getD i undef) ∧ Below w.heap.size w w') Q else vals.getD i undef = undef)
    (hend : ∀ w, w0.grownBy w (some g) → Arr w g (lay cur off cs) → Q .normal (putAll a0 ((l.map (·.dst)).zip vals)) w) :
    (Code.region id l.toArray true).wp P Q a0 w0 := by
  have hval : ∀ (i : Nat) (o : Oper), l[i]? = some o → i ≠ s → (o.dst.elim undef fun _ => vals.getD i undef) = vals.getD i undef := by
    intro i o hi his
    cases hd : o.dst with
    | none =>
      have hz : (o, i) ∈ l.zipIdx := by rw [List.mem_zipIdx_iff_getElem?]; exact hi
      have := List.all_eq_true.1 hund (o, i) hz
      simp [hd, his] at this
    | some d => rfl
  have hgl := hA.lt
  obtain ⟨T0, hA0⟩ := hA
  have hll : lay (lay cur off cs) off cs = lay cur off cs := by
    unfold lay
    have h1 : (cur.take off).length = off := by rw [List.length_take]; omega
    have e1 : (cur.take off ++ cs ++ cur.drop (off + cs.length)).take off = cur.take off := by
      rw [List.append_assoc, List.take_append_of_le_length (by omega), List.take_of_length_le (by omega)]
    have e2 : (cur.take off ++ cs ++ cur.drop (off + cs.length)).drop (off + cs.length) = cur.drop (off + cs.length) := by
      rw [List.drop_append, List.drop_of_length_le (by rw [List.length_append]; omega), List.length_append, h1]; simp
    rw [e1, e2]
  have hlen2 : (lay cur off cs).length = cur.length := by unfold lay; simp; omega
  refine wp_region_par (ops := l.toArray) (E := EPut g (.cells (lay cur off cs).toArray T0)) (G := GPut g s vals (.cells (lay cur off cs).toArray T0)) hm (by simpa using hB) ⟨⟨rfl, rfl, rfl, Nat.le_refl _, fun _ _ _ => rfl⟩, .inl rfl⟩ (fun _ => EPut.refl _ _ _) (fun _ _ _ h k => h.trans k) ?_ ?_ ?_ ?_
  · intro j ρ w w' hg he
    unfold GPut at *
    split
    · rename_i h
      rw [if_pos h] at hg
      rcases he.2 with h4 | h4
      · rw [h4]; exact hg
      · exact h4
    · rename_i h
      rwa [if_neg h] at hg
  · intro j o hj ρ ρ' w e0 he hg
    unfold GPut at *
    split
    · rename_i h
      rwa [if_pos h] at hg
    · rename_i h
      rw [if_neg h] at hg
      rwa [e0] at hg
  · intro i o hi a w hE hR hd
    have hil : l[i]? = some o := by simpa using hi
    have hgw : g < w.heap.size := Nat.lt_of_lt_of_le hgl hE.1.size
    have hdep : ∀ e ∈ o.after, Region.binds .any e = true → e.on ≠ s → ∀ (oe : Oper) (d : Tmp), l[e.on]? = some oe → oe.dst = some d → a.tmps[d]?.getD undef = vals.getD e.on undef := by
      intro e he hb h2 oe d hoe hde
      have hg := hd e he hb
      unfold GPut at hg
      rw [if_neg h2] at hg
      rw [← hg]
      simp [rho, hoe, valOf, hde, Array.getD_eq_getD_getElem?]
    by_cases his : i = s
    · subst his
      obtain rfl : o = os := by rw [hs] at hil; exact (Option.some.inj hil).symm
      refine wanted_none hs3 ?_
      obtain ⟨c, hc, hcl, hlc⟩ : ∃ c : List Value, w.heap[g]? = some (.cells c.toArray T0) ∧ c.length = cur.length ∧ lay c off cs = lay cur off cs := by
        rcases hE.2 with h3 | h3
        · exact ⟨cur, h3.trans hA0, rfl, rfl⟩
        · exact ⟨lay cur off cs, h3, hlen2, hll⟩
      have hy := hstore a w hE.1 hR (fun e he hb oe d hoe hde => by
        have hes : e.on ≠ i := by
          have hB' := hB
          simp only [parB, Bool.and_eq_true] at hB'
          have hz : (o, i) ∈ l.zipIdx := by rw [List.mem_zipIdx_iff_getElem?]; exact hil
          have := List.all_eq_true.1 hB'.2 (o, i) hz
          simp only [Array.all_eq_true_iff_forall_mem] at this
          have := this e he
          simp [hb] at this
          omega
        exact hdep e he hb hes oe d hoe hde)
      have hrun : (execOp a.eval o).run P w = .ok .skip (w.setRow g (lay cur off cs).toArray) := by
        have hst : (storeCells ⟨g, off, none⟩ cs).run P w = .ok () (w.setRow g (lay cur off cs).toArray) := by
          have := run_storeCells_at P g off T0 cs 0 c.toArray w hc (by simpa [hcl] using hfit) hx1
          rw [← hlc]
          simpa [lay] using this
        simp only [execOp, hs1, hy.1]
        simp [Instr.storeAt, Instr.sureAddr, storeVar, Sem.run_bind, hy.2, run_sizeOf hty, hst, Result.andThen]
      have hnew : (w.setRow g (lay cur off cs).toArray).heap[g]? = some (.cells (lay cur off cs).toArray T0) := by
        simp only [World.setRow, Array.getElem?_modify, if_pos, hc]; rfl
      unfold Oper.wp
      rw [hrun, Oper.upon_skip]
      refine ⟨undef, rfl, ⟨grownBy_setRow w g _, .inr hnew⟩, ?_⟩
      unfold GPut
      rw [if_pos rfl]
      exact hnew
    · have hst := hstep i o hi his a w hE.1 hR hdep
      split
      · rename_i hw
        rw [if_pos hw] at hst
        refine Oper.wp_mono (fun a' w' h => ?_) hst
        obtain ⟨rfl, hb⟩ := h
        refine ⟨_, rfl, EPut.of_below hb hgw, ?_⟩
        unfold GPut
        rw [if_neg his]
        simp only [upd]
        exact (if_pos trivial).trans (hval i o hil his)
      · rename_i hw
        rw [if_neg hw] at hst
        unfold GPut
        rw [if_neg his]
        simp only [upd]
        exact (if_pos trivial).trans hst.symm
  · intro us hus w hE hall
    have hsl : s < l.length := (List.getElem?_eq_some_iff.1 hs).1
    have hgs := hall s (by simpa using hsl)
    unfold GPut at hgs
    rw [if_pos rfl] at hgs
    have e : putAll a0 ((l.toArray.toList.map (·.dst)).zip us) = putAll a0 ((l.map (·.dst)).zip vals) := by
      refine putAll_congr _ _ _ a0 (by simpa using hus) (by simp [hlen]) ?_
      intro j d hj
      have hjl : j < l.length := by
        have := (List.getElem?_eq_some_iff.1 hj).1
        simpa using this
      have hjs : j ≠ s := by
        intro e
        subst e
        simp [hs, hs2] at hj
      have hg := hall j (by simpa using hjl)
      unfold GPut at hg
      rw [if_neg hjs] at hg
      exact hg
    rw [e]
    exact hend w hE.1 ⟨T0, hgs⟩
end
end Go.Proofs.YtmindblfbijaaaaDoor
