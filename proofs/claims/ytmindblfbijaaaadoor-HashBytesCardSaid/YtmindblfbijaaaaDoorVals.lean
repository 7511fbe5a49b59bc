/-
  A rule for a region that draws its order: the values of all operations are told ahead, and what the world is like by the set of operations that are done; no program in sight.
-/
import Derived.Test.YtmindblfbijaaaaDoorQuiet
namespace Go.Proofs.YtmindblfbijaaaaDoor
open Go.RowKit
section
variable {P : Program} {l : List Oper} {a0 : Act} {w0 : World} {Q : Exit → Act → World → Prop}
def valAt (l : List Oper) (vals : List Value) (j : Nat) : Value := ((l[j]?).bind (·.dst)).elim undef fun _ => vals.getD j undef
theorem wp_region_vals {id : Nat} (vals : List Value) (σ : (Nat → Bool) → World → Prop) (hm : P.follows .mixedOrders = true) (hB : parB l a0.tmps.size = true) (hlen : vals.length = l.length)
    (h0 : ∀ S, (∀ j, S j = false) → σ S w0.drew)
    (hstep : ∀ (i : Nat) (o : Oper), l.toArray[i]? = some o → ∀ (S S' : Nat → Bool) a w, S i = false → (∀ e ∈ o.after, Region.binds .any e = true → S e.on = true) →
      (∀ (j : Nat) (oj : Oper), l[j]? = some oj → S j = true → ∀ e ∈ oj.after, Region.binds .any e = true → S e.on = true) → σ S w → Rest l.toArray a0 a →
      (∀ e ∈ o.after, Region.binds .any e = true → ∀ (oe : Oper) (d : Tmp), l[e.on]? = some oe → oe.dst = some d → a.tmps[d]?.getD undef = vals.getD e.on undef) →
      (∀ j, S' j = if j = i then true else S j) →
      if Region.wanted o (yielded l.toArray a.tmps) then o.wp P a w (fun a' w' => a' = a.put o.dst (vals.getD i undef) ∧ σ S' w') Q else vals.getD i undef = undef ∧ σ S' w)
    (hend : ∀ S w, (∀ j, j < l.length → S j = true) → σ S w → Q .normal (putAll a0 ((l.map (·.dst)).zip vals)) w) :
    (Code.region id l.toArray true).wp P Q a0 w0 := by
  have hB' := hB
  simp only [parB, Bool.and_eq_true] at hB'
  obtain ⟨⟨hB1, hB2⟩, hB3⟩ := hB'
  have hsz : ∀ (i : Nat) (o : Oper) (d : Tmp), l.toArray[i]? = some o → o.dst = some d → d < a0.tmps.size := by
    intro i o d hi hd
    have := List.all_eq_true.1 hB1 d (List.mem_filterMap.2 ⟨o, List.mem_iff_getElem?.2 ⟨i, by simpa using hi⟩, hd⟩)
    simpa using this
  have hd : ∀ (i j : Nat) (oi oj : Oper) (d : Tmp), l.toArray[i]? = some oi → l.toArray[j]? = some oj → oi.dst = some d → oj.dst = some d → i = j :=
    fun i j oi oj d hi hj => nodup_dst l (of_decide_eq_true hB2) i j oi oj d (by simpa using hi) (by simpa using hj)
  have hbk : ∀ (i : Nat) (o : Oper), l.toArray[i]? = some o → ∀ e ∈ o.after, Region.binds .any e = true → e.on < i := by
    intro i o hi e he hb
    have hz : (o, i) ∈ l.zipIdx := by
      rw [List.mem_zipIdx_iff_getElem?]
      simpa using hi
    have := List.all_eq_true.1 hB3 (o, i) hz
    simp only [Array.all_eq_true_iff_forall_mem] at this
    have := this e he
    simpa [hb] using this
  let G : Nat → (Nat → Value) → World → Prop := fun j ρ _ => ρ j = valAt l vals j
  let E : World → World → Prop := fun _ _ => True
  have hG : ∀ j ρ w w', G j ρ w → E w w' → G j ρ w' := fun _ _ _ _ h _ => h
  have hloc : ∀ (j : Nat) (o : Oper), l.toArray[j]? = some o → ∀ ρ ρ' w, ρ j = ρ' j → (∀ e ∈ o.after, Region.binds .any e = true → ρ e.on = ρ' e.on) → G j ρ w → G j ρ' w :=
    fun j o _ ρ ρ' w h _ hg => h.symm.trans hg
  refine wp_region_any hm ?_
  have hsize : l.toArray.size = l.length := by simp
  have fin : ∀ (listed : Array Bool) (a : Act) (w : World), listed.size = l.toArray.size → ParInv l.toArray a0 w0 G E listed a w → σ (fun j => listed.getD j false) w → Region.ready .any l.toArray listed = [] → Q .normal a w := by
    intro listed a w hls inv hs hr
    have hall := all_listed hls hbk hr
    have := hend (fun j => listed.getD j false) w (fun j hj => hall j (by rw [hsize]; exact hj)) hs
    have e : putAll a0 ((l.map (·.dst)).zip vals) = a := by
      rw [← putAll_self l a0 a inv.size inv.defers (fun s hs => inv.rest s (fun j o ho _ => hs j o (by simpa using ho)))]
      refine putAll_congr _ _ _ a0 (by simp [hlen]) (by simp) ?_
      intro j s hj
      rw [List.getElem?_map] at hj
      cases hok : l[j]? with
      | none => rw [hok] at hj; cases hj
      | some ok =>
        rw [hok] at hj
        simp at hj
        have hjl : j < l.length := (List.getElem?_eq_some_iff.1 hok).1
        have hg := inv.got j ok (by simpa using hok) (hall j (by rw [hsize]; exact hjl))
        simp only [G, valAt, hok, Option.bind_some, hj, Option.elim_some] at hg
        rw [← hg]
        simp [rho, hok]
    rwa [e] at this
  have main : ∀ (fuel : Nat) (listed : Array Bool) (a : Act) (w : World), listed.size = l.toArray.size → (listed.toList.filter (fun b => !b)).length ≤ fuel → ParInv l.toArray a0 w0 G E listed a w → σ (fun j => listed.getD j false) w → wpAny P .any l.toArray Q fuel listed a w := by
    intro fuel
    induction fuel with
    | zero =>
      intro listed a w hls hf inv hs
      have hr : Region.ready .any l.toArray listed = [] := by
        cases h : Region.ready .any l.toArray listed with
        | nil => rfl
        | cons j r =>
          have hj : j ∈ Region.ready .any l.toArray listed := by rw [h]; simp
          obtain ⟨h0, o, ho, _⟩ := mem_ready.1 hj
          have hlt : j < listed.size := by rw [hls]; exact (Array.getElem?_eq_some_iff.1 ho).1
          have : false ∈ listed.toList.filter (fun b => !b) := by
            rw [List.mem_filter]
            refine ⟨?_, rfl⟩
            rw [List.mem_iff_getElem?]
            refine ⟨j, ?_⟩
            simp [hlt] at h0 ⊢
            exact h0
          have h3 := List.length_pos_of_mem this
          omega
      exact ⟨hr, fin listed a w hls inv hs hr⟩
    | succ fuel ih =>
      intro listed a w hls hf inv hs
      refine ⟨fin listed a w hls inv hs, fun i hi => ?_⟩
      obtain ⟨h0, o, ho, hall⟩ := mem_ready.1 hi
      have hlt : i < listed.size := by rw [hls]; exact (Array.getElem?_eq_some_iff.1 ho).1
      have hst := hstep i o ho (fun j => listed.getD j false) (fun j => (listed.setIfInBounds i true).getD j false) a w (getD_both h0) hall (fun j oj hj hl e he hb => inv.closed j oj (by simpa using hj) hl e he hb) hs (fun s hs => inv.rest s (fun j oj hj _ => hs j oj hj)) (fun e he hb oe d hoe hde => by
        have hg := inv.got e.on oe (by simpa using hoe) (hall e he hb)
        simp only [G, valAt, hoe, Option.bind_some, hde, Option.elim_some] at hg
        rw [← hg]
        simp [rho, hoe, valOf, hde, Array.getD_eq_getD_getElem?]) (fun j => by
          by_cases hji : j = i
          · subst hji; rw [if_pos rfl]; simp [hlt]
          · rw [if_neg hji, getD_set_ne _ (Ne.symm hji)])
      have hcount : ((listed.setIfInBounds i true).toList.filter (fun b => !b)).length ≤ fuel := by
        have h0' : listed.toList[i]? = some false := by
          simp [hlt] at h0 ⊢; exact h0
        have := filter_set listed.toList i h0'
        rw [Array.toList_setIfInBounds]
        omega
      have nextInv : ∀ v w', (o.dst.elim undef fun _ => v) = valAt l vals i → ParInv l.toArray a0 w0 G E (listed.setIfInBounds i true) (a.put o.dst v) w' :=
        fun v w' hv => parInv_next (fun _ _ _ _ _ => trivial) hG hloc hd hsz hbk inv ho hlt h0 hall trivial (by simp only [G, upd]; exact (if_pos trivial).trans hv)
      have hval : (o.dst.elim undef fun _ => vals.getD i undef) = valAt l vals i := by
        have ho' : l[i]? = some o := by simpa using ho
        simp only [valAt, ho', Option.bind_some]
      unfold wpOp
      simp only [ho]
      split
      · rename_i hw
        rw [if_pos hw] at hst
        refine .inl (Oper.wp_mono (fun a' w' h => ?_) hst)
        obtain ⟨rfl, hs'⟩ := h
        exact ih _ _ _ (by simp [hls]) hcount (nextInv _ w' hval) hs'
      · rename_i hw
        rw [if_neg hw] at hst
        obtain ⟨hu, hs'⟩ := hst
        refine ih _ _ _ (by simp [hls]) hcount (nextInv undef w ?_) hs'
        rw [← hval, hu]
  have hl0 : ∀ j, (Array.replicate l.toArray.size false).getD j false = false := fun j => getD_replicate_false _ _
  exact main l.toArray.size (Array.replicate l.toArray.size false) a0 w0.drew (by simp) (by
    refine Nat.le_trans (List.length_filter_le _ _) ?_
    simp) ⟨trivial, rfl, rfl, fun s _ => rfl, fun j o _ hl => (by rw [hl0] at hl; cases hl), fun j o _ hl => (by rw [hl0] at hl; cases hl)⟩ (h0 _ hl0)
end
end Go.Proofs.YtmindblfbijaaaaDoor
