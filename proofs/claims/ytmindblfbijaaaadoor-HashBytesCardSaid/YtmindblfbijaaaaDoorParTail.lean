/-
  The rule for a region that draws its order, with a tail that is carried out in the order of the text; no program in sight.
-/
import Derived.Test.YtmindblfbijaaaaDoorPar
import Derived.StillTail
namespace Go.Proofs.YtmindblfbijaaaaDoor
open Go.RowKit
theorem Rest.evalD {ops : Array Oper} {a0 a : Act} (h : Rest ops a0 a) {s : Tmp} (hs : (ops.toList.filterMap (·.dst)).contains s = false) {v : Value} (hv : a0.eval (.tmp s) = v) : a.tmps[s]?.getD undef = v := by
  have := (h.eval hs).trans hv
  simpa [Act.eval, Array.getD_eq_getD_getElem?] using this
section
variable {P : Program} {ops : Array Oper} {a0 : Act} {w0 : World} {Q : Exit → Act → World → Prop} {G : Nat → (Nat → Value) → World → Prop} {E : World → World → Prop}
def headListed (size n : Nat) : Array Bool := ((List.range size).map fun i => decide (i < n)).toArray
def parTailB (ops : List Oper) (size n : Nat) : Bool :=
  parB ops size && decide (n < ops.length) && Region.sinkB .any ops.toArray n && Region.chainB .any ops.toArray n && Region.seqB .any ops.toArray (ops.length - n) n (headListed ops.length n)
theorem headListed_eq {listed : Array Bool} {size n : Nat} (hs : listed.size = size) (h1 : ∀ j, j < n → j < size → listed.getD j false = true) (h2 : ∀ t, n ≤ t → t < size → listed.getD t true = false) : listed = headListed size n := by
  apply Array.ext (by simp [headListed, hs])
  intro i hi1 hi2
  simp only [headListed, List.getElem_toArray, List.getElem_map, List.getElem_range]
  by_cases h : i < n
  · have := h1 i h (by omega)
    simp [hi1] at this
    simp [h, this]
  · have := h2 i (by omega) (by omega)
    simp [hi1] at this
    simp [h, this]
theorem putAll_head (l : List Oper) (n : Nat) (a0 a : Act) (hs : a.tmps.size = a0.tmps.size) (hd : a.defers = a0.defers) (hrest : ∀ s, (∀ (j : Nat) (o : Oper), j < n → l[j]? = some o → o.dst ≠ some s) → a.tmps[s]? = a0.tmps[s]?) :
    putAll a0 (((l.take n).map (·.dst)).zip ((l.take n).map fun o => valOf o a)) = a :=
  putAll_self (l.take n) a0 a hs hd (fun s h => hrest s (fun j o hj ho => h j o (by rw [List.getElem?_take_of_lt hj]; exact ho)))
theorem wp_region_par_tail {id : Nat} {l : List Oper} (n : Nat) (hm : P.follows .mixedOrders = true) (hB : parTailB l a0.tmps.size n = true)
    (hE0 : E w0 w0.drew) (hEr : ∀ a, E a a) (hEt : ∀ a b c, E a b → E b c → E a c) (hG : ∀ j ρ w w', G j ρ w → E w w' → G j ρ w')
    (hloc : ∀ (j : Nat) (o : Oper), l.toArray[j]? = some o → ∀ ρ ρ' w, ρ j = ρ' j → (∀ e ∈ o.after, Region.binds .any e = true → ρ e.on = ρ' e.on) → G j ρ w → G j ρ' w)
    (hstep : ∀ (i : Nat) (o : Oper), (l.take n).toArray[i]? = some o → ∀ a w, E w0 w → Rest l.toArray a0 a → (∀ e ∈ o.after, Region.binds .any e = true → G e.on (rho l.toArray a) w) →
      if Region.wanted o (yielded l.toArray a.tmps) then o.wp P a w (fun a' w' => ∃ v, a' = a.put o.dst v ∧ E w w' ∧ G i (upd (rho l.toArray a) i (o.dst.elim undef fun _ => v)) w') Q else G i (upd (rho l.toArray a) i undef) w)
    (hend : ∀ vs : List Value, vs.length = n → ∀ w, E w0 w → (∀ j, j < n → G j (fun k => vs.getD k undef) w) → wpList P l.toArray Q (l.drop n) (putAll a0 (((l.take n).map (·.dst)).zip vs)) w) :
    (Code.region id l.toArray true).wp P Q a0 w0 := by
  simp only [parTailB, Bool.and_eq_true, decide_eq_true_eq] at hB
  obtain ⟨⟨⟨⟨hP, hn⟩, hsink⟩, hchain⟩, hseq⟩ := hB
  simp only [parB, Bool.and_eq_true] at hP
  obtain ⟨⟨hB1, hB2⟩, hB3⟩ := hP
  have hsz : ∀ (i : Nat) (o : Oper) (d : Tmp), l.toArray[i]? = some o → o.dst = some d → d < a0.tmps.size := by
    intro i o d hi hd
    have := List.all_eq_true.1 hB1 d (List.mem_filterMap.2 ⟨o, List.mem_iff_getElem?.2 ⟨i, by simpa using hi⟩, hd⟩)
    simpa using this
  have hd : ∀ (i j : Nat) (oi oj : Oper) (d : Tmp), l.toArray[i]? = some oi → l.toArray[j]? = some oj → oi.dst = some d → oj.dst = some d → i = j :=
    fun i j oi oj d hi hj => nodup_dst l (of_decide_eq_true hB2) i j oi oj d (by simpa using hi) (by simpa using hj)
  have hbk : ∀ (i : Nat) (o : Oper), l.toArray[i]? = some o → ∀ e ∈ o.after, Region.binds .any e = true → e.on < i := by
    intro i o hi e he hb
    have hz : (o, i) ∈ l.zipIdx := by
      rw [List.mem_zipIdx_iff_getElem?]
      simpa using hi
    have := List.all_eq_true.1 hB3 (o, i) hz
    simp only [Array.all_eq_true_iff_forall_mem] at this
    have := this e he
    simpa [hb] using this
  have hloc2 : ∀ (j : Nat) (o : Oper), l.toArray[j]? = some o → j < n → ∀ ρ ρ' w, (∀ k, k < n → ρ k = ρ' k) → G j ρ w → G j ρ' w :=
    fun j o ho hj ρ ρ' w h hg => hloc j o ho ρ ρ' w (h j hj) (fun e he hb => h _ (Nat.lt_trans (hbk j o ho e he hb) hj)) hg
  refine wp_region_any hm ?_
  have hsize : l.toArray.size = l.length := by simp
  have main : ∀ (f : Nat) (listed : Array Bool) (a : Act) (w : World), HeadInv .any l.toArray n listed → ((listed.toList.take n).filter (fun b => !b)).length = f → ParInv l.toArray a0 w0 G E listed a w → wpAny P .any l.toArray Q (f + (l.length - n)) listed a w := by
    intro f
    induction f with
    | zero =>
      intro listed a w hI hf inv
      have hls : listed.size = l.length := by rw [hI.size, hsize]
      have hall : ∀ j, j < n → j < l.length → listed.getD j false = true := by
        intro j hj hj2
        cases h : listed.getD j false with
        | true => rfl
        | false =>
          exfalso
          have hlt : j < listed.size := by omega
          have : false ∈ (listed.toList.take n).filter (fun b => !b) := by
            rw [List.mem_filter]
            refine ⟨?_, rfl⟩
            rw [List.mem_iff_getElem?]
            refine ⟨j, ?_⟩
            rw [List.getElem?_take_of_lt hj]
            simp [hlt] at h ⊢
            exact h
          have := List.length_pos_of_mem this
          omega
      have hle : listed = headListed l.length n := headListed_eq hls hall (fun t ht htl => hI.tail t ht (by rw [hsize]; exact htl))
      have hdl : (l.drop n).length = l.length - n := by simp
      have := wpAny_of_seq (P := P) (md := .any) (ops := l.toArray) (Q' := Q) (l.drop n) n listed a w (fun j => by simp [List.getElem?_drop]) (by rw [hdl, hle]; exact hseq) ?_
      · rw [hdl] at this; rw [Nat.zero_add]; exact this
      have hr := hend ((l.take n).map fun o => valOf o a) (by simp; omega) w inv.e (fun j hj => by
        have hjl : j < l.length := by omega
        refine hloc2 j l[j] (by simp [hjl]) hj (rho l.toArray a) _ w (fun k hk => ?_) (inv.got j l[j] (by simp [hjl]) (hall j hj hjl))
        have hkl : k < l.length := by omega
        unfold rho
        rw [List.getD_eq_getElem?_getD, List.getElem?_map, List.getElem?_take_of_lt hk]
        simp [hkl])
      rwa [putAll_head l n a0 a inv.size inv.defers (fun s hs => inv.rest s (fun j o ho hl => by
        by_cases hj : j < n
        · exact hs j o hj (by simpa using ho)
        · exfalso
          have hjl : j < l.toArray.size := (Array.getElem?_eq_some_iff.1 ho).1
          have h0 := getD_both (hI.tail j (by omega) hjl)
          rw [h0] at hl; cases hl))] at hr
    | succ f ih =>
      intro listed a w hI hf inv
      have hls : listed.size = l.length := by rw [hI.size, hsize]
      obtain ⟨i0, hi0n, hi0⟩ : ∃ i, i < n ∧ listed.getD i true = false := by
        have hne : ((listed.toList.take n).filter (fun b => !b)) ≠ [] := fun e => by rw [e] at hf; cases hf
        obtain ⟨b, hb⟩ := List.exists_mem_of_ne_nil _ hne
        rw [List.mem_filter] at hb
        obtain ⟨hb1, hb2⟩ := hb
        have hbf : b = false := by simpa using hb2
        subst hbf
        obtain ⟨i, hi⟩ := List.mem_iff_getElem?.1 hb1
        have hin : i < n := by
          have := (List.getElem?_eq_some_iff.1 hi).1
          rw [List.length_take] at this; omega
        rw [List.getElem?_take_of_lt hin] at hi
        exact ⟨i, hin, by simp at hi; simp [hi]⟩
      have hready : Region.ready .any l.toArray listed ≠ [] := by
        intro h
        have hall := all_listed (ops := l.toArray) (by rw [hls, hsize]) hbk h i0 (by rw [hsize]; omega)
        have h0 := getD_both hi0
        rw [h0] at hall; cases hall
      rw [show f + 1 + (l.length - n) = (f + (l.length - n)) + 1 by omega]
      refine ⟨fun h => absurd h hready, fun i hi => ?_⟩
      have hin : i < n := by
        rcases Nat.lt_or_ge i n with h | h
        · exact h
        · exact absurd hi (tail_waits hsink hchain (by rw [hsize]; exact hn) hI _ i0 rfl hi0n hi0 i h)
      obtain ⟨h0, o, ho, hall⟩ := mem_ready.1 hi
      have hlt : i < listed.size := by rw [hI.size]; exact (Array.getElem?_eq_some_iff.1 ho).1
      have hst := hstep i o (by simp at ho ⊢; rw [List.getElem?_take_of_lt hin]; exact ho) a w inv.e (fun s hs => inv.rest s (fun j oj hj _ => hs j oj hj)) (fun e he hb => by
        have h1 := hbk i o ho e he hb
        have h3 : e.on < l.length := by have := (Array.getElem?_eq_some_iff.1 ho).1; rw [hsize] at this; omega
        exact inv.got e.on l[e.on] (by simp [h3]) (hall e he hb))
      have hcount : (((listed.setIfInBounds i true).toList.take n).filter (fun b => !b)).length = f := by
        have h0' : (listed.toList.take n)[i]? = some false := by
          rw [List.getElem?_take_of_lt hin]; simp [hlt] at h0 ⊢; exact h0
        have := filter_set (listed.toList.take n) i h0'
        rw [Array.toList_setIfInBounds, List.take_set]
        omega
      have nextInv : ∀ v w', E w w' → G i (upd (rho l.toArray a) i (o.dst.elim undef fun _ => v)) w' → ParInv l.toArray a0 w0 G E (listed.setIfInBounds i true) (a.put o.dst v) w' :=
        fun v w' he hg => parInv_next hEt hG hloc hd hsz hbk inv ho hlt h0 hall he hg
      have hI' := hI.set hi hin
      unfold wpOp
      simp only [ho]
      split
      · rename_i hw
        rw [if_pos hw] at hst
        refine .inl (Oper.wp_mono (fun a' w' h => ?_) hst)
        obtain ⟨v, rfl, he, hg⟩ := h
        exact ih _ _ _ hI' hcount (nextInv v w' he hg)
      · rename_i hw
        rw [if_neg hw] at hst
        refine ih _ _ _ hI' hcount (nextInv undef w (hEr w) ?_)
        have e : (o.dst.elim undef fun _ => undef) = undef := by cases o.dst <;> rfl
        rw [e]; exact hst
  have hl0 : ∀ j, (Array.replicate l.toArray.size false).getD j false = true → False := fun j hl => by
    rw [getD_replicate_false] at hl; cases hl
  have inv0 : HeadInv .any l.toArray n (Array.replicate l.toArray.size false) :=
    ⟨by simp, fun j oj _ hl => (by rw [getD_replicate_false] at hl; cases hl), fun t _ ht => getD_in (by simpa using ht) (getD_replicate_false _ _)⟩
  have hfin := main n (Array.replicate l.toArray.size false) a0 w0.drew inv0 (by
    rw [Array.toList_replicate, List.take_replicate, List.filter_replicate]; simp; omega) ⟨hE0, rfl, rfl, fun s _ => rfl, fun j o _ hl => (hl0 j hl).elim, fun j o _ hl => (hl0 j hl).elim⟩
  rw [hsize]
  rwa [show n + (l.length - n) = l.length by omega] at hfin
end
end Go.Proofs.YtmindblfbijaaaaDoor
