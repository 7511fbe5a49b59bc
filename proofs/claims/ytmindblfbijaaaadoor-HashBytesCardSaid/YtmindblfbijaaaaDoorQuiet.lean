/-
  A rule for a region that draws its order: a head whose operations keep a class of worlds and yield one value each in all of its worlds (walked once, in the order of the text), and a tail in the order of the text; no program in sight.
-/
import Derived.Test.YtmindblfbijaaaaDoorParTail
import Derived.BigQuiet
namespace Go.Proofs.YtmindblfbijaaaaDoor
open Go.RowKit
section
variable {P : Program} {C : World → Prop} {Q : Exit → Act → World → Prop}
theorem putAll_append (l1 l2 : List (Option Tmp × Value)) : ∀ a, putAll a (l1 ++ l2) = putAll (putAll a l1) l2 := by
  induction l1 with
  | nil => intro a; rfl
  | cons x r ih => intro a; obtain ⟨d, v⟩ := x; simp only [List.cons_append, putAll, ih]
theorem putAll_size (l : List (Option Tmp × Value)) : ∀ a : Act, (putAll a l).tmps.size = a.tmps.size := by
  induction l with
  | nil => intro a; rfl
  | cons x r ih => intro a; obtain ⟨d, v⟩ := x; rw [putAll, ih]; cases d <;> simp [Act.put]
theorem putAll_other (s : Tmp) (l : List (Option Tmp × Value)) : ∀ a : Act, (∀ v, (some s, v) ∉ l) → (putAll a l).tmps[s]? = a.tmps[s]? := by
  induction l with
  | nil => intro a _; rfl
  | cons x r ih =>
    intro a h
    obtain ⟨d, v⟩ := x
    rw [putAll, ih _ (fun v' => by have := h v'; simp at this; exact this.2)]
    cases d with
    | none => rfl
    | some d =>
      have hne : d ≠ s := fun e => h v (by subst e; simp)
      simp [Act.put, Array.getElem?_setIfInBounds_ne hne]
theorem putAll_same (s : Tmp) (v : Value) (l : List (Option Tmp × Value)) : ∀ a : Act, s < a.tmps.size → (some s, v) ∈ l → (∀ v', (some s, v') ∈ l → v' = v) → (putAll a l).tmps[s]? = some v := by
  induction l with
  | nil => intro a _ h; cases h
  | cons x r ih =>
    intro a hs hm hu
    obtain ⟨d, u⟩ := x
    rw [putAll]
    by_cases h : ∃ v', (some s, v') ∈ r
    · obtain ⟨v', h'⟩ := h
      have e := hu v' (List.mem_cons_of_mem _ h')
      subst e
      exact ih _ (by cases d <;> simpa [Act.put] using hs) h' (fun v'' h'' => hu v'' (List.mem_cons_of_mem _ h''))
    · have hn : ∀ v', (some s, v') ∉ r := fun v' h' => h ⟨v', h'⟩
      rw [putAll_other s r _ hn]
      rcases List.mem_cons.1 hm with h' | h'
      · simp only [Prod.mk.injEq] at h'
        obtain ⟨rfl, rfl⟩ := h'
        simp [Act.put, hs]
      · exact absurd h' (hn v)
theorem putAll_congr (ds : List (Option Tmp)) : ∀ (vs us : List Value) (a : Act), vs.length = ds.length → us.length = ds.length → (∀ (j : Nat) (s : Tmp), ds[j]? = some (some s) → vs.getD j undef = us.getD j undef) → putAll a (ds.zip vs) = putAll a (ds.zip us) := by
  induction ds with
  | nil => intro vs us a _ _ _; simp
  | cons d r ih =>
    intro vs us a h1 h2 h
    match vs, us with
    | [], _ => simp at h1
    | _ :: _, [] => simp at h2
    | v :: vs, u :: us =>
      simp only [List.zip_cons_cons, putAll]
      have e : a.put d v = a.put d u := by
        cases d with
        | none => rfl
        | some s => have := h 0 s rfl; simp only [List.getD_cons_zero] at this; rw [this]
      rw [e]
      exact ih vs us _ (by simpa using h1) (by simpa using h2) (fun j s hj => by simpa using h (j + 1) s (by simpa using hj))
theorem wpQuiet_vals {ops : Array Oper} {K : Act → Prop} : ∀ (l : List Oper) (a : Act), wpQuiet P ops C K l a →
    ∃ vs : List Value, vs.length = l.length ∧ K (putAll a ((l.map (·.dst)).zip vs)) ∧ ∀ (j : Nat) (o : Oper), l[j]? = some o → YieldsIn P ops C o (vs.getD j undef) (putAll a (((l.map (·.dst)).zip vs).take j)) := by
  intro l
  induction l with
  | nil => intro a h; exact ⟨[], rfl, h, fun j o h => by simp at h⟩
  | cons o r ih =>
    intro a h
    obtain ⟨v, hy, hr⟩ : ∃ v, YieldsIn P ops C o v a ∧ wpQuiet P ops C K r (a.put o.dst v) := by
      unfold wpQuiet at h
      by_cases hw : Region.wanted o (yielded ops a.tmps) = true
      · rw [if_pos hw] at h
        obtain ⟨v, h1, h2⟩ := h
        exact ⟨v, .inl ⟨hw, h1⟩, h2⟩
      · rw [if_neg hw] at h
        exact ⟨undef, .inr ⟨by simpa using hw, rfl⟩, h⟩
    obtain ⟨vs, hl, hk, hall⟩ := ih _ hr
    refine ⟨v :: vs, by simp [hl], hk, fun j oj hj => ?_⟩
    cases j with
    | zero => simp at hj; subst hj; exact hy
    | succ j => simpa [putAll] using hall j oj (by simpa using hj)
def quietTailB (l : List Oper) (size n : Nat) : Bool :=
  parTailB l size n && (l.take n).all fun o => (match o.op with | .select _ _ => false | _ => true) && (o.looksAt l.toArray).all fun s =>
    l.zipIdx.all fun (oj, j) => oj.dst != some s || o.after.any fun e => Region.binds .any e && e.on == j
theorem yielded_congr {ops : Array Oper} {t1 t2 : Array Value} (g : Nat) (h : ∀ s, (ops[g]?).bind (·.dst) = some s → t1[s]?.getD undef = t2[s]?.getD undef) : yielded ops t1 g = yielded ops t2 g := by
  unfold yielded
  cases hg : (ops[g]?).bind (·.dst) with
  | none => rfl
  | some s =>
    have := h s hg
    simp only [Option.bind_some]
    cases h1 : t1[s]? with
    | none => cases h2 : t2[s]? with
      | none => rfl
      | some v2 => rw [h1, h2] at this; simp only [Option.getD_none, Option.getD_some] at this; subst this; rfl
    | some v1 => cases h2 : t2[s]? with
      | none => rw [h1, h2] at this; simp only [Option.getD_none, Option.getD_some] at this; subst this; rfl
      | some v2 => rw [h1, h2] at this; simp only [Option.getD_some] at this; subst this; rfl
theorem wp_region_quiet_tail {id : Nat} {l : List Oper} {a0 : Act} {w0 : World} (n : Nat) (hm : P.follows .mixedOrders = true) (hB : quietTailB l a0.tmps.size n = true) (hC0 : C w0) (hC : C w0.drew)
    (h : wpQuiet P l.toArray C (fun a' => ∀ w', C w' → wpList P l.toArray Q (l.drop n) a' w') (l.take n) a0) : (Code.region id l.toArray true).wp P Q a0 w0 := by
  simp only [quietTailB, Bool.and_eq_true] at hB
  obtain ⟨hPT, hlk⟩ := hB
  have hPT' := hPT
  simp only [parTailB, parB, Bool.and_eq_true, decide_eq_true_eq] at hPT'
  obtain ⟨⟨⟨⟨⟨⟨hB1, hB2⟩, hB3⟩, hn⟩, _⟩, _⟩, _⟩ := hPT'
  obtain ⟨vs, hvl, hK, hY⟩ := wpQuiet_vals _ _ h
  have htn : (l.take n).length = n := by simp; omega
  rw [htn] at hvl
  let val : Nat → Value := fun j => ((l[j]?).bind (·.dst)).elim undef fun _ => vs.getD j undef
  refine wp_region_par_tail (E := fun A B => C A → C B) (G := fun j ρ _ => j < n → ρ j = val j) n hm hPT (fun _ => hC) (fun _ h => h) (fun _ _ _ h k g => k (h g)) (fun _ _ _ _ h _ => h) (fun j o _ ρ ρ' w e _ hg hj => by rw [← e]; exact hg hj) ?_ ?_
  · intro i o hi a w hE hR hdep
    have hin : i < n := by
      have := (Array.getElem?_eq_some_iff.1 hi).1
      simp at this; omega
    have hiT : (l.take n)[i]? = some o := by simpa using hi
    have hil : l[i]? = some o := by rw [List.getElem?_take_of_lt hin] at hiT; exact hiT
    have hlo := List.all_eq_true.1 hlk o (List.mem_iff_getElem?.2 ⟨i, hiT⟩)
    simp only [Bool.and_eq_true] at hlo
    obtain ⟨hsel, hlook⟩ := hlo
    have hsel' : ∀ cs b, o.op ≠ .select cs b := fun cs b e => by rw [e] at hsel; cases hsel
    have hback : ∀ e ∈ o.after, Region.binds .any e = true → e.on < i := by
      intro e he hb
      have hz : (o, i) ∈ l.zipIdx := by rw [List.mem_zipIdx_iff_getElem?]; exact hil
      have := List.all_eq_true.1 hB3 (o, i) hz
      simp only [Array.all_eq_true_iff_forall_mem] at this
      have := this e he
      simpa [hb] using this
    have agree : ∀ s ∈ o.looksAt l.toArray, a.tmps[s]?.getD undef = (putAll a0 ((((l.take n).map (·.dst)).zip vs).take i)).tmps[s]?.getD undef := by
      intro s hs
      by_cases hex : ∃ (j : Nat) (oj : Oper), l[j]? = some oj ∧ oj.dst = some s
      · obtain ⟨j, oj, hj, hd⟩ := hex
        have h1 := List.all_eq_true.1 hlook s hs
        have hz : (oj, j) ∈ l.zipIdx := by rw [List.mem_zipIdx_iff_getElem?]; exact hj
        have h2 := List.all_eq_true.1 h1 (oj, j) hz
        simp only [hd, bne_self_eq_false, Bool.false_or] at h2
        obtain ⟨e, he, hb⟩ := Array.any_eq_true'.1 h2
        simp only [Bool.and_eq_true, beq_iff_eq] at hb
        have hji : j < i := by rw [← hb.2]; exact hback e he hb.1
        have hg := hdep e he hb.1 (by rw [hb.2]; omega)
        rw [hb.2] at hg
        have hval : val j = vs.getD j undef := by simp [val, hj, hd]
        rw [hval] at hg
        have hrho : rho l.toArray a j = a.tmps[s]?.getD undef := by
          simp [rho, hj, valOf, hd, Array.getD_eq_getD_getElem?]
        rw [← hrho, hg]
        have hsz : s < a0.tmps.size := by
          have := List.all_eq_true.1 hB1 s (List.mem_filterMap.2 ⟨oj, List.mem_iff_getElem?.2 ⟨j, hj⟩, hd⟩)
          simpa using this
        have hmem : ∀ (k : Nat) (v : Value), ((((l.take n).map (·.dst)).zip vs).take i)[k]? = some (some s, v) ↔ (k < i ∧ k = j ∧ v = vs.getD j undef) := by
          intro k v
          constructor
          · intro hk
            have hki : k < i := by
              have := (List.getElem?_eq_some_iff.1 hk).1
              rw [List.length_take] at this; omega
            rw [List.getElem?_take_of_lt hki, List.getElem?_zip_eq_some] at hk
            obtain ⟨hk1, hk2⟩ := hk
            rw [List.getElem?_map, List.getElem?_take_of_lt (by omega)] at hk1
            cases hok : l[k]? with
            | none => rw [hok] at hk1; cases hk1
            | some ok =>
              rw [hok] at hk1
              simp at hk1
              have hkj : k = j := nodup_dst l hB2 k j ok oj s hok hj hk1 hd
              subst hkj
              exact ⟨hki, rfl, by simp [hk2]⟩
          · rintro ⟨hki, rfl, rfl⟩
            rw [List.getElem?_take_of_lt hki, List.getElem?_zip_eq_some]
            refine ⟨by rw [List.getElem?_map, List.getElem?_take_of_lt (by omega), hj]; simp [hd], ?_⟩
            have : k < vs.length := by omega
            simp [this]
        rw [putAll_same s (vs.getD j undef) _ a0 hsz (List.mem_iff_getElem?.2 ⟨j, (hmem j _).2 ⟨hji, rfl, rfl⟩⟩) (fun v' hv' => by
          obtain ⟨k, hk⟩ := List.mem_iff_getElem?.1 hv'
          exact ((hmem k v').1 hk).2.2)]
        rfl
      · have hno : ∀ (j : Nat) (oj : Oper), l.toArray[j]? = some oj → oj.dst ≠ some s := fun j oj hj hd => hex ⟨j, oj, by simpa using hj, hd⟩
        rw [hR s hno, putAll_other s _ a0 (fun v hv => by
          have hv1 := List.mem_of_mem_take hv
          have := (List.of_mem_zip hv1).1
          obtain ⟨oj, hoj, hd⟩ := List.mem_map.1 this
          obtain ⟨j, hj⟩ := List.mem_iff_getElem?.1 (List.mem_of_mem_take hoj)
          exact hno j oj (by simpa using hj) hd)]
    have hy := hY i o hiT
    have hy' : YieldsIn P l.toArray C o (vs.getD i undef) a := by
      refine hy.of_same (execOp_congr o hsel' fun x hx => ?_) ?_
      · cases x with
        | tmp s =>
          have hs : s ∈ o.looksAt l.toArray := List.mem_append_left _ (List.mem_filterMap.2 ⟨.tmp s, by simpa using hx, rfl⟩)
          have := agree s hs
          simpa [Act.eval] using this
        | _ => rfl
      · unfold Region.wanted
        cases hg : o.guard with
        | none => rfl
        | some gw =>
          obtain ⟨g, want⟩ := gw
          have : yielded l.toArray a.tmps g = yielded l.toArray (putAll a0 ((((l.take n).map (·.dst)).zip vs).take i)).tmps g :=
            yielded_congr g fun s hs => agree s (List.mem_append_right _ (by simp only [hg, Option.mem_toList]; exact hs))
          simp only [this]
    have hvi : ∀ v, ((o.dst.elim undef fun _ => v) = val i) ↔ (o.dst = none ∨ v = vs.getD i undef) := by
      intro v
      cases hd : o.dst with
      | none => simp [val, hil, hd]
      | some d => simp [val, hil, hd]
    have hCw := hE hC0
    split
    · rename_i hw
      rcases hy' with ⟨_, hq⟩ | ⟨hw', _⟩
      · refine Oper.wp_of_quiet (C := C) (K := fun a' => a' = a.put o.dst (vs.getD i undef)) hCw ?_ ⟨_, hq, rfl⟩
        rintro a' w' hC' rfl
        exact ⟨_, rfl, fun _ => hC', fun _ => by simp only [upd]; exact (if_pos trivial).trans ((hvi _).2 (.inr rfl))⟩
      · rw [hw] at hw'; cases hw'
    · rename_i hw
      rcases hy' with ⟨hw', _⟩ | ⟨_, hu⟩
      · exact absurd hw' hw
      · intro _
        simp only [upd]
        refine (if_pos trivial).trans ((Eq.trans ?_ ((hvi undef).2 (.inr hu.symm))))
        cases o.dst <;> rfl
  · intro us hus w hE hall
    have e : putAll a0 (((l.take n).map (·.dst)).zip us) = putAll a0 (((l.take n).map (·.dst)).zip vs) := by
      refine putAll_congr _ us vs a0 (by simp [hus]; omega) (by simp [hvl]; omega) ?_
      intro j s hj
      have hjn : j < n := by
        have := (List.getElem?_eq_some_iff.1 hj).1
        simp at this; omega
      have hg := hall j hjn hjn
      rw [List.getElem?_map, List.getElem?_take_of_lt hjn] at hj
      cases hok : l[j]? with
      | none => rw [hok] at hj; cases hj
      | some ok =>
        rw [hok] at hj
        simp at hj
        simpa [val, hok, hj] using hg
    rw [e]
    exact hK w (hE hC0)
end
end Go.Proofs.YtmindblfbijaaaaDoor
