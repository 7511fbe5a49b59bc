/-
  A rule for a region that draws its order: each operation is shown to keep a relation E between worlds and to yield a value with a property G that later worlds keep; no program in sight.
-/
import Derived.Test.YtmindblfbijaaaaDoorMem
import Derived.Orders
import Derived.Laws.CopyOwn
namespace Go.Proofs.YtmindblfbijaaaaDoor
open Go.RowKit
/-- The built-in copy into a block whose cells are known (elements of one cell). -/
theorem wpList_copy_arr {P : Program} {w : World} {ops : Array Oper} {rest : List Oper} {o : Oper} {a : Act} {Q : Exit → Act → World → Prop} (hgd : o.guard = none)
    (d s : Operand) (dT sT : TypeId) (ho : o.op = .call ⟨.builtin .copy, #[d, s], #[dT, sT]⟩) (elem : TypeId) (hu : P.underlying dT = some (.slice elem)) (hsz : (P.info? elem).map (·.size) = some 1)
    (g off dLen dCap g2 off2 sLen sCap : Nat) (hd : a.eval d = .slice (some ⟨g, off, none⟩) dLen dCap) (hs : a.eval s = .slice (some ⟨g2, off2, none⟩) sLen sCap)
    (cs : List Value) (hn : cs.length = sLen.min dLen) (hc : ∀ j v, cs[j]? = some v → w.cell? ⟨g2, off2 + j, none⟩ = some v) (cur : List Value) (hA : Arr w g cur) (hfit : off + cs.length ≤ cur.length)
    (h1 : ∀ v ∈ cs, v.oneCell' = true) (h : ∀ w', Arr w' g (lay cur off cs) → w.grownBy w' (some g) → wpList P ops Q rest (a.put o.dst (goInt cs.length)) w') : wpList P ops Q (o :: rest) a w := by
  obtain ⟨T, hg⟩ := hA
  refine wpList_copy_own hgd d s dT sT ho elem hu hsz g off dLen dCap ⟨g2, off2, none⟩ sLen sCap hd hs cur.toArray T hg cs hn (fun j v hv => by rw [addr_add]; exact hc j v hv) (by simpa using hfit) h1 ?_
  have := h _ (Arr.setRow ⟨T, hg⟩ (lay cur off cs)) (grownBy_setRow _ _ _)
  simpa [lay] using this
/-- What the temporary of an operation holds. -/
def valOf (o : Oper) (a : Act) : Value := match o.dst with | some d => a.tmps.getD d undef | none => undef
def putAll (a : Act) : List (Option Tmp × Value) → Act
  | [] => a
  | (d, v) :: r => putAll (a.put d v) r
theorem putAll_defers (l : List (Option Tmp × Value)) : ∀ a, (putAll a l).defers = a.defers := by
  induction l with
  | nil => intro a; rfl
  | cons x r ih => intro a; obtain ⟨d, v⟩ := x; rw [putAll, ih]; cases d <;> rfl
theorem putAll_tmps (T : Array Value) (l : List (Option Tmp × Value)) : ∀ a : Act, a.tmps.size = T.size → (∀ d v, (some d, v) ∈ l → v = T.getD d undef) →
    (∀ s, (∀ v, (some s, v) ∉ l) → a.tmps[s]? = T[s]?) → (putAll a l).tmps = T := by
  induction l with
  | nil => intro a hs _ h; exact Array.ext_getElem? (fun s => h s (by simp))
  | cons x r ih =>
    intro a hs hv h
    obtain ⟨d, v⟩ := x
    rw [putAll]
    cases d with
    | none => exact ih a hs (fun d v hm => hv d v (by simp [hm])) (fun s hn => h s (fun v' => by simp [hn]))
    | some d =>
      refine ih _ (by simp [Act.put, hs]) (fun d v hm => hv d v (by simp [hm])) (fun s hn => ?_)
      by_cases hsd : s = d
      · subst hsd
        have := hv s v (by simp)
        simp only [Act.put]
        by_cases hlt : s < T.size
        · rw [Array.getElem?_setIfInBounds_self_of_lt (by rw [hs]; exact hlt)]
          rw [this]; simp [hlt]
        · have h1 : T.size ≤ s := Nat.le_of_not_lt hlt
          rw [Array.getElem?_eq_none (by simp [hs, h1]), Array.getElem?_eq_none h1]
      · simp only [Act.put]
        rw [Array.getElem?_setIfInBounds_ne (Ne.symm hsd)]
        exact h s (fun v' => by simp [hn, hsd])
section
variable {P : Program} {ops : Array Oper} {a0 : Act} {w0 : World} {Q : Exit → Act → World → Prop} {G : Nat → (Nat → Value) → World → Prop} {E : World → World → Prop}
/-- The temporaries that the region does not write are as they were. -/
def Rest (ops : Array Oper) (a0 a : Act) : Prop := ∀ s, (∀ (j : Nat) (o : Oper), ops[j]? = some o → o.dst ≠ some s) → a.tmps[s]? = a0.tmps[s]?
/-- What the temporaries of the operations hold. -/
def rho (ops : Array Oper) (a : Act) (k : Nat) : Value := match ops[k]? with | some o => valOf o a | none => undef
def upd (ρ : Nat → Value) (i : Nat) (v : Value) : Nat → Value := fun k => if k = i then v else ρ k
structure ParInv (ops : Array Oper) (a0 : Act) (w0 : World) (G : Nat → (Nat → Value) → World → Prop) (E : World → World → Prop) (listed : Array Bool) (a : Act) (w : World) : Prop where
  e : E w0 w
  defers : a.defers = a0.defers
  size : a.tmps.size = a0.tmps.size
  rest : ∀ s, (∀ (j : Nat) (o : Oper), ops[j]? = some o → listed.getD j false = true → o.dst ≠ some s) → a.tmps[s]? = a0.tmps[s]?
  got : ∀ (j : Nat) (o : Oper), ops[j]? = some o → listed.getD j false = true → G j (rho ops a) w
  closed : ∀ (j : Nat) (o : Oper), ops[j]? = some o → listed.getD j false = true → ∀ e ∈ o.after, Region.binds .any e = true → listed.getD e.on false = true
/-- No two operations write one temporary; each temporary is there; an operation waits for earlier ones only. -/
def parB (ops : List Oper) (n : Nat) : Bool :=
  ((ops.filterMap (·.dst)).all fun d => decide (d < n)) && decide ((ops.filterMap (·.dst)).Nodup) &&
  ops.zipIdx.all fun (o, i) => o.after.all fun e => !Region.binds .any e || decide (e.on < i)
theorem nodup_dst : ∀ (l : List Oper), (l.filterMap (·.dst)).Nodup → ∀ (i j : Nat) (oi oj : Oper) (d : Tmp), l[i]? = some oi → l[j]? = some oj → oi.dst = some d → oj.dst = some d → i = j := by
  intro l
  induction l with
  | nil => intro _ i j oi oj d h; simp at h
  | cons o r ih =>
    intro hn i j oi oj d hi hj hdi hdj
    have hmem : ∀ (k : Nat) (ok : Oper), r[k]? = some ok → ok.dst = some d → d ∈ r.filterMap (·.dst) := fun k ok hk hd =>
      List.mem_filterMap.2 ⟨ok, List.mem_iff_getElem?.2 ⟨k, hk⟩, hd⟩
    cases i with
    | zero =>
      cases j with
      | zero => rfl
      | succ j =>
        simp at hi hj; subst hi
        rw [List.filterMap_cons_some hdi] at hn
        exact absurd (hmem j oj hj hdj) (List.nodup_cons.1 hn).1
    | succ i =>
      cases j with
      | zero =>
        simp at hi hj; subst hj
        rw [List.filterMap_cons_some hdj] at hn
        exact absurd (hmem i oi hi hdi) (List.nodup_cons.1 hn).1
      | succ j =>
        simp at hi hj
        have hn' : (r.filterMap (·.dst)).Nodup := by
          cases ho : o.dst with
          | none => rwa [List.filterMap_cons_none ho] at hn
          | some d => rw [List.filterMap_cons_some ho] at hn; exact (List.nodup_cons.1 hn).2
        rw [ih hn' i j oi oj d hi hj hdi hdj]
theorem all_listed {listed : Array Bool} (hs : listed.size = ops.size) (hbk : ∀ (i : Nat) (o : Oper), ops[i]? = some o → ∀ e ∈ o.after, Region.binds .any e = true → e.on < i) (hr : Region.ready .any ops listed = []) :
    ∀ j, j < ops.size → listed.getD j false = true := by
  intro j
  induction j using Nat.strongRecOn with
  | _ j ih =>
    intro hj
    cases h : listed.getD j false with
    | true => rfl
    | false =>
      have hlt : j < listed.size := by omega
      have : j ∈ Region.ready .any ops listed := by
        refine mem_ready.2 ⟨by simp [hlt] at h ⊢; exact h, ops[j], by simp [hj], fun e he hb => ?_⟩
        have := hbk j ops[j] (by simp [hj]) e he hb
        exact ih e.on this (by omega)
      rw [hr] at this; cases this
theorem filter_set (l : List Bool) : ∀ (i : Nat), l[i]? = some false → ((l.set i true).filter (fun b => !b)).length + 1 = (l.filter (fun b => !b)).length := by
  induction l with
  | nil => intro i h; simp at h
  | cons x r ihl =>
    intro i h
    cases i with
    | zero => simp at h; subst h; simp
    | succ i =>
      simp at h
      have := ihl i h
      cases x <;> simp <;> omega
theorem putAll_self (ops : List Oper) (a0 a : Act) (hs : a.tmps.size = a0.tmps.size) (hd : a.defers = a0.defers) (hrest : ∀ s, (∀ (j : Nat) (o : Oper), ops[j]? = some o → o.dst ≠ some s) → a.tmps[s]? = a0.tmps[s]?) :
    putAll a0 ((ops.map (·.dst)).zip (ops.map fun o => valOf o a)) = a := by
  have e : (ops.map (·.dst)).zip (ops.map fun o => valOf o a) = ops.map fun o => (o.dst, valOf o a) := by
    induction ops with
    | nil => rfl
    | cons o r ih =>
      simp only [List.map_cons, List.zip_cons_cons]
      congr 1
      clear ih hrest
      induction r with
      | nil => rfl
      | cons o r ih => simp [ih]
  rw [e]
  have h1 := putAll_tmps a.tmps (ops.map fun o => (o.dst, valOf o a)) a0 hs.symm (fun d v hv => by
    rw [List.mem_map] at hv
    obtain ⟨o, _, he⟩ := hv
    simp only [Prod.mk.injEq] at he
    rw [← he.2]; simp only [valOf, he.1]) (fun s hn => by
    refine (hrest s (fun j o ho hds => hn (valOf o a) ?_)).symm
    rw [List.mem_map]
    exact ⟨o, List.mem_iff_getElem?.2 ⟨j, ho⟩, by rw [hds]⟩)
  have h2 := putAll_defers (ops.map fun o => (o.dst, valOf o a)) a0
  generalize putAll a0 (ops.map fun o => (o.dst, valOf o a)) = b at h1 h2
  cases a; cases b
  simp only at h1 h2 hd
  subst h1
  rw [h2, ← hd]
theorem parInv_next (hEt : ∀ a b c, E a b → E b c → E a c) (hG : ∀ j ρ w w', G j ρ w → E w w' → G j ρ w')
    (hloc : ∀ (j : Nat) (o : Oper), ops[j]? = some o → ∀ ρ ρ' w, ρ j = ρ' j → (∀ e ∈ o.after, Region.binds .any e = true → ρ e.on = ρ' e.on) → G j ρ w → G j ρ' w)
    (hd : ∀ (i j : Nat) (oi oj : Oper) (d : Tmp), ops[i]? = some oi → ops[j]? = some oj → oi.dst = some d → oj.dst = some d → i = j)
    (hsz : ∀ (i : Nat) (o : Oper) (d : Tmp), ops[i]? = some o → o.dst = some d → d < a0.tmps.size)
    (_hbk : ∀ (i : Nat) (o : Oper), ops[i]? = some o → ∀ e ∈ o.after, Region.binds .any e = true → e.on < i)
    {listed : Array Bool} {a : Act} {w : World} (inv : ParInv ops a0 w0 G E listed a w) {i : Nat} {o : Oper} (ho : ops[i]? = some o) (hlt : i < listed.size) (h0 : listed.getD i true = false)
    (hall : ∀ e ∈ o.after, Region.binds .any e = true → listed.getD e.on false = true) {v : Value} {w' : World} (he : E w w') (hg : G i (upd (rho ops a) i (o.dst.elim undef fun _ => v)) w') :
    ParInv ops a0 w0 G E (listed.setIfInBounds i true) (a.put o.dst v) w' := by
  have hval : ∀ (j : Nat) (oj : Oper), ops[j]? = some oj → j ≠ i → valOf oj (a.put o.dst v) = valOf oj a := by
    intro j oj hj hji
    unfold valOf
    cases hdj : oj.dst with
    | none => rfl
    | some d =>
      cases hdi : o.dst with
      | none => rfl
      | some d' =>
        have hne : d' ≠ d := fun e => hji (hd j i oj o d hj ho hdj (by rw [hdi, e]))
        simp [Act.put, Array.getElem?_setIfInBounds_ne hne]
  have hself : valOf o (a.put o.dst v) = o.dst.elim undef fun _ => v := by
    unfold valOf
    cases hdi : o.dst with
    | none => rfl
    | some d =>
      have hds := hsz i o d ho hdi
      have h1 : d < a.tmps.size := by rw [inv.size]; exact hds
      simp [Act.put, h1]
  have hrho : rho ops (a.put o.dst v) = upd (rho ops a) i (o.dst.elim undef fun _ => v) := by
    funext k
    unfold upd
    by_cases hk : k = i
    · subst hk
      simp only [rho, ho, if_true]; exact hself
    · rw [if_neg hk]
      unfold rho
      cases h : ops[k]? with
      | none => rfl
      | some ok => exact hval k ok h hk
  refine ⟨hEt _ _ _ inv.e he, ?_, ?_, ?_, ?_, ?_⟩
  · rw [← inv.defers]; cases o.dst <;> rfl
  · rw [← inv.size]; cases o.dst <;> simp [Act.put]
  · intro s hs
    have hsi := hs i o ho (by simp [hlt])
    rw [← inv.rest s (fun j oj hj hl => hs j oj hj (getD_set_true hl))]
    cases hdi : o.dst with
    | none => rfl
    | some d =>
      have hne : d ≠ s := fun e => hsi (by rw [hdi, e])
      simp [Act.put, Array.getElem?_setIfInBounds_ne hne]
  · intro j oj hj hl
    rw [hrho]
    by_cases hji : j = i
    · subst hji
      exact hg
    · rw [getD_set_ne _ (Ne.symm hji)] at hl
      have hi0 : listed.getD i false = false := by simp [hlt] at h0 ⊢; exact h0
      refine hloc j oj hj (rho ops a) _ _ ?_ (fun e he' hb => ?_) (hG _ _ _ _ (inv.got j oj hj hl) he)
      · simp [upd, hji]
      · have := inv.closed j oj hj hl e he' hb
        have hne : e.on ≠ i := fun h => by rw [h, hi0] at this; cases this
        simp [upd, hne]
  · intro j oj hj hl e he' hb
    by_cases hji : j = i
    · subst hji
      obtain rfl : oj = o := Option.some.inj (hj.symm.trans ho)
      exact getD_set_true (hall e he' hb)
    · rw [getD_set_ne _ (Ne.symm hji)] at hl
      exact getD_set_true (inv.closed j oj hj hl e he' hb)
theorem wp_region_par {id : Nat} (hm : P.follows .mixedOrders = true) (hB : parB ops.toList a0.tmps.size = true)
    (hE0 : E w0 w0.drew) (hEr : ∀ a, E a a) (hEt : ∀ a b c, E a b → E b c → E a c) (hG : ∀ j ρ w w', G j ρ w → E w w' → G j ρ w')
    (hloc : ∀ (j : Nat) (o : Oper), ops[j]? = some o → ∀ ρ ρ' w, ρ j = ρ' j → (∀ e ∈ o.after, Region.binds .any e = true → ρ e.on = ρ' e.on) → G j ρ w → G j ρ' w)
    (hstep : ∀ (i : Nat) (o : Oper), ops[i]? = some o → ∀ a w, E w0 w → Rest ops a0 a → (∀ e ∈ o.after, Region.binds .any e = true → G e.on (rho ops a) w) →
      if Region.wanted o (yielded ops a.tmps) then o.wp P a w (fun a' w' => ∃ v, a' = a.put o.dst v ∧ E w w' ∧ G i (upd (rho ops a) i (o.dst.elim undef fun _ => v)) w') Q else G i (upd (rho ops a) i undef) w)
    (hend : ∀ vs : List Value, vs.length = ops.size → ∀ w, E w0 w → (∀ j, j < ops.size → G j (fun k => vs.getD k undef) w) → Q .normal (putAll a0 ((ops.toList.map (·.dst)).zip vs)) w) :
    (Code.region id ops true).wp P Q a0 w0 := by
  simp only [parB, Bool.and_eq_true] at hB
  obtain ⟨⟨hB1, hB2⟩, hB3⟩ := hB
  have hsz : ∀ (i : Nat) (o : Oper) (d : Tmp), ops[i]? = some o → o.dst = some d → d < a0.tmps.size := by
    intro i o d hi hd
    have := List.all_eq_true.1 hB1 d (List.mem_filterMap.2 ⟨o, List.mem_iff_getElem?.2 ⟨i, by simpa using hi⟩, hd⟩)
    simpa using this
  have hd : ∀ (i j : Nat) (oi oj : Oper) (d : Tmp), ops[i]? = some oi → ops[j]? = some oj → oi.dst = some d → oj.dst = some d → i = j :=
    fun i j oi oj d hi hj => nodup_dst ops.toList (of_decide_eq_true hB2) i j oi oj d (by simpa using hi) (by simpa using hj)
  have hbk : ∀ (i : Nat) (o : Oper), ops[i]? = some o → ∀ e ∈ o.after, Region.binds .any e = true → e.on < i := by
    intro i o hi e he hb
    have hz : (o, i) ∈ ops.toList.zipIdx := by
      rw [List.mem_zipIdx_iff_getElem?]
      simpa using hi
    have := List.all_eq_true.1 hB3 (o, i) hz
    simp only [Array.all_eq_true_iff_forall_mem] at this
    have := this e he
    simpa [hb] using this
  refine wp_region_any hm ?_
  have fin : ∀ (listed : Array Bool) (a : Act) (w : World), listed.size = ops.size → ParInv ops a0 w0 G E listed a w → Region.ready .any ops listed = [] → Q .normal a w := by
    intro listed a w hls inv hr
    have hall := all_listed hls hbk hr
    have hrho : (fun k => (ops.toList.map fun o => valOf o a).getD k undef) = rho ops a := by
      funext k
      unfold rho
      rw [List.getD_eq_getElem?_getD, List.getElem?_map]
      cases h : ops[k]? <;> simp [h]
    have := hend (ops.toList.map fun o => valOf o a) (by simp) w inv.e (fun j hj => by
      rw [hrho]
      exact inv.got j ops[j] (by simp [hj]) (hall j hj))
    rwa [putAll_self ops.toList a0 a inv.size inv.defers (fun s hs => inv.rest s (fun j o ho _ => hs j o (by simpa using ho)))] at this
  have main : ∀ (fuel : Nat) (listed : Array Bool) (a : Act) (w : World), listed.size = ops.size → (listed.toList.filter (fun b => !b)).length ≤ fuel → ParInv ops a0 w0 G E listed a w → wpAny P .any ops Q fuel listed a w := by
    intro fuel
    induction fuel with
    | zero =>
      intro listed a w hls hf inv
      have hr : Region.ready .any ops listed = [] := by
        cases h : Region.ready .any ops listed with
        | nil => rfl
        | cons j r =>
          have hj : j ∈ Region.ready .any ops listed := by rw [h]; simp
          obtain ⟨h0, o, ho, _⟩ := mem_ready.1 hj
          have hlt : j < listed.size := by rw [hls]; exact (Array.getElem?_eq_some_iff.1 ho).1
          have : false ∈ listed.toList.filter (fun b => !b) := by
            rw [List.mem_filter]
            refine ⟨?_, rfl⟩
            rw [List.mem_iff_getElem?]
            refine ⟨j, ?_⟩
            simp [hlt] at h0 ⊢
            exact h0
          have h3 := List.length_pos_of_mem this
          omega
      exact ⟨hr, fin listed a w hls inv hr⟩
    | succ fuel ih =>
      intro listed a w hls hf inv
      refine ⟨fin listed a w hls inv, fun i hi => ?_⟩
      obtain ⟨h0, o, ho, hall⟩ := mem_ready.1 hi
      have hlt : i < listed.size := by rw [hls]; exact (Array.getElem?_eq_some_iff.1 ho).1
      have hst := hstep i o ho a w inv.e (fun s hs => inv.rest s (fun j oj hj _ => hs j oj hj)) (fun e he hb => by
        have h1 := hbk i o ho e he hb
        have h2 := (Array.getElem?_eq_some_iff.1 ho).1
        have h3 : e.on < ops.size := by omega
        exact inv.got e.on ops[e.on] (by simp [h3]) (hall e he hb))
      have hcount : ((listed.setIfInBounds i true).toList.filter (fun b => !b)).length ≤ fuel := by
        have h0' : listed.toList[i]? = some false := by
          simp [hlt] at h0 ⊢; exact h0
        have := filter_set listed.toList i h0'
        rw [Array.toList_setIfInBounds]
        omega
      have nextInv : ∀ v w', E w w' → G i (upd (rho ops a) i (o.dst.elim undef fun _ => v)) w' → ParInv ops a0 w0 G E (listed.setIfInBounds i true) (a.put o.dst v) w' :=
        fun v w' he hg => parInv_next hEt hG hloc hd hsz hbk inv ho hlt h0 hall he hg
      unfold wpOp
      simp only [ho]
      split
      · rename_i hw
        rw [if_pos hw] at hst
        refine .inl (Oper.wp_mono (fun a' w' h => ?_) hst)
        obtain ⟨v, rfl, he, hg⟩ := h
        exact ih _ _ _ (by simp [hls]) hcount (nextInv v w' he hg)
      · rename_i hw
        rw [if_neg hw] at hst
        refine ih _ _ _ (by simp [hls]) hcount (nextInv undef w (hEr w) ?_)
        have e : (o.dst.elim undef fun _ => undef) = undef := by cases o.dst <;> rfl
        rw [e]; exact hst
  have hl0 : ∀ j, (Array.replicate ops.size false).getD j false = true → False := fun j hl => by
    rcases Nat.lt_or_ge j ops.size with h | h
    · simp [h] at hl
    · simp [h] at hl
  exact main ops.size (Array.replicate ops.size false) a0 w0.drew (by simp) (by
    refine Nat.le_trans (List.length_filter_le _ _) ?_
    simp) ⟨hE0, rfl, rfl, fun s _ => rfl, fun j o _ hl => (hl0 j hl).elim, fun j o _ hl => (hl0 j hl).elim⟩
theorem wanted_none {o : Oper} {y : Nat → Option Bool} {A B : Prop} (hg : o.guard = none) (h : A) : if Region.wanted o y = true then A else B := by
  simp only [Region.wanted, hg]; exact h
theorem Rest.eval {ops : Array Oper} {a0 a : Act} (h : Rest ops a0 a) {s : Tmp} (hs : (ops.toList.filterMap (·.dst)).contains s = false) : a.eval (.tmp s) = a0.eval (.tmp s) := by
  have := h s (fun j o ho hd => by
    have hm : s ∈ ops.toList.filterMap (·.dst) := List.mem_filterMap.2 ⟨o, List.mem_iff_getElem?.2 ⟨j, by simpa using ho⟩, hd⟩
    have h2 : (ops.toList.filterMap (·.dst)).contains s = true := by simpa using hm
    rw [h2] at hs; cases hs)
  simp only [Act.eval, Array.getD_eq_getD_getElem?, this]
/-- Each operation of a list, with its number. -/
def AllFrom (p : Nat → Oper → Prop) : Nat → List Oper → Prop
  | _, [] => True
  | i, o :: r => p i o ∧ AllFrom p (i + 1) r
theorem allFrom_get {p : Nat → Oper → Prop} : ∀ (l : List Oper) (k : Nat), AllFrom p k l → ∀ (i : Nat) (o : Oper), l[i]? = some o → p (k + i) o := by
  intro l
  induction l with
  | nil => intro k _ i o h; simp at h
  | cons x r ih =>
    intro k h i o ho
    cases i with
    | zero => simp at ho; subst ho; exact h.1
    | succ i => simp at ho; have := ih (k + 1) h.2 i o ho; rwa [show k + 1 + i = k + (i + 1) by omega] at this
theorem allFrom_array {p : Nat → Oper → Prop} {l : List Oper} (h : AllFrom p 0 l) : ∀ (i : Nat) (o : Oper), l.toArray[i]? = some o → p i o := by
  intro i o ho
  have := allFrom_get l 0 h i o (by simpa using ho)
  rwa [Nat.zero_add] at this
end
end Go.Proofs.YtmindblfbijaaaaDoor
