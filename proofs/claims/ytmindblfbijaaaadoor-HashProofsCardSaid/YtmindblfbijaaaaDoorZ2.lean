/-
  Lemmas, part 2 of 6: walks through the program's functions, and plain Lean about what they compute.
-/
import Derived.Orders
import Derived.Laws.CopyOwn
import Derived.StillTail
import Derived.Test.YtmindblfbijaaaaDoorRows
import Derived.WalkKit
import Derived.WalkSpells
import Derived.WalkLawsBesides
import Derived.BigQuiet
import Derived.Deep.QuietTactic
import Derived.Deep.RegionHeld3
import Derived.Deep.DeepCutAuto
import Derived.Deep.LoopGhost
import Derived.StillTailTactics
import Derived.Lib.Hide
import Derived.Handy
import Derived.RangeFuncNested
import Derived.RangeFuncBound
import Derived.RangeFuncCalls
import Derived.RangeFuncLeaves
import Derived.RangeFuncFrom
import Derived.Shelf.Abstract
import Derived.Shelf.RegionOpen
import Derived.OwnWalkIn
import Derived.TacticsInMore
import Derived.LoopNIn
import Derived.LoopIn
import Derived.TacticsIn
import Derived.Test.YtmindblfbijaaaaDoorZ1
set_option linter.unnecessarySimpa false
set_option linter.unusedSimpArgs false
set_option linter.unusedVariables false
namespace Go.Proofs.YtmindblfbijaaaaDoor
open Go.RowKit
/-- The built-in copy into a block whose cells are known (elements of one cell). -/
theorem wpList_copy_arr {P : Program} {w : World} {ops : Array Oper} {rest : List Oper} {o : Oper} {a : Act} {Q : Exit → Act → World → Prop} (hgd : o.guard = none)
    (d s : Operand) (dT sT : TypeId) (ho : o.op = .call ⟨.builtin .copy, #[d, s], #[dT, sT]⟩) (elem : TypeId) (hu : P.underlying dT = some (.slice elem)) (hsz : (P.info? elem).map (·.size) = some 1)
    (g off dLen dCap g2 off2 sLen sCap : Nat) (hd : a.eval d = .slice (some ⟨g, off, none⟩) dLen dCap) (hs : a.eval s = .slice (some ⟨g2, off2, none⟩) sLen sCap)
    (cs : List Value) (hn : cs.length = sLen.min dLen) (hc : ∀ j v, cs[j]? = some v → w.cell? ⟨g2, off2 + j, none⟩ = some v) (cur : List Value) (hA : Arr w g cur) (hfit : off + cs.length ≤ cur.length)
    (h1 : ∀ v ∈ cs, v.oneCell' = true) (h : ∀ w', Arr w' g (lay cur off cs) → w.grownBy w' (some g) → wpList P ops Q rest (a.put o.dst (goInt cs.length)) w') : wpList P ops Q (o :: rest) a w := by
  obtain ⟨T, hg⟩ := hA
  refine wpList_copy_own hgd d s dT sT ho elem hu hsz g off dLen dCap ⟨g2, off2, none⟩ sLen sCap hd hs cur.toArray T hg cs hn (fun j v hv => by rw [addr_add]; exact hc j v hv) (by simpa using hfit) h1 ?_
  have := h _ (Arr.setRow ⟨T, hg⟩ (lay cur off cs)) (grownBy_setRow _ _ _)
  simpa [lay] using this
/-- What the temporary of an operation holds. -/
def valOf (o : Oper) (a : Act) : Value := match o.dst with | some d => a.tmps.getD d undef | none => undef
def putAll (a : Act) : List (Option Tmp × Value) → Act
  | [] => a
  | (d, v) :: r => putAll (a.put d v) r
theorem putAll_defers (l : List (Option Tmp × Value)) : ∀ a, (putAll a l).defers = a.defers := by
  induction l with
  | nil => intro a; rfl
  | cons x r ih => intro a; obtain ⟨d, v⟩ := x; rw [putAll, ih]; cases d <;> rfl
theorem putAll_tmps (T : Array Value) (l : List (Option Tmp × Value)) : ∀ a : Act, a.tmps.size = T.size → (∀ d v, (some d, v) ∈ l → v = T.getD d undef) →
    (∀ s, (∀ v, (some s, v) ∉ l) → a.tmps[s]? = T[s]?) → (putAll a l).tmps = T := by
  induction l with
  | nil => intro a hs _ h; exact Array.ext_getElem? (fun s => h s (by simp))
  | cons x r ih =>
    intro a hs hv h
    obtain ⟨d, v⟩ := x
    rw [putAll]
    cases d with
    | none => exact ih a hs (fun d v hm => hv d v (by simp [hm])) (fun s hn => h s (fun v' => by simp [hn]))
    | some d =>
      refine ih _ (by simp [Act.put, hs]) (fun d v hm => hv d v (by simp [hm])) (fun s hn => ?_)
      by_cases hsd : s = d
      · subst hsd
        have := hv s v (by simp)
        simp only [Act.put]
        by_cases hlt : s < T.size
        · rw [Array.getElem?_setIfInBounds_self_of_lt (by rw [hs]; exact hlt)]
          rw [this]; simp [hlt]
        · have h1 : T.size ≤ s := Nat.le_of_not_lt hlt
          rw [Array.getElem?_eq_none (by simp [hs, h1]), Array.getElem?_eq_none h1]
      · simp only [Act.put]
        rw [Array.getElem?_setIfInBounds_ne (Ne.symm hsd)]
        exact h s (fun v' => by simp [hn, hsd])
section
variable {P : Program} {ops : Array Oper} {a0 : Act} {w0 : World} {Q : Exit → Act → World → Prop} {G : Nat → (Nat → Value) → World → Prop} {E : World → World → Prop}
/-- The temporaries that the region does not write are as they were. -/
def Rest (ops : Array Oper) (a0 a : Act) : Prop := ∀ s, (∀ (j : Nat) (o : Oper), ops[j]? = some o → o.dst ≠ some s) → a.tmps[s]? = a0.tmps[s]?
/-- What the temporaries of the operations hold. -/
def rho (ops : Array Oper) (a : Act) (k : Nat) : Value := match ops[k]? with | some o => valOf o a | none => undef
def upd (ρ : Nat → Value) (i : Nat) (v : Value) : Nat → Value := fun k => if k = i then v else ρ k
structure ParInv (ops : Array Oper) (a0 : Act) (w0 : World) (G : Nat → (Nat → Value) → World → Prop) (E : World → World → Prop) (listed : Array Bool) (a : Act) (w : World) : Prop where
  e : E w0 w
  defers : a.defers = a0.defers
  size : a.tmps.size = a0.tmps.size
  rest : ∀ s, (∀ (j : Nat) (o : Oper), ops[j]? = some o → listed.getD j false = true → o.dst ≠ some s) → a.tmps[s]? = a0.tmps[s]?
  got : ∀ (j : Nat) (o : Oper), ops[j]? = some o → listed.getD j false = true → G j (rho ops a) w
  closed : ∀ (j : Nat) (o : Oper), ops[j]? = some o → listed.getD j false = true → ∀ e ∈ o.after, Region.binds .any e = true → listed.getD e.on false = true
/-- No two operations write one temporary; each temporary is there; an operation waits for earlier ones only. -/
def parB (ops : List Oper) (n : Nat) : Bool :=
  ((ops.filterMap (·.dst)).all fun d => decide (d < n)) && decide ((ops.filterMap (·.dst)).Nodup) &&
  ops.zipIdx.all fun (o, i) => o.after.all fun e => !Region.binds .any e || decide (e.on < i)
theorem nodup_dst : ∀ (l : List Oper), (l.filterMap (·.dst)).Nodup → ∀ (i j : Nat) (oi oj : Oper) (d : Tmp), l[i]? = some oi → l[j]? = some oj → oi.dst = some d → oj.dst = some d → i = j := by
  intro l
  induction l with
  | nil => intro _ i j oi oj d h; simp at h
  | cons o r ih =>
    intro hn i j oi oj d hi hj hdi hdj
    have hmem : ∀ (k : Nat) (ok : Oper), r[k]? = some ok → ok.dst = some d → d ∈ r.filterMap (·.dst) := fun k ok hk hd =>
      List.mem_filterMap.2 ⟨ok, List.mem_iff_getElem?.2 ⟨k, hk⟩, hd⟩
    cases i with
    | zero =>
      cases j with
      | zero => rfl
      | succ j =>
        simp at hi hj; subst hi
        rw [List.filterMap_cons_some hdi] at hn
        exact absurd (hmem j oj hj hdj) (List.nodup_cons.1 hn).1
    | succ i =>
      cases j with
      | zero =>
        simp at hi hj; subst hj
        rw [List.filterMap_cons_some hdj] at hn
        exact absurd (hmem i oi hi hdi) (List.nodup_cons.1 hn).1
      | succ j =>
        simp at hi hj
        have hn' : (r.filterMap (·.dst)).Nodup := by
          cases ho : o.dst with
          | none => rwa [List.filterMap_cons_none ho] at hn
          | some d => rw [List.filterMap_cons_some ho] at hn; exact (List.nodup_cons.1 hn).2
        rw [ih hn' i j oi oj d hi hj hdi hdj]
theorem all_listed {listed : Array Bool} (hs : listed.size = ops.size) (hbk : ∀ (i : Nat) (o : Oper), ops[i]? = some o → ∀ e ∈ o.after, Region.binds .any e = true → e.on < i) (hr : Region.ready .any ops listed = []) :
    ∀ j, j < ops.size → listed.getD j false = true := by
  intro j
  induction j using Nat.strongRecOn with
  | _ j ih =>
    intro hj
    cases h : listed.getD j false with
    | true => rfl
    | false =>
      have hlt : j < listed.size := by omega
      have : j ∈ Region.ready .any ops listed := by
        refine mem_ready.2 ⟨by simp [hlt] at h ⊢; exact h, ops[j], by simp [hj], fun e he hb => ?_⟩
        have := hbk j ops[j] (by simp [hj]) e he hb
        exact ih e.on this (by omega)
      rw [hr] at this; cases this
theorem filter_set (l : List Bool) : ∀ (i : Nat), l[i]? = some false → ((l.set i true).filter (fun b => !b)).length + 1 = (l.filter (fun b => !b)).length := by
  induction l with
  | nil => intro i h; simp at h
  | cons x r ihl =>
    intro i h
    cases i with
    | zero => simp at h; subst h; simp
    | succ i =>
      simp at h
      have := ihl i h
      cases x <;> simp <;> omega
theorem putAll_self (ops : List Oper) (a0 a : Act) (hs : a.tmps.size = a0.tmps.size) (hd : a.defers = a0.defers) (hrest : ∀ s, (∀ (j : Nat) (o : Oper), ops[j]? = some o → o.dst ≠ some s) → a.tmps[s]? = a0.tmps[s]?) :
    putAll a0 ((ops.map (·.dst)).zip (ops.map fun o => valOf o a)) = a := by
  have e : (ops.map (·.dst)).zip (ops.map fun o => valOf o a) = ops.map fun o => (o.dst, valOf o a) := by
    induction ops with
    | nil => rfl
    | cons o r ih =>
      simp only [List.map_cons, List.zip_cons_cons]
      congr 1
      clear ih hrest
      induction r with
      | nil => rfl
      | cons o r ih => simp [ih]
  rw [e]
  have h1 := putAll_tmps a.tmps (ops.map fun o => (o.dst, valOf o a)) a0 hs.symm (fun d v hv => by
    rw [List.mem_map] at hv
    obtain ⟨o, _, he⟩ := hv
    simp only [Prod.mk.injEq] at he
    rw [← he.2]; simp only [valOf, he.1]) (fun s hn => by
    refine (hrest s (fun j o ho hds => hn (valOf o a) ?_)).symm
    rw [List.mem_map]
    exact ⟨o, List.mem_iff_getElem?.2 ⟨j, ho⟩, by rw [hds]⟩)
  have h2 := putAll_defers (ops.map fun o => (o.dst, valOf o a)) a0
  generalize putAll a0 (ops.map fun o => (o.dst, valOf o a)) = b at h1 h2
  cases a; cases b
  simp only at h1 h2 hd
  subst h1
  rw [h2, ← hd]
theorem parInv_next (hEt : ∀ a b c, E a b → E b c → E a c) (hG : ∀ j ρ w w', G j ρ w → E w w' → G j ρ w')
    (hloc : ∀ (j : Nat) (o : Oper), ops[j]? = some o → ∀ ρ ρ' w, ρ j = ρ' j → (∀ e ∈ o.after, Region.binds .any e = true → ρ e.on = ρ' e.on) → G j ρ w → G j ρ' w)
    (hd : ∀ (i j : Nat) (oi oj : Oper) (d : Tmp), ops[i]? = some oi → ops[j]? = some oj → oi.dst = some d → oj.dst = some d → i = j)
    (hsz : ∀ (i : Nat) (o : Oper) (d : Tmp), ops[i]? = some o → o.dst = some d → d < a0.tmps.size)
    (_hbk : ∀ (i : Nat) (o : Oper), ops[i]? = some o → ∀ e ∈ o.after, Region.binds .any e = true → e.on < i)
    {listed : Array Bool} {a : Act} {w : World} (inv : ParInv ops a0 w0 G E listed a w) {i : Nat} {o : Oper} (ho : ops[i]? = some o) (hlt : i < listed.size) (h0 : listed.getD i true = false)
    (hall : ∀ e ∈ o.after, Region.binds .any e = true → listed.getD e.on false = true) {v : Value} {w' : World} (he : E w w') (hg : G i (upd (rho ops a) i (o.dst.elim undef fun _ => v)) w') :
    ParInv ops a0 w0 G E (listed.setIfInBounds i true) (a.put o.dst v) w' := by
  have hval : ∀ (j : Nat) (oj : Oper), ops[j]? = some oj → j ≠ i → valOf oj (a.put o.dst v) = valOf oj a := by
    intro j oj hj hji
    unfold valOf
    cases hdj : oj.dst with
    | none => rfl
    | some d =>
      cases hdi : o.dst with
      | none => rfl
      | some d' =>
        have hne : d' ≠ d := fun e => hji (hd j i oj o d hj ho hdj (by rw [hdi, e]))
        simp [Act.put, Array.getElem?_setIfInBounds_ne hne]
  have hself : valOf o (a.put o.dst v) = o.dst.elim undef fun _ => v := by
    unfold valOf
    cases hdi : o.dst with
    | none => rfl
    | some d =>
      have hds := hsz i o d ho hdi
      have h1 : d < a.tmps.size := by rw [inv.size]; exact hds
      simp [Act.put, h1]
  have hrho : rho ops (a.put o.dst v) = upd (rho ops a) i (o.dst.elim undef fun _ => v) := by
    funext k
    unfold upd
    by_cases hk : k = i
    · subst hk
      simp only [rho, ho, if_true]; exact hself
    · rw [if_neg hk]
      unfold rho
      cases h : ops[k]? with
      | none => rfl
      | some ok => exact hval k ok h hk
  refine ⟨hEt _ _ _ inv.e he, ?_, ?_, ?_, ?_, ?_⟩
  · rw [← inv.defers]; cases o.dst <;> rfl
  · rw [← inv.size]; cases o.dst <;> simp [Act.put]
  · intro s hs
    have hsi := hs i o ho (by simp [hlt])
    rw [← inv.rest s (fun j oj hj hl => hs j oj hj (getD_set_true hl))]
    cases hdi : o.dst with
    | none => rfl
    | some d =>
      have hne : d ≠ s := fun e => hsi (by rw [hdi, e])
      simp [Act.put, Array.getElem?_setIfInBounds_ne hne]
  · intro j oj hj hl
    rw [hrho]
    by_cases hji : j = i
    · subst hji
      exact hg
    · rw [getD_set_ne _ (Ne.symm hji)] at hl
      have hi0 : listed.getD i false = false := by simp [hlt] at h0 ⊢; exact h0
      refine hloc j oj hj (rho ops a) _ _ ?_ (fun e he' hb => ?_) (hG _ _ _ _ (inv.got j oj hj hl) he)
      · simp [upd, hji]
      · have := inv.closed j oj hj hl e he' hb
        have hne : e.on ≠ i := fun h => by rw [h, hi0] at this; cases this
        simp [upd, hne]
  · intro j oj hj hl e he' hb
    by_cases hji : j = i
    · subst hji
      obtain rfl : oj = o := Option.some.inj (hj.symm.trans ho)
      exact getD_set_true (hall e he' hb)
    · rw [getD_set_ne _ (Ne.symm hji)] at hl
      exact getD_set_true (inv.closed j oj hj hl e he' hb)
theorem wp_region_par {id : Nat} (hm : P.follows .mixedOrders = true) (hB : parB ops.toList a0.tmps.size = true)
    (hE0 : E w0 w0.drew) (hEr : ∀ a, E a a) (hEt : ∀ a b c, E a b → E b c → E a c) (hG : ∀ j ρ w w', G j ρ w → E w w' → G j ρ w')
    (hloc : ∀ (j : Nat) (o : Oper), ops[j]? = some o → ∀ ρ ρ' w, ρ j = ρ' j → (∀ e ∈ o.after, Region.binds .any e = true → ρ e.on = ρ' e.on) → G j ρ w → G j ρ' w)
    (hstep : ∀ (i : Nat) (o : Oper), ops[i]? = some o → ∀ a w, E w0 w → Rest ops a0 a → (∀ e ∈ o.after, Region.binds .any e = true → G e.on (rho ops a) w) →
      if Region.wanted o (yielded ops a.tmps) then o.wp P a w (fun a' w' => ∃ v, a' = a.put o.dst v ∧ E w w' ∧ G i (upd (rho ops a) i (o.dst.elim undef fun _ => v)) w') Q else G i (upd (rho ops a) i undef) w)
    (hend : ∀ vs : List Value, vs.length = ops.size → ∀ w, E w0 w → (∀ j, j < ops.size → G j (fun k => vs.getD k undef) w) → Q .normal (putAll a0 ((ops.toList.map (·.dst)).zip vs)) w) :
    (Code.region id ops true).wp P Q a0 w0 := by
  simp only [parB, Bool.and_eq_true] at hB
  obtain ⟨⟨hB1, hB2⟩, hB3⟩ := hB
  have hsz : ∀ (i : Nat) (o : Oper) (d : Tmp), ops[i]? = some o → o.dst = some d → d < a0.tmps.size := by
    intro i o d hi hd
    have := List.all_eq_true.1 hB1 d (List.mem_filterMap.2 ⟨o, List.mem_iff_getElem?.2 ⟨i, by simpa using hi⟩, hd⟩)
    simpa using this
  have hd : ∀ (i j : Nat) (oi oj : Oper) (d : Tmp), ops[i]? = some oi → ops[j]? = some oj → oi.dst = some d → oj.dst = some d → i = j :=
    fun i j oi oj d hi hj => nodup_dst ops.toList (of_decide_eq_true hB2) i j oi oj d (by simpa using hi) (by simpa using hj)
  have hbk : ∀ (i : Nat) (o : Oper), ops[i]? = some o → ∀ e ∈ o.after, Region.binds .any e = true → e.on < i := by
    intro i o hi e he hb
    have hz : (o, i) ∈ ops.toList.zipIdx := by
      rw [List.mem_zipIdx_iff_getElem?]
      simpa using hi
    have := List.all_eq_true.1 hB3 (o, i) hz
    simp only [Array.all_eq_true_iff_forall_mem] at this
    have := this e he
    simpa [hb] using this
  refine wp_region_any hm ?_
  have fin : ∀ (listed : Array Bool) (a : Act) (w : World), listed.size = ops.size → ParInv ops a0 w0 G E listed a w → Region.ready .any ops listed = [] → Q .normal a w := by
    intro listed a w hls inv hr
    have hall := all_listed hls hbk hr
    have hrho : (fun k => (ops.toList.map fun o => valOf o a).getD k undef) = rho ops a := by
      funext k
      unfold rho
      rw [List.getD_eq_getElem?_getD, List.getElem?_map]
      cases h : ops[k]? <;> simp [h]
    have := hend (ops.toList.map fun o => valOf o a) (by simp) w inv.e (fun j hj => by
      rw [hrho]
      exact inv.got j ops[j] (by simp [hj]) (hall j hj))
    rwa [putAll_self ops.toList a0 a inv.size inv.defers (fun s hs => inv.rest s (fun j o ho _ => hs j o (by simpa using ho)))] at this
  have main : ∀ (fuel : Nat) (listed : Array Bool) (a : Act) (w : World), listed.size = ops.size → (listed.toList.filter (fun b => !b)).length ≤ fuel → ParInv ops a0 w0 G E listed a w → wpAny P .any ops Q fuel listed a w := by
    intro fuel
    induction fuel with
    | zero =>
      intro listed a w hls hf inv
      have hr : Region.ready .any ops listed = [] := by
        cases h : Region.ready .any ops listed with
        | nil => rfl
        | cons j r =>
          have hj : j ∈ Region.ready .any ops listed := by rw [h]; simp
          obtain ⟨h0, o, ho, _⟩ := mem_ready.1 hj
          have hlt : j < listed.size := by rw [hls]; exact (Array.getElem?_eq_some_iff.1 ho).1
          have : false ∈ listed.toList.filter (fun b => !b) := by
            rw [List.mem_filter]
            refine ⟨?_, rfl⟩
            rw [List.mem_iff_getElem?]
            refine ⟨j, ?_⟩
            simp [hlt] at h0 ⊢
            exact h0
          have h3 := List.length_pos_of_mem this
          omega
      exact ⟨hr, fin listed a w hls inv hr⟩
    | succ fuel ih =>
      intro listed a w hls hf inv
      refine ⟨fin listed a w hls inv, fun i hi => ?_⟩
      obtain ⟨h0, o, ho, hall⟩ := mem_ready.1 hi
      have hlt : i < listed.size := by rw [hls]; exact (Array.getElem?_eq_some_iff.1 ho).1
      have hst := hstep i o ho a w inv.e (fun s hs => inv.rest s (fun j oj hj _ => hs j oj hj)) (fun e he hb => by
        have h1 := hbk i o ho e he hb
        have h2 := (Array.getElem?_eq_some_iff.1 ho).1
        have h3 : e.on < ops.size := by omega
        exact inv.got e.on ops[e.on] (by simp [h3]) (hall e he hb))
      have hcount : ((listed.setIfInBounds i true).toList.filter (fun b => !b)).length ≤ fuel := by
        have h0' : listed.toList[i]? = some false := by
          simp [hlt] at h0 ⊢; exact h0
        have := filter_set listed.toList i h0'
        rw [Array.toList_setIfInBounds]
        omega
      have nextInv : ∀ v w', E w w' → G i (upd (rho ops a) i (o.dst.elim undef fun _ => v)) w' → ParInv ops a0 w0 G E (listed.setIfInBounds i true) (a.put o.dst v) w' :=
        fun v w' he hg => parInv_next hEt hG hloc hd hsz hbk inv ho hlt h0 hall he hg
      unfold wpOp
      simp only [ho]
      split
      · rename_i hw
        rw [if_pos hw] at hst
        refine .inl (Oper.wp_mono (fun a' w' h => ?_) hst)
        obtain ⟨v, rfl, he, hg⟩ := h
        exact ih _ _ _ (by simp [hls]) hcount (nextInv v w' he hg)
      · rename_i hw
        rw [if_neg hw] at hst
        refine ih _ _ _ (by simp [hls]) hcount (nextInv undef w (hEr w) ?_)
        have e : (o.dst.elim undef fun _ => undef) = undef := by cases o.dst <;> rfl
        rw [e]; exact hst
  have hl0 : ∀ j, (Array.replicate ops.size false).getD j false = true → False := fun j hl => by
    rcases Nat.lt_or_ge j ops.size with h | h
    · simp [h] at hl
    · simp [h] at hl
  exact main ops.size (Array.replicate ops.size false) a0 w0.drew (by simp) (by
    refine Nat.le_trans (List.length_filter_le _ _) ?_
    simp) ⟨hE0, rfl, rfl, fun s _ => rfl, fun j o _ hl => (hl0 j hl).elim, fun j o _ hl => (hl0 j hl).elim⟩
theorem wanted_none {o : Oper} {y : Nat → Option Bool} {A B : Prop} (hg : o.guard = none) (h : A) : if Region.wanted o y = true then A else B := by
  simp only [Region.wanted, hg]; exact h
theorem Rest.eval {ops : Array Oper} {a0 a : Act} (h : Rest ops a0 a) {s : Tmp} (hs : (ops.toList.filterMap (·.dst)).contains s = false) : a.eval (.tmp s) = a0.eval (.tmp s) := by
  have := h s (fun j o ho hd => by
    have hm : s ∈ ops.toList.filterMap (·.dst) := List.mem_filterMap.2 ⟨o, List.mem_iff_getElem?.2 ⟨j, by simpa using ho⟩, hd⟩
    have h2 : (ops.toList.filterMap (·.dst)).contains s = true := by simpa using hm
    rw [h2] at hs; cases hs)
  simp only [Act.eval, Array.getD_eq_getD_getElem?, this]
/-- Each operation of a list, with its number. -/
def AllFrom (p : Nat → Oper → Prop) : Nat → List Oper → Prop
  | _, [] => True
  | i, o :: r => p i o ∧ AllFrom p (i + 1) r
theorem allFrom_get {p : Nat → Oper → Prop} : ∀ (l : List Oper) (k : Nat), AllFrom p k l → ∀ (i : Nat) (o : Oper), l[i]? = some o → p (k + i) o := by
  intro l
  induction l with
  | nil => intro k _ i o h; simp at h
  | cons x r ih =>
    intro k h i o ho
    cases i with
    | zero => simp at ho; subst ho; exact h.1
    | succ i => simp at ho; have := ih (k + 1) h.2 i o ho; rwa [show k + 1 + i = k + (i + 1) by omega] at this
theorem allFrom_array {p : Nat → Oper → Prop} {l : List Oper} (h : AllFrom p 0 l) : ∀ (i : Nat) (o : Oper), l.toArray[i]? = some o → p i o := by
  intro i o ho
  have := allFrom_get l 0 h i o (by simpa using ho)
  rwa [Nat.zero_add] at this
end
end Go.Proofs.YtmindblfbijaaaaDoor
namespace Go.Proofs.YtmindblfbijaaaaDoor
open Go.RowKit
theorem Rest.evalD {ops : Array Oper} {a0 a : Act} (h : Rest ops a0 a) {s : Tmp} (hs : (ops.toList.filterMap (·.dst)).contains s = false) {v : Value} (hv : a0.eval (.tmp s) = v) : a.tmps[s]?.getD undef = v := by
  have := (h.eval hs).trans hv
  simpa [Act.eval, Array.getD_eq_getD_getElem?] using this
section
variable {P : Program} {ops : Array Oper} {a0 : Act} {w0 : World} {Q : Exit → Act → World → Prop} {G : Nat → (Nat → Value) → World → Prop} {E : World → World → Prop}
def headListed (size n : Nat) : Array Bool := ((List.range size).map fun i => decide (i < n)).toArray
def parTailB (ops : List Oper) (size n : Nat) : Bool :=
  parB ops size && decide (n < ops.length) && Region.sinkB .any ops.toArray n && Region.chainB .any ops.toArray n && Region.seqB .any ops.toArray (ops.length - n) n (headListed ops.length n)
theorem headListed_eq {listed : Array Bool} {size n : Nat} (hs : listed.size = size) (h1 : ∀ j, j < n → j < size → listed.getD j false = true) (h2 : ∀ t, n ≤ t → t < size → listed.getD t true = false) : listed = headListed size n := by
  apply Array.ext (by simp [headListed, hs])
  intro i hi1 hi2
  simp only [headListed, List.getElem_toArray, List.getElem_map, List.getElem_range]
  by_cases h : i < n
  · have := h1 i h (by omega)
    simp [hi1] at this
    simp [h, this]
  · have := h2 i (by omega) (by omega)
    simp [hi1] at this
    simp [h, this]
theorem putAll_head (l : List Oper) (n : Nat) (a0 a : Act) (hs : a.tmps.size = a0.tmps.size) (hd : a.defers = a0.defers) (hrest : ∀ s, (∀ (j : Nat) (o : Oper), j < n → l[j]? = some o → o.dst ≠ some s) → a.tmps[s]? = a0.tmps[s]?) :
    putAll a0 (((l.take n).map (·.dst)).zip ((l.take n).map fun o => valOf o a)) = a :=
  putAll_self (l.take n) a0 a hs hd (fun s h => hrest s (fun j o hj ho => h j o (by rw [List.getElem?_take_of_lt hj]; exact ho)))
theorem wp_region_par_tail {id : Nat} {l : List Oper} (n : Nat) (hm : P.follows .mixedOrders = true) (hB : parTailB l a0.tmps.size n = true)
    (hE0 : E w0 w0.drew) (hEr : ∀ a, E a a) (hEt : ∀ a b c, E a b → E b c → E a c) (hG : ∀ j ρ w w', G j ρ w → E w w' → G j ρ w')
    (hloc : ∀ (j : Nat) (o : Oper), l.toArray[j]? = some o → ∀ ρ ρ' w, ρ j = ρ' j → (∀ e ∈ o.after, Region.binds .any e = true → ρ e.on = ρ' e.on) → G j ρ w → G j ρ' w)
    (hstep : ∀ (i : Nat) (o : Oper), (l.take n).toArray[i]? = some o → ∀ a w, E w0 w → Rest (l.take n).toArray a0 a → (∀ e ∈ o.after, Region.binds .any e = true → G e.on (rho l.toArray a) w) →
      if Region.wanted o (yielded l.toArray a.tmps) then o.wp P a w (fun a' w' => ∃ v, a' = a.put o.dst v ∧ E w w' ∧ G i (upd (rho l.toArray a) i (o.dst.elim undef fun _ => v)) w') Q else G i (upd (rho l.toArray a) i undef) w)
    (hend : ∀ vs : List Value, vs.length = n → ∀ w, E w0 w → (∀ j, j < n → G j (fun k => vs.getD k undef) w) → wpList P l.toArray Q (l.drop n) (putAll a0 (((l.take n).map (·.dst)).zip vs)) w) :
    (Code.region id l.toArray true).wp P Q a0 w0 := by
  simp only [parTailB, Bool.and_eq_true, decide_eq_true_eq] at hB
  obtain ⟨⟨⟨⟨hP, hn⟩, hsink⟩, hchain⟩, hseq⟩ := hB
  simp only [parB, Bool.and_eq_true] at hP
  obtain ⟨⟨hB1, hB2⟩, hB3⟩ := hP
  have hsz : ∀ (i : Nat) (o : Oper) (d : Tmp), l.toArray[i]? = some o → o.dst = some d → d < a0.tmps.size := by
    intro i o d hi hd
    have := List.all_eq_true.1 hB1 d (List.mem_filterMap.2 ⟨o, List.mem_iff_getElem?.2 ⟨i, by simpa using hi⟩, hd⟩)
    simpa using this
  have hd : ∀ (i j : Nat) (oi oj : Oper) (d : Tmp), l.toArray[i]? = some oi → l.toArray[j]? = some oj → oi.dst = some d → oj.dst = some d → i = j :=
    fun i j oi oj d hi hj => nodup_dst l (of_decide_eq_true hB2) i j oi oj d (by simpa using hi) (by simpa using hj)
  have hbk : ∀ (i : Nat) (o : Oper), l.toArray[i]? = some o → ∀ e ∈ o.after, Region.binds .any e = true → e.on < i := by
    intro i o hi e he hb
    have hz : (o, i) ∈ l.zipIdx := by
      rw [List.mem_zipIdx_iff_getElem?]
      simpa using hi
    have := List.all_eq_true.1 hB3 (o, i) hz
    simp only [Array.all_eq_true_iff_forall_mem] at this
    have := this e he
    simpa [hb] using this
  have hloc2 : ∀ (j : Nat) (o : Oper), l.toArray[j]? = some o → j < n → ∀ ρ ρ' w, (∀ k, k < n → ρ k = ρ' k) → G j ρ w → G j ρ' w :=
    fun j o ho hj ρ ρ' w h hg => hloc j o ho ρ ρ' w (h j hj) (fun e he hb => h _ (Nat.lt_trans (hbk j o ho e he hb) hj)) hg
  refine wp_region_any hm ?_
  have hsize : l.toArray.size = l.length := by simp
  have main : ∀ (f : Nat) (listed : Array Bool) (a : Act) (w : World), HeadInv .any l.toArray n listed → ((listed.toList.take n).filter (fun b => !b)).length = f → ParInv l.toArray a0 w0 G E listed a w → wpAny P .any l.toArray Q (f + (l.length - n)) listed a w := by
    intro f
    induction f with
    | zero =>
      intro listed a w hI hf inv
      have hls : listed.size = l.length := by rw [hI.size, hsize]
      have hall : ∀ j, j < n → j < l.length → listed.getD j false = true := by
        intro j hj hj2
        cases h : listed.getD j false with
        | true => rfl
        | false =>
          exfalso
          have hlt : j < listed.size := by omega
          have : false ∈ (listed.toList.take n).filter (fun b => !b) := by
            rw [List.mem_filter]
            refine ⟨?_, rfl⟩
            rw [List.mem_iff_getElem?]
            refine ⟨j, ?_⟩
            rw [List.getElem?_take_of_lt hj]
            simp [hlt] at h ⊢
            exact h
          have := List.length_pos_of_mem this
          omega
      have hle : listed = headListed l.length n := headListed_eq hls hall (fun t ht htl => hI.tail t ht (by rw [hsize]; exact htl))
      have hdl : (l.drop n).length = l.length - n := by simp
      have := wpAny_of_seq (P := P) (md := .any) (ops := l.toArray) (Q' := Q) (l.drop n) n listed a w (fun j => by simp [List.getElem?_drop]) (by rw [hdl, hle]; exact hseq) ?_
      · rw [hdl] at this; rw [Nat.zero_add]; exact this
      have hr := hend ((l.take n).map fun o => valOf o a) (by simp; omega) w inv.e (fun j hj => by
        have hjl : j < l.length := by omega
        refine hloc2 j l[j] (by simp [hjl]) hj (rho l.toArray a) _ w (fun k hk => ?_) (inv.got j l[j] (by simp [hjl]) (hall j hj hjl))
        have hkl : k < l.length := by omega
        unfold rho
        rw [List.getD_eq_getElem?_getD, List.getElem?_map, List.getElem?_take_of_lt hk]
        simp [hkl])
      rwa [putAll_head l n a0 a inv.size inv.defers (fun s hs => inv.rest s (fun j o ho hl => by
        by_cases hj : j < n
        · exact hs j o hj (by simpa using ho)
        · exfalso
          have hjl : j < l.toArray.size := (Array.getElem?_eq_some_iff.1 ho).1
          have h0 := getD_both (hI.tail j (by omega) hjl)
          rw [h0] at hl; cases hl))] at hr
    | succ f ih =>
      intro listed a w hI hf inv
      have hls : listed.size = l.length := by rw [hI.size, hsize]
      obtain ⟨i0, hi0n, hi0⟩ : ∃ i, i < n ∧ listed.getD i true = false := by
        have hne : ((listed.toList.take n).filter (fun b => !b)) ≠ [] := fun e => by rw [e] at hf; cases hf
        obtain ⟨b, hb⟩ := List.exists_mem_of_ne_nil _ hne
        rw [List.mem_filter] at hb
        obtain ⟨hb1, hb2⟩ := hb
        have hbf : b = false := by simpa using hb2
        subst hbf
        obtain ⟨i, hi⟩ := List.mem_iff_getElem?.1 hb1
        have hin : i < n := by
          have := (List.getElem?_eq_some_iff.1 hi).1
          rw [List.length_take] at this; omega
        rw [List.getElem?_take_of_lt hin] at hi
        exact ⟨i, hin, by simp at hi; simp [hi]⟩
      have hready : Region.ready .any l.toArray listed ≠ [] := by
        intro h
        have hall := all_listed (ops := l.toArray) (by rw [hls, hsize]) hbk h i0 (by rw [hsize]; omega)
        have h0 := getD_both hi0
        rw [h0] at hall; cases hall
      rw [show f + 1 + (l.length - n) = (f + (l.length - n)) + 1 by omega]
      refine ⟨fun h => absurd h hready, fun i hi => ?_⟩
      have hin : i < n := by
        rcases Nat.lt_or_ge i n with h | h
        · exact h
        · exact absurd hi (tail_waits hsink hchain (by rw [hsize]; exact hn) hI _ i0 rfl hi0n hi0 i h)
      obtain ⟨h0, o, ho, hall⟩ := mem_ready.1 hi
      have hlt : i < listed.size := by rw [hI.size]; exact (Array.getElem?_eq_some_iff.1 ho).1
      have hst := hstep i o (by simp at ho ⊢; rw [List.getElem?_take_of_lt hin]; exact ho) a w inv.e (fun s hs => inv.rest s (fun j oj hj hlj => by
        have hjn : j < n := by
          rcases Nat.lt_or_ge j n with h | h
          · exact h
          · exfalso
            have hjl : j < l.toArray.size := (Array.getElem?_eq_some_iff.1 hj).1
            have h0 := getD_both (hI.tail j h hjl)
            rw [h0] at hlj; cases hlj
        exact hs j oj (by simp at hj ⊢; rw [List.getElem?_take_of_lt hjn]; exact hj))) (fun e he hb => by
        have h1 := hbk i o ho e he hb
        have h3 : e.on < l.length := by have := (Array.getElem?_eq_some_iff.1 ho).1; rw [hsize] at this; omega
        exact inv.got e.on l[e.on] (by simp [h3]) (hall e he hb))
      have hcount : (((listed.setIfInBounds i true).toList.take n).filter (fun b => !b)).length = f := by
        have h0' : (listed.toList.take n)[i]? = some false := by
          rw [List.getElem?_take_of_lt hin]; simp [hlt] at h0 ⊢; exact h0
        have := filter_set (listed.toList.take n) i h0'
        rw [Array.toList_setIfInBounds, List.take_set]
        omega
      have nextInv : ∀ v w', E w w' → G i (upd (rho l.toArray a) i (o.dst.elim undef fun _ => v)) w' → ParInv l.toArray a0 w0 G E (listed.setIfInBounds i true) (a.put o.dst v) w' :=
        fun v w' he hg => parInv_next hEt hG hloc hd hsz hbk inv ho hlt h0 hall he hg
      have hI' := hI.set hi hin
      unfold wpOp
      simp only [ho]
      split
      · rename_i hw
        rw [if_pos hw] at hst
        refine .inl (Oper.wp_mono (fun a' w' h => ?_) hst)
        obtain ⟨v, rfl, he, hg⟩ := h
        exact ih _ _ _ hI' hcount (nextInv v w' he hg)
      · rename_i hw
        rw [if_neg hw] at hst
        refine ih _ _ _ hI' hcount (nextInv undef w (hEr w) ?_)
        have e : (o.dst.elim undef fun _ => undef) = undef := by cases o.dst <;> rfl
        rw [e]; exact hst
  have hl0 : ∀ j, (Array.replicate l.toArray.size false).getD j false = true → False := fun j hl => by
    rw [getD_replicate_false] at hl; cases hl
  have inv0 : HeadInv .any l.toArray n (Array.replicate l.toArray.size false) :=
    ⟨by simp, fun j oj _ hl => (by rw [getD_replicate_false] at hl; cases hl), fun t _ ht => getD_in (by simpa using ht) (getD_replicate_false _ _)⟩
  have hfin := main n (Array.replicate l.toArray.size false) a0 w0.drew inv0 (by
    rw [Array.toList_replicate, List.take_replicate, List.filter_replicate]; simp; omega) ⟨hE0, rfl, rfl, fun s _ => rfl, fun j o _ hl => (hl0 j hl).elim, fun j o _ hl => (hl0 j hl).elim⟩
  rw [hsize]
  rwa [show n + (l.length - n) = l.length by omega] at hfin
end
end Go.Proofs.YtmindblfbijaaaaDoor
namespace Go.Proofs.YtmindblfbijaaaaDoor
open Go.RowKit
def backB (l : List Oper) : Bool := l.zipIdx.all fun (o, i) => o.after.all fun e => !Region.binds .any e || decide (e.on < i)
def headB (l : List Oper) (n : Nat) : Bool :=
  backB l && (if n < l.length then Region.sinkB .any l.toArray n && Region.chainB .any l.toArray n && Region.seqB .any l.toArray (l.length - n) n (headListed l.length n) else decide (n = l.length))
section
variable {P : Program} {l : List Oper} {a0 : Act} {w0 : World} {Q : Exit → Act → World → Prop}
theorem wp_region_head {id : Nat} (n : Nat) (hm : P.follows .mixedOrders = true) (hB : headB l n = true) (σ : (Nat → Bool) → Act → World → Prop) (h0 : σ (fun _ => false) a0 w0.drew)
    (hstep : ∀ (i : Nat) (o : Oper) (S : Nat → Bool) (a : Act) (w : World), i < n → l[i]? = some o → S i = false → (∀ e ∈ o.after, Region.binds .any e = true → S e.on = true) → (∀ j, n ≤ j → S j = false) →
      (∀ (j : Nat) (oj : Oper), l[j]? = some oj → S j = true → ∀ e ∈ oj.after, Region.binds .any e = true → S e.on = true) → σ S a w →
      if Region.wanted o (yielded l.toArray a.tmps) then o.wp P a w (σ fun j => if j = i then true else S j) Q else σ (fun j => if j = i then true else S j) (a.put o.dst undef) w)
    (hend : ∀ (S : Nat → Bool) (a : Act) (w : World), (∀ j, j < n → S j = true) → (∀ j, n ≤ j → S j = false) → σ S a w → wpList P l.toArray Q (l.drop n) a w) :
    (Code.region id l.toArray true).wp P Q a0 w0 := by
  simp only [headB, Bool.and_eq_true] at hB
  obtain ⟨hB1, hB2⟩ := hB
  have hnl : n ≤ l.length := by
    split at hB2
    · omega
    · have := of_decide_eq_true hB2; omega
  have hbk : ∀ (i : Nat) (o : Oper), l.toArray[i]? = some o → ∀ e ∈ o.after, Region.binds .any e = true → e.on < i := by
    intro i o hi e he hb
    have hz : (o, i) ∈ l.zipIdx := by
      rw [List.mem_zipIdx_iff_getElem?]
      simpa using hi
    have := List.all_eq_true.1 hB1 (o, i) hz
    simp only [Array.all_eq_true_iff_forall_mem] at this
    have := this e he
    simpa [hb] using this
  have hsize : l.toArray.size = l.length := by simp
  refine wp_region_any hm ?_
  have main : ∀ (f : Nat) (listed : Array Bool) (a : Act) (w : World), HeadInv .any l.toArray n listed → ((listed.toList.take n).filter (fun b => !b)).length = f → σ (fun j => listed.getD j false) a w → wpAny P .any l.toArray Q (f + (l.length - n)) listed a w := by
    intro f
    induction f with
    | zero =>
      intro listed a w hI hf inv
      have hls : listed.size = l.length := by rw [hI.size, hsize]
      have hall : ∀ j, j < n → j < l.length → listed.getD j false = true := by
        intro j hj hj2
        cases h : listed.getD j false with
        | true => rfl
        | false =>
          exfalso
          have hlt : j < listed.size := by omega
          have : false ∈ (listed.toList.take n).filter (fun b => !b) := by
            rw [List.mem_filter]
            refine ⟨?_, rfl⟩
            rw [List.mem_iff_getElem?]
            refine ⟨j, ?_⟩
            rw [List.getElem?_take_of_lt hj]
            simp [hlt] at h ⊢
            exact h
          have := List.length_pos_of_mem this
          omega
      have hnone : ∀ j, n ≤ j → listed.getD j false = false := by
        intro j hj
        rcases Nat.lt_or_ge j l.length with h | h
        · exact getD_both (hI.tail j hj (by rw [hsize]; exact h))
        · rw [Array.getD_eq_getD_getElem?, Array.getElem?_eq_none (by omega)]; rfl
      have hr := hend _ a w (fun j hj => hall j hj (by omega)) hnone inv
      have hdl : (l.drop n).length = l.length - n := by simp
      rw [Nat.zero_add]
      by_cases hlt : n < l.length
      · rw [if_pos hlt] at hB2
        simp only [Bool.and_eq_true] at hB2
        have hle : listed = headListed l.length n := headListed_eq hls hall (fun t ht htl => hI.tail t ht (by rw [hsize]; exact htl))
        have := wpAny_of_seq (P := P) (md := .any) (ops := l.toArray) (Q' := Q) (l.drop n) n listed a w (fun j => by simp [List.getElem?_drop]) (by rw [hdl, hle]; exact hB2.2) hr
        rw [hdl] at this; exact this
      · have hen : n = l.length := by omega
        rw [hen, Nat.sub_self]
        rw [hen, List.drop_length] at hr
        refine ⟨?_, hr⟩
        cases hrd : Region.ready .any l.toArray listed with
        | nil => rfl
        | cons j r =>
          have hj : j ∈ Region.ready .any l.toArray listed := by rw [hrd]; simp
          obtain ⟨h1, o, ho, _⟩ := mem_ready.1 hj
          have hjl : j < l.length := by have := (Array.getElem?_eq_some_iff.1 ho).1; omega
          have h2 := hall j (by omega) hjl
          rw [getD_both h1] at h2; cases h2
    | succ f ih =>
      intro listed a w hI hf inv
      have hls : listed.size = l.length := by rw [hI.size, hsize]
      obtain ⟨i0, hi0n, hi0⟩ : ∃ i, i < n ∧ listed.getD i true = false := by
        have hne : ((listed.toList.take n).filter (fun b => !b)) ≠ [] := fun e => by rw [e] at hf; cases hf
        obtain ⟨b, hb⟩ := List.exists_mem_of_ne_nil _ hne
        rw [List.mem_filter] at hb
        obtain ⟨hb1, hb2⟩ := hb
        have hbf : b = false := by simpa using hb2
        subst hbf
        obtain ⟨i, hi⟩ := List.mem_iff_getElem?.1 hb1
        have hin : i < n := by
          have := (List.getElem?_eq_some_iff.1 hi).1
          rw [List.length_take] at this; omega
        rw [List.getElem?_take_of_lt hin] at hi
        exact ⟨i, hin, by simp at hi; simp [hi]⟩
      have hready : Region.ready .any l.toArray listed ≠ [] := by
        intro h
        have hall := all_listed (ops := l.toArray) (by rw [hls, hsize]) hbk h i0 (by rw [hsize]; omega)
        have h0 := getD_both hi0
        rw [h0] at hall; cases hall
      rw [show f + 1 + (l.length - n) = (f + (l.length - n)) + 1 by omega]
      refine ⟨fun h => absurd h hready, fun i hi => ?_⟩
      obtain ⟨h0, o, ho, hall⟩ := mem_ready.1 hi
      have hin : i < n := by
        rcases Nat.lt_or_ge i n with h | h
        · exact h
        · have hil : i < l.length := by have := (Array.getElem?_eq_some_iff.1 ho).1; omega
          rw [if_pos (by omega)] at hB2
          simp only [Bool.and_eq_true] at hB2
          exact absurd hi (tail_waits hB2.1.1 hB2.1.2 (by rw [hsize]; omega) hI _ i0 rfl hi0n hi0 i h)
      have hlt : i < listed.size := by rw [hI.size]; exact (Array.getElem?_eq_some_iff.1 ho).1
      have ho' : l[i]? = some o := by simpa using ho
      have hset : (fun j => (listed.setIfInBounds i true).getD j false) = fun j => if j = i then true else listed.getD j false := by
        funext j
        by_cases hji : j = i
        · subst hji; rw [if_pos rfl]; simp [hlt]
        · rw [if_neg hji, getD_set_ne _ (Ne.symm hji)]
      have hcount : (((listed.setIfInBounds i true).toList.take n).filter (fun b => !b)).length = f := by
        have h0' : (listed.toList.take n)[i]? = some false := by
          rw [List.getElem?_take_of_lt hin]
          simp [hlt] at h0 ⊢; exact h0
        have := filter_set (listed.toList.take n) i h0'
        rw [Array.toList_setIfInBounds, List.take_set]
        omega
      have hnone : ∀ j, n ≤ j → listed.getD j false = false := by
        intro j hj
        rcases Nat.lt_or_ge j l.length with h | h
        · exact getD_both (hI.tail j hj (by rw [hsize]; exact h))
        · rw [Array.getD_eq_getD_getElem?, Array.getElem?_eq_none (by omega)]; rfl
      have hst := hstep i o (fun j => listed.getD j false) a w hin ho' (getD_both h0) hall hnone (fun j oj hj hl e he hb => hI.closed j oj (by simpa using hj) hl e he hb) inv
      rw [← hset] at hst
      unfold wpOp
      simp only [ho]
      split
      · rename_i hw
        rw [if_pos hw] at hst
        exact .inl (Oper.wp_mono (fun a' w' h => ih _ a' w' (hI.set hi hin) hcount h) hst)
      · rename_i hw
        rw [if_neg hw] at hst
        exact ih _ _ _ (hI.set hi hin) hcount hst
  have hl0 : (fun j => (Array.replicate l.toArray.size false).getD j false) = fun _ => false := by
    funext j; exact getD_replicate_false _ _
  have hstart := main n (Array.replicate l.toArray.size false) a0 w0.drew ⟨by simp, fun j oj _ h => (by rw [getD_replicate_false] at h; cases h), fun t _ ht => (by simp at ht; simp [ht])⟩ (by simp [List.take_replicate]; omega) (by rw [hl0]; exact h0)
  have e : n + (l.length - n) = l.toArray.size := by rw [hsize]; omega
  rw [e] at hstart
  exact hstart
end
end Go.Proofs.YtmindblfbijaaaaDoor
namespace Go.Proofs.YtmindblfbijaaaaDoor
open Go.RowKit
/-- What an operation gives, whatever else has been done meanwhile. -/
def OpGives (F : Fr) (G : Nat → Option D) (h0 : List (Nat × Blk)) (o : Oper) (env : List (Nat × V)) (x : V) : Prop :=
  ∀ μ C a w nx h, Sim F ⟨[], h, nx⟩ μ C a w → (∀ l k, look h0 l = some k → look h l = some k) → (∀ y ∈ o.op.operands, ∀ v, evD G env y = some v → RepV μ C v (a.eval y)) →
    ∀ K Q, (∀ u w' C', More w C w' C' → RepV μ C' x u → K (a.put o.dst u) w') → o.wp F.P a w K Q
/-- The same of an operation that makes a block of the frame's own. -/
def OpMakes (F : Fr) (G : Nat → Option D) (o : Oper) (env : List (Nat × V)) (k : Blk) (res : Nat → V) : Prop :=
  ∀ μ C a w nx h, Sim F ⟨[], h, nx⟩ μ C a w → (∀ y ∈ o.op.operands, ∀ v, evD G env y = some v → RepV μ C v (a.eval y)) → ∀ m, m < nx → μ m = none →
    ∀ K Q, (∀ u w' μ' C', Sim F ⟨[], (m, k) :: h, nx⟩ μ' C' a w' → (∀ b o u, C b o u → C' b o u) → (∀ l p, μ l = some p → μ' l = some p) → (∀ l, l ≠ m → μ' l = μ l) → RepV μ' C' (res m) u → K (a.put o.dst u) w') → o.wp F.P a w K Q
/-- The head of a region, in the order of the text. -/
def Head (F : Fr) (G : Nat → Option D) (N : Nat) (ops : Array Oper) (h0 : List (Nat × Blk)) : List Oper → List (Nat × V) → List (Nat × Blk) → Nat → (List (Nat × V) → List (Nat × Blk) → Nat → Prop) → Prop
  | [], env, al, nx, K => K env al nx
  | o :: r, env, al, nx, K => ∃ t, o.dst = some t ∧ t < N ∧
    ((∃ x, ((guardS ops env o.guard = some true ∧ OpGives F G h0 o env x) ∨ (guardS ops env o.guard = some false ∧ x = .d (.v undef))) ∧ Head F G N ops h0 r ((t, x) :: env) al nx K) ∨
     (∃ k res, guardS ops env o.guard = some true ∧ OpMakes F G o env k res ∧ Head F G N ops h0 r ((t, res nx) :: env) ((nx, k) :: al) (nx + 1) K))
/-- A done step: slot, value, block. -/
abbrev Done := Tmp × V × Option (Nat × Blk)
def envOf (env : List (Nat × V)) (ds : List Done) : List (Nat × V) := (ds.map fun d => (d.1, d.2.1)).reverse ++ env
def alOf (ds : List Done) : List (Nat × Blk) := (ds.filterMap fun d => d.2.2).reverse
def depB (l : List Oper) (n : Nat) : Bool :=
  decide ((l.take n).filterMap (·.dst)).Nodup && (l.take n).zipIdx.all fun (o, i) => (o.looksAt l.toArray).all fun s => (l.take n).zipIdx.all fun (oj, j) =>
    oj.dst != some s || ((!decide (j < i) || o.after.any fun e => Region.binds .any e && e.on == j) && (!decide (i < j) || oj.after.any fun e => Region.binds .any e && e.on == i))
section
variable {F : Fr} {G : Nat → Option D} {N : Nat} {ops : Array Oper} {h0 : List (Nat × Blk)}
theorem head_done : ∀ (l : List Oper) (env0 : List (Nat × V)) (pre : List Done) (nx : Nat) (K : List (Nat × V) → List (Nat × Blk) → Nat → Prop), Head F G N ops h0 l (envOf env0 pre) (alOf pre) nx K →
    ∃ (ds : List Done) (nx' : Nat), ds.length = l.length ∧ nx ≤ nx' ∧ K (envOf env0 (pre ++ ds)) (alOf (pre ++ ds)) nx' ∧
      (∀ (i : Nat) (o : Oper) (d : Done), l[i]? = some o → ds[i]? = some d → o.dst = some d.1 ∧ d.1 < N ∧
        ((d.2.2 = none ∧ ((guardS ops (envOf env0 (pre ++ ds.take i)) o.guard = some true ∧ OpGives F G h0 o (envOf env0 (pre ++ ds.take i)) d.2.1) ∨ (guardS ops (envOf env0 (pre ++ ds.take i)) o.guard = some false ∧ d.2.1 = .d (.v undef)))) ∨
         (∃ m k res, d.2.2 = some (m, k) ∧ d.2.1 = res m ∧ guardS ops (envOf env0 (pre ++ ds.take i)) o.guard = some true ∧ OpMakes F G o (envOf env0 (pre ++ ds.take i)) k res ∧ nx ≤ m ∧ m < nx'))) ∧
      (∀ (i j : Nat) (di dj : Done) (m : Nat) (k k' : Blk), ds[i]? = some di → ds[j]? = some dj → di.2.2 = some (m, k) → dj.2.2 = some (m, k') → i = j) := by
  intro l
  induction l with
  | nil => intro env0 pre nx K h; exact ⟨[], nx, rfl, Nat.le_refl _, by simpa [Head] using h, by simp, by simp⟩
  | cons o l ih =>
    intro env0 pre nx K h
    obtain ⟨t, ht, htN, h⟩ := h
    rcases h with ⟨x, hx, h⟩ | ⟨k, res, hg, hk, h⟩
    · have e1 : (t, x) :: envOf env0 pre = envOf env0 (pre ++ [(t, x, none)]) := by simp [envOf]
      have e2 : alOf pre = alOf (pre ++ [((t, x, none) : Done)]) := by simp [alOf]
      rw [e1, e2] at h
      obtain ⟨ds, nx', h1, h2, h3, h4, h5⟩ := ih env0 _ nx K h
      refine ⟨(t, x, none) :: ds, nx', by simp [h1], h2, by simpa using h3, ?_, ?_⟩
      · intro i oi d hi hd
        cases i with
        | zero =>
          simp at hi hd; subst hi; subst hd
          exact ⟨ht, htN, .inl ⟨rfl, by simpa using hx⟩⟩
        | succ i =>
          have := h4 i oi d (by simpa using hi) (by simpa using hd)
          simpa using this
      · intro i j di dj m k k' hi hj hdi hdj
        cases i with
        | zero => simp at hi; subst hi; cases hdi
        | succ i =>
          cases j with
          | zero => simp at hj; subst hj; cases hdj
          | succ j => rw [h5 i j di dj m k k' (by simpa using hi) (by simpa using hj) hdi hdj]
    · have e1 : (t, res nx) :: envOf env0 pre = envOf env0 (pre ++ [(t, res nx, some (nx, k))]) := by simp [envOf]
      have e2 : (nx, k) :: alOf pre = alOf (pre ++ [((t, res nx, some (nx, k)) : Done)]) := by simp [alOf]
      rw [e1, e2] at h
      obtain ⟨ds, nx', h1, h2, h3, h4, h5⟩ := ih env0 _ (nx + 1) K h
      refine ⟨(t, res nx, some (nx, k)) :: ds, nx', by simp [h1], by omega, by simpa using h3, ?_, ?_⟩
      · intro i oi d hi hd
        cases i with
        | zero =>
          simp at hi hd; subst hi; subst hd
          exact ⟨ht, htN, .inr ⟨nx, k, res, rfl, rfl, by simpa using hg, by simpa using hk, Nat.le_refl _, by omega⟩⟩
        | succ i =>
          obtain ⟨a1, a2, a3⟩ := h4 i oi d (by simpa using hi) (by simpa using hd)
          refine ⟨a1, a2, ?_⟩
          rcases a3 with a3 | ⟨m, k', res', b1, b2, b3, b4, b5, b6⟩
          · exact .inl (by simpa using a3)
          · exact .inr ⟨m, k', res', b1, b2, by simpa using b3, by simpa using b4, by omega, b6⟩
      · intro i j di dj m k1 k2 hi hj hdi hdj
        cases i with
        | zero =>
          simp at hi; subst hi; cases hdi
          cases j with
          | zero => rfl
          | succ j =>
            exfalso
            have hj' : ds[j]? = some dj := by simpa using hj
            have hjl : j < l.length := by rw [← h1]; exact (List.getElem?_eq_some_iff.1 hj').1
            obtain ⟨_, _, a3⟩ := h4 j l[j] dj (by simp [hjl]) hj'
            rcases a3 with ⟨a3, _⟩ | ⟨m', k', _, b1, _, _, _, b5, _⟩
            · rw [a3] at hdj; cases hdj
            · rw [b1] at hdj; cases hdj; omega
        | succ i =>
          cases j with
          | zero =>
            exfalso
            simp at hj; subst hj; cases hdj
            have hi' : ds[i]? = some di := by simpa using hi
            have hil : i < l.length := by rw [← h1]; exact (List.getElem?_eq_some_iff.1 hi').1
            obtain ⟨_, _, a3⟩ := h4 i l[i] di (by simp [hil]) hi'
            rcases a3 with ⟨a3, _⟩ | ⟨m', k', _, b1, _, _, _, b5, _⟩
            · rw [a3] at hdi; cases hdi
            · rw [b1] at hdi; cases hdi; omega
          | succ j => rw [h5 i j di dj m k1 k2 (by simpa using hi) (by simpa using hj) hdi hdj]
/-- An entry of what has been done, or one of before. -/
theorem look_envOf : ∀ (ds : List Done) (env0 : List (Nat × V)) (t : Nat) (x : V), look (envOf env0 ds) t = some x →
    (∃ (i : Nat) (d : Done), ds[i]? = some d ∧ d.1 = t ∧ d.2.1 = x) ∨ (look env0 t = some x ∧ ∀ (i : Nat) (d : Done), ds[i]? = some d → d.1 ≠ t) := by
  have key : ∀ (r : List (Nat × V)) (env0 : List (Nat × V)) (t : Nat) (x : V), look (r ++ env0) t = some x → (t, x) ∈ r ∨ (look env0 t = some x ∧ ∀ e ∈ r, e.1 ≠ t) := by
    intro r
    induction r with
    | nil => intro env0 t x h; exact .inr ⟨h, by simp⟩
    | cons e r ih =>
      obtain ⟨k, y⟩ := e
      intro env0 t x h
      simp only [List.cons_append, look] at h
      split at h
      · rename_i e; cases h; subst e; exact .inl (by simp)
      · rename_i e
        rcases ih env0 t x h with h | ⟨h1, h2⟩
        · exact .inl (by simp [h])
        · refine .inr ⟨h1, fun e' he' => ?_⟩
          rcases List.mem_cons.1 he' with rfl | he'
          · exact e
          · exact h2 e' he'
  intro ds env0 t x h
  rcases key _ _ _ _ h with h | ⟨h1, h2⟩
  · left
    rw [List.mem_reverse, List.mem_map] at h
    obtain ⟨d, hd, e⟩ := h
    cases e
    obtain ⟨i, hi⟩ := List.mem_iff_getElem?.1 hd
    exact ⟨i, d, hi, rfl, rfl⟩
  · refine .inr ⟨h1, fun i d hi => ?_⟩
    exact h2 (d.1, d.2.1) (by rw [List.mem_reverse, List.mem_map]; exact ⟨d, List.mem_of_getElem? hi, rfl⟩)
theorem look_alOf : ∀ (ds : List Done) (h0 : List (Nat × Blk)) (l : Nat) (k : Blk), look (alOf ds ++ h0) l = some k → (∃ (i : Nat) (d : Done), ds[i]? = some d ∧ d.2.2 = some (l, k)) ∨ look h0 l = some k := by
  have key : ∀ (r : List (Nat × Blk)) (h0 : List (Nat × Blk)) (l : Nat) (k : Blk), look (r ++ h0) l = some k → (l, k) ∈ r ∨ look h0 l = some k := by
    intro r
    induction r with
    | nil => intro h0 l k h; exact .inr h
    | cons e r ih =>
      obtain ⟨k', y⟩ := e
      intro h0 l k h
      simp only [List.cons_append, look] at h
      split at h
      · rename_i e; cases h; subst e; exact .inl (by simp)
      · rcases ih h0 l k h with h | h
        · exact .inl (by simp [h])
        · exact .inr h
  intro ds h0 l k h
  rcases key _ _ _ _ h with h | h
  · left
    unfold alOf at h
    rw [List.mem_reverse, List.mem_filterMap] at h
    obtain ⟨d, hd, e⟩ := h
    obtain ⟨i, hi⟩ := List.mem_iff_getElem?.1 hd
    exact ⟨i, d, hi, e⟩
  · exact .inr h
/-- What holds when a set of the head's operations is done. -/
structure Mid (F : Fr) (st : St) (ds : List Done) (nx : Nat) (μ0 : Nat → Option Place) (S : Nat → Bool) (a : Act) (w : World) (μ : Nat → Option Place) (C : Facts) (h : List (Nat × Blk)) : Prop where
  sim : Sim F ⟨[], h, nx⟩ μ C a w
  old : ∀ l k, look st.h l = some k → look h l = some k
  done : ∀ (i : Nat) (d : Done), ds[i]? = some d → S i = true → RepV μ C d.2.1 (a.tmps.getD d.1 undef) ∧ ∀ m k, d.2.2 = some (m, k) → look h m = some k
  rest : ∀ t x, look st.env t = some x → (∀ (i : Nat) (d : Done), ds[i]? = some d → S i = true → d.1 ≠ t) → RepV μ C x (a.tmps.getD t undef)
  fresh : ∀ (i : Nat) (d : Done), ds[i]? = some d → S i = false → ∀ m k, d.2.2 = some (m, k) → μ m = none
variable {Q : Exit → St → Prop} {st : St} {P : Program}
theorem Sm.draw {id : Nat} {l : List Oper} (hF : Env F P G N) (hm : P.follows .mixedOrders = true) (hN : St.small N st) (n : Nat) (hB : headB l n = true) (hD : depB l n = true)
    (h : Head F G N l.toArray st.h (l.take n) st.env [] st.nx fun env al nx => SmL F l.toArray (l.drop n) Q ⟨env, al ++ st.h, nx⟩) : Sm F (.region id l.toArray true) Q st := by
  intro μ0 C0 a0 w0 hs0
  have hF' := hF
  obtain ⟨rfl, rfl, hG⟩ := hF
  have hh : Head F G F.N l.toArray st.h (l.take n) (envOf st.env []) (alOf []) st.nx fun env al nx => SmL F l.toArray (l.drop n) Q ⟨env, al ++ st.h, nx⟩ := by simpa [envOf, alOf] using h
  obtain ⟨ds, nx, hlen, hnx, hK, hall, huniq⟩ := head_done _ _ _ _ _ hh
  simp only [List.nil_append] at hK hall
  have hnl : n ≤ l.length := by
    have hB' := hB
    simp only [headB, Bool.and_eq_true] at hB'
    have := hB'.2
    split at this
    · omega
    · have := of_decide_eq_true this; omega
  have hdn : ds.length = n := by rw [hlen, List.length_take]; omega
  simp only [depB, Bool.and_eq_true] at hD
  obtain ⟨hD1, hD2⟩ := hD
  have hnodup := of_decide_eq_true hD1
  have hdd : ∀ (i j : Nat) (di dj : Done), ds[i]? = some di → ds[j]? = some dj → di.1 = dj.1 → i = j := by
    intro i j di dj hi hj e
    have hil : i < (l.take n).length := by rw [← hlen]; exact (List.getElem?_eq_some_iff.1 hi).1
    have hjl : j < (l.take n).length := by rw [← hlen]; exact (List.getElem?_eq_some_iff.1 hj).1
    have h1 := hall i _ di (List.getElem?_eq_getElem hil) hi
    have h2 := hall j _ dj (List.getElem?_eq_getElem hjl) hj
    exact nodup_dst (l.take n) hnodup i j _ _ di.1 (List.getElem?_eq_getElem hil) (List.getElem?_eq_getElem hjl) h1.1 (by rw [h2.1, e])
  refine wp_region_head n hm hB (fun S a w => ∃ μ C h, Mid F st ds nx μ0 S a w μ C h) ?_ ?_ ?_
  · refine ⟨μ0, C0, st.h, ?_, fun _ _ h => h, fun _ _ _ h => (by cases h), fun t x ht _ => hs0.env t x ht, fun i d hi _ m k hm => ?_⟩
    · exact hs0.drew.less (fun t x h => by simp [look] at h) (fun _ _ h => h) hnx
    · have hil : i < (l.take n).length := by rw [← hlen]; exact (List.getElem?_eq_some_iff.1 hi).1
      obtain ⟨_, _, h3⟩ := hall i _ d (List.getElem?_eq_getElem hil) hi
      rcases h3 with ⟨h3, _⟩ | ⟨m', k', _, b1, _, _, _, b5, _⟩
      · rw [h3] at hm; cases hm
      · rw [b1] at hm; cases hm; exact hs0.nx _ b5
  · intro i o S a w hin ho hSi hdep htail hcl hσ
    obtain ⟨μ, C, h, M⟩ := hσ
    have hil : i < ds.length := by omega
    obtain ⟨d, hd⟩ : ∃ d, ds[i]? = some d := ⟨ds[i], List.getElem?_eq_getElem hil⟩
    have hoT : (l.take n)[i]? = some o := by rw [List.getElem?_take_of_lt hin]; exact ho
    obtain ⟨hdst, hdN, hkind⟩ := hall i o d hoT hd
    have hz : (o, i) ∈ (l.take n).zipIdx := by rw [List.mem_zipIdx_iff_getElem?]; exact hoT
    have hlook := List.all_eq_true.1 hD2 (o, i) hz
    -- slots that the operation looks at
    have hslot : ∀ s ∈ o.looksAt l.toArray, ∀ v, look (envOf st.env (ds.take i)) s = some v → RepV μ C v (a.tmps.getD s undef) := by
      intro s hs v hv
      have h1 := List.all_eq_true.1 hlook s hs
      rcases look_envOf _ _ _ _ hv with ⟨j, dj, hj, rfl, rfl⟩ | ⟨hv, hno⟩
      · have hji : j < i := by have := (List.getElem?_eq_some_iff.1 hj).1; rw [List.length_take] at this; omega
        rw [List.getElem?_take_of_lt hji] at hj
        have hjl : j < (l.take n).length := by rw [List.length_take]; omega
        have hoj := hall j _ dj (List.getElem?_eq_getElem hjl) hj
        have hzj : ((l.take n)[j], j) ∈ (l.take n).zipIdx := by rw [List.mem_zipIdx_iff_getElem?]; exact List.getElem?_eq_getElem hjl
        have h2 := List.all_eq_true.1 h1 _ hzj
        simp only [hoj.1, bne_self_eq_false, Bool.false_or, Bool.and_eq_true, hji, decide_true, Bool.not_true] at h2
        obtain ⟨e, he, hb⟩ := Array.any_eq_true'.1 h2.1
        simp only [Bool.and_eq_true, beq_iff_eq] at hb
        have hSj := hdep e he hb.1
        rw [hb.2] at hSj
        exact (M.done j dj hj hSj).1
      · refine M.rest s v hv fun j dj hj hSj e => ?_
        have hjl : j < (l.take n).length := by rw [← hlen]; exact (List.getElem?_eq_some_iff.1 hj).1
        have hjn : j < n := by rw [List.length_take] at hjl; omega
        have hoj := hall j _ dj (List.getElem?_eq_getElem hjl) hj
        have hzj : ((l.take n)[j], j) ∈ (l.take n).zipIdx := by rw [List.mem_zipIdx_iff_getElem?]; exact List.getElem?_eq_getElem hjl
        have h2 := List.all_eq_true.1 h1 _ hzj
        rcases Nat.lt_trichotomy j i with hlt | heq | hgt
        · exact hno j dj (by rw [List.getElem?_take_of_lt hlt]; exact hj) e
        · subst heq; rw [hSi] at hSj; cases hSj
        · simp only [hoj.1, e, bne_self_eq_false, Bool.false_or, Bool.and_eq_true, hgt, decide_true, Bool.not_true] at h2
          obtain ⟨e', he', hb⟩ := Array.any_eq_true'.1 h2.2
          simp only [Bool.and_eq_true, beq_iff_eq] at hb
          have hlj : l[j]? = some (l.take n)[j] := by
            rw [← List.getElem?_eq_getElem hjl, List.getElem?_take_of_lt hjn]
          have := hcl j _ hlj hSj e' he' hb.1
          rw [hb.2, hSi] at this; cases this
    have hop : ∀ y ∈ o.op.operands, ∀ v, evD G (envOf st.env (ds.take i)) y = some v → RepV μ C v (a.eval y) := by
      intro y hy v hv
      cases y with
      | tmp s => exact hslot s (List.mem_append_left _ (List.mem_filterMap.2 ⟨.tmp s, by simpa using hy, rfl⟩)) v hv
      | const c => exact evD_ok M.sim hG (by unfold evD at hv ⊢; exact hv)
      | global g => exact evD_ok M.sim hG (by unfold evD at hv ⊢; exact hv)
      | func f => exact evD_ok M.sim hG (by unfold evD at hv ⊢; exact hv)
    have hguard : ∀ b, guardS l.toArray (envOf st.env (ds.take i)) o.guard = some b → Region.wanted o (yielded l.toArray a.tmps) = b := by
      intro b hb
      unfold Region.wanted
      cases hg : o.guard with
      | none => rw [hg] at hb; cases hb; rfl
      | some e =>
        obtain ⟨j, want⟩ := e
        rw [hg] at hb
        simp only [guardS] at hb
        unfold yielded
        have hin2 : ∀ s, (l.toArray[j]?).bind (·.dst) = some s → s ∈ o.looksAt l.toArray := by
          intro s hs
          refine List.mem_append_right _ ?_
          simp only [hg, Option.mem_toList]
          exact hs
        have hsmall : ∀ s v, look (envOf st.env (ds.take i)) s = some v → s < F.N := by
          intro s v hv
          rcases look_envOf _ _ _ _ hv with ⟨j', dj, hj', rfl, rfl⟩ | ⟨hv, _⟩
          · have hji : j' < i := by have := (List.getElem?_eq_some_iff.1 hj').1; rw [List.length_take] at this; omega
            rw [List.getElem?_take_of_lt hji] at hj'
            have hjl : j' < (l.take n).length := by rw [List.length_take]; omega
            exact (hall j' _ dj (List.getElem?_eq_getElem hjl) hj').2.1
          · exact hN s v hv
        have hval : ∀ s v, (l.toArray[j]?).bind (·.dst) = some s → look (envOf st.env (ds.take i)) s = some (.d (.v v)) → a.tmps[s]? = some v := by
          intro s v hs hv
          have hr := Rep.v_eq (hslot s (hin2 s hs) _ hv)
          have htl := hsmall s _ hv
          rw [Array.getD_eq_getD_getElem?] at hr
          rw [Array.getElem?_eq_getElem (by rw [M.sim.size]; exact htl)] at hr ⊢
          simpa using hr
        split at hb
        · rename_i v hv
          cases hb
          obtain ⟨s, hs, hl⟩ := Option.bind_eq_some_iff.1 hv
          simp only [hs, Option.bind_some, hval s _ hs hl]
          rfl
        · rename_i v hne hv
          cases hb
          obtain ⟨s, hs, hl⟩ := Option.bind_eq_some_iff.1 hv
          simp only [hs, Option.bind_some, hval s _ hs hl]
          cases v <;> first | rfl | exact (hne _ rfl).elim
        · cases hb
    have hbound : d.1 < a.tmps.size := by rw [M.sim.size]; exact hdN
    have hSi' : ∀ j, (if j = i then true else S j) = true ↔ j = i ∨ S j = true := by
      intro j; by_cases e : j = i <;> simp [e]
    -- after a value
    have next : ∀ (u : Value) (w' : World) (C' : Facts), d.2.2 = none → More w C w' C' → RepV μ C' d.2.1 u → Mid F st ds nx μ0 (fun j => if j = i then true else S j) (a.put (some d.1) u) w' μ C' h := by
      intro u w' C' hnone hmore hu
      have hsim := (M.sim.more hmore).put hdN hu
      refine ⟨hsim.less (fun t x ht => by simp [look] at ht) (fun _ _ h => h) (Nat.le_refl _), M.old, ?_, ?_, ?_⟩
      · intro j dj hj hSj
        rw [getD_put a d.1 dj.1 u hbound]
        by_cases e : j = i
        · subst e
          rw [hd] at hj; cases hj
          rw [if_pos rfl]
          exact ⟨hu, fun m k hm => by rw [hnone] at hm; cases hm⟩
        · have hSj' : S j = true := by simpa [e] using hSj
          rw [if_neg (fun e2 => e (hdd j i dj d hj hd e2))]
          exact ⟨((M.done j dj hj hSj').1).mono (fun _ _ h => h) hmore.sub, (M.done j dj hj hSj').2⟩
      · intro t x ht hno
        rw [getD_put a d.1 t u hbound, if_neg (fun e => hno i d hd (by simp) e.symm)]
        exact (M.rest t x ht (fun j dj hj hSj => hno j dj hj (by simp [hSj]))).mono (fun _ _ h => h) hmore.sub
      · intro j dj hj hSj m k hm
        have e : j ≠ i := fun e => by subst e; simp at hSj
        exact M.fresh j dj hj (by simpa [e] using hSj) m k hm
    rw [hdst]
    rcases hkind with ⟨hnone, hk⟩ | ⟨m, k, res, hmk, href, hg, hmake, hm1, hm2⟩
    · rcases hk with ⟨hg, hgive⟩ | ⟨hg, hund⟩
      · rw [hguard _ hg, if_pos rfl]
        refine hgive μ C a w nx h M.sim M.old hop _ _ fun u w' C' hmore hu => ?_
        rw [hdst]
        exact ⟨μ, C', h, next u w' C' hnone hmore hu⟩
      · rw [hguard _ hg, if_neg (by simp)]
        exact ⟨μ, C, h, next undef w C hnone (More.refl M.sim.known) (by rw [hund]; exact .v _)⟩
    · rw [hguard _ hg, if_pos rfl]
      have hfr := M.fresh i d hd hSi m k hmk
      refine hmake μ C a w nx h M.sim hop m hm2 hfr _ _ fun u w' μ' C' hs' hC hμ1 hμ2 hu => ?_
      rw [hdst]
      have hh0 : ∀ l k', look h l = some k' → l ≠ m := fun l k' hl e => by
        obtain ⟨p, hp, _⟩ := M.sim.heap l k' hl
        rw [e] at hp
        have : μ m = some p := hp
        rw [hfr] at this; cases this
      refine ⟨μ', C', (m, k) :: h, (hs'.put hdN hu).less (fun t x ht => by simp [look] at ht) (fun _ _ h => h) (Nat.le_refl _), ?_, ?_, ?_, ?_⟩
      · intro l' k' hl'
        have := M.old l' k' hl'
        simp only [look]
        rw [if_neg (Ne.symm (hh0 l' k' this))]; exact this
      · intro j dj hj hSj
        rw [getD_put a d.1 dj.1 u hbound]
        by_cases e : j = i
        · subst e
          rw [hd] at hj; cases hj
          rw [if_pos rfl, href]
          refine ⟨hu, fun m' k' hm' => ?_⟩
          rw [hmk] at hm'; cases hm'
          simp [look]
        · have hSj' : S j = true := by simpa [e] using hSj
          rw [if_neg (fun e2 => e (hdd j i dj d hj hd e2))]
          refine ⟨((M.done j dj hj hSj').1).mono hμ1 hC, fun m' k' hm' => ?_⟩
          have := (M.done j dj hj hSj').2 m' k' hm'
          simp only [look]
          rw [if_neg (Ne.symm (hh0 m' k' this))]; exact this
      · intro t x ht hno
        rw [getD_put a d.1 t u hbound, if_neg (fun e => hno i d hd (by simp) e.symm)]
        exact (M.rest t x ht (fun j dj hj hSj => hno j dj hj (by simp [hSj]))).mono hμ1 hC
      · intro j dj hj hSj m' k' hm'
        have e : j ≠ i := fun e => by subst e; simp at hSj
        have h1 := M.fresh j dj hj (by simpa [e] using hSj) m' k' hm'
        have hne : m' ≠ m := fun em => by subst em; exact e (huniq j i dj d m' k' k hj hd hm' hmk)
        rw [hμ2 m' hne]; exact h1
  · intro S a w hS1 hS2 hσ
    obtain ⟨μ, C, h, M⟩ := hσ
    have hfin : Sim F ⟨envOf st.env ds, alOf ds ++ st.h, nx⟩ μ C a w := by
      have h1 : Sim F ⟨envOf st.env ds, h, nx⟩ μ C a w := by
        refine ⟨M.sim.size, M.sim.defers, M.sim.below, M.sim.sub, M.sim.new, M.sim.known, fun t x ht => ?_, M.sim.heap, M.sim.inj, M.sim.nx⟩
        rcases look_envOf _ _ _ _ ht with ⟨i, d, hi, rfl, rfl⟩ | ⟨hv, hno⟩
        · exact (M.done i d hi (hS1 i (by rw [← hdn]; exact (List.getElem?_eq_some_iff.1 hi).1))).1
        · exact M.rest t x hv (fun i d hi _ => hno i d hi)
      refine h1.less (fun _ _ h => h) (fun l' k' hl' => ?_) (Nat.le_refl _)
      rcases look_alOf _ _ _ _ hl' with ⟨i, d, hi, hd⟩ | hl'
      · exact (M.done i d hi (hS1 i (by rw [← hdn]; exact (List.getElem?_eq_some_iff.1 hi).1))).2 _ _ hd
      · exact M.old l' k' hl'
    exact hK μ C a w hfin
end
end Go.Proofs.YtmindblfbijaaaaDoor
namespace Go.Proofs.YtmindblfbijaaaaDoor
open Go.RowKit
theorem evParts_congr {ev ev' : Operand → Option V} : ∀ {ps : List (Nat × Operand)}, (∀ e ∈ ps, ev e.2 = ev' e.2) → evParts ev ps = evParts ev' ps := by
  intro ps
  induction ps with
  | nil => intro _; rfl
  | cons e ps ih =>
    intro h
    obtain ⟨i, x⟩ := e
    simp only [evParts]
    rw [h (i, x) (by simp), ih (fun e he => h e (by simp [he]))]
theorem evArgs_congr {ev ev' : Operand → Option V} : ∀ {xs : List Operand}, (∀ x ∈ xs, ev x = ev' x) → evArgs ev xs = evArgs ev' xs := by
  intro xs
  induction xs with
  | nil => intro _; rfl
  | cons x xs ih =>
    intro h
    simp only [evArgs]
    rw [h x (by simp), ih (fun e he => h e (by simp [he]))]
theorem evO_congr {ev ev' : Operand → Option V} {x : Option Operand} (h : ∀ y, x = some y → ev y = ev' y) : evO ev x = evO ev' x := by
  cases x with
  | none => rfl
  | some x => simp only [evO, h x rfl]
theorem opV_congr {P : Program} {ev ev' : Operand → Option V} {h : List (Nat × Blk)} {o : Oper} (hx : ∀ x ∈ o.op.operands, ev x = ev' x) : opV P ev h o = opV P ev' h o := by
  unfold opV
  cases ho : o.op with
  | move x => simp only [ho, Op.operands] at hx ⊢; exact hx x (by simp)
  | assign x => simp only [ho, Op.operands] at hx ⊢; exact hx x (by simp)
  | pick c x y =>
    simp only [ho, Op.operands] at hx ⊢
    rw [hx c (by simp), hx x (by simp), hx y (by simp)]
  | load t x => simp only [ho, Op.operands] at hx ⊢; rw [hx x (by simp)]
  | nilCheck x => simp only [ho, Op.operands] at hx ⊢; rw [hx x (by simp)]
  | binOp op t x y yt => simp only [ho, Op.operands] at hx ⊢; rw [hx x (by simp), hx y (by simp)]
  | unOp op t x => simp only [ho, Op.operands] at hx ⊢; rw [hx x (by simp)]
  | convert s d x => simp only [ho, Op.operands] at hx ⊢; rw [hx x (by simp)]
  | slice t x lo hi mx =>
    simp only [ho, Op.operands] at hx ⊢
    rw [hx x (by simp), evO_congr (x := lo) (fun y e => hx y (by simp [e])), evO_congr (x := hi) (fun y e => hx y (by simp [e])), evO_congr (x := mx) (fun y e => hx y (by simp [e]))]
  | fieldAddr t x f => simp only [ho, Op.operands] at hx ⊢; rw [hx x (by simp)]
  | field t x f => simp only [ho, Op.operands] at hx ⊢; rw [hx x (by simp)]
  | indexAddr t x i => simp only [ho, Op.operands] at hx ⊢; rw [hx x (by simp), hx i (by simp)]
  | index t x i => simp only [ho, Op.operands] at hx ⊢; rw [hx x (by simp), hx i (by simp)]
  | extract x i => simp only [ho, Op.operands] at hx ⊢; rw [hx x (by simp)]
  | build t ps =>
    simp only [ho, Op.operands] at hx ⊢
    rw [evParts_congr (fun e he => hx e.2 (by simp; exact ⟨e.1, by simpa using he⟩))]
  | buildSlice t n ps =>
    simp only [ho, Op.operands] at hx ⊢
    rw [evParts_congr (fun e he => hx e.2 (by simp; exact ⟨e.1, by simpa using he⟩))]
  | call c =>
    simp only [ho, Op.operands, Call.operands] at hx ⊢
    unfold lenOp
    simp only [ho]
    cases hc : c.callee with
    | builtin b =>
      simp only [hc] at hx ⊢
      have hx' : ∀ x ∈ c.args.toList, ev x = ev' x := fun x h => hx x (by simpa using h)
      split
      · rename_i x hl; rw [hx' x (by rw [hl]; simp)]
      · rename_i x y hl; rw [hx' x (by rw [hl]; simp), hx' y (by rw [hl]; simp)]
      · rename_i x y hl; rw [hx' x (by rw [hl]; simp), hx' y (by rw [hl]; simp)]
      · rfl
    | _ => rfl
  | _ => simp only [lenOp, ho]
section
variable {P : Program} {G : Nat → Option D} {N : Nat} {F : Fr} {ops : Array Oper} {h0 al : List (Nat × Blk)} {rest : List Oper} {o : Oper} {env : List (Nat × V)} {nx : Nat} {K : List (Nat × V) → List (Nat × Blk) → Nat → Prop}
open Classical in
theorem OpGives.val (hF : Env F P G N) {x : V} (h : opV P (evD G env) h0 o = some x) : OpGives F G h0 o env x := by
  intro μ C a w nx' hh hs hold hop K Q hK
  obtain ⟨rfl, rfl, hG⟩ := hF
  have hs' : Sim F ⟨[], h0, nx'⟩ μ C a w := hs.less (fun _ _ h => h) hold (Nat.le_refl _)
  have hc : opV F.P (fun y => if y ∈ o.op.operands then evD G env y else none) h0 o = some x := by
    rw [← h]; exact opV_congr fun y hy => if_pos hy
  obtain ⟨u, w', C', h1, h2, h3⟩ := opV_ok hs' (ev := fun y => if y ∈ o.op.operands then evD G env y else none) (fun y v hv => by
    split at hv
    · rename_i hy; exact hop y hy v hv
    · cases hv) hc
  unfold Oper.wp
  rw [h1, Oper.upon_value]
  exact hK u w' C' h2 h3
theorem OpGives.call (hF : Env F P G N) {f : FuncId} {xs : Array Operand} {ts : Array TypeId} {ds : List D} {r : D} (ho : o.op = .call ⟨.value (.func f), xs, ts⟩)
    (hcall : ∀ args w, (callFunc f args).run P w = .ok (.enter f args) w) (hargs : evArgs (evD G env) xs.toList = some ds) (hc : CallsD P G f ds r) : OpGives F G h0 o env (.d r) := by
  intro μ C a w nx' hh hs hold hop K Q hK
  obtain ⟨rfl, rfl, hG⟩ := hF
  have hxs : ∀ y ∈ xs.toList, ∀ v, evD G env y = some v → RepV μ C v (a.eval y) := fun y hy v hv => hop y (by rw [ho]; simp [Op.operands, Call.operands]; exact .inr (by simpa using hy)) v hv
  have hrep : ∀ {ys : List Operand} {es : List D}, (∀ y ∈ ys, ∀ v, evD G env y = some v → RepV μ C v (a.eval y)) → evArgs (evD G env) ys = some es → Rp C (.outs es (ys.map a.eval)) := by
    intro ys
    induction ys with
    | nil => intro es _ h; cases h; exact .onil
    | cons y ys ih =>
      intro es hy h
      simp only [evArgs, Option.bind_eq_some_iff] at h
      obtain ⟨v, hv, h⟩ := h
      split at h
      · rename_i d
        simp only [Option.map_eq_some_iff] at h
        obtain ⟨r, hr, rfl⟩ := h
        exact .ocons _ _ _ _ (hy y (by simp) _ hv) (ih (fun z hz => hy z (by simp [hz])) hr)
      · cases h
  refine wp_call f hcall xs ts ho (xs.toList.map a.eval) rfl ?_
  refine (hc C w _ (hG.mono hs.sub) hs.known (hrep hxs hargs)).mono ?_
  rintro e w' ⟨v, C', rfl, hm, hr⟩
  exact ⟨v, rfl, hK v w' C' hm hr⟩
/-- A value, reckoned. -/
theorem Head.val (hF : Env F P G N) {t : Tmp} {x : V} (hd : o.dst = some t) (ht : t < N) (hg : guardS ops env o.guard = some true) (h : opV P (evD G env) h0 o = some x) (k : Head F G N ops h0 rest ((t, x) :: env) al nx K) : Head F G N ops h0 (o :: rest) env al nx K :=
  ⟨t, hd, ht, .inl ⟨x, .inl ⟨hg, .val hF h⟩, k⟩⟩
/-- A guarded operation that is passed over. -/
theorem Head.pass {t : Tmp} (hd : o.dst = some t) (ht : t < N) (hg : guardS ops env o.guard = some false) (k : Head F G N ops h0 rest ((t, .d (.v undef)) :: env) al nx K) : Head F G N ops h0 (o :: rest) env al nx K :=
  ⟨t, hd, ht, .inl ⟨_, .inr ⟨hg, rfl⟩, k⟩⟩
theorem Head.call (hF : Env F P G N) {t : Tmp} {f : FuncId} {xs : Array Operand} {ts : Array TypeId} {ds : List D} {r : D} (hd : o.dst = some t) (ht : t < N) (hg : guardS ops env o.guard = some true) (ho : o.op = .call ⟨.value (.func f), xs, ts⟩)
    (hcall : ∀ args w, (callFunc f args).run P w = .ok (.enter f args) w) (hargs : evArgs (evD G env) xs.toList = some ds) (hc : CallsD P G f ds r) (k : Head F G N ops h0 rest ((t, .d r) :: env) al nx K) : Head F G N ops h0 (o :: rest) env al nx K :=
  ⟨t, hd, ht, .inl ⟨_, .inl ⟨hg, .call hF ho hcall hargs hc⟩, k⟩⟩
theorem Head.nil (k : K env al nx) : Head F G N ops h0 [] env al nx K := k
/-- A new block under a name that is free. -/
theorem Sim.allocAt {μ : Nat → Option Place} {C : Facts} {a : Act} {w : World} {st : St} (h : Sim F st μ C a w) (m : Nat) (hm : m < st.nx) (hfree : μ m = none) (sz : Nat) (row : List V) (cur : Array Value) (T : TypeId) (hrow : row.length = sz) (hsz : cur.size = sz) (hr : RowsV μ C sz [row] cur.toList) :
    Sim F { st with h := (m, ⟨sz, [row]⟩) :: st.h } (fun l => if l = m then some ⟨w.heap.size, 1, sz⟩ else μ l) C a (w.alloc (.cells cur T)) := by
  have hμ : ∀ l p, μ l = some p → (fun l => if l = m then some (⟨w.heap.size, 1, sz⟩ : Place) else μ l) l = some p := by
    intro l p hp
    have : l ≠ m := fun e => by rw [e, hfree] at hp; cases hp
    simp [this, hp]
  have h1 := h.more (.of_below h.known ((Below.refl _ w).alloc (Nat.le_refl _) (.cells cur T)))
  refine ⟨h1.size, h1.defers, h1.below, h1.sub, h1.new, h1.known, fun t x hx => (h1.env t x hx).mono hμ (fun _ _ _ h => h), ?_, ?_, ?_⟩
  · intro l k hk
    simp only [look] at hk
    by_cases hl : m = l
    · subst hl
      rw [if_pos rfl] at hk
      cases hk
      refine ⟨⟨w.heap.size, 1, sz⟩, by simp, rfl, by simp, by simp, by simp [hrow], fun _ => ⟨h.below.size, fun o u hc => ?_, cur, T, heap_alloc_new w _, by simpa using hsz, hr.mono hμ (fun _ _ _ h => h)⟩⟩
      exact absurd (h.known.lt hc) (Nat.lt_irrefl _)
    · rw [if_neg hl] at hk
      obtain ⟨p, hp, hb⟩ := h1.heap l k hk
      refine ⟨p, hμ l p hp, hb.sz, hb.len, hb.max, hb.row, fun hc => ?_⟩
      obtain ⟨a1, a2, cur', T', a3, a4, a5⟩ := hb.cells hc
      exact ⟨a1, a2, cur', T', a3, a4, a5.mono hμ (fun _ _ _ h => h)⟩
  · intro l l' p p' hl hl' hp hp' hc hc' hb
    simp only [look] at hl hl'
    have hlt : ∀ l p, (look st.h l).isSome = true → μ l = some p → 0 < p.cap → p.b < w.heap.size := by
      intro l p hl hp hc
      obtain ⟨k, hk⟩ := Option.isSome_iff_exists.1 hl
      obtain ⟨p2, hp2, hb2⟩ := h.heap l k hk
      rw [hp] at hp2; cases hp2
      exact hb2.lt hc
    by_cases e : l = m <;> by_cases e' : l' = m
    · rw [e, e']
    · rw [if_neg (Ne.symm e')] at hl'
      simp only [if_pos e, if_neg e'] at hp hp'
      cases hp
      have := hlt l' p' hl' hp' hc'
      simp at hb; omega
    · rw [if_neg (Ne.symm e)] at hl
      simp only [if_neg e, if_pos e'] at hp hp'
      cases hp'
      have := hlt l p hl hp hc
      simp at hb; omega
    · rw [if_neg (Ne.symm e)] at hl
      rw [if_neg (Ne.symm e')] at hl'
      simp only [if_neg e, if_neg e'] at hp hp'
      exact h.inj l l' p p' hl hl' hp hp' hc hc' hb
  · intro l hl
    have : l ≠ m := by have : st.nx ≤ l := hl; omega
    simp only [if_neg this]
    exact h.nx l hl
/-- A new variable. -/
theorem Head.alloc (hF : Env F P G N) {t : Tmp} {ty : TypeId} {sz : Nat} {row : List V} {T : TypeId} (hd : o.dst = some t) (ht : t < N) (hg : guardS ops env o.guard = some true) (ho : o.op = .alloc ty) (h : allocS P ty = some (.new sz row T))
    (k : Head F G N ops h0 rest ((t, .ref nx 0 0) :: env) ((nx, ⟨sz, [row]⟩) :: al) (nx + 1) K) : Head F G N ops h0 (o :: rest) env al nx K := by
  refine ⟨t, hd, ht, .inr ⟨⟨sz, [row]⟩, fun m => .ref m 0 0, hg, ?_, k⟩⟩
  intro μ C a w nx' hh hs hop m hm hfree K Q hK
  obtain ⟨rfl, rfl, hG⟩ := hF
  simp only [allocS, zeroT, Option.bind_eq_some_iff] at h
  obtain ⟨z, ⟨i, hi, hz⟩, h⟩ := h
  split at h
  · rename_i hall
    cases h
    have hsim := hs.allocAt m hm hfree z.cells.size (z.cells.toList.map fun v => .d (constD v)) z.cells ty (by simp) rfl (by
      intro i r hr j y hy
      cases i with
      | zero =>
        simp at hr; subst hr
        rw [List.getElem?_map] at hy
        cases hj : z.cells.toList[j]? with
        | none => rw [hj] at hy; cases hy
        | some v =>
          rw [hj] at hy; cases hy
          exact ⟨v, by simpa using hj, List.all_eq_true.1 hall v (List.mem_of_getElem? hj), constD_ok v⟩
      | succ i => simp at hr)
    unfold Oper.wp
    have : (execOp a.eval o).run F.P w = .ok (.value (.pointer (some ⟨w.heap.size, 0, none⟩))) (w.alloc (.cells z.cells ty)) := by
      simp only [execOp, ho]
      simp [Instr.alloc, Sem.run_bind, zeroValue, typeInfo, hi, hz, newVar, newRow, newObj, Result.andThen]
      rfl
    rw [this, Oper.upon_value]
    refine hK _ _ _ C hsim (fun _ _ _ h => h) (fun l p hp => ?_) (fun l hl => by simp [hl]) ⟨⟨w.heap.size, 1, z.cells.size⟩, by simp, by simp, by simp⟩
    have : l ≠ m := fun e => by rw [e, hfree] at hp; cases hp
    simp [this, hp]
  · cases h
end
end Go.Proofs.YtmindblfbijaaaaDoor
namespace Go.Proofs.YtmindblfbijaaaaDoor
open Go.RowKit
section
variable {F : Fr} {Q : Exit → St → Prop} {st : St} {ops : Array Oper} {c x y : Code}
theorem Sm.seqK (h : ∀ K : St → Prop, (∀ st, Sm F y Q st → K st) → Sm F x (nextS K Q) st) : Sm F (.seq x y) Q st := Sm.seq (h _ fun _ h => h)
theorem Sm.regionN {id : Nat} {l : List Oper} {K : St → Prop} (h : SmL F l.toArray l (nextS K Q) st) : Sm F (.region id l.toArray false) (nextS K Q) st := Sm.region h
theorem nextS_normal {K : St → Prop} (h : K st) : nextS K Q .normal st := h
end
section
variable {P : Program} {G : Nat → Option D} {N : Nat} {F : Fr} {ops : Array Oper} {rest : List Oper} {o : Oper} {Q : Exit → St → Prop} {st : St}
theorem mem_of_look {α : Type} : ∀ {l : List (Nat × α)} {j : Nat} {x : α}, look l j = some x → (j, x) ∈ l := by
  intro l
  induction l with
  | nil => intro j x h; simp [look] at h
  | cons e r ih =>
    obtain ⟨k, y⟩ := e
    intro j x h
    simp only [look] at h
    split at h
    · rename_i hk; cases h; subst hk; simp
    · exact List.mem_cons_of_mem _ (ih h)
def smallB (N : Nat) : List (Nat × V) → Bool
  | [] => true
  | (t, _) :: r => decide (t < N) && smallB N r
theorem small_of (h : smallB N st.env = true) : St.small N st := by
  intro t x hx
  have hm := mem_of_look hx
  generalize st.env = l at h hm
  induction l with
  | nil => cases hm
  | cons e r ih =>
    obtain ⟨k, y⟩ := e
    simp only [smallB, Bool.and_eq_true, decide_eq_true_eq] at h
    rcases List.mem_cons.1 hm with e | hm
    · cases e; exact h.1
    · exact ih h.2 hm
/-- The slots alone are what a guard looks at: that they are small is known where they are put. -/
structure Good (N : Nat) (st : St) : Prop where
  small : St.small N st
theorem Good.put {t : Nat} {x : V} (h : Good N st) (ht : t < N) : Good N { st with env := (t, x) :: st.env } := ⟨by
  intro s y hy
  simp only [look] at hy
  split at hy
  · rename_i e; subst e; exact ht
  · exact h.small s y hy⟩
end
/-- As many steps as are reckoned. -/
def goS (P : Program) (G : Nat → Option D) (N : Nat) (ops : Array Oper) : List Oper → St → List Oper × St
  | [], st => ([], st)
  | o :: l, st => (stepS P G N ops o st).elim (o :: l, st) (goS P G N ops l)
/-- So many steps at once. -/
def runS (P : Program) (G : Nat → Option D) (N : Nat) (ops : Array Oper) : Nat → List Oper → St → Option (List Oper × St)
  | 0, l, st => some (l, st)
  | n + 1, o :: l, st => (stepS P G N ops o st).bind (runS P G N ops n l)
  | _ + 1, [], _ => none
section
variable {P : Program} {G : Nat → Option D} {N : Nat} {F : Fr} {ops : Array Oper} {rest : List Oper} {o : Oper} {Q : Exit → St → Prop} {st : St}
theorem stepS_small {st' : St} (hs : St.small N st) (h : stepS P G N ops o st = some st') : St.small N st' := by
  have put : ∀ (st : St) (t : Nat) (x : V) (h' : List (Nat × Blk)) (nx : Nat), St.small N st → t < N → St.small N ⟨(t, x) :: st.env, h', nx⟩ := by
    intro st t x h' nx hs ht s y hy
    simp only [look] at hy
    split at hy
    · rename_i e; subst e; exact ht
    · exact hs s y hy
  unfold stepS at h
  split at h
  · simp only [Option.bind_eq_some_iff] at h
    obtain ⟨out, _, h⟩ := h
    unfold applyOut at h
    split at h
    · split at h
      · rename_i ht; cases h; exact put _ _ _ _ _ hs ht
      · cases h
    · split at h
      · rename_i ht; cases h; exact put _ _ _ _ _ hs ht
      · cases h
    · cases h; exact hs
    · cases h
  · split at h
    · split at h
      · rename_i ht; cases h; exact put _ _ _ _ _ hs ht
      · cases h
    · cases h; exact hs
  · cases h
theorem SmL.run (hF : Env F P G N) (n : Nat) : ∀ {l : List Oper} {st : St} (_ : St.small N st) {st' : St} {rest : List Oper} (_ : runS P G N ops n l st = some (rest, st')) (_ : St.small N st' → SmL F ops rest Q st'), SmL F ops l Q st := by
  induction n with
  | zero => intro l st hs st' rest h k; cases h; exact k hs
  | succ n ih =>
    intro l st hs st' rest h k
    cases l with
    | nil => cases h
    | cons o l =>
      simp only [runS, Option.bind_eq_some_iff] at h
      obtain ⟨st1, h1, h2⟩ := h
      exact SmL.step hF hs h1 (ih (stepS_small hs h1) h2 k)
theorem SmL.go (hF : Env F P G N) : ∀ {l : List Oper} {st : St} (_ : St.small N st) {st' : St} {rest : List Oper} (_ : goS P G N ops l st = (rest, st')) (_ : SmL F ops rest Q st'), SmL F ops l Q st := by
  intro l
  induction l with
  | nil => intro st hs st' rest h k; cases h; exact k
  | cons o l ih =>
    intro st hs st' rest h k
    simp only [goS] at h
    cases hst : stepS P G N ops o st with
    | none => rw [hst] at h; cases h; exact k
    | some st1 =>
      rw [hst] at h
      exact SmL.step hF hs hst (ih (stepS_small hs hst) h k)
theorem SmL.goR (hF : Env F P G N) (hs : St.small N st) {l : List Oper} (h : ∀ rest st', goS P G N ops l st = (rest, st') → SmL F ops rest Q st') : SmL F ops l Q st :=
  SmL.go hF hs rfl (h _ _ rfl)
theorem Sm.condR {G : Nat → Option D} {c : Operand} {x y : Code} (hF : Env F P G N) (t : Bool) (hc : evD G st.env c = some (.d (.v (.bool t)))) (ht : t = true → Sm F x Q st) (hf : t = false → Sm F y Q st) : Sm F (.cond c x y) Q st := Sm.cond hF.glob hc ht hf
end
theorem wrapI64 (n : Int) (h : -9223372036854775808 ≤ n ∧ n ≤ 9223372036854775807) : IntKind.i64.wrap n = n := IntWalk.i64_in n h
section
variable (P : Program) (t : TypeId) (x y : Operand) (k : IntKind) (a b : Int)
theorem rb_add : reck P (do eqGuard .add t x y (.int k a) (.int k b); binOp .add t (.int k a) (.int k b)) = some (.int k (k.wrap (a + b))) := by
  simp [eqGuard, binOp, Op.intArith, reck_bind, reck_pure]
theorem rb_sub : reck P (do eqGuard .sub t x y (.int k a) (.int k b); binOp .sub t (.int k a) (.int k b)) = some (.int k (k.wrap (a - b))) := by
  simp [eqGuard, binOp, Op.intArith, reck_bind, reck_pure]
theorem rb_mul : reck P (do eqGuard .mul t x y (.int k a) (.int k b); binOp .mul t (.int k a) (.int k b)) = some (.int k (k.wrap (a * b))) := by
  simp [eqGuard, binOp, Op.intArith, reck_bind, reck_pure]
theorem rb_quo (h : b ≠ 0) : reck P (do eqGuard .quo t x y (.int k a) (.int k b); binOp .quo t (.int k a) (.int k b)) = some (.int k (k.wrap (a.tdiv b))) := by
  simp [eqGuard, binOp, Op.intDiv, reck_bind, reck_pure, h]
theorem rb_rem (h : b ≠ 0) : reck P (do eqGuard .rem t x y (.int k a) (.int k b); binOp .rem t (.int k a) (.int k b)) = some (.int k (a.tmod b)) := by
  simp [eqGuard, binOp, Op.intDiv, reck_bind, reck_pure, h]
theorem rb_lss : reck P (do eqGuard .lss t x y (.int k a) (.int k b); binOp .lss t (.int k a) (.int k b)) = some (.bool (decide (a < b))) := by
  simp [eqGuard, binOp, Op.intCmp, reck_bind, reck_pure]
theorem rb_leq : reck P (do eqGuard .leq t x y (.int k a) (.int k b); binOp .leq t (.int k a) (.int k b)) = some (.bool (decide (a ≤ b))) := by
  simp [eqGuard, binOp, Op.intCmp, reck_bind, reck_pure]
theorem rb_gtr : reck P (do eqGuard .gtr t x y (.int k a) (.int k b); binOp .gtr t (.int k a) (.int k b)) = some (.bool (decide (b < a))) := by
  simp [eqGuard, binOp, Op.intCmp, reck_bind, reck_pure]
theorem rb_geq : reck P (do eqGuard .geq t x y (.int k a) (.int k b); binOp .geq t (.int k a) (.int k b)) = some (.bool (decide (b ≤ a))) := by
  simp [eqGuard, binOp, Op.intCmp, reck_bind, reck_pure]
theorem rb_eql : reck P (do eqGuard .eql t x y (.int k a) (.int k b); binOp .eql t (.int k a) (.int k b)) = some (.bool (a == b)) := by
  simp [eqGuard, binOp, Op.intCmp, reck_bind, reck_pure]
theorem rb_neq : reck P (do eqGuard .neq t x y (.int k a) (.int k b); binOp .neq t (.int k a) (.int k b)) = some (.bool (a != b)) := by
  simp [eqGuard, binOp, Op.intCmp, reck_bind, reck_pure]
theorem rb_and : reck P (do eqGuard .and t x y (.int k a) (.int k b); binOp .and t (.int k a) (.int k b)) = some (.int k (k.wrap (BitVec.ofInt k.bits a &&& BitVec.ofInt k.bits b).toNat)) := by
  simp [eqGuard, binOp, Op.intBits, reck_bind, reck_pure]
theorem rb_or : reck P (do eqGuard .or t x y (.int k a) (.int k b); binOp .or t (.int k a) (.int k b)) = some (.int k (k.wrap (BitVec.ofInt k.bits a ||| BitVec.ofInt k.bits b).toNat)) := by
  simp [eqGuard, binOp, Op.intBits, reck_bind, reck_pure]
theorem rb_xor : reck P (do eqGuard .xor t x y (.int k a) (.int k b); binOp .xor t (.int k a) (.int k b)) = some (.int k (k.wrap (BitVec.ofInt k.bits a ^^^ BitVec.ofInt k.bits b).toNat)) := by
  simp [eqGuard, binOp, Op.intBits, reck_bind, reck_pure]
theorem rb_shl (k2 : IntKind) (h : ¬ b < 0) : reck P (do eqGuard .shl t x y (.int k a) (.int k2 b); binOp .shl t (.int k a) (.int k2 b)) = some (.int k (k.wrap (a * 2 ^ (min b.toNat k.bits)))) := by
  simp [eqGuard, binOp, Op.shift, reck_bind, reck_pure, h]
theorem rb_shr (k2 : IntKind) (h : ¬ b < 0) : reck P (do eqGuard .shr t x y (.int k a) (.int k2 b); binOp .shr t (.int k a) (.int k2 b)) = some (.int k (a.fdiv (2 ^ (min b.toNat k.bits)))) := by
  simp [eqGuard, binOp, Op.shift, reck_bind, reck_pure, h]
theorem rb_seql (s u : ByteArray) : reck P (do eqGuard .eql t x y (.string s) (.string u); binOp .eql t (.string s) (.string u)) = some (.bool (s.toList == u.toList)) := by
  simp [eqGuard, binOp, Op.stringOp, reck_bind, reck_pure]
theorem rb_sneq (s u : ByteArray) : reck P (do eqGuard .neq t x y (.string s) (.string u); binOp .neq t (.string s) (.string u)) = some (.bool (!(s.toList == u.toList))) := by
  simp [eqGuard, binOp, Op.stringOp, reck_bind, reck_pure]
theorem ru_not (c : Bool) : reck P (Op.unary .not (.bool c)) = some (.bool (!c)) := rfl
theorem ru_neg : reck P (Op.unary .neg (.int k a)) = some (.int k (k.wrap (0 - a))) := rfl
theorem reck_equal_bool (c d : Bool) (h : P.underlying t = some .bool) : reck P (Op.equal t (.bool c) (.bool d)) = some (c == d) := by
  show reck P (Op.equalIn (9999 + 1) t _ _) = _
  unfold Op.equalIn
  simp only [reck_bind, reck_und, h, Option.bind_some]
  rfl
theorem rb_beql (c d : Bool) (h : P.underlying t = some .bool) : reck P (do eqGuard .eql t x y (.bool c) (.bool d); binOp .eql t (.bool c) (.bool d)) = some (.bool (c == d)) := by
  have h1 : reck P (eqGuard .eql t x y (.bool c) (.bool d)) = some () := rfl
  have h2 : binOp .eql t (.bool c) (.bool d) = (do pure (.bool (← Op.equal t (.bool c) (.bool d))) : Sem Value) := rfl
  rw [reck_bind, h1, Option.bind_some, h2, reck_bind, reck_equal_bool P t c d h]
  rfl
theorem rc_int (s d : TypeId) {ds : TypeDesc} (hs : P.underlying s = some ds) (hd : P.underlying d = some (.int k)) (k2 : IntKind) : reck P (convert s d (.int k2 a)) = some (.int k (k.wrap a)) := by
  unfold convert
  simp only [reck_bind, reck_und, hs, hd, Option.bind_some]
  cases ds <;> rfl
end
/-- A state's slots are another one's (names and values, one by one). -/
def leE (env : List (Nat × V)) : List (Nat × V) → Prop
  | [] => True
  | (t, x) :: r => look env t = some x ∧ leE env r
theorem leE_look {env : List (Nat × V)} : ∀ {env' : List (Nat × V)}, leE env env' → ∀ t x, look env' t = some x → look env t = some x
  | [], _, t, x, h => by simp [look] at h
  | (k, y) :: r, h, t, x, hl => by
    simp only [look] at hl
    split at hl
    · rename_i e; subst e; cases hl; exact h.1
    · exact leE_look h.2 t x hl
def leH (h : List (Nat × Blk)) : List (Nat × Blk) → Prop
  | [] => True
  | (t, x) :: r => look h t = some x ∧ leH h r
theorem leH_look {env : List (Nat × Blk)} : ∀ {env' : List (Nat × Blk)}, leH env env' → ∀ t x, look env' t = some x → look env t = some x
  | [], _, t, x, h => by simp [look] at h
  | (k, y) :: r, h, t, x, hl => by
    simp only [look] at hl
    split at hl
    · rename_i e; subst e; cases hl; exact h.1
    · exact leH_look h.2 t x hl
theorem St.le_of {st st' : St} (h1 : leE st.env st'.env) (h2 : leH st.h st'.h) (h3 : st.nx ≤ st'.nx) : st.le st' := ⟨leE_look h1, leH_look h2, h3⟩
end Go.Proofs.YtmindblfbijaaaaDoor
namespace Go.Proofs.YtmindblfbijaaaaDoor
open Go.RowKit
section
variable {P : Program} {G : Nat → Option D} {N : Nat} {F : Fr} {ops : Array Oper} {rest : List Oper} {o : Oper} {Q : Exit → St → Prop} {st : St} {h0 al : List (Nat × Blk)} {env : List (Nat × V)} {nx : Nat} {K : List (Nat × V) → List (Nat × Blk) → Nat → Prop}
/-- A step of a head. -/
def stepH (P : Program) (G : Nat → Option D) (N : Nat) (ops : Array Oper) (h0 : List (Nat × Blk)) (o : Oper) (env : List (Nat × V)) : Option (List (Nat × V)) :=
  match o.dst with
  | some t => if t < N then
    match guardS ops env o.guard with
    | some true => (opV P (evD G env) h0 o).map fun x => (t, x) :: env
    | some false => some ((t, .d (.v undef)) :: env)
    | none => none
    else none
  | none => none
def goH (P : Program) (G : Nat → Option D) (N : Nat) (ops : Array Oper) (h0 : List (Nat × Blk)) : List Oper → List (Nat × V) → List Oper × List (Nat × V)
  | [], env => ([], env)
  | o :: l, env => (stepH P G N ops h0 o env).elim (o :: l, env) (goH P G N ops h0 l)
theorem Head.step (hF : Env F P G N) {env' : List (Nat × V)} (h : stepH P G N ops h0 o env = some env') (k : Head F G N ops h0 rest env' al nx K) : Head F G N ops h0 (o :: rest) env al nx K := by
  unfold stepH at h
  split at h
  · rename_i t hd
    split at h
    · rename_i ht
      split at h
      · rename_i hg
        simp only [Option.map_eq_some_iff] at h
        obtain ⟨x, hx, rfl⟩ := h
        exact Head.val hF hd ht hg hx k
      · rename_i hg
        cases h
        exact Head.pass hd ht hg k
      · cases h
    · cases h
  · cases h
theorem Head.go (hF : Env F P G N) : ∀ {l : List Oper} {env : List (Nat × V)} {env' : List (Nat × V)} {rest : List Oper} (_ : goH P G N ops h0 l env = (rest, env')) (_ : Head F G N ops h0 rest env' al nx K), Head F G N ops h0 l env al nx K := by
  intro l
  induction l with
  | nil => intro env env' rest h k; cases h; exact k
  | cons o l ih =>
    intro env env' rest h k
    simp only [goH] at h
    cases hst : stepH P G N ops h0 o env with
    | none => rw [hst] at h; cases h; exact k
    | some e1 =>
      rw [hst] at h
      exact Head.step hF hst (ih h k)
theorem Head.goR (hF : Env F P G N) {l : List Oper} (h : ∀ rest env', goH P G N ops h0 l env = (rest, env') → Head F G N ops h0 rest env' al nx K) : Head F G N ops h0 l env al nx K :=
  Head.go hF rfl (h _ _ rfl)
def hasBody (P : Program) (f : FuncId) : Bool := match P.funcs[f]? with | some fn => fn.name != "runtime.NumGoroutine" && fn.body.isSome | none => false
theorem hcall_of {f : FuncId} (h : hasBody P f = true) (args : Array Value) (w : World) : (callFunc f args).run P w = .ok (.enter f args) w := by
  unfold hasBody at h
  unfold callFunc
  cases hf : P.funcs[f]? with
  | none => rw [hf] at h; cases h
  | some fn =>
    rw [hf] at h
    simp only [Bool.and_eq_true, bne_iff_ne, ne_eq] at h
    obtain ⟨h1, h2⟩ := h
    cases hb : fn.body with
    | none => rw [hb] at h2; cases h2
    | some c => simp [Sem.run_bind, program, Sem.run, hf, h1, hb, Result.andThen]
/-- A call: what the arguments are, what the function says of them, what comes next. -/
theorem SmL.callR (hF : Env F P G N) (hN : St.small N st) {f : FuncId} {xs : Array Operand} {ts : Array TypeId} {t : Tmp} {ds : List D} {r : D} (ho : o.op = .call ⟨.value (.func f), xs, ts⟩) (hd : o.dst = some t) (hb : hasBody P f = true) (ht : t < N)
    (hg : guardS ops st.env o.guard = some true) (hargs : evArgs (evD G st.env) xs.toList = some ds) (hc : CallsD P G f ds r)
    (k : SmL F ops rest Q { st with env := (t, .d r) :: st.env }) : SmL F ops (o :: rest) Q st :=
  SmL.call hF hN hg ho hd (fun a w => hcall_of hb a w) hargs ht hc k
theorem Head.callR (hF : Env F P G N) {f : FuncId} {xs : Array Operand} {ts : Array TypeId} {t : Tmp} {ds : List D} {r : D} (ho : o.op = .call ⟨.value (.func f), xs, ts⟩) (hd : o.dst = some t) (hb : hasBody P f = true) (ht : t < N)
    (hg : guardS ops env o.guard = some true) (hargs : evArgs (evD G env) xs.toList = some ds) (hc : CallsD P G f ds r)
    (k : Head F G N ops h0 rest ((t, .d r) :: env) al nx K) : Head F G N ops h0 (o :: rest) env al nx K :=
  Head.call hF hd ht hg ho (fun a w => hcall_of hb a w) hargs hc k
theorem Head.last (k : K env al nx) : Head F G N ops h0 [] env al nx K := k
/-- A contract at other spellings of arguments and result. -/
theorem CallsD.as {f : FuncId} {ds ds' : List D} {r r' : D} (h : CallsD P G f ds r) (e : ds = ds') (e' : r = r') : CallsD P G f ds' r' := by subst e; subst e'; exact h
/-- A contract whose result is known as one of some. -/
theorem CallsD.le {f : FuncId} {ds : List D} {r r' : D} (h : CallsD P G f ds r) (hl : r.le r') : CallsD P G f ds r' := fun C w vs hG hk ha =>
  (h C w vs hG hk ha).mono fun e w' ⟨v, C', a1, a2, a3⟩ => ⟨v, C', a1, a2, hl _ _ a3⟩
/-- No cell of other blocks names a block. -/
theorem freeH_nil (l : Nat) : freeH l [] := fun l' k _ h => by simp [look] at h
theorem freeH_same {l : Nat} {k : Blk} {h : List (Nat × Blk)} (f : freeH l h) : freeH l ((l, k) :: h) := fun l' k' hne hl => by
  simp only [look] at hl
  rw [if_neg (Ne.symm hne)] at hl
  exact f l' k' hne hl
theorem freeH_cons {l m : Nat} {k : Blk} {h : List (Nat × Blk)} (f : freeH l h) (hr : ∀ r ∈ k.rows, ∀ x ∈ r, V.free l x = true) : freeH l ((m, k) :: h) := fun l' k' hne hl => by
  simp only [look] at hl
  split at hl
  · cases hl; exact hr
  · exact f l' k' hne hl
/-- A block of data. -/
abbrev dB (sz : Nat) (rows : List (List D)) : Blk := ⟨sz, rows.map fun r => r.map V.d⟩
theorem free_dB (l sz : Nat) (rows : List (List D)) : ∀ r ∈ (dB sz rows).rows, ∀ x ∈ r, V.free l x = true := by
  intro r hr x hx
  obtain ⟨r', _, rfl⟩ := List.mem_map.1 hr
  obtain ⟨d, _, rfl⟩ := List.mem_map.1 hx
  rfl
theorem free_row {l : Nat} {r : List V} {sz : Nat} (h : r.all (V.free l) = true) : ∀ r' ∈ (Blk.mk sz [r]).rows, ∀ x ∈ r', V.free l x = true := by
  intro r' hr x hx
  have : r' = r := by simpa using hr
  subst this
  exact List.all_eq_true.1 h x hx
end
end Go.Proofs.YtmindblfbijaaaaDoor
namespace Go.Proofs.YtmindblfbijaaaaDoor
open Go.RowKit
/-- How it comes: alone, as the first of several results, as the first part of a struct. -/
inductive Pk where
  | one
  | tup
  | agg
def Pk.v : Pk → Nat → Nat → List D → V
  | .one, l, n, _ => .sref l 0 n
  | .tup, l, n, rest => .mix true l n rest
  | .agg, l, n, rest => .mix false l n rest
/-- As 'look', in a form that reduces fast. -/
def lookB {α : Type} : List (Nat × α) → Nat → Option α
  | [], _ => none
  | (k, x) :: r, i => match Nat.beq k i with
    | true => some x
    | false => lookB r i
theorem lookB_eq {α : Type} (l : List (Nat × α)) (i : Nat) : lookB l i = look l i := by
  induction l with
  | nil => rfl
  | cons e r ih =>
    obtain ⟨k, x⟩ := e
    simp only [lookB, look]
    cases hb : Nat.beq k i with
    | true => rw [if_pos (Nat.eq_of_beq_eq_true hb)]
    | false => rw [if_neg (Nat.ne_of_beq_eq_false hb)]; exact ih
def evB (G : Nat → Option D) (env : List (Nat × V)) : Operand → Option V
  | .tmp t => lookB env t
  | .const v => some (.d (constD v))
  | .global g => (G g).map .d
  | .func f => some (.d (.v (.func (.func f) #[] #[])))
theorem evB_eq (G : Nat → Option D) (env : List (Nat × V)) (x : Operand) : evB G env x = evD G env x := by
  cases x <;> simp [evB, evD, lookB_eq]
def guardB (ops : List Oper) (env : List (Nat × V)) : Option (Nat × Bool) → Option Bool
  | none => some true
  | some (j, want) =>
    match ops[j]? with
    | some o => match o.dst with
      | some t => match lookB env t with
        | some (.d (.v (.bool b))) => match b, want with
          | true, true => some true
          | true, false => some false
          | false, true => some false
          | false, false => some true
        | some (.d (.v (.tuple _))) => some false
        | _ => none
      | none => none
    | none => none
theorem guardB_ok {ops : List Oper} {env : List (Nat × V)} {g : Option (Nat × Bool)} {b : Bool} (h : guardB ops env g = some b) : guardS ops.toArray env g = some b := by
  unfold guardB at h
  unfold guardS
  split at h
  · exact h
  · rename_i j want
    simp only [List.getElem?_toArray, ← lookB_eq]
    split at h
    · rename_i o ho
      rw [ho]
      split at h
      · rename_i t ht
        simp only [Option.bind_some, ht]
        split at h
        · rename_i c hc
          rw [lookB_eq] at hc
          rw [hc]
          cases c <;> cases want <;> simpa using h
        · rename_i hc
          rw [lookB_eq] at hc
          rw [hc]; exact h
        · cases h
      · cases h
    · cases h
/-- Operations in the order of the text, from a state whose slots are small. -/
def SmG (F : Fr) (N : Nat) (ops l : List Oper) (Q : Exit → St → Prop) (st : St) : Prop := St.small N st → SmL F ops.toArray l Q st
section
variable {P : Program} {G : Nat → Option D} {N : Nat} {F : Fr} {ops rest : List Oper} {o : Oper} {Q : Exit → St → Prop} {env : List (Nat × V)} {h : List (Nat × Blk)} {nx : Nat} {al : List (Nat × Blk)} {K : List (Nat × V) → List (Nat × Blk) → Nat → Prop}
theorem Sm.regionG {id : Nat} {l : List Oper} {st : St} (hF : Env F P G N) (hN : smallB N st.env = true) (g : SmG F N l l Q st) : Sm F (.region id l.toArray false) Q st := Sm.region (g (small_of hN))
theorem SmG.nil {st : St} (q : Q .normal st) : SmG F N ops [] Q st := fun _ => SmL.nil q
theorem small_put {t : Nat} {x : V} {h' : List (Nat × Blk)} {nx' : Nat} (hs : St.small N ⟨env, h, nx⟩) (ht : t < N) : St.small N ⟨(t, x) :: env, h', nx'⟩ := by
  intro s y hy
  simp only [look] at hy
  split at hy
  · rename_i e; subst e; exact ht
  · exact hs s y hy
theorem SmG.v (hF : Env F P G N) {t : Tmp} {x : V} (hd : o.dst = some t) (ht : Nat.blt t N = true) (hg : guardB ops env o.guard = some true) (hx : opV P (evD G env) h o = some x) (k : SmG F N ops rest Q ⟨(t, x) :: env, h, nx⟩) : SmG F N ops (o :: rest) Q ⟨env, h, nx⟩ := by
  have ht' : t < N := by simpa [Nat.blt_eq] using ht
  intro hs
  refine SmL.step hF hs (st' := ⟨(t, x) :: env, h, nx⟩) ?_ (k (small_put hs ht'))
  have hout : opS P (evD G env) h o = some (.val x) := by
    unfold opS
    cases ho : o.op <;> simp only [hx, Option.map_some] <;> (simp [opV, lenOp, ho] at hx)
  simp only [stepS, guardB_ok hg, hout, Option.bind_some, applyOut, hd, if_pos ht']
theorem SmG.pass (hF : Env F P G N) {t : Tmp} (hd : o.dst = some t) (ht : Nat.blt t N = true) (hg : guardB ops env o.guard = some false) (k : SmG F N ops rest Q ⟨(t, .d (.v (.tuple #[]))) :: env, h, nx⟩) : SmG F N ops (o :: rest) Q ⟨env, h, nx⟩ := by
  have ht' : t < N := by simpa [Nat.blt_eq] using ht
  intro hs
  refine SmL.step hF hs (st' := ⟨(t, .d (.v undef)) :: env, h, nx⟩) ?_ (k (small_put hs ht'))
  simp only [stepS, guardB_ok hg, hd, if_pos ht']
theorem SmG.passStore (hF : Env F P G N) (hd : o.dst = none) (hg : guardB ops env o.guard = some false) (k : SmG F N ops rest Q ⟨env, h, nx⟩) : SmG F N ops (o :: rest) Q ⟨env, h, nx⟩ := by
  intro hs
  refine SmL.step hF hs (st' := ⟨env, h, nx⟩) ?_ (k hs)
  simp only [stepS, guardB_ok hg, hd]
theorem SmG.new (hF : Env F P G N) {t : Tmp} {sz : Nat} {row : List V} {T : TypeId} (hd : o.dst = some t) (ht : Nat.blt t N = true) (hg : guardB ops env o.guard = some true) (hx : opS P (evD G env) h o = some (.new sz row T)) (k : SmG F N ops rest Q ⟨(t, .ref nx 0 0) :: env, (nx, ⟨sz, [row]⟩) :: h, nx + 1⟩) : SmG F N ops (o :: rest) Q ⟨env, h, nx⟩ := by
  have ht' : t < N := by simpa [Nat.blt_eq] using ht
  intro hs
  refine SmL.step hF hs (st' := ⟨(t, .ref nx 0 0) :: env, (nx, ⟨sz, [row]⟩) :: h, nx + 1⟩) ?_ (k (small_put hs ht'))
  simp only [stepS, guardB_ok hg, hx, Option.bind_some, applyOut, hd, if_pos ht']
theorem SmG.store (hF : Env F P G N) {t : TypeId} {x y : Operand} {vx vy : V} {l : Nat} {kb : Blk} (ho : o.op = .store t x y) (hd : o.dst = none) (hg : guardB ops env o.guard = some true) (hx : evB G env x = some vx) (hy : evB G env y = some vy) (hst : storeS P h t vx vy = some (.upd l kb)) (k : SmG F N ops rest Q ⟨env, rep h l kb, nx⟩) : SmG F N ops (o :: rest) Q ⟨env, h, nx⟩ := by
  intro hs
  refine SmL.step hF hs (st' := ⟨env, rep h l kb, nx⟩) ?_ (k hs)
  rw [evB_eq] at hx hy
  simp only [stepS, guardB_ok hg, hd, opS, ho, hx, hy, hst, Option.bind_some, applyOut]
theorem SmG.is {st : St} (g : SmG F N ops (o :: rest) Q st) : SmG F N ops (o :: rest) Q st := g
theorem Head.is (g : Head F G N ops.toArray h (o :: rest) env al nx K) : Head F G N ops.toArray h (o :: rest) env al nx K := g
theorem evArgs_B {xs : List Operand} : ∀ {ds : List D}, evArgs (evB G env) xs = some ds → evArgs (evD G env) xs = some ds := by
  intro ds h
  rw [← h]
  exact evArgs_congr fun x _ => (evB_eq G env x).symm
theorem SmG.call (hF : Env F P G N) {f : FuncId} {xs : List Operand} {ts : Array TypeId} {t : Tmp} {ds : List D} {r : D} (ho : o.op = .call ⟨.value (.func f), xs.toArray, ts⟩) (hd : o.dst = some t) (hb : hasBody P f = true) (ht : Nat.blt t N = true)
    (hg : guardB ops env o.guard = some true) (hargs : evArgs (evB G env) xs = some ds) (hc : CallsD P G f ds r)
    (k : SmG F N ops rest Q ⟨(t, .d r) :: env, h, nx⟩) : SmG F N ops (o :: rest) Q ⟨env, h, nx⟩ := by
  have ht' : t < N := by simpa [Nat.blt_eq] using ht
  intro hs
  exact SmL.callR hF hs ho hd hb ht' (guardB_ok hg) (evArgs_B (by simpa using hargs)) hc (k (small_put hs ht'))
theorem Head.v (hF : Env F P G N) {t : Tmp} {x : V} (hd : o.dst = some t) (ht : Nat.blt t N = true) (hg : guardB ops env o.guard = some true) (hx : opV P (evD G env) h o = some x) (k : Head F G N ops.toArray h rest ((t, x) :: env) al nx K) : Head F G N ops.toArray h (o :: rest) env al nx K :=
  Head.val hF hd (by simpa [Nat.blt_eq] using ht) (guardB_ok hg) hx k
theorem Head.p (hF : Env F P G N) {t : Tmp} (hd : o.dst = some t) (ht : Nat.blt t N = true) (hg : guardB ops env o.guard = some false) (k : Head F G N ops.toArray h rest ((t, .d (.v (.tuple #[]))) :: env) al nx K) : Head F G N ops.toArray h (o :: rest) env al nx K :=
  Head.pass hd (by simpa [Nat.blt_eq] using ht) (guardB_ok hg) k
theorem Head.c (hF : Env F P G N) {f : FuncId} {xs : List Operand} {ts : Array TypeId} {t : Tmp} {ds : List D} {r : D} (ho : o.op = .call ⟨.value (.func f), xs.toArray, ts⟩) (hd : o.dst = some t) (hb : hasBody P f = true) (ht : Nat.blt t N = true)
    (hg : guardB ops env o.guard = some true) (hargs : evArgs (evB G env) xs = some ds) (hc : CallsD P G f ds r)
    (k : Head F G N ops.toArray h rest ((t, .d r) :: env) al nx K) : Head F G N ops.toArray h (o :: rest) env al nx K :=
  Head.callR hF ho hd hb (by simpa [Nat.blt_eq] using ht) (guardB_ok hg) (evArgs_B (by simpa using hargs)) hc k
theorem Head.new (hF : Env F P G N) {t : Tmp} {ty : TypeId} {sz : Nat} {row : List V} {T : TypeId} (ho : o.op = .alloc ty) (hd : o.dst = some t) (ht : Nat.blt t N = true) (hg : guardB ops env o.guard = some true) (hx : allocS P ty = some (.new sz row T))
    (k : Head F G N ops.toArray h rest ((t, .ref nx 0 0) :: env) ((nx, ⟨sz, [row]⟩) :: al) (nx + 1) K) : Head F G N ops.toArray h (o :: rest) env al nx K :=
  Head.alloc hF hd (by simpa [Nat.blt_eq] using ht) (guardB_ok hg) ho hx k
theorem Head.mono {K K' : List (Nat × V) → List (Nat × Blk) → Nat → Prop} (hk : ∀ env al nx, K env al nx → K' env al nx) {ops : Array Oper} {h0 : List (Nat × Blk)} : ∀ {l : List Oper} {env : List (Nat × V)} {al : List (Nat × Blk)} {nx : Nat}, Head F G N ops h0 l env al nx K → Head F G N ops h0 l env al nx K' := by
  intro l
  induction l with
  | nil => intro env al nx hh; exact hk _ _ _ hh
  | cons o l ih =>
    intro env al nx hh
    obtain ⟨t, h1, h2, h3⟩ := hh
    refine ⟨t, h1, h2, ?_⟩
    rcases h3 with ⟨x, hx, h4⟩ | ⟨k, res, hx, hm, h4⟩
    · exact .inl ⟨x, hx, ih h4⟩
    · exact .inr ⟨k, res, hx, hm, ih h4⟩
theorem Sm.drawG {id : Nat} {l : List Oper} {st : St} (hF : Env F P G N) (hm : P.follows .mixedOrders = true) (hN : smallB N st.env = true) (n : Nat) (hB : headB l n = true) (hD : depB l n = true)
    (g : Head F G N l.toArray st.h (l.take n) st.env [] st.nx fun env al nx => smallB N env = true ∧ SmG F N l (l.drop n) Q ⟨env, al ++ st.h, nx⟩) : Sm F (.region id l.toArray true) Q st := by
  refine Sm.draw hF hm (small_of hN) n hB hD (Head.mono ?_ g)
  intro env al nx hk
  exact hk.2 (small_of (st := ⟨env, al ++ st.h, nx⟩) hk.1)
end
section
variable {P : Program} {G : Nat → Option D} {env : List (Nat × V)} {h : List (Nat × Blk)} {o : Oper}
theorem opV_move {x : Operand} {v : V} (ho : o.op = .move x) (hx : evB G env x = some v) : opV P (evD G env) h o = some v := by
  rw [evB_eq] at hx; simp only [opV, ho, hx]
theorem opV_assign {x : Operand} {v : V} (ho : o.op = .assign x) (hx : evB G env x = some v) : opV P (evD G env) h o = some v := by
  rw [evB_eq] at hx; simp only [opV, ho, hx]
theorem opV_pickT {c x y : Operand} {v : V} (ho : o.op = .pick c x y) (hc : evB G env c = some (.d (.v (.bool true)))) (hx : evB G env x = some v) : opV P (evD G env) h o = some v := by
  rw [evB_eq] at hx hc; simp only [opV, ho, hx, hc, Option.bind_some]
theorem opV_pickF {c x y : Operand} {v : V} (ho : o.op = .pick c x y) (hc : evB G env c = some (.d (.v (.bool false)))) (hy : evB G env y = some v) : opV P (evD G env) h o = some v := by
  rw [evB_eq] at hy hc; simp only [opV, ho, hy, hc, Option.bind_some]
theorem opV_load {t : TypeId} {x : Operand} {v y : V} (ho : o.op = .load t x) (hx : evB G env x = some v) (hy : loadS P h t v = some y) : opV P (evD G env) h o = some y := by
  rw [evB_eq] at hx; simp only [opV, ho, hx, Option.bind_some, hy]
theorem opV_nilCheckR {x : Operand} {l i off : Nat} (ho : o.op = .nilCheck x) (hx : evB G env x = some (.ref l i off)) : opV P (evD G env) h o = some (.ref l i off) := by
  rw [evB_eq] at hx; simp only [opV, ho, hx, Option.bind_some]
theorem opV_nilCheckP {x : Operand} {n : Nat} {row : List D} (ho : o.op = .nilCheck x) (hx : evB G env x = some (.d (.ptr n row))) : opV P (evD G env) h o = some (.d (.ptr n row)) := by
  rw [evB_eq] at hx; simp only [opV, ho, hx, Option.bind_some]
theorem opV_bin {op : BinOp} {t yt : TypeId} {x y : Operand} {a b u : Value} (ho : o.op = .binOp op t x y yt) (hx : evB G env x = some (.d (.v a))) (hy : evB G env y = some (.d (.v b))) (hu : reck P (do eqGuard op t x y a b; binOp op t a b) = some u) : opV P (evD G env) h o = some (.d (.v u)) := by
  rw [evB_eq] at hx hy; simp only [opV, ho, hx, hy, Option.bind_some, scal, hu, Option.map_some]
theorem opV_eqA {t yt : TypeId} {x y : Operand} {n m : Nat} {a b : List D} {c : Bool} (ho : o.op = .binOp .eql t x y yt) (hx : evB G env x = some (.d (.agg n a))) (hy : evB G env y = some (.d (.agg m b))) (hu : eqAgg P t (.d (.agg n a)) (.d (.agg m b)) = some c) : opV P (evD G env) h o = some (.d (.v (.bool c))) := by
  rw [evB_eq] at hx hy; simp only [opV, ho, hx, hy, Option.bind_some, scal, hu, Option.map_some]
theorem opV_neA {t yt : TypeId} {x y : Operand} {n m : Nat} {a b : List D} {c : Bool} (ho : o.op = .binOp .neq t x y yt) (hx : evB G env x = some (.d (.agg n a))) (hy : evB G env y = some (.d (.agg m b))) (hu : eqAgg P t (.d (.agg n a)) (.d (.agg m b)) = some c) : opV P (evD G env) h o = some (.d (.v (.bool (!c)))) := by
  rw [evB_eq] at hx hy; simp only [opV, ho, hx, hy, Option.bind_some, scal, hu, Option.map_some]
theorem opV_un {op : UnOp} {t : TypeId} {x : Operand} {a u : Value} (ho : o.op = .unOp op t x) (hx : evB G env x = some (.d (.v a))) (hu : reck P (Op.unary op a) = some u) : opV P (evD G env) h o = some (.d (.v u)) := by
  rw [evB_eq] at hx; simp only [opV, ho, hx, Option.bind_some, scal, hu, Option.map_some]
theorem opV_conv {s d : TypeId} {x : Operand} {v y : V} (ho : o.op = .convert s d x) (hx : evB G env x = some v) (hy : convS P s d v = some y) : opV P (evD G env) h o = some y := by
  rw [evB_eq] at hx; simp only [opV, ho, hx, Option.bind_some, hy]
theorem evO_B {x : Option Operand} {y : Option V} (hx : evO (evB G env) x = some y) : evO (evD G env) x = some y := by
  rw [← hx]; exact evO_congr fun z _ => (evB_eq G env z).symm
theorem opV_slice {t : TypeId} {x : Operand} {lo hi mx : Option Operand} {v y : V} {lv hv mv : Option V} (ho : o.op = .slice t x lo hi mx) (hx : evB G env x = some v) (h1 : evO (evB G env) lo = some lv) (h2 : evO (evB G env) hi = some hv) (h3 : evO (evB G env) mx = some mv) (hy : sliceS P h t v lv hv mv = some y) : opV P (evD G env) h o = some y := by
  rw [evB_eq] at hx; simp only [opV, ho, hx, evO_B h1, evO_B h2, evO_B h3, Option.bind_some, hy]
theorem opV_fieldAddr {t : TypeId} {x : Operand} {f : Nat} {v y : V} (ho : o.op = .fieldAddr t x f) (hx : evB G env x = some v) (hy : fieldAddrS P t v f = some y) : opV P (evD G env) h o = some y := by
  rw [evB_eq] at hx; simp only [opV, ho, hx, Option.bind_some, hy]
theorem opV_field {t : TypeId} {x : Operand} {f : Nat} {v y : V} (ho : o.op = .field t x f) (hx : evB G env x = some v) (hy : fieldS P t v f = some y) : opV P (evD G env) h o = some y := by
  rw [evB_eq] at hx; simp only [opV, ho, hx, Option.bind_some, hy]
theorem opV_indexAddr {t : TypeId} {x i : Operand} {v w y : V} (ho : o.op = .indexAddr t x i) (hx : evB G env x = some v) (hi : evB G env i = some w) (hy : indexAddrS P h t v w = some y) : opV P (evD G env) h o = some y := by
  rw [evB_eq] at hx hi; simp only [opV, ho, hx, hi, Option.bind_some, hy]
theorem opV_index {t : TypeId} {x i : Operand} {v w y : V} (ho : o.op = .index t x i) (hx : evB G env x = some v) (hi : evB G env i = some w) (hy : indexS P t v w = some y) : opV P (evD G env) h o = some y := by
  rw [evB_eq] at hx hi; simp only [opV, ho, hx, hi, Option.bind_some, hy]
theorem opV_extract {x : Operand} {i : Nat} {xs : List D} {d : D} (ho : o.op = .extract x i) (hx : evB G env x = some (.d (.tup xs))) (hi : xs[i]? = some d) : opV P (evD G env) h o = some (.d d) := by
  rw [evB_eq] at hx; simp only [opV, ho, hx, hi, Option.bind_some, Option.map_some]
theorem opV_len {x : Operand} {t : TypeId} {v y : V} (ho : o.op = .call ⟨.builtin .len, #[x], #[t]⟩) (hx : evB G env x = some v) (hy : lenS P t v = some y) : opV P (evD G env) h o = some y := by
  rw [evB_eq] at hx; simp only [opV, lenOp, ho, hx, Option.bind_some, hy]
theorem opV_min {x y : Operand} {ts : Array TypeId} {k : IntKind} {a b : Int} (ho : o.op = .call ⟨.builtin .min, #[x, y], ts⟩) (hx : evB G env x = some (.d (.v (.int k a)))) (hy : evB G env y = some (.d (.v (.int k b)))) {u : Value} (hu : reck P (Builtin.min_ ts o.type #[.int k a, .int k b]) = some u) : opV P (evD G env) h o = some (.d (.v u)) := by
  rw [evB_eq] at hx hy; simp only [opV, lenOp, ho, hx, hy, Option.bind_some, scal, hu, Option.map_some]
theorem opV_max {x y : Operand} {ts : Array TypeId} {k : IntKind} {a b : Int} (ho : o.op = .call ⟨.builtin .max, #[x, y], ts⟩) (hx : evB G env x = some (.d (.v (.int k a)))) (hy : evB G env y = some (.d (.v (.int k b)))) {u : Value} (hu : reck P (Builtin.max_ ts o.type #[.int k a, .int k b]) = some u) : opV P (evD G env) h o = some (.d (.v u)) := by
  rw [evB_eq] at hx hy; simp only [opV, lenOp, ho, hx, hy, Option.bind_some, scal, hu, Option.map_some]
theorem evParts_B {ps : List (Nat × Operand)} {qs : List (Nat × V)} (hx : evParts (evB G env) ps = some qs) : evParts (evD G env) ps = some qs := by
  rw [← hx]; exact evParts_congr fun z _ => (evB_eq G env z.2).symm
theorem opV_buildSlice {t : TypeId} {n : Nat} {ps : List (Nat × Operand)} {qs : List (Nat × V)} {y : V} (ho : o.op = .buildSlice t n ps.toArray) (hx : evParts (evB G env) ps = some qs) (hy : buildSliceS P t n qs = some y) : opV P (evD G env) h o = some y := by
  simp only [opV, ho, evParts_B hx, Option.bind_some, hy]
theorem opV_buildA {t : TypeId} {ps : List (Nat × Operand)} {qs : List (Nat × V)} {y : V} {n : Nat} {e : TypeId} (ho : o.op = .build t ps.toArray) (hu : P.underlying t = some (.array n e)) (hx : evParts (evB G env) ps = some qs) (hy : buildS P t qs = some y) : opV P (evD G env) h o = some y := by
  simp only [opV, ho, evParts_B hx, Option.bind_some, hu, hy]
theorem opV_buildT {t : TypeId} {ps : List (Nat × Operand)} {qs : List (Nat × V)} {y : V} {fs : Array Field} (ho : o.op = .build t ps.toArray) (hu : P.underlying t = some (.struct fs)) (hall : (fs.toList.all fun f => (sizeT P f.type).isSome) = true) (hx : evParts (evB G env) ps = some qs) (hy : buildS P t qs = some y) : opV P (evD G env) h o = some y := by
  simp only [opV, ho, evParts_B hx, Option.bind_some, hu, hall, if_true, hy]
theorem opS_alloc {t : TypeId} {u : Out} (ho : o.op = .alloc t) (hu : allocS P t = some u) : opS P (evD G env) h o = some u := by
  simp only [opS, ho, hu]
theorem opS_box {t : TypeId} {x : Operand} {v : V} {u : Out} (ho : o.op = .box t x) (hx : evB G env x = some v) (hu : boxS t v = some u) : opS P (evD G env) h o = some u := by
  rw [evB_eq] at hx; simp only [opS, ho, hx, Option.bind_some, hu]
end
section
variable (P : Program) (t : TypeId) (x y : Operand) (k : IntKind) {a b : Int}
theorem rd_add (h : k.wrap (a + b) = a + b) : reck P (do eqGuard .add t x y (.int k a) (.int k b); binOp .add t (.int k a) (.int k b)) = some (.int k (a + b)) := by rw [rb_add, h]
theorem rd_sub (h : k.wrap (a - b) = a - b) : reck P (do eqGuard .sub t x y (.int k a) (.int k b); binOp .sub t (.int k a) (.int k b)) = some (.int k (a - b)) := by rw [rb_sub, h]
theorem rd_mul (h : k.wrap (a * b) = a * b) : reck P (do eqGuard .mul t x y (.int k a) (.int k b); binOp .mul t (.int k a) (.int k b)) = some (.int k (a * b)) := by rw [rb_mul, h]
theorem rd_lssT (h : a < b) : reck P (do eqGuard .lss t x y (.int k a) (.int k b); binOp .lss t (.int k a) (.int k b)) = some (.bool true) := by rw [rb_lss, decide_eq_true h]
theorem rd_lssF (h : ¬ a < b) : reck P (do eqGuard .lss t x y (.int k a) (.int k b); binOp .lss t (.int k a) (.int k b)) = some (.bool false) := by rw [rb_lss, decide_eq_false h]
theorem rd_leqT (h : a ≤ b) : reck P (do eqGuard .leq t x y (.int k a) (.int k b); binOp .leq t (.int k a) (.int k b)) = some (.bool true) := by rw [rb_leq, decide_eq_true h]
theorem rd_leqF (h : ¬ a ≤ b) : reck P (do eqGuard .leq t x y (.int k a) (.int k b); binOp .leq t (.int k a) (.int k b)) = some (.bool false) := by rw [rb_leq, decide_eq_false h]
theorem rd_gtrT (h : b < a) : reck P (do eqGuard .gtr t x y (.int k a) (.int k b); binOp .gtr t (.int k a) (.int k b)) = some (.bool true) := by rw [rb_gtr, decide_eq_true h]
theorem rd_gtrF (h : ¬ b < a) : reck P (do eqGuard .gtr t x y (.int k a) (.int k b); binOp .gtr t (.int k a) (.int k b)) = some (.bool false) := by rw [rb_gtr, decide_eq_false h]
theorem rd_geqT (h : b ≤ a) : reck P (do eqGuard .geq t x y (.int k a) (.int k b); binOp .geq t (.int k a) (.int k b)) = some (.bool true) := by rw [rb_geq, decide_eq_true h]
theorem rd_geqF (h : ¬ b ≤ a) : reck P (do eqGuard .geq t x y (.int k a) (.int k b); binOp .geq t (.int k a) (.int k b)) = some (.bool false) := by rw [rb_geq, decide_eq_false h]
theorem rd_eqlT (h : a = b) : reck P (do eqGuard .eql t x y (.int k a) (.int k b); binOp .eql t (.int k a) (.int k b)) = some (.bool true) := by rw [rb_eql, beq_iff_eq.2 h]
theorem rd_eqlF (h : a ≠ b) : reck P (do eqGuard .eql t x y (.int k a) (.int k b); binOp .eql t (.int k a) (.int k b)) = some (.bool false) := by rw [rb_eql, beq_eq_false_iff_ne.2 h]
theorem rd_neqT (h : a ≠ b) : reck P (do eqGuard .neq t x y (.int k a) (.int k b); binOp .neq t (.int k a) (.int k b)) = some (.bool true) := by rw [rb_neq, bne_iff_ne.2 h]
theorem rd_neqF (h : a = b) : reck P (do eqGuard .neq t x y (.int k a) (.int k b); binOp .neq t (.int k a) (.int k b)) = some (.bool false) := by rw [rb_neq, bne_eq_false_iff_eq.2 h]
theorem rd_minL {ts : Array TypeId} {T : TypeId} (h : a ≤ b) : reck P (Builtin.min_ ts T #[.int .i64 a, .int .i64 b]) = some (.int .i64 a) := by
  have : ¬ b < a := by omega
  simp [Builtin.min_, Builtin.min2, reck_pure, this]
theorem rd_minR {ts : Array TypeId} {T : TypeId} (h : b ≤ a) : reck P (Builtin.min_ ts T #[.int .i64 a, .int .i64 b]) = some (.int .i64 b) := by
  by_cases hb : b < a
  · simp [Builtin.min_, Builtin.min2, reck_pure, hb]
  · have : a = b := by omega
    subst this; simp [Builtin.min_, Builtin.min2, reck_pure]
theorem rd_minN {ts : Array TypeId} {T : TypeId} (n m : Nat) : reck P (Builtin.min_ ts T #[.int .i64 n, .int .i64 m]) = some (.int .i64 (min n m : Nat)) := by
  rcases Nat.le_total n m with h | h
  · rw [Nat.min_eq_left h]; exact rd_minL P (by omega)
  · rw [Nat.min_eq_right h]; exact rd_minR P (by omega)
theorem wrapU8 (n : Int) (h : 0 ≤ n ∧ n ≤ 255) : IntKind.u8.wrap n = n := IntWalk.u8_in n h
theorem wrapU32 (n : Int) (h : 0 ≤ n ∧ n ≤ 4294967295) : IntKind.u32.wrap n = n := IntWalk.u32_in n h
theorem wrapU64 (n : Int) (h : 0 ≤ n ∧ n ≤ 18446744073709551615) : IntKind.u64.wrap n = n := by rw [IntKind.wrap_u64]; omega
theorem wrapI32 (n : Int) (h : -2147483648 ≤ n ∧ n ≤ 2147483647) : IntKind.i32.wrap n = n := IntWalk.i32_in n h
theorem rd_quo (h0 : 0 ≤ a ∧ a ≤ 9223372036854775807) (h1 : 0 < b) : reck P (do eqGuard .quo t x y (.int .i64 a) (.int .i64 b); binOp .quo t (.int .i64 a) (.int .i64 b)) = some (.int .i64 (a / b)) := by
  rw [rb_quo P t x y .i64 a b (by omega), Int.tdiv_eq_ediv_of_nonneg h0.1, wrapI64]
  refine ⟨?_, ?_⟩
  · have := Int.ediv_nonneg h0.1 (Int.le_of_lt h1); omega
  · have := Int.ediv_le_self b h0.1; omega
theorem rd_rem (h0 : 0 ≤ a) (h1 : 0 < b) : reck P (do eqGuard .rem t x y (.int k a) (.int k b); binOp .rem t (.int k a) (.int k b)) = some (.int k (a % b)) := by
  rw [rb_rem P t x y k a b (by omega), Int.tmod_eq_emod_of_nonneg h0]
theorem rd_beq {c d r : Bool} (h : P.underlying t = some .bool) (e : (c == d) = r) : reck P (do eqGuard .eql t x y (.bool c) (.bool d); binOp .eql t (.bool c) (.bool d)) = some (.bool r) := by
  rw [rb_beql P t x y c d h, e]
theorem rd_bne {c d r : Bool} (h : P.underlying t = some .bool) (e : (c != d) = r) : reck P (do eqGuard .neq t x y (.bool c) (.bool d); binOp .neq t (.bool c) (.bool d)) = some (.bool r) := by
  have h1 : reck P (eqGuard .neq t x y (.bool c) (.bool d)) = some () := rfl
  have h2 : binOp .neq t (.bool c) (.bool d) = (do pure (.bool (!(← Op.equal t (.bool c) (.bool d)))) : Sem Value) := rfl
  rw [reck_bind, h1, Option.bind_some, h2, reck_bind, reck_equal_bool P t c d h, ← e]
  rfl
theorem rd_not {c : Bool} : reck P (Op.unary .not (.bool c)) = some (.bool (!c)) := rfl
theorem rd_notT : reck P (Op.unary .not (.bool true)) = some (.bool false) := rfl
theorem rd_notF : reck P (Op.unary .not (.bool false)) = some (.bool true) := rfl
end
section
theorem rowD1 (d : D) : [V.d d] = [d].map V.d := rfl
theorem le_refl_nat (n : Nat) : (n ≤ n) = True := by simp
def aggOf (x : D) : D := x
end
theorem boundS_nat (k : IntKind) (n d : Nat) : boundS (some (.d (.v (.int k (n : Int))))) d = some n := by
  simp [boundS, intS]
theorem boundS_lit0 (k : IntKind) (d : Nat) : boundS (some (.d (.v (.int k 0)))) d = some 0 := rfl
theorem boundS_lit1 (k : IntKind) (d : Nat) : boundS (some (.d (.v (.int k 1)))) d = some 1 := rfl
theorem boundS_none (d : Nat) : boundS none d = some d := rfl
theorem boundS_int (k : IntKind) {n : Int} (d : Nat) (h : 0 ≤ n) : boundS (some (.d (.v (.int k n)))) d = some n.toNat := by
  simp [boundS, intS, h]
theorem iteP {α : Type} {c : Prop} [Decidable c] (h : c) (x y : α) : (if c then x else y) = x := if_pos h
/-- An element of rows. -/
theorem at_map {α : Type} {f : α → List D} {l : List α} {k : Nat} {x : α} (h : l[k]? = some x) : (l.map f)[(k : Int).toNat]? = some (f x) := by simp [h]
section
variable {P : Program} {G : Nat → Option D} {N : Nat} {F : Fr} {ops rest : List Oper} {o : Oper} {Q : Exit → St → Prop} {env : List (Nat × V)} {h : List (Nat × Blk)} {nx : Nat} {t e : TypeId} {z : Value} {size bytes : Nat}
/-- Append to the whole of a row of the frame's own. -/
theorem SmG.appendOwn (hF : Env F P G N) (hE : ElemT P t e z size bytes) {s x : Operand} {d : Tmp} {sz' l n : Nat} {xs ys : List (List D)} {f : Bool} (ho : o.op = .call ⟨.builtin .append, #[s, x], #[t, t]⟩) (hd : o.dst = some d) (hdN : Nat.blt d N = true) (hg : guardB ops env o.guard = some true)
    (hs : evB G env s = some (.sref l 0 n)) (hx : evB G env x = some (.d (.list sz' ys f))) (hl : lookB h l = some ⟨size, xs.map fun r => r.map V.d⟩) (hn : n = xs.length) (hsz' : sz' = size ∨ ys = []) (hfree : freeH l h) (hb : (xs.length + ys.length) * bytes ≤ 140737488355328) (hb2 : xs.length + ys.length ≤ 140737488355328)
    (k : SmG F N ops rest Q ⟨(d, .sref l 0 (xs ++ ys).length) :: killV l env, rep h l (dB size (xs ++ ys)), nx⟩) : SmG F N ops (o :: rest) Q ⟨env, h, nx⟩ := by
  have hdN' : d < N := by simpa [Nat.blt_eq] using hdN
  intro hsm
  rw [evB_eq] at hs hx
  rw [lookB_eq] at hl
  refine SmL.appendOwn (ops := ops.toArray) (rest := rest) (st := ⟨env, h, nx⟩) hF hsm hE (guardB_ok hg) ho hd hdN' hs hl hn hx hsz' hfree hb hb2 ?_
  rw [List.length_append] at k
  refine k (small_put (h := h) (nx := nx) ?_ hdN')
  intro s y hy
  simp only [look_kill] at hy
  cases hq : look env s with
  | none => rw [hq] at hy; cases hy
  | some y' => exact hsm s y' hq
/-- Append to a slice whose capacity is its length: the result does not turn any more. -/
theorem SmG.append (hF : Env F P G N) (hE : ElemT P t e z size bytes) {s x : Operand} {d : Tmp} {sz sz' : Nat} {xs ys : List (List D)} {f : Bool} (ho : o.op = .call ⟨.builtin .append, #[s, x], #[t, t]⟩) (hd : o.dst = some d) (hdN : Nat.blt d N = true) (hg : guardB ops env o.guard = some true)
    (hs : evB G env s = some (.d (.list sz xs true))) (hx : evB G env x = some (.d (.list sz' ys f))) (hsz : sz = size ∨ xs = []) (hsz' : sz' = size ∨ ys = []) (hb : (xs.length + ys.length) * bytes ≤ 140737488355328) (hb2 : xs.length + ys.length ≤ 140737488355328)
    (k : SmG F N ops rest Q ⟨(d, .d (.list size (xs ++ ys) false)) :: env, h, nx⟩) : SmG F N ops (o :: rest) Q ⟨env, h, nx⟩ := by
  have hdN' : d < N := by simpa [Nat.blt_eq] using hdN
  intro hsm
  rw [evB_eq] at hs hx
  exact SmL.append hF hsm hE (guardB_ok hg) ho hd hdN' hs hx hsz hsz' hb hb2 (k (small_put hsm hdN'))
end
section
variable {P : Program} {G : Nat → Option D} {N : Nat} {F : Fr} {Q : Exit → St → Prop} {env : List (Nat × V)} {h : List (Nat × Blk)} {nx : Nat} {c : Operand} {x y : Code}
theorem Sm.condB {t : Bool} (hF : Env F P G N) (hc : evB G env c = some (.d (.v (.bool t)))) (ht : t = true → Sm F x Q ⟨env, h, nx⟩) (hf : t = false → Sm F y Q ⟨env, h, nx⟩) : Sm F (.cond c x y) Q ⟨env, h, nx⟩ := Sm.cond hF.glob (by rw [← evB_eq]; exact hc) ht hf
theorem Sm.condT (hF : Env F P G N) (hc : evB G env c = some (.d (.v (.bool true)))) (ht : Sm F x Q ⟨env, h, nx⟩) : Sm F (.cond c x y) Q ⟨env, h, nx⟩ := Sm.condB hF hc (fun _ => ht) (fun h => by cases h)
theorem Sm.condF (hF : Env F P G N) (hc : evB G env c = some (.d (.v (.bool false)))) (hf : Sm F y Q ⟨env, h, nx⟩) : Sm F (.cond c x y) Q ⟨env, h, nx⟩ := Sm.condB hF hc (fun h => by cases h) (fun _ => hf)
end
theorem blockS_normal {id : Nat} {Q : Exit → St → Prop} {st : St} (h : Q .normal st) : blockS id Q .normal st := h
attribute [go_sem] loadS storeS cellsV pureRow seg indexAddrS indexS sliceS lenS fieldS fieldAddrS partD buildSliceS buildS allocS boxS convS intS scal boundS_nat boundS_none boundS_lit0 boundS_lit1 boundS_int look constD Option.bind_some Option.map_some Option.bind_none Option.map_none List.map_cons List.map_nil Nat.zero_add Nat.add_zero
attribute [go_sem] Int.toNat_natCast Int.toNat_zero Int.toNat_one List.getElem?_cons_succ List.getElem?_cons_zero List.getElem?_map Option.isNone_none Option.isSome_some Option.isNone_some Option.isSome_none Bool.true_and Bool.and_true Bool.false_and Bool.and_false and_true true_and and_self if_true if_false beq_self_eq_true List.length_map List.length_nil List.length_cons List.isEmpty_nil List.isEmpty_cons eq_self_iff_true Bool.not_true Bool.not_false Bool.false_eq_true decide_true decide_false Int.cast_ofNat_Int Int.natCast_zero Int.natCast_nonneg List.drop_zero List.drop_succ_cons List.set_cons_zero List.set_cons_succ Nat.mul_one Nat.one_mul Nat.mul_zero Nat.zero_mul List.nil_append List.cons_append Nat.sub_zero Nat.sub_self le_refl_nat true_or or_true false_or or_false List.replicate_zero List.replicate_succ fillRows partOf fillD setD layD Value.oneCell' Nat.zero_le
end Go.Proofs.YtmindblfbijaaaaDoor
namespace Go.Proofs.YtmindblfbijaaaaDoor
open Go.RowKit
section
variable {F : Fr} {st : St} {μ : Nat → Option Place} {C : Facts} {a : Act} {w : World}
/-- A new block of the frame's own, with room. -/
theorem Sim.allocCap (h : Sim F st μ C a w) (cap sz : Nat) (rows : List (List V)) (cur : Array Value) (T : TypeId) (hrow : ∀ r ∈ rows, r.length = sz) (hle : rows.length ≤ cap) (hmax : cap ≤ 9223372036854775807) (hsz : cur.size = cap * sz) (hr : RowsV μ C sz rows cur.toList) :
    Sim F { st with h := (st.nx, ⟨sz, rows⟩) :: st.h, nx := st.nx + 1 } (fun l => if l = st.nx then some ⟨w.heap.size, cap, sz⟩ else μ l) C a (w.alloc (.cells cur T)) := by
  have hμ : ∀ l p, μ l = some p → (fun l => if l = st.nx then some (⟨w.heap.size, cap, sz⟩ : Place) else μ l) l = some p := by
    intro l p hp
    have : l ≠ st.nx := fun e => by rw [h.nx l (by omega)] at hp; cases hp
    simp [this, hp]
  have h1 := h.more (.of_below h.known ((Below.refl _ w).alloc (Nat.le_refl _) (.cells cur T)))
  have hold : ∀ l k, look st.h l = some k → l ≠ st.nx := fun l k hk e => by
    obtain ⟨p, hp, _⟩ := h.heap l k hk
    rw [h.nx l (by omega)] at hp; cases hp
  refine ⟨h1.size, h1.defers, h1.below, h1.sub, h1.new, h1.known, fun t x hx => (h1.env t x hx).mono hμ (fun _ _ _ h => h), ?_, ?_, ?_⟩
  · intro l k hk
    simp only [look] at hk
    by_cases hl : st.nx = l
    · subst hl
      rw [if_pos rfl] at hk
      cases hk
      refine ⟨⟨w.heap.size, cap, sz⟩, by simp, rfl, hle, hmax, hrow, fun _ => ⟨h.below.size, fun o u hc => ?_, cur, T, heap_alloc_new w _, hsz, hr.mono hμ (fun _ _ _ h => h)⟩⟩
      exact absurd (h.known.lt hc) (Nat.lt_irrefl _)
    · rw [if_neg hl] at hk
      obtain ⟨p, hp, hb⟩ := h1.heap l k hk
      refine ⟨p, hμ l p hp, hb.sz, hb.len, hb.max, hb.row, fun hc => ?_⟩
      obtain ⟨a1, a2, cur', T', a3, a4, a5⟩ := hb.cells hc
      exact ⟨a1, a2, cur', T', a3, a4, a5.mono hμ (fun _ _ _ h => h)⟩
  · intro l l' p p' hl hl' hp hp' hc hc' hb
    simp only [look] at hl hl'
    have hlt : ∀ l p, (look st.h l).isSome = true → μ l = some p → 0 < p.cap → p.b < w.heap.size := by
      intro l p hl hp hc
      obtain ⟨k, hk⟩ := Option.isSome_iff_exists.1 hl
      obtain ⟨p2, hp2, hb2⟩ := h.heap l k hk
      rw [hp] at hp2; cases hp2
      exact hb2.lt hc
    by_cases e : l = st.nx <;> by_cases e' : l' = st.nx
    · rw [e, e']
    · rw [if_neg (Ne.symm e')] at hl'
      simp only [if_pos e, if_neg e'] at hp hp'
      cases hp
      have := hlt l' p' hl' hp' hc'
      simp at hb; omega
    · rw [if_neg (Ne.symm e)] at hl
      simp only [if_neg e, if_pos e'] at hp hp'
      cases hp'
      have := hlt l p hl hp hc
      simp at hb; omega
    · rw [if_neg (Ne.symm e)] at hl
      rw [if_neg (Ne.symm e')] at hl'
      simp only [if_neg e, if_neg e'] at hp hp'
      exact h.inj l l' p p' hl hl' hp hp' hc hc' hb
  · intro l hl
    have hl' : st.nx + 1 ≤ l := hl
    have : l ≠ st.nx := by omega
    simp only [if_neg this]
    exact h.nx l (by omega)
end
section
variable {P : Program} {G : Nat → Option D} {N : Nat} {F : Fr} {ops : Array Oper} {rest : List Oper} {o : Oper} {Q : Exit → St → Prop} {st : St} {t e : TypeId} {z : Value} {size bytes : Nat}
/-- Append of something to a slice whose capacity is its length: a new row of the frame's own. -/
theorem SmL.appendNew (hF : Env F P G N) (hN : St.small N st) (hE : ElemT P t e z size bytes) {s x : Operand} {d : Tmp} {sz sz' : Nat} {xs ys : List (List D)} {f : Bool} (hg : guardS ops st.env o.guard = some true) (ho : o.op = .call ⟨.builtin .append, #[s, x], #[t, t]⟩) (hd : o.dst = some d) (hdN : d < N)
    (hs : evD G st.env s = some (.d (.list sz xs true))) (hx : evD G st.env x = some (.d (.list sz' ys f))) (hsz : sz = size ∨ xs = []) (hsz' : sz' = size) (hy : ys ≠ []) (hb : (xs.length + ys.length) * bytes ≤ 140737488355328) (hb2 : xs.length + ys.length ≤ 140737488355328)
    (k : SmL F ops rest Q ⟨(d, .sref st.nx 0 (xs ++ ys).length) :: st.env, (st.nx, ⟨size, (xs ++ ys).map fun r => r.map V.d⟩) :: st.h, st.nx + 1⟩) : SmL F ops (o :: rest) Q st := by
  intro μ C a w hsim
  obtain ⟨rfl, rfl, hG⟩ := hF
  obtain ⟨i0, hi, hz0, hz1, hz2⟩ := info_parts hE.info
  refine wpList_step fun K hK => ?_
  rw [guardS_ok hsim hg hN, if_pos rfl]
  have hsv := evD_ok hsim hG hs
  have hxv := evD_ok hsim hG hx
  have hk := hsim.known
  obtain ⟨ao, cap, vs, e1, hcap, hvl, hvv, hvx, hvr⟩ := firstCells_ok (P := F.P) hk hsv hsz
  obtain ⟨bo, cap', us, e2, _, hul, huv, hux, hur⟩ := firstCells_ok (P := F.P) hk hxv (.inl hsz')
  have hdr : Below w.heap.size w w.drew := (Below.refl _ _).drew
  unfold Oper.wp
  rw [exec_append ho, Sem.run_bind, e1, e2]
  rw [hcap rfl]
  have hm : 0 < ys.length := List.length_pos_iff.2 hy
  have hr1 := hvr w.drew hdr
  have hr2 := hur w.drew hdr
  rw [e1, hcap rfl] at hr1
  rw [e2] at hr2
  have hrun := run_append_gen (P := F.P) (w := w) hE.und i0 hi hz0 ao xs.length xs.length vs bo ys.length cap' us o.type (by rw [hz1]; exact hr1) (by rw [hz1]; exact hr2) (by omega) (by rw [hz2]; exact hb) hb2
  rw [hrun, Result.andThen_ok]
  show Oper.upon F.P o a K _ (.ok (.value _) _)
  rw [Oper.upon_value, hd]
  have hge := grownCap_ge w (xs.length + ys.length) xs.length e
  have hgm := grownCap_le_maxLen w (xs.length + ys.length) xs.length e (by unfold maxLen; omega)
  generalize hgc : grownCap w (xs.length + ys.length) xs.length e = g at hge hgm ⊢
  have hrowx : ∀ x ∈ xs ++ ys, x.length = size := by
    intro x hx
    rcases List.mem_append.1 hx with hx | hx
    · exact hvx x hx
    · exact hux x hx
  have hs1 := hsim.drew.allocCap g size ((xs ++ ys).map fun r => r.map V.d) (vs.toArray ++ us.toArray ++ Builtin.zeroCells z.cells (g - (xs.length + ys.length))) e
    (by intro r hr; obtain ⟨x, hx, rfl⟩ := List.mem_map.1 hr; simpa using hrowx x hx) (by simp; omega) (by unfold maxLen at hgm; omega)
    (grown_size g (xs.length + ys.length) size z.cells hE.zs vs us (by rw [hvl, hul, Nat.add_mul]) hge)
    (by
      have := rowsV_flat (μ := μ) (C := C) (rows := xs ++ ys) (vs := vs ++ us) (size := size) hrowx (by rw [List.flatten_append]; exact vals_append hvv huv) (Builtin.zeroCells z.cells (g - (xs.length + ys.length))).toList
      simpa using this)
  have hput := hs1.put (t := d) hdN (x := .sref st.nx 0 (xs ++ ys).length) (v := .slice (some ⟨w.heap.size, 0, none⟩) (xs.length + ys.length) g) ⟨⟨w.heap.size, g, size⟩, some ⟨w.heap.size, 0, none⟩, (by show (if st.nx = st.nx then some (⟨w.drew.heap.size, g, size⟩ : Place) else _) = _; rw [if_pos rfl]; rfl), by simp, by simpa using hge, fun _ => by simp⟩
  exact hK _ _ (k _ C _ _ hput)
/-- A slice of elements, as a row of the frame's own. -/
theorem SmL.buildOwn (hF : Env F P G N) (hN : St.small N st) {t : TypeId} {n : Nat} {ps : Array (Nat × Operand)} {qs : List (Nat × V)} {sz : Nat} {rows : List (List D)} {d : Tmp} (hg : guardS ops st.env o.guard = some true) (ho : o.op = .buildSlice t n ps) (hd : o.dst = some d) (hdN : d < N)
    (hp : evParts (evD G st.env) ps.toList = some qs) (hb : buildSliceS P t n qs = some (.d (.list sz rows true))) (hne : rows ≠ [])
    (k : SmL F ops rest Q ⟨(d, .sref st.nx 0 rows.length) :: st.env, (st.nx, ⟨sz, rows.map fun r => r.map V.d⟩) :: st.h, st.nx + 1⟩) : SmL F ops (o :: rest) Q st := by
  intro μ C a w hsim
  obtain ⟨rfl, rfl, hG⟩ := hF
  refine wpList_step fun K hK => ?_
  rw [guardS_ok hsim hg hN, if_pos rfl]
  have hev : ∀ x v, evD G st.env x = some v → RepV μ C v (a.eval x) := fun x v h => evD_ok hsim hG h
  have hp' : RepPs μ C qs (ps.map fun (i, x) => (i, a.eval x)).toList := by simpa using evParts_ok hev hp
  obtain ⟨s', rows', cells', e', he, hnle, hn, hR, hrun⟩ := buildSliceS_run (P := F.P) (w := w) hp' hb
  cases he
  have hex : (execOp a.eval o).run F.P w = .ok (.value (.slice (some ⟨w.heap.size, 0, none⟩) n n)) (w.alloc (.cells cells' e')) := by
    simp only [execOp, ho]
    simp [Sem.run_bind, hrun, Result.andThen]
  unfold Oper.wp
  rw [hex, Oper.upon_value, hd]
  have hs1 := hsim.alloc sz (rows.map fun r => r.map V.d) cells' e' (by intro r hr; obtain ⟨x, hx, rfl⟩ := List.mem_map.1 hr; obtain ⟨i, hi⟩ := List.getElem?_of_mem hx; simpa using (hR.2 i x hi).1) (by simpa using hne) (by simp; omega) (by simpa using hR.1) (by
    intro i r hr j x hj
    rw [List.getElem?_map] at hr
    cases hrow : rows[i]? with
    | none => rw [hrow] at hr; cases hr
    | some row =>
      rw [hrow] at hr; cases hr
      rw [List.getElem?_map] at hj
      cases hd : row[j]? with
      | none => rw [hd] at hj; cases hj
      | some dd =>
        rw [hd] at hj; cases hj
        obtain ⟨u, g1, g2, g3⟩ := (hR.2 i row hrow).2 j dd hd
        exact ⟨u, by simpa using g1, g2, g3⟩)
  have hpos : 0 < rows.length := List.length_pos_iff.2 hne
  have hput := hs1.put (t := d) hdN (x := .sref st.nx 0 rows.length) (v := .slice (some ⟨w.heap.size, 0, none⟩) n n) ⟨⟨w.heap.size, rows.length, sz⟩, some ⟨w.heap.size, 0, none⟩, by simp, by simp [hn], by simp, fun _ => by simp⟩
  exact hK _ _ (k _ C _ _ hput)
/-- Append to an empty slice without room: a row of the frame's own. -/
theorem SmL.appendFresh (hF : Env F P G N) (hN : St.small N st) (hE : ElemT P t e z size bytes) {s x : Operand} {d : Tmp} {sz sz' : Nat} {ys : List (List D)} {f : Bool} (hg : guardS ops st.env o.guard = some true) (ho : o.op = .call ⟨.builtin .append, #[s, x], #[t, t]⟩) (hd : o.dst = some d) (hdN : d < N)
    (hs : evD G st.env s = some (.d (.list sz [] true))) (hx : evD G st.env x = some (.d (.list sz' ys f))) (hsz' : sz' = size ∨ ys = []) (hb : ys.length * bytes ≤ 140737488355328) (hb2 : ys.length ≤ 140737488355328)
    (k : SmL F ops rest Q ⟨(d, .sref st.nx 0 ys.length) :: st.env, (st.nx, ⟨size, ys.map fun r => r.map V.d⟩) :: st.h, st.nx + 1⟩) : SmL F ops (o :: rest) Q st := by
  by_cases hy : ys = []
  · subst hy
    have hk2 : SmL F ops rest Q { st with env := (d, .d (.list size [] true)) :: st.env } := by
      refine SmL.to (St.to_own (st := { st with env := (d, .d (.list size [] true)) :: st.env }) (t := d) (sz := size) size (by simp [look])) ?_
      refine SmL.less (st' := ⟨(d, .sref st.nx 0 0) :: st.env, (st.nx, ⟨size, []⟩) :: st.h, st.nx + 1⟩) ⟨fun t x hx => ?_, fun _ _ h => h, Nat.le_refl _⟩ (by simpa using k)
      simp only [look] at hx ⊢
      split at hx
      · rename_i e; rw [if_pos e]; exact hx
      · rename_i e; rw [if_neg e, if_neg e]; exact hx
    intro μ C a w hsim
    obtain ⟨rfl, rfl, hG⟩ := hF
    obtain ⟨i0, hi, hz0, hz1, hz2⟩ := info_parts hE.info
    refine wpList_step fun K hK => ?_
    rw [guardS_ok hsim hg hN, if_pos rfl]
    have hsv := evD_ok hsim hG hs
    have hxv := evD_ok hsim hG hx
    have hk := hsim.known
    obtain ⟨ao, cap, vs, e1, hcap, hvl, hvv, hvx, hvr⟩ := firstCells_ok (P := F.P) (size := size) hk hsv (.inr rfl)
    obtain ⟨bo, cap', us, e2, _, hul, huv, hux, hur⟩ := firstCells_ok (P := F.P) (size := size) hk hxv (.inr rfl)
    unfold Oper.wp
    rw [exec_append ho, Sem.run_bind, e1, e2]
    rw [hcap rfl]
    have : (Builtin.append_ #[t, t] o.type #[.slice ao ([] : List (List D)).length ([] : List (List D)).length, .slice bo ([] : List (List D)).length cap']).run F.P w = .ok (.slice ao ([] : List (List D)).length ([] : List (List D)).length) w := by
      have hf0 := hur w (Below.refl _ _)
      rw [e2] at hf0
      have : us = [] := List.eq_nil_of_length_eq_zero (by simpa using hul)
      subst this
      have hszr : (sizeOf e).run F.P w = .ok size w := by simp [sizeOf, typeInfo, hi, hz1]
      simp only [List.length_nil] at hf0
      cases ao with
      | none => simp [Builtin.append_, run_underlying hE.und, hszr, Builtin.lenOf, hf0]
      | some b => simp [Builtin.append_, run_underlying hE.und, hszr, Builtin.lenOf, hf0, storeCells]
    rw [this, Result.andThen_ok]
    show Oper.upon F.P o a K _ (.ok (.value _) w)
    rw [Oper.upon_value, hd]
    refine hK _ _ (hk2 μ C _ w (hsim.put hdN ?_))
    rw [e1, hcap rfl] at hsv
    show Rep C _ _
    cases hsv with
    | nil _ _ a cap h => exact .nil _ _ _ _ h
    | list _ _ _ _ _ _ h => exact absurd rfl h
  · have hsz2 : sz' = size := hsz'.resolve_right hy
    exact SmL.appendNew hF hN hE hg ho hd hdN hs hx (.inr rfl) hsz2 hy (by simpa using hb) (by simpa using hb2) (by simpa using k)
end
section
variable {P : Program} {G : Nat → Option D} {N : Nat} {F : Fr} {ops rest : List Oper} {o : Oper} {Q : Exit → St → Prop} {env : List (Nat × V)} {h : List (Nat × Blk)} {nx : Nat} {t e : TypeId} {z : Value} {size bytes : Nat}
theorem SmG.appendNew (hF : Env F P G N) (hE : ElemT P t e z size bytes) {s x : Operand} {d : Tmp} {sz sz' : Nat} {xs ys : List (List D)} {f : Bool} (ho : o.op = .call ⟨.builtin .append, #[s, x], #[t, t]⟩) (hd : o.dst = some d) (hdN : Nat.blt d N = true) (hg : guardB ops env o.guard = some true)
    (hs : evB G env s = some (.d (.list sz xs true))) (hx : evB G env x = some (.d (.list sz' ys f))) (hsz : sz = size ∨ xs = []) (hsz' : sz' = size) (hy : ys ≠ []) (hb : (xs.length + ys.length) * bytes ≤ 140737488355328) (hb2 : xs.length + ys.length ≤ 140737488355328)
    (k : SmG F N ops rest Q ⟨(d, .sref nx 0 (xs ++ ys).length) :: env, (nx, dB size (xs ++ ys)) :: h, nx + 1⟩) : SmG F N ops (o :: rest) Q ⟨env, h, nx⟩ := by
  have hdN' : d < N := by simpa [Nat.blt_eq] using hdN
  intro hsm
  rw [evB_eq] at hs hx
  exact SmL.appendNew hF hsm hE (guardB_ok hg) ho hd hdN' hs hx hsz hsz' hy hb hb2 (k (small_put hsm hdN'))
theorem SmG.buildOwn (hF : Env F P G N) {t : TypeId} {n : Nat} {ps : List (Nat × Operand)} {qs : List (Nat × V)} {sz : Nat} {rows : List (List D)} {d : Tmp} (ho : o.op = .buildSlice t n ps.toArray) (hd : o.dst = some d) (hdN : Nat.blt d N = true) (hg : guardB ops env o.guard = some true)
    (hp : evParts (evB G env) ps = some qs) (hb : buildSliceS P t n qs = some (.d (.list sz rows true))) (hne : rows ≠ [])
    (k : SmG F N ops rest Q ⟨(d, .sref nx 0 rows.length) :: env, (nx, dB sz rows) :: h, nx + 1⟩) : SmG F N ops (o :: rest) Q ⟨env, h, nx⟩ := by
  have hdN' : d < N := by simpa [Nat.blt_eq] using hdN
  intro hsm
  exact SmL.buildOwn hF hsm (guardB_ok hg) ho hd hdN' (by simpa using evParts_B hp) hb hne (k (small_put hsm hdN'))
theorem SmG.appendFresh (hF : Env F P G N) (hE : ElemT P t e z size bytes) {s x : Operand} {d : Tmp} {sz sz' : Nat} {ys : List (List D)} {f : Bool} (ho : o.op = .call ⟨.builtin .append, #[s, x], #[t, t]⟩) (hd : o.dst = some d) (hdN : Nat.blt d N = true) (hg : guardB ops env o.guard = some true)
    (hs : evB G env s = some (.d (.list sz [] true))) (hx : evB G env x = some (.d (.list sz' ys f))) (hsz' : sz' = size ∨ ys = []) (hb : ys.length * bytes ≤ 140737488355328) (hb2 : ys.length ≤ 140737488355328)
    (k : SmG F N ops rest Q ⟨(d, .sref nx 0 ys.length) :: env, (nx, dB size ys) :: h, nx + 1⟩) : SmG F N ops (o :: rest) Q ⟨env, h, nx⟩ := by
  have hdN' : d < N := by simpa [Nat.blt_eq] using hdN
  intro hsm
  rw [evB_eq] at hs hx
  exact SmL.appendFresh hF hsm hE (guardB_ok hg) ho hd hdN' hs hx hsz' hb hb2 (k (small_put hsm hdN'))
/-- An empty slice without room as a row of the frame's own. -/
theorem SmG.own {t sz : Nat} (sz' : Nat) (ht : lookB env t = some (.d (.list sz [] true))) (k : SmG F N ops rest Q ⟨(t, .sref nx 0 0) :: env, (nx, ⟨sz', []⟩) :: h, nx + 1⟩) : SmG F N ops rest Q ⟨env, h, nx⟩ := by
  intro hsm
  rw [lookB_eq] at ht
  refine SmL.to (St.to_own (st := ⟨env, h, nx⟩) (t := t) sz' ht) (k ?_)
  exact small_put hsm (hsm t _ ht)
/-- A block of the frame's own does not turn any more. -/
theorem SmG.freeze {l sz : Nat} (rows : List (List D)) (hk : lookB h l = some (dB sz rows)) (k : SmG F N ops rest Q ⟨frzE l sz rows env, dropH l h, nx⟩) : SmG F N ops rest Q ⟨env, h, nx⟩ := by
  intro hsm
  rw [lookB_eq] at hk
  refine SmL.to (St.to_freeze (st := ⟨env, h, nx⟩) rows hk rfl) (k ?_)
  intro s y hy
  simp only [look_frz] at hy
  cases hq : look env s with
  | none => rw [hq] at hy; cases hy
  | some y' => exact hsm s y' hq
theorem Sm.freeze {c : Code} {l sz : Nat} (rows : List (List D)) (hk : lookB h l = some (dB sz rows)) (k : Sm F c Q ⟨frzE l sz rows env, dropH l h, nx⟩) : Sm F c Q ⟨env, h, nx⟩ := by
  rw [lookB_eq] at hk
  exact Sm.to (St.to_freeze (st := ⟨env, h, nx⟩) rows hk rfl) k
theorem Sm.own {c : Code} {t sz : Nat} (sz' : Nat) (ht : lookB env t = some (.d (.list sz [] true))) (k : Sm F c Q ⟨(t, .sref nx 0 0) :: env, (nx, ⟨sz', []⟩) :: h, nx + 1⟩) : Sm F c Q ⟨env, h, nx⟩ := by
  rw [lookB_eq] at ht
  exact Sm.to (St.to_own (st := ⟨env, h, nx⟩) (t := t) sz' ht) k
theorem SmG.ownMix {t sz n : Nat} {rs : List D} (sz' : Nat) (ht : lookB env t = some (.d (.agg n (.list sz [] true :: rs)))) (k : SmG F N ops rest Q ⟨(t, .mix false nx 0 rs) :: env, (nx, ⟨sz', []⟩) :: h, nx + 1⟩) : SmG F N ops rest Q ⟨env, h, nx⟩ := by
  intro hsm
  rw [lookB_eq] at ht
  refine SmL.to (St.to_ownMix (st := ⟨env, h, nx⟩) (t := t) sz' ht) (k ?_)
  exact small_put hsm (hsm t _ ht)
end
end Go.Proofs.YtmindblfbijaaaaDoor
namespace Go.Proofs.YtmindblfbijaaaaDoor
open Go.RowKit
/-- A row that a call hands over: nothing else names its block. -/
def OwnD (C : Facts) (base : Nat) (w : World) (v : Value) (sz : Nat) (rows : List (List D)) : Prop :=
  ∃ p a, v = .slice a rows.length p.cap ∧ (0 < p.cap → a = some ⟨p.b, 0, none⟩) ∧ BlkOk base (fun _ => none) C w p (dB sz rows)
def Pk.val : Pk → Value → List Value → Value
  | .one, s, _ => s
  | .tup, s, us => .tuple (s :: us).toArray
  | .agg, s, us => .agg (s :: us).toArray
def Pk.ok (C : Facts) : Pk → List D → List Value → Prop
  | .one, _, _ => True
  | .tup, rest, us => Rp C (.outs rest us)
  | .agg, rest, us => Rp C (.vals rest us)
def Pk.d : Pk → D → List D → D
  | .one, x, _ => x
  | .tup, x, rest => .tup (x :: rest)
  | .agg, x, rest => .agg (rest.length + 1) (x :: rest)
/-- A function, called with values that stand for these data, hands over a row. -/
def CallsO (P : Program) (G : Nat → Option D) (f : FuncId) (ds : List D) (pk : Pk) (sz : Nat) (rows : List (List D)) (rest : List D) : Prop :=
  ∀ C w vs, GlobD G C → Known C w → Rp C (.outs ds vs) → Calls P f vs.toArray w fun e w' => ∃ s us C', e = .returned (pk.val s us) ∧ More w C w' C' ∧ OwnD C' w.heap.size w' s sz rows ∧ pk.ok C' rest us
section
variable {F : Fr} {st : St} {μ : Nat → Option Place} {C : Facts} {a : Act} {w : World}
/-- A block that a call handed over. -/
theorem Sim.adopt (h : Sim F st μ C a w) {w' : World} {C' : Facts} (hm : More w C w' C') {m n' : Nat} (hfree : μ m = none) (hmn : m < n') (hn : st.nx ≤ n') {p : Place} {sz : Nat} {rows : List (List D)} (ho : BlkOk w.heap.size (fun _ => none) C' w' p (dB sz rows)) :
    Sim F { st with h := (m, dB sz rows) :: st.h, nx := n' } (fun l => if l = m then some p else μ l) C' a w' := by
  have hμ : ∀ l q, μ l = some q → (fun l => if l = m then some p else μ l) l = some q := by
    intro l q hq
    have : l ≠ m := fun e => by rw [e, hfree] at hq; cases hq
    simp [this, hq]
  have h1 := h.more hm
  refine ⟨h1.size, h1.defers, h1.below, h1.sub, h1.new, h1.known, fun t x hx => (h1.env t x hx).mono hμ (fun _ _ _ h => h), ?_, ?_, ?_⟩
  · intro l k hk
    simp only [look] at hk
    by_cases hl : m = l
    · subst hl
      rw [if_pos rfl] at hk
      cases hk
      refine ⟨p, by simp, ho.sz, ho.len, ho.max, ho.row, fun hc => ?_⟩
      obtain ⟨b1, b2, cur, T, b3, b4, b5⟩ := ho.cells hc
      exact ⟨Nat.le_trans h.below.size b1, b2, cur, T, b3, b4, b5.mono (fun l p h => by cases h) (fun _ _ _ h => h)⟩
    · rw [if_neg hl] at hk
      obtain ⟨q, hq, hb⟩ := h1.heap l k hk
      refine ⟨q, hμ l q hq, hb.sz, hb.len, hb.max, hb.row, fun hc => ?_⟩
      obtain ⟨a1, a2, cur', T', a3, a4, a5⟩ := hb.cells hc
      exact ⟨a1, a2, cur', T', a3, a4, a5.mono hμ (fun _ _ _ h => h)⟩
  · intro l l' q q' hl hl' hq hq' hc hc' hb
    simp only [look] at hl hl'
    have hlt : ∀ l q, (look st.h l).isSome = true → μ l = some q → 0 < q.cap → q.b < w.heap.size := by
      intro l q hl hq hc
      obtain ⟨k, hk⟩ := Option.isSome_iff_exists.1 hl
      obtain ⟨q2, hq2, hb2⟩ := h.heap l k hk
      rw [hq] at hq2; cases hq2
      exact hb2.lt hc
    by_cases e : l = m <;> by_cases e' : l' = m
    · rw [e, e']
    · rw [if_neg (Ne.symm e')] at hl'
      simp only [if_pos e, if_neg e'] at hq hq'
      cases hq
      have := hlt l' q' hl' hq' hc'
      have := (ho.cells hc).1
      omega
    · rw [if_neg (Ne.symm e)] at hl
      simp only [if_neg e, if_pos e'] at hq hq'
      cases hq'
      have := hlt l q hl hq hc
      have := (ho.cells hc').1
      omega
    · rw [if_neg (Ne.symm e)] at hl
      rw [if_neg (Ne.symm e')] at hl'
      simp only [if_neg e, if_neg e'] at hq hq'
      exact h.inj l l' q q' hl hl' hq hq' hc hc' hb
  · intro l hl
    have hl' : n' ≤ l := hl
    have : l ≠ m := by omega
    simp only [if_neg this]
    exact h.nx l (by omega)
theorem pk_rep {pk : Pk} {m : Nat} {n : Nat} {rest : List D} {p : Place} {ao : Option Addr} {us : List Value} {μ : Nat → Option Place} (hp : μ m = some p) (hn : n ≤ p.cap) (hao : 0 < p.cap → ao = some ⟨p.b, 0, none⟩) (hok : pk.ok C rest us) : RepV μ C (pk.v m n rest) (pk.val (.slice ao n p.cap) us) := by
  cases pk with
  | one => exact ⟨p, ao, hp, by simp [Pk.val], by simpa using hn, by simpa using hao⟩
  | tup => exact ⟨p, ao, us, hp, hn, hao, by rw [if_pos rfl]; exact ⟨hok, rfl⟩⟩
  | agg => exact ⟨p, ao, us, hp, hn, hao, by rw [if_neg (by simp)]; exact ⟨hok, rfl⟩⟩
end
section
variable {P : Program} {G : Nat → Option D} {N : Nat} {F : Fr} {ops : Array Oper} {rest : List Oper} {o : Oper} {Q : Exit → St → Prop} {st : St} {pk : Pk} {sz : Nat} {rows : List (List D)} {rs : List D}
/-- A call that hands over a row. -/
theorem SmL.callO (hF : Env F P G N) (hN : St.small N st) {f : FuncId} {xs : Array Operand} {ts : Array TypeId} {t : Tmp} {ds : List D} (hg : guardS ops st.env o.guard = some true) (ho : o.op = .call ⟨.value (.func f), xs, ts⟩) (hd : o.dst = some t) (hb : hasBody P f = true)
    (hargs : evArgs (evD G st.env) xs.toList = some ds) (ht : t < N) (hc : CallsO P G f ds pk sz rows rs)
    (k : SmL F ops rest Q ⟨(t, pk.v st.nx rows.length rs) :: st.env, (st.nx, dB sz rows) :: st.h, st.nx + 1⟩) : SmL F ops (o :: rest) Q st := by
  intro μ C a w hs
  obtain ⟨rfl, rfl, hG⟩ := hF
  have hev : ∀ x v, evD G st.env x = some v → RepV μ C v (a.eval x) := fun x v h => evD_ok hs hG h
  refine wpList_step fun K hK => ?_
  rw [guardS_ok hs hg hN, if_pos rfl]
  refine wp_call f (fun a w => hcall_of hb a w) xs ts ho (xs.toList.map a.eval) rfl ?_
  refine (hc C w _ (hG.mono hs.sub) hs.known (evArgs_ok hev hargs)).mono ?_
  rintro e w' ⟨s, us, C', rfl, hm, ⟨p, ao, rfl, hao, hB⟩, hok⟩
  have hs2 := hs.adopt hm (m := st.nx) (n' := st.nx + 1) (hs.nx _ (Nat.le_refl _)) (by omega) (by omega) hB
  refine ⟨_, rfl, by rw [hd]; exact hK _ _ (k _ C' _ w' (hs2.put ht (pk_rep (by simp) (by simpa using hB.len) hao hok)))⟩
theorem OpMakes.callO (hF : Env F P G N) {env : List (Nat × V)} {f : FuncId} {xs : Array Operand} {ts : Array TypeId} {ds : List D} (ho : o.op = .call ⟨.value (.func f), xs, ts⟩) (hb : hasBody P f = true)
    (hargs : evArgs (evD G env) xs.toList = some ds) (hc : CallsO P G f ds pk sz rows rs) : OpMakes F G o env (dB sz rows) (fun m => pk.v m rows.length rs) := by
  intro μ C a w nx' hh hs hop m hm hfree K Q hK
  obtain ⟨rfl, rfl, hG⟩ := hF
  have hxs : ∀ y ∈ xs.toList, ∀ v, evD G env y = some v → RepV μ C v (a.eval y) := fun y hy v hv => hop y (by rw [ho]; simp [Op.operands, Call.operands]; exact .inr (by simpa using hy)) v hv
  have hrep : ∀ {ys : List Operand} {es : List D}, (∀ y ∈ ys, ∀ v, evD G env y = some v → RepV μ C v (a.eval y)) → evArgs (evD G env) ys = some es → Rp C (.outs es (ys.map a.eval)) := by
    intro ys
    induction ys with
    | nil => intro es _ h; cases h; exact .onil
    | cons y ys ih =>
      intro es hy h
      simp only [evArgs, Option.bind_eq_some_iff] at h
      obtain ⟨v, hv, h⟩ := h
      split at h
      · rename_i d
        simp only [Option.map_eq_some_iff] at h
        obtain ⟨r, hr, rfl⟩ := h
        exact .ocons _ _ _ _ (hy y (by simp) _ hv) (ih (fun z hz => hy z (by simp [hz])) hr)
      · cases h
  refine wp_call f (fun a w => hcall_of hb a w) xs ts ho (xs.toList.map a.eval) rfl ?_
  refine (hc C w _ (hG.mono hs.sub) hs.known (hrep hxs hargs)).mono ?_
  rintro e w' ⟨s, us, C', rfl, hm', ⟨p, ao, rfl, hao, hB⟩, hok⟩
  have hs2 := hs.adopt hm' (m := m) (n' := nx') hfree hm (Nat.le_refl _) hB
  refine ⟨_, rfl, hK _ _ _ C' hs2 hm'.sub (fun l q hq => ?_) (fun l hl => by simp [hl]) (pk_rep (by simp) (by simpa using hB.len) hao hok)⟩
  have : l ≠ m := fun e => by rw [e, hfree] at hq; cases hq
  simp [this, hq]
end
section
variable {P : Program} {G : Nat → Option D} {N : Nat} {F : Fr} {ops rest : List Oper} {o : Oper} {Q : Exit → St → Prop} {env : List (Nat × V)} {h : List (Nat × Blk)} {nx : Nat} {al : List (Nat × Blk)} {K : List (Nat × V) → List (Nat × Blk) → Nat → Prop} {pk : Pk} {sz : Nat} {rows : List (List D)} {rs : List D}
theorem SmG.callO (hF : Env F P G N) {f : FuncId} {xs : List Operand} {ts : Array TypeId} {t : Tmp} {ds : List D} (ho : o.op = .call ⟨.value (.func f), xs.toArray, ts⟩) (hd : o.dst = some t) (hb : hasBody P f = true) (ht : Nat.blt t N = true)
    (hg : guardB ops env o.guard = some true) (hargs : evArgs (evB G env) xs = some ds) (hc : CallsO P G f ds pk sz rows rs)
    (k : SmG F N ops rest Q ⟨(t, pk.v nx rows.length rs) :: env, (nx, dB sz rows) :: h, nx + 1⟩) : SmG F N ops (o :: rest) Q ⟨env, h, nx⟩ := by
  have ht' : t < N := by simpa [Nat.blt_eq] using ht
  intro hs
  exact SmL.callO hF hs (guardB_ok hg) ho hd hb (evArgs_B (by simpa using hargs)) ht' hc (k (small_put hs ht'))
theorem Head.co (hF : Env F P G N) {f : FuncId} {xs : List Operand} {ts : Array TypeId} {t : Tmp} {ds : List D} (ho : o.op = .call ⟨.value (.func f), xs.toArray, ts⟩) (hd : o.dst = some t) (hb : hasBody P f = true) (ht : Nat.blt t N = true)
    (hg : guardB ops env o.guard = some true) (hargs : evArgs (evB G env) xs = some ds) (hc : CallsO P G f ds pk sz rows rs)
    (k : Head F G N ops.toArray h rest ((t, pk.v nx rows.length rs) :: env) ((nx, dB sz rows) :: al) (nx + 1) K) : Head F G N ops.toArray h (o :: rest) env al nx K :=
  ⟨t, hd, by simpa [Nat.blt_eq] using ht, .inr ⟨dB sz rows, fun m => pk.v m rows.length rs, guardB_ok hg, .callO hF ho hb (evArgs_B (by simpa using hargs)) hc, k⟩⟩
end
/-- What a row that was handed over stands for, from now on. -/
theorem OwnD.data {C : Facts} {base : Nat} {w : World} {v : Value} {sz : Nat} {rows : List (List D)} (hk : Known C w) (ho : OwnD C base w v sz rows) : ∃ C', (∀ b o u, C b o u → C' b o u) ∧ (∀ b o u, C' b o u → C b o u ∨ base ≤ b) ∧ Known C' w ∧ Rep C' (.list sz rows false) v := by
  obtain ⟨p, ao, rfl, hao, hb⟩ := ho
  refine ⟨fun b o u => C b o u ∨ (0 < p.cap ∧ b = p.b ∧ w.cell? ⟨p.b, o, none⟩ = some u), fun b o u h => .inl h, ?_, ?_, ?_⟩
  · rintro b o u (h | ⟨h1, rfl, _⟩)
    · exact .inl h
    · exact .inr (hb.cells h1).1
  · rintro b o u (h | ⟨h1, rfl, h2⟩)
    · exact hk b o u h
    · exact h2
  · have hlen : rows.length ≤ p.cap := by simpa using hb.len
    by_cases hr0 : rows = []
    · subst hr0
      refine .nil _ _ _ _ ⟨Nat.zero_le _, by simp, hb.max, fun hn => ?_, fun x hx hpos => ?_⟩
      · rcases Nat.eq_zero_or_pos p.cap with h0 | h0
        · exact h0
        · rw [hao h0] at hn; cases hn
      · rw [hao hpos] at hx; cases hx; rfl
    · have hpos : 0 < rows.length := List.length_pos_iff.2 hr0
      have hcap : 0 < p.cap := by omega
      obtain rfl := hao hcap
      refine .list _ _ _ _ _ _ hr0 ⟨hlen, by simp, hb.max, fun h => (by cases h), fun x h _ => by cases h; rfl⟩ (rows_of fun i x hi => ?_)
      have hrow : (rows.map fun r => r.map V.d)[i]? = some (x.map V.d) := by simp [hi]
      refine ⟨by simpa using hb.row _ (List.mem_of_getElem? hrow), mem_of fun j d hj => ?_⟩
      obtain ⟨_, _, cur, T, h3, h4, h5⟩ := hb.cells hcap
      obtain ⟨u, g1, g2, g3⟩ := h5 i _ hrow j (.d d) (by simp [hj])
      have hc : w.cell? ⟨p.b, 0 + i * sz + j, none⟩ = some u := by
        rw [Nat.zero_add]
        simp [World.cell?, h3]
        simpa using g1
      exact ⟨u, .inr ⟨hcap, rfl, hc⟩, g2, Rp.mono (fun _ _ _ h => .inl h) g3⟩
theorem CallsO.data {P : Program} {G : Nat → Option D} {f : FuncId} {ds : List D} {pk : Pk} {sz : Nat} {rows : List (List D)} {rest : List D} (h : CallsO P G f ds pk sz rows rest) : CallsD P G f ds (pk.d (.list sz rows false) rest) := by
  intro C w vs hG hk ha
  refine (h C w vs hG hk ha).mono ?_
  rintro e w' ⟨s, us, C', rfl, hm, ho, hok⟩
  obtain ⟨C2, k1, k2, k3, k4⟩ := ho.data hm.known
  refine ⟨_, C2, rfl, ⟨hm.below, fun b o u hc => k1 _ _ _ (hm.sub _ _ _ hc), fun b o u hc => (k2 _ _ _ hc).elim (hm.new b o u) .inr, k3⟩, ?_⟩
  cases pk with
  | one => exact k4
  | tup => exact .tup _ _ (.ocons _ _ _ _ k4 (Rp.mono k1 hok))
  | agg =>
    refine .agg _ _ _ (by simp) (.vcons _ _ _ _ ?_ k4 (Rp.mono k1 hok))
    obtain ⟨p, ao, rfl, _⟩ := ho
    rfl
/-- What a frame hands over. -/
def retV (P : Program) (pk : Pk) (st : St) (rs : List ResultVar) : Option V :=
  match pk with
  | .tup => match rs with
    | r :: rs => (retOne P st r).bind fun v => match v with
      | .sref l 0 n => if rs.isEmpty then none else (retAll P st rs).map fun ds => .mix true l n ds
      | _ => none
    | _ => none
  | _ => match rs with
    | [r] => retOne P st r
    | _ => none
def retO (P : Program) (fn : Func) (pk : Pk) (sz : Nat) (rows : List (List D)) (rest : List D) : Exit → St → Prop
  | .ret, st | .normal, st => ∃ l, retV P pk st fn.results.toList = some (pk.v l rows.length rest) ∧ look st.h l = some (dB sz rows)
  | _, _ => False
section
variable {P : Program} {G : Nat → Option D} {N : Nat} {F : Fr} {st : St} {μ : Nat → Option Place} {C : Facts} {a : Act} {w : World}
theorem retOne_ok (hs : Sim F st μ C a w) {r : ResultVar} {v : V} (hv : retOne F.P st r = some v) :
    ∃ u, ((match r with | .tmp t => pure (a.tmps.getD t undef) | .cell p t => do loadVar t (← asAddr (a.tmps.getD p undef)) : Sem Value)).run F.P w = .ok u w ∧ RepV μ C v u := by
  cases r with
  | tmp t => exact ⟨_, rfl, hs.env t _ hv⟩
  | cell p ty =>
    simp only [retOne, Option.bind_eq_some_iff] at hv
    obtain ⟨x, hx, hl⟩ := hv
    obtain ⟨u, a1, a2⟩ := loadS_ok hs (hs.env p x hx) hl
    refine ⟨u, ?_, a2⟩
    have hp := hs.env p x hx
    show ((do loadVar ty (← asAddr (a.tmps.getD p undef)) : Sem Value)).run F.P w = .ok u w
    generalize a.tmps.getD p undef = q at a1 hp ⊢
    cases q with
    | pointer b =>
      cases b with
      | some b => simpa [Instr.loadAt, Instr.sureAddr, asAddr, Sem.run_bind, Result.andThen] using a1
      | none => simp [Instr.loadAt, Instr.sureAddr, stuck, Sem.run_bind, Result.andThen, Sem.run] at a1
    | _ => simp [Instr.loadAt, Instr.sureAddr, stuck, Sem.run_bind, Result.andThen, Sem.run] at a1
theorem results_of {fn : Func} {us : List Value} (h1 : ((fn.results.toList.mapM fun (r : ResultVar) => (match r with | .tmp t => pure (a.tmps.getD t undef) | .cell p t => do loadVar t (← asAddr (a.tmps.getD p undef)) : Sem Value))).run P w = .ok us w) :
    (results fn a.tmps).run P w = .ok (if h : us.toArray.size = 1 then us.toArray[0] else .tuple us.toArray) w := by
  unfold results
  rw [Array.mapM_eq_mapM_toList]
  simp only [Sem.run_bind]
  have : (List.toArray <$> (fn.results.toList.mapM fun (r : ResultVar) => (match r with | .tmp t => pure (a.tmps.getD t undef) | .cell p t => do loadVar t (← asAddr (a.tmps.getD p undef)) : Sem Value))).run P w = .ok us.toArray w := by
    show ((fn.results.toList.mapM fun (r : ResultVar) => (match r with | .tmp t => pure (a.tmps.getD t undef) | .cell p t => do loadVar t (← asAddr (a.tmps.getD p undef)) : Sem Value)).bind fun x => Sem.pure x.toArray).run P w = _
    have hb := Sem.run_bind' P (fn.results.toList.mapM fun (r : ResultVar) => (match r with | .tmp t => pure (a.tmps.getD t undef) | .cell p t => do loadVar t (← asAddr (a.tmps.getD p undef)) : Sem Value)) (fun x => Sem.pure x.toArray) w
    rw [hb, h1]
    rfl
  erw [this]
  rfl
theorem retV_ok (hs : Sim F st μ C a w) {fn : Func} {pk : Pk} {v : V} (hv : retV F.P pk st fn.results.toList = some v) : ∃ u, (results fn a.tmps).run F.P w = .ok u w ∧ RepV μ C v u := by
  have one : ∀ {r : ResultVar}, fn.results.toList = [r] → retOne F.P st r = some v → ∃ u, (results fn a.tmps).run F.P w = .ok u w ∧ RepV μ C v u := by
    intro r hr hv
    obtain ⟨u, h1, h2⟩ := retOne_ok hs hv
    refine ⟨u, ?_, h2⟩
    have := results_of (P := F.P) (fn := fn) (a := a) (w := w) (us := [u]) (by rw [hr]; simp only [List.mapM_cons, List.mapM_nil, Sem.run_bind, h1, Result.andThen_ok, Sem.run_pure])
    simpa using this
  unfold retV at hv
  split at hv
  · split at hv
    · rename_i r rs hr
      simp only [Option.bind_eq_some_iff] at hv
      obtain ⟨x, hx, hv⟩ := hv
      obtain ⟨u, h1, h2⟩ := retOne_ok hs hx
      split at hv
      · rename_i l n
        split at hv
        · cases hv
        · rename_i hne
          simp only [Option.map_eq_some_iff] at hv
          obtain ⟨ds, hds, rfl⟩ := hv
          obtain ⟨us, g1, g2⟩ := retAll_ok hs hds
          have hul : us ≠ [] := by
            intro e; subst e
            cases rs with
            | nil => simp at hne
            | cons r' rs =>
              have := outs_length g2
              simp only [retAll, Option.bind_eq_some_iff, Option.map_eq_some_iff] at hds
              obtain ⟨_, _, _, _, _, _, rfl⟩ := hds
              simp at this
          have := results_of (P := F.P) (fn := fn) (a := a) (w := w) (us := u :: us) (by rw [hr]; simp only [List.mapM_cons, Sem.run_bind, h1, Result.andThen_ok]; erw [g1]; rfl)
          obtain ⟨p, ao, q1, rfl, q3, q4⟩ := h2
          refine ⟨_, this, p, ao, us, q1, by simpa using q3, by simpa using q4, ?_⟩
          rw [if_pos rfl]
          refine ⟨g2, ?_⟩
          cases us with
          | nil => exact absurd rfl hul
          | cons u2 us => simp
      · cases hv
    · cases hv
  · split at hv
    · rename_i r hr; exact one hr hv
    · cases hv
/-- A function's body that hands over a row. -/
theorem CallsO.of {f : FuncId} {fn : Func} {c : Code} {ds : List D} {pk : Pk} {sz : Nat} {rows : List (List D)} {rest : List D} (hf : P.funcs[f]? = some fn) (hb : fn.body = some c) (hN : fn.ntmps = N) (hp : ds.length ≤ N)
    (h : ∀ F, Env F P G N → Sm F c (retO P fn pk sz rows rest) ⟨ds.zipIdx.map fun e => (e.2, .d e.1), [], 0⟩) : CallsO P G f ds pk sz rows rest := by
  intro C w vs hG hk ha
  have hvl : vs.length = ds.length := outs_length ha
  refine calls_of_wp hf hb ?_
  let F : Fr := ⟨P, N, w, C⟩
  have hsz : (vs.toArray ++ Array.replicate (fn.ntmps - vs.toArray.size) undef).size = N := by simp; omega
  have hlook : ∀ (ds : List D) (k : Nat) (t : Nat) (x : V), look ((ds.zipIdx k).map fun e => (e.2, V.d e.1)) t = some x → ∃ d, x = .d d ∧ k ≤ t ∧ ds[t - k]? = some d := by
    intro ds
    induction ds with
    | nil => intro k t x h; simp [look] at h
    | cons d ds ih =>
      intro k t x h
      simp only [List.zipIdx_cons, List.map_cons, look] at h
      split at h
      · rename_i e; cases h; subst e; exact ⟨d, rfl, Nat.le_refl _, by simp⟩
      · obtain ⟨d', rfl, h1, h2⟩ := ih _ _ _ h
        refine ⟨d', rfl, by omega, ?_⟩
        rw [show t - k = (t - (k + 1)) + 1 by omega]; simpa using h2
  have hsim : Sim F ⟨ds.zipIdx.map fun e => (e.2, .d e.1), [], 0⟩ (fun _ => none) C { tmps := vs.toArray ++ Array.replicate (fn.ntmps - vs.toArray.size) undef, defers := [] } w := by
    refine ⟨hsz, rfl, Below.refl _ _, fun _ _ _ h => h, fun _ _ _ h => .inl h, hk, fun t x hx => ?_, fun l k hk => by simp [look] at hk, fun l l' p p' h => by simp [look] at h, fun _ _ => rfl⟩
    obtain ⟨d, rfl, _, hd⟩ := hlook ds 0 t x hx
    rw [Nat.sub_zero] at hd
    obtain ⟨v, h1, h2⟩ := outs_get ha t d hd
    have htl := (List.getElem?_eq_some_iff.1 h1).1
    have : (vs.toArray ++ Array.replicate (fn.ntmps - vs.toArray.size) undef).getD t undef = v := by
      rw [Array.getD_eq_getD_getElem?, Array.getElem?_append_left (by simpa using htl)]
      simp [h1]
    show Rep C d _
    rw [this]; exact h2
  refine wp_mono (h F ⟨rfl, rfl, hG⟩ _ C _ w hsim) ?_
  rintro e a w' ⟨st', μ', C', hq, hs⟩
  have fin : (∃ l, retV P pk st' fn.results.toList = some (pk.v l rows.length rest) ∧ look st'.h l = some (dB sz rows)) → a.defers = [] ∧ ∃ v, (results fn a.tmps).run P w' = .ok v w' ∧ ∃ s us C', Ending.returned v = .returned (pk.val s us) ∧ More w C w' C' ∧ OwnD C' w.heap.size w' s sz rows ∧ pk.ok C' rest us := by
    rintro ⟨l, hv, hl⟩
    refine ⟨hs.defers, ?_⟩
    obtain ⟨u, h1, h2⟩ := retV_ok hs hv
    have hm : More w C w' C' := ⟨hs.below, hs.sub, hs.new, hs.known⟩
    obtain ⟨p, hp, hB⟩ := hs.heap l _ hl
    have hB' : BlkOk w.heap.size (fun _ => none) C' w' p (dB sz rows) := by
      refine ⟨hB.sz, hB.len, hB.max, hB.row, fun hc => ?_⟩
      obtain ⟨b1, b2, cur, T, b3, b4, b5⟩ := hB.cells hc
      refine ⟨b1, b2, cur, T, b3, b4, fun i r hr j x hj => ?_⟩
      obtain ⟨u, g1, g2, g3⟩ := b5 i r hr j x hj
      refine ⟨u, g1, g2, ?_⟩
      have hr' : ∃ r0 : List D, r = r0.map V.d := by
        have := List.mem_of_getElem? hr
        obtain ⟨r0, _, e⟩ := List.mem_map.1 this
        exact ⟨r0, e.symm⟩
      obtain ⟨r0, rfl⟩ := hr'
      rw [List.getElem?_map] at hj
      cases hd : r0[j]? with
      | none => rw [hd] at hj; cases hj
      | some d => rw [hd] at hj; cases hj; exact g3
    cases pk with
    | one =>
      obtain ⟨q, ao, q1, rfl, q3, q4⟩ := h2
      rw [hp] at q1; cases q1
      exact ⟨_, h1, _, [], C', rfl, hm, ⟨p, ao, by simp, by simpa using q4, hB'⟩, trivial⟩
    | tup =>
      obtain ⟨q, ao, us, q1, q2, q3, q4⟩ := h2
      rw [hp] at q1; cases q1
      rw [if_pos rfl] at q4
      obtain ⟨q4, rfl⟩ := q4
      exact ⟨_, h1, _, us, C', rfl, hm, ⟨p, ao, rfl, q3, hB'⟩, q4⟩
    | agg =>
      obtain ⟨q, ao, us, q1, q2, q3, q4⟩ := h2
      rw [hp] at q1; cases q1
      rw [if_neg (by simp)] at q4
      obtain ⟨q4, rfl⟩ := q4
      exact ⟨_, h1, _, us, C', rfl, hm, ⟨p, ao, rfl, q3, hB'⟩, q4⟩
  cases e <;> first | exact fin hq | exact hq.elim
end
/-- Ways that meet again. -/
theorem Sm.join {F : Fr} {c y : Code} {Q Q' : Exit → St → Prop} {st : St} {ι : Type} (I : ι → St) (h1 : ∀ i, Sm F y Q (I i)) (h2 : Sm F c (nextS (fun st' => ∃ i, st'.le (I i)) Q') st) : Sm F c (nextS (Sm F y Q) Q') st := by
  refine h2.mono fun e st' h => ?_
  cases e <;> first | exact h | (obtain ⟨i, hle⟩ := h; exact (h1 i).less hle)
/-- A contract at arguments that stand for less. -/
theorem CallsD.args {P : Program} {G : Nat → Option D} {f : FuncId} {ds ds' : List D} {r : D} (h : CallsD P G f ds' r) (hd : ∀ C vs, Rp C (.outs ds vs) → Rp C (.outs ds' vs)) : CallsD P G f ds r := fun C w vs hG hk ha => h C w vs hG hk (hd C vs ha)
theorem outs_le {C : Facts} {d d' : D} {ds ds' : List D} (h : d.le d') (k : ∀ vs, Rp C (.outs ds vs) → Rp C (.outs ds' vs)) : ∀ vs, Rp C (.outs (d :: ds) vs) → Rp C (.outs (d' :: ds') vs) := by
  intro vs hv
  cases hv with | ocons _ v _ vs h1 h2 => exact .ocons _ _ _ _ (h C v h1) (k vs h2)
theorem outs_same {C : Facts} (ds : List D) : ∀ vs, Rp C (.outs ds vs) → Rp C (.outs ds vs) := fun _ h => h
/-- A conversion of a number to a kind that has it. -/
theorem convS_int {P : Program} {s d : TypeId} {td : TypeDesc} {k k2 : IntKind} {n : Int} (h1 : P.underlying s = some td) (h2 : P.underlying d = some (.int k)) (hw : k.wrap n = n) : convS P s d (.d (.v (.int k2 n))) = some (.d (.v (.int k n))) := by
  simp only [convS, rc_int P k n s d h1 h2 k2, hw, Option.map_some]
/-- Blocks from a name on are forgotten. -/
def V.lt (n : Nat) : V → Bool
  | .d _ => true
  | .ref l .. => decide (l < n)
  | .sref l .. => decide (l < n)
  | .aref l .. => decide (l < n)
  | .mix _ l .. => decide (l < n)
  | .any => true
def cutE (n : Nat) : List (Nat × V) → List (Nat × V)
  | [] => []
  | (t, x) :: r => (t, if x.lt n then x else .any) :: cutE n r
theorem look_cutE (n : Nat) : ∀ (env : List (Nat × V)) (t : Nat), look (cutE n env) t = (look env t).map fun x => if x.lt n then x else .any
  | [], _ => rfl
  | (k, x) :: r, t => by
    simp only [cutE, look]
    split
    · rfl
    · exact look_cutE n r t
def cutH (n : Nat) : List (Nat × Blk) → List (Nat × Blk)
  | [] => []
  | (l, k) :: r => if l < n then (l, k) :: cutH n r else cutH n r
theorem look_cutH (n : Nat) : ∀ (h : List (Nat × Blk)) (l : Nat), look (cutH n h) l = if l < n then look h l else none
  | [], l => by simp [cutH, look]
  | (k, x) :: r, l => by
    simp only [cutH]
    split
    · rename_i hk
      simp only [look]
      split
      · rename_i e; subst e; rw [if_pos hk]
      · exact look_cutH n r l
    · rename_i hk
      rw [look_cutH n r l]
      simp only [look]
      split
      · rename_i hl; have hne : k ≠ l := by omega
        rw [if_neg hne]
      · rfl
/-- The cells of the blocks before a name say nothing of those from it on. -/
def ltH (n : Nat) (h : List (Nat × Blk)) : Prop := ∀ l k, l < n → look h l = some k → ∀ r ∈ k.rows, ∀ x ∈ r, V.lt n x = true
theorem ltH_nil (n : Nat) : ltH n [] := fun l k _ h => by simp [look] at h
theorem ltH_cons {n m : Nat} {k : Blk} {h : List (Nat × Blk)} (f : ltH n h) (hr : ∀ r ∈ k.rows, ∀ x ∈ r, V.lt n x = true) : ltH n ((m, k) :: h) := fun l k' hl hk => by
  simp only [look] at hk
  split at hk
  · cases hk; exact hr
  · exact f l k' hl hk
theorem ltH_over {n m : Nat} {k : Blk} {h : List (Nat × Blk)} (f : ltH n h) (hm : n ≤ m) : ltH n ((m, k) :: h) := fun l k' hl hk => by
  simp only [look] at hk
  split at hk
  · omega
  · exact f l k' hl hk
theorem lt_dB (n sz : Nat) (rows : List (List D)) : ∀ r ∈ (dB sz rows).rows, ∀ x ∈ r, V.lt n x = true := by
  intro r hr x hx
  obtain ⟨r', _, rfl⟩ := List.mem_map.1 hr
  obtain ⟨d, _, rfl⟩ := List.mem_map.1 hx
  rfl
theorem lt_row {n : Nat} {r : List V} {sz : Nat} (h : r.all (V.lt n) = true) : ∀ r' ∈ (Blk.mk sz [r]).rows, ∀ x ∈ r', V.lt n x = true := by
  intro r' hr x hx
  have : r' = r := by simpa using hr
  subst this
  exact List.all_eq_true.1 h x hx
theorem V.lt_rep {n : Nat} {x : V} (h : x.lt n = true) {μ μ' : Nat → Option Place} (hμ : ∀ l, l < n → μ' l = μ l) {C : Facts} {v : Value} (hr : RepV μ C x v) : RepV μ' C x v := by
  cases x with
  | d => exact hr
  | ref l i off => obtain ⟨p, h1, h2⟩ := hr; exact ⟨p, by rw [hμ l (by simpa [V.lt] using h)]; exact h1, h2⟩
  | sref l lo len => obtain ⟨p, ao, h1, h2⟩ := hr; exact ⟨p, ao, by rw [hμ l (by simpa [V.lt] using h)]; exact h1, h2⟩
  | aref l i off es len cap => obtain ⟨p, ao, h1, h2⟩ := hr; exact ⟨p, ao, by rw [hμ l (by simpa [V.lt] using h)]; exact h1, h2⟩
  | mix tup l k rest => obtain ⟨p, ao, us, h1, h2⟩ := hr; exact ⟨p, ao, us, by rw [hμ l (by simpa [V.lt] using h)]; exact h1, h2⟩
  | any => trivial
theorem St.to_cut {F : Fr} {st : St} (n : Nat) (hh : ltH n st.h) : St.to F st ⟨cutE n st.env, cutH n st.h, n⟩ := by
  intro μ C a w hs
  refine ⟨fun l => if l < n then μ l else none, C, hs.size, hs.defers, hs.below, hs.sub, hs.new, hs.known, fun t x hx => ?_, fun l k hk => ?_, fun l l' p p' h1 h2 g1 g2 => ?_, fun l hl => ?_⟩
  · rw [look_cutE] at hx
    cases hq : look st.env t with
    | none => rw [hq] at hx; cases hx
    | some y =>
      rw [hq] at hx
      simp only [Option.map_some, Option.some.injEq] at hx
      subst hx
      split
      · rename_i hl; exact V.lt_rep hl (fun l hl => by simp [hl]) (hs.env t y hq)
      · trivial
  · rw [look_cutH] at hk
    split at hk
    · rename_i hl
      obtain ⟨p, hp, hb⟩ := hs.heap l k hk
      refine ⟨p, by simp [hl, hp], hb.sz, hb.len, hb.max, hb.row, fun hc => ?_⟩
      obtain ⟨b1, b2, cur, T, b3, b4, b5⟩ := hb.cells hc
      refine ⟨b1, b2, cur, T, b3, b4, fun i r hr j x hx => ?_⟩
      obtain ⟨u, g1, g2, g3⟩ := b5 i r hr j x hx
      exact ⟨u, g1, g2, V.lt_rep (hh l k hl hk r (List.mem_of_getElem? hr) x (List.mem_of_getElem? hx)) (fun l hl => by simp [hl]) g3⟩
    · cases hk
  · rw [look_cutH] at h1 h2
    split at h1
    · rename_i hl
      split at h2
      · rename_i hl'
        simp only [if_pos hl] at g1
        simp only [if_pos hl'] at g2
        exact hs.inj l l' p p' h1 h2 g1 g2
      · cases h2
    · cases h1
  · have hl' : n ≤ l := hl
    simp [show ¬ l < n by omega]
section
variable {P : Program} {G : Nat → Option D} {N : Nat} {F : Fr} {ops rest : List Oper} {Q : Exit → St → Prop} {env : List (Nat × V)} {h : List (Nat × Blk)} {nx : Nat} {c : Code}
theorem Sm.cut (n : Nat) (hh : ltH n h) (k : Sm F c Q ⟨cutE n env, cutH n h, n⟩) : Sm F c Q ⟨env, h, nx⟩ := Sm.to (St.to_cut (st := ⟨env, h, nx⟩) n hh) k
theorem SmG.cut (n : Nat) (hh : ltH n h) (k : SmG F N ops rest Q ⟨cutE n env, cutH n h, n⟩) : SmG F N ops rest Q ⟨env, h, nx⟩ := by
  intro hsm
  refine SmL.to (St.to_cut (st := ⟨env, h, nx⟩) n hh) (k ?_)
  intro s y hy
  simp only [look_cutE] at hy
  cases hq : look env s with
  | none => rw [hq] at hy; cases hy
  | some y' => exact hsm s y' hq
end
theorem take_map' {α β : Type} (f : α → β) (n : Nat) (l : List α) : List.take n (List.map f l) = List.map f (List.take n l) := by rw [List.map_take]
theorem drop_map' {α β : Type} (f : α → β) (n : Nat) (l : List α) : List.drop n (List.map f l) = List.map f (List.drop n l) := by rw [List.map_drop]
section
variable {P : Program} {G : Nat → Option D} {env : List (Nat × V)} {h : List (Nat × Blk)} {o : Oper}
theorem opV_extract0 {x : Operand} {l n : Nat} {rest : List D} (ho : o.op = .extract x 0) (hx : evB G env x = some (.mix true l n rest)) : opV P (evD G env) h o = some (.sref l 0 n) := by
  rw [evB_eq] at hx; simp only [opV, ho, hx, Option.bind_some]
theorem opV_extractS {x : Operand} {l n i : Nat} {rest : List D} {d : D} (ho : o.op = .extract x (i + 1)) (hx : evB G env x = some (.mix true l n rest)) (hi : rest[i]? = some d) : opV P (evD G env) h o = some (.d d) := by
  rw [evB_eq] at hx; simp only [opV, ho, hx, hi, Option.bind_some, Option.map_some]
end
/-- What a frame hands back out of a variable. -/
theorem retQ_cell {P : Program} {fn : Func} {p : Tmp} {ty : TypeId} {st : St} {x : V} {v d : D} (hr : fn.results = #[.cell p ty]) (hx : lookB st.env p = some x) (hl : loadS P st.h ty x = some (.d v)) (hle : v.le d) : retQ P fn d .ret st := by
  refine ⟨v, ?_, hle⟩
  rw [lookB_eq] at hx
  simp only [retS, hr, retAll, retOne, hx, hl, Option.bind_some, pureV, Option.map_some]
theorem retO_cell {P : Program} {fn : Func} {sz : Nat} {rows : List (List D)} {rest : List D} {p : Tmp} {ty : TypeId} {st : St} {x : V} (l : Nat) (hr : fn.results = #[.cell p ty]) (hx : lookB st.env p = some x) (hl : loadS P st.h ty x = some (.mix false l rows.length rest)) (hh : lookB st.h l = some (dB sz rows)) : retO P fn .agg sz rows rest .ret st := by
  refine ⟨l, ?_, by rw [← lookB_eq]; exact hh⟩
  rw [lookB_eq] at hx
  simp only [retV, hr, retOne, hx, hl, Option.bind_some, Pk.v]
attribute [go_sem] pureRow_map rep buildM buildD mixRow Pk.v List.getElem?_toArray List.getElem_toArray List.getElem_cons_succ List.getElem_cons_zero placesT
end Go.Proofs.YtmindblfbijaaaaDoor
namespace Go.Proofs.YtmindblfbijaaaaDoor
namespace Sha
/-- A word turned right by n bits (1 to 31). -/
def rotr (x : UInt32) (n : Nat) : UInt32 := UInt32.ofNat ((x.toNat / 2 ^ n) ||| (x.toNat * 2 ^ (32 - n) % 4294967296))
def rot3 (x : UInt32) (a b c : Nat) : UInt32 := rotr x a ^^^ rotr x b ^^^ rotr x c
def shr (x : UInt32) (n : Nat) : UInt32 := UInt32.ofNat (x.toNat / 2 ^ n)
def low (y : UInt32) : UInt32 := rotr y 7 ^^^ rotr y 18 ^^^ shr y 3
def high (z : UInt32) : UInt32 := rotr z 17 ^^^ rotr z 19 ^^^ shr z 10
def begin8 : List UInt32 := [0x6a09e667, 0xbb67ae85, 0x3c6ef372, 0xa54ff53a, 0x510e527f, 0x9b05688c, 0x1f83d9ab, 0x5be0cd19]
def keys64 : List UInt32 := [
  0x428a2f98, 0x71374491, 0xb5c0fbcf, 0xe9b5dba5, 0x3956c25b, 0x59f111f1, 0x923f82a4, 0xab1c5ed5,
  0xd807aa98, 0x12835b01, 0x243185be, 0x550c7dc3, 0x72be5d74, 0x80deb1fe, 0x9bdc06a7, 0xc19bf174,
  0xe49b69c1, 0xefbe4786, 0x0fc19dc6, 0x240ca1cc, 0x2de92c6f, 0x4a7484aa, 0x5cb0a9dc, 0x76f988da,
  0x983e5152, 0xa831c66d, 0xb00327c8, 0xbf597fc7, 0xc6e00bf3, 0xd5a79147, 0x06ca6351, 0x14292967,
  0x27b70a85, 0x2e1b2138, 0x4d2c6dfc, 0x53380d13, 0x650a7354, 0x766a0abb, 0x81c2c92e, 0x92722c85,
  0xa2bfe8a1, 0xa81a664b, 0xc24b8b70, 0xc76c51a3, 0xd192e819, 0xd6990624, 0xf40e3585, 0x106aa070,
  0x19a4c116, 0x1e376c08, 0x2748774c, 0x34b0bcb5, 0x391c0cb3, 0x4ed8aa4a, 0x5b9cca4f, 0x682e6ff3,
  0x748f82ee, 0x78a5636f, 0x84c87814, 0x8cc70208, 0x90befffa, 0xa4506ceb, 0xbef9a3f7, 0xc67178f2]
/-- The word number t of a block. -/
def word (b : List UInt8) (t : Nat) : UInt32 :=
  UInt32.ofNat ((((b.getD (4 * t) 0).toNat * 256 + (b.getD (4 * t + 1) 0).toNat) * 256 + (b.getD (4 * t + 2) 0).toNat) * 256 + (b.getD (4 * t + 3) 0).toNat)
def words (b : List UInt8) : List UInt32 := (List.range 16).map (word b)
def next (w : List UInt32) (t : Nat) : UInt32 := w.getD (t - 16) 0 + w.getD (t - 7) 0 + low (w.getD (t - 15) 0) + high (w.getD (t - 2) 0)
/-- The first 16 + n words. -/
def grow (w : List UInt32) : Nat → List UInt32
  | 0 => w
  | n + 1 => let v := grow w n; v ++ [next v (16 + n)]
def spread (b : List UInt8) : List UInt32 := grow (words b) 48
structure S8 where
  (a b c d e f g h : UInt32)
def S8.list (s : S8) : List UInt32 := [s.a, s.b, s.c, s.d, s.e, s.f, s.g, s.h]
def tx (s : S8) (k w : UInt32) : UInt32 := s.h + rot3 s.e 6 11 25 + (s.e &&& s.f ^^^ ~~~s.e &&& s.g) + k + w
def ty (s : S8) : UInt32 := rot3 s.a 2 13 22 + (s.a &&& s.b ^^^ s.a &&& s.c ^^^ s.b &&& s.c)
def round (s : S8) (k w : UInt32) : S8 := ⟨tx s k w + ty s, s.a, s.b, s.c, s.d + tx s k w, s.e, s.f, s.g⟩
def rounds (w : List UInt32) (s : S8) : Nat → S8
  | 0 => s
  | n + 1 => let c := rounds w s n; round c (keys64.getD n 0) (w.getD n 0)
def plus (s c : S8) : S8 := ⟨c.a + s.a, c.b + s.b, c.c + s.c, c.d + s.d, c.e + s.e, c.f + s.f, c.g + s.g, c.h + s.h⟩
def after (s : S8) (b : List UInt8) : S8 := plus s (rounds (spread b) s 64)
def first : S8 := ⟨0x6a09e667, 0xbb67ae85, 0x3c6ef372, 0xa54ff53a, 0x510e527f, 0x9b05688c, 0x1f83d9ab, 0x5be0cd19⟩
/-- How many bytes 0 follow the byte 128. -/
def zeros (n : Nat) : Nat := (119 - n % 64) % 64
def lenBytes (n : Nat) : List UInt8 := (List.range 8).map fun i => UInt8.ofNat (8 * n / 2 ^ (56 - 8 * i))
def padded (b : List UInt8) : List UInt8 := b ++ [128] ++ List.replicate (zeros b.length) 0 ++ lenBytes b.length
def over (all : List UInt8) : Nat → S8
  | 0 => first
  | n + 1 => after (over all n) ((all.drop (64 * n)).take 64)
def out (s : S8) : List UInt8 := (List.range 32).map fun i => UInt8.ofNat ((s.list.getD (i / 4) 0).toNat / 2 ^ (24 - 8 * (i % 4)))
/-- The hash of a list of bytes. -/
def sum (b : List UInt8) : List UInt8 := out (over (padded b) ((padded b).length / 64))
/-- The first n bytes of the word j, as a number; the words when k bytes have been taken. -/
def part (b : List UInt8) (j : Nat) : Nat → Nat
  | 0 => 0
  | n + 1 => part b j n * 256 + (b.getD (4 * j + n) 0).toNat
def fill (b : List UInt8) (k : Nat) : List UInt32 := (List.range 64).map fun j => UInt32.ofNat (part b j (min 4 (k - 4 * j)))
theorem part_lt (b : List UInt8) (j n : Nat) : part b j n < 256 ^ n := by
  induction n with
  | zero => simp [part]
  | succ n ih => have := (b.getD (4 * j + n) 0).toNat_lt; simp only [part, Nat.pow_succ]; omega
theorem fill_length (b : List UInt8) (k : Nat) : (fill b k).length = 64 := by simp [fill]
theorem fill_zero (b : List UInt8) : fill b 0 = List.replicate 64 0 := by
  apply List.ext_getElem (by simp [fill])
  intro i h1 h2
  rw [List.getElem_replicate]
  simp only [fill, List.getElem_map, List.getElem_range]
  rw [show min 4 (0 - 4 * i) = 0 by omega]
  rfl
theorem fill_get (b : List UInt8) (k j : Nat) (hj : j < 64) : (fill b k).getD j 0 = UInt32.ofNat (part b j (min 4 (k - 4 * j))) := by
  simp [fill, hj]
theorem fill_succ (b : List UInt8) (k : Nat) (hk : k < 64) : fill b (k + 1) = (fill b k).set (k / 4) (UInt32.ofNat (part b (k / 4) (k % 4) * 256 + (b.getD k 0).toNat)) := by
  apply List.ext_getElem (by simp [fill])
  intro i h1 h2
  simp only [fill, List.length_map, List.length_range] at h1
  rw [List.getElem_set]
  simp only [fill, List.getElem_map, List.getElem_range]
  split
  · rename_i h
    subst h
    rw [show min 4 (k + 1 - 4 * (k / 4)) = k % 4 + 1 by omega]
    simp only [part]
    rw [show 4 * (k / 4) + k % 4 = k by omega]
  · rename_i h
    rw [show min 4 (k + 1 - 4 * i) = min 4 (k - 4 * i) by omega]
theorem fill_full (b : List UInt8) : fill b 64 = words b ++ List.replicate 48 0 := by
  apply List.ext_getElem (by simp [fill, words])
  intro i h1 h2
  simp only [fill, List.length_map, List.length_range] at h1
  simp only [fill, List.getElem_map, List.getElem_range, List.getElem_append]
  split
  · rename_i h
    simp only [words, List.length_map, List.length_range] at h
    rw [show min 4 (64 - 4 * i) = 4 by omega]
    simp [words, word, part]
  · rename_i h
    simp only [words, List.length_map, List.length_range] at h
    rw [show min 4 (64 - 4 * i) = 0 by omega, List.getElem_replicate]
    rfl
theorem words_length (b : List UInt8) : (words b).length = 16 := by simp [words]
theorem grow_length (w : List UInt32) (n : Nat) : (grow w n).length = w.length + n := by
  induction n with
  | zero => rfl
  | succ n ih => simp [grow, ih]; omega
/-- The array when t words are there (t from 16 on). -/
def grown (b : List UInt8) (t : Nat) : List UInt32 := grow (words b) (t - 16) ++ List.replicate (64 - t) 0
theorem grown_length (b : List UInt8) (t : Nat) (h : 16 ≤ t) (h2 : t ≤ 64) : (grown b t).length = 64 := by
  simp [grown, grow_length, words_length]; omega
theorem grown_first (b : List UInt8) : fill b 64 = grown b 16 := fill_full b
theorem grown_last (b : List UInt8) : grown b 64 = spread b := by simp [grown, spread]
theorem grown_get (b : List UInt8) (t i : Nat) (ht : 16 ≤ t) (hi : i < t) : (grown b t).getD i 0 = (grow (words b) (t - 16)).getD i 0 := by
  have : i < (grow (words b) (t - 16)).length := by simp [grow_length, words_length]; omega
  simp only [grown, List.getD_eq_getElem?_getD]
  rw [List.getElem?_append_left this]
theorem grown_succ (b : List UInt8) (t : Nat) (ht : 16 ≤ t) (ht2 : t < 64) :
    grown b (t + 1) = (grown b t).set t ((grown b t).getD (t - 16) 0 + (grown b t).getD (t - 7) 0 + low ((grown b t).getD (t - 15) 0) + high ((grown b t).getD (t - 2) 0)) := by
  rw [grown_get b t _ ht (by omega), grown_get b t _ ht (by omega), grown_get b t _ ht (by omega), grown_get b t _ ht (by omega)]
  have hl : (grow (words b) (t - 16)).length = t := by simp [grow_length, words_length]; omega
  unfold grown
  rw [show t + 1 - 16 = (t - 16) + 1 by omega]
  simp only [grow]
  rw [show 16 + (t - 16) = t by omega, List.append_assoc, List.set_append_right _ _ (by omega), hl, show t - t = 0 by omega]
  congr 1
  rw [show 64 - t = (64 - (t + 1)) + 1 by omega, List.replicate_succ]
  simp [next]
theorem zeros_test (n j : Nat) (h : j < zeros n) : (n + 1 + j + 8) % 64 ≠ 0 := by unfold zeros at h; omega
theorem zeros_end (n : Nat) : (n + 1 + zeros n + 8) % 64 = 0 := by unfold zeros; omega
theorem padded_length (b : List UInt8) : (padded b).length = b.length + 9 + zeros b.length := by
  simp [padded, lenBytes]; omega
theorem padded_mod (b : List UInt8) : (padded b).length = 64 * ((padded b).length / 64) := by
  have := zeros_end b.length
  rw [padded_length]; omega
def foldB (all : List UInt8) (l : List Nat) : S8 := l.foldl (fun s x => after s ((all.drop (64 * x)).take 64)) first
theorem foldB_range (all : List UInt8) (m : Nat) : foldB all (List.range m) = over all m := by
  induction m with
  | zero => rfl
  | succ m ih => unfold foldB at *; rw [List.range_succ, List.foldl_append, ih]; rfl
theorem foldB_snoc (all : List UInt8) (l : List Nat) (x : Nat) : foldB all (l ++ [x]) = after (foldB all l) ((all.drop (64 * x)).take 64) := by
  unfold foldB; rw [List.foldl_append]; rfl
theorem out_length (s : S8) : (out s).length = 32 := by simp [out]
theorem out_set (s : S8) (k : Nat) (h : k < 32) : ((out s).take k ++ List.replicate (32 - k) 0).set k (UInt8.ofNat ((s.list.getD (k / 4) 0).toNat / 2 ^ (24 - 8 * (k % 4)))) = (out s).take (k + 1) ++ List.replicate (32 - (k + 1)) 0 := by
  have hl : ((out s).take k).length = k := by rw [List.length_take, out_length]; omega
  rw [List.set_append_right _ _ (by omega), hl, show k - k = 0 by omega, show 32 - k = (32 - (k + 1)) + 1 by omega, List.replicate_succ, List.set_cons_zero]
  rw [List.take_succ_eq_append_getElem (by rw [out_length]; exact h)]
  simp [out]
theorem lenBytes_take (n i : Nat) (h : i < 8) : (lenBytes n).take (i + 1) = (lenBytes n).take i ++ [UInt8.ofNat (8 * n / 2 ^ (56 - 8 * i))] := by
  rw [List.take_succ_eq_append_getElem (by simp [lenBytes]; omega)]
  simp [lenBytes]
end Sha
end Go.Proofs.YtmindblfbijaaaaDoor
namespace Go.Proofs.YtmindblfbijaaaaDoor
open Go.RowKit
theorem bits_comm (k : IntKind) (a b : Int) : bits BinOp.or k a b = bits BinOp.or k b a := by
  simp only [bits, BitVec.or_comm]
theorem lt32 (x : UInt32) : (x.toNat : Int) ≤ 4294967295 := by have := x.toNat_lt; omega
theorem or32 (x : UInt32) (n : Nat) : bits BinOp.or IntKind.u32 (↑x.toNat / 2 ^ n) (↑x.toNat * 2 ^ (32 - n) % 4294967296) = ((Sha.rotr x n).toNat : Int) := by
  have hx := x.toNat_lt
  have h1 : x.toNat / 2 ^ n < 4294967296 := Nat.lt_of_le_of_lt (Nat.div_le_self _ _) hx
  have h2 : x.toNat * 2 ^ (32 - n) % 4294967296 < 4294967296 := Nat.mod_lt _ (by decide)
  have := u32_or_nat _ _ h1 h2
  have e : (x.toNat / 2 ^ n ||| x.toNat * 2 ^ (32 - n) % 4294967296) < 4294967296 := Nat.or_lt_two_pow (n := 32) h1 h2
  unfold Sha.rotr
  rw [show (UInt32.ofNat (x.toNat / 2 ^ n ||| x.toNat * 2 ^ (32 - n) % 4294967296)).toNat = (x.toNat / 2 ^ n ||| x.toNat * 2 ^ (32 - n) % 4294967296) from Nat.mod_eq_of_lt e]
  rw [← this]; simp
set_option maxHeartbeats 400000 in
theorem turn_any (n : Nat) (x : UInt32) (w : World) (h1 : n ≤ 31) :
    Calls Tryd.prog 47 #[.int .i64 n, .int .u32 x.toNat] w fun e w' => e = .returned (.int .u32 (Sha.rotr x n).toNat) ∧ ∃ k, w' = w.drewN k := by
  have hx := lt32 x
  go_enter Tryd.func47, Tryd.ntmps47
  go_wp2
  go_quiet (fail)
  go_wp2
  go_ret
  exact ⟨ret_int (or32 x n), _, rfl⟩
theorem negBits_fin : ∀ m : Fin 32, 1 ≤ m.1 → bits BinOp.and IntKind.u64 (IntKind.u64.wrap (-(m.1 : Int))) 31 = 32 - (m.1 : Int) := by decide +kernel
theorem negBits (m : Nat) (h1 : 1 ≤ m) (h2 : m ≤ 31) : bits BinOp.and IntKind.u64 (IntKind.u64.wrap (-(m : Int))) 31 = 32 - (m : Int) := negBits_fin ⟨m, by omega⟩ h1
set_option maxHeartbeats 400000 in
theorem rot_any (m : Nat) (x : UInt32) (w : World) (h1 : 1 ≤ m) (h2 : m ≤ 31) :
    Calls Tryd.prog 50 #[.int .u32 x.toNat, .int .i64 (-(m : Int))] w fun e w' => e = .returned (.int .u32 (Sha.rotr x m).toNat) ∧ w = w' := by
  have hx := lt32 x
  obtain ⟨s, hs⟩ : ∃ s : Nat, s = 32 - m := ⟨_, rfl⟩
  have hb : bits BinOp.and IntKind.u64 (IntKind.u64.wrap (-(m : Int))) 31 = (s : Int) := by rw [negBits m h1 h2]; omega
  have hs1 : s ≤ 31 := by omega
  have H := Lib.hid hs; clear hs
  go_enter Tryd.func50, Tryd.ntmps50
  go_wp2
  go_ret
  refine ⟨ret_int ?_, rfl⟩
  rw [bits_comm, ← or32]
  have := H.out
  rw [show 32 - s = m by omega, show s = 32 - m by omega]
theorem rot_at (n : Int) (m : Nat) (x : UInt32) (w : World) (hn : n = -(m : Int)) (h1 : 1 ≤ m) (h2 : m ≤ 31) :
    Calls Tryd.prog 50 #[.int .u32 x.toNat, .int .i64 n] w fun e w' => e = .returned (.int .u32 (Sha.rotr x m).toNat) ∧ w = w' := by
  subst hn; exact rot_any m x w h1 h2
set_option maxHeartbeats 400000 in
theorem mix1_any (m : Nat) (x : UInt32) (b : Nat) (w : World) (hc : w.cell? ⟨b, 0, none⟩ = some (.int .u32 x.toNat)) (h1 : 1 ≤ m) (h2 : m ≤ 31) :
    Calls Tryd.prog 51 #[.int .i64 m, .pointer (some ⟨b, 0, none⟩)] w fun e w' => e = .returned (.int .u32 (Sha.rotr x m).toNat) ∧ w = w' := by
  have hx := lt32 x
  go_enter Tryd.func51, Tryd.ntmps51
  go_wp2_with (go_at_call 50; refine (rot_any _ _ _ h1 h2).mono ?_; rintro e w' ⟨rfl, rfl⟩)
  go_ret
  exact ⟨rfl, rfl⟩
theorem xor32 (x y : UInt32) : bits BinOp.xor IntKind.u32 x.toNat y.toNat = ((x ^^^ y).toNat : Int) := by
  rw [u32_xor_nat _ _ x.toNat_lt y.toNat_lt, UInt32.toNat_xor]
theorem and32 (x y : UInt32) : bits BinOp.and IntKind.u32 x.toNat y.toNat = ((x &&& y).toNat : Int) := by
  rw [u32_and_nat _ _ x.toNat_lt y.toNat_lt, UInt32.toNat_and]
theorem add32 (x y : UInt32) : ((x.toNat : Int) + y.toNat) % 4294967296 = ((x + y).toNat : Int) := by
  rw [UInt32.toNat_add]; simp
theorem add32_3 (x y z : UInt32) : ((x.toNat : Int) + y.toNat + z.toNat) % 4294967296 = ((x + y + z).toNat : Int) := by
  rw [UInt32.toNat_add, UInt32.toNat_add]; simp
theorem add32_4 (x y z u : UInt32) : ((x.toNat : Int) + y.toNat + z.toNat + u.toNat) % 4294967296 = ((x + y + z + u).toNat : Int) := by
  rw [UInt32.toNat_add, UInt32.toNat_add, UInt32.toNat_add]; simp
theorem add32_5 (x y z u v : UInt32) : ((x.toNat : Int) + y.toNat + z.toNat + u.toNat + v.toNat) % 4294967296 = ((x + y + z + u + v).toNat : Int) := by
  rw [UInt32.toNat_add, UInt32.toNat_add, UInt32.toNat_add, UInt32.toNat_add]; simp
set_option maxHeartbeats 400000 in
theorem mix_any (a b c : Nat) (x : UInt32) (w : World) (ha : 1 ≤ a ∧ a ≤ 31) (hb : 1 ≤ b ∧ b ≤ 31) (hc : 1 ≤ c ∧ c ≤ 31) :
    Calls Tryd.prog 44 #[.int .u32 x.toNat, .int .i64 a, .int .i64 b, .int .i64 c] w fun e w' => e = .returned (.int .u32 (Sha.rot3 x a b c).toNat) ∧ Below w.heap.size w w' := by
  have hx := lt32 x
  have Ha := Lib.hid ha; clear ha
  have Hb := Lib.hid hb; clear hb
  have Hc := Lib.hid hc; clear hc
  go_enter Tryd.func44, Tryd.ntmps44
  go_wp2_with fail
  refine (mix1_any a x _ _ (by simp) Ha.out.1 Ha.out.2).mono ?_
  rintro e w' ⟨rfl, rfl⟩
  go_wp2_with fail
  refine (mix1_any b x _ _ (by simp) Hb.out.1 Hb.out.2).mono ?_
  rintro e w' ⟨rfl, rfl⟩
  go_wp2_with fail
  refine (mix1_any c x _ _ (by simp) Hc.out.1 Hc.out.2).mono ?_
  rintro e w' ⟨rfl, rfl⟩
  go_wp2_with fail
  go_ret
  refine ⟨ret_int ?_, ?_⟩
  · rw [xor32, xor32]; rfl
  · exact (Below.refl _ _).alloc (Nat.le_refl _) _
theorem mix_at (a b c : Int) (m1 m2 m3 : Nat) (x : UInt32) (w : World) (ea : a = m1) (eb : b = m2) (ec : c = m3) (ha : 1 ≤ m1 ∧ m1 ≤ 31) (hb : 1 ≤ m2 ∧ m2 ≤ 31) (hc : 1 ≤ m3 ∧ m3 ≤ 31) :
    Calls Tryd.prog 44 #[.int .u32 x.toNat, .int .i64 a, .int .i64 b, .int .i64 c] w fun e w' => e = .returned (.int .u32 (Sha.rot3 x m1 m2 m3).toNat) ∧ Below w.heap.size w w' := by
  subst ea eb ec; exact mix_any m1 m2 m3 x w ha hb hc
theorem shr32 (x : UInt32) (n : Nat) : (x.toNat : Int) / ((2 ^ n : Nat) : Int) = ((Sha.shr x n).toNat : Int) := by
  have : x.toNat / 2 ^ n < 4294967296 := Nat.lt_of_le_of_lt (Nat.div_le_self _ _) x.toNat_lt
  rw [← Int.natCast_ediv]
  unfold Sha.shr
  rw [show (UInt32.ofNat (x.toNat / 2 ^ n)).toNat = x.toNat / 2 ^ n from Nat.mod_eq_of_lt this]
end Go.Proofs.YtmindblfbijaaaaDoor
namespace Go.Proofs.YtmindblfbijaaaaDoor
open Go.RowKit
theorem shift8 (p c : Nat) (hp : p < 16777216) (hc : c < 256) : bits BinOp.or IntKind.u32 (↑p * 256 % 4294967296) ↑c = ((p * 256 + c : Nat) : Int) := by
  have h1 : p * 256 < 4294967296 := by omega
  have := u32_or_nat (p * 256) c h1 (by omega)
  have e : p * 256 ||| c = p * 256 + c := by
    rw [Nat.mul_comm]; exact (Nat.two_pow_add_eq_or_of_lt (i := 8) hc p).symm
  rw [e] at this
  rw [← this]
  rw [show (p : Int) * 256 % 4294967296 = ((p * 256 : Nat) : Int) by omega]
theorem le8 (x : UInt8) : (x.toNat : Int) ≤ 255 := by have := x.toNat_lt; omega
theorem agg64 : AggT Tryd.prog 73 64 := ⟨fun _ => by kernel_rfl, by kernel_rfl⟩
set_option maxRecDepth 100000 in
set_option maxHeartbeats 400000 in
theorem spread_any (b o cap : Nat) (l : List UInt8) (w : World) (hb : b < w.heap.size) (hcell : ∀ i, i < 64 → w.cell? ⟨b, o + i, none⟩ = some (.int .u8 (l.getD i 0).toNat)) :
    Calls Tryd.prog 43 #[.slice (some ⟨b, o, none⟩) 64 cap] w fun e w' => e = .returned (.agg (u32s (Sha.spread l)).toArray) ∧ Below w.heap.size w w' := by
  have HC := Lib.hid hcell; clear hcell
  go_enter Tryd.func43, Tryd.ntmps43
  go_wp2
  go_loopw [10] (fun i wr => ∃ k : Nat, k ≤ 64 ∧ i = .int .i64 k ∧ Arr wr w.heap.size (u32s (List.replicate 64 0)) ∧ Arr wr (w.heap.size + 1) (u32s (Sha.fill l k)) ∧ Below w.heap.size w wr) (fun i _ => 64 - (intOf i).toNat)
  case atStart =>
    refine ⟨0, by omega, rfl, ?_, ?_, ?_⟩
    · exact (Arr.new w _ _).alloc _
    · rw [Sha.fill_zero]; exact Arr.newAt (by simp) (u32s (List.replicate 64 0)) _
    · exact ((Below.refl _ _).alloc (Nat.le_refl _) _).alloc (by simp) _
  case round =>
    obtain ⟨k, hk, rfl, ha0, ha1, hbl⟩ := hrel
    by_cases hlt : k < 64
    · have hA := Lib.hid ha0
      have hA1 := Lib.hid ha1
      have hBl := Lib.hid hbl
      have c1 := ha1.cell (u32s_get (l := Sha.fill l k) (i := k / 4) (by rw [Sha.fill_length]; omega))
      have f1 := ha1.frozen (k / 4)
      have c2 : wr.cell? ⟨b, o + k, none⟩ = some (.int .u8 (l.getD k 0).toNat) := (hbl.cell (p := ⟨b, o + k, none⟩) hb).trans (HC.out k hlt)
      obtain ⟨x, hx⟩ : ∃ x, x = (Sha.fill l k).getD (k / 4) 0 := ⟨_, rfl⟩
      obtain ⟨c, hc⟩ : ∃ c, c = l.getD k 0 := ⟨_, rfl⟩
      rw [← hx] at c1
      rw [← hc] at c2
      have HX := Lib.hid hx; clear hx
      have HCC := Lib.hid hc; clear hc
      have l1 := lt32 x
      have l2 := le8 c
      clear ha0 ha1 hbl
      go_wp2
      go_region
      all_goals go_wp2
      have hp := Sha.part_lt l (k / 4) (k % 4)
      have hp' : 256 ^ (k % 4) ≤ 16777216 := Nat.pow_le_pow_right (n := 256) (j := 3) (by decide) (by omega)
      have hxe : x.toNat = Sha.part l (k / 4) (k % 4) := by
        rw [HX.out, Sha.fill_get l k _ (by omega), show min 4 (k - 4 * (k / 4)) = k % 4 by omega]
        exact Nat.mod_eq_of_lt (by omega)
      have hv : bits BinOp.or IntKind.u32 (↑x.toNat * 256 % 4294967296) ↑c.toNat = ((UInt32.ofNat (Sha.part l (k / 4) (k % 4) * 256 + (l.getD k 0).toNat)).toNat : Int) := by
        rw [shift8 _ _ (by omega) c.toNat_lt, hxe, ← HCC.out]
        congr 1
        exact (Nat.mod_eq_of_lt (by have := c.toNat_lt; omega)).symm
      rw [hv]
      refine ⟨⟨k + 1, by omega, by go_num, hA.out.other (by simp) _, ?_, (hBl.out.setCell (by simp) _).drew⟩, by simp [intOf]; omega⟩
      rw [Sha.fill_succ l k hlt, ← u32s_set]
      exact hA1.out.set _ _
    · have hk64 : k = 64 := by omega
      rw [hk64, Sha.grown_first] at ha1
      clear hk64
      go_wp2
      go_loopw [5] (fun i wr => ∃ t : Nat, 16 ≤ t ∧ t ≤ 64 ∧ i = .int .i64 t ∧ Arr wr w.heap.size (u32s (List.replicate 64 0)) ∧ Arr wr (w.heap.size + 1) (u32s (Sha.grown l t)) ∧ Below w.heap.size w wr) (fun i _ => 64 - (intOf i).toNat)
      case atStart => exact ⟨16, by omega, by omega, rfl, ha0, ha1, hbl⟩
      case round =>
        clear ha0 ha1 hbl hk hlt
        obtain ⟨t, ht0, ht, rfl, ha0, ha1, hbl⟩ := hrel
        by_cases hlt : t < 64
        · have hA := Lib.hid ha0
          have hA1 := Lib.hid ha1
          have hBl := Lib.hid hbl
          have hln := Sha.grown_length l t ht0 ht
          have c1 := ha1.cell (u32s_get (l := Sha.grown l t) (i := t - 15) (by omega))
          have c2 := ha1.cell (u32s_get (l := Sha.grown l t) (i := t - 2) (by omega))
          have c3 := ha1.cell (u32s_get (l := Sha.grown l t) (i := t - 16) (by omega))
          have c4 := ha1.cell (u32s_get (l := Sha.grown l t) (i := t - 7) (by omega))
          obtain ⟨y, hy⟩ : ∃ x, x = (Sha.grown l t).getD (t - 15) 0 := ⟨_, rfl⟩
          obtain ⟨z, hz⟩ : ∃ x, x = (Sha.grown l t).getD (t - 2) 0 := ⟨_, rfl⟩
          obtain ⟨p, hp⟩ : ∃ x, x = (Sha.grown l t).getD (t - 16) 0 := ⟨_, rfl⟩
          obtain ⟨q, hq⟩ : ∃ x, x = (Sha.grown l t).getD (t - 7) 0 := ⟨_, rfl⟩
          rw [← hy] at c1
          rw [← hz] at c2
          rw [← hp] at c3
          rw [← hq] at c4
          have HY := Lib.hid hy; clear hy
          have HZ := Lib.hid hz; clear hz
          have HP := Lib.hid hp; clear hp
          have HQ := Lib.hid hq; clear hq
          have f1 := ha1.frozen t
          have f2 := ha1.cell (u32s_get (l := Sha.grown l t) (i := t) (by omega))
          obtain ⟨old, hold⟩ : ∃ x, x = (Sha.grown l t).getD t 0 := ⟨_, rfl⟩
          rw [← hold] at f2
          clear hold
          clear ha0 ha1 hbl hln
          go_wp2
          go_region
          all_goals go_wp2_with fail
          refine (rot_at _ 7 y _ rfl (by decide) (by decide)).mono ?_
          rintro e w1 ⟨rfl, rfl⟩
          go_wp2_with fail
          refine (rot_at _ 18 y _ rfl (by decide) (by decide)).mono ?_
          rintro e w1 ⟨rfl, rfl⟩
          have ly := lt32 y
          have lz := lt32 z
          go_wp2_with fail
          refine (rot_at _ 17 z _ rfl (by decide) (by decide)).mono ?_
          rintro e w1 ⟨rfl, rfl⟩
          go_wp2_with fail
          refine (rot_at _ 19 z _ rfl (by decide) (by decide)).mono ?_
          rintro e w1 ⟨rfl, rfl⟩
          go_wp2
          go_region
          all_goals go_wp2
          go_roundw
          case rel =>
            refine ⟨t + 1, by omega, by omega, by go_num, hA.out.other (by simp) _, ?_, ((hBl.out.setCell (by simp) _).drew).drew⟩
            rw [Sha.grown_succ l t ht0 hlt, ← HY.out, ← HZ.out, ← HP.out, ← HQ.out, ← u32s_set]
            have e1 := shr32 y 3
            have e2 := shr32 z 10
            simp only [Nat.reducePow, Int.cast_ofNat_Int] at e1 e2
            rw [e1, e2]
            simp only [xor32, add32_4]
            exact hA1.out.set _ _
          case measure => simp [intOf]; omega
        · obtain rfl : t = 64 := by omega
          rw [Sha.grown_last] at ha1
          have hs64 : (u32s (Sha.spread l)).length = 64 := by rw [u32s_length, ← Sha.grown_last, Sha.grown_length l 64 (by omega) (by omega)]
          have hA := Lib.hid ha0
          have hA1 := Lib.hid ha1
          have hBl := Lib.hid hbl
          have H64 := Lib.hid hs64
          clear ha0 ha1 hbl hs64
          go_wp2_with (first
            | (refine wpList_load_cells rfl _ _ rfl _ _ rfl (u32s (Sha.spread l)) (by rw [H64.out]; exact agg64) (fun j v hv => by rw [Nat.zero_add]; exact hA1.out.cell hv) ?_)
            | (refine wpList_store_cells rfl rfl _ _ _ rfl _ _ rfl (u32s (Sha.spread l)) rfl (by rw [H64.out]; exact agg64.2) (u32s_one _) _ hA.out (by simp [H64.out, u32s_length]) ?_; intro w2 hA2 hG2))
          refine bodyPost_cells rfl rfl _ rfl _ hA2 ?_ ⟨?_, ?_⟩
          · rw [lay_whole _ _ (by simp [H64.out, u32s_length]), H64.out]; exact agg64
          · rw [lay_whole _ _ (by simp [H64.out, u32s_length])]
          · exact hBl.out.grown hG2 hBl.out.size (by intro k hk; cases hk; exact Nat.le_refl _)
end Go.Proofs.YtmindblfbijaaaaDoor
namespace Go.Proofs.YtmindblfbijaaaaDoor
open Go.RowKit
theorem agg8 : AggT Tryd.prog 57 8 := ⟨fun _ => by kernel_rfl, by kernel_rfl⟩
theorem cellK {W W' : World} {p : Addr} {v : Value} (hb : Below W.heap.size W W') (h : W.cell? p = some v) : W'.cell? p = some v :=
  (hb.cell (block_lt_of_cell h)).trans h
/-- A block of n cells. -/
def Len (w : World) (b n : Nat) : Prop := ∃ cs, Arr w b cs ∧ cs.length = n
def EReg (B : Nat) (X S : List Value) (W W' : World) : Prop := Below B W W' ∧ (∀ b n, B ≤ b → Len W b n → Len W' b n) ∧ (∀ b, B ≤ b → Arr W b X → Arr W' b X) ∧ (∀ b, B ≤ b → Arr W b S → Arr W' b S)
theorem EReg.of_below {B : Nat} {X S : List Value} {W W' : World} (h : Below W.heap.size W W') (hB : B ≤ W.heap.size) : EReg B X S W W' :=
  ⟨h.mono hB, fun _ _ _ ⟨cs, ha, hl⟩ => ⟨cs, ha.below' h, hl⟩, fun _ _ ha => ha.below' h, fun _ _ ha => ha.below' h⟩
theorem EReg.of_grown {B g n : Nat} {X S : List Value} {W W' : World} (h : W.grownBy W' (some g)) (hg : B ≤ g) (hB : B ≤ W.heap.size) (hn : Len W g n) (hn' : Len W' g n) (hX : X.length = n → Arr W' g X) (hS : S.length = n → Arr W' g S) : EReg B X S W W' := by
  obtain ⟨cs0, ha0, hl0⟩ := hn
  have uniq : ∀ cs, Arr W g cs → cs.length = n := by
    intro cs ⟨T, h1⟩
    obtain ⟨T0, h0⟩ := ha0
    rw [h1] at h0
    simp only [Option.some.injEq, Obj.cells.injEq] at h0
    have := congrArg Array.size h0.1
    simp at this
    omega
  refine ⟨(Below.refl B W).grown h hB (by intro k hk; cases hk; exact hg), fun b m hb ⟨cs, ha, hl⟩ => ?_, fun b hb ha => ?_, fun b hb ha => ?_⟩
  · by_cases e : b = g
    · subst e; rw [← hl, uniq cs ha]; exact hn'
    · exact ⟨cs, ha.grown h (by simpa using e), hl⟩
  · by_cases e : b = g
    · subst e; exact hX (uniq _ ha)
    · exact ha.grown h (by simpa using e)
  · by_cases e : b = g
    · subst e; exact hS (uniq _ ha)
    · exact ha.grown h (by simpa using e)
def GReg (B : Nat) (v : Value) (X S : List Value) (j : Nat) (ρ : Nat → Value) (w : World) : Prop :=
  match j with
  | 0 => ρ 0 = v
  | 1 => ρ 1 = .agg X.toArray
  | 2 => ρ 2 = .agg S.toArray
  | 3 => ∃ b, ρ 3 = .pointer (some ⟨b, 0, none⟩) ∧ B ≤ b ∧ Len w b 64
  | 4 => ∃ b, ρ 4 = .pointer (some ⟨b, 0, none⟩) ∧ B ≤ b ∧ Len w b 8
  | 5 => ∃ b, ρ 3 = .pointer (some ⟨b, 0, none⟩) ∧ B ≤ b ∧ Arr w b X
  | 6 => ∃ b, ρ 4 = .pointer (some ⟨b, 0, none⟩) ∧ B ≤ b ∧ Arr w b S
  | _ => True
theorem s8_len (s : Sha.S8) : s.list.length = 8 := rfl
theorem s8_length (s : Sha.S8) : (u32s s.list).length = 8 := rfl
theorem spread_length (l : List UInt8) : (u32s (Sha.spread l)).length = 64 := by rw [u32s_length, ← Sha.grown_last, Sha.grown_length l 64 (by omega) (by omega)]
theorem calls_ret {P : Program} {f : FuncId} {args : Array Value} {w : World} {R R' : Ending → World → Prop} (h : Calls P f args w R) (hr : ∀ e w', R e w' → R' e w') : Calls P f args w R' := h.mono hr
theorem wadd (x y : UInt32) : IntKind.u32.wrap ((x.toNat : Int) + y.toNat) = ((x + y).toNat : Int) := by rw [IntKind.wrap_u32']; exact add32 x y
theorem not32 (x : UInt32) : bits BinOp.xor IntKind.u32 IntKind.u32.max x.toNat = ((~~~x).toNat : Int) := by
  have e : IntKind.u32.max = ((4294967295 : UInt32).toNat : Int) := by decide
  have h : (4294967295 : UInt32) ^^^ x = ~~~x := by
    apply UInt32.toBitVec_inj.1
    rw [UInt32.toBitVec_xor, UInt32.toBitVec_not]
    exact BitVec.allOnes_xor
  rw [e, xor32, h]
theorem tx_eq (c : Sha.S8) (y x : UInt32) : IntKind.u32.wrap (IntKind.u32.wrap (IntKind.u32.wrap (IntKind.u32.wrap (↑c.h.toNat + ↑(Sha.rot3 c.e 6 11 25).toNat) +
      bits BinOp.xor IntKind.u32 (bits BinOp.and IntKind.u32 ↑c.e.toNat ↑c.f.toNat) (bits BinOp.and IntKind.u32 (bits BinOp.xor IntKind.u32 IntKind.u32.max ↑c.e.toNat) ↑c.g.toNat)) + ↑y.toNat) + ↑x.toNat)
    = ((Sha.tx c y x).toNat : Int) := by
  simp only [wadd, not32, and32, xor32]; rfl
theorem ty_eq (c : Sha.S8) : IntKind.u32.wrap (↑(Sha.rot3 c.a 2 13 22).toNat +
      bits BinOp.xor IntKind.u32 (bits BinOp.xor IntKind.u32 (bits BinOp.and IntKind.u32 ↑c.a.toNat ↑c.b.toNat) (bits BinOp.and IntKind.u32 ↑c.a.toNat ↑c.c.toNat)) (bits BinOp.and IntKind.u32 ↑c.b.toNat ↑c.c.toNat))
    = ((Sha.ty c).toNat : Int) := by
  simp only [wadd, and32, xor32]; rfl
theorem S9keep {w W W' : World} {p1 p2 p3 p4 p5 p6 p7 p8 p9 : Addr} {v1 v2 v3 v4 v5 v6 v7 v8 v9 : Value} (hb : Below W.heap.size W W')
    (h : W.cell? p1 = some v1 ∧ W.cell? p2 = some v2 ∧ W.cell? p3 = some v3 ∧ W.cell? p4 = some v4 ∧ W.cell? p5 = some v5 ∧ W.cell? p6 = some v6 ∧ W.cell? p7 = some v7 ∧ W.cell? p8 = some v8 ∧ W.cell? p9 = some v9 ∧ Below w.heap.size w W) :
    W'.cell? p1 = some v1 ∧ W'.cell? p2 = some v2 ∧ W'.cell? p3 = some v3 ∧ W'.cell? p4 = some v4 ∧ W'.cell? p5 = some v5 ∧ W'.cell? p6 = some v6 ∧ W'.cell? p7 = some v7 ∧ W'.cell? p8 = some v8 ∧ W'.cell? p9 = some v9 ∧ Below w.heap.size w W' :=
  ⟨cellK hb h.1, cellK hb h.2.1, cellK hb h.2.2.1, cellK hb h.2.2.2.1, cellK hb h.2.2.2.2.1, cellK hb h.2.2.2.2.2.1, cellK hb h.2.2.2.2.2.2.1, cellK hb h.2.2.2.2.2.2.2.1, cellK hb h.2.2.2.2.2.2.2.2.1, h.2.2.2.2.2.2.2.2.2.trans (hb.mono h.2.2.2.2.2.2.2.2.2.size)⟩
set_option maxRecDepth 100000 in
set_option maxHeartbeats 1000000 in
theorem after_any (b o cap : Nat) (s : Sha.S8) (l : List UInt8) (w : World) (hb : b < w.heap.size) (hcell : ∀ i, i < 64 → w.cell? ⟨b, o + i, none⟩ = some (.int .u8 (l.getD i 0).toNat))
    (hkeys : ∀ i, i < 64 → w.cell? ⟨1, i, none⟩ = some (.int .u32 (Sha.keys64.getD i 0).toNat)) :
    Calls Tryd.prog 31 #[.agg (u32s s.list).toArray, .slice (some ⟨b, o, none⟩) 64 cap] w fun e w' => e = .returned (.agg (u32s (Sha.after s l).list).toArray) ∧ Below w.heap.size w w' := by
  have HC := Lib.hid hcell; clear hcell
  have HK := Lib.hid hkeys; clear hkeys
  go_enter Tryd.func31, Tryd.ntmps31
  go_wp2
  obtain ⟨W, hW⟩ : ∃ W, W = (w.alloc (Obj.cells (u32s s.list).toArray 57)).alloc (Obj.cells (u32s (List.replicate 8 0)).toArray 57) := ⟨_, rfl⟩
  have hB0 : Below w.heap.size w W := by rw [hW]; exact ((Below.refl _ _).alloc (Nat.le_refl _) _).alloc (by simp) _
  have hs2 : Arr W w.heap.size (u32s s.list) := by rw [hW]; exact (Arr.new w _ _).alloc _
  have hs4 : Arr W (w.heap.size + 1) (u32s (List.replicate 8 0)) := by rw [hW]; exact Arr.newAt (by simp) _ _
  have hcW : ∀ i, i < 64 → W.cell? ⟨b, o + i, none⟩ = some (.int .u8 (l.getD i 0).toNat) := fun i hi => (hB0.cell (p := ⟨b, o + i, none⟩) hb).trans (HC.out i hi)
  have hbW : b < W.heap.size := Nat.lt_of_lt_of_le hb hB0.size
  change Code.wp _ _ _ _ ((w.alloc (Obj.cells (u32s s.list).toArray 57)).alloc (Obj.cells (u32s (List.replicate 8 0)).toArray 57))
  rw [← hW]
  refine wp_region_par (G := GReg W.heap.size (.slice (some ⟨b, o, none⟩) 64 cap) (u32s (Sha.spread l)) (u32s s.list)) (E := EReg W.heap.size (u32s (Sha.spread l)) (u32s s.list)) (by kernel_rfl) (by kernel_rfl)
    ⟨(Below.refl _ _).drew, fun _ _ _ h => h, fun _ _ h => h, fun _ _ h => h⟩ (fun _ => ⟨Below.refl _ _, fun _ _ _ h => h, fun _ _ h => h, fun _ _ h => h⟩)
    (fun _ _ _ h k => ⟨h.1.trans k.1, fun b n hb hl => k.2.1 b n hb (h.2.1 b n hb hl), fun b hb ha => k.2.2.1 b hb (h.2.2.1 b hb ha), fun b hb ha => k.2.2.2 b hb (h.2.2.2 b hb ha)⟩) ?hG ?hloc ?hstep ?hend
  case hG =>
    intro j ρ w1 w2 hg he
    match j with
    | 0 | 1 | 2 => exact hg
    | 3 | 4 => obtain ⟨b, h1, h2, h3⟩ := hg; exact ⟨b, h1, h2, he.2.1 b _ h2 h3⟩
    | 5 => obtain ⟨b, h1, h2, h3⟩ := hg; exact ⟨b, h1, h2, he.2.2.1 b h2 h3⟩
    | 6 => obtain ⟨b, h1, h2, h3⟩ := hg; exact ⟨b, h1, h2, he.2.2.2 b h2 h3⟩
    | n + 7 => trivial
  case hloc =>
    refine allFrom_array ⟨?_, ?_, ?_, ?_, ?_, ?_, ?_, trivial⟩ <;> intro ρ ρ' w h0 he hg
    · exact h0.symm.trans hg
    · exact h0.symm.trans hg
    · exact h0.symm.trans hg
    · obtain ⟨b, h1, h2, h3⟩ := hg; exact ⟨b, h0.symm.trans h1, h2, h3⟩
    · obtain ⟨b, h1, h2, h3⟩ := hg; exact ⟨b, h0.symm.trans h1, h2, h3⟩
    · obtain ⟨b, h1, h2, h3⟩ := hg; exact ⟨b, (he ⟨3, .data⟩ (by simp) rfl).symm.trans h1, h2, h3⟩
    · obtain ⟨b, h1, h2, h3⟩ := hg; exact ⟨b, (he ⟨4, .data⟩ (by simp) rfl).symm.trans h1, h2, h3⟩
  case hstep =>
    refine allFrom_array ⟨?_, ?_, ?_, ?_, ?_, ?_, ?_, trivial⟩ <;> intro a w1 hE hR hd
    · refine wanted_none rfl ?_
      exact wp_move (.tmp 1) rfl ⟨_, rfl, ⟨Below.refl _ _, fun _ _ _ h => h, fun _ _ h => h, fun _ _ h => h⟩, hR.eval rfl⟩
    · refine wanted_none rfl ?_
      have h0 := hd ⟨0, .data⟩ (by simp) rfl
      refine wp_call 43 Tryd.call43 _ _ rfl [.slice (some ⟨b, o, none⟩) 64 cap] (by rw [← show a.eval (.tmp 11) = .slice (some ⟨b, o, none⟩) 64 cap from h0]; rfl) ?_
      refine (spread_any b o cap l w1 (Nat.lt_of_lt_of_le hbW hE.1.size) (fun i hi => (hE.1.cell (p := ⟨b, o + i, none⟩) hbW).trans (hcW i hi))).mono ?_
      rintro e w2 ⟨rfl, hb2⟩
      exact ⟨_, rfl, _, rfl, EReg.of_below hb2 hE.1.size, rfl⟩
    · refine wanted_none rfl ?_
      refine wp_load_cells _ _ rfl w.heap.size 0 (hR.eval rfl) (u32s s.list) agg8 (fun j v hv => ?_) ⟨_, rfl, ⟨Below.refl _ _, fun _ _ _ h => h, fun _ _ h => h, fun _ _ h => h⟩, rfl⟩
      rw [Nat.zero_add, hE.1.cell (p := ⟨w.heap.size, j, none⟩) hs2.lt]; exact hs2.cell hv
    · refine wanted_none rfl ?_
      refine wp_alloc _ rfl (.agg (u32s (List.replicate 64 0)).toArray) 64 (by kernel_rfl) ⟨_, rfl, EReg.of_below ((Below.refl _ _).alloc (Nat.le_refl _) _) hE.1.size, _, rfl, hE.1.size, _, Arr.new w1 (u32s (List.replicate 64 0)) _, ?_⟩
      rw [u32s_length, List.length_replicate]
    · refine wanted_none rfl ?_
      refine wp_alloc _ rfl (.agg (u32s (List.replicate 8 0)).toArray) 8 (by kernel_rfl) ⟨_, rfl, EReg.of_below ((Below.refl _ _).alloc (Nat.le_refl _) _) hE.1.size, _, rfl, hE.1.size, _, Arr.new w1 (u32s (List.replicate 8 0)) _, ?_⟩
      rw [u32s_length, List.length_replicate]
    · refine wanted_none rfl ?_
      have h1 := hd ⟨1, .data⟩ (by simp) rfl
      obtain ⟨b3, h3, hB3, hl3⟩ := hd ⟨3, .data⟩ (by simp) rfl
      obtain ⟨cs3, ha3, hc3⟩ := hl3
      refine wp_store_cells rfl _ _ _ rfl b3 0 h3 (u32s (Sha.spread l)) h1 (by rw [spread_length]; kernel_rfl) (u32s_one _) cs3 ha3 (by rw [spread_length, hc3]; omega) fun w2 ha hg => ?_
      rw [lay_whole _ _ (by rw [spread_length, hc3])] at ha
      exact ⟨undef, rfl, EReg.of_grown hg hB3 hE.1.size ⟨cs3, ha3, hc3⟩ ⟨_, ha, spread_length l⟩ (fun _ => ha) (fun h => by rw [s8_length] at h; cases h), b3, h3, hB3, ha⟩
    · refine wanted_none rfl ?_
      have h1 := hd ⟨2, .data⟩ (by simp) rfl
      obtain ⟨b3, h3, hB3, hl3⟩ := hd ⟨4, .data⟩ (by simp) rfl
      obtain ⟨cs3, ha3, hc3⟩ := hl3
      refine wp_store_cells rfl _ _ _ rfl b3 0 h3 (u32s s.list) h1 (by rw [s8_length]; kernel_rfl) (u32s_one _) cs3 ha3 (by rw [s8_length, hc3]; omega) fun w2 ha hg => ?_
      rw [lay_whole _ _ (by rw [s8_length, hc3])] at ha
      exact ⟨undef, rfl, EReg.of_grown hg hB3 hE.1.size ⟨cs3, ha3, hc3⟩ ⟨_, ha, s8_length s⟩ (fun h => by rw [spread_length] at h; cases h) (fun _ => ha), b3, h3, hB3, ha⟩
  case hend =>
    intro vs hvs w1 hE hall
    obtain ⟨v0, v1, v2, v3, v4, v5, v6, rfl⟩ : ∃ v0 v1 v2 v3 v4 v5 v6, vs = [v0, v1, v2, v3, v4, v5, v6] := by
      match vs, hvs with
      | [v0, v1, v2, v3, v4, v5, v6], _ => exact ⟨v0, v1, v2, v3, v4, v5, v6, rfl⟩
    have e0 := hall 0 (by simp)
    have e1 := hall 1 (by simp)
    have e2 := hall 2 (by simp)
    obtain ⟨b5, e3, hB5, hA5⟩ := hall 5 (by simp)
    obtain ⟨b6, e4, hB6, hA6⟩ := hall 6 (by simp)
    have hne : b5 ≠ b6 := by
      rintro rfl
      obtain ⟨T, h1⟩ := hA5; obtain ⟨T', h2⟩ := hA6
      rw [h1] at h2
      simp only [Option.some.injEq, Obj.cells.injEq] at h2
      have := congrArg Array.size h2.1
      simp [spread_length, s8_length] at this
    simp only [GReg, List.getD_cons_zero, List.getD_cons_succ] at e0 e1 e2 e3 e4
    subst e0 e1 e2 e3 e4
    have hs2' : Arr w1 w.heap.size (u32s s.list) := hs2.below' hE.1
    have hs4' : Arr w1 (w.heap.size + 1) (u32s (List.replicate 8 0)) := hs4.below' hE.1
    have hB1 : Below w.heap.size w w1 := hB0.trans (hE.1.mono hB0.size)
    have hb5 : w.heap.size + 2 ≤ b5 := by rw [hW] at hB5; simpa using hB5
    have hb6 : w.heap.size + 2 ≤ b6 := by rw [hW] at hB6; simpa using hB6
    clear hE hall hB5 hB6 hcW hbW hs2 hs4 hB0 hvs
    clear hW W
    simp only [putAll, List.map_cons, List.map_nil, List.zip_cons_cons, List.zip_nil_right, Act.put, List.setIfInBounds_toArray, List.set_cons_zero, List.set_cons_succ]
    go_wp2
    have hk1 : 1 < w.heap.size := block_lt_of_cell (HK.out 0 (by omega))
    go_loopw [14] (fun i wr => ∃ k : Nat, k ≤ 64 ∧ i = .int .i64 k ∧ Arr wr b5 (u32s (Sha.spread l)) ∧ Arr wr b6 (u32s (Sha.rounds (Sha.spread l) s k).list) ∧ Arr wr w.heap.size (u32s s.list) ∧ Arr wr (w.heap.size + 1) (u32s (List.replicate 8 0)) ∧ Below w.heap.size w wr) (fun i _ => 64 - (intOf i).toNat)
    case atStart => exact ⟨0, by omega, rfl, hA5, hA6, hs2', hs4', hB1⟩
    case round =>
      clear hA5 hA6 hs2' hs4' hB1
      obtain ⟨k, hk, rfl, h5, h6, h2, h4, hB⟩ := hrel
      by_cases hlt : k < 64
      · obtain ⟨c, hc⟩ : ∃ c, c = Sha.rounds (Sha.spread l) s k := ⟨_, rfl⟩
        rw [← hc] at h6
        obtain ⟨x, hx⟩ : ∃ x, x = (Sha.spread l).getD k 0 := ⟨_, rfl⟩
        obtain ⟨y, hy⟩ : ∃ x, x = Sha.keys64.getD k 0 := ⟨_, rfl⟩
        have c0 : wr.cell? ⟨b6, 0, none⟩ = some (.int .u32 c.a.toNat) := h6.cell rfl
        have c1 : wr.cell? ⟨b6, 1, none⟩ = some (.int .u32 c.b.toNat) := h6.cell rfl
        have c2 : wr.cell? ⟨b6, 2, none⟩ = some (.int .u32 c.c.toNat) := h6.cell rfl
        have c3 : wr.cell? ⟨b6, 3, none⟩ = some (.int .u32 c.d.toNat) := h6.cell rfl
        have c4 : wr.cell? ⟨b6, 4, none⟩ = some (.int .u32 c.e.toNat) := h6.cell rfl
        have c5 : wr.cell? ⟨b6, 5, none⟩ = some (.int .u32 c.f.toNat) := h6.cell rfl
        have c6 : wr.cell? ⟨b6, 6, none⟩ = some (.int .u32 c.g.toNat) := h6.cell rfl
        have c7 : wr.cell? ⟨b6, 7, none⟩ = some (.int .u32 c.h.toNat) := h6.cell rfl
        have cx := h5.cell (u32s_get (l := Sha.spread l) (i := k) (by have := spread_length l; rw [u32s_length] at this; omega))
        have cy : wr.cell? ⟨1, k, none⟩ = some (.int .u32 (Sha.keys64.getD k 0).toNat) := (hB.cell (p := ⟨1, k, none⟩) hk1).trans (HK.out k hlt)
        rw [← hx] at cx
        rw [← hy] at cy
        have HX := Lib.hid hx; clear hx
        have HY := Lib.hid hy; clear hy
        have HCC := Lib.hid hc; clear hc
        have G5 := Lib.hid h5; clear h5
        have G6 := Lib.hid h6; clear h6
        have G2 := Lib.hid h2; clear h2
        have G4 := Lib.hid h4; clear h4
        have GB := Lib.hid hB; clear hB
        go_wp2
        go_region_held3 (fun W' => W'.cell? ⟨b6, 0, none⟩ = some (.int .u32 c.a.toNat) ∧ W'.cell? ⟨b6, 1, none⟩ = some (.int .u32 c.b.toNat) ∧ W'.cell? ⟨b6, 2, none⟩ = some (.int .u32 c.c.toNat) ∧ W'.cell? ⟨b6, 4, none⟩ = some (.int .u32 c.e.toNat) ∧ W'.cell? ⟨b6, 5, none⟩ = some (.int .u32 c.f.toNat) ∧ W'.cell? ⟨b6, 6, none⟩ = some (.int .u32 c.g.toNat) ∧ W'.cell? ⟨b6, 7, none⟩ = some (.int .u32 c.h.toNat) ∧ W'.cell? ⟨b5, k, none⟩ = some (.int .u32 x.toNat) ∧ W'.cell? ⟨1, k, none⟩ = some (.int .u32 y.toNat) ∧ Below wr.heap.size wr W') (first | exact S9keep (by assumption) (by assumption) | (exact ⟨c0, c1, c2, c4, c5, c6, c7, cx, cy, (Below.refl _ _).drew⟩))
          (first | (go_at_call 44; refine (mix_at _ _ _ 6 11 25 c.e _ rfl rfl rfl (by decide) (by decide) (by decide)).mono ?_; rintro e w2 ⟨rfl, hb2⟩))
        rename_i S1
        obtain ⟨d0, d1, d2, d4, d5, d6, d7, dx, dy, dB⟩ := S1
        go_wp2
        rw [tx_eq]
        go_region_held3 (fun W' => W'.cell? ⟨b6, 0, none⟩ = some (.int .u32 c.a.toNat) ∧ W'.cell? ⟨b6, 1, none⟩ = some (.int .u32 c.b.toNat) ∧ W'.cell? ⟨b6, 2, none⟩ = some (.int .u32 c.c.toNat) ∧ W'.cell? ⟨b6, 4, none⟩ = some (.int .u32 c.e.toNat) ∧ W'.cell? ⟨b6, 5, none⟩ = some (.int .u32 c.f.toNat) ∧ W'.cell? ⟨b6, 6, none⟩ = some (.int .u32 c.g.toNat) ∧ W'.cell? ⟨b6, 7, none⟩ = some (.int .u32 c.h.toNat) ∧ W'.cell? ⟨b5, k, none⟩ = some (.int .u32 x.toNat) ∧ W'.cell? ⟨1, k, none⟩ = some (.int .u32 y.toNat) ∧ Below wr.heap.size wr W') (first | exact S9keep (by assumption) (by assumption) | (exact ⟨d0, d1, d2, d4, d5, d6, d7, dx, dy, dB.drew⟩))
          (first | (go_at_call 44; refine (mix_at _ _ _ 2 13 22 c.a _ rfl rfl rfl (by decide) (by decide) (by decide)).mono ?_; rintro e w3 ⟨rfl, hb3⟩))
        clear d0 d1 d2 d4 d5 d6 d7 dx dy dB
        rename_i S2
        obtain ⟨d0, d1, d2, d4, d5, d6, d7, dx, dy, dB⟩ := S2
        go_wp2
        rw [ty_eq]
        have A3 := Lib.hid (G6.out.below' dB)
        go_still_tail 2, (by kernel_rfl)
        refine wpList_copy_arr rfl _ _ _ _ rfl 56 (by kernel_rfl) (by kernel_rfl) b6 1 _ _ b6 0 _ _ rfl rfl (u32s [c.a, c.b, c.c, c.d, c.e, c.f, c.g]) (by simp [u32s]) (fun j v hv => ?_) _ A3.out (by simp [u32s, Sha.S8.list]) (u32s_one _) ?_
        · have hj : j < 7 := by
            have := (List.getElem?_eq_some_iff.1 hv).1
            simpa [u32s] using this
          refine A3.out.cell ?_
          rw [← hv, Nat.zero_add]
          match j, hj with
          | 0, _ | 1, _ | 2, _ | 3, _ | 4, _ | 5, _ | 6, _ => rfl
        intro w4 hA4 hg4
        have hA4' : Arr w4 b6 (u32s [c.a, c.a, c.b, c.c, c.d, c.e, c.f, c.g]) := hA4
        have e0 : w4.cell? ⟨b6, 0, none⟩ = some (.int .u32 c.a.toNat) := hA4'.cell rfl
        have e4 : w4.cell? ⟨b6, 4, none⟩ = some (.int .u32 c.d.toNat) := hA4'.cell rfl
        have f0 : w4.frozen? ⟨b6, 0, none⟩ = false := hA4'.frozen 0
        have f4 : w4.frozen? ⟨b6, 4, none⟩ = false := hA4'.frozen 4
        have A4 := Lib.hid hA4'; clear hA4 hA4'
        have g4 : Hid (w3.drew.grownBy w4 (some b6)) := hg4; clear hg4
        have dB' := Lib.hid dB; clear dB
        clear c0 c1 c2 c3 c4 c5 c6 c7 cx cy d0 d1 d2 d4 d5 d6 d7 dx dy
        go_wp2
        go_roundw
        case rel =>
          have hS := dB'.out
          have b5' : Arr w4 b5 (u32s (Sha.spread l)) := ((G5.out.below' hS).drew).grown g4.out (by simpa using hne)
          have b2' : Arr w4 w.heap.size (u32s s.list) := ((G2.out.below' hS).drew).grown g4.out (by simp; omega)
          have b4' : Arr w4 (w.heap.size + 1) (u32s (List.replicate 8 0)) := ((G4.out.below' hS).drew).grown g4.out (by simp; omega)
          have bB' : Below w.heap.size w w4 := (GB.out.trans (hS.mono GB.out.size)).drew.grown g4.out (Nat.le_trans GB.out.size hS.size) (by intro q hq; cases hq; omega)
          have hr : Sha.rounds (Sha.spread l) s (k + 1) = Sha.round c y x := by rw [HX.out, HY.out, HCC.out]; rfl
          have v0 : ((Sha.tx c y x).toNat : Int) + (Sha.ty c).toNat = 0 ∨ True := Or.inr trivial
          rw [add32, add32]
          refine ⟨k + 1, by omega, by go_num, (b5'.other (by simpa using Ne.symm hne) _).other (by simpa using Ne.symm hne) _, ?_, (b2'.other (by simp; omega) _).other (by simp; omega) _, (b4'.other (by simp; omega) _).other (by simp; omega) _, (bB'.setCell (by simp; omega) _).setCell (by simp; omega) _⟩
          rw [hr]
          exact (A4.out.set 0 _).set 4 _
        case measure => simp [intOf]; omega
      · have hk64 : k = 64 := by omega
        rw [hk64] at h6
        obtain ⟨c, hc⟩ : ∃ c, c = Sha.rounds (Sha.spread l) s 64 := ⟨_, rfl⟩
        rw [← hc] at h6
        have HCC := Lib.hid hc; clear hc hk64
        clear h5
        go_wp2
        go_loopw [78] (fun i wr => ∃ j : Nat, j ≤ 8 ∧ i = .int .i64 j ∧ Arr wr b6 (u32s ((Sha.plus s c).list.take j ++ c.list.drop j)) ∧ Arr wr w.heap.size (u32s s.list) ∧ Arr wr (w.heap.size + 1) (u32s (List.replicate 8 0)) ∧ Below w.heap.size w wr) (fun i _ => 8 - (intOf i).toNat)
        case atStart => exact ⟨0, by omega, rfl, h6, h2, h4, hB⟩
        case round =>
          clear h6 h2 h4 hB hk hlt
          obtain ⟨j, hj, rfl, h6, h2, h4, hB⟩ := hrel
          by_cases hlt : j < 8
          · obtain ⟨x, hx⟩ : ∃ x, x = ((Sha.plus s c).list.take j ++ c.list.drop j).getD j 0 := ⟨_, rfl⟩
            obtain ⟨y, hy⟩ : ∃ x, x = s.list.getD j 0 := ⟨_, rfl⟩
            have hll : ((Sha.plus s c).list.take j ++ c.list.drop j).length = 8 := by simp [Sha.S8.list]; omega
            have cx := h6.cell (u32s_get (i := j) (by rw [hll]; exact hlt))
            have cy := h2.cell (u32s_get (l := s.list) (i := j) hlt)
            have fx := h6.frozen j
            rw [← hx] at cx
            rw [← hy] at cy
            have HX := Lib.hid hx; clear hx
            have HY := Lib.hid hy; clear hy
            have G6 := Lib.hid h6; clear h6
            have G2 := Lib.hid h2; clear h2
            have G4 := Lib.hid h4; clear h4
            have GB := Lib.hid hB; clear hB
            clear hll
            go_wp2
            go_region
            all_goals go_wp2
            go_roundw
            case rel =>
              rw [add32]
              refine ⟨j + 1, by omega, by go_num, ?_, G2.out.other (by simp; omega) _, G4.out.other (by simp; omega) _, (GB.out.setCell (by simp; omega) _).drew⟩
              have e : ((Sha.plus s c).list.take j ++ c.list.drop j).set j (x + y) = (Sha.plus s c).list.take (j + 1) ++ c.list.drop (j + 1) := by
                rw [HX.out, HY.out]
                match j, hlt with
                | 0, _ | 1, _ | 2, _ | 3, _ | 4, _ | 5, _ | 6, _ | 7, _ => rfl
              rw [← e, ← u32s_set]
              exact G6.out.set _ _
            case measure => simp [intOf]; omega
          · have hj8 : j = 8 := by omega
            have h6' : Arr wr b6 (u32s (Sha.after s l).list) := by
              have e : (Sha.plus s c).list.take j ++ c.list.drop j = (Sha.after s l).list := by rw [hj8, HCC.out]; rfl
              rw [← e]; exact h6
            have G6 := Lib.hid h6'; clear h6 h6' hj8
            have G2 := Lib.hid h2; clear h2
            have G4 := Lib.hid h4; clear h4
            have GB := Lib.hid hB; clear hB
            go_wp2_with (first
              | (refine wpList_load_cells rfl _ _ rfl _ _ rfl (u32s (Sha.after s l).list) agg8 (fun j v hv => by rw [Nat.zero_add]; exact G6.out.cell hv) ?_)
              | (refine wpList_store_cells rfl rfl _ _ _ rfl _ _ rfl (u32s (Sha.after s l).list) rfl agg8.2 (u32s_one _) _ G4.out (by simp [u32s_length, s8_len]) ?_; intro w2 hA2 hG2))
            refine bodyPost_cells rfl rfl _ rfl _ hA2 ?_ ⟨?_, ?_⟩
            · rw [lay_whole _ _ (by simp [u32s_length, s8_len])]; exact agg8
            · rw [lay_whole _ _ (by simp [u32s_length, s8_len])]
            · exact GB.out.grown hG2 GB.out.size (by intro k hk; cases hk; omega)
end Go.Proofs.YtmindblfbijaaaaDoor
namespace Go.Proofs.YtmindblfbijaaaaDoor
open Go.RowKit Go.Shelf
attribute [local go_sem] Oper.semAt_some
theorem clip_any (ao : Option Addr) (n cap : Nat) (w : World) (hn : n ≤ cap) (hc : cap ≤ 9223372036854775807) (hnil : ao = none → cap = 0) :
    Calls Tryd.prog 29 #[.slice ao n cap] w fun e w' => e = .returned (.slice ao n n) ∧ w = w' := by
  go_enter Tryd.func29, Tryd.ntmps29
  go_wp2
  go_ret
  exact ⟨rfl, rfl⟩
theorem chunk_any (ao : Option Addr) (n cap : Nat) (w : World) :
    Calls Tryd.prog 30 #[.slice ao n cap, .int .i64 64] w fun e w' => e = .returned (.func (.func 42) #[] #[.pointer (some ⟨w.heap.size, 0, none⟩), .pointer (some ⟨w.heap.size + 1, 0, none⟩)]) ∧
      w' = (w.alloc (.cells #[.slice ao n cap] 22)).alloc (.cells #[.int .i64 64] 3) := by
  go_enter Tryd.func30, Tryd.ntmps30
  go_wp2
  go_ret
  exact ⟨rfl, rfl⟩
/-- The two captured variables keep their blocks. -/
def KpC (Bs : Nat) (W W' : World) : Prop := W'.heap[Bs]? = W.heap[Bs]? ∧ W'.heap[Bs + 1]? = W.heap[Bs + 1]?
theorem KpC.trans {Bs : Nat} {A B C : World} (h : KpC Bs A B) (k : KpC Bs B C) : KpC Bs A C := ⟨k.1.trans h.1, k.2.trans h.2⟩
theorem KpC.putObj {Bs l : Nat} (W : World) (o' : Obj) (hl : Bs + 1 < l) : KpC Bs W (W.putObj l o') :=
  ⟨World.putObj_heap_other (by omega), World.putObj_heap_other (by omega)⟩
theorem KpC.cell0 {Bs : Nat} {W W' : World} (h : KpC Bs W W') : W'.cell? ⟨Bs, 0, none⟩ = W.cell? ⟨Bs, 0, none⟩ := World.cell?_of_block h.1
theorem KpC.cell1 {Bs : Nat} {W W' : World} (h : KpC Bs W W') : W'.cell? ⟨Bs + 1, 0, none⟩ = W.cell? ⟨Bs + 1, 0, none⟩ := World.cell?_of_block h.2
theorem KpC.of_below {Bs B : Nat} {W W' : World} (h : Below B W W') (hB : Bs + 1 < B) : KpC Bs W W' := ⟨h.block _ (by omega), h.block _ hB⟩
theorem fin_take (m k : Nat) (h : k < m) : (List.finRange m).take (k + 1) = (List.finRange m).take k ++ [⟨k, h⟩] := by
  rw [List.take_succ_eq_append_getElem (by simpa using h)]; simp
set_option maxRecDepth 100000 in
set_option maxHeartbeats 1000000 in
theorem chunk1_in (n : Nat) (hn : 1 ≤ n) (l Bs g m cap : Nat) (hm : 64 * m ≤ cap) (hcap : cap ≤ 9223372036854775807) (J Jx : List (Fin m) → World → Prop) (hJd : ∀ pre W, J pre W → J pre W.drew)
    (hY : ∀ pre x W, J pre W → pre.length < m → YieldAt Fence.wide (n - 1) Tryd.prog l #[.slice (some ⟨g, 64 * x.1, none⟩) 64 64] W fun e W' =>
      (e = .returned (.bool true) ∧ J (pre ++ [x]) W' ∧ KpC Bs W W') ∨ (e = .returned (.bool false) ∧ Jx (pre ++ [x]) W'))
    (W : World) (hb0 : W.cell? ⟨Bs, 0, none⟩ = some (.slice (some ⟨g, 0, none⟩) (64 * m) cap)) (hb1 : W.cell? ⟨Bs + 1, 0, none⟩ = some (.int .i64 64)) (h0 : J [] W) :
    CallsIn Fence.wide n Tryd.prog 42 #[.func (.yield l) #[] #[], .pointer (some ⟨Bs, 0, none⟩), .pointer (some ⟨Bs + 1, 0, none⟩)] W fun e W' => (∃ v, e = .returned v) ∧
      ((∃ ys, ys = List.finRange m ∧ J ys W') ∨ (∃ pre, Jx pre W')) := by
  refine callsIn_of_wp Tryd.func42 rfl trivial ?_ rfl
  simp only [Tryd.ntmps42, List.size_toArray, List.length_cons, List.length_nil, Nat.reduceAdd, Nat.reduceSub, Array.replicate_succ, Array.replicate_zero, List.push_toArray, List.append_toArray, List.nil_append, List.cons_append]
  gi_wp2
  gi_loopw [4] (fun i wr => ∃ k : Nat, k ≤ m ∧ i = .int .i64 ((64 * k : Nat) : Int) ∧ J ((List.finRange m).take k) wr ∧ KpC Bs W wr) (fun i _ => 64 * m - (intOf i).toNat)
  case atStart => exact ⟨0, Nat.zero_le _, rfl, h0, rfl, rfl⟩
  case round =>
    obtain ⟨k, hk, rfl, hJs, hnx⟩ := hrel
    have c0 : wr.cell? ⟨Bs, 0, none⟩ = some (.slice (some ⟨g, 0, none⟩) (64 * m) cap) := hnx.cell0.trans hb0
    have c1 : wr.cell? ⟨Bs + 1, 0, none⟩ = some (.int .i64 64) := hnx.cell1.trans hb1
    by_cases hlt : k < m
    · obtain ⟨fn, tmps, assign, body, hy, hR⟩ := hY ((List.finRange m).take k) ⟨k, hlt⟩ wr.drew (hJd _ _ hJs) (by simp; omega)
      gi_wp2
      refine wpIn_wide.2 ?_
      go_region
      all_goals gi_wp2
      refine hR.mono ?_
      rintro e W3 (⟨rfl, hJ3, hk3⟩ | ⟨rfl, hJx3⟩)
      · have d0 : W3.cell? ⟨Bs, 0, none⟩ = some (.slice (some ⟨g, 0, none⟩) (64 * m) cap) := hk3.cell0.trans c0
        have d1 : W3.cell? ⟨Bs + 1, 0, none⟩ = some (.int .i64 64) := hk3.cell1.trans c1
        gi_wp2
        go_roundw
        case rel => exact ⟨k + 1, by omega, by go_num, by rw [fin_take m k hlt]; exact hJ3, hnx.trans hk3⟩
        case measure => simp [intOf]; omega
      · gi_wp2
        refine bodyPost_ret (results_none rfl _ _ _) rfl ?_
        exact ⟨⟨_, rfl⟩, .inr ⟨_, hJx3⟩⟩
    · obtain rfl : k = m := by omega
      gi_wp2
      go_end0
      exact ⟨⟨_, rfl⟩, .inl ⟨_, rfl, by rw [List.take_of_length_le (by simp)] at hJs; exact hJs⟩⟩
theorem chunk_stops (n : Nat) (hn : 1 ≤ n) (Bs g m cap : Nat) (hm : 64 * m ≤ cap) (hcap : cap ≤ 9223372036854775807) (w : World) (hBs : Bs + 1 < w.heap.size)
    (hb0 : w.cell? ⟨Bs, 0, none⟩ = some (.slice (some ⟨g, 0, none⟩) (64 * m) cap)) (hb1 : w.cell? ⟨Bs + 1, 0, none⟩ = some (.int .i64 64)) :
    SeqStopsK Fence.wide n Tryd.prog 42 #[.pointer (some ⟨Bs, 0, none⟩), .pointer (some ⟨Bs + 1, 0, none⟩)] (fun x : Fin m => #[Value.slice (some ⟨g, 64 * x.1, none⟩) 64 64]) (KpC Bs) (fun ys => ys = List.finRange m) (fun _ => True) m w :=
  fun l J Jx W hW hJ _ hY h0 => by
    refine (chunk1_in n hn l Bs g m cap hm hcap J Jx (fun pre W' h => hJ pre W' _ none h ⟨rfl, rfl, rfl, Nat.le_refl _, fun _ _ _ => rfl⟩ (fun r e => by cases e)) hY W
      ((hW.cell (p := ⟨Bs, 0, none⟩) (by simp; omega)).trans hb0) ((hW.cell (p := ⟨Bs + 1, 0, none⟩) (by simp; omega)).trans hb1) h0).mono ?_
    rintro e W' ⟨he, ⟨ys, rfl, hj⟩ | ⟨pre, hj⟩⟩
    · exact ⟨he, .inl ⟨_, rfl, hj⟩⟩
    · exact ⟨he, .inr ⟨_, trivial, hj⟩⟩
end Go.Proofs.YtmindblfbijaaaaDoor
namespace Go.Proofs.YtmindblfbijaaaaDoor
open Go.RowKit
section
variable {P : Program} {F : Fence} {n : Nat} {ops : Array Oper} {rest : List Oper} {o : Oper} {a : Act} {w w' : World} {Q : Exit → Act → World → Prop}
theorem wpListIn_of_value (hF : ∀ f, F.fn f) (hgd : o.guard = none) (hnd : ∀ c, o.op ≠ .defer c) {v : Value} (hrun : (execOp a.eval o).run P w = .ok (.value v) w') (h : wpListIn F n P ops Q rest (a.put o.dst v) w') :
    wpListIn F n P ops Q (o :: rest) a w := by
  refine wpListIn_plain hgd fun K hK => ⟨fun f _ => hF f, ?_⟩
  rw [Oper.semAt_plain F _ _ hnd, hrun, Oper.uponIn_value]
  exact hK _ _ h
theorem wpListIn_of_skip (hF : ∀ f, F.fn f) (hgd : o.guard = none) (hnd : ∀ c, o.op ≠ .defer c) (hd : o.dst = none) (hrun : (execOp a.eval o).run P w = .ok .skip w') (h : wpListIn F n P ops Q rest a w') :
    wpListIn F n P ops Q (o :: rest) a w := by
  refine wpListIn_plain hgd fun K hK => ⟨fun f _ => hF f, ?_⟩
  rw [Oper.semAt_plain F _ _ hnd, hrun, Oper.uponIn_skip, hd]
  exact hK _ _ h
theorem wpListIn_load_cells (hF : ∀ f, F.fn f) (hgd : o.guard = none) (ty : TypeId) (x : Operand) (ho : o.op = .load ty x) (g off : Nat) (hx : a.eval x = .pointer (some ⟨g, off, none⟩))
    (cs : List Value) (hT : AggT P ty cs.length) (hc : ∀ j v, cs[j]? = some v → w.cell? ⟨g, off + j, none⟩ = some v)
    (h : wpListIn F n P ops Q rest (a.put o.dst (.agg cs.toArray)) w) : wpListIn F n P ops Q (o :: rest) a w := by
  have hl : (loadCells ⟨g, off, none⟩ cs.length).run P w = .ok cs.toArray w :=
    run_loadCells_list (P := P) w ⟨g, off, none⟩ cs (fun j v hv => by rw [addr_add]; exact hc j v hv)
  refine wpListIn_of_value hF hgd (by rw [ho]; intro c hc; cases hc) ?_ h
  simp only [execOp, ho, hx]
  simp [Instr.loadAt, Instr.sureAddr, loadVar, Sem.run_bind, hT.1, run_sizeOf hT.2, hl, Result.andThen]
theorem wpListIn_store_cells (hF : ∀ f, F.fn f) (hgd : o.guard = none) (hd : o.dst = none) (ty : TypeId) (x y : Operand) (ho : o.op = .store ty x y) (g off : Nat) (hx : a.eval x = .pointer (some ⟨g, off, none⟩))
    (cs : List Value) (hy : a.eval y = .agg cs.toArray) (hT : (P.info? ty).map (·.size) = some cs.length) (h1 : ∀ v ∈ cs, v.oneCell' = true) (cur : List Value) (hA : Arr w g cur) (hfit : off + cs.length ≤ cur.length)
    (h : ∀ w', Arr w' g (lay cur off cs) → w.grownBy w' (some g) → wpListIn F n P ops Q rest a w') : wpListIn F n P ops Q (o :: rest) a w := by
  obtain ⟨T, hg⟩ := hA
  have hs : (storeCells ⟨g, off, none⟩ cs).run P w = .ok () (w.setRow g (lay cur off cs).toArray) := by
    have := run_storeCells_at P g off T cs 0 cur.toArray w hg (by simpa using hfit) h1
    simpa [lay] using this
  refine wpListIn_of_skip (w' := w.setRow g (lay cur off cs).toArray) hF hgd (by rw [ho]; intro c hc; cases hc) hd ?_ (h _ (Arr.setRow ⟨T, hg⟩ _) (grownBy_setRow _ _ _))
  simp only [execOp, ho, hx, hy]
  simp [Instr.storeAt, Instr.sureAddr, storeVar, Sem.run_bind, Value.cells, run_sizeOf hT, hs, Result.andThen]
end
theorem results_cells {P : Program} {w : World} {fn : Func} {p : Tmp} {ty : TypeId} (hr : fn.results = #[.cell p ty]) (tmps : Array Value) (g : Nat) (hp : tmps.getD p undef = .pointer (some ⟨g, 0, none⟩))
    (cs : List Value) (hA : Arr w g cs) (hT : AggT P ty cs.length) : (results fn tmps).run P w = .ok (.agg cs.toArray) w := by
  have hl : (loadCells ⟨g, 0, none⟩ cs.length).run P w = .ok cs.toArray w :=
    run_loadCells_list (P := P) w ⟨g, 0, none⟩ cs (fun j v hv => by rw [addr_add, Nat.zero_add]; exact hA.cell hv)
  have hp' : tmps[p]?.getD undef = .pointer (some ⟨g, 0, none⟩) := by simpa using hp
  simp [results, hr, hp', asAddr, loadVar, Sem.run_bind, hT.1, run_sizeOf hT.2, hl, Result.andThen]
/-- A block of cells stays while blocks that are no cells turn. -/
theorem Arr.ownK {W W' : World} {row : Option Nat} {b : Nat} {cs : List Value} (h : Arr W b cs) (hg : W.grownBy W' row) (hr : ∀ r, row = some r → ∃ o : Obj, W.heap[r]? = some o ∧ o.isCells = false) : Arr W' b cs := by
  refine h.grown hg (fun e => ?_)
  obtain ⟨o, ho, hc⟩ := hr b e.symm
  obtain ⟨T, hT⟩ := h
  rw [hT] at ho
  cases ho; cases hc
theorem keeps_of_below {W W' : World} (h : Below W.heap.size W W') : KeepsOthers W W' :=
  ⟨h.size, fun k o hk _ => (h.block k (Array.getElem?_eq_some_iff.1 hk).1).trans hk⟩
theorem keeps_of_grown {W W' : World} {g : Nat} {cs : List Value} (hA : Arr W g cs) (h : W.grownBy W' (some g)) : KeepsOthers W W' :=
  KeepsOthers.of_grownBy h (fun j o e ho => by
    cases e
    obtain ⟨T, hT⟩ := hA
    rw [hT] at ho; cases ho; rfl)
end Go.Proofs.YtmindblfbijaaaaDoor
