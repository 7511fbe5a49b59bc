/-
  Lemmas, part 5 of 7: walks through the program's functions, and plain Lean about what they compute.
-/
import Derived.RangeFuncRecord
import Derived.MapKept
import Derived.RangeFuncSeq
import Derived.Test.YtagfaaijgfigkaaDoorZ1
import Derived.Test.YtagfaaijgfigkaaDoorZ2
import Derived.Test.YtagfaaijgfigkaaDoorZ3
import Derived.Test.YtagfaaijgfigkaaDoorZ4
set_option linter.unnecessarySimpa false
set_option linter.unusedSimpArgs false
set_option linter.unusedVariables false
namespace Go.Proofs.YtagfaaijgfigkaaDoor
open Go.RowKit
def OwnD (C : Facts) (base : Nat) (w : World) (v : Value) (sz : Nat) (rows : List (List D)) : Prop :=
  ∃ p a, v = .slice a rows.length p.cap ∧ (0 < p.cap → a = some ⟨p.b, 0, none⟩) ∧ BlkOk (base ≤ ·) (fun _ => none) C w p (dB sz rows)
def Pk.val : Pk → Value → List Value → Value
  | .one, s, _ => s
  | .tup, s, us => .tuple (s :: us).toArray
  | .agg, s, us => .agg (s :: us).toArray
def Pk.ok (C : Facts) : Pk → List D → List Value → Prop
  | .one, _, _ => True
  | .tup, rest, us => Rp C (.outs rest us)
  | .agg, rest, us => Rp C (.vals rest us)
def Pk.d : Pk → D → List D → D
  | .one, x, _ => x
  | .tup, x, rest => .tup (x :: rest)
  | .agg, x, rest => .agg (rest.length + 1) (x :: rest)
def CallsO (P : Program) (G : Nat → Option D) (f : FuncId) (ds : List D) (pk : Pk) (sz : Nat) (rows : List (List D)) (rest : List D) : Prop :=
  ∀ C w vs, GlobD G C → Known C w → Rp C (.outs ds vs) → Calls P f vs.toArray w fun e w' => ∃ s us C', e = .returned (pk.val s us) ∧ More w C w' C' ∧ OwnD C' w.heap.size w' s sz rows ∧ pk.ok C' rest us
section
variable {F : Fr} {st : St} {μ : Nat → Option Place} {C : Facts} {a : Act} {w : World}
theorem Sim.adopt (h : Sim F st μ C a w) {w' : World} {C' : Facts} (hm : More w C w' C') {m n' : Nat} (hfree : μ m = none) (hmn : m < n') (hn : st.nx ≤ n') {p : Place} {sz : Nat} {rows : List (List D)} (ho : BlkOk (w.heap.size ≤ ·) (fun _ => none) C' w' p (dB sz rows)) :
    Sim F { st with h := (m, dB sz rows) :: st.h, nx := n' } (fun l => if l = m then some p else μ l) C' a w' := by
  have hμ : ∀ l q, μ l = some q → (fun l => if l = m then some p else μ l) l = some q := by
    intro l q hq
    have : l ≠ m := fun e => by rw [e, hfree] at hq; cases hq
    simp [this, hq]
  have h1 := h.more hm
  refine ⟨h1.size, h1.defers, h1.below, h1.sub, h1.new, h1.known, fun t x hx => (h1.env t x hx).mono hμ (fun _ _ _ h => h), ?_, ?_, ?_, F.stab h.gh (turn_new h _ p hfree hμ (by simp) (fun hc => (ho.cells hc).1) (fun l hl => by simp [hl]) hm)⟩
  · intro l k hk
    simp only [look] at hk
    by_cases hl : m = l
    · subst hl
      rw [if_pos rfl] at hk
      cases hk
      refine ⟨p, by simp, ho.sz, ho.len, ho.max, ho.row, fun hc => ?_⟩
      obtain ⟨b1, b2, cur, T, b3, b4, b5⟩ := ho.cells hc
      exact ⟨.inl (Nat.le_trans h.below.size b1), b2, cur, T, b3, b4, b5.mono (fun l p h => by cases h) (fun _ _ _ h => h)⟩
    · rw [if_neg hl] at hk
      obtain ⟨q, hq, hb⟩ := h1.heap l k hk
      refine ⟨q, hμ l q hq, hb.sz, hb.len, hb.max, hb.row, fun hc => ?_⟩
      obtain ⟨a1, a2, cur', T', a3, a4, a5⟩ := hb.cells hc
      exact ⟨a1, a2, cur', T', a3, a4, a5.mono hμ (fun _ _ _ h => h)⟩
  · intro l l' q q' hl hl' hq hq' hc hc' hb
    simp only [look] at hl hl'
    have hlt : ∀ l q, (look st.h l).isSome = true → μ l = some q → 0 < q.cap → q.b < w.heap.size := by
      intro l q hl hq hc
      obtain ⟨k, hk⟩ := Option.isSome_iff_exists.1 hl
      obtain ⟨q2, hq2, hb2⟩ := h.heap l k hk
      rw [hq] at hq2; cases hq2
      exact hb2.lt hc
    by_cases e : l = m <;> by_cases e' : l' = m
    · rw [e, e']
    · rw [if_neg (Ne.symm e')] at hl'
      simp only [if_pos e, if_neg e'] at hq hq'
      cases hq
      have := hlt l' q' hl' hq' hc'
      have : w.heap.size ≤ p.b := (ho.cells hc).1
      omega
    · rw [if_neg (Ne.symm e)] at hl
      simp only [if_neg e, if_pos e'] at hq hq'
      cases hq'
      have := hlt l q hl hq hc
      have : w.heap.size ≤ p.b := (ho.cells hc').1
      omega
    · rw [if_neg (Ne.symm e)] at hl
      rw [if_neg (Ne.symm e')] at hl'
      simp only [if_neg e, if_neg e'] at hq hq'
      exact h.inj l l' q q' hl hl' hq hq' hc hc' hb
  · intro l hl
    have hl' : n' ≤ l := hl
    have : l ≠ m := by omega
    simp only [if_neg this]
    exact h.nx l (by omega)
theorem pk_rep {pk : Pk} {m : Nat} {n : Nat} {rest : List D} {p : Place} {ao : Option Addr} {us : List Value} {μ : Nat → Option Place} (hp : μ m = some p) (hn : n ≤ p.cap) (hao : 0 < p.cap → ao = some ⟨p.b, 0, none⟩) (hok : pk.ok C rest us) : RepV μ C (pk.v m n rest) (pk.val (.slice ao n p.cap) us) := by
  cases pk with
  | one => exact ⟨p, ao, hp, by simp [Pk.val], by simpa using hn, by simpa using hao⟩
  | tup => exact ⟨p, ao, us, hp, hn, hao, by rw [if_pos rfl]; exact ⟨hok, rfl⟩⟩
  | agg => exact ⟨p, ao, us, hp, hn, hao, by rw [if_neg (by simp)]; exact ⟨hok, rfl⟩⟩
end
section
variable {P : Program} {G : Nat → Option D} {N : Nat} {F : Fr} {ops : Array Oper} {rest : List Oper} {o : Oper} {Q : Exit → St → Prop} {st : St} {pk : Pk} {sz : Nat} {rows : List (List D)} {rs : List D}
theorem SmL.callO (hF : Env F P G N) (hN : St.small N st) {f : FuncId} {xs : Array Operand} {ts : Array TypeId} {t : Tmp} {ds : List D} (hg : guardS ops st.env o.guard = some true) (ho : o.op = .call ⟨.value (.func f), xs, ts⟩) (hd : o.dst = some t) (hb : hasBody P f = true)
    (hargs : evArgs (evD G st.env) xs.toList = some ds) (ht : t < N) (hc : CallsO P G f ds pk sz rows rs)
    (k : SmL F ops rest Q ⟨(t, pk.v st.nx rows.length rs) :: st.env, (st.nx, dB sz rows) :: st.h, st.nx + 1⟩) : SmL F ops (o :: rest) Q st := by
  intro μ C a w hs
  obtain ⟨rfl, rfl, hG⟩ := hF
  have hev : ∀ x v, evD G st.env x = some v → RepV μ C v (a.eval x) := fun x v h => evD_ok hs hG h
  refine wpS_step (fun _ => by rw [ho]; simp) fun K hK => ?_
  rw [guardS_ok hs hg hN, if_pos rfl]
  refine wp_call f (fun a w => hcall_of hb a w) xs ts ho (xs.toList.map a.eval) rfl ?_
  refine (hc C w _ (hG.mono hs.sub) hs.known (evArgs_ok hev hargs)).mono ?_
  rintro e w' ⟨s, us, C', rfl, hm, ⟨p, ao, rfl, hao, hB⟩, hok⟩
  have hs2 := hs.adopt hm (m := st.nx) (n' := st.nx + 1) (hs.nx _ (Nat.le_refl _)) (by omega) (by omega) hB
  refine ⟨_, rfl, by rw [hd]; exact hK _ _ (k _ C' _ w' (hs2.put ht (pk_rep (by simp) (by simpa using hB.len) hao hok)))⟩
theorem OpMakes.callO (hF : Env F P G N) {env : List (Nat × V)} {f : FuncId} {xs : Array Operand} {ts : Array TypeId} {ds : List D} (ho : o.op = .call ⟨.value (.func f), xs, ts⟩) (hb : hasBody P f = true)
    (hargs : evArgs (evD G env) xs.toList = some ds) (hc : CallsO P G f ds pk sz rows rs) : OpMakes F G o env (dB sz rows) (fun m => pk.v m rows.length rs) := by
  intro μ C a w nx' hh hs hop m hm hfree K Q hK
  obtain ⟨rfl, rfl, hG⟩ := hF
  have hxs : ∀ y ∈ xs.toList, ∀ v, evD G env y = some v → RepV μ C v (a.eval y) := fun y hy v hv => hop y (by rw [ho]; simp [Op.operands, Call.operands]; exact .inr (by simpa using hy)) v hv
  have hrep : ∀ {ys : List Operand} {es : List D}, (∀ y ∈ ys, ∀ v, evD G env y = some v → RepV μ C v (a.eval y)) → evArgs (evD G env) ys = some es → Rp C (.outs es (ys.map a.eval)) := by
    intro ys
    induction ys with
    | nil => intro es _ h; cases h; exact .onil
    | cons y ys ih =>
      intro es hy h
      simp only [evArgs, Option.bind_eq_some_iff] at h
      obtain ⟨v, hv, h⟩ := h
      split at h
      · rename_i d
        simp only [Option.map_eq_some_iff] at h
        obtain ⟨r, hr, rfl⟩ := h
        exact .ocons _ _ _ _ (hy y (by simp) _ hv) (ih (fun z hz => hy z (by simp [hz])) hr)
      · cases h
  refine wp_call f (fun a w => hcall_of hb a w) xs ts ho (xs.toList.map a.eval) rfl ?_
  refine (hc C w _ (hG.mono hs.sub) hs.known (hrep hxs hargs)).mono ?_
  rintro e w' ⟨s, us, C', rfl, hm', ⟨p, ao, rfl, hao, hB⟩, hok⟩
  have hs2 := hs.adopt hm' (m := m) (n' := nx') hfree hm (Nat.le_refl _) hB
  refine ⟨_, rfl, hK _ _ _ C' hs2 hm'.sub (fun l q hq => ?_) (fun l hl => by simp [hl]) (pk_rep (by simp) (by simpa using hB.len) hao hok)⟩
  have : l ≠ m := fun e => by rw [e, hfree] at hq; cases hq
  simp [this, hq]
end
section
variable {P : Program} {G : Nat → Option D} {N : Nat} {F : Fr} {ops rest : List Oper} {o : Oper} {Q : Exit → St → Prop} {env : List (Nat × V)} {h : List (Nat × Blk)} {nx : Nat} {al : List (Nat × Blk)} {K : List (Nat × V) → List (Nat × Blk) → Nat → Prop} {pk : Pk} {sz : Nat} {rows : List (List D)} {rs : List D}
theorem SmG.callO (hF : Env F P G N) {f : FuncId} {xs : List Operand} {ts : Array TypeId} {t : Tmp} {ds : List D} (ho : o.op = .call ⟨.value (.func f), xs.toArray, ts⟩) (hd : o.dst = some t) (hb : hasBody P f = true) (ht : Nat.blt t N = true)
    (hg : guardB ops env o.guard = some true) (hargs : evArgs (evB G env) xs = some ds) (hc : CallsO P G f ds pk sz rows rs)
    (k : SmG F N ops rest Q ⟨(t, pk.v nx rows.length rs) :: env, (nx, dB sz rows) :: h, nx + 1⟩) : SmG F N ops (o :: rest) Q ⟨env, h, nx⟩ := by
  have ht' : t < N := by simpa [Nat.blt_eq] using ht
  intro hs
  exact SmL.callO hF hs (guardB_ok hg) ho hd hb (evArgs_B (by simpa using hargs)) ht' hc (k (small_put hs ht'))
theorem Head.co (hF : Env F P G N) {f : FuncId} {xs : List Operand} {ts : Array TypeId} {t : Tmp} {ds : List D} (ho : o.op = .call ⟨.value (.func f), xs.toArray, ts⟩) (hd : o.dst = some t) (hb : hasBody P f = true) (ht : Nat.blt t N = true)
    (hg : guardB ops env o.guard = some true) (hargs : evArgs (evB G env) xs = some ds) (hc : CallsO P G f ds pk sz rows rs)
    (k : Head F G N ops.toArray h rest ((t, pk.v nx rows.length rs) :: env) ((nx, dB sz rows) :: al) (nx + 1) K) : Head F G N ops.toArray h (o :: rest) env al nx K :=
  .inl ⟨t, hd, by simpa [Nat.blt_eq] using ht, .inr ⟨dB sz rows, fun m => pk.v m rows.length rs, guardB_ok hg, .callO hF ho hb (evArgs_B (by simpa using hargs)) hc, k⟩⟩
end
theorem OwnD.data {C : Facts} {base : Nat} {w : World} {v : Value} {sz : Nat} {rows : List (List D)} (hk : Known C w) (ho : OwnD C base w v sz rows) : ∃ C', (∀ b o u, C b o u → C' b o u) ∧ (∀ b o u, C' b o u → C b o u ∨ base ≤ b) ∧ Known C' w ∧ Rep C' (.list sz rows false) v := by
  obtain ⟨p, ao, rfl, hao, hb⟩ := ho
  refine ⟨fun b o u => C b o u ∨ (0 < p.cap ∧ b = p.b ∧ w.cell? ⟨p.b, o, none⟩ = some u), fun b o u h => .inl h, ?_, ?_, ?_⟩
  · rintro b o u (h | ⟨h1, rfl, _⟩)
    · exact .inl h
    · exact .inr (hb.cells h1).1
  · rintro b o u (h | ⟨h1, rfl, h2⟩)
    · exact hk b o u h
    · exact .inl h2
  · have hlen : rows.length ≤ p.cap := by simpa using hb.len
    by_cases hr0 : rows = []
    · subst hr0
      refine .nil _ _ _ _ ⟨Nat.zero_le _, by simp, hb.max, fun hn => ?_, fun x hx hpos => ?_⟩
      · rcases Nat.eq_zero_or_pos p.cap with h0 | h0
        · exact h0
        · rw [hao h0] at hn; cases hn
      · rw [hao hpos] at hx; cases hx; rfl
    · have hpos : 0 < rows.length := List.length_pos_iff.2 hr0
      have hcap : 0 < p.cap := by omega
      obtain rfl := hao hcap
      refine .list _ _ _ _ _ _ hr0 ⟨hlen, by simp, hb.max, fun h => (by cases h), fun x h _ => by cases h; rfl⟩ (rows_of fun i x hi => ?_)
      have hrow : (rows.map fun r => r.map V.d)[i]? = some (x.map V.d) := by simp [hi]
      refine ⟨by simpa using hb.row _ (List.mem_of_getElem? hrow), mem_of fun j d hj => ?_⟩
      obtain ⟨_, _, cur, T, h3, h4, h5⟩ := hb.cells hcap
      obtain ⟨u, g1, g2, g3⟩ := h5 i _ hrow j (.d d) (by simp [hj])
      have hc : w.cell? ⟨p.b, 0 + i * sz + j, none⟩ = some u := by
        rw [Nat.zero_add]
        simp [World.cell?, h3]
        simpa using g1
      exact ⟨u, .inr ⟨hcap, rfl, hc⟩, g2, Rp.mono (fun _ _ _ h => .inl h) g3⟩
theorem CallsO.data {P : Program} {G : Nat → Option D} {f : FuncId} {ds : List D} {pk : Pk} {sz : Nat} {rows : List (List D)} {rest : List D} (h : CallsO P G f ds pk sz rows rest) : CallsD P G f ds (pk.d (.list sz rows false) rest) := by
  intro C w vs hG hk ha
  refine (h C w vs hG hk ha).mono ?_
  rintro e w' ⟨s, us, C', rfl, hm, ho, hok⟩
  obtain ⟨C2, k1, k2, k3, k4⟩ := ho.data hm.known
  refine ⟨_, C2, rfl, ⟨hm.below, fun b o u hc => k1 _ _ _ (hm.sub _ _ _ hc), fun b o u hc => (k2 _ _ _ hc).elim (hm.new b o u) .inr, k3⟩, ?_⟩
  cases pk with
  | one => exact k4
  | tup => exact .tup _ _ (.ocons _ _ _ _ k4 (Rp.mono k1 hok))
  | agg =>
    refine .agg _ _ _ (by simp) (.vcons _ _ _ _ ?_ k4 (Rp.mono k1 hok))
    obtain ⟨p, ao, rfl, _⟩ := ho
    rfl
def retV (P : Program) (pk : Pk) (st : St) (rs : List ResultVar) : Option V :=
  match pk with
  | .tup => match rs with
    | r :: rs => (retOne P st r).bind fun v => match v with
      | .sref l 0 n => if rs.isEmpty then none else (retAll P st rs).map fun ds => .mix true l n ds
      | _ => none
    | _ => none
  | _ => match rs with
    | [r] => retOne P st r
    | _ => none
def retO (P : Program) (fn : Func) (pk : Pk) (sz : Nat) (rows : List (List D)) (rest : List D) : Exit → St → Prop
  | .ret, st | .normal, st => ∃ l, retV P pk st fn.results.toList = some (pk.v l rows.length rest) ∧ look st.h l = some (dB sz rows)
  | _, _ => False
section
variable {P : Program} {G : Nat → Option D} {N : Nat} {F : Fr} {st : St} {μ : Nat → Option Place} {C : Facts} {a : Act} {w : World}
theorem retOne_ok (hs : Sim F st μ C a w) {r : ResultVar} {v : V} (hv : retOne F.P st r = some v) :
    ∃ u, ((match r with | .tmp t => pure (a.tmps.getD t undef) | .cell p t => do loadVar t (← asAddr (a.tmps.getD p undef)) : Sem Value)).run F.P w = .ok u w ∧ RepV μ C v u := by
  cases r with
  | tmp t => exact ⟨_, rfl, hs.env t _ hv⟩
  | cell p ty =>
    simp only [retOne, Option.bind_eq_some_iff] at hv
    obtain ⟨x, hx, hl⟩ := hv
    obtain ⟨u, a1, a2⟩ := loadS_ok hs (hs.env p x hx) hl
    refine ⟨u, ?_, a2⟩
    have hp := hs.env p x hx
    show ((do loadVar ty (← asAddr (a.tmps.getD p undef)) : Sem Value)).run F.P w = .ok u w
    generalize a.tmps.getD p undef = q at a1 hp ⊢
    cases q with
    | pointer b =>
      cases b with
      | some b => simpa [Instr.loadAt, Instr.sureAddr, asAddr, Sem.run_bind, Result.andThen] using a1
      | none => simp [Instr.loadAt, Instr.sureAddr, stuck, Sem.run_bind, Result.andThen, Sem.run] at a1
    | _ => simp [Instr.loadAt, Instr.sureAddr, stuck, Sem.run_bind, Result.andThen, Sem.run] at a1
theorem results_of {fn : Func} {us : List Value} (h1 : ((fn.results.toList.mapM fun (r : ResultVar) => (match r with | .tmp t => pure (a.tmps.getD t undef) | .cell p t => do loadVar t (← asAddr (a.tmps.getD p undef)) : Sem Value))).run P w = .ok us w) :
    (results fn a.tmps).run P w = .ok (if h : us.toArray.size = 1 then us.toArray[0] else .tuple us.toArray) w := by
  unfold results
  rw [Array.mapM_eq_mapM_toList]
  simp only [Sem.run_bind]
  have : (List.toArray <$> (fn.results.toList.mapM fun (r : ResultVar) => (match r with | .tmp t => pure (a.tmps.getD t undef) | .cell p t => do loadVar t (← asAddr (a.tmps.getD p undef)) : Sem Value))).run P w = .ok us.toArray w := by
    show ((fn.results.toList.mapM fun (r : ResultVar) => (match r with | .tmp t => pure (a.tmps.getD t undef) | .cell p t => do loadVar t (← asAddr (a.tmps.getD p undef)) : Sem Value)).bind fun x => Sem.pure x.toArray).run P w = _
    have hb := Sem.run_bind' P (fn.results.toList.mapM fun (r : ResultVar) => (match r with | .tmp t => pure (a.tmps.getD t undef) | .cell p t => do loadVar t (← asAddr (a.tmps.getD p undef)) : Sem Value)) (fun x => Sem.pure x.toArray) w
    rw [hb, h1]
    rfl
  erw [this]
  rfl
theorem retV_ok (hs : Sim F st μ C a w) {fn : Func} {pk : Pk} {v : V} (hv : retV F.P pk st fn.results.toList = some v) : ∃ u, (results fn a.tmps).run F.P w = .ok u w ∧ RepV μ C v u := by
  have one : ∀ {r : ResultVar}, fn.results.toList = [r] → retOne F.P st r = some v → ∃ u, (results fn a.tmps).run F.P w = .ok u w ∧ RepV μ C v u := by
    intro r hr hv
    obtain ⟨u, h1, h2⟩ := retOne_ok hs hv
    refine ⟨u, ?_, h2⟩
    have := results_of (P := F.P) (fn := fn) (a := a) (w := w) (us := [u]) (by rw [hr]; simp only [List.mapM_cons, List.mapM_nil, Sem.run_bind, h1, Result.andThen_ok, Sem.run_pure])
    simpa using this
  unfold retV at hv
  split at hv
  · split at hv
    · rename_i r rs hr
      simp only [Option.bind_eq_some_iff] at hv
      obtain ⟨x, hx, hv⟩ := hv
      obtain ⟨u, h1, h2⟩ := retOne_ok hs hx
      split at hv
      · rename_i l n
        split at hv
        · cases hv
        · rename_i hne
          simp only [Option.map_eq_some_iff] at hv
          obtain ⟨ds, hds, rfl⟩ := hv
          obtain ⟨us, g1, g2⟩ := retAll_ok hs hds
          have hul : us ≠ [] := by
            intro e; subst e
            cases rs with
            | nil => simp at hne
            | cons r' rs =>
              have := outs_length g2
              simp only [retAll, Option.bind_eq_some_iff, Option.map_eq_some_iff] at hds
              obtain ⟨_, _, _, _, _, _, rfl⟩ := hds
              simp at this
          have := results_of (P := F.P) (fn := fn) (a := a) (w := w) (us := u :: us) (by rw [hr]; simp only [List.mapM_cons, Sem.run_bind, h1, Result.andThen_ok]; erw [g1]; rfl)
          obtain ⟨p, ao, q1, rfl, q3, q4⟩ := h2
          refine ⟨_, this, p, ao, us, q1, by simpa using q3, by simpa using q4, ?_⟩
          rw [if_pos rfl]
          refine ⟨g2, ?_⟩
          cases us with
          | nil => exact absurd rfl hul
          | cons u2 us => simp
      · cases hv
    · cases hv
  · split at hv
    · rename_i r hr; exact one hr hv
    · cases hv
theorem CallsO.of {f : FuncId} {fn : Func} {c : Code} {ds : List D} {pk : Pk} {sz : Nat} {rows : List (List D)} {rest : List D} (hf : P.funcs[f]? = some fn) (hb : fn.body = some c) (hN : fn.ntmps = N) (hp : ds.length ≤ N)
    (h : ∀ F, Env F P G N → F.n0 = 0 → F.top → Sm F c (retO P fn pk sz rows rest) ⟨ds.zipIdx.map fun e => (e.2, .d e.1), [], 0⟩) : CallsO P G f ds pk sz rows rest := by
  intro C w vs hG hk ha
  have hvl : vs.length = ds.length := outs_length ha
  let F : Fr := ⟨P, N, w, C, fun _ => False, none, 0, fun _ _ _ _ _ => True, fun _ _ => trivial⟩
  have hsz : (vs.toArray ++ Array.replicate (fn.ntmps - vs.toArray.size) undef).size = N := by simp; omega
  have hlook : ∀ (ds : List D) (k : Nat) (t : Nat) (x : V), look ((ds.zipIdx k).map fun e => (e.2, V.d e.1)) t = some x → ∃ d, x = .d d ∧ k ≤ t ∧ ds[t - k]? = some d := by
    intro ds
    induction ds with
    | nil => intro k t x h; simp [look] at h
    | cons d ds ih =>
      intro k t x h
      simp only [List.zipIdx_cons, List.map_cons, look] at h
      split at h
      · rename_i e; cases h; subst e; exact ⟨d, rfl, Nat.le_refl _, by simp⟩
      · obtain ⟨d', rfl, h1, h2⟩ := ih _ _ _ h
        refine ⟨d', rfl, by omega, ?_⟩
        rw [show t - k = (t - (k + 1)) + 1 by omega]; simpa using h2
  have hsim : Sim F ⟨ds.zipIdx.map fun e => (e.2, .d e.1), [], 0⟩ (fun _ => none) C { tmps := vs.toArray ++ Array.replicate (fn.ntmps - vs.toArray.size) undef, defers := [] } w := by
    refine ⟨hsz, .nil _ _, Kept.refl _ _, fun _ _ _ h => h, fun _ _ _ h => .inl h, hk, fun t x hx => ?_, fun l k hk => by simp [look] at hk, fun l l' p p' h => by simp [look] at h, fun _ _ => rfl, trivial⟩
    obtain ⟨d, rfl, _, hd⟩ := hlook ds 0 t x hx
    rw [Nat.sub_zero] at hd
    obtain ⟨v, h1, h2⟩ := outs_get ha t d hd
    have htl := (List.getElem?_eq_some_iff.1 h1).1
    have : (vs.toArray ++ Array.replicate (fn.ntmps - vs.toArray.size) undef).getD t undef = v := by
      rw [Array.getD_eq_getD_getElem?, Array.getElem?_append_left (by simpa using htl)]
      simp [h1]
    show Rep C d _
    rw [this]; exact h2
  refine calls_of_Sm (F := F) rfl rfl hf hb (h F ⟨rfl, rfl, hG⟩ rfl ⟨rfl, fun _ _ _ _ _ _ _ _ _ => trivial⟩) hsim (fun e st' hq => by cases e <;> first | exact .inl rfl | exact .inr rfl | exact hq.elim) ?_
  intro e st' μ' C' _ _ hq _ a w' _ hs
  have fin : (∃ l, retV P pk st' fn.results.toList = some (pk.v l rows.length rest) ∧ look st'.h l = some (dB sz rows)) → ∃ v, (results fn a.tmps).run P w' = .ok v w' ∧ ∃ s us C', Ending.returned v = .returned (pk.val s us) ∧ More w C w' C' ∧ OwnD C' w.heap.size w' s sz rows ∧ pk.ok C' rest us := by
    rintro ⟨l, hv, hl⟩
    obtain ⟨u, h1, h2⟩ := retV_ok hs hv
    rw [show F.free.P = P from rfl] at h1
    have hm : More w C w' C' := ⟨hs.below.below, hs.sub, fun b o u h => (hs.new b o u h).imp id fun h => h.resolve_right (by simp [F, Fr.free]), hs.known⟩
    obtain ⟨p, hp, hB⟩ := hs.heap l _ hl
    have hB' : BlkOk (w.heap.size ≤ ·) (fun _ => none) C' w' p (dB sz rows) := by
      refine ⟨hB.sz, hB.len, hB.max, hB.row, fun hc => ?_⟩
      obtain ⟨b1, b2, cur, T, b3, b4, b5⟩ := hB.cells hc
      refine ⟨b1.resolve_right (by simp [F, Fr.free]), b2, cur, T, b3, b4, fun i r hr j x hj => ?_⟩
      obtain ⟨u, g1, g2, g3⟩ := b5 i r hr j x hj
      refine ⟨u, g1, g2, ?_⟩
      have hr' : ∃ r0 : List D, r = r0.map V.d := by
        have := List.mem_of_getElem? hr
        obtain ⟨r0, _, e⟩ := List.mem_map.1 this
        exact ⟨r0, e.symm⟩
      obtain ⟨r0, rfl⟩ := hr'
      rw [List.getElem?_map] at hj
      cases hd : r0[j]? with
      | none => rw [hd] at hj; cases hj
      | some d => rw [hd] at hj; cases hj; exact g3
    cases pk with
    | one =>
      obtain ⟨q, ao, q1, rfl, q3, q4⟩ := h2
      rw [hp] at q1; cases q1
      exact ⟨_, h1, _, [], C', rfl, hm, ⟨p, ao, by simp, by simpa using q4, hB'⟩, trivial⟩
    | tup =>
      obtain ⟨q, ao, us, q1, q2, q3, q4⟩ := h2
      rw [hp] at q1; cases q1
      rw [if_pos rfl] at q4
      obtain ⟨q4, rfl⟩ := q4
      exact ⟨_, h1, _, us, C', rfl, hm, ⟨p, ao, rfl, q3, hB'⟩, q4⟩
    | agg =>
      obtain ⟨q, ao, us, q1, q2, q3, q4⟩ := h2
      rw [hp] at q1; cases q1
      rw [if_neg (by simp)] at q4
      obtain ⟨q4, rfl⟩ := q4
      exact ⟨_, h1, _, us, C', rfl, hm, ⟨p, ao, rfl, q3, hB'⟩, q4⟩
  cases e <;> first | exact fin hq | exact hq.elim
end
theorem Sm.join {F : Fr} {c y : Code} {Q Q' : Exit → St → Prop} {st : St} {ι : Type} (I : ι → St) (h1 : ∀ i, Sm F y Q (I i)) (h2 : Sm F c (nextS (fun st' => ∃ i, st'.le (I i)) Q') st) : Sm F c (nextS (Sm F y Q) Q') st := by
  refine h2.mono fun e st' h => ?_
  cases e <;> first | exact h | (obtain ⟨i, hle⟩ := h; exact (h1 i).less hle)
theorem CallsD.args {P : Program} {G : Nat → Option D} {f : FuncId} {ds ds' : List D} {r : D} (h : CallsD P G f ds' r) (hd : ∀ C vs, Rp C (.outs ds vs) → Rp C (.outs ds' vs)) : CallsD P G f ds r := fun C w vs hG hk ha => h C w vs hG hk (hd C vs ha)
theorem outs_le {C : Facts} {d d' : D} {ds ds' : List D} (h : d.le d') (k : ∀ vs, Rp C (.outs ds vs) → Rp C (.outs ds' vs)) : ∀ vs, Rp C (.outs (d :: ds) vs) → Rp C (.outs (d' :: ds') vs) := by
  intro vs hv
  cases hv with | ocons _ v _ vs h1 h2 => exact .ocons _ _ _ _ (h C v h1) (k vs h2)
theorem outs_same {C : Facts} (ds : List D) : ∀ vs, Rp C (.outs ds vs) → Rp C (.outs ds vs) := fun _ h => h
theorem convS_int {P : Program} {s d : TypeId} {td : TypeDesc} {k k2 : IntKind} {n : Int} (h1 : P.underlying s = some td) (h2 : P.underlying d = some (.int k)) (hw : k.wrap n = n) : convS P s d (.d (.v (.int k2 n))) = some (.d (.v (.int k n))) := by
  simp only [convS, rc_int P k n s d h1 h2 k2, hw, Option.map_some]
def V.lt (n : Nat) : V → Bool
  | .d _ => true
  | .ref l .. => decide (l < n)
  | .sref l .. => decide (l < n)
  | .aref l .. => decide (l < n)
  | .mix _ l .. => decide (l < n)
  | .gh _ => decide (0 < n)
  | .any => true
def cutE (n : Nat) : List (Nat × V) → List (Nat × V)
  | [] => []
  | (t, x) :: r => (t, if x.lt n then x else .any) :: cutE n r
theorem look_cutE (n : Nat) : ∀ (env : List (Nat × V)) (t : Nat), look (cutE n env) t = (look env t).map fun x => if x.lt n then x else .any
  | [], _ => rfl
  | (k, x) :: r, t => by
    simp only [cutE, look]
    split
    · rfl
    · exact look_cutE n r t
def cutH (n : Nat) : List (Nat × Blk) → List (Nat × Blk)
  | [] => []
  | (l, k) :: r => if l < n then (l, k) :: cutH n r else cutH n r
theorem look_cutH (n : Nat) : ∀ (h : List (Nat × Blk)) (l : Nat), look (cutH n h) l = if l < n then look h l else none
  | [], l => by simp [cutH, look]
  | (k, x) :: r, l => by
    simp only [cutH]
    split
    · rename_i hk
      simp only [look]
      split
      · rename_i e; subst e; rw [if_pos hk]
      · exact look_cutH n r l
    · rename_i hk
      rw [look_cutH n r l]
      simp only [look]
      split
      · rename_i hl; have hne : k ≠ l := by omega
        rw [if_neg hne]
      · rfl
def ltH (n : Nat) (h : List (Nat × Blk)) : Prop := ∀ l k, l < n → look h l = some k → ∀ r ∈ k.rows, ∀ x ∈ r, V.lt n x = true
theorem ltH_nil (n : Nat) : ltH n [] := fun l k _ h => by simp [look] at h
theorem ltH_cons {n m : Nat} {k : Blk} {h : List (Nat × Blk)} (f : ltH n h) (hr : ∀ r ∈ k.rows, ∀ x ∈ r, V.lt n x = true) : ltH n ((m, k) :: h) := fun l k' hl hk => by
  simp only [look] at hk
  split at hk
  · cases hk; exact hr
  · exact f l k' hl hk
theorem ltH_over {n m : Nat} {k : Blk} {h : List (Nat × Blk)} (f : ltH n h) (hm : n ≤ m) : ltH n ((m, k) :: h) := fun l k' hl hk => by
  simp only [look] at hk
  split at hk
  · omega
  · exact f l k' hl hk
theorem lt_dB (n sz : Nat) (rows : List (List D)) : ∀ r ∈ (dB sz rows).rows, ∀ x ∈ r, V.lt n x = true := by
  intro r hr x hx
  obtain ⟨r', _, rfl⟩ := List.mem_map.1 hr
  obtain ⟨d, _, rfl⟩ := List.mem_map.1 hx
  rfl
theorem V.lt_rep {n : Nat} {x : V} (h : x.lt n = true) {μ μ' : Nat → Option Place} (hμ : ∀ l, l < n → μ' l = μ l) {C : Facts} {v : Value} (hr : RepV μ C x v) : RepV μ' C x v := by
  cases x with
  | d => exact hr
  | ref l i off => obtain ⟨p, h1, h2⟩ := hr; exact ⟨p, by rw [hμ l (by simpa [V.lt] using h)]; exact h1, h2⟩
  | sref l lo len => obtain ⟨p, ao, h1, h2⟩ := hr; exact ⟨p, ao, by rw [hμ l (by simpa [V.lt] using h)]; exact h1, h2⟩
  | aref l i off es len cap => obtain ⟨p, ao, h1, h2⟩ := hr; exact ⟨p, ao, by rw [hμ l (by simpa [V.lt] using h)]; exact h1, h2⟩
  | mix tup l k rest => obtain ⟨p, ao, us, h1, h2⟩ := hr; exact ⟨p, ao, us, by rw [hμ l (by simpa [V.lt] using h)]; exact h1, h2⟩
  | any => trivial
  | gh m => obtain ⟨sz, h1⟩ := hr; exact ⟨sz, by rw [hμ 0 (by simpa [V.lt] using h)]; exact h1⟩
theorem St.to_cut {F : Fr} {st : St} (n : Nat) (hh : ltH n st.h) (hn : F.n0 ≤ n) : St.to F st ⟨cutE n st.env, cutH n st.h, n⟩ := by
  intro μ C a w hs
  refine ⟨fun l => if l < n then μ l else none, C, hs.size, hs.defers, hs.below, hs.sub, hs.new, hs.known, fun t x hx => ?_, fun l k hk => ?_, fun l l' p p' h1 h2 g1 g2 => ?_, fun l hl => ?_, F.stab hs.gh ⟨rfl, rfl, rfl, Nat.le_refl _, fun l p hl hp => by rw [if_pos (by omega)]; exact hp, fun l hl => .inl (by simp only [look_cutH] at hl; split at hl <;> first | exact hl | cases hl), fun _ _ _ => rfl, fun b ⟨l, k, p, g1, g2, g3⟩ => ?_, fun _ _ _ h => h, fun _ _ _ h => .inl h, hs.known⟩⟩
  · rw [look_cutE] at hx
    cases hq : look st.env t with
    | none => rw [hq] at hx; cases hx
    | some y =>
      rw [hq] at hx
      simp only [Option.map_some, Option.some.injEq] at hx
      subst hx
      split
      · rename_i hl; exact V.lt_rep hl (fun l hl => by simp [hl]) (hs.env t y hq)
      · trivial
  · rw [look_cutH] at hk
    split at hk
    · rename_i hl
      obtain ⟨p, hp, hb⟩ := hs.heap l k hk
      refine ⟨p, by simp [hl, hp], hb.sz, hb.len, hb.max, hb.row, fun hc => ?_⟩
      obtain ⟨b1, b2, cur, T, b3, b4, b5⟩ := hb.cells hc
      refine ⟨b1, b2, cur, T, b3, b4, fun i r hr j x hx => ?_⟩
      obtain ⟨u, g1, g2, g3⟩ := b5 i r hr j x hx
      exact ⟨u, g1, g2, V.lt_rep (hh l k hl hk r (List.mem_of_getElem? hr) x (List.mem_of_getElem? hx)) (fun l hl => by simp [hl]) g3⟩
    · cases hk
  · rw [look_cutH] at h1 h2
    split at h1
    · rename_i hl
      split at h2
      · rename_i hl'
        simp only [if_pos hl] at g1
        simp only [if_pos hl'] at g2
        exact hs.inj l l' p p' h1 h2 g1 g2
      · cases h2
    · cases h1
  · have hl' : n ≤ l := hl
    simp [show ¬ l < n by omega]
  · rw [look_cutH] at g1
    split at g1
    · rename_i hl
      simp only [if_pos hl] at g2
      exact .inl ⟨l, k, p, g1, g2, g3⟩
    · cases g1
section
variable {P : Program} {G : Nat → Option D} {N : Nat} {F : Fr} {ops rest : List Oper} {Q : Exit → St → Prop} {env : List (Nat × V)} {h : List (Nat × Blk)} {nx : Nat} {c : Code}
theorem Sm.cut (n : Nat) (hh : ltH n h) (k : Sm F c Q ⟨cutE n env, cutH n h, n⟩) (hn : F.n0 ≤ n := by omega) : Sm F c Q ⟨env, h, nx⟩ := Sm.to (St.to_cut (st := ⟨env, h, nx⟩) n hh hn) k
theorem SmG.cut (n : Nat) (hh : ltH n h) (k : SmG F N ops rest Q ⟨cutE n env, cutH n h, n⟩) (hn : F.n0 ≤ n := by omega) : SmG F N ops rest Q ⟨env, h, nx⟩ := by
  intro hsm
  refine SmL.to (St.to_cut (st := ⟨env, h, nx⟩) n hh hn) (k ?_)
  intro s y hy
  simp only [look_cutE] at hy
  cases hq : look env s with
  | none => rw [hq] at hy; cases hy
  | some y' => exact hsm s y' hq
end
theorem take_map' {α β : Type} (f : α → β) (n : Nat) (l : List α) : List.take n (List.map f l) = List.map f (List.take n l) := by rw [List.map_take]
theorem drop_map' {α β : Type} (f : α → β) (n : Nat) (l : List α) : List.drop n (List.map f l) = List.map f (List.drop n l) := by rw [List.map_drop]
section
variable {P : Program} {G : Nat → Option D} {env : List (Nat × V)} {h : List (Nat × Blk)} {o : Oper}
theorem opV_extract0 {x : Operand} {l n : Nat} {rest : List D} (ho : o.op = .extract x 0) (hx : evB G env x = some (.mix true l n rest)) : opV P (evD G env) h o = some (.sref l 0 n) := by
  rw [evB_eq] at hx; simp only [opV, ho, hx, Option.bind_some]
theorem opV_extractS {x : Operand} {l n i : Nat} {rest : List D} {d : D} (ho : o.op = .extract x (i + 1)) (hx : evB G env x = some (.mix true l n rest)) (hi : rest[i]? = some d) : opV P (evD G env) h o = some (.d d) := by
  rw [evB_eq] at hx; simp only [opV, ho, hx, hi, Option.bind_some, Option.map_some]
end
theorem retQ_cell {P : Program} {fn : Func} {p : Tmp} {ty : TypeId} {st : St} {x : V} {v d : D} (hr : fn.results = #[.cell p ty]) (hx : lookB st.env p = some x) (hl : loadS P st.h ty x = some (.d v)) (hle : v.le d) : retQ P fn d .ret st := by
  refine ⟨v, ?_, hle⟩
  rw [lookB_eq] at hx
  simp only [retS, hr, retAll, retOne, hx, hl, Option.bind_some, pureV, Option.map_some]
attribute [go_sem] pureRow_map rep buildM buildD mixRow Pk.v List.getElem?_toArray List.getElem_toArray List.getElem_cons_succ List.getElem_cons_zero placesT
end Go.Proofs.YtagfaaijgfigkaaDoor
namespace Go.Proofs.YtagfaaijgfigkaaDoor
open Go.RowKit
theorem elBB : ElemT Tryd.prog 78 52 (.slice none 0 0) 1 24 := ⟨Tryd.underlying78, by kernel_rfl, rfl, by decide⟩
theorem eqCells_bytes : ∀ (s t : List UInt8), s.length = t.length → eqCells (List.replicate s.length (.int .u8)) (rowS s) (rowS t) = some (decide (s = t)) := by
  intro s
  induction s with
  | nil => intro t h; cases t with
    | nil => rfl
    | cons => simp at h
  | cons a s ih =>
    intro t h
    cases t with
    | nil => simp at h
    | cons b t =>
      simp only [List.length_cons, Nat.add_right_cancel_iff] at h
      have hab : ((a.toNat : Int) == (b.toNat : Int)) = decide (a = b) := by
        rw [Bool.eq_iff_iff, beq_iff_eq, decide_eq_true_eq]
        constructor
        · intro e; exact UInt8.toNat_inj.1 (by omega)
        · intro e; rw [e]
      have ih' := ih t h
      simp only [rowS, List.map_cons, List.length_cons, List.replicate_succ, byteD, eqCells, sameV, if_true, Option.bind_some] at ih' ⊢
      rw [ih', Option.map_some, hab, ← Bool.decide_and]
      congr 1
      simp only [List.cons.injEq]
theorem eq_sum {s t : List UInt8} (h1 : s.length = 32) (h2 : t.length = 32) : eqAgg Tryd.prog 39 (.d (.agg 32 (rowS s))) (.d (.agg 32 (rowS t))) = some (decide (s = t)) := by
  have hg : Tryd.prog.eqGuardType Tryd.prog.depth 39 = false := by kernel_rfl
  have hk : kindsT Tryd.prog 39 = some (List.replicate 32 (.int .u8)) := by kernel_rfl
  have := eqCells_bytes s t (by rw [h1, h2])
  rw [h1] at this
  simp only [eqAgg, hg, if_true, hk, Option.bind_some, this]
theorem sumD_length {s : List UInt8} (h : s.length = 32) : (rowS s).length = 32 := by simp [rowS, h]
theorem nil_bytes : (D.list 0 [] true).le (bytesL []) := D.le_nil' 0 1 true
theorem fit_take {l : List (List UInt8)} (h : Fit l) (m : Nat) : Fit (l.take m) := ⟨by have := h.1; rw [List.length_take]; omega, fun x hx => h.2 x (List.mem_of_mem_take hx)⟩
theorem fit_drop {l : List (List UInt8)} (h : Fit l) (m : Nat) : Fit (l.drop m) := ⟨by have := h.1; rw [List.length_drop]; omega, fun x hx => h.2 x (List.mem_of_mem_drop hx)⟩
set_option maxRecDepth 100000
theorem cut_of (n k : Nat) (h : 2 ^ k < n) (h' : n ≤ 2 * 2 ^ k) : 2 ^ k = Sha.cut n := (Sha.cut_eq (by have := Nat.pow_pos (n := k) (show 0 < 2 by omega); omega) h h').symm
theorem cut_D (n : Nat) (h1 : 2 ≤ n) (h2 : n ≤ 4611686018427387904) (G : Nat → Option D) : CallsD Tryd.prog G 44 [.v (.int .i64 n)] (.v (.int .i64 (Sha.cut n : Nat))) := by
  refine CallsD.of Tryd.func44 rfl Tryd.ntmps44 (by simp) ?_; intro F hF h0 hT; simp only [List.zipIdx_cons, List.zipIdx_nil, List.map_cons, List.map_nil, Nat.zero_add, Nat.reduceAdd]
  refine Sm.seq ?_
  refine Sm.regionG hF rfl ?_
  refine SmG.v hF rfl rfl rfl (opV_assign rfl rfl) ?_
  refine SmG.nil ?_
  refine nextS_normal ?_
  refine Sm.seq ?_
  refine Sm.regionG hF rfl ?_
  refine SmG.v hF rfl rfl rfl (opV_assign rfl rfl) ?_
  refine SmG.nil ?_
  refine nextS_normal ?_
  refine Sm.seq ?_
  refine Sm.block ?_
  refine Sm.loop (ι := {k : Nat // 2 ^ k < n}) (fun k => ⟨[(0, .d (.v (.int .i64 n))), (3, .d (.v (.int .i64 (2 ^ k.1 : Nat))))], [], 0⟩) (fun k => n - 2 ^ k.1) (⟨0, by simp; omega⟩) ?_ ?_
  · exact St.le_of (by simp [leE, look, constD]) (by simp [leH, look, rep]) (by first | exact Nat.le_refl _ | (dsimp only; omega))
  rintro ⟨k, hk⟩
  have hpos : 0 < 2 ^ k := Nat.pow_pos (by omega)
  have hs : 2 ^ (k + 1) = 2 * 2 ^ k := by rw [Nat.pow_succ]; omega
  have hc := cut_of n k hk
  generalize hm : 2 ^ k = m at hs hc hpos ⊢
  simp only [hm] at hk ⊢
  clear hm
  by_cases hlt : 2 * m < n
  · refine Sm.seq ?_
    refine Sm.seq ?_
    refine Sm.regionG hF rfl ?_
    refine SmG.v hF rfl rfl rfl (opV_move rfl rfl) ?_
    refine SmG.v hF rfl rfl rfl (opV_bin rfl rfl rfl (by first | exact rd_mul _ _ _ _ _ (wrapI64 _ (by omega)) | exact rb_mul _ _ _ _ _ _ _)) ?_
    refine SmG.v hF rfl rfl rfl (opV_move rfl rfl) ?_
    refine SmG.v hF rfl rfl rfl (opV_bin rfl rfl rfl (by first | exact rd_lssT _ _ _ _ _ (by omega) | exact rd_lssF _ _ _ _ _ (by omega) | exact rb_lss _ _ _ _ _ _ _)) ?_
    refine SmG.nil ?_
    refine nextS_normal ?_
    refine Sm.condT hF rfl ?_
    refine Sm.skip ?_
    refine nextS_normal ?_
    refine Sm.block ?_
    refine Sm.regionG hF rfl ?_
    refine SmG.v hF rfl rfl rfl (opV_move rfl rfl) ?_
    refine SmG.v hF rfl rfl rfl (opV_bin rfl rfl rfl (by first | exact rd_mul _ _ _ _ _ (wrapI64 _ (by omega)) | exact rb_mul _ _ _ _ _ _ _)) ?_
    refine SmG.v hF rfl rfl rfl (opV_assign rfl rfl) ?_
    refine SmG.nil ?_
    refine blockS_normal ?_
    refine nextS_normal ?_
    refine ⟨⟨k + 1, by omega⟩, by show n - 2 ^ (k + 1) < n - m; omega, ?_⟩
    exact St.le_of (by simp [leE, look, constD, hs]) (by simp [leH, look, rep, hs]) (by first | exact Nat.le_refl _ | (dsimp only; omega))
  · refine Sm.seq ?_
    refine Sm.seq ?_
    refine Sm.regionG hF rfl ?_
    refine SmG.v hF rfl rfl rfl (opV_move rfl rfl) ?_
    refine SmG.v hF rfl rfl rfl (opV_bin rfl rfl rfl (by first | exact rd_mul _ _ _ _ _ (wrapI64 _ (by omega)) | exact rb_mul _ _ _ _ _ _ _)) ?_
    refine SmG.v hF rfl rfl rfl (opV_move rfl rfl) ?_
    refine SmG.v hF rfl rfl rfl (opV_bin rfl rfl rfl (by first | exact rd_lssT _ _ _ _ _ (by omega) | exact rd_lssF _ _ _ _ _ (by omega) | exact rb_lss _ _ _ _ _ _ _)) ?_
    refine SmG.nil ?_
    refine nextS_normal ?_
    refine Sm.condF hF rfl ?_
    refine Sm.exit ?_
    simp only [nextS, blockS, reduceIte, reduceCtorEq]
    refine Sm.seq ?_
    refine Sm.regionG hF rfl ?_
    refine SmG.v hF rfl rfl rfl (opV_move rfl rfl) ?_
    refine SmG.v hF rfl rfl rfl (opV_assign rfl rfl) ?_
    refine SmG.nil ?_
    refine nextS_normal ?_
    refine Sm.ret ?_
    refine ⟨_, rfl, ?_⟩; dsimp only
    rw [← hc (by omega)]
    exact D.le.refl _
end Go.Proofs.YtagfaaijgfigkaaDoor
namespace Go.Proofs.YtagfaaijgfigkaaDoor
open Go.RowKit
set_option maxRecDepth 100000
section
variable (P : Program) (t : TypeId) (x y : Operand)
theorem rw_add (a b : UInt32) : reck P (do eqGuard .add t x y (.int .u32 a.toNat) (.int .u32 b.toNat); binOp .add t (.int .u32 a.toNat) (.int .u32 b.toNat)) = some (.int .u32 ((a + b).toNat : Int)) := by rw [rb_add, wadd]
theorem rw_xor (a b : UInt32) : reck P (do eqGuard .xor t x y (.int .u32 a.toNat) (.int .u32 b.toNat); binOp .xor t (.int .u32 a.toNat) (.int .u32 b.toNat)) = some (.int .u32 ((a ^^^ b).toNat : Int)) := by
  rw [rb_xor]; exact congrArg (fun n => some (Value.int .u32 n)) (xor32 a b)
theorem rw_and (a b : UInt32) : reck P (do eqGuard .and t x y (.int .u32 a.toNat) (.int .u32 b.toNat); binOp .and t (.int .u32 a.toNat) (.int .u32 b.toNat)) = some (.int .u32 ((a &&& b).toNat : Int)) := by
  rw [rb_and]; exact congrArg (fun n => some (Value.int .u32 n)) (and32 a b)
theorem rw_not (a : UInt32) : reck P (Op.unary .xor (.int .u32 a.toNat)) = some (.int .u32 ((~~~a).toNat : Int)) := by
  rw [← not32 a]; rfl
theorem rw_shr (n : Nat) {b : Int} (k2 : IntKind) (hb : b = (n : Int)) (hn : n ≤ 32) (a : UInt32) : reck P (do eqGuard .shr t x y (.int .u32 a.toNat) (.int k2 b); binOp .shr t (.int .u32 a.toNat) (.int k2 b)) = some (.int .u32 ((Sha.shr a n).toNat : Int)) := by
  rw [rb_shr P t x y .u32 a.toNat b k2 (by omega), ← shr32]
  subst hb
  have : min ((n : Int).toNat) IntKind.u32.bits = n := by show min _ 32 = n; omega
  rw [this, Int.fdiv_eq_ediv_of_nonneg _ (Int.le_of_lt (Int.pow_pos (by omega)))]
  norm_cast
theorem rw_shl8 (p : Nat) (k2 : IntKind) (hp : p < 16777216) : reck P (do eqGuard .shl t x y (.int .u32 p) (.int k2 8); binOp .shl t (.int .u32 p) (.int k2 8)) = some (.int .u32 ((p * 256 : Nat) : Int)) := by
  have e : (2 : Int) ^ (min (8 : Int).toNat IntKind.u32.bits) = 256 := by decide
  rw [rb_shl P t x y .u32 p 8 k2 (by omega), e, wrapU32 _ (by omega)]
  simp
theorem rw_or8 (p c : Nat) (hp : p < 16777216) (hc : c < 256) : reck P (do eqGuard .or t x y (.int .u32 ((p * 256 : Nat) : Int)) (.int .u32 c); binOp .or t (.int .u32 ((p * 256 : Nat) : Int)) (.int .u32 c)) = some (.int .u32 ((p * 256 + c : Nat) : Int)) := by
  rw [rb_or]
  have := shift8 p c hp hc
  rw [show (p : Int) * 256 % 4294967296 = ((p * 256 : Nat) : Int) by omega] at this
  exact congrArg (fun n => some (Value.int .u32 n)) this
end
theorem turn_D {n : Int} (m : Nat) (x : UInt32) (hn : n = m) (h1 : m ≤ 31) (G : Nat → Option D) : CallsD Tryd.prog G 67 [.v (.int .i64 n), .v (.int .u32 x.toNat)] (.v (.int .u32 (Sha.rotr x m).toNat)) := by
  intro C w vs hG hk ha
  obtain ⟨v, u, rfl, hv, hu⟩ := outs2 ha
  rw [Rep.v_eq hv, Rep.v_eq hu]
  subst hn
  refine (turn_any m x w h1).mono ?_
  rintro e w' ⟨rfl, k, rfl⟩
  exact ⟨_, C, rfl, .of_below hk (below_drewN (Below.refl _ _) k), .v _⟩
theorem first_D (G : Nat → Option D) : CallsD Tryd.prog G 55 [] (.agg 8 (Sha.begin8.map u32D)) := by
  refine CallsD.of Tryd.func55 rfl Tryd.ntmps55 (by simp) ?_; intro F hF h0 hT; simp only [List.zipIdx_cons, List.zipIdx_nil, List.map_cons, List.map_nil, Nat.zero_add, Nat.reduceAdd]
  refine Sm.seq ?_
  refine Sm.regionG hF rfl ?_
  refine SmG.new hF rfl rfl rfl (opS_alloc rfl al93) ?_
  refine SmG.nil ?_
  refine nextS_normal ?_
  refine Sm.seq ?_
  refine Sm.regionG hF rfl ?_
  refine SmG.v hF rfl rfl rfl (opV_buildA rfl Tryd.underlying93 rfl (show _ = some (.d (.agg 8 (Sha.begin8.map u32D))) from by kernel_rfl)) ?_
  refine SmG.store hF rfl rfl rfl rfl rfl (by simp (disch := omega) only [go_sem, Nat.reduceEqDiff, iteP] <;> rfl) ?_
  refine SmG.nil ?_
  refine nextS_normal ?_
  refine Sm.ret ?_
  refine ⟨.agg 8 (Sha.begin8.map u32D), ?_, D.le.refl _⟩
  kernel_rfl
theorem keys_D (G : Nat → Option D) : CallsD Tryd.prog G 66 [] (.agg 64 (Sha.keys64.map u32D)) := by
  refine CallsD.of Tryd.func66 rfl Tryd.ntmps66 (by simp) ?_; intro F hF h0 hT; simp only [List.zipIdx_cons, List.zipIdx_nil, List.map_cons, List.map_nil, Nat.zero_add, Nat.reduceAdd]
  refine Sm.seq ?_
  refine Sm.regionG hF rfl ?_
  refine SmG.new hF rfl rfl rfl (opS_alloc rfl al103) ?_
  refine SmG.nil ?_
  refine nextS_normal ?_
  refine Sm.seq ?_
  refine Sm.regionG hF rfl ?_
  refine SmG.v hF rfl rfl rfl (opV_buildA rfl Tryd.underlying103 rfl (show _ = some (.d (.agg 64 (Sha.keys64.map u32D))) from by kernel_rfl)) ?_
  refine SmG.store hF rfl rfl rfl rfl rfl (by simp (disch := omega) only [go_sem, Nat.reduceEqDiff, iteP] <;> rfl) ?_
  refine SmG.nil ?_
  refine nextS_normal ?_
  refine Sm.ret ?_
  refine ⟨.agg 64 (Sha.keys64.map u32D), ?_, D.le.refl _⟩
  kernel_rfl
abbrev dW (n : Nat) (l : List UInt32) : Blk := dB n [l.map u32D]
theorem set_word (l : List UInt32) (i z : Nat) (h : z < 4294967296) : (List.map V.d (List.map u32D l)).set i (.d (.v (.int .u32 (z : Int)))) = List.map V.d (List.map u32D (l.set i (UInt32.ofNat z))) := by
  rw [List.map_set, List.map_set]
  have : (UInt32.ofNat z).toNat = z := Nat.mod_eq_of_lt h
  rw [u32D, this]
theorem set_word' (l : List UInt32) (i : Nat) (z : UInt32) : (List.map V.d (List.map u32D l)).set i (.d (.v (.int .u32 (z.toNat : Int)))) = List.map V.d (List.map u32D (l.set i z)) := by
  rw [List.map_set, List.map_set]; rfl
theorem get_word (l : List UInt32) (i : Nat) (h : i < l.length) : l[i]? = some (l.getD i 0) := by simp [List.getD, h]
theorem spread_D (b : List UInt8) (hb : b.length = 64) (G : Nat → Option D) : CallsD Tryd.prog G 65 [bytesL b] (.agg 64 ((Sha.spread b).map u32D)) := by
  refine CallsD.of Tryd.func65 rfl Tryd.ntmps65 (by simp) ?_; intro F hF h0 hT; simp only [List.zipIdx_cons, List.zipIdx_nil, List.map_cons, List.map_nil, Nat.zero_add, Nat.reduceAdd]
  refine Sm.seq ?_
  refine Sm.regionG hF rfl ?_
  refine SmG.new hF rfl rfl rfl (opS_alloc rfl al103) ?_
  refine SmG.nil ?_
  refine nextS_normal ?_
  refine Sm.seq ?_
  refine Sm.regionG hF rfl ?_
  refine SmG.v hF rfl rfl rfl (opV_buildA rfl Tryd.underlying103 rfl bz103) ?_
  refine SmG.new hF rfl rfl rfl (opS_alloc rfl al103) ?_
  refine SmG.store hF rfl rfl rfl rfl rfl (by simp (disch := omega) only [go_sem, Nat.reduceEqDiff, iteP] <;> rfl) ?_
  refine SmG.nil ?_
  refine nextS_normal ?_
  refine Sm.seq ?_
  refine Sm.seq ?_
  refine Sm.regionG hF rfl ?_
  refine SmG.v hF rfl rfl rfl (opV_assign rfl rfl) ?_
  refine SmG.nil ?_
  refine nextS_normal ?_
  refine Sm.block ?_
  refine Sm.loop (ι := {t : Nat // t ≤ 16}) (fun t => ⟨[(0, .d (bytesL b)), (2, .ref 0 0 0), (3, .ref 1 0 0), (4, .d (.v (.int .i64 t.1)))], [(1, dW 64 (Sha.fill b (4 * t.1))), (0, dW 64 (List.replicate 64 0))], 2⟩) (fun t => 16 - t.1) (⟨0, by omega⟩) ?_ ?_
  · refine St.le_of (by simp [leE, look, constD]) ⟨?_, rfl, trivial⟩ (Nat.le_refl _)
    show _ = some (dW 64 (Sha.fill b 0))
    rw [Sha.fill_zero]; rfl
  rintro ⟨t, ht⟩
  simp only
  by_cases hlt : t < 16
  · refine Sm.seq ?_
    refine Sm.seq ?_
    refine Sm.regionG hF rfl ?_
    refine SmG.v hF rfl rfl rfl (opV_move rfl rfl) ?_
    refine SmG.v hF rfl rfl rfl (opV_bin rfl rfl rfl (by first | exact rd_lssT _ _ _ _ _ (by omega) | exact rd_lssF _ _ _ _ _ (by omega) | exact rb_lss _ _ _ _ _ _ _)) ?_
    refine SmG.nil ?_
    refine nextS_normal ?_
    refine Sm.condT hF rfl ?_
    refine Sm.skip ?_
    refine nextS_normal ?_
    refine Sm.seq ?_
    refine Sm.block ?_
    refine Sm.seq ?_
    refine Sm.regionG hF rfl ?_
    refine SmG.v hF rfl rfl rfl (opV_assign rfl rfl) ?_
    refine SmG.nil ?_
    refine nextS_normal ?_
    refine Sm.block ?_
    refine Sm.loop (ι := {k : Nat // k ≤ 4}) (fun k => ⟨[(0, .d (bytesL b)), (2, .ref 0 0 0), (3, .ref 1 0 0), (4, .d (.v (.int .i64 t))), (5, .d (.v (.int .i64 k.1)))], [(1, dW 64 (Sha.fill b (4 * t + k.1))), (0, dW 64 (List.replicate 64 0))], 2⟩) (fun k => 4 - k.1) (⟨0, by omega⟩) ?_ ?_
    · exact St.le_of (by simp [leE, look, constD]) (by simp [leH, look, rep]) (by first | exact Nat.le_refl _ | (dsimp only; omega))
    rintro ⟨k, hk⟩
    simp only
    by_cases hlk : k < 4
    · have hpl : Sha.part b t k < 16777216 := Nat.lt_of_lt_of_le (Sha.part_lt b t k) (by
        have : (256 : Nat) ^ k ≤ 256 ^ 3 := Nat.pow_le_pow_right (by omega) (by omega)
        simpa using this)
      have hget : (Sha.fill b (4 * t + k))[t]? = some (UInt32.ofNat (Sha.part b t k)) := by
        rw [get_word _ _ (by rw [Sha.fill_length]; omega), Sha.fill_get b _ t (by omega)]
        congr 3; omega
      have hw : (UInt32.ofNat (Sha.part b t k)).toNat = Sha.part b t k := Nat.mod_eq_of_lt (by omega)
      have hb1 : b[4 * t + k]? = some (b.getD (4 * t + k) 0) := by simp [List.getD, show 4 * t + k < b.length by omega]
      have hlb : (b.getD (4 * t + k) 0).toNat < 256 := (b.getD (4 * t + k) 0).toNat_lt
      have hset := Sha.fill_succ b (4 * t + k) (by omega)
      rw [show (4 * t + k) / 4 = t by omega, show (4 * t + k) % 4 = k by omega] at hset
      have hst := set_word (Sha.fill b (4 * t + k)) t (Sha.part b t k * 256 + (b.getD (4 * t + k) 0).toNat) (by omega)
      rw [← hset] at hst
      generalize b.getD (4 * t + k) 0 = c at hb1 hlb hst
      generalize Sha.part b t k = p at hpl hget hw hst
      have hcast : (4 * (t : Int) + (k : Int)).toNat = 4 * t + k := by omega
      have e1 : 4 * t + (k + 1) = 4 * t + k + 1 := by omega
      refine Sm.seq ?_
      refine Sm.seq ?_
      refine Sm.regionG hF rfl ?_
      refine SmG.v hF rfl rfl rfl (opV_move rfl rfl) ?_
      refine SmG.v hF rfl rfl rfl (opV_bin rfl rfl rfl (by first | exact rd_lssT _ _ _ _ _ (by omega) | exact rd_lssF _ _ _ _ _ (by omega) | exact rb_lss _ _ _ _ _ _ _)) ?_
      refine SmG.nil ?_
      refine nextS_normal ?_
      refine Sm.condT hF rfl ?_
      refine Sm.skip ?_
      refine nextS_normal ?_
      refine Sm.seq ?_
      refine Sm.block ?_
      refine Sm.drawG hF (by kernel_rfl) rfl 15 (by kernel_rfl) (by kernel_rfl) ?_
      simp only [List.take_succ_cons, List.take_zero, List.take_nil]
      refine Head.v hF rfl rfl rfl (opV_move rfl rfl) ?_
      refine Head.v hF rfl rfl rfl (opV_move rfl rfl) ?_
      refine Head.v hF rfl rfl rfl (opV_indexAddr rfl rfl rfl (by simp (disch := omega) only [go_sem, Nat.reduceEqDiff, iteP, bytesL, rowB, byteD, hget, hw, hb1, hcast, u32D] <;> rfl)) ?_
      refine Head.v hF rfl rfl rfl (opV_load rfl rfl (by simp (disch := omega) only [go_sem, Nat.reduceEqDiff, iteP, bytesL, rowB, byteD, hget, hw, hb1, hcast, u32D] <;> rfl)) ?_
      refine Head.v hF rfl rfl rfl (opV_bin rfl rfl rfl (rw_shl8 _ _ _ _ p _ hpl)) ?_
      refine Head.v hF rfl rfl rfl (opV_move rfl rfl) ?_
      refine Head.v hF rfl rfl rfl (opV_move rfl rfl) ?_
      refine Head.v hF rfl rfl rfl (opV_bin rfl rfl rfl (by first | exact rd_mul _ _ _ _ _ (wrapI64 _ (by omega)) | exact rb_mul _ _ _ _ _ _ _)) ?_
      refine Head.v hF rfl rfl rfl (opV_move rfl rfl) ?_
      refine Head.v hF rfl rfl rfl (opV_bin rfl rfl rfl (by first | exact rd_add _ _ _ _ _ (wrapI64 _ (by omega)) | exact rb_add _ _ _ _ _ _ _)) ?_
      refine Head.v hF rfl rfl rfl (opV_indexAddr rfl rfl rfl (by simp (disch := omega) only [go_sem, Nat.reduceEqDiff, iteP, bytesL, rowB, byteD, hget, hw, hb1, hcast, u32D] <;> rfl)) ?_
      refine Head.v hF rfl rfl rfl (opV_load rfl rfl (by simp (disch := omega) only [go_sem, Nat.reduceEqDiff, iteP, bytesL, rowB, byteD, hget, hw, hb1, hcast, u32D] <;> rfl)) ?_
      refine Head.v hF rfl rfl rfl (opV_conv rfl rfl (by first | exact convS_int rfl rfl (wrapU32 _ (by omega)) | (simp (disch := omega) only [go_sem, bytesL, rowB, byteD, hget, hw, hb1, hcast, u32D] <;> rfl))) ?_
      refine Head.v hF rfl rfl rfl (opV_bin rfl rfl rfl (rw_or8 _ _ _ _ p c.toNat hpl hlb)) ?_
      refine Head.v hF rfl rfl rfl (opV_indexAddr rfl rfl rfl (by simp (disch := omega) only [go_sem, Nat.reduceEqDiff, iteP, bytesL, rowB, byteD, hget, hw, hb1, hcast, u32D] <;> rfl)) ?_
      refine Head.last ⟨rfl, ?_⟩
      simp only [List.drop_succ_cons, List.drop_zero, List.drop_nil, List.nil_append, List.cons_append]
      refine SmG.store hF rfl rfl rfl rfl rfl (by simp (disch := omega) only [go_sem, Nat.reduceEqDiff, iteP, bytesL, rowB, byteD, hget, hw, hb1, hcast, u32D] <;> rfl) ?_
      refine SmG.nil ?_
      refine blockS_normal ?_
      refine nextS_normal ?_
      refine Sm.regionG hF rfl ?_
      refine SmG.v hF rfl rfl rfl (opV_move rfl rfl) ?_
      refine SmG.v hF rfl rfl rfl (opV_bin rfl rfl rfl (by first | exact rd_add _ _ _ _ _ (wrapI64 _ (by omega)) | exact rb_add _ _ _ _ _ _ _)) ?_
      refine SmG.v hF rfl rfl rfl (opV_assign rfl rfl) ?_
      refine SmG.nil ?_
      refine nextS_normal ?_
      exact ⟨⟨k + 1, by omega⟩, by show 4 - (k + 1) < 4 - k; omega, by exact St.le_of (by first | (simp [leE, look, constD] <;> omega) | (simp [leE, look, constD, hst, e1] <;> omega)) (by simp only [leH, look, rep, reduceIte, Nat.reduceEqDiff, List.set_cons_zero, List.set_cons_succ, hst, e1, and_self, and_true, and_false, false_and, if_true, if_false] <;> (repeat' first | rfl | constructor)) (by first | exact Nat.le_refl _ | (dsimp only; omega))⟩
    · obtain rfl : k = 4 := by omega
      refine Sm.seq ?_
      refine Sm.seq ?_
      refine Sm.regionG hF rfl ?_
      refine SmG.v hF rfl rfl rfl (opV_move rfl rfl) ?_
      refine SmG.v hF rfl rfl rfl (opV_bin rfl rfl rfl (by first | exact rd_lssT _ _ _ _ _ (by omega) | exact rd_lssF _ _ _ _ _ (by omega) | exact rb_lss _ _ _ _ _ _ _)) ?_
      refine SmG.nil ?_
      refine nextS_normal ?_
      refine Sm.condF hF rfl ?_
      refine Sm.exit ?_
      simp only [nextS, blockS, reduceIte, reduceCtorEq]
      refine Sm.regionG hF rfl ?_
      refine SmG.v hF rfl rfl rfl (opV_move rfl rfl) ?_
      refine SmG.v hF rfl rfl rfl (opV_bin rfl rfl rfl (by first | exact rd_add _ _ _ _ _ (wrapI64 _ (by omega)) | exact rb_add _ _ _ _ _ _ _)) ?_
      refine SmG.v hF rfl rfl rfl (opV_assign rfl rfl) ?_
      refine SmG.nil ?_
      refine nextS_normal ?_
      exact ⟨⟨t + 1, by omega⟩, by show 16 - (t + 1) < 16 - t; omega, by exact St.le_of (by first | (simp [leE, look, constD] <;> omega) | (simp [leE, look, constD, show 4 * t + 4 = 4 * (t + 1) by omega] <;> omega)) (by simp only [leH, look, rep, reduceIte, Nat.reduceEqDiff, List.set_cons_zero, List.set_cons_succ, show 4 * t + 4 = 4 * (t + 1) by omega, and_self, and_true, and_false, false_and, if_true, if_false] <;> (repeat' first | rfl | constructor)) (by first | exact Nat.le_refl _ | (dsimp only; omega))⟩
  · obtain rfl : t = 16 := by omega
    refine Sm.seq ?_
    refine Sm.seq ?_
    refine Sm.regionG hF rfl ?_
    refine SmG.v hF rfl rfl rfl (opV_move rfl rfl) ?_
    refine SmG.v hF rfl rfl rfl (opV_bin rfl rfl rfl (by first | exact rd_lssT _ _ _ _ _ (by omega) | exact rd_lssF _ _ _ _ _ (by omega) | exact rb_lss _ _ _ _ _ _ _)) ?_
    refine SmG.nil ?_
    refine nextS_normal ?_
    refine Sm.condF hF rfl ?_
    refine Sm.exit ?_
    simp only [nextS, blockS, reduceIte, reduceCtorEq]
    refine Sm.seq ?_
    refine Sm.seq ?_
    refine Sm.regionG hF rfl ?_
    refine SmG.v hF rfl rfl rfl (opV_assign rfl rfl) ?_
    refine SmG.nil ?_
    refine nextS_normal ?_
    refine Sm.block ?_
    refine Sm.loop (ι := {t : Nat // 16 ≤ t ∧ t ≤ 64}) (fun t => ⟨[(0, .d (bytesL b)), (2, .ref 0 0 0), (3, .ref 1 0 0), (6, .d (.v (.int .i64 t.1)))], [(1, dW 64 (Sha.grown b t.1)), (0, dW 64 (List.replicate 64 0))], 2⟩) (fun t => 64 - t.1) (⟨16, by omega, by omega⟩) ?_ ?_
    · refine St.le_of (by simp [leE, look, constD]) ⟨?_, rfl, trivial⟩ (Nat.le_refl _)
      show _ = some (dW 64 (Sha.grown b 16))
      rw [← Sha.grown_first]; rfl
    rintro ⟨t, ht, ht2⟩
    simp only
    by_cases hlt : t < 64
    · have hln := Sha.grown_length b t ht ht2
      have h1 := get_word (Sha.grown b t) (t - 16) (by omega)
      have h2 := get_word (Sha.grown b t) (t - 7) (by omega)
      have h3 := get_word (Sha.grown b t) (t - 15) (by omega)
      have h4 := get_word (Sha.grown b t) (t - 2) (by omega)
      have hset := Sha.grown_succ b t ht hlt
      have hst := set_word' (Sha.grown b t) t ((Sha.grown b t).getD (t - 16) 0 + (Sha.grown b t).getD (t - 7) 0 + Sha.low ((Sha.grown b t).getD (t - 15) 0) + Sha.high ((Sha.grown b t).getD (t - 2) 0))
      rw [← hset] at hst
      generalize (Sha.grown b t).getD (t - 16) 0 = x1 at h1 hst
      generalize (Sha.grown b t).getD (t - 7) 0 = x2 at h2 hst
      generalize (Sha.grown b t).getD (t - 15) 0 = y at h3 hst
      generalize (Sha.grown b t).getD (t - 2) 0 = z at h4 hst
      simp only [Sha.low, Sha.high] at hst
      have c1 : ((t : Int) - 16).toNat = t - 16 := by omega
      have c2 : ((t : Int) - 7).toNat = t - 7 := by omega
      have c3 : ((t : Int) - 15).toNat = t - 15 := by omega
      have c4 : ((t : Int) - 2).toNat = t - 2 := by omega
      refine Sm.seq ?_
      refine Sm.seq ?_
      refine Sm.regionG hF rfl ?_
      refine SmG.v hF rfl rfl rfl (opV_move rfl rfl) ?_
      refine SmG.v hF rfl rfl rfl (opV_bin rfl rfl rfl (by first | exact rd_lssT _ _ _ _ _ (by omega) | exact rd_lssF _ _ _ _ _ (by omega) | exact rb_lss _ _ _ _ _ _ _)) ?_
      refine SmG.nil ?_
      refine nextS_normal ?_
      refine Sm.condT hF rfl ?_
      refine Sm.skip ?_
      refine nextS_normal ?_
      refine Sm.seq ?_
      refine Sm.block ?_
      refine Sm.seq ?_
      refine Sm.regionG hF rfl ?_
      refine SmG.v hF rfl rfl rfl (opV_move rfl rfl) ?_
      refine SmG.v hF rfl rfl rfl (opV_bin rfl rfl rfl (by first | exact rd_sub _ _ _ _ _ (wrapI64 _ (by omega)) | exact rb_sub _ _ _ _ _ _ _)) ?_
      refine SmG.v hF rfl rfl rfl (opV_indexAddr rfl rfl rfl (by simp (disch := omega) only [go_sem, Nat.reduceEqDiff, iteP, u32D, h1, h2, h3, h4, c1, c2, c3, c4] <;> rfl)) ?_
      refine SmG.v hF rfl rfl rfl (opV_load rfl rfl (by simp (disch := omega) only [go_sem, Nat.reduceEqDiff, iteP, u32D, h1, h2, h3, h4, c1, c2, c3, c4] <;> rfl)) ?_
      refine SmG.v hF rfl rfl rfl (opV_assign rfl rfl) ?_
      refine SmG.nil ?_
      refine nextS_normal ?_
      refine Sm.seq ?_
      refine Sm.regionG hF rfl ?_
      refine SmG.v hF rfl rfl rfl (opV_move rfl rfl) ?_
      refine SmG.v hF rfl rfl rfl (opV_bin rfl rfl rfl (by first | exact rd_sub _ _ _ _ _ (wrapI64 _ (by omega)) | exact rb_sub _ _ _ _ _ _ _)) ?_
      refine SmG.v hF rfl rfl rfl (opV_indexAddr rfl rfl rfl (by simp (disch := omega) only [go_sem, Nat.reduceEqDiff, iteP, u32D, h1, h2, h3, h4, c1, c2, c3, c4] <;> rfl)) ?_
      refine SmG.v hF rfl rfl rfl (opV_load rfl rfl (by simp (disch := omega) only [go_sem, Nat.reduceEqDiff, iteP, u32D, h1, h2, h3, h4, c1, c2, c3, c4] <;> rfl)) ?_
      refine SmG.v hF rfl rfl rfl (opV_assign rfl rfl) ?_
      refine SmG.nil ?_
      refine nextS_normal ?_
      refine Sm.drawG hF (by kernel_rfl) rfl 29 (by kernel_rfl) (by kernel_rfl) ?_
      simp only [List.take_succ_cons, List.take_zero, List.take_nil]
      refine Head.v hF rfl rfl rfl (opV_move rfl rfl) ?_
      refine Head.v hF rfl rfl rfl (opV_move rfl rfl) ?_
      refine Head.v hF rfl rfl rfl (opV_bin rfl rfl rfl (by first | exact rd_sub _ _ _ _ _ (wrapI64 _ (by omega)) | exact rb_sub _ _ _ _ _ _ _)) ?_
      refine Head.v hF rfl rfl rfl (opV_indexAddr rfl rfl rfl (by simp (disch := omega) only [go_sem, Nat.reduceEqDiff, iteP, u32D, h1, h2, h3, h4, c1, c2, c3, c4] <;> rfl)) ?_
      refine Head.v hF rfl rfl rfl (opV_load rfl rfl (by simp (disch := omega) only [go_sem, Nat.reduceEqDiff, iteP, u32D, h1, h2, h3, h4, c1, c2, c3, c4] <;> rfl)) ?_
      refine Head.v hF rfl rfl rfl (opV_move rfl rfl) ?_
      refine Head.v hF rfl rfl rfl (opV_bin rfl rfl rfl (by first | exact rd_sub _ _ _ _ _ (wrapI64 _ (by omega)) | exact rb_sub _ _ _ _ _ _ _)) ?_
      refine Head.v hF rfl rfl rfl (opV_indexAddr rfl rfl rfl (by simp (disch := omega) only [go_sem, Nat.reduceEqDiff, iteP, u32D, h1, h2, h3, h4, c1, c2, c3, c4] <;> rfl)) ?_
      refine Head.v hF rfl rfl rfl (opV_load rfl rfl (by simp (disch := omega) only [go_sem, Nat.reduceEqDiff, iteP, u32D, h1, h2, h3, h4, c1, c2, c3, c4] <;> rfl)) ?_
      refine Head.v hF rfl rfl rfl (opV_bin rfl rfl rfl (by first | exact rw_add _ _ _ _ _ _ | exact rb_add _ _ _ _ _ _ _)) ?_
      refine Head.v hF rfl rfl rfl (opV_move rfl rfl) ?_
      refine Head.c hF rfl rfl (by kernel_rfl) rfl rfl rfl (turn_D 7 y rfl (by omega) G) ?_
      refine Head.v hF rfl rfl rfl (opV_move rfl rfl) ?_
      refine Head.c hF rfl rfl (by kernel_rfl) rfl rfl rfl (turn_D 18 y rfl (by omega) G) ?_
      refine Head.v hF rfl rfl rfl (opV_bin rfl rfl rfl (by first | exact rw_xor _ _ _ _ _ _ | exact rb_xor _ _ _ _ _ _ _)) ?_
      refine Head.v hF rfl rfl rfl (opV_move rfl rfl) ?_
      refine Head.v hF rfl rfl rfl (opV_bin rfl rfl rfl (rw_shr _ _ _ _ 3 _ rfl (by omega) y)) ?_
      refine Head.v hF rfl rfl rfl (opV_bin rfl rfl rfl (by first | exact rw_xor _ _ _ _ _ _ | exact rb_xor _ _ _ _ _ _ _)) ?_
      refine Head.v hF rfl rfl rfl (opV_bin rfl rfl rfl (by first | exact rw_add _ _ _ _ _ _ | exact rb_add _ _ _ _ _ _ _)) ?_
      refine Head.v hF rfl rfl rfl (opV_move rfl rfl) ?_
      refine Head.c hF rfl rfl (by kernel_rfl) rfl rfl rfl (turn_D 17 z rfl (by omega) G) ?_
      refine Head.v hF rfl rfl rfl (opV_move rfl rfl) ?_
      refine Head.c hF rfl rfl (by kernel_rfl) rfl rfl rfl (turn_D 19 z rfl (by omega) G) ?_
      refine Head.v hF rfl rfl rfl (opV_bin rfl rfl rfl (by first | exact rw_xor _ _ _ _ _ _ | exact rb_xor _ _ _ _ _ _ _)) ?_
      refine Head.v hF rfl rfl rfl (opV_move rfl rfl) ?_
      refine Head.v hF rfl rfl rfl (opV_bin rfl rfl rfl (rw_shr _ _ _ _ 10 _ rfl (by omega) z)) ?_
      refine Head.v hF rfl rfl rfl (opV_bin rfl rfl rfl (by first | exact rw_xor _ _ _ _ _ _ | exact rb_xor _ _ _ _ _ _ _)) ?_
      refine Head.v hF rfl rfl rfl (opV_bin rfl rfl rfl (by first | exact rw_add _ _ _ _ _ _ | exact rb_add _ _ _ _ _ _ _)) ?_
      refine Head.v hF rfl rfl rfl (opV_indexAddr rfl rfl rfl (by simp (disch := omega) only [go_sem, Nat.reduceEqDiff, iteP, u32D, h1, h2, h3, h4, c1, c2, c3, c4] <;> rfl)) ?_
      refine Head.last ⟨rfl, ?_⟩
      simp only [List.drop_succ_cons, List.drop_zero, List.drop_nil, List.nil_append, List.cons_append]
      refine SmG.store hF rfl rfl rfl rfl rfl (by simp (disch := omega) only [go_sem, Nat.reduceEqDiff, iteP, u32D, h1, h2, h3, h4, c1, c2, c3, c4] <;> rfl) ?_
      refine SmG.nil ?_
      refine blockS_normal ?_
      refine nextS_normal ?_
      refine Sm.regionG hF rfl ?_
      refine SmG.v hF rfl rfl rfl (opV_move rfl rfl) ?_
      refine SmG.v hF rfl rfl rfl (opV_bin rfl rfl rfl (by first | exact rd_add _ _ _ _ _ (wrapI64 _ (by omega)) | exact rb_add _ _ _ _ _ _ _)) ?_
      refine SmG.v hF rfl rfl rfl (opV_assign rfl rfl) ?_
      refine SmG.nil ?_
      refine nextS_normal ?_
      exact ⟨⟨t + 1, by omega, by omega⟩, by show 64 - (t + 1) < 64 - t; omega, by exact St.le_of (by first | (simp [leE, look, constD] <;> omega) | (simp [leE, look, constD, hst] <;> omega)) (by simp only [leH, look, rep, reduceIte, Nat.reduceEqDiff, List.set_cons_zero, List.set_cons_succ, hst, and_self, and_true, and_false, false_and, if_true, if_false] <;> (repeat' first | rfl | constructor)) (by first | exact Nat.le_refl _ | (dsimp only; omega))⟩
    · obtain rfl : t = 64 := by omega
      have hln := Sha.grown_length b 64 ht ht2
      have hll : (List.map u32D (Sha.grown b 64)).length = 64 := by rw [List.length_map, hln]
      refine Sm.seq ?_
      refine Sm.seq ?_
      refine Sm.regionG hF rfl ?_
      refine SmG.v hF rfl rfl rfl (opV_move rfl rfl) ?_
      refine SmG.v hF rfl rfl rfl (opV_bin rfl rfl rfl (by first | exact rd_lssT _ _ _ _ _ (by omega) | exact rd_lssF _ _ _ _ _ (by omega) | exact rb_lss _ _ _ _ _ _ _)) ?_
      refine SmG.nil ?_
      refine nextS_normal ?_
      refine Sm.condF hF rfl ?_
      refine Sm.exit ?_
      simp only [nextS, blockS, reduceIte, reduceCtorEq]
      refine Sm.seq ?_
      refine Sm.regionG hF rfl ?_
      refine SmG.v hF rfl rfl rfl (opV_load rfl rfl (by simp (disch := omega) only [go_sem, Nat.reduceEqDiff, iteP, u32D] <;> rfl)) ?_
      refine SmG.store hF rfl rfl rfl rfl rfl (by simp (disch := omega) only [go_sem, Nat.reduceEqDiff, iteP, u32D] <;> rfl) ?_
      refine SmG.nil ?_
      refine nextS_normal ?_
      refine Sm.ret ?_
      refine retQ_cell rfl rfl (by simp (disch := omega) only [go_sem, Nat.reduceEqDiff, iteP, hll] <;> rfl) ?_
      rw [Sha.grown_last]; exact D.le.refl _
end Go.Proofs.YtagfaaijgfigkaaDoor
namespace Go.Proofs.YtagfaaijgfigkaaDoor
open Go.RowKit
set_option maxRecDepth 100000
def addTo (c s : List UInt32) (i : Nat) : List UInt32 := (List.zipWith (· + ·) c s).take i ++ c.drop i
theorem addTo_zero (c s : List UInt32) : addTo c s 0 = c := by simp [addTo]
theorem addTo_get (c s : List UInt32) (i : Nat) (hl : c.length = s.length) (hi : i < c.length) : (addTo c s i)[i]? = some (c.getD i 0) := by
  unfold addTo
  have : ((List.zipWith (· + ·) c s).take i).length = i := by simp [hl]; omega
  rw [List.getElem?_append_right (by omega), this, Nat.sub_self, List.getElem?_drop]
  simp [List.getD, hi]
theorem addTo_set (c s : List UInt32) (i : Nat) (hl : c.length = s.length) (hi : i < c.length) : (addTo c s i).set i (c.getD i 0 + s.getD i 0) = addTo c s (i + 1) := by
  unfold addTo
  have h1 : ((List.zipWith (· + ·) c s).take i).length = i := by simp [hl]; omega
  rw [List.set_append_right _ _ (by omega), h1, Nat.sub_self, List.drop_eq_getElem_cons hi, List.set_cons_zero, List.take_succ_eq_append_getElem (by simp; omega)]
  simp [List.getD, hi, show i < s.length by omega]
theorem addTo_all (c s : List UInt32) (hl : c.length = s.length) : addTo c s c.length = List.zipWith (· + ·) c s := by
  unfold addTo
  rw [List.take_of_length_le (by simp; omega), List.drop_length, List.append_nil]
theorem rounds_succ (w : List UInt32) (s : Sha.S8) (n : Nat) : Sha.rounds w s (n + 1) = Sha.round (Sha.rounds w s n) (Sha.keys64.getD n 0) (w.getD n 0) := rfl
theorem build_eight (a0 a1 a2 a3 a4 a5 a6 a7 : Int) : buildS Tryd.prog 93 [(0, V.d (.v (.int .u32 a0))), (1, V.d (.v (.int .u32 a1))), (2, V.d (.v (.int .u32 a2))), (3, V.d (.v (.int .u32 a3))), (4, V.d (.v (.int .u32 a4))), (5, V.d (.v (.int .u32 a5))), (6, V.d (.v (.int .u32 a6))), (7, V.d (.v (.int .u32 a7)))] = some (.d (.agg 8 [.v (.int .u32 a0), .v (.int .u32 a1), .v (.int .u32 a2), .v (.int .u32 a3), .v (.int .u32 a4), .v (.int .u32 a5), .v (.int .u32 a6), .v (.int .u32 a7)])) := by kernel_rfl
set_option maxHeartbeats 4000000 in
theorem step_D (S : Sha.S8) (b : List UInt8) (hb : b.length = 64) (G : Nat → Option D) : CallsD Tryd.prog G 56 [.agg 8 (S.list.map u32D), bytesL b] (.agg 8 ((Sha.after S b).list.map u32D)) := by
  have hkeys := keys_D G
  have hks := rounds_succ (Sha.spread b) S
  have hkl : Sha.keys64.length = 64 := by decide
  have haf : Sha.after S b = Sha.plus S (Sha.rounds (Sha.spread b) S 64) := rfl
  generalize Sha.keys64 = K at hkeys hks hkl
  have hwl : (Sha.spread b).length = 64 := by rw [← Sha.grown_last, Sha.grown_length b 64 (by omega) (by omega)]
  have hSl : S.list.length = 8 := rfl
  have hKl : (List.map u32D K).length = 64 := by rw [List.length_map, hkl]
  have hWl : (List.map u32D (Sha.spread b)).length = 64 := by rw [List.length_map, hwl]
  have hSS : (List.map u32D S.list).length = 8 := by rw [List.length_map, hSl]
  refine CallsD.of Tryd.func56 rfl Tryd.ntmps56 (by simp) ?_; intro F hF h0 hT; simp only [List.zipIdx_cons, List.zipIdx_nil, List.map_cons, List.map_nil, Nat.zero_add, Nat.reduceAdd]
  refine Sm.seq ?_
  refine Sm.regionG hF rfl ?_
  refine SmG.new hF rfl rfl rfl (opS_box rfl rfl (by simp (disch := omega) only [go_sem, Nat.reduceEqDiff, iteP, u32D] <;> rfl)) ?_
  refine SmG.new hF rfl rfl rfl (opS_alloc rfl al93) ?_
  refine SmG.nil ?_
  refine nextS_normal ?_
  refine Sm.seq ?_
  refine Sm.regionG hF rfl ?_
  refine SmG.v hF rfl rfl rfl (opV_move rfl rfl) ?_
  refine SmG.call hF rfl rfl (by kernel_rfl) rfl rfl rfl (spread_D b hb G) ?_
  refine SmG.new hF rfl rfl rfl (opS_alloc rfl al103) ?_
  refine SmG.store hF rfl rfl rfl rfl rfl (by simp (disch := omega) only [go_sem, Nat.reduceEqDiff, iteP, u32D] <;> rfl) ?_
  refine SmG.nil ?_
  refine nextS_normal ?_
  refine Sm.seq ?_
  refine Sm.regionG hF rfl ?_
  refine SmG.call hF rfl rfl (by kernel_rfl) rfl rfl rfl (hkeys) ?_
  refine SmG.new hF rfl rfl rfl (opS_alloc rfl al103) ?_
  refine SmG.store hF rfl rfl rfl rfl rfl (by simp (disch := omega) only [go_sem, Nat.reduceEqDiff, iteP, u32D] <;> rfl) ?_
  refine SmG.nil ?_
  refine nextS_normal ?_
  refine Sm.seq ?_
  refine Sm.regionG hF rfl ?_
  refine SmG.v hF rfl rfl rfl (opV_load rfl rfl (by simp (disch := omega) only [go_sem, Nat.reduceEqDiff, iteP, u32D] <;> rfl)) ?_
  refine SmG.new hF rfl rfl rfl (opS_alloc rfl al93) ?_
  refine SmG.store hF rfl rfl rfl rfl rfl (by simp (disch := omega) only [go_sem, Nat.reduceEqDiff, iteP, u32D] <;> rfl) ?_
  refine SmG.nil ?_
  refine nextS_normal ?_
  refine Sm.seq ?_
  refine Sm.seq ?_
  refine Sm.regionG hF rfl ?_
  refine SmG.v hF rfl rfl rfl (opV_assign rfl rfl) ?_
  refine SmG.nil ?_
  refine nextS_normal ?_
  refine Sm.block ?_
  generalize hW : Sha.spread b = W at hks haf hwl hWl ⊢
  refine Sm.loop (ι := {t : Nat // t ≤ 64}) (fun t => ⟨[(2, .ref 0 0 0), (4, .ref 1 0 0), (5, .ref 2 0 0), (6, .ref 3 0 0), (7, .ref 4 0 0), (8, .d (.v (.int .i64 t.1)))], [(4, dW 8 (Sha.rounds W S t.1).list), (3, dW 64 K), (2, dW 64 W), (1, dW 8 (List.replicate 8 0)), (0, dW 8 S.list)], 5⟩) (fun t => 64 - t.1) (⟨0, by omega⟩) ?_ ?_
  · exact St.le_of (by first | (simp [leE, look, constD] <;> omega) | (simp [leE, look, constD, true_and] <;> omega)) (by simp only [leH, look, rep, reduceIte, Nat.reduceEqDiff, List.set_cons_zero, List.set_cons_succ, true_and, and_self, and_true, and_false, false_and, if_true, if_false] <;> (repeat' first | rfl | constructor)) (by first | exact Nat.le_refl _ | (dsimp only; omega))
  rintro ⟨t, ht⟩
  simp only
  by_cases hlt : t < 64
  · have hk1 := get_word K t (by omega)
    have hw1 := get_word W t (by omega)
    have hs := hks t
    generalize K.getD t 0 = k at hk1 hs
    generalize W.getD t 0 = x at hw1 hs
    generalize Sha.rounds W S t = c at hs ⊢
    rcases c with ⟨a, b1, c, d, e, f, g, h⟩
    have hrow : (Sha.rounds W S (t + 1)).list = [Sha.tx ⟨a, b1, c, d, e, f, g, h⟩ k x + Sha.ty ⟨a, b1, c, d, e, f, g, h⟩, a, b1, c, d + Sha.tx ⟨a, b1, c, d, e, f, g, h⟩ k x, e, f, g] := by rw [hs]; rfl
    simp only [Sha.tx, Sha.ty, Sha.rot3] at hrow
    rw [show Sha.S8.list ⟨a, b1, c, d, e, f, g, h⟩ = [a, b1, c, d, e, f, g, h] from rfl]
    refine Sm.seq ?_
    refine Sm.seq ?_
    refine Sm.regionG hF rfl ?_
    refine SmG.v hF rfl rfl rfl (opV_move rfl rfl) ?_
    refine SmG.v hF rfl rfl rfl (opV_bin rfl rfl rfl (by first | exact rd_lssT _ _ _ _ _ (by omega) | exact rd_lssF _ _ _ _ _ (by omega) | exact rb_lss _ _ _ _ _ _ _)) ?_
    refine SmG.nil ?_
    refine nextS_normal ?_
    refine Sm.condT hF rfl ?_
    refine Sm.skip ?_
    refine nextS_normal ?_
    refine Sm.seq ?_
    refine Sm.block ?_
    refine Sm.seq ?_
    refine Sm.drawG hF (by kernel_rfl) rfl 36 (by kernel_rfl) (by kernel_rfl) ?_
    simp only [List.take_succ_cons, List.take_zero, List.take_nil]
    refine Head.v hF rfl rfl rfl (opV_indexAddr rfl rfl rfl (by simp (disch := omega) only [go_sem, Nat.reduceEqDiff, iteP, u32D, hk1, hw1, hkl, hwl] <;> rfl)) ?_
    refine Head.v hF rfl rfl rfl (opV_load rfl rfl (by simp (disch := omega) only [go_sem, Nat.reduceEqDiff, iteP, u32D, hk1, hw1, hkl, hwl] <;> rfl)) ?_
    refine Head.v hF rfl rfl rfl (opV_indexAddr rfl rfl rfl (by simp (disch := omega) only [go_sem, Nat.reduceEqDiff, iteP, u32D, hk1, hw1, hkl, hwl] <;> rfl)) ?_
    refine Head.v hF rfl rfl rfl (opV_load rfl rfl (by simp (disch := omega) only [go_sem, Nat.reduceEqDiff, iteP, u32D, hk1, hw1, hkl, hwl] <;> rfl)) ?_
    refine Head.c hF rfl rfl (by kernel_rfl) rfl rfl rfl (turn_D 6 e rfl (by omega) G) ?_
    refine Head.v hF rfl rfl rfl (opV_indexAddr rfl rfl rfl (by simp (disch := omega) only [go_sem, Nat.reduceEqDiff, iteP, u32D, hk1, hw1, hkl, hwl] <;> rfl)) ?_
    refine Head.v hF rfl rfl rfl (opV_load rfl rfl (by simp (disch := omega) only [go_sem, Nat.reduceEqDiff, iteP, u32D, hk1, hw1, hkl, hwl] <;> rfl)) ?_
    refine Head.c hF rfl rfl (by kernel_rfl) rfl rfl rfl (turn_D 11 e rfl (by omega) G) ?_
    refine Head.v hF rfl rfl rfl (opV_bin rfl rfl rfl (by first | exact rw_xor _ _ _ _ _ _ | exact rb_xor _ _ _ _ _ _ _)) ?_
    refine Head.v hF rfl rfl rfl (opV_indexAddr rfl rfl rfl (by simp (disch := omega) only [go_sem, Nat.reduceEqDiff, iteP, u32D, hk1, hw1, hkl, hwl] <;> rfl)) ?_
    refine Head.v hF rfl rfl rfl (opV_load rfl rfl (by simp (disch := omega) only [go_sem, Nat.reduceEqDiff, iteP, u32D, hk1, hw1, hkl, hwl] <;> rfl)) ?_
    refine Head.c hF rfl rfl (by kernel_rfl) rfl rfl rfl (turn_D 25 e rfl (by omega) G) ?_
    refine Head.v hF rfl rfl rfl (opV_bin rfl rfl rfl (by first | exact rw_xor _ _ _ _ _ _ | exact rb_xor _ _ _ _ _ _ _)) ?_
    refine Head.v hF rfl rfl rfl (opV_bin rfl rfl rfl (by first | exact rw_add _ _ _ _ _ _ | exact rb_add _ _ _ _ _ _ _)) ?_
    refine Head.v hF rfl rfl rfl (opV_indexAddr rfl rfl rfl (by simp (disch := omega) only [go_sem, Nat.reduceEqDiff, iteP, u32D, hk1, hw1, hkl, hwl] <;> rfl)) ?_
    refine Head.v hF rfl rfl rfl (opV_load rfl rfl (by simp (disch := omega) only [go_sem, Nat.reduceEqDiff, iteP, u32D, hk1, hw1, hkl, hwl] <;> rfl)) ?_
    refine Head.v hF rfl rfl rfl (opV_indexAddr rfl rfl rfl (by simp (disch := omega) only [go_sem, Nat.reduceEqDiff, iteP, u32D, hk1, hw1, hkl, hwl] <;> rfl)) ?_
    refine Head.v hF rfl rfl rfl (opV_load rfl rfl (by simp (disch := omega) only [go_sem, Nat.reduceEqDiff, iteP, u32D, hk1, hw1, hkl, hwl] <;> rfl)) ?_
    refine Head.v hF rfl rfl rfl (opV_bin rfl rfl rfl (by first | exact rw_and _ _ _ _ _ _ | exact rb_and _ _ _ _ _ _ _)) ?_
    refine Head.v hF rfl rfl rfl (opV_indexAddr rfl rfl rfl (by simp (disch := omega) only [go_sem, Nat.reduceEqDiff, iteP, u32D, hk1, hw1, hkl, hwl] <;> rfl)) ?_
    refine Head.v hF rfl rfl rfl (opV_load rfl rfl (by simp (disch := omega) only [go_sem, Nat.reduceEqDiff, iteP, u32D, hk1, hw1, hkl, hwl] <;> rfl)) ?_
    refine Head.v hF rfl rfl rfl (opV_un rfl rfl (rw_not _ _)) ?_
    refine Head.v hF rfl rfl rfl (opV_indexAddr rfl rfl rfl (by simp (disch := omega) only [go_sem, Nat.reduceEqDiff, iteP, u32D, hk1, hw1, hkl, hwl] <;> rfl)) ?_
    refine Head.v hF rfl rfl rfl (opV_load rfl rfl (by simp (disch := omega) only [go_sem, Nat.reduceEqDiff, iteP, u32D, hk1, hw1, hkl, hwl] <;> rfl)) ?_
    refine Head.v hF rfl rfl rfl (opV_bin rfl rfl rfl (by first | exact rw_and _ _ _ _ _ _ | exact rb_and _ _ _ _ _ _ _)) ?_
    refine Head.v hF rfl rfl rfl (opV_bin rfl rfl rfl (by first | exact rw_xor _ _ _ _ _ _ | exact rb_xor _ _ _ _ _ _ _)) ?_
    refine Head.v hF rfl rfl rfl (opV_bin rfl rfl rfl (by first | exact rw_add _ _ _ _ _ _ | exact rb_add _ _ _ _ _ _ _)) ?_
    refine Head.v hF rfl rfl rfl (opV_move rfl rfl) ?_
    refine Head.v hF rfl rfl rfl (opV_indexAddr rfl rfl rfl (by simp (disch := omega) only [go_sem, Nat.reduceEqDiff, iteP, u32D, hk1, hw1, hkl, hwl] <;> rfl)) ?_
    refine Head.v hF rfl rfl rfl (opV_load rfl rfl (by simp (disch := omega) only [go_sem, Nat.reduceEqDiff, iteP, u32D, hk1, hw1, hkl, hwl] <;> rfl)) ?_
    refine Head.v hF rfl rfl rfl (opV_bin rfl rfl rfl (by first | exact rw_add _ _ _ _ _ _ | exact rb_add _ _ _ _ _ _ _)) ?_
    refine Head.v hF rfl rfl rfl (opV_move rfl rfl) ?_
    refine Head.v hF rfl rfl rfl (opV_indexAddr rfl rfl rfl (by simp (disch := omega) only [go_sem, Nat.reduceEqDiff, iteP, u32D, hk1, hw1, hkl, hwl] <;> rfl)) ?_
    refine Head.v hF rfl rfl rfl (opV_load rfl rfl (by simp (disch := omega) only [go_sem, Nat.reduceEqDiff, iteP, u32D, hk1, hw1, hkl, hwl] <;> rfl)) ?_
    refine Head.v hF rfl rfl rfl (opV_bin rfl rfl rfl (by first | exact rw_add _ _ _ _ _ _ | exact rb_add _ _ _ _ _ _ _)) ?_
    refine Head.v hF rfl rfl rfl (opV_assign rfl rfl) ?_
    refine Head.last ⟨rfl, ?_⟩
    simp only [List.drop_succ_cons, List.drop_zero, List.drop_nil, List.nil_append, List.cons_append]
    refine SmG.nil ?_
    refine nextS_normal ?_
    refine Sm.seq ?_
    refine Sm.drawG hF (by kernel_rfl) rfl 30 (by kernel_rfl) (by kernel_rfl) ?_
    simp only [List.take_succ_cons, List.take_zero, List.take_nil]
    refine Head.v hF rfl rfl rfl (opV_indexAddr rfl rfl rfl (by simp (disch := omega) only [go_sem, Nat.reduceEqDiff, iteP, u32D, hk1, hw1, hkl, hwl] <;> rfl)) ?_
    refine Head.v hF rfl rfl rfl (opV_load rfl rfl (by simp (disch := omega) only [go_sem, Nat.reduceEqDiff, iteP, u32D, hk1, hw1, hkl, hwl] <;> rfl)) ?_
    refine Head.c hF rfl rfl (by kernel_rfl) rfl rfl rfl (turn_D 2 a rfl (by omega) G) ?_
    refine Head.v hF rfl rfl rfl (opV_indexAddr rfl rfl rfl (by simp (disch := omega) only [go_sem, Nat.reduceEqDiff, iteP, u32D, hk1, hw1, hkl, hwl] <;> rfl)) ?_
    refine Head.v hF rfl rfl rfl (opV_load rfl rfl (by simp (disch := omega) only [go_sem, Nat.reduceEqDiff, iteP, u32D, hk1, hw1, hkl, hwl] <;> rfl)) ?_
    refine Head.c hF rfl rfl (by kernel_rfl) rfl rfl rfl (turn_D 13 a rfl (by omega) G) ?_
    refine Head.v hF rfl rfl rfl (opV_bin rfl rfl rfl (by first | exact rw_xor _ _ _ _ _ _ | exact rb_xor _ _ _ _ _ _ _)) ?_
    refine Head.v hF rfl rfl rfl (opV_indexAddr rfl rfl rfl (by simp (disch := omega) only [go_sem, Nat.reduceEqDiff, iteP, u32D, hk1, hw1, hkl, hwl] <;> rfl)) ?_
    refine Head.v hF rfl rfl rfl (opV_load rfl rfl (by simp (disch := omega) only [go_sem, Nat.reduceEqDiff, iteP, u32D, hk1, hw1, hkl, hwl] <;> rfl)) ?_
    refine Head.c hF rfl rfl (by kernel_rfl) rfl rfl rfl (turn_D 22 a rfl (by omega) G) ?_
    refine Head.v hF rfl rfl rfl (opV_bin rfl rfl rfl (by first | exact rw_xor _ _ _ _ _ _ | exact rb_xor _ _ _ _ _ _ _)) ?_
    refine Head.v hF rfl rfl rfl (opV_indexAddr rfl rfl rfl (by simp (disch := omega) only [go_sem, Nat.reduceEqDiff, iteP, u32D, hk1, hw1, hkl, hwl] <;> rfl)) ?_
    refine Head.v hF rfl rfl rfl (opV_load rfl rfl (by simp (disch := omega) only [go_sem, Nat.reduceEqDiff, iteP, u32D, hk1, hw1, hkl, hwl] <;> rfl)) ?_
    refine Head.v hF rfl rfl rfl (opV_indexAddr rfl rfl rfl (by simp (disch := omega) only [go_sem, Nat.reduceEqDiff, iteP, u32D, hk1, hw1, hkl, hwl] <;> rfl)) ?_
    refine Head.v hF rfl rfl rfl (opV_load rfl rfl (by simp (disch := omega) only [go_sem, Nat.reduceEqDiff, iteP, u32D, hk1, hw1, hkl, hwl] <;> rfl)) ?_
    refine Head.v hF rfl rfl rfl (opV_bin rfl rfl rfl (by first | exact rw_and _ _ _ _ _ _ | exact rb_and _ _ _ _ _ _ _)) ?_
    refine Head.v hF rfl rfl rfl (opV_indexAddr rfl rfl rfl (by simp (disch := omega) only [go_sem, Nat.reduceEqDiff, iteP, u32D, hk1, hw1, hkl, hwl] <;> rfl)) ?_
    refine Head.v hF rfl rfl rfl (opV_load rfl rfl (by simp (disch := omega) only [go_sem, Nat.reduceEqDiff, iteP, u32D, hk1, hw1, hkl, hwl] <;> rfl)) ?_
    refine Head.v hF rfl rfl rfl (opV_indexAddr rfl rfl rfl (by simp (disch := omega) only [go_sem, Nat.reduceEqDiff, iteP, u32D, hk1, hw1, hkl, hwl] <;> rfl)) ?_
    refine Head.v hF rfl rfl rfl (opV_load rfl rfl (by simp (disch := omega) only [go_sem, Nat.reduceEqDiff, iteP, u32D, hk1, hw1, hkl, hwl] <;> rfl)) ?_
    refine Head.v hF rfl rfl rfl (opV_bin rfl rfl rfl (by first | exact rw_and _ _ _ _ _ _ | exact rb_and _ _ _ _ _ _ _)) ?_
    refine Head.v hF rfl rfl rfl (opV_bin rfl rfl rfl (by first | exact rw_xor _ _ _ _ _ _ | exact rb_xor _ _ _ _ _ _ _)) ?_
    refine Head.v hF rfl rfl rfl (opV_indexAddr rfl rfl rfl (by simp (disch := omega) only [go_sem, Nat.reduceEqDiff, iteP, u32D, hk1, hw1, hkl, hwl] <;> rfl)) ?_
    refine Head.v hF rfl rfl rfl (opV_load rfl rfl (by simp (disch := omega) only [go_sem, Nat.reduceEqDiff, iteP, u32D, hk1, hw1, hkl, hwl] <;> rfl)) ?_
    refine Head.v hF rfl rfl rfl (opV_indexAddr rfl rfl rfl (by simp (disch := omega) only [go_sem, Nat.reduceEqDiff, iteP, u32D, hk1, hw1, hkl, hwl] <;> rfl)) ?_
    refine Head.v hF rfl rfl rfl (opV_load rfl rfl (by simp (disch := omega) only [go_sem, Nat.reduceEqDiff, iteP, u32D, hk1, hw1, hkl, hwl] <;> rfl)) ?_
    refine Head.v hF rfl rfl rfl (opV_bin rfl rfl rfl (by first | exact rw_and _ _ _ _ _ _ | exact rb_and _ _ _ _ _ _ _)) ?_
    refine Head.v hF rfl rfl rfl (opV_bin rfl rfl rfl (by first | exact rw_xor _ _ _ _ _ _ | exact rb_xor _ _ _ _ _ _ _)) ?_
    refine Head.v hF rfl rfl rfl (opV_bin rfl rfl rfl (by first | exact rw_add _ _ _ _ _ _ | exact rb_add _ _ _ _ _ _ _)) ?_
    refine Head.v hF rfl rfl rfl (opV_assign rfl rfl) ?_
    refine Head.last ⟨rfl, ?_⟩
    simp only [List.drop_succ_cons, List.drop_zero, List.drop_nil, List.nil_append, List.cons_append]
    refine SmG.nil ?_
    refine nextS_normal ?_
    refine Sm.regionG hF rfl ?_
    refine SmG.v hF rfl rfl rfl (opV_move rfl rfl) ?_
    refine SmG.v hF rfl rfl rfl (opV_move rfl rfl) ?_
    refine SmG.v hF rfl rfl rfl (opV_bin rfl rfl rfl (by first | exact rw_add _ _ _ _ _ _ | exact rb_add _ _ _ _ _ _ _)) ?_
    refine SmG.v hF rfl rfl rfl (opV_indexAddr rfl rfl rfl (by simp (disch := omega) only [go_sem, Nat.reduceEqDiff, iteP, u32D, hk1, hw1, hkl, hwl] <;> rfl)) ?_
    refine SmG.v hF rfl rfl rfl (opV_load rfl rfl (by simp (disch := omega) only [go_sem, Nat.reduceEqDiff, iteP, u32D, hk1, hw1, hkl, hwl] <;> rfl)) ?_
    refine SmG.v hF rfl rfl rfl (opV_indexAddr rfl rfl rfl (by simp (disch := omega) only [go_sem, Nat.reduceEqDiff, iteP, u32D, hk1, hw1, hkl, hwl] <;> rfl)) ?_
    refine SmG.v hF rfl rfl rfl (opV_load rfl rfl (by simp (disch := omega) only [go_sem, Nat.reduceEqDiff, iteP, u32D, hk1, hw1, hkl, hwl] <;> rfl)) ?_
    refine SmG.v hF rfl rfl rfl (opV_indexAddr rfl rfl rfl (by simp (disch := omega) only [go_sem, Nat.reduceEqDiff, iteP, u32D, hk1, hw1, hkl, hwl] <;> rfl)) ?_
    refine SmG.v hF rfl rfl rfl (opV_load rfl rfl (by simp (disch := omega) only [go_sem, Nat.reduceEqDiff, iteP, u32D, hk1, hw1, hkl, hwl] <;> rfl)) ?_
    refine SmG.v hF rfl rfl rfl (opV_indexAddr rfl rfl rfl (by simp (disch := omega) only [go_sem, Nat.reduceEqDiff, iteP, u32D, hk1, hw1, hkl, hwl] <;> rfl)) ?_
    refine SmG.v hF rfl rfl rfl (opV_load rfl rfl (by simp (disch := omega) only [go_sem, Nat.reduceEqDiff, iteP, u32D, hk1, hw1, hkl, hwl] <;> rfl)) ?_
    refine SmG.v hF rfl rfl rfl (opV_move rfl rfl) ?_
    refine SmG.v hF rfl rfl rfl (opV_bin rfl rfl rfl (by first | exact rw_add _ _ _ _ _ _ | exact rb_add _ _ _ _ _ _ _)) ?_
    refine SmG.v hF rfl rfl rfl (opV_indexAddr rfl rfl rfl (by simp (disch := omega) only [go_sem, Nat.reduceEqDiff, iteP, u32D, hk1, hw1, hkl, hwl] <;> rfl)) ?_
    refine SmG.v hF rfl rfl rfl (opV_load rfl rfl (by simp (disch := omega) only [go_sem, Nat.reduceEqDiff, iteP, u32D, hk1, hw1, hkl, hwl] <;> rfl)) ?_
    refine SmG.v hF rfl rfl rfl (opV_indexAddr rfl rfl rfl (by simp (disch := omega) only [go_sem, Nat.reduceEqDiff, iteP, u32D, hk1, hw1, hkl, hwl] <;> rfl)) ?_
    refine SmG.v hF rfl rfl rfl (opV_load rfl rfl (by simp (disch := omega) only [go_sem, Nat.reduceEqDiff, iteP, u32D, hk1, hw1, hkl, hwl] <;> rfl)) ?_
    refine SmG.v hF rfl rfl rfl (opV_indexAddr rfl rfl rfl (by simp (disch := omega) only [go_sem, Nat.reduceEqDiff, iteP, u32D, hk1, hw1, hkl, hwl] <;> rfl)) ?_
    refine SmG.v hF rfl rfl rfl (opV_load rfl rfl (by simp (disch := omega) only [go_sem, Nat.reduceEqDiff, iteP, u32D, hk1, hw1, hkl, hwl] <;> rfl)) ?_
    refine SmG.v hF rfl rfl rfl (opV_buildA rfl Tryd.underlying93 rfl (build_eight _ _ _ _ _ _ _ _)) ?_
    refine SmG.store hF rfl rfl rfl rfl rfl (by simp (disch := omega) only [go_sem, Nat.reduceEqDiff, iteP, u32D, hk1, hw1, hkl, hwl] <;> rfl) ?_
    refine SmG.nil ?_
    refine blockS_normal ?_
    refine nextS_normal ?_
    refine Sm.regionG hF rfl ?_
    refine SmG.v hF rfl rfl rfl (opV_move rfl rfl) ?_
    refine SmG.v hF rfl rfl rfl (opV_bin rfl rfl rfl (by first | exact rd_add _ _ _ _ _ (wrapI64 _ (by omega)) | exact rb_add _ _ _ _ _ _ _)) ?_
    refine SmG.v hF rfl rfl rfl (opV_assign rfl rfl) ?_
    refine SmG.nil ?_
    refine nextS_normal ?_
    exact ⟨⟨t + 1, by omega⟩, by show 64 - (t + 1) < 64 - t; omega, by exact St.le_of (by first | (simp [leE, look, constD] <;> omega) | (simp [leE, look, constD, hrow, List.map_cons, List.map_nil] <;> omega)) (by simp only [leH, look, rep, reduceIte, Nat.reduceEqDiff, List.set_cons_zero, List.set_cons_succ, hrow, List.map_cons, List.map_nil, and_self, and_true, and_false, false_and, if_true, if_false] <;> (repeat' first | rfl | constructor)) (by first | exact Nat.le_refl _ | (dsimp only; omega))⟩
  · obtain rfl : t = 64 := by omega
    have hcl : (Sha.rounds W S 64).list.length = 8 := rfl
    have hpl : (Sha.after S b).list = List.zipWith (· + ·) (Sha.rounds W S 64).list S.list := by rw [haf]; rfl
    generalize (Sha.rounds W S 64).list = C at hcl hpl ⊢
    generalize S.list = L at hSl hpl hSS ⊢
    refine Sm.seq ?_
    refine Sm.seq ?_
    refine Sm.regionG hF rfl ?_
    refine SmG.v hF rfl rfl rfl (opV_move rfl rfl) ?_
    refine SmG.v hF rfl rfl rfl (opV_bin rfl rfl rfl (by first | exact rd_lssT _ _ _ _ _ (by omega) | exact rd_lssF _ _ _ _ _ (by omega) | exact rb_lss _ _ _ _ _ _ _)) ?_
    refine SmG.nil ?_
    refine nextS_normal ?_
    refine Sm.condF hF rfl ?_
    refine Sm.exit ?_
    simp only [nextS, blockS, reduceIte, reduceCtorEq]
    refine Sm.seq ?_
    refine Sm.seq ?_
    refine Sm.regionG hF rfl ?_
    refine SmG.v hF rfl rfl rfl (opV_assign rfl rfl) ?_
    refine SmG.nil ?_
    refine nextS_normal ?_
    refine Sm.block ?_
    refine Sm.loop (ι := {i : Nat // i ≤ 8}) (fun i => ⟨[(2, .ref 0 0 0), (4, .ref 1 0 0), (7, .ref 4 0 0), (11, .d (.v (.int .i64 i.1)))], [(4, dW 8 (addTo C L i.1)), (1, dW 8 (List.replicate 8 0)), (0, dW 8 L)], 5⟩) (fun i => 8 - i.1) (⟨0, by omega⟩) ?_ ?_
    · exact St.le_of (by first | (simp [leE, look, constD] <;> omega) | (simp [leE, look, constD, addTo_zero] <;> omega)) (by simp only [leH, look, rep, reduceIte, Nat.reduceEqDiff, List.set_cons_zero, List.set_cons_succ, addTo_zero, and_self, and_true, and_false, false_and, if_true, if_false] <;> (repeat' first | rfl | constructor)) (by first | exact Nat.le_refl _ | (dsimp only; omega))
    rintro ⟨i, hi⟩
    simp only
    by_cases hlt : i < 8
    · have h1 := addTo_get C L i (by omega) (by omega)
      have h2 := get_word L i (by omega)
      have hst := set_word' (addTo C L i) i (C.getD i 0 + L.getD i 0)
      rw [addTo_set C L i (by omega) (by omega)] at hst
      generalize C.getD i 0 = x at h1 hst
      generalize L.getD i 0 = y at h2 hst
      refine Sm.seq ?_
      refine Sm.seq ?_
      refine Sm.regionG hF rfl ?_
      refine SmG.v hF rfl rfl rfl (opV_move rfl rfl) ?_
      refine SmG.v hF rfl rfl rfl (opV_bin rfl rfl rfl (by first | exact rd_lssT _ _ _ _ _ (by omega) | exact rd_lssF _ _ _ _ _ (by omega) | exact rb_lss _ _ _ _ _ _ _)) ?_
      refine SmG.nil ?_
      refine nextS_normal ?_
      refine Sm.condT hF rfl ?_
      refine Sm.skip ?_
      refine nextS_normal ?_
      refine Sm.seq ?_
      refine Sm.block ?_
      refine Sm.drawG hF (by kernel_rfl) rfl 8 (by kernel_rfl) (by kernel_rfl) ?_
      simp only [List.take_succ_cons, List.take_zero, List.take_nil]
      refine Head.v hF rfl rfl rfl (opV_move rfl rfl) ?_
      refine Head.v hF rfl rfl rfl (opV_indexAddr rfl rfl rfl (by simp (disch := omega) only [go_sem, Nat.reduceEqDiff, iteP, u32D, h1, h2] <;> rfl)) ?_
      refine Head.v hF rfl rfl rfl (opV_load rfl rfl (by simp (disch := omega) only [go_sem, Nat.reduceEqDiff, iteP, u32D, h1, h2] <;> rfl)) ?_
      refine Head.v hF rfl rfl rfl (opV_move rfl rfl) ?_
      refine Head.v hF rfl rfl rfl (opV_indexAddr rfl rfl rfl (by simp (disch := omega) only [go_sem, Nat.reduceEqDiff, iteP, u32D, h1, h2] <;> rfl)) ?_
      refine Head.v hF rfl rfl rfl (opV_load rfl rfl (by simp (disch := omega) only [go_sem, Nat.reduceEqDiff, iteP, u32D, h1, h2] <;> rfl)) ?_
      refine Head.v hF rfl rfl rfl (opV_bin rfl rfl rfl (by first | exact rw_add _ _ _ _ _ _ | exact rb_add _ _ _ _ _ _ _)) ?_
      refine Head.v hF rfl rfl rfl (opV_indexAddr rfl rfl rfl (by simp (disch := omega) only [go_sem, Nat.reduceEqDiff, iteP, u32D, h1, h2] <;> rfl)) ?_
      refine Head.last ⟨rfl, ?_⟩
      simp only [List.drop_succ_cons, List.drop_zero, List.drop_nil, List.nil_append, List.cons_append]
      refine SmG.store hF rfl rfl rfl rfl rfl (by simp (disch := omega) only [go_sem, Nat.reduceEqDiff, iteP, u32D, h1, h2] <;> rfl) ?_
      refine SmG.nil ?_
      refine blockS_normal ?_
      refine nextS_normal ?_
      refine Sm.regionG hF rfl ?_
      refine SmG.v hF rfl rfl rfl (opV_move rfl rfl) ?_
      refine SmG.v hF rfl rfl rfl (opV_bin rfl rfl rfl (by first | exact rd_add _ _ _ _ _ (wrapI64 _ (by omega)) | exact rb_add _ _ _ _ _ _ _)) ?_
      refine SmG.v hF rfl rfl rfl (opV_assign rfl rfl) ?_
      refine SmG.nil ?_
      refine nextS_normal ?_
      exact ⟨⟨i + 1, by omega⟩, by show 8 - (i + 1) < 8 - i; omega, by exact St.le_of (by first | (simp [leE, look, constD] <;> omega) | (simp [leE, look, constD, hst] <;> omega)) (by simp only [leH, look, rep, reduceIte, Nat.reduceEqDiff, List.set_cons_zero, List.set_cons_succ, hst, and_self, and_true, and_false, false_and, if_true, if_false] <;> (repeat' first | rfl | constructor)) (by first | exact Nat.le_refl _ | (dsimp only; omega))⟩
    · obtain rfl : i = 8 := by omega
      have hall := addTo_all C L (by omega)
      rw [hcl] at hall
      have hll : (List.map u32D (addTo C L 8)).length = 8 := by rw [hall]; simp [hcl, hSl]
      refine Sm.seq ?_
      refine Sm.seq ?_
      refine Sm.regionG hF rfl ?_
      refine SmG.v hF rfl rfl rfl (opV_move rfl rfl) ?_
      refine SmG.v hF rfl rfl rfl (opV_bin rfl rfl rfl (by first | exact rd_lssT _ _ _ _ _ (by omega) | exact rd_lssF _ _ _ _ _ (by omega) | exact rb_lss _ _ _ _ _ _ _)) ?_
      refine SmG.nil ?_
      refine nextS_normal ?_
      refine Sm.condF hF rfl ?_
      refine Sm.exit ?_
      simp only [nextS, blockS, reduceIte, reduceCtorEq]
      refine Sm.seq ?_
      refine Sm.regionG hF rfl ?_
      refine SmG.v hF rfl rfl rfl (opV_load rfl rfl (by simp (disch := omega) only [go_sem, Nat.reduceEqDiff, iteP, u32D, hll] <;> rfl)) ?_
      refine SmG.store hF rfl rfl rfl rfl rfl (by simp (disch := omega) only [go_sem, Nat.reduceEqDiff, iteP, u32D, hll] <;> rfl) ?_
      refine SmG.nil ?_
      refine nextS_normal ?_
      refine Sm.ret ?_
      refine retQ_cell rfl rfl (by simp (disch := omega) only [go_sem, Nat.reduceEqDiff, iteP, hll] <;> rfl) ?_
      rw [hall, ← hpl]; exact D.le.refl _
end Go.Proofs.YtagfaaijgfigkaaDoor
namespace Go.Proofs.YtagfaaijgfigkaaDoor
open Go.RowKit
set_option maxRecDepth 100000
theorem conv_u8 {P : Program} {s d : TypeId} {td : TypeDesc} {k2 : IntKind} (z : Nat) (h1 : P.underlying s = some td) (h2 : P.underlying d = some (.int .u8)) : convS P s d (.d (.v (.int k2 (z : Int)))) = some (.d (byteD (UInt8.ofNat z))) := by
  simp only [convS, rc_int P .u8 z s d h1 h2 k2, Option.map_some, byteD]
  have : IntKind.u8.wrap (z : Int) = ((UInt8.ofNat z).toNat : Int) := by
    rw [IntKind.wrap_u8']
    simp
  rw [this]
theorem rowB_one (l : List UInt8) (b : UInt8) : List.map rowB l ++ [[byteD b]] = List.map rowB (l ++ [b]) := by simp [rowB]
theorem len_bytes (n i : Nat) (h : i < 8) : (Sha.lenBytes n).take i ++ [UInt8.ofNat (8 * n / 2 ^ (56 - 8 * i))] = (Sha.lenBytes n).take (i + 1) := (Sha.lenBytes_take n i h).symm
theorem shr64 (P : Program) (t : TypeId) (x y : Operand) (a n : Nat) {b : Int} (k2 : IntKind) (hb : b = (n : Int)) (hn : n ≤ 64) : reck P (do eqGuard .shr t x y (.int .u64 a) (.int k2 b); binOp .shr t (.int .u64 a) (.int k2 b)) = some (.int .u64 ((a / 2 ^ n : Nat) : Int)) := by
  rw [rb_shr P t x y .u64 a b k2 (by omega)]
  subst hb
  have : min ((n : Int).toNat) IntKind.u64.bits = n := by show min _ 64 = n; omega
  rw [this, Int.fdiv_eq_ediv_of_nonneg _ (Int.le_of_lt (Int.pow_pos (by omega)))]
  norm_cast
theorem blocks_D (b : List UInt8) (hb : b.length ≤ 1000000) (G : Nat → Option D) : CallsD Tryd.prog G 54 [bytesL b] (bytesL (Sha.padded b)) := by
  have hpad : Sha.padded b = b ++ [128] ++ List.replicate (Sha.zeros b.length) 0 ++ Sha.lenBytes b.length := rfl
  have hz : Sha.zeros b.length < 64 := by unfold Sha.zeros; omega
  have hzt := fun j => Sha.zeros_test b.length j
  have hze := Sha.zeros_end b.length
  generalize Sha.zeros b.length = z at hpad hz hzt hze
  refine CallsD.of Tryd.func54 rfl Tryd.ntmps54 (by simp) ?_; intro F hF h0 hT; simp only [List.zipIdx_cons, List.zipIdx_nil, List.map_cons, List.map_nil, Nat.zero_add, Nat.reduceAdd]
  refine Sm.seq ?_
  refine Sm.regionG hF rfl ?_
  refine SmG.v hF rfl rfl rfl (opV_assign rfl rfl) ?_
  refine SmG.nil ?_
  refine nextS_normal ?_
  refine Sm.seq ?_
  refine Sm.regionG hF rfl ?_
  refine SmG.v hF rfl rfl rfl (opV_buildSlice rfl rfl (by simp (disch := omega) only [go_sem, Nat.reduceEqDiff, iteP, bytesL, rowB] <;> rfl)) ?_
  refine SmG.v hF rfl rfl rfl (opV_move rfl rfl) ?_
  refine SmG.appendFresh hF elU8 rfl rfl rfl rfl rfl rfl (Or.inl rfl) (by simp only [List.length_map]; omega) (by simp only [List.length_map]; omega) ?_
  refine SmG.v hF rfl rfl rfl (opV_assign rfl rfl) ?_
  refine SmG.nil ?_
  refine nextS_normal ?_
  refine Sm.seq ?_
  refine Sm.regionG hF rfl ?_
  refine SmG.v hF rfl rfl rfl (opV_move rfl rfl) ?_
  refine SmG.v hF rfl rfl rfl (opV_buildSlice rfl rfl (by simp (disch := omega) only [go_sem, Nat.reduceEqDiff, iteP, bytesL, rowB] <;> rfl)) ?_
  refine SmG.appendOwn hF elU8 rfl rfl rfl rfl rfl rfl rfl (by first | rfl | (simp; done) | (simp; omega)) (Or.inl rfl) (by (repeat' first | exact freeH_nil _ | refine freeH_same ?_ | refine freeH_cons ?_ (free_dB _ _ _) | refine freeH_cons ?_ (free_dB _ _ [_]) | refine freeH_cons ?_ (free_row (by rfl)))) ?_ ?_ ?_; rotate_left; rotate_left; simp only [killV, Pk.v, V.free, rep, bne_self_eq_false, Nat.reduceAdd, Nat.reduceBNe, Nat.reduceBEq, Nat.reduceEqDiff, reduceIte, Bool.false_eq_true]
  rotate_left
  · simp only [List.length_map, List.length_cons, List.length_nil]; omega
  · simp only [List.length_map, List.length_cons, List.length_nil]; omega
  refine SmG.v hF rfl rfl rfl (opV_assign rfl rfl) ?_
  refine SmG.nil ?_
  refine nextS_normal ?_
  refine Sm.seq ?_
  refine Sm.block ?_
  refine Sm.loop (ι := {j : Nat // j ≤ z}) (fun j => ⟨[(0, .d (bytesL b)), (3, .sref 0 0 ((b ++ [128] ++ List.replicate j.1 0).map rowB).length)], [(0, dB 1 ((b ++ [128] ++ List.replicate j.1 0).map rowB))], 1⟩) (fun j => z - j.1) (⟨0, by omega⟩) ?_ ?_
  · have h0 : List.map rowB b ++ [[D.v (.int .u8 128)]] = List.map rowB (b ++ [128] ++ List.replicate 0 0) := by
      rw [List.replicate_zero, List.append_nil, ← rowB_one]; rfl
    exact St.le_of (by first | (simp [leE, look, constD] <;> omega) | (simp [leE, look, constD, h0] <;> omega)) (by simp only [leH, look, rep, reduceIte, Nat.reduceEqDiff, List.set_cons_zero, List.set_cons_succ, h0, and_self, and_true, and_false, false_and, if_true, if_false] <;> (repeat' first | rfl | constructor)) (by first | exact Nat.le_refl _ | (dsimp only; omega))
  rintro ⟨j, hj⟩
  simp only
  by_cases hlt : j < z
  · have hzj := hzt j hlt
    have hrow : List.map rowB (b ++ [128] ++ List.replicate j 0) ++ [[D.v (.int .u8 0)]] = List.map rowB (b ++ [128] ++ List.replicate (j + 1) 0) := by
      rw [List.replicate_succ', ← List.append_assoc, ← rowB_one]; rfl
    refine Sm.seq ?_
    refine Sm.seq ?_
    refine Sm.regionG hF rfl ?_
    refine SmG.v hF rfl rfl rfl (opV_move rfl rfl) ?_
    refine SmG.v hF rfl rfl rfl (opV_len rfl rfl (by simp (disch := omega) only [go_sem, Nat.reduceEqDiff, iteP, bytesL, rowB, List.length_append, List.length_cons, List.length_nil, List.length_replicate] <;> rfl)) ?_
    refine SmG.v hF rfl rfl rfl (opV_bin rfl rfl rfl (by first | exact rd_add _ _ _ _ _ (wrapI64 _ (by omega)) | exact rb_add _ _ _ _ _ _ _)) ?_
    refine SmG.v hF rfl rfl rfl (opV_bin rfl rfl rfl (by first | exact rd_rem _ _ _ _ _ (by omega) (by omega) | exact rb_rem _ _ _ _ _ _ _ (by omega))) ?_
    refine SmG.v hF rfl rfl rfl (opV_bin rfl rfl rfl (by first | exact rd_neqT _ _ _ _ _ (by omega) | exact rd_neqF _ _ _ _ _ (by omega) | exact rb_neq _ _ _ _ _ _ _)) ?_
    refine SmG.nil ?_
    refine nextS_normal ?_
    refine Sm.condT hF rfl ?_
    refine Sm.skip ?_
    refine nextS_normal ?_
    refine Sm.block ?_
    refine Sm.regionG hF rfl ?_
    refine SmG.v hF rfl rfl rfl (opV_move rfl rfl) ?_
    refine SmG.v hF rfl rfl rfl (opV_buildSlice rfl rfl (by simp (disch := omega) only [go_sem, Nat.reduceEqDiff, iteP, bytesL, rowB, List.length_append, List.length_cons, List.length_nil, List.length_replicate] <;> rfl)) ?_
    refine SmG.appendOwn hF elU8 rfl rfl rfl rfl rfl rfl rfl (by first | rfl | (simp; done) | (simp; omega)) (Or.inl rfl) (by (repeat' first | exact freeH_nil _ | refine freeH_same ?_ | refine freeH_cons ?_ (free_dB _ _ _) | refine freeH_cons ?_ (free_dB _ _ [_]) | refine freeH_cons ?_ (free_row (by rfl)))) ?_ ?_ ?_; rotate_left; rotate_left; simp only [killV, Pk.v, V.free, rep, bne_self_eq_false, Nat.reduceAdd, Nat.reduceBNe, Nat.reduceBEq, Nat.reduceEqDiff, reduceIte, Bool.false_eq_true]
    rotate_left
    · simp only [List.length_map, List.length_append, List.length_cons, List.length_nil, List.length_replicate]; omega
    · simp only [List.length_map, List.length_append, List.length_cons, List.length_nil, List.length_replicate]; omega
    refine SmG.v hF rfl rfl rfl (opV_assign rfl rfl) ?_
    refine SmG.nil ?_
    refine blockS_normal ?_
    refine nextS_normal ?_
    exact ⟨⟨j + 1, by omega⟩, by show z - (j + 1) < z - j; omega, by exact St.le_of (by first | (simp [leE, look, constD] <;> omega) | (simp [leE, look, constD, hrow] <;> omega)) (by simp only [leH, look, rep, reduceIte, Nat.reduceEqDiff, List.set_cons_zero, List.set_cons_succ, hrow, and_self, and_true, and_false, false_and, if_true, if_false] <;> (repeat' first | rfl | constructor)) (by first | exact Nat.le_refl _ | (dsimp only; omega))⟩
  · obtain rfl : j = z := by omega
    refine Sm.seq ?_
    refine Sm.seq ?_
    refine Sm.regionG hF rfl ?_
    refine SmG.v hF rfl rfl rfl (opV_move rfl rfl) ?_
    refine SmG.v hF rfl rfl rfl (opV_len rfl rfl (by simp (disch := omega) only [go_sem, Nat.reduceEqDiff, iteP, bytesL, rowB, List.length_append, List.length_cons, List.length_nil, List.length_replicate] <;> rfl)) ?_
    refine SmG.v hF rfl rfl rfl (opV_bin rfl rfl rfl (by first | exact rd_add _ _ _ _ _ (wrapI64 _ (by omega)) | exact rb_add _ _ _ _ _ _ _)) ?_
    refine SmG.v hF rfl rfl rfl (opV_bin rfl rfl rfl (by first | exact rd_rem _ _ _ _ _ (by omega) (by omega) | exact rb_rem _ _ _ _ _ _ _ (by omega))) ?_
    refine SmG.v hF rfl rfl rfl (opV_bin rfl rfl rfl (by first | exact rd_neqT _ _ _ _ _ (by omega) | exact rd_neqF _ _ _ _ _ (by omega) | exact rb_neq _ _ _ _ _ _ _)) ?_
    refine SmG.nil ?_
    refine nextS_normal ?_
    refine Sm.condF hF rfl ?_
    refine Sm.exit ?_
    simp only [nextS, blockS, reduceIte, reduceCtorEq]
    refine Sm.seq ?_
    refine Sm.regionG hF rfl ?_
    refine SmG.v hF rfl rfl rfl (opV_move rfl rfl) ?_
    refine SmG.v hF rfl rfl rfl (opV_len rfl rfl (by simp (disch := omega) only [go_sem, Nat.reduceEqDiff, iteP, bytesL, rowB, List.length_append, List.length_cons, List.length_nil, List.length_replicate] <;> rfl)) ?_
    refine SmG.v hF rfl rfl rfl (opV_conv rfl rfl (by first | exact convS_int rfl rfl (wrapU64 _ (by omega)) | (simp (disch := omega) only [go_sem, bytesL, rowB, List.length_append, List.length_cons, List.length_nil, List.length_replicate] <;> rfl))) ?_
    refine SmG.v hF rfl rfl rfl (opV_bin rfl rfl rfl (by first | exact rd_mul _ _ _ _ _ (wrapU64 _ (by omega)) | exact rb_mul _ _ _ _ _ _ _)) ?_
    refine SmG.v hF rfl rfl rfl (opV_assign rfl rfl) ?_
    refine SmG.nil ?_
    refine nextS_normal ?_
    refine Sm.seq ?_
    refine Sm.seq ?_
    refine Sm.regionG hF rfl ?_
    refine SmG.v hF rfl rfl rfl (opV_assign rfl rfl) ?_
    refine SmG.nil ?_
    refine nextS_normal ?_
    refine Sm.block ?_
    refine Sm.loop (ι := {i : Nat // i ≤ 8}) (fun i => ⟨[(3, .sref 0 0 ((b ++ [128] ++ List.replicate j 0 ++ (Sha.lenBytes b.length).take i.1).map rowB).length), (4, .d (.v (.int .u64 ((8 * b.length : Nat) : Int)))), (5, .d (.v (.int .i64 i.1)))], [(0, dB 1 ((b ++ [128] ++ List.replicate j 0 ++ (Sha.lenBytes b.length).take i.1).map rowB))], 1⟩) (fun i => 8 - i.1) (⟨0, by omega⟩) ?_ ?_
    · exact St.le_of (by first | (simp [leE, look, constD] <;> omega) | (simp [leE, look, constD, List.take_zero, List.append_nil] <;> omega)) (by simp only [leH, look, rep, reduceIte, Nat.reduceEqDiff, List.set_cons_zero, List.set_cons_succ, List.take_zero, List.append_nil, and_self, and_true, and_false, false_and, if_true, if_false] <;> (repeat' first | rfl | constructor)) (by first | exact Nat.le_refl _ | (dsimp only; omega))
    rintro ⟨i, hi⟩
    simp only
    have hll : (Sha.lenBytes b.length).length = 8 := by simp [Sha.lenBytes]
    by_cases hlt : i < 8
    · have hrow : List.map rowB (b ++ [128] ++ List.replicate j 0 ++ (Sha.lenBytes b.length).take i) ++ [[D.v (.int .u8 ((UInt8.ofNat (8 * b.length / 2 ^ (56 - 8 * i))).toNat : Int))]] = List.map rowB (b ++ [128] ++ List.replicate j 0 ++ (Sha.lenBytes b.length).take (i + 1)) := by
        show _ ++ [[byteD _]] = _
        rw [rowB_one, List.append_assoc, len_bytes _ _ hlt]
      refine Sm.seq ?_
      refine Sm.seq ?_
      refine Sm.regionG hF rfl ?_
      refine SmG.v hF rfl rfl rfl (opV_move rfl rfl) ?_
      refine SmG.v hF rfl rfl rfl (opV_bin rfl rfl rfl (by first | exact rd_lssT _ _ _ _ _ (by omega) | exact rd_lssF _ _ _ _ _ (by omega) | exact rb_lss _ _ _ _ _ _ _)) ?_
      refine SmG.nil ?_
      refine nextS_normal ?_
      refine Sm.condT hF rfl ?_
      refine Sm.skip ?_
      refine nextS_normal ?_
      refine Sm.seq ?_
      refine Sm.block ?_
      refine Sm.regionG hF rfl ?_
      refine SmG.v hF rfl rfl rfl (opV_move rfl rfl) ?_
      refine SmG.v hF rfl rfl rfl (opV_move rfl rfl) ?_
      refine SmG.v hF rfl rfl rfl (opV_move rfl rfl) ?_
      refine SmG.v hF rfl rfl rfl (opV_bin rfl rfl rfl (by first | exact rd_mul _ _ _ _ _ (wrapI64 _ (by omega)) | exact rb_mul _ _ _ _ _ _ _)) ?_
      refine SmG.v hF rfl rfl rfl (opV_bin rfl rfl rfl (by first | exact rd_sub _ _ _ _ _ (wrapI64 _ (by omega)) | exact rb_sub _ _ _ _ _ _ _)) ?_
      refine SmG.v hF rfl rfl rfl (opV_bin rfl rfl rfl (shr64 _ _ _ _ (8 * b.length) (56 - 8 * i) _ (by omega) (by omega))) ?_
      refine SmG.v hF rfl rfl rfl (opV_conv rfl rfl (conv_u8 _ Tryd.underlying92 Tryd.underlying5)) ?_
      refine SmG.v hF rfl rfl rfl (opV_buildSlice rfl rfl (by simp (disch := omega) only [go_sem, Nat.reduceEqDiff, iteP, bytesL, rowB, List.length_append, List.length_cons, List.length_nil, List.length_replicate] <;> rfl)) ?_
      refine SmG.appendOwn hF elU8 rfl rfl rfl rfl rfl rfl rfl (by first | rfl | (simp; done) | (simp; omega)) (Or.inl rfl) (by (repeat' first | exact freeH_nil _ | refine freeH_same ?_ | refine freeH_cons ?_ (free_dB _ _ _) | refine freeH_cons ?_ (free_dB _ _ [_]) | refine freeH_cons ?_ (free_row (by rfl)))) ?_ ?_ ?_; rotate_left; rotate_left; simp only [killV, Pk.v, V.free, rep, bne_self_eq_false, Nat.reduceAdd, Nat.reduceBNe, Nat.reduceBEq, Nat.reduceEqDiff, reduceIte, Bool.false_eq_true]
      rotate_left
      · simp only [List.length_map, List.length_append, List.length_cons, List.length_nil, List.length_replicate, List.length_take]; omega
      · simp only [List.length_map, List.length_append, List.length_cons, List.length_nil, List.length_replicate, List.length_take]; omega
      refine SmG.v hF rfl rfl rfl (opV_assign rfl rfl) ?_
      refine SmG.nil ?_
      refine blockS_normal ?_
      refine nextS_normal ?_
      refine Sm.regionG hF rfl ?_
      refine SmG.v hF rfl rfl rfl (opV_move rfl rfl) ?_
      refine SmG.v hF rfl rfl rfl (opV_bin rfl rfl rfl (by first | exact rd_add _ _ _ _ _ (wrapI64 _ (by omega)) | exact rb_add _ _ _ _ _ _ _)) ?_
      refine SmG.v hF rfl rfl rfl (opV_assign rfl rfl) ?_
      refine SmG.nil ?_
      refine nextS_normal ?_
      exact ⟨⟨i + 1, by omega⟩, by show 8 - (i + 1) < 8 - i; omega, by exact St.le_of (by first | (simp [leE, look, constD] <;> omega) | (simp [leE, look, constD, hrow] <;> omega)) (by simp only [leH, look, rep, reduceIte, Nat.reduceEqDiff, List.set_cons_zero, List.set_cons_succ, hrow, and_self, and_true, and_false, false_and, if_true, if_false] <;> (repeat' first | rfl | constructor)) (by first | exact Nat.le_refl _ | (dsimp only; omega))⟩
    · obtain rfl : i = 8 := by omega
      refine Sm.seq ?_
      refine Sm.seq ?_
      refine Sm.regionG hF rfl ?_
      refine SmG.v hF rfl rfl rfl (opV_move rfl rfl) ?_
      refine SmG.v hF rfl rfl rfl (opV_bin rfl rfl rfl (by first | exact rd_lssT _ _ _ _ _ (by omega) | exact rd_lssF _ _ _ _ _ (by omega) | exact rb_lss _ _ _ _ _ _ _)) ?_
      refine SmG.nil ?_
      refine nextS_normal ?_
      refine Sm.condF hF rfl ?_
      refine Sm.freeze (l := 0) _ rfl ?_
      simp only [Pk.v, frzE, frzV, dropH,  reduceIte, Nat.reduceAdd, Nat.zero_add, List.length_map, List.length_append, Nat.le_refl, true_and, and_self, if_true, Nat.reduceEqDiff, true_and]
      refine Sm.exit ?_
      simp only [nextS, blockS, reduceIte, reduceCtorEq]
      refine Sm.seq ?_
      refine Sm.regionG hF rfl ?_
      refine SmG.v hF rfl rfl rfl (opV_move rfl rfl) ?_
      refine SmG.v hF rfl rfl rfl (opV_assign rfl rfl) ?_
      refine SmG.nil ?_
      refine nextS_normal ?_
      refine Sm.ret ?_
      refine ⟨_, rfl, ?_⟩; dsimp only
      rw [List.take_of_length_le (by omega), ← hpad]; exact D.le.refl _
theorem chunk_map (all : List UInt8) (j : Nat) : List.drop (64 * j) (List.map rowB (List.take (64 * j + 64) all)) = List.map rowB ((all.drop (64 * j)).take 64) := by
  rw [← List.map_drop, List.drop_take]; congr 2; omega
theorem out_len (S : Sha.S8) (k : Nat) (h : k ≤ 32) : ((Sha.out S).take k ++ List.replicate (32 - k) 0).length = 32 := by
  simp [Sha.out_length]; omega
theorem refSum_D (b : List UInt8) (hb : b.length ≤ 1000000) (G : Nat → Option D) : CallsD Tryd.prog G 42 [bytesL b] (sumD (Sha.sum b)) := by
  have hmod := Sha.padded_mod b
  have hplen := Sha.padded_length b
  have hz : Sha.zeros b.length < 64 := by unfold Sha.zeros; omega
  have hS : Sha.sum b = Sha.out (Sha.over (Sha.padded b) ((Sha.padded b).length / 64)) := rfl
  refine CallsD.of Tryd.func42 rfl Tryd.ntmps42 (by simp) ?_; intro F hF h0 hT; simp only [List.zipIdx_cons, List.zipIdx_nil, List.map_cons, List.map_nil, Nat.zero_add, Nat.reduceAdd]
  refine Sm.seq ?_
  refine Sm.regionG hF rfl ?_
  refine SmG.new hF rfl rfl rfl (opS_alloc rfl al39) ?_
  refine SmG.nil ?_
  refine nextS_normal ?_
  refine Sm.seq ?_
  refine Sm.regionG hF rfl ?_
  refine SmG.v hF rfl rfl rfl (opV_move rfl rfl) ?_
  refine SmG.call hF rfl rfl (by kernel_rfl) rfl rfl rfl (blocks_D b hb G) ?_
  refine SmG.v hF rfl rfl rfl (opV_assign rfl rfl) ?_
  refine SmG.nil ?_
  refine nextS_normal ?_
  refine Sm.seq ?_
  refine Sm.regionG hF rfl ?_
  refine SmG.call hF rfl rfl (by kernel_rfl) rfl rfl rfl (first_D G) ?_
  refine SmG.new hF rfl rfl rfl (opS_alloc rfl al93) ?_
  refine SmG.store hF rfl rfl rfl rfl rfl (by simp (disch := omega) only [go_sem, Nat.reduceEqDiff, iteP, u32D, sumD] <;> rfl) ?_
  refine SmG.nil ?_
  refine nextS_normal ?_
  refine Sm.seq ?_
  refine Sm.seq ?_
  refine Sm.regionG hF rfl ?_
  refine SmG.v hF rfl rfl rfl (opV_assign rfl rfl) ?_
  refine SmG.nil ?_
  refine nextS_normal ?_
  refine Sm.block ?_
  generalize Sha.padded b = all at hmod hplen hS ⊢
  generalize hm : all.length / 64 = m at hmod hS
  refine Sm.loop (ι := {j : Nat // j ≤ m}) (fun j => ⟨[(2, .ref 0 0 0), (3, .d (bytesL all)), (4, .ref 1 0 0), (5, .d (.v (.int .i64 ((64 * j.1 : Nat) : Int))))], [(1, dW 8 (Sha.over all j.1).list), (0, dB 32 [rowS (List.replicate 32 0)])], 2⟩) (fun j => m - j.1) (⟨0, by omega⟩) ?_ ?_
  · exact St.le_of (by first | (simp [leE, look, constD] <;> omega) | (simp [leE, look, constD, true_and] <;> omega)) (by simp only [leH, look, rep, reduceIte, Nat.reduceEqDiff, List.set_cons_zero, List.set_cons_succ, true_and, and_self, and_true, and_false, false_and, if_true, if_false] <;> (repeat' first | rfl | constructor)) (by first | exact Nat.le_refl _ | (dsimp only; omega))
  rintro ⟨j, hj⟩
  simp only
  by_cases hlt : j < m
  · have c1 := step_D (Sha.over all j) ((all.drop (64 * j)).take 64) (by rw [List.length_take, List.length_drop]; omega) G
    have hcm := chunk_map all j
    have hle : 64 * j ≤ 64 * j + 64 := by omega
    have hle2 : 64 * j + 64 ≤ all.length := by omega
    have hcast : (((64 * j : Nat) : Int) + 64).toNat = 64 * j + 64 := by omega
    have hov : Sha.over all (j + 1) = Sha.after (Sha.over all j) ((all.drop (64 * j)).take 64) := rfl
    have hl8 : (Sha.over all j).list.length = 8 := rfl
    refine Sm.seq ?_
    refine Sm.seq ?_
    refine Sm.regionG hF rfl ?_
    refine SmG.v hF rfl rfl rfl (opV_move rfl rfl) ?_
    refine SmG.v hF rfl rfl rfl (opV_move rfl rfl) ?_
    refine SmG.v hF rfl rfl rfl (opV_len rfl rfl (by simp (disch := omega) only [go_sem, Nat.reduceEqDiff, iteP, bytesL, hcm, hcast, hle, hle2, take_map', hl8] <;> rfl)) ?_
    refine SmG.v hF rfl rfl rfl (opV_bin rfl rfl rfl (by first | exact rd_lssT _ _ _ _ _ (by omega) | exact rd_lssF _ _ _ _ _ (by omega) | exact rb_lss _ _ _ _ _ _ _)) ?_
    refine SmG.nil ?_
    refine nextS_normal ?_
    refine Sm.condT hF rfl ?_
    refine Sm.skip ?_
    refine nextS_normal ?_
    refine Sm.seq ?_
    refine Sm.block ?_
    refine Sm.drawG hF (by kernel_rfl) rfl 7 (by kernel_rfl) (by kernel_rfl) ?_
    simp only [List.take_succ_cons, List.take_zero, List.take_nil]
    refine Head.v hF rfl rfl rfl (opV_load rfl rfl (by simp (disch := omega) only [go_sem, Nat.reduceEqDiff, iteP, bytesL, hcm, hcast, hle, hle2, take_map', hl8] <;> rfl)) ?_
    refine Head.v hF rfl rfl rfl (opV_move rfl rfl) ?_
    refine Head.v hF rfl rfl rfl (opV_move rfl rfl) ?_
    refine Head.v hF rfl rfl rfl (opV_move rfl rfl) ?_
    refine Head.v hF rfl rfl rfl (opV_bin rfl rfl rfl (by first | exact rd_add _ _ _ _ _ (wrapI64 _ (by omega)) | exact rb_add _ _ _ _ _ _ _)) ?_
    refine Head.v hF rfl rfl rfl (opV_slice rfl rfl rfl rfl rfl (by simp (disch := omega) only [go_sem, Nat.reduceEqDiff, iteP, bytesL, hcm, hcast, hle, hle2, take_map', hl8] <;> rfl)) ?_
    refine Head.c hF rfl rfl (by kernel_rfl) rfl rfl rfl (c1) ?_
    refine Head.last ⟨rfl, ?_⟩
    simp only [List.drop_succ_cons, List.drop_zero, List.drop_nil, List.nil_append, List.cons_append]
    refine SmG.store hF rfl rfl rfl rfl rfl (by simp (disch := omega) only [go_sem, Nat.reduceEqDiff, iteP, bytesL, hcm, hcast, hle, hle2, take_map', hl8] <;> rfl) ?_
    refine SmG.nil ?_
    refine blockS_normal ?_
    refine nextS_normal ?_
    refine Sm.regionG hF rfl ?_
    refine SmG.v hF rfl rfl rfl (opV_move rfl rfl) ?_
    refine SmG.v hF rfl rfl rfl (opV_bin rfl rfl rfl (by first | exact rd_add _ _ _ _ _ (wrapI64 _ (by omega)) | exact rb_add _ _ _ _ _ _ _)) ?_
    refine SmG.v hF rfl rfl rfl (opV_assign rfl rfl) ?_
    refine SmG.nil ?_
    refine nextS_normal ?_
    exact ⟨⟨j + 1, by omega⟩, by show m - (j + 1) < m - j; omega, by exact St.le_of (by first | (simp [leE, look, constD] <;> omega) | (simp [leE, look, constD, hov] <;> omega)) (by simp only [leH, look, rep, reduceIte, Nat.reduceEqDiff, List.set_cons_zero, List.set_cons_succ, hov, and_self, and_true, and_false, false_and, if_true, if_false] <;> (repeat' first | rfl | constructor)) (by first | exact Nat.le_refl _ | (dsimp only; omega))⟩
  · obtain rfl : j = m := by omega
    generalize Sha.over all j = S at hS ⊢
    refine Sm.seq ?_
    refine Sm.seq ?_
    refine Sm.regionG hF rfl ?_
    refine SmG.v hF rfl rfl rfl (opV_move rfl rfl) ?_
    refine SmG.v hF rfl rfl rfl (opV_move rfl rfl) ?_
    refine SmG.v hF rfl rfl rfl (opV_len rfl rfl (by simp (disch := omega) only [go_sem, Nat.reduceEqDiff, iteP, bytesL] <;> rfl)) ?_
    refine SmG.v hF rfl rfl rfl (opV_bin rfl rfl rfl (by first | exact rd_lssT _ _ _ _ _ (by omega) | exact rd_lssF _ _ _ _ _ (by omega) | exact rb_lss _ _ _ _ _ _ _)) ?_
    refine SmG.nil ?_
    refine nextS_normal ?_
    refine Sm.condF hF rfl ?_
    refine Sm.exit ?_
    simp only [nextS, blockS, reduceIte, reduceCtorEq]
    refine Sm.seq ?_
    refine Sm.regionG hF rfl ?_
    refine SmG.v hF rfl rfl rfl (opV_buildA rfl Tryd.underlying39 rfl bz39) ?_
    refine SmG.new hF rfl rfl rfl (opS_alloc rfl al39) ?_
    refine SmG.store hF rfl rfl rfl rfl rfl (by simp (disch := omega) only [go_sem, Nat.reduceEqDiff, iteP, bytesL] <;> rfl) ?_
    refine SmG.nil ?_
    refine nextS_normal ?_
    refine Sm.seq ?_
    refine Sm.seq ?_
    refine Sm.regionG hF rfl ?_
    refine SmG.v hF rfl rfl rfl (opV_assign rfl rfl) ?_
    refine SmG.nil ?_
    refine nextS_normal ?_
    refine Sm.block ?_
    refine Sm.loop (ι := {k : Nat // k ≤ 32}) (fun k => ⟨[(2, .ref 0 0 0), (4, .ref 1 0 0), (6, .ref 2 0 0), (7, .d (.v (.int .i64 k.1)))], [(2, dB 32 [rowS ((Sha.out S).take k.1 ++ List.replicate (32 - k.1) 0)]), (1, dW 8 S.list), (0, dB 32 [rowS (List.replicate 32 0)])], 3⟩) (fun k => 32 - k.1) (⟨0, by omega⟩) ?_ ?_
    · exact St.le_of (by first | (simp [leE, look, constD] <;> omega) | (simp [leE, look, constD, List.take_zero, List.nil_append] <;> omega)) (by simp only [leH, look, rep, reduceIte, Nat.reduceEqDiff, List.set_cons_zero, List.set_cons_succ, List.take_zero, List.nil_append, and_self, and_true, and_false, false_and, if_true, if_false] <;> (repeat' first | rfl | constructor)) (by first | exact Nat.le_refl _ | (dsimp only; omega))
    rintro ⟨k, hk⟩
    simp only
    have hl8 : S.list.length = 8 := rfl
    by_cases hlt : k < 32
    · have hg := get_word S.list (k / 4) (by omega)
      have hset := Sha.out_set S k hlt
      have hsh : ∀ (x : UInt32) (n : Nat), (Sha.shr x n).toNat = x.toNat / 2 ^ n := fun x n => Nat.mod_eq_of_lt (Nat.lt_of_le_of_lt (Nat.div_le_self _ _) x.toNat_lt)
      generalize S.list.getD (k / 4) 0 = x at hg hset
      have hcast : ((k : Int) / 4).toNat = k / 4 := by omega
      have hst : (List.map V.d (rowS ((Sha.out S).take k ++ List.replicate (32 - k) 0))).set k (.d (.v (.int .u8 ((UInt8.ofNat (Sha.shr x (24 - 8 * (k % 4))).toNat).toNat : Int)))) = List.map V.d (rowS ((Sha.out S).take (k + 1) ++ List.replicate (32 - (k + 1)) 0)) := by
        rw [← hset, hsh]
        simp only [rowS, List.map_set, byteD]
      refine Sm.seq ?_
      refine Sm.seq ?_
      refine Sm.regionG hF rfl ?_
      refine SmG.v hF rfl rfl rfl (opV_move rfl rfl) ?_
      refine SmG.v hF rfl rfl rfl (opV_bin rfl rfl rfl (by first | exact rd_lssT _ _ _ _ _ (by omega) | exact rd_lssF _ _ _ _ _ (by omega) | exact rb_lss _ _ _ _ _ _ _)) ?_
      refine SmG.nil ?_
      refine nextS_normal ?_
      refine Sm.condT hF rfl ?_
      refine Sm.skip ?_
      refine nextS_normal ?_
      refine Sm.seq ?_
      refine Sm.block ?_
      refine Sm.regionG hF rfl ?_
      refine SmG.v hF rfl rfl rfl (opV_move rfl rfl) ?_
      refine SmG.v hF rfl rfl rfl (opV_move rfl rfl) ?_
      refine SmG.v hF rfl rfl rfl (opV_bin rfl rfl rfl (by first | exact rd_quo _ _ _ _ (by omega) (by omega) | exact rb_quo _ _ _ _ _ _ _ (by omega))) ?_
      refine SmG.v hF rfl rfl rfl (opV_indexAddr rfl rfl rfl (by simp (disch := omega) only [go_sem, Nat.reduceEqDiff, iteP, u32D, hg, hcast, byteD, hl8] <;> rfl)) ?_
      refine SmG.v hF rfl rfl rfl (opV_load rfl rfl (by simp (disch := omega) only [go_sem, Nat.reduceEqDiff, iteP, u32D, hg, hcast, byteD, hl8] <;> rfl)) ?_
      refine SmG.v hF rfl rfl rfl (opV_move rfl rfl) ?_
      refine SmG.v hF rfl rfl rfl (opV_bin rfl rfl rfl (by first | exact rd_rem _ _ _ _ _ (by omega) (by omega) | exact rb_rem _ _ _ _ _ _ _ (by omega))) ?_
      refine SmG.v hF rfl rfl rfl (opV_bin rfl rfl rfl (by first | exact rd_mul _ _ _ _ _ (wrapI64 _ (by omega)) | exact rb_mul _ _ _ _ _ _ _)) ?_
      refine SmG.v hF rfl rfl rfl (opV_bin rfl rfl rfl (by first | exact rd_sub _ _ _ _ _ (wrapI64 _ (by omega)) | exact rb_sub _ _ _ _ _ _ _)) ?_
      refine SmG.v hF rfl rfl rfl (opV_bin rfl rfl rfl (rw_shr _ _ _ _ (24 - 8 * (k % 4)) _ (by omega) (by omega) x)) ?_
      refine SmG.v hF rfl rfl rfl (opV_conv rfl rfl (conv_u8 _ Tryd.underlying70 Tryd.underlying5)) ?_
      refine SmG.v hF rfl rfl rfl (opV_indexAddr rfl rfl rfl (by simp (disch := omega) only [go_sem, Nat.reduceEqDiff, iteP, u32D, hg, hcast, byteD, hl8] <;> rfl)) ?_
      refine SmG.store hF rfl rfl rfl rfl rfl (by simp (disch := omega) only [go_sem, Nat.reduceEqDiff, iteP, u32D, hg, hcast, byteD, hl8] <;> rfl) ?_
      refine SmG.nil ?_
      refine blockS_normal ?_
      refine nextS_normal ?_
      refine Sm.regionG hF rfl ?_
      refine SmG.v hF rfl rfl rfl (opV_move rfl rfl) ?_
      refine SmG.v hF rfl rfl rfl (opV_bin rfl rfl rfl (by first | exact rd_add _ _ _ _ _ (wrapI64 _ (by omega)) | exact rb_add _ _ _ _ _ _ _)) ?_
      refine SmG.v hF rfl rfl rfl (opV_assign rfl rfl) ?_
      refine SmG.nil ?_
      refine nextS_normal ?_
      exact ⟨⟨k + 1, by omega⟩, by show 32 - (k + 1) < 32 - k; omega, by exact St.le_of (by first | (simp [leE, look, constD] <;> omega) | (simp [leE, look, constD, hst] <;> omega)) (by simp only [leH, look, rep, reduceIte, Nat.reduceEqDiff, List.set_cons_zero, List.set_cons_succ, hst, and_self, and_true, and_false, false_and, if_true, if_false] <;> (repeat' first | rfl | constructor)) (by first | exact Nat.le_refl _ | (dsimp only; omega))⟩
    · obtain rfl : k = 32 := by omega
      have hll : (rowS ((Sha.out S).take 32 ++ List.replicate (32 - 32) 0)).length = 32 := by rw [rowS, List.length_map, out_len S 32 (by omega)]
      refine Sm.seq ?_
      refine Sm.seq ?_
      refine Sm.regionG hF rfl ?_
      refine SmG.v hF rfl rfl rfl (opV_move rfl rfl) ?_
      refine SmG.v hF rfl rfl rfl (opV_bin rfl rfl rfl (by first | exact rd_lssT _ _ _ _ _ (by omega) | exact rd_lssF _ _ _ _ _ (by omega) | exact rb_lss _ _ _ _ _ _ _)) ?_
      refine SmG.nil ?_
      refine nextS_normal ?_
      refine Sm.condF hF rfl ?_
      refine Sm.exit ?_
      simp only [nextS, blockS, reduceIte, reduceCtorEq]
      refine Sm.seq ?_
      refine Sm.regionG hF rfl ?_
      refine SmG.v hF rfl rfl rfl (opV_load rfl rfl (by simp (disch := omega) only [go_sem, Nat.reduceEqDiff, iteP, hll] <;> rfl)) ?_
      refine SmG.store hF rfl rfl rfl rfl rfl (by simp (disch := omega) only [go_sem, Nat.reduceEqDiff, iteP, hll] <;> rfl) ?_
      refine SmG.nil ?_
      refine nextS_normal ?_
      refine Sm.ret ?_
      refine retQ_cell rfl rfl (by simp (disch := omega) only [go_sem, Nat.reduceEqDiff, iteP, hll] <;> rfl) ?_
      rw [hS, List.take_of_length_le (by rw [Sha.out_length]; omega), List.append_nil]
      exact D.le.refl _
end Go.Proofs.YtagfaaijgfigkaaDoor
namespace Go.Proofs.YtagfaaijgfigkaaDoor
open Go.RowKit
set_option maxRecDepth 100000
theorem one_ne_zero' : ((1 : Nat) = 0) = False := by simp
theorem map_ne {α : Type} {f : α → List D} {l : List α} (z : List D) (h : 0 < l.length) : List.map f l ≠ [] := by intro e; rw [List.map_eq_nil_iff] at e; subst e; simp at h
theorem rowE_one (l : List (List UInt8)) (x : List UInt8) : List.map rowE l ++ [[bytesL x]] = List.map rowE (l ++ [x]) := by simp [rowE]
theorem row_split (l : List UInt8) : (rowS l).map (fun d => [d]) = l.map rowB := by simp [rowS, rowB, Function.comp_def]
theorem leafBytes_D (b : List UInt8) (hb : b.length ≤ 900000) (G : Nat → Option D) : CallsD Tryd.prog G 57 [bytesL b] (bytesL (0 :: b)) := by
  refine CallsD.of Tryd.func57 rfl Tryd.ntmps57 (by simp) ?_; intro F hF h0 hT; simp only [List.zipIdx_cons, List.zipIdx_nil, List.map_cons, List.map_nil, Nat.zero_add, Nat.reduceAdd]
  refine Sm.seq ?_
  refine Sm.regionG hF rfl ?_
  refine SmG.v hF rfl rfl rfl (opV_assign rfl rfl) ?_
  refine SmG.nil ?_
  refine nextS_normal ?_
  refine Sm.seq ?_
  refine Sm.regionG hF rfl ?_
  refine SmG.v hF rfl rfl rfl (opV_buildSlice rfl rfl (by simp (disch := omega) only [go_sem, Nat.reduceEqDiff, iteP, bytesL, rowB, byteD] <;> rfl)) ?_
  refine SmG.v hF rfl rfl rfl (opV_move rfl rfl) ?_
  refine SmG.append hF elU8 rfl rfl rfl rfl rfl rfl (Or.inl rfl) (Or.inl rfl) (by simp only [List.length_map, List.length_cons, List.length_nil]; omega) (by simp only [List.length_map, List.length_cons, List.length_nil]; omega) ?_
  refine SmG.v hF rfl rfl rfl (opV_assign rfl rfl) ?_
  refine SmG.nil ?_
  refine nextS_normal ?_
  refine Sm.ret ?_
  refine ⟨_, rfl, ?_⟩; dsimp only
  exact D.le.refl _
theorem pairBytes_D (a b : List UInt8) (ha : a.length = 32) (hb : b.length = 32) (G : Nat → Option D) : CallsD Tryd.prog G 58 [sumD a, sumD b] (bytesL (1 :: (a ++ b))) := by
  have h1 := row_split a
  have h2 := row_split b
  refine CallsD.of Tryd.func58 rfl Tryd.ntmps58 (by simp) ?_; intro F hF h0 hT; simp only [List.zipIdx_cons, List.zipIdx_nil, List.map_cons, List.map_nil, Nat.zero_add, Nat.reduceAdd]
  refine Sm.seq ?_
  refine Sm.regionG hF rfl ?_
  refine SmG.new hF rfl rfl rfl (opS_box rfl rfl (by simp (disch := omega) only [go_sem, Nat.reduceEqDiff, iteP, bytesL, rowB, byteD, sumD, ha, hb] <;> rfl)) ?_
  refine SmG.new hF rfl rfl rfl (opS_box rfl rfl (by simp (disch := omega) only [go_sem, Nat.reduceEqDiff, iteP, bytesL, rowB, byteD, sumD, ha, hb] <;> rfl)) ?_
  refine SmG.v hF rfl rfl rfl (opV_assign rfl rfl) ?_
  refine SmG.nil ?_
  refine nextS_normal ?_
  refine Sm.seq ?_
  refine Sm.regionG hF rfl ?_
  refine SmG.v hF rfl rfl rfl (opV_buildSlice rfl rfl (by simp (disch := omega) only [go_sem, Nat.reduceEqDiff, iteP, bytesL, rowB, byteD, sumD, ha, hb] <;> rfl)) ?_
  refine SmG.v hF rfl rfl rfl (opV_slice rfl rfl rfl rfl rfl (by simp (disch := omega) only [go_sem, Nat.reduceEqDiff, iteP, bytesL, rowB, byteD, sumD, ha, hb] <;> rfl)) ?_
  refine SmG.freeze (l := 0) (sz := 32) [rowS a] rfl ?_
  simp only [Pk.v, frzE, frzV, dropH,  reduceIte, Nat.reduceAdd, Nat.zero_add, List.length_map, List.length_append, Nat.le_refl, true_and, and_self, if_true, Nat.reduceEqDiff, List.getElem?_cons_zero, Nat.mul_one, Nat.one_mul, Nat.reduceLeDiff, Nat.reduceMul, h1, Nat.zero_ne_one, one_ne_zero']
  refine SmG.appendNew hF elU8 rfl rfl rfl rfl rfl rfl (Or.inl rfl) rfl (map_ne [] (by omega)) (by simp only [List.length_map, List.length_cons, List.length_nil]; omega) (by simp only [List.length_map, List.length_cons, List.length_nil]; omega) ?_
  refine SmG.v hF rfl rfl rfl (opV_assign rfl rfl) ?_
  refine SmG.nil ?_
  refine nextS_normal ?_
  refine Sm.seq ?_
  refine Sm.regionG hF rfl ?_
  refine SmG.v hF rfl rfl rfl (opV_move rfl rfl) ?_
  refine SmG.v hF rfl rfl rfl (opV_slice rfl rfl rfl rfl rfl (by simp (disch := omega) only [go_sem, Nat.reduceEqDiff, iteP, bytesL, rowB, byteD, sumD, ha, hb] <;> rfl)) ?_
  refine SmG.freeze (l := 1) (sz := 32) [rowS b] rfl ?_
  simp only [Pk.v, frzE, frzV, dropH,  reduceIte, Nat.reduceAdd, Nat.zero_add, List.length_map, List.length_append, Nat.le_refl, true_and, and_self, if_true, Nat.reduceEqDiff, List.getElem?_cons_zero, Nat.mul_one, Nat.one_mul, Nat.reduceLeDiff, Nat.reduceMul, h2]
  refine SmG.appendOwn hF elU8 rfl rfl rfl rfl rfl rfl rfl (by first | rfl | (simp; done) | (simp; omega)) (Or.inl rfl) (by (repeat' first | exact freeH_nil _ | refine freeH_same ?_ | refine freeH_cons ?_ (free_dB _ _ _) | refine freeH_cons ?_ (free_dB _ _ [_]) | refine freeH_cons ?_ (free_row (by rfl)))) ?_ ?_ ?_; rotate_left; rotate_left; simp only [killV, Pk.v, V.free, rep, bne_self_eq_false, Nat.reduceAdd, Nat.reduceBNe, Nat.reduceBEq, Nat.reduceEqDiff, reduceIte, Bool.false_eq_true]
  rotate_left
  · simp only [List.length_map, List.length_append, List.length_cons, List.length_nil]; omega
  · simp only [List.length_map, List.length_append, List.length_cons, List.length_nil]; omega
  refine SmG.freeze (l := 2) (sz := 1) (List.map rowB (1 :: (a ++ b))) (by show some (dB 1 (([rowB 1] ++ List.map rowB a) ++ List.map rowB b)) = _; simp) ?_
  have e : 1 + a.length + b.length = a.length + b.length + 1 := by omega
  simp only [Pk.v, frzE, frzV, dropH,  reduceIte, Nat.reduceAdd, Nat.zero_add, List.length_map, List.length_append, Nat.le_refl, true_and, and_self, if_true, Nat.reduceEqDiff, List.length_cons, List.length_nil, e]
  refine SmG.v hF rfl rfl rfl (opV_assign rfl rfl) ?_
  refine SmG.nil ?_
  refine nextS_normal ?_
  refine Sm.ret ?_
  refine ⟨_, rfl, ?_⟩; dsimp only
  exact D.le.refl _
theorem refLeaf_D (b : List UInt8) (hb : b.length ≤ 900000) (G : Nat → Option D) : CallsD Tryd.prog G 43 [bytesL b] (sumD (Sha.leaf b)) := by
  have hl := Sha.leaf_len b
  have hS : Sha.sum (0 :: b) = Sha.leaf b := rfl
  generalize Sha.leaf b = s at hl hS ⊢
  refine CallsD.of Tryd.func43 rfl Tryd.ntmps43 (by simp) ?_; intro F hF h0 hT; simp only [List.zipIdx_cons, List.zipIdx_nil, List.map_cons, List.map_nil, Nat.zero_add, Nat.reduceAdd]
  refine Sm.seq ?_
  refine Sm.regionG hF rfl ?_
  refine SmG.new hF rfl rfl rfl (opS_alloc rfl al39) ?_
  refine SmG.nil ?_
  refine nextS_normal ?_
  refine Sm.seq ?_
  refine Sm.regionG hF rfl ?_
  refine SmG.v hF rfl rfl rfl (opV_move rfl rfl) ?_
  refine SmG.call hF rfl rfl (by kernel_rfl) rfl rfl rfl (leafBytes_D b hb G) ?_
  refine SmG.call hF rfl rfl (by kernel_rfl) rfl rfl rfl (refSum_D (0 :: b) (by simp; omega) G) ?_
  refine SmG.store hF rfl rfl rfl rfl rfl (by simp (disch := omega) only [go_sem, Nat.reduceEqDiff, iteP, sumD, sumD_length, hl, hS] <;> rfl) ?_
  refine SmG.nil ?_
  refine nextS_normal ?_
  refine Sm.ret ?_
  refine retQ_cell rfl rfl (by simp (disch := omega) only [go_sem, Nat.reduceEqDiff, iteP, sumD_length, hl, hS] <;> rfl) ?_
  exact D.le.refl _
theorem refPair_D (a b : List UInt8) (ha : a.length = 32) (hb : b.length = 32) (G : Nat → Option D) : CallsD Tryd.prog G 45 [sumD a, sumD b] (sumD (Sha.pair a b)) := by
  have hl := Sha.pair_len a b
  have hS : Sha.sum (1 :: (a ++ b)) = Sha.pair a b := rfl
  generalize Sha.pair a b = s at hl hS ⊢
  refine CallsD.of Tryd.func45 rfl Tryd.ntmps45 (by simp) ?_; intro F hF h0 hT; simp only [List.zipIdx_cons, List.zipIdx_nil, List.map_cons, List.map_nil, Nat.zero_add, Nat.reduceAdd]
  refine Sm.seq ?_
  refine Sm.regionG hF rfl ?_
  refine SmG.new hF rfl rfl rfl (opS_box rfl rfl (by simp (disch := omega) only [go_sem, Nat.reduceEqDiff, iteP, sumD, sumD_length, ha, hb, hl, hS] <;> rfl)) ?_
  refine SmG.new hF rfl rfl rfl (opS_box rfl rfl (by simp (disch := omega) only [go_sem, Nat.reduceEqDiff, iteP, sumD, sumD_length, ha, hb, hl, hS] <;> rfl)) ?_
  refine SmG.new hF rfl rfl rfl (opS_alloc rfl al39) ?_
  refine SmG.nil ?_
  refine nextS_normal ?_
  refine Sm.seq ?_
  refine Sm.regionG hF rfl ?_
  refine SmG.v hF rfl rfl rfl (opV_load rfl rfl (by simp (disch := omega) only [go_sem, Nat.reduceEqDiff, iteP, sumD, sumD_length, ha, hb, hl, hS] <;> rfl)) ?_
  refine SmG.v hF rfl rfl rfl (opV_load rfl rfl (by simp (disch := omega) only [go_sem, Nat.reduceEqDiff, iteP, sumD, sumD_length, ha, hb, hl, hS] <;> rfl)) ?_
  refine SmG.call hF rfl rfl (by kernel_rfl) rfl rfl rfl (pairBytes_D a b ha hb G) ?_
  refine SmG.call hF rfl rfl (by kernel_rfl) rfl rfl rfl (refSum_D (1 :: (a ++ b)) (by simp; omega) G) ?_
  refine SmG.store hF rfl rfl rfl rfl rfl (by simp (disch := omega) only [go_sem, Nat.reduceEqDiff, iteP, sumD, sumD_length, ha, hb, hl, hS] <;> rfl) ?_
  refine SmG.nil ?_
  refine nextS_normal ?_
  refine Sm.ret ?_
  refine retQ_cell rfl rfl (by simp (disch := omega) only [go_sem, Nat.reduceEqDiff, iteP, sumD_length, hl, hS] <;> rfl) ?_
  exact D.le.refl _
theorem refSumNil_D (G : Nat → Option D) : CallsD Tryd.prog G 42 [.list 0 [] true] (sumD (Sha.sum [])) := (refSum_D [] (by simp) G).args fun _ => outs_le nil_bytes (outs_same [])
theorem refRoot_D (G : Nat → Option D) : ∀ (n : Nat) (l : List (List UInt8)), l.length = n → Fit l → CallsD Tryd.prog G 34 [elemsL l] (sumD (Sha.root l)) := by
  intro n
  induction n using Nat.strongRecOn with
  | _ n ih =>
  intro l hn hF'
  have hRl := Sha.root_len l
  have hfl := hF'.1
  by_cases h2 : 2 ≤ l.length
  · have hm1 := Sha.cut_lt h2
    have hmp := Sha.cut_pos l.length
    have k0 := cut_D l.length h2 (by omega) G
    have k1 := ih (Sha.cut l.length) (by omega) (l.take (Sha.cut l.length)) (by rw [List.length_take]; omega) (fit_take hF' _)
    have k2 := ih (l.length - Sha.cut l.length) (by omega) (l.drop (Sha.cut l.length)) (by rw [List.length_drop]) (fit_drop hF' _)
    have k4 := refPair_D _ _ (Sha.root_len (l.take (Sha.cut l.length))) (Sha.root_len (l.drop (Sha.cut l.length))) G
    rw [← Sha.root_cut h2] at k4
    generalize Sha.root (l.take (Sha.cut l.length)) = A at k1 k4
    generalize Sha.root (l.drop (Sha.cut l.length)) = B at k2 k4
    generalize Sha.cut l.length = m at hm1 hmp k0 k1 k2
    generalize Sha.root l = R at k4 hRl ⊢
    have hml : m ≤ l.length := by omega
    refine CallsD.of Tryd.func34 rfl Tryd.ntmps34 (by simp) ?_; intro F hF h0 hT; simp only [List.zipIdx_cons, List.zipIdx_nil, List.map_cons, List.map_nil, Nat.zero_add, Nat.reduceAdd]
    refine Sm.seq ?_
    refine Sm.regionG hF rfl ?_
    refine SmG.new hF rfl rfl rfl (opS_alloc rfl al39) ?_
    refine SmG.nil ?_
    refine nextS_normal ?_
    refine Sm.seq ?_
    refine Sm.seq ?_
    refine Sm.regionG hF rfl ?_
    refine SmG.v hF rfl rfl rfl (opV_move rfl rfl) ?_
    refine SmG.v hF rfl rfl rfl (opV_len rfl rfl (by simp (disch := omega) only [go_sem, Nat.reduceEqDiff, iteP, elemsL, sumD, sumD_length, hRl, hml, Nat.zero_le, take_map', drop_map'] <;> rfl)) ?_
    refine SmG.v hF rfl rfl rfl (opV_bin rfl rfl rfl (by first | exact rd_eqlT _ _ _ _ _ (by omega) | exact rd_eqlF _ _ _ _ _ (by omega) | exact rb_eql _ _ _ _ _ _ _)) ?_
    refine SmG.nil ?_
    refine nextS_normal ?_
    refine Sm.condF hF rfl ?_
    refine Sm.skip ?_
    refine nextS_normal ?_
    refine Sm.seq ?_
    refine Sm.seq ?_
    refine Sm.regionG hF rfl ?_
    refine SmG.v hF rfl rfl rfl (opV_move rfl rfl) ?_
    refine SmG.v hF rfl rfl rfl (opV_len rfl rfl (by simp (disch := omega) only [go_sem, Nat.reduceEqDiff, iteP, elemsL, sumD, sumD_length, hRl, hml, Nat.zero_le, take_map', drop_map'] <;> rfl)) ?_
    refine SmG.v hF rfl rfl rfl (opV_bin rfl rfl rfl (by first | exact rd_eqlT _ _ _ _ _ (by omega) | exact rd_eqlF _ _ _ _ _ (by omega) | exact rb_eql _ _ _ _ _ _ _)) ?_
    refine SmG.nil ?_
    refine nextS_normal ?_
    refine Sm.condF hF rfl ?_
    refine Sm.skip ?_
    refine nextS_normal ?_
    refine Sm.seq ?_
    refine Sm.regionG hF rfl ?_
    refine SmG.v hF rfl rfl rfl (opV_move rfl rfl) ?_
    refine SmG.v hF rfl rfl rfl (opV_len rfl rfl (by simp (disch := omega) only [go_sem, Nat.reduceEqDiff, iteP, elemsL, sumD, sumD_length, hRl, hml, Nat.zero_le, take_map', drop_map'] <;> rfl)) ?_
    refine SmG.call hF rfl rfl (by kernel_rfl) rfl rfl rfl (k0) ?_
    refine SmG.v hF rfl rfl rfl (opV_assign rfl rfl) ?_
    refine SmG.nil ?_
    refine nextS_normal ?_
    refine Sm.seq ?_
    refine Sm.drawG hF (by kernel_rfl) rfl 9 (by kernel_rfl) (by kernel_rfl) ?_
    simp only [List.take_succ_cons, List.take_zero, List.take_nil]
    refine Head.v hF rfl rfl rfl (opV_move rfl rfl) ?_
    refine Head.v hF rfl rfl rfl (opV_move rfl rfl) ?_
    refine Head.v hF rfl rfl rfl (opV_slice rfl rfl rfl rfl rfl (by simp (disch := omega) only [go_sem, Nat.reduceEqDiff, iteP, elemsL, sumD, sumD_length, hRl, hml, Nat.zero_le, take_map', drop_map'] <;> rfl)) ?_
    refine Head.c hF rfl rfl (by kernel_rfl) rfl rfl rfl (k1) ?_
    refine Head.v hF rfl rfl rfl (opV_move rfl rfl) ?_
    refine Head.v hF rfl rfl rfl (opV_move rfl rfl) ?_
    refine Head.v hF rfl rfl rfl (opV_slice rfl rfl rfl rfl rfl (by simp (disch := omega) only [go_sem, Nat.reduceEqDiff, iteP, elemsL, sumD, sumD_length, hRl, hml, Nat.zero_le, take_map', drop_map'] <;> rfl)) ?_
    refine Head.c hF rfl rfl (by kernel_rfl) rfl rfl rfl (k2) ?_
    refine Head.c hF rfl rfl (by kernel_rfl) rfl rfl rfl (k4) ?_
    refine Head.last ⟨rfl, ?_⟩
    simp only [List.drop_succ_cons, List.drop_zero, List.drop_nil, List.nil_append, List.cons_append]
    refine SmG.store hF rfl rfl rfl rfl rfl (by simp (disch := omega) only [go_sem, Nat.reduceEqDiff, iteP, elemsL, sumD, sumD_length, hRl, hml, Nat.zero_le, take_map', drop_map'] <;> rfl) ?_
    refine SmG.nil ?_
    refine nextS_normal ?_
    refine Sm.ret ?_
    refine retQ_cell rfl rfl (by simp (disch := omega) only [go_sem, Nat.reduceEqDiff, iteP, sumD_length, hRl] <;> rfl) ?_
    exact D.le.refl _
  · rcases l with _ | ⟨b, _ | ⟨c, l⟩⟩
    · rw [Sha.root_nil] at hRl ⊢
      have k1 := refSumNil_D G
      generalize Sha.sum [] = R at k1 hRl ⊢
      refine CallsD.of Tryd.func34 rfl Tryd.ntmps34 (by simp) ?_; intro F hF h0 hT; simp only [List.zipIdx_cons, List.zipIdx_nil, List.map_cons, List.map_nil, Nat.zero_add, Nat.reduceAdd]
      refine Sm.seq ?_
      refine Sm.regionG hF rfl ?_
      refine SmG.new hF rfl rfl rfl (opS_alloc rfl al39) ?_
      refine SmG.nil ?_
      refine nextS_normal ?_
      refine Sm.seq ?_
      refine Sm.seq ?_
      refine Sm.regionG hF rfl ?_
      refine SmG.v hF rfl rfl rfl (opV_move rfl rfl) ?_
      refine SmG.v hF rfl rfl rfl (opV_len rfl rfl (by simp (disch := omega) only [go_sem, Nat.reduceEqDiff, iteP, elemsL, sumD, sumD_length, hRl] <;> rfl)) ?_
      refine SmG.v hF rfl rfl rfl (opV_bin rfl rfl rfl (by first | exact rd_eqlT _ _ _ _ _ (by omega) | exact rd_eqlF _ _ _ _ _ (by omega) | exact rb_eql _ _ _ _ _ _ _)) ?_
      refine SmG.nil ?_
      refine nextS_normal ?_
      refine Sm.condT hF rfl ?_
      refine Sm.seq ?_
      refine Sm.regionG hF rfl ?_
      refine SmG.call hF rfl rfl (by kernel_rfl) rfl rfl rfl (k1) ?_
      refine SmG.store hF rfl rfl rfl rfl rfl (by simp (disch := omega) only [go_sem, Nat.reduceEqDiff, iteP, elemsL, sumD, sumD_length, hRl] <;> rfl) ?_
      refine SmG.nil ?_
      refine nextS_normal ?_
      refine Sm.ret ?_
      simp only [nextS, blockS]
      refine retQ_cell rfl rfl (by simp (disch := omega) only [go_sem, Nat.reduceEqDiff, iteP, sumD_length, hRl] <;> rfl) ?_
      exact D.le.refl _
    · rw [Sha.root_one] at hRl ⊢
      have k1 := refLeaf_D b (hF'.2 b (by simp)) G
      generalize Sha.leaf b = R at k1 hRl ⊢
      refine CallsD.of Tryd.func34 rfl Tryd.ntmps34 (by simp) ?_; intro F hF h0 hT; simp only [List.zipIdx_cons, List.zipIdx_nil, List.map_cons, List.map_nil, Nat.zero_add, Nat.reduceAdd]
      refine Sm.seq ?_
      refine Sm.regionG hF rfl ?_
      refine SmG.new hF rfl rfl rfl (opS_alloc rfl al39) ?_
      refine SmG.nil ?_
      refine nextS_normal ?_
      refine Sm.seq ?_
      refine Sm.seq ?_
      refine Sm.regionG hF rfl ?_
      refine SmG.v hF rfl rfl rfl (opV_move rfl rfl) ?_
      refine SmG.v hF rfl rfl rfl (opV_len rfl rfl (by simp (disch := omega) only [go_sem, Nat.reduceEqDiff, iteP, elemsL, rowE, bytesL, sumD, sumD_length, hRl] <;> rfl)) ?_
      refine SmG.v hF rfl rfl rfl (opV_bin rfl rfl rfl (by first | exact rd_eqlT _ _ _ _ _ (by omega) | exact rd_eqlF _ _ _ _ _ (by omega) | exact rb_eql _ _ _ _ _ _ _)) ?_
      refine SmG.nil ?_
      refine nextS_normal ?_
      refine Sm.condF hF rfl ?_
      refine Sm.skip ?_
      refine nextS_normal ?_
      refine Sm.seq ?_
      refine Sm.seq ?_
      refine Sm.regionG hF rfl ?_
      refine SmG.v hF rfl rfl rfl (opV_move rfl rfl) ?_
      refine SmG.v hF rfl rfl rfl (opV_len rfl rfl (by simp (disch := omega) only [go_sem, Nat.reduceEqDiff, iteP, elemsL, rowE, bytesL, sumD, sumD_length, hRl] <;> rfl)) ?_
      refine SmG.v hF rfl rfl rfl (opV_bin rfl rfl rfl (by first | exact rd_eqlT _ _ _ _ _ (by omega) | exact rd_eqlF _ _ _ _ _ (by omega) | exact rb_eql _ _ _ _ _ _ _)) ?_
      refine SmG.nil ?_
      refine nextS_normal ?_
      refine Sm.condT hF rfl ?_
      refine Sm.seq ?_
      refine Sm.regionG hF rfl ?_
      refine SmG.v hF rfl rfl rfl (opV_move rfl rfl) ?_
      refine SmG.v hF rfl rfl rfl (opV_indexAddr rfl rfl rfl (by simp (disch := omega) only [go_sem, Nat.reduceEqDiff, iteP, elemsL, rowE, bytesL, sumD, sumD_length, hRl] <;> rfl)) ?_
      refine SmG.v hF rfl rfl rfl (opV_load rfl rfl (by simp (disch := omega) only [go_sem, Nat.reduceEqDiff, iteP, elemsL, rowE, bytesL, sumD, sumD_length, hRl] <;> rfl)) ?_
      refine SmG.call hF rfl rfl (by kernel_rfl) rfl rfl rfl (k1) ?_
      refine SmG.store hF rfl rfl rfl rfl rfl (by simp (disch := omega) only [go_sem, Nat.reduceEqDiff, iteP, elemsL, rowE, bytesL, sumD, sumD_length, hRl] <;> rfl) ?_
      refine SmG.nil ?_
      refine nextS_normal ?_
      refine Sm.ret ?_
      simp only [nextS, blockS]
      refine retQ_cell rfl rfl (by simp (disch := omega) only [go_sem, Nat.reduceEqDiff, iteP, sumD_length, hRl] <;> rfl) ?_
      exact D.le.refl _
    · simp at h2
end Go.Proofs.YtagfaaijgfigkaaDoor
namespace Go.Proofs.YtagfaaijgfigkaaDoor
open Go.RowKit
section
variable {P : Program} {o : Oper} {a : Act} {w : World} {Q : Exit → Act → World → Prop}
theorem wp_callV {K : Act → World → Prop} (f : FuncId) (hcall : ∀ args w, (callFunc f args).run P w = .ok (.enter f args) w) (x : Operand) (xs : Array Operand) (ts : Array TypeId) (ho : o.op = .call ⟨.value x, xs, ts⟩) (us : List Value) (hx : a.eval x = .func (.func f) #[] us.toArray)
    (vs : List Value) (hv : xs.toList.map a.eval = vs) (h : Calls P f (vs ++ us).toArray w fun e w' => ∃ v, e = .returned v ∧ K (a.put o.dst v) w') : o.wp P a w K Q := by
  unfold Oper.wp
  have hv' : xs.map a.eval = vs.toArray := by rw [← hv, ← Array.toList_map]
  have : (execOp a.eval o).run P w = .ok (.enter f (vs ++ us).toArray) w := by
    have e : execOp a.eval o = callFunc f (#[] ++ xs.map a.eval ++ us.toArray) := by
      simp only [execOp, ho]
      show (do let d ← Deferred.ofValue (a.eval x) (xs.map a.eval); invoke d.target d.args : Sem Next) = _
      rw [hx]; rfl
    rw [e, hcall, hv']
    simp
  rw [this, Oper.upon_enter]
  refine h.mono ?_
  rintro e w' ⟨v, rfl, hK⟩
  exact hK
end
theorem outs_append {C : Facts} {ds es : List D} : ∀ {vs us : List Value}, Rp C (.outs ds vs) → Rp C (.outs es us) → Rp C (.outs (ds ++ es) (vs ++ us)) := by
  induction ds with
  | nil => intro vs us h k; cases h; exact k
  | cons d ds ih => intro vs us h k; cases h with | ocons _ v _ vs h1 h2 => exact .ocons d v _ _ h1 (ih h2 k)
section
variable {P : Program} {G : Nat → Option D} {N : Nat} {F : Fr} {ops : Array Oper} {rest : List Oper} {o : Oper} {Q : Exit → St → Prop} {st : St} {h0 : List (Nat × Blk)}
theorem SmL.callF (hF : Env F P G N) (hN : St.small N st) {f : FuncId} {x : Operand} {xs : Array Operand} {ts : Array TypeId} {t : Tmp} {ds caps : List D} {r : D} (hg : guardS ops st.env o.guard = some true) (ho : o.op = .call ⟨.value x, xs, ts⟩) (hd : o.dst = some t) (hb : hasBody P f = true)
    (hx : evD G st.env x = some (.d (.fn f caps))) (hargs : evArgs (evD G st.env) xs.toList = some ds) (ht : t < N) (hc : CallsD P G f (ds ++ caps) r)
    (k : SmL F ops rest Q { st with env := (t, .d r) :: st.env }) : SmL F ops (o :: rest) Q st := by
  intro μ C a w hs
  obtain ⟨rfl, rfl, hG⟩ := hF
  have hev : ∀ x v, evD G st.env x = some v → RepV μ C v (a.eval x) := fun x v h => evD_ok hs hG h
  refine wpS_step (fun _ => by rw [ho]; simp) fun K hK => ?_
  rw [guardS_ok hs hg hN, if_pos rfl]
  have hfv := hev x _ hx
  generalize hfx : a.eval x = fv at hfv
  cases hfv with
  | fn _ _ us hu =>
    refine wp_callV f (fun a w => hcall_of hb a w) x xs ts ho us hfx (xs.toList.map a.eval) rfl ?_
    refine (hc C w _ (hG.mono hs.sub) hs.known (outs_append (evArgs_ok hev hargs) hu)).mono ?_
    rintro e w' ⟨v, C', rfl, hm, hr⟩
    exact ⟨v, rfl, by rw [hd]; exact hK _ _ (k μ C' _ w' ((hs.more hm).put ht hr))⟩
theorem OpGives.callF (hF : Env F P G N) {env : List (Nat × V)} {f : FuncId} {x : Operand} {xs : Array Operand} {ts : Array TypeId} {ds caps : List D} {r : D} (ho : o.op = .call ⟨.value x, xs, ts⟩) (hb : hasBody P f = true)
    (hx : evD G env x = some (.d (.fn f caps))) (hargs : evArgs (evD G env) xs.toList = some ds) (hc : CallsD P G f (ds ++ caps) r) : OpGives F G h0 o env (.d r) := by
  intro μ C a w nx' hh hs hold hop K Q hK
  obtain ⟨rfl, rfl, hG⟩ := hF
  have hxs : ∀ y ∈ xs.toList, ∀ v, evD G env y = some v → RepV μ C v (a.eval y) := fun y hy v hv => hop y (by rw [ho]; simp [Op.operands, Call.operands]; exact .inr (by simpa using hy)) v hv
  have hfv : RepV μ C (.d (.fn f caps)) (a.eval x) := hop x (by rw [ho]; simp [Op.operands, Call.operands]) _ hx
  have hrep : ∀ {ys : List Operand} {es : List D}, (∀ y ∈ ys, ∀ v, evD G env y = some v → RepV μ C v (a.eval y)) → evArgs (evD G env) ys = some es → Rp C (.outs es (ys.map a.eval)) := by
    intro ys
    induction ys with
    | nil => intro es _ h; cases h; exact .onil
    | cons y ys ih =>
      intro es hy h
      simp only [evArgs, Option.bind_eq_some_iff] at h
      obtain ⟨v, hv, h⟩ := h
      split at h
      · rename_i d
        simp only [Option.map_eq_some_iff] at h
        obtain ⟨r, hr, rfl⟩ := h
        exact .ocons _ _ _ _ (hy y (by simp) _ hv) (ih (fun z hz => hy z (by simp [hz])) hr)
      · cases h
  generalize hfx : a.eval x = fv at hfv
  cases hfv with
  | fn _ _ us hu =>
    refine wp_callV f (fun a w => hcall_of hb a w) x xs ts ho us hfx (xs.toList.map a.eval) rfl ?_
    refine (hc C w _ (hG.mono hs.sub) hs.known (outs_append (hrep hxs hargs) hu)).mono ?_
    rintro e w' ⟨v, C', rfl, hm, hr⟩
    exact ⟨v, rfl, hK v w' C' hm hr⟩
end
section
variable {P : Program} {G : Nat → Option D} {N : Nat} {F : Fr} {ops rest : List Oper} {o : Oper} {Q : Exit → St → Prop} {env : List (Nat × V)} {h : List (Nat × Blk)} {nx : Nat} {al : List (Nat × Blk)} {K : List (Nat × V) → List (Nat × Blk) → Nat → Prop}
theorem SmG.callF (hF : Env F P G N) {f : FuncId} {x : Operand} {xs : List Operand} {ts : Array TypeId} {t : Tmp} {ds caps : List D} {r : D} (ho : o.op = .call ⟨.value x, xs.toArray, ts⟩) (hd : o.dst = some t) (ht : Nat.blt t N = true)
    (hg : guardB ops env o.guard = some true) (hx : evB G env x = some (.d (.fn f caps))) (hargs : evArgs (evB G env) xs = some ds) (hb : hasBody P f = true) (hc : CallsD P G f (ds ++ caps) r)
    (k : SmG F N ops rest Q ⟨(t, .d r) :: env, h, nx⟩) : SmG F N ops (o :: rest) Q ⟨env, h, nx⟩ := by
  have ht' : t < N := by simpa [Nat.blt_eq] using ht
  intro hs
  rw [evB_eq] at hx
  exact SmL.callF hF hs (guardB_ok hg) ho hd hb hx (evArgs_B (by simpa using hargs)) ht' hc (k (small_put hs ht'))
theorem Head.cf (hF : Env F P G N) {f : FuncId} {x : Operand} {xs : List Operand} {ts : Array TypeId} {t : Tmp} {ds caps : List D} {r : D} (ho : o.op = .call ⟨.value x, xs.toArray, ts⟩) (hd : o.dst = some t) (ht : Nat.blt t N = true)
    (hg : guardB ops env o.guard = some true) (hx : evB G env x = some (.d (.fn f caps))) (hargs : evArgs (evB G env) xs = some ds) (hb : hasBody P f = true) (hc : CallsD P G f (ds ++ caps) r)
    (k : Head F G N ops.toArray h rest ((t, .d r) :: env) al nx K) : Head F G N ops.toArray h (o :: rest) env al nx K := by
  rw [evB_eq] at hx
  exact .inl ⟨t, hd, by simpa [Nat.blt_eq] using ht, .inl ⟨_, .inl ⟨guardB_ok hg, .callF hF ho hb hx (evArgs_B (by simpa using hargs)) hc⟩, k⟩⟩
theorem opV_makeFunc {f : FuncId} {caps : List Operand} {ds : List D} (ho : o.op = .makeFunc (.func f) #[] caps.toArray) (hx : evArgs (evB G env) caps = some ds) : opV P (evD G env) h o = some (.d (.fn f ds)) := by
  have := evArgs_B hx
  simp [opV, ho, this]
end
end Go.Proofs.YtagfaaijgfigkaaDoor
namespace Go.Proofs.YtagfaaijgfigkaaDoor
open Go.RowKit
set_option maxRecDepth 100000
structure Res where
  out : Int
  n : Int
  deriving DecidableEq
def Res.row (r : Res) : List D := [.v (.int .i64 r.out), .v (.int .i64 r.n)]
def resD (r : Res) : D := .agg 2 r.row
def ressL (l : List Res) : D := .list 2 (l.map Res.row) false
structure Wk where
  kind : Int
  at_ : Int
  n : Int
  by_ : Res
def Wk.row (x : Wk) : List D := [.v (.int .i64 x.kind), .v (.int .i64 x.at_), .v (.int .i64 x.n), .v (.int .i64 x.by_.out), .v (.int .i64 x.by_.n)]
def wkD (x : Wk) : D := .agg 5 x.row
theorem elRes : ElemT Tryd.prog 27 34 (.agg #[.int .i64 0, .int .i64 0]) 2 16 := ⟨Tryd.underlying27, by kernel_rfl, rfl, by decide⟩
def lowByte (n : Int) : UInt8 := UInt8.ofNat (n % 256).toNat
def resBytes (r : Res) : List UInt8 := [lowByte r.out, lowByte (r.n / 16777216), lowByte (r.n / 65536), lowByte (r.n / 256), lowByte r.n]
theorem conv_low {P : Program} {s d : TypeId} {td : TypeDesc} {k2 : IntKind} (n : Int) (h1 : P.underlying s = some td) (h2 : P.underlying d = some (.int .u8)) : convS P s d (.d (.v (.int k2 n))) = some (.d (byteD (lowByte n))) := by
  simp only [convS, rc_int P .u8 n s d h1 h2 k2, Option.map_some, byteD, lowByte]
  have : IntKind.u8.wrap n = ((UInt8.ofNat (n % 256).toNat).toNat : Int) := by
    rw [IntKind.wrap_u8']
    rw [show (UInt8.ofNat (n % 256).toNat).toNat = (n % 256).toNat from by simp; omega]
    omega
  rw [this]
theorem rd_shrI (P : Program) (t : TypeId) (x y : Operand) (a : Int) (n : Nat) {b : Int} (k2 : IntKind) (hb : b = (n : Int)) (hn : n ≤ 64) : reck P (do eqGuard .shr t x y (.int .i64 a) (.int k2 b); binOp .shr t (.int .i64 a) (.int k2 b)) = some (.int .i64 (a / 2 ^ n)) := by
  rw [rb_shr P t x y .i64 a b k2 (by omega)]
  subst hb
  have : min ((n : Int).toNat) IntKind.i64.bits = n := by show min _ 64 = n; omega
  rw [this, Int.fdiv_eq_ediv_of_nonneg _ (Int.le_of_lt (Int.pow_pos (by omega)))]
theorem bytes_at (r : Res) (i : Nat) (h : i < 4) : (resBytes r).take (i + 1) ++ [lowByte (r.n / 2 ^ (24 - 8 * i))] = (resBytes r).take (i + 2) := by
  rcases i with _ | _ | _ | _ | i
  · rfl
  · rfl
  · rfl
  · show _ ++ [lowByte (r.n / 1)] = _
    rw [Int.ediv_one]; rfl
  · omega
theorem workBytes_D (r : Res) (G : Nat → Option D) : CallsD Tryd.prog G 24 [resD r] (bytesL (resBytes r)) := by
  refine CallsD.of Tryd.func24 rfl Tryd.ntmps24 (by simp) ?_; intro F hF h0 hT; simp only [List.zipIdx_cons, List.zipIdx_nil, List.map_cons, List.map_nil, Nat.zero_add, Nat.reduceAdd]
  refine Sm.seq ?_
  refine Sm.regionG hF rfl ?_
  refine SmG.new hF rfl rfl rfl (opS_box rfl rfl (by simp (disch := omega) only [go_sem, Nat.reduceEqDiff, iteP, resD, Res.row, rowB, bytesL] <;> rfl)) ?_
  refine SmG.v hF rfl rfl rfl (opV_assign rfl rfl) ?_
  refine SmG.nil ?_
  refine nextS_normal ?_
  refine Sm.seq ?_
  refine Sm.regionG hF rfl ?_
  refine SmG.v hF rfl rfl rfl (opV_fieldAddr rfl rfl (by simp (disch := omega) only [go_sem, Nat.reduceEqDiff, iteP, resD, Res.row, rowB, bytesL] <;> rfl)) ?_
  refine SmG.v hF rfl rfl rfl (opV_load rfl rfl (by simp (disch := omega) only [go_sem, Nat.reduceEqDiff, iteP, resD, Res.row, rowB, bytesL] <;> rfl)) ?_
  refine SmG.v hF rfl rfl rfl (opV_conv rfl rfl (conv_low _ Tryd.underlying3 Tryd.underlying5)) ?_
  refine SmG.buildOwn hF rfl rfl rfl rfl rfl (by simp (disch := omega) only [go_sem, Nat.reduceEqDiff, iteP, resD, Res.row, rowB, bytesL] <;> rfl) (by simp) ?_
  refine SmG.v hF rfl rfl rfl (opV_assign rfl rfl) ?_
  refine SmG.nil ?_
  refine nextS_normal ?_
  refine Sm.seq ?_
  refine Sm.seq ?_
  refine Sm.regionG hF rfl ?_
  refine SmG.v hF rfl rfl rfl (opV_assign rfl rfl) ?_
  refine SmG.nil ?_
  refine nextS_normal ?_
  refine Sm.block ?_
  refine Sm.loop (ι := {i : Nat // i ≤ 4}) (fun i => ⟨[(1, .ref 0 0 0), (3, .sref 1 0 (((resBytes r).take (i.1 + 1)).map rowB).length), (4, .d (.v (.int .i64 (24 - 8 * (i.1 : Int)))))], [(1, dB 1 (((resBytes r).take (i.1 + 1)).map rowB)), (0, dB 2 [r.row])], 2⟩) (fun i => 4 - i.1) (⟨0, by omega⟩) ?_ ?_
  · exact St.le_of (by simp [leE, look, constD, resBytes]) ⟨rfl, rfl, trivial⟩ (Nat.le_refl _)
  have hl5 : (resBytes r).length = 5 := rfl
  rintro ⟨i, hi⟩
  simp only
  have hlen : ((resBytes r).take (i + 1)).length = i + 1 := by rw [List.length_take]; simp [resBytes]; omega
  by_cases hlt : i < 4
  · have hrow : List.map rowB ((resBytes r).take (i + 1)) ++ [[D.v (.int .u8 ((lowByte (r.n / 2 ^ (24 - 8 * i))).toNat : Int))]] = List.map rowB ((resBytes r).take (i + 1 + 1)) := by
      show _ ++ [[byteD _]] = _
      rw [rowB_one, bytes_at r i hlt]
    refine Sm.seq ?_
    refine Sm.seq ?_
    refine Sm.regionG hF rfl ?_
    refine SmG.v hF rfl rfl rfl (opV_move rfl rfl) ?_
    refine SmG.v hF rfl rfl rfl (opV_bin rfl rfl rfl (by first | exact rd_geqT _ _ _ _ _ (by omega) | exact rd_geqF _ _ _ _ _ (by omega) | exact rb_geq _ _ _ _ _ _ _)) ?_
    refine SmG.nil ?_
    refine nextS_normal ?_
    refine Sm.condT hF rfl ?_
    refine Sm.skip ?_
    refine nextS_normal ?_
    refine Sm.seq ?_
    refine Sm.block ?_
    refine Sm.regionG hF rfl ?_
    refine SmG.v hF rfl rfl rfl (opV_move rfl rfl) ?_
    refine SmG.v hF rfl rfl rfl (opV_fieldAddr rfl rfl (by simp (disch := omega) only [go_sem, Nat.reduceEqDiff, iteP, Res.row, rowB] <;> rfl)) ?_
    refine SmG.v hF rfl rfl rfl (opV_load rfl rfl (by simp (disch := omega) only [go_sem, Nat.reduceEqDiff, iteP, Res.row, rowB] <;> rfl)) ?_
    refine SmG.v hF rfl rfl rfl (opV_move rfl rfl) ?_
    refine SmG.v hF rfl rfl rfl (opV_bin rfl rfl rfl (rd_shrI _ _ _ _ _ (24 - 8 * i) _ (by omega) (by omega))) ?_
    refine SmG.v hF rfl rfl rfl (opV_conv rfl rfl (conv_low _ Tryd.underlying3 Tryd.underlying5)) ?_
    refine SmG.v hF rfl rfl rfl (opV_buildSlice rfl rfl (by simp (disch := omega) only [go_sem, Nat.reduceEqDiff, iteP, Res.row, rowB] <;> rfl)) ?_
    refine SmG.appendOwn hF elU8 rfl rfl rfl rfl rfl rfl rfl (by first | rfl | (simp; done) | (simp; omega)) (Or.inl rfl) (by (repeat' first | exact freeH_nil _ | refine freeH_same ?_ | refine freeH_cons ?_ (free_dB _ _ _) | refine freeH_cons ?_ (free_dB _ _ [_]) | refine freeH_cons ?_ (free_row (by rfl)))) ?_ ?_ ?_; rotate_left; rotate_left; simp only [killV, Pk.v, V.free, rep, bne_self_eq_false, Nat.reduceAdd, Nat.reduceBNe, Nat.reduceBEq, Nat.reduceEqDiff, reduceIte, Bool.false_eq_true]
    rotate_left
    · simp only [List.length_map, List.length_cons, List.length_nil]; omega
    · simp only [List.length_map, List.length_cons, List.length_nil]; omega
    refine SmG.v hF rfl rfl rfl (opV_assign rfl rfl) ?_
    refine SmG.nil ?_
    refine blockS_normal ?_
    refine nextS_normal ?_
    refine Sm.regionG hF rfl ?_
    refine SmG.v hF rfl rfl rfl (opV_move rfl rfl) ?_
    refine SmG.v hF rfl rfl rfl (opV_bin rfl rfl rfl (by first | exact rd_sub _ _ _ _ _ (wrapI64 _ (by omega)) | exact rb_sub _ _ _ _ _ _ _)) ?_
    refine SmG.v hF rfl rfl rfl (opV_assign rfl rfl) ?_
    refine SmG.nil ?_
    refine nextS_normal ?_
    exact ⟨⟨i + 1, by omega⟩, by show 4 - (i + 1) < 4 - i; omega, by exact St.le_of (by first | (simp [leE, look, constD] <;> omega) | (simp [leE, look, constD, hrow] <;> omega)) (by simp only [leH, look, rep, reduceIte, Nat.reduceEqDiff, List.set_cons_zero, List.set_cons_succ, hrow, and_self, and_true, and_false, false_and, if_true, if_false] <;> (repeat' first | rfl | constructor)) (by first | exact Nat.le_refl _ | (dsimp only; omega))⟩
  · obtain rfl : i = 4 := by omega
    refine Sm.seq ?_
    refine Sm.seq ?_
    refine Sm.regionG hF rfl ?_
    refine SmG.v hF rfl rfl rfl (opV_move rfl rfl) ?_
    refine SmG.v hF rfl rfl rfl (opV_bin rfl rfl rfl (by first | exact rd_geqT _ _ _ _ _ (by omega) | exact rd_geqF _ _ _ _ _ (by omega) | exact rb_geq _ _ _ _ _ _ _)) ?_
    refine SmG.nil ?_
    refine nextS_normal ?_
    refine Sm.condF hF rfl ?_
    refine Sm.freeze (l := 1) _ rfl ?_
    simp only [Pk.v, frzE, frzV, dropH,  reduceIte, Nat.reduceAdd, Nat.zero_add, List.length_map, List.length_append, Nat.le_refl, true_and, and_self, if_true, Nat.reduceEqDiff, true_and]
    refine Sm.exit ?_
    simp only [nextS, blockS, reduceIte, reduceCtorEq]
    refine Sm.seq ?_
    refine Sm.regionG hF rfl ?_
    refine SmG.v hF rfl rfl rfl (opV_move rfl rfl) ?_
    refine SmG.v hF rfl rfl rfl (opV_assign rfl rfl) ?_
    refine SmG.nil ?_
    refine nextS_normal ?_
    refine Sm.ret ?_
    refine ⟨_, rfl, ?_⟩; dsimp only
    exact D.le.refl _
end Go.Proofs.YtagfaaijgfigkaaDoor
namespace Go.Proofs.YtagfaaijgfigkaaDoor
open Go.RowKit
set_option maxRecDepth 100000
theorem lt_three (k : Blk) (sz sz' : Nat) (rows rows' : List (List D)) : ltH 2 [(2, k), (1, dB sz rows), (0, dB sz' rows')] := ltH_over (ltH_cons (ltH_cons (ltH_nil _) (lt_dB _ sz' rows')) (lt_dB _ sz rows)) (Nat.le_refl _)
theorem fit_bytes (l : List Res) (hl : l.length ≤ 1000000) : Fit (l.map resBytes) := ⟨by simpa using hl, fun x hx => by
  obtain ⟨r, _, rfl⟩ := List.mem_map.1 hx
  simp [resBytes]⟩
theorem workRoot_D (l : List Res) (hl : l.length ≤ 1000000) : CallsD Tryd.prog HG 22 [ressL l] (sumD (Sha.root (l.map resBytes))) := by
  have hR := root_D _ (fit_bytes l hl)
  have hRl := Sha.root_len (l.map resBytes)
  generalize Sha.root (l.map resBytes) = R at hR hRl ⊢
  refine CallsD.of Tryd.func22 rfl Tryd.ntmps22 (by simp) ?_; intro F hF h0 hT; simp only [List.zipIdx_cons, List.zipIdx_nil, List.map_cons, List.map_nil, Nat.zero_add, Nat.reduceAdd]
  refine Sm.seq ?_
  refine Sm.regionG hF rfl ?_
  refine SmG.new hF rfl rfl rfl (opS_alloc rfl al39) ?_
  refine SmG.nil ?_
  refine nextS_normal ?_
  refine Sm.seq ?_
  refine Sm.regionG hF rfl ?_
  refine SmG.v hF rfl rfl rfl (opV_assign rfl rfl) ?_
  refine SmG.nil ?_
  refine nextS_normal ?_
  refine Sm.seq ?_
  refine Sm.seq ?_
  refine Sm.regionG hF rfl ?_
  refine SmG.v hF rfl rfl rfl (opV_move rfl rfl) ?_
  refine SmG.v hF rfl rfl rfl (opV_len rfl rfl (by simp (disch := omega) only [go_sem, Nat.reduceEqDiff, iteP, ressL, Res.row, resD, rowE, bytesL] <;> rfl)) ?_
  refine SmG.v hF rfl rfl rfl (opV_move rfl rfl) ?_
  refine SmG.nil ?_
  refine nextS_normal ?_
  refine Sm.block ?_
  refine Sm.own (t := 3) (sz := 0) 1 rfl ?_
  refine Sm.loop (ι := {i : Nat // i ≤ l.length}) (fun i => ⟨[(2, .ref 0 0 0), (3, .sref 1 0 (((l.map resBytes).take i.1).map rowE).length), (6, .d (ressL l)), (7, .d (.v (.int .i64 l.length))), (8, .d (.v (.int .i64 i.1)))], [(1, dB 1 (((l.map resBytes).take i.1).map rowE)), (0, dB 32 [rowS (List.replicate 32 0)])], 2⟩) (fun i => l.length - i.1) (⟨0, by omega⟩) ?_ ?_
  · exact St.le_of (by simp [leE, look, constD, ressL]) ⟨rfl, rfl, trivial⟩ (Nat.le_refl _)
  rintro ⟨i, hi⟩
  simp only
  by_cases hlt : i < l.length
  · have hri : l[i]? = some l[i] := by simp
    have htk : (l.map resBytes).take (i + 1) = (l.map resBytes).take i ++ [resBytes l[i]] := by rw [List.take_succ_eq_append_getElem (by simpa using hlt)]; simp
    have hlen : ((l.map resBytes).take i).length = i := by rw [List.length_take, List.length_map]; omega
    generalize l[i] = r at hri htk
    have k1 := workBytes_D r HG
    have hrow := rowE_one ((l.map resBytes).take i) (resBytes r)
    rw [← htk] at hrow
    refine Sm.seq ?_
    refine Sm.regionG hF rfl ?_
    refine SmG.v hF rfl rfl rfl (opV_bin rfl rfl rfl (by first | exact rd_lssT _ _ _ _ _ (by omega) | exact rd_lssF _ _ _ _ _ (by omega) | exact rb_lss _ _ _ _ _ _ _)) ?_
    refine SmG.nil ?_
    refine nextS_normal ?_
    refine Sm.seq ?_
    refine Sm.condT hF rfl ?_
    refine Sm.skip ?_
    refine nextS_normal ?_
    refine Sm.seq ?_
    refine Sm.block ?_
    refine Sm.seq ?_
    refine Sm.regionG hF rfl ?_
    refine SmG.v hF rfl rfl rfl (opV_indexAddr rfl rfl rfl (by simp (disch := omega) only [go_sem, Nat.reduceEqDiff, iteP, ressL, hri, Res.row] <;> rfl)) ?_
    refine SmG.v hF rfl rfl rfl (opV_load rfl rfl (by simp (disch := omega) only [go_sem, Nat.reduceEqDiff, iteP, ressL, hri, Res.row] <;> rfl)) ?_
    refine SmG.new hF rfl rfl rfl (opS_alloc rfl al34) ?_
    refine SmG.store hF rfl rfl rfl rfl rfl (by simp (disch := omega) only [go_sem, Nat.reduceEqDiff, iteP, ressL, hri, Res.row] <;> rfl) ?_
    refine SmG.nil ?_
    refine nextS_normal ?_
    refine Sm.regionG hF rfl ?_
    refine SmG.v hF rfl rfl rfl (opV_move rfl rfl) ?_
    refine SmG.v hF rfl rfl rfl (opV_load rfl rfl (by simp (disch := omega) only [go_sem, Nat.reduceEqDiff, iteP, ressL, hri, Res.row] <;> rfl)) ?_
    refine SmG.call hF rfl rfl (by kernel_rfl) rfl rfl rfl (k1) ?_
    refine SmG.v hF rfl rfl rfl (opV_buildSlice rfl rfl (by simp (disch := omega) only [go_sem, Nat.reduceEqDiff, iteP, ressL, hri, Res.row] <;> rfl)) ?_
    refine SmG.appendOwn hF elBB rfl rfl rfl rfl rfl rfl rfl (by first | rfl | (simp; done) | (simp; omega)) (Or.inl rfl) (by (repeat' first | exact freeH_nil _ | refine freeH_same ?_ | refine freeH_cons ?_ (free_dB _ _ _) | refine freeH_cons ?_ (free_dB _ _ [_]) | refine freeH_cons ?_ (free_row (by rfl)))) ?_ ?_ ?_; rotate_left; rotate_left; simp only [killV, Pk.v, V.free, rep, bne_self_eq_false, Nat.reduceAdd, Nat.reduceBNe, Nat.reduceBEq, Nat.reduceEqDiff, reduceIte, Bool.false_eq_true]
    rotate_left
    · simp only [List.length_map, List.length_cons, List.length_nil]; omega
    · simp only [List.length_map, List.length_cons, List.length_nil]; omega
    rw [hrow]
    refine SmG.cut 2 (by exact lt_three _ _ _ _ [rowS (List.replicate 32 0)]) ?_; simp only [Pk.v, cutE, cutH, V.lt, Nat.reduceAdd, Nat.reduceLT, decide_true, decide_false, reduceIte, Bool.false_eq_true, Nat.lt_irrefl, Nat.not_lt_zero, Nat.zero_lt_one, Nat.zero_lt_succ, Nat.zero_lt_two, Nat.one_lt_two]
    refine SmG.v hF rfl rfl rfl (opV_assign rfl rfl) ?_
    refine SmG.nil ?_
    refine blockS_normal ?_
    refine nextS_normal ?_
    refine Sm.regionG hF rfl ?_
    refine SmG.v hF rfl rfl rfl (opV_bin rfl rfl rfl (by first | exact rd_add _ _ _ _ _ (wrapI64 _ (by omega)) | exact rb_add _ _ _ _ _ _ _)) ?_
    refine SmG.v hF rfl rfl rfl (opV_move rfl rfl) ?_
    refine SmG.nil ?_
    refine nextS_normal ?_
    exact ⟨⟨i + 1, by omega⟩, by show l.length - (i + 1) < l.length - i; omega, by exact St.le_of (by simp [leE, look, constD]) (by simp [leH, look, rep]) (by first | exact Nat.le_refl _ | (dsimp only; omega))⟩
  · have hall : (l.map resBytes).take i = l.map resBytes := List.take_of_length_le (by simp; omega)
    rw [hall]
    refine Sm.seq ?_
    refine Sm.regionG hF rfl ?_
    refine SmG.v hF rfl rfl rfl (opV_bin rfl rfl rfl (by first | exact rd_lssT _ _ _ _ _ (by omega) | exact rd_lssF _ _ _ _ _ (by omega) | exact rb_lss _ _ _ _ _ _ _)) ?_
    refine SmG.nil ?_
    refine nextS_normal ?_
    refine Sm.seq ?_
    refine Sm.condF hF rfl ?_
    refine Sm.freeze (l := 1) _ rfl ?_
    simp only [Pk.v, frzE, frzV, dropH,  reduceIte, Nat.reduceAdd, Nat.zero_add, List.length_map, List.length_append, Nat.le_refl, true_and, and_self, if_true, Nat.reduceEqDiff, true_and]
    refine Sm.exit ?_
    simp only [nextS, blockS, reduceIte, reduceCtorEq]
    refine Sm.seq ?_
    refine Sm.regionG hF rfl ?_
    refine SmG.v hF rfl rfl rfl (opV_move rfl rfl) ?_
    refine SmG.call hF rfl rfl (by kernel_rfl) rfl rfl rfl (hR) ?_
    refine SmG.store hF rfl rfl rfl rfl rfl (by simp (disch := omega) only [go_sem, Nat.reduceEqDiff, iteP, sumD, sumD_length, hRl] <;> rfl) ?_
    refine SmG.nil ?_
    refine nextS_normal ?_
    refine Sm.ret ?_
    refine retQ_cell rfl rfl (by simp (disch := omega) only [go_sem, Nat.reduceEqDiff, iteP, sumD_length, hRl] <;> rfl) ?_
    exact D.le.refl _
theorem refBytes_D (r : Res) (G : Nat → Option D) : CallsD Tryd.prog G 25 [resD r] (bytesL (resBytes r)) := by
  refine CallsD.of Tryd.func25 rfl Tryd.ntmps25 (by simp) ?_; intro F hF h0 hT; simp only [List.zipIdx_cons, List.zipIdx_nil, List.map_cons, List.map_nil, Nat.zero_add, Nat.reduceAdd]
  refine Sm.seq ?_
  refine Sm.regionG hF rfl ?_
  refine SmG.new hF rfl rfl rfl (opS_box rfl rfl (by simp (disch := omega) only [go_sem, Nat.reduceEqDiff, iteP, Res.row, resD, rowB] <;> rfl)) ?_
  refine SmG.v hF rfl rfl rfl (opV_assign rfl rfl) ?_
  refine SmG.nil ?_
  refine nextS_normal ?_
  refine Sm.seq ?_
  refine Sm.regionG hF rfl ?_
  refine SmG.v hF rfl rfl rfl (opV_fieldAddr rfl rfl (by simp (disch := omega) only [go_sem, Nat.reduceEqDiff, iteP, Res.row, resD, rowB] <;> rfl)) ?_
  refine SmG.v hF rfl rfl rfl (opV_load rfl rfl (by simp (disch := omega) only [go_sem, Nat.reduceEqDiff, iteP, Res.row, resD, rowB] <;> rfl)) ?_
  refine SmG.v hF rfl rfl rfl (opV_conv rfl rfl (conv_low _ Tryd.underlying3 Tryd.underlying5)) ?_
  refine SmG.v hF rfl rfl rfl (opV_fieldAddr rfl rfl (by simp (disch := omega) only [go_sem, Nat.reduceEqDiff, iteP, Res.row, resD, rowB] <;> rfl)) ?_
  refine SmG.v hF rfl rfl rfl (opV_load rfl rfl (by simp (disch := omega) only [go_sem, Nat.reduceEqDiff, iteP, Res.row, resD, rowB] <;> rfl)) ?_
  refine SmG.v hF rfl rfl rfl (opV_bin rfl rfl rfl (rd_shrI _ _ _ _ _ 24 _ rfl (by omega))) ?_
  refine SmG.v hF rfl rfl rfl (opV_conv rfl rfl (conv_low _ Tryd.underlying3 Tryd.underlying5)) ?_
  refine SmG.v hF rfl rfl rfl (opV_fieldAddr rfl rfl (by simp (disch := omega) only [go_sem, Nat.reduceEqDiff, iteP, Res.row, resD, rowB] <;> rfl)) ?_
  refine SmG.v hF rfl rfl rfl (opV_load rfl rfl (by simp (disch := omega) only [go_sem, Nat.reduceEqDiff, iteP, Res.row, resD, rowB] <;> rfl)) ?_
  refine SmG.v hF rfl rfl rfl (opV_bin rfl rfl rfl (rd_shrI _ _ _ _ _ 16 _ rfl (by omega))) ?_
  refine SmG.v hF rfl rfl rfl (opV_conv rfl rfl (conv_low _ Tryd.underlying3 Tryd.underlying5)) ?_
  refine SmG.v hF rfl rfl rfl (opV_fieldAddr rfl rfl (by simp (disch := omega) only [go_sem, Nat.reduceEqDiff, iteP, Res.row, resD, rowB] <;> rfl)) ?_
  refine SmG.v hF rfl rfl rfl (opV_load rfl rfl (by simp (disch := omega) only [go_sem, Nat.reduceEqDiff, iteP, Res.row, resD, rowB] <;> rfl)) ?_
  refine SmG.v hF rfl rfl rfl (opV_bin rfl rfl rfl (rd_shrI _ _ _ _ _ 8 _ rfl (by omega))) ?_
  refine SmG.v hF rfl rfl rfl (opV_conv rfl rfl (conv_low _ Tryd.underlying3 Tryd.underlying5)) ?_
  refine SmG.v hF rfl rfl rfl (opV_fieldAddr rfl rfl (by simp (disch := omega) only [go_sem, Nat.reduceEqDiff, iteP, Res.row, resD, rowB] <;> rfl)) ?_
  refine SmG.v hF rfl rfl rfl (opV_load rfl rfl (by simp (disch := omega) only [go_sem, Nat.reduceEqDiff, iteP, Res.row, resD, rowB] <;> rfl)) ?_
  refine SmG.v hF rfl rfl rfl (opV_conv rfl rfl (conv_low _ Tryd.underlying3 Tryd.underlying5)) ?_
  refine SmG.v hF rfl rfl rfl (opV_buildSlice rfl rfl (by simp (disch := omega) only [go_sem, Nat.reduceEqDiff, iteP, Res.row, resD, rowB] <;> rfl)) ?_
  refine SmG.v hF rfl rfl rfl (opV_assign rfl rfl) ?_
  refine SmG.nil ?_
  refine nextS_normal ?_
  refine Sm.ret ?_
  refine ⟨_, rfl, ?_⟩; dsimp only
  exact D.le_full 1 (List.map rowB (resBytes r)) true
theorem refRoot17_D (l : List Res) (hl : l.length ≤ 1000000) : CallsD Tryd.prog HG 23 [ressL l] (sumD (Sha.root (l.map resBytes))) := by
  have hR := refRoot_D HG _ _ rfl (fit_bytes l hl)
  have hRl := Sha.root_len (l.map resBytes)
  generalize Sha.root (l.map resBytes) = R at hR hRl ⊢
  refine CallsD.of Tryd.func23 rfl Tryd.ntmps23 (by simp) ?_; intro F hF h0 hT; simp only [List.zipIdx_cons, List.zipIdx_nil, List.map_cons, List.map_nil, Nat.zero_add, Nat.reduceAdd]
  refine Sm.seq ?_
  refine Sm.regionG hF rfl ?_
  refine SmG.new hF rfl rfl rfl (opS_alloc rfl al39) ?_
  refine SmG.nil ?_
  refine nextS_normal ?_
  refine Sm.seq ?_
  refine Sm.regionG hF rfl ?_
  refine SmG.v hF rfl rfl rfl (opV_buildSlice rfl rfl (by simp (disch := omega) only [go_sem, Nat.reduceEqDiff, iteP, ressL, Res.row, resD, rowE, bytesL] <;> rfl)) ?_
  refine SmG.v hF rfl rfl rfl (opV_assign rfl rfl) ?_
  refine SmG.nil ?_
  refine nextS_normal ?_
  refine Sm.seq ?_
  refine Sm.seq ?_
  refine Sm.regionG hF rfl ?_
  refine SmG.v hF rfl rfl rfl (opV_assign rfl rfl) ?_
  refine SmG.nil ?_
  refine nextS_normal ?_
  refine Sm.block ?_
  refine Sm.own (t := 3) (sz := 1) 1 rfl ?_
  refine Sm.loop (ι := {i : Nat // i ≤ l.length}) (fun i => ⟨[(0, .d (ressL l)), (2, .ref 0 0 0), (3, .sref 1 0 (((l.map resBytes).take i.1).map rowE).length), (4, .d (.v (.int .i64 i.1)))], [(1, dB 1 (((l.map resBytes).take i.1).map rowE)), (0, dB 32 [rowS (List.replicate 32 0)])], 2⟩) (fun i => l.length - i.1) (⟨0, by omega⟩) ?_ ?_
  · exact St.le_of (by simp [leE, look, constD, ressL]) ⟨rfl, rfl, trivial⟩ (Nat.le_refl _)
  rintro ⟨i, hi⟩
  simp only
  by_cases hlt : i < l.length
  · have hri : l[i]? = some l[i] := by simp
    have htk : (l.map resBytes).take (i + 1) = (l.map resBytes).take i ++ [resBytes l[i]] := by rw [List.take_succ_eq_append_getElem (by simpa using hlt)]; simp
    have hlen : ((l.map resBytes).take i).length = i := by rw [List.length_take, List.length_map]; omega
    generalize l[i] = r at hri htk
    have k1 := refBytes_D r HG
    have hrow := rowE_one ((l.map resBytes).take i) (resBytes r)
    rw [← htk] at hrow
    refine Sm.seq ?_
    refine Sm.seq ?_
    refine Sm.regionG hF rfl ?_
    refine SmG.v hF rfl rfl rfl (opV_move rfl rfl) ?_
    refine SmG.v hF rfl rfl rfl (opV_move rfl rfl) ?_
    refine SmG.v hF rfl rfl rfl (opV_len rfl rfl (by simp (disch := omega) only [go_sem, Nat.reduceEqDiff, iteP, ressL, hri, Res.row] <;> rfl)) ?_
    refine SmG.v hF rfl rfl rfl (opV_bin rfl rfl rfl (by first | exact rd_lssT _ _ _ _ _ (by omega) | exact rd_lssF _ _ _ _ _ (by omega) | exact rb_lss _ _ _ _ _ _ _)) ?_
    refine SmG.nil ?_
    refine nextS_normal ?_
    refine Sm.condT hF rfl ?_
    refine Sm.skip ?_
    refine nextS_normal ?_
    refine Sm.seq ?_
    refine Sm.block ?_
    refine Sm.regionG hF rfl ?_
    refine SmG.v hF rfl rfl rfl (opV_move rfl rfl) ?_
    refine SmG.v hF rfl rfl rfl (opV_move rfl rfl) ?_
    refine SmG.v hF rfl rfl rfl (opV_move rfl rfl) ?_
    refine SmG.v hF rfl rfl rfl (opV_indexAddr rfl rfl rfl (by simp (disch := omega) only [go_sem, Nat.reduceEqDiff, iteP, ressL, hri, Res.row] <;> rfl)) ?_
    refine SmG.v hF rfl rfl rfl (opV_load rfl rfl (by simp (disch := omega) only [go_sem, Nat.reduceEqDiff, iteP, ressL, hri, Res.row] <;> rfl)) ?_
    refine SmG.call hF rfl rfl (by kernel_rfl) rfl rfl rfl (k1) ?_
    refine SmG.v hF rfl rfl rfl (opV_buildSlice rfl rfl (by simp (disch := omega) only [go_sem, Nat.reduceEqDiff, iteP, ressL, hri, Res.row] <;> rfl)) ?_
    refine SmG.appendOwn hF elBB rfl rfl rfl rfl rfl rfl rfl (by first | rfl | (simp; done) | (simp; omega)) (Or.inl rfl) (by (repeat' first | exact freeH_nil _ | refine freeH_same ?_ | refine freeH_cons ?_ (free_dB _ _ _) | refine freeH_cons ?_ (free_dB _ _ [_]) | refine freeH_cons ?_ (free_row (by rfl)))) ?_ ?_ ?_; rotate_left; rotate_left; simp only [killV, Pk.v, V.free, rep, bne_self_eq_false, Nat.reduceAdd, Nat.reduceBNe, Nat.reduceBEq, Nat.reduceEqDiff, reduceIte, Bool.false_eq_true]
    rotate_left
    · simp only [List.length_map, List.length_cons, List.length_nil]; omega
    · simp only [List.length_map, List.length_cons, List.length_nil]; omega
    rw [hrow]
    refine SmG.v hF rfl rfl rfl (opV_assign rfl rfl) ?_
    refine SmG.nil ?_
    refine blockS_normal ?_
    refine nextS_normal ?_
    refine Sm.regionG hF rfl ?_
    refine SmG.v hF rfl rfl rfl (opV_move rfl rfl) ?_
    refine SmG.v hF rfl rfl rfl (opV_bin rfl rfl rfl (by first | exact rd_add _ _ _ _ _ (wrapI64 _ (by omega)) | exact rb_add _ _ _ _ _ _ _)) ?_
    refine SmG.v hF rfl rfl rfl (opV_assign rfl rfl) ?_
    refine SmG.nil ?_
    refine nextS_normal ?_
    exact ⟨⟨i + 1, by omega⟩, by show l.length - (i + 1) < l.length - i; omega, by exact St.le_of (by simp [leE, look, constD]) (by simp [leH, look, rep]) (by first | exact Nat.le_refl _ | (dsimp only; omega))⟩
  · have hall : (l.map resBytes).take i = l.map resBytes := List.take_of_length_le (by simp; omega)
    rw [hall]
    refine Sm.seq ?_
    refine Sm.seq ?_
    refine Sm.regionG hF rfl ?_
    refine SmG.v hF rfl rfl rfl (opV_move rfl rfl) ?_
    refine SmG.v hF rfl rfl rfl (opV_move rfl rfl) ?_
    refine SmG.v hF rfl rfl rfl (opV_len rfl rfl (by simp (disch := omega) only [go_sem, Nat.reduceEqDiff, iteP, ressL, sumD, sumD_length, hRl] <;> rfl)) ?_
    refine SmG.v hF rfl rfl rfl (opV_bin rfl rfl rfl (by first | exact rd_lssT _ _ _ _ _ (by omega) | exact rd_lssF _ _ _ _ _ (by omega) | exact rb_lss _ _ _ _ _ _ _)) ?_
    refine SmG.nil ?_
    refine nextS_normal ?_
    refine Sm.condF hF rfl ?_
    refine Sm.freeze (l := 1) _ rfl ?_
    simp only [Pk.v, frzE, frzV, dropH,  reduceIte, Nat.reduceAdd, Nat.zero_add, List.length_map, List.length_append, Nat.le_refl, true_and, and_self, if_true, Nat.reduceEqDiff, true_and]
    refine Sm.exit ?_
    simp only [nextS, blockS, reduceIte, reduceCtorEq]
    refine Sm.seq ?_
    refine Sm.regionG hF rfl ?_
    refine SmG.v hF rfl rfl rfl (opV_move rfl rfl) ?_
    refine SmG.call hF rfl rfl (by kernel_rfl) rfl rfl rfl (hR) ?_
    refine SmG.store hF rfl rfl rfl rfl rfl (by simp (disch := omega) only [go_sem, Nat.reduceEqDiff, iteP, ressL, sumD, sumD_length, hRl] <;> rfl) ?_
    refine SmG.nil ?_
    refine nextS_normal ?_
    refine Sm.ret ?_
    refine retQ_cell rfl rfl (by simp (disch := omega) only [go_sem, Nat.reduceEqDiff, iteP, sumD_length, hRl] <;> rfl) ?_
    exact D.le.refl _
end Go.Proofs.YtagfaaijgfigkaaDoor
namespace Go.Proofs.YtagfaaijgfigkaaDoor
open Go.RowKit
section
variable {P : Program} {G : Nat → Option D} {N : Nat} {F : Fr} {ops : Array Oper} {rest : List Oper} {o : Oper} {Q : Exit → St → Prop} {st : St}
theorem run_nilEq {t e : TypeId} (hu : P.underlying t = some (.slice e)) (x y : Operand) (a : Option Addr) (n cap : Nat) (w : World) :
    (do eqGuard .eql t x y (.slice a n cap) (.slice none 0 0); binOp .eql t (.slice a n cap) (.slice none 0 0) : Sem Value).run P w = .ok (.bool a.isNone) w := by
  have h1 : (eqGuard .eql t x y (.slice a n cap) (.slice none 0 0)).run P w = .ok () w := rfl
  have h2 : (Op.equal t (.slice a n cap) (.slice none 0 0)).run P w = .ok a.isNone w := by
    show (Op.equalIn (9999 + 1) t _ _).run P w = _
    unfold Op.equalIn
    simp only [Sem.run_bind, run_underlying hu, Result.andThen_ok]
    cases a <;> rfl
  have h3 : binOp .eql t (.slice a n cap) (.slice none 0 0) = (do pure (.bool (← Op.equal t (.slice a n cap) (.slice none 0 0))) : Sem Value) := rfl
  rw [Sem.run_bind, h1, Result.andThen_ok, h3, Sem.run_bind, h2, Result.andThen_ok]
  rfl
theorem SmL.nilEq (hF : Env F P G N) (hN : St.small N st) {t e yt : TypeId} (hu : P.underlying t = some (.slice e)) {x : Operand} {d : Tmp} {sz : Nat} {xs : List (List D)} {f : Bool} (hg : guardS ops st.env o.guard = some true) (ho : o.op = .binOp .eql t x (.const (.slice none 0 0)) yt) (hd : o.dst = some d) (hdN : d < N)
    (hx : evD G st.env x = some (.d (.list sz xs f))) (k : ∀ b : Bool, (xs ≠ [] → b = false) → SmL F ops rest Q { st with env := (d, .d (.v (.bool b))) :: st.env }) : SmL F ops (o :: rest) Q st := by
  intro μ C a w hs
  obtain ⟨rfl, rfl, hG⟩ := hF
  refine wpS_step (fun _ => by rw [ho]; simp) fun K hK => ?_
  rw [guardS_ok hs hg hN, if_pos rfl]
  obtain ⟨ao, cap, e1, hcap, hr⟩ := Rep.elem (evD_ok hs hG hx)
  unfold Oper.wp
  have hex : (execOp a.eval o).run F.P w = .ok (.value (.bool ao.isNone)) w := by
    have := run_nilEq (P := F.P) hu x (.const (.slice none 0 0)) ao xs.length cap w
    rw [← e1] at this
    simp only [execOp, ho]
    show (do pure (.value (← (do eqGuard .eql t x (.const (.slice none 0 0)) (a.eval x) (.slice none 0 0); binOp .eql t (a.eval x) (.slice none 0 0) : Sem Value))) : Sem Next).run F.P w = _
    rw [Sem.run_bind, this, Result.andThen_ok]; rfl
  rw [hex, Oper.upon_value, hd]
  refine hK _ _ (k ao.isNone (fun hne => ?_) μ C _ w (hs.put hdN (Rp.v _)))
  obtain ⟨b, off, rfl, _⟩ := hr hne
  rfl
end
section
variable {P : Program} {G : Nat → Option D} {N : Nat} {F : Fr} {ops rest : List Oper} {o : Oper} {Q : Exit → St → Prop} {env : List (Nat × V)} {h : List (Nat × Blk)} {nx : Nat}
theorem SmG.nilEq (hF : Env F P G N) {t e yt : TypeId} (hu : P.underlying t = some (.slice e)) {x : Operand} {d : Tmp} {sz : Nat} {xs : List (List D)} {f : Bool} (ho : o.op = .binOp .eql t x (.const (.slice none 0 0)) yt) (hd : o.dst = some d) (hdN : Nat.blt d N = true) (hg : guardB ops env o.guard = some true)
    (hx : evB G env x = some (.d (.list sz xs f))) (k : ∀ b : Bool, (xs ≠ [] → b = false) → SmG F N ops rest Q ⟨(d, .d (.v (.bool b))) :: env, h, nx⟩) : SmG F N ops (o :: rest) Q ⟨env, h, nx⟩ := by
  have hdN' : d < N := by simpa [Nat.blt_eq] using hdN
  intro hsm
  rw [evB_eq] at hx
  exact SmL.nilEq hF hsm hu (guardB_ok hg) ho hd hdN' hx fun b hb => k b hb (small_put hsm hdN')
end
end Go.Proofs.YtagfaaijgfigkaaDoor
namespace Go.Proofs.YtagfaaijgfigkaaDoor
open Go.RowKit
set_option maxRecDepth 100000
theorem clone_D (l : List Res) (hl : l.length ≤ 1000000) (G : Nat → Option D) : CallsD Tryd.prog G 36 [ressL l] (ressL l) := by
  refine CallsD.of Tryd.func36 rfl Tryd.ntmps36 (by simp) ?_; intro F hF h0 hT; simp only [List.zipIdx_cons, List.zipIdx_nil, List.map_cons, List.map_nil, Nat.zero_add, Nat.reduceAdd]
  refine Sm.seq ?_
  refine Sm.regionG hF rfl ?_
  refine SmG.v hF rfl rfl rfl (opV_assign rfl rfl) ?_
  refine SmG.nil ?_
  refine nextS_normal ?_
  refine Sm.seq ?_
  refine Sm.seq ?_
  refine Sm.regionG hF rfl ?_
  refine SmG.v hF rfl rfl rfl (opV_move rfl rfl) ?_
  refine SmG.nilEq hF Tryd.underlying27 rfl rfl rfl rfl rfl (fun c hc => ?_)
  refine SmG.nil ?_
  refine nextS_normal ?_
  cases c with
  | true =>
    have h0 : l = [] := by
      rcases l with _ | ⟨r, l⟩
      · rfl
      · have := hc (by simp)
        cases this
    subst h0
    refine Sm.condT hF rfl ?_
    refine Sm.seq ?_
    refine Sm.regionG hF rfl ?_
    refine SmG.v hF rfl rfl rfl (opV_assign rfl rfl) ?_
    refine SmG.nil ?_
    refine nextS_normal ?_
    refine Sm.ret ?_
    simp only [nextS, blockS]
    refine ⟨_, rfl, ?_⟩; dsimp only
    exact D.le_nil' _ _ _
  | false =>
    refine Sm.condF hF rfl ?_
    refine Sm.skip ?_
    refine nextS_normal ?_
    refine Sm.seq ?_
    refine Sm.regionG hF rfl ?_
    refine SmG.v hF rfl rfl rfl (opV_buildSlice rfl rfl (by simp (disch := omega) only [go_sem, Nat.reduceEqDiff, iteP, ressL] <;> rfl)) ?_
    refine SmG.v hF rfl rfl rfl (opV_move rfl rfl) ?_
    refine SmG.append hF elRes rfl rfl rfl rfl rfl rfl (Or.inl rfl) (Or.inl rfl) (by simp only [List.length_map, List.length_nil]; omega) (by simp only [List.length_map, List.length_nil]; omega) ?_
    refine SmG.v hF rfl rfl rfl (opV_assign rfl rfl) ?_
    refine SmG.nil ?_
    refine nextS_normal ?_
    refine Sm.ret ?_
    refine ⟨_, rfl, ?_⟩; dsimp only
    exact D.le.refl _
theorem honest_D (x : Wk) (t at0 : Int) (l : List Res) (G : Nat → Option D) : CallsD Tryd.prog G 46 [wkD x, .v (.int .i64 t), .v (.int .i64 at0), ressL l] (.tup [ressL l, .v (.bool true)]) := by
  refine CallsD.of Tryd.func46 rfl Tryd.ntmps46 (by simp) ?_; intro F hF h0 hT; simp only [List.zipIdx_cons, List.zipIdx_nil, List.map_cons, List.map_nil, Nat.zero_add, Nat.reduceAdd]
  refine Sm.seq ?_
  refine Sm.regionG hF rfl ?_
  refine SmG.new hF rfl rfl rfl (opS_box rfl rfl (by simp (disch := omega) only [go_sem, Nat.reduceEqDiff, iteP, wkD, Wk.row] <;> rfl)) ?_
  refine SmG.v hF rfl rfl rfl (opV_assign rfl rfl) ?_
  refine SmG.v hF rfl rfl rfl (opV_assign rfl rfl) ?_
  refine SmG.nil ?_
  refine nextS_normal ?_
  refine Sm.seq ?_
  refine Sm.regionG hF rfl ?_
  refine SmG.v hF rfl rfl rfl (opV_move rfl rfl) ?_
  refine SmG.v hF rfl rfl rfl (opV_assign rfl rfl) ?_
  refine SmG.v hF rfl rfl rfl (opV_assign rfl rfl) ?_
  refine SmG.nil ?_
  refine nextS_normal ?_
  refine Sm.ret ?_
  refine ⟨_, rfl, ?_⟩; dsimp only
  exact D.le.refl _
theorem late_D (x : Wk) (t at0 : Int) (l : List Res) (G : Nat → Option D) : CallsD Tryd.prog G 47 [wkD x, .v (.int .i64 t), .v (.int .i64 at0), ressL l] (.tup [ressL l, .v (.bool (decide (x.n ≤ t)))]) := by
  refine CallsD.of Tryd.func47 rfl Tryd.ntmps47 (by simp) ?_; intro F hF h0 hT; simp only [List.zipIdx_cons, List.zipIdx_nil, List.map_cons, List.map_nil, Nat.zero_add, Nat.reduceAdd]
  refine Sm.seq ?_
  refine Sm.regionG hF rfl ?_
  refine SmG.new hF rfl rfl rfl (opS_box rfl rfl (by simp (disch := omega) only [go_sem, Nat.reduceEqDiff, iteP, wkD, Wk.row] <;> rfl)) ?_
  refine SmG.v hF rfl rfl rfl (opV_assign rfl rfl) ?_
  refine SmG.v hF rfl rfl rfl (opV_assign rfl rfl) ?_
  refine SmG.nil ?_
  refine nextS_normal ?_
  refine Sm.seq ?_
  refine Sm.drawG hF (by kernel_rfl) rfl 7 (by kernel_rfl) (by kernel_rfl) ?_
  simp only [List.take_succ_cons, List.take_zero, List.take_nil]
  refine Head.v hF rfl rfl rfl (opV_move rfl rfl) ?_
  refine Head.v hF rfl rfl rfl (opV_move rfl rfl) ?_
  refine Head.v hF rfl rfl rfl (opV_fieldAddr rfl rfl (by simp (disch := omega) only [go_sem, Nat.reduceEqDiff, iteP, wkD, Wk.row] <;> rfl)) ?_
  refine Head.v hF rfl rfl rfl (opV_load rfl rfl (by simp (disch := omega) only [go_sem, Nat.reduceEqDiff, iteP, wkD, Wk.row] <;> rfl)) ?_
  refine Head.v hF rfl rfl rfl (opV_bin rfl rfl rfl (by first | exact rd_geqT _ _ _ _ _ (by omega) | exact rd_geqF _ _ _ _ _ (by omega) | exact rb_geq _ _ _ _ _ _ _)) ?_
  refine Head.v hF rfl rfl rfl (opV_assign rfl rfl) ?_
  refine Head.v hF rfl rfl rfl (opV_assign rfl rfl) ?_
  refine Head.last ⟨rfl, ?_⟩
  simp only [List.drop_succ_cons, List.drop_zero, List.drop_nil, List.nil_append, List.cons_append]
  refine SmG.nil ?_
  refine nextS_normal ?_
  refine Sm.ret ?_
  refine ⟨_, rfl, ?_⟩; dsimp only
  exact D.le.refl _
end Go.Proofs.YtagfaaijgfigkaaDoor
namespace Go.Proofs.YtagfaaijgfigkaaDoor
open Go.RowKit
def InsOk (mt : TypeId) (t : Tmp) (kk : IntKind) : List Oper → List (Int × Operand) → Prop
  | [], [] => True
  | o :: os, e :: es => o.guard = none ∧ o.dst = none ∧ o.op = .insert mt (.tmp t) (.const (.int kk e.1)) e.2 ∧ InsOk mt t kk os es
  | _, _ => False
section
variable {P : Program} {mt kt et : TypeId} {kk kk' : IntKind}
theorem findNow_none {n : Int} : ∀ (es : List MapEntry) (i : Nat), (∀ e ∈ es, ∃ m, e.key = .int kk m ∧ m ≠ n) → Instr.findNow (.int kk') (.int kk n) es i = some none := by
  intro es
  induction es with
  | nil => intro i _; rfl
  | cons e es ih =>
    intro i h
    obtain ⟨m, hm, hne⟩ := h e (by simp)
    unfold Instr.findNow
    rw [hm]
    have : (n == m) = false := by simpa using fun e => hne e.symm
    simp only [Instr.sameNow, if_true, this]
    exact ih _ fun e he => h e (by simp [he])
theorem run_insert_new (hu : P.underlying mt = some (.map kt et)) (hkt : P.underlying kt = some (.int kk')) {w : World} {r : Nat} {es : Array MapEntry} {clock : Nat} (hb : w.heap[r]? = some (.map es clock)) {n : Int} {value : Value} (hnew : ∀ e ∈ es.toList, ∃ m, e.key = .int kk m ∧ m ≠ n) :
    (Instr.mapUpdate mt (.map (some r)) (.int kk n) value).run P w = .ok () (w.putObj r (.map (es.push ⟨.int kk n, value, clock⟩) (clock + 1))) := by
  have hget : (getObj r).run P w = .ok (.map es clock) w := by simp [getObj, Sem.run, hb]
  have hchk : (Instr.checkKey false 10000 kt (.int kk n)).run P w = .ok () w := by
    unfold Instr.checkKey
    simp [Sem.run_bind, run_underlying hkt, Result.andThen]
  have hfind : (Instr.findKey kt (.int kk n) es.toList).run P w = .ok none w := by
    unfold Instr.findKey
    simp [Sem.run_bind, run_underlying hkt, Result.andThen, findNow_none es.toList 0 hnew]
  unfold Instr.mapUpdate
  simp only [Sem.run_bind, run_underlying hu, Result.andThen_ok, hget, hchk, hfind]
  exact MapKept.run_setObj_map _ hb
theorem ins_core {F : Fr} (hu : P.underlying mt = some (.map kt et)) (hkt : P.underlying kt = some (.int kk')) {ops rest : List Oper} {Q : Exit → Act → World → Prop} {a : Act} {t : Tmp} {r B : Nat} (hB : B ≤ r) (ht : a.tmps.getD t undef = .map (some r)) :
    ∀ (ins : List Oper) (entries : List (Int × Operand)) (es : Array MapEntry) (clock : Nat) (W : World), InsOk mt t kk ins entries → W.heap[r]? = some (.map es clock) → (∀ e ∈ es.toList, ∃ m, e.key = .int kk m ∧ ∀ x ∈ entries, x.1 ≠ m) → (entries.map (·.1)).Nodup →
      (∀ W' es' clock', W'.heap[r]? = some (.map es' clock') → es'.toList.map (·.key) = es.toList.map (·.key) ++ entries.map (fun e => .int kk e.1) → es'.toList.map (·.val) = es.toList.map (·.val) ++ entries.map (fun e => a.eval e.2) → Below B W W' → wpListIn F.fz 0 P ops.toArray Q rest a W') →
      wpListIn F.fz 0 P ops.toArray Q (ins ++ rest) a W := by
  intro ins
  induction ins with
  | nil =>
    intro entries es clock W hi hr _ _ k
    cases entries with
    | cons => exact hi.elim
    | nil => exact k W es clock hr (by simp) (by simp) (Below.refl _ _)
  | cons o ins ih =>
    intro entries es clock W hi hr hk hnd k
    cases entries with
    | nil => exact hi.elim
    | cons e entries =>
      obtain ⟨hg, hd, ho, hi⟩ := hi
      rw [List.cons_append]
      refine wpS_step (fun _ => by rw [ho]; simp) fun K hK => ?_
      have hw : Region.wanted o (yielded ops.toArray a.tmps) = true := by unfold Region.wanted; rw [hg]
      rw [hw, if_pos rfl]
      have hrun := run_insert_new (P := P) hu hkt hr (n := e.1) (value := a.eval e.2) (fun x hx => by
        obtain ⟨m, hm, hne⟩ := hk x hx
        exact ⟨m, hm, fun e' => hne e (by simp) e'.symm⟩)
      have hex : (execOp a.eval o).run P W = .ok .skip (W.putObj r (.map (es.push ⟨.int kk e.1, a.eval e.2, clock⟩) (clock + 1))) := by
        simp only [execOp, ho]
        have e1 : a.eval (.tmp t) = .map (some r) := ht
        have e2 : a.eval (.const (.int kk e.1)) = .int kk e.1 := rfl
        rw [e1, e2]
        show (do Instr.mapUpdate mt (.map (some r)) (.int kk e.1) (a.eval e.2); pure .skip : Sem Next).run P W = _
        rw [Sem.run_bind, hrun]; rfl
      unfold Oper.wp
      rw [hex, Oper.upon_skip, hd]
      refine hK _ _ ?_
      have hlt := (Array.getElem?_eq_some_iff.1 hr).1
      have hput : a.put none undef = a := rfl
      rw [hput]
      have hbel : Below B W (W.putObj r (.map (es.push ⟨.int kk e.1, a.eval e.2, clock⟩) (clock + 1))) :=
        (Below.refl B W).grown (grownBy_putObj' W r _) (by omega) (fun k e => by cases e; exact hB)
      refine ih entries _ (clock + 1) _ hi (World.putObj_heap_same hlt) ?_ (List.nodup_cons.1 hnd).2 ?_
      · intro x hx
        simp only [Array.toList_push, List.mem_append, List.mem_singleton] at hx
        rcases hx with hx | rfl
        · obtain ⟨m, hm, hne⟩ := hk x hx
          exact ⟨m, hm, fun y hy => hne y (by simp [hy])⟩
        · refine ⟨e.1, rfl, fun y hy h => ?_⟩
          exact (List.nodup_cons.1 hnd).1 (by show e.1 ∈ _; rw [← h]; exact List.mem_map_of_mem hy)
      · intro W' es' clock' h1 h2 h3 h4
        exact k W' es' clock' h1 (by rw [h2]; simp) (by rw [h3]; simp) (hbel.trans h4)
end
section
variable {P : Program} {G : Nat → Option D} {N : Nat} {F : Fr} {ops rest : List Oper} {o : Oper} {Q : Exit → St → Prop} {st : St} {mt kt et : TypeId} {kk kk' : IntKind}
theorem evAll_ok {ev : Operand → Option V} {μ : Nat → Option Place} {C : Facts} {a : Act} (hev : ∀ x v, ev x = some v → RepV μ C v (a.eval x)) : ∀ {es : List (Int × Operand)} {ds : List D}, evArgs ev (es.map (·.2)) = some ds → Rp C (.outs ds (es.map fun e => a.eval e.2)) := by
  intro es ds h
  have := evArgs_ok hev h
  simpa [List.map_map, Function.comp_def] using this
theorem SmL.mapLit (hF : Env F P G N) (hN : St.small N st) (hu : P.underlying mt = some (.map kt et)) (hkt : P.underlying kt = some (.int kk')) {t : Tmp} {ins : List Oper} {entries : List (Int × Operand)} {ds : List D} (hg : o.guard = none) (ho : o.op = .makeMap mt none) (hd : o.dst = some t) (htN : t < N)
    (hins : InsOk mt t kk ins entries) (hnd : (entries.map (·.1)).Nodup) (hno : ∀ e ∈ entries, e.2 ≠ .tmp t) (hx : evArgs (evD G st.env) (entries.map (·.2)) = some ds)
    (k : SmL F ops.toArray rest Q { st with env := (t, .d (.map (entries.map fun e => .int kk e.1) ds)) :: st.env }) : SmL F ops.toArray (o :: (ins ++ rest)) Q st := by
  intro μ C a w hs
  obtain ⟨rfl, rfl, hG⟩ := hF
  refine wpS_step (fun _ => by rw [ho]; simp) fun K hK => ?_
  have hw : Region.wanted o (yielded ops.toArray a.tmps) = true := by unfold Region.wanted; rw [hg]
  rw [hw, if_pos rfl]
  have hex : (execOp a.eval o).run F.P w = .ok (.value (.map (some w.heap.size))) (w.alloc (.map #[] 0)) := by
    simp only [execOp, ho]; rfl
  unfold Oper.wp
  rw [hex, Oper.upon_value, hd]
  refine hK _ _ ?_
  have hev : ∀ x v, evD G st.env x = some v → RepV μ C v (a.eval x) := fun x v h => evD_ok hs hG h
  have hsame : ∀ e ∈ entries, (a.put (some t) (.map (some w.heap.size))).eval e.2 = a.eval e.2 := by
    intro e he
    have hne := hno e he
    cases hx2 : e.2 with
    | tmp s =>
      have hst : s ≠ t := fun h => hne (by rw [hx2, h])
      show (a.put (some t) _).tmps.getD s undef = a.tmps.getD s undef
      rw [getD_put a t s _ (by rw [hs.size]; exact htN), if_neg hst]
    | _ => rfl
  have hb0 : Below w.heap.size w (w.alloc (.map #[] 0)) := (Below.refl _ w).alloc (Nat.le_refl _) _
  refine ins_core (kk := kk) hu hkt (B := w.heap.size) (Nat.le_refl _) (by rw [getD_put a t t _ (by rw [hs.size]; exact htN), if_pos rfl]) ins entries #[] 0 _ hins (heap_alloc_new w _) (by simp) hnd ?_
  intro W' es' clock' h1 h2 h3 h4
  have hbel := hb0.trans h4
  have hm : More w C W' (fun b o u => C b o u ∨ (b = w.heap.size ∧ o = 0 ∧ (u = mapV (entries.map fun e => .int kk e.1) (entries.map fun e => a.eval e.2) ∨ u = .tuple #[]))) := by
    refine ⟨hbel, fun _ _ _ h => .inl h, fun b o u h => h.imp id (fun h => by omega), fun b o u h => ?_⟩
    rcases h with h | ⟨rfl, rfl, h⟩
    · exact hs.known.below hbel b o u h
    · right
      refine ⟨es', clock', h1, ?_⟩
      rcases h with rfl | rfl
      · left
        rw [h2, h3]
        simp only [List.map_nil, List.nil_append]
        congr 1
        exact List.map_congr_left fun e he => (hsame e he).symm
      · exact .inr rfl
  refine k μ _ _ W' ((hs.more hm).put htN ?_)
  exact Rp.map _ _ _ _ (.inr ⟨rfl, rfl, .inl rfl⟩) (.inr ⟨rfl, rfl, .inr rfl⟩) (by simp) (Rp.mono (fun _ _ _ h => .inl h) (evAll_ok hev hx))
theorem SmG.mapLit {env : List (Nat × V)} {h : List (Nat × Blk)} {nx : Nat} (hF : Env F P G N) (hu : P.underlying mt = some (.map kt et)) (hkt : P.underlying kt = some (.int kk')) {t : Tmp} {ins : List Oper} {entries : List (Int × Operand)} {ds : List D} (hg : o.guard = none) (ho : o.op = .makeMap mt none) (hd : o.dst = some t) (htN : Nat.blt t N = true)
    (hins : InsOk mt t kk ins entries) (hnd : (entries.map (·.1)).Nodup) (hno : ∀ e ∈ entries, e.2 ≠ .tmp t) (hx : evArgs (evB G env) (entries.map (·.2)) = some ds)
    (k : SmG F N ops rest Q ⟨(t, .d (.map (entries.map fun e => .int kk e.1) ds)) :: env, h, nx⟩) : SmG F N ops (o :: (ins ++ rest)) Q ⟨env, h, nx⟩ := by
  have htN' : t < N := by simpa [Nat.blt_eq] using htN
  intro hsm
  exact SmL.mapLit hF hsm hu hkt hg ho hd htN' hins hnd hno (evArgs_B hx) (k (small_put hsm htN'))
end
end Go.Proofs.YtagfaaijgfigkaaDoor
namespace Go.Proofs.YtagfaaijgfigkaaDoor
open Go.RowKit
structure Same (O : Nat → Prop) (w w' : World) : Prop where
  os : w'.os = w.os
  tape : w'.tape = w.tape
  output : w'.output = w.output
  size : w.heap.size ≤ w'.heap.size
  block : ∀ b, O b → w'.heap[b]? = w.heap[b]?
structure But (O O' : Nat → Prop) (w w' : World) : Prop where
  os : w'.os = w.os
  tape : w'.tape = w.tape
  output : w'.output = w.output
  size : w.heap.size ≤ w'.heap.size
  block : ∀ b, b < w.heap.size → ¬ O b → w'.heap[b]? = w.heap[b]?
  sub : ∀ b, O b → O' b
  new : ∀ b, O' b → O b ∨ w.heap.size ≤ b
  lt : ∀ b, O' b → b < w'.heap.size
abbrev Jt := Nat → (Nat → Prop) → Facts → World → Prop
def IterD (P : Program) (G : Nat → Option D) (f : FuncId) (caps : List D) (xs : List (List D)) : Prop :=
  ∀ (l : Nat) (C : Facts) (w : World) (us : List Value) (O : Nat → Prop) (J : Jt),
    GlobD G C → Known C w → Rp C (.outs caps us) → (∀ b, O b → b < w.heap.size) → (∀ b o u, C b o u → ¬ O b) →
    (∀ m O K W W', J m O K W → Same (fun b => O b ∨ b < w.heap.size) W W' → Known K W' → J m O K W') →
    (∀ (i : Nat) x O K C' W vs, xs[i]? = some x → J (i + 1) O K W → Known C' W → (∀ b o u, K b o u → C' b o u) → (∀ b o u, C' b o u → K b o u ∨ w.heap.size ≤ b) → (∀ b o u, C' b o u → ¬ O b) → (∀ b, O b → b < W.heap.size) → Rp C' (.outs x vs) →
      YieldAt Fence.wide 0 P l vs.toArray W fun e W' => ∃ (c : Bool) (O' : Nat → Prop), e = .returned (.bool c) ∧ But O O' W W' ∧ J (if c then i + 2 else 0) O' C' W') →
    J 1 O C w →
    Calls P f ((Value.func (.yield l) #[] #[]) :: us).toArray w fun e W' => ∃ v O' K m, e = .returned v ∧ (m = 0 ∨ m = xs.length + 1) ∧ J m O' K W' ∧ But O O' w W'
def ItG (base : Nat) (O0 : Nat → Prop) (J : Jt) (ds : List Deferred) (h : List (Nat × Blk)) (μ : Nat → Option Place) (C : Facts) (w : World) : Prop :=
  look h 0 = none ∧ base ≤ w.heap.size ∧ (∀ b, OwnB h μ b → base ≤ b) ∧ ∃ m sz O K, μ 0 = some ⟨m, 0, sz⟩ ∧ J m O K w ∧ (∀ b, OwnB h μ b → ¬ O b) ∧ (∀ b o u, K b o u → C b o u) ∧ (∀ b o u, C b o u → K b o u ∨ base ≤ b) ∧ (∀ b o u, C b o u → ¬ O b) ∧
    (∀ b, O b → b < w.heap.size) ∧ (∀ b, O0 b → O b) ∧ (∀ b, O b → O0 b ∨ base ≤ b) ∧ (∀ q, ({ target := .collected q, args := #[] } : Deferred) ∈ ds → ¬ O q)
structure ItFr (F : Fr) (P : Program) (l : Nat) (xs : List (List D)) (O0 : Nat → Prop) (J : Jt) : Prop where
  keep : ∀ ds h μ C w, F.G ds h μ C w ↔ ItG F.w0.heap.size O0 J ds h μ C w
  own : F.own = O0
  low : F.n0 = 1
  lt : ∀ b, O0 b → b < F.w0.heap.size
  stab : ∀ m O K W W', J m O K W → Same (fun b => O b ∨ b < F.w0.heap.size) W W' → Known K W' → J m O K W'
  round : ∀ (i : Nat) x O K C' W vs, xs[i]? = some x → J (i + 1) O K W → Known C' W → (∀ b o u, K b o u → C' b o u) → (∀ b o u, C' b o u → K b o u ∨ F.w0.heap.size ≤ b) → (∀ b o u, C' b o u → ¬ O b) → (∀ b, O b → b < W.heap.size) → Rp C' (.outs x vs) →
      YieldAt Fence.wide 0 P l vs.toArray W fun e W' => ∃ (c : Bool) (O' : Nat → Prop), e = .returned (.bool c) ∧ But O O' W W' ∧ J (if c then i + 2 else 0) O' C' W'
theorem Known.same {C : Facts} {w w' : World} (h : Known C w) (hb : ∀ b o u, C b o u → w'.heap[b]? = w.heap[b]?) : Known C w' := fun b o u hc => by
  rcases h b o u hc with g | ⟨es, c, g, e⟩
  · left; simp only [World.cell?, hb b o u hc] at g ⊢; exact g
  · exact .inr ⟨es, c, (hb b o u hc).trans g, e⟩
theorem ItG.stab {base : Nat} {O0 : Nat → Prop} {J : Jt} (hst : ∀ m O K W W', J m O K W → Same (fun b => O b ∨ b < base) W W' → Known K W' → J m O K W') {ds : List Deferred} {h h' : List (Nat × Blk)} {μ μ' : Nat → Option Place} {C C' : Facts} {w w' : World}
    (g : ItG base O0 J ds h μ C w) (t : Turn 1 h μ C w h' μ' C' w') : ItG base O0 J ds h' μ' C' w' := by
  obtain ⟨g1, g2, g3, m, sz, O, K, g4, g5, g6, g7, g8, g9, g10, g11, g12, g13⟩ := g
  have hblk : ∀ b, O b ∨ b < base → w'.heap[b]? = w.heap[b]? := fun b hb => by
    rcases hb with hb | hb
    · exact t.block b (g10 b hb) (fun ho => g6 b ho hb)
    · exact t.block b (by omega) (fun ho => by have := g3 b ho; omega)
  refine ⟨Option.eq_none_iff_forall_ne_some.2 fun k hk => ?_, Nat.le_trans g2 t.size, fun b hb => (t.own b hb).elim (g3 b) (fun h => Nat.le_trans g2 h), m, sz, O, K, t.low 0 _ (by omega) g4, hst _ _ _ _ _ g5 ⟨t.os, t.tape, t.output, t.size, hblk⟩ (fun b o u hk => t.known b o u (t.sub _ _ _ (g7 _ _ _ hk))), fun b hb ho => ?_, fun b o u hk => t.sub _ _ _ (g7 _ _ _ hk), fun b o u hc => ?_, fun b o u hc ho => ?_, fun b hb => Nat.lt_of_lt_of_le (g10 b hb) t.size, g11, g12, g13⟩
  · rcases t.dom 0 (by rw [hk]; rfl) with h1 | h1
    · rw [g1] at h1; cases h1
    · rw [g4] at h1; cases h1
  · rcases t.own b hb with h1 | h1
    · exact g6 b h1 ho
    · have := g10 b ho; omega
  · rcases t.new b o u hc with h1 | h1 | h1
    · exact g8 _ _ _ h1
    · exact .inr (g3 b h1)
    · exact .inr (Nat.le_trans g2 h1)
  · rcases t.new b o u hc with h1 | h1 | h1
    · exact g9 _ _ _ h1 ho
    · exact g6 b h1 ho
    · have := g10 b ho; omega
section
variable {P : Program} {G : Nat → Option D} {N : Nat} {F : Fr} {ops : Array Oper} {rest : List Oper} {o : Oper} {Q : Exit → St → Prop} {st : St}
theorem run_callYield {l : Nat} {x : Operand} {xs : Array Operand} {ts : Array TypeId} (ho : o.op = .call ⟨.value x, xs, ts⟩) {a : Act} {w : World} (hx : a.eval x = .func (.yield l) #[] #[]) : (execOp a.eval o).run P w = (Instr.yield l (xs.map a.eval)).run P w := by
  have e : execOp a.eval o = Instr.yield l (#[] ++ xs.map a.eval) := by
    simp only [execOp, ho]
    show (do let d ← Deferred.ofValue (a.eval x) (xs.map a.eval); invoke d.target d.args : Sem Next) = _
    rw [hx]; rfl
  rw [e]; simp
theorem SmL.yield (hF : Env F P G N) (hN : St.small N st) {l i s t : Nat} {xs : List (List D)} {O0 : Nat → Prop} {J : Jt} {x : List D} (hI : ItFr F P l xs O0 J) (hgh : look st.env s = some (.gh (i + 1))) (hi : xs[i]? = some x) {y : Operand} {ys : Array Operand} {ts : Array TypeId} {ds : List D}
    (hg : guardS ops st.env o.guard = some true) (ho : o.op = .call ⟨.value y, ys, ts⟩) (hd : o.dst = some t) (ht : t < N) (hy : evD G st.env y = some (.d (.v (.func (.yield l) #[] #[])))) (hargs : evArgs (evD G st.env) ys.toList = some ds) (hle : ∀ C vs, Rp C (.outs ds vs) → Rp C (.outs x vs)) (hfree : freeH 0 st.h)
    (k : ∀ c : Bool, SmL F ops rest Q { st with env := (t, .d (.v (.bool c))) :: (s, .gh (if c then i + 2 else 0)) :: killV 0 st.env }) : SmL F ops (o :: rest) Q st := by
  intro μ C a w hs
  have hev : ∀ x v, evD G st.env x = some v → RepV μ C v (a.eval x) := fun x v h => evD_ok hs hF.glob h
  have hyv := Rep.v_eq (hev y _ hy)
  obtain ⟨g1, g2, g3, m, sz, O, K, g4, g5, g6, g7, g8, g9, g10, g11, g12, g13⟩ := (hI.keep _ _ _ _ _).1 hs.gh
  obtain ⟨sz', hm⟩ := hs.env s _ hgh
  rw [g4] at hm
  obtain rfl : m = i + 1 := by cases hm; rfl
  have hPP := hF.prog
  obtain ⟨fn, tm, asg, bo, hrun, hround⟩ := hI.round i x O K C w (ys.toList.map a.eval) hi g5 hs.known g7 g8 g9 g10 (hle _ _ (evArgs_ok hev hargs))
  show (if Region.wanted o (yielded ops a.tmps) then o.wpIn F.fz 0 F.P a w (wpListIn F.fz 0 F.P ops (Sq F Q) rest) (Sq F Q) else _)
  rw [guardS_ok hs hg (by rw [hF.size]; exact hN), if_pos rfl]
  refine ⟨fun _ _ => trivial, ?_⟩
  rw [Oper.semAt_eq _ _ _ (by rw [ho]; simp), run_callYield ho hyv, hPP]
  have e1 : ys.map a.eval = (ys.toList.map a.eval).toArray := by rw [← Array.toList_map]
  rw [e1, hrun]
  refine ⟨fun h => (by cases h), ?_⟩
  refine RoundIn.mono (F := F.fz) (show RoundIn F.fz 0 P l fn tm asg bo w _ from hround) ?_
  rintro e W' ⟨c, O', rfl, hb, hJ⟩
  rw [hd, ← hPP]
  refine k c (fun n => if n = 0 then some ⟨if c then i + 2 else 0, 0, sz⟩ else μ n) C _ W' ?_
  have hμ : ∀ n, n ≠ 0 → (fun n => if n = 0 then some (⟨if c then i + 2 else 0, 0, sz⟩ : Place) else μ n) n = μ n := fun n h => by simp [h]
  have hfact : ∀ b o u, C b o u → W'.heap[b]? = w.heap[b]? := fun b o u hc => hb.block b (hs.known.lt hc) (g9 b o u hc)
  have hkn : Known C W' := hs.known.same hfact
  have hnot : ∀ b, b < F.w0.heap.size → ¬ F.own b → ¬ O b := fun b h1 h2 h3 => by
    rcases g12 b h3 with h | h
    · exact h2 (by rw [hI.own]; exact h)
    · omega
  refine ⟨by simp [Act.put, hs.size], ⟨hs.defers.nodup, fun d hd' => ?_⟩, ?_, hs.sub, hs.new, hkn, fun t' x' hx' => ?_, fun l' k' hk' => ?_, ?_, fun l' hl' => ?_, (hI.keep _ _ _ _ _).2 ?_⟩
  · obtain ⟨q, q1, q2, q3⟩ := hs.defers.each d hd'
    exact ⟨q, q1, q2, (hb.block q (Array.getElem?_eq_some_iff.1 q3).1 (g13 q (q1 ▸ hd'))).trans q3⟩
  · refine ⟨hb.os.trans hs.below.os, hb.tape.trans hs.below.tape, hb.output.trans hs.below.output, Nat.le_trans hs.below.size hb.size, fun n hn hno => ?_⟩
    rw [hb.block n (Nat.lt_of_lt_of_le hn hs.below.size) (hnot n hn hno)]
    exact hs.below.block n hn hno
  · rw [getD_put a t t' _ (by rw [hs.size, hF.size]; exact ht)]
    simp only [look] at hx'
    by_cases h1 : t = t'
    · rw [if_pos h1] at hx'; cases hx'; rw [if_pos h1.symm]; exact Rp.v _
    · rw [if_neg h1] at hx'; rw [if_neg (Ne.symm h1)]
      by_cases h2 : s = t'
      · rw [if_pos h2] at hx'; cases hx'; exact ⟨sz, by simp⟩
      · rw [if_neg h2, look_kill] at hx'
        cases hl : look st.env t' with
        | none => rw [hl] at hx'; cases hx'
        | some z =>
          rw [hl] at hx'; simp only [Option.map_some, Option.some.injEq] at hx'
          subst hx'
          by_cases hz : z.free 0 = true
          · rw [if_pos hz]; exact V.free_rep hz hμ (hs.env t' z hl)
          · rw [if_neg hz]; trivial
  · obtain ⟨p, hp, hB⟩ := hs.heap l' k' hk'
    have hl0 : l' ≠ 0 := fun e => by subst e; rw [g1] at hk'; cases hk'
    refine ⟨p, (hμ l' hl0).trans hp, hB.sz, hB.len, hB.max, hB.row, fun hc => ?_⟩
    obtain ⟨b1, b2, cur, T, b3, b4, b5⟩ := hB.cells hc
    refine ⟨b1, b2, cur, T, ?_, b4, fun j r hr q z hz => ?_⟩
    · rw [hb.block _ (hB.lt hc) (g6 _ ⟨l', k', p, hk', hp, hc, rfl⟩)]; exact b3
    · obtain ⟨u, u1, u2, u3⟩ := b5 j r hr q z hz
      exact ⟨u, u1, u2, V.free_rep (hfree l' k' hl0 hk' r (List.mem_of_getElem? hr) z (List.mem_of_getElem? hz)) hμ u3⟩
  · have hne : ∀ n, (look st.h n).isSome = true → n ≠ 0 := fun n hn e => by subst e; rw [g1] at hn; cases hn
    intro n n' p p' h1 h2 q1 q2
    exact hs.inj n n' p p' h1 h2 ((hμ n (hne n h1)).symm.trans q1) ((hμ n' (hne n' h2)).symm.trans q2)
  · have hl0 : l' ≠ 0 := fun e => by
      have := hs.nx l' hl'
      rw [e, g4] at this; cases this
    exact (hμ l' hl0).trans (hs.nx l' hl')
  · have hown : ∀ b, OwnB st.h (fun n => if n = 0 then some (⟨if c then i + 2 else 0, 0, sz⟩ : Place) else μ n) b → OwnB st.h μ b := fun b ⟨n, k', p, h1, h2, h3⟩ => by
      have hn0 : n ≠ 0 := fun e => by subst e; rw [g1] at h1; cases h1
      exact ⟨n, k', p, h1, (hμ n hn0).symm.trans h2, h3⟩
    refine ⟨g1, Nat.le_trans g2 hb.size, fun b h => g3 b (hown b h), _, sz, O', C, by simp, hJ, fun b h ho => ?_, fun _ _ _ h => h, fun _ _ _ h => .inl h, fun b o u hc ho => ?_, hb.lt, fun b h => hb.sub b (g11 b h), fun b h => ?_, fun q hq ho => ?_⟩
    · have h := hown b h
      rcases hb.new b ho with h' | h'
      · exact g6 b h h'
      · obtain ⟨n, k', p, h1, h2, h3, h4⟩ := h
        obtain ⟨p2, hp2, hB⟩ := hs.heap n k' h1
        rw [h2] at hp2; cases hp2
        have := hB.lt h3; omega
    · rcases hb.new b ho with h' | h'
      · exact g9 b o u hc h'
      · have := hs.known.lt hc; omega
    · rcases hb.new b h with h' | h'
      · exact g12 b h'
      · exact .inr (Nat.le_trans g2 h')
    · rcases hb.new q ho with h' | h'
      · exact g13 q hq h'
      · obtain ⟨q', q1, q2, q3⟩ := hs.defers.each _ hq
        have hqq : q' = q := by injection q1 with e1 _; injection e1 with e2; exact e2.symm
        subst hqq
        have := (Array.getElem?_eq_some_iff.1 q3).1; omega
def iterQ (s n : Nat) : Exit → St → Prop
  | .ret, st | .normal, st => ∃ m, look st.env s = some (.gh m) ∧ (m = 0 ∨ m = n + 1)
  | _, _ => False
theorem IterD.of {f : FuncId} {fn : Func} {c : Code} {caps : List D} {xs : List (List D)} (s : Nat) (hf : P.funcs[f]? = some fn) (hb : fn.body = some c) (hN : fn.ntmps = N) (hp : caps.length + 1 ≤ N) (hr : fn.results = #[])
    (h : ∀ F l O0 J, Env F P G N → F.n0 = 1 → ItFr F P l xs O0 J → Sm F c (iterQ s xs.length) ⟨(s, .gh 1) :: ((D.v (.func (.yield l) #[] #[])) :: caps).zipIdx.map fun e => (e.2, .d e.1), [], 1⟩) : IterD P G f caps xs := by
  intro l C w us O J hG hk hu hO hCO hst hrd hJ
  let F : Fr := ⟨P, N, w, C, O, none, 1, ItG w.heap.size O J, fun g t => g.stab hst t⟩
  have ha : Rp C (.outs ((D.v (.func (.yield l) #[] #[])) :: caps) ((Value.func (.yield l) #[] #[]) :: us)) := .ocons _ _ _ _ (.v _) hu
  obtain ⟨ds, hds⟩ : ∃ ds, ds = (D.v (.func (.yield l) #[] #[])) :: caps := ⟨_, rfl⟩
  rw [← hds] at ha
  have h' : ∀ F O0 J, Env F P G N → F.n0 = 1 → ItFr F P l xs O0 J → Sm F c (iterQ s xs.length) ⟨(s, .gh 1) :: ds.zipIdx.map fun e => (e.2, .d e.1), [], 1⟩ := fun F O0 J h1 h2 h3 => by rw [hds]; exact h F l O0 J h1 h2 h3
  have hdl : ds.length ≤ N := by rw [hds]; simpa using hp
  generalize (Value.func (.yield l) #[] #[]) :: us = vs at ha
  have hvl : vs.length = ds.length := outs_length ha
  have hsz : (vs.toArray ++ Array.replicate (fn.ntmps - vs.toArray.size) undef).size = N := by simp; omega
  have hlook : ∀ (ds : List D) (k : Nat) (t : Nat) (x : V), look ((ds.zipIdx k).map fun e => (e.2, V.d e.1)) t = some x → ∃ d, x = .d d ∧ k ≤ t ∧ ds[t - k]? = some d := by
    intro ds
    induction ds with
    | nil => intro k t x h; simp [look] at h
    | cons d ds ih =>
      intro k t x h
      simp only [List.zipIdx_cons, List.map_cons, look] at h
      split at h
      · rename_i e; cases h; subst e; exact ⟨d, rfl, Nat.le_refl _, by simp⟩
      · obtain ⟨d', rfl, h1, h2⟩ := ih _ _ _ h
        refine ⟨d', rfl, by omega, ?_⟩
        rw [show t - k = (t - (k + 1)) + 1 by omega]; simpa using h2
  have hsim : Sim F ⟨(s, .gh 1) :: ds.zipIdx.map fun e => (e.2, .d e.1), [], 1⟩ (fun n => if n = 0 then some ⟨1, 0, 0⟩ else none) C { tmps := vs.toArray ++ Array.replicate (fn.ntmps - vs.toArray.size) undef, defers := [] } w := by
    refine ⟨hsz, .nil _ _, Kept.refl _ _, fun _ _ _ h => h, fun _ _ _ h => .inl h, hk, fun t x hx => ?_, fun l k hk => by simp [look] at hk, fun l l' p p' h => by simp [look] at h, fun n hn => ?_, ?_⟩
    · simp only [look] at hx
      split at hx
      · cases hx; exact ⟨0, by simp⟩
      · obtain ⟨d, rfl, _, hd⟩ := hlook ds 0 t x hx
        rw [Nat.sub_zero] at hd
        obtain ⟨v, h1, h2⟩ := outs_get ha t d hd
        have htl := (List.getElem?_eq_some_iff.1 h1).1
        have : (vs.toArray ++ Array.replicate (fn.ntmps - vs.toArray.size) undef).getD t undef = v := by
          rw [Array.getD_eq_getD_getElem?, Array.getElem?_append_left (by simpa using htl)]
          simp [h1]
        show Rep C d _
        rw [this]; exact h2
    · have : n ≠ 0 := by have : 1 ≤ n := hn; omega
      simp [this]
    · exact ⟨rfl, Nat.le_refl _, fun b ⟨n, k, p, h1, _⟩ => by simp [look] at h1, 1, 0, O, C, by simp, hJ, fun b ⟨n, k, p, h1, _⟩ => by simp [look] at h1, fun _ _ _ h => h, fun _ _ _ h => .inl h, hCO, hO, fun _ h => h, fun _ h => .inl h, by simp⟩
  have hI : ItFr F P l xs O J := ⟨fun _ _ _ _ _ => Iff.rfl, rfl, rfl, hO, hst, hrd⟩
  refine calls_of_Sm (F := F) rfl rfl hf hb (h' F O J ⟨rfl, rfl, hG⟩ rfl hI) hsim (fun e st' hq => by cases e <;> first | exact .inl rfl | exact .inr rfl | exact hq.elim) ?_
  intro e st' μ' C' a w' hq hs a2 w'' haft hs2
  have hq' : ∃ m, look st'.env s = some (.gh m) ∧ (m = 0 ∨ m = xs.length + 1) := by cases e <;> first | exact hq | exact hq.elim
  obtain ⟨m, hm1, hm2⟩ := hq'
  refine ⟨.tuple #[], by simpa using results_of (P := P) (fn := fn) (a := a2) (w := w'') (us := []) (by rw [hr]; rfl), ?_⟩
  obtain ⟨g1, g2, g3, m', sz, O', K, g4, g5, g6, g7, g8, g9, g10, g11, g12, g13⟩ : ItG w.heap.size O J a.defers st'.h μ' C' w' := hs.gh
  obtain ⟨sz', hm⟩ := hs.env s _ hm1
  rw [g4] at hm
  obtain rfl : m' = m := by cases hm; rfl
  have hno : ∀ b, O' b → w''.heap[b]? = w'.heap[b]? := fun b hb => haft.other b fun hd => g13 b hd hb
  refine ⟨_, O', K, m', rfl, hm2, hst _ _ _ _ _ g5 ⟨haft.os, haft.tape, haft.output, haft.size, fun b hb => hb.elim (hno b) (haft.low b)⟩ (fun b o u hc => hs2.known b o u (g7 _ _ _ hc)), hs2.below.os, hs2.below.tape, hs2.below.output, hs2.below.size, fun b h1 h2 => hs2.below.block b h1 h2, g11, g12, fun b hb => Nat.lt_of_lt_of_le (g10 b hb) haft.size⟩
end
end Go.Proofs.YtagfaaijgfigkaaDoor
namespace Go.Proofs.YtagfaaijgfigkaaDoor
open Go.RowKit
theorem V.low_rep {n : Nat} {x : V} (h : x.lt n = true) {μ μ' : Nat → Option Place} (hμ : ∀ l p, l < n → μ l = some p → μ' l = some p) {C C' : Facts} (hC : ∀ b o u, C b o u → C' b o u) {v : Value} (hr : RepV μ C x v) : RepV μ' C' x v := by
  cases x with
  | d => exact Rp.mono hC hr
  | ref l i off => obtain ⟨p, h1, h2⟩ := hr; exact ⟨p, hμ l p (by simpa [V.lt] using h) h1, h2⟩
  | sref l lo len => obtain ⟨p, ao, h1, h2⟩ := hr; exact ⟨p, ao, hμ l p (by simpa [V.lt] using h) h1, h2⟩
  | aref l i off es len cap => obtain ⟨p, ao, h1, h2⟩ := hr; exact ⟨p, ao, hμ l p (by simpa [V.lt] using h) h1, h2⟩
  | mix tup l k rest =>
    obtain ⟨p, ao, us, h1, h2, h3, h4⟩ := hr
    refine ⟨p, ao, us, hμ l p (by simpa [V.lt] using h) h1, h2, h3, ?_⟩
    split
    · rename_i ht; rw [if_pos ht] at h4; exact ⟨Rp.mono hC h4.1, h4.2⟩
    · rename_i ht; rw [if_neg ht] at h4; exact ⟨Rp.mono hC h4.1, h4.2⟩
  | any => trivial
  | gh m => obtain ⟨sz, h1⟩ := hr; exact ⟨sz, hμ 0 _ (by simpa [V.lt] using h) h1⟩
section
variable {F : Fr} {st : St} {μ : Nat → Option Place} {C : Facts} {a : Act} {w : World}
theorem Sim.cutEnv (h : Sim F st μ C a w) (n : Nat) : Sim F { st with env := cutE n st.env } μ C a w :=
  ⟨h.size, h.defers, h.below, h.sub, h.new, h.known, fun t x hx => by
    rw [look_cutE] at hx
    cases hl : look st.env t with
    | none => rw [hl] at hx; cases hx
    | some y =>
      rw [hl] at hx; cases hx
      dsimp only
      split
      · exact h.env t y hl
      · trivial, h.heap, h.inj, h.nx, h.gh⟩
theorem known_loop {w : World} {C : Facts} (h : Known C w) {l : Nat} {r : Loop} (hl : w.heap[l]? = some (Obj.loop r)) (o : Obj) : Known C (w.putObj l o) := h.same fun b p u hc => by
  refine World.putObj_heap_other fun e => ?_
  subst e
  rcases h _ _ _ hc with g | ⟨es, c, g, _⟩
  · simp [World.cell?, hl] at g
  · rw [hl] at g; cases g
theorem BlkOk.loop {mine mine' : Nat → Prop} {C : Facts} {p : Place} {k : Blk} (h : BlkOk mine μ C w p k) (hm : 0 < p.cap → mine p.b → mine' p.b) {l : Nat} {r : Loop} (hl : w.heap[l]? = some (Obj.loop r)) (o : Obj) : BlkOk mine' μ C (w.putObj l o) p k := by
  refine ⟨h.sz, h.len, h.max, h.row, fun hc => ?_⟩
  obtain ⟨b1, b2, cur, T, b3, b4⟩ := h.cells hc
  refine ⟨hm hc b1, b2, cur, T, ?_, b4⟩
  rw [World.putObj_heap_other (fun e => by rw [e, hl] at b3; cases b3)]; exact b3
theorem Sim.own_cells (h : Sim F st μ C a w) {b : Nat} (hb : OwnB st.h μ b) : F.mine b ∧ (∀ o u, ¬ C b o u) ∧ ∃ cur T, w.heap[b]? = some (Obj.cells cur T (0, 0)) := by
  obtain ⟨l, k, p, h1, h2, h3, rfl⟩ := hb
  obtain ⟨p2, hp2, hB⟩ := h.heap l k h1
  rw [h2] at hp2; cases hp2
  obtain ⟨b1, b2, cur, T, b3, _⟩ := hB.cells h3
  exact ⟨b1, b2, cur, T, b3⟩
end
def roundQ (h : List (Nat × Blk)) (nx : Nat) : Exit → St → Prop
  | .normal, st => (∀ l k, look h l = some k → look st.h l = some k) ∧ st.nx ≤ nx
  | _, _ => False
def midQ (mid : St) : Exit → St → Prop
  | .normal, st => st.le mid
  | _, _ => False
def roundE (ps : List Nat) (x : List D) (env : List (Nat × V)) : List (Nat × V) := ((ps.zip x).map fun e => (e.1, V.d e.2)).reverse ++ env
theorem sim_params {F : Fr} {μ : Nat → Option Place} {C : Facts} {w : World} {h : List (Nat × Blk)} {nx : Nat} : ∀ (ps : List Nat) (x : List D) (vs : List Value) (env : List (Nat × V)) (a : Act), (∀ p ∈ ps, p < F.N) → Rp C (.outs x vs) → Sim F ⟨env, h, nx⟩ μ C a w →
    Sim F ⟨roundE ps x env, h, nx⟩ μ C { a with tmps := (ps.zip vs).foldl (fun t e => t.setIfInBounds e.1 e.2) a.tmps } w := by
  intro ps
  induction ps with
  | nil => intro x vs env a _ _ hs; simpa [roundE] using hs
  | cons p ps ih =>
    intro x vs env a hp hx hs
    cases hx with
    | onil => simpa [roundE] using hs
    | ocons d v ds vs h1 h2 =>
      have := ih ds vs ((p, .d d) :: env) (a.put (some p) v) (fun q hq => hp q (by simp [hq])) h2 (hs.put (hp p (by simp)) (x := .d d) h1)
      simpa [roundE, Act.put] using this
section
variable {P : Program} {G : Nat → Option D} {N : Nat} {F : Fr} {Q : Exit → St → Prop}
def RgJ (F : Fr) (env : List (Nat × V)) (inv : Nat → List (Nat × Blk)) (nxs : Nat → Nat) (a : Act) (l q : Nat) (rc : Loop) (n : Nat) : Jt := fun m O K W => ∃ i μ C1, m = i + 1 ∧ i ≤ n ∧ Sim F ⟨env, inv i, nxs i⟩ μ C1 a W ∧
  (∀ b o u, C1 b o u → K b o u ∨ O b) ∧ (∀ b o u, K b o u → C1 b o u) ∧ (∀ b, OwnB (inv i) μ b → O b) ∧ O l ∧ O q ∧ W.heap[l]? = some (Obj.loop rc) ∧ W.heap[q]? = some (Obj.deferred (some []))
theorem Sm.rangeFunc (hF : Env F P G N) (hT : F.top) {g : Operand} {ps : Array Tmp} {assign body : Code} {env : List (Nat × V)} {h : List (Nat × Blk)} {nx : Nat} {gf : FuncId} {caps : List D} {xs : List (List D)} (n1 : Nat) (hn : F.n0 ≤ n1)
    (hg : evB G env g = some (.d (.fn gf caps))) (hb : hasBody P gf = true) (hit : IterD P G gf caps xs) (hps : ∀ x ∈ xs, x.length = ps.size) (hpN : ∀ p ∈ ps.toList, p < N)
    (inv : Nat → List (Nat × Blk)) (nxs : Nat → Nat) (mid : Nat → List D → St) (h0 : ∀ l k, look (inv 0) l = some k → look h l = some k) (h0n : nx ≤ nxs 0)
    (hassign : ∀ (i : Nat) x, xs[i]? = some x → ∀ F', Env F' P G N → F'.n0 = n1 → Sm F' assign (midQ (mid i x)) ⟨roundE ps.toList x (cutE n1 env), inv i, nxs i⟩)
    (hbody : ∀ (i : Nat) x, xs[i]? = some x → ∀ F', Env F' P G N → F'.n0 = n1 → Sm F' body (roundQ (inv (i + 1)) (nxs (i + 1))) (mid i x))
    (k : Q .normal ⟨cutE n1 env, inv xs.length, nxs xs.length⟩) : Sm F (.rangeFunc g ps assign body) Q ⟨env, h, nx⟩ := by
  obtain ⟨rfl, rfl, hG⟩ := hF
  intro μ C a w hs
  rw [evB_eq] at hg
  have hgv : RepV μ C (.d (.fn gf caps)) (a.eval g) := evD_ok hs hG hg
  generalize hge : a.eval g = gv at hgv
  cases hgv with
  | fn _ _ us hu =>
  refine wpIn_rangeFunc ?_
  intro fn _
  obtain ⟨l, hl⟩ : ∃ l, l = w.heap.size + 1 := ⟨_, rfl⟩
  obtain ⟨rc, hrc⟩ : ∃ rc : Loop, rc = { state := .ready, pending := none, fn, tmps := a.tmps, params := ps, assign, body, defers := w.heap.size } := ⟨_, rfl⟩
  obtain ⟨W1, hW1⟩ : ∃ W1, W1 = (w.alloc (.deferred (some []))).alloc (.loop rc) := ⟨_, rfl⟩
  have hsz1 : W1.heap.size = w.heap.size + 2 := by rw [hW1]; simp
  have hL1 : W1.heap[l]? = some (Obj.loop rc) := by
    rw [hW1, hl]; have := World.alloc_heap_new (w.alloc (.deferred (some []))) (.loop rc); rwa [World.size_alloc] at this
  have hK1 : W1.heap[w.heap.size]? = some (Obj.deferred (some [])) := by
    rw [hW1]; exact (Below.heap_alloc _ _ _ (by simp)).trans (World.alloc_heap_new w _)
  have hbel1 : Below w.heap.size w W1 := by
    rw [hW1]; exact ((Below.refl _ w).alloc (Nat.le_refl _) _).alloc (by simp) _
  have hs1 : Sim F ⟨cutE n1 env, inv 0, nxs 0⟩ μ C a W1 :=
    ((hs.cutEnv n1).less (st' := ⟨cutE n1 env, inv 0, nxs 0⟩) (fun _ _ h => h) h0 h0n).more (.of_below hs.known hbel1)
  have hw0 : F.w0.heap.size ≤ w.heap.size := hs.below.size
  have hmk : ∀ d ∈ a.defers, ∀ q : Nat, d = { target := .collected q, args := #[] } → q < w.heap.size := fun d hd q e => by
    obtain ⟨q2, h1, _, h2⟩ := hs.defers.each d hd
    have hqq : q2 = q := by rw [h1] at e; injection e with e1 _; injection e1
    subst hqq
    exact (Array.getElem?_eq_some_iff.1 h2).1
  refine ⟨l, [{ target := .collected w.heap.size, args := #[] }], W1, { target := .fn (.func gf) us.toArray, args := #[.func (.yield l) #[] #[]] }, W1, gf, ((Value.func (.yield l) #[] #[]) :: us).toArray, W1, ?_, ?_, fun _ _ => trivial, ?_, fun h => (by cases h), ?_⟩
  · show (Instr.enterLoop fn a.tmps ps assign body F.rd).run F.P w = _
    rw [hT.1, hW1, hl, hrc]
    exact run_enterLoop_outer _ _ _ _ _
  · simp only [resolve, rangeCall, hge]
    simp [go_sem]
  · simp [invoke, go_sem, hcall_of hb]
  refine callsIn_fz (Calls.mono (hit l C W1 us (fun b => OwnB (inv 0) μ b ∨ b = l ∨ b = w.heap.size) (RgJ F (cutE n1 env) inv nxs a l w.heap.size rc xs.length) (hG.mono hs.sub) hs1.known hu ?_ ?_ ?_ ?_ ?_) ?_)
  · rintro b (hb | rfl | rfl)
    · obtain ⟨_, _, cur, T, hc⟩ := hs1.own_cells hb
      exact (Array.getElem?_eq_some_iff.1 hc).1
    · omega
    · omega
  · rintro b o u hc (hb | rfl | rfl)
    · exact (hs1.own_cells hb).2.1 o u hc
    · have := hs.known.lt hc; omega
    · have := hs.known.lt hc; omega
  · rintro m O K W W' ⟨i, μ', C1, rfl, hi, hs', e1, e2, e3, e4, e5, e6, e7⟩ hsame hkn
    refine ⟨i, μ', C1, rfl, hi, ?_, e1, e2, e3, e4, e5, (hsame.block _ (.inl e4)).trans e6, (hsame.block _ (.inl e5)).trans e7⟩
    refine ⟨hs'.size, ⟨hs'.defers.nodup, fun d hd => ?_⟩, ⟨hsame.os.trans hs'.below.os, hsame.tape.trans hs'.below.tape, hsame.output.trans hs'.below.output, Nat.le_trans hs'.below.size hsame.size, fun n hn hno => ?_⟩, hs'.sub, hs'.new, fun b o u hc => ?_, hs'.env, fun l' k' hk' => ?_, hs'.inj, hs'.nx, hT.2 _ _ _ _ _ _ _ _ hs'.gh⟩
    · obtain ⟨q, q1, q2, q3⟩ := hs'.defers.each d hd
      refine ⟨q, q1, q2, (hsame.block q (.inr ?_)).trans q3⟩
      have := hmk d hd q q1; omega
    · exact (hsame.block n (.inr (by omega))).trans (hs'.below.block n hn hno)
    · rcases e1 b o u hc with h1 | h1
      · exact hkn b o u h1
      · have hb' := hsame.block b (.inl h1)
        rcases hs'.known b o u hc with g | ⟨es, c, g, e⟩
        · left; simp only [World.cell?, hb'] at g ⊢; exact g
        · exact .inr ⟨es, c, hb'.trans g, e⟩
    · obtain ⟨p, hp, hB⟩ := hs'.heap l' k' hk'
      refine ⟨p, hp, hB.sz, hB.len, hB.max, hB.row, fun hc => ?_⟩
      obtain ⟨b1, b2, cur, T, b3, b4⟩ := hB.cells hc
      exact ⟨b1, b2, cur, T, (hsame.block _ (.inl (e3 _ ⟨l', k', p, hk', hp, hc, rfl⟩))).trans b3, b4⟩
  · rintro i x O K C' W vs hx ⟨i', μ', C1, hii, hile, hs', e1, e2, e3, e4, e5, e6, e7⟩ hkC hKC hCn hCO hOlt hvs
    obtain rfl : i' = i := by omega
    have hvl : vs.length = ps.size := (outs_length hvs).trans (hps x (List.mem_of_getElem? hx))
    have hnl : ¬ OwnB (inv i') μ' l := fun h => by
      obtain ⟨_, _, cur, T, hc⟩ := hs'.own_cells h
      rw [e6] at hc; cases hc
    have hllt := hOlt l e4
    let G' : List Deferred → List (Nat × Blk) → (Nat → Option Place) → Facts → World → Prop := fun ds h μ'' C w => F.G ds h μ'' C w ∧ ∀ j p, j < n1 → μ' j = some p → μ'' j = some p
    have hstab : ∀ {ds h μ C w h' μ'' C' w'}, G' ds h μ C w → Turn n1 h μ C w h' μ'' C' w' → G' ds h' μ'' C' w' := fun g t =>
      ⟨F.stab g.1 ⟨t.os, t.tape, t.output, t.size, fun l p hl => t.low l p (by omega), t.dom, t.block, t.own, t.sub, t.new, t.known⟩, fun j p hj hp => t.low j p hj (g.2 j p hj hp)⟩
    let F1 : Fr := ⟨F.P, F.N, W, fun b o u => C1 b o u ∨ C' b o u, OwnB (inv i') μ', some l, n1, G', hstab⟩
    have hk1 : Known (fun b o u => C1 b o u ∨ C' b o u) W := fun b o u h => h.elim (hs'.known b o u) (hkC b o u)
    have s1 : Sim F1 ⟨cutE n1 env, inv i', nxs i'⟩ μ' (fun b o u => C1 b o u ∨ C' b o u) { tmps := a.tmps, defers := [] } W := by
      refine ⟨hs'.size, .nil _ _, .refl _ _, fun _ _ _ h => h, fun _ _ _ h => .inl h, hk1, fun t x hx => (hs'.env t x hx).mono (fun _ _ h => h) (fun _ _ _ h => .inl h), fun l' k' hk' => ?_, hs'.inj, hs'.nx, hT.2 _ _ _ _ _ _ _ _ hs'.gh, fun _ _ _ h => h⟩
      obtain ⟨p, hp, hB⟩ := hs'.heap l' k' hk'
      refine ⟨p, hp, hB.sz, hB.len, hB.max, hB.row, fun hc => ?_⟩
      obtain ⟨b1, b2, cur, T, b3, b4, b5⟩ := hB.cells hc
      have hob : OwnB (inv i') μ' p.b := ⟨l', k', p, hk', hp, hc, rfl⟩
      exact ⟨.inr hob, fun o u h => h.elim (b2 o u) fun h => hCO _ _ _ h (e3 _ hob), cur, T, b3, b4, b5.mono (fun _ _ h => h) (fun _ _ _ h => .inl h)⟩
    have s2 := sim_params (F := F1) ps.toList x vs (cutE n1 env) _ hpN (Rp.mono (C' := fun b o u => C1 b o u ∨ C' b o u) (fun _ _ _ h => .inr h) hvs) s1
    have hfold : ((rc.params.zip vs.toArray).foldl (fun tmps (t, a) => tmps.setIfInBounds t a) rc.tmps) = (ps.toList.zip vs).foldl (fun t e => t.setIfInBounds e.1 e.2) a.tmps := by
      rw [hrc, ← Array.foldl_toList, Array.toList_zip]
    refine ⟨_, _, _, _, run_yield e6 (by rw [hrc]; simpa using hvl), ?_⟩
    rw [hfold]
    refine roundIn_of_wpIn trivial ?_
    have hrc1 : rc.assign = assign := by rw [hrc]
    have hrc2 : rc.body = body := by rw [hrc]
    rw [hrc1, hrc2]
    refine wpIn_mono (show assign.wpIn (Fence.wide.inRound l) 0 F.P _ _ _ from hassign i' x hx F1 ⟨rfl, rfl, fun g d hg => Rp.mono (fun b o u h => .inl (hs'.sub _ _ _ h)) (hG g d hg)⟩ rfl μ' _ _ W s2) ?_
    rintro e a1 w1 ⟨st1, μ1, C2, hq, s3⟩
    cases e with
    | normal =>
      have s4 := s3.less hq.1 hq.2.1 hq.2.2
      have hl1 : w1.heap[l]? = some (Obj.loop rc) := (s4.below.block l hllt hnl).trans e6
      refine ⟨w1.putObj l (.loop { rc with state := .busy }), run_beginRound hl1 (by rw [hrc]), ?_⟩
      let F2 : Fr := { F1 with w0 := W.putObj l (.loop { rc with state := .busy }) }
      have hne1 : ∀ b, b ≠ l → (w1.putObj l (.loop { rc with state := .busy })).heap[b]? = w1.heap[b]? := fun b hb => World.putObj_heap_other hb
      have hneW : ∀ b, b ≠ l → (W.putObj l (.loop { rc with state := .busy })).heap[b]? = W.heap[b]? := fun b hb => World.putObj_heap_other hb
      have hl1lt : l < w1.heap.size := (Array.getElem?_eq_some_iff.1 hl1).1
      have hmn : ∀ b, F1.mine b → F2.mine b := fun b h => h.imp (fun h => by show (W.putObj l _).heap.size ≤ b; simpa using h) id
      have s5 : Sim F2 (mid i' x) μ1 C2 a1 (w1.putObj l (.loop { rc with state := .busy })) := by
        refine ⟨s4.size, ⟨s4.defers.nodup, fun d hd => ?_⟩, ⟨s4.below.os, s4.below.tape, s4.below.output, by simpa [F2] using s4.below.size, fun n hn hno => ?_⟩, s4.sub, fun b o u h => (s4.new b o u h).imp id (hmn b), known_loop s4.known hl1 _, s4.env, fun l' k' hk' => ?_, s4.inj, s4.nx, hT.2 _ _ _ _ _ _ _ _ s4.gh.1, s4.gh.2⟩
        · obtain ⟨q, q1, q2, q3⟩ := s4.defers.each d hd
          exact ⟨q, q1, by simpa [F2] using q2, (hne1 q (fun e => by rw [e, hl1] at q3; cases q3)).trans q3⟩
        · have hn' : n < W.heap.size := by simpa [F2] using hn
          by_cases en : n = l
          · subst en; rw [World.putObj_heap_same hl1lt, World.putObj_heap_same hllt]
          · rw [hne1 n en, hneW n en]; exact s4.below.block n hn' hno
        · obtain ⟨p, hp, hB⟩ := s4.heap l' k' hk'
          exact ⟨p, hp, hB.loop (fun _ h => hmn _ h) hl1 _⟩
      refine wpIn_mono (show body.wpIn (Fence.wide.inRound l) 0 F.P _ _ _ from hbody i' x hx F2 ⟨rfl, rfl, fun g d hg => Rp.mono (fun b o u h => .inl (hs'.sub _ _ _ h)) (hG g d hg)⟩ rfl μ1 C2 a1 _ s5) ?_
      rintro e a2 w3 ⟨st2, μ2, C3, hq2, s6⟩
      cases e with
      | normal =>
        have hl3 : w3.heap[l]? = some (Obj.loop { rc with state := .busy }) := (s6.below.block l (by simpa [F2] using hllt) hnl).trans (World.putObj_heap_same hllt)
        have hend := run_endRound (P := F.P) none hl3
        have hrr : ({ { rc with state := .busy } with state := if (none : Option Code).isNone then .ready else .done, pending := none } : Loop) = rc := by rw [hrc]; rfl
        rw [hrr] at hend
        have hl3lt := (Array.getElem?_eq_some_iff.1 hl3).1
        have hne3 : ∀ b, b ≠ l → (w3.putObj l (.loop rc)).heap[b]? = w3.heap[b]? := fun b hb => World.putObj_heap_other hb
        have hblk : ∀ b, b < W.heap.size → ¬ OwnB (inv i') μ' b → b ≠ l → (w3.putObj l (.loop rc)).heap[b]? = W.heap[b]? := fun b h1 h2 h3 => by
          rw [hne3 b h3, ← hneW b h3]; exact s6.below.block b (by simpa [F2] using h1) h2
        have hmine : ∀ b, F2.mine b → W.heap.size ≤ b ∨ OwnB (inv i') μ' b := fun b h => h.imp (fun h => by have : (W.putObj l (.loop { rc with state := .busy })).heap.size ≤ b := h; simpa using this) id
        have hFm : ∀ b, F2.mine b → F.mine b := fun b h => (hmine b h).elim (fun h => .inl (Nat.le_trans hs'.below.size h)) fun h => (hs'.own_cells h).1
        have hszW : W.heap.size ≤ w3.heap.size := by simpa [F2] using s6.below.size
        have hxl : i' < xs.length := (List.getElem?_eq_some_iff.1 hx).1
        have s6' := s6.less (st' := ⟨[], inv (i' + 1), nxs (i' + 1)⟩) (fun t x h => by simp [look] at h) hq2.1 hq2.2
        have hdef : ∀ q : Nat, W.heap[q]? = some (Obj.deferred (some [])) → (w3.putObj l (.loop rc)).heap[q]? = some (Obj.deferred (some [])) := fun q hq => by
          rw [hblk q (Array.getElem?_eq_some_iff.1 hq).1 (fun h => by obtain ⟨_, _, cur, T, hc⟩ := hs'.own_cells h; rw [hq] at hc; cases hc) (fun e => by rw [e, e6] at hq; cases hq)]
          exact hq
        refine ⟨_, _, hend, true, fun b => O b ∨ (W.heap.size ≤ b ∧ b < w3.heap.size), rfl, ⟨s6.below.os, s6.below.tape, s6.below.output, by simpa using hszW, fun b hb ho => hblk b hb (fun h => ho (e3 b h)) (fun e => ho (e ▸ e4)), fun b h => .inl h, fun b h => h.imp id And.left, fun b h => by
          rw [World.putObj_size]
          rcases h with h | h
          · exact Nat.lt_of_lt_of_le (hOlt b h) hszW
          · exact h.2⟩, i' + 1, μ2, C3, rfl, hxl, ?_, fun b o u hc => ?_, fun b o u hc => s6.sub _ _ _ (.inr hc), fun b hb => ?_, .inl e4, .inl e5, World.putObj_heap_same hl3lt, hdef _ e7⟩
        · refine ⟨hs'.size, ⟨hs'.defers.nodup, fun d hd => ?_⟩, ⟨s6.below.os.trans hs'.below.os, s6.below.tape.trans hs'.below.tape, s6.below.output.trans hs'.below.output, by rw [World.putObj_size]; exact Nat.le_trans hs'.below.size hszW, fun n hn hno => ?_⟩, fun b o u h => s6.sub _ _ _ (.inl (hs'.sub _ _ _ h)), fun b o u h => ?_, known_loop s6.known hl3 _, fun t x hx => ?_, fun l' k' hk' => ?_, s6'.inj, s6'.nx, hT.2 _ _ _ _ _ _ _ _ s6'.gh.1⟩
          · obtain ⟨q, q1, q2, q3⟩ := hs'.defers.each d hd
            exact ⟨q, q1, q2, hdef q q3⟩
          · rw [hblk n (Nat.lt_of_lt_of_le hn hs'.below.size) (fun h => ?_) (by omega)]
            · exact hs'.below.block n hn hno
            · rcases (hs'.own_cells h).1 with h | h
              · omega
              · exact hno h
          · rcases s6.new b o u h with (h | h) | h
            · exact hs'.new b o u h
            · rcases hCn b o u h with h | h
              · exact hs'.new b o u (e2 _ _ _ h)
              · exact .inr (.inl (by omega))
            · exact .inr (hFm b h)
          · have hlt : x.lt n1 = true := by
              rw [look_cutE] at hx
              cases hq : look env t with
              | none => rw [hq] at hx; cases hx
              | some y =>
                rw [hq] at hx; simp only [Option.map_some, Option.some.injEq] at hx
                subst hx
                by_cases hy : y.lt n1 = true
                · rw [if_pos hy]; exact hy
                · rw [if_neg hy]; rfl
            exact V.low_rep hlt s6.gh.2 (fun b o u h => s6.sub _ _ _ (.inl h)) (hs'.env t x hx)
          · obtain ⟨p, hp, hB⟩ := s6'.heap l' k' hk'
            exact ⟨p, hp, hB.loop (fun _ h => hFm _ h) hl3 _⟩
        · rcases s6.new b o u hc with (h | h) | h
          · exact (e1 b o u h).imp (hKC _ _ _) .inl
          · exact .inl h
          · rcases hmine b h with h | h
            · exact .inr (.inr ⟨h, s6.known.lt hc⟩)
            · exact .inr (.inl (e3 b h))
        · obtain ⟨h1, _, cur, T, h2⟩ := s6'.own_cells hb
          rcases hmine b h1 with h | h
          · exact .inr ⟨h, (Array.getElem?_eq_some_iff.1 h2).1⟩
          · exact .inl (e3 b h)
      | _ => exact hq2.elim
    | _ => exact hq.elim
  · exact ⟨0, μ, C, rfl, Nat.zero_le _, hs1, fun _ _ _ h => .inl h, fun _ _ _ h => h, fun _ h => .inl h, .inr (.inl rfl), .inr (.inr rfl), hL1, hK1⟩
  · rintro e W' ⟨v, O', K, m, rfl, hm, ⟨i, μ', C1, rfl, hi, hs', e1, e2, e3, e4, e5, e6, e7⟩, hBut⟩
    obtain rfl : i = xs.length := by omega
    refine ⟨none, _, by have := run_endLoop (P := F.P) e6 (by rw [hrc]; simp); rw [show rc.pending = none by rw [hrc]] at this; exact this, ?_⟩
    have hne : ∀ (o : Obj) b, b ≠ l → (W'.putObj l o).heap[b]? = W'.heap[b]? := fun o b hb => World.putObj_heap_other hb
    refine ⟨_, μ', C1, k, hs'.size, ⟨?_, fun d hd => ?_⟩, hs'.below.grown (grownBy_putObj' W' l _) (fun r e => by cases e; exact .inl (by omega)), hs'.sub, hs'.new, known_loop hs'.known e6 _, hs'.env, fun l' k' hk' => ?_, hs'.inj, hs'.nx, hT.2 _ _ _ _ _ _ _ _ hs'.gh⟩
    · refine List.nodup_cons.2 ⟨fun h => ?_, hs'.defers.nodup⟩
      have := hmk _ h _ rfl; omega
    · rcases List.mem_cons.1 hd with rfl | hd
      · exact ⟨_, rfl, hw0, (hne _ _ (by omega)).trans e7⟩
      · obtain ⟨q, q1, q2, q3⟩ := hs'.defers.each d hd
        exact ⟨q, q1, q2, (hne _ q (by have := hmk d hd q q1; omega)).trans q3⟩
    · obtain ⟨p, hp, hB⟩ := hs'.heap l' k' hk'
      exact ⟨p, hp, hB.loop (fun _ h => h) e6 _⟩
end
end Go.Proofs.YtagfaaijgfigkaaDoor
