/-
  Lemmas, part 5 of 6: walks through the program's functions, and plain Lean about what they compute.
-/
import Derived.RangeFuncRecord
import Derived.MapKept
import Derived.RangeFuncSeq
import Derived.Test.YtagfaaijgfigkaaDoorZ1
import Derived.Test.YtagfaaijgfigkaaDoorZ2
import Derived.Test.YtagfaaijgfigkaaDoorZ3
import Derived.Test.YtagfaaijgfigkaaDoorZ4
set_option linter.unnecessarySimpa false
set_option linter.unusedSimpArgs false
set_option linter.unusedVariables false
namespace Go.Proofs.YtagfaaijgfigkaaDoor
open Go.RowKit
def OwnD (C : Facts) (base : Nat) (w : World) (v : Value) (sz : Nat) (rows : List (List D)) : Prop :=
  ∃ p a, v = .slice a rows.length p.cap ∧ (0 < p.cap → a = some ⟨p.b, 0, none⟩) ∧ BlkOk (base ≤ ·) (fun _ => none) C w p (dB sz rows)
def Pk.val : Pk → Value → List Value → Value
  | .one, s, _ => s
  | .tup, s, us => .tuple (s :: us).toArray
  | .agg, s, us => .agg (s :: us).toArray
def Pk.ok (C : Facts) : Pk → List D → List Value → Prop
  | .one, _, _ => True
  | .tup, rest, us => Rp C (.outs rest us)
  | .agg, rest, us => Rp C (.vals rest us)
def Pk.d : Pk → D → List D → D
  | .one, x, _ => x
  | .tup, x, rest => .tup (x :: rest)
  | .agg, x, rest => .agg (rest.length + 1) (x :: rest)
def CallsO (P : Program) (G : Nat → Option D) (f : FuncId) (ds : List D) (pk : Pk) (sz : Nat) (rows : List (List D)) (rest : List D) : Prop :=
  ∀ C w vs, GlobD G C → Known C w → Rp C (.outs ds vs) → Calls P f vs.toArray w fun e w' => ∃ s us C', e = .returned (pk.val s us) ∧ More w C w' C' ∧ OwnD C' w.heap.size w' s sz rows ∧ pk.ok C' rest us
section
variable {F : Fr} {st : St} {μ : Nat → Option Place} {C : Facts} {a : Act} {w : World}
theorem Sim.adopt (h : Sim F st μ C a w) {w' : World} {C' : Facts} (hm : More w C w' C') {m n' : Nat} (hfree : μ m = none) (hmn : m < n') (hn : st.nx ≤ n') {p : Place} {sz : Nat} {rows : List (List D)} (ho : BlkOk (w.heap.size ≤ ·) (fun _ => none) C' w' p (dB sz rows)) :
    Sim F { st with h := (m, dB sz rows) :: st.h, nx := n' } (fun l => if l = m then some p else μ l) C' a w' := by
  have hμ : ∀ l q, μ l = some q → (fun l => if l = m then some p else μ l) l = some q := by
    intro l q hq
    have : l ≠ m := fun e => by rw [e, hfree] at hq; cases hq
    simp [this, hq]
  have h1 := h.more hm
  refine ⟨h1.size, h1.defers, h1.below, h1.sub, h1.new, h1.known, fun t x hx => (h1.env t x hx).mono hμ (fun _ _ _ h => h), ?_, ?_, ?_, F.stab h.gh (turn_new h _ p hfree hμ (by simp) (fun hc => (ho.cells hc).1) (fun l hl => by simp [hl]) hm)⟩
  · intro l k hk
    simp only [look] at hk
    by_cases hl : m = l
    · subst hl
      rw [if_pos rfl] at hk
      cases hk
      refine ⟨p, by simp, ho.sz, ho.len, ho.max, ho.row, fun hc => ?_⟩
      obtain ⟨b1, b2, cur, T, b3, b4, b5⟩ := ho.cells hc
      exact ⟨.inl (Nat.le_trans h.below.size b1), b2, cur, T, b3, b4, b5.mono (fun l p h => by cases h) (fun _ _ _ h => h)⟩
    · rw [if_neg hl] at hk
      obtain ⟨q, hq, hb⟩ := h1.heap l k hk
      refine ⟨q, hμ l q hq, hb.sz, hb.len, hb.max, hb.row, fun hc => ?_⟩
      obtain ⟨a1, a2, cur', T', a3, a4, a5⟩ := hb.cells hc
      exact ⟨a1, a2, cur', T', a3, a4, a5.mono hμ (fun _ _ _ h => h)⟩
  · intro l l' q q' hl hl' hq hq' hc hc' hb
    simp only [look] at hl hl'
    have hlt : ∀ l q, (look st.h l).isSome = true → μ l = some q → 0 < q.cap → q.b < w.heap.size := by
      intro l q hl hq hc
      obtain ⟨k, hk⟩ := Option.isSome_iff_exists.1 hl
      obtain ⟨q2, hq2, hb2⟩ := h.heap l k hk
      rw [hq] at hq2; cases hq2
      exact hb2.lt hc
    by_cases e : l = m <;> by_cases e' : l' = m
    · rw [e, e']
    · rw [if_neg (Ne.symm e')] at hl'
      simp only [if_pos e, if_neg e'] at hq hq'
      cases hq
      have := hlt l' q' hl' hq' hc'
      have : w.heap.size ≤ p.b := (ho.cells hc).1
      omega
    · rw [if_neg (Ne.symm e)] at hl
      simp only [if_neg e, if_pos e'] at hq hq'
      cases hq'
      have := hlt l q hl hq hc
      have : w.heap.size ≤ p.b := (ho.cells hc').1
      omega
    · rw [if_neg (Ne.symm e)] at hl
      rw [if_neg (Ne.symm e')] at hl'
      simp only [if_neg e, if_neg e'] at hq hq'
      exact h.inj l l' q q' hl hl' hq hq' hc hc' hb
  · intro l hl
    have hl' : n' ≤ l := hl
    have : l ≠ m := by omega
    simp only [if_neg this]
    exact h.nx l (by omega)
theorem pk_rep {pk : Pk} {m : Nat} {n : Nat} {rest : List D} {p : Place} {ao : Option Addr} {us : List Value} {μ : Nat → Option Place} (hp : μ m = some p) (hn : n ≤ p.cap) (hao : 0 < p.cap → ao = some ⟨p.b, 0, none⟩) (hok : pk.ok C rest us) : RepV μ C (pk.v m n rest) (pk.val (.slice ao n p.cap) us) := by
  cases pk with
  | one => exact ⟨p, ao, hp, by simp [Pk.val], by simpa using hn, by simpa using hao⟩
  | tup => exact ⟨p, ao, us, hp, hn, hao, by rw [if_pos rfl]; exact ⟨hok, rfl⟩⟩
  | agg => exact ⟨p, ao, us, hp, hn, hao, by rw [if_neg (by simp)]; exact ⟨hok, rfl⟩⟩
end
section
variable {P : Program} {G : Nat → Option D} {N : Nat} {F : Fr} {ops : Array Oper} {rest : List Oper} {o : Oper} {Q : Exit → St → Prop} {st : St} {pk : Pk} {sz : Nat} {rows : List (List D)} {rs : List D}
theorem SmL.callO (hF : Env F P G N) (hN : St.small N st) {f : FuncId} {xs : Array Operand} {ts : Array TypeId} {t : Tmp} {ds : List D} (hg : guardS ops st.env o.guard = some true) (ho : o.op = .call ⟨.value (.func f), xs, ts⟩) (hd : o.dst = some t) (hb : hasBody P f = true)
    (hargs : evArgs (evD G st.env) xs.toList = some ds) (ht : t < N) (hc : CallsO P G f ds pk sz rows rs)
    (k : SmL F ops rest Q ⟨(t, pk.v st.nx rows.length rs) :: st.env, (st.nx, dB sz rows) :: st.h, st.nx + 1⟩) : SmL F ops (o :: rest) Q st := by
  intro μ C a w hs
  obtain ⟨rfl, rfl, hG⟩ := hF
  have hev : ∀ x v, evD G st.env x = some v → RepV μ C v (a.eval x) := fun x v h => evD_ok hs hG h
  refine wpS_step (fun _ => by rw [ho]; simp) fun K hK => ?_
  rw [guardS_ok hs hg hN, if_pos rfl]
  refine wp_call f (fun a w => hcall_of hb a w) xs ts ho (xs.toList.map a.eval) rfl ?_
  refine (hc C w _ (hG.mono hs.sub) hs.known (evArgs_ok hev hargs)).mono ?_
  rintro e w' ⟨s, us, C', rfl, hm, ⟨p, ao, rfl, hao, hB⟩, hok⟩
  have hs2 := hs.adopt hm (m := st.nx) (n' := st.nx + 1) (hs.nx _ (Nat.le_refl _)) (by omega) (by omega) hB
  refine ⟨_, rfl, by rw [hd]; exact hK _ _ (k _ C' _ w' (hs2.put ht (pk_rep (by simp) (by simpa using hB.len) hao hok)))⟩
theorem OpMakes.callO (hF : Env F P G N) {env : List (Nat × V)} {f : FuncId} {xs : Array Operand} {ts : Array TypeId} {ds : List D} (ho : o.op = .call ⟨.value (.func f), xs, ts⟩) (hb : hasBody P f = true)
    (hargs : evArgs (evD G env) xs.toList = some ds) (hc : CallsO P G f ds pk sz rows rs) : OpMakes F G o env (dB sz rows) (fun m => pk.v m rows.length rs) := by
  intro μ C a w nx' hh hs hop m hm hfree K Q hK
  obtain ⟨rfl, rfl, hG⟩ := hF
  have hxs : ∀ y ∈ xs.toList, ∀ v, evD G env y = some v → RepV μ C v (a.eval y) := fun y hy v hv => hop y (by rw [ho]; simp [Op.operands, Call.operands]; exact .inr (by simpa using hy)) v hv
  have hrep : ∀ {ys : List Operand} {es : List D}, (∀ y ∈ ys, ∀ v, evD G env y = some v → RepV μ C v (a.eval y)) → evArgs (evD G env) ys = some es → Rp C (.outs es (ys.map a.eval)) := by
    intro ys
    induction ys with
    | nil => intro es _ h; cases h; exact .onil
    | cons y ys ih =>
      intro es hy h
      simp only [evArgs, Option.bind_eq_some_iff] at h
      obtain ⟨v, hv, h⟩ := h
      split at h
      · rename_i d
        simp only [Option.map_eq_some_iff] at h
        obtain ⟨r, hr, rfl⟩ := h
        exact .ocons _ _ _ _ (hy y (by simp) _ hv) (ih (fun z hz => hy z (by simp [hz])) hr)
      · cases h
  refine wp_call f (fun a w => hcall_of hb a w) xs ts ho (xs.toList.map a.eval) rfl ?_
  refine (hc C w _ (hG.mono hs.sub) hs.known (hrep hxs hargs)).mono ?_
  rintro e w' ⟨s, us, C', rfl, hm', ⟨p, ao, rfl, hao, hB⟩, hok⟩
  have hs2 := hs.adopt hm' (m := m) (n' := nx') hfree hm (Nat.le_refl _) hB
  refine ⟨_, rfl, hK _ _ _ C' hs2 hm'.sub (fun l q hq => ?_) (fun l hl => by simp [hl]) (pk_rep (by simp) (by simpa using hB.len) hao hok)⟩
  have : l ≠ m := fun e => by rw [e, hfree] at hq; cases hq
  simp [this, hq]
end
section
variable {P : Program} {G : Nat → Option D} {N : Nat} {F : Fr} {ops rest : List Oper} {o : Oper} {Q : Exit → St → Prop} {env : List (Nat × V)} {h : List (Nat × Blk)} {nx : Nat} {al : List (Nat × Blk)} {K : List (Nat × V) → List (Nat × Blk) → Nat → Prop} {pk : Pk} {sz : Nat} {rows : List (List D)} {rs : List D}
theorem SmG.callO (hF : Env F P G N) {f : FuncId} {xs : List Operand} {ts : Array TypeId} {t : Tmp} {ds : List D} (ho : o.op = .call ⟨.value (.func f), xs.toArray, ts⟩) (hd : o.dst = some t) (hb : hasBody P f = true) (ht : Nat.blt t N = true)
    (hg : guardB ops env o.guard = some true) (hargs : evArgs (evB G env) xs = some ds) (hc : CallsO P G f ds pk sz rows rs)
    (k : SmG F N ops rest Q ⟨(t, pk.v nx rows.length rs) :: env, (nx, dB sz rows) :: h, nx + 1⟩) : SmG F N ops (o :: rest) Q ⟨env, h, nx⟩ := by
  have ht' : t < N := by simpa [Nat.blt_eq] using ht
  intro hs
  exact SmL.callO hF hs (guardB_ok hg) ho hd hb (evArgs_B (by simpa using hargs)) ht' hc (k (small_put hs ht'))
theorem Head.co (hF : Env F P G N) {f : FuncId} {xs : List Operand} {ts : Array TypeId} {t : Tmp} {ds : List D} (ho : o.op = .call ⟨.value (.func f), xs.toArray, ts⟩) (hd : o.dst = some t) (hb : hasBody P f = true) (ht : Nat.blt t N = true)
    (hg : guardB ops env o.guard = some true) (hargs : evArgs (evB G env) xs = some ds) (hc : CallsO P G f ds pk sz rows rs)
    (k : Head F G N ops.toArray h rest ((t, pk.v nx rows.length rs) :: env) ((nx, dB sz rows) :: al) (nx + 1) K) : Head F G N ops.toArray h (o :: rest) env al nx K :=
  .inl ⟨t, hd, by simpa [Nat.blt_eq] using ht, .inr ⟨dB sz rows, fun m => pk.v m rows.length rs, guardB_ok hg, .callO hF ho hb (evArgs_B (by simpa using hargs)) hc, k⟩⟩
end
theorem OwnD.data {C : Facts} {base : Nat} {w : World} {v : Value} {sz : Nat} {rows : List (List D)} (hk : Known C w) (ho : OwnD C base w v sz rows) : ∃ C', (∀ b o u, C b o u → C' b o u) ∧ (∀ b o u, C' b o u → C b o u ∨ base ≤ b) ∧ Known C' w ∧ Rep C' (.list sz rows false) v := by
  obtain ⟨p, ao, rfl, hao, hb⟩ := ho
  refine ⟨fun b o u => C b o u ∨ (0 < p.cap ∧ b = p.b ∧ w.cell? ⟨p.b, o, none⟩ = some u), fun b o u h => .inl h, ?_, ?_, ?_⟩
  · rintro b o u (h | ⟨h1, rfl, _⟩)
    · exact .inl h
    · exact .inr (hb.cells h1).1
  · rintro b o u (h | ⟨h1, rfl, h2⟩)
    · exact hk b o u h
    · exact .inl h2
  · have hlen : rows.length ≤ p.cap := by simpa using hb.len
    by_cases hr0 : rows = []
    · subst hr0
      refine .nil _ _ _ _ ⟨Nat.zero_le _, by simp, hb.max, fun hn => ?_, fun x hx hpos => ?_⟩
      · rcases Nat.eq_zero_or_pos p.cap with h0 | h0
        · exact h0
        · rw [hao h0] at hn; cases hn
      · rw [hao hpos] at hx; cases hx; rfl
    · have hpos : 0 < rows.length := List.length_pos_iff.2 hr0
      have hcap : 0 < p.cap := by omega
      obtain rfl := hao hcap
      refine .list _ _ _ _ _ _ hr0 ⟨hlen, by simp, hb.max, fun h => (by cases h), fun x h _ => by cases h; rfl⟩ (rows_of fun i x hi => ?_)
      have hrow : (rows.map fun r => r.map V.d)[i]? = some (x.map V.d) := by simp [hi]
      refine ⟨by simpa using hb.row _ (List.mem_of_getElem? hrow), mem_of fun j d hj => ?_⟩
      obtain ⟨_, _, cur, T, h3, h4, h5⟩ := hb.cells hcap
      obtain ⟨u, g1, g2, g3⟩ := h5 i _ hrow j (.d d) (by simp [hj])
      have hc : w.cell? ⟨p.b, 0 + i * sz + j, none⟩ = some u := by
        rw [Nat.zero_add]
        simp [World.cell?, h3]
        simpa using g1
      exact ⟨u, .inr ⟨hcap, rfl, hc⟩, g2, Rp.mono (fun _ _ _ h => .inl h) g3⟩
theorem CallsO.data {P : Program} {G : Nat → Option D} {f : FuncId} {ds : List D} {pk : Pk} {sz : Nat} {rows : List (List D)} {rest : List D} (h : CallsO P G f ds pk sz rows rest) : CallsD P G f ds (pk.d (.list sz rows false) rest) := by
  intro C w vs hG hk ha
  refine (h C w vs hG hk ha).mono ?_
  rintro e w' ⟨s, us, C', rfl, hm, ho, hok⟩
  obtain ⟨C2, k1, k2, k3, k4⟩ := ho.data hm.known
  refine ⟨_, C2, rfl, ⟨hm.below, fun b o u hc => k1 _ _ _ (hm.sub _ _ _ hc), fun b o u hc => (k2 _ _ _ hc).elim (hm.new b o u) .inr, k3⟩, ?_⟩
  cases pk with
  | one => exact k4
  | tup => exact .tup _ _ (.ocons _ _ _ _ k4 (Rp.mono k1 hok))
  | agg =>
    refine .agg _ _ _ (by simp) (.vcons _ _ _ _ ?_ k4 (Rp.mono k1 hok))
    obtain ⟨p, ao, rfl, _⟩ := ho
    rfl
def retV (P : Program) (pk : Pk) (st : St) (rs : List ResultVar) : Option V :=
  match pk with
  | .tup => match rs with
    | r :: rs => (retOne P st r).bind fun v => match v with
      | .sref l 0 n => if rs.isEmpty then none else (retAll P st rs).map fun ds => .mix true l n ds
      | _ => none
    | _ => none
  | _ => match rs with
    | [r] => retOne P st r
    | _ => none
def retO (P : Program) (fn : Func) (pk : Pk) (sz : Nat) (rows : List (List D)) (rest : List D) : Exit → St → Prop
  | .ret, st | .normal, st => ∃ l, retV P pk st fn.results.toList = some (pk.v l rows.length rest) ∧ look st.h l = some (dB sz rows)
  | _, _ => False
section
variable {P : Program} {G : Nat → Option D} {N : Nat} {F : Fr} {st : St} {μ : Nat → Option Place} {C : Facts} {a : Act} {w : World}
theorem retOne_ok (hs : Sim F st μ C a w) {r : ResultVar} {v : V} (hv : retOne F.P st r = some v) :
    ∃ u, ((match r with | .tmp t => pure (a.tmps.getD t undef) | .cell p t => do loadVar t (← asAddr (a.tmps.getD p undef)) : Sem Value)).run F.P w = .ok u w ∧ RepV μ C v u := by
  cases r with
  | tmp t => exact ⟨_, rfl, hs.env t _ hv⟩
  | cell p ty =>
    simp only [retOne, Option.bind_eq_some_iff] at hv
    obtain ⟨x, hx, hl⟩ := hv
    obtain ⟨u, a1, a2⟩ := loadS_ok hs (hs.env p x hx) hl
    refine ⟨u, ?_, a2⟩
    have hp := hs.env p x hx
    show ((do loadVar ty (← asAddr (a.tmps.getD p undef)) : Sem Value)).run F.P w = .ok u w
    generalize a.tmps.getD p undef = q at a1 hp ⊢
    cases q with
    | pointer b =>
      cases b with
      | some b => simpa [Instr.loadAt, Instr.sureAddr, asAddr, Sem.run_bind, Result.andThen] using a1
      | none => simp [Instr.loadAt, Instr.sureAddr, stuck, Sem.run_bind, Result.andThen, Sem.run] at a1
    | _ => simp [Instr.loadAt, Instr.sureAddr, stuck, Sem.run_bind, Result.andThen, Sem.run] at a1
theorem results_of {fn : Func} {us : List Value} (h1 : ((fn.results.toList.mapM fun (r : ResultVar) => (match r with | .tmp t => pure (a.tmps.getD t undef) | .cell p t => do loadVar t (← asAddr (a.tmps.getD p undef)) : Sem Value))).run P w = .ok us w) :
    (results fn a.tmps).run P w = .ok (if h : us.toArray.size = 1 then us.toArray[0] else .tuple us.toArray) w := by
  unfold results
  rw [Array.mapM_eq_mapM_toList]
  simp only [Sem.run_bind]
  have : (List.toArray <$> (fn.results.toList.mapM fun (r : ResultVar) => (match r with | .tmp t => pure (a.tmps.getD t undef) | .cell p t => do loadVar t (← asAddr (a.tmps.getD p undef)) : Sem Value))).run P w = .ok us.toArray w := by
    show ((fn.results.toList.mapM fun (r : ResultVar) => (match r with | .tmp t => pure (a.tmps.getD t undef) | .cell p t => do loadVar t (← asAddr (a.tmps.getD p undef)) : Sem Value)).bind fun x => Sem.pure x.toArray).run P w = _
    have hb := Sem.run_bind' P (fn.results.toList.mapM fun (r : ResultVar) => (match r with | .tmp t => pure (a.tmps.getD t undef) | .cell p t => do loadVar t (← asAddr (a.tmps.getD p undef)) : Sem Value)) (fun x => Sem.pure x.toArray) w
    rw [hb, h1]
    rfl
  erw [this]
  rfl
theorem retV_ok (hs : Sim F st μ C a w) {fn : Func} {pk : Pk} {v : V} (hv : retV F.P pk st fn.results.toList = some v) : ∃ u, (results fn a.tmps).run F.P w = .ok u w ∧ RepV μ C v u := by
  have one : ∀ {r : ResultVar}, fn.results.toList = [r] → retOne F.P st r = some v → ∃ u, (results fn a.tmps).run F.P w = .ok u w ∧ RepV μ C v u := by
    intro r hr hv
    obtain ⟨u, h1, h2⟩ := retOne_ok hs hv
    refine ⟨u, ?_, h2⟩
    have := results_of (P := F.P) (fn := fn) (a := a) (w := w) (us := [u]) (by rw [hr]; simp only [List.mapM_cons, List.mapM_nil, Sem.run_bind, h1, Result.andThen_ok, Sem.run_pure])
    simpa using this
  unfold retV at hv
  split at hv
  · split at hv
    · rename_i r rs hr
      simp only [Option.bind_eq_some_iff] at hv
      obtain ⟨x, hx, hv⟩ := hv
      obtain ⟨u, h1, h2⟩ := retOne_ok hs hx
      split at hv
      · rename_i l n
        split at hv
        · cases hv
        · rename_i hne
          simp only [Option.map_eq_some_iff] at hv
          obtain ⟨ds, hds, rfl⟩ := hv
          obtain ⟨us, g1, g2⟩ := retAll_ok hs hds
          have hul : us ≠ [] := by
            intro e; subst e
            cases rs with
            | nil => simp at hne
            | cons r' rs =>
              have := outs_length g2
              simp only [retAll, Option.bind_eq_some_iff, Option.map_eq_some_iff] at hds
              obtain ⟨_, _, _, _, _, _, rfl⟩ := hds
              simp at this
          have := results_of (P := F.P) (fn := fn) (a := a) (w := w) (us := u :: us) (by rw [hr]; simp only [List.mapM_cons, Sem.run_bind, h1, Result.andThen_ok]; erw [g1]; rfl)
          obtain ⟨p, ao, q1, rfl, q3, q4⟩ := h2
          refine ⟨_, this, p, ao, us, q1, by simpa using q3, by simpa using q4, ?_⟩
          rw [if_pos rfl]
          refine ⟨g2, ?_⟩
          cases us with
          | nil => exact absurd rfl hul
          | cons u2 us => simp
      · cases hv
    · cases hv
  · split at hv
    · rename_i r hr; exact one hr hv
    · cases hv
theorem CallsO.of {f : FuncId} {fn : Func} {c : Code} {ds : List D} {pk : Pk} {sz : Nat} {rows : List (List D)} {rest : List D} (hf : P.funcs[f]? = some fn) (hb : fn.body = some c) (hN : fn.ntmps = N) (hp : ds.length ≤ N)
    (h : ∀ F, Env F P G N → F.n0 = 0 → F.top → Sm F c (retO P fn pk sz rows rest) ⟨ds.zipIdx.map fun e => (e.2, .d e.1), [], 0⟩) : CallsO P G f ds pk sz rows rest := by
  intro C w vs hG hk ha
  have hvl : vs.length = ds.length := outs_length ha
  let F : Fr := ⟨P, N, w, C, fun _ => False, none, 0, fun _ _ _ _ _ => True, fun _ _ => trivial⟩
  have hsz : (vs.toArray ++ Array.replicate (fn.ntmps - vs.toArray.size) undef).size = N := by simp; omega
  have hlook : ∀ (ds : List D) (k : Nat) (t : Nat) (x : V), look ((ds.zipIdx k).map fun e => (e.2, V.d e.1)) t = some x → ∃ d, x = .d d ∧ k ≤ t ∧ ds[t - k]? = some d := by
    intro ds
    induction ds with
    | nil => intro k t x h; simp [look] at h
    | cons d ds ih =>
      intro k t x h
      simp only [List.zipIdx_cons, List.map_cons, look] at h
      split at h
      · rename_i e; cases h; subst e; exact ⟨d, rfl, Nat.le_refl _, by simp⟩
      · obtain ⟨d', rfl, h1, h2⟩ := ih _ _ _ h
        refine ⟨d', rfl, by omega, ?_⟩
        rw [show t - k = (t - (k + 1)) + 1 by omega]; simpa using h2
  have hsim : Sim F ⟨ds.zipIdx.map fun e => (e.2, .d e.1), [], 0⟩ (fun _ => none) C { tmps := vs.toArray ++ Array.replicate (fn.ntmps - vs.toArray.size) undef, defers := [] } w := by
    refine ⟨hsz, .nil _ _, Kept.refl _ _, fun _ _ _ h => h, fun _ _ _ h => .inl h, hk, fun t x hx => ?_, fun l k hk => by simp [look] at hk, fun l l' p p' h => by simp [look] at h, fun _ _ => rfl, trivial⟩
    obtain ⟨d, rfl, _, hd⟩ := hlook ds 0 t x hx
    rw [Nat.sub_zero] at hd
    obtain ⟨v, h1, h2⟩ := outs_get ha t d hd
    have htl := (List.getElem?_eq_some_iff.1 h1).1
    have : (vs.toArray ++ Array.replicate (fn.ntmps - vs.toArray.size) undef).getD t undef = v := by
      rw [Array.getD_eq_getD_getElem?, Array.getElem?_append_left (by simpa using htl)]
      simp [h1]
    show Rep C d _
    rw [this]; exact h2
  refine calls_of_Sm (F := F) rfl rfl hf hb (h F ⟨rfl, rfl, hG⟩ rfl ⟨rfl, fun _ _ _ _ _ _ _ _ _ => trivial⟩) hsim (fun e st' hq => by cases e <;> first | exact .inl rfl | exact .inr rfl | exact hq.elim) ?_
  intro e st' μ' C' _ _ hq _ a w' _ hs
  have fin : (∃ l, retV P pk st' fn.results.toList = some (pk.v l rows.length rest) ∧ look st'.h l = some (dB sz rows)) → ∃ v, (results fn a.tmps).run P w' = .ok v w' ∧ ∃ s us C', Ending.returned v = .returned (pk.val s us) ∧ More w C w' C' ∧ OwnD C' w.heap.size w' s sz rows ∧ pk.ok C' rest us := by
    rintro ⟨l, hv, hl⟩
    obtain ⟨u, h1, h2⟩ := retV_ok hs hv
    rw [show F.free.P = P from rfl] at h1
    have hm : More w C w' C' := ⟨hs.below.below, hs.sub, fun b o u h => (hs.new b o u h).imp id fun h => h.resolve_right (by simp [F, Fr.free]), hs.known⟩
    obtain ⟨p, hp, hB⟩ := hs.heap l _ hl
    have hB' : BlkOk (w.heap.size ≤ ·) (fun _ => none) C' w' p (dB sz rows) := by
      refine ⟨hB.sz, hB.len, hB.max, hB.row, fun hc => ?_⟩
      obtain ⟨b1, b2, cur, T, b3, b4, b5⟩ := hB.cells hc
      refine ⟨b1.resolve_right (by simp [F, Fr.free]), b2, cur, T, b3, b4, fun i r hr j x hj => ?_⟩
      obtain ⟨u, g1, g2, g3⟩ := b5 i r hr j x hj
      refine ⟨u, g1, g2, ?_⟩
      have hr' : ∃ r0 : List D, r = r0.map V.d := by
        have := List.mem_of_getElem? hr
        obtain ⟨r0, _, e⟩ := List.mem_map.1 this
        exact ⟨r0, e.symm⟩
      obtain ⟨r0, rfl⟩ := hr'
      rw [List.getElem?_map] at hj
      cases hd : r0[j]? with
      | none => rw [hd] at hj; cases hj
      | some d => rw [hd] at hj; cases hj; exact g3
    cases pk with
    | one =>
      obtain ⟨q, ao, q1, rfl, q3, q4⟩ := h2
      rw [hp] at q1; cases q1
      exact ⟨_, h1, _, [], C', rfl, hm, ⟨p, ao, by simp, by simpa using q4, hB'⟩, trivial⟩
    | tup =>
      obtain ⟨q, ao, us, q1, q2, q3, q4⟩ := h2
      rw [hp] at q1; cases q1
      rw [if_pos rfl] at q4
      obtain ⟨q4, rfl⟩ := q4
      exact ⟨_, h1, _, us, C', rfl, hm, ⟨p, ao, rfl, q3, hB'⟩, q4⟩
    | agg =>
      obtain ⟨q, ao, us, q1, q2, q3, q4⟩ := h2
      rw [hp] at q1; cases q1
      rw [if_neg (by simp)] at q4
      obtain ⟨q4, rfl⟩ := q4
      exact ⟨_, h1, _, us, C', rfl, hm, ⟨p, ao, rfl, q3, hB'⟩, q4⟩
  cases e <;> first | exact fin hq | exact hq.elim
end
theorem Sm.join {F : Fr} {c y : Code} {Q Q' : Exit → St → Prop} {st : St} {ι : Type} (I : ι → St) (h1 : ∀ i, Sm F y Q (I i)) (h2 : Sm F c (nextS (fun st' => ∃ i, st'.le (I i)) Q') st) : Sm F c (nextS (Sm F y Q) Q') st := by
  refine h2.mono fun e st' h => ?_
  cases e <;> first | exact h | (obtain ⟨i, hle⟩ := h; exact (h1 i).less hle)
theorem CallsD.args {P : Program} {G : Nat → Option D} {f : FuncId} {ds ds' : List D} {r : D} (h : CallsD P G f ds' r) (hd : ∀ C vs, Rp C (.outs ds vs) → Rp C (.outs ds' vs)) : CallsD P G f ds r := fun C w vs hG hk ha => h C w vs hG hk (hd C vs ha)
theorem convS_int {P : Program} {s d : TypeId} {td : TypeDesc} {k k2 : IntKind} {n : Int} (h1 : P.underlying s = some td) (h2 : P.underlying d = some (.int k)) (hw : k.wrap n = n) : convS P s d (.d (.v (.int k2 n))) = some (.d (.v (.int k n))) := by
  simp only [convS, rc_int P k n s d h1 h2 k2, hw, Option.map_some]
def V.lt (n : Nat) : V → Bool
  | .d _ => true
  | .ref l .. => decide (l < n)
  | .sref l .. => decide (l < n)
  | .aref l .. => decide (l < n)
  | .mix _ l .. => decide (l < n)
  | .gh _ => decide (0 < n)
  | .any => true
def cutE (n : Nat) : List (Nat × V) → List (Nat × V)
  | [] => []
  | (t, x) :: r => (t, if x.lt n then x else .any) :: cutE n r
theorem look_cutE (n : Nat) : ∀ (env : List (Nat × V)) (t : Nat), look (cutE n env) t = (look env t).map fun x => if x.lt n then x else .any
  | [], _ => rfl
  | (k, x) :: r, t => by
    simp only [cutE, look]
    split
    · rfl
    · exact look_cutE n r t
def cutH (n : Nat) : List (Nat × Blk) → List (Nat × Blk)
  | [] => []
  | (l, k) :: r => if l < n then (l, k) :: cutH n r else cutH n r
theorem look_cutH (n : Nat) : ∀ (h : List (Nat × Blk)) (l : Nat), look (cutH n h) l = if l < n then look h l else none
  | [], l => by simp [cutH, look]
  | (k, x) :: r, l => by
    simp only [cutH]
    split
    · rename_i hk
      simp only [look]
      split
      · rename_i e; subst e; rw [if_pos hk]
      · exact look_cutH n r l
    · rename_i hk
      rw [look_cutH n r l]
      simp only [look]
      split
      · rename_i hl; have hne : k ≠ l := by omega
        rw [if_neg hne]
      · rfl
def ltH (n : Nat) (h : List (Nat × Blk)) : Prop := ∀ l k, l < n → look h l = some k → ∀ r ∈ k.rows, ∀ x ∈ r, V.lt n x = true
theorem ltH_nil (n : Nat) : ltH n [] := fun l k _ h => by simp [look] at h
theorem ltH_cons {n m : Nat} {k : Blk} {h : List (Nat × Blk)} (f : ltH n h) (hr : ∀ r ∈ k.rows, ∀ x ∈ r, V.lt n x = true) : ltH n ((m, k) :: h) := fun l k' hl hk => by
  simp only [look] at hk
  split at hk
  · cases hk; exact hr
  · exact f l k' hl hk
theorem ltH_over {n m : Nat} {k : Blk} {h : List (Nat × Blk)} (f : ltH n h) (hm : n ≤ m) : ltH n ((m, k) :: h) := fun l k' hl hk => by
  simp only [look] at hk
  split at hk
  · omega
  · exact f l k' hl hk
theorem lt_dB (n sz : Nat) (rows : List (List D)) : ∀ r ∈ (dB sz rows).rows, ∀ x ∈ r, V.lt n x = true := by
  intro r hr x hx
  obtain ⟨r', _, rfl⟩ := List.mem_map.1 hr
  obtain ⟨d, _, rfl⟩ := List.mem_map.1 hx
  rfl
theorem V.lt_rep {n : Nat} {x : V} (h : x.lt n = true) {μ μ' : Nat → Option Place} (hμ : ∀ l, l < n → μ' l = μ l) {C : Facts} {v : Value} (hr : RepV μ C x v) : RepV μ' C x v := by
  cases x with
  | d => exact hr
  | ref l i off => obtain ⟨p, h1, h2⟩ := hr; exact ⟨p, by rw [hμ l (by simpa [V.lt] using h)]; exact h1, h2⟩
  | sref l lo len => obtain ⟨p, ao, h1, h2⟩ := hr; exact ⟨p, ao, by rw [hμ l (by simpa [V.lt] using h)]; exact h1, h2⟩
  | aref l i off es len cap => obtain ⟨p, ao, h1, h2⟩ := hr; exact ⟨p, ao, by rw [hμ l (by simpa [V.lt] using h)]; exact h1, h2⟩
  | mix tup l k rest => obtain ⟨p, ao, us, h1, h2⟩ := hr; exact ⟨p, ao, us, by rw [hμ l (by simpa [V.lt] using h)]; exact h1, h2⟩
  | any => trivial
  | gh m => obtain ⟨sz, h1⟩ := hr; exact ⟨sz, by rw [hμ 0 (by simpa [V.lt] using h)]; exact h1⟩
theorem St.to_cut {F : Fr} {st : St} (n : Nat) (hh : ltH n st.h) (hn : F.n0 ≤ n) : St.to F st ⟨cutE n st.env, cutH n st.h, n⟩ := by
  intro μ C a w hs
  refine ⟨fun l => if l < n then μ l else none, C, hs.size, hs.defers, hs.below, hs.sub, hs.new, hs.known, fun t x hx => ?_, fun l k hk => ?_, fun l l' p p' h1 h2 g1 g2 => ?_, fun l hl => ?_, F.stab hs.gh ⟨rfl, rfl, rfl, Nat.le_refl _, fun l p hl hp => by rw [if_pos (by omega)]; exact hp, fun l hl => .inl (by simp only [look_cutH] at hl; split at hl <;> first | exact hl | cases hl), fun _ _ _ => rfl, fun b ⟨l, k, p, g1, g2, g3⟩ => ?_, fun _ _ _ h => h, fun _ _ _ h => .inl h, hs.known⟩⟩
  · rw [look_cutE] at hx
    cases hq : look st.env t with
    | none => rw [hq] at hx; cases hx
    | some y =>
      rw [hq] at hx
      simp only [Option.map_some, Option.some.injEq] at hx
      subst hx
      split
      · rename_i hl; exact V.lt_rep hl (fun l hl => by simp [hl]) (hs.env t y hq)
      · trivial
  · rw [look_cutH] at hk
    split at hk
    · rename_i hl
      obtain ⟨p, hp, hb⟩ := hs.heap l k hk
      refine ⟨p, by simp [hl, hp], hb.sz, hb.len, hb.max, hb.row, fun hc => ?_⟩
      obtain ⟨b1, b2, cur, T, b3, b4, b5⟩ := hb.cells hc
      refine ⟨b1, b2, cur, T, b3, b4, fun i r hr j x hx => ?_⟩
      obtain ⟨u, g1, g2, g3⟩ := b5 i r hr j x hx
      exact ⟨u, g1, g2, V.lt_rep (hh l k hl hk r (List.mem_of_getElem? hr) x (List.mem_of_getElem? hx)) (fun l hl => by simp [hl]) g3⟩
    · cases hk
  · rw [look_cutH] at h1 h2
    split at h1
    · rename_i hl
      split at h2
      · rename_i hl'
        simp only [if_pos hl] at g1
        simp only [if_pos hl'] at g2
        exact hs.inj l l' p p' h1 h2 g1 g2
      · cases h2
    · cases h1
  · have hl' : n ≤ l := hl
    simp [show ¬ l < n by omega]
  · rw [look_cutH] at g1
    split at g1
    · rename_i hl
      simp only [if_pos hl] at g2
      exact .inl ⟨l, k, p, g1, g2, g3⟩
    · cases g1
section
variable {P : Program} {G : Nat → Option D} {N : Nat} {F : Fr} {ops rest : List Oper} {Q : Exit → St → Prop} {env : List (Nat × V)} {h : List (Nat × Blk)} {nx : Nat} {c : Code}
theorem Sm.cut (n : Nat) (hh : ltH n h) (k : Sm F c Q ⟨cutE n env, cutH n h, n⟩) (hn : F.n0 ≤ n := by omega) : Sm F c Q ⟨env, h, nx⟩ := Sm.to (St.to_cut (st := ⟨env, h, nx⟩) n hh hn) k
theorem SmG.cut (n : Nat) (hh : ltH n h) (k : SmG F N ops rest Q ⟨cutE n env, cutH n h, n⟩) (hn : F.n0 ≤ n := by omega) : SmG F N ops rest Q ⟨env, h, nx⟩ := by
  intro hsm
  refine SmL.to (St.to_cut (st := ⟨env, h, nx⟩) n hh hn) (k ?_)
  intro s y hy
  simp only [look_cutE] at hy
  cases hq : look env s with
  | none => rw [hq] at hy; cases hy
  | some y' => exact hsm s y' hq
end
section
variable {P : Program} {G : Nat → Option D} {env : List (Nat × V)} {h : List (Nat × Blk)} {o : Oper}
theorem opV_extract0 {x : Operand} {l n : Nat} {rest : List D} (ho : o.op = .extract x 0) (hx : evB G env x = some (.mix true l n rest)) : opV P (evD G env) h o = some (.sref l 0 n) := by
  rw [evB_eq] at hx; simp only [opV, ho, hx, Option.bind_some]
theorem opV_extractS {x : Operand} {l n i : Nat} {rest : List D} {d : D} (ho : o.op = .extract x (i + 1)) (hx : evB G env x = some (.mix true l n rest)) (hi : rest[i]? = some d) : opV P (evD G env) h o = some (.d d) := by
  rw [evB_eq] at hx; simp only [opV, ho, hx, hi, Option.bind_some, Option.map_some]
end
theorem retQ_cell {P : Program} {fn : Func} {p : Tmp} {ty : TypeId} {st : St} {x : V} {v d : D} (hr : fn.results = #[.cell p ty]) (hx : lookB st.env p = some x) (hl : loadS P st.h ty x = some (.d v)) (hle : v.le d) : retQ P fn d .ret st := by
  refine ⟨v, ?_, hle⟩
  rw [lookB_eq] at hx
  simp only [retS, hr, retAll, retOne, hx, hl, Option.bind_some, pureV, Option.map_some]
attribute [go_sem] pureRow_map rep buildM buildD mixRow Pk.v List.getElem?_toArray List.getElem_toArray List.getElem_cons_succ List.getElem_cons_zero placesT
end Go.Proofs.YtagfaaijgfigkaaDoor
namespace Go.Proofs.YtagfaaijgfigkaaDoor
open Go.RowKit
theorem elBB : ElemT Tryd.prog 78 52 (.slice none 0 0) 1 24 := ⟨Tryd.underlying78, by kernel_rfl, rfl, by decide⟩
theorem eqCells_bytes : ∀ (s t : List UInt8), s.length = t.length → eqCells (List.replicate s.length (.int .u8)) (rowS s) (rowS t) = some (decide (s = t)) := by
  intro s
  induction s with
  | nil => intro t h; cases t with
    | nil => rfl
    | cons => simp at h
  | cons a s ih =>
    intro t h
    cases t with
    | nil => simp at h
    | cons b t =>
      simp only [List.length_cons, Nat.add_right_cancel_iff] at h
      have hab : ((a.toNat : Int) == (b.toNat : Int)) = decide (a = b) := by
        rw [Bool.eq_iff_iff, beq_iff_eq, decide_eq_true_eq]
        constructor
        · intro e; exact UInt8.toNat_inj.1 (by omega)
        · intro e; rw [e]
      have ih' := ih t h
      simp only [rowS, List.map_cons, List.length_cons, List.replicate_succ, byteD, eqCells, sameV, if_true, Option.bind_some] at ih' ⊢
      rw [ih', Option.map_some, hab, ← Bool.decide_and]
      congr 1
      simp only [List.cons.injEq]
theorem eq_sum {s t : List UInt8} (h1 : s.length = 32) (h2 : t.length = 32) : eqAgg Tryd.prog 39 (.d (.agg 32 (rowS s))) (.d (.agg 32 (rowS t))) = some (decide (s = t)) := by
  have hg : Tryd.prog.eqGuardType Tryd.prog.depth 39 = false := by kernel_rfl
  have hk : kindsT Tryd.prog 39 = some (List.replicate 32 (.int .u8)) := by kernel_rfl
  have := eqCells_bytes s t (by rw [h1, h2])
  rw [h1] at this
  simp only [eqAgg, hg, if_true, hk, Option.bind_some, this]
theorem sumD_length {s : List UInt8} (h : s.length = 32) : (rowS s).length = 32 := by simp [rowS, h]
set_option maxRecDepth 100000
end Go.Proofs.YtagfaaijgfigkaaDoor
namespace Go.Proofs.YtagfaaijgfigkaaDoor
open Go.RowKit
set_option maxRecDepth 100000
section
variable (P : Program) (t : TypeId) (x y : Operand)
end
end Go.Proofs.YtagfaaijgfigkaaDoor
namespace Go.Proofs.YtagfaaijgfigkaaDoor
open Go.RowKit
set_option maxRecDepth 100000
end Go.Proofs.YtagfaaijgfigkaaDoor
namespace Go.Proofs.YtagfaaijgfigkaaDoor
open Go.RowKit
set_option maxRecDepth 100000
theorem rowB_one (l : List UInt8) (b : UInt8) : List.map rowB l ++ [[byteD b]] = List.map rowB (l ++ [b]) := by simp [rowB]
end Go.Proofs.YtagfaaijgfigkaaDoor
namespace Go.Proofs.YtagfaaijgfigkaaDoor
open Go.RowKit
set_option maxRecDepth 100000
theorem rowE_one (l : List (List UInt8)) (x : List UInt8) : List.map rowE l ++ [[bytesL x]] = List.map rowE (l ++ [x]) := by simp [rowE]
end Go.Proofs.YtagfaaijgfigkaaDoor
namespace Go.Proofs.YtagfaaijgfigkaaDoor
open Go.RowKit
section
variable {P : Program} {o : Oper} {a : Act} {w : World} {Q : Exit → Act → World → Prop}
theorem wp_callV {K : Act → World → Prop} (f : FuncId) (hcall : ∀ args w, (callFunc f args).run P w = .ok (.enter f args) w) (x : Operand) (xs : Array Operand) (ts : Array TypeId) (ho : o.op = .call ⟨.value x, xs, ts⟩) (us : List Value) (hx : a.eval x = .func (.func f) #[] us.toArray)
    (vs : List Value) (hv : xs.toList.map a.eval = vs) (h : Calls P f (vs ++ us).toArray w fun e w' => ∃ v, e = .returned v ∧ K (a.put o.dst v) w') : o.wp P a w K Q := by
  unfold Oper.wp
  have hv' : xs.map a.eval = vs.toArray := by rw [← hv, ← Array.toList_map]
  have : (execOp a.eval o).run P w = .ok (.enter f (vs ++ us).toArray) w := by
    have e : execOp a.eval o = callFunc f (#[] ++ xs.map a.eval ++ us.toArray) := by
      simp only [execOp, ho]
      show (do let d ← Deferred.ofValue (a.eval x) (xs.map a.eval); invoke d.target d.args : Sem Next) = _
      rw [hx]; rfl
    rw [e, hcall, hv']
    simp
  rw [this, Oper.upon_enter]
  refine h.mono ?_
  rintro e w' ⟨v, rfl, hK⟩
  exact hK
end
theorem outs_append {C : Facts} {ds es : List D} : ∀ {vs us : List Value}, Rp C (.outs ds vs) → Rp C (.outs es us) → Rp C (.outs (ds ++ es) (vs ++ us)) := by
  induction ds with
  | nil => intro vs us h k; cases h; exact k
  | cons d ds ih => intro vs us h k; cases h with | ocons _ v _ vs h1 h2 => exact .ocons d v _ _ h1 (ih h2 k)
section
variable {P : Program} {G : Nat → Option D} {N : Nat} {F : Fr} {ops : Array Oper} {rest : List Oper} {o : Oper} {Q : Exit → St → Prop} {st : St} {h0 : List (Nat × Blk)}
theorem SmL.callF (hF : Env F P G N) (hN : St.small N st) {f : FuncId} {x : Operand} {xs : Array Operand} {ts : Array TypeId} {t : Tmp} {ds caps : List D} {r : D} (hg : guardS ops st.env o.guard = some true) (ho : o.op = .call ⟨.value x, xs, ts⟩) (hd : o.dst = some t) (hb : hasBody P f = true)
    (hx : evD G st.env x = some (.d (.fn f caps))) (hargs : evArgs (evD G st.env) xs.toList = some ds) (ht : t < N) (hc : CallsD P G f (ds ++ caps) r)
    (k : SmL F ops rest Q { st with env := (t, .d r) :: st.env }) : SmL F ops (o :: rest) Q st := by
  intro μ C a w hs
  obtain ⟨rfl, rfl, hG⟩ := hF
  have hev : ∀ x v, evD G st.env x = some v → RepV μ C v (a.eval x) := fun x v h => evD_ok hs hG h
  refine wpS_step (fun _ => by rw [ho]; simp) fun K hK => ?_
  rw [guardS_ok hs hg hN, if_pos rfl]
  have hfv := hev x _ hx
  generalize hfx : a.eval x = fv at hfv
  cases hfv with
  | fn _ _ us hu =>
    refine wp_callV f (fun a w => hcall_of hb a w) x xs ts ho us hfx (xs.toList.map a.eval) rfl ?_
    refine (hc C w _ (hG.mono hs.sub) hs.known (outs_append (evArgs_ok hev hargs) hu)).mono ?_
    rintro e w' ⟨v, C', rfl, hm, hr⟩
    exact ⟨v, rfl, by rw [hd]; exact hK _ _ (k μ C' _ w' ((hs.more hm).put ht hr))⟩
theorem OpGives.callF (hF : Env F P G N) {env : List (Nat × V)} {f : FuncId} {x : Operand} {xs : Array Operand} {ts : Array TypeId} {ds caps : List D} {r : D} (ho : o.op = .call ⟨.value x, xs, ts⟩) (hb : hasBody P f = true)
    (hx : evD G env x = some (.d (.fn f caps))) (hargs : evArgs (evD G env) xs.toList = some ds) (hc : CallsD P G f (ds ++ caps) r) : OpGives F G h0 o env (.d r) := by
  intro μ C a w nx' hh hs hold hop K Q hK
  obtain ⟨rfl, rfl, hG⟩ := hF
  have hxs : ∀ y ∈ xs.toList, ∀ v, evD G env y = some v → RepV μ C v (a.eval y) := fun y hy v hv => hop y (by rw [ho]; simp [Op.operands, Call.operands]; exact .inr (by simpa using hy)) v hv
  have hfv : RepV μ C (.d (.fn f caps)) (a.eval x) := hop x (by rw [ho]; simp [Op.operands, Call.operands]) _ hx
  have hrep : ∀ {ys : List Operand} {es : List D}, (∀ y ∈ ys, ∀ v, evD G env y = some v → RepV μ C v (a.eval y)) → evArgs (evD G env) ys = some es → Rp C (.outs es (ys.map a.eval)) := by
    intro ys
    induction ys with
    | nil => intro es _ h; cases h; exact .onil
    | cons y ys ih =>
      intro es hy h
      simp only [evArgs, Option.bind_eq_some_iff] at h
      obtain ⟨v, hv, h⟩ := h
      split at h
      · rename_i d
        simp only [Option.map_eq_some_iff] at h
        obtain ⟨r, hr, rfl⟩ := h
        exact .ocons _ _ _ _ (hy y (by simp) _ hv) (ih (fun z hz => hy z (by simp [hz])) hr)
      · cases h
  generalize hfx : a.eval x = fv at hfv
  cases hfv with
  | fn _ _ us hu =>
    refine wp_callV f (fun a w => hcall_of hb a w) x xs ts ho us hfx (xs.toList.map a.eval) rfl ?_
    refine (hc C w _ (hG.mono hs.sub) hs.known (outs_append (hrep hxs hargs) hu)).mono ?_
    rintro e w' ⟨v, C', rfl, hm, hr⟩
    exact ⟨v, rfl, hK v w' C' hm hr⟩
end
section
variable {P : Program} {G : Nat → Option D} {N : Nat} {F : Fr} {ops rest : List Oper} {o : Oper} {Q : Exit → St → Prop} {env : List (Nat × V)} {h : List (Nat × Blk)} {nx : Nat} {al : List (Nat × Blk)} {K : List (Nat × V) → List (Nat × Blk) → Nat → Prop}
theorem SmG.callF (hF : Env F P G N) {f : FuncId} {x : Operand} {xs : List Operand} {ts : Array TypeId} {t : Tmp} {ds caps : List D} {r : D} (ho : o.op = .call ⟨.value x, xs.toArray, ts⟩) (hd : o.dst = some t) (ht : Nat.blt t N = true)
    (hg : guardB ops env o.guard = some true) (hx : evB G env x = some (.d (.fn f caps))) (hargs : evArgs (evB G env) xs = some ds) (hb : hasBody P f = true) (hc : CallsD P G f (ds ++ caps) r)
    (k : SmG F N ops rest Q ⟨(t, .d r) :: env, h, nx⟩) : SmG F N ops (o :: rest) Q ⟨env, h, nx⟩ := by
  have ht' : t < N := by simpa [Nat.blt_eq] using ht
  intro hs
  rw [evB_eq] at hx
  exact SmL.callF hF hs (guardB_ok hg) ho hd hb hx (evArgs_B (by simpa using hargs)) ht' hc (k (small_put hs ht'))
theorem Head.cf (hF : Env F P G N) {f : FuncId} {x : Operand} {xs : List Operand} {ts : Array TypeId} {t : Tmp} {ds caps : List D} {r : D} (ho : o.op = .call ⟨.value x, xs.toArray, ts⟩) (hd : o.dst = some t) (ht : Nat.blt t N = true)
    (hg : guardB ops env o.guard = some true) (hx : evB G env x = some (.d (.fn f caps))) (hargs : evArgs (evB G env) xs = some ds) (hb : hasBody P f = true) (hc : CallsD P G f (ds ++ caps) r)
    (k : Head F G N ops.toArray h rest ((t, .d r) :: env) al nx K) : Head F G N ops.toArray h (o :: rest) env al nx K := by
  rw [evB_eq] at hx
  exact .inl ⟨t, hd, by simpa [Nat.blt_eq] using ht, .inl ⟨_, .inl ⟨guardB_ok hg, .callF hF ho hb hx (evArgs_B (by simpa using hargs)) hc⟩, k⟩⟩
theorem opV_makeFunc {f : FuncId} {caps : List Operand} {ds : List D} (ho : o.op = .makeFunc (.func f) #[] caps.toArray) (hx : evArgs (evB G env) caps = some ds) : opV P (evD G env) h o = some (.d (.fn f ds)) := by
  have := evArgs_B hx
  simp [opV, ho, this]
end
end Go.Proofs.YtagfaaijgfigkaaDoor
namespace Go.Proofs.YtagfaaijgfigkaaDoor
open Go.RowKit
set_option maxRecDepth 100000
structure Res where
  out : Int
  n : Int
  deriving DecidableEq
def Res.row (r : Res) : List D := [.v (.int .i64 r.out), .v (.int .i64 r.n)]
def resD (r : Res) : D := .agg 2 r.row
def ressL (l : List Res) : D := .list 2 (l.map Res.row) false
structure Wk where
  kind : Int
  at_ : Int
  n : Int
  by_ : Res
def Wk.row (x : Wk) : List D := [.v (.int .i64 x.kind), .v (.int .i64 x.at_), .v (.int .i64 x.n), .v (.int .i64 x.by_.out), .v (.int .i64 x.by_.n)]
def wkD (x : Wk) : D := .agg 5 x.row
theorem elRes : ElemT Tryd.prog 27 34 (.agg #[.int .i64 0, .int .i64 0]) 2 16 := ⟨Tryd.underlying27, by kernel_rfl, rfl, by decide⟩
def lowByte (n : Int) : UInt8 := UInt8.ofNat (n % 256).toNat
def resBytes (r : Res) : List UInt8 := [lowByte r.out, lowByte (r.n / 16777216), lowByte (r.n / 65536), lowByte (r.n / 256), lowByte r.n]
theorem conv_low {P : Program} {s d : TypeId} {td : TypeDesc} {k2 : IntKind} (n : Int) (h1 : P.underlying s = some td) (h2 : P.underlying d = some (.int .u8)) : convS P s d (.d (.v (.int k2 n))) = some (.d (byteD (lowByte n))) := by
  simp only [convS, rc_int P .u8 n s d h1 h2 k2, Option.map_some, byteD, lowByte]
  have : IntKind.u8.wrap n = ((UInt8.ofNat (n % 256).toNat).toNat : Int) := by
    rw [IntKind.wrap_u8']
    rw [show (UInt8.ofNat (n % 256).toNat).toNat = (n % 256).toNat from by simp; omega]
    omega
  rw [this]
theorem rd_shrI (P : Program) (t : TypeId) (x y : Operand) (a : Int) (n : Nat) {b : Int} (k2 : IntKind) (hb : b = (n : Int)) (hn : n ≤ 64) : reck P (do eqGuard .shr t x y (.int .i64 a) (.int k2 b); binOp .shr t (.int .i64 a) (.int k2 b)) = some (.int .i64 (a / 2 ^ n)) := by
  rw [rb_shr P t x y .i64 a b k2 (by omega)]
  subst hb
  have : min ((n : Int).toNat) IntKind.i64.bits = n := by show min _ 64 = n; omega
  rw [this, Int.fdiv_eq_ediv_of_nonneg _ (Int.le_of_lt (Int.pow_pos (by omega)))]
theorem bytes_at (r : Res) (i : Nat) (h : i < 4) : (resBytes r).take (i + 1) ++ [lowByte (r.n / 2 ^ (24 - 8 * i))] = (resBytes r).take (i + 2) := by
  rcases i with _ | _ | _ | _ | i
  · rfl
  · rfl
  · rfl
  · show _ ++ [lowByte (r.n / 1)] = _
    rw [Int.ediv_one]; rfl
  · omega
theorem workBytes_D (r : Res) (G : Nat → Option D) : CallsD Tryd.prog G 24 [resD r] (bytesL (resBytes r)) := by
  refine CallsD.of Tryd.func24 rfl Tryd.ntmps24 (by simp) ?_; intro F hF h0 hT; simp only [List.zipIdx_cons, List.zipIdx_nil, List.map_cons, List.map_nil, Nat.zero_add, Nat.reduceAdd]
  refine Sm.seq ?_
  refine Sm.regionG hF rfl ?_
  refine SmG.new hF rfl rfl rfl (opS_box rfl rfl (by simp (disch := omega) only [go_sem, Nat.reduceEqDiff, iteP, resD, Res.row, rowB, bytesL] <;> rfl)) ?_
  refine SmG.v hF rfl rfl rfl (opV_assign rfl rfl) ?_
  refine SmG.nil ?_
  refine nextS_normal ?_
  refine Sm.seq ?_
  refine Sm.regionG hF rfl ?_
  refine SmG.v hF rfl rfl rfl (opV_fieldAddr rfl rfl (by simp (disch := omega) only [go_sem, Nat.reduceEqDiff, iteP, resD, Res.row, rowB, bytesL] <;> rfl)) ?_
  refine SmG.v hF rfl rfl rfl (opV_load rfl rfl (by simp (disch := omega) only [go_sem, Nat.reduceEqDiff, iteP, resD, Res.row, rowB, bytesL] <;> rfl)) ?_
  refine SmG.v hF rfl rfl rfl (opV_conv rfl rfl (conv_low _ Tryd.underlying3 Tryd.underlying5)) ?_
  refine SmG.buildOwn hF rfl rfl rfl rfl rfl (by simp (disch := omega) only [go_sem, Nat.reduceEqDiff, iteP, resD, Res.row, rowB, bytesL] <;> rfl) (by simp) ?_
  refine SmG.v hF rfl rfl rfl (opV_assign rfl rfl) ?_
  refine SmG.nil ?_
  refine nextS_normal ?_
  refine Sm.seq ?_
  refine Sm.seq ?_
  refine Sm.regionG hF rfl ?_
  refine SmG.v hF rfl rfl rfl (opV_assign rfl rfl) ?_
  refine SmG.nil ?_
  refine nextS_normal ?_
  refine Sm.block ?_
  refine Sm.loop (ι := {i : Nat // i ≤ 4}) (fun i => ⟨[(1, .ref 0 0 0), (3, .sref 1 0 (((resBytes r).take (i.1 + 1)).map rowB).length), (4, .d (.v (.int .i64 (24 - 8 * (i.1 : Int)))))], [(1, dB 1 (((resBytes r).take (i.1 + 1)).map rowB)), (0, dB 2 [r.row])], 2⟩) (fun i => 4 - i.1) (⟨0, by omega⟩) ?_ ?_
  · exact St.le_of (by simp [leE, look, constD, resBytes]) ⟨rfl, rfl, trivial⟩ (Nat.le_refl _)
  have hl5 : (resBytes r).length = 5 := rfl
  rintro ⟨i, hi⟩
  simp only
  have hlen : ((resBytes r).take (i + 1)).length = i + 1 := by rw [List.length_take]; simp [resBytes]; omega
  by_cases hlt : i < 4
  · have hrow : List.map rowB ((resBytes r).take (i + 1)) ++ [[D.v (.int .u8 ((lowByte (r.n / 2 ^ (24 - 8 * i))).toNat : Int))]] = List.map rowB ((resBytes r).take (i + 1 + 1)) := by
      show _ ++ [[byteD _]] = _
      rw [rowB_one, bytes_at r i hlt]
    refine Sm.seq ?_
    refine Sm.seq ?_
    refine Sm.regionG hF rfl ?_
    refine SmG.v hF rfl rfl rfl (opV_move rfl rfl) ?_
    refine SmG.v hF rfl rfl rfl (opV_bin rfl rfl rfl (by first | exact rd_geqT _ _ _ _ _ (by omega) | exact rd_geqF _ _ _ _ _ (by omega) | exact rb_geq _ _ _ _ _ _ _)) ?_
    refine SmG.nil ?_
    refine nextS_normal ?_
    refine Sm.condT hF rfl ?_
    refine Sm.skip ?_
    refine nextS_normal ?_
    refine Sm.seq ?_
    refine Sm.block ?_
    refine Sm.regionG hF rfl ?_
    refine SmG.v hF rfl rfl rfl (opV_move rfl rfl) ?_
    refine SmG.v hF rfl rfl rfl (opV_fieldAddr rfl rfl (by simp (disch := omega) only [go_sem, Nat.reduceEqDiff, iteP, Res.row, rowB] <;> rfl)) ?_
    refine SmG.v hF rfl rfl rfl (opV_load rfl rfl (by simp (disch := omega) only [go_sem, Nat.reduceEqDiff, iteP, Res.row, rowB] <;> rfl)) ?_
    refine SmG.v hF rfl rfl rfl (opV_move rfl rfl) ?_
    refine SmG.v hF rfl rfl rfl (opV_bin rfl rfl rfl (rd_shrI _ _ _ _ _ (24 - 8 * i) _ (by omega) (by omega))) ?_
    refine SmG.v hF rfl rfl rfl (opV_conv rfl rfl (conv_low _ Tryd.underlying3 Tryd.underlying5)) ?_
    refine SmG.v hF rfl rfl rfl (opV_buildSlice rfl rfl (by simp (disch := omega) only [go_sem, Nat.reduceEqDiff, iteP, Res.row, rowB] <;> rfl)) ?_
    refine SmG.appendOwn hF elU8 rfl rfl rfl rfl rfl rfl rfl (by first | rfl | (simp; done) | (simp; omega)) (Or.inl rfl) (by (repeat' first | exact freeH_nil _ | refine freeH_same ?_ | refine freeH_cons ?_ (free_dB _ _ _) | refine freeH_cons ?_ (free_dB _ _ [_]) | refine freeH_cons ?_ (free_row (by rfl)))) ?_ ?_ ?_; rotate_left; rotate_left; simp only [killV, Pk.v, V.free, rep, bne_self_eq_false, Nat.reduceAdd, Nat.reduceBNe, Nat.reduceBEq, Nat.reduceEqDiff, reduceIte, Bool.false_eq_true]
    rotate_left
    · simp only [List.length_map, List.length_cons, List.length_nil]; omega
    · simp only [List.length_map, List.length_cons, List.length_nil]; omega
    refine SmG.v hF rfl rfl rfl (opV_assign rfl rfl) ?_
    refine SmG.nil ?_
    refine blockS_normal ?_
    refine nextS_normal ?_
    refine Sm.regionG hF rfl ?_
    refine SmG.v hF rfl rfl rfl (opV_move rfl rfl) ?_
    refine SmG.v hF rfl rfl rfl (opV_bin rfl rfl rfl (by first | exact rd_sub _ _ _ _ _ (wrapI64 _ (by omega)) | exact rb_sub _ _ _ _ _ _ _)) ?_
    refine SmG.v hF rfl rfl rfl (opV_assign rfl rfl) ?_
    refine SmG.nil ?_
    refine nextS_normal ?_
    exact ⟨⟨i + 1, by omega⟩, by show 4 - (i + 1) < 4 - i; omega, by exact St.le_of (by first | (simp [leE, look, constD] <;> omega) | (simp [leE, look, constD, hrow] <;> omega)) (by simp only [leH, look, rep, reduceIte, Nat.reduceEqDiff, List.set_cons_zero, List.set_cons_succ, hrow, and_self, and_true, and_false, false_and, if_true, if_false] <;> (repeat' first | rfl | constructor)) (by first | exact Nat.le_refl _ | (dsimp only; omega))⟩
  · obtain rfl : i = 4 := by omega
    refine Sm.seq ?_
    refine Sm.seq ?_
    refine Sm.regionG hF rfl ?_
    refine SmG.v hF rfl rfl rfl (opV_move rfl rfl) ?_
    refine SmG.v hF rfl rfl rfl (opV_bin rfl rfl rfl (by first | exact rd_geqT _ _ _ _ _ (by omega) | exact rd_geqF _ _ _ _ _ (by omega) | exact rb_geq _ _ _ _ _ _ _)) ?_
    refine SmG.nil ?_
    refine nextS_normal ?_
    refine Sm.condF hF rfl ?_
    refine Sm.freeze (l := 1) _ rfl ?_
    simp only [Pk.v, frzE, frzV, dropH,  reduceIte, Nat.reduceAdd, Nat.zero_add, List.length_map, List.length_append, Nat.le_refl, true_and, and_self, if_true, Nat.reduceEqDiff, true_and]
    refine Sm.exit ?_
    simp only [nextS, blockS, reduceIte, reduceCtorEq]
    refine Sm.seq ?_
    refine Sm.regionG hF rfl ?_
    refine SmG.v hF rfl rfl rfl (opV_move rfl rfl) ?_
    refine SmG.v hF rfl rfl rfl (opV_assign rfl rfl) ?_
    refine SmG.nil ?_
    refine nextS_normal ?_
    refine Sm.ret ?_
    refine ⟨_, rfl, ?_⟩; dsimp only
    exact D.le.refl _
end Go.Proofs.YtagfaaijgfigkaaDoor
namespace Go.Proofs.YtagfaaijgfigkaaDoor
open Go.RowKit
set_option maxRecDepth 100000
theorem lt_three (k : Blk) (sz sz' : Nat) (rows rows' : List (List D)) : ltH 2 [(2, k), (1, dB sz rows), (0, dB sz' rows')] := ltH_over (ltH_cons (ltH_cons (ltH_nil _) (lt_dB _ sz' rows')) (lt_dB _ sz rows)) (Nat.le_refl _)
theorem fit_bytes (l : List Res) (hl : l.length ≤ 1000000) : Fit (l.map resBytes) := ⟨by simpa using hl, fun x hx => by
  obtain ⟨r, _, rfl⟩ := List.mem_map.1 hx
  simp [resBytes]⟩
theorem workRoot_D (l : List Res) (hl : l.length ≤ 1000000) : CallsD Tryd.prog HG 22 [ressL l] (sumD (Sha.root (l.map resBytes))) := by
  have hR := root_D _ (fit_bytes l hl)
  have hRl := Sha.root_len (l.map resBytes)
  generalize Sha.root (l.map resBytes) = R at hR hRl ⊢
  refine CallsD.of Tryd.func22 rfl Tryd.ntmps22 (by simp) ?_; intro F hF h0 hT; simp only [List.zipIdx_cons, List.zipIdx_nil, List.map_cons, List.map_nil, Nat.zero_add, Nat.reduceAdd]
  refine Sm.seq ?_
  refine Sm.regionG hF rfl ?_
  refine SmG.new hF rfl rfl rfl (opS_alloc rfl al39) ?_
  refine SmG.nil ?_
  refine nextS_normal ?_
  refine Sm.seq ?_
  refine Sm.regionG hF rfl ?_
  refine SmG.v hF rfl rfl rfl (opV_assign rfl rfl) ?_
  refine SmG.nil ?_
  refine nextS_normal ?_
  refine Sm.seq ?_
  refine Sm.seq ?_
  refine Sm.regionG hF rfl ?_
  refine SmG.v hF rfl rfl rfl (opV_move rfl rfl) ?_
  refine SmG.v hF rfl rfl rfl (opV_len rfl rfl (by simp (disch := omega) only [go_sem, Nat.reduceEqDiff, iteP, ressL, Res.row, resD, rowE, bytesL] <;> rfl)) ?_
  refine SmG.v hF rfl rfl rfl (opV_move rfl rfl) ?_
  refine SmG.nil ?_
  refine nextS_normal ?_
  refine Sm.block ?_
  refine Sm.own (t := 3) (sz := 0) 1 rfl ?_
  refine Sm.loop (ι := {i : Nat // i ≤ l.length}) (fun i => ⟨[(2, .ref 0 0 0), (3, .sref 1 0 (((l.map resBytes).take i.1).map rowE).length), (6, .d (ressL l)), (7, .d (.v (.int .i64 l.length))), (8, .d (.v (.int .i64 i.1)))], [(1, dB 1 (((l.map resBytes).take i.1).map rowE)), (0, dB 32 [rowS (List.replicate 32 0)])], 2⟩) (fun i => l.length - i.1) (⟨0, by omega⟩) ?_ ?_
  · exact St.le_of (by simp [leE, look, constD, ressL]) ⟨rfl, rfl, trivial⟩ (Nat.le_refl _)
  rintro ⟨i, hi⟩
  simp only
  by_cases hlt : i < l.length
  · have hri : l[i]? = some l[i] := by simp
    have htk : (l.map resBytes).take (i + 1) = (l.map resBytes).take i ++ [resBytes l[i]] := by rw [List.take_succ_eq_append_getElem (by simpa using hlt)]; simp
    have hlen : ((l.map resBytes).take i).length = i := by rw [List.length_take, List.length_map]; omega
    generalize l[i] = r at hri htk
    have k1 := workBytes_D r HG
    have hrow := rowE_one ((l.map resBytes).take i) (resBytes r)
    rw [← htk] at hrow
    refine Sm.seq ?_
    refine Sm.regionG hF rfl ?_
    refine SmG.v hF rfl rfl rfl (opV_bin rfl rfl rfl (by first | exact rd_lssT _ _ _ _ _ (by omega) | exact rd_lssF _ _ _ _ _ (by omega) | exact rb_lss _ _ _ _ _ _ _)) ?_
    refine SmG.nil ?_
    refine nextS_normal ?_
    refine Sm.seq ?_
    refine Sm.condT hF rfl ?_
    refine Sm.skip ?_
    refine nextS_normal ?_
    refine Sm.seq ?_
    refine Sm.block ?_
    refine Sm.seq ?_
    refine Sm.regionG hF rfl ?_
    refine SmG.v hF rfl rfl rfl (opV_indexAddr rfl rfl rfl (by simp (disch := omega) only [go_sem, Nat.reduceEqDiff, iteP, ressL, hri, Res.row] <;> rfl)) ?_
    refine SmG.v hF rfl rfl rfl (opV_load rfl rfl (by simp (disch := omega) only [go_sem, Nat.reduceEqDiff, iteP, ressL, hri, Res.row] <;> rfl)) ?_
    refine SmG.new hF rfl rfl rfl (opS_alloc rfl al34) ?_
    refine SmG.store hF rfl rfl rfl rfl rfl (by simp (disch := omega) only [go_sem, Nat.reduceEqDiff, iteP, ressL, hri, Res.row] <;> rfl) ?_
    refine SmG.nil ?_
    refine nextS_normal ?_
    refine Sm.regionG hF rfl ?_
    refine SmG.v hF rfl rfl rfl (opV_move rfl rfl) ?_
    refine SmG.v hF rfl rfl rfl (opV_load rfl rfl (by simp (disch := omega) only [go_sem, Nat.reduceEqDiff, iteP, ressL, hri, Res.row] <;> rfl)) ?_
    refine SmG.call hF rfl rfl (by kernel_rfl) rfl rfl rfl (k1) ?_
    refine SmG.v hF rfl rfl rfl (opV_buildSlice rfl rfl (by simp (disch := omega) only [go_sem, Nat.reduceEqDiff, iteP, ressL, hri, Res.row] <;> rfl)) ?_
    refine SmG.appendOwn hF elBB rfl rfl rfl rfl rfl rfl rfl (by first | rfl | (simp; done) | (simp; omega)) (Or.inl rfl) (by (repeat' first | exact freeH_nil _ | refine freeH_same ?_ | refine freeH_cons ?_ (free_dB _ _ _) | refine freeH_cons ?_ (free_dB _ _ [_]) | refine freeH_cons ?_ (free_row (by rfl)))) ?_ ?_ ?_; rotate_left; rotate_left; simp only [killV, Pk.v, V.free, rep, bne_self_eq_false, Nat.reduceAdd, Nat.reduceBNe, Nat.reduceBEq, Nat.reduceEqDiff, reduceIte, Bool.false_eq_true]
    rotate_left
    · simp only [List.length_map, List.length_cons, List.length_nil]; omega
    · simp only [List.length_map, List.length_cons, List.length_nil]; omega
    rw [hrow]
    refine SmG.cut 2 (by exact lt_three _ _ _ _ [rowS (List.replicate 32 0)]) ?_; simp only [Pk.v, cutE, cutH, V.lt, Nat.reduceAdd, Nat.reduceLT, decide_true, decide_false, reduceIte, Bool.false_eq_true, Nat.lt_irrefl, Nat.not_lt_zero, Nat.zero_lt_one, Nat.zero_lt_succ, Nat.zero_lt_two, Nat.one_lt_two]
    refine SmG.v hF rfl rfl rfl (opV_assign rfl rfl) ?_
    refine SmG.nil ?_
    refine blockS_normal ?_
    refine nextS_normal ?_
    refine Sm.regionG hF rfl ?_
    refine SmG.v hF rfl rfl rfl (opV_bin rfl rfl rfl (by first | exact rd_add _ _ _ _ _ (wrapI64 _ (by omega)) | exact rb_add _ _ _ _ _ _ _)) ?_
    refine SmG.v hF rfl rfl rfl (opV_move rfl rfl) ?_
    refine SmG.nil ?_
    refine nextS_normal ?_
    exact ⟨⟨i + 1, by omega⟩, by show l.length - (i + 1) < l.length - i; omega, by exact St.le_of (by simp [leE, look, constD]) (by simp [leH, look, rep]) (by first | exact Nat.le_refl _ | (dsimp only; omega))⟩
  · have hall : (l.map resBytes).take i = l.map resBytes := List.take_of_length_le (by simp; omega)
    rw [hall]
    refine Sm.seq ?_
    refine Sm.regionG hF rfl ?_
    refine SmG.v hF rfl rfl rfl (opV_bin rfl rfl rfl (by first | exact rd_lssT _ _ _ _ _ (by omega) | exact rd_lssF _ _ _ _ _ (by omega) | exact rb_lss _ _ _ _ _ _ _)) ?_
    refine SmG.nil ?_
    refine nextS_normal ?_
    refine Sm.seq ?_
    refine Sm.condF hF rfl ?_
    refine Sm.freeze (l := 1) _ rfl ?_
    simp only [Pk.v, frzE, frzV, dropH,  reduceIte, Nat.reduceAdd, Nat.zero_add, List.length_map, List.length_append, Nat.le_refl, true_and, and_self, if_true, Nat.reduceEqDiff, true_and]
    refine Sm.exit ?_
    simp only [nextS, blockS, reduceIte, reduceCtorEq]
    refine Sm.seq ?_
    refine Sm.regionG hF rfl ?_
    refine SmG.v hF rfl rfl rfl (opV_move rfl rfl) ?_
    refine SmG.call hF rfl rfl (by kernel_rfl) rfl rfl rfl (hR) ?_
    refine SmG.store hF rfl rfl rfl rfl rfl (by simp (disch := omega) only [go_sem, Nat.reduceEqDiff, iteP, sumD, sumD_length, hRl] <;> rfl) ?_
    refine SmG.nil ?_
    refine nextS_normal ?_
    refine Sm.ret ?_
    refine retQ_cell rfl rfl (by simp (disch := omega) only [go_sem, Nat.reduceEqDiff, iteP, sumD_length, hRl] <;> rfl) ?_
    exact D.le.refl _
end Go.Proofs.YtagfaaijgfigkaaDoor
namespace Go.Proofs.YtagfaaijgfigkaaDoor
open Go.RowKit
section
variable {P : Program} {G : Nat → Option D} {N : Nat} {F : Fr} {ops : Array Oper} {rest : List Oper} {o : Oper} {Q : Exit → St → Prop} {st : St}
theorem run_nilEq {t e : TypeId} (hu : P.underlying t = some (.slice e)) (x y : Operand) (a : Option Addr) (n cap : Nat) (w : World) :
    (do eqGuard .eql t x y (.slice a n cap) (.slice none 0 0); binOp .eql t (.slice a n cap) (.slice none 0 0) : Sem Value).run P w = .ok (.bool a.isNone) w := by
  have h1 : (eqGuard .eql t x y (.slice a n cap) (.slice none 0 0)).run P w = .ok () w := rfl
  have h2 : (Op.equal t (.slice a n cap) (.slice none 0 0)).run P w = .ok a.isNone w := by
    show (Op.equalIn (9999 + 1) t _ _).run P w = _
    unfold Op.equalIn
    simp only [Sem.run_bind, run_underlying hu, Result.andThen_ok]
    cases a <;> rfl
  have h3 : binOp .eql t (.slice a n cap) (.slice none 0 0) = (do pure (.bool (← Op.equal t (.slice a n cap) (.slice none 0 0))) : Sem Value) := rfl
  rw [Sem.run_bind, h1, Result.andThen_ok, h3, Sem.run_bind, h2, Result.andThen_ok]
  rfl
theorem SmL.nilEq (hF : Env F P G N) (hN : St.small N st) {t e yt : TypeId} (hu : P.underlying t = some (.slice e)) {x : Operand} {d : Tmp} {sz : Nat} {xs : List (List D)} {f : Bool} (hg : guardS ops st.env o.guard = some true) (ho : o.op = .binOp .eql t x (.const (.slice none 0 0)) yt) (hd : o.dst = some d) (hdN : d < N)
    (hx : evD G st.env x = some (.d (.list sz xs f))) (k : ∀ b : Bool, (xs ≠ [] → b = false) → SmL F ops rest Q { st with env := (d, .d (.v (.bool b))) :: st.env }) : SmL F ops (o :: rest) Q st := by
  intro μ C a w hs
  obtain ⟨rfl, rfl, hG⟩ := hF
  refine wpS_step (fun _ => by rw [ho]; simp) fun K hK => ?_
  rw [guardS_ok hs hg hN, if_pos rfl]
  obtain ⟨ao, cap, e1, hcap, hr⟩ := Rep.elem (evD_ok hs hG hx)
  unfold Oper.wp
  have hex : (execOp a.eval o).run F.P w = .ok (.value (.bool ao.isNone)) w := by
    have := run_nilEq (P := F.P) hu x (.const (.slice none 0 0)) ao xs.length cap w
    rw [← e1] at this
    simp only [execOp, ho]
    show (do pure (.value (← (do eqGuard .eql t x (.const (.slice none 0 0)) (a.eval x) (.slice none 0 0); binOp .eql t (a.eval x) (.slice none 0 0) : Sem Value))) : Sem Next).run F.P w = _
    rw [Sem.run_bind, this, Result.andThen_ok]; rfl
  rw [hex, Oper.upon_value, hd]
  refine hK _ _ (k ao.isNone (fun hne => ?_) μ C _ w (hs.put hdN (Rp.v _)))
  obtain ⟨b, off, rfl, _⟩ := hr hne
  rfl
end
section
variable {P : Program} {G : Nat → Option D} {N : Nat} {F : Fr} {ops rest : List Oper} {o : Oper} {Q : Exit → St → Prop} {env : List (Nat × V)} {h : List (Nat × Blk)} {nx : Nat}
theorem SmG.nilEq (hF : Env F P G N) {t e yt : TypeId} (hu : P.underlying t = some (.slice e)) {x : Operand} {d : Tmp} {sz : Nat} {xs : List (List D)} {f : Bool} (ho : o.op = .binOp .eql t x (.const (.slice none 0 0)) yt) (hd : o.dst = some d) (hdN : Nat.blt d N = true) (hg : guardB ops env o.guard = some true)
    (hx : evB G env x = some (.d (.list sz xs f))) (k : ∀ b : Bool, (xs ≠ [] → b = false) → SmG F N ops rest Q ⟨(d, .d (.v (.bool b))) :: env, h, nx⟩) : SmG F N ops (o :: rest) Q ⟨env, h, nx⟩ := by
  have hdN' : d < N := by simpa [Nat.blt_eq] using hdN
  intro hsm
  rw [evB_eq] at hx
  exact SmL.nilEq hF hsm hu (guardB_ok hg) ho hd hdN' hx fun b hb => k b hb (small_put hsm hdN')
end
end Go.Proofs.YtagfaaijgfigkaaDoor
namespace Go.Proofs.YtagfaaijgfigkaaDoor
open Go.RowKit
set_option maxRecDepth 100000
theorem clone_D (l : List Res) (hl : l.length ≤ 1000000) (G : Nat → Option D) : CallsD Tryd.prog G 36 [ressL l] (ressL l) := by
  refine CallsD.of Tryd.func36 rfl Tryd.ntmps36 (by simp) ?_; intro F hF h0 hT; simp only [List.zipIdx_cons, List.zipIdx_nil, List.map_cons, List.map_nil, Nat.zero_add, Nat.reduceAdd]
  refine Sm.seq ?_
  refine Sm.regionG hF rfl ?_
  refine SmG.v hF rfl rfl rfl (opV_assign rfl rfl) ?_
  refine SmG.nil ?_
  refine nextS_normal ?_
  refine Sm.seq ?_
  refine Sm.seq ?_
  refine Sm.regionG hF rfl ?_
  refine SmG.v hF rfl rfl rfl (opV_move rfl rfl) ?_
  refine SmG.nilEq hF Tryd.underlying27 rfl rfl rfl rfl rfl (fun c hc => ?_)
  refine SmG.nil ?_
  refine nextS_normal ?_
  cases c with
  | true =>
    have h0 : l = [] := by
      rcases l with _ | ⟨r, l⟩
      · rfl
      · have := hc (by simp)
        cases this
    subst h0
    refine Sm.condT hF rfl ?_
    refine Sm.seq ?_
    refine Sm.regionG hF rfl ?_
    refine SmG.v hF rfl rfl rfl (opV_assign rfl rfl) ?_
    refine SmG.nil ?_
    refine nextS_normal ?_
    refine Sm.ret ?_
    simp only [nextS, blockS]
    refine ⟨_, rfl, ?_⟩; dsimp only
    exact D.le_nil' _ _ _
  | false =>
    refine Sm.condF hF rfl ?_
    refine Sm.skip ?_
    refine nextS_normal ?_
    refine Sm.seq ?_
    refine Sm.regionG hF rfl ?_
    refine SmG.v hF rfl rfl rfl (opV_buildSlice rfl rfl (by simp (disch := omega) only [go_sem, Nat.reduceEqDiff, iteP, ressL] <;> rfl)) ?_
    refine SmG.v hF rfl rfl rfl (opV_move rfl rfl) ?_
    refine SmG.append hF elRes rfl rfl rfl rfl rfl rfl (Or.inl rfl) (Or.inl rfl) (by simp only [List.length_map, List.length_nil]; omega) (by simp only [List.length_map, List.length_nil]; omega) ?_
    refine SmG.v hF rfl rfl rfl (opV_assign rfl rfl) ?_
    refine SmG.nil ?_
    refine nextS_normal ?_
    refine Sm.ret ?_
    refine ⟨_, rfl, ?_⟩; dsimp only
    exact D.le.refl _
theorem honest_D (x : Wk) (t at0 : Int) (l : List Res) (G : Nat → Option D) : CallsD Tryd.prog G 46 [wkD x, .v (.int .i64 t), .v (.int .i64 at0), ressL l] (.tup [ressL l, .v (.bool true)]) := by
  refine CallsD.of Tryd.func46 rfl Tryd.ntmps46 (by simp) ?_; intro F hF h0 hT; simp only [List.zipIdx_cons, List.zipIdx_nil, List.map_cons, List.map_nil, Nat.zero_add, Nat.reduceAdd]
  refine Sm.seq ?_
  refine Sm.regionG hF rfl ?_
  refine SmG.new hF rfl rfl rfl (opS_box rfl rfl (by simp (disch := omega) only [go_sem, Nat.reduceEqDiff, iteP, wkD, Wk.row] <;> rfl)) ?_
  refine SmG.v hF rfl rfl rfl (opV_assign rfl rfl) ?_
  refine SmG.v hF rfl rfl rfl (opV_assign rfl rfl) ?_
  refine SmG.nil ?_
  refine nextS_normal ?_
  refine Sm.seq ?_
  refine Sm.regionG hF rfl ?_
  refine SmG.v hF rfl rfl rfl (opV_move rfl rfl) ?_
  refine SmG.v hF rfl rfl rfl (opV_assign rfl rfl) ?_
  refine SmG.v hF rfl rfl rfl (opV_assign rfl rfl) ?_
  refine SmG.nil ?_
  refine nextS_normal ?_
  refine Sm.ret ?_
  refine ⟨_, rfl, ?_⟩; dsimp only
  exact D.le.refl _
theorem late_D (x : Wk) (t at0 : Int) (l : List Res) (G : Nat → Option D) : CallsD Tryd.prog G 47 [wkD x, .v (.int .i64 t), .v (.int .i64 at0), ressL l] (.tup [ressL l, .v (.bool (decide (x.n ≤ t)))]) := by
  refine CallsD.of Tryd.func47 rfl Tryd.ntmps47 (by simp) ?_; intro F hF h0 hT; simp only [List.zipIdx_cons, List.zipIdx_nil, List.map_cons, List.map_nil, Nat.zero_add, Nat.reduceAdd]
  refine Sm.seq ?_
  refine Sm.regionG hF rfl ?_
  refine SmG.new hF rfl rfl rfl (opS_box rfl rfl (by simp (disch := omega) only [go_sem, Nat.reduceEqDiff, iteP, wkD, Wk.row] <;> rfl)) ?_
  refine SmG.v hF rfl rfl rfl (opV_assign rfl rfl) ?_
  refine SmG.v hF rfl rfl rfl (opV_assign rfl rfl) ?_
  refine SmG.nil ?_
  refine nextS_normal ?_
  refine Sm.seq ?_
  refine Sm.drawG hF (by kernel_rfl) rfl 7 (by kernel_rfl) (by kernel_rfl) ?_
  simp only [List.take_succ_cons, List.take_zero, List.take_nil]
  refine Head.v hF rfl rfl rfl (opV_move rfl rfl) ?_
  refine Head.v hF rfl rfl rfl (opV_move rfl rfl) ?_
  refine Head.v hF rfl rfl rfl (opV_fieldAddr rfl rfl (by simp (disch := omega) only [go_sem, Nat.reduceEqDiff, iteP, wkD, Wk.row] <;> rfl)) ?_
  refine Head.v hF rfl rfl rfl (opV_load rfl rfl (by simp (disch := omega) only [go_sem, Nat.reduceEqDiff, iteP, wkD, Wk.row] <;> rfl)) ?_
  refine Head.v hF rfl rfl rfl (opV_bin rfl rfl rfl (by first | exact rd_geqT _ _ _ _ _ (by omega) | exact rd_geqF _ _ _ _ _ (by omega) | exact rb_geq _ _ _ _ _ _ _)) ?_
  refine Head.v hF rfl rfl rfl (opV_assign rfl rfl) ?_
  refine Head.v hF rfl rfl rfl (opV_assign rfl rfl) ?_
  refine Head.last ⟨rfl, ?_⟩
  simp only [List.drop_succ_cons, List.drop_zero, List.drop_nil, List.nil_append, List.cons_append]
  refine SmG.nil ?_
  refine nextS_normal ?_
  refine Sm.ret ?_
  refine ⟨_, rfl, ?_⟩; dsimp only
  exact D.le.refl _
end Go.Proofs.YtagfaaijgfigkaaDoor
namespace Go.Proofs.YtagfaaijgfigkaaDoor
open Go.RowKit
def InsOk (mt : TypeId) (t : Tmp) (kk : IntKind) : List Oper → List (Int × Operand) → Prop
  | [], [] => True
  | o :: os, e :: es => o.guard = none ∧ o.dst = none ∧ o.op = .insert mt (.tmp t) (.const (.int kk e.1)) e.2 ∧ InsOk mt t kk os es
  | _, _ => False
section
variable {P : Program} {mt kt et : TypeId} {kk kk' : IntKind}
theorem findNow_none {n : Int} : ∀ (es : List MapEntry) (i : Nat), (∀ e ∈ es, ∃ m, e.key = .int kk m ∧ m ≠ n) → Instr.findNow (.int kk') (.int kk n) es i = some none := by
  intro es
  induction es with
  | nil => intro i _; rfl
  | cons e es ih =>
    intro i h
    obtain ⟨m, hm, hne⟩ := h e (by simp)
    unfold Instr.findNow
    rw [hm]
    have : (n == m) = false := by simpa using fun e => hne e.symm
    simp only [Instr.sameNow, if_true, this]
    exact ih _ fun e he => h e (by simp [he])
theorem run_insert_new (hu : P.underlying mt = some (.map kt et)) (hkt : P.underlying kt = some (.int kk')) {w : World} {r : Nat} {es : Array MapEntry} {clock : Nat} (hb : w.heap[r]? = some (.map es clock)) {n : Int} {value : Value} (hnew : ∀ e ∈ es.toList, ∃ m, e.key = .int kk m ∧ m ≠ n) :
    (Instr.mapUpdate mt (.map (some r)) (.int kk n) value).run P w = .ok () (w.putObj r (.map (es.push ⟨.int kk n, value, clock⟩) (clock + 1))) := by
  have hget : (getObj r).run P w = .ok (.map es clock) w := by simp [getObj, Sem.run, hb]
  have hchk : (Instr.checkKey false 10000 kt (.int kk n)).run P w = .ok () w := by
    unfold Instr.checkKey
    simp [Sem.run_bind, run_underlying hkt, Result.andThen]
  have hfind : (Instr.findKey kt (.int kk n) es.toList).run P w = .ok none w := by
    unfold Instr.findKey
    simp [Sem.run_bind, run_underlying hkt, Result.andThen, findNow_none es.toList 0 hnew]
  unfold Instr.mapUpdate
  simp only [Sem.run_bind, run_underlying hu, Result.andThen_ok, hget, hchk, hfind]
  exact MapKept.run_setObj_map _ hb
theorem ins_core {F : Fr} (hu : P.underlying mt = some (.map kt et)) (hkt : P.underlying kt = some (.int kk')) {ops rest : List Oper} {Q : Exit → Act → World → Prop} {a : Act} {t : Tmp} {r B : Nat} (hB : B ≤ r) (ht : a.tmps.getD t undef = .map (some r)) :
    ∀ (ins : List Oper) (entries : List (Int × Operand)) (es : Array MapEntry) (clock : Nat) (W : World), InsOk mt t kk ins entries → W.heap[r]? = some (.map es clock) → (∀ e ∈ es.toList, ∃ m, e.key = .int kk m ∧ ∀ x ∈ entries, x.1 ≠ m) → (entries.map (·.1)).Nodup →
      (∀ W' es' clock', W'.heap[r]? = some (.map es' clock') → es'.toList.map (·.key) = es.toList.map (·.key) ++ entries.map (fun e => .int kk e.1) → es'.toList.map (·.val) = es.toList.map (·.val) ++ entries.map (fun e => a.eval e.2) → Below B W W' → wpListIn F.fz 0 P ops.toArray Q rest a W') →
      wpListIn F.fz 0 P ops.toArray Q (ins ++ rest) a W := by
  intro ins
  induction ins with
  | nil =>
    intro entries es clock W hi hr _ _ k
    cases entries with
    | cons => exact hi.elim
    | nil => exact k W es clock hr (by simp) (by simp) (Below.refl _ _)
  | cons o ins ih =>
    intro entries es clock W hi hr hk hnd k
    cases entries with
    | nil => exact hi.elim
    | cons e entries =>
      obtain ⟨hg, hd, ho, hi⟩ := hi
      rw [List.cons_append]
      refine wpS_step (fun _ => by rw [ho]; simp) fun K hK => ?_
      have hw : Region.wanted o (yielded ops.toArray a.tmps) = true := by unfold Region.wanted; rw [hg]
      rw [hw, if_pos rfl]
      have hrun := run_insert_new (P := P) hu hkt hr (n := e.1) (value := a.eval e.2) (fun x hx => by
        obtain ⟨m, hm, hne⟩ := hk x hx
        exact ⟨m, hm, fun e' => hne e (by simp) e'.symm⟩)
      have hex : (execOp a.eval o).run P W = .ok .skip (W.putObj r (.map (es.push ⟨.int kk e.1, a.eval e.2, clock⟩) (clock + 1))) := by
        simp only [execOp, ho]
        have e1 : a.eval (.tmp t) = .map (some r) := ht
        have e2 : a.eval (.const (.int kk e.1)) = .int kk e.1 := rfl
        rw [e1, e2]
        show (do Instr.mapUpdate mt (.map (some r)) (.int kk e.1) (a.eval e.2); pure .skip : Sem Next).run P W = _
        rw [Sem.run_bind, hrun]; rfl
      unfold Oper.wp
      rw [hex, Oper.upon_skip, hd]
      refine hK _ _ ?_
      have hlt := (Array.getElem?_eq_some_iff.1 hr).1
      have hput : a.put none undef = a := rfl
      rw [hput]
      have hbel : Below B W (W.putObj r (.map (es.push ⟨.int kk e.1, a.eval e.2, clock⟩) (clock + 1))) :=
        (Below.refl B W).grown (grownBy_putObj' W r _) (by omega) (fun k e => by cases e; exact hB)
      refine ih entries _ (clock + 1) _ hi (World.putObj_heap_same hlt) ?_ (List.nodup_cons.1 hnd).2 ?_
      · intro x hx
        simp only [Array.toList_push, List.mem_append, List.mem_singleton] at hx
        rcases hx with hx | rfl
        · obtain ⟨m, hm, hne⟩ := hk x hx
          exact ⟨m, hm, fun y hy => hne y (by simp [hy])⟩
        · refine ⟨e.1, rfl, fun y hy h => ?_⟩
          exact (List.nodup_cons.1 hnd).1 (by show e.1 ∈ _; rw [← h]; exact List.mem_map_of_mem hy)
      · intro W' es' clock' h1 h2 h3 h4
        exact k W' es' clock' h1 (by rw [h2]; simp) (by rw [h3]; simp) (hbel.trans h4)
end
section
variable {P : Program} {G : Nat → Option D} {N : Nat} {F : Fr} {ops rest : List Oper} {o : Oper} {Q : Exit → St → Prop} {st : St} {mt kt et : TypeId} {kk kk' : IntKind}
theorem evAll_ok {ev : Operand → Option V} {μ : Nat → Option Place} {C : Facts} {a : Act} (hev : ∀ x v, ev x = some v → RepV μ C v (a.eval x)) : ∀ {es : List (Int × Operand)} {ds : List D}, evArgs ev (es.map (·.2)) = some ds → Rp C (.outs ds (es.map fun e => a.eval e.2)) := by
  intro es ds h
  have := evArgs_ok hev h
  simpa [List.map_map, Function.comp_def] using this
theorem SmL.mapLit (hF : Env F P G N) (hN : St.small N st) (hu : P.underlying mt = some (.map kt et)) (hkt : P.underlying kt = some (.int kk')) {t : Tmp} {ins : List Oper} {entries : List (Int × Operand)} {ds : List D} (hg : o.guard = none) (ho : o.op = .makeMap mt none) (hd : o.dst = some t) (htN : t < N)
    (hins : InsOk mt t kk ins entries) (hnd : (entries.map (·.1)).Nodup) (hno : ∀ e ∈ entries, e.2 ≠ .tmp t) (hx : evArgs (evD G st.env) (entries.map (·.2)) = some ds)
    (k : SmL F ops.toArray rest Q { st with env := (t, .d (.map (entries.map fun e => .int kk e.1) ds)) :: st.env }) : SmL F ops.toArray (o :: (ins ++ rest)) Q st := by
  intro μ C a w hs
  obtain ⟨rfl, rfl, hG⟩ := hF
  refine wpS_step (fun _ => by rw [ho]; simp) fun K hK => ?_
  have hw : Region.wanted o (yielded ops.toArray a.tmps) = true := by unfold Region.wanted; rw [hg]
  rw [hw, if_pos rfl]
  have hex : (execOp a.eval o).run F.P w = .ok (.value (.map (some w.heap.size))) (w.alloc (.map #[] 0)) := by
    simp only [execOp, ho]; rfl
  unfold Oper.wp
  rw [hex, Oper.upon_value, hd]
  refine hK _ _ ?_
  have hev : ∀ x v, evD G st.env x = some v → RepV μ C v (a.eval x) := fun x v h => evD_ok hs hG h
  have hsame : ∀ e ∈ entries, (a.put (some t) (.map (some w.heap.size))).eval e.2 = a.eval e.2 := by
    intro e he
    have hne := hno e he
    cases hx2 : e.2 with
    | tmp s =>
      have hst : s ≠ t := fun h => hne (by rw [hx2, h])
      show (a.put (some t) _).tmps.getD s undef = a.tmps.getD s undef
      rw [getD_put a t s _ (by rw [hs.size]; exact htN), if_neg hst]
    | _ => rfl
  have hb0 : Below w.heap.size w (w.alloc (.map #[] 0)) := (Below.refl _ w).alloc (Nat.le_refl _) _
  refine ins_core (kk := kk) hu hkt (B := w.heap.size) (Nat.le_refl _) (by rw [getD_put a t t _ (by rw [hs.size]; exact htN), if_pos rfl]) ins entries #[] 0 _ hins (heap_alloc_new w _) (by simp) hnd ?_
  intro W' es' clock' h1 h2 h3 h4
  have hbel := hb0.trans h4
  have hm : More w C W' (fun b o u => C b o u ∨ (b = w.heap.size ∧ o = 0 ∧ (u = mapV (entries.map fun e => .int kk e.1) (entries.map fun e => a.eval e.2) ∨ u = .tuple #[]))) := by
    refine ⟨hbel, fun _ _ _ h => .inl h, fun b o u h => h.imp id (fun h => by omega), fun b o u h => ?_⟩
    rcases h with h | ⟨rfl, rfl, h⟩
    · exact hs.known.below hbel b o u h
    · right
      refine ⟨es', clock', h1, ?_⟩
      rcases h with rfl | rfl
      · left
        rw [h2, h3]
        simp only [List.map_nil, List.nil_append]
        congr 1
        exact List.map_congr_left fun e he => (hsame e he).symm
      · exact .inr rfl
  refine k μ _ _ W' ((hs.more hm).put htN ?_)
  exact Rp.map _ _ _ _ (.inr ⟨rfl, rfl, .inl rfl⟩) (.inr ⟨rfl, rfl, .inr rfl⟩) (by simp) (Rp.mono (fun _ _ _ h => .inl h) (evAll_ok hev hx))
theorem SmG.mapLit {env : List (Nat × V)} {h : List (Nat × Blk)} {nx : Nat} (hF : Env F P G N) (hu : P.underlying mt = some (.map kt et)) (hkt : P.underlying kt = some (.int kk')) {t : Tmp} {ins : List Oper} {entries : List (Int × Operand)} {ds : List D} (hg : o.guard = none) (ho : o.op = .makeMap mt none) (hd : o.dst = some t) (htN : Nat.blt t N = true)
    (hins : InsOk mt t kk ins entries) (hnd : (entries.map (·.1)).Nodup) (hno : ∀ e ∈ entries, e.2 ≠ .tmp t) (hx : evArgs (evB G env) (entries.map (·.2)) = some ds)
    (k : SmG F N ops rest Q ⟨(t, .d (.map (entries.map fun e => .int kk e.1) ds)) :: env, h, nx⟩) : SmG F N ops (o :: (ins ++ rest)) Q ⟨env, h, nx⟩ := by
  have htN' : t < N := by simpa [Nat.blt_eq] using htN
  intro hsm
  exact SmL.mapLit hF hsm hu hkt hg ho hd htN' hins hnd hno (evArgs_B hx) (k (small_put hsm htN'))
end
end Go.Proofs.YtagfaaijgfigkaaDoor
namespace Go.Proofs.YtagfaaijgfigkaaDoor
open Go.RowKit
structure Same (O : Nat → Prop) (w w' : World) : Prop where
  os : w'.os = w.os
  tape : w'.tape = w.tape
  output : w'.output = w.output
  size : w.heap.size ≤ w'.heap.size
  block : ∀ b, O b → w'.heap[b]? = w.heap[b]?
structure But (O O' : Nat → Prop) (w w' : World) : Prop where
  os : w'.os = w.os
  tape : w'.tape = w.tape
  output : w'.output = w.output
  size : w.heap.size ≤ w'.heap.size
  block : ∀ b, b < w.heap.size → ¬ O b → w'.heap[b]? = w.heap[b]?
  sub : ∀ b, O b → O' b
  new : ∀ b, O' b → O b ∨ w.heap.size ≤ b
  lt : ∀ b, O' b → b < w'.heap.size
abbrev Jt := Nat → (Nat → Prop) → Facts → World → Prop
def IterD (P : Program) (G : Nat → Option D) (f : FuncId) (caps : List D) (xs : List (List D)) : Prop :=
  ∀ (l : Nat) (C : Facts) (w : World) (us : List Value) (O : Nat → Prop) (J : Jt),
    GlobD G C → Known C w → Rp C (.outs caps us) → (∀ b, O b → b < w.heap.size) → (∀ b o u, C b o u → ¬ O b) →
    (∀ m O K W W', J m O K W → Same (fun b => O b ∨ b < w.heap.size) W W' → Known K W' → J m O K W') →
    (∀ (i : Nat) x O K C' W vs, xs[i]? = some x → J (i + 1) O K W → Known C' W → (∀ b o u, K b o u → C' b o u) → (∀ b o u, C' b o u → K b o u ∨ w.heap.size ≤ b) → (∀ b o u, C' b o u → ¬ O b) → (∀ b, O b → b < W.heap.size) → Rp C' (.outs x vs) →
      YieldAt Fence.wide 0 P l vs.toArray W fun e W' => ∃ (c : Bool) (O' : Nat → Prop), e = .returned (.bool c) ∧ But O O' W W' ∧ J (if c then i + 2 else 0) O' C' W') →
    J 1 O C w →
    Calls P f ((Value.func (.yield l) #[] #[]) :: us).toArray w fun e W' => ∃ v O' K m, e = .returned v ∧ (m = 0 ∨ m = xs.length + 1) ∧ J m O' K W' ∧ But O O' w W'
def ItG (base : Nat) (O0 : Nat → Prop) (J : Jt) (ds : List Deferred) (h : List (Nat × Blk)) (μ : Nat → Option Place) (C : Facts) (w : World) : Prop :=
  look h 0 = none ∧ base ≤ w.heap.size ∧ (∀ b, OwnB h μ b → base ≤ b) ∧ ∃ m sz O K, μ 0 = some ⟨m, 0, sz⟩ ∧ J m O K w ∧ (∀ b, OwnB h μ b → ¬ O b) ∧ (∀ b o u, K b o u → C b o u) ∧ (∀ b o u, C b o u → K b o u ∨ base ≤ b) ∧ (∀ b o u, C b o u → ¬ O b) ∧
    (∀ b, O b → b < w.heap.size) ∧ (∀ b, O0 b → O b) ∧ (∀ b, O b → O0 b ∨ base ≤ b) ∧ (∀ q, ({ target := .collected q, args := #[] } : Deferred) ∈ ds → ¬ O q)
structure ItFr (F : Fr) (P : Program) (l : Nat) (xs : List (List D)) (O0 : Nat → Prop) (J : Jt) : Prop where
  keep : ∀ ds h μ C w, F.G ds h μ C w ↔ ItG F.w0.heap.size O0 J ds h μ C w
  own : F.own = O0
  low : F.n0 = 1
  lt : ∀ b, O0 b → b < F.w0.heap.size
  stab : ∀ m O K W W', J m O K W → Same (fun b => O b ∨ b < F.w0.heap.size) W W' → Known K W' → J m O K W'
  round : ∀ (i : Nat) x O K C' W vs, xs[i]? = some x → J (i + 1) O K W → Known C' W → (∀ b o u, K b o u → C' b o u) → (∀ b o u, C' b o u → K b o u ∨ F.w0.heap.size ≤ b) → (∀ b o u, C' b o u → ¬ O b) → (∀ b, O b → b < W.heap.size) → Rp C' (.outs x vs) →
      YieldAt Fence.wide 0 P l vs.toArray W fun e W' => ∃ (c : Bool) (O' : Nat → Prop), e = .returned (.bool c) ∧ But O O' W W' ∧ J (if c then i + 2 else 0) O' C' W'
theorem Known.same {C : Facts} {w w' : World} (h : Known C w) (hb : ∀ b o u, C b o u → w'.heap[b]? = w.heap[b]?) : Known C w' := fun b o u hc => by
  rcases h b o u hc with g | ⟨es, c, g, e⟩
  · left; simp only [World.cell?, hb b o u hc] at g ⊢; exact g
  · exact .inr ⟨es, c, (hb b o u hc).trans g, e⟩
theorem ItG.stab {base : Nat} {O0 : Nat → Prop} {J : Jt} (hst : ∀ m O K W W', J m O K W → Same (fun b => O b ∨ b < base) W W' → Known K W' → J m O K W') {ds : List Deferred} {h h' : List (Nat × Blk)} {μ μ' : Nat → Option Place} {C C' : Facts} {w w' : World}
    (g : ItG base O0 J ds h μ C w) (t : Turn 1 h μ C w h' μ' C' w') : ItG base O0 J ds h' μ' C' w' := by
  obtain ⟨g1, g2, g3, m, sz, O, K, g4, g5, g6, g7, g8, g9, g10, g11, g12, g13⟩ := g
  have hblk : ∀ b, O b ∨ b < base → w'.heap[b]? = w.heap[b]? := fun b hb => by
    rcases hb with hb | hb
    · exact t.block b (g10 b hb) (fun ho => g6 b ho hb)
    · exact t.block b (by omega) (fun ho => by have := g3 b ho; omega)
  refine ⟨Option.eq_none_iff_forall_ne_some.2 fun k hk => ?_, Nat.le_trans g2 t.size, fun b hb => (t.own b hb).elim (g3 b) (fun h => Nat.le_trans g2 h), m, sz, O, K, t.low 0 _ (by omega) g4, hst _ _ _ _ _ g5 ⟨t.os, t.tape, t.output, t.size, hblk⟩ (fun b o u hk => t.known b o u (t.sub _ _ _ (g7 _ _ _ hk))), fun b hb ho => ?_, fun b o u hk => t.sub _ _ _ (g7 _ _ _ hk), fun b o u hc => ?_, fun b o u hc ho => ?_, fun b hb => Nat.lt_of_lt_of_le (g10 b hb) t.size, g11, g12, g13⟩
  · rcases t.dom 0 (by rw [hk]; rfl) with h1 | h1
    · rw [g1] at h1; cases h1
    · rw [g4] at h1; cases h1
  · rcases t.own b hb with h1 | h1
    · exact g6 b h1 ho
    · have := g10 b ho; omega
  · rcases t.new b o u hc with h1 | h1 | h1
    · exact g8 _ _ _ h1
    · exact .inr (g3 b h1)
    · exact .inr (Nat.le_trans g2 h1)
  · rcases t.new b o u hc with h1 | h1 | h1
    · exact g9 _ _ _ h1 ho
    · exact g6 b h1 ho
    · have := g10 b ho; omega
section
variable {P : Program} {G : Nat → Option D} {N : Nat} {F : Fr} {ops : Array Oper} {rest : List Oper} {o : Oper} {Q : Exit → St → Prop} {st : St}
theorem run_callYield {l : Nat} {x : Operand} {xs : Array Operand} {ts : Array TypeId} (ho : o.op = .call ⟨.value x, xs, ts⟩) {a : Act} {w : World} (hx : a.eval x = .func (.yield l) #[] #[]) : (execOp a.eval o).run P w = (Instr.yield l (xs.map a.eval)).run P w := by
  have e : execOp a.eval o = Instr.yield l (#[] ++ xs.map a.eval) := by
    simp only [execOp, ho]
    show (do let d ← Deferred.ofValue (a.eval x) (xs.map a.eval); invoke d.target d.args : Sem Next) = _
    rw [hx]; rfl
  rw [e]; simp
theorem SmL.yield (hF : Env F P G N) (hN : St.small N st) {l i s t : Nat} {xs : List (List D)} {O0 : Nat → Prop} {J : Jt} {x : List D} (hI : ItFr F P l xs O0 J) (hgh : look st.env s = some (.gh (i + 1))) (hi : xs[i]? = some x) {y : Operand} {ys : Array Operand} {ts : Array TypeId} {ds : List D}
    (hg : guardS ops st.env o.guard = some true) (ho : o.op = .call ⟨.value y, ys, ts⟩) (hd : o.dst = some t) (ht : t < N) (hy : evD G st.env y = some (.d (.v (.func (.yield l) #[] #[])))) (hargs : evArgs (evD G st.env) ys.toList = some ds) (hle : ∀ C vs, Rp C (.outs ds vs) → Rp C (.outs x vs)) (hfree : freeH 0 st.h)
    (k : ∀ c : Bool, SmL F ops rest Q { st with env := (t, .d (.v (.bool c))) :: (s, .gh (if c then i + 2 else 0)) :: killV 0 st.env }) : SmL F ops (o :: rest) Q st := by
  intro μ C a w hs
  have hev : ∀ x v, evD G st.env x = some v → RepV μ C v (a.eval x) := fun x v h => evD_ok hs hF.glob h
  have hyv := Rep.v_eq (hev y _ hy)
  obtain ⟨g1, g2, g3, m, sz, O, K, g4, g5, g6, g7, g8, g9, g10, g11, g12, g13⟩ := (hI.keep _ _ _ _ _).1 hs.gh
  obtain ⟨sz', hm⟩ := hs.env s _ hgh
  rw [g4] at hm
  obtain rfl : m = i + 1 := by cases hm; rfl
  have hPP := hF.prog
  obtain ⟨fn, tm, asg, bo, hrun, hround⟩ := hI.round i x O K C w (ys.toList.map a.eval) hi g5 hs.known g7 g8 g9 g10 (hle _ _ (evArgs_ok hev hargs))
  show (if Region.wanted o (yielded ops a.tmps) then o.wpIn F.fz 0 F.P a w (wpListIn F.fz 0 F.P ops (Sq F Q) rest) (Sq F Q) else _)
  rw [guardS_ok hs hg (by rw [hF.size]; exact hN), if_pos rfl]
  refine ⟨fun _ _ => trivial, ?_⟩
  rw [Oper.semAt_eq _ _ _ (by rw [ho]; simp), run_callYield ho hyv, hPP]
  have e1 : ys.map a.eval = (ys.toList.map a.eval).toArray := by rw [← Array.toList_map]
  rw [e1, hrun]
  refine ⟨fun h => (by cases h), ?_⟩
  refine RoundIn.mono (F := F.fz) (show RoundIn F.fz 0 P l fn tm asg bo w _ from hround) ?_
  rintro e W' ⟨c, O', rfl, hb, hJ⟩
  rw [hd, ← hPP]
  refine k c (fun n => if n = 0 then some ⟨if c then i + 2 else 0, 0, sz⟩ else μ n) C _ W' ?_
  have hμ : ∀ n, n ≠ 0 → (fun n => if n = 0 then some (⟨if c then i + 2 else 0, 0, sz⟩ : Place) else μ n) n = μ n := fun n h => by simp [h]
  have hfact : ∀ b o u, C b o u → W'.heap[b]? = w.heap[b]? := fun b o u hc => hb.block b (hs.known.lt hc) (g9 b o u hc)
  have hkn : Known C W' := hs.known.same hfact
  have hnot : ∀ b, b < F.w0.heap.size → ¬ F.own b → ¬ O b := fun b h1 h2 h3 => by
    rcases g12 b h3 with h | h
    · exact h2 (by rw [hI.own]; exact h)
    · omega
  refine ⟨by simp [Act.put, hs.size], ⟨hs.defers.nodup, fun d hd' => ?_⟩, ?_, hs.sub, hs.new, hkn, fun t' x' hx' => ?_, fun l' k' hk' => ?_, ?_, fun l' hl' => ?_, (hI.keep _ _ _ _ _).2 ?_⟩
  · obtain ⟨q, q1, q2, q3⟩ := hs.defers.each d hd'
    exact ⟨q, q1, q2, (hb.block q (Array.getElem?_eq_some_iff.1 q3).1 (g13 q (q1 ▸ hd'))).trans q3⟩
  · refine ⟨hb.os.trans hs.below.os, hb.tape.trans hs.below.tape, hb.output.trans hs.below.output, Nat.le_trans hs.below.size hb.size, fun n hn hno => ?_⟩
    rw [hb.block n (Nat.lt_of_lt_of_le hn hs.below.size) (hnot n hn hno)]
    exact hs.below.block n hn hno
  · rw [getD_put a t t' _ (by rw [hs.size, hF.size]; exact ht)]
    simp only [look] at hx'
    by_cases h1 : t = t'
    · rw [if_pos h1] at hx'; cases hx'; rw [if_pos h1.symm]; exact Rp.v _
    · rw [if_neg h1] at hx'; rw [if_neg (Ne.symm h1)]
      by_cases h2 : s = t'
      · rw [if_pos h2] at hx'; cases hx'; exact ⟨sz, by simp⟩
      · rw [if_neg h2, look_kill] at hx'
        cases hl : look st.env t' with
        | none => rw [hl] at hx'; cases hx'
        | some z =>
          rw [hl] at hx'; simp only [Option.map_some, Option.some.injEq] at hx'
          subst hx'
          by_cases hz : z.free 0 = true
          · rw [if_pos hz]; exact V.free_rep hz hμ (hs.env t' z hl)
          · rw [if_neg hz]; trivial
  · obtain ⟨p, hp, hB⟩ := hs.heap l' k' hk'
    have hl0 : l' ≠ 0 := fun e => by subst e; rw [g1] at hk'; cases hk'
    refine ⟨p, (hμ l' hl0).trans hp, hB.sz, hB.len, hB.max, hB.row, fun hc => ?_⟩
    obtain ⟨b1, b2, cur, T, b3, b4, b5⟩ := hB.cells hc
    refine ⟨b1, b2, cur, T, ?_, b4, fun j r hr q z hz => ?_⟩
    · rw [hb.block _ (hB.lt hc) (g6 _ ⟨l', k', p, hk', hp, hc, rfl⟩)]; exact b3
    · obtain ⟨u, u1, u2, u3⟩ := b5 j r hr q z hz
      exact ⟨u, u1, u2, V.free_rep (hfree l' k' hl0 hk' r (List.mem_of_getElem? hr) z (List.mem_of_getElem? hz)) hμ u3⟩
  · have hne : ∀ n, (look st.h n).isSome = true → n ≠ 0 := fun n hn e => by subst e; rw [g1] at hn; cases hn
    intro n n' p p' h1 h2 q1 q2
    exact hs.inj n n' p p' h1 h2 ((hμ n (hne n h1)).symm.trans q1) ((hμ n' (hne n' h2)).symm.trans q2)
  · have hl0 : l' ≠ 0 := fun e => by
      have := hs.nx l' hl'
      rw [e, g4] at this; cases this
    exact (hμ l' hl0).trans (hs.nx l' hl')
  · have hown : ∀ b, OwnB st.h (fun n => if n = 0 then some (⟨if c then i + 2 else 0, 0, sz⟩ : Place) else μ n) b → OwnB st.h μ b := fun b ⟨n, k', p, h1, h2, h3⟩ => by
      have hn0 : n ≠ 0 := fun e => by subst e; rw [g1] at h1; cases h1
      exact ⟨n, k', p, h1, (hμ n hn0).symm.trans h2, h3⟩
    refine ⟨g1, Nat.le_trans g2 hb.size, fun b h => g3 b (hown b h), _, sz, O', C, by simp, hJ, fun b h ho => ?_, fun _ _ _ h => h, fun _ _ _ h => .inl h, fun b o u hc ho => ?_, hb.lt, fun b h => hb.sub b (g11 b h), fun b h => ?_, fun q hq ho => ?_⟩
    · have h := hown b h
      rcases hb.new b ho with h' | h'
      · exact g6 b h h'
      · obtain ⟨n, k', p, h1, h2, h3, h4⟩ := h
        obtain ⟨p2, hp2, hB⟩ := hs.heap n k' h1
        rw [h2] at hp2; cases hp2
        have := hB.lt h3; omega
    · rcases hb.new b ho with h' | h'
      · exact g9 b o u hc h'
      · have := hs.known.lt hc; omega
    · rcases hb.new b h with h' | h'
      · exact g12 b h'
      · exact .inr (Nat.le_trans g2 h')
    · rcases hb.new q ho with h' | h'
      · exact g13 q hq h'
      · obtain ⟨q', q1, q2, q3⟩ := hs.defers.each _ hq
        have hqq : q' = q := by injection q1 with e1 _; injection e1 with e2; exact e2.symm
        subst hqq
        have := (Array.getElem?_eq_some_iff.1 q3).1; omega
def iterQ (s n : Nat) : Exit → St → Prop
  | .ret, st | .normal, st => ∃ m, look st.env s = some (.gh m) ∧ (m = 0 ∨ m = n + 1)
  | _, _ => False
theorem IterD.of {f : FuncId} {fn : Func} {c : Code} {caps : List D} {xs : List (List D)} (s : Nat) (hf : P.funcs[f]? = some fn) (hb : fn.body = some c) (hN : fn.ntmps = N) (hp : caps.length + 1 ≤ N) (hr : fn.results = #[])
    (h : ∀ F l O0 J, Env F P G N → F.n0 = 1 → ItFr F P l xs O0 J → Sm F c (iterQ s xs.length) ⟨(s, .gh 1) :: ((D.v (.func (.yield l) #[] #[])) :: caps).zipIdx.map fun e => (e.2, .d e.1), [], 1⟩) : IterD P G f caps xs := by
  intro l C w us O J hG hk hu hO hCO hst hrd hJ
  let F : Fr := ⟨P, N, w, C, O, none, 1, ItG w.heap.size O J, fun g t => g.stab hst t⟩
  have ha : Rp C (.outs ((D.v (.func (.yield l) #[] #[])) :: caps) ((Value.func (.yield l) #[] #[]) :: us)) := .ocons _ _ _ _ (.v _) hu
  obtain ⟨ds, hds⟩ : ∃ ds, ds = (D.v (.func (.yield l) #[] #[])) :: caps := ⟨_, rfl⟩
  rw [← hds] at ha
  have h' : ∀ F O0 J, Env F P G N → F.n0 = 1 → ItFr F P l xs O0 J → Sm F c (iterQ s xs.length) ⟨(s, .gh 1) :: ds.zipIdx.map fun e => (e.2, .d e.1), [], 1⟩ := fun F O0 J h1 h2 h3 => by rw [hds]; exact h F l O0 J h1 h2 h3
  have hdl : ds.length ≤ N := by rw [hds]; simpa using hp
  generalize (Value.func (.yield l) #[] #[]) :: us = vs at ha
  have hvl : vs.length = ds.length := outs_length ha
  have hsz : (vs.toArray ++ Array.replicate (fn.ntmps - vs.toArray.size) undef).size = N := by simp; omega
  have hlook : ∀ (ds : List D) (k : Nat) (t : Nat) (x : V), look ((ds.zipIdx k).map fun e => (e.2, V.d e.1)) t = some x → ∃ d, x = .d d ∧ k ≤ t ∧ ds[t - k]? = some d := by
    intro ds
    induction ds with
    | nil => intro k t x h; simp [look] at h
    | cons d ds ih =>
      intro k t x h
      simp only [List.zipIdx_cons, List.map_cons, look] at h
      split at h
      · rename_i e; cases h; subst e; exact ⟨d, rfl, Nat.le_refl _, by simp⟩
      · obtain ⟨d', rfl, h1, h2⟩ := ih _ _ _ h
        refine ⟨d', rfl, by omega, ?_⟩
        rw [show t - k = (t - (k + 1)) + 1 by omega]; simpa using h2
  have hsim : Sim F ⟨(s, .gh 1) :: ds.zipIdx.map fun e => (e.2, .d e.1), [], 1⟩ (fun n => if n = 0 then some ⟨1, 0, 0⟩ else none) C { tmps := vs.toArray ++ Array.replicate (fn.ntmps - vs.toArray.size) undef, defers := [] } w := by
    refine ⟨hsz, .nil _ _, Kept.refl _ _, fun _ _ _ h => h, fun _ _ _ h => .inl h, hk, fun t x hx => ?_, fun l k hk => by simp [look] at hk, fun l l' p p' h => by simp [look] at h, fun n hn => ?_, ?_⟩
    · simp only [look] at hx
      split at hx
      · cases hx; exact ⟨0, by simp⟩
      · obtain ⟨d, rfl, _, hd⟩ := hlook ds 0 t x hx
        rw [Nat.sub_zero] at hd
        obtain ⟨v, h1, h2⟩ := outs_get ha t d hd
        have htl := (List.getElem?_eq_some_iff.1 h1).1
        have : (vs.toArray ++ Array.replicate (fn.ntmps - vs.toArray.size) undef).getD t undef = v := by
          rw [Array.getD_eq_getD_getElem?, Array.getElem?_append_left (by simpa using htl)]
          simp [h1]
        show Rep C d _
        rw [this]; exact h2
    · have : n ≠ 0 := by have : 1 ≤ n := hn; omega
      simp [this]
    · exact ⟨rfl, Nat.le_refl _, fun b ⟨n, k, p, h1, _⟩ => by simp [look] at h1, 1, 0, O, C, by simp, hJ, fun b ⟨n, k, p, h1, _⟩ => by simp [look] at h1, fun _ _ _ h => h, fun _ _ _ h => .inl h, hCO, hO, fun _ h => h, fun _ h => .inl h, by simp⟩
  have hI : ItFr F P l xs O J := ⟨fun _ _ _ _ _ => Iff.rfl, rfl, rfl, hO, hst, hrd⟩
  refine calls_of_Sm (F := F) rfl rfl hf hb (h' F O J ⟨rfl, rfl, hG⟩ rfl hI) hsim (fun e st' hq => by cases e <;> first | exact .inl rfl | exact .inr rfl | exact hq.elim) ?_
  intro e st' μ' C' a w' hq hs a2 w'' haft hs2
  have hq' : ∃ m, look st'.env s = some (.gh m) ∧ (m = 0 ∨ m = xs.length + 1) := by cases e <;> first | exact hq | exact hq.elim
  obtain ⟨m, hm1, hm2⟩ := hq'
  refine ⟨.tuple #[], by simpa using results_of (P := P) (fn := fn) (a := a2) (w := w'') (us := []) (by rw [hr]; rfl), ?_⟩
  obtain ⟨g1, g2, g3, m', sz, O', K, g4, g5, g6, g7, g8, g9, g10, g11, g12, g13⟩ : ItG w.heap.size O J a.defers st'.h μ' C' w' := hs.gh
  obtain ⟨sz', hm⟩ := hs.env s _ hm1
  rw [g4] at hm
  obtain rfl : m' = m := by cases hm; rfl
  have hno : ∀ b, O' b → w''.heap[b]? = w'.heap[b]? := fun b hb => haft.other b fun hd => g13 b hd hb
  refine ⟨_, O', K, m', rfl, hm2, hst _ _ _ _ _ g5 ⟨haft.os, haft.tape, haft.output, haft.size, fun b hb => hb.elim (hno b) (haft.low b)⟩ (fun b o u hc => hs2.known b o u (g7 _ _ _ hc)), hs2.below.os, hs2.below.tape, hs2.below.output, hs2.below.size, fun b h1 h2 => hs2.below.block b h1 h2, g11, g12, fun b hb => Nat.lt_of_lt_of_le (g10 b hb) haft.size⟩
end
end Go.Proofs.YtagfaaijgfigkaaDoor
namespace Go.Proofs.YtagfaaijgfigkaaDoor
open Go.RowKit
theorem V.low_rep {n : Nat} {x : V} (h : x.lt n = true) {μ μ' : Nat → Option Place} (hμ : ∀ l p, l < n → μ l = some p → μ' l = some p) {C C' : Facts} (hC : ∀ b o u, C b o u → C' b o u) {v : Value} (hr : RepV μ C x v) : RepV μ' C' x v := by
  cases x with
  | d => exact Rp.mono hC hr
  | ref l i off => obtain ⟨p, h1, h2⟩ := hr; exact ⟨p, hμ l p (by simpa [V.lt] using h) h1, h2⟩
  | sref l lo len => obtain ⟨p, ao, h1, h2⟩ := hr; exact ⟨p, ao, hμ l p (by simpa [V.lt] using h) h1, h2⟩
  | aref l i off es len cap => obtain ⟨p, ao, h1, h2⟩ := hr; exact ⟨p, ao, hμ l p (by simpa [V.lt] using h) h1, h2⟩
  | mix tup l k rest =>
    obtain ⟨p, ao, us, h1, h2, h3, h4⟩ := hr
    refine ⟨p, ao, us, hμ l p (by simpa [V.lt] using h) h1, h2, h3, ?_⟩
    split
    · rename_i ht; rw [if_pos ht] at h4; exact ⟨Rp.mono hC h4.1, h4.2⟩
    · rename_i ht; rw [if_neg ht] at h4; exact ⟨Rp.mono hC h4.1, h4.2⟩
  | any => trivial
  | gh m => obtain ⟨sz, h1⟩ := hr; exact ⟨sz, hμ 0 _ (by simpa [V.lt] using h) h1⟩
section
variable {F : Fr} {st : St} {μ : Nat → Option Place} {C : Facts} {a : Act} {w : World}
theorem Sim.cutEnv (h : Sim F st μ C a w) (n : Nat) : Sim F { st with env := cutE n st.env } μ C a w :=
  ⟨h.size, h.defers, h.below, h.sub, h.new, h.known, fun t x hx => by
    rw [look_cutE] at hx
    cases hl : look st.env t with
    | none => rw [hl] at hx; cases hx
    | some y =>
      rw [hl] at hx; cases hx
      dsimp only
      split
      · exact h.env t y hl
      · trivial, h.heap, h.inj, h.nx, h.gh⟩
theorem known_loop {w : World} {C : Facts} (h : Known C w) {l : Nat} {r : Loop} (hl : w.heap[l]? = some (Obj.loop r)) (o : Obj) : Known C (w.putObj l o) := h.same fun b p u hc => by
  refine World.putObj_heap_other fun e => ?_
  subst e
  rcases h _ _ _ hc with g | ⟨es, c, g, _⟩
  · simp [World.cell?, hl] at g
  · rw [hl] at g; cases g
theorem BlkOk.loop {mine mine' : Nat → Prop} {C : Facts} {p : Place} {k : Blk} (h : BlkOk mine μ C w p k) (hm : 0 < p.cap → mine p.b → mine' p.b) {l : Nat} {r : Loop} (hl : w.heap[l]? = some (Obj.loop r)) (o : Obj) : BlkOk mine' μ C (w.putObj l o) p k := by
  refine ⟨h.sz, h.len, h.max, h.row, fun hc => ?_⟩
  obtain ⟨b1, b2, cur, T, b3, b4⟩ := h.cells hc
  refine ⟨hm hc b1, b2, cur, T, ?_, b4⟩
  rw [World.putObj_heap_other (fun e => by rw [e, hl] at b3; cases b3)]; exact b3
theorem Sim.own_cells (h : Sim F st μ C a w) {b : Nat} (hb : OwnB st.h μ b) : F.mine b ∧ (∀ o u, ¬ C b o u) ∧ ∃ cur T, w.heap[b]? = some (Obj.cells cur T (0, 0)) := by
  obtain ⟨l, k, p, h1, h2, h3, rfl⟩ := hb
  obtain ⟨p2, hp2, hB⟩ := h.heap l k h1
  rw [h2] at hp2; cases hp2
  obtain ⟨b1, b2, cur, T, b3, _⟩ := hB.cells h3
  exact ⟨b1, b2, cur, T, b3⟩
end
def roundQ (h : List (Nat × Blk)) (nx : Nat) : Exit → St → Prop
  | .normal, st => (∀ l k, look h l = some k → look st.h l = some k) ∧ st.nx ≤ nx
  | _, _ => False
def midQ (mid : St) : Exit → St → Prop
  | .normal, st => st.le mid
  | _, _ => False
def roundE (ps : List Nat) (x : List D) (env : List (Nat × V)) : List (Nat × V) := ((ps.zip x).map fun e => (e.1, V.d e.2)).reverse ++ env
theorem sim_params {F : Fr} {μ : Nat → Option Place} {C : Facts} {w : World} {h : List (Nat × Blk)} {nx : Nat} : ∀ (ps : List Nat) (x : List D) (vs : List Value) (env : List (Nat × V)) (a : Act), (∀ p ∈ ps, p < F.N) → Rp C (.outs x vs) → Sim F ⟨env, h, nx⟩ μ C a w →
    Sim F ⟨roundE ps x env, h, nx⟩ μ C { a with tmps := (ps.zip vs).foldl (fun t e => t.setIfInBounds e.1 e.2) a.tmps } w := by
  intro ps
  induction ps with
  | nil => intro x vs env a _ _ hs; simpa [roundE] using hs
  | cons p ps ih =>
    intro x vs env a hp hx hs
    cases hx with
    | onil => simpa [roundE] using hs
    | ocons d v ds vs h1 h2 =>
      have := ih ds vs ((p, .d d) :: env) (a.put (some p) v) (fun q hq => hp q (by simp [hq])) h2 (hs.put (hp p (by simp)) (x := .d d) h1)
      simpa [roundE, Act.put] using this
section
variable {P : Program} {G : Nat → Option D} {N : Nat} {F : Fr} {Q : Exit → St → Prop}
def RgJ (F : Fr) (env : List (Nat × V)) (inv : Nat → List (Nat × Blk)) (nxs : Nat → Nat) (a : Act) (l q : Nat) (rc : Loop) (n : Nat) : Jt := fun m O K W => ∃ i μ C1, m = i + 1 ∧ i ≤ n ∧ Sim F ⟨env, inv i, nxs i⟩ μ C1 a W ∧
  (∀ b o u, C1 b o u → K b o u ∨ O b) ∧ (∀ b o u, K b o u → C1 b o u) ∧ (∀ b, OwnB (inv i) μ b → O b) ∧ O l ∧ O q ∧ W.heap[l]? = some (Obj.loop rc) ∧ W.heap[q]? = some (Obj.deferred (some []))
theorem Sm.rangeFunc (hF : Env F P G N) (hT : F.top) {g : Operand} {ps : Array Tmp} {assign body : Code} {env : List (Nat × V)} {h : List (Nat × Blk)} {nx : Nat} {gf : FuncId} {caps : List D} {xs : List (List D)} (n1 : Nat) (hn : F.n0 ≤ n1)
    (hg : evB G env g = some (.d (.fn gf caps))) (hb : hasBody P gf = true) (hit : IterD P G gf caps xs) (hps : ∀ x ∈ xs, x.length = ps.size) (hpN : ∀ p ∈ ps.toList, p < N)
    (inv : Nat → List (Nat × Blk)) (nxs : Nat → Nat) (mid : Nat → List D → St) (h0 : ∀ l k, look (inv 0) l = some k → look h l = some k) (h0n : nx ≤ nxs 0)
    (hassign : ∀ (i : Nat) x, xs[i]? = some x → ∀ F', Env F' P G N → F'.n0 = n1 → Sm F' assign (midQ (mid i x)) ⟨roundE ps.toList x (cutE n1 env), inv i, nxs i⟩)
    (hbody : ∀ (i : Nat) x, xs[i]? = some x → ∀ F', Env F' P G N → F'.n0 = n1 → Sm F' body (roundQ (inv (i + 1)) (nxs (i + 1))) (mid i x))
    (k : Q .normal ⟨cutE n1 env, inv xs.length, nxs xs.length⟩) : Sm F (.rangeFunc g ps assign body) Q ⟨env, h, nx⟩ := by
  obtain ⟨rfl, rfl, hG⟩ := hF
  intro μ C a w hs
  rw [evB_eq] at hg
  have hgv : RepV μ C (.d (.fn gf caps)) (a.eval g) := evD_ok hs hG hg
  generalize hge : a.eval g = gv at hgv
  cases hgv with
  | fn _ _ us hu =>
  refine wpIn_rangeFunc ?_
  intro fn _
  obtain ⟨l, hl⟩ : ∃ l, l = w.heap.size + 1 := ⟨_, rfl⟩
  obtain ⟨rc, hrc⟩ : ∃ rc : Loop, rc = { state := .ready, pending := none, fn, tmps := a.tmps, params := ps, assign, body, defers := w.heap.size } := ⟨_, rfl⟩
  obtain ⟨W1, hW1⟩ : ∃ W1, W1 = (w.alloc (.deferred (some []))).alloc (.loop rc) := ⟨_, rfl⟩
  have hsz1 : W1.heap.size = w.heap.size + 2 := by rw [hW1]; simp
  have hL1 : W1.heap[l]? = some (Obj.loop rc) := by
    rw [hW1, hl]; have := World.alloc_heap_new (w.alloc (.deferred (some []))) (.loop rc); rwa [World.size_alloc] at this
  have hK1 : W1.heap[w.heap.size]? = some (Obj.deferred (some [])) := by
    rw [hW1]; exact (Below.heap_alloc _ _ _ (by simp)).trans (World.alloc_heap_new w _)
  have hbel1 : Below w.heap.size w W1 := by
    rw [hW1]; exact ((Below.refl _ w).alloc (Nat.le_refl _) _).alloc (by simp) _
  have hs1 : Sim F ⟨cutE n1 env, inv 0, nxs 0⟩ μ C a W1 :=
    ((hs.cutEnv n1).less (st' := ⟨cutE n1 env, inv 0, nxs 0⟩) (fun _ _ h => h) h0 h0n).more (.of_below hs.known hbel1)
  have hw0 : F.w0.heap.size ≤ w.heap.size := hs.below.size
  have hmk : ∀ d ∈ a.defers, ∀ q : Nat, d = { target := .collected q, args := #[] } → q < w.heap.size := fun d hd q e => by
    obtain ⟨q2, h1, _, h2⟩ := hs.defers.each d hd
    have hqq : q2 = q := by rw [h1] at e; injection e with e1 _; injection e1
    subst hqq
    exact (Array.getElem?_eq_some_iff.1 h2).1
  refine ⟨l, [{ target := .collected w.heap.size, args := #[] }], W1, { target := .fn (.func gf) us.toArray, args := #[.func (.yield l) #[] #[]] }, W1, gf, ((Value.func (.yield l) #[] #[]) :: us).toArray, W1, ?_, ?_, fun _ _ => trivial, ?_, fun h => (by cases h), ?_⟩
  · show (Instr.enterLoop fn a.tmps ps assign body F.rd).run F.P w = _
    rw [hT.1, hW1, hl, hrc]
    exact run_enterLoop_outer _ _ _ _ _
  · simp only [resolve, rangeCall, hge]
    simp [go_sem]
  · simp [invoke, go_sem, hcall_of hb]
  refine callsIn_fz (Calls.mono (hit l C W1 us (fun b => OwnB (inv 0) μ b ∨ b = l ∨ b = w.heap.size) (RgJ F (cutE n1 env) inv nxs a l w.heap.size rc xs.length) (hG.mono hs.sub) hs1.known hu ?_ ?_ ?_ ?_ ?_) ?_)
  · rintro b (hb | rfl | rfl)
    · obtain ⟨_, _, cur, T, hc⟩ := hs1.own_cells hb
      exact (Array.getElem?_eq_some_iff.1 hc).1
    · omega
    · omega
  · rintro b o u hc (hb | rfl | rfl)
    · exact (hs1.own_cells hb).2.1 o u hc
    · have := hs.known.lt hc; omega
    · have := hs.known.lt hc; omega
  · rintro m O K W W' ⟨i, μ', C1, rfl, hi, hs', e1, e2, e3, e4, e5, e6, e7⟩ hsame hkn
    refine ⟨i, μ', C1, rfl, hi, ?_, e1, e2, e3, e4, e5, (hsame.block _ (.inl e4)).trans e6, (hsame.block _ (.inl e5)).trans e7⟩
    refine ⟨hs'.size, ⟨hs'.defers.nodup, fun d hd => ?_⟩, ⟨hsame.os.trans hs'.below.os, hsame.tape.trans hs'.below.tape, hsame.output.trans hs'.below.output, Nat.le_trans hs'.below.size hsame.size, fun n hn hno => ?_⟩, hs'.sub, hs'.new, fun b o u hc => ?_, hs'.env, fun l' k' hk' => ?_, hs'.inj, hs'.nx, hT.2 _ _ _ _ _ _ _ _ hs'.gh⟩
    · obtain ⟨q, q1, q2, q3⟩ := hs'.defers.each d hd
      refine ⟨q, q1, q2, (hsame.block q (.inr ?_)).trans q3⟩
      have := hmk d hd q q1; omega
    · exact (hsame.block n (.inr (by omega))).trans (hs'.below.block n hn hno)
    · rcases e1 b o u hc with h1 | h1
      · exact hkn b o u h1
      · have hb' := hsame.block b (.inl h1)
        rcases hs'.known b o u hc with g | ⟨es, c, g, e⟩
        · left; simp only [World.cell?, hb'] at g ⊢; exact g
        · exact .inr ⟨es, c, hb'.trans g, e⟩
    · obtain ⟨p, hp, hB⟩ := hs'.heap l' k' hk'
      refine ⟨p, hp, hB.sz, hB.len, hB.max, hB.row, fun hc => ?_⟩
      obtain ⟨b1, b2, cur, T, b3, b4⟩ := hB.cells hc
      exact ⟨b1, b2, cur, T, (hsame.block _ (.inl (e3 _ ⟨l', k', p, hk', hp, hc, rfl⟩))).trans b3, b4⟩
  · rintro i x O K C' W vs hx ⟨i', μ', C1, hii, hile, hs', e1, e2, e3, e4, e5, e6, e7⟩ hkC hKC hCn hCO hOlt hvs
    obtain rfl : i' = i := by omega
    have hvl : vs.length = ps.size := (outs_length hvs).trans (hps x (List.mem_of_getElem? hx))
    have hnl : ¬ OwnB (inv i') μ' l := fun h => by
      obtain ⟨_, _, cur, T, hc⟩ := hs'.own_cells h
      rw [e6] at hc; cases hc
    have hllt := hOlt l e4
    let G' : List Deferred → List (Nat × Blk) → (Nat → Option Place) → Facts → World → Prop := fun ds h μ'' C w => F.G ds h μ'' C w ∧ ∀ j p, j < n1 → μ' j = some p → μ'' j = some p
    have hstab : ∀ {ds h μ C w h' μ'' C' w'}, G' ds h μ C w → Turn n1 h μ C w h' μ'' C' w' → G' ds h' μ'' C' w' := fun g t =>
      ⟨F.stab g.1 ⟨t.os, t.tape, t.output, t.size, fun l p hl => t.low l p (by omega), t.dom, t.block, t.own, t.sub, t.new, t.known⟩, fun j p hj hp => t.low j p hj (g.2 j p hj hp)⟩
    let F1 : Fr := ⟨F.P, F.N, W, fun b o u => C1 b o u ∨ C' b o u, OwnB (inv i') μ', some l, n1, G', hstab⟩
    have hk1 : Known (fun b o u => C1 b o u ∨ C' b o u) W := fun b o u h => h.elim (hs'.known b o u) (hkC b o u)
    have s1 : Sim F1 ⟨cutE n1 env, inv i', nxs i'⟩ μ' (fun b o u => C1 b o u ∨ C' b o u) { tmps := a.tmps, defers := [] } W := by
      refine ⟨hs'.size, .nil _ _, .refl _ _, fun _ _ _ h => h, fun _ _ _ h => .inl h, hk1, fun t x hx => (hs'.env t x hx).mono (fun _ _ h => h) (fun _ _ _ h => .inl h), fun l' k' hk' => ?_, hs'.inj, hs'.nx, hT.2 _ _ _ _ _ _ _ _ hs'.gh, fun _ _ _ h => h⟩
      obtain ⟨p, hp, hB⟩ := hs'.heap l' k' hk'
      refine ⟨p, hp, hB.sz, hB.len, hB.max, hB.row, fun hc => ?_⟩
      obtain ⟨b1, b2, cur, T, b3, b4, b5⟩ := hB.cells hc
      have hob : OwnB (inv i') μ' p.b := ⟨l', k', p, hk', hp, hc, rfl⟩
      exact ⟨.inr hob, fun o u h => h.elim (b2 o u) fun h => hCO _ _ _ h (e3 _ hob), cur, T, b3, b4, b5.mono (fun _ _ h => h) (fun _ _ _ h => .inl h)⟩
    have s2 := sim_params (F := F1) ps.toList x vs (cutE n1 env) _ hpN (Rp.mono (C' := fun b o u => C1 b o u ∨ C' b o u) (fun _ _ _ h => .inr h) hvs) s1
    have hfold : ((rc.params.zip vs.toArray).foldl (fun tmps (t, a) => tmps.setIfInBounds t a) rc.tmps) = (ps.toList.zip vs).foldl (fun t e => t.setIfInBounds e.1 e.2) a.tmps := by
      rw [hrc, ← Array.foldl_toList, Array.toList_zip]
    refine ⟨_, _, _, _, run_yield e6 (by rw [hrc]; simpa using hvl), ?_⟩
    rw [hfold]
    refine roundIn_of_wpIn trivial ?_
    have hrc1 : rc.assign = assign := by rw [hrc]
    have hrc2 : rc.body = body := by rw [hrc]
    rw [hrc1, hrc2]
    refine wpIn_mono (show assign.wpIn (Fence.wide.inRound l) 0 F.P _ _ _ from hassign i' x hx F1 ⟨rfl, rfl, fun g d hg => Rp.mono (fun b o u h => .inl (hs'.sub _ _ _ h)) (hG g d hg)⟩ rfl μ' _ _ W s2) ?_
    rintro e a1 w1 ⟨st1, μ1, C2, hq, s3⟩
    cases e with
    | normal =>
      have s4 := s3.less hq.1 hq.2.1 hq.2.2
      have hl1 : w1.heap[l]? = some (Obj.loop rc) := (s4.below.block l hllt hnl).trans e6
      refine ⟨w1.putObj l (.loop { rc with state := .busy }), run_beginRound hl1 (by rw [hrc]), ?_⟩
      let F2 : Fr := { F1 with w0 := W.putObj l (.loop { rc with state := .busy }) }
      have hne1 : ∀ b, b ≠ l → (w1.putObj l (.loop { rc with state := .busy })).heap[b]? = w1.heap[b]? := fun b hb => World.putObj_heap_other hb
      have hneW : ∀ b, b ≠ l → (W.putObj l (.loop { rc with state := .busy })).heap[b]? = W.heap[b]? := fun b hb => World.putObj_heap_other hb
      have hl1lt : l < w1.heap.size := (Array.getElem?_eq_some_iff.1 hl1).1
      have hmn : ∀ b, F1.mine b → F2.mine b := fun b h => h.imp (fun h => by show (W.putObj l _).heap.size ≤ b; simpa using h) id
      have s5 : Sim F2 (mid i' x) μ1 C2 a1 (w1.putObj l (.loop { rc with state := .busy })) := by
        refine ⟨s4.size, ⟨s4.defers.nodup, fun d hd => ?_⟩, ⟨s4.below.os, s4.below.tape, s4.below.output, by simpa [F2] using s4.below.size, fun n hn hno => ?_⟩, s4.sub, fun b o u h => (s4.new b o u h).imp id (hmn b), known_loop s4.known hl1 _, s4.env, fun l' k' hk' => ?_, s4.inj, s4.nx, hT.2 _ _ _ _ _ _ _ _ s4.gh.1, s4.gh.2⟩
        · obtain ⟨q, q1, q2, q3⟩ := s4.defers.each d hd
          exact ⟨q, q1, by simpa [F2] using q2, (hne1 q (fun e => by rw [e, hl1] at q3; cases q3)).trans q3⟩
        · have hn' : n < W.heap.size := by simpa [F2] using hn
          by_cases en : n = l
          · subst en; rw [World.putObj_heap_same hl1lt, World.putObj_heap_same hllt]
          · rw [hne1 n en, hneW n en]; exact s4.below.block n hn' hno
        · obtain ⟨p, hp, hB⟩ := s4.heap l' k' hk'
          exact ⟨p, hp, hB.loop (fun _ h => hmn _ h) hl1 _⟩
      refine wpIn_mono (show body.wpIn (Fence.wide.inRound l) 0 F.P _ _ _ from hbody i' x hx F2 ⟨rfl, rfl, fun g d hg => Rp.mono (fun b o u h => .inl (hs'.sub _ _ _ h)) (hG g d hg)⟩ rfl μ1 C2 a1 _ s5) ?_
      rintro e a2 w3 ⟨st2, μ2, C3, hq2, s6⟩
      cases e with
      | normal =>
        have hl3 : w3.heap[l]? = some (Obj.loop { rc with state := .busy }) := (s6.below.block l (by simpa [F2] using hllt) hnl).trans (World.putObj_heap_same hllt)
        have hend := run_endRound (P := F.P) none hl3
        have hrr : ({ { rc with state := .busy } with state := if (none : Option Code).isNone then .ready else .done, pending := none } : Loop) = rc := by rw [hrc]; rfl
        rw [hrr] at hend
        have hl3lt := (Array.getElem?_eq_some_iff.1 hl3).1
        have hne3 : ∀ b, b ≠ l → (w3.putObj l (.loop rc)).heap[b]? = w3.heap[b]? := fun b hb => World.putObj_heap_other hb
        have hblk : ∀ b, b < W.heap.size → ¬ OwnB (inv i') μ' b → b ≠ l → (w3.putObj l (.loop rc)).heap[b]? = W.heap[b]? := fun b h1 h2 h3 => by
          rw [hne3 b h3, ← hneW b h3]; exact s6.below.block b (by simpa [F2] using h1) h2
        have hmine : ∀ b, F2.mine b → W.heap.size ≤ b ∨ OwnB (inv i') μ' b := fun b h => h.imp (fun h => by have : (W.putObj l (.loop { rc with state := .busy })).heap.size ≤ b := h; simpa using this) id
        have hFm : ∀ b, F2.mine b → F.mine b := fun b h => (hmine b h).elim (fun h => .inl (Nat.le_trans hs'.below.size h)) fun h => (hs'.own_cells h).1
        have hszW : W.heap.size ≤ w3.heap.size := by simpa [F2] using s6.below.size
        have hxl : i' < xs.length := (List.getElem?_eq_some_iff.1 hx).1
        have s6' := s6.less (st' := ⟨[], inv (i' + 1), nxs (i' + 1)⟩) (fun t x h => by simp [look] at h) hq2.1 hq2.2
        have hdef : ∀ q : Nat, W.heap[q]? = some (Obj.deferred (some [])) → (w3.putObj l (.loop rc)).heap[q]? = some (Obj.deferred (some [])) := fun q hq => by
          rw [hblk q (Array.getElem?_eq_some_iff.1 hq).1 (fun h => by obtain ⟨_, _, cur, T, hc⟩ := hs'.own_cells h; rw [hq] at hc; cases hc) (fun e => by rw [e, e6] at hq; cases hq)]
          exact hq
        refine ⟨_, _, hend, true, fun b => O b ∨ (W.heap.size ≤ b ∧ b < w3.heap.size), rfl, ⟨s6.below.os, s6.below.tape, s6.below.output, by simpa using hszW, fun b hb ho => hblk b hb (fun h => ho (e3 b h)) (fun e => ho (e ▸ e4)), fun b h => .inl h, fun b h => h.imp id And.left, fun b h => by
          rw [World.putObj_size]
          rcases h with h | h
          · exact Nat.lt_of_lt_of_le (hOlt b h) hszW
          · exact h.2⟩, i' + 1, μ2, C3, rfl, hxl, ?_, fun b o u hc => ?_, fun b o u hc => s6.sub _ _ _ (.inr hc), fun b hb => ?_, .inl e4, .inl e5, World.putObj_heap_same hl3lt, hdef _ e7⟩
        · refine ⟨hs'.size, ⟨hs'.defers.nodup, fun d hd => ?_⟩, ⟨s6.below.os.trans hs'.below.os, s6.below.tape.trans hs'.below.tape, s6.below.output.trans hs'.below.output, by rw [World.putObj_size]; exact Nat.le_trans hs'.below.size hszW, fun n hn hno => ?_⟩, fun b o u h => s6.sub _ _ _ (.inl (hs'.sub _ _ _ h)), fun b o u h => ?_, known_loop s6.known hl3 _, fun t x hx => ?_, fun l' k' hk' => ?_, s6'.inj, s6'.nx, hT.2 _ _ _ _ _ _ _ _ s6'.gh.1⟩
          · obtain ⟨q, q1, q2, q3⟩ := hs'.defers.each d hd
            exact ⟨q, q1, q2, hdef q q3⟩
          · rw [hblk n (Nat.lt_of_lt_of_le hn hs'.below.size) (fun h => ?_) (by omega)]
            · exact hs'.below.block n hn hno
            · rcases (hs'.own_cells h).1 with h | h
              · omega
              · exact hno h
          · rcases s6.new b o u h with (h | h) | h
            · exact hs'.new b o u h
            · rcases hCn b o u h with h | h
              · exact hs'.new b o u (e2 _ _ _ h)
              · exact .inr (.inl (by omega))
            · exact .inr (hFm b h)
          · have hlt : x.lt n1 = true := by
              rw [look_cutE] at hx
              cases hq : look env t with
              | none => rw [hq] at hx; cases hx
              | some y =>
                rw [hq] at hx; simp only [Option.map_some, Option.some.injEq] at hx
                subst hx
                by_cases hy : y.lt n1 = true
                · rw [if_pos hy]; exact hy
                · rw [if_neg hy]; rfl
            exact V.low_rep hlt s6.gh.2 (fun b o u h => s6.sub _ _ _ (.inl h)) (hs'.env t x hx)
          · obtain ⟨p, hp, hB⟩ := s6'.heap l' k' hk'
            exact ⟨p, hp, hB.loop (fun _ h => hFm _ h) hl3 _⟩
        · rcases s6.new b o u hc with (h | h) | h
          · exact (e1 b o u h).imp (hKC _ _ _) .inl
          · exact .inl h
          · rcases hmine b h with h | h
            · exact .inr (.inr ⟨h, s6.known.lt hc⟩)
            · exact .inr (.inl (e3 b h))
        · obtain ⟨h1, _, cur, T, h2⟩ := s6'.own_cells hb
          rcases hmine b h1 with h | h
          · exact .inr ⟨h, (Array.getElem?_eq_some_iff.1 h2).1⟩
          · exact .inl (e3 b h)
      | _ => exact hq2.elim
    | _ => exact hq.elim
  · exact ⟨0, μ, C, rfl, Nat.zero_le _, hs1, fun _ _ _ h => .inl h, fun _ _ _ h => h, fun _ h => .inl h, .inr (.inl rfl), .inr (.inr rfl), hL1, hK1⟩
  · rintro e W' ⟨v, O', K, m, rfl, hm, ⟨i, μ', C1, rfl, hi, hs', e1, e2, e3, e4, e5, e6, e7⟩, hBut⟩
    obtain rfl : i = xs.length := by omega
    refine ⟨none, _, by have := run_endLoop (P := F.P) e6 (by rw [hrc]; simp); rw [show rc.pending = none by rw [hrc]] at this; exact this, ?_⟩
    have hne : ∀ (o : Obj) b, b ≠ l → (W'.putObj l o).heap[b]? = W'.heap[b]? := fun o b hb => World.putObj_heap_other hb
    refine ⟨_, μ', C1, k, hs'.size, ⟨?_, fun d hd => ?_⟩, hs'.below.grown (grownBy_putObj' W' l _) (fun r e => by cases e; exact .inl (by omega)), hs'.sub, hs'.new, known_loop hs'.known e6 _, hs'.env, fun l' k' hk' => ?_, hs'.inj, hs'.nx, hT.2 _ _ _ _ _ _ _ _ hs'.gh⟩
    · refine List.nodup_cons.2 ⟨fun h => ?_, hs'.defers.nodup⟩
      have := hmk _ h _ rfl; omega
    · rcases List.mem_cons.1 hd with rfl | hd
      · exact ⟨_, rfl, hw0, (hne _ _ (by omega)).trans e7⟩
      · obtain ⟨q, q1, q2, q3⟩ := hs'.defers.each d hd
        exact ⟨q, q1, q2, (hne _ q (by have := hmk d hd q q1; omega)).trans q3⟩
    · obtain ⟨p, hp, hB⟩ := hs'.heap l' k' hk'
      exact ⟨p, hp, hB.loop (fun _ h => h) e6 _⟩
end
end Go.Proofs.YtagfaaijgfigkaaDoor
namespace Go.Proofs.YtagfaaijgfigkaaDoor
open Go.RowKit
def V.ren (σ : Nat → Nat) : V → V
  | .d x => .d x
  | .ref l i off => .ref (σ l) i off
  | .sref l lo len => .sref (σ l) lo len
  | .aref l i off es len cap => .aref (σ l) i off es len cap
  | .mix tup l n rest => .mix tup (σ l) n rest
  | .any => .any
  | .gh _ => .any
def Blk.ren (σ : Nat → Nat) (k : Blk) : Blk := ⟨k.sz, k.rows.map fun r => r.map (V.ren σ)⟩
theorem V.ren_up {σ : Nat → Nat} {μ μ' : Nat → Option Place} (h : ∀ l p, μ l = some p → μ' (σ l) = some p) {C : Facts} {x : V} {v : Value} (hr : RepV μ C x v) : RepV μ' C (x.ren σ) v := by
  cases x with
  | d => exact hr
  | ref l i off => obtain ⟨p, h1, h2⟩ := hr; exact ⟨p, h l p h1, h2⟩
  | sref l lo len => obtain ⟨p, ao, h1, h2⟩ := hr; exact ⟨p, ao, h l p h1, h2⟩
  | aref l i off es len cap => obtain ⟨p, ao, h1, h2⟩ := hr; exact ⟨p, ao, h l p h1, h2⟩
  | mix tup l n rest => obtain ⟨p, ao, us, h1, h2⟩ := hr; exact ⟨p, ao, us, h l p h1, h2⟩
  | any => trivial
  | gh m => trivial
def V.noGh : V → Bool
  | .gh _ => false
  | _ => true
theorem V.ren_down {σ : Nat → Nat} {n : Nat} {μ μ' : Nat → Option Place} (h : ∀ l p, l < n → μ' (σ l) = some p → μ l = some p) {C : Facts} {x : V} (hx : x.lt n = true) (hn : x.noGh = true) {v : Value} (hr : RepV μ' C (x.ren σ) v) : RepV μ C x v := by
  cases x with
  | d => exact hr
  | ref l i off => obtain ⟨p, h1, h2⟩ := hr; exact ⟨p, h l p (by simpa [V.lt] using hx) h1, h2⟩
  | sref l lo len => obtain ⟨p, ao, h1, h2⟩ := hr; exact ⟨p, ao, h l p (by simpa [V.lt] using hx) h1, h2⟩
  | aref l i off es len cap => obtain ⟨p, ao, h1, h2⟩ := hr; exact ⟨p, ao, h l p (by simpa [V.lt] using hx) h1, h2⟩
  | mix tup l n rest => obtain ⟨p, ao, us, h1, h2⟩ := hr; exact ⟨p, ao, us, h l p (by simpa [V.lt] using hx) h1, h2⟩
  | any => trivial
  | gh m => cases hn
structure Held (mine : Nat → Prop) (h : List (Nat × Blk)) (μ : Nat → Option Place) (C : Facts) (w : World) : Prop where
  heap : ∀ l k, look h l = some k → ∃ p, μ l = some p ∧ BlkOk mine μ C w p k
  inj : ∀ l l' p p', (look h l).isSome = true → (look h l').isSome = true → μ l = some p → μ l' = some p' → 0 < p.cap → 0 < p'.cap → p.b = p'.b → l = l'
inductive RepVs (μ : Nat → Option Place) (C : Facts) : List V → List Value → Prop
  | nil : RepVs μ C [] []
  | cons (x : V) (v : Value) (xs : List V) (vs : List Value) : RepV μ C x v → RepVs μ C xs vs → RepVs μ C (x :: xs) (v :: vs)
theorem RepVs.length {μ : Nat → Option Place} {C : Facts} {xs : List V} {vs : List Value} (h : RepVs μ C xs vs) : vs.length = xs.length := by
  induction h with
  | nil => rfl
  | cons _ _ _ _ _ _ ih => simp [ih]
theorem RepVs.get {μ : Nat → Option Place} {C : Facts} {xs : List V} {vs : List Value} (h : RepVs μ C xs vs) : ∀ (i : Nat) (x : V), xs[i]? = some x → ∃ v, vs[i]? = some v ∧ RepV μ C x v := by
  induction h with
  | nil => intro i x h; simp at h
  | cons x v xs vs h1 _ ih =>
    intro i y hy
    cases i with
    | zero => simp at hy; subst hy; exact ⟨v, rfl, h1⟩
    | succ i => simpa using ih i y (by simpa using hy)
def CallsB (P : Program) (G : Nat → Option D) (f : FuncId) (h : List (Nat × Blk)) (n0 : Nat) (xs : List V) (r : V) (h' : List (Nat × Blk)) (n1 : Nat) : Prop :=
  ∀ μ C w vs, GlobD G C → Known C w → Held (fun _ => True) h μ C w → (∀ l, n0 ≤ l → μ l = none) → RepVs μ C xs vs →
    Calls P f vs.toArray w fun e W' => ∃ v μ' C', e = .returned v ∧ (∀ l p, l < n0 → μ l = some p → μ' l = some p) ∧ (∀ l, n1 ≤ l → μ' l = none) ∧ Kept (OwnB h μ) w W' ∧ (∀ b o u, C b o u → C' b o u) ∧
      (∀ b o u, C' b o u → C b o u ∨ w.heap.size ≤ b ∨ OwnB h μ b) ∧ Known C' W' ∧ RepV μ' C' r v ∧ Held (fun b => w.heap.size ≤ b ∨ OwnB h μ b) h' μ' C' W'
def V.le (x y : V) : Prop := ∀ μ C v, RepV μ C x v → RepV μ C y v
theorem V.le.refl (x : V) : x.le x := fun _ _ _ h => h
theorem V.le.d {x y : D} (h : x.le y) : (V.d x).le (.d y) := fun _ C v hv => h C v hv
def retB (P : Program) (fn : Func) (r : V) (h' : List (Nat × Blk)) (n1 : Nat) : Exit → St → Prop
  | .ret, st | .normal, st => (∃ v, ((retS P st fn.results.toList).map .d = some v ∨ (∃ pk, retV P pk st fn.results.toList = some v)) ∧ v.le r) ∧ (∀ l k, look h' l = some k → look st.h l = some k) ∧ st.nx ≤ n1
  | _, _ => False
theorem retS_ok {F : Fr} {st : St} {μ : Nat → Option Place} {C : Facts} {a : Act} {w : World} (hs : Sim F st μ C a w) {fn : Func} {d : D} (hd : retS F.P st fn.results.toList = some d) : ∃ v, (results fn a.tmps).run F.P w = .ok v w ∧ Rep C d v := by
  simp only [retS, Option.map_eq_some_iff] at hd
  obtain ⟨es, he, hd⟩ := hd
  obtain ⟨us, h1, h2⟩ := retAll_ok hs he
  have hrun := results_of (P := F.P) (fn := fn) h1
  have hul : us.length = es.length := outs_length h2
  rcases us with _ | ⟨u, _ | ⟨v, us⟩⟩
  · rcases es with _ | ⟨e, es⟩
    · subst hd; exact ⟨.tuple #[], hrun, .tup [] [] .onil⟩
    · cases hul
  · rcases es with _ | ⟨e, _ | ⟨e2, es⟩⟩
    · cases hul
    · cases h2 with
      | ocons _ _ _ _ h3 _ => subst hd; exact ⟨u, hrun, h3⟩
    · simp at hul
  · rcases es with _ | ⟨e, _ | ⟨e2, es⟩⟩
    · cases hul
    · simp at hul
    · subst hd; exact ⟨_, hrun, .tup _ _ h2⟩
section
variable {P : Program} {G : Nat → Option D} {N : Nat}
theorem CallsB.of {f : FuncId} {fn : Func} {c : Code} {h : List (Nat × Blk)} {n0 : Nat} {xs : List V} {r : V} {h' : List (Nat × Blk)} {n1 : Nat} (hf : P.funcs[f]? = some fn) (hb : fn.body = some c) (hN : fn.ntmps = N) (hp : xs.length ≤ N)
    (hh : ∀ F, Env F P G N → F.n0 = n0 → F.top → Sm F c (retB P fn r h' n1) ⟨xs.zipIdx.map fun e => (e.2, e.1), h, n0⟩) : CallsB P G f h n0 xs r h' n1 := by
  intro μ C w vs hG hk hH hnx ha
  let F : Fr := ⟨P, N, w, C, OwnB h μ, none, n0, fun _ _ μ' _ _ => ∀ l p, l < n0 → μ l = some p → μ' l = some p, fun g t l p hl hp => t.low l p hl (g l p hl hp)⟩
  have hvl : vs.length = xs.length := ha.length
  have hsz : (vs.toArray ++ Array.replicate (fn.ntmps - vs.toArray.size) undef).size = N := by simp; omega
  have hlook : ∀ (xs : List V) (k : Nat) (t : Nat) (x : V), look ((xs.zipIdx k).map fun e => (e.2, e.1)) t = some x → k ≤ t ∧ xs[t - k]? = some x := by
    intro xs
    induction xs with
    | nil => intro k t x h; simp [look] at h
    | cons d xs ih =>
      intro k t x h
      simp only [List.zipIdx_cons, List.map_cons, look] at h
      split at h
      · rename_i e; cases h; subst e; exact ⟨Nat.le_refl _, by simp⟩
      · obtain ⟨h1, h2⟩ := ih _ _ _ h
        refine ⟨by omega, ?_⟩
        rw [show t - k = (t - (k + 1)) + 1 by omega]; simpa using h2
  have hsim : Sim F ⟨xs.zipIdx.map fun e => (e.2, e.1), h, n0⟩ μ C { tmps := vs.toArray ++ Array.replicate (fn.ntmps - vs.toArray.size) undef, defers := [] } w := by
    refine ⟨hsz, .nil _ _, Kept.refl _ _, fun _ _ _ h => h, fun _ _ _ h => .inl h, hk, fun t x hx => ?_, fun l k hk => ?_, hH.inj, hnx, fun _ _ _ h => h⟩
    · obtain ⟨_, hd⟩ := hlook xs 0 t x hx
      rw [Nat.sub_zero] at hd
      obtain ⟨v, h1, h2⟩ := ha.get t x hd
      have htl := (List.getElem?_eq_some_iff.1 h1).1
      have : (vs.toArray ++ Array.replicate (fn.ntmps - vs.toArray.size) undef).getD t undef = v := by
        rw [Array.getD_eq_getD_getElem?, Array.getElem?_append_left (by simpa using htl)]
        simp [h1]
      rw [this]; exact h2
    · obtain ⟨p, hp, hB⟩ := hH.heap l k hk
      refine ⟨p, hp, hB.sz, hB.len, hB.max, hB.row, fun hc => ?_⟩
      obtain ⟨_, b⟩ := hB.cells hc
      exact ⟨.inr ⟨l, k, p, hk, hp, hc, rfl⟩, b⟩
  refine calls_of_Sm (F := F) rfl rfl hf hb (hh F ⟨rfl, rfl, hG⟩ rfl ⟨rfl, fun _ _ _ _ _ _ _ _ h => h⟩) hsim (fun e st' hq => by cases e <;> first | exact .inl rfl | exact .inr rfl | exact hq.elim) ?_
  intro e st' μ' C' a w' hq hs0 a2 w'' _ hs
  have hq' : (∃ v, ((retS P st' fn.results.toList).map .d = some v ∨ (∃ pk, retV P pk st' fn.results.toList = some v)) ∧ v.le r) ∧ (∀ l k, look h' l = some k → look st'.h l = some k) ∧ st'.nx ≤ n1 := by cases e <;> first | exact hq | exact hq.elim
  obtain ⟨⟨v, hv, hle⟩, hh', hn⟩ := hq'
  have hlow : ∀ l p, l < n0 → μ l = some p → μ' l = some p := hs0.gh
  have hres : ∃ u, (results fn a2.tmps).run P w'' = .ok u w'' ∧ RepV μ' C' v u := by
    rcases hv with hv | ⟨pk, hv⟩
    · simp only [Option.map_eq_some_iff] at hv
      obtain ⟨d, hd, rfl⟩ := hv
      obtain ⟨u, h1, h2⟩ := retS_ok hs hd
      exact ⟨u, h1, h2⟩
    · exact retV_ok hs hv
  obtain ⟨u, h1, h2⟩ := hres
  refine ⟨u, h1, u, μ', C', rfl, hlow, fun l hl => hs.nx l (by omega), hs.below, hs.sub, hs.new, hs.known, hle _ _ _ h2, fun l k hk => hs.heap l k (hh' l k hk), fun l l' p p' g1 g2 => ?_⟩
  refine hs.inj l l' p p' ?_ ?_
  · obtain ⟨k, hk⟩ := Option.isSome_iff_exists.1 g1; rw [hh' l k hk]; rfl
  · obtain ⟨k, hk⟩ := Option.isSome_iff_exists.1 g2; rw [hh' l' k hk]; rfl
structure Lend (σ : Nat → Nat) (h : List (Nat × Blk)) (n0 : Nat) (hc : List (Nat × Blk)) : Prop where
  dom : ∀ l, l < n0 → (look h l).isSome = true
  lt : ∀ l k, look h l = some k → l < n0
  blk : ∀ l k, look h l = some k → look hc (σ l) = some (k.ren σ)
  inj : ∀ l l', l < n0 → l' < n0 → σ l = σ l' → l = l'
  low : ∀ l k, look h l = some k → ∀ r ∈ k.rows, ∀ x ∈ r, V.lt n0 x = true ∧ x.noGh = true
theorem dB_ren (σ : Nat → Nat) (sz : Nat) (rows : List (List D)) : (dB sz rows).ren σ = dB sz rows := by
  simp only [dB, Blk.ren, List.map_map]
  congr 1
  refine List.map_congr_left fun r _ => ?_
  simp [Function.comp_def, V.ren]
theorem Lend.one {m sz : Nat} {rows : List (List D)} {hc : List (Nat × Blk)} (hm : look hc m = some (dB sz rows)) : Lend (fun _ => m) [(0, dB sz rows)] 1 hc where
  dom l hl := by obtain rfl : l = 0 := by omega
                 rfl
  lt l k hk := by
    simp only [look] at hk
    split at hk
    · omega
    · cases hk
  blk l k hk := by
    simp only [look] at hk
    split at hk
    · cases hk; rw [dB_ren]; exact hm
    · cases hk
  inj l l' h1 h2 _ := by omega
  low l k hk r hr x hx := by
    simp only [look] at hk
    split at hk
    · cases hk
      obtain ⟨r', _, rfl⟩ := List.mem_map.1 hr
      obtain ⟨d, _, rfl⟩ := List.mem_map.1 hx
      exact ⟨rfl, rfl⟩
    · cases hk
def upN (σ : Nat → Nat) (n0 nx : Nat) (l : Nat) : Nat := if l < n0 then σ l else nx + (l - n0)
def Back (σ : Nat → Nat) (n0 nx : Nat) (h' hc hc' : List (Nat × Blk)) : Prop := ∀ m k, look hc' m = some k → (look hc m = some k ∧ ∀ l, l < n0 → σ l ≠ m) ∨ (∃ l k0, upN σ n0 nx l = m ∧ look h' l = some k0 ∧ k = k0.ren (upN σ n0 nx))
theorem borrow_sim {F : Fr} {st : St} {μ : Nat → Option Place} {C : Facts} {a : Act} {w : World} (hs : Sim F st μ C a w) {σ : Nat → Nat} {h h' hc' : List (Nat × Blk)} {n0 n1 : Nat} (hL : Lend σ h n0 st.h) (hB : Back σ n0 st.nx h' st.h hc') :
    let μ0 := fun l => if l < n0 then μ (σ l) else none
    Held (fun _ => True) h μ0 C w ∧ (∀ x v, V.lt n0 x = true → x.noGh = true → RepV μ C (x.ren σ) v → RepV μ0 C x v) ∧
    ∀ μ' C' W', (∀ l p, l < n0 → μ0 l = some p → μ' l = some p) → (∀ l, n1 ≤ l → μ' l = none) → Kept (OwnB h μ0) w W' → (∀ b o u, C b o u → C' b o u) →
      (∀ b o u, C' b o u → C b o u ∨ w.heap.size ≤ b ∨ OwnB h μ0 b) → Known C' W' → Held (fun b => w.heap.size ≤ b ∨ OwnB h μ0 b) h' μ' C' W' →
      Sim F { st with h := hc', nx := st.nx + (n1 - n0) } (fun m => if m < st.nx then μ m else μ' (m - st.nx + n0)) C' a W' ∧ ∀ r v, RepV μ' C' r v → RepV (fun m => if m < st.nx then μ m else μ' (m - st.nx + n0)) C' (r.ren (upN σ n0 st.nx)) v := by
  intro μ0
  have hμ0 : ∀ l p, l < n0 → (μ0 l = some p ↔ μ (σ l) = some p) := fun l p hl => by simp [μ0, hl]
  have hplace : ∀ l k, look h l = some k → ∃ p, μ0 l = some p ∧ μ (σ l) = some p ∧ BlkOk F.mine μ C w p (k.ren σ) := fun l k hk => by
    obtain ⟨p, hp, hb⟩ := hs.heap (σ l) _ (hL.blk l k hk)
    exact ⟨p, (hμ0 l p (hL.lt l k hk)).2 hp, hp, hb⟩
  have hdown : ∀ x v, V.lt n0 x = true → x.noGh = true → RepV μ C (x.ren σ) v → RepV μ0 C x v := fun x v h1 h2 hr => V.ren_down (fun l p hl hp => (hμ0 l p hl).2 hp) h1 h2 hr
  have hown : ∀ b, OwnB h μ0 b → OwnB st.h μ b := fun b ⟨l, k, p, g1, g2, g3, g4⟩ => ⟨σ l, _, p, hL.blk l k g1, (hμ0 l p (hL.lt l k g1)).1 g2, g3, g4⟩
  have hfree : ∀ m k p, look st.h m = some k → (∀ l, l < n0 → σ l ≠ m) → μ m = some p → 0 < p.cap → ¬ OwnB h μ0 p.b := fun m k p g1 g2 g3 g4 ⟨l, k', p', e1, e2, e3, e4⟩ =>
    g2 l (hL.lt l k' e1) (hs.inj (σ l) m p' p (by rw [hL.blk l k' e1]; rfl) (by rw [g1]; rfl) ((hμ0 l p' (hL.lt l k' e1)).1 e2) g3 e3 g4 e4)
  have hlt : ∀ m k, look st.h m = some k → m < st.nx := fun m k hm => by
    obtain ⟨p, hp, _⟩ := hs.heap m k hm
    rcases Nat.lt_or_ge m st.nx with h | h
    · exact h
    · rw [hs.nx m h] at hp; cases hp
  refine ⟨⟨fun l k hk => ?_, fun l l' p p' g1 g2 q1 q2 c1 c2 e => ?_⟩, hdown, ?_⟩
  · obtain ⟨p, hp0, hp, hb⟩ := hplace l k hk
    refine ⟨p, hp0, hb.sz, by simpa [Blk.ren] using hb.len, hb.max, fun r hr => by simpa [Blk.ren] using hb.row (r.map (V.ren σ)) (List.mem_map_of_mem hr), fun hc => ?_⟩
    obtain ⟨_, b2, cur, T, b3, b4, b5⟩ := hb.cells hc
    refine ⟨trivial, b2, cur, T, b3, b4, fun i r hr j x hx => ?_⟩
    obtain ⟨u, u1, u2, u3⟩ := b5 i (r.map (V.ren σ)) (by simp [Blk.ren, hr]) j (x.ren σ) (by simp [hx])
    obtain ⟨x1, x2⟩ := hL.low l k hk r (List.mem_of_getElem? hr) x (List.mem_of_getElem? hx)
    exact ⟨u, u1, u2, hdown x u x1 x2 u3⟩
  · obtain ⟨k, hk⟩ := Option.isSome_iff_exists.1 g1
    obtain ⟨k', hk'⟩ := Option.isSome_iff_exists.1 g2
    exact hL.inj l l' (hL.lt l k hk) (hL.lt l' k' hk') (hs.inj (σ l) (σ l') p p' (by rw [hL.blk l k hk]; rfl) (by rw [hL.blk l' k' hk']; rfl) ((hμ0 l p (hL.lt l k hk)).1 q1) ((hμ0 l' p' (hL.lt l' k' hk')).1 q2) c1 c2 e)
  intro μ' C' W' hlow hn1 hkept hsub hnew hkn hheld
  generalize hμc : (fun m => if m < st.nx then μ m else μ' (m - st.nx + n0)) = μc
  have hm : ∀ m p, μ m = some p → μc m = some p := fun m p hp => by
    have : m < st.nx := by
      rcases Nat.lt_or_ge m st.nx with h | h
      · exact h
      · rw [hs.nx m h] at hp; cases hp
    rw [← hμc]; simp only [if_pos this]; exact hp
  have hup : ∀ l p, μ' l = some p → μc (upN σ n0 st.nx l) = some p := fun l p hp => by
    by_cases hl : l < n0
    · obtain ⟨k, hk⟩ := Option.isSome_iff_exists.1 (hL.dom l hl)
      obtain ⟨q, hq0, hq, _⟩ := hplace l k hk
      have := hlow l q hl hq0
      rw [hp] at this; cases this
      unfold upN; rw [if_pos hl]; exact hm _ _ hq
    · unfold upN; rw [if_neg hl]
      rw [← hμc]; simp only [show ¬ st.nx + (l - n0) < st.nx by omega, if_false]
      rw [show st.nx + (l - n0) - st.nx + n0 = l by omega]; exact hp
  have hmine : ∀ b, (w.heap.size ≤ b ∨ OwnB h μ0 b) → F.mine b := fun b hb => hb.elim (fun hb => .inl (Nat.le_trans hs.below.size hb)) fun hb => (hs.own_cells (hown b hb)).1
  have hblk : ∀ b, b < w.heap.size → ¬ OwnB h μ0 b → W'.heap[b]? = w.heap[b]? := hkept.block
  have hother : ∀ m k, look st.h m = some k → (∀ l, l < n0 → σ l ≠ m) → ∃ p, μc m = some p ∧ μ m = some p ∧ BlkOk F.mine μc C' W' p k := fun m k g1 g2 => by
    obtain ⟨p, hp, hb⟩ := hs.heap m k g1
    refine ⟨p, hm m p hp, hp, hb.sz, hb.len, hb.max, hb.row, fun hc => ?_⟩
    obtain ⟨b1, b2, cur, T, b3, b4, b5⟩ := hb.cells hc
    have hno := hfree m k p g1 g2 hp hc
    refine ⟨b1, fun o u hcu => ?_, cur, T, (hblk _ (hb.lt hc) hno).trans b3, b4, b5.mono hm hsub⟩
    rcases hnew _ _ _ hcu with h1 | h1 | h1
    · exact b2 o u h1
    · have := hb.lt hc; omega
    · exact hno h1
  have hback : ∀ l k0, look h' l = some k0 → ∃ p, μ' l = some p ∧ μc (upN σ n0 st.nx l) = some p ∧ (0 < p.cap → w.heap.size ≤ p.b ∨ OwnB h μ0 p.b) ∧ BlkOk F.mine μc C' W' p (k0.ren (upN σ n0 st.nx)) := fun l k0 hk => by
    obtain ⟨p, hp, hb⟩ := hheld.heap l k0 hk
    refine ⟨p, hp, hup l p hp, fun hc => (hb.cells hc).1, hb.sz, by simpa [Blk.ren] using hb.len, hb.max, fun r hr => ?_, fun hc => ?_⟩
    · obtain ⟨r', hr', rfl⟩ := List.mem_map.1 hr
      simpa [Blk.ren] using hb.row r' hr'
    · obtain ⟨b1, b2, cur, T, b3, b4, b5⟩ := hb.cells hc
      refine ⟨hmine _ b1, b2, cur, T, b3, b4, fun i r hr j x hx => ?_⟩
      simp only [Blk.ren, List.getElem?_map, Option.map_eq_some_iff] at hr
      obtain ⟨r', hr', rfl⟩ := hr
      simp only [List.getElem?_map, Option.map_eq_some_iff] at hx
      obtain ⟨x', hx', rfl⟩ := hx
      obtain ⟨u, u1, u2, u3⟩ := b5 i r' hr' j x' hx'
      exact ⟨u, u1, u2, V.ren_up hup u3⟩
  refine ⟨⟨hs.size, ⟨hs.defers.nodup, fun d hd => ?_⟩, ⟨hkept.os.trans hs.below.os, hkept.tape.trans hs.below.tape, hkept.output.trans hs.below.output, Nat.le_trans hs.below.size hkept.size, fun n hn hno => ?_⟩, fun b o u hc => hsub _ _ _ (hs.sub _ _ _ hc), fun b o u hc => (hnew b o u hc).elim (hs.new b o u) fun hb => .inr (hmine b hb), hkn, fun t x hx => (hs.env t x hx).mono hm hsub, fun m k hk => ?_, fun m m' p p' g1 g2 q1 q2 c1 c2 e => ?_, fun m hm' => ?_, F.stab hs.gh ⟨hkept.os, hkept.tape, hkept.output, hkept.size, fun l p _ hp => hm l p hp, fun m hm' => ?_, fun b hb hn => hblk b hb fun ho => hn (hown b ho), fun b ⟨m, k, p, g1, g2, g3, g4⟩ => ?_, hsub, fun b o u hc => (hnew b o u hc).imp id fun h => h.elim .inr fun h => .inl (hown b h), hkn⟩⟩, fun r v hr => V.ren_up hup hr⟩
  · obtain ⟨q, q1, q2, q3⟩ := hs.defers.each d hd
    refine ⟨q, q1, q2, (hblk q (Array.getElem?_eq_some_iff.1 q3).1 fun ho => ?_).trans q3⟩
    obtain ⟨_, _, cur, T, hc⟩ := hs.own_cells (hown q ho)
    rw [q3] at hc; cases hc
  · rw [hblk n (Nat.lt_of_lt_of_le hn hs.below.size) fun ho => ?_]
    · exact hs.below.block n hn hno
    · rcases (hs.own_cells (hown n ho)).1 with h1 | h1
      · omega
      · exact hno h1
  · rcases hB m k hk with ⟨g1, g2⟩ | ⟨l, k0, rfl, g2, rfl⟩
    · obtain ⟨p, hp, _, hb⟩ := hother m k g1 g2; exact ⟨p, hp, hb⟩
    · obtain ⟨p, _, hp, _, hb⟩ := hback l k0 g2; exact ⟨p, hp, hb⟩
  · obtain ⟨k, hk⟩ := Option.isSome_iff_exists.1 g1
    obtain ⟨k', hk'⟩ := Option.isSome_iff_exists.1 g2
    have apart : ∀ m k p l k0 p', look st.h m = some k → (∀ l, l < n0 → σ l ≠ m) → μc m = some p → look h' l = some k0 → μc (upN σ n0 st.nx l) = some p' → 0 < p.cap → 0 < p'.cap → p.b ≠ p'.b := by
      intro m k p l k0 p' a1 a2 a3 a4 a5 a6 a7 a8
      obtain ⟨q, hq, hqm, hqb⟩ := hother m k a1 a2
      rw [hq] at a3; cases a3
      obtain ⟨q', _, hq', hqo, _⟩ := hback l k0 a4
      rw [hq'] at a5; cases a5
      obtain ⟨p2, hp2, hb2⟩ := hs.heap m k a1
      rw [hqm] at hp2; cases hp2
      rcases hqo a7 with h1 | h1
      · have := hb2.lt a6; omega
      · exact hfree m k p a1 a2 hqm a6 (a8 ▸ h1)
    rcases hB m k hk with ⟨a1, a2⟩ | ⟨l, k0, rfl, a2, rfl⟩ <;> rcases hB m' k' hk' with ⟨b1, b2⟩ | ⟨l', k0', rfl, b2, rfl⟩
    · obtain ⟨q, hq, hqm, _⟩ := hother m k a1 a2
      obtain ⟨q', hq', hqm', _⟩ := hother m' k' b1 b2
      rw [hq] at q1; cases q1; rw [hq'] at q2; cases q2
      exact hs.inj m m' _ _ (by rw [a1]; rfl) (by rw [b1]; rfl) hqm hqm' c1 c2 e
    · exact absurd e (apart m k p l' k0' p' a1 a2 q1 b2 q2 c1 c2)
    · exact absurd e.symm (apart m' k' p' l k0 p b1 b2 q2 a2 q1 c2 c1)
    · obtain ⟨q, hq, hqm, _⟩ := hback l k0 a2
      obtain ⟨q', hq', hqm', _⟩ := hback l' k0' b2
      rw [hqm] at q1; cases q1; rw [hqm'] at q2; cases q2
      rw [hheld.inj l l' _ _ (by rw [a2]; rfl) (by rw [b2]; rfl) hq hq' c1 c2 e]
  · have h1 : st.nx + (n1 - n0) ≤ m := hm'
    rw [← hμc]; simp only [show ¬ m < st.nx by omega, if_false]
    exact hn1 _ (by omega)
  · obtain ⟨k, hk⟩ := Option.isSome_iff_exists.1 hm'
    rcases hB m k hk with ⟨a1, _⟩ | ⟨l, k0, rfl, a2, rfl⟩
    · left; rw [a1]; rfl
    · by_cases hl : l < n0
      · obtain ⟨k2, hk2⟩ := Option.isSome_iff_exists.1 (hL.dom l hl)
        left; unfold upN; rw [if_pos hl, hL.blk l k2 hk2]; rfl
      · right; unfold upN; rw [if_neg hl]; exact hs.nx _ (by omega)
  · rcases hB m k g1 with ⟨a1, a2⟩ | ⟨l, k0, rfl, a2, rfl⟩
    · obtain ⟨q, hq, hqm, _⟩ := hother m k a1 a2
      rw [hq] at g2; cases g2
      exact .inl ⟨m, k, _, a1, hqm, g3, g4⟩
    · obtain ⟨q, _, hq, hqo, _⟩ := hback l k0 a2
      rw [hq] at g2; cases g2
      rcases hqo g3 with h1 | h1
      · exact .inr (g4 ▸ h1)
      · exact .inl (g4 ▸ hown _ h1)
end
def evVs (ev : Operand → Option V) : List Operand → Option (List V)
  | [] => some []
  | x :: r => (ev x).bind fun v => (evVs ev r).map (v :: ·)
theorem evVs_ok {ev : Operand → Option V} {μ : Nat → Option Place} {C : Facts} {a : Act} (hev : ∀ x v, ev x = some v → RepV μ C v (a.eval x)) : ∀ {xs : List Operand} {ys : List V}, evVs ev xs = some ys → RepVs μ C ys (xs.map a.eval) := by
  intro xs
  induction xs with
  | nil => intro ys h; cases h; exact .nil
  | cons x xs ih =>
    intro ys h
    simp only [evVs, Option.bind_eq_some_iff, Option.map_eq_some_iff] at h
    obtain ⟨v, hv, r, hr, rfl⟩ := h
    exact .cons _ _ _ _ (hev x _ hv) (ih hr)
theorem evVs_congr {ev ev' : Operand → Option V} (h : ∀ x, ev x = ev' x) : ∀ (xs : List Operand), evVs ev xs = evVs ev' xs := by
  intro xs
  induction xs with
  | nil => rfl
  | cons x xs ih => simp only [evVs, h x, ih]
theorem RepVs.append {μ : Nat → Option Place} {C : Facts} {xs ys : List V} {vs us : List Value} (h : RepVs μ C xs vs) (k : RepVs μ C ys us) : RepVs μ C (xs ++ ys) (vs ++ us) := by
  induction h with
  | nil => exact k
  | cons x v xs vs h1 _ ih => exact .cons _ _ _ _ h1 ih
theorem RepVs.of_outs {μ : Nat → Option Place} {C : Facts} {ds : List D} : ∀ {us : List Value}, Rp C (.outs ds us) → RepVs μ C (ds.map V.d) us := by
  induction ds with
  | nil => intro us h; cases h; exact .nil
  | cons d ds ih => intro us h; cases h with | ocons _ v _ vs h1 h2 => exact .cons _ _ _ _ h1 (ih h2)
def lowVs (n : Nat) (xs : List V) : Bool := xs.all fun x => x.lt n && x.noGh
theorem RepVs.down {μ μ0 : Nat → Option Place} {C : Facts} {n : Nat} {σ : Nat → Nat} (hd : ∀ x v, V.lt n x = true → x.noGh = true → RepV μ C (x.ren σ) v → RepV μ0 C x v) : ∀ {xs : List V} {vs : List Value}, lowVs n xs = true → RepVs μ C (xs.map (V.ren σ)) vs → RepVs μ0 C xs vs := by
  intro xs
  induction xs with
  | nil => intro vs _ h; cases h; exact .nil
  | cons x xs ih =>
    intro vs hl h
    simp only [lowVs, List.all_cons, Bool.and_eq_true] at hl
    cases h with
    | cons _ v _ vs h1 h2 => exact .cons _ _ _ _ (hd x v hl.1.1 hl.1.2 h1) (ih (by simpa [lowVs] using hl.2) h2)
section
variable {P : Program} {G : Nat → Option D} {N : Nat} {F : Fr} {ops : Array Oper} {rest : List Oper} {o : Oper} {Q : Exit → St → Prop} {st : St} {σ : Nat → Nat} {h0 h' hc' : List (Nat × Blk)} {n0 n1 : Nat} {r : V} {xs0 : List V}
theorem borrow_call (hF : Env F P G N) (hL : Lend σ h0 n0 st.h) (hB : Back σ n0 st.nx h' st.h hc') {f : FuncId} {μ : Nat → Option Place} {C : Facts} {a : Act} {w : World} {vs : List Value} (hs : Sim F st μ C a w) (hlow : lowVs n0 xs0 = true) (hvs : RepVs μ C (xs0.map (V.ren σ)) vs) (hc : CallsB P G f h0 n0 xs0 r h' n1)
    {K : Value → World → Prop} (k : ∀ v μ' C' w', Sim F { st with h := hc', nx := st.nx + (n1 - n0) } μ' C' a w' → RepV μ' C' (r.ren (upN σ n0 st.nx)) v → K v w') : Calls P f vs.toArray w fun e w' => ∃ v, e = .returned v ∧ K v w' := by
  obtain ⟨rfl, rfl, hG⟩ := hF
  obtain ⟨hH, hdown, hback⟩ := borrow_sim (n1 := n1) hs hL hB
  refine (hc _ C w vs (hG.mono hs.sub) hs.known hH (fun l hl => by simp only [show ¬ l < n0 by omega, if_false]) (RepVs.down hdown hlow hvs)).mono ?_
  rintro e W' ⟨v, μ', C', rfl, g1, g2, g3, g4, g5, g6, g7, g8⟩
  obtain ⟨s1, s2⟩ := hback μ' C' W' g1 g2 g3 g4 g5 g6 g8
  exact ⟨v, rfl, k v _ C' W' s1 (s2 r v g7)⟩
theorem SmL.callFB (hF : Env F P G N) (hN : St.small N st) (hL : Lend σ h0 n0 st.h) (hB : Back σ n0 st.nx h' st.h hc') {f : FuncId} {x : Operand} {xs : Array Operand} {ts : Array TypeId} {t : Tmp} {ys : List V} {caps : List D} (hg : guardS ops st.env o.guard = some true) (ho : o.op = .call ⟨.value x, xs, ts⟩) (hd : o.dst = some t) (hb : hasBody P f = true)
    (hx : evD G st.env x = some (.d (.fn f caps))) (hargs : evVs (evD G st.env) xs.toList = some ys) (hys : ys ++ caps.map V.d = xs0.map (V.ren σ)) (hlow : lowVs n0 xs0 = true) (ht : t < N) (hc : CallsB P G f h0 n0 xs0 r h' n1)
    (k : SmL F ops rest Q ⟨(t, r.ren (upN σ n0 st.nx)) :: st.env, hc', st.nx + (n1 - n0)⟩) : SmL F ops (o :: rest) Q st := by
  intro μ C a w hs
  have hev : ∀ x v, evD G st.env x = some v → RepV μ C v (a.eval x) := fun x v h => evD_ok hs hF.glob h
  refine wpS_step (fun _ => by rw [ho]; simp) fun K hK => ?_
  rw [guardS_ok hs hg (by rw [hF.size]; exact hN), if_pos rfl]
  have hfv := hev x _ hx
  generalize hfx : a.eval x = fv at hfv
  cases hfv with
  | fn _ _ us hu =>
    have hPP := hF.prog
    rw [hPP]
    refine wp_callV f (fun a w => hcall_of hb a w) x xs ts ho us hfx (xs.toList.map a.eval) rfl ?_
    refine borrow_call hF hL hB hs hlow ?_ hc ?_
    · rw [← hys]; exact (evVs_ok hev hargs).append (.of_outs hu)
    · intro v μ' C' w' s1 s2
      rw [hd]
      exact hK _ _ (k μ' C' _ w' (s1.put (by rw [hF.size]; exact ht) s2))
end
theorem Back.one {m nx sz sz' : Nat} {rows rows' : List (List D)} {h : List (Nat × Blk)} (hm : look h m = some (dB sz rows)) : Back (fun _ => m) 1 nx [(0, dB sz' rows')] h (rep h m (dB sz' rows')) := by
  intro l k hk
  rw [look_rep] at hk
  split at hk
  · rename_i e
    subst e
    rw [hm] at hk; cases hk
    exact .inr ⟨0, _, by simp [upN], rfl, (dB_ren _ _ _).symm⟩
  · rename_i e
    exact .inl ⟨hk, fun _ _ h => e h.symm⟩
section
variable {P : Program} {G : Nat → Option D} {N : Nat} {F : Fr} {ops rest : List Oper} {o : Oper} {Q : Exit → St → Prop} {env : List (Nat × V)} {h : List (Nat × Blk)} {nx n1 : Nat} {r : V} {xs0 : List V}
theorem SmG.callF1 (hF : Env F P G N) (m : Nat) {f : FuncId} {x : Operand} {xs : List Operand} {ts : Array TypeId} {t : Tmp} {ys : List V} {caps : List D} {sz sz' : Nat} {rows rows' : List (List D)} (ho : o.op = .call ⟨.value x, xs.toArray, ts⟩) (hd : o.dst = some t) (ht : Nat.blt t N = true)
    (hg : guardB ops env o.guard = some true) (hx : evB G env x = some (.d (.fn f caps))) (hargs : evVs (evB G env) xs = some ys) (hb : hasBody P f = true) (hm : lookB h m = some (dB sz rows)) (hc : CallsB P G f [(0, dB sz rows)] 1 xs0 r [(0, dB sz' rows')] n1) (hys : ys ++ caps.map V.d = xs0.map (V.ren fun _ => m)) (hlow : lowVs 1 xs0 = true)
    (k : SmG F N ops rest Q ⟨(t, r.ren (upN (fun _ => m) 1 nx)) :: env, rep h m (dB sz' rows'), nx + (n1 - 1)⟩) : SmG F N ops (o :: rest) Q ⟨env, h, nx⟩ := by
  have ht' : t < N := by simpa [Nat.blt_eq] using ht
  intro hs
  rw [evB_eq] at hx
  rw [lookB_eq] at hm
  rw [evVs_congr (evB_eq G env)] at hargs
  exact SmL.callFB hF hs (.one hm) (.one hm) (guardB_ok hg) ho hd hb hx (by simpa using hargs) hys hlow ht' hc (k (small_put hs ht'))
end
theorem opV_lookup {P : Program} {G : Nat → Option D} {env : List (Nat × V)} {h : List (Nat × Blk)} {o : Oper} {t : TypeId} {x i : Operand} {ok : Bool} {v w y : V} (ho : o.op = .lookup t x i ok) (hx : evB G env x = some v) (hi : evB G env i = some w) (hy : lookupS P t v w ok = some y) : opV P (evD G env) h o = some y := by
  rw [evB_eq] at hx hi; simp only [opV, ho, hx, hi, Option.bind_some, hy]
theorem retQ_cell2 {P : Program} {fn : Func} {p q : Tmp} {ty : TypeId} {st : St} {x : V} {v v2 d : D} (hr : fn.results = #[.cell p ty, .tmp q]) (hx : lookB st.env p = some x) (hl : loadS P st.h ty x = some (.d v)) (h2 : lookB st.env q = some (.d v2)) (hle : (D.tup [v, v2]).le d) : retQ P fn d .ret st := by
  refine ⟨.tup [v, v2], ?_, hle⟩
  rw [lookB_eq] at hx h2
  simp only [retS, hr, retAll, retOne, hx, hl, h2, Option.bind_some, pureV, Option.map_some]
def leL : List D → List D → Prop
  | [], [] => True
  | x :: xs, y :: ys => x.le y ∧ leL xs ys
  | _, _ => False
theorem leL.refl : ∀ (xs : List D), leL xs xs
  | [] => trivial
  | _ :: xs => ⟨D.le.refl _, leL.refl xs⟩
theorem D.le_tup {xs ys : List D} (h : leL xs ys) : (D.tup xs).le (.tup ys) := by
  intro C v hv
  cases hv with
  | tup _ vs hv =>
  refine .tup ys vs ?_
  induction xs generalizing ys vs with
  | nil => cases ys with
    | nil => exact hv
    | cons => exact h.elim
  | cons x xs ih => cases ys with
    | nil => exact h.elim
    | cons y ys => cases hv with | ocons _ v _ vs h1 h2 => exact .ocons _ _ _ _ (h.1 C v h1) (ih h.2 vs h2)
theorem D.le_agg {n : Nat} {xs ys : List D} (h : leL xs ys) : (D.agg n xs).le (.agg n ys) := by
  intro C v hv
  cases hv with
  | agg _ _ vs hn hv =>
  have hlen : ∀ (xs ys : List D), leL xs ys → xs.length = ys.length := by
    intro xs
    induction xs with
    | nil => intro ys h; cases ys with
      | nil => rfl
      | cons => exact h.elim
    | cons x xs ih => intro ys h; cases ys with
      | nil => exact h.elim
      | cons y ys => simp [ih ys h.2]
  refine .agg n ys vs (by rw [← hlen xs ys h]; exact hn) ?_
  clear hn
  induction xs generalizing ys vs with
  | nil => cases ys with
    | nil => exact hv
    | cons => exact h.elim
  | cons x xs ih => cases ys with
    | nil => exact h.elim
    | cons y ys => cases hv with | vcons _ v _ vs h0 h1 h2 => exact .vcons _ _ _ _ h0 (h.1 C v h1) (ih h.2 vs h2)
theorem mapM_get {α β : Type} (f : α → Option β) : ∀ {l : List α} {r : List β}, l.mapM f = some r → ∀ i : Nat, (l[i]?).bind f = r[i]? := by
  intro l
  induction l with
  | nil => intro r h i; simp at h; subst h; simp
  | cons a l ih =>
    intro r h i
    rw [List.mapM_cons] at h
    simp only [Option.bind_eq_bind, Option.bind_eq_some_iff, Option.pure_def, Option.some.injEq] at h
    obtain ⟨b, hb, r', hr, rfl⟩ := h
    cases i with
    | zero => simpa using hb
    | succ i => simpa using ih hr i
theorem buildS_struct {P : Program} {t : TypeId} {pl : List (Nat × Nat)} {ps : List (Nat × V)} {z cs : List D} {n : Nat} (hz : zeroD P t = some z) (hp : placesL P t = some pl) (hn : z.length = n) (hf : fillD (fun i => pl[i]?) ps z = some cs) : buildS P t ps = some (.d (.agg n cs)) := by
  have hpl : ∃ g, placesT P t = some g ∧ g = fun i => pl[i]? := by
    unfold placesL at hp
    unfold placesT
    split at hp
    · rename_i fs hu
      rw [hu]
      refine ⟨_, rfl, funext fun i => ?_⟩
      have := mapM_get _ hp i
      rw [← this, Array.getElem?_toList]
    · cases hp
  obtain ⟨g, hg, rfl⟩ := hpl
  simp only [buildS, buildD, hz, hg, Option.bind_some, hf, Option.map_some, hn]
theorem fill_one {pl : Nat → Option (Nat × Nat)} {i off n : Nat} {x : V} {d : D} {r : List (Nat × V)} {cs : List D} (h : pl i = some (off, 1)) (hx : partOf 1 x = some [d]) (hn : cs.length = n) (hl : off + 1 ≤ n) : fillD pl ((i, x) :: r) cs = fillD pl r (cs.set off d) := by
  subst hn
  simp only [fillD, h, Option.bind_some, hx, hl, if_true, setD]
theorem fill_agg {pl : Nat → Option (Nat × Nat)} {i off s n : Nat} {ys : List D} {r : List (Nat × V)} {cs : List D} (h : pl i = some (off, s)) (hs : 2 ≤ s) (hy : ys.length = s) (hn : cs.length = n) (hl : off + s ≤ n) : fillD pl ((i, .d (.agg s ys)) :: r) cs = fillD pl r (cs.take off ++ ys ++ cs.drop (off + s)) := by
  subst hn
  simp only [fillD, h, Option.bind_some, partOf, if_true, hl, if_neg (show ¬ s = 1 by omega)]
  split
  · rename_i e
    have h0 : off = 0 := by omega
    subst h0
    have : cs.drop (0 + s) = [] := List.drop_eq_nil_of_le (by omega)
    rw [this]; simp
  · rw [layD, hy]
theorem fillE {pl : Nat → Option (Nat × Nat)} {cs cs' : List D} (h : cs = cs') : fillD pl [] cs = some cs' := by rw [h]; rfl
theorem fill_oneE {pl : Nat → Option (Nat × Nat)} {i off : Nat} {x : V} {d : D} {r : List (Nat × V)} {cs : List D} {res : Option (List D)} (h : pl i = some (off, 1)) (hx : partOf 1 x = some [d]) (hl : Nat.ble (off + 1) cs.length = true) (k : fillD pl r (cs.set off d) = res) : fillD pl ((i, x) :: r) cs = res := by
  rw [fill_one h hx rfl (Nat.le_of_ble_eq_true hl)]; exact k
theorem fill_aggE {pl : Nat → Option (Nat × Nat)} {i off s : Nat} {ys : List D} {r : List (Nat × V)} {cs : List D} {res : Option (List D)} (h : pl i = some (off, s)) (hs : Nat.ble 2 s = true) (hl : Nat.ble (off + s) cs.length = true) (hy : ys.length = s) (k : fillD pl r (cs.take off ++ ys ++ cs.drop (off + s)) = res) : fillD pl ((i, .d (.agg s ys)) :: r) cs = res := by
  rw [fill_agg h (Nat.le_of_ble_eq_true hs) hy rfl (Nat.le_of_ble_eq_true hl)]; exact k
def ltR (n : Nat) : List V → Prop
  | [] => True
  | x :: r => V.lt n x = true ∧ ltR n r
theorem ltR_map (n : Nat) : ∀ (r : List D), ltR n (r.map V.d)
  | [] => trivial
  | _ :: r => ⟨rfl, ltR_map n r⟩
theorem ltR_mem {n : Nat} : ∀ {r : List V}, ltR n r → ∀ x ∈ r, V.lt n x = true
  | [], _, x, hx => by cases hx
  | y :: r, h, x, hx => by
    rcases List.mem_cons.1 hx with rfl | hx
    · exact h.1
    · exact ltR_mem h.2 x hx
theorem ltH_row {n m sz : Nat} {r : List V} {h : List (Nat × Blk)} (f : ltH n h) (hr : ltR n r) : ltH n ((m, ⟨sz, [r]⟩) :: h) := ltH_cons f fun r' hr' x hx => by
  obtain rfl : r' = r := by simpa using hr'
  exact ltR_mem hr x hx
section
variable {P : Program} {G : Nat → Option D} {N : Nat} {F : Fr} {ops rest : List Oper} {o : Oper} {Q : Exit → St → Prop} {env : List (Nat × V)} {h : List (Nat × Blk)} {nx : Nat} {t e : TypeId} {z : Value} {size bytes : Nat}
theorem SmG.appendCell (hF : Env F P G N) (hE : ElemT P t e z size bytes) {s x : Operand} {d : Tmp} {sz' l n : Nat} {xs ys : List (List D)} {f : Bool} (ho : o.op = .call ⟨.builtin .append, #[s, x], #[t, t]⟩) (hd : o.dst = some d) (hdN : Nat.blt d N = true) (hg : guardB ops env o.guard = some true)
    (hs : evB G env s = some (.sref l 0 n)) (hx : evB G env x = some (.d (.list sz' ys f))) (hl : lookB h l = some ⟨size, xs.map fun r => r.map V.d⟩) (hn : n = xs.length) (hsz' : sz' = size ∨ ys = []) (hb : (xs.length + ys.length) * bytes ≤ 140737488355328) (hb2 : xs.length + ys.length ≤ 140737488355328)
    (k : SmG F N ops rest Q ⟨(d, .sref l 0 (xs ++ ys).length) :: killV l env, rep (mapH (killX l) h) l (dB size (xs ++ ys)), nx⟩) (hlow : F.n0 ≤ l := by omega) : SmG F N ops (o :: rest) Q ⟨env, h, nx⟩ := by
  refine SmG.killH l (SmG.appendOwn hF hE ho hd hdN hg hs hx ?_ hn hsz' (free_killH l h) hb hb2 k hlow)
  rw [lookB_eq] at hl ⊢
  rw [look_mapH, hl]
  exact congrArg some (killB_dB l size xs)
end
end Go.Proofs.YtagfaaijgfigkaaDoor
namespace Go.Proofs.YtagfaaijgfigkaaDoor
open Go.RowKit
set_option maxRecDepth 100000
theorem clone_O (l : List Res) (hl : l.length ≤ 1000000) (G : Nat → Option D) : CallsO Tryd.prog G 36 [ressL l] .one 2 (l.map Res.row) [] := by
  refine CallsO.of Tryd.func36 rfl Tryd.ntmps36 (by simp) ?_; intro F hF h0 hT; simp only [List.zipIdx_cons, List.zipIdx_nil, List.map_cons, List.map_nil, Nat.zero_add, Nat.reduceAdd]
  refine Sm.seq ?_
  refine Sm.regionG hF rfl ?_
  refine SmG.v hF rfl rfl rfl (opV_assign rfl rfl) ?_
  refine SmG.nil ?_
  refine nextS_normal ?_
  refine Sm.seq ?_
  refine Sm.seq ?_
  refine Sm.regionG hF rfl ?_
  refine SmG.v hF rfl rfl rfl (opV_move rfl rfl) ?_
  refine SmG.nilEq hF Tryd.underlying27 rfl rfl rfl rfl rfl (fun c hc => ?_)
  refine SmG.nil ?_
  refine nextS_normal ?_
  cases c with
  | true =>
    have h0 : l = [] := by
      rcases l with _ | ⟨r, l⟩
      · rfl
      · have := hc (by simp)
        cases this
    subst h0
    refine Sm.condT hF rfl ?_
    refine Sm.seq ?_
    refine Sm.regionG hF rfl ?_
    (refine SmG.v hF rfl rfl rfl (opV_assign rfl rfl) ?_; refine SmG.own (t := 2) 2 rfl ?_)
    refine SmG.nil ?_
    refine nextS_normal ?_
    refine Sm.ret ?_
    simp only [nextS, blockS]
    exact ⟨0, rfl, rfl⟩
  | false =>
    refine Sm.condF hF rfl ?_
    refine Sm.skip ?_
    refine nextS_normal ?_
    refine Sm.seq ?_
    refine Sm.regionG hF rfl ?_
    refine SmG.v hF rfl rfl rfl (opV_buildSlice rfl rfl (by simp (disch := omega) only [go_sem, Nat.reduceEqDiff, iteP, ressL] <;> rfl)) ?_
    refine SmG.v hF rfl rfl rfl (opV_move rfl rfl) ?_
    refine SmG.appendFresh hF elRes rfl rfl rfl rfl rfl rfl (Or.inl rfl) (by simp only [List.length_map]; omega) (by simp only [List.length_map]; omega) ?_
    refine SmG.v hF rfl rfl rfl (opV_assign rfl rfl) ?_
    refine SmG.nil ?_
    refine nextS_normal ?_
    refine Sm.ret ?_
    exact ⟨0, rfl, rfl⟩
def lie (x : Wk) (at0 : Int) (l : List Res) : List Res := if at0 ≤ x.at_ ∧ x.at_ < at0 + l.length then l.set (x.at_ - at0).toNat x.by_ else l
theorem lie_B (x : Wk) (t : Int) (at0 : Nat) (l : List Res) (hl : l.length ≤ 1000000) (ha : at0 ≤ 1000000) (G : Nat → Option D) :
    CallsB Tryd.prog G 48 [(0, dB 2 (l.map Res.row))] 1 [.d (wkD x), .d (.v (.int .i64 t)), .d (.v (.int .i64 at0)), .sref 0 0 (l.map Res.row).length] (.mix true 0 (l.map Res.row).length [.v (.bool true)]) [(0, dB 2 ((lie x at0 l).map Res.row))] 2 := by
  have hlen : (l.map Res.row).length = l.length := List.length_map ..
  by_cases h1 : (at0 : Int) ≤ x.at_
  · by_cases h2 : x.at_ < (at0 : Int) + (l.length : Int)
    · obtain ⟨k, hk⟩ : ∃ k : Nat, x.at_ = (at0 : Int) + (k : Int) := ⟨(x.at_ - at0).toNat, by omega⟩
      have hkl : k < l.length := by omega
      have hrow : (l.map Res.row)[k]? = some l[k].row := by simp [hkl]
      have hli : lie x at0 l = l.set k x.by_ := by
        unfold lie
        rw [if_pos ⟨h1, h2⟩]
        congr 1; omega
      have hki : (x.at_ - (at0 : Int)).toNat = k := by omega
      have hset : (dB 2 (l.map Res.row)).rows.set k (x.by_.row.map V.d) = (dB 2 ((lie x at0 l).map Res.row)).rows := by
        rw [hli]
        simp [dB, List.map_set]
      refine CallsB.of Tryd.func48 rfl Tryd.ntmps48 (by simp) ?_; intro F hF h0 hT; simp only [List.zipIdx_cons, List.zipIdx_nil, List.map_cons, List.map_nil, Nat.zero_add, Nat.reduceAdd]
      refine Sm.seq ?_
      refine Sm.regionG hF rfl ?_
      refine SmG.new hF rfl rfl rfl (opS_box rfl rfl (by simp (disch := omega) only [go_sem, Nat.reduceEqDiff, iteP, wkD, Wk.row, Res.row, hlen, hki, hrow, dB] <;> rfl)) ?_
      refine SmG.v hF rfl rfl rfl (opV_assign rfl rfl) ?_
      refine SmG.v hF rfl rfl rfl (opV_assign rfl rfl) ?_
      refine SmG.nil ?_
      refine nextS_normal ?_
      refine Sm.seq ?_
      refine Sm.seq ?_
      refine Sm.regionG hF rfl ?_
      refine SmG.v hF rfl rfl rfl (opV_fieldAddr rfl rfl (by simp (disch := omega) only [go_sem, Nat.reduceEqDiff, iteP, wkD, Wk.row, Res.row, hlen, hki, hrow, dB] <;> rfl)) ?_
      refine SmG.v hF rfl rfl rfl (opV_load rfl rfl (by simp (disch := omega) only [go_sem, Nat.reduceEqDiff, iteP, wkD, Wk.row, Res.row, hlen, hki, hrow, dB] <;> rfl)) ?_
      refine SmG.v hF rfl rfl rfl (opV_move rfl rfl) ?_
      refine SmG.v hF rfl rfl rfl (opV_bin rfl rfl rfl (by first | exact rd_geqT _ _ _ _ _ (by omega) | exact rd_geqF _ _ _ _ _ (by omega) | exact rb_geq _ _ _ _ _ _ _)) ?_
      refine SmG.v hF rfl rfl rfl (opV_move rfl rfl) ?_
      first | refine SmG.v hF rfl rfl rfl (opV_fieldAddr rfl rfl (by simp (disch := omega) only [go_sem, Nat.reduceEqDiff, iteP, wkD, Wk.row, Res.row, hlen, hki, hrow, dB] <;> rfl)) ?_ | refine SmG.pass hF rfl rfl rfl ?_
      first | refine SmG.v hF rfl rfl rfl (opV_load rfl rfl (by simp (disch := omega) only [go_sem, Nat.reduceEqDiff, iteP, wkD, Wk.row, Res.row, hlen, hki, hrow, dB] <;> rfl)) ?_ | refine SmG.pass hF rfl rfl rfl ?_
      first | refine SmG.v hF rfl rfl rfl (opV_move rfl rfl) ?_ | refine SmG.pass hF rfl rfl rfl ?_
      first | refine SmG.v hF rfl rfl rfl (opV_move rfl rfl) ?_ | refine SmG.pass hF rfl rfl rfl ?_
      first | refine SmG.v hF rfl rfl rfl (opV_len rfl rfl (by simp (disch := omega) only [go_sem, Nat.reduceEqDiff, iteP, wkD, Wk.row, Res.row, hlen, hki, hrow, dB] <;> rfl)) ?_ | refine SmG.pass hF rfl rfl rfl ?_
      first | refine SmG.v hF rfl rfl rfl (opV_bin rfl rfl rfl (by first | exact rd_add _ _ _ _ _ (wrapI64 _ (by omega)) | exact rb_add _ _ _ _ _ _ _)) ?_ | refine SmG.pass hF rfl rfl rfl ?_
      first | refine SmG.v hF rfl rfl rfl (opV_bin rfl rfl rfl (by first | exact rd_lssT _ _ _ _ _ (by omega) | exact rd_lssF _ _ _ _ _ (by omega) | exact rb_lss _ _ _ _ _ _ _)) ?_ | refine SmG.pass hF rfl rfl rfl ?_
      first | refine SmG.v hF rfl rfl rfl (opV_pickT rfl rfl rfl) ?_ | refine SmG.v hF rfl rfl rfl (opV_pickF rfl rfl rfl) ?_
      refine SmG.nil ?_
      refine nextS_normal ?_
      refine Sm.condT hF rfl ?_
      refine Sm.regionG hF rfl ?_
      refine SmG.v hF rfl rfl rfl (opV_move rfl rfl) ?_
      refine SmG.v hF rfl rfl rfl (opV_fieldAddr rfl rfl (by simp (disch := omega) only [go_sem, Nat.reduceEqDiff, iteP, wkD, Wk.row, Res.row, hlen, hki, hrow, dB] <;> rfl)) ?_
      refine SmG.v hF rfl rfl rfl (opV_load rfl rfl (by simp (disch := omega) only [go_sem, Nat.reduceEqDiff, iteP, wkD, Wk.row, Res.row, hlen, hki, hrow, dB] <;> rfl)) ?_
      refine SmG.v hF rfl rfl rfl (opV_move rfl rfl) ?_
      refine SmG.v hF rfl rfl rfl (opV_bin rfl rfl rfl (by first | exact rd_sub _ _ _ _ _ (wrapI64 _ (by omega)) | exact rb_sub _ _ _ _ _ _ _)) ?_
      refine SmG.v hF rfl rfl rfl (opV_fieldAddr rfl rfl (by simp (disch := omega) only [go_sem, Nat.reduceEqDiff, iteP, wkD, Wk.row, Res.row, hlen, hki, hrow, dB] <;> rfl)) ?_
      refine SmG.v hF rfl rfl rfl (opV_load rfl rfl (by simp (disch := omega) only [go_sem, Nat.reduceEqDiff, iteP, wkD, Wk.row, Res.row, hlen, hki, hrow, dB] <;> rfl)) ?_
      refine SmG.v hF rfl rfl rfl (opV_indexAddr rfl rfl rfl (by simp (disch := omega) only [go_sem, Nat.reduceEqDiff, iteP, wkD, Wk.row, Res.row, hlen, hki, hrow, dB] <;> rfl)) ?_
      refine SmG.store hF rfl rfl rfl rfl rfl (by simp (disch := omega) only [go_sem, Nat.reduceEqDiff, iteP, wkD, Wk.row, Res.row, hlen, hki, hrow, dB] <;> rfl) ?_
      refine SmG.nil ?_
      refine nextS_normal ?_
      refine Sm.seq ?_
      refine Sm.regionG hF rfl ?_
      refine SmG.v hF rfl rfl rfl (opV_move rfl rfl) ?_
      refine SmG.v hF rfl rfl rfl (opV_assign rfl rfl) ?_
      refine SmG.v hF rfl rfl rfl (opV_assign rfl rfl) ?_
      refine SmG.nil ?_
      refine nextS_normal ?_
      refine Sm.ret ?_
      exact ⟨⟨_, .inr ⟨.tup, rfl⟩, V.le.refl _⟩, leH_look ⟨congrArg (fun rs => some (Blk.mk 2 rs)) hset, trivial⟩, Nat.le_of_ble_eq_true rfl⟩
    · have hli : lie x at0 l = l := by unfold lie; rw [if_neg (by omega)]
      rw [hli]
      refine CallsB.of Tryd.func48 rfl Tryd.ntmps48 (by simp) ?_; intro F hF h0 hT; simp only [List.zipIdx_cons, List.zipIdx_nil, List.map_cons, List.map_nil, Nat.zero_add, Nat.reduceAdd]
      refine Sm.seq ?_
      refine Sm.regionG hF rfl ?_
      refine SmG.new hF rfl rfl rfl (opS_box rfl rfl (by simp (disch := omega) only [go_sem, Nat.reduceEqDiff, iteP, wkD, Wk.row, Res.row, hlen] <;> rfl)) ?_
      refine SmG.v hF rfl rfl rfl (opV_assign rfl rfl) ?_
      refine SmG.v hF rfl rfl rfl (opV_assign rfl rfl) ?_
      refine SmG.nil ?_
      refine nextS_normal ?_
      refine Sm.seq ?_
      refine Sm.seq ?_
      refine Sm.regionG hF rfl ?_
      refine SmG.v hF rfl rfl rfl (opV_fieldAddr rfl rfl (by simp (disch := omega) only [go_sem, Nat.reduceEqDiff, iteP, wkD, Wk.row, Res.row, hlen] <;> rfl)) ?_
      refine SmG.v hF rfl rfl rfl (opV_load rfl rfl (by simp (disch := omega) only [go_sem, Nat.reduceEqDiff, iteP, wkD, Wk.row, Res.row, hlen] <;> rfl)) ?_
      refine SmG.v hF rfl rfl rfl (opV_move rfl rfl) ?_
      refine SmG.v hF rfl rfl rfl (opV_bin rfl rfl rfl (by first | exact rd_geqT _ _ _ _ _ (by omega) | exact rd_geqF _ _ _ _ _ (by omega) | exact rb_geq _ _ _ _ _ _ _)) ?_
      refine SmG.v hF rfl rfl rfl (opV_move rfl rfl) ?_
      first | refine SmG.v hF rfl rfl rfl (opV_fieldAddr rfl rfl (by simp (disch := omega) only [go_sem, Nat.reduceEqDiff, iteP, wkD, Wk.row, Res.row, hlen] <;> rfl)) ?_ | refine SmG.pass hF rfl rfl rfl ?_
      first | refine SmG.v hF rfl rfl rfl (opV_load rfl rfl (by simp (disch := omega) only [go_sem, Nat.reduceEqDiff, iteP, wkD, Wk.row, Res.row, hlen] <;> rfl)) ?_ | refine SmG.pass hF rfl rfl rfl ?_
      first | refine SmG.v hF rfl rfl rfl (opV_move rfl rfl) ?_ | refine SmG.pass hF rfl rfl rfl ?_
      first | refine SmG.v hF rfl rfl rfl (opV_move rfl rfl) ?_ | refine SmG.pass hF rfl rfl rfl ?_
      first | refine SmG.v hF rfl rfl rfl (opV_len rfl rfl (by simp (disch := omega) only [go_sem, Nat.reduceEqDiff, iteP, wkD, Wk.row, Res.row, hlen] <;> rfl)) ?_ | refine SmG.pass hF rfl rfl rfl ?_
      first | refine SmG.v hF rfl rfl rfl (opV_bin rfl rfl rfl (by first | exact rd_add _ _ _ _ _ (wrapI64 _ (by omega)) | exact rb_add _ _ _ _ _ _ _)) ?_ | refine SmG.pass hF rfl rfl rfl ?_
      first | refine SmG.v hF rfl rfl rfl (opV_bin rfl rfl rfl (by first | exact rd_lssT _ _ _ _ _ (by omega) | exact rd_lssF _ _ _ _ _ (by omega) | exact rb_lss _ _ _ _ _ _ _)) ?_ | refine SmG.pass hF rfl rfl rfl ?_
      first | refine SmG.v hF rfl rfl rfl (opV_pickT rfl rfl rfl) ?_ | refine SmG.v hF rfl rfl rfl (opV_pickF rfl rfl rfl) ?_
      refine SmG.nil ?_
      refine nextS_normal ?_
      refine Sm.condF hF rfl ?_
      refine Sm.skip ?_
      refine nextS_normal ?_
      refine Sm.seq ?_
      refine Sm.regionG hF rfl ?_
      refine SmG.v hF rfl rfl rfl (opV_move rfl rfl) ?_
      refine SmG.v hF rfl rfl rfl (opV_assign rfl rfl) ?_
      refine SmG.v hF rfl rfl rfl (opV_assign rfl rfl) ?_
      refine SmG.nil ?_
      refine nextS_normal ?_
      refine Sm.ret ?_
      exact ⟨⟨_, .inr ⟨.tup, rfl⟩, V.le.refl _⟩, leH_look ⟨rfl, trivial⟩, Nat.le_of_ble_eq_true rfl⟩
  · have hli : lie x at0 l = l := by unfold lie; rw [if_neg (by omega)]
    rw [hli]
    refine CallsB.of Tryd.func48 rfl Tryd.ntmps48 (by simp) ?_; intro F hF h0 hT; simp only [List.zipIdx_cons, List.zipIdx_nil, List.map_cons, List.map_nil, Nat.zero_add, Nat.reduceAdd]
    refine Sm.seq ?_
    refine Sm.regionG hF rfl ?_
    refine SmG.new hF rfl rfl rfl (opS_box rfl rfl (by simp (disch := omega) only [go_sem, Nat.reduceEqDiff, iteP, wkD, Wk.row, Res.row] <;> rfl)) ?_
    refine SmG.v hF rfl rfl rfl (opV_assign rfl rfl) ?_
    refine SmG.v hF rfl rfl rfl (opV_assign rfl rfl) ?_
    refine SmG.nil ?_
    refine nextS_normal ?_
    refine Sm.seq ?_
    refine Sm.seq ?_
    refine Sm.regionG hF rfl ?_
    refine SmG.v hF rfl rfl rfl (opV_fieldAddr rfl rfl (by simp (disch := omega) only [go_sem, Nat.reduceEqDiff, iteP, wkD, Wk.row, Res.row] <;> rfl)) ?_
    refine SmG.v hF rfl rfl rfl (opV_load rfl rfl (by simp (disch := omega) only [go_sem, Nat.reduceEqDiff, iteP, wkD, Wk.row, Res.row] <;> rfl)) ?_
    refine SmG.v hF rfl rfl rfl (opV_move rfl rfl) ?_
    refine SmG.v hF rfl rfl rfl (opV_bin rfl rfl rfl (by first | exact rd_geqT _ _ _ _ _ (by omega) | exact rd_geqF _ _ _ _ _ (by omega) | exact rb_geq _ _ _ _ _ _ _)) ?_
    refine SmG.v hF rfl rfl rfl (opV_move rfl rfl) ?_
    first | refine SmG.v hF rfl rfl rfl (opV_fieldAddr rfl rfl (by simp (disch := omega) only [go_sem, Nat.reduceEqDiff, iteP, wkD, Wk.row, Res.row] <;> rfl)) ?_ | refine SmG.pass hF rfl rfl rfl ?_
    first | refine SmG.v hF rfl rfl rfl (opV_load rfl rfl (by simp (disch := omega) only [go_sem, Nat.reduceEqDiff, iteP, wkD, Wk.row, Res.row] <;> rfl)) ?_ | refine SmG.pass hF rfl rfl rfl ?_
    first | refine SmG.v hF rfl rfl rfl (opV_move rfl rfl) ?_ | refine SmG.pass hF rfl rfl rfl ?_
    first | refine SmG.v hF rfl rfl rfl (opV_move rfl rfl) ?_ | refine SmG.pass hF rfl rfl rfl ?_
    first | refine SmG.v hF rfl rfl rfl (opV_len rfl rfl (by simp (disch := omega) only [go_sem, Nat.reduceEqDiff, iteP, wkD, Wk.row, Res.row] <;> rfl)) ?_ | refine SmG.pass hF rfl rfl rfl ?_
    first | refine SmG.v hF rfl rfl rfl (opV_bin rfl rfl rfl (by first | exact rd_add _ _ _ _ _ (wrapI64 _ (by omega)) | exact rb_add _ _ _ _ _ _ _)) ?_ | refine SmG.pass hF rfl rfl rfl ?_
    first | refine SmG.v hF rfl rfl rfl (opV_bin rfl rfl rfl (by first | exact rd_lssT _ _ _ _ _ (by omega) | exact rd_lssF _ _ _ _ _ (by omega) | exact rb_lss _ _ _ _ _ _ _)) ?_ | refine SmG.pass hF rfl rfl rfl ?_
    first | refine SmG.v hF rfl rfl rfl (opV_pickT rfl rfl rfl) ?_ | refine SmG.v hF rfl rfl rfl (opV_pickF rfl rfl rfl) ?_
    refine SmG.nil ?_
    refine nextS_normal ?_
    refine Sm.condF hF rfl ?_
    refine Sm.skip ?_
    refine nextS_normal ?_
    refine Sm.seq ?_
    refine Sm.regionG hF rfl ?_
    refine SmG.v hF rfl rfl rfl (opV_move rfl rfl) ?_
    refine SmG.v hF rfl rfl rfl (opV_assign rfl rfl) ?_
    refine SmG.v hF rfl rfl rfl (opV_assign rfl rfl) ?_
    refine SmG.nil ?_
    refine nextS_normal ?_
    refine Sm.ret ?_
    exact ⟨⟨_, .inr ⟨.tup, rfl⟩, V.le.refl _⟩, leH_look ⟨rfl, trivial⟩, Nat.le_of_ble_eq_true rfl⟩
end Go.Proofs.YtagfaaijgfigkaaDoor
namespace Go.Proofs.YtagfaaijgfigkaaDoor
open Go.RowKit
set_option maxRecDepth 100000
def sayM : D := .map [.int .i64 1, .int .i64 3, .int .i64 4] [.fn 46 [], .fn 47 [], .fn 48 []]
theorem sayings_D (G : Nat → Option D) : CallsD Tryd.prog G 35 [] sayM := by
  refine CallsD.of Tryd.func35 rfl Tryd.ntmps35 (by simp) ?_; intro F hF h0 hT; simp only [List.zipIdx_cons, List.zipIdx_nil, List.map_cons, List.map_nil, Nat.zero_add, Nat.reduceAdd]
  refine Sm.seq ?_
  refine Sm.regionG hF rfl ?_
  refine SmG.v hF rfl rfl rfl (opV_assign rfl rfl) ?_
  refine SmG.nil ?_
  refine nextS_normal ?_
  refine Sm.seq ?_
  refine Sm.regionG hF rfl ?_
  refine SmG.mapLit hF Tryd.underlying84 Tryd.underlying3 (kk := .i64) (ins := [_, _, _]) (entries := [(1, .func 46), (3, .func 47), (4, .func 48)]) rfl rfl rfl rfl ⟨rfl, rfl, rfl, rfl, rfl, rfl, rfl, rfl, rfl, trivial⟩ (by decide) (by simp) rfl ?_
  refine SmG.v hF rfl rfl rfl (opV_move rfl rfl) ?_
  refine SmG.v hF rfl rfl rfl (opV_assign rfl rfl) ?_
  refine SmG.nil ?_
  refine nextS_normal ?_
  refine Sm.ret ?_
  refine ⟨_, rfl, ?_⟩; dsimp only
  exact D.le.refl _
def sayKind (k : Int) : Prop := k = 1 ∨ k = 3 ∨ k = 4
theorem say_none {k : Int} (h : ¬ sayKind k) : lookupS Tryd.prog 84 (.d sayM) (.d (.v (.int .i64 k))) true = some (.d (.tup [.v .nilFunc, .v (.bool false)])) := by
  have h1 : ¬ k = 1 := fun e => h (.inl e)
  have h3 : ¬ k = 3 := fun e => h (.inr (.inl e))
  have h4 : ¬ k = 4 := fun e => h (.inr (.inr e))
  simp [lookupS, sayM, findI, Tryd.underlying84, Tryd.underlying3, h1, h3, h4]
  rfl
structure Clm where
  who : Int
  lo : Int
  hi : Int
  l : List Res
  root : List UInt8
def Clm.row (c : Clm) : List D := .v (.int .i64 c.who) :: .v (.int .i64 c.lo) :: .v (.int .i64 c.hi) :: ressL c.l :: rowS c.root
def clmD (c : Clm) : D := .agg 36 c.row
def noClm : Clm := ⟨0, 0, 0, [], List.replicate 32 0⟩
theorem noClm_le : (D.tup [D.agg 36 (.v (.int .i64 0) :: .v (.int .i64 0) :: .v (.int .i64 0) :: .list 0 [] true :: rowS (List.replicate 32 0)), constD (.bool false)]).le (.tup [clmD noClm, .v (.bool false)]) :=
  D.le_tup ⟨D.le_agg ⟨D.le.refl _, D.le.refl _, D.le.refl _, D.le_nil' 0 2 true, leL.refl _⟩, D.le.refl _, trivial⟩
theorem work_no (x : Wk) (who t : Int) (v : List Res) (a b : Int) (hl : v.length ≤ 1000000) (h : ¬ sayKind x.kind ∨ (sayKind x.kind ∧ (a < 0 ∨ (0 ≤ a ∧ (b < a ∨ (a ≤ b ∧ (v.length : Int) < b)))))) : CallsD Tryd.prog HG 31 [wkD x, .v (.int .i64 who), .v (.int .i64 t), ressL v, .v (.int .i64 a), .v (.int .i64 b)] (.tup [clmD noClm, .v (.bool false)]) := by
  have hlk : ∃ (d : D) (k : Bool), lookupS Tryd.prog 84 (.d sayM) (.d (.v (.int .i64 x.kind))) true = some (.d (.tup [d, .v (.bool k)])) ∧ (k = true → sayKind x.kind) ∧ (k = false → ¬ sayKind x.kind) := by
    by_cases hk : sayKind x.kind
    · rcases hk with hk | hk | hk <;> rw [hk] <;> exact ⟨_, true, rfl, (fun _ => by unfold sayKind; omega), (fun h => by cases h)⟩
    · exact ⟨_, false, say_none hk, (fun h => by cases h), (fun _ => hk)⟩
  obtain ⟨d, k, hlk, hk1, hk2⟩ := hlk
  rcases h with h | ⟨h0, h⟩
  · cases k with
    | true => exact absurd (hk1 rfl) h
    | false =>
      refine CallsD.of Tryd.func31 rfl Tryd.ntmps31 (by simp) ?_; intro F hF h0 hT; simp only [List.zipIdx_cons, List.zipIdx_nil, List.map_cons, List.map_nil, Nat.zero_add, Nat.reduceAdd]
      refine Sm.seq ?_
      refine Sm.regionG hF rfl ?_
      refine SmG.new hF rfl rfl rfl (opS_box rfl rfl (by simp (disch := omega) only [go_sem, Nat.reduceEqDiff, iteP, wkD, Wk.row, ressL] <;> rfl)) ?_
      refine SmG.new hF rfl rfl rfl (opS_alloc rfl al41) ?_
      refine SmG.v hF rfl rfl rfl (opV_assign rfl rfl) ?_
      refine SmG.nil ?_
      refine nextS_normal ?_
      refine Sm.seq ?_
      refine Sm.drawG hF (by kernel_rfl) rfl 9 (by kernel_rfl) (by kernel_rfl) ?_
      simp only [List.take_succ_cons, List.take_zero, List.take_nil]
      refine Head.c hF rfl rfl (by kernel_rfl) rfl rfl rfl (sayings_D HG) ?_
      refine Head.v hF rfl rfl rfl (opV_fieldAddr rfl rfl (by simp (disch := omega) only [go_sem, Nat.reduceEqDiff, iteP, wkD, Wk.row, ressL] <;> rfl)) ?_
      refine Head.v hF rfl rfl rfl (opV_load rfl rfl (by simp (disch := omega) only [go_sem, Nat.reduceEqDiff, iteP, wkD, Wk.row, ressL] <;> rfl)) ?_
      refine Head.v hF rfl rfl rfl (opV_lookup rfl rfl rfl hlk) ?_
      refine Head.v hF rfl rfl rfl (opV_move rfl rfl) ?_
      refine Head.v hF rfl rfl rfl (by first | exact opV_extract rfl rfl rfl | exact opV_extract0 rfl rfl) ?_
      refine Head.v hF rfl rfl rfl (by first | exact opV_extract rfl rfl rfl | exact opV_extractS rfl rfl rfl) ?_
      refine Head.v hF rfl rfl rfl (opV_assign rfl rfl) ?_
      refine Head.v hF rfl rfl rfl (opV_assign rfl rfl) ?_
      refine Head.last ⟨rfl, ?_⟩
      simp only [List.drop_succ_cons, List.drop_zero, List.drop_nil, List.nil_append, List.cons_append]
      refine SmG.nil ?_
      refine nextS_normal ?_
      refine Sm.seq ?_
      refine Sm.seq ?_
      refine Sm.regionG hF rfl ?_
      refine SmG.v hF rfl rfl rfl (opV_move rfl rfl) ?_
      refine SmG.v hF rfl rfl rfl (opV_un rfl rfl (by first | exact rd_notT _ | exact rd_notF _ | exact rd_not _)) ?_
      refine SmG.v hF rfl rfl rfl (opV_move rfl rfl) ?_
      first | refine SmG.v hF rfl rfl rfl (opV_move rfl rfl) ?_ | refine SmG.pass hF rfl rfl rfl ?_
      first | refine SmG.v hF rfl rfl rfl (opV_bin rfl rfl rfl (by first | exact rd_lssT _ _ _ _ _ (by omega) | exact rd_lssF _ _ _ _ _ (by omega) | exact rb_lss _ _ _ _ _ _ _)) ?_ | refine SmG.pass hF rfl rfl rfl ?_
      first | refine SmG.v hF rfl rfl rfl (opV_pickT rfl rfl rfl) ?_ | refine SmG.v hF rfl rfl rfl (opV_pickF rfl rfl rfl) ?_
      refine SmG.v hF rfl rfl rfl (opV_move rfl rfl) ?_
      first | refine SmG.v hF rfl rfl rfl (opV_move rfl rfl) ?_ | refine SmG.pass hF rfl rfl rfl ?_
      first | refine SmG.v hF rfl rfl rfl (opV_move rfl rfl) ?_ | refine SmG.pass hF rfl rfl rfl ?_
      first | refine SmG.v hF rfl rfl rfl (opV_bin rfl rfl rfl (by first | exact rd_lssT _ _ _ _ _ (by omega) | exact rd_lssF _ _ _ _ _ (by omega) | exact rb_lss _ _ _ _ _ _ _)) ?_ | refine SmG.pass hF rfl rfl rfl ?_
      first | refine SmG.v hF rfl rfl rfl (opV_pickT rfl rfl rfl) ?_ | refine SmG.v hF rfl rfl rfl (opV_pickF rfl rfl rfl) ?_
      refine SmG.v hF rfl rfl rfl (opV_move rfl rfl) ?_
      first | refine SmG.v hF rfl rfl rfl (opV_move rfl rfl) ?_ | refine SmG.pass hF rfl rfl rfl ?_
      first | refine SmG.v hF rfl rfl rfl (opV_move rfl rfl) ?_ | refine SmG.pass hF rfl rfl rfl ?_
      first | refine SmG.v hF rfl rfl rfl (opV_len rfl rfl (by simp (disch := omega) only [go_sem, Nat.reduceEqDiff, iteP, wkD, Wk.row, ressL] <;> rfl)) ?_ | refine SmG.pass hF rfl rfl rfl ?_
      first | refine SmG.v hF rfl rfl rfl (opV_bin rfl rfl rfl (by first | exact rd_gtrT _ _ _ _ _ (by omega) | exact rd_gtrF _ _ _ _ _ (by omega) | exact rb_gtr _ _ _ _ _ _ _)) ?_ | refine SmG.pass hF rfl rfl rfl ?_
      first | refine SmG.v hF rfl rfl rfl (opV_pickT rfl rfl rfl) ?_ | refine SmG.v hF rfl rfl rfl (opV_pickF rfl rfl rfl) ?_
      refine SmG.nil ?_
      refine nextS_normal ?_
      refine Sm.condT hF rfl ?_
      refine Sm.seq ?_
      refine Sm.regionG hF rfl ?_
      refine SmG.v hF rfl rfl rfl (opV_buildT rfl Tryd.underlying41 (by kernel_rfl) rfl bz41) ?_
      refine SmG.store hF rfl rfl rfl rfl rfl (by simp (disch := omega) only [go_sem, Nat.reduceEqDiff, iteP, wkD, Wk.row, ressL] <;> rfl) ?_
      refine SmG.v hF rfl rfl rfl (opV_assign rfl rfl) ?_
      refine SmG.nil ?_
      refine nextS_normal ?_
      refine Sm.ret ?_
      simp only [nextS, blockS]
      refine retQ_cell2 rfl rfl (by simp (disch := omega) only [go_sem, Nat.reduceEqDiff, iteP] <;> rfl) rfl ?_
      exact noClm_le
  · cases k with
    | false => exact absurd h0 (hk2 rfl)
    | true =>
      rcases h with h | ⟨h, h' | ⟨h', h''⟩⟩
      all_goals
        refine CallsD.of Tryd.func31 rfl Tryd.ntmps31 (by simp) ?_; intro F hF h0 hT; simp only [List.zipIdx_cons, List.zipIdx_nil, List.map_cons, List.map_nil, Nat.zero_add, Nat.reduceAdd]
        refine Sm.seq ?_
        refine Sm.regionG hF rfl ?_
        refine SmG.new hF rfl rfl rfl (opS_box rfl rfl (by simp (disch := omega) only [go_sem, Nat.reduceEqDiff, iteP, wkD, Wk.row, ressL] <;> rfl)) ?_
        refine SmG.new hF rfl rfl rfl (opS_alloc rfl al41) ?_
        refine SmG.v hF rfl rfl rfl (opV_assign rfl rfl) ?_
        refine SmG.nil ?_
        refine nextS_normal ?_
        refine Sm.seq ?_
        refine Sm.drawG hF (by kernel_rfl) rfl 9 (by kernel_rfl) (by kernel_rfl) ?_
        simp only [List.take_succ_cons, List.take_zero, List.take_nil]
        refine Head.c hF rfl rfl (by kernel_rfl) rfl rfl rfl (sayings_D HG) ?_
        refine Head.v hF rfl rfl rfl (opV_fieldAddr rfl rfl (by simp (disch := omega) only [go_sem, Nat.reduceEqDiff, iteP, wkD, Wk.row, ressL] <;> rfl)) ?_
        refine Head.v hF rfl rfl rfl (opV_load rfl rfl (by simp (disch := omega) only [go_sem, Nat.reduceEqDiff, iteP, wkD, Wk.row, ressL] <;> rfl)) ?_
        refine Head.v hF rfl rfl rfl (opV_lookup rfl rfl rfl hlk) ?_
        refine Head.v hF rfl rfl rfl (opV_move rfl rfl) ?_
        refine Head.v hF rfl rfl rfl (by first | exact opV_extract rfl rfl rfl | exact opV_extract0 rfl rfl) ?_
        refine Head.v hF rfl rfl rfl (by first | exact opV_extract rfl rfl rfl | exact opV_extractS rfl rfl rfl) ?_
        refine Head.v hF rfl rfl rfl (opV_assign rfl rfl) ?_
        refine Head.v hF rfl rfl rfl (opV_assign rfl rfl) ?_
        refine Head.last ⟨rfl, ?_⟩
        simp only [List.drop_succ_cons, List.drop_zero, List.drop_nil, List.nil_append, List.cons_append]
        refine SmG.nil ?_
        refine nextS_normal ?_
        refine Sm.seq ?_
        refine Sm.seq ?_
        refine Sm.regionG hF rfl ?_
        refine SmG.v hF rfl rfl rfl (opV_move rfl rfl) ?_
        refine SmG.v hF rfl rfl rfl (opV_un rfl rfl (by first | exact rd_notT _ | exact rd_notF _ | exact rd_not _)) ?_
        refine SmG.v hF rfl rfl rfl (opV_move rfl rfl) ?_
        first | refine SmG.v hF rfl rfl rfl (opV_move rfl rfl) ?_ | refine SmG.pass hF rfl rfl rfl ?_
        first | refine SmG.v hF rfl rfl rfl (opV_bin rfl rfl rfl (by first | exact rd_lssT _ _ _ _ _ (by omega) | exact rd_lssF _ _ _ _ _ (by omega) | exact rb_lss _ _ _ _ _ _ _)) ?_ | refine SmG.pass hF rfl rfl rfl ?_
        first | refine SmG.v hF rfl rfl rfl (opV_pickT rfl rfl rfl) ?_ | refine SmG.v hF rfl rfl rfl (opV_pickF rfl rfl rfl) ?_
        refine SmG.v hF rfl rfl rfl (opV_move rfl rfl) ?_
        first | refine SmG.v hF rfl rfl rfl (opV_move rfl rfl) ?_ | refine SmG.pass hF rfl rfl rfl ?_
        first | refine SmG.v hF rfl rfl rfl (opV_move rfl rfl) ?_ | refine SmG.pass hF rfl rfl rfl ?_
        first | refine SmG.v hF rfl rfl rfl (opV_bin rfl rfl rfl (by first | exact rd_lssT _ _ _ _ _ (by omega) | exact rd_lssF _ _ _ _ _ (by omega) | exact rb_lss _ _ _ _ _ _ _)) ?_ | refine SmG.pass hF rfl rfl rfl ?_
        first | refine SmG.v hF rfl rfl rfl (opV_pickT rfl rfl rfl) ?_ | refine SmG.v hF rfl rfl rfl (opV_pickF rfl rfl rfl) ?_
        refine SmG.v hF rfl rfl rfl (opV_move rfl rfl) ?_
        first | refine SmG.v hF rfl rfl rfl (opV_move rfl rfl) ?_ | refine SmG.pass hF rfl rfl rfl ?_
        first | refine SmG.v hF rfl rfl rfl (opV_move rfl rfl) ?_ | refine SmG.pass hF rfl rfl rfl ?_
        first | refine SmG.v hF rfl rfl rfl (opV_len rfl rfl (by simp (disch := omega) only [go_sem, Nat.reduceEqDiff, iteP, wkD, Wk.row, ressL] <;> rfl)) ?_ | refine SmG.pass hF rfl rfl rfl ?_
        first | refine SmG.v hF rfl rfl rfl (opV_bin rfl rfl rfl (by first | exact rd_gtrT _ _ _ _ _ (by omega) | exact rd_gtrF _ _ _ _ _ (by omega) | exact rb_gtr _ _ _ _ _ _ _)) ?_ | refine SmG.pass hF rfl rfl rfl ?_
        first | refine SmG.v hF rfl rfl rfl (opV_pickT rfl rfl rfl) ?_ | refine SmG.v hF rfl rfl rfl (opV_pickF rfl rfl rfl) ?_
        refine SmG.nil ?_
        refine nextS_normal ?_
        refine Sm.condT hF rfl ?_
        refine Sm.seq ?_
        refine Sm.regionG hF rfl ?_
        refine SmG.v hF rfl rfl rfl (opV_buildT rfl Tryd.underlying41 (by kernel_rfl) rfl bz41) ?_
        refine SmG.store hF rfl rfl rfl rfl rfl (by simp (disch := omega) only [go_sem, Nat.reduceEqDiff, iteP, wkD, Wk.row, ressL] <;> rfl) ?_
        refine SmG.v hF rfl rfl rfl (opV_assign rfl rfl) ?_
        refine SmG.nil ?_
        refine nextS_normal ?_
        refine Sm.ret ?_
        simp only [nextS, blockS]
        refine retQ_cell2 rfl rfl (by simp (disch := omega) only [go_sem, Nat.reduceEqDiff, iteP] <;> rfl) rfl ?_
        exact noClm_le
theorem clm_build (a b c : Value) (ha : a.oneCell' = true) (hb : b.oneCell' = true) (hc : c.oneCell' = true) (xs : List (List D)) (f : Bool) {R : List UInt8} (h : R.length = 32) :
    buildS Tryd.prog 41 [(0, .d (.v a)), (1, .d (.v b)), (2, .d (.v c)), (3, .d (.list 2 xs f)), (4, .d (.agg 32 (rowS R)))] = some (.d (.agg 36 (.v a :: .v b :: .v c :: .list 2 xs f :: rowS R))) := by
  have hr : (rowS R).length = 32 := by simp [rowS, h]
  have hq : ∀ x : Value, x.oneCell' = true → partOf 1 (.d (.v x)) = some [.v x] := fun x hx => by simp [partOf, hx]
  refine buildS_struct (pl := [(0, 1), (1, 1), (2, 1), (3, 1), (4, 32)]) (z := .v (.int .i64 0) :: .v (.int .i64 0) :: .v (.int .i64 0) :: .list 0 [] true :: rowS (List.replicate 32 0)) ze41 (by kernel_rfl) rfl ?_
  rw [fill_one (n := 36) rfl (hq a ha) rfl (by omega), fill_one (n := 36) rfl (hq b hb) rfl (by omega), fill_one (n := 36) rfl (hq c hc) rfl (by omega), fill_one (n := 36) (d := .list 2 xs f) rfl rfl rfl (by omega), fill_agg (n := 36) rfl (by omega) hr rfl (by omega)]
  simp [fillD, rowS]
def partOfL (v : List Res) (a b : Nat) : List Res := (v.take b).drop a
theorem part_len {v : List Res} {a b : Nat} (h : b ≤ v.length) : (partOfL v a b).length = b - a := by
  simp [partOfL]; omega
theorem work_say (x : Wk) (who t : Int) (v : List Res) (a b : Nat) (hl : v.length ≤ 1000000) (hab : a ≤ b) (hb : b ≤ v.length) (fi : FuncId) (l : List Res) (ok : Bool) (hll : l.length = b - a) (hbody : hasBody Tryd.prog fi = true)
    (hlk : lookupS Tryd.prog 84 (.d sayM) (.d (.v (.int .i64 x.kind))) true = some (.d (.tup [.fn fi [], .v (.bool true)])))
    (hsay : CallsD Tryd.prog HG fi ([wkD x, .v (.int .i64 t), .v (.int .i64 a), ressL (partOfL v a b)] ++ []) (.tup [ressL l, .v (.bool ok)])) :
    CallsD Tryd.prog HG 31 [wkD x, .v (.int .i64 who), .v (.int .i64 t), ressL v, .v (.int .i64 a), .v (.int .i64 b)] (.tup [clmD (if ok then ⟨who, a, b, l, Sha.root (l.map resBytes)⟩ else noClm), .v (.bool ok)]) := by
  have hsl : List.drop a (List.take b (List.map Res.row v)) = List.map Res.row (partOfL v a b) := by simp [partOfL, List.map_take, List.map_drop]
  have hpl := part_len (a := a) hb
  have hRl := Sha.root_len (l.map resBytes)
  have hR := workRoot_D l (by omega)
  generalize Sha.root (l.map resBytes) = R at hR hRl ⊢
  have hc : ∀ A : List UInt8, A.length = 32 → (rowS A).length = 32 := fun A h => by simp [rowS, h]
  have hcR := hc R hRl
  cases ok with
  | false =>
    refine CallsD.of Tryd.func31 rfl Tryd.ntmps31 (by simp) ?_; intro F hF h0 hT; simp only [List.zipIdx_cons, List.zipIdx_nil, List.map_cons, List.map_nil, Nat.zero_add, Nat.reduceAdd]
    refine Sm.seq ?_
    refine Sm.regionG hF rfl ?_
    refine SmG.new hF rfl rfl rfl (opS_box rfl rfl (by simp (disch := omega) only [go_sem, Nat.reduceEqDiff, iteP, wkD, Wk.row, ressL, hsl, sumD, hcR] <;> rfl)) ?_
    refine SmG.new hF rfl rfl rfl (opS_alloc rfl al41) ?_
    refine SmG.v hF rfl rfl rfl (opV_assign rfl rfl) ?_
    refine SmG.nil ?_
    refine nextS_normal ?_
    refine Sm.seq ?_
    refine Sm.drawG hF (by kernel_rfl) rfl 9 (by kernel_rfl) (by kernel_rfl) ?_
    simp only [List.take_succ_cons, List.take_zero, List.take_nil]
    refine Head.c hF rfl rfl (by kernel_rfl) rfl rfl rfl (sayings_D HG) ?_
    refine Head.v hF rfl rfl rfl (opV_fieldAddr rfl rfl (by simp (disch := omega) only [go_sem, Nat.reduceEqDiff, iteP, wkD, Wk.row, ressL, hsl, sumD, hcR] <;> rfl)) ?_
    refine Head.v hF rfl rfl rfl (opV_load rfl rfl (by simp (disch := omega) only [go_sem, Nat.reduceEqDiff, iteP, wkD, Wk.row, ressL, hsl, sumD, hcR] <;> rfl)) ?_
    refine Head.v hF rfl rfl rfl (opV_lookup rfl rfl rfl hlk) ?_
    refine Head.v hF rfl rfl rfl (opV_move rfl rfl) ?_
    refine Head.v hF rfl rfl rfl (by first | exact opV_extract rfl rfl rfl | exact opV_extract0 rfl rfl) ?_
    refine Head.v hF rfl rfl rfl (by first | exact opV_extract rfl rfl rfl | exact opV_extractS rfl rfl rfl) ?_
    refine Head.v hF rfl rfl rfl (opV_assign rfl rfl) ?_
    refine Head.v hF rfl rfl rfl (opV_assign rfl rfl) ?_
    refine Head.last ⟨rfl, ?_⟩
    simp only [List.drop_succ_cons, List.drop_zero, List.drop_nil, List.nil_append, List.cons_append]
    refine SmG.nil ?_
    refine nextS_normal ?_
    refine Sm.seq ?_
    refine Sm.seq ?_
    refine Sm.regionG hF rfl ?_
    refine SmG.v hF rfl rfl rfl (opV_move rfl rfl) ?_
    refine SmG.v hF rfl rfl rfl (opV_un rfl rfl (by first | exact rd_notT _ | exact rd_notF _ | exact rd_not _)) ?_
    refine SmG.v hF rfl rfl rfl (opV_move rfl rfl) ?_
    first | refine SmG.v hF rfl rfl rfl (opV_move rfl rfl) ?_ | refine SmG.pass hF rfl rfl rfl ?_
    first | refine SmG.v hF rfl rfl rfl (opV_bin rfl rfl rfl (by first | exact rd_lssT _ _ _ _ _ (by omega) | exact rd_lssF _ _ _ _ _ (by omega) | exact rb_lss _ _ _ _ _ _ _)) ?_ | refine SmG.pass hF rfl rfl rfl ?_
    first | refine SmG.v hF rfl rfl rfl (opV_pickT rfl rfl rfl) ?_ | refine SmG.v hF rfl rfl rfl (opV_pickF rfl rfl rfl) ?_
    refine SmG.v hF rfl rfl rfl (opV_move rfl rfl) ?_
    first | refine SmG.v hF rfl rfl rfl (opV_move rfl rfl) ?_ | refine SmG.pass hF rfl rfl rfl ?_
    first | refine SmG.v hF rfl rfl rfl (opV_move rfl rfl) ?_ | refine SmG.pass hF rfl rfl rfl ?_
    first | refine SmG.v hF rfl rfl rfl (opV_bin rfl rfl rfl (by first | exact rd_lssT _ _ _ _ _ (by omega) | exact rd_lssF _ _ _ _ _ (by omega) | exact rb_lss _ _ _ _ _ _ _)) ?_ | refine SmG.pass hF rfl rfl rfl ?_
    first | refine SmG.v hF rfl rfl rfl (opV_pickT rfl rfl rfl) ?_ | refine SmG.v hF rfl rfl rfl (opV_pickF rfl rfl rfl) ?_
    refine SmG.v hF rfl rfl rfl (opV_move rfl rfl) ?_
    first | refine SmG.v hF rfl rfl rfl (opV_move rfl rfl) ?_ | refine SmG.pass hF rfl rfl rfl ?_
    first | refine SmG.v hF rfl rfl rfl (opV_move rfl rfl) ?_ | refine SmG.pass hF rfl rfl rfl ?_
    first | refine SmG.v hF rfl rfl rfl (opV_len rfl rfl (by simp (disch := omega) only [go_sem, Nat.reduceEqDiff, iteP, wkD, Wk.row, ressL, hsl, sumD, hcR] <;> rfl)) ?_ | refine SmG.pass hF rfl rfl rfl ?_
    first | refine SmG.v hF rfl rfl rfl (opV_bin rfl rfl rfl (by first | exact rd_gtrT _ _ _ _ _ (by omega) | exact rd_gtrF _ _ _ _ _ (by omega) | exact rb_gtr _ _ _ _ _ _ _)) ?_ | refine SmG.pass hF rfl rfl rfl ?_
    first | refine SmG.v hF rfl rfl rfl (opV_pickT rfl rfl rfl) ?_ | refine SmG.v hF rfl rfl rfl (opV_pickF rfl rfl rfl) ?_
    refine SmG.nil ?_
    refine nextS_normal ?_
    refine Sm.condF hF rfl ?_
    refine Sm.skip ?_
    refine nextS_normal ?_
    refine Sm.seq ?_
    refine Sm.drawG hF (by kernel_rfl) rfl 15 (by kernel_rfl) (by kernel_rfl) ?_
    simp only [List.take_succ_cons, List.take_zero, List.take_nil]
    refine Head.v hF rfl rfl rfl (opV_move rfl rfl) ?_
    refine Head.v hF rfl rfl rfl (opV_load rfl rfl (by simp (disch := omega) only [go_sem, Nat.reduceEqDiff, iteP, wkD, Wk.row, ressL, hsl, sumD, hcR] <;> rfl)) ?_
    refine Head.v hF rfl rfl rfl (opV_move rfl rfl) ?_
    refine Head.v hF rfl rfl rfl (opV_move rfl rfl) ?_
    refine Head.v hF rfl rfl rfl (opV_move rfl rfl) ?_
    refine Head.v hF rfl rfl rfl (opV_move rfl rfl) ?_
    refine Head.v hF rfl rfl rfl (opV_move rfl rfl) ?_
    refine Head.v hF rfl rfl rfl (opV_slice rfl rfl rfl rfl rfl (by simp (disch := omega) only [go_sem, Nat.reduceEqDiff, iteP, wkD, Wk.row, ressL, hsl, sumD, hcR] <;> rfl)) ?_
    refine Head.c hF rfl rfl (by kernel_rfl) rfl rfl rfl (clone_D _ (by omega) HG) ?_
    refine Head.cf hF rfl rfl rfl rfl rfl rfl hbody hsay ?_
    refine Head.v hF rfl rfl rfl (opV_move rfl rfl) ?_
    refine Head.v hF rfl rfl rfl (by first | exact opV_extract rfl rfl rfl | exact opV_extract0 rfl rfl) ?_
    refine Head.v hF rfl rfl rfl (by first | exact opV_extract rfl rfl rfl | exact opV_extractS rfl rfl rfl) ?_
    refine Head.v hF rfl rfl rfl (opV_assign rfl rfl) ?_
    refine Head.v hF rfl rfl rfl (opV_assign rfl rfl) ?_
    refine Head.last ⟨rfl, ?_⟩
    simp only [List.drop_succ_cons, List.drop_zero, List.drop_nil, List.nil_append, List.cons_append]
    refine SmG.nil ?_
    refine nextS_normal ?_
    refine Sm.seq ?_
    refine Sm.seq ?_
    refine Sm.regionG hF rfl ?_
    refine SmG.v hF rfl rfl rfl (opV_move rfl rfl) ?_
    refine SmG.v hF rfl rfl rfl (opV_un rfl rfl (by first | exact rd_notT _ | exact rd_notF _ | exact rd_not _)) ?_
    refine SmG.nil ?_
    refine nextS_normal ?_
    refine Sm.condT hF rfl ?_
    refine Sm.seq ?_
    refine Sm.regionG hF rfl ?_
    refine SmG.v hF rfl rfl rfl (opV_buildT rfl Tryd.underlying41 (by kernel_rfl) rfl bz41) ?_
    refine SmG.store hF rfl rfl rfl rfl rfl (by simp (disch := omega) only [go_sem, Nat.reduceEqDiff, iteP, wkD, Wk.row, ressL, hsl, sumD, hcR] <;> rfl) ?_
    refine SmG.v hF rfl rfl rfl (opV_assign rfl rfl) ?_
    refine SmG.nil ?_
    refine nextS_normal ?_
    refine Sm.ret ?_
    simp only [nextS, blockS]
    refine retQ_cell2 rfl rfl (by simp (disch := omega) only [go_sem, Nat.reduceEqDiff, iteP] <;> rfl) rfl ?_
    exact noClm_le
  | true =>
    refine CallsD.of Tryd.func31 rfl Tryd.ntmps31 (by simp) ?_; intro F hF h0 hT; simp only [List.zipIdx_cons, List.zipIdx_nil, List.map_cons, List.map_nil, Nat.zero_add, Nat.reduceAdd]
    refine Sm.seq ?_
    refine Sm.regionG hF rfl ?_
    refine SmG.new hF rfl rfl rfl (opS_box rfl rfl (by simp (disch := omega) only [go_sem, Nat.reduceEqDiff, iteP, wkD, Wk.row, ressL, hsl, sumD, hcR] <;> rfl)) ?_
    refine SmG.new hF rfl rfl rfl (opS_alloc rfl al41) ?_
    refine SmG.v hF rfl rfl rfl (opV_assign rfl rfl) ?_
    refine SmG.nil ?_
    refine nextS_normal ?_
    refine Sm.seq ?_
    refine Sm.drawG hF (by kernel_rfl) rfl 9 (by kernel_rfl) (by kernel_rfl) ?_
    simp only [List.take_succ_cons, List.take_zero, List.take_nil]
    refine Head.c hF rfl rfl (by kernel_rfl) rfl rfl rfl (sayings_D HG) ?_
    refine Head.v hF rfl rfl rfl (opV_fieldAddr rfl rfl (by simp (disch := omega) only [go_sem, Nat.reduceEqDiff, iteP, wkD, Wk.row, ressL, hsl, sumD, hcR] <;> rfl)) ?_
    refine Head.v hF rfl rfl rfl (opV_load rfl rfl (by simp (disch := omega) only [go_sem, Nat.reduceEqDiff, iteP, wkD, Wk.row, ressL, hsl, sumD, hcR] <;> rfl)) ?_
    refine Head.v hF rfl rfl rfl (opV_lookup rfl rfl rfl hlk) ?_
    refine Head.v hF rfl rfl rfl (opV_move rfl rfl) ?_
    refine Head.v hF rfl rfl rfl (by first | exact opV_extract rfl rfl rfl | exact opV_extract0 rfl rfl) ?_
    refine Head.v hF rfl rfl rfl (by first | exact opV_extract rfl rfl rfl | exact opV_extractS rfl rfl rfl) ?_
    refine Head.v hF rfl rfl rfl (opV_assign rfl rfl) ?_
    refine Head.v hF rfl rfl rfl (opV_assign rfl rfl) ?_
    refine Head.last ⟨rfl, ?_⟩
    simp only [List.drop_succ_cons, List.drop_zero, List.drop_nil, List.nil_append, List.cons_append]
    refine SmG.nil ?_
    refine nextS_normal ?_
    refine Sm.seq ?_
    refine Sm.seq ?_
    refine Sm.regionG hF rfl ?_
    refine SmG.v hF rfl rfl rfl (opV_move rfl rfl) ?_
    refine SmG.v hF rfl rfl rfl (opV_un rfl rfl (by first | exact rd_notT _ | exact rd_notF _ | exact rd_not _)) ?_
    refine SmG.v hF rfl rfl rfl (opV_move rfl rfl) ?_
    first | refine SmG.v hF rfl rfl rfl (opV_move rfl rfl) ?_ | refine SmG.pass hF rfl rfl rfl ?_
    first | refine SmG.v hF rfl rfl rfl (opV_bin rfl rfl rfl (by first | exact rd_lssT _ _ _ _ _ (by omega) | exact rd_lssF _ _ _ _ _ (by omega) | exact rb_lss _ _ _ _ _ _ _)) ?_ | refine SmG.pass hF rfl rfl rfl ?_
    first | refine SmG.v hF rfl rfl rfl (opV_pickT rfl rfl rfl) ?_ | refine SmG.v hF rfl rfl rfl (opV_pickF rfl rfl rfl) ?_
    refine SmG.v hF rfl rfl rfl (opV_move rfl rfl) ?_
    first | refine SmG.v hF rfl rfl rfl (opV_move rfl rfl) ?_ | refine SmG.pass hF rfl rfl rfl ?_
    first | refine SmG.v hF rfl rfl rfl (opV_move rfl rfl) ?_ | refine SmG.pass hF rfl rfl rfl ?_
    first | refine SmG.v hF rfl rfl rfl (opV_bin rfl rfl rfl (by first | exact rd_lssT _ _ _ _ _ (by omega) | exact rd_lssF _ _ _ _ _ (by omega) | exact rb_lss _ _ _ _ _ _ _)) ?_ | refine SmG.pass hF rfl rfl rfl ?_
    first | refine SmG.v hF rfl rfl rfl (opV_pickT rfl rfl rfl) ?_ | refine SmG.v hF rfl rfl rfl (opV_pickF rfl rfl rfl) ?_
    refine SmG.v hF rfl rfl rfl (opV_move rfl rfl) ?_
    first | refine SmG.v hF rfl rfl rfl (opV_move rfl rfl) ?_ | refine SmG.pass hF rfl rfl rfl ?_
    first | refine SmG.v hF rfl rfl rfl (opV_move rfl rfl) ?_ | refine SmG.pass hF rfl rfl rfl ?_
    first | refine SmG.v hF rfl rfl rfl (opV_len rfl rfl (by simp (disch := omega) only [go_sem, Nat.reduceEqDiff, iteP, wkD, Wk.row, ressL, hsl, sumD, hcR] <;> rfl)) ?_ | refine SmG.pass hF rfl rfl rfl ?_
    first | refine SmG.v hF rfl rfl rfl (opV_bin rfl rfl rfl (by first | exact rd_gtrT _ _ _ _ _ (by omega) | exact rd_gtrF _ _ _ _ _ (by omega) | exact rb_gtr _ _ _ _ _ _ _)) ?_ | refine SmG.pass hF rfl rfl rfl ?_
    first | refine SmG.v hF rfl rfl rfl (opV_pickT rfl rfl rfl) ?_ | refine SmG.v hF rfl rfl rfl (opV_pickF rfl rfl rfl) ?_
    refine SmG.nil ?_
    refine nextS_normal ?_
    refine Sm.condF hF rfl ?_
    refine Sm.skip ?_
    refine nextS_normal ?_
    refine Sm.seq ?_
    refine Sm.drawG hF (by kernel_rfl) rfl 15 (by kernel_rfl) (by kernel_rfl) ?_
    simp only [List.take_succ_cons, List.take_zero, List.take_nil]
    refine Head.v hF rfl rfl rfl (opV_move rfl rfl) ?_
    refine Head.v hF rfl rfl rfl (opV_load rfl rfl (by simp (disch := omega) only [go_sem, Nat.reduceEqDiff, iteP, wkD, Wk.row, ressL, hsl, sumD, hcR] <;> rfl)) ?_
    refine Head.v hF rfl rfl rfl (opV_move rfl rfl) ?_
    refine Head.v hF rfl rfl rfl (opV_move rfl rfl) ?_
    refine Head.v hF rfl rfl rfl (opV_move rfl rfl) ?_
    refine Head.v hF rfl rfl rfl (opV_move rfl rfl) ?_
    refine Head.v hF rfl rfl rfl (opV_move rfl rfl) ?_
    refine Head.v hF rfl rfl rfl (opV_slice rfl rfl rfl rfl rfl (by simp (disch := omega) only [go_sem, Nat.reduceEqDiff, iteP, wkD, Wk.row, ressL, hsl, sumD, hcR] <;> rfl)) ?_
    refine Head.c hF rfl rfl (by kernel_rfl) rfl rfl rfl (clone_D _ (by omega) HG) ?_
    refine Head.cf hF rfl rfl rfl rfl rfl rfl hbody hsay ?_
    refine Head.v hF rfl rfl rfl (opV_move rfl rfl) ?_
    refine Head.v hF rfl rfl rfl (by first | exact opV_extract rfl rfl rfl | exact opV_extract0 rfl rfl) ?_
    refine Head.v hF rfl rfl rfl (by first | exact opV_extract rfl rfl rfl | exact opV_extractS rfl rfl rfl) ?_
    refine Head.v hF rfl rfl rfl (opV_assign rfl rfl) ?_
    refine Head.v hF rfl rfl rfl (opV_assign rfl rfl) ?_
    refine Head.last ⟨rfl, ?_⟩
    simp only [List.drop_succ_cons, List.drop_zero, List.drop_nil, List.nil_append, List.cons_append]
    refine SmG.nil ?_
    refine nextS_normal ?_
    refine Sm.seq ?_
    refine Sm.seq ?_
    refine Sm.regionG hF rfl ?_
    refine SmG.v hF rfl rfl rfl (opV_move rfl rfl) ?_
    refine SmG.v hF rfl rfl rfl (opV_un rfl rfl (by first | exact rd_notT _ | exact rd_notF _ | exact rd_not _)) ?_
    refine SmG.nil ?_
    refine nextS_normal ?_
    refine Sm.condF hF rfl ?_
    refine Sm.skip ?_
    refine nextS_normal ?_
    refine Sm.seq ?_
    refine Sm.regionG hF rfl ?_
    refine SmG.v hF rfl rfl rfl (opV_move rfl rfl) ?_
    refine SmG.v hF rfl rfl rfl (opV_move rfl rfl) ?_
    refine SmG.v hF rfl rfl rfl (opV_move rfl rfl) ?_
    refine SmG.v hF rfl rfl rfl (opV_move rfl rfl) ?_
    refine SmG.v hF rfl rfl rfl (opV_move rfl rfl) ?_
    refine SmG.call hF rfl rfl (by kernel_rfl) rfl rfl rfl (hR) ?_
    refine SmG.v hF rfl rfl rfl (opV_buildT rfl Tryd.underlying41 (by kernel_rfl) rfl (clm_build _ _ _ rfl rfl rfl _ _ hRl)) ?_
    refine SmG.store hF rfl rfl rfl rfl rfl (by simp (disch := omega) only [go_sem, Nat.reduceEqDiff, iteP, wkD, Wk.row, ressL, hsl, sumD, hcR] <;> rfl) ?_
    refine SmG.v hF rfl rfl rfl (opV_assign rfl rfl) ?_
    refine SmG.nil ?_
    refine nextS_normal ?_
    refine Sm.ret ?_
    refine retQ_cell2 rfl rfl (by simp (disch := omega) only [go_sem, Nat.reduceEqDiff, iteP] <;> rfl) rfl ?_
    exact D.le.refl _
theorem lie_len (x : Wk) (a : Int) (l : List Res) : (lie x a l).length = l.length := by
  unfold lie; split <;> simp
theorem work_lie (x : Wk) (who t : Int) (v : List Res) (a b : Nat) (hl : v.length ≤ 1000000) (hab : a ≤ b) (hb : b ≤ v.length) (hk : x.kind = 4) :
    CallsD Tryd.prog HG 31 [wkD x, .v (.int .i64 who), .v (.int .i64 t), ressL v, .v (.int .i64 a), .v (.int .i64 b)] (.tup [clmD ⟨who, a, b, lie x a (partOfL v a b), Sha.root ((lie x a (partOfL v a b)).map resBytes)⟩, .v (.bool true)]) := by
  have hsl : List.drop a (List.take b (List.map Res.row v)) = List.map Res.row (partOfL v a b) := by simp [partOfL, List.map_take, List.map_drop]
  have hpl := part_len (a := a) hb
  have hll : (lie x a (partOfL v a b)).length = (partOfL v a b).length := lie_len ..
  have hRl := Sha.root_len ((lie x a (partOfL v a b)).map resBytes)
  have hR := workRoot_D (lie x a (partOfL v a b)) (by omega)
  generalize Sha.root ((lie x a (partOfL v a b)).map resBytes) = R at hR hRl ⊢
  have hc : ∀ A : List UInt8, A.length = 32 → (rowS A).length = 32 := fun A h => by simp [rowS, h]
  have hcR := hc R hRl
  have hlk : lookupS Tryd.prog 84 (.d sayM) (.d (.v (.int .i64 x.kind))) true = some (.d (.tup [.fn 48 [], .v (.bool true)])) := by rw [hk]; rfl
  refine CallsD.of Tryd.func31 rfl Tryd.ntmps31 (by simp) ?_; intro F hF h0 hT; simp only [List.zipIdx_cons, List.zipIdx_nil, List.map_cons, List.map_nil, Nat.zero_add, Nat.reduceAdd]
  refine Sm.seq ?_
  refine Sm.regionG hF rfl ?_
  refine SmG.new hF rfl rfl rfl (opS_box rfl rfl (by simp (disch := omega) only [go_sem, Nat.reduceEqDiff, iteP, wkD, Wk.row, ressL, hsl, sumD, hcR] <;> rfl)) ?_
  refine SmG.new hF rfl rfl rfl (opS_alloc rfl al41) ?_
  refine SmG.v hF rfl rfl rfl (opV_assign rfl rfl) ?_
  refine SmG.nil ?_
  refine nextS_normal ?_
  refine Sm.seq ?_
  refine Sm.drawG hF (by kernel_rfl) rfl 9 (by kernel_rfl) (by kernel_rfl) ?_
  simp only [List.take_succ_cons, List.take_zero, List.take_nil]
  refine Head.c hF rfl rfl (by kernel_rfl) rfl rfl rfl (sayings_D HG) ?_
  refine Head.v hF rfl rfl rfl (opV_fieldAddr rfl rfl (by simp (disch := omega) only [go_sem, Nat.reduceEqDiff, iteP, wkD, Wk.row, ressL, hsl, sumD, hcR] <;> rfl)) ?_
  refine Head.v hF rfl rfl rfl (opV_load rfl rfl (by simp (disch := omega) only [go_sem, Nat.reduceEqDiff, iteP, wkD, Wk.row, ressL, hsl, sumD, hcR] <;> rfl)) ?_
  refine Head.v hF rfl rfl rfl (opV_lookup rfl rfl rfl hlk) ?_
  refine Head.v hF rfl rfl rfl (opV_move rfl rfl) ?_
  refine Head.v hF rfl rfl rfl (by first | exact opV_extract rfl rfl rfl | exact opV_extract0 rfl rfl) ?_
  refine Head.v hF rfl rfl rfl (by first | exact opV_extract rfl rfl rfl | exact opV_extractS rfl rfl rfl) ?_
  refine Head.v hF rfl rfl rfl (opV_assign rfl rfl) ?_
  refine Head.v hF rfl rfl rfl (opV_assign rfl rfl) ?_
  refine Head.last ⟨rfl, ?_⟩
  simp only [List.drop_succ_cons, List.drop_zero, List.drop_nil, List.nil_append, List.cons_append]
  refine SmG.nil ?_
  refine nextS_normal ?_
  refine Sm.seq ?_
  refine Sm.seq ?_
  refine Sm.regionG hF rfl ?_
  refine SmG.v hF rfl rfl rfl (opV_move rfl rfl) ?_
  refine SmG.v hF rfl rfl rfl (opV_un rfl rfl (by first | exact rd_notT _ | exact rd_notF _ | exact rd_not _)) ?_
  refine SmG.v hF rfl rfl rfl (opV_move rfl rfl) ?_
  first | refine SmG.v hF rfl rfl rfl (opV_move rfl rfl) ?_ | refine SmG.pass hF rfl rfl rfl ?_
  first | refine SmG.v hF rfl rfl rfl (opV_bin rfl rfl rfl (by first | exact rd_lssT _ _ _ _ _ (by omega) | exact rd_lssF _ _ _ _ _ (by omega) | exact rb_lss _ _ _ _ _ _ _)) ?_ | refine SmG.pass hF rfl rfl rfl ?_
  first | refine SmG.v hF rfl rfl rfl (opV_pickT rfl rfl rfl) ?_ | refine SmG.v hF rfl rfl rfl (opV_pickF rfl rfl rfl) ?_
  refine SmG.v hF rfl rfl rfl (opV_move rfl rfl) ?_
  first | refine SmG.v hF rfl rfl rfl (opV_move rfl rfl) ?_ | refine SmG.pass hF rfl rfl rfl ?_
  first | refine SmG.v hF rfl rfl rfl (opV_move rfl rfl) ?_ | refine SmG.pass hF rfl rfl rfl ?_
  first | refine SmG.v hF rfl rfl rfl (opV_bin rfl rfl rfl (by first | exact rd_lssT _ _ _ _ _ (by omega) | exact rd_lssF _ _ _ _ _ (by omega) | exact rb_lss _ _ _ _ _ _ _)) ?_ | refine SmG.pass hF rfl rfl rfl ?_
  first | refine SmG.v hF rfl rfl rfl (opV_pickT rfl rfl rfl) ?_ | refine SmG.v hF rfl rfl rfl (opV_pickF rfl rfl rfl) ?_
  refine SmG.v hF rfl rfl rfl (opV_move rfl rfl) ?_
  first | refine SmG.v hF rfl rfl rfl (opV_move rfl rfl) ?_ | refine SmG.pass hF rfl rfl rfl ?_
  first | refine SmG.v hF rfl rfl rfl (opV_move rfl rfl) ?_ | refine SmG.pass hF rfl rfl rfl ?_
  first | refine SmG.v hF rfl rfl rfl (opV_len rfl rfl (by simp (disch := omega) only [go_sem, Nat.reduceEqDiff, iteP, wkD, Wk.row, ressL, hsl, sumD, hcR] <;> rfl)) ?_ | refine SmG.pass hF rfl rfl rfl ?_
  first | refine SmG.v hF rfl rfl rfl (opV_bin rfl rfl rfl (by first | exact rd_gtrT _ _ _ _ _ (by omega) | exact rd_gtrF _ _ _ _ _ (by omega) | exact rb_gtr _ _ _ _ _ _ _)) ?_ | refine SmG.pass hF rfl rfl rfl ?_
  first | refine SmG.v hF rfl rfl rfl (opV_pickT rfl rfl rfl) ?_ | refine SmG.v hF rfl rfl rfl (opV_pickF rfl rfl rfl) ?_
  refine SmG.nil ?_
  refine nextS_normal ?_
  refine Sm.condF hF rfl ?_
  refine Sm.skip ?_
  refine nextS_normal ?_
  refine Sm.seq ?_
  refine Sm.regionAG hF rfl ?_
  refine SmA.headG hF rfl 0 9 (by kernel_rfl) ?_
  simp only [List.take_succ_cons, List.take_zero, List.take_nil, List.drop_succ_cons, List.drop_zero, Nat.reduceSub]
  refine Head.v hF rfl rfl rfl (opV_move rfl rfl) ?_
  refine Head.v hF rfl rfl rfl (opV_load rfl rfl (by simp (disch := omega) only [go_sem, Nat.reduceEqDiff, iteP, wkD, Wk.row, ressL, hsl, sumD, hcR] <;> rfl)) ?_
  refine Head.v hF rfl rfl rfl (opV_move rfl rfl) ?_
  refine Head.v hF rfl rfl rfl (opV_move rfl rfl) ?_
  refine Head.v hF rfl rfl rfl (opV_move rfl rfl) ?_
  refine Head.v hF rfl rfl rfl (opV_move rfl rfl) ?_
  refine Head.v hF rfl rfl rfl (opV_move rfl rfl) ?_
  refine Head.v hF rfl rfl rfl (opV_slice rfl rfl rfl rfl rfl (by simp (disch := omega) only [go_sem, Nat.reduceEqDiff, iteP, wkD, Wk.row, ressL, hsl, sumD, hcR] <;> rfl)) ?_
  refine Head.co hF rfl rfl (by kernel_rfl) rfl rfl rfl (clone_O _ (by omega) HG) ?_
  refine Head.last ?_
  simp only [List.nil_append, List.cons_append]
  refine SmA.oneG hF 9 rfl (by kernel_rfl) rfl ?_
  refine SmG.callF1 hF 2 rfl rfl rfl rfl rfl rfl (by kernel_rfl) rfl (lie_B x t a (partOfL v a b) (by omega) (by omega) HG) rfl rfl ?_; simp only [V.ren, upN, Nat.lt_irrefl, Nat.zero_lt_one, if_true, rep, Nat.reduceEqDiff, reduceIte, Nat.reduceAdd, Nat.reduceSub]
  refine SmG.nil ?_
  refine nextS_normal ?_
  refine SmA.headG hF rfl 10 15 (by kernel_rfl) ?_
  simp only [List.take_succ_cons, List.take_zero, List.take_nil, List.drop_succ_cons, List.drop_zero, Nat.reduceSub]
  refine Head.v hF rfl rfl rfl (opV_move rfl rfl) ?_
  refine Head.v hF rfl rfl rfl (by first | exact opV_extract rfl rfl rfl | exact opV_extract0 rfl rfl) ?_
  refine Head.v hF rfl rfl rfl (by first | exact opV_extract rfl rfl rfl | exact opV_extractS rfl rfl rfl) ?_
  refine Head.v hF rfl rfl rfl (opV_assign rfl rfl) ?_
  refine Head.v hF rfl rfl rfl (opV_assign rfl rfl) ?_
  refine Head.last ?_
  simp only [List.nil_append, List.cons_append]
  refine SmA.nil (Nat.le_of_ble_eq_true rfl) ?_
  refine nextS_normal ?_
  refine Sm.seq ?_
  refine Sm.seq ?_
  refine Sm.regionG hF rfl ?_
  refine SmG.v hF rfl rfl rfl (opV_move rfl rfl) ?_
  refine SmG.v hF rfl rfl rfl (opV_un rfl rfl (by first | exact rd_notT _ | exact rd_notF _ | exact rd_not _)) ?_
  refine SmG.nil ?_
  refine nextS_normal ?_
  refine Sm.condF hF rfl ?_
  refine Sm.freeze (l := 2) ((lie x a (partOfL v a b)).map Res.row) rfl ?_
  simp only [Pk.v, frzE, frzV, dropH,  reduceIte, Nat.reduceAdd, Nat.zero_add, List.length_map, List.length_append, Nat.le_refl, true_and, and_self, if_true, Nat.reduceEqDiff, hll]
  refine Sm.skip ?_
  refine nextS_normal ?_
  refine Sm.seq ?_
  refine Sm.regionG hF rfl ?_
  refine SmG.v hF rfl rfl rfl (opV_move rfl rfl) ?_
  refine SmG.v hF rfl rfl rfl (opV_move rfl rfl) ?_
  refine SmG.v hF rfl rfl rfl (opV_move rfl rfl) ?_
  refine SmG.v hF rfl rfl rfl (opV_move rfl rfl) ?_
  refine SmG.v hF rfl rfl rfl (opV_move rfl rfl) ?_
  refine SmG.call hF rfl rfl (by kernel_rfl) rfl rfl rfl (hR) ?_
  refine SmG.v hF rfl rfl rfl (opV_buildT rfl Tryd.underlying41 (by kernel_rfl) rfl (clm_build _ _ _ rfl rfl rfl _ _ hRl)) ?_
  refine SmG.store hF rfl rfl rfl rfl rfl (by simp (disch := omega) only [go_sem, Nat.reduceEqDiff, iteP, wkD, Wk.row, ressL, hsl, sumD, hcR] <;> rfl) ?_
  refine SmG.v hF rfl rfl rfl (opV_assign rfl rfl) ?_
  refine SmG.nil ?_
  refine nextS_normal ?_
  refine Sm.ret ?_
  refine retQ_cell2 rfl rfl (by simp (disch := omega) only [go_sem, Nat.reduceEqDiff, iteP] <;> rfl) rfl ?_
  exact D.le.refl _
def saidW (x : Wk) (t : Int) (v : List Res) (a b : Int) : Option (List Res) :=
  if 0 ≤ a ∧ a ≤ b ∧ b ≤ v.length then
    if x.kind = 1 then some (partOfL v a.toNat b.toNat) else if x.kind = 3 then (if x.n ≤ t then some (partOfL v a.toNat b.toNat) else none) else if x.kind = 4 then some (lie x a (partOfL v a.toNat b.toNat)) else none
  else none
def claimW (x : Wk) (who t : Int) (v : List Res) (a b : Int) : Clm × Bool :=
  match saidW x t v a b with
  | some l => (⟨who, a, b, l, Sha.root (l.map resBytes)⟩, true)
  | none => (noClm, false)
theorem work_D (x : Wk) (who t : Int) (v : List Res) (a b : Int) (hl : v.length ≤ 1000000) : CallsD Tryd.prog HG 31 [wkD x, .v (.int .i64 who), .v (.int .i64 t), ressL v, .v (.int .i64 a), .v (.int .i64 b)] (.tup [clmD (claimW x who t v a b).1, .v (.bool (claimW x who t v a b).2)]) := by
  by_cases hk : sayKind x.kind
  · by_cases hab : 0 ≤ a ∧ a ≤ b ∧ b ≤ v.length
    · obtain ⟨h1, h2, h3⟩ := hab
      obtain ⟨a, rfl⟩ : ∃ n : Nat, a = n := ⟨a.toNat, by omega⟩
      obtain ⟨b, rfl⟩ : ∃ n : Nat, b = n := ⟨b.toNat, by omega⟩
      have hpl := part_len (v := v) (a := a) (b := b) (by omega)
      rcases hk with hk | hk | hk
      · have hs : claimW x who t v a b = (⟨who, a, b, partOfL v a b, Sha.root ((partOfL v a b).map resBytes)⟩, true) := by
          simp [claimW, saidW, hk, h2, h3]
        rw [hs]
        exact work_say x who t v a b hl (by omega) (by omega) _ (partOfL v a b) true hpl (by kernel_rfl) (by rw [hk]; rfl) (honest_D x t a _ HG)
      · have hw := work_say x who t v a b hl (by omega) (by omega) 47 (partOfL v a b) (decide (x.n ≤ t)) hpl (by kernel_rfl) (by rw [hk]; rfl) (late_D x t a _ HG)
        by_cases ht : x.n ≤ t
        · have hs : claimW x who t v a b = (⟨who, a, b, partOfL v a b, Sha.root ((partOfL v a b).map resBytes)⟩, true) := by
            simp [claimW, saidW, hk, h2, h3, ht]
          rw [hs]
          simpa [ht] using hw
        · have hs : claimW x who t v a b = (noClm, false) := by
            simp [claimW, saidW, hk, h2, h3, ht]
          rw [hs]
          simpa [ht] using hw
      · have hs : claimW x who t v a b = (⟨who, a, b, lie x a (partOfL v a b), Sha.root ((lie x a (partOfL v a b)).map resBytes)⟩, true) := by
          simp [claimW, saidW, hk, h2, h3]
        rw [hs]
        exact work_lie x who t v a b hl (by omega) (by omega) hk
    · have hs : claimW x who t v a b = (noClm, false) := by
        simp [claimW, saidW, hab]
      rw [hs]
      exact work_no x who t v a b hl (.inr ⟨hk, by omega⟩)
  · have hs : claimW x who t v a b = (noClm, false) := by
      unfold claimW saidW
      simp only [sayKind, not_or] at hk
      simp [hk]
    rw [hs]
    exact work_no x who t v a b hl (.inl hk)
end Go.Proofs.YtagfaaijgfigkaaDoor
namespace Go.Proofs.YtagfaaijgfigkaaDoor
open Go.RowKit
set_option maxRecDepth 100000
def bnd (q r i : Nat) : Nat := i * q + min i r
theorem bnd_succ (q r i : Nat) : bnd q r (i + 1) = bnd q r i + q + if i < r then 1 else 0 := by
  unfold bnd
  rw [Nat.succ_mul]
  split <;> omega
theorem bnd_end {n m : Nat} (hm : 0 < m) : bnd (n / m) (n % m) m = n := by
  unfold bnd
  have := Nat.mod_lt n hm
  rw [Nat.min_eq_right (by omega), Nat.mul_comm]
  have := Nat.mod_add_div n m
  rw [Nat.mul_comm] at this ⊢; rw [Nat.mul_comm m]; omega
theorem bnd_mono {q r i j : Nat} (h : i ≤ j) : bnd q r i ≤ bnd q r j := by
  induction h with
  | refl => exact Nat.le_refl _
  | step _ ih => rw [bnd_succ]; omega
def cutAt (q r i : Nat) : Int × Int := (bnd q r i, bnd q r (i + 1))
def cutN (n m : Nat) : List (Int × Int) := (List.range m).map (cutAt (n / m) (n % m))
def cutL (n k : Int) : List (Int × Int) := if k < 1 ∨ n < 1 ∨ 4000 < n then [] else cutN n.toNat (min n k).toNat
def rowP (p : Int × Int) : List D := [.v (.int .i64 p.1), .v (.int .i64 p.2)]
def partsD (l : List (Int × Int)) : D := .list 2 (l.map rowP) false
theorem elPart : ElemT Tryd.prog 49 56 (.agg #[.int .i64 0, .int .i64 0]) 2 16 := ⟨Tryd.underlying49, by kernel_rfl, rfl, by decide⟩
theorem cut_no (n k : Int) (h : k < 1 ∨ (1 ≤ k ∧ (n < 1 ∨ (1 ≤ n ∧ 4000 < n)))) (G : Nat → Option D) : CallsD Tryd.prog G 20 [.v (.int .i64 n), .v (.int .i64 k)] (partsD []) := by
  rcases h with h | ⟨h, h' | ⟨h', h''⟩⟩
  all_goals
    refine CallsD.of Tryd.func20 rfl Tryd.ntmps20 (by simp) ?_; intro F hF h0 hT; simp only [List.zipIdx_cons, List.zipIdx_nil, List.map_cons, List.map_nil, Nat.zero_add, Nat.reduceAdd]
    refine Sm.seq ?_
    refine Sm.regionG hF rfl ?_
    refine SmG.v hF rfl rfl rfl (opV_assign rfl rfl) ?_
    refine SmG.nil ?_
    refine nextS_normal ?_
    refine Sm.seq ?_
    refine Sm.seq ?_
    refine Sm.regionG hF rfl ?_
    refine SmG.v hF rfl rfl rfl (opV_move rfl rfl) ?_
    refine SmG.v hF rfl rfl rfl (opV_bin rfl rfl rfl (by first | exact rd_lssT _ _ _ _ _ (by omega) | exact rd_lssF _ _ _ _ _ (by omega) | exact rb_lss _ _ _ _ _ _ _)) ?_
    refine SmG.v hF rfl rfl rfl (opV_move rfl rfl) ?_
    first | refine SmG.v hF rfl rfl rfl (opV_move rfl rfl) ?_ | refine SmG.pass hF rfl rfl rfl ?_
    first | refine SmG.v hF rfl rfl rfl (opV_bin rfl rfl rfl (by first | exact rd_lssT _ _ _ _ _ (by omega) | exact rd_lssF _ _ _ _ _ (by omega) | exact rb_lss _ _ _ _ _ _ _)) ?_ | refine SmG.pass hF rfl rfl rfl ?_
    first | refine SmG.v hF rfl rfl rfl (opV_pickT rfl rfl rfl) ?_ | refine SmG.v hF rfl rfl rfl (opV_pickF rfl rfl rfl) ?_
    refine SmG.v hF rfl rfl rfl (opV_move rfl rfl) ?_
    first | refine SmG.v hF rfl rfl rfl (opV_move rfl rfl) ?_ | refine SmG.pass hF rfl rfl rfl ?_
    first | refine SmG.v hF rfl rfl rfl (opV_bin rfl rfl rfl (by first | exact rd_gtrT _ _ _ _ _ (by omega) | exact rd_gtrF _ _ _ _ _ (by omega) | exact rb_gtr _ _ _ _ _ _ _)) ?_ | refine SmG.pass hF rfl rfl rfl ?_
    first | refine SmG.v hF rfl rfl rfl (opV_pickT rfl rfl rfl) ?_ | refine SmG.v hF rfl rfl rfl (opV_pickF rfl rfl rfl) ?_
    refine SmG.nil ?_
    refine nextS_normal ?_
    refine Sm.condT hF rfl ?_
    refine Sm.seq ?_
    refine Sm.regionG hF rfl ?_
    refine SmG.v hF rfl rfl rfl (opV_assign rfl rfl) ?_
    refine SmG.nil ?_
    refine nextS_normal ?_
    refine Sm.ret ?_
    simp only [nextS, blockS]
    refine ⟨_, rfl, ?_⟩; dsimp only
    exact D.le_nil' _ _ _
theorem range_take (m i : Nat) (h : i ≤ m) : (List.range m).take i = List.range i := by rw [List.take_range, Nat.min_eq_left h]
theorem cutN_take (n m i : Nat) (h : i < m) : ((cutN n m).take i).map rowP ++ [[.v (.int .i64 ((bnd (n / m) (n % m) i : Nat) : Int)), .v (.int .i64 ((bnd (n / m) (n % m) (i + 1) : Nat) : Int))]] = ((cutN n m).take (i + 1)).map rowP := by
  unfold cutN
  rw [← List.map_take, ← List.map_take, range_take _ _ (by omega), range_take _ _ (by omega), List.range_succ]
  simp [rowP, cutAt]
theorem cut_yes (n m : Nat) (k : Int) (h1 : 1 ≤ n) (h2 : n ≤ 4000) (hk : 1 ≤ k) (hm : (m : Int) = min (n : Int) k) (G : Nat → Option D) : CallsD Tryd.prog G 20 [.v (.int .i64 n), .v (.int .i64 k)] (partsD (cutN n m)) := by
  have hm1 : 1 ≤ m := by omega
  have hmn : m ≤ n := by omega
  have hmin : ∀ {ts : Array TypeId} {T : TypeId}, reck Tryd.prog (Builtin.min_ ts T #[.int .i64 (n : Int), .int .i64 k]) = some (.int .i64 (m : Int)) := by
    intro ts T
    rcases Int.le_total (n : Int) k with h | h
    · rw [rd_minL _ h, hm, Int.min_eq_left h]
    · rw [rd_minR _ h, hm, Int.min_eq_right h]
  have hend := bnd_end (n := n) (m := m) hm1
  have hqn : n / m ≤ n := Nat.div_le_self n m
  have hrm : n % m < m := Nat.mod_lt n (by omega)
  have htk := cutN_take n m
  have hquo : ∀ t x y, reck Tryd.prog (do eqGuard .quo t x y (.int .i64 (n : Int)) (.int .i64 (m : Int)); binOp .quo t (.int .i64 (n : Int)) (.int .i64 (m : Int))) = some (.int .i64 ((n / m : Nat) : Int)) := fun t x y => by
    rw [rd_quo _ _ _ _ (by omega) (by omega)]; simp
  have hrem : ∀ t x y, reck Tryd.prog (do eqGuard .rem t x y (.int .i64 (n : Int)) (.int .i64 (m : Int)); binOp .rem t (.int .i64 (n : Int)) (.int .i64 (m : Int))) = some (.int .i64 ((n % m : Nat) : Int)) := fun t x y => by
    rw [rd_rem _ _ _ _ _ (by omega) (by omega)]; simp
  have hcl : (cutN n m).length = m := by simp [cutN]
  unfold partsD
  generalize cutN n m = L at htk hcl ⊢
  generalize n / m = q at *
  generalize n % m = r at *
  refine CallsD.of Tryd.func20 rfl Tryd.ntmps20 (by simp) ?_; intro F hF h0 hT; simp only [List.zipIdx_cons, List.zipIdx_nil, List.map_cons, List.map_nil, Nat.zero_add, Nat.reduceAdd]
  refine Sm.seq ?_
  refine Sm.regionG hF rfl ?_
  refine SmG.v hF rfl rfl rfl (opV_assign rfl rfl) ?_
  refine SmG.nil ?_
  refine nextS_normal ?_
  refine Sm.seq ?_
  refine Sm.seq ?_
  refine Sm.regionG hF rfl ?_
  refine SmG.v hF rfl rfl rfl (opV_move rfl rfl) ?_
  refine SmG.v hF rfl rfl rfl (opV_bin rfl rfl rfl (by first | exact rd_lssT _ _ _ _ _ (by omega) | exact rd_lssF _ _ _ _ _ (by omega) | exact rb_lss _ _ _ _ _ _ _)) ?_
  refine SmG.v hF rfl rfl rfl (opV_move rfl rfl) ?_
  first | refine SmG.v hF rfl rfl rfl (opV_move rfl rfl) ?_ | refine SmG.pass hF rfl rfl rfl ?_
  first | refine SmG.v hF rfl rfl rfl (opV_bin rfl rfl rfl (by first | exact rd_lssT _ _ _ _ _ (by omega) | exact rd_lssF _ _ _ _ _ (by omega) | exact rb_lss _ _ _ _ _ _ _)) ?_ | refine SmG.pass hF rfl rfl rfl ?_
  first | refine SmG.v hF rfl rfl rfl (opV_pickT rfl rfl rfl) ?_ | refine SmG.v hF rfl rfl rfl (opV_pickF rfl rfl rfl) ?_
  refine SmG.v hF rfl rfl rfl (opV_move rfl rfl) ?_
  first | refine SmG.v hF rfl rfl rfl (opV_move rfl rfl) ?_ | refine SmG.pass hF rfl rfl rfl ?_
  first | refine SmG.v hF rfl rfl rfl (opV_bin rfl rfl rfl (by first | exact rd_gtrT _ _ _ _ _ (by omega) | exact rd_gtrF _ _ _ _ _ (by omega) | exact rb_gtr _ _ _ _ _ _ _)) ?_ | refine SmG.pass hF rfl rfl rfl ?_
  first | refine SmG.v hF rfl rfl rfl (opV_pickT rfl rfl rfl) ?_ | refine SmG.v hF rfl rfl rfl (opV_pickF rfl rfl rfl) ?_
  refine SmG.nil ?_
  refine nextS_normal ?_
  refine Sm.condF hF rfl ?_
  refine Sm.skip ?_
  refine nextS_normal ?_
  refine Sm.seq ?_
  refine Sm.regionG hF rfl ?_
  refine SmG.v hF rfl rfl rfl (opV_move rfl rfl) ?_
  refine SmG.v hF rfl rfl rfl (opV_move rfl rfl) ?_
  refine SmG.v hF rfl rfl rfl (opV_min rfl rfl rfl hmin) ?_
  refine SmG.v hF rfl rfl rfl (opV_assign rfl rfl) ?_
  refine SmG.nil ?_
  refine nextS_normal ?_
  refine Sm.seq ?_
  refine Sm.drawG hF (by kernel_rfl) rfl 8 (by kernel_rfl) (by kernel_rfl) ?_
  simp only [List.take_succ_cons, List.take_zero, List.take_nil]
  refine Head.v hF rfl rfl rfl (opV_move rfl rfl) ?_
  refine Head.v hF rfl rfl rfl (opV_move rfl rfl) ?_
  refine Head.v hF rfl rfl rfl (opV_bin rfl rfl rfl (hquo _ _ _)) ?_
  refine Head.v hF rfl rfl rfl (opV_move rfl rfl) ?_
  refine Head.v hF rfl rfl rfl (opV_move rfl rfl) ?_
  refine Head.v hF rfl rfl rfl (opV_bin rfl rfl rfl (hrem _ _ _)) ?_
  refine Head.v hF rfl rfl rfl (opV_assign rfl rfl) ?_
  refine Head.v hF rfl rfl rfl (opV_assign rfl rfl) ?_
  refine Head.last ⟨rfl, ?_⟩
  simp only [List.drop_succ_cons, List.drop_zero, List.drop_nil, List.nil_append, List.cons_append]
  refine SmG.nil ?_
  refine nextS_normal ?_
  refine Sm.seq ?_
  refine Sm.regionG hF rfl ?_
  refine SmG.v hF rfl rfl rfl (opV_assign rfl rfl) ?_
  refine SmG.nil ?_
  refine nextS_normal ?_
  refine Sm.seq ?_
  refine Sm.regionG hF rfl ?_
  refine SmG.v hF rfl rfl rfl (opV_assign rfl rfl) ?_
  refine SmG.nil ?_
  refine nextS_normal ?_
  refine Sm.seq ?_
  refine Sm.seq ?_
  refine Sm.regionG hF rfl ?_
  refine SmG.v hF rfl rfl rfl (opV_move rfl rfl) ?_
  refine SmG.v hF rfl rfl rfl (opV_move rfl rfl) ?_
  refine SmG.nil ?_
  refine nextS_normal ?_
  refine Sm.block ?_
  refine Sm.own (t := 7) (sz := 0) 2 rfl ?_
  refine Sm.loop (ι := {i : Nat // i ≤ m}) (fun i => ⟨[(5, .d (.v (.int .i64 q))), (6, .d (.v (.int .i64 r))), (7, .sref 0 0 ((L.take i.1).map rowP).length), (8, .d (.v (.int .i64 (bnd q r i.1 : Nat)))), (30, .d (.v (.int .i64 m))), (31, .d (.v (.int .i64 i.1)))], [(0, dB 2 ((L.take i.1).map rowP))], 1⟩) (fun i => m - i.1) (⟨0, by omega⟩) ?_ ?_
  · exact St.le_of (by simp [leE, look, constD, bnd]) ⟨rfl, trivial⟩ (Nat.le_refl _)
  rintro ⟨i, hi⟩
  simp only
  by_cases hlt : i < m
  · have hb := bnd_succ q r i
    have hm1 := bnd_mono (q := q) (r := r) (show i + 1 ≤ m by omega)
    have htk' := htk i hlt
    have hll : ((L.take i).map rowP).length = i := by rw [List.length_map, List.length_take]; omega
    by_cases hir : i < r
    · rw [if_pos hir] at hb
      have he : ((bnd q r i : Nat) : Int) + (q : Int) + 1 = ((bnd q r (i + 1) : Nat) : Int) := by omega
      refine Sm.seq ?_
      refine Sm.regionG hF rfl ?_
      refine SmG.v hF rfl rfl rfl (opV_bin rfl rfl rfl (by first | exact rd_lssT _ _ _ _ _ (by omega) | exact rd_lssF _ _ _ _ _ (by omega) | exact rb_lss _ _ _ _ _ _ _)) ?_
      refine SmG.nil ?_
      refine nextS_normal ?_
      refine Sm.seq ?_
      refine Sm.condT hF rfl ?_
      refine Sm.skip ?_
      refine nextS_normal ?_
      refine Sm.seq ?_
      refine Sm.block ?_
      refine Sm.seq ?_
      refine Sm.regionG hF rfl ?_
      refine SmG.v hF rfl rfl rfl (opV_move rfl rfl) ?_
      refine SmG.v hF rfl rfl rfl (opV_assign rfl rfl) ?_
      refine SmG.nil ?_
      refine nextS_normal ?_
      refine Sm.seq ?_
      refine Sm.regionG hF rfl ?_
      refine SmG.v hF rfl rfl rfl (opV_move rfl rfl) ?_
      refine SmG.v hF rfl rfl rfl (opV_move rfl rfl) ?_
      refine SmG.v hF rfl rfl rfl (opV_bin rfl rfl rfl (by first | exact rd_add _ _ _ _ _ (wrapI64 _ (by omega)) | exact rb_add _ _ _ _ _ _ _)) ?_
      refine SmG.v hF rfl rfl rfl (opV_assign rfl rfl) ?_
      refine SmG.nil ?_
      refine nextS_normal ?_
      refine Sm.seq ?_
      refine Sm.seq ?_
      refine Sm.regionG hF rfl ?_
      refine SmG.v hF rfl rfl rfl (opV_move rfl rfl) ?_
      refine SmG.v hF rfl rfl rfl (opV_move rfl rfl) ?_
      refine SmG.v hF rfl rfl rfl (opV_bin rfl rfl rfl (by first | exact rd_lssT _ _ _ _ _ (by omega) | exact rd_lssF _ _ _ _ _ (by omega) | exact rb_lss _ _ _ _ _ _ _)) ?_
      refine SmG.nil ?_
      refine nextS_normal ?_
      refine Sm.condT hF rfl ?_
      refine Sm.regionG hF rfl ?_
      refine SmG.v hF rfl rfl rfl (opV_move rfl rfl) ?_
      refine SmG.v hF rfl rfl rfl (opV_bin rfl rfl rfl (by first | exact rd_add _ _ _ _ _ (wrapI64 _ (by omega)) | exact rb_add _ _ _ _ _ _ _)) ?_
      refine SmG.v hF rfl rfl rfl (opV_assign rfl rfl) ?_
      refine SmG.nil ?_
      refine nextS_normal ?_
      refine Sm.seq ?_
      refine Sm.regionG hF rfl ?_
      refine SmG.v hF rfl rfl rfl (opV_move rfl rfl) ?_
      refine SmG.v hF rfl rfl rfl (opV_move rfl rfl) ?_
      refine SmG.v hF rfl rfl rfl (opV_move rfl rfl) ?_
      refine SmG.v hF rfl rfl rfl (opV_buildA rfl Tryd.underlying56 rfl (by simp (disch := omega) only [go_sem, Nat.reduceEqDiff, iteP] <;> rfl)) ?_
      refine SmG.v hF rfl rfl rfl (opV_buildSlice rfl rfl (by simp (disch := omega) only [go_sem, Nat.reduceEqDiff, iteP] <;> rfl)) ?_
      refine SmG.appendOwn hF elPart rfl rfl rfl rfl rfl rfl rfl (by first | rfl | (simp; done) | (simp; omega)) (Or.inl rfl) (by (repeat' first | exact freeH_nil _ | refine freeH_same ?_ | refine freeH_cons ?_ (free_dB _ _ _) | refine freeH_cons ?_ (free_dB _ _ [_]) | refine freeH_cons ?_ (free_row (by rfl)))) ?_ ?_ ?_; rotate_left; rotate_left; simp only [killV, Pk.v, V.free, rep, bne_self_eq_false, Nat.reduceAdd, Nat.reduceBNe, Nat.reduceBEq, Nat.reduceEqDiff, reduceIte, Bool.false_eq_true]
      rotate_left
      · simp only [List.length_cons, List.length_nil]; omega
      · simp only [List.length_cons, List.length_nil]; omega
      rw [he, htk']
      refine SmG.v hF rfl rfl rfl (opV_assign rfl rfl) ?_
      refine SmG.nil ?_
      refine nextS_normal ?_
      refine Sm.regionG hF rfl ?_
      refine SmG.v hF rfl rfl rfl (opV_move rfl rfl) ?_
      refine SmG.v hF rfl rfl rfl (opV_assign rfl rfl) ?_
      refine SmG.nil ?_
      refine blockS_normal ?_
      refine nextS_normal ?_
      refine Sm.regionG hF rfl ?_
      refine SmG.v hF rfl rfl rfl (opV_bin rfl rfl rfl (by first | exact rd_add _ _ _ _ _ (wrapI64 _ (by omega)) | exact rb_add _ _ _ _ _ _ _)) ?_
      refine SmG.v hF rfl rfl rfl (opV_move rfl rfl) ?_
      refine SmG.nil ?_
      refine nextS_normal ?_
      exact ⟨⟨i + 1, by omega⟩, by show m - (i + 1) < m - i; omega, by exact St.le_of (by first | (simp [leE, look, constD] <;> omega) | (simp [leE, look, constD, he] <;> omega)) (by simp only [leH, look, rep, reduceIte, Nat.reduceEqDiff, List.set_cons_zero, List.set_cons_succ, he, and_self, and_true, and_false, false_and, if_true, if_false] <;> (repeat' first | rfl | constructor)) (by first | exact Nat.le_refl _ | (dsimp only; omega))⟩
    · rw [if_neg hir] at hb
      have he : ((bnd q r i : Nat) : Int) + (q : Int) = ((bnd q r (i + 1) : Nat) : Int) := by omega
      refine Sm.seq ?_
      refine Sm.regionG hF rfl ?_
      refine SmG.v hF rfl rfl rfl (opV_bin rfl rfl rfl (by first | exact rd_lssT _ _ _ _ _ (by omega) | exact rd_lssF _ _ _ _ _ (by omega) | exact rb_lss _ _ _ _ _ _ _)) ?_
      refine SmG.nil ?_
      refine nextS_normal ?_
      refine Sm.seq ?_
      refine Sm.condT hF rfl ?_
      refine Sm.skip ?_
      refine nextS_normal ?_
      refine Sm.seq ?_
      refine Sm.block ?_
      refine Sm.seq ?_
      refine Sm.regionG hF rfl ?_
      refine SmG.v hF rfl rfl rfl (opV_move rfl rfl) ?_
      refine SmG.v hF rfl rfl rfl (opV_assign rfl rfl) ?_
      refine SmG.nil ?_
      refine nextS_normal ?_
      refine Sm.seq ?_
      refine Sm.regionG hF rfl ?_
      refine SmG.v hF rfl rfl rfl (opV_move rfl rfl) ?_
      refine SmG.v hF rfl rfl rfl (opV_move rfl rfl) ?_
      refine SmG.v hF rfl rfl rfl (opV_bin rfl rfl rfl (by first | exact rd_add _ _ _ _ _ (wrapI64 _ (by omega)) | exact rb_add _ _ _ _ _ _ _)) ?_
      refine SmG.v hF rfl rfl rfl (opV_assign rfl rfl) ?_
      refine SmG.nil ?_
      refine nextS_normal ?_
      refine Sm.seq ?_
      refine Sm.seq ?_
      refine Sm.regionG hF rfl ?_
      refine SmG.v hF rfl rfl rfl (opV_move rfl rfl) ?_
      refine SmG.v hF rfl rfl rfl (opV_move rfl rfl) ?_
      refine SmG.v hF rfl rfl rfl (opV_bin rfl rfl rfl (by first | exact rd_lssT _ _ _ _ _ (by omega) | exact rd_lssF _ _ _ _ _ (by omega) | exact rb_lss _ _ _ _ _ _ _)) ?_
      refine SmG.nil ?_
      refine nextS_normal ?_
      refine Sm.condF hF rfl ?_
      refine Sm.skip ?_
      refine nextS_normal ?_
      refine Sm.seq ?_
      refine Sm.regionG hF rfl ?_
      refine SmG.v hF rfl rfl rfl (opV_move rfl rfl) ?_
      refine SmG.v hF rfl rfl rfl (opV_move rfl rfl) ?_
      refine SmG.v hF rfl rfl rfl (opV_move rfl rfl) ?_
      refine SmG.v hF rfl rfl rfl (opV_buildA rfl Tryd.underlying56 rfl (by simp (disch := omega) only [go_sem, Nat.reduceEqDiff, iteP] <;> rfl)) ?_
      refine SmG.v hF rfl rfl rfl (opV_buildSlice rfl rfl (by simp (disch := omega) only [go_sem, Nat.reduceEqDiff, iteP] <;> rfl)) ?_
      refine SmG.appendOwn hF elPart rfl rfl rfl rfl rfl rfl rfl (by first | rfl | (simp; done) | (simp; omega)) (Or.inl rfl) (by (repeat' first | exact freeH_nil _ | refine freeH_same ?_ | refine freeH_cons ?_ (free_dB _ _ _) | refine freeH_cons ?_ (free_dB _ _ [_]) | refine freeH_cons ?_ (free_row (by rfl)))) ?_ ?_ ?_; rotate_left; rotate_left; simp only [killV, Pk.v, V.free, rep, bne_self_eq_false, Nat.reduceAdd, Nat.reduceBNe, Nat.reduceBEq, Nat.reduceEqDiff, reduceIte, Bool.false_eq_true]
      rotate_left
      · simp only [List.length_cons, List.length_nil]; omega
      · simp only [List.length_cons, List.length_nil]; omega
      rw [he, htk']
      refine SmG.v hF rfl rfl rfl (opV_assign rfl rfl) ?_
      refine SmG.nil ?_
      refine nextS_normal ?_
      refine Sm.regionG hF rfl ?_
      refine SmG.v hF rfl rfl rfl (opV_move rfl rfl) ?_
      refine SmG.v hF rfl rfl rfl (opV_assign rfl rfl) ?_
      refine SmG.nil ?_
      refine blockS_normal ?_
      refine nextS_normal ?_
      refine Sm.regionG hF rfl ?_
      refine SmG.v hF rfl rfl rfl (opV_bin rfl rfl rfl (by first | exact rd_add _ _ _ _ _ (wrapI64 _ (by omega)) | exact rb_add _ _ _ _ _ _ _)) ?_
      refine SmG.v hF rfl rfl rfl (opV_move rfl rfl) ?_
      refine SmG.nil ?_
      refine nextS_normal ?_
      exact ⟨⟨i + 1, by omega⟩, by show m - (i + 1) < m - i; omega, by exact St.le_of (by first | (simp [leE, look, constD] <;> omega) | (simp [leE, look, constD, he] <;> omega)) (by simp only [leH, look, rep, reduceIte, Nat.reduceEqDiff, List.set_cons_zero, List.set_cons_succ, he, and_self, and_true, and_false, false_and, if_true, if_false] <;> (repeat' first | rfl | constructor)) (by first | exact Nat.le_refl _ | (dsimp only; omega))⟩
  · obtain rfl : i = m := by omega
    rw [List.take_of_length_le (by omega)]
    refine Sm.seq ?_
    refine Sm.regionG hF rfl ?_
    refine SmG.v hF rfl rfl rfl (opV_bin rfl rfl rfl (by first | exact rd_lssT _ _ _ _ _ (by omega) | exact rd_lssF _ _ _ _ _ (by omega) | exact rb_lss _ _ _ _ _ _ _)) ?_
    refine SmG.nil ?_
    refine nextS_normal ?_
    refine Sm.seq ?_
    refine Sm.condF hF rfl ?_
    refine Sm.freeze (l := 0) _ rfl ?_
    simp only [Pk.v, frzE, frzV, dropH,  reduceIte, Nat.reduceAdd, Nat.zero_add, List.length_map, List.length_append, Nat.le_refl, true_and, and_self, if_true, Nat.reduceEqDiff, true_and]
    refine Sm.exit ?_
    simp only [nextS, blockS, reduceIte, reduceCtorEq]
    refine Sm.seq ?_
    refine Sm.regionG hF rfl ?_
    refine SmG.v hF rfl rfl rfl (opV_move rfl rfl) ?_
    refine SmG.v hF rfl rfl rfl (opV_assign rfl rfl) ?_
    refine SmG.nil ?_
    refine nextS_normal ?_
    refine Sm.ret ?_
    refine ⟨_, rfl, ?_⟩; dsimp only
    exact D.le.refl _
theorem cut17_D (n k : Int) (G : Nat → Option D) : CallsD Tryd.prog G 20 [.v (.int .i64 n), .v (.int .i64 k)] (partsD (cutL n k)) := by
  unfold cutL
  by_cases h : k < 1 ∨ n < 1 ∨ 4000 < n
  · rw [if_pos h]; exact cut_no n k (by omega) G
  · rw [if_neg h]
    have := cut_yes n.toNat (min n k).toNat k (by omega) (by omega) (by omega) (by omega) G
    rwa [Int.toNat_of_nonneg (by omega)] at this
end Go.Proofs.YtagfaaijgfigkaaDoor
