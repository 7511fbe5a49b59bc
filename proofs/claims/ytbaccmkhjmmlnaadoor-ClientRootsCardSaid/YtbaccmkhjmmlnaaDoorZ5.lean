/-
  Lemmas, part 5 of 8: walks through the program's functions, and plain Lean about what they compute.
-/
import Derived.RangeFuncSeq
import Derived.Laws.IdiomStrings
import Derived.LoopNIn
import Derived.Test.YtbaccmkhjmmlnaaDoorZ1
import Derived.Test.YtbaccmkhjmmlnaaDoorZ2
import Derived.Test.YtbaccmkhjmmlnaaDoorZ3
import Derived.Test.YtbaccmkhjmmlnaaDoorZ4
set_option linter.unnecessarySimpa false
set_option linter.unusedSimpArgs false
set_option linter.unusedVariables false
namespace Go.Proofs.YtbaccmkhjmmlnaaDoor
section
open Go.RowKit
def vm (C : aK) (base : Nat) (w : World) (v : Value) (sz : Nat) (rows : List (List D)) : Prop :=
 ∃ p a, v = .slice a rows.length p.cap ∧ (0 < p.cap → a = some ⟨p.b, 0, none⟩) ∧ BlkOk (base ≤ ·) (fun _ => none) C w p (dB sz rows)
def Pk.val : Pk → Value → List Value → Value
 | .one, s, _ => s
 | .tup, s, us => .tuple (s :: us).toArray
 | .agg, s, us => .agg (s :: us).toArray
def Pk.ok (C : aK) : Pk → List D → List Value → Prop
 | .one, _, _ => True
 | .tup, rest, us => Rp C (.outs rest us)
 | .agg, rest, us => Rp C (.vals rest us)
def Pk.d : Pk → D → List D → D
 | .one, x, _ => x
 | .tup, x, rest => .tup (x :: rest)
 | .agg, x, rest => .agg (rest.length + 1) (x :: rest)
def eQ (P : Program) (G : Nat → Option D) (f : FuncId) (ds : List D) (pk : Pk) (sz : Nat) (rows : List (List D)) (rest : List D) : Prop :=
 ∀ C w vs, i6 G C → bW C w → Rp C (.outs ds vs) → Calls P f vs.toArray w fun e w' => ∃ s us C', e = .returned (pk.val s us) ∧ More w C w' C' ∧ vm C' w.heap.size w' s sz rows ∧ pk.ok C' rest us
section
variable {F : Fr} {st : St} {μ : Nat → Option Place} {C : aK} {a : Act} {w : World}
theorem Sim.adopt (h : Sim F st μ C a w) {w' : World} {C' : aK} (hm : More w C w' C') {m n' : Nat} (hfree : μ m = none) (hmn : m < n') (hn : st.nx ≤ n') {p : Place} {sz : Nat} {rows : List (List D)} (ho : BlkOk (w.heap.size ≤ ·) (fun _ => none) C' w' p (dB sz rows)) :
  Sim F { st with h := (m, dB sz rows) :: st.h, nx := n' } (fun l => if l = m then some p else μ l) C' a w' := by
 have hμ : ∀ l q, μ l = some q → (fun l => if l = m then some p else μ l) l = some q := by
  intro l q hq
  have : l ≠ m := fun e => by rw [e, hfree] at hq; cases hq
  simp [this, hq]
 have h1 := h.more hm
 refine ⟨h1.size, h1.defers, h1.below, h1.sub, h1.new, h1.known, fun t x hx => (h1.env t x hx).mono hμ (fun _ _ _ h => h), ?_, ?_, ?_, F.stab h.gh (lK h _ p hfree hμ (by simp) (fun hc => (ho.cells hc).1) (fun l hl => by simp [hl]) hm)⟩
 ·intro l k hk
  simp only [look] at hk
  by_cases hl : m = l
  ·subst hl
   rw [if_pos rfl] at hk
   cases hk
   refine ⟨p, by simp, ho.sz, ho.len, ho.max, ho.row, fun hc => ?_⟩
   obtain ⟨b1, b2, cur, T, b3, b4, b5⟩ := ho.cells hc
   exact ⟨.inl (Nat.le_trans h.below.size b1), b2, cur, T, b3, b4, b5.mono (fun l p h => by cases h) (fun _ _ _ h => h)⟩
  ·rw [if_neg hl] at hk
   obtain ⟨q, hq, hb⟩ := h1.heap l k hk
   refine ⟨q, hμ l q hq, hb.sz, hb.len, hb.max, hb.row, fun hc => ?_⟩
   obtain ⟨a1, a2, cur', T', a3, a4, a5⟩ := hb.cells hc
   exact ⟨a1, a2, cur', T', a3, a4, a5.mono hμ (fun _ _ _ h => h)⟩
 ·intro l l' q q' hl hl' hq hq' hc hc' hb
  simp only [look] at hl hl'
  have hlt : ∀ l q, (look st.h l).isSome = true → μ l = some q → 0 < q.cap → q.b < w.heap.size := by
   intro l q hl hq hc
   obtain ⟨k, hk⟩ := Option.isSome_iff_exists.1 hl
   obtain ⟨q2, hq2, hb2⟩ := h.heap l k hk
   rw [hq] at hq2; cases hq2
   exact hb2.lt hc
  by_cases e : l = m <;> by_cases e' : l' = m
  ·rw [e, e']
  ·rw [if_neg (Ne.symm e')] at hl'
   simp only [if_pos e, if_neg e'] at hq hq'
   cases hq
   have := hlt l' q' hl' hq' hc'
   have : w.heap.size ≤ p.b := (ho.cells hc).1
   omega
  ·rw [if_neg (Ne.symm e)] at hl
   simp only [if_neg e, if_pos e'] at hq hq'
   cases hq'
   have := hlt l q hl hq hc
   have : w.heap.size ≤ p.b := (ho.cells hc').1
   omega
  ·rw [if_neg (Ne.symm e)] at hl
   rw [if_neg (Ne.symm e')] at hl'
   simp only [if_neg e, if_neg e'] at hq hq'
   exact h.inj l l' q q' hl hl' hq hq' hc hc' hb
 ·intro l hl
  have hl' : n' ≤ l := hl
  have : l ≠ m := by omega
  simp only [if_neg this]
  exact h.nx l (by omega)
theorem wm {pk : Pk} {m : Nat} {n : Nat} {rest : List D} {p : Place} {ao : Option Addr} {us : List Value} {μ : Nat → Option Place} (hp : μ m = some p) (hn : n ≤ p.cap) (hao : 0 < p.cap → ao = some ⟨p.b, 0, none⟩) (hok : pk.ok C rest us) : aN μ C (pk.v m n rest) (pk.val (.slice ao n p.cap) us) := by
 cases pk with
 | one => exact ⟨p, ao, hp, by simp [Pk.val], by simpa using hn, by simpa using hao⟩
 | tup => exact ⟨p, ao, us, hp, hn, hao, by rw [if_pos rfl]; exact ⟨hok, rfl⟩⟩
 | agg => exact ⟨p, ao, us, hp, hn, hao, by rw [if_neg (by simp)]; exact ⟨hok, rfl⟩⟩
end
section
variable {P : Program} {G : Nat → Option D} {N : Nat} {F : Fr} {ops : Array Oper} {rest : List Oper} {o : Oper} {Q : Exit → St → Prop} {st : St} {pk : Pk} {sz : Nat} {rows : List (List D)} {rs : List D}
theorem SmL.callO (hF : Env F P G N) (hN : St.small N st) {f : FuncId} {xs : Array Operand} {ts : Array TypeId} {t : Tmp} {ds : List D} (hg : bU ops st.env o.guard = some true) (ho : o.op = .call ⟨.value (.func f), xs, ts⟩) (hd : o.dst = some t) (hb : e9 P f = true)
  (hargs : b7 (evD G st.env) xs.toList = some ds) (ht : t < N) (hc : eQ P G f ds pk sz rows rs)
  (k : SmL F ops rest Q ⟨(t, pk.v st.nx rows.length rs) :: st.env, (st.nx, dB sz rows) :: st.h, st.nx + 1⟩) : SmL F ops (o :: rest) Q st := by
 intro μ C a w hs
 obtain ⟨rfl, rfl, hG⟩ := hF
 have hev : ∀ x v, evD G st.env x = some v → aN μ C v (a.eval x) := fun x v h => eh hs hG h
 refine fV (fun _ => by rw [ho]; simp) fun K hK => ?_
 rw [dH hs hg hN, if_pos rfl]
 refine mO f (fun a w => kj hb a w) xs ts ho (xs.toList.map a.eval) rfl ?_
 refine (hc C w _ (hG.mono hs.sub) hs.known (kG hev hargs)).mono ?_
 rintro e w' ⟨s, us, C', rfl, hm, ⟨p, ao, rfl, hao, hB⟩, hok⟩
 have hs2 := hs.adopt hm (m := st.nx) (n' := st.nx + 1) (hs.nx _ (Nat.le_refl _)) (by omega) (by omega) hB
 refine ⟨_, rfl, by rw [hd]; exact hK _ _ (k _ C' _ w' (hs2.put ht (wm (by simp) (by simpa using hB.len) hao hok)))⟩
theorem gX.callO (hF : Env F P G N) {env : List (Nat × V)} {f : FuncId} {xs : Array Operand} {ts : Array TypeId} {ds : List D} (ho : o.op = .call ⟨.value (.func f), xs, ts⟩) (hb : e9 P f = true)
  (hargs : b7 (evD G env) xs.toList = some ds) (hc : eQ P G f ds pk sz rows rs) : gX F G o env (dB sz rows) (fun m => pk.v m rows.length rs) := by
 intro μ C a w nx' hh hs hop m hm hfree K Q hK
 obtain ⟨rfl, rfl, hG⟩ := hF
 have hxs : ∀ y ∈ xs.toList, ∀ v, evD G env y = some v → aN μ C v (a.eval y) := fun y hy v hv => hop y (by rw [ho]; simp [Op.operands, Call.operands]; exact .inr (by simpa using hy)) v hv
 have hrep : ∀ {ys : List Operand} {es : List D}, (∀ y ∈ ys, ∀ v, evD G env y = some v → aN μ C v (a.eval y)) → b7 (evD G env) ys = some es → Rp C (.outs es (ys.map a.eval)) := by
  intro ys
  induction ys with
  | nil => intro es _ h; cases h; exact .onil
  | cons y ys ih =>
   intro es hy h
   simp only [b7, Option.bind_eq_some_iff] at h
   obtain ⟨v, hv, h⟩ := h
   split at h
   ·rename_i d
    simp only [Option.map_eq_some_iff] at h
    obtain ⟨r, hr, rfl⟩ := h
    exact .ocons _ _ _ _ (hy y (by simp) _ hv) (ih (fun z hz => hy z (by simp [hz])) hr)
   ·cases h
 refine mO f (fun a w => kj hb a w) xs ts ho (xs.toList.map a.eval) rfl ?_
 refine (hc C w _ (hG.mono hs.sub) hs.known (hrep hxs hargs)).mono ?_
 rintro e w' ⟨s, us, C', rfl, hm', ⟨p, ao, rfl, hao, hB⟩, hok⟩
 have hs2 := hs.adopt hm' (m := m) (n' := nx') hfree hm (Nat.le_refl _) hB
 refine ⟨_, rfl, hK _ _ _ C' hs2 hm'.sub (fun l q hq => ?_) (fun l hl => by simp [hl]) (wm (by simp) (by simpa using hB.len) hao hok)⟩
 have : l ≠ m := fun e => by rw [e, hfree] at hq; cases hq
 simp [this, hq]
end
section
variable {P : Program} {G : Nat → Option D} {N : Nat} {F : Fr} {ops rest : List Oper} {o : Oper} {Q : Exit → St → Prop} {env : List (Nat × V)} {h : List (Nat × Blk)} {nx : Nat} {al : List (Nat × Blk)} {K : List (Nat × V) → List (Nat × Blk) → Nat → Prop} {pk : Pk} {sz : Nat} {rows : List (List D)} {rs : List D}
theorem SmG.callO (hF : Env F P G N) {f : FuncId} {xs : List Operand} {ts : Array TypeId} {t : Tmp} {ds : List D} (ho : o.op = .call ⟨.value (.func f), xs.toArray, ts⟩) (hd : o.dst = some t) (hb : e9 P f = true) (ht : Nat.blt t N = true)
  (hg : bz ops env o.guard = some true) (hargs : b7 (evB G env) xs = some ds) (hc : eQ P G f ds pk sz rows rs)
  (k : SmG F N ops rest Q ⟨(t, pk.v nx rows.length rs) :: env, (nx, dB sz rows) :: h, nx + 1⟩) : SmG F N ops (o :: rest) Q ⟨env, h, nx⟩ := by
 have ht' : t < N := by simpa [Nat.blt_eq] using ht
 intro hs
 exact SmL.callO hF hs (bN hg) ho hd hb (j6 (by simpa using hargs)) ht' hc (k (dK hs ht'))
end
theorem vm.data {C : aK} {base : Nat} {w : World} {v : Value} {sz : Nat} {rows : List (List D)} (hk : bW C w) (ho : vm C base w v sz rows) : ∃ C', (∀ b o u, C b o u → C' b o u) ∧ (∀ b o u, C' b o u → C b o u ∨ base ≤ b) ∧ bW C' w ∧ Rep C' (.list sz rows false) v := by
 obtain ⟨p, ao, rfl, hao, hb⟩ := ho
 refine ⟨fun b o u => C b o u ∨ (0 < p.cap ∧ b = p.b ∧ w.cell? ⟨p.b, o, none⟩ = some u), fun b o u h => .inl h, ?_, ?_, ?_⟩
 ·rintro b o u (h | ⟨h1, rfl, _⟩)
  ·exact .inl h
  ·exact .inr (hb.cells h1).1
 ·rintro b o u (h | ⟨h1, rfl, h2⟩)
  ·exact hk b o u h
  ·exact .inl h2
 ·have hlen : rows.length ≤ p.cap := by simpa using hb.len
  by_cases hr0 : rows = []
  ·subst hr0
   refine .nil _ _ _ _ ⟨Nat.zero_le _, by simp, hb.max, fun hn => ?_, fun x hx hpos => ?_⟩
   ·rcases Nat.eq_zero_or_pos p.cap with h0 | h0
    ·exact h0
    ·rw [hao h0] at hn; cases hn
   ·rw [hao hpos] at hx; cases hx; rfl
  ·have hpos : 0 < rows.length := List.length_pos_iff.2 hr0
   have hcap : 0 < p.cap := by omega
   obtain rfl := hao hcap
   refine .list _ _ _ _ _ _ hr0 ⟨hlen, by simp, hb.max, fun h => (by cases h), fun x h _ => by cases h; rfl⟩ (jt fun i x hi => ?_)
   have hrow : (rows.map fun r => r.map V.d)[i]? = some (x.map V.d) := by simp [hi]
   refine ⟨by simpa using hb.row _ (List.mem_of_getElem? hrow), iJ fun j d hj => ?_⟩
   obtain ⟨_, _, cur, T, h3, h4, h5⟩ := hb.cells hcap
   obtain ⟨u, g1, g2, g3⟩ := h5 i _ hrow j (.d d) (by simp [hj])
   have hc : w.cell? ⟨p.b, 0 + i * sz + j, none⟩ = some u := by
    rw [Nat.zero_add]
    simp [World.cell?, h3]
    simpa using g1
   exact ⟨u, .inr ⟨hcap, rfl, hc⟩, g2, Rp.mono (fun _ _ _ h => .inl h) g3⟩
theorem eQ.data {P : Program} {G : Nat → Option D} {f : FuncId} {ds : List D} {pk : Pk} {sz : Nat} {rows : List (List D)} {rest : List D} (h : eQ P G f ds pk sz rows rest) : aj P G f ds (pk.d (.list sz rows false) rest) := by
 intro C w vs hG hk ha
 refine (h C w vs hG hk ha).mono ?_
 rintro e w' ⟨s, us, C', rfl, hm, ho, hok⟩
 obtain ⟨C2, k1, k2, k3, k4⟩ := ho.data hm.known
 refine ⟨_, C2, rfl, ⟨hm.below, fun b o u hc => k1 _ _ _ (hm.sub _ _ _ hc), fun b o u hc => (k2 _ _ _ hc).elim (hm.new b o u) .inr, k3⟩, ?_⟩
 cases pk with
 | one => exact k4
 | tup => exact .tup _ _ (.ocons _ _ _ _ k4 (Rp.mono k1 hok))
 | agg =>
  refine .agg _ _ _ (by simp) (.vcons _ _ _ _ ?_ k4 (Rp.mono k1 hok))
  obtain ⟨p, ao, rfl, _⟩ := ho
  rfl
def od (P : Program) (pk : Pk) (st : St) (rs : List ResultVar) : Option V :=
 match pk with
 | .tup => match rs with
  | r :: rs => (iP P st r).bind fun v => match v with
   | .sref l 0 n => if rs.isEmpty then none else (jK P st rs).map fun ds => .mix true l n ds
   | _ => none
  | _ => none
 | _ => match rs with
  | [r] => iP P st r
  | _ => none
def Ab (P : Program) (fn : Func) (pk : Pk) (sz : Nat) (rows : List (List D)) (rest : List D) : Exit → St → Prop
 | .ret, st | .normal, st => ∃ l, od P pk st fn.results.toList = some (pk.v l rows.length rest) ∧ look st.h l = some (dB sz rows)
 | _, _ => False
section
variable {P : Program} {G : Nat → Option D} {N : Nat} {F : Fr} {st : St} {μ : Nat → Option Place} {C : aK} {a : Act} {w : World}
theorem rA (hs : Sim F st μ C a w) {r : ResultVar} {v : V} (hv : iP F.P st r = some v) :
  ∃ u, ((match r with | .tmp t => pure (a.tmps.getD t undef) | .cell p t => do loadVar t (← asAddr (a.tmps.getD p undef)) : Sem Value)).run F.P w = .ok u w ∧ aN μ C v u := by
 cases r with
 | tmp t => exact ⟨_, rfl, hs.env t _ hv⟩
 | cell p ty =>
  simp only [iP, Option.bind_eq_some_iff] at hv
  obtain ⟨x, hx, hl⟩ := hv
  obtain ⟨u, a1, a2⟩ := pU hs (hs.env p x hx) hl
  refine ⟨u, ?_, a2⟩
  have hp := hs.env p x hx
  show ((do loadVar ty (← asAddr (a.tmps.getD p undef)) : Sem Value)).run F.P w = .ok u w
  generalize a.tmps.getD p undef = q at a1 hp ⊢
  cases q with
  | pointer b =>
   cases b with
   | some b => simpa [Instr.loadAt, Instr.sureAddr, asAddr, Sem.run_bind, Result.andThen] using a1
   | none => simp [Instr.loadAt, Instr.sureAddr, stuck, Sem.run_bind, Result.andThen, Sem.run] at a1
  | _ => simp [Instr.loadAt, Instr.sureAddr, stuck, Sem.run_bind, Result.andThen, Sem.run] at a1
theorem lk {fn : Func} {us : List Value} (h1 : ((fn.results.toList.mapM fun (r : ResultVar) => (match r with | .tmp t => pure (a.tmps.getD t undef) | .cell p t => do loadVar t (← asAddr (a.tmps.getD p undef)) : Sem Value))).run P w = .ok us w) :
  (results fn a.tmps).run P w = .ok (if h : us.toArray.size = 1 then us.toArray[0] else .tuple us.toArray) w := by
 unfold results
 rw [Array.mapM_eq_mapM_toList]
 simp only [Sem.run_bind]
 have : (List.toArray <$> (fn.results.toList.mapM fun (r : ResultVar) => (match r with | .tmp t => pure (a.tmps.getD t undef) | .cell p t => do loadVar t (← asAddr (a.tmps.getD p undef)) : Sem Value))).run P w = .ok us.toArray w := by
  show ((fn.results.toList.mapM fun (r : ResultVar) => (match r with | .tmp t => pure (a.tmps.getD t undef) | .cell p t => do loadVar t (← asAddr (a.tmps.getD p undef)) : Sem Value)).bind fun x => Sem.pure x.toArray).run P w = _
  have hb := Sem.run_bind' P (fn.results.toList.mapM fun (r : ResultVar) => (match r with | .tmp t => pure (a.tmps.getD t undef) | .cell p t => do loadVar t (← asAddr (a.tmps.getD p undef)) : Sem Value)) (fun x => Sem.pure x.toArray) w
  rw [hb, h1]
  rfl
 erw [this]
 rfl
theorem uQ (hs : Sim F st μ C a w) {fn : Func} {pk : Pk} {v : V} (hv : od F.P pk st fn.results.toList = some v) : ∃ u, (results fn a.tmps).run F.P w = .ok u w ∧ aN μ C v u := by
 have one : ∀ {r : ResultVar}, fn.results.toList = [r] → iP F.P st r = some v → ∃ u, (results fn a.tmps).run F.P w = .ok u w ∧ aN μ C v u := by
  intro r hr hv
  obtain ⟨u, h1, h2⟩ := rA hs hv
  refine ⟨u, ?_, h2⟩
  have := lk (P := F.P) (fn := fn) (a := a) (w := w) (us := [u]) (by rw [hr]; simp only [List.mapM_cons, List.mapM_nil, Sem.run_bind, h1, Result.andThen_ok, Sem.run_pure])
  simpa using this
 unfold od at hv
 split at hv
 ·split at hv
  ·rename_i r rs hr
   simp only [Option.bind_eq_some_iff] at hv
   obtain ⟨x, hx, hv⟩ := hv
   obtain ⟨u, h1, h2⟩ := rA hs hx
   split at hv
   ·rename_i l n
    split at hv
    ·cases hv
    ·rename_i hne
     simp only [Option.map_eq_some_iff] at hv
     obtain ⟨ds, hds, rfl⟩ := hv
     obtain ⟨us, g1, g2⟩ := oh hs hds
     have hul : us ≠ [] := by
      intro e; subst e
      cases rs with
      | nil => simp at hne
      | cons r' rs =>
       have := iB g2
       simp only [jK, Option.bind_eq_some_iff, Option.map_eq_some_iff] at hds
       obtain ⟨_, _, _, _, _, _, rfl⟩ := hds
       simp at this
     have := lk (P := F.P) (fn := fn) (a := a) (w := w) (us := u :: us) (by rw [hr]; simp only [List.mapM_cons, Sem.run_bind, h1, Result.andThen_ok]; erw [g1]; rfl)
     obtain ⟨p, ao, q1, rfl, q3, q4⟩ := h2
     refine ⟨_, this, p, ao, us, q1, by simpa using q3, by simpa using q4, ?_⟩
     rw [if_pos rfl]
     refine ⟨g2, ?_⟩
     cases us with
     | nil => exact absurd rfl hul
     | cons u2 us => simp
   ·cases hv
  ·cases hv
 ·split at hv
  ·rename_i r hr; exact one hr hv
  ·cases hv
theorem eQ.of {f : FuncId} {fn : Func} {c : Code} {ds : List D} {pk : Pk} {sz : Nat} {rows : List (List D)} {rest : List D} (hf : P.funcs[f]? = some fn) (hb : fn.body = some c) (hN : fn.ntmps = N) (hp : ds.length ≤ N)
  (h : ∀ F, Env F P G N → F.n0 = 0 → F.top → Sm F c (Ab P fn pk sz rows rest) ⟨ds.zipIdx.map fun e => (e.2, .d e.1), [], 0⟩) : eQ P G f ds pk sz rows rest := by
 intro C w vs hG hk ha
 have hvl : vs.length = ds.length := iB ha
 let F : Fr := ⟨P, N, w, C, fun _ => False, none, 0, fun _ _ _ _ _ => True, fun _ _ => trivial⟩
 have hsz : (vs.toArray ++ Array.replicate (fn.ntmps - vs.toArray.size) undef).size = N := by simp; omega
 have hlook : ∀ (ds : List D) (k : Nat) (t : Nat) (x : V), look ((ds.zipIdx k).map fun e => (e.2, V.d e.1)) t = some x → ∃ d, x = .d d ∧ k ≤ t ∧ ds[t - k]? = some d := by
  intro ds
  induction ds with
  | nil => intro k t x h; simp [look] at h
  | cons d ds ih =>
   intro k t x h
   simp only [List.zipIdx_cons, List.map_cons, look] at h
   split at h
   ·rename_i e; cases h; subst e; exact ⟨d, rfl, Nat.le_refl _, by simp⟩
   ·obtain ⟨d', rfl, h1, h2⟩ := ih _ _ _ h
    refine ⟨d', rfl, by omega, ?_⟩
    rw [show t - k = (t - (k + 1)) + 1 by omega]; simpa using h2
 have hsim : Sim F ⟨ds.zipIdx.map fun e => (e.2, .d e.1), [], 0⟩ (fun _ => none) C { tmps := vs.toArray ++ Array.replicate (fn.ntmps - vs.toArray.size) undef, defers := [] } w := by
  refine ⟨hsz, .nil _ _, Kept.refl _ _, fun _ _ _ h => h, fun _ _ _ h => .inl h, hk, fun t x hx => ?_, fun l k hk => by simp [look] at hk, fun l l' p p' h => by simp [look] at h, fun _ _ => rfl, trivial⟩
  obtain ⟨d, rfl, _, hd⟩ := hlook ds 0 t x hx
  rw [Nat.sub_zero] at hd
  obtain ⟨v, h1, h2⟩ := lF ha t d hd
  have htl := (List.getElem?_eq_some_iff.1 h1).1
  have : (vs.toArray ++ Array.replicate (fn.ntmps - vs.toArray.size) undef).getD t undef = v := by
   rw [Array.getD_eq_getD_getElem?, Array.getElem?_append_left (by simpa using htl)]
   simp [h1]
  show Rep C d _
  rw [this]; exact h2
 refine kr (F := F) rfl rfl hf hb (h F ⟨rfl, rfl, hG⟩ rfl ⟨rfl, fun _ _ _ _ _ _ _ _ _ => trivial⟩) hsim (fun e st' hq => by cases e <;> first | exact .inl rfl | exact .inr rfl | exact hq.elim) ?_
 intro e st' μ' C' _ _ hq _ a w' _ hs
 have fin : (∃ l, od P pk st' fn.results.toList = some (pk.v l rows.length rest) ∧ look st'.h l = some (dB sz rows)) → ∃ v, (results fn a.tmps).run P w' = .ok v w' ∧ ∃ s us C', Ending.returned v = .returned (pk.val s us) ∧ More w C w' C' ∧ vm C' w.heap.size w' s sz rows ∧ pk.ok C' rest us := by
  rintro ⟨l, hv, hl⟩
  obtain ⟨u, h1, h2⟩ := uQ hs hv
  rw [show F.free.P = P from rfl] at h1
  have hm : More w C w' C' := ⟨hs.below.below, hs.sub, fun b o u h => (hs.new b o u h).imp id fun h => h.resolve_right (by simp [F, Fr.free]), hs.known⟩
  obtain ⟨p, hp, hB⟩ := hs.heap l _ hl
  have hB' : BlkOk (w.heap.size ≤ ·) (fun _ => none) C' w' p (dB sz rows) := by
   refine ⟨hB.sz, hB.len, hB.max, hB.row, fun hc => ?_⟩
   obtain ⟨b1, b2, cur, T, b3, b4, b5⟩ := hB.cells hc
   refine ⟨b1.resolve_right (by simp [F, Fr.free]), b2, cur, T, b3, b4, fun i r hr j x hj => ?_⟩
   obtain ⟨u, g1, g2, g3⟩ := b5 i r hr j x hj
   refine ⟨u, g1, g2, ?_⟩
   have hr' : ∃ r0 : List D, r = r0.map V.d := by
    have := List.mem_of_getElem? hr
    obtain ⟨r0, _, e⟩ := List.mem_map.1 this
    exact ⟨r0, e.symm⟩
   obtain ⟨r0, rfl⟩ := hr'
   rw [List.getElem?_map] at hj
   cases hd : r0[j]? with
   | none => rw [hd] at hj; cases hj
   | some d => rw [hd] at hj; cases hj; exact g3
  cases pk with
  | one =>
   obtain ⟨q, ao, q1, rfl, q3, q4⟩ := h2
   rw [hp] at q1; cases q1
   exact ⟨_, h1, _, [], C', rfl, hm, ⟨p, ao, by simp, by simpa using q4, hB'⟩, trivial⟩
  | tup =>
   obtain ⟨q, ao, us, q1, q2, q3, q4⟩ := h2
   rw [hp] at q1; cases q1
   rw [if_pos rfl] at q4
   obtain ⟨q4, rfl⟩ := q4
   exact ⟨_, h1, _, us, C', rfl, hm, ⟨p, ao, rfl, q3, hB'⟩, q4⟩
  | agg =>
   obtain ⟨q, ao, us, q1, q2, q3, q4⟩ := h2
   rw [hp] at q1; cases q1
   rw [if_neg (by simp)] at q4
   obtain ⟨q4, rfl⟩ := q4
   exact ⟨_, h1, _, us, C', rfl, hm, ⟨p, ao, rfl, q3, hB'⟩, q4⟩
 cases e <;> first | exact fin hq | exact hq.elim
end
theorem aj.args {P : Program} {G : Nat → Option D} {f : FuncId} {ds ds' : List D} {r : D} (h : aj P G f ds' r) (hd : ∀ C vs, Rp C (.outs ds vs) → Rp C (.outs ds' vs)) : aj P G f ds r := fun C w vs hG hk ha => h C w vs hG hk (hd C vs ha)
theorem ux {C : aK} {d d' : D} {ds ds' : List D} (h : d.le d') (k : ∀ vs, Rp C (.outs ds vs) → Rp C (.outs ds' vs)) : ∀ vs, Rp C (.outs (d :: ds) vs) → Rp C (.outs (d' :: ds') vs) := by
 intro vs hv
 cases hv with | ocons _ v _ vs h1 h2 => exact .ocons _ _ _ _ (h C v h1) (k vs h2)
theorem xb {C : aK} (ds : List D) : ∀ vs, Rp C (.outs ds vs) → Rp C (.outs ds vs) := fun _ h => h
theorem ek {P : Program} {s d : TypeId} {td : TypeDesc} {k k2 : IntKind} {n : Int} (h1 : P.underlying s = some td) (h2 : P.underlying d = some (.int k)) (hw : k.wrap n = n) : gU P s d (.d (.v (.int k2 n))) = some (.d (.v (.int k n))) := by
 simp only [gU, sU P k n s d h1 h2 k2, hw, Option.map_some]
def V.lt (n : Nat) : V → Bool
 | .d _ => true
 | .ref l .. => decide (l < n)
 | .sref l .. => decide (l < n)
 | .aref l .. => decide (l < n)
 | .mix _ l .. => decide (l < n)
 | .gh _ => decide (0 < n)
 | .any => true
def qY (n : Nat) : List (Nat × V) → List (Nat × V)
 | [] => []
 | (t, x) :: r => (t, if x.lt n then x else .any) :: qY n r
theorem l6 (n : Nat) : ∀ (env : List (Nat × V)) (t : Nat), look (qY n env) t = (look env t).map fun x => if x.lt n then x else .any
 | [], _ => rfl
 | (k, x) :: r, t => by
  simp only [qY, look]
  split
  ·rfl
  ·exact l6 n r t
def om (n : Nat) : List (Nat × Blk) → List (Nat × Blk)
 | [] => []
 | (l, k) :: r => if l < n then (l, k) :: om n r else om n r
theorem iK (n : Nat) : ∀ (h : List (Nat × Blk)) (l : Nat), look (om n h) l = if l < n then look h l else none
 | [], l => by simp [om, look]
 | (k, x) :: r, l => by
  simp only [om]
  split
  ·rename_i hk
   simp only [look]
   split
   ·rename_i e; subst e; rw [if_pos hk]
   ·exact iK n r l
  ·rename_i hk
   rw [iK n r l]
   simp only [look]
   split
   ·rename_i hl; have hne : k ≠ l := by omega
    rw [if_neg hne]
   ·rfl
def ltH (n : Nat) (h : List (Nat × Blk)) : Prop := ∀ l k, l < n → look h l = some k → ∀ r ∈ k.rows, ∀ x ∈ r, V.lt n x = true
theorem zi (n : Nat) : ltH n [] := fun l k _ h => by simp [look] at h
theorem tq {n m : Nat} {k : Blk} {h : List (Nat × Blk)} (f : ltH n h) (hr : ∀ r ∈ k.rows, ∀ x ∈ r, V.lt n x = true) : ltH n ((m, k) :: h) := fun l k' hl hk => by
 simp only [look] at hk
 split at hk
 ·cases hk; exact hr
 ·exact f l k' hl hk
theorem yk {n m : Nat} {k : Blk} {h : List (Nat × Blk)} (f : ltH n h) (hm : n ≤ m) : ltH n ((m, k) :: h) := fun l k' hl hk => by
 simp only [look] at hk
 split at hk
 ·omega
 ·exact f l k' hl hk
theorem Cf (n sz : Nat) (rows : List (List D)) : ∀ r ∈ (dB sz rows).rows, ∀ x ∈ r, V.lt n x = true := by
 intro r hr x hx
 obtain ⟨r', _, rfl⟩ := List.mem_map.1 hr
 obtain ⟨d, _, rfl⟩ := List.mem_map.1 hx
 rfl
theorem tK {n : Nat} {x : V} (h : x.lt n = true) {μ μ' : Nat → Option Place} (hμ : ∀ l, l < n → μ' l = μ l) {C : aK} {v : Value} (hr : aN μ C x v) : aN μ' C x v := by
 cases x with
 | d => exact hr
 | ref l i off => obtain ⟨p, h1, h2⟩ := hr; exact ⟨p, by rw [hμ l (by simpa [V.lt] using h)]; exact h1, h2⟩
 | sref l lo len => obtain ⟨p, ao, h1, h2⟩ := hr; exact ⟨p, ao, by rw [hμ l (by simpa [V.lt] using h)]; exact h1, h2⟩
 | aref l i off es len cap => obtain ⟨p, ao, h1, h2⟩ := hr; exact ⟨p, ao, by rw [hμ l (by simpa [V.lt] using h)]; exact h1, h2⟩
 | mix tup l k rest => obtain ⟨p, ao, us, h1, h2⟩ := hr; exact ⟨p, ao, us, by rw [hμ l (by simpa [V.lt] using h)]; exact h1, h2⟩
 | any => trivial
 | gh m => obtain ⟨sz, h1⟩ := hr; exact ⟨sz, by rw [hμ 0 (by simpa [V.lt] using h)]; exact h1⟩
theorem oQ {F : Fr} {st : St} (n : Nat) (hh : ltH n st.h) (hn : F.n0 ≤ n) : St.to F st ⟨qY n st.env, om n st.h, n⟩ := by
 intro μ C a w hs
 refine ⟨fun l => if l < n then μ l else none, C, hs.size, hs.defers, hs.below, hs.sub, hs.new, hs.known, fun t x hx => ?_, fun l k hk => ?_, fun l l' p p' h1 h2 g1 g2 => ?_, fun l hl => ?_, F.stab hs.gh ⟨rfl, rfl, rfl, Nat.le_refl _, fun l p hl hp => by rw [if_pos (by omega)]; exact hp, fun l hl => .inl (by simp only [iK] at hl; split at hl <;> first | exact hl | cases hl), fun _ _ _ => rfl, fun b ⟨l, k, p, g1, g2, g3⟩ => ?_, fun _ _ _ h => h, fun _ _ _ h => .inl h, hs.known⟩⟩
 ·rw [l6] at hx
  cases hq : look st.env t with
  | none => rw [hq] at hx; cases hx
  | some y =>
   rw [hq] at hx
   simp only [Option.map_some, Option.some.injEq] at hx
   subst hx
   split
   ·rename_i hl; exact tK hl (fun l hl => by simp [hl]) (hs.env t y hq)
   ·trivial
 ·rw [iK] at hk
  split at hk
  ·rename_i hl
   obtain ⟨p, hp, hb⟩ := hs.heap l k hk
   refine ⟨p, by simp [hl, hp], hb.sz, hb.len, hb.max, hb.row, fun hc => ?_⟩
   obtain ⟨b1, b2, cur, T, b3, b4, b5⟩ := hb.cells hc
   refine ⟨b1, b2, cur, T, b3, b4, fun i r hr j x hx => ?_⟩
   obtain ⟨u, g1, g2, g3⟩ := b5 i r hr j x hx
   exact ⟨u, g1, g2, tK (hh l k hl hk r (List.mem_of_getElem? hr) x (List.mem_of_getElem? hx)) (fun l hl => by simp [hl]) g3⟩
  ·cases hk
 ·rw [iK] at h1 h2
  split at h1
  ·rename_i hl
   split at h2
   ·rename_i hl'
    simp only [if_pos hl] at g1
    simp only [if_pos hl'] at g2
    exact hs.inj l l' p p' h1 h2 g1 g2
   ·cases h2
  ·cases h1
 ·have hl' : n ≤ l := hl
  simp [show ¬ l < n by omega]
 ·rw [iK] at g1
  split at g1
  ·rename_i hl
   simp only [if_pos hl] at g2
   exact .inl ⟨l, k, p, g1, g2, g3⟩
  ·cases g1
section
variable {P : Program} {G : Nat → Option D} {N : Nat} {F : Fr} {ops rest : List Oper} {Q : Exit → St → Prop} {env : List (Nat × V)} {h : List (Nat × Blk)} {nx : Nat} {c : Code}
theorem Sm.cut (n : Nat) (hh : ltH n h) (k : Sm F c Q ⟨qY n env, om n h, n⟩) (hn : F.n0 ≤ n := by omega) : Sm F c Q ⟨env, h, nx⟩ := Sm.to (oQ (st := ⟨env, h, nx⟩) n hh hn) k
theorem SmG.cut (n : Nat) (hh : ltH n h) (k : SmG F N ops rest Q ⟨qY n env, om n h, n⟩) (hn : F.n0 ≤ n := by omega) : SmG F N ops rest Q ⟨env, h, nx⟩ := by
 intro hsm
 refine SmL.to (oQ (st := ⟨env, h, nx⟩) n hh hn) (k ?_)
 intro s y hy
 simp only [l6] at hy
 cases hq : look env s with
 | none => rw [hq] at hy; cases hy
 | some y' => exact hsm s y' hq
end
theorem gn {α β : Type} (f : α → β) (n : Nat) (l : List α) : List.take n (List.map f l) = List.map f (List.take n l) := by rw [List.map_take]
theorem js {α β : Type} (f : α → β) (n : Nat) (l : List α) : List.drop n (List.map f l) = List.map f (List.drop n l) := by rw [List.map_drop]
section
variable {P : Program} {G : Nat → Option D} {env : List (Nat × V)} {h : List (Nat × Blk)} {o : Oper}
end
theorem il {P : Program} {fn : Func} {p : Tmp} {ty : TypeId} {st : St} {x : V} {v d : D} (hr : fn.results = #[.cell p ty]) (hx : cw st.env p = some x) (hl : fy P st.h ty x = some (.d v)) (hle : v.le d) : vQ P fn d .ret st := by
 refine ⟨v, ?_, hle⟩
 rw [bV] at hx
 simp only [ni, hr, jK, iP, hx, hl, Option.bind_some, sc, Option.map_some]
attribute [go_sem] ph rep qi kx tf Pk.v List.getElem?_toArray List.getElem_toArray List.getElem_cons_succ List.getElem_cons_zero iA
end
section
open Go.RowKit
section
variable {P : Program} {h : List (Nat × Blk)} {t : TypeId} {l i off m sz : Nat} {rows rows' : List (List V)} {r : List V}
theorem bZ {x : V} (hl : cw h l = some ⟨sz, rows⟩) (hr : rows[i]? = some r) (ha : au P t = some false) (hx : r[off]? = some x) : fy P h t (.ref l i off) = some x := by
 rw [bV] at hl
 simp only [fy, hl, Option.bind_some, hr, ha, hx]
theorem aG {ds : List D} (hl : cw h l = some ⟨sz, rows⟩) (hr : rows[i]? = some r) (ha : au P t = some true) (hs : ah P t = some m) (hb : Nat.ble (off + m) sz = true) (hp : ij (seg r sz off m) = some ds) : fy P h t (.ref l i off) = some (.d (.agg m ds)) := by
 rw [bV] at hl
 have hb' := Nat.le_of_ble_eq_true hb
 simp only [fy, hl, Option.bind_some, hr, ha, hs, hb', if_true, hp]
theorem cM {x y : V} (hl : cw h l = some ⟨sz, rows⟩) (hr : rows[i]? = some r) (hc : kR x = some (1, [y])) (hs : ah P t = some 1) (hb : Nat.ble (off + 1) sz = true) (hlen : r.length = sz) (hk : rows.set i (r.set off y) = rows') : fZ P h t (.ref l i off) x = some (.upd l ⟨sz, rows'⟩) := by
 rw [bV] at hl
 have hb' := Nat.le_of_ble_eq_true hb
 simp only [fZ, hl, Option.bind_some, hr, hc, hs, hb', and_self, if_true]
 rw [← hk]
 by_cases h0 : off = 0 ∧ 1 = sz
 ·rw [if_pos h0]
  obtain ⟨rfl, rfl⟩ := h0
  match r, hlen with
  | [z], _ => rfl
 ·rw [if_neg h0]
theorem bd {x : V} {ys : List V} (hl : cw h l = some ⟨sz, rows⟩) (hr : rows[i]? = some r) (hc : kR x = some (m, ys)) (hs : ah P t = some m) (hb : Nat.ble (off + m) sz = true) (hm : Nat.ble 2 m = true) (hlen : r.length = sz) (hy : ys.length = m) (hk : rows.set i (r.take off ++ ys ++ r.drop (off + m)) = rows') : fZ P h t (.ref l i off) x = some (.upd l ⟨sz, rows'⟩) := by
 rw [bV] at hl
 have hb' := Nat.le_of_ble_eq_true hb
 have hm' := Nat.le_of_ble_eq_true hm
 have hm1 : m ≠ 1 := by omega
 simp only [fZ, hl, Option.bind_some, hr, hc, hs, hb', and_self, if_true, if_neg hm1]
 rw [← hk]
 by_cases h0 : off = 0 ∧ m = sz
 ·rw [if_pos h0]
  obtain ⟨rfl, rfl⟩ := h0
  rw [List.take_zero, Nat.zero_add, List.drop_of_length_le (by omega)]; simp
 ·rw [if_neg h0]
theorem Ar {e : TypeId} {len lo j n : Nat} {k : Int} {iv : V} (hu : P.underlying t = some (.slice e)) (hs : ah P e = some sz) (hi : i8 iv = some k) (hl : cw h l = some ⟨sz, rows⟩) (h0 : 0 ≤ k) (h1 : k < (len : Int)) (hj : lo + k.toNat = j) : cz P h t (.sref l lo len) iv = some (.ref l j 0) := by
 rw [bV] at hl
 simp only [cz, hi, Option.bind_some, hu, hs, hl, h0, h1, and_self, if_true, hj]
inductive PartsQ (s : Nat) : Nat → List (Nat × V) → List (List D) → Prop
 | nil (k : Nat) : PartsQ s k [] []
 | cons {k : Nat} {x : V} {ys : List D} {r : List (Nat × V)} {yss : List (List D)} : ii s x = some ys → PartsQ s (k + 1) r yss → PartsQ s k ((k, x) :: r) (ys :: yss)
theorem DP {s : Nat} : ∀ {r : List (Nat × V)} {k : Nat} {yss rows : List (List D)}, PartsQ s k r yss → rows.length = k + r.length → iW s r rows = some (rows.take k ++ yss) := by
 intro r
 induction r with
 | nil => intro k yss rows h hl; cases h; simp at hl; simp only [iW]; rw [List.take_of_length_le (by omega)]; simp
 | cons e r ih =>
  intro k yss rows h hl
  cases h with
  | cons h1 h2 =>
   rename_i x ys yss
   have hk : k < rows.length := by rw [hl]; simp
   simp only [iW, h1, Option.bind_some, hk, if_true]
   rw [ih h2 (by rw [List.length_set, hl]; simp; omega)]
   rw [List.take_add_one, List.take_set_of_le (Nat.le_refl _)]
   simp [hk]
theorem PartsQ.length {s : Nat} : ∀ {r : List (Nat × V)} {k : Nat} {yss : List (List D)}, PartsQ s k r yss → yss.length = r.length := by
 intro r
 induction r with
 | nil => intro k yss h; cases h; rfl
 | cons e r ih => intro k yss h; cases h with | cons _ h => simp [ih h]
theorem aw {e : TypeId} {n s : Nat} {z : List D} {ps : List (Nat × V)} {yss : List (List D)} (hu : P.underlying t = some (.slice e)) (hs : ah P e = some s) (hz : aq P e = some z) (hzl : z.length = s) (hn : (Nat.ble 1 (n * s) && Nat.ble (n * s) 16777216 && Nat.ble n 16777216) = true) (hp : PartsQ s 0 ps yss) (hl : ps.length = n) : dn P t n ps = some (.d (.list s yss true)) := by
 simp only [Bool.and_eq_true] at hn
 obtain ⟨⟨h1, h2⟩, h3⟩ := hn
 have h1 := Nat.le_of_ble_eq_true h1
 have h2 := Nat.le_of_ble_eq_true h2
 have h3 := Nat.le_of_ble_eq_true h3
 have h0 : n * s ≠ 0 := by omega
 simp only [dn, hu, hs, Option.bind_some, h2, h3, and_self, if_true, h0, if_false, hz, hzl]
 rw [DP hp (by simp [hl])]
 simp
end
end
section
open Go.RowKit
section
variable {P : Program} {G : Nat → Option D} {N : Nat} {F : Fr} {ops rest : List Oper} {o : Oper} {h : List (Nat × Blk)} {env : List (Nat × V)} {al : List (Nat × Blk)} {nx : Nat} {t e : TypeId} {z : Value} {size bytes : Nat} {K : List (Nat × V) → List (Nat × Blk) → Nat → Prop}
theorem gX.appendFresh (hF : Env F P G N) (hE : ElemT P t e z size bytes) {s x : Operand} {sz sz' : Nat} {ys : List (List D)} {f : Bool} (ho : o.op = .call ⟨.builtin .append, #[s, x], #[t, t]⟩)
  (hs : evD G env s = some (.d (.list sz [] true))) (hx : evD G env x = some (.d (.list sz' ys f))) (hsz' : sz' = size ∨ ys = []) (hb : ys.length * bytes ≤ 140737488355328) (hb2 : ys.length ≤ 140737488355328) :
  gX F G o env (dB size ys) (fun m => .sref m 0 ys.length) := by
 intro μ C a w nx' hh hsim hop m hm hfree K Q hK
 obtain ⟨rfl, rfl, hG⟩ := hF
 obtain ⟨i0, hi, hz0, hz1, hz2⟩ := info_parts hE.info
 have hsv : aN μ C (.d (.list sz [] true)) (a.eval s) := hop s (by rw [ho]; simp [Op.operands, Call.operands]) _ hs
 have hxv : aN μ C (.d (.list sz' ys f)) (a.eval x) := hop x (by rw [ho]; simp [Op.operands, Call.operands]) _ hx
 have hk := hsim.known
 obtain ⟨ao, cap, vs, e1, hcap, hvl, hvv, hvx, hvr⟩ := cI (P := F.P) (size := size) hk hsv (.inr rfl)
 obtain ⟨bo, cap', us, e2, _, hul, huv, hux, hur⟩ := cI (P := F.P) hk hxv hsz'
 by_cases hy : ys = []
 ·subst hy
  unfold Oper.wp
  rw [gQ ho, Sem.run_bind, e1, e2]
  rw [hcap rfl]
  have : (Builtin.append_ #[t, t] o.type #[.slice ao ([] : List (List D)).length ([] : List (List D)).length, .slice bo ([] : List (List D)).length cap']).run F.P w = .ok (.slice ao ([] : List (List D)).length ([] : List (List D)).length) w := by
   have hf0 := hur w (Below.refl _ _)
   rw [e2] at hf0
   have : us = [] := List.eq_nil_of_length_eq_zero (by simpa using hul)
   subst this
   have hszr : (sizeOf e).run F.P w = .ok size w := by simp [sizeOf, typeInfo, hi, hz1]
   simp only [List.length_nil] at hf0
   cases ao with
   | none => simp [Builtin.append_, run_underlying hE.und, hszr, Builtin.lenOf, hf0]
   | some b => simp [Builtin.append_, run_underlying hE.und, hszr, Builtin.lenOf, hf0, storeCells]
  rw [this, Result.andThen_ok]
  show Oper.upon F.P o a K _ (.ok (.value _) w)
  rw [Oper.upon_value]
  have hs2 := hsim.adopt (.of_below hk (Below.refl _ w)) (m := m) (n' := nx') hfree hm (Nat.le_refl _) (p := ⟨w.heap.size, 0, size⟩) (sz := size) (rows := []) ⟨rfl, by simp [dB], by simp, by simp [dB], fun h => absurd h (by simp)⟩
  refine hK _ _ _ C hs2 (fun _ _ _ h => h) (fun l q hq => ?_) (fun l hl => by simp [hl]) ⟨⟨w.heap.size, 0, size⟩, ao, by simp, by simp, by simp, fun h => absurd h (by simp)⟩
  have : l ≠ m := fun e => by rw [e, hfree] at hq; cases hq
  simp [this, hq]
 ·have hsz2 : sz' = size := hsz'.resolve_right hy
  have hdr : Below w.heap.size w w.drew := (Below.refl _ _).drew
  unfold Oper.wp
  rw [gQ ho, Sem.run_bind, e1, e2]
  rw [hcap rfl]
  have hm0 : 0 < ys.length := List.length_pos_iff.2 hy
  have hr1 := hvr w.drew hdr
  have hr2 := hur w.drew hdr
  rw [e1, hcap rfl] at hr1
  rw [e2] at hr2
  have hrun := ic (P := F.P) (w := w) hE.und i0 hi hz0 ao 0 0 vs bo ys.length cap' us o.type (by rw [hz1]; exact hr1) (by rw [hz1]; exact hr2) (by omega) (by rw [hz2]; simpa using hb) (by simpa using hb2)
  simp only [List.length_nil]
  rw [hrun, Result.andThen_ok]
  show Oper.upon F.P o a K _ (.ok (.value _) _)
  rw [Oper.upon_value]
  have hge := grownCap_ge w (0 + ys.length) 0 e
  have hgm := grownCap_le_maxLen w (0 + ys.length) 0 e (by unfold maxLen; omega)
  generalize hgc : grownCap w (0 + ys.length) 0 e = g at hge hgm ⊢
  have hv0 : vs = [] := List.eq_nil_of_length_eq_zero (by simpa using hvl)
  subst hv0
  have hmore : More w C (w.drew.alloc (.cells (([] : List Value).toArray ++ us.toArray ++ Builtin.zeroCells z.cells (g - (0 + ys.length))) e)) C := .of_below hk (hdr.alloc (Nat.le_refl _) _)
  have hs2 := hsim.adopt hmore (m := m) (n' := nx') hfree hm (Nat.le_refl _) (p := ⟨w.heap.size, g, size⟩) (sz := size) (rows := ys)
   ⟨rfl, by simp [dB]; omega, by unfold maxLen at hgm; exact Nat.le_trans hgm (by decide), by
    intro r hr
    obtain ⟨x, hx, rfl⟩ := List.mem_map.1 hr
    simpa using hux x hx, fun _ => ⟨Nat.le_refl _, fun o u hc => absurd (hk.lt hc) (Nat.lt_irrefl _), _, e, heap_alloc_new w.drew _, nf g (0 + ys.length) size z.cells hE.zs [] us (by rw [hul]; simp) hge, by
    have := lh (μ := fun _ => none) (C := C) (rows := ys) (vs := us) (size := size) hux huv (Builtin.zeroCells z.cells (g - (0 + ys.length))).toList
    simpa using this⟩⟩
  refine hK _ _ _ C hs2 (fun _ _ _ h => h) (fun l q hq => ?_) (fun l hl => by simp [hl]) ⟨⟨w.heap.size, g, size⟩, some ⟨w.heap.size, 0, none⟩, by simp, by simp, by simp; omega, fun _ => by simp⟩
  have : l ≠ m := fun e => by rw [e, hfree] at hq; cases hq
  simp [this, hq]
theorem aF.appendFresh (hF : Env F P G N) (hE : ElemT P t e z size bytes) {s x : Operand} {d : Tmp} {sz sz' : Nat} {ys : List (List D)} {f : Bool} (ho : o.op = .call ⟨.builtin .append, #[s, x], #[t, t]⟩) (hd : o.dst = some d) (hdN : Nat.blt d N = true) (hg : bz ops env o.guard = some true)
  (hs : evB G env s = some (.d (.list sz [] true))) (hx : evB G env x = some (.d (.list sz' ys f))) (hsz' : sz' = size ∨ ys = []) (hb : ys.length * bytes ≤ 140737488355328) (hb2 : ys.length ≤ 140737488355328)
  (k : aF F G N ops.toArray h rest ((d, .sref nx 0 ys.length) :: env) ((nx, dB size ys) :: al) (nx + 1) K) : aF F G N ops.toArray h (o :: rest) env al nx K := by
 rw [bK] at hs hx
 exact .inl ⟨d, hd, by simpa [Nat.blt_eq] using hdN, .inr ⟨dB size ys, fun m => .sref m 0 ys.length, bN hg, .appendFresh hF hE ho hs hx hsz' hb hb2, k⟩⟩
end
end
section
open Go.RowKit
section
variable {P : Program} {G : Nat → Option D} {N : Nat} {F : Fr} {ops rest : List Oper} {o : Oper} {h0 h : List (Nat × Blk)} {env : List (Nat × V)} {al : List (Nat × Blk)} {nx : Nat} {t e : TypeId} {z : Value} {size bytes : Nat} {K : List (Nat × V) → List (Nat × Blk) → Nat → Prop}
theorem dZ.append (hF : Env F P G N) (hE : ElemT P t e z size bytes) {s x : Operand} {sz sz' : Nat} {xs ys : List (List D)} {f : Bool} (ho : o.op = .call ⟨.builtin .append, #[s, x], #[t, t]⟩)
  (hs : evD G env s = some (.d (.list sz xs true))) (hx : evD G env x = some (.d (.list sz' ys f))) (hsz : sz = size ∨ xs = []) (hsz' : sz' = size ∨ ys = []) (hb : (xs.length + ys.length) * bytes ≤ 140737488355328) (hb2 : xs.length + ys.length ≤ 140737488355328) :
  dZ F G h0 o env (.d (.list size (xs ++ ys) false)) := by
 intro μ C a w nx' hh hsim hold hop K Q hK
 obtain ⟨rfl, rfl, hG⟩ := hF
 obtain ⟨i0, hi, hz0, hz1, hz2⟩ := info_parts hE.info
 have hsv : aN μ C (.d (.list sz xs true)) (a.eval s) := hop s (by rw [ho]; simp [Op.operands, Call.operands]) _ hs
 have hxv : aN μ C (.d (.list sz' ys f)) (a.eval x) := hop x (by rw [ho]; simp [Op.operands, Call.operands]) _ hx
 have hk := hsim.known
 obtain ⟨ao, cap, vs, e1, hcap, hvl, hvv, hvx, hvr⟩ := cI (P := F.P) hk hsv hsz
 obtain ⟨bo, cap', us, e2, _, hul, huv, hux, hur⟩ := cI (P := F.P) hk hxv hsz'
 have hdr : Below w.heap.size w w.drew := (Below.refl _ _).drew
 unfold Oper.wp
 rw [gQ ho, Sem.run_bind, e1, e2]
 rw [hcap rfl]
 by_cases hy : ys = []
 ·subst hy
  have : (Builtin.append_ #[t, t] o.type #[.slice ao xs.length xs.length, .slice bo ([] : List (List D)).length cap']).run F.P w = .ok (.slice ao xs.length xs.length) w := by
   have hf0 := hur w (Below.refl _ _)
   rw [e2] at hf0
   have : us = [] := List.eq_nil_of_length_eq_zero (by simpa using hul)
   subst this
   have hszr : (sizeOf e).run F.P w = .ok size w := by simp [sizeOf, typeInfo, hi, hz1]
   simp only [List.length_nil] at hf0
   cases ao with
   | none => simp [Builtin.append_, run_underlying hE.und, hszr, Builtin.lenOf, hf0]
   | some b => simp [Builtin.append_, run_underlying hE.und, hszr, Builtin.lenOf, hf0, storeCells]
  rw [this, Result.andThen_ok]
  show Oper.upon F.P o a K _ (.ok (.value _) w)
  rw [Oper.upon_value]
  refine hK _ _ C (.of_below hk (Below.refl _ _)) ?_
  rw [e1, hcap rfl] at hsv
  rw [List.append_nil]
  show Rep C _ _
  rcases hsz with rfl | rfl
  ·exact jg hsv
  ·exact dL _ _ _ _ _ hsv
 ·have hm : 0 < ys.length := List.length_pos_iff.2 hy
  have hr1 := hvr w.drew hdr
  have hr2 := hur w.drew hdr
  rw [e1, hcap rfl] at hr1
  rw [e2] at hr2
  have hrun := ic (P := F.P) (w := w) hE.und i0 hi hz0 ao xs.length xs.length vs bo ys.length cap' us o.type (by rw [hz1]; exact hr1) (by rw [hz1]; exact hr2) (by omega) (by rw [hz2]; exact hb) hb2
  rw [hrun, Result.andThen_ok]
  show Oper.upon F.P o a K _ (.ok (.value _) _)
  rw [Oper.upon_value]
  have hs1 := hsim.drew
  have hm1 := ln hs1.known (vs.toArray ++ us.toArray ++ Builtin.zeroCells z.cells (grownCap w (xs.length + ys.length) xs.length e - (xs.length + ys.length))) e
  have hm0 : More w C w.drew C := .of_below hk hdr
  refine hK _ _ _ (hm0.trans hm1) ?_
  have hrows := oP (C := C) (rows := xs ++ ys) (vs := vs ++ us) (size := size) (by intro x hx; rcases List.mem_append.1 hx with hx | hx; exact hvx x hx; exact hux x hx) (by rw [List.flatten_append]; exact fC hvv huv)
   (vs.toArray ++ us.toArray ++ Builtin.zeroCells z.cells (grownCap w (xs.length + ys.length) xs.length e - (xs.length + ys.length))) (fun j u hj => by
    have hjl := (List.getElem?_eq_some_iff.1 hj).1
    rw [Array.getElem?_append_left (by simpa using hjl)]
    simpa using hj) w.heap.size
  have hne : xs ++ ys ≠ [] := by simp [hy]
  have hge := grownCap_ge w (xs.length + ys.length) xs.length e
  have := Rp.list (C := lL C w.heap.size (vs.toArray ++ us.toArray ++ Builtin.zeroCells z.cells (grownCap w (xs.length + ys.length) xs.length e - (xs.length + ys.length)))) size (xs ++ ys) false w.heap.size 0 (grownCap w (xs.length + ys.length) xs.length e) hne ⟨by simpa using hge, by simp, grownCap_le_maxLen w _ _ e (by unfold maxLen; omega), fun h => (by cases h), fun x h _ => by cases h; rfl⟩ hrows
  rw [List.length_append] at this
  exact this
theorem aF.append (hF : Env F P G N) (hE : ElemT P t e z size bytes) {s x : Operand} {d : Tmp} {sz sz' : Nat} {xs ys : List (List D)} {f : Bool} (ho : o.op = .call ⟨.builtin .append, #[s, x], #[t, t]⟩) (hd : o.dst = some d) (hdN : Nat.blt d N = true) (hg : bz ops env o.guard = some true)
  (hs : evB G env s = some (.d (.list sz xs true))) (hx : evB G env x = some (.d (.list sz' ys f))) (hsz : sz = size ∨ xs = []) (hsz' : sz' = size ∨ ys = []) (hb : (xs.length + ys.length) * bytes ≤ 140737488355328) (hb2 : xs.length + ys.length ≤ 140737488355328)
  (k : aF F G N ops.toArray h rest ((d, .d (.list size (xs ++ ys) false)) :: env) al nx K) : aF F G N ops.toArray h (o :: rest) env al nx K := by
 rw [bK] at hs hx
 exact .inl ⟨d, hd, by simpa [Nat.blt_eq] using hdN, .inl ⟨_, .inl ⟨bN hg, .append hF hE ho hs hx hsz hsz' hb hb2⟩, k⟩⟩
end
end
section
open Go.RowKit
section
variable {P : Program} {o : Oper} {a : Act} {w : World} {Q : Exit → Act → World → Prop}
theorem sP {K : Act → World → Prop} (f : FuncId) (hcall : ∀ args w, (callFunc f args).run P w = .ok (.enter f args) w) (x : Operand) (xs : Array Operand) (ts : Array TypeId) (ho : o.op = .call ⟨.value x, xs, ts⟩) (us : List Value) (hx : a.eval x = .func (.func f) #[] us.toArray)
  (vs : List Value) (hv : xs.toList.map a.eval = vs) (h : Calls P f (vs ++ us).toArray w fun e w' => ∃ v, e = .returned v ∧ K (a.put o.dst v) w') : o.wp P a w K Q := by
 unfold Oper.wp
 have hv' : xs.map a.eval = vs.toArray := by rw [← hv, ← Array.toList_map]
 have : (execOp a.eval o).run P w = .ok (.enter f (vs ++ us).toArray) w := by
  have e : execOp a.eval o = callFunc f (#[] ++ xs.map a.eval ++ us.toArray) := by
   simp only [execOp, ho]
   show (do let d ← Deferred.ofValue (a.eval x) (xs.map a.eval); invoke d.target d.args : Sem Next) = _
   rw [hx]; rfl
  rw [e, hcall, hv']
  simp
 rw [this, Oper.upon_enter]
 refine h.mono ?_
 rintro e w' ⟨v, rfl, hK⟩
 exact hK
end
theorem pd {C : aK} {ds es : List D} : ∀ {vs us : List Value}, Rp C (.outs ds vs) → Rp C (.outs es us) → Rp C (.outs (ds ++ es) (vs ++ us)) := by
 induction ds with
 | nil => intro vs us h k; cases h; exact k
 | cons d ds ih => intro vs us h k; cases h with | ocons _ v _ vs h1 h2 => exact .ocons d v _ _ h1 (ih h2 k)
section
variable {P : Program} {G : Nat → Option D} {N : Nat} {F : Fr} {ops : Array Oper} {rest : List Oper} {o : Oper} {Q : Exit → St → Prop} {st : St} {h0 : List (Nat × Blk)}
theorem SmL.callF (hF : Env F P G N) (hN : St.small N st) {f : FuncId} {x : Operand} {xs : Array Operand} {ts : Array TypeId} {t : Tmp} {ds caps : List D} {r : D} (hg : bU ops st.env o.guard = some true) (ho : o.op = .call ⟨.value x, xs, ts⟩) (hd : o.dst = some t) (hb : e9 P f = true)
  (hx : evD G st.env x = some (.d (.fn f caps))) (hargs : b7 (evD G st.env) xs.toList = some ds) (ht : t < N) (hc : aj P G f (ds ++ caps) r)
  (k : SmL F ops rest Q { st with env := (t, .d r) :: st.env }) : SmL F ops (o :: rest) Q st := by
 intro μ C a w hs
 obtain ⟨rfl, rfl, hG⟩ := hF
 have hev : ∀ x v, evD G st.env x = some v → aN μ C v (a.eval x) := fun x v h => eh hs hG h
 refine fV (fun _ => by rw [ho]; simp) fun K hK => ?_
 rw [dH hs hg hN, if_pos rfl]
 have hfv := hev x _ hx
 generalize hfx : a.eval x = fv at hfv
 cases hfv with
 | fn _ _ us hu =>
  refine sP f (fun a w => kj hb a w) x xs ts ho us hfx (xs.toList.map a.eval) rfl ?_
  refine (hc C w _ (hG.mono hs.sub) hs.known (pd (kG hev hargs) hu)).mono ?_
  rintro e w' ⟨v, C', rfl, hm, hr⟩
  exact ⟨v, rfl, by rw [hd]; exact hK _ _ (k μ C' _ w' ((hs.more hm).put ht hr))⟩
theorem dZ.callF (hF : Env F P G N) {env : List (Nat × V)} {f : FuncId} {x : Operand} {xs : Array Operand} {ts : Array TypeId} {ds caps : List D} {r : D} (ho : o.op = .call ⟨.value x, xs, ts⟩) (hb : e9 P f = true)
  (hx : evD G env x = some (.d (.fn f caps))) (hargs : b7 (evD G env) xs.toList = some ds) (hc : aj P G f (ds ++ caps) r) : dZ F G h0 o env (.d r) := by
 intro μ C a w nx' hh hs hold hop K Q hK
 obtain ⟨rfl, rfl, hG⟩ := hF
 have hxs : ∀ y ∈ xs.toList, ∀ v, evD G env y = some v → aN μ C v (a.eval y) := fun y hy v hv => hop y (by rw [ho]; simp [Op.operands, Call.operands]; exact .inr (by simpa using hy)) v hv
 have hfv : aN μ C (.d (.fn f caps)) (a.eval x) := hop x (by rw [ho]; simp [Op.operands, Call.operands]) _ hx
 have hrep : ∀ {ys : List Operand} {es : List D}, (∀ y ∈ ys, ∀ v, evD G env y = some v → aN μ C v (a.eval y)) → b7 (evD G env) ys = some es → Rp C (.outs es (ys.map a.eval)) := by
  intro ys
  induction ys with
  | nil => intro es _ h; cases h; exact .onil
  | cons y ys ih =>
   intro es hy h
   simp only [b7, Option.bind_eq_some_iff] at h
   obtain ⟨v, hv, h⟩ := h
   split at h
   ·rename_i d
    simp only [Option.map_eq_some_iff] at h
    obtain ⟨r, hr, rfl⟩ := h
    exact .ocons _ _ _ _ (hy y (by simp) _ hv) (ih (fun z hz => hy z (by simp [hz])) hr)
   ·cases h
 generalize hfx : a.eval x = fv at hfv
 cases hfv with
 | fn _ _ us hu =>
  refine sP f (fun a w => kj hb a w) x xs ts ho us hfx (xs.toList.map a.eval) rfl ?_
  refine (hc C w _ (hG.mono hs.sub) hs.known (pd (hrep hxs hargs) hu)).mono ?_
  rintro e w' ⟨v, C', rfl, hm, hr⟩
  exact ⟨v, rfl, hK v w' C' hm hr⟩
end
section
variable {P : Program} {G : Nat → Option D} {N : Nat} {F : Fr} {ops rest : List Oper} {o : Oper} {Q : Exit → St → Prop} {env : List (Nat × V)} {h : List (Nat × Blk)} {nx : Nat} {al : List (Nat × Blk)} {K : List (Nat × V) → List (Nat × Blk) → Nat → Prop}
theorem SmG.callF (hF : Env F P G N) {f : FuncId} {x : Operand} {xs : List Operand} {ts : Array TypeId} {t : Tmp} {ds caps : List D} {r : D} (ho : o.op = .call ⟨.value x, xs.toArray, ts⟩) (hd : o.dst = some t) (ht : Nat.blt t N = true)
  (hg : bz ops env o.guard = some true) (hx : evB G env x = some (.d (.fn f caps))) (hargs : b7 (evB G env) xs = some ds) (hb : e9 P f = true) (hc : aj P G f (ds ++ caps) r)
  (k : SmG F N ops rest Q ⟨(t, .d r) :: env, h, nx⟩) : SmG F N ops (o :: rest) Q ⟨env, h, nx⟩ := by
 have ht' : t < N := by simpa [Nat.blt_eq] using ht
 intro hs
 rw [bK] at hx
 exact SmL.callF hF hs (bN hg) ho hd hb hx (j6 (by simpa using hargs)) ht' hc (k (dK hs ht'))
theorem lC (hF : Env F P G N) {f : FuncId} {x : Operand} {xs : List Operand} {ts : Array TypeId} {t : Tmp} {ds caps : List D} {r : D} (ho : o.op = .call ⟨.value x, xs.toArray, ts⟩) (hd : o.dst = some t) (ht : Nat.blt t N = true)
  (hg : bz ops env o.guard = some true) (hx : evB G env x = some (.d (.fn f caps))) (hargs : b7 (evB G env) xs = some ds) (hb : e9 P f = true) (hc : aj P G f (ds ++ caps) r)
  (k : aF F G N ops.toArray h rest ((t, .d r) :: env) al nx K) : aF F G N ops.toArray h (o :: rest) env al nx K := by
 rw [bK] at hx
 exact .inl ⟨t, hd, by simpa [Nat.blt_eq] using ht, .inl ⟨_, .inl ⟨bN hg, .callF hF ho hb hx (j6 (by simpa using hargs)) hc⟩, k⟩⟩
theorem gZ {f : FuncId} {caps : List Operand} {ds : List D} (ho : o.op = .makeFunc (.func f) #[] caps.toArray) (hx : b7 (evB G env) caps = some ds) : opV P (evD G env) h o = some (.d (.fn f ds)) := by
 have := j6 hx
 simp [opV, ho, this]
end
end
section
open Go.RowKit
structure Same (O : Nat → Prop) (w w' : World) : Prop where
 os : w'.os = w.os
 tape : w'.tape = w.tape
 output : w'.output = w.output
 size : w.heap.size ≤ w'.heap.size
 block : ∀ b, O b → w'.heap[b]? = w.heap[b]?
structure But (O O' : Nat → Prop) (w w' : World) : Prop where
 os : w'.os = w.os
 tape : w'.tape = w.tape
 output : w'.output = w.output
 size : w.heap.size ≤ w'.heap.size
 block : ∀ b, b < w.heap.size → ¬ O b → w'.heap[b]? = w.heap[b]?
 sub : ∀ b, O b → O' b
 new : ∀ b, O' b → O b ∨ w.heap.size ≤ b
 lt : ∀ b, O' b → b < w'.heap.size
abbrev Jt := Nat → (Nat → Prop) → aK → World → Prop
def yL (P : Program) (G : Nat → Option D) (f : FuncId) (caps : List D) (xs : List (List D)) : Prop :=
 ∀ (l : Nat) (C : aK) (w : World) (us : List Value) (O : Nat → Prop) (J : Jt),
  i6 G C → bW C w → Rp C (.outs caps us) → (∀ b, O b → b < w.heap.size) → (∀ b o u, C b o u → ¬ O b) →
  (∀ m O K W W', J m O K W → Same (fun b => O b ∨ b < w.heap.size) W W' → bW K W' → J m O K W') →
  (∀ (i : Nat) x O K C' W vs, xs[i]? = some x → J (i + 1) O K W → bW C' W → (∀ b o u, K b o u → C' b o u) → (∀ b o u, C' b o u → K b o u ∨ w.heap.size ≤ b) → (∀ b o u, C' b o u → ¬ O b) → (∀ b, O b → b < W.heap.size) → Rp C' (.outs x vs) →
   YieldAt Fence.wide 0 P l vs.toArray W fun e W' => ∃ (c : Bool) (O' : Nat → Prop), e = .returned (.bool c) ∧ But O O' W W' ∧ J (if c then i + 2 else 0) O' C' W') →
  J 1 O C w →
  Calls P f ((Value.func (.yield l) #[] #[]) :: us).toArray w fun e W' => ∃ v O' K m, e = .returned v ∧ (m = 0 ∨ m = xs.length + 1) ∧ J m O' K W' ∧ But O O' w W'
def ItG (base : Nat) (O0 : Nat → Prop) (J : Jt) (ds : List Deferred) (h : List (Nat × Blk)) (μ : Nat → Option Place) (C : aK) (w : World) : Prop :=
 look h 0 = none ∧ base ≤ w.heap.size ∧ (∀ b, lc h μ b → base ≤ b) ∧ ∃ m sz O K, μ 0 = some ⟨m, 0, sz⟩ ∧ J m O K w ∧ (∀ b, lc h μ b → ¬ O b) ∧ (∀ b o u, K b o u → C b o u) ∧ (∀ b o u, C b o u → K b o u ∨ base ≤ b) ∧ (∀ b o u, C b o u → ¬ O b) ∧
  (∀ b, O b → b < w.heap.size) ∧ (∀ b, O0 b → O b) ∧ (∀ b, O b → O0 b ∨ base ≤ b) ∧ (∀ q, ({ target := .collected q, args := #[] } : Deferred) ∈ ds → ¬ O q)
structure ItFr (F : Fr) (P : Program) (l : Nat) (xs : List (List D)) (O0 : Nat → Prop) (J : Jt) : Prop where
 keep : ∀ ds h μ C w, F.G ds h μ C w ↔ ItG F.w0.heap.size O0 J ds h μ C w
 own : F.own = O0
 low : F.n0 = 1
 lt : ∀ b, O0 b → b < F.w0.heap.size
 stab : ∀ m O K W W', J m O K W → Same (fun b => O b ∨ b < F.w0.heap.size) W W' → bW K W' → J m O K W'
 round : ∀ (i : Nat) x O K C' W vs, xs[i]? = some x → J (i + 1) O K W → bW C' W → (∀ b o u, K b o u → C' b o u) → (∀ b o u, C' b o u → K b o u ∨ F.w0.heap.size ≤ b) → (∀ b o u, C' b o u → ¬ O b) → (∀ b, O b → b < W.heap.size) → Rp C' (.outs x vs) →
   YieldAt Fence.wide 0 P l vs.toArray W fun e W' => ∃ (c : Bool) (O' : Nat → Prop), e = .returned (.bool c) ∧ But O O' W W' ∧ J (if c then i + 2 else 0) O' C' W'
theorem bW.same {C : aK} {w w' : World} (h : bW C w) (hb : ∀ b o u, C b o u → w'.heap[b]? = w.heap[b]?) : bW C w' := fun b o u hc => by
 rcases h b o u hc with g | ⟨es, c, g, e⟩
 ·left; simp only [World.cell?, hb b o u hc] at g ⊢; exact g
 ·exact .inr ⟨es, c, (hb b o u hc).trans g, e⟩
theorem ItG.stab {base : Nat} {O0 : Nat → Prop} {J : Jt} (hst : ∀ m O K W W', J m O K W → Same (fun b => O b ∨ b < base) W W' → bW K W' → J m O K W') {ds : List Deferred} {h h' : List (Nat × Blk)} {μ μ' : Nat → Option Place} {C C' : aK} {w w' : World}
  (g : ItG base O0 J ds h μ C w) (t : Turn 1 h μ C w h' μ' C' w') : ItG base O0 J ds h' μ' C' w' := by
 obtain ⟨g1, g2, g3, m, sz, O, K, g4, g5, g6, g7, g8, g9, g10, g11, g12, g13⟩ := g
 have hblk : ∀ b, O b ∨ b < base → w'.heap[b]? = w.heap[b]? := fun b hb => by
  rcases hb with hb | hb
  ·exact t.block b (g10 b hb) (fun ho => g6 b ho hb)
  ·exact t.block b (by omega) (fun ho => by have := g3 b ho; omega)
 refine ⟨Option.eq_none_iff_forall_ne_some.2 fun k hk => ?_, Nat.le_trans g2 t.size, fun b hb => (t.own b hb).elim (g3 b) (fun h => Nat.le_trans g2 h), m, sz, O, K, t.low 0 _ (by omega) g4, hst _ _ _ _ _ g5 ⟨t.os, t.tape, t.output, t.size, hblk⟩ (fun b o u hk => t.known b o u (t.sub _ _ _ (g7 _ _ _ hk))), fun b hb ho => ?_, fun b o u hk => t.sub _ _ _ (g7 _ _ _ hk), fun b o u hc => ?_, fun b o u hc ho => ?_, fun b hb => Nat.lt_of_lt_of_le (g10 b hb) t.size, g11, g12, g13⟩
 ·rcases t.dom 0 (by rw [hk]; rfl) with h1 | h1
  ·rw [g1] at h1; cases h1
  ·rw [g4] at h1; cases h1
 ·rcases t.own b hb with h1 | h1
  ·exact g6 b h1 ho
  ·have := g10 b ho; omega
 ·rcases t.new b o u hc with h1 | h1 | h1
  ·exact g8 _ _ _ h1
  ·exact .inr (g3 b h1)
  ·exact .inr (Nat.le_trans g2 h1)
 ·rcases t.new b o u hc with h1 | h1 | h1
  ·exact g9 _ _ _ h1 ho
  ·exact g6 b h1 ho
  ·have := g10 b ho; omega
section
variable {P : Program} {G : Nat → Option D} {N : Nat} {F : Fr} {ops : Array Oper} {rest : List Oper} {o : Oper} {Q : Exit → St → Prop} {st : St}
theorem rR {l : Nat} {x : Operand} {xs : Array Operand} {ts : Array TypeId} (ho : o.op = .call ⟨.value x, xs, ts⟩) {a : Act} {w : World} (hx : a.eval x = .func (.yield l) #[] #[]) : (execOp a.eval o).run P w = (Instr.yield l (xs.map a.eval)).run P w := by
 have e : execOp a.eval o = Instr.yield l (#[] ++ xs.map a.eval) := by
  simp only [execOp, ho]
  show (do let d ← Deferred.ofValue (a.eval x) (xs.map a.eval); invoke d.target d.args : Sem Next) = _
  rw [hx]; rfl
 rw [e]; simp
theorem SmL.yield (hF : Env F P G N) (hN : St.small N st) {l i s t : Nat} {xs : List (List D)} {O0 : Nat → Prop} {J : Jt} {x : List D} (hI : ItFr F P l xs O0 J) (hgh : look st.env s = some (.gh (i + 1))) (hi : xs[i]? = some x) {y : Operand} {ys : Array Operand} {ts : Array TypeId} {ds : List D}
  (hg : bU ops st.env o.guard = some true) (ho : o.op = .call ⟨.value y, ys, ts⟩) (hd : o.dst = some t) (ht : t < N) (hy : evD G st.env y = some (.d (.v (.func (.yield l) #[] #[])))) (hargs : b7 (evD G st.env) ys.toList = some ds) (hle : ∀ C vs, Rp C (.outs ds vs) → Rp C (.outs x vs)) (hfree : kq 0 st.h)
  (k : ∀ c : Bool, SmL F ops rest Q { st with env := (t, .d (.v (.bool c))) :: (s, .gh (if c then i + 2 else 0)) :: i3 0 st.env }) : SmL F ops (o :: rest) Q st := by
 intro μ C a w hs
 have hev : ∀ x v, evD G st.env x = some v → aN μ C v (a.eval x) := fun x v h => eh hs hF.glob h
 have hyv := bp (hev y _ hy)
 obtain ⟨g1, g2, g3, m, sz, O, K, g4, g5, g6, g7, g8, g9, g10, g11, g12, g13⟩ := (hI.keep _ _ _ _ _).1 hs.gh
 obtain ⟨sz', hm⟩ := hs.env s _ hgh
 rw [g4] at hm
 obtain rfl : m = i + 1 := by cases hm; rfl
 have hPP := hF.prog
 obtain ⟨fn, tm, asg, bo, hrun, hround⟩ := hI.round i x O K C w (ys.toList.map a.eval) hi g5 hs.known g7 g8 g9 g10 (hle _ _ (kG hev hargs))
 show (if Region.wanted o (yielded ops a.tmps) then o.wpIn F.fz 0 F.P a w (wpListIn F.fz 0 F.P ops (Sq F Q) rest) (Sq F Q) else _)
 rw [dH hs hg (by rw [hF.size]; exact hN), if_pos rfl]
 refine ⟨fun _ _ => trivial, ?_⟩
 rw [Oper.semAt_eq _ _ _ (by rw [ho]; simp), rR ho hyv, hPP]
 have e1 : ys.map a.eval = (ys.toList.map a.eval).toArray := by rw [← Array.toList_map]
 rw [e1, hrun]
 refine ⟨fun h => (by cases h), ?_⟩
 refine RoundIn.mono (F := F.fz) (show RoundIn F.fz 0 P l fn tm asg bo w _ from hround) ?_
 rintro e W' ⟨c, O', rfl, hb, hJ⟩
 rw [hd, ← hPP]
 refine k c (fun n => if n = 0 then some ⟨if c then i + 2 else 0, 0, sz⟩ else μ n) C _ W' ?_
 have hμ : ∀ n, n ≠ 0 → (fun n => if n = 0 then some (⟨if c then i + 2 else 0, 0, sz⟩ : Place) else μ n) n = μ n := fun n h => by simp [h]
 have hfact : ∀ b o u, C b o u → W'.heap[b]? = w.heap[b]? := fun b o u hc => hb.block b (hs.known.lt hc) (g9 b o u hc)
 have hkn : bW C W' := hs.known.same hfact
 have hnot : ∀ b, b < F.w0.heap.size → ¬ F.own b → ¬ O b := fun b h1 h2 h3 => by
  rcases g12 b h3 with h | h
  ·exact h2 (by rw [hI.own]; exact h)
  ·omega
 refine ⟨by simp [Act.put, hs.size], ⟨hs.defers.nodup, fun d hd' => ?_⟩, ?_, hs.sub, hs.new, hkn, fun t' x' hx' => ?_, fun l' k' hk' => ?_, ?_, fun l' hl' => ?_, (hI.keep _ _ _ _ _).2 ?_⟩
 ·obtain ⟨q, q1, q2, q3⟩ := hs.defers.each d hd'
  exact ⟨q, q1, q2, (hb.block q (Array.getElem?_eq_some_iff.1 q3).1 (g13 q (q1 ▸ hd'))).trans q3⟩
 ·refine ⟨hb.os.trans hs.below.os, hb.tape.trans hs.below.tape, hb.output.trans hs.below.output, Nat.le_trans hs.below.size hb.size, fun n hn hno => ?_⟩
  rw [hb.block n (Nat.lt_of_lt_of_le hn hs.below.size) (hnot n hn hno)]
  exact hs.below.block n hn hno
 ·rw [kd a t t' _ (by rw [hs.size, hF.size]; exact ht)]
  simp only [look] at hx'
  by_cases h1 : t = t'
  ·rw [if_pos h1] at hx'; cases hx'; rw [if_pos h1.symm]; exact Rp.v _
  ·rw [if_neg h1] at hx'; rw [if_neg (Ne.symm h1)]
   by_cases h2 : s = t'
   ·rw [if_pos h2] at hx'; cases hx'; exact ⟨sz, by simp⟩
   ·rw [if_neg h2, kK] at hx'
    cases hl : look st.env t' with
    | none => rw [hl] at hx'; cases hx'
    | some z =>
     rw [hl] at hx'; simp only [Option.map_some, Option.some.injEq] at hx'
     subst hx'
     by_cases hz : z.free 0 = true
     ·rw [if_pos hz]; exact lw hz hμ (hs.env t' z hl)
     ·rw [if_neg hz]; trivial
 ·obtain ⟨p, hp, hB⟩ := hs.heap l' k' hk'
  have hl0 : l' ≠ 0 := fun e => by subst e; rw [g1] at hk'; cases hk'
  refine ⟨p, (hμ l' hl0).trans hp, hB.sz, hB.len, hB.max, hB.row, fun hc => ?_⟩
  obtain ⟨b1, b2, cur, T, b3, b4, b5⟩ := hB.cells hc
  refine ⟨b1, b2, cur, T, ?_, b4, fun j r hr q z hz => ?_⟩
  ·rw [hb.block _ (hB.lt hc) (g6 _ ⟨l', k', p, hk', hp, hc, rfl⟩)]; exact b3
  ·obtain ⟨u, u1, u2, u3⟩ := b5 j r hr q z hz
   exact ⟨u, u1, u2, lw (hfree l' k' hl0 hk' r (List.mem_of_getElem? hr) z (List.mem_of_getElem? hz)) hμ u3⟩
 ·have hne : ∀ n, (look st.h n).isSome = true → n ≠ 0 := fun n hn e => by subst e; rw [g1] at hn; cases hn
  intro n n' p p' h1 h2 q1 q2
  exact hs.inj n n' p p' h1 h2 ((hμ n (hne n h1)).symm.trans q1) ((hμ n' (hne n' h2)).symm.trans q2)
 ·have hl0 : l' ≠ 0 := fun e => by
   have := hs.nx l' hl'
   rw [e, g4] at this; cases this
  exact (hμ l' hl0).trans (hs.nx l' hl')
 ·have hown : ∀ b, lc st.h (fun n => if n = 0 then some (⟨if c then i + 2 else 0, 0, sz⟩ : Place) else μ n) b → lc st.h μ b := fun b ⟨n, k', p, h1, h2, h3⟩ => by
   have hn0 : n ≠ 0 := fun e => by subst e; rw [g1] at h1; cases h1
   exact ⟨n, k', p, h1, (hμ n hn0).symm.trans h2, h3⟩
  refine ⟨g1, Nat.le_trans g2 hb.size, fun b h => g3 b (hown b h), _, sz, O', C, by simp, hJ, fun b h ho => ?_, fun _ _ _ h => h, fun _ _ _ h => .inl h, fun b o u hc ho => ?_, hb.lt, fun b h => hb.sub b (g11 b h), fun b h => ?_, fun q hq ho => ?_⟩
  ·have h := hown b h
   rcases hb.new b ho with h' | h'
   ·exact g6 b h h'
   ·obtain ⟨n, k', p, h1, h2, h3, h4⟩ := h
    obtain ⟨p2, hp2, hB⟩ := hs.heap n k' h1
    rw [h2] at hp2; cases hp2
    have := hB.lt h3; omega
  ·rcases hb.new b ho with h' | h'
   ·exact g9 b o u hc h'
   ·have := hs.known.lt hc; omega
  ·rcases hb.new b h with h' | h'
   ·exact g12 b h'
   ·exact .inr (Nat.le_trans g2 h')
  ·rcases hb.new q ho with h' | h'
   ·exact g13 q hq h'
   ·obtain ⟨q', q1, q2, q3⟩ := hs.defers.each _ hq
    have hqq : q' = q := by injection q1 with e1 _; injection e1 with e2; exact e2.symm
    subst hqq
    have := (Array.getElem?_eq_some_iff.1 q3).1; omega
def yK (s n : Nat) : Exit → St → Prop
 | .ret, st | .normal, st => ∃ m, look st.env s = some (.gh m) ∧ (m = 0 ∨ m = n + 1)
 | _, _ => False
theorem yL.of {f : FuncId} {fn : Func} {c : Code} {caps : List D} {xs : List (List D)} (s : Nat) (hf : P.funcs[f]? = some fn) (hb : fn.body = some c) (hN : fn.ntmps = N) (hp : caps.length + 1 ≤ N) (hr : fn.results = #[])
  (h : ∀ F l O0 J, Env F P G N → F.n0 = 1 → ItFr F P l xs O0 J → Sm F c (yK s xs.length) ⟨(s, .gh 1) :: ((D.v (.func (.yield l) #[] #[])) :: caps).zipIdx.map fun e => (e.2, .d e.1), [], 1⟩) : yL P G f caps xs := by
 intro l C w us O J hG hk hu hO hCO hst hrd hJ
 let F : Fr := ⟨P, N, w, C, O, none, 1, ItG w.heap.size O J, fun g t => g.stab hst t⟩
 have ha : Rp C (.outs ((D.v (.func (.yield l) #[] #[])) :: caps) ((Value.func (.yield l) #[] #[]) :: us)) := .ocons _ _ _ _ (.v _) hu
 obtain ⟨ds, hds⟩ : ∃ ds, ds = (D.v (.func (.yield l) #[] #[])) :: caps := ⟨_, rfl⟩
 rw [← hds] at ha
 have h' : ∀ F O0 J, Env F P G N → F.n0 = 1 → ItFr F P l xs O0 J → Sm F c (yK s xs.length) ⟨(s, .gh 1) :: ds.zipIdx.map fun e => (e.2, .d e.1), [], 1⟩ := fun F O0 J h1 h2 h3 => by rw [hds]; exact h F l O0 J h1 h2 h3
 have hdl : ds.length ≤ N := by rw [hds]; simpa using hp
 generalize (Value.func (.yield l) #[] #[]) :: us = vs at ha
 have hvl : vs.length = ds.length := iB ha
 have hsz : (vs.toArray ++ Array.replicate (fn.ntmps - vs.toArray.size) undef).size = N := by simp; omega
 have hlook : ∀ (ds : List D) (k : Nat) (t : Nat) (x : V), look ((ds.zipIdx k).map fun e => (e.2, V.d e.1)) t = some x → ∃ d, x = .d d ∧ k ≤ t ∧ ds[t - k]? = some d := by
  intro ds
  induction ds with
  | nil => intro k t x h; simp [look] at h
  | cons d ds ih =>
   intro k t x h
   simp only [List.zipIdx_cons, List.map_cons, look] at h
   split at h
   ·rename_i e; cases h; subst e; exact ⟨d, rfl, Nat.le_refl _, by simp⟩
   ·obtain ⟨d', rfl, h1, h2⟩ := ih _ _ _ h
    refine ⟨d', rfl, by omega, ?_⟩
    rw [show t - k = (t - (k + 1)) + 1 by omega]; simpa using h2
 have hsim : Sim F ⟨(s, .gh 1) :: ds.zipIdx.map fun e => (e.2, .d e.1), [], 1⟩ (fun n => if n = 0 then some ⟨1, 0, 0⟩ else none) C { tmps := vs.toArray ++ Array.replicate (fn.ntmps - vs.toArray.size) undef, defers := [] } w := by
  refine ⟨hsz, .nil _ _, Kept.refl _ _, fun _ _ _ h => h, fun _ _ _ h => .inl h, hk, fun t x hx => ?_, fun l k hk => by simp [look] at hk, fun l l' p p' h => by simp [look] at h, fun n hn => ?_, ?_⟩
  ·simp only [look] at hx
   split at hx
   ·cases hx; exact ⟨0, by simp⟩
   ·obtain ⟨d, rfl, _, hd⟩ := hlook ds 0 t x hx
    rw [Nat.sub_zero] at hd
    obtain ⟨v, h1, h2⟩ := lF ha t d hd
    have htl := (List.getElem?_eq_some_iff.1 h1).1
    have : (vs.toArray ++ Array.replicate (fn.ntmps - vs.toArray.size) undef).getD t undef = v := by
     rw [Array.getD_eq_getD_getElem?, Array.getElem?_append_left (by simpa using htl)]
     simp [h1]
    show Rep C d _
    rw [this]; exact h2
  ·have : n ≠ 0 := by have : 1 ≤ n := hn; omega
   simp [this]
  ·exact ⟨rfl, Nat.le_refl _, fun b ⟨n, k, p, h1, _⟩ => by simp [look] at h1, 1, 0, O, C, by simp, hJ, fun b ⟨n, k, p, h1, _⟩ => by simp [look] at h1, fun _ _ _ h => h, fun _ _ _ h => .inl h, hCO, hO, fun _ h => h, fun _ h => .inl h, by simp⟩
 have hI : ItFr F P l xs O J := ⟨fun _ _ _ _ _ => Iff.rfl, rfl, rfl, hO, hst, hrd⟩
 refine kr (F := F) rfl rfl hf hb (h' F O J ⟨rfl, rfl, hG⟩ rfl hI) hsim (fun e st' hq => by cases e <;> first | exact .inl rfl | exact .inr rfl | exact hq.elim) ?_
 intro e st' μ' C' a w' hq hs a2 w'' haft hs2
 have hq' : ∃ m, look st'.env s = some (.gh m) ∧ (m = 0 ∨ m = xs.length + 1) := by cases e <;> first | exact hq | exact hq.elim
 obtain ⟨m, hm1, hm2⟩ := hq'
 refine ⟨.tuple #[], by simpa using lk (P := P) (fn := fn) (a := a2) (w := w'') (us := []) (by rw [hr]; rfl), ?_⟩
 obtain ⟨g1, g2, g3, m', sz, O', K, g4, g5, g6, g7, g8, g9, g10, g11, g12, g13⟩ : ItG w.heap.size O J a.defers st'.h μ' C' w' := hs.gh
 obtain ⟨sz', hm⟩ := hs.env s _ hm1
 rw [g4] at hm
 obtain rfl : m' = m := by cases hm; rfl
 have hno : ∀ b, O' b → w''.heap[b]? = w'.heap[b]? := fun b hb => haft.other b fun hd => g13 b hd hb
 refine ⟨_, O', K, m', rfl, hm2, hst _ _ _ _ _ g5 ⟨haft.os, haft.tape, haft.output, haft.size, fun b hb => hb.elim (hno b) (haft.low b)⟩ (fun b o u hc => hs2.known b o u (g7 _ _ _ hc)), hs2.below.os, hs2.below.tape, hs2.below.output, hs2.below.size, fun b h1 h2 => hs2.below.block b h1 h2, g11, g12, fun b hb => Nat.lt_of_lt_of_le (g10 b hb) haft.size⟩
end
end
section
open Go.RowKit
section
variable {F : Fr} {st : St} {μ : Nat → Option Place} {C : aK} {a : Act} {w : World}
theorem BlkOk.loop {mine mine' : Nat → Prop} {C : aK} {p : Place} {k : Blk} (h : BlkOk mine μ C w p k) (hm : 0 < p.cap → mine p.b → mine' p.b) {l : Nat} {r : Loop} (hl : w.heap[l]? = some (Obj.loop r)) (o : Obj) : BlkOk mine' μ C (w.putObj l o) p k := by
 refine ⟨h.sz, h.len, h.max, h.row, fun hc => ?_⟩
 obtain ⟨b1, b2, cur, T, b3, b4⟩ := h.cells hc
 refine ⟨hm hc b1, b2, cur, T, ?_, b4⟩
 rw [World.putObj_heap_other (fun e => by rw [e, hl] at b3; cases b3)]; exact b3
end
section
variable {P : Program} {G : Nat → Option D} {N : Nat} {F : Fr} {Q : Exit → St → Prop}
end
end
section
open Go.RowKit
def V.ren (σ : Nat → Nat) : V → V
 | .d x => .d x
 | .ref l i off => .ref (σ l) i off
 | .sref l lo len => .sref (σ l) lo len
 | .aref l i off es len cap => .aref (σ l) i off es len cap
 | .mix tup l n rest => .mix tup (σ l) n rest
 | .any => .any
 | .gh _ => .any
def Blk.ren (σ : Nat → Nat) (k : Blk) : Blk := ⟨k.sz, k.rows.map fun r => r.map (V.ren σ)⟩
def V.noGh : V → Bool
 | .gh _ => false
 | _ => true
structure Held (mine : Nat → Prop) (h : List (Nat × Blk)) (μ : Nat → Option Place) (C : aK) (w : World) : Prop where
 heap : ∀ l k, look h l = some k → ∃ p, μ l = some p ∧ BlkOk mine μ C w p k
 inj : ∀ l l' p p', (look h l).isSome = true → (look h l').isSome = true → μ l = some p → μ l' = some p' → 0 < p.cap → 0 < p'.cap → p.b = p'.b → l = l'
inductive RepVs (μ : Nat → Option Place) (C : aK) : List V → List Value → Prop
 | nil : RepVs μ C [] []
 | cons (x : V) (v : Value) (xs : List V) (vs : List Value) : aN μ C x v → RepVs μ C xs vs → RepVs μ C (x :: xs) (v :: vs)
theorem RepVs.length {μ : Nat → Option Place} {C : aK} {xs : List V} {vs : List Value} (h : RepVs μ C xs vs) : vs.length = xs.length := by
 induction h with
 | nil => rfl
 | cons _ _ _ _ _ _ ih => simp [ih]
theorem RepVs.get {μ : Nat → Option Place} {C : aK} {xs : List V} {vs : List Value} (h : RepVs μ C xs vs) : ∀ (i : Nat) (x : V), xs[i]? = some x → ∃ v, vs[i]? = some v ∧ aN μ C x v := by
 induction h with
 | nil => intro i x h; simp at h
 | cons x v xs vs h1 _ ih =>
  intro i y hy
  cases i with
  | zero => simp at hy; subst hy; exact ⟨v, rfl, h1⟩
  | succ i => simpa using ih i y (by simpa using hy)
def xp (P : Program) (G : Nat → Option D) (f : FuncId) (h : List (Nat × Blk)) (n0 : Nat) (xs : List V) (r : V) (h' : List (Nat × Blk)) (n1 : Nat) : Prop :=
 ∀ μ C w vs, i6 G C → bW C w → Held (fun _ => True) h μ C w → (∀ l, n0 ≤ l → μ l = none) → RepVs μ C xs vs →
  Calls P f vs.toArray w fun e W' => ∃ v μ' C', e = .returned v ∧ (∀ l p, l < n0 → μ l = some p → μ' l = some p) ∧ (∀ l, n1 ≤ l → μ' l = none) ∧ Kept (lc h μ) w W' ∧ (∀ b o u, C b o u → C' b o u) ∧
   (∀ b o u, C' b o u → C b o u ∨ w.heap.size ≤ b ∨ lc h μ b) ∧ bW C' W' ∧ aN μ' C' r v ∧ Held (fun b => w.heap.size ≤ b ∨ lc h μ b) h' μ' C' W'
def V.le (x y : V) : Prop := ∀ μ C v, aN μ C x v → aN μ C y v
theorem V.le.refl (x : V) : x.le x := fun _ _ _ h => h
theorem V.le.d {x y : D} (h : x.le y) : (V.d x).le (.d y) := fun _ C v hv => h C v hv
def FY (P : Program) (fn : Func) (r : V) (h' : List (Nat × Blk)) (n1 : Nat) : Exit → St → Prop
 | .ret, st | .normal, st => (∃ v, ((ni P st fn.results.toList).map .d = some v ∨ (∃ pk, od P pk st fn.results.toList = some v)) ∧ v.le r) ∧ (∀ l k, look h' l = some k → look st.h l = some k) ∧ st.nx ≤ n1
 | _, _ => False
theorem zC {F : Fr} {st : St} {μ : Nat → Option Place} {C : aK} {a : Act} {w : World} (hs : Sim F st μ C a w) {fn : Func} {d : D} (hd : ni F.P st fn.results.toList = some d) : ∃ v, (results fn a.tmps).run F.P w = .ok v w ∧ Rep C d v := by
 simp only [ni, Option.map_eq_some_iff] at hd
 obtain ⟨es, he, hd⟩ := hd
 obtain ⟨us, h1, h2⟩ := oh hs he
 have hrun := lk (P := F.P) (fn := fn) h1
 have hul : us.length = es.length := iB h2
 rcases us with _ | ⟨u, _ | ⟨v, us⟩⟩
 ·rcases es with _ | ⟨e, es⟩
  ·subst hd; exact ⟨.tuple #[], hrun, .tup [] [] .onil⟩
  ·cases hul
 ·rcases es with _ | ⟨e, _ | ⟨e2, es⟩⟩
  ·cases hul
  ·cases h2 with
   | ocons _ _ _ _ h3 _ => subst hd; exact ⟨u, hrun, h3⟩
  ·simp at hul
 ·rcases es with _ | ⟨e, _ | ⟨e2, es⟩⟩
  ·cases hul
  ·simp at hul
  ·subst hd; exact ⟨_, hrun, .tup _ _ h2⟩
section
variable {P : Program} {G : Nat → Option D} {N : Nat}
theorem xp.of {f : FuncId} {fn : Func} {c : Code} {h : List (Nat × Blk)} {n0 : Nat} {xs : List V} {r : V} {h' : List (Nat × Blk)} {n1 : Nat} (hf : P.funcs[f]? = some fn) (hb : fn.body = some c) (hN : fn.ntmps = N) (hp : xs.length ≤ N)
  (hh : ∀ F, Env F P G N → F.n0 = n0 → F.top → Sm F c (FY P fn r h' n1) ⟨xs.zipIdx.map fun e => (e.2, e.1), h, n0⟩) : xp P G f h n0 xs r h' n1 := by
 intro μ C w vs hG hk hH hnx ha
 let F : Fr := ⟨P, N, w, C, lc h μ, none, n0, fun _ _ μ' _ _ => ∀ l p, l < n0 → μ l = some p → μ' l = some p, fun g t l p hl hp => t.low l p hl (g l p hl hp)⟩
 have hvl : vs.length = xs.length := ha.length
 have hsz : (vs.toArray ++ Array.replicate (fn.ntmps - vs.toArray.size) undef).size = N := by simp; omega
 have hlook : ∀ (xs : List V) (k : Nat) (t : Nat) (x : V), look ((xs.zipIdx k).map fun e => (e.2, e.1)) t = some x → k ≤ t ∧ xs[t - k]? = some x := by
  intro xs
  induction xs with
  | nil => intro k t x h; simp [look] at h
  | cons d xs ih =>
   intro k t x h
   simp only [List.zipIdx_cons, List.map_cons, look] at h
   split at h
   ·rename_i e; cases h; subst e; exact ⟨Nat.le_refl _, by simp⟩
   ·obtain ⟨h1, h2⟩ := ih _ _ _ h
    refine ⟨by omega, ?_⟩
    rw [show t - k = (t - (k + 1)) + 1 by omega]; simpa using h2
 have hsim : Sim F ⟨xs.zipIdx.map fun e => (e.2, e.1), h, n0⟩ μ C { tmps := vs.toArray ++ Array.replicate (fn.ntmps - vs.toArray.size) undef, defers := [] } w := by
  refine ⟨hsz, .nil _ _, Kept.refl _ _, fun _ _ _ h => h, fun _ _ _ h => .inl h, hk, fun t x hx => ?_, fun l k hk => ?_, hH.inj, hnx, fun _ _ _ h => h⟩
  ·obtain ⟨_, hd⟩ := hlook xs 0 t x hx
   rw [Nat.sub_zero] at hd
   obtain ⟨v, h1, h2⟩ := ha.get t x hd
   have htl := (List.getElem?_eq_some_iff.1 h1).1
   have : (vs.toArray ++ Array.replicate (fn.ntmps - vs.toArray.size) undef).getD t undef = v := by
    rw [Array.getD_eq_getD_getElem?, Array.getElem?_append_left (by simpa using htl)]
    simp [h1]
   rw [this]; exact h2
  ·obtain ⟨p, hp, hB⟩ := hH.heap l k hk
   refine ⟨p, hp, hB.sz, hB.len, hB.max, hB.row, fun hc => ?_⟩
   obtain ⟨_, b⟩ := hB.cells hc
   exact ⟨.inr ⟨l, k, p, hk, hp, hc, rfl⟩, b⟩
 refine kr (F := F) rfl rfl hf hb (hh F ⟨rfl, rfl, hG⟩ rfl ⟨rfl, fun _ _ _ _ _ _ _ _ h => h⟩) hsim (fun e st' hq => by cases e <;> first | exact .inl rfl | exact .inr rfl | exact hq.elim) ?_
 intro e st' μ' C' a w' hq hs0 a2 w'' _ hs
 have hq' : (∃ v, ((ni P st' fn.results.toList).map .d = some v ∨ (∃ pk, od P pk st' fn.results.toList = some v)) ∧ v.le r) ∧ (∀ l k, look h' l = some k → look st'.h l = some k) ∧ st'.nx ≤ n1 := by cases e <;> first | exact hq | exact hq.elim
 obtain ⟨⟨v, hv, hle⟩, hh', hn⟩ := hq'
 have hlow : ∀ l p, l < n0 → μ l = some p → μ' l = some p := hs0.gh
 have hres : ∃ u, (results fn a2.tmps).run P w'' = .ok u w'' ∧ aN μ' C' v u := by
  rcases hv with hv | ⟨pk, hv⟩
  ·simp only [Option.map_eq_some_iff] at hv
   obtain ⟨d, hd, rfl⟩ := hv
   obtain ⟨u, h1, h2⟩ := zC hs hd
   exact ⟨u, h1, h2⟩
  ·exact uQ hs hv
 obtain ⟨u, h1, h2⟩ := hres
 refine ⟨u, h1, u, μ', C', rfl, hlow, fun l hl => hs.nx l (by omega), hs.below, hs.sub, hs.new, hs.known, hle _ _ _ h2, fun l k hk => hs.heap l k (hh' l k hk), fun l l' p p' g1 g2 => ?_⟩
 refine hs.inj l l' p p' ?_ ?_
 ·obtain ⟨k, hk⟩ := Option.isSome_iff_exists.1 g1; rw [hh' l k hk]; rfl
 ·obtain ⟨k, hk⟩ := Option.isSome_iff_exists.1 g2; rw [hh' l' k hk]; rfl
structure Lend (σ : Nat → Nat) (h : List (Nat × Blk)) (n0 : Nat) (hc : List (Nat × Blk)) : Prop where
 dom : ∀ l, l < n0 → (look h l).isSome = true
 lt : ∀ l k, look h l = some k → l < n0
 blk : ∀ l k, look h l = some k → look hc (σ l) = some (k.ren σ)
 inj : ∀ l l', l < n0 → l' < n0 → σ l = σ l' → l = l'
 low : ∀ l k, look h l = some k → ∀ r ∈ k.rows, ∀ x ∈ r, V.lt n0 x = true ∧ x.noGh = true
theorem wC (σ : Nat → Nat) (sz : Nat) (rows : List (List D)) : (dB sz rows).ren σ = dB sz rows := by
 simp only [dB, Blk.ren, List.map_map]
 congr 1
 refine List.map_congr_left fun r _ => ?_
 simp [Function.comp_def, V.ren]
theorem Lend.one {m sz : Nat} {rows : List (List D)} {hc : List (Nat × Blk)} (hm : look hc m = some (dB sz rows)) : Lend (fun _ => m) [(0, dB sz rows)] 1 hc where
 dom l hl := by obtain rfl : l = 0 := by omega
                rfl
 lt l k hk := by
  simp only [look] at hk
  split at hk
  ·omega
  ·cases hk
 blk l k hk := by
  simp only [look] at hk
  split at hk
  ·cases hk; rw [wC]; exact hm
  ·cases hk
 inj l l' h1 h2 _ := by omega
 low l k hk r hr x hx := by
  simp only [look] at hk
  split at hk
  ·cases hk
   obtain ⟨r', _, rfl⟩ := List.mem_map.1 hr
   obtain ⟨d, _, rfl⟩ := List.mem_map.1 hx
   exact ⟨rfl, rfl⟩
  ·cases hk
def upN (σ : Nat → Nat) (n0 nx : Nat) (l : Nat) : Nat := if l < n0 then σ l else nx + (l - n0)
def zT (σ : Nat → Nat) (n0 nx : Nat) (h' hc hc' : List (Nat × Blk)) : Prop := ∀ m k, look hc' m = some k → (look hc m = some k ∧ ∀ l, l < n0 → σ l ≠ m) ∨ (∃ l k0, upN σ n0 nx l = m ∧ look h' l = some k0 ∧ k = k0.ren (upN σ n0 nx))
end
theorem RepVs.append {μ : Nat → Option Place} {C : aK} {xs ys : List V} {vs us : List Value} (h : RepVs μ C xs vs) (k : RepVs μ C ys us) : RepVs μ C (xs ++ ys) (vs ++ us) := by
 induction h with
 | nil => exact k
 | cons x v xs vs h1 _ ih => exact .cons _ _ _ _ h1 ih
section
variable {P : Program} {G : Nat → Option D} {N : Nat} {F : Fr} {ops : Array Oper} {rest : List Oper} {o : Oper} {Q : Exit → St → Prop} {st : St} {σ : Nat → Nat} {h0 h' hc' : List (Nat × Blk)} {n0 n1 : Nat} {r : V} {xs0 : List V}
end
theorem zT.one {m nx sz sz' : Nat} {rows rows' : List (List D)} {h : List (Nat × Blk)} (hm : look h m = some (dB sz rows)) : zT (fun _ => m) 1 nx [(0, dB sz' rows')] h (rep h m (dB sz' rows')) := by
 intro l k hk
 rw [gC] at hk
 split at hk
 ·rename_i e
  subst e
  rw [hm] at hk; cases hk
  exact .inr ⟨0, _, by simp [upN], rfl, (wC _ _ _).symm⟩
 ·rename_i e
  exact .inl ⟨hk, fun _ _ h => e h.symm⟩
section
variable {P : Program} {G : Nat → Option D} {N : Nat} {F : Fr} {ops rest : List Oper} {o : Oper} {Q : Exit → St → Prop} {env : List (Nat × V)} {h : List (Nat × Blk)} {nx n1 : Nat} {r : V} {xs0 : List V}
end
def leL : List D → List D → Prop
 | [], [] => True
 | x :: xs, y :: ys => x.le y ∧ leL xs ys
 | _, _ => False
theorem leL.refl : ∀ (xs : List D), leL xs xs
 | [] => trivial
 | _ :: xs => ⟨D.le.refl _, leL.refl xs⟩
theorem tJ {xs ys : List D} (h : leL xs ys) : (D.tup xs).le (.tup ys) := by
 intro C v hv
 cases hv with
 | tup _ vs hv =>
 refine .tup ys vs ?_
 induction xs generalizing ys vs with
 | nil => cases ys with
  | nil => exact hv
  | cons => exact h.elim
 | cons x xs ih => cases ys with
  | nil => exact h.elim
  | cons y ys => cases hv with | ocons _ v _ vs h1 h2 => exact .ocons _ _ _ _ (h.1 C v h1) (ih h.2 vs h2)
theorem yH {n : Nat} {xs ys : List D} (h : leL xs ys) : (D.agg n xs).le (.agg n ys) := by
 intro C v hv
 cases hv with
 | agg _ _ vs hn hv =>
 have hlen : ∀ (xs ys : List D), leL xs ys → xs.length = ys.length := by
  intro xs
  induction xs with
  | nil => intro ys h; cases ys with
   | nil => rfl
   | cons => exact h.elim
  | cons x xs ih => intro ys h; cases ys with
   | nil => exact h.elim
   | cons y ys => simp [ih ys h.2]
 refine .agg n ys vs (by rw [← hlen xs ys h]; exact hn) ?_
 clear hn
 induction xs generalizing ys vs with
 | nil => cases ys with
  | nil => exact hv
  | cons => exact h.elim
 | cons x xs ih => cases ys with
  | nil => exact h.elim
  | cons y ys => cases hv with | vcons _ v _ vs h0 h1 h2 => exact .vcons _ _ _ _ h0 (h.1 C v h1) (ih h.2 vs h2)
theorem tI {α β : Type} (f : α → Option β) : ∀ {l : List α} {r : List β}, l.mapM f = some r → ∀ i : Nat, (l[i]?).bind f = r[i]? := by
 intro l
 induction l with
 | nil => intro r h i; simp at h; subst h; simp
 | cons a l ih =>
  intro r h i
  rw [List.mapM_cons] at h
  simp only [Option.bind_eq_bind, Option.bind_eq_some_iff, Option.pure_def, Option.some.injEq] at h
  obtain ⟨b, hb, r', hr, rfl⟩ := h
  cases i with
  | zero => simpa using hb
  | succ i => simpa using ih hr i
theorem bg {P : Program} {t : TypeId} {pl : List (Nat × Nat)} {ps : List (Nat × V)} {z cs : List D} {n : Nat} (hz : aq P t = some z) (hp : gJ P t = some pl) (hn : z.length = n) (hf : ku (fun i => pl[i]?) ps z = some cs) : fm P t ps = some (.d (.agg n cs)) := by
 have hpl : ∃ g, iA P t = some g ∧ g = fun i => pl[i]? := by
  unfold gJ at hp
  unfold iA
  split at hp
  ·rename_i fs hu
   rw [hu]
   refine ⟨_, rfl, funext fun i => ?_⟩
   have := tI _ hp i
   rw [← this, Array.getElem?_toList]
  ·cases hp
 obtain ⟨g, hg, rfl⟩ := hpl
 simp only [fm, kx, hz, hg, Option.bind_some, hf, Option.map_some, hn]
def ltR (n : Nat) : List V → Prop
 | [] => True
 | x :: r => V.lt n x = true ∧ ltR n r
theorem uK (n : Nat) : ∀ (r : List D), ltR n (r.map V.d)
 | [] => trivial
 | _ :: r => ⟨rfl, uK n r⟩
theorem uB {n : Nat} : ∀ {r : List V}, ltR n r → ∀ x ∈ r, V.lt n x = true
 | [], _, x, hx => by cases hx
 | y :: r, h, x, hx => by
  rcases List.mem_cons.1 hx with rfl | hx
  ·exact h.1
  ·exact uB h.2 x hx
theorem y8 {n m sz : Nat} {r : List V} {h : List (Nat × Blk)} (f : ltH n h) (hr : ltR n r) : ltH n ((m, ⟨sz, [r]⟩) :: h) := tq f fun r' hr' x hx => by
 obtain rfl : r' = r := by simpa using hr'
 exact uB hr x hx
section
variable {P : Program} {G : Nat → Option D} {N : Nat} {F : Fr} {ops rest : List Oper} {o : Oper} {Q : Exit → St → Prop} {env : List (Nat × V)} {h : List (Nat × Blk)} {nx : Nat} {t e : TypeId} {z : Value} {size bytes : Nat}
end
end
section
open Go.RowKit
section
variable {P : Program} {G : Nat → Option D} {N : Nat} {F : Fr} {ops : Array Oper} {rest : List Oper} {o : Oper} {Q : Exit → St → Prop} {st : St} {t e : TypeId} {z : Value} {size bytes : Nat}
theorem sx (hE : ElemT P t e z size bytes) {k1 k2 : IntKind} {n : Nat} (hn : n ≤ 281474976710656) (hb : n * bytes ≤ 140737488355328) (w : World) :
  (Instr.makeSlice t (.int k1 n) (.int k2 n)).run P w = .ok (.slice (some ⟨w.heap.size, 0, none⟩) n n) (w.alloc (.cells ((Array.range (n * size)).map (fun i => (if n * size = 0 then #[] else z.cells)[i % (if n * size = 0 then #[] else z.cells).size]!)) e)) := by
 obtain ⟨i0, hi, hz0, hz1, hz2⟩ := info_parts hE.info
 have hw : IntKind.i64.wrap (n : Int) = n := bX _ (by omega)
 have hrb : roomBytes = 140737488355328 := rfl
 have hask : (askRoom (n * bytes)).run P w = .ok () w := by
  unfold askRoom
  rw [if_neg (by omega)]; rfl
 have hbz : decide ((bytes : Int) * (n : Int) > 2 ^ 48) = false := by
  have h1 : (bytes : Int) * (n : Int) = ((n * bytes : Nat) : Int) := by rw [Nat.mul_comm]; simp
  rw [h1]
  apply decide_eq_false
  have : ((2 : Int) ^ 48) = 281474976710656 := rfl
  omega
 have hti : (typeInfo e).run P w = .ok i0 w := by simp [typeInfo, hi]
 have hsz : (sizeOf e).run P w = .ok size w := by simp [sizeOf, typeInfo, hi, hz1]
 have hzv : (zeroValue e).run P w = .ok z w := by simp [zeroValue, typeInfo, hi, hz0]
 have hneg : decide ((n : Int) < 0) = false := decide_eq_false (by omega)
 have hgt : decide ((n : Int) > (n : Int)) = false := decide_eq_false (by omega)
 have hai : ∀ k w', (asInt (.int k (n : Int))).run P w' = .ok (n : Int) w' := fun _ _ => rfl
 unfold Instr.makeSlice
 simp only [Sem.run_bind, run_underlying hE.und, Result.andThen_ok, hai, Sem.run_pure, hti, hw, hz2, hneg, hbz, hgt, Bool.or_self, Bool.false_eq_true, if_false, Int.toNat_natCast, hask, hsz]
 by_cases h0 : n * size = 0
 ·simp only [h0, if_true, Sem.run_pure, Result.andThen_ok]
  rfl
 ·simp only [h0, if_false, Sem.run_bind, hzv, Sem.run_pure, Result.andThen_ok]
  rfl
theorem SmL.makeOwn (hF : Env F P G N) (hN : St.small N st) (hE : ElemT P t e z size bytes) (hz : z.cells.toList.all (·.oneCell') = true) {x y : Operand} {d : Tmp} {k1 k2 : IntKind} (n : Nat) (hg : bU ops st.env o.guard = some true) (ho : o.op = .makeSlice t x y) (hd : o.dst = some d) (hdN : d < N)
  (hx : evD G st.env x = some (.d (.v (.int k1 n)))) (hy : evD G st.env y = some (.d (.v (.int k2 n)))) (hn : n ≤ 281474976710656) (hb : n * bytes ≤ 140737488355328)
  (k : SmL F ops rest Q ⟨(d, .sref st.nx 0 n) :: st.env, (st.nx, dB size (List.replicate n (z.cells.toList.map bf))) :: st.h, st.nx + 1⟩) : SmL F ops (o :: rest) Q st := by
 intro μ C a w hs
 obtain ⟨rfl, rfl, hG⟩ := hF
 refine fV (fun _ => by rw [ho]; simp) fun K hK => ?_
 rw [dH hs hg hN, if_pos rfl]
 have hxv := bp (eh hs hG hx)
 have hyv := bp (eh hs hG hy)
 have hrun := sx (P := F.P) hE (k1 := k1) (k2 := k2) hn hb w
 unfold Oper.wp
 have hex : (execOp a.eval o).run F.P w = .ok (.value (.slice (some ⟨w.heap.size, 0, none⟩) n n)) (w.alloc (.cells ((Array.range (n * size)).map (fun i => (if n * size = 0 then #[] else z.cells)[i % (if n * size = 0 then #[] else z.cells).size]!)) e)) := by
  simp only [execOp, ho, hxv, hyv]
  simp [Sem.run_bind, hrun, Result.andThen]
 rw [hex, Oper.upon_value, hd]
 refine hK _ _ ?_
 have hzl : z.cells.toList.length = size := by rw [Array.length_toList]; exact hE.zs
 have hs1 := hs.allocCap n size ((List.replicate n (z.cells.toList.map bf)).map fun r => r.map V.d) ((Array.range (n * size)).map (fun i => (if n * size = 0 then #[] else z.cells)[i % (if n * size = 0 then #[] else z.cells).size]!)) e
  (by intro r hr; obtain ⟨r', hr', rfl⟩ := List.mem_map.1 hr; rw [List.eq_of_mem_replicate hr']; simpa using hzl) (by simp) (by omega) (by simp)
  (by
   intro i r hr j v hj
   have hin : i < n := by have := (List.getElem?_eq_some_iff.1 hr).1; simpa using this
   have hr' : r = (z.cells.toList.map bf).map V.d := by
    rw [List.getElem?_map, List.getElem?_replicate, if_pos hin] at hr
    simpa using hr.symm
   subst hr'
   have hjs : j < size := by have := (List.getElem?_eq_some_iff.1 hj).1; simp only [List.length_map] at this; omega
   have hzj : z.cells.toList[j]? = some z.cells.toList[j] := List.getElem?_eq_getElem (by omega)
   rw [List.getElem?_map, List.getElem?_map, hzj] at hj
   simp only [Option.map_some, Option.some.injEq] at hj
   have hlt : i * size + j < n * size := by
    have := Nat.mul_le_mul_right size (show i + 1 ≤ n by omega)
    rw [Nat.succ_mul] at this; omega
   have hne : n * size ≠ 0 := by omega
   have hcell : (i * size + j) % z.cells.size = j := by rw [hE.zs, Nat.mul_comm, Nat.mul_add_mod, Nat.mod_eq_of_lt hjs]
   refine ⟨z.cells.toList[j], ?_, List.all_eq_true.1 hz _ (List.getElem_mem _), ?_⟩
   ·simp only [Array.toList_map, List.getElem?_map, if_neg hne]
    rw [Array.getElem?_toList, Array.getElem?_eq_getElem (by simpa using hlt)]
    simp only [Array.getElem_range, Option.map_some, hcell]
    congr 1
    rw [getElem!_pos z.cells j (by rw [hE.zs]; exact hjs)]; simp
   ·subst hj; exact jr _)
 have hput := hs1.put (t := d) hdN (x := .sref st.nx 0 n) (v := .slice (some ⟨w.heap.size, 0, none⟩) n n) ⟨⟨w.heap.size, n, size⟩, some ⟨w.heap.size, 0, none⟩, (by show (if st.nx = st.nx then _ else _) = _; rw [if_pos rfl]), by simp, by simp, fun _ => by simp⟩
 exact k _ C _ _ hput
end
section
variable {P : Program} {G : Nat → Option D} {N : Nat} {F : Fr} {ops rest : List Oper} {o : Oper} {Q : Exit → St → Prop} {env : List (Nat × V)} {h : List (Nat × Blk)} {nx : Nat} {t e : TypeId} {z : Value} {size bytes : Nat}
theorem SmG.makeOwn (hF : Env F P G N) (hE : ElemT P t e z size bytes) (hz : z.cells.toList.all (·.oneCell') = true) {x y : Operand} {d : Tmp} {k1 k2 : IntKind} (n : Nat) (ho : o.op = .makeSlice t x y) (hd : o.dst = some d) (hdN : Nat.blt d N = true) (hg : bz ops env o.guard = some true)
  (hx : evB G env x = some (.d (.v (.int k1 n)))) (hy : evB G env y = some (.d (.v (.int k2 n)))) (hn : n ≤ 281474976710656) (hb : n * bytes ≤ 140737488355328)
  (k : SmG F N ops rest Q ⟨(d, .sref nx 0 n) :: env, (nx, dB size (List.replicate n (z.cells.toList.map bf))) :: h, nx + 1⟩) : SmG F N ops (o :: rest) Q ⟨env, h, nx⟩ := by
 have hdN' : d < N := by simpa [Nat.blt_eq] using hdN
 intro hsm
 rw [bK] at hx hy
 exact SmL.makeOwn hF hsm hE hz n (bN hg) ho hd hdN' hx hy hn hb (k (dK hsm hdN'))
end
end
section
open Go.RowKit
section
variable {P : Program} {G : Nat → Option D} {N : Nat} {F : Fr} {ops rest : List Oper} {o : Oper} {h : List (Nat × Blk)} {env : List (Nat × V)} {al : List (Nat × Blk)} {nx : Nat} {t e : TypeId} {z : Value} {size bytes : Nat} {K : List (Nat × V) → List (Nat × Blk) → Nat → Prop}
theorem gX.make (hF : Env F P G N) (hE : ElemT P t e z size bytes) (hz : z.cells.toList.all (·.oneCell') = true) {x y : Operand} {k1 k2 : IntKind} (n : Nat) (ho : o.op = .makeSlice t x y)
  (hx : evD G env x = some (.d (.v (.int k1 n)))) (hy : evD G env y = some (.d (.v (.int k2 n)))) (hn : n ≤ 281474976710656) (hb : n * bytes ≤ 140737488355328) :
  gX F G o env (dB size (List.replicate n (z.cells.toList.map bf))) (fun m => .sref m 0 n) := by
 intro μ C a w nx' hh hs hop m hm hfree K Q hK
 obtain ⟨rfl, rfl, hG⟩ := hF
 have hxv := bp (hop x (by rw [ho]; simp [Op.operands]) _ hx)
 have hyv := bp (hop y (by rw [ho]; simp [Op.operands]) _ hy)
 have hrun := sx (P := F.P) hE (k1 := k1) (k2 := k2) hn hb w
 unfold Oper.wp
 have hex : (execOp a.eval o).run F.P w = .ok (.value (.slice (some ⟨w.heap.size, 0, none⟩) n n)) (w.alloc (.cells ((Array.range (n * size)).map (fun i => (if n * size = 0 then #[] else z.cells)[i % (if n * size = 0 then #[] else z.cells).size]!)) e)) := by
  simp only [execOp, ho, hxv, hyv]
  simp [Sem.run_bind, hrun, Result.andThen]
 rw [hex, Oper.upon_value]
 have hk := hs.known
 have hzl : z.cells.toList.length = size := by rw [Array.length_toList]; exact hE.zs
 have hmore : More w C (w.alloc (.cells ((Array.range (n * size)).map (fun i => (if n * size = 0 then #[] else z.cells)[i % (if n * size = 0 then #[] else z.cells).size]!)) e)) C := .of_below hk ((Below.refl _ w).alloc (Nat.le_refl _) _)
 have hs2 := hs.adopt hmore (m := m) (n' := nx') hfree hm (Nat.le_refl _) (p := ⟨w.heap.size, n, size⟩) (sz := size) (rows := List.replicate n (z.cells.toList.map bf))
  ⟨rfl, by simp [dB], by show n ≤ _; omega, by
   intro r hr
   obtain ⟨r', hr', rfl⟩ := List.mem_map.1 hr
   rw [List.eq_of_mem_replicate hr']
   simpa using hzl, fun _ => ⟨Nat.le_refl _, fun o u hc => absurd (hk.lt hc) (Nat.lt_irrefl _), _, e, heap_alloc_new w _, by simp, by
   intro i r hr j v hj
   have hin : i < n := by have := (List.getElem?_eq_some_iff.1 hr).1; simpa [dB] using this
   have hr' : r = (z.cells.toList.map bf).map V.d := by
    simp only [dB] at hr
    rw [List.getElem?_map, List.getElem?_replicate, if_pos hin] at hr
    simpa using hr.symm
   subst hr'
   have hjs : j < size := by have := (List.getElem?_eq_some_iff.1 hj).1; simp only [List.length_map] at this; omega
   have hzj : z.cells.toList[j]? = some z.cells.toList[j] := List.getElem?_eq_getElem (by omega)
   rw [List.getElem?_map, List.getElem?_map, hzj] at hj
   simp only [Option.map_some, Option.some.injEq] at hj
   have hlt : i * size + j < n * size := by
    have := Nat.mul_le_mul_right size (show i + 1 ≤ n by omega)
    rw [Nat.succ_mul] at this; omega
   have hne : n * size ≠ 0 := by omega
   have hcell : (i * size + j) % z.cells.size = j := by rw [hE.zs, Nat.mul_comm, Nat.mul_add_mod, Nat.mod_eq_of_lt hjs]
   refine ⟨z.cells.toList[j], ?_, List.all_eq_true.1 hz _ (List.getElem_mem _), ?_⟩
   ·simp only [dB, Array.toList_map, List.getElem?_map, if_neg hne]
    rw [Array.getElem?_toList, Array.getElem?_eq_getElem (by simpa using hlt)]
    simp only [Array.getElem_range, Option.map_some, hcell]
    congr 1
    rw [getElem!_pos z.cells j (by rw [hE.zs]; exact hjs)]; simp
   ·subst hj; exact jr _⟩⟩
 refine hK _ _ _ C hs2 (fun _ _ _ h => h) (fun l q hq => ?_) (fun l hl => by simp [hl]) ⟨⟨w.heap.size, n, size⟩, some ⟨w.heap.size, 0, none⟩, by simp, by simp, by simp, fun _ => by simp⟩
 have : l ≠ m := fun e => by rw [e, hfree] at hq; cases hq
 simp [this, hq]
theorem aF.make (hF : Env F P G N) (hE : ElemT P t e z size bytes) (hz : z.cells.toList.all (·.oneCell') = true) {x y : Operand} {d : Tmp} {k1 k2 : IntKind} (n : Nat) (ho : o.op = .makeSlice t x y) (hd : o.dst = some d) (hdN : Nat.blt d N = true) (hg : bz ops env o.guard = some true)
  (hx : evB G env x = some (.d (.v (.int k1 n)))) (hy : evB G env y = some (.d (.v (.int k2 n)))) (hn : n ≤ 281474976710656) (hb : n * bytes ≤ 140737488355328)
  (k : aF F G N ops.toArray h rest ((d, .sref nx 0 n) :: env) ((nx, dB size (List.replicate n (z.cells.toList.map bf))) :: al) (nx + 1) K) : aF F G N ops.toArray h (o :: rest) env al nx K := by
 rw [bK] at hx hy
 exact .inl ⟨d, hd, by simpa [Nat.blt_eq] using hdN, .inr ⟨_, fun m => .sref m 0 n, bN hg, .make hF hE hz n ho hx hy hn hb, k⟩⟩
end
end
section
open Go.RowKit
section
variable {P : Program} {G : Nat → Option D} {N : Nat} {F : Fr} {l : List Oper} {Q : Exit → St → Prop} {st : St}
end
end
section
open Go.RowKit
def SmM (F : Fr) (l : List Oper) (n : Nat) (ls : List Bool) (Q : Exit → St → Prop) (st : St) : Prop := ∀ μ C a w, Sim F st μ C a w → wpAnyIn F.fz 0 F.P .any l.toArray (Sq F Q) n ls.toArray a w
def Bx (s k : Nat) : List Bool := (List.range s).map fun i => decide (i < k)
section
variable {F : Fr} {l : List Oper} {Q : Exit → St → Prop} {st : St} {P : Program} {G : Nat → Option D} {N : Nat}
theorem zH {k n : Nat} {ls : List Bool} (hn : Nat.beq (l.length - k) n = true) (hl : Bx l.length k = ls) (h : SmM F l n ls Q st) : SmA F l k Q st := by
 have hn' := Nat.eq_of_beq_eq_true hn
 intro μ C a w hs
 have := h μ C a w hs
 rw [← hl, ← hn'] at this
 exact this
theorem SmM.nil {n : Nat} {ls : List Bool} (hr : Region.ready .any l.toArray ls.toArray = []) (q : Q .normal st) : SmM F l n ls Q st := by
 intro μ C a w hs
 have hq : Sq F Q .normal a w := ⟨st, μ, C, q, hs⟩
 cases n with
 | zero => exact ⟨hr, hq⟩
 | succ n => exact ⟨fun _ => hq, fun i hi => by rw [hr] at hi; cases hi⟩
def r6 (F : Fr) (N : Nat) (l : List Oper) (n : Nat) (ls : List Bool) (Q : Exit → St → Prop) (st : St) : List Nat → Prop
 | [] => True
 | i :: r => (∃ o, l[i]? = some o ∧ SmG F N l [o] (cZ (SmM F l n (ls.set i true) Q) Q) st) ∧ r6 F N l n ls Q st r
theorem r6.get {n : Nat} {ls : List Bool} : ∀ {is : List Nat}, r6 F N l n ls Q st is → ∀ i ∈ is, ∃ o, l[i]? = some o ∧ SmG F N l [o] (cZ (SmM F l n (ls.set i true) Q) Q) st := by
 intro is
 induction is with
 | nil => intro _ i hi; cases hi
 | cons j is ih =>
  intro h i hi
  rcases List.mem_cons.1 hi with rfl | hi
  ·exact h.1
  ·exact ih h.2 i hi
theorem SmM.step (hF : Env F P G N) {n : Nat} {ls : List Bool} (is : List Nat) (hN : gN N st.env = true) (hr : Region.ready .any l.toArray ls.toArray = is) (hne : is.isEmpty = false) (h : r6 F N l n ls Q st is) : SmM F l (n + 1) ls Q st := by
 intro μ C a w hs
 refine ⟨fun e => ?_, fun i hi => ?_⟩
 ·rw [hr] at e; subst e; cases hne
 rw [hr] at hi
 obtain ⟨o, ho, hw⟩ := h.get i hi
 have hw := hw (kc hN) μ C a w hs
 have hset : ls.toArray.setIfInBounds i true = (ls.set i true).toArray := by simp
 rw [hset]
 have hoA : l.toArray[i]? = some o := by simpa using ho
 unfold wpOpIn
 rw [hoA]
 dsimp only
 obtain ⟨Q', hQ'⟩ : ∃ Q', Q' = cZ (SmM F l n (ls.set i true) Q) Q := ⟨_, rfl⟩
 rw [← hQ'] at hw
 have hQ1 : ∀ st', Q' .normal st' → SmM F l n (ls.set i true) Q st' := fun st' q => by rw [hQ'] at q; exact q
 have hQ2 : ∀ e st', e ≠ .normal → Q' e st' → Q e st' := fun e st' he q => by rw [hQ'] at q; cases e <;> first | exact q | exact absurd rfl he
 have hw : (if Region.wanted o (yielded l.toArray a.tmps) then o.wpIn F.fz 0 F.P a w (fun a2 w2 => Sq F Q' .normal a2 w2) (Sq F Q') else (∀ f, o.about F.P w a.eval = some f → F.fz.fn f) ∧ Sq F Q' .normal (a.put o.dst undef) w) := hw
 have key : ∀ a2 w2, Sq F Q' .normal a2 w2 → wpAnyIn F.fz 0 F.P .any l.toArray (Sq F Q) n (ls.set i true).toArray a2 w2 := by
  intro a2 w2 h2
  obtain ⟨st', μ', C', hq, hs'⟩ := h2
  exact (hQ1 _ hq) μ' C' a2 w2 hs'
 split
 ·rename_i hwt
  rw [if_pos hwt] at hw
  refine Oper.wpIn_mono key (mo (fun e a w he q => ?_) hw)
  obtain ⟨st', μ', C', hq, hs'⟩ := q
  exact ⟨st', μ', C', hQ2 _ _ he hq, hs'⟩
 ·rename_i hwt
  rw [if_neg hwt] at hw
  exact ⟨hw.1, key _ _ hw.2⟩
end
end
section
open Go.RowKit
section
variable {P : Program} {G : Nat → Option D} {N : Nat} {F : Fr} {ops rest : List Oper} {o : Oper} {Q : Exit → St → Prop} {h0 h : List (Nat × Blk)} {env : List (Nat × V)} {al : List (Nat × Blk)} {nx : Nat} {K : List (Nat × V) → List (Nat × Blk) → Nat → Prop}
theorem mn (hF : Env F P G N) {d : Tmp} {x : V} (hd : o.dst = some d) (hdN : Nat.blt d N = true) (hg : bz ops env o.guard = some true) (hnd : ∀ c, o.op ≠ .defer c) (hx : dZ F G h o env x) (k : SmG F N ops rest Q ⟨(d, x) :: env, h, nx⟩) : SmG F N ops (o :: rest) Q ⟨env, h, nx⟩ := by
 have hdN' : d < N := by simpa [Nat.blt_eq] using hdN
 intro hsm μ C a w hsim
 have k2 := k (dK hsm hdN')
 obtain ⟨rfl, rfl, hG⟩ := hF
 refine fV (fun _ => hnd) fun K hK => ?_
 rw [dH hsim (bN hg) hsm, if_pos rfl]
 refine hx μ C a w nx h (hsim.less (fun t x hx => by simp [look] at hx) (fun _ _ h => h) (Nat.le_refl _)) (fun _ _ h => h) (fun y _ v hv => eh hsim hG hv) K _ fun u w' C' hm hu => ?_
 rw [hd]
 exact hK _ _ (k2 μ C' _ w' ((hsim.more hm).put hdN' hu))
theorem s3 {a : Act} {s d : TypeId} {x : Operand} (ho : o.op = .convert s d x) : execOp a.eval o = (do pure (.value (← convert s d (a.eval x))) : Sem Next) := by
 unfold execOp; rw [ho]
theorem dZ.ofString (hF : Env F P G N) {s d e : TypeId} {x : Operand} {l : List UInt8} (ho : o.op = .convert s d x) (hx : evD G env x = some (.d (.v (.string ⟨l.toArray⟩))))
  (h1 : P.underlying s = some .string) (h2 : P.underlying d = some (.slice e)) (h3 : P.underlying e = some (.int .u8)) (hl : l.length ≤ 140737488355328) : dZ F G h0 o env (.d (.list 1 (l.map aH) false)) := by
 intro μ C a w nx' hh hsim hold hop K Q hK
 obtain ⟨rfl, rfl, hG⟩ := hF
 have hxv : aN μ C (.d (.v (.string ⟨l.toArray⟩))) (a.eval x) := hop x (by rw [ho]; simp [Op.operands]) _ hx
 have hxe := bp hxv
 unfold Oper.wp
 rw [s3 ho, Sem.run_bind, hxe, run_bytes_of_string w s d e ⟨l.toArray⟩ h1 h2 h3]
 show Oper.upon F.P o a K _ (.ok (.value _) _)
 rw [Oper.upon_value]
 have hk := hsim.known
 have hsz : (⟨l.toArray⟩ : ByteArray).size = l.length := rfl
 rw [hsz]
 have hge := grownCap_ge w l.length 0 e
 have hle := grownCap_le_maxLen w l.length 0 e (by unfold maxLen; omega)
 generalize grownCap w l.length 0 e = g at hge hle ⊢
 have hdr : Below w.heap.size w w.drew := (Below.refl _ _).drew
 have hb := hdr.alloc (Nat.le_refl _) (.cells (bytesRow ⟨l.toArray⟩ g) e ((bytesRow ⟨l.toArray⟩ g).size, (bytesRow ⟨l.toArray⟩ g).size + 1))
 have hnew : (w.drew.alloc (.cells (bytesRow ⟨l.toArray⟩ g) e ((bytesRow ⟨l.toArray⟩ g).size, (bytesRow ⟨l.toArray⟩ g).size + 1))).heap[w.heap.size]? = some (.cells (bytesRow ⟨l.toArray⟩ g) e ((bytesRow ⟨l.toArray⟩ g).size, (bytesRow ⟨l.toArray⟩ g).size + 1)) := heap_alloc_new w.drew _
 have hcell : ∀ (j : Nat) (b : UInt8), l[j]? = some b → (bytesRow ⟨l.toArray⟩ g)[j]? = some (.int .u8 b.toNat) := fun j b hj => by
  have hjl := (List.getElem?_eq_some_iff.1 hj).1
  unfold bytesRow
  rw [Array.getElem?_append_left (by simpa using hjl)]
  simp [hj]
 refine hK _ _ (lL C w.heap.size (bytesRow ⟨l.toArray⟩ g)) ⟨hb, fun _ _ _ h => .inl h, fun b o u h => h.imp id (fun h => by omega), fun b o u h => ?_⟩ ?_
 ·rcases h with h | ⟨rfl, h⟩
  ·exact hk.below hb b o u h
  ·left
   unfold World.cell?
   simp only [hnew]
   exact h
 ·show Rep _ _ _
  have hlen : (l.map aH).length = l.length := by simp
  cases hl0 : l with
  | nil => exact .nil 1 false _ g ⟨by omega, by simp, by unfold maxLen at hle; omega, (by intro h; cases h), fun x hx _ => by cases hx; rfl⟩
  | cons b0 r =>
   rw [← hl0]
   have := Rp.list (C := lL C w.heap.size (bytesRow ⟨l.toArray⟩ g)) 1 (l.map aH) false w.heap.size 0 g (by rw [hl0]; simp) ⟨by simpa using hge, by simp, by unfold maxLen at hle; omega, (by intro h; cases h), fun x hx _ => by cases hx; rfl⟩
    (jt fun i x hi => by
     rw [List.getElem?_map] at hi
     simp only [Option.map_eq_some_iff] at hi
     obtain ⟨b, hb, rfl⟩ := hi
     refine ⟨rfl, iJ fun j d hj => ?_⟩
     have hj0 : j = 0 := by have := (List.getElem?_eq_some_iff.1 hj).1; simp [aH] at this; omega
     subst hj0
     simp [aH] at hj
     subst hj
     exact ⟨_, .inr ⟨rfl, by simpa using hcell i b hb⟩, rfl, .v _⟩)
   rw [hlen] at this
   exact this
def pD (l : List UInt8) : Option (List UInt8) := if l.length ≤ 4294967296 then some l else none
theorem sy {l r : List UInt8} (h : pD l = some r) : r = l ∧ l.length ≤ 4294967296 := by
 unfold pD at h; split at h
 ·cases h; exact ⟨rfl, by assumption⟩
 ·cases h
theorem SmG.ofString (hF : Env F P G N) {s d e : TypeId} {x : Operand} {l r : List UInt8} {t : Tmp} (ho : o.op = .convert s d x) (hd : o.dst = some t) (hdN : Nat.blt t N = true) (hg : bz ops env o.guard = some true) (hx : evB G env x = some (.d (.v (.string ⟨l.toArray⟩))))
  (h1 : P.underlying s = some .string) (h2 : P.underlying d = some (.slice e)) (h3 : P.underlying e = some (.int .u8)) (hv : pD l = some r) (k : SmG F N ops rest Q ⟨(t, .d (.list 1 (r.map aH) false)) :: env, h, nx⟩) : SmG F N ops (o :: rest) Q ⟨env, h, nx⟩ := by
 obtain ⟨rfl, hl⟩ := sy hv
 rw [bK] at hx
 exact mn hF hd hdN hg (fun c e => by rw [ho] at e; cases e) (.ofString hF ho hx h1 h2 h3 (by omega)) k
theorem aF.ofString (hF : Env F P G N) {s d e : TypeId} {x : Operand} {l r : List UInt8} {t : Tmp} (ho : o.op = .convert s d x) (hd : o.dst = some t) (hdN : Nat.blt t N = true) (hg : bz ops env o.guard = some true) (hx : evB G env x = some (.d (.v (.string ⟨l.toArray⟩))))
  (h1 : P.underlying s = some .string) (h2 : P.underlying d = some (.slice e)) (h3 : P.underlying e = some (.int .u8)) (hv : pD l = some r) (k : aF F G N ops.toArray h rest ((t, .d (.list 1 (r.map aH) false)) :: env) al nx K) : aF F G N ops.toArray h (o :: rest) env al nx K := by
 obtain ⟨rfl, hl⟩ := sy hv
 rw [bK] at hx
 exact .inl ⟨t, hd, by simpa [Nat.blt_eq] using hdN, .inl ⟨_, .inl ⟨bN hg, .ofString hF ho hx h1 h2 h3 (by omega)⟩, k⟩⟩
end
end
section
open Go.RowKit
section
variable {P : Program} {G : Nat → Option D} {N : Nat} {F : Fr} {ops rest : List Oper} {o : Oper} {Q : Exit → St → Prop} {h0 h : List (Nat × Blk)} {env : List (Nat × V)} {al : List (Nat × Blk)} {nx : Nat} {K : List (Nat × V) → List (Nat × Blk) → Nat → Prop} {t e : TypeId} {z : Value} {size bytes : Nat}
theorem xy (hF : Env F P G N) {d : Tmp} {k : Blk} {res : Nat → V} (hd : o.dst = some d) (hdN : Nat.blt d N = true) (hg : bz ops env o.guard = some true) (hnd : ∀ c, o.op ≠ .defer c) (hx : gX F G o env k res) (kk : SmG F N ops rest Q ⟨(d, res nx) :: env, (nx, k) :: h, nx + 1⟩) : SmG F N ops (o :: rest) Q ⟨env, h, nx⟩ := by
 have hdN' : d < N := by simpa [Nat.blt_eq] using hdN
 intro hsm μ C a w hsim
 have k2 := kk (dK hsm hdN')
 obtain ⟨rfl, rfl, hG⟩ := hF
 refine fV (fun _ => hnd) fun K hK => ?_
 rw [dH hsim (bN hg) hsm, if_pos rfl]
 have hs1 : Sim F ⟨[], h, nx + 1⟩ μ C a w := hsim.less (fun t x hx => by simp [look] at hx) (fun _ _ h => h) (Nat.le_succ _)
 refine hx μ C a w (nx + 1) h hs1 (fun y _ v hv => eh hsim hG hv) nx (Nat.lt_succ_self _) (hsim.nx nx (Nat.le_refl _)) K _ fun u w' μ' C' hs2 hC hμ hμ2 hu => ?_
 rw [hd]
 refine hK _ _ (k2 μ' C' _ w' (Sim.put (st := ⟨env, (nx, k) :: h, nx + 1⟩) ?_ hdN' hu))
 exact ⟨hs2.size, hs2.defers, hs2.below, hs2.sub, hs2.new, hs2.known, fun t x hx => (hsim.env t x hx).mono hμ hC, hs2.heap, hs2.inj, hs2.nx, hs2.gh⟩
theorem sv {a : Act} {s x : Operand} {tn : TypeId} (ho : o.op = .call ⟨.builtin .append, #[s, x], #[t, tn]⟩) : execOp a.eval o = (do pure (.value (← Builtin.append_ #[t, tn] o.type #[a.eval s, a.eval x])) : Sem Next) := by
 simp only [execOp, ho]
 show builtin .append #[t, tn] o.type (#[s, x].map fun | .const _ => true | _ => false) (#[s, x].map a.eval) = _
 simp [builtin]
theorem gX.appendMake (hF : Env F P G N) (hE : ElemT P t e z size bytes) {s x : Operand} {tn : TypeId} {kn : IntKind} (htn : P.underlying tn = some (.int kn)) {sz : Nat} {k : Nat} (ho : o.op = .call ⟨.builtin .append, #[s, x], #[t, tn]⟩)
  (hs : evD G env s = some (.d (.list sz [] true))) (hx : evD G env x = some (.d (.v (.int .i64 (k : Int))))) (hk : 0 < k) (hb : k * bytes ≤ 140737488355328) (hb2 : k ≤ 140737488355328) :
  gX F G o env (dB size []) (fun m => .sref m 0 k) := by
 intro μ C a w nx' hh hsim hop m hm hfree K Q hK
 obtain ⟨rfl, rfl, hG⟩ := hF
 obtain ⟨i0, hi, hz0, hz1, hz2⟩ := info_parts hE.info
 have hp := hE.pos
 have hsv : aN μ C (.d (.list sz [] true)) (a.eval s) := hop s (by rw [ho]; simp [Op.operands, Call.operands]) _ hs
 have hxv : aN μ C (.d (.v (.int .i64 (k : Int)))) (a.eval x) := hop x (by rw [ho]; simp [Op.operands, Call.operands]) _ hx
 have hxe := bp hxv
 have hkn := hsim.known
 obtain ⟨ao, cap, vs, e1, hcap, hvl, hvv, hvx, hvr⟩ := cI (P := F.P) (size := size) hkn hsv (.inr rfl)
 have hdr : Below w.heap.size w w.drew := (Below.refl _ _).drew
 have hr1 := hvr w.drew hdr
 rw [e1, hcap rfl] at hr1
 have hv0 : vs = [] := List.eq_nil_of_length_eq_zero (by simpa using hvl)
 subst hv0
 unfold Oper.wp
 rw [sv ho, Sem.run_bind, e1, hxe]
 rw [hcap rfl]
 have hnx : Builtin.nextslicecap (0 + k) 0 = k := by unfold Builtin.nextslicecap; simp [hk]
 have hrun := Lib.run_append_grow_zeros (P := F.P) w t tn o.type e i0 z .i64 kn hE.und htn hi hz0 ao 0 0 [] (by rw [hz1]; exact hr1) k hk (by rw [hz1]; exact hp) (by omega) (by omega) (by rw [hz2]; omega) (by rw [hnx, hz2]; omega)
 have hge := grownCap_ge w (0 + k) 0 e
 have hle := grownCap_le_maxLen w (0 + k) 0 e (by unfold maxLen; omega)
 simp only [List.length_nil]
 rw [hrun, Result.andThen_ok]
 show Oper.upon F.P o a K _ (.ok (.value _) _)
 rw [Oper.upon_value]
 generalize hgc : grownCap w (0 + k) 0 e = g at hge hle ⊢
 have hmore : More w C (w.drew.alloc (.cells (([] : List Value).toArray ++ Builtin.zeroCells z.cells k ++ Builtin.zeroCells z.cells (g - (0 + k))) e)) C := .of_below hkn (hdr.alloc (Nat.le_refl _) _)
 have hs2 := hsim.adopt hmore (m := m) (n' := nx') hfree hm (Nat.le_refl _) (p := ⟨w.heap.size, g, size⟩) (sz := size) (rows := [])
  ⟨rfl, by simp [dB], by unfold maxLen at hle; exact Nat.le_trans hle (by decide), by simp [dB], fun _ => ⟨Nat.le_refl _, fun o u hc => absurd (hkn.lt hc) (Nat.lt_irrefl _), _, e, heap_alloc_new w.drew _, by
   simp only [Array.size_append, List.size_toArray, size_zeroCells, hE.zs, List.length_nil, Nat.zero_add]
   rw [← Nat.add_mul]; congr 1; omega, fun i r hr => by simp [dB] at hr⟩⟩
 refine hK _ _ _ C hs2 (fun _ _ _ h => h) (fun l q hq => ?_) (fun l hl => by simp [hl]) ⟨⟨w.heap.size, g, size⟩, some ⟨w.heap.size, 0, none⟩, by simp, by simp, by simp; omega, fun _ => by simp⟩
 have : l ≠ m := fun e => by rw [e, hfree] at hq; cases hq
 simp [this, hq]
theorem SmG.appendMake (hF : Env F P G N) (hE : ElemT P t e z size bytes) {s x : Operand} {tn : TypeId} {kn : IntKind} (htn : P.underlying tn = some (.int kn)) {sz k : Nat} {d : Tmp} {n : Int} (ho : o.op = .call ⟨.builtin .append, #[s, x], #[t, tn]⟩) (hd : o.dst = some d) (hdN : Nat.blt d N = true) (hg : bz ops env o.guard = some true)
  (hs : evB G env s = some (.d (.list sz [] true))) (hx : evB G env x = some (.d (.v (.int .i64 n)))) (hn : n = (k : Int)) (hk : 0 < k) (hb : k * bytes ≤ 140737488355328) (hb2 : k ≤ 140737488355328)
  (kk : SmG F N ops rest Q ⟨(d, .sref nx 0 k) :: env, (nx, dB size []) :: h, nx + 1⟩) : SmG F N ops (o :: rest) Q ⟨env, h, nx⟩ := by
 subst hn
 rw [bK] at hs hx
 exact xy hF hd hdN hg (fun c e => by rw [ho] at e; cases e) (.appendMake hF hE htn ho hs hx hk hb hb2) kk
theorem xX {a : Act} {x : Operand} (ho : o.op = .call ⟨.builtin .cap, #[x], #[t]⟩) : execOp a.eval o = (do pure (.value (← Builtin.cap_ #[t] o.type #[a.eval x])) : Sem Next) := by
 simp only [execOp, ho]
 show builtin .cap #[t] o.type (#[x].map fun | .const _ => true | _ => false) (#[x].map a.eval) = _
 simp [builtin]
theorem dZ.capFull (hF : Env F P G N) {x : Operand} {sz : Nat} {xs : List (List D)} (hu : P.underlying t = some (.slice e)) (ho : o.op = .call ⟨.builtin .cap, #[x], #[t]⟩) (hx : evD G env x = some (.d (.list sz xs true))) : dZ F G h0 o env (.d (.v (.int .i64 (xs.length : Int)))) := by
 intro μ C a w nx' hh hsim hold hop K Q hK
 obtain ⟨rfl, rfl, hG⟩ := hF
 have hxv : aN μ C (.d (.list sz xs true)) (a.eval x) := hop x (by rw [ho]; simp [Op.operands, Call.operands]) _ hx
 have hk := hsim.known
 obtain ⟨ao, cap, e1, hcb, _⟩ := Rep.elem hxv
 have hc := hcb.full rfl
 subst hc
 unfold Oper.wp
 rw [xX ho, Sem.run_bind, e1]
 have : (Builtin.cap_ #[t] o.type #[.slice ao xs.length xs.length]).run F.P w = .ok (.int .i64 (xs.length : Int)) w := by
  simp [Builtin.cap_, run_underlying hu, goInt]
 rw [this, Result.andThen_ok]
 show Oper.upon F.P o a K _ (.ok (.value _) w)
 rw [Oper.upon_value]
 exact hK _ _ C (.of_below hk (Below.refl _ _)) (Rp.v _)
theorem dZ.sliceNil (hF : Env F P G N) {x y : Operand} {sz s : Nat} (hu : P.underlying t = some (.slice e)) (hs : ah P e = some s) (ho : o.op = .slice t x none (some y) none) (hx : evD G env x = some (.d (.list sz [] true))) (hy : evD G env y = some (.d (.v (.int .i64 0)))) : dZ F G h0 o env (.d (.list sz [] true)) := by
 intro μ C a w nx' hh hsim hold hop K Q hK
 obtain ⟨rfl, rfl, hG⟩ := hF
 have hxv : aN μ C (.d (.list sz [] true)) (a.eval x) := hop x (by rw [ho]; simp [Op.operands]) _ hx
 have hyv : aN μ C (.d (.v (.int .i64 0))) (a.eval y) := hop y (by rw [ho]; simp [Op.operands]) _ hy
 have hye := bp hyv
 have hk := hsim.known
 obtain ⟨ao, cap, e1, hcb, _⟩ := Rep.elem hxv
 have hc : cap = 0 := hcb.full rfl
 subst hc
 have e1 : a.eval x = .slice ao 0 0 := e1
 have he : execOp a.eval o = (do pure (.value (← Instr.sliceAt t (a.eval x) none (some (a.eval y)) none)) : Sem Next) := by simp only [execOp, ho, Option.map_none, Option.map_some]
 unfold Oper.wp
 rw [he, Sem.run_bind, e1, hye]
 have : (Instr.sliceAt t (.slice ao 0 0) none (some (.int .i64 0)) none).run F.P w = .ok (.slice ao 0 0) w := by
  have hi : (asIntOf (.int .i64 0)).run F.P w = .ok (.i64, 0) w := rfl
  simp [Instr.sliceAt, Instr.slice, Sem.run_bind, run_underlying hu, fW hs, Result.andThen, Instr.sliceBounds, Instr.sliceBound, hi]
 rw [this, Result.andThen_ok]
 show Oper.upon F.P o a K _ (.ok (.value _) w)
 rw [Oper.upon_value]
 refine hK _ _ C (.of_below hk (Below.refl _ _)) ?_
 rw [e1] at hxv
 exact hxv
theorem SmG.capFull (hF : Env F P G N) {x : Operand} {d : Tmp} {sz : Nat} {xs : List (List D)} (hu : P.underlying t = some (.slice e)) (ho : o.op = .call ⟨.builtin .cap, #[x], #[t]⟩) (hd : o.dst = some d) (hdN : Nat.blt d N = true) (hg : bz ops env o.guard = some true) (hx : evB G env x = some (.d (.list sz xs true)))
  (k : SmG F N ops rest Q ⟨(d, .d (.v (.int .i64 (xs.length : Int)))) :: env, h, nx⟩) : SmG F N ops (o :: rest) Q ⟨env, h, nx⟩ := by
 rw [bK] at hx
 exact mn hF hd hdN hg (fun c e => by rw [ho] at e; cases e) (.capFull hF hu ho hx) k
theorem SmG.sliceNil (hF : Env F P G N) {x y : Operand} {d : Tmp} {sz s : Nat} (hu : P.underlying t = some (.slice e)) (hs : ah P e = some s) (ho : o.op = .slice t x none (some y) none) (hd : o.dst = some d) (hdN : Nat.blt d N = true) (hg : bz ops env o.guard = some true) (hx : evB G env x = some (.d (.list sz [] true))) (hy : evB G env y = some (.d (.v (.int .i64 0))))
  (k : SmG F N ops rest Q ⟨(d, .d (.list sz [] true)) :: env, h, nx⟩) : SmG F N ops (o :: rest) Q ⟨env, h, nx⟩ := by
 rw [bK] at hx hy
 exact mn hF hd hdN hg (fun c e => by rw [ho] at e; cases e) (.sliceNil hF hu hs ho hx hy) k
end
end
section
open Go.RowKit
set_option maxRecDepth 100000
def ob {α β : Type} (x : Option α) (f : α → Option β) : Option β := x.bind f
theorem aa {α β : Type} {x : Option α} {f : α → Option β} {r : β} (h : ob x f = some r) : ∃ v, x = some v ∧ f v = some r := Option.bind_eq_some_iff.1 h
theorem gH {α β : Type} {x : Option α} {v : α} {f : α → Option β} (h : x = some v) : ob x f = f v := by rw [h]; rfl
theorem ifT {α : Type} {c : Bool} {x y z : α} (hc : c = true) (h : (bif c then x else y) = z) : x = z := by subst hc; exact h
theorem ifF {α : Type} {c : Bool} {x y z : α} (hc : c = false) (h : (bif c then x else y) = z) : y = z := by subst hc; exact h
theorem kU (c : Bool) : c = true ∨ c = false := by cases c <;> simp
theorem ac {α : Type} {x y : α} (h : some x = some y) : x = y := Option.some.inj h
theorem dg {α β : Type} {x y : α} (h : some (Sum.inl x : α ⊕ β) = some (.inl y)) : some x = some y := by cases h; rfl
theorem gr {α β : Type} {x y : β} (h : some (Sum.inr x : α ⊕ β) = some (.inr y)) : some x = some y := by cases h; rfl
def arI (k : IntKind) (n : Int) : Option Int := if k.wrap n = n then some n else none
def jz (k : IntKind) (a b : Int) : Option Int := if b = 0 then none else arI k (a.tdiv b)
def cF (a b : Int) : Option Int := if b = 0 then none else some (a.tmod b)
def tb (k : IntKind) (a b : Int) : Option Int := if b < 0 then none else some (k.wrap (a * 2 ^ (min b.toNat k.bits)))
def j3 (k : IntKind) (a b : Int) : Option Int := if b < 0 then none else some (a.fdiv (2 ^ (min b.toNat k.bits)))
def dY (k : IntKind) (a b : Int) : Int := k.wrap (BitVec.ofInt k.bits a &&& BitVec.ofInt k.bits b).toNat
theorem mA {k : IntKind} {n v : Int} (h : arI k n = some v) : v = n ∧ k.wrap n = n := by
 unfold arI at h; split at h
 ·rename_i hw; cases h; exact ⟨rfl, hw⟩
 ·cases h
theorem aQ {n : Int} (h : -9223372036854775808 ≤ n ∧ n ≤ 9223372036854775807) : arI .i64 n = some n := by unfold arI; rw [if_pos (bX n (by omega))]
theorem we {n : Int} (h : 0 ≤ n ∧ n ≤ 255) : arI .u8 n = some n := by unfold arI; rw [if_pos (Aj n h)]
theorem s7 {a b : Int} (ha : 0 ≤ a ∧ a ≤ 9223372036854775807) (hb : 0 < b) : jz .i64 a b = some (a / b) := by
 unfold jz
 rw [if_neg (by omega), Int.tdiv_eq_ediv_of_nonneg ha.1, aQ]
 have := Int.ediv_nonneg ha.1 (Int.le_of_lt hb)
 have := Int.ediv_le_self b ha.1
 omega
theorem mT {a b : Int} (ha : 0 ≤ a ∧ a ≤ 255) (hb : 0 < b) : jz .u8 a b = some (a / b) := by
 unfold jz
 rw [if_neg (by omega), Int.tdiv_eq_ediv_of_nonneg ha.1, we]
 have := Int.ediv_nonneg ha.1 (Int.le_of_lt hb)
 have := Int.ediv_le_self b ha.1
 omega
theorem bF {a b : Int} (ha : 0 ≤ a) (hb : 0 < b) : cF a b = some (a % b) := by
 unfold cF
 rw [if_neg (by omega), Int.tmod_eq_emod_of_nonneg ha]
section
variable {P : Program} {t : TypeId} {x y : Operand} {k : IntKind} {a b v : Int}
theorem aU (h : arI k (a + b) = some v) : bb P (do eqGuard .add t x y (.int k a) (.int k b); binOp .add t (.int k a) (.int k b)) = some (.int k v) := by obtain ⟨rfl, hw⟩ := mA h; rw [cT, hw]
theorem nV (h : arI k (a - b) = some v) : bb P (do eqGuard .sub t x y (.int k a) (.int k b); binOp .sub t (.int k a) (.int k b)) = some (.int k v) := by obtain ⟨rfl, hw⟩ := mA h; rw [ky, hw]
theorem iH (h : arI k (a * b) = some v) : bb P (do eqGuard .mul t x y (.int k a) (.int k b); binOp .mul t (.int k a) (.int k b)) = some (.int k v) := by obtain ⟨rfl, hw⟩ := mA h; rw [jM, hw]
theorem kC (h : jz k a b = some v) : bb P (do eqGuard .quo t x y (.int k a) (.int k b); binOp .quo t (.int k a) (.int k b)) = some (.int k v) := by
 unfold jz at h
 split at h
 ·cases h
 ·rename_i h0; obtain ⟨rfl, hw⟩ := mA h; rw [tD _ _ _ _ _ _ _ h0, hw]
theorem bM (h : cF a b = some v) : bb P (do eqGuard .rem t x y (.int k a) (.int k b); binOp .rem t (.int k a) (.int k b)) = some (.int k v) := by
 unfold cF at h
 split at h
 ·cases h
 ·rename_i h0; cases h; rw [oy _ _ _ _ _ _ _ h0]
theorem AW {k2 : IntKind} (h : tb k a b = some v) : bb P (do eqGuard .shl t x y (.int k a) (.int k2 b); binOp .shl t (.int k a) (.int k2 b)) = some (.int k v) := by
 unfold tb at h
 split at h
 ·cases h
 ·rename_i h0; cases h; rw [wy _ _ _ _ _ _ _ k2 h0]
theorem lH {k2 : IntKind} (h : j3 k a b = some v) : bb P (do eqGuard .shr t x y (.int k a) (.int k2 b); binOp .shr t (.int k a) (.int k2 b)) = some (.int k v) := by
 unfold j3 at h
 split at h
 ·cases h
 ·rename_i h0; cases h; rw [sY _ _ _ _ _ _ _ k2 h0]
theorem tc : bb P (do eqGuard .and t x y (.int k a) (.int k b); binOp .and t (.int k a) (.int k b)) = some (.int k (dY k a b)) := lG ..
theorem uI {s d : TypeId} {td : TypeDesc} {k2 : IntKind} (h1 : P.underlying s = some td) (h2 : P.underlying d = some (.int k)) : gU P s d (.d (.v (.int k2 a))) = some (.d (.v (.int k (k.wrap a)))) := by
 simp only [gU, sU P k a s d h1 h2 k2, Option.map_some]
theorem AX {s u : List UInt8} {v : Bool} (h : (s == u) = v) : bb P (do eqGuard .eql t x y (.string ⟨s.toArray⟩) (.string ⟨u.toArray⟩); binOp .eql t (.string ⟨s.toArray⟩) (.string ⟨u.toArray⟩)) = some (.bool v) := by
 rw [zh]
 have e (l : List UInt8) : (⟨l.toArray⟩ : ByteArray).toList = l := by simp
 rw [e, e, h]
theorem kB {s u : List UInt8} {v : Bool} (h : (!(s == u)) = v) : bb P (do eqGuard .neq t x y (.string ⟨s.toArray⟩) (.string ⟨u.toArray⟩); binOp .neq t (.string ⟨s.toArray⟩) (.string ⟨u.toArray⟩)) = some (.bool v) := by
 rw [zp]
 have e (l : List UInt8) : (⟨l.toArray⟩ : ByteArray).toList = l := by simp
 rw [e, e, h]
end
def gD {S E : Type} (body : S → Option (S ⊕ E)) : Nat → S → Option E
 | 0, _ => none
 | n + 1, s => ob (body s) fun o => match o with
  | .inl s' => gD body n s'
  | .inr e => some e
theorem uS {S E : Type} {body : S → Option (S ⊕ E)} : ∀ {n : Nat} {s : S} {e : E}, gD body n s = some e → gD body (n + 1) s = some e := by
 intro n
 induction n with
 | zero => intro s e h; cases h
 | succ n ih =>
  intro s e h
  rw [gD] at h ⊢
  obtain ⟨o, h1, h2⟩ := aa h
  rw [gH h1]
  cases o with
  | inl s' => exact ih h2
  | inr e => exact h2
theorem sE {S E : Type} {body : S → Option (S ⊕ E)} {n m : Nat} {s : S} {e : E} (h : gD body n s = some e) (hm : n ≤ m) : gD body m s = some e := by
 induction m with
 | zero => obtain rfl : n = 0 := by omega
           exact h
 | succ m ih => rcases Nat.lt_or_ge m n with h1 | h1
                ·obtain rfl : n = m + 1 := by omega
                 exact h
                ·exact uS (ih h1)
open Classical in
noncomputable def bm {S E : Type} (body : S → Option (S ⊕ E)) (s : S) : Option E := if h : ∃ n e, gD body n s = some e then some h.choose_spec.choose else none
theorem lY {S E : Type} {body : S → Option (S ⊕ E)} {s : S} {e : E} : bm body s = some e ↔ ∃ n, gD body n s = some e := by
 unfold bm
 constructor
 ·intro h
  split at h
  ·rename_i hx
   cases h
   exact ⟨_, hx.choose_spec.choose_spec⟩
  ·cases h
 ·rintro ⟨n, hn⟩
  have hx : ∃ n e, gD body n s = some e := ⟨n, e, hn⟩
  rw [dif_pos hx]
  have h2 := hx.choose_spec.choose_spec
  have h3 := sE h2 (Nat.le_max_left _ n)
  have h4 := sE hn (Nat.le_max_right hx.choose n)
  rw [h4] at h3
  exact h3.symm
theorem nu {S E : Type} {body : S → Option (S ⊕ E)} {s : S} {e : E} (h : body s = some (.inr e)) : bm body s = some e := lY.2 ⟨1, by rw [gD, gH h]⟩
theorem i5 {S E : Type} {body : S → Option (S ⊕ E)} {s s' : S} {e : E} (h : body s = some (.inl s')) (k : bm body s' = some e) : bm body s = some e := by
 obtain ⟨n, hn⟩ := lY.1 k
 exact lY.2 ⟨n + 1, by rw [gD, gH h]; exact hn⟩
theorem ye {S E : Type} {body : S → Option (S ⊕ E)} (I : S → Prop) (m : S → Nat) {R : E → Prop} {s : S} (h0 : I s) (h : ∀ s, I s → (∃ s', body s = some (.inl s') ∧ I s' ∧ m s' < m s) ∨ ∃ e, body s = some (.inr e) ∧ R e) : ∃ e, bm body s = some e ∧ R e := by
 have key : ∀ n s, m s = n → I s → ∃ e, bm body s = some e ∧ R e := by
  intro n
  induction n using Nat.strongRecOn with
  | _ n ih =>
   intro s hm hi
   rcases h s hi with ⟨s', h1, h2, h3⟩ | ⟨e, h1, h2⟩
   ·obtain ⟨e, h4, h5⟩ := ih _ (hm ▸ h3) s' rfl h2
    exact ⟨e, i5 h1 h4, h5⟩
   ·exact ⟨e, nu h1, h2⟩
 exact key _ s rfl h0
theorem lS {S E : Type} {body : S → Option (S ⊕ E)} (f : Nat → S) (n : Nat) {e : E} (hs : ∀ i, i < n → body (f i) = some (.inl (f (i + 1)))) (he : body (f n) = some (.inr e)) : bm body (f 0) = some e := by
 have key : ∀ d i, i + d = n → bm body (f i) = some e := by
  intro d
  induction d with
  | zero => intro i h; obtain rfl : i = n := by omega
            exact nu he
  | succ d ih => intro i h; exact i5 (hs i (by omega)) (ih (i + 1) (by omega))
 exact key n 0 (by omega)
def vd {S E : Type} (body : S → Option (S ⊕ E)) (n : Nat) (e : E) (o : S ⊕ E) : Prop := (∃ s', o = .inl s' ∧ gD body n s' = some e) ∨ o = .inr e
theorem aX {S E : Type} {body : S → Option (S ⊕ E)} {n : Nat} {e : E} {o : S ⊕ E} {s' : S} (h : some (Sum.inl s' : S ⊕ E) = some o) (hd : vd body n e o) : gD body n s' = some e := by
 cases h
 rcases hd with ⟨s2, h1, h2⟩ | h1
 ·cases h1; exact h2
 ·cases h1
theorem aC {S E : Type} {body : S → Option (S ⊕ E)} {n : Nat} {e x : E} {o : S ⊕ E} (h : some (Sum.inr x : S ⊕ E) = some o) (hd : vd body n e o) : some x = some e := by
 cases h
 rcases hd with ⟨s2, h1, h2⟩ | h1
 ·cases h1
 ·cases h1; rfl
section
variable {F : Fr} {Q Q' : Exit → St → Prop} {st st' st'' : St} {env env' : List (Nat × V)} {h h' : List (Nat × Blk)} {nx nx' : Nat}
theorem aL (h1 : St.to F st st') (h2 : St.to F st' st'') : St.to F st st'' := fun μ C a w hs => by
 obtain ⟨μ', C', hs'⟩ := h1 μ C a w hs
 exact h2 μ' C' a w hs'
theorem qc (hl : st.le st') : St.to F st st' := fun μ C _ _ hs => ⟨μ, C, hs.less hl.1 hl.2.1 hl.2.2⟩
theorem aW {c y : Code} (I : St) (h1 : Sm F y Q I) (h2 : Sm F c (cZ (fun st' => St.to F st' I) Q') st) : Sm F c (cZ (Sm F y Q) Q') st := by
 refine Sm.mono ?_ h2
 intro e st' hq
 cases e <;> first | exact Sm.to hq h1 | exact hq
theorem xB {c : Code} {ι : Type} (inv : ι → St) (m : ι → Nat) (i0 : ι) (h0 : St.to F st (inv i0)) (round : ∀ i, Sm F c (cZ (fun st' => ∃ j, m j < m i ∧ St.to F st' (inv j)) Q) (inv i)) : Sm F (.loop c) Q st := by
 intro μ C a w hs b k cs hro hb hr
 have key : ∀ n i, m i = n → ∀ μ C a w, Sim F (inv i) μ C a w → ∃ e a' w', Sq F Q e a' w' ∧ ArrivesIn (Machine.fenced F.P F.fz) F.P (lone (b.atR a (.code c :: .inLoop c :: k)) cs w) b k cs e a' w' := by
  intro n
  induction n using Nat.strongRecOn with
  | _ n ih =>
   intro i hi μ C a w hs
   obtain ⟨e, a1, w1, hq, harr⟩ := round i μ C a w hs b (.inLoop c :: k) cs hro hb hr
   obtain ⟨st1, μ1, C1, h1, h2⟩ := hq
   cases e with
   | normal =>
    obtain ⟨j, hj, hle⟩ := h1
    obtain ⟨μ2, C2, h3⟩ := hle μ1 C1 a1 w1 h2
    obtain ⟨e2, a2, w2, hq2, harr2⟩ := ih (m j) (hi ▸ hj) j rfl μ2 C2 a1 w1 h3
    exact ⟨e2, a2, w2, hq2, .of_steps (StepsIn.trans harr (.one (fenced_calm hb hr rfl) stepR_inLoop)) harr2⟩
   | exit id => exact ⟨_, a1, w1, ⟨st1, μ1, C1, h1, h2⟩, .pass (x := .inLoop c) rfl (fun _ _ => .inl (by simp)) harr⟩
   | goto l => exact ⟨_, a1, w1, ⟨st1, μ1, C1, h1, h2⟩, .pass (x := .inLoop c) rfl (fun _ _ => .inl (by simp)) harr⟩
   | ret => exact ⟨_, a1, w1, ⟨st1, μ1, C1, h1, h2⟩, .pass (x := .inLoop c) rfl (fun _ _ => .inl (by simp)) harr⟩
   | panic ch => exact ⟨_, a1, w1, ⟨st1, μ1, C1, h1, h2⟩, .pass (x := .inLoop c) rfl (fun _ _ => .inl (by simp)) harr⟩
   | outgrown => exact ⟨_, a1, w1, ⟨st1, μ1, C1, h1, h2⟩, .pass (x := .inLoop c) rfl (fun _ _ => .inl (by simp)) harr⟩
 obtain ⟨μ', C', hs'⟩ := h0 μ C a w hs
 obtain ⟨e, a', w', hq, harr⟩ := key _ i0 rfl μ' C' a w hs'
 exact ⟨e, a', w', hq, .of_steps (.one (fenced_calm hb hr rfl) stepR_loop) harr⟩
theorem ba {c : Code} {S E : Type} (body : S → Option (S ⊕ E)) (I : S → St) (s0 : S) {e : E} (he : bm body s0 = some e) (h0 : St.to F st (I s0))
  (round : ∀ n s o, body s = some o → vd body n e o → Sm F c (cZ (fun st' => ∃ s', gD body n s' = some e ∧ St.to F st' (I s')) Q) (I s)) : Sm F (.loop c) Q st := by
 obtain ⟨n0, hn0⟩ := lY.1 he
 refine xB (ι := {p : Nat × S // gD body p.1 p.2 = some e}) (fun p => I p.1.2) (fun p => p.1.1) ⟨(n0, s0), hn0⟩ h0 ?_
 rintro ⟨⟨n, s⟩, hn⟩
 cases n with
 | zero => cases hn
 | succ n =>
  rw [gD] at hn
  obtain ⟨o, h1, h2⟩ := aa hn
  refine Sm.mono ?_ (round n s o h1 ?_)
  ·intro e st' hq
   cases e with
   | normal =>
    obtain ⟨s', h3, h4⟩ := hq
    exact ⟨⟨(n, s'), h3⟩, Nat.lt_succ_self _, h4⟩
   | _ => exact hq
  ·cases o with
   | inl s' => exact .inl ⟨s', rfl, h2⟩
   | inr x => simp only [Option.some.injEq] at h2; subst h2; exact .inr rfl
def Rds (F : Fr) (c : Code) (Q : Exit → St → Prop) : Nat → St → Prop
 | 0, _ => False
 | m + 1, st => Sm F c (cZ (Rds F c Q m) Q) st
theorem Sm.rounds {c : Code} (m : Nat) (k : Rds F c Q m st) : Sm F (.loop c) Q st := by
 intro μ C a w hs
 refine wpIn_loop_rounds m ?_
 have key : ∀ m st μ C a w, Rds F c Q m st → Sim F st μ C a w → Code.roundsIn F.fz 0 F.P c (Sq F Q) m a w := by
  intro m
  induction m with
  | zero => intro st μ C a w h _; exact h.elim
  | succ m ih =>
   intro st μ C a w h hs
   rw [roundsIn_succ]
   refine wpIn_mono (h μ C a w hs) ?_
   intro e a' w' hq
   obtain ⟨st', μ', C', h1, h2⟩ := hq
   cases e with
   | normal => exact ih st' μ' C' a' w' h1 h2
   | _ => exact ⟨st', μ', C', h1, h2⟩
 exact key m st μ C a w k hs
def sJ (env : List (Nat × V)) : List (Nat × V) → Prop
 | [] => True
 | (t, y) :: r => (∃ x, cw env t = some x ∧ V.le x y) ∧ sJ env r
theorem sJ.look {env : List (Nat × V)} : ∀ {env' : List (Nat × V)}, sJ env env' → ∀ t y, look env' t = some y → ∃ x, Go.Proofs.YtbaccmkhjmmlnaaDoor.look env t = some x ∧ V.le x y := by
 intro env'
 induction env' with
 | nil => intro _ t y h; simp [Go.Proofs.YtbaccmkhjmmlnaaDoor.look] at h
 | cons e r ih =>
  obtain ⟨t0, y0⟩ := e
  intro h t y hl
  simp only [Go.Proofs.YtbaccmkhjmmlnaaDoor.look] at hl
  split at hl
  ·rename_i e; subst e; cases hl
   obtain ⟨x, h1, h2⟩ := h.1
   rw [bV] at h1
   exact ⟨x, h1, h2⟩
  ·exact ih h.2 t y hl
inductive CellsR : List V → List V → Prop
 | nil : CellsR [] []
 | cons {x y : V} {xs ys : List V} : V.le x y → CellsR xs ys → CellsR (x :: xs) (y :: ys)
theorem CellsR.refl : ∀ xs, CellsR xs xs
 | [] => .nil
 | x :: xs => .cons (V.le.refl x) (CellsR.refl xs)
theorem CellsR.length {xs ys : List V} (h : CellsR xs ys) : xs.length = ys.length := by induction h with | nil => rfl | cons _ _ ih => simp [ih]
theorem CellsR.get {xs ys : List V} (h : CellsR xs ys) : ∀ (j : Nat) (y : V), ys[j]? = some y → ∃ x, xs[j]? = some x ∧ V.le x y := by
 induction h with
 | nil => intro j y h; simp at h
 | cons h1 _ ih =>
  intro j y hj
  cases j with
  | zero => simp at hj; subst hj; exact ⟨_, rfl, h1⟩
  | succ j => simpa using ih j y (by simpa using hj)
inductive RowsR : List (List V) → List (List V) → Prop
 | nil : RowsR [] []
 | cons {x y : List V} {xs ys : List (List V)} : CellsR x y → RowsR xs ys → RowsR (x :: xs) (y :: ys)
theorem RowsR.refl : ∀ xs, RowsR xs xs
 | [] => .nil
 | x :: xs => .cons (CellsR.refl x) (RowsR.refl xs)
theorem RowsR.length {xs ys : List (List V)} (h : RowsR xs ys) : xs.length = ys.length := by induction h with | nil => rfl | cons _ _ ih => simp [ih]
theorem RowsR.get {xs ys : List (List V)} (h : RowsR xs ys) : ∀ (j : Nat) (y : List V), ys[j]? = some y → ∃ x, xs[j]? = some x ∧ CellsR x y := by
 induction h with
 | nil => intro j y h; simp at h
 | cons h1 _ ih =>
  intro j y hj
  cases j with
  | zero => simp at hj; subst hj; exact ⟨_, rfl, h1⟩
  | succ j => simpa using ih j y (by simpa using hj)
def og (k k' : Blk) : Prop := k.sz = k'.sz ∧ RowsR k.rows k'.rows
theorem og.refl (k : Blk) : og k k := ⟨rfl, RowsR.refl _⟩
theorem og.row {sz : Nat} {r r' : List V} (h : CellsR r r') : og ⟨sz, [r]⟩ ⟨sz, [r']⟩ := ⟨rfl, .cons h .nil⟩
def qt (h : List (Nat × Blk)) : List (Nat × Blk) → Prop
 | [] => True
 | (l, k') :: r => (∃ k, cw h l = some k ∧ og k k') ∧ qt h r
theorem qt.look {h : List (Nat × Blk)} : ∀ {h' : List (Nat × Blk)}, qt h h' → ∀ t y, look h' t = some y → ∃ x, Go.Proofs.YtbaccmkhjmmlnaaDoor.look h t = some x ∧ og x y := by
 intro env'
 induction env' with
 | nil => intro _ t y h; simp [Go.Proofs.YtbaccmkhjmmlnaaDoor.look] at h
 | cons e r ih =>
  obtain ⟨t0, y0⟩ := e
  intro h t y hl
  simp only [Go.Proofs.YtbaccmkhjmmlnaaDoor.look] at hl
  split at hl
  ·rename_i e; subst e; cases hl
   obtain ⟨x, h1, h2⟩ := h.1
   rw [bV] at h1
   exact ⟨x, h1, h2⟩
  ·exact ih h.2 t y hl
theorem vX (hE : sJ env env') (hH : qt h h') (hn : nx ≤ nx') : St.to F ⟨env, h, nx⟩ ⟨env', h', nx'⟩ := by
 intro μ C a w hs
 have hdom : ∀ l, (look h' l).isSome = true → (look h l).isSome = true := fun l hl => by
  obtain ⟨k, hk⟩ := Option.isSome_iff_exists.1 hl
  obtain ⟨k0, h0, _⟩ := hH.look l k hk
  rw [h0]; rfl
 refine ⟨μ, C, hs.size, hs.defers, hs.below, hs.sub, hs.new, hs.known, fun t y hy => ?_, fun l k hk => ?_, fun l l' p p' h1 h2 => hs.inj l l' p p' (hdom l h1) (hdom l' h2), fun l hl => hs.nx l (Nat.le_trans hn hl),
  F.stab hs.gh ⟨rfl, rfl, rfl, Nat.le_refl _, fun _ _ _ h => h, fun l hl => .inl (hdom l hl), fun _ _ _ => rfl, fun b ⟨l, k, p, h1, h2⟩ => ?_, fun _ _ _ h => h, fun _ _ _ h => .inl h, hs.known⟩⟩
 ·obtain ⟨x, h1, h2⟩ := hE.look t y hy
  exact h2 μ C _ (hs.env t x h1)
 ·obtain ⟨k0, h0, hb⟩ := hH.look l k hk
  obtain ⟨p, hp, hok⟩ := hs.heap l k0 h0
  refine ⟨p, hp, hok.sz.trans hb.1, by rw [← hb.2.length]; exact hok.len, hok.max, fun r hr => ?_, fun hc => ?_⟩
  ·obtain ⟨i, hi⟩ := List.getElem?_of_mem hr
   obtain ⟨r0, h1, h2⟩ := hb.2.get i r hi
   rw [← h2.length, ← hb.1]
   exact hok.row r0 (List.mem_of_getElem? h1)
  ·obtain ⟨c1, c2, cur, T, c3, c4, c5⟩ := hok.cells hc
   refine ⟨c1, c2, cur, T, c3, c4, fun i r hr j x hx => ?_⟩
   obtain ⟨r0, h1, h2⟩ := hb.2.get i r hr
   obtain ⟨x0, h3, h4⟩ := h2.get j x hx
   obtain ⟨u, g1, g2, g3⟩ := c5 i r0 h1 j x0 h3
   rw [hb.1] at g1
   exact ⟨u, g1, g2, h4 μ C u g3⟩
 ·obtain ⟨k0, h0, _⟩ := hH.look l k h1
  exact .inl ⟨l, k0, p, h0, h2⟩
theorem vW (n : Nat) (hE : (env.all fun e => V.lt n e.2) = true) (hH : ltH n h) (hL : (h.all fun e => Nat.blt e.1 n) = true) (hn : F.n0 ≤ n := by omega) : St.to F ⟨env, h, nx⟩ ⟨env, h, n⟩ := by
 refine aL (oQ (st := ⟨env, h, nx⟩) n hH hn) (qc ⟨fun t x hx => ?_, fun l k hk => ?_, Nat.le_refl _⟩)
 ·simp only [l6]
  rw [hx]
  have : V.lt n x = true := by
   have hm : ∀ (r : List (Nat × V)) (x : V), look r t = some x → (t, x) ∈ r := by
    intro r
    induction r with
    | nil => intro x h; simp [look] at h
    | cons e r ih =>
     obtain ⟨k', y'⟩ := e
     intro x h
     simp only [look] at h
     split at h
     ·rename_i hk; cases h; subst hk; simp
     ·exact List.mem_cons_of_mem _ (ih x h)
   exact List.all_eq_true.1 hE _ (hm _ _ hx)
  simp [this]
 ·simp only [iK]
  have : l < n := by
   have hm : ∀ (r : List (Nat × Blk)) (x : Blk), look r l = some x → (l, x) ∈ r := by
    intro r
    induction r with
    | nil => intro x h; simp [look] at h
    | cons e r ih =>
     obtain ⟨k', y'⟩ := e
     intro x h
     simp only [look] at h
     split at h
     ·rename_i hk; cases h; subst hk; simp
     ·exact List.mem_cons_of_mem _ (ih x h)
   have := List.all_eq_true.1 hL _ (hm _ _ hk)
   simpa [Nat.blt_eq] using this
  rw [if_pos this]
  exact hk
def xV (l sz : Nat) (rows : List (List D)) (env : List (Nat × V)) : List (Nat × V) → Prop
 | [] => True
 | (t, y) :: r => (∃ x, cw env t = some x ∧ ft l sz rows x = y) ∧ xV l sz rows env r
inductive CellsF (l sz : Nat) (rows : List (List D)) : List V → List V → Prop
 | nil : CellsF l sz rows [] []
 | cons {x y : V} {xs ys : List V} : ft l sz rows x = y → CellsF l sz rows xs ys → CellsF l sz rows (x :: xs) (y :: ys)
theorem CellsF.map {l sz : Nat} {rows : List (List D)} {xs ys : List V} (h : CellsF l sz rows xs ys) : xs.map (ft l sz rows) = ys := by induction h with | nil => rfl | cons h1 _ ih => simp [h1, ih]
def vr (l sz : Nat) (rows : List (List D)) (h : List (Nat × Blk)) : List (Nat × Blk) → Prop
 | [] => True
 | (m, k') :: r => (Nat.beq m l = false ∧ ∃ k, cw h m = some k ∧ i9 (ft l sz rows) k = k') ∧ vr l sz rows h r
theorem yu {l sz sz' : Nat} {rows : List (List D)} {r r' : List V} (h : CellsF l sz rows r r') : i9 (ft l sz rows) ⟨sz', [r]⟩ = ⟨sz', [r']⟩ := by simp [i9, h.map]
theorem zB {l sz sz' : Nat} {rows rs : List (List D)} : i9 (ft l sz rows) (dB sz' rs) = dB sz' rs := y5 ..
theorem wd {l sz : Nat} {rows : List (List D)} : ft l sz rows (.sref l 0 rows.length) = .d (.list sz rows false) := by simp [ft]
theorem uE {α : Type} {l sz : Nat} {row : α → List D} {xs : List α} : ft l sz (xs.map row) (.sref l 0 (xs.map row).length) = .d (.list sz (xs.map row) false) := wd
theorem xC {l sz : Nat} (rows : List (List D)) (hk : cw h l = some (dB sz rows)) (hE : xV l sz rows env env') (hH : vr l sz rows h h') : St.to F ⟨env, h, nx⟩ ⟨env', h', nx⟩ := by
 rw [bV] at hk
 refine aL (r3 (st := ⟨env, h, nx⟩) rows hk rfl) (qc ⟨?_, ?_, Nat.le_refl _⟩)
 ·intro t y hy
  simp only [m4]
  clear hH
  induction env' with
  | nil => simp [look] at hy
  | cons e r ih =>
   obtain ⟨t0, y0⟩ := e
   simp only [look] at hy
   split at hy
   ·rename_i e; subst e; cases hy
    obtain ⟨x, h1, h2⟩ := hE.1
    rw [bV] at h1
    rw [h1, ← h2]; rfl
   ·exact ih hE.2 hy
 ·intro m k hm
  simp only [z8, jx, iV]
  clear hE
  induction h' with
  | nil => simp [look] at hm
  | cons e r ih =>
   obtain ⟨t0, y0⟩ := e
   simp only [look] at hm
   split at hm
   ·rename_i e; subst e; cases hm
    obtain ⟨h0, x, h1, h2⟩ := hH.1
    rw [bV] at h1
    rw [if_neg (Nat.ne_of_beq_eq_false h0), h1, ← h2]; rfl
   ·exact ih hH.2 hm
end
def idx {α : Type} (l : List α) (i : Int) : Option α := if 0 ≤ i then l[i.toNat]? else none
theorem j7 {α : Type} {l : List α} {i : Int} {x : α} (h : idx l i = some x) : 0 ≤ i ∧ l[i.toNat]? = some x ∧ i < (l.length : Int) := by
 unfold idx at h
 split at h
 ·rename_i h0
  have := (List.getElem?_eq_some_iff.1 h).1
  exact ⟨h0, h, by omega⟩
 ·cases h
theorem ed {α : Type} {l : List α} (i : Nat) : idx l (i : Int) = l[i]? := by unfold idx; rw [if_pos (by omega)]; simp
def slc {α : Type} (l : List α) (lo hi : Int) : Option (List α) := if 0 ≤ lo ∧ lo ≤ hi ∧ hi ≤ (l.length : Int) then some ((l.take hi.toNat).drop lo.toNat) else none
def app {α : Type} (l k : List α) : Option (List α) := if l.length + k.length ≤ 4294967296 then some (l ++ k) else none
theorem zE {α : Type} {l k r : List α} (h : app l k = some r) : r = l ++ k ∧ l.length + k.length ≤ 4294967296 := by
 unfold app at h; split at h
 ·rename_i hl; cases h; exact ⟨rfl, hl⟩
 ·cases h
theorem bB {α : Type} {l k : List α} (h : l.length + k.length ≤ 4294967296) : app l k = some (l ++ k) := if_pos h
def ol (n : Int) : Option Nat := if 0 ≤ n ∧ n ≤ 4294967296 then some n.toNat else none
theorem sN {n : Int} {m : Nat} (h : ol n = some m) : n = (m : Int) ∧ m ≤ 4294967296 := by
 unfold ol at h; split at h
 ·cases h; omega
 ·cases h
def pA (n : Int) : Option UInt8 := if 0 ≤ n ∧ n ≤ 255 then some (UInt8.ofNat n.toNat) else none
theorem xE {n : Int} {b : UInt8} (h : pA n = some b) : n = (b.toNat : Int) := by
 unfold pA at h; split at h
 ·cases h
  have : (UInt8.ofNat n.toNat).toNat = n.toNat := by simp; omega
  omega
 ·cases h
section
variable {P : Program} {h : List (Nat × Blk)} {t e : TypeId} {l i off m sz : Nat} {α : Type} {xs : List α} {row : α → List D} {x x' : α} {n : Int} {k : IntKind}
theorem aT {f : Bool} (hu : P.underlying t = some (.slice e)) (hs : ah P e = some sz) (hv : idx xs n = some x) : cz P h t (.d (.list sz (xs.map row) f)) (.d (.v (.int k n))) = some (.d (.ptr sz (row x))) := by
 obtain ⟨h0, h1, h2⟩ := j7 hv
 simp [cz, i8, hu, hs, h0, h1]
theorem oX (hu : P.underlying t = some (.slice e)) (hs : ah P e = some sz) (hl : cw h l = some (dB sz (xs.map row))) (hv : idx xs n = some x) : cz P h t (.sref l 0 (xs.map row).length) (.d (.v (.int k n))) = some (.ref l n.toNat 0) := by
 obtain ⟨h0, h1, h2⟩ := j7 hv
 exact Ar (n := 0) hu hs rfl hl h0 (by simpa using h2) (by simp)
theorem AJ {d : D} (hl : cw h l = some (dB sz (xs.map row))) (hv : idx xs n = some x) (ha : au P t = some false) (hx : (row x)[off]? = some d) : fy P h t (.ref l n.toNat off) = some (.d d) := by
 obtain ⟨h0, h1, h2⟩ := j7 hv
 exact bZ (r := (row x).map V.d) hl (by simp [h1]) ha (by simp [hx])
theorem zu {row : α → List D} {xs : List α} {j : Nat} {x' : α} : (xs.map row).set j (row x') = (xs.set j x').map row := by rw [List.map_set]
theorem n8 {y : V} {ys : List D} (hl : cw h l = some (dB sz (xs.map row))) (hv : idx xs n = some x) (hc : kR y = some (m, ys.map V.d)) (hs : ah P t = some m) (hb : Nat.ble (off + m) sz = true) (hsz : (row x).length = sz) (hm : ys.length = m) (h1m : Nat.ble 1 m = true)
  (hk : (row x).take off ++ ys ++ (row x).drop (off + m) = row x') : fZ P h t (.ref l n.toNat off) y = some (.upd l (dB sz ((xs.set n.toNat x').map row))) := by
 obtain ⟨h0, h1, h2⟩ := j7 hv
 have hrow : ((xs.map row).map fun r => r.map V.d)[n.toNat]? = some ((row x).map V.d) := by simp [h1]
 have hset : ((xs.map row).map fun r => r.map V.d).set n.toNat (((row x).map V.d).take off ++ ys.map V.d ++ ((row x).map V.d).drop (off + m)) = ((xs.set n.toNat x').map row).map fun r => r.map V.d := by
  rw [← List.map_take, ← List.map_drop, ← List.map_append, ← List.map_append, hk, ← zu, List.map_set]
 by_cases hm1 : m = 1
 ·subst hm1
  obtain ⟨y0, rfl⟩ := List.length_eq_one_iff.1 hm
  ·refine (cM (x := y) (y := V.d y0) (rows' := ((xs.set n.toNat x').map row).map fun r => r.map V.d) hl hrow hc hs hb (by simpa using hsz) ?_)
   rw [← hset]
   congr 1
   have hoff : off < ((row x).map V.d).length := by have := Nat.le_of_ble_eq_true hb; simp [hsz]; omega
   rw [List.set_eq_take_append_cons_drop, if_pos hoff]; simp
 ·refine (bd (x := y) (ys := ys.map V.d) (rows' := ((xs.set n.toNat x').map row).map fun r => r.map V.d) hl hrow hc hs hb (by have := Nat.le_of_ble_eq_true h1m; rw [Nat.ble_eq]; omega) (by simpa using hsz) (by simpa using hm) ?_)
  exact hset
end
section
variable {P : Program} {G : Nat → Option D} {N : Nat} {F : Fr} {ops rest : List Oper} {o : Oper} {Q : Exit → St → Prop} {env : List (Nat × V)} {h : List (Nat × Blk)} {nx : Nat} {al : List (Nat × Blk)} {K : List (Nat × V) → List (Nat × Blk) → Nat → Prop} {t e : TypeId} {z : Value} {size bytes : Nat} {α : Type} {row : α → List D} {xs ys zs : List α}
theorem kI {bytes : Nat} {xs ys zs : List α} (hv : app xs ys = some zs) (hB : Nat.ble bytes 32768 = true) : zs = xs ++ ys ∧ (xs.length + ys.length) * bytes ≤ 140737488355328 ∧ xs.length + ys.length ≤ 140737488355328 := by
 obtain ⟨rfl, hl⟩ := zE hv
 have hb := Nat.le_of_ble_eq_true hB
 refine ⟨rfl, ?_, by omega⟩
 exact Nat.le_trans (Nat.mul_le_mul hl hb) (by decide)
theorem aV (hF : Env F P G N) (hE : ElemT P t e z size bytes) (hB : Nat.ble bytes 32768 = true) {s x : Operand} {d : Tmp} {sz' l : Nat} {rys : List (List D)} {f : Bool} (ho : o.op = .call ⟨.builtin .append, #[s, x], #[t, t]⟩) (hd : o.dst = some d) (hdN : Nat.blt d N = true) (hg : bz ops env o.guard = some true)
  (hs : evB G env s = some (.sref l 0 (xs.map row).length)) (hx : evB G env x = some (.d (.list sz' rys f))) (hr : rys = ys.map row) (hl : cw h l = some (dB size (xs.map row))) (hsz' : sz' = size ∨ rys = []) (hv : app xs ys = some zs) (hfree : kq l h)
  (k : SmG F N ops rest Q ⟨(d, .sref l 0 (zs.map row).length) :: i3 l env, rep h l (dB size (zs.map row)), nx⟩) (hlow : F.n0 ≤ l := by omega) : SmG F N ops (o :: rest) Q ⟨env, h, nx⟩ := by
 obtain ⟨rfl, h1, h2⟩ := kI hv hB
 subst hr
 refine SmG.appendOwn hF hE (xs := xs.map row) (ys := ys.map row) ho hd hdN hg hs hx hl rfl hsz' hfree (by simpa using h1) (by simpa using h2) ?_ hlow
 rw [List.map_append] at k
 exact k
theorem SmG.appendFreshL (hF : Env F P G N) (hE : ElemT P t e z size bytes) (hB : Nat.ble bytes 32768 = true) {s x : Operand} {d : Tmp} {sz sz' : Nat} {rys : List (List D)} {f : Bool} (ho : o.op = .call ⟨.builtin .append, #[s, x], #[t, t]⟩) (hd : o.dst = some d) (hdN : Nat.blt d N = true) (hg : bz ops env o.guard = some true)
  (hs : evB G env s = some (.d (.list sz [] true))) (hx : evB G env x = some (.d (.list sz' rys f))) (hr : rys = ys.map row) (hsz' : sz' = size ∨ rys = []) (hv : app [] ys = some zs)
  (k : SmG F N ops rest Q ⟨(d, .sref nx 0 (zs.map row).length) :: env, (nx, dB size (zs.map row)) :: h, nx + 1⟩) : SmG F N ops (o :: rest) Q ⟨env, h, nx⟩ := by
 obtain ⟨rfl, h1, h2⟩ := kI hv hB
 subst hr
 exact SmG.appendFresh hF hE ho hd hdN hg hs hx hsz' (by simpa using h1) (by simpa using h2) k
theorem aF.appendFreshL (hF : Env F P G N) (hE : ElemT P t e z size bytes) (hB : Nat.ble bytes 32768 = true) {s x : Operand} {d : Tmp} {sz sz' : Nat} {rys : List (List D)} {f : Bool} (ho : o.op = .call ⟨.builtin .append, #[s, x], #[t, t]⟩) (hd : o.dst = some d) (hdN : Nat.blt d N = true) (hg : bz ops env o.guard = some true)
  (hs : evB G env s = some (.d (.list sz [] true))) (hx : evB G env x = some (.d (.list sz' rys f))) (hr : rys = ys.map row) (hsz' : sz' = size ∨ rys = []) (hv : app [] ys = some zs)
  (k : aF F G N ops.toArray h rest ((d, .sref nx 0 (zs.map row).length) :: env) ((nx, dB size (zs.map row)) :: al) (nx + 1) K) : aF F G N ops.toArray h (o :: rest) env al nx K := by
 obtain ⟨rfl, h1, h2⟩ := kI hv hB
 subst hr
 exact aF.appendFresh hF hE ho hd hdN hg hs hx hsz' (by simpa using h1) (by simpa using h2) k
theorem SmG.appendFullL (hF : Env F P G N) (hE : ElemT P t e z size bytes) (hB : Nat.ble bytes 32768 = true) {s x : Operand} {d : Tmp} {sz sz' : Nat} {rxs rys : List (List D)} {f : Bool} (ho : o.op = .call ⟨.builtin .append, #[s, x], #[t, t]⟩) (hd : o.dst = some d) (hdN : Nat.blt d N = true) (hg : bz ops env o.guard = some true)
  (hs : evB G env s = some (.d (.list sz rxs true))) (hx : evB G env x = some (.d (.list sz' rys f))) (hr1 : rxs = xs.map row) (hr : rys = ys.map row) (hsz : sz = size ∨ rxs = []) (hsz' : sz' = size ∨ rys = []) (hv : app xs ys = some zs)
  (k : SmG F N ops rest Q ⟨(d, .d (.list size (zs.map row) false)) :: env, h, nx⟩) : SmG F N ops (o :: rest) Q ⟨env, h, nx⟩ := by
 obtain ⟨rfl, h1, h2⟩ := kI hv hB
 subst hr hr1
 refine SmG.append hF hE ho hd hdN hg hs hx hsz hsz' (by simpa using h1) (by simpa using h2) ?_
 rw [List.map_append] at k
 exact k
theorem aF.appendFullL (hF : Env F P G N) (hE : ElemT P t e z size bytes) (hB : Nat.ble bytes 32768 = true) {s x : Operand} {d : Tmp} {sz sz' : Nat} {rxs rys : List (List D)} {f : Bool} (ho : o.op = .call ⟨.builtin .append, #[s, x], #[t, t]⟩) (hd : o.dst = some d) (hdN : Nat.blt d N = true) (hg : bz ops env o.guard = some true)
  (hs : evB G env s = some (.d (.list sz rxs true))) (hx : evB G env x = some (.d (.list sz' rys f))) (hr1 : rxs = xs.map row) (hr : rys = ys.map row) (hsz : sz = size ∨ rxs = []) (hsz' : sz' = size ∨ rys = []) (hv : app xs ys = some zs)
  (k : aF F G N ops.toArray h rest ((d, .d (.list size (zs.map row) false)) :: env) al nx K) : aF F G N ops.toArray h (o :: rest) env al nx K := by
 obtain ⟨rfl, h1, h2⟩ := kI hv hB
 subst hr hr1
 refine aF.append hF hE ho hd hdN hg hs hx hsz hsz' (by simpa using h1) (by simpa using h2) ?_
 rw [List.map_append] at k
 exact k
theorem SmG.makeL (hF : Env F P G N) (hE : ElemT P t e z size bytes) (hz : z.cells.toList.all (·.oneCell') = true) (hB : Nat.ble bytes 32768 = true) {x y : Operand} {d : Tmp} {k1 k2 : IntKind} {i : Int} {n : Nat} {z0 : α} (ho : o.op = .makeSlice t x y) (hd : o.dst = some d) (hdN : Nat.blt d N = true) (hg : bz ops env o.guard = some true)
  (hx : evB G env x = some (.d (.v (.int k1 i)))) (hy : evB G env y = some (.d (.v (.int k2 i)))) (hv : ol i = some n) (hr : z.cells.toList.map bf = row z0)
  (k : SmG F N ops rest Q ⟨(d, .sref nx 0 ((List.replicate n z0).map row).length) :: env, (nx, dB size ((List.replicate n z0).map row)) :: h, nx + 1⟩) : SmG F N ops (o :: rest) Q ⟨env, h, nx⟩ := by
 obtain ⟨rfl, hn⟩ := sN hv
 have hb := Nat.le_of_ble_eq_true hB
 refine SmG.makeOwn hF hE hz n ho hd hdN hg hx hy (by omega) (Nat.le_trans (Nat.mul_le_mul hn hb) (by decide)) ?_
 rw [hr, ← List.map_replicate]
 simpa using k
theorem aF.makeL (hF : Env F P G N) (hE : ElemT P t e z size bytes) (hz : z.cells.toList.all (·.oneCell') = true) (hB : Nat.ble bytes 32768 = true) {x y : Operand} {d : Tmp} {k1 k2 : IntKind} {i : Int} {n : Nat} {z0 : α} (ho : o.op = .makeSlice t x y) (hd : o.dst = some d) (hdN : Nat.blt d N = true) (hg : bz ops env o.guard = some true)
  (hx : evB G env x = some (.d (.v (.int k1 i)))) (hy : evB G env y = some (.d (.v (.int k2 i)))) (hv : ol i = some n) (hr : z.cells.toList.map bf = row z0)
  (k : aF F G N ops.toArray h rest ((d, .sref nx 0 ((List.replicate n z0).map row).length) :: env) ((nx, dB size ((List.replicate n z0).map row)) :: al) (nx + 1) K) : aF F G N ops.toArray h (o :: rest) env al nx K := by
 obtain ⟨rfl, hn⟩ := sN hv
 have hb := Nat.le_of_ble_eq_true hB
 refine aF.make hF hE hz n ho hd hdN hg hx hy (by omega) (Nat.le_trans (Nat.mul_le_mul hn hb) (by decide)) ?_
 rw [hr, ← List.map_replicate]
 simpa using k
theorem ar {c b : Bool} {x : Operand} (ho : o.op = .move x) (hx : evB G env x = some (.d (.v (.bool c)))) (hc : c = b) : opV P (evD G env) h o = some (.d (.v (.bool b))) := by subst hc; exact sH ho hx
end
def af (k : IntKind) (n : Int) : List D := [.v (.int k n)]
def tE (s : List UInt8) : List D := [.v (.string ⟨s.toArray⟩)]
def ax {α : Type} (sz : Nat) (row : α → List D) (l : List α) : List D := [.list sz (l.map row) false]
def w8 (n : Int) : UInt8 := UInt8.ofNat (n % 256).toNat
theorem AA (n : Int) : ((w8 n).toNat : Int) = n % 256 := by
 unfold w8
 have : (UInt8.ofNat (n % 256).toNat).toNat = (n % 256).toNat := by simp; omega
 omega
open Classical in
noncomputable def sl {R : Type} (g : Nat → Option R) : Option R := if h : ∃ n r, g n = some r then some h.choose_spec.choose else none
theorem xZ {R : Type} {g : Nat → Option R} {r : R} (h : sl g = some r) : ∃ n, g n = some r := by
 unfold sl at h
 split at h
 ·rename_i hx; cases h; exact ⟨_, hx.choose_spec.choose_spec⟩
 ·cases h
theorem yZ {R : Type} {g : Nat → Option R} {r : R} (n : Nat) (h : g n = some r) (u : ∀ m r', g m = some r' → r' = r) : sl g = some r := by
 unfold sl
 have hx : ∃ n r, g n = some r := ⟨n, r, h⟩
 rw [dif_pos hx, u _ _ hx.choose_spec.choose_spec]
def bC (P : Program) (t : TypeId) (f : Nat) : Option (Nat × Nat) :=
 match P.underlying t with
 | some (.struct fs) => (fs[f]?).bind fun f => (ah P f.type).map fun s => (f.offset, s)
 | _ => none
section
variable {P : Program} {h : List (Nat × Blk)} {t e u : TypeId} {l i off m sz s f : Nat} {α : Type} {xs ys : List α} {row : α → List D} {k : IntKind} {n : Int}
theorem ai {r : List D} (hp : bC P t f = some (off, s + 1)) (hb : Nat.ble off m = true) : fw P t (.d (.ptr m r)) f = some (.d (.ptr (m - off) (r.drop off))) := by
 have hb' := Nat.le_of_ble_eq_true hb
 unfold bC at hp
 unfold fw
 split at hp
 ·rename_i fs hfs
  rw [hfs]
  simp only [Option.bind_eq_some_iff, Option.map_eq_some_iff, Prod.mk.injEq] at hp
  obtain ⟨g, hg, s', hs, rfl, rfl⟩ := hp
  simp [hg, hs, hb']
 ·cases hp
theorem aD {o : Nat} (hp : bC P t f = some (off, s + 1)) : fw P t (.ref l i o) f = some (.ref l i (o + off)) := by
 unfold bC at hp
 unfold fw
 split at hp
 ·rename_i fs hfs
  rw [hfs]
  simp only [Option.bind_eq_some_iff, Option.map_eq_some_iff, Prod.mk.injEq] at hp
  obtain ⟨g, hg, s', hs, rfl, rfl⟩ := hp
  simp [hg, hs]
 ·cases hp
theorem ci {r : List D} {N : Nat} (hu : P.underlying t = some (.array N e)) (hs : ah P e = some s) (hi : (decide (0 ≤ n) && decide (n < (N : Int))) = true) (hb : Nat.ble (N * s) m = true) : cz P h t (.d (.ptr m r)) (.d (.v (.int k n))) = some (.d (.ptr (m - n.toNat * s) (r.drop (n.toNat * s)))) := by
 have hb' := Nat.le_of_ble_eq_true hb
 simp only [Bool.and_eq_true, decide_eq_true_eq] at hi
 simp [cz, i8, hu, hs, hi, hb']
theorem oY {o N : Nat} (hu : P.underlying t = some (.array N e)) (hs : ah P e = some s) (hi : (decide (0 ≤ n) && decide (n < (N : Int))) = true) : cz P h t (.ref l i o) (.d (.v (.int k n))) = some (.ref l i (o + n.toNat * s)) := by
 simp only [Bool.and_eq_true, decide_eq_true_eq] at hi
 simp [cz, i8, hu, hs, hi]
theorem wO {r : List D} {d : D} (ha : au P t = some false) (hd : r[0]? = some d) : fy P h t (.d (.ptr m r)) = some (.d d) := by simp [fy, ha, hd]
theorem bR {r ds : List D} (ha : au P t = some true) (hs : ah P t = some s) (hb : Nat.ble s m = true) (hd : seg r m 0 s = ds) : fy P h t (.d (.ptr m r)) = some (.d (.agg s ds)) := by
 have hb' := Nat.le_of_ble_eq_true hb
 simp [fy, ha, hs, hb', hd]
theorem aY {b : Bool} (hu : P.underlying t = some (.slice e)) : k6 P t (.d (.list sz (xs.map row) b)) = some (.d (.v (.int .i64 (xs.length : Int)))) := by simp [k6, hu]
theorem r8 {b : Bool} (hu : P.underlying t = some (.slice e)) : k6 P t (.d (.list sz [] b)) = some (.d (.v (.int .i64 0))) := by simp [k6, hu]
theorem Ca (hu : P.underlying t = some (.slice e)) : k6 P t (.sref l i (xs.map row).length) = some (.d (.v (.int .i64 (xs.length : Int)))) := by simp [k6, hu]
theorem uP {lo hi : Int} {l r : List α} (h : slc l lo hi = some r) : 0 ≤ lo ∧ lo ≤ hi ∧ hi ≤ (l.length : Int) ∧ r = (l.take hi.toNat).drop lo.toNat := by
 unfold slc at h; split at h
 ·rename_i hc; cases h; exact ⟨hc.1, hc.2.1, hc.2.2, rfl⟩
 ·cases h
theorem yW {b : Bool} {lo : Int} (hu : P.underlying t = some (.slice e)) (hs : ah P e = some sz) (hv : slc xs lo (xs.length : Int) = some ys) : iI P h t (.d (.list sz (xs.map row) b)) (some (.d (.v (.int k lo)))) none none = some (.d (.list sz (ys.map row) b)) := by
 obtain ⟨h0, h1, h2, rfl⟩ := uP hv
 simp [iI, hu, hs, b8, i8, h0, show lo.toNat ≤ xs.length by omega, List.map_drop]
theorem o5 {b : Bool} {hi : Int} (hu : P.underlying t = some (.slice e)) (hs : ah P e = some sz) (hv : slc xs 0 hi = some ys) : iI P h t (.d (.list sz (xs.map row) b)) none (some (.d (.v (.int k hi)))) none = some (.d (.list sz (ys.map row) false)) := by
 obtain ⟨h0, h1, h2, rfl⟩ := uP hv
 simp [iI, hu, hs, b8, i8, show 0 ≤ hi by omega, show hi.toNat ≤ xs.length by omega, List.map_take]
theorem vA (n : Int) : IntKind.u8.wrap n = n % 256 := by rw [IntKind.wrap_u8]
theorem jw {s d : TypeId} {td : TypeDesc} {k2 : IntKind} {a : Int} (h1 : P.underlying s = some td) (h2 : P.underlying d = some (.int .u8)) : gU P s d (.d (.v (.int k2 a))) = some (.d (.v (.int .u8 ((w8 a).toNat : Int)))) := by
 rw [uI h1 h2, AA, vA]
theorem dM (b : UInt8) : IntKind.i64.wrap (b.toNat : Int) = (b.toNat : Int) := bX _ (by have := b.toNat_lt; omega)
theorem ki {s d : TypeId} {td : TypeDesc} {k2 : IntKind} {a v : Int} (h1 : P.underlying s = some td) (h2 : P.underlying d = some (.int k)) (hv : arI k a = some v) : gU P s d (.d (.v (.int k2 a))) = some (.d (.v (.int k v))) := by
 obtain ⟨rfl, hw⟩ := mA hv
 rw [uI h1 h2, hw]
theorem pa : ∀ (l : List UInt8), mH (l.map aH) = some l
 | [] => rfl
 | b :: l => by
  show (mH (l.map aH)).map (UInt8.ofNat ((b.toNat : Int)).toNat :: ·) = _
  rw [pa l]; simp
theorem dR {s d : TypeId} {l : List UInt8} {b : Bool} (h1 : P.underlying s = some (.slice e)) (h2 : P.underlying d = some .string) (h3 : P.underlying e = some (.int .u8)) : gU P s d (.d (.list 1 (l.map aH) b)) = some (.d (.v (.string ⟨l.toArray⟩))) := by
 simp [gU, h1, h2, h3, pa]
theorem dN (hu : P.underlying t = some (.slice e)) (hs : ah P e = some sz) : dn P t 0 [] = some (.d (.list sz (([] : List α).map row) true)) := by
 simp [dn, hu, hs]
theorem qV {a : Int} {b : UInt8} (h : pA a = some b) : ii 1 (.d (.v (.int .u8 a))) = some (aH b) := by rw [xE h]; rfl
theorem xl {ts : Array TypeId} {T : TypeId} {a b : Int} : bb P (Builtin.min_ ts T #[.int .i64 a, .int .i64 b]) = some (.int .i64 (min a b)) := by
 rcases Int.le_total a b with hh | hh
 ·rw [zk _ hh, Int.min_eq_left hh]
 ·rw [za _ hh, Int.min_eq_right hh]
theorem wN {a b : List D} {n m : Nat} {c : Bool} {ds : List TypeDesc} (hg : P.eqGuardType P.depth t = false) (hk : qE P t = some ds) (h : gY ds a b = some c) : lf P t (.d (.agg n a)) (.d (.agg m b)) = some c := by
 simp [lf, hg, hk, h]
end
section
variable {P : Program} {G : Nat → Option D} {N : Nat} {F : Fr} {ops rest l : List Oper} {o : Oper} {Q Q' : Exit → St → Prop} {st st' : St} {env : List (Nat × V)} {h : List (Nat × Blk)} {nx : Nat}
theorem V.le.len {l lo n m : Nat} (h : n = m) : V.le (.sref l lo n) (.sref l lo m) := by subst h; exact V.le.refl _
theorem V.le.any (x : V) : V.le x .any := fun _ _ _ _ => trivial
theorem dq (hto : St.to F st st') (hN : gN N st'.env = true) (k : SmG F N ops l Q st') : SmG F N ops l Q st := fun _ => SmL.to hto (k (kc hN))
theorem jZ {c : Code} {m : Nat} (k : Sm F c (cZ (Rds F c Q m) Q) st) : Rds F c Q (m + 1) st := k
theorem bc {S E : Type} {body : S → Option (S ⊕ E)} {n : Nat} {e : E} {s' : S} {I : S → St} (h1 : gD body n s' = some e) (h2 : St.to F st (I s')) : ∃ s', gD body n s' = some e ∧ St.to F st (I s') := ⟨s', h1, h2⟩
inductive RetO (P : Program) (st : St) : ResultVar → D → Prop
 | tmp {t : Tmp} {d : D} : cw st.env t = some (.d d) → RetO P st (.tmp t) d
 | cell {p : Tmp} {ty : TypeId} {x : V} {d : D} : cw st.env p = some x → fy P st.h ty x = some (.d d) → RetO P st (.cell p ty) d
inductive RetR (P : Program) (st : St) : List ResultVar → List D → Prop
 | nil : RetR P st [] []
 | cons {r : ResultVar} {d : D} {rs : List ResultVar} {ds : List D} : RetO P st r d → RetR P st rs ds → RetR P st (r :: rs) (d :: ds)
theorem RetO.ok {r : ResultVar} {d : D} (h : RetO P st r d) : iP P st r = some (.d d) := by
 cases h with
 | tmp h1 => rw [bV] at h1; exact h1
 | cell h1 h2 => rw [bV] at h1; simp only [iP, h1, Option.bind_some, h2]
theorem RetR.ok : ∀ {rs : List ResultVar} {ds : List D}, RetR P st rs ds → jK P st rs = some ds := by
 intro rs ds h
 induction h with
 | nil => rfl
 | cons h1 _ ih => simp [jK, h1.ok, sc, ih]
def AD : List D → D
 | [d] => d
 | ds => .tup ds
theorem dS {fn : Func} {ds : List D} {r : D} (h : RetR P st fn.results.toList ds) (hle : (AD ds).le r) : vQ P fn r .ret st := by
 refine ⟨AD ds, ?_, hle⟩
 simp only [ni, h.ok, Option.map_some, Option.some.injEq]
 match ds with
 | [] => rfl
 | [_] => rfl
 | _ :: _ :: _ => rfl
end
def vN (n : Nat) (l : List UInt8) : Option (List UInt8) := if l.length = n then some l else none
theorem cr {n : Nat} {l r : List UInt8} (h : vN n l = some r) : l.length = n := by
 unfold vN at h; split at h
 ·assumption
 ·cases h
theorem gt {n : Nat} {l : List UInt8} (h : l.length = n) : vN n l = some l := if_pos h
section
variable {P : Program} {h : List (Nat × Blk)} {t e : TypeId} {l m sz : Nat} {α : Type} {xs ys : List α} {row : α → List D} {k : IntKind}
theorem jv {new : List UInt8} {r : List V} (hl : cw h l = some ⟨m, [r]⟩) (hlen : r.length = m) (hs : ah P t = some m) (hm : Nat.ble 2 m = true) (hn : new.length = m) : fZ P h t (.ref l 0 0) (.d (.agg m (aI new))) = some (.upd l ⟨m, [(aI new).map V.d]⟩) :=
 bd (ys := (aI new).map V.d) hl rfl rfl hs (by simp) hm hlen (by simp [aI, hn]) (by simp [hlen])
theorem f8 {old : List UInt8} (hl : cw h l = some ⟨m, [(aI old).map V.d]⟩) (ha : au P t = some true) (hs : ah P t = some m) : fy P h t (.ref l 0 0) = some (.d (.agg m (aI old))) :=
 aG hl rfl ha hs (by simp) (by simp [seg, ph])
theorem pg : ∀ {n : Nat} {a b : List UInt8}, a.length = n → b.length = n → gY (List.replicate n (.int .u8)) (aI a) (aI b) = some (a == b)
 | 0, [], [], _, _ => rfl
 | n + 1, x :: a, y :: b, h1, h2 => by
  have ih := pg (n := n) (a := a) (b := b) (by simpa using h1) (by simpa using h2)
  show (l5 (.int .u8) (.int .u8 (x.toNat : Int)) (.int .u8 (y.toNat : Int))).bind _ = _
  have hs : l5 (.int .u8) (.int .u8 (x.toNat : Int)) (.int .u8 (y.toNat : Int)) = some (x == y) := by
   have : ((x.toNat : Int) == (y.toNat : Int)) = (x == y) := by
    rw [Bool.eq_iff_iff]; simp only [beq_iff_eq]
    constructor
    ·intro h; exact UInt8.toNat_inj.1 (by omega)
    ·intro h; rw [h]
   simp [l5, this]
  rw [hs]
  show (gY (List.replicate n (.int .u8)) (aI a) (aI b)).map _ = _
  rw [ih]; simp
theorem iL {a b : List UInt8} {n : Nat} (hg : P.eqGuardType P.depth t = false) (hk : qE P t = some (List.replicate n (.int .u8))) (ha : a.length = n) (hb : b.length = n) : lf P t (.d (.agg n (aI a))) (.d (.agg n (aI b))) = some (a == b) := wN hg hk (pg ha hb)
theorem va {pl : List (Nat × Nat)} {ps : List (Nat × V)} {z cs : List D} {n : Nat} (hz : aq P t = some z) (hp : gJ P t = some pl) (h0 : pl[0]? = some (0, 1)) (hzl : 0 < z.length)
  (hall : (ps.all fun e => match pl[e.1]? with | some q => Nat.ble 1 q.1 | none => false) = true) (hf : ku (fun i => pl[i]?) ps z = some cs) : fm P t ((0, .sref l 0 n) :: ps) = some (.mix false l n (cs.drop 1)) := by
 have hpl : ∃ g, iA P t = some g ∧ g = fun i => pl[i]? := by
  unfold gJ at hp
  unfold iA
  split at hp
  ·rename_i fs hu
   rw [hu]
   refine ⟨_, rfl, funext fun i => ?_⟩
   have := tI _ hp i
   rw [← this, Array.getElem?_toList]
  ·cases hp
 obtain ⟨g, hg, rfl⟩ := hpl
 have hD : kx P t ((0, .sref l 0 n) :: ps) = none := by
  simp [kx, hz, hg, ku, h0, ii]
 unfold fm
 rw [hD]
 simp only [qi, hz, hg, Option.bind_some, h0, true_and, hzl, hf, Option.map_some]
 exact if_pos hall
end
inductive LeL : List D → List D → Prop
 | nil : LeL [] []
 | cons {x y : D} {xs ys : List D} : x.le y → LeL xs ys → LeL (x :: xs) (y :: ys)
inductive LeRows : List (List D) → List (List D) → Prop
 | nil : LeRows [] []
 | cons {x y : List D} {xs ys : List (List D)} : LeL x y → LeRows xs ys → LeRows (x :: xs) (y :: ys)
theorem LeL.length {xs ys : List D} (h : LeL xs ys) : xs.length = ys.length := by induction h with | nil => rfl | cons _ _ ih => simp [ih]
theorem LeL.mem {C : aK} {xs ys : List D} (h : LeL xs ys) : ∀ {b off : Nat}, Rp C (.mem xs b off) → Rp C (.mem ys b off) := by
 induction h with
 | nil => intro b off h; exact h
 | cons h1 _ ih => intro b off h; cases h with | mcons _ _ _ _ u g1 g2 g3 g4 => exact .mcons _ _ _ _ u g1 g2 (h1 _ _ g3) (ih g4)
theorem LeRows.length {xs ys : List (List D)} (h : LeRows xs ys) : xs.length = ys.length := by induction h with | nil => rfl | cons _ _ ih => simp [ih]
theorem LeRows.rows {C : aK} {xs ys : List (List D)} (h : LeRows xs ys) : ∀ {b off sz : Nat}, Rp C (.rows xs b off sz) → Rp C (.rows ys b off sz) := by
 induction h with
 | nil => intro b off sz h; cases h; exact .rnil _ _ _
 | cons h1 _ ih => intro b off sz h; cases h with | rcons _ _ _ _ _ g1 g2 g3 => exact .rcons _ _ _ _ _ (by rw [← h1.length]; exact g1) (h1.mem g2) (ih g3)
theorem ff {sz : Nat} {xs ys : List (List D)} {f : Bool} (h : LeRows xs ys) : (D.list sz xs f).le (.list sz ys false) := by
 intro C v hv
 refine jg (f := f) ?_
 cases hv with
 | nil _ _ a cap hc => cases h; exact .nil _ _ _ _ hc
 | list _ _ _ b off cap h1 h2 h4 =>
  rw [h.length] at h2 ⊢
  refine .list _ _ _ _ _ _ ?_ h2 (h.rows h4)
  intro e; subst e
  cases h; exact h1 rfl
structure FnV (P : Program) (G : Nat → Option D) {α β : Type} (ea : α → List D) (eb : β → D) where
 g : Nat
 c : List D
 f : α → Option β
 body : e9 P g = true
 ok : ∀ x y, f x = some y → aj P G g (ea x ++ c) (eb y)
def FnV.row {P : Program} {G : Nat → Option D} {α β : Type} {ea : α → List D} {eb : β → D} (v : FnV P G ea eb) : List D := [.fn v.g v.c]
def qT (n : Int) : Option Nat := if 1 ≤ n ∧ n ≤ 4294967296 then some n.toNat else none
theorem iN {n : Int} {m : Nat} (h : qT n = some m) : n = (m : Int) ∧ 0 < m ∧ m ≤ 4294967296 := by
 unfold qT at h; split at h
 ·cases h; omega
 ·cases h
theorem rM {m b : Nat} (h : m ≤ 4294967296) (hb : Nat.ble b 32768 = true) : m * b ≤ 140737488355328 := Nat.le_trans (Nat.mul_le_mul h (Nat.le_of_ble_eq_true hb)) (by decide)
theorem yP {P : Program} {h : List (Nat × Blk)} {t e : TypeId} {l n : Nat} {k : IntKind} {kb : Blk} (hu : P.underlying t = some (.slice e)) (hl : cw h l = some kb) (hs : ah P e = some kb.sz) : iI P h t (.sref l 0 n) none (some (.d (.v (.int k 0)))) none = some (.sref l 0 0) := by
 rw [bV] at hl
 simp [iI, hu, hs, hl, b8, i8]
theorem lA {P : Program} {fn : Func} {st : St} {sz : Nat} {rows : List (List D)} {t : Tmp} (l : Nat) (hr : fn.results.toList = [.tmp t]) (hx : cw st.env t = some (.sref l 0 rows.length)) (hl : cw st.h l = some (dB sz rows)) : Ab P fn .one sz rows [] .ret st := by
 rw [bV] at hx hl
 refine ⟨l, ?_, hl⟩
 rw [hr]
 show (od P .one st [.tmp t]) = _
 simp [od, iP, hx, Pk.v]
section
variable {P : Program} {h : List (Nat × Blk)} {t e : TypeId} {m s : Nat} {k : IntKind} {n : Int}
theorem mN {α : Type} {l : List α} {i : Int} {x : α} (h : idx l i = some x) : 0 ≤ i ∧ i < (l.length : Int) := ⟨(j7 h).1, (j7 h).2.2⟩
theorem mK {r : List D} {N : Nat} (hu : P.underlying t = some (.array N e)) (hs : ah P e = some s) (hi : 0 ≤ n ∧ n < (N : Int)) (hb : Nat.ble (N * s) m = true) : cz P h t (.d (.ptr m r)) (.d (.v (.int k n))) = some (.d (.ptr (m - n.toNat * s) (r.drop (n.toNat * s)))) := by
 have hb' := Nat.le_of_ble_eq_true hb
 simp [cz, i8, hu, hs, hi, hb']
theorem mQ {α : Type} {r rest : List D} {xs : List α} {f : α → D} {x : α} (ha : au P t = some false) (hr : r = xs.map f ++ rest) (hv : idx xs n = some x) : fy P h t (.d (.ptr m (r.drop (n.toNat * 1)))) = some (.d (f x)) := by
 obtain ⟨h0, h1, h2⟩ := j7 hv
 refine wO ha ?_
 subst hr
 rw [Nat.mul_one, List.getElem?_drop, Nat.add_zero, List.getElem?_append_left (by simp; omega), List.getElem?_map, h1]; rfl
end
theorem eQ.args {P : Program} {G : Nat → Option D} {f : FuncId} {ds ds' : List D} {pk : Pk} {sz : Nat} {rows : List (List D)} {rest : List D} (h : eQ P G f ds' pk sz rows rest) (hd : ∀ C vs, Rp C (.outs ds vs) → Rp C (.outs ds' vs)) : eQ P G f ds pk sz rows rest := fun C w vs hG hk ha => h C w vs hG hk (hd C vs ha)
theorem LeL.leL {xs ys : List D} (h : LeL xs ys) : leL xs ys := by induction h with | nil => trivial | cons h1 _ ih => exact ⟨h1, ih⟩
theorem fe {xs ys : List D} (h : LeL xs ys) : (D.tup xs).le (.tup ys) := tJ h.leL
theorem fd {n : Nat} {xs ys : List D} (h : LeL xs ys) : (D.agg n xs).le (.agg n ys) := yH h.leL
theorem xF {l sz sz' : Nat} {rows : List (List D)} {r : List D} : i9 (ft l sz rows) ⟨sz', [r.map V.d]⟩ = ⟨sz', [r.map V.d]⟩ := by
 show Blk.mk sz' [(r.map V.d).map (ft l sz rows)] = _
 rw [wo]
theorem vB {P : Program} {t e : TypeId} {N s m : Nat} {ps : List (Nat × V)} {z cs : List D} (hu : P.underlying t = some (.array N e)) (hs : ah P e = some s) (hz : aq P t = some z) (hn : z.length = m) (hf : ku (fun i => some (i * s, s)) ps z = some cs) : fm P t ps = some (.d (.agg m cs)) := by
 simp only [fm, kx, iA, hu, hs, hz, Option.map_some, Option.bind_some, hf, hn]
theorem br (c : Bool) : c = false ∨ c = true := by cases c <;> simp
theorem iZ {α β : Type} (o : α ⊕ β) : (∃ e, o = .inr e) ∨ (∃ v, o = .inl v) := by cases o <;> simp
section
variable {P : Program} {G : Nat → Option D} {N : Nat} {F : Fr} {ops rest : List Oper} {o : Oper} {Q Q' : Exit → St → Prop} {env e : List (Nat × V)} {h g : List (Nat × Blk)} {nx m : Nat} {al : List (Nat × Blk)} {K : List (Nat × V) → List (Nat × Blk) → Nat → Prop} {st : St}
theorem dt {c y : Code} (I : St) (h2 : Sm F c (cZ (fun st' => St.to F st' I) Q') st) (h1 : Sm F y Q I) : Sm F c (cZ (Sm F y Q) Q') st := aW I h1 h2
theorem ay {c : Operand} {x y : Code} {t : Bool} (hF : Env F P G N) (hc : evB G env c = some (.d (.v (.bool t)))) (hf : t = false → Sm F y Q ⟨env, h, nx⟩) (ht : t = true → Sm F x Q ⟨env, h, nx⟩) : Sm F (.cond c x y) Q ⟨env, h, nx⟩ := bw hF hc ht hf
theorem toK (hE : leE env e) (hH : leH h g) (hn : nx ≤ m := by exact Nat.le_of_ble_eq_true rfl) : St.to F ⟨env, h, nx⟩ ⟨e, g, m⟩ := qc (cC hE hH hn)
theorem dA {x y : D} (h : D.le x y := by (repeat' first | exact D.le.refl _ | exact eV _ _ _ | exact dL _ _ _ | refine ff ?_ | exact LeRows.nil | refine LeRows.cons ?_ ?_ | exact LeL.nil | refine LeL.cons ?_ ?_ | refine fe ?_ | refine fd ?_)) : V.le (.d x) (.d y) := V.le.d h
theorem kA (hE : leE env e := by (repeat' first | exact trivial | refine ⟨rfl, ?_⟩)) (hH : leH h g := by (repeat' first | exact trivial | refine ⟨rfl, ?_⟩)) (hn : nx ≤ m := by exact Nat.le_of_ble_eq_true rfl) : St.to F ⟨env, h, nx⟩ ⟨e, g, m⟩ := toK hE hH hn
theorem oE {C : aK} {d d' : D} {ds ds' : List D} (k : ∀ vs, Rp C (.outs ds vs) → Rp C (.outs ds' vs)) (h : D.le d d' := by (repeat' first | exact D.le.refl _ | exact eV _ _ _ | exact dL _ _ _ | refine ff ?_ | exact LeRows.nil | refine LeRows.cons ?_ ?_ | exact LeL.nil | refine LeL.cons ?_ ?_ | refine fe ?_ | refine fd ?_)) : ∀ vs, Rp C (.outs (d :: ds) vs) → Rp C (.outs (d' :: ds') vs) := ux h k
theorem cS (hF : Env F P G N) {f : FuncId} {xs : List Operand} {ts : Array TypeId} {t : Tmp} {ds : List D} {r : D} (hc : aj P G f ds r) (k : SmG F N ops rest Q ⟨(t, .d r) :: env, h, nx⟩) (ho : o.op = .call ⟨.value (.func f), xs.toArray, ts⟩ := by exact rfl) (hd : o.dst = some t := by exact rfl) (hb : e9 P f = true := by kernel_rfl) (ht : Nat.blt t N = true := by exact rfl) (hg : bz ops env o.guard = some true := by exact rfl) (hargs : b7 (evB G env) xs = some ds := by exact rfl) : SmG F N ops (o :: rest) Q ⟨env, h, nx⟩ := SmG.call hF ho hd hb ht hg hargs hc k
theorem cH (hF : Env F P G N) {f : FuncId} {xs : List Operand} {ts : Array TypeId} {t : Tmp} {ds : List D} {r : D} (hc : aj P G f ds r) (k : aF F G N ops.toArray h rest ((t, .d r) :: env) al nx K) (ho : o.op = .call ⟨.value (.func f), xs.toArray, ts⟩ := by exact rfl) (hd : o.dst = some t := by exact rfl) (hb : e9 P f = true := by kernel_rfl) (ht : Nat.blt t N = true := by exact rfl) (hg : bz ops env o.guard = some true := by exact rfl) (hargs : b7 (evB G env) xs = some ds := by exact rfl) : aF F G N ops.toArray h (o :: rest) env al nx K := aF.c hF ho hd hb ht hg hargs hc k
theorem wA (hE : sJ env e := by (repeat' first | exact trivial | refine ⟨⟨_, rfl, V.le.refl _⟩, ?_⟩ | refine ⟨⟨_, rfl, V.le.len (by simp only [List.length_map, List.length_set])⟩, ?_⟩ | refine ⟨⟨_, rfl, dA⟩, ?_⟩ | refine ⟨⟨_, rfl, V.le.any _⟩, ?_⟩))
  (hH : qt h g := by (repeat' first | exact trivial | refine ⟨⟨_, rfl, og.refl _⟩, ?_⟩ | refine ⟨⟨_, rfl, og.row ?_⟩, ?_⟩ | exact CellsR.nil | refine CellsR.cons (V.le.refl _) ?_ | refine CellsR.cons (V.le.len (by simp only [List.length_map, List.length_set])) ?_ | refine CellsR.cons dA ?_ | refine CellsR.cons (V.le.any _) ?_))
  (hn : nx ≤ m := by exact Nat.le_of_ble_eq_true rfl) : St.to F ⟨env, h, nx⟩ ⟨e, g, m⟩ := vX hE hH hn
theorem fA {l sz : Nat} (rows : List (List D)) (hk : cw h l = some (dB sz rows) := by exact rfl)
  (hE : xV l sz rows env e := by (repeat' first | exact trivial | refine ⟨⟨_, rfl, uE⟩, ?_⟩ | refine ⟨⟨_, rfl, rfl⟩, ?_⟩))
  (hH : vr l sz rows h g := by (repeat' first | exact trivial | refine ⟨⟨rfl, _, rfl, zB⟩, ?_⟩ | refine ⟨⟨rfl, _, rfl, xF⟩, ?_⟩ | refine ⟨⟨rfl, _, rfl, yu ?_⟩, ?_⟩ | exact CellsF.nil | refine CellsF.cons uE ?_ | refine CellsF.cons rfl ?_)) : St.to F ⟨env, h, nx⟩ ⟨e, g, nx⟩ := xC rows hk hE hH
theorem xA (n : Nat) (hE : (env.all fun e => V.lt n e.2) = true := by exact rfl) (hH : ltH n h := by (repeat' first | exact zi _ | exact uK _ _ | exact trivial | refine yk ?_ (by decide) | refine tq ?_ (Cf _ _ _) | refine y8 ?_ ?_ | refine ⟨rfl, ?_⟩)) (hL : (h.all fun e => Nat.blt e.1 n) = true := by exact rfl) (hn : F.n0 ≤ n := by omega) : St.to F ⟨env, h, nx⟩ ⟨env, h, n⟩ := vW n hE hH hL hn
theorem oL {t : TypeId} {x : Operand} {v y : V} (hy : fy P h t v = some y) (ho : o.op = .load t x := by exact rfl) (hx : evB G env x = some v := by exact rfl) : opV P (evD G env) h o = some y := aZ ho hx hy
theorem oI {t : TypeId} {x i : Operand} {v w y : V} (hy : cz P h t v w = some y) (ho : o.op = .indexAddr t x i := by exact rfl) (hx : evB G env x = some v := by exact rfl) (hi : evB G env i = some w := by exact rfl) : opV P (evD G env) h o = some y := az ho hx hi hy
theorem oF {t : TypeId} {x : Operand} {f : Nat} {v y : V} (hy : fw P t v f = some y) (ho : o.op = .fieldAddr t x f := by exact rfl) (hx : evB G env x = some v := by exact rfl) : opV P (evD G env) h o = some y := rY ho hx hy
theorem oB {op : BinOp} {t yt : TypeId} {x y : Operand} {a b u : Value} (hu : bb P (do eqGuard op t x y a b; binOp op t a b) = some u) (ho : o.op = .binOp op t x y yt := by exact rfl) (hx : evB G env x = some (.d (.v a)) := by exact rfl) (hy : evB G env y = some (.d (.v b)) := by exact rfl) : opV P (evD G env) h o = some (.d (.v u)) := aA ho hx hy hu
theorem oC {s d : TypeId} {x : Operand} {v y : V} (hy : gU P s d v = some y) (ho : o.op = .convert s d x := by exact rfl) (hx : evB G env x = some v := by exact rfl) : opV P (evD G env) h o = some y := lR ho hx hy
theorem oN {x : Operand} {t : TypeId} {v y : V} (hy : k6 P t v = some y) (ho : o.op = .call ⟨.builtin .len, #[x], #[t]⟩ := by exact rfl) (hx : evB G env x = some v := by exact rfl) : opV P (evD G env) h o = some y := gG ho hx hy
theorem oS {t : TypeId} {n : Nat} {ps : List (Nat × Operand)} {qs : List (Nat × V)} {y : V} (hy : dn P t n qs = some y) (ho : o.op = .buildSlice t n ps.toArray := by exact rfl) (hx : e8 (evB G env) ps = some qs := by exact rfl) : opV P (evD G env) h o = some y := fr ho hx hy
theorem lP1 {t : TypeId} {m : Nat} {r : List D} {d : D} (ha : au P t = some false) (hd : r[0]? = some d) : fy P h t (.d (.ptr m r)) = some (.d d) := wO ha hd
end
section
variable {P : Program} {t : TypeId} {x y : Operand} {k : IntKind} {a b : Int}
theorem bh : bb P (do eqGuard .lss t x y (.int k a) (.int k b); binOp .lss t (.int k a) (.int k b)) = some (.bool (decide (a < b))) := ep ..
theorem vP : bb P (do eqGuard .leq t x y (.int k a) (.int k b); binOp .leq t (.int k a) (.int k b)) = some (.bool (decide (a ≤ b))) := zR ..
theorem jk : bb P (do eqGuard .gtr t x y (.int k a) (.int k b); binOp .gtr t (.int k a) (.int k b)) = some (.bool (decide (b < a))) := z7 ..
theorem oW : bb P (do eqGuard .geq t x y (.int k a) (.int k b); binOp .geq t (.int k a) (.int k b)) = some (.bool (decide (b ≤ a))) := Al ..
theorem cD : bb P (do eqGuard .eql t x y (.int k a) (.int k b); binOp .eql t (.int k a) (.int k b)) = some (.bool (a == b)) := kV ..
theorem lZ : bb P (do eqGuard .neq t x y (.int k a) (.int k b); binOp .neq t (.int k a) (.int k b)) = some (.bool (a != b)) := nY ..
end
section
variable {P : Program} {G : Nat → Option D} {N : Nat} {F : Fr} {ops rest : List Oper} {o : Oper} {Q : Exit → St → Prop} {env : List (Nat × V)} {h h0 : List (Nat × Blk)} {nx : Nat}
theorem dZ.box (hF : Env F P G N) {t : TypeId} {x : Operand} {v : V} {n : Nat} {cs : List D} (ho : o.op = .box t x) (hx : evD G env x = some v) (hc : ii n v = some cs) : dZ F G h0 o env (.d (.ptr n cs)) := by
 intro μ C a w nx' hh hsim hold hop K Q hK
 obtain ⟨rfl, rfl, hG⟩ := hF
 have hxv := hop x (by rw [ho]; simp [Op.operands]) _ hx
 obtain ⟨h1, h2⟩ := ow hxv hc
 have hk := hsim.known
 have hrun : (execOp a.eval o).run F.P w = .ok (.value (.pointer (some ⟨w.heap.size, 0, none⟩))) (w.alloc (.cells (a.eval x).cells t)) := by
  simp only [execOp, ho]; rfl
 unfold Oper.wp
 rw [hrun, Oper.upon_value]
 refine hK _ _ _ (ln hk (a.eval x).cells t) ?_
 have hlen : cs.length = n := by have := cc h2; simp at this; omega
 refine .ptr n cs w.heap.size 0 hlen (pc (vs := (a.eval x).cells.toList) (Rp.mono (fun _ _ _ h => .inl h) h2) fun j u hj => .inr ⟨rfl, by simpa using hj⟩)
theorem bQ (hF : Env F P G N) {t : TypeId} {x : Operand} {v : V} {n : Nat} {cs : List D} {d : Tmp} (hc : ii n v = some cs) (k : SmG F N ops rest Q ⟨(d, .d (.ptr n cs)) :: env, h, nx⟩) (ho : o.op = .box t x := by exact rfl) (hx : evB G env x = some v := by exact rfl) (hd : o.dst = some d := by exact rfl) (hdN : Nat.blt d N = true := by exact rfl) (hg : bz ops env o.guard = some true := by exact rfl) : SmG F N ops (o :: rest) Q ⟨env, h, nx⟩ := by
 rw [bK] at hx
 exact mn hF hd hdN hg (fun c e => by rw [ho] at e; cases e) (.box hF ho hx hc) k
theorem gi {n : Nat} {cs : List D} : ii n (.d (.agg n cs)) = some cs := by simp [ii]
theorem yh {k : IntKind} {n : Int} : ii 1 (.d (.v (.int k n))) = some [.v (.int k n)] := rfl
end
section
variable {P : Program} {G : Nat → Option D} {N : Nat} {F : Fr} {ops rest : List Oper} {o : Oper} {Q Q' : Exit → St → Prop} {env : List (Nat × V)} {h : List (Nat × Blk)} {nx : Nat} {al : List (Nat × Blk)} {K : List (Nat × V) → List (Nat × Blk) → Nat → Prop} {st : St}
theorem bu {fn : Func} {t : Tmp} {d : D} (hr : fn.results.toList = [.tmp t]) (hx : cw st.env t = some (.d d)) : vQ P fn d .ret st := by
 refine dS (ds := [d]) ?_ (D.le.refl _)
 rw [hr]; exact .cons (.tmp hx) .nil
end
abbrev D.i (n : Int) : D := .v (.int .i64 n)
abbrev V.i (n : Int) : V := .d (.v (.int .i64 n))
abbrev D.z : D := .list 0 [] true
abbrev V.z : V := .d (.list 0 [] true)
abbrev D.l (x : List Int) : D := .list 1 (x.map (af .i64)) false
abbrev V.l (x : List Int) : V := .d (.list 1 (x.map (af .i64)) false)
end
section
open Go.RowKit
def Ok {α : Type} (x : Option α) (Q : α → Prop) : Prop := ∃ v, x = some v ∧ Q v
theorem ag {α β : Type} (v : α) (f : α → Option β) : ob (some v) f = f v := rfl
theorem Ok.bind {α β : Type} {x : Option α} {f : α → Option β} {P : α → Prop} {Q : β → Prop} (h : Ok x P) (k : ∀ v, P v → Ok (f v) Q) : Ok (ob x f) Q := by
 obtain ⟨v, hv, hp⟩ := h
 rw [gH hv]; exact k v hp
theorem Ok.eq {α β : Type} {x : Option α} {f : α → Option β} {v : α} {Q : β → Prop} (h : x = some v) (k : Ok (f v) Q) : Ok (Go.Proofs.YtbaccmkhjmmlnaaDoor.ob x f) Q := by rw [gH h]; exact k
theorem Ok.ret {α : Type} {v : α} {Q : α → Prop} (h : Q v) : Ok (some v) Q := ⟨v, rfl, h⟩
theorem Ok.mono {α : Type} {x : Option α} {P Q : α → Prop} (h : Ok x P) (k : ∀ v, P v → Q v) : Ok x Q := by obtain ⟨v, h1, h2⟩ := h; exact ⟨v, h1, k v h2⟩
theorem Ok.cond {α : Type} {c : Bool} {x y : Option α} {Q : α → Prop} (h1 : c = true → Ok x Q) (h2 : c = false → Ok y Q) : Ok (bif c then x else y) Q := by cases c <;> simp_all
theorem Ok.get {α : Type} {x : Option α} {v : α} (h : Ok x (· = v)) : x = some v := by obtain ⟨w, h1, rfl⟩ := h; exact h1
theorem Ok.of {α : Type} {x : Option α} {v : α} (h : x = some v) : Ok x (· = v) := ⟨v, h, rfl⟩
theorem Ok.loop {S E : Type} {body : S → Option (S ⊕ E)} (I : S → Prop) (m : S → Nat) {R : E → Prop} {s : S} (h0 : I s) (h : ∀ s, I s → Ok (body s) fun o => match o with | .inl s' => I s' ∧ m s' < m s | .inr e => R e) : Ok (bm body s) R := by
 obtain ⟨e, h1, h2⟩ := ye I m (R := R) h0 fun s hs => by
  obtain ⟨o, h1, h2⟩ := h s hs
  cases o with
  | inl s' => exact .inl ⟨s', h1, h2⟩
  | inr e => exact .inr ⟨e, h1, h2⟩
 exact ⟨e, h1, h2⟩
theorem jj {a b : Int} (h : a < b) : decide (a < b) = true := decide_eq_true h
theorem gM {a b : Int} (h : b ≤ a) : decide (a < b) = false := decide_eq_false (by omega)
theorem A8 {a b : Int} (h : a ≤ b) : decide (a ≤ b) = true := decide_eq_true h
theorem yQ {a b : Int} (h : b < a) : decide (a ≤ b) = false := decide_eq_false (by omega)
theorem yU {a b : Int} (h : a = b) : (a == b) = true := by simp [h]
theorem u7 {a b : Int} (h : a ≠ b) : (a == b) = false := by simp [h]
theorem Cp {a b : Int} (h : a = b) : (a != b) = false := by simp [h]
theorem rt {n : Int} (h : 0 ≤ n ∧ n ≤ 4294967296) : ol n = some n.toNat := if_pos h
theorem pS {α : Type} {l : List α} {lo hi : Int} (h : 0 ≤ lo ∧ lo ≤ hi ∧ hi ≤ (l.length : Int)) : slc l lo hi = some ((l.take hi.toNat).drop lo.toNat) := if_pos h
theorem dl {α : Type} {l : List α} {i : Int} (h0 : 0 ≤ i) (h1 : i < (l.length : Int)) : idx l i = some (l[i.toNat]'(by omega)) := by
 unfold idx; rw [if_pos h0, List.getElem?_eq_getElem]
theorem nj {a b : Int} (h : 0 ≤ b ∧ b ≤ 63) : j3 .i64 a b = some (a / 2 ^ b.toNat) := by
 unfold j3
 have : min b.toNat IntKind.i64.bits = b.toNat := by show min b.toNat 64 = _; omega
 rw [if_neg (by omega), this, Int.fdiv_eq_ediv_of_nonneg _ (by exact Int.pow_nonneg (by decide))]
theorem uH {a b : Int} (h : 0 ≤ b ∧ b ≤ 7) : j3 .u8 a b = some (a / 2 ^ b.toNat) := by
 unfold j3
 have : min b.toNat IntKind.u8.bits = b.toNat := by show min b.toNat 8 = _; omega
 rw [if_neg (by omega), this, Int.fdiv_eq_ediv_of_nonneg _ (by exact Int.pow_nonneg (by decide))]
theorem rv {l : List UInt8} (h : l.length ≤ 4294967296) : pD l = some l := if_pos h
theorem kE {α β : Type} {body : (Int × List β) → Option ((Int × List β) ⊕ List β)} (l : List α) (g : α → β) (hs : ∀ (i : Nat) (x : α) (acc : List β), l[i]? = some x → acc.length = i → body ((i : Int), acc) = some (.inl (((i + 1 : Nat) : Int), acc ++ [g x])))
  (he : ∀ acc : List β, body ((l.length : Int), acc) = some (.inr acc)) : bm body (0, []) = some (l.map g) := by
 have := lS (body := body) (fun i => (((i : Nat) : Int), (l.take i).map g)) l.length (e := l.map g) (fun i hi => by
  have hx : l[i]? = some l[i] := by simp [hi]
  rw [hs i l[i] _ hx (by simp; omega), List.take_add_one, hx]; simp only [Option.toList_some, List.map_append, List.map_cons, List.map_nil]) (by simp only [List.take_length]; exact he _)
 simpa using this
end
section
open Go.RowKit
set_option maxRecDepth 100000
abbrev u1 := Tryd.underlying1
theorem ze1 : aq Tryd.prog 1 = some [.v .nilFunc] := by kernel_rfl
abbrev u2 := Tryd.underlying2
abbrev u3 := Tryd.underlying3
abbrev u5 := Tryd.underlying5
abbrev u6 := Tryd.underlying6
abbrev u8 := Tryd.underlying8
abbrev u9 := Tryd.underlying9
abbrev u16 := Tryd.underlying16
abbrev u22 := Tryd.underlying22
abbrev u23 := Tryd.underlying23
abbrev u24 := Tryd.underlying24
theorem oD : ElemT Tryd.prog 24 5 (Value.int IntKind.u8 0) 1 1 := ⟨Tryd.underlying24, by kernel_rfl, rfl, by decide⟩
abbrev u25 := Tryd.underlying25
abbrev u26 := Tryd.underlying26
abbrev u27 := Tryd.underlying27
theorem Aq : bC Tryd.prog 29 0 = some (0, 1) := by kernel_rfl
theorem zP : bC Tryd.prog 29 1 = some (1, 1) := by kernel_rfl
theorem Ao : bC Tryd.prog 29 2 = some (2, 1) := by kernel_rfl
theorem mX : bC Tryd.prog 29 3 = some (3, 2) := by kernel_rfl
theorem mV : bC Tryd.prog 29 4 = some (5, 1) := by kernel_rfl
theorem jG : bC Tryd.prog 29 5 = some (6, 6) := by kernel_rfl
abbrev u30 := Tryd.underlying30
theorem kh : ElemT Tryd.prog 30 3 (Value.int IntKind.i64 0) 1 8 := ⟨Tryd.underlying30, by kernel_rfl, rfl, by decide⟩
abbrev u31 := Tryd.underlying31
abbrev u32 := Tryd.underlying32
abbrev u33 := Tryd.underlying33
theorem kD : bC Tryd.prog 33 0 = some (0, 1) := by kernel_rfl
theorem eT : bC Tryd.prog 33 1 = some (1, 2) := by kernel_rfl
theorem ov : bC Tryd.prog 33 2 = some (3, 1) := by kernel_rfl
theorem oq : bC Tryd.prog 33 3 = some (4, 1) := by kernel_rfl
abbrev u35 := Tryd.underlying35
theorem An : gJ Tryd.prog 35 = some [(0, 1), (1, 1)] := by kernel_rfl
theorem sM : bC Tryd.prog 35 0 = some (0, 1) := by kernel_rfl
theorem mF : bC Tryd.prog 35 1 = some (1, 1) := by kernel_rfl
abbrev u36 := Tryd.underlying36
theorem Gj : ElemT Tryd.prog 36 47 (Value.agg #[Value.int IntKind.u8 0, Value.int IntKind.u8 0, Value.int IntKind.u8 0, Value.int IntKind.u8 0, Value.int IntKind.u8 0, Value.int IntKind.u8 0, Value.int IntKind.u8 0, Value.int IntKind.u8 0, Value.int IntKind.u8 0, Value.int IntKind.u8 0, Value.int IntKind.u8 0, Value.int IntKind.u8 0, Value.int IntKind.u8 0, Value.int IntKind.u8 0, Value.int IntKind.u8 0, Value.int IntKind.u8 0, Value.int IntKind.u8 0, Value.int IntKind.u8 0, Value.int IntKind.u8 0, Value.int IntKind.u8 0, Value.int IntKind.u8 0, Value.int IntKind.u8 0, Value.int IntKind.u8 0, Value.int IntKind.u8 0, Value.int IntKind.u8 0, Value.int IntKind.u8 0, Value.int IntKind.u8 0, Value.int IntKind.u8 0, Value.int IntKind.u8 0, Value.int IntKind.u8 0, Value.int IntKind.u8 0, Value.int IntKind.u8 0]) 32 32 := ⟨Tryd.underlying36, by kernel_rfl, rfl, by decide⟩
abbrev u38 := Tryd.underlying38
theorem z6 : bC Tryd.prog 38 0 = some (0, 1) := by kernel_rfl
theorem Ae : bC Tryd.prog 38 1 = some (1, 1) := by kernel_rfl
theorem xn : bC Tryd.prog 38 2 = some (2, 1) := by kernel_rfl
theorem xh : bC Tryd.prog 38 3 = some (3, 5) := by kernel_rfl
theorem wV : bC Tryd.prog 38 4 = some (8, 2) := by kernel_rfl
theorem xm : bC Tryd.prog 38 5 = some (10, 1) := by kernel_rfl
theorem GQ : aq Tryd.prog 39 = some [.v .nilFunc] := by kernel_rfl
abbrev u40 := Tryd.underlying40
theorem Ga : ElemT Tryd.prog 40 33 (Value.agg #[Value.slice none 0 0, Value.slice none 0 0, Value.slice none 0 0, Value.int IntKind.i64 0, Value.int IntKind.i64 0]) 5 88 := ⟨Tryd.underlying40, by kernel_rfl, rfl, by decide⟩
abbrev u41 := Tryd.underlying41
theorem FN : ElemT Tryd.prog 41 35 (Value.agg #[Value.int IntKind.i64 0, Value.int IntKind.i64 0]) 2 16 := ⟨Tryd.underlying41, by kernel_rfl, rfl, by decide⟩
theorem JL : aq Tryd.prog 43 = some [.v .nilFunc] := by kernel_rfl
abbrev u44 := Tryd.underlying44
abbrev u45 := Tryd.underlying45
abbrev u47 := Tryd.underlying47
theorem Jw : aq Tryd.prog 48 = some [.v .nilFunc] := by kernel_rfl
theorem Jg : aq Tryd.prog 49 = some [.v .nilFunc] := by kernel_rfl
theorem Jf : aq Tryd.prog 52 = some [.v .nilFunc] := by kernel_rfl
theorem Jn : aq Tryd.prog 53 = some [.v .nilFunc] := by kernel_rfl
theorem JA : aq Tryd.prog 54 = some [.v .nilFunc] := by kernel_rfl
theorem JJ : aq Tryd.prog 55 = some [.v .nilFunc] := by kernel_rfl
theorem Ji : aq Tryd.prog 57 = some [.v .nilFunc] := by kernel_rfl
theorem Jl : aq Tryd.prog 58 = some [.v .nilFunc] := by kernel_rfl
theorem Jp : aq Tryd.prog 60 = some [.v .nilFunc] := by kernel_rfl
abbrev u61 := Tryd.underlying61
theorem pH : ElemT Tryd.prog 61 24 (Value.slice none 0 0) 1 24 := ⟨Tryd.underlying61, by kernel_rfl, rfl, by decide⟩
theorem Jk : aq Tryd.prog 62 = some [.v .nilFunc] := by kernel_rfl
theorem Js : aq Tryd.prog 63 = some [.v .nilFunc] := by kernel_rfl
abbrev u64 := Tryd.underlying64
theorem As : bC Tryd.prog 66 0 = some (0, 6) := by kernel_rfl
theorem zS : bC Tryd.prog 66 1 = some (6, 6) := by kernel_rfl
theorem qf : bC Tryd.prog 66 2 = some (12, 4) := by kernel_rfl
theorem AO : bC Tryd.prog 66 3 = some (16, 1) := by kernel_rfl
theorem Ax : bC Tryd.prog 66 4 = some (17, 1) := by kernel_rfl
theorem Jr : aq Tryd.prog 70 = some [.v .nilFunc] := by kernel_rfl
abbrev u71 := Tryd.underlying71
theorem AK : ElemT Tryd.prog 71 30 (Value.slice none 0 0) 1 24 := ⟨Tryd.underlying71, by kernel_rfl, rfl, by decide⟩
abbrev u73 := Tryd.underlying73
theorem kM : bC Tryd.prog 73 0 = some (0, 1) := by kernel_rfl
theorem kS : bC Tryd.prog 73 1 = some (1, 1) := by kernel_rfl
theorem tg : bC Tryd.prog 73 2 = some (2, 1) := by kernel_rfl
abbrev u74 := Tryd.underlying74
theorem Ap : ElemT Tryd.prog 74 111 (Value.agg #[Value.string { data := #[] }, Value.slice none 0 0, Value.bool false]) 3 48 := ⟨Tryd.underlying74, by kernel_rfl, rfl, by decide⟩
abbrev u75 := Tryd.underlying75
theorem Gw : ElemT Tryd.prog 75 119 (Value.agg #[Value.int IntKind.i64 0, Value.int IntKind.i64 0, Value.int IntKind.i64 0, Value.int IntKind.i64 0]) 4 32 := ⟨Tryd.underlying75, by kernel_rfl, rfl, by decide⟩
abbrev u77 := Tryd.underlying77
theorem mC : bC Tryd.prog 77 0 = some (0, 3) := by kernel_rfl
theorem iy : bC Tryd.prog 77 1 = some (3, 1) := by kernel_rfl
theorem sq : bC Tryd.prog 77 2 = some (4, 1) := by kernel_rfl
theorem xx : bC Tryd.prog 77 4 = some (6, 1) := by kernel_rfl
theorem zL : bC Tryd.prog 77 5 = some (7, 1) := by kernel_rfl
theorem Af : bC Tryd.prog 77 6 = some (8, 1) := by kernel_rfl
theorem JD : aq Tryd.prog 78 = some [.v .nilFunc] := by kernel_rfl
theorem JF : aq Tryd.prog 80 = some [.v .nilFunc] := by kernel_rfl
theorem Je : aq Tryd.prog 81 = some [.v .nilFunc] := by kernel_rfl
abbrev u82 := Tryd.underlying82
theorem Jq : aq Tryd.prog 83 = some [.v .nilFunc] := by kernel_rfl
theorem Jz : aq Tryd.prog 84 = some [.v .nilFunc] := by kernel_rfl
theorem JM : aq Tryd.prog 85 = some [.v .nilFunc] := by kernel_rfl
theorem Jo : aq Tryd.prog 86 = some [.v .nilFunc] := by kernel_rfl
theorem Ju : aq Tryd.prog 88 = some [.v .nilFunc] := by kernel_rfl
theorem JE : aq Tryd.prog 89 = some [.v .nilFunc] := by kernel_rfl
theorem Jh : aq Tryd.prog 90 = some [.v .nilFunc] := by kernel_rfl
theorem Jm : aq Tryd.prog 91 = some [.v .nilFunc] := by kernel_rfl
theorem JI : aq Tryd.prog 92 = some [.v .nilFunc] := by kernel_rfl
theorem Jj : aq Tryd.prog 93 = some [.v .nilFunc] := by kernel_rfl
theorem Jv : aq Tryd.prog 94 = some [.v .nilFunc] := by kernel_rfl
theorem Jy : aq Tryd.prog 95 = some [.v .nilFunc] := by kernel_rfl
theorem JK : aq Tryd.prog 97 = some [.v .nilFunc] := by kernel_rfl
theorem Is : aq Tryd.prog 100 = some [.v .nilFunc] := by kernel_rfl
theorem IX : aq Tryd.prog 101 = some [.v .nilFunc] := by kernel_rfl
theorem IY : aq Tryd.prog 102 = some [.v .nilFunc] := by kernel_rfl
theorem IV : aq Tryd.prog 103 = some [.v .nilFunc] := by kernel_rfl
abbrev sw := Tryd.underlying104
theorem Iy : aq Tryd.prog 105 = some [.v .nilFunc] := by kernel_rfl
theorem Ij : aq Tryd.prog 106 = some [.v .nilFunc] := by kernel_rfl
theorem Ih : aq Tryd.prog 107 = some [.v .nilFunc] := by kernel_rfl
theorem I8 : aq Tryd.prog 108 = some [.v .nilFunc] := by kernel_rfl
abbrev tB := Tryd.underlying109
theorem yX : ElemT Tryd.prog 109 115 (Value.slice none 0 0) 1 24 := ⟨Tryd.underlying109, by kernel_rfl, rfl, by decide⟩
abbrev yl := Tryd.underlying111
theorem oZ : bC Tryd.prog 111 1 = some (1, 1) := by kernel_rfl
theorem uq : bC Tryd.prog 111 2 = some (2, 1) := by kernel_rfl
theorem IK : aq Tryd.prog 112 = some [.v .nilFunc] := by kernel_rfl
abbrev rn := Tryd.underlying113
abbrev gF := Tryd.underlying115
theorem Dd : ElemT Tryd.prog 115 159 (Value.agg #[Value.int IntKind.i64 0, Value.int IntKind.i64 0]) 2 16 := ⟨Tryd.underlying115, by kernel_rfl, rfl, by decide⟩
theorem Im : aq Tryd.prog 116 = some [.v .nilFunc] := by kernel_rfl
abbrev ss := Tryd.underlying117
abbrev Gx := Tryd.underlying119
theorem rm : bC Tryd.prog 119 0 = some (0, 1) := by kernel_rfl
theorem zd : bC Tryd.prog 119 1 = some (1, 1) := by kernel_rfl
theorem uO : bC Tryd.prog 119 2 = some (2, 1) := by kernel_rfl
theorem I7 : aq Tryd.prog 120 = some [.v .nilFunc] := by kernel_rfl
theorem Jb : aq Tryd.prog 121 = some [.v .nilFunc] := by kernel_rfl
theorem IP : aq Tryd.prog 122 = some [.v .nilFunc] := by kernel_rfl
theorem I1 : aq Tryd.prog 123 = some [.v .nilFunc] := by kernel_rfl
theorem Iv : aq Tryd.prog 124 = some [.v .nilFunc] := by kernel_rfl
theorem IH : aq Tryd.prog 125 = some [.v .nilFunc] := by kernel_rfl
theorem IA : aq Tryd.prog 126 = some [.v .nilFunc] := by kernel_rfl
theorem Bo : ee Tryd.prog 127 = some (.new 1 [.d (.v .nilFunc)] 127) := by kernel_rfl
theorem IO : aq Tryd.prog 127 = some [.v .nilFunc] := by kernel_rfl
theorem II : aq Tryd.prog 128 = some [.v .nilFunc] := by kernel_rfl
theorem IL : aq Tryd.prog 129 = some [.v .nilFunc] := by kernel_rfl
theorem I9 : aq Tryd.prog 130 = some [.v .nilFunc] := by kernel_rfl
theorem Iw : aq Tryd.prog 131 = some [.v .nilFunc] := by kernel_rfl
theorem Ip : aq Tryd.prog 133 = some [.v .nilFunc] := by kernel_rfl
theorem It : aq Tryd.prog 136 = some [.v .nilFunc] := by kernel_rfl
theorem IU : aq Tryd.prog 137 = some [.v .nilFunc] := by kernel_rfl
theorem IG : aq Tryd.prog 138 = some [.v .nilFunc] := by kernel_rfl
theorem IR : aq Tryd.prog 140 = some [.v .nilFunc] := by kernel_rfl
theorem IF : aq Tryd.prog 141 = some [.v .nilFunc] := by kernel_rfl
theorem Il : aq Tryd.prog 143 = some [.v .nilFunc] := by kernel_rfl
theorem Iz : aq Tryd.prog 144 = some [.v .nilFunc] := by kernel_rfl
theorem IM : aq Tryd.prog 145 = some [.v .nilFunc] := by kernel_rfl
theorem I4 : aq Tryd.prog 146 = some [.v .nilFunc] := by kernel_rfl
theorem Jc : aq Tryd.prog 148 = some [.v .nilFunc] := by kernel_rfl
theorem Jd : aq Tryd.prog 149 = some [.v .nilFunc] := by kernel_rfl
theorem Iu : aq Tryd.prog 150 = some [.v .nilFunc] := by kernel_rfl
theorem I3 : aq Tryd.prog 151 = some [.v .nilFunc] := by kernel_rfl
theorem Ja : aq Tryd.prog 152 = some [.v .nilFunc] := by kernel_rfl
theorem IE : aq Tryd.prog 153 = some [.v .nilFunc] := by kernel_rfl
theorem I2 : aq Tryd.prog 155 = some [.v .nilFunc] := by kernel_rfl
theorem Ik : aq Tryd.prog 156 = some [.v .nilFunc] := by kernel_rfl
theorem Ir : aq Tryd.prog 157 = some [.v .nilFunc] := by kernel_rfl
abbrev j9 := Tryd.underlying159
theorem i7 : gJ Tryd.prog 159 = some [(0, 1), (1, 1)] := by kernel_rfl
theorem uA : bC Tryd.prog 159 0 = some (0, 1) := by kernel_rfl
theorem gI : bC Tryd.prog 159 1 = some (1, 1) := by kernel_rfl
theorem I0 : aq Tryd.prog 160 = some [.v .nilFunc] := by kernel_rfl
theorem Ix : aq Tryd.prog 161 = some [.v .nilFunc] := by kernel_rfl
theorem ID : aq Tryd.prog 162 = some [.v .nilFunc] := by kernel_rfl
theorem Iq : aq Tryd.prog 164 = some [.v .nilFunc] := by kernel_rfl
theorem IW : aq Tryd.prog 165 = some [.v .nilFunc] := by kernel_rfl
theorem Ii : aq Tryd.prog 166 = some [.v .nilFunc] := by kernel_rfl
theorem I6 : aq Tryd.prog 167 = some [.v .nilFunc] := by kernel_rfl
theorem IQ : aq Tryd.prog 168 = some [.v .nilFunc] := by kernel_rfl
theorem IJ : aq Tryd.prog 174 = some [.v .nilFunc] := by kernel_rfl
theorem Io : aq Tryd.prog 177 = some [.v .nilFunc] := by kernel_rfl
end
end Go.Proofs.YtbaccmkhjmmlnaaDoor
