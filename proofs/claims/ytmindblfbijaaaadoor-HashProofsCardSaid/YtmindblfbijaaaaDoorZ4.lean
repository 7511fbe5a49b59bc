/-
  Lemmas, part 4 of 5: walks through the program's functions, and plain Lean about what they compute.
-/
import Derived.SevenTiedAt
import Derived.Test.YtmindblfbijaaaaDoorZ1
import Derived.Test.YtmindblfbijaaaaDoorZ2
import Derived.Test.YtmindblfbijaaaaDoorZ3
set_option linter.unusedSimpArgs false
set_option linter.unusedVariables false
namespace Go.Proofs.YtmindblfbijaaaaDoor
open Go.ChangeShapes Go.WideShapes Go.ChangeAt Go.RowKit
theorem u32D_row (xs : List UInt32) : (xs.map u32D) = (xs.map fun x => D.v (.int .u32 x.toNat)) := rfl
/-- The laid tables, as data. -/
theorem globD_of {W : World} (h : Glob W) : GlobD HG (CellsOf W) := by
  intro g d hg
  unfold HG at hg
  split at hg
  · rename_i e
    subst e
    cases hg
    refine .ptr _ _ _ _ (by simp [Sha.begin8]) (mem_of fun i d hi => ?_)
    have hl : i < Sha.begin8.length := by have := (List.getElem?_eq_some_iff.1 hi).1; simpa using this
    have hd : d = u32D Sha.begin8[i] := by simp [hl] at hi; exact hi.symm
    subst hd
    have := h.1 i (by simpa [Sha.begin8] using hl)
    refine ⟨.int .u32 Sha.begin8[i].toNat, ?_, rfl, .v _⟩
    show W.cell? ⟨0, 0 + i, none⟩ = _
    rw [Nat.zero_add, this]; simp [hl]
  · split at hg
    · rename_i e
      subst e
      cases hg
      refine .ptr _ _ _ _ (by simp [Sha.keys64]) (mem_of fun i d hi => ?_)
      have hl : i < Sha.keys64.length := by have := (List.getElem?_eq_some_iff.1 hi).1; simpa using this
      have hd : d = u32D Sha.keys64[i] := by simp [hl] at hi; exact hi.symm
      subst hd
      have := h.2 i (by simpa [Sha.keys64] using hl)
      refine ⟨.int .u32 Sha.keys64[i].toNat, ?_, rfl, .v _⟩
      show W.cell? ⟨1, 0 + i, none⟩ = _
      rw [Nat.zero_add, this]; simp [hl]
    · cases hg
theorem map_of {α β : Type} {f : α → β} : ∀ {xs : List β}, (∀ x ∈ xs, ∃ a, x = f a) → ∃ l : List α, xs = l.map f := by
  intro xs
  induction xs with
  | nil => intro _; exact ⟨[], rfl⟩
  | cons x xs ih =>
    intro h
    obtain ⟨a, rfl⟩ := h x (by simp)
    obtain ⟨l, rfl⟩ := ih fun y hy => h y (by simp [hy])
    exact ⟨a :: l, rfl⟩
theorem byte_typed {n : Nat} {x : List D} (h : TyD Tryd.prog (n + 1) 5 x) : ∃ b : UInt8, x = rowB b := by
  simp only [TyD, Tryd.underlying5] at h
  obtain ⟨z, rfl, h1, h2⟩ := h
  simp [IntKind.min, IntKind.max, IntKind.signed, IntKind.bits] at h1 h2
  refine ⟨UInt8.ofNat z.toNat, ?_⟩
  simp only [rowB, byteD, UInt8.toNat_ofNat']
  congr 3; omega
theorem bytes_typed {n : Nat} {x : List D} (h : TyD Tryd.prog (n + 2) 22 x) : ∃ l : List UInt8, x = [bytesL l] ∧ l.length ≤ 9223372036854775807 := by
  rw [TyD] at h
  simp only [Tryd.underlying22] at h
  obtain ⟨xs, rfl, h1, h2⟩ := h
  obtain ⟨l, rfl⟩ := map_of (f := rowB) fun x hx => byte_typed (h2 x hx)
  have : Tryd.prog.cellsOf 5 = 1 := by kernel_rfl
  exact ⟨l, by simp only [bytesL, this], by simpa using h1⟩
theorem rows_typed {n : Nat} {x : List D} (h : TyD Tryd.prog (n + 3) 23 x) : ∃ ls : List (List UInt8), x = [elemsL ls] ∧ ls.length ≤ 9223372036854775807 := by
  rw [TyD] at h
  simp only [Tryd.underlying23] at h
  obtain ⟨xs, rfl, h1, h2⟩ := h
  obtain ⟨l, rfl⟩ := map_of (f := rowE) fun x hx => by
    obtain ⟨l, hl, _⟩ := bytes_typed (h2 x hx)
    exact ⟨l, hl⟩
  have : Tryd.prog.cellsOf 22 = 1 := by kernel_rfl
  exact ⟨l, by simp only [elemsL, this], by simpa using h1⟩
theorem elems_typed {n : Nat} {d : D} (h : ArgD Tryd.prog (n + 3) 23 d) : ∃ xs : List (List UInt8), d = elemsL xs ∧ xs.length ≤ 9223372036854775807 := by
  simp only [ArgD, ag23] at h
  obtain ⟨ls, h1, h2⟩ := rows_typed h
  exact ⟨ls, by simpa using h1, h2⟩
theorem byteSlice_typed {n : Nat} {d : D} (h : ArgD Tryd.prog (n + 2) 22 d) : ∃ l : List UInt8, d = bytesL l ∧ l.length ≤ 9223372036854775807 := by
  simp only [ArgD, ag22] at h
  obtain ⟨l, h1, h2⟩ := bytes_typed h
  exact ⟨l, by simpa using h1, h2⟩
/-- The heart of a row. -/
theorem law_core {H : Type} {enc : TypeId × Value → H} {s : ChangeSpec} {fn : Func} {f : FuncId} {n : Nat} (hsv : s.vars = []) (hs : ∀ (ds : List (DataW H)), ds.length = fn.params.size → s.fn H ds = { results := [.lit (.bool true)], args := ds })
    (hres : fn.resultTypes = #[4]) (hfine : (fn.params.toList.all (fineT Tryd.prog n)) = true) (hread : (fn.params.toList.all fun t => Tryd.prog.readableRec t && decide (t < Tryd.prog.types.size)) = true)
    (hD : ∀ ds, ArgsD Tryd.prog n fn.params.toList ds → CallsD Tryd.prog HG f ds (.v (.bool true)))
    (W : World) (base : Nat) (args : Array Value) (ds gs : List (DataW H)) (before : List MemPlace) (hval : ∀ (j : Nat) t v, fn.params[j]? = some t → args[j]? = some v → Value.okWide Tryd.prog W .any base t v)
    (hW : DataW.Whole enc Tryd.prog fn.params.toList s.vars false W args.toList ds gs before) (hL : laidMetH Tryd.prog laid2 W) :
    Calls Tryd.prog f args W fun e W' => ∃ v, e = .returned v ∧ s.post enc Tryd.prog fn false true false false W args v W' := by
  have hW' := hW
  obtain ⟨p, q, hA, hV, rfl, _, _⟩ := hW
  obtain ⟨hlen, xs, hrep, harg⟩ := args_rep (w := W) hfine (fun j t v h1 h2 => hval j t v (by simpa using h1) (by simpa using h2)) hA
  rw [hsv] at hV
  obtain ⟨rfl, rfl⟩ := trodVars_none hV
  have hlt : ∀ x ∈ p, x.block < W.heap.size := fun x hx => hW'.lt x (by simp [hx])
  have hc := hD xs harg (CellsOf W) W args.toList (globD_of (glob_of_laid hL)) (known_cells W) hrep
  rw [Array.toArray_toList] at hc
  refine hc.mono ?_
  rintro e W' ⟨v, C', rfl, hm, hv⟩
  have := Rep.v_eq hv
  subst this
  have hsp := hs ds (by rw [hlen]; simp)
  have hres' : fn.resultTypes.toList = [4] := by rw [hres]
  have hb := hm.below
  refine ⟨_, rfl, ds, [], _, [], p, [], hW', ?_, ?_, ?_, hb.frame _, fun h => by cases h⟩
  · rw [List.append_nil, hsp, hres', hres]
    exact trodAll_mk1 (shut_bool Tryd.underlying4 true)
  · rw [List.append_nil, hsp]
    exact args_stay laidOut hread hA hb hlt
  · rw [hsv, List.append_nil, hsp]; rfl
theorem argsD_cons {P : Program} {n : Nat} {t : TypeId} {ts : List TypeId} {ds : List D} (h : ArgsD P n (t :: ts) ds) : ∃ d r, ds = d :: r ∧ ArgD P n t d ∧ ArgsD P n ts r := by
  cases ds with
  | nil => exact h.elim
  | cons d r => exact ⟨d, r, rfl, h.1, h.2⟩
theorem argsD_nil {P : Program} {n : Nat} {ds : List D} (h : ArgsD P n [] ds) : ds = [] := by
  cases ds with
  | nil => rfl
  | cons d r => exact h.elim
end Go.Proofs.YtmindblfbijaaaaDoor
namespace Go.Proofs.YtmindblfbijaaaaDoor
open Go.RowKit
section
variable {F : Fr} {st : St} {μ : Nat → Option Place} {C : Facts} {a : Act} {w : World}
/-- A new block of the frame's own, with room. -/
theorem Sim.allocCap (h : Sim F st μ C a w) (cap sz : Nat) (rows : List (List V)) (cur : Array Value) (T : TypeId) (hrow : ∀ r ∈ rows, r.length = sz) (hle : rows.length ≤ cap) (hmax : cap ≤ 9223372036854775807) (hsz : cur.size = cap * sz) (hr : RowsV μ C sz rows cur.toList) :
    Sim F { st with h := (st.nx, ⟨sz, rows⟩) :: st.h, nx := st.nx + 1 } (fun l => if l = st.nx then some ⟨w.heap.size, cap, sz⟩ else μ l) C a (w.alloc (.cells cur T)) := by
  have hμ : ∀ l p, μ l = some p → (fun l => if l = st.nx then some (⟨w.heap.size, cap, sz⟩ : Place) else μ l) l = some p := by
    intro l p hp
    have : l ≠ st.nx := fun e => by rw [h.nx l (by omega)] at hp; cases hp
    simp [this, hp]
  have h1 := h.more (.of_below h.known ((Below.refl _ w).alloc (Nat.le_refl _) (.cells cur T)))
  have hold : ∀ l k, look st.h l = some k → l ≠ st.nx := fun l k hk e => by
    obtain ⟨p, hp, _⟩ := h.heap l k hk
    rw [h.nx l (by omega)] at hp; cases hp
  refine ⟨h1.size, h1.defers, h1.below, h1.sub, h1.new, h1.known, fun t x hx => (h1.env t x hx).mono hμ (fun _ _ _ h => h), ?_, ?_, ?_⟩
  · intro l k hk
    simp only [look] at hk
    by_cases hl : st.nx = l
    · subst hl
      rw [if_pos rfl] at hk
      cases hk
      refine ⟨⟨w.heap.size, cap, sz⟩, by simp, rfl, hle, hmax, hrow, fun _ => ⟨h.below.size, fun o u hc => ?_, cur, T, heap_alloc_new w _, hsz, hr.mono hμ (fun _ _ _ h => h)⟩⟩
      exact absurd (h.known.lt hc) (Nat.lt_irrefl _)
    · rw [if_neg hl] at hk
      obtain ⟨p, hp, hb⟩ := h1.heap l k hk
      refine ⟨p, hμ l p hp, hb.sz, hb.len, hb.max, hb.row, fun hc => ?_⟩
      obtain ⟨a1, a2, cur', T', a3, a4, a5⟩ := hb.cells hc
      exact ⟨a1, a2, cur', T', a3, a4, a5.mono hμ (fun _ _ _ h => h)⟩
  · intro l l' p p' hl hl' hp hp' hc hc' hb
    simp only [look] at hl hl'
    have hlt : ∀ l p, (look st.h l).isSome = true → μ l = some p → 0 < p.cap → p.b < w.heap.size := by
      intro l p hl hp hc
      obtain ⟨k, hk⟩ := Option.isSome_iff_exists.1 hl
      obtain ⟨p2, hp2, hb2⟩ := h.heap l k hk
      rw [hp] at hp2; cases hp2
      exact hb2.lt hc
    by_cases e : l = st.nx <;> by_cases e' : l' = st.nx
    · rw [e, e']
    · rw [if_neg (Ne.symm e')] at hl'
      simp only [if_pos e, if_neg e'] at hp hp'
      cases hp
      have := hlt l' p' hl' hp' hc'
      simp at hb; omega
    · rw [if_neg (Ne.symm e)] at hl
      simp only [if_neg e, if_pos e'] at hp hp'
      cases hp'
      have := hlt l p hl hp hc
      simp at hb; omega
    · rw [if_neg (Ne.symm e)] at hl
      rw [if_neg (Ne.symm e')] at hl'
      simp only [if_neg e, if_neg e'] at hp hp'
      exact h.inj l l' p p' hl hl' hp hp' hc hc' hb
  · intro l hl
    have hl' : st.nx + 1 ≤ l := hl
    have : l ≠ st.nx := by omega
    simp only [if_neg this]
    exact h.nx l (by omega)
end
section
variable {P : Program} {G : Nat → Option D} {N : Nat} {F : Fr} {ops : Array Oper} {rest : List Oper} {o : Oper} {Q : Exit → St → Prop} {st : St} {t e : TypeId} {z : Value} {size bytes : Nat}
/-- Append of something to a slice whose capacity is its length: a new row of the frame's own. -/
theorem SmL.appendNew (hF : Env F P G N) (hN : St.small N st) (hE : ElemT P t e z size bytes) {s x : Operand} {d : Tmp} {sz sz' : Nat} {xs ys : List (List D)} {f : Bool} (hg : guardS ops st.env o.guard = some true) (ho : o.op = .call ⟨.builtin .append, #[s, x], #[t, t]⟩) (hd : o.dst = some d) (hdN : d < N)
    (hs : evD G st.env s = some (.d (.list sz xs true))) (hx : evD G st.env x = some (.d (.list sz' ys f))) (hsz : sz = size ∨ xs = []) (hsz' : sz' = size) (hy : ys ≠ []) (hb : (xs.length + ys.length) * bytes ≤ 140737488355328) (hb2 : xs.length + ys.length ≤ 140737488355328)
    (k : SmL F ops rest Q ⟨(d, .sref st.nx 0 (xs ++ ys).length) :: st.env, (st.nx, ⟨size, (xs ++ ys).map fun r => r.map V.d⟩) :: st.h, st.nx + 1⟩) : SmL F ops (o :: rest) Q st := by
  intro μ C a w hsim
  obtain ⟨rfl, rfl, hG⟩ := hF
  obtain ⟨i0, hi, hz0, hz1, hz2⟩ := info_parts hE.info
  refine wpList_step fun K hK => ?_
  rw [guardS_ok hsim hg hN, if_pos rfl]
  have hsv := evD_ok hsim hG hs
  have hxv := evD_ok hsim hG hx
  have hk := hsim.known
  obtain ⟨ao, cap, vs, e1, hcap, hvl, hvv, hvx, hvr⟩ := firstCells_ok (P := F.P) hk hsv hsz
  obtain ⟨bo, cap', us, e2, _, hul, huv, hux, hur⟩ := firstCells_ok (P := F.P) hk hxv (.inl hsz')
  have hdr : Below w.heap.size w w.drew := (Below.refl _ _).drew
  unfold Oper.wp
  rw [exec_append ho, Sem.run_bind, e1, e2]
  rw [hcap rfl]
  have hm : 0 < ys.length := List.length_pos_iff.2 hy
  have hr1 := hvr w.drew hdr
  have hr2 := hur w.drew hdr
  rw [e1, hcap rfl] at hr1
  rw [e2] at hr2
  have hrun := run_append_gen (P := F.P) (w := w) hE.und i0 hi hz0 ao xs.length xs.length vs bo ys.length cap' us o.type (by rw [hz1]; exact hr1) (by rw [hz1]; exact hr2) (by omega) (by rw [hz2]; exact hb) hb2
  rw [hrun, Result.andThen_ok]
  show Oper.upon F.P o a K _ (.ok (.value _) _)
  rw [Oper.upon_value, hd]
  have hge := grownCap_ge w (xs.length + ys.length) xs.length e
  have hgm := grownCap_le_maxLen w (xs.length + ys.length) xs.length e (by unfold maxLen; omega)
  generalize hgc : grownCap w (xs.length + ys.length) xs.length e = g at hge hgm ⊢
  have hrowx : ∀ x ∈ xs ++ ys, x.length = size := by
    intro x hx
    rcases List.mem_append.1 hx with hx | hx
    · exact hvx x hx
    · exact hux x hx
  have hs1 := hsim.drew.allocCap g size ((xs ++ ys).map fun r => r.map V.d) (vs.toArray ++ us.toArray ++ Builtin.zeroCells z.cells (g - (xs.length + ys.length))) e
    (by intro r hr; obtain ⟨x, hx, rfl⟩ := List.mem_map.1 hr; simpa using hrowx x hx) (by simp; omega) (by unfold maxLen at hgm; omega)
    (grown_size g (xs.length + ys.length) size z.cells hE.zs vs us (by rw [hvl, hul, Nat.add_mul]) hge)
    (by
      have := rowsV_flat (μ := μ) (C := C) (rows := xs ++ ys) (vs := vs ++ us) (size := size) hrowx (by rw [List.flatten_append]; exact vals_append hvv huv) (Builtin.zeroCells z.cells (g - (xs.length + ys.length))).toList
      simpa using this)
  have hput := hs1.put (t := d) hdN (x := .sref st.nx 0 (xs ++ ys).length) (v := .slice (some ⟨w.heap.size, 0, none⟩) (xs.length + ys.length) g) ⟨⟨w.heap.size, g, size⟩, some ⟨w.heap.size, 0, none⟩, (by show (if st.nx = st.nx then some (⟨w.drew.heap.size, g, size⟩ : Place) else _) = _; rw [if_pos rfl]; rfl), by simp, by simpa using hge, fun _ => by simp⟩
  exact hK _ _ (k _ C _ _ hput)
/-- A slice of elements, as a row of the frame's own. -/
theorem SmL.buildOwn (hF : Env F P G N) (hN : St.small N st) {t : TypeId} {n : Nat} {ps : Array (Nat × Operand)} {qs : List (Nat × V)} {sz : Nat} {rows : List (List D)} {d : Tmp} (hg : guardS ops st.env o.guard = some true) (ho : o.op = .buildSlice t n ps) (hd : o.dst = some d) (hdN : d < N)
    (hp : evParts (evD G st.env) ps.toList = some qs) (hb : buildSliceS P t n qs = some (.d (.list sz rows true))) (hne : rows ≠ [])
    (k : SmL F ops rest Q ⟨(d, .sref st.nx 0 rows.length) :: st.env, (st.nx, ⟨sz, rows.map fun r => r.map V.d⟩) :: st.h, st.nx + 1⟩) : SmL F ops (o :: rest) Q st := by
  intro μ C a w hsim
  obtain ⟨rfl, rfl, hG⟩ := hF
  refine wpList_step fun K hK => ?_
  rw [guardS_ok hsim hg hN, if_pos rfl]
  have hev : ∀ x v, evD G st.env x = some v → RepV μ C v (a.eval x) := fun x v h => evD_ok hsim hG h
  have hp' : RepPs μ C qs (ps.map fun (i, x) => (i, a.eval x)).toList := by simpa using evParts_ok hev hp
  obtain ⟨s', rows', cells', e', he, hnle, hn, hR, hrun⟩ := buildSliceS_run (P := F.P) (w := w) hp' hb
  cases he
  have hex : (execOp a.eval o).run F.P w = .ok (.value (.slice (some ⟨w.heap.size, 0, none⟩) n n)) (w.alloc (.cells cells' e')) := by
    simp only [execOp, ho]
    simp [Sem.run_bind, hrun, Result.andThen]
  unfold Oper.wp
  rw [hex, Oper.upon_value, hd]
  have hs1 := hsim.alloc sz (rows.map fun r => r.map V.d) cells' e' (by intro r hr; obtain ⟨x, hx, rfl⟩ := List.mem_map.1 hr; obtain ⟨i, hi⟩ := List.getElem?_of_mem hx; simpa using (hR.2 i x hi).1) (by simpa using hne) (by simp; omega) (by simpa using hR.1) (by
    intro i r hr j x hj
    rw [List.getElem?_map] at hr
    cases hrow : rows[i]? with
    | none => rw [hrow] at hr; cases hr
    | some row =>
      rw [hrow] at hr; cases hr
      rw [List.getElem?_map] at hj
      cases hd : row[j]? with
      | none => rw [hd] at hj; cases hj
      | some dd =>
        rw [hd] at hj; cases hj
        obtain ⟨u, g1, g2, g3⟩ := (hR.2 i row hrow).2 j dd hd
        exact ⟨u, by simpa using g1, g2, g3⟩)
  have hpos : 0 < rows.length := List.length_pos_iff.2 hne
  have hput := hs1.put (t := d) hdN (x := .sref st.nx 0 rows.length) (v := .slice (some ⟨w.heap.size, 0, none⟩) n n) ⟨⟨w.heap.size, rows.length, sz⟩, some ⟨w.heap.size, 0, none⟩, by simp, by simp [hn], by simp, fun _ => by simp⟩
  exact hK _ _ (k _ C _ _ hput)
/-- Append to an empty slice without room: a row of the frame's own. -/
theorem SmL.appendFresh (hF : Env F P G N) (hN : St.small N st) (hE : ElemT P t e z size bytes) {s x : Operand} {d : Tmp} {sz sz' : Nat} {ys : List (List D)} {f : Bool} (hg : guardS ops st.env o.guard = some true) (ho : o.op = .call ⟨.builtin .append, #[s, x], #[t, t]⟩) (hd : o.dst = some d) (hdN : d < N)
    (hs : evD G st.env s = some (.d (.list sz [] true))) (hx : evD G st.env x = some (.d (.list sz' ys f))) (hsz' : sz' = size ∨ ys = []) (hb : ys.length * bytes ≤ 140737488355328) (hb2 : ys.length ≤ 140737488355328)
    (k : SmL F ops rest Q ⟨(d, .sref st.nx 0 ys.length) :: st.env, (st.nx, ⟨size, ys.map fun r => r.map V.d⟩) :: st.h, st.nx + 1⟩) : SmL F ops (o :: rest) Q st := by
  by_cases hy : ys = []
  · subst hy
    have hk2 : SmL F ops rest Q { st with env := (d, .d (.list size [] true)) :: st.env } := by
      refine SmL.to (St.to_own (st := { st with env := (d, .d (.list size [] true)) :: st.env }) (t := d) (sz := size) size (by simp [look])) ?_
      refine SmL.less (st' := ⟨(d, .sref st.nx 0 0) :: st.env, (st.nx, ⟨size, []⟩) :: st.h, st.nx + 1⟩) ⟨fun t x hx => ?_, fun _ _ h => h, Nat.le_refl _⟩ (by simpa using k)
      simp only [look] at hx ⊢
      split at hx
      · rename_i e; rw [if_pos e]; exact hx
      · rename_i e; rw [if_neg e, if_neg e]; exact hx
    intro μ C a w hsim
    obtain ⟨rfl, rfl, hG⟩ := hF
    obtain ⟨i0, hi, hz0, hz1, hz2⟩ := info_parts hE.info
    refine wpList_step fun K hK => ?_
    rw [guardS_ok hsim hg hN, if_pos rfl]
    have hsv := evD_ok hsim hG hs
    have hxv := evD_ok hsim hG hx
    have hk := hsim.known
    obtain ⟨ao, cap, vs, e1, hcap, hvl, hvv, hvx, hvr⟩ := firstCells_ok (P := F.P) (size := size) hk hsv (.inr rfl)
    obtain ⟨bo, cap', us, e2, _, hul, huv, hux, hur⟩ := firstCells_ok (P := F.P) (size := size) hk hxv (.inr rfl)
    unfold Oper.wp
    rw [exec_append ho, Sem.run_bind, e1, e2]
    rw [hcap rfl]
    have : (Builtin.append_ #[t, t] o.type #[.slice ao ([] : List (List D)).length ([] : List (List D)).length, .slice bo ([] : List (List D)).length cap']).run F.P w = .ok (.slice ao ([] : List (List D)).length ([] : List (List D)).length) w := by
      have hf0 := hur w (Below.refl _ _)
      rw [e2] at hf0
      have : us = [] := List.eq_nil_of_length_eq_zero (by simpa using hul)
      subst this
      have hszr : (sizeOf e).run F.P w = .ok size w := by simp [sizeOf, typeInfo, hi, hz1]
      simp only [List.length_nil] at hf0
      cases ao with
      | none => simp [Builtin.append_, run_underlying hE.und, hszr, Builtin.lenOf, hf0]
      | some b => simp [Builtin.append_, run_underlying hE.und, hszr, Builtin.lenOf, hf0, storeCells]
    rw [this, Result.andThen_ok]
    show Oper.upon F.P o a K _ (.ok (.value _) w)
    rw [Oper.upon_value, hd]
    refine hK _ _ (hk2 μ C _ w (hsim.put hdN ?_))
    rw [e1, hcap rfl] at hsv
    show Rep C _ _
    cases hsv with
    | nil _ _ a cap h => exact .nil _ _ _ _ h
    | list _ _ _ _ _ _ h => exact absurd rfl h
  · have hsz2 : sz' = size := hsz'.resolve_right hy
    exact SmL.appendNew hF hN hE hg ho hd hdN hs hx (.inr rfl) hsz2 hy (by simpa using hb) (by simpa using hb2) (by simpa using k)
end
section
variable {P : Program} {G : Nat → Option D} {N : Nat} {F : Fr} {ops rest : List Oper} {o : Oper} {Q : Exit → St → Prop} {env : List (Nat × V)} {h : List (Nat × Blk)} {nx : Nat} {t e : TypeId} {z : Value} {size bytes : Nat}
theorem SmG.appendNew (hF : Env F P G N) (hE : ElemT P t e z size bytes) {s x : Operand} {d : Tmp} {sz sz' : Nat} {xs ys : List (List D)} {f : Bool} (ho : o.op = .call ⟨.builtin .append, #[s, x], #[t, t]⟩) (hd : o.dst = some d) (hdN : Nat.blt d N = true) (hg : guardB ops env o.guard = some true)
    (hs : evB G env s = some (.d (.list sz xs true))) (hx : evB G env x = some (.d (.list sz' ys f))) (hsz : sz = size ∨ xs = []) (hsz' : sz' = size) (hy : ys ≠ []) (hb : (xs.length + ys.length) * bytes ≤ 140737488355328) (hb2 : xs.length + ys.length ≤ 140737488355328)
    (k : SmG F N ops rest Q ⟨(d, .sref nx 0 (xs ++ ys).length) :: env, (nx, dB size (xs ++ ys)) :: h, nx + 1⟩) : SmG F N ops (o :: rest) Q ⟨env, h, nx⟩ := by
  have hdN' : d < N := by simpa [Nat.blt_eq] using hdN
  intro hsm
  rw [evB_eq] at hs hx
  exact SmL.appendNew hF hsm hE (guardB_ok hg) ho hd hdN' hs hx hsz hsz' hy hb hb2 (k (small_put hsm hdN'))
theorem SmG.buildOwn (hF : Env F P G N) {t : TypeId} {n : Nat} {ps : List (Nat × Operand)} {qs : List (Nat × V)} {sz : Nat} {rows : List (List D)} {d : Tmp} (ho : o.op = .buildSlice t n ps.toArray) (hd : o.dst = some d) (hdN : Nat.blt d N = true) (hg : guardB ops env o.guard = some true)
    (hp : evParts (evB G env) ps = some qs) (hb : buildSliceS P t n qs = some (.d (.list sz rows true))) (hne : rows ≠ [])
    (k : SmG F N ops rest Q ⟨(d, .sref nx 0 rows.length) :: env, (nx, dB sz rows) :: h, nx + 1⟩) : SmG F N ops (o :: rest) Q ⟨env, h, nx⟩ := by
  have hdN' : d < N := by simpa [Nat.blt_eq] using hdN
  intro hsm
  exact SmL.buildOwn hF hsm (guardB_ok hg) ho hd hdN' (by simpa using evParts_B hp) hb hne (k (small_put hsm hdN'))
theorem SmG.appendFresh (hF : Env F P G N) (hE : ElemT P t e z size bytes) {s x : Operand} {d : Tmp} {sz sz' : Nat} {ys : List (List D)} {f : Bool} (ho : o.op = .call ⟨.builtin .append, #[s, x], #[t, t]⟩) (hd : o.dst = some d) (hdN : Nat.blt d N = true) (hg : guardB ops env o.guard = some true)
    (hs : evB G env s = some (.d (.list sz [] true))) (hx : evB G env x = some (.d (.list sz' ys f))) (hsz' : sz' = size ∨ ys = []) (hb : ys.length * bytes ≤ 140737488355328) (hb2 : ys.length ≤ 140737488355328)
    (k : SmG F N ops rest Q ⟨(d, .sref nx 0 ys.length) :: env, (nx, dB size ys) :: h, nx + 1⟩) : SmG F N ops (o :: rest) Q ⟨env, h, nx⟩ := by
  have hdN' : d < N := by simpa [Nat.blt_eq] using hdN
  intro hsm
  rw [evB_eq] at hs hx
  exact SmL.appendFresh hF hsm hE (guardB_ok hg) ho hd hdN' hs hx hsz' hb hb2 (k (small_put hsm hdN'))
/-- An empty slice without room as a row of the frame's own. -/
theorem SmG.own {t sz : Nat} (sz' : Nat) (ht : lookB env t = some (.d (.list sz [] true))) (k : SmG F N ops rest Q ⟨(t, .sref nx 0 0) :: env, (nx, ⟨sz', []⟩) :: h, nx + 1⟩) : SmG F N ops rest Q ⟨env, h, nx⟩ := by
  intro hsm
  rw [lookB_eq] at ht
  refine SmL.to (St.to_own (st := ⟨env, h, nx⟩) (t := t) sz' ht) (k ?_)
  exact small_put hsm (hsm t _ ht)
/-- A block of the frame's own does not turn any more. -/
theorem SmG.freeze {l sz : Nat} (rows : List (List D)) (hk : lookB h l = some (dB sz rows)) (k : SmG F N ops rest Q ⟨frzE l sz rows env, dropH l h, nx⟩) : SmG F N ops rest Q ⟨env, h, nx⟩ := by
  intro hsm
  rw [lookB_eq] at hk
  refine SmL.to (St.to_freeze (st := ⟨env, h, nx⟩) rows hk rfl) (k ?_)
  intro s y hy
  simp only [look_frz] at hy
  cases hq : look env s with
  | none => rw [hq] at hy; cases hy
  | some y' => exact hsm s y' hq
theorem Sm.freeze {c : Code} {l sz : Nat} (rows : List (List D)) (hk : lookB h l = some (dB sz rows)) (k : Sm F c Q ⟨frzE l sz rows env, dropH l h, nx⟩) : Sm F c Q ⟨env, h, nx⟩ := by
  rw [lookB_eq] at hk
  exact Sm.to (St.to_freeze (st := ⟨env, h, nx⟩) rows hk rfl) k
theorem Sm.own {c : Code} {t sz : Nat} (sz' : Nat) (ht : lookB env t = some (.d (.list sz [] true))) (k : Sm F c Q ⟨(t, .sref nx 0 0) :: env, (nx, ⟨sz', []⟩) :: h, nx + 1⟩) : Sm F c Q ⟨env, h, nx⟩ := by
  rw [lookB_eq] at ht
  exact Sm.to (St.to_own (st := ⟨env, h, nx⟩) (t := t) sz' ht) k
theorem SmG.ownMix {t sz n : Nat} {rs : List D} (sz' : Nat) (ht : lookB env t = some (.d (.agg n (.list sz [] true :: rs)))) (k : SmG F N ops rest Q ⟨(t, .mix false nx 0 rs) :: env, (nx, ⟨sz', []⟩) :: h, nx + 1⟩) : SmG F N ops rest Q ⟨env, h, nx⟩ := by
  intro hsm
  rw [lookB_eq] at ht
  refine SmL.to (St.to_ownMix (st := ⟨env, h, nx⟩) (t := t) sz' ht) (k ?_)
  exact small_put hsm (hsm t _ ht)
end
end Go.Proofs.YtmindblfbijaaaaDoor
namespace Go.Proofs.YtmindblfbijaaaaDoor
open Go.RowKit
/-- A row that a call hands over: nothing else names its block. -/
def OwnD (C : Facts) (base : Nat) (w : World) (v : Value) (sz : Nat) (rows : List (List D)) : Prop :=
  ∃ p a, v = .slice a rows.length p.cap ∧ (0 < p.cap → a = some ⟨p.b, 0, none⟩) ∧ BlkOk base (fun _ => none) C w p (dB sz rows)
def Pk.val : Pk → Value → List Value → Value
  | .one, s, _ => s
  | .tup, s, us => .tuple (s :: us).toArray
  | .agg, s, us => .agg (s :: us).toArray
def Pk.ok (C : Facts) : Pk → List D → List Value → Prop
  | .one, _, _ => True
  | .tup, rest, us => Rp C (.outs rest us)
  | .agg, rest, us => Rp C (.vals rest us)
def Pk.d : Pk → D → List D → D
  | .one, x, _ => x
  | .tup, x, rest => .tup (x :: rest)
  | .agg, x, rest => .agg (rest.length + 1) (x :: rest)
/-- A function, called with values that stand for these data, hands over a row. -/
def CallsO (P : Program) (G : Nat → Option D) (f : FuncId) (ds : List D) (pk : Pk) (sz : Nat) (rows : List (List D)) (rest : List D) : Prop :=
  ∀ C w vs, GlobD G C → Known C w → Rp C (.outs ds vs) → Calls P f vs.toArray w fun e w' => ∃ s us C', e = .returned (pk.val s us) ∧ More w C w' C' ∧ OwnD C' w.heap.size w' s sz rows ∧ pk.ok C' rest us
section
variable {F : Fr} {st : St} {μ : Nat → Option Place} {C : Facts} {a : Act} {w : World}
/-- A block that a call handed over. -/
theorem Sim.adopt (h : Sim F st μ C a w) {w' : World} {C' : Facts} (hm : More w C w' C') {m n' : Nat} (hfree : μ m = none) (hmn : m < n') (hn : st.nx ≤ n') {p : Place} {sz : Nat} {rows : List (List D)} (ho : BlkOk w.heap.size (fun _ => none) C' w' p (dB sz rows)) :
    Sim F { st with h := (m, dB sz rows) :: st.h, nx := n' } (fun l => if l = m then some p else μ l) C' a w' := by
  have hμ : ∀ l q, μ l = some q → (fun l => if l = m then some p else μ l) l = some q := by
    intro l q hq
    have : l ≠ m := fun e => by rw [e, hfree] at hq; cases hq
    simp [this, hq]
  have h1 := h.more hm
  refine ⟨h1.size, h1.defers, h1.below, h1.sub, h1.new, h1.known, fun t x hx => (h1.env t x hx).mono hμ (fun _ _ _ h => h), ?_, ?_, ?_⟩
  · intro l k hk
    simp only [look] at hk
    by_cases hl : m = l
    · subst hl
      rw [if_pos rfl] at hk
      cases hk
      refine ⟨p, by simp, ho.sz, ho.len, ho.max, ho.row, fun hc => ?_⟩
      obtain ⟨b1, b2, cur, T, b3, b4, b5⟩ := ho.cells hc
      exact ⟨Nat.le_trans h.below.size b1, b2, cur, T, b3, b4, b5.mono (fun l p h => by cases h) (fun _ _ _ h => h)⟩
    · rw [if_neg hl] at hk
      obtain ⟨q, hq, hb⟩ := h1.heap l k hk
      refine ⟨q, hμ l q hq, hb.sz, hb.len, hb.max, hb.row, fun hc => ?_⟩
      obtain ⟨a1, a2, cur', T', a3, a4, a5⟩ := hb.cells hc
      exact ⟨a1, a2, cur', T', a3, a4, a5.mono hμ (fun _ _ _ h => h)⟩
  · intro l l' q q' hl hl' hq hq' hc hc' hb
    simp only [look] at hl hl'
    have hlt : ∀ l q, (look st.h l).isSome = true → μ l = some q → 0 < q.cap → q.b < w.heap.size := by
      intro l q hl hq hc
      obtain ⟨k, hk⟩ := Option.isSome_iff_exists.1 hl
      obtain ⟨q2, hq2, hb2⟩ := h.heap l k hk
      rw [hq] at hq2; cases hq2
      exact hb2.lt hc
    by_cases e : l = m <;> by_cases e' : l' = m
    · rw [e, e']
    · rw [if_neg (Ne.symm e')] at hl'
      simp only [if_pos e, if_neg e'] at hq hq'
      cases hq
      have := hlt l' q' hl' hq' hc'
      have := (ho.cells hc).1
      omega
    · rw [if_neg (Ne.symm e)] at hl
      simp only [if_neg e, if_pos e'] at hq hq'
      cases hq'
      have := hlt l q hl hq hc
      have := (ho.cells hc').1
      omega
    · rw [if_neg (Ne.symm e)] at hl
      rw [if_neg (Ne.symm e')] at hl'
      simp only [if_neg e, if_neg e'] at hq hq'
      exact h.inj l l' q q' hl hl' hq hq' hc hc' hb
  · intro l hl
    have hl' : n' ≤ l := hl
    have : l ≠ m := by omega
    simp only [if_neg this]
    exact h.nx l (by omega)
theorem pk_rep {pk : Pk} {m : Nat} {n : Nat} {rest : List D} {p : Place} {ao : Option Addr} {us : List Value} {μ : Nat → Option Place} (hp : μ m = some p) (hn : n ≤ p.cap) (hao : 0 < p.cap → ao = some ⟨p.b, 0, none⟩) (hok : pk.ok C rest us) : RepV μ C (pk.v m n rest) (pk.val (.slice ao n p.cap) us) := by
  cases pk with
  | one => exact ⟨p, ao, hp, by simp [Pk.val], by simpa using hn, by simpa using hao⟩
  | tup => exact ⟨p, ao, us, hp, hn, hao, by rw [if_pos rfl]; exact ⟨hok, rfl⟩⟩
  | agg => exact ⟨p, ao, us, hp, hn, hao, by rw [if_neg (by simp)]; exact ⟨hok, rfl⟩⟩
end
section
variable {P : Program} {G : Nat → Option D} {N : Nat} {F : Fr} {ops : Array Oper} {rest : List Oper} {o : Oper} {Q : Exit → St → Prop} {st : St} {pk : Pk} {sz : Nat} {rows : List (List D)} {rs : List D}
/-- A call that hands over a row. -/
theorem SmL.callO (hF : Env F P G N) (hN : St.small N st) {f : FuncId} {xs : Array Operand} {ts : Array TypeId} {t : Tmp} {ds : List D} (hg : guardS ops st.env o.guard = some true) (ho : o.op = .call ⟨.value (.func f), xs, ts⟩) (hd : o.dst = some t) (hb : hasBody P f = true)
    (hargs : evArgs (evD G st.env) xs.toList = some ds) (ht : t < N) (hc : CallsO P G f ds pk sz rows rs)
    (k : SmL F ops rest Q ⟨(t, pk.v st.nx rows.length rs) :: st.env, (st.nx, dB sz rows) :: st.h, st.nx + 1⟩) : SmL F ops (o :: rest) Q st := by
  intro μ C a w hs
  obtain ⟨rfl, rfl, hG⟩ := hF
  have hev : ∀ x v, evD G st.env x = some v → RepV μ C v (a.eval x) := fun x v h => evD_ok hs hG h
  refine wpList_step fun K hK => ?_
  rw [guardS_ok hs hg hN, if_pos rfl]
  refine wp_call f (fun a w => hcall_of hb a w) xs ts ho (xs.toList.map a.eval) rfl ?_
  refine (hc C w _ (hG.mono hs.sub) hs.known (evArgs_ok hev hargs)).mono ?_
  rintro e w' ⟨s, us, C', rfl, hm, ⟨p, ao, rfl, hao, hB⟩, hok⟩
  have hs2 := hs.adopt hm (m := st.nx) (n' := st.nx + 1) (hs.nx _ (Nat.le_refl _)) (by omega) (by omega) hB
  refine ⟨_, rfl, by rw [hd]; exact hK _ _ (k _ C' _ w' (hs2.put ht (pk_rep (by simp) (by simpa using hB.len) hao hok)))⟩
theorem OpMakes.callO (hF : Env F P G N) {env : List (Nat × V)} {f : FuncId} {xs : Array Operand} {ts : Array TypeId} {ds : List D} (ho : o.op = .call ⟨.value (.func f), xs, ts⟩) (hb : hasBody P f = true)
    (hargs : evArgs (evD G env) xs.toList = some ds) (hc : CallsO P G f ds pk sz rows rs) : OpMakes F G o env (dB sz rows) (fun m => pk.v m rows.length rs) := by
  intro μ C a w nx' hh hs hop m hm hfree K Q hK
  obtain ⟨rfl, rfl, hG⟩ := hF
  have hxs : ∀ y ∈ xs.toList, ∀ v, evD G env y = some v → RepV μ C v (a.eval y) := fun y hy v hv => hop y (by rw [ho]; simp [Op.operands, Call.operands]; exact .inr (by simpa using hy)) v hv
  have hrep : ∀ {ys : List Operand} {es : List D}, (∀ y ∈ ys, ∀ v, evD G env y = some v → RepV μ C v (a.eval y)) → evArgs (evD G env) ys = some es → Rp C (.outs es (ys.map a.eval)) := by
    intro ys
    induction ys with
    | nil => intro es _ h; cases h; exact .onil
    | cons y ys ih =>
      intro es hy h
      simp only [evArgs, Option.bind_eq_some_iff] at h
      obtain ⟨v, hv, h⟩ := h
      split at h
      · rename_i d
        simp only [Option.map_eq_some_iff] at h
        obtain ⟨r, hr, rfl⟩ := h
        exact .ocons _ _ _ _ (hy y (by simp) _ hv) (ih (fun z hz => hy z (by simp [hz])) hr)
      · cases h
  refine wp_call f (fun a w => hcall_of hb a w) xs ts ho (xs.toList.map a.eval) rfl ?_
  refine (hc C w _ (hG.mono hs.sub) hs.known (hrep hxs hargs)).mono ?_
  rintro e w' ⟨s, us, C', rfl, hm', ⟨p, ao, rfl, hao, hB⟩, hok⟩
  have hs2 := hs.adopt hm' (m := m) (n' := nx') hfree hm (Nat.le_refl _) hB
  refine ⟨_, rfl, hK _ _ _ C' hs2 hm'.sub (fun l q hq => ?_) (fun l hl => by simp [hl]) (pk_rep (by simp) (by simpa using hB.len) hao hok)⟩
  have : l ≠ m := fun e => by rw [e, hfree] at hq; cases hq
  simp [this, hq]
end
section
variable {P : Program} {G : Nat → Option D} {N : Nat} {F : Fr} {ops rest : List Oper} {o : Oper} {Q : Exit → St → Prop} {env : List (Nat × V)} {h : List (Nat × Blk)} {nx : Nat} {al : List (Nat × Blk)} {K : List (Nat × V) → List (Nat × Blk) → Nat → Prop} {pk : Pk} {sz : Nat} {rows : List (List D)} {rs : List D}
theorem SmG.callO (hF : Env F P G N) {f : FuncId} {xs : List Operand} {ts : Array TypeId} {t : Tmp} {ds : List D} (ho : o.op = .call ⟨.value (.func f), xs.toArray, ts⟩) (hd : o.dst = some t) (hb : hasBody P f = true) (ht : Nat.blt t N = true)
    (hg : guardB ops env o.guard = some true) (hargs : evArgs (evB G env) xs = some ds) (hc : CallsO P G f ds pk sz rows rs)
    (k : SmG F N ops rest Q ⟨(t, pk.v nx rows.length rs) :: env, (nx, dB sz rows) :: h, nx + 1⟩) : SmG F N ops (o :: rest) Q ⟨env, h, nx⟩ := by
  have ht' : t < N := by simpa [Nat.blt_eq] using ht
  intro hs
  exact SmL.callO hF hs (guardB_ok hg) ho hd hb (evArgs_B (by simpa using hargs)) ht' hc (k (small_put hs ht'))
theorem Head.co (hF : Env F P G N) {f : FuncId} {xs : List Operand} {ts : Array TypeId} {t : Tmp} {ds : List D} (ho : o.op = .call ⟨.value (.func f), xs.toArray, ts⟩) (hd : o.dst = some t) (hb : hasBody P f = true) (ht : Nat.blt t N = true)
    (hg : guardB ops env o.guard = some true) (hargs : evArgs (evB G env) xs = some ds) (hc : CallsO P G f ds pk sz rows rs)
    (k : Head F G N ops.toArray h rest ((t, pk.v nx rows.length rs) :: env) ((nx, dB sz rows) :: al) (nx + 1) K) : Head F G N ops.toArray h (o :: rest) env al nx K :=
  ⟨t, hd, by simpa [Nat.blt_eq] using ht, .inr ⟨dB sz rows, fun m => pk.v m rows.length rs, guardB_ok hg, .callO hF ho hb (evArgs_B (by simpa using hargs)) hc, k⟩⟩
end
/-- What a row that was handed over stands for, from now on. -/
theorem OwnD.data {C : Facts} {base : Nat} {w : World} {v : Value} {sz : Nat} {rows : List (List D)} (hk : Known C w) (ho : OwnD C base w v sz rows) : ∃ C', (∀ b o u, C b o u → C' b o u) ∧ (∀ b o u, C' b o u → C b o u ∨ base ≤ b) ∧ Known C' w ∧ Rep C' (.list sz rows false) v := by
  obtain ⟨p, ao, rfl, hao, hb⟩ := ho
  refine ⟨fun b o u => C b o u ∨ (0 < p.cap ∧ b = p.b ∧ w.cell? ⟨p.b, o, none⟩ = some u), fun b o u h => .inl h, ?_, ?_, ?_⟩
  · rintro b o u (h | ⟨h1, rfl, _⟩)
    · exact .inl h
    · exact .inr (hb.cells h1).1
  · rintro b o u (h | ⟨h1, rfl, h2⟩)
    · exact hk b o u h
    · exact h2
  · have hlen : rows.length ≤ p.cap := by simpa using hb.len
    by_cases hr0 : rows = []
    · subst hr0
      refine .nil _ _ _ _ ⟨Nat.zero_le _, by simp, hb.max, fun hn => ?_, fun x hx hpos => ?_⟩
      · rcases Nat.eq_zero_or_pos p.cap with h0 | h0
        · exact h0
        · rw [hao h0] at hn; cases hn
      · rw [hao hpos] at hx; cases hx; rfl
    · have hpos : 0 < rows.length := List.length_pos_iff.2 hr0
      have hcap : 0 < p.cap := by omega
      obtain rfl := hao hcap
      refine .list _ _ _ _ _ _ hr0 ⟨hlen, by simp, hb.max, fun h => (by cases h), fun x h _ => by cases h; rfl⟩ (rows_of fun i x hi => ?_)
      have hrow : (rows.map fun r => r.map V.d)[i]? = some (x.map V.d) := by simp [hi]
      refine ⟨by simpa using hb.row _ (List.mem_of_getElem? hrow), mem_of fun j d hj => ?_⟩
      obtain ⟨_, _, cur, T, h3, h4, h5⟩ := hb.cells hcap
      obtain ⟨u, g1, g2, g3⟩ := h5 i _ hrow j (.d d) (by simp [hj])
      have hc : w.cell? ⟨p.b, 0 + i * sz + j, none⟩ = some u := by
        rw [Nat.zero_add]
        simp [World.cell?, h3]
        simpa using g1
      exact ⟨u, .inr ⟨hcap, rfl, hc⟩, g2, Rp.mono (fun _ _ _ h => .inl h) g3⟩
theorem CallsO.data {P : Program} {G : Nat → Option D} {f : FuncId} {ds : List D} {pk : Pk} {sz : Nat} {rows : List (List D)} {rest : List D} (h : CallsO P G f ds pk sz rows rest) : CallsD P G f ds (pk.d (.list sz rows false) rest) := by
  intro C w vs hG hk ha
  refine (h C w vs hG hk ha).mono ?_
  rintro e w' ⟨s, us, C', rfl, hm, ho, hok⟩
  obtain ⟨C2, k1, k2, k3, k4⟩ := ho.data hm.known
  refine ⟨_, C2, rfl, ⟨hm.below, fun b o u hc => k1 _ _ _ (hm.sub _ _ _ hc), fun b o u hc => (k2 _ _ _ hc).elim (hm.new b o u) .inr, k3⟩, ?_⟩
  cases pk with
  | one => exact k4
  | tup => exact .tup _ _ (.ocons _ _ _ _ k4 (Rp.mono k1 hok))
  | agg =>
    refine .agg _ _ _ (by simp) (.vcons _ _ _ _ ?_ k4 (Rp.mono k1 hok))
    obtain ⟨p, ao, rfl, _⟩ := ho
    rfl
/-- What a frame hands over. -/
def retV (P : Program) (pk : Pk) (st : St) (rs : List ResultVar) : Option V :=
  match pk with
  | .tup => match rs with
    | r :: rs => (retOne P st r).bind fun v => match v with
      | .sref l 0 n => if rs.isEmpty then none else (retAll P st rs).map fun ds => .mix true l n ds
      | _ => none
    | _ => none
  | _ => match rs with
    | [r] => retOne P st r
    | _ => none
def retO (P : Program) (fn : Func) (pk : Pk) (sz : Nat) (rows : List (List D)) (rest : List D) : Exit → St → Prop
  | .ret, st | .normal, st => ∃ l, retV P pk st fn.results.toList = some (pk.v l rows.length rest) ∧ look st.h l = some (dB sz rows)
  | _, _ => False
section
variable {P : Program} {G : Nat → Option D} {N : Nat} {F : Fr} {st : St} {μ : Nat → Option Place} {C : Facts} {a : Act} {w : World}
theorem retOne_ok (hs : Sim F st μ C a w) {r : ResultVar} {v : V} (hv : retOne F.P st r = some v) :
    ∃ u, ((match r with | .tmp t => pure (a.tmps.getD t undef) | .cell p t => do loadVar t (← asAddr (a.tmps.getD p undef)) : Sem Value)).run F.P w = .ok u w ∧ RepV μ C v u := by
  cases r with
  | tmp t => exact ⟨_, rfl, hs.env t _ hv⟩
  | cell p ty =>
    simp only [retOne, Option.bind_eq_some_iff] at hv
    obtain ⟨x, hx, hl⟩ := hv
    obtain ⟨u, a1, a2⟩ := loadS_ok hs (hs.env p x hx) hl
    refine ⟨u, ?_, a2⟩
    have hp := hs.env p x hx
    show ((do loadVar ty (← asAddr (a.tmps.getD p undef)) : Sem Value)).run F.P w = .ok u w
    generalize a.tmps.getD p undef = q at a1 hp ⊢
    cases q with
    | pointer b =>
      cases b with
      | some b => simpa [Instr.loadAt, Instr.sureAddr, asAddr, Sem.run_bind, Result.andThen] using a1
      | none => simp [Instr.loadAt, Instr.sureAddr, stuck, Sem.run_bind, Result.andThen, Sem.run] at a1
    | _ => simp [Instr.loadAt, Instr.sureAddr, stuck, Sem.run_bind, Result.andThen, Sem.run] at a1
theorem results_of {fn : Func} {us : List Value} (h1 : ((fn.results.toList.mapM fun (r : ResultVar) => (match r with | .tmp t => pure (a.tmps.getD t undef) | .cell p t => do loadVar t (← asAddr (a.tmps.getD p undef)) : Sem Value))).run P w = .ok us w) :
    (results fn a.tmps).run P w = .ok (if h : us.toArray.size = 1 then us.toArray[0] else .tuple us.toArray) w := by
  unfold results
  rw [Array.mapM_eq_mapM_toList]
  simp only [Sem.run_bind]
  have : (List.toArray <$> (fn.results.toList.mapM fun (r : ResultVar) => (match r with | .tmp t => pure (a.tmps.getD t undef) | .cell p t => do loadVar t (← asAddr (a.tmps.getD p undef)) : Sem Value))).run P w = .ok us.toArray w := by
    show ((fn.results.toList.mapM fun (r : ResultVar) => (match r with | .tmp t => pure (a.tmps.getD t undef) | .cell p t => do loadVar t (← asAddr (a.tmps.getD p undef)) : Sem Value)).bind fun x => Sem.pure x.toArray).run P w = _
    have hb := Sem.run_bind' P (fn.results.toList.mapM fun (r : ResultVar) => (match r with | .tmp t => pure (a.tmps.getD t undef) | .cell p t => do loadVar t (← asAddr (a.tmps.getD p undef)) : Sem Value)) (fun x => Sem.pure x.toArray) w
    rw [hb, h1]
    rfl
  erw [this]
  rfl
theorem retV_ok (hs : Sim F st μ C a w) {fn : Func} {pk : Pk} {v : V} (hv : retV F.P pk st fn.results.toList = some v) : ∃ u, (results fn a.tmps).run F.P w = .ok u w ∧ RepV μ C v u := by
  have one : ∀ {r : ResultVar}, fn.results.toList = [r] → retOne F.P st r = some v → ∃ u, (results fn a.tmps).run F.P w = .ok u w ∧ RepV μ C v u := by
    intro r hr hv
    obtain ⟨u, h1, h2⟩ := retOne_ok hs hv
    refine ⟨u, ?_, h2⟩
    have := results_of (P := F.P) (fn := fn) (a := a) (w := w) (us := [u]) (by rw [hr]; simp only [List.mapM_cons, List.mapM_nil, Sem.run_bind, h1, Result.andThen_ok, Sem.run_pure])
    simpa using this
  unfold retV at hv
  split at hv
  · split at hv
    · rename_i r rs hr
      simp only [Option.bind_eq_some_iff] at hv
      obtain ⟨x, hx, hv⟩ := hv
      obtain ⟨u, h1, h2⟩ := retOne_ok hs hx
      split at hv
      · rename_i l n
        split at hv
        · cases hv
        · rename_i hne
          simp only [Option.map_eq_some_iff] at hv
          obtain ⟨ds, hds, rfl⟩ := hv
          obtain ⟨us, g1, g2⟩ := retAll_ok hs hds
          have hul : us ≠ [] := by
            intro e; subst e
            cases rs with
            | nil => simp at hne
            | cons r' rs =>
              have := outs_length g2
              simp only [retAll, Option.bind_eq_some_iff, Option.map_eq_some_iff] at hds
              obtain ⟨_, _, _, _, _, _, rfl⟩ := hds
              simp at this
          have := results_of (P := F.P) (fn := fn) (a := a) (w := w) (us := u :: us) (by rw [hr]; simp only [List.mapM_cons, Sem.run_bind, h1, Result.andThen_ok]; erw [g1]; rfl)
          obtain ⟨p, ao, q1, rfl, q3, q4⟩ := h2
          refine ⟨_, this, p, ao, us, q1, by simpa using q3, by simpa using q4, ?_⟩
          rw [if_pos rfl]
          refine ⟨g2, ?_⟩
          cases us with
          | nil => exact absurd rfl hul
          | cons u2 us => simp
      · cases hv
    · cases hv
  · split at hv
    · rename_i r hr; exact one hr hv
    · cases hv
/-- A function's body that hands over a row. -/
theorem CallsO.of {f : FuncId} {fn : Func} {c : Code} {ds : List D} {pk : Pk} {sz : Nat} {rows : List (List D)} {rest : List D} (hf : P.funcs[f]? = some fn) (hb : fn.body = some c) (hN : fn.ntmps = N) (hp : ds.length ≤ N)
    (h : ∀ F, Env F P G N → Sm F c (retO P fn pk sz rows rest) ⟨ds.zipIdx.map fun e => (e.2, .d e.1), [], 0⟩) : CallsO P G f ds pk sz rows rest := by
  intro C w vs hG hk ha
  have hvl : vs.length = ds.length := outs_length ha
  refine calls_of_wp hf hb ?_
  let F : Fr := ⟨P, N, w, C⟩
  have hsz : (vs.toArray ++ Array.replicate (fn.ntmps - vs.toArray.size) undef).size = N := by simp; omega
  have hlook : ∀ (ds : List D) (k : Nat) (t : Nat) (x : V), look ((ds.zipIdx k).map fun e => (e.2, V.d e.1)) t = some x → ∃ d, x = .d d ∧ k ≤ t ∧ ds[t - k]? = some d := by
    intro ds
    induction ds with
    | nil => intro k t x h; simp [look] at h
    | cons d ds ih =>
      intro k t x h
      simp only [List.zipIdx_cons, List.map_cons, look] at h
      split at h
      · rename_i e; cases h; subst e; exact ⟨d, rfl, Nat.le_refl _, by simp⟩
      · obtain ⟨d', rfl, h1, h2⟩ := ih _ _ _ h
        refine ⟨d', rfl, by omega, ?_⟩
        rw [show t - k = (t - (k + 1)) + 1 by omega]; simpa using h2
  have hsim : Sim F ⟨ds.zipIdx.map fun e => (e.2, .d e.1), [], 0⟩ (fun _ => none) C { tmps := vs.toArray ++ Array.replicate (fn.ntmps - vs.toArray.size) undef, defers := [] } w := by
    refine ⟨hsz, rfl, Below.refl _ _, fun _ _ _ h => h, fun _ _ _ h => .inl h, hk, fun t x hx => ?_, fun l k hk => by simp [look] at hk, fun l l' p p' h => by simp [look] at h, fun _ _ => rfl⟩
    obtain ⟨d, rfl, _, hd⟩ := hlook ds 0 t x hx
    rw [Nat.sub_zero] at hd
    obtain ⟨v, h1, h2⟩ := outs_get ha t d hd
    have htl := (List.getElem?_eq_some_iff.1 h1).1
    have : (vs.toArray ++ Array.replicate (fn.ntmps - vs.toArray.size) undef).getD t undef = v := by
      rw [Array.getD_eq_getD_getElem?, Array.getElem?_append_left (by simpa using htl)]
      simp [h1]
    show Rep C d _
    rw [this]; exact h2
  refine wp_mono (h F ⟨rfl, rfl, hG⟩ _ C _ w hsim) ?_
  rintro e a w' ⟨st', μ', C', hq, hs⟩
  have fin : (∃ l, retV P pk st' fn.results.toList = some (pk.v l rows.length rest) ∧ look st'.h l = some (dB sz rows)) → a.defers = [] ∧ ∃ v, (results fn a.tmps).run P w' = .ok v w' ∧ ∃ s us C', Ending.returned v = .returned (pk.val s us) ∧ More w C w' C' ∧ OwnD C' w.heap.size w' s sz rows ∧ pk.ok C' rest us := by
    rintro ⟨l, hv, hl⟩
    refine ⟨hs.defers, ?_⟩
    obtain ⟨u, h1, h2⟩ := retV_ok hs hv
    have hm : More w C w' C' := ⟨hs.below, hs.sub, hs.new, hs.known⟩
    obtain ⟨p, hp, hB⟩ := hs.heap l _ hl
    have hB' : BlkOk w.heap.size (fun _ => none) C' w' p (dB sz rows) := by
      refine ⟨hB.sz, hB.len, hB.max, hB.row, fun hc => ?_⟩
      obtain ⟨b1, b2, cur, T, b3, b4, b5⟩ := hB.cells hc
      refine ⟨b1, b2, cur, T, b3, b4, fun i r hr j x hj => ?_⟩
      obtain ⟨u, g1, g2, g3⟩ := b5 i r hr j x hj
      refine ⟨u, g1, g2, ?_⟩
      have hr' : ∃ r0 : List D, r = r0.map V.d := by
        have := List.mem_of_getElem? hr
        obtain ⟨r0, _, e⟩ := List.mem_map.1 this
        exact ⟨r0, e.symm⟩
      obtain ⟨r0, rfl⟩ := hr'
      rw [List.getElem?_map] at hj
      cases hd : r0[j]? with
      | none => rw [hd] at hj; cases hj
      | some d => rw [hd] at hj; cases hj; exact g3
    cases pk with
    | one =>
      obtain ⟨q, ao, q1, rfl, q3, q4⟩ := h2
      rw [hp] at q1; cases q1
      exact ⟨_, h1, _, [], C', rfl, hm, ⟨p, ao, by simp, by simpa using q4, hB'⟩, trivial⟩
    | tup =>
      obtain ⟨q, ao, us, q1, q2, q3, q4⟩ := h2
      rw [hp] at q1; cases q1
      rw [if_pos rfl] at q4
      obtain ⟨q4, rfl⟩ := q4
      exact ⟨_, h1, _, us, C', rfl, hm, ⟨p, ao, rfl, q3, hB'⟩, q4⟩
    | agg =>
      obtain ⟨q, ao, us, q1, q2, q3, q4⟩ := h2
      rw [hp] at q1; cases q1
      rw [if_neg (by simp)] at q4
      obtain ⟨q4, rfl⟩ := q4
      exact ⟨_, h1, _, us, C', rfl, hm, ⟨p, ao, rfl, q3, hB'⟩, q4⟩
  cases e <;> first | exact fin hq | exact hq.elim
end
/-- Ways that meet again. -/
theorem Sm.join {F : Fr} {c y : Code} {Q Q' : Exit → St → Prop} {st : St} {ι : Type} (I : ι → St) (h1 : ∀ i, Sm F y Q (I i)) (h2 : Sm F c (nextS (fun st' => ∃ i, st'.le (I i)) Q') st) : Sm F c (nextS (Sm F y Q) Q') st := by
  refine h2.mono fun e st' h => ?_
  cases e <;> first | exact h | (obtain ⟨i, hle⟩ := h; exact (h1 i).less hle)
/-- A contract at arguments that stand for less. -/
theorem CallsD.args {P : Program} {G : Nat → Option D} {f : FuncId} {ds ds' : List D} {r : D} (h : CallsD P G f ds' r) (hd : ∀ C vs, Rp C (.outs ds vs) → Rp C (.outs ds' vs)) : CallsD P G f ds r := fun C w vs hG hk ha => h C w vs hG hk (hd C vs ha)
theorem outs_le {C : Facts} {d d' : D} {ds ds' : List D} (h : d.le d') (k : ∀ vs, Rp C (.outs ds vs) → Rp C (.outs ds' vs)) : ∀ vs, Rp C (.outs (d :: ds) vs) → Rp C (.outs (d' :: ds') vs) := by
  intro vs hv
  cases hv with | ocons _ v _ vs h1 h2 => exact .ocons _ _ _ _ (h C v h1) (k vs h2)
theorem outs_same {C : Facts} (ds : List D) : ∀ vs, Rp C (.outs ds vs) → Rp C (.outs ds vs) := fun _ h => h
/-- A conversion of a number to a kind that has it. -/
theorem convS_int {P : Program} {s d : TypeId} {td : TypeDesc} {k k2 : IntKind} {n : Int} (h1 : P.underlying s = some td) (h2 : P.underlying d = some (.int k)) (hw : k.wrap n = n) : convS P s d (.d (.v (.int k2 n))) = some (.d (.v (.int k n))) := by
  simp only [convS, rc_int P k n s d h1 h2 k2, hw, Option.map_some]
/-- Blocks from a name on are forgotten. -/
def V.lt (n : Nat) : V → Bool
  | .d _ => true
  | .ref l .. => decide (l < n)
  | .sref l .. => decide (l < n)
  | .aref l .. => decide (l < n)
  | .mix _ l .. => decide (l < n)
  | .any => true
def cutE (n : Nat) : List (Nat × V) → List (Nat × V)
  | [] => []
  | (t, x) :: r => (t, if x.lt n then x else .any) :: cutE n r
theorem look_cutE (n : Nat) : ∀ (env : List (Nat × V)) (t : Nat), look (cutE n env) t = (look env t).map fun x => if x.lt n then x else .any
  | [], _ => rfl
  | (k, x) :: r, t => by
    simp only [cutE, look]
    split
    · rfl
    · exact look_cutE n r t
def cutH (n : Nat) : List (Nat × Blk) → List (Nat × Blk)
  | [] => []
  | (l, k) :: r => if l < n then (l, k) :: cutH n r else cutH n r
theorem look_cutH (n : Nat) : ∀ (h : List (Nat × Blk)) (l : Nat), look (cutH n h) l = if l < n then look h l else none
  | [], l => by simp [cutH, look]
  | (k, x) :: r, l => by
    simp only [cutH]
    split
    · rename_i hk
      simp only [look]
      split
      · rename_i e; subst e; rw [if_pos hk]
      · exact look_cutH n r l
    · rename_i hk
      rw [look_cutH n r l]
      simp only [look]
      split
      · rename_i hl; have hne : k ≠ l := by omega
        rw [if_neg hne]
      · rfl
/-- The cells of the blocks before a name say nothing of those from it on. -/
def ltH (n : Nat) (h : List (Nat × Blk)) : Prop := ∀ l k, l < n → look h l = some k → ∀ r ∈ k.rows, ∀ x ∈ r, V.lt n x = true
theorem ltH_nil (n : Nat) : ltH n [] := fun l k _ h => by simp [look] at h
theorem ltH_cons {n m : Nat} {k : Blk} {h : List (Nat × Blk)} (f : ltH n h) (hr : ∀ r ∈ k.rows, ∀ x ∈ r, V.lt n x = true) : ltH n ((m, k) :: h) := fun l k' hl hk => by
  simp only [look] at hk
  split at hk
  · cases hk; exact hr
  · exact f l k' hl hk
theorem ltH_over {n m : Nat} {k : Blk} {h : List (Nat × Blk)} (f : ltH n h) (hm : n ≤ m) : ltH n ((m, k) :: h) := fun l k' hl hk => by
  simp only [look] at hk
  split at hk
  · omega
  · exact f l k' hl hk
theorem lt_dB (n sz : Nat) (rows : List (List D)) : ∀ r ∈ (dB sz rows).rows, ∀ x ∈ r, V.lt n x = true := by
  intro r hr x hx
  obtain ⟨r', _, rfl⟩ := List.mem_map.1 hr
  obtain ⟨d, _, rfl⟩ := List.mem_map.1 hx
  rfl
theorem lt_row {n : Nat} {r : List V} {sz : Nat} (h : r.all (V.lt n) = true) : ∀ r' ∈ (Blk.mk sz [r]).rows, ∀ x ∈ r', V.lt n x = true := by
  intro r' hr x hx
  have : r' = r := by simpa using hr
  subst this
  exact List.all_eq_true.1 h x hx
theorem V.lt_rep {n : Nat} {x : V} (h : x.lt n = true) {μ μ' : Nat → Option Place} (hμ : ∀ l, l < n → μ' l = μ l) {C : Facts} {v : Value} (hr : RepV μ C x v) : RepV μ' C x v := by
  cases x with
  | d => exact hr
  | ref l i off => obtain ⟨p, h1, h2⟩ := hr; exact ⟨p, by rw [hμ l (by simpa [V.lt] using h)]; exact h1, h2⟩
  | sref l lo len => obtain ⟨p, ao, h1, h2⟩ := hr; exact ⟨p, ao, by rw [hμ l (by simpa [V.lt] using h)]; exact h1, h2⟩
  | aref l i off es len cap => obtain ⟨p, ao, h1, h2⟩ := hr; exact ⟨p, ao, by rw [hμ l (by simpa [V.lt] using h)]; exact h1, h2⟩
  | mix tup l k rest => obtain ⟨p, ao, us, h1, h2⟩ := hr; exact ⟨p, ao, us, by rw [hμ l (by simpa [V.lt] using h)]; exact h1, h2⟩
  | any => trivial
theorem St.to_cut {F : Fr} {st : St} (n : Nat) (hh : ltH n st.h) : St.to F st ⟨cutE n st.env, cutH n st.h, n⟩ := by
  intro μ C a w hs
  refine ⟨fun l => if l < n then μ l else none, C, hs.size, hs.defers, hs.below, hs.sub, hs.new, hs.known, fun t x hx => ?_, fun l k hk => ?_, fun l l' p p' h1 h2 g1 g2 => ?_, fun l hl => ?_⟩
  · rw [look_cutE] at hx
    cases hq : look st.env t with
    | none => rw [hq] at hx; cases hx
    | some y =>
      rw [hq] at hx
      simp only [Option.map_some, Option.some.injEq] at hx
      subst hx
      split
      · rename_i hl; exact V.lt_rep hl (fun l hl => by simp [hl]) (hs.env t y hq)
      · trivial
  · rw [look_cutH] at hk
    split at hk
    · rename_i hl
      obtain ⟨p, hp, hb⟩ := hs.heap l k hk
      refine ⟨p, by simp [hl, hp], hb.sz, hb.len, hb.max, hb.row, fun hc => ?_⟩
      obtain ⟨b1, b2, cur, T, b3, b4, b5⟩ := hb.cells hc
      refine ⟨b1, b2, cur, T, b3, b4, fun i r hr j x hx => ?_⟩
      obtain ⟨u, g1, g2, g3⟩ := b5 i r hr j x hx
      exact ⟨u, g1, g2, V.lt_rep (hh l k hl hk r (List.mem_of_getElem? hr) x (List.mem_of_getElem? hx)) (fun l hl => by simp [hl]) g3⟩
    · cases hk
  · rw [look_cutH] at h1 h2
    split at h1
    · rename_i hl
      split at h2
      · rename_i hl'
        simp only [if_pos hl] at g1
        simp only [if_pos hl'] at g2
        exact hs.inj l l' p p' h1 h2 g1 g2
      · cases h2
    · cases h1
  · have hl' : n ≤ l := hl
    simp [show ¬ l < n by omega]
section
variable {P : Program} {G : Nat → Option D} {N : Nat} {F : Fr} {ops rest : List Oper} {Q : Exit → St → Prop} {env : List (Nat × V)} {h : List (Nat × Blk)} {nx : Nat} {c : Code}
theorem Sm.cut (n : Nat) (hh : ltH n h) (k : Sm F c Q ⟨cutE n env, cutH n h, n⟩) : Sm F c Q ⟨env, h, nx⟩ := Sm.to (St.to_cut (st := ⟨env, h, nx⟩) n hh) k
theorem SmG.cut (n : Nat) (hh : ltH n h) (k : SmG F N ops rest Q ⟨cutE n env, cutH n h, n⟩) : SmG F N ops rest Q ⟨env, h, nx⟩ := by
  intro hsm
  refine SmL.to (St.to_cut (st := ⟨env, h, nx⟩) n hh) (k ?_)
  intro s y hy
  simp only [look_cutE] at hy
  cases hq : look env s with
  | none => rw [hq] at hy; cases hy
  | some y' => exact hsm s y' hq
end
theorem take_map' {α β : Type} (f : α → β) (n : Nat) (l : List α) : List.take n (List.map f l) = List.map f (List.take n l) := by rw [List.map_take]
theorem drop_map' {α β : Type} (f : α → β) (n : Nat) (l : List α) : List.drop n (List.map f l) = List.map f (List.drop n l) := by rw [List.map_drop]
section
variable {P : Program} {G : Nat → Option D} {env : List (Nat × V)} {h : List (Nat × Blk)} {o : Oper}
theorem opV_extract0 {x : Operand} {l n : Nat} {rest : List D} (ho : o.op = .extract x 0) (hx : evB G env x = some (.mix true l n rest)) : opV P (evD G env) h o = some (.sref l 0 n) := by
  rw [evB_eq] at hx; simp only [opV, ho, hx, Option.bind_some]
theorem opV_extractS {x : Operand} {l n i : Nat} {rest : List D} {d : D} (ho : o.op = .extract x (i + 1)) (hx : evB G env x = some (.mix true l n rest)) (hi : rest[i]? = some d) : opV P (evD G env) h o = some (.d d) := by
  rw [evB_eq] at hx; simp only [opV, ho, hx, hi, Option.bind_some, Option.map_some]
end
/-- What a frame hands back out of a variable. -/
theorem retQ_cell {P : Program} {fn : Func} {p : Tmp} {ty : TypeId} {st : St} {x : V} {v d : D} (hr : fn.results = #[.cell p ty]) (hx : lookB st.env p = some x) (hl : loadS P st.h ty x = some (.d v)) (hle : v.le d) : retQ P fn d .ret st := by
  refine ⟨v, ?_, hle⟩
  rw [lookB_eq] at hx
  simp only [retS, hr, retAll, retOne, hx, hl, Option.bind_some, pureV, Option.map_some]
attribute [go_sem] pureRow_map rep
end Go.Proofs.YtmindblfbijaaaaDoor
namespace Go.Proofs.YtmindblfbijaaaaDoor
open Go.RowKit
def elems (xs : List (List UInt8)) : List (List UInt8) := (xs.take 9).map (·.take 40)
theorem elBB : ElemT Tryd.prog 23 22 (.slice none 0 0) 1 24 := ⟨Tryd.underlying23, by kernel_rfl, rfl, by decide⟩
theorem take_min_map {α β : Type} (f : α → β) (l : List α) (m : Nat) : List.take (min l.length m) (List.map f l) = List.map f (List.take m l) := by
  rw [← List.map_take]
  congr 1
  rcases Nat.le_total l.length m with h | h
  · rw [Nat.min_eq_left h, List.take_of_length_le (Nat.le_refl _), List.take_of_length_le h]
  · rw [Nat.min_eq_right h]
set_option maxRecDepth 100000

theorem elements_D (xs : List (List UInt8)) (hl : xs.length ≤ 9223372036854775807) : CallsD Tryd.prog HG 11 [elemsL xs] (elemsL (elems xs)) := by
  simp only [elemsL]
  refine CallsD.of Tryd.func11 rfl Tryd.ntmps11 (by simp) ?_; intro F hF; simp only [List.zipIdx_cons, List.zipIdx_nil, List.map_cons, List.map_nil, Nat.zero_add, Nat.reduceAdd]
  refine Sm.seq ?_
  refine Sm.regionG hF rfl ?_
  refine SmG.v hF rfl rfl rfl (opV_assign rfl rfl) ?_
  refine SmG.nil ?_
  refine nextS_normal ?_
  refine Sm.seq ?_
  refine Sm.regionG hF rfl ?_
  refine SmG.v hF rfl rfl rfl (opV_buildSlice rfl rfl (by simp (disch := omega) only [go_sem, Nat.reduceEqDiff, iteP] <;> rfl)) ?_
  refine SmG.v hF rfl rfl rfl (opV_assign rfl rfl) ?_
  refine SmG.nil ?_
  refine nextS_normal ?_
  refine Sm.seq ?_
  refine Sm.seq ?_
  refine Sm.regionG hF rfl ?_
  refine SmG.v hF rfl rfl rfl (opV_assign rfl rfl) ?_
  refine SmG.nil ?_
  refine nextS_normal ?_
  refine Sm.block ?_
  refine Sm.to (St.to_own 1 (t := 3) (sz := 1) rfl) ?_
  refine Sm.loop (ι := {k : Nat // k ≤ xs.length ∧ k ≤ 9}) (fun k => ⟨[(0, .d (.list 1 (xs.map rowE) false)), (3, .sref 0 0 (((elems xs).take k.1).map rowE).length), (4, .d (.v (.int .i64 k.1)))], [(0, dB 1 (((elems xs).take k.1).map rowE))], 1⟩) (fun k => 9 - k.1) (⟨0, by omega, by omega⟩) ?_ ?_
  · exact St.le_of (by simp [leE, look, constD]) (by simp [leH, look, rep]) (by first | exact Nat.le_refl _ | (dsimp only; omega))
  rintro ⟨k, hk, hk9⟩
  simp only
  have fin : k = xs.length ∨ k = 9 → (D.list 1 (List.map rowE (List.take k (elems xs))) false).le (D.list 1 (List.map rowE (elems xs)) false) := by
    intro h
    rw [List.take_of_length_le (by simp [elems]; omega)]
    exact D.le.refl _

  by_cases hlt : k < xs.length
  · by_cases hlt9 : k < 9
    · have hk' : xs[k]? = some xs[k] := by simp

      refine Sm.seq ?_
      refine Sm.seq ?_
      refine Sm.regionG hF rfl ?_
      refine SmG.v hF rfl rfl rfl (opV_move rfl rfl) ?_
      refine SmG.v hF rfl rfl rfl (opV_move rfl rfl) ?_
      refine SmG.v hF rfl rfl rfl (opV_len rfl rfl (by simp (disch := omega) only [go_sem, Nat.reduceEqDiff, iteP, hk', rowE, bytesL, Nat.min_le_left, take_min_map] <;> rfl)) ?_
      refine SmG.v hF rfl rfl rfl (opV_bin rfl rfl rfl (by first | exact rd_lssT _ _ _ _ _ (by omega) | exact rd_lssF _ _ _ _ _ (by omega) | exact rb_lss _ _ _ _ _ _ _)) ?_
      refine SmG.v hF rfl rfl rfl (opV_move rfl rfl) ?_
      first | refine SmG.v hF rfl rfl rfl (opV_move rfl rfl) ?_ | refine SmG.pass hF rfl rfl rfl ?_
      first | refine SmG.v hF rfl rfl rfl (opV_bin rfl rfl rfl (by first | exact rd_lssT _ _ _ _ _ (by omega) | exact rd_lssF _ _ _ _ _ (by omega) | exact rb_lss _ _ _ _ _ _ _)) ?_ | refine SmG.pass hF rfl rfl rfl ?_
      first | refine SmG.v hF rfl rfl rfl (opV_pickT rfl rfl rfl) ?_ | refine SmG.v hF rfl rfl rfl (opV_pickF rfl rfl rfl) ?_
      refine SmG.nil ?_
      refine nextS_normal ?_
      refine Sm.condT hF rfl ?_
      refine Sm.skip ?_
      refine nextS_normal ?_
      refine Sm.seq ?_
      refine Sm.block ?_
      refine Sm.drawG hF (by kernel_rfl) rfl 13 (by kernel_rfl) (by kernel_rfl) ?_
      simp only [List.take_succ_cons, List.take_zero, List.take_nil]
      refine Head.v hF rfl rfl rfl (opV_move rfl rfl) ?_
      refine Head.v hF rfl rfl rfl (opV_move rfl rfl) ?_
      refine Head.v hF rfl rfl rfl (opV_move rfl rfl) ?_
      refine Head.v hF rfl rfl rfl (opV_indexAddr rfl rfl rfl (by simp (disch := omega) only [go_sem, Nat.reduceEqDiff, iteP, hk', rowE, bytesL, Nat.min_le_left, take_min_map] <;> rfl)) ?_
      refine Head.v hF rfl rfl rfl (opV_load rfl rfl (by simp (disch := omega) only [go_sem, Nat.reduceEqDiff, iteP, hk', rowE, bytesL, Nat.min_le_left, take_min_map] <;> rfl)) ?_
      refine Head.v hF rfl rfl rfl (opV_move rfl rfl) ?_
      refine Head.v hF rfl rfl rfl (opV_move rfl rfl) ?_
      refine Head.v hF rfl rfl rfl (opV_indexAddr rfl rfl rfl (by simp (disch := omega) only [go_sem, Nat.reduceEqDiff, iteP, hk', rowE, bytesL, Nat.min_le_left, take_min_map] <;> rfl)) ?_
      refine Head.v hF rfl rfl rfl (opV_load rfl rfl (by simp (disch := omega) only [go_sem, Nat.reduceEqDiff, iteP, hk', rowE, bytesL, Nat.min_le_left, take_min_map] <;> rfl)) ?_
      refine Head.v hF rfl rfl rfl (opV_len rfl rfl (by simp (disch := omega) only [go_sem, Nat.reduceEqDiff, iteP, hk', rowE, bytesL, Nat.min_le_left, take_min_map] <;> rfl)) ?_
      refine Head.v hF rfl rfl rfl (opV_min rfl rfl rfl (by first | exact rd_minL _ (by omega) | exact rd_minR _ (by omega) | exact rd_minN _ _ _)) ?_
      refine Head.v hF rfl rfl rfl (opV_slice rfl rfl rfl rfl rfl (by simp (disch := omega) only [go_sem, Nat.reduceEqDiff, iteP, hk', rowE, bytesL, Nat.min_le_left, take_min_map] <;> rfl)) ?_
      refine Head.v hF rfl rfl rfl (opV_buildSlice rfl rfl (by simp (disch := omega) only [go_sem, Nat.reduceEqDiff, iteP, hk', rowE, bytesL, Nat.min_le_left, take_min_map] <;> rfl)) ?_
      refine Head.last ⟨rfl, ?_⟩
      simp only [List.drop_succ_cons, List.drop_zero, List.drop_nil, List.nil_append, List.cons_append]
      -- stands at 29 of region 5: {"dst": 29, "op": "call", "a": [{"callee": ["builtin", "Callee.builtin Builtin.append"], "args": [["tmp", 16], ["tmp", 28]], "types": [23, 23]}], "ty"
      refine SmG.appendOwn hF elBB rfl rfl rfl rfl rfl rfl rfl (by first | rfl | (simp; done) | (simp; omega)) (Or.inl rfl) (by (repeat' first | exact freeH_nil _ | refine freeH_same ?_ | refine freeH_cons ?_ (free_dB _ _ _) | refine freeH_cons ?_ (free_dB _ _ [_]) | refine freeH_cons ?_ (free_row (by rfl)))) ?_ ?_ ?_; rotate_left; rotate_left; simp only [killV, Pk.v, V.free, rep, bne_self_eq_false, Nat.reduceAdd, Nat.reduceBNe, Nat.reduceBEq, Nat.reduceEqDiff, reduceIte, Bool.false_eq_true]
      · refine SmG.v hF rfl rfl rfl (opV_assign rfl rfl) ?_
        refine SmG.nil ?_
        refine blockS_normal ?_
        refine nextS_normal ?_
        refine Sm.regionG hF rfl ?_
        refine SmG.v hF rfl rfl rfl (opV_move rfl rfl) ?_
        refine SmG.v hF rfl rfl rfl (opV_bin rfl rfl rfl (by first | exact rd_add _ _ _ _ _ (wrapI64 _ (by omega)) | exact rb_add _ _ _ _ _ _ _)) ?_
        refine SmG.v hF rfl rfl rfl (opV_assign rfl rfl) ?_
        refine SmG.nil ?_
        refine nextS_normal ?_
        have hrow : ((elems xs).take (k + 1)).map rowE = ((elems xs).take k).map rowE ++ [[.list 1 (List.map rowB (List.take 40 xs[k])) false]] := by
          have h9 : (elems xs)[k]? = some (xs[k].take 40) := by simp [elems, hlt, hlt9]
          rw [List.take_add_one, h9]
          simp [rowE, bytesL]
        exact ⟨⟨k + 1, by omega, by omega⟩, by show 9 - (k + 1) < 9 - k; omega, by exact St.le_of (by simp [leE, look, constD, hrow]) (by simp [leH, look, rep, hrow]) (by first | exact Nat.le_refl _ | (dsimp only; omega))⟩
      · simp; omega
      · simp; omega

    · refine Sm.seq ?_
      refine Sm.seq ?_
      refine Sm.regionG hF rfl ?_
      refine SmG.v hF rfl rfl rfl (opV_move rfl rfl) ?_
      refine SmG.v hF rfl rfl rfl (opV_move rfl rfl) ?_
      refine SmG.v hF rfl rfl rfl (opV_len rfl rfl (by simp (disch := omega) only [go_sem, Nat.reduceEqDiff, iteP] <;> rfl)) ?_
      refine SmG.v hF rfl rfl rfl (opV_bin rfl rfl rfl (by first | exact rd_lssT _ _ _ _ _ (by omega) | exact rd_lssF _ _ _ _ _ (by omega) | exact rb_lss _ _ _ _ _ _ _)) ?_
      refine SmG.v hF rfl rfl rfl (opV_move rfl rfl) ?_
      first | refine SmG.v hF rfl rfl rfl (opV_move rfl rfl) ?_ | refine SmG.pass hF rfl rfl rfl ?_
      first | refine SmG.v hF rfl rfl rfl (opV_bin rfl rfl rfl (by first | exact rd_lssT _ _ _ _ _ (by omega) | exact rd_lssF _ _ _ _ _ (by omega) | exact rb_lss _ _ _ _ _ _ _)) ?_ | refine SmG.pass hF rfl rfl rfl ?_
      first | refine SmG.v hF rfl rfl rfl (opV_pickT rfl rfl rfl) ?_ | refine SmG.v hF rfl rfl rfl (opV_pickF rfl rfl rfl) ?_
      refine SmG.nil ?_
      refine nextS_normal ?_
      refine Sm.condF hF rfl ?_
      refine Sm.exit ?_; simp only [nextS, blockS, reduceIte, reduceCtorEq]
      refine Sm.to (St.to_freeze (l := 0) (((elems xs).take k).map rowE) rfl rfl) ?_
      simp only [Pk.v, frzE, frzV, dropH, reduceIte, Nat.reduceAdd, Nat.zero_add, List.length_map, List.length_append, Nat.le_refl, true_and, and_self, if_true, Nat.reduceEqDiff, true_and]

      refine Sm.seq ?_
      refine Sm.regionG hF rfl ?_
      refine SmG.v hF rfl rfl rfl (opV_move rfl rfl) ?_
      refine SmG.v hF rfl rfl rfl (opV_assign rfl rfl) ?_
      refine SmG.nil ?_
      refine nextS_normal ?_
      refine Sm.ret ?_
      refine ⟨_, rfl, ?_⟩; dsimp only
      exact fin (by omega)

  · refine Sm.seq ?_
    refine Sm.seq ?_
    refine Sm.regionG hF rfl ?_
    refine SmG.v hF rfl rfl rfl (opV_move rfl rfl) ?_
    refine SmG.v hF rfl rfl rfl (opV_move rfl rfl) ?_
    refine SmG.v hF rfl rfl rfl (opV_len rfl rfl (by simp (disch := omega) only [go_sem, Nat.reduceEqDiff, iteP] <;> rfl)) ?_
    refine SmG.v hF rfl rfl rfl (opV_bin rfl rfl rfl (by first | exact rd_lssT _ _ _ _ _ (by omega) | exact rd_lssF _ _ _ _ _ (by omega) | exact rb_lss _ _ _ _ _ _ _)) ?_
    refine SmG.v hF rfl rfl rfl (opV_move rfl rfl) ?_
    first | refine SmG.v hF rfl rfl rfl (opV_move rfl rfl) ?_ | refine SmG.pass hF rfl rfl rfl ?_
    first | refine SmG.v hF rfl rfl rfl (opV_bin rfl rfl rfl (by first | exact rd_lssT _ _ _ _ _ (by omega) | exact rd_lssF _ _ _ _ _ (by omega) | exact rb_lss _ _ _ _ _ _ _)) ?_ | refine SmG.pass hF rfl rfl rfl ?_
    first | refine SmG.v hF rfl rfl rfl (opV_pickT rfl rfl rfl) ?_ | refine SmG.v hF rfl rfl rfl (opV_pickF rfl rfl rfl) ?_
    refine SmG.nil ?_
    refine nextS_normal ?_
    refine Sm.condF hF rfl ?_
    refine Sm.exit ?_; simp only [nextS, blockS, reduceIte, reduceCtorEq]
    refine Sm.to (St.to_freeze (l := 0) (((elems xs).take k).map rowE) rfl rfl) ?_
    simp only [Pk.v, frzE, frzV, dropH, reduceIte, Nat.reduceAdd, Nat.zero_add, List.length_map, List.length_append, Nat.le_refl, true_and, and_self, if_true, Nat.reduceEqDiff, true_and]
    refine Sm.seq ?_
    refine Sm.regionG hF rfl ?_
    refine SmG.v hF rfl rfl rfl (opV_move rfl rfl) ?_
    refine SmG.v hF rfl rfl rfl (opV_assign rfl rfl) ?_
    refine SmG.nil ?_
    refine nextS_normal ?_
    refine Sm.ret ?_
    refine ⟨_, rfl, ?_⟩; dsimp only
    exact fin (by omega)
end Go.Proofs.YtmindblfbijaaaaDoor
namespace Go.Proofs.YtmindblfbijaaaaDoor
open Go.RowKit
theorem eqCells_bytes : ∀ (s t : List UInt8), s.length = t.length → eqCells (List.replicate s.length (.int .u8)) (rowS s) (rowS t) = some (decide (s = t)) := by
  intro s
  induction s with
  | nil => intro t h; cases t with
    | nil => rfl
    | cons => simp at h
  | cons a s ih =>
    intro t h
    cases t with
    | nil => simp at h
    | cons b t =>
      simp only [List.length_cons, Nat.add_right_cancel_iff] at h
      have hab : ((a.toNat : Int) == (b.toNat : Int)) = decide (a = b) := by
        rw [Bool.eq_iff_iff, beq_iff_eq, decide_eq_true_eq]
        constructor
        · intro e; exact UInt8.toNat_inj.1 (by omega)
        · intro e; rw [e]
      have ih' := ih t h
      simp only [rowS, List.map_cons, List.length_cons, List.replicate_succ, byteD, eqCells, sameV, if_true, Option.bind_some] at ih' ⊢
      rw [ih', Option.map_some, hab, ← Bool.decide_and]
      congr 1
      simp only [List.cons.injEq]
theorem eq_sum {s t : List UInt8} (h1 : s.length = 32) (h2 : t.length = 32) : eqAgg Tryd.prog 28 (.d (.agg 32 (rowS s))) (.d (.agg 32 (rowS t))) = some (decide (s = t)) := by
  have hg : Tryd.prog.eqGuardType Tryd.prog.depth 28 = false := by kernel_rfl
  have hk : kindsT Tryd.prog 28 = some (List.replicate 32 (.int .u8)) := by kernel_rfl
  have := eqCells_bytes s t (by rw [h1, h2])
  rw [h1] at this
  simp only [eqAgg, hg, if_true, hk, Option.bind_some, this]
theorem sumD_length {s : List UInt8} (h : s.length = 32) : (rowS s).length = 32 := by simp [rowS, h]
def Len32' (p : List (List UInt8)) : Prop := ∀ s ∈ p, s.length = 32
set_option maxRecDepth 100000

theorem same_D (p q : List (List UInt8)) (hp : Len32' p) (hq : Len32' q) (h1 : p.length ≤ 9223372036854775807) (h2 : q.length ≤ 9223372036854775807) : CallsD Tryd.prog HG 22 [sumsL p, sumsL q] (.v (.bool (decide (p = q)))) := by
  simp only [sumsL]
  by_cases hl : p.length = q.length

  · refine CallsD.of Tryd.func22 rfl Tryd.ntmps22 (by simp) ?_; intro F hF; simp only [List.zipIdx_cons, List.zipIdx_nil, List.map_cons, List.map_nil, Nat.zero_add, Nat.reduceAdd]
    refine Sm.seq ?_
    refine Sm.regionG hF rfl ?_
    refine SmG.v hF rfl rfl rfl (opV_assign rfl rfl) ?_
    refine SmG.nil ?_
    refine nextS_normal ?_
    refine Sm.seq ?_
    refine Sm.seq ?_
    refine Sm.regionG hF rfl ?_
    refine SmG.v hF rfl rfl rfl (opV_move rfl rfl) ?_
    refine SmG.v hF rfl rfl rfl (opV_len rfl rfl (by simp (disch := omega) only [go_sem, Nat.reduceEqDiff, iteP] <;> rfl)) ?_
    refine SmG.v hF rfl rfl rfl (opV_move rfl rfl) ?_
    refine SmG.v hF rfl rfl rfl (opV_len rfl rfl (by simp (disch := omega) only [go_sem, Nat.reduceEqDiff, iteP] <;> rfl)) ?_
    refine SmG.v hF rfl rfl rfl (opV_bin rfl rfl rfl (by first | exact rd_neqT _ _ _ _ _ (by omega) | exact rd_neqF _ _ _ _ _ (by omega) | exact rb_neq _ _ _ _ _ _ _)) ?_
    refine SmG.nil ?_
    refine nextS_normal ?_
    refine Sm.condF hF rfl ?_
    refine Sm.skip ?_
    refine nextS_normal ?_
    refine Sm.seq ?_
    refine Sm.seq ?_
    refine Sm.regionG hF rfl ?_
    refine SmG.v hF rfl rfl rfl (opV_assign rfl rfl) ?_
    refine SmG.nil ?_
    refine nextS_normal ?_
    refine Sm.block ?_
    refine Sm.loop (ι := {k : Nat // k ≤ p.length ∧ p.take k = q.take k}) (fun k => ⟨[(0, .d (.list 32 (p.map rowS) false)), (1, .d (.list 32 (q.map rowS) false)), (5, .d (.v (.int .i64 k.1)))], [], 0⟩) (fun k => p.length - k.1) (⟨0, by omega, rfl⟩) ?_ ?_
    · exact St.le_of (by simp [leE, look, constD]) (by simp [leH, look, rep]) (by first | exact Nat.le_refl _ | (dsimp only; omega))
    rintro ⟨k, hk, he⟩
    simp only

    by_cases hlt : k < p.length
    · have hpk : p[k]? = some p[k] := by simp
      have hqk : q[k]? = some (q[k]'(by omega)) := by simp
      have ha := eq_sum (hp _ (List.getElem_mem hlt)) (hq _ (List.getElem_mem (show k < q.length by omega)))
      by_cases hab : p[k] = q[k]'(by omega)
      · have hd := decide_eq_true hab

        refine Sm.seq ?_
        refine Sm.seq ?_
        refine Sm.regionG hF rfl ?_
        refine SmG.v hF rfl rfl rfl (opV_move rfl rfl) ?_
        refine SmG.v hF rfl rfl rfl (opV_move rfl rfl) ?_
        refine SmG.v hF rfl rfl rfl (opV_len rfl rfl (by simp (disch := omega) only [go_sem, Nat.reduceEqDiff, iteP, hpk, hqk, ha, hd] <;> rfl)) ?_
        refine SmG.v hF rfl rfl rfl (opV_bin rfl rfl rfl (by first | exact rd_lssT _ _ _ _ _ (by omega) | exact rd_lssF _ _ _ _ _ (by omega) | exact rb_lss _ _ _ _ _ _ _)) ?_
        refine SmG.nil ?_
        refine nextS_normal ?_
        refine Sm.condT hF rfl ?_
        refine Sm.skip ?_
        refine nextS_normal ?_
        refine Sm.seq ?_
        refine Sm.block ?_
        refine Sm.seq ?_
        refine Sm.drawG hF (by kernel_rfl) rfl 9 (by kernel_rfl) (by kernel_rfl) ?_
        simp only [List.take_succ_cons, List.take_zero, List.take_nil]
        refine Head.v hF rfl rfl rfl (opV_move rfl rfl) ?_
        refine Head.v hF rfl rfl rfl (opV_move rfl rfl) ?_
        refine Head.v hF rfl rfl rfl (opV_indexAddr rfl rfl rfl (by simp (disch := omega) only [go_sem, Nat.reduceEqDiff, iteP, hpk, hqk, ha, hd] <;> rfl)) ?_
        refine Head.v hF rfl rfl rfl (opV_load rfl rfl (by simp (disch := omega) only [go_sem, Nat.reduceEqDiff, iteP, hpk, hqk, ha, hd] <;> rfl)) ?_
        refine Head.v hF rfl rfl rfl (opV_move rfl rfl) ?_
        refine Head.v hF rfl rfl rfl (opV_move rfl rfl) ?_
        refine Head.v hF rfl rfl rfl (opV_indexAddr rfl rfl rfl (by simp (disch := omega) only [go_sem, Nat.reduceEqDiff, iteP, hpk, hqk, ha, hd] <;> rfl)) ?_
        refine Head.v hF rfl rfl rfl (opV_load rfl rfl (by simp (disch := omega) only [go_sem, Nat.reduceEqDiff, iteP, hpk, hqk, ha, hd] <;> rfl)) ?_
        refine Head.v hF rfl rfl rfl (opV_neA rfl rfl rfl (by simp (disch := omega) only [go_sem, Nat.reduceEqDiff, iteP, hpk, hqk, ha, hd] <;> rfl)) ?_
        refine Head.last ⟨rfl, ?_⟩
        simp only [List.drop_succ_cons, List.drop_zero, List.drop_nil, List.nil_append, List.cons_append]
        refine SmG.nil ?_
        refine nextS_normal ?_
        refine Sm.condF hF rfl ?_
        refine Sm.skip ?_
        refine blockS_normal ?_
        refine nextS_normal ?_
        refine Sm.regionG hF rfl ?_
        refine SmG.v hF rfl rfl rfl (opV_move rfl rfl) ?_
        refine SmG.v hF rfl rfl rfl (opV_bin rfl rfl rfl (by first | exact rd_add _ _ _ _ _ (wrapI64 _ (by omega)) | exact rb_add _ _ _ _ _ _ _)) ?_
        refine SmG.v hF rfl rfl rfl (opV_assign rfl rfl) ?_
        refine SmG.nil ?_
        refine nextS_normal ?_
        exact ⟨⟨k + 1, by omega, by rw [List.take_succ_eq_append_getElem hlt, List.take_succ_eq_append_getElem (show k < q.length by omega), he, hab]⟩, by show p.length - (k + 1) < p.length - k; omega, by exact St.le_of (by simp [leE, look, constD]) (by simp [leH, look, rep]) (by first | exact Nat.le_refl _ | (dsimp only; omega))⟩
      · have hd := decide_eq_false hab

        refine Sm.seq ?_
        refine Sm.seq ?_
        refine Sm.regionG hF rfl ?_
        refine SmG.v hF rfl rfl rfl (opV_move rfl rfl) ?_
        refine SmG.v hF rfl rfl rfl (opV_move rfl rfl) ?_
        refine SmG.v hF rfl rfl rfl (opV_len rfl rfl (by simp (disch := omega) only [go_sem, Nat.reduceEqDiff, iteP, hpk, hqk, ha, hd] <;> rfl)) ?_
        refine SmG.v hF rfl rfl rfl (opV_bin rfl rfl rfl (by first | exact rd_lssT _ _ _ _ _ (by omega) | exact rd_lssF _ _ _ _ _ (by omega) | exact rb_lss _ _ _ _ _ _ _)) ?_
        refine SmG.nil ?_
        refine nextS_normal ?_
        refine Sm.condT hF rfl ?_
        refine Sm.skip ?_
        refine nextS_normal ?_
        refine Sm.seq ?_
        refine Sm.block ?_
        refine Sm.seq ?_
        refine Sm.drawG hF (by kernel_rfl) rfl 9 (by kernel_rfl) (by kernel_rfl) ?_
        simp only [List.take_succ_cons, List.take_zero, List.take_nil]
        refine Head.v hF rfl rfl rfl (opV_move rfl rfl) ?_
        refine Head.v hF rfl rfl rfl (opV_move rfl rfl) ?_
        refine Head.v hF rfl rfl rfl (opV_indexAddr rfl rfl rfl (by simp (disch := omega) only [go_sem, Nat.reduceEqDiff, iteP, hpk, hqk, ha, hd] <;> rfl)) ?_
        refine Head.v hF rfl rfl rfl (opV_load rfl rfl (by simp (disch := omega) only [go_sem, Nat.reduceEqDiff, iteP, hpk, hqk, ha, hd] <;> rfl)) ?_
        refine Head.v hF rfl rfl rfl (opV_move rfl rfl) ?_
        refine Head.v hF rfl rfl rfl (opV_move rfl rfl) ?_
        refine Head.v hF rfl rfl rfl (opV_indexAddr rfl rfl rfl (by simp (disch := omega) only [go_sem, Nat.reduceEqDiff, iteP, hpk, hqk, ha, hd] <;> rfl)) ?_
        refine Head.v hF rfl rfl rfl (opV_load rfl rfl (by simp (disch := omega) only [go_sem, Nat.reduceEqDiff, iteP, hpk, hqk, ha, hd] <;> rfl)) ?_
        refine Head.v hF rfl rfl rfl (opV_neA rfl rfl rfl (by simp (disch := omega) only [go_sem, Nat.reduceEqDiff, iteP, hpk, hqk, ha, hd] <;> rfl)) ?_
        refine Head.last ⟨rfl, ?_⟩
        simp only [List.drop_succ_cons, List.drop_zero, List.drop_nil, List.nil_append, List.cons_append]
        refine SmG.nil ?_
        refine nextS_normal ?_
        refine Sm.condT hF rfl ?_
        refine Sm.seq ?_
        refine Sm.regionG hF rfl ?_
        refine SmG.v hF rfl rfl rfl (opV_assign rfl rfl) ?_
        refine SmG.nil ?_
        refine nextS_normal ?_
        refine Sm.ret ?_
        simp only [nextS, blockS]
        refine ⟨_, rfl, ?_⟩; dsimp only
        have : decide (p = q) = false := by
          simp only [decide_eq_false_iff_not]
          intro e; subst e; exact hab rfl
        rw [this]; exact D.le.refl _

    · refine Sm.seq ?_
      refine Sm.seq ?_
      refine Sm.regionG hF rfl ?_
      refine SmG.v hF rfl rfl rfl (opV_move rfl rfl) ?_
      refine SmG.v hF rfl rfl rfl (opV_move rfl rfl) ?_
      refine SmG.v hF rfl rfl rfl (opV_len rfl rfl (by simp (disch := omega) only [go_sem, Nat.reduceEqDiff, iteP] <;> rfl)) ?_
      refine SmG.v hF rfl rfl rfl (opV_bin rfl rfl rfl (by first | exact rd_lssT _ _ _ _ _ (by omega) | exact rd_lssF _ _ _ _ _ (by omega) | exact rb_lss _ _ _ _ _ _ _)) ?_
      refine SmG.nil ?_
      refine nextS_normal ?_
      refine Sm.condF hF rfl ?_
      refine Sm.exit ?_
      simp only [nextS, blockS, reduceIte, reduceCtorEq]
      refine Sm.seq ?_
      refine Sm.regionG hF rfl ?_
      refine SmG.v hF rfl rfl rfl (opV_assign rfl rfl) ?_
      refine SmG.nil ?_
      refine nextS_normal ?_
      refine Sm.ret ?_
      refine ⟨_, rfl, ?_⟩; dsimp only
      have : decide (p = q) = true := by
        simp only [decide_eq_true_eq]
        rw [List.take_of_length_le (by omega), List.take_of_length_le (by omega)] at he
        exact he
      rw [this]; exact D.le.refl _

  · refine CallsD.of Tryd.func22 rfl Tryd.ntmps22 (by simp) ?_; intro F hF; simp only [List.zipIdx_cons, List.zipIdx_nil, List.map_cons, List.map_nil, Nat.zero_add, Nat.reduceAdd]
    refine Sm.seq ?_
    refine Sm.regionG hF rfl ?_
    refine SmG.v hF rfl rfl rfl (opV_assign rfl rfl) ?_
    refine SmG.nil ?_
    refine nextS_normal ?_
    refine Sm.seq ?_
    refine Sm.seq ?_
    refine Sm.regionG hF rfl ?_
    refine SmG.v hF rfl rfl rfl (opV_move rfl rfl) ?_
    refine SmG.v hF rfl rfl rfl (opV_len rfl rfl (by simp (disch := omega) only [go_sem, Nat.reduceEqDiff, iteP] <;> rfl)) ?_
    refine SmG.v hF rfl rfl rfl (opV_move rfl rfl) ?_
    refine SmG.v hF rfl rfl rfl (opV_len rfl rfl (by simp (disch := omega) only [go_sem, Nat.reduceEqDiff, iteP] <;> rfl)) ?_
    refine SmG.v hF rfl rfl rfl (opV_bin rfl rfl rfl (by first | exact rd_neqT _ _ _ _ _ (by omega) | exact rd_neqF _ _ _ _ _ (by omega) | exact rb_neq _ _ _ _ _ _ _)) ?_
    refine SmG.nil ?_
    refine nextS_normal ?_
    refine Sm.condT hF rfl ?_
    refine Sm.seq ?_
    refine Sm.regionG hF rfl ?_
    refine SmG.v hF rfl rfl rfl (opV_assign rfl rfl) ?_
    refine SmG.nil ?_
    refine nextS_normal ?_
    refine Sm.ret ?_
    simp only [nextS, blockS]
    refine ⟨_, rfl, ?_⟩; dsimp only
    have : decide (p = q) = false := by simp; intro h; exact hl (by rw [h])
    rw [this]; exact D.le.refl _

theorem cut_of (n k : Nat) (h : 2 ^ k < n) (h' : n ≤ 2 * 2 ^ k) : 2 ^ k = Sha.cut n := (Sha.cut_eq (by have := Nat.pow_pos (n := k) (show 0 < 2 by omega); omega) h h').symm
theorem cut_D (n : Nat) (h1 : 2 ≤ n) (h2 : n ≤ 4611686018427387904) (G : Nat → Option D) : CallsD Tryd.prog G 27 [.v (.int .i64 n)] (.v (.int .i64 (Sha.cut n : Nat))) := by
  refine CallsD.of Tryd.func27 rfl Tryd.ntmps27 (by simp) ?_; intro F hF; simp only [List.zipIdx_cons, List.zipIdx_nil, List.map_cons, List.map_nil, Nat.zero_add, Nat.reduceAdd]
  refine Sm.seq ?_
  refine Sm.regionG hF rfl ?_
  refine SmG.v hF rfl rfl rfl (opV_assign rfl rfl) ?_
  refine SmG.nil ?_
  refine nextS_normal ?_
  refine Sm.seq ?_
  refine Sm.regionG hF rfl ?_
  refine SmG.v hF rfl rfl rfl (opV_assign rfl rfl) ?_
  refine SmG.nil ?_
  refine nextS_normal ?_
  refine Sm.seq ?_
  refine Sm.block ?_
  refine Sm.loop (ι := {k : Nat // 2 ^ k < n}) (fun k => ⟨[(0, .d (.v (.int .i64 n))), (3, .d (.v (.int .i64 (2 ^ k.1 : Nat))))], [], 0⟩) (fun k => n - 2 ^ k.1) (⟨0, by simp; omega⟩) ?_ ?_
  · exact St.le_of (by simp [leE, look, constD]) (by simp [leH, look, rep]) (by first | exact Nat.le_refl _ | (dsimp only; omega))
  rintro ⟨k, hk⟩
  have hpos : 0 < 2 ^ k := Nat.pow_pos (by omega)
  have hs : 2 ^ (k + 1) = 2 * 2 ^ k := by rw [Nat.pow_succ]; omega
  have hc := cut_of n k hk
  generalize hm : 2 ^ k = m at hs hc hpos ⊢
  simp only [hm] at hk ⊢
  clear hm

  by_cases hlt : 2 * m < n
  · refine Sm.seq ?_
    refine Sm.seq ?_
    refine Sm.regionG hF rfl ?_
    refine SmG.v hF rfl rfl rfl (opV_move rfl rfl) ?_
    refine SmG.v hF rfl rfl rfl (opV_bin rfl rfl rfl (by first | exact rd_mul _ _ _ _ _ (wrapI64 _ (by omega)) | exact rb_mul _ _ _ _ _ _ _)) ?_
    refine SmG.v hF rfl rfl rfl (opV_move rfl rfl) ?_
    refine SmG.v hF rfl rfl rfl (opV_bin rfl rfl rfl (by first | exact rd_lssT _ _ _ _ _ (by omega) | exact rd_lssF _ _ _ _ _ (by omega) | exact rb_lss _ _ _ _ _ _ _)) ?_
    refine SmG.nil ?_
    refine nextS_normal ?_
    refine Sm.condT hF rfl ?_
    refine Sm.skip ?_
    refine nextS_normal ?_
    refine Sm.block ?_
    refine Sm.regionG hF rfl ?_
    refine SmG.v hF rfl rfl rfl (opV_move rfl rfl) ?_
    refine SmG.v hF rfl rfl rfl (opV_bin rfl rfl rfl (by first | exact rd_mul _ _ _ _ _ (wrapI64 _ (by omega)) | exact rb_mul _ _ _ _ _ _ _)) ?_
    refine SmG.v hF rfl rfl rfl (opV_assign rfl rfl) ?_
    refine SmG.nil ?_
    refine blockS_normal ?_
    refine nextS_normal ?_
    refine ⟨⟨k + 1, by omega⟩, by show n - 2 ^ (k + 1) < n - m; omega, ?_⟩
    exact St.le_of (by simp [leE, look, constD, hs]) (by simp [leH, look, rep, hs]) (by first | exact Nat.le_refl _ | (dsimp only; omega))

  · refine Sm.seq ?_
    refine Sm.seq ?_
    refine Sm.regionG hF rfl ?_
    refine SmG.v hF rfl rfl rfl (opV_move rfl rfl) ?_
    refine SmG.v hF rfl rfl rfl (opV_bin rfl rfl rfl (by first | exact rd_mul _ _ _ _ _ (wrapI64 _ (by omega)) | exact rb_mul _ _ _ _ _ _ _)) ?_
    refine SmG.v hF rfl rfl rfl (opV_move rfl rfl) ?_
    refine SmG.v hF rfl rfl rfl (opV_bin rfl rfl rfl (by first | exact rd_lssT _ _ _ _ _ (by omega) | exact rd_lssF _ _ _ _ _ (by omega) | exact rb_lss _ _ _ _ _ _ _)) ?_
    refine SmG.nil ?_
    refine nextS_normal ?_
    refine Sm.condF hF rfl ?_
    refine Sm.exit ?_
    simp only [nextS, blockS, reduceIte, reduceCtorEq]
    refine Sm.seq ?_
    refine Sm.regionG hF rfl ?_
    refine SmG.v hF rfl rfl rfl (opV_move rfl rfl) ?_
    refine SmG.v hF rfl rfl rfl (opV_assign rfl rfl) ?_
    refine SmG.nil ?_
    refine nextS_normal ?_
    refine Sm.ret ?_
    refine ⟨_, rfl, ?_⟩; dsimp only
    rw [← hc (by omega)]
    exact D.le.refl _
end Go.Proofs.YtmindblfbijaaaaDoor
namespace Go.Proofs.YtmindblfbijaaaaDoor
namespace Sha
theorem cut_even {n : Nat} (h : 3 ≤ n) : cut n % 2 = 0 ∧ 2 ≤ cut n := by
  have hl : 1 ≤ Nat.log2 (n - 1) := by
    have := (Nat.le_log2 (n := n - 1) (k := 1) (by omega)).2 (by omega)
    exact this
  unfold cut
  obtain ⟨k, hk⟩ : ∃ k, Nat.log2 (n - 1) = k + 1 := ⟨Nat.log2 (n - 1) - 1, by omega⟩
  rw [hk, Nat.pow_succ]
  have := Nat.pow_pos (n := k) (show 0 < 2 by omega)
  omega
theorem cut_two : cut 2 = 1 := by decide
theorem neighbours : ∀ (k : Nat) (l : List (List UInt8)) (i : Nat), l.length = k → i % 2 = 0 → i + 1 < l.length →
    ∃ P, path l i = P ++ [leaf (l.getD (i + 1) [])] ∧ path l (i + 1) = P ++ [leaf (l.getD i [])] := by
  intro k
  induction k using Nat.strongRecOn with
  | _ k ih =>
    intro l i hk he hi
    have h2 : 2 ≤ l.length := by omega
    rcases Nat.lt_or_ge l.length 3 with h3 | h3
    · match l, h2, h3 with
      | [a, b], _, _ =>
        have : i = 0 := by simp at hi; omega
        subst this
        refine ⟨[], ?_, ?_⟩
        · rw [path_low (by simp) (by simp [cut_two])]
          simp [cut_two, root_one, path_one]
        · rw [path_high (by simp) (by simp [cut_two])]
          simp [cut_two, root_one, path_one]
    · obtain ⟨ce, c2⟩ := cut_even h3
      have c1 := cut_lt h2
      rcases Nat.lt_or_ge i (cut l.length) with hlt | hge
      · have hlt' : i + 1 < cut l.length := by omega
        obtain ⟨P, h1, h2'⟩ := ih (l.take (cut l.length)).length (by rw [List.length_take]; omega) (l.take (cut l.length)) i rfl he (by rw [List.length_take]; omega)
        refine ⟨root (l.drop (cut l.length)) :: P, ?_, ?_⟩
        · rw [path_low h2 hlt, h1]
          simp [List.getD_eq_getElem?_getD, List.getElem?_take_of_lt hlt']
        · rw [path_low h2 hlt', h2']
          simp [List.getD_eq_getElem?_getD, List.getElem?_take_of_lt hlt]
      · obtain ⟨P, h1, h2'⟩ := ih (l.drop (cut l.length)).length (by rw [List.length_drop]; omega) (l.drop (cut l.length)) (i - cut l.length) rfl (by omega) (by rw [List.length_drop]; omega)
        refine ⟨root (l.take (cut l.length)) :: P, ?_, ?_⟩
        · rw [path_high h2 hge, h1]
          simp [List.getD_eq_getElem?_getD, List.getElem?_drop, show cut l.length + (i - cut l.length + 1) = i + 1 by omega]
        · rw [path_high h2 (by omega), show i + 1 - cut l.length = i - cut l.length + 1 by omega, h2']
          simp [List.getD_eq_getElem?_getD, List.getElem?_drop, show cut l.length + (i - cut l.length) = i by omega]
theorem neighbours_proof (l : List (List UInt8)) (i : Nat) (he : i % 2 = 0) (hi : i + 1 < l.length) :
    ∃ P, proof l i = leaf (l.getD (i + 1) []) :: P ∧ proof l (i + 1) = leaf (l.getD i []) :: P := by
  obtain ⟨P, h1, h2⟩ := neighbours _ l i rfl he hi
  exact ⟨P.reverse, by unfold proof; rw [h1]; simp, by unfold proof; rw [h2]; simp⟩
end Sha
end Go.Proofs.YtmindblfbijaaaaDoor
namespace Go.Proofs.YtmindblfbijaaaaDoor
open Go.RowKit
set_option maxRecDepth 100000
theorem fit_elems (xs : List (List UInt8)) : Fit (elems xs) ∧ (elems xs).length ≤ 9 := by
  have hl : (elems xs).length ≤ 9 := by simp [elems]; omega
  refine ⟨⟨by omega, fun l h => ?_⟩, hl⟩
  simp only [elems, List.mem_map] at h
  obtain ⟨y, _, rfl⟩ := h
  rw [List.length_take]; omega
theorem path_le : ∀ (k : Nat) (l : List (List UInt8)) (i : Nat), l.length = k → (Sha.path l i).length ≤ l.length := by
  intro k
  induction k using Nat.strongRecOn with
  | _ k ih =>
    intro l i hk
    rcases Nat.lt_or_ge l.length 2 with h | h
    · rw [Sha.path_one _ h]; simp
    · have c1 := Sha.cut_lt h
      have c2 := Sha.cut_pos l.length
      rcases Nat.lt_or_ge i (Sha.cut l.length) with hi | hi
      · rw [Sha.path_low h hi]
        have := ih (l.take (Sha.cut l.length)).length (by rw [List.length_take]; omega) (l.take (Sha.cut l.length)) i rfl
        rw [List.length_take] at this
        simp only [List.length_cons]; omega
      · rw [Sha.path_high h hi]
        have := ih (l.drop (Sha.cut l.length)).length (by rw [List.length_drop]; omega) (l.drop (Sha.cut l.length)) (i - Sha.cut l.length) rfl
        rw [List.length_drop] at this
        simp only [List.length_cons]; omega
theorem proof_le (l : List (List UInt8)) (i : Nat) : (Sha.proof l i).length ≤ l.length := by
  unfold Sha.proof; rw [List.length_reverse]; exact path_le _ l i rfl
theorem proof_len32' (ls : List (List UInt8)) (i : Nat) : Len32' (Sha.proof ls i) := fun s hs => proof_len32 ls i s hs

theorem neigh_D (xs : List (List UInt8)) (hx : xs.length ≤ 9223372036854775807) : CallsD Tryd.prog HG 8 [elemsL xs] (.v (.bool true)) := by
  refine CallsD.of Tryd.func8 rfl Tryd.ntmps8 (by simp) ?_; intro F hF; simp only [List.zipIdx_cons, List.zipIdx_nil, List.map_cons, List.map_nil, Nat.zero_add, Nat.reduceAdd]
  refine Sm.seq ?_
  refine Sm.regionG hF rfl ?_
  refine SmG.v hF rfl rfl rfl (opV_assign rfl rfl) ?_
  refine SmG.nil ?_
  refine nextS_normal ?_
  refine Sm.seq ?_
  refine Sm.regionG hF rfl ?_
  refine SmG.call hF rfl rfl (by kernel_rfl) rfl rfl rfl (sanity_D) ?_
  refine SmG.v hF rfl rfl rfl (opV_assign rfl rfl) ?_
  refine SmG.nil ?_
  refine nextS_normal ?_
  refine Sm.seq ?_
  refine Sm.regionG hF rfl ?_
  refine SmG.v hF rfl rfl rfl (opV_move rfl rfl) ?_
  refine SmG.call hF rfl rfl (by kernel_rfl) rfl rfl rfl (elements_D xs hx) ?_
  refine SmG.v hF rfl rfl rfl (opV_assign rfl rfl) ?_
  refine SmG.nil ?_
  refine nextS_normal ?_
  refine Sm.seq ?_
  refine Sm.seq ?_
  refine Sm.regionG hF rfl ?_
  refine SmG.v hF rfl rfl rfl (opV_assign rfl rfl) ?_
  refine SmG.nil ?_
  refine nextS_normal ?_
  refine Sm.block ?_
  obtain ⟨hF', hl⟩ := fit_elems xs
  generalize elems xs = l at hF' hl ⊢
  refine Sm.loop (ι := {k : Nat // k ≤ l.length + 1 ∧ k % 2 = 0}) (fun k => ⟨[(3, .d (.v (.bool true))), (4, .d (elemsL l)), (5, .d (.v (.int .i64 k.1)))], [], 0⟩) (fun k => l.length + 1 - k.1) (⟨0, by omega, rfl⟩) ?_ ?_
  · exact St.le_of (by simp [leE, look, constD]) (by simp [leH, look, rep]) (by first | exact Nat.le_refl _ | (dsimp only; omega))
  rintro ⟨k, hk, he⟩
  simp only
  by_cases hlt : k + 1 < l.length
  · obtain ⟨P, e1, e2⟩ := Sha.neighbours_proof l k he hlt
    have hk1 : l[k]? = some (l[k]'(by omega)) := by simp
    have hk2 : l[k + 1]? = some l[k + 1] := by simp
    have g1 : l.getD k [] = l[k]'(by omega) := by simp [List.getD, hk1]
    have g2 : l.getD (k + 1) [] = l[k + 1] := by simp [List.getD, hk2]
    rw [g2] at e1
    rw [g1] at e2
    have hP : Len32' P := fun s hs => proof_len32' l k s (by rw [e1]; simp [hs])
    have c1 := proof_D l k hF' (by omega)
    have c2 := proof_D l (k + 1) hF' hlt
    rw [e1] at c1
    rw [e2] at c2
    have hPl : P.length ≤ 9223372036854775806 := by
      have := proof_le l k
      rw [e1] at this; simp at this; omega
    have m1 := leaf_D l[k + 1] (hF'.2 _ (List.getElem_mem hlt))
    have m2 := leaf_D (l[k]'(by omega)) (hF'.2 _ (List.getElem_mem (by omega)))
    have m3 : CallsD Tryd.prog HG 22 [sumsL P, sumsL P] (.v (.bool true)) := by
      have := same_D P P hP hP (by omega) (by omega)
      simpa using this
    have q1 : eqAgg Tryd.prog 28 (.d (.agg 32 (rowS (Sha.leaf l[k + 1])))) (.d (.agg 32 (rowS (Sha.leaf l[k + 1])))) = some true := by
      rw [eq_sum (Sha.leaf_len _) (Sha.leaf_len _)]; simp
    have q2 : eqAgg Tryd.prog 28 (.d (.agg 32 (rowS (Sha.leaf (l[k]'(by omega)))))) (.d (.agg 32 (rowS (Sha.leaf (l[k]'(by omega)))))) = some true := by
      rw [eq_sum (Sha.leaf_len _) (Sha.leaf_len _)]; simp
    have hcast : ((k : Int) + 1).toNat = k + 1 := by omega

    refine Sm.seq ?_
    refine Sm.seq ?_
    refine Sm.regionG hF rfl ?_
    refine SmG.v hF rfl rfl rfl (opV_move rfl rfl) ?_
    refine SmG.v hF rfl rfl rfl (opV_bin rfl rfl rfl (by first | exact rd_add _ _ _ _ _ (wrapI64 _ (by omega)) | exact rb_add _ _ _ _ _ _ _)) ?_
    refine SmG.v hF rfl rfl rfl (opV_move rfl rfl) ?_
    refine SmG.v hF rfl rfl rfl (opV_len rfl rfl (by simp (disch := omega) only [go_sem, Nat.reduceEqDiff, iteP, hk1, hk2, sumsL, elemsL, bytesL, rowE, sumD, q1, q2, hcast, Nat.le_add_left, sumD_length, Sha.leaf_len] <;> rfl)) ?_
    refine SmG.v hF rfl rfl rfl (opV_bin rfl rfl rfl (by first | exact rd_lssT _ _ _ _ _ (by omega) | exact rd_lssF _ _ _ _ _ (by omega) | exact rb_lss _ _ _ _ _ _ _)) ?_
    refine SmG.nil ?_
    refine nextS_normal ?_
    refine Sm.condT hF rfl ?_
    refine Sm.skip ?_
    refine nextS_normal ?_
    refine Sm.seq ?_
    refine Sm.block ?_
    refine Sm.seq ?_
    refine Sm.regionG hF rfl ?_
    refine SmG.v hF rfl rfl rfl (opV_move rfl rfl) ?_
    refine SmG.v hF rfl rfl rfl (opV_move rfl rfl) ?_
    refine SmG.call hF rfl rfl (by kernel_rfl) rfl rfl rfl (c1) ?_
    refine SmG.v hF rfl rfl rfl (opV_move rfl rfl) ?_
    refine SmG.v hF rfl rfl rfl (by first | exact opV_extract rfl rfl rfl | exact opV_extract0 rfl rfl) ?_
    refine SmG.v hF rfl rfl rfl (by first | exact opV_extract rfl rfl rfl | exact opV_extractS rfl rfl rfl) ?_
    refine SmG.v hF rfl rfl rfl (opV_assign rfl rfl) ?_
    refine SmG.v hF rfl rfl rfl (opV_assign rfl rfl) ?_
    refine SmG.nil ?_
    refine nextS_normal ?_
    refine Sm.seq ?_
    refine Sm.regionG hF rfl ?_
    refine SmG.v hF rfl rfl rfl (opV_move rfl rfl) ?_
    refine SmG.v hF rfl rfl rfl (opV_move rfl rfl) ?_
    refine SmG.v hF rfl rfl rfl (opV_bin rfl rfl rfl (by first | exact rd_add _ _ _ _ _ (wrapI64 _ (by omega)) | exact rb_add _ _ _ _ _ _ _)) ?_
    refine SmG.call hF rfl rfl (by kernel_rfl) rfl rfl rfl (c2) ?_
    refine SmG.v hF rfl rfl rfl (opV_move rfl rfl) ?_
    refine SmG.v hF rfl rfl rfl (by first | exact opV_extract rfl rfl rfl | exact opV_extract0 rfl rfl) ?_
    refine SmG.v hF rfl rfl rfl (by first | exact opV_extract rfl rfl rfl | exact opV_extractS rfl rfl rfl) ?_
    refine SmG.v hF rfl rfl rfl (opV_assign rfl rfl) ?_
    refine SmG.v hF rfl rfl rfl (opV_assign rfl rfl) ?_
    refine SmG.nil ?_
    refine nextS_normal ?_
    refine Sm.seq ?_
    refine Sm.drawG hF (by kernel_rfl) rfl 49 (by kernel_rfl) (by kernel_rfl) ?_
    simp only [List.take_succ_cons, List.take_zero, List.take_nil]
    refine Head.v hF rfl rfl rfl (opV_move rfl rfl) ?_
    refine Head.v hF rfl rfl rfl (opV_bin rfl rfl rfl (by first | exact rd_neqT _ _ _ _ _ (by omega) | exact rd_neqF _ _ _ _ _ (by omega) | exact rb_neq _ _ _ _ _ _ _)) ?_
    refine Head.v hF rfl rfl rfl (opV_move rfl rfl) ?_
    first | refine Head.v hF rfl rfl rfl (opV_move rfl rfl) ?_ | refine Head.p hF rfl rfl rfl ?_
    first | refine Head.v hF rfl rfl rfl (opV_bin rfl rfl rfl (by first | exact rd_neqT _ _ _ _ _ (by omega) | exact rd_neqF _ _ _ _ _ (by omega) | exact rb_neq _ _ _ _ _ _ _)) ?_ | refine Head.p hF rfl rfl rfl ?_
    first | refine Head.v hF rfl rfl rfl (opV_pickT rfl rfl rfl) ?_ | refine Head.v hF rfl rfl rfl (opV_pickF rfl rfl rfl) ?_
    refine Head.v hF rfl rfl rfl (opV_move rfl rfl) ?_
    first | refine Head.v hF rfl rfl rfl (opV_move rfl rfl) ?_ | refine Head.p hF rfl rfl rfl ?_
    first | refine Head.v hF rfl rfl rfl (opV_len rfl rfl (by simp (disch := omega) only [go_sem, Nat.reduceEqDiff, iteP, hk1, hk2, sumsL, elemsL, bytesL, rowE, sumD, q1, q2, hcast, Nat.le_add_left, sumD_length, Sha.leaf_len] <;> rfl)) ?_ | refine Head.p hF rfl rfl rfl ?_
    first | refine Head.v hF rfl rfl rfl (opV_bin rfl rfl rfl (by first | exact rd_lssT _ _ _ _ _ (by omega) | exact rd_lssF _ _ _ _ _ (by omega) | exact rb_lss _ _ _ _ _ _ _)) ?_ | refine Head.p hF rfl rfl rfl ?_
    first | refine Head.v hF rfl rfl rfl (opV_pickT rfl rfl rfl) ?_ | refine Head.v hF rfl rfl rfl (opV_pickF rfl rfl rfl) ?_
    refine Head.v hF rfl rfl rfl (opV_move rfl rfl) ?_
    first | refine Head.v hF rfl rfl rfl (opV_move rfl rfl) ?_ | refine Head.p hF rfl rfl rfl ?_
    first | refine Head.v hF rfl rfl rfl (opV_len rfl rfl (by simp (disch := omega) only [go_sem, Nat.reduceEqDiff, iteP, hk1, hk2, sumsL, elemsL, bytesL, rowE, sumD, q1, q2, hcast, Nat.le_add_left, sumD_length, Sha.leaf_len] <;> rfl)) ?_ | refine Head.p hF rfl rfl rfl ?_
    first | refine Head.v hF rfl rfl rfl (opV_move rfl rfl) ?_ | refine Head.p hF rfl rfl rfl ?_
    first | refine Head.v hF rfl rfl rfl (opV_len rfl rfl (by simp (disch := omega) only [go_sem, Nat.reduceEqDiff, iteP, hk1, hk2, sumsL, elemsL, bytesL, rowE, sumD, q1, q2, hcast, Nat.le_add_left, sumD_length, Sha.leaf_len] <;> rfl)) ?_ | refine Head.p hF rfl rfl rfl ?_
    first | refine Head.v hF rfl rfl rfl (opV_bin rfl rfl rfl (by first | exact rd_neqT _ _ _ _ _ (by omega) | exact rd_neqF _ _ _ _ _ (by omega) | exact rb_neq _ _ _ _ _ _ _)) ?_ | refine Head.p hF rfl rfl rfl ?_
    first | refine Head.v hF rfl rfl rfl (opV_pickT rfl rfl rfl) ?_ | refine Head.v hF rfl rfl rfl (opV_pickF rfl rfl rfl) ?_
    refine Head.v hF rfl rfl rfl (opV_move rfl rfl) ?_
    first | refine Head.v hF rfl rfl rfl (opV_move rfl rfl) ?_ | refine Head.p hF rfl rfl rfl ?_
    first | refine Head.v hF rfl rfl rfl (opV_indexAddr rfl rfl rfl (by simp (disch := omega) only [go_sem, Nat.reduceEqDiff, iteP, hk1, hk2, sumsL, elemsL, bytesL, rowE, sumD, q1, q2, hcast, Nat.le_add_left, sumD_length, Sha.leaf_len] <;> rfl)) ?_ | refine Head.p hF rfl rfl rfl ?_
    first | refine Head.v hF rfl rfl rfl (opV_load rfl rfl (by simp (disch := omega) only [go_sem, Nat.reduceEqDiff, iteP, hk1, hk2, sumsL, elemsL, bytesL, rowE, sumD, q1, q2, hcast, Nat.le_add_left, sumD_length, Sha.leaf_len] <;> rfl)) ?_ | refine Head.p hF rfl rfl rfl ?_
    first | refine Head.v hF rfl rfl rfl (opV_move rfl rfl) ?_ | refine Head.p hF rfl rfl rfl ?_
    first | refine Head.v hF rfl rfl rfl (opV_move rfl rfl) ?_ | refine Head.p hF rfl rfl rfl ?_
    first | refine Head.v hF rfl rfl rfl (opV_bin rfl rfl rfl (by first | exact rd_add _ _ _ _ _ (wrapI64 _ (by omega)) | exact rb_add _ _ _ _ _ _ _)) ?_ | refine Head.p hF rfl rfl rfl ?_
    first | refine Head.v hF rfl rfl rfl (opV_indexAddr rfl rfl rfl (by simp (disch := omega) only [go_sem, Nat.reduceEqDiff, iteP, hk1, hk2, sumsL, elemsL, bytesL, rowE, sumD, q1, q2, hcast, Nat.le_add_left, sumD_length, Sha.leaf_len] <;> rfl)) ?_ | refine Head.p hF rfl rfl rfl ?_
    first | refine Head.v hF rfl rfl rfl (opV_load rfl rfl (by simp (disch := omega) only [go_sem, Nat.reduceEqDiff, iteP, hk1, hk2, sumsL, elemsL, bytesL, rowE, sumD, q1, q2, hcast, Nat.le_add_left, sumD_length, Sha.leaf_len] <;> rfl)) ?_ | refine Head.p hF rfl rfl rfl ?_
    first | refine Head.c hF rfl rfl (by kernel_rfl) rfl rfl rfl (m1) ?_ | refine Head.p hF rfl rfl rfl ?_
    first | refine Head.v hF rfl rfl rfl (opV_neA rfl rfl rfl (by simp (disch := omega) only [go_sem, Nat.reduceEqDiff, iteP, hk1, hk2, sumsL, elemsL, bytesL, rowE, sumD, q1, q2, hcast, Nat.le_add_left, sumD_length, Sha.leaf_len] <;> rfl)) ?_ | refine Head.p hF rfl rfl rfl ?_
    first | refine Head.v hF rfl rfl rfl (opV_pickT rfl rfl rfl) ?_ | refine Head.v hF rfl rfl rfl (opV_pickF rfl rfl rfl) ?_
    refine Head.v hF rfl rfl rfl (opV_move rfl rfl) ?_
    first | refine Head.v hF rfl rfl rfl (opV_move rfl rfl) ?_ | refine Head.p hF rfl rfl rfl ?_
    first | refine Head.v hF rfl rfl rfl (opV_indexAddr rfl rfl rfl (by simp (disch := omega) only [go_sem, Nat.reduceEqDiff, iteP, hk1, hk2, sumsL, elemsL, bytesL, rowE, sumD, q1, q2, hcast, Nat.le_add_left, sumD_length, Sha.leaf_len] <;> rfl)) ?_ | refine Head.p hF rfl rfl rfl ?_
    first | refine Head.v hF rfl rfl rfl (opV_load rfl rfl (by simp (disch := omega) only [go_sem, Nat.reduceEqDiff, iteP, hk1, hk2, sumsL, elemsL, bytesL, rowE, sumD, q1, q2, hcast, Nat.le_add_left, sumD_length, Sha.leaf_len] <;> rfl)) ?_ | refine Head.p hF rfl rfl rfl ?_
    first | refine Head.v hF rfl rfl rfl (opV_move rfl rfl) ?_ | refine Head.p hF rfl rfl rfl ?_
    first | refine Head.v hF rfl rfl rfl (opV_move rfl rfl) ?_ | refine Head.p hF rfl rfl rfl ?_
    first | refine Head.v hF rfl rfl rfl (opV_indexAddr rfl rfl rfl (by simp (disch := omega) only [go_sem, Nat.reduceEqDiff, iteP, hk1, hk2, sumsL, elemsL, bytesL, rowE, sumD, q1, q2, hcast, Nat.le_add_left, sumD_length, Sha.leaf_len] <;> rfl)) ?_ | refine Head.p hF rfl rfl rfl ?_
    first | refine Head.v hF rfl rfl rfl (opV_load rfl rfl (by simp (disch := omega) only [go_sem, Nat.reduceEqDiff, iteP, hk1, hk2, sumsL, elemsL, bytesL, rowE, sumD, q1, q2, hcast, Nat.le_add_left, sumD_length, Sha.leaf_len] <;> rfl)) ?_ | refine Head.p hF rfl rfl rfl ?_
    first | refine Head.c hF rfl rfl (by kernel_rfl) rfl rfl rfl (m2) ?_ | refine Head.p hF rfl rfl rfl ?_
    first | refine Head.v hF rfl rfl rfl (opV_neA rfl rfl rfl (by simp (disch := omega) only [go_sem, Nat.reduceEqDiff, iteP, hk1, hk2, sumsL, elemsL, bytesL, rowE, sumD, q1, q2, hcast, Nat.le_add_left, sumD_length, Sha.leaf_len] <;> rfl)) ?_ | refine Head.p hF rfl rfl rfl ?_
    first | refine Head.v hF rfl rfl rfl (opV_pickT rfl rfl rfl) ?_ | refine Head.v hF rfl rfl rfl (opV_pickF rfl rfl rfl) ?_
    refine Head.v hF rfl rfl rfl (opV_move rfl rfl) ?_
    first | refine Head.v hF rfl rfl rfl (opV_move rfl rfl) ?_ | refine Head.p hF rfl rfl rfl ?_
    first | refine Head.v hF rfl rfl rfl (opV_slice rfl rfl rfl rfl rfl (by simp (disch := omega) only [go_sem, Nat.reduceEqDiff, iteP, hk1, hk2, sumsL, elemsL, bytesL, rowE, sumD, q1, q2, hcast, Nat.le_add_left, sumD_length, Sha.leaf_len] <;> rfl)) ?_ | refine Head.p hF rfl rfl rfl ?_
    first | refine Head.v hF rfl rfl rfl (opV_move rfl rfl) ?_ | refine Head.p hF rfl rfl rfl ?_
    first | refine Head.v hF rfl rfl rfl (opV_slice rfl rfl rfl rfl rfl (by simp (disch := omega) only [go_sem, Nat.reduceEqDiff, iteP, hk1, hk2, sumsL, elemsL, bytesL, rowE, sumD, q1, q2, hcast, Nat.le_add_left, sumD_length, Sha.leaf_len] <;> rfl)) ?_ | refine Head.p hF rfl rfl rfl ?_
    first | refine Head.c hF rfl rfl (by kernel_rfl) rfl rfl rfl (m3) ?_ | refine Head.p hF rfl rfl rfl ?_
    first | refine Head.v hF rfl rfl rfl (opV_un rfl rfl (by first | exact rd_notT _ | exact rd_notF _ | exact rd_not _)) ?_ | refine Head.p hF rfl rfl rfl ?_
    first | refine Head.v hF rfl rfl rfl (opV_pickT rfl rfl rfl) ?_ | refine Head.v hF rfl rfl rfl (opV_pickF rfl rfl rfl) ?_
    refine Head.last ⟨rfl, ?_⟩
    simp only [List.drop_succ_cons, List.drop_zero, List.drop_nil, List.nil_append, List.cons_append]
    refine SmG.nil ?_
    refine nextS_normal ?_
    refine Sm.condF hF rfl ?_
    refine Sm.skip ?_
    refine blockS_normal ?_
    refine nextS_normal ?_
    refine Sm.regionG hF rfl ?_
    refine SmG.v hF rfl rfl rfl (opV_move rfl rfl) ?_
    refine SmG.v hF rfl rfl rfl (opV_bin rfl rfl rfl (by first | exact rd_add _ _ _ _ _ (wrapI64 _ (by omega)) | exact rb_add _ _ _ _ _ _ _)) ?_
    refine SmG.v hF rfl rfl rfl (opV_assign rfl rfl) ?_
    refine SmG.nil ?_
    refine nextS_normal ?_
    exact ⟨⟨k + 2, by omega, by omega⟩, by show l.length + 1 - (k + 2) < l.length + 1 - k; omega, by exact St.le_of (by simp [leE, look, constD]) (by simp [leH, look, rep]) (by first | exact Nat.le_refl _ | (dsimp only; omega))⟩

  · refine Sm.seq ?_
    refine Sm.seq ?_
    refine Sm.regionG hF rfl ?_
    refine SmG.v hF rfl rfl rfl (opV_move rfl rfl) ?_
    refine SmG.v hF rfl rfl rfl (opV_bin rfl rfl rfl (by first | exact rd_add _ _ _ _ _ (wrapI64 _ (by omega)) | exact rb_add _ _ _ _ _ _ _)) ?_
    refine SmG.v hF rfl rfl rfl (opV_move rfl rfl) ?_
    refine SmG.v hF rfl rfl rfl (opV_len rfl rfl (by simp (disch := omega) only [go_sem, Nat.reduceEqDiff, iteP, elemsL] <;> rfl)) ?_
    refine SmG.v hF rfl rfl rfl (opV_bin rfl rfl rfl (by first | exact rd_lssT _ _ _ _ _ (by omega) | exact rd_lssF _ _ _ _ _ (by omega) | exact rb_lss _ _ _ _ _ _ _)) ?_
    refine SmG.nil ?_
    refine nextS_normal ?_
    refine Sm.condF hF rfl ?_
    refine Sm.exit ?_
    simp only [nextS, blockS, reduceIte, reduceCtorEq]
    refine Sm.seq ?_
    refine Sm.regionG hF rfl ?_
    refine SmG.v hF rfl rfl rfl (opV_move rfl rfl) ?_
    refine SmG.v hF rfl rfl rfl (opV_assign rfl rfl) ?_
    refine SmG.nil ?_
    refine nextS_normal ?_
    refine Sm.ret ?_
    refine ⟨_, rfl, ?_⟩; dsimp only
    exact D.le.refl _
end Go.Proofs.YtmindblfbijaaaaDoor
namespace Go.Proofs.YtmindblfbijaaaaDoor
open Go.RowKit
set_option maxRecDepth 100000
section
variable (P : Program) (t : TypeId) (x y : Operand)
theorem rw_add (a b : UInt32) : reck P (do eqGuard .add t x y (.int .u32 a.toNat) (.int .u32 b.toNat); binOp .add t (.int .u32 a.toNat) (.int .u32 b.toNat)) = some (.int .u32 ((a + b).toNat : Int)) := by rw [rb_add, wadd]
theorem rw_xor (a b : UInt32) : reck P (do eqGuard .xor t x y (.int .u32 a.toNat) (.int .u32 b.toNat); binOp .xor t (.int .u32 a.toNat) (.int .u32 b.toNat)) = some (.int .u32 ((a ^^^ b).toNat : Int)) := by
  rw [rb_xor]; exact congrArg (fun n => some (Value.int .u32 n)) (xor32 a b)
theorem rw_and (a b : UInt32) : reck P (do eqGuard .and t x y (.int .u32 a.toNat) (.int .u32 b.toNat); binOp .and t (.int .u32 a.toNat) (.int .u32 b.toNat)) = some (.int .u32 ((a &&& b).toNat : Int)) := by
  rw [rb_and]; exact congrArg (fun n => some (Value.int .u32 n)) (and32 a b)
theorem rw_not (a : UInt32) : reck P (Op.unary .xor (.int .u32 a.toNat)) = some (.int .u32 ((~~~a).toNat : Int)) := by
  rw [← not32 a]; rfl
theorem rw_shr (n : Nat) {b : Int} (k2 : IntKind) (hb : b = (n : Int)) (hn : n ≤ 32) (a : UInt32) : reck P (do eqGuard .shr t x y (.int .u32 a.toNat) (.int k2 b); binOp .shr t (.int .u32 a.toNat) (.int k2 b)) = some (.int .u32 ((Sha.shr a n).toNat : Int)) := by
  rw [rb_shr P t x y .u32 a.toNat b k2 (by omega), ← shr32]
  subst hb
  have : min ((n : Int).toNat) IntKind.u32.bits = n := by show min _ 32 = n; omega
  rw [this, Int.fdiv_eq_ediv_of_nonneg _ (Int.le_of_lt (Int.pow_pos (by omega)))]
  norm_cast
theorem rw_shl8 (p : Nat) (k2 : IntKind) (hp : p < 16777216) : reck P (do eqGuard .shl t x y (.int .u32 p) (.int k2 8); binOp .shl t (.int .u32 p) (.int k2 8)) = some (.int .u32 ((p * 256 : Nat) : Int)) := by
  have e : (2 : Int) ^ (min (8 : Int).toNat IntKind.u32.bits) = 256 := by decide
  rw [rb_shl P t x y .u32 p 8 k2 (by omega), e, wrapU32 _ (by omega)]
  simp
theorem rw_or8 (p c : Nat) (hp : p < 16777216) (hc : c < 256) : reck P (do eqGuard .or t x y (.int .u32 ((p * 256 : Nat) : Int)) (.int .u32 c); binOp .or t (.int .u32 ((p * 256 : Nat) : Int)) (.int .u32 c)) = some (.int .u32 ((p * 256 + c : Nat) : Int)) := by
  rw [rb_or]
  have := shift8 p c hp hc
  rw [show (p : Int) * 256 % 4294967296 = ((p * 256 : Nat) : Int) by omega] at this
  exact congrArg (fun n => some (Value.int .u32 n)) this
end
theorem turn_D {n : Int} (m : Nat) (x : UInt32) (hn : n = m) (h1 : m ≤ 31) (G : Nat → Option D) : CallsD Tryd.prog G 47 [.v (.int .i64 n), .v (.int .u32 x.toNat)] (.v (.int .u32 (Sha.rotr x m).toNat)) := by
  intro C w vs hG hk ha
  obtain ⟨v, u, rfl, hv, hu⟩ := outs2 ha
  rw [Rep.v_eq hv, Rep.v_eq hu]
  subst hn
  refine (turn_any m x w h1).mono ?_
  rintro e w' ⟨rfl, k, rfl⟩
  exact ⟨_, C, rfl, .of_below hk (below_drewN (Below.refl _ _) k), .v _⟩

theorem first_D (G : Nat → Option D) : CallsD Tryd.prog G 33 [] (.agg 8 (Sha.begin8.map u32D)) := by
  refine CallsD.of Tryd.func33 rfl Tryd.ntmps33 (by simp) ?_; intro F hF; simp only [List.zipIdx_cons, List.zipIdx_nil, List.map_cons, List.map_nil, Nat.zero_add, Nat.reduceAdd]
  refine Sm.seq ?_
  refine Sm.regionG hF rfl ?_
  refine SmG.new hF rfl rfl rfl (opS_alloc rfl al57) ?_
  refine SmG.nil ?_
  refine nextS_normal ?_
  refine Sm.seq ?_
  refine Sm.regionG hF rfl ?_
  refine SmG.v hF rfl rfl rfl (opV_buildA rfl Tryd.underlying57 rfl (show _ = some (.d (.agg 8 (Sha.begin8.map u32D))) from by kernel_rfl)) ?_
  refine SmG.store hF rfl rfl rfl rfl rfl (by simp (disch := omega) only [go_sem, Nat.reduceEqDiff, iteP] <;> rfl) ?_
  refine SmG.nil ?_
  refine nextS_normal ?_
  refine Sm.ret ?_
  refine ⟨.agg 8 (Sha.begin8.map u32D), ?_, D.le.refl _⟩
  kernel_rfl

theorem keys_D (G : Nat → Option D) : CallsD Tryd.prog G 46 [] (.agg 64 (Sha.keys64.map u32D)) := by
  refine CallsD.of Tryd.func46 rfl Tryd.ntmps46 (by simp) ?_; intro F hF; simp only [List.zipIdx_cons, List.zipIdx_nil, List.map_cons, List.map_nil, Nat.zero_add, Nat.reduceAdd]
  refine Sm.seq ?_
  refine Sm.regionG hF rfl ?_
  refine SmG.new hF rfl rfl rfl (opS_alloc rfl al73) ?_
  refine SmG.nil ?_
  refine nextS_normal ?_
  refine Sm.seq ?_
  refine Sm.regionG hF rfl ?_
  refine SmG.v hF rfl rfl rfl (opV_buildA rfl Tryd.underlying73 rfl (show _ = some (.d (.agg 64 (Sha.keys64.map u32D))) from by kernel_rfl)) ?_
  refine SmG.store hF rfl rfl rfl rfl rfl (by simp (disch := omega) only [go_sem, Nat.reduceEqDiff, iteP] <;> rfl) ?_
  refine SmG.nil ?_
  refine nextS_normal ?_
  refine Sm.ret ?_
  refine ⟨.agg 64 (Sha.keys64.map u32D), ?_, D.le.refl _⟩
  kernel_rfl
/-- Words in a block of the frame's own. -/
abbrev dW (n : Nat) (l : List UInt32) : Blk := dB n [l.map u32D]
theorem set_word (l : List UInt32) (i z : Nat) (h : z < 4294967296) : (List.map V.d (List.map u32D l)).set i (.d (.v (.int .u32 (z : Int)))) = List.map V.d (List.map u32D (l.set i (UInt32.ofNat z))) := by
  rw [List.map_set, List.map_set]
  have : (UInt32.ofNat z).toNat = z := Nat.mod_eq_of_lt h
  rw [u32D, this]
theorem set_word' (l : List UInt32) (i : Nat) (z : UInt32) : (List.map V.d (List.map u32D l)).set i (.d (.v (.int .u32 (z.toNat : Int)))) = List.map V.d (List.map u32D (l.set i z)) := by
  rw [List.map_set, List.map_set]; rfl
theorem get_word (l : List UInt32) (i : Nat) (h : i < l.length) : l[i]? = some (l.getD i 0) := by simp [List.getD, h]

theorem spread_D (b : List UInt8) (hb : b.length = 64) (G : Nat → Option D) : CallsD Tryd.prog G 45 [bytesL b] (.agg 64 ((Sha.spread b).map u32D)) := by
  refine CallsD.of Tryd.func45 rfl Tryd.ntmps45 (by simp) ?_; intro F hF; simp only [List.zipIdx_cons, List.zipIdx_nil, List.map_cons, List.map_nil, Nat.zero_add, Nat.reduceAdd]
  refine Sm.seq ?_
  refine Sm.regionG hF rfl ?_
  refine SmG.new hF rfl rfl rfl (opS_alloc rfl al73) ?_
  refine SmG.nil ?_
  refine nextS_normal ?_
  refine Sm.seq ?_
  refine Sm.regionG hF rfl ?_
  refine SmG.v hF rfl rfl rfl (opV_buildA rfl Tryd.underlying73 rfl bz73) ?_
  refine SmG.new hF rfl rfl rfl (opS_alloc rfl al73) ?_
  refine SmG.store hF rfl rfl rfl rfl rfl (by simp (disch := omega) only [go_sem, Nat.reduceEqDiff, iteP] <;> rfl) ?_
  refine SmG.nil ?_
  refine nextS_normal ?_
  refine Sm.seq ?_
  refine Sm.seq ?_
  refine Sm.regionG hF rfl ?_
  refine SmG.v hF rfl rfl rfl (opV_assign rfl rfl) ?_
  refine SmG.nil ?_
  refine nextS_normal ?_
  refine Sm.block ?_
  refine Sm.loop (ι := {t : Nat // t ≤ 16}) (fun t => ⟨[(0, .d (bytesL b)), (2, .ref 0 0 0), (3, .ref 1 0 0), (4, .d (.v (.int .i64 t.1)))], [(1, dW 64 (Sha.fill b (4 * t.1))), (0, dW 64 (List.replicate 64 0))], 2⟩) (fun t => 16 - t.1) (⟨0, by omega⟩) ?_ ?_
  · refine St.le_of (by simp [leE, look, constD]) ⟨?_, rfl, trivial⟩ (Nat.le_refl _)
    show _ = some (dW 64 (Sha.fill b 0))
    rw [Sha.fill_zero]; rfl
  rintro ⟨t, ht⟩
  simp only

  by_cases hlt : t < 16
  · refine Sm.seq ?_
    refine Sm.seq ?_
    refine Sm.regionG hF rfl ?_
    refine SmG.v hF rfl rfl rfl (opV_move rfl rfl) ?_
    refine SmG.v hF rfl rfl rfl (opV_bin rfl rfl rfl (by first | exact rd_lssT _ _ _ _ _ (by omega) | exact rd_lssF _ _ _ _ _ (by omega) | exact rb_lss _ _ _ _ _ _ _)) ?_
    refine SmG.nil ?_
    refine nextS_normal ?_
    refine Sm.condT hF rfl ?_
    refine Sm.skip ?_
    refine nextS_normal ?_
    refine Sm.seq ?_
    refine Sm.block ?_
    refine Sm.seq ?_
    refine Sm.regionG hF rfl ?_
    refine SmG.v hF rfl rfl rfl (opV_assign rfl rfl) ?_
    refine SmG.nil ?_
    refine nextS_normal ?_
    refine Sm.block ?_
    refine Sm.loop (ι := {k : Nat // k ≤ 4}) (fun k => ⟨[(0, .d (bytesL b)), (2, .ref 0 0 0), (3, .ref 1 0 0), (4, .d (.v (.int .i64 t))), (5, .d (.v (.int .i64 k.1)))], [(1, dW 64 (Sha.fill b (4 * t + k.1))), (0, dW 64 (List.replicate 64 0))], 2⟩) (fun k => 4 - k.1) (⟨0, by omega⟩) ?_ ?_
    · exact St.le_of (by simp [leE, look, constD]) (by simp [leH, look, rep]) (by first | exact Nat.le_refl _ | (dsimp only; omega))
    rintro ⟨k, hk⟩
    simp only

    by_cases hlk : k < 4
    · have hpl : Sha.part b t k < 16777216 := Nat.lt_of_lt_of_le (Sha.part_lt b t k) (by
        have : (256 : Nat) ^ k ≤ 256 ^ 3 := Nat.pow_le_pow_right (by omega) (by omega)
        simpa using this)
      have hget : (Sha.fill b (4 * t + k))[t]? = some (UInt32.ofNat (Sha.part b t k)) := by
        rw [get_word _ _ (by rw [Sha.fill_length]; omega), Sha.fill_get b _ t (by omega)]
        congr 3; omega
      have hw : (UInt32.ofNat (Sha.part b t k)).toNat = Sha.part b t k := Nat.mod_eq_of_lt (by omega)
      have hb1 : b[4 * t + k]? = some (b.getD (4 * t + k) 0) := by simp [List.getD, show 4 * t + k < b.length by omega]
      have hlb : (b.getD (4 * t + k) 0).toNat < 256 := (b.getD (4 * t + k) 0).toNat_lt
      have hset := Sha.fill_succ b (4 * t + k) (by omega)
      rw [show (4 * t + k) / 4 = t by omega, show (4 * t + k) % 4 = k by omega] at hset
      have hst := set_word (Sha.fill b (4 * t + k)) t (Sha.part b t k * 256 + (b.getD (4 * t + k) 0).toNat) (by omega)
      rw [← hset] at hst
      generalize b.getD (4 * t + k) 0 = c at hb1 hlb hst
      generalize Sha.part b t k = p at hpl hget hw hst
      have hcast : (4 * (t : Int) + (k : Int)).toNat = 4 * t + k := by omega
      have e1 : 4 * t + (k + 1) = 4 * t + k + 1 := by omega

      refine Sm.seq ?_
      refine Sm.seq ?_
      refine Sm.regionG hF rfl ?_
      refine SmG.v hF rfl rfl rfl (opV_move rfl rfl) ?_
      refine SmG.v hF rfl rfl rfl (opV_bin rfl rfl rfl (by first | exact rd_lssT _ _ _ _ _ (by omega) | exact rd_lssF _ _ _ _ _ (by omega) | exact rb_lss _ _ _ _ _ _ _)) ?_
      refine SmG.nil ?_
      refine nextS_normal ?_
      refine Sm.condT hF rfl ?_
      refine Sm.skip ?_
      refine nextS_normal ?_
      refine Sm.seq ?_
      refine Sm.block ?_
      refine Sm.drawG hF (by kernel_rfl) rfl 15 (by kernel_rfl) (by kernel_rfl) ?_
      simp only [List.take_succ_cons, List.take_zero, List.take_nil]
      refine Head.v hF rfl rfl rfl (opV_move rfl rfl) ?_
      refine Head.v hF rfl rfl rfl (opV_move rfl rfl) ?_
      refine Head.v hF rfl rfl rfl (opV_indexAddr rfl rfl rfl (by simp (disch := omega) only [go_sem, Nat.reduceEqDiff, iteP, bytesL, rowB, byteD, hget, hw, hb1, hcast, u32D] <;> rfl)) ?_
      refine Head.v hF rfl rfl rfl (opV_load rfl rfl (by simp (disch := omega) only [go_sem, Nat.reduceEqDiff, iteP, bytesL, rowB, byteD, hget, hw, hb1, hcast, u32D] <;> rfl)) ?_
      refine Head.v hF rfl rfl rfl (opV_bin rfl rfl rfl (rw_shl8 _ _ _ _ p _ hpl)) ?_
      refine Head.v hF rfl rfl rfl (opV_move rfl rfl) ?_
      refine Head.v hF rfl rfl rfl (opV_move rfl rfl) ?_
      refine Head.v hF rfl rfl rfl (opV_bin rfl rfl rfl (by first | exact rd_mul _ _ _ _ _ (wrapI64 _ (by omega)) | exact rb_mul _ _ _ _ _ _ _)) ?_
      refine Head.v hF rfl rfl rfl (opV_move rfl rfl) ?_
      refine Head.v hF rfl rfl rfl (opV_bin rfl rfl rfl (by first | exact rd_add _ _ _ _ _ (wrapI64 _ (by omega)) | exact rb_add _ _ _ _ _ _ _)) ?_
      refine Head.v hF rfl rfl rfl (opV_indexAddr rfl rfl rfl (by simp (disch := omega) only [go_sem, Nat.reduceEqDiff, iteP, bytesL, rowB, byteD, hget, hw, hb1, hcast, u32D] <;> rfl)) ?_
      refine Head.v hF rfl rfl rfl (opV_load rfl rfl (by simp (disch := omega) only [go_sem, Nat.reduceEqDiff, iteP, bytesL, rowB, byteD, hget, hw, hb1, hcast, u32D] <;> rfl)) ?_
      refine Head.v hF rfl rfl rfl (opV_conv rfl rfl (by first | exact convS_int rfl rfl (wrapU32 _ (by omega)) | (simp (disch := omega) only [go_sem, bytesL, rowB, byteD, hget, hw, hb1, hcast, u32D] <;> rfl))) ?_
      refine Head.v hF rfl rfl rfl (opV_bin rfl rfl rfl (rw_or8 _ _ _ _ p c.toNat hpl hlb)) ?_
      refine Head.v hF rfl rfl rfl (opV_indexAddr rfl rfl rfl (by simp (disch := omega) only [go_sem, Nat.reduceEqDiff, iteP, bytesL, rowB, byteD, hget, hw, hb1, hcast, u32D] <;> rfl)) ?_
      refine Head.last ⟨rfl, ?_⟩
      simp only [List.drop_succ_cons, List.drop_zero, List.drop_nil, List.nil_append, List.cons_append]
      refine SmG.store hF rfl rfl rfl rfl rfl (by simp (disch := omega) only [go_sem, Nat.reduceEqDiff, iteP, bytesL, rowB, byteD, hget, hw, hb1, hcast, u32D] <;> rfl) ?_
      refine SmG.nil ?_
      refine blockS_normal ?_
      refine nextS_normal ?_
      refine Sm.regionG hF rfl ?_
      refine SmG.v hF rfl rfl rfl (opV_move rfl rfl) ?_
      refine SmG.v hF rfl rfl rfl (opV_bin rfl rfl rfl (by first | exact rd_add _ _ _ _ _ (wrapI64 _ (by omega)) | exact rb_add _ _ _ _ _ _ _)) ?_
      refine SmG.v hF rfl rfl rfl (opV_assign rfl rfl) ?_
      refine SmG.nil ?_
      refine nextS_normal ?_
      exact ⟨⟨k + 1, by omega⟩, by show 4 - (k + 1) < 4 - k; omega, by exact St.le_of (by first | (simp [leE, look, constD] <;> omega) | (simp [leE, look, constD, hst, e1] <;> omega)) (by simp only [leH, look, rep, reduceIte, Nat.reduceEqDiff, List.set_cons_zero, List.set_cons_succ, hst, e1, and_self, and_true, and_false, false_and, if_true, if_false] <;> (repeat' first | rfl | constructor)) (by first | exact Nat.le_refl _ | (dsimp only; omega))⟩

    · obtain rfl : k = 4 := by omega
      refine Sm.seq ?_
      refine Sm.seq ?_
      refine Sm.regionG hF rfl ?_
      refine SmG.v hF rfl rfl rfl (opV_move rfl rfl) ?_
      refine SmG.v hF rfl rfl rfl (opV_bin rfl rfl rfl (by first | exact rd_lssT _ _ _ _ _ (by omega) | exact rd_lssF _ _ _ _ _ (by omega) | exact rb_lss _ _ _ _ _ _ _)) ?_
      refine SmG.nil ?_
      refine nextS_normal ?_
      refine Sm.condF hF rfl ?_
      refine Sm.exit ?_
      simp only [nextS, blockS, reduceIte, reduceCtorEq]
      refine Sm.regionG hF rfl ?_
      refine SmG.v hF rfl rfl rfl (opV_move rfl rfl) ?_
      refine SmG.v hF rfl rfl rfl (opV_bin rfl rfl rfl (by first | exact rd_add _ _ _ _ _ (wrapI64 _ (by omega)) | exact rb_add _ _ _ _ _ _ _)) ?_
      refine SmG.v hF rfl rfl rfl (opV_assign rfl rfl) ?_
      refine SmG.nil ?_
      refine nextS_normal ?_
      exact ⟨⟨t + 1, by omega⟩, by show 16 - (t + 1) < 16 - t; omega, by exact St.le_of (by first | (simp [leE, look, constD] <;> omega) | (simp [leE, look, constD, show 4 * t + 4 = 4 * (t + 1) by omega] <;> omega)) (by simp only [leH, look, rep, reduceIte, Nat.reduceEqDiff, List.set_cons_zero, List.set_cons_succ, show 4 * t + 4 = 4 * (t + 1) by omega, and_self, and_true, and_false, false_and, if_true, if_false] <;> (repeat' first | rfl | constructor)) (by first | exact Nat.le_refl _ | (dsimp only; omega))⟩

  · obtain rfl : t = 16 := by omega
    refine Sm.seq ?_
    refine Sm.seq ?_
    refine Sm.regionG hF rfl ?_
    refine SmG.v hF rfl rfl rfl (opV_move rfl rfl) ?_
    refine SmG.v hF rfl rfl rfl (opV_bin rfl rfl rfl (by first | exact rd_lssT _ _ _ _ _ (by omega) | exact rd_lssF _ _ _ _ _ (by omega) | exact rb_lss _ _ _ _ _ _ _)) ?_
    refine SmG.nil ?_
    refine nextS_normal ?_
    refine Sm.condF hF rfl ?_
    refine Sm.exit ?_
    simp only [nextS, blockS, reduceIte, reduceCtorEq]
    refine Sm.seq ?_
    refine Sm.seq ?_
    refine Sm.regionG hF rfl ?_
    refine SmG.v hF rfl rfl rfl (opV_assign rfl rfl) ?_
    refine SmG.nil ?_
    refine nextS_normal ?_
    refine Sm.block ?_
    refine Sm.loop (ι := {t : Nat // 16 ≤ t ∧ t ≤ 64}) (fun t => ⟨[(0, .d (bytesL b)), (2, .ref 0 0 0), (3, .ref 1 0 0), (6, .d (.v (.int .i64 t.1)))], [(1, dW 64 (Sha.grown b t.1)), (0, dW 64 (List.replicate 64 0))], 2⟩) (fun t => 64 - t.1) (⟨16, by omega, by omega⟩) ?_ ?_
    · refine St.le_of (by simp [leE, look, constD]) ⟨?_, rfl, trivial⟩ (Nat.le_refl _)
      show _ = some (dW 64 (Sha.grown b 16))
      rw [← Sha.grown_first]; rfl
    rintro ⟨t, ht, ht2⟩
    simp only

    by_cases hlt : t < 64
    · have hln := Sha.grown_length b t ht ht2
      have h1 := get_word (Sha.grown b t) (t - 16) (by omega)
      have h2 := get_word (Sha.grown b t) (t - 7) (by omega)
      have h3 := get_word (Sha.grown b t) (t - 15) (by omega)
      have h4 := get_word (Sha.grown b t) (t - 2) (by omega)
      have hset := Sha.grown_succ b t ht hlt
      have hst := set_word' (Sha.grown b t) t ((Sha.grown b t).getD (t - 16) 0 + (Sha.grown b t).getD (t - 7) 0 + Sha.low ((Sha.grown b t).getD (t - 15) 0) + Sha.high ((Sha.grown b t).getD (t - 2) 0))
      rw [← hset] at hst
      generalize (Sha.grown b t).getD (t - 16) 0 = x1 at h1 hst
      generalize (Sha.grown b t).getD (t - 7) 0 = x2 at h2 hst
      generalize (Sha.grown b t).getD (t - 15) 0 = y at h3 hst
      generalize (Sha.grown b t).getD (t - 2) 0 = z at h4 hst
      simp only [Sha.low, Sha.high] at hst
      have c1 : ((t : Int) - 16).toNat = t - 16 := by omega
      have c2 : ((t : Int) - 7).toNat = t - 7 := by omega
      have c3 : ((t : Int) - 15).toNat = t - 15 := by omega
      have c4 : ((t : Int) - 2).toNat = t - 2 := by omega

      refine Sm.seq ?_
      refine Sm.seq ?_
      refine Sm.regionG hF rfl ?_
      refine SmG.v hF rfl rfl rfl (opV_move rfl rfl) ?_
      refine SmG.v hF rfl rfl rfl (opV_bin rfl rfl rfl (by first | exact rd_lssT _ _ _ _ _ (by omega) | exact rd_lssF _ _ _ _ _ (by omega) | exact rb_lss _ _ _ _ _ _ _)) ?_
      refine SmG.nil ?_
      refine nextS_normal ?_
      refine Sm.condT hF rfl ?_
      refine Sm.skip ?_
      refine nextS_normal ?_
      refine Sm.seq ?_
      refine Sm.block ?_
      refine Sm.seq ?_
      refine Sm.regionG hF rfl ?_
      refine SmG.v hF rfl rfl rfl (opV_move rfl rfl) ?_
      refine SmG.v hF rfl rfl rfl (opV_bin rfl rfl rfl (by first | exact rd_sub _ _ _ _ _ (wrapI64 _ (by omega)) | exact rb_sub _ _ _ _ _ _ _)) ?_
      refine SmG.v hF rfl rfl rfl (opV_indexAddr rfl rfl rfl (by simp (disch := omega) only [go_sem, Nat.reduceEqDiff, iteP, u32D, h1, h2, h3, h4, c1, c2, c3, c4] <;> rfl)) ?_
      refine SmG.v hF rfl rfl rfl (opV_load rfl rfl (by simp (disch := omega) only [go_sem, Nat.reduceEqDiff, iteP, u32D, h1, h2, h3, h4, c1, c2, c3, c4] <;> rfl)) ?_
      refine SmG.v hF rfl rfl rfl (opV_assign rfl rfl) ?_
      refine SmG.nil ?_
      refine nextS_normal ?_
      refine Sm.seq ?_
      refine Sm.regionG hF rfl ?_
      refine SmG.v hF rfl rfl rfl (opV_move rfl rfl) ?_
      refine SmG.v hF rfl rfl rfl (opV_bin rfl rfl rfl (by first | exact rd_sub _ _ _ _ _ (wrapI64 _ (by omega)) | exact rb_sub _ _ _ _ _ _ _)) ?_
      refine SmG.v hF rfl rfl rfl (opV_indexAddr rfl rfl rfl (by simp (disch := omega) only [go_sem, Nat.reduceEqDiff, iteP, u32D, h1, h2, h3, h4, c1, c2, c3, c4] <;> rfl)) ?_
      refine SmG.v hF rfl rfl rfl (opV_load rfl rfl (by simp (disch := omega) only [go_sem, Nat.reduceEqDiff, iteP, u32D, h1, h2, h3, h4, c1, c2, c3, c4] <;> rfl)) ?_
      refine SmG.v hF rfl rfl rfl (opV_assign rfl rfl) ?_
      refine SmG.nil ?_
      refine nextS_normal ?_
      refine Sm.drawG hF (by kernel_rfl) rfl 29 (by kernel_rfl) (by kernel_rfl) ?_
      simp only [List.take_succ_cons, List.take_zero, List.take_nil]
      refine Head.v hF rfl rfl rfl (opV_move rfl rfl) ?_
      refine Head.v hF rfl rfl rfl (opV_move rfl rfl) ?_
      refine Head.v hF rfl rfl rfl (opV_bin rfl rfl rfl (by first | exact rd_sub _ _ _ _ _ (wrapI64 _ (by omega)) | exact rb_sub _ _ _ _ _ _ _)) ?_
      refine Head.v hF rfl rfl rfl (opV_indexAddr rfl rfl rfl (by simp (disch := omega) only [go_sem, Nat.reduceEqDiff, iteP, u32D, h1, h2, h3, h4, c1, c2, c3, c4] <;> rfl)) ?_
      refine Head.v hF rfl rfl rfl (opV_load rfl rfl (by simp (disch := omega) only [go_sem, Nat.reduceEqDiff, iteP, u32D, h1, h2, h3, h4, c1, c2, c3, c4] <;> rfl)) ?_
      refine Head.v hF rfl rfl rfl (opV_move rfl rfl) ?_
      refine Head.v hF rfl rfl rfl (opV_bin rfl rfl rfl (by first | exact rd_sub _ _ _ _ _ (wrapI64 _ (by omega)) | exact rb_sub _ _ _ _ _ _ _)) ?_
      refine Head.v hF rfl rfl rfl (opV_indexAddr rfl rfl rfl (by simp (disch := omega) only [go_sem, Nat.reduceEqDiff, iteP, u32D, h1, h2, h3, h4, c1, c2, c3, c4] <;> rfl)) ?_
      refine Head.v hF rfl rfl rfl (opV_load rfl rfl (by simp (disch := omega) only [go_sem, Nat.reduceEqDiff, iteP, u32D, h1, h2, h3, h4, c1, c2, c3, c4] <;> rfl)) ?_
      refine Head.v hF rfl rfl rfl (opV_bin rfl rfl rfl (by first | exact rw_add _ _ _ _ _ _ | exact rb_add _ _ _ _ _ _ _)) ?_
      refine Head.v hF rfl rfl rfl (opV_move rfl rfl) ?_
      refine Head.c hF rfl rfl (by kernel_rfl) rfl rfl rfl (turn_D 7 y rfl (by omega) G) ?_
      refine Head.v hF rfl rfl rfl (opV_move rfl rfl) ?_
      refine Head.c hF rfl rfl (by kernel_rfl) rfl rfl rfl (turn_D 18 y rfl (by omega) G) ?_
      refine Head.v hF rfl rfl rfl (opV_bin rfl rfl rfl (by first | exact rw_xor _ _ _ _ _ _ | exact rb_xor _ _ _ _ _ _ _)) ?_
      refine Head.v hF rfl rfl rfl (opV_move rfl rfl) ?_
      refine Head.v hF rfl rfl rfl (opV_bin rfl rfl rfl (rw_shr _ _ _ _ 3 _ rfl (by omega) y)) ?_
      refine Head.v hF rfl rfl rfl (opV_bin rfl rfl rfl (by first | exact rw_xor _ _ _ _ _ _ | exact rb_xor _ _ _ _ _ _ _)) ?_
      refine Head.v hF rfl rfl rfl (opV_bin rfl rfl rfl (by first | exact rw_add _ _ _ _ _ _ | exact rb_add _ _ _ _ _ _ _)) ?_
      refine Head.v hF rfl rfl rfl (opV_move rfl rfl) ?_
      refine Head.c hF rfl rfl (by kernel_rfl) rfl rfl rfl (turn_D 17 z rfl (by omega) G) ?_
      refine Head.v hF rfl rfl rfl (opV_move rfl rfl) ?_
      refine Head.c hF rfl rfl (by kernel_rfl) rfl rfl rfl (turn_D 19 z rfl (by omega) G) ?_
      refine Head.v hF rfl rfl rfl (opV_bin rfl rfl rfl (by first | exact rw_xor _ _ _ _ _ _ | exact rb_xor _ _ _ _ _ _ _)) ?_
      refine Head.v hF rfl rfl rfl (opV_move rfl rfl) ?_
      refine Head.v hF rfl rfl rfl (opV_bin rfl rfl rfl (rw_shr _ _ _ _ 10 _ rfl (by omega) z)) ?_
      refine Head.v hF rfl rfl rfl (opV_bin rfl rfl rfl (by first | exact rw_xor _ _ _ _ _ _ | exact rb_xor _ _ _ _ _ _ _)) ?_
      refine Head.v hF rfl rfl rfl (opV_bin rfl rfl rfl (by first | exact rw_add _ _ _ _ _ _ | exact rb_add _ _ _ _ _ _ _)) ?_
      refine Head.v hF rfl rfl rfl (opV_indexAddr rfl rfl rfl (by simp (disch := omega) only [go_sem, Nat.reduceEqDiff, iteP, u32D, h1, h2, h3, h4, c1, c2, c3, c4] <;> rfl)) ?_
      refine Head.last ⟨rfl, ?_⟩
      simp only [List.drop_succ_cons, List.drop_zero, List.drop_nil, List.nil_append, List.cons_append]
      refine SmG.store hF rfl rfl rfl rfl rfl (by simp (disch := omega) only [go_sem, Nat.reduceEqDiff, iteP, u32D, h1, h2, h3, h4, c1, c2, c3, c4] <;> rfl) ?_
      refine SmG.nil ?_
      refine blockS_normal ?_
      refine nextS_normal ?_
      refine Sm.regionG hF rfl ?_
      refine SmG.v hF rfl rfl rfl (opV_move rfl rfl) ?_
      refine SmG.v hF rfl rfl rfl (opV_bin rfl rfl rfl (by first | exact rd_add _ _ _ _ _ (wrapI64 _ (by omega)) | exact rb_add _ _ _ _ _ _ _)) ?_
      refine SmG.v hF rfl rfl rfl (opV_assign rfl rfl) ?_
      refine SmG.nil ?_
      refine nextS_normal ?_
      exact ⟨⟨t + 1, by omega, by omega⟩, by show 64 - (t + 1) < 64 - t; omega, by exact St.le_of (by first | (simp [leE, look, constD] <;> omega) | (simp [leE, look, constD, hst] <;> omega)) (by simp only [leH, look, rep, reduceIte, Nat.reduceEqDiff, List.set_cons_zero, List.set_cons_succ, hst, and_self, and_true, and_false, false_and, if_true, if_false] <;> (repeat' first | rfl | constructor)) (by first | exact Nat.le_refl _ | (dsimp only; omega))⟩

    · obtain rfl : t = 64 := by omega
      have hln := Sha.grown_length b 64 ht ht2
      have hll : (List.map u32D (Sha.grown b 64)).length = 64 := by rw [List.length_map, hln]
      refine Sm.seq ?_
      refine Sm.seq ?_
      refine Sm.regionG hF rfl ?_
      refine SmG.v hF rfl rfl rfl (opV_move rfl rfl) ?_
      refine SmG.v hF rfl rfl rfl (opV_bin rfl rfl rfl (by first | exact rd_lssT _ _ _ _ _ (by omega) | exact rd_lssF _ _ _ _ _ (by omega) | exact rb_lss _ _ _ _ _ _ _)) ?_
      refine SmG.nil ?_
      refine nextS_normal ?_
      refine Sm.condF hF rfl ?_
      refine Sm.exit ?_
      simp only [nextS, blockS, reduceIte, reduceCtorEq]
      refine Sm.seq ?_
      refine Sm.regionG hF rfl ?_
      refine SmG.v hF rfl rfl rfl (opV_load rfl rfl (by simp (disch := omega) only [go_sem, Nat.reduceEqDiff, iteP, u32D] <;> rfl)) ?_
      refine SmG.store hF rfl rfl rfl rfl rfl (by simp (disch := omega) only [go_sem, Nat.reduceEqDiff, iteP, u32D] <;> rfl) ?_
      refine SmG.nil ?_
      refine nextS_normal ?_
      refine Sm.ret ?_
      refine retQ_cell rfl rfl (by simp (disch := omega) only [go_sem, Nat.reduceEqDiff, iteP, hll] <;> rfl) ?_
      rw [Sha.grown_last]; exact D.le.refl _
end Go.Proofs.YtmindblfbijaaaaDoor
namespace Go.Proofs.YtmindblfbijaaaaDoor
open Go.RowKit
set_option maxRecDepth 100000
/-- Words to which the first ones of others are added. -/
def addTo (c s : List UInt32) (i : Nat) : List UInt32 := (List.zipWith (· + ·) c s).take i ++ c.drop i
theorem addTo_zero (c s : List UInt32) : addTo c s 0 = c := by simp [addTo]
theorem addTo_get (c s : List UInt32) (i : Nat) (hl : c.length = s.length) (hi : i < c.length) : (addTo c s i)[i]? = some (c.getD i 0) := by
  unfold addTo
  have : ((List.zipWith (· + ·) c s).take i).length = i := by simp [hl]; omega
  rw [List.getElem?_append_right (by omega), this, Nat.sub_self, List.getElem?_drop]
  simp [List.getD, hi]
theorem addTo_set (c s : List UInt32) (i : Nat) (hl : c.length = s.length) (hi : i < c.length) : (addTo c s i).set i (c.getD i 0 + s.getD i 0) = addTo c s (i + 1) := by
  unfold addTo
  have h1 : ((List.zipWith (· + ·) c s).take i).length = i := by simp [hl]; omega
  rw [List.set_append_right _ _ (by omega), h1, Nat.sub_self, List.drop_eq_getElem_cons hi, List.set_cons_zero, List.take_succ_eq_append_getElem (by simp; omega)]
  simp [List.getD, hi, show i < s.length by omega]
theorem addTo_all (c s : List UInt32) (hl : c.length = s.length) : addTo c s c.length = List.zipWith (· + ·) c s := by
  unfold addTo
  rw [List.take_of_length_le (by simp; omega), List.drop_length, List.append_nil]
theorem rounds_succ (w : List UInt32) (s : Sha.S8) (n : Nat) : Sha.rounds w s (n + 1) = Sha.round (Sha.rounds w s n) (Sha.keys64.getD n 0) (w.getD n 0) := rfl
theorem build_eight (a0 a1 a2 a3 a4 a5 a6 a7 : Int) : buildS Tryd.prog 57 [(0, V.d (.v (.int .u32 a0))), (1, V.d (.v (.int .u32 a1))), (2, V.d (.v (.int .u32 a2))), (3, V.d (.v (.int .u32 a3))), (4, V.d (.v (.int .u32 a4))), (5, V.d (.v (.int .u32 a5))), (6, V.d (.v (.int .u32 a6))), (7, V.d (.v (.int .u32 a7)))] = some (.d (.agg 8 [.v (.int .u32 a0), .v (.int .u32 a1), .v (.int .u32 a2), .v (.int .u32 a3), .v (.int .u32 a4), .v (.int .u32 a5), .v (.int .u32 a6), .v (.int .u32 a7)])) := by kernel_rfl

set_option maxHeartbeats 4000000 in
theorem step_D (S : Sha.S8) (b : List UInt8) (hb : b.length = 64) (G : Nat → Option D) : CallsD Tryd.prog G 34 [.agg 8 (S.list.map u32D), bytesL b] (.agg 8 ((Sha.after S b).list.map u32D)) := by
  have hkeys := keys_D G
  have hks := rounds_succ (Sha.spread b) S
  have hkl : Sha.keys64.length = 64 := by decide
  have haf : Sha.after S b = Sha.plus S (Sha.rounds (Sha.spread b) S 64) := rfl
  generalize Sha.keys64 = K at hkeys hks hkl
  have hwl : (Sha.spread b).length = 64 := by rw [← Sha.grown_last, Sha.grown_length b 64 (by omega) (by omega)]
  have hSl : S.list.length = 8 := rfl
  have hKl : (List.map u32D K).length = 64 := by rw [List.length_map, hkl]
  have hWl : (List.map u32D (Sha.spread b)).length = 64 := by rw [List.length_map, hwl]
  have hSS : (List.map u32D S.list).length = 8 := by rw [List.length_map, hSl]
  refine CallsD.of Tryd.func34 rfl Tryd.ntmps34 (by simp) ?_; intro F hF; simp only [List.zipIdx_cons, List.zipIdx_nil, List.map_cons, List.map_nil, Nat.zero_add, Nat.reduceAdd]
  refine Sm.seq ?_
  refine Sm.regionG hF rfl ?_
  refine SmG.new hF rfl rfl rfl (opS_box rfl rfl (by simp (disch := omega) only [go_sem, Nat.reduceEqDiff, iteP, u32D] <;> rfl)) ?_
  refine SmG.new hF rfl rfl rfl (opS_alloc rfl al57) ?_
  refine SmG.nil ?_
  refine nextS_normal ?_
  refine Sm.seq ?_
  refine Sm.regionG hF rfl ?_
  refine SmG.v hF rfl rfl rfl (opV_move rfl rfl) ?_
  refine SmG.call hF rfl rfl (by kernel_rfl) rfl rfl rfl (spread_D b hb G) ?_
  refine SmG.new hF rfl rfl rfl (opS_alloc rfl al73) ?_
  refine SmG.store hF rfl rfl rfl rfl rfl (by simp (disch := omega) only [go_sem, Nat.reduceEqDiff, iteP, u32D] <;> rfl) ?_
  refine SmG.nil ?_
  refine nextS_normal ?_
  refine Sm.seq ?_
  refine Sm.regionG hF rfl ?_
  refine SmG.call hF rfl rfl (by kernel_rfl) rfl rfl rfl (hkeys) ?_
  refine SmG.new hF rfl rfl rfl (opS_alloc rfl al73) ?_
  refine SmG.store hF rfl rfl rfl rfl rfl (by simp (disch := omega) only [go_sem, Nat.reduceEqDiff, iteP, u32D] <;> rfl) ?_
  refine SmG.nil ?_
  refine nextS_normal ?_
  refine Sm.seq ?_
  refine Sm.regionG hF rfl ?_
  refine SmG.v hF rfl rfl rfl (opV_load rfl rfl (by simp (disch := omega) only [go_sem, Nat.reduceEqDiff, iteP, u32D] <;> rfl)) ?_
  refine SmG.new hF rfl rfl rfl (opS_alloc rfl al57) ?_
  refine SmG.store hF rfl rfl rfl rfl rfl (by simp (disch := omega) only [go_sem, Nat.reduceEqDiff, iteP, u32D] <;> rfl) ?_
  refine SmG.nil ?_
  refine nextS_normal ?_
  refine Sm.seq ?_
  refine Sm.seq ?_
  refine Sm.regionG hF rfl ?_
  refine SmG.v hF rfl rfl rfl (opV_assign rfl rfl) ?_
  refine SmG.nil ?_
  refine nextS_normal ?_
  refine Sm.block ?_
  generalize hW : Sha.spread b = W at hks haf hwl hWl ⊢
  refine Sm.loop (ι := {t : Nat // t ≤ 64}) (fun t => ⟨[(2, .ref 0 0 0), (4, .ref 1 0 0), (5, .ref 2 0 0), (6, .ref 3 0 0), (7, .ref 4 0 0), (8, .d (.v (.int .i64 t.1)))], [(4, dW 8 (Sha.rounds W S t.1).list), (3, dW 64 K), (2, dW 64 W), (1, dW 8 (List.replicate 8 0)), (0, dW 8 S.list)], 5⟩) (fun t => 64 - t.1) (⟨0, by omega⟩) ?_ ?_
  · exact St.le_of (by first | (simp [leE, look, constD] <;> omega) | (simp [leE, look, constD, true_and] <;> omega)) (by simp only [leH, look, rep, reduceIte, Nat.reduceEqDiff, List.set_cons_zero, List.set_cons_succ, true_and, and_self, and_true, and_false, false_and, if_true, if_false] <;> (repeat' first | rfl | constructor)) (by first | exact Nat.le_refl _ | (dsimp only; omega))
  rintro ⟨t, ht⟩
  simp only

  by_cases hlt : t < 64
  · have hk1 := get_word K t (by omega)
    have hw1 := get_word W t (by omega)
    have hs := hks t
    generalize K.getD t 0 = k at hk1 hs
    generalize W.getD t 0 = x at hw1 hs
    generalize Sha.rounds W S t = c at hs ⊢
    rcases c with ⟨a, b1, c, d, e, f, g, h⟩
    have hrow : (Sha.rounds W S (t + 1)).list = [Sha.tx ⟨a, b1, c, d, e, f, g, h⟩ k x + Sha.ty ⟨a, b1, c, d, e, f, g, h⟩, a, b1, c, d + Sha.tx ⟨a, b1, c, d, e, f, g, h⟩ k x, e, f, g] := by rw [hs]; rfl
    simp only [Sha.tx, Sha.ty, Sha.rot3] at hrow
    rw [show Sha.S8.list ⟨a, b1, c, d, e, f, g, h⟩ = [a, b1, c, d, e, f, g, h] from rfl]

    refine Sm.seq ?_
    refine Sm.seq ?_
    refine Sm.regionG hF rfl ?_
    refine SmG.v hF rfl rfl rfl (opV_move rfl rfl) ?_
    refine SmG.v hF rfl rfl rfl (opV_bin rfl rfl rfl (by first | exact rd_lssT _ _ _ _ _ (by omega) | exact rd_lssF _ _ _ _ _ (by omega) | exact rb_lss _ _ _ _ _ _ _)) ?_
    refine SmG.nil ?_
    refine nextS_normal ?_
    refine Sm.condT hF rfl ?_
    refine Sm.skip ?_
    refine nextS_normal ?_
    refine Sm.seq ?_
    refine Sm.block ?_
    refine Sm.seq ?_
    refine Sm.drawG hF (by kernel_rfl) rfl 36 (by kernel_rfl) (by kernel_rfl) ?_
    simp only [List.take_succ_cons, List.take_zero, List.take_nil]
    refine Head.v hF rfl rfl rfl (opV_indexAddr rfl rfl rfl (by simp (disch := omega) only [go_sem, Nat.reduceEqDiff, iteP, u32D, hk1, hw1, hkl, hwl] <;> rfl)) ?_
    refine Head.v hF rfl rfl rfl (opV_load rfl rfl (by simp (disch := omega) only [go_sem, Nat.reduceEqDiff, iteP, u32D, hk1, hw1, hkl, hwl] <;> rfl)) ?_
    refine Head.v hF rfl rfl rfl (opV_indexAddr rfl rfl rfl (by simp (disch := omega) only [go_sem, Nat.reduceEqDiff, iteP, u32D, hk1, hw1, hkl, hwl] <;> rfl)) ?_
    refine Head.v hF rfl rfl rfl (opV_load rfl rfl (by simp (disch := omega) only [go_sem, Nat.reduceEqDiff, iteP, u32D, hk1, hw1, hkl, hwl] <;> rfl)) ?_
    refine Head.c hF rfl rfl (by kernel_rfl) rfl rfl rfl (turn_D 6 e rfl (by omega) G) ?_
    refine Head.v hF rfl rfl rfl (opV_indexAddr rfl rfl rfl (by simp (disch := omega) only [go_sem, Nat.reduceEqDiff, iteP, u32D, hk1, hw1, hkl, hwl] <;> rfl)) ?_
    refine Head.v hF rfl rfl rfl (opV_load rfl rfl (by simp (disch := omega) only [go_sem, Nat.reduceEqDiff, iteP, u32D, hk1, hw1, hkl, hwl] <;> rfl)) ?_
    refine Head.c hF rfl rfl (by kernel_rfl) rfl rfl rfl (turn_D 11 e rfl (by omega) G) ?_
    refine Head.v hF rfl rfl rfl (opV_bin rfl rfl rfl (by first | exact rw_xor _ _ _ _ _ _ | exact rb_xor _ _ _ _ _ _ _)) ?_
    refine Head.v hF rfl rfl rfl (opV_indexAddr rfl rfl rfl (by simp (disch := omega) only [go_sem, Nat.reduceEqDiff, iteP, u32D, hk1, hw1, hkl, hwl] <;> rfl)) ?_
    refine Head.v hF rfl rfl rfl (opV_load rfl rfl (by simp (disch := omega) only [go_sem, Nat.reduceEqDiff, iteP, u32D, hk1, hw1, hkl, hwl] <;> rfl)) ?_
    refine Head.c hF rfl rfl (by kernel_rfl) rfl rfl rfl (turn_D 25 e rfl (by omega) G) ?_
    refine Head.v hF rfl rfl rfl (opV_bin rfl rfl rfl (by first | exact rw_xor _ _ _ _ _ _ | exact rb_xor _ _ _ _ _ _ _)) ?_
    refine Head.v hF rfl rfl rfl (opV_bin rfl rfl rfl (by first | exact rw_add _ _ _ _ _ _ | exact rb_add _ _ _ _ _ _ _)) ?_
    refine Head.v hF rfl rfl rfl (opV_indexAddr rfl rfl rfl (by simp (disch := omega) only [go_sem, Nat.reduceEqDiff, iteP, u32D, hk1, hw1, hkl, hwl] <;> rfl)) ?_
    refine Head.v hF rfl rfl rfl (opV_load rfl rfl (by simp (disch := omega) only [go_sem, Nat.reduceEqDiff, iteP, u32D, hk1, hw1, hkl, hwl] <;> rfl)) ?_
    refine Head.v hF rfl rfl rfl (opV_indexAddr rfl rfl rfl (by simp (disch := omega) only [go_sem, Nat.reduceEqDiff, iteP, u32D, hk1, hw1, hkl, hwl] <;> rfl)) ?_
    refine Head.v hF rfl rfl rfl (opV_load rfl rfl (by simp (disch := omega) only [go_sem, Nat.reduceEqDiff, iteP, u32D, hk1, hw1, hkl, hwl] <;> rfl)) ?_
    refine Head.v hF rfl rfl rfl (opV_bin rfl rfl rfl (by first | exact rw_and _ _ _ _ _ _ | exact rb_and _ _ _ _ _ _ _)) ?_
    refine Head.v hF rfl rfl rfl (opV_indexAddr rfl rfl rfl (by simp (disch := omega) only [go_sem, Nat.reduceEqDiff, iteP, u32D, hk1, hw1, hkl, hwl] <;> rfl)) ?_
    refine Head.v hF rfl rfl rfl (opV_load rfl rfl (by simp (disch := omega) only [go_sem, Nat.reduceEqDiff, iteP, u32D, hk1, hw1, hkl, hwl] <;> rfl)) ?_
    refine Head.v hF rfl rfl rfl (opV_un rfl rfl (rw_not _ _)) ?_
    refine Head.v hF rfl rfl rfl (opV_indexAddr rfl rfl rfl (by simp (disch := omega) only [go_sem, Nat.reduceEqDiff, iteP, u32D, hk1, hw1, hkl, hwl] <;> rfl)) ?_
    refine Head.v hF rfl rfl rfl (opV_load rfl rfl (by simp (disch := omega) only [go_sem, Nat.reduceEqDiff, iteP, u32D, hk1, hw1, hkl, hwl] <;> rfl)) ?_
    refine Head.v hF rfl rfl rfl (opV_bin rfl rfl rfl (by first | exact rw_and _ _ _ _ _ _ | exact rb_and _ _ _ _ _ _ _)) ?_
    refine Head.v hF rfl rfl rfl (opV_bin rfl rfl rfl (by first | exact rw_xor _ _ _ _ _ _ | exact rb_xor _ _ _ _ _ _ _)) ?_
    refine Head.v hF rfl rfl rfl (opV_bin rfl rfl rfl (by first | exact rw_add _ _ _ _ _ _ | exact rb_add _ _ _ _ _ _ _)) ?_
    refine Head.v hF rfl rfl rfl (opV_move rfl rfl) ?_
    refine Head.v hF rfl rfl rfl (opV_indexAddr rfl rfl rfl (by simp (disch := omega) only [go_sem, Nat.reduceEqDiff, iteP, u32D, hk1, hw1, hkl, hwl] <;> rfl)) ?_
    refine Head.v hF rfl rfl rfl (opV_load rfl rfl (by simp (disch := omega) only [go_sem, Nat.reduceEqDiff, iteP, u32D, hk1, hw1, hkl, hwl] <;> rfl)) ?_
    refine Head.v hF rfl rfl rfl (opV_bin rfl rfl rfl (by first | exact rw_add _ _ _ _ _ _ | exact rb_add _ _ _ _ _ _ _)) ?_
    refine Head.v hF rfl rfl rfl (opV_move rfl rfl) ?_
    refine Head.v hF rfl rfl rfl (opV_indexAddr rfl rfl rfl (by simp (disch := omega) only [go_sem, Nat.reduceEqDiff, iteP, u32D, hk1, hw1, hkl, hwl] <;> rfl)) ?_
    refine Head.v hF rfl rfl rfl (opV_load rfl rfl (by simp (disch := omega) only [go_sem, Nat.reduceEqDiff, iteP, u32D, hk1, hw1, hkl, hwl] <;> rfl)) ?_
    refine Head.v hF rfl rfl rfl (opV_bin rfl rfl rfl (by first | exact rw_add _ _ _ _ _ _ | exact rb_add _ _ _ _ _ _ _)) ?_
    refine Head.v hF rfl rfl rfl (opV_assign rfl rfl) ?_
    refine Head.last ⟨rfl, ?_⟩
    simp only [List.drop_succ_cons, List.drop_zero, List.drop_nil, List.nil_append, List.cons_append]
    refine SmG.nil ?_
    refine nextS_normal ?_
    refine Sm.seq ?_
    refine Sm.drawG hF (by kernel_rfl) rfl 30 (by kernel_rfl) (by kernel_rfl) ?_
    simp only [List.take_succ_cons, List.take_zero, List.take_nil]
    refine Head.v hF rfl rfl rfl (opV_indexAddr rfl rfl rfl (by simp (disch := omega) only [go_sem, Nat.reduceEqDiff, iteP, u32D, hk1, hw1, hkl, hwl] <;> rfl)) ?_
    refine Head.v hF rfl rfl rfl (opV_load rfl rfl (by simp (disch := omega) only [go_sem, Nat.reduceEqDiff, iteP, u32D, hk1, hw1, hkl, hwl] <;> rfl)) ?_
    refine Head.c hF rfl rfl (by kernel_rfl) rfl rfl rfl (turn_D 2 a rfl (by omega) G) ?_
    refine Head.v hF rfl rfl rfl (opV_indexAddr rfl rfl rfl (by simp (disch := omega) only [go_sem, Nat.reduceEqDiff, iteP, u32D, hk1, hw1, hkl, hwl] <;> rfl)) ?_
    refine Head.v hF rfl rfl rfl (opV_load rfl rfl (by simp (disch := omega) only [go_sem, Nat.reduceEqDiff, iteP, u32D, hk1, hw1, hkl, hwl] <;> rfl)) ?_
    refine Head.c hF rfl rfl (by kernel_rfl) rfl rfl rfl (turn_D 13 a rfl (by omega) G) ?_
    refine Head.v hF rfl rfl rfl (opV_bin rfl rfl rfl (by first | exact rw_xor _ _ _ _ _ _ | exact rb_xor _ _ _ _ _ _ _)) ?_
    refine Head.v hF rfl rfl rfl (opV_indexAddr rfl rfl rfl (by simp (disch := omega) only [go_sem, Nat.reduceEqDiff, iteP, u32D, hk1, hw1, hkl, hwl] <;> rfl)) ?_
    refine Head.v hF rfl rfl rfl (opV_load rfl rfl (by simp (disch := omega) only [go_sem, Nat.reduceEqDiff, iteP, u32D, hk1, hw1, hkl, hwl] <;> rfl)) ?_
    refine Head.c hF rfl rfl (by kernel_rfl) rfl rfl rfl (turn_D 22 a rfl (by omega) G) ?_
    refine Head.v hF rfl rfl rfl (opV_bin rfl rfl rfl (by first | exact rw_xor _ _ _ _ _ _ | exact rb_xor _ _ _ _ _ _ _)) ?_
    refine Head.v hF rfl rfl rfl (opV_indexAddr rfl rfl rfl (by simp (disch := omega) only [go_sem, Nat.reduceEqDiff, iteP, u32D, hk1, hw1, hkl, hwl] <;> rfl)) ?_
    refine Head.v hF rfl rfl rfl (opV_load rfl rfl (by simp (disch := omega) only [go_sem, Nat.reduceEqDiff, iteP, u32D, hk1, hw1, hkl, hwl] <;> rfl)) ?_
    refine Head.v hF rfl rfl rfl (opV_indexAddr rfl rfl rfl (by simp (disch := omega) only [go_sem, Nat.reduceEqDiff, iteP, u32D, hk1, hw1, hkl, hwl] <;> rfl)) ?_
    refine Head.v hF rfl rfl rfl (opV_load rfl rfl (by simp (disch := omega) only [go_sem, Nat.reduceEqDiff, iteP, u32D, hk1, hw1, hkl, hwl] <;> rfl)) ?_
    refine Head.v hF rfl rfl rfl (opV_bin rfl rfl rfl (by first | exact rw_and _ _ _ _ _ _ | exact rb_and _ _ _ _ _ _ _)) ?_
    refine Head.v hF rfl rfl rfl (opV_indexAddr rfl rfl rfl (by simp (disch := omega) only [go_sem, Nat.reduceEqDiff, iteP, u32D, hk1, hw1, hkl, hwl] <;> rfl)) ?_
    refine Head.v hF rfl rfl rfl (opV_load rfl rfl (by simp (disch := omega) only [go_sem, Nat.reduceEqDiff, iteP, u32D, hk1, hw1, hkl, hwl] <;> rfl)) ?_
    refine Head.v hF rfl rfl rfl (opV_indexAddr rfl rfl rfl (by simp (disch := omega) only [go_sem, Nat.reduceEqDiff, iteP, u32D, hk1, hw1, hkl, hwl] <;> rfl)) ?_
    refine Head.v hF rfl rfl rfl (opV_load rfl rfl (by simp (disch := omega) only [go_sem, Nat.reduceEqDiff, iteP, u32D, hk1, hw1, hkl, hwl] <;> rfl)) ?_
    refine Head.v hF rfl rfl rfl (opV_bin rfl rfl rfl (by first | exact rw_and _ _ _ _ _ _ | exact rb_and _ _ _ _ _ _ _)) ?_
    refine Head.v hF rfl rfl rfl (opV_bin rfl rfl rfl (by first | exact rw_xor _ _ _ _ _ _ | exact rb_xor _ _ _ _ _ _ _)) ?_
    refine Head.v hF rfl rfl rfl (opV_indexAddr rfl rfl rfl (by simp (disch := omega) only [go_sem, Nat.reduceEqDiff, iteP, u32D, hk1, hw1, hkl, hwl] <;> rfl)) ?_
    refine Head.v hF rfl rfl rfl (opV_load rfl rfl (by simp (disch := omega) only [go_sem, Nat.reduceEqDiff, iteP, u32D, hk1, hw1, hkl, hwl] <;> rfl)) ?_
    refine Head.v hF rfl rfl rfl (opV_indexAddr rfl rfl rfl (by simp (disch := omega) only [go_sem, Nat.reduceEqDiff, iteP, u32D, hk1, hw1, hkl, hwl] <;> rfl)) ?_
    refine Head.v hF rfl rfl rfl (opV_load rfl rfl (by simp (disch := omega) only [go_sem, Nat.reduceEqDiff, iteP, u32D, hk1, hw1, hkl, hwl] <;> rfl)) ?_
    refine Head.v hF rfl rfl rfl (opV_bin rfl rfl rfl (by first | exact rw_and _ _ _ _ _ _ | exact rb_and _ _ _ _ _ _ _)) ?_
    refine Head.v hF rfl rfl rfl (opV_bin rfl rfl rfl (by first | exact rw_xor _ _ _ _ _ _ | exact rb_xor _ _ _ _ _ _ _)) ?_
    refine Head.v hF rfl rfl rfl (opV_bin rfl rfl rfl (by first | exact rw_add _ _ _ _ _ _ | exact rb_add _ _ _ _ _ _ _)) ?_
    refine Head.v hF rfl rfl rfl (opV_assign rfl rfl) ?_
    refine Head.last ⟨rfl, ?_⟩
    simp only [List.drop_succ_cons, List.drop_zero, List.drop_nil, List.nil_append, List.cons_append]
    refine SmG.nil ?_
    refine nextS_normal ?_
    refine Sm.regionG hF rfl ?_
    refine SmG.v hF rfl rfl rfl (opV_move rfl rfl) ?_
    refine SmG.v hF rfl rfl rfl (opV_move rfl rfl) ?_
    refine SmG.v hF rfl rfl rfl (opV_bin rfl rfl rfl (by first | exact rw_add _ _ _ _ _ _ | exact rb_add _ _ _ _ _ _ _)) ?_
    refine SmG.v hF rfl rfl rfl (opV_indexAddr rfl rfl rfl (by simp (disch := omega) only [go_sem, Nat.reduceEqDiff, iteP, u32D, hk1, hw1, hkl, hwl] <;> rfl)) ?_
    refine SmG.v hF rfl rfl rfl (opV_load rfl rfl (by simp (disch := omega) only [go_sem, Nat.reduceEqDiff, iteP, u32D, hk1, hw1, hkl, hwl] <;> rfl)) ?_
    refine SmG.v hF rfl rfl rfl (opV_indexAddr rfl rfl rfl (by simp (disch := omega) only [go_sem, Nat.reduceEqDiff, iteP, u32D, hk1, hw1, hkl, hwl] <;> rfl)) ?_
    refine SmG.v hF rfl rfl rfl (opV_load rfl rfl (by simp (disch := omega) only [go_sem, Nat.reduceEqDiff, iteP, u32D, hk1, hw1, hkl, hwl] <;> rfl)) ?_
    refine SmG.v hF rfl rfl rfl (opV_indexAddr rfl rfl rfl (by simp (disch := omega) only [go_sem, Nat.reduceEqDiff, iteP, u32D, hk1, hw1, hkl, hwl] <;> rfl)) ?_
    refine SmG.v hF rfl rfl rfl (opV_load rfl rfl (by simp (disch := omega) only [go_sem, Nat.reduceEqDiff, iteP, u32D, hk1, hw1, hkl, hwl] <;> rfl)) ?_
    refine SmG.v hF rfl rfl rfl (opV_indexAddr rfl rfl rfl (by simp (disch := omega) only [go_sem, Nat.reduceEqDiff, iteP, u32D, hk1, hw1, hkl, hwl] <;> rfl)) ?_
    refine SmG.v hF rfl rfl rfl (opV_load rfl rfl (by simp (disch := omega) only [go_sem, Nat.reduceEqDiff, iteP, u32D, hk1, hw1, hkl, hwl] <;> rfl)) ?_
    refine SmG.v hF rfl rfl rfl (opV_move rfl rfl) ?_
    refine SmG.v hF rfl rfl rfl (opV_bin rfl rfl rfl (by first | exact rw_add _ _ _ _ _ _ | exact rb_add _ _ _ _ _ _ _)) ?_
    refine SmG.v hF rfl rfl rfl (opV_indexAddr rfl rfl rfl (by simp (disch := omega) only [go_sem, Nat.reduceEqDiff, iteP, u32D, hk1, hw1, hkl, hwl] <;> rfl)) ?_
    refine SmG.v hF rfl rfl rfl (opV_load rfl rfl (by simp (disch := omega) only [go_sem, Nat.reduceEqDiff, iteP, u32D, hk1, hw1, hkl, hwl] <;> rfl)) ?_
    refine SmG.v hF rfl rfl rfl (opV_indexAddr rfl rfl rfl (by simp (disch := omega) only [go_sem, Nat.reduceEqDiff, iteP, u32D, hk1, hw1, hkl, hwl] <;> rfl)) ?_
    refine SmG.v hF rfl rfl rfl (opV_load rfl rfl (by simp (disch := omega) only [go_sem, Nat.reduceEqDiff, iteP, u32D, hk1, hw1, hkl, hwl] <;> rfl)) ?_
    refine SmG.v hF rfl rfl rfl (opV_indexAddr rfl rfl rfl (by simp (disch := omega) only [go_sem, Nat.reduceEqDiff, iteP, u32D, hk1, hw1, hkl, hwl] <;> rfl)) ?_
    refine SmG.v hF rfl rfl rfl (opV_load rfl rfl (by simp (disch := omega) only [go_sem, Nat.reduceEqDiff, iteP, u32D, hk1, hw1, hkl, hwl] <;> rfl)) ?_
    refine SmG.v hF rfl rfl rfl (opV_buildA rfl Tryd.underlying57 rfl (build_eight _ _ _ _ _ _ _ _)) ?_
    refine SmG.store hF rfl rfl rfl rfl rfl (by simp (disch := omega) only [go_sem, Nat.reduceEqDiff, iteP, u32D, hk1, hw1, hkl, hwl] <;> rfl) ?_
    refine SmG.nil ?_
    refine blockS_normal ?_
    refine nextS_normal ?_
    refine Sm.regionG hF rfl ?_
    refine SmG.v hF rfl rfl rfl (opV_move rfl rfl) ?_
    refine SmG.v hF rfl rfl rfl (opV_bin rfl rfl rfl (by first | exact rd_add _ _ _ _ _ (wrapI64 _ (by omega)) | exact rb_add _ _ _ _ _ _ _)) ?_
    refine SmG.v hF rfl rfl rfl (opV_assign rfl rfl) ?_
    refine SmG.nil ?_
    refine nextS_normal ?_
    exact ⟨⟨t + 1, by omega⟩, by show 64 - (t + 1) < 64 - t; omega, by exact St.le_of (by first | (simp [leE, look, constD] <;> omega) | (simp [leE, look, constD, hrow, List.map_cons, List.map_nil] <;> omega)) (by simp only [leH, look, rep, reduceIte, Nat.reduceEqDiff, List.set_cons_zero, List.set_cons_succ, hrow, List.map_cons, List.map_nil, and_self, and_true, and_false, false_and, if_true, if_false] <;> (repeat' first | rfl | constructor)) (by first | exact Nat.le_refl _ | (dsimp only; omega))⟩

  · obtain rfl : t = 64 := by omega
    have hcl : (Sha.rounds W S 64).list.length = 8 := rfl
    have hpl : (Sha.after S b).list = List.zipWith (· + ·) (Sha.rounds W S 64).list S.list := by rw [haf]; rfl
    generalize (Sha.rounds W S 64).list = C at hcl hpl ⊢
    generalize S.list = L at hSl hpl hSS ⊢
    refine Sm.seq ?_
    refine Sm.seq ?_
    refine Sm.regionG hF rfl ?_
    refine SmG.v hF rfl rfl rfl (opV_move rfl rfl) ?_
    refine SmG.v hF rfl rfl rfl (opV_bin rfl rfl rfl (by first | exact rd_lssT _ _ _ _ _ (by omega) | exact rd_lssF _ _ _ _ _ (by omega) | exact rb_lss _ _ _ _ _ _ _)) ?_
    refine SmG.nil ?_
    refine nextS_normal ?_
    refine Sm.condF hF rfl ?_
    refine Sm.exit ?_
    simp only [nextS, blockS, reduceIte, reduceCtorEq]
    refine Sm.seq ?_
    refine Sm.seq ?_
    refine Sm.regionG hF rfl ?_
    refine SmG.v hF rfl rfl rfl (opV_assign rfl rfl) ?_
    refine SmG.nil ?_
    refine nextS_normal ?_
    refine Sm.block ?_
    refine Sm.loop (ι := {i : Nat // i ≤ 8}) (fun i => ⟨[(2, .ref 0 0 0), (4, .ref 1 0 0), (7, .ref 4 0 0), (11, .d (.v (.int .i64 i.1)))], [(4, dW 8 (addTo C L i.1)), (1, dW 8 (List.replicate 8 0)), (0, dW 8 L)], 5⟩) (fun i => 8 - i.1) (⟨0, by omega⟩) ?_ ?_
    · exact St.le_of (by first | (simp [leE, look, constD] <;> omega) | (simp [leE, look, constD, addTo_zero] <;> omega)) (by simp only [leH, look, rep, reduceIte, Nat.reduceEqDiff, List.set_cons_zero, List.set_cons_succ, addTo_zero, and_self, and_true, and_false, false_and, if_true, if_false] <;> (repeat' first | rfl | constructor)) (by first | exact Nat.le_refl _ | (dsimp only; omega))
    rintro ⟨i, hi⟩
    simp only

    by_cases hlt : i < 8
    · have h1 := addTo_get C L i (by omega) (by omega)
      have h2 := get_word L i (by omega)
      have hst := set_word' (addTo C L i) i (C.getD i 0 + L.getD i 0)
      rw [addTo_set C L i (by omega) (by omega)] at hst
      generalize C.getD i 0 = x at h1 hst
      generalize L.getD i 0 = y at h2 hst

      refine Sm.seq ?_
      refine Sm.seq ?_
      refine Sm.regionG hF rfl ?_
      refine SmG.v hF rfl rfl rfl (opV_move rfl rfl) ?_
      refine SmG.v hF rfl rfl rfl (opV_bin rfl rfl rfl (by first | exact rd_lssT _ _ _ _ _ (by omega) | exact rd_lssF _ _ _ _ _ (by omega) | exact rb_lss _ _ _ _ _ _ _)) ?_
      refine SmG.nil ?_
      refine nextS_normal ?_
      refine Sm.condT hF rfl ?_
      refine Sm.skip ?_
      refine nextS_normal ?_
      refine Sm.seq ?_
      refine Sm.block ?_
      refine Sm.drawG hF (by kernel_rfl) rfl 8 (by kernel_rfl) (by kernel_rfl) ?_
      simp only [List.take_succ_cons, List.take_zero, List.take_nil]
      refine Head.v hF rfl rfl rfl (opV_move rfl rfl) ?_
      refine Head.v hF rfl rfl rfl (opV_indexAddr rfl rfl rfl (by simp (disch := omega) only [go_sem, Nat.reduceEqDiff, iteP, u32D, h1, h2] <;> rfl)) ?_
      refine Head.v hF rfl rfl rfl (opV_load rfl rfl (by simp (disch := omega) only [go_sem, Nat.reduceEqDiff, iteP, u32D, h1, h2] <;> rfl)) ?_
      refine Head.v hF rfl rfl rfl (opV_move rfl rfl) ?_
      refine Head.v hF rfl rfl rfl (opV_indexAddr rfl rfl rfl (by simp (disch := omega) only [go_sem, Nat.reduceEqDiff, iteP, u32D, h1, h2] <;> rfl)) ?_
      refine Head.v hF rfl rfl rfl (opV_load rfl rfl (by simp (disch := omega) only [go_sem, Nat.reduceEqDiff, iteP, u32D, h1, h2] <;> rfl)) ?_
      refine Head.v hF rfl rfl rfl (opV_bin rfl rfl rfl (by first | exact rw_add _ _ _ _ _ _ | exact rb_add _ _ _ _ _ _ _)) ?_
      refine Head.v hF rfl rfl rfl (opV_indexAddr rfl rfl rfl (by simp (disch := omega) only [go_sem, Nat.reduceEqDiff, iteP, u32D, h1, h2] <;> rfl)) ?_
      refine Head.last ⟨rfl, ?_⟩
      simp only [List.drop_succ_cons, List.drop_zero, List.drop_nil, List.nil_append, List.cons_append]
      refine SmG.store hF rfl rfl rfl rfl rfl (by simp (disch := omega) only [go_sem, Nat.reduceEqDiff, iteP, u32D, h1, h2] <;> rfl) ?_
      refine SmG.nil ?_
      refine blockS_normal ?_
      refine nextS_normal ?_
      refine Sm.regionG hF rfl ?_
      refine SmG.v hF rfl rfl rfl (opV_move rfl rfl) ?_
      refine SmG.v hF rfl rfl rfl (opV_bin rfl rfl rfl (by first | exact rd_add _ _ _ _ _ (wrapI64 _ (by omega)) | exact rb_add _ _ _ _ _ _ _)) ?_
      refine SmG.v hF rfl rfl rfl (opV_assign rfl rfl) ?_
      refine SmG.nil ?_
      refine nextS_normal ?_
      exact ⟨⟨i + 1, by omega⟩, by show 8 - (i + 1) < 8 - i; omega, by exact St.le_of (by first | (simp [leE, look, constD] <;> omega) | (simp [leE, look, constD, hst] <;> omega)) (by simp only [leH, look, rep, reduceIte, Nat.reduceEqDiff, List.set_cons_zero, List.set_cons_succ, hst, and_self, and_true, and_false, false_and, if_true, if_false] <;> (repeat' first | rfl | constructor)) (by first | exact Nat.le_refl _ | (dsimp only; omega))⟩

    · obtain rfl : i = 8 := by omega
      have hall := addTo_all C L (by omega)
      rw [hcl] at hall
      have hll : (List.map u32D (addTo C L 8)).length = 8 := by rw [hall]; simp [hcl, hSl]
      refine Sm.seq ?_
      refine Sm.seq ?_
      refine Sm.regionG hF rfl ?_
      refine SmG.v hF rfl rfl rfl (opV_move rfl rfl) ?_
      refine SmG.v hF rfl rfl rfl (opV_bin rfl rfl rfl (by first | exact rd_lssT _ _ _ _ _ (by omega) | exact rd_lssF _ _ _ _ _ (by omega) | exact rb_lss _ _ _ _ _ _ _)) ?_
      refine SmG.nil ?_
      refine nextS_normal ?_
      refine Sm.condF hF rfl ?_
      refine Sm.exit ?_
      simp only [nextS, blockS, reduceIte, reduceCtorEq]
      refine Sm.seq ?_
      refine Sm.regionG hF rfl ?_
      refine SmG.v hF rfl rfl rfl (opV_load rfl rfl (by simp (disch := omega) only [go_sem, Nat.reduceEqDiff, iteP, u32D, hll] <;> rfl)) ?_
      refine SmG.store hF rfl rfl rfl rfl rfl (by simp (disch := omega) only [go_sem, Nat.reduceEqDiff, iteP, u32D, hll] <;> rfl) ?_
      refine SmG.nil ?_
      refine nextS_normal ?_
      refine Sm.ret ?_
      refine retQ_cell rfl rfl (by simp (disch := omega) only [go_sem, Nat.reduceEqDiff, iteP, hll] <;> rfl) ?_
      rw [hall, ← hpl]; exact D.le.refl _
end Go.Proofs.YtmindblfbijaaaaDoor
namespace Go.Proofs.YtmindblfbijaaaaDoor
open Go.RowKit
set_option maxRecDepth 100000
theorem conv_u8 {P : Program} {s d : TypeId} {td : TypeDesc} {k2 : IntKind} (z : Nat) (h1 : P.underlying s = some td) (h2 : P.underlying d = some (.int .u8)) : convS P s d (.d (.v (.int k2 (z : Int)))) = some (.d (byteD (UInt8.ofNat z))) := by
  simp only [convS, rc_int P .u8 z s d h1 h2 k2, Option.map_some, byteD]
  have : IntKind.u8.wrap (z : Int) = ((UInt8.ofNat z).toNat : Int) := by
    rw [IntKind.wrap_u8']
    simp
  rw [this]
theorem rowB_one (l : List UInt8) (b : UInt8) : List.map rowB l ++ [[byteD b]] = List.map rowB (l ++ [b]) := by simp [rowB]
theorem len_bytes (n i : Nat) (h : i < 8) : (Sha.lenBytes n).take i ++ [UInt8.ofNat (8 * n / 2 ^ (56 - 8 * i))] = (Sha.lenBytes n).take (i + 1) := (Sha.lenBytes_take n i h).symm
theorem shr64 (P : Program) (t : TypeId) (x y : Operand) (a n : Nat) {b : Int} (k2 : IntKind) (hb : b = (n : Int)) (hn : n ≤ 64) : reck P (do eqGuard .shr t x y (.int .u64 a) (.int k2 b); binOp .shr t (.int .u64 a) (.int k2 b)) = some (.int .u64 ((a / 2 ^ n : Nat) : Int)) := by
  rw [rb_shr P t x y .u64 a b k2 (by omega)]
  subst hb
  have : min ((n : Int).toNat) IntKind.u64.bits = n := by show min _ 64 = n; omega
  rw [this, Int.fdiv_eq_ediv_of_nonneg _ (Int.le_of_lt (Int.pow_pos (by omega)))]
  norm_cast

theorem blocks_D (b : List UInt8) (hb : b.length ≤ 1000000) (G : Nat → Option D) : CallsD Tryd.prog G 32 [bytesL b] (bytesL (Sha.padded b)) := by
  have hpad : Sha.padded b = b ++ [128] ++ List.replicate (Sha.zeros b.length) 0 ++ Sha.lenBytes b.length := rfl
  have hz : Sha.zeros b.length < 64 := by unfold Sha.zeros; omega
  have hzt := fun j => Sha.zeros_test b.length j
  have hze := Sha.zeros_end b.length
  generalize Sha.zeros b.length = z at hpad hz hzt hze
  refine CallsD.of Tryd.func32 rfl Tryd.ntmps32 (by simp) ?_; intro F hF; simp only [List.zipIdx_cons, List.zipIdx_nil, List.map_cons, List.map_nil, Nat.zero_add, Nat.reduceAdd]
  refine Sm.seq ?_
  refine Sm.regionG hF rfl ?_
  refine SmG.v hF rfl rfl rfl (opV_assign rfl rfl) ?_
  refine SmG.nil ?_
  refine nextS_normal ?_
  refine Sm.seq ?_
  refine Sm.regionG hF rfl ?_
  refine SmG.v hF rfl rfl rfl (opV_buildSlice rfl rfl (by simp (disch := omega) only [go_sem, Nat.reduceEqDiff, iteP, bytesL, rowB] <;> rfl)) ?_
  refine SmG.v hF rfl rfl rfl (opV_move rfl rfl) ?_
  -- stands at 8 of region 1: {"dst": 8, "op": "call", "a": [{"callee": ["builtin", "Callee.builtin Builtin.append"], "args": [["tmp", 6], ["tmp", 7]], "types": [22, 22]}], "ty": 2
  refine SmG.appendFresh hF elU8 rfl rfl rfl rfl rfl rfl (Or.inl rfl) (by simp only [List.length_map]; omega) (by simp only [List.length_map]; omega) ?_
  refine SmG.v hF rfl rfl rfl (opV_assign rfl rfl) ?_
  refine SmG.nil ?_
  refine nextS_normal ?_
  refine Sm.seq ?_
  refine Sm.regionG hF rfl ?_
  refine SmG.v hF rfl rfl rfl (opV_move rfl rfl) ?_
  refine SmG.v hF rfl rfl rfl (opV_buildSlice rfl rfl (by simp (disch := omega) only [go_sem, Nat.reduceEqDiff, iteP, bytesL, rowB] <;> rfl)) ?_
  -- stands at 11 of region 2: {"dst": 11, "op": "call", "a": [{"callee": ["builtin", "Callee.builtin Builtin.append"], "args": [["tmp", 9], ["tmp", 10]], "types": [22, 22]}], "ty":
  refine SmG.appendOwn hF elU8 rfl rfl rfl rfl rfl rfl rfl (by first | rfl | (simp; done) | (simp; omega)) (Or.inl rfl) (by (repeat' first | exact freeH_nil _ | refine freeH_same ?_ | refine freeH_cons ?_ (free_dB _ _ _) | refine freeH_cons ?_ (free_dB _ _ [_]) | refine freeH_cons ?_ (free_row (by rfl)))) ?_ ?_ ?_; rotate_left; rotate_left; simp only [killV, Pk.v, V.free, rep, bne_self_eq_false, Nat.reduceAdd, Nat.reduceBNe, Nat.reduceBEq, Nat.reduceEqDiff, reduceIte, Bool.false_eq_true]
  rotate_left
  · simp only [List.length_map, List.length_cons, List.length_nil]; omega
  · simp only [List.length_map, List.length_cons, List.length_nil]; omega
  refine SmG.v hF rfl rfl rfl (opV_assign rfl rfl) ?_
  refine SmG.nil ?_
  refine nextS_normal ?_
  refine Sm.seq ?_
  refine Sm.block ?_
  refine Sm.loop (ι := {j : Nat // j ≤ z}) (fun j => ⟨[(0, .d (bytesL b)), (3, .sref 0 0 ((b ++ [128] ++ List.replicate j.1 0).map rowB).length)], [(0, dB 1 ((b ++ [128] ++ List.replicate j.1 0).map rowB))], 1⟩) (fun j => z - j.1) (⟨0, by omega⟩) ?_ ?_
  · have h0 : List.map rowB b ++ [[D.v (.int .u8 128)]] = List.map rowB (b ++ [128] ++ List.replicate 0 0) := by
      rw [List.replicate_zero, List.append_nil, ← rowB_one]; rfl
    exact St.le_of (by first | (simp [leE, look, constD] <;> omega) | (simp [leE, look, constD, h0] <;> omega)) (by simp only [leH, look, rep, reduceIte, Nat.reduceEqDiff, List.set_cons_zero, List.set_cons_succ, h0, and_self, and_true, and_false, false_and, if_true, if_false] <;> (repeat' first | rfl | constructor)) (by first | exact Nat.le_refl _ | (dsimp only; omega))
  rintro ⟨j, hj⟩
  simp only

  by_cases hlt : j < z
  · have hzj := hzt j hlt
    have hrow : List.map rowB (b ++ [128] ++ List.replicate j 0) ++ [[D.v (.int .u8 0)]] = List.map rowB (b ++ [128] ++ List.replicate (j + 1) 0) := by
      rw [List.replicate_succ', ← List.append_assoc, ← rowB_one]; rfl

    refine Sm.seq ?_
    refine Sm.seq ?_
    refine Sm.regionG hF rfl ?_
    refine SmG.v hF rfl rfl rfl (opV_move rfl rfl) ?_
    refine SmG.v hF rfl rfl rfl (opV_len rfl rfl (by simp (disch := omega) only [go_sem, Nat.reduceEqDiff, iteP, bytesL, rowB, List.length_append, List.length_cons, List.length_nil, List.length_replicate] <;> rfl)) ?_
    refine SmG.v hF rfl rfl rfl (opV_bin rfl rfl rfl (by first | exact rd_add _ _ _ _ _ (wrapI64 _ (by omega)) | exact rb_add _ _ _ _ _ _ _)) ?_
    refine SmG.v hF rfl rfl rfl (opV_bin rfl rfl rfl (by first | exact rd_rem _ _ _ _ _ (by omega) (by omega) | exact rb_rem _ _ _ _ _ _ _ (by omega))) ?_
    refine SmG.v hF rfl rfl rfl (opV_bin rfl rfl rfl (by first | exact rd_neqT _ _ _ _ _ (by omega) | exact rd_neqF _ _ _ _ _ (by omega) | exact rb_neq _ _ _ _ _ _ _)) ?_
    refine SmG.nil ?_
    refine nextS_normal ?_
    refine Sm.condT hF rfl ?_
    refine Sm.skip ?_
    refine nextS_normal ?_
    refine Sm.block ?_
    refine Sm.regionG hF rfl ?_
    refine SmG.v hF rfl rfl rfl (opV_move rfl rfl) ?_
    refine SmG.v hF rfl rfl rfl (opV_buildSlice rfl rfl (by simp (disch := omega) only [go_sem, Nat.reduceEqDiff, iteP, bytesL, rowB, List.length_append, List.length_cons, List.length_nil, List.length_replicate] <;> rfl)) ?_
    -- stands at 19 of region 4: {"dst": 19, "op": "call", "a": [{"callee": ["builtin", "Callee.builtin Builtin.append"], "args": [["tmp", 17], ["tmp", 18]], "types": [22, 22]}], "ty"
    refine SmG.appendOwn hF elU8 rfl rfl rfl rfl rfl rfl rfl (by first | rfl | (simp; done) | (simp; omega)) (Or.inl rfl) (by (repeat' first | exact freeH_nil _ | refine freeH_same ?_ | refine freeH_cons ?_ (free_dB _ _ _) | refine freeH_cons ?_ (free_dB _ _ [_]) | refine freeH_cons ?_ (free_row (by rfl)))) ?_ ?_ ?_; rotate_left; rotate_left; simp only [killV, Pk.v, V.free, rep, bne_self_eq_false, Nat.reduceAdd, Nat.reduceBNe, Nat.reduceBEq, Nat.reduceEqDiff, reduceIte, Bool.false_eq_true]
    rotate_left
    · simp only [List.length_map, List.length_append, List.length_cons, List.length_nil, List.length_replicate]; omega
    · simp only [List.length_map, List.length_append, List.length_cons, List.length_nil, List.length_replicate]; omega
    refine SmG.v hF rfl rfl rfl (opV_assign rfl rfl) ?_
    refine SmG.nil ?_
    refine blockS_normal ?_
    refine nextS_normal ?_
    exact ⟨⟨j + 1, by omega⟩, by show z - (j + 1) < z - j; omega, by exact St.le_of (by first | (simp [leE, look, constD] <;> omega) | (simp [leE, look, constD, hrow] <;> omega)) (by simp only [leH, look, rep, reduceIte, Nat.reduceEqDiff, List.set_cons_zero, List.set_cons_succ, hrow, and_self, and_true, and_false, false_and, if_true, if_false] <;> (repeat' first | rfl | constructor)) (by first | exact Nat.le_refl _ | (dsimp only; omega))⟩

  · obtain rfl : j = z := by omega
    refine Sm.seq ?_
    refine Sm.seq ?_
    refine Sm.regionG hF rfl ?_
    refine SmG.v hF rfl rfl rfl (opV_move rfl rfl) ?_
    refine SmG.v hF rfl rfl rfl (opV_len rfl rfl (by simp (disch := omega) only [go_sem, Nat.reduceEqDiff, iteP, bytesL, rowB, List.length_append, List.length_cons, List.length_nil, List.length_replicate] <;> rfl)) ?_
    refine SmG.v hF rfl rfl rfl (opV_bin rfl rfl rfl (by first | exact rd_add _ _ _ _ _ (wrapI64 _ (by omega)) | exact rb_add _ _ _ _ _ _ _)) ?_
    refine SmG.v hF rfl rfl rfl (opV_bin rfl rfl rfl (by first | exact rd_rem _ _ _ _ _ (by omega) (by omega) | exact rb_rem _ _ _ _ _ _ _ (by omega))) ?_
    refine SmG.v hF rfl rfl rfl (opV_bin rfl rfl rfl (by first | exact rd_neqT _ _ _ _ _ (by omega) | exact rd_neqF _ _ _ _ _ (by omega) | exact rb_neq _ _ _ _ _ _ _)) ?_
    refine SmG.nil ?_
    refine nextS_normal ?_
    refine Sm.condF hF rfl ?_
    refine Sm.exit ?_
    simp only [nextS, blockS, reduceIte, reduceCtorEq]
    refine Sm.seq ?_
    refine Sm.regionG hF rfl ?_
    refine SmG.v hF rfl rfl rfl (opV_move rfl rfl) ?_
    refine SmG.v hF rfl rfl rfl (opV_len rfl rfl (by simp (disch := omega) only [go_sem, Nat.reduceEqDiff, iteP, bytesL, rowB, List.length_append, List.length_cons, List.length_nil, List.length_replicate] <;> rfl)) ?_
    refine SmG.v hF rfl rfl rfl (opV_conv rfl rfl (by first | exact convS_int rfl rfl (wrapU64 _ (by omega)) | (simp (disch := omega) only [go_sem, bytesL, rowB, List.length_append, List.length_cons, List.length_nil, List.length_replicate] <;> rfl))) ?_
    refine SmG.v hF rfl rfl rfl (opV_bin rfl rfl rfl (by first | exact rd_mul _ _ _ _ _ (wrapU64 _ (by omega)) | exact rb_mul _ _ _ _ _ _ _)) ?_
    refine SmG.v hF rfl rfl rfl (opV_assign rfl rfl) ?_
    refine SmG.nil ?_
    refine nextS_normal ?_
    refine Sm.seq ?_
    refine Sm.seq ?_
    refine Sm.regionG hF rfl ?_
    refine SmG.v hF rfl rfl rfl (opV_assign rfl rfl) ?_
    refine SmG.nil ?_
    refine nextS_normal ?_
    refine Sm.block ?_
    refine Sm.loop (ι := {i : Nat // i ≤ 8}) (fun i => ⟨[(3, .sref 0 0 ((b ++ [128] ++ List.replicate j 0 ++ (Sha.lenBytes b.length).take i.1).map rowB).length), (4, .d (.v (.int .u64 ((8 * b.length : Nat) : Int)))), (5, .d (.v (.int .i64 i.1)))], [(0, dB 1 ((b ++ [128] ++ List.replicate j 0 ++ (Sha.lenBytes b.length).take i.1).map rowB))], 1⟩) (fun i => 8 - i.1) (⟨0, by omega⟩) ?_ ?_
    · exact St.le_of (by first | (simp [leE, look, constD] <;> omega) | (simp [leE, look, constD, List.take_zero, List.append_nil] <;> omega)) (by simp only [leH, look, rep, reduceIte, Nat.reduceEqDiff, List.set_cons_zero, List.set_cons_succ, List.take_zero, List.append_nil, and_self, and_true, and_false, false_and, if_true, if_false] <;> (repeat' first | rfl | constructor)) (by first | exact Nat.le_refl _ | (dsimp only; omega))
    rintro ⟨i, hi⟩
    simp only

    have hll : (Sha.lenBytes b.length).length = 8 := by simp [Sha.lenBytes]
    by_cases hlt : i < 8
    · have hrow : List.map rowB (b ++ [128] ++ List.replicate j 0 ++ (Sha.lenBytes b.length).take i) ++ [[D.v (.int .u8 ((UInt8.ofNat (8 * b.length / 2 ^ (56 - 8 * i))).toNat : Int))]] = List.map rowB (b ++ [128] ++ List.replicate j 0 ++ (Sha.lenBytes b.length).take (i + 1)) := by
        show _ ++ [[byteD _]] = _
        rw [rowB_one, List.append_assoc, len_bytes _ _ hlt]

      refine Sm.seq ?_
      refine Sm.seq ?_
      refine Sm.regionG hF rfl ?_
      refine SmG.v hF rfl rfl rfl (opV_move rfl rfl) ?_
      refine SmG.v hF rfl rfl rfl (opV_bin rfl rfl rfl (by first | exact rd_lssT _ _ _ _ _ (by omega) | exact rd_lssF _ _ _ _ _ (by omega) | exact rb_lss _ _ _ _ _ _ _)) ?_
      refine SmG.nil ?_
      refine nextS_normal ?_
      refine Sm.condT hF rfl ?_
      refine Sm.skip ?_
      refine nextS_normal ?_
      refine Sm.seq ?_
      refine Sm.block ?_
      refine Sm.regionG hF rfl ?_
      refine SmG.v hF rfl rfl rfl (opV_move rfl rfl) ?_
      refine SmG.v hF rfl rfl rfl (opV_move rfl rfl) ?_
      refine SmG.v hF rfl rfl rfl (opV_move rfl rfl) ?_
      refine SmG.v hF rfl rfl rfl (opV_bin rfl rfl rfl (by first | exact rd_mul _ _ _ _ _ (wrapI64 _ (by omega)) | exact rb_mul _ _ _ _ _ _ _)) ?_
      refine SmG.v hF rfl rfl rfl (opV_bin rfl rfl rfl (by first | exact rd_sub _ _ _ _ _ (wrapI64 _ (by omega)) | exact rb_sub _ _ _ _ _ _ _)) ?_
      refine SmG.v hF rfl rfl rfl (opV_bin rfl rfl rfl (shr64 _ _ _ _ (8 * b.length) (56 - 8 * i) _ (by omega) (by omega))) ?_
      refine SmG.v hF rfl rfl rfl (opV_conv rfl rfl (conv_u8 _ Tryd.underlying55 Tryd.underlying5)) ?_
      refine SmG.v hF rfl rfl rfl (opV_buildSlice rfl rfl (by simp (disch := omega) only [go_sem, Nat.reduceEqDiff, iteP, bytesL, rowB, List.length_append, List.length_cons, List.length_nil, List.length_replicate] <;> rfl)) ?_
      -- stands at 36 of region 9: {"dst": 36, "op": "call", "a": [{"callee": ["builtin", "Callee.builtin Builtin.append"], "args": [["tmp", 28], ["tmp", 35]], "types": [22, 22]}], "ty"
      refine SmG.appendOwn hF elU8 rfl rfl rfl rfl rfl rfl rfl (by first | rfl | (simp; done) | (simp; omega)) (Or.inl rfl) (by (repeat' first | exact freeH_nil _ | refine freeH_same ?_ | refine freeH_cons ?_ (free_dB _ _ _) | refine freeH_cons ?_ (free_dB _ _ [_]) | refine freeH_cons ?_ (free_row (by rfl)))) ?_ ?_ ?_; rotate_left; rotate_left; simp only [killV, Pk.v, V.free, rep, bne_self_eq_false, Nat.reduceAdd, Nat.reduceBNe, Nat.reduceBEq, Nat.reduceEqDiff, reduceIte, Bool.false_eq_true]
      rotate_left
      · simp only [List.length_map, List.length_append, List.length_cons, List.length_nil, List.length_replicate, List.length_take]; omega
      · simp only [List.length_map, List.length_append, List.length_cons, List.length_nil, List.length_replicate, List.length_take]; omega
      refine SmG.v hF rfl rfl rfl (opV_assign rfl rfl) ?_
      refine SmG.nil ?_
      refine blockS_normal ?_
      refine nextS_normal ?_
      refine Sm.regionG hF rfl ?_
      refine SmG.v hF rfl rfl rfl (opV_move rfl rfl) ?_
      refine SmG.v hF rfl rfl rfl (opV_bin rfl rfl rfl (by first | exact rd_add _ _ _ _ _ (wrapI64 _ (by omega)) | exact rb_add _ _ _ _ _ _ _)) ?_
      refine SmG.v hF rfl rfl rfl (opV_assign rfl rfl) ?_
      refine SmG.nil ?_
      refine nextS_normal ?_
      exact ⟨⟨i + 1, by omega⟩, by show 8 - (i + 1) < 8 - i; omega, by exact St.le_of (by first | (simp [leE, look, constD] <;> omega) | (simp [leE, look, constD, hrow] <;> omega)) (by simp only [leH, look, rep, reduceIte, Nat.reduceEqDiff, List.set_cons_zero, List.set_cons_succ, hrow, and_self, and_true, and_false, false_and, if_true, if_false] <;> (repeat' first | rfl | constructor)) (by first | exact Nat.le_refl _ | (dsimp only; omega))⟩

    · obtain rfl : i = 8 := by omega
      refine Sm.seq ?_
      refine Sm.seq ?_
      refine Sm.regionG hF rfl ?_
      refine SmG.v hF rfl rfl rfl (opV_move rfl rfl) ?_
      refine SmG.v hF rfl rfl rfl (opV_bin rfl rfl rfl (by first | exact rd_lssT _ _ _ _ _ (by omega) | exact rd_lssF _ _ _ _ _ (by omega) | exact rb_lss _ _ _ _ _ _ _)) ?_
      refine SmG.nil ?_
      refine nextS_normal ?_
      refine Sm.condF hF rfl ?_
      refine Sm.freeze (l := 0) _ rfl ?_
      simp only [Pk.v, frzE, frzV, dropH, reduceIte, Nat.reduceAdd, Nat.zero_add, List.length_map, List.length_append, Nat.le_refl, true_and, and_self, if_true, Nat.reduceEqDiff, true_and]
      refine Sm.exit ?_
      simp only [nextS, blockS, reduceIte, reduceCtorEq]
      refine Sm.seq ?_
      refine Sm.regionG hF rfl ?_
      refine SmG.v hF rfl rfl rfl (opV_move rfl rfl) ?_
      refine SmG.v hF rfl rfl rfl (opV_assign rfl rfl) ?_
      refine SmG.nil ?_
      refine nextS_normal ?_
      refine Sm.ret ?_
      refine ⟨_, rfl, ?_⟩; dsimp only
      rw [List.take_of_length_le (by omega), ← hpad]; exact D.le.refl _
theorem chunk_map (all : List UInt8) (j : Nat) : List.drop (64 * j) (List.map rowB (List.take (64 * j + 64) all)) = List.map rowB ((all.drop (64 * j)).take 64) := by
  rw [← List.map_drop, List.drop_take]; congr 2; omega
theorem out_len (S : Sha.S8) (k : Nat) (h : k ≤ 32) : ((Sha.out S).take k ++ List.replicate (32 - k) 0).length = 32 := by
  simp [Sha.out_length]; omega

theorem refSum_D (b : List UInt8) (hb : b.length ≤ 1000000) (G : Nat → Option D) : CallsD Tryd.prog G 13 [bytesL b] (sumD (Sha.sum b)) := by
  have hmod := Sha.padded_mod b
  have hplen := Sha.padded_length b
  have hz : Sha.zeros b.length < 64 := by unfold Sha.zeros; omega
  have hS : Sha.sum b = Sha.out (Sha.over (Sha.padded b) ((Sha.padded b).length / 64)) := rfl
  refine CallsD.of Tryd.func13 rfl Tryd.ntmps13 (by simp) ?_; intro F hF; simp only [List.zipIdx_cons, List.zipIdx_nil, List.map_cons, List.map_nil, Nat.zero_add, Nat.reduceAdd]
  refine Sm.seq ?_
  refine Sm.regionG hF rfl ?_
  refine SmG.new hF rfl rfl rfl (opS_alloc rfl al28) ?_
  refine SmG.nil ?_
  refine nextS_normal ?_
  refine Sm.seq ?_
  refine Sm.regionG hF rfl ?_
  refine SmG.v hF rfl rfl rfl (opV_move rfl rfl) ?_
  refine SmG.call hF rfl rfl (by kernel_rfl) rfl rfl rfl (blocks_D b hb G) ?_
  refine SmG.v hF rfl rfl rfl (opV_assign rfl rfl) ?_
  refine SmG.nil ?_
  refine nextS_normal ?_
  refine Sm.seq ?_
  refine Sm.regionG hF rfl ?_
  refine SmG.call hF rfl rfl (by kernel_rfl) rfl rfl rfl (first_D G) ?_
  refine SmG.new hF rfl rfl rfl (opS_alloc rfl al57) ?_
  refine SmG.store hF rfl rfl rfl rfl rfl (by simp (disch := omega) only [go_sem, Nat.reduceEqDiff, iteP, u32D, sumD] <;> rfl) ?_
  refine SmG.nil ?_
  refine nextS_normal ?_
  refine Sm.seq ?_
  refine Sm.seq ?_
  refine Sm.regionG hF rfl ?_
  refine SmG.v hF rfl rfl rfl (opV_assign rfl rfl) ?_
  refine SmG.nil ?_
  refine nextS_normal ?_
  refine Sm.block ?_
  generalize Sha.padded b = all at hmod hplen hS ⊢
  generalize hm : all.length / 64 = m at hmod hS
  refine Sm.loop (ι := {j : Nat // j ≤ m}) (fun j => ⟨[(2, .ref 0 0 0), (3, .d (bytesL all)), (4, .ref 1 0 0), (5, .d (.v (.int .i64 ((64 * j.1 : Nat) : Int))))], [(1, dW 8 (Sha.over all j.1).list), (0, dB 32 [rowS (List.replicate 32 0)])], 2⟩) (fun j => m - j.1) (⟨0, by omega⟩) ?_ ?_
  · exact St.le_of (by first | (simp [leE, look, constD] <;> omega) | (simp [leE, look, constD, true_and] <;> omega)) (by simp only [leH, look, rep, reduceIte, Nat.reduceEqDiff, List.set_cons_zero, List.set_cons_succ, true_and, and_self, and_true, and_false, false_and, if_true, if_false] <;> (repeat' first | rfl | constructor)) (by first | exact Nat.le_refl _ | (dsimp only; omega))
  rintro ⟨j, hj⟩
  simp only

  by_cases hlt : j < m
  · have c1 := step_D (Sha.over all j) ((all.drop (64 * j)).take 64) (by rw [List.length_take, List.length_drop]; omega) G
    have hcm := chunk_map all j
    have hle : 64 * j ≤ 64 * j + 64 := by omega
    have hle2 : 64 * j + 64 ≤ all.length := by omega
    have hcast : (((64 * j : Nat) : Int) + 64).toNat = 64 * j + 64 := by omega
    have hov : Sha.over all (j + 1) = Sha.after (Sha.over all j) ((all.drop (64 * j)).take 64) := rfl
    have hl8 : (Sha.over all j).list.length = 8 := rfl

    refine Sm.seq ?_
    refine Sm.seq ?_
    refine Sm.regionG hF rfl ?_
    refine SmG.v hF rfl rfl rfl (opV_move rfl rfl) ?_
    refine SmG.v hF rfl rfl rfl (opV_move rfl rfl) ?_
    refine SmG.v hF rfl rfl rfl (opV_len rfl rfl (by simp (disch := omega) only [go_sem, Nat.reduceEqDiff, iteP, bytesL, hcm, hcast, hle, hle2, take_map', hl8] <;> rfl)) ?_
    refine SmG.v hF rfl rfl rfl (opV_bin rfl rfl rfl (by first | exact rd_lssT _ _ _ _ _ (by omega) | exact rd_lssF _ _ _ _ _ (by omega) | exact rb_lss _ _ _ _ _ _ _)) ?_
    refine SmG.nil ?_
    refine nextS_normal ?_
    refine Sm.condT hF rfl ?_
    refine Sm.skip ?_
    refine nextS_normal ?_
    refine Sm.seq ?_
    refine Sm.block ?_
    refine Sm.drawG hF (by kernel_rfl) rfl 7 (by kernel_rfl) (by kernel_rfl) ?_
    simp only [List.take_succ_cons, List.take_zero, List.take_nil]
    refine Head.v hF rfl rfl rfl (opV_load rfl rfl (by simp (disch := omega) only [go_sem, Nat.reduceEqDiff, iteP, bytesL, hcm, hcast, hle, hle2, take_map', hl8] <;> rfl)) ?_
    refine Head.v hF rfl rfl rfl (opV_move rfl rfl) ?_
    refine Head.v hF rfl rfl rfl (opV_move rfl rfl) ?_
    refine Head.v hF rfl rfl rfl (opV_move rfl rfl) ?_
    refine Head.v hF rfl rfl rfl (opV_bin rfl rfl rfl (by first | exact rd_add _ _ _ _ _ (wrapI64 _ (by omega)) | exact rb_add _ _ _ _ _ _ _)) ?_
    refine Head.v hF rfl rfl rfl (opV_slice rfl rfl rfl rfl rfl (by simp (disch := omega) only [go_sem, Nat.reduceEqDiff, iteP, bytesL, hcm, hcast, hle, hle2, take_map', hl8] <;> rfl)) ?_
    refine Head.c hF rfl rfl (by kernel_rfl) rfl rfl rfl (c1) ?_
    refine Head.last ⟨rfl, ?_⟩
    simp only [List.drop_succ_cons, List.drop_zero, List.drop_nil, List.nil_append, List.cons_append]
    refine SmG.store hF rfl rfl rfl rfl rfl (by simp (disch := omega) only [go_sem, Nat.reduceEqDiff, iteP, bytesL, hcm, hcast, hle, hle2, take_map', hl8] <;> rfl) ?_
    refine SmG.nil ?_
    refine blockS_normal ?_
    refine nextS_normal ?_
    refine Sm.regionG hF rfl ?_
    refine SmG.v hF rfl rfl rfl (opV_move rfl rfl) ?_
    refine SmG.v hF rfl rfl rfl (opV_bin rfl rfl rfl (by first | exact rd_add _ _ _ _ _ (wrapI64 _ (by omega)) | exact rb_add _ _ _ _ _ _ _)) ?_
    refine SmG.v hF rfl rfl rfl (opV_assign rfl rfl) ?_
    refine SmG.nil ?_
    refine nextS_normal ?_
    exact ⟨⟨j + 1, by omega⟩, by show m - (j + 1) < m - j; omega, by exact St.le_of (by first | (simp [leE, look, constD] <;> omega) | (simp [leE, look, constD, hov] <;> omega)) (by simp only [leH, look, rep, reduceIte, Nat.reduceEqDiff, List.set_cons_zero, List.set_cons_succ, hov, and_self, and_true, and_false, false_and, if_true, if_false] <;> (repeat' first | rfl | constructor)) (by first | exact Nat.le_refl _ | (dsimp only; omega))⟩

  · obtain rfl : j = m := by omega
    generalize Sha.over all j = S at hS ⊢
    refine Sm.seq ?_
    refine Sm.seq ?_
    refine Sm.regionG hF rfl ?_
    refine SmG.v hF rfl rfl rfl (opV_move rfl rfl) ?_
    refine SmG.v hF rfl rfl rfl (opV_move rfl rfl) ?_
    refine SmG.v hF rfl rfl rfl (opV_len rfl rfl (by simp (disch := omega) only [go_sem, Nat.reduceEqDiff, iteP, bytesL] <;> rfl)) ?_
    refine SmG.v hF rfl rfl rfl (opV_bin rfl rfl rfl (by first | exact rd_lssT _ _ _ _ _ (by omega) | exact rd_lssF _ _ _ _ _ (by omega) | exact rb_lss _ _ _ _ _ _ _)) ?_
    refine SmG.nil ?_
    refine nextS_normal ?_
    refine Sm.condF hF rfl ?_
    refine Sm.exit ?_
    simp only [nextS, blockS, reduceIte, reduceCtorEq]
    refine Sm.seq ?_
    refine Sm.regionG hF rfl ?_
    refine SmG.v hF rfl rfl rfl (opV_buildA rfl Tryd.underlying28 rfl bz28) ?_
    refine SmG.new hF rfl rfl rfl (opS_alloc rfl al28) ?_
    refine SmG.store hF rfl rfl rfl rfl rfl (by simp (disch := omega) only [go_sem, Nat.reduceEqDiff, iteP, bytesL] <;> rfl) ?_
    refine SmG.nil ?_
    refine nextS_normal ?_
    refine Sm.seq ?_
    refine Sm.seq ?_
    refine Sm.regionG hF rfl ?_
    refine SmG.v hF rfl rfl rfl (opV_assign rfl rfl) ?_
    refine SmG.nil ?_
    refine nextS_normal ?_
    refine Sm.block ?_
    refine Sm.loop (ι := {k : Nat // k ≤ 32}) (fun k => ⟨[(2, .ref 0 0 0), (4, .ref 1 0 0), (6, .ref 2 0 0), (7, .d (.v (.int .i64 k.1)))], [(2, dB 32 [rowS ((Sha.out S).take k.1 ++ List.replicate (32 - k.1) 0)]), (1, dW 8 S.list), (0, dB 32 [rowS (List.replicate 32 0)])], 3⟩) (fun k => 32 - k.1) (⟨0, by omega⟩) ?_ ?_
    · exact St.le_of (by first | (simp [leE, look, constD] <;> omega) | (simp [leE, look, constD, List.take_zero, List.nil_append] <;> omega)) (by simp only [leH, look, rep, reduceIte, Nat.reduceEqDiff, List.set_cons_zero, List.set_cons_succ, List.take_zero, List.nil_append, and_self, and_true, and_false, false_and, if_true, if_false] <;> (repeat' first | rfl | constructor)) (by first | exact Nat.le_refl _ | (dsimp only; omega))
    rintro ⟨k, hk⟩
    simp only

    have hl8 : S.list.length = 8 := rfl
    by_cases hlt : k < 32
    · have hg := get_word S.list (k / 4) (by omega)
      have hset := Sha.out_set S k hlt
      have hsh : ∀ (x : UInt32) (n : Nat), (Sha.shr x n).toNat = x.toNat / 2 ^ n := fun x n => Nat.mod_eq_of_lt (Nat.lt_of_le_of_lt (Nat.div_le_self _ _) x.toNat_lt)
      generalize S.list.getD (k / 4) 0 = x at hg hset
      have hcast : ((k : Int) / 4).toNat = k / 4 := by omega
      have hst : (List.map V.d (rowS ((Sha.out S).take k ++ List.replicate (32 - k) 0))).set k (.d (.v (.int .u8 ((UInt8.ofNat (Sha.shr x (24 - 8 * (k % 4))).toNat).toNat : Int)))) = List.map V.d (rowS ((Sha.out S).take (k + 1) ++ List.replicate (32 - (k + 1)) 0)) := by
        rw [← hset, hsh]
        simp only [rowS, List.map_set, byteD]

      refine Sm.seq ?_
      refine Sm.seq ?_
      refine Sm.regionG hF rfl ?_
      refine SmG.v hF rfl rfl rfl (opV_move rfl rfl) ?_
      refine SmG.v hF rfl rfl rfl (opV_bin rfl rfl rfl (by first | exact rd_lssT _ _ _ _ _ (by omega) | exact rd_lssF _ _ _ _ _ (by omega) | exact rb_lss _ _ _ _ _ _ _)) ?_
      refine SmG.nil ?_
      refine nextS_normal ?_
      refine Sm.condT hF rfl ?_
      refine Sm.skip ?_
      refine nextS_normal ?_
      refine Sm.seq ?_
      refine Sm.block ?_
      refine Sm.regionG hF rfl ?_
      refine SmG.v hF rfl rfl rfl (opV_move rfl rfl) ?_
      refine SmG.v hF rfl rfl rfl (opV_move rfl rfl) ?_
      refine SmG.v hF rfl rfl rfl (opV_bin rfl rfl rfl (by first | exact rd_quo _ _ _ _ (by omega) (by omega) | exact rb_quo _ _ _ _ _ _ _ (by omega))) ?_
      refine SmG.v hF rfl rfl rfl (opV_indexAddr rfl rfl rfl (by simp (disch := omega) only [go_sem, Nat.reduceEqDiff, iteP, u32D, hg, hcast, byteD, hl8] <;> rfl)) ?_
      refine SmG.v hF rfl rfl rfl (opV_load rfl rfl (by simp (disch := omega) only [go_sem, Nat.reduceEqDiff, iteP, u32D, hg, hcast, byteD, hl8] <;> rfl)) ?_
      refine SmG.v hF rfl rfl rfl (opV_move rfl rfl) ?_
      refine SmG.v hF rfl rfl rfl (opV_bin rfl rfl rfl (by first | exact rd_rem _ _ _ _ _ (by omega) (by omega) | exact rb_rem _ _ _ _ _ _ _ (by omega))) ?_
      refine SmG.v hF rfl rfl rfl (opV_bin rfl rfl rfl (by first | exact rd_mul _ _ _ _ _ (wrapI64 _ (by omega)) | exact rb_mul _ _ _ _ _ _ _)) ?_
      refine SmG.v hF rfl rfl rfl (opV_bin rfl rfl rfl (by first | exact rd_sub _ _ _ _ _ (wrapI64 _ (by omega)) | exact rb_sub _ _ _ _ _ _ _)) ?_
      refine SmG.v hF rfl rfl rfl (opV_bin rfl rfl rfl (rw_shr _ _ _ _ (24 - 8 * (k % 4)) _ (by omega) (by omega) x)) ?_
      refine SmG.v hF rfl rfl rfl (opV_conv rfl rfl (conv_u8 _ Tryd.underlying56 Tryd.underlying5)) ?_
      refine SmG.v hF rfl rfl rfl (opV_indexAddr rfl rfl rfl (by simp (disch := omega) only [go_sem, Nat.reduceEqDiff, iteP, u32D, hg, hcast, byteD, hl8] <;> rfl)) ?_
      refine SmG.store hF rfl rfl rfl rfl rfl (by simp (disch := omega) only [go_sem, Nat.reduceEqDiff, iteP, u32D, hg, hcast, byteD, hl8] <;> rfl) ?_
      refine SmG.nil ?_
      refine blockS_normal ?_
      refine nextS_normal ?_
      refine Sm.regionG hF rfl ?_
      refine SmG.v hF rfl rfl rfl (opV_move rfl rfl) ?_
      refine SmG.v hF rfl rfl rfl (opV_bin rfl rfl rfl (by first | exact rd_add _ _ _ _ _ (wrapI64 _ (by omega)) | exact rb_add _ _ _ _ _ _ _)) ?_
      refine SmG.v hF rfl rfl rfl (opV_assign rfl rfl) ?_
      refine SmG.nil ?_
      refine nextS_normal ?_
      exact ⟨⟨k + 1, by omega⟩, by show 32 - (k + 1) < 32 - k; omega, by exact St.le_of (by first | (simp [leE, look, constD] <;> omega) | (simp [leE, look, constD, hst] <;> omega)) (by simp only [leH, look, rep, reduceIte, Nat.reduceEqDiff, List.set_cons_zero, List.set_cons_succ, hst, and_self, and_true, and_false, false_and, if_true, if_false] <;> (repeat' first | rfl | constructor)) (by first | exact Nat.le_refl _ | (dsimp only; omega))⟩

    · obtain rfl : k = 32 := by omega
      have hll : (rowS ((Sha.out S).take 32 ++ List.replicate (32 - 32) 0)).length = 32 := by rw [rowS, List.length_map, out_len S 32 (by omega)]
      refine Sm.seq ?_
      refine Sm.seq ?_
      refine Sm.regionG hF rfl ?_
      refine SmG.v hF rfl rfl rfl (opV_move rfl rfl) ?_
      refine SmG.v hF rfl rfl rfl (opV_bin rfl rfl rfl (by first | exact rd_lssT _ _ _ _ _ (by omega) | exact rd_lssF _ _ _ _ _ (by omega) | exact rb_lss _ _ _ _ _ _ _)) ?_
      refine SmG.nil ?_
      refine nextS_normal ?_
      refine Sm.condF hF rfl ?_
      refine Sm.exit ?_
      simp only [nextS, blockS, reduceIte, reduceCtorEq]
      refine Sm.seq ?_
      refine Sm.regionG hF rfl ?_
      refine SmG.v hF rfl rfl rfl (opV_load rfl rfl (by simp (disch := omega) only [go_sem, Nat.reduceEqDiff, iteP, hll] <;> rfl)) ?_
      refine SmG.store hF rfl rfl rfl rfl rfl (by simp (disch := omega) only [go_sem, Nat.reduceEqDiff, iteP, hll] <;> rfl) ?_
      refine SmG.nil ?_
      refine nextS_normal ?_
      refine Sm.ret ?_
      refine retQ_cell rfl rfl (by simp (disch := omega) only [go_sem, Nat.reduceEqDiff, iteP, hll] <;> rfl) ?_
      rw [hS, List.take_of_length_le (by rw [Sha.out_length]; omega), List.append_nil]
      exact D.le.refl _
end Go.Proofs.YtmindblfbijaaaaDoor
namespace Go.Proofs.YtmindblfbijaaaaDoor.Sha
theorem climb_len_eq (b b' : List UInt8) : ∀ (p q : List (List UInt8)) (n i : Nat), (climb b p n i).2 = true → (climb b' q n i).2 = true → p.length = q.length := by
  intro p
  induction p with
  | nil =>
    intro q n i h1 h2
    cases q with
    | nil => rfl
    | cons y s => simp only [climb, beq_iff_eq] at h1; subst h1; simp [climb] at h2
  | cons x r ih =>
    intro q n i h1 h2
    cases q with
    | nil => simp only [climb, beq_iff_eq] at h2; subst h2; simp [climb] at h1
    | cons y s =>
      simp only [climb] at h1 h2
      by_cases hn : n = 1
      · simp [hn] at h1
      · rw [if_neg hn] at h1 h2
        by_cases hi : i < cut n
        · rw [if_pos hi] at h1 h2
          rw [List.length_cons, List.length_cons, ih s _ _ h1 h2]
        · rw [if_neg hi] at h1 h2
          rw [List.length_cons, List.length_cons, ih s _ _ h1 h2]
/-- A proof of another length is refused. -/
theorem check_len {l : List (List UInt8)} {i : Nat} {b : List UInt8} (h : l[i]? = some b) (r b' : List UInt8) (q : List (List UInt8)) (hq : q.length ≠ (proof l i).length) : check r l.length i b' q = false := by
  unfold check
  split
  · rfl
  · have hp := climb_path b l.length l i rfl h
    have h2 : (climb b' q.reverse (l.length : Int).toNat (i : Int).toNat).2 = false := by
      cases hc : (climb b' q.reverse (l.length : Int).toNat (i : Int).toNat).2 with
      | false => rfl
      | true =>
        have := climb_len_eq b b' (path l i) q.reverse l.length i (by rw [hp]) (by simpa using hc)
        simp only [List.length_reverse] at this
        exact absurd (by simp [proof, this]) hq
    rw [h2]; rfl
theorem check_out (r b : List UInt8) (q : List (List UInt8)) (n i : Int) (h : i < 0 ∨ n ≤ i) : check r n i b q = false := by
  unfold check; rw [if_pos h]
theorem cut_le_pow {n d : Nat} (h : 2 ≤ n) (hn : n ≤ 2 ^ (d + 1)) : cut n ≤ 2 ^ d := by
  unfold cut
  have : Nat.log2 (n - 1) < d + 1 := (Nat.log2_lt (by omega)).2 (by omega)
  exact Nat.pow_le_pow_right (by omega) (by omega)
theorem path_pow : ∀ (d : Nat) (l : List (List UInt8)) (i : Nat), l.length ≤ 2 ^ d → (path l i).length ≤ d := by
  intro d
  induction d with
  | zero => intro l i h; rw [path_one _ (by simp at h; omega)]; simp
  | succ d ih =>
    intro l i h
    rcases Nat.lt_or_ge l.length 2 with h2 | h2
    · rw [path_one _ h2]; simp
    · have c1 := cut_le_pow h2 h
      have c2 := cut_ge h2
      rcases Nat.lt_or_ge i (cut l.length) with hi | hi
      · rw [path_low h2 hi]
        have := ih (l.take (cut l.length)) i (by rw [List.length_take]; omega)
        simp only [List.length_cons]; omega
      · rw [path_high h2 hi]
        have := ih (l.drop (cut l.length)) (i - cut l.length) (by rw [List.length_drop]; omega)
        simp only [List.length_cons]; omega
theorem proof_pow (d : Nat) (l : List (List UInt8)) (i : Nat) (h : l.length ≤ 2 ^ d) : (proof l i).length ≤ d := by
  unfold proof; rw [List.length_reverse]; exact path_pow d l i h
end Go.Proofs.YtmindblfbijaaaaDoor.Sha
namespace Go.Proofs.YtmindblfbijaaaaDoor.Sha
def sides (n i : Nat) : List Bool :=
  if h : 2 ≤ n then (if i < cut n then sides (cut n) i ++ [false] else sides (n - cut n) (i - cut n) ++ [true]) else []
termination_by n
decreasing_by
  · exact cut_lt h
  · have := cut_pos n; omega
theorem sides_low {n i : Nat} (h : 2 ≤ n) (hi : i < cut n) : sides n i = sides (cut n) i ++ [false] := by
  rw [sides, dif_pos h, if_pos hi]
theorem sides_high {n i : Nat} (h : 2 ≤ n) (hi : cut n ≤ i) : sides n i = sides (n - cut n) (i - cut n) ++ [true] := by
  rw [sides, dif_pos h, if_neg (by omega)]
theorem sides_one {n : Nat} (i : Nat) (h : n < 2) : sides n i = [] := by rw [sides, dif_neg (by omega)]
def join (s : Bool) (q h : List UInt8) : List UInt8 := 1 :: (if s then q ++ h else h ++ q)
def chain (x : List UInt8) : List (Bool × List UInt8) → List (List UInt8)
  | [] => [x]
  | (s, q) :: r => x :: chain (join s q (sum x)) r
def top (x : List UInt8) : List (Bool × List UInt8) → List UInt8
  | [] => sum x
  | (s, q) :: r => top (join s q (sum x)) r
theorem top_snoc (s : Bool) (q : List UInt8) : ∀ (r : List (Bool × List UInt8)) (x : List UInt8), top x (r ++ [(s, q)]) = sum (join s q (top x r)) := by
  intro r
  induction r with
  | nil => intro x; rfl
  | cons e r ih => intro x; obtain ⟨t, y⟩ := e; exact ih _
theorem sum_join (s : Bool) (q h : List UInt8) : sum (join s q h) = if s then pair q h else pair h q := by
  cases s <;> rfl
theorem chain_ne (x : List UInt8) (r : List (Bool × List UInt8)) : chain x r ≠ [] := by
  cases r with
  | nil => simp [chain]
  | cons e r => obtain ⟨s, q⟩ := e; simp [chain]
theorem chain_length (r : List (Bool × List UInt8)) : ∀ x, (chain x r).length = r.length + 1 := by
  induction r with
  | nil => intro x; rfl
  | cons e r ih => intro x; obtain ⟨s, q⟩ := e; simp [chain, ih]
theorem chain_last (r : List (Bool × List UInt8)) : ∀ x, sum ((chain x r).getLast (chain_ne x r)) = top x r := by
  induction r with
  | nil => intro x; rfl
  | cons e r ih =>
    intro x; obtain ⟨s, q⟩ := e
    simp only [chain, top]
    rw [List.getLast_cons (chain_ne _ _)]
    exact ih _
theorem chain_snoc (s : Bool) (q : List UInt8) : ∀ (r : List (Bool × List UInt8)) (x : List UInt8), chain x (r ++ [(s, q)]) = chain x r ++ [join s q (top x r)] := by
  intro r
  induction r with
  | nil => intro x; rfl
  | cons e r ih => intro x; obtain ⟨t, y⟩ := e; simp [chain, top, ih]
/-- What climbs a proof gives the end of its chain. -/
theorem climb_top (b : List UInt8) : ∀ (p : List (List UInt8)) (n i : Nat), 1 ≤ n → (climb b p n i).2 = decide (p.length = (sides n i).length) ∧ (p.length = (sides n i).length → (climb b p n i).1 = top (0 :: b) ((sides n i).zip p.reverse)) := by
  intro p
  induction p with
  | nil =>
    intro n i hn
    by_cases h1 : n = 1
    · subst h1; rw [sides_one i (by omega)]; exact ⟨rfl, fun _ => rfl⟩
    · have : (sides n i).length ≠ 0 := by
        rcases Nat.lt_or_ge i (cut n) with h | h
        · rw [sides_low (by omega) h]; simp
        · rw [sides_high (by omega) h]; simp
      refine ⟨?_, fun h => absurd h.symm this⟩
      simp only [climb, List.length_nil]
      rw [decide_eq_false (Ne.symm this)]; simpa using h1
  | cons q r ih =>
    intro n i hn
    by_cases h1 : n = 1
    · subst h1; rw [sides_one i (by omega)]
      simp [climb]
    · have h2 : 2 ≤ n := by omega
      have c1 := cut_lt h2
      have c2 := cut_pos n
      simp only [climb, if_neg h1]
      rcases Nat.lt_or_ge i (cut n) with h | h
      · obtain ⟨k1, k2⟩ := ih (cut n) i (by omega)
        rw [if_pos h, sides_low h2 h]
        refine ⟨by simp [k1], fun hl => ?_⟩
        have hl' : r.length = (sides (cut n) i).length := by simpa using hl
        rw [List.reverse_cons, List.zip_append (by simpa using hl'.symm), List.zip_cons_cons, List.zip_nil_right, top_snoc, sum_join, ← k2 hl']
        rfl
      · obtain ⟨k1, k2⟩ := ih (n - cut n) (i - cut n) (by omega)
        rw [if_neg (by omega), sides_high h2 h]
        refine ⟨by simp [k1], fun hl => ?_⟩
        have hl' : r.length = (sides (n - cut n) (i - cut n)).length := by simpa using hl
        rw [List.reverse_cons, List.zip_append (by simpa using hl'.symm), List.zip_cons_cons, List.zip_nil_right, top_snoc, sum_join, ← k2 hl']
        rfl
/-- A proof is accepted exactly if it is as long as its sides, and its chain ends in the root. -/
theorem check_top (root b : List UInt8) (n i : Int) (p : List (List UInt8)) : check root n i b p = if i < 0 ∨ n ≤ i then false else decide (p.length = (sides n.toNat i.toNat).length) && decide (top (0 :: b) ((sides n.toNat i.toNat).zip p) = root) := by
  unfold check
  split
  · rfl
  · rename_i h
    obtain ⟨k1, k2⟩ := climb_top b p.reverse n.toNat i.toNat (by omega)
    rw [k1]
    simp only [List.length_reverse, List.reverse_reverse] at k2 ⊢
    by_cases hl : p.length = (sides n.toNat i.toNat).length
    · rw [k2 hl]
    · simp [hl]
/-- Two different lists of bytes with the same hash, one of each chain. -/
def Met (a b : List (List UInt8)) : Prop := ∃ x ∈ a, ∃ y ∈ b, x ≠ y ∧ sum x = sum y
theorem join_eq {s : Bool} {q q' h h' : List UInt8} (h1 : q.length = 32) (h2 : q'.length = 32) (h3 : h.length = 32) (h4 : h'.length = 32) (e : join s q h = join s q' h') : q = q' ∧ h = h' := by
  simp only [join, List.cons.injEq, true_and] at e
  cases s with
  | true => exact List.append_inj e (by omega)
  | false => exact (List.append_inj e (by omega)).symm
theorem top_binds : ∀ (ss : List Bool) (p q : List (List UInt8)) (x y : List UInt8), p.length = ss.length → q.length = ss.length → (∀ s ∈ p, s.length = 32) → (∀ s ∈ q, s.length = 32) → top x (ss.zip p) = top y (ss.zip q) →
    (x = y ∧ p = q) ∨ Met (chain x (ss.zip p)) (chain y (ss.zip q)) := by
  intro ss
  induction ss with
  | nil =>
    intro p q x y hp hq _ _ h
    have : p = [] := List.eq_nil_of_length_eq_zero hp
    have : q = [] := List.eq_nil_of_length_eq_zero hq
    subst p; subst q
    by_cases e : x = y
    · exact .inl ⟨e, rfl⟩
    · exact .inr ⟨x, by simp [chain], y, by simp [chain], e, h⟩
  | cons s ss ih =>
    intro p q x y hp hq lp lq h
    match p, q, hp, hq with
    | u :: p, v :: q, hp, hq =>
      simp only [List.zip_cons_cons, top, chain] at h ⊢
      rcases ih p q _ _ (by simpa using hp) (by simpa using hq) (fun s hs => lp s (by simp [hs])) (fun s hs => lq s (by simp [hs])) h with ⟨e1, e2⟩ | ⟨a, ha, b, hb, hne, hs⟩
      · obtain ⟨e3, e4⟩ := join_eq (lp u (by simp)) (lq v (by simp)) (sum_len x) (sum_len y) e1
        by_cases e : x = y
        · exact .inl ⟨e, by rw [e2, e3]⟩
        · exact .inr ⟨x, by simp, y, by simp, e, e4⟩
      · exact .inr ⟨a, by simp [ha], b, by simp [hb], hne, hs⟩
/-- If two elements, or one with two proofs, are accepted at one place, two lists of bytes have the same hash. -/
theorem check_binds {root b b' : List UInt8} {n i : Nat} {p q : List (List UInt8)} (lp : ∀ s ∈ p, s.length = 32) (lq : ∀ s ∈ q, s.length = 32) (h1 : check root n i b p = true) (h2 : check root n i b' q = true) (hne : ¬ (b' = b ∧ q = p)) :
    Met (chain (0 :: b) ((sides n i).zip p)) (chain (0 :: b') ((sides n i).zip q)) := by
  rw [check_top] at h1 h2
  split at h1
  · cases h1
  · rename_i hin
    rw [if_neg hin] at h2
    simp only [Bool.and_eq_true, decide_eq_true_eq, Int.toNat_natCast] at h1 h2
    rcases top_binds _ p q _ _ h1.1 h2.1 lp lq (h1.2.trans h2.2.symm) with ⟨e1, e2⟩ | h
    · exact absurd ⟨(List.cons.inj e1).2.symm, e2.symm⟩ hne
    · exact h
end Go.Proofs.YtmindblfbijaaaaDoor.Sha
