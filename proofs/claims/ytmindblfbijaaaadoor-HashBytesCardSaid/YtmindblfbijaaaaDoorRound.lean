/-
  Laws for the body of a range over a function (inside a fence): loads and stores of whole arrays, append; no program in sight.
-/
import Derived.Test.YtmindblfbijaaaaDoorOwn
import Derived.TacticsIn
import Derived.OwnWalkIn
import Derived.RangeFuncFrom
namespace Go.Proofs.YtmindblfbijaaaaDoor
open Go.RowKit
section
variable {P : Program} {F : Fence} {n : Nat} {ops : Array Oper} {rest : List Oper} {o : Oper} {a : Act} {w w' : World} {Q : Exit → Act → World → Prop}
theorem wpListIn_of_value (hF : ∀ f, F.fn f) (hgd : o.guard = none) (hnd : ∀ c, o.op ≠ .defer c) {v : Value} (hrun : (execOp a.eval o).run P w = .ok (.value v) w') (h : wpListIn F n P ops Q rest (a.put o.dst v) w') :
    wpListIn F n P ops Q (o :: rest) a w := by
  refine wpListIn_plain hgd fun K hK => ⟨fun f _ => hF f, ?_⟩
  rw [Oper.semAt_plain F _ _ hnd, hrun, Oper.uponIn_value]
  exact hK _ _ h
theorem wpListIn_of_skip (hF : ∀ f, F.fn f) (hgd : o.guard = none) (hnd : ∀ c, o.op ≠ .defer c) (hd : o.dst = none) (hrun : (execOp a.eval o).run P w = .ok .skip w') (h : wpListIn F n P ops Q rest a w') :
    wpListIn F n P ops Q (o :: rest) a w := by
  refine wpListIn_plain hgd fun K hK => ⟨fun f _ => hF f, ?_⟩
  rw [Oper.semAt_plain F _ _ hnd, hrun, Oper.uponIn_skip, hd]
  exact hK _ _ h
theorem wpListIn_load_cells (hF : ∀ f, F.fn f) (hgd : o.guard = none) (ty : TypeId) (x : Operand) (ho : o.op = .load ty x) (g off : Nat) (hx : a.eval x = .pointer (some ⟨g, off, none⟩))
    (cs : List Value) (hT : AggT P ty cs.length) (hc : ∀ j v, cs[j]? = some v → w.cell? ⟨g, off + j, none⟩ = some v)
    (h : wpListIn F n P ops Q rest (a.put o.dst (.agg cs.toArray)) w) : wpListIn F n P ops Q (o :: rest) a w := by
  have hl : (loadCells ⟨g, off, none⟩ cs.length).run P w = .ok cs.toArray w :=
    run_loadCells_list (P := P) w ⟨g, off, none⟩ cs (fun j v hv => by rw [addr_add]; exact hc j v hv)
  refine wpListIn_of_value hF hgd (by rw [ho]; intro c hc; cases hc) ?_ h
  simp only [execOp, ho, hx]
  simp [Instr.loadAt, Instr.sureAddr, loadVar, Sem.run_bind, hT.1, run_sizeOf hT.2, hl, Result.andThen]
theorem wpListIn_store_cells (hF : ∀ f, F.fn f) (hgd : o.guard = none) (hd : o.dst = none) (ty : TypeId) (x y : Operand) (ho : o.op = .store ty x y) (g off : Nat) (hx : a.eval x = .pointer (some ⟨g, off, none⟩))
    (cs : List Value) (hy : a.eval y = .agg cs.toArray) (hT : (P.info? ty).map (·.size) = some cs.length) (h1 : ∀ v ∈ cs, v.oneCell' = true) (cur : List Value) (hA : Arr w g cur) (hfit : off + cs.length ≤ cur.length)
    (h : ∀ w', Arr w' g (lay cur off cs) → w.grownBy w' (some g) → wpListIn F n P ops Q rest a w') : wpListIn F n P ops Q (o :: rest) a w := by
  obtain ⟨T, hg⟩ := hA
  have hs : (storeCells ⟨g, off, none⟩ cs).run P w = .ok () (w.setRow g (lay cur off cs).toArray) := by
    have := run_storeCells_at P g off T cs 0 cur.toArray w hg (by simpa using hfit) h1
    simpa [lay] using this
  refine wpListIn_of_skip (w' := w.setRow g (lay cur off cs).toArray) hF hgd (by rw [ho]; intro c hc; cases hc) hd ?_ (h _ (Arr.setRow ⟨T, hg⟩ _) (grownBy_setRow _ _ _))
  simp only [execOp, ho, hx, hy]
  simp [Instr.storeAt, Instr.sureAddr, storeVar, Sem.run_bind, Value.cells, run_sizeOf hT, hs, Result.andThen]
end
theorem results_cells {P : Program} {w : World} {fn : Func} {p : Tmp} {ty : TypeId} (hr : fn.results = #[.cell p ty]) (tmps : Array Value) (g : Nat) (hp : tmps.getD p undef = .pointer (some ⟨g, 0, none⟩))
    (cs : List Value) (hA : Arr w g cs) (hT : AggT P ty cs.length) : (results fn tmps).run P w = .ok (.agg cs.toArray) w := by
  have hl : (loadCells ⟨g, 0, none⟩ cs.length).run P w = .ok cs.toArray w :=
    run_loadCells_list (P := P) w ⟨g, 0, none⟩ cs (fun j v hv => by rw [addr_add, Nat.zero_add]; exact hA.cell hv)
  have hp' : tmps[p]?.getD undef = .pointer (some ⟨g, 0, none⟩) := by simpa using hp
  simp [results, hr, hp', asAddr, loadVar, Sem.run_bind, hT.1, run_sizeOf hT.2, hl, Result.andThen]
/-- A block of cells stays while blocks that are no cells turn. -/
theorem Arr.ownK {W W' : World} {row : Option Nat} {b : Nat} {cs : List Value} (h : Arr W b cs) (hg : W.grownBy W' row) (hr : ∀ r, row = some r → ∃ o : Obj, W.heap[r]? = some o ∧ o.isCells = false) : Arr W' b cs := by
  refine h.grown hg (fun e => ?_)
  obtain ⟨o, ho, hc⟩ := hr b e.symm
  obtain ⟨T, hT⟩ := h
  rw [hT] at ho
  cases ho; cases hc
theorem keeps_of_below {W W' : World} (h : Below W.heap.size W W') : KeepsOthers W W' :=
  ⟨h.size, fun k o hk _ => (h.block k (Array.getElem?_eq_some_iff.1 hk).1).trans hk⟩
theorem keeps_of_grown {W W' : World} {g : Nat} {cs : List Value} (hA : Arr W g cs) (h : W.grownBy W' (some g)) : KeepsOthers W W' :=
  KeepsOthers.of_grownBy h (fun j o e ho => by
    cases e
    obtain ⟨T, hT⟩ := hA
    rw [hT] at ho; cases ho; rfl)
end Go.Proofs.YtmindblfbijaaaaDoor
