/-
  Memory: a block whose cells are known (Arr), read and written; no program in sight.
-/
import Derived.WalkKit
import Derived.WalkSpells
import Derived.WalkLawsBesides
import Derived.Deep.Draws
namespace Go.Proofs.YtmindblfbijaaaaDoor
open Go.RowKit
theorem ret_int {k : IntKind} {a b : Int} (h : a = b) : Ending.returned (.int k a) = .returned (.int k b) := by rw [h]
theorem ret_bool {a b : Bool} (h : a = b) : Ending.returned (.bool a) = .returned (.bool b) := by rw [h]
theorem stop {p : Prop} (h : p) : Hid p := h
/-- Block b has these cells, and none of them is frozen. -/
def Arr (w : World) (b : Nat) (cs : List Value) : Prop := ∃ T, w.heap[b]? = some (.cells cs.toArray T)
namespace Arr
theorem lt {w : World} {b : Nat} {cs : List Value} (h : Arr w b cs) : b < w.heap.size := by
  obtain ⟨T, h⟩ := h; exact lt_of_block h
theorem cell {w : World} {b : Nat} {cs : List Value} (h : Arr w b cs) {i : Nat} {v : Value} (hi : cs[i]? = some v) : w.cell? ⟨b, i, none⟩ = some v := by
  obtain ⟨T, h⟩ := h; rw [cell_of_row w b i _ _ _ h]; simpa using hi
theorem frozen {w : World} {b : Nat} {cs : List Value} (h : Arr w b cs) (i : Nat) : w.frozen? ⟨b, i, none⟩ = false := by
  obtain ⟨T, h⟩ := h; exact frozen_of_row w b i _ _ h
theorem set {w : World} {b : Nat} {cs : List Value} (h : Arr w b cs) (i : Nat) (v : Value) : Arr (w.setCell ⟨b, i, none⟩ v) b (cs.set i v) := by
  obtain ⟨T, h⟩ := h; exact ⟨T, by rw [heap_setCell_same w b i _ _ v h]; simp⟩
theorem other {w : World} {b : Nat} {cs : List Value} (h : Arr w b cs) {a : Addr} (ha : a.block ≠ b) (v : Value) : Arr (w.setCell a v) b cs := by
  obtain ⟨T, h⟩ := h; exact ⟨T, by rw [heap_setCell_other w a b v (Ne.symm ha)]; exact h⟩
theorem alloc {w : World} {b : Nat} {cs : List Value} (h : Arr w b cs) (o : Obj) : Arr (w.alloc o) b cs := by
  have := h.lt
  obtain ⟨T, h⟩ := h; exact ⟨T, by rw [Below.heap_alloc w o b this]; exact h⟩
theorem new (w : World) (cs : List Value) (T : TypeId) : Arr (w.alloc (.cells cs.toArray T)) w.heap.size cs := ⟨T, heap_alloc_new w _⟩
theorem newAt {w : World} {n : Nat} (h : n = w.heap.size) (cs : List Value) (T : TypeId) : Arr (w.alloc (.cells cs.toArray T)) n cs := by subst h; exact ⟨T, heap_alloc_new w _⟩
theorem drew {w : World} {b : Nat} {cs : List Value} (h : Arr w b cs) : Arr w.drew b cs := h
theorem drewN {w : World} {b : Nat} {cs : List Value} (h : Arr w b cs) (n : Nat) : Arr (w.drewN n) b cs := h
theorem below {B : Nat} {w w' : World} {b : Nat} {cs : List Value} (h : Arr w b cs) (hB : Below B w w') (hb : b < B) : Arr w' b cs := by
  obtain ⟨T, h⟩ := h; exact ⟨T, by rw [hB.block b hb]; exact h⟩
theorem below' {w w' : World} {b : Nat} {cs : List Value} (h : Arr w b cs) (hB : Below w.heap.size w w') : Arr w' b cs := h.below hB h.lt
theorem grown {w w' : World} {row : Option Nat} {b : Nat} {cs : List Value} (h : Arr w b cs) (hg : w.grownBy w' row) (hr : some b ≠ row) : Arr w' b cs := by
  have hl := h.lt
  obtain ⟨T, h⟩ := h; exact ⟨T, by rw [hg.block b hl hr]; exact h⟩
end Arr
/-- The values of words and of bytes. -/
def u32s (l : List UInt32) : List Value := l.map fun x => .int .u32 x.toNat
def u8s (l : List UInt8) : List Value := l.map fun x => .int .u8 x.toNat
theorem u32s_get {l : List UInt32} {i : Nat} (h : i < l.length) : (u32s l)[i]? = some (.int .u32 (l.getD i 0).toNat) := by
  simp [u32s, h]
theorem u8s_get {l : List UInt8} {i : Nat} (h : i < l.length) : (u8s l)[i]? = some (.int .u8 (l.getD i 0).toNat) := by
  simp [u8s, h]
theorem u32s_set (l : List UInt32) (i : Nat) (x : UInt32) : (u32s l).set i (.int .u32 x.toNat) = u32s (l.set i x) := by
  simp [u32s, List.map_set]
theorem u8s_set (l : List UInt8) (i : Nat) (x : UInt8) : (u8s l).set i (.int .u8 x.toNat) = u8s (l.set i x) := by
  simp [u8s, List.map_set]
theorem addr_add (b o j : Nat) : (⟨b, o, none⟩ : Addr).add j = ⟨b, o + j, none⟩ := by unfold Addr.add; split <;> simp_all
section
variable {P : Program} {ops : Array Oper} {rest : List Oper} {o : Oper} {a : Act} {w : World} {Q : Exit → Act → World → Prop}
/-- A type whose values are rows of cells. -/
def AggT (P : Program) (ty : TypeId) (n : Nat) : Prop := (∀ w, (isAgg ty).run P w = .ok true w) ∧ (P.info? ty).map (·.size) = some n
theorem run_sizeOf {ty n : Nat} (h : (P.info? ty).map (·.size) = some n) (w : World) : (sizeOf ty).run P w = .ok n w := by
  cases hq : P.info? ty with
  | none => simp [hq] at h
  | some i => simp [hq] at h; simp [sizeOf, typeInfo, hq, h]
/-- Load of a whole array or struct at an address. -/
theorem wp_load_cells {K : Act → World → Prop} (ty : TypeId) (x : Operand) (ho : o.op = .load ty x) (g off : Nat) (hx : a.eval x = .pointer (some ⟨g, off, none⟩))
    (cs : List Value) (hT : AggT P ty cs.length) (hc : ∀ j v, cs[j]? = some v → w.cell? ⟨g, off + j, none⟩ = some v)
    (h : K (a.put o.dst (.agg cs.toArray)) w) : o.wp P a w K Q := by
  have hl : (loadCells ⟨g, off, none⟩ cs.length).run P w = .ok cs.toArray w :=
    run_loadCells_list (P := P) w ⟨g, off, none⟩ cs (fun j v hv => by rw [addr_add]; exact hc j v hv)
  unfold Oper.wp
  have : (execOp a.eval o).run P w = .ok (.value (.agg cs.toArray)) w := by
    simp only [execOp, ho, hx]
    simp [Instr.loadAt, Instr.sureAddr, loadVar, Sem.run_bind, hT.1, run_sizeOf hT.2, hl, Result.andThen]
  rw [this]
  exact h
theorem wpList_load_cells (hgd : o.guard = none) (ty : TypeId) (x : Operand) (ho : o.op = .load ty x) (g off : Nat) (hx : a.eval x = .pointer (some ⟨g, off, none⟩))
    (cs : List Value) (hT : AggT P ty cs.length) (hc : ∀ j v, cs[j]? = some v → w.cell? ⟨g, off + j, none⟩ = some v)
    (h : wpList P ops Q rest (a.put o.dst (.agg cs.toArray)) w) : wpList P ops Q (o :: rest) a w :=
  wpList_plain hgd fun _ hK => wp_load_cells ty x ho g off hx cs hT hc (hK _ _ h)
theorem wp_move {K : Act → World → Prop} (x : Operand) (ho : o.op = .move x) (h : K (a.put o.dst (a.eval x)) w) : o.wp P a w K Q := by
  unfold Oper.wp
  have : (execOp a.eval o).run P w = .ok (.value (a.eval x)) w := by simp [execOp, ho]
  rw [this]; exact h
/-- A new variable of an array's or struct's type, or of a plain one. -/
theorem wp_alloc {K : Act → World → Prop} (ty : TypeId) (ho : o.op = .alloc ty) (z : Value) (n : Nat) (hT : (P.info? ty).map (fun i => (i.zero, i.size)) = some (some z, n))
    (h : K (a.put o.dst (.pointer (some ⟨w.heap.size, 0, none⟩))) (w.alloc (.cells z.cells ty))) : o.wp P a w K Q := by
  have hz : ∀ w, (zeroValue ty).run P w = .ok z w := by
    intro w
    cases hq : P.info? ty with
    | none => simp [hq] at hT
    | some i => simp [hq] at hT; simp [zeroValue, typeInfo, hq, hT.1]
  unfold Oper.wp
  have : (execOp a.eval o).run P w = .ok (.value (.pointer (some ⟨w.heap.size, 0, none⟩))) (w.alloc (.cells z.cells ty)) := by
    simp only [execOp, ho]
    simp [Instr.alloc, newVar, newRow, newObj, Sem.run_bind, hz, Result.andThen]
    rfl
  rw [this]; exact h
/-- cs laid over cur from place off on. -/
def lay (cur : List Value) (off : Nat) (cs : List Value) : List Value := cur.take off ++ cs ++ cur.drop (off + cs.length)
theorem grownBy_setRow (w : World) (g : Nat) (cs : Array Value) : w.grownBy (w.setRow g cs) (some g) :=
  ⟨rfl, rfl, rfl, by simp [World.setRow], fun k _ hne => by
    have : k ≠ g := fun e => hne (by rw [e])
    simp only [World.setRow, Array.getElem?_modify]
    rw [if_neg (fun e => this e.symm)]⟩
theorem Arr.setRow {g : Nat} {cur : List Value} (h : Arr w g cur) (cs : List Value) : Arr (w.setRow g cs.toArray) g cs := by
  obtain ⟨T, h⟩ := h
  refine ⟨T, ?_⟩
  simp only [World.setRow, Array.getElem?_modify, if_pos, h]
  rfl
/-- A call of a named function that returns. -/
theorem wp_call {K : Act → World → Prop} (f : FuncId) (hcall : ∀ args w, (callFunc f args).run P w = .ok (.enter f args) w) (xs : Array Operand) (ts : Array TypeId) (ho : o.op = .call ⟨.value (.func f), xs, ts⟩)
    (vs : List Value) (hv : xs.toList.map a.eval = vs) (h : Calls P f vs.toArray w fun e w' => ∃ v, e = .returned v ∧ K (a.put o.dst v) w') : o.wp P a w K Q := by
  unfold Oper.wp
  have hv' : xs.map a.eval = vs.toArray := by rw [← hv, ← Array.toList_map]
  have : (execOp a.eval o).run P w = .ok (.enter f vs.toArray) w := by
    have e : execOp a.eval o = callFunc f (#[] ++ xs.map a.eval ++ #[]) := by simp only [execOp, ho]; rfl
    rw [e, hcall, hv']
    simp
  rw [this, Oper.upon_enter]
  refine h.mono ?_
  rintro e w' ⟨v, rfl, hK⟩
  exact hK
/-- Store of a whole array or struct into a block whose cells are known. -/
theorem wp_store_cells {K : Act → World → Prop} (hd : o.dst = none) (ty : TypeId) (x y : Operand) (ho : o.op = .store ty x y) (g off : Nat) (hx : a.eval x = .pointer (some ⟨g, off, none⟩))
    (cs : List Value) (hy : a.eval y = .agg cs.toArray) (hT : (P.info? ty).map (·.size) = some cs.length) (h1 : ∀ v ∈ cs, v.oneCell' = true) (cur : List Value) (hA : Arr w g cur) (hfit : off + cs.length ≤ cur.length)
    (h : ∀ w', Arr w' g (lay cur off cs) → w.grownBy w' (some g) → K a w') : o.wp P a w K Q := by
  obtain ⟨T, hg⟩ := hA
  have hs : (storeCells ⟨g, off, none⟩ cs).run P w = .ok () (w.setRow g (lay cur off cs).toArray) := by
    have := run_storeCells_at P g off T cs 0 cur.toArray w hg (by simpa using hfit) h1
    simpa [lay] using this
  unfold Oper.wp
  have : (execOp a.eval o).run P w = .ok .skip (w.setRow g (lay cur off cs).toArray) := by
    simp only [execOp, ho, hx, hy]
    simp [Instr.storeAt, Instr.sureAddr, storeVar, Sem.run_bind, Value.cells, run_sizeOf hT, hs, Result.andThen]
  rw [this, Oper.upon_skip, hd]
  exact h _ (Arr.setRow ⟨T, hg⟩ _) (grownBy_setRow _ _ _)
theorem wpList_store_cells (hgd : o.guard = none) (hd : o.dst = none) (ty : TypeId) (x y : Operand) (ho : o.op = .store ty x y) (g off : Nat) (hx : a.eval x = .pointer (some ⟨g, off, none⟩))
    (cs : List Value) (hy : a.eval y = .agg cs.toArray) (hT : (P.info? ty).map (·.size) = some cs.length) (h1 : ∀ v ∈ cs, v.oneCell' = true) (cur : List Value) (hA : Arr w g cur) (hfit : off + cs.length ≤ cur.length)
    (h : ∀ w', Arr w' g (lay cur off cs) → w.grownBy w' (some g) → wpList P ops Q rest a w') : wpList P ops Q (o :: rest) a w :=
  wpList_plain hgd fun _ hK => wp_store_cells hd ty x y ho g off hx cs hy hT h1 cur hA hfit fun w' h1 h2 => hK _ _ (h w' h1 h2)
theorem lay_whole (cur cs : List Value) (h : cur.length = cs.length) : lay cur 0 cs = cs := by
  simp [lay, ← h]
theorem u32s_length (l : List UInt32) : (u32s l).length = l.length := by simp [u32s]
theorem u8s_length (l : List UInt8) : (u8s l).length = l.length := by simp [u8s]
theorem u32s_one (l : List UInt32) : ∀ v ∈ u32s l, v.oneCell' = true := by
  intro v hv; simp only [u32s, List.mem_map] at hv; obtain ⟨x, _, rfl⟩ := hv; rfl
theorem u8s_one (l : List UInt8) : ∀ v ∈ u8s l, v.oneCell' = true := by
  intro v hv; simp only [u8s, List.mem_map] at hv; obtain ⟨x, _, rfl⟩ := hv; rfl
/-- A result that is a whole array or struct in a cell variable. -/
theorem bodyPost_cells {fn : Func} {R : Ending → World → Prop} {p : Tmp} {ty : TypeId} (hr : fn.results = #[.cell p ty]) (hdef : a.defers = []) (g : Nat) (hp : a.tmps.getD p undef = .pointer (some ⟨g, 0, none⟩))
    (cs : List Value) (hA : Arr w g cs) (hT : AggT P ty cs.length) (h : R (.returned (.agg cs.toArray)) w) : bodyPost P fn R .ret a w := by
  refine bodyPost_ret (v := .agg cs.toArray) ?_ hdef h
  have hl : (loadCells ⟨g, 0, none⟩ cs.length).run P w = .ok cs.toArray w :=
    run_loadCells_list (P := P) w ⟨g, 0, none⟩ cs (fun j v hv => by rw [addr_add, Nat.zero_add]; exact hA.cell hv)
  have hp' : a.tmps[p]?.getD undef = .pointer (some ⟨g, 0, none⟩) := by simpa using hp
  simp [results, hr, hp', asAddr, loadVar, Sem.run_bind, hT.1, run_sizeOf hT.2, hl, Result.andThen]
end
end Go.Proofs.YtmindblfbijaaaaDoor
