/-
  A law for a slice of one element of several cells that is written out; no program in sight.
-/
import Derived.Test.YtmindblfbijaaaaDoorOwn
namespace Go.Proofs.YtmindblfbijaaaaDoor
open Go.RowKit
theorem lay_step (cur : List Value) (k : Nat) (c : Value) (r : List Value) (h : k < cur.length) : lay (cur.set k c) (k + 1) r = lay cur k (c :: r) := by
  unfold lay
  rw [List.set_eq_take_append_cons_drop, if_pos h]
  have h1 : (cur.take k).length = k := by rw [List.length_take]; omega
  have e1 : (cur.take k ++ c :: cur.drop (k + 1)).take (k + 1) = cur.take k ++ [c] := by
    rw [List.take_append, h1, List.take_of_length_le (by omega), show k + 1 - k = 1 by omega]; simp
  have e2 : (cur.take k ++ c :: cur.drop (k + 1)).drop (k + 1 + r.length) = cur.drop (k + (c :: r).length) := by
    rw [List.drop_append, h1, List.drop_of_length_le (by omega), show k + 1 + r.length - k = r.length + 1 by omega, List.drop_succ_cons, List.drop_drop, List.nil_append]
    congr 1; simp; omega
  rw [e1, e2]
  simp
theorem foldl_lay (off : Nat) : ∀ (l : List Value) (k : Nat) (arr : Array Value), off + k + l.length ≤ arr.size → (l.zipIdx k).foldl (fun cs (x : Value × Nat) => cs.setIfInBounds (off + x.2) x.1) arr = (lay arr.toList (off + k) l).toArray := by
  intro l
  induction l with
  | nil => intro k arr _; simp [lay]
  | cons c r ih =>
    intro k arr h
    simp only [List.zipIdx_cons, List.foldl_cons]
    rw [ih (k + 1) _ (by simp at h ⊢; omega)]
    congr 1
    have hk : off + k < arr.toList.length := by simp at h ⊢; omega
    rw [Array.toList_setIfInBounds, ← lay_step _ _ _ _ hk]
    rfl
section
variable {P : Program} {ops : Array Oper} {rest : List Oper} {o : Oper} {a : Act} {w : World} {Q : Exit → Act → World → Prop} {t e : TypeId} {z : Value} {size bytes : Nat}
theorem wp_build_one {K : Act → World → Prop} (hE : ElemT P t e z size bytes) (x : Operand) (ho : o.op = .buildSlice t 1 #[(0, x)]) (cs : List Value) (hx : a.eval x = .agg cs.toArray) (hcs : cs.length = size) (hsz : size ≤ 16777216)
    (h : K (a.put o.dst (.slice (some ⟨w.heap.size, 0, none⟩) 1 1)) (w.alloc (.cells cs.toArray e))) : o.wp P a w K Q := by
  obtain ⟨i0, hi, hz0, hz1, hz2⟩ := info_parts hE.info
  have hs : (P.info? e).map (·.size) = some size := by rw [hi]; simp [hz1]
  have hz : ∀ w, (zeroValue e).run P w = .ok z w := by
    intro w; simp [zeroValue, typeInfo, hi, hz0]
  have hf : ∀ Z : Array Value, Z.size = size → Instr.fill (fun i => some (i * size, size)) Z [(0, Value.agg cs.toArray)] = some cs.toArray := by
    intro Z hZ
    have hlay : List.foldl (fun cs (x : Value × Nat) => cs.setIfInBounds (0 + x.2) x.1) Z cs.zipIdx = cs.toArray := by
      rw [foldl_lay 0 cs 0 Z (by omega), lay_whole _ _ (by rw [Array.length_toList]; omega)]
    simp only [Nat.zero_add] at hlay
    have hc : (Value.agg cs.toArray).cells = cs.toArray := rfl
    unfold Instr.fill
    simp [hc, hcs, hZ, Instr.fill, hlay]
  unfold Oper.wp
  have : (execOp a.eval o).run P w = .ok (.value (.slice (some ⟨w.heap.size, 0, none⟩) 1 1)) (w.alloc (.cells cs.toArray e)) := by
    have hp := hE.pos
    simp only [execOp, ho]
    simp only [List.map_toArray, List.map_cons, List.map_nil, hx]
    simp only [Instr.buildSlice]
    have hfs := hf ((Array.range size).map (z.cells[· % z.cells.size]!)) (by simp)
    simp [Sem.run_bind, run_underlying hE.und, run_sizeOf hs, hz, Result.andThen, show ¬ (16777216 < size) by omega, show ¬ (size = 0) by omega, newRow, newObj, hfs]
    rfl
  rw [this]; exact h
theorem wpList_build_one (hE : ElemT P t e z size bytes) (hgd : o.guard = none) (x : Operand) (ho : o.op = .buildSlice t 1 #[(0, x)]) (cs : List Value) (hx : a.eval x = .agg cs.toArray) (hcs : cs.length = size) (hsz : size ≤ 16777216)
    (h : wpList P ops Q rest (a.put o.dst (.slice (some ⟨w.heap.size, 0, none⟩) 1 1)) (w.alloc (.cells cs.toArray e))) : wpList P ops Q (o :: rest) a w :=
  wpList_plain hgd fun _ hK => wp_build_one hE x ho cs hx hcs hsz (hK _ _ h)
end
end Go.Proofs.YtmindblfbijaaaaDoor
