/-
  Laws: append of a whole slice to a slice that the call owns; the first append of a made row; no program in sight.
-/
import Derived.Test.YtmindblfbijaaaaDoorOwn
import Derived.Laws.AppendOwnNone
import Derived.Lib.AppendZerosOnto
namespace Go.Proofs.YtmindblfbijaaaaDoor
open Go.RowKit
section
variable {P : Program} {ops : Array Oper} {rest : List Oper} {o : Oper} {a : Act} {w : World} {Q : Exit → Act → World → Prop} {t e : TypeId} {z : Value} {size bytes : Nat}
theorem grownBy_refl (w : World) (row : Option Nat) : w.grownBy w row := ⟨rfl, rfl, rfl, Nat.le_refl _, fun _ _ _ => rfl⟩
/-- append(v, x...): v is owned, x reads as news. -/
theorem wpList_append_sl (hE : ElemT P t e z size bytes) (hgd : o.guard = none) (s x : Operand) (ho : o.op = .call ⟨.builtin .append, #[s, x], #[t, t]⟩) (base : Nat) (v : Value) (n : Nat) (xs : List Value)
    (hs : a.eval s = v) (hown : w.ownsRow base e size v n xs) (xv : Value) (m : Nat) (news : List Value) (hx : a.eval x = xv) (hS : Sl w xv m news) (hl : news.length = m * size) (h1 : ∀ u ∈ news, u.oneCell' = true)
    (hn : n + m ≤ 140737488355328) (hn2 : (n + m) * bytes ≤ 140737488355328) (hbase : base ≤ w.heap.size)
    (h : ∀ v' w', w'.ownsRow base e size v' (n + m) (xs ++ news) → w.grownBy w' v.ownBlock → wpList P ops Q rest (a.put o.dst v') w') :
    wpList P ops Q (o :: rest) a w := by
  obtain ⟨i0, hi, hz0, hz1, hz2⟩ := info_parts hE.info
  obtain ⟨ao, cap, rfl, hle, hcap, hnil, hc⟩ := hS
  cases ao with
  | none =>
    obtain rfl := hnil rfl
    obtain rfl : m = 0 := by omega
    obtain rfl : news = [] := List.length_eq_zero_iff.1 (by simpa using hl)
    refine wpList_append_own_none hgd s x t ho base e i0 size hE.und hi v n xs hs hown hx ?_
    exact h v w (by simpa using hown) (grownBy_refl _ _)
  | some ad =>
    obtain ⟨b, off, sp⟩ := ad
    obtain ⟨rfl, hc'⟩ := hc b off sp rfl
    refine wpList_append_own _ hgd s x t ho base e i0 z size bytes hE.und hi hz0 hz1 hz2 hE.zs hE.pos v n xs hs hown ⟨b, off, none⟩ m cap news hx hl (fun j u hj => by rw [addr_add]; exact hc' j u hj) h1 (by unfold maxLen; omega) hn2 hbase ?_
    exact fun v' w' h1 h2 _ => h v' w' h1 h2
/-- append(nil, make([]E, k)...): a new row of k zero elements, with some capacity. -/
theorem wpList_append_make_nil (hE : ElemT P t e z size bytes) (hgd : o.guard = none) (s x : Operand) (tn : TypeId) (kn : IntKind) (htn : P.underlying tn = some (.int kn)) (ho : o.op = .call ⟨.builtin .append, #[s, x], #[t, tn]⟩)
    (k : Nat) (hs : a.eval s = .slice none 0 0) (hx : a.eval x = .int .i64 k) (hk : 0 < k) (hn2 : k * bytes ≤ 140737488355328) (hk2 : k ≤ 140737488355328)
    (h : ∀ cap w', k ≤ cap → cap ≤ 9223372036854775807 → w'.ownsRow w.heap.size e size (.slice (some ⟨w.heap.size, 0, none⟩) 0 cap) 0 [] → w.grownBy w' none → w.heap.size < w'.heap.size → wpList P ops Q rest (a.put o.dst (.slice (some ⟨w.heap.size, 0, none⟩) k cap)) w') :
    wpList P ops Q (o :: rest) a w := by
  obtain ⟨i0, hi, hz0, hz1, hz2⟩ := info_parts hE.info
  have hp := hE.pos
  have hold : (Builtin.firstCells i0.size 0 (.slice none 0 0)).run P w.drew = .ok (#[] : Array Value) w.drew := run_firstCells_none w.drew i0.size 0 0 0
  have hnx : Builtin.nextslicecap (0 + k) 0 = k := by unfold Builtin.nextslicecap; simp [hk]
  have hrun := Lib.run_append_grow_zeros w t tn o.type e i0 z .i64 kn hE.und htn hi hz0 none 0 0 [] hold k hk (by rw [hz1]; exact hp) (by omega) (by omega) (by rw [hz2]; omega) (by rw [hnx, hz2]; omega)
  have hge := grownCap_ge w (0 + k) 0 e
  have hle := grownCap_le_maxLen w (0 + k) 0 e (by unfold maxLen; omega)
  obtain ⟨cap, hcap⟩ : ∃ c, c = grownCap w (0 + k) 0 e := ⟨_, rfl⟩
  rw [← hcap] at hrun hge hle
  refine wpList_plain hgd fun K hK => ?_
  unfold Oper.wp
  simp [execOp, ho, resolve, invoke, builtin, hs, hx, hrun, Result.andThen]
  refine hK _ _ (h cap _ (by omega) (by unfold maxLen at hle; omega) ?_ ?_ (by simp))
  · refine World.ownsRow_made w.drew _ cap (Nat.le_refl _) hle ?_
    simp [Builtin.zeroCells, hE.zs]
    rw [← Nat.add_mul]; congr 1; omega
  · exact ⟨rfl, rfl, rfl, by simp, fun j hj _ => Below.heap_alloc _ _ _ hj⟩
end
end Go.Proofs.YtmindblfbijaaaaDoor
