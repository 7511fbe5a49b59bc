/-
  Slices: what a slice value reads as (Sl), slices that a call owns (the library's ownsRow), and laws for append; no program in sight.
-/
import Derived.Test.YtmindblfbijaaaaDoorMem
import Derived.Laws.AppendOwn
import Derived.ArgAppend
import Derived.RangeFuncBox
namespace Go.Proofs.YtmindblfbijaaaaDoor
open Go.RowKit
/-- A slice value with n elements whose cells are cs. -/
def Sl (w : World) (v : Value) (n : Nat) (cs : List Value) : Prop :=
  ∃ ao cap, v = .slice ao n cap ∧ n ≤ cap ∧ cap ≤ 9223372036854775807 ∧ (ao = none → cap = 0) ∧ ∀ b o s, ao = some ⟨b, o, s⟩ → s = none ∧ ∀ j u, cs[j]? = some u → w.cell? ⟨b, o + j, none⟩ = some u
theorem Sl.below {w w' : World} {v : Value} {n : Nat} {cs : List Value} (h : Sl w v n cs) (hb : Below w.heap.size w w') : Sl w' v n cs := by
  obtain ⟨ao, cap, h1, h2, h3, h4, h5⟩ := h
  exact ⟨ao, cap, h1, h2, h3, h4, fun b o s e => ⟨(h5 b o s e).1, fun j u hj => by
    have := (h5 b o s e).2 j u hj
    exact (hb.cell (block_lt_of_cell this)).trans this⟩⟩
def slLen : Value → Nat | .slice _ n _ => n | _ => 0
/-- A slice type t with elements of type e. -/
structure ElemT (P : Program) (t e : TypeId) (z : Value) (size bytes : Nat) : Prop where
  und : P.underlying t = some (.slice e)
  info : (P.info? e).map (fun i => (i.zero, i.size, i.bytes)) = some (some z, size, bytes)
  zs : z.cells.size = size
  pos : 0 < size
section
variable {P : Program} {ops : Array Oper} {rest : List Oper} {o : Oper} {a : Act} {w : World} {Q : Exit → Act → World → Prop} {t e : TypeId} {z : Value} {size bytes : Nat}
theorem ownBlock_slice (g o : Nat) (s : Option Nat) (n c : Nat) : (Value.slice (some ⟨g, o, s⟩) n c).ownBlock = some g := rfl
theorem own_succ {W : World} {base : Nat} {v : Value} {k : Nat} {xs : List Value} (h : W.ownsRow base e size v (k + 1) xs) :
    ∃ g cap, v = .slice (some ⟨g, 0, none⟩) (k + 1) cap ∧ base ≤ g ∧ g < W.heap.size := by
  rcases h.2 with ⟨_, h0⟩ | ⟨g, cap, cur, rfl, hb, hg, _⟩
  · omega
  · exact ⟨g, cap, rfl, hb, lt_of_block hg⟩
/-- Append of one element, which lies in a block of its own, to a slice that the call owns. -/
theorem wpList_push (hE : ElemT P t e z size bytes) (hgd : o.guard = none) (s x : Operand) (ho : o.op = .call ⟨.builtin .append, #[s, x], #[t, t]⟩) (base : Nat) (v : Value) (n : Nat) (xs : List Value)
    (hs : a.eval s = v) (hown : w.ownsRow base e size v n xs) (g : Nat) (hx : a.eval x = .slice (some ⟨g, 0, none⟩) 1 1) (cs : List Value) (hA : Arr w g cs) (hcs : cs.length = size) (h1 : ∀ u ∈ cs, u.oneCell' = true)
    (hn : n + 1 ≤ 140737488355328) (hn2 : (n + 1) * bytes ≤ 140737488355328) (hbase : base ≤ w.heap.size)
    (h : ∀ g' cap w', w'.ownsRow base e size (.slice (some ⟨g', 0, none⟩) (n + 1) cap) (n + 1) (xs ++ cs) → w.grownBy w' v.ownBlock → base ≤ g' → g' < w'.heap.size → wpList P ops Q rest (a.put o.dst (.slice (some ⟨g', 0, none⟩) (n + 1) cap)) w') :
    wpList P ops Q (o :: rest) a w := by
  obtain ⟨i0, hi, hz0, hz1, hz2⟩ := info_parts hE.info
  refine wpList_append_own _ hgd s x t ho base e i0 z size bytes hE.und hi hz0 hz1 hz2 hE.zs hE.pos v n xs hs hown ⟨g, 0, none⟩ 1 1 cs hx (by rw [hcs, Nat.one_mul]) (fun j u hj => by rw [addr_add, Nat.zero_add]; exact hA.cell hj) h1 (by unfold maxLen; omega) hn2 hbase ?_
  intro v' w' hown' hg _
  obtain ⟨g', cap, rfl, hb, hlt⟩ := own_succ hown'
  exact h g' cap w' hown' hg hb hlt
/-- The same, the slice written out. -/
theorem wpList_push_at (hE : ElemT P t e z size bytes) (hgd : o.guard = none) (s x : Operand) (ho : o.op = .call ⟨.builtin .append, #[s, x], #[t, t]⟩) (base : Nat) (n : Nat) (xs : List Value)
    (g0 c0 : Nat) (hs : a.eval s = .slice (some ⟨g0, 0, none⟩) n c0) (hown : w.ownsRow base e size (.slice (some ⟨g0, 0, none⟩) n c0) n xs) (g : Nat) (hx : a.eval x = .slice (some ⟨g, 0, none⟩) 1 1) (cs : List Value) (hA : Arr w g cs) (hcs : cs.length = size) (h1 : ∀ u ∈ cs, u.oneCell' = true)
    (hn : n + 1 ≤ 140737488355328) (hn2 : (n + 1) * bytes ≤ 140737488355328) (hbase : base ≤ w.heap.size)
    (h : ∀ g' cap w', w'.ownsRow base e size (.slice (some ⟨g', 0, none⟩) (n + 1) cap) (n + 1) (xs ++ cs) → w.grownBy w' (some g0) → base ≤ g' → g' < w'.heap.size → wpList P ops Q rest (a.put o.dst (.slice (some ⟨g', 0, none⟩) (n + 1) cap)) w') :
    wpList P ops Q (o :: rest) a w := wpList_push hE hgd s x ho base _ n xs hs hown g hx cs hA hcs h1 hn hn2 hbase h
/-- The same onto a slice that has no room (its capacity is its length). -/
theorem wpList_push_grow (hE : ElemT P t e z size bytes) (hgd : o.guard = none) (s x : Operand) (ho : o.op = .call ⟨.builtin .append, #[s, x], #[t, t]⟩) (ao : Option Addr) (n : Nat) (olds : List Value)
    (hs : a.eval s = .slice ao n n) (hnil : ao = none → n = 0) (hlo : olds.length = n * size) (hold : ∀ b o s, ao = some ⟨b, o, s⟩ → s = none ∧ ∀ j u, olds[j]? = some u → w.cell? ⟨b, o + j, none⟩ = some u)
    (g : Nat) (hx : a.eval x = .slice (some ⟨g, 0, none⟩) 1 1) (cs : List Value) (hA : Arr w g cs) (hcs : cs.length = size) (h1 : ∀ u ∈ cs, u.oneCell' = true)
    (hn : n + 1 ≤ 140737488355328) (hn2 : (n + 1) * bytes ≤ 140737488355328)
    (h : ∀ g' cap w', w'.ownsRow w.heap.size e size (.slice (some ⟨g', 0, none⟩) (n + 1) cap) (n + 1) (olds ++ cs) → w.grownBy w' none → w.heap.size ≤ g' → g' < w'.heap.size → wpList P ops Q rest (a.put o.dst (.slice (some ⟨g', 0, none⟩) (n + 1) cap)) w') :
    wpList P ops Q (o :: rest) a w := by
  obtain ⟨i0, hi, hz0, hz1, hz2⟩ := info_parts hE.info
  refine wpList_append_grows _ hgd s x t ho e i0 z size bytes hE.und hi hz0 hz1 hz2 hE.zs hE.pos ao n n olds hs (fun h => ⟨hnil h, hnil h⟩) hlo (fun b hb j u hj => ?_) ⟨g, 0, none⟩ 1 1 cs hx (by rw [hcs, Nat.one_mul]) (fun j u hj => by rw [addr_add, Nat.zero_add]; exact hA.cell hj) h1 (by omega) (by unfold maxLen; omega) hn2 ?_
  · obtain ⟨b, o, s⟩ := b
    obtain ⟨rfl, hc⟩ := hold b o s hb
    rw [addr_add]; exact hc j u hj
  intro v' w' hown' hg
  obtain ⟨g', cap, rfl, hb, hlt⟩ := own_succ hown'
  exact h g' cap w' hown' hg hb hlt
theorem own_base {W : World} {base base' : Nat} {v : Value} {k : Nat} {xs : List Value} (h : W.ownsRow base e size v k xs) (hb : base' ≤ base) : W.ownsRow base' e size v k xs := by
  refine ⟨h.1, ?_⟩
  rcases h.2 with h2 | ⟨g, cap, cur, hv, hb2, r⟩
  · exact .inl h2
  · exact .inr ⟨g, cap, cur, hv, by omega, r⟩
/-- What an owned slice reads as. -/
theorem own_sl {W : World} {base : Nat} {v : Value} {k : Nat} {xs : List Value} (h : W.ownsRow base e size v k xs) : Sl W v k xs := by
  have h0 := h
  rcases h.2 with ⟨rfl, rfl⟩ | ⟨g, cap, cur, rfl, hb, hg, hle, hm, _⟩
  · exact ⟨none, 0, rfl, Nat.le_refl _, by omega, fun _ => rfl, fun b o s e => by cases e⟩
  · refine ⟨_, cap, rfl, hle, by unfold maxLen at hm; omega, fun e => (by cases e), fun b o s e => ?_⟩
    simp only [Option.some.injEq, Addr.mk.injEq] at e
    obtain ⟨rfl, rfl, rfl⟩ := e
    exact ⟨rfl, fun j u hj => by
      have := h0.cells (g := g) rfl j u hj
      rwa [addr_add] at this⟩
/-- The block of an owned slice that is not nil. -/
theorem own_arr {W : World} {base g n cap : Nat} {xs : List Value} (h : W.ownsRow base e size (.slice (some ⟨g, 0, none⟩) n cap) n xs) :
    ∃ cur, Arr W g cur ∧ cur.take (n * size) = xs ∧ n ≤ cap ∧ cap ≤ 9223372036854775807 ∧ cur.length = cap * size := by
  rcases h.2 with ⟨h0, _⟩ | ⟨g', cap', cur, he, hb, hg, hle, hm, hsz, ht⟩
  · cases h0
  · simp only [Value.slice.injEq, Option.some.injEq, Addr.mk.injEq, true_and, and_true] at he
    obtain ⟨rfl, rfl⟩ := he
    exact ⟨cur.toList, ⟨e, by simpa using hg⟩, ht, hle, by unfold maxLen at hm; omega, by simpa using hsz⟩
end
end Go.Proofs.YtmindblfbijaaaaDoor
