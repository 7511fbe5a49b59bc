/-
  Lemmas, part 2 of 8: walks through the program's functions, and plain Lean about what they compute.
-/
import Derived.Laws.AppendOwn
import Derived.ArgAppend
import Derived.RangeFuncBox
import Derived.TacticsIn
import Derived.OwnWalkIn
import Derived.RangeFuncFrom
import Derived.RangeFuncNested
import Derived.RangeFuncBound
import Derived.RangeFuncCalls
import Derived.RangeFuncLeaves
import Derived.Shelf.Abstract
import Derived.Shelf.RegionOpen
import Derived.TacticsInMore
import Derived.LoopNIn
import Derived.LoopIn
import Derived.Test.YtbaccmkhjmmlnaaDoorRows
import Derived.WalkKit
import Derived.WalkSpells
import Derived.WalkLawsBesides
import Derived.BigQuiet
import Derived.Deep.QuietTactic
import Derived.Deep.RegionHeld3
import Derived.Deep.DeepCutAuto
import Derived.Deep.LoopGhost
import Derived.StillTailTactics
import Derived.Lib.Hide
import Derived.Handy
import Derived.Laws.AppendOwnNone
import Derived.Lib.AppendZerosOnto
import Derived.StillTail
import Derived.Lib.ItoaNum
import Derived.Test.YtbaccmkhjmmlnaaDoorShelf
import Derived.Test.YtbaccmkhjmmlnaaDoorZ1
set_option linter.unnecessarySimpa false
set_option linter.unusedSimpArgs false
set_option linter.unusedVariables false
namespace Go.Proofs.YtbaccmkhjmmlnaaDoor
section
open Go.RowKit
def Sl (w : World) (v : Value) (n : Nat) (cs : List Value) : Prop :=
 ∃ ao cap, v = .slice ao n cap ∧ n ≤ cap ∧ cap ≤ 9223372036854775807 ∧ (ao = none → cap = 0) ∧ ∀ b o s, ao = some ⟨b, o, s⟩ → (0 < cap → s = none) ∧ ∀ j u, cs[j]? = some u → w.cell? ⟨b, o + j, none⟩ = some u
theorem Sl.below {w w' : World} {v : Value} {n : Nat} {cs : List Value} (h : Sl w v n cs) (hb : Below w.heap.size w w') : Sl w' v n cs := by
 obtain ⟨ao, cap, h1, h2, h3, h4, h5⟩ := h
 exact ⟨ao, cap, h1, h2, h3, h4, fun b o s e => ⟨(h5 b o s e).1, fun j u hj => by
  have := (h5 b o s e).2 j u hj
  exact (hb.cell (block_lt_of_cell this)).trans this⟩⟩
def na : Value → Nat | .slice _ n _ => n | _ => 0
structure ElemT (P : Program) (t e : TypeId) (z : Value) (size bytes : Nat) : Prop where
 und : P.underlying t = some (.slice e)
 info : (P.info? e).map (fun i => (i.zero, i.size, i.bytes)) = some (some z, size, bytes)
 zs : z.cells.size = size
 pos : 0 < size
section
variable {P : Program} {ops : Array Oper} {rest : List Oper} {o : Oper} {a : Act} {w : World} {Q : Exit → Act → World → Prop} {t e : TypeId} {z : Value} {size bytes : Nat}
theorem pt {W : World} {base : Nat} {v : Value} {k : Nat} {xs : List Value} (h : W.ownsRow base e size v (k + 1) xs) :
  ∃ g cap, v = .slice (some ⟨g, 0, none⟩) (k + 1) cap ∧ base ≤ g ∧ g < W.heap.size := by
 rcases h.2 with ⟨_, h0⟩ | ⟨g, cap, cur, rfl, hb, hg, _⟩
 ·omega
 ·exact ⟨g, cap, rfl, hb, lt_of_block hg⟩
theorem mp (hE : ElemT P t e z size bytes) (hgd : o.guard = none) (s x : Operand) (ho : o.op = .call ⟨.builtin .append, #[s, x], #[t, t]⟩) (base : Nat) (v : Value) (n : Nat) (xs : List Value)
  (hs : a.eval s = v) (hown : w.ownsRow base e size v n xs) (g : Nat) (hx : a.eval x = .slice (some ⟨g, 0, none⟩) 1 1) (cs : List Value) (hA : Arr w g cs) (hcs : cs.length = size) (h1 : ∀ u ∈ cs, u.oneCell' = true)
  (hn : n + 1 ≤ 140737488355328) (hn2 : (n + 1) * bytes ≤ 140737488355328) (hbase : base ≤ w.heap.size)
  (h : ∀ g' cap w', w'.ownsRow base e size (.slice (some ⟨g', 0, none⟩) (n + 1) cap) (n + 1) (xs ++ cs) → w.grownBy w' v.ownBlock → base ≤ g' → g' < w'.heap.size → wpList P ops Q rest (a.put o.dst (.slice (some ⟨g', 0, none⟩) (n + 1) cap)) w') :
  wpList P ops Q (o :: rest) a w := by
 obtain ⟨i0, hi, hz0, hz1, hz2⟩ := info_parts hE.info
 refine wpList_append_own _ hgd s x t ho base e i0 z size bytes hE.und hi hz0 hz1 hz2 hE.zs hE.pos v n xs hs hown ⟨g, 0, none⟩ 1 1 cs hx (by rw [hcs, Nat.one_mul]) (fun j u hj => by rw [cX, Nat.zero_add]; exact hA.cell hj) h1 (by unfold maxLen; omega) hn2 hbase ?_
 intro v' w' hown' hg _
 obtain ⟨g', cap, rfl, hb, hlt⟩ := pt hown'
 exact h g' cap w' hown' hg hb hlt
theorem mP (hE : ElemT P t e z size bytes) (hgd : o.guard = none) (s x : Operand) (ho : o.op = .call ⟨.builtin .append, #[s, x], #[t, t]⟩) (base : Nat) (n : Nat) (xs : List Value)
  (g0 c0 : Nat) (hs : a.eval s = .slice (some ⟨g0, 0, none⟩) n c0) (hown : w.ownsRow base e size (.slice (some ⟨g0, 0, none⟩) n c0) n xs) (g : Nat) (hx : a.eval x = .slice (some ⟨g, 0, none⟩) 1 1) (cs : List Value) (hA : Arr w g cs) (hcs : cs.length = size) (h1 : ∀ u ∈ cs, u.oneCell' = true)
  (hn : n + 1 ≤ 140737488355328) (hn2 : (n + 1) * bytes ≤ 140737488355328) (hbase : base ≤ w.heap.size)
  (h : ∀ g' cap w', w'.ownsRow base e size (.slice (some ⟨g', 0, none⟩) (n + 1) cap) (n + 1) (xs ++ cs) → w.grownBy w' (some g0) → base ≤ g' → g' < w'.heap.size → wpList P ops Q rest (a.put o.dst (.slice (some ⟨g', 0, none⟩) (n + 1) cap)) w') :
  wpList P ops Q (o :: rest) a w := mp hE hgd s x ho base _ n xs hs hown g hx cs hA hcs h1 hn hn2 hbase h
theorem pz (hE : ElemT P t e z size bytes) (hgd : o.guard = none) (s x : Operand) (ho : o.op = .call ⟨.builtin .append, #[s, x], #[t, t]⟩) (ao : Option Addr) (n : Nat) (olds : List Value)
  (hs : a.eval s = .slice ao n n) (hnil : ao = none → n = 0) (hlo : olds.length = n * size) (hold : ∀ b o s, ao = some ⟨b, o, s⟩ → (0 < n → s = none) ∧ ∀ j u, olds[j]? = some u → w.cell? ⟨b, o + j, none⟩ = some u)
  (g : Nat) (hx : a.eval x = .slice (some ⟨g, 0, none⟩) 1 1) (cs : List Value) (hA : Arr w g cs) (hcs : cs.length = size) (h1 : ∀ u ∈ cs, u.oneCell' = true)
  (hn : n + 1 ≤ 140737488355328) (hn2 : (n + 1) * bytes ≤ 140737488355328)
  (h : ∀ g' cap w', w'.ownsRow w.heap.size e size (.slice (some ⟨g', 0, none⟩) (n + 1) cap) (n + 1) (olds ++ cs) → w.grownBy w' none → w.heap.size ≤ g' → g' < w'.heap.size → wpList P ops Q rest (a.put o.dst (.slice (some ⟨g', 0, none⟩) (n + 1) cap)) w') :
  wpList P ops Q (o :: rest) a w := by
 obtain ⟨i0, hi, hz0, hz1, hz2⟩ := info_parts hE.info
 refine wpList_append_grows _ hgd s x t ho e i0 z size bytes hE.und hi hz0 hz1 hz2 hE.zs hE.pos ao n n olds hs (fun h => ⟨hnil h, hnil h⟩) hlo (fun b hb j u hj => ?_) ⟨g, 0, none⟩ 1 1 cs hx (by rw [hcs, Nat.one_mul]) (fun j u hj => by rw [cX, Nat.zero_add]; exact hA.cell hj) h1 (by omega) (by unfold maxLen; omega) hn2 ?_
 ·obtain ⟨b, o, s⟩ := b
  have hjl := (List.getElem?_eq_some_iff.1 hj).1
  obtain ⟨hs0, hc⟩ := hold b o s hb
  obtain rfl := hs0 (by rw [hlo] at hjl; exact Nat.pos_of_mul_pos_right (Nat.lt_of_le_of_lt (Nat.zero_le _) hjl))
  rw [cX]; exact hc j u hj
 intro v' w' hown' hg
 obtain ⟨g', cap, rfl, hb, hlt⟩ := pt hown'
 exact h g' cap w' hown' hg hb hlt
theorem xT {W : World} {base base' : Nat} {v : Value} {k : Nat} {xs : List Value} (h : W.ownsRow base e size v k xs) (hb : base' ≤ base) : W.ownsRow base' e size v k xs := by
 refine ⟨h.1, ?_⟩
 rcases h.2 with h2 | ⟨g, cap, cur, hv, hb2, r⟩
 ·exact .inl h2
 ·exact .inr ⟨g, cap, cur, hv, by omega, r⟩
theorem zM {W : World} {base : Nat} {v : Value} {k : Nat} {xs : List Value} (h : W.ownsRow base e size v k xs) : Sl W v k xs := by
 have h0 := h
 rcases h.2 with ⟨rfl, rfl⟩ | ⟨g, cap, cur, rfl, hb, hg, hle, hm, _⟩
 ·exact ⟨none, 0, rfl, Nat.le_refl _, by omega, fun _ => rfl, fun b o s e => by cases e⟩
 ·refine ⟨_, cap, rfl, hle, by unfold maxLen at hm; omega, fun e => (by cases e), fun b o s e => ?_⟩
  simp only [Option.some.injEq, Addr.mk.injEq] at e
  obtain ⟨rfl, rfl, rfl⟩ := e
  exact ⟨fun _ => rfl, fun j u hj => by
   have := h0.cells (g := g) rfl j u hj
   rwa [cX] at this⟩
theorem uy {W : World} {base g n cap : Nat} {xs : List Value} (h : W.ownsRow base e size (.slice (some ⟨g, 0, none⟩) n cap) n xs) :
  ∃ cur, Arr W g cur ∧ cur.take (n * size) = xs ∧ n ≤ cap ∧ cap ≤ 9223372036854775807 ∧ cur.length = cap * size := by
 rcases h.2 with ⟨h0, _⟩ | ⟨g', cap', cur, he, hb, hg, hle, hm, hsz, ht⟩
 ·cases h0
 ·simp only [Value.slice.injEq, Option.some.injEq, Addr.mk.injEq, true_and, and_true] at he
  obtain ⟨rfl, rfl⟩ := he
  exact ⟨cur.toList, ⟨e, by simpa using hg⟩, ht, hle, by unfold maxLen at hm; omega, by simpa using hsz⟩
end
end
section
open Go.RowKit
section
variable {P : Program} {F : Fence} {n : Nat} {ops : Array Oper} {rest : List Oper} {o : Oper} {a : Act} {w w' : World} {Q : Exit → Act → World → Prop}
theorem o9 (hF : ∀ f, F.fn f) (hgd : o.guard = none) (hnd : ∀ c, o.op ≠ .defer c) {v : Value} (hrun : (execOp a.eval o).run P w = .ok (.value v) w') (h : wpListIn F n P ops Q rest (a.put o.dst v) w') :
  wpListIn F n P ops Q (o :: rest) a w := by
 refine wpListIn_plain hgd fun K hK => ⟨fun f _ => hF f, ?_⟩
 rw [Oper.semAt_plain F _ _ hnd, hrun, Oper.uponIn_value]
 exact hK _ _ h
theorem qa (hF : ∀ f, F.fn f) (hgd : o.guard = none) (hnd : ∀ c, o.op ≠ .defer c) (hd : o.dst = none) (hrun : (execOp a.eval o).run P w = .ok .skip w') (h : wpListIn F n P ops Q rest a w') :
  wpListIn F n P ops Q (o :: rest) a w := by
 refine wpListIn_plain hgd fun K hK => ⟨fun f _ => hF f, ?_⟩
 rw [Oper.semAt_plain F _ _ hnd, hrun, Oper.uponIn_skip, hd]
 exact hK _ _ h
theorem nR (hF : ∀ f, F.fn f) (hgd : o.guard = none) (ty : TypeId) (x : Operand) (ho : o.op = .load ty x) (g off : Nat) (hx : a.eval x = .pointer (some ⟨g, off, none⟩))
  (cs : List Value) (hT : ms P ty cs.length) (hc : ∀ j v, cs[j]? = some v → w.cell? ⟨g, off + j, none⟩ = some v)
  (h : wpListIn F n P ops Q rest (a.put o.dst (.agg cs.toArray)) w) : wpListIn F n P ops Q (o :: rest) a w := by
 have hl : (loadCells ⟨g, off, none⟩ cs.length).run P w = .ok cs.toArray w :=
  run_loadCells_list (P := P) w ⟨g, off, none⟩ cs (fun j v hv => by rw [cX]; exact hc j v hv)
 refine o9 hF hgd (by rw [ho]; intro c hc; cases hc) ?_ h
 simp only [execOp, ho, hx]
 simp [Instr.loadAt, Instr.sureAddr, loadVar, Sem.run_bind, hT.1, dP hT.2, hl, Result.andThen]
theorem m9 (hF : ∀ f, F.fn f) (hgd : o.guard = none) (hd : o.dst = none) (ty : TypeId) (x y : Operand) (ho : o.op = .store ty x y) (g off : Nat) (hx : a.eval x = .pointer (some ⟨g, off, none⟩))
  (cs : List Value) (hy : a.eval y = .agg cs.toArray) (hT : (P.info? ty).map (·.size) = some cs.length) (h1 : ∀ v ∈ cs, v.oneCell' = true) (cur : List Value) (hA : Arr w g cur) (hfit : off + cs.length ≤ cur.length)
  (h : ∀ w', Arr w' g (lay cur off cs) → w.grownBy w' (some g) → wpListIn F n P ops Q rest a w') : wpListIn F n P ops Q (o :: rest) a w := by
 obtain ⟨T, hg⟩ := hA
 have hs : (storeCells ⟨g, off, none⟩ cs).run P w = .ok () (w.setRow g (lay cur off cs).toArray) := by
  have := run_storeCells_at P g off T cs 0 cur.toArray w hg (by simpa using hfit) h1
  simpa [lay] using this
 refine qa (w' := w.setRow g (lay cur off cs).toArray) hF hgd (by rw [ho]; intro c hc; cases hc) hd ?_ (h _ (Arr.setRow ⟨T, hg⟩ _) (eF _ _ _))
 simp only [execOp, ho, hx, hy]
 simp [Instr.storeAt, Instr.sureAddr, storeVar, Sem.run_bind, Value.cells, dP hT, hs, Result.andThen]
end
theorem rZ {P : Program} {w : World} {fn : Func} {p : Tmp} {ty : TypeId} (hr : fn.results = #[.cell p ty]) (tmps : Array Value) (g : Nat) (hp : tmps.getD p undef = .pointer (some ⟨g, 0, none⟩))
  (cs : List Value) (hA : Arr w g cs) (hT : ms P ty cs.length) : (results fn tmps).run P w = .ok (.agg cs.toArray) w := by
 have hl : (loadCells ⟨g, 0, none⟩ cs.length).run P w = .ok cs.toArray w :=
  run_loadCells_list (P := P) w ⟨g, 0, none⟩ cs (fun j v hv => by rw [cX, Nat.zero_add]; exact hA.cell hv)
 have hp' : tmps[p]?.getD undef = .pointer (some ⟨g, 0, none⟩) := by simpa using hp
 simp [results, hr, hp', asAddr, loadVar, Sem.run_bind, hT.1, dP hT.2, hl, Result.andThen]
theorem Arr.ownK {W W' : World} {row : Option Nat} {b : Nat} {cs : List Value} (h : Arr W b cs) (hg : W.grownBy W' row) (hr : ∀ r, row = some r → ∃ o : Obj, W.heap[r]? = some o ∧ o.isCells = false) : Arr W' b cs := by
 refine h.grown hg (fun e => ?_)
 obtain ⟨o, ho, hc⟩ := hr b e.symm
 obtain ⟨T, hT⟩ := h
 rw [hT] at ho
 cases ho; cases hc
theorem re {W W' : World} (h : Below W.heap.size W W') : KeepsOthers W W' :=
 ⟨h.size, fun k o hk _ => (h.block k (Array.getElem?_eq_some_iff.1 hk).1).trans hk⟩
theorem qO {W W' : World} {g : Nat} {cs : List Value} (hA : Arr W g cs) (h : W.grownBy W' (some g)) : KeepsOthers W W' :=
 KeepsOthers.of_grownBy h (fun j o e ho => by
  cases e
  obtain ⟨T, hT⟩ := hA
  rw [hT] at ho; cases ho; rfl)
end
section
open Go.RowKit Go.Shelf
attribute [local go_sem] Oper.semAt_some
def ip (w : World) : Prop := (∀ i, i < 8 → w.cell? ⟨0, i, none⟩ = some (.int .u32 (Sha.begin8.getD i 0).toNat)) ∧ (∀ i, i < 64 → w.cell? ⟨1, i, none⟩ = some (.int .u32 (Sha.keys64.getD i 0).toNat))
theorem ip.below {B : Nat} {w w' : World} (h : ip w) (hb : Below B w w') (hB : 2 ≤ B) : ip w' :=
 ⟨fun i hi => (hb.cell (p := ⟨0, i, none⟩) (by simp; omega)).trans (h.1 i hi), fun i hi => (hb.cell (p := ⟨1, i, none⟩) (by simp; omega)).trans (h.2 i hi)⟩
theorem ip.size {w : World} (h : ip w) : 2 ≤ w.heap.size := block_lt_of_cell (h.2 0 (by omega))
theorem kX : ElemT Tryd.prog 24 5 (.int .u8 0) 1 1 := ⟨Tryd.underlying24, by kernel_rfl, rfl, by decide⟩
theorem cY : ms Tryd.prog 47 32 := ⟨fun _ => by kernel_rfl, by kernel_rfl⟩
set_option maxRecDepth 100000 in
set_option maxHeartbeats 1000000 in
theorem uM (v : Value) (l : List UInt8) (w : World) (hg : ip w) (hS : Sl w v l.length (u8s l)) (hn : l.length ≤ 1000000) :
  Calls Tryd.prog 59 #[v] w fun e w' => e = .returned (.agg (u8s (Sha.sum l)).toArray) ∧ Below w.heap.size w w' := by
 obtain ⟨ao, cap, rfl, hle, hcap, hnil, hcell⟩ := hS
 obtain ⟨n, hnn⟩ : ∃ n, n = l.length := ⟨_, rfl⟩
 rw [← hnn] at hle hn
 have Hn := Lib.hid hnn
 have HG := Lib.hid hg; clear hg
 have HC := Lib.hid hcell; clear hcell
 have Hnil := Lib.hid hnil; clear hnil
 rw [← hnn]
 clear hnn
 refine callsIn_wide (n := 2).1 ?_
 refine callsIn_of_wp_marks Tryd.func59 rfl trivial ?_ rfl
 simp only [Tryd.ntmps59, List.size_toArray, List.length_cons, List.length_nil, Nat.reduceAdd, Nat.reduceSub, Array.replicate_succ, Array.replicate_zero, List.push_toArray, List.append_toArray, List.nil_append, List.cons_append]
 refine wpIn_wide.2 ?_
 go_wp2_with (first
  | (go_at_call 83; refine (yD ao n cap _ hle hcap Hnil.out).mono ?_; rintro e w' ⟨rfl, rfl⟩)
  | (at_builtin; refine Hid.out ?_))
 refine db ?_
 refine pz kX rfl _ _ rfl ao n (u8s l) rfl (fun h => by have := Hnil.out h; omega) (by rw [av, ← Hn.out, Nat.mul_one]) (fun b o s e => ⟨fun h => (HC.out b o s e).1 (by omega), fun j u hj => ?_⟩) _ rfl [.int .u8 128] (Arr.newAt (by simp) _ _) rfl (by simp [Value.oneCell']) (by omega) (by omega) ?_
 ·have := (HC.out b o s e).2 j u hj
  exact jQ (((Below.refl _ _).alloc (Nat.le_refl _) _).alloc (by simp) _) this
 intro g1 cap1 w1 hown hgr hg1 hlt1
 have hB1 : Below w.heap.size w w1 := (((Below.refl _ _).alloc (Nat.le_refl _) _).alloc (by simp) _).grown hgr (by simp; omega) (by intro k hk; cases hk)
 have hA0 : Arr w1 w.heap.size (u8s (List.replicate 32 0)) := ((Arr.new w (u8s (List.replicate 32 0)) _).alloc _).grown hgr (by simp)
 have hown' : w1.ownsRow (w.heap.size + 1) 5 1 (.slice (some ⟨g1, 0, none⟩) (n + 1) cap1) (n + 1) (u8s (l ++ [128])) := by
  have : u8s (l ++ [128]) = u8s l ++ [.int .u8 128] := by simp [u8s]
  rw [this]
  exact xT hown (by simp)
 have hg1' : w.heap.size + 1 ≤ g1 := by simp at hg1; omega
 clear hown hgr hcap hle hg1
 go_wp2
 go_loopw [3] (fun v wr => ∃ j : Nat, j ≤ Sha.zeros n ∧ ∃ g cap, v = .slice (some ⟨g, 0, none⟩) (n + 1 + j) cap ∧ w.heap.size + 1 ≤ g ∧ g < wr.heap.size ∧ wr.ownsRow (w.heap.size + 1) 5 1 (.slice (some ⟨g, 0, none⟩) (n + 1 + j) cap) (n + 1 + j) (u8s (l ++ [128] ++ List.replicate j 0)) ∧ Arr wr w.heap.size (u8s (List.replicate 32 0)) ∧ Below w.heap.size w wr) (fun v _ => n + 1 + Sha.zeros n - na v)
 case atStart => exact ⟨0, by omega, g1, cap1, rfl, hg1', hlt1, by simpa using hown', hA0, hB1⟩
 case round =>
  clear hB1 hA0 hown' hlt1 hg1'
  obtain ⟨j, hj, g, cap, rfl, hgB, hgl, hown, hA, hB⟩ := hrel
  have hz : Sha.zeros n ≤ 63 := by unfold Sha.zeros; omega
  have Hown := Lib.hid hown; clear hown
  have HA := Lib.hid hA; clear hA
  have hsz := hB.size
  have HB := Lib.hid hB; clear hB
  by_cases hlt : j < Sha.zeros n
  ·have ht := Sha.zeros_test n j hlt
   have hb : (((n : Int) + 1 + j + 8) % 64 != 0) = true := by rw [bne_iff_ne]; omega
   have HL := Lib.hid hlt
   have hj63 : j ≤ 62 := by omega
   clear hlt hj ht hz
   go_wp2_with (at_builtin; refine Hid.out ?_)
   refine db ?_
   refine mP kX rfl _ _ rfl (w.heap.size + 1) (n + 1 + j) _ _ _ rfl (Hown.out.alloc _) _ rfl [.int .u8 0] (Arr.newAt rfl _ _) rfl (by simp [Value.oneCell']) (by omega) (by omega) (by simp; omega) ?_
   intro g2 cap2 w2 hown2 hgr2 hg2 hlt2
   have hB2 : Hid (Below w.heap.size w w2) := by
    refine db ((HB.out.alloc HB.out.size _).grown hgr2 ?_ ?_)
    ·rw [World.size_alloc]; omega
    ·intro k hk; cases hk; omega
   have hA2 : Hid (Arr w2 w.heap.size (u8s (List.replicate 32 0))) := db ((HA.out.alloc _).grown hgr2 (by intro h; cases h; omega))
   have Hown2 := Lib.hid hown2
   clear hown2 hgr2
   go_wp2
   go_roundw
   case rel =>
    refine ⟨j + 1, HL.out, g2, cap2, rfl, hg2, hlt2, ?_, hA2.out, hB2.out⟩
    have e : u8s (l ++ [128] ++ List.replicate (j + 1) 0) = u8s (l ++ [128] ++ List.replicate j 0) ++ [.int .u8 0] := by
     rw [List.replicate_succ', ← List.append_assoc]; simp [u8s]
    rw [e]; exact Hown2.out
   case measure => simp [na]; have := HL.out; omega
  ·have hje : j = Sha.zeros n := by omega
   have hb : (((n : Int) + 1 + j + 8) % 64 != 0) = false := by
    have := Sha.zeros_end n
    rw [bne_eq_false_iff_eq]; omega
   have HJ := Lib.hid hje
   have hj63 : j ≤ 63 := by omega
   clear hlt hj hz hje
   go_wp2_with (at_builtin; refine Hid.out ?_)
   go_loopw [3, 4] (fun v s wr => ∃ i : Nat, i ≤ 8 ∧ s = .int .i64 (56 - 8 * (i : Int)) ∧ ∃ g cap, v = .slice (some ⟨g, 0, none⟩) (n + 1 + j + i) cap ∧ w.heap.size + 1 ≤ g ∧ g < wr.heap.size ∧ wr.ownsRow (w.heap.size + 1) 5 1 (.slice (some ⟨g, 0, none⟩) (n + 1 + j + i) cap) (n + 1 + j + i) (u8s (l ++ [128] ++ List.replicate j 0 ++ (Sha.lenBytes n).take i)) ∧ Arr wr w.heap.size (u8s (List.replicate 32 0)) ∧ Below w.heap.size w wr) (fun v _ _ => n + 1 + j + 8 - na v)
   case atStart => exact ⟨0, by omega, rfl, g, cap, rfl, hgB, hgl, by simpa using Hown.out, HA.out, HB.out⟩
   case round =>
    clear HA HB Hown hgB hgl hsz
    obtain ⟨i, hi, rfl, g, cap, rfl, hgB, hgl, hown, hA, hB⟩ := hrel
    have Hown := Lib.hid hown; clear hown
    have HA := Lib.hid hA; clear hA
    have hsz := hB.size
    have HB := Lib.hid hB; clear hB
    by_cases hlt : i < 8
    ·have h56 : (0 : Int) ≤ 56 - 8 * i := by omega
     go_wp2_with (at_builtin; refine Hid.out ?_)
     refine db ?_
     refine mP kX rfl _ _ rfl (w.heap.size + 1) (n + 1 + j + i) _ _ _ rfl (Hown.out.alloc _) _ rfl [_] (Arr.newAt rfl [_] _) rfl ?_ (by omega) (by omega) (by simp; omega) ?_
     ·intro u hu; simp only [List.mem_singleton] at hu; subst hu; rfl
     intro g2 cap2 w2 hown2 hgr2 hg2 hlt2
     have hB2 : Hid (Below w.heap.size w w2) := by
      refine db ((HB.out.alloc HB.out.size _).grown hgr2 ?_ ?_)
      ·rw [World.size_alloc]; omega
      ·intro k hk; cases hk; omega
     have hA2 : Hid (Arr w2 w.heap.size (u8s (List.replicate 32 0))) := db ((HA.out.alloc _).grown hgr2 (by intro h; cases h; omega))
     have Hown2 := Lib.hid hown2
     clear hown2 hgr2
     go_wp2
     go_roundw
     case rel =>
      refine ⟨i + 1, by omega, by go_num, g2, cap2, rfl, hg2, hlt2, ?_, hA2.out, hB2.out⟩
      have e : u8s (l ++ [128] ++ List.replicate j 0 ++ (Sha.lenBytes n).take (i + 1)) = u8s (l ++ [128] ++ List.replicate j 0 ++ (Sha.lenBytes n).take i) ++ [.int .u8 (8 * ↑n / 2 ^ (56 - 8 * i) % 256)] := by
       rw [Sha.lenBytes_take n i hlt, ← List.append_assoc]
       simp only [u8s, List.map_append, List.map_cons, List.map_nil]
       congr 3
      rw [e]; exact Hown2.out
     case measure => simp [na]; omega
    ·obtain rfl : i = 8 := by omega
     have hg2 := HG.out.below HB.out HG.out.size
     have hgb := Lib.hid hg2.1
     clear hg2
     go_wp2_with (first
      | (refine gS rfl _ _ rfl 0 0 rfl (bt Sha.begin8) nS (fun j v hv => ?_) ?_)
      | (refine bL rfl rfl _ _ _ rfl _ _ rfl (bt Sha.begin8) rfl nS.2 (jm _) _ (Arr.newAt rfl (bt (List.replicate 8 0)) _) (by decide) ?_; intro w3 hA3 hG3)
      | (go_at_call 84; refine (wH _ _ _ _).mono ?_; rintro e w' ⟨rfl, hw'⟩))
     ·have hj8 : j < 8 := by
       have := (List.getElem?_eq_some_iff.1 hv).1
       simpa [bt, Sha.begin8] using this
      rw [gx (l := Sha.begin8) (by simpa [Sha.begin8] using hj8), Option.some.injEq] at hv
      rw [← hv, Nat.zero_add]; exact hgb.out j hj8
     obtain ⟨cur, hcur, htake, hcle, hcmax, hclen⟩ := uy Hown.out
     have hpad : l ++ [128] ++ List.replicate j 0 ++ (Sha.lenBytes n).take 8 = Sha.padded l := by
      rw [HJ.out, Hn.out, List.take_of_length_le (by simp [Sha.lenBytes])]; rfl
     rw [hpad, Nat.mul_one] at htake
     obtain ⟨m, hm⟩ : ∃ m, m = (Sha.padded l).length / 64 := ⟨_, rfl⟩
     have hmod := Sha.padded_mod l
     have hplen := Sha.padded_length l
     rw [← hm] at hmod
     rw [← Hn.out, ← HJ.out] at hplen
     have h64 : n + 1 + j + 8 = 64 * m := by omega
     rw [h64] at hw' htake hcle ⊢
     have eA : lay (bt (List.replicate 8 0)) 0 (bt Sha.begin8) = bt Sha.first.list := rfl
     rw [eA] at hA3
     obtain ⟨b5, hb5⟩ : ∃ b, b = wr.heap.size := ⟨_, rfl⟩
     rw [← hb5] at hA3 hG3 ⊢
     have hB3 : Below w.heap.size w w3 := by
      refine (HB.out.alloc HB.out.size _).grown hG3 ?_ ?_
      ·rw [World.size_alloc]; omega
      ·intro k hk; cases hk; omega
     have hZ3 : Arr w3 w.heap.size (u8s (List.replicate 32 0)) := (HA.out.alloc _).grown hG3 (by intro h; cases h; omega)
     have hC3 : Arr w3 g cur := (hcur.alloc _).grown hG3 (by intro h; cases h; omega)
     have hs3 : b5 < w3.heap.size := hA3.lt
     have hBw : Below w3.heap.size w3 w' := by rw [hw']; exact ((Below.refl _ _).alloc (Nat.le_refl _) _).alloc (by simp) _
     have c0 : w'.cell? ⟨w3.heap.size, 0, none⟩ = some (.slice (some ⟨g, 0, none⟩) (64 * m) cap) := by rw [hw']; simp
     have c1 : w'.cell? ⟨w3.heap.size + 1, 0, none⟩ = some (.int .i64 64) := by rw [hw']; simp
     have hsw : w3.heap.size + 1 < w'.heap.size := block_lt_of_cell c1
     have A5 := hA3.below' hBw
     have AZ := hZ3.below' hBw
     have AC := hC3.below' hBw
     have BW := hB3.trans (hBw.mono hB3.size)
     have hB3s := hB3.size
     rw [← hw']
     clear hw' hA3 hZ3 hC3 hB3 hBw hG3 HA HB Hown hgb hcur
     have hgb5 : g ≠ b5 := by omega
     have HT := Lib.hid htake; have H64 := Lib.hid h64; have HM := Lib.hid hm; have HMO := Lib.hid hmod
     have D0 := Lib.hid c0; have D1 := Lib.hid c1; have HB5 := Lib.hid hb5; have HBW := Lib.hid BW
     have hwb5 : w.heap.size ≤ b5 := by omega
     clear htake h64 hm hmod c0 c1 hb5 BW eA hpad hclen hplen
     refine (wpIn_wide (n := 2)).1 ?_
     refine wpIn_rangeFunc_ownF (F := Fence.wide) (n := 2) rfl (by decide) (gf := 94) (lb := #[.pointer (some ⟨w3.heap.size, 0, none⟩), .pointer (some ⟨w3.heap.size + 1, 0, none⟩)]) rfl trivial Tryd.call94
      (tR 1 (by decide) w3.heap.size g m cap hcle hcmax w' hsw D0.out D1.out) (fun h k => h.trans k) (fun W l o o' hl _ _ _ => KpC.putObj W o' (by omega)) (Below.refl _ _) (fun _ => rfl)
      (fun (pre : List (Fin m)) W => Arr W b5 (bt (Sha.foldB (Sha.padded l) (pre.map (·.1))).list) ∧ Arr W w.heap.size (u8s (List.replicate 32 0)) ∧ Arr W g cur ∧ Below w.heap.size w W ∧ w'.heap.size ≤ W.heap.size) (fun _ _ _ => False) ?hI (fun _ _ _ _ _ h _ _ => h) ⟨A5, AZ, AC, HBW.out, Nat.le_refl _⟩ ?a1 ?assign ?body ?done ?db
     case assign =>
      intro l x W K hK
      gi_wp2
      exact hK
     case hI =>
      intro s W W' row hs hg hr
      have hr' : ∀ r, row = some r → ∃ o : Obj, W.heap[r]? = some o ∧ o.isCells = false := fun r e => (hr r e).2
      refine ⟨hs.1.ownK hg hr', hs.2.1.ownK hg hr', hs.2.2.1.ownK hg hr', hs.2.2.2.1.grown hg hs.2.2.2.1.size (fun r e => Nat.le_trans HBW.out.size (hr r e).1), Nat.le_trans hs.2.2.2.2 hg.size⟩
     case body =>
      intro l' pre x W hI hlen
      obtain ⟨I5, IZ, IC, IB, IS⟩ := hI
      have hxm := x.2
      obtain ⟨s, hs⟩ : ∃ s, s = Sha.foldB (Sha.padded l) (pre.map (·.1)) := ⟨_, rfl⟩
      rw [← hs] at I5
      have hgW := HG.out.below IB HG.out.size
      have hcell : ∀ i, i < 64 → W.cell? ⟨g, 64 * x.1 + i, none⟩ = some (.int .u8 ((((Sha.padded l).drop (64 * x.1)).take 64).getD i 0).toNat) := by
       intro i hi
       refine IC.cell ?_
       have h1 : (cur.take (64 * m))[64 * x.1 + i]? = cur[64 * x.1 + i]? := List.getElem?_take_of_lt (by omega)
       rw [← h1, HT.out, un (by have := HMO.out; omega)]
       congr 4
       simp [List.getElem?_take_of_lt hi]
      have J5 := Lib.hid I5; clear I5
      have JZ := Lib.hid IZ; clear IZ
      have JC := Lib.hid IC; clear IC
      have JB := Lib.hid IB; clear IB
      have JG := Lib.hid hgW; clear hgW
      have JH := Lib.hid hcell; clear hcell
      have HS := Lib.hid hs; clear hs
      have hgW : g < W.heap.size := JC.out.lt
      gi_wp2_with (first
       | (refine nR (fun _ => trivial) rfl _ _ rfl b5 0 rfl (bt s.list) nS (fun j v hv => by rw [Nat.zero_add]; exact J5.out.cell hv) ?_)
       | (refine ⟨trivial, rfl, ?_⟩; gi_at_call 85; refine (CallsIn.inRound l' (callsIn_wide.2 (wX g (64 * x.1) 64 s (((Sha.padded l).drop (64 * x.1)).take 64) W hgW JH.out JG.out.2))).mono ?_; rintro e w4 ⟨rfl, hb4⟩)
       | (refine m9 (fun _ => trivial) rfl rfl _ _ _ rfl b5 0 rfl (bt (Sha.after s (((Sha.padded l).drop (64 * x.1)).take 64)).list) rfl nS.2 (jm _) _ (J5.out.below' hb4) (by simp [dh, oa]) ?_; intro w5 hA5 hG5))
      rw [cj _ _ (by simp [dh, oa])] at hA5
      have hb4' : Below w.heap.size w w4 := JB.out.trans (hb4.mono JB.out.size)
      have hs4 := hb4.size
      refine ⟨(re hb4).trans (qO (J5.out.below' hb4) hG5), (KpC.of_below hb4 (by omega)).trans ⟨hG5.block _ (by omega) (by intro h; cases h; omega), hG5.block _ (by omega) (by intro h; cases h; omega)⟩, ?_, (JZ.out.below' hb4).grown hG5 ?_, (JC.out.below' hb4).grown hG5 ?_, hb4'.grown hG5 hb4'.size ?_, ?_⟩
      ·rw [List.map_append, List.map_cons, List.map_nil, Sha.foldB_snoc, ← HS.out]; exact hA5
      ·intro h; cases h; have := HB5.out; omega
      ·intro h; cases h; exact hgb5 rfl
      ·intro k hk; cases hk; exact hwb5
      ·have := hG5.size; omega
     case done =>
      rintro D ys W hD hys ⟨I5, IZ, IC, IB, IS⟩ hK
      have e : ys.map (·.1) = List.range m := by
       rw [hys]
       apply List.ext_getElem (by simp)
       intro i h1 h2
       simp
      rw [e, Sha.foldB_range, HM.out] at I5
      obtain ⟨s, hs⟩ : ∃ s, s = Sha.over (Sha.padded l) ((Sha.padded l).length / 64) := ⟨_, rfl⟩
      rw [← hs] at I5
      have HS := Lib.hid hs; clear hs e hys
      have G5 := Lib.hid I5; clear I5
      have GZ := Lib.hid IZ; clear IZ
      have GB := Lib.hid IB; clear IB
      have GK := Lib.hid hK; clear hK
      clear IC A5 AZ AC
      have hls : s.list.length = 8 := rfl
      have h28 : w.heap.size < W.heap.size := GZ.out.lt
      have h59 : b5 < W.heap.size := G5.out.lt
      clear hls
      go_wp2
      go_loopw [42] (fun i wr => ∃ k : Nat, k ≤ 32 ∧ i = .int .i64 k ∧ Arr wr W.heap.size (u8s ((Sha.out s).take k ++ List.replicate (32 - k) 0)) ∧ Arr wr b5 (bt s.list) ∧ Arr wr w.heap.size (u8s (List.replicate 32 0)) ∧ Below w.heap.size w wr ∧ wr.heap[D]? = some (.deferred (some []))) (fun i _ => 32 - (intOf i).toNat)
      case atStart =>
       refine ⟨0, by omega, rfl, ?_, G5.out.alloc _, GZ.out.alloc _, GB.out.alloc GB.out.size _, (Below.heap_alloc W _ D (lt_of_block GK.out)).trans GK.out⟩
       exact Arr.new W (u8s (List.replicate 32 0)) _
      case round =>
       have hDl : D < W.heap.size := lt_of_block GK.out
       clear G5 GZ GB GK
       obtain ⟨k, hk, rfl, h6, h5, hZ, hB, hK⟩ := hrel
       by_cases hlt : k < 32
       ·have cx := h5.cell (gx (l := s.list) (i := k / 4) (by show k / 4 < 8; omega))
        obtain ⟨x, hx⟩ : ∃ x, x = s.list.getD (k / 4) 0 := ⟨_, rfl⟩
        rw [← hx] at cx
        have HX := Lib.hid hx; clear hx
        have fx := h6.frozen k
        have hl32 : ((Sha.out s).take k ++ List.replicate (32 - k) (0 : UInt8)).length = 32 := by
         rw [List.length_append, List.length_take, List.length_replicate, Sha.out_length]; omega
        have c6 := h6.cell (un (i := k) (by rw [hl32]; exact hlt))
        obtain ⟨old, hold⟩ : ∃ x, x = ((Sha.out s).take k ++ List.replicate (32 - k) (0 : UInt8)).getD k 0 := ⟨_, rfl⟩
        rw [← hold] at c6
        clear hold hl32
        have G6 := Lib.hid h6; clear h6
        have G5 := Lib.hid h5; clear h5
        have GZ := Lib.hid hZ; clear hZ
        have GB := Lib.hid hB; clear hB
        have GK := Lib.hid hK; clear hK
        have lx := nW x
        go_wp2
        have hv : ((x.toNat : Int) / 2 ^ (24 - 8 * (k % 4)) % 256) = ((UInt8.ofNat (x.toNat / 2 ^ (24 - 8 * (k % 4)))).toNat : Int) := by
         rw [show (UInt8.ofNat (x.toNat / 2 ^ (24 - 8 * (k % 4)))).toNat = x.toNat / 2 ^ (24 - 8 * (k % 4)) % 256 from rfl]
         simp
        rw [hv]
        refine ⟨⟨k + 1, by omega, by go_num, ?_, G5.out.other (by simp; omega) _, GZ.out.other (by simp; omega) _, GB.out.setCell (by simp; omega) _, ?_⟩, by simp [intOf]; omega⟩
        ·rw [← Sha.out_set s k hlt, ← HX.out, ← y4]
         exact G6.out.set _ _
        ·rw [Below.heap_setCell _ _ _ _ (by simp; omega)]; exact GK.out
       ·have hk32 : k = 32 := by omega
        have h6' : Arr wr W.heap.size (u8s (Sha.out s)) := by
         rw [hk32, List.take_of_length_le (by rw [Sha.out_length]; omega)] at h6
         simpa using h6
        have hlo : (u8s (Sha.out s)).length = 32 := by rw [av, Sha.out_length]
        have G6 := Lib.hid h6'; clear h6 h6' hk32
        have GZ := Lib.hid hZ; clear hZ
        have GB := Lib.hid hB; clear hB
        have GK := Lib.hid hK; clear hK
        have HLO := Lib.hid hlo; clear hlo h5
        go_wp2_with (first
         | (refine gS rfl _ _ rfl _ 0 rfl (u8s (Sha.out s)) (by rw [HLO.out]; exact cY) (fun j v hv => by rw [Nat.zero_add]; exact G6.out.cell hv) ?_)
         | (refine bL rfl rfl _ _ _ rfl _ 0 rfl (u8s (Sha.out s)) rfl (by rw [HLO.out]; exact cY.2) (cV _) _ GZ.out (by rw [HLO.out, av, List.length_replicate]; decide) ?_; intro w2 hA2 hG2))
        rw [cj _ _ (by rw [HLO.out, av, List.length_replicate])] at hA2
        have hDw : w.heap.size < D := by have := HBW.out.size; have := HB5.out; omega
        have hK2 : w2.heap[D]? = some (.deferred (some [])) := by
         rw [hG2.block D (lt_of_block GK.out) (by intro h; cases h; omega)]; exact GK.out
        refine ⟨by simp, .inl ⟨_, _, rfl, run_takeDeferred hK2, ?_⟩⟩
        have hA3 := hA2.grown (grownBy_putObj' w2 D (.deferred none)) (by intro h; cases h; omega)
        refine ⟨_, rZ rfl _ w.heap.size rfl (u8s (Sha.out s)) hA3 (by rw [HLO.out]; exact cY), ?_, ?_⟩
        ·rw [HS.out]; rfl
        ·refine (GB.out.grown hG2 GB.out.size (by intro k hk; cases hk; omega)).grown (grownBy_putObj' w2 D (.deferred none)) ?_ (by intro k hk; cases hk; omega)
         exact Nat.le_trans GB.out.size hG2.size
     case db => exact fun _ _ _ _ _ _ h _ => h.elim
end
section
open Go.RowKit
section
variable {P : Program} {ops : Array Oper} {rest : List Oper} {o : Oper} {a : Act} {w : World} {Q : Exit → Act → World → Prop} {t e : TypeId} {z : Value} {size bytes : Nat}
theorem sV (w : World) (row : Option Nat) : w.grownBy w row := ⟨rfl, rfl, rfl, Nat.le_refl _, fun _ _ _ => rfl⟩
theorem pB (hE : ElemT P t e z size bytes) (hgd : o.guard = none) (s x : Operand) (ho : o.op = .call ⟨.builtin .append, #[s, x], #[t, t]⟩) (base : Nat) (v : Value) (n : Nat) (xs : List Value)
  (hs : a.eval s = v) (hown : w.ownsRow base e size v n xs) (xv : Value) (m : Nat) (news : List Value) (hx : a.eval x = xv) (hS : Sl w xv m news) (hl : news.length = m * size) (h1 : ∀ u ∈ news, u.oneCell' = true)
  (hn : n + m ≤ 140737488355328) (hn2 : (n + m) * bytes ≤ 140737488355328) (hbase : base ≤ w.heap.size)
  (h : ∀ v' w', w'.ownsRow base e size v' (n + m) (xs ++ news) → w.grownBy w' v.ownBlock → wpList P ops Q rest (a.put o.dst v') w') :
  wpList P ops Q (o :: rest) a w := by
 obtain ⟨i0, hi, hz0, hz1, hz2⟩ := info_parts hE.info
 obtain ⟨ao, cap, rfl, hle, hcap, hnil, hc⟩ := hS
 cases ao with
 | none =>
  obtain rfl := hnil rfl
  obtain rfl : m = 0 := by omega
  obtain rfl : news = [] := List.length_eq_zero_iff.1 (by simpa using hl)
  refine wpList_append_own_none hgd s x t ho base e i0 size hE.und hi v n xs hs hown hx ?_
  exact h v w (by simpa using hown) (sV _ _)
 | some ad =>
  obtain ⟨b, off, sp⟩ := ad
  obtain ⟨hs0, hc'⟩ := hc b off sp rfl
  by_cases hm0 : m = 0
  ·subst hm0
   obtain rfl : news = [] := List.length_eq_zero_iff.1 (by simpa using hl)
   refine wpList_append_own _ hgd s x t ho base e i0 z size bytes hE.und hi hz0 hz1 hz2 hE.zs hE.pos v n xs hs hown ⟨b, off, sp⟩ 0 cap [] hx hl (fun j u hj => by simp at hj) h1 (by unfold maxLen; omega) hn2 hbase ?_
   exact fun v' w' h1 h2 _ => h v' w' h1 h2
  obtain rfl := hs0 (by omega)
  refine wpList_append_own _ hgd s x t ho base e i0 z size bytes hE.und hi hz0 hz1 hz2 hE.zs hE.pos v n xs hs hown ⟨b, off, none⟩ m cap news hx hl (fun j u hj => by rw [cX]; exact hc' j u hj) h1 (by unfold maxLen; omega) hn2 hbase ?_
  exact fun v' w' h1 h2 _ => h v' w' h1 h2
theorem mz (hE : ElemT P t e z size bytes) (hgd : o.guard = none) (s x : Operand) (tn : TypeId) (kn : IntKind) (htn : P.underlying tn = some (.int kn)) (ho : o.op = .call ⟨.builtin .append, #[s, x], #[t, tn]⟩)
  (k : Nat) (hs : a.eval s = .slice none 0 0) (hx : a.eval x = .int .i64 k) (hk : 0 < k) (hn2 : k * bytes ≤ 140737488355328) (hk2 : k ≤ 140737488355328)
  (h : ∀ cap w', k ≤ cap → cap ≤ 9223372036854775807 → w'.ownsRow w.heap.size e size (.slice (some ⟨w.heap.size, 0, none⟩) 0 cap) 0 [] → w.grownBy w' none → w.heap.size < w'.heap.size → wpList P ops Q rest (a.put o.dst (.slice (some ⟨w.heap.size, 0, none⟩) k cap)) w') :
  wpList P ops Q (o :: rest) a w := by
 obtain ⟨i0, hi, hz0, hz1, hz2⟩ := info_parts hE.info
 have hp := hE.pos
 have hold : (Builtin.firstCells i0.size 0 (.slice none 0 0)).run P w.drew = .ok (#[] : Array Value) w.drew := run_firstCells_none w.drew i0.size 0 0 0
 have hnx : Builtin.nextslicecap (0 + k) 0 = k := by unfold Builtin.nextslicecap; simp [hk]
 have hrun := Lib.run_append_grow_zeros w t tn o.type e i0 z .i64 kn hE.und htn hi hz0 none 0 0 [] hold k hk (by rw [hz1]; exact hp) (by omega) (by omega) (by rw [hz2]; omega) (by rw [hnx, hz2]; omega)
 have hge := grownCap_ge w (0 + k) 0 e
 have hle := grownCap_le_maxLen w (0 + k) 0 e (by unfold maxLen; omega)
 obtain ⟨cap, hcap⟩ : ∃ c, c = grownCap w (0 + k) 0 e := ⟨_, rfl⟩
 rw [← hcap] at hrun hge hle
 refine wpList_plain hgd fun K hK => ?_
 unfold Oper.wp
 simp [execOp, ho, resolve, invoke, builtin, hs, hx, hrun, Result.andThen]
 refine hK _ _ (h cap _ (by omega) (by unfold maxLen at hle; omega) ?_ ?_ (by simp))
 ·refine World.ownsRow_made w.drew _ cap (Nat.le_refl _) hle ?_
  simp [Builtin.zeroCells, hE.zs]
  rw [← Nat.add_mul]; congr 1; omega
 ·exact ⟨rfl, rfl, rfl, by simp, fun j hj _ => Below.heap_alloc _ _ _ hj⟩
end
end
section
open Go.RowKit
def BB (w : World) (v : Value) (ls : List (List UInt8)) : Prop :=
 ∃ vs : List Value, vs.length = ls.length ∧ Sl w v ls.length vs ∧ ∀ (i : Nat) (l : List UInt8), ls[i]? = some l → ∃ u, vs[i]? = some u ∧ Sl w u l.length (u8s l)
theorem BB.below {w w' : World} {v : Value} {ls : List (List UInt8)} (h : BB w v ls) (hb : Below w.heap.size w w') : BB w' v ls := by
 obtain ⟨vs, h1, h2, h3⟩ := h
 exact ⟨vs, h1, h2.below hb, fun i l hi => by obtain ⟨u, hu, hs⟩ := h3 i l hi; exact ⟨u, hu, hs.below hb⟩⟩
def yp (w w' : World) (e : Ending) : Prop := ∃ v, e = .returned v ∧ w'.ownsRow w.heap.size 5 1 v 0 [] ∧ Below w.heap.size w w'
set_option maxHeartbeats 400000 in
theorem yx (n : Nat) (w : World) (hn : n ≤ 1000000) :
  Calls Tryd.prog 64 #[.slice none 0 0, .int .i64 n] w fun e w' => yp w w' e := by
 by_cases h0 : n = 0
 ·subst h0
  go_enter Tryd.func64, Tryd.ntmps64
  go_wp2
  go_ret
  exact ⟨_, rfl, World.ownsRow_nil _ _ _ _, Below.refl _ _⟩
 ·have hp : 0 < n := by omega
  go_enter Tryd.func64, Tryd.ntmps64
  go_wp2_with (at_builtin; refine Hid.out ?_)
  refine db ?_
  refine mz kX rfl _ _ 3 .i64 (by kernel_rfl) rfl n rfl rfl hp (by omega) (by omega) ?_
  intro cap w' h1 h2 hown hg hlt
  have H := Lib.hid hown; clear hown
  go_wp2
  go_ret
  exact ⟨_, rfl, H.out, (Below.refl _ _).grown hg (Nat.le_refl _) (by intro k hk; cases hk)⟩
def Ak (w : World) (ls : List (List UInt8)) (e : Ending) (w' : World) : Prop := ∃ v', e = .returned v' ∧ w'.ownsRow w.heap.size 5 1 v' ls.flatten.length (u8s ls.flatten) ∧ Below w.heap.size w w'
theorem oJ (ls : List (List UInt8)) (k : Nat) (l : List UInt8) (h : ls[k]? = some l) : (ls.take (k + 1)).flatten = (ls.take k).flatten ++ l := by
 have hk := (List.getElem?_eq_some_iff.1 h).1
 rw [List.take_succ_eq_append_getElem hk, List.flatten_append]
 have := (List.getElem?_eq_some_iff.1 h).2
 simp [this]
theorem li (ls : List (List UInt8)) (k : Nat) : (ls.take k).flatten.length ≤ ls.flatten.length := by
 conv => rhs; rw [← List.take_append_drop k ls, List.flatten_append, List.length_append]
 omega
theorem lB {w : World} {v : Value} {n : Nat} {cs : List Value} (h : Sl w v n cs) (hn : 0 < n) :
  ∃ b o cap, v = .slice (some ⟨b, o, none⟩) n cap ∧ n ≤ cap ∧ cap ≤ 9223372036854775807 ∧ ∀ (j : Nat) (u : Value), cs[j]? = some u → w.cell? ⟨b, o + j, none⟩ = some u := by
 obtain ⟨ao, cap, rfl, hle, hcap, hnil, hc⟩ := h
 cases ao with
 | none => have := hnil rfl; omega
 | some a =>
  obtain ⟨b, o, s⟩ := a
  obtain ⟨hs0, h⟩ := hc b o s rfl
  obtain rfl := hs0 (by omega)
  exact ⟨b, o, cap, rfl, hle, hcap, h⟩
theorem iO {w : World} {v : Value} {n : Nat} {cs : List Value} (h : Sl w v n cs) : ∃ ao cap, v = .slice ao n cap := by
 obtain ⟨ao, cap, h, _⟩ := h; exact ⟨ao, cap, h⟩
set_option maxHeartbeats 400000 in
theorem qw (v : Value) (ls : List (List UInt8)) (w : World) (hB : BB w v ls) (hn : ls.flatten.length ≤ 1000000) (hn2 : ls.length ≤ 1000000) (h0 : 0 < ls.length) :
  Calls Tryd.prog 36 #[v] w fun e w' => ∃ v', e = .returned v' ∧ w'.ownsRow w.heap.size 5 1 v' ls.flatten.length (u8s ls.flatten) ∧ Below w.heap.size w w' := by
 obtain ⟨vs, hvs, hS, hel⟩ := hB
 obtain ⟨b, o, cap, rfl, hle, hcap, hcell⟩ := lB hS h0
 clear hS
 obtain ⟨m, hm⟩ : ∃ m, m = ls.length := ⟨_, rfl⟩
 rw [← hm] at hle hn2 h0 ⊢
 have HC := Lib.hid hcell; clear hcell
 have HE := Lib.hid hel; clear hel
 have HV := Lib.hid hvs; clear hvs
 have HN := Lib.hid hn; clear hn
 have HM := Lib.hid hm; clear hm
 refine wz (R := fun e w' => Ak w ls e w') ?_ (fun e w' h => h)
 go_enter Tryd.func36, Tryd.ntmps36
 go_wp2
 go_loop [3, 11] (fun s i => ∃ k : Nat, k ≤ m ∧ i = .int .i64 k ∧ s = .int .i64 ((ls.take k).flatten.length : Nat)) (fun _ i => m - (intOf i).toNat)
 case atStart => exact ⟨0, by omega, rfl, rfl⟩
 case round =>
  obtain ⟨k, hk, rfl, rfl⟩ := hrel
  have hfk := Nat.le_trans (li ls k) HN.out
  by_cases hlt : k < m
  ·obtain ⟨l, hl⟩ : ∃ l, ls[k]? = some l := ⟨ls[k]'(by have := HM.out; omega), by simp⟩
   obtain ⟨u, hu, hS⟩ := HE.out k l hl
   obtain ⟨ao1, cap1, rfl⟩ := iO hS
   have hc := HC.out k _ hu
   have hft := Nat.le_trans (li ls (k + 1)) HN.out
   have hfe := oJ ls k l hl
   have hle2 : (ls.take k).flatten.length + l.length ≤ 1000000 := by rw [hfe, List.length_append] at hft; exact hft
   have HF : Hid ((ls.take (k + 1)).flatten.length = (ls.take k).flatten.length + l.length) := by rw [hfe, List.length_append]; exact rfl
   clear hu hS hl hft hfe
   obtain ⟨p, hp⟩ : ∃ p, p = (ls.take k).flatten.length := ⟨_, rfl⟩
   rw [← hp] at hfk hle2 HF ⊢
   clear hp
   go_wp2
   go_round
   case rel => exact ⟨k + 1, by omega, by go_num, by rw [HF.out]; go_num⟩
   case measure => simp [intOf]; omega
  ·have hkm : k = m := by omega
   have e : (ls.take k).flatten = ls.flatten := by rw [hkm, HM.out, List.take_length]
   rw [e] at hfk ⊢
   clear e hkm
   obtain ⟨p, hp⟩ : ∃ p, p = ls.flatten.length := ⟨_, rfl⟩
   rw [← hp] at hfk ⊢
   have HP := Lib.hid hp; clear hp
   go_wp2_with (go_at_call 64; refine (yx p _ hfk).mono ?_; rintro e w1 ⟨v1, rfl, hown1, hb1⟩)
   have hs1 := hb1.size
   go_loopw [6, 27] (fun v i wr => ∃ k : Nat, k ≤ m ∧ i = .int .i64 k ∧ wr.ownsRow w.heap.size 5 1 v (ls.take k).flatten.length (u8s (ls.take k).flatten) ∧ Below w.heap.size w wr) (fun _ i _ => m - (intOf i).toNat)
   case atStart => exact ⟨0, by omega, rfl, hown1, hb1⟩
   case round =>
    clear hown1 hb1 hs1 hlt
    obtain ⟨k, hk, rfl, hown, hB⟩ := hrel
    have hfk := Nat.le_trans (li ls k) HN.out
    by_cases hlt : k < m
    ·obtain ⟨l, hl⟩ : ∃ l, ls[k]? = some l := ⟨ls[k]'(by have := HM.out; omega), by simp⟩
     obtain ⟨u, hu, hS⟩ := HE.out k l hl
     obtain ⟨ao1, cap1, rfl⟩ := iO hS
     have hc := jQ hB (HC.out k _ hu)
     have hft := Nat.le_trans (li ls (k + 1)) HN.out
     have hfe := oJ ls k l hl
     have hle2 : (ls.take k).flatten.length + l.length ≤ 1000000 := by rw [hfe, List.length_append] at hft; exact hft
     have HS := Lib.hid (hS.below hB); clear hS
     have HF := Lib.hid hfe; clear hfe hu hl hft
     have hsz := hB.size
     have HO := Lib.hid hown; clear hown
     have HB := Lib.hid hB; clear hB
     go_wp2_with (at_builtin; refine Hid.out ?_)
     refine db ?_
     refine pB kX rfl _ _ rfl w.heap.size _ _ _ rfl HO.out _ l.length (u8s l) rfl HS.out (by rw [av, Nat.mul_one]) (cV _) (by omega) (by omega) hsz ?_
     intro v' w' hown' hg'
     have HO' : Hid (w'.ownsRow w.heap.size 5 1 v' (ls.take (k + 1)).flatten.length (u8s (ls.take (k + 1)).flatten)) := by
      rw [HF.out, List.length_append, show u8s ((ls.take k).flatten ++ l) = u8s (ls.take k).flatten ++ u8s l by simp [u8s]]
      exact hown'
     have HB' : Hid (Below w.heap.size w w') := db (HB.out.grown hg' hsz (fun q hq => (HO.out.lt q hq).1))
     clear hown' hg'
     go_wp2
     go_roundw
     case rel => exact ⟨k + 1, by omega, by go_num, HO'.out, HB'.out⟩
     case measure => simp [intOf]; omega
    ·have hkm : k = m := by omega
     have e : (ls.take k).flatten = ls.flatten := by rw [hkm, HM.out, List.take_length]
     rw [e] at hown
     clear e hkm hfk
     have HO := Lib.hid hown; clear hown
     have HB := Lib.hid hB; clear hB
     go_wp2
     go_ret
     exact ⟨_, rfl, HO.out, HB.out⟩
end
section
open Go.RowKit
theorem lD.evalD {ops : Array Oper} {a0 a : Act} (h : lD ops a0 a) {s : Tmp} (hs : (ops.toList.filterMap (·.dst)).contains s = false) {v : Value} (hv : a0.eval (.tmp s) = v) : a.tmps[s]?.getD undef = v := by
 have := (h.eval hs).trans hv
 simpa [Act.eval, Array.getD_eq_getD_getElem?] using this
section
variable {P : Program} {ops : Array Oper} {a0 : Act} {w0 : World} {Q : Exit → Act → World → Prop} {G : Nat → (Nat → Value) → World → Prop} {E : World → World → Prop}
def bk (size n : Nat) : Array Bool := ((List.range size).map fun i => decide (i < n)).toArray
def m7 (ops : List Oper) (size n : Nat) : Bool :=
 lM ops size && decide (n < ops.length) && Region.sinkB .any ops.toArray n && Region.chainB .any ops.toArray n && Region.seqB .any ops.toArray (ops.length - n) n (bk ops.length n)
theorem nI {listed : Array Bool} {size n : Nat} (hs : listed.size = size) (h1 : ∀ j, j < n → j < size → listed.getD j false = true) (h2 : ∀ t, n ≤ t → t < size → listed.getD t true = false) : listed = bk size n := by
 apply Array.ext (by simp [bk, hs])
 intro i hi1 hi2
 simp only [bk, List.getElem_toArray, List.getElem_map, List.getElem_range]
 by_cases h : i < n
 ·have := h1 i h (by omega)
  simp [hi1] at this
  simp [h, this]
 ·have := h2 i (by omega) (by omega)
  simp [hi1] at this
  simp [h, this]
theorem uj (l : List Oper) (n : Nat) (a0 a : Act) (hs : a.tmps.size = a0.tmps.size) (hd : a.defers = a0.defers) (hrest : ∀ s, (∀ (j : Nat) (o : Oper), j < n → l[j]? = some o → o.dst ≠ some s) → a.tmps[s]? = a0.tmps[s]?) :
  bH a0 (((l.take n).map (·.dst)).zip ((l.take n).map fun o => e6 o a)) = a :=
 mr (l.take n) a0 a hs hd (fun s h => hrest s (fun j o hj ho => h j o (by rw [List.getElem?_take_of_lt hj]; exact ho)))
theorem kO {id : Nat} {l : List Oper} (n : Nat) (hm : P.follows .mixedOrders = true) (hB : m7 l a0.tmps.size n = true)
  (hE0 : E w0 w0.drew) (hEr : ∀ a, E a a) (hEt : ∀ a b c, E a b → E b c → E a c) (hG : ∀ j ρ w w', G j ρ w → E w w' → G j ρ w')
  (hloc : ∀ (j : Nat) (o : Oper), l.toArray[j]? = some o → ∀ ρ ρ' w, ρ j = ρ' j → (∀ e ∈ o.after, Region.binds .any e = true → ρ e.on = ρ' e.on) → G j ρ w → G j ρ' w)
  (hstep : ∀ (i : Nat) (o : Oper), (l.take n).toArray[i]? = some o → ∀ a w, E w0 w → lD (l.take n).toArray a0 a → (∀ e ∈ o.after, Region.binds .any e = true → G e.on (rho l.toArray a) w) →
   if Region.wanted o (yielded l.toArray a.tmps) then o.wp P a w (fun a' w' => ∃ v, a' = a.put o.dst v ∧ E w w' ∧ G i (upd (rho l.toArray a) i (o.dst.elim undef fun _ => v)) w') Q else G i (upd (rho l.toArray a) i undef) w)
  (hend : ∀ vs : List Value, vs.length = n → ∀ w, E w0 w → (∀ j, j < n → G j (fun k => vs.getD k undef) w) → wpList P l.toArray Q (l.drop n) (bH a0 (((l.take n).map (·.dst)).zip vs)) w) :
  (Code.region id l.toArray true).wp P Q a0 w0 := by
 simp only [m7, Bool.and_eq_true, decide_eq_true_eq] at hB
 obtain ⟨⟨⟨⟨hP, hn⟩, hsink⟩, hchain⟩, hseq⟩ := hB
 simp only [lM, Bool.and_eq_true] at hP
 obtain ⟨⟨hB1, hB2⟩, hB3⟩ := hP
 have hsz : ∀ (i : Nat) (o : Oper) (d : Tmp), l.toArray[i]? = some o → o.dst = some d → d < a0.tmps.size := by
  intro i o d hi hd
  have := List.all_eq_true.1 hB1 d (List.mem_filterMap.2 ⟨o, List.mem_iff_getElem?.2 ⟨i, by simpa using hi⟩, hd⟩)
  simpa using this
 have hd : ∀ (i j : Nat) (oi oj : Oper) (d : Tmp), l.toArray[i]? = some oi → l.toArray[j]? = some oj → oi.dst = some d → oj.dst = some d → i = j :=
  fun i j oi oj d hi hj => kQ l (of_decide_eq_true hB2) i j oi oj d (by simpa using hi) (by simpa using hj)
 have hbk : ∀ (i : Nat) (o : Oper), l.toArray[i]? = some o → ∀ e ∈ o.after, Region.binds .any e = true → e.on < i := by
  intro i o hi e he hb
  have hz : (o, i) ∈ l.zipIdx := by
   rw [List.mem_zipIdx_iff_getElem?]
   simpa using hi
  have := List.all_eq_true.1 hB3 (o, i) hz
  simp only [Array.all_eq_true_iff_forall_mem] at this
  have := this e he
  simpa [hb] using this
 have hloc2 : ∀ (j : Nat) (o : Oper), l.toArray[j]? = some o → j < n → ∀ ρ ρ' w, (∀ k, k < n → ρ k = ρ' k) → G j ρ w → G j ρ' w :=
  fun j o ho hj ρ ρ' w h hg => hloc j o ho ρ ρ' w (h j hj) (fun e he hb => h _ (Nat.lt_trans (hbk j o ho e he hb) hj)) hg
 refine wp_region_any hm ?_
 have hsize : l.toArray.size = l.length := by simp
 have main : ∀ (f : Nat) (listed : Array Bool) (a : Act) (w : World), HeadInv .any l.toArray n listed → ((listed.toList.take n).filter (fun b => !b)).length = f → ParInv l.toArray a0 w0 G E listed a w → wpAny P .any l.toArray Q (f + (l.length - n)) listed a w := by
  intro f
  induction f with
  | zero =>
   intro listed a w hI hf inv
   have hls : listed.size = l.length := by rw [hI.size, hsize]
   have hall : ∀ j, j < n → j < l.length → listed.getD j false = true := by
    intro j hj hj2
    cases h : listed.getD j false with
    | true => rfl
    | false =>
     exfalso
     have hlt : j < listed.size := by omega
     have : false ∈ (listed.toList.take n).filter (fun b => !b) := by
      rw [List.mem_filter]
      refine ⟨?_, rfl⟩
      rw [List.mem_iff_getElem?]
      refine ⟨j, ?_⟩
      rw [List.getElem?_take_of_lt hj]
      simp [hlt] at h ⊢
      exact h
     have := List.length_pos_of_mem this
     omega
   have hle : listed = bk l.length n := nI hls hall (fun t ht htl => hI.tail t ht (by rw [hsize]; exact htl))
   have hdl : (l.drop n).length = l.length - n := by simp
   have := wpAny_of_seq (P := P) (md := .any) (ops := l.toArray) (Q' := Q) (l.drop n) n listed a w (fun j => by simp [List.getElem?_drop]) (by rw [hdl, hle]; exact hseq) ?_
   ·rw [hdl] at this; rw [Nat.zero_add]; exact this
   have hr := hend ((l.take n).map fun o => e6 o a) (by simp; omega) w inv.e (fun j hj => by
    have hjl : j < l.length := by omega
    refine hloc2 j l[j] (by simp [hjl]) hj (rho l.toArray a) _ w (fun k hk => ?_) (inv.got j l[j] (by simp [hjl]) (hall j hj hjl))
    have hkl : k < l.length := by omega
    unfold rho
    rw [List.getD_eq_getElem?_getD, List.getElem?_map, List.getElem?_take_of_lt hk]
    simp [hkl])
   rwa [uj l n a0 a inv.size inv.defers (fun s hs => inv.rest s (fun j o ho hl => by
    by_cases hj : j < n
    ·exact hs j o hj (by simpa using ho)
    ·exfalso
     have hjl : j < l.toArray.size := (Array.getElem?_eq_some_iff.1 ho).1
     have h0 := getD_both (hI.tail j (by omega) hjl)
     rw [h0] at hl; cases hl))] at hr
  | succ f ih =>
   intro listed a w hI hf inv
   have hls : listed.size = l.length := by rw [hI.size, hsize]
   obtain ⟨i0, hi0n, hi0⟩ : ∃ i, i < n ∧ listed.getD i true = false := by
    have hne : ((listed.toList.take n).filter (fun b => !b)) ≠ [] := fun e => by rw [e] at hf; cases hf
    obtain ⟨b, hb⟩ := List.exists_mem_of_ne_nil _ hne
    rw [List.mem_filter] at hb
    obtain ⟨hb1, hb2⟩ := hb
    have hbf : b = false := by simpa using hb2
    subst hbf
    obtain ⟨i, hi⟩ := List.mem_iff_getElem?.1 hb1
    have hin : i < n := by
     have := (List.getElem?_eq_some_iff.1 hi).1
     rw [List.length_take] at this; omega
    rw [List.getElem?_take_of_lt hin] at hi
    exact ⟨i, hin, by simp at hi; simp [hi]⟩
   have hready : Region.ready .any l.toArray listed ≠ [] := by
    intro h
    have hall := lq (ops := l.toArray) (by rw [hls, hsize]) hbk h i0 (by rw [hsize]; omega)
    have h0 := getD_both hi0
    rw [h0] at hall; cases hall
   rw [show f + 1 + (l.length - n) = (f + (l.length - n)) + 1 by omega]
   refine ⟨fun h => absurd h hready, fun i hi => ?_⟩
   have hin : i < n := by
    rcases Nat.lt_or_ge i n with h | h
    ·exact h
    ·exact absurd hi (tail_waits hsink hchain (by rw [hsize]; exact hn) hI _ i0 rfl hi0n hi0 i h)
   obtain ⟨h0, o, ho, hall⟩ := mem_ready.1 hi
   have hlt : i < listed.size := by rw [hI.size]; exact (Array.getElem?_eq_some_iff.1 ho).1
   have hst := hstep i o (by simp at ho ⊢; rw [List.getElem?_take_of_lt hin]; exact ho) a w inv.e (fun s hs => inv.rest s (fun j oj hj hlj => by
    have hjn : j < n := by
     rcases Nat.lt_or_ge j n with h | h
     ·exact h
     ·exfalso
      have hjl : j < l.toArray.size := (Array.getElem?_eq_some_iff.1 hj).1
      have h0 := getD_both (hI.tail j h hjl)
      rw [h0] at hlj; cases hlj
    exact hs j oj (by simp at hj ⊢; rw [List.getElem?_take_of_lt hjn]; exact hj))) (fun e he hb => by
    have h1 := hbk i o ho e he hb
    have h3 : e.on < l.length := by have := (Array.getElem?_eq_some_iff.1 ho).1; rw [hsize] at this; omega
    exact inv.got e.on l[e.on] (by simp [h3]) (hall e he hb))
   have hcount : (((listed.setIfInBounds i true).toList.take n).filter (fun b => !b)).length = f := by
    have h0' : (listed.toList.take n)[i]? = some false := by
     rw [List.getElem?_take_of_lt hin]; simp [hlt] at h0 ⊢; exact h0
    have := lp (listed.toList.take n) i h0'
    rw [Array.toList_setIfInBounds, List.take_set]
    omega
   have nextInv : ∀ v w', E w w' → G i (upd (rho l.toArray a) i (o.dst.elim undef fun _ => v)) w' → ParInv l.toArray a0 w0 G E (listed.setIfInBounds i true) (a.put o.dst v) w' :=
    fun v w' he hg => my hEt hG hloc hd hsz hbk inv ho hlt h0 hall he hg
   have hI' := hI.set hi hin
   unfold wpOp
   simp only [ho]
   split
   ·rename_i hw
    rw [if_pos hw] at hst
    refine .inl (Oper.wp_mono (fun a' w' h => ?_) hst)
    obtain ⟨v, rfl, he, hg⟩ := h
    exact ih _ _ _ hI' hcount (nextInv v w' he hg)
   ·rename_i hw
    rw [if_neg hw] at hst
    refine ih _ _ _ hI' hcount (nextInv undef w (hEr w) ?_)
    have e : (o.dst.elim undef fun _ => undef) = undef := by cases o.dst <;> rfl
    rw [e]; exact hst
 have hl0 : ∀ j, (Array.replicate l.toArray.size false).getD j false = true → False := fun j hl => by
  rw [getD_replicate_false] at hl; cases hl
 have inv0 : HeadInv .any l.toArray n (Array.replicate l.toArray.size false) :=
  ⟨by simp, fun j oj _ hl => (by rw [getD_replicate_false] at hl; cases hl), fun t _ ht => getD_in (by simpa using ht) (getD_replicate_false _ _)⟩
 have hfin := main n (Array.replicate l.toArray.size false) a0 w0.drew inv0 (by
  rw [Array.toList_replicate, List.take_replicate, List.filter_replicate]; simp; omega) ⟨hE0, rfl, rfl, fun s _ => rfl, fun j o _ hl => (hl0 j hl).elim, fun j o _ hl => (hl0 j hl).elim⟩
 rw [hsize]
 rwa [show n + (l.length - n) = l.length by omega] at hfin
end
end
section
open Go.RowKit
def jd (B : Nat) (w : World) : Type := { w' : World // Below B w w' }
instance (B : Nat) (w : World) : Nonempty (jd B w) := ⟨⟨w, Below.refl B w⟩⟩
theorem mW {W : World} {g : Nat} {vs : List Value} (h : Arr W g vs) (hn : vs.length ≤ 1000000) : Sl W (.slice (some ⟨g, 0, none⟩) vs.length vs.length) vs.length vs :=
 ⟨_, _, rfl, Nat.le_refl _, by omega, fun e => (by cases e), fun b o s e => by
  simp only [Option.some.injEq, Addr.mk.injEq] at e
  obtain ⟨rfl, rfl, rfl⟩ := e
  exact ⟨fun _ => rfl, fun j u hj => by rw [Nat.zero_add]; exact h.cell hj⟩⟩
theorem AG {W : World} {g : Nat} {v1 v2 : Value} {l1 l2 : List UInt8} (hA : Arr W g [v1, v2]) (h1 : Sl W v1 l1.length (u8s l1)) (h2 : Sl W v2 l2.length (u8s l2)) : BB W (.slice (some ⟨g, 0, none⟩) 2 2) [l1, l2] :=
 ⟨[v1, v2], rfl, mW hA (by simp), fun i l hi => by
  match i with
  | 0 => simp at hi; subst hi; exact ⟨v1, rfl, h1⟩
  | 1 => simp at hi; subst hi; exact ⟨v2, rfl, h2⟩
  | n + 2 => simp at hi⟩
theorem ya {W : World} {g : Nat} {v1 v2 v3 : Value} {l1 l2 l3 : List UInt8} (hA : Arr W g [v1, v2, v3]) (h1 : Sl W v1 l1.length (u8s l1)) (h2 : Sl W v2 l2.length (u8s l2)) (h3 : Sl W v3 l3.length (u8s l3)) : BB W (.slice (some ⟨g, 0, none⟩) 3 3) [l1, l2, l3] :=
 ⟨[v1, v2, v3], rfl, mW hA (by simp), fun i l hi => by
  match i with
  | 0 => simp at hi; subst hi; exact ⟨v1, rfl, h1⟩
  | 1 => simp at hi; subst hi; exact ⟨v2, rfl, h2⟩
  | 2 => simp at hi; subst hi; exact ⟨v3, rfl, h3⟩
  | n + 3 => simp at hi⟩
theorem ip.below' {w w' : World} (h : ip w) (hb : Below w.heap.size w w') : ip w' := h.below hb h.size
theorem uv (v : Value) (l : List UInt8) (w : World) (base : Nat) (hg : ip w) (hO : w.ownsRow base 5 1 v l.length (u8s l)) (hn : l.length ≤ 1000000) :
  Calls Tryd.prog 59 #[v] w fun e w' => e = .returned (.agg (u8s (Sha.sum l)).toArray) ∧ Below w.heap.size w w' := uM v l w hg (zM hO) hn
theorem gK (l : List UInt8) : (u8s (Sha.sum l)).length = 32 := by rw [av]; exact Sha.out_length _
set_option maxRecDepth 100000 in
set_option maxHeartbeats 400000 in
theorem m5 (v : Value) (l : List UInt8) (w : World) (hg : ip w) (hS : Sl w v l.length (u8s l)) (hn : l.length ≤ 900000) :
  Calls Tryd.prog 60 #[v] w fun e w' => e = .returned (.agg (u8s (Sha.sum (0 :: l))).toArray) ∧ Below w.heap.size w w' := by
 obtain ⟨ao, cap, rfl⟩ := iO hS
 have HS := Lib.hid hS; clear hS
 have HG := Lib.hid hg; clear hg
 go_enter Tryd.func60, Tryd.ntmps60
 go_wp2_with (go_at_call 36; refine Hid.out ?_)
 refine db ?_
 have e0 : u8s [0] = [.int .u8 0] := rfl
 refine (qw _ [[0], l] _ (AG (Arr.newAt (by simp) [_, _] _) ?_ ?_) (by simp; omega) (by simp) (by simp)).mono ?_
 ·exact mW (vs := u8s [0]) ((Arr.newAt (by simp) [_] _).alloc _) (by simp [u8s])
 ·exact HS.out.below (((Below.refl _ _).alloc (Nat.le_refl _) _).alloc (by simp) _ |>.alloc (by simp; omega) _)
 rintro e w1 ⟨v1, rfl, hown, hb⟩
 have ef : [[0], l].flatten = 0 :: l := by simp
 rw [ef] at hown
 have hB1 : Below w.heap.size w w1 := ((((Below.refl _ _).alloc (Nat.le_refl _) _).alloc (by simp) _).alloc (by simp; omega) _).trans (hb.mono (by simp; omega))
 have hA1 : Arr w1 w.heap.size (u8s (List.replicate 32 0)) := (((Arr.new w (u8s (List.replicate 32 0)) _).alloc _).alloc _).below' hb
 have HA := Lib.hid hA1
 have HB := Lib.hid hB1
 have HO := Lib.hid hown
 clear hb hown hA1 hB1
 go_wp2_with (go_at_call 59; refine Hid.out ?_)
 refine db ?_
 refine (uv _ (0 :: l) _ _ (HG.out.below' HB.out) HO.out (by simp; omega)).mono ?_
 rintro e w2 ⟨rfl, hb2⟩
 have HA2 := Lib.hid (HA.out.below' hb2)
 have HB2 := Lib.hid (HB.out.trans (hb2.mono HB.out.size))
 go_wp2_with (refine bL rfl rfl _ _ _ rfl _ 0 rfl (u8s (Sha.sum (0 :: l))) rfl (by rw [gK]; exact cY.2) (cV _) _ HA2.out (by rw [gK, av, List.length_replicate]; decide) ?_; intro w3 hA3 hG3)
 rw [cj _ _ (by rw [gK, av, List.length_replicate])] at hA3
 exact fo rfl rfl _ rfl _ hA3 (by rw [gK]; exact cY) ⟨rfl, HB2.out.grown hG3 HB2.out.size (by intro k hk; cases hk; exact Nat.le_refl _)⟩
set_option maxRecDepth 100000 in
set_option maxHeartbeats 400000 in
theorem pq (l1 l2 : List UInt8) (w : World) (hg : ip w) (h1 : l1.length = 32) (h2 : l2.length = 32) :
  Calls Tryd.prog 62 #[.agg (u8s l1).toArray, .agg (u8s l2).toArray] w fun e w' => e = .returned (.agg (u8s (Sha.sum (1 :: (l1 ++ l2)))).toArray) ∧ Below w.heap.size w w' := by
 have HG := Lib.hid hg; clear hg
 have H1 := Lib.hid h1; clear h1
 have H2 := Lib.hid h2; clear h2
 go_enter Tryd.func62, Tryd.ntmps62
 go_wp2
 obtain ⟨W, hW⟩ : ∃ W, W = ((w.alloc (Obj.cells (u8s l1).toArray 47)).alloc (Obj.cells (u8s l2).toArray 47)).alloc (Obj.cells (u8s (List.replicate 32 0)).toArray 47) := ⟨_, rfl⟩
 have hB0 : Below w.heap.size w W := by rw [hW]; exact (((Below.refl _ _).alloc (Nat.le_refl _) _).alloc (by simp) _).alloc (by simp; omega) _
 have hA1 : Arr W w.heap.size (u8s l1) := by rw [hW]; exact ((Arr.new w _ _).alloc _).alloc _
 have hA2 : Arr W (w.heap.size + 1) (u8s l2) := by rw [hW]; exact (Arr.newAt (by simp) _ _).alloc _
 have hA4 : Arr W (w.heap.size + 2) (u8s (List.replicate 32 0)) := by rw [hW]; exact Arr.newAt (by simp) _ _
 change Code.wp _ _ _ _ (((w.alloc (Obj.cells (u8s l1).toArray 47)).alloc (Obj.cells (u8s l2).toArray 47)).alloc (Obj.cells (u8s (List.replicate 32 0)).toArray 47))
 rw [← hW]
 clear hW
 have HB := Lib.hid hB0; clear hB0
 have HA1 := Lib.hid hA1; clear hA1
 have HA2 := Lib.hid hA2; clear hA2
 have HA4 := Lib.hid hA4; clear hA4
 refine kO (E := fun A B => Below A.heap.size A B)
  (G := fun j ρ W' => match j with
   | 0 => ∃ b, ρ 0 = .slice (some ⟨b, 0, none⟩) 1 1 ∧ Arr W' b [.int .u8 1]
   | 1 => ρ 1 = .slice (some ⟨w.heap.size, 0, none⟩) 32 32
   | 2 => ρ 2 = .slice (some ⟨w.heap.size + 1, 0, none⟩) 32 32
   | _ => True) 3 (by kernel_rfl) (by kernel_rfl) (Below.refl _ _).drew (fun _ => Below.refl _ _) (fun _ _ _ h k => h.trans (k.mono h.size)) ?hG ?hloc ?hstep ?hend
 case hG =>
  intro j ρ w1 w2 hg he
  match j with
  | 0 => obtain ⟨b, h1, h2⟩ := hg; exact ⟨b, h1, h2.below' he⟩
  | 1 | 2 => exact hg
  | n + 3 => trivial
 case hloc =>
  refine ez ⟨?_, ?_, ?_, ?_, ?_, ?_, ?_, trivial⟩ <;> intro ρ ρ' w h0 he hg
  ·obtain ⟨b, h1, h2⟩ := hg; exact ⟨b, h0.symm.trans h1, h2⟩
  ·exact h0.symm.trans hg
  ·exact h0.symm.trans hg
  all_goals trivial
 case hstep =>
  refine ez ⟨?_, ?_, ?_, trivial⟩ <;> intro a w1 hE hR hd <;> refine aB rfl ?_
  ·go_simp
   exact ⟨_, rfl, (Below.refl _ _).alloc (Nat.le_refl _) _, _, rfl, Arr.new w1 [_] _⟩
  ·have h2 : a.tmps[2]?.getD undef = .pointer (some ⟨w.heap.size, 0, none⟩) := hR.evalD rfl rfl
   go_simp
   exact ⟨_, rfl, Below.refl _ _, rfl⟩
  ·have h2 : a.tmps[3]?.getD undef = .pointer (some ⟨w.heap.size + 1, 0, none⟩) := hR.evalD rfl rfl
   go_simp
   exact ⟨_, rfl, Below.refl _ _, rfl⟩
 case hend =>
  intro vs hvs w1 hE hall
  obtain ⟨v0, v1, v2, rfl⟩ : ∃ v0 v1 v2, vs = [v0, v1, v2] := by
   match vs, hvs with
   | [v0, v1, v2], _ => exact ⟨v0, v1, v2, rfl⟩
  obtain ⟨b, e0, hb1⟩ := hall 0 (by omega)
  have e1 := hall 1 (by omega)
  have e2 := hall 2 (by omega)
  simp only [List.getD_cons_zero, List.getD_cons_succ] at e0 e1 e2
  subst e0 e1 e2
  have HB1 := Lib.hid (HB.out.trans (hE.mono HB.out.size))
  have K1 := Lib.hid (HA1.out.below' hE)
  have K2 := Lib.hid (HA2.out.below' hE)
  have K4 := Lib.hid (HA4.out.below' hE)
  have KB := Lib.hid hb1
  clear hall hvs hE hb1 HB HA1 HA2 HA4 W
  simp only [bH, List.take_succ_cons, List.take_zero, List.drop_succ_cons, List.drop_zero, List.map_cons, List.map_nil, List.zip_cons_cons, List.zip_nil_right, Act.put, List.setIfInBounds_toArray, List.set_cons_zero, List.set_cons_succ]
  go_wp2_with (go_at_call 36; refine Hid.out ?_)
  refine db ?_
  have n1 := H1.out
  have n2 := H2.out
  have s1 : Sl w1 (.slice (some ⟨w.heap.size, 0, none⟩) l1.length l1.length) l1.length (u8s l1) := by
   have := mW K1.out (by rw [av]; omega); rwa [av] at this
  have s2 : Sl w1 (.slice (some ⟨w.heap.size + 1, 0, none⟩) l2.length l2.length) l2.length (u8s l2) := by
   have := mW K2.out (by rw [av]; omega); rwa [av] at this
  rw [n1] at s1
  rw [n2] at s2
  refine (qw _ [[1], l1, l2] _ (ya (Arr.newAt rfl [_, _, _] _) ?_ ?_ ?_) (by simp; omega) (by simp) (by simp)).mono ?_
  ·exact mW (vs := u8s [1]) (KB.out.alloc _) (by simp [u8s])
  ·rw [n1]; exact s1.below ((Below.refl _ _).alloc (Nat.le_refl _) _)
  ·rw [n2]; exact s2.below ((Below.refl _ _).alloc (Nat.le_refl _) _)
  rintro e w2 ⟨v1, rfl, hown, hb⟩
  have ef : [[1], l1, l2].flatten = 1 :: (l1 ++ l2) := by simp
  rw [ef] at hown
  have hb' : Below w1.heap.size w1 w2 := ((Below.refl _ _).alloc (Nat.le_refl _) _).trans (hb.mono (by simp))
  have HB2 := Lib.hid (HB1.out.trans (hb'.mono HB1.out.size))
  have HA := Lib.hid (K4.out.below' hb')
  have HO := Lib.hid hown
  clear hb hb' hown n1 n2 s1 s2 ef
  go_wp2_with (go_at_call 59; refine Hid.out ?_)
  refine db ?_
  refine (uv _ (1 :: (l1 ++ l2)) _ _ (HG.out.below' HB2.out) HO.out (by have := H1.out; have := H2.out; simp; omega)).mono ?_
  rintro e w3 ⟨rfl, hb2⟩
  have HA2 := Lib.hid (HA.out.below' hb2)
  have HB3 := Lib.hid (HB2.out.trans (hb2.mono HB2.out.size))
  go_wp2_with (refine bL rfl rfl _ _ _ rfl _ 0 rfl (u8s (Sha.sum (1 :: (l1 ++ l2)))) rfl (by rw [gK]; exact cY.2) (cV _) _ HA2.out (by rw [gK, av, List.length_replicate]; decide) ?_; intro w4 hA3 hG3)
  rw [cj _ _ (by rw [gK, av, List.length_replicate])] at hA3
  exact fo rfl rfl _ rfl _ hA3 (by rw [gK]; exact cY) ⟨rfl, HB3.out.grown hG3 HB3.out.size (by intro k hk; cases hk; omega)⟩
end
section
namespace Sha
theorem sum_len (l : List UInt8) : (sum l).length = 32 := out_length _
def leaf (b : List UInt8) : List UInt8 := sum (0 :: b)
def pair (a b : List UInt8) : List UInt8 := sum (1 :: (a ++ b))
theorem leaf_len (b : List UInt8) : (leaf b).length = 32 := sum_len _
theorem pair_len (a b : List UInt8) : (pair a b).length = 32 := sum_len _
def cut (n : Nat) : Nat := 2 ^ Nat.log2 (n - 1)
theorem cut_pos (n : Nat) : 0 < cut n := Nat.pow_pos (by omega)
theorem cut_lt {n : Nat} (h : 2 ≤ n) : cut n < n := by
 have := Nat.log2_self_le (n := n - 1) (by omega)
 unfold cut; omega
theorem AM {n : Nat} (h : 2 ≤ n) : n ≤ 2 * cut n := by
 have := Nat.lt_log2_self (n := n - 1)
 unfold cut
 rw [Nat.pow_succ] at this; omega
theorem vO {a b n : Nat} (h1 : 2 ^ a < n) (h2 : n ≤ 2 ^ (a + 1)) (h3 : 2 ^ b < n) (h4 : n ≤ 2 ^ (b + 1)) : a = b := by
 have key : ∀ x y : Nat, 2 ^ x < n → n ≤ 2 ^ (y + 1) → x ≤ y := by
  intro x y hx hy
  rcases Nat.lt_or_ge y x with h | h
  ·have : 2 ^ (y + 1) ≤ 2 ^ x := Nat.pow_le_pow_right (by omega) h
   omega
  ·exact h
 exact Nat.le_antisymm (key a b h1 h4) (key b a h3 h2)
theorem cut_eq {n k : Nat} (h : 2 ≤ n) (h1 : 2 ^ k < n) (h2 : n ≤ 2 * 2 ^ k) : cut n = 2 ^ k := by
 have a1 := cut_lt h
 have a2 := AM h
 unfold cut at *
 rw [vO (a := Nat.log2 (n - 1)) (b := k) (n := n) a1 (by rw [Nat.pow_succ]; omega) h1 (by rw [Nat.pow_succ]; omega)]
theorem cut_bits {n : Nat} (h : 2 ≤ n) (h2 : n < 2 ^ 64) : 1 ≤ Lib.bitLen (n - 1) ∧ Lib.bitLen (n - 1) ≤ 64 ∧ cut n = 2 ^ (Lib.bitLen (n - 1) - 1) := by
 obtain ⟨a, b, c⟩ := Lib.bitLenAux_bounds 64 (n - 1) (by omega) (by omega)
 have hle : Lib.bitLen (n - 1) ≤ 64 := Lib.bitLen_le _ 64 (by omega) (by omega)
 refine ⟨a, hle, ?_⟩
 change 1 ≤ Lib.bitLen (n - 1) at a
 change 2 ^ (Lib.bitLen (n - 1) - 1) ≤ n - 1 at b
 change n - 1 < 2 ^ Lib.bitLen (n - 1) at c
 have e : Lib.bitLen (n - 1) = (Lib.bitLen (n - 1) - 1) + 1 := by omega
 rw [e, Nat.pow_succ] at c
 exact cut_eq h (by omega) (by omega)
def root (l : List (List UInt8)) : List UInt8 :=
 if h : 2 ≤ l.length then pair (root (l.take (cut l.length))) (root (l.drop (cut l.length))) else match l with
  | [] => sum []
  | b :: _ => leaf b
termination_by l.length
decreasing_by
 ·have := cut_lt h; rw [List.length_take]; omega
 ·have := cut_pos l.length; rw [List.length_drop]; omega
theorem root_cut {l : List (List UInt8)} (h : 2 ≤ l.length) : root l = pair (root (l.take (cut l.length))) (root (l.drop (cut l.length))) := by
 rw [root, dif_pos h]
theorem root_nil : root [] = sum [] := by rw [root, dif_neg (by simp)]
theorem root_one (b : List UInt8) : root [b] = leaf b := by rw [root, dif_neg (by simp)]
theorem root_len (l : List (List UInt8)) : (root l).length = 32 := by
 rw [root]
 split
 ·exact pair_len _ _
 ·split <;> first | exact sum_len _ | exact leaf_len _
def path (l : List (List UInt8)) (i : Nat) : List (List UInt8) :=
 if h : 2 ≤ l.length then
  if i < cut l.length then root (l.drop (cut l.length)) :: path (l.take (cut l.length)) i
  else root (l.take (cut l.length)) :: path (l.drop (cut l.length)) (i - cut l.length)
 else []
termination_by l.length
decreasing_by
 ·have := cut_lt h; rw [List.length_take]; omega
 ·have := cut_pos l.length; rw [List.length_drop]; omega
def proof (l : List (List UInt8)) (i : Nat) : List (List UInt8) := (path l i).reverse
theorem path_low {l : List (List UInt8)} {i : Nat} (h : 2 ≤ l.length) (hi : i < cut l.length) : path l i = root (l.drop (cut l.length)) :: path (l.take (cut l.length)) i := by
 rw [path, dif_pos h, if_pos hi]
theorem path_high {l : List (List UInt8)} {i : Nat} (h : 2 ≤ l.length) (hi : cut l.length ≤ i) : path l i = root (l.take (cut l.length)) :: path (l.drop (cut l.length)) (i - cut l.length) := by
 rw [path, dif_pos h, if_neg (by omega)]
theorem path_one {l : List (List UInt8)} (i : Nat) (h : l.length < 2) : path l i = [] := by
 rw [path, dif_neg (by omega)]
def climb (b : List UInt8) : List (List UInt8) → Nat → Nat → List UInt8 × Bool
 | [], n, _ => (leaf b, n == 1)
 | q :: r, n, i =>
  if n = 1 then (leaf b, false)
  else if i < cut n then (pair (climb b r (cut n) i).1 q, (climb b r (cut n) i).2)
  else (pair q (climb b r (n - cut n) (i - cut n)).1, (climb b r (n - cut n) (i - cut n)).2)
theorem climb_len (b : List UInt8) (p : List (List UInt8)) (n i : Nat) : (climb b p n i).1.length = 32 := by
 cases p with
 | nil => exact leaf_len _
 | cons q r =>
  simp only [climb]
  split
  ·exact leaf_len _
  ·split <;> exact pair_len _ _
def check (root : List UInt8) (n i : Int) (b : List UInt8) (p : List (List UInt8)) : Bool :=
 if i < 0 ∨ n ≤ i then false else (climb b p.reverse n.toNat i.toNat).2 && decide ((climb b p.reverse n.toNat i.toNat).1 = root)
end Sha
end
section
open Go.RowKit
set_option maxHeartbeats 400000 in
theorem mL (n : Nat) (w : World) (h2 : 2 ≤ n) (hn : n ≤ 4294967296) :
  Calls Tryd.prog 61 #[.int .i64 n] w fun e w' => e = .returned (.int .i64 (Sha.cut n)) ∧ w = w' := by
 obtain ⟨b1, b2, hc⟩ := Sha.cut_bits h2 (by omega)
 have cl := Sha.cut_lt h2
 obtain ⟨L, hL⟩ : ∃ L, L = Lib.bitLen (n - 1) := ⟨_, rfl⟩
 rw [← hL] at b1 b2 hc
 go_enter Tryd.func61, Tryd.ntmps61
 go_wp2_with (go_at_call 86; refine Hid.out ?_)
 refine db ?_
 refine (Tryd.bits_Len _ w (by omega) (by omega)).mono ?_
 rintro e w1 ⟨rfl, rfl⟩
 have eL : (((n : Int) - 1).toNat) = n - 1 := by omega
 rw [eL, ← hL]
 clear hL eL
 have HC := Lib.hid hc; clear hc
 go_wp2
 have e := HC.out
 have hw : wrap64 (2 ^ (L - 1)) = ((Sha.cut n : Nat) : Int) := by
  rw [e]
  have : ((2 ^ (L - 1) : Nat) : Int) = 2 ^ (L - 1) := by exact Int.natCast_pow 2 (L - 1)
  rw [← this, ← e]
  exact IntWalk.wrap64_in _ (by omega)
 rw [hw]
 exact bodyPost_ret (results_tmp rfl _ _ _) rfl ⟨rfl, rfl⟩
end
section
open Go.RowKit
section
variable {P : Program} {C : World → Prop} {Q : Exit → Act → World → Prop}
theorem nU (s : Tmp) (l : List (Option Tmp × Value)) : ∀ a : Act, (∀ v, (some s, v) ∉ l) → (bH a l).tmps[s]? = a.tmps[s]? := by
 induction l with
 | nil => intro a _; rfl
 | cons x r ih =>
  intro a h
  obtain ⟨d, v⟩ := x
  rw [bH, ih _ (fun v' => by have := h v'; simp at this; exact this.2)]
  cases d with
  | none => rfl
  | some d =>
   have hne : d ≠ s := fun e => h v (by subst e; simp)
   simp [Act.put, Array.getElem?_setIfInBounds_ne hne]
theorem tX (s : Tmp) (v : Value) (l : List (Option Tmp × Value)) : ∀ a : Act, s < a.tmps.size → (some s, v) ∈ l → (∀ v', (some s, v') ∈ l → v' = v) → (bH a l).tmps[s]? = some v := by
 induction l with
 | nil => intro a _ h; cases h
 | cons x r ih =>
  intro a hs hm hu
  obtain ⟨d, u⟩ := x
  rw [bH]
  by_cases h : ∃ v', (some s, v') ∈ r
  ·obtain ⟨v', h'⟩ := h
   have e := hu v' (List.mem_cons_of_mem _ h')
   subst e
   exact ih _ (by cases d <;> simpa [Act.put] using hs) h' (fun v'' h'' => hu v'' (List.mem_cons_of_mem _ h''))
  ·have hn : ∀ v', (some s, v') ∉ r := fun v' h' => h ⟨v', h'⟩
   rw [nU s r _ hn]
   rcases List.mem_cons.1 hm with h' | h'
   ·simp only [Prod.mk.injEq] at h'
    obtain ⟨rfl, rfl⟩ := h'
    simp [Act.put, hs]
   ·exact absurd h' (hn v)
theorem jN (ds : List (Option Tmp)) : ∀ (vs us : List Value) (a : Act), vs.length = ds.length → us.length = ds.length → (∀ (j : Nat) (s : Tmp), ds[j]? = some (some s) → vs.getD j undef = us.getD j undef) → bH a (ds.zip vs) = bH a (ds.zip us) := by
 induction ds with
 | nil => intro vs us a _ _ _; simp
 | cons d r ih =>
  intro vs us a h1 h2 h
  match vs, us with
  | [], _ => simp at h1
  | _ :: _, [] => simp at h2
  | v :: vs, u :: us =>
   simp only [List.zip_cons_cons, bH]
   have e : a.put d v = a.put d u := by
    cases d with
    | none => rfl
    | some s => have := h 0 s rfl; simp only [List.getD_cons_zero] at this; rw [this]
   rw [e]
   exact ih vs us _ (by simpa using h1) (by simpa using h2) (fun j s hj => by simpa using h (j + 1) s (by simpa using hj))
theorem tu {ops : Array Oper} {K : Act → Prop} : ∀ (l : List Oper) (a : Act), wpQuiet P ops C K l a →
  ∃ vs : List Value, vs.length = l.length ∧ K (bH a ((l.map (·.dst)).zip vs)) ∧ ∀ (j : Nat) (o : Oper), l[j]? = some o → YieldsIn P ops C o (vs.getD j undef) (bH a (((l.map (·.dst)).zip vs).take j)) := by
 intro l
 induction l with
 | nil => intro a h; exact ⟨[], rfl, h, fun j o h => by simp at h⟩
 | cons o r ih =>
  intro a h
  obtain ⟨v, hy, hr⟩ : ∃ v, YieldsIn P ops C o v a ∧ wpQuiet P ops C K r (a.put o.dst v) := by
   unfold wpQuiet at h
   by_cases hw : Region.wanted o (yielded ops a.tmps) = true
   ·rw [if_pos hw] at h
    obtain ⟨v, h1, h2⟩ := h
    exact ⟨v, .inl ⟨hw, h1⟩, h2⟩
   ·rw [if_neg hw] at h
    exact ⟨undef, .inr ⟨by simpa using hw, rfl⟩, h⟩
  obtain ⟨vs, hl, hk, hall⟩ := ih _ hr
  refine ⟨v :: vs, by simp [hl], hk, fun j oj hj => ?_⟩
  cases j with
  | zero => simp at hj; subst hj; exact hy
  | succ j => simpa [bH] using hall j oj (by simpa using hj)
def nw (l : List Oper) (size n : Nat) : Bool :=
 m7 l size n && (l.take n).all fun o => (match o.op with | .select _ _ => false | _ => true) && (o.looksAt l.toArray).all fun s =>
  l.zipIdx.all fun (oj, j) => oj.dst != some s || o.after.any fun e => Region.binds .any e && e.on == j
theorem rQ {ops : Array Oper} {t1 t2 : Array Value} (g : Nat) (h : ∀ s, (ops[g]?).bind (·.dst) = some s → t1[s]?.getD undef = t2[s]?.getD undef) : yielded ops t1 g = yielded ops t2 g := by
 unfold yielded
 cases hg : (ops[g]?).bind (·.dst) with
 | none => rfl
 | some s =>
  have := h s hg
  simp only [Option.bind_some]
  cases h1 : t1[s]? with
  | none => cases h2 : t2[s]? with
   | none => rfl
   | some v2 => rw [h1, h2] at this; simp only [Option.getD_none, Option.getD_some] at this; subst this; rfl
  | some v1 => cases h2 : t2[s]? with
   | none => rw [h1, h2] at this; simp only [Option.getD_none, Option.getD_some] at this; subst this; rfl
   | some v2 => rw [h1, h2] at this; simp only [Option.getD_some] at this; subst this; rfl
theorem nz {id : Nat} {l : List Oper} {a0 : Act} {w0 : World} (n : Nat) (hm : P.follows .mixedOrders = true) (hB : nw l a0.tmps.size n = true) (hC0 : C w0) (hC : C w0.drew)
  (h : wpQuiet P l.toArray C (fun a' => ∀ w', C w' → wpList P l.toArray Q (l.drop n) a' w') (l.take n) a0) : (Code.region id l.toArray true).wp P Q a0 w0 := by
 simp only [nw, Bool.and_eq_true] at hB
 obtain ⟨hPT, hlk⟩ := hB
 have hPT' := hPT
 simp only [m7, lM, Bool.and_eq_true, decide_eq_true_eq] at hPT'
 obtain ⟨⟨⟨⟨⟨⟨hB1, hB2⟩, hB3⟩, hn⟩, _⟩, _⟩, _⟩ := hPT'
 obtain ⟨vs, hvl, hK, hY⟩ := tu _ _ h
 have htn : (l.take n).length = n := by simp; omega
 rw [htn] at hvl
 let val : Nat → Value := fun j => ((l[j]?).bind (·.dst)).elim undef fun _ => vs.getD j undef
 refine kO (E := fun A B => C A → C B) (G := fun j ρ _ => j < n → ρ j = val j) n hm hPT (fun _ => hC) (fun _ h => h) (fun _ _ _ h k g => k (h g)) (fun _ _ _ _ h _ => h) (fun j o _ ρ ρ' w e _ hg hj => by rw [← e]; exact hg hj) ?_ ?_
 ·intro i o hi a w hE hR hdep
  have hin : i < n := by
   have := (Array.getElem?_eq_some_iff.1 hi).1
   simp at this; omega
  have hiT : (l.take n)[i]? = some o := by simpa using hi
  have hil : l[i]? = some o := by rw [List.getElem?_take_of_lt hin] at hiT; exact hiT
  have hlo := List.all_eq_true.1 hlk o (List.mem_iff_getElem?.2 ⟨i, hiT⟩)
  simp only [Bool.and_eq_true] at hlo
  obtain ⟨hsel, hlook⟩ := hlo
  have hsel' : ∀ cs b, o.op ≠ .select cs b := fun cs b e => by rw [e] at hsel; cases hsel
  have hback : ∀ e ∈ o.after, Region.binds .any e = true → e.on < i := by
   intro e he hb
   have hz : (o, i) ∈ l.zipIdx := by rw [List.mem_zipIdx_iff_getElem?]; exact hil
   have := List.all_eq_true.1 hB3 (o, i) hz
   simp only [Array.all_eq_true_iff_forall_mem] at this
   have := this e he
   simpa [hb] using this
  have agree : ∀ s ∈ o.looksAt l.toArray, a.tmps[s]?.getD undef = (bH a0 ((((l.take n).map (·.dst)).zip vs).take i)).tmps[s]?.getD undef := by
   intro s hs
   by_cases hex : ∃ (j : Nat) (oj : Oper), l[j]? = some oj ∧ oj.dst = some s
   ·obtain ⟨j, oj, hj, hd⟩ := hex
    have h1 := List.all_eq_true.1 hlook s hs
    have hz : (oj, j) ∈ l.zipIdx := by rw [List.mem_zipIdx_iff_getElem?]; exact hj
    have h2 := List.all_eq_true.1 h1 (oj, j) hz
    simp only [hd, bne_self_eq_false, Bool.false_or] at h2
    obtain ⟨e, he, hb⟩ := Array.any_eq_true'.1 h2
    simp only [Bool.and_eq_true, beq_iff_eq] at hb
    have hji : j < i := by rw [← hb.2]; exact hback e he hb.1
    have hg := hdep e he hb.1 (by rw [hb.2]; omega)
    rw [hb.2] at hg
    have hval : val j = vs.getD j undef := by simp [val, hj, hd]
    rw [hval] at hg
    have hrho : rho l.toArray a j = a.tmps[s]?.getD undef := by
     simp [rho, hj, e6, hd, Array.getD_eq_getD_getElem?]
    rw [← hrho, hg]
    have hsz : s < a0.tmps.size := by
     have := List.all_eq_true.1 hB1 s (List.mem_filterMap.2 ⟨oj, List.mem_iff_getElem?.2 ⟨j, hj⟩, hd⟩)
     simpa using this
    have hmem : ∀ (k : Nat) (v : Value), ((((l.take n).map (·.dst)).zip vs).take i)[k]? = some (some s, v) ↔ (k < i ∧ k = j ∧ v = vs.getD j undef) := by
     intro k v
     constructor
     ·intro hk
      have hki : k < i := by
       have := (List.getElem?_eq_some_iff.1 hk).1
       rw [List.length_take] at this; omega
      rw [List.getElem?_take_of_lt hki, List.getElem?_zip_eq_some] at hk
      obtain ⟨hk1, hk2⟩ := hk
      rw [List.getElem?_map, List.getElem?_take_of_lt (by omega)] at hk1
      cases hok : l[k]? with
      | none => rw [hok] at hk1; cases hk1
      | some ok =>
       rw [hok] at hk1
       simp at hk1
       have hkj : k = j := kQ l hB2 k j ok oj s hok hj hk1 hd
       subst hkj
       exact ⟨hki, rfl, by simp [hk2]⟩
     ·rintro ⟨hki, rfl, rfl⟩
      rw [List.getElem?_take_of_lt hki, List.getElem?_zip_eq_some]
      refine ⟨by rw [List.getElem?_map, List.getElem?_take_of_lt (by omega), hj]; simp [hd], ?_⟩
      have : k < vs.length := by omega
      simp [this]
    rw [tX s (vs.getD j undef) _ a0 hsz (List.mem_iff_getElem?.2 ⟨j, (hmem j _).2 ⟨hji, rfl, rfl⟩⟩) (fun v' hv' => by
     obtain ⟨k, hk⟩ := List.mem_iff_getElem?.1 hv'
     exact ((hmem k v').1 hk).2.2)]
    rfl
   ·have hno : ∀ (j : Nat) (oj : Oper), (l.take n).toArray[j]? = some oj → oj.dst ≠ some s := fun j oj hj hd => by
     have h1 : (l.take n)[j]? = some oj := by simpa using hj
     have hjn : j < n := by
      have := (List.getElem?_eq_some_iff.1 h1).1
      rw [List.length_take] at this; omega
     rw [List.getElem?_take_of_lt hjn] at h1
     exact hex ⟨j, oj, h1, hd⟩
    rw [hR s hno, nU s _ a0 (fun v hv => by
     have hv1 := List.mem_of_mem_take hv
     have := (List.of_mem_zip hv1).1
     obtain ⟨oj, hoj, hd⟩ := List.mem_map.1 this
     obtain ⟨j, hj⟩ := List.mem_iff_getElem?.1 hoj
     exact hno j oj (by simpa using hj) hd)]
  have hy := hY i o hiT
  have hy' : YieldsIn P l.toArray C o (vs.getD i undef) a := by
   refine hy.of_same (execOp_congr o hsel' fun x hx => ?_) ?_
   ·cases x with
    | tmp s =>
     have hs : s ∈ o.looksAt l.toArray := List.mem_append_left _ (List.mem_filterMap.2 ⟨.tmp s, by simpa using hx, rfl⟩)
     have := agree s hs
     simpa [Act.eval] using this
    | _ => rfl
   ·unfold Region.wanted
    cases hg : o.guard with
    | none => rfl
    | some gw =>
     obtain ⟨g, want⟩ := gw
     have : yielded l.toArray a.tmps g = yielded l.toArray (bH a0 ((((l.take n).map (·.dst)).zip vs).take i)).tmps g :=
      rQ g fun s hs => agree s (List.mem_append_right _ (by simp only [hg, Option.mem_toList]; exact hs))
     simp only [this]
  have hvi : ∀ v, ((o.dst.elim undef fun _ => v) = val i) ↔ (o.dst = none ∨ v = vs.getD i undef) := by
   intro v
   cases hd : o.dst with
   | none => simp [val, hil, hd]
   | some d => simp [val, hil, hd]
  have hCw := hE hC0
  split
  ·rename_i hw
   rcases hy' with ⟨_, hq⟩ | ⟨hw', _⟩
   ·refine Oper.wp_of_quiet (C := C) (K := fun a' => a' = a.put o.dst (vs.getD i undef)) hCw ?_ ⟨_, hq, rfl⟩
    rintro a' w' hC' rfl
    exact ⟨_, rfl, fun _ => hC', fun _ => by simp only [upd]; exact (if_pos trivial).trans ((hvi _).2 (.inr rfl))⟩
   ·rw [hw] at hw'; cases hw'
  ·rename_i hw
   rcases hy' with ⟨hw', _⟩ | ⟨_, hu⟩
   ·exact absurd hw' hw
   ·intro _
    simp only [upd]
    refine (if_pos trivial).trans ((Eq.trans ?_ ((hvi undef).2 (.inr hu.symm))))
    cases o.dst <;> rfl
 ·intro us hus w hE hall
  have e : bH a0 (((l.take n).map (·.dst)).zip us) = bH a0 (((l.take n).map (·.dst)).zip vs) := by
   refine jN _ us vs a0 (by simp [hus]; omega) (by simp [hvl]; omega) ?_
   intro j s hj
   have hjn : j < n := by
    have := (List.getElem?_eq_some_iff.1 hj).1
    simp at this; omega
   have hg := hall j hjn hjn
   rw [List.getElem?_map, List.getElem?_take_of_lt hjn] at hj
   cases hok : l[j]? with
   | none => rw [hok] at hj; cases hj
   | some ok =>
    rw [hok] at hj
    simp at hj
    simpa [val, hok, hj] using hg
  rw [e]
  exact hK w (hE hC0)
end
end
section
open Go.RowKit
theorem jd.size {B : Nat} {w : World} (d : jd B w) (h : B ≤ w.heap.size) : B ≤ d.1.heap.size := Nat.le_trans h d.2.size
theorem tG {P : Program} {f : FuncId} {args : Array Value} {B : Nat} {w : World} {v : Value} (hB : B ≤ w.heap.size) (d : jd B w)
  (h : Calls P f args d.1 fun e w' => e = .returned v ∧ Below d.1.heap.size d.1 w') : Calls P f args d.1 fun e w' => e = .returned v ∧ ∃ d' : jd B w, w' = d'.1 :=
 h.mono fun _ _ ⟨he, hb⟩ => ⟨he, ⟨_, d.2.trans (hb.mono (d.size hB))⟩, rfl⟩
theorem rT {P : Program} {id : Nat} {Q : Exit → Act → World → Prop} {a : Act} {w : World} {l : List Oper} (n : Nat) (hm : P.follows .mixedOrders = true) (hB : nw l a.tmps.size n = true)
  (h : wpQuiet P l.toArray (fun w' => ∃ d : jd w.heap.size w, w' = d.1) (fun a' => ∀ w', Below w.heap.size w w' → wpList P l.toArray Q (l.drop n) a' w') (l.take n) a) : (Code.region id l.toArray true).wp P Q a w := by
 refine nz (C := fun w' => ∃ d : jd w.heap.size w, w' = d.1) n hm hB ⟨⟨w, Below.refl _ _⟩, rfl⟩ ⟨⟨w.drew, (Below.refl _ _).drew⟩, rfl⟩ ?_
 have e : (fun a' => ∀ w', (∃ d : jd w.heap.size w, w' = d.1) → wpList P l.toArray Q (l.drop n) a' w') = (fun a' => ∀ w', Below w.heap.size w w' → wpList P l.toArray Q (l.drop n) a' w') := by
  funext a'
  apply propext
  constructor
  ·intro h w' hb; exact h w' ⟨⟨w', hb⟩, rfl⟩
  ·rintro h w' ⟨d, rfl⟩; exact h d.1 d.2
 rw [e]; exact h
theorem uL {w : World} {ao : Option Addr} {n cap : Nat} {cs : List Value} (h : Sl w (.slice ao n cap) n cs) (m k : Nat) (hm : m ≤ n) : Sl w (.slice ao m cap) m (cs.take k) := by
 obtain ⟨ao', cap', e, h2, h3, h4, h5⟩ := h
 simp only [Value.slice.injEq, true_and] at e
 obtain ⟨rfl, rfl⟩ := e
 refine ⟨ao, cap, rfl, by omega, h3, h4, fun b o s e => ⟨(h5 b o s e).1, fun j u hj => (h5 b o s e).2 j u ?_⟩⟩
 by_cases hjk : j < k
 ·rwa [List.getElem?_take_of_lt hjk] at hj
 ·rw [List.getElem?_eq_none (by rw [List.length_take]; omega)] at hj; cases hj
theorem zt {w : World} {b o n cap : Nat} {cs : List Value} (h : Sl w (.slice (some ⟨b, o, none⟩) n cap) n cs) (m k : Nat) (hm : m ≤ n) : Sl w (.slice (some ⟨b, o + k, none⟩) (n - m) (cap - m)) (n - m) (cs.drop k) := by
 obtain ⟨ao', cap', e, h2, h3, h4, h5⟩ := h
 simp only [Value.slice.injEq, true_and] at e
 obtain ⟨rfl, rfl⟩ := e
 refine ⟨_, _, rfl, by omega, by omega, fun e => (by cases e), fun b' o' s e => ?_⟩
 simp only [Option.some.injEq, Addr.mk.injEq] at e
 obtain ⟨rfl, rfl, rfl⟩ := e
 refine ⟨fun _ => rfl, fun j u hj => ?_⟩
 rw [List.getElem?_drop] at hj
 have := (h5 _ _ _ rfl).2 _ u hj
 rwa [← Nat.add_assoc] at this
theorem qU {w : World} {ao : Option Addr} {cap : Nat} {ls : List (List UInt8)} (h : BB w (.slice ao ls.length cap) ls) (m : Nat) (hm : m ≤ ls.length) : BB w (.slice ao m cap) (ls.take m) := by
 obtain ⟨vs, h1, h2, h3⟩ := h
 refine ⟨vs.take m, by simp [h1], ?_, fun i l hi => ?_⟩
 ·rw [List.length_take, Nat.min_eq_left hm]; exact uL h2 m m hm
 ·have him : i < m := by
   have := (List.getElem?_eq_some_iff.1 hi).1
   rw [List.length_take] at this; omega
  rw [List.getElem?_take_of_lt him] at hi ⊢
  exact h3 i l hi
theorem rf {w : World} {b o cap : Nat} {ls : List (List UInt8)} (h : BB w (.slice (some ⟨b, o, none⟩) ls.length cap) ls) (m : Nat) (hm : m ≤ ls.length) : BB w (.slice (some ⟨b, o + m, none⟩) (ls.length - m) (cap - m)) (ls.drop m) := by
 obtain ⟨vs, h1, h2, h3⟩ := h
 refine ⟨vs.drop m, by simp [h1], ?_, fun i l hi => ?_⟩
 ·rw [List.length_drop]; exact zt h2 m m hm
 ·rw [List.getElem?_drop] at hi ⊢
  exact h3 _ l hi
def Fit (ls : List (List UInt8)) : Prop := ls.length ≤ 1000000 ∧ ∀ l ∈ ls, l.length ≤ 900000
theorem Fit.take {ls : List (List UInt8)} (h : Fit ls) (m : Nat) : Fit (ls.take m) := ⟨by rw [List.length_take]; have := h.1; omega, fun l hl => h.2 l (List.mem_of_mem_take hl)⟩
theorem Fit.drop {ls : List (List UInt8)} (h : Fit ls) (m : Nat) : Fit (ls.drop m) := ⟨by rw [List.length_drop]; have := h.1; omega, fun l hl => h.2 l (List.mem_of_mem_drop hl)⟩
theorem cm (ls : List (List UInt8)) : (u8s (Sha.root ls)).length = 32 := by rw [av, Sha.root_len]
set_option maxHeartbeats 400000 in
theorem pT : ∀ (k : Nat) (ls : List (List UInt8)) (v : Value) (w : World), ls.length = k → ip w → BB w v ls → Fit ls →
  Calls Tryd.prog 32 #[v] w fun e w' => e = .returned (.agg (u8s (Sha.root ls)).toArray) ∧ Below w.heap.size w w' := by
 intro k
 induction k using Nat.strongRecOn with
 | _ k ih =>
 intro ls v w hk hg hBB hF
 rcases Nat.lt_or_ge ls.length 2 with h2 | h2
 ·match ls, h2 with
  | [], _ =>
   obtain ⟨vs, hvs, hS, hel⟩ := hBB
   obtain ⟨ao, cap, rfl⟩ := iO hS
   have HG := Lib.hid hg; clear hg
   clear hS hel hvs ih hk
   simp only [List.length_nil]
   go_enter Tryd.func32, Tryd.ntmps32
   go_wp2_with (go_at_call 59; refine Hid.out ?_)
   refine db ?_
   refine (uM (.slice none 0 0) [] _ ?_ ⟨none, 0, rfl, Nat.le_refl _, by omega, fun _ => rfl, fun b o s e => by cases e⟩ (by simp)).mono ?_
   ·exact HG.out.below' ((Below.refl _ _).alloc (Nat.le_refl _) _)
   rintro e w1 ⟨rfl, hb⟩
   rw [← Sha.root_nil]
   have HA := Lib.hid ((Arr.new w (u8s (List.replicate 32 0)) _).below' hb)
   have HB := Lib.hid (((Below.refl w.heap.size w).alloc (Nat.le_refl _) _).trans (hb.mono (by simp)))
   clear hb
   go_wp2_with (refine bL rfl rfl _ _ _ rfl _ 0 rfl (u8s (Sha.root [])) rfl (by rw [cm]; exact cY.2) (cV _) _ HA.out (by rw [cm, av, List.length_replicate]; decide) ?_; intro w4 hA3 hG3)
   rw [cj _ _ (by rw [cm, av, List.length_replicate])] at hA3
   exact fo rfl rfl _ rfl _ hA3 (by rw [cm]; exact cY) ⟨rfl, HB.out.grown hG3 HB.out.size (by intro k hk; cases hk; omega)⟩
  | [x], _ =>
   obtain ⟨vs, hvs, hS, hel⟩ := hBB
   obtain ⟨b, o, cap, rfl, hle, hcap, hcell⟩ := lB hS (by simp)
   obtain ⟨u, hu, hSx⟩ := hel 0 x rfl
   have hc := hcell 0 u hu
   obtain ⟨ao, cap1, rfl⟩ := iO hSx
   have hxn : x.length ≤ 900000 := hF.2 x (by simp)
   have HG := Lib.hid hg; clear hg
   have HS := Lib.hid hSx; clear hSx
   have HC := Lib.hid hc
   clear hel hvs ih hk hcell hu hF hS hc
   simp only [List.length_cons, List.length_nil, Nat.zero_add, Nat.add_zero] at hle ⊢
   have hc2 : ∀ o', (w.alloc o').cell? ⟨b, o, none⟩ = some (.slice ao x.length cap1) := fun o' => by
    have := HC.out
    simp only [Nat.add_zero] at this
    exact (((Below.refl w.heap.size w).alloc (Nat.le_refl _) o').cell (block_lt_of_cell this)).trans this
   go_enter Tryd.func32, Tryd.ntmps32
   go_wp2_with (go_at_call 60; refine Hid.out ?_)
   refine db ?_
   clear hc2
   refine (m5 _ x _ ?_ (HS.out.below ((Below.refl _ _).alloc (Nat.le_refl _) _)) hxn).mono ?_
   ·exact HG.out.below' ((Below.refl _ _).alloc (Nat.le_refl _) _)
   rintro e w1 ⟨rfl, hb⟩
   have er : Sha.sum (0 :: x) = Sha.root [x] := (Sha.root_one x).symm
   rw [er]
   have HA := Lib.hid ((Arr.new w (u8s (List.replicate 32 0)) _).below' hb)
   have HB := Lib.hid (((Below.refl w.heap.size w).alloc (Nat.le_refl _) _).trans (hb.mono (by simp)))
   clear hb er
   go_wp2_with (refine bL rfl rfl _ _ _ rfl _ 0 rfl (u8s (Sha.root [x])) rfl (by rw [cm]; exact cY.2) (cV _) _ HA.out (by rw [cm, av, List.length_replicate]; decide) ?_; intro w4 hA3 hG3)
   rw [cj _ _ (by rw [cm, av, List.length_replicate])] at hA3
   exact fo rfl rfl _ rfl _ hA3 (by rw [cm]; exact cY) ⟨rfl, HB.out.grown hG3 HB.out.size (by intro k hk; cases hk; omega)⟩
 ·obtain ⟨b, o, cap, rfl, hle, hcap⟩ : ∃ b o cap, v = .slice (some ⟨b, o, none⟩) ls.length cap ∧ ls.length ≤ cap ∧ cap ≤ 9223372036854775807 := by
   obtain ⟨vs, hvs, hS, hel⟩ := hBB
   obtain ⟨b, o, cap, rfl, hle, hcap, hcell⟩ := lB hS (by omega)
   exact ⟨b, o, cap, rfl, hle, hcap⟩
  have hn := hF.1
  have c1 := Sha.cut_lt h2
  have c0 := Sha.cut_pos ls.length
  have HT := Lib.hid (fun d : jd (w.alloc (Obj.cells (u8s (List.replicate 32 0)).toArray 47)).heap.size (w.alloc (Obj.cells (u8s (List.replicate 32 0)).toArray 47)) =>
   tG (Nat.le_refl _) d (ih (ls.take (Sha.cut ls.length)).length (by rw [List.length_take]; omega) (ls.take (Sha.cut ls.length)) (.slice (some ⟨b, o, none⟩) (Sha.cut ls.length) cap) d.1 rfl
    ((hg.below' ((Below.refl _ _).alloc (Nat.le_refl _) _)).below' d.2) ((qU hBB _ (by omega)).below (((Below.refl _ _).alloc (Nat.le_refl _) _).trans (d.2.mono (by simp)))) (hF.take _)))
  have HD := Lib.hid (fun d : jd (w.alloc (Obj.cells (u8s (List.replicate 32 0)).toArray 47)).heap.size (w.alloc (Obj.cells (u8s (List.replicate 32 0)).toArray 47)) =>
   tG (Nat.le_refl _) d (ih (ls.drop (Sha.cut ls.length)).length (by rw [List.length_drop]; omega) (ls.drop (Sha.cut ls.length)) (.slice (some ⟨b, o + Sha.cut ls.length, none⟩) (ls.length - Sha.cut ls.length) (cap - Sha.cut ls.length)) d.1 rfl
    ((hg.below' ((Below.refl _ _).alloc (Nat.le_refl _) _)).below' d.2) ((rf hBB _ (by omega)).below (((Below.refl _ _).alloc (Nat.le_refl _) _).trans (d.2.mono (by simp)))) (hF.drop _)))
  have HR := Lib.hid (Sha.root_cut h2)
  have HG := Lib.hid hg
  clear ih hBB hF hk hg
  obtain ⟨n, hN⟩ : ∃ n, n = ls.length := ⟨_, rfl⟩
  obtain ⟨m, hM⟩ : ∃ m, m = Sha.cut n := ⟨_, rfl⟩
  rw [← hN, ← hM] at c0 c1 HT HD HR
  rw [← hN] at h2 hn hle ⊢
  have HM := Lib.hid hM
  clear hN hM
  go_enter Tryd.func32, Tryd.ntmps32
  go_wp2_with (go_at_call 61; refine Hid.out ?_)
  refine db ?_
  refine (mL n _ h2 (by omega)).mono ?_
  rintro e w1 ⟨rfl, rfl⟩
  rw [← HM.out]
  go_wp2
  refine rT 8 (by kernel_rfl) (by kernel_rfl) ?_
  simp only [List.take_succ_cons, List.take_zero, List.drop_succ_cons, List.drop_zero]
  go_big_quiet_step (fail)
  go_big_quiet_step (fail)
  go_big_quiet_step (fail)
  go_big_quiet_step (exact HT.out _)
  go_big_quiet_step (fail)
  go_big_quiet_step (fail)
  go_big_quiet_step (fail)
  go_big_quiet_step (exact HD.out _)
  refine wpQuiet_nil ?_
  intro w2 hb2
  have hb2' : Below (w.alloc (Obj.cells (u8s (List.replicate 32 0)).toArray 47)).heap.size (w.alloc (Obj.cells (u8s (List.replicate 32 0)).toArray 47)) w2 := hb2
  have HA := Lib.hid ((Arr.new w (u8s (List.replicate 32 0)) _).below' hb2')
  have HB := Lib.hid (((Below.refl w.heap.size w).alloc (Nat.le_refl _) _).trans (hb2'.mono (by simp)))
  clear hb2 hb2' HT HD
  go_wp2_with (go_at_call 62; refine Hid.out ?_)
  refine db ?_
  refine (pq _ _ _ (HG.out.below' HB.out) (Sha.root_len _) (Sha.root_len _)).mono ?_
  rintro e w3 ⟨rfl, hb3⟩
  have er : Sha.sum (1 :: (Sha.root (ls.take m) ++ Sha.root (ls.drop m))) = Sha.root ls := HR.out.symm
  rw [er]
  have HA2 := Lib.hid (HA.out.below' hb3)
  have HB2 := Lib.hid (HB.out.trans (hb3.mono HB.out.size))
  clear hb3 er
  go_wp2_with (refine bL rfl rfl _ _ _ rfl _ 0 rfl (u8s (Sha.root ls)) rfl (by rw [cm]; exact cY.2) (cV _) _ HA2.out (by rw [cm, av, List.length_replicate]; decide) ?_; intro w4 hA3 hG3)
  rw [cj _ _ (by rw [cm, av, List.length_replicate])] at hA3
  exact fo rfl rfl _ rfl _ hA3 (by rw [cm]; exact cY) ⟨rfl, HB2.out.grown hG3 HB2.out.size (by intro k hk; cases hk; omega)⟩
end
end Go.Proofs.YtbaccmkhjmmlnaaDoor
