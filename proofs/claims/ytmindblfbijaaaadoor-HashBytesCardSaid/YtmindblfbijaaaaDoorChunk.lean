/-
  Walks: slices.Chunk over bytes, its iterator and its contract.
-/
import Derived.RangeFuncNested
import Derived.RangeFuncBound
import Derived.RangeFuncCalls
import Derived.RangeFuncLeaves
import Derived.RangeFuncFrom
import Derived.Shelf.Abstract
import Derived.Shelf.RegionOpen
import Derived.OwnWalkIn
import Derived.TacticsInMore
import Derived.LoopNIn
import Derived.LoopIn
import Derived.Test.YtmindblfbijaaaaDoorRows
import Derived.WalkKit
import Derived.WalkSpells
import Derived.WalkLawsBesides
import Derived.BigQuiet
import Derived.Deep.QuietTactic
import Derived.Deep.RegionHeld3
import Derived.Deep.DeepCutAuto
import Derived.Deep.LoopGhost
import Derived.StillTailTactics
import Derived.Lib.Hide
import Derived.Handy
import Derived.Test.YtmindblfbijaaaaDoorAfter
namespace Go.Proofs.YtmindblfbijaaaaDoor
open Go.RowKit Go.Shelf
attribute [local go_sem] Oper.semAt_some
theorem clip_any (ao : Option Addr) (n cap : Nat) (w : World) (hn : n ≤ cap) (hc : cap ≤ 9223372036854775807) (hnil : ao = none → cap = 0) :
    Calls Tryd.prog 29 #[.slice ao n cap] w fun e w' => e = .returned (.slice ao n n) ∧ w = w' := by
  go_enter Tryd.func29, Tryd.ntmps29
  go_wp2
  go_ret
  exact ⟨rfl, rfl⟩
theorem chunk_any (ao : Option Addr) (n cap : Nat) (w : World) :
    Calls Tryd.prog 30 #[.slice ao n cap, .int .i64 64] w fun e w' => e = .returned (.func (.func 42) #[] #[.pointer (some ⟨w.heap.size, 0, none⟩), .pointer (some ⟨w.heap.size + 1, 0, none⟩)]) ∧
      w' = (w.alloc (.cells #[.slice ao n cap] 22)).alloc (.cells #[.int .i64 64] 3) := by
  go_enter Tryd.func30, Tryd.ntmps30
  go_wp2
  go_ret
  exact ⟨rfl, rfl⟩
/-- The two captured variables keep their blocks. -/
def KpC (Bs : Nat) (W W' : World) : Prop := W'.heap[Bs]? = W.heap[Bs]? ∧ W'.heap[Bs + 1]? = W.heap[Bs + 1]?
theorem KpC.trans {Bs : Nat} {A B C : World} (h : KpC Bs A B) (k : KpC Bs B C) : KpC Bs A C := ⟨k.1.trans h.1, k.2.trans h.2⟩
theorem KpC.putObj {Bs l : Nat} (W : World) (o' : Obj) (hl : Bs + 1 < l) : KpC Bs W (W.putObj l o') :=
  ⟨World.putObj_heap_other (by omega), World.putObj_heap_other (by omega)⟩
theorem KpC.cell0 {Bs : Nat} {W W' : World} (h : KpC Bs W W') : W'.cell? ⟨Bs, 0, none⟩ = W.cell? ⟨Bs, 0, none⟩ := World.cell?_of_block h.1
theorem KpC.cell1 {Bs : Nat} {W W' : World} (h : KpC Bs W W') : W'.cell? ⟨Bs + 1, 0, none⟩ = W.cell? ⟨Bs + 1, 0, none⟩ := World.cell?_of_block h.2
theorem KpC.of_below {Bs B : Nat} {W W' : World} (h : Below B W W') (hB : Bs + 1 < B) : KpC Bs W W' := ⟨h.block _ (by omega), h.block _ hB⟩
theorem fin_take (m k : Nat) (h : k < m) : (List.finRange m).take (k + 1) = (List.finRange m).take k ++ [⟨k, h⟩] := by
  rw [List.take_succ_eq_append_getElem (by simpa using h)]; simp
set_option maxRecDepth 100000 in
set_option maxHeartbeats 1000000 in
theorem chunk1_in (n : Nat) (hn : 1 ≤ n) (l Bs g m cap : Nat) (hm : 64 * m ≤ cap) (hcap : cap ≤ 9223372036854775807) (J Jx : List (Fin m) → World → Prop) (hJd : ∀ pre W, J pre W → J pre W.drew)
    (hY : ∀ pre x W, J pre W → pre.length < m → YieldAt Fence.wide (n - 1) Tryd.prog l #[.slice (some ⟨g, 64 * x.1, none⟩) 64 64] W fun e W' =>
      (e = .returned (.bool true) ∧ J (pre ++ [x]) W' ∧ KpC Bs W W') ∨ (e = .returned (.bool false) ∧ Jx (pre ++ [x]) W'))
    (W : World) (hb0 : W.cell? ⟨Bs, 0, none⟩ = some (.slice (some ⟨g, 0, none⟩) (64 * m) cap)) (hb1 : W.cell? ⟨Bs + 1, 0, none⟩ = some (.int .i64 64)) (h0 : J [] W) :
    CallsIn Fence.wide n Tryd.prog 42 #[.func (.yield l) #[] #[], .pointer (some ⟨Bs, 0, none⟩), .pointer (some ⟨Bs + 1, 0, none⟩)] W fun e W' => (∃ v, e = .returned v) ∧
      ((∃ ys, ys = List.finRange m ∧ J ys W') ∨ (∃ pre, Jx pre W')) := by
  refine callsIn_of_wp Tryd.func42 rfl trivial ?_ rfl
  simp only [Tryd.ntmps42, List.size_toArray, List.length_cons, List.length_nil, Nat.reduceAdd, Nat.reduceSub, Array.replicate_succ, Array.replicate_zero, List.push_toArray, List.append_toArray, List.nil_append, List.cons_append]
  gi_wp2
  gi_loopw [4] (fun i wr => ∃ k : Nat, k ≤ m ∧ i = .int .i64 ((64 * k : Nat) : Int) ∧ J ((List.finRange m).take k) wr ∧ KpC Bs W wr) (fun i _ => 64 * m - (intOf i).toNat)
  case atStart => exact ⟨0, Nat.zero_le _, rfl, h0, rfl, rfl⟩
  case round =>
    obtain ⟨k, hk, rfl, hJs, hnx⟩ := hrel
    have c0 : wr.cell? ⟨Bs, 0, none⟩ = some (.slice (some ⟨g, 0, none⟩) (64 * m) cap) := hnx.cell0.trans hb0
    have c1 : wr.cell? ⟨Bs + 1, 0, none⟩ = some (.int .i64 64) := hnx.cell1.trans hb1
    by_cases hlt : k < m
    · obtain ⟨fn, tmps, assign, body, hy, hR⟩ := hY ((List.finRange m).take k) ⟨k, hlt⟩ wr.drew (hJd _ _ hJs) (by simp; omega)
      gi_wp2
      refine wpIn_wide.2 ?_
      go_region
      all_goals gi_wp2
      refine hR.mono ?_
      rintro e W3 (⟨rfl, hJ3, hk3⟩ | ⟨rfl, hJx3⟩)
      · have d0 : W3.cell? ⟨Bs, 0, none⟩ = some (.slice (some ⟨g, 0, none⟩) (64 * m) cap) := hk3.cell0.trans c0
        have d1 : W3.cell? ⟨Bs + 1, 0, none⟩ = some (.int .i64 64) := hk3.cell1.trans c1
        gi_wp2
        go_roundw
        case rel => exact ⟨k + 1, by omega, by go_num, by rw [fin_take m k hlt]; exact hJ3, hnx.trans hk3⟩
        case measure => simp [intOf]; omega
      · gi_wp2
        refine bodyPost_ret (results_none rfl _ _ _) rfl ?_
        exact ⟨⟨_, rfl⟩, .inr ⟨_, hJx3⟩⟩
    · obtain rfl : k = m := by omega
      gi_wp2
      go_end0
      exact ⟨⟨_, rfl⟩, .inl ⟨_, rfl, by rw [List.take_of_length_le (by simp)] at hJs; exact hJs⟩⟩
theorem chunk_stops (n : Nat) (hn : 1 ≤ n) (Bs g m cap : Nat) (hm : 64 * m ≤ cap) (hcap : cap ≤ 9223372036854775807) (w : World) (hBs : Bs + 1 < w.heap.size)
    (hb0 : w.cell? ⟨Bs, 0, none⟩ = some (.slice (some ⟨g, 0, none⟩) (64 * m) cap)) (hb1 : w.cell? ⟨Bs + 1, 0, none⟩ = some (.int .i64 64)) :
    SeqStopsK Fence.wide n Tryd.prog 42 #[.pointer (some ⟨Bs, 0, none⟩), .pointer (some ⟨Bs + 1, 0, none⟩)] (fun x : Fin m => #[Value.slice (some ⟨g, 64 * x.1, none⟩) 64 64]) (KpC Bs) (fun ys => ys = List.finRange m) (fun _ => True) m w :=
  fun l J Jx W hW hJ _ hY h0 => by
    refine (chunk1_in n hn l Bs g m cap hm hcap J Jx (fun pre W' h => hJ pre W' _ none h ⟨rfl, rfl, rfl, Nat.le_refl _, fun _ _ _ => rfl⟩ (fun r e => by cases e)) hY W
      ((hW.cell (p := ⟨Bs, 0, none⟩) (by simp; omega)).trans hb0) ((hW.cell (p := ⟨Bs + 1, 0, none⟩) (by simp; omega)).trans hb1) h0).mono ?_
    rintro e W' ⟨he, ⟨ys, rfl, hj⟩ | ⟨pre, hj⟩⟩
    · exact ⟨he, .inl ⟨_, rfl, hj⟩⟩
    · exact ⟨he, .inr ⟨_, trivial, hj⟩⟩
end Go.Proofs.YtmindblfbijaaaaDoor
