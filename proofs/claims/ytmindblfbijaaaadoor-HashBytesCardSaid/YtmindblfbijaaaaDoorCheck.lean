/-
  Walks: whether a proof fits.
-/
import Derived.Test.YtmindblfbijaaaaDoorRows
import Derived.WalkKit
import Derived.WalkSpells
import Derived.WalkLawsBesides
import Derived.BigQuiet
import Derived.Deep.QuietTactic
import Derived.Deep.RegionHeld3
import Derived.Deep.DeepCutAuto
import Derived.Deep.LoopGhost
import Derived.StillTailTactics
import Derived.Lib.Hide
import Derived.Handy
import Derived.Test.YtmindblfbijaaaaDoorClimb
import Derived.Test.YtmindblfbijaaaaDoorEq
namespace Go.Proofs.YtmindblfbijaaaaDoor
open Go.RowKit
/-- Store of a value into a block whose cells are known. -/
theorem wpList_store_any {P : Program} {ops : Array Oper} {rest : List Oper} {o : Oper} {a : Act} {w : World} {Q : Exit → Act → World → Prop} (hgd : o.guard = none) (hd : o.dst = none) (ty : TypeId) (x y : Operand) (ho : o.op = .store ty x y) (g off : Nat) (hx : a.eval x = .pointer (some ⟨g, off, none⟩))
    (cs : List Value) (hy : (a.eval y).cells = cs.toArray) (hT : (P.info? ty).map (·.size) = some cs.length) (h1 : ∀ v ∈ cs, v.oneCell' = true) (cur : List Value) (hA : Arr w g cur) (hfit : off + cs.length ≤ cur.length)
    (h : ∀ w', Arr w' g (lay cur off cs) → w.grownBy w' (some g) → wpList P ops Q rest a w') : wpList P ops Q (o :: rest) a w := by
  obtain ⟨T, hg⟩ := hA
  have hs : (storeCells ⟨g, off, none⟩ cs).run P w = .ok () (w.setRow g (lay cur off cs).toArray) := by
    have := run_storeCells_at P g off T cs 0 cur.toArray w hg (by simpa using hfit) h1
    simpa [lay] using this
  refine wpList_plain hgd fun K hK => ?_
  unfold Oper.wp
  have : (execOp a.eval o).run P w = .ok .skip (w.setRow g (lay cur off cs).toArray) := by
    simp only [execOp, ho, hx]
    simp [Instr.storeAt, Instr.sureAddr, storeVar, Sem.run_bind, hy, run_sizeOf hT, hs, Result.andThen]
  rw [this, Oper.upon_skip, hd]
  exact hK _ _ (h _ (Arr.setRow ⟨T, hg⟩ _) (grownBy_setRow _ _ _))
set_option maxHeartbeats 400000 in
theorem check_any (root b : List UInt8) (n i : Int) (p : List (List UInt8)) (bv pv : Value) (w : World) (hr : root.length = 32) (hb : b.length ≤ 900000) (hg : Glob w) (hS : Sl w bv b.length (u8s b)) (hP : Sl w pv p.length (sums p)) (h32 : Len32 p) (hpn : p.length ≤ 1000000) (hn : n ≤ 4294967296) :
    Calls Tryd.prog 23 #[.agg (u8s root).toArray, .int .i64 n, .int .i64 i, bv, pv] w fun e w' => e = .returned (.bool (Sha.check root n i b p)) ∧ Below w.heap.size w w' := by
  obtain ⟨ao, cap, rfl⟩ := sl_lit hP
  obtain ⟨bao, bcap, rfl⟩ := sl_lit hS
  have HG := Lib.hid hg
  have HS := Lib.hid hS
  have HP := Lib.hid hP
  have H32 := Lib.hid h32
  have HR := Lib.hid hr
  clear hg hS hP h32 hr
  by_cases hi0 : i < 0
  · have hc : Sha.check root n i b p = false := by unfold Sha.check; rw [if_pos (.inl hi0)]
    rw [hc]
    go_enter Tryd.func23, Tryd.ntmps23
    go_wp2
    exact bodyPost_ret (results_tmp rfl _ _ _) rfl ⟨rfl, ((Below.refl _ _).alloc (Nat.le_refl _) _).alloc (by simp) _⟩
  · by_cases hin : n ≤ i
    · have hc : Sha.check root n i b p = false := by unfold Sha.check; rw [if_pos (.inr hin)]
      rw [hc]
      go_enter Tryd.func23, Tryd.ntmps23
      go_wp2
      exact bodyPost_ret (results_tmp rfl _ _ _) rfl ⟨rfl, ((Below.refl _ _).alloc (Nat.le_refl _) _).alloc (by simp) _⟩
    · have hc : Sha.check root n i b p = ((Sha.climb b p.reverse n.toNat i.toNat).2 && decide ((Sha.climb b p.reverse n.toNat i.toNat).1 = root)) := by unfold Sha.check; rw [if_neg (by omega)]
      obtain ⟨n', rfl⟩ : ∃ n' : Nat, n = n' := ⟨n.toNat, by omega⟩
      obtain ⟨i', rfl⟩ : ∃ i' : Nat, i = i' := ⟨i.toNat, by omega⟩
      rw [Int.toNat_natCast, Int.toNat_natCast] at hc
      have HC := Lib.hid hc
      clear hc
      go_enter Tryd.func23, Tryd.ntmps23
      go_wp2_with (refine wpList_store_any rfl rfl _ _ _ rfl (w.heap.size + 1 + 1) 0 rfl [_] rfl (by kernel_rfl) (by intro v hv; simp only [List.mem_singleton] at hv; subst hv; rfl) [.nilFunc] (Arr.newAt (by simp) [_] _) (by simp) (fun W hA hW => Hid.out ?_))
      refine stop ?_
      have hB0 : Below w.heap.size w W := ((((Below.refl _ _).alloc (Nat.le_refl _) _).alloc (by simp) _).alloc (by simp; omega) _).grown hW (by simp; omega) (by intro k hk; cases hk; omega)
      have hA5 : Arr W w.heap.size (u8s root) := ((((Arr.new w (u8s root) _).alloc _).alloc _).grown hW (by simp; omega))
      have hA8 : Arr W (w.heap.size + 1) [.slice bao b.length bcap] := (((Arr.newAt (by simp) [_] _).alloc _).grown hW (by simp))
      have hA11 : Arr W (w.heap.size + 1 + 1) [.func (.func 40) #[] #[.pointer (some ⟨w.heap.size + 1, 0, none⟩), .pointer (some ⟨w.heap.size + 1 + 1, 0, none⟩)]] := hA
      have hc11 := hA11.cell (i := 0) rfl
      have HB0 := Lib.hid hB0
      have HA5 := Lib.hid hA5
      have HA8 := Lib.hid hA8
      have HA11 := Lib.hid hA11
      clear hA hW hB0 hA5 hA8 hA11
      go_wp2_with (go_at_call 40; refine Hid.out ?_)
      refine stop ?_
      refine (climb_any b (w.heap.size + 1) (w.heap.size + 1 + 1) _ hb _ p _ n' i' _ rfl (HG.out.below' HB0.out) HA8.out (HS.out.below HB0.out) HA11.out (HP.out.below HB0.out) H32.out hpn (by omega) (by omega) (by omega)).mono ?_
      rintro e W2 ⟨rfl, hb2⟩
      obtain ⟨X, hX⟩ : ∃ X, X = (Sha.climb b p.reverse n' i').1 := ⟨_, rfl⟩
      obtain ⟨ok, hok⟩ : ∃ ok, ok = (Sha.climb b p.reverse n' i').2 := ⟨_, rfl⟩
      have hXl : X.length = 32 := by rw [hX]; exact Sha.climb_len _ _ _ _
      rw [← hX, ← hok] at HC ⊢
      have HXl := Lib.hid hXl
      have HB2 := Lib.hid (HB0.out.trans (hb2.mono HB0.out.size))
      have HA52 := Lib.hid (HA5.out.below' hb2)
      clear hX hok hXl hb2 hc11
      cases ok with
      | false =>
        go_wp2_with (refine wpList_store_any rfl rfl _ _ _ rfl _ 0 rfl (u8s X) rfl (by rw [u8s_length, HXl.out]; kernel_rfl) (u8s_one _) (u8s (List.replicate 32 0)) (Arr.new _ (u8s (List.replicate 32 0)) _) (by rw [u8s_length, u8s_length, List.length_replicate, HXl.out]; decide) (fun W3 hA3 hW3 => Hid.out ?_))
        refine stop ?_
        have HB3 := Lib.hid ((HB2.out.alloc HB2.out.size _).grown hW3 (by have := HB2.out.size; simp; omega) (by intro k hk; cases hk; exact HB2.out.size))
        clear hA3 hW3
        go_wp2
        exact bodyPost_ret (results_tmp rfl _ _ _) rfl ⟨by rw [HC.out]; rfl, HB3.out⟩
      | true =>
        go_wp2_with (refine wpList_store_any rfl rfl _ _ _ rfl _ 0 rfl (u8s X) rfl (by rw [u8s_length, HXl.out]; kernel_rfl) (u8s_one _) (u8s (List.replicate 32 0)) (Arr.new _ (u8s (List.replicate 32 0)) _) (by rw [u8s_length, u8s_length, List.length_replicate, HXl.out]; decide) (fun W3 hA3 hW3 => Hid.out ?_))
        refine stop ?_
        rw [lay_whole _ _ (by rw [u8s_length, u8s_length, List.length_replicate, HXl.out])] at hA3
        have HB3 := Lib.hid ((HB2.out.alloc HB2.out.size _).grown hW3 (by have := HB2.out.size; simp; omega) (by intro k hk; cases hk; exact HB2.out.size))
        have HA3 := Lib.hid hA3
        have HA53 := Lib.hid ((HA52.out.alloc _).grown hW3 (by have := HA52.out.lt; intro h; simp only [Option.some.injEq] at h; omega))
        have qe := eq_sums X root HXl.out HR.out
        have qg := guard_sum
        clear hA3 hW3
        go_wp2_with (first
          | (refine wpList_load_cells_w rfl _ _ rfl W2.heap.size 0 rfl (u8s X) (by rw [u8s_length, HXl.out]; exact agg32) (fun j v hv => by rw [Nat.zero_add]; exact HA3.out.cell hv) ?_)
          | (refine wpList_load_cells_w rfl _ _ rfl w.heap.size 0 rfl (u8s root) (by rw [u8s_length, HR.out]; exact agg32) (fun j v hv => by rw [Nat.zero_add]; exact HA53.out.cell hv) ?_))
        refine bodyPost_ret (results_tmp rfl _ _ _) rfl ⟨?_, HB3.out⟩
        rw [HC.out]
        refine ret_bool ?_
        rw [Bool.true_and]
        exact Bool.eq_iff_iff.2 (by simp)
end Go.Proofs.YtmindblfbijaaaaDoor
