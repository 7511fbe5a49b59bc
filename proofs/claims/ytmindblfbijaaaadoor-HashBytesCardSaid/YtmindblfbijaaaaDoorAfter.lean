/-
  Walks: the words after a block.
-/
import Derived.Test.YtmindblfbijaaaaDoorRows
import Derived.WalkKit
import Derived.WalkSpells
import Derived.WalkLawsBesides
import Derived.BigQuiet
import Derived.Deep.QuietTactic
import Derived.Deep.RegionHeld3
import Derived.Deep.DeepCutAuto
import Derived.Deep.LoopGhost
import Derived.StillTailTactics
import Derived.Lib.Hide
import Derived.Handy
import Derived.Test.YtmindblfbijaaaaDoorSpread
import Derived.Test.YtmindblfbijaaaaDoorPar
namespace Go.Proofs.YtmindblfbijaaaaDoor
open Go.RowKit
theorem agg8 : AggT Tryd.prog 57 8 := ⟨fun _ => by kernel_rfl, by kernel_rfl⟩
theorem cellK {W W' : World} {p : Addr} {v : Value} (hb : Below W.heap.size W W') (h : W.cell? p = some v) : W'.cell? p = some v :=
  (hb.cell (block_lt_of_cell h)).trans h
/-- A block of n cells. -/
def Len (w : World) (b n : Nat) : Prop := ∃ cs, Arr w b cs ∧ cs.length = n
def EReg (B : Nat) (X S : List Value) (W W' : World) : Prop := Below B W W' ∧ (∀ b n, B ≤ b → Len W b n → Len W' b n) ∧ (∀ b, B ≤ b → Arr W b X → Arr W' b X) ∧ (∀ b, B ≤ b → Arr W b S → Arr W' b S)
theorem EReg.of_below {B : Nat} {X S : List Value} {W W' : World} (h : Below W.heap.size W W') (hB : B ≤ W.heap.size) : EReg B X S W W' :=
  ⟨h.mono hB, fun _ _ _ ⟨cs, ha, hl⟩ => ⟨cs, ha.below' h, hl⟩, fun _ _ ha => ha.below' h, fun _ _ ha => ha.below' h⟩
theorem EReg.of_grown {B g n : Nat} {X S : List Value} {W W' : World} (h : W.grownBy W' (some g)) (hg : B ≤ g) (hB : B ≤ W.heap.size) (hn : Len W g n) (hn' : Len W' g n) (hX : X.length = n → Arr W' g X) (hS : S.length = n → Arr W' g S) : EReg B X S W W' := by
  obtain ⟨cs0, ha0, hl0⟩ := hn
  have uniq : ∀ cs, Arr W g cs → cs.length = n := by
    intro cs ⟨T, h1⟩
    obtain ⟨T0, h0⟩ := ha0
    rw [h1] at h0
    simp only [Option.some.injEq, Obj.cells.injEq] at h0
    have := congrArg Array.size h0.1
    simp at this
    omega
  refine ⟨(Below.refl B W).grown h hB (by intro k hk; cases hk; exact hg), fun b m hb ⟨cs, ha, hl⟩ => ?_, fun b hb ha => ?_, fun b hb ha => ?_⟩
  · by_cases e : b = g
    · subst e; rw [← hl, uniq cs ha]; exact hn'
    · exact ⟨cs, ha.grown h (by simpa using e), hl⟩
  · by_cases e : b = g
    · subst e; exact hX (uniq _ ha)
    · exact ha.grown h (by simpa using e)
  · by_cases e : b = g
    · subst e; exact hS (uniq _ ha)
    · exact ha.grown h (by simpa using e)
def GReg (B : Nat) (v : Value) (X S : List Value) (j : Nat) (ρ : Nat → Value) (w : World) : Prop :=
  match j with
  | 0 => ρ 0 = v
  | 1 => ρ 1 = .agg X.toArray
  | 2 => ρ 2 = .agg S.toArray
  | 3 => ∃ b, ρ 3 = .pointer (some ⟨b, 0, none⟩) ∧ B ≤ b ∧ Len w b 64
  | 4 => ∃ b, ρ 4 = .pointer (some ⟨b, 0, none⟩) ∧ B ≤ b ∧ Len w b 8
  | 5 => ∃ b, ρ 3 = .pointer (some ⟨b, 0, none⟩) ∧ B ≤ b ∧ Arr w b X
  | 6 => ∃ b, ρ 4 = .pointer (some ⟨b, 0, none⟩) ∧ B ≤ b ∧ Arr w b S
  | _ => True
theorem s8_len (s : Sha.S8) : s.list.length = 8 := rfl
theorem s8_length (s : Sha.S8) : (u32s s.list).length = 8 := rfl
theorem spread_length (l : List UInt8) : (u32s (Sha.spread l)).length = 64 := by rw [u32s_length, ← Sha.grown_last, Sha.grown_length l 64 (by omega) (by omega)]
theorem calls_ret {P : Program} {f : FuncId} {args : Array Value} {w : World} {R R' : Ending → World → Prop} (h : Calls P f args w R) (hr : ∀ e w', R e w' → R' e w') : Calls P f args w R' := h.mono hr
theorem wadd (x y : UInt32) : IntKind.u32.wrap ((x.toNat : Int) + y.toNat) = ((x + y).toNat : Int) := by rw [IntKind.wrap_u32']; exact add32 x y
theorem not32 (x : UInt32) : bits BinOp.xor IntKind.u32 IntKind.u32.max x.toNat = ((~~~x).toNat : Int) := by
  have e : IntKind.u32.max = ((4294967295 : UInt32).toNat : Int) := by decide
  have h : (4294967295 : UInt32) ^^^ x = ~~~x := by
    apply UInt32.toBitVec_inj.1
    rw [UInt32.toBitVec_xor, UInt32.toBitVec_not]
    exact BitVec.allOnes_xor
  rw [e, xor32, h]
theorem tx_eq (c : Sha.S8) (y x : UInt32) : IntKind.u32.wrap (IntKind.u32.wrap (IntKind.u32.wrap (IntKind.u32.wrap (↑c.h.toNat + ↑(Sha.rot3 c.e 6 11 25).toNat) +
      bits BinOp.xor IntKind.u32 (bits BinOp.and IntKind.u32 ↑c.e.toNat ↑c.f.toNat) (bits BinOp.and IntKind.u32 (bits BinOp.xor IntKind.u32 IntKind.u32.max ↑c.e.toNat) ↑c.g.toNat)) + ↑y.toNat) + ↑x.toNat)
    = ((Sha.tx c y x).toNat : Int) := by
  simp only [wadd, not32, and32, xor32]; rfl
theorem ty_eq (c : Sha.S8) : IntKind.u32.wrap (↑(Sha.rot3 c.a 2 13 22).toNat +
      bits BinOp.xor IntKind.u32 (bits BinOp.xor IntKind.u32 (bits BinOp.and IntKind.u32 ↑c.a.toNat ↑c.b.toNat) (bits BinOp.and IntKind.u32 ↑c.a.toNat ↑c.c.toNat)) (bits BinOp.and IntKind.u32 ↑c.b.toNat ↑c.c.toNat))
    = ((Sha.ty c).toNat : Int) := by
  simp only [wadd, and32, xor32]; rfl
theorem S9keep {w W W' : World} {p1 p2 p3 p4 p5 p6 p7 p8 p9 : Addr} {v1 v2 v3 v4 v5 v6 v7 v8 v9 : Value} (hb : Below W.heap.size W W')
    (h : W.cell? p1 = some v1 ∧ W.cell? p2 = some v2 ∧ W.cell? p3 = some v3 ∧ W.cell? p4 = some v4 ∧ W.cell? p5 = some v5 ∧ W.cell? p6 = some v6 ∧ W.cell? p7 = some v7 ∧ W.cell? p8 = some v8 ∧ W.cell? p9 = some v9 ∧ Below w.heap.size w W) :
    W'.cell? p1 = some v1 ∧ W'.cell? p2 = some v2 ∧ W'.cell? p3 = some v3 ∧ W'.cell? p4 = some v4 ∧ W'.cell? p5 = some v5 ∧ W'.cell? p6 = some v6 ∧ W'.cell? p7 = some v7 ∧ W'.cell? p8 = some v8 ∧ W'.cell? p9 = some v9 ∧ Below w.heap.size w W' :=
  ⟨cellK hb h.1, cellK hb h.2.1, cellK hb h.2.2.1, cellK hb h.2.2.2.1, cellK hb h.2.2.2.2.1, cellK hb h.2.2.2.2.2.1, cellK hb h.2.2.2.2.2.2.1, cellK hb h.2.2.2.2.2.2.2.1, cellK hb h.2.2.2.2.2.2.2.2.1, h.2.2.2.2.2.2.2.2.2.trans (hb.mono h.2.2.2.2.2.2.2.2.2.size)⟩
set_option maxRecDepth 100000 in
set_option maxHeartbeats 1000000 in
theorem after_any (b o cap : Nat) (s : Sha.S8) (l : List UInt8) (w : World) (hb : b < w.heap.size) (hcell : ∀ i, i < 64 → w.cell? ⟨b, o + i, none⟩ = some (.int .u8 (l.getD i 0).toNat))
    (hkeys : ∀ i, i < 64 → w.cell? ⟨1, i, none⟩ = some (.int .u32 (Sha.keys64.getD i 0).toNat)) :
    Calls Tryd.prog 31 #[.agg (u32s s.list).toArray, .slice (some ⟨b, o, none⟩) 64 cap] w fun e w' => e = .returned (.agg (u32s (Sha.after s l).list).toArray) ∧ Below w.heap.size w w' := by
  have HC := Lib.hid hcell; clear hcell
  have HK := Lib.hid hkeys; clear hkeys
  go_enter Tryd.func31, Tryd.ntmps31
  go_wp2
  obtain ⟨W, hW⟩ : ∃ W, W = (w.alloc (Obj.cells (u32s s.list).toArray 57)).alloc (Obj.cells (u32s (List.replicate 8 0)).toArray 57) := ⟨_, rfl⟩
  have hB0 : Below w.heap.size w W := by rw [hW]; exact ((Below.refl _ _).alloc (Nat.le_refl _) _).alloc (by simp) _
  have hs2 : Arr W w.heap.size (u32s s.list) := by rw [hW]; exact (Arr.new w _ _).alloc _
  have hs4 : Arr W (w.heap.size + 1) (u32s (List.replicate 8 0)) := by rw [hW]; exact Arr.newAt (by simp) _ _
  have hcW : ∀ i, i < 64 → W.cell? ⟨b, o + i, none⟩ = some (.int .u8 (l.getD i 0).toNat) := fun i hi => (hB0.cell (p := ⟨b, o + i, none⟩) hb).trans (HC.out i hi)
  have hbW : b < W.heap.size := Nat.lt_of_lt_of_le hb hB0.size
  change Code.wp _ _ _ _ ((w.alloc (Obj.cells (u32s s.list).toArray 57)).alloc (Obj.cells (u32s (List.replicate 8 0)).toArray 57))
  rw [← hW]
  refine wp_region_par (G := GReg W.heap.size (.slice (some ⟨b, o, none⟩) 64 cap) (u32s (Sha.spread l)) (u32s s.list)) (E := EReg W.heap.size (u32s (Sha.spread l)) (u32s s.list)) (by kernel_rfl) (by kernel_rfl)
    ⟨(Below.refl _ _).drew, fun _ _ _ h => h, fun _ _ h => h, fun _ _ h => h⟩ (fun _ => ⟨Below.refl _ _, fun _ _ _ h => h, fun _ _ h => h, fun _ _ h => h⟩)
    (fun _ _ _ h k => ⟨h.1.trans k.1, fun b n hb hl => k.2.1 b n hb (h.2.1 b n hb hl), fun b hb ha => k.2.2.1 b hb (h.2.2.1 b hb ha), fun b hb ha => k.2.2.2 b hb (h.2.2.2 b hb ha)⟩) ?hG ?hloc ?hstep ?hend
  case hG =>
    intro j ρ w1 w2 hg he
    match j with
    | 0 | 1 | 2 => exact hg
    | 3 | 4 => obtain ⟨b, h1, h2, h3⟩ := hg; exact ⟨b, h1, h2, he.2.1 b _ h2 h3⟩
    | 5 => obtain ⟨b, h1, h2, h3⟩ := hg; exact ⟨b, h1, h2, he.2.2.1 b h2 h3⟩
    | 6 => obtain ⟨b, h1, h2, h3⟩ := hg; exact ⟨b, h1, h2, he.2.2.2 b h2 h3⟩
    | n + 7 => trivial
  case hloc =>
    refine allFrom_array ⟨?_, ?_, ?_, ?_, ?_, ?_, ?_, trivial⟩ <;> intro ρ ρ' w h0 he hg
    · exact h0.symm.trans hg
    · exact h0.symm.trans hg
    · exact h0.symm.trans hg
    · obtain ⟨b, h1, h2, h3⟩ := hg; exact ⟨b, h0.symm.trans h1, h2, h3⟩
    · obtain ⟨b, h1, h2, h3⟩ := hg; exact ⟨b, h0.symm.trans h1, h2, h3⟩
    · obtain ⟨b, h1, h2, h3⟩ := hg; exact ⟨b, (he ⟨3, .data⟩ (by simp) rfl).symm.trans h1, h2, h3⟩
    · obtain ⟨b, h1, h2, h3⟩ := hg; exact ⟨b, (he ⟨4, .data⟩ (by simp) rfl).symm.trans h1, h2, h3⟩
  case hstep =>
    refine allFrom_array ⟨?_, ?_, ?_, ?_, ?_, ?_, ?_, trivial⟩ <;> intro a w1 hE hR hd
    · refine wanted_none rfl ?_
      exact wp_move (.tmp 1) rfl ⟨_, rfl, ⟨Below.refl _ _, fun _ _ _ h => h, fun _ _ h => h, fun _ _ h => h⟩, hR.eval rfl⟩
    · refine wanted_none rfl ?_
      have h0 := hd ⟨0, .data⟩ (by simp) rfl
      refine wp_call 43 Tryd.call43 _ _ rfl [.slice (some ⟨b, o, none⟩) 64 cap] (by rw [← show a.eval (.tmp 11) = .slice (some ⟨b, o, none⟩) 64 cap from h0]; rfl) ?_
      refine (spread_any b o cap l w1 (Nat.lt_of_lt_of_le hbW hE.1.size) (fun i hi => (hE.1.cell (p := ⟨b, o + i, none⟩) hbW).trans (hcW i hi))).mono ?_
      rintro e w2 ⟨rfl, hb2⟩
      exact ⟨_, rfl, _, rfl, EReg.of_below hb2 hE.1.size, rfl⟩
    · refine wanted_none rfl ?_
      refine wp_load_cells _ _ rfl w.heap.size 0 (hR.eval rfl) (u32s s.list) agg8 (fun j v hv => ?_) ⟨_, rfl, ⟨Below.refl _ _, fun _ _ _ h => h, fun _ _ h => h, fun _ _ h => h⟩, rfl⟩
      rw [Nat.zero_add, hE.1.cell (p := ⟨w.heap.size, j, none⟩) hs2.lt]; exact hs2.cell hv
    · refine wanted_none rfl ?_
      refine wp_alloc _ rfl (.agg (u32s (List.replicate 64 0)).toArray) 64 (by kernel_rfl) ⟨_, rfl, EReg.of_below ((Below.refl _ _).alloc (Nat.le_refl _) _) hE.1.size, _, rfl, hE.1.size, _, Arr.new w1 (u32s (List.replicate 64 0)) _, ?_⟩
      rw [u32s_length, List.length_replicate]
    · refine wanted_none rfl ?_
      refine wp_alloc _ rfl (.agg (u32s (List.replicate 8 0)).toArray) 8 (by kernel_rfl) ⟨_, rfl, EReg.of_below ((Below.refl _ _).alloc (Nat.le_refl _) _) hE.1.size, _, rfl, hE.1.size, _, Arr.new w1 (u32s (List.replicate 8 0)) _, ?_⟩
      rw [u32s_length, List.length_replicate]
    · refine wanted_none rfl ?_
      have h1 := hd ⟨1, .data⟩ (by simp) rfl
      obtain ⟨b3, h3, hB3, hl3⟩ := hd ⟨3, .data⟩ (by simp) rfl
      obtain ⟨cs3, ha3, hc3⟩ := hl3
      refine wp_store_cells rfl _ _ _ rfl b3 0 h3 (u32s (Sha.spread l)) h1 (by rw [spread_length]; kernel_rfl) (u32s_one _) cs3 ha3 (by rw [spread_length, hc3]; omega) fun w2 ha hg => ?_
      rw [lay_whole _ _ (by rw [spread_length, hc3])] at ha
      exact ⟨undef, rfl, EReg.of_grown hg hB3 hE.1.size ⟨cs3, ha3, hc3⟩ ⟨_, ha, spread_length l⟩ (fun _ => ha) (fun h => by rw [s8_length] at h; cases h), b3, h3, hB3, ha⟩
    · refine wanted_none rfl ?_
      have h1 := hd ⟨2, .data⟩ (by simp) rfl
      obtain ⟨b3, h3, hB3, hl3⟩ := hd ⟨4, .data⟩ (by simp) rfl
      obtain ⟨cs3, ha3, hc3⟩ := hl3
      refine wp_store_cells rfl _ _ _ rfl b3 0 h3 (u32s s.list) h1 (by rw [s8_length]; kernel_rfl) (u32s_one _) cs3 ha3 (by rw [s8_length, hc3]; omega) fun w2 ha hg => ?_
      rw [lay_whole _ _ (by rw [s8_length, hc3])] at ha
      exact ⟨undef, rfl, EReg.of_grown hg hB3 hE.1.size ⟨cs3, ha3, hc3⟩ ⟨_, ha, s8_length s⟩ (fun h => by rw [spread_length] at h; cases h) (fun _ => ha), b3, h3, hB3, ha⟩
  case hend =>
    intro vs hvs w1 hE hall
    obtain ⟨v0, v1, v2, v3, v4, v5, v6, rfl⟩ : ∃ v0 v1 v2 v3 v4 v5 v6, vs = [v0, v1, v2, v3, v4, v5, v6] := by
      match vs, hvs with
      | [v0, v1, v2, v3, v4, v5, v6], _ => exact ⟨v0, v1, v2, v3, v4, v5, v6, rfl⟩
    have e0 := hall 0 (by simp)
    have e1 := hall 1 (by simp)
    have e2 := hall 2 (by simp)
    obtain ⟨b5, e3, hB5, hA5⟩ := hall 5 (by simp)
    obtain ⟨b6, e4, hB6, hA6⟩ := hall 6 (by simp)
    have hne : b5 ≠ b6 := by
      rintro rfl
      obtain ⟨T, h1⟩ := hA5; obtain ⟨T', h2⟩ := hA6
      rw [h1] at h2
      simp only [Option.some.injEq, Obj.cells.injEq] at h2
      have := congrArg Array.size h2.1
      simp [spread_length, s8_length] at this
    simp only [GReg, List.getD_cons_zero, List.getD_cons_succ] at e0 e1 e2 e3 e4
    subst e0 e1 e2 e3 e4
    have hs2' : Arr w1 w.heap.size (u32s s.list) := hs2.below' hE.1
    have hs4' : Arr w1 (w.heap.size + 1) (u32s (List.replicate 8 0)) := hs4.below' hE.1
    have hB1 : Below w.heap.size w w1 := hB0.trans (hE.1.mono hB0.size)
    have hb5 : w.heap.size + 2 ≤ b5 := by rw [hW] at hB5; simpa using hB5
    have hb6 : w.heap.size + 2 ≤ b6 := by rw [hW] at hB6; simpa using hB6
    clear hE hall hB5 hB6 hcW hbW hs2 hs4 hB0 hvs
    clear hW W
    simp only [putAll, List.map_cons, List.map_nil, List.zip_cons_cons, List.zip_nil_right, Act.put, List.setIfInBounds_toArray, List.set_cons_zero, List.set_cons_succ]
    go_wp2
    have hk1 : 1 < w.heap.size := block_lt_of_cell (HK.out 0 (by omega))
    go_loopw [14] (fun i wr => ∃ k : Nat, k ≤ 64 ∧ i = .int .i64 k ∧ Arr wr b5 (u32s (Sha.spread l)) ∧ Arr wr b6 (u32s (Sha.rounds (Sha.spread l) s k).list) ∧ Arr wr w.heap.size (u32s s.list) ∧ Arr wr (w.heap.size + 1) (u32s (List.replicate 8 0)) ∧ Below w.heap.size w wr) (fun i _ => 64 - (intOf i).toNat)
    case atStart => exact ⟨0, by omega, rfl, hA5, hA6, hs2', hs4', hB1⟩
    case round =>
      clear hA5 hA6 hs2' hs4' hB1
      obtain ⟨k, hk, rfl, h5, h6, h2, h4, hB⟩ := hrel
      by_cases hlt : k < 64
      · obtain ⟨c, hc⟩ : ∃ c, c = Sha.rounds (Sha.spread l) s k := ⟨_, rfl⟩
        rw [← hc] at h6
        obtain ⟨x, hx⟩ : ∃ x, x = (Sha.spread l).getD k 0 := ⟨_, rfl⟩
        obtain ⟨y, hy⟩ : ∃ x, x = Sha.keys64.getD k 0 := ⟨_, rfl⟩
        have c0 : wr.cell? ⟨b6, 0, none⟩ = some (.int .u32 c.a.toNat) := h6.cell rfl
        have c1 : wr.cell? ⟨b6, 1, none⟩ = some (.int .u32 c.b.toNat) := h6.cell rfl
        have c2 : wr.cell? ⟨b6, 2, none⟩ = some (.int .u32 c.c.toNat) := h6.cell rfl
        have c3 : wr.cell? ⟨b6, 3, none⟩ = some (.int .u32 c.d.toNat) := h6.cell rfl
        have c4 : wr.cell? ⟨b6, 4, none⟩ = some (.int .u32 c.e.toNat) := h6.cell rfl
        have c5 : wr.cell? ⟨b6, 5, none⟩ = some (.int .u32 c.f.toNat) := h6.cell rfl
        have c6 : wr.cell? ⟨b6, 6, none⟩ = some (.int .u32 c.g.toNat) := h6.cell rfl
        have c7 : wr.cell? ⟨b6, 7, none⟩ = some (.int .u32 c.h.toNat) := h6.cell rfl
        have cx := h5.cell (u32s_get (l := Sha.spread l) (i := k) (by have := spread_length l; rw [u32s_length] at this; omega))
        have cy : wr.cell? ⟨1, k, none⟩ = some (.int .u32 (Sha.keys64.getD k 0).toNat) := (hB.cell (p := ⟨1, k, none⟩) hk1).trans (HK.out k hlt)
        rw [← hx] at cx
        rw [← hy] at cy
        have HX := Lib.hid hx; clear hx
        have HY := Lib.hid hy; clear hy
        have HCC := Lib.hid hc; clear hc
        have G5 := Lib.hid h5; clear h5
        have G6 := Lib.hid h6; clear h6
        have G2 := Lib.hid h2; clear h2
        have G4 := Lib.hid h4; clear h4
        have GB := Lib.hid hB; clear hB
        go_wp2
        go_region_held3 (fun W' => W'.cell? ⟨b6, 0, none⟩ = some (.int .u32 c.a.toNat) ∧ W'.cell? ⟨b6, 1, none⟩ = some (.int .u32 c.b.toNat) ∧ W'.cell? ⟨b6, 2, none⟩ = some (.int .u32 c.c.toNat) ∧ W'.cell? ⟨b6, 4, none⟩ = some (.int .u32 c.e.toNat) ∧ W'.cell? ⟨b6, 5, none⟩ = some (.int .u32 c.f.toNat) ∧ W'.cell? ⟨b6, 6, none⟩ = some (.int .u32 c.g.toNat) ∧ W'.cell? ⟨b6, 7, none⟩ = some (.int .u32 c.h.toNat) ∧ W'.cell? ⟨b5, k, none⟩ = some (.int .u32 x.toNat) ∧ W'.cell? ⟨1, k, none⟩ = some (.int .u32 y.toNat) ∧ Below wr.heap.size wr W') (first | exact S9keep (by assumption) (by assumption) | (exact ⟨c0, c1, c2, c4, c5, c6, c7, cx, cy, (Below.refl _ _).drew⟩))
          (first | (go_at_call 44; refine (mix_at _ _ _ 6 11 25 c.e _ rfl rfl rfl (by decide) (by decide) (by decide)).mono ?_; rintro e w2 ⟨rfl, hb2⟩))
        rename_i S1
        obtain ⟨d0, d1, d2, d4, d5, d6, d7, dx, dy, dB⟩ := S1
        go_wp2
        rw [tx_eq]
        go_region_held3 (fun W' => W'.cell? ⟨b6, 0, none⟩ = some (.int .u32 c.a.toNat) ∧ W'.cell? ⟨b6, 1, none⟩ = some (.int .u32 c.b.toNat) ∧ W'.cell? ⟨b6, 2, none⟩ = some (.int .u32 c.c.toNat) ∧ W'.cell? ⟨b6, 4, none⟩ = some (.int .u32 c.e.toNat) ∧ W'.cell? ⟨b6, 5, none⟩ = some (.int .u32 c.f.toNat) ∧ W'.cell? ⟨b6, 6, none⟩ = some (.int .u32 c.g.toNat) ∧ W'.cell? ⟨b6, 7, none⟩ = some (.int .u32 c.h.toNat) ∧ W'.cell? ⟨b5, k, none⟩ = some (.int .u32 x.toNat) ∧ W'.cell? ⟨1, k, none⟩ = some (.int .u32 y.toNat) ∧ Below wr.heap.size wr W') (first | exact S9keep (by assumption) (by assumption) | (exact ⟨d0, d1, d2, d4, d5, d6, d7, dx, dy, dB.drew⟩))
          (first | (go_at_call 44; refine (mix_at _ _ _ 2 13 22 c.a _ rfl rfl rfl (by decide) (by decide) (by decide)).mono ?_; rintro e w3 ⟨rfl, hb3⟩))
        clear d0 d1 d2 d4 d5 d6 d7 dx dy dB
        rename_i S2
        obtain ⟨d0, d1, d2, d4, d5, d6, d7, dx, dy, dB⟩ := S2
        go_wp2
        rw [ty_eq]
        have A3 := Lib.hid (G6.out.below' dB)
        go_still_tail 2, (by kernel_rfl)
        refine wpList_copy_arr rfl _ _ _ _ rfl 56 (by kernel_rfl) (by kernel_rfl) b6 1 _ _ b6 0 _ _ rfl rfl (u32s [c.a, c.b, c.c, c.d, c.e, c.f, c.g]) (by simp [u32s]) (fun j v hv => ?_) _ A3.out (by simp [u32s, Sha.S8.list]) (u32s_one _) ?_
        · have hj : j < 7 := by
            have := (List.getElem?_eq_some_iff.1 hv).1
            simpa [u32s] using this
          refine A3.out.cell ?_
          rw [← hv, Nat.zero_add]
          match j, hj with
          | 0, _ | 1, _ | 2, _ | 3, _ | 4, _ | 5, _ | 6, _ => rfl
        intro w4 hA4 hg4
        have hA4' : Arr w4 b6 (u32s [c.a, c.a, c.b, c.c, c.d, c.e, c.f, c.g]) := hA4
        have e0 : w4.cell? ⟨b6, 0, none⟩ = some (.int .u32 c.a.toNat) := hA4'.cell rfl
        have e4 : w4.cell? ⟨b6, 4, none⟩ = some (.int .u32 c.d.toNat) := hA4'.cell rfl
        have f0 : w4.frozen? ⟨b6, 0, none⟩ = false := hA4'.frozen 0
        have f4 : w4.frozen? ⟨b6, 4, none⟩ = false := hA4'.frozen 4
        have A4 := Lib.hid hA4'; clear hA4 hA4'
        have g4 : Hid (w3.drew.grownBy w4 (some b6)) := hg4; clear hg4
        have dB' := Lib.hid dB; clear dB
        clear c0 c1 c2 c3 c4 c5 c6 c7 cx cy d0 d1 d2 d4 d5 d6 d7 dx dy
        go_wp2
        go_roundw
        case rel =>
          have hS := dB'.out
          have b5' : Arr w4 b5 (u32s (Sha.spread l)) := ((G5.out.below' hS).drew).grown g4.out (by simpa using hne)
          have b2' : Arr w4 w.heap.size (u32s s.list) := ((G2.out.below' hS).drew).grown g4.out (by simp; omega)
          have b4' : Arr w4 (w.heap.size + 1) (u32s (List.replicate 8 0)) := ((G4.out.below' hS).drew).grown g4.out (by simp; omega)
          have bB' : Below w.heap.size w w4 := (GB.out.trans (hS.mono GB.out.size)).drew.grown g4.out (Nat.le_trans GB.out.size hS.size) (by intro q hq; cases hq; omega)
          have hr : Sha.rounds (Sha.spread l) s (k + 1) = Sha.round c y x := by rw [HX.out, HY.out, HCC.out]; rfl
          have v0 : ((Sha.tx c y x).toNat : Int) + (Sha.ty c).toNat = 0 ∨ True := Or.inr trivial
          rw [add32, add32]
          refine ⟨k + 1, by omega, by go_num, (b5'.other (by simpa using Ne.symm hne) _).other (by simpa using Ne.symm hne) _, ?_, (b2'.other (by simp; omega) _).other (by simp; omega) _, (b4'.other (by simp; omega) _).other (by simp; omega) _, (bB'.setCell (by simp; omega) _).setCell (by simp; omega) _⟩
          rw [hr]
          exact (A4.out.set 0 _).set 4 _
        case measure => simp [intOf]; omega
      · have hk64 : k = 64 := by omega
        rw [hk64] at h6
        obtain ⟨c, hc⟩ : ∃ c, c = Sha.rounds (Sha.spread l) s 64 := ⟨_, rfl⟩
        rw [← hc] at h6
        have HCC := Lib.hid hc; clear hc hk64
        clear h5
        go_wp2
        go_loopw [78] (fun i wr => ∃ j : Nat, j ≤ 8 ∧ i = .int .i64 j ∧ Arr wr b6 (u32s ((Sha.plus s c).list.take j ++ c.list.drop j)) ∧ Arr wr w.heap.size (u32s s.list) ∧ Arr wr (w.heap.size + 1) (u32s (List.replicate 8 0)) ∧ Below w.heap.size w wr) (fun i _ => 8 - (intOf i).toNat)
        case atStart => exact ⟨0, by omega, rfl, h6, h2, h4, hB⟩
        case round =>
          clear h6 h2 h4 hB hk hlt
          obtain ⟨j, hj, rfl, h6, h2, h4, hB⟩ := hrel
          by_cases hlt : j < 8
          · obtain ⟨x, hx⟩ : ∃ x, x = ((Sha.plus s c).list.take j ++ c.list.drop j).getD j 0 := ⟨_, rfl⟩
            obtain ⟨y, hy⟩ : ∃ x, x = s.list.getD j 0 := ⟨_, rfl⟩
            have hll : ((Sha.plus s c).list.take j ++ c.list.drop j).length = 8 := by simp [Sha.S8.list]; omega
            have cx := h6.cell (u32s_get (i := j) (by rw [hll]; exact hlt))
            have cy := h2.cell (u32s_get (l := s.list) (i := j) hlt)
            have fx := h6.frozen j
            rw [← hx] at cx
            rw [← hy] at cy
            have HX := Lib.hid hx; clear hx
            have HY := Lib.hid hy; clear hy
            have G6 := Lib.hid h6; clear h6
            have G2 := Lib.hid h2; clear h2
            have G4 := Lib.hid h4; clear h4
            have GB := Lib.hid hB; clear hB
            clear hll
            go_wp2
            go_region
            all_goals go_wp2
            go_roundw
            case rel =>
              rw [add32]
              refine ⟨j + 1, by omega, by go_num, ?_, G2.out.other (by simp; omega) _, G4.out.other (by simp; omega) _, (GB.out.setCell (by simp; omega) _).drew⟩
              have e : ((Sha.plus s c).list.take j ++ c.list.drop j).set j (x + y) = (Sha.plus s c).list.take (j + 1) ++ c.list.drop (j + 1) := by
                rw [HX.out, HY.out]
                match j, hlt with
                | 0, _ | 1, _ | 2, _ | 3, _ | 4, _ | 5, _ | 6, _ | 7, _ => rfl
              rw [← e, ← u32s_set]
              exact G6.out.set _ _
            case measure => simp [intOf]; omega
          · have hj8 : j = 8 := by omega
            have h6' : Arr wr b6 (u32s (Sha.after s l).list) := by
              have e : (Sha.plus s c).list.take j ++ c.list.drop j = (Sha.after s l).list := by rw [hj8, HCC.out]; rfl
              rw [← e]; exact h6
            have G6 := Lib.hid h6'; clear h6 h6' hj8
            have G2 := Lib.hid h2; clear h2
            have G4 := Lib.hid h4; clear h4
            have GB := Lib.hid hB; clear hB
            go_wp2_with (first
              | (refine wpList_load_cells rfl _ _ rfl _ _ rfl (u32s (Sha.after s l).list) agg8 (fun j v hv => by rw [Nat.zero_add]; exact G6.out.cell hv) ?_)
              | (refine wpList_store_cells rfl rfl _ _ _ rfl _ _ rfl (u32s (Sha.after s l).list) rfl agg8.2 (u32s_one _) _ G4.out (by simp [u32s_length, s8_len]) ?_; intro w2 hA2 hG2))
            refine bodyPost_cells rfl rfl _ rfl _ hA2 ?_ ⟨?_, ?_⟩
            · rw [lay_whole _ _ (by simp [u32s_length, s8_len])]; exact agg8
            · rw [lay_whole _ _ (by simp [u32s_length, s8_len])]
            · exact GB.out.grown hG2 GB.out.size (by intro k hk; cases hk; omega)
end Go.Proofs.YtmindblfbijaaaaDoor
