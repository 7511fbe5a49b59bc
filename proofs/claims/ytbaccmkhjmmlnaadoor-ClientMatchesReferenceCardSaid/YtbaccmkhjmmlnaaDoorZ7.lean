/-
  Lemmas, part 7 of 8: walks through the program's functions, and plain Lean about what they compute.
-/
import Derived.Test.YtbaccmkhjmmlnaaDoorZ1
import Derived.Test.YtbaccmkhjmmlnaaDoorZ2
import Derived.Test.YtbaccmkhjmmlnaaDoorZ3
import Derived.Test.YtbaccmkhjmmlnaaDoorZ4
import Derived.Test.YtbaccmkhjmmlnaaDoorZ5
import Derived.Test.YtbaccmkhjmmlnaaDoorZ6
set_option linter.unnecessarySimpa false
set_option linter.unusedSimpArgs false
set_option linter.unusedVariables false
namespace Go.Proofs.YtbaccmkhjmmlnaaDoor
section
open Go.RowKit
set_option maxRecDepth 100000
section
variable (P : Program) (t : TypeId) (x y : Operand)
theorem iX (a b : UInt32) : a8 P (do eqGuard .add t x y (.int .u32 a.toNat) (.int .u32 b.toNat); binOp .add t (.int .u32 a.toNat) (.int .u32 b.toNat)) = some (.int .u32 ((a + b).toNat : Int)) := by rw [cR, yM]
theorem ja (a b : UInt32) : a8 P (do eqGuard .xor t x y (.int .u32 a.toNat) (.int .u32 b.toNat); binOp .xor t (.int .u32 a.toNat) (.int .u32 b.toNat)) = some (.int .u32 ((a ^^^ b).toNat : Int)) := by
 rw [iD]; exact congrArg (fun n => some (Value.int .u32 n)) (nF a b)
theorem oR (a b : UInt32) : a8 P (do eqGuard .and t x y (.int .u32 a.toNat) (.int .u32 b.toNat); binOp .and t (.int .u32 a.toNat) (.int .u32 b.toNat)) = some (.int .u32 ((a &&& b).toNat : Int)) := by
 rw [l8]; exact congrArg (fun n => some (Value.int .u32 n)) (wB a b)
theorem Ax (a : UInt32) : a8 P (Op.unary .xor (.int .u32 a.toNat)) = some (.int .u32 ((~~~a).toNat : Int)) := by
 rw [← zp a]; rfl
theorem sQ (n : Nat) {b : Int} (k2 : IntKind) (hb : b = (n : Int)) (hn : n ≤ 32) (a : UInt32) : a8 P (do eqGuard .shr t x y (.int .u32 a.toNat) (.int k2 b); binOp .shr t (.int .u32 a.toNat) (.int k2 b)) = some (.int .u32 ((Sha.shr a n).toNat : Int)) := by
 rw [uh P t x y .u32 a.toNat b k2 (by omega), ← wv]
 subst hb
 have : min ((n : Int).toNat) IntKind.u32.bits = n := by show min _ 32 = n; omega
 rw [this, Int.fdiv_eq_ediv_of_nonneg _ (Int.le_of_lt (Int.pow_pos (by omega)))]
 norm_cast
theorem z6 (p : Nat) (k2 : IntKind) (hp : p < 16777216) : a8 P (do eqGuard .shl t x y (.int .u32 p) (.int k2 8); binOp .shl t (.int .u32 p) (.int k2 8)) = some (.int .u32 ((p * 256 : Nat) : Int)) := by
 have e : (2 : Int) ^ (min (8 : Int).toNat IntKind.u32.bits) = 256 := by decide
 rw [wK P t x y .u32 p 8 k2 (by omega), e, vh _ (by omega)]
 simp
theorem AO (p c : Nat) (hp : p < 16777216) (hc : c < 256) : a8 P (do eqGuard .or t x y (.int .u32 ((p * 256 : Nat) : Int)) (.int .u32 c); binOp .or t (.int .u32 ((p * 256 : Nat) : Int)) (.int .u32 c)) = some (.int .u32 ((p * 256 + c : Nat) : Int)) := by
 rw [CU]
 have := wO p c hp hc
 rw [show (p : Int) * 256 % 4294967296 = ((p * 256 : Nat) : Int) by omega] at this
 exact congrArg (fun n => some (Value.int .u32 n)) this
end
theorem jr {n : Int} (m : Nat) (x : UInt32) (hn : n = m) (h1 : m ≤ 31) (G : Nat → Option D) : aj Tryd.prog G 92 [.v (.int .i64 n), .v (.int .u32 x.toNat)] (.v (.int .u32 (Sha.rotr x m).toNat)) := by
 intro C w vs hG hk ha
 obtain ⟨v, u, rfl, hv, hu⟩ := sH ha
 rw [bA hv, bA hu]
 subst hn
 refine (yx m x w h1).mono ?_
 rintro e w' ⟨rfl, k, rfl⟩
 exact ⟨_, C, rfl, .of_below hk (below_drewN (Below.refl _ _) k), .v _⟩
theorem zu (G : Nat → Option D) : aj Tryd.prog G 77 [] (.agg 8 (Sha.begin8.map aP)) := by
 refine aj.of Tryd.func77 rfl Tryd.ntmps77 (by simp) ?_; intro F hF h0 hT; simp only [List.zipIdx_cons, List.zipIdx_nil, List.map_cons, List.map_nil, Nat.zero_add, Nat.reduceAdd]
 refine Sm.seq ?_
 refine ab hF rfl ?_
 refine SmG.new hF rfl rfl rfl (aI rfl sJ) ?_
 refine SmG.nil (aa (Sm.seq ?_))
 refine ab hF rfl ?_
 refine gv hF (iy rfl Tryd.underlying139 rfl (show _ = some (.d (.agg 8 (Sha.begin8.map aP))) from by kernel_rfl)) ?_
 refine SmG.store hF rfl rfl rfl rfl rfl (by simp (disch := omega) only [go_sem, Nat.reduceEqDiff, ar] <;> rfl) ?_
 refine SmG.nil (aa (Sm.ret ?_))
 refine ⟨.agg 8 (Sha.begin8.map aP), ?_, D.le.refl _⟩
 kernel_rfl
theorem AP (G : Nat → Option D) : aj Tryd.prog G 91 [] (.agg 64 (Sha.keys64.map aP)) := by
 refine aj.of Tryd.func91 rfl Tryd.ntmps91 (by simp) ?_; intro F hF h0 hT; simp only [List.zipIdx_cons, List.zipIdx_nil, List.map_cons, List.map_nil, Nat.zero_add, Nat.reduceAdd]
 refine Sm.seq ?_
 refine ab hF rfl ?_
 refine SmG.new hF rfl rfl rfl (aI rfl qH) ?_
 refine SmG.nil (aa (Sm.seq ?_))
 refine ab hF rfl ?_
 refine gv hF (iy rfl Tryd.underlying154 rfl (show _ = some (.d (.agg 64 (Sha.keys64.map aP))) from by kernel_rfl)) ?_
 refine SmG.store hF rfl rfl rfl rfl rfl (by simp (disch := omega) only [go_sem, Nat.reduceEqDiff, ar] <;> rfl) ?_
 refine SmG.nil (aa (Sm.ret ?_))
 refine ⟨.agg 64 (Sha.keys64.map aP), ?_, D.le.refl _⟩
 kernel_rfl
abbrev dW (n : Nat) (l : List UInt32) : Blk := dB n [l.map aP]
theorem yz (l : List UInt32) (i z : Nat) (h : z < 4294967296) : (List.map V.d (List.map aP l)).set i (.d (.v (.int .u32 (z : Int)))) = List.map V.d (List.map aP (l.set i (UInt32.ofNat z))) := by
 rw [List.map_set, List.map_set]
 have : (UInt32.ofNat z).toNat = z := Nat.mod_eq_of_lt h
 rw [aP, this]
theorem rZ (l : List UInt32) (i : Nat) (z : UInt32) : (List.map V.d (List.map aP l)).set i (.d (.v (.int .u32 (z.toNat : Int)))) = List.map V.d (List.map aP (l.set i z)) := by
 rw [List.map_set, List.map_set]; rfl
theorem iz (l : List UInt32) (i : Nat) (h : i < l.length) : l[i]? = some (l.getD i 0) := by simp [List.getD, h]
theorem y1 (b : List UInt8) (hb : b.length = 64) (G : Nat → Option D) : aj Tryd.prog G 90 [bh b] (.agg 64 ((Sha.spread b).map aP)) := by
 refine aj.of Tryd.func90 rfl Tryd.ntmps90 (by simp) ?_; intro F hF h0 hT; simp only [List.zipIdx_cons, List.zipIdx_nil, List.map_cons, List.map_nil, Nat.zero_add, Nat.reduceAdd]
 refine Sm.seq ?_
 refine ab hF rfl ?_
 refine SmG.new hF rfl rfl rfl (aI rfl qH) ?_
 refine SmG.nil (aa (Sm.seq ?_))
 refine ab hF rfl ?_
 refine gv hF (iy rfl Tryd.underlying154 rfl Cs) ?_
 refine SmG.new hF rfl rfl rfl (aI rfl qH) ?_
 refine SmG.store hF rfl rfl rfl rfl rfl (by simp (disch := omega) only [go_sem, Nat.reduceEqDiff, ar] <;> rfl) ?_
 refine SmG.nil (aa (Sm.seq (Sm.seq ?_)))
 refine ab hF rfl ?_
 refine gv hF oA (SmG.nil (aa (Sm.block ?_)))
 refine Sm.loop (ι := {t : Nat // t ≤ 16}) (fun t => ⟨[(0, .d (bh b)), (2, .ref 0 0 0), (3, .ref 1 0 0), (4, .d (.v (.int .i64 t.1)))], [(1, dW 64 (Sha.fill b (4 * t.1))), (0, dW 64 (List.replicate 64 0))], 2⟩) (fun t => 16 - t.1) (⟨0, by omega⟩) ?_ ?_
 ·refine cj (by simp [leE, look, bd]) ⟨?_, rfl, trivial⟩ (Nat.le_refl _)
  show _ = some (dW 64 (Sha.fill b 0))
  rw [Sha.fill_zero]; rfl
 rintro ⟨t, ht⟩
 simp only
 by_cases hlt : t < 16
 ·refine Sm.seq (Sm.seq ?_)
  refine ab hF rfl ?_
  refine gv hF oM ?_
  refine gv hF (aq rfl rfl rfl (by first | exact bp _ _ _ _ _ (by omega) | exact br _ _ _ _ _ (by omega) | exact bF _ _ _ _ _ _ _)) ?_
  refine SmG.nil (aa ?_)
  refine aW hF rfl ?_
  refine Sm.skip ?_
  refine aa (Sm.seq (Sm.block (Sm.seq ?_)))
  refine ab hF rfl ?_
  refine gv hF oA (SmG.nil (aa (Sm.block ?_)))
  refine Sm.loop (ι := {k : Nat // k ≤ 4}) (fun k => ⟨[(0, .d (bh b)), (2, .ref 0 0 0), (3, .ref 1 0 0), (4, .d (.v (.int .i64 t))), (5, .d (.v (.int .i64 k.1)))], [(1, dW 64 (Sha.fill b (4 * t + k.1))), (0, dW 64 (List.replicate 64 0))], 2⟩) (fun k => 4 - k.1) (⟨0, by omega⟩) ?_ ?_
  ·exact cj (by simp [leE, look, bd]) (by simp [leH, look, rep]) (by first | exact Nat.le_refl _ | (dsimp only; omega))
  rintro ⟨k, hk⟩
  simp only
  by_cases hlk : k < 4
  ·have hpl : Sha.part b t k < 16777216 := Nat.lt_of_lt_of_le (Sha.part_lt b t k) (by
    have : (256 : Nat) ^ k ≤ 256 ^ 3 := Nat.pow_le_pow_right (by omega) (by omega)
    simpa using this)
   have hget : (Sha.fill b (4 * t + k))[t]? = some (UInt32.ofNat (Sha.part b t k)) := by
    rw [iz _ _ (by rw [Sha.fill_length]; omega), Sha.fill_get b _ t (by omega)]
    congr 3; omega
   have hw : (UInt32.ofNat (Sha.part b t k)).toNat = Sha.part b t k := Nat.mod_eq_of_lt (by omega)
   have hb1 : b[4 * t + k]? = some (b.getD (4 * t + k) 0) := by simp [List.getD, show 4 * t + k < b.length by omega]
   have hlb : (b.getD (4 * t + k) 0).toNat < 256 := (b.getD (4 * t + k) 0).toNat_lt
   have hset := Sha.fill_succ b (4 * t + k) (by omega)
   rw [show (4 * t + k) / 4 = t by omega, show (4 * t + k) % 4 = k by omega] at hset
   have hst := yz (Sha.fill b (4 * t + k)) t (Sha.part b t k * 256 + (b.getD (4 * t + k) 0).toNat) (by omega)
   rw [← hset] at hst
   generalize b.getD (4 * t + k) 0 = c at hb1 hlb hst
   generalize Sha.part b t k = p at hpl hget hw hst
   have hcast : (4 * (t : Int) + (k : Int)).toNat = 4 * t + k := by omega
   have e1 : 4 * t + (k + 1) = 4 * t + k + 1 := by omega
   refine Sm.seq (Sm.seq ?_)
   refine ab hF rfl ?_
   refine gv hF oM ?_
   refine gv hF (aq rfl rfl rfl (by first | exact bp _ _ _ _ _ (by omega) | exact br _ _ _ _ _ (by omega) | exact bF _ _ _ _ _ _ _)) ?_
   refine SmG.nil (aa ?_)
   refine aW hF rfl ?_
   refine Sm.skip ?_
   refine aa (Sm.seq (Sm.block ?_))
   refine eP hF (by kernel_rfl) rfl 15 (by kernel_rfl) (by kernel_rfl) ?_
   simp only [List.take_succ_cons, List.take_zero, List.take_nil]
   refine hv hF oM (hv hF oM ?_)
   refine hv hF (aA rfl rfl rfl (by simp (disch := omega) only [go_sem, Nat.reduceEqDiff, ar, bh, aJ, dJ, hget, hw, hb1, hcast, aP] <;> rfl)) ?_
   refine hv hF (aQ rfl rfl (by simp (disch := omega) only [go_sem, Nat.reduceEqDiff, ar, bh, aJ, dJ, hget, hw, hb1, hcast, aP] <;> rfl)) ?_
   refine hv hF (aq rfl rfl rfl (z6 _ _ _ _ p _ hpl)) (hv hF oM (hv hF oM ?_))
   refine hv hF (aq rfl rfl rfl (by first | exact lT _ _ _ _ _ (bK _ (by omega)) | exact jP _ _ _ _ _ _ _)) ?_
   refine hv hF oM ?_
   refine hv hF (aq rfl rfl rfl (by first | exact gm _ _ _ _ _ (bK _ (by omega)) | exact cR _ _ _ _ _ _ _)) ?_
   refine hv hF (aA rfl rfl rfl (by simp (disch := omega) only [go_sem, Nat.reduceEqDiff, ar, bh, aJ, dJ, hget, hw, hb1, hcast, aP] <;> rfl)) ?_
   refine hv hF (aQ rfl rfl (by simp (disch := omega) only [go_sem, Nat.reduceEqDiff, ar, bh, aJ, dJ, hget, hw, hb1, hcast, aP] <;> rfl)) ?_
   refine hv hF (lZ rfl rfl (by first | exact eC rfl rfl (vh _ (by omega)) | (simp (disch := omega) only [go_sem, bh, aJ, dJ, hget, hw, hb1, hcast, aP] <;> rfl))) ?_
   refine hv hF (aq rfl rfl rfl (AO _ _ _ _ p c.toNat hpl hlb)) ?_
   refine hv hF (aA rfl rfl rfl (by simp (disch := omega) only [go_sem, Nat.reduceEqDiff, ar, bh, aJ, dJ, hget, hw, hb1, hcast, aP] <;> rfl)) ?_
   refine aD.last ⟨rfl, ?_⟩
   simp only [List.drop_succ_cons, List.drop_zero, List.drop_nil, List.nil_append, List.cons_append]
   refine SmG.store hF rfl rfl rfl rfl rfl (by simp (disch := omega) only [go_sem, Nat.reduceEqDiff, ar, bh, aJ, dJ, hget, hw, hb1, hcast, aP] <;> rfl) ?_
   refine SmG.nil (ay (aa ?_))
   refine ab hF rfl ?_
   refine gv hF oM ?_
   refine gv hF (aq rfl rfl rfl (by first | exact gm _ _ _ _ _ (bK _ (by omega)) | exact cR _ _ _ _ _ _ _)) ?_
   refine gv hF oA (SmG.nil (aa ?_))
   exact ⟨⟨k + 1, by omega⟩, by show 4 - (k + 1) < 4 - k; omega, by exact cj (by first | (simp [leE, look, bd] <;> omega) | (simp [leE, look, bd, hst, e1] <;> omega)) (by simp only [leH, look, rep, reduceIte, Nat.reduceEqDiff, List.set_cons_zero, List.set_cons_succ, hst, e1, and_self, and_true, and_false, false_and, if_true, if_false] <;> (repeat' first | rfl | constructor)) (by first | exact Nat.le_refl _ | (dsimp only; omega))⟩
  ·obtain rfl : k = 4 := by omega
   refine Sm.seq (Sm.seq ?_)
   refine ab hF rfl ?_
   refine gv hF oM ?_
   refine gv hF (aq rfl rfl rfl (by first | exact bp _ _ _ _ _ (by omega) | exact br _ _ _ _ _ (by omega) | exact bF _ _ _ _ _ _ _)) ?_
   refine SmG.nil (aa ?_)
   refine ba hF rfl ?_
   refine Sm.exit ?_
   simp only [bT, cK, reduceIte, reduceCtorEq]
   refine ab hF rfl ?_
   refine gv hF oM ?_
   refine gv hF (aq rfl rfl rfl (by first | exact gm _ _ _ _ _ (bK _ (by omega)) | exact cR _ _ _ _ _ _ _)) ?_
   refine gv hF oA (SmG.nil (aa ?_))
   exact ⟨⟨t + 1, by omega⟩, by show 16 - (t + 1) < 16 - t; omega, by exact cj (by first | (simp [leE, look, bd] <;> omega) | (simp [leE, look, bd, show 4 * t + 4 = 4 * (t + 1) by omega] <;> omega)) (by simp only [leH, look, rep, reduceIte, Nat.reduceEqDiff, List.set_cons_zero, List.set_cons_succ, show 4 * t + 4 = 4 * (t + 1) by omega, and_self, and_true, and_false, false_and, if_true, if_false] <;> (repeat' first | rfl | constructor)) (by first | exact Nat.le_refl _ | (dsimp only; omega))⟩
 ·obtain rfl : t = 16 := by omega
  refine Sm.seq (Sm.seq ?_)
  refine ab hF rfl ?_
  refine gv hF oM ?_
  refine gv hF (aq rfl rfl rfl (by first | exact bp _ _ _ _ _ (by omega) | exact br _ _ _ _ _ (by omega) | exact bF _ _ _ _ _ _ _)) ?_
  refine SmG.nil (aa ?_)
  refine ba hF rfl ?_
  refine Sm.exit ?_
  simp only [bT, cK, reduceIte, reduceCtorEq]
  refine Sm.seq (Sm.seq ?_)
  refine ab hF rfl ?_
  refine gv hF oA (SmG.nil (aa (Sm.block ?_)))
  refine Sm.loop (ι := {t : Nat // 16 ≤ t ∧ t ≤ 64}) (fun t => ⟨[(0, .d (bh b)), (2, .ref 0 0 0), (3, .ref 1 0 0), (6, .d (.v (.int .i64 t.1)))], [(1, dW 64 (Sha.grown b t.1)), (0, dW 64 (List.replicate 64 0))], 2⟩) (fun t => 64 - t.1) (⟨16, by omega, by omega⟩) ?_ ?_
  ·refine cj (by simp [leE, look, bd]) ⟨?_, rfl, trivial⟩ (Nat.le_refl _)
   show _ = some (dW 64 (Sha.grown b 16))
   rw [← Sha.grown_first]; rfl
  rintro ⟨t, ht, ht2⟩
  simp only
  by_cases hlt : t < 64
  ·have hln := Sha.grown_length b t ht ht2
   have h1 := iz (Sha.grown b t) (t - 16) (by omega)
   have h2 := iz (Sha.grown b t) (t - 7) (by omega)
   have h3 := iz (Sha.grown b t) (t - 15) (by omega)
   have h4 := iz (Sha.grown b t) (t - 2) (by omega)
   have hset := Sha.grown_succ b t ht hlt
   have hst := rZ (Sha.grown b t) t ((Sha.grown b t).getD (t - 16) 0 + (Sha.grown b t).getD (t - 7) 0 + Sha.low ((Sha.grown b t).getD (t - 15) 0) + Sha.high ((Sha.grown b t).getD (t - 2) 0))
   rw [← hset] at hst
   generalize (Sha.grown b t).getD (t - 16) 0 = x1 at h1 hst
   generalize (Sha.grown b t).getD (t - 7) 0 = x2 at h2 hst
   generalize (Sha.grown b t).getD (t - 15) 0 = y at h3 hst
   generalize (Sha.grown b t).getD (t - 2) 0 = z at h4 hst
   simp only [Sha.low, Sha.high] at hst
   have c1 : ((t : Int) - 16).toNat = t - 16 := by omega
   have c2 : ((t : Int) - 7).toNat = t - 7 := by omega
   have c3 : ((t : Int) - 15).toNat = t - 15 := by omega
   have c4 : ((t : Int) - 2).toNat = t - 2 := by omega
   refine Sm.seq (Sm.seq ?_)
   refine ab hF rfl ?_
   refine gv hF oM ?_
   refine gv hF (aq rfl rfl rfl (by first | exact bp _ _ _ _ _ (by omega) | exact br _ _ _ _ _ (by omega) | exact bF _ _ _ _ _ _ _)) ?_
   refine SmG.nil (aa ?_)
   refine aW hF rfl ?_
   refine Sm.skip ?_
   refine aa (Sm.seq (Sm.block (Sm.seq ?_)))
   refine ab hF rfl ?_
   refine gv hF oM ?_
   refine gv hF (aq rfl rfl rfl (by first | exact iE _ _ _ _ _ (bK _ (by omega)) | exact gP _ _ _ _ _ _ _)) ?_
   refine gv hF (aA rfl rfl rfl (by simp (disch := omega) only [go_sem, Nat.reduceEqDiff, ar, aP, h1, h2, h3, h4, c1, c2, c3, c4] <;> rfl)) ?_
   refine gv hF (aQ rfl rfl (by simp (disch := omega) only [go_sem, Nat.reduceEqDiff, ar, aP, h1, h2, h3, h4, c1, c2, c3, c4] <;> rfl)) ?_
   refine gv hF oA (SmG.nil (aa (Sm.seq ?_)))
   refine ab hF rfl ?_
   refine gv hF oM ?_
   refine gv hF (aq rfl rfl rfl (by first | exact iE _ _ _ _ _ (bK _ (by omega)) | exact gP _ _ _ _ _ _ _)) ?_
   refine gv hF (aA rfl rfl rfl (by simp (disch := omega) only [go_sem, Nat.reduceEqDiff, ar, aP, h1, h2, h3, h4, c1, c2, c3, c4] <;> rfl)) ?_
   refine gv hF (aQ rfl rfl (by simp (disch := omega) only [go_sem, Nat.reduceEqDiff, ar, aP, h1, h2, h3, h4, c1, c2, c3, c4] <;> rfl)) ?_
   refine gv hF oA (SmG.nil (aa ?_))
   refine eP hF (by kernel_rfl) rfl 29 (by kernel_rfl) (by kernel_rfl) ?_
   simp only [List.take_succ_cons, List.take_zero, List.take_nil]
   refine hv hF oM (hv hF oM ?_)
   refine hv hF (aq rfl rfl rfl (by first | exact iE _ _ _ _ _ (bK _ (by omega)) | exact gP _ _ _ _ _ _ _)) ?_
   refine hv hF (aA rfl rfl rfl (by simp (disch := omega) only [go_sem, Nat.reduceEqDiff, ar, aP, h1, h2, h3, h4, c1, c2, c3, c4] <;> rfl)) ?_
   refine hv hF (aQ rfl rfl (by simp (disch := omega) only [go_sem, Nat.reduceEqDiff, ar, aP, h1, h2, h3, h4, c1, c2, c3, c4] <;> rfl)) ?_
   refine hv hF oM ?_
   refine hv hF (aq rfl rfl rfl (by first | exact iE _ _ _ _ _ (bK _ (by omega)) | exact gP _ _ _ _ _ _ _)) ?_
   refine hv hF (aA rfl rfl rfl (by simp (disch := omega) only [go_sem, Nat.reduceEqDiff, ar, aP, h1, h2, h3, h4, c1, c2, c3, c4] <;> rfl)) ?_
   refine hv hF (aQ rfl rfl (by simp (disch := omega) only [go_sem, Nat.reduceEqDiff, ar, aP, h1, h2, h3, h4, c1, c2, c3, c4] <;> rfl)) ?_
   refine hv hF (aq rfl rfl rfl (by first | exact iX _ _ _ _ _ _ | exact cR _ _ _ _ _ _ _)) ?_
   refine hv hF oM ?_
   refine aD.c hF rfl rfl (by kernel_rfl) rfl rfl rfl (jr 7 y rfl (by omega) G) ?_
   refine hv hF oM ?_
   refine aD.c hF rfl rfl (by kernel_rfl) rfl rfl rfl (jr 18 y rfl (by omega) G) ?_
   refine hv hF (aq rfl rfl rfl (by first | exact ja _ _ _ _ _ _ | exact iD _ _ _ _ _ _ _)) ?_
   refine hv hF oM ?_
   refine hv hF (aq rfl rfl rfl (sQ _ _ _ _ 3 _ rfl (by omega) y)) ?_
   refine hv hF (aq rfl rfl rfl (by first | exact ja _ _ _ _ _ _ | exact iD _ _ _ _ _ _ _)) ?_
   refine hv hF (aq rfl rfl rfl (by first | exact iX _ _ _ _ _ _ | exact cR _ _ _ _ _ _ _)) ?_
   refine hv hF oM ?_
   refine aD.c hF rfl rfl (by kernel_rfl) rfl rfl rfl (jr 17 z rfl (by omega) G) ?_
   refine hv hF oM ?_
   refine aD.c hF rfl rfl (by kernel_rfl) rfl rfl rfl (jr 19 z rfl (by omega) G) ?_
   refine hv hF (aq rfl rfl rfl (by first | exact ja _ _ _ _ _ _ | exact iD _ _ _ _ _ _ _)) ?_
   refine hv hF oM ?_
   refine hv hF (aq rfl rfl rfl (sQ _ _ _ _ 10 _ rfl (by omega) z)) ?_
   refine hv hF (aq rfl rfl rfl (by first | exact ja _ _ _ _ _ _ | exact iD _ _ _ _ _ _ _)) ?_
   refine hv hF (aq rfl rfl rfl (by first | exact iX _ _ _ _ _ _ | exact cR _ _ _ _ _ _ _)) ?_
   refine hv hF (aA rfl rfl rfl (by simp (disch := omega) only [go_sem, Nat.reduceEqDiff, ar, aP, h1, h2, h3, h4, c1, c2, c3, c4] <;> rfl)) ?_
   refine aD.last ⟨rfl, ?_⟩
   simp only [List.drop_succ_cons, List.drop_zero, List.drop_nil, List.nil_append, List.cons_append]
   refine SmG.store hF rfl rfl rfl rfl rfl (by simp (disch := omega) only [go_sem, Nat.reduceEqDiff, ar, aP, h1, h2, h3, h4, c1, c2, c3, c4] <;> rfl) ?_
   refine SmG.nil (ay (aa ?_))
   refine ab hF rfl ?_
   refine gv hF oM ?_
   refine gv hF (aq rfl rfl rfl (by first | exact gm _ _ _ _ _ (bK _ (by omega)) | exact cR _ _ _ _ _ _ _)) ?_
   refine gv hF oA (SmG.nil (aa ?_))
   exact ⟨⟨t + 1, by omega, by omega⟩, by show 64 - (t + 1) < 64 - t; omega, by exact cj (by first | (simp [leE, look, bd] <;> omega) | (simp [leE, look, bd, hst] <;> omega)) (by simp only [leH, look, rep, reduceIte, Nat.reduceEqDiff, List.set_cons_zero, List.set_cons_succ, hst, and_self, and_true, and_false, false_and, if_true, if_false] <;> (repeat' first | rfl | constructor)) (by first | exact Nat.le_refl _ | (dsimp only; omega))⟩
  ·obtain rfl : t = 64 := by omega
   have hln := Sha.grown_length b 64 ht ht2
   have hll : (List.map aP (Sha.grown b 64)).length = 64 := by rw [List.length_map, hln]
   refine Sm.seq (Sm.seq ?_)
   refine ab hF rfl ?_
   refine gv hF oM ?_
   refine gv hF (aq rfl rfl rfl (by first | exact bp _ _ _ _ _ (by omega) | exact br _ _ _ _ _ (by omega) | exact bF _ _ _ _ _ _ _)) ?_
   refine SmG.nil (aa ?_)
   refine ba hF rfl ?_
   refine Sm.exit ?_
   simp only [bT, cK, reduceIte, reduceCtorEq]
   refine Sm.seq ?_
   refine ab hF rfl ?_
   refine gv hF (aQ rfl rfl (by simp (disch := omega) only [go_sem, Nat.reduceEqDiff, ar, aP] <;> rfl)) ?_
   refine SmG.store hF rfl rfl rfl rfl rfl (by simp (disch := omega) only [go_sem, Nat.reduceEqDiff, ar, aP] <;> rfl) ?_
   refine SmG.nil (aa (Sm.ret ?_))
   refine iu rfl rfl (by simp (disch := omega) only [go_sem, Nat.reduceEqDiff, ar, hll] <;> rfl) ?_
   rw [Sha.grown_last]; exact D.le.refl _
end
section
open Go.RowKit
set_option maxRecDepth 100000
def jx (c s : List UInt32) (i : Nat) : List UInt32 := (List.zipWith (· + ·) c s).take i ++ c.drop i
theorem q7 (c s : List UInt32) : jx c s 0 = c := by simp [jx]
theorem xT (c s : List UInt32) (i : Nat) (hl : c.length = s.length) (hi : i < c.length) : (jx c s i)[i]? = some (c.getD i 0) := by
 unfold jx
 have : ((List.zipWith (· + ·) c s).take i).length = i := by simp [hl]; omega
 rw [List.getElem?_append_right (by omega), this, Nat.sub_self, List.getElem?_drop]
 simp [List.getD, hi]
theorem wI (c s : List UInt32) (i : Nat) (hl : c.length = s.length) (hi : i < c.length) : (jx c s i).set i (c.getD i 0 + s.getD i 0) = jx c s (i + 1) := by
 unfold jx
 have h1 : ((List.zipWith (· + ·) c s).take i).length = i := by simp [hl]; omega
 rw [List.set_append_right _ _ (by omega), h1, Nat.sub_self, List.drop_eq_getElem_cons hi, List.set_cons_zero, List.take_succ_eq_append_getElem (by simp; omega)]
 simp [List.getD, hi, show i < s.length by omega]
theorem yc (c s : List UInt32) (hl : c.length = s.length) : jx c s c.length = List.zipWith (· + ·) c s := by
 unfold jx
 rw [List.take_of_length_le (by simp; omega), List.drop_length, List.append_nil]
theorem uz (w : List UInt32) (s : Sha.S8) (n : Nat) : Sha.rounds w s (n + 1) = Sha.round (Sha.rounds w s n) (Sha.keys64.getD n 0) (w.getD n 0) := rfl
theorem un (a0 a1 a2 a3 a4 a5 a6 a7 : Int) : fi Tryd.prog 139 [(0, V.d (.v (.int .u32 a0))), (1, V.d (.v (.int .u32 a1))), (2, V.d (.v (.int .u32 a2))), (3, V.d (.v (.int .u32 a3))), (4, V.d (.v (.int .u32 a4))), (5, V.d (.v (.int .u32 a5))), (6, V.d (.v (.int .u32 a6))), (7, V.d (.v (.int .u32 a7)))] = some (.d (.agg 8 [.v (.int .u32 a0), .v (.int .u32 a1), .v (.int .u32 a2), .v (.int .u32 a3), .v (.int .u32 a4), .v (.int .u32 a5), .v (.int .u32 a6), .v (.int .u32 a7)])) := by kernel_rfl
set_option maxHeartbeats 4000000 in
theorem Bj (S : Sha.S8) (b : List UInt8) (hb : b.length = 64) (G : Nat → Option D) : aj Tryd.prog G 78 [.agg 8 (S.list.map aP), bh b] (.agg 8 ((Sha.after S b).list.map aP)) := by
 have hkeys := AP G
 have hks := uz (Sha.spread b) S
 have hkl : Sha.keys64.length = 64 := by decide
 have haf : Sha.after S b = Sha.plus S (Sha.rounds (Sha.spread b) S 64) := rfl
 generalize Sha.keys64 = K at hkeys hks hkl
 have hwl : (Sha.spread b).length = 64 := by rw [← Sha.grown_last, Sha.grown_length b 64 (by omega) (by omega)]
 have hSl : S.list.length = 8 := rfl
 have hKl : (List.map aP K).length = 64 := by rw [List.length_map, hkl]
 have hWl : (List.map aP (Sha.spread b)).length = 64 := by rw [List.length_map, hwl]
 have hSS : (List.map aP S.list).length = 8 := by rw [List.length_map, hSl]
 refine aj.of Tryd.func78 rfl Tryd.ntmps78 (by simp) ?_; intro F hF h0 hT; simp only [List.zipIdx_cons, List.zipIdx_nil, List.map_cons, List.map_nil, Nat.zero_add, Nat.reduceAdd]
 refine Sm.seq ?_
 refine ab hF rfl ?_
 refine SmG.new hF rfl rfl rfl (jF rfl rfl (by simp (disch := omega) only [go_sem, Nat.reduceEqDiff, ar, aP] <;> rfl)) ?_
 refine SmG.new hF rfl rfl rfl (aI rfl sJ) ?_
 refine SmG.nil (aa (Sm.seq ?_))
 refine ab hF rfl ?_
 refine gv hF oM ?_
 refine SmG.call hF rfl rfl (by kernel_rfl) rfl rfl rfl (y1 b hb G) ?_
 refine SmG.new hF rfl rfl rfl (aI rfl qH) ?_
 refine SmG.store hF rfl rfl rfl rfl rfl (by simp (disch := omega) only [go_sem, Nat.reduceEqDiff, ar, aP] <;> rfl) ?_
 refine SmG.nil (aa (Sm.seq ?_))
 refine ab hF rfl ?_
 refine SmG.call hF rfl rfl (by kernel_rfl) rfl rfl rfl (hkeys) ?_
 refine SmG.new hF rfl rfl rfl (aI rfl qH) ?_
 refine SmG.store hF rfl rfl rfl rfl rfl (by simp (disch := omega) only [go_sem, Nat.reduceEqDiff, ar, aP] <;> rfl) ?_
 refine SmG.nil (aa (Sm.seq ?_))
 refine ab hF rfl ?_
 refine gv hF (aQ rfl rfl (by simp (disch := omega) only [go_sem, Nat.reduceEqDiff, ar, aP] <;> rfl)) ?_
 refine SmG.new hF rfl rfl rfl (aI rfl sJ) ?_
 refine SmG.store hF rfl rfl rfl rfl rfl (by simp (disch := omega) only [go_sem, Nat.reduceEqDiff, ar, aP] <;> rfl) ?_
 refine SmG.nil (aa (Sm.seq (Sm.seq ?_)))
 refine ab hF rfl ?_
 refine gv hF oA (SmG.nil (aa (Sm.block ?_)))
 generalize hW : Sha.spread b = W at hks haf hwl hWl ⊢
 refine Sm.loop (ι := {t : Nat // t ≤ 64}) (fun t => ⟨[(2, .ref 0 0 0), (4, .ref 1 0 0), (5, .ref 2 0 0), (6, .ref 3 0 0), (7, .ref 4 0 0), (8, .d (.v (.int .i64 t.1)))], [(4, dW 8 (Sha.rounds W S t.1).list), (3, dW 64 K), (2, dW 64 W), (1, dW 8 (List.replicate 8 0)), (0, dW 8 S.list)], 5⟩) (fun t => 64 - t.1) (⟨0, by omega⟩) ?_ ?_
 ·exact cj (by first | (simp [leE, look, bd] <;> omega) | (simp [leE, look, bd, true_and] <;> omega)) (by simp only [leH, look, rep, reduceIte, Nat.reduceEqDiff, List.set_cons_zero, List.set_cons_succ, true_and, and_self, and_true, and_false, false_and, if_true, if_false] <;> (repeat' first | rfl | constructor)) (by first | exact Nat.le_refl _ | (dsimp only; omega))
 rintro ⟨t, ht⟩
 simp only
 by_cases hlt : t < 64
 ·have hk1 := iz K t (by omega)
  have hw1 := iz W t (by omega)
  have hs := hks t
  generalize K.getD t 0 = k at hk1 hs
  generalize W.getD t 0 = x at hw1 hs
  generalize Sha.rounds W S t = c at hs ⊢
  rcases c with ⟨a, b1, c, d, e, f, g, h⟩
  have hrow : (Sha.rounds W S (t + 1)).list = [Sha.tx ⟨a, b1, c, d, e, f, g, h⟩ k x + Sha.ty ⟨a, b1, c, d, e, f, g, h⟩, a, b1, c, d + Sha.tx ⟨a, b1, c, d, e, f, g, h⟩ k x, e, f, g] := by rw [hs]; rfl
  simp only [Sha.tx, Sha.ty, Sha.rot3] at hrow
  rw [show Sha.S8.list ⟨a, b1, c, d, e, f, g, h⟩ = [a, b1, c, d, e, f, g, h] from rfl]
  refine Sm.seq (Sm.seq ?_)
  refine ab hF rfl ?_
  refine gv hF oM ?_
  refine gv hF (aq rfl rfl rfl (by first | exact bp _ _ _ _ _ (by omega) | exact br _ _ _ _ _ (by omega) | exact bF _ _ _ _ _ _ _)) ?_
  refine SmG.nil (aa ?_)
  refine aW hF rfl ?_
  refine Sm.skip ?_
  refine aa (Sm.seq (Sm.block (Sm.seq ?_)))
  refine eP hF (by kernel_rfl) rfl 36 (by kernel_rfl) (by kernel_rfl) ?_
  simp only [List.take_succ_cons, List.take_zero, List.take_nil]
  refine hv hF (aA rfl rfl rfl (by simp (disch := omega) only [go_sem, Nat.reduceEqDiff, ar, aP, hk1, hw1, hkl, hwl] <;> rfl)) ?_
  refine hv hF (aQ rfl rfl (by simp (disch := omega) only [go_sem, Nat.reduceEqDiff, ar, aP, hk1, hw1, hkl, hwl] <;> rfl)) ?_
  refine hv hF (aA rfl rfl rfl (by simp (disch := omega) only [go_sem, Nat.reduceEqDiff, ar, aP, hk1, hw1, hkl, hwl] <;> rfl)) ?_
  refine hv hF (aQ rfl rfl (by simp (disch := omega) only [go_sem, Nat.reduceEqDiff, ar, aP, hk1, hw1, hkl, hwl] <;> rfl)) ?_
  refine aD.c hF rfl rfl (by kernel_rfl) rfl rfl rfl (jr 6 e rfl (by omega) G) ?_
  refine hv hF (aA rfl rfl rfl (by simp (disch := omega) only [go_sem, Nat.reduceEqDiff, ar, aP, hk1, hw1, hkl, hwl] <;> rfl)) ?_
  refine hv hF (aQ rfl rfl (by simp (disch := omega) only [go_sem, Nat.reduceEqDiff, ar, aP, hk1, hw1, hkl, hwl] <;> rfl)) ?_
  refine aD.c hF rfl rfl (by kernel_rfl) rfl rfl rfl (jr 11 e rfl (by omega) G) ?_
  refine hv hF (aq rfl rfl rfl (by first | exact ja _ _ _ _ _ _ | exact iD _ _ _ _ _ _ _)) ?_
  refine hv hF (aA rfl rfl rfl (by simp (disch := omega) only [go_sem, Nat.reduceEqDiff, ar, aP, hk1, hw1, hkl, hwl] <;> rfl)) ?_
  refine hv hF (aQ rfl rfl (by simp (disch := omega) only [go_sem, Nat.reduceEqDiff, ar, aP, hk1, hw1, hkl, hwl] <;> rfl)) ?_
  refine aD.c hF rfl rfl (by kernel_rfl) rfl rfl rfl (jr 25 e rfl (by omega) G) ?_
  refine hv hF (aq rfl rfl rfl (by first | exact ja _ _ _ _ _ _ | exact iD _ _ _ _ _ _ _)) ?_
  refine hv hF (aq rfl rfl rfl (by first | exact iX _ _ _ _ _ _ | exact cR _ _ _ _ _ _ _)) ?_
  refine hv hF (aA rfl rfl rfl (by simp (disch := omega) only [go_sem, Nat.reduceEqDiff, ar, aP, hk1, hw1, hkl, hwl] <;> rfl)) ?_
  refine hv hF (aQ rfl rfl (by simp (disch := omega) only [go_sem, Nat.reduceEqDiff, ar, aP, hk1, hw1, hkl, hwl] <;> rfl)) ?_
  refine hv hF (aA rfl rfl rfl (by simp (disch := omega) only [go_sem, Nat.reduceEqDiff, ar, aP, hk1, hw1, hkl, hwl] <;> rfl)) ?_
  refine hv hF (aQ rfl rfl (by simp (disch := omega) only [go_sem, Nat.reduceEqDiff, ar, aP, hk1, hw1, hkl, hwl] <;> rfl)) ?_
  refine hv hF (aq rfl rfl rfl (by first | exact oR _ _ _ _ _ _ | exact l8 _ _ _ _ _ _ _)) ?_
  refine hv hF (aA rfl rfl rfl (by simp (disch := omega) only [go_sem, Nat.reduceEqDiff, ar, aP, hk1, hw1, hkl, hwl] <;> rfl)) ?_
  refine hv hF (aQ rfl rfl (by simp (disch := omega) only [go_sem, Nat.reduceEqDiff, ar, aP, hk1, hw1, hkl, hwl] <;> rfl)) ?_
  refine hv hF (iG rfl rfl (Ax _ _)) ?_
  refine hv hF (aA rfl rfl rfl (by simp (disch := omega) only [go_sem, Nat.reduceEqDiff, ar, aP, hk1, hw1, hkl, hwl] <;> rfl)) ?_
  refine hv hF (aQ rfl rfl (by simp (disch := omega) only [go_sem, Nat.reduceEqDiff, ar, aP, hk1, hw1, hkl, hwl] <;> rfl)) ?_
  refine hv hF (aq rfl rfl rfl (by first | exact oR _ _ _ _ _ _ | exact l8 _ _ _ _ _ _ _)) ?_
  refine hv hF (aq rfl rfl rfl (by first | exact ja _ _ _ _ _ _ | exact iD _ _ _ _ _ _ _)) ?_
  refine hv hF (aq rfl rfl rfl (by first | exact iX _ _ _ _ _ _ | exact cR _ _ _ _ _ _ _)) ?_
  refine hv hF oM ?_
  refine hv hF (aA rfl rfl rfl (by simp (disch := omega) only [go_sem, Nat.reduceEqDiff, ar, aP, hk1, hw1, hkl, hwl] <;> rfl)) ?_
  refine hv hF (aQ rfl rfl (by simp (disch := omega) only [go_sem, Nat.reduceEqDiff, ar, aP, hk1, hw1, hkl, hwl] <;> rfl)) ?_
  refine hv hF (aq rfl rfl rfl (by first | exact iX _ _ _ _ _ _ | exact cR _ _ _ _ _ _ _)) ?_
  refine hv hF oM ?_
  refine hv hF (aA rfl rfl rfl (by simp (disch := omega) only [go_sem, Nat.reduceEqDiff, ar, aP, hk1, hw1, hkl, hwl] <;> rfl)) ?_
  refine hv hF (aQ rfl rfl (by simp (disch := omega) only [go_sem, Nat.reduceEqDiff, ar, aP, hk1, hw1, hkl, hwl] <;> rfl)) ?_
  refine hv hF (aq rfl rfl rfl (by first | exact iX _ _ _ _ _ _ | exact cR _ _ _ _ _ _ _)) ?_
  refine hv hF oA ?_
  refine aD.last ⟨rfl, ?_⟩
  simp only [List.drop_succ_cons, List.drop_zero, List.drop_nil, List.nil_append, List.cons_append]
  refine SmG.nil (aa (Sm.seq ?_))
  refine eP hF (by kernel_rfl) rfl 30 (by kernel_rfl) (by kernel_rfl) ?_
  simp only [List.take_succ_cons, List.take_zero, List.take_nil]
  refine hv hF (aA rfl rfl rfl (by simp (disch := omega) only [go_sem, Nat.reduceEqDiff, ar, aP, hk1, hw1, hkl, hwl] <;> rfl)) ?_
  refine hv hF (aQ rfl rfl (by simp (disch := omega) only [go_sem, Nat.reduceEqDiff, ar, aP, hk1, hw1, hkl, hwl] <;> rfl)) ?_
  refine aD.c hF rfl rfl (by kernel_rfl) rfl rfl rfl (jr 2 a rfl (by omega) G) ?_
  refine hv hF (aA rfl rfl rfl (by simp (disch := omega) only [go_sem, Nat.reduceEqDiff, ar, aP, hk1, hw1, hkl, hwl] <;> rfl)) ?_
  refine hv hF (aQ rfl rfl (by simp (disch := omega) only [go_sem, Nat.reduceEqDiff, ar, aP, hk1, hw1, hkl, hwl] <;> rfl)) ?_
  refine aD.c hF rfl rfl (by kernel_rfl) rfl rfl rfl (jr 13 a rfl (by omega) G) ?_
  refine hv hF (aq rfl rfl rfl (by first | exact ja _ _ _ _ _ _ | exact iD _ _ _ _ _ _ _)) ?_
  refine hv hF (aA rfl rfl rfl (by simp (disch := omega) only [go_sem, Nat.reduceEqDiff, ar, aP, hk1, hw1, hkl, hwl] <;> rfl)) ?_
  refine hv hF (aQ rfl rfl (by simp (disch := omega) only [go_sem, Nat.reduceEqDiff, ar, aP, hk1, hw1, hkl, hwl] <;> rfl)) ?_
  refine aD.c hF rfl rfl (by kernel_rfl) rfl rfl rfl (jr 22 a rfl (by omega) G) ?_
  refine hv hF (aq rfl rfl rfl (by first | exact ja _ _ _ _ _ _ | exact iD _ _ _ _ _ _ _)) ?_
  refine hv hF (aA rfl rfl rfl (by simp (disch := omega) only [go_sem, Nat.reduceEqDiff, ar, aP, hk1, hw1, hkl, hwl] <;> rfl)) ?_
  refine hv hF (aQ rfl rfl (by simp (disch := omega) only [go_sem, Nat.reduceEqDiff, ar, aP, hk1, hw1, hkl, hwl] <;> rfl)) ?_
  refine hv hF (aA rfl rfl rfl (by simp (disch := omega) only [go_sem, Nat.reduceEqDiff, ar, aP, hk1, hw1, hkl, hwl] <;> rfl)) ?_
  refine hv hF (aQ rfl rfl (by simp (disch := omega) only [go_sem, Nat.reduceEqDiff, ar, aP, hk1, hw1, hkl, hwl] <;> rfl)) ?_
  refine hv hF (aq rfl rfl rfl (by first | exact oR _ _ _ _ _ _ | exact l8 _ _ _ _ _ _ _)) ?_
  refine hv hF (aA rfl rfl rfl (by simp (disch := omega) only [go_sem, Nat.reduceEqDiff, ar, aP, hk1, hw1, hkl, hwl] <;> rfl)) ?_
  refine hv hF (aQ rfl rfl (by simp (disch := omega) only [go_sem, Nat.reduceEqDiff, ar, aP, hk1, hw1, hkl, hwl] <;> rfl)) ?_
  refine hv hF (aA rfl rfl rfl (by simp (disch := omega) only [go_sem, Nat.reduceEqDiff, ar, aP, hk1, hw1, hkl, hwl] <;> rfl)) ?_
  refine hv hF (aQ rfl rfl (by simp (disch := omega) only [go_sem, Nat.reduceEqDiff, ar, aP, hk1, hw1, hkl, hwl] <;> rfl)) ?_
  refine hv hF (aq rfl rfl rfl (by first | exact oR _ _ _ _ _ _ | exact l8 _ _ _ _ _ _ _)) ?_
  refine hv hF (aq rfl rfl rfl (by first | exact ja _ _ _ _ _ _ | exact iD _ _ _ _ _ _ _)) ?_
  refine hv hF (aA rfl rfl rfl (by simp (disch := omega) only [go_sem, Nat.reduceEqDiff, ar, aP, hk1, hw1, hkl, hwl] <;> rfl)) ?_
  refine hv hF (aQ rfl rfl (by simp (disch := omega) only [go_sem, Nat.reduceEqDiff, ar, aP, hk1, hw1, hkl, hwl] <;> rfl)) ?_
  refine hv hF (aA rfl rfl rfl (by simp (disch := omega) only [go_sem, Nat.reduceEqDiff, ar, aP, hk1, hw1, hkl, hwl] <;> rfl)) ?_
  refine hv hF (aQ rfl rfl (by simp (disch := omega) only [go_sem, Nat.reduceEqDiff, ar, aP, hk1, hw1, hkl, hwl] <;> rfl)) ?_
  refine hv hF (aq rfl rfl rfl (by first | exact oR _ _ _ _ _ _ | exact l8 _ _ _ _ _ _ _)) ?_
  refine hv hF (aq rfl rfl rfl (by first | exact ja _ _ _ _ _ _ | exact iD _ _ _ _ _ _ _)) ?_
  refine hv hF (aq rfl rfl rfl (by first | exact iX _ _ _ _ _ _ | exact cR _ _ _ _ _ _ _)) ?_
  refine hv hF oA ?_
  refine aD.last ⟨rfl, ?_⟩
  simp only [List.drop_succ_cons, List.drop_zero, List.drop_nil, List.nil_append, List.cons_append]
  refine SmG.nil (aa ?_)
  refine ab hF rfl ?_
  refine gv hF oM (gv hF oM ?_)
  refine gv hF (aq rfl rfl rfl (by first | exact iX _ _ _ _ _ _ | exact cR _ _ _ _ _ _ _)) ?_
  refine gv hF (aA rfl rfl rfl (by simp (disch := omega) only [go_sem, Nat.reduceEqDiff, ar, aP, hk1, hw1, hkl, hwl] <;> rfl)) ?_
  refine gv hF (aQ rfl rfl (by simp (disch := omega) only [go_sem, Nat.reduceEqDiff, ar, aP, hk1, hw1, hkl, hwl] <;> rfl)) ?_
  refine gv hF (aA rfl rfl rfl (by simp (disch := omega) only [go_sem, Nat.reduceEqDiff, ar, aP, hk1, hw1, hkl, hwl] <;> rfl)) ?_
  refine gv hF (aQ rfl rfl (by simp (disch := omega) only [go_sem, Nat.reduceEqDiff, ar, aP, hk1, hw1, hkl, hwl] <;> rfl)) ?_
  refine gv hF (aA rfl rfl rfl (by simp (disch := omega) only [go_sem, Nat.reduceEqDiff, ar, aP, hk1, hw1, hkl, hwl] <;> rfl)) ?_
  refine gv hF (aQ rfl rfl (by simp (disch := omega) only [go_sem, Nat.reduceEqDiff, ar, aP, hk1, hw1, hkl, hwl] <;> rfl)) ?_
  refine gv hF (aA rfl rfl rfl (by simp (disch := omega) only [go_sem, Nat.reduceEqDiff, ar, aP, hk1, hw1, hkl, hwl] <;> rfl)) ?_
  refine gv hF (aQ rfl rfl (by simp (disch := omega) only [go_sem, Nat.reduceEqDiff, ar, aP, hk1, hw1, hkl, hwl] <;> rfl)) ?_
  refine gv hF oM ?_
  refine gv hF (aq rfl rfl rfl (by first | exact iX _ _ _ _ _ _ | exact cR _ _ _ _ _ _ _)) ?_
  refine gv hF (aA rfl rfl rfl (by simp (disch := omega) only [go_sem, Nat.reduceEqDiff, ar, aP, hk1, hw1, hkl, hwl] <;> rfl)) ?_
  refine gv hF (aQ rfl rfl (by simp (disch := omega) only [go_sem, Nat.reduceEqDiff, ar, aP, hk1, hw1, hkl, hwl] <;> rfl)) ?_
  refine gv hF (aA rfl rfl rfl (by simp (disch := omega) only [go_sem, Nat.reduceEqDiff, ar, aP, hk1, hw1, hkl, hwl] <;> rfl)) ?_
  refine gv hF (aQ rfl rfl (by simp (disch := omega) only [go_sem, Nat.reduceEqDiff, ar, aP, hk1, hw1, hkl, hwl] <;> rfl)) ?_
  refine gv hF (aA rfl rfl rfl (by simp (disch := omega) only [go_sem, Nat.reduceEqDiff, ar, aP, hk1, hw1, hkl, hwl] <;> rfl)) ?_
  refine gv hF (aQ rfl rfl (by simp (disch := omega) only [go_sem, Nat.reduceEqDiff, ar, aP, hk1, hw1, hkl, hwl] <;> rfl)) ?_
  refine gv hF (iy rfl Tryd.underlying139 rfl (un _ _ _ _ _ _ _ _)) ?_
  refine SmG.store hF rfl rfl rfl rfl rfl (by simp (disch := omega) only [go_sem, Nat.reduceEqDiff, ar, aP, hk1, hw1, hkl, hwl] <;> rfl) ?_
  refine SmG.nil (ay (aa ?_))
  refine ab hF rfl ?_
  refine gv hF oM ?_
  refine gv hF (aq rfl rfl rfl (by first | exact gm _ _ _ _ _ (bK _ (by omega)) | exact cR _ _ _ _ _ _ _)) ?_
  refine gv hF oA (SmG.nil (aa ?_))
  exact ⟨⟨t + 1, by omega⟩, by show 64 - (t + 1) < 64 - t; omega, by exact cj (by first | (simp [leE, look, bd] <;> omega) | (simp [leE, look, bd, hrow, List.map_cons, List.map_nil] <;> omega)) (by simp only [leH, look, rep, reduceIte, Nat.reduceEqDiff, List.set_cons_zero, List.set_cons_succ, hrow, List.map_cons, List.map_nil, and_self, and_true, and_false, false_and, if_true, if_false] <;> (repeat' first | rfl | constructor)) (by first | exact Nat.le_refl _ | (dsimp only; omega))⟩
 ·obtain rfl : t = 64 := by omega
  have hcl : (Sha.rounds W S 64).list.length = 8 := rfl
  have hpl : (Sha.after S b).list = List.zipWith (· + ·) (Sha.rounds W S 64).list S.list := by rw [haf]; rfl
  generalize (Sha.rounds W S 64).list = C at hcl hpl ⊢
  generalize S.list = L at hSl hpl hSS ⊢
  refine Sm.seq (Sm.seq ?_)
  refine ab hF rfl ?_
  refine gv hF oM ?_
  refine gv hF (aq rfl rfl rfl (by first | exact bp _ _ _ _ _ (by omega) | exact br _ _ _ _ _ (by omega) | exact bF _ _ _ _ _ _ _)) ?_
  refine SmG.nil (aa ?_)
  refine ba hF rfl ?_
  refine Sm.exit ?_
  simp only [bT, cK, reduceIte, reduceCtorEq]
  refine Sm.seq (Sm.seq ?_)
  refine ab hF rfl ?_
  refine gv hF oA (SmG.nil (aa (Sm.block ?_)))
  refine Sm.loop (ι := {i : Nat // i ≤ 8}) (fun i => ⟨[(2, .ref 0 0 0), (4, .ref 1 0 0), (7, .ref 4 0 0), (11, .d (.v (.int .i64 i.1)))], [(4, dW 8 (jx C L i.1)), (1, dW 8 (List.replicate 8 0)), (0, dW 8 L)], 5⟩) (fun i => 8 - i.1) (⟨0, by omega⟩) ?_ ?_
  ·exact cj (by first | (simp [leE, look, bd] <;> omega) | (simp [leE, look, bd, q7] <;> omega)) (by simp only [leH, look, rep, reduceIte, Nat.reduceEqDiff, List.set_cons_zero, List.set_cons_succ, q7, and_self, and_true, and_false, false_and, if_true, if_false] <;> (repeat' first | rfl | constructor)) (by first | exact Nat.le_refl _ | (dsimp only; omega))
  rintro ⟨i, hi⟩
  simp only
  by_cases hlt : i < 8
  ·have h1 := xT C L i (by omega) (by omega)
   have h2 := iz L i (by omega)
   have hst := rZ (jx C L i) i (C.getD i 0 + L.getD i 0)
   rw [wI C L i (by omega) (by omega)] at hst
   generalize C.getD i 0 = x at h1 hst
   generalize L.getD i 0 = y at h2 hst
   refine Sm.seq (Sm.seq ?_)
   refine ab hF rfl ?_
   refine gv hF oM ?_
   refine gv hF (aq rfl rfl rfl (by first | exact bp _ _ _ _ _ (by omega) | exact br _ _ _ _ _ (by omega) | exact bF _ _ _ _ _ _ _)) ?_
   refine SmG.nil (aa ?_)
   refine aW hF rfl ?_
   refine Sm.skip ?_
   refine aa (Sm.seq (Sm.block ?_))
   refine eP hF (by kernel_rfl) rfl 8 (by kernel_rfl) (by kernel_rfl) ?_
   simp only [List.take_succ_cons, List.take_zero, List.take_nil]
   refine hv hF oM ?_
   refine hv hF (aA rfl rfl rfl (by simp (disch := omega) only [go_sem, Nat.reduceEqDiff, ar, aP, h1, h2] <;> rfl)) ?_
   refine hv hF (aQ rfl rfl (by simp (disch := omega) only [go_sem, Nat.reduceEqDiff, ar, aP, h1, h2] <;> rfl)) ?_
   refine hv hF oM ?_
   refine hv hF (aA rfl rfl rfl (by simp (disch := omega) only [go_sem, Nat.reduceEqDiff, ar, aP, h1, h2] <;> rfl)) ?_
   refine hv hF (aQ rfl rfl (by simp (disch := omega) only [go_sem, Nat.reduceEqDiff, ar, aP, h1, h2] <;> rfl)) ?_
   refine hv hF (aq rfl rfl rfl (by first | exact iX _ _ _ _ _ _ | exact cR _ _ _ _ _ _ _)) ?_
   refine hv hF (aA rfl rfl rfl (by simp (disch := omega) only [go_sem, Nat.reduceEqDiff, ar, aP, h1, h2] <;> rfl)) ?_
   refine aD.last ⟨rfl, ?_⟩
   simp only [List.drop_succ_cons, List.drop_zero, List.drop_nil, List.nil_append, List.cons_append]
   refine SmG.store hF rfl rfl rfl rfl rfl (by simp (disch := omega) only [go_sem, Nat.reduceEqDiff, ar, aP, h1, h2] <;> rfl) ?_
   refine SmG.nil (ay (aa ?_))
   refine ab hF rfl ?_
   refine gv hF oM ?_
   refine gv hF (aq rfl rfl rfl (by first | exact gm _ _ _ _ _ (bK _ (by omega)) | exact cR _ _ _ _ _ _ _)) ?_
   refine gv hF oA (SmG.nil (aa ?_))
   exact ⟨⟨i + 1, by omega⟩, by show 8 - (i + 1) < 8 - i; omega, by exact cj (by first | (simp [leE, look, bd] <;> omega) | (simp [leE, look, bd, hst] <;> omega)) (by simp only [leH, look, rep, reduceIte, Nat.reduceEqDiff, List.set_cons_zero, List.set_cons_succ, hst, and_self, and_true, and_false, false_and, if_true, if_false] <;> (repeat' first | rfl | constructor)) (by first | exact Nat.le_refl _ | (dsimp only; omega))⟩
  ·obtain rfl : i = 8 := by omega
   have hall := yc C L (by omega)
   rw [hcl] at hall
   have hll : (List.map aP (jx C L 8)).length = 8 := by rw [hall]; simp [hcl, hSl]
   refine Sm.seq (Sm.seq ?_)
   refine ab hF rfl ?_
   refine gv hF oM ?_
   refine gv hF (aq rfl rfl rfl (by first | exact bp _ _ _ _ _ (by omega) | exact br _ _ _ _ _ (by omega) | exact bF _ _ _ _ _ _ _)) ?_
   refine SmG.nil (aa ?_)
   refine ba hF rfl ?_
   refine Sm.exit ?_
   simp only [bT, cK, reduceIte, reduceCtorEq]
   refine Sm.seq ?_
   refine ab hF rfl ?_
   refine gv hF (aQ rfl rfl (by simp (disch := omega) only [go_sem, Nat.reduceEqDiff, ar, aP, hll] <;> rfl)) ?_
   refine SmG.store hF rfl rfl rfl rfl rfl (by simp (disch := omega) only [go_sem, Nat.reduceEqDiff, ar, aP, hll] <;> rfl) ?_
   refine SmG.nil (aa (Sm.ret ?_))
   refine iu rfl rfl (by simp (disch := omega) only [go_sem, Nat.reduceEqDiff, ar, hll] <;> rfl) ?_
   rw [hall, ← hpl]; exact D.le.refl _
end
section
open Go.RowKit
set_option maxRecDepth 100000
theorem vp {P : Program} {s d : TypeId} {td : TypeDesc} {k2 : IntKind} (z : Nat) (h1 : P.underlying s = some td) (h2 : P.underlying d = some (.int .u8)) : gU P s d (.d (.v (.int k2 (z : Int)))) = some (.d (dJ (UInt8.ofNat z))) := by
 simp only [gU, te P .u8 z s d h1 h2 k2, Option.map_some, dJ]
 have : IntKind.u8.wrap (z : Int) = ((UInt8.ofNat z).toNat : Int) := by
  rw [IntKind.wrap_u8']
  simp
 rw [this]
theorem qn (l : List UInt8) (b : UInt8) : List.map aJ l ++ [[dJ b]] = List.map aJ (l ++ [b]) := by simp [aJ]
theorem xM (n i : Nat) (h : i < 8) : (Sha.lenBytes n).take i ++ [UInt8.ofNat (8 * n / 2 ^ (56 - 8 * i))] = (Sha.lenBytes n).take (i + 1) := (Sha.lenBytes_take n i h).symm
theorem Cx (P : Program) (t : TypeId) (x y : Operand) (a n : Nat) {b : Int} (k2 : IntKind) (hb : b = (n : Int)) (hn : n ≤ 64) : a8 P (do eqGuard .shr t x y (.int .u64 a) (.int k2 b); binOp .shr t (.int .u64 a) (.int k2 b)) = some (.int .u64 ((a / 2 ^ n : Nat) : Int)) := by
 rw [uh P t x y .u64 a b k2 (by omega)]
 subst hb
 have : min ((n : Int).toNat) IntKind.u64.bits = n := by show min _ 64 = n; omega
 rw [this, Int.fdiv_eq_ediv_of_nonneg _ (Int.le_of_lt (Int.pow_pos (by omega)))]
 norm_cast
theorem y4 (b : List UInt8) (hb : b.length ≤ 1000000) (G : Nat → Option D) : aj Tryd.prog G 76 [bh b] (bh (Sha.padded b)) := by
 have hpad : Sha.padded b = b ++ [128] ++ List.replicate (Sha.zeros b.length) 0 ++ Sha.lenBytes b.length := rfl
 have hz : Sha.zeros b.length < 64 := by unfold Sha.zeros; omega
 have hzt := fun j => Sha.zeros_test b.length j
 have hze := Sha.zeros_end b.length
 generalize Sha.zeros b.length = z at hpad hz hzt hze
 refine aj.of Tryd.func76 rfl Tryd.ntmps76 (by simp) ?_; intro F hF h0 hT; simp only [List.zipIdx_cons, List.zipIdx_nil, List.map_cons, List.map_nil, Nat.zero_add, Nat.reduceAdd]
 refine Sm.seq ?_
 refine ab hF rfl ?_
 refine gv hF oA (SmG.nil (aa (Sm.seq ?_)))
 refine ab hF rfl ?_
 refine gv hF (cE rfl rfl (by simp (disch := omega) only [go_sem, Nat.reduceEqDiff, ar, bh, aJ] <;> rfl)) ?_
 refine gv hF oM ?_
 refine SmG.appendFresh hF lg rfl rfl rfl rfl rfl rfl (Or.inl rfl) (by simp only [List.length_map]; omega) (by simp only [List.length_map]; omega) ?_
 refine gv hF oA (SmG.nil (aa (Sm.seq ?_)))
 refine ab hF rfl ?_
 refine gv hF oM ?_
 refine gv hF (cE rfl rfl (by simp (disch := omega) only [go_sem, Nat.reduceEqDiff, ar, bh, aJ] <;> rfl)) ?_
 refine SmG.appendOwn hF lg rfl rfl rfl rfl rfl rfl rfl (by first | rfl | (simp; done) | (simp; omega)) (Or.inl rfl) (by (repeat' first | exact bm _ | refine bf ?_ | refine ap ?_ (aM _ _ _) | refine ap ?_ (aM _ _ [_]) | refine ap ?_ (bB (by rfl)))) ?_ ?_ ?_; rotate_left; rotate_left; simp only [gg, Pk.v, V.free, rep, bne_self_eq_false, Nat.reduceAdd, Nat.reduceBNe, Nat.reduceBEq, Nat.reduceEqDiff, reduceIte, Bool.false_eq_true]
 rotate_left
 ·simp only [List.length_map, List.length_cons, List.length_nil]; omega
 ·simp only [List.length_map, List.length_cons, List.length_nil]; omega
 refine gv hF oA (SmG.nil (aa (Sm.seq (Sm.block ?_))))
 refine Sm.loop (ι := {j : Nat // j ≤ z}) (fun j => ⟨[(0, .d (bh b)), (3, .sref 0 0 ((b ++ [128] ++ List.replicate j.1 0).map aJ).length)], [(0, dB 1 ((b ++ [128] ++ List.replicate j.1 0).map aJ))], 1⟩) (fun j => z - j.1) (⟨0, by omega⟩) ?_ ?_
 ·have h0 : List.map aJ b ++ [[D.v (.int .u8 128)]] = List.map aJ (b ++ [128] ++ List.replicate 0 0) := by
   rw [List.replicate_zero, List.append_nil, ← qn]; rfl
  exact cj (by first | (simp [leE, look, bd] <;> omega) | (simp [leE, look, bd, h0] <;> omega)) (by simp only [leH, look, rep, reduceIte, Nat.reduceEqDiff, List.set_cons_zero, List.set_cons_succ, h0, and_self, and_true, and_false, false_and, if_true, if_false] <;> (repeat' first | rfl | constructor)) (by first | exact Nat.le_refl _ | (dsimp only; omega))
 rintro ⟨j, hj⟩
 simp only
 by_cases hlt : j < z
 ·have hzj := hzt j hlt
  have hrow : List.map aJ (b ++ [128] ++ List.replicate j 0) ++ [[D.v (.int .u8 0)]] = List.map aJ (b ++ [128] ++ List.replicate (j + 1) 0) := by
   rw [List.replicate_succ', ← List.append_assoc, ← qn]; rfl
  refine Sm.seq (Sm.seq ?_)
  refine ab hF rfl ?_
  refine gv hF oM ?_
  refine gv hF (bk rfl rfl (by simp (disch := omega) only [go_sem, Nat.reduceEqDiff, ar, bh, aJ, List.length_append, List.length_cons, List.length_nil, List.length_replicate] <;> rfl)) ?_
  refine gv hF (aq rfl rfl rfl (by first | exact gm _ _ _ _ _ (bK _ (by omega)) | exact cR _ _ _ _ _ _ _)) ?_
  refine gv hF (aq rfl rfl rfl (by first | exact tJ _ _ _ _ _ (by omega) (by omega) | exact oJ _ _ _ _ _ _ _ (by omega))) ?_
  refine gv hF (aq rfl rfl rfl (by first | exact kp _ _ _ _ _ (by omega) | exact kc _ _ _ _ _ (by omega) | exact jn _ _ _ _ _ _ _)) ?_
  refine SmG.nil (aa ?_)
  refine aW hF rfl ?_
  refine Sm.skip ?_
  refine aa (Sm.block ?_)
  refine ab hF rfl ?_
  refine gv hF oM ?_
  refine gv hF (cE rfl rfl (by simp (disch := omega) only [go_sem, Nat.reduceEqDiff, ar, bh, aJ, List.length_append, List.length_cons, List.length_nil, List.length_replicate] <;> rfl)) ?_
  refine SmG.appendOwn hF lg rfl rfl rfl rfl rfl rfl rfl (by first | rfl | (simp; done) | (simp; omega)) (Or.inl rfl) (by (repeat' first | exact bm _ | refine bf ?_ | refine ap ?_ (aM _ _ _) | refine ap ?_ (aM _ _ [_]) | refine ap ?_ (bB (by rfl)))) ?_ ?_ ?_; rotate_left; rotate_left; simp only [gg, Pk.v, V.free, rep, bne_self_eq_false, Nat.reduceAdd, Nat.reduceBNe, Nat.reduceBEq, Nat.reduceEqDiff, reduceIte, Bool.false_eq_true]
  rotate_left
  ·simp only [List.length_map, List.length_append, List.length_cons, List.length_nil, List.length_replicate]; omega
  ·simp only [List.length_map, List.length_append, List.length_cons, List.length_nil, List.length_replicate]; omega
  refine gv hF oA (SmG.nil (ay (aa ?_)))
  exact ⟨⟨j + 1, by omega⟩, by show z - (j + 1) < z - j; omega, by exact cj (by first | (simp [leE, look, bd] <;> omega) | (simp [leE, look, bd, hrow] <;> omega)) (by simp only [leH, look, rep, reduceIte, Nat.reduceEqDiff, List.set_cons_zero, List.set_cons_succ, hrow, and_self, and_true, and_false, false_and, if_true, if_false] <;> (repeat' first | rfl | constructor)) (by first | exact Nat.le_refl _ | (dsimp only; omega))⟩
 ·obtain rfl : j = z := by omega
  refine Sm.seq (Sm.seq ?_)
  refine ab hF rfl ?_
  refine gv hF oM ?_
  refine gv hF (bk rfl rfl (by simp (disch := omega) only [go_sem, Nat.reduceEqDiff, ar, bh, aJ, List.length_append, List.length_cons, List.length_nil, List.length_replicate] <;> rfl)) ?_
  refine gv hF (aq rfl rfl rfl (by first | exact gm _ _ _ _ _ (bK _ (by omega)) | exact cR _ _ _ _ _ _ _)) ?_
  refine gv hF (aq rfl rfl rfl (by first | exact tJ _ _ _ _ _ (by omega) (by omega) | exact oJ _ _ _ _ _ _ _ (by omega))) ?_
  refine gv hF (aq rfl rfl rfl (by first | exact kp _ _ _ _ _ (by omega) | exact kc _ _ _ _ _ (by omega) | exact jn _ _ _ _ _ _ _)) ?_
  refine SmG.nil (aa ?_)
  refine ba hF rfl ?_
  refine Sm.exit ?_
  simp only [bT, cK, reduceIte, reduceCtorEq]
  refine Sm.seq ?_
  refine ab hF rfl ?_
  refine gv hF oM ?_
  refine gv hF (bk rfl rfl (by simp (disch := omega) only [go_sem, Nat.reduceEqDiff, ar, bh, aJ, List.length_append, List.length_cons, List.length_nil, List.length_replicate] <;> rfl)) ?_
  refine gv hF (lZ rfl rfl (by first | exact eC rfl rfl (uW _ (by omega)) | (simp (disch := omega) only [go_sem, bh, aJ, List.length_append, List.length_cons, List.length_nil, List.length_replicate] <;> rfl))) ?_
  refine gv hF (aq rfl rfl rfl (by first | exact lT _ _ _ _ _ (uW _ (by omega)) | exact jP _ _ _ _ _ _ _)) ?_
  refine gv hF oA (SmG.nil (aa (Sm.seq (Sm.seq ?_))))
  refine ab hF rfl ?_
  refine gv hF oA (SmG.nil (aa (Sm.block ?_)))
  refine Sm.loop (ι := {i : Nat // i ≤ 8}) (fun i => ⟨[(3, .sref 0 0 ((b ++ [128] ++ List.replicate j 0 ++ (Sha.lenBytes b.length).take i.1).map aJ).length), (4, .d (.v (.int .u64 ((8 * b.length : Nat) : Int)))), (5, .d (.v (.int .i64 i.1)))], [(0, dB 1 ((b ++ [128] ++ List.replicate j 0 ++ (Sha.lenBytes b.length).take i.1).map aJ))], 1⟩) (fun i => 8 - i.1) (⟨0, by omega⟩) ?_ ?_
  ·exact cj (by first | (simp [leE, look, bd] <;> omega) | (simp [leE, look, bd, List.take_zero, List.append_nil] <;> omega)) (by simp only [leH, look, rep, reduceIte, Nat.reduceEqDiff, List.set_cons_zero, List.set_cons_succ, List.take_zero, List.append_nil, and_self, and_true, and_false, false_and, if_true, if_false] <;> (repeat' first | rfl | constructor)) (by first | exact Nat.le_refl _ | (dsimp only; omega))
  rintro ⟨i, hi⟩
  simp only
  have hll : (Sha.lenBytes b.length).length = 8 := by simp [Sha.lenBytes]
  by_cases hlt : i < 8
  ·have hrow : List.map aJ (b ++ [128] ++ List.replicate j 0 ++ (Sha.lenBytes b.length).take i) ++ [[D.v (.int .u8 ((UInt8.ofNat (8 * b.length / 2 ^ (56 - 8 * i))).toNat : Int))]] = List.map aJ (b ++ [128] ++ List.replicate j 0 ++ (Sha.lenBytes b.length).take (i + 1)) := by
    show _ ++ [[dJ _]] = _
    rw [qn, List.append_assoc, xM _ _ hlt]
   refine Sm.seq (Sm.seq ?_)
   refine ab hF rfl ?_
   refine gv hF oM ?_
   refine gv hF (aq rfl rfl rfl (by first | exact bp _ _ _ _ _ (by omega) | exact br _ _ _ _ _ (by omega) | exact bF _ _ _ _ _ _ _)) ?_
   refine SmG.nil (aa ?_)
   refine aW hF rfl ?_
   refine Sm.skip ?_
   refine aa (Sm.seq (Sm.block ?_))
   refine ab hF rfl ?_
   refine gv hF oM (gv hF oM (gv hF oM ?_))
   refine gv hF (aq rfl rfl rfl (by first | exact lT _ _ _ _ _ (bK _ (by omega)) | exact jP _ _ _ _ _ _ _)) ?_
   refine gv hF (aq rfl rfl rfl (by first | exact iE _ _ _ _ _ (bK _ (by omega)) | exact gP _ _ _ _ _ _ _)) ?_
   refine gv hF (aq rfl rfl rfl (Cx _ _ _ _ (8 * b.length) (56 - 8 * i) _ (by omega) (by omega))) ?_
   refine gv hF (lZ rfl rfl (vp _ Tryd.underlying147 Tryd.underlying5)) ?_
   refine gv hF (cE rfl rfl (by simp (disch := omega) only [go_sem, Nat.reduceEqDiff, ar, bh, aJ, List.length_append, List.length_cons, List.length_nil, List.length_replicate] <;> rfl)) ?_
   refine SmG.appendOwn hF lg rfl rfl rfl rfl rfl rfl rfl (by first | rfl | (simp; done) | (simp; omega)) (Or.inl rfl) (by (repeat' first | exact bm _ | refine bf ?_ | refine ap ?_ (aM _ _ _) | refine ap ?_ (aM _ _ [_]) | refine ap ?_ (bB (by rfl)))) ?_ ?_ ?_; rotate_left; rotate_left; simp only [gg, Pk.v, V.free, rep, bne_self_eq_false, Nat.reduceAdd, Nat.reduceBNe, Nat.reduceBEq, Nat.reduceEqDiff, reduceIte, Bool.false_eq_true]
   rotate_left
   ·simp only [List.length_map, List.length_append, List.length_cons, List.length_nil, List.length_replicate, List.length_take]; omega
   ·simp only [List.length_map, List.length_append, List.length_cons, List.length_nil, List.length_replicate, List.length_take]; omega
   refine gv hF oA (SmG.nil (ay (aa ?_)))
   refine ab hF rfl ?_
   refine gv hF oM ?_
   refine gv hF (aq rfl rfl rfl (by first | exact gm _ _ _ _ _ (bK _ (by omega)) | exact cR _ _ _ _ _ _ _)) ?_
   refine gv hF oA (SmG.nil (aa ?_))
   exact ⟨⟨i + 1, by omega⟩, by show 8 - (i + 1) < 8 - i; omega, by exact cj (by first | (simp [leE, look, bd] <;> omega) | (simp [leE, look, bd, hrow] <;> omega)) (by simp only [leH, look, rep, reduceIte, Nat.reduceEqDiff, List.set_cons_zero, List.set_cons_succ, hrow, and_self, and_true, and_false, false_and, if_true, if_false] <;> (repeat' first | rfl | constructor)) (by first | exact Nat.le_refl _ | (dsimp only; omega))⟩
  ·obtain rfl : i = 8 := by omega
   refine Sm.seq (Sm.seq ?_)
   refine ab hF rfl ?_
   refine gv hF oM ?_
   refine gv hF (aq rfl rfl rfl (by first | exact bp _ _ _ _ _ (by omega) | exact br _ _ _ _ _ (by omega) | exact bF _ _ _ _ _ _ _)) ?_
   refine SmG.nil (aa ?_)
   refine ba hF rfl ?_
   refine Sm.freeze (l := 0) _ rfl ?_
   simp only [Pk.v, j6, fg, gR,  reduceIte, Nat.reduceAdd, Nat.zero_add, List.length_map, List.length_append, Nat.le_refl, true_and, and_self, if_true, Nat.reduceEqDiff, true_and]
   refine Sm.exit ?_
   simp only [bT, cK, reduceIte, reduceCtorEq]
   refine Sm.seq ?_
   refine ab hF rfl ?_
   refine gv hF oM (gv hF oA (SmG.nil (aa (Sm.ret ?_))))
   refine ⟨_, rfl, ?_⟩; dsimp only
   rw [List.take_of_length_le (by omega), ← hpad]; exact D.le.refl _
theorem xk (all : List UInt8) (j : Nat) : List.drop (64 * j) (List.map aJ (List.take (64 * j + 64) all)) = List.map aJ ((all.drop (64 * j)).take 64) := by
 rw [← List.map_drop, List.drop_take]; congr 2; omega
theorem zw (S : Sha.S8) (k : Nat) (h : k ≤ 32) : ((Sha.out S).take k ++ List.replicate (32 - k) 0).length = 32 := by
 simp [Sha.out_length]; omega
theorem lV (b : List UInt8) (hb : b.length ≤ 1000000) (G : Nat → Option D) : aj Tryd.prog G 52 [bh b] (aY (Sha.sum b)) := by
 have hmod := Sha.padded_mod b
 have hplen := Sha.padded_length b
 have hz : Sha.zeros b.length < 64 := by unfold Sha.zeros; omega
 have hS : Sha.sum b = Sha.out (Sha.over (Sha.padded b) ((Sha.padded b).length / 64)) := rfl
 refine aj.of Tryd.func52 rfl Tryd.ntmps52 (by simp) ?_; intro F hF h0 hT; simp only [List.zipIdx_cons, List.zipIdx_nil, List.map_cons, List.map_nil, Nat.zero_add, Nat.reduceAdd]
 refine Sm.seq ?_
 refine ab hF rfl ?_
 refine SmG.new hF rfl rfl rfl (aI rfl kw) ?_
 refine SmG.nil (aa (Sm.seq ?_))
 refine ab hF rfl ?_
 refine gv hF oM ?_
 refine SmG.call hF rfl rfl (by kernel_rfl) rfl rfl rfl (y4 b hb G) ?_
 refine gv hF oA (SmG.nil (aa (Sm.seq ?_)))
 refine ab hF rfl ?_
 refine SmG.call hF rfl rfl (by kernel_rfl) rfl rfl rfl (zu G) ?_
 refine SmG.new hF rfl rfl rfl (aI rfl sJ) ?_
 refine SmG.store hF rfl rfl rfl rfl rfl (by simp (disch := omega) only [go_sem, Nat.reduceEqDiff, ar, aP, aY] <;> rfl) ?_
 refine SmG.nil (aa (Sm.seq (Sm.seq ?_)))
 refine ab hF rfl ?_
 refine gv hF oA (SmG.nil (aa (Sm.block ?_)))
 generalize Sha.padded b = all at hmod hplen hS ⊢
 generalize hm : all.length / 64 = m at hmod hS
 refine Sm.loop (ι := {j : Nat // j ≤ m}) (fun j => ⟨[(2, .ref 0 0 0), (3, .d (bh all)), (4, .ref 1 0 0), (5, .d (.v (.int .i64 ((64 * j.1 : Nat) : Int))))], [(1, dW 8 (Sha.over all j.1).list), (0, dB 32 [aK (List.replicate 32 0)])], 2⟩) (fun j => m - j.1) (⟨0, by omega⟩) ?_ ?_
 ·exact cj (by first | (simp [leE, look, bd] <;> omega) | (simp [leE, look, bd, true_and] <;> omega)) (by simp only [leH, look, rep, reduceIte, Nat.reduceEqDiff, List.set_cons_zero, List.set_cons_succ, true_and, and_self, and_true, and_false, false_and, if_true, if_false] <;> (repeat' first | rfl | constructor)) (by first | exact Nat.le_refl _ | (dsimp only; omega))
 rintro ⟨j, hj⟩
 simp only
 by_cases hlt : j < m
 ·have c1 := Bj (Sha.over all j) ((all.drop (64 * j)).take 64) (by rw [List.length_take, List.length_drop]; omega) G
  have hcm := xk all j
  have hle : 64 * j ≤ 64 * j + 64 := by omega
  have hle2 : 64 * j + 64 ≤ all.length := by omega
  have hcast : (((64 * j : Nat) : Int) + 64).toNat = 64 * j + 64 := by omega
  have hov : Sha.over all (j + 1) = Sha.after (Sha.over all j) ((all.drop (64 * j)).take 64) := rfl
  have hl8 : (Sha.over all j).list.length = 8 := rfl
  refine Sm.seq (Sm.seq ?_)
  refine ab hF rfl ?_
  refine gv hF oM (gv hF oM ?_)
  refine gv hF (bk rfl rfl (by simp (disch := omega) only [go_sem, Nat.reduceEqDiff, ar, bh, hcm, hcast, hle, hle2, bP, hl8] <;> rfl)) ?_
  refine gv hF (aq rfl rfl rfl (by first | exact bp _ _ _ _ _ (by omega) | exact br _ _ _ _ _ (by omega) | exact bF _ _ _ _ _ _ _)) ?_
  refine SmG.nil (aa ?_)
  refine aW hF rfl ?_
  refine Sm.skip ?_
  refine aa (Sm.seq (Sm.block ?_))
  refine eP hF (by kernel_rfl) rfl 7 (by kernel_rfl) (by kernel_rfl) ?_
  simp only [List.take_succ_cons, List.take_zero, List.take_nil]
  refine hv hF (aQ rfl rfl (by simp (disch := omega) only [go_sem, Nat.reduceEqDiff, ar, bh, hcm, hcast, hle, hle2, bP, hl8] <;> rfl)) ?_
  refine hv hF oM (hv hF oM (hv hF oM ?_))
  refine hv hF (aq rfl rfl rfl (by first | exact gm _ _ _ _ _ (bK _ (by omega)) | exact cR _ _ _ _ _ _ _)) ?_
  refine hv hF (eZ rfl rfl rfl rfl rfl (by simp (disch := omega) only [go_sem, Nat.reduceEqDiff, ar, bh, hcm, hcast, hle, hle2, bP, hl8] <;> rfl)) ?_
  refine aD.c hF rfl rfl (by kernel_rfl) rfl rfl rfl (c1) ?_
  refine aD.last ⟨rfl, ?_⟩
  simp only [List.drop_succ_cons, List.drop_zero, List.drop_nil, List.nil_append, List.cons_append]
  refine SmG.store hF rfl rfl rfl rfl rfl (by simp (disch := omega) only [go_sem, Nat.reduceEqDiff, ar, bh, hcm, hcast, hle, hle2, bP, hl8] <;> rfl) ?_
  refine SmG.nil (ay (aa ?_))
  refine ab hF rfl ?_
  refine gv hF oM ?_
  refine gv hF (aq rfl rfl rfl (by first | exact gm _ _ _ _ _ (bK _ (by omega)) | exact cR _ _ _ _ _ _ _)) ?_
  refine gv hF oA (SmG.nil (aa ?_))
  exact ⟨⟨j + 1, by omega⟩, by show m - (j + 1) < m - j; omega, by exact cj (by first | (simp [leE, look, bd] <;> omega) | (simp [leE, look, bd, hov] <;> omega)) (by simp only [leH, look, rep, reduceIte, Nat.reduceEqDiff, List.set_cons_zero, List.set_cons_succ, hov, and_self, and_true, and_false, false_and, if_true, if_false] <;> (repeat' first | rfl | constructor)) (by first | exact Nat.le_refl _ | (dsimp only; omega))⟩
 ·obtain rfl : j = m := by omega
  generalize Sha.over all j = S at hS ⊢
  refine Sm.seq (Sm.seq ?_)
  refine ab hF rfl ?_
  refine gv hF oM (gv hF oM ?_)
  refine gv hF (bk rfl rfl (by simp (disch := omega) only [go_sem, Nat.reduceEqDiff, ar, bh] <;> rfl)) ?_
  refine gv hF (aq rfl rfl rfl (by first | exact bp _ _ _ _ _ (by omega) | exact br _ _ _ _ _ (by omega) | exact bF _ _ _ _ _ _ _)) ?_
  refine SmG.nil (aa ?_)
  refine ba hF rfl ?_
  refine Sm.exit ?_
  simp only [bT, cK, reduceIte, reduceCtorEq]
  refine Sm.seq ?_
  refine ab hF rfl ?_
  refine gv hF (iy rfl Tryd.underlying47 rfl AE) ?_
  refine SmG.new hF rfl rfl rfl (aI rfl kw) ?_
  refine SmG.store hF rfl rfl rfl rfl rfl (by simp (disch := omega) only [go_sem, Nat.reduceEqDiff, ar, bh] <;> rfl) ?_
  refine SmG.nil (aa (Sm.seq (Sm.seq ?_)))
  refine ab hF rfl ?_
  refine gv hF oA (SmG.nil (aa (Sm.block ?_)))
  refine Sm.loop (ι := {k : Nat // k ≤ 32}) (fun k => ⟨[(2, .ref 0 0 0), (4, .ref 1 0 0), (6, .ref 2 0 0), (7, .d (.v (.int .i64 k.1)))], [(2, dB 32 [aK ((Sha.out S).take k.1 ++ List.replicate (32 - k.1) 0)]), (1, dW 8 S.list), (0, dB 32 [aK (List.replicate 32 0)])], 3⟩) (fun k => 32 - k.1) (⟨0, by omega⟩) ?_ ?_
  ·exact cj (by first | (simp [leE, look, bd] <;> omega) | (simp [leE, look, bd, List.take_zero, List.nil_append] <;> omega)) (by simp only [leH, look, rep, reduceIte, Nat.reduceEqDiff, List.set_cons_zero, List.set_cons_succ, List.take_zero, List.nil_append, and_self, and_true, and_false, false_and, if_true, if_false] <;> (repeat' first | rfl | constructor)) (by first | exact Nat.le_refl _ | (dsimp only; omega))
  rintro ⟨k, hk⟩
  simp only
  have hl8 : S.list.length = 8 := rfl
  by_cases hlt : k < 32
  ·have hg := iz S.list (k / 4) (by omega)
   have hset := Sha.out_set S k hlt
   have hsh : ∀ (x : UInt32) (n : Nat), (Sha.shr x n).toNat = x.toNat / 2 ^ n := fun x n => Nat.mod_eq_of_lt (Nat.lt_of_le_of_lt (Nat.div_le_self _ _) x.toNat_lt)
   generalize S.list.getD (k / 4) 0 = x at hg hset
   have hcast : ((k : Int) / 4).toNat = k / 4 := by omega
   have hst : (List.map V.d (aK ((Sha.out S).take k ++ List.replicate (32 - k) 0))).set k (.d (.v (.int .u8 ((UInt8.ofNat (Sha.shr x (24 - 8 * (k % 4))).toNat).toNat : Int)))) = List.map V.d (aK ((Sha.out S).take (k + 1) ++ List.replicate (32 - (k + 1)) 0)) := by
    rw [← hset, hsh]
    simp only [aK, List.map_set, dJ]
   refine Sm.seq (Sm.seq ?_)
   refine ab hF rfl ?_
   refine gv hF oM ?_
   refine gv hF (aq rfl rfl rfl (by first | exact bp _ _ _ _ _ (by omega) | exact br _ _ _ _ _ (by omega) | exact bF _ _ _ _ _ _ _)) ?_
   refine SmG.nil (aa ?_)
   refine aW hF rfl ?_
   refine Sm.skip ?_
   refine aa (Sm.seq (Sm.block ?_))
   refine ab hF rfl ?_
   refine gv hF oM (gv hF oM ?_)
   refine gv hF (aq rfl rfl rfl (by first | exact Aq _ _ _ _ (by omega) (by omega) | exact tj _ _ _ _ _ _ _ (by omega))) ?_
   refine gv hF (aA rfl rfl rfl (by simp (disch := omega) only [go_sem, Nat.reduceEqDiff, ar, aP, hg, hcast, dJ, hl8] <;> rfl)) ?_
   refine gv hF (aQ rfl rfl (by simp (disch := omega) only [go_sem, Nat.reduceEqDiff, ar, aP, hg, hcast, dJ, hl8] <;> rfl)) ?_
   refine gv hF oM ?_
   refine gv hF (aq rfl rfl rfl (by first | exact tJ _ _ _ _ _ (by omega) (by omega) | exact oJ _ _ _ _ _ _ _ (by omega))) ?_
   refine gv hF (aq rfl rfl rfl (by first | exact lT _ _ _ _ _ (bK _ (by omega)) | exact jP _ _ _ _ _ _ _)) ?_
   refine gv hF (aq rfl rfl rfl (by first | exact iE _ _ _ _ _ (bK _ (by omega)) | exact gP _ _ _ _ _ _ _)) ?_
   refine gv hF (aq rfl rfl rfl (sQ _ _ _ _ (24 - 8 * (k % 4)) _ (by omega) (by omega) x)) ?_
   refine gv hF (lZ rfl rfl (vp _ Tryd.underlying68 Tryd.underlying5)) ?_
   refine gv hF (aA rfl rfl rfl (by simp (disch := omega) only [go_sem, Nat.reduceEqDiff, ar, aP, hg, hcast, dJ, hl8] <;> rfl)) ?_
   refine SmG.store hF rfl rfl rfl rfl rfl (by simp (disch := omega) only [go_sem, Nat.reduceEqDiff, ar, aP, hg, hcast, dJ, hl8] <;> rfl) ?_
   refine SmG.nil (ay (aa ?_))
   refine ab hF rfl ?_
   refine gv hF oM ?_
   refine gv hF (aq rfl rfl rfl (by first | exact gm _ _ _ _ _ (bK _ (by omega)) | exact cR _ _ _ _ _ _ _)) ?_
   refine gv hF oA (SmG.nil (aa ?_))
   exact ⟨⟨k + 1, by omega⟩, by show 32 - (k + 1) < 32 - k; omega, by exact cj (by first | (simp [leE, look, bd] <;> omega) | (simp [leE, look, bd, hst] <;> omega)) (by simp only [leH, look, rep, reduceIte, Nat.reduceEqDiff, List.set_cons_zero, List.set_cons_succ, hst, and_self, and_true, and_false, false_and, if_true, if_false] <;> (repeat' first | rfl | constructor)) (by first | exact Nat.le_refl _ | (dsimp only; omega))⟩
  ·obtain rfl : k = 32 := by omega
   have hll : (aK ((Sha.out S).take 32 ++ List.replicate (32 - 32) 0)).length = 32 := by rw [aK, List.length_map, zw S 32 (by omega)]
   refine Sm.seq (Sm.seq ?_)
   refine ab hF rfl ?_
   refine gv hF oM ?_
   refine gv hF (aq rfl rfl rfl (by first | exact bp _ _ _ _ _ (by omega) | exact br _ _ _ _ _ (by omega) | exact bF _ _ _ _ _ _ _)) ?_
   refine SmG.nil (aa ?_)
   refine ba hF rfl ?_
   refine Sm.exit ?_
   simp only [bT, cK, reduceIte, reduceCtorEq]
   refine Sm.seq ?_
   refine ab hF rfl ?_
   refine gv hF (aQ rfl rfl (by simp (disch := omega) only [go_sem, Nat.reduceEqDiff, ar, hll] <;> rfl)) ?_
   refine SmG.store hF rfl rfl rfl rfl rfl (by simp (disch := omega) only [go_sem, Nat.reduceEqDiff, ar, hll] <;> rfl) ?_
   refine SmG.nil (aa (Sm.ret ?_))
   refine iu rfl rfl (by simp (disch := omega) only [go_sem, Nat.reduceEqDiff, ar, hll] <;> rfl) ?_
   rw [hS, List.take_of_length_le (by rw [Sha.out_length]; omega), List.append_nil]
   exact D.le.refl _
end
section
open Go.RowKit
set_option maxRecDepth 100000
theorem tX : ((1 : Nat) = 0) = False := by simp
theorem Bf {α : Type} {f : α → List D} {l : List α} (z : List D) (h : 0 < l.length) : List.map f l ≠ [] := by intro e; rw [List.map_eq_nil_iff] at e; subst e; simp at h
theorem tK (l : List (List UInt8)) (x : List UInt8) : List.map bq l ++ [[bh x]] = List.map bq (l ++ [x]) := by simp [bq]
theorem rV (l : List UInt8) : (aK l).map (fun d => [d]) = l.map aJ := by simp [aK, aJ, Function.comp_def]
theorem pP (b : List UInt8) (hb : b.length ≤ 900000) (G : Nat → Option D) : aj Tryd.prog G 56 [bh b] (bh (0 :: b)) := by
 refine aj.of Tryd.func56 rfl Tryd.ntmps56 (by simp) ?_; intro F hF h0 hT; simp only [List.zipIdx_cons, List.zipIdx_nil, List.map_cons, List.map_nil, Nat.zero_add, Nat.reduceAdd]
 refine Sm.seq ?_
 refine ab hF rfl ?_
 refine gv hF oA (SmG.nil (aa (Sm.seq ?_)))
 refine ab hF rfl ?_
 refine gv hF (cE rfl rfl (by simp (disch := omega) only [go_sem, Nat.reduceEqDiff, ar, bh, aJ, dJ] <;> rfl)) ?_
 refine gv hF oM ?_
 refine SmG.append hF lg rfl rfl rfl rfl rfl rfl (Or.inl rfl) (Or.inl rfl) (by simp only [List.length_map, List.length_cons, List.length_nil]; omega) (by simp only [List.length_map, List.length_cons, List.length_nil]; omega) ?_
 refine gv hF oA (SmG.nil (aa (Sm.ret ?_)))
 refine ⟨_, rfl, ?_⟩; dsimp only
 exact D.le.refl _
theorem mO (a b : List UInt8) (ha : a.length = 32) (hb : b.length = 32) (G : Nat → Option D) : aj Tryd.prog G 58 [aY a, aY b] (bh (1 :: (a ++ b))) := by
 have h1 := rV a
 have h2 := rV b
 refine aj.of Tryd.func58 rfl Tryd.ntmps58 (by simp) ?_; intro F hF h0 hT; simp only [List.zipIdx_cons, List.zipIdx_nil, List.map_cons, List.map_nil, Nat.zero_add, Nat.reduceAdd]
 refine Sm.seq ?_
 refine ab hF rfl ?_
 refine SmG.new hF rfl rfl rfl (jF rfl rfl (by simp (disch := omega) only [go_sem, Nat.reduceEqDiff, ar, bh, aJ, dJ, aY, ha, hb] <;> rfl)) ?_
 refine SmG.new hF rfl rfl rfl (jF rfl rfl (by simp (disch := omega) only [go_sem, Nat.reduceEqDiff, ar, bh, aJ, dJ, aY, ha, hb] <;> rfl)) ?_
 refine gv hF oA (SmG.nil (aa (Sm.seq ?_)))
 refine ab hF rfl ?_
 refine gv hF (cE rfl rfl (by simp (disch := omega) only [go_sem, Nat.reduceEqDiff, ar, bh, aJ, dJ, aY, ha, hb] <;> rfl)) ?_
 refine gv hF (eZ rfl rfl rfl rfl rfl (by simp (disch := omega) only [go_sem, Nat.reduceEqDiff, ar, bh, aJ, dJ, aY, ha, hb] <;> rfl)) ?_
 refine SmG.freeze (l := 0) (sz := 32) [aK a] rfl ?_
 simp only [Pk.v, j6, fg, gR,  reduceIte, Nat.reduceAdd, Nat.zero_add, List.length_map, List.length_append, Nat.le_refl, true_and, and_self, if_true, Nat.reduceEqDiff, List.getElem?_cons_zero, Nat.mul_one, Nat.one_mul, Nat.reduceLeDiff, Nat.reduceMul, h1, Nat.zero_ne_one, tX]
 refine SmG.appendNew hF lg rfl rfl rfl rfl rfl rfl (Or.inl rfl) rfl (Bf [] (by omega)) (by simp only [List.length_map, List.length_cons, List.length_nil]; omega) (by simp only [List.length_map, List.length_cons, List.length_nil]; omega) ?_
 refine gv hF oA (SmG.nil (aa (Sm.seq ?_)))
 refine ab hF rfl ?_
 refine gv hF oM ?_
 refine gv hF (eZ rfl rfl rfl rfl rfl (by simp (disch := omega) only [go_sem, Nat.reduceEqDiff, ar, bh, aJ, dJ, aY, ha, hb] <;> rfl)) ?_
 refine SmG.freeze (l := 1) (sz := 32) [aK b] rfl ?_
 simp only [Pk.v, j6, fg, gR,  reduceIte, Nat.reduceAdd, Nat.zero_add, List.length_map, List.length_append, Nat.le_refl, true_and, and_self, if_true, Nat.reduceEqDiff, List.getElem?_cons_zero, Nat.mul_one, Nat.one_mul, Nat.reduceLeDiff, Nat.reduceMul, h2]
 refine SmG.appendOwn hF lg rfl rfl rfl rfl rfl rfl rfl (by first | rfl | (simp; done) | (simp; omega)) (Or.inl rfl) (by (repeat' first | exact bm _ | refine bf ?_ | refine ap ?_ (aM _ _ _) | refine ap ?_ (aM _ _ [_]) | refine ap ?_ (bB (by rfl)))) ?_ ?_ ?_; rotate_left; rotate_left; simp only [gg, Pk.v, V.free, rep, bne_self_eq_false, Nat.reduceAdd, Nat.reduceBNe, Nat.reduceBEq, Nat.reduceEqDiff, reduceIte, Bool.false_eq_true]
 rotate_left
 ·simp only [List.length_map, List.length_append, List.length_cons, List.length_nil]; omega
 ·simp only [List.length_map, List.length_append, List.length_cons, List.length_nil]; omega
 refine SmG.freeze (l := 2) (sz := 1) (List.map aJ (1 :: (a ++ b))) (by show some (dB 1 (([aJ 1] ++ List.map aJ a) ++ List.map aJ b)) = _; simp) ?_
 have e : 1 + a.length + b.length = a.length + b.length + 1 := by omega
 simp only [Pk.v, j6, fg, gR,  reduceIte, Nat.reduceAdd, Nat.zero_add, List.length_map, List.length_append, Nat.le_refl, true_and, and_self, if_true, Nat.reduceEqDiff, List.length_cons, List.length_nil, e]
 refine gv hF oA (SmG.nil (aa (Sm.ret ?_)))
 refine ⟨_, rfl, ?_⟩; dsimp only
 exact D.le.refl _
theorem r9 (b : List UInt8) (hb : b.length ≤ 900000) (G : Nat → Option D) : aj Tryd.prog G 29 [bh b] (aY (Sha.leaf b)) := by
 have hl := Sha.leaf_len b
 have hS : Sha.sum (0 :: b) = Sha.leaf b := rfl
 generalize Sha.leaf b = s at hl hS ⊢
 refine aj.of Tryd.func29 rfl Tryd.ntmps29 (by simp) ?_; intro F hF h0 hT; simp only [List.zipIdx_cons, List.zipIdx_nil, List.map_cons, List.map_nil, Nat.zero_add, Nat.reduceAdd]
 refine Sm.seq ?_
 refine ab hF rfl ?_
 refine SmG.new hF rfl rfl rfl (aI rfl kw) ?_
 refine SmG.nil (aa (Sm.seq ?_))
 refine ab hF rfl ?_
 refine gv hF oM ?_
 refine SmG.call hF rfl rfl (by kernel_rfl) rfl rfl rfl (pP b hb G) ?_
 refine SmG.call hF rfl rfl (by kernel_rfl) rfl rfl rfl (lV (0 :: b) (by simp; omega) G) ?_
 refine SmG.store hF rfl rfl rfl rfl rfl (by simp (disch := omega) only [go_sem, Nat.reduceEqDiff, ar, aY, av, hl, hS] <;> rfl) ?_
 refine SmG.nil (aa (Sm.ret ?_))
 refine iu rfl rfl (by simp (disch := omega) only [go_sem, Nat.reduceEqDiff, ar, av, hl, hS] <;> rfl) ?_
 exact D.le.refl _
theorem wX (a b : List UInt8) (ha : a.length = 32) (hb : b.length = 32) (G : Nat → Option D) : aj Tryd.prog G 63 [aY a, aY b] (aY (Sha.pair a b)) := by
 have hl := Sha.pair_len a b
 have hS : Sha.sum (1 :: (a ++ b)) = Sha.pair a b := rfl
 generalize Sha.pair a b = s at hl hS ⊢
 refine aj.of Tryd.func63 rfl Tryd.ntmps63 (by simp) ?_; intro F hF h0 hT; simp only [List.zipIdx_cons, List.zipIdx_nil, List.map_cons, List.map_nil, Nat.zero_add, Nat.reduceAdd]
 refine Sm.seq ?_
 refine ab hF rfl ?_
 refine SmG.new hF rfl rfl rfl (jF rfl rfl (by simp (disch := omega) only [go_sem, Nat.reduceEqDiff, ar, aY, av, ha, hb, hl, hS] <;> rfl)) ?_
 refine SmG.new hF rfl rfl rfl (jF rfl rfl (by simp (disch := omega) only [go_sem, Nat.reduceEqDiff, ar, aY, av, ha, hb, hl, hS] <;> rfl)) ?_
 refine SmG.new hF rfl rfl rfl (aI rfl kw) ?_
 refine SmG.nil (aa (Sm.seq ?_))
 refine ab hF rfl ?_
 refine gv hF (aQ rfl rfl (by simp (disch := omega) only [go_sem, Nat.reduceEqDiff, ar, aY, av, ha, hb, hl, hS] <;> rfl)) ?_
 refine gv hF (aQ rfl rfl (by simp (disch := omega) only [go_sem, Nat.reduceEqDiff, ar, aY, av, ha, hb, hl, hS] <;> rfl)) ?_
 refine SmG.call hF rfl rfl (by kernel_rfl) rfl rfl rfl (mO a b ha hb G) ?_
 refine SmG.call hF rfl rfl (by kernel_rfl) rfl rfl rfl (lV (1 :: (a ++ b)) (by simp; omega) G) ?_
 refine SmG.store hF rfl rfl rfl rfl rfl (by simp (disch := omega) only [go_sem, Nat.reduceEqDiff, ar, aY, av, ha, hb, hl, hS] <;> rfl) ?_
 refine SmG.nil (aa (Sm.ret ?_))
 refine iu rfl rfl (by simp (disch := omega) only [go_sem, Nat.reduceEqDiff, ar, av, hl, hS] <;> rfl) ?_
 exact D.le.refl _
theorem ux (G : Nat → Option D) : aj Tryd.prog G 52 [.list 0 [] true] (aY (Sha.sum [])) := (lV [] (by simp) G).args fun _ => ve w9 (wJ [])
theorem pm (G : Nat → Option D) : ∀ (n : Nat) (l : List (List UInt8)), l.length = n → Fit l → aj Tryd.prog G 34 [aO l] (aY (Sha.root l)) := by
 intro n
 induction n using Nat.strongRecOn with
 | _ n ih =>
 intro l hn hF'
 have hRl := Sha.root_len l
 have hfl := hF'.1
 by_cases h2 : 2 ≤ l.length
 ·have hm1 := Sha.cut_lt h2
  have hmp := Sha.cut_pos l.length
  have k0 := vP l.length h2 (by omega) G
  have k1 := ih (Sha.cut l.length) (by omega) (l.take (Sha.cut l.length)) (by rw [List.length_take]; omega) (pT hF' _)
  have k2 := ih (l.length - Sha.cut l.length) (by omega) (l.drop (Sha.cut l.length)) (by rw [List.length_drop]) (qw hF' _)
  have k4 := wX _ _ (Sha.root_len (l.take (Sha.cut l.length))) (Sha.root_len (l.drop (Sha.cut l.length))) G
  rw [← Sha.root_cut h2] at k4
  generalize Sha.root (l.take (Sha.cut l.length)) = A at k1 k4
  generalize Sha.root (l.drop (Sha.cut l.length)) = B at k2 k4
  generalize Sha.cut l.length = m at hm1 hmp k0 k1 k2
  generalize Sha.root l = R at k4 hRl ⊢
  have hml : m ≤ l.length := by omega
  refine aj.of Tryd.func34 rfl Tryd.ntmps34 (by simp) ?_; intro F hF h0 hT; simp only [List.zipIdx_cons, List.zipIdx_nil, List.map_cons, List.map_nil, Nat.zero_add, Nat.reduceAdd]
  refine Sm.seq ?_
  refine ab hF rfl ?_
  refine SmG.new hF rfl rfl rfl (aI rfl kw) ?_
  refine SmG.nil (aa (Sm.seq (Sm.seq ?_)))
  refine ab hF rfl ?_
  refine gv hF oM ?_
  refine gv hF (bk rfl rfl (by simp (disch := omega) only [go_sem, Nat.reduceEqDiff, ar, aO, aY, av, hRl, hml, Nat.zero_le, bP, ca] <;> rfl)) ?_
  refine gv hF (aq rfl rfl rfl (by first | exact ik _ _ _ _ _ (by omega) | exact ig _ _ _ _ _ (by omega) | exact gK _ _ _ _ _ _ _)) ?_
  refine SmG.nil (aa ?_)
  refine ba hF rfl ?_
  refine Sm.skip ?_
  refine aa (Sm.seq (Sm.seq ?_))
  refine ab hF rfl ?_
  refine gv hF oM ?_
  refine gv hF (bk rfl rfl (by simp (disch := omega) only [go_sem, Nat.reduceEqDiff, ar, aO, aY, av, hRl, hml, Nat.zero_le, bP, ca] <;> rfl)) ?_
  refine gv hF (aq rfl rfl rfl (by first | exact ik _ _ _ _ _ (by omega) | exact ig _ _ _ _ _ (by omega) | exact gK _ _ _ _ _ _ _)) ?_
  refine SmG.nil (aa ?_)
  refine ba hF rfl ?_
  refine Sm.skip ?_
  refine aa (Sm.seq ?_)
  refine ab hF rfl ?_
  refine gv hF oM ?_
  refine gv hF (bk rfl rfl (by simp (disch := omega) only [go_sem, Nat.reduceEqDiff, ar, aO, aY, av, hRl, hml, Nat.zero_le, bP, ca] <;> rfl)) ?_
  refine SmG.call hF rfl rfl (by kernel_rfl) rfl rfl rfl (k0) ?_
  refine gv hF oA (SmG.nil (aa (Sm.seq ?_)))
  refine eP hF (by kernel_rfl) rfl 9 (by kernel_rfl) (by kernel_rfl) ?_
  simp only [List.take_succ_cons, List.take_zero, List.take_nil]
  refine hv hF oM (hv hF oM ?_)
  refine hv hF (eZ rfl rfl rfl rfl rfl (by simp (disch := omega) only [go_sem, Nat.reduceEqDiff, ar, aO, aY, av, hRl, hml, Nat.zero_le, bP, ca] <;> rfl)) ?_
  refine aD.c hF rfl rfl (by kernel_rfl) rfl rfl rfl (k1) ?_
  refine hv hF oM (hv hF oM ?_)
  refine hv hF (eZ rfl rfl rfl rfl rfl (by simp (disch := omega) only [go_sem, Nat.reduceEqDiff, ar, aO, aY, av, hRl, hml, Nat.zero_le, bP, ca] <;> rfl)) ?_
  refine aD.c hF rfl rfl (by kernel_rfl) rfl rfl rfl (k2) ?_
  refine aD.c hF rfl rfl (by kernel_rfl) rfl rfl rfl (k4) ?_
  refine aD.last ⟨rfl, ?_⟩
  simp only [List.drop_succ_cons, List.drop_zero, List.drop_nil, List.nil_append, List.cons_append]
  refine SmG.store hF rfl rfl rfl rfl rfl (by simp (disch := omega) only [go_sem, Nat.reduceEqDiff, ar, aO, aY, av, hRl, hml, Nat.zero_le, bP, ca] <;> rfl) ?_
  refine SmG.nil (aa (Sm.ret ?_))
  refine iu rfl rfl (by simp (disch := omega) only [go_sem, Nat.reduceEqDiff, ar, av, hRl] <;> rfl) ?_
  exact D.le.refl _
 ·rcases l with _ | ⟨b, _ | ⟨c, l⟩⟩
  ·rw [Sha.root_nil] at hRl ⊢
   have k1 := ux G
   generalize Sha.sum [] = R at k1 hRl ⊢
   refine aj.of Tryd.func34 rfl Tryd.ntmps34 (by simp) ?_; intro F hF h0 hT; simp only [List.zipIdx_cons, List.zipIdx_nil, List.map_cons, List.map_nil, Nat.zero_add, Nat.reduceAdd]
   refine Sm.seq ?_
   refine ab hF rfl ?_
   refine SmG.new hF rfl rfl rfl (aI rfl kw) ?_
   refine SmG.nil (aa (Sm.seq (Sm.seq ?_)))
   refine ab hF rfl ?_
   refine gv hF oM ?_
   refine gv hF (bk rfl rfl (by simp (disch := omega) only [go_sem, Nat.reduceEqDiff, ar, aO, aY, av, hRl] <;> rfl)) ?_
   refine gv hF (aq rfl rfl rfl (by first | exact ik _ _ _ _ _ (by omega) | exact ig _ _ _ _ _ (by omega) | exact gK _ _ _ _ _ _ _)) ?_
   refine SmG.nil (aa ?_)
   refine aW hF rfl ?_
   refine Sm.seq ?_
   refine ab hF rfl ?_
   refine SmG.call hF rfl rfl (by kernel_rfl) rfl rfl rfl (k1) ?_
   refine SmG.store hF rfl rfl rfl rfl rfl (by simp (disch := omega) only [go_sem, Nat.reduceEqDiff, ar, aO, aY, av, hRl] <;> rfl) ?_
   refine SmG.nil (aa (Sm.ret ?_))
   simp only [bT, cK]
   refine iu rfl rfl (by simp (disch := omega) only [go_sem, Nat.reduceEqDiff, ar, av, hRl] <;> rfl) ?_
   exact D.le.refl _
  ·rw [Sha.root_one] at hRl ⊢
   have k1 := r9 b (hF'.2 b (by simp)) G
   generalize Sha.leaf b = R at k1 hRl ⊢
   refine aj.of Tryd.func34 rfl Tryd.ntmps34 (by simp) ?_; intro F hF h0 hT; simp only [List.zipIdx_cons, List.zipIdx_nil, List.map_cons, List.map_nil, Nat.zero_add, Nat.reduceAdd]
   refine Sm.seq ?_
   refine ab hF rfl ?_
   refine SmG.new hF rfl rfl rfl (aI rfl kw) ?_
   refine SmG.nil (aa (Sm.seq (Sm.seq ?_)))
   refine ab hF rfl ?_
   refine gv hF oM ?_
   refine gv hF (bk rfl rfl (by simp (disch := omega) only [go_sem, Nat.reduceEqDiff, ar, aO, bq, bh, aY, av, hRl] <;> rfl)) ?_
   refine gv hF (aq rfl rfl rfl (by first | exact ik _ _ _ _ _ (by omega) | exact ig _ _ _ _ _ (by omega) | exact gK _ _ _ _ _ _ _)) ?_
   refine SmG.nil (aa ?_)
   refine ba hF rfl ?_
   refine Sm.skip ?_
   refine aa (Sm.seq (Sm.seq ?_))
   refine ab hF rfl ?_
   refine gv hF oM ?_
   refine gv hF (bk rfl rfl (by simp (disch := omega) only [go_sem, Nat.reduceEqDiff, ar, aO, bq, bh, aY, av, hRl] <;> rfl)) ?_
   refine gv hF (aq rfl rfl rfl (by first | exact ik _ _ _ _ _ (by omega) | exact ig _ _ _ _ _ (by omega) | exact gK _ _ _ _ _ _ _)) ?_
   refine SmG.nil (aa ?_)
   refine aW hF rfl ?_
   refine Sm.seq ?_
   refine ab hF rfl ?_
   refine gv hF oM ?_
   refine gv hF (aA rfl rfl rfl (by simp (disch := omega) only [go_sem, Nat.reduceEqDiff, ar, aO, bq, bh, aY, av, hRl] <;> rfl)) ?_
   refine gv hF (aQ rfl rfl (by simp (disch := omega) only [go_sem, Nat.reduceEqDiff, ar, aO, bq, bh, aY, av, hRl] <;> rfl)) ?_
   refine SmG.call hF rfl rfl (by kernel_rfl) rfl rfl rfl (k1) ?_
   refine SmG.store hF rfl rfl rfl rfl rfl (by simp (disch := omega) only [go_sem, Nat.reduceEqDiff, ar, aO, bq, bh, aY, av, hRl] <;> rfl) ?_
   refine SmG.nil (aa (Sm.ret ?_))
   simp only [bT, cK]
   refine iu rfl rfl (by simp (disch := omega) only [go_sem, Nat.reduceEqDiff, ar, av, hRl] <;> rfl) ?_
   exact D.le.refl _
  ·simp at h2
end
end Go.Proofs.YtbaccmkhjmmlnaaDoor
namespace Go.Proofs.YtbaccmkhjmmlnaaDoor.Sha
theorem check_out (r b : List UInt8) (q : List (List UInt8)) (n i : Int) (h : i < 0 ∨ n ≤ i) : check r n i b q = false := by
 unfold check; rw [if_pos h]
end Go.Proofs.YtbaccmkhjmmlnaaDoor.Sha
namespace Go.Proofs.YtbaccmkhjmmlnaaDoor
end Go.Proofs.YtbaccmkhjmmlnaaDoor
namespace Go.Proofs.YtbaccmkhjmmlnaaDoor.Sha
def sides (n i : Nat) : List Bool :=
 if h : 2 ≤ n then (if i < cut n then sides (cut n) i ++ [false] else sides (n - cut n) (i - cut n) ++ [true]) else []
termination_by n
decreasing_by
 ·exact cut_lt h
 ·have := cut_pos n; omega
theorem sides_low {n i : Nat} (h : 2 ≤ n) (hi : i < cut n) : sides n i = sides (cut n) i ++ [false] := by
 rw [sides, dif_pos h, if_pos hi]
theorem sides_high {n i : Nat} (h : 2 ≤ n) (hi : cut n ≤ i) : sides n i = sides (n - cut n) (i - cut n) ++ [true] := by
 rw [sides, dif_pos h, if_neg (by omega)]
theorem sides_one {n : Nat} (i : Nat) (h : n < 2) : sides n i = [] := by rw [sides, dif_neg (by omega)]
def join (s : Bool) (q h : List UInt8) : List UInt8 := 1 :: (if s then q ++ h else h ++ q)
def chain (x : List UInt8) : List (Bool × List UInt8) → List (List UInt8)
 | [] => [x]
 | (s, q) :: r => x :: chain (join s q (sum x)) r
def top (x : List UInt8) : List (Bool × List UInt8) → List UInt8
 | [] => sum x
 | (s, q) :: r => top (join s q (sum x)) r
theorem sY (s : Bool) (q : List UInt8) : ∀ (r : List (Bool × List UInt8)) (x : List UInt8), top x (r ++ [(s, q)]) = sum (join s q (top x r)) := by
 intro r
 induction r with
 | nil => intro x; rfl
 | cons e r ih => intro x; obtain ⟨t, y⟩ := e; exact ih _
theorem sZ (s : Bool) (q h : List UInt8) : sum (join s q h) = if s then pair q h else pair h q := by
 cases s <;> rfl
theorem chain_length (r : List (Bool × List UInt8)) : ∀ x, (chain x r).length = r.length + 1 := by
 induction r with
 | nil => intro x; rfl
 | cons e r ih => intro x; obtain ⟨s, q⟩ := e; simp [chain, ih]
theorem chain_snoc (s : Bool) (q : List UInt8) : ∀ (r : List (Bool × List UInt8)) (x : List UInt8), chain x (r ++ [(s, q)]) = chain x r ++ [join s q (top x r)] := by
 intro r
 induction r with
 | nil => intro x; rfl
 | cons e r ih => intro x; obtain ⟨t, y⟩ := e; simp [chain, top, ih]
theorem xd (b : List UInt8) : ∀ (p : List (List UInt8)) (n i : Nat), 1 ≤ n → (climb b p n i).2 = decide (p.length = (sides n i).length) ∧ (p.length = (sides n i).length → (climb b p n i).1 = top (0 :: b) ((sides n i).zip p.reverse)) := by
 intro p
 induction p with
 | nil =>
  intro n i hn
  by_cases h1 : n = 1
  ·subst h1; rw [sides_one i (by omega)]; exact ⟨rfl, fun _ => rfl⟩
  ·have : (sides n i).length ≠ 0 := by
    rcases Nat.lt_or_ge i (cut n) with h | h
    ·rw [sides_low (by omega) h]; simp
    ·rw [sides_high (by omega) h]; simp
   refine ⟨?_, fun h => absurd h.symm this⟩
   simp only [climb, List.length_nil]
   rw [decide_eq_false (Ne.symm this)]; simpa using h1
 | cons q r ih =>
  intro n i hn
  by_cases h1 : n = 1
  ·subst h1; rw [sides_one i (by omega)]
   simp [climb]
  ·have h2 : 2 ≤ n := by omega
   have c1 := cut_lt h2
   have c2 := cut_pos n
   simp only [climb, if_neg h1]
   rcases Nat.lt_or_ge i (cut n) with h | h
   ·obtain ⟨k1, k2⟩ := ih (cut n) i (by omega)
    rw [if_pos h, sides_low h2 h]
    refine ⟨by simp [k1], fun hl => ?_⟩
    have hl' : r.length = (sides (cut n) i).length := by simpa using hl
    rw [List.reverse_cons, List.zip_append (by simpa using hl'.symm), List.zip_cons_cons, List.zip_nil_right, sY, sZ, ← k2 hl']
    rfl
   ·obtain ⟨k1, k2⟩ := ih (n - cut n) (i - cut n) (by omega)
    rw [if_neg (by omega), sides_high h2 h]
    refine ⟨by simp [k1], fun hl => ?_⟩
    have hl' : r.length = (sides (n - cut n) (i - cut n)).length := by simpa using hl
    rw [List.reverse_cons, List.zip_append (by simpa using hl'.symm), List.zip_cons_cons, List.zip_nil_right, sY, sZ, ← k2 hl']
    rfl
theorem check_top (root b : List UInt8) (n i : Int) (p : List (List UInt8)) : check root n i b p = if i < 0 ∨ n ≤ i then false else decide (p.length = (sides n.toNat i.toNat).length) && decide (top (0 :: b) ((sides n.toNat i.toNat).zip p) = root) := by
 unfold check
 split
 ·rfl
 ·rename_i h
  obtain ⟨k1, k2⟩ := xd b p.reverse n.toNat i.toNat (by omega)
  rw [k1]
  simp only [List.length_reverse, List.reverse_reverse] at k2 ⊢
  by_cases hl : p.length = (sides n.toNat i.toNat).length
  ·rw [k2 hl]
  ·simp [hl]
end Go.Proofs.YtbaccmkhjmmlnaaDoor.Sha
namespace Go.Proofs.YtbaccmkhjmmlnaaDoor
section
open Go.RowKit
def elems (xs : List (List UInt8)) : List (List UInt8) := (xs.take 9).map (·.take 40)
set_option maxRecDepth 100000
end
section
open Go.RowKit
set_option maxRecDepth 100000
theorem AY (p q : List (List UInt8)) (hp : lO p) (hq : lO q) (h1 : p.length ≤ 9223372036854775807) (h2 : q.length ≤ 9223372036854775807) : aj Tryd.prog HG 41 [bO p, bO q] (.v (.bool (decide (p = q)))) := by
 simp only [bO]
 by_cases hl : p.length = q.length
 ·refine aj.of Tryd.func41 rfl Tryd.ntmps41 (by simp) ?_; intro F hF h0 hT; simp only [List.zipIdx_cons, List.zipIdx_nil, List.map_cons, List.map_nil, Nat.zero_add, Nat.reduceAdd]
  refine Sm.seq ?_
  refine ab hF rfl ?_
  refine gv hF oA (SmG.nil (aa (Sm.seq (Sm.seq ?_))))
  refine ab hF rfl ?_
  refine gv hF oM ?_
  refine gv hF (bk rfl rfl (by simp (disch := omega) only [go_sem, Nat.reduceEqDiff, ar] <;> rfl)) ?_
  refine gv hF oM ?_
  refine gv hF (bk rfl rfl (by simp (disch := omega) only [go_sem, Nat.reduceEqDiff, ar] <;> rfl)) ?_
  refine gv hF (aq rfl rfl rfl (by first | exact kp _ _ _ _ _ (by omega) | exact kc _ _ _ _ _ (by omega) | exact jn _ _ _ _ _ _ _)) ?_
  refine SmG.nil (aa ?_)
  refine ba hF rfl ?_
  refine Sm.skip ?_
  refine aa (Sm.seq (Sm.seq ?_))
  refine ab hF rfl ?_
  refine gv hF oA (SmG.nil (aa (Sm.block ?_)))
  refine Sm.loop (ι := {k : Nat // k ≤ p.length ∧ p.take k = q.take k}) (fun k => ⟨[(0, .d (.list 32 (p.map aK) false)), (1, .d (.list 32 (q.map aK) false)), (5, .d (.v (.int .i64 k.1)))], [], 0⟩) (fun k => p.length - k.1) (⟨0, by omega, rfl⟩) ?_ ?_
  ·exact cj (by simp [leE, look, bd]) (by simp [leH, look, rep]) (by first | exact Nat.le_refl _ | (dsimp only; omega))
  rintro ⟨k, hk, he⟩
  simp only
  by_cases hlt : k < p.length
  ·have hpk : p[k]? = some p[k] := by simp
   have hqk : q[k]? = some (q[k]'(by omega)) := by simp
   have ha := xn (hp _ (List.getElem_mem hlt)) (hq _ (List.getElem_mem (show k < q.length by omega)))
   by_cases hab : p[k] = q[k]'(by omega)
   ·have hd := decide_eq_true hab
    refine Sm.seq (Sm.seq ?_)
    refine ab hF rfl ?_
    refine gv hF oM (gv hF oM ?_)
    refine gv hF (bk rfl rfl (by simp (disch := omega) only [go_sem, Nat.reduceEqDiff, ar, hpk, hqk, ha, hd] <;> rfl)) ?_
    refine gv hF (aq rfl rfl rfl (by first | exact bp _ _ _ _ _ (by omega) | exact br _ _ _ _ _ (by omega) | exact bF _ _ _ _ _ _ _)) ?_
    refine SmG.nil (aa ?_)
    refine aW hF rfl ?_
    refine Sm.skip ?_
    refine aa (Sm.seq (Sm.block (Sm.seq ?_)))
    refine eP hF (by kernel_rfl) rfl 9 (by kernel_rfl) (by kernel_rfl) ?_
    simp only [List.take_succ_cons, List.take_zero, List.take_nil]
    refine hv hF oM (hv hF oM ?_)
    refine hv hF (aA rfl rfl rfl (by simp (disch := omega) only [go_sem, Nat.reduceEqDiff, ar, hpk, hqk, ha, hd] <;> rfl)) ?_
    refine hv hF (aQ rfl rfl (by simp (disch := omega) only [go_sem, Nat.reduceEqDiff, ar, hpk, hqk, ha, hd] <;> rfl)) ?_
    refine hv hF oM (hv hF oM ?_)
    refine hv hF (aA rfl rfl rfl (by simp (disch := omega) only [go_sem, Nat.reduceEqDiff, ar, hpk, hqk, ha, hd] <;> rfl)) ?_
    refine hv hF (aQ rfl rfl (by simp (disch := omega) only [go_sem, Nat.reduceEqDiff, ar, hpk, hqk, ha, hd] <;> rfl)) ?_
    refine hv hF (pE rfl rfl rfl (by simp (disch := omega) only [go_sem, Nat.reduceEqDiff, ar, hpk, hqk, ha, hd] <;> rfl)) ?_
    refine aD.last ⟨rfl, ?_⟩
    simp only [List.drop_succ_cons, List.drop_zero, List.drop_nil, List.nil_append, List.cons_append]
    refine SmG.nil (aa ?_)
    refine ba hF rfl ?_
    refine Sm.skip ?_
    refine ay (aa ?_)
    refine ab hF rfl ?_
    refine gv hF oM ?_
    refine gv hF (aq rfl rfl rfl (by first | exact gm _ _ _ _ _ (bK _ (by omega)) | exact cR _ _ _ _ _ _ _)) ?_
    refine gv hF oA (SmG.nil (aa ?_))
    exact ⟨⟨k + 1, by omega, by rw [List.take_succ_eq_append_getElem hlt, List.take_succ_eq_append_getElem (show k < q.length by omega), he, hab]⟩, by show p.length - (k + 1) < p.length - k; omega, by exact cj (by simp [leE, look, bd]) (by simp [leH, look, rep]) (by first | exact Nat.le_refl _ | (dsimp only; omega))⟩
   ·have hd := decide_eq_false hab
    refine Sm.seq (Sm.seq ?_)
    refine ab hF rfl ?_
    refine gv hF oM (gv hF oM ?_)
    refine gv hF (bk rfl rfl (by simp (disch := omega) only [go_sem, Nat.reduceEqDiff, ar, hpk, hqk, ha, hd] <;> rfl)) ?_
    refine gv hF (aq rfl rfl rfl (by first | exact bp _ _ _ _ _ (by omega) | exact br _ _ _ _ _ (by omega) | exact bF _ _ _ _ _ _ _)) ?_
    refine SmG.nil (aa ?_)
    refine aW hF rfl ?_
    refine Sm.skip ?_
    refine aa (Sm.seq (Sm.block (Sm.seq ?_)))
    refine eP hF (by kernel_rfl) rfl 9 (by kernel_rfl) (by kernel_rfl) ?_
    simp only [List.take_succ_cons, List.take_zero, List.take_nil]
    refine hv hF oM (hv hF oM ?_)
    refine hv hF (aA rfl rfl rfl (by simp (disch := omega) only [go_sem, Nat.reduceEqDiff, ar, hpk, hqk, ha, hd] <;> rfl)) ?_
    refine hv hF (aQ rfl rfl (by simp (disch := omega) only [go_sem, Nat.reduceEqDiff, ar, hpk, hqk, ha, hd] <;> rfl)) ?_
    refine hv hF oM (hv hF oM ?_)
    refine hv hF (aA rfl rfl rfl (by simp (disch := omega) only [go_sem, Nat.reduceEqDiff, ar, hpk, hqk, ha, hd] <;> rfl)) ?_
    refine hv hF (aQ rfl rfl (by simp (disch := omega) only [go_sem, Nat.reduceEqDiff, ar, hpk, hqk, ha, hd] <;> rfl)) ?_
    refine hv hF (pE rfl rfl rfl (by simp (disch := omega) only [go_sem, Nat.reduceEqDiff, ar, hpk, hqk, ha, hd] <;> rfl)) ?_
    refine aD.last ⟨rfl, ?_⟩
    simp only [List.drop_succ_cons, List.drop_zero, List.drop_nil, List.nil_append, List.cons_append]
    refine SmG.nil (aa ?_)
    refine aW hF rfl ?_
    refine Sm.seq ?_
    refine ab hF rfl ?_
    refine gv hF oA (SmG.nil (aa (Sm.ret ?_)))
    simp only [bT, cK]
    refine ⟨_, rfl, ?_⟩; dsimp only
    have : decide (p = q) = false := by
     simp only [decide_eq_false_iff_not]
     intro e; subst e; exact hab rfl
    rw [this]; exact D.le.refl _
  ·refine Sm.seq (Sm.seq ?_)
   refine ab hF rfl ?_
   refine gv hF oM (gv hF oM ?_)
   refine gv hF (bk rfl rfl (by simp (disch := omega) only [go_sem, Nat.reduceEqDiff, ar] <;> rfl)) ?_
   refine gv hF (aq rfl rfl rfl (by first | exact bp _ _ _ _ _ (by omega) | exact br _ _ _ _ _ (by omega) | exact bF _ _ _ _ _ _ _)) ?_
   refine SmG.nil (aa ?_)
   refine ba hF rfl ?_
   refine Sm.exit ?_
   simp only [bT, cK, reduceIte, reduceCtorEq]
   refine Sm.seq ?_
   refine ab hF rfl ?_
   refine gv hF oA (SmG.nil (aa (Sm.ret ?_)))
   refine ⟨_, rfl, ?_⟩; dsimp only
   have : decide (p = q) = true := by
    simp only [decide_eq_true_eq]
    rw [List.take_of_length_le (by omega), List.take_of_length_le (by omega)] at he
    exact he
   rw [this]; exact D.le.refl _
 ·refine aj.of Tryd.func41 rfl Tryd.ntmps41 (by simp) ?_; intro F hF h0 hT; simp only [List.zipIdx_cons, List.zipIdx_nil, List.map_cons, List.map_nil, Nat.zero_add, Nat.reduceAdd]
  refine Sm.seq ?_
  refine ab hF rfl ?_
  refine gv hF oA (SmG.nil (aa (Sm.seq (Sm.seq ?_))))
  refine ab hF rfl ?_
  refine gv hF oM ?_
  refine gv hF (bk rfl rfl (by simp (disch := omega) only [go_sem, Nat.reduceEqDiff, ar] <;> rfl)) ?_
  refine gv hF oM ?_
  refine gv hF (bk rfl rfl (by simp (disch := omega) only [go_sem, Nat.reduceEqDiff, ar] <;> rfl)) ?_
  refine gv hF (aq rfl rfl rfl (by first | exact kp _ _ _ _ _ (by omega) | exact kc _ _ _ _ _ (by omega) | exact jn _ _ _ _ _ _ _)) ?_
  refine SmG.nil (aa ?_)
  refine aW hF rfl ?_
  refine Sm.seq ?_
  refine ab hF rfl ?_
  refine gv hF oA (SmG.nil (aa (Sm.ret ?_)))
  simp only [bT, cK]
  refine ⟨_, rfl, ?_⟩; dsimp only
  have : decide (p = q) = false := by simp; intro h; exact hl (by rw [h])
  rw [this]; exact D.le.refl _
end
section
namespace Sha
end Sha
end
section
open Go.RowKit
set_option maxRecDepth 100000
theorem zY : ∀ (k : Nat) (l : List (List UInt8)) (i : Nat), l.length = k → (Sha.path l i).length ≤ l.length := by
 intro k
 induction k using Nat.strongRecOn with
 | _ k ih =>
  intro l i hk
  rcases Nat.lt_or_ge l.length 2 with h | h
  ·rw [Sha.path_one _ h]; simp
  ·have c1 := Sha.cut_lt h
   have c2 := Sha.cut_pos l.length
   rcases Nat.lt_or_ge i (Sha.cut l.length) with hi | hi
   ·rw [Sha.path_low h hi]
    have := ih (l.take (Sha.cut l.length)).length (by rw [List.length_take]; omega) (l.take (Sha.cut l.length)) i rfl
    rw [List.length_take] at this
    simp only [List.length_cons]; omega
   ·rw [Sha.path_high h hi]
    have := ih (l.drop (Sha.cut l.length)).length (by rw [List.length_drop]; omega) (l.drop (Sha.cut l.length)) (i - Sha.cut l.length) rfl
    rw [List.length_drop] at this
    simp only [List.length_cons]; omega
theorem tk (l : List (List UInt8)) (i : Nat) : (Sha.proof l i).length ≤ l.length := by
 unfold Sha.proof; rw [List.length_reverse]; exact zY _ l i rfl
end
section
open Go.RowKit
set_option maxRecDepth 100000
end
section
open Go.RowKit
set_option maxRecDepth 100000
theorem xZ {l : List (List UInt8)} {i : Nat} (h : 2 ≤ l.length) (hi : i < Sha.cut l.length) : Sha.proof l i = Sha.proof (l.take (Sha.cut l.length)) i ++ [Sha.root (l.drop (Sha.cut l.length))] := by
 unfold Sha.proof; rw [Sha.path_low h hi, List.reverse_cons]
theorem wE {l : List (List UInt8)} {i : Nat} (h : 2 ≤ l.length) (hi : Sha.cut l.length ≤ i) : Sha.proof l i = Sha.proof (l.drop (Sha.cut l.length)) (i - Sha.cut l.length) ++ [Sha.root (l.take (Sha.cut l.length))] := by
 unfold Sha.proof; rw [Sha.path_high h hi, List.reverse_cons]
theorem vq (p : List (List UInt8)) (s : List UInt8) : List.map aK p ++ [aK s] = List.map aK (p ++ [s]) := by simp
end
section
open Go.RowKit
set_option maxRecDepth 100000
def dt (b : Bool) : List D := [.v (.bool b)]
theorem yb : ElemT Tryd.prog 134 4 (.bool false) 1 1 := ⟨Tryd.underlying134, by kernel_rfl, rfl, by decide⟩
theorem lM : ∀ (n i : Nat), (Sha.sides n i).length ≤ n := by
 intro n
 induction n using Nat.strongRecOn with
 | _ n ih =>
 intro i
 rcases Nat.lt_or_ge n 2 with h | h
 ·rw [Sha.sides_one i h]; simp
 ·have c1 := Sha.cut_lt h
  have c2 := Sha.cut_pos n
  rcases Nat.lt_or_ge i (Sha.cut n) with hi | hi
  ·rw [Sha.sides_low h hi]; have := ih _ c1 i; simp; omega
  ·rw [Sha.sides_high h hi]; have := ih (n - Sha.cut n) (by omega) (i - Sha.cut n); simp; omega
theorem tz (l : List Bool) (b : Bool) : List.map dt l ++ [[D.v (.bool b)]] = List.map dt (l ++ [b]) := by simp [dt]
theorem zF (G : Nat → Option D) : ∀ (n i : Nat), i < n → n ≤ 4294967296 → cA Tryd.prog G 73 [.v (.int .i64 n), .v (.int .i64 i)] .tup 1 ((Sha.sides n i).map dt) [.v (.bool true)] := by
 intro n
 induction n using Nat.strongRecOn with
 | _ n ih =>
 intro i hin hn
 have hsl := lM n i
 by_cases h2 : 2 ≤ n
 ·have hm1 := Sha.cut_lt h2
  have hmp := Sha.cut_pos n
  have k0 := vP n h2 (by omega) G
  by_cases hi : i < Sha.cut n
  ·have k1 := ih _ hm1 i hi (by omega)
   rw [Sha.sides_low h2 hi] at hsl ⊢
   have hl1 : (Sha.sides (Sha.cut n) i).length ≤ 4294967296 := by have := lM (Sha.cut n) i; omega
   generalize Sha.sides (Sha.cut n) i = ss at k1 hsl hl1 ⊢
   generalize Sha.cut n = m at hm1 hmp k0 hi k1
   refine cA.of Tryd.func73 rfl Tryd.ntmps73 (by simp) ?_; intro F hF h0 hT; simp only [List.zipIdx_cons, List.zipIdx_nil, List.map_cons, List.map_nil, Nat.zero_add, Nat.reduceAdd]
   refine Sm.seq ?_
   refine ab hF rfl ?_
   refine gv hF oA (gv hF oA (SmG.nil (aa (Sm.seq (Sm.seq ?_)))))
   refine ab hF rfl ?_
   refine gv hF oM ?_
   refine gv hF (aq rfl rfl rfl (by first | exact bp _ _ _ _ _ (by omega) | exact br _ _ _ _ _ (by omega) | exact bF _ _ _ _ _ _ _)) ?_
   refine gv hF oM ?_
   first | refine gv hF oM ?_ | refine gp hF ?_
   first | refine gv hF oM ?_ | refine gp hF ?_
   first | refine gv hF (aq rfl rfl rfl (by first | exact iQ _ _ _ _ _ (by omega) | exact iM _ _ _ _ _ (by omega) | exact io _ _ _ _ _ _ _)) ?_ | refine gp hF ?_
   first | refine gv hF (aw rfl rfl rfl) ?_ | refine gv hF (ah rfl rfl rfl) ?_
   refine SmG.nil (aa ?_)
   refine ba hF rfl ?_
   refine Sm.skip ?_
   refine aa (Sm.seq (Sm.seq ?_))
   refine ab hF rfl ?_
   refine gv hF oM ?_
   refine gv hF (aq rfl rfl rfl (by first | exact ik _ _ _ _ _ (by omega) | exact ig _ _ _ _ _ (by omega) | exact gK _ _ _ _ _ _ _)) ?_
   refine SmG.nil (aa ?_)
   refine ba hF rfl ?_
   refine Sm.skip ?_
   refine aa (Sm.seq ?_)
   refine ab hF rfl ?_
   refine gv hF oM ?_
   refine SmG.call hF rfl rfl (by kernel_rfl) rfl rfl rfl (k0) ?_
   refine gv hF oA (SmG.nil (aa (Sm.seq (Sm.seq ?_))))
   refine ab hF rfl ?_
   refine gv hF oM (gv hF oM ?_)
   refine gv hF (aq rfl rfl rfl (by first | exact bp _ _ _ _ _ (by omega) | exact br _ _ _ _ _ (by omega) | exact bF _ _ _ _ _ _ _)) ?_
   refine SmG.nil (aa ?_)
   refine aW hF rfl ?_
   refine Sm.seq ?_
   refine ab hF rfl ?_
   refine gv hF oM (gv hF oM ?_)
   refine SmG.callO hF rfl rfl (by kernel_rfl) rfl rfl rfl (k1) ?_
   refine gv hF oM ?_
   refine gv hF (by first | exact aX rfl rfl rfl | exact ic rfl rfl) ?_
   refine gv hF (by first | exact aX rfl rfl rfl | exact hU rfl rfl rfl) ?_
   refine gv hF oA (gv hF oA (SmG.nil (aa (Sm.seq ?_))))
   refine ab hF rfl ?_
   refine gv hF oM ?_
   refine gv hF (cE rfl rfl (by simp (disch := omega) only [go_sem, Nat.reduceEqDiff, ar] <;> rfl)) ?_
   refine SmG.appendOwn hF yb rfl rfl rfl rfl rfl rfl rfl (by first | rfl | (simp; done) | (simp; omega)) (Or.inl rfl) (by (repeat' first | exact bm _ | refine bf ?_ | refine ap ?_ (aM _ _ _) | refine ap ?_ (aM _ _ [_]) | refine ap ?_ (bB (by rfl)))) ?_ ?_ ?_; rotate_left; rotate_left; simp only [gg, Pk.v, V.free, rep, bne_self_eq_false, Nat.reduceAdd, Nat.reduceBNe, Nat.reduceBEq, Nat.reduceEqDiff, reduceIte, Bool.false_eq_true]
   rotate_left
   ·simp only [List.length_map, List.length_cons, List.length_nil]; omega
   ·simp only [List.length_map, List.length_cons, List.length_nil]; omega
   rw [tz]
   refine gv hF oA (gv hF oA (SmG.nil (aa (Sm.ret ?_))))
   simp only [bT, cK]
   exact ⟨0, rfl, rfl⟩
  ·have k1 := ih (n - Sha.cut n) (by omega) (i - Sha.cut n) (by omega) (by omega)
   rw [Sha.sides_high h2 (by omega)] at hsl ⊢
   rw [show ((n - Sha.cut n : Nat) : Int) = (n : Int) - (Sha.cut n : Nat) by omega, show ((i - Sha.cut n : Nat) : Int) = (i : Int) - (Sha.cut n : Nat) by omega] at k1
   have hl1 : (Sha.sides (n - Sha.cut n) (i - Sha.cut n)).length ≤ 4294967296 := by have := lM (n - Sha.cut n) (i - Sha.cut n); omega
   generalize Sha.sides (n - Sha.cut n) (i - Sha.cut n) = ss at k1 hsl hl1 ⊢
   generalize Sha.cut n = m at hm1 hmp k0 hi k1
   refine cA.of Tryd.func73 rfl Tryd.ntmps73 (by simp) ?_; intro F hF h0 hT; simp only [List.zipIdx_cons, List.zipIdx_nil, List.map_cons, List.map_nil, Nat.zero_add, Nat.reduceAdd]
   refine Sm.seq ?_
   refine ab hF rfl ?_
   refine gv hF oA (gv hF oA (SmG.nil (aa (Sm.seq (Sm.seq ?_)))))
   refine ab hF rfl ?_
   refine gv hF oM ?_
   refine gv hF (aq rfl rfl rfl (by first | exact bp _ _ _ _ _ (by omega) | exact br _ _ _ _ _ (by omega) | exact bF _ _ _ _ _ _ _)) ?_
   refine gv hF oM ?_
   first | refine gv hF oM ?_ | refine gp hF ?_
   first | refine gv hF oM ?_ | refine gp hF ?_
   first | refine gv hF (aq rfl rfl rfl (by first | exact iQ _ _ _ _ _ (by omega) | exact iM _ _ _ _ _ (by omega) | exact io _ _ _ _ _ _ _)) ?_ | refine gp hF ?_
   first | refine gv hF (aw rfl rfl rfl) ?_ | refine gv hF (ah rfl rfl rfl) ?_
   refine SmG.nil (aa ?_)
   refine ba hF rfl ?_
   refine Sm.skip ?_
   refine aa (Sm.seq (Sm.seq ?_))
   refine ab hF rfl ?_
   refine gv hF oM ?_
   refine gv hF (aq rfl rfl rfl (by first | exact ik _ _ _ _ _ (by omega) | exact ig _ _ _ _ _ (by omega) | exact gK _ _ _ _ _ _ _)) ?_
   refine SmG.nil (aa ?_)
   refine ba hF rfl ?_
   refine Sm.skip ?_
   refine aa (Sm.seq ?_)
   refine ab hF rfl ?_
   refine gv hF oM ?_
   refine SmG.call hF rfl rfl (by kernel_rfl) rfl rfl rfl (k0) ?_
   refine gv hF oA (SmG.nil (aa (Sm.seq (Sm.seq ?_))))
   refine ab hF rfl ?_
   refine gv hF oM (gv hF oM ?_)
   refine gv hF (aq rfl rfl rfl (by first | exact bp _ _ _ _ _ (by omega) | exact br _ _ _ _ _ (by omega) | exact bF _ _ _ _ _ _ _)) ?_
   refine SmG.nil (aa ?_)
   refine ba hF rfl ?_
   refine Sm.skip ?_
   refine aa (Sm.seq ?_)
   refine ab hF rfl ?_
   refine gv hF oM (gv hF oM ?_)
   refine gv hF (aq rfl rfl rfl (by first | exact iE _ _ _ _ _ (bK _ (by omega)) | exact gP _ _ _ _ _ _ _)) ?_
   refine gv hF oM (gv hF oM ?_)
   refine gv hF (aq rfl rfl rfl (by first | exact iE _ _ _ _ _ (bK _ (by omega)) | exact gP _ _ _ _ _ _ _)) ?_
   refine SmG.callO hF rfl rfl (by kernel_rfl) rfl rfl rfl (k1) ?_
   refine gv hF oM ?_
   refine gv hF (by first | exact aX rfl rfl rfl | exact ic rfl rfl) ?_
   refine gv hF (by first | exact aX rfl rfl rfl | exact hU rfl rfl rfl) ?_
   refine gv hF oA (gv hF oA (SmG.nil (aa (Sm.seq ?_))))
   refine ab hF rfl ?_
   refine gv hF oM ?_
   refine gv hF (cE rfl rfl (by simp (disch := omega) only [go_sem, Nat.reduceEqDiff, ar] <;> rfl)) ?_
   refine SmG.appendOwn hF yb rfl rfl rfl rfl rfl rfl rfl (by first | rfl | (simp; done) | (simp; omega)) (Or.inl rfl) (by (repeat' first | exact bm _ | refine bf ?_ | refine ap ?_ (aM _ _ _) | refine ap ?_ (aM _ _ [_]) | refine ap ?_ (bB (by rfl)))) ?_ ?_ ?_; rotate_left; rotate_left; simp only [gg, Pk.v, V.free, rep, bne_self_eq_false, Nat.reduceAdd, Nat.reduceBNe, Nat.reduceBEq, Nat.reduceEqDiff, reduceIte, Bool.false_eq_true]
   rotate_left
   ·simp only [List.length_map, List.length_cons, List.length_nil]; omega
   ·simp only [List.length_map, List.length_cons, List.length_nil]; omega
   rw [tz]
   refine gv hF oA (gv hF oA (SmG.nil (aa (Sm.ret ?_))))
   exact ⟨0, rfl, rfl⟩
 ·obtain rfl : n = 1 := by omega
  rw [Sha.sides_one i (by omega)]
  refine cA.of Tryd.func73 rfl Tryd.ntmps73 (by simp) ?_; intro F hF h0 hT; simp only [List.zipIdx_cons, List.zipIdx_nil, List.map_cons, List.map_nil, Nat.zero_add, Nat.reduceAdd]
  refine Sm.seq ?_
  refine ab hF rfl ?_
  refine gv hF oA (gv hF oA (SmG.nil (aa (Sm.seq (Sm.seq ?_)))))
  refine ab hF rfl ?_
  refine gv hF oM ?_
  refine gv hF (aq rfl rfl rfl (by first | exact bp _ _ _ _ _ (by omega) | exact br _ _ _ _ _ (by omega) | exact bF _ _ _ _ _ _ _)) ?_
  refine gv hF oM ?_
  first | refine gv hF oM ?_ | refine gp hF ?_
  first | refine gv hF oM ?_ | refine gp hF ?_
  first | refine gv hF (aq rfl rfl rfl (by first | exact iQ _ _ _ _ _ (by omega) | exact iM _ _ _ _ _ (by omega) | exact io _ _ _ _ _ _ _)) ?_ | refine gp hF ?_
  first | refine gv hF (aw rfl rfl rfl) ?_ | refine gv hF (ah rfl rfl rfl) ?_
  refine SmG.nil (aa ?_)
  refine ba hF rfl ?_
  refine Sm.skip ?_
  refine aa (Sm.seq (Sm.seq ?_))
  refine ab hF rfl ?_
  refine gv hF oM ?_
  refine gv hF (aq rfl rfl rfl (by first | exact ik _ _ _ _ _ (by omega) | exact ig _ _ _ _ _ (by omega) | exact gK _ _ _ _ _ _ _)) ?_
  refine SmG.nil (aa ?_)
  refine aW hF rfl ?_
  refine Sm.seq ?_
  refine ab hF rfl ?_
  refine gv hF oA ?_
  refine SmG.own (t := 4) (sz := 0) 1 rfl ?_
  refine gv hF oA (SmG.nil (aa (Sm.ret ?_)))
  simp only [bT, cK]
  exact ⟨0, rfl, rfl⟩
theorem vf (G : Nat → Option D) (n i : Nat) (hin : i < n) (hn : n ≤ 4294967296) : aj Tryd.prog G 73 [.v (.int .i64 n), .v (.int .i64 i)] (.tup [.list 1 ((Sha.sides n i).map dt) false, .v (.bool true)]) := (zF G n i hin hn).data
theorem wm (G : Nat → Option D) (n i : Int) (h : i < 0 ∨ n ≤ i) : aj Tryd.prog G 73 [.v (.int .i64 n), .v (.int .i64 i)] (.tup [.list 0 [] true, .v (.bool false)]) := by
 by_cases hi : i < 0
 ·refine aj.of Tryd.func73 rfl Tryd.ntmps73 (by simp) ?_; intro F hF h0 hT; simp only [List.zipIdx_cons, List.zipIdx_nil, List.map_cons, List.map_nil, Nat.zero_add, Nat.reduceAdd]
  refine Sm.seq ?_
  refine ab hF rfl ?_
  refine gv hF oA (gv hF oA (SmG.nil (aa (Sm.seq (Sm.seq ?_)))))
  refine ab hF rfl ?_
  refine gv hF oM ?_
  refine gv hF (aq rfl rfl rfl (by first | exact bp _ _ _ _ _ (by omega) | exact br _ _ _ _ _ (by omega) | exact bF _ _ _ _ _ _ _)) ?_
  refine gv hF oM ?_
  first | refine gv hF oM ?_ | refine gp hF ?_
  first | refine gv hF oM ?_ | refine gp hF ?_
  first | refine gv hF (aq rfl rfl rfl (by first | exact iQ _ _ _ _ _ (by omega) | exact iM _ _ _ _ _ (by omega) | exact io _ _ _ _ _ _ _)) ?_ | refine gp hF ?_
  first | refine gv hF (aw rfl rfl rfl) ?_ | refine gv hF (ah rfl rfl rfl) ?_
  refine SmG.nil (aa ?_)
  refine aW hF rfl ?_
  refine Sm.seq ?_
  refine ab hF rfl ?_
  refine gv hF oA (gv hF oA (SmG.nil (aa (Sm.ret ?_))))
  simp only [bT, cK]
  refine ⟨_, rfl, ?_⟩; dsimp only
  exact D.le.refl _
 ·have hin : n ≤ i := by omega
  refine aj.of Tryd.func73 rfl Tryd.ntmps73 (by simp) ?_; intro F hF h0 hT; simp only [List.zipIdx_cons, List.zipIdx_nil, List.map_cons, List.map_nil, Nat.zero_add, Nat.reduceAdd]
  refine Sm.seq ?_
  refine ab hF rfl ?_
  refine gv hF oA (gv hF oA (SmG.nil (aa (Sm.seq (Sm.seq ?_)))))
  refine ab hF rfl ?_
  refine gv hF oM ?_
  refine gv hF (aq rfl rfl rfl (by first | exact bp _ _ _ _ _ (by omega) | exact br _ _ _ _ _ (by omega) | exact bF _ _ _ _ _ _ _)) ?_
  refine gv hF oM ?_
  first | refine gv hF oM ?_ | refine gp hF ?_
  first | refine gv hF oM ?_ | refine gp hF ?_
  first | refine gv hF (aq rfl rfl rfl (by first | exact iQ _ _ _ _ _ (by omega) | exact iM _ _ _ _ _ (by omega) | exact io _ _ _ _ _ _ _)) ?_ | refine gp hF ?_
  first | refine gv hF (aw rfl rfl rfl) ?_ | refine gv hF (ah rfl rfl rfl) ?_
  refine SmG.nil (aa ?_)
  refine aW hF rfl ?_
  refine Sm.seq ?_
  refine ab hF rfl ?_
  refine gv hF oA (gv hF oA (SmG.nil (aa (Sm.ret ?_))))
  simp only [bT, cK]
  refine ⟨_, rfl, ?_⟩; dsimp only
  exact D.le.refl _
end
section
open Go.RowKit
set_option maxRecDepth 100000
theorem rX (r : List (Bool × List UInt8)) : ∀ x : List UInt8, x.length ≤ 900001 → (∀ e ∈ r, e.2.length = 32) → ∃ e, (Sha.chain x r)[r.length]? = some e ∧ Sha.sum e = Sha.top x r ∧ e.length ≤ 900001 := by
 induction r with
 | nil => intro x hx _; exact ⟨x, rfl, rfl, hx⟩
 | cons e r ih =>
  obtain ⟨s, q⟩ := e
  intro x hx hq
  have hj : (Sha.join s q (Sha.sum x)).length ≤ 900001 := by
   have h1 := hq (s, q) (by simp)
   have h2 := Sha.sum_len x
   cases s <;> simp [Sha.join] <;> simp at h1 <;> omega
  obtain ⟨e, h1, h2, h3⟩ := ih _ hj fun e he => hq e (by simp [he])
  exact ⟨e, by simpa [Sha.chain] using h1, by simpa [Sha.top] using h2, h3⟩
theorem vo (r : List (Bool × List UInt8)) : ∀ x, (Sha.top x r).length = 32 := by
 induction r with
 | nil => intro x; exact Sha.sum_len x
 | cons e r ih => intro x; obtain ⟨s, q⟩ := e; exact ih _
theorem xC (k : Blk) (sz : Nat) (rows : List (List D)) : ltH 1 [(1, k), (0, dB sz rows)] := tI (qm (u7 _) (zi _ sz rows)) (Nat.le_refl _)
theorem zO (G : Nat → Option D) (n i : Nat) (b : List UInt8) (p : List (List UInt8)) (hin : i < n) (hn : n ≤ 4294967296) (hb : b.length ≤ 900000) (hp : lO p) (hpl : p.length ≤ 1000000) :
  aj Tryd.prog G 53 [.v (.int .i64 n), .v (.int .i64 i), bh b, bO p] (aO (Sha.chain (0 :: b) ((Sha.sides n i).zip p))) := by
 have hsd := vf G n i hin hn
 have hsl := lM n i
 generalize Sha.sides n i = ss at hsd hsl ⊢
 have hx : (0 :: b).length ≤ 900001 := by simp; omega
 refine aj.of Tryd.func53 rfl Tryd.ntmps53 (by simp) ?_; intro F hF h0 hT; simp only [List.zipIdx_cons, List.zipIdx_nil, List.map_cons, List.map_nil, Nat.zero_add, Nat.reduceAdd]
 refine Sm.seq ?_
 refine ab hF rfl ?_
 refine gv hF oA (SmG.nil (aa (Sm.seq ?_)))
 refine ab hF rfl ?_
 refine gv hF oM (gv hF oM ?_)
 refine SmG.call hF rfl rfl (by kernel_rfl) rfl rfl rfl (hsd) ?_
 refine gv hF oM ?_
 refine gv hF (by first | exact aX rfl rfl rfl | exact ic rfl rfl) ?_
 refine gv hF (by first | exact aX rfl rfl rfl | exact hU rfl rfl rfl) ?_
 refine gv hF oA (gv hF oA (SmG.nil (aa (Sm.seq ?_))))
 refine ab hF rfl ?_
 refine gv hF oM ?_
 refine SmG.call hF rfl rfl (by kernel_rfl) rfl rfl rfl (pP b hb G) ?_
 refine SmG.buildOwn hF rfl rfl rfl rfl rfl (by simp (disch := omega) only [go_sem, Nat.reduceEqDiff, ar, aO, bO, dt] <;> rfl) (by simp) ?_
 refine gv hF oA (SmG.nil (aa (Sm.seq (Sm.seq ?_))))
 refine ab hF rfl ?_
 refine gv hF oA (SmG.nil (aa (Sm.block ?_)))
 generalize hxx : (0 :: b) = x at hx ⊢
 have hz : ∀ k, k < (ss.zip p).length → ∃ s q, ss[k]? = some s ∧ p[k]? = some q ∧ (ss.zip p).take (k + 1) = (ss.zip p).take k ++ [(s, q)] ∧ q.length = 32 := by
  intro k hk
  have hk1 : k < ss.length := by rw [List.length_zip] at hk; omega
  have hk2 : k < p.length := by rw [List.length_zip] at hk; omega
  refine ⟨ss[k], p[k], by simp, by simp, ?_, hp _ (List.getElem_mem hk2)⟩
  rw [List.take_succ_eq_append_getElem hk]; simp
 have hq : ∀ e ∈ ss.zip p, e.2.length = 32 := fun e he => hp _ (List.of_mem_zip he).2
 have hzl : (ss.zip p).length = min ss.length p.length := List.length_zip
 generalize ss.zip p = z at hz hq hzl ⊢
 refine Sm.loop (ι := {k : Nat // k ≤ z.length}) (fun k => ⟨[(3, .d (bO p)), (9, .d (.list 1 (ss.map dt) false)), (11, .sref 0 0 ((Sha.chain x (z.take k.1)).map bq).length), (12, .d (.v (.int .i64 k.1)))], [(0, dB 1 ((Sha.chain x (z.take k.1)).map bq))], 1⟩) (fun k => z.length - k.1) (⟨0, by omega⟩) ?_ ?_
 ·exact cj (by first | (simp [leE, look, bd] <;> omega) | (simp [leE, look, bd, List.take_zero, Sha.chain] <;> omega)) (by simp only [leH, look, rep, reduceIte, Nat.reduceEqDiff, List.set_cons_zero, List.set_cons_succ, List.take_zero, Sha.chain, and_self, and_true, and_false, false_and, if_true, if_false] <;> (repeat' first | rfl | constructor)) (by first | exact Nat.le_refl _ | (dsimp only; omega))
 rintro ⟨k, hk⟩
 simp only
 by_cases hlt : k < z.length
 ·obtain ⟨s, q, hs, hpk, htk, hq32⟩ := hz k hlt
  obtain ⟨e, he1, he2, he3⟩ := rX (z.take k) x hx fun e he => hq e (List.mem_of_mem_take he)
  have htl : (z.take k).length = k := by rw [List.length_take]; omega
  rw [htl] at he1
  have hLl : (Sha.chain x (z.take k)).length = k + 1 := by rw [Sha.chain_length, htl]
  have k1 := lV e (by omega) G
  rw [he2] at k1
  have hT := vo (z.take k) x
  have hnext := Sha.chain_snoc s q (z.take k) x
  rw [← htk] at hnext
  generalize Sha.top x (z.take k) = T at k1 hT hnext
  generalize Sha.chain x (z.take k) = L at he1 hLl hnext ⊢
  have hcast : (((k + 1 : Nat) : Int) - 1).toNat = k := by omega
  have hbound : k < p.length ∧ k < ss.length := by omega
  cases s with
  | true =>
   have k2 : aj Tryd.prog G 58 [aY q, aY T] (bh (Sha.join true q T)) := mO q T hq32 hT G
   refine Sm.seq (Sm.seq ?_)
   refine ab hF rfl ?_
   refine gv hF oM (gv hF oM ?_)
   refine gv hF (bk rfl rfl (by simp (disch := omega) only [go_sem, Nat.reduceEqDiff, ar, aO, bO, aY, bq, dt, av, hT, hs, hpk, he1, hLl, hcast] <;> rfl)) ?_
   refine gv hF (aq rfl rfl rfl (by first | exact bp _ _ _ _ _ (by omega) | exact br _ _ _ _ _ (by omega) | exact bF _ _ _ _ _ _ _)) ?_
   refine gv hF oM ?_
   first | refine gv hF oM ?_ | refine gp hF ?_
   first | refine gv hF oM ?_ | refine gp hF ?_
   first | refine gv hF (bk rfl rfl (by simp (disch := omega) only [go_sem, Nat.reduceEqDiff, ar, aO, bO, aY, bq, dt, av, hT, hs, hpk, he1, hLl, hcast] <;> rfl)) ?_ | refine gp hF ?_
   first | refine gv hF (aq rfl rfl rfl (by first | exact bp _ _ _ _ _ (by omega) | exact br _ _ _ _ _ (by omega) | exact bF _ _ _ _ _ _ _)) ?_ | refine gp hF ?_
   first | refine gv hF (aw rfl rfl rfl) ?_ | refine gv hF (ah rfl rfl rfl) ?_
   refine SmG.nil (aa ?_)
   refine aW hF rfl ?_
   refine Sm.skip ?_
   refine aa (Sm.seq (Sm.block (Sm.seq ?_)))
   refine ab hF rfl ?_
   refine gv hF oM (gv hF oM ?_)
   refine gv hF (bk rfl rfl (by simp (disch := omega) only [go_sem, Nat.reduceEqDiff, ar, aO, bO, aY, bq, dt, av, hT, hs, hpk, he1, hLl, hcast] <;> rfl)) ?_
   refine gv hF (aq rfl rfl rfl (by first | exact iE _ _ _ _ _ (bK _ (by omega)) | exact gP _ _ _ _ _ _ _)) ?_
   refine gv hF (aA rfl rfl rfl (by simp (disch := omega) only [go_sem, Nat.reduceEqDiff, ar, aO, bO, aY, bq, dt, av, hT, hs, hpk, he1, hLl, hcast] <;> rfl)) ?_
   refine gv hF (aQ rfl rfl (by simp (disch := omega) only [go_sem, Nat.reduceEqDiff, ar, aO, bO, aY, bq, dt, av, hT, hs, hpk, he1, hLl, hcast] <;> rfl)) ?_
   refine SmG.call hF rfl rfl (by kernel_rfl) rfl rfl rfl (k1) ?_
   refine SmG.new hF rfl rfl rfl (aI rfl kw) ?_
   refine SmG.store hF rfl rfl rfl rfl rfl (by simp (disch := omega) only [go_sem, Nat.reduceEqDiff, ar, aO, bO, aY, bq, dt, av, hT, hs, hpk, he1, hLl, hcast] <;> rfl) ?_
   refine SmG.nil (aa (Sm.seq ?_))
   refine ab hF rfl ?_
   refine gv hF oM (gv hF oM ?_)
   refine gv hF (aA rfl rfl rfl (by simp (disch := omega) only [go_sem, Nat.reduceEqDiff, ar, aO, bO, aY, bq, dt, av, hT, hs, hpk, he1, hLl, hcast] <;> rfl)) ?_
   refine gv hF (aQ rfl rfl (by simp (disch := omega) only [go_sem, Nat.reduceEqDiff, ar, aO, bO, aY, bq, dt, av, hT, hs, hpk, he1, hLl, hcast] <;> rfl)) ?_
   refine SmG.nil (aa ?_)
   refine aW hF rfl ?_
   refine eP hF (by kernel_rfl) rfl 8 (by kernel_rfl) (by kernel_rfl) ?_
   simp only [List.take_succ_cons, List.take_zero, List.take_nil]
   refine hv hF oM (hv hF oM (hv hF oM ?_))
   refine hv hF (aA rfl rfl rfl (by simp (disch := omega) only [go_sem, Nat.reduceEqDiff, ar, aO, bO, aY, bq, dt, av, hT, hs, hpk, he1, hLl, hcast] <;> rfl)) ?_
   refine hv hF (aQ rfl rfl (by simp (disch := omega) only [go_sem, Nat.reduceEqDiff, ar, aO, bO, aY, bq, dt, av, hT, hs, hpk, he1, hLl, hcast] <;> rfl)) ?_
   refine hv hF (aQ rfl rfl (by simp (disch := omega) only [go_sem, Nat.reduceEqDiff, ar, aO, bO, aY, bq, dt, av, hT, hs, hpk, he1, hLl, hcast] <;> rfl)) ?_
   refine aD.c hF rfl rfl (by kernel_rfl) rfl rfl rfl (k2) ?_
   refine hv hF (cE rfl rfl (by simp (disch := omega) only [go_sem, Nat.reduceEqDiff, ar, aO, bO, aY, bq, dt, av, hT, hs, hpk, he1, hLl, hcast] <;> rfl)) ?_
   refine aD.last ⟨rfl, ?_⟩
   simp only [List.drop_succ_cons, List.drop_zero, List.drop_nil, List.nil_append, List.cons_append]
   refine SmG.appendOwn hF Bi rfl rfl rfl rfl rfl rfl rfl (by first | rfl | (simp; done) | (simp; omega)) (Or.inl rfl) (by (repeat' first | exact bm _ | refine bf ?_ | refine ap ?_ (aM _ _ _) | refine ap ?_ (aM _ _ [_]) | refine ap ?_ (bB (by rfl)))) ?_ ?_ ?_; rotate_left; rotate_left; simp only [gg, Pk.v, V.free, rep, bne_self_eq_false, Nat.reduceAdd, Nat.reduceBNe, Nat.reduceBEq, Nat.reduceEqDiff, reduceIte, Bool.false_eq_true]
   rotate_left
   ·simp only [List.length_map, List.length_cons, List.length_nil]; omega
   ·simp only [List.length_map, List.length_cons, List.length_nil]; omega
   rw [tK, ← hnext]
   refine SmG.cut 1 (by exact xC _ _ _) ?_; simp only [Pk.v, o1, mH, V.lt, Nat.reduceAdd, Nat.reduceLT, decide_true, decide_false, reduceIte, Bool.false_eq_true, Nat.lt_irrefl, Nat.not_lt_zero, Nat.zero_lt_one, Nat.zero_lt_succ, Nat.zero_lt_two, Nat.one_lt_two]
   refine gv hF oA (SmG.nil (ay (aa ?_)))
   refine ab hF rfl ?_
   refine gv hF oM ?_
   refine gv hF (aq rfl rfl rfl (by first | exact gm _ _ _ _ _ (bK _ (by omega)) | exact cR _ _ _ _ _ _ _)) ?_
   refine gv hF oA (SmG.nil (aa ?_))
   exact ⟨⟨k + 1, by omega⟩, by show z.length - (k + 1) < z.length - k; omega, by exact cj (by simp [leE, look, bd]) (by simp [leH, look, rep]) (by first | exact Nat.le_refl _ | (dsimp only; omega))⟩
  | false =>
   have k2 : aj Tryd.prog G 58 [aY T, aY q] (bh (Sha.join false q T)) := mO T q hT hq32 G
   refine Sm.seq (Sm.seq ?_)
   refine ab hF rfl ?_
   refine gv hF oM (gv hF oM ?_)
   refine gv hF (bk rfl rfl (by simp (disch := omega) only [go_sem, Nat.reduceEqDiff, ar, aO, bO, aY, bq, dt, av, hT, hs, hpk, he1, hLl, hcast] <;> rfl)) ?_
   refine gv hF (aq rfl rfl rfl (by first | exact bp _ _ _ _ _ (by omega) | exact br _ _ _ _ _ (by omega) | exact bF _ _ _ _ _ _ _)) ?_
   refine gv hF oM ?_
   first | refine gv hF oM ?_ | refine gp hF ?_
   first | refine gv hF oM ?_ | refine gp hF ?_
   first | refine gv hF (bk rfl rfl (by simp (disch := omega) only [go_sem, Nat.reduceEqDiff, ar, aO, bO, aY, bq, dt, av, hT, hs, hpk, he1, hLl, hcast] <;> rfl)) ?_ | refine gp hF ?_
   first | refine gv hF (aq rfl rfl rfl (by first | exact bp _ _ _ _ _ (by omega) | exact br _ _ _ _ _ (by omega) | exact bF _ _ _ _ _ _ _)) ?_ | refine gp hF ?_
   first | refine gv hF (aw rfl rfl rfl) ?_ | refine gv hF (ah rfl rfl rfl) ?_
   refine SmG.nil (aa ?_)
   refine aW hF rfl ?_
   refine Sm.skip ?_
   refine aa (Sm.seq (Sm.block (Sm.seq ?_)))
   refine ab hF rfl ?_
   refine gv hF oM (gv hF oM ?_)
   refine gv hF (bk rfl rfl (by simp (disch := omega) only [go_sem, Nat.reduceEqDiff, ar, aO, bO, aY, bq, dt, av, hT, hs, hpk, he1, hLl, hcast] <;> rfl)) ?_
   refine gv hF (aq rfl rfl rfl (by first | exact iE _ _ _ _ _ (bK _ (by omega)) | exact gP _ _ _ _ _ _ _)) ?_
   refine gv hF (aA rfl rfl rfl (by simp (disch := omega) only [go_sem, Nat.reduceEqDiff, ar, aO, bO, aY, bq, dt, av, hT, hs, hpk, he1, hLl, hcast] <;> rfl)) ?_
   refine gv hF (aQ rfl rfl (by simp (disch := omega) only [go_sem, Nat.reduceEqDiff, ar, aO, bO, aY, bq, dt, av, hT, hs, hpk, he1, hLl, hcast] <;> rfl)) ?_
   refine SmG.call hF rfl rfl (by kernel_rfl) rfl rfl rfl (k1) ?_
   refine SmG.new hF rfl rfl rfl (aI rfl kw) ?_
   refine SmG.store hF rfl rfl rfl rfl rfl (by simp (disch := omega) only [go_sem, Nat.reduceEqDiff, ar, aO, bO, aY, bq, dt, av, hT, hs, hpk, he1, hLl, hcast] <;> rfl) ?_
   refine SmG.nil (aa (Sm.seq ?_))
   refine ab hF rfl ?_
   refine gv hF oM (gv hF oM ?_)
   refine gv hF (aA rfl rfl rfl (by simp (disch := omega) only [go_sem, Nat.reduceEqDiff, ar, aO, bO, aY, bq, dt, av, hT, hs, hpk, he1, hLl, hcast] <;> rfl)) ?_
   refine gv hF (aQ rfl rfl (by simp (disch := omega) only [go_sem, Nat.reduceEqDiff, ar, aO, bO, aY, bq, dt, av, hT, hs, hpk, he1, hLl, hcast] <;> rfl)) ?_
   refine SmG.nil (aa ?_)
   refine ba hF rfl ?_
   refine eP hF (by kernel_rfl) rfl 8 (by kernel_rfl) (by kernel_rfl) ?_
   simp only [List.take_succ_cons, List.take_zero, List.take_nil]
   refine hv hF oM ?_
   refine hv hF (aQ rfl rfl (by simp (disch := omega) only [go_sem, Nat.reduceEqDiff, ar, aO, bO, aY, bq, dt, av, hT, hs, hpk, he1, hLl, hcast] <;> rfl)) ?_
   refine hv hF oM (hv hF oM ?_)
   refine hv hF (aA rfl rfl rfl (by simp (disch := omega) only [go_sem, Nat.reduceEqDiff, ar, aO, bO, aY, bq, dt, av, hT, hs, hpk, he1, hLl, hcast] <;> rfl)) ?_
   refine hv hF (aQ rfl rfl (by simp (disch := omega) only [go_sem, Nat.reduceEqDiff, ar, aO, bO, aY, bq, dt, av, hT, hs, hpk, he1, hLl, hcast] <;> rfl)) ?_
   refine aD.c hF rfl rfl (by kernel_rfl) rfl rfl rfl (k2) ?_
   refine hv hF (cE rfl rfl (by simp (disch := omega) only [go_sem, Nat.reduceEqDiff, ar, aO, bO, aY, bq, dt, av, hT, hs, hpk, he1, hLl, hcast] <;> rfl)) ?_
   refine aD.last ⟨rfl, ?_⟩
   simp only [List.drop_succ_cons, List.drop_zero, List.drop_nil, List.nil_append, List.cons_append]
   refine SmG.appendOwn hF Bi rfl rfl rfl rfl rfl rfl rfl (by first | rfl | (simp; done) | (simp; omega)) (Or.inl rfl) (by (repeat' first | exact bm _ | refine bf ?_ | refine ap ?_ (aM _ _ _) | refine ap ?_ (aM _ _ [_]) | refine ap ?_ (bB (by rfl)))) ?_ ?_ ?_; rotate_left; rotate_left; simp only [gg, Pk.v, V.free, rep, bne_self_eq_false, Nat.reduceAdd, Nat.reduceBNe, Nat.reduceBEq, Nat.reduceEqDiff, reduceIte, Bool.false_eq_true]
   rotate_left
   ·simp only [List.length_map, List.length_cons, List.length_nil]; omega
   ·simp only [List.length_map, List.length_cons, List.length_nil]; omega
   rw [tK, ← hnext]
   refine SmG.cut 1 (by exact xC _ _ _) ?_; simp only [Pk.v, o1, mH, V.lt, Nat.reduceAdd, Nat.reduceLT, decide_true, decide_false, reduceIte, Bool.false_eq_true, Nat.lt_irrefl, Nat.not_lt_zero, Nat.zero_lt_one, Nat.zero_lt_succ, Nat.zero_lt_two, Nat.one_lt_two]
   refine gv hF oA (SmG.nil (ay (aa ?_)))
   refine ab hF rfl ?_
   refine gv hF oM ?_
   refine gv hF (aq rfl rfl rfl (by first | exact gm _ _ _ _ _ (bK _ (by omega)) | exact cR _ _ _ _ _ _ _)) ?_
   refine gv hF oA (SmG.nil (aa ?_))
   exact ⟨⟨k + 1, by omega⟩, by show z.length - (k + 1) < z.length - k; omega, by exact cj (by simp [leE, look, bd]) (by simp [leH, look, rep]) (by first | exact Nat.le_refl _ | (dsimp only; omega))⟩
 ·have hke : k = z.length := by omega
  by_cases hkp : k < p.length
  ·have hks : ¬ k < ss.length := by omega
   refine Sm.seq (Sm.seq ?_)
   refine ab hF rfl ?_
   refine gv hF oM (gv hF oM ?_)
   refine gv hF (bk rfl rfl (by simp (disch := omega) only [go_sem, Nat.reduceEqDiff, ar, bO] <;> rfl)) ?_
   refine gv hF (aq rfl rfl rfl (by first | exact bp _ _ _ _ _ (by omega) | exact br _ _ _ _ _ (by omega) | exact bF _ _ _ _ _ _ _)) ?_
   refine gv hF oM ?_
   first | refine gv hF oM ?_ | refine gp hF ?_
   first | refine gv hF oM ?_ | refine gp hF ?_
   first | refine gv hF (bk rfl rfl (by simp (disch := omega) only [go_sem, Nat.reduceEqDiff, ar, bO] <;> rfl)) ?_ | refine gp hF ?_
   first | refine gv hF (aq rfl rfl rfl (by first | exact bp _ _ _ _ _ (by omega) | exact br _ _ _ _ _ (by omega) | exact bF _ _ _ _ _ _ _)) ?_ | refine gp hF ?_
   first | refine gv hF (aw rfl rfl rfl) ?_ | refine gv hF (ah rfl rfl rfl) ?_
   refine SmG.nil (aa ?_)
   refine ba hF rfl ?_
   refine Sm.freeze (l := 0) _ rfl ?_
   simp only [Pk.v, j6, fg, gR,  reduceIte, Nat.reduceAdd, Nat.zero_add, List.length_map, List.length_append, Nat.le_refl, true_and, and_self, if_true, Nat.reduceEqDiff, true_and]
   refine Sm.exit ?_
   simp only [bT, cK, reduceIte, reduceCtorEq]
   refine Sm.seq ?_
   refine ab hF rfl ?_
   refine gv hF oM (gv hF oA (SmG.nil (aa (Sm.ret ?_))))
   refine ⟨_, rfl, ?_⟩; dsimp only
   rw [List.take_of_length_le (by omega)]; exact D.le.refl _
  ·refine Sm.seq (Sm.seq ?_)
   refine ab hF rfl ?_
   refine gv hF oM (gv hF oM ?_)
   refine gv hF (bk rfl rfl (by simp (disch := omega) only [go_sem, Nat.reduceEqDiff, ar, bO] <;> rfl)) ?_
   refine gv hF (aq rfl rfl rfl (by first | exact bp _ _ _ _ _ (by omega) | exact br _ _ _ _ _ (by omega) | exact bF _ _ _ _ _ _ _)) ?_
   refine gv hF oM ?_
   first | refine gv hF oM ?_ | refine gp hF ?_
   first | refine gv hF oM ?_ | refine gp hF ?_
   first | refine gv hF (bk rfl rfl (by simp (disch := omega) only [go_sem, Nat.reduceEqDiff, ar, bO] <;> rfl)) ?_ | refine gp hF ?_
   first | refine gv hF (aq rfl rfl rfl (by first | exact bp _ _ _ _ _ (by omega) | exact br _ _ _ _ _ (by omega) | exact bF _ _ _ _ _ _ _)) ?_ | refine gp hF ?_
   first | refine gv hF (aw rfl rfl rfl) ?_ | refine gv hF (ah rfl rfl rfl) ?_
   refine SmG.nil (aa ?_)
   refine ba hF rfl ?_
   refine Sm.freeze (l := 0) _ rfl ?_
   simp only [Pk.v, j6, fg, gR,  reduceIte, Nat.reduceAdd, Nat.zero_add, List.length_map, List.length_append, Nat.le_refl, true_and, and_self, if_true, Nat.reduceEqDiff, true_and]
   refine Sm.exit ?_
   simp only [bT, cK, reduceIte, reduceCtorEq]
   refine Sm.seq ?_
   refine ab hF rfl ?_
   refine gv hF oM (gv hF oA (SmG.nil (aa (Sm.ret ?_))))
   refine ⟨_, rfl, ?_⟩; dsimp only
   rw [List.take_of_length_le (by omega)]; exact D.le.refl _
end
section
open Go.RowKit
set_option maxRecDepth 100000
end
section
open Go.RowKit
set_option maxRecDepth 100000
theorem wc (R b : List UInt8) (n i : Int) (p : List (List UInt8)) (hR : R.length = 32) (hb : b.length ≤ 900000) (hp : lO p) (hpl : p.length ≤ 900000) (hn : n ≤ 4294967296) (hn0 : -9223372036854775808 ≤ n) (hi0 : -9223372036854775808 ≤ i ∧ i ≤ 9223372036854775807) :
  aj Tryd.prog HG 50 [aY R, .v (.int .i64 n), .v (.int .i64 i), bh b, bO p] (.v (.bool (Sha.check R n i b p))) := by
 by_cases hin : i < 0 ∨ n ≤ i
 ·rw [Sha.check_out _ _ _ _ _ hin]
  have k1 := wm HG n i hin
  refine aj.of Tryd.func50 rfl Tryd.ntmps50 (by simp) ?_; intro F hF h0 hT; simp only [List.zipIdx_cons, List.zipIdx_nil, List.map_cons, List.map_nil, Nat.zero_add, Nat.reduceAdd]
  refine Sm.seq ?_
  refine ab hF rfl ?_
  refine SmG.new hF rfl rfl rfl (jF rfl rfl (by simp (disch := omega) only [go_sem, Nat.reduceEqDiff, ar, bO, aY, av, hR] <;> rfl)) ?_
  refine gv hF oA (SmG.nil (aa (Sm.seq ?_)))
  refine ab hF rfl ?_
  refine gv hF oM (gv hF oM ?_)
  refine SmG.call hF rfl rfl (by kernel_rfl) rfl rfl rfl (k1) ?_
  refine gv hF oM ?_
  refine gv hF (by first | exact aX rfl rfl rfl | exact ic rfl rfl) ?_
  refine gv hF (by first | exact aX rfl rfl rfl | exact hU rfl rfl rfl) ?_
  refine gv hF oA (gv hF oA (SmG.nil (aa (Sm.seq (Sm.seq ?_)))))
  refine ab hF rfl ?_
  refine gv hF oM ?_
  refine gv hF (iG rfl rfl (by first | exact rI _ | exact rj _ | exact iW _)) ?_
  refine gv hF oM ?_
  first | refine gv hF oM ?_ | refine gp hF ?_
  first | refine gv hF (bk rfl rfl (by simp (disch := omega) only [go_sem, Nat.reduceEqDiff, ar, bO, aY, av, hR] <;> rfl)) ?_ | refine gp hF ?_
  first | refine gv hF oM ?_ | refine gp hF ?_
  first | refine gv hF (bk rfl rfl (by simp (disch := omega) only [go_sem, Nat.reduceEqDiff, ar, bO, aY, av, hR] <;> rfl)) ?_ | refine gp hF ?_
  first | refine gv hF (aq rfl rfl rfl (by first | exact kp _ _ _ _ _ (by omega) | exact kc _ _ _ _ _ (by omega) | exact jn _ _ _ _ _ _ _)) ?_ | refine gp hF ?_
  first | refine gv hF (aw rfl rfl rfl) ?_ | refine gv hF (ah rfl rfl rfl) ?_
  refine SmG.nil (aa ?_)
  refine aW hF rfl ?_
  refine Sm.seq ?_
  refine ab hF rfl ?_
  refine gv hF oA (SmG.nil (aa (Sm.ret ?_)))
  simp only [bT, cK]
  refine ⟨_, rfl, ?_⟩; dsimp only
  exact D.le.refl _
 ·obtain ⟨N, rfl⟩ : ∃ N : Nat, n = N := ⟨n.toNat, by omega⟩
  obtain ⟨I, rfl⟩ : ∃ I : Nat, i = I := ⟨i.toNat, by omega⟩
  have hck : Sha.check R N I b p = (decide (p.length = (Sha.sides N I).length) && decide (Sha.top (0 :: b) ((Sha.sides N I).zip p) = R)) := by rw [Sha.check_top, if_neg hin]; simp
  rw [hck]
  clear hck
  have k1 := vf HG N I (by omega) (by omega)
  have k2 := zO HG N I b p (by omega) (by omega) hb hp (by omega)
  have hsl := lM N I
  generalize Sha.sides N I = ss at k1 k2 hsl ⊢
  by_cases hl : p.length = ss.length
  ·obtain ⟨e, he1, he2, he3⟩ := rX (ss.zip p) (0 :: b) (by simp; omega) fun e he => hp _ (List.of_mem_zip he).2
   have hLl := Sha.chain_length (ss.zip p) (0 :: b)
   have hzl : (ss.zip p).length = p.length := by rw [List.length_zip]; omega
   rw [hzl] at he1 hLl
   have k3 := lV e (by omega) HG
   rw [he2] at k3
   have hT := vo (ss.zip p) (0 :: b)
   have hq := xn hT hR
   rw [decide_eq_true hl, Bool.true_and]
   generalize Sha.top (0 :: b) (ss.zip p) = T at k3 hT hq ⊢
   generalize Sha.chain (0 :: b) (ss.zip p) = L at k2 he1 hLl
   have hcast : (((p.length + 1 : Nat) : Int) - 1).toNat = p.length := by omega
   refine aj.of Tryd.func50 rfl Tryd.ntmps50 (by simp) ?_; intro F hF h0 hT; simp only [List.zipIdx_cons, List.zipIdx_nil, List.map_cons, List.map_nil, Nat.zero_add, Nat.reduceAdd]
   refine Sm.seq ?_
   refine ab hF rfl ?_
   refine SmG.new hF rfl rfl rfl (jF rfl rfl (by simp (disch := omega) only [go_sem, Nat.reduceEqDiff, ar, bO, aY, av, hR, aO, bq, he1, hLl, hcast, hq, dt] <;> rfl)) ?_
   refine gv hF oA (SmG.nil (aa (Sm.seq ?_)))
   refine ab hF rfl ?_
   refine gv hF oM (gv hF oM ?_)
   refine SmG.call hF rfl rfl (by kernel_rfl) rfl rfl rfl (k1) ?_
   refine gv hF oM ?_
   refine gv hF (by first | exact aX rfl rfl rfl | exact ic rfl rfl) ?_
   refine gv hF (by first | exact aX rfl rfl rfl | exact hU rfl rfl rfl) ?_
   refine gv hF oA (gv hF oA (SmG.nil (aa (Sm.seq (Sm.seq ?_)))))
   refine ab hF rfl ?_
   refine gv hF oM ?_
   refine gv hF (iG rfl rfl (by first | exact rI _ | exact rj _ | exact iW _)) ?_
   refine gv hF oM ?_
   first | refine gv hF oM ?_ | refine gp hF ?_
   first | refine gv hF (bk rfl rfl (by simp (disch := omega) only [go_sem, Nat.reduceEqDiff, ar, bO, aY, av, hR, aO, bq, he1, hLl, hcast, hq, dt] <;> rfl)) ?_ | refine gp hF ?_
   first | refine gv hF oM ?_ | refine gp hF ?_
   first | refine gv hF (bk rfl rfl (by simp (disch := omega) only [go_sem, Nat.reduceEqDiff, ar, bO, aY, av, hR, aO, bq, he1, hLl, hcast, hq, dt] <;> rfl)) ?_ | refine gp hF ?_
   first | refine gv hF (aq rfl rfl rfl (by first | exact kp _ _ _ _ _ (by omega) | exact kc _ _ _ _ _ (by omega) | exact jn _ _ _ _ _ _ _)) ?_ | refine gp hF ?_
   first | refine gv hF (aw rfl rfl rfl) ?_ | refine gv hF (ah rfl rfl rfl) ?_
   refine SmG.nil (aa ?_)
   refine ba hF rfl ?_
   refine Sm.skip ?_
   refine aa (Sm.seq ?_)
   refine ab hF rfl ?_
   refine gv hF oM (gv hF oM (gv hF oM (gv hF oM ?_)))
   refine SmG.call hF rfl rfl (by kernel_rfl) rfl rfl rfl (k2) ?_
   refine gv hF oA (SmG.nil (aa (Sm.seq ?_)))
   refine eP hF (by kernel_rfl) rfl 10 (by kernel_rfl) (by kernel_rfl) ?_
   simp only [List.take_succ_cons, List.take_zero, List.take_nil]
   refine hv hF oM (hv hF oM ?_)
   refine hv hF (bk rfl rfl (by simp (disch := omega) only [go_sem, Nat.reduceEqDiff, ar, bO, aY, av, hR, aO, bq, he1, hLl, hcast, hq, dt] <;> rfl)) ?_
   refine hv hF (aq rfl rfl rfl (by first | exact iE _ _ _ _ _ (bK _ (by omega)) | exact gP _ _ _ _ _ _ _)) ?_
   refine hv hF (aA rfl rfl rfl (by simp (disch := omega) only [go_sem, Nat.reduceEqDiff, ar, bO, aY, av, hR, aO, bq, he1, hLl, hcast, hq, dt] <;> rfl)) ?_
   refine hv hF (aQ rfl rfl (by simp (disch := omega) only [go_sem, Nat.reduceEqDiff, ar, bO, aY, av, hR, aO, bq, he1, hLl, hcast, hq, dt] <;> rfl)) ?_
   refine aD.c hF rfl rfl (by kernel_rfl) rfl rfl rfl (k3) ?_
   refine hv hF (aQ rfl rfl (by simp (disch := omega) only [go_sem, Nat.reduceEqDiff, ar, bO, aY, av, hR, aO, bq, he1, hLl, hcast, hq, dt] <;> rfl)) ?_
   refine hv hF (rb rfl rfl rfl (by simp (disch := omega) only [go_sem, Nat.reduceEqDiff, ar, bO, aY, av, hR, aO, bq, he1, hLl, hcast, hq, dt] <;> rfl)) ?_
   refine hv hF oA ?_
   refine aD.last ⟨rfl, ?_⟩
   simp only [List.drop_succ_cons, List.drop_zero, List.drop_nil, List.nil_append, List.cons_append]
   refine SmG.nil (aa (Sm.ret ?_))
   refine ⟨_, rfl, ?_⟩; dsimp only
   exact D.le.refl _
  ·rw [decide_eq_false hl, Bool.false_and]
   refine aj.of Tryd.func50 rfl Tryd.ntmps50 (by simp) ?_; intro F hF h0 hT; simp only [List.zipIdx_cons, List.zipIdx_nil, List.map_cons, List.map_nil, Nat.zero_add, Nat.reduceAdd]
   refine Sm.seq ?_
   refine ab hF rfl ?_
   refine SmG.new hF rfl rfl rfl (jF rfl rfl (by simp (disch := omega) only [go_sem, Nat.reduceEqDiff, ar, bO, aY, av, hR] <;> rfl)) ?_
   refine gv hF oA (SmG.nil (aa (Sm.seq ?_)))
   refine ab hF rfl ?_
   refine gv hF oM (gv hF oM ?_)
   refine SmG.call hF rfl rfl (by kernel_rfl) rfl rfl rfl (k1) ?_
   refine gv hF oM ?_
   refine gv hF (by first | exact aX rfl rfl rfl | exact ic rfl rfl) ?_
   refine gv hF (by first | exact aX rfl rfl rfl | exact hU rfl rfl rfl) ?_
   refine gv hF oA (gv hF oA (SmG.nil (aa (Sm.seq (Sm.seq ?_)))))
   refine ab hF rfl ?_
   refine gv hF oM ?_
   refine gv hF (iG rfl rfl (by first | exact rI _ | exact rj _ | exact iW _)) ?_
   refine gv hF oM ?_
   first | refine gv hF oM ?_ | refine gp hF ?_
   first | refine gv hF (bk rfl rfl (by simp (disch := omega) only [go_sem, Nat.reduceEqDiff, ar, bO, aY, av, hR] <;> rfl)) ?_ | refine gp hF ?_
   first | refine gv hF oM ?_ | refine gp hF ?_
   first | refine gv hF (bk rfl rfl (by simp (disch := omega) only [go_sem, Nat.reduceEqDiff, ar, bO, aY, av, hR] <;> rfl)) ?_ | refine gp hF ?_
   first | refine gv hF (aq rfl rfl rfl (by first | exact kp _ _ _ _ _ (by omega) | exact kc _ _ _ _ _ (by omega) | exact jn _ _ _ _ _ _ _)) ?_ | refine gp hF ?_
   first | refine gv hF (aw rfl rfl rfl) ?_ | refine gv hF (ah rfl rfl rfl) ?_
   refine SmG.nil (aa ?_)
   refine aW hF rfl ?_
   refine Sm.seq ?_
   refine ab hF rfl ?_
   refine gv hF oA (SmG.nil (aa (Sm.ret ?_)))
   simp only [bT, cK]
   refine ⟨_, rfl, ?_⟩; dsimp only
   exact D.le.refl _
theorem sv (l : List (List UInt8)) (i : Int) (hl : l.length ≤ 1000000) (h : i < 0 ∨ (l.length : Int) ≤ i) : cA Tryd.prog HG 40 [aO l, .v (.int .i64 i)] .agg 32 [] [.v (.int .i64 1)] := by
 by_cases hi : i < 0
 ·refine cA.of Tryd.func40 rfl Tryd.ntmps40 (by simp) ?_; intro F hF h0 hT; simp only [List.zipIdx_cons, List.zipIdx_nil, List.map_cons, List.map_nil, Nat.zero_add, Nat.reduceAdd]
  refine Sm.seq ?_
  refine ab hF rfl ?_
  refine SmG.new hF rfl rfl rfl (aI rfl tR) ?_
  refine SmG.nil (aa (Sm.seq (Sm.seq ?_)))
  refine ab hF rfl ?_
  refine gv hF oM ?_
  refine gv hF (aq rfl rfl rfl (by first | exact bp _ _ _ _ _ (by omega) | exact br _ _ _ _ _ (by omega) | exact bF _ _ _ _ _ _ _)) ?_
  refine gv hF oM ?_
  first | refine gv hF oM ?_ | refine gp hF ?_
  first | refine gv hF oM ?_ | refine gp hF ?_
  first | refine gv hF (bk rfl rfl (by simp (disch := omega) only [go_sem, Nat.reduceEqDiff, ar, aO] <;> rfl)) ?_ | refine gp hF ?_
  first | refine gv hF (aq rfl rfl rfl (by first | exact iQ _ _ _ _ _ (by omega) | exact iM _ _ _ _ _ (by omega) | exact io _ _ _ _ _ _ _)) ?_ | refine gp hF ?_
  first | refine gv hF (aw rfl rfl rfl) ?_ | refine gv hF (ah rfl rfl rfl) ?_
  refine SmG.nil (aa ?_)
  refine aW hF rfl ?_
  refine Sm.seq ?_
  refine ab hF rfl ?_
  refine gv hF (aT rfl Tryd.underlying99 (by kernel_rfl) rfl (by simp (disch := omega) only [go_sem, Nat.reduceEqDiff, ar, aO] <;> rfl)) ?_
  refine nY (t := 14) (sz := 0) 32 rfl ?_
  refine SmG.store hF rfl rfl rfl rfl rfl (by simp (disch := omega) only [go_sem, Nat.reduceEqDiff, ar, aO] <;> rfl) ?_
  refine SmG.nil (aa (Sm.ret ?_))
  simp only [bT, cK]
  exact kM 1 rfl rfl (by simp (disch := omega) only [go_sem, Nat.reduceEqDiff, ar] <;> rfl) rfl
 ·have h1 : (l.length : Int) ≤ i := by omega
  refine cA.of Tryd.func40 rfl Tryd.ntmps40 (by simp) ?_; intro F hF h0 hT; simp only [List.zipIdx_cons, List.zipIdx_nil, List.map_cons, List.map_nil, Nat.zero_add, Nat.reduceAdd]
  refine Sm.seq ?_
  refine ab hF rfl ?_
  refine SmG.new hF rfl rfl rfl (aI rfl tR) ?_
  refine SmG.nil (aa (Sm.seq (Sm.seq ?_)))
  refine ab hF rfl ?_
  refine gv hF oM ?_
  refine gv hF (aq rfl rfl rfl (by first | exact bp _ _ _ _ _ (by omega) | exact br _ _ _ _ _ (by omega) | exact bF _ _ _ _ _ _ _)) ?_
  refine gv hF oM ?_
  first | refine gv hF oM ?_ | refine gp hF ?_
  first | refine gv hF oM ?_ | refine gp hF ?_
  first | refine gv hF (bk rfl rfl (by simp (disch := omega) only [go_sem, Nat.reduceEqDiff, ar, aO] <;> rfl)) ?_ | refine gp hF ?_
  first | refine gv hF (aq rfl rfl rfl (by first | exact iQ _ _ _ _ _ (by omega) | exact iM _ _ _ _ _ (by omega) | exact io _ _ _ _ _ _ _)) ?_ | refine gp hF ?_
  first | refine gv hF (aw rfl rfl rfl) ?_ | refine gv hF (ah rfl rfl rfl) ?_
  refine SmG.nil (aa ?_)
  refine aW hF rfl ?_
  refine Sm.seq ?_
  refine ab hF rfl ?_
  refine gv hF (aT rfl Tryd.underlying99 (by kernel_rfl) rfl (by simp (disch := omega) only [go_sem, Nat.reduceEqDiff, ar, aO] <;> rfl)) ?_
  refine nY (t := 14) (sz := 0) 32 rfl ?_
  refine SmG.store hF rfl rfl rfl rfl rfl (by simp (disch := omega) only [go_sem, Nat.reduceEqDiff, ar, aO] <;> rfl) ?_
  refine SmG.nil (aa (Sm.ret ?_))
  simp only [bT, cK]
  exact kM 1 rfl rfl (by simp (disch := omega) only [go_sem, Nat.reduceEqDiff, ar] <;> rfl) rfl
theorem wg : ∀ (n : Nat) (l : List (List UInt8)) (i : Nat), l.length = n → Fit l → i < l.length → cA Tryd.prog HG 40 [aO l, .v (.int .i64 i)] .agg 32 ((Sha.proof l i).map aK) [.v (.int .i64 0)] := by
 intro n
 induction n using Nat.strongRecOn with
 | _ n ih =>
 intro l i hn hF' hi
 have hfl := hF'.1
 by_cases h2 : 2 ≤ l.length
 ·have hm1 := Sha.cut_lt h2
  have hmp := Sha.cut_pos l.length
  have k0 := vP l.length h2 (by omega) HG
  have kl := fun h => xZ (l := l) (i := i) h2 h
  have kh := fun h => wE (l := l) (i := i) h2 h
  have i1 := fun h : i < Sha.cut l.length => ih (Sha.cut l.length) (by omega) (l.take (Sha.cut l.length)) i (by rw [List.length_take]; omega) (pT hF' _) (by rw [List.length_take]; omega)
  have i2 := fun h : Sha.cut l.length ≤ i => ih (l.length - Sha.cut l.length) (by omega) (l.drop (Sha.cut l.length)) (i - Sha.cut l.length) (by rw [List.length_drop]) (qw hF' _) (by rw [List.length_drop]; omega)
  have r1 := pm HG _ (l.drop (Sha.cut l.length)) rfl (qw hF' _)
  have r2 := pm HG _ (l.take (Sha.cut l.length)) rfl (pT hF' _)
  have l1 := tk (l.take (Sha.cut l.length)) i
  have l2 := tk (l.drop (Sha.cut l.length)) (i - Sha.cut l.length)
  rw [List.length_take] at l1
  rw [List.length_drop] at l2
  have hA := Sha.root_len (l.drop (Sha.cut l.length))
  have hB := Sha.root_len (l.take (Sha.cut l.length))
  generalize Sha.root (l.drop (Sha.cut l.length)) = A at kl r1 hA
  generalize Sha.root (l.take (Sha.cut l.length)) = B at kh r2 hB
  generalize Sha.cut l.length = m at hm1 hmp k0 kl kh i1 i2 r1 r2 l1 l2
  have hml : m ≤ l.length := by omega
  by_cases him : i < m
  ·have k1 := i1 him
   rw [kl him]
   generalize Sha.proof (l.take m) i = p at k1 l1 ⊢
   refine cA.of Tryd.func40 rfl Tryd.ntmps40 (by simp) ?_; intro F hF h0 hT; simp only [List.zipIdx_cons, List.zipIdx_nil, List.map_cons, List.map_nil, Nat.zero_add, Nat.reduceAdd]
   refine Sm.seq ?_
   refine ab hF rfl ?_
   refine SmG.new hF rfl rfl rfl (aI rfl tR) ?_
   refine SmG.nil (aa (Sm.seq (Sm.seq ?_)))
   refine ab hF rfl ?_
   refine gv hF oM ?_
   refine gv hF (aq rfl rfl rfl (by first | exact bp _ _ _ _ _ (by omega) | exact br _ _ _ _ _ (by omega) | exact bF _ _ _ _ _ _ _)) ?_
   refine gv hF oM ?_
   first | refine gv hF oM ?_ | refine gp hF ?_
   first | refine gv hF oM ?_ | refine gp hF ?_
   first | refine gv hF (bk rfl rfl (by simp (disch := omega) only [go_sem, Nat.reduceEqDiff, ar, aO, aY, av, hA, hml, Nat.zero_le, bP, ca] <;> rfl)) ?_ | refine gp hF ?_
   first | refine gv hF (aq rfl rfl rfl (by first | exact iQ _ _ _ _ _ (by omega) | exact iM _ _ _ _ _ (by omega) | exact io _ _ _ _ _ _ _)) ?_ | refine gp hF ?_
   first | refine gv hF (aw rfl rfl rfl) ?_ | refine gv hF (ah rfl rfl rfl) ?_
   refine SmG.nil (aa ?_)
   refine ba hF rfl ?_
   refine Sm.skip ?_
   refine aa (Sm.seq (Sm.seq ?_))
   refine ab hF rfl ?_
   refine gv hF oM ?_
   refine gv hF (bk rfl rfl (by simp (disch := omega) only [go_sem, Nat.reduceEqDiff, ar, aO, aY, av, hA, hml, Nat.zero_le, bP, ca] <;> rfl)) ?_
   refine gv hF (aq rfl rfl rfl (by first | exact ik _ _ _ _ _ (by omega) | exact ig _ _ _ _ _ (by omega) | exact gK _ _ _ _ _ _ _)) ?_
   refine SmG.nil (aa ?_)
   refine ba hF rfl ?_
   refine Sm.skip ?_
   refine aa (Sm.seq ?_)
   refine ab hF rfl ?_
   refine gv hF oM ?_
   refine gv hF (bk rfl rfl (by simp (disch := omega) only [go_sem, Nat.reduceEqDiff, ar, aO, aY, av, hA, hml, Nat.zero_le, bP, ca] <;> rfl)) ?_
   refine SmG.call hF rfl rfl (by kernel_rfl) rfl rfl rfl (k0) ?_
   refine gv hF oA (SmG.nil (aa (Sm.seq (Sm.seq ?_))))
   refine ab hF rfl ?_
   refine gv hF oM (gv hF oM ?_)
   refine gv hF (aq rfl rfl rfl (by first | exact bp _ _ _ _ _ (by omega) | exact br _ _ _ _ _ (by omega) | exact bF _ _ _ _ _ _ _)) ?_
   refine SmG.nil (aa ?_)
   refine aW hF rfl ?_
   refine Sm.seq ?_
   refine eP hF (by kernel_rfl) rfl 11 (by kernel_rfl) (by kernel_rfl) ?_
   simp only [List.take_succ_cons, List.take_zero, List.take_nil]
   refine hv hF oM (hv hF oM ?_)
   refine hv hF (eZ rfl rfl rfl rfl rfl (by simp (disch := omega) only [go_sem, Nat.reduceEqDiff, ar, aO, aY, av, hA, hml, Nat.zero_le, bP, ca] <;> rfl)) ?_
   refine hv hF oM ?_
   refine aD.co hF rfl rfl (by kernel_rfl) rfl rfl rfl (k1) ?_
   refine hv hF (pa rfl rfl (by simp (disch := omega) only [go_sem, Nat.reduceEqDiff, ar, aO, aY, av, hA, hml, Nat.zero_le, bP, ca] <;> rfl)) ?_
   refine hv hF oM (hv hF oM ?_)
   refine hv hF (eZ rfl rfl rfl rfl rfl (by simp (disch := omega) only [go_sem, Nat.reduceEqDiff, ar, aO, aY, av, hA, hml, Nat.zero_le, bP, ca] <;> rfl)) ?_
   refine aD.c hF rfl rfl (by kernel_rfl) rfl rfl rfl (r1) ?_
   refine hv hF (cE rfl rfl (by simp (disch := omega) only [go_sem, Nat.reduceEqDiff, ar, aO, aY, av, hA, hml, Nat.zero_le, bP, ca] <;> rfl)) ?_
   refine aD.last ⟨rfl, ?_⟩
   simp only [List.drop_succ_cons, List.drop_zero, List.drop_nil, List.nil_append, List.cons_append]
   refine SmG.appendOwn hF pI rfl rfl rfl rfl rfl rfl rfl (by first | rfl | (simp; done) | (simp; omega)) (Or.inl rfl) (by (repeat' first | exact bm _ | refine bf ?_ | refine ap ?_ (aM _ _ _) | refine ap ?_ (aM _ _ [_]) | refine ap ?_ (bB (by rfl)))) ?_ ?_ ?_; rotate_left; rotate_left; simp only [gg, Pk.v, V.free, rep, bne_self_eq_false, Nat.reduceAdd, Nat.reduceBNe, Nat.reduceBEq, Nat.reduceEqDiff, reduceIte, Bool.false_eq_true]
   rotate_left
   ·simp only [List.length_map, List.length_cons, List.length_nil]; omega
   ·simp only [List.length_map, List.length_cons, List.length_nil]; omega
   rw [vq]
   refine gv hF (aT rfl Tryd.underlying99 (by kernel_rfl) rfl (by simp (disch := omega) only [go_sem, Nat.reduceEqDiff, ar, aO, aY, av, hA, hml, Nat.zero_le, bP, ca] <;> rfl)) ?_
   refine SmG.store hF rfl rfl rfl rfl rfl (by simp (disch := omega) only [go_sem, Nat.reduceEqDiff, ar, aO, aY, av, hA, hml, Nat.zero_le, bP, ca] <;> rfl) ?_
   refine SmG.nil (aa (Sm.ret ?_))
   simp only [bT, cK]
   exact kM 1 rfl rfl (by simp (disch := omega) only [go_sem, Nat.reduceEqDiff, ar] <;> rfl) rfl
  ·have k1 := i2 (by omega)
   rw [show ((i - m : Nat) : Int) = (i : Int) - (m : Int) by omega] at k1
   rw [kh (by omega)]
   generalize Sha.proof (l.drop m) (i - m) = p at k1 l2 ⊢
   refine cA.of Tryd.func40 rfl Tryd.ntmps40 (by simp) ?_; intro F hF h0 hT; simp only [List.zipIdx_cons, List.zipIdx_nil, List.map_cons, List.map_nil, Nat.zero_add, Nat.reduceAdd]
   refine Sm.seq ?_
   refine ab hF rfl ?_
   refine SmG.new hF rfl rfl rfl (aI rfl tR) ?_
   refine SmG.nil (aa (Sm.seq (Sm.seq ?_)))
   refine ab hF rfl ?_
   refine gv hF oM ?_
   refine gv hF (aq rfl rfl rfl (by first | exact bp _ _ _ _ _ (by omega) | exact br _ _ _ _ _ (by omega) | exact bF _ _ _ _ _ _ _)) ?_
   refine gv hF oM ?_
   first | refine gv hF oM ?_ | refine gp hF ?_
   first | refine gv hF oM ?_ | refine gp hF ?_
   first | refine gv hF (bk rfl rfl (by simp (disch := omega) only [go_sem, Nat.reduceEqDiff, ar, aO, aY, av, hB, hml, Nat.zero_le, bP, ca] <;> rfl)) ?_ | refine gp hF ?_
   first | refine gv hF (aq rfl rfl rfl (by first | exact iQ _ _ _ _ _ (by omega) | exact iM _ _ _ _ _ (by omega) | exact io _ _ _ _ _ _ _)) ?_ | refine gp hF ?_
   first | refine gv hF (aw rfl rfl rfl) ?_ | refine gv hF (ah rfl rfl rfl) ?_
   refine SmG.nil (aa ?_)
   refine ba hF rfl ?_
   refine Sm.skip ?_
   refine aa (Sm.seq (Sm.seq ?_))
   refine ab hF rfl ?_
   refine gv hF oM ?_
   refine gv hF (bk rfl rfl (by simp (disch := omega) only [go_sem, Nat.reduceEqDiff, ar, aO, aY, av, hB, hml, Nat.zero_le, bP, ca] <;> rfl)) ?_
   refine gv hF (aq rfl rfl rfl (by first | exact ik _ _ _ _ _ (by omega) | exact ig _ _ _ _ _ (by omega) | exact gK _ _ _ _ _ _ _)) ?_
   refine SmG.nil (aa ?_)
   refine ba hF rfl ?_
   refine Sm.skip ?_
   refine aa (Sm.seq ?_)
   refine ab hF rfl ?_
   refine gv hF oM ?_
   refine gv hF (bk rfl rfl (by simp (disch := omega) only [go_sem, Nat.reduceEqDiff, ar, aO, aY, av, hB, hml, Nat.zero_le, bP, ca] <;> rfl)) ?_
   refine SmG.call hF rfl rfl (by kernel_rfl) rfl rfl rfl (k0) ?_
   refine gv hF oA (SmG.nil (aa (Sm.seq (Sm.seq ?_))))
   refine ab hF rfl ?_
   refine gv hF oM (gv hF oM ?_)
   refine gv hF (aq rfl rfl rfl (by first | exact bp _ _ _ _ _ (by omega) | exact br _ _ _ _ _ (by omega) | exact bF _ _ _ _ _ _ _)) ?_
   refine SmG.nil (aa ?_)
   refine ba hF rfl ?_
   refine Sm.skip ?_
   refine aa (Sm.seq ?_)
   refine eP hF (by kernel_rfl) rfl 13 (by kernel_rfl) (by kernel_rfl) ?_
   simp only [List.take_succ_cons, List.take_zero, List.take_nil]
   refine hv hF oM (hv hF oM ?_)
   refine hv hF (eZ rfl rfl rfl rfl rfl (by simp (disch := omega) only [go_sem, Nat.reduceEqDiff, ar, aO, aY, av, hB, hml, Nat.zero_le, bP, ca] <;> rfl)) ?_
   refine hv hF oM (hv hF oM ?_)
   refine hv hF (aq rfl rfl rfl (by first | exact iE _ _ _ _ _ (bK _ (by omega)) | exact gP _ _ _ _ _ _ _)) ?_
   refine aD.co hF rfl rfl (by kernel_rfl) rfl rfl rfl (k1) ?_
   refine hv hF (pa rfl rfl (by simp (disch := omega) only [go_sem, Nat.reduceEqDiff, ar, aO, aY, av, hB, hml, Nat.zero_le, bP, ca] <;> rfl)) ?_
   refine hv hF oM (hv hF oM ?_)
   refine hv hF (eZ rfl rfl rfl rfl rfl (by simp (disch := omega) only [go_sem, Nat.reduceEqDiff, ar, aO, aY, av, hB, hml, Nat.zero_le, bP, ca] <;> rfl)) ?_
   refine aD.c hF rfl rfl (by kernel_rfl) rfl rfl rfl (r2) ?_
   refine hv hF (cE rfl rfl (by simp (disch := omega) only [go_sem, Nat.reduceEqDiff, ar, aO, aY, av, hB, hml, Nat.zero_le, bP, ca] <;> rfl)) ?_
   refine aD.last ⟨rfl, ?_⟩
   simp only [List.drop_succ_cons, List.drop_zero, List.drop_nil, List.nil_append, List.cons_append]
   refine SmG.appendOwn hF pI rfl rfl rfl rfl rfl rfl rfl (by first | rfl | (simp; done) | (simp; omega)) (Or.inl rfl) (by (repeat' first | exact bm _ | refine bf ?_ | refine ap ?_ (aM _ _ _) | refine ap ?_ (aM _ _ [_]) | refine ap ?_ (bB (by rfl)))) ?_ ?_ ?_; rotate_left; rotate_left; simp only [gg, Pk.v, V.free, rep, bne_self_eq_false, Nat.reduceAdd, Nat.reduceBNe, Nat.reduceBEq, Nat.reduceEqDiff, reduceIte, Bool.false_eq_true]
   rotate_left
   ·simp only [List.length_map, List.length_cons, List.length_nil]; omega
   ·simp only [List.length_map, List.length_cons, List.length_nil]; omega
   rw [vq]
   refine gv hF (aT rfl Tryd.underlying99 (by kernel_rfl) rfl (by simp (disch := omega) only [go_sem, Nat.reduceEqDiff, ar, aO, aY, av, hB, hml, Nat.zero_le, bP, ca] <;> rfl)) ?_
   refine SmG.store hF rfl rfl rfl rfl rfl (by simp (disch := omega) only [go_sem, Nat.reduceEqDiff, ar, aO, aY, av, hB, hml, Nat.zero_le, bP, ca] <;> rfl) ?_
   refine SmG.nil (aa (Sm.ret ?_))
   exact kM 1 rfl rfl (by simp (disch := omega) only [go_sem, Nat.reduceEqDiff, ar] <;> rfl) rfl
 ·have hp : Sha.proof l i = [] := by unfold Sha.proof; rw [Sha.path_one _ (by omega)]; rfl
  rw [hp]
  have h1 : l.length = 1 := by omega
  refine cA.of Tryd.func40 rfl Tryd.ntmps40 (by simp) ?_; intro F hF h0 hT; simp only [List.zipIdx_cons, List.zipIdx_nil, List.map_cons, List.map_nil, Nat.zero_add, Nat.reduceAdd]
  refine Sm.seq ?_
  refine ab hF rfl ?_
  refine SmG.new hF rfl rfl rfl (aI rfl tR) ?_
  refine SmG.nil (aa (Sm.seq (Sm.seq ?_)))
  refine ab hF rfl ?_
  refine gv hF oM ?_
  refine gv hF (aq rfl rfl rfl (by first | exact bp _ _ _ _ _ (by omega) | exact br _ _ _ _ _ (by omega) | exact bF _ _ _ _ _ _ _)) ?_
  refine gv hF oM ?_
  first | refine gv hF oM ?_ | refine gp hF ?_
  first | refine gv hF oM ?_ | refine gp hF ?_
  first | refine gv hF (bk rfl rfl (by simp (disch := omega) only [go_sem, Nat.reduceEqDiff, ar, aO] <;> rfl)) ?_ | refine gp hF ?_
  first | refine gv hF (aq rfl rfl rfl (by first | exact iQ _ _ _ _ _ (by omega) | exact iM _ _ _ _ _ (by omega) | exact io _ _ _ _ _ _ _)) ?_ | refine gp hF ?_
  first | refine gv hF (aw rfl rfl rfl) ?_ | refine gv hF (ah rfl rfl rfl) ?_
  refine SmG.nil (aa ?_)
  refine ba hF rfl ?_
  refine Sm.skip ?_
  refine aa (Sm.seq (Sm.seq ?_))
  refine ab hF rfl ?_
  refine gv hF oM ?_
  refine gv hF (bk rfl rfl (by simp (disch := omega) only [go_sem, Nat.reduceEqDiff, ar, aO] <;> rfl)) ?_
  refine gv hF (aq rfl rfl rfl (by first | exact ik _ _ _ _ _ (by omega) | exact ig _ _ _ _ _ (by omega) | exact gK _ _ _ _ _ _ _)) ?_
  refine SmG.nil (aa ?_)
  refine aW hF rfl ?_
  refine Sm.seq ?_
  refine ab hF rfl ?_
  refine gv hF (aT rfl Tryd.underlying99 (by kernel_rfl) rfl Fn) ?_
  refine nY (t := 18) (sz := 0) 32 rfl ?_
  refine SmG.store hF rfl rfl rfl rfl rfl (by simp (disch := omega) only [go_sem, Nat.reduceEqDiff, ar, aO] <;> rfl) ?_
  refine SmG.nil (aa (Sm.ret ?_))
  simp only [bT, cK]
  exact kM 1 rfl rfl (by simp (disch := omega) only [go_sem, Nat.reduceEqDiff, ar] <;> rfl) rfl
end
section
open Go.RowKit
set_option maxRecDepth 100000
section
open Classical
noncomputable def kL (l : List (List UInt8)) : Option (List UInt8) := if Fit l then some (Sha.root l) else none
theorem sA {l : List (List UInt8)} {r : List UInt8} (h : kL l = some r) : aj Tryd.prog HG 32 [.list 1 (l.map bq) false] (.agg 32 (aK r)) := by
 unfold kL at h; split at h
 ·cases h; exact Ay l (by assumption)
 ·cases h
noncomputable def gu (l : List (List UInt8)) (i : Int) : Option (List (List UInt8) × Int) :=
 if Fit l then (if i < 0 ∨ (l.length : Int) ≤ i then some ([], 1) else some (Sha.proof l i.toNat, 0)) else none
theorem aj.res {P : Program} {G : Nat → Option D} {f : FuncId} {ds : List D} {r r' : D} (h : aj P G f ds r) (hr : r.le r') : aj P G f ds r' := by
 intro C w vs hG hk ha
 refine Calls.mono (h C w vs hG hk ha) ?_
 rintro e w' ⟨v, C', h1, h2, h3⟩
 exact ⟨v, C', h1, h2, hr _ _ h3⟩
theorem rC {l : List (List UInt8)} {i : Int} {r : List (List UInt8) × Int} (h : gu l i = some r) : aj Tryd.prog HG 39 [.list 1 (l.map bq) false, .v (.int .i64 i)] (.tup [.list 32 (r.1.map aK) false, .v (.int .i64 r.2)]) := by
 unfold gu at h; split at h
 ·rename_i hF
  split at h
  ·rename_i hi
   cases h
   exact (vT l i hi hF.1).res (uk ⟨dI _ _ _, D.le.refl _, trivial⟩)
  ·cases h
   obtain ⟨n, rfl⟩ : ∃ n : Nat, i = n := ⟨i.toNat, by omega⟩
   exact Ad l n hF (by omega)
 ·cases h
noncomputable def jW (root : List UInt8) (n i : Int) (b : List UInt8) (p : List (List UInt8)) : Option Bool :=
 if root.length = 32 ∧ b.length ≤ 900000 ∧ Len32 p ∧ p.length ≤ 1000000 ∧ n ≤ 4294967296 ∧ (-9223372036854775808 ≤ n) ∧ (-9223372036854775808 ≤ i ∧ i ≤ 9223372036854775807) then some (Sha.check root n i b p) else none
theorem rB {root : List UInt8} {n i : Int} {b : List UInt8} {p : List (List UInt8)} {r : Bool} (h : jW root n i b p = some r) : aj Tryd.prog HG 46 [.agg 32 (aK root), .v (.int .i64 n), .v (.int .i64 i), .list 1 (b.map aJ) false, .list 32 (p.map aK) false] (.v (.bool r)) := by
 unfold jW at h; split at h
 ·rename_i hc
  obtain ⟨h1, h2, h3, h4, h5, h6, h7⟩ := hc
  cases h; exact zS root b n i p h1 h2 h3 h4 h5
 ·cases h
noncomputable def gG (l : List UInt8) : Option (List UInt8) := if l.length ≤ 900000 then some (Sha.leaf l) else none
theorem nA {l r : List UInt8} (h : gG l = some r) : aj Tryd.prog HG 29 [.list 1 (l.map aJ) false] (.agg 32 (aK r)) := by
 unfold gG at h; split at h
 ·cases h; exact r9 l (by assumption) HG
 ·cases h
noncomputable def gH (l : List (List UInt8)) : Option (List UInt8) := if Fit l then some (Sha.root l) else none
theorem nH {l : List (List UInt8)} {r : List UInt8} (h : gH l = some r) : aj Tryd.prog HG 34 [.list 1 (l.map bq) false] (.agg 32 (aK r)) := by
 unfold gH at h; split at h
 ·cases h; exact pm HG _ l rfl (by assumption)
 ·cases h
noncomputable def gy (l : List (List UInt8)) (i : Int) : Option (List (List UInt8) × Int) :=
 if Fit l then (if i < 0 ∨ (l.length : Int) ≤ i then some ([], 1) else some (Sha.proof l i.toNat, 0)) else none
theorem m6 {l : List (List UInt8)} {i : Int} {r : List (List UInt8) × Int} (h : gy l i = some r) : aj Tryd.prog HG 40 [.list 1 (l.map bq) false, .v (.int .i64 i)] (.agg 2 [.list 32 (r.1.map aK) false, .v (.int .i64 r.2)]) := by
 unfold gy at h; split at h
 ·rename_i hF
  split at h
  ·rename_i hi
   cases h
   exact (sv l i hF.1 hi).data
  ·cases h
   obtain ⟨n, rfl⟩ : ∃ n : Nat, i = n := ⟨i.toNat, by omega⟩
   exact (wg _ l n rfl hF (by omega)).data
 ·cases h
noncomputable def gx (root : List UInt8) (n i : Int) (b : List UInt8) (p : List (List UInt8)) : Option Bool :=
 if root.length = 32 ∧ b.length ≤ 900000 ∧ lO p ∧ p.length ≤ 900000 ∧ n ≤ 4294967296 ∧ (-9223372036854775808 ≤ n) ∧ (-9223372036854775808 ≤ i ∧ i ≤ 9223372036854775807) then some (Sha.check root n i b p) else none
theorem nh {root : List UInt8} {n i : Int} {b : List UInt8} {p : List (List UInt8)} {r : Bool} (h : gx root n i b p = some r) : aj Tryd.prog HG 50 [.agg 32 (aK root), .v (.int .i64 n), .v (.int .i64 i), .list 1 (b.map aJ) false, .list 32 (p.map aK) false] (.v (.bool r)) := by
 unfold gx at h; split at h
 ·rename_i hc
  obtain ⟨h1, h2, h3, h4, h5, h6, h7⟩ := hc
  cases h; exact wc root b n i p h1 h2 h3 h4 h5 h6 h7
 ·cases h
noncomputable def gM (p q : List (List UInt8)) : Option Bool := if lO p ∧ lO q ∧ p.length ≤ 9223372036854775807 ∧ q.length ≤ 9223372036854775807 then some (decide (p = q)) else none
theorem nT {p q : List (List UInt8)} {r : Bool} (h : gM p q = some r) : aj Tryd.prog HG 41 [.list 32 (p.map aK) false, .list 32 (q.map aK) false] (.v (.bool r)) := by
 unfold gM at h; split at h
 ·rename_i hc
  cases h; exact AY p q hc.1 hc.2.1 hc.2.2.1 hc.2.2.2
 ·cases h
end
end
section
open Go.RowKit
set_option maxRecDepth 100000
noncomputable def ey (a0 : List Int) (a1 : Int) : Option (List Int) :=
 bif (decide (a1 < 0)) then (
  none
 ) else (
  ob (arI .i64 (a1 - 0)) fun x2 =>
  bif (decide (0 < x2)) then (
   ob (ri x2) fun n4 =>
   some ([] : List Int)
  ) else (
   some ([] : List Int)
  )
 )
set_option maxHeartbeats 4000000 in
theorem lC {a0 : List Int} {a1 : Int} {r : List Int} (h : ey a0 a1 = some r) : cA Tryd.prog HG 87 [.z, .i a1] .one 1 (r.map (af .i64)) [] := by
 unfold ey at h
 refine cA.of Tryd.func87 rfl Tryd.ntmps87 (by simp) ?_
 intro F hF h0 hT
 show Sm F _ _ ⟨[(0, .z), (1, .i a1)], [], 0⟩
 refine sr hF (gv hF oA (sn (Sm.seq (sr hF (gv hF oM (gv hF (oB (bt)) (sn ?_)))))))
 refine bu hF rfl (fun hc1 => ?_) (fun hc1 => ?_)
 ·replace h := ifT hc1 h
  refine ab hF rfl ?_
  cases h
 replace h := ifF hc1 h
 refine sk (Sm.seq (sr hF (gv hF oM (gv hF oM ?_))))
 refine SmG.capFull hF Tryd.underlying30 rfl rfl rfl rfl rfl ?_
 refine gv hF oM (gv hF (oN (sI u30)) (gv hF (oB (ox (v := 0) rfl)) ?_))
 obtain ⟨x2, hx2, h⟩ := ac h
 refine gv hF (oB (ox hx2)) (gv hF oA (sn (sr hF (gv hF oM (gv hF (oB (fD)) (sn ?_))))))
 refine aL hF rfl (fun hc3 => ?_) (fun hc3 => ?_)
 ·replace h := ifF hc3 h
  refine sk (sr hF (gv hF oM (gv hF oA (sn ?_))))
  refine Sm.to (kA (e := [(4, .z)]) (g := []) (m := 0)) ?_
  refine Sm.own (t := 4) 1 rfl ?_
  refine Sm.ret ?_
  obtain rfl := ae h
  exact lI 0 rfl rfl rfl
 replace h := ifT hc3 h
 refine ab hF rfl ?_
 refine gv hF oM (gv hF oM ?_)
 refine SmG.capFull hF Tryd.underlying30 rfl rfl rfl rfl rfl ?_
 refine SmG.sliceNil hF Tryd.underlying30 sz3 rfl rfl rfl rfl rfl rfl ?_
 refine gv hF oM ?_
 obtain ⟨n4, hn4, h⟩ := ac h
 refine SmG.appendMake hF kq Tryd.underlying3 rfl rfl rfl rfl rfl rfl (iZ hn4).1 (iZ hn4).2.1 (se (iZ hn4).2.2 rfl) (Nat.le_trans (iZ hn4).2.2 (by decide)) ?_
 refine gv hF oM (gv hF (oN (sI u30)) (gv hF (eZ rfl rfl rfl rfl rfl (zd u30 rfl sz3)) (gv hF oA (sn (sr hF (gv hF oM (gv hF oA (sn ?_))))))))
 refine Sm.ret ?_
 obtain rfl := ae h
 exact lI 0 rfl rfl rfl
noncomputable def cb (a0 : List (List Int)) (s1 : (Int × Int)) : Option ((Int × Int) ⊕ Int) :=
 bif (decide (s1.2 < (a0.length : Int))) then (
  ob (idx a0 s1.2) fun x6 =>
  ob (arI .i64 (s1.1 + (x6.length : Int))) fun x7 =>
  bif (decide (x7 < 0)) then (
   none
  ) else (
   ob (arI .i64 (s1.2 + 1)) fun x9 =>
   some (.inl (x7, x9))
  )
 ) else (
  some (.inr s1.1)
 )
noncomputable def cc (a0 : List (List Int)) (s12 : (Int × (List Int))) : Option ((Int × (List Int)) ⊕ List Int) :=
 bif (decide (s12.1 < (a0.length : Int))) then (
  ob (idx a0 s12.1) fun x17 =>
  ob (app s12.2 x17) fun x18 =>
  ob (arI .i64 (s12.1 + 1)) fun x19 =>
  some (.inl (x19, x18))
 ) else (
  some (.inr s12.2)
 )
noncomputable def dK (a0 : List (List Int)) : Option (List Int) :=
 ob ((
  bH (cb a0) (0, 0)
  : Option Int)) fun v10 =>
 ob (ey [] v10) fun x11 =>
 ob ((
  bH (cc a0) (0, x11)
  : Option (List Int))) fun v20 =>
 some v20
set_option maxHeartbeats 4000000 in
theorem kQ {a0 : List (List Int)} {r : List Int} (h : dK a0 = some r) : cA Tryd.prog HG 65 [.list 1 (a0.map (aC 1 (af .i64))) false] .one 1 (r.map (af .i64)) [] := by
 unfold dK at h
 refine cA.of Tryd.func65 rfl Tryd.ntmps65 (by simp) ?_
 intro F hF h0 hT
 show Sm F _ _ ⟨[(0, .d (.list 1 (a0.map (aC 1 (af .i64))) false))], [], 0⟩
 refine sr hF (gv hF oA (sn (sr hF (gv hF oA (sn (Sm.seq ?_))))))
 obtain ⟨v10, hv10, h⟩ := ac h
 refine eD ⟨[(0, .d (.list 1 (a0.map (aC 1 (af .i64))) false)), (3, .i v10)], [], 0⟩ ?_ ?_
 ·replace h := hv10
  refine sr hF (gv hF oM (gv hF (oN (bc u71)) (gv hF oM (sn (Sm.block ?_)))))
  refine bz (cb a0) (fun s1 => ⟨[(0, .d (.list 1 (a0.map (aC 1 (af .i64))) false)), (3, .i s1.1), (9, .d (.list 1 (a0.map (aC 1 (af .i64))) false)), (10, .i (a0.length : Int)), (11, .i s1.2)], [], 0⟩) (0, 0) h (kA) ?_
  intro n2 s1 o3 h hd4
  unfold cb at h
  refine sr hF (gv hF (oB (bt)) (sn (Sm.seq ?_)))
  refine aL hF rfl (fun hc5 => ?_) (fun hc5 => ?_)
  ·replace h := ifF hc5 h
   refine Sm.exit ?_
   replace h := aH h hd4
   obtain rfl := ae h
   exact (kA)
  replace h := ifT hc5 h
  refine sk (Sm.seq (Sm.block (sr hF ?_)))
  obtain ⟨x6, hx6, h⟩ := ac h
  refine gv hF (oI (bI u71 dY hx6)) (gv hF (oL (lP1 dz rfl)) (gv hF oA (sn (sr hF (gv hF oM (gv hF oM (gv hF (oN (bc u30)) ?_)))))))
  obtain ⟨x7, hx7, h⟩ := ac h
  refine gv hF (oB (bb hx7)) (gv hF oA (sn (sr hF (gv hF oM (gv hF (oB (bt)) (sn ?_))))))
  refine bu hF rfl (fun hc8 => ?_) (fun hc8 => ?_)
  ·replace h := ifT hc8 h
   refine ab hF rfl ?_
   cases h
  replace h := ifF hc8 h
  refine Sm.skip ?_
  refine ay (aa ?_)
  refine ab hF rfl ?_
  obtain ⟨x9, hx9, h⟩ := ac h
  refine gv hF (oB (bb hx9)) (gv hF oM (SmG.nil ?_))
  exact bC (bn h hd4) (kA)
 refine sr hF (gv hF oM ?_)
 obtain ⟨x11, hx11, h⟩ := ac h
 refine SmG.callO hF rfl rfl (by kernel_rfl) rfl rfl rfl (lC hx11) ?_
 refine gv hF oA (sn (Sm.seq ?_))
 obtain ⟨v20, hv20, h⟩ := ac h
 refine bj ⟨[(6, .sref 0 0 (v20.map (af .i64)).length)], [(0, dB 1 (v20.map (af .i64)))], 1⟩ ?_ ?_
 ·refine Sm.seq ?_
  refine ab hF rfl ?_
  refine gv hF oM (gv hF oA (sn (Sm.ret ?_)))
  obtain rfl := ae h
  exact lI 0 rfl rfl rfl
 replace h := hv20
 refine sr hF (gv hF oM (gv hF (oN (bc u71)) (gv hF oM (sn (Sm.block ?_)))))
 refine bz (cc a0) (fun s12 => ⟨[(6, .sref 0 0 (s12.2.map (af .i64)).length), (25, .d (.list 1 (a0.map (aC 1 (af .i64))) false)), (26, .i (a0.length : Int)), (27, .i s12.1)], [(0, dB 1 (s12.2.map (af .i64)))], 1⟩) (0, x11) h (kA) ?_
 intro n13 s12 o14 h hd15
 unfold cc at h
 refine sr hF (gv hF (oB (bt)) (sn (Sm.seq ?_)))
 refine aL hF rfl (fun hc16 => ?_) (fun hc16 => ?_)
 ·replace h := ifF hc16 h
  refine Sm.exit ?_
  replace h := aH h hd15
  obtain rfl := ae h
  exact (kA)
 replace h := ifT hc16 h
 refine sk (Sm.seq (Sm.block (sr hF ?_)))
 obtain ⟨x17, hx17, h⟩ := ac h
 refine gv hF (oI (bI u71 dY hx17)) (gv hF (oL (lP1 dz rfl)) (gv hF oA (sn ?_)))
 refine ab hF rfl ?_
 refine gv hF oM (gv hF oM ?_)
 obtain ⟨x18, hx18, h⟩ := ac h
 refine be hF kq rfl (ys := x17) (row := (af .i64)) rfl rfl rfl rfl rfl rfl rfl rfl (.inl rfl) hx18 (by (repeat' first | exact bm _ | refine bf ?_ | refine ap ?_ (aM _ _ _) | refine ap ?_ (aM _ _ [_]) | refine ap ?_ (bB (by rfl)))) ?_
 refine gv hF oA (SmG.nil (ay (aa ?_)))
 refine ab hF rfl ?_
 obtain ⟨x19, hx19, h⟩ := ac h
 refine gv hF (oB (bb hx19)) (gv hF oM (SmG.nil ?_))
 exact bC (bn h hd15) (kA)
noncomputable def dM (a0 : List UInt8) (a1 : Int) : Option (List UInt8) :=
 bif (decide (a1 < 0)) then (
  none
 ) else (
  ob (arI .i64 (a1 - 0)) fun x2 =>
  bif (decide (0 < x2)) then (
   ob (ri x2) fun n4 =>
   some ([] : List UInt8)
  ) else (
   some ([] : List UInt8)
  )
 )
set_option maxHeartbeats 4000000 in
theorem k8 {a0 : List UInt8} {a1 : Int} {r : List UInt8} (h : dM a0 a1 = some r) : cA Tryd.prog HG 64 [.z, .i a1] .one 1 (r.map aJ) [] := by
 unfold dM at h
 refine cA.of Tryd.func64 rfl Tryd.ntmps64 (by simp) ?_
 intro F hF h0 hT
 show Sm F _ _ ⟨[(0, .z), (1, .i a1)], [], 0⟩
 refine sr hF (gv hF oA (sn (Sm.seq (sr hF (gv hF oM (gv hF (oB (bt)) (sn ?_)))))))
 refine bu hF rfl (fun hc1 => ?_) (fun hc1 => ?_)
 ·replace h := ifT hc1 h
  refine ab hF rfl ?_
  cases h
 replace h := ifF hc1 h
 refine sk (Sm.seq (sr hF (gv hF oM (gv hF oM ?_))))
 refine SmG.capFull hF Tryd.underlying24 rfl rfl rfl rfl rfl ?_
 refine gv hF oM (gv hF (oN (sI u24)) (gv hF (oB (ox (v := 0) rfl)) ?_))
 obtain ⟨x2, hx2, h⟩ := ac h
 refine gv hF (oB (ox hx2)) (gv hF oA (sn (sr hF (gv hF oM (gv hF (oB (fD)) (sn ?_))))))
 refine aL hF rfl (fun hc3 => ?_) (fun hc3 => ?_)
 ·replace h := ifF hc3 h
  refine sk (sr hF (gv hF oM (gv hF oA (sn ?_))))
  refine Sm.to (kA (e := [(4, .z)]) (g := []) (m := 0)) ?_
  refine Sm.own (t := 4) 1 rfl ?_
  refine Sm.ret ?_
  obtain rfl := ae h
  exact lI 0 rfl rfl rfl
 replace h := ifT hc3 h
 refine ab hF rfl ?_
 refine gv hF oM (gv hF oM ?_)
 refine SmG.capFull hF Tryd.underlying24 rfl rfl rfl rfl rfl ?_
 refine SmG.sliceNil hF Tryd.underlying24 sz5 rfl rfl rfl rfl rfl rfl ?_
 refine gv hF oM ?_
 obtain ⟨n4, hn4, h⟩ := ac h
 refine SmG.appendMake hF oH Tryd.underlying3 rfl rfl rfl rfl rfl rfl (iZ hn4).1 (iZ hn4).2.1 (se (iZ hn4).2.2 rfl) (Nat.le_trans (iZ hn4).2.2 (by decide)) ?_
 refine gv hF oM (gv hF (oN (sI u24)) (gv hF (eZ rfl rfl rfl rfl rfl (zd u24 rfl sz5)) (gv hF oA (sn (sr hF (gv hF oM (gv hF oA (sn ?_))))))))
 refine Sm.ret ?_
 obtain rfl := ae h
 exact lI 0 rfl rfl rfl
noncomputable def bW (a0 : List (List UInt8)) (s1 : (Int × Int)) : Option ((Int × Int) ⊕ Int) :=
 bif (decide (s1.2 < (a0.length : Int))) then (
  ob (idx a0 s1.2) fun x6 =>
  ob (arI .i64 (s1.1 + (x6.length : Int))) fun x7 =>
  bif (decide (x7 < 0)) then (
   none
  ) else (
   ob (arI .i64 (s1.2 + 1)) fun x9 =>
   some (.inl (x7, x9))
  )
 ) else (
  some (.inr s1.1)
 )
noncomputable def bV (a0 : List (List UInt8)) (s12 : (Int × (List UInt8))) : Option ((Int × (List UInt8)) ⊕ List UInt8) :=
 bif (decide (s12.1 < (a0.length : Int))) then (
  ob (idx a0 s12.1) fun x17 =>
  ob (app s12.2 x17) fun x18 =>
  ob (arI .i64 (s12.1 + 1)) fun x19 =>
  some (.inl (x19, x18))
 ) else (
  some (.inr s12.2)
 )
noncomputable def dk (a0 : List (List UInt8)) : Option (List UInt8) :=
 ob ((
  bH (bW a0) (0, 0)
  : Option Int)) fun v10 =>
 ob (dM [] v10) fun x11 =>
 ob ((
  bH (bV a0) (0, x11)
  : Option (List UInt8))) fun v20 =>
 some v20
set_option maxHeartbeats 4000000 in
theorem j9 {a0 : List (List UInt8)} {r : List UInt8} (h : dk a0 = some r) : cA Tryd.prog HG 36 [.list 1 (a0.map bq) false] .one 1 (r.map aJ) [] := by
 unfold dk at h
 refine cA.of Tryd.func36 rfl Tryd.ntmps36 (by simp) ?_
 intro F hF h0 hT
 show Sm F _ _ ⟨[(0, .d (.list 1 (a0.map bq) false))], [], 0⟩
 refine sr hF (gv hF oA (sn (sr hF (gv hF oA (sn (Sm.seq ?_))))))
 obtain ⟨v10, hv10, h⟩ := ac h
 refine eD ⟨[(0, .d (.list 1 (a0.map bq) false)), (3, .i v10)], [], 0⟩ ?_ ?_
 ·replace h := hv10
  refine sr hF (gv hF oM (gv hF (oN (bc u61)) (gv hF oM (sn (Sm.block ?_)))))
  refine bz (bW a0) (fun s1 => ⟨[(0, .d (.list 1 (a0.map bq) false)), (3, .i s1.1), (9, .d (.list 1 (a0.map bq) false)), (10, .i (a0.length : Int)), (11, .i s1.2)], [], 0⟩) (0, 0) h (kA) ?_
  intro n2 s1 o3 h hd4
  unfold bW at h
  refine sr hF (gv hF (oB (bt)) (sn (Sm.seq ?_)))
  refine aL hF rfl (fun hc5 => ?_) (fun hc5 => ?_)
  ·replace h := ifF hc5 h
   refine Sm.exit ?_
   replace h := aH h hd4
   obtain rfl := ae h
   exact (kA)
  replace h := ifT hc5 h
  refine sk (Sm.seq (Sm.block (sr hF ?_)))
  obtain ⟨x6, hx6, h⟩ := ac h
  refine gv hF (oI (bI u61 li hx6)) (gv hF (oL (lP1 ov rfl)) (gv hF oA (sn (sr hF (gv hF oM (gv hF oM (gv hF (oN (bc u24)) ?_)))))))
  obtain ⟨x7, hx7, h⟩ := ac h
  refine gv hF (oB (bb hx7)) (gv hF oA (sn (sr hF (gv hF oM (gv hF (oB (bt)) (sn ?_))))))
  refine bu hF rfl (fun hc8 => ?_) (fun hc8 => ?_)
  ·replace h := ifT hc8 h
   refine ab hF rfl ?_
   cases h
  replace h := ifF hc8 h
  refine Sm.skip ?_
  refine ay (aa ?_)
  refine ab hF rfl ?_
  obtain ⟨x9, hx9, h⟩ := ac h
  refine gv hF (oB (bb hx9)) (gv hF oM (SmG.nil ?_))
  exact bC (bn h hd4) (kA)
 refine sr hF (gv hF oM ?_)
 obtain ⟨x11, hx11, h⟩ := ac h
 refine SmG.callO hF rfl rfl (by kernel_rfl) rfl rfl rfl (k8 hx11) ?_
 refine gv hF oA (sn (Sm.seq ?_))
 obtain ⟨v20, hv20, h⟩ := ac h
 refine bj ⟨[(6, .sref 0 0 (v20.map aJ).length)], [(0, dB 1 (v20.map aJ))], 1⟩ ?_ ?_
 ·refine Sm.seq ?_
  refine ab hF rfl ?_
  refine gv hF oM (gv hF oA (sn (Sm.ret ?_)))
  obtain rfl := ae h
  exact lI 0 rfl rfl rfl
 replace h := hv20
 refine sr hF (gv hF oM (gv hF (oN (bc u61)) (gv hF oM (sn (Sm.block ?_)))))
 refine bz (bV a0) (fun s12 => ⟨[(6, .sref 0 0 (s12.2.map aJ).length), (25, .d (.list 1 (a0.map bq) false)), (26, .i (a0.length : Int)), (27, .i s12.1)], [(0, dB 1 (s12.2.map aJ))], 1⟩) (0, x11) h (kA) ?_
 intro n13 s12 o14 h hd15
 unfold bV at h
 refine sr hF (gv hF (oB (bt)) (sn (Sm.seq ?_)))
 refine aL hF rfl (fun hc16 => ?_) (fun hc16 => ?_)
 ·replace h := ifF hc16 h
  refine Sm.exit ?_
  replace h := aH h hd15
  obtain rfl := ae h
  exact (kA)
 replace h := ifT hc16 h
 refine sk (Sm.seq (Sm.block (sr hF ?_)))
 obtain ⟨x17, hx17, h⟩ := ac h
 refine gv hF (oI (bI u61 li hx17)) (gv hF (oL (lP1 ov rfl)) (gv hF oA (sn ?_)))
 refine ab hF rfl ?_
 refine gv hF oM (gv hF oM ?_)
 obtain ⟨x18, hx18, h⟩ := ac h
 refine be hF oH rfl (ys := x17) (row := aJ) rfl rfl rfl rfl rfl rfl rfl rfl (.inl rfl) hx18 (by (repeat' first | exact bm _ | refine bf ?_ | refine ap ?_ (aM _ _ _) | refine ap ?_ (aM _ _ [_]) | refine ap ?_ (bB (by rfl)))) ?_
 refine gv hF oA (SmG.nil (ay (aa ?_)))
 refine ab hF rfl ?_
 obtain ⟨x19, hx19, h⟩ := ac h
 refine gv hF (oB (bb hx19)) (gv hF oM (SmG.nil ?_))
 exact bC (bn h hd15) (kA)
end
section
open Go.RowKit
set_option maxRecDepth 100000
structure Ans where
 version : Int
 index : Int
 count : Int
 pos : Ps
 entry : Rs
 proof : List (List UInt8)
def Ans.row (x : Ans) : List D := [.v (.int .i64 x.version), .v (.int .i64 x.index), .v (.int .i64 x.count), .list 1 (x.pos.at_.map (af .i64)) false, .list 1 (x.pos.h0.map (af .i64)) false, .list 1 (x.pos.h1.map (af .i64)) false, .v (.int .i64 x.pos.rights), .v (.int .i64 x.pos.side), .v (.int .i64 x.entry.out), .v (.int .i64 x.entry.n), .list 32 (x.proof.map aK) false]
structure Pvd where
 l : List (List UInt8)
 e : Int
def Pvd.row (x : Pvd) : List D := [.list 32 (x.l.map aK) false, .v (.int .i64 x.e)]
noncomputable def eR (a0 : GRaw) (x1 : Brd) (x2 : Int) (v5 : Int) (s9 : (Int × (List (List Stp)))) : Option ((Int × (List (List Stp))) ⊕ List (List Stp)) :=
 bif (decide (s9.1 < (a0.k0.length : Int))) then (
  bif (decide (s9.1 < 4)) then (
   ob (idx a0.k0 s9.1) fun x15 =>
   ob (e6 x15 (x1.next.length : Int) v5 x2) fun x16 =>
   ob (app s9.2 [x16]) fun x17 =>
   ob (arI .i64 (s9.1 + 1)) fun x18 =>
   some (.inl (x18, x17))
  ) else (
   some (.inr s9.2)
  )
 ) else (
  some (.inr s9.2)
 )
noncomputable def eV (a0 : GRaw) (x1 : Brd) (x2 : Int) (v5 : Int) (s25 : (Int × (List (List Stp)))) : Option ((Int × (List (List Stp))) ⊕ List (List Stp)) :=
 bif (decide (s25.1 < (a0.k1.length : Int))) then (
  bif (decide (s25.1 < 4)) then (
   ob (idx a0.k1 s25.1) fun x31 =>
   ob (e6 x31 (x1.next.length : Int) v5 x2) fun x32 =>
   ob (app s25.2 [x32]) fun x33 =>
   ob (arI .i64 (s25.1 + 1)) fun x34 =>
   some (.inl (x34, x33))
  ) else (
   some (.inr s25.2)
  )
 ) else (
  some (.inr s25.2)
 )
noncomputable def gZ (s41 : Int) : Option (Int ⊕ List Knd) :=
 none
noncomputable def eQ (a0 : GRaw) (x1 : Brd) (v5 : Int) (s60 : (Int × (List Cls))) : Option ((Int × (List Cls)) ⊕ List Cls) :=
 bif (decide (s60.1 < (a0.c.length : Int))) then (
  bif (decide (s60.1 < 3)) then (
   ob (idx a0.c s60.1) fun x66 =>
   ob (cV (x66.1.toNat : Int) 3) fun x67 =>
   ob (arI .i64 (1 + x67)) fun x68 =>
   ob (idx a0.c s60.1) fun x69 =>
   ob (jl .u8 (x69.1.toNat : Int) 4) fun x70 =>
   ob (arI .i64 x70) fun x71 =>
   ob (cV x71 3) fun x72 =>
   ob (arI .i64 (1 + x72)) fun x73 =>
   ob ((
    bif (x68 != 3) then (
     ob (idx a0.c s60.1) fun x75 =>
     ob (cV (x75.2.1.toNat : Int) v5) fun x76 =>
     some x76
    ) else (
     some 0
    )
    : Option Int)) fun v77 =>
   ob ((
    bif (x68 == 2) then (
     ob (idx a0.c s60.1) fun x79 =>
     ob (cV (x79.2.2.toNat : Int) x1.cells) fun x80 =>
     some x80
    ) else (
     some 0
    )
    : Option Int)) fun v81 =>
   ob ((
    bif (x68 == 3) then (
     ob (idx a0.c s60.1) fun x83 =>
     ob (cV (x83.2.2.toNat : Int) 3) fun x84 =>
     some x84
    ) else (
     some v81
    )
    : Option Int)) fun v85 =>
   ob (app s60.2 [(⟨x68, v77, v85, x73⟩ : Cls)]) fun x86 =>
   ob (arI .i64 (s60.1 + 1)) fun x87 =>
   some (.inl (x87, x86))
  ) else (
   some (.inr s60.2)
  )
 ) else (
  some (.inr s60.2)
 )
noncomputable def fJ (a0 : GRaw) : Option Gm :=
 ob (fE a0.w a0.h a0.cut) fun x1 =>
 ob (cV (a0.f0.toNat : Int) 3) fun x2 =>
 ob (cV (a0.f1.toNat : Int) 4) fun x3 =>
 ob ((
  bif (decide (0 < (a0.k1.length : Int))) then (
   some 2
  ) else (
   some 1
  )
  : Option Int)) fun v5 =>
 ob ((
  bif (decide (0 < v5)) then (
   ob ((
    ob (idx ([([97] : List UInt8), ([98, 101, 101] : List UInt8)]) 0) fun x7 =>
    ob (kB .u8 (a0.f2.toNat : Int) 0) fun x8 =>
    ob ((
     bH (eR a0 x1 x2 v5) (0, ([] : List (List Stp)))
     : Option (List (List Stp)))) fun v19 =>
    ob (app ([] : List Knd) [(⟨x7, v19, ((eg .u8 x8 1) == 1)⟩ : Knd)]) fun x20 =>
    some x20
    : Option (List Knd))) fun v21 =>
   bif (decide (1 < v5)) then (
    ob ((
     ob (idx ([([97] : List UInt8), ([98, 101, 101] : List UInt8)]) 1) fun x23 =>
     ob (kB .u8 (a0.f2.toNat : Int) 1) fun x24 =>
     ob ((
      bH (eV a0 x1 x2 v5) (0, ([] : List (List Stp)))
      : Option (List (List Stp)))) fun v35 =>
     ob (app v21 [(⟨x23, v35, ((eg .u8 x24 1) == 1)⟩ : Knd)]) fun x36 =>
     some x36
     : Option (List Knd))) fun v37 =>
    bif (decide (2 < v5)) then (
     ob (idx ([([97] : List UInt8), ([98, 101, 101] : List UInt8)]) 2) fun x39 =>
     ob (kB .u8 (a0.f2.toNat : Int) 2) fun x40 =>
     bH (gZ) 0
    ) else (
     some v37
    )
   ) else (
    some v21
   )
  ) else (
   some []
  )
  : Option (List Knd))) fun v45 =>
 ob ((
  ob (cV (a0.f3.toNat : Int) 4) fun x46 =>
  bif (x46 == 3) then (
   ob (jl .u8 (a0.f3.toNat : Int) 4) fun x48 =>
   ob (arI .i64 x48) fun x49 =>
   ob (cV x49 3) fun x50 =>
   ob (arI .i64 (1 + x50)) fun x51 =>
   some x51
  ) else (
   some 3
  )
  : Option Int)) fun v52 =>
 ob ((
  ob (cV (a0.f4.toNat : Int) 4) fun x53 =>
  bif (x53 == 3) then (
   ob (jl .u8 (a0.f4.toNat : Int) 4) fun x55 =>
   ob (arI .i64 x55) fun x56 =>
   ob (cV x56 3) fun x57 =>
   ob (arI .i64 (1 + x57)) fun x58 =>
   some x58
  ) else (
   some 2
  )
  : Option Int)) fun v59 =>
 ob ((
  bH (eQ a0 x1 v5) (0, ([] : List Cls))
  : Option (List Cls))) fun v88 =>
 some (⟨x1, v45, x2, (x3 == 3), v88, v52, v59⟩ : Gm)
set_option maxHeartbeats 4000000 in
theorem nC {a0 : GRaw} {r : Gm} (h : fJ a0 = some r) : aj Tryd.prog HG 24 [.agg 12 (GRaw.row a0)] (.agg 9 (Gm.row r)) := by
 unfold fJ at h
 refine aj.of Tryd.func24 rfl Tryd.ntmps24 (by simp) ?_
 intro F hF h0 hT
 show Sm F _ _ ⟨[(0, .d (.agg 12 (GRaw.row a0)))], [], 0⟩
 refine sr hF ?_
 refine bM hF fa ?_
 refine SmG.new hF rfl rfl rfl (aI rfl Av) ?_
 refine sn (Sm.seq ?_)
 refine dG hF 19 ?_
 refine hv hF (oF (ag AA rfl)) (hv hF (oL (lP1 ag5 rfl)) (hv hF (oF (ag AJ rfl)) (hv hF (oL (lP1 ag5 rfl)) (hv hF (oF (ag A2 rfl)) (hv hF (oL (lP1 ag5 rfl)) ?_)))))
 obtain ⟨x1, hx1, h⟩ := ac h
 refine cH hF (nq hx1) ?_
 refine hv hF (oF (ag jS rfl)) (hv hF (oI (cF u27 sz5 rfl rfl)) (hv hF (oL (lP1 ag5 rfl)) (hv hF (oC (eC u5 u3 (ee _))) ?_)))
 obtain ⟨x2, hx2, h⟩ := ac h
 refine hv hF (oB (b7 hx2)) (hv hF (oF (ag jS rfl)) (hv hF (oI (cF u27 sz5 rfl rfl)) (hv hF (oL (lP1 ag5 rfl)) ?_)))
 obtain ⟨x3, hx3, h⟩ := ac h
 refine hv hF (oB (b7 hx3)) (hv hF (oB (cM)) (hv hF (x := .d (.agg 9 [.i x1.cells, .list 1 (x1.next.map (aC 1 (af .i64))) false, .l x1.turn, .z, .i x2, .v (.bool (x3 == 3)), .z, .i 3, .i 2])) (aT rfl u77 (by kernel_rfl) rfl (bi (n := 9) Bv G0 rfl rfl)) ?_))
 refine aD.new hF rfl rfl rfl rfl Av ?_
 refine hE ?_
 refine SmG.store hF rfl rfl rfl rfl rfl (aZ (ys := [.i x1.cells, .d (.list 1 (x1.next.map (aC 1 (af .i64))) false), .l x1.turn, .z, .i x2, .d (.v (.bool (x3 == 3))), .z, .i 3, .i 2]) (r := [.i 0, .z, .z, .z, .i 0, .d (.v (.bool false)), .z, .i 0, .i 0]) (rows' := [[.i x1.cells, .d (.list 1 (x1.next.map (aC 1 (af .i64))) false), .l x1.turn, .z, .i x2, .d (.v (.bool (x3 == 3))), .z, .i 3, .i 2]]) rfl rfl rfl rN rfl rfl rfl rfl rfl) ?_
 refine sn (sr hF (gv hF oA (sn (Sm.seq ?_))))
 obtain ⟨v5, hv5, h⟩ := ac h
 refine eD ⟨[(1, .d (.ptr 12 (GRaw.row a0))), (2, .ref 0 0 0), (3, .ref 1 0 0), (4, .i v5)], [(1, ⟨9, [[.i x1.cells, .d (.list 1 (x1.next.map (aC 1 (af .i64))) false), .l x1.turn, .z, .i x2, .d (.v (.bool (x3 == 3))), .z, .i 3, .i 2]]⟩), (0, ⟨9, [[.i 0, .z, .z, .z, .i 0, .d (.v (.bool false)), .z, .i 0, .i 0]]⟩)], 2⟩ ?_ ?_
 ·replace h := hv5
  refine sr hF (gv hF (oF (ag mT rfl)) (gv hF (oI (cF u25 li rfl rfl)) (gv hF (oL (lP1 ov rfl)) (gv hF (oN (bc u24)) (gv hF (oB (fD)) (sn ?_))))))
  refine aL hF rfl (fun hc4 => ?_) (fun hc4 => ?_)
  ·replace h := ifF hc4 h
   refine Sm.skip ?_
   obtain rfl := ae h
   exact (kA)
  replace h := ifT hc4 h
  refine ab hF rfl ?_
  refine gv hF oA (SmG.nil ?_)
  obtain rfl := ae h
  exact (kA)
 refine Sm.seq ?_
 obtain ⟨v45, hv45, h⟩ := ac h
 refine bj ⟨[(1, .d (.ptr 12 (GRaw.row a0))), (2, .ref 0 0 0), (3, .ref 1 0 0), (4, .i v5)], [(1, ⟨9, [[.i x1.cells, .d (.list 1 (x1.next.map (aC 1 (af .i64))) false), .l x1.turn, .d (.list 3 (v45.map Knd.row) false), .i x2, .d (.v (.bool (x3 == 3))), .z, .i 3, .i 2]]⟩), (0, ⟨9, [[.i 0, .z, .z, .z, .i 0, .d (.v (.bool false)), .z, .i 0, .i 0]]⟩)], 7⟩ ?_ ?_
 ·refine Sm.seq ?_
  obtain ⟨v52, hv52, h⟩ := ac h
  refine eD ⟨[(1, .d (.ptr 12 (GRaw.row a0))), (2, .ref 0 0 0), (3, .ref 1 0 0), (4, .i v5)], [(1, ⟨9, [[.i x1.cells, .d (.list 1 (x1.next.map (aC 1 (af .i64))) false), .l x1.turn, .d (.list 3 (v45.map Knd.row) false), .i x2, .d (.v (.bool (x3 == 3))), .z, .i v52, .i 2]]⟩), (0, ⟨9, [[.i 0, .z, .z, .z, .i 0, .d (.v (.bool false)), .z, .i 0, .i 0]]⟩)], 7⟩ ?_ ?_
  ·replace h := hv52
   refine sr hF (gv hF (oF (ag jS rfl)) (gv hF (oI (cF u27 sz5 rfl rfl)) (gv hF (oL (lP1 ag5 rfl)) ?_)))
   obtain ⟨x46, hx46, h⟩ := ac h
   refine gv hF (oB (b7 hx46)) (gv hF (oB (cM)) (sn ?_))
   refine aL hF rfl (fun hc47 => ?_) (fun hc47 => ?_)
   ·replace h := ifF hc47 h
    refine Sm.skip ?_
    obtain rfl := ae h
    exact (kA)
   replace h := ifT hc47 h
   refine ab hF rfl ?_
   refine gv hF (oF (ag jS rfl)) (gv hF (oI (cF u27 sz5 rfl rfl)) (gv hF (oL (lP1 ag5 rfl)) ?_))
   obtain ⟨x48, hx48, h⟩ := ac h
   refine gv hF (oB (jp hx48)) ?_
   obtain ⟨x49, hx49, h⟩ := ac h
   refine gv hF (oC (ko u5 u3 hx49)) ?_
   obtain ⟨x50, hx50, h⟩ := ac h
   refine gv hF (oB (b7 hx50)) ?_
   obtain ⟨x51, hx51, h⟩ := ac h
   refine gv hF (oB (bb hx51)) (gv hF (oF (aG A8)) ?_)
   refine SmG.store hF rfl rfl rfl rfl rfl (cY (rows' := [[.i x1.cells, .d (.list 1 (x1.next.map (aC 1 (af .i64))) false), .l x1.turn, .d (.list 3 (v45.map Knd.row) false), .i x2, .d (.v (.bool (x3 == 3))), .z, .i x51, .i 2]]) rfl rfl rfl sz3 rfl rfl rfl) ?_
   refine SmG.nil ?_
   obtain rfl := ae h
   exact (kA)
  refine Sm.seq ?_
  obtain ⟨v59, hv59, h⟩ := ac h
  refine eD ⟨[(1, .d (.ptr 12 (GRaw.row a0))), (2, .ref 0 0 0), (3, .ref 1 0 0), (4, .i v5)], [(1, ⟨9, [[.i x1.cells, .d (.list 1 (x1.next.map (aC 1 (af .i64))) false), .l x1.turn, .d (.list 3 (v45.map Knd.row) false), .i x2, .d (.v (.bool (x3 == 3))), .z, .i v52, .i v59]]⟩), (0, ⟨9, [[.i 0, .z, .z, .z, .i 0, .d (.v (.bool false)), .z, .i 0, .i 0]]⟩)], 7⟩ ?_ ?_
  ·replace h := hv59
   refine sr hF (gv hF (oF (ag jS rfl)) (gv hF (oI (cF u27 sz5 rfl rfl)) (gv hF (oL (lP1 ag5 rfl)) ?_)))
   obtain ⟨x53, hx53, h⟩ := ac h
   refine gv hF (oB (b7 hx53)) (gv hF (oB (cM)) (sn ?_))
   refine aL hF rfl (fun hc54 => ?_) (fun hc54 => ?_)
   ·replace h := ifF hc54 h
    refine Sm.skip ?_
    obtain rfl := ae h
    exact (kA)
   replace h := ifT hc54 h
   refine ab hF rfl ?_
   refine gv hF (oF (ag jS rfl)) (gv hF (oI (cF u27 sz5 rfl rfl)) (gv hF (oL (lP1 ag5 rfl)) ?_))
   obtain ⟨x55, hx55, h⟩ := ac h
   refine gv hF (oB (jp hx55)) ?_
   obtain ⟨x56, hx56, h⟩ := ac h
   refine gv hF (oC (ko u5 u3 hx56)) ?_
   obtain ⟨x57, hx57, h⟩ := ac h
   refine gv hF (oB (b7 hx57)) ?_
   obtain ⟨x58, hx58, h⟩ := ac h
   refine gv hF (oB (bb hx58)) (gv hF (oF (aG BA)) ?_)
   refine SmG.store hF rfl rfl rfl rfl rfl (cY (rows' := [[.i x1.cells, .d (.list 1 (x1.next.map (aC 1 (af .i64))) false), .l x1.turn, .d (.list 3 (v45.map Knd.row) false), .i x2, .d (.v (.bool (x3 == 3))), .z, .i v52, .i x58]]) rfl rfl rfl sz3 rfl rfl rfl) ?_
   refine SmG.nil ?_
   obtain rfl := ae h
   exact (kA)
  refine Sm.seq ?_
  obtain ⟨v88, hv88, h⟩ := ac h
  refine bj ⟨[(2, .ref 0 0 0), (3, .ref 1 0 0)], [(1, ⟨9, [[.i x1.cells, .d (.list 1 (x1.next.map (aC 1 (af .i64))) false), .l x1.turn, .d (.list 3 (v45.map Knd.row) false), .i x2, .d (.v (.bool (x3 == 3))), .d (.list 4 (v88.map Cls.row) false), .i v52, .i v59]]⟩), (0, ⟨9, [[.i 0, .z, .z, .z, .i 0, .d (.v (.bool false)), .z, .i 0, .i 0]]⟩)], 8⟩ ?_ ?_
  ·refine Sm.seq ?_
   refine ab hF rfl ?_
   refine gv hF (x := .d (.agg 9 [.i x1.cells, .list 1 (x1.next.map (aC 1 (af .i64))) false, .l x1.turn, .list 3 (v45.map Knd.row) false, .i x2, .v (.bool (x3 == 3)), .list 4 (v88.map Cls.row) false, .i v52, .i v59])) (oL (aE rfl rfl vv rN rfl rfl)) ?_
   refine SmG.store hF rfl rfl rfl rfl rfl (aZ (ys := [.i x1.cells, .d (.list 1 (x1.next.map (aC 1 (af .i64))) false), .l x1.turn, .d (.list 3 (v45.map Knd.row) false), .i x2, .d (.v (.bool (x3 == 3))), .d (.list 4 (v88.map Cls.row) false), .i v52, .i v59]) (r := [.i 0, .z, .z, .z, .i 0, .d (.v (.bool false)), .z, .i 0, .i 0]) (rows' := [[.i x1.cells, .d (.list 1 (x1.next.map (aC 1 (af .i64))) false), .l x1.turn, .d (.list 3 (v45.map Knd.row) false), .i x2, .d (.v (.bool (x3 == 3))), .d (.list 4 (v88.map Cls.row) false), .i v52, .i v59]]) rfl rfl rfl rN rfl rfl rfl rfl rfl) ?_
   refine sn (Sm.ret ?_)
   obtain rfl := ae h
   exact cU (RetR.cons (RetO.cell rfl (aE (ds := [.i x1.cells, .list 1 (x1.next.map (aC 1 (af .i64))) false, .l x1.turn, .list 3 (v45.map Knd.row) false, .i x2, .v (.bool (x3 == 3)), .list 4 (v88.map Cls.row) false, .i v52, .i v59]) rfl rfl vv rN rfl rfl)) (RetR.nil)) (D.le.refl _)
  replace h := hv88
  refine sr hF (gv hF oA (sn (Sm.block ?_)))
  refine Sm.to (kA (e := [(1, .d (.ptr 12 (GRaw.row a0))), (2, .ref 0 0 0), (3, .ref 1 0 0), (4, .i v5), (8, .i 0)]) (g := [(1, ⟨9, [[.i x1.cells, .d (.list 1 (x1.next.map (aC 1 (af .i64))) false), .l x1.turn, .d (.list 3 (v45.map Knd.row) false), .i x2, .d (.v (.bool (x3 == 3))), .z, .i v52, .i v59]]⟩), (0, ⟨9, [[.i 0, .z, .z, .z, .i 0, .d (.v (.bool false)), .z, .i 0, .i 0]]⟩)]) (m := 7)) ?_
  refine Sm.ownCell 1 0 6 4 rfl rfl rfl ?_
  refine bz (eQ a0 x1 v5) (fun s60 => ⟨[(1, .d (.ptr 12 (GRaw.row a0))), (2, .ref 0 0 0), (3, .ref 1 0 0), (4, .i v5), (8, .i s60.1)], [(7, dB 4 (s60.2.map Cls.row)), (1, ⟨9, [[.i x1.cells, .d (.list 1 (x1.next.map (aC 1 (af .i64))) false), .l x1.turn, .d (.list 3 (v45.map Knd.row) false), .i x2, .d (.v (.bool (x3 == 3))), .sref 7 0 (s60.2.map Cls.row).length, .i v52, .i v59]]⟩), (0, ⟨9, [[.i 0, .z, .z, .z, .i 0, .d (.v (.bool false)), .z, .i 0, .i 0]]⟩)], 8⟩) (0, ([] : List Cls)) h (kA) ?_
  intro n61 s60 o62 h hd63
  unfold eQ at h
  refine Sm.seq (sr hF (gv hF oM (gv hF (oF (ag mZ rfl)) (gv hF (oL (lP1 qu rfl)) (gv hF (oN (bc u26)) (gv hF (oB (bt)) ?_))))))
  rcases bG (decide (s60.1 < (a0.c.length : Int))) with hc64 | hc64
  ·replace h := ifF hc64 h
   refine gv hF (am rfl rfl hc64) (gp hF (gp hF (gv hF (ah rfl rfl rfl) (sn ?_))))
   refine ba hF rfl ?_
   refine Sm.exit ?_
   replace h := aH h hd63
   obtain rfl := ae h
   exact (aS (kA (e := [(2, .ref 0 0 0), (3, .ref 1 0 0)]) (g := [(7, dB 4 (s60.2.map Cls.row)), (1, ⟨9, [[.i x1.cells, .d (.list 1 (x1.next.map (aC 1 (af .i64))) false), .l x1.turn, .d (.list 3 (v45.map Knd.row) false), .i x2, .d (.v (.bool (x3 == 3))), .sref 7 0 (s60.2.map Cls.row).length, .i v52, .i v59]]⟩), (0, ⟨9, [[.i 0, .z, .z, .z, .i 0, .d (.v (.bool false)), .z, .i 0, .i 0]]⟩)]) (m := 8)) (fA (l := 7) (sz := 4) (s60.2.map Cls.row)))
  replace h := ifT hc64 h
  refine gv hF (am rfl rfl hc64) (gv hF oM (gv hF (oB (bt)) (gv hF (aw rfl rfl rfl) (sn ?_))))
  refine aL hF rfl (fun hc65 => ?_) (fun hc65 => ?_)
  ·replace h := ifF hc65 h
   refine Sm.exit ?_
   replace h := aH h hd63
   obtain rfl := ae h
   exact (aS (kA (e := [(2, .ref 0 0 0), (3, .ref 1 0 0)]) (g := [(7, dB 4 (s60.2.map Cls.row)), (1, ⟨9, [[.i x1.cells, .d (.list 1 (x1.next.map (aC 1 (af .i64))) false), .l x1.turn, .d (.list 3 (v45.map Knd.row) false), .i x2, .d (.v (.bool (x3 == 3))), .sref 7 0 (s60.2.map Cls.row).length, .i v52, .i v59]]⟩), (0, ⟨9, [[.i 0, .z, .z, .z, .i 0, .d (.v (.bool false)), .z, .i 0, .i 0]]⟩)]) (m := 8)) (fA (l := 7) (sz := 4) (s60.2.map Cls.row)))
  replace h := ifT hc65 h
  refine sk (Sm.seq (Sm.block (Sm.seq ?_)))
  refine dG hF 21 ?_
  refine hv hF (oF (ag mZ rfl)) (hv hF (oL (lP1 qu rfl)) (hv hF oM ?_))
  obtain ⟨x66, hx66, h⟩ := ac h
  refine hv hF (oI (bI u26 pC hx66)) (hv hF (oI (cF tG sz5 rfl rfl)) (hv hF (oL (lP1 ag5 rfl)) (hv hF (oC (eC u5 u3 (ee _))) ?_)))
  obtain ⟨x67, hx67, h⟩ := ac h
  refine hv hF (oB (b7 hx67)) ?_
  obtain ⟨x68, hx68, h⟩ := ac h
  refine hv hF (oB (bb hx68)) (hv hF (oF (ag mZ rfl)) (hv hF (oL (lP1 qu rfl)) (hv hF oM ?_)))
  obtain ⟨x69, hx69, h⟩ := ac h
  refine hv hF (oI (bI u26 pC hx69)) (hv hF (oI (cF tG sz5 rfl rfl)) (hv hF (oL (lP1 ag5 rfl)) ?_))
  obtain ⟨x70, hx70, h⟩ := ac h
  refine hv hF (oB (jp hx70)) ?_
  obtain ⟨x71, hx71, h⟩ := ac h
  refine hv hF (oC (ko u5 u3 hx71)) ?_
  obtain ⟨x72, hx72, h⟩ := ac h
  refine hv hF (oB (b7 hx72)) ?_
  obtain ⟨x73, hx73, h⟩ := ac h
  refine hv hF (oB (bb hx73)) (hv hF (x := .d (.agg 4 [.i x68, .i 0, .i 0, .i x73])) (aT rfl E7 (by kernel_rfl) rfl (bi (n := 4) wd Dg rfl rfl)) ?_)
  refine aD.new hF rfl rfl rfl rfl CL ?_
  refine hE ?_
  refine SmG.store hF rfl rfl rfl rfl rfl (aZ (ys := [.i x68, .i 0, .i 0, .i x73]) (r := [.i 0, .i 0, .i 0, .i 0]) (rows' := [[.i x68, .i 0, .i 0, .i x73]]) rfl rfl rfl sG rfl rfl rfl rfl rfl) ?_
  refine sn (Sm.seq ?_)
  obtain ⟨v77, hv77, h⟩ := ac h
  refine eD ⟨[(1, .d (.ptr 12 (GRaw.row a0))), (2, .ref 0 0 0), (3, .ref 1 0 0), (4, .i v5), (8, .i s60.1), (9, .ref 8 0 0), (121, .i s60.1), (122, .d (.v (.bool (decide (s60.1 < 3)))))], [(8, ⟨4, [[.i x68, .i v77, .i 0, .i x73]]⟩), (7, dB 4 (s60.2.map Cls.row)), (1, ⟨9, [[.i x1.cells, .d (.list 1 (x1.next.map (aC 1 (af .i64))) false), .l x1.turn, .d (.list 3 (v45.map Knd.row) false), .i x2, .d (.v (.bool (x3 == 3))), .sref 7 0 (s60.2.map Cls.row).length, .i v52, .i v59]]⟩), (0, ⟨9, [[.i 0, .z, .z, .z, .i 0, .d (.v (.bool false)), .z, .i 0, .i 0]]⟩)], 9⟩ ?_ ?_
  ·replace h := hv77
   refine sr hF (gv hF (oF (aG rx)) (gv hF (oL (cr rfl rfl ag3 rfl)) (gv hF (oB (kH)) (sn ?_))))
   refine aL hF rfl (fun hc74 => ?_) (fun hc74 => ?_)
   ·replace h := ifF hc74 h
    refine Sm.skip ?_
    obtain rfl := ae h
    exact (kA)
   replace h := ifT hc74 h
   refine ab hF rfl ?_
   refine gv hF (oF (ag mZ rfl)) (gv hF (oL (lP1 qu rfl)) (gv hF oM ?_))
   obtain ⟨x75, hx75, h⟩ := ac h
   refine gv hF (oI (bI u26 pC hx75)) (gv hF (oI (cF tG sz5 rfl rfl)) (gv hF (oL (lP1 ag5 rfl)) (gv hF (oC (eC u5 u3 (ee _))) (gv hF oM ?_))))
   obtain ⟨x76, hx76, h⟩ := ac h
   refine gv hF (oB (b7 hx76)) (gv hF (oF (aG Aj)) ?_)
   refine SmG.store hF rfl rfl rfl rfl rfl (cY (rows' := [[.i x68, .i x76, .i 0, .i x73]]) rfl rfl rfl sz3 rfl rfl rfl) ?_
   refine SmG.nil ?_
   obtain rfl := ae h
   exact (kA)
  refine Sm.seq ?_
  obtain ⟨v81, hv81, h⟩ := ac h
  refine eD ⟨[(1, .d (.ptr 12 (GRaw.row a0))), (2, .ref 0 0 0), (3, .ref 1 0 0), (4, .i v5), (8, .i s60.1), (9, .ref 8 0 0), (121, .i s60.1), (122, .d (.v (.bool (decide (s60.1 < 3)))))], [(8, ⟨4, [[.i x68, .i v77, .i v81, .i x73]]⟩), (7, dB 4 (s60.2.map Cls.row)), (1, ⟨9, [[.i x1.cells, .d (.list 1 (x1.next.map (aC 1 (af .i64))) false), .l x1.turn, .d (.list 3 (v45.map Knd.row) false), .i x2, .d (.v (.bool (x3 == 3))), .sref 7 0 (s60.2.map Cls.row).length, .i v52, .i v59]]⟩), (0, ⟨9, [[.i 0, .z, .z, .z, .i 0, .d (.v (.bool false)), .z, .i 0, .i 0]]⟩)], 9⟩ ?_ ?_
  ·replace h := hv81
   refine sr hF (gv hF (oF (aG rx)) (gv hF (oL (cr rfl rfl ag3 rfl)) (gv hF (oB (cM)) (sn ?_))))
   refine aL hF rfl (fun hc78 => ?_) (fun hc78 => ?_)
   ·replace h := ifF hc78 h
    refine Sm.skip ?_
    obtain rfl := ae h
    exact (kA)
   replace h := ifT hc78 h
   refine dG hF 10 ?_
   refine hv hF (oF (ag mZ rfl)) (hv hF (oL (lP1 qu rfl)) (hv hF oM ?_))
   obtain ⟨x79, hx79, h⟩ := ac h
   refine hv hF (oI (bI u26 pC hx79)) (hv hF (oI (cF tG sz5 rfl rfl)) (hv hF (oL (lP1 ag5 rfl)) (hv hF (oC (eC u5 u3 (ee _))) (hv hF (oF (aG nc)) (hv hF (oF (aG kW)) (hv hF (oL (cr rfl rfl ag3 rfl)) ?_))))))
   refine hE ?_
   obtain ⟨x80, hx80, h⟩ := ac h
   refine gv hF (oB (b7 hx80)) (gv hF (oF (aG uX)) ?_)
   refine SmG.store hF rfl rfl rfl rfl rfl (cY (rows' := [[.i x68, .i v77, .i x80, .i x73]]) rfl rfl rfl sz3 rfl rfl rfl) ?_
   refine SmG.nil ?_
   obtain rfl := ae h
   exact (kA)
  refine Sm.seq ?_
  obtain ⟨v85, hv85, h⟩ := ac h
  refine bj ⟨[(1, .d (.ptr 12 (GRaw.row a0))), (2, .ref 0 0 0), (3, .ref 1 0 0), (4, .i v5), (8, .i s60.1), (9, .ref 8 0 0), (121, .i s60.1), (122, .d (.v (.bool (decide (s60.1 < 3)))))], [(8, ⟨4, [[.i x68, .i v77, .i v85, .i x73]]⟩), (7, dB 4 (s60.2.map Cls.row)), (1, ⟨9, [[.i x1.cells, .d (.list 1 (x1.next.map (aC 1 (af .i64))) false), .l x1.turn, .d (.list 3 (v45.map Knd.row) false), .i x2, .d (.v (.bool (x3 == 3))), .sref 7 0 (s60.2.map Cls.row).length, .i v52, .i v59]]⟩), (0, ⟨9, [[.i 0, .z, .z, .z, .i 0, .d (.v (.bool false)), .z, .i 0, .i 0]]⟩)], 9⟩ ?_ ?_
  ·refine ab hF rfl ?_
   refine gv hF (oF (aG xE)) (gv hF (oL (cr rfl rfl AL rfl)) (gv hF (x := .d (.agg 4 [.i x68, .i v77, .i v85, .i x73])) (oL (aE rfl rfl zg sG rfl rfl)) (gv hF (x := .d (.list 4 ([(⟨x68, v77, v85, x73⟩ : Cls)].map Cls.row) true)) (oS (aB u75 sG wd rfl rfl (PartsQ.cons rfl (PartsQ.nil _)) rfl)) ?_)))
   refine dQ (wA (e := [(1, .d (.ptr 12 (GRaw.row a0))), (2, .ref 0 0 0), (3, .ref 1 0 0), (4, .i v5), (8, .i s60.1), (121, .i s60.1), (122, .d (.v (.bool (decide (s60.1 < 3))))), (187, .sref 7 0 (s60.2.map Cls.row).length), (189, .d (.list 4 ([(⟨x68, v77, v85, x73⟩ : Cls)].map Cls.row) true))]) (g := [(7, dB 4 (s60.2.map Cls.row)), (1, ⟨9, [[.i x1.cells, .d (.list 1 (x1.next.map (aC 1 (af .i64))) false), .l x1.turn, .d (.list 3 (v45.map Knd.row) false), .i x2, .d (.v (.bool (x3 == 3))), .any, .i v52, .i v59]]⟩), (0, ⟨9, [[.i 0, .z, .z, .z, .i 0, .d (.v (.bool false)), .z, .i 0, .i 0]]⟩)]) (m := 9)) rfl ?_
   obtain ⟨x86, hx86, h⟩ := ac h
   refine be hF H6 rfl (ys := [(⟨x68, v77, v85, x73⟩ : Cls)]) (row := Cls.row) rfl rfl rfl rfl rfl rfl rfl rfl (.inl rfl) hx86 (by (repeat' first | exact bm _ | refine bf ?_ | refine ap ?_ (aM _ _ _) | refine ap ?_ (aM _ _ [_]) | refine ap ?_ (bB (by rfl)))) ?_
   refine gv hF (oF (aG xE)) ?_
   refine SmG.store hF rfl rfl rfl rfl rfl (cY (rows' := [[.i x1.cells, .d (.list 1 (x1.next.map (aC 1 (af .i64))) false), .l x1.turn, .d (.list 3 (v45.map Knd.row) false), .i x2, .d (.v (.bool (x3 == 3))), .sref 7 0 (x86.map Cls.row).length, .i v52, .i v59]]) rfl rfl rfl Bp rfl rfl rfl) ?_
   refine SmG.nil (ay (aa ?_))
   refine ab hF rfl ?_
   refine gv hF oM ?_
   obtain ⟨x87, hx87, h⟩ := ac h
   refine gv hF (oB (bb hx87)) (gv hF oA (SmG.nil ?_))
   exact bC (bn h hd63) (aS (kA (e := [(1, .d (.ptr 12 (GRaw.row a0))), (2, .ref 0 0 0), (3, .ref 1 0 0), (4, .i v5), (8, .i x87)]) (g := [(7, dB 4 (x86.map Cls.row)), (1, ⟨9, [[.i x1.cells, .d (.list 1 (x1.next.map (aC 1 (af .i64))) false), .l x1.turn, .d (.list 3 (v45.map Knd.row) false), .i x2, .d (.v (.bool (x3 == 3))), .sref 7 0 (x86.map Cls.row).length, .i v52, .i v59]]⟩), (0, ⟨9, [[.i 0, .z, .z, .z, .i 0, .d (.v (.bool false)), .z, .i 0, .i 0]]⟩)]) (m := 9)) (xA 8))
  replace h := hv85
  refine sr hF (gv hF (oF (aG rx)) (gv hF (oL (cr rfl rfl ag3 rfl)) (gv hF (oB (cM)) (sn ?_))))
  refine aL hF rfl (fun hc82 => ?_) (fun hc82 => ?_)
  ·replace h := ifF hc82 h
   refine Sm.skip ?_
   obtain rfl := ae h
   exact (kA)
  replace h := ifT hc82 h
  refine ab hF rfl ?_
  refine gv hF (oF (ag mZ rfl)) (gv hF (oL (lP1 qu rfl)) (gv hF oM ?_))
  obtain ⟨x83, hx83, h⟩ := ac h
  refine gv hF (oI (bI u26 pC hx83)) (gv hF (oI (cF tG sz5 rfl rfl)) (gv hF (oL (lP1 ag5 rfl)) (gv hF (oC (eC u5 u3 (ee _))) ?_)))
  obtain ⟨x84, hx84, h⟩ := ac h
  refine gv hF (oB (b7 hx84)) (gv hF (oF (aG uX)) ?_)
  refine SmG.store hF rfl rfl rfl rfl rfl (cY (rows' := [[.i x68, .i v77, .i x84, .i x73]]) rfl rfl rfl sz3 rfl rfl rfl) ?_
  refine SmG.nil ?_
  obtain rfl := ae h
  exact (kA)
 replace h := hv45
 refine sr hF (gv hF oA (sn (Sm.block ?_)))
 refine Sm.rounds 60 ?_
 refine ky ?_
 refine Sm.seq (sr hF (gv hF oM (gv hF oM (gv hF (oB (bt)) (sn ?_)))))
 refine aL hF rfl (fun hc6 => ?_) (fun hc6 => ?_)
 ·replace h := ifF hc6 h
  refine Sm.exit ?_
  obtain rfl := ae h
  exact (aS (kA (e := [(1, .d (.ptr 12 (GRaw.row a0))), (2, .ref 0 0 0), (3, .ref 1 0 0), (4, .i v5)]) (g := [(1, ⟨9, [[.i x1.cells, .d (.list 1 (x1.next.map (aC 1 (af .i64))) false), .l x1.turn, .z, .i x2, .d (.v (.bool (x3 == 3))), .z, .i 3, .i 2]]⟩), (0, ⟨9, [[.i 0, .z, .z, .z, .i 0, .d (.v (.bool false)), .z, .i 0, .i 0]]⟩)]) (m := 2)) (wA))
 replace h := ifT hc6 h
 refine sk (Sm.seq ?_)
 obtain ⟨v21, hv21, h⟩ := ac h
 refine eD ⟨[(1, .d (.ptr 12 (GRaw.row a0))), (2, .ref 0 0 0), (3, .ref 1 0 0), (4, .i v5), (5, .i 0)], [(4, dB 3 (v21.map Knd.row)), (1, ⟨9, [[.i x1.cells, .d (.list 1 (x1.next.map (aC 1 (af .i64))) false), .l x1.turn, .sref 4 0 (v21.map Knd.row).length, .i x2, .d (.v (.bool (x3 == 3))), .z, .i 3, .i 2]]⟩), (0, ⟨9, [[.i 0, .z, .z, .z, .i 0, .d (.v (.bool false)), .z, .i 0, .i 0]]⟩)], 5⟩ ?_ ?_
 ·replace h := hv21
  refine Sm.block (Sm.seq ?_)
  refine dG hF 13 ?_
  refine hv hF (x := .d (.list 1 ([([97] : List UInt8), ([98, 101, 101] : List UInt8)].map tv) true)) (oS (aB rK sz9 ze9 rfl rfl (PartsQ.cons rfl (PartsQ.cons rfl (PartsQ.nil _))) rfl)) (hv hF oM ?_)
  obtain ⟨x7, hx7, h⟩ := ac h
  refine hv hF (oI (bI rK sz9 hx7)) (hv hF (oL (lP1 ag9 rfl)) (hv hF (oF (ag jS rfl)) (hv hF (oI (cF u27 sz5 rfl rfl)) (hv hF (oL (lP1 ag5 rfl)) (hv hF oM ?_)))))
  obtain ⟨x8, hx8, h⟩ := ac h
  refine hv hF (oB (l5 hx8)) (hv hF (oB sO) (hv hF (oB (cM)) (hv hF (x := .d (.agg 3 [.v (.string ⟨(x7 : List UInt8).toArray⟩), .z, .v (.bool ((eg .u8 x8 1) == 1))])) (aT rfl yu (by kernel_rfl) rfl (bi (n := 3) pH wa rfl rfl)) ?_)))
  refine aD.new hF rfl rfl rfl rfl vD ?_
  refine hE ?_
  refine SmG.store hF rfl rfl rfl rfl rfl (aZ (ys := [.d (.v (.string ⟨(x7 : List UInt8).toArray⟩)), .z, .d (.v (.bool ((eg .u8 x8 1) == 1)))]) (r := [.d (.v (.string ⟨([] : List UInt8).toArray⟩)), .z, .d (.v (.bool false))]) (rows' := [[.d (.v (.string ⟨(x7 : List UInt8).toArray⟩)), .z, .d (.v (.bool ((eg .u8 x8 1) == 1)))]]) rfl rfl rfl kJ rfl rfl rfl rfl rfl) ?_
  refine sn (Sm.seq ?_)
  obtain ⟨v19, hv19, h⟩ := ac h
  refine bj ⟨[(1, .d (.ptr 12 (GRaw.row a0))), (2, .ref 0 0 0), (3, .ref 1 0 0), (4, .i v5), (5, .i 0), (6, .ref 2 0 0)], [(2, ⟨3, [[.d (.v (.string ⟨(x7 : List UInt8).toArray⟩)), .d (.list 1 (v19.map (aC 2 Stp.row)) false), .d (.v (.bool ((eg .u8 x8 1) == 1)))]]⟩), (1, ⟨9, [[.i x1.cells, .d (.list 1 (x1.next.map (aC 1 (af .i64))) false), .l x1.turn, .z, .i x2, .d (.v (.bool (x3 == 3))), .z, .i 3, .i 2]]⟩), (0, ⟨9, [[.i 0, .z, .z, .z, .i 0, .d (.v (.bool false)), .z, .i 0, .i 0]]⟩)], 4⟩ ?_ ?_
  ·refine ab hF rfl ?_
   refine gv hF (oF (aG iI)) (gv hF (oL (cr rfl rfl lS rfl)) (gv hF (x := .d (.agg 3 [.v (.string ⟨(x7 : List UInt8).toArray⟩), .list 1 (v19.map (aC 2 Stp.row)) false, .v (.bool ((eg .u8 x8 1) == 1))])) (oL (aE rfl rfl vR kJ rfl rfl)) (gv hF (x := .d (.list 3 ([(⟨x7, v19, ((eg .u8 x8 1) == 1)⟩ : Knd)].map Knd.row) true)) (oS (aB u74 kJ pH rfl rfl (PartsQ.cons rfl (PartsQ.nil _)) rfl)) ?_)))
   obtain ⟨x20, hx20, h⟩ := ac h
   refine SmG.appendFreshL hF Bl rfl (ys := [(⟨x7, v19, ((eg .u8 x8 1) == 1)⟩ : Knd)]) (row := Knd.row) rfl rfl rfl rfl rfl rfl rfl (.inl rfl) hx20 ?_
   refine gv hF (oF (aG iI)) ?_
   refine SmG.store hF rfl rfl rfl rfl rfl (cY (rows' := [[.i x1.cells, .d (.list 1 (x1.next.map (aC 1 (af .i64))) false), .l x1.turn, .sref 4 0 (x20.map Knd.row).length, .i x2, .d (.v (.bool (x3 == 3))), .z, .i 3, .i 2]]) rfl rfl rfl y5 rfl rfl rfl) ?_
   refine SmG.nil (ay ?_)
   obtain rfl := ae h
   exact (kA)
  replace h := hv19
  refine sr hF (gv hF oA (sn (Sm.block ?_)))
  refine Sm.to (kA (e := [(1, .d (.ptr 12 (GRaw.row a0))), (2, .ref 0 0 0), (3, .ref 1 0 0), (4, .i v5), (5, .i 0), (6, .ref 2 0 0), (7, .i 0)]) (g := [(2, ⟨3, [[.d (.v (.string ⟨(x7 : List UInt8).toArray⟩)), .z, .d (.v (.bool ((eg .u8 x8 1) == 1)))]]⟩), (1, ⟨9, [[.i x1.cells, .d (.list 1 (x1.next.map (aC 1 (af .i64))) false), .l x1.turn, .z, .i x2, .d (.v (.bool (x3 == 3))), .z, .i 3, .i 2]]⟩), (0, ⟨9, [[.i 0, .z, .z, .z, .i 0, .d (.v (.bool false)), .z, .i 0, .i 0]]⟩)]) (m := 3)) ?_
  refine Sm.ownCell 2 0 1 1 rfl rfl rfl ?_
  refine bz (eR a0 x1 x2 v5) (fun s9 => ⟨[(1, .d (.ptr 12 (GRaw.row a0))), (2, .ref 0 0 0), (3, .ref 1 0 0), (4, .i v5), (5, .i 0), (6, .ref 2 0 0), (7, .i s9.1)], [(3, dB 1 (s9.2.map (aC 2 Stp.row))), (2, ⟨3, [[.d (.v (.string ⟨(x7 : List UInt8).toArray⟩)), .sref 3 0 (s9.2.map (aC 2 Stp.row)).length, .d (.v (.bool ((eg .u8 x8 1) == 1)))]]⟩), (1, ⟨9, [[.i x1.cells, .d (.list 1 (x1.next.map (aC 1 (af .i64))) false), .l x1.turn, .z, .i x2, .d (.v (.bool (x3 == 3))), .z, .i 3, .i 2]]⟩), (0, ⟨9, [[.i 0, .z, .z, .z, .i 0, .d (.v (.bool false)), .z, .i 0, .i 0]]⟩)], 4⟩) (0, ([] : List (List Stp))) h (kA) ?_
  intro n10 s9 o11 h hd12
  unfold eR at h
  refine Sm.seq (sr hF (gv hF oM (gv hF oM (gv hF (oF (ag mT rfl)) (gv hF (oI (cF u25 li rfl rfl)) (gv hF (oL (lP1 ov rfl)) (gv hF (oN (bc u24)) (gv hF (oB (bt)) ?_))))))))
  rcases bG (decide (s9.1 < (a0.k0.length : Int))) with hc13 | hc13
  ·replace h := ifF hc13 h
   refine gv hF (am rfl rfl hc13) (gp hF (gp hF (gv hF (ah rfl rfl rfl) (sn ?_))))
   refine ba hF rfl ?_
   refine Sm.exit ?_
   replace h := aH h hd12
   obtain rfl := ae h
   exact (aS (kA (e := [(1, .d (.ptr 12 (GRaw.row a0))), (2, .ref 0 0 0), (3, .ref 1 0 0), (4, .i v5), (5, .i 0), (6, .ref 2 0 0)]) (g := [(3, dB 1 (s9.2.map (aC 2 Stp.row))), (2, ⟨3, [[.d (.v (.string ⟨(x7 : List UInt8).toArray⟩)), .sref 3 0 (s9.2.map (aC 2 Stp.row)).length, .d (.v (.bool ((eg .u8 x8 1) == 1)))]]⟩), (1, ⟨9, [[.i x1.cells, .d (.list 1 (x1.next.map (aC 1 (af .i64))) false), .l x1.turn, .z, .i x2, .d (.v (.bool (x3 == 3))), .z, .i 3, .i 2]]⟩), (0, ⟨9, [[.i 0, .z, .z, .z, .i 0, .d (.v (.bool false)), .z, .i 0, .i 0]]⟩)]) (m := 4)) (fA (l := 3) (sz := 1) (s9.2.map (aC 2 Stp.row))))
  replace h := ifT hc13 h
  refine gv hF (am rfl rfl hc13) (gv hF oM (gv hF (oB (bt)) (gv hF (aw rfl rfl rfl) (sn ?_))))
  refine aL hF rfl (fun hc14 => ?_) (fun hc14 => ?_)
  ·replace h := ifF hc14 h
   refine Sm.exit ?_
   replace h := aH h hd12
   obtain rfl := ae h
   exact (aS (kA (e := [(1, .d (.ptr 12 (GRaw.row a0))), (2, .ref 0 0 0), (3, .ref 1 0 0), (4, .i v5), (5, .i 0), (6, .ref 2 0 0)]) (g := [(3, dB 1 (s9.2.map (aC 2 Stp.row))), (2, ⟨3, [[.d (.v (.string ⟨(x7 : List UInt8).toArray⟩)), .sref 3 0 (s9.2.map (aC 2 Stp.row)).length, .d (.v (.bool ((eg .u8 x8 1) == 1)))]]⟩), (1, ⟨9, [[.i x1.cells, .d (.list 1 (x1.next.map (aC 1 (af .i64))) false), .l x1.turn, .z, .i x2, .d (.v (.bool (x3 == 3))), .z, .i 3, .i 2]]⟩), (0, ⟨9, [[.i 0, .z, .z, .z, .i 0, .d (.v (.bool false)), .z, .i 0, .i 0]]⟩)]) (m := 4)) (fA (l := 3) (sz := 1) (s9.2.map (aC 2 Stp.row))))
  replace h := ifT hc14 h
  refine sk (Sm.seq (Sm.block ?_))
  refine dG hF 18 ?_
  refine hv hF (oF (aG pB)) (hv hF (oL (cr rfl rfl wn rfl)) (hv hF oM (hv hF (oF (ag mT rfl)) (hv hF (oI (cF u25 li rfl rfl)) (hv hF (oL (lP1 ov rfl)) (hv hF oM ?_))))))
  obtain ⟨x15, hx15, h⟩ := ac h
  refine hv hF (oI (bI u24 sz5 hx15)) (hv hF (oL (lP1 ag5 rfl)) (hv hF (oF (aG nc)) (hv hF (oF (aG kX)) (hv hF (oL (cr rfl rfl pW rfl)) (hv hF (oN (bc u71)) (hv hF oM (hv hF (oF (aG tq)) (hv hF (oL (cr rfl rfl ag3 rfl)) ?_))))))))
  obtain ⟨x16, hx16, h⟩ := ac h
  refine cH hF (jV hx16) ?_
  refine hv hF (x := .d (.list 1 ([x16].map (aC 2 Stp.row)) true)) (oS (aB ud qG sE rfl rfl (PartsQ.cons rfl (PartsQ.nil _)) rfl)) ?_
  refine hE ?_
  refine dQ (wA (e := [(1, .d (.ptr 12 (GRaw.row a0))), (2, .ref 0 0 0), (3, .ref 1 0 0), (4, .i v5), (5, .i 0), (6, .ref 2 0 0), (7, .i s9.1), (58, .i s9.1), (59, .d (.v (.bool (decide (s9.1 < 4))))), (64, .sref 3 0 (s9.2.map (aC 2 Stp.row)).length), (80, .d (.list 1 ([x16].map (aC 2 Stp.row)) true))]) (g := [(3, dB 1 (s9.2.map (aC 2 Stp.row))), (2, ⟨3, [[.d (.v (.string ⟨(x7 : List UInt8).toArray⟩)), .any, .d (.v (.bool ((eg .u8 x8 1) == 1)))]]⟩), (1, ⟨9, [[.i x1.cells, .d (.list 1 (x1.next.map (aC 1 (af .i64))) false), .l x1.turn, .z, .i x2, .d (.v (.bool (x3 == 3))), .z, .i 3, .i 2]]⟩), (0, ⟨9, [[.i 0, .z, .z, .z, .i 0, .d (.v (.bool false)), .z, .i 0, .i 0]]⟩)]) (m := 4)) rfl ?_
  obtain ⟨x17, hx17, h⟩ := ac h
  refine be hF zr rfl (ys := [x16]) (row := (aC 2 Stp.row)) rfl rfl rfl rfl rfl rfl rfl rfl (.inl rfl) hx17 (by (repeat' first | exact bm _ | refine bf ?_ | refine ap ?_ (aM _ _ _) | refine ap ?_ (aM _ _ [_]) | refine ap ?_ (bB (by rfl)))) ?_
  refine gv hF (oF (aG pB)) ?_
  refine SmG.store hF rfl rfl rfl rfl rfl (cY (rows' := [[.d (.v (.string ⟨(x7 : List UInt8).toArray⟩)), .sref 3 0 (x17.map (aC 2 Stp.row)).length, .d (.v (.bool ((eg .u8 x8 1) == 1)))]]) rfl rfl rfl vF rfl rfl rfl) ?_
  refine SmG.nil (ay (aa ?_))
  refine ab hF rfl ?_
  refine gv hF oM ?_
  obtain ⟨x18, hx18, h⟩ := ac h
  refine gv hF (oB (bb hx18)) (gv hF oA (SmG.nil ?_))
  exact bC (bn h hd12) (kA)
 refine ab hF rfl ?_
 refine gv hF oM (gv hF (oB (bb (v := 1) rfl)) (gv hF oA (sn ?_)))
 refine ky ?_
 refine Sm.seq (sr hF (gv hF oM (gv hF oM (gv hF (oB (bt)) (sn ?_)))))
 refine aL hF rfl (fun hc22 => ?_) (fun hc22 => ?_)
 ·replace h := ifF hc22 h
  refine Sm.exit ?_
  obtain rfl := ae h
  exact (aS (kA (e := [(1, .d (.ptr 12 (GRaw.row a0))), (2, .ref 0 0 0), (3, .ref 1 0 0), (4, .i v5)]) (g := [(4, dB 3 (v21.map Knd.row)), (1, ⟨9, [[.i x1.cells, .d (.list 1 (x1.next.map (aC 1 (af .i64))) false), .l x1.turn, .sref 4 0 (v21.map Knd.row).length, .i x2, .d (.v (.bool (x3 == 3))), .z, .i 3, .i 2]]⟩), (0, ⟨9, [[.i 0, .z, .z, .z, .i 0, .d (.v (.bool false)), .z, .i 0, .i 0]]⟩)]) (m := 5)) (aS (fA (l := 4) (sz := 3) (e := [(1, .d (.ptr 12 (GRaw.row a0))), (2, .ref 0 0 0), (3, .ref 1 0 0), (4, .i v5)]) (g := [(1, ⟨9, [[.i x1.cells, .d (.list 1 (x1.next.map (aC 1 (af .i64))) false), .l x1.turn, .d (.list 3 (v21.map Knd.row) false), .i x2, .d (.v (.bool (x3 == 3))), .z, .i 3, .i 2]]⟩), (0, ⟨9, [[.i 0, .z, .z, .z, .i 0, .d (.v (.bool false)), .z, .i 0, .i 0]]⟩)]) (nx := 5) (v21.map Knd.row)) (kA)))
 replace h := ifT hc22 h
 refine sk (Sm.seq ?_)
 obtain ⟨v37, hv37, h⟩ := ac h
 refine bj ⟨[(1, .d (.ptr 12 (GRaw.row a0))), (2, .ref 0 0 0), (3, .ref 1 0 0), (4, .i v5), (5, .i 1)], [(4, dB 3 (v37.map Knd.row)), (1, ⟨9, [[.i x1.cells, .d (.list 1 (x1.next.map (aC 1 (af .i64))) false), .l x1.turn, .sref 4 0 (v37.map Knd.row).length, .i x2, .d (.v (.bool (x3 == 3))), .z, .i 3, .i 2]]⟩), (0, ⟨9, [[.i 0, .z, .z, .z, .i 0, .d (.v (.bool false)), .z, .i 0, .i 0]]⟩)], 7⟩ ?_ ?_
 ·refine ab hF rfl ?_
  refine gv hF oM (gv hF (oB (bb (v := 2) rfl)) (gv hF oA (sn ?_)))
  refine ky ?_
  refine Sm.seq (sr hF (gv hF oM (gv hF oM (gv hF (oB (bt)) (sn ?_)))))
  refine aL hF rfl (fun hc38 => ?_) (fun hc38 => ?_)
  ·replace h := ifF hc38 h
   refine Sm.exit ?_
   obtain rfl := ae h
   exact (aS (kA (e := [(1, .d (.ptr 12 (GRaw.row a0))), (2, .ref 0 0 0), (3, .ref 1 0 0), (4, .i v5)]) (g := [(4, dB 3 (v37.map Knd.row)), (1, ⟨9, [[.i x1.cells, .d (.list 1 (x1.next.map (aC 1 (af .i64))) false), .l x1.turn, .sref 4 0 (v37.map Knd.row).length, .i x2, .d (.v (.bool (x3 == 3))), .z, .i 3, .i 2]]⟩), (0, ⟨9, [[.i 0, .z, .z, .z, .i 0, .d (.v (.bool false)), .z, .i 0, .i 0]]⟩)]) (m := 7)) (fA (l := 4) (sz := 3) (v37.map Knd.row)))
  replace h := ifT hc38 h
  refine sk (Sm.seq (Sm.block (Sm.seq ?_)))
  refine dG hF 13 ?_
  refine hv hF (x := .d (.list 1 ([([97] : List UInt8), ([98, 101, 101] : List UInt8)].map tv) true)) (oS (aB rK sz9 ze9 rfl rfl (PartsQ.cons rfl (PartsQ.cons rfl (PartsQ.nil _))) rfl)) (hv hF oM ?_)
  obtain ⟨x39, hx39, h⟩ := ac h
  refine hv hF (oI (bI rK sz9 hx39)) (hv hF (oL (lP1 ag9 rfl)) (hv hF (oF (ag jS rfl)) (hv hF (oI (cF u27 sz5 rfl rfl)) (hv hF (oL (lP1 ag5 rfl)) (hv hF oM ?_)))))
  obtain ⟨x40, hx40, h⟩ := ac h
  refine hv hF (oB (l5 hx40)) (hv hF (oB sO) (hv hF (oB (cM)) (hv hF (x := .d (.agg 3 [.v (.string ⟨(x39 : List UInt8).toArray⟩), .z, .v (.bool ((eg .u8 x40 1) == 1))])) (aT rfl yu (by kernel_rfl) rfl (bi (n := 3) pH wa rfl rfl)) ?_)))
  refine aD.new hF rfl rfl rfl rfl vD ?_
  refine hE ?_
  refine SmG.store hF rfl rfl rfl rfl rfl (aZ (ys := [.d (.v (.string ⟨(x39 : List UInt8).toArray⟩)), .z, .d (.v (.bool ((eg .u8 x40 1) == 1)))]) (r := [.d (.v (.string ⟨([] : List UInt8).toArray⟩)), .z, .d (.v (.bool false))]) (rows' := [[.d (.v (.string ⟨(x39 : List UInt8).toArray⟩)), .z, .d (.v (.bool ((eg .u8 x40 1) == 1)))]]) rfl rfl rfl kJ rfl rfl rfl rfl rfl) ?_
  refine sn (Sm.seq (sr hF (gv hF oA (sn (Sm.block ?_)))))
  refine bz (gZ) (fun s41 => ⟨[(1, .d (.ptr 12 (GRaw.row a0))), (2, .ref 0 0 0), (3, .ref 1 0 0), (4, .i v5), (5, .i 2), (6, .ref 7 0 0), (7, .i s41)], [(7, ⟨3, [[.d (.v (.string ⟨(x39 : List UInt8).toArray⟩)), .z, .d (.v (.bool ((eg .u8 x40 1) == 1)))]]⟩), (4, dB 3 (v37.map Knd.row)), (1, ⟨9, [[.i x1.cells, .d (.list 1 (x1.next.map (aC 1 (af .i64))) false), .l x1.turn, .sref 4 0 (v37.map Knd.row).length, .i x2, .d (.v (.bool (x3 == 3))), .z, .i 3, .i 2]]⟩), (0, ⟨9, [[.i 0, .z, .z, .z, .i 0, .d (.v (.bool false)), .z, .i 0, .i 0]]⟩)], 8⟩) 0 h (kA) ?_
  intro n42 s41 o43 h hd44
  unfold gZ at h
  refine Sm.seq (sr hF (gv hF oM (gv hF oM (gv hF (oF (ag mT rfl)) ?_))))
  cases h
 replace h := hv37
 refine Sm.block (Sm.seq ?_)
 refine dG hF 13 ?_
 refine hv hF (x := .d (.list 1 ([([97] : List UInt8), ([98, 101, 101] : List UInt8)].map tv) true)) (oS (aB rK sz9 ze9 rfl rfl (PartsQ.cons rfl (PartsQ.cons rfl (PartsQ.nil _))) rfl)) (hv hF oM ?_)
 obtain ⟨x23, hx23, h⟩ := ac h
 refine hv hF (oI (bI rK sz9 hx23)) (hv hF (oL (lP1 ag9 rfl)) (hv hF (oF (ag jS rfl)) (hv hF (oI (cF u27 sz5 rfl rfl)) (hv hF (oL (lP1 ag5 rfl)) (hv hF oM ?_)))))
 obtain ⟨x24, hx24, h⟩ := ac h
 refine hv hF (oB (l5 hx24)) (hv hF (oB sO) (hv hF (oB (cM)) (hv hF (x := .d (.agg 3 [.v (.string ⟨(x23 : List UInt8).toArray⟩), .z, .v (.bool ((eg .u8 x24 1) == 1))])) (aT rfl yu (by kernel_rfl) rfl (bi (n := 3) pH wa rfl rfl)) ?_)))
 refine aD.new hF rfl rfl rfl rfl vD ?_
 refine hE ?_
 refine SmG.store hF rfl rfl rfl rfl rfl (aZ (ys := [.d (.v (.string ⟨(x23 : List UInt8).toArray⟩)), .z, .d (.v (.bool ((eg .u8 x24 1) == 1)))]) (r := [.d (.v (.string ⟨([] : List UInt8).toArray⟩)), .z, .d (.v (.bool false))]) (rows' := [[.d (.v (.string ⟨(x23 : List UInt8).toArray⟩)), .z, .d (.v (.bool ((eg .u8 x24 1) == 1)))]]) rfl rfl rfl kJ rfl rfl rfl rfl rfl) ?_
 refine sn (Sm.seq ?_)
 obtain ⟨v35, hv35, h⟩ := ac h
 refine bj ⟨[(1, .d (.ptr 12 (GRaw.row a0))), (2, .ref 0 0 0), (3, .ref 1 0 0), (4, .i v5), (5, .i 1), (6, .ref 5 0 0)], [(5, ⟨3, [[.d (.v (.string ⟨(x23 : List UInt8).toArray⟩)), .d (.list 1 (v35.map (aC 2 Stp.row)) false), .d (.v (.bool ((eg .u8 x24 1) == 1)))]]⟩), (4, dB 3 (v21.map Knd.row)), (1, ⟨9, [[.i x1.cells, .d (.list 1 (x1.next.map (aC 1 (af .i64))) false), .l x1.turn, .sref 4 0 (v21.map Knd.row).length, .i x2, .d (.v (.bool (x3 == 3))), .z, .i 3, .i 2]]⟩), (0, ⟨9, [[.i 0, .z, .z, .z, .i 0, .d (.v (.bool false)), .z, .i 0, .i 0]]⟩)], 7⟩ ?_ ?_
 ·refine ab hF rfl ?_
  refine gv hF (oF (aG iI)) (gv hF (oL (cr rfl rfl lS rfl)) (gv hF (x := .d (.agg 3 [.v (.string ⟨(x23 : List UInt8).toArray⟩), .list 1 (v35.map (aC 2 Stp.row)) false, .v (.bool ((eg .u8 x24 1) == 1))])) (oL (aE rfl rfl vR kJ rfl rfl)) (gv hF (x := .d (.list 3 ([(⟨x23, v35, ((eg .u8 x24 1) == 1)⟩ : Knd)].map Knd.row) true)) (oS (aB u74 kJ pH rfl rfl (PartsQ.cons rfl (PartsQ.nil _)) rfl)) ?_)))
  refine dQ (wA (e := [(1, .d (.ptr 12 (GRaw.row a0))), (2, .ref 0 0 0), (3, .ref 1 0 0), (4, .i v5), (5, .i 1), (84, .sref 4 0 (v21.map Knd.row).length), (86, .d (.list 3 ([(⟨x23, v35, ((eg .u8 x24 1) == 1)⟩ : Knd)].map Knd.row) true))]) (g := [(4, dB 3 (v21.map Knd.row)), (1, ⟨9, [[.i x1.cells, .d (.list 1 (x1.next.map (aC 1 (af .i64))) false), .l x1.turn, .any, .i x2, .d (.v (.bool (x3 == 3))), .z, .i 3, .i 2]]⟩), (0, ⟨9, [[.i 0, .z, .z, .z, .i 0, .d (.v (.bool false)), .z, .i 0, .i 0]]⟩)]) (m := 7)) rfl ?_
  obtain ⟨x36, hx36, h⟩ := ac h
  refine be hF Bl rfl (ys := [(⟨x23, v35, ((eg .u8 x24 1) == 1)⟩ : Knd)]) (row := Knd.row) rfl rfl rfl rfl rfl rfl rfl rfl (.inl rfl) hx36 (by (repeat' first | exact bm _ | refine bf ?_ | refine ap ?_ (aM _ _ _) | refine ap ?_ (aM _ _ [_]) | refine ap ?_ (bB (by rfl)))) ?_
  refine gv hF (oF (aG iI)) ?_
  refine SmG.store hF rfl rfl rfl rfl rfl (cY (rows' := [[.i x1.cells, .d (.list 1 (x1.next.map (aC 1 (af .i64))) false), .l x1.turn, .sref 4 0 (x36.map Knd.row).length, .i x2, .d (.v (.bool (x3 == 3))), .z, .i 3, .i 2]]) rfl rfl rfl y5 rfl rfl rfl) ?_
  refine SmG.nil (ay ?_)
  obtain rfl := ae h
  exact (kA)
 replace h := hv35
 refine sr hF (gv hF oA (sn (Sm.block ?_)))
 refine Sm.to (kA (e := [(1, .d (.ptr 12 (GRaw.row a0))), (2, .ref 0 0 0), (3, .ref 1 0 0), (4, .i v5), (5, .i 1), (6, .ref 5 0 0), (7, .i 0)]) (g := [(5, ⟨3, [[.d (.v (.string ⟨(x23 : List UInt8).toArray⟩)), .z, .d (.v (.bool ((eg .u8 x24 1) == 1)))]]⟩), (4, dB 3 (v21.map Knd.row)), (1, ⟨9, [[.i x1.cells, .d (.list 1 (x1.next.map (aC 1 (af .i64))) false), .l x1.turn, .sref 4 0 (v21.map Knd.row).length, .i x2, .d (.v (.bool (x3 == 3))), .z, .i 3, .i 2]]⟩), (0, ⟨9, [[.i 0, .z, .z, .z, .i 0, .d (.v (.bool false)), .z, .i 0, .i 0]]⟩)]) (m := 6)) ?_
 refine Sm.ownCell 5 0 1 1 rfl rfl rfl ?_
 refine bz (eV a0 x1 x2 v5) (fun s25 => ⟨[(1, .d (.ptr 12 (GRaw.row a0))), (2, .ref 0 0 0), (3, .ref 1 0 0), (4, .i v5), (5, .i 1), (6, .ref 5 0 0), (7, .i s25.1)], [(6, dB 1 (s25.2.map (aC 2 Stp.row))), (5, ⟨3, [[.d (.v (.string ⟨(x23 : List UInt8).toArray⟩)), .sref 6 0 (s25.2.map (aC 2 Stp.row)).length, .d (.v (.bool ((eg .u8 x24 1) == 1)))]]⟩), (4, dB 3 (v21.map Knd.row)), (1, ⟨9, [[.i x1.cells, .d (.list 1 (x1.next.map (aC 1 (af .i64))) false), .l x1.turn, .sref 4 0 (v21.map Knd.row).length, .i x2, .d (.v (.bool (x3 == 3))), .z, .i 3, .i 2]]⟩), (0, ⟨9, [[.i 0, .z, .z, .z, .i 0, .d (.v (.bool false)), .z, .i 0, .i 0]]⟩)], 7⟩) (0, ([] : List (List Stp))) h (kA) ?_
 intro n26 s25 o27 h hd28
 unfold eV at h
 refine Sm.seq (sr hF (gv hF oM (gv hF oM (gv hF (oF (ag mT rfl)) (gv hF (oI (cF u25 li rfl rfl)) (gv hF (oL (lP1 ov rfl)) (gv hF (oN (bc u24)) (gv hF (oB (bt)) ?_))))))))
 rcases bG (decide (s25.1 < (a0.k1.length : Int))) with hc29 | hc29
 ·replace h := ifF hc29 h
  refine gv hF (am rfl rfl hc29) (gp hF (gp hF (gv hF (ah rfl rfl rfl) (sn ?_))))
  refine ba hF rfl ?_
  refine Sm.exit ?_
  replace h := aH h hd28
  obtain rfl := ae h
  exact (aS (kA (e := [(1, .d (.ptr 12 (GRaw.row a0))), (2, .ref 0 0 0), (3, .ref 1 0 0), (4, .i v5), (5, .i 1), (6, .ref 5 0 0)]) (g := [(6, dB 1 (s25.2.map (aC 2 Stp.row))), (5, ⟨3, [[.d (.v (.string ⟨(x23 : List UInt8).toArray⟩)), .sref 6 0 (s25.2.map (aC 2 Stp.row)).length, .d (.v (.bool ((eg .u8 x24 1) == 1)))]]⟩), (4, dB 3 (v21.map Knd.row)), (1, ⟨9, [[.i x1.cells, .d (.list 1 (x1.next.map (aC 1 (af .i64))) false), .l x1.turn, .sref 4 0 (v21.map Knd.row).length, .i x2, .d (.v (.bool (x3 == 3))), .z, .i 3, .i 2]]⟩), (0, ⟨9, [[.i 0, .z, .z, .z, .i 0, .d (.v (.bool false)), .z, .i 0, .i 0]]⟩)]) (m := 7)) (fA (l := 6) (sz := 1) (s25.2.map (aC 2 Stp.row))))
 replace h := ifT hc29 h
 refine gv hF (am rfl rfl hc29) (gv hF oM (gv hF (oB (bt)) (gv hF (aw rfl rfl rfl) (sn ?_))))
 refine aL hF rfl (fun hc30 => ?_) (fun hc30 => ?_)
 ·replace h := ifF hc30 h
  refine Sm.exit ?_
  replace h := aH h hd28
  obtain rfl := ae h
  exact (aS (kA (e := [(1, .d (.ptr 12 (GRaw.row a0))), (2, .ref 0 0 0), (3, .ref 1 0 0), (4, .i v5), (5, .i 1), (6, .ref 5 0 0)]) (g := [(6, dB 1 (s25.2.map (aC 2 Stp.row))), (5, ⟨3, [[.d (.v (.string ⟨(x23 : List UInt8).toArray⟩)), .sref 6 0 (s25.2.map (aC 2 Stp.row)).length, .d (.v (.bool ((eg .u8 x24 1) == 1)))]]⟩), (4, dB 3 (v21.map Knd.row)), (1, ⟨9, [[.i x1.cells, .d (.list 1 (x1.next.map (aC 1 (af .i64))) false), .l x1.turn, .sref 4 0 (v21.map Knd.row).length, .i x2, .d (.v (.bool (x3 == 3))), .z, .i 3, .i 2]]⟩), (0, ⟨9, [[.i 0, .z, .z, .z, .i 0, .d (.v (.bool false)), .z, .i 0, .i 0]]⟩)]) (m := 7)) (fA (l := 6) (sz := 1) (s25.2.map (aC 2 Stp.row))))
 replace h := ifT hc30 h
 refine sk (Sm.seq (Sm.block ?_))
 refine dG hF 18 ?_
 refine hv hF (oF (aG pB)) (hv hF (oL (cr rfl rfl wn rfl)) (hv hF oM (hv hF (oF (ag mT rfl)) (hv hF (oI (cF u25 li rfl rfl)) (hv hF (oL (lP1 ov rfl)) (hv hF oM ?_))))))
 obtain ⟨x31, hx31, h⟩ := ac h
 refine hv hF (oI (bI u24 sz5 hx31)) (hv hF (oL (lP1 ag5 rfl)) (hv hF (oF (aG nc)) (hv hF (oF (aG kX)) (hv hF (oL (cr rfl rfl pW rfl)) (hv hF (oN (bc u71)) (hv hF oM (hv hF (oF (aG tq)) (hv hF (oL (cr rfl rfl ag3 rfl)) ?_))))))))
 obtain ⟨x32, hx32, h⟩ := ac h
 refine cH hF (jV hx32) ?_
 refine hv hF (x := .d (.list 1 ([x32].map (aC 2 Stp.row)) true)) (oS (aB ud qG sE rfl rfl (PartsQ.cons rfl (PartsQ.nil _)) rfl)) ?_
 refine hE ?_
 refine dQ (wA (e := [(1, .d (.ptr 12 (GRaw.row a0))), (2, .ref 0 0 0), (3, .ref 1 0 0), (4, .i v5), (5, .i 1), (6, .ref 5 0 0), (7, .i s25.1), (58, .i s25.1), (59, .d (.v (.bool (decide (s25.1 < 4))))), (64, .sref 6 0 (s25.2.map (aC 2 Stp.row)).length), (80, .d (.list 1 ([x32].map (aC 2 Stp.row)) true))]) (g := [(6, dB 1 (s25.2.map (aC 2 Stp.row))), (5, ⟨3, [[.d (.v (.string ⟨(x23 : List UInt8).toArray⟩)), .any, .d (.v (.bool ((eg .u8 x24 1) == 1)))]]⟩), (4, dB 3 (v21.map Knd.row)), (1, ⟨9, [[.i x1.cells, .d (.list 1 (x1.next.map (aC 1 (af .i64))) false), .l x1.turn, .sref 4 0 (v21.map Knd.row).length, .i x2, .d (.v (.bool (x3 == 3))), .z, .i 3, .i 2]]⟩), (0, ⟨9, [[.i 0, .z, .z, .z, .i 0, .d (.v (.bool false)), .z, .i 0, .i 0]]⟩)]) (m := 7)) rfl ?_
 obtain ⟨x33, hx33, h⟩ := ac h
 refine be hF zr rfl (ys := [x32]) (row := (aC 2 Stp.row)) rfl rfl rfl rfl rfl rfl rfl rfl (.inl rfl) hx33 (by (repeat' first | exact bm _ | refine bf ?_ | refine ap ?_ (aM _ _ _) | refine ap ?_ (aM _ _ [_]) | refine ap ?_ (bB (by rfl)))) ?_
 refine gv hF (oF (aG pB)) ?_
 refine SmG.store hF rfl rfl rfl rfl rfl (cY (rows' := [[.d (.v (.string ⟨(x23 : List UInt8).toArray⟩)), .sref 6 0 (x33.map (aC 2 Stp.row)).length, .d (.v (.bool ((eg .u8 x24 1) == 1)))]]) rfl rfl rfl vF rfl rfl rfl) ?_
 refine SmG.nil (ay (aa ?_))
 refine ab hF rfl ?_
 refine gv hF oM ?_
 obtain ⟨x34, hx34, h⟩ := ac h
 refine gv hF (oB (bb hx34)) (gv hF oA (SmG.nil ?_))
 exact bC (bn h hd28) (kA)
end
end Go.Proofs.YtbaccmkhjmmlnaaDoor
