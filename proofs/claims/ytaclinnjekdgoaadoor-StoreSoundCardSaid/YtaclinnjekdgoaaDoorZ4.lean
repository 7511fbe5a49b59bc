/-
  Lemmas, part 4 of 8: walks through the program's functions, and plain Lean about what they compute.
-/
import Derived.Test.YtaclinnjekdgoaaDoorZ1
import Derived.Test.YtaclinnjekdgoaaDoorZ2
import Derived.Test.YtaclinnjekdgoaaDoorZ3
set_option linter.unnecessarySimpa false
set_option linter.unusedSimpArgs false
set_option linter.unusedVariables false
namespace Go.Proofs.YtaclinnjekdgoaaDoor
section
open Go.RowKit
set_option maxRecDepth 100000
section
variable (P : Program) (t : TypeId) (x y : Operand)
theorem iG (a b : UInt32) : aE P (do eqGuard .add t x y (.int .u32 a.toNat) (.int .u32 b.toNat); binOp .add t (.int .u32 a.toNat) (.int .u32 b.toNat)) = some (.int .u32 ((a + b).toNat : Int)) := by rw [xQ, EH]
theorem iH (a b : UInt32) : aE P (do eqGuard .xor t x y (.int .u32 a.toNat) (.int .u32 b.toNat); binOp .xor t (.int .u32 a.toNat) (.int .u32 b.toNat)) = some (.int .u32 ((a ^^^ b).toNat : Int)) := by
 rw [CP]; exact congrArg (fun n => some (Value.int .u32 n)) (pa a b)
theorem qu (a b : UInt32) : aE P (do eqGuard .and t x y (.int .u32 a.toNat) (.int .u32 b.toNat); binOp .and t (.int .u32 a.toNat) (.int .u32 b.toNat)) = some (.int .u32 ((a &&& b).toNat : Int)) := by
 rw [CK]; exact congrArg (fun n => some (Value.int .u32 n)) (zY a b)
theorem GQ (a : UInt32) : aE P (Op.unary .xor (.int .u32 a.toNat)) = some (.int .u32 ((~~~a).toNat : Int)) := by
 rw [← ET a]; rfl
theorem yc (n : Nat) {b : Int} (k2 : IntKind) (hb : b = (n : Int)) (hn : n ≤ 32) (a : UInt32) : aE P (do eqGuard .shr t x y (.int .u32 a.toNat) (.int k2 b); binOp .shr t (.int .u32 a.toNat) (.int k2 b)) = some (.int .u32 ((Sha.shr a n).toNat : Int)) := by
 rw [tu P t x y .u32 a.toNat b k2 (by omega), ← Ba]
 subst hb
 have : min ((n : Int).toNat) IntKind.u32.bits = n := by show min _ 32 = n; omega
 rw [this, Int.fdiv_eq_ediv_of_nonneg _ (Int.le_of_lt (Int.pow_pos (by omega)))]
 norm_cast
theorem FQ (p : Nat) (k2 : IntKind) (hp : p < 16777216) : aE P (do eqGuard .shl t x y (.int .u32 p) (.int k2 8); binOp .shl t (.int .u32 p) (.int k2 8)) = some (.int .u32 ((p * 256 : Nat) : Int)) := by
 have e : (2 : Int) ^ (min (8 : Int).toNat IntKind.u32.bits) = 256 := by decide
 rw [xS P t x y .u32 p 8 k2 (by omega), e, uN _ (by omega)]
 simp
theorem GR (p c : Nat) (hp : p < 16777216) (hc : c < 256) : aE P (do eqGuard .or t x y (.int .u32 ((p * 256 : Nat) : Int)) (.int .u32 c); binOp .or t (.int .u32 ((p * 256 : Nat) : Int)) (.int .u32 c)) = some (.int .u32 ((p * 256 + c : Nat) : Int)) := by
 rw [EX]
 have := C5 p c hp hc
 rw [show (p : Int) * 256 % 4294967296 = ((p * 256 : Nat) : Int) by omega] at this
 exact congrArg (fun n => some (Value.int .u32 n)) this
end
theorem ji {n : Int} (m : Nat) (x : UInt32) (hn : n = m) (h1 : m ≤ 31) (G : Nat → Option D) : ap Tryd.prog G 85 [.v (.int .i64 n), .v (.int .u32 x.toNat)] (.v (.int .u32 (Sha.rotr x m).toNat)) := by
 intro C w vs hG hk ha
 obtain ⟨v, u, rfl, hv, hu⟩ := HU ha
 rw [bx hv, bx hu]
 subst hn
 refine (EC m x w h1).mono ?_
 rintro e w' ⟨rfl, k, rfl⟩
 exact ⟨_, C, rfl, .of_below hk (below_drewN (Below.refl _ _) k), .v _⟩
theorem Fj (G : Nat → Option D) : ap Tryd.prog G 71 [] (.agg 8 (Sha.begin8.map bA)) := by
 refine ap.of Tryd.func71 rfl Tryd.ntmps71 (by simp) ?_; intro F hF h0 hT; simp only [List.zipIdx_cons, List.zipIdx_nil, List.map_cons, List.map_nil, Nat.zero_add, Nat.reduceAdd]
 refine Sm.seq ?_
 refine ab hF rfl ?_
 refine SmG.new hF rfl rfl rfl (aF rfl zX) ?_
 refine SmG.nil (aa (Sm.seq ?_))
 refine ab hF rfl ?_
 refine gv hF (fR rfl Tryd.underlying84 rfl (show _ = some (.d (.agg 8 (Sha.begin8.map bA))) from by kernel_rfl)) ?_
 refine SmG.store hF rfl rfl rfl rfl rfl (by simp (disch := omega) only [go_sem, Nat.reduceEqDiff, ai] <;> rfl) ?_
 refine SmG.nil (aa (Sm.ret ?_))
 refine ⟨.agg 8 (Sha.begin8.map bA), ?_, D.le.refl _⟩
 kernel_rfl
theorem Gl (G : Nat → Option D) : ap Tryd.prog G 84 [] (.agg 64 (Sha.keys64.map bA)) := by
 refine ap.of Tryd.func84 rfl Tryd.ntmps84 (by simp) ?_; intro F hF h0 hT; simp only [List.zipIdx_cons, List.zipIdx_nil, List.map_cons, List.map_nil, Nat.zero_add, Nat.reduceAdd]
 refine Sm.seq ?_
 refine ab hF rfl ?_
 refine SmG.new hF rfl rfl rfl (aF rfl sl) ?_
 refine SmG.nil (aa (Sm.seq ?_))
 refine ab hF rfl ?_
 refine gv hF (fR rfl Tryd.underlying112 rfl (show _ = some (.d (.agg 64 (Sha.keys64.map bA))) from by kernel_rfl)) ?_
 refine SmG.store hF rfl rfl rfl rfl rfl (by simp (disch := omega) only [go_sem, Nat.reduceEqDiff, ai] <;> rfl) ?_
 refine SmG.nil (aa (Sm.ret ?_))
 refine ⟨.agg 64 (Sha.keys64.map bA), ?_, D.le.refl _⟩
 kernel_rfl
abbrev dW (n : Nat) (l : List UInt32) : Blk := dB n [l.map bA]
theorem Es (l : List UInt32) (i z : Nat) (h : z < 4294967296) : (List.map V.d (List.map bA l)).set i (.d (.v (.int .u32 (z : Int)))) = List.map V.d (List.map bA (l.set i (UInt32.ofNat z))) := by
 rw [List.map_set, List.map_set]
 have : (UInt32.ofNat z).toNat = z := Nat.mod_eq_of_lt h
 rw [bA, this]
theorem vK (l : List UInt32) (i : Nat) (z : UInt32) : (List.map V.d (List.map bA l)).set i (.d (.v (.int .u32 (z.toNat : Int)))) = List.map V.d (List.map bA (l.set i z)) := by
 rw [List.map_set, List.map_set]; rfl
theorem gL (l : List UInt32) (i : Nat) (h : i < l.length) : l[i]? = some (l.getD i 0) := by simp [List.getD, h]
theorem Ev (b : List UInt8) (hb : b.length = 64) (G : Nat → Option D) : ap Tryd.prog G 83 [aC b] (.agg 64 ((Sha.spread b).map bA)) := by
 refine ap.of Tryd.func83 rfl Tryd.ntmps83 (by simp) ?_; intro F hF h0 hT; simp only [List.zipIdx_cons, List.zipIdx_nil, List.map_cons, List.map_nil, Nat.zero_add, Nat.reduceAdd]
 refine Sm.seq ?_
 refine ab hF rfl ?_
 refine SmG.new hF rfl rfl rfl (aF rfl sl) ?_
 refine SmG.nil (aa (Sm.seq ?_))
 refine ab hF rfl ?_
 refine gv hF (fR rfl Tryd.underlying112 rfl Ht) ?_
 refine SmG.new hF rfl rfl rfl (aF rfl sl) ?_
 refine SmG.store hF rfl rfl rfl rfl rfl (by simp (disch := omega) only [go_sem, Nat.reduceEqDiff, ai] <;> rfl) ?_
 refine SmG.nil (aa (Sm.seq (Sm.seq ?_)))
 refine ab hF rfl ?_
 refine gv hF oA (SmG.nil (aa (Sm.block ?_)))
 refine Sm.loop (ι := {t : Nat // t ≤ 16}) (fun t => ⟨[(0, .d (aC b)), (2, .ref 0 0 0), (3, .ref 1 0 0), (4, .d (.v (.int .i64 t.1)))], [(1, dW 64 (Sha.fill b (4 * t.1))), (0, dW 64 (List.replicate 64 0))], 2⟩) (fun t => 16 - t.1) (⟨0, by omega⟩) ?_ ?_
 ·refine aK (by simp [leE, look, bQ]) ⟨?_, rfl, trivial⟩ (Nat.le_refl _)
  show _ = some (dW 64 (Sha.fill b 0))
  rw [Sha.fill_zero]; rfl
 rintro ⟨t, ht⟩
 simp only
 by_cases hlt : t < 16
 ·refine Sm.seq (Sm.seq ?_)
  refine ab hF rfl ?_
  refine gv hF oM ?_
  refine gv hF (ah rfl rfl rfl (by exact dO _ _ _ _ _ (by omega))) ?_
  refine SmG.nil (aa ?_)
  refine aY hF rfl ?_
  refine Sm.skip ?_
  refine aa (Sm.seq (Sm.block (Sm.seq ?_)))
  refine ab hF rfl ?_
  refine gv hF oA (SmG.nil (aa (Sm.block ?_)))
  refine Sm.loop (ι := {k : Nat // k ≤ 4}) (fun k => ⟨[(0, .d (aC b)), (2, .ref 0 0 0), (3, .ref 1 0 0), (4, .d (.v (.int .i64 t))), (5, .d (.v (.int .i64 k.1)))], [(1, dW 64 (Sha.fill b (4 * t + k.1))), (0, dW 64 (List.replicate 64 0))], 2⟩) (fun k => 4 - k.1) (⟨0, by omega⟩) ?_ ?_
  ·exact aK (by simp [leE, look, bQ]) (by simp [leH, look, rep]) (by exact Nat.le_refl _)
  rintro ⟨k, hk⟩
  simp only
  by_cases hlk : k < 4
  ·have hpl : Sha.part b t k < 16777216 := Nat.lt_of_lt_of_le (Sha.part_lt b t k) (by
    have : (256 : Nat) ^ k ≤ 256 ^ 3 := Nat.pow_le_pow_right (by omega) (by omega)
    simpa using this)
   have hget : (Sha.fill b (4 * t + k))[t]? = some (UInt32.ofNat (Sha.part b t k)) := by
    rw [gL _ _ (by rw [Sha.fill_length]; omega), Sha.fill_get b _ t (by omega)]
    congr 3; omega
   have hw : (UInt32.ofNat (Sha.part b t k)).toNat = Sha.part b t k := Nat.mod_eq_of_lt (by omega)
   have hb1 : b[4 * t + k]? = some (b.getD (4 * t + k) 0) := by simp [List.getD, show 4 * t + k < b.length by omega]
   have hlb : (b.getD (4 * t + k) 0).toNat < 256 := (b.getD (4 * t + k) 0).toNat_lt
   have hset := Sha.fill_succ b (4 * t + k) (by omega)
   rw [show (4 * t + k) / 4 = t by omega, show (4 * t + k) % 4 = k by omega] at hset
   have hst := Es (Sha.fill b (4 * t + k)) t (Sha.part b t k * 256 + (b.getD (4 * t + k) 0).toNat) (by omega)
   rw [← hset] at hst
   generalize b.getD (4 * t + k) 0 = c at hb1 hlb hst
   generalize Sha.part b t k = p at hpl hget hw hst
   have hcast : (4 * (t : Int) + (k : Int)).toNat = 4 * t + k := by omega
   have e1 : 4 * t + (k + 1) = 4 * t + k + 1 := by omega
   refine Sm.seq (Sm.seq ?_)
   refine ab hF rfl ?_
   refine gv hF oM ?_
   refine gv hF (ah rfl rfl rfl (by exact dO _ _ _ _ _ (by omega))) ?_
   refine SmG.nil (aa ?_)
   refine aY hF rfl ?_
   refine Sm.skip ?_
   refine aa (Sm.seq (Sm.block ?_))
   refine eE hF (by kernel_rfl) rfl 15 (by kernel_rfl) (by kernel_rfl) ?_
   simp only [List.take_succ_cons, List.take_zero, List.take_nil]
   refine hv hF oM (hv hF oM ?_)
   refine hv hF (aj rfl rfl rfl (by simp (disch := omega) only [go_sem, Nat.reduceEqDiff, ai, aC, am, aG, hget, hw, hb1, hcast, bA] <;> rfl)) ?_
   refine hv hF (ac rfl rfl (by simp (disch := omega) only [go_sem, Nat.reduceEqDiff, ai, aC, am, aG, hget, hw, hb1, hcast, bA] <;> rfl)) ?_
   refine hv hF (ah rfl rfl rfl (FQ _ _ _ _ p _ hpl)) (hv hF oM (hv hF oM ?_))
   refine hv hF (ah rfl rfl rfl (by exact tv _ _ _ _ _ (aX _ (by omega)))) ?_
   refine hv hF oM ?_
   refine hv hF (ah rfl rfl rfl (by exact eo _ _ _ _ _ (aX _ (by omega)))) ?_
   refine hv hF (aj rfl rfl rfl (by simp (disch := omega) only [go_sem, Nat.reduceEqDiff, ai, aC, am, aG, hget, hw, hb1, hcast, bA] <;> rfl)) ?_
   refine hv hF (ac rfl rfl (by simp (disch := omega) only [go_sem, Nat.reduceEqDiff, ai, aC, am, aG, hget, hw, hb1, hcast, bA] <;> rfl)) ?_
   refine hv hF (cO rfl rfl (by exact eQ rfl rfl (uN _ (by omega)))) ?_
   refine hv hF (ah rfl rfl rfl (GR _ _ _ _ p c.toNat hpl hlb)) ?_
   refine hv hF (aj rfl rfl rfl (by simp (disch := omega) only [go_sem, Nat.reduceEqDiff, ai, aC, am, aG, hget, hw, hb1, hcast, bA] <;> rfl)) ?_
   refine au.last ⟨rfl, ?_⟩
   simp only [List.drop_succ_cons, List.drop_zero, List.drop_nil, List.nil_append, List.cons_append]
   refine SmG.store hF rfl rfl rfl rfl rfl (by simp (disch := omega) only [go_sem, Nat.reduceEqDiff, ai, aC, am, aG, hget, hw, hb1, hcast, bA] <;> rfl) ?_
   refine SmG.nil (aI (aa ?_))
   refine ab hF rfl ?_
   refine gv hF oM ?_
   refine gv hF (ah rfl rfl rfl (by exact eo _ _ _ _ _ (aX _ (by omega)))) ?_
   refine gv hF oA (SmG.nil (aa ?_))
   exact ⟨⟨k + 1, by omega⟩, by show 4 - (k + 1) < 4 - k; omega, by exact aK (by (simp [leE, look, bQ] <;> omega)) (by simp only [leH, look, rep, reduceIte, Nat.reduceEqDiff, List.set_cons_zero, List.set_cons_succ, hst, e1, and_self, and_true, and_false, false_and, if_true, if_false] <;> (repeat' first | rfl | constructor)) (by exact Nat.le_refl _)⟩
  ·obtain rfl : k = 4 := by omega
   refine Sm.seq (Sm.seq ?_)
   refine ab hF rfl ?_
   refine gv hF oM ?_
   refine gv hF (ah rfl rfl rfl (by exact ey _ _ _ _ _ (by omega))) ?_
   refine SmG.nil (aa ?_)
   refine aR hF rfl ?_
   refine Sm.exit ?_
   simp only [aZ, bP, reduceIte, reduceCtorEq]
   refine ab hF rfl ?_
   refine gv hF oM ?_
   refine gv hF (ah rfl rfl rfl (by exact eo _ _ _ _ _ (aX _ (by omega)))) ?_
   refine gv hF oA (SmG.nil (aa ?_))
   exact ⟨⟨t + 1, by omega⟩, by show 16 - (t + 1) < 16 - t; omega, by exact aK (by (simp [leE, look, bQ] <;> omega)) (by simp only [leH, look, rep, reduceIte, Nat.reduceEqDiff, List.set_cons_zero, List.set_cons_succ, show 4 * t + 4 = 4 * (t + 1) by omega, and_self, and_true, and_false, false_and, if_true, if_false] <;> (repeat' first | rfl | constructor)) (by exact Nat.le_refl _)⟩
 ·obtain rfl : t = 16 := by omega
  refine Sm.seq (Sm.seq ?_)
  refine ab hF rfl ?_
  refine gv hF oM ?_
  refine gv hF (ah rfl rfl rfl (by exact ey _ _ _ _ _ (by omega))) ?_
  refine SmG.nil (aa ?_)
  refine aR hF rfl ?_
  refine Sm.exit ?_
  simp only [aZ, bP, reduceIte, reduceCtorEq]
  refine Sm.seq (Sm.seq ?_)
  refine ab hF rfl ?_
  refine gv hF oA (SmG.nil (aa (Sm.block ?_)))
  refine Sm.loop (ι := {t : Nat // 16 ≤ t ∧ t ≤ 64}) (fun t => ⟨[(0, .d (aC b)), (2, .ref 0 0 0), (3, .ref 1 0 0), (6, .d (.v (.int .i64 t.1)))], [(1, dW 64 (Sha.grown b t.1)), (0, dW 64 (List.replicate 64 0))], 2⟩) (fun t => 64 - t.1) (⟨16, by omega, by omega⟩) ?_ ?_
  ·refine aK (by simp [leE, look, bQ]) ⟨?_, rfl, trivial⟩ (Nat.le_refl _)
   show _ = some (dW 64 (Sha.grown b 16))
   rw [← Sha.grown_first]; rfl
  rintro ⟨t, ht, ht2⟩
  simp only
  by_cases hlt : t < 64
  ·have hln := Sha.grown_length b t ht ht2
   have h1 := gL (Sha.grown b t) (t - 16) (by omega)
   have h2 := gL (Sha.grown b t) (t - 7) (by omega)
   have h3 := gL (Sha.grown b t) (t - 15) (by omega)
   have h4 := gL (Sha.grown b t) (t - 2) (by omega)
   have hset := Sha.grown_succ b t ht hlt
   have hst := vK (Sha.grown b t) t ((Sha.grown b t).getD (t - 16) 0 + (Sha.grown b t).getD (t - 7) 0 + Sha.low ((Sha.grown b t).getD (t - 15) 0) + Sha.high ((Sha.grown b t).getD (t - 2) 0))
   rw [← hset] at hst
   generalize (Sha.grown b t).getD (t - 16) 0 = x1 at h1 hst
   generalize (Sha.grown b t).getD (t - 7) 0 = x2 at h2 hst
   generalize (Sha.grown b t).getD (t - 15) 0 = y at h3 hst
   generalize (Sha.grown b t).getD (t - 2) 0 = z at h4 hst
   simp only [Sha.low, Sha.high] at hst
   have c1 : ((t : Int) - 16).toNat = t - 16 := by omega
   have c2 : ((t : Int) - 7).toNat = t - 7 := by omega
   have c3 : ((t : Int) - 15).toNat = t - 15 := by omega
   have c4 : ((t : Int) - 2).toNat = t - 2 := by omega
   refine Sm.seq (Sm.seq ?_)
   refine ab hF rfl ?_
   refine gv hF oM ?_
   refine gv hF (ah rfl rfl rfl (by exact dO _ _ _ _ _ (by omega))) ?_
   refine SmG.nil (aa ?_)
   refine aY hF rfl ?_
   refine Sm.skip ?_
   refine aa (Sm.seq (Sm.block (Sm.seq ?_)))
   refine ab hF rfl ?_
   refine gv hF oM ?_
   refine gv hF (ah rfl rfl rfl (by exact gu _ _ _ _ _ (aX _ (by omega)))) ?_
   refine gv hF (aj rfl rfl rfl (by simp (disch := omega) only [go_sem, Nat.reduceEqDiff, ai, bA, h1, h2, h3, h4, c1, c2, c3, c4] <;> rfl)) ?_
   refine gv hF (ac rfl rfl (by simp (disch := omega) only [go_sem, Nat.reduceEqDiff, ai, bA, h1, h2, h3, h4, c1, c2, c3, c4] <;> rfl)) ?_
   refine gv hF oA (SmG.nil (aa (Sm.seq ?_)))
   refine ab hF rfl ?_
   refine gv hF oM ?_
   refine gv hF (ah rfl rfl rfl (by exact gu _ _ _ _ _ (aX _ (by omega)))) ?_
   refine gv hF (aj rfl rfl rfl (by simp (disch := omega) only [go_sem, Nat.reduceEqDiff, ai, bA, h1, h2, h3, h4, c1, c2, c3, c4] <;> rfl)) ?_
   refine gv hF (ac rfl rfl (by simp (disch := omega) only [go_sem, Nat.reduceEqDiff, ai, bA, h1, h2, h3, h4, c1, c2, c3, c4] <;> rfl)) ?_
   refine gv hF oA (SmG.nil (aa ?_))
   refine eE hF (by kernel_rfl) rfl 29 (by kernel_rfl) (by kernel_rfl) ?_
   simp only [List.take_succ_cons, List.take_zero, List.take_nil]
   refine hv hF oM (hv hF oM ?_)
   refine hv hF (ah rfl rfl rfl (by exact gu _ _ _ _ _ (aX _ (by omega)))) ?_
   refine hv hF (aj rfl rfl rfl (by simp (disch := omega) only [go_sem, Nat.reduceEqDiff, ai, bA, h1, h2, h3, h4, c1, c2, c3, c4] <;> rfl)) ?_
   refine hv hF (ac rfl rfl (by simp (disch := omega) only [go_sem, Nat.reduceEqDiff, ai, bA, h1, h2, h3, h4, c1, c2, c3, c4] <;> rfl)) ?_
   refine hv hF oM ?_
   refine hv hF (ah rfl rfl rfl (by exact gu _ _ _ _ _ (aX _ (by omega)))) ?_
   refine hv hF (aj rfl rfl rfl (by simp (disch := omega) only [go_sem, Nat.reduceEqDiff, ai, bA, h1, h2, h3, h4, c1, c2, c3, c4] <;> rfl)) ?_
   refine hv hF (ac rfl rfl (by simp (disch := omega) only [go_sem, Nat.reduceEqDiff, ai, bA, h1, h2, h3, h4, c1, c2, c3, c4] <;> rfl)) ?_
   refine hv hF (ah rfl rfl rfl (by exact iG _ _ _ _ _ _)) ?_
   refine hv hF oM ?_
   refine au.c hF rfl rfl (by kernel_rfl) rfl rfl rfl (ji 7 y rfl (by omega) G) ?_
   refine hv hF oM ?_
   refine au.c hF rfl rfl (by kernel_rfl) rfl rfl rfl (ji 18 y rfl (by omega) G) ?_
   refine hv hF (ah rfl rfl rfl (by exact iH _ _ _ _ _ _)) ?_
   refine hv hF oM ?_
   refine hv hF (ah rfl rfl rfl (yc _ _ _ _ 3 _ rfl (by omega) y)) ?_
   refine hv hF (ah rfl rfl rfl (by exact iH _ _ _ _ _ _)) ?_
   refine hv hF (ah rfl rfl rfl (by exact iG _ _ _ _ _ _)) ?_
   refine hv hF oM ?_
   refine au.c hF rfl rfl (by kernel_rfl) rfl rfl rfl (ji 17 z rfl (by omega) G) ?_
   refine hv hF oM ?_
   refine au.c hF rfl rfl (by kernel_rfl) rfl rfl rfl (ji 19 z rfl (by omega) G) ?_
   refine hv hF (ah rfl rfl rfl (by exact iH _ _ _ _ _ _)) ?_
   refine hv hF oM ?_
   refine hv hF (ah rfl rfl rfl (yc _ _ _ _ 10 _ rfl (by omega) z)) ?_
   refine hv hF (ah rfl rfl rfl (by exact iH _ _ _ _ _ _)) ?_
   refine hv hF (ah rfl rfl rfl (by exact iG _ _ _ _ _ _)) ?_
   refine hv hF (aj rfl rfl rfl (by simp (disch := omega) only [go_sem, Nat.reduceEqDiff, ai, bA, h1, h2, h3, h4, c1, c2, c3, c4] <;> rfl)) ?_
   refine au.last ⟨rfl, ?_⟩
   simp only [List.drop_succ_cons, List.drop_zero, List.drop_nil, List.nil_append, List.cons_append]
   refine SmG.store hF rfl rfl rfl rfl rfl (by simp (disch := omega) only [go_sem, Nat.reduceEqDiff, ai, bA, h1, h2, h3, h4, c1, c2, c3, c4] <;> rfl) ?_
   refine SmG.nil (aI (aa ?_))
   refine ab hF rfl ?_
   refine gv hF oM ?_
   refine gv hF (ah rfl rfl rfl (by exact eo _ _ _ _ _ (aX _ (by omega)))) ?_
   refine gv hF oA (SmG.nil (aa ?_))
   exact ⟨⟨t + 1, by omega, by omega⟩, by show 64 - (t + 1) < 64 - t; omega, by exact aK (by (simp [leE, look, bQ] <;> omega)) (by simp only [leH, look, rep, reduceIte, Nat.reduceEqDiff, List.set_cons_zero, List.set_cons_succ, hst, and_self, and_true, and_false, false_and, if_true, if_false] <;> (repeat' first | rfl | constructor)) (by exact Nat.le_refl _)⟩
  ·obtain rfl : t = 64 := by omega
   have hln := Sha.grown_length b 64 ht ht2
   have hll : (List.map bA (Sha.grown b 64)).length = 64 := by rw [List.length_map, hln]
   refine Sm.seq (Sm.seq ?_)
   refine ab hF rfl ?_
   refine gv hF oM ?_
   refine gv hF (ah rfl rfl rfl (by exact ey _ _ _ _ _ (by omega))) ?_
   refine SmG.nil (aa ?_)
   refine aR hF rfl ?_
   refine Sm.exit ?_
   simp only [aZ, bP, reduceIte, reduceCtorEq]
   refine Sm.seq ?_
   refine ab hF rfl ?_
   refine gv hF (ac rfl rfl (by simp (disch := omega) only [go_sem, Nat.reduceEqDiff, ai, bA] <;> rfl)) ?_
   refine SmG.store hF rfl rfl rfl rfl rfl (by simp (disch := omega) only [go_sem, Nat.reduceEqDiff, ai, bA] <;> rfl) ?_
   refine SmG.nil (aa (Sm.ret ?_))
   refine cC rfl rfl (by simp (disch := omega) only [go_sem, Nat.reduceEqDiff, ai, hll] <;> rfl) ?_
   rw [Sha.grown_last]; exact D.le.refl _
end
section
open Go.RowKit
set_option maxRecDepth 100000
def jk (c s : List UInt32) (i : Nat) : List UInt32 := (List.zipWith (· + ·) c s).take i ++ c.drop i
theorem zS (c s : List UInt32) : jk c s 0 = c := by simp [jk]
theorem BC (c s : List UInt32) (i : Nat) (hl : c.length = s.length) (hi : i < c.length) : (jk c s i)[i]? = some (c.getD i 0) := by
 unfold jk
 have : ((List.zipWith (· + ·) c s).take i).length = i := by simp [hl]; omega
 rw [List.getElem?_append_right (by omega), this, Nat.sub_self, List.getElem?_drop]
 simp [List.getD, hi]
theorem BD (c s : List UInt32) (i : Nat) (hl : c.length = s.length) (hi : i < c.length) : (jk c s i).set i (c.getD i 0 + s.getD i 0) = jk c s (i + 1) := by
 unfold jk
 have h1 : ((List.zipWith (· + ·) c s).take i).length = i := by simp [hl]; omega
 rw [List.set_append_right _ _ (by omega), h1, Nat.sub_self, List.drop_eq_getElem_cons hi, List.set_cons_zero, List.take_succ_eq_append_getElem (by simp; omega)]
 simp [List.getD, hi, show i < s.length by omega]
theorem BB (c s : List UInt32) (hl : c.length = s.length) : jk c s c.length = List.zipWith (· + ·) c s := by
 unfold jk
 rw [List.take_of_length_le (by simp; omega), List.drop_length, List.append_nil]
theorem yW (w : List UInt32) (s : Sha.S8) (n : Nat) : Sha.rounds w s (n + 1) = Sha.round (Sha.rounds w s n) (Sha.keys64.getD n 0) (w.getD n 0) := rfl
theorem yF (a0 a1 a2 a3 a4 a5 a6 a7 : Int) : dD Tryd.prog 84 [(0, V.d (.v (.int .u32 a0))), (1, V.d (.v (.int .u32 a1))), (2, V.d (.v (.int .u32 a2))), (3, V.d (.v (.int .u32 a3))), (4, V.d (.v (.int .u32 a4))), (5, V.d (.v (.int .u32 a5))), (6, V.d (.v (.int .u32 a6))), (7, V.d (.v (.int .u32 a7)))] = some (.d (.agg 8 [.v (.int .u32 a0), .v (.int .u32 a1), .v (.int .u32 a2), .v (.int .u32 a3), .v (.int .u32 a4), .v (.int .u32 a5), .v (.int .u32 a6), .v (.int .u32 a7)])) := by kernel_rfl
set_option maxHeartbeats 4000000 in
theorem GW (S : Sha.S8) (b : List UInt8) (hb : b.length = 64) (G : Nat → Option D) : ap Tryd.prog G 72 [.agg 8 (S.list.map bA), aC b] (.agg 8 ((Sha.after S b).list.map bA)) := by
 have hkeys := Gl G
 have hks := yW (Sha.spread b) S
 have hkl : Sha.keys64.length = 64 := by decide
 have haf : Sha.after S b = Sha.plus S (Sha.rounds (Sha.spread b) S 64) := rfl
 generalize Sha.keys64 = K at hkeys hks hkl
 have hwl : (Sha.spread b).length = 64 := by rw [← Sha.grown_last, Sha.grown_length b 64 (by omega) (by omega)]
 have hSl : S.list.length = 8 := rfl
 have hKl : (List.map bA K).length = 64 := by rw [List.length_map, hkl]
 have hWl : (List.map bA (Sha.spread b)).length = 64 := by rw [List.length_map, hwl]
 have hSS : (List.map bA S.list).length = 8 := by rw [List.length_map, hSl]
 refine ap.of Tryd.func72 rfl Tryd.ntmps72 (by simp) ?_; intro F hF h0 hT; simp only [List.zipIdx_cons, List.zipIdx_nil, List.map_cons, List.map_nil, Nat.zero_add, Nat.reduceAdd]
 refine Sm.seq ?_
 refine ab hF rfl ?_
 refine SmG.new hF rfl rfl rfl (e8 rfl rfl (by simp (disch := omega) only [go_sem] <;> rfl)) ?_
 refine SmG.new hF rfl rfl rfl (aF rfl zX) ?_
 refine SmG.nil (aa (Sm.seq ?_))
 refine ab hF rfl ?_
 refine gv hF oM ?_
 refine SmG.call hF rfl rfl (by kernel_rfl) rfl rfl rfl (Ev b hb G) ?_
 refine SmG.new hF rfl rfl rfl (aF rfl sl) ?_
 refine SmG.store hF rfl rfl rfl rfl rfl (by simp (disch := omega) only [go_sem] <;> rfl) ?_
 refine SmG.nil (aa (Sm.seq ?_))
 refine ab hF rfl ?_
 refine SmG.call hF rfl rfl (by kernel_rfl) rfl rfl rfl (hkeys) ?_
 refine SmG.new hF rfl rfl rfl (aF rfl sl) ?_
 refine SmG.store hF rfl rfl rfl rfl rfl (by simp (disch := omega) only [go_sem] <;> rfl) ?_
 refine SmG.nil (aa (Sm.seq ?_))
 refine ab hF rfl ?_
 refine gv hF (ac rfl rfl (by simp (disch := omega) only [go_sem] <;> rfl)) ?_
 refine SmG.new hF rfl rfl rfl (aF rfl zX) ?_
 refine SmG.store hF rfl rfl rfl rfl rfl (by simp (disch := omega) only [go_sem] <;> rfl) ?_
 refine SmG.nil (aa (Sm.seq (Sm.seq ?_)))
 refine ab hF rfl ?_
 refine gv hF oA (SmG.nil (aa (Sm.block ?_)))
 generalize hW : Sha.spread b = W at hks haf hwl hWl ⊢
 refine Sm.loop (ι := {t : Nat // t ≤ 64}) (fun t => ⟨[(2, .ref 0 0 0), (4, .ref 1 0 0), (5, .ref 2 0 0), (6, .ref 3 0 0), (7, .ref 4 0 0), (8, .d (.v (.int .i64 t.1)))], [(4, dW 8 (Sha.rounds W S t.1).list), (3, dW 64 K), (2, dW 64 W), (1, dW 8 (List.replicate 8 0)), (0, dW 8 S.list)], 5⟩) (fun t => 64 - t.1) (⟨0, by omega⟩) ?_ ?_
 ·exact aK (by (simp [leE, look, bQ] <;> omega)) (by simp only [leH, look, rep, reduceIte, Nat.reduceEqDiff, List.set_cons_zero, List.set_cons_succ, true_and, and_self, and_true, and_false, false_and, if_true, if_false] <;> (repeat' first | rfl | constructor)) (by exact Nat.le_refl _)
 rintro ⟨t, ht⟩
 simp only
 by_cases hlt : t < 64
 ·have hk1 := gL K t (by omega)
  have hw1 := gL W t (by omega)
  have hs := hks t
  generalize K.getD t 0 = k at hk1 hs
  generalize W.getD t 0 = x at hw1 hs
  generalize Sha.rounds W S t = c at hs ⊢
  rcases c with ⟨a, b1, c, d, e, f, g, h⟩
  have hrow : (Sha.rounds W S (t + 1)).list = [Sha.tx ⟨a, b1, c, d, e, f, g, h⟩ k x + Sha.ty ⟨a, b1, c, d, e, f, g, h⟩, a, b1, c, d + Sha.tx ⟨a, b1, c, d, e, f, g, h⟩ k x, e, f, g] := by rw [hs]; rfl
  simp only [Sha.tx, Sha.ty, Sha.rot3] at hrow
  rw [show Sha.S8.list ⟨a, b1, c, d, e, f, g, h⟩ = [a, b1, c, d, e, f, g, h] from rfl]
  refine Sm.seq (Sm.seq ?_)
  refine ab hF rfl ?_
  refine gv hF oM ?_
  refine gv hF (ah rfl rfl rfl (by exact dO _ _ _ _ _ (by omega))) ?_
  refine SmG.nil (aa ?_)
  refine aY hF rfl ?_
  refine Sm.skip ?_
  refine aa (Sm.seq (Sm.block (Sm.seq ?_)))
  refine eE hF (by kernel_rfl) rfl 36 (by kernel_rfl) (by kernel_rfl) ?_
  simp only [List.take_succ_cons, List.take_zero, List.take_nil]
  refine hv hF (aj rfl rfl rfl (by simp (disch := omega) only [go_sem] <;> rfl)) ?_
  refine hv hF (ac rfl rfl (by simp (disch := omega) only [go_sem] <;> rfl)) ?_
  refine hv hF (aj rfl rfl rfl (by simp (disch := omega) only [go_sem] <;> rfl)) ?_
  refine hv hF (ac rfl rfl (by simp (disch := omega) only [go_sem] <;> rfl)) ?_
  refine au.c hF rfl rfl (by kernel_rfl) rfl rfl rfl (ji 6 e rfl (by omega) G) ?_
  refine hv hF (aj rfl rfl rfl (by simp (disch := omega) only [go_sem] <;> rfl)) ?_
  refine hv hF (ac rfl rfl (by simp (disch := omega) only [go_sem] <;> rfl)) ?_
  refine au.c hF rfl rfl (by kernel_rfl) rfl rfl rfl (ji 11 e rfl (by omega) G) ?_
  refine hv hF (ah rfl rfl rfl (by exact iH _ _ _ _ _ _)) ?_
  refine hv hF (aj rfl rfl rfl (by simp (disch := omega) only [go_sem] <;> rfl)) ?_
  refine hv hF (ac rfl rfl (by simp (disch := omega) only [go_sem] <;> rfl)) ?_
  refine au.c hF rfl rfl (by kernel_rfl) rfl rfl rfl (ji 25 e rfl (by omega) G) ?_
  refine hv hF (ah rfl rfl rfl (by exact iH _ _ _ _ _ _)) ?_
  refine hv hF (ah rfl rfl rfl (by exact iG _ _ _ _ _ _)) ?_
  refine hv hF (aj rfl rfl rfl (by simp (disch := omega) only [go_sem] <;> rfl)) ?_
  refine hv hF (ac rfl rfl (by simp (disch := omega) only [go_sem] <;> rfl)) ?_
  refine hv hF (aj rfl rfl rfl (by simp (disch := omega) only [go_sem] <;> rfl)) ?_
  refine hv hF (ac rfl rfl (by simp (disch := omega) only [go_sem] <;> rfl)) ?_
  refine hv hF (ah rfl rfl rfl (by exact qu _ _ _ _ _ _)) ?_
  refine hv hF (aj rfl rfl rfl (by simp (disch := omega) only [go_sem] <;> rfl)) ?_
  refine hv hF (ac rfl rfl (by simp (disch := omega) only [go_sem] <;> rfl)) ?_
  refine hv hF (en rfl rfl (GQ _ _)) ?_
  refine hv hF (aj rfl rfl rfl (by simp (disch := omega) only [go_sem] <;> rfl)) ?_
  refine hv hF (ac rfl rfl (by simp (disch := omega) only [go_sem] <;> rfl)) ?_
  refine hv hF (ah rfl rfl rfl (by exact qu _ _ _ _ _ _)) ?_
  refine hv hF (ah rfl rfl rfl (by exact iH _ _ _ _ _ _)) ?_
  refine hv hF (ah rfl rfl rfl (by exact iG _ _ _ _ _ _)) ?_
  refine hv hF oM ?_
  refine hv hF (aj rfl rfl rfl (by simp (disch := omega) only [go_sem, Nat.reduceEqDiff, ai, bA, hk1, hw1, hkl, hwl] <;> rfl)) ?_
  refine hv hF (ac rfl rfl (by simp (disch := omega) only [go_sem, Nat.reduceEqDiff, ai, bA, hk1, hw1, hkl, hwl] <;> rfl)) ?_
  refine hv hF (ah rfl rfl rfl (by exact iG _ _ _ _ _ _)) ?_
  refine hv hF oM ?_
  refine hv hF (aj rfl rfl rfl (by simp (disch := omega) only [go_sem, Nat.reduceEqDiff, ai, bA, hk1, hw1, hkl, hwl] <;> rfl)) ?_
  refine hv hF (ac rfl rfl (by simp (disch := omega) only [go_sem, Nat.reduceEqDiff, ai, bA, hk1, hw1, hkl, hwl] <;> rfl)) ?_
  refine hv hF (ah rfl rfl rfl (by exact iG _ _ _ _ _ _)) ?_
  refine hv hF oA ?_
  refine au.last ⟨rfl, ?_⟩
  simp only [List.drop_succ_cons, List.drop_zero, List.drop_nil, List.nil_append, List.cons_append]
  refine SmG.nil (aa (Sm.seq ?_))
  refine eE hF (by kernel_rfl) rfl 30 (by kernel_rfl) (by kernel_rfl) ?_
  simp only [List.take_succ_cons, List.take_zero, List.take_nil]
  refine hv hF (aj rfl rfl rfl (by simp (disch := omega) only [go_sem] <;> rfl)) ?_
  refine hv hF (ac rfl rfl (by simp (disch := omega) only [go_sem] <;> rfl)) ?_
  refine au.c hF rfl rfl (by kernel_rfl) rfl rfl rfl (ji 2 a rfl (by omega) G) ?_
  refine hv hF (aj rfl rfl rfl (by simp (disch := omega) only [go_sem] <;> rfl)) ?_
  refine hv hF (ac rfl rfl (by simp (disch := omega) only [go_sem] <;> rfl)) ?_
  refine au.c hF rfl rfl (by kernel_rfl) rfl rfl rfl (ji 13 a rfl (by omega) G) ?_
  refine hv hF (ah rfl rfl rfl (by exact iH _ _ _ _ _ _)) ?_
  refine hv hF (aj rfl rfl rfl (by simp (disch := omega) only [go_sem] <;> rfl)) ?_
  refine hv hF (ac rfl rfl (by simp (disch := omega) only [go_sem] <;> rfl)) ?_
  refine au.c hF rfl rfl (by kernel_rfl) rfl rfl rfl (ji 22 a rfl (by omega) G) ?_
  refine hv hF (ah rfl rfl rfl (by exact iH _ _ _ _ _ _)) ?_
  refine hv hF (aj rfl rfl rfl (by simp (disch := omega) only [go_sem] <;> rfl)) ?_
  refine hv hF (ac rfl rfl (by simp (disch := omega) only [go_sem] <;> rfl)) ?_
  refine hv hF (aj rfl rfl rfl (by simp (disch := omega) only [go_sem] <;> rfl)) ?_
  refine hv hF (ac rfl rfl (by simp (disch := omega) only [go_sem] <;> rfl)) ?_
  refine hv hF (ah rfl rfl rfl (by exact qu _ _ _ _ _ _)) ?_
  refine hv hF (aj rfl rfl rfl (by simp (disch := omega) only [go_sem] <;> rfl)) ?_
  refine hv hF (ac rfl rfl (by simp (disch := omega) only [go_sem] <;> rfl)) ?_
  refine hv hF (aj rfl rfl rfl (by simp (disch := omega) only [go_sem] <;> rfl)) ?_
  refine hv hF (ac rfl rfl (by simp (disch := omega) only [go_sem] <;> rfl)) ?_
  refine hv hF (ah rfl rfl rfl (by exact qu _ _ _ _ _ _)) ?_
  refine hv hF (ah rfl rfl rfl (by exact iH _ _ _ _ _ _)) ?_
  refine hv hF (aj rfl rfl rfl (by simp (disch := omega) only [go_sem] <;> rfl)) ?_
  refine hv hF (ac rfl rfl (by simp (disch := omega) only [go_sem] <;> rfl)) ?_
  refine hv hF (aj rfl rfl rfl (by simp (disch := omega) only [go_sem] <;> rfl)) ?_
  refine hv hF (ac rfl rfl (by simp (disch := omega) only [go_sem] <;> rfl)) ?_
  refine hv hF (ah rfl rfl rfl (by exact qu _ _ _ _ _ _)) ?_
  refine hv hF (ah rfl rfl rfl (by exact iH _ _ _ _ _ _)) ?_
  refine hv hF (ah rfl rfl rfl (by exact iG _ _ _ _ _ _)) ?_
  refine hv hF oA ?_
  refine au.last ⟨rfl, ?_⟩
  simp only [List.drop_succ_cons, List.drop_zero, List.drop_nil, List.nil_append, List.cons_append]
  refine SmG.nil (aa ?_)
  refine ab hF rfl ?_
  refine gv hF oM (gv hF oM ?_)
  refine gv hF (ah rfl rfl rfl (by exact iG _ _ _ _ _ _)) ?_
  refine gv hF (aj rfl rfl rfl (by simp (disch := omega) only [go_sem] <;> rfl)) ?_
  refine gv hF (ac rfl rfl (by simp (disch := omega) only [go_sem] <;> rfl)) ?_
  refine gv hF (aj rfl rfl rfl (by simp (disch := omega) only [go_sem] <;> rfl)) ?_
  refine gv hF (ac rfl rfl (by simp (disch := omega) only [go_sem] <;> rfl)) ?_
  refine gv hF (aj rfl rfl rfl (by simp (disch := omega) only [go_sem] <;> rfl)) ?_
  refine gv hF (ac rfl rfl (by simp (disch := omega) only [go_sem] <;> rfl)) ?_
  refine gv hF (aj rfl rfl rfl (by simp (disch := omega) only [go_sem] <;> rfl)) ?_
  refine gv hF (ac rfl rfl (by simp (disch := omega) only [go_sem] <;> rfl)) ?_
  refine gv hF oM ?_
  refine gv hF (ah rfl rfl rfl (by exact iG _ _ _ _ _ _)) ?_
  refine gv hF (aj rfl rfl rfl (by simp (disch := omega) only [go_sem] <;> rfl)) ?_
  refine gv hF (ac rfl rfl (by simp (disch := omega) only [go_sem] <;> rfl)) ?_
  refine gv hF (aj rfl rfl rfl (by simp (disch := omega) only [go_sem] <;> rfl)) ?_
  refine gv hF (ac rfl rfl (by simp (disch := omega) only [go_sem] <;> rfl)) ?_
  refine gv hF (aj rfl rfl rfl (by simp (disch := omega) only [go_sem] <;> rfl)) ?_
  refine gv hF (ac rfl rfl (by simp (disch := omega) only [go_sem] <;> rfl)) ?_
  refine gv hF (fR rfl Tryd.underlying84 rfl (yF _ _ _ _ _ _ _ _)) ?_
  refine SmG.store hF rfl rfl rfl rfl rfl (by simp (disch := omega) only [go_sem] <;> rfl) ?_
  refine SmG.nil (aI (aa ?_))
  refine ab hF rfl ?_
  refine gv hF oM ?_
  refine gv hF (ah rfl rfl rfl (by exact eo _ _ _ _ _ (aX _ (by omega)))) ?_
  refine gv hF oA (SmG.nil (aa ?_))
  exact ⟨⟨t + 1, by omega⟩, by show 64 - (t + 1) < 64 - t; omega, by exact aK (by (simp [leE, look, bQ] <;> omega)) (by simp only [leH, look, rep, reduceIte, Nat.reduceEqDiff, List.set_cons_zero, List.set_cons_succ, hrow, List.map_cons, List.map_nil, and_self, and_true, and_false, false_and, if_true, if_false] <;> (repeat' first | rfl | constructor)) (by exact Nat.le_refl _)⟩
 ·obtain rfl : t = 64 := by omega
  have hcl : (Sha.rounds W S 64).list.length = 8 := rfl
  have hpl : (Sha.after S b).list = List.zipWith (· + ·) (Sha.rounds W S 64).list S.list := by rw [haf]; rfl
  generalize (Sha.rounds W S 64).list = C at hcl hpl ⊢
  generalize S.list = L at hSl hpl hSS ⊢
  refine Sm.seq (Sm.seq ?_)
  refine ab hF rfl ?_
  refine gv hF oM ?_
  refine gv hF (ah rfl rfl rfl (by exact ey _ _ _ _ _ (by omega))) ?_
  refine SmG.nil (aa ?_)
  refine aR hF rfl ?_
  refine Sm.exit ?_
  simp only [aZ, bP, reduceIte, reduceCtorEq]
  refine Sm.seq (Sm.seq ?_)
  refine ab hF rfl ?_
  refine gv hF oA (SmG.nil (aa (Sm.block ?_)))
  refine Sm.loop (ι := {i : Nat // i ≤ 8}) (fun i => ⟨[(2, .ref 0 0 0), (4, .ref 1 0 0), (7, .ref 4 0 0), (11, .d (.v (.int .i64 i.1)))], [(4, dW 8 (jk C L i.1)), (1, dW 8 (List.replicate 8 0)), (0, dW 8 L)], 5⟩) (fun i => 8 - i.1) (⟨0, by omega⟩) ?_ ?_
  ·exact aK (by (simp [leE, look, bQ] <;> omega)) (by simp only [leH, look, rep, reduceIte, Nat.reduceEqDiff, List.set_cons_zero, List.set_cons_succ, zS, and_self, and_true, and_false, false_and, if_true, if_false] <;> (repeat' first | rfl | constructor)) (by exact Nat.le_refl _)
  rintro ⟨i, hi⟩
  simp only
  by_cases hlt : i < 8
  ·have h1 := BC C L i (by omega) (by omega)
   have h2 := gL L i (by omega)
   have hst := vK (jk C L i) i (C.getD i 0 + L.getD i 0)
   rw [BD C L i (by omega) (by omega)] at hst
   generalize C.getD i 0 = x at h1 hst
   generalize L.getD i 0 = y at h2 hst
   refine Sm.seq (Sm.seq ?_)
   refine ab hF rfl ?_
   refine gv hF oM ?_
   refine gv hF (ah rfl rfl rfl (by exact dO _ _ _ _ _ (by omega))) ?_
   refine SmG.nil (aa ?_)
   refine aY hF rfl ?_
   refine Sm.skip ?_
   refine aa (Sm.seq (Sm.block ?_))
   refine eE hF (by kernel_rfl) rfl 8 (by kernel_rfl) (by kernel_rfl) ?_
   simp only [List.take_succ_cons, List.take_zero, List.take_nil]
   refine hv hF oM ?_
   refine hv hF (aj rfl rfl rfl (by simp (disch := omega) only [go_sem, Nat.reduceEqDiff, ai, bA, h1, h2] <;> rfl)) ?_
   refine hv hF (ac rfl rfl (by simp (disch := omega) only [go_sem, h1] <;> rfl)) ?_
   refine hv hF oM ?_
   refine hv hF (aj rfl rfl rfl (by simp (disch := omega) only [go_sem, Nat.reduceEqDiff, ai, bA, h1, h2] <;> rfl)) ?_
   refine hv hF (ac rfl rfl (by simp (disch := omega) only [go_sem, Nat.reduceEqDiff, ai, bA, h1, h2] <;> rfl)) ?_
   refine hv hF (ah rfl rfl rfl (by exact iG _ _ _ _ _ _)) ?_
   refine hv hF (aj rfl rfl rfl (by simp (disch := omega) only [go_sem, Nat.reduceEqDiff, ai, bA, h1, h2] <;> rfl)) ?_
   refine au.last ⟨rfl, ?_⟩
   simp only [List.drop_succ_cons, List.drop_zero, List.drop_nil, List.nil_append, List.cons_append]
   refine SmG.store hF rfl rfl rfl rfl rfl (by simp (disch := omega) only [go_sem, Nat.reduceEqDiff, ai, bA, h1, h2] <;> rfl) ?_
   refine SmG.nil (aI (aa ?_))
   refine ab hF rfl ?_
   refine gv hF oM ?_
   refine gv hF (ah rfl rfl rfl (by exact eo _ _ _ _ _ (aX _ (by omega)))) ?_
   refine gv hF oA (SmG.nil (aa ?_))
   exact ⟨⟨i + 1, by omega⟩, by show 8 - (i + 1) < 8 - i; omega, by exact aK (by (simp [leE, look, bQ] <;> omega)) (by simp only [leH, look, rep, reduceIte, Nat.reduceEqDiff, List.set_cons_zero, List.set_cons_succ, hst, and_self, and_true, and_false, false_and, if_true, if_false] <;> (repeat' first | rfl | constructor)) (by exact Nat.le_refl _)⟩
  ·obtain rfl : i = 8 := by omega
   have hall := BB C L (by omega)
   rw [hcl] at hall
   have hll : (List.map bA (jk C L 8)).length = 8 := by rw [hall]; simp [hcl, hSl]
   refine Sm.seq (Sm.seq ?_)
   refine ab hF rfl ?_
   refine gv hF oM ?_
   refine gv hF (ah rfl rfl rfl (by exact ey _ _ _ _ _ (by omega))) ?_
   refine SmG.nil (aa ?_)
   refine aR hF rfl ?_
   refine Sm.exit ?_
   simp only [aZ, bP, reduceIte, reduceCtorEq]
   refine Sm.seq ?_
   refine ab hF rfl ?_
   refine gv hF (ac rfl rfl (by simp (disch := omega) only [go_sem] <;> rfl)) ?_
   refine SmG.store hF rfl rfl rfl rfl rfl (by simp (disch := omega) only [go_sem] <;> rfl) ?_
   refine SmG.nil (aa (Sm.ret ?_))
   refine cC rfl rfl (by simp (disch := omega) only [go_sem, Nat.reduceEqDiff] <;> rfl) ?_
   rw [hall, ← hpl]; exact D.le.refl _
end
section
open Go.RowKit
set_option maxRecDepth 100000
theorem gY {P : Program} {s d : TypeId} {td : TypeDesc} {k2 : IntKind} (z : Nat) (h1 : P.underlying s = some td) (h2 : P.underlying d = some (.int .u8)) : fg P s d (.d (.v (.int k2 (z : Int)))) = some (.d (aG (UInt8.ofNat z))) := by
 simp only [fg, xT P .u8 z s d h1 h2 k2, Option.map_some, aG]
 have : IntKind.u8.wrap (z : Int) = ((UInt8.ofNat z).toNat : Int) := by
  rw [IntKind.wrap_u8']
  simp
 rw [this]
theorem rV (l : List UInt8) (b : UInt8) : List.map am l ++ [[aG b]] = List.map am (l ++ [b]) := by simp [am]
theorem Ci (n i : Nat) (h : i < 8) : (Sha.lenBytes n).take i ++ [UInt8.ofNat (8 * n / 2 ^ (56 - 8 * i))] = (Sha.lenBytes n).take (i + 1) := (Sha.lenBytes_take n i h).symm
theorem H3 (P : Program) (t : TypeId) (x y : Operand) (a n : Nat) {b : Int} (k2 : IntKind) (hb : b = (n : Int)) (hn : n ≤ 64) : aE P (do eqGuard .shr t x y (.int .u64 a) (.int k2 b); binOp .shr t (.int .u64 a) (.int k2 b)) = some (.int .u64 ((a / 2 ^ n : Nat) : Int)) := by
 rw [tu P t x y .u64 a b k2 (by omega)]
 subst hb
 have : min ((n : Int).toNat) IntKind.u64.bits = n := by show min _ 64 = n; omega
 rw [this, Int.fdiv_eq_ediv_of_nonneg _ (Int.le_of_lt (Int.pow_pos (by omega)))]
 norm_cast
theorem Dm (b : List UInt8) (hb : b.length ≤ 1000000) (G : Nat → Option D) : ap Tryd.prog G 70 [aC b] (aC (Sha.padded b)) := by
 have hpad : Sha.padded b = b ++ [128] ++ List.replicate (Sha.zeros b.length) 0 ++ Sha.lenBytes b.length := rfl
 have hz : Sha.zeros b.length < 64 := by unfold Sha.zeros; omega
 have hzt := fun j => Sha.zeros_test b.length j
 have hze := Sha.zeros_end b.length
 generalize Sha.zeros b.length = z at hpad hz hzt hze
 refine ap.of Tryd.func70 rfl Tryd.ntmps70 (by simp) ?_; intro F hF h0 hT; simp only [List.zipIdx_cons, List.zipIdx_nil, List.map_cons, List.map_nil, Nat.zero_add, Nat.reduceAdd]
 refine Sm.seq ?_
 refine ab hF rfl ?_
 refine gv hF oA (SmG.nil (aa (Sm.seq ?_)))
 refine ab hF rfl ?_
 refine gv hF (bg rfl rfl (by simp (disch := omega) only [go_sem, Nat.reduceEqDiff, ai, aC, am] <;> rfl)) ?_
 refine gv hF oM ?_
 refine SmG.appendFresh hF rD rfl rfl rfl rfl rfl rfl (Or.inl rfl) (by simp only [List.length_map]; omega) (by simp only [List.length_map]; omega) ?_
 refine gv hF oA (SmG.nil (aa (Sm.seq ?_)))
 refine ab hF rfl ?_
 refine gv hF oM ?_
 refine gv hF (bg rfl rfl (by simp (disch := omega) only [go_sem, Nat.reduceEqDiff, ai, aC, am] <;> rfl)) ?_
 refine SmG.appendOwn hF rD rfl rfl rfl rfl rfl rfl rfl (by rfl) (Or.inl rfl) (by exact frH) ?_ ?_ ?_; rotate_left; rotate_left; simp only [ef, Pk.v, V.free, rep, bne_self_eq_false, Nat.reduceAdd, Nat.reduceBNe, Nat.reduceBEq, Nat.reduceEqDiff, reduceIte, Bool.false_eq_true]
 rotate_left
 ·simp only [List.length_map, List.length_cons, List.length_nil]; omega
 ·simp only [List.length_map, List.length_cons, List.length_nil]; omega
 refine gv hF oA (SmG.nil (aa (Sm.seq (Sm.block ?_))))
 refine Sm.loop (ι := {j : Nat // j ≤ z}) (fun j => ⟨[(0, .d (aC b)), (3, .sref 0 0 ((b ++ [128] ++ List.replicate j.1 0).map am).length)], [(0, dB 1 ((b ++ [128] ++ List.replicate j.1 0).map am))], 1⟩) (fun j => z - j.1) (⟨0, by omega⟩) ?_ ?_
 ·have h0 : List.map am b ++ [[D.v (.int .u8 128)]] = List.map am (b ++ [128] ++ List.replicate 0 0) := by
   rw [List.replicate_zero, List.append_nil, ← rV]; rfl
  exact aK (by (simp [leE, look, bQ] <;> omega)) (by simp only [leH, look, rep, reduceIte, Nat.reduceEqDiff, List.set_cons_zero, List.set_cons_succ, h0, and_self, and_true, and_false, false_and, if_true, if_false] <;> (repeat' first | rfl | constructor)) (by exact Nat.le_refl _)
 rintro ⟨j, hj⟩
 simp only
 by_cases hlt : j < z
 ·have hzj := hzt j hlt
  have hrow : List.map am (b ++ [128] ++ List.replicate j 0) ++ [[D.v (.int .u8 0)]] = List.map am (b ++ [128] ++ List.replicate (j + 1) 0) := by
   rw [List.replicate_succ', ← List.append_assoc, ← rV]; rfl
  refine Sm.seq (Sm.seq ?_)
  refine ab hF rfl ?_
  refine gv hF oM ?_
  refine gv hF (aJ rfl rfl (by simp (disch := omega) only [go_sem, Nat.reduceEqDiff, ai, aC, am, List.length_append, List.length_cons, List.length_nil, List.length_replicate] <;> rfl)) ?_
  refine gv hF (ah rfl rfl rfl (by exact eo _ _ _ _ _ (aX _ (by omega)))) ?_
  refine gv hF (ah rfl rfl rfl (by exact xU _ _ _ _ _ (by omega) (by omega))) ?_
  refine gv hF (ah rfl rfl rfl (by exact lC _ _ _ _ _ (by omega))) ?_
  refine SmG.nil (aa ?_)
  refine aY hF rfl ?_
  refine Sm.skip ?_
  refine aa (Sm.block ?_)
  refine ab hF rfl ?_
  refine gv hF oM ?_
  refine gv hF (bg rfl rfl (by simp (disch := omega) only [go_sem, Nat.reduceEqDiff, ai, aC, am, List.length_append, List.length_cons, List.length_nil, List.length_replicate] <;> rfl)) ?_
  refine SmG.appendOwn hF rD rfl rfl rfl rfl rfl rfl rfl (by rfl) (Or.inl rfl) (by exact frH) ?_ ?_ ?_; rotate_left; rotate_left; simp only [ef, Pk.v, V.free, rep, bne_self_eq_false, Nat.reduceAdd, Nat.reduceBNe, Nat.reduceBEq, Nat.reduceEqDiff, reduceIte, Bool.false_eq_true]
  rotate_left
  ·simp only [List.length_map, List.length_append, List.length_cons, List.length_nil, List.length_replicate]; omega
  ·simp only [List.length_map, List.length_append, List.length_cons, List.length_nil, List.length_replicate]; omega
  refine gv hF oA (SmG.nil (aI (aa ?_)))
  exact ⟨⟨j + 1, by omega⟩, by show z - (j + 1) < z - j; omega, by exact aK (by (simp [leE, look, bQ] <;> omega)) (by simp only [leH, look, rep, reduceIte, Nat.reduceEqDiff, List.set_cons_zero, List.set_cons_succ, hrow, and_self, and_true, and_false, false_and, if_true, if_false] <;> (repeat' first | rfl | constructor)) (by exact Nat.le_refl _)⟩
 ·obtain rfl : j = z := by omega
  refine Sm.seq (Sm.seq ?_)
  refine ab hF rfl ?_
  refine gv hF oM ?_
  refine gv hF (aJ rfl rfl (by simp (disch := omega) only [go_sem, Nat.reduceEqDiff, ai, aC, am, List.length_append, List.length_cons, List.length_nil, List.length_replicate] <;> rfl)) ?_
  refine gv hF (ah rfl rfl rfl (by exact eo _ _ _ _ _ (aX _ (by omega)))) ?_
  refine gv hF (ah rfl rfl rfl (by exact xU _ _ _ _ _ (by omega) (by omega))) ?_
  refine gv hF (ah rfl rfl rfl (by exact ia _ _ _ _ _ (by omega))) ?_
  refine SmG.nil (aa ?_)
  refine aR hF rfl ?_
  refine Sm.exit ?_
  simp only [aZ, bP, reduceIte, reduceCtorEq]
  refine Sm.seq ?_
  refine ab hF rfl ?_
  refine gv hF oM ?_
  refine gv hF (aJ rfl rfl (by simp (disch := omega) only [go_sem, Nat.reduceEqDiff, ai, aC, am, List.length_append, List.length_cons, List.length_nil, List.length_replicate] <;> rfl)) ?_
  refine gv hF (cO rfl rfl (by exact eQ rfl rfl (uO _ (by omega)))) ?_
  refine gv hF (ah rfl rfl rfl (by exact tv _ _ _ _ _ (uO _ (by omega)))) ?_
  refine gv hF oA (SmG.nil (aa (Sm.seq (Sm.seq ?_))))
  refine ab hF rfl ?_
  refine gv hF oA (SmG.nil (aa (Sm.block ?_)))
  refine Sm.loop (ι := {i : Nat // i ≤ 8}) (fun i => ⟨[(3, .sref 0 0 ((b ++ [128] ++ List.replicate j 0 ++ (Sha.lenBytes b.length).take i.1).map am).length), (4, .d (.v (.int .u64 ((8 * b.length : Nat) : Int)))), (5, .d (.v (.int .i64 i.1)))], [(0, dB 1 ((b ++ [128] ++ List.replicate j 0 ++ (Sha.lenBytes b.length).take i.1).map am))], 1⟩) (fun i => 8 - i.1) (⟨0, by omega⟩) ?_ ?_
  ·exact aK (by (simp [leE, look, bQ] <;> omega)) (by simp only [leH, look, rep, reduceIte, Nat.reduceEqDiff, List.set_cons_zero, List.set_cons_succ, List.take_zero, List.append_nil, and_self, and_true, and_false, false_and, if_true, if_false] <;> (repeat' first | rfl | constructor)) (by exact Nat.le_refl _)
  rintro ⟨i, hi⟩
  simp only
  have hll : (Sha.lenBytes b.length).length = 8 := by simp [Sha.lenBytes]
  by_cases hlt : i < 8
  ·have hrow : List.map am (b ++ [128] ++ List.replicate j 0 ++ (Sha.lenBytes b.length).take i) ++ [[D.v (.int .u8 ((UInt8.ofNat (8 * b.length / 2 ^ (56 - 8 * i))).toNat : Int))]] = List.map am (b ++ [128] ++ List.replicate j 0 ++ (Sha.lenBytes b.length).take (i + 1)) := by
    show _ ++ [[aG _]] = _
    rw [rV, List.append_assoc, Ci _ _ hlt]
   refine Sm.seq (Sm.seq ?_)
   refine ab hF rfl ?_
   refine gv hF oM ?_
   refine gv hF (ah rfl rfl rfl (by exact dO _ _ _ _ _ (by omega))) ?_
   refine SmG.nil (aa ?_)
   refine aY hF rfl ?_
   refine Sm.skip ?_
   refine aa (Sm.seq (Sm.block ?_))
   refine ab hF rfl ?_
   refine gv hF oM (gv hF oM (gv hF oM ?_))
   refine gv hF (ah rfl rfl rfl (by exact tv _ _ _ _ _ (aX _ (by omega)))) ?_
   refine gv hF (ah rfl rfl rfl (by exact gu _ _ _ _ _ (aX _ (by omega)))) ?_
   refine gv hF (ah rfl rfl rfl (H3 _ _ _ _ (8 * b.length) (56 - 8 * i) _ (by omega) (by omega))) ?_
   refine gv hF (cO rfl rfl (gY _ Tryd.underlying82 Tryd.underlying5)) ?_
   refine gv hF (bg rfl rfl (by simp (disch := omega) only [go_sem, Nat.reduceEqDiff, ai, aC, am, List.length_append, List.length_cons, List.length_nil, List.length_replicate] <;> rfl)) ?_
   refine SmG.appendOwn hF rD rfl rfl rfl rfl rfl rfl rfl (by rfl) (Or.inl rfl) (by exact frH) ?_ ?_ ?_; rotate_left; rotate_left; simp only [ef, Pk.v, V.free, rep, bne_self_eq_false, Nat.reduceAdd, Nat.reduceBNe, Nat.reduceBEq, Nat.reduceEqDiff, reduceIte, Bool.false_eq_true]
   rotate_left
   ·simp only [List.length_map, List.length_append, List.length_cons, List.length_nil, List.length_replicate, List.length_take]; omega
   ·simp only [List.length_map, List.length_append, List.length_cons, List.length_nil, List.length_replicate, List.length_take]; omega
   refine gv hF oA (SmG.nil (aI (aa ?_)))
   refine ab hF rfl ?_
   refine gv hF oM ?_
   refine gv hF (ah rfl rfl rfl (by exact eo _ _ _ _ _ (aX _ (by omega)))) ?_
   refine gv hF oA (SmG.nil (aa ?_))
   exact ⟨⟨i + 1, by omega⟩, by show 8 - (i + 1) < 8 - i; omega, by exact aK (by (simp [leE, look, bQ] <;> omega)) (by simp only [leH, look, rep, reduceIte, Nat.reduceEqDiff, List.set_cons_zero, List.set_cons_succ, hrow, and_self, and_true, and_false, false_and, if_true, if_false] <;> (repeat' first | rfl | constructor)) (by exact Nat.le_refl _)⟩
  ·obtain rfl : i = 8 := by omega
   refine Sm.seq (Sm.seq ?_)
   refine ab hF rfl ?_
   refine gv hF oM ?_
   refine gv hF (ah rfl rfl rfl (by exact ey _ _ _ _ _ (by omega))) ?_
   refine SmG.nil (aa ?_)
   refine aR hF rfl ?_
   refine Sm.freeze (l := 0) _ rfl ?_
   simp only [Pk.v, c8, bn, b7,  reduceIte, Nat.reduceAdd, Nat.zero_add, List.length_map, List.length_append, Nat.le_refl, true_and, and_self, if_true, Nat.reduceEqDiff, true_and]
   refine Sm.exit ?_
   simp only [aZ, bP, reduceIte, reduceCtorEq]
   refine Sm.seq ?_
   refine ab hF rfl ?_
   refine gv hF oM (gv hF oA (SmG.nil (aa (Sm.ret ?_))))
   refine ⟨_, rfl, ?_⟩; dsimp only
   rw [List.take_of_length_le (by omega), ← hpad]; exact D.le.refl _
theorem BT (all : List UInt8) (j : Nat) : List.drop (64 * j) (List.map am (List.take (64 * j + 64) all)) = List.map am ((all.drop (64 * j)).take 64) := by
 rw [← List.map_drop, List.drop_take]; congr 2; omega
theorem Fz (S : Sha.S8) (k : Nat) (h : k ≤ 32) : ((Sha.out S).take k ++ List.replicate (32 - k) 0).length = 32 := by
 simp [Sha.out_length]; omega
theorem xW (b : List UInt8) (hb : b.length ≤ 1000000) (G : Nat → Option D) : ap Tryd.prog G 47 [aC b] (qz (Sha.sum b)) := by
 have hmod := Sha.padded_mod b
 have hplen := Sha.padded_length b
 have hz : Sha.zeros b.length < 64 := by unfold Sha.zeros; omega
 have hS : Sha.sum b = Sha.out (Sha.over (Sha.padded b) ((Sha.padded b).length / 64)) := rfl
 refine ap.of Tryd.func47 rfl Tryd.ntmps47 (by simp) ?_; intro F hF h0 hT; simp only [List.zipIdx_cons, List.zipIdx_nil, List.map_cons, List.map_nil, Nat.zero_add, Nat.reduceAdd]
 refine Sm.seq ?_
 refine ab hF rfl ?_
 refine SmG.new hF rfl rfl rfl (aF rfl lN) ?_
 refine SmG.nil (aa (Sm.seq ?_))
 refine ab hF rfl ?_
 refine gv hF oM ?_
 refine SmG.call hF rfl rfl (by kernel_rfl) rfl rfl rfl (Dm b hb G) ?_
 refine gv hF oA (SmG.nil (aa (Sm.seq ?_)))
 refine ab hF rfl ?_
 refine SmG.call hF rfl rfl (by kernel_rfl) rfl rfl rfl (Fj G) ?_
 refine SmG.new hF rfl rfl rfl (aF rfl zX) ?_
 refine SmG.store hF rfl rfl rfl rfl rfl (by simp (disch := omega) only [go_sem, Nat.reduceEqDiff, ai, bA, qz] <;> rfl) ?_
 refine SmG.nil (aa (Sm.seq (Sm.seq ?_)))
 refine ab hF rfl ?_
 refine gv hF oA (SmG.nil (aa (Sm.block ?_)))
 generalize Sha.padded b = all at hmod hplen hS ⊢
 generalize hm : all.length / 64 = m at hmod hS
 refine Sm.loop (ι := {j : Nat // j ≤ m}) (fun j => ⟨[(2, .ref 0 0 0), (3, .d (aC all)), (4, .ref 1 0 0), (5, .d (.v (.int .i64 ((64 * j.1 : Nat) : Int))))], [(1, dW 8 (Sha.over all j.1).list), (0, dB 32 [aA (List.replicate 32 0)])], 2⟩) (fun j => m - j.1) (⟨0, by omega⟩) ?_ ?_
 ·exact aK (by (simp [leE, look, bQ] <;> omega)) (by simp only [leH, look, rep, reduceIte, Nat.reduceEqDiff, List.set_cons_zero, List.set_cons_succ, true_and, and_self, and_true, and_false, false_and, if_true, if_false] <;> (repeat' first | rfl | constructor)) (by exact Nat.le_refl _)
 rintro ⟨j, hj⟩
 simp only
 by_cases hlt : j < m
 ·have c1 := GW (Sha.over all j) ((all.drop (64 * j)).take 64) (by rw [List.length_take, List.length_drop]; omega) G
  have hcm := BT all j
  have hle : 64 * j ≤ 64 * j + 64 := by omega
  have hle2 : 64 * j + 64 ≤ all.length := by omega
  have hcast : (((64 * j : Nat) : Int) + 64).toNat = 64 * j + 64 := by omega
  have hov : Sha.over all (j + 1) = Sha.after (Sha.over all j) ((all.drop (64 * j)).take 64) := rfl
  have hl8 : (Sha.over all j).list.length = 8 := rfl
  refine Sm.seq (Sm.seq ?_)
  refine ab hF rfl ?_
  refine gv hF oM (gv hF oM ?_)
  refine gv hF (aJ rfl rfl (by simp (disch := omega) only [go_sem, Nat.reduceEqDiff, ai, aC, hcm, hcast, hle, hle2, mU, hl8] <;> rfl)) ?_
  refine gv hF (ah rfl rfl rfl (by exact dO _ _ _ _ _ (by omega))) ?_
  refine SmG.nil (aa ?_)
  refine aY hF rfl ?_
  refine Sm.skip ?_
  refine aa (Sm.seq (Sm.block ?_))
  refine eE hF (by kernel_rfl) rfl 7 (by kernel_rfl) (by kernel_rfl) ?_
  simp only [List.take_succ_cons, List.take_zero, List.take_nil]
  refine hv hF (ac rfl rfl (by simp (disch := omega) only [go_sem, Nat.reduceEqDiff, ai, aC, hcm, hcast, hle, hle2, mU, hl8] <;> rfl)) ?_
  refine hv hF oM (hv hF oM (hv hF oM ?_))
  refine hv hF (ah rfl rfl rfl (by exact eo _ _ _ _ _ (aX _ (by omega)))) ?_
  refine hv hF (bK rfl rfl rfl rfl rfl (by simp (disch := omega) only [go_sem, Nat.reduceEqDiff, ai, aC, hcm, hcast, hle, hle2, mU, hl8] <;> rfl)) ?_
  refine au.c hF rfl rfl (by kernel_rfl) rfl rfl rfl (c1) ?_
  refine au.last ⟨rfl, ?_⟩
  simp only [List.drop_succ_cons, List.drop_zero, List.drop_nil, List.nil_append, List.cons_append]
  refine SmG.store hF rfl rfl rfl rfl rfl (by simp (disch := omega) only [go_sem, Nat.reduceEqDiff, ai, aC, hcm, hcast, hle, hle2, mU, hl8] <;> rfl) ?_
  refine SmG.nil (aI (aa ?_))
  refine ab hF rfl ?_
  refine gv hF oM ?_
  refine gv hF (ah rfl rfl rfl (by exact eo _ _ _ _ _ (aX _ (by omega)))) ?_
  refine gv hF oA (SmG.nil (aa ?_))
  exact ⟨⟨j + 1, by omega⟩, by show m - (j + 1) < m - j; omega, by exact aK (by (simp [leE, look, bQ] <;> omega)) (by simp only [leH, look, rep, reduceIte, Nat.reduceEqDiff, List.set_cons_zero, List.set_cons_succ, hov, and_self, and_true, and_false, false_and, if_true, if_false] <;> (repeat' first | rfl | constructor)) (by exact Nat.le_refl _)⟩
 ·obtain rfl : j = m := by omega
  generalize Sha.over all j = S at hS ⊢
  refine Sm.seq (Sm.seq ?_)
  refine ab hF rfl ?_
  refine gv hF oM (gv hF oM ?_)
  refine gv hF (aJ rfl rfl (by simp (disch := omega) only [go_sem, Nat.reduceEqDiff, ai, aC] <;> rfl)) ?_
  refine gv hF (ah rfl rfl rfl (by exact ey _ _ _ _ _ (by omega))) ?_
  refine SmG.nil (aa ?_)
  refine aR hF rfl ?_
  refine Sm.exit ?_
  simp only [aZ, bP, reduceIte, reduceCtorEq]
  refine Sm.seq ?_
  refine ab hF rfl ?_
  refine gv hF (fR rfl Tryd.underlying42 rfl Dq) ?_
  refine SmG.new hF rfl rfl rfl (aF rfl lN) ?_
  refine SmG.store hF rfl rfl rfl rfl rfl (by simp (disch := omega) only [go_sem, Nat.reduceEqDiff, ai, aC] <;> rfl) ?_
  refine SmG.nil (aa (Sm.seq (Sm.seq ?_)))
  refine ab hF rfl ?_
  refine gv hF oA (SmG.nil (aa (Sm.block ?_)))
  refine Sm.loop (ι := {k : Nat // k ≤ 32}) (fun k => ⟨[(2, .ref 0 0 0), (4, .ref 1 0 0), (6, .ref 2 0 0), (7, .d (.v (.int .i64 k.1)))], [(2, dB 32 [aA ((Sha.out S).take k.1 ++ List.replicate (32 - k.1) 0)]), (1, dW 8 S.list), (0, dB 32 [aA (List.replicate 32 0)])], 3⟩) (fun k => 32 - k.1) (⟨0, by omega⟩) ?_ ?_
  ·exact aK (by (simp [leE, look, bQ] <;> omega)) (by simp only [leH, look, rep, reduceIte, Nat.reduceEqDiff, List.set_cons_zero, List.set_cons_succ, List.take_zero, List.nil_append, and_self, and_true, and_false, false_and, if_true, if_false] <;> (repeat' first | rfl | constructor)) (by exact Nat.le_refl _)
  rintro ⟨k, hk⟩
  simp only
  have hl8 : S.list.length = 8 := rfl
  by_cases hlt : k < 32
  ·have hg := gL S.list (k / 4) (by omega)
   have hset := Sha.out_set S k hlt
   have hsh : ∀ (x : UInt32) (n : Nat), (Sha.shr x n).toNat = x.toNat / 2 ^ n := fun x n => Nat.mod_eq_of_lt (Nat.lt_of_le_of_lt (Nat.div_le_self _ _) x.toNat_lt)
   generalize S.list.getD (k / 4) 0 = x at hg hset
   have hcast : ((k : Int) / 4).toNat = k / 4 := by omega
   have hst : (List.map V.d (aA ((Sha.out S).take k ++ List.replicate (32 - k) 0))).set k (.d (.v (.int .u8 ((UInt8.ofNat (Sha.shr x (24 - 8 * (k % 4))).toNat).toNat : Int)))) = List.map V.d (aA ((Sha.out S).take (k + 1) ++ List.replicate (32 - (k + 1)) 0)) := by
    rw [← hset, hsh]
    simp only [aA, List.map_set, aG]
   refine Sm.seq (Sm.seq ?_)
   refine ab hF rfl ?_
   refine gv hF oM ?_
   refine gv hF (ah rfl rfl rfl (by exact dO _ _ _ _ _ (by omega))) ?_
   refine SmG.nil (aa ?_)
   refine aY hF rfl ?_
   refine Sm.skip ?_
   refine aa (Sm.seq (Sm.block ?_))
   refine ab hF rfl ?_
   refine gv hF oM (gv hF oM ?_)
   refine gv hF (ah rfl rfl rfl (by exact GL _ _ _ _ (by omega) (by omega))) ?_
   refine gv hF (aj rfl rfl rfl (by simp (disch := omega) only [go_sem, Nat.reduceEqDiff, ai, bA, hg, hcast, aG, hl8] <;> rfl)) ?_
   refine gv hF (ac rfl rfl (by simp (disch := omega) only [go_sem, Nat.reduceEqDiff, ai, bA, hg, hcast, aG, hl8] <;> rfl)) ?_
   refine gv hF oM ?_
   refine gv hF (ah rfl rfl rfl (by exact xU _ _ _ _ _ (by omega) (by omega))) ?_
   refine gv hF (ah rfl rfl rfl (by exact tv _ _ _ _ _ (aX _ (by omega)))) ?_
   refine gv hF (ah rfl rfl rfl (by exact gu _ _ _ _ _ (aX _ (by omega)))) ?_
   refine gv hF (ah rfl rfl rfl (yc _ _ _ _ (24 - 8 * (k % 4)) _ (by omega) (by omega) x)) ?_
   refine gv hF (cO rfl rfl (gY _ Tryd.underlying83 Tryd.underlying5)) ?_
   refine gv hF (aj rfl rfl rfl (by simp (disch := omega) only [go_sem, Nat.reduceEqDiff, ai, bA, hg, hcast, aG, hl8] <;> rfl)) ?_
   refine SmG.store hF rfl rfl rfl rfl rfl (by simp (disch := omega) only [go_sem, Nat.reduceEqDiff, ai, bA, hg, hcast, aG, hl8] <;> rfl) ?_
   refine SmG.nil (aI (aa ?_))
   refine ab hF rfl ?_
   refine gv hF oM ?_
   refine gv hF (ah rfl rfl rfl (by exact eo _ _ _ _ _ (aX _ (by omega)))) ?_
   refine gv hF oA (SmG.nil (aa ?_))
   exact ⟨⟨k + 1, by omega⟩, by show 32 - (k + 1) < 32 - k; omega, by exact aK (by (simp [leE, look, bQ] <;> omega)) (by simp only [leH, look, rep, reduceIte, Nat.reduceEqDiff, List.set_cons_zero, List.set_cons_succ, hst, and_self, and_true, and_false, false_and, if_true, if_false] <;> (repeat' first | rfl | constructor)) (by exact Nat.le_refl _)⟩
  ·obtain rfl : k = 32 := by omega
   have hll : (aA ((Sha.out S).take 32 ++ List.replicate (32 - 32) 0)).length = 32 := by rw [aA, List.length_map, Fz S 32 (by omega)]
   refine Sm.seq (Sm.seq ?_)
   refine ab hF rfl ?_
   refine gv hF oM ?_
   refine gv hF (ah rfl rfl rfl (by exact ey _ _ _ _ _ (by omega))) ?_
   refine SmG.nil (aa ?_)
   refine aR hF rfl ?_
   refine Sm.exit ?_
   simp only [aZ, bP, reduceIte, reduceCtorEq]
   refine Sm.seq ?_
   refine ab hF rfl ?_
   refine gv hF (ac rfl rfl (by simp (disch := omega) only [go_sem, Nat.reduceEqDiff, ai, hll] <;> rfl)) ?_
   refine SmG.store hF rfl rfl rfl rfl rfl (by simp (disch := omega) only [go_sem, Nat.reduceEqDiff, ai, hll] <;> rfl) ?_
   refine SmG.nil (aa (Sm.ret ?_))
   refine cC rfl rfl (by simp (disch := omega) only [go_sem, Nat.reduceEqDiff, ai, hll] <;> rfl) ?_
   rw [hS, List.take_of_length_le (by rw [Sha.out_length]; omega), List.append_nil]
   exact D.le.refl _
end
end Go.Proofs.YtaclinnjekdgoaaDoor
