/-
  Lemmas, part 7 of 8: walks through the program's functions, and plain Lean about what they compute.
-/
import Derived.Test.YtbaccmkhjmmlnaaDoorZ1
import Derived.Test.YtbaccmkhjmmlnaaDoorZ2
import Derived.Test.YtbaccmkhjmmlnaaDoorZ3
import Derived.Test.YtbaccmkhjmmlnaaDoorZ4
import Derived.Test.YtbaccmkhjmmlnaaDoorZ5
import Derived.Test.YtbaccmkhjmmlnaaDoorZ6
set_option linter.unnecessarySimpa false
set_option linter.unusedSimpArgs false
set_option linter.unusedVariables false
namespace Go.Proofs.YtbaccmkhjmmlnaaDoor
section
open Go.RowKit
theorem bx {s : List UInt8} (h : s.length = 32) : (aI s).length = 32 := by simp [aI, h]
theorem wj : (D.list 0 [] true).le (bi []) := dL 0 1 true
theorem pL {l : List (List UInt8)} (h : Fit l) (m : Nat) : Fit (l.take m) := ⟨by have := h.1; rw [List.length_take]; omega, fun x hx => h.2 x (List.mem_of_mem_take hx)⟩
theorem pQ {l : List (List UInt8)} (h : Fit l) (m : Nat) : Fit (l.drop m) := ⟨by have := h.1; rw [List.length_drop]; omega, fun x hx => h.2 x (List.mem_of_mem_drop hx)⟩
set_option maxRecDepth 100000
theorem AL (n k : Nat) (h : 2 ^ k < n) (h' : n ≤ 2 * 2 ^ k) : 2 ^ k = Sha.cut n := (Sha.cut_eq (by have := Nat.pow_pos (n := k) (show 0 < 2 by omega); omega) h h').symm
theorem yY (n : Nat) (h1 : 2 ≤ n) (h2 : n ≤ 4611686018427387904) (G : Nat → Option D) : aj Tryd.prog G 57 [.v (.int .i64 n)] (.v (.int .i64 (Sha.cut n : Nat))) := by
 refine aj.of Tryd.func57 rfl Tryd.ntmps57 (by simp) ?_; intro F hF h0 hT; simp only [List.zipIdx_cons, List.zipIdx_nil, List.map_cons, List.map_nil, Nat.zero_add, Nat.reduceAdd]
 refine Sm.seq ?_
 refine ab hF rfl ?_
 refine gv hF oA (SmG.nil (ae (Sm.seq ?_)))
 refine ab hF rfl ?_
 refine gv hF oA (SmG.nil (ae (Sm.seq (Sm.block ?_))))
 refine Sm.loop (ι := {k : Nat // 2 ^ k < n}) (fun k => ⟨[(0, .d (.v (.int .i64 n))), (3, .d (.v (.int .i64 (2 ^ k.1 : Nat))))], [], 0⟩) (fun k => n - 2 ^ k.1) (⟨0, by simp; omega⟩) ?_ ?_
 ·exact cC (by simp [leE, look, bf]) (by simp [leH, look, rep]) (by first | exact Nat.le_refl _ | (dsimp only; omega))
 rintro ⟨k, hk⟩
 have hpos : 0 < 2 ^ k := Nat.pow_pos (by omega)
 have hs : 2 ^ (k + 1) = 2 * 2 ^ k := by rw [Nat.pow_succ]; omega
 have hc := AL n k hk
 generalize hm : 2 ^ k = m at hs hc hpos ⊢
 simp only [hm] at hk ⊢
 clear hm
 by_cases hlt : 2 * m < n
 ·refine Sm.seq (Sm.seq ?_)
  refine ab hF rfl ?_
  refine gv hF oM ?_
  refine gv hF (aA rfl rfl rfl (by first | exact lO _ _ _ _ _ (bX _ (by omega)) | exact jM _ _ _ _ _ _ _)) ?_
  refine gv hF oM ?_
  refine gv hF (aA rfl rfl rfl (by first | exact dD _ _ _ _ _ (by omega) | exact dO _ _ _ _ _ (by omega) | exact ep _ _ _ _ _ _ _)) ?_
  refine SmG.nil (ae ?_)
  refine cP hF rfl ?_
  refine Sm.skip ?_
  refine ae (Sm.block ?_)
  refine ab hF rfl ?_
  refine gv hF oM ?_
  refine gv hF (aA rfl rfl rfl (by first | exact lO _ _ _ _ _ (bX _ (by omega)) | exact jM _ _ _ _ _ _ _)) ?_
  refine gv hF oA (SmG.nil (ak (ae ?_)))
  refine ⟨⟨k + 1, by omega⟩, by show n - 2 ^ (k + 1) < n - m; omega, ?_⟩
  exact cC (by simp [leE, look, bf, hs]) (by simp [leH, look, rep, hs]) (by first | exact Nat.le_refl _ | (dsimp only; omega))
 ·refine Sm.seq (Sm.seq ?_)
  refine ab hF rfl ?_
  refine gv hF oM ?_
  refine gv hF (aA rfl rfl rfl (by first | exact lO _ _ _ _ _ (bX _ (by omega)) | exact jM _ _ _ _ _ _ _)) ?_
  refine gv hF oM ?_
  refine gv hF (aA rfl rfl rfl (by first | exact dD _ _ _ _ _ (by omega) | exact dO _ _ _ _ _ (by omega) | exact ep _ _ _ _ _ _ _)) ?_
  refine SmG.nil (ae ?_)
  refine bq hF rfl ?_
  refine Sm.exit ?_
  simp only [cZ, gA, reduceIte, reduceCtorEq]
  refine Sm.seq ?_
  refine ab hF rfl ?_
  refine gv hF oM (gv hF oA (SmG.nil (ae (Sm.ret ?_))))
  refine ⟨_, rfl, ?_⟩; dsimp only
  rw [← hc (by omega)]
  exact D.le.refl _
end
section
open Go.RowKit
set_option maxRecDepth 100000
section
variable (P : Program) (t : TypeId) (x y : Operand)
theorem iU (a b : UInt32) : bb P (do eqGuard .add t x y (.int .u32 a.toNat) (.int .u32 b.toNat); binOp .add t (.int .u32 a.toNat) (.int .u32 b.toNat)) = some (.int .u32 ((a + b).toNat : Int)) := by rw [cT, xI]
theorem iS (a b : UInt32) : bb P (do eqGuard .xor t x y (.int .u32 a.toNat) (.int .u32 b.toNat); binOp .xor t (.int .u32 a.toNat) (.int .u32 b.toNat)) = some (.int .u32 ((a ^^^ b).toNat : Int)) := by
 rw [iw]; exact congrArg (fun n => some (Value.int .u32 n)) (nt a b)
theorem ou (a b : UInt32) : bb P (do eqGuard .and t x y (.int .u32 a.toNat) (.int .u32 b.toNat); binOp .and t (.int .u32 a.toNat) (.int .u32 b.toNat)) = some (.int .u32 ((a &&& b).toNat : Int)) := by
 rw [lG]; exact congrArg (fun n => some (Value.int .u32 n)) (vL a b)
theorem zU (a : UInt32) : bb P (Op.unary .xor (.int .u32 a.toNat)) = some (.int .u32 ((~~~a).toNat : Int)) := by
 rw [← yJ a]; rfl
theorem sO (n : Nat) {b : Int} (k2 : IntKind) (hb : b = (n : Int)) (hn : n ≤ 32) (a : UInt32) : bb P (do eqGuard .shr t x y (.int .u32 a.toNat) (.int k2 b); binOp .shr t (.int .u32 a.toNat) (.int k2 b)) = some (.int .u32 ((Sha.shr a n).toNat : Int)) := by
 rw [sY P t x y .u32 a.toNat b k2 (by omega), ← vc]
 subst hb
 have : min ((n : Int).toNat) IntKind.u32.bits = n := by show min _ 32 = n; omega
 rw [this, Int.fdiv_eq_ediv_of_nonneg _ (Int.le_of_lt (Int.pow_pos (by omega)))]
 norm_cast
theorem y3 (p : Nat) (k2 : IntKind) (hp : p < 16777216) : bb P (do eqGuard .shl t x y (.int .u32 p) (.int k2 8); binOp .shl t (.int .u32 p) (.int k2 8)) = some (.int .u32 ((p * 256 : Nat) : Int)) := by
 have e : (2 : Int) ^ (min (8 : Int).toNat IntKind.u32.bits) = 256 := by decide
 rw [wy P t x y .u32 p 8 k2 (by omega), e, uw _ (by omega)]
 simp
theorem AU (p c : Nat) (hp : p < 16777216) (hc : c < 256) : bb P (do eqGuard .or t x y (.int .u32 ((p * 256 : Nat) : Int)) (.int .u32 c); binOp .or t (.int .u32 ((p * 256 : Nat) : Int)) (.int .u32 c)) = some (.int .u32 ((p * 256 + c : Nat) : Int)) := by
 rw [Cw]
 have := wT p c hp hc
 rw [show (p : Int) * 256 % 4294967296 = ((p * 256 : Nat) : Int) by omega] at this
 exact congrArg (fun n => some (Value.int .u32 n)) this
end
theorem jc {n : Int} (m : Nat) (x : UInt32) (hn : n = m) (h1 : m ≤ 31) (G : Nat → Option D) : aj Tryd.prog G 92 [.v (.int .i64 n), .v (.int .u32 x.toNat)] (.v (.int .u32 (Sha.rotr x m).toNat)) := by
 intro C w vs hG hk ha
 obtain ⟨v, u, rfl, hv, hu⟩ := r5 ha
 rw [bp hv, bp hu]
 subst hn
 refine (xU m x w h1).mono ?_
 rintro e w' ⟨rfl, k, rfl⟩
 exact ⟨_, C, rfl, .of_below hk (below_drewN (Below.refl _ _) k), .v _⟩
theorem y9 (G : Nat → Option D) : aj Tryd.prog G 77 [] (.agg 8 (Sha.begin8.map aM)) := by
 refine aj.of Tryd.func77 rfl Tryd.ntmps77 (by simp) ?_; intro F hF h0 hT; simp only [List.zipIdx_cons, List.zipIdx_nil, List.map_cons, List.map_nil, Nat.zero_add, Nat.reduceAdd]
 refine Sm.seq ?_
 refine ab hF rfl ?_
 refine SmG.new hF rfl rfl rfl (aO rfl sd) ?_
 refine SmG.nil (ae (Sm.seq ?_))
 refine ab hF rfl ?_
 refine gv hF (iq rfl Tryd.underlying139 rfl (show _ = some (.d (.agg 8 (Sha.begin8.map aM))) from by kernel_rfl)) ?_
 refine SmG.store hF rfl rfl rfl rfl rfl (by simp (disch := omega) only [go_sem, Nat.reduceEqDiff, aE] <;> rfl) ?_
 refine SmG.nil (ae (Sm.ret ?_))
 refine ⟨.agg 8 (Sha.begin8.map aM), ?_, D.le.refl _⟩
 kernel_rfl
theorem AH (G : Nat → Option D) : aj Tryd.prog G 91 [] (.agg 64 (Sha.keys64.map aM)) := by
 refine aj.of Tryd.func91 rfl Tryd.ntmps91 (by simp) ?_; intro F hF h0 hT; simp only [List.zipIdx_cons, List.zipIdx_nil, List.map_cons, List.map_nil, Nat.zero_add, Nat.reduceAdd]
 refine Sm.seq ?_
 refine ab hF rfl ?_
 refine SmG.new hF rfl rfl rfl (aO rfl qI) ?_
 refine SmG.nil (ae (Sm.seq ?_))
 refine ab hF rfl ?_
 refine gv hF (iq rfl Tryd.underlying154 rfl (show _ = some (.d (.agg 64 (Sha.keys64.map aM))) from by kernel_rfl)) ?_
 refine SmG.store hF rfl rfl rfl rfl rfl (by simp (disch := omega) only [go_sem, Nat.reduceEqDiff, aE] <;> rfl) ?_
 refine SmG.nil (ae (Sm.ret ?_))
 refine ⟨.agg 64 (Sha.keys64.map aM), ?_, D.le.refl _⟩
 kernel_rfl
abbrev dW (n : Nat) (l : List UInt32) : Blk := dB n [l.map aM]
theorem yz (l : List UInt32) (i z : Nat) (h : z < 4294967296) : (List.map V.d (List.map aM l)).set i (.d (.v (.int .u32 (z : Int)))) = List.map V.d (List.map aM (l.set i (UInt32.ofNat z))) := by
 rw [List.map_set, List.map_set]
 have : (UInt32.ofNat z).toNat = z := Nat.mod_eq_of_lt h
 rw [aM, this]
theorem rL (l : List UInt32) (i : Nat) (z : UInt32) : (List.map V.d (List.map aM l)).set i (.d (.v (.int .u32 (z.toNat : Int)))) = List.map V.d (List.map aM (l.set i z)) := by
 rw [List.map_set, List.map_set]; rfl
theorem io (l : List UInt32) (i : Nat) (h : i < l.length) : l[i]? = some (l.getD i 0) := by simp [List.getD, h]
theorem ym (b : List UInt8) (hb : b.length = 64) (G : Nat → Option D) : aj Tryd.prog G 90 [bi b] (.agg 64 ((Sha.spread b).map aM)) := by
 refine aj.of Tryd.func90 rfl Tryd.ntmps90 (by simp) ?_; intro F hF h0 hT; simp only [List.zipIdx_cons, List.zipIdx_nil, List.map_cons, List.map_nil, Nat.zero_add, Nat.reduceAdd]
 refine Sm.seq ?_
 refine ab hF rfl ?_
 refine SmG.new hF rfl rfl rfl (aO rfl qI) ?_
 refine SmG.nil (ae (Sm.seq ?_))
 refine ab hF rfl ?_
 refine gv hF (iq rfl Tryd.underlying154 rfl Cr) ?_
 refine SmG.new hF rfl rfl rfl (aO rfl qI) ?_
 refine SmG.store hF rfl rfl rfl rfl rfl (by simp (disch := omega) only [go_sem, Nat.reduceEqDiff, aE] <;> rfl) ?_
 refine SmG.nil (ae (Sm.seq (Sm.seq ?_)))
 refine ab hF rfl ?_
 refine gv hF oA (SmG.nil (ae (Sm.block ?_)))
 refine Sm.loop (ι := {t : Nat // t ≤ 16}) (fun t => ⟨[(0, .d (bi b)), (2, .ref 0 0 0), (3, .ref 1 0 0), (4, .d (.v (.int .i64 t.1)))], [(1, dW 64 (Sha.fill b (4 * t.1))), (0, dW 64 (List.replicate 64 0))], 2⟩) (fun t => 16 - t.1) (⟨0, by omega⟩) ?_ ?_
 ·refine cC (by simp [leE, look, bf]) ⟨?_, rfl, trivial⟩ (Nat.le_refl _)
  show _ = some (dW 64 (Sha.fill b 0))
  rw [Sha.fill_zero]; rfl
 rintro ⟨t, ht⟩
 simp only
 by_cases hlt : t < 16
 ·refine Sm.seq (Sm.seq ?_)
  refine ab hF rfl ?_
  refine gv hF oM ?_
  refine gv hF (aA rfl rfl rfl (by first | exact dD _ _ _ _ _ (by omega) | exact dO _ _ _ _ _ (by omega) | exact ep _ _ _ _ _ _ _)) ?_
  refine SmG.nil (ae ?_)
  refine cP hF rfl ?_
  refine Sm.skip ?_
  refine ae (Sm.seq (Sm.block (Sm.seq ?_)))
  refine ab hF rfl ?_
  refine gv hF oA (SmG.nil (ae (Sm.block ?_)))
  refine Sm.loop (ι := {k : Nat // k ≤ 4}) (fun k => ⟨[(0, .d (bi b)), (2, .ref 0 0 0), (3, .ref 1 0 0), (4, .d (.v (.int .i64 t))), (5, .d (.v (.int .i64 k.1)))], [(1, dW 64 (Sha.fill b (4 * t + k.1))), (0, dW 64 (List.replicate 64 0))], 2⟩) (fun k => 4 - k.1) (⟨0, by omega⟩) ?_ ?_
  ·exact cC (by simp [leE, look, bf]) (by simp [leH, look, rep]) (by first | exact Nat.le_refl _ | (dsimp only; omega))
  rintro ⟨k, hk⟩
  simp only
  by_cases hlk : k < 4
  ·have hpl : Sha.part b t k < 16777216 := Nat.lt_of_lt_of_le (Sha.part_lt b t k) (by
    have : (256 : Nat) ^ k ≤ 256 ^ 3 := Nat.pow_le_pow_right (by omega) (by omega)
    simpa using this)
   have hget : (Sha.fill b (4 * t + k))[t]? = some (UInt32.ofNat (Sha.part b t k)) := by
    rw [io _ _ (by rw [Sha.fill_length]; omega), Sha.fill_get b _ t (by omega)]
    congr 3; omega
   have hw : (UInt32.ofNat (Sha.part b t k)).toNat = Sha.part b t k := Nat.mod_eq_of_lt (by omega)
   have hb1 : b[4 * t + k]? = some (b.getD (4 * t + k) 0) := by simp [List.getD, show 4 * t + k < b.length by omega]
   have hlb : (b.getD (4 * t + k) 0).toNat < 256 := (b.getD (4 * t + k) 0).toNat_lt
   have hset := Sha.fill_succ b (4 * t + k) (by omega)
   rw [show (4 * t + k) / 4 = t by omega, show (4 * t + k) % 4 = k by omega] at hset
   have hst := yz (Sha.fill b (4 * t + k)) t (Sha.part b t k * 256 + (b.getD (4 * t + k) 0).toNat) (by omega)
   rw [← hset] at hst
   generalize b.getD (4 * t + k) 0 = c at hb1 hlb hst
   generalize Sha.part b t k = p at hpl hget hw hst
   have hcast : (4 * (t : Int) + (k : Int)).toNat = 4 * t + k := by omega
   have e1 : 4 * t + (k + 1) = 4 * t + k + 1 := by omega
   refine Sm.seq (Sm.seq ?_)
   refine ab hF rfl ?_
   refine gv hF oM ?_
   refine gv hF (aA rfl rfl rfl (by first | exact dD _ _ _ _ _ (by omega) | exact dO _ _ _ _ _ (by omega) | exact ep _ _ _ _ _ _ _)) ?_
   refine SmG.nil (ae ?_)
   refine cP hF rfl ?_
   refine Sm.skip ?_
   refine ae (Sm.seq (Sm.block ?_))
   refine iX hF (by kernel_rfl) rfl 15 (by kernel_rfl) (by kernel_rfl) ?_
   simp only [List.take_succ_cons, List.take_zero, List.take_nil]
   refine hv hF oM (hv hF oM ?_)
   refine hv hF (az rfl rfl rfl (by simp (disch := omega) only [go_sem, Nat.reduceEqDiff, aE, bi, aH, dX, hget, hw, hb1, hcast, aM] <;> rfl)) ?_
   refine hv hF (aZ rfl rfl (by simp (disch := omega) only [go_sem, Nat.reduceEqDiff, aE, bi, aH, dX, hget, hw, hb1, hcast, aM] <;> rfl)) ?_
   refine hv hF (aA rfl rfl rfl (y3 _ _ _ _ p _ hpl)) (hv hF oM (hv hF oM ?_))
   refine hv hF (aA rfl rfl rfl (by first | exact lO _ _ _ _ _ (bX _ (by omega)) | exact jM _ _ _ _ _ _ _)) ?_
   refine hv hF oM ?_
   refine hv hF (aA rfl rfl rfl (by first | exact iz _ _ _ _ _ (bX _ (by omega)) | exact cT _ _ _ _ _ _ _)) ?_
   refine hv hF (az rfl rfl rfl (by simp (disch := omega) only [go_sem, Nat.reduceEqDiff, aE, bi, aH, dX, hget, hw, hb1, hcast, aM] <;> rfl)) ?_
   refine hv hF (aZ rfl rfl (by simp (disch := omega) only [go_sem, Nat.reduceEqDiff, aE, bi, aH, dX, hget, hw, hb1, hcast, aM] <;> rfl)) ?_
   refine hv hF (lR rfl rfl (by first | exact ek rfl rfl (uw _ (by omega)) | (simp (disch := omega) only [go_sem, bi, aH, dX, hget, hw, hb1, hcast, aM] <;> rfl))) ?_
   refine hv hF (aA rfl rfl rfl (AU _ _ _ _ p c.toNat hpl hlb)) ?_
   refine hv hF (az rfl rfl rfl (by simp (disch := omega) only [go_sem, Nat.reduceEqDiff, aE, bi, aH, dX, hget, hw, hb1, hcast, aM] <;> rfl)) ?_
   refine aF.last ⟨rfl, ?_⟩
   simp only [List.drop_succ_cons, List.drop_zero, List.drop_nil, List.nil_append, List.cons_append]
   refine SmG.store hF rfl rfl rfl rfl rfl (by simp (disch := omega) only [go_sem, Nat.reduceEqDiff, aE, bi, aH, dX, hget, hw, hb1, hcast, aM] <;> rfl) ?_
   refine SmG.nil (ak (ae ?_))
   refine ab hF rfl ?_
   refine gv hF oM ?_
   refine gv hF (aA rfl rfl rfl (by first | exact iz _ _ _ _ _ (bX _ (by omega)) | exact cT _ _ _ _ _ _ _)) ?_
   refine gv hF oA (SmG.nil (ae ?_))
   exact ⟨⟨k + 1, by omega⟩, by show 4 - (k + 1) < 4 - k; omega, by exact cC (by first | (simp [leE, look, bf] <;> omega) | (simp [leE, look, bf, hst, e1] <;> omega)) (by simp only [leH, look, rep, reduceIte, Nat.reduceEqDiff, List.set_cons_zero, List.set_cons_succ, hst, e1, and_self, and_true, and_false, false_and, if_true, if_false] <;> (repeat' first | rfl | constructor)) (by first | exact Nat.le_refl _ | (dsimp only; omega))⟩
  ·obtain rfl : k = 4 := by omega
   refine Sm.seq (Sm.seq ?_)
   refine ab hF rfl ?_
   refine gv hF oM ?_
   refine gv hF (aA rfl rfl rfl (by first | exact dD _ _ _ _ _ (by omega) | exact dO _ _ _ _ _ (by omega) | exact ep _ _ _ _ _ _ _)) ?_
   refine SmG.nil (ae ?_)
   refine bq hF rfl ?_
   refine Sm.exit ?_
   simp only [cZ, gA, reduceIte, reduceCtorEq]
   refine ab hF rfl ?_
   refine gv hF oM ?_
   refine gv hF (aA rfl rfl rfl (by first | exact iz _ _ _ _ _ (bX _ (by omega)) | exact cT _ _ _ _ _ _ _)) ?_
   refine gv hF oA (SmG.nil (ae ?_))
   exact ⟨⟨t + 1, by omega⟩, by show 16 - (t + 1) < 16 - t; omega, by exact cC (by first | (simp [leE, look, bf] <;> omega) | (simp [leE, look, bf, show 4 * t + 4 = 4 * (t + 1) by omega] <;> omega)) (by simp only [leH, look, rep, reduceIte, Nat.reduceEqDiff, List.set_cons_zero, List.set_cons_succ, show 4 * t + 4 = 4 * (t + 1) by omega, and_self, and_true, and_false, false_and, if_true, if_false] <;> (repeat' first | rfl | constructor)) (by first | exact Nat.le_refl _ | (dsimp only; omega))⟩
 ·obtain rfl : t = 16 := by omega
  refine Sm.seq (Sm.seq ?_)
  refine ab hF rfl ?_
  refine gv hF oM ?_
  refine gv hF (aA rfl rfl rfl (by first | exact dD _ _ _ _ _ (by omega) | exact dO _ _ _ _ _ (by omega) | exact ep _ _ _ _ _ _ _)) ?_
  refine SmG.nil (ae ?_)
  refine bq hF rfl ?_
  refine Sm.exit ?_
  simp only [cZ, gA, reduceIte, reduceCtorEq]
  refine Sm.seq (Sm.seq ?_)
  refine ab hF rfl ?_
  refine gv hF oA (SmG.nil (ae (Sm.block ?_)))
  refine Sm.loop (ι := {t : Nat // 16 ≤ t ∧ t ≤ 64}) (fun t => ⟨[(0, .d (bi b)), (2, .ref 0 0 0), (3, .ref 1 0 0), (6, .d (.v (.int .i64 t.1)))], [(1, dW 64 (Sha.grown b t.1)), (0, dW 64 (List.replicate 64 0))], 2⟩) (fun t => 64 - t.1) (⟨16, by omega, by omega⟩) ?_ ?_
  ·refine cC (by simp [leE, look, bf]) ⟨?_, rfl, trivial⟩ (Nat.le_refl _)
   show _ = some (dW 64 (Sha.grown b 16))
   rw [← Sha.grown_first]; rfl
  rintro ⟨t, ht, ht2⟩
  simp only
  by_cases hlt : t < 64
  ·have hln := Sha.grown_length b t ht ht2
   have h1 := io (Sha.grown b t) (t - 16) (by omega)
   have h2 := io (Sha.grown b t) (t - 7) (by omega)
   have h3 := io (Sha.grown b t) (t - 15) (by omega)
   have h4 := io (Sha.grown b t) (t - 2) (by omega)
   have hset := Sha.grown_succ b t ht hlt
   have hst := rL (Sha.grown b t) t ((Sha.grown b t).getD (t - 16) 0 + (Sha.grown b t).getD (t - 7) 0 + Sha.low ((Sha.grown b t).getD (t - 15) 0) + Sha.high ((Sha.grown b t).getD (t - 2) 0))
   rw [← hset] at hst
   generalize (Sha.grown b t).getD (t - 16) 0 = x1 at h1 hst
   generalize (Sha.grown b t).getD (t - 7) 0 = x2 at h2 hst
   generalize (Sha.grown b t).getD (t - 15) 0 = y at h3 hst
   generalize (Sha.grown b t).getD (t - 2) 0 = z at h4 hst
   simp only [Sha.low, Sha.high] at hst
   have c1 : ((t : Int) - 16).toNat = t - 16 := by omega
   have c2 : ((t : Int) - 7).toNat = t - 7 := by omega
   have c3 : ((t : Int) - 15).toNat = t - 15 := by omega
   have c4 : ((t : Int) - 2).toNat = t - 2 := by omega
   refine Sm.seq (Sm.seq ?_)
   refine ab hF rfl ?_
   refine gv hF oM ?_
   refine gv hF (aA rfl rfl rfl (by first | exact dD _ _ _ _ _ (by omega) | exact dO _ _ _ _ _ (by omega) | exact ep _ _ _ _ _ _ _)) ?_
   refine SmG.nil (ae ?_)
   refine cP hF rfl ?_
   refine Sm.skip ?_
   refine ae (Sm.seq (Sm.block (Sm.seq ?_)))
   refine ab hF rfl ?_
   refine gv hF oM ?_
   refine gv hF (aA rfl rfl rfl (by first | exact mG _ _ _ _ _ (bX _ (by omega)) | exact ky _ _ _ _ _ _ _)) ?_
   refine gv hF (az rfl rfl rfl (by simp (disch := omega) only [go_sem, Nat.reduceEqDiff, aE, aM, h1, h2, h3, h4, c1, c2, c3, c4] <;> rfl)) ?_
   refine gv hF (aZ rfl rfl (by simp (disch := omega) only [go_sem, Nat.reduceEqDiff, aE, aM, h1, h2, h3, h4, c1, c2, c3, c4] <;> rfl)) ?_
   refine gv hF oA (SmG.nil (ae (Sm.seq ?_)))
   refine ab hF rfl ?_
   refine gv hF oM ?_
   refine gv hF (aA rfl rfl rfl (by first | exact mG _ _ _ _ _ (bX _ (by omega)) | exact ky _ _ _ _ _ _ _)) ?_
   refine gv hF (az rfl rfl rfl (by simp (disch := omega) only [go_sem, Nat.reduceEqDiff, aE, aM, h1, h2, h3, h4, c1, c2, c3, c4] <;> rfl)) ?_
   refine gv hF (aZ rfl rfl (by simp (disch := omega) only [go_sem, Nat.reduceEqDiff, aE, aM, h1, h2, h3, h4, c1, c2, c3, c4] <;> rfl)) ?_
   refine gv hF oA (SmG.nil (ae ?_))
   refine iX hF (by kernel_rfl) rfl 29 (by kernel_rfl) (by kernel_rfl) ?_
   simp only [List.take_succ_cons, List.take_zero, List.take_nil]
   refine hv hF oM (hv hF oM ?_)
   refine hv hF (aA rfl rfl rfl (by first | exact mG _ _ _ _ _ (bX _ (by omega)) | exact ky _ _ _ _ _ _ _)) ?_
   refine hv hF (az rfl rfl rfl (by simp (disch := omega) only [go_sem, Nat.reduceEqDiff, aE, aM, h1, h2, h3, h4, c1, c2, c3, c4] <;> rfl)) ?_
   refine hv hF (aZ rfl rfl (by simp (disch := omega) only [go_sem, Nat.reduceEqDiff, aE, aM, h1, h2, h3, h4, c1, c2, c3, c4] <;> rfl)) ?_
   refine hv hF oM ?_
   refine hv hF (aA rfl rfl rfl (by first | exact mG _ _ _ _ _ (bX _ (by omega)) | exact ky _ _ _ _ _ _ _)) ?_
   refine hv hF (az rfl rfl rfl (by simp (disch := omega) only [go_sem, Nat.reduceEqDiff, aE, aM, h1, h2, h3, h4, c1, c2, c3, c4] <;> rfl)) ?_
   refine hv hF (aZ rfl rfl (by simp (disch := omega) only [go_sem, Nat.reduceEqDiff, aE, aM, h1, h2, h3, h4, c1, c2, c3, c4] <;> rfl)) ?_
   refine hv hF (aA rfl rfl rfl (by first | exact iU _ _ _ _ _ _ | exact cT _ _ _ _ _ _ _)) ?_
   refine hv hF oM ?_
   refine aF.c hF rfl rfl (by kernel_rfl) rfl rfl rfl (jc 7 y rfl (by omega) G) ?_
   refine hv hF oM ?_
   refine aF.c hF rfl rfl (by kernel_rfl) rfl rfl rfl (jc 18 y rfl (by omega) G) ?_
   refine hv hF (aA rfl rfl rfl (by first | exact iS _ _ _ _ _ _ | exact iw _ _ _ _ _ _ _)) ?_
   refine hv hF oM ?_
   refine hv hF (aA rfl rfl rfl (sO _ _ _ _ 3 _ rfl (by omega) y)) ?_
   refine hv hF (aA rfl rfl rfl (by first | exact iS _ _ _ _ _ _ | exact iw _ _ _ _ _ _ _)) ?_
   refine hv hF (aA rfl rfl rfl (by first | exact iU _ _ _ _ _ _ | exact cT _ _ _ _ _ _ _)) ?_
   refine hv hF oM ?_
   refine aF.c hF rfl rfl (by kernel_rfl) rfl rfl rfl (jc 17 z rfl (by omega) G) ?_
   refine hv hF oM ?_
   refine aF.c hF rfl rfl (by kernel_rfl) rfl rfl rfl (jc 19 z rfl (by omega) G) ?_
   refine hv hF (aA rfl rfl rfl (by first | exact iS _ _ _ _ _ _ | exact iw _ _ _ _ _ _ _)) ?_
   refine hv hF oM ?_
   refine hv hF (aA rfl rfl rfl (sO _ _ _ _ 10 _ rfl (by omega) z)) ?_
   refine hv hF (aA rfl rfl rfl (by first | exact iS _ _ _ _ _ _ | exact iw _ _ _ _ _ _ _)) ?_
   refine hv hF (aA rfl rfl rfl (by first | exact iU _ _ _ _ _ _ | exact cT _ _ _ _ _ _ _)) ?_
   refine hv hF (az rfl rfl rfl (by simp (disch := omega) only [go_sem, Nat.reduceEqDiff, aE, aM, h1, h2, h3, h4, c1, c2, c3, c4] <;> rfl)) ?_
   refine aF.last ⟨rfl, ?_⟩
   simp only [List.drop_succ_cons, List.drop_zero, List.drop_nil, List.nil_append, List.cons_append]
   refine SmG.store hF rfl rfl rfl rfl rfl (by simp (disch := omega) only [go_sem, Nat.reduceEqDiff, aE, aM, h1, h2, h3, h4, c1, c2, c3, c4] <;> rfl) ?_
   refine SmG.nil (ak (ae ?_))
   refine ab hF rfl ?_
   refine gv hF oM ?_
   refine gv hF (aA rfl rfl rfl (by first | exact iz _ _ _ _ _ (bX _ (by omega)) | exact cT _ _ _ _ _ _ _)) ?_
   refine gv hF oA (SmG.nil (ae ?_))
   exact ⟨⟨t + 1, by omega, by omega⟩, by show 64 - (t + 1) < 64 - t; omega, by exact cC (by first | (simp [leE, look, bf] <;> omega) | (simp [leE, look, bf, hst] <;> omega)) (by simp only [leH, look, rep, reduceIte, Nat.reduceEqDiff, List.set_cons_zero, List.set_cons_succ, hst, and_self, and_true, and_false, false_and, if_true, if_false] <;> (repeat' first | rfl | constructor)) (by first | exact Nat.le_refl _ | (dsimp only; omega))⟩
  ·obtain rfl : t = 64 := by omega
   have hln := Sha.grown_length b 64 ht ht2
   have hll : (List.map aM (Sha.grown b 64)).length = 64 := by rw [List.length_map, hln]
   refine Sm.seq (Sm.seq ?_)
   refine ab hF rfl ?_
   refine gv hF oM ?_
   refine gv hF (aA rfl rfl rfl (by first | exact dD _ _ _ _ _ (by omega) | exact dO _ _ _ _ _ (by omega) | exact ep _ _ _ _ _ _ _)) ?_
   refine SmG.nil (ae ?_)
   refine bq hF rfl ?_
   refine Sm.exit ?_
   simp only [cZ, gA, reduceIte, reduceCtorEq]
   refine Sm.seq ?_
   refine ab hF rfl ?_
   refine gv hF (aZ rfl rfl (by simp (disch := omega) only [go_sem, Nat.reduceEqDiff, aE, aM] <;> rfl)) ?_
   refine SmG.store hF rfl rfl rfl rfl rfl (by simp (disch := omega) only [go_sem, Nat.reduceEqDiff, aE, aM] <;> rfl) ?_
   refine SmG.nil (ae (Sm.ret ?_))
   refine il rfl rfl (by simp (disch := omega) only [go_sem, Nat.reduceEqDiff, aE, hll] <;> rfl) ?_
   rw [Sha.grown_last]; exact D.le.refl _
end
section
open Go.RowKit
set_option maxRecDepth 100000
def ji (c s : List UInt32) (i : Nat) : List UInt32 := (List.zipWith (· + ·) c s).take i ++ c.drop i
theorem qG (c s : List UInt32) : ji c s 0 = c := by simp [ji]
theorem wQ (c s : List UInt32) (i : Nat) (hl : c.length = s.length) (hi : i < c.length) : (ji c s i)[i]? = some (c.getD i 0) := by
 unfold ji
 have : ((List.zipWith (· + ·) c s).take i).length = i := by simp [hl]; omega
 rw [List.getElem?_append_right (by omega), this, Nat.sub_self, List.getElem?_drop]
 simp [List.getD, hi]
theorem ws (c s : List UInt32) (i : Nat) (hl : c.length = s.length) (hi : i < c.length) : (ji c s i).set i (c.getD i 0 + s.getD i 0) = ji c s (i + 1) := by
 unfold ji
 have h1 : ((List.zipWith (· + ·) c s).take i).length = i := by simp [hl]; omega
 rw [List.set_append_right _ _ (by omega), h1, Nat.sub_self, List.drop_eq_getElem_cons hi, List.set_cons_zero, List.take_succ_eq_append_getElem (by simp; omega)]
 simp [List.getD, hi, show i < s.length by omega]
theorem wR (c s : List UInt32) (hl : c.length = s.length) : ji c s c.length = List.zipWith (· + ·) c s := by
 unfold ji
 rw [List.take_of_length_le (by simp; omega), List.drop_length, List.append_nil]
theorem ue (w : List UInt32) (s : Sha.S8) (n : Nat) : Sha.rounds w s (n + 1) = Sha.round (Sha.rounds w s n) (Sha.keys64.getD n 0) (w.getD n 0) := rfl
theorem ug (a0 a1 a2 a3 a4 a5 a6 a7 : Int) : fm Tryd.prog 139 [(0, V.d (.v (.int .u32 a0))), (1, V.d (.v (.int .u32 a1))), (2, V.d (.v (.int .u32 a2))), (3, V.d (.v (.int .u32 a3))), (4, V.d (.v (.int .u32 a4))), (5, V.d (.v (.int .u32 a5))), (6, V.d (.v (.int .u32 a6))), (7, V.d (.v (.int .u32 a7)))] = some (.d (.agg 8 [.v (.int .u32 a0), .v (.int .u32 a1), .v (.int .u32 a2), .v (.int .u32 a3), .v (.int .u32 a4), .v (.int .u32 a5), .v (.int .u32 a6), .v (.int .u32 a7)])) := by kernel_rfl
set_option maxHeartbeats 4000000 in
theorem AQ (S : Sha.S8) (b : List UInt8) (hb : b.length = 64) (G : Nat → Option D) : aj Tryd.prog G 78 [.agg 8 (S.list.map aM), bi b] (.agg 8 ((Sha.after S b).list.map aM)) := by
 have hkeys := AH G
 have hks := ue (Sha.spread b) S
 have hkl : Sha.keys64.length = 64 := by decide
 have haf : Sha.after S b = Sha.plus S (Sha.rounds (Sha.spread b) S 64) := rfl
 generalize Sha.keys64 = K at hkeys hks hkl
 have hwl : (Sha.spread b).length = 64 := by rw [← Sha.grown_last, Sha.grown_length b 64 (by omega) (by omega)]
 have hSl : S.list.length = 8 := rfl
 have hKl : (List.map aM K).length = 64 := by rw [List.length_map, hkl]
 have hWl : (List.map aM (Sha.spread b)).length = 64 := by rw [List.length_map, hwl]
 have hSS : (List.map aM S.list).length = 8 := by rw [List.length_map, hSl]
 refine aj.of Tryd.func78 rfl Tryd.ntmps78 (by simp) ?_; intro F hF h0 hT; simp only [List.zipIdx_cons, List.zipIdx_nil, List.map_cons, List.map_nil, Nat.zero_add, Nat.reduceAdd]
 refine Sm.seq ?_
 refine ab hF rfl ?_
 refine SmG.new hF rfl rfl rfl (mR rfl rfl (by simp (disch := omega) only [go_sem, Nat.reduceEqDiff, aE, aM] <;> rfl)) ?_
 refine SmG.new hF rfl rfl rfl (aO rfl sd) ?_
 refine SmG.nil (ae (Sm.seq ?_))
 refine ab hF rfl ?_
 refine gv hF oM ?_
 refine SmG.call hF rfl rfl (by kernel_rfl) rfl rfl rfl (ym b hb G) ?_
 refine SmG.new hF rfl rfl rfl (aO rfl qI) ?_
 refine SmG.store hF rfl rfl rfl rfl rfl (by simp (disch := omega) only [go_sem, Nat.reduceEqDiff, aE, aM] <;> rfl) ?_
 refine SmG.nil (ae (Sm.seq ?_))
 refine ab hF rfl ?_
 refine SmG.call hF rfl rfl (by kernel_rfl) rfl rfl rfl (hkeys) ?_
 refine SmG.new hF rfl rfl rfl (aO rfl qI) ?_
 refine SmG.store hF rfl rfl rfl rfl rfl (by simp (disch := omega) only [go_sem, Nat.reduceEqDiff, aE, aM] <;> rfl) ?_
 refine SmG.nil (ae (Sm.seq ?_))
 refine ab hF rfl ?_
 refine gv hF (aZ rfl rfl (by simp (disch := omega) only [go_sem, Nat.reduceEqDiff, aE, aM] <;> rfl)) ?_
 refine SmG.new hF rfl rfl rfl (aO rfl sd) ?_
 refine SmG.store hF rfl rfl rfl rfl rfl (by simp (disch := omega) only [go_sem, Nat.reduceEqDiff, aE, aM] <;> rfl) ?_
 refine SmG.nil (ae (Sm.seq (Sm.seq ?_)))
 refine ab hF rfl ?_
 refine gv hF oA (SmG.nil (ae (Sm.block ?_)))
 generalize hW : Sha.spread b = W at hks haf hwl hWl ⊢
 refine Sm.loop (ι := {t : Nat // t ≤ 64}) (fun t => ⟨[(2, .ref 0 0 0), (4, .ref 1 0 0), (5, .ref 2 0 0), (6, .ref 3 0 0), (7, .ref 4 0 0), (8, .d (.v (.int .i64 t.1)))], [(4, dW 8 (Sha.rounds W S t.1).list), (3, dW 64 K), (2, dW 64 W), (1, dW 8 (List.replicate 8 0)), (0, dW 8 S.list)], 5⟩) (fun t => 64 - t.1) (⟨0, by omega⟩) ?_ ?_
 ·exact cC (by first | (simp [leE, look, bf] <;> omega) | (simp [leE, look, bf, true_and] <;> omega)) (by simp only [leH, look, rep, reduceIte, Nat.reduceEqDiff, List.set_cons_zero, List.set_cons_succ, true_and, and_self, and_true, and_false, false_and, if_true, if_false] <;> (repeat' first | rfl | constructor)) (by first | exact Nat.le_refl _ | (dsimp only; omega))
 rintro ⟨t, ht⟩
 simp only
 by_cases hlt : t < 64
 ·have hk1 := io K t (by omega)
  have hw1 := io W t (by omega)
  have hs := hks t
  generalize K.getD t 0 = k at hk1 hs
  generalize W.getD t 0 = x at hw1 hs
  generalize Sha.rounds W S t = c at hs ⊢
  rcases c with ⟨a, b1, c, d, e, f, g, h⟩
  have hrow : (Sha.rounds W S (t + 1)).list = [Sha.tx ⟨a, b1, c, d, e, f, g, h⟩ k x + Sha.ty ⟨a, b1, c, d, e, f, g, h⟩, a, b1, c, d + Sha.tx ⟨a, b1, c, d, e, f, g, h⟩ k x, e, f, g] := by rw [hs]; rfl
  simp only [Sha.tx, Sha.ty, Sha.rot3] at hrow
  rw [show Sha.S8.list ⟨a, b1, c, d, e, f, g, h⟩ = [a, b1, c, d, e, f, g, h] from rfl]
  refine Sm.seq (Sm.seq ?_)
  refine ab hF rfl ?_
  refine gv hF oM ?_
  refine gv hF (aA rfl rfl rfl (by first | exact dD _ _ _ _ _ (by omega) | exact dO _ _ _ _ _ (by omega) | exact ep _ _ _ _ _ _ _)) ?_
  refine SmG.nil (ae ?_)
  refine cP hF rfl ?_
  refine Sm.skip ?_
  refine ae (Sm.seq (Sm.block (Sm.seq ?_)))
  refine iX hF (by kernel_rfl) rfl 36 (by kernel_rfl) (by kernel_rfl) ?_
  simp only [List.take_succ_cons, List.take_zero, List.take_nil]
  refine hv hF (az rfl rfl rfl (by simp (disch := omega) only [go_sem, Nat.reduceEqDiff, aE, aM, hk1, hw1, hkl, hwl] <;> rfl)) ?_
  refine hv hF (aZ rfl rfl (by simp (disch := omega) only [go_sem, Nat.reduceEqDiff, aE, aM, hk1, hw1, hkl, hwl] <;> rfl)) ?_
  refine hv hF (az rfl rfl rfl (by simp (disch := omega) only [go_sem, Nat.reduceEqDiff, aE, aM, hk1, hw1, hkl, hwl] <;> rfl)) ?_
  refine hv hF (aZ rfl rfl (by simp (disch := omega) only [go_sem, Nat.reduceEqDiff, aE, aM, hk1, hw1, hkl, hwl] <;> rfl)) ?_
  refine aF.c hF rfl rfl (by kernel_rfl) rfl rfl rfl (jc 6 e rfl (by omega) G) ?_
  refine hv hF (az rfl rfl rfl (by simp (disch := omega) only [go_sem, Nat.reduceEqDiff, aE, aM, hk1, hw1, hkl, hwl] <;> rfl)) ?_
  refine hv hF (aZ rfl rfl (by simp (disch := omega) only [go_sem, Nat.reduceEqDiff, aE, aM, hk1, hw1, hkl, hwl] <;> rfl)) ?_
  refine aF.c hF rfl rfl (by kernel_rfl) rfl rfl rfl (jc 11 e rfl (by omega) G) ?_
  refine hv hF (aA rfl rfl rfl (by first | exact iS _ _ _ _ _ _ | exact iw _ _ _ _ _ _ _)) ?_
  refine hv hF (az rfl rfl rfl (by simp (disch := omega) only [go_sem, Nat.reduceEqDiff, aE, aM, hk1, hw1, hkl, hwl] <;> rfl)) ?_
  refine hv hF (aZ rfl rfl (by simp (disch := omega) only [go_sem, Nat.reduceEqDiff, aE, aM, hk1, hw1, hkl, hwl] <;> rfl)) ?_
  refine aF.c hF rfl rfl (by kernel_rfl) rfl rfl rfl (jc 25 e rfl (by omega) G) ?_
  refine hv hF (aA rfl rfl rfl (by first | exact iS _ _ _ _ _ _ | exact iw _ _ _ _ _ _ _)) ?_
  refine hv hF (aA rfl rfl rfl (by first | exact iU _ _ _ _ _ _ | exact cT _ _ _ _ _ _ _)) ?_
  refine hv hF (az rfl rfl rfl (by simp (disch := omega) only [go_sem, Nat.reduceEqDiff, aE, aM, hk1, hw1, hkl, hwl] <;> rfl)) ?_
  refine hv hF (aZ rfl rfl (by simp (disch := omega) only [go_sem, Nat.reduceEqDiff, aE, aM, hk1, hw1, hkl, hwl] <;> rfl)) ?_
  refine hv hF (az rfl rfl rfl (by simp (disch := omega) only [go_sem, Nat.reduceEqDiff, aE, aM, hk1, hw1, hkl, hwl] <;> rfl)) ?_
  refine hv hF (aZ rfl rfl (by simp (disch := omega) only [go_sem, Nat.reduceEqDiff, aE, aM, hk1, hw1, hkl, hwl] <;> rfl)) ?_
  refine hv hF (aA rfl rfl rfl (by first | exact ou _ _ _ _ _ _ | exact lG _ _ _ _ _ _ _)) ?_
  refine hv hF (az rfl rfl rfl (by simp (disch := omega) only [go_sem, Nat.reduceEqDiff, aE, aM, hk1, hw1, hkl, hwl] <;> rfl)) ?_
  refine hv hF (aZ rfl rfl (by simp (disch := omega) only [go_sem, Nat.reduceEqDiff, aE, aM, hk1, hw1, hkl, hwl] <;> rfl)) ?_
  refine hv hF (jF rfl rfl (zU _ _)) ?_
  refine hv hF (az rfl rfl rfl (by simp (disch := omega) only [go_sem, Nat.reduceEqDiff, aE, aM, hk1, hw1, hkl, hwl] <;> rfl)) ?_
  refine hv hF (aZ rfl rfl (by simp (disch := omega) only [go_sem, Nat.reduceEqDiff, aE, aM, hk1, hw1, hkl, hwl] <;> rfl)) ?_
  refine hv hF (aA rfl rfl rfl (by first | exact ou _ _ _ _ _ _ | exact lG _ _ _ _ _ _ _)) ?_
  refine hv hF (aA rfl rfl rfl (by first | exact iS _ _ _ _ _ _ | exact iw _ _ _ _ _ _ _)) ?_
  refine hv hF (aA rfl rfl rfl (by first | exact iU _ _ _ _ _ _ | exact cT _ _ _ _ _ _ _)) ?_
  refine hv hF oM ?_
  refine hv hF (az rfl rfl rfl (by simp (disch := omega) only [go_sem, Nat.reduceEqDiff, aE, aM, hk1, hw1, hkl, hwl] <;> rfl)) ?_
  refine hv hF (aZ rfl rfl (by simp (disch := omega) only [go_sem, Nat.reduceEqDiff, aE, aM, hk1, hw1, hkl, hwl] <;> rfl)) ?_
  refine hv hF (aA rfl rfl rfl (by first | exact iU _ _ _ _ _ _ | exact cT _ _ _ _ _ _ _)) ?_
  refine hv hF oM ?_
  refine hv hF (az rfl rfl rfl (by simp (disch := omega) only [go_sem, Nat.reduceEqDiff, aE, aM, hk1, hw1, hkl, hwl] <;> rfl)) ?_
  refine hv hF (aZ rfl rfl (by simp (disch := omega) only [go_sem, Nat.reduceEqDiff, aE, aM, hk1, hw1, hkl, hwl] <;> rfl)) ?_
  refine hv hF (aA rfl rfl rfl (by first | exact iU _ _ _ _ _ _ | exact cT _ _ _ _ _ _ _)) ?_
  refine hv hF oA ?_
  refine aF.last ⟨rfl, ?_⟩
  simp only [List.drop_succ_cons, List.drop_zero, List.drop_nil, List.nil_append, List.cons_append]
  refine SmG.nil (ae (Sm.seq ?_))
  refine iX hF (by kernel_rfl) rfl 30 (by kernel_rfl) (by kernel_rfl) ?_
  simp only [List.take_succ_cons, List.take_zero, List.take_nil]
  refine hv hF (az rfl rfl rfl (by simp (disch := omega) only [go_sem, Nat.reduceEqDiff, aE, aM, hk1, hw1, hkl, hwl] <;> rfl)) ?_
  refine hv hF (aZ rfl rfl (by simp (disch := omega) only [go_sem, Nat.reduceEqDiff, aE, aM, hk1, hw1, hkl, hwl] <;> rfl)) ?_
  refine aF.c hF rfl rfl (by kernel_rfl) rfl rfl rfl (jc 2 a rfl (by omega) G) ?_
  refine hv hF (az rfl rfl rfl (by simp (disch := omega) only [go_sem, Nat.reduceEqDiff, aE, aM, hk1, hw1, hkl, hwl] <;> rfl)) ?_
  refine hv hF (aZ rfl rfl (by simp (disch := omega) only [go_sem, Nat.reduceEqDiff, aE, aM, hk1, hw1, hkl, hwl] <;> rfl)) ?_
  refine aF.c hF rfl rfl (by kernel_rfl) rfl rfl rfl (jc 13 a rfl (by omega) G) ?_
  refine hv hF (aA rfl rfl rfl (by first | exact iS _ _ _ _ _ _ | exact iw _ _ _ _ _ _ _)) ?_
  refine hv hF (az rfl rfl rfl (by simp (disch := omega) only [go_sem, Nat.reduceEqDiff, aE, aM, hk1, hw1, hkl, hwl] <;> rfl)) ?_
  refine hv hF (aZ rfl rfl (by simp (disch := omega) only [go_sem, Nat.reduceEqDiff, aE, aM, hk1, hw1, hkl, hwl] <;> rfl)) ?_
  refine aF.c hF rfl rfl (by kernel_rfl) rfl rfl rfl (jc 22 a rfl (by omega) G) ?_
  refine hv hF (aA rfl rfl rfl (by first | exact iS _ _ _ _ _ _ | exact iw _ _ _ _ _ _ _)) ?_
  refine hv hF (az rfl rfl rfl (by simp (disch := omega) only [go_sem, Nat.reduceEqDiff, aE, aM, hk1, hw1, hkl, hwl] <;> rfl)) ?_
  refine hv hF (aZ rfl rfl (by simp (disch := omega) only [go_sem, Nat.reduceEqDiff, aE, aM, hk1, hw1, hkl, hwl] <;> rfl)) ?_
  refine hv hF (az rfl rfl rfl (by simp (disch := omega) only [go_sem, Nat.reduceEqDiff, aE, aM, hk1, hw1, hkl, hwl] <;> rfl)) ?_
  refine hv hF (aZ rfl rfl (by simp (disch := omega) only [go_sem, Nat.reduceEqDiff, aE, aM, hk1, hw1, hkl, hwl] <;> rfl)) ?_
  refine hv hF (aA rfl rfl rfl (by first | exact ou _ _ _ _ _ _ | exact lG _ _ _ _ _ _ _)) ?_
  refine hv hF (az rfl rfl rfl (by simp (disch := omega) only [go_sem, Nat.reduceEqDiff, aE, aM, hk1, hw1, hkl, hwl] <;> rfl)) ?_
  refine hv hF (aZ rfl rfl (by simp (disch := omega) only [go_sem, Nat.reduceEqDiff, aE, aM, hk1, hw1, hkl, hwl] <;> rfl)) ?_
  refine hv hF (az rfl rfl rfl (by simp (disch := omega) only [go_sem, Nat.reduceEqDiff, aE, aM, hk1, hw1, hkl, hwl] <;> rfl)) ?_
  refine hv hF (aZ rfl rfl (by simp (disch := omega) only [go_sem, Nat.reduceEqDiff, aE, aM, hk1, hw1, hkl, hwl] <;> rfl)) ?_
  refine hv hF (aA rfl rfl rfl (by first | exact ou _ _ _ _ _ _ | exact lG _ _ _ _ _ _ _)) ?_
  refine hv hF (aA rfl rfl rfl (by first | exact iS _ _ _ _ _ _ | exact iw _ _ _ _ _ _ _)) ?_
  refine hv hF (az rfl rfl rfl (by simp (disch := omega) only [go_sem, Nat.reduceEqDiff, aE, aM, hk1, hw1, hkl, hwl] <;> rfl)) ?_
  refine hv hF (aZ rfl rfl (by simp (disch := omega) only [go_sem, Nat.reduceEqDiff, aE, aM, hk1, hw1, hkl, hwl] <;> rfl)) ?_
  refine hv hF (az rfl rfl rfl (by simp (disch := omega) only [go_sem, Nat.reduceEqDiff, aE, aM, hk1, hw1, hkl, hwl] <;> rfl)) ?_
  refine hv hF (aZ rfl rfl (by simp (disch := omega) only [go_sem, Nat.reduceEqDiff, aE, aM, hk1, hw1, hkl, hwl] <;> rfl)) ?_
  refine hv hF (aA rfl rfl rfl (by first | exact ou _ _ _ _ _ _ | exact lG _ _ _ _ _ _ _)) ?_
  refine hv hF (aA rfl rfl rfl (by first | exact iS _ _ _ _ _ _ | exact iw _ _ _ _ _ _ _)) ?_
  refine hv hF (aA rfl rfl rfl (by first | exact iU _ _ _ _ _ _ | exact cT _ _ _ _ _ _ _)) ?_
  refine hv hF oA ?_
  refine aF.last ⟨rfl, ?_⟩
  simp only [List.drop_succ_cons, List.drop_zero, List.drop_nil, List.nil_append, List.cons_append]
  refine SmG.nil (ae ?_)
  refine ab hF rfl ?_
  refine gv hF oM (gv hF oM ?_)
  refine gv hF (aA rfl rfl rfl (by first | exact iU _ _ _ _ _ _ | exact cT _ _ _ _ _ _ _)) ?_
  refine gv hF (az rfl rfl rfl (by simp (disch := omega) only [go_sem, Nat.reduceEqDiff, aE, aM, hk1, hw1, hkl, hwl] <;> rfl)) ?_
  refine gv hF (aZ rfl rfl (by simp (disch := omega) only [go_sem, Nat.reduceEqDiff, aE, aM, hk1, hw1, hkl, hwl] <;> rfl)) ?_
  refine gv hF (az rfl rfl rfl (by simp (disch := omega) only [go_sem, Nat.reduceEqDiff, aE, aM, hk1, hw1, hkl, hwl] <;> rfl)) ?_
  refine gv hF (aZ rfl rfl (by simp (disch := omega) only [go_sem, Nat.reduceEqDiff, aE, aM, hk1, hw1, hkl, hwl] <;> rfl)) ?_
  refine gv hF (az rfl rfl rfl (by simp (disch := omega) only [go_sem, Nat.reduceEqDiff, aE, aM, hk1, hw1, hkl, hwl] <;> rfl)) ?_
  refine gv hF (aZ rfl rfl (by simp (disch := omega) only [go_sem, Nat.reduceEqDiff, aE, aM, hk1, hw1, hkl, hwl] <;> rfl)) ?_
  refine gv hF (az rfl rfl rfl (by simp (disch := omega) only [go_sem, Nat.reduceEqDiff, aE, aM, hk1, hw1, hkl, hwl] <;> rfl)) ?_
  refine gv hF (aZ rfl rfl (by simp (disch := omega) only [go_sem, Nat.reduceEqDiff, aE, aM, hk1, hw1, hkl, hwl] <;> rfl)) ?_
  refine gv hF oM ?_
  refine gv hF (aA rfl rfl rfl (by first | exact iU _ _ _ _ _ _ | exact cT _ _ _ _ _ _ _)) ?_
  refine gv hF (az rfl rfl rfl (by simp (disch := omega) only [go_sem, Nat.reduceEqDiff, aE, aM, hk1, hw1, hkl, hwl] <;> rfl)) ?_
  refine gv hF (aZ rfl rfl (by simp (disch := omega) only [go_sem, Nat.reduceEqDiff, aE, aM, hk1, hw1, hkl, hwl] <;> rfl)) ?_
  refine gv hF (az rfl rfl rfl (by simp (disch := omega) only [go_sem, Nat.reduceEqDiff, aE, aM, hk1, hw1, hkl, hwl] <;> rfl)) ?_
  refine gv hF (aZ rfl rfl (by simp (disch := omega) only [go_sem, Nat.reduceEqDiff, aE, aM, hk1, hw1, hkl, hwl] <;> rfl)) ?_
  refine gv hF (az rfl rfl rfl (by simp (disch := omega) only [go_sem, Nat.reduceEqDiff, aE, aM, hk1, hw1, hkl, hwl] <;> rfl)) ?_
  refine gv hF (aZ rfl rfl (by simp (disch := omega) only [go_sem, Nat.reduceEqDiff, aE, aM, hk1, hw1, hkl, hwl] <;> rfl)) ?_
  refine gv hF (iq rfl Tryd.underlying139 rfl (ug _ _ _ _ _ _ _ _)) ?_
  refine SmG.store hF rfl rfl rfl rfl rfl (by simp (disch := omega) only [go_sem, Nat.reduceEqDiff, aE, aM, hk1, hw1, hkl, hwl] <;> rfl) ?_
  refine SmG.nil (ak (ae ?_))
  refine ab hF rfl ?_
  refine gv hF oM ?_
  refine gv hF (aA rfl rfl rfl (by first | exact iz _ _ _ _ _ (bX _ (by omega)) | exact cT _ _ _ _ _ _ _)) ?_
  refine gv hF oA (SmG.nil (ae ?_))
  exact ⟨⟨t + 1, by omega⟩, by show 64 - (t + 1) < 64 - t; omega, by exact cC (by first | (simp [leE, look, bf] <;> omega) | (simp [leE, look, bf, hrow, List.map_cons, List.map_nil] <;> omega)) (by simp only [leH, look, rep, reduceIte, Nat.reduceEqDiff, List.set_cons_zero, List.set_cons_succ, hrow, List.map_cons, List.map_nil, and_self, and_true, and_false, false_and, if_true, if_false] <;> (repeat' first | rfl | constructor)) (by first | exact Nat.le_refl _ | (dsimp only; omega))⟩
 ·obtain rfl : t = 64 := by omega
  have hcl : (Sha.rounds W S 64).list.length = 8 := rfl
  have hpl : (Sha.after S b).list = List.zipWith (· + ·) (Sha.rounds W S 64).list S.list := by rw [haf]; rfl
  generalize (Sha.rounds W S 64).list = C at hcl hpl ⊢
  generalize S.list = L at hSl hpl hSS ⊢
  refine Sm.seq (Sm.seq ?_)
  refine ab hF rfl ?_
  refine gv hF oM ?_
  refine gv hF (aA rfl rfl rfl (by first | exact dD _ _ _ _ _ (by omega) | exact dO _ _ _ _ _ (by omega) | exact ep _ _ _ _ _ _ _)) ?_
  refine SmG.nil (ae ?_)
  refine bq hF rfl ?_
  refine Sm.exit ?_
  simp only [cZ, gA, reduceIte, reduceCtorEq]
  refine Sm.seq (Sm.seq ?_)
  refine ab hF rfl ?_
  refine gv hF oA (SmG.nil (ae (Sm.block ?_)))
  refine Sm.loop (ι := {i : Nat // i ≤ 8}) (fun i => ⟨[(2, .ref 0 0 0), (4, .ref 1 0 0), (7, .ref 4 0 0), (11, .d (.v (.int .i64 i.1)))], [(4, dW 8 (ji C L i.1)), (1, dW 8 (List.replicate 8 0)), (0, dW 8 L)], 5⟩) (fun i => 8 - i.1) (⟨0, by omega⟩) ?_ ?_
  ·exact cC (by first | (simp [leE, look, bf] <;> omega) | (simp [leE, look, bf, qG] <;> omega)) (by simp only [leH, look, rep, reduceIte, Nat.reduceEqDiff, List.set_cons_zero, List.set_cons_succ, qG, and_self, and_true, and_false, false_and, if_true, if_false] <;> (repeat' first | rfl | constructor)) (by first | exact Nat.le_refl _ | (dsimp only; omega))
  rintro ⟨i, hi⟩
  simp only
  by_cases hlt : i < 8
  ·have h1 := wQ C L i (by omega) (by omega)
   have h2 := io L i (by omega)
   have hst := rL (ji C L i) i (C.getD i 0 + L.getD i 0)
   rw [ws C L i (by omega) (by omega)] at hst
   generalize C.getD i 0 = x at h1 hst
   generalize L.getD i 0 = y at h2 hst
   refine Sm.seq (Sm.seq ?_)
   refine ab hF rfl ?_
   refine gv hF oM ?_
   refine gv hF (aA rfl rfl rfl (by first | exact dD _ _ _ _ _ (by omega) | exact dO _ _ _ _ _ (by omega) | exact ep _ _ _ _ _ _ _)) ?_
   refine SmG.nil (ae ?_)
   refine cP hF rfl ?_
   refine Sm.skip ?_
   refine ae (Sm.seq (Sm.block ?_))
   refine iX hF (by kernel_rfl) rfl 8 (by kernel_rfl) (by kernel_rfl) ?_
   simp only [List.take_succ_cons, List.take_zero, List.take_nil]
   refine hv hF oM ?_
   refine hv hF (az rfl rfl rfl (by simp (disch := omega) only [go_sem, Nat.reduceEqDiff, aE, aM, h1, h2] <;> rfl)) ?_
   refine hv hF (aZ rfl rfl (by simp (disch := omega) only [go_sem, Nat.reduceEqDiff, aE, aM, h1, h2] <;> rfl)) ?_
   refine hv hF oM ?_
   refine hv hF (az rfl rfl rfl (by simp (disch := omega) only [go_sem, Nat.reduceEqDiff, aE, aM, h1, h2] <;> rfl)) ?_
   refine hv hF (aZ rfl rfl (by simp (disch := omega) only [go_sem, Nat.reduceEqDiff, aE, aM, h1, h2] <;> rfl)) ?_
   refine hv hF (aA rfl rfl rfl (by first | exact iU _ _ _ _ _ _ | exact cT _ _ _ _ _ _ _)) ?_
   refine hv hF (az rfl rfl rfl (by simp (disch := omega) only [go_sem, Nat.reduceEqDiff, aE, aM, h1, h2] <;> rfl)) ?_
   refine aF.last ⟨rfl, ?_⟩
   simp only [List.drop_succ_cons, List.drop_zero, List.drop_nil, List.nil_append, List.cons_append]
   refine SmG.store hF rfl rfl rfl rfl rfl (by simp (disch := omega) only [go_sem, Nat.reduceEqDiff, aE, aM, h1, h2] <;> rfl) ?_
   refine SmG.nil (ak (ae ?_))
   refine ab hF rfl ?_
   refine gv hF oM ?_
   refine gv hF (aA rfl rfl rfl (by first | exact iz _ _ _ _ _ (bX _ (by omega)) | exact cT _ _ _ _ _ _ _)) ?_
   refine gv hF oA (SmG.nil (ae ?_))
   exact ⟨⟨i + 1, by omega⟩, by show 8 - (i + 1) < 8 - i; omega, by exact cC (by first | (simp [leE, look, bf] <;> omega) | (simp [leE, look, bf, hst] <;> omega)) (by simp only [leH, look, rep, reduceIte, Nat.reduceEqDiff, List.set_cons_zero, List.set_cons_succ, hst, and_self, and_true, and_false, false_and, if_true, if_false] <;> (repeat' first | rfl | constructor)) (by first | exact Nat.le_refl _ | (dsimp only; omega))⟩
  ·obtain rfl : i = 8 := by omega
   have hall := wR C L (by omega)
   rw [hcl] at hall
   have hll : (List.map aM (ji C L 8)).length = 8 := by rw [hall]; simp [hcl, hSl]
   refine Sm.seq (Sm.seq ?_)
   refine ab hF rfl ?_
   refine gv hF oM ?_
   refine gv hF (aA rfl rfl rfl (by first | exact dD _ _ _ _ _ (by omega) | exact dO _ _ _ _ _ (by omega) | exact ep _ _ _ _ _ _ _)) ?_
   refine SmG.nil (ae ?_)
   refine bq hF rfl ?_
   refine Sm.exit ?_
   simp only [cZ, gA, reduceIte, reduceCtorEq]
   refine Sm.seq ?_
   refine ab hF rfl ?_
   refine gv hF (aZ rfl rfl (by simp (disch := omega) only [go_sem, Nat.reduceEqDiff, aE, aM, hll] <;> rfl)) ?_
   refine SmG.store hF rfl rfl rfl rfl rfl (by simp (disch := omega) only [go_sem, Nat.reduceEqDiff, aE, aM, hll] <;> rfl) ?_
   refine SmG.nil (ae (Sm.ret ?_))
   refine il rfl rfl (by simp (disch := omega) only [go_sem, Nat.reduceEqDiff, aE, hll] <;> rfl) ?_
   rw [hall, ← hpl]; exact D.le.refl _
end
section
open Go.RowKit
set_option maxRecDepth 100000
theorem uG {P : Program} {s d : TypeId} {td : TypeDesc} {k2 : IntKind} (z : Nat) (h1 : P.underlying s = some td) (h2 : P.underlying d = some (.int .u8)) : gU P s d (.d (.v (.int k2 (z : Int)))) = some (.d (dX (UInt8.ofNat z))) := by
 simp only [gU, sU P .u8 z s d h1 h2 k2, Option.map_some, dX]
 have : IntKind.u8.wrap (z : Int) = ((UInt8.ofNat z).toNat : Int) := by
  rw [IntKind.wrap_u8']
  simp
 rw [this]
theorem pp (l : List UInt8) (b : UInt8) : List.map aH l ++ [[dX b]] = List.map aH (l ++ [b]) := by simp [aH]
theorem wB (n i : Nat) (h : i < 8) : (Sha.lenBytes n).take i ++ [UInt8.ofNat (8 * n / 2 ^ (56 - 8 * i))] = (Sha.lenBytes n).take (i + 1) := (Sha.lenBytes_take n i h).symm
theorem DC (P : Program) (t : TypeId) (x y : Operand) (a n : Nat) {b : Int} (k2 : IntKind) (hb : b = (n : Int)) (hn : n ≤ 64) : bb P (do eqGuard .shr t x y (.int .u64 a) (.int k2 b); binOp .shr t (.int .u64 a) (.int k2 b)) = some (.int .u64 ((a / 2 ^ n : Nat) : Int)) := by
 rw [sY P t x y .u64 a b k2 (by omega)]
 subst hb
 have : min ((n : Int).toNat) IntKind.u64.bits = n := by show min _ 64 = n; omega
 rw [this, Int.fdiv_eq_ediv_of_nonneg _ (Int.le_of_lt (Int.pow_pos (by omega)))]
 norm_cast
theorem yd (b : List UInt8) (hb : b.length ≤ 1000000) (G : Nat → Option D) : aj Tryd.prog G 76 [bi b] (bi (Sha.padded b)) := by
 have hpad : Sha.padded b = b ++ [128] ++ List.replicate (Sha.zeros b.length) 0 ++ Sha.lenBytes b.length := rfl
 have hz : Sha.zeros b.length < 64 := by unfold Sha.zeros; omega
 have hzt := fun j => Sha.zeros_test b.length j
 have hze := Sha.zeros_end b.length
 generalize Sha.zeros b.length = z at hpad hz hzt hze
 refine aj.of Tryd.func76 rfl Tryd.ntmps76 (by simp) ?_; intro F hF h0 hT; simp only [List.zipIdx_cons, List.zipIdx_nil, List.map_cons, List.map_nil, Nat.zero_add, Nat.reduceAdd]
 refine Sm.seq ?_
 refine ab hF rfl ?_
 refine gv hF oA (SmG.nil (ae (Sm.seq ?_)))
 refine ab hF rfl ?_
 refine gv hF (fr rfl rfl (by simp (disch := omega) only [go_sem, Nat.reduceEqDiff, aE, bi, aH] <;> rfl)) ?_
 refine gv hF oM ?_
 refine SmG.appendFresh hF kX rfl rfl rfl rfl rfl rfl (Or.inl rfl) (by simp only [List.length_map]; omega) (by simp only [List.length_map]; omega) ?_
 refine gv hF oA (SmG.nil (ae (Sm.seq ?_)))
 refine ab hF rfl ?_
 refine gv hF oM ?_
 refine gv hF (fr rfl rfl (by simp (disch := omega) only [go_sem, Nat.reduceEqDiff, aE, bi, aH] <;> rfl)) ?_
 refine SmG.appendOwn hF kX rfl rfl rfl rfl rfl rfl rfl (by first | rfl | (simp; done) | (simp; omega)) (Or.inl rfl) (by (repeat' first | exact bn _ | refine be ?_ | refine am ?_ (aP _ _ _) | refine am ?_ (aP _ _ [_]) | refine am ?_ (bD (by rfl)))) ?_ ?_ ?_; rotate_left; rotate_left; simp only [i3, Pk.v, V.free, rep, bne_self_eq_false, Nat.reduceAdd, Nat.reduceBNe, Nat.reduceBEq, Nat.reduceEqDiff, reduceIte, Bool.false_eq_true]
 rotate_left
 ·simp only [List.length_map, List.length_cons, List.length_nil]; omega
 ·simp only [List.length_map, List.length_cons, List.length_nil]; omega
 refine gv hF oA (SmG.nil (ae (Sm.seq (Sm.block ?_))))
 refine Sm.loop (ι := {j : Nat // j ≤ z}) (fun j => ⟨[(0, .d (bi b)), (3, .sref 0 0 ((b ++ [128] ++ List.replicate j.1 0).map aH).length)], [(0, dB 1 ((b ++ [128] ++ List.replicate j.1 0).map aH))], 1⟩) (fun j => z - j.1) (⟨0, by omega⟩) ?_ ?_
 ·have h0 : List.map aH b ++ [[D.v (.int .u8 128)]] = List.map aH (b ++ [128] ++ List.replicate 0 0) := by
   rw [List.replicate_zero, List.append_nil, ← pp]; rfl
  exact cC (by first | (simp [leE, look, bf] <;> omega) | (simp [leE, look, bf, h0] <;> omega)) (by simp only [leH, look, rep, reduceIte, Nat.reduceEqDiff, List.set_cons_zero, List.set_cons_succ, h0, and_self, and_true, and_false, false_and, if_true, if_false] <;> (repeat' first | rfl | constructor)) (by first | exact Nat.le_refl _ | (dsimp only; omega))
 rintro ⟨j, hj⟩
 simp only
 by_cases hlt : j < z
 ·have hzj := hzt j hlt
  have hrow : List.map aH (b ++ [128] ++ List.replicate j 0) ++ [[D.v (.int .u8 0)]] = List.map aH (b ++ [128] ++ List.replicate (j + 1) 0) := by
   rw [List.replicate_succ', ← List.append_assoc, ← pp]; rfl
  refine Sm.seq (Sm.seq ?_)
  refine ab hF rfl ?_
  refine gv hF oM ?_
  refine gv hF (gG rfl rfl (by simp (disch := omega) only [go_sem, Nat.reduceEqDiff, aE, bi, aH, List.length_append, List.length_cons, List.length_nil, List.length_replicate] <;> rfl)) ?_
  refine gv hF (aA rfl rfl rfl (by first | exact iz _ _ _ _ _ (bX _ (by omega)) | exact cT _ _ _ _ _ _ _)) ?_
  refine gv hF (aA rfl rfl rfl (by first | exact si _ _ _ _ _ (by omega) (by omega) | exact oy _ _ _ _ _ _ _ (by omega))) ?_
  refine gv hF (aA rfl rfl rfl (by first | exact uN _ _ _ _ _ (by omega) | exact uJ _ _ _ _ _ (by omega) | exact nY _ _ _ _ _ _ _)) ?_
  refine SmG.nil (ae ?_)
  refine cP hF rfl ?_
  refine Sm.skip ?_
  refine ae (Sm.block ?_)
  refine ab hF rfl ?_
  refine gv hF oM ?_
  refine gv hF (fr rfl rfl (by simp (disch := omega) only [go_sem, Nat.reduceEqDiff, aE, bi, aH, List.length_append, List.length_cons, List.length_nil, List.length_replicate] <;> rfl)) ?_
  refine SmG.appendOwn hF kX rfl rfl rfl rfl rfl rfl rfl (by first | rfl | (simp; done) | (simp; omega)) (Or.inl rfl) (by (repeat' first | exact bn _ | refine be ?_ | refine am ?_ (aP _ _ _) | refine am ?_ (aP _ _ [_]) | refine am ?_ (bD (by rfl)))) ?_ ?_ ?_; rotate_left; rotate_left; simp only [i3, Pk.v, V.free, rep, bne_self_eq_false, Nat.reduceAdd, Nat.reduceBNe, Nat.reduceBEq, Nat.reduceEqDiff, reduceIte, Bool.false_eq_true]
  rotate_left
  ·simp only [List.length_map, List.length_append, List.length_cons, List.length_nil, List.length_replicate]; omega
  ·simp only [List.length_map, List.length_append, List.length_cons, List.length_nil, List.length_replicate]; omega
  refine gv hF oA (SmG.nil (ak (ae ?_)))
  exact ⟨⟨j + 1, by omega⟩, by show z - (j + 1) < z - j; omega, by exact cC (by first | (simp [leE, look, bf] <;> omega) | (simp [leE, look, bf, hrow] <;> omega)) (by simp only [leH, look, rep, reduceIte, Nat.reduceEqDiff, List.set_cons_zero, List.set_cons_succ, hrow, and_self, and_true, and_false, false_and, if_true, if_false] <;> (repeat' first | rfl | constructor)) (by first | exact Nat.le_refl _ | (dsimp only; omega))⟩
 ·obtain rfl : j = z := by omega
  refine Sm.seq (Sm.seq ?_)
  refine ab hF rfl ?_
  refine gv hF oM ?_
  refine gv hF (gG rfl rfl (by simp (disch := omega) only [go_sem, Nat.reduceEqDiff, aE, bi, aH, List.length_append, List.length_cons, List.length_nil, List.length_replicate] <;> rfl)) ?_
  refine gv hF (aA rfl rfl rfl (by first | exact iz _ _ _ _ _ (bX _ (by omega)) | exact cT _ _ _ _ _ _ _)) ?_
  refine gv hF (aA rfl rfl rfl (by first | exact si _ _ _ _ _ (by omega) (by omega) | exact oy _ _ _ _ _ _ _ (by omega))) ?_
  refine gv hF (aA rfl rfl rfl (by first | exact uN _ _ _ _ _ (by omega) | exact uJ _ _ _ _ _ (by omega) | exact nY _ _ _ _ _ _ _)) ?_
  refine SmG.nil (ae ?_)
  refine bq hF rfl ?_
  refine Sm.exit ?_
  simp only [cZ, gA, reduceIte, reduceCtorEq]
  refine Sm.seq ?_
  refine ab hF rfl ?_
  refine gv hF oM ?_
  refine gv hF (gG rfl rfl (by simp (disch := omega) only [go_sem, Nat.reduceEqDiff, aE, bi, aH, List.length_append, List.length_cons, List.length_nil, List.length_replicate] <;> rfl)) ?_
  refine gv hF (lR rfl rfl (by first | exact ek rfl rfl (uz _ (by omega)) | (simp (disch := omega) only [go_sem, bi, aH, List.length_append, List.length_cons, List.length_nil, List.length_replicate] <;> rfl))) ?_
  refine gv hF (aA rfl rfl rfl (by first | exact lO _ _ _ _ _ (uz _ (by omega)) | exact jM _ _ _ _ _ _ _)) ?_
  refine gv hF oA (SmG.nil (ae (Sm.seq (Sm.seq ?_))))
  refine ab hF rfl ?_
  refine gv hF oA (SmG.nil (ae (Sm.block ?_)))
  refine Sm.loop (ι := {i : Nat // i ≤ 8}) (fun i => ⟨[(3, .sref 0 0 ((b ++ [128] ++ List.replicate j 0 ++ (Sha.lenBytes b.length).take i.1).map aH).length), (4, .d (.v (.int .u64 ((8 * b.length : Nat) : Int)))), (5, .d (.v (.int .i64 i.1)))], [(0, dB 1 ((b ++ [128] ++ List.replicate j 0 ++ (Sha.lenBytes b.length).take i.1).map aH))], 1⟩) (fun i => 8 - i.1) (⟨0, by omega⟩) ?_ ?_
  ·exact cC (by first | (simp [leE, look, bf] <;> omega) | (simp [leE, look, bf, List.take_zero, List.append_nil] <;> omega)) (by simp only [leH, look, rep, reduceIte, Nat.reduceEqDiff, List.set_cons_zero, List.set_cons_succ, List.take_zero, List.append_nil, and_self, and_true, and_false, false_and, if_true, if_false] <;> (repeat' first | rfl | constructor)) (by first | exact Nat.le_refl _ | (dsimp only; omega))
  rintro ⟨i, hi⟩
  simp only
  have hll : (Sha.lenBytes b.length).length = 8 := by simp [Sha.lenBytes]
  by_cases hlt : i < 8
  ·have hrow : List.map aH (b ++ [128] ++ List.replicate j 0 ++ (Sha.lenBytes b.length).take i) ++ [[D.v (.int .u8 ((UInt8.ofNat (8 * b.length / 2 ^ (56 - 8 * i))).toNat : Int))]] = List.map aH (b ++ [128] ++ List.replicate j 0 ++ (Sha.lenBytes b.length).take (i + 1)) := by
    show _ ++ [[dX _]] = _
    rw [pp, List.append_assoc, wB _ _ hlt]
   refine Sm.seq (Sm.seq ?_)
   refine ab hF rfl ?_
   refine gv hF oM ?_
   refine gv hF (aA rfl rfl rfl (by first | exact dD _ _ _ _ _ (by omega) | exact dO _ _ _ _ _ (by omega) | exact ep _ _ _ _ _ _ _)) ?_
   refine SmG.nil (ae ?_)
   refine cP hF rfl ?_
   refine Sm.skip ?_
   refine ae (Sm.seq (Sm.block ?_))
   refine ab hF rfl ?_
   refine gv hF oM (gv hF oM (gv hF oM ?_))
   refine gv hF (aA rfl rfl rfl (by first | exact lO _ _ _ _ _ (bX _ (by omega)) | exact jM _ _ _ _ _ _ _)) ?_
   refine gv hF (aA rfl rfl rfl (by first | exact mG _ _ _ _ _ (bX _ (by omega)) | exact ky _ _ _ _ _ _ _)) ?_
   refine gv hF (aA rfl rfl rfl (DC _ _ _ _ (8 * b.length) (56 - 8 * i) _ (by omega) (by omega))) ?_
   refine gv hF (lR rfl rfl (uG _ Tryd.underlying147 Tryd.underlying5)) ?_
   refine gv hF (fr rfl rfl (by simp (disch := omega) only [go_sem, Nat.reduceEqDiff, aE, bi, aH, List.length_append, List.length_cons, List.length_nil, List.length_replicate] <;> rfl)) ?_
   refine SmG.appendOwn hF kX rfl rfl rfl rfl rfl rfl rfl (by first | rfl | (simp; done) | (simp; omega)) (Or.inl rfl) (by (repeat' first | exact bn _ | refine be ?_ | refine am ?_ (aP _ _ _) | refine am ?_ (aP _ _ [_]) | refine am ?_ (bD (by rfl)))) ?_ ?_ ?_; rotate_left; rotate_left; simp only [i3, Pk.v, V.free, rep, bne_self_eq_false, Nat.reduceAdd, Nat.reduceBNe, Nat.reduceBEq, Nat.reduceEqDiff, reduceIte, Bool.false_eq_true]
   rotate_left
   ·simp only [List.length_map, List.length_append, List.length_cons, List.length_nil, List.length_replicate, List.length_take]; omega
   ·simp only [List.length_map, List.length_append, List.length_cons, List.length_nil, List.length_replicate, List.length_take]; omega
   refine gv hF oA (SmG.nil (ak (ae ?_)))
   refine ab hF rfl ?_
   refine gv hF oM ?_
   refine gv hF (aA rfl rfl rfl (by first | exact iz _ _ _ _ _ (bX _ (by omega)) | exact cT _ _ _ _ _ _ _)) ?_
   refine gv hF oA (SmG.nil (ae ?_))
   exact ⟨⟨i + 1, by omega⟩, by show 8 - (i + 1) < 8 - i; omega, by exact cC (by first | (simp [leE, look, bf] <;> omega) | (simp [leE, look, bf, hrow] <;> omega)) (by simp only [leH, look, rep, reduceIte, Nat.reduceEqDiff, List.set_cons_zero, List.set_cons_succ, hrow, and_self, and_true, and_false, false_and, if_true, if_false] <;> (repeat' first | rfl | constructor)) (by first | exact Nat.le_refl _ | (dsimp only; omega))⟩
  ·obtain rfl : i = 8 := by omega
   refine Sm.seq (Sm.seq ?_)
   refine ab hF rfl ?_
   refine gv hF oM ?_
   refine gv hF (aA rfl rfl rfl (by first | exact dD _ _ _ _ _ (by omega) | exact dO _ _ _ _ _ (by omega) | exact ep _ _ _ _ _ _ _)) ?_
   refine SmG.nil (ae ?_)
   refine bq hF rfl ?_
   refine Sm.freeze (l := 0) _ rfl ?_
   simp only [Pk.v, k8, ft, iF,  reduceIte, Nat.reduceAdd, Nat.zero_add, List.length_map, List.length_append, Nat.le_refl, true_and, and_self, if_true, Nat.reduceEqDiff, true_and]
   refine Sm.exit ?_
   simp only [cZ, gA, reduceIte, reduceCtorEq]
   refine Sm.seq ?_
   refine ab hF rfl ?_
   refine gv hF oM (gv hF oA (SmG.nil (ae (Sm.ret ?_))))
   refine ⟨_, rfl, ?_⟩; dsimp only
   rw [List.take_of_length_le (by omega), ← hpad]; exact D.le.refl _
theorem wc (all : List UInt8) (j : Nat) : List.drop (64 * j) (List.map aH (List.take (64 * j + 64) all)) = List.map aH ((all.drop (64 * j)).take 64) := by
 rw [← List.map_drop, List.drop_take]; congr 2; omega
theorem y7 (S : Sha.S8) (k : Nat) (h : k ≤ 32) : ((Sha.out S).take k ++ List.replicate (32 - k) 0).length = 32 := by
 simp [Sha.out_length]; omega
theorem mZ (b : List UInt8) (hb : b.length ≤ 1000000) (G : Nat → Option D) : aj Tryd.prog G 52 [bi b] (da (Sha.sum b)) := by
 have hmod := Sha.padded_mod b
 have hplen := Sha.padded_length b
 have hz : Sha.zeros b.length < 64 := by unfold Sha.zeros; omega
 have hS : Sha.sum b = Sha.out (Sha.over (Sha.padded b) ((Sha.padded b).length / 64)) := rfl
 refine aj.of Tryd.func52 rfl Tryd.ntmps52 (by simp) ?_; intro F hF h0 hT; simp only [List.zipIdx_cons, List.zipIdx_nil, List.map_cons, List.map_nil, Nat.zero_add, Nat.reduceAdd]
 refine Sm.seq ?_
 refine ab hF rfl ?_
 refine SmG.new hF rfl rfl rfl (aO rfl jo) ?_
 refine SmG.nil (ae (Sm.seq ?_))
 refine ab hF rfl ?_
 refine gv hF oM ?_
 refine SmG.call hF rfl rfl (by kernel_rfl) rfl rfl rfl (yd b hb G) ?_
 refine gv hF oA (SmG.nil (ae (Sm.seq ?_)))
 refine ab hF rfl ?_
 refine SmG.call hF rfl rfl (by kernel_rfl) rfl rfl rfl (y9 G) ?_
 refine SmG.new hF rfl rfl rfl (aO rfl sd) ?_
 refine SmG.store hF rfl rfl rfl rfl rfl (by simp (disch := omega) only [go_sem, Nat.reduceEqDiff, aE, aM, da] <;> rfl) ?_
 refine SmG.nil (ae (Sm.seq (Sm.seq ?_)))
 refine ab hF rfl ?_
 refine gv hF oA (SmG.nil (ae (Sm.block ?_)))
 generalize Sha.padded b = all at hmod hplen hS ⊢
 generalize hm : all.length / 64 = m at hmod hS
 refine Sm.loop (ι := {j : Nat // j ≤ m}) (fun j => ⟨[(2, .ref 0 0 0), (3, .d (bi all)), (4, .ref 1 0 0), (5, .d (.v (.int .i64 ((64 * j.1 : Nat) : Int))))], [(1, dW 8 (Sha.over all j.1).list), (0, dB 32 [aI (List.replicate 32 0)])], 2⟩) (fun j => m - j.1) (⟨0, by omega⟩) ?_ ?_
 ·exact cC (by first | (simp [leE, look, bf] <;> omega) | (simp [leE, look, bf, true_and] <;> omega)) (by simp only [leH, look, rep, reduceIte, Nat.reduceEqDiff, List.set_cons_zero, List.set_cons_succ, true_and, and_self, and_true, and_false, false_and, if_true, if_false] <;> (repeat' first | rfl | constructor)) (by first | exact Nat.le_refl _ | (dsimp only; omega))
 rintro ⟨j, hj⟩
 simp only
 by_cases hlt : j < m
 ·have c1 := AQ (Sha.over all j) ((all.drop (64 * j)).take 64) (by rw [List.length_take, List.length_drop]; omega) G
  have hcm := wc all j
  have hle : 64 * j ≤ 64 * j + 64 := by omega
  have hle2 : 64 * j + 64 ≤ all.length := by omega
  have hcast : (((64 * j : Nat) : Int) + 64).toNat = 64 * j + 64 := by omega
  have hov : Sha.over all (j + 1) = Sha.after (Sha.over all j) ((all.drop (64 * j)).take 64) := rfl
  have hl8 : (Sha.over all j).list.length = 8 := rfl
  refine Sm.seq (Sm.seq ?_)
  refine ab hF rfl ?_
  refine gv hF oM (gv hF oM ?_)
  refine gv hF (gG rfl rfl (by simp (disch := omega) only [go_sem, Nat.reduceEqDiff, aE, bi, hcm, hcast, hle, hle2, gn, hl8] <;> rfl)) ?_
  refine gv hF (aA rfl rfl rfl (by first | exact dD _ _ _ _ _ (by omega) | exact dO _ _ _ _ _ (by omega) | exact ep _ _ _ _ _ _ _)) ?_
  refine SmG.nil (ae ?_)
  refine cP hF rfl ?_
  refine Sm.skip ?_
  refine ae (Sm.seq (Sm.block ?_))
  refine iX hF (by kernel_rfl) rfl 7 (by kernel_rfl) (by kernel_rfl) ?_
  simp only [List.take_succ_cons, List.take_zero, List.take_nil]
  refine hv hF (aZ rfl rfl (by simp (disch := omega) only [go_sem, Nat.reduceEqDiff, aE, bi, hcm, hcast, hle, hle2, gn, hl8] <;> rfl)) ?_
  refine hv hF oM (hv hF oM (hv hF oM ?_))
  refine hv hF (aA rfl rfl rfl (by first | exact iz _ _ _ _ _ (bX _ (by omega)) | exact cT _ _ _ _ _ _ _)) ?_
  refine hv hF (dI rfl rfl rfl rfl rfl (by simp (disch := omega) only [go_sem, Nat.reduceEqDiff, aE, bi, hcm, hcast, hle, hle2, gn, hl8] <;> rfl)) ?_
  refine aF.c hF rfl rfl (by kernel_rfl) rfl rfl rfl (c1) ?_
  refine aF.last ⟨rfl, ?_⟩
  simp only [List.drop_succ_cons, List.drop_zero, List.drop_nil, List.nil_append, List.cons_append]
  refine SmG.store hF rfl rfl rfl rfl rfl (by simp (disch := omega) only [go_sem, Nat.reduceEqDiff, aE, bi, hcm, hcast, hle, hle2, gn, hl8] <;> rfl) ?_
  refine SmG.nil (ak (ae ?_))
  refine ab hF rfl ?_
  refine gv hF oM ?_
  refine gv hF (aA rfl rfl rfl (by first | exact iz _ _ _ _ _ (bX _ (by omega)) | exact cT _ _ _ _ _ _ _)) ?_
  refine gv hF oA (SmG.nil (ae ?_))
  exact ⟨⟨j + 1, by omega⟩, by show m - (j + 1) < m - j; omega, by exact cC (by first | (simp [leE, look, bf] <;> omega) | (simp [leE, look, bf, hov] <;> omega)) (by simp only [leH, look, rep, reduceIte, Nat.reduceEqDiff, List.set_cons_zero, List.set_cons_succ, hov, and_self, and_true, and_false, false_and, if_true, if_false] <;> (repeat' first | rfl | constructor)) (by first | exact Nat.le_refl _ | (dsimp only; omega))⟩
 ·obtain rfl : j = m := by omega
  generalize Sha.over all j = S at hS ⊢
  refine Sm.seq (Sm.seq ?_)
  refine ab hF rfl ?_
  refine gv hF oM (gv hF oM ?_)
  refine gv hF (gG rfl rfl (by simp (disch := omega) only [go_sem, Nat.reduceEqDiff, aE, bi] <;> rfl)) ?_
  refine gv hF (aA rfl rfl rfl (by first | exact dD _ _ _ _ _ (by omega) | exact dO _ _ _ _ _ (by omega) | exact ep _ _ _ _ _ _ _)) ?_
  refine SmG.nil (ae ?_)
  refine bq hF rfl ?_
  refine Sm.exit ?_
  simp only [cZ, gA, reduceIte, reduceCtorEq]
  refine Sm.seq ?_
  refine ab hF rfl ?_
  refine gv hF (iq rfl Tryd.underlying47 rfl AV) ?_
  refine SmG.new hF rfl rfl rfl (aO rfl jo) ?_
  refine SmG.store hF rfl rfl rfl rfl rfl (by simp (disch := omega) only [go_sem, Nat.reduceEqDiff, aE, bi] <;> rfl) ?_
  refine SmG.nil (ae (Sm.seq (Sm.seq ?_)))
  refine ab hF rfl ?_
  refine gv hF oA (SmG.nil (ae (Sm.block ?_)))
  refine Sm.loop (ι := {k : Nat // k ≤ 32}) (fun k => ⟨[(2, .ref 0 0 0), (4, .ref 1 0 0), (6, .ref 2 0 0), (7, .d (.v (.int .i64 k.1)))], [(2, dB 32 [aI ((Sha.out S).take k.1 ++ List.replicate (32 - k.1) 0)]), (1, dW 8 S.list), (0, dB 32 [aI (List.replicate 32 0)])], 3⟩) (fun k => 32 - k.1) (⟨0, by omega⟩) ?_ ?_
  ·exact cC (by first | (simp [leE, look, bf] <;> omega) | (simp [leE, look, bf, List.take_zero, List.nil_append] <;> omega)) (by simp only [leH, look, rep, reduceIte, Nat.reduceEqDiff, List.set_cons_zero, List.set_cons_succ, List.take_zero, List.nil_append, and_self, and_true, and_false, false_and, if_true, if_false] <;> (repeat' first | rfl | constructor)) (by first | exact Nat.le_refl _ | (dsimp only; omega))
  rintro ⟨k, hk⟩
  simp only
  have hl8 : S.list.length = 8 := rfl
  by_cases hlt : k < 32
  ·have hg := io S.list (k / 4) (by omega)
   have hset := Sha.out_set S k hlt
   have hsh : ∀ (x : UInt32) (n : Nat), (Sha.shr x n).toNat = x.toNat / 2 ^ n := fun x n => Nat.mod_eq_of_lt (Nat.lt_of_le_of_lt (Nat.div_le_self _ _) x.toNat_lt)
   generalize S.list.getD (k / 4) 0 = x at hg hset
   have hcast : ((k : Int) / 4).toNat = k / 4 := by omega
   have hst : (List.map V.d (aI ((Sha.out S).take k ++ List.replicate (32 - k) 0))).set k (.d (.v (.int .u8 ((UInt8.ofNat (Sha.shr x (24 - 8 * (k % 4))).toNat).toNat : Int)))) = List.map V.d (aI ((Sha.out S).take (k + 1) ++ List.replicate (32 - (k + 1)) 0)) := by
    rw [← hset, hsh]
    simp only [aI, List.map_set, dX]
   refine Sm.seq (Sm.seq ?_)
   refine ab hF rfl ?_
   refine gv hF oM ?_
   refine gv hF (aA rfl rfl rfl (by first | exact dD _ _ _ _ _ (by omega) | exact dO _ _ _ _ _ (by omega) | exact ep _ _ _ _ _ _ _)) ?_
   refine SmG.nil (ae ?_)
   refine cP hF rfl ?_
   refine Sm.skip ?_
   refine ae (Sm.seq (Sm.block ?_))
   refine ab hF rfl ?_
   refine gv hF oM (gv hF oM ?_)
   refine gv hF (aA rfl rfl rfl (by first | exact Ac _ _ _ _ (by omega) (by omega) | exact tD _ _ _ _ _ _ _ (by omega))) ?_
   refine gv hF (az rfl rfl rfl (by simp (disch := omega) only [go_sem, Nat.reduceEqDiff, aE, aM, hg, hcast, dX, hl8] <;> rfl)) ?_
   refine gv hF (aZ rfl rfl (by simp (disch := omega) only [go_sem, Nat.reduceEqDiff, aE, aM, hg, hcast, dX, hl8] <;> rfl)) ?_
   refine gv hF oM ?_
   refine gv hF (aA rfl rfl rfl (by first | exact si _ _ _ _ _ (by omega) (by omega) | exact oy _ _ _ _ _ _ _ (by omega))) ?_
   refine gv hF (aA rfl rfl rfl (by first | exact lO _ _ _ _ _ (bX _ (by omega)) | exact jM _ _ _ _ _ _ _)) ?_
   refine gv hF (aA rfl rfl rfl (by first | exact mG _ _ _ _ _ (bX _ (by omega)) | exact ky _ _ _ _ _ _ _)) ?_
   refine gv hF (aA rfl rfl rfl (sO _ _ _ _ (24 - 8 * (k % 4)) _ (by omega) (by omega) x)) ?_
   refine gv hF (lR rfl rfl (uG _ Tryd.underlying68 Tryd.underlying5)) ?_
   refine gv hF (az rfl rfl rfl (by simp (disch := omega) only [go_sem, Nat.reduceEqDiff, aE, aM, hg, hcast, dX, hl8] <;> rfl)) ?_
   refine SmG.store hF rfl rfl rfl rfl rfl (by simp (disch := omega) only [go_sem, Nat.reduceEqDiff, aE, aM, hg, hcast, dX, hl8] <;> rfl) ?_
   refine SmG.nil (ak (ae ?_))
   refine ab hF rfl ?_
   refine gv hF oM ?_
   refine gv hF (aA rfl rfl rfl (by first | exact iz _ _ _ _ _ (bX _ (by omega)) | exact cT _ _ _ _ _ _ _)) ?_
   refine gv hF oA (SmG.nil (ae ?_))
   exact ⟨⟨k + 1, by omega⟩, by show 32 - (k + 1) < 32 - k; omega, by exact cC (by first | (simp [leE, look, bf] <;> omega) | (simp [leE, look, bf, hst] <;> omega)) (by simp only [leH, look, rep, reduceIte, Nat.reduceEqDiff, List.set_cons_zero, List.set_cons_succ, hst, and_self, and_true, and_false, false_and, if_true, if_false] <;> (repeat' first | rfl | constructor)) (by first | exact Nat.le_refl _ | (dsimp only; omega))⟩
  ·obtain rfl : k = 32 := by omega
   have hll : (aI ((Sha.out S).take 32 ++ List.replicate (32 - 32) 0)).length = 32 := by rw [aI, List.length_map, y7 S 32 (by omega)]
   refine Sm.seq (Sm.seq ?_)
   refine ab hF rfl ?_
   refine gv hF oM ?_
   refine gv hF (aA rfl rfl rfl (by first | exact dD _ _ _ _ _ (by omega) | exact dO _ _ _ _ _ (by omega) | exact ep _ _ _ _ _ _ _)) ?_
   refine SmG.nil (ae ?_)
   refine bq hF rfl ?_
   refine Sm.exit ?_
   simp only [cZ, gA, reduceIte, reduceCtorEq]
   refine Sm.seq ?_
   refine ab hF rfl ?_
   refine gv hF (aZ rfl rfl (by simp (disch := omega) only [go_sem, Nat.reduceEqDiff, aE, hll] <;> rfl)) ?_
   refine SmG.store hF rfl rfl rfl rfl rfl (by simp (disch := omega) only [go_sem, Nat.reduceEqDiff, aE, hll] <;> rfl) ?_
   refine SmG.nil (ae (Sm.ret ?_))
   refine il rfl rfl (by simp (disch := omega) only [go_sem, Nat.reduceEqDiff, aE, hll] <;> rfl) ?_
   rw [hS, List.take_of_length_le (by rw [Sha.out_length]; omega), List.append_nil]
   exact D.le.refl _
end
section
open Go.RowKit
set_option maxRecDepth 100000
theorem sS : ((1 : Nat) = 0) = False := by simp
theorem AE {α : Type} {f : α → List D} {l : List α} (z : List D) (h : 0 < l.length) : List.map f l ≠ [] := by intro e; rw [List.map_eq_nil_iff] at e; subst e; simp at h
theorem rp (l : List UInt8) : (aI l).map (fun d => [d]) = l.map aH := by simp [aI, aH, Function.comp_def]
theorem pf (b : List UInt8) (hb : b.length ≤ 900000) (G : Nat → Option D) : aj Tryd.prog G 56 [bi b] (bi (0 :: b)) := by
 refine aj.of Tryd.func56 rfl Tryd.ntmps56 (by simp) ?_; intro F hF h0 hT; simp only [List.zipIdx_cons, List.zipIdx_nil, List.map_cons, List.map_nil, Nat.zero_add, Nat.reduceAdd]
 refine Sm.seq ?_
 refine ab hF rfl ?_
 refine gv hF oA (SmG.nil (ae (Sm.seq ?_)))
 refine ab hF rfl ?_
 refine gv hF (fr rfl rfl (by simp (disch := omega) only [go_sem, Nat.reduceEqDiff, aE, bi, aH, dX] <;> rfl)) ?_
 refine gv hF oM ?_
 refine SmG.append hF kX rfl rfl rfl rfl rfl rfl (Or.inl rfl) (Or.inl rfl) (by simp only [List.length_map, List.length_cons, List.length_nil]; omega) (by simp only [List.length_map, List.length_cons, List.length_nil]; omega) ?_
 refine gv hF oA (SmG.nil (ae (Sm.ret ?_)))
 refine ⟨_, rfl, ?_⟩; dsimp only
 exact D.le.refl _
theorem pm (a b : List UInt8) (ha : a.length = 32) (hb : b.length = 32) (G : Nat → Option D) : aj Tryd.prog G 58 [da a, da b] (bi (1 :: (a ++ b))) := by
 have h1 := rp a
 have h2 := rp b
 refine aj.of Tryd.func58 rfl Tryd.ntmps58 (by simp) ?_; intro F hF h0 hT; simp only [List.zipIdx_cons, List.zipIdx_nil, List.map_cons, List.map_nil, Nat.zero_add, Nat.reduceAdd]
 refine Sm.seq ?_
 refine ab hF rfl ?_
 refine SmG.new hF rfl rfl rfl (mR rfl rfl (by simp (disch := omega) only [go_sem, Nat.reduceEqDiff, aE, bi, aH, dX, da, ha, hb] <;> rfl)) ?_
 refine SmG.new hF rfl rfl rfl (mR rfl rfl (by simp (disch := omega) only [go_sem, Nat.reduceEqDiff, aE, bi, aH, dX, da, ha, hb] <;> rfl)) ?_
 refine gv hF oA (SmG.nil (ae (Sm.seq ?_)))
 refine ab hF rfl ?_
 refine gv hF (fr rfl rfl (by simp (disch := omega) only [go_sem, Nat.reduceEqDiff, aE, bi, aH, dX, da, ha, hb] <;> rfl)) ?_
 refine gv hF (dI rfl rfl rfl rfl rfl (by simp (disch := omega) only [go_sem, Nat.reduceEqDiff, aE, bi, aH, dX, da, ha, hb] <;> rfl)) ?_
 refine SmG.freeze (l := 0) (sz := 32) [aI a] rfl ?_
 simp only [Pk.v, k8, ft, iF,  reduceIte, Nat.reduceAdd, Nat.zero_add, List.length_map, List.length_append, Nat.le_refl, true_and, and_self, if_true, Nat.reduceEqDiff, List.getElem?_cons_zero, Nat.mul_one, Nat.one_mul, Nat.reduceLeDiff, Nat.reduceMul, h1, Nat.zero_ne_one, sS]
 refine SmG.appendNew hF kX rfl rfl rfl rfl rfl rfl (Or.inl rfl) rfl (AE [] (by omega)) (by simp only [List.length_map, List.length_cons, List.length_nil]; omega) (by simp only [List.length_map, List.length_cons, List.length_nil]; omega) ?_
 refine gv hF oA (SmG.nil (ae (Sm.seq ?_)))
 refine ab hF rfl ?_
 refine gv hF oM ?_
 refine gv hF (dI rfl rfl rfl rfl rfl (by simp (disch := omega) only [go_sem, Nat.reduceEqDiff, aE, bi, aH, dX, da, ha, hb] <;> rfl)) ?_
 refine SmG.freeze (l := 1) (sz := 32) [aI b] rfl ?_
 simp only [Pk.v, k8, ft, iF,  reduceIte, Nat.reduceAdd, Nat.zero_add, List.length_map, List.length_append, Nat.le_refl, true_and, and_self, if_true, Nat.reduceEqDiff, List.getElem?_cons_zero, Nat.mul_one, Nat.one_mul, Nat.reduceLeDiff, Nat.reduceMul, h2]
 refine SmG.appendOwn hF kX rfl rfl rfl rfl rfl rfl rfl (by first | rfl | (simp; done) | (simp; omega)) (Or.inl rfl) (by (repeat' first | exact bn _ | refine be ?_ | refine am ?_ (aP _ _ _) | refine am ?_ (aP _ _ [_]) | refine am ?_ (bD (by rfl)))) ?_ ?_ ?_; rotate_left; rotate_left; simp only [i3, Pk.v, V.free, rep, bne_self_eq_false, Nat.reduceAdd, Nat.reduceBNe, Nat.reduceBEq, Nat.reduceEqDiff, reduceIte, Bool.false_eq_true]
 rotate_left
 ·simp only [List.length_map, List.length_append, List.length_cons, List.length_nil]; omega
 ·simp only [List.length_map, List.length_append, List.length_cons, List.length_nil]; omega
 refine SmG.freeze (l := 2) (sz := 1) (List.map aH (1 :: (a ++ b))) (by show some (dB 1 (([aH 1] ++ List.map aH a) ++ List.map aH b)) = _; simp) ?_
 have e : 1 + a.length + b.length = a.length + b.length + 1 := by omega
 simp only [Pk.v, k8, ft, iF,  reduceIte, Nat.reduceAdd, Nat.zero_add, List.length_map, List.length_append, Nat.le_refl, true_and, and_self, if_true, Nat.reduceEqDiff, List.length_cons, List.length_nil, e]
 refine gv hF oA (SmG.nil (ae (Sm.ret ?_)))
 refine ⟨_, rfl, ?_⟩; dsimp only
 exact D.le.refl _
theorem rq (b : List UInt8) (hb : b.length ≤ 900000) (G : Nat → Option D) : aj Tryd.prog G 29 [bi b] (da (Sha.leaf b)) := by
 have hl := Sha.leaf_len b
 have hS : Sha.sum (0 :: b) = Sha.leaf b := rfl
 generalize Sha.leaf b = s at hl hS ⊢
 refine aj.of Tryd.func29 rfl Tryd.ntmps29 (by simp) ?_; intro F hF h0 hT; simp only [List.zipIdx_cons, List.zipIdx_nil, List.map_cons, List.map_nil, Nat.zero_add, Nat.reduceAdd]
 refine Sm.seq ?_
 refine ab hF rfl ?_
 refine SmG.new hF rfl rfl rfl (aO rfl jo) ?_
 refine SmG.nil (ae (Sm.seq ?_))
 refine ab hF rfl ?_
 refine gv hF oM ?_
 refine SmG.call hF rfl rfl (by kernel_rfl) rfl rfl rfl (pf b hb G) ?_
 refine SmG.call hF rfl rfl (by kernel_rfl) rfl rfl rfl (mZ (0 :: b) (by simp; omega) G) ?_
 refine SmG.store hF rfl rfl rfl rfl rfl (by simp (disch := omega) only [go_sem, Nat.reduceEqDiff, aE, da, bx, hl, hS] <;> rfl) ?_
 refine SmG.nil (ae (Sm.ret ?_))
 refine il rfl rfl (by simp (disch := omega) only [go_sem, Nat.reduceEqDiff, aE, bx, hl, hS] <;> rfl) ?_
 exact D.le.refl _
theorem xk (a b : List UInt8) (ha : a.length = 32) (hb : b.length = 32) (G : Nat → Option D) : aj Tryd.prog G 63 [da a, da b] (da (Sha.pair a b)) := by
 have hl := Sha.pair_len a b
 have hS : Sha.sum (1 :: (a ++ b)) = Sha.pair a b := rfl
 generalize Sha.pair a b = s at hl hS ⊢
 refine aj.of Tryd.func63 rfl Tryd.ntmps63 (by simp) ?_; intro F hF h0 hT; simp only [List.zipIdx_cons, List.zipIdx_nil, List.map_cons, List.map_nil, Nat.zero_add, Nat.reduceAdd]
 refine Sm.seq ?_
 refine ab hF rfl ?_
 refine SmG.new hF rfl rfl rfl (mR rfl rfl (by simp (disch := omega) only [go_sem, Nat.reduceEqDiff, aE, da, bx, ha, hb, hl, hS] <;> rfl)) ?_
 refine SmG.new hF rfl rfl rfl (mR rfl rfl (by simp (disch := omega) only [go_sem, Nat.reduceEqDiff, aE, da, bx, ha, hb, hl, hS] <;> rfl)) ?_
 refine SmG.new hF rfl rfl rfl (aO rfl jo) ?_
 refine SmG.nil (ae (Sm.seq ?_))
 refine ab hF rfl ?_
 refine gv hF (aZ rfl rfl (by simp (disch := omega) only [go_sem, Nat.reduceEqDiff, aE, da, bx, ha, hb, hl, hS] <;> rfl)) ?_
 refine gv hF (aZ rfl rfl (by simp (disch := omega) only [go_sem, Nat.reduceEqDiff, aE, da, bx, ha, hb, hl, hS] <;> rfl)) ?_
 refine SmG.call hF rfl rfl (by kernel_rfl) rfl rfl rfl (pm a b ha hb G) ?_
 refine SmG.call hF rfl rfl (by kernel_rfl) rfl rfl rfl (mZ (1 :: (a ++ b)) (by simp; omega) G) ?_
 refine SmG.store hF rfl rfl rfl rfl rfl (by simp (disch := omega) only [go_sem, Nat.reduceEqDiff, aE, da, bx, ha, hb, hl, hS] <;> rfl) ?_
 refine SmG.nil (ae (Sm.ret ?_))
 refine il rfl rfl (by simp (disch := omega) only [go_sem, Nat.reduceEqDiff, aE, bx, hl, hS] <;> rfl) ?_
 exact D.le.refl _
theorem ud (G : Nat → Option D) : aj Tryd.prog G 52 [.list 0 [] true] (da (Sha.sum [])) := (mZ [] (by simp) G).args fun _ => ux wj (xb [])
theorem wL (G : Nat → Option D) : ∀ (n : Nat) (l : List (List UInt8)), l.length = n → Fit l → aj Tryd.prog G 34 [fi l] (da (Sha.root l)) := by
 intro n
 induction n using Nat.strongRecOn with
 | _ n ih =>
 intro l hn hF'
 have hRl := Sha.root_len l
 have hfl := hF'.1
 by_cases h2 : 2 ≤ l.length
 ·have hm1 := Sha.cut_lt h2
  have hmp := Sha.cut_pos l.length
  have k0 := yY l.length h2 (by omega) G
  have k1 := ih (Sha.cut l.length) (by omega) (l.take (Sha.cut l.length)) (by rw [List.length_take]; omega) (pL hF' _)
  have k2 := ih (l.length - Sha.cut l.length) (by omega) (l.drop (Sha.cut l.length)) (by rw [List.length_drop]) (pQ hF' _)
  have k4 := xk _ _ (Sha.root_len (l.take (Sha.cut l.length))) (Sha.root_len (l.drop (Sha.cut l.length))) G
  rw [← Sha.root_cut h2] at k4
  generalize Sha.root (l.take (Sha.cut l.length)) = A at k1 k4
  generalize Sha.root (l.drop (Sha.cut l.length)) = B at k2 k4
  generalize Sha.cut l.length = m at hm1 hmp k0 k1 k2
  generalize Sha.root l = R at k4 hRl ⊢
  have hml : m ≤ l.length := by omega
  refine aj.of Tryd.func34 rfl Tryd.ntmps34 (by simp) ?_; intro F hF h0 hT; simp only [List.zipIdx_cons, List.zipIdx_nil, List.map_cons, List.map_nil, Nat.zero_add, Nat.reduceAdd]
  refine Sm.seq ?_
  refine ab hF rfl ?_
  refine SmG.new hF rfl rfl rfl (aO rfl jo) ?_
  refine SmG.nil (ae (Sm.seq (Sm.seq ?_)))
  refine ab hF rfl ?_
  refine gv hF oM ?_
  refine gv hF (gG rfl rfl (by simp (disch := omega) only [go_sem, Nat.reduceEqDiff, aE, fi, da, bx, hRl, hml, Nat.zero_le, gn, js] <;> rfl)) ?_
  refine gv hF (aA rfl rfl rfl (by first | exact mJ _ _ _ _ _ (by omega) | exact mU _ _ _ _ _ (by omega) | exact kV _ _ _ _ _ _ _)) ?_
  refine SmG.nil (ae ?_)
  refine bq hF rfl ?_
  refine Sm.skip ?_
  refine ae (Sm.seq (Sm.seq ?_))
  refine ab hF rfl ?_
  refine gv hF oM ?_
  refine gv hF (gG rfl rfl (by simp (disch := omega) only [go_sem, Nat.reduceEqDiff, aE, fi, da, bx, hRl, hml, Nat.zero_le, gn, js] <;> rfl)) ?_
  refine gv hF (aA rfl rfl rfl (by first | exact mJ _ _ _ _ _ (by omega) | exact mU _ _ _ _ _ (by omega) | exact kV _ _ _ _ _ _ _)) ?_
  refine SmG.nil (ae ?_)
  refine bq hF rfl ?_
  refine Sm.skip ?_
  refine ae (Sm.seq ?_)
  refine ab hF rfl ?_
  refine gv hF oM ?_
  refine gv hF (gG rfl rfl (by simp (disch := omega) only [go_sem, Nat.reduceEqDiff, aE, fi, da, bx, hRl, hml, Nat.zero_le, gn, js] <;> rfl)) ?_
  refine SmG.call hF rfl rfl (by kernel_rfl) rfl rfl rfl (k0) ?_
  refine gv hF oA (SmG.nil (ae (Sm.seq ?_)))
  refine iX hF (by kernel_rfl) rfl 9 (by kernel_rfl) (by kernel_rfl) ?_
  simp only [List.take_succ_cons, List.take_zero, List.take_nil]
  refine hv hF oM (hv hF oM ?_)
  refine hv hF (dI rfl rfl rfl rfl rfl (by simp (disch := omega) only [go_sem, Nat.reduceEqDiff, aE, fi, da, bx, hRl, hml, Nat.zero_le, gn, js] <;> rfl)) ?_
  refine aF.c hF rfl rfl (by kernel_rfl) rfl rfl rfl (k1) ?_
  refine hv hF oM (hv hF oM ?_)
  refine hv hF (dI rfl rfl rfl rfl rfl (by simp (disch := omega) only [go_sem, Nat.reduceEqDiff, aE, fi, da, bx, hRl, hml, Nat.zero_le, gn, js] <;> rfl)) ?_
  refine aF.c hF rfl rfl (by kernel_rfl) rfl rfl rfl (k2) ?_
  refine aF.c hF rfl rfl (by kernel_rfl) rfl rfl rfl (k4) ?_
  refine aF.last ⟨rfl, ?_⟩
  simp only [List.drop_succ_cons, List.drop_zero, List.drop_nil, List.nil_append, List.cons_append]
  refine SmG.store hF rfl rfl rfl rfl rfl (by simp (disch := omega) only [go_sem, Nat.reduceEqDiff, aE, fi, da, bx, hRl, hml, Nat.zero_le, gn, js] <;> rfl) ?_
  refine SmG.nil (ae (Sm.ret ?_))
  refine il rfl rfl (by simp (disch := omega) only [go_sem, Nat.reduceEqDiff, aE, bx, hRl] <;> rfl) ?_
  exact D.le.refl _
 ·rcases l with _ | ⟨b, _ | ⟨c, l⟩⟩
  ·rw [Sha.root_nil] at hRl ⊢
   have k1 := ud G
   generalize Sha.sum [] = R at k1 hRl ⊢
   refine aj.of Tryd.func34 rfl Tryd.ntmps34 (by simp) ?_; intro F hF h0 hT; simp only [List.zipIdx_cons, List.zipIdx_nil, List.map_cons, List.map_nil, Nat.zero_add, Nat.reduceAdd]
   refine Sm.seq ?_
   refine ab hF rfl ?_
   refine SmG.new hF rfl rfl rfl (aO rfl jo) ?_
   refine SmG.nil (ae (Sm.seq (Sm.seq ?_)))
   refine ab hF rfl ?_
   refine gv hF oM ?_
   refine gv hF (gG rfl rfl (by simp (disch := omega) only [go_sem, Nat.reduceEqDiff, aE, fi, da, bx, hRl] <;> rfl)) ?_
   refine gv hF (aA rfl rfl rfl (by first | exact mJ _ _ _ _ _ (by omega) | exact mU _ _ _ _ _ (by omega) | exact kV _ _ _ _ _ _ _)) ?_
   refine SmG.nil (ae ?_)
   refine cP hF rfl ?_
   refine Sm.seq ?_
   refine ab hF rfl ?_
   refine SmG.call hF rfl rfl (by kernel_rfl) rfl rfl rfl (k1) ?_
   refine SmG.store hF rfl rfl rfl rfl rfl (by simp (disch := omega) only [go_sem, Nat.reduceEqDiff, aE, fi, da, bx, hRl] <;> rfl) ?_
   refine SmG.nil (ae (Sm.ret ?_))
   simp only [cZ, gA]
   refine il rfl rfl (by simp (disch := omega) only [go_sem, Nat.reduceEqDiff, aE, bx, hRl] <;> rfl) ?_
   exact D.le.refl _
  ·rw [Sha.root_one] at hRl ⊢
   have k1 := rq b (hF'.2 b (by simp)) G
   generalize Sha.leaf b = R at k1 hRl ⊢
   refine aj.of Tryd.func34 rfl Tryd.ntmps34 (by simp) ?_; intro F hF h0 hT; simp only [List.zipIdx_cons, List.zipIdx_nil, List.map_cons, List.map_nil, Nat.zero_add, Nat.reduceAdd]
   refine Sm.seq ?_
   refine ab hF rfl ?_
   refine SmG.new hF rfl rfl rfl (aO rfl jo) ?_
   refine SmG.nil (ae (Sm.seq (Sm.seq ?_)))
   refine ab hF rfl ?_
   refine gv hF oM ?_
   refine gv hF (gG rfl rfl (by simp (disch := omega) only [go_sem, Nat.reduceEqDiff, aE, fi, aS, bi, da, bx, hRl] <;> rfl)) ?_
   refine gv hF (aA rfl rfl rfl (by first | exact mJ _ _ _ _ _ (by omega) | exact mU _ _ _ _ _ (by omega) | exact kV _ _ _ _ _ _ _)) ?_
   refine SmG.nil (ae ?_)
   refine bq hF rfl ?_
   refine Sm.skip ?_
   refine ae (Sm.seq (Sm.seq ?_))
   refine ab hF rfl ?_
   refine gv hF oM ?_
   refine gv hF (gG rfl rfl (by simp (disch := omega) only [go_sem, Nat.reduceEqDiff, aE, fi, aS, bi, da, bx, hRl] <;> rfl)) ?_
   refine gv hF (aA rfl rfl rfl (by first | exact mJ _ _ _ _ _ (by omega) | exact mU _ _ _ _ _ (by omega) | exact kV _ _ _ _ _ _ _)) ?_
   refine SmG.nil (ae ?_)
   refine cP hF rfl ?_
   refine Sm.seq ?_
   refine ab hF rfl ?_
   refine gv hF oM ?_
   refine gv hF (az rfl rfl rfl (by simp (disch := omega) only [go_sem, Nat.reduceEqDiff, aE, fi, aS, bi, da, bx, hRl] <;> rfl)) ?_
   refine gv hF (aZ rfl rfl (by simp (disch := omega) only [go_sem, Nat.reduceEqDiff, aE, fi, aS, bi, da, bx, hRl] <;> rfl)) ?_
   refine SmG.call hF rfl rfl (by kernel_rfl) rfl rfl rfl (k1) ?_
   refine SmG.store hF rfl rfl rfl rfl rfl (by simp (disch := omega) only [go_sem, Nat.reduceEqDiff, aE, fi, aS, bi, da, bx, hRl] <;> rfl) ?_
   refine SmG.nil (ae (Sm.ret ?_))
   simp only [cZ, gA]
   refine il rfl rfl (by simp (disch := omega) only [go_sem, Nat.reduceEqDiff, aE, bx, hRl] <;> rfl) ?_
   exact D.le.refl _
  ·simp at h2
end
end Go.Proofs.YtbaccmkhjmmlnaaDoor
namespace Go.Proofs.YtbaccmkhjmmlnaaDoor.Sha
end Go.Proofs.YtbaccmkhjmmlnaaDoor.Sha
namespace Go.Proofs.YtbaccmkhjmmlnaaDoor
end Go.Proofs.YtbaccmkhjmmlnaaDoor
namespace Go.Proofs.YtbaccmkhjmmlnaaDoor.Sha
def Ah (s : Bool) (q h : List UInt8) : List UInt8 := 1 :: (if s then q ++ h else h ++ q)
def chain (x : List UInt8) : List (Bool × List UInt8) → List (List UInt8)
 | [] => [x]
 | (s, q) :: r => x :: chain (Ah s q (sum x)) r
def top (x : List UInt8) : List (Bool × List UInt8) → List UInt8
 | [] => sum x
 | (s, q) :: r => top (Ah s q (sum x)) r
def Met (a b : List (List UInt8)) : Prop := ∃ x ∈ a, ∃ y ∈ b, x ≠ y ∧ sum x = sum y
end Go.Proofs.YtbaccmkhjmmlnaaDoor.Sha
namespace Go.Proofs.YtbaccmkhjmmlnaaDoor
section
open Go.RowKit
def elems (xs : List (List UInt8)) : List (List UInt8) := (xs.take 9).map (·.take 40)
set_option maxRecDepth 100000
end
section
open Go.RowKit
set_option maxRecDepth 100000
end
section
namespace Sha
end Sha
end
section
open Go.RowKit
set_option maxRecDepth 100000
end
section
open Go.RowKit
set_option maxRecDepth 100000
end
section
open Go.RowKit
set_option maxRecDepth 100000
end
section
open Go.RowKit
set_option maxRecDepth 100000
end
section
open Go.RowKit
set_option maxRecDepth 100000
end
section
open Go.RowKit
set_option maxRecDepth 100000
end
section
open Go.RowKit
set_option maxRecDepth 100000
end
section
open Go.RowKit
set_option maxRecDepth 100000
section
open Classical
noncomputable def km (l : List (List UInt8)) : Option (List UInt8) := if Fit l then some (Sha.root l) else none
theorem rX {l : List (List UInt8)} {r : List UInt8} (h : km l = some r) : aj Tryd.prog HG 32 [.list 1 (l.map aS) false] (.agg 32 (aI r)) := by
 unfold km at h; split at h
 ·cases h; exact Am l (by assumption)
 ·cases h
noncomputable def gu (l : List (List UInt8)) (i : Int) : Option (List (List UInt8) × Int) :=
 if Fit l then (if i < 0 ∨ (l.length : Int) ≤ i then some ([], 1) else some (Sha.proof l i.toNat, 0)) else none
theorem aj.res {P : Program} {G : Nat → Option D} {f : FuncId} {ds : List D} {r r' : D} (h : aj P G f ds r) (hr : r.le r') : aj P G f ds r' := by
 intro C w vs hG hk ha
 refine Calls.mono (h C w vs hG hk ha) ?_
 rintro e w' ⟨v, C', h1, h2, h3⟩
 exact ⟨v, C', h1, h2, hr _ _ h3⟩
theorem q9 {l : List (List UInt8)} {i : Int} {r : List (List UInt8) × Int} (h : gu l i = some r) : aj Tryd.prog HG 39 [.list 1 (l.map aS) false, .v (.int .i64 i)] (.tup [.list 32 (r.1.map aI) false, .v (.int .i64 r.2)]) := by
 unfold gu at h; split at h
 ·rename_i hF
  split at h
  ·rename_i hi
   cases h
   exact (uV l i hi hF.1).res (tJ ⟨eV _ _ _, D.le.refl _, trivial⟩)
  ·cases h
   obtain ⟨n, rfl⟩ : ∃ n : Nat, i = n := ⟨i.toNat, by omega⟩
   exact zD l n hF (by omega)
 ·cases h
noncomputable def jC (root : List UInt8) (n i : Int) (b : List UInt8) (p : List (List UInt8)) : Option Bool :=
 if root.length = 32 ∧ b.length ≤ 900000 ∧ Len32 p ∧ p.length ≤ 1000000 ∧ n ≤ 4294967296 ∧ (-9223372036854775808 ≤ n) ∧ (-9223372036854775808 ≤ i ∧ i ≤ 9223372036854775807) then some (Sha.check root n i b p) else none
theorem qX {root : List UInt8} {n i : Int} {b : List UInt8} {p : List (List UInt8)} {r : Bool} (h : jC root n i b p = some r) : aj Tryd.prog HG 46 [.agg 32 (aI root), .v (.int .i64 n), .v (.int .i64 i), .list 1 (b.map aH) false, .list 32 (p.map aI) false] (.v (.bool r)) := by
 unfold jC at h; split at h
 ·rename_i hc
  obtain ⟨h1, h2, h3, h4, h5, h6, h7⟩ := hc
  cases h; exact zx root b n i p h1 h2 h3 h4 h5
 ·cases h
noncomputable def ge (l : List UInt8) : Option (List UInt8) := if l.length ≤ 1000000 then some (Sha.sum l) else none
theorem fj {l r : List UInt8} (h : ge l = some r) : aj Tryd.prog HG 52 [.list 1 (l.map aH) false] (.agg 32 (aI r)) := by
 unfold ge at h; split at h
 ·cases h; exact mZ l (by assumption) HG
 ·cases h
noncomputable def fg (l : List UInt8) : Option (List UInt8) := if l.length ≤ 900000 then some (0 :: l) else none
theorem lg {l r : List UInt8} (h : fg l = some r) : aj Tryd.prog HG 56 [.list 1 (l.map aH) false] (.list 1 (r.map aH) false) := by
 unfold fg at h; split at h
 ·cases h; exact pf l (by assumption) HG
 ·cases h
noncomputable def fh (a b : List UInt8) : Option (List UInt8) := if a.length = 32 ∧ b.length = 32 then some (1 :: (a ++ b)) else none
theorem lu {a b r : List UInt8} (h : fh a b = some r) : aj Tryd.prog HG 58 [.agg 32 (aI a), .agg 32 (aI b)] (.list 1 (r.map aH) false) := by
 unfold fh at h; split at h
 ·rename_i hc
  cases h; exact pm a b hc.1 hc.2 HG
 ·cases h
noncomputable def gL (l : List UInt8) : Option (List UInt8) := if l.length ≤ 900000 then some (Sha.leaf l) else none
theorem nB {l r : List UInt8} (h : gL l = some r) : aj Tryd.prog HG 29 [.list 1 (l.map aH) false] (.agg 32 (aI r)) := by
 unfold gL at h; split at h
 ·cases h; exact rq l (by assumption) HG
 ·cases h
noncomputable def eM (l : List (List UInt8)) : Option (List UInt8) := if Fit l then some (Sha.root l) else none
theorem jH {l : List (List UInt8)} {r : List UInt8} (h : eM l = some r) : aj Tryd.prog HG 34 [.list 1 (l.map aS) false] (.agg 32 (aI r)) := by
 unfold eM at h; split at h
 ·cases h; exact wL HG _ l rfl (by assumption)
 ·cases h
end
def f9 (n : Int) : Option Int := if 2 ≤ n ∧ n ≤ 4611686018427387904 then some (Sha.cut n.toNat : Nat) else none
theorem nP {n r : Int} (h : f9 n = some r) : aj Tryd.prog HG 57 [.v (.int .i64 n)] (.v (.int .i64 r)) := by
 unfold f9 at h; split at h
 ·obtain ⟨n, rfl⟩ : ∃ m : Nat, n = m := ⟨n.toNat, by omega⟩
  cases h; exact yY n (by omega) (by omega) HG
 ·cases h
end
section
open Go.RowKit
set_option maxRecDepth 100000
noncomputable def eg (a0 : List Int) (a1 : Int) : Option (List Int) :=
 bif (decide (a1 < 0)) then (
  none
 ) else (
  ob (arI .i64 (a1 - 0)) fun x2 =>
  bif (decide (0 < x2)) then (
   ob (qT x2) fun n4 =>
   some ([] : List Int)
  ) else (
   some ([] : List Int)
  )
 )
set_option maxHeartbeats 4000000 in
theorem lr {a0 : List Int} {a1 : Int} {r : List Int} (h : eg a0 a1 = some r) : eQ Tryd.prog HG 87 [.z, .i a1] .one 1 (r.map (af .i64)) [] := by
 unfold eg at h
 refine eQ.of Tryd.func87 rfl Tryd.ntmps87 (by simp) ?_
 intro F hF h0 hT
 show Sm F _ _ ⟨[(0, .z), (1, .i a1)], [], 0⟩
 refine sr hF (gv hF oA (sn (Sm.seq (sr hF (gv hF oM (gv hF (oB (bh)) (sn ?_)))))))
 refine bw hF rfl (fun hc1 => ?_) (fun hc1 => ?_)
 ·replace h := ifT hc1 h
  refine ab hF rfl ?_
  cases h
 replace h := ifF hc1 h
 refine sk (Sm.seq (sr hF (gv hF oM (gv hF oM ?_))))
 refine SmG.capFull hF Tryd.underlying30 rfl rfl rfl rfl rfl ?_
 refine gv hF oM (gv hF (oN (r8 u30)) (gv hF (oB (nV (v := 0) rfl)) ?_))
 obtain ⟨x2, hx2, h⟩ := aa h
 refine gv hF (oB (nV hx2)) (gv hF oA (sn (sr hF (gv hF oM (gv hF (oB (jk)) (sn ?_))))))
 refine ay hF rfl (fun hc3 => ?_) (fun hc3 => ?_)
 ·replace h := ifF hc3 h
  refine sk (sr hF (gv hF oM (gv hF oA (sn ?_))))
  refine Sm.to (kA (e := [(4, .z)]) (g := []) (m := 0)) ?_
  refine Sm.own (t := 4) 1 rfl ?_
  refine Sm.ret ?_
  obtain rfl := ac h
  exact lA 0 rfl rfl rfl
 replace h := ifT hc3 h
 refine ab hF rfl ?_
 refine gv hF oM (gv hF oM ?_)
 refine SmG.capFull hF Tryd.underlying30 rfl rfl rfl rfl rfl ?_
 refine SmG.sliceNil hF Tryd.underlying30 sz3 rfl rfl rfl rfl rfl rfl ?_
 refine gv hF oM ?_
 obtain ⟨n4, hn4, h⟩ := aa h
 refine SmG.appendMake hF kh Tryd.underlying3 rfl rfl rfl rfl rfl rfl (iN hn4).1 (iN hn4).2.1 (rM (iN hn4).2.2 rfl) (Nat.le_trans (iN hn4).2.2 (by decide)) ?_
 refine gv hF oM (gv hF (oN (r8 u30)) (gv hF (dI rfl rfl rfl rfl rfl (yP u30 rfl sz3)) (gv hF oA (sn (sr hF (gv hF oM (gv hF oA (sn ?_))))))))
 refine Sm.ret ?_
 obtain rfl := ac h
 exact lA 0 rfl rfl rfl
noncomputable def bO (a0 : List (List Int)) (s1 : (Int × Int)) : Option ((Int × Int) ⊕ Int) :=
 bif (decide (s1.2 < (a0.length : Int))) then (
  ob (idx a0 s1.2) fun x6 =>
  ob (arI .i64 (s1.1 + (x6.length : Int))) fun x7 =>
  bif (decide (x7 < 0)) then (
   none
  ) else (
   ob (arI .i64 (s1.2 + 1)) fun x9 =>
   some (.inl (x7, x9))
  )
 ) else (
  some (.inr s1.1)
 )
noncomputable def bP (a0 : List (List Int)) (s12 : (Int × (List Int))) : Option ((Int × (List Int)) ⊕ List Int) :=
 bif (decide (s12.1 < (a0.length : Int))) then (
  ob (idx a0 s12.1) fun x17 =>
  ob (app s12.2 x17) fun x18 =>
  ob (arI .i64 (s12.1 + 1)) fun x19 =>
  some (.inl (x19, x18))
 ) else (
  some (.inr s12.2)
 )
noncomputable def dz (a0 : List (List Int)) : Option (List Int) :=
 ob ((
  bm (bO a0) (0, 0)
  : Option Int)) fun v10 =>
 ob (eg [] v10) fun x11 =>
 ob ((
  bm (bP a0) (0, x11)
  : Option (List Int))) fun v20 =>
 some v20
set_option maxHeartbeats 4000000 in
theorem kT {a0 : List (List Int)} {r : List Int} (h : dz a0 = some r) : eQ Tryd.prog HG 65 [.list 1 (a0.map (ax 1 (af .i64))) false] .one 1 (r.map (af .i64)) [] := by
 unfold dz at h
 refine eQ.of Tryd.func65 rfl Tryd.ntmps65 (by simp) ?_
 intro F hF h0 hT
 show Sm F _ _ ⟨[(0, .d (.list 1 (a0.map (ax 1 (af .i64))) false))], [], 0⟩
 refine sr hF (gv hF oA (sn (sr hF (gv hF oA (sn (Sm.seq ?_))))))
 obtain ⟨v10, hv10, h⟩ := aa h
 refine dt ⟨[(0, .d (.list 1 (a0.map (ax 1 (af .i64))) false)), (3, .i v10)], [], 0⟩ ?_ ?_
 ·replace h := hv10
  refine sr hF (gv hF oM (gv hF (oN (aY u71)) (gv hF oM (sn (Sm.block ?_)))))
  refine ba (bO a0) (fun s1 => ⟨[(0, .d (.list 1 (a0.map (ax 1 (af .i64))) false)), (3, .i s1.1), (9, .d (.list 1 (a0.map (ax 1 (af .i64))) false)), (10, .i (a0.length : Int)), (11, .i s1.2)], [], 0⟩) (0, 0) h (kA) ?_
  intro n2 s1 o3 h hd4
  unfold bO at h
  refine sr hF (gv hF (oB (bh)) (sn (Sm.seq ?_)))
  refine ay hF rfl (fun hc5 => ?_) (fun hc5 => ?_)
  ·replace h := ifF hc5 h
   refine Sm.exit ?_
   replace h := aC h hd4
   obtain rfl := ac h
   exact (kA)
  replace h := ifT hc5 h
  refine sk (Sm.seq (Sm.block (sr hF ?_)))
  obtain ⟨x6, hx6, h⟩ := aa h
  refine gv hF (oI (aT u71 eE hx6)) (gv hF (oL (lP1 eo rfl)) (gv hF oA (sn (sr hF (gv hF oM (gv hF oM (gv hF (oN (aY u30)) ?_)))))))
  obtain ⟨x7, hx7, h⟩ := aa h
  refine gv hF (oB (aU hx7)) (gv hF oA (sn (sr hF (gv hF oM (gv hF (oB (bh)) (sn ?_))))))
  refine bw hF rfl (fun hc8 => ?_) (fun hc8 => ?_)
  ·replace h := ifT hc8 h
   refine ab hF rfl ?_
   cases h
  replace h := ifF hc8 h
  refine Sm.skip ?_
  refine ak (ae ?_)
  refine ab hF rfl ?_
  obtain ⟨x9, hx9, h⟩ := aa h
  refine gv hF (oB (aU hx9)) (gv hF oM (SmG.nil ?_))
  exact bc (aX h hd4) (kA)
 refine sr hF (gv hF oM ?_)
 obtain ⟨x11, hx11, h⟩ := aa h
 refine SmG.callO hF rfl rfl (by kernel_rfl) rfl rfl rfl (lr hx11) ?_
 refine gv hF oA (sn (Sm.seq ?_))
 obtain ⟨v20, hv20, h⟩ := aa h
 refine aW ⟨[(6, .sref 0 0 (v20.map (af .i64)).length)], [(0, dB 1 (v20.map (af .i64)))], 1⟩ ?_ ?_
 ·refine Sm.seq ?_
  refine ab hF rfl ?_
  refine gv hF oM (gv hF oA (sn (Sm.ret ?_)))
  obtain rfl := ac h
  exact lA 0 rfl rfl rfl
 replace h := hv20
 refine sr hF (gv hF oM (gv hF (oN (aY u71)) (gv hF oM (sn (Sm.block ?_)))))
 refine ba (bP a0) (fun s12 => ⟨[(6, .sref 0 0 (s12.2.map (af .i64)).length), (25, .d (.list 1 (a0.map (ax 1 (af .i64))) false)), (26, .i (a0.length : Int)), (27, .i s12.1)], [(0, dB 1 (s12.2.map (af .i64)))], 1⟩) (0, x11) h (kA) ?_
 intro n13 s12 o14 h hd15
 unfold bP at h
 refine sr hF (gv hF (oB (bh)) (sn (Sm.seq ?_)))
 refine ay hF rfl (fun hc16 => ?_) (fun hc16 => ?_)
 ·replace h := ifF hc16 h
  refine Sm.exit ?_
  replace h := aC h hd15
  obtain rfl := ac h
  exact (kA)
 replace h := ifT hc16 h
 refine sk (Sm.seq (Sm.block (sr hF ?_)))
 obtain ⟨x17, hx17, h⟩ := aa h
 refine gv hF (oI (aT u71 eE hx17)) (gv hF (oL (lP1 eo rfl)) (gv hF oA (sn ?_)))
 refine ab hF rfl ?_
 refine gv hF oM (gv hF oM ?_)
 obtain ⟨x18, hx18, h⟩ := aa h
 refine aV hF kh rfl (ys := x17) (row := (af .i64)) rfl rfl rfl rfl rfl rfl rfl rfl (.inl rfl) hx18 (by (repeat' first | exact bn _ | refine be ?_ | refine am ?_ (aP _ _ _) | refine am ?_ (aP _ _ [_]) | refine am ?_ (bD (by rfl)))) ?_
 refine gv hF oA (SmG.nil (ak (ae ?_)))
 refine ab hF rfl ?_
 obtain ⟨x19, hx19, h⟩ := aa h
 refine gv hF (oB (aU hx19)) (gv hF oM (SmG.nil ?_))
 exact bc (aX h hd15) (kA)
noncomputable def dv (a0 : List UInt8) (a1 : Int) : Option (List UInt8) :=
 bif (decide (a1 < 0)) then (
  none
 ) else (
  ob (arI .i64 (a1 - 0)) fun x2 =>
  bif (decide (0 < x2)) then (
   ob (qT x2) fun n4 =>
   some ([] : List UInt8)
  ) else (
   some ([] : List UInt8)
  )
 )
set_option maxHeartbeats 4000000 in
theorem kH {a0 : List UInt8} {a1 : Int} {r : List UInt8} (h : dv a0 a1 = some r) : eQ Tryd.prog HG 64 [.z, .i a1] .one 1 (r.map aH) [] := by
 unfold dv at h
 refine eQ.of Tryd.func64 rfl Tryd.ntmps64 (by simp) ?_
 intro F hF h0 hT
 show Sm F _ _ ⟨[(0, .z), (1, .i a1)], [], 0⟩
 refine sr hF (gv hF oA (sn (Sm.seq (sr hF (gv hF oM (gv hF (oB (bh)) (sn ?_)))))))
 refine bw hF rfl (fun hc1 => ?_) (fun hc1 => ?_)
 ·replace h := ifT hc1 h
  refine ab hF rfl ?_
  cases h
 replace h := ifF hc1 h
 refine sk (Sm.seq (sr hF (gv hF oM (gv hF oM ?_))))
 refine SmG.capFull hF Tryd.underlying24 rfl rfl rfl rfl rfl ?_
 refine gv hF oM (gv hF (oN (r8 u24)) (gv hF (oB (nV (v := 0) rfl)) ?_))
 obtain ⟨x2, hx2, h⟩ := aa h
 refine gv hF (oB (nV hx2)) (gv hF oA (sn (sr hF (gv hF oM (gv hF (oB (jk)) (sn ?_))))))
 refine ay hF rfl (fun hc3 => ?_) (fun hc3 => ?_)
 ·replace h := ifF hc3 h
  refine sk (sr hF (gv hF oM (gv hF oA (sn ?_))))
  refine Sm.to (kA (e := [(4, .z)]) (g := []) (m := 0)) ?_
  refine Sm.own (t := 4) 1 rfl ?_
  refine Sm.ret ?_
  obtain rfl := ac h
  exact lA 0 rfl rfl rfl
 replace h := ifT hc3 h
 refine ab hF rfl ?_
 refine gv hF oM (gv hF oM ?_)
 refine SmG.capFull hF Tryd.underlying24 rfl rfl rfl rfl rfl ?_
 refine SmG.sliceNil hF Tryd.underlying24 sz5 rfl rfl rfl rfl rfl rfl ?_
 refine gv hF oM ?_
 obtain ⟨n4, hn4, h⟩ := aa h
 refine SmG.appendMake hF oD Tryd.underlying3 rfl rfl rfl rfl rfl rfl (iN hn4).1 (iN hn4).2.1 (rM (iN hn4).2.2 rfl) (Nat.le_trans (iN hn4).2.2 (by decide)) ?_
 refine gv hF oM (gv hF (oN (r8 u24)) (gv hF (dI rfl rfl rfl rfl rfl (yP u24 rfl sz5)) (gv hF oA (sn (sr hF (gv hF oM (gv hF oA (sn ?_))))))))
 refine Sm.ret ?_
 obtain rfl := ac h
 exact lA 0 rfl rfl rfl
noncomputable def bI (a0 : List (List UInt8)) (s1 : (Int × Int)) : Option ((Int × Int) ⊕ Int) :=
 bif (decide (s1.2 < (a0.length : Int))) then (
  ob (idx a0 s1.2) fun x6 =>
  ob (arI .i64 (s1.1 + (x6.length : Int))) fun x7 =>
  bif (decide (x7 < 0)) then (
   none
  ) else (
   ob (arI .i64 (s1.2 + 1)) fun x9 =>
   some (.inl (x7, x9))
  )
 ) else (
  some (.inr s1.1)
 )
noncomputable def bG (a0 : List (List UInt8)) (s12 : (Int × (List UInt8))) : Option ((Int × (List UInt8)) ⊕ List UInt8) :=
 bif (decide (s12.1 < (a0.length : Int))) then (
  ob (idx a0 s12.1) fun x17 =>
  ob (app s12.2 x17) fun x18 =>
  ob (arI .i64 (s12.1 + 1)) fun x19 =>
  some (.inl (x19, x18))
 ) else (
  some (.inr s12.2)
 )
noncomputable def cU (a0 : List (List UInt8)) : Option (List UInt8) :=
 ob ((
  bm (bI a0) (0, 0)
  : Option Int)) fun v10 =>
 ob (dv [] v10) fun x11 =>
 ob ((
  bm (bG a0) (0, x11)
  : Option (List UInt8))) fun v20 =>
 some v20
set_option maxHeartbeats 4000000 in
theorem jU {a0 : List (List UInt8)} {r : List UInt8} (h : cU a0 = some r) : eQ Tryd.prog HG 36 [.list 1 (a0.map aS) false] .one 1 (r.map aH) [] := by
 unfold cU at h
 refine eQ.of Tryd.func36 rfl Tryd.ntmps36 (by simp) ?_
 intro F hF h0 hT
 show Sm F _ _ ⟨[(0, .d (.list 1 (a0.map aS) false))], [], 0⟩
 refine sr hF (gv hF oA (sn (sr hF (gv hF oA (sn (Sm.seq ?_))))))
 obtain ⟨v10, hv10, h⟩ := aa h
 refine dt ⟨[(0, .d (.list 1 (a0.map aS) false)), (3, .i v10)], [], 0⟩ ?_ ?_
 ·replace h := hv10
  refine sr hF (gv hF oM (gv hF (oN (aY u61)) (gv hF oM (sn (Sm.block ?_)))))
  refine ba (bI a0) (fun s1 => ⟨[(0, .d (.list 1 (a0.map aS) false)), (3, .i s1.1), (9, .d (.list 1 (a0.map aS) false)), (10, .i (a0.length : Int)), (11, .i s1.2)], [], 0⟩) (0, 0) h (kA) ?_
  intro n2 s1 o3 h hd4
  unfold bI at h
  refine sr hF (gv hF (oB (bh)) (sn (Sm.seq ?_)))
  refine ay hF rfl (fun hc5 => ?_) (fun hc5 => ?_)
  ·replace h := ifF hc5 h
   refine Sm.exit ?_
   replace h := aC h hd4
   obtain rfl := ac h
   exact (kA)
  replace h := ifT hc5 h
  refine sk (Sm.seq (Sm.block (sr hF ?_)))
  obtain ⟨x6, hx6, h⟩ := aa h
  refine gv hF (oI (aT u61 cE hx6)) (gv hF (oL (lP1 eX rfl)) (gv hF oA (sn (sr hF (gv hF oM (gv hF oM (gv hF (oN (aY u24)) ?_)))))))
  obtain ⟨x7, hx7, h⟩ := aa h
  refine gv hF (oB (aU hx7)) (gv hF oA (sn (sr hF (gv hF oM (gv hF (oB (bh)) (sn ?_))))))
  refine bw hF rfl (fun hc8 => ?_) (fun hc8 => ?_)
  ·replace h := ifT hc8 h
   refine ab hF rfl ?_
   cases h
  replace h := ifF hc8 h
  refine Sm.skip ?_
  refine ak (ae ?_)
  refine ab hF rfl ?_
  obtain ⟨x9, hx9, h⟩ := aa h
  refine gv hF (oB (aU hx9)) (gv hF oM (SmG.nil ?_))
  exact bc (aX h hd4) (kA)
 refine sr hF (gv hF oM ?_)
 obtain ⟨x11, hx11, h⟩ := aa h
 refine SmG.callO hF rfl rfl (by kernel_rfl) rfl rfl rfl (kH hx11) ?_
 refine gv hF oA (sn (Sm.seq ?_))
 obtain ⟨v20, hv20, h⟩ := aa h
 refine aW ⟨[(6, .sref 0 0 (v20.map aH).length)], [(0, dB 1 (v20.map aH))], 1⟩ ?_ ?_
 ·refine Sm.seq ?_
  refine ab hF rfl ?_
  refine gv hF oM (gv hF oA (sn (Sm.ret ?_)))
  obtain rfl := ac h
  exact lA 0 rfl rfl rfl
 replace h := hv20
 refine sr hF (gv hF oM (gv hF (oN (aY u61)) (gv hF oM (sn (Sm.block ?_)))))
 refine ba (bG a0) (fun s12 => ⟨[(6, .sref 0 0 (s12.2.map aH).length), (25, .d (.list 1 (a0.map aS) false)), (26, .i (a0.length : Int)), (27, .i s12.1)], [(0, dB 1 (s12.2.map aH))], 1⟩) (0, x11) h (kA) ?_
 intro n13 s12 o14 h hd15
 unfold bG at h
 refine sr hF (gv hF (oB (bh)) (sn (Sm.seq ?_)))
 refine ay hF rfl (fun hc16 => ?_) (fun hc16 => ?_)
 ·replace h := ifF hc16 h
  refine Sm.exit ?_
  replace h := aC h hd15
  obtain rfl := ac h
  exact (kA)
 replace h := ifT hc16 h
 refine sk (Sm.seq (Sm.block (sr hF ?_)))
 obtain ⟨x17, hx17, h⟩ := aa h
 refine gv hF (oI (aT u61 cE hx17)) (gv hF (oL (lP1 eX rfl)) (gv hF oA (sn ?_)))
 refine ab hF rfl ?_
 refine gv hF oM (gv hF oM ?_)
 obtain ⟨x18, hx18, h⟩ := aa h
 refine aV hF oD rfl (ys := x17) (row := aH) rfl rfl rfl rfl rfl rfl rfl rfl (.inl rfl) hx18 (by (repeat' first | exact bn _ | refine be ?_ | refine am ?_ (aP _ _ _) | refine am ?_ (aP _ _ [_]) | refine am ?_ (bD (by rfl)))) ?_
 refine gv hF oA (SmG.nil (ak (ae ?_)))
 refine ab hF rfl ?_
 obtain ⟨x19, hx19, h⟩ := aa h
 refine gv hF (oB (aU hx19)) (gv hF oM (SmG.nil ?_))
 exact bc (aX h hd15) (kA)
end
section
open Go.RowKit
set_option maxRecDepth 100000
structure Ans where
 version : Int
 index : Int
 count : Int
 pos : Ps
 entry : Rs
 proof : List (List UInt8)
def Ans.row (x : Ans) : List D := [.v (.int .i64 x.version), .v (.int .i64 x.index), .v (.int .i64 x.count), .list 1 (x.pos.at_.map (af .i64)) false, .list 1 (x.pos.h0.map (af .i64)) false, .list 1 (x.pos.h1.map (af .i64)) false, .v (.int .i64 x.pos.rights), .v (.int .i64 x.pos.side), .v (.int .i64 x.entry.out), .v (.int .i64 x.entry.n), .list 32 (x.proof.map aI) false]
structure Pvd where
 l : List (List UInt8)
 e : Int
def Pvd.row (x : Pvd) : List D := [.list 32 (x.l.map aI) false, .v (.int .i64 x.e)]
noncomputable def eP (a0 : GRaw) (x1 : Brd) (x2 : Int) (v5 : Int) (s9 : (Int × (List (List Stp)))) : Option ((Int × (List (List Stp))) ⊕ List (List Stp)) :=
 bif (decide (s9.1 < (a0.k0.length : Int))) then (
  bif (decide (s9.1 < 4)) then (
   ob (idx a0.k0 s9.1) fun x15 =>
   ob (eR x15 (x1.next.length : Int) v5 x2) fun x16 =>
   ob (app s9.2 [x16]) fun x17 =>
   ob (arI .i64 (s9.1 + 1)) fun x18 =>
   some (.inl (x18, x17))
  ) else (
   some (.inr s9.2)
  )
 ) else (
  some (.inr s9.2)
 )
noncomputable def eJ (a0 : GRaw) (x1 : Brd) (x2 : Int) (v5 : Int) (s25 : (Int × (List (List Stp)))) : Option ((Int × (List (List Stp))) ⊕ List (List Stp)) :=
 bif (decide (s25.1 < (a0.k1.length : Int))) then (
  bif (decide (s25.1 < 4)) then (
   ob (idx a0.k1 s25.1) fun x31 =>
   ob (eR x31 (x1.next.length : Int) v5 x2) fun x32 =>
   ob (app s25.2 [x32]) fun x33 =>
   ob (arI .i64 (s25.1 + 1)) fun x34 =>
   some (.inl (x34, x33))
  ) else (
   some (.inr s25.2)
  )
 ) else (
  some (.inr s25.2)
 )
noncomputable def gV (s41 : Int) : Option (Int ⊕ List Knd) :=
 none
noncomputable def eI (a0 : GRaw) (x1 : Brd) (v5 : Int) (s60 : (Int × (List Cls))) : Option ((Int × (List Cls)) ⊕ List Cls) :=
 bif (decide (s60.1 < (a0.c.length : Int))) then (
  bif (decide (s60.1 < 3)) then (
   ob (idx a0.c s60.1) fun x66 =>
   ob (cF (x66.1.toNat : Int) 3) fun x67 =>
   ob (arI .i64 (1 + x67)) fun x68 =>
   ob (idx a0.c s60.1) fun x69 =>
   ob (jz .u8 (x69.1.toNat : Int) 4) fun x70 =>
   ob (arI .i64 x70) fun x71 =>
   ob (cF x71 3) fun x72 =>
   ob (arI .i64 (1 + x72)) fun x73 =>
   ob ((
    bif (x68 != 3) then (
     ob (idx a0.c s60.1) fun x75 =>
     ob (cF (x75.2.1.toNat : Int) v5) fun x76 =>
     some x76
    ) else (
     some 0
    )
    : Option Int)) fun v77 =>
   ob ((
    bif (x68 == 2) then (
     ob (idx a0.c s60.1) fun x79 =>
     ob (cF (x79.2.2.toNat : Int) x1.cells) fun x80 =>
     some x80
    ) else (
     some 0
    )
    : Option Int)) fun v81 =>
   ob ((
    bif (x68 == 3) then (
     ob (idx a0.c s60.1) fun x83 =>
     ob (cF (x83.2.2.toNat : Int) 3) fun x84 =>
     some x84
    ) else (
     some v81
    )
    : Option Int)) fun v85 =>
   ob (app s60.2 [(⟨x68, v77, v85, x73⟩ : Cls)]) fun x86 =>
   ob (arI .i64 (s60.1 + 1)) fun x87 =>
   some (.inl (x87, x86))
  ) else (
   some (.inr s60.2)
  )
 ) else (
  some (.inr s60.2)
 )
noncomputable def fH (a0 : GRaw) : Option Gm :=
 ob (fD a0.w a0.h a0.cut) fun x1 =>
 ob (cF (a0.f0.toNat : Int) 3) fun x2 =>
 ob (cF (a0.f1.toNat : Int) 4) fun x3 =>
 ob ((
  bif (decide (0 < (a0.k1.length : Int))) then (
   some 2
  ) else (
   some 1
  )
  : Option Int)) fun v5 =>
 ob ((
  bif (decide (0 < v5)) then (
   ob ((
    ob (idx ([([97] : List UInt8), ([98, 101, 101] : List UInt8)]) 0) fun x7 =>
    ob (j3 .u8 (a0.f2.toNat : Int) 0) fun x8 =>
    ob ((
     bm (eP a0 x1 x2 v5) (0, ([] : List (List Stp)))
     : Option (List (List Stp)))) fun v19 =>
    ob (app ([] : List Knd) [(⟨x7, v19, ((dY .u8 x8 1) == 1)⟩ : Knd)]) fun x20 =>
    some x20
    : Option (List Knd))) fun v21 =>
   bif (decide (1 < v5)) then (
    ob ((
     ob (idx ([([97] : List UInt8), ([98, 101, 101] : List UInt8)]) 1) fun x23 =>
     ob (j3 .u8 (a0.f2.toNat : Int) 1) fun x24 =>
     ob ((
      bm (eJ a0 x1 x2 v5) (0, ([] : List (List Stp)))
      : Option (List (List Stp)))) fun v35 =>
     ob (app v21 [(⟨x23, v35, ((dY .u8 x24 1) == 1)⟩ : Knd)]) fun x36 =>
     some x36
     : Option (List Knd))) fun v37 =>
    bif (decide (2 < v5)) then (
     ob (idx ([([97] : List UInt8), ([98, 101, 101] : List UInt8)]) 2) fun x39 =>
     ob (j3 .u8 (a0.f2.toNat : Int) 2) fun x40 =>
     bm (gV) 0
    ) else (
     some v37
    )
   ) else (
    some v21
   )
  ) else (
   some []
  )
  : Option (List Knd))) fun v45 =>
 ob ((
  ob (cF (a0.f3.toNat : Int) 4) fun x46 =>
  bif (x46 == 3) then (
   ob (jz .u8 (a0.f3.toNat : Int) 4) fun x48 =>
   ob (arI .i64 x48) fun x49 =>
   ob (cF x49 3) fun x50 =>
   ob (arI .i64 (1 + x50)) fun x51 =>
   some x51
  ) else (
   some 3
  )
  : Option Int)) fun v52 =>
 ob ((
  ob (cF (a0.f4.toNat : Int) 4) fun x53 =>
  bif (x53 == 3) then (
   ob (jz .u8 (a0.f4.toNat : Int) 4) fun x55 =>
   ob (arI .i64 x55) fun x56 =>
   ob (cF x56 3) fun x57 =>
   ob (arI .i64 (1 + x57)) fun x58 =>
   some x58
  ) else (
   some 2
  )
  : Option Int)) fun v59 =>
 ob ((
  bm (eI a0 x1 v5) (0, ([] : List Cls))
  : Option (List Cls))) fun v88 =>
 some (⟨x1, v45, x2, (x3 == 3), v88, v52, v59⟩ : Gm)
set_option maxHeartbeats 4000000 in
theorem nv {a0 : GRaw} {r : Gm} (h : fH a0 = some r) : aj Tryd.prog HG 24 [.agg 12 (GRaw.row a0)] (.agg 9 (Gm.row r)) := by
 unfold fH at h
 refine aj.of Tryd.func24 rfl Tryd.ntmps24 (by simp) ?_
 intro F hF h0 hT
 show Sm F _ _ ⟨[(0, .d (.agg 12 (GRaw.row a0)))], [], 0⟩
 refine sr hF ?_
 refine bQ hF gi ?_
 refine SmG.new hF rfl rfl rfl (aO rfl zO) ?_
 refine sn (Sm.seq ?_)
 refine dG hF 19 ?_
 refine hv hF (oF (ai Aq rfl)) (hv hF (oL (lP1 ag5 rfl)) (hv hF (oF (ai zP rfl)) (hv hF (oL (lP1 ag5 rfl)) (hv hF (oF (ai Ao rfl)) (hv hF (oL (lP1 ag5 rfl)) ?_)))))
 obtain ⟨x1, hx1, h⟩ := aa h
 refine cH hF (nc hx1) ?_
 refine hv hF (oF (ai jG rfl)) (hv hF (oI (ci u27 sz5 rfl rfl)) (hv hF (oL (lP1 ag5 rfl)) (hv hF (oC (ek u5 u3 (dM _))) ?_)))
 obtain ⟨x2, hx2, h⟩ := aa h
 refine hv hF (oB (bM hx2)) (hv hF (oF (ai jG rfl)) (hv hF (oI (ci u27 sz5 rfl rfl)) (hv hF (oL (lP1 ag5 rfl)) ?_)))
 obtain ⟨x3, hx3, h⟩ := aa h
 refine hv hF (oB (bM hx3)) (hv hF (oB (cD)) (hv hF (x := .d (.agg 9 [.i x1.cells, .list 1 (x1.next.map (ax 1 (af .i64))) false, .l x1.turn, .z, .i x2, .v (.bool (x3 == 3)), .z, .i 3, .i 2])) (a8 rfl u77 (by kernel_rfl) rfl (bg (n := 9) Ad Gb rfl rfl)) ?_))
 refine aF.new hF rfl rfl rfl rfl zO ?_
 refine hE ?_
 refine SmG.store hF rfl rfl rfl rfl rfl (bd (ys := [.i x1.cells, .d (.list 1 (x1.next.map (ax 1 (af .i64))) false), .l x1.turn, .z, .i x2, .d (.v (.bool (x3 == 3))), .z, .i 3, .i 2]) (r := [.i 0, .z, .z, .z, .i 0, .d (.v (.bool false)), .z, .i 0, .i 0]) (rows' := [[.i x1.cells, .d (.list 1 (x1.next.map (ax 1 (af .i64))) false), .l x1.turn, .z, .i x2, .d (.v (.bool (x3 == 3))), .z, .i 3, .i 2]]) rfl rfl rfl q6 rfl rfl rfl rfl rfl) ?_
 refine sn (sr hF (gv hF oA (sn (Sm.seq ?_))))
 obtain ⟨v5, hv5, h⟩ := aa h
 refine dt ⟨[(1, .d (.ptr 12 (GRaw.row a0))), (2, .ref 0 0 0), (3, .ref 1 0 0), (4, .i v5)], [(1, ⟨9, [[.i x1.cells, .d (.list 1 (x1.next.map (ax 1 (af .i64))) false), .l x1.turn, .z, .i x2, .d (.v (.bool (x3 == 3))), .z, .i 3, .i 2]]⟩), (0, ⟨9, [[.i 0, .z, .z, .z, .i 0, .d (.v (.bool false)), .z, .i 0, .i 0]]⟩)], 2⟩ ?_ ?_
 ·replace h := hv5
  refine sr hF (gv hF (oF (ai mX rfl)) (gv hF (oI (ci u25 cE rfl rfl)) (gv hF (oL (lP1 eX rfl)) (gv hF (oN (aY u24)) (gv hF (oB (jk)) (sn ?_))))))
  refine ay hF rfl (fun hc4 => ?_) (fun hc4 => ?_)
  ·replace h := ifF hc4 h
   refine Sm.skip ?_
   obtain rfl := ac h
   exact (kA)
  replace h := ifT hc4 h
  refine ab hF rfl ?_
  refine gv hF oA (SmG.nil ?_)
  obtain rfl := ac h
  exact (kA)
 refine Sm.seq ?_
 obtain ⟨v45, hv45, h⟩ := aa h
 refine aW ⟨[(1, .d (.ptr 12 (GRaw.row a0))), (2, .ref 0 0 0), (3, .ref 1 0 0), (4, .i v5)], [(1, ⟨9, [[.i x1.cells, .d (.list 1 (x1.next.map (ax 1 (af .i64))) false), .l x1.turn, .d (.list 3 (v45.map Knd.row) false), .i x2, .d (.v (.bool (x3 == 3))), .z, .i 3, .i 2]]⟩), (0, ⟨9, [[.i 0, .z, .z, .z, .i 0, .d (.v (.bool false)), .z, .i 0, .i 0]]⟩)], 7⟩ ?_ ?_
 ·refine Sm.seq ?_
  obtain ⟨v52, hv52, h⟩ := aa h
  refine dt ⟨[(1, .d (.ptr 12 (GRaw.row a0))), (2, .ref 0 0 0), (3, .ref 1 0 0), (4, .i v5)], [(1, ⟨9, [[.i x1.cells, .d (.list 1 (x1.next.map (ax 1 (af .i64))) false), .l x1.turn, .d (.list 3 (v45.map Knd.row) false), .i x2, .d (.v (.bool (x3 == 3))), .z, .i v52, .i 2]]⟩), (0, ⟨9, [[.i 0, .z, .z, .z, .i 0, .d (.v (.bool false)), .z, .i 0, .i 0]]⟩)], 7⟩ ?_ ?_
  ·replace h := hv52
   refine sr hF (gv hF (oF (ai jG rfl)) (gv hF (oI (ci u27 sz5 rfl rfl)) (gv hF (oL (lP1 ag5 rfl)) ?_)))
   obtain ⟨x46, hx46, h⟩ := aa h
   refine gv hF (oB (bM hx46)) (gv hF (oB (cD)) (sn ?_))
   refine ay hF rfl (fun hc47 => ?_) (fun hc47 => ?_)
   ·replace h := ifF hc47 h
    refine Sm.skip ?_
    obtain rfl := ac h
    exact (kA)
   replace h := ifT hc47 h
   refine ab hF rfl ?_
   refine gv hF (oF (ai jG rfl)) (gv hF (oI (ci u27 sz5 rfl rfl)) (gv hF (oL (lP1 ag5 rfl)) ?_))
   obtain ⟨x48, hx48, h⟩ := aa h
   refine gv hF (oB (kC hx48)) ?_
   obtain ⟨x49, hx49, h⟩ := aa h
   refine gv hF (oC (ki u5 u3 hx49)) ?_
   obtain ⟨x50, hx50, h⟩ := aa h
   refine gv hF (oB (bM hx50)) ?_
   obtain ⟨x51, hx51, h⟩ := aa h
   refine gv hF (oB (aU hx51)) (gv hF (oF (aD zL)) ?_)
   refine SmG.store hF rfl rfl rfl rfl rfl (cM (rows' := [[.i x1.cells, .d (.list 1 (x1.next.map (ax 1 (af .i64))) false), .l x1.turn, .d (.list 3 (v45.map Knd.row) false), .i x2, .d (.v (.bool (x3 == 3))), .z, .i x51, .i 2]]) rfl rfl rfl sz3 rfl rfl rfl) ?_
   refine SmG.nil ?_
   obtain rfl := ac h
   exact (kA)
  refine Sm.seq ?_
  obtain ⟨v59, hv59, h⟩ := aa h
  refine dt ⟨[(1, .d (.ptr 12 (GRaw.row a0))), (2, .ref 0 0 0), (3, .ref 1 0 0), (4, .i v5)], [(1, ⟨9, [[.i x1.cells, .d (.list 1 (x1.next.map (ax 1 (af .i64))) false), .l x1.turn, .d (.list 3 (v45.map Knd.row) false), .i x2, .d (.v (.bool (x3 == 3))), .z, .i v52, .i v59]]⟩), (0, ⟨9, [[.i 0, .z, .z, .z, .i 0, .d (.v (.bool false)), .z, .i 0, .i 0]]⟩)], 7⟩ ?_ ?_
  ·replace h := hv59
   refine sr hF (gv hF (oF (ai jG rfl)) (gv hF (oI (ci u27 sz5 rfl rfl)) (gv hF (oL (lP1 ag5 rfl)) ?_)))
   obtain ⟨x53, hx53, h⟩ := aa h
   refine gv hF (oB (bM hx53)) (gv hF (oB (cD)) (sn ?_))
   refine ay hF rfl (fun hc54 => ?_) (fun hc54 => ?_)
   ·replace h := ifF hc54 h
    refine Sm.skip ?_
    obtain rfl := ac h
    exact (kA)
   replace h := ifT hc54 h
   refine ab hF rfl ?_
   refine gv hF (oF (ai jG rfl)) (gv hF (oI (ci u27 sz5 rfl rfl)) (gv hF (oL (lP1 ag5 rfl)) ?_))
   obtain ⟨x55, hx55, h⟩ := aa h
   refine gv hF (oB (kC hx55)) ?_
   obtain ⟨x56, hx56, h⟩ := aa h
   refine gv hF (oC (ki u5 u3 hx56)) ?_
   obtain ⟨x57, hx57, h⟩ := aa h
   refine gv hF (oB (bM hx57)) ?_
   obtain ⟨x58, hx58, h⟩ := aa h
   refine gv hF (oB (aU hx58)) (gv hF (oF (aD Af)) ?_)
   refine SmG.store hF rfl rfl rfl rfl rfl (cM (rows' := [[.i x1.cells, .d (.list 1 (x1.next.map (ax 1 (af .i64))) false), .l x1.turn, .d (.list 3 (v45.map Knd.row) false), .i x2, .d (.v (.bool (x3 == 3))), .z, .i v52, .i x58]]) rfl rfl rfl sz3 rfl rfl rfl) ?_
   refine SmG.nil ?_
   obtain rfl := ac h
   exact (kA)
  refine Sm.seq ?_
  obtain ⟨v88, hv88, h⟩ := aa h
  refine aW ⟨[(2, .ref 0 0 0), (3, .ref 1 0 0)], [(1, ⟨9, [[.i x1.cells, .d (.list 1 (x1.next.map (ax 1 (af .i64))) false), .l x1.turn, .d (.list 3 (v45.map Knd.row) false), .i x2, .d (.v (.bool (x3 == 3))), .d (.list 4 (v88.map Cls.row) false), .i v52, .i v59]]⟩), (0, ⟨9, [[.i 0, .z, .z, .z, .i 0, .d (.v (.bool false)), .z, .i 0, .i 0]]⟩)], 8⟩ ?_ ?_
  ·refine Sm.seq ?_
   refine ab hF rfl ?_
   refine gv hF (x := .d (.agg 9 [.i x1.cells, .list 1 (x1.next.map (ax 1 (af .i64))) false, .l x1.turn, .list 3 (v45.map Knd.row) false, .i x2, .v (.bool (x3 == 3)), .list 4 (v88.map Cls.row) false, .i v52, .i v59])) (oL (aG rfl rfl vj q6 rfl rfl)) ?_
   refine SmG.store hF rfl rfl rfl rfl rfl (bd (ys := [.i x1.cells, .d (.list 1 (x1.next.map (ax 1 (af .i64))) false), .l x1.turn, .d (.list 3 (v45.map Knd.row) false), .i x2, .d (.v (.bool (x3 == 3))), .d (.list 4 (v88.map Cls.row) false), .i v52, .i v59]) (r := [.i 0, .z, .z, .z, .i 0, .d (.v (.bool false)), .z, .i 0, .i 0]) (rows' := [[.i x1.cells, .d (.list 1 (x1.next.map (ax 1 (af .i64))) false), .l x1.turn, .d (.list 3 (v45.map Knd.row) false), .i x2, .d (.v (.bool (x3 == 3))), .d (.list 4 (v88.map Cls.row) false), .i v52, .i v59]]) rfl rfl rfl q6 rfl rfl rfl rfl rfl) ?_
   refine sn (Sm.ret ?_)
   obtain rfl := ac h
   exact dS (RetR.cons (RetO.cell rfl (aG (ds := [.i x1.cells, .list 1 (x1.next.map (ax 1 (af .i64))) false, .l x1.turn, .list 3 (v45.map Knd.row) false, .i x2, .v (.bool (x3 == 3)), .list 4 (v88.map Cls.row) false, .i v52, .i v59]) rfl rfl vj q6 rfl rfl)) (RetR.nil)) (D.le.refl _)
  replace h := hv88
  refine sr hF (gv hF oA (sn (Sm.block ?_)))
  refine Sm.to (kA (e := [(1, .d (.ptr 12 (GRaw.row a0))), (2, .ref 0 0 0), (3, .ref 1 0 0), (4, .i v5), (8, .i 0)]) (g := [(1, ⟨9, [[.i x1.cells, .d (.list 1 (x1.next.map (ax 1 (af .i64))) false), .l x1.turn, .d (.list 3 (v45.map Knd.row) false), .i x2, .d (.v (.bool (x3 == 3))), .z, .i v52, .i v59]]⟩), (0, ⟨9, [[.i 0, .z, .z, .z, .i 0, .d (.v (.bool false)), .z, .i 0, .i 0]]⟩)]) (m := 7)) ?_
  refine Sm.ownCell 1 0 6 4 rfl rfl rfl ?_
  refine ba (eI a0 x1 v5) (fun s60 => ⟨[(1, .d (.ptr 12 (GRaw.row a0))), (2, .ref 0 0 0), (3, .ref 1 0 0), (4, .i v5), (8, .i s60.1)], [(7, dB 4 (s60.2.map Cls.row)), (1, ⟨9, [[.i x1.cells, .d (.list 1 (x1.next.map (ax 1 (af .i64))) false), .l x1.turn, .d (.list 3 (v45.map Knd.row) false), .i x2, .d (.v (.bool (x3 == 3))), .sref 7 0 (s60.2.map Cls.row).length, .i v52, .i v59]]⟩), (0, ⟨9, [[.i 0, .z, .z, .z, .i 0, .d (.v (.bool false)), .z, .i 0, .i 0]]⟩)], 8⟩) (0, ([] : List Cls)) h (kA) ?_
  intro n61 s60 o62 h hd63
  unfold eI at h
  refine Sm.seq (sr hF (gv hF oM (gv hF (oF (ai mV rfl)) (gv hF (oL (lP1 pr rfl)) (gv hF (oN (aY u26)) (gv hF (oB (bh)) ?_))))))
  rcases br (decide (s60.1 < (a0.c.length : Int))) with hc64 | hc64
  ·replace h := ifF hc64 h
   refine gv hF (ar rfl rfl hc64) (gp hF (gp hF (gv hF (ap rfl rfl rfl) (sn ?_))))
   refine bq hF rfl ?_
   refine Sm.exit ?_
   replace h := aC h hd63
   obtain rfl := ac h
   exact (aL (kA (e := [(2, .ref 0 0 0), (3, .ref 1 0 0)]) (g := [(7, dB 4 (s60.2.map Cls.row)), (1, ⟨9, [[.i x1.cells, .d (.list 1 (x1.next.map (ax 1 (af .i64))) false), .l x1.turn, .d (.list 3 (v45.map Knd.row) false), .i x2, .d (.v (.bool (x3 == 3))), .sref 7 0 (s60.2.map Cls.row).length, .i v52, .i v59]]⟩), (0, ⟨9, [[.i 0, .z, .z, .z, .i 0, .d (.v (.bool false)), .z, .i 0, .i 0]]⟩)]) (m := 8)) (fA (l := 7) (sz := 4) (s60.2.map Cls.row)))
  replace h := ifT hc64 h
  refine gv hF (ar rfl rfl hc64) (gv hF oM (gv hF (oB (bh)) (gv hF (aJ rfl rfl rfl) (sn ?_))))
  refine ay hF rfl (fun hc65 => ?_) (fun hc65 => ?_)
  ·replace h := ifF hc65 h
   refine Sm.exit ?_
   replace h := aC h hd63
   obtain rfl := ac h
   exact (aL (kA (e := [(2, .ref 0 0 0), (3, .ref 1 0 0)]) (g := [(7, dB 4 (s60.2.map Cls.row)), (1, ⟨9, [[.i x1.cells, .d (.list 1 (x1.next.map (ax 1 (af .i64))) false), .l x1.turn, .d (.list 3 (v45.map Knd.row) false), .i x2, .d (.v (.bool (x3 == 3))), .sref 7 0 (s60.2.map Cls.row).length, .i v52, .i v59]]⟩), (0, ⟨9, [[.i 0, .z, .z, .z, .i 0, .d (.v (.bool false)), .z, .i 0, .i 0]]⟩)]) (m := 8)) (fA (l := 7) (sz := 4) (s60.2.map Cls.row)))
  replace h := ifT hc65 h
  refine sk (Sm.seq (Sm.block (Sm.seq ?_)))
  refine dG hF 21 ?_
  refine hv hF (oF (ai mV rfl)) (hv hF (oL (lP1 pr rfl)) (hv hF oM ?_))
  obtain ⟨x66, hx66, h⟩ := aa h
  refine hv hF (oI (aT u26 o0 hx66)) (hv hF (oI (ci ss sz5 rfl rfl)) (hv hF (oL (lP1 ag5 rfl)) (hv hF (oC (ek u5 u3 (dM _))) ?_)))
  obtain ⟨x67, hx67, h⟩ := aa h
  refine hv hF (oB (bM hx67)) ?_
  obtain ⟨x68, hx68, h⟩ := aa h
  refine hv hF (oB (aU hx68)) (hv hF (oF (ai mV rfl)) (hv hF (oL (lP1 pr rfl)) (hv hF oM ?_)))
  obtain ⟨x69, hx69, h⟩ := aa h
  refine hv hF (oI (aT u26 o0 hx69)) (hv hF (oI (ci ss sz5 rfl rfl)) (hv hF (oL (lP1 ag5 rfl)) ?_))
  obtain ⟨x70, hx70, h⟩ := aa h
  refine hv hF (oB (kC hx70)) ?_
  obtain ⟨x71, hx71, h⟩ := aa h
  refine hv hF (oC (ki u5 u3 hx71)) ?_
  obtain ⟨x72, hx72, h⟩ := aa h
  refine hv hF (oB (bM hx72)) ?_
  obtain ⟨x73, hx73, h⟩ := aa h
  refine hv hF (oB (aU hx73)) (hv hF (x := .d (.agg 4 [.i x68, .i 0, .i 0, .i x73])) (a8 rfl Gx (by kernel_rfl) rfl (bg (n := 4) vu CN rfl rfl)) ?_)
  refine aF.new hF rfl rfl rfl rfl AY ?_
  refine hE ?_
  refine SmG.store hF rfl rfl rfl rfl rfl (bd (ys := [.i x68, .i 0, .i 0, .i x73]) (r := [.i 0, .i 0, .i 0, .i 0]) (rows' := [[.i x68, .i 0, .i 0, .i x73]]) rfl rfl rfl r9 rfl rfl rfl rfl rfl) ?_
  refine sn (Sm.seq ?_)
  obtain ⟨v77, hv77, h⟩ := aa h
  refine dt ⟨[(1, .d (.ptr 12 (GRaw.row a0))), (2, .ref 0 0 0), (3, .ref 1 0 0), (4, .i v5), (8, .i s60.1), (9, .ref 8 0 0), (121, .i s60.1), (122, .d (.v (.bool (decide (s60.1 < 3)))))], [(8, ⟨4, [[.i x68, .i v77, .i 0, .i x73]]⟩), (7, dB 4 (s60.2.map Cls.row)), (1, ⟨9, [[.i x1.cells, .d (.list 1 (x1.next.map (ax 1 (af .i64))) false), .l x1.turn, .d (.list 3 (v45.map Knd.row) false), .i x2, .d (.v (.bool (x3 == 3))), .sref 7 0 (s60.2.map Cls.row).length, .i v52, .i v59]]⟩), (0, ⟨9, [[.i 0, .z, .z, .z, .i 0, .d (.v (.bool false)), .z, .i 0, .i 0]]⟩)], 9⟩ ?_ ?_
  ·replace h := hv77
   refine sr hF (gv hF (oF (aD rm)) (gv hF (oL (bZ rfl rfl ag3 rfl)) (gv hF (oB (lZ)) (sn ?_))))
   refine ay hF rfl (fun hc74 => ?_) (fun hc74 => ?_)
   ·replace h := ifF hc74 h
    refine Sm.skip ?_
    obtain rfl := ac h
    exact (kA)
   replace h := ifT hc74 h
   refine ab hF rfl ?_
   refine gv hF (oF (ai mV rfl)) (gv hF (oL (lP1 pr rfl)) (gv hF oM ?_))
   obtain ⟨x75, hx75, h⟩ := aa h
   refine gv hF (oI (aT u26 o0 hx75)) (gv hF (oI (ci ss sz5 rfl rfl)) (gv hF (oL (lP1 ag5 rfl)) (gv hF (oC (ek u5 u3 (dM _))) (gv hF oM ?_))))
   obtain ⟨x76, hx76, h⟩ := aa h
   refine gv hF (oB (bM hx76)) (gv hF (oF (aD zd)) ?_)
   refine SmG.store hF rfl rfl rfl rfl rfl (cM (rows' := [[.i x68, .i x76, .i 0, .i x73]]) rfl rfl rfl sz3 rfl rfl rfl) ?_
   refine SmG.nil ?_
   obtain rfl := ac h
   exact (kA)
  refine Sm.seq ?_
  obtain ⟨v81, hv81, h⟩ := aa h
  refine dt ⟨[(1, .d (.ptr 12 (GRaw.row a0))), (2, .ref 0 0 0), (3, .ref 1 0 0), (4, .i v5), (8, .i s60.1), (9, .ref 8 0 0), (121, .i s60.1), (122, .d (.v (.bool (decide (s60.1 < 3)))))], [(8, ⟨4, [[.i x68, .i v77, .i v81, .i x73]]⟩), (7, dB 4 (s60.2.map Cls.row)), (1, ⟨9, [[.i x1.cells, .d (.list 1 (x1.next.map (ax 1 (af .i64))) false), .l x1.turn, .d (.list 3 (v45.map Knd.row) false), .i x2, .d (.v (.bool (x3 == 3))), .sref 7 0 (s60.2.map Cls.row).length, .i v52, .i v59]]⟩), (0, ⟨9, [[.i 0, .z, .z, .z, .i 0, .d (.v (.bool false)), .z, .i 0, .i 0]]⟩)], 9⟩ ?_ ?_
  ·replace h := hv81
   refine sr hF (gv hF (oF (aD rm)) (gv hF (oL (bZ rfl rfl ag3 rfl)) (gv hF (oB (cD)) (sn ?_))))
   refine ay hF rfl (fun hc78 => ?_) (fun hc78 => ?_)
   ·replace h := ifF hc78 h
    refine Sm.skip ?_
    obtain rfl := ac h
    exact (kA)
   replace h := ifT hc78 h
   refine dG hF 10 ?_
   refine hv hF (oF (ai mV rfl)) (hv hF (oL (lP1 pr rfl)) (hv hF oM ?_))
   obtain ⟨x79, hx79, h⟩ := aa h
   refine hv hF (oI (aT u26 o0 hx79)) (hv hF (oI (ci ss sz5 rfl rfl)) (hv hF (oL (lP1 ag5 rfl)) (hv hF (oC (ek u5 u3 (dM _))) (hv hF (oF (aD mC)) (hv hF (oF (aD kM)) (hv hF (oL (bZ rfl rfl ag3 rfl)) ?_))))))
   refine hE ?_
   obtain ⟨x80, hx80, h⟩ := aa h
   refine gv hF (oB (bM hx80)) (gv hF (oF (aD uO)) ?_)
   refine SmG.store hF rfl rfl rfl rfl rfl (cM (rows' := [[.i x68, .i v77, .i x80, .i x73]]) rfl rfl rfl sz3 rfl rfl rfl) ?_
   refine SmG.nil ?_
   obtain rfl := ac h
   exact (kA)
  refine Sm.seq ?_
  obtain ⟨v85, hv85, h⟩ := aa h
  refine aW ⟨[(1, .d (.ptr 12 (GRaw.row a0))), (2, .ref 0 0 0), (3, .ref 1 0 0), (4, .i v5), (8, .i s60.1), (9, .ref 8 0 0), (121, .i s60.1), (122, .d (.v (.bool (decide (s60.1 < 3)))))], [(8, ⟨4, [[.i x68, .i v77, .i v85, .i x73]]⟩), (7, dB 4 (s60.2.map Cls.row)), (1, ⟨9, [[.i x1.cells, .d (.list 1 (x1.next.map (ax 1 (af .i64))) false), .l x1.turn, .d (.list 3 (v45.map Knd.row) false), .i x2, .d (.v (.bool (x3 == 3))), .sref 7 0 (s60.2.map Cls.row).length, .i v52, .i v59]]⟩), (0, ⟨9, [[.i 0, .z, .z, .z, .i 0, .d (.v (.bool false)), .z, .i 0, .i 0]]⟩)], 9⟩ ?_ ?_
  ·refine ab hF rfl ?_
   refine gv hF (oF (aD xx)) (gv hF (oL (bZ rfl rfl Av rfl)) (gv hF (x := .d (.agg 4 [.i x68, .i v77, .i v85, .i x73])) (oL (aG rfl rfl yV r9 rfl rfl)) (gv hF (x := .d (.list 4 ([(⟨x68, v77, v85, x73⟩ : Cls)].map Cls.row) true)) (oS (aw u75 r9 vu rfl rfl (PartsQ.cons rfl (PartsQ.nil _)) rfl)) ?_)))
   refine dq (wA (e := [(1, .d (.ptr 12 (GRaw.row a0))), (2, .ref 0 0 0), (3, .ref 1 0 0), (4, .i v5), (8, .i s60.1), (121, .i s60.1), (122, .d (.v (.bool (decide (s60.1 < 3))))), (187, .sref 7 0 (s60.2.map Cls.row).length), (189, .d (.list 4 ([(⟨x68, v77, v85, x73⟩ : Cls)].map Cls.row) true))]) (g := [(7, dB 4 (s60.2.map Cls.row)), (1, ⟨9, [[.i x1.cells, .d (.list 1 (x1.next.map (ax 1 (af .i64))) false), .l x1.turn, .d (.list 3 (v45.map Knd.row) false), .i x2, .d (.v (.bool (x3 == 3))), .any, .i v52, .i v59]]⟩), (0, ⟨9, [[.i 0, .z, .z, .z, .i 0, .d (.v (.bool false)), .z, .i 0, .i 0]]⟩)]) (m := 9)) rfl ?_
   obtain ⟨x86, hx86, h⟩ := aa h
   refine aV hF Gw rfl (ys := [(⟨x68, v77, v85, x73⟩ : Cls)]) (row := Cls.row) rfl rfl rfl rfl rfl rfl rfl rfl (.inl rfl) hx86 (by (repeat' first | exact bn _ | refine be ?_ | refine am ?_ (aP _ _ _) | refine am ?_ (aP _ _ [_]) | refine am ?_ (bD (by rfl)))) ?_
   refine gv hF (oF (aD xx)) ?_
   refine SmG.store hF rfl rfl rfl rfl rfl (cM (rows' := [[.i x1.cells, .d (.list 1 (x1.next.map (ax 1 (af .i64))) false), .l x1.turn, .d (.list 3 (v45.map Knd.row) false), .i x2, .d (.v (.bool (x3 == 3))), .sref 7 0 (x86.map Cls.row).length, .i v52, .i v59]]) rfl rfl rfl zY rfl rfl rfl) ?_
   refine SmG.nil (ak (ae ?_))
   refine ab hF rfl ?_
   refine gv hF oM ?_
   obtain ⟨x87, hx87, h⟩ := aa h
   refine gv hF (oB (aU hx87)) (gv hF oA (SmG.nil ?_))
   exact bc (aX h hd63) (aL (kA (e := [(1, .d (.ptr 12 (GRaw.row a0))), (2, .ref 0 0 0), (3, .ref 1 0 0), (4, .i v5), (8, .i x87)]) (g := [(7, dB 4 (x86.map Cls.row)), (1, ⟨9, [[.i x1.cells, .d (.list 1 (x1.next.map (ax 1 (af .i64))) false), .l x1.turn, .d (.list 3 (v45.map Knd.row) false), .i x2, .d (.v (.bool (x3 == 3))), .sref 7 0 (x86.map Cls.row).length, .i v52, .i v59]]⟩), (0, ⟨9, [[.i 0, .z, .z, .z, .i 0, .d (.v (.bool false)), .z, .i 0, .i 0]]⟩)]) (m := 9)) (xA 8))
  replace h := hv85
  refine sr hF (gv hF (oF (aD rm)) (gv hF (oL (bZ rfl rfl ag3 rfl)) (gv hF (oB (cD)) (sn ?_))))
  refine ay hF rfl (fun hc82 => ?_) (fun hc82 => ?_)
  ·replace h := ifF hc82 h
   refine Sm.skip ?_
   obtain rfl := ac h
   exact (kA)
  replace h := ifT hc82 h
  refine ab hF rfl ?_
  refine gv hF (oF (ai mV rfl)) (gv hF (oL (lP1 pr rfl)) (gv hF oM ?_))
  obtain ⟨x83, hx83, h⟩ := aa h
  refine gv hF (oI (aT u26 o0 hx83)) (gv hF (oI (ci ss sz5 rfl rfl)) (gv hF (oL (lP1 ag5 rfl)) (gv hF (oC (ek u5 u3 (dM _))) ?_)))
  obtain ⟨x84, hx84, h⟩ := aa h
  refine gv hF (oB (bM hx84)) (gv hF (oF (aD uO)) ?_)
  refine SmG.store hF rfl rfl rfl rfl rfl (cM (rows' := [[.i x68, .i v77, .i x84, .i x73]]) rfl rfl rfl sz3 rfl rfl rfl) ?_
  refine SmG.nil ?_
  obtain rfl := ac h
  exact (kA)
 replace h := hv45
 refine sr hF (gv hF oA (sn (Sm.block ?_)))
 refine Sm.rounds 60 ?_
 refine jZ ?_
 refine Sm.seq (sr hF (gv hF oM (gv hF oM (gv hF (oB (bh)) (sn ?_)))))
 refine ay hF rfl (fun hc6 => ?_) (fun hc6 => ?_)
 ·replace h := ifF hc6 h
  refine Sm.exit ?_
  obtain rfl := ac h
  exact (aL (kA (e := [(1, .d (.ptr 12 (GRaw.row a0))), (2, .ref 0 0 0), (3, .ref 1 0 0), (4, .i v5)]) (g := [(1, ⟨9, [[.i x1.cells, .d (.list 1 (x1.next.map (ax 1 (af .i64))) false), .l x1.turn, .z, .i x2, .d (.v (.bool (x3 == 3))), .z, .i 3, .i 2]]⟩), (0, ⟨9, [[.i 0, .z, .z, .z, .i 0, .d (.v (.bool false)), .z, .i 0, .i 0]]⟩)]) (m := 2)) (wA))
 replace h := ifT hc6 h
 refine sk (Sm.seq ?_)
 obtain ⟨v21, hv21, h⟩ := aa h
 refine dt ⟨[(1, .d (.ptr 12 (GRaw.row a0))), (2, .ref 0 0 0), (3, .ref 1 0 0), (4, .i v5), (5, .i 0)], [(4, dB 3 (v21.map Knd.row)), (1, ⟨9, [[.i x1.cells, .d (.list 1 (x1.next.map (ax 1 (af .i64))) false), .l x1.turn, .sref 4 0 (v21.map Knd.row).length, .i x2, .d (.v (.bool (x3 == 3))), .z, .i 3, .i 2]]⟩), (0, ⟨9, [[.i 0, .z, .z, .z, .i 0, .d (.v (.bool false)), .z, .i 0, .i 0]]⟩)], 5⟩ ?_ ?_
 ·replace h := hv21
  refine Sm.block (Sm.seq ?_)
  refine dG hF 13 ?_
  refine hv hF (x := .d (.list 1 ([([97] : List UInt8), ([98, 101, 101] : List UInt8)].map tE) true)) (oS (aw rn sz9 ze9 rfl rfl (PartsQ.cons rfl (PartsQ.cons rfl (PartsQ.nil _))) rfl)) (hv hF oM ?_)
  obtain ⟨x7, hx7, h⟩ := aa h
  refine hv hF (oI (aT rn sz9 hx7)) (hv hF (oL (lP1 ag9 rfl)) (hv hF (oF (ai jG rfl)) (hv hF (oI (ci u27 sz5 rfl rfl)) (hv hF (oL (lP1 ag5 rfl)) (hv hF oM ?_)))))
  obtain ⟨x8, hx8, h⟩ := aa h
  refine hv hF (oB (lH hx8)) (hv hF (oB tc) (hv hF (oB (cD)) (hv hF (x := .d (.agg 3 [.v (.string ⟨(x7 : List UInt8).toArray⟩), .z, .v (.bool ((dY .u8 x8 1) == 1))])) (a8 rfl yl (by kernel_rfl) rfl (bg (n := 3) oU vb rfl rfl)) ?_)))
  refine aF.new hF rfl rfl rfl rfl uR ?_
  refine hE ?_
  refine SmG.store hF rfl rfl rfl rfl rfl (bd (ys := [.d (.v (.string ⟨(x7 : List UInt8).toArray⟩)), .z, .d (.v (.bool ((dY .u8 x8 1) == 1)))]) (r := [.d (.v (.string ⟨([] : List UInt8).toArray⟩)), .z, .d (.v (.bool false))]) (rows' := [[.d (.v (.string ⟨(x7 : List UInt8).toArray⟩)), .z, .d (.v (.bool ((dY .u8 x8 1) == 1)))]]) rfl rfl rfl kw rfl rfl rfl rfl rfl) ?_
  refine sn (Sm.seq ?_)
  obtain ⟨v19, hv19, h⟩ := aa h
  refine aW ⟨[(1, .d (.ptr 12 (GRaw.row a0))), (2, .ref 0 0 0), (3, .ref 1 0 0), (4, .i v5), (5, .i 0), (6, .ref 2 0 0)], [(2, ⟨3, [[.d (.v (.string ⟨(x7 : List UInt8).toArray⟩)), .d (.list 1 (v19.map (ax 2 Stp.row)) false), .d (.v (.bool ((dY .u8 x8 1) == 1)))]]⟩), (1, ⟨9, [[.i x1.cells, .d (.list 1 (x1.next.map (ax 1 (af .i64))) false), .l x1.turn, .z, .i x2, .d (.v (.bool (x3 == 3))), .z, .i 3, .i 2]]⟩), (0, ⟨9, [[.i 0, .z, .z, .z, .i 0, .d (.v (.bool false)), .z, .i 0, .i 0]]⟩)], 4⟩ ?_ ?_
  ·refine ab hF rfl ?_
   refine gv hF (oF (aD iy)) (gv hF (oL (bZ rfl rfl lN rfl)) (gv hF (x := .d (.agg 3 [.v (.string ⟨(x7 : List UInt8).toArray⟩), .list 1 (v19.map (ax 2 Stp.row)) false, .v (.bool ((dY .u8 x8 1) == 1))])) (oL (aG rfl rfl vJ kw rfl rfl)) (gv hF (x := .d (.list 3 ([(⟨x7, v19, ((dY .u8 x8 1) == 1)⟩ : Knd)].map Knd.row) true)) (oS (aw u74 kw oU rfl rfl (PartsQ.cons rfl (PartsQ.nil _)) rfl)) ?_)))
   obtain ⟨x20, hx20, h⟩ := aa h
   refine SmG.appendFreshL hF Ap rfl (ys := [(⟨x7, v19, ((dY .u8 x8 1) == 1)⟩ : Knd)]) (row := Knd.row) rfl rfl rfl rfl rfl rfl rfl (.inl rfl) hx20 ?_
   refine gv hF (oF (aD iy)) ?_
   refine SmG.store hF rfl rfl rfl rfl rfl (cM (rows' := [[.i x1.cells, .d (.list 1 (x1.next.map (ax 1 (af .i64))) false), .l x1.turn, .sref 4 0 (x20.map Knd.row).length, .i x2, .d (.v (.bool (x3 == 3))), .z, .i 3, .i 2]]) rfl rfl rfl yB rfl rfl rfl) ?_
   refine SmG.nil (ak ?_)
   obtain rfl := ac h
   exact (kA)
  replace h := hv19
  refine sr hF (gv hF oA (sn (Sm.block ?_)))
  refine Sm.to (kA (e := [(1, .d (.ptr 12 (GRaw.row a0))), (2, .ref 0 0 0), (3, .ref 1 0 0), (4, .i v5), (5, .i 0), (6, .ref 2 0 0), (7, .i 0)]) (g := [(2, ⟨3, [[.d (.v (.string ⟨(x7 : List UInt8).toArray⟩)), .z, .d (.v (.bool ((dY .u8 x8 1) == 1)))]]⟩), (1, ⟨9, [[.i x1.cells, .d (.list 1 (x1.next.map (ax 1 (af .i64))) false), .l x1.turn, .z, .i x2, .d (.v (.bool (x3 == 3))), .z, .i 3, .i 2]]⟩), (0, ⟨9, [[.i 0, .z, .z, .z, .i 0, .d (.v (.bool false)), .z, .i 0, .i 0]]⟩)]) (m := 3)) ?_
  refine Sm.ownCell 2 0 1 1 rfl rfl rfl ?_
  refine ba (eP a0 x1 x2 v5) (fun s9 => ⟨[(1, .d (.ptr 12 (GRaw.row a0))), (2, .ref 0 0 0), (3, .ref 1 0 0), (4, .i v5), (5, .i 0), (6, .ref 2 0 0), (7, .i s9.1)], [(3, dB 1 (s9.2.map (ax 2 Stp.row))), (2, ⟨3, [[.d (.v (.string ⟨(x7 : List UInt8).toArray⟩)), .sref 3 0 (s9.2.map (ax 2 Stp.row)).length, .d (.v (.bool ((dY .u8 x8 1) == 1)))]]⟩), (1, ⟨9, [[.i x1.cells, .d (.list 1 (x1.next.map (ax 1 (af .i64))) false), .l x1.turn, .z, .i x2, .d (.v (.bool (x3 == 3))), .z, .i 3, .i 2]]⟩), (0, ⟨9, [[.i 0, .z, .z, .z, .i 0, .d (.v (.bool false)), .z, .i 0, .i 0]]⟩)], 4⟩) (0, ([] : List (List Stp))) h (kA) ?_
  intro n10 s9 o11 h hd12
  unfold eP at h
  refine Sm.seq (sr hF (gv hF oM (gv hF oM (gv hF (oF (ai mX rfl)) (gv hF (oI (ci u25 cE rfl rfl)) (gv hF (oL (lP1 eX rfl)) (gv hF (oN (aY u24)) (gv hF (oB (bh)) ?_))))))))
  rcases br (decide (s9.1 < (a0.k0.length : Int))) with hc13 | hc13
  ·replace h := ifF hc13 h
   refine gv hF (ar rfl rfl hc13) (gp hF (gp hF (gv hF (ap rfl rfl rfl) (sn ?_))))
   refine bq hF rfl ?_
   refine Sm.exit ?_
   replace h := aC h hd12
   obtain rfl := ac h
   exact (aL (kA (e := [(1, .d (.ptr 12 (GRaw.row a0))), (2, .ref 0 0 0), (3, .ref 1 0 0), (4, .i v5), (5, .i 0), (6, .ref 2 0 0)]) (g := [(3, dB 1 (s9.2.map (ax 2 Stp.row))), (2, ⟨3, [[.d (.v (.string ⟨(x7 : List UInt8).toArray⟩)), .sref 3 0 (s9.2.map (ax 2 Stp.row)).length, .d (.v (.bool ((dY .u8 x8 1) == 1)))]]⟩), (1, ⟨9, [[.i x1.cells, .d (.list 1 (x1.next.map (ax 1 (af .i64))) false), .l x1.turn, .z, .i x2, .d (.v (.bool (x3 == 3))), .z, .i 3, .i 2]]⟩), (0, ⟨9, [[.i 0, .z, .z, .z, .i 0, .d (.v (.bool false)), .z, .i 0, .i 0]]⟩)]) (m := 4)) (fA (l := 3) (sz := 1) (s9.2.map (ax 2 Stp.row))))
  replace h := ifT hc13 h
  refine gv hF (ar rfl rfl hc13) (gv hF oM (gv hF (oB (bh)) (gv hF (aJ rfl rfl rfl) (sn ?_))))
  refine ay hF rfl (fun hc14 => ?_) (fun hc14 => ?_)
  ·replace h := ifF hc14 h
   refine Sm.exit ?_
   replace h := aC h hd12
   obtain rfl := ac h
   exact (aL (kA (e := [(1, .d (.ptr 12 (GRaw.row a0))), (2, .ref 0 0 0), (3, .ref 1 0 0), (4, .i v5), (5, .i 0), (6, .ref 2 0 0)]) (g := [(3, dB 1 (s9.2.map (ax 2 Stp.row))), (2, ⟨3, [[.d (.v (.string ⟨(x7 : List UInt8).toArray⟩)), .sref 3 0 (s9.2.map (ax 2 Stp.row)).length, .d (.v (.bool ((dY .u8 x8 1) == 1)))]]⟩), (1, ⟨9, [[.i x1.cells, .d (.list 1 (x1.next.map (ax 1 (af .i64))) false), .l x1.turn, .z, .i x2, .d (.v (.bool (x3 == 3))), .z, .i 3, .i 2]]⟩), (0, ⟨9, [[.i 0, .z, .z, .z, .i 0, .d (.v (.bool false)), .z, .i 0, .i 0]]⟩)]) (m := 4)) (fA (l := 3) (sz := 1) (s9.2.map (ax 2 Stp.row))))
  replace h := ifT hc14 h
  refine sk (Sm.seq (Sm.block ?_))
  refine dG hF 18 ?_
  refine hv hF (oF (aD oZ)) (hv hF (oL (bZ rfl rfl vK rfl)) (hv hF oM (hv hF (oF (ai mX rfl)) (hv hF (oI (ci u25 cE rfl rfl)) (hv hF (oL (lP1 eX rfl)) (hv hF oM ?_))))))
  obtain ⟨x15, hx15, h⟩ := aa h
  refine hv hF (oI (aT u24 sz5 hx15)) (hv hF (oL (lP1 ag5 rfl)) (hv hF (oF (aD mC)) (hv hF (oF (aD kS)) (hv hF (oL (bZ rfl rfl pR rfl)) (hv hF (oN (aY u71)) (hv hF oM (hv hF (oF (aD sq)) (hv hF (oL (bZ rfl rfl ag3 rfl)) ?_))))))))
  obtain ⟨x16, hx16, h⟩ := aa h
  refine cH hF (jJ hx16) ?_
  refine hv hF (x := .d (.list 1 ([x16].map (ax 2 Stp.row)) true)) (oS (aw tB qz sf rfl rfl (PartsQ.cons rfl (PartsQ.nil _)) rfl)) ?_
  refine hE ?_
  refine dq (wA (e := [(1, .d (.ptr 12 (GRaw.row a0))), (2, .ref 0 0 0), (3, .ref 1 0 0), (4, .i v5), (5, .i 0), (6, .ref 2 0 0), (7, .i s9.1), (58, .i s9.1), (59, .d (.v (.bool (decide (s9.1 < 4))))), (64, .sref 3 0 (s9.2.map (ax 2 Stp.row)).length), (80, .d (.list 1 ([x16].map (ax 2 Stp.row)) true))]) (g := [(3, dB 1 (s9.2.map (ax 2 Stp.row))), (2, ⟨3, [[.d (.v (.string ⟨(x7 : List UInt8).toArray⟩)), .any, .d (.v (.bool ((dY .u8 x8 1) == 1)))]]⟩), (1, ⟨9, [[.i x1.cells, .d (.list 1 (x1.next.map (ax 1 (af .i64))) false), .l x1.turn, .z, .i x2, .d (.v (.bool (x3 == 3))), .z, .i 3, .i 2]]⟩), (0, ⟨9, [[.i 0, .z, .z, .z, .i 0, .d (.v (.bool false)), .z, .i 0, .i 0]]⟩)]) (m := 4)) rfl ?_
  obtain ⟨x17, hx17, h⟩ := aa h
  refine aV hF yX rfl (ys := [x16]) (row := (ax 2 Stp.row)) rfl rfl rfl rfl rfl rfl rfl rfl (.inl rfl) hx17 (by (repeat' first | exact bn _ | refine be ?_ | refine am ?_ (aP _ _ _) | refine am ?_ (aP _ _ [_]) | refine am ?_ (bD (by rfl)))) ?_
  refine gv hF (oF (aD oZ)) ?_
  refine SmG.store hF rfl rfl rfl rfl rfl (cM (rows' := [[.d (.v (.string ⟨(x7 : List UInt8).toArray⟩)), .sref 3 0 (x17.map (ax 2 Stp.row)).length, .d (.v (.bool ((dY .u8 x8 1) == 1)))]]) rfl rfl rfl vT rfl rfl rfl) ?_
  refine SmG.nil (ak (ae ?_))
  refine ab hF rfl ?_
  refine gv hF oM ?_
  obtain ⟨x18, hx18, h⟩ := aa h
  refine gv hF (oB (aU hx18)) (gv hF oA (SmG.nil ?_))
  exact bc (aX h hd12) (kA)
 refine ab hF rfl ?_
 refine gv hF oM (gv hF (oB (aU (v := 1) rfl)) (gv hF oA (sn ?_)))
 refine jZ ?_
 refine Sm.seq (sr hF (gv hF oM (gv hF oM (gv hF (oB (bh)) (sn ?_)))))
 refine ay hF rfl (fun hc22 => ?_) (fun hc22 => ?_)
 ·replace h := ifF hc22 h
  refine Sm.exit ?_
  obtain rfl := ac h
  exact (aL (kA (e := [(1, .d (.ptr 12 (GRaw.row a0))), (2, .ref 0 0 0), (3, .ref 1 0 0), (4, .i v5)]) (g := [(4, dB 3 (v21.map Knd.row)), (1, ⟨9, [[.i x1.cells, .d (.list 1 (x1.next.map (ax 1 (af .i64))) false), .l x1.turn, .sref 4 0 (v21.map Knd.row).length, .i x2, .d (.v (.bool (x3 == 3))), .z, .i 3, .i 2]]⟩), (0, ⟨9, [[.i 0, .z, .z, .z, .i 0, .d (.v (.bool false)), .z, .i 0, .i 0]]⟩)]) (m := 5)) (aL (fA (l := 4) (sz := 3) (e := [(1, .d (.ptr 12 (GRaw.row a0))), (2, .ref 0 0 0), (3, .ref 1 0 0), (4, .i v5)]) (g := [(1, ⟨9, [[.i x1.cells, .d (.list 1 (x1.next.map (ax 1 (af .i64))) false), .l x1.turn, .d (.list 3 (v21.map Knd.row) false), .i x2, .d (.v (.bool (x3 == 3))), .z, .i 3, .i 2]]⟩), (0, ⟨9, [[.i 0, .z, .z, .z, .i 0, .d (.v (.bool false)), .z, .i 0, .i 0]]⟩)]) (nx := 5) (v21.map Knd.row)) (kA)))
 replace h := ifT hc22 h
 refine sk (Sm.seq ?_)
 obtain ⟨v37, hv37, h⟩ := aa h
 refine aW ⟨[(1, .d (.ptr 12 (GRaw.row a0))), (2, .ref 0 0 0), (3, .ref 1 0 0), (4, .i v5), (5, .i 1)], [(4, dB 3 (v37.map Knd.row)), (1, ⟨9, [[.i x1.cells, .d (.list 1 (x1.next.map (ax 1 (af .i64))) false), .l x1.turn, .sref 4 0 (v37.map Knd.row).length, .i x2, .d (.v (.bool (x3 == 3))), .z, .i 3, .i 2]]⟩), (0, ⟨9, [[.i 0, .z, .z, .z, .i 0, .d (.v (.bool false)), .z, .i 0, .i 0]]⟩)], 7⟩ ?_ ?_
 ·refine ab hF rfl ?_
  refine gv hF oM (gv hF (oB (aU (v := 2) rfl)) (gv hF oA (sn ?_)))
  refine jZ ?_
  refine Sm.seq (sr hF (gv hF oM (gv hF oM (gv hF (oB (bh)) (sn ?_)))))
  refine ay hF rfl (fun hc38 => ?_) (fun hc38 => ?_)
  ·replace h := ifF hc38 h
   refine Sm.exit ?_
   obtain rfl := ac h
   exact (aL (kA (e := [(1, .d (.ptr 12 (GRaw.row a0))), (2, .ref 0 0 0), (3, .ref 1 0 0), (4, .i v5)]) (g := [(4, dB 3 (v37.map Knd.row)), (1, ⟨9, [[.i x1.cells, .d (.list 1 (x1.next.map (ax 1 (af .i64))) false), .l x1.turn, .sref 4 0 (v37.map Knd.row).length, .i x2, .d (.v (.bool (x3 == 3))), .z, .i 3, .i 2]]⟩), (0, ⟨9, [[.i 0, .z, .z, .z, .i 0, .d (.v (.bool false)), .z, .i 0, .i 0]]⟩)]) (m := 7)) (fA (l := 4) (sz := 3) (v37.map Knd.row)))
  replace h := ifT hc38 h
  refine sk (Sm.seq (Sm.block (Sm.seq ?_)))
  refine dG hF 13 ?_
  refine hv hF (x := .d (.list 1 ([([97] : List UInt8), ([98, 101, 101] : List UInt8)].map tE) true)) (oS (aw rn sz9 ze9 rfl rfl (PartsQ.cons rfl (PartsQ.cons rfl (PartsQ.nil _))) rfl)) (hv hF oM ?_)
  obtain ⟨x39, hx39, h⟩ := aa h
  refine hv hF (oI (aT rn sz9 hx39)) (hv hF (oL (lP1 ag9 rfl)) (hv hF (oF (ai jG rfl)) (hv hF (oI (ci u27 sz5 rfl rfl)) (hv hF (oL (lP1 ag5 rfl)) (hv hF oM ?_)))))
  obtain ⟨x40, hx40, h⟩ := aa h
  refine hv hF (oB (lH hx40)) (hv hF (oB tc) (hv hF (oB (cD)) (hv hF (x := .d (.agg 3 [.v (.string ⟨(x39 : List UInt8).toArray⟩), .z, .v (.bool ((dY .u8 x40 1) == 1))])) (a8 rfl yl (by kernel_rfl) rfl (bg (n := 3) oU vb rfl rfl)) ?_)))
  refine aF.new hF rfl rfl rfl rfl uR ?_
  refine hE ?_
  refine SmG.store hF rfl rfl rfl rfl rfl (bd (ys := [.d (.v (.string ⟨(x39 : List UInt8).toArray⟩)), .z, .d (.v (.bool ((dY .u8 x40 1) == 1)))]) (r := [.d (.v (.string ⟨([] : List UInt8).toArray⟩)), .z, .d (.v (.bool false))]) (rows' := [[.d (.v (.string ⟨(x39 : List UInt8).toArray⟩)), .z, .d (.v (.bool ((dY .u8 x40 1) == 1)))]]) rfl rfl rfl kw rfl rfl rfl rfl rfl) ?_
  refine sn (Sm.seq (sr hF (gv hF oA (sn (Sm.block ?_)))))
  refine ba (gV) (fun s41 => ⟨[(1, .d (.ptr 12 (GRaw.row a0))), (2, .ref 0 0 0), (3, .ref 1 0 0), (4, .i v5), (5, .i 2), (6, .ref 7 0 0), (7, .i s41)], [(7, ⟨3, [[.d (.v (.string ⟨(x39 : List UInt8).toArray⟩)), .z, .d (.v (.bool ((dY .u8 x40 1) == 1)))]]⟩), (4, dB 3 (v37.map Knd.row)), (1, ⟨9, [[.i x1.cells, .d (.list 1 (x1.next.map (ax 1 (af .i64))) false), .l x1.turn, .sref 4 0 (v37.map Knd.row).length, .i x2, .d (.v (.bool (x3 == 3))), .z, .i 3, .i 2]]⟩), (0, ⟨9, [[.i 0, .z, .z, .z, .i 0, .d (.v (.bool false)), .z, .i 0, .i 0]]⟩)], 8⟩) 0 h (kA) ?_
  intro n42 s41 o43 h hd44
  unfold gV at h
  refine Sm.seq (sr hF (gv hF oM (gv hF oM (gv hF (oF (ai mX rfl)) ?_))))
  cases h
 replace h := hv37
 refine Sm.block (Sm.seq ?_)
 refine dG hF 13 ?_
 refine hv hF (x := .d (.list 1 ([([97] : List UInt8), ([98, 101, 101] : List UInt8)].map tE) true)) (oS (aw rn sz9 ze9 rfl rfl (PartsQ.cons rfl (PartsQ.cons rfl (PartsQ.nil _))) rfl)) (hv hF oM ?_)
 obtain ⟨x23, hx23, h⟩ := aa h
 refine hv hF (oI (aT rn sz9 hx23)) (hv hF (oL (lP1 ag9 rfl)) (hv hF (oF (ai jG rfl)) (hv hF (oI (ci u27 sz5 rfl rfl)) (hv hF (oL (lP1 ag5 rfl)) (hv hF oM ?_)))))
 obtain ⟨x24, hx24, h⟩ := aa h
 refine hv hF (oB (lH hx24)) (hv hF (oB tc) (hv hF (oB (cD)) (hv hF (x := .d (.agg 3 [.v (.string ⟨(x23 : List UInt8).toArray⟩), .z, .v (.bool ((dY .u8 x24 1) == 1))])) (a8 rfl yl (by kernel_rfl) rfl (bg (n := 3) oU vb rfl rfl)) ?_)))
 refine aF.new hF rfl rfl rfl rfl uR ?_
 refine hE ?_
 refine SmG.store hF rfl rfl rfl rfl rfl (bd (ys := [.d (.v (.string ⟨(x23 : List UInt8).toArray⟩)), .z, .d (.v (.bool ((dY .u8 x24 1) == 1)))]) (r := [.d (.v (.string ⟨([] : List UInt8).toArray⟩)), .z, .d (.v (.bool false))]) (rows' := [[.d (.v (.string ⟨(x23 : List UInt8).toArray⟩)), .z, .d (.v (.bool ((dY .u8 x24 1) == 1)))]]) rfl rfl rfl kw rfl rfl rfl rfl rfl) ?_
 refine sn (Sm.seq ?_)
 obtain ⟨v35, hv35, h⟩ := aa h
 refine aW ⟨[(1, .d (.ptr 12 (GRaw.row a0))), (2, .ref 0 0 0), (3, .ref 1 0 0), (4, .i v5), (5, .i 1), (6, .ref 5 0 0)], [(5, ⟨3, [[.d (.v (.string ⟨(x23 : List UInt8).toArray⟩)), .d (.list 1 (v35.map (ax 2 Stp.row)) false), .d (.v (.bool ((dY .u8 x24 1) == 1)))]]⟩), (4, dB 3 (v21.map Knd.row)), (1, ⟨9, [[.i x1.cells, .d (.list 1 (x1.next.map (ax 1 (af .i64))) false), .l x1.turn, .sref 4 0 (v21.map Knd.row).length, .i x2, .d (.v (.bool (x3 == 3))), .z, .i 3, .i 2]]⟩), (0, ⟨9, [[.i 0, .z, .z, .z, .i 0, .d (.v (.bool false)), .z, .i 0, .i 0]]⟩)], 7⟩ ?_ ?_
 ·refine ab hF rfl ?_
  refine gv hF (oF (aD iy)) (gv hF (oL (bZ rfl rfl lN rfl)) (gv hF (x := .d (.agg 3 [.v (.string ⟨(x23 : List UInt8).toArray⟩), .list 1 (v35.map (ax 2 Stp.row)) false, .v (.bool ((dY .u8 x24 1) == 1))])) (oL (aG rfl rfl vJ kw rfl rfl)) (gv hF (x := .d (.list 3 ([(⟨x23, v35, ((dY .u8 x24 1) == 1)⟩ : Knd)].map Knd.row) true)) (oS (aw u74 kw oU rfl rfl (PartsQ.cons rfl (PartsQ.nil _)) rfl)) ?_)))
  refine dq (wA (e := [(1, .d (.ptr 12 (GRaw.row a0))), (2, .ref 0 0 0), (3, .ref 1 0 0), (4, .i v5), (5, .i 1), (84, .sref 4 0 (v21.map Knd.row).length), (86, .d (.list 3 ([(⟨x23, v35, ((dY .u8 x24 1) == 1)⟩ : Knd)].map Knd.row) true))]) (g := [(4, dB 3 (v21.map Knd.row)), (1, ⟨9, [[.i x1.cells, .d (.list 1 (x1.next.map (ax 1 (af .i64))) false), .l x1.turn, .any, .i x2, .d (.v (.bool (x3 == 3))), .z, .i 3, .i 2]]⟩), (0, ⟨9, [[.i 0, .z, .z, .z, .i 0, .d (.v (.bool false)), .z, .i 0, .i 0]]⟩)]) (m := 7)) rfl ?_
  obtain ⟨x36, hx36, h⟩ := aa h
  refine aV hF Ap rfl (ys := [(⟨x23, v35, ((dY .u8 x24 1) == 1)⟩ : Knd)]) (row := Knd.row) rfl rfl rfl rfl rfl rfl rfl rfl (.inl rfl) hx36 (by (repeat' first | exact bn _ | refine be ?_ | refine am ?_ (aP _ _ _) | refine am ?_ (aP _ _ [_]) | refine am ?_ (bD (by rfl)))) ?_
  refine gv hF (oF (aD iy)) ?_
  refine SmG.store hF rfl rfl rfl rfl rfl (cM (rows' := [[.i x1.cells, .d (.list 1 (x1.next.map (ax 1 (af .i64))) false), .l x1.turn, .sref 4 0 (x36.map Knd.row).length, .i x2, .d (.v (.bool (x3 == 3))), .z, .i 3, .i 2]]) rfl rfl rfl yB rfl rfl rfl) ?_
  refine SmG.nil (ak ?_)
  obtain rfl := ac h
  exact (kA)
 replace h := hv35
 refine sr hF (gv hF oA (sn (Sm.block ?_)))
 refine Sm.to (kA (e := [(1, .d (.ptr 12 (GRaw.row a0))), (2, .ref 0 0 0), (3, .ref 1 0 0), (4, .i v5), (5, .i 1), (6, .ref 5 0 0), (7, .i 0)]) (g := [(5, ⟨3, [[.d (.v (.string ⟨(x23 : List UInt8).toArray⟩)), .z, .d (.v (.bool ((dY .u8 x24 1) == 1)))]]⟩), (4, dB 3 (v21.map Knd.row)), (1, ⟨9, [[.i x1.cells, .d (.list 1 (x1.next.map (ax 1 (af .i64))) false), .l x1.turn, .sref 4 0 (v21.map Knd.row).length, .i x2, .d (.v (.bool (x3 == 3))), .z, .i 3, .i 2]]⟩), (0, ⟨9, [[.i 0, .z, .z, .z, .i 0, .d (.v (.bool false)), .z, .i 0, .i 0]]⟩)]) (m := 6)) ?_
 refine Sm.ownCell 5 0 1 1 rfl rfl rfl ?_
 refine ba (eJ a0 x1 x2 v5) (fun s25 => ⟨[(1, .d (.ptr 12 (GRaw.row a0))), (2, .ref 0 0 0), (3, .ref 1 0 0), (4, .i v5), (5, .i 1), (6, .ref 5 0 0), (7, .i s25.1)], [(6, dB 1 (s25.2.map (ax 2 Stp.row))), (5, ⟨3, [[.d (.v (.string ⟨(x23 : List UInt8).toArray⟩)), .sref 6 0 (s25.2.map (ax 2 Stp.row)).length, .d (.v (.bool ((dY .u8 x24 1) == 1)))]]⟩), (4, dB 3 (v21.map Knd.row)), (1, ⟨9, [[.i x1.cells, .d (.list 1 (x1.next.map (ax 1 (af .i64))) false), .l x1.turn, .sref 4 0 (v21.map Knd.row).length, .i x2, .d (.v (.bool (x3 == 3))), .z, .i 3, .i 2]]⟩), (0, ⟨9, [[.i 0, .z, .z, .z, .i 0, .d (.v (.bool false)), .z, .i 0, .i 0]]⟩)], 7⟩) (0, ([] : List (List Stp))) h (kA) ?_
 intro n26 s25 o27 h hd28
 unfold eJ at h
 refine Sm.seq (sr hF (gv hF oM (gv hF oM (gv hF (oF (ai mX rfl)) (gv hF (oI (ci u25 cE rfl rfl)) (gv hF (oL (lP1 eX rfl)) (gv hF (oN (aY u24)) (gv hF (oB (bh)) ?_))))))))
 rcases br (decide (s25.1 < (a0.k1.length : Int))) with hc29 | hc29
 ·replace h := ifF hc29 h
  refine gv hF (ar rfl rfl hc29) (gp hF (gp hF (gv hF (ap rfl rfl rfl) (sn ?_))))
  refine bq hF rfl ?_
  refine Sm.exit ?_
  replace h := aC h hd28
  obtain rfl := ac h
  exact (aL (kA (e := [(1, .d (.ptr 12 (GRaw.row a0))), (2, .ref 0 0 0), (3, .ref 1 0 0), (4, .i v5), (5, .i 1), (6, .ref 5 0 0)]) (g := [(6, dB 1 (s25.2.map (ax 2 Stp.row))), (5, ⟨3, [[.d (.v (.string ⟨(x23 : List UInt8).toArray⟩)), .sref 6 0 (s25.2.map (ax 2 Stp.row)).length, .d (.v (.bool ((dY .u8 x24 1) == 1)))]]⟩), (4, dB 3 (v21.map Knd.row)), (1, ⟨9, [[.i x1.cells, .d (.list 1 (x1.next.map (ax 1 (af .i64))) false), .l x1.turn, .sref 4 0 (v21.map Knd.row).length, .i x2, .d (.v (.bool (x3 == 3))), .z, .i 3, .i 2]]⟩), (0, ⟨9, [[.i 0, .z, .z, .z, .i 0, .d (.v (.bool false)), .z, .i 0, .i 0]]⟩)]) (m := 7)) (fA (l := 6) (sz := 1) (s25.2.map (ax 2 Stp.row))))
 replace h := ifT hc29 h
 refine gv hF (ar rfl rfl hc29) (gv hF oM (gv hF (oB (bh)) (gv hF (aJ rfl rfl rfl) (sn ?_))))
 refine ay hF rfl (fun hc30 => ?_) (fun hc30 => ?_)
 ·replace h := ifF hc30 h
  refine Sm.exit ?_
  replace h := aC h hd28
  obtain rfl := ac h
  exact (aL (kA (e := [(1, .d (.ptr 12 (GRaw.row a0))), (2, .ref 0 0 0), (3, .ref 1 0 0), (4, .i v5), (5, .i 1), (6, .ref 5 0 0)]) (g := [(6, dB 1 (s25.2.map (ax 2 Stp.row))), (5, ⟨3, [[.d (.v (.string ⟨(x23 : List UInt8).toArray⟩)), .sref 6 0 (s25.2.map (ax 2 Stp.row)).length, .d (.v (.bool ((dY .u8 x24 1) == 1)))]]⟩), (4, dB 3 (v21.map Knd.row)), (1, ⟨9, [[.i x1.cells, .d (.list 1 (x1.next.map (ax 1 (af .i64))) false), .l x1.turn, .sref 4 0 (v21.map Knd.row).length, .i x2, .d (.v (.bool (x3 == 3))), .z, .i 3, .i 2]]⟩), (0, ⟨9, [[.i 0, .z, .z, .z, .i 0, .d (.v (.bool false)), .z, .i 0, .i 0]]⟩)]) (m := 7)) (fA (l := 6) (sz := 1) (s25.2.map (ax 2 Stp.row))))
 replace h := ifT hc30 h
 refine sk (Sm.seq (Sm.block ?_))
 refine dG hF 18 ?_
 refine hv hF (oF (aD oZ)) (hv hF (oL (bZ rfl rfl vK rfl)) (hv hF oM (hv hF (oF (ai mX rfl)) (hv hF (oI (ci u25 cE rfl rfl)) (hv hF (oL (lP1 eX rfl)) (hv hF oM ?_))))))
 obtain ⟨x31, hx31, h⟩ := aa h
 refine hv hF (oI (aT u24 sz5 hx31)) (hv hF (oL (lP1 ag5 rfl)) (hv hF (oF (aD mC)) (hv hF (oF (aD kS)) (hv hF (oL (bZ rfl rfl pR rfl)) (hv hF (oN (aY u71)) (hv hF oM (hv hF (oF (aD sq)) (hv hF (oL (bZ rfl rfl ag3 rfl)) ?_))))))))
 obtain ⟨x32, hx32, h⟩ := aa h
 refine cH hF (jJ hx32) ?_
 refine hv hF (x := .d (.list 1 ([x32].map (ax 2 Stp.row)) true)) (oS (aw tB qz sf rfl rfl (PartsQ.cons rfl (PartsQ.nil _)) rfl)) ?_
 refine hE ?_
 refine dq (wA (e := [(1, .d (.ptr 12 (GRaw.row a0))), (2, .ref 0 0 0), (3, .ref 1 0 0), (4, .i v5), (5, .i 1), (6, .ref 5 0 0), (7, .i s25.1), (58, .i s25.1), (59, .d (.v (.bool (decide (s25.1 < 4))))), (64, .sref 6 0 (s25.2.map (ax 2 Stp.row)).length), (80, .d (.list 1 ([x32].map (ax 2 Stp.row)) true))]) (g := [(6, dB 1 (s25.2.map (ax 2 Stp.row))), (5, ⟨3, [[.d (.v (.string ⟨(x23 : List UInt8).toArray⟩)), .any, .d (.v (.bool ((dY .u8 x24 1) == 1)))]]⟩), (4, dB 3 (v21.map Knd.row)), (1, ⟨9, [[.i x1.cells, .d (.list 1 (x1.next.map (ax 1 (af .i64))) false), .l x1.turn, .sref 4 0 (v21.map Knd.row).length, .i x2, .d (.v (.bool (x3 == 3))), .z, .i 3, .i 2]]⟩), (0, ⟨9, [[.i 0, .z, .z, .z, .i 0, .d (.v (.bool false)), .z, .i 0, .i 0]]⟩)]) (m := 7)) rfl ?_
 obtain ⟨x33, hx33, h⟩ := aa h
 refine aV hF yX rfl (ys := [x32]) (row := (ax 2 Stp.row)) rfl rfl rfl rfl rfl rfl rfl rfl (.inl rfl) hx33 (by (repeat' first | exact bn _ | refine be ?_ | refine am ?_ (aP _ _ _) | refine am ?_ (aP _ _ [_]) | refine am ?_ (bD (by rfl)))) ?_
 refine gv hF (oF (aD oZ)) ?_
 refine SmG.store hF rfl rfl rfl rfl rfl (cM (rows' := [[.d (.v (.string ⟨(x23 : List UInt8).toArray⟩)), .sref 6 0 (x33.map (ax 2 Stp.row)).length, .d (.v (.bool ((dY .u8 x24 1) == 1)))]]) rfl rfl rfl vT rfl rfl rfl) ?_
 refine SmG.nil (ak (ae ?_))
 refine ab hF rfl ?_
 refine gv hF oM ?_
 obtain ⟨x34, hx34, h⟩ := aa h
 refine gv hF (oB (aU hx34)) (gv hF oA (SmG.nil ?_))
 exact bc (aX h hd28) (kA)
end
section
open Go.RowKit
set_option maxRecDepth 100000
noncomputable def gT (a0 : List Int) (s1 : (Int × (List UInt8))) : Option ((Int × (List UInt8)) ⊕ List UInt8) :=
 bif (decide (s1.1 < (a0.length : Int))) then (
  ob (idx a0 s1.1) fun x6 =>
  ob (app s1.2 [(w8 x6)]) fun x7 =>
  ob (arI .i64 (s1.1 + 1)) fun x8 =>
  some (.inl (x8, x7))
 ) else (
  some (.inr s1.2)
 )
noncomputable def gq (a0 : List Int) : Option (List UInt8) :=
 ob ((
  bm (gT a0) (0, ([] : List UInt8))
  : Option (List UInt8))) fun v9 =>
 some v9
set_option maxHeartbeats 4000000 in
theorem lJ {a0 : List Int} {r : List UInt8} (h : gq a0 = some r) : aj Tryd.prog HG 35 [.l a0] (.list 1 (r.map aH) false) := by
 unfold gq at h
 refine aj.of Tryd.func35 rfl Tryd.ntmps35 (by simp) ?_
 intro F hF h0 hT
 show Sm F _ _ ⟨[(0, .l a0)], [], 0⟩
 refine sr hF (gv hF oA (sn (sr hF (gv hF oA (sn (Sm.seq ?_))))))
 obtain ⟨v9, hv9, h⟩ := aa h
 refine aW ⟨[(3, .d (.list 1 (v9.map aH) false))], [], 1⟩ ?_ ?_
 ·refine Sm.seq ?_
  refine ab hF rfl ?_
  refine gv hF oM (gv hF oA (sn (Sm.ret ?_)))
  obtain rfl := ac h
  exact bu rfl rfl
 replace h := hv9
 refine sr hF (gv hF oM (gv hF (oN (aY u30)) (gv hF oM (sn (Sm.block ?_)))))
 refine Sm.to (kA (e := [(3, .z), (6, .l a0), (7, .i (a0.length : Int)), (8, .i 0)]) (g := []) (m := 0)) ?_
 refine Sm.own (t := 3) 1 rfl ?_
 refine ba (gT a0) (fun s1 => ⟨[(3, .sref 0 0 (s1.2.map aH).length), (6, .l a0), (7, .i (a0.length : Int)), (8, .i s1.1)], [(0, dB 1 (s1.2.map aH))], 1⟩) (0, ([] : List UInt8)) h (kA) ?_
 intro n2 s1 o3 h hd4
 unfold gT at h
 refine sr hF (gv hF (oB (bh)) (sn (Sm.seq ?_)))
 refine ay hF rfl (fun hc5 => ?_) (fun hc5 => ?_)
 ·replace h := ifF hc5 h
  refine Sm.exit ?_
  replace h := aC h hd4
  obtain rfl := ac h
  exact (aL (kA (e := [(3, .sref 0 0 (s1.2.map aH).length)]) (g := [(0, dB 1 (s1.2.map aH))]) (m := 1)) (fA (l := 0) (sz := 1) (s1.2.map aH)))
 replace h := ifT hc5 h
 refine sk (Sm.seq (Sm.block (sr hF ?_)))
 obtain ⟨x6, hx6, h⟩ := aa h
 refine gv hF (oI (aT u30 sz3 hx6)) (gv hF (oL (lP1 ag3 rfl)) (gv hF oA (sn ?_)))
 refine ab hF rfl ?_
 refine gv hF oM (gv hF oM (gv hF (oC (jw u3 u5)) (gv hF (x := .d (.list 1 ([(w8 x6)].map aH) true)) (oS (aw u24 sz5 ze5 rfl rfl (PartsQ.cons rfl (PartsQ.nil _)) rfl)) ?_)))
 obtain ⟨x7, hx7, h⟩ := aa h
 refine aV hF oD rfl (ys := [(w8 x6)]) (row := aH) rfl rfl rfl rfl rfl rfl rfl rfl (.inl rfl) hx7 (by (repeat' first | exact bn _ | refine be ?_ | refine am ?_ (aP _ _ _) | refine am ?_ (aP _ _ [_]) | refine am ?_ (bD (by rfl)))) ?_
 refine gv hF oA (SmG.nil (ak (ae ?_)))
 refine ab hF rfl ?_
 obtain ⟨x8, hx8, h⟩ := aa h
 refine gv hF (oB (aU hx8)) (gv hF oM (SmG.nil ?_))
 exact bc (aX h hd4) (kA)
noncomputable def jL (x1 : List Int) (s2 : (Int × (List UInt8))) : Option ((Int × (List UInt8)) ⊕ List UInt8) :=
 bif (decide (s2.1 < (x1.length : Int))) then (
  ob (idx x1 s2.1) fun x7 =>
  ob (app s2.2 [(w8 x7)]) fun x8 =>
  ob (arI .i64 (s2.1 + 1)) fun x9 =>
  some (.inl (x9, x8))
 ) else (
  some (.inr s2.2)
 )
noncomputable def kL (a0 : Ps) : Option (List UInt8) :=
 ob ((
  ob (dz ([a0.at_, a0.h0, a0.h1, [a0.rights, a0.side]])) fun x1 =>
  bm (jL x1) (0, ([] : List UInt8))
  : Option (List UInt8))) fun v10 =>
 some v10
set_option maxHeartbeats 4000000 in
theorem tN {a0 : Ps} {r : List UInt8} (h : kL a0 = some r) : aj Tryd.prog HG 37 [.agg 5 (Ps.row a0)] (.v (.string ⟨(r : List UInt8).toArray⟩)) := by
 unfold kL at h
 refine aj.of Tryd.func37 rfl Tryd.ntmps37 (by simp) ?_
 intro F hF h0 hT
 show Sm F _ _ ⟨[(0, .d (.agg 5 (Ps.row a0)))], [], 0⟩
 refine sr hF ?_
 refine bQ hF gi ?_
 refine gv hF oA (sn (sr hF (gv hF oA (sn (Sm.seq ?_)))))
 obtain ⟨v10, hv10, h⟩ := aa h
 refine aW ⟨[(3, .d (.list 1 (v10.map aH) false))], [], 2⟩ ?_ ?_
 ·refine Sm.seq ?_
  refine ab hF rfl ?_
  refine gv hF oM (gv hF (oC (dR u24 u9 u5)) (gv hF oA (sn (Sm.ret ?_))))
  obtain rfl := ac h
  exact bu rfl rfl
 replace h := hv10
 refine sr hF (gv hF (oF (ai kD rfl)) (gv hF (oL (lP1 eo rfl)) (gv hF (oF (ai eT rfl)) (gv hF (oI (ci u31 eE rfl rfl)) (gv hF (oL (lP1 eo rfl)) (gv hF (oF (ai eT rfl)) (gv hF (oI (ci u31 eE rfl rfl)) (gv hF (oL (lP1 eo rfl)) ?_))))))))
 refine gv hF (oF (ai ov rfl)) (gv hF (oL (lP1 ag3 rfl)) (gv hF (oF (ai oq rfl)) (gv hF (oL (lP1 ag3 rfl)) (gv hF (x := .d (.list 1 ([a0.rights, a0.side].map (af .i64)) true)) (oS (aw u30 sz3 ze3 rfl rfl (PartsQ.cons rfl (PartsQ.cons rfl (PartsQ.nil _))) rfl)) ?_))))
 refine dq (wA (e := [(3, .z), (7, .l a0.at_), (10, .l a0.h0), (13, .l a0.h1), (18, .d (.list 1 ([a0.rights, a0.side].map (af .i64)) false))]) (g := []) (m := 0)) rfl ?_
 refine gv hF (x := .d (.list 1 ([a0.at_, a0.h0, a0.h1, [a0.rights, a0.side]].map (ax 1 (af .i64))) true)) (oS (aw u71 eE vq rfl rfl (PartsQ.cons rfl (PartsQ.cons rfl (PartsQ.cons rfl (PartsQ.cons rfl (PartsQ.nil _))))) rfl)) ?_
 obtain ⟨x1, hx1, h⟩ := aa h
 refine SmG.callO hF rfl rfl (by kernel_rfl) rfl rfl rfl (eQ.args (kT hx1) (fun C => (oE (fun _ h => h)))) ?_
 refine gv hF (oN (Ca u30)) (gv hF oM (sn (Sm.block ?_)))
 refine Sm.to (kA (e := [(3, .z), (20, .sref 0 0 (x1.map (af .i64)).length), (21, .i (x1.length : Int)), (22, .i 0)]) (g := [(0, dB 1 (x1.map (af .i64)))]) (m := 1)) ?_
 refine Sm.own (t := 3) 1 rfl ?_
 refine ba (jL x1) (fun s2 => ⟨[(3, .sref 1 0 (s2.2.map aH).length), (20, .sref 0 0 (x1.map (af .i64)).length), (21, .i (x1.length : Int)), (22, .i s2.1)], [(1, dB 1 (s2.2.map aH)), (0, dB 1 (x1.map (af .i64)))], 2⟩) (0, ([] : List UInt8)) h (kA) ?_
 intro n3 s2 o4 h hd5
 unfold jL at h
 refine sr hF (gv hF (oB (bh)) (sn (Sm.seq ?_)))
 refine ay hF rfl (fun hc6 => ?_) (fun hc6 => ?_)
 ·replace h := ifF hc6 h
  refine Sm.exit ?_
  replace h := aC h hd5
  obtain rfl := ac h
  exact (aL (kA (e := [(3, .sref 1 0 (s2.2.map aH).length)]) (g := [(1, dB 1 (s2.2.map aH))]) (m := 2)) (fA (l := 1) (sz := 1) (s2.2.map aH)))
 replace h := ifT hc6 h
 refine sk (Sm.seq (Sm.block (sr hF ?_)))
 obtain ⟨x7, hx7, h⟩ := aa h
 refine gv hF (oI (oX u30 sz3 rfl hx7)) (gv hF (oL (AJ rfl hx7 ag3 rfl)) (gv hF oA (sn ?_)))
 refine ab hF rfl ?_
 refine gv hF oM (gv hF oM (gv hF (oC (jw u3 u5)) (gv hF (x := .d (.list 1 ([(w8 x7)].map aH) true)) (oS (aw u24 sz5 ze5 rfl rfl (PartsQ.cons rfl (PartsQ.nil _)) rfl)) ?_)))
 obtain ⟨x8, hx8, h⟩ := aa h
 refine aV hF oD rfl (ys := [(w8 x7)]) (row := aH) rfl rfl rfl rfl rfl rfl rfl rfl (.inl rfl) hx8 (by (repeat' first | exact bn _ | refine be ?_ | refine am ?_ (aP _ _ _) | refine am ?_ (aP _ _ [_]) | refine am ?_ (bD (by rfl)))) ?_
 refine gv hF oA (SmG.nil (ak (ae ?_)))
 refine ab hF rfl ?_
 obtain ⟨x9, hx9, h⟩ := aa h
 refine gv hF (oB (aU hx9)) (gv hF oM (SmG.nil ?_))
 exact bc (aX h hd5) (kA)
noncomputable def fU (a0 : Ps) (a1 : Rs) : Option (List UInt8) :=
 ob (gq [(a0.at_.length : Int), (a0.h0.length : Int), (a0.h1.length : Int)]) fun x1 =>
 ob (kL a0) fun x2 =>
 ob (pD x2) fun x3 =>
 ob (j3 .i64 a1.n 24) fun x4 =>
 ob (j3 .i64 a1.n 16) fun x5 =>
 ob (j3 .i64 a1.n 8) fun x6 =>
 ob (gq [a1.out, x4, x5, x6, a1.n]) fun x7 =>
 ob (cU [x1, x3, x7]) fun x8 =>
 some x8
set_option maxHeartbeats 4000000 in
theorem jA {a0 : Ps} {a1 : Rs} {r : List UInt8} (h : fU a0 a1 = some r) : aj Tryd.prog HG 13 [.agg 5 (Ps.row a0), .agg 2 (Rs.row a1)] (.list 1 (r.map aH) false) := by
 unfold fU at h
 refine aj.of Tryd.func13 rfl Tryd.ntmps13 (by simp) ?_
 intro F hF h0 hT
 show Sm F _ _ ⟨[(0, .d (.agg 5 (Ps.row a0))), (1, .d (.agg 2 (Rs.row a1)))], [], 0⟩
 refine sr hF ?_
 refine bQ hF gi ?_
 refine bQ hF gi ?_
 refine gv hF oA (sn (sr hF (gv hF (oF (ai kD rfl)) (gv hF (oL (lP1 eo rfl)) (gv hF (oN (aY u30)) (gv hF (oF (ai eT rfl)) (gv hF (oI (ci u31 eE rfl rfl)) (gv hF (oL (lP1 eo rfl)) ?_))))))))
 refine gv hF (oN (aY u30)) (gv hF (oF (ai eT rfl)) (gv hF (oI (ci u31 eE rfl rfl)) (gv hF (oL (lP1 eo rfl)) (gv hF (oN (aY u30)) (gv hF (x := .d (.list 1 ([(a0.at_.length : Int), (a0.h0.length : Int), (a0.h1.length : Int)].map (af .i64)) true)) (oS (aw u30 sz3 ze3 rfl rfl (PartsQ.cons rfl (PartsQ.cons rfl (PartsQ.cons rfl (PartsQ.nil _)))) rfl)) ?_)))))
 obtain ⟨x1, hx1, h⟩ := aa h
 refine SmG.call hF rfl rfl (by kernel_rfl) rfl rfl rfl (aj.args (lJ hx1) (fun C => (oE (fun _ h => h)))) ?_
 refine gv hF oA (sn (Sm.seq ?_))
 refine dG hF 19 ?_
 refine hv hF oM (hv hF (x := .d (.agg 5 (Ps.row a0))) (oL (bR gz cK rfl rfl)) ?_)
 obtain ⟨x2, hx2, h⟩ := aa h
 refine cH hF (tN hx2) ?_
 obtain ⟨x3, hx3, h⟩ := aa h
 refine aF.ofString hF rfl rfl rfl rfl rfl Tryd.underlying9 Tryd.underlying24 Tryd.underlying5 hx3 ?_
 refine hv hF (oF (ai sM rfl)) (hv hF (oL (lP1 ag3 rfl)) (hv hF (oF (ai mF rfl)) (hv hF (oL (lP1 ag3 rfl)) ?_)))
 obtain ⟨x4, hx4, h⟩ := aa h
 refine hv hF (oB (lH hx4)) (hv hF (oF (ai mF rfl)) (hv hF (oL (lP1 ag3 rfl)) ?_))
 obtain ⟨x5, hx5, h⟩ := aa h
 refine hv hF (oB (lH hx5)) (hv hF (oF (ai mF rfl)) (hv hF (oL (lP1 ag3 rfl)) ?_))
 obtain ⟨x6, hx6, h⟩ := aa h
 refine hv hF (oB (lH hx6)) (hv hF (oF (ai mF rfl)) (hv hF (oL (lP1 ag3 rfl)) (hv hF (x := .d (.list 1 ([a1.out, x4, x5, x6, a1.n].map (af .i64)) true)) (oS (aw u30 sz3 ze3 rfl rfl (PartsQ.cons rfl (PartsQ.cons rfl (PartsQ.cons rfl (PartsQ.cons rfl (PartsQ.cons rfl (PartsQ.nil _)))))) rfl)) ?_)))
 obtain ⟨x7, hx7, h⟩ := aa h
 refine aF.c hF rfl rfl (by kernel_rfl) rfl rfl rfl (aj.args (lJ hx7) (fun C => (oE (fun _ h => h)))) ?_
 refine hE ?_
 refine gv hF (x := .d (.list 1 ([x1, x3, x7].map aS) true)) (oS (aw u61 cE pw rfl rfl (PartsQ.cons rfl (PartsQ.cons rfl (PartsQ.cons rfl (PartsQ.nil _)))) rfl)) ?_
 obtain ⟨x8, hx8, h⟩ := aa h
 refine SmG.callO hF rfl rfl (by kernel_rfl) rfl rfl rfl (eQ.args (jU hx8) (fun C => (oE (fun _ h => h)))) ?_
 refine gv hF oA (sn ?_)
 refine Sm.to (aL (kA (e := [(4, .sref 0 0 (x8.map aH).length)]) (g := [(0, dB 1 (x8.map aH))]) (m := 1)) (fA (l := 0) (sz := 1) (e := [(4, .d (.list 1 (x8.map aH) false))]) (g := []) (nx := 1) (x8.map aH))) ?_
 refine Sm.ret ?_
 obtain rfl := ac h
 exact bu rfl rfl
noncomputable def eK (a0 : List Ps) (a1 : List Rs) (s1 : (Int × (List (List UInt8)))) : Option ((Int × (List (List UInt8))) ⊕ List (List UInt8)) :=
 bif (decide (s1.1 < (min (a0.length : Int) (a1.length : Int)))) then (
  ob (idx a0 s1.1) fun x6 =>
  ob (idx a1 s1.1) fun x7 =>
  ob (fU x6 x7) fun x8 =>
  ob (app s1.2 [x8]) fun x9 =>
  ob (arI .i64 (s1.1 + 1)) fun x10 =>
  some (.inl (x10, x9))
 ) else (
  some (.inr s1.2)
 )
noncomputable def fP (a0 : List Ps) (a1 : List Rs) : Option (List (List UInt8)) :=
 ob ((
  bm (eK a0 a1) (0, ([] : List (List UInt8)))
  : Option (List (List UInt8)))) fun v11 =>
 some v11
set_option maxHeartbeats 4000000 in
theorem ld {a0 : List Ps} {a1 : List Rs} {r : List (List UInt8)} (h : fP a0 a1 = some r) : aj Tryd.prog HG 33 [.list 5 (a0.map Ps.row) false, .list 2 (a1.map Rs.row) false] (.list 1 (r.map aS) false) := by
 unfold fP at h
 refine aj.of Tryd.func33 rfl Tryd.ntmps33 (by simp) ?_
 intro F hF h0 hT
 show Sm F _ _ ⟨[(0, .d (.list 5 (a0.map Ps.row) false)), (1, .d (.list 2 (a1.map Rs.row) false))], [], 0⟩
 refine sr hF (gv hF oA (sn (sr hF (gv hF oA (sn (Sm.seq ?_))))))
 obtain ⟨v11, hv11, h⟩ := aa h
 refine aW ⟨[(5, .d (.list 1 (v11.map aS) false))], [], 1⟩ ?_ ?_
 ·refine Sm.seq ?_
  refine ab hF rfl ?_
  refine gv hF oM (gv hF oA (sn (Sm.ret ?_)))
  obtain rfl := ac h
  exact bu rfl rfl
 replace h := hv11
 refine sr hF (gv hF oM (gv hF (oN (aY u40)) (gv hF oM (gv hF (oN (aY u41)) (gv hF (ut rfl rfl rfl xl) (gv hF oM (sn (Sm.block ?_))))))))
 refine Sm.to (kA (e := [(0, .d (.list 5 (a0.map Ps.row) false)), (1, .d (.list 2 (a1.map Rs.row) false)), (5, .z), (11, .i (min (a0.length : Int) (a1.length : Int))), (12, .i 0)]) (g := []) (m := 0)) ?_
 refine Sm.own (t := 5) 1 rfl ?_
 refine ba (eK a0 a1) (fun s1 => ⟨[(0, .d (.list 5 (a0.map Ps.row) false)), (1, .d (.list 2 (a1.map Rs.row) false)), (5, .sref 0 0 (s1.2.map aS).length), (11, .i (min (a0.length : Int) (a1.length : Int))), (12, .i s1.1)], [(0, dB 1 (s1.2.map aS))], 1⟩) (0, ([] : List (List UInt8))) h (kA) ?_
 intro n2 s1 o3 h hd4
 unfold eK at h
 refine sr hF (gv hF (oB (bh)) (sn (Sm.seq ?_)))
 refine ay hF rfl (fun hc5 => ?_) (fun hc5 => ?_)
 ·replace h := ifF hc5 h
  refine Sm.exit ?_
  replace h := aC h hd4
  obtain rfl := ac h
  exact (aL (kA (e := [(5, .sref 0 0 (s1.2.map aS).length)]) (g := [(0, dB 1 (s1.2.map aS))]) (m := 1)) (fA (l := 0) (sz := 1) (s1.2.map aS)))
 replace h := ifT hc5 h
 refine sk (Sm.seq (Sm.block (sr hF (gv hF oM (gv hF oA (sn ?_))))))
 refine dG hF 11 ?_
 refine hv hF oM (hv hF oM (hv hF oM ?_))
 obtain ⟨x6, hx6, h⟩ := aa h
 refine hv hF (oI (aT u40 cK hx6)) (hv hF (x := .d (.agg 5 (Ps.row x6))) (oL (bR gz cK rfl rfl)) (hv hF oM (hv hF oM ?_)))
 obtain ⟨x7, hx7, h⟩ := aa h
 refine hv hF (oI (aT u41 fL hx7)) (hv hF (x := .d (.agg 2 (Rs.row x7))) (oL (bR j8 fL rfl rfl)) ?_)
 obtain ⟨x8, hx8, h⟩ := aa h
 refine cH hF (jA hx8) ?_
 refine hv hF (x := .d (.list 1 ([x8].map aS) true)) (oS (aw u61 cE pw rfl rfl (PartsQ.cons rfl (PartsQ.nil _)) rfl)) ?_
 refine hE ?_
 obtain ⟨x9, hx9, h⟩ := aa h
 refine aV hF pH rfl (ys := [x8]) (row := aS) rfl rfl rfl rfl rfl rfl rfl rfl (.inl rfl) hx9 (by (repeat' first | exact bn _ | refine be ?_ | refine am ?_ (aP _ _ _) | refine am ?_ (aP _ _ [_]) | refine am ?_ (bD (by rfl)))) ?_
 refine gv hF oA (SmG.nil (ak (ae ?_)))
 refine ab hF rfl ?_
 obtain ⟨x10, hx10, h⟩ := aa h
 refine gv hF (oB (aU hx10)) (gv hF oM (SmG.nil ?_))
 exact bc (aX h hd4) (kA)
noncomputable def fc (a0 : List Ps) (a1 : List Rs) : Option (List UInt8) :=
 ob (fP a0 a1) fun x1 =>
 ob (km x1) fun x2 =>
 ob (vN 32 x2) fun x3 =>
 some x2
set_option maxHeartbeats 4000000 in
theorem jO {a0 : List Ps} {a1 : List Rs} {r : List UInt8} (h : fc a0 a1 = some r) : aj Tryd.prog HG 11 [.list 5 (a0.map Ps.row) false, .list 2 (a1.map Rs.row) false] (.agg 32 (aI r)) := by
 unfold fc at h
 refine aj.of Tryd.func11 rfl Tryd.ntmps11 (by simp) ?_
 intro F hF h0 hT
 show Sm F _ _ ⟨[(0, .d (.list 5 (a0.map Ps.row) false)), (1, .d (.list 2 (a1.map Rs.row) false))], [], 0⟩
 refine sr hF ?_
 refine SmG.new hF rfl rfl rfl (aO rfl jo) ?_
 refine sn (sr hF (gv hF oM (gv hF oM ?_)))
 obtain ⟨x1, hx1, h⟩ := aa h
 refine cS hF (ld hx1) ?_
 obtain ⟨x2, hx2, h⟩ := aa h
 refine cS hF (rX hx2) ?_
 obtain ⟨x3, hx3, h⟩ := aa h
 refine SmG.store hF rfl rfl rfl rfl rfl (jv rfl rfl cB rfl (cr hx3)) ?_
 refine sn (Sm.ret ?_)
 obtain rfl := ac h
 exact dS (RetR.cons (RetO.cell rfl (f8 rfl fJ cB)) (RetR.nil)) (D.le.refl _)
noncomputable def cQ (a0 : List Ps) (a1 : List Rs) (a2 : Int) (a3 : Int) : Option (Ans × Int) :=
 bif ((a0.length : Int) != (a1.length : Int)) then (
  some ((⟨0, 0, 0, (⟨[], [], [], 0, 0⟩ : Ps), (⟨0, 0⟩ : Rs), []⟩ : Ans), 1)
 ) else (
  ob (fP a0 a1) fun x2 =>
  ob (gu x2 a3) fun x3 =>
  bif (x3.2 != 0) then (
   some ((⟨0, 0, 0, (⟨[], [], [], 0, 0⟩ : Ps), (⟨0, 0⟩ : Rs), []⟩ : Ans), x3.2)
  ) else (
   ob (idx a0 a3) fun x5 =>
   ob (idx a1 a3) fun x6 =>
   some ((⟨a2, a3, (a0.length : Int), x5, x6, x3.1⟩ : Ans), 0)
  )
 )
set_option maxHeartbeats 4000000 in
theorem ja {a0 : List Ps} {a1 : List Rs} {a2 : Int} {a3 : Int} {r : (Ans × Int)} (h : cQ a0 a1 a2 a3 = some r) : aj Tryd.prog HG 15 [.list 5 (a0.map Ps.row) false, .list 2 (a1.map Rs.row) false, .i a2, .i a3] (.tup [.agg 11 (Ans.row r.1), .i r.2]) := by
 unfold cQ at h
 refine aj.of Tryd.func15 rfl Tryd.ntmps15 (by simp) ?_
 intro F hF h0 hT
 show Sm F _ _ ⟨[(0, .d (.list 5 (a0.map Ps.row) false)), (1, .d (.list 2 (a1.map Rs.row) false)), (2, .i a2), (3, .i a3)], [], 0⟩
 refine sr hF ?_
 refine SmG.new hF rfl rfl rfl (aO rfl uT) ?_
 refine gv hF oA (sn (Sm.seq (sr hF (gv hF oM (gv hF (oN (aY u40)) (gv hF oM (gv hF (oN (aY u41)) (gv hF (oB (lZ)) ?_))))))))
 refine sn ?_
 refine bw hF rfl (fun hc1 => ?_) (fun hc1 => ?_)
 ·replace h := ifT hc1 h
  refine sr hF (gv hF (x := .d (.agg 11 [.i 0, .i 0, .i 0, .z, .z, .z, .i 0, .i 0, .i 0, .i 0, .z])) (a8 rfl u38 (by kernel_rfl) rfl Ag) ?_)
  refine SmG.store hF rfl rfl rfl rfl rfl (bd (ys := [.i 0, .i 0, .i 0, .z, .z, .z, .i 0, .i 0, .i 0, .i 0, .z]) (r := [.i 0, .i 0, .i 0, .z, .z, .z, .i 0, .i 0, .i 0, .i 0, .z]) (rows' := [[.i 0, .i 0, .i 0, .z, .z, .z, .i 0, .i 0, .i 0, .i 0, .z]]) rfl rfl rfl ka rfl rfl rfl rfl rfl) ?_
  refine gv hF oA (sn (Sm.ret ?_))
  obtain rfl := ac h
  exact dS (RetR.cons (RetO.cell rfl (aG (ds := [.i 0, .i 0, .i 0, .z, .z, .z, .i 0, .i 0, .i 0, .i 0, .z]) rfl rfl pC ka rfl rfl)) (RetR.cons (RetO.tmp rfl) (RetR.nil))) (by repeat' first | exact D.le.refl _ | exact eV _ _ _ | exact dL _ _ _ | refine ff ?_ | exact LeRows.nil | refine LeRows.cons ?_ ?_ | exact LeL.nil | refine LeL.cons ?_ ?_ | refine fe ?_ | refine fd ?_)
 replace h := ifF hc1 h
 refine sk (sr hF (gv hF oM (gv hF oM ?_)))
 obtain ⟨x2, hx2, h⟩ := aa h
 refine cS hF (ld hx2) ?_
 refine gv hF oM ?_
 obtain ⟨x3, hx3, h⟩ := aa h
 refine cS hF (q9 hx3) ?_
 refine gv hF oM (gv hF (bS rfl rfl rfl) (gv hF (bS rfl rfl rfl) (gv hF oA (gv hF oA (sn (Sm.seq (sr hF (gv hF oM ?_))))))))
 refine gv hF (oB (lZ)) (sn ?_)
 refine bw hF rfl (fun hc4 => ?_) (fun hc4 => ?_)
 ·replace h := ifT hc4 h
  refine sr hF (gv hF (x := .d (.agg 11 [.i 0, .i 0, .i 0, .z, .z, .z, .i 0, .i 0, .i 0, .i 0, .z])) (a8 rfl u38 (by kernel_rfl) rfl Ag) (gv hF oM ?_))
  refine SmG.store hF rfl rfl rfl rfl rfl (bd (ys := [.i 0, .i 0, .i 0, .z, .z, .z, .i 0, .i 0, .i 0, .i 0, .z]) (r := [.i 0, .i 0, .i 0, .z, .z, .z, .i 0, .i 0, .i 0, .i 0, .z]) (rows' := [[.i 0, .i 0, .i 0, .z, .z, .z, .i 0, .i 0, .i 0, .i 0, .z]]) rfl rfl rfl ka rfl rfl rfl rfl rfl) ?_
  refine gv hF oA (sn (Sm.ret ?_))
  obtain rfl := ac h
  exact dS (RetR.cons (RetO.cell rfl (aG (ds := [.i 0, .i 0, .i 0, .z, .z, .z, .i 0, .i 0, .i 0, .i 0, .z]) rfl rfl pC ka rfl rfl)) (RetR.cons (RetO.tmp rfl) (RetR.nil))) (by repeat' first | exact D.le.refl _ | exact eV _ _ _ | exact dL _ _ _ | refine ff ?_ | exact LeRows.nil | refine LeRows.cons ?_ ?_ | exact LeL.nil | refine LeL.cons ?_ ?_ | refine fe ?_ | refine fd ?_)
 replace h := ifF hc4 h
 refine sk (Sm.seq ?_)
 refine dG hF 13 ?_
 refine hv hF oM (hv hF oM (hv hF oM (hv hF (oN (aY u40)) (hv hF oM (hv hF oM ?_)))))
 obtain ⟨x5, hx5, h⟩ := aa h
 refine hv hF (oI (aT u40 cK hx5)) (hv hF (x := .d (.agg 5 (Ps.row x5))) (oL (bR gz cK rfl rfl)) (hv hF oM (hv hF oM ?_)))
 obtain ⟨x6, hx6, h⟩ := aa h
 refine hv hF (oI (aT u41 fL hx6)) (hv hF (x := .d (.agg 2 (Rs.row x6))) (oL (bR j8 fL rfl rfl)) (hv hF oM ?_))
 refine hE ?_
 refine gv hF (x := .d (.agg 11 [.i a2, .i a3, .i (a0.length : Int), .l x5.at_, .l x5.h0, .l x5.h1, .i x5.rights, .i x5.side, .i x6.out, .i x6.n, .list 32 (x3.1.map aI) false])) (a8 rfl u38 (by kernel_rfl) rfl (bg (n := 11) AR EN rfl rfl)) ?_
 refine SmG.store hF rfl rfl rfl rfl rfl (bd (ys := [.i a2, .i a3, .i (a0.length : Int), .l x5.at_, .l x5.h0, .l x5.h1, .i x5.rights, .i x5.side, .i x6.out, .i x6.n, .d (.list 32 (x3.1.map aI) false)]) (r := [.i 0, .i 0, .i 0, .z, .z, .z, .i 0, .i 0, .i 0, .i 0, .z]) (rows' := [[.i a2, .i a3, .i (a0.length : Int), .l x5.at_, .l x5.h0, .l x5.h1, .i x5.rights, .i x5.side, .i x6.out, .i x6.n, .d (.list 32 (x3.1.map aI) false)]]) rfl rfl rfl ka rfl rfl rfl rfl rfl) ?_
 refine gv hF oA (sn (Sm.ret ?_))
 obtain rfl := ac h
 exact dS (RetR.cons (RetO.cell rfl (aG (ds := [.i a2, .i a3, .i (a0.length : Int), .l x5.at_, .l x5.h0, .l x5.h1, .i x5.rights, .i x5.side, .i x6.out, .i x6.n, .list 32 (x3.1.map aI) false]) rfl rfl pC ka rfl rfl)) (RetR.cons (RetO.tmp rfl) (RetR.nil))) (D.le.refl _)
noncomputable def cJ (a1 : Rs) (s5 : (Int × (List UInt8))) : Option ((Int × (List UInt8)) ⊕ List UInt8) :=
 bif (decide (0 ≤ s5.1)) then (
  ob (arI .i64 (8 * s5.1)) fun x10 =>
  ob (j3 .i64 a1.n x10) fun x11 =>
  ob (app s5.2 [(w8 x11)]) fun x12 =>
  ob (arI .i64 (s5.1 - 1)) fun x13 =>
  some (.inl (x13, x12))
 ) else (
  some (.inr s5.2)
 )
noncomputable def eN (a0 : Ps) (a1 : Rs) : Option (List UInt8) :=
 ob (gc a0) fun x1 =>
 ob (pD x1) fun x2 =>
 ob (app [(w8 (a0.at_.length : Int)), (w8 (a0.h0.length : Int)), (w8 (a0.h1.length : Int))] x2) fun x3 =>
 ob (app x3 [(w8 a1.out)]) fun x4 =>
 ob ((
  bm (cJ a1) (3, x4)
  : Option (List UInt8))) fun v14 =>
 some v14
set_option maxHeartbeats 4000000 in
theorem jT {a0 : Ps} {a1 : Rs} {r : List UInt8} (h : eN a0 a1 = some r) : aj Tryd.prog HG 14 [.agg 5 (Ps.row a0), .agg 2 (Rs.row a1)] (.list 1 (r.map aH) false) := by
 unfold eN at h
 refine aj.of Tryd.func14 rfl Tryd.ntmps14 (by simp) ?_
 intro F hF h0 hT
 show Sm F _ _ ⟨[(0, .d (.agg 5 (Ps.row a0))), (1, .d (.agg 2 (Rs.row a1)))], [], 0⟩
 refine sr hF ?_
 refine bQ hF gi ?_
 refine bQ hF gi ?_
 refine gv hF oA (sn (sr hF (gv hF (oF (ai kD rfl)) (gv hF (oL (lP1 eo rfl)) (gv hF (oN (aY u30)) (gv hF (oC (jw u3 u5)) (gv hF (oF (ai eT rfl)) (gv hF (oI (ci u31 eE rfl rfl)) ?_))))))))
 refine gv hF (oL (lP1 eo rfl)) (gv hF (oN (aY u30)) (gv hF (oC (jw u3 u5)) (gv hF (oF (ai eT rfl)) (gv hF (oI (ci u31 eE rfl rfl)) (gv hF (oL (lP1 eo rfl)) (gv hF (oN (aY u30)) (gv hF (oC (jw u3 u5)) ?_)))))))
 refine SmG.buildOwn hF (rows := ([(w8 (a0.at_.length : Int)), (w8 (a0.h0.length : Int)), (w8 (a0.h1.length : Int))].map aH)) rfl rfl rfl rfl rfl (aw Tryd.underlying24 sz5 ze5 rfl rfl (PartsQ.cons rfl (PartsQ.cons rfl (PartsQ.cons rfl (PartsQ.nil _)))) rfl) (by simp) ?_
 refine gv hF oA (sn (sr hF (gv hF oM (gv hF (x := .d (.agg 5 (Ps.row a0))) (oL (bR gz cK rfl rfl)) ?_))))
 obtain ⟨x1, hx1, h⟩ := aa h
 refine cS hF (nQ hx1) ?_
 obtain ⟨x2, hx2, h⟩ := aa h
 refine SmG.ofString hF rfl rfl rfl rfl rfl Tryd.underlying9 Tryd.underlying24 Tryd.underlying5 hx2 ?_
 obtain ⟨x3, hx3, h⟩ := aa h
 refine aV hF oD rfl (ys := x2) (row := aH) rfl rfl rfl rfl rfl rfl rfl rfl (.inl rfl) hx3 (by (repeat' first | exact bn _ | refine be ?_ | refine am ?_ (aP _ _ _) | refine am ?_ (aP _ _ [_]) | refine am ?_ (bD (by rfl)))) ?_
 refine gv hF oA (sn (sr hF (gv hF oM (gv hF (oF (ai sM rfl)) (gv hF (oL (lP1 ag3 rfl)) (gv hF (oC (jw u3 u5)) (gv hF (x := .d (.list 1 ([(w8 a1.out)].map aH) true)) (oS (aw u24 sz5 ze5 rfl rfl (PartsQ.cons rfl (PartsQ.nil _)) rfl)) ?_)))))))
 obtain ⟨x4, hx4, h⟩ := aa h
 refine aV hF oD rfl (ys := [(w8 a1.out)]) (row := aH) rfl rfl rfl rfl rfl rfl rfl rfl (.inl rfl) hx4 (by (repeat' first | exact bn _ | refine be ?_ | refine am ?_ (aP _ _ _) | refine am ?_ (aP _ _ [_]) | refine am ?_ (bD (by rfl)))) ?_
 refine gv hF oA (sn (Sm.seq ?_))
 obtain ⟨v14, hv14, h⟩ := aa h
 refine aW ⟨[(5, .sref 0 0 (v14.map aH).length)], [(0, dB 1 (v14.map aH))], 1⟩ ?_ ?_
 ·refine Sm.seq ?_
  refine ab hF rfl ?_
  refine gv hF oM (gv hF oA (sn ?_))
  refine Sm.to (aL (kA (e := [(4, .sref 0 0 (v14.map aH).length)]) (g := [(0, dB 1 (v14.map aH))]) (m := 1)) (fA (l := 0) (sz := 1) (e := [(4, .d (.list 1 (v14.map aH) false))]) (g := []) (nx := 1) (v14.map aH))) ?_
  refine Sm.ret ?_
  obtain rfl := ac h
  exact bu rfl rfl
 replace h := hv14
 refine sr hF (gv hF oA (sn (Sm.block ?_)))
 refine ba (cJ a1) (fun s5 => ⟨[(3, .d (.ptr 2 (Rs.row a1))), (5, .sref 0 0 (s5.2.map aH).length), (6, .i s5.1)], [(0, dB 1 (s5.2.map aH))], 1⟩) (3, x4) h (kA) ?_
 intro n6 s5 o7 h hd8
 unfold cJ at h
 refine Sm.seq (sr hF (gv hF oM (gv hF (oB (oW)) (sn ?_))))
 refine ay hF rfl (fun hc9 => ?_) (fun hc9 => ?_)
 ·replace h := ifF hc9 h
  refine Sm.exit ?_
  replace h := aC h hd8
  obtain rfl := ac h
  exact (kA)
 replace h := ifT hc9 h
 refine sk (Sm.seq (Sm.block ?_))
 refine ab hF rfl ?_
 refine gv hF oM (gv hF (oF (ai mF rfl)) (gv hF (oL (lP1 ag3 rfl)) (gv hF oM ?_)))
 obtain ⟨x10, hx10, h⟩ := aa h
 refine gv hF (oB (iH hx10)) ?_
 obtain ⟨x11, hx11, h⟩ := aa h
 refine gv hF (oB (lH hx11)) (gv hF (oC (jw u3 u5)) (gv hF (x := .d (.list 1 ([(w8 x11)].map aH) true)) (oS (aw u24 sz5 ze5 rfl rfl (PartsQ.cons rfl (PartsQ.nil _)) rfl)) ?_))
 obtain ⟨x12, hx12, h⟩ := aa h
 refine aV hF oD rfl (ys := [(w8 x11)]) (row := aH) rfl rfl rfl rfl rfl rfl rfl rfl (.inl rfl) hx12 (by (repeat' first | exact bn _ | refine be ?_ | refine am ?_ (aP _ _ _) | refine am ?_ (aP _ _ [_]) | refine am ?_ (bD (by rfl)))) ?_
 refine gv hF oA (SmG.nil (ak (ae ?_)))
 refine ab hF rfl ?_
 refine gv hF oM ?_
 obtain ⟨x13, hx13, h⟩ := aa h
 refine gv hF (oB (nV hx13)) (gv hF oA (SmG.nil ?_))
 exact bc (aX h hd8) (kA)
noncomputable def cW (a0 : List Ps) (a1 : List Rs) (s1 : (Int × (List (List UInt8)))) : Option ((Int × (List (List UInt8))) ⊕ List (List UInt8)) :=
 bif (decide (s1.1 < (a0.length : Int))) then (
  bif (decide (s1.1 < (a1.length : Int))) then (
   ob (idx a0 s1.1) fun x7 =>
   ob (idx a1 s1.1) fun x8 =>
   ob (eN x7 x8) fun x9 =>
   ob (app s1.2 [x9]) fun x10 =>
   ob (arI .i64 (s1.1 + 1)) fun x11 =>
   some (.inl (x11, x10))
  ) else (
   some (.inr s1.2)
  )
 ) else (
  some (.inr s1.2)
 )
noncomputable def d8 (a0 : List Ps) (a1 : List Rs) : Option (List (List UInt8)) :=
 ob ((
  bm (cW a0 a1) (0, ([] : List (List UInt8)))
  : Option (List (List UInt8)))) fun v12 =>
 some v12
set_option maxHeartbeats 4000000 in
theorem je {a0 : List Ps} {a1 : List Rs} {r : List (List UInt8)} (h : d8 a0 a1 = some r) : aj Tryd.prog HG 28 [.list 5 (a0.map Ps.row) false, .list 2 (a1.map Rs.row) false] (.list 1 (r.map aS) false) := by
 unfold d8 at h
 refine aj.of Tryd.func28 rfl Tryd.ntmps28 (by simp) ?_
 intro F hF h0 hT
 show Sm F _ _ ⟨[(0, .d (.list 5 (a0.map Ps.row) false)), (1, .d (.list 2 (a1.map Rs.row) false))], [], 0⟩
 refine sr hF (gv hF oA (sn (sr hF (gv hF (x := .d (.list 1 (([] : List (List UInt8)).map aS) true)) (oS (dN u61 cE)) (gv hF oA (sn (Sm.seq ?_)))))))
 obtain ⟨v12, hv12, h⟩ := aa h
 refine aW ⟨[(5, .d (.list 1 (v12.map aS) false))], [], 1⟩ ?_ ?_
 ·refine Sm.seq ?_
  refine ab hF rfl ?_
  refine gv hF oM (gv hF oA (sn (Sm.ret ?_)))
  obtain rfl := ac h
  exact bu rfl rfl
 replace h := hv12
 refine sr hF (gv hF oA (sn (Sm.block ?_)))
 refine Sm.to (kA (e := [(0, .d (.list 5 (a0.map Ps.row) false)), (1, .d (.list 2 (a1.map Rs.row) false)), (5, .d (.list 1 ([].map aS) true)), (6, .i 0)]) (g := []) (m := 0)) ?_
 refine Sm.own (t := 5) 1 rfl ?_
 refine ba (cW a0 a1) (fun s1 => ⟨[(0, .d (.list 5 (a0.map Ps.row) false)), (1, .d (.list 2 (a1.map Rs.row) false)), (5, .sref 0 0 (s1.2.map aS).length), (6, .i s1.1)], [(0, dB 1 (s1.2.map aS))], 1⟩) (0, ([] : List (List UInt8))) h (kA) ?_
 intro n2 s1 o3 h hd4
 unfold cW at h
 refine Sm.seq (sr hF (gv hF oM (gv hF oM (gv hF (oN (aY u40)) (gv hF (oB (bh)) ?_)))))
 rcases br (decide (s1.1 < (a0.length : Int))) with hc5 | hc5
 ·replace h := ifF hc5 h
  refine gv hF (ar rfl rfl hc5) (gp hF (gp hF (gp hF (gp hF (gv hF (ap rfl rfl rfl) (sn ?_))))))
  refine bq hF rfl ?_
  refine Sm.exit ?_
  replace h := aC h hd4
  obtain rfl := ac h
  exact (aL (kA (e := [(5, .sref 0 0 (s1.2.map aS).length)]) (g := [(0, dB 1 (s1.2.map aS))]) (m := 1)) (fA (l := 0) (sz := 1) (s1.2.map aS)))
 replace h := ifT hc5 h
 refine gv hF (ar rfl rfl hc5) (gv hF oM (gv hF oM (gv hF (oN (aY u41)) (gv hF (oB (bh)) (gv hF (aJ rfl rfl rfl) (sn ?_))))))
 refine ay hF rfl (fun hc6 => ?_) (fun hc6 => ?_)
 ·replace h := ifF hc6 h
  refine Sm.exit ?_
  replace h := aC h hd4
  obtain rfl := ac h
  exact (aL (kA (e := [(5, .sref 0 0 (s1.2.map aS).length)]) (g := [(0, dB 1 (s1.2.map aS))]) (m := 1)) (fA (l := 0) (sz := 1) (s1.2.map aS)))
 replace h := ifT hc6 h
 refine sk (Sm.seq (Sm.block ?_))
 refine dG hF 11 ?_
 refine hv hF oM (hv hF oM (hv hF oM ?_))
 obtain ⟨x7, hx7, h⟩ := aa h
 refine hv hF (oI (aT u40 cK hx7)) (hv hF (x := .d (.agg 5 (Ps.row x7))) (oL (bR gz cK rfl rfl)) (hv hF oM (hv hF oM ?_)))
 obtain ⟨x8, hx8, h⟩ := aa h
 refine hv hF (oI (aT u41 fL hx8)) (hv hF (x := .d (.agg 2 (Rs.row x8))) (oL (bR j8 fL rfl rfl)) ?_)
 obtain ⟨x9, hx9, h⟩ := aa h
 refine cH hF (jT hx9) ?_
 refine hv hF (x := .d (.list 1 ([x9].map aS) true)) (oS (aw u61 cE pw rfl rfl (PartsQ.cons rfl (PartsQ.nil _)) rfl)) ?_
 refine hE ?_
 obtain ⟨x10, hx10, h⟩ := aa h
 refine aV hF pH rfl (ys := [x9]) (row := aS) rfl rfl rfl rfl rfl rfl rfl rfl (.inl rfl) hx10 (by (repeat' first | exact bn _ | refine be ?_ | refine am ?_ (aP _ _ _) | refine am ?_ (aP _ _ [_]) | refine am ?_ (bD (by rfl)))) ?_
 refine gv hF oA (SmG.nil (ak (ae ?_)))
 refine ab hF rfl ?_
 refine gv hF oM ?_
 obtain ⟨x11, hx11, h⟩ := aa h
 refine gv hF (oB (aU hx11)) (gv hF oA (SmG.nil ?_))
 exact bc (aX h hd4) (kA)
noncomputable def cG : Nat → (List (List UInt8)) → Option (List (List UInt8))
 | 0, _ => none
 | n0 + 1, a0 =>
  bif ((a0.length : Int) == 0) then (
   ob (app ([] : List (List UInt8)) ([[]])) fun x2 =>
   some x2
  ) else (
   bif ((a0.length : Int) == 1) then (
    ob (idx a0 0) fun x4 =>
    ob (fg x4) fun x5 =>
    ob (app ([] : List (List UInt8)) [x5]) fun x6 =>
    some x6
   ) else (
    ob (f9 (a0.length : Int)) fun x7 =>
    ob (slc a0 0 x7) fun x8 =>
    ob (eM x8) fun x9 =>
    ob (slc a0 x7 (a0.length : Int)) fun x10 =>
    ob (eM x10) fun x11 =>
    ob (fh x9 x11) fun x12 =>
    ob (app ([] : List (List UInt8)) [x12]) fun x13 =>
    ob (slc a0 0 x7) fun x14 =>
    ob (cG n0 x14) fun x15 =>
    ob (app x13 x15) fun x16 =>
    ob (slc a0 x7 (a0.length : Int)) fun x17 =>
    ob (cG n0 x17) fun x18 =>
    ob (app x16 x18) fun x19 =>
    some x19
   )
  )
noncomputable def ga (a0 : List (List UInt8)) : Option (List (List UInt8)) := sl fun n => cG n a0
set_option maxHeartbeats 4000000 in
theorem nE : ∀ (n : Nat) {a0 : List (List UInt8)} {r : List (List UInt8)}, cG n a0 = some r → aj Tryd.prog HG 27 [.list 1 (a0.map aS) false] (.list 1 (r.map aS) false) := by
 intro n
 induction n with
 | zero => intro a0 r h; cases h
 | succ n0 ih =>
 intro a0 r h
 unfold cG at h
 refine aj.of Tryd.func27 rfl Tryd.ntmps27 (by simp) ?_
 intro F hF h0 hT
 show Sm F _ _ ⟨[(0, .d (.list 1 (a0.map aS) false))], [], 0⟩
 refine sr hF (gv hF oA (sn (sr hF (gv hF (x := .d (.list 1 (([] : List (List UInt8)).map aS) true)) (oS (dN u61 cE)) (gv hF oA (sn (Sm.seq (sr hF ?_))))))))
 refine gv hF oM (gv hF (oN (aY u61)) (gv hF (oB (cD)) (sn ?_)))
 refine bw hF rfl (fun hc1 => ?_) (fun hc1 => ?_)
 ·replace h := ifT hc1 h
  refine sr hF (gv hF oM (gv hF (x := .d (.list 1 (([] : List UInt8).map aH) true)) (oS (dN u24 sz5)) ?_))
  refine dq (wA (e := [(9, .d (.list 1 ([].map aS) true)), (10, .d (.list 1 ([].map aH) false))]) (g := []) (m := 0)) rfl ?_
  refine gv hF (x := .d (.list 1 ([[]].map aS) true)) (oS (aw u61 cE pw rfl rfl (PartsQ.cons rfl (PartsQ.nil _)) rfl)) ?_
  obtain ⟨x2, hx2, h⟩ := aa h
  refine SmG.appendFreshL hF pH rfl (ys := [[]]) (row := aS) rfl rfl rfl rfl rfl rfl rfl (.inl rfl) hx2 ?_
  refine gv hF oA (sn ?_)
  refine Sm.to (aL (kA (e := [(2, .sref 0 0 (x2.map aS).length)]) (g := [(0, dB 1 (x2.map aS))]) (m := 1)) (fA (l := 0) (sz := 1) (e := [(2, .d (.list 1 (x2.map aS) false))]) (g := []) (nx := 1) (x2.map aS))) ?_
  refine Sm.ret ?_
  obtain rfl := ac h
  exact bu rfl rfl
 replace h := ifF hc1 h
 refine sk (Sm.seq (sr hF (gv hF oM (gv hF (oN (aY u61)) (gv hF (oB (cD)) (sn ?_))))))
 refine bw hF rfl (fun hc3 => ?_) (fun hc3 => ?_)
 ·replace h := ifT hc3 h
  refine sr hF (gv hF oM (gv hF oM ?_))
  obtain ⟨x4, hx4, h⟩ := aa h
  refine gv hF (oI (aT u61 cE hx4)) (gv hF (oL (lP1 eX rfl)) ?_)
  obtain ⟨x5, hx5, h⟩ := aa h
  refine cS hF (lg hx5) ?_
  refine gv hF (x := .d (.list 1 ([x5].map aS) true)) (oS (aw u61 cE pw rfl rfl (PartsQ.cons rfl (PartsQ.nil _)) rfl)) ?_
  obtain ⟨x6, hx6, h⟩ := aa h
  refine SmG.appendFreshL hF pH rfl (ys := [x5]) (row := aS) rfl rfl rfl rfl rfl rfl rfl (.inl rfl) hx6 ?_
  refine gv hF oA (sn ?_)
  refine Sm.to (aL (kA (e := [(2, .sref 0 0 (x6.map aS).length)]) (g := [(0, dB 1 (x6.map aS))]) (m := 1)) (fA (l := 0) (sz := 1) (e := [(2, .d (.list 1 (x6.map aS) false))]) (g := []) (nx := 1) (x6.map aS))) ?_
  refine Sm.ret ?_
  obtain rfl := ac h
  exact bu rfl rfl
 replace h := ifF hc3 h
 refine sk (sr hF (gv hF oM (gv hF (oN (aY u61)) ?_)))
 obtain ⟨x7, hx7, h⟩ := aa h
 refine cS hF (nP hx7) ?_
 refine gv hF oA (sn (Sm.seq ?_))
 refine dG hF 11 ?_
 refine hv hF oM (hv hF oM (hv hF oM ?_))
 obtain ⟨x8, hx8, h⟩ := aa h
 refine hv hF (dI rfl rfl rfl rfl rfl (o5 u61 cE hx8)) ?_
 obtain ⟨x9, hx9, h⟩ := aa h
 refine cH hF (jH hx9) ?_
 refine hv hF oM (hv hF oM ?_)
 obtain ⟨x10, hx10, h⟩ := aa h
 refine hv hF (dI rfl rfl rfl rfl rfl (yW u61 cE hx10)) ?_
 obtain ⟨x11, hx11, h⟩ := aa h
 refine cH hF (jH hx11) ?_
 obtain ⟨x12, hx12, h⟩ := aa h
 refine cH hF (lu hx12) ?_
 refine hv hF (x := .d (.list 1 ([x12].map aS) true)) (oS (aw u61 cE pw rfl rfl (PartsQ.cons rfl (PartsQ.nil _)) rfl)) ?_
 refine hE ?_
 obtain ⟨x13, hx13, h⟩ := aa h
 refine SmG.appendFreshL hF pH rfl (ys := [x12]) (row := aS) rfl rfl rfl rfl rfl rfl rfl (.inl rfl) hx13 ?_
 refine gv hF oA (sn (sr hF (gv hF oM (gv hF oM (gv hF oM ?_)))))
 obtain ⟨x14, hx14, h⟩ := aa h
 refine gv hF (dI rfl rfl rfl rfl rfl (o5 u61 cE hx14)) ?_
 obtain ⟨x15, hx15, h⟩ := aa h
 refine SmG.call hF rfl rfl (by kernel_rfl) rfl rfl rfl (ih hx15) ?_
 obtain ⟨x16, hx16, h⟩ := aa h
 refine aV hF pH rfl (ys := x15) (row := aS) rfl rfl rfl rfl rfl rfl rfl rfl (.inl rfl) hx16 (by (repeat' first | exact bn _ | refine be ?_ | refine am ?_ (aP _ _ _) | refine am ?_ (aP _ _ [_]) | refine am ?_ (bD (by rfl)))) ?_
 refine gv hF oA (sn (sr hF (gv hF oM (gv hF oM (gv hF oM ?_)))))
 obtain ⟨x17, hx17, h⟩ := aa h
 refine gv hF (dI rfl rfl rfl rfl rfl (yW u61 cE hx17)) ?_
 obtain ⟨x18, hx18, h⟩ := aa h
 refine SmG.call hF rfl rfl (by kernel_rfl) rfl rfl rfl (ih hx18) ?_
 obtain ⟨x19, hx19, h⟩ := aa h
 refine aV hF pH rfl (ys := x18) (row := aS) rfl rfl rfl rfl rfl rfl rfl rfl (.inl rfl) hx19 (by (repeat' first | exact bn _ | refine be ?_ | refine am ?_ (aP _ _ _) | refine am ?_ (aP _ _ [_]) | refine am ?_ (bD (by rfl)))) ?_
 refine gv hF oA (sn ?_)
 refine Sm.to (aL (kA (e := [(2, .sref 0 0 (x19.map aS).length)]) (g := [(0, dB 1 (x19.map aS))]) (m := 1)) (fA (l := 0) (sz := 1) (e := [(2, .d (.list 1 (x19.map aS) false))]) (g := []) (nx := 1) (x19.map aS))) ?_
 refine Sm.ret ?_
 obtain rfl := ac h
 exact bu rfl rfl
theorem jW {a0 : List (List UInt8)} {r : List (List UInt8)} (h : ga a0 = some r) : aj Tryd.prog HG 27 [.list 1 (a0.map aS) false] (.list 1 (r.map aS) false) := by
 obtain ⟨n, hn⟩ := xZ h
 exact nE n hn
noncomputable def dV (a1 : List (List UInt8)) (s1 : (Int × (List (List UInt8)))) : Option ((Int × (List (List UInt8))) ⊕ List (List UInt8)) :=
 bif (decide (s1.1 < (a1.length : Int))) then (
  ob (idx a1 s1.1) fun x6 =>
  ob (ge x6) fun x7 =>
  ob (app s1.2 [x7]) fun x8 =>
  ob (arI .i64 (s1.1 + 1)) fun x9 =>
  some (.inl (x9, x8))
 ) else (
  some (.inr s1.2)
 )
noncomputable def bJ (a0 : List (List UInt8)) (a1 : List (List UInt8)) (v10 : List (List UInt8)) (s11 : Int) (x17 : List UInt8) (s19 : Int) : Option (Int ⊕ (Unit ⊕ (Int ⊕ (Unit ⊕ Bool)))) :=
 bif (decide (s19 < (a1.length : Int))) then (
  ob ((
   ob (idx v10 s19) fun x24 =>
   ob (vN 32 x17) fun x25 =>
   ob (vN 32 x24) fun x26 =>
   bif (x17 == x24) then (
    ob (idx a0 s11) fun x28 =>
    ob (idx a1 s19) fun x29 =>
    bif (!(x28 == x29)) then (
     some (.inr (.inr (.inr (.inr (.inr true)))))
    ) else (
     some (.inl ())
    )
   ) else (
    some (.inl ())
   )
   : Option (Unit ⊕ (Int ⊕ (Unit ⊕ (Int ⊕ (Unit ⊕ Bool))))))) fun o33 => match o33 with
  | .inl v31 => (
   ob (arI .i64 (s19 + 1)) fun x32 =>
   some (.inl x32)
   )
  | .inr e34 => some e34
 ) else (
  some (.inr (.inl ()))
 )
noncomputable def dU (a0 : List (List UInt8)) (a1 : List (List UInt8)) (v10 : List (List UInt8)) (s11 : Int) : Option (Int ⊕ (Unit ⊕ Bool)) :=
 bif (decide (s11 < (a0.length : Int))) then (
  ob ((
   ob (idx a0 s11) fun x16 =>
   ob (ge x16) fun x17 =>
   ob (vN 32 x17) fun x18 =>
   bm (bJ a0 a1 v10 s11 x17) 0
   : Option (Unit ⊕ (Int ⊕ (Unit ⊕ Bool))))) fun o37 => match o37 with
  | .inl v35 => (
   ob (arI .i64 (s11 + 1)) fun x36 =>
   some (.inl x36)
   )
  | .inr e38 => some e38
 ) else (
  some (.inr (.inl ()))
 )
noncomputable def gb (a0 : List (List UInt8)) (a1 : List (List UInt8)) : Option Bool :=
 ob ((
  bm (dV a1) (0, ([] : List (List UInt8)))
  : Option (List (List UInt8)))) fun v10 =>
 ob ((
  bm (dU a0 a1 v10) 0
  : Option (Unit ⊕ Bool))) fun o40 => match o40 with
 | .inl v39 => (
  some false
  )
 | .inr e41 => some e41
set_option maxHeartbeats 4000000 in
theorem nN {a0 : List (List UInt8)} {a1 : List (List UInt8)} {r : Bool} (h : gb a0 a1 = some r) : aj Tryd.prog HG 21 [.list 1 (a0.map aS) false, .list 1 (a1.map aS) false] (.v (.bool r)) := by
 unfold gb at h
 refine aj.of Tryd.func21 rfl Tryd.ntmps21 (by simp) ?_
 intro F hF h0 hT
 show Sm F _ _ ⟨[(0, .d (.list 1 (a0.map aS) false)), (1, .d (.list 1 (a1.map aS) false))], [], 0⟩
 refine sr hF (gv hF oA (sn (sr hF (gv hF (x := .d (.list 32 (([] : List (List UInt8)).map aI) true)) (oS (dN u36 cB)) (gv hF oA (sn (Sm.seq ?_)))))))
 obtain ⟨v10, hv10, h⟩ := aa h
 refine dt ⟨[(0, .d (.list 1 (a0.map aS) false)), (1, .d (.list 1 (a1.map aS) false)), (5, .d (.list 32 (v10.map aI) false))], [], 1⟩ ?_ ?_
 ·replace h := hv10
  refine sr hF (gv hF oA (sn (Sm.block ?_)))
  refine Sm.to (kA (e := [(0, .d (.list 1 (a0.map aS) false)), (1, .d (.list 1 (a1.map aS) false)), (5, .d (.list 32 ([].map aI) true)), (6, .i 0)]) (g := []) (m := 0)) ?_
  refine Sm.own (t := 5) 32 rfl ?_
  refine ba (dV a1) (fun s1 => ⟨[(0, .d (.list 1 (a0.map aS) false)), (1, .d (.list 1 (a1.map aS) false)), (5, .sref 0 0 (s1.2.map aI).length), (6, .i s1.1)], [(0, dB 32 (s1.2.map aI))], 1⟩) (0, ([] : List (List UInt8))) h (kA) ?_
  intro n2 s1 o3 h hd4
  unfold dV at h
  refine Sm.seq (sr hF (gv hF oM (gv hF oM (gv hF (oN (aY u61)) (gv hF (oB (bh)) (sn ?_))))))
  refine ay hF rfl (fun hc5 => ?_) (fun hc5 => ?_)
  ·replace h := ifF hc5 h
   refine Sm.exit ?_
   replace h := aC h hd4
   obtain rfl := ac h
   exact (aL (kA (e := [(0, .d (.list 1 (a0.map aS) false)), (1, .d (.list 1 (a1.map aS) false)), (5, .sref 0 0 (s1.2.map aI).length)]) (g := [(0, dB 32 (s1.2.map aI))]) (m := 1)) (fA (l := 0) (sz := 32) (s1.2.map aI)))
  replace h := ifT hc5 h
  refine sk (Sm.seq (Sm.block ?_))
  refine ab hF rfl ?_
  refine gv hF oM (gv hF oM (gv hF oM ?_))
  obtain ⟨x6, hx6, h⟩ := aa h
  refine gv hF (oI (aT u61 cE hx6)) (gv hF (oL (lP1 eX rfl)) ?_)
  obtain ⟨x7, hx7, h⟩ := aa h
  refine cS hF (fj hx7) ?_
  refine gv hF (x := .d (.list 32 ([x7].map aI) true)) (oS (aw u36 cB zN rfl rfl (PartsQ.cons rfl (PartsQ.nil _)) rfl)) ?_
  obtain ⟨x8, hx8, h⟩ := aa h
  refine aV hF Gj rfl (ys := [x7]) (row := aI) rfl rfl rfl rfl rfl rfl rfl rfl (.inl rfl) hx8 (by (repeat' first | exact bn _ | refine be ?_ | refine am ?_ (aP _ _ _) | refine am ?_ (aP _ _ [_]) | refine am ?_ (bD (by rfl)))) ?_
  refine gv hF oA (SmG.nil (ak (ae ?_)))
  refine ab hF rfl ?_
  refine gv hF oM ?_
  obtain ⟨x9, hx9, h⟩ := aa h
  refine gv hF (oB (aU hx9)) (gv hF oA (SmG.nil ?_))
  exact bc (aX h hd4) (kA)
 refine Sm.seq ?_
 obtain ⟨o40, ho40, h⟩ := aa h
 rcases iZ o40 with ⟨e41, rfl⟩ | ⟨v39, rfl⟩
 ·have he41 := ac h
  subst he41
  replace h := ho40
  refine sr hF (gv hF oA (sn (Sm.block ?_)))
  refine ba (dU a0 a1 v10) (fun s11 => ⟨[(0, .d (.list 1 (a0.map aS) false)), (1, .d (.list 1 (a1.map aS) false)), (5, .d (.list 32 (v10.map aI) false)), (7, .i s11)], [], 1⟩) 0 h (kA) ?_
  intro n12 s11 o13 h hd14
  unfold dU at h
  refine Sm.seq (sr hF (gv hF oM (gv hF oM (gv hF (oN (aY u61)) (gv hF (oB (bh)) (sn ?_))))))
  refine ay hF rfl (fun hc15 => ?_) (fun hc15 => ?_)
  ·replace h := ifF hc15 h
   refine Sm.exit ?_
   replace h := aC h hd14
   cases h
  replace h := ifT hc15 h
  refine sk (Sm.seq ?_)
  obtain ⟨o37, ho37, h⟩ := aa h
  rcases iZ o37 with ⟨e38, rfl⟩ | ⟨v35, rfl⟩
  ·have he38 := ac h
   subst he38
   replace h := ho37
   refine Sm.block (sr hF (gv hF oM (gv hF oM ?_)))
   obtain ⟨x16, hx16, h⟩ := aa h
   refine gv hF (oI (aT u61 cE hx16)) (gv hF (oL (lP1 eX rfl)) ?_)
   obtain ⟨x17, hx17, h⟩ := aa h
   refine cS hF (fj hx17) ?_
   refine SmG.new hF rfl rfl rfl (aO rfl jo) ?_
   obtain ⟨x18, hx18, h⟩ := aa h
   refine SmG.store hF rfl rfl rfl rfl rfl (jv rfl rfl cB rfl (cr hx18)) ?_
   refine sn (sr hF (gv hF oA (sn (Sm.block ?_))))
   refine ba (bJ a0 a1 v10 s11 x17) (fun s19 => ⟨[(0, .d (.list 1 (a0.map aS) false)), (1, .d (.list 1 (a1.map aS) false)), (5, .d (.list 32 (v10.map aI) false)), (7, .i s11), (8, .ref 1 0 0), (9, .i s19)], [(1, ⟨32, [(aI x17).map V.d]⟩)], 2⟩) 0 h (kA) ?_
   intro n20 s19 o21 h hd22
   unfold bJ at h
   refine Sm.seq (sr hF (gv hF oM (gv hF oM (gv hF (oN (aY u61)) (gv hF (oB (bh)) (sn ?_))))))
   refine ay hF rfl (fun hc23 => ?_) (fun hc23 => ?_)
   ·replace h := ifF hc23 h
    refine Sm.exit ?_
    replace h := aC h hd22
    cases h
   replace h := ifT hc23 h
   refine sk (Sm.seq ?_)
   obtain ⟨o33, ho33, h⟩ := aa h
   rcases iZ o33 with ⟨e34, rfl⟩ | ⟨v31, rfl⟩
   ·have he34 := ac h
    subst he34
    replace h := ho33
    refine Sm.block (Sm.seq ?_)
    refine dG hF 17 ?_
    refine hv hF (x := .d (.agg 32 (aI x17))) (oL (f8 rfl fJ cB)) (hv hF oM (hv hF oM ?_))
    obtain ⟨x24, hx24, h⟩ := aa h
    refine hv hF (oI (aT u36 cB hx24)) (hv hF (x := .d (.agg 32 (aI x24))) (oL (bR fJ cB rfl rfl)) ?_)
    obtain ⟨x25, hx25, h⟩ := aa h
    obtain ⟨x26, hx26, h⟩ := aa h
    refine hv hF (ig rfl rfl rfl (iL (by kernel_rfl) (by kernel_rfl) (cr hx25) (cr hx26))) ?_
    rcases br (x17 == x24) with hc27 | hc27
    ·replace h := ifF hc27 h
     refine hv hF (ar rfl rfl hc27) (hp hF (hp hF (hp hF (hp hF (hp hF (hp hF (hp hF (hp hF ?_))))))))
     refine hp hF (hp hF ?_)
     refine hE ?_
     refine gp hF (gv hF (ap rfl rfl rfl) (sn ?_))
     refine bq hF rfl ?_
     refine Sm.skip ?_
     refine ak ?_
     cases h
    replace h := ifT hc27 h
    refine hv hF (ar rfl rfl hc27) (hv hF oM (hv hF oM ?_))
    obtain ⟨x28, hx28, h⟩ := aa h
    refine hv hF (oI (aT u61 cE hx28)) (hv hF (oL (lP1 eX rfl)) (hv hF (oC (dR u24 u9 u5)) (hv hF oM (hv hF oM ?_))))
    obtain ⟨x29, hx29, h⟩ := aa h
    refine hv hF (oI (aT u61 cE hx29)) (hv hF (oL (lP1 eX rfl)) (hv hF (oC (dR u24 u9 u5)) ?_))
    refine hE ?_
    refine gv hF (oB (kB rfl)) (gv hF (aJ rfl rfl rfl) (sn ?_))
    refine ay hF rfl (fun hc30 => ?_) (fun hc30 => ?_)
    ·replace h := ifF hc30 h
     refine Sm.skip ?_
     refine ak ?_
     cases h
    replace h := ifT hc30 h
    refine sr hF (gv hF oA (sn (Sm.ret ?_)))
    replace h := gr h
    replace h := aC h hd22
    replace h := gr h
    replace h := aC h hd14
    replace h := gr h
    obtain rfl := ac h
    exact bu rfl rfl
   refine aW ⟨[(0, .d (.list 1 (a0.map aS) false)), (1, .d (.list 1 (a1.map aS) false)), (5, .d (.list 32 (v10.map aI) false)), (7, .i s11), (8, .ref 1 0 0), (9, .i s19)], [(1, ⟨32, [(aI x17).map V.d]⟩)], 2⟩ ?_ ?_
   ·refine ab hF rfl ?_
    refine gv hF oM ?_
    obtain ⟨x32, hx32, h⟩ := aa h
    refine gv hF (oB (aU hx32)) (gv hF oA (SmG.nil ?_))
    exact bc (aX h hd22) (kA)
   replace h := ho33
   refine Sm.block (Sm.seq ?_)
   refine dG hF 17 ?_
   refine hv hF (x := .d (.agg 32 (aI x17))) (oL (f8 rfl fJ cB)) (hv hF oM (hv hF oM ?_))
   obtain ⟨x24, hx24, h⟩ := aa h
   refine hv hF (oI (aT u36 cB hx24)) (hv hF (x := .d (.agg 32 (aI x24))) (oL (bR fJ cB rfl rfl)) ?_)
   obtain ⟨x25, hx25, h⟩ := aa h
   obtain ⟨x26, hx26, h⟩ := aa h
   refine hv hF (ig rfl rfl rfl (iL (by kernel_rfl) (by kernel_rfl) (cr hx25) (cr hx26))) ?_
   rcases br (x17 == x24) with hc27 | hc27
   ·replace h := ifF hc27 h
    refine hv hF (ar rfl rfl hc27) (hp hF (hp hF (hp hF (hp hF (hp hF (hp hF (hp hF (hp hF ?_))))))))
    refine hp hF (hp hF ?_)
    refine hE ?_
    refine gp hF (gv hF (ap rfl rfl rfl) (sn ?_))
    refine bq hF rfl ?_
    refine Sm.skip ?_
    refine ak ?_
    obtain rfl := ac (dg h)
    exact (kA)
   replace h := ifT hc27 h
   refine hv hF (ar rfl rfl hc27) (hv hF oM (hv hF oM ?_))
   obtain ⟨x28, hx28, h⟩ := aa h
   refine hv hF (oI (aT u61 cE hx28)) (hv hF (oL (lP1 eX rfl)) (hv hF (oC (dR u24 u9 u5)) (hv hF oM (hv hF oM ?_))))
   obtain ⟨x29, hx29, h⟩ := aa h
   refine hv hF (oI (aT u61 cE hx29)) (hv hF (oL (lP1 eX rfl)) (hv hF (oC (dR u24 u9 u5)) ?_))
   refine hE ?_
   refine gv hF (oB (kB rfl)) (gv hF (aJ rfl rfl rfl) (sn ?_))
   refine ay hF rfl (fun hc30 => ?_) (fun hc30 => ?_)
   ·replace h := ifF hc30 h
    refine Sm.skip ?_
    refine ak ?_
    obtain rfl := ac (dg h)
    exact (kA)
   replace h := ifT hc30 h
   refine sr hF (gv hF oA (sn (Sm.ret ?_)))
   cases h
  refine aW ⟨[(0, .d (.list 1 (a0.map aS) false)), (1, .d (.list 1 (a1.map aS) false)), (5, .d (.list 32 (v10.map aI) false)), (7, .i s11)], [], 2⟩ ?_ ?_
  ·refine ab hF rfl ?_
   refine gv hF oM ?_
   obtain ⟨x36, hx36, h⟩ := aa h
   refine gv hF (oB (aU hx36)) (gv hF oA (SmG.nil ?_))
   exact bc (aX h hd14) (aL (kA (e := [(0, .d (.list 1 (a0.map aS) false)), (1, .d (.list 1 (a1.map aS) false)), (5, .d (.list 32 (v10.map aI) false)), (7, .i x36)]) (g := []) (m := 2)) (xA 1))
  replace h := ho37
  refine Sm.block (sr hF (gv hF oM (gv hF oM ?_)))
  obtain ⟨x16, hx16, h⟩ := aa h
  refine gv hF (oI (aT u61 cE hx16)) (gv hF (oL (lP1 eX rfl)) ?_)
  obtain ⟨x17, hx17, h⟩ := aa h
  refine cS hF (fj hx17) ?_
  refine SmG.new hF rfl rfl rfl (aO rfl jo) ?_
  obtain ⟨x18, hx18, h⟩ := aa h
  refine SmG.store hF rfl rfl rfl rfl rfl (jv rfl rfl cB rfl (cr hx18)) ?_
  refine sn (sr hF (gv hF oA (sn (Sm.block ?_))))
  refine ba (bJ a0 a1 v10 s11 x17) (fun s19 => ⟨[(0, .d (.list 1 (a0.map aS) false)), (1, .d (.list 1 (a1.map aS) false)), (5, .d (.list 32 (v10.map aI) false)), (7, .i s11), (8, .ref 1 0 0), (9, .i s19)], [(1, ⟨32, [(aI x17).map V.d]⟩)], 2⟩) 0 h (kA) ?_
  intro n20 s19 o21 h hd22
  unfold bJ at h
  refine Sm.seq (sr hF (gv hF oM (gv hF oM (gv hF (oN (aY u61)) (gv hF (oB (bh)) (sn ?_))))))
  refine ay hF rfl (fun hc23 => ?_) (fun hc23 => ?_)
  ·replace h := ifF hc23 h
   refine Sm.exit ?_
   replace h := aC h hd22
   obtain rfl := ac (dg h)
   exact (kA)
  replace h := ifT hc23 h
  refine sk (Sm.seq ?_)
  obtain ⟨o33, ho33, h⟩ := aa h
  rcases iZ o33 with ⟨e34, rfl⟩ | ⟨v31, rfl⟩
  ·have he34 := ac h
   subst he34
   replace h := ho33
   refine Sm.block (Sm.seq ?_)
   refine dG hF 17 ?_
   refine hv hF (x := .d (.agg 32 (aI x17))) (oL (f8 rfl fJ cB)) (hv hF oM (hv hF oM ?_))
   obtain ⟨x24, hx24, h⟩ := aa h
   refine hv hF (oI (aT u36 cB hx24)) (hv hF (x := .d (.agg 32 (aI x24))) (oL (bR fJ cB rfl rfl)) ?_)
   obtain ⟨x25, hx25, h⟩ := aa h
   obtain ⟨x26, hx26, h⟩ := aa h
   refine hv hF (ig rfl rfl rfl (iL (by kernel_rfl) (by kernel_rfl) (cr hx25) (cr hx26))) ?_
   rcases br (x17 == x24) with hc27 | hc27
   ·replace h := ifF hc27 h
    refine hv hF (ar rfl rfl hc27) (hp hF (hp hF (hp hF (hp hF (hp hF (hp hF (hp hF (hp hF ?_))))))))
    refine hp hF (hp hF ?_)
    refine hE ?_
    refine gp hF (gv hF (ap rfl rfl rfl) (sn ?_))
    refine bq hF rfl ?_
    refine Sm.skip ?_
    refine ak ?_
    cases h
   replace h := ifT hc27 h
   refine hv hF (ar rfl rfl hc27) (hv hF oM (hv hF oM ?_))
   obtain ⟨x28, hx28, h⟩ := aa h
   refine hv hF (oI (aT u61 cE hx28)) (hv hF (oL (lP1 eX rfl)) (hv hF (oC (dR u24 u9 u5)) (hv hF oM (hv hF oM ?_))))
   obtain ⟨x29, hx29, h⟩ := aa h
   refine hv hF (oI (aT u61 cE hx29)) (hv hF (oL (lP1 eX rfl)) (hv hF (oC (dR u24 u9 u5)) ?_))
   refine hE ?_
   refine gv hF (oB (kB rfl)) (gv hF (aJ rfl rfl rfl) (sn ?_))
   refine ay hF rfl (fun hc30 => ?_) (fun hc30 => ?_)
   ·replace h := ifF hc30 h
    refine Sm.skip ?_
    refine ak ?_
    cases h
   replace h := ifT hc30 h
   refine sr hF (gv hF oA (sn (Sm.ret ?_)))
   replace h := gr h
   replace h := aC h hd22
   cases h
  refine aW ⟨[(0, .d (.list 1 (a0.map aS) false)), (1, .d (.list 1 (a1.map aS) false)), (5, .d (.list 32 (v10.map aI) false)), (7, .i s11), (8, .ref 1 0 0), (9, .i s19)], [(1, ⟨32, [(aI x17).map V.d]⟩)], 2⟩ ?_ ?_
  ·refine ab hF rfl ?_
   refine gv hF oM ?_
   obtain ⟨x32, hx32, h⟩ := aa h
   refine gv hF (oB (aU hx32)) (gv hF oA (SmG.nil ?_))
   exact bc (aX h hd22) (kA)
  replace h := ho33
  refine Sm.block (Sm.seq ?_)
  refine dG hF 17 ?_
  refine hv hF (x := .d (.agg 32 (aI x17))) (oL (f8 rfl fJ cB)) (hv hF oM (hv hF oM ?_))
  obtain ⟨x24, hx24, h⟩ := aa h
  refine hv hF (oI (aT u36 cB hx24)) (hv hF (x := .d (.agg 32 (aI x24))) (oL (bR fJ cB rfl rfl)) ?_)
  obtain ⟨x25, hx25, h⟩ := aa h
  obtain ⟨x26, hx26, h⟩ := aa h
  refine hv hF (ig rfl rfl rfl (iL (by kernel_rfl) (by kernel_rfl) (cr hx25) (cr hx26))) ?_
  rcases br (x17 == x24) with hc27 | hc27
  ·replace h := ifF hc27 h
   refine hv hF (ar rfl rfl hc27) (hp hF (hp hF (hp hF (hp hF (hp hF (hp hF (hp hF (hp hF ?_))))))))
   refine hp hF (hp hF ?_)
   refine hE ?_
   refine gp hF (gv hF (ap rfl rfl rfl) (sn ?_))
   refine bq hF rfl ?_
   refine Sm.skip ?_
   refine ak ?_
   obtain rfl := ac (dg h)
   exact (kA)
  replace h := ifT hc27 h
  refine hv hF (ar rfl rfl hc27) (hv hF oM (hv hF oM ?_))
  obtain ⟨x28, hx28, h⟩ := aa h
  refine hv hF (oI (aT u61 cE hx28)) (hv hF (oL (lP1 eX rfl)) (hv hF (oC (dR u24 u9 u5)) (hv hF oM (hv hF oM ?_))))
  obtain ⟨x29, hx29, h⟩ := aa h
  refine hv hF (oI (aT u61 cE hx29)) (hv hF (oL (lP1 eX rfl)) (hv hF (oC (dR u24 u9 u5)) ?_))
  refine hE ?_
  refine gv hF (oB (kB rfl)) (gv hF (aJ rfl rfl rfl) (sn ?_))
  refine ay hF rfl (fun hc30 => ?_) (fun hc30 => ?_)
  ·replace h := ifF hc30 h
   refine Sm.skip ?_
   refine ak ?_
   obtain rfl := ac (dg h)
   exact (kA)
  replace h := ifT hc30 h
  refine sr hF (gv hF oA (sn (Sm.ret ?_)))
  cases h
 refine aW ⟨[], [], 1⟩ ?_ ?_
 ·refine Sm.seq ?_
  refine ab hF rfl ?_
  refine gv hF oA (sn (Sm.ret ?_))
  obtain rfl := ac h
  exact bu rfl rfl
 replace h := ho40
 refine sr hF (gv hF oA (sn (Sm.block ?_)))
 refine ba (dU a0 a1 v10) (fun s11 => ⟨[(0, .d (.list 1 (a0.map aS) false)), (1, .d (.list 1 (a1.map aS) false)), (5, .d (.list 32 (v10.map aI) false)), (7, .i s11)], [], 1⟩) 0 h (kA) ?_
 intro n12 s11 o13 h hd14
 unfold dU at h
 refine Sm.seq (sr hF (gv hF oM (gv hF oM (gv hF (oN (aY u61)) (gv hF (oB (bh)) (sn ?_))))))
 refine ay hF rfl (fun hc15 => ?_) (fun hc15 => ?_)
 ·replace h := ifF hc15 h
  refine Sm.exit ?_
  replace h := aC h hd14
  obtain rfl := ac (dg h)
  exact (kA)
 replace h := ifT hc15 h
 refine sk (Sm.seq ?_)
 obtain ⟨o37, ho37, h⟩ := aa h
 rcases iZ o37 with ⟨e38, rfl⟩ | ⟨v35, rfl⟩
 ·have he38 := ac h
  subst he38
  replace h := ho37
  refine Sm.block (sr hF (gv hF oM (gv hF oM ?_)))
  obtain ⟨x16, hx16, h⟩ := aa h
  refine gv hF (oI (aT u61 cE hx16)) (gv hF (oL (lP1 eX rfl)) ?_)
  obtain ⟨x17, hx17, h⟩ := aa h
  refine cS hF (fj hx17) ?_
  refine SmG.new hF rfl rfl rfl (aO rfl jo) ?_
  obtain ⟨x18, hx18, h⟩ := aa h
  refine SmG.store hF rfl rfl rfl rfl rfl (jv rfl rfl cB rfl (cr hx18)) ?_
  refine sn (sr hF (gv hF oA (sn (Sm.block ?_))))
  refine ba (bJ a0 a1 v10 s11 x17) (fun s19 => ⟨[(0, .d (.list 1 (a0.map aS) false)), (1, .d (.list 1 (a1.map aS) false)), (5, .d (.list 32 (v10.map aI) false)), (7, .i s11), (8, .ref 1 0 0), (9, .i s19)], [(1, ⟨32, [(aI x17).map V.d]⟩)], 2⟩) 0 h (kA) ?_
  intro n20 s19 o21 h hd22
  unfold bJ at h
  refine Sm.seq (sr hF (gv hF oM (gv hF oM (gv hF (oN (aY u61)) (gv hF (oB (bh)) (sn ?_))))))
  refine ay hF rfl (fun hc23 => ?_) (fun hc23 => ?_)
  ·replace h := ifF hc23 h
   refine Sm.exit ?_
   replace h := aC h hd22
   cases h
  replace h := ifT hc23 h
  refine sk (Sm.seq ?_)
  obtain ⟨o33, ho33, h⟩ := aa h
  rcases iZ o33 with ⟨e34, rfl⟩ | ⟨v31, rfl⟩
  ·have he34 := ac h
   subst he34
   replace h := ho33
   refine Sm.block (Sm.seq ?_)
   refine dG hF 17 ?_
   refine hv hF (x := .d (.agg 32 (aI x17))) (oL (f8 rfl fJ cB)) (hv hF oM (hv hF oM ?_))
   obtain ⟨x24, hx24, h⟩ := aa h
   refine hv hF (oI (aT u36 cB hx24)) (hv hF (x := .d (.agg 32 (aI x24))) (oL (bR fJ cB rfl rfl)) ?_)
   obtain ⟨x25, hx25, h⟩ := aa h
   obtain ⟨x26, hx26, h⟩ := aa h
   refine hv hF (ig rfl rfl rfl (iL (by kernel_rfl) (by kernel_rfl) (cr hx25) (cr hx26))) ?_
   rcases br (x17 == x24) with hc27 | hc27
   ·replace h := ifF hc27 h
    refine hv hF (ar rfl rfl hc27) (hp hF (hp hF (hp hF (hp hF (hp hF (hp hF (hp hF (hp hF ?_))))))))
    refine hp hF (hp hF ?_)
    refine hE ?_
    refine gp hF (gv hF (ap rfl rfl rfl) (sn ?_))
    refine bq hF rfl ?_
    refine Sm.skip ?_
    refine ak ?_
    cases h
   replace h := ifT hc27 h
   refine hv hF (ar rfl rfl hc27) (hv hF oM (hv hF oM ?_))
   obtain ⟨x28, hx28, h⟩ := aa h
   refine hv hF (oI (aT u61 cE hx28)) (hv hF (oL (lP1 eX rfl)) (hv hF (oC (dR u24 u9 u5)) (hv hF oM (hv hF oM ?_))))
   obtain ⟨x29, hx29, h⟩ := aa h
   refine hv hF (oI (aT u61 cE hx29)) (hv hF (oL (lP1 eX rfl)) (hv hF (oC (dR u24 u9 u5)) ?_))
   refine hE ?_
   refine gv hF (oB (kB rfl)) (gv hF (aJ rfl rfl rfl) (sn ?_))
   refine ay hF rfl (fun hc30 => ?_) (fun hc30 => ?_)
   ·replace h := ifF hc30 h
    refine Sm.skip ?_
    refine ak ?_
    cases h
   replace h := ifT hc30 h
   refine sr hF (gv hF oA (sn (Sm.ret ?_)))
   replace h := gr h
   replace h := aC h hd22
   replace h := gr h
   replace h := aC h hd14
   cases h
  refine aW ⟨[(0, .d (.list 1 (a0.map aS) false)), (1, .d (.list 1 (a1.map aS) false)), (5, .d (.list 32 (v10.map aI) false)), (7, .i s11), (8, .ref 1 0 0), (9, .i s19)], [(1, ⟨32, [(aI x17).map V.d]⟩)], 2⟩ ?_ ?_
  ·refine ab hF rfl ?_
   refine gv hF oM ?_
   obtain ⟨x32, hx32, h⟩ := aa h
   refine gv hF (oB (aU hx32)) (gv hF oA (SmG.nil ?_))
   exact bc (aX h hd22) (kA)
  replace h := ho33
  refine Sm.block (Sm.seq ?_)
  refine dG hF 17 ?_
  refine hv hF (x := .d (.agg 32 (aI x17))) (oL (f8 rfl fJ cB)) (hv hF oM (hv hF oM ?_))
  obtain ⟨x24, hx24, h⟩ := aa h
  refine hv hF (oI (aT u36 cB hx24)) (hv hF (x := .d (.agg 32 (aI x24))) (oL (bR fJ cB rfl rfl)) ?_)
  obtain ⟨x25, hx25, h⟩ := aa h
  obtain ⟨x26, hx26, h⟩ := aa h
  refine hv hF (ig rfl rfl rfl (iL (by kernel_rfl) (by kernel_rfl) (cr hx25) (cr hx26))) ?_
  rcases br (x17 == x24) with hc27 | hc27
  ·replace h := ifF hc27 h
   refine hv hF (ar rfl rfl hc27) (hp hF (hp hF (hp hF (hp hF (hp hF (hp hF (hp hF (hp hF ?_))))))))
   refine hp hF (hp hF ?_)
   refine hE ?_
   refine gp hF (gv hF (ap rfl rfl rfl) (sn ?_))
   refine bq hF rfl ?_
   refine Sm.skip ?_
   refine ak ?_
   obtain rfl := ac (dg h)
   exact (kA)
  replace h := ifT hc27 h
  refine hv hF (ar rfl rfl hc27) (hv hF oM (hv hF oM ?_))
  obtain ⟨x28, hx28, h⟩ := aa h
  refine hv hF (oI (aT u61 cE hx28)) (hv hF (oL (lP1 eX rfl)) (hv hF (oC (dR u24 u9 u5)) (hv hF oM (hv hF oM ?_))))
  obtain ⟨x29, hx29, h⟩ := aa h
  refine hv hF (oI (aT u61 cE hx29)) (hv hF (oL (lP1 eX rfl)) (hv hF (oC (dR u24 u9 u5)) ?_))
  refine hE ?_
  refine gv hF (oB (kB rfl)) (gv hF (aJ rfl rfl rfl) (sn ?_))
  refine ay hF rfl (fun hc30 => ?_) (fun hc30 => ?_)
  ·replace h := ifF hc30 h
   refine Sm.skip ?_
   refine ak ?_
   obtain rfl := ac (dg h)
   exact (kA)
  replace h := ifT hc30 h
  refine sr hF (gv hF oA (sn (Sm.ret ?_)))
  cases h
 refine aW ⟨[(0, .d (.list 1 (a0.map aS) false)), (1, .d (.list 1 (a1.map aS) false)), (5, .d (.list 32 (v10.map aI) false)), (7, .i s11)], [], 2⟩ ?_ ?_
 ·refine ab hF rfl ?_
  refine gv hF oM ?_
  obtain ⟨x36, hx36, h⟩ := aa h
  refine gv hF (oB (aU hx36)) (gv hF oA (SmG.nil ?_))
  exact bc (aX h hd14) (aL (kA (e := [(0, .d (.list 1 (a0.map aS) false)), (1, .d (.list 1 (a1.map aS) false)), (5, .d (.list 32 (v10.map aI) false)), (7, .i x36)]) (g := []) (m := 2)) (xA 1))
 replace h := ho37
 refine Sm.block (sr hF (gv hF oM (gv hF oM ?_)))
 obtain ⟨x16, hx16, h⟩ := aa h
 refine gv hF (oI (aT u61 cE hx16)) (gv hF (oL (lP1 eX rfl)) ?_)
 obtain ⟨x17, hx17, h⟩ := aa h
 refine cS hF (fj hx17) ?_
 refine SmG.new hF rfl rfl rfl (aO rfl jo) ?_
 obtain ⟨x18, hx18, h⟩ := aa h
 refine SmG.store hF rfl rfl rfl rfl rfl (jv rfl rfl cB rfl (cr hx18)) ?_
 refine sn (sr hF (gv hF oA (sn (Sm.block ?_))))
 refine ba (bJ a0 a1 v10 s11 x17) (fun s19 => ⟨[(0, .d (.list 1 (a0.map aS) false)), (1, .d (.list 1 (a1.map aS) false)), (5, .d (.list 32 (v10.map aI) false)), (7, .i s11), (8, .ref 1 0 0), (9, .i s19)], [(1, ⟨32, [(aI x17).map V.d]⟩)], 2⟩) 0 h (kA) ?_
 intro n20 s19 o21 h hd22
 unfold bJ at h
 refine Sm.seq (sr hF (gv hF oM (gv hF oM (gv hF (oN (aY u61)) (gv hF (oB (bh)) (sn ?_))))))
 refine ay hF rfl (fun hc23 => ?_) (fun hc23 => ?_)
 ·replace h := ifF hc23 h
  refine Sm.exit ?_
  replace h := aC h hd22
  obtain rfl := ac (dg h)
  exact (kA)
 replace h := ifT hc23 h
 refine sk (Sm.seq ?_)
 obtain ⟨o33, ho33, h⟩ := aa h
 rcases iZ o33 with ⟨e34, rfl⟩ | ⟨v31, rfl⟩
 ·have he34 := ac h
  subst he34
  replace h := ho33
  refine Sm.block (Sm.seq ?_)
  refine dG hF 17 ?_
  refine hv hF (x := .d (.agg 32 (aI x17))) (oL (f8 rfl fJ cB)) (hv hF oM (hv hF oM ?_))
  obtain ⟨x24, hx24, h⟩ := aa h
  refine hv hF (oI (aT u36 cB hx24)) (hv hF (x := .d (.agg 32 (aI x24))) (oL (bR fJ cB rfl rfl)) ?_)
  obtain ⟨x25, hx25, h⟩ := aa h
  obtain ⟨x26, hx26, h⟩ := aa h
  refine hv hF (ig rfl rfl rfl (iL (by kernel_rfl) (by kernel_rfl) (cr hx25) (cr hx26))) ?_
  rcases br (x17 == x24) with hc27 | hc27
  ·replace h := ifF hc27 h
   refine hv hF (ar rfl rfl hc27) (hp hF (hp hF (hp hF (hp hF (hp hF (hp hF (hp hF (hp hF ?_))))))))
   refine hp hF (hp hF ?_)
   refine hE ?_
   refine gp hF (gv hF (ap rfl rfl rfl) (sn ?_))
   refine bq hF rfl ?_
   refine Sm.skip ?_
   refine ak ?_
   cases h
  replace h := ifT hc27 h
  refine hv hF (ar rfl rfl hc27) (hv hF oM (hv hF oM ?_))
  obtain ⟨x28, hx28, h⟩ := aa h
  refine hv hF (oI (aT u61 cE hx28)) (hv hF (oL (lP1 eX rfl)) (hv hF (oC (dR u24 u9 u5)) (hv hF oM (hv hF oM ?_))))
  obtain ⟨x29, hx29, h⟩ := aa h
  refine hv hF (oI (aT u61 cE hx29)) (hv hF (oL (lP1 eX rfl)) (hv hF (oC (dR u24 u9 u5)) ?_))
  refine hE ?_
  refine gv hF (oB (kB rfl)) (gv hF (aJ rfl rfl rfl) (sn ?_))
  refine ay hF rfl (fun hc30 => ?_) (fun hc30 => ?_)
  ·replace h := ifF hc30 h
   refine Sm.skip ?_
   refine ak ?_
   cases h
  replace h := ifT hc30 h
  refine sr hF (gv hF oA (sn (Sm.ret ?_)))
  replace h := gr h
  replace h := aC h hd22
  cases h
 refine aW ⟨[(0, .d (.list 1 (a0.map aS) false)), (1, .d (.list 1 (a1.map aS) false)), (5, .d (.list 32 (v10.map aI) false)), (7, .i s11), (8, .ref 1 0 0), (9, .i s19)], [(1, ⟨32, [(aI x17).map V.d]⟩)], 2⟩ ?_ ?_
 ·refine ab hF rfl ?_
  refine gv hF oM ?_
  obtain ⟨x32, hx32, h⟩ := aa h
  refine gv hF (oB (aU hx32)) (gv hF oA (SmG.nil ?_))
  exact bc (aX h hd22) (kA)
 replace h := ho33
 refine Sm.block (Sm.seq ?_)
 refine dG hF 17 ?_
 refine hv hF (x := .d (.agg 32 (aI x17))) (oL (f8 rfl fJ cB)) (hv hF oM (hv hF oM ?_))
 obtain ⟨x24, hx24, h⟩ := aa h
 refine hv hF (oI (aT u36 cB hx24)) (hv hF (x := .d (.agg 32 (aI x24))) (oL (bR fJ cB rfl rfl)) ?_)
 obtain ⟨x25, hx25, h⟩ := aa h
 obtain ⟨x26, hx26, h⟩ := aa h
 refine hv hF (ig rfl rfl rfl (iL (by kernel_rfl) (by kernel_rfl) (cr hx25) (cr hx26))) ?_
 rcases br (x17 == x24) with hc27 | hc27
 ·replace h := ifF hc27 h
  refine hv hF (ar rfl rfl hc27) (hp hF (hp hF (hp hF (hp hF (hp hF (hp hF (hp hF (hp hF ?_))))))))
  refine hp hF (hp hF ?_)
  refine hE ?_
  refine gp hF (gv hF (ap rfl rfl rfl) (sn ?_))
  refine bq hF rfl ?_
  refine Sm.skip ?_
  refine ak ?_
  obtain rfl := ac (dg h)
  exact (kA)
 replace h := ifT hc27 h
 refine hv hF (ar rfl rfl hc27) (hv hF oM (hv hF oM ?_))
 obtain ⟨x28, hx28, h⟩ := aa h
 refine hv hF (oI (aT u61 cE hx28)) (hv hF (oL (lP1 eX rfl)) (hv hF (oC (dR u24 u9 u5)) (hv hF oM (hv hF oM ?_))))
 obtain ⟨x29, hx29, h⟩ := aa h
 refine hv hF (oI (aT u61 cE hx29)) (hv hF (oL (lP1 eX rfl)) (hv hF (oC (dR u24 u9 u5)) ?_))
 refine hE ?_
 refine gv hF (oB (kB rfl)) (gv hF (aJ rfl rfl rfl) (sn ?_))
 refine ay hF rfl (fun hc30 => ?_) (fun hc30 => ?_)
 ·replace h := ifF hc30 h
  refine Sm.skip ?_
  refine ak ?_
  obtain rfl := ac (dg h)
  exact (kA)
 replace h := ifT hc30 h
 refine sr hF (gv hF oA (sn (Sm.ret ?_)))
 cases h
noncomputable def cN (a0 : List Ps) (a1 : List Int) (s1 : (Int × (List Rs))) : Option ((Int × (List Rs)) ⊕ List Rs) :=
 bif (decide (s1.1 < (a0.length : Int))) then (
  ob (arI .i64 (7 * s1.1)) fun x6 =>
  ob ((
   bif (decide (0 < (a1.length : Int))) then (
    ob (cF s1.1 (a1.length : Int)) fun x8 =>
    ob (idx a1 x8) fun x9 =>
    ob (arI .i64 x9) fun x10 =>
    ob (arI .i64 (x10 + s1.1)) fun x11 =>
    some x11
   ) else (
    some x6
   )
   : Option Int)) fun v12 =>
  ob (cF v12 3) fun x13 =>
  ob (arI .i64 (1 + x13)) fun x14 =>
  ob (jz .i64 v12 3) fun x15 =>
  ob (app s1.2 [(⟨x14, x15⟩ : Rs)]) fun x16 =>
  ob (arI .i64 (s1.1 + 1)) fun x17 =>
  some (.inl (x17, x16))
 ) else (
  some (.inr s1.2)
 )
noncomputable def eS (a0 : List Ps) (a1 : List Int) : Option (List Rs) :=
 ob ((
  bm (cN a0 a1) (0, ([] : List Rs))
  : Option (List Rs))) fun v18 =>
 some v18
set_option maxHeartbeats 4000000 in
theorem lW {a0 : List Ps} {a1 : List Int} {r : List Rs} (h : eS a0 a1 = some r) : aj Tryd.prog HG 31 [.list 5 (a0.map Ps.row) false, .list 1 (a1.map (af .u16)) false] (.list 2 (r.map Rs.row) false) := by
 unfold eS at h
 refine aj.of Tryd.func31 rfl Tryd.ntmps31 (by simp) ?_
 intro F hF h0 hT
 show Sm F _ _ ⟨[(0, .d (.list 5 (a0.map Ps.row) false)), (1, .d (.list 1 (a1.map (af .u16)) false))], [], 0⟩
 refine sr hF (gv hF oA (sn (sr hF (gv hF (x := .d (.list 2 (([] : List Rs).map Rs.row) true)) (oS (dN u41 fL)) (gv hF oA (sn (Sm.seq ?_)))))))
 obtain ⟨v18, hv18, h⟩ := aa h
 refine aW ⟨[(5, .d (.list 2 (v18.map Rs.row) false))], [], 1⟩ ?_ ?_
 ·refine Sm.seq ?_
  refine ab hF rfl ?_
  refine gv hF oM (gv hF oA (sn (Sm.ret ?_)))
  obtain rfl := ac h
  exact bu rfl rfl
 replace h := hv18
 refine sr hF (gv hF oA (sn (Sm.block ?_)))
 refine Sm.to (kA (e := [(0, .d (.list 5 (a0.map Ps.row) false)), (1, .d (.list 1 (a1.map (af .u16)) false)), (5, .d (.list 2 ([].map Rs.row) true)), (6, .i 0)]) (g := []) (m := 0)) ?_
 refine Sm.own (t := 5) 2 rfl ?_
 refine ba (cN a0 a1) (fun s1 => ⟨[(0, .d (.list 5 (a0.map Ps.row) false)), (1, .d (.list 1 (a1.map (af .u16)) false)), (5, .sref 0 0 (s1.2.map Rs.row).length), (6, .i s1.1)], [(0, dB 2 (s1.2.map Rs.row))], 1⟩) (0, ([] : List Rs)) h (kA) ?_
 intro n2 s1 o3 h hd4
 unfold cN at h
 refine Sm.seq (sr hF (gv hF oM (gv hF oM (gv hF (oN (aY u40)) (gv hF (oB (bh)) (sn ?_))))))
 refine ay hF rfl (fun hc5 => ?_) (fun hc5 => ?_)
 ·replace h := ifF hc5 h
  refine Sm.exit ?_
  replace h := aC h hd4
  obtain rfl := ac h
  exact (aL (kA (e := [(5, .sref 0 0 (s1.2.map Rs.row).length)]) (g := [(0, dB 2 (s1.2.map Rs.row))]) (m := 1)) (fA (l := 0) (sz := 2) (s1.2.map Rs.row)))
 replace h := ifT hc5 h
 refine sk (Sm.seq (Sm.block (sr hF (gv hF oM ?_))))
 obtain ⟨x6, hx6, h⟩ := aa h
 refine gv hF (oB (iH hx6)) (gv hF oA (sn (Sm.seq ?_)))
 obtain ⟨v12, hv12, h⟩ := aa h
 refine aW ⟨[(0, .d (.list 5 (a0.map Ps.row) false)), (1, .d (.list 1 (a1.map (af .u16)) false)), (5, .sref 0 0 (s1.2.map Rs.row).length), (6, .i s1.1), (7, .i v12)], [(0, dB 2 (s1.2.map Rs.row))], 1⟩ ?_ ?_
 ·refine ab hF rfl ?_
  refine gv hF oM (gv hF oM ?_)
  obtain ⟨x13, hx13, h⟩ := aa h
  refine gv hF (oB (bM hx13)) ?_
  obtain ⟨x14, hx14, h⟩ := aa h
  refine gv hF (oB (aU hx14)) (gv hF oM ?_)
  obtain ⟨x15, hx15, h⟩ := aa h
  refine gv hF (oB (kC hx15)) (gv hF (x := .d (.agg 2 [.i x14, .i x15])) (a8 rfl u35 (by kernel_rfl) rfl (bg (n := 2) pO An rfl rfl)) (gv hF (x := .d (.list 2 ([(⟨x14, x15⟩ : Rs)].map Rs.row) true)) (oS (aw u41 fL pO rfl rfl (PartsQ.cons rfl (PartsQ.nil _)) rfl)) ?_))
  obtain ⟨x16, hx16, h⟩ := aa h
  refine aV hF FN rfl (ys := [(⟨x14, x15⟩ : Rs)]) (row := Rs.row) rfl rfl rfl rfl rfl rfl rfl rfl (.inl rfl) hx16 (by (repeat' first | exact bn _ | refine be ?_ | refine am ?_ (aP _ _ _) | refine am ?_ (aP _ _ [_]) | refine am ?_ (bD (by rfl)))) ?_
  refine gv hF oA (SmG.nil (ak (ae ?_)))
  refine ab hF rfl ?_
  refine gv hF oM ?_
  obtain ⟨x17, hx17, h⟩ := aa h
  refine gv hF (oB (aU hx17)) (gv hF oA (SmG.nil ?_))
  exact bc (aX h hd4) (kA)
 replace h := hv12
 refine sr hF (gv hF oM (gv hF (oN (aY u45)) (gv hF (oB (jk)) (sn ?_))))
 refine ay hF rfl (fun hc7 => ?_) (fun hc7 => ?_)
 ·replace h := ifF hc7 h
  refine Sm.skip ?_
  obtain rfl := ac h
  exact (kA)
 replace h := ifT hc7 h
 refine ab hF rfl ?_
 refine gv hF oM (gv hF oM (gv hF oM (gv hF (oN (aY u45)) ?_)))
 obtain ⟨x8, hx8, h⟩ := aa h
 refine gv hF (oB (bM hx8)) ?_
 obtain ⟨x9, hx9, h⟩ := aa h
 refine gv hF (oI (aT u45 qS hx9)) (gv hF (oL (lP1 vh rfl)) ?_)
 obtain ⟨x10, hx10, h⟩ := aa h
 refine gv hF (oC (ki u44 u3 hx10)) (gv hF oM ?_)
 obtain ⟨x11, hx11, h⟩ := aa h
 refine gv hF (oB (aU hx11)) (gv hF oA (SmG.nil ?_))
 obtain rfl := ac h
 exact (kA)
end
end Go.Proofs.YtbaccmkhjmmlnaaDoor
