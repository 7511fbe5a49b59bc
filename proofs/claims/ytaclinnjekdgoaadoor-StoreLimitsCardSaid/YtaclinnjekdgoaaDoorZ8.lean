/-
  Lemmas, part 8 of 8: walks through the program's functions, and plain Lean about what they compute.
-/
import Derived.Test.YtaclinnjekdgoaaDoorZ1
import Derived.Test.YtaclinnjekdgoaaDoorZ2
import Derived.Test.YtaclinnjekdgoaaDoorZ3
import Derived.Test.YtaclinnjekdgoaaDoorZ4
import Derived.Test.YtaclinnjekdgoaaDoorZ5
import Derived.Test.YtaclinnjekdgoaaDoorZ6
import Derived.Test.YtaclinnjekdgoaaDoorZ7
set_option linter.unnecessarySimpa false
set_option linter.unusedSimpArgs false
set_option linter.unusedVariables false
set_option maxRecDepth 100000
namespace Go.Proofs.YtaclinnjekdgoaaDoor
open Go.RowKit
section
noncomputable def gq (a0 : zBz) : Option Int :=
 ob (idx a0 0) fun x1 =>
 ob (sQ .i64 (x1.toNat : Int) 24) fun x2 =>
 ob (idx a0 1) fun x3 =>
 ob (sQ .i64 (x3.toNat : Int) 16) fun x4 =>
 ob (arI .i64 (x2 + x4)) fun x5 =>
 ob (idx a0 2) fun x6 =>
 ob (sQ .i64 (x6.toNat : Int) 8) fun x7 =>
 ob (arI .i64 (x5 + x7)) fun x8 =>
 ob (idx a0 3) fun x9 =>
 ob (arI .i64 (x8 + (x9.toNat : Int))) fun x10 =>
 some x10
set_option maxHeartbeats 4000000 in
theorem qB {a0 : zBz} {r : Int} (h : gq a0 = some r) : aj Tryd.prog HG 48 [.list 1 (a0.map ai) false] (.i r) := by
 unfold gq at h; refine aj.of Tryd.func48 rfl Tryd.ntmps48 (by simp) ?_; intro F hF h0 hT; show Sm F _ _ ⟨[(0, .d (.list 1 (a0.map ai) false))], [], 0⟩; refine sr hF (gv hF oA (sn (Sm.seq ?_))); refine dG hF 21 ?_; refine hv hF oM ?_; obtain ⟨x1, hx1, h⟩ := aq h; refine hv hF (oI (eM u30 sz5 hx1)) (hv hF (oL (lP1 ag5 rfl)) (hv hF (oC (eV u5 u3 (kr _))) ?_)); obtain ⟨x2, hx2, h⟩ := aq h; refine hv hF (oB (vW hx2)) (hv hF oM ?_); obtain ⟨x3, hx3, h⟩ := aq h; refine hv hF (oI (eM u30 sz5 hx3)) (hv hF (oL (lP1 ag5 rfl)) (hv hF (oC (eV u5 u3 (kr _))) ?_)); obtain ⟨x4, hx4, h⟩ := aq h; refine hv hF (oB (vW hx4)) ?_; obtain ⟨x5, hx5, h⟩ := aq h; refine hv hF (oB (dZ hx5)) (hv hF oM ?_); obtain ⟨x6, hx6, h⟩ := aq h; refine hv hF (oI (eM u30 sz5 hx6)) (hv hF (oL (lP1 ag5 rfl)) (hv hF (oC (eV u5 u3 (kr _))) ?_)); obtain ⟨x7, hx7, h⟩ := aq h; refine hv hF (oB (vW hx7)) ?_; obtain ⟨x8, hx8, h⟩ := aq h; refine hv hF (oB (dZ hx8)) (hv hF oM ?_); obtain ⟨x9, hx9, h⟩ := aq h; refine hv hF (oI (eM u30 sz5 hx9)) (hv hF (oL (lP1 ag5 rfl)) (hv hF (oC (eV u5 u3 (kr _))) ?_)); refine hE ?_; obtain ⟨x10, hx10, h⟩ := aq h; refine gv hF (oB (dZ hx10)) (gv hF oA (sn (Sm.ret ?_))); obtain rfl := aZ h; exact lD rfl rfl
theorem uE {n : Nat} {k : Nat} (hn : n < 256) (hk : k <= 24) : sQ .i64 (n : Int) (k : Int) = some ((n * 2 ^ k : Nat) : Int) := by
 unfold sQ; have hm : min ((k : Int).toNat) IntKind.i64.bits = k := by show min _ 64 = _; omega
 rw [if_neg (by omega), hm]; have h1 : (2 : Nat) ^ k <= 2 ^ 24 := Nat.pow_le_pow_right (by omega) hk; have h2 : n * 2 ^ k < 256 * 2 ^ 24 := Nat.lt_of_lt_of_le (Nat.mul_lt_mul_of_pos_right hn (Nat.pow_pos (by omega))) (Nat.mul_le_mul_left _ h1); have e : ((n : Int) * 2 ^ k) = ((n * 2 ^ k : Nat) : Int) := by norm_cast
 rw [e, aV _ (by omega)]
theorem HV (b0 b1 b2 b3 : UInt8) : gq [b0, b1, b2, b3] = some ((be [b0, b1, b2, b3] : Nat) : Int) := by
 have h0 := b0.toNat_lt; have h1 := b1.toNat_lt; have h2 := b2.toNat_lt; have h3 := b3.toNat_lt; unfold gq; rw [show idx [b0, b1, b2, b3] 0 = some b0 from rfl, aw, show (24 : Int) = ((24 : Nat) : Int) from rfl, uE h0 (by omega), aw, show idx [b0, b1, b2, b3] 1 = some b1 from rfl, aw, show (16 : Int) = ((16 : Nat) : Int) from rfl, uE h1 (by omega), aw, bZ (by omega), aw,
  show idx [b0, b1, b2, b3] 2 = some b2 from rfl, aw, show (8 : Int) = ((8 : Nat) : Int) from rfl, uE h2 (by omega), aw, bZ (by omega), aw, show idx [b0, b1, b2, b3] 3 = some b3 from rfl, aw, bZ (by omega), aw]
 simp only [be, List.foldl_cons, List.foldl_nil]
 congr 1
 omega
theorem Gb (l : zBz) (hl : l.length = 4) : aj Tryd.prog HG 48 [.list 1 (l.map ai) false] (.v (.int .i64 (be l))) := by
 rcases l with _ | ⟨b0, _ | ⟨b1, _ | ⟨b2, _ | ⟨b3, _ | ⟨b4, l⟩⟩⟩⟩⟩ <;> simp at hl
 exact qB (HV b0 b1 b2 b3)
def tD (l : zBz) : Vec 32 := if h : l.length = 32 then ⟨l, h⟩ else ⟨List.replicate 32 0, rfl⟩
def xk : Rcd := ⟨false, 0, 0, [], ⟨List.replicate 32 0, rfl⟩⟩
def mV (B : zBz) : Rcd :=
 if (B.getD 0 0).toNat = 80 /\ be ((B.drop 5).take 4) + 9 = B.length /\ B.length <= 65545 then ⟨true, B.getD 0 0, (be ((B.drop 1).take 4) : Nat), B.drop 9, ee (B.drop 9)⟩
 else if (B.getD 0 0).toNat = 68 /\ B.length = 37 then ⟨true, B.getD 0 0, (be ((B.drop 1).take 4) : Nat), [], tD (B.drop 5)⟩
 else xk
def wa (b : zBz) : Rcd :=
 if b.length < 41 then xk else
 if Sha.sum (b.take (b.length - 32)) ≠ b.drop (b.length - 32) then xk else
 mV (b.take (b.length - 32))
theorem eZ {n l : Nat} {t : TypeId} {R : List D} {h : zHz} {zr zp : List V} (hs : az Tryd.prog t = some n) (hl : look h l = some ⟨n, [zr]⟩) (hp : ac zr = some zp) : dk Tryd.prog h t (.ref l 0 0) (.d (.agg n R)) = some (.upd l ⟨n, [R.map V.d]⟩) := by
 simp only [dk, hl, Option.bind_some, List.getElem?_cons_zero, hp, gl, hs]; simp
theorem gT {n l : Nat} {t : TypeId} {R : List D} {h : zHz} (hs : az Tryd.prog t = some n) (ha : bg Tryd.prog t = some true) (hl : look h l = some ⟨n, [R.map V.d]⟩) : aX Tryd.prog h t (.ref l 0 0) = some (.d (.agg n R)) := by
 have hs' : seg (R.map V.d) n 0 n = R.map V.d := by
  unfold seg; rw [if_pos ⟨rfl, rfl⟩]
 have hp : bw (R.map V.d) = some R := gK _; simp only [aX, hl, Option.bind_some, List.getElem?_cons_zero, cA, ha, hs, hs', hp]; simp
theorem ng (r : D) (h : r = .agg 36 ([.v (.bool false), .v (.int .u8 0), .v (.int .i64 0), .list 0 [] true] ++ ay (List.replicate 32 0))) : r.le (.agg 36 (Rcd.row xk)) := by
 rw [h]; refine fE ?_; exact ⟨D.le.refl _, D.le.refl _, D.le.refl _, bN 0 1 true, leL.refl _⟩
def pv (k : UInt8) (n : Int) (L : zBz) (i : Nat) : List D := [.v (.bool true), .v (.int .u8 (k.toNat : Int)), .v (.int .i64 n), .list 0 [] true] ++ ay (L.take i ++ List.replicate (32 - i) 0)
theorem Ic (k : UInt8) (n : Int) {L : zBz} {i : Nat} {y : UInt8} (hL : L.length = 32) (hy : L[i]? = some y) : (pv k n L i).set (4 + i) (aG y) = pv k n L (i + 1) := by
 have hi : i < 32 := by have := (List.getElem?_eq_some_iff.1 hy).1; omega
 unfold pv; rw [List.set_append_right _ _ (by simp)]
 congr 1
 simp only [List.length_cons, List.length_nil, Nat.zero_add, Nat.reduceAdd, Nat.add_sub_cancel_left]; unfold ay; rw [<- List.map_set]
 congr 1
 rw [List.take_add_one, hy, List.set_append_right _ _ (by rw [List.length_take]; omega), show 32 - i = (32 - (i + 1)) + 1 by omega, List.replicate_succ]; have hmin : i - (List.take i L).length = 0 := by simp only [List.length_take]; omega
 rw [hmin, List.set_cons_zero]; simp
theorem Ix {k : UInt8} {n : Int} {L : zBz} {i l : Nat} {y : UInt8} {h : zHz} (hL : L.length = 32) (hy : L[i]? = some y) (hl : look h l = some ⟨36, [(pv k n L i).map V.d]⟩) : dk Tryd.prog h 5 (.ref l 0 (4 + i)) (.d (aG y)) = some (.upd l ⟨36, [(pv k n L (i + 1)).map V.d]⟩) := by
 have hi : i < 32 := by have := (List.getElem?_eq_some_iff.1 hy).1; omega
 have h1 : ((pv k n L i).map V.d).set (4 + i) (V.d (aG y)) = (pv k n L (i + 1)).map V.d := by
  rw [<- List.map_set, Ic k n hL hy]
 have hc : gl (.d (aG y)) = some (1, [.d (aG y)]) := rfl; simp only [dk, hl, Option.bind_some, List.getElem?_cons_zero, cA, hc, sz5]; rw [if_pos ⟨trivial, by omega⟩, if_neg (by omega), if_pos trivial, h1]; rfl
set_option maxHeartbeats 4000000 in
theorem Ga (b : zBz) (hb : b.length <= 1000000) : aj Tryd.prog HG 28 [.list 1 (b.map ai) false] (.agg 36 (Rcd.row (wa b))) := by
 unfold wa; by_cases c1 : b.length < 41
 ·rw [if_pos c1]; refine aj.of Tryd.func28 rfl Tryd.ntmps28 (by simp) ?_; intro F hF h0 hT; simp only [List.zipIdx_cons, List.zipIdx_nil, List.map_cons, List.map_nil, Nat.zero_add, Nat.reduceAdd]; refine Sm.seq ?_; refine ab hF rfl ?_; refine SmG.new hF rfl rfl rfl (aD rfl CS) ?_; refine SmG.nil (aa (Sm.seq (Sm.seq ?_))); refine ab hF rfl ?_; refine gv hF oM ?_; refine gv hF (aK rfl rfl (by simp (disch := omega) only [go_sem, Nat.reduceEqDiff, aF, ac] <;> rfl)) ?_; refine gv hF (ag rfl rfl rfl (by exact dE _ _ _ _ _ (by omega))) ?_; refine SmG.nil (aa ?_); refine bc hF rfl ?_; refine Sm.seq ?_; refine ab hF rfl ?_; refine gv hF (bV rfl Tryd.underlying64 (by kernel_rfl) rfl wL) ?_; refine SmG.store hF rfl rfl rfl rfl rfl (eZ gN rfl rfl) ?_; refine SmG.nil (aa (Sm.ret ?_)); simp only [ba, bJ]; refine cL rfl rfl (gT gN nu rfl) ?_; exact ng _ rfl
 rw [if_neg c1]; obtain ⟨E, hE⟩ : ∃ E, b.length = E + 32 := ⟨b.length - 32, by omega⟩
 have hE2 : (b.length : Int) - 32 = (E : Int) := by omega
 have hE3 : b.length - 32 = E := by omega
 have hlb : (b.take E).length = E := by simp; omega
 have hlt : (b.drop E).length = 32 := by simp; omega
 rw [hE3]; have csum := ra (b.take E) (by omega) HG; obtain ⟨sx, hsx⟩ : ∃ sx : Vec 32, sx.l = Sha.sum (b.take E) := ⟨ee _, rfl⟩
 rw [<- hsx] at csum ⊢; have hsl := sx.h; have hrl : (ay sx.l).length = 32 := cq hsl; have hch : fu 1 32 (ay sx.l) = sx.l.map ai := by
  have := kP (ay sx.l); rw [hrl] at this; rw [this]; simp [ay, ai]
 have htk : (sx.l.map ai).take 32 = sx.l.map ai := List.take_of_length_le (by simp [hsl]); refine aj.of Tryd.func28 rfl Tryd.ntmps28 (by simp) ?_; intro F hF h0 hT; simp only [List.zipIdx_cons, List.zipIdx_nil, List.map_cons, List.map_nil, Nat.zero_add, Nat.reduceAdd]; refine Sm.seq ?_; refine ab hF rfl ?_; refine SmG.new hF rfl rfl rfl (aD rfl CS) ?_; refine SmG.nil (aa (Sm.seq (Sm.seq ?_))); refine ab hF rfl ?_; refine gv hF oM ?_; refine gv hF (aK rfl rfl (by simp (disch := omega) only [go_sem, Nat.reduceEqDiff, aF, ac, <- List.map_take, <- List.map_drop] <;> rfl)) ?_; refine gv hF (ag rfl rfl rfl (by exact dV _ _ _ _ _ (by omega))) ?_; refine SmG.nil (aa ?_); refine aN hF rfl ?_; refine Sm.skip ?_; refine aa (Sm.seq ?_); refine ab hF rfl ?_; refine gv hF oM ?_; refine gv hF (aK rfl rfl (by simp (disch := omega) only [go_sem, Nat.reduceEqDiff, aF, ac, <- List.map_take, <- List.map_drop] <;> rfl)) ?_; refine gv hF (ag rfl rfl rfl ((ii _ _ _ _ _ (aV _ (by omega))).trans (by rw [hE2]))) ?_; refine gv hF oA (SmG.nil (aa (Sm.seq ?_))); refine ab hF rfl ?_; refine gv hF oM (gv hF oM ?_); refine gv hF (bC rfl rfl rfl rfl rfl (by simp (disch := omega) only [go_sem, Nat.reduceEqDiff, aF, ac, <- List.map_take, <- List.map_drop] <;> rfl)) ?_; refine SmG.call hF rfl rfl (by kernel_rfl) rfl rfl rfl (csum) ?_; refine SmG.new hF rfl rfl rfl (aD rfl mD) ?_; refine SmG.store hF rfl rfl rfl rfl rfl (by simp (disch := omega) only [go_sem, Nat.reduceEqDiff, aF, ac, <- List.map_take, <- List.map_drop] <;> rfl) ?_; refine SmG.nil (aa (Sm.seq (Sm.seq ?_))); simp only [rep, Nat.zero_add, Nat.reduceEqDiff, if_true, if_false]; refine Sm.freeze (l := 1) [ay sx.l] rfl ?_; simp only [Pk.v, cQ, bf, bO,  reduceIte, Nat.reduceAdd, Nat.zero_add, List.length_map, List.length_append, Nat.le_refl, true_and, and_self, if_true, Nat.reduceEqDiff, true_and]; refine du hF (by kernel_rfl) rfl 7 (by kernel_rfl) (by kernel_rfl) ?_; simp only [List.take_succ_cons, List.take_zero, List.take_nil]; refine hv hF (bC rfl rfl rfl rfl rfl (by simp (disch := omega) only [go_sem, Nat.reduceEqDiff, aF, ac, <- List.map_take, <- List.map_drop, hch, htk, iY] <;> rfl)) ?_
 refine hv hF (cg rfl rfl (by simp (disch := omega) only [go_sem, Nat.reduceEqDiff, aF, ac, <- List.map_take, <- List.map_drop, hch, htk, iY] <;> rfl)) ?_; refine hv hF oM (hv hF oM ?_); refine hv hF (bC rfl rfl rfl rfl rfl (by simp (disch := omega) only [go_sem, Nat.reduceEqDiff, aF, ac, <- List.map_take, <- List.map_drop, hch, htk, iY] <;> rfl)) ?_; refine hv hF (cg rfl rfl (by simp (disch := omega) only [go_sem, Nat.reduceEqDiff, aF, ac, <- List.map_take, <- List.map_drop, hch, htk, iY] <;> rfl)) ?_; refine ap.v (x := .d (.v (.bool (sx.l != b.drop E)))) hF rfl rfl rfl (ag rfl rfl rfl (FT rfl)) ?_; refine ap.last ⟨rfl, ?_⟩; simp only [List.drop_succ_cons, List.drop_zero, List.drop_nil, List.nil_append, List.cons_append]; refine SmG.nil (aa ?_); by_cases hs : sx.l = b.drop E
 case neg =>
  rw [if_pos (by exact hs), show (sx.l != b.drop E) = true by simp [hs]]; refine bc hF rfl ?_; refine Sm.seq ?_; refine ab hF rfl ?_; refine gv hF (bV rfl Tryd.underlying64 (by kernel_rfl) rfl wL) ?_; refine SmG.store hF rfl rfl rfl rfl rfl (eZ gN rfl rfl) ?_; refine SmG.nil (aa (Sm.ret ?_)); simp only [ba, bJ]; refine cL rfl rfl (gT gN nu rfl) ?_; exact ng _ rfl
 rw [if_neg (by simp [hs]), show (sx.l != b.drop E) = false by simp [hs]]; obtain ⟨kind, hk⟩ : ∃ kind, b[0]? = some kind := ⟨b[0]'(by omega), List.getElem?_eq_getElem (by omega)⟩
 have hkB : (b.take E).getD 0 0 = kind := by
  have : (b.take E)[0]? = some kind := by rw [List.getElem?_take]; simp [hk]; omega
  simp [List.getD_eq_getElem?_getD, this]
 have e1 : (b.take 5).drop 1 = ((b.take E).drop 1).take 4 := by
  rw [List.drop_take, List.drop_take, List.take_take]; congr 1; omega
 have e5 : (b.take 9).drop 5 = ((b.take E).drop 5).take 4 := by
  rw [List.drop_take, List.drop_take, List.take_take]; congr 1; omega
 have h1 : ((b.take 5).drop 1).length = 4 := by simp; omega
 have h5 : ((b.take 9).drop 5).length = 4 := by simp; omega
 unfold mV; rw [hkB, <- e1, <- e5, hlb]; have cr1 := Gb _ h1; have cr5 := Gb _ h5; generalize hl1 : (b.take 5).drop 1 = l1 at cr1 h1; generalize hl5 : (b.take 9).drop 5 = l5 at cr5 h5; have hm1 : List.drop 1 (List.take (Int.toNat 5) b) = l1 := hl1; have hm5 : List.drop (Int.toNat 5) (List.take (Int.toNat 9) b) = l5 := hl5; refine aN hF rfl ?_; refine Sm.skip ?_; refine aa (Sm.seq ?_); refine dC hF rfl ?_; refine ip hF rfl 0 9 (by kernel_rfl) ?_; simp only [List.take_succ_cons, List.take_zero, List.take_nil, List.drop_succ_cons, List.drop_zero, Nat.reduceSub]; refine hv hF oM ?_; refine hv hF (ak rfl rfl rfl (by simp (disch := omega) only [go_sem, Nat.reduceEqDiff, aF, ac, <- List.map_take, <- List.map_drop, hk, ai, aG, hm1, hm5] <;> rfl)) ?_; refine hv hF (ae rfl rfl (by simp (disch := omega) only [go_sem, Nat.reduceEqDiff, aF, ac, <- List.map_take, <- List.map_drop, hk, ai, aG, hm1, hm5] <;> rfl)) ?_; refine hv hF oM ?_; refine hv hF (bC rfl rfl rfl rfl rfl (by simp (disch := omega) only [go_sem, Nat.reduceEqDiff, aF, ac, <- List.map_take, <- List.map_drop, hk, ai, aG, hm1, hm5] <;> rfl)) ?_; refine ap.c hF rfl rfl (by kernel_rfl) rfl rfl rfl (cr1) ?_; refine hv hF (bV rfl Tryd.underlying64 (by kernel_rfl) rfl (gi (n := 36) NL Ng rfl (by repeat' first | apply xT rfl rfl (by first | rfl | simp [ay, ac, <- List.map_take, <- List.map_drop, hk, ai, aG, hm1, hm5]) | apply xS rfl rfl rfl (by first | assumption | simp [ay, ac, <- List.map_take, <- List.map_drop, hk, ai, aG, hm1, hm5]) | (apply IV; simp only [List.set_cons_succ, List.set_cons_zero, List.take_succ_cons, List.take_zero, List.drop_succ_cons, List.drop_zero, List.drop_nil, List.cons_append, List.nil_append, List.append_nil, ac, <- List.map_take, <- List.map_drop, hk, ai, aG, hm1, hm5] <;> rfl)))) ?_; refine ap.new hF rfl rfl rfl rfl CS ?_; refine ap.st hF rfl rfl rfl rfl rfl rfl (eZ gN rfl rfl) ?_; refine ap.last ?_; simp only [List.nil_append, List.cons_append]; refine SmA.nil (Nat.le_of_ble_eq_true rfl) ?_; refine aa (Sm.seq (Sm.seq ?_))
 by_cases k80 : kind.toNat = 80
 ·by_cases cn : be l5 + 9 = E
  ·by_cases cl : E <= 65545
   ·rw [if_pos ⟨k80, cn, cl⟩]; have hx : (b.take E).drop 9 = (b.take E).drop 9 := rfl; have hxl : ((b.take E).drop 9).length <= 1000000 := by simp; omega
    have csx := ra _ hxl HG; have hnil : List.drop (Int.toNat 9) (List.take E b) = (b.take E).drop 9 := rfl; generalize (b.take E).drop 9 = x at hxl csx hnil; obtain ⟨sv, hsv, hsv2⟩ : ∃ sv : Vec 32, sv.l = Sha.sum x /\ sv = ee x := ⟨ee x, rfl, rfl⟩
    rw [<- hsv] at csx; rw [<- hsv2]; refine ab hF rfl ?_; refine gv hF oM ?_; refine gv hF (ak rfl rfl rfl (by simp (disch := omega) only [go_sem, Nat.reduceEqDiff, aF, ac, <- List.map_take, <- List.map_drop, hk, ai, aG, hm5] <;> rfl)) ?_; refine gv hF (ae rfl rfl (by simp (disch := omega) only [go_sem, Nat.reduceEqDiff, aF, ac, <- List.map_take, <- List.map_drop, hk, ai, aG, hm5] <;> rfl)) ?_; refine gv hF (ag rfl rfl rfl (by exact dU _ _ _ _ _ (by omega))) ?_; refine gv hF oM ?_; refine gv hF oM ?_; refine gv hF (bC rfl rfl rfl rfl rfl (by simp (disch := omega) only [go_sem, Nat.reduceEqDiff, aF, ac, <- List.map_take, <- List.map_drop, hk, ai, aG, hm5] <;> rfl)) ?_; refine SmG.call hF rfl rfl (by kernel_rfl) rfl rfl rfl (cr5) ?_; refine gv hF oM ?_; refine gv hF (ag rfl rfl rfl (by exact ii _ _ _ _ _ (aV _ (by omega)))) ?_; refine gv hF (ag rfl rfl rfl (by exact dU _ _ _ _ _ (by omega))) ?_; refine gv hF (aL rfl rfl rfl) ?_; refine gv hF oM ?_; refine gv hF oM ?_; refine gv hF (ag rfl rfl rfl (by exact ii _ _ _ _ _ (aV _ (by omega)))) ?_; refine gv hF (ag rfl rfl rfl (by exact tl _ _ _ _ _ (by omega))) ?_; refine gv hF (aL rfl rfl rfl) ?_; refine SmG.nil (aa ?_); refine bc hF rfl ?_; refine Sm.seq ?_; refine ab hF rfl ?_; refine gv hF (aM rfl rfl (by simp (disch := omega) only [go_sem, Nat.reduceEqDiff, aF, ac, <- List.map_take, <- List.map_drop, hnil, List.append_nil] <;> rfl)) ?_; refine gv hF oM (gv hF oM ?_); refine gv hF (bC rfl rfl rfl rfl rfl (by simp (disch := omega) only [go_sem, Nat.reduceEqDiff, aF, ac, <- List.map_take, <- List.map_drop, hnil, List.append_nil] <;> rfl)) ?_; refine SmG.append hF kB rfl rfl rfl rfl rfl rfl (Or.inr rfl) (Or.inl rfl) (by simp; omega) (by simp; omega) ?_; refine gv hF (af rfl rfl (by simp (disch := omega) only [go_sem, Nat.reduceEqDiff, aF, ac, <- List.map_take, <- List.map_drop, hnil, List.append_nil] <;> rfl)) ?_; refine SmG.store hF rfl rfl rfl rfl rfl (by simp (disch := omega) only [go_sem, Nat.reduceEqDiff, aF, ac, <- List.map_take, <- List.map_drop, hnil, List.append_nil] <;> rfl) ?_
    refine SmG.nil (aa (Sm.seq ?_)); refine ab hF rfl ?_; refine gv hF (af rfl rfl (by simp (disch := omega) only [go_sem, Nat.reduceEqDiff, aF, ac, <- List.map_take, <- List.map_drop, hnil, List.append_nil] <;> rfl)) ?_; refine gv hF (ae rfl rfl (by simp (disch := omega) only [go_sem, Nat.reduceEqDiff, aF, ac, <- List.map_take, <- List.map_drop, hnil, List.append_nil] <;> rfl)) ?_; refine SmG.call hF rfl rfl (by kernel_rfl) rfl rfl rfl (csx) ?_; refine gv hF (af rfl rfl (by simp (disch := omega) only [go_sem, Nat.reduceEqDiff, aF, ac, <- List.map_take, <- List.map_drop, hnil, List.append_nil] <;> rfl)) ?_; refine SmG.store hF rfl rfl rfl rfl rfl (by simp (disch := omega) only [go_sem, Nat.reduceEqDiff, aF, ac, <- List.map_take, <- List.map_drop, hnil, List.append_nil] <;> rfl) ?_; refine SmG.nil (aa (Sm.seq ?_)); refine Sm.to (cD (st' := ⟨[(2, .ref 0 0 0), (5, .ref 2 0 0)], [(2, ⟨36, [(Rcd.row ⟨true, kind, (be l1 : Nat), x, sv⟩).map V.d]⟩), (0, ⟨36, [([.v (.bool false), .v (.int .u8 0), .v (.int .i64 0), .list 0 [] true] ++ List.replicate 32 (.v (.int .u8 0)) : List D).map V.d]⟩)], 3⟩) (aJ ⟨rfl, rfl, trivial⟩ ⟨rfl, rfl, trivial⟩ (Nat.le_refl _))) ?_; refine ab hF rfl ?_; refine gv hF (ae rfl rfl (gT gN nu rfl)) ?_; refine SmG.store hF rfl rfl rfl rfl rfl (eZ gN rfl rfl) ?_; refine SmG.nil (aa (Sm.ret ?_)); simp only [ba, bJ]; exact cL rfl rfl (gT gN nu rfl) (D.le.refl _)
   ·rw [if_neg (by omega), if_neg (by omega)]; refine ab hF rfl ?_; refine gv hF oM ?_; refine gv hF (ak rfl rfl rfl (by simp (disch := omega) only [go_sem, Nat.reduceEqDiff, aF, ac, <- List.map_take, <- List.map_drop, hk, ai, aG, hm5] <;> rfl)) ?_; refine gv hF (ae rfl rfl (by simp (disch := omega) only [go_sem, Nat.reduceEqDiff, aF, ac, <- List.map_take, <- List.map_drop, hk, ai, aG, hm5] <;> rfl)) ?_; refine gv hF (ag rfl rfl rfl (by exact dU _ _ _ _ _ (by omega))) ?_; refine gv hF oM ?_; refine gv hF oM ?_; refine gv hF (bC rfl rfl rfl rfl rfl (by simp (disch := omega) only [go_sem, Nat.reduceEqDiff, aF, ac, <- List.map_take, <- List.map_drop, hk, ai, aG, hm5] <;> rfl)) ?_; refine SmG.call hF rfl rfl (by kernel_rfl) rfl rfl rfl (cr5) ?_; refine gv hF oM ?_; refine gv hF (ag rfl rfl rfl (by exact ii _ _ _ _ _ (aV _ (by omega)))) ?_; refine gv hF (ag rfl rfl rfl (by exact dU _ _ _ _ _ (by omega))) ?_; refine gv hF (aL rfl rfl rfl) ?_; refine gv hF oM ?_; refine gv hF oM ?_; refine gv hF (ag rfl rfl rfl (by exact ii _ _ _ _ _ (aV _ (by omega)))) ?_; refine gv hF (ag rfl rfl rfl (by exact xj _ _ _ _ _ (by omega))) ?_; refine gv hF (aL rfl rfl rfl) ?_; refine SmG.nil (aa ?_); refine aN hF rfl ?_; refine Sm.skip ?_; refine aa (Sm.seq (Sm.seq ?_)); refine ab hF rfl ?_; refine gv hF oM ?_; refine gv hF (ak rfl rfl rfl (by simp (disch := omega) only [go_sem, Nat.reduceEqDiff, aF, ac, <- List.map_take, <- List.map_drop, hk, ai, aG, hm5] <;> rfl)) ?_; refine gv hF (ae rfl rfl (by simp (disch := omega) only [go_sem, Nat.reduceEqDiff, aF, ac, <- List.map_take, <- List.map_drop, hk, ai, aG, hm5] <;> rfl)) ?_; refine gv hF (ag rfl rfl rfl (by exact ne _ _ _ _ _ (by omega))) ?_; refine gv hF oM ?_; refine gp hF ?_; refine gp hF ?_; refine gv hF (aL rfl rfl rfl) ?_; refine SmG.nil (aa ?_); refine bc hF rfl ?_; refine Sm.seq ?_; refine ab hF rfl ?_; refine gv hF (bV rfl Tryd.underlying64 (by kernel_rfl) rfl wL) ?_; refine SmG.store hF rfl rfl rfl rfl rfl (eZ gN rfl rfl) ?_; refine SmG.nil (aa (Sm.ret ?_))
    simp only [ba, bJ]; refine cL rfl rfl (gT gN nu rfl) (ng _ rfl)
  ·rw [if_neg (by omega), if_neg (by omega)]; refine ab hF rfl ?_; refine gv hF oM ?_; refine gv hF (ak rfl rfl rfl (by simp (disch := omega) only [go_sem, Nat.reduceEqDiff, aF, ac, <- List.map_take, <- List.map_drop, hk, ai, aG, hm5] <;> rfl)) ?_; refine gv hF (ae rfl rfl (by simp (disch := omega) only [go_sem, Nat.reduceEqDiff, aF, ac, <- List.map_take, <- List.map_drop, hk, ai, aG, hm5] <;> rfl)) ?_; refine gv hF (ag rfl rfl rfl (by exact dU _ _ _ _ _ (by omega))) ?_; refine gv hF oM ?_; refine gv hF oM ?_; refine gv hF (bC rfl rfl rfl rfl rfl (by simp (disch := omega) only [go_sem, Nat.reduceEqDiff, aF, ac, <- List.map_take, <- List.map_drop, hk, ai, aG, hm5] <;> rfl)) ?_; refine SmG.call hF rfl rfl (by kernel_rfl) rfl rfl rfl (cr5) ?_; refine gv hF oM ?_; refine gv hF (ag rfl rfl rfl (by exact ii _ _ _ _ _ (aV _ (by omega)))) ?_; refine gv hF (ag rfl rfl rfl (by exact jS _ _ _ _ _ (by omega))) ?_; refine gv hF (aL rfl rfl rfl) ?_; refine gv hF oM ?_; refine gp hF ?_; refine gp hF ?_; refine gp hF ?_; refine gv hF (aR rfl rfl rfl) ?_; refine SmG.nil (aa ?_); refine aN hF rfl ?_; refine Sm.skip ?_; refine aa (Sm.seq (Sm.seq ?_)); refine ab hF rfl ?_; refine gv hF oM ?_; refine gv hF (ak rfl rfl rfl (by simp (disch := omega) only [go_sem, Nat.reduceEqDiff, aF, ac, <- List.map_take, <- List.map_drop, hk, ai, aG, hm5] <;> rfl)) ?_; refine gv hF (ae rfl rfl (by simp (disch := omega) only [go_sem, Nat.reduceEqDiff, aF, ac, <- List.map_take, <- List.map_drop, hk, ai, aG, hm5] <;> rfl)) ?_; refine gv hF (ag rfl rfl rfl (by exact ne _ _ _ _ _ (by omega))) ?_; refine gv hF oM ?_; refine gp hF ?_; refine gp hF ?_; refine gv hF (aL rfl rfl rfl) ?_; refine SmG.nil (aa ?_); refine bc hF rfl ?_; refine Sm.seq ?_; refine ab hF rfl ?_; refine gv hF (bV rfl Tryd.underlying64 (by kernel_rfl) rfl wL) ?_; refine SmG.store hF rfl rfl rfl rfl rfl (eZ gN rfl rfl) ?_; refine SmG.nil (aa (Sm.ret ?_)); simp only [ba, bJ]; refine cL rfl rfl (gT gN nu rfl) (ng _ rfl)
 ·by_cases k68 : kind.toNat = 68
  ·by_cases c37 : E = 37
   ·rw [if_neg (by omega), if_pos ⟨k68, c37⟩]; have hL : ((b.take E).drop 5).length = 32 := by simp; omega
    have hLi : ∀ i, i < 32 -> b[5 + i]? = ((b.take E).drop 5)[i]? := fun i hi => by
     rw [List.getElem?_drop, List.getElem?_take, if_pos (by omega)]
    generalize (b.take E).drop 5 = L at hL hLi; refine ab hF rfl ?_; refine gv hF oM ?_; refine gv hF (ak rfl rfl rfl (by simp (disch := omega) only [go_sem, Nat.reduceEqDiff, aF, ac, <- List.map_take, <- List.map_drop, hk, ai, aG, hm5] <;> rfl)) ?_; refine gv hF (ae rfl rfl (by simp (disch := omega) only [go_sem, Nat.reduceEqDiff, aF, ac, <- List.map_take, <- List.map_drop, hk, ai, aG, hm5] <;> rfl)) ?_; refine gv hF (ag rfl rfl rfl (by exact jS _ _ _ _ _ (by omega))) ?_; refine gv hF oM ?_; refine gp hF ?_; refine gp hF ?_; refine gp hF ?_; refine gp hF ?_; refine gp hF ?_; refine gp hF ?_; refine gv hF (aR rfl rfl rfl) ?_; refine gv hF oM ?_; refine gp hF ?_; refine gp hF ?_; refine gp hF ?_; refine gv hF (aR rfl rfl rfl) ?_; refine SmG.nil (aa ?_); refine aN hF rfl ?_; refine Sm.skip ?_; refine aa (Sm.seq (Sm.seq ?_)); refine ab hF rfl ?_; refine gv hF oM ?_; refine gv hF (ak rfl rfl rfl (by simp (disch := omega) only [go_sem, Nat.reduceEqDiff, aF, ac, <- List.map_take, <- List.map_drop, hk, ai, aG, hm5] <;> rfl)) ?_; refine gv hF (ae rfl rfl (by simp (disch := omega) only [go_sem, Nat.reduceEqDiff, aF, ac, <- List.map_take, <- List.map_drop, hk, ai, aG, hm5] <;> rfl)) ?_; refine gv hF (ag rfl rfl rfl (by exact jc _ _ _ _ _ (by omega))) ?_; refine gv hF oM ?_; refine gv hF oM ?_; refine gv hF (ag rfl rfl rfl (by exact jc _ _ _ _ _ (by omega))) ?_; refine gv hF (aR rfl rfl rfl) ?_; refine SmG.nil (aa ?_); refine aN hF rfl ?_; refine Sm.skip ?_; refine aa (Sm.seq (Sm.seq ?_)); refine Sm.to (cD (st' := ⟨[(0, .d (.list 1 (b.map ai) false)), (2, .ref 0 0 0), (5, .ref 2 0 0)], [(2, ⟨36, [(pv kind (be l1 : Nat) L 0).map V.d]⟩), (0, ⟨36, [([.v (.bool false), .v (.int .u8 0), .v (.int .i64 0), .list 0 [] true] ++ List.replicate 32 (.v (.int .u8 0)) : List D).map V.d]⟩)], 3⟩) (aJ ⟨rfl, rfl, rfl, trivial⟩ ⟨rfl, rfl, trivial⟩ (Nat.le_refl _))) ?_; refine ab hF rfl ?_; refine gv hF oA (SmG.nil (aa (Sm.block ?_))); refine Sm.loop (ι := {i : Nat // i <= 32}) (fun i => ⟨[(0, .d (.list 1 (b.map ai) false)), (2, .ref 0 0 0), (5, .ref 2 0 0), (6, .d (.v (.int .i64 i.1)))], [(2, ⟨36, [(pv kind (be l1 : Nat) L i.1).map V.d]⟩), (0, ⟨36, [([.v (.bool false), .v (.int .u8 0), .v (.int .i64 0), .list 0 [] true] ++ List.replicate 32 (.v (.int .u8 0)) : List D).map V.d]⟩)], 3⟩) (fun i => 32 - i.1) (⟨0, by omega⟩) ?_ ?_
    ·exact aJ ⟨rfl, rfl, rfl, rfl, trivial⟩ ⟨rfl, rfl, trivial⟩ (Nat.le_refl _)
    rintro ⟨i, hi⟩; simp only; by_cases hlt : i < 32
    ·obtain ⟨y, hy⟩ : ∃ y, L[i]? = some y := ⟨L[i]'(by omega), List.getElem?_eq_getElem (by omega)⟩
     have hby : b[5 + i]? = some y := by rw [hLi i hlt, hy]
     have h5i : (5 : Int) + (i : Int) = ((5 + i : Nat) : Int) := by omega
     refine Sm.seq (Sm.seq ?_); refine ab hF rfl ?_; refine gv hF oM ?_; refine gv hF (ag rfl rfl rfl (by exact dE _ _ _ _ _ (by omega))) ?_; refine SmG.nil (aa ?_); refine bc hF rfl ?_; refine Sm.skip ?_; refine aa (Sm.seq (Sm.block ?_)); refine ab hF rfl ?_; refine gv hF oM (gv hF oM (gv hF oM ?_)); refine gv hF (ag rfl rfl rfl ((ed _ _ _ _ _ (aV _ (by omega))).trans (by rw [h5i]))) ?_; refine gv hF (ak rfl rfl rfl (by simp (disch := omega) only [go_sem, Nat.reduceEqDiff, aF, hby, ai, aG] <;> rfl)) ?_; refine gv hF (ae rfl rfl (by simp (disch := omega) only [go_sem, Nat.reduceEqDiff, aF, hby, ai, aG] <;> rfl)) ?_; refine gv hF (af rfl rfl (by simp (disch := omega) only [go_sem, Nat.reduceEqDiff, aF, hby, ai, aG] <;> rfl)) ?_; refine gv hF (ak rfl rfl rfl (by simp (disch := omega) only [go_sem, Nat.reduceEqDiff, aF, hby, ai, aG] <;> rfl)) ?_; refine SmG.store hF rfl rfl rfl rfl rfl (Ix hL hy rfl) ?_; refine SmG.nil (aH (aa ?_)); refine ab hF rfl ?_; refine gv hF oM ?_; refine gv hF (ag rfl rfl rfl (by exact ed _ _ _ _ _ (aV _ (by omega)))) ?_; refine gv hF oA (SmG.nil (aa ?_)); exact ⟨⟨i + 1, by omega⟩, by show 32 - (i + 1) < 32 - i; omega, aJ ⟨rfl, rfl, rfl, rfl, trivial⟩ ⟨rfl, rfl, trivial⟩ (Nat.le_refl _)⟩
    ·obtain rfl : i = 32 := by omega
     refine Sm.seq (Sm.seq ?_); refine ab hF rfl ?_; refine gv hF oM ?_; refine gv hF (ag rfl rfl rfl (by exact dV _ _ _ _ _ (by omega))) ?_; refine SmG.nil (aa ?_); refine aN hF rfl ?_; refine Sm.exit ?_; simp only [ba, bJ, reduceIte, reduceCtorEq]; refine Sm.seq ?_; refine ab hF rfl ?_; refine gv hF (ae rfl rfl (gT gN nu rfl)) ?_; refine SmG.store hF rfl rfl rfl rfl rfl (eZ gN rfl rfl) ?_; refine SmG.nil (aa (Sm.ret ?_)); refine cL rfl rfl (gT gN nu rfl) ?_; have hv : (tD L).l = L := by unfold tD; rw [dif_pos hL]
     refine fE ?_; simp only [pv, Rcd.row, hv, Nat.sub_self, List.replicate_zero, List.append_nil, List.take_of_length_le (Nat.le_of_eq hL)]; exact ⟨D.le.refl _, D.le.refl _, D.le.refl _, bN 0 1 true, leL.refl _⟩
   ·rw [if_neg (by omega), if_neg (by omega)]; refine ab hF rfl ?_; refine gv hF oM ?_; refine gv hF (ak rfl rfl rfl (by simp (disch := omega) only [go_sem, Nat.reduceEqDiff, aF, ac, <- List.map_take, <- List.map_drop, hk, ai, aG, hm5] <;> rfl)) ?_; refine gv hF (ae rfl rfl (by simp (disch := omega) only [go_sem, Nat.reduceEqDiff, aF, ac, <- List.map_take, <- List.map_drop, hk, ai, aG, hm5] <;> rfl)) ?_; refine gv hF (ag rfl rfl rfl (by exact jS _ _ _ _ _ (by omega))) ?_; refine gv hF oM ?_; refine gp hF ?_; refine gp hF ?_; refine gp hF ?_; refine gp hF ?_; refine gp hF ?_; refine gp hF ?_; refine gv hF (aR rfl rfl rfl) ?_; refine gv hF oM ?_; refine gp hF ?_; refine gp hF ?_; refine gp hF ?_; refine gv hF (aR rfl rfl rfl) ?_; refine SmG.nil (aa ?_); refine aN hF rfl ?_; refine Sm.skip ?_; refine aa (Sm.seq (Sm.seq ?_)); refine ab hF rfl ?_; refine gv hF oM ?_; refine gv hF (ak rfl rfl rfl (by simp (disch := omega) only [go_sem, Nat.reduceEqDiff, aF, ac, <- List.map_take, <- List.map_drop, hk, ai, aG, hm5] <;> rfl)) ?_; refine gv hF (ae rfl rfl (by simp (disch := omega) only [go_sem, Nat.reduceEqDiff, aF, ac, <- List.map_take, <- List.map_drop, hk, ai, aG, hm5] <;> rfl)) ?_; refine gv hF (ag rfl rfl rfl (by exact jc _ _ _ _ _ (by omega))) ?_; refine gv hF oM ?_; refine gv hF oM ?_; refine gv hF (ag rfl rfl rfl (by exact ne _ _ _ _ _ (by omega))) ?_; refine gv hF (aR rfl rfl rfl) ?_; refine SmG.nil (aa ?_); refine bc hF rfl ?_; refine Sm.seq ?_; refine ab hF rfl ?_; refine gv hF (bV rfl Tryd.underlying64 (by kernel_rfl) rfl wL) ?_; refine SmG.store hF rfl rfl rfl rfl rfl (eZ gN rfl rfl) ?_; refine SmG.nil (aa (Sm.ret ?_)); simp only [ba, bJ]; refine cL rfl rfl (gT gN nu rfl) (ng _ rfl)
  ·rw [if_neg (by omega), if_neg (by omega)]; refine ab hF rfl ?_; refine gv hF oM ?_; refine gv hF (ak rfl rfl rfl (by simp (disch := omega) only [go_sem, Nat.reduceEqDiff, aF, ac, <- List.map_take, <- List.map_drop, hk, ai, aG, hm5] <;> rfl)) ?_; refine gv hF (ae rfl rfl (by simp (disch := omega) only [go_sem, Nat.reduceEqDiff, aF, ac, <- List.map_take, <- List.map_drop, hk, ai, aG, hm5] <;> rfl)) ?_; refine gv hF (ag rfl rfl rfl (by exact jS _ _ _ _ _ (by omega))) ?_; refine gv hF oM ?_; refine gp hF ?_; refine gp hF ?_; refine gp hF ?_; refine gp hF ?_; refine gp hF ?_; refine gp hF ?_; refine gv hF (aR rfl rfl rfl) ?_; refine gv hF oM ?_; refine gp hF ?_; refine gp hF ?_; refine gp hF ?_; refine gv hF (aR rfl rfl rfl) ?_; refine SmG.nil (aa ?_); refine aN hF rfl ?_; refine Sm.skip ?_; refine aa (Sm.seq (Sm.seq ?_)); refine ab hF rfl ?_; refine gv hF oM ?_; refine gv hF (ak rfl rfl rfl (by simp (disch := omega) only [go_sem, Nat.reduceEqDiff, aF, ac, <- List.map_take, <- List.map_drop, hk, ai, aG, hm5] <;> rfl)) ?_; refine gv hF (ae rfl rfl (by simp (disch := omega) only [go_sem, Nat.reduceEqDiff, aF, ac, <- List.map_take, <- List.map_drop, hk, ai, aG, hm5] <;> rfl)) ?_; refine gv hF (ag rfl rfl rfl (by exact ne _ _ _ _ _ (by omega))) ?_; refine gv hF oM ?_; refine gp hF ?_; refine gp hF ?_; refine gv hF (aL rfl rfl rfl) ?_; refine SmG.nil (aa ?_); refine bc hF rfl ?_; refine Sm.seq ?_; refine ab hF rfl ?_; refine gv hF (bV rfl Tryd.underlying64 (by kernel_rfl) rfl wL) ?_; refine SmG.store hF rfl rfl rfl rfl rfl (eZ gN rfl rfl) ?_; refine SmG.nil (aa (Sm.ret ?_)); simp only [ba, bJ]; refine cL rfl rfl (gT gN nu rfl) (ng _ rfl)
end
section
theorem Gl (x : Ob) : seg (List.drop 0 x.row) (33 - 0) 0 32 = ay x.sum.l := by
 unfold seg; rw [if_neg (by decide), List.drop_zero, List.drop_zero, jP]
noncomputable def dp (a0 : List Ob) (a1 : zBz) (s1 : Int) : Option (Int ⊕ (Unit ⊕ Int)) :=
 bif (decide (s1 < (a0.length : Int))) then (
  ob (idx a0 s1) fun x6 =>
  ob (vN 32 x6.sum.l) fun x7 =>
  ob (vN 32 a1) fun x8 =>
  bif (x6.sum.l == a1) then (
   some (.inr (.inr s1))
  ) else (
   ob (arI .i64 (s1 + 1)) fun x10 =>
   some (.inl x10)
  )
 ) else (
  some (.inr (.inl ()))
 )
noncomputable def gm (a0 : List Ob) (a1 : zBz) : Option Int :=
 ob ((
  cP (dp a0 a1) 0
  : Option (Unit ⊕ Int))) fun o12 => match o12 with
 | .inl v11 => (
  some (-1)
  )
 | .inr e13 => some e13
set_option maxHeartbeats 4000000 in
theorem qo {a0 : List Ob} {a1 : zBz} {r : Int} (h : gm a0 a1 = some r) : aj Tryd.prog HG 30 [.list 33 (a0.map Ob.row) false, .agg 32 (ay a1)] (.i r) := by
 unfold gm at h; refine aj.of Tryd.func30 rfl Tryd.ntmps30 (by simp) ?_; intro F hF h0 hT; show Sm F _ _ ⟨[(0, .d (.list 33 (a0.map Ob.row) false)), (1, .d (.agg 32 (ay a1)))], [], 0⟩; refine sr hF ?_; refine pY hF GJ ?_; refine gv hF oA (sn (Sm.seq ?_)); obtain ⟨o12, ho12, h⟩ := aq h; rcases zo o12 with ⟨e13, rfl⟩ | ⟨v11, rfl⟩
 ·have he13 := aZ h; subst he13; replace h := ho12; refine sr hF (gv hF oA (sn (Sm.block ?_))); refine eH (dp a0 a1) (fun s1 => ⟨[(0, .d (.list 33 (a0.map Ob.row) false)), (3, .d (.ptr 32 (ay a1))), (5, .i s1)], [], 0⟩) 0 h (kA) ?_; intro n2 s1 o3 h hd4; unfold dp at h; refine Sm.seq (sr hF (gv hF oM (gv hF oM (gv hF (oN (eN u24)) (gv hF (oB (gc)) (sn ?_)))))); refine cN hF rfl (fun hc5 => ?_) (fun hc5 => ?_)
  ·replace h := ifF hc5 h; refine Sm.exit ?_; replace h := bX h hd4; cases h
  replace h := ifT hc5 h; refine sk (Sm.seq (Sm.block (Sm.seq ?_))); refine dG hF 6 ?_; refine hv hF oM (hv hF oM ?_); obtain ⟨x6, hx6, h⟩ := aq h; refine hv hF (oI (eM u24 fP hx6)) (hv hF (oF (gr Fl rfl)) (hv hF (x := .d (.agg 32 (ay x6.sum.l))) (oL (kl mC nP rfl (Gl x6))) (hv hF (x := .d (.agg 32 (ay a1))) (oL (kl mC nP rfl rfl)) ?_))); refine hE ?_; obtain ⟨x7, hx7, h⟩ := aq h; obtain ⟨x8, hx8, h⟩ := aq h; refine gv hF (jQ rfl rfl rfl (vj (by kernel_rfl) (by kernel_rfl) (wu hx7) (wu hx8))) (sn ?_); refine cN hF rfl (fun hc9 => ?_) (fun hc9 => ?_)
  ·replace h := ifF hc9 h; refine Sm.skip ?_; refine aH (aa ?_); refine ab hF rfl ?_; refine gv hF oM ?_; obtain ⟨x10, hx10, h⟩ := aq h; refine gv hF (oB (dZ hx10)) (gv hF oA (SmG.nil ?_)); exact fc (dQ h hd4) (kA)
  replace h := ifT hc9 h; refine sr hF (gv hF oM (gv hF oA (sn (Sm.ret ?_)))); replace h := bX h hd4; replace h := te h; obtain rfl := aZ h; exact lD rfl rfl
 refine gE ⟨[], [], 0⟩ ?_ ?_
 ·refine Sm.seq ?_; refine ab hF rfl ?_; refine gv hF oA (sn (Sm.ret ?_)); obtain rfl := aZ h; exact lD rfl rfl
 replace h := ho12; refine sr hF (gv hF oA (sn (Sm.block ?_))); refine eH (dp a0 a1) (fun s1 => ⟨[(0, .d (.list 33 (a0.map Ob.row) false)), (3, .d (.ptr 32 (ay a1))), (5, .i s1)], [], 0⟩) 0 h (kA) ?_; intro n2 s1 o3 h hd4; unfold dp at h; refine Sm.seq (sr hF (gv hF oM (gv hF oM (gv hF (oN (eN u24)) (gv hF (oB (gc)) (sn ?_)))))); refine cN hF rfl (fun hc5 => ?_) (fun hc5 => ?_)
 ·replace h := ifF hc5 h; refine Sm.exit ?_; replace h := bX h hd4; obtain rfl := aZ (tc h); exact (kA)
 replace h := ifT hc5 h; refine sk (Sm.seq (Sm.block (Sm.seq ?_))); refine dG hF 6 ?_; refine hv hF oM (hv hF oM ?_); obtain ⟨x6, hx6, h⟩ := aq h; refine hv hF (oI (eM u24 fP hx6)) (hv hF (oF (gr Fl rfl)) (hv hF (x := .d (.agg 32 (ay x6.sum.l))) (oL (kl mC nP rfl (Gl x6))) (hv hF (x := .d (.agg 32 (ay a1))) (oL (kl mC nP rfl rfl)) ?_))); refine hE ?_; obtain ⟨x7, hx7, h⟩ := aq h; obtain ⟨x8, hx8, h⟩ := aq h; refine gv hF (jQ rfl rfl rfl (vj (by kernel_rfl) (by kernel_rfl) (wu hx7) (wu hx8))) (sn ?_); refine ek hF rfl (fun hc9 => ?_) (fun hc9 => ?_)
 ·replace h := ifT hc9 h; refine sr hF (gv hF oM (gv hF oA (sn (Sm.ret ?_)))); replace h := bX h hd4; cases h
 replace h := ifF hc9 h; refine Sm.skip ?_; refine aH (aa ?_); refine ab hF rfl ?_; refine gv hF oM ?_; obtain ⟨x10, hx10, h⟩ := aq h; refine gv hF (oB (dZ hx10)) (gv hF oA (SmG.nil ?_)); exact fc (dQ h hd4) (kA)
noncomputable def hU (a0 : List Ob) (a1 : Int) : Option (List Ob) :=
 ob (slc a0 0 a1) fun x1 =>
 ob (app ([] : List Ob) x1) fun x2 =>
 ob (arI .i64 (a1 + 1)) fun x3 =>
 ob (slc a0 x3 (a0.length : Int)) fun x4 =>
 ob (app x2 x4) fun x5 =>
 some x5
set_option maxHeartbeats 4000000 in
theorem nX {a0 : List Ob} {a1 : Int} {r : List Ob} (h : hU a0 a1 = some r) : cj Tryd.prog HG 51 [.list 33 (a0.map Ob.row) false, .i a1] .one 33 (r.map Ob.row) [] := by
 unfold hU at h; refine cj.of Tryd.func51 rfl Tryd.ntmps51 (by simp) ?_; intro F hF h0 hT; show Sm F _ _ ⟨[(0, .d (.list 33 (a0.map Ob.row) false)), (1, .i a1)], [], 0⟩; refine sr hF (gv hF oA (sn (sr hF (gv hF (x := .d (.list 33 (([] : List Ob).map Ob.row) true)) (oS (tK u24 fP)) (gv hF oM (gv hF oM ?_)))))); obtain ⟨x1, hx1, h⟩ := aq h; refine gv hF (bC rfl rfl rfl rfl rfl (Ee u24 fP hx1)) ?_; obtain ⟨x2, hx2, h⟩ := aq h; refine SmG.appendFreshL hF rT rfl (ys := x1) (row := Ob.row) rfl rfl rfl rfl rfl rfl rfl (.inl rfl) hx2 ?_; refine gv hF oA (sn (sr hF (gv hF oM (gv hF oM (gv hF oM ?_))))); obtain ⟨x3, hx3, h⟩ := aq h; refine gv hF (oB (dZ hx3)) ?_; obtain ⟨x4, hx4, h⟩ := aq h; refine gv hF (bC rfl rfl rfl rfl rfl (Ef u24 fP hx4)) ?_; obtain ⟨x5, hx5, h⟩ := aq h; refine gW hF rT rfl (ys := x4) (row := Ob.row) rfl rfl rfl rfl rfl rfl rfl rfl (.inl rfl) hx5 (by (repeat' first | exact my _ | refine ln ?_ | refine cV ?_ (iZ _ _ _) | refine cV ?_ (iZ _ _ [_]) | refine cV ?_ (nC (by rfl)))) ?_; refine gv hF oA (sn (Sm.ret ?_)); obtain rfl := aZ h; exact mb 0 rfl rfl rfl
theorem Du (l : List Ob) (k : Vec 32) (hl : l.length <= 4294967296) : gm l k.l = some (cG l k.l) := by
 unfold gm; refine Ok.get ?_; refine Ok.bind (P := fun o => o = match aP l k.l with | some i => .inr (i : Int) | none => .inl ()) ?_ ?_
 ·refine Ok.loop (fun s : Int => ∃ i : Nat, s = i /\ i <= l.length /\ ∀ j x, j < i -> l[j]? = some x -> ¬ (x.sum.l = k.l)) (fun s : Int => l.length - s.toNat) ⟨0, rfl, by omega, fun j x h => by omega⟩ ?_; rintro _ ⟨i, rfl, h1, h2⟩; unfold dp; refine Ok.cond (fun c => ?_) fun c => Ok.ret ?_
  ·simp only [decide_eq_true_eq] at c; have hx : l[i]? = some (l[i]'(by omega)) := List.getElem?_eq_getElem _; generalize l[i]'(by omega) = x at hx; rw [eT, hx, aw, CD x.sum.h, aw, CD k.h, aw]; refine Ok.cond (fun c2 => Ok.ret ?_) fun c2 => ?_
   ·have hf : aP l k.l = some i := by
     unfold aP; rw [List.findIdx?_eq_some_iff_getElem]; refine ⟨by omega, ?_, fun j hj => ?_⟩
     ·rw [List.getElem?_eq_getElem (by omega)] at hx; rw [Option.some.inj hx]; exact c2
     ·have := h2 j _ hj (List.getElem?_eq_getElem (by omega)); simpa using this
    simp only [hf]
   ·rw [bZ (by omega), aw]; refine Ok.ret ⟨⟨i + 1, by omega, by omega, fun j y hj hy => ?_⟩, by omega⟩; by_cases e : j = i
    ·subst e; rw [hx] at hy; cases hy; simpa using c2
    ·exact h2 j y (by omega) hy
  ·simp only [decide_eq_false_iff_not] at c; have hf : aP l k.l = none := by
    unfold aP; rw [List.findIdx?_eq_none_iff]; intro x hx; obtain ⟨j, hj, e⟩ := List.getElem_of_mem hx; have := h2 j x (by omega) (by rw [List.getElem?_eq_getElem hj, e]); simpa using this
   simp only [hf]
 ·rintro o rfl; unfold cG; cases aP l k.l <;> exact Ok.ret rfl
theorem uk (l : List Ob) (k : Vec 32) (hl : l.length <= 4294967296) : aj Tryd.prog HG 30 [.list 33 (l.map Ob.row) false, .agg 32 (ay k.l)] (.v (.int .i64 (cG l k.l))) := qo (Du l k hl)
theorem tV (l : List Ob) (i : Nat) (hl : l.length <= 1000000) (hi : i < l.length) : cj Tryd.prog HG 51 [.list 33 (l.map Ob.row) false, .v (.int .i64 i)] .one 33 ((l.eraseIdx i).map Ob.row) [] := by
 refine nX (a0 := l) (a1 := (i : Int)) (r := l.eraseIdx i) ?_; unfold hU; rw [kJ (by omega), aw, eI (by simp; omega), aw, bZ (by omega), aw, kJ (by omega), aw, eI (by simp; omega), aw]; have e : ((i : Int) + 1).toNat = i + 1 := by omega
 simp [e, List.eraseIdx_eq_take_drop_succ]
end
section
def fB (objs : List Ob) (n : Nat) (r : Rcd) : Option (List Ob) :=
 if r.ok = true /\ r.n = (n : Int) /\ (r.kind.toNat = 80 ↔ aP objs r.sum.l = none) /\ ¬ (r.kind.toNat = 80 /\ 256 <= objs.length) then
  (if r.kind.toNat = 80 then some (objs ++ [⟨r.sum, r.data⟩]) else (aP objs r.sum.l).map fun i => objs.eraseIdx i)
 else none
theorem gx (objs : List Ob) (n : Nat) : fB objs n xk = none := by
 unfold fB; rw [if_neg]; rintro ⟨h, _⟩; cases h
theorem Iw (objs : List Ob) (n : Nat) (B : zBz) (hB : 9 <= B.length) : rN objs n B = fB objs n (mV B) := by
 obtain ⟨kind, r1, rfl⟩ : ∃ kind r1, B = kind :: r1 := by
  cases B with
  | nil => simp at hB
  | cons a l => exact ⟨a, l, rfl⟩
 have hr1 : 8 <= r1.length := by simp at hB; omega
 have hBl : (kind :: r1).length = r1.length + 1 := rfl; have hk : (kind :: r1).getD 0 0 = kind := rfl; have h5 : (kind :: r1).drop 5 = r1.drop 4 := rfl; have h1 : (kind :: r1).drop 1 = r1 := rfl; have h9 : (kind :: r1).drop 9 = (r1.drop 4).drop 4 := by rw [List.drop_drop]; rfl
 have hG80 : kind.toNat = 80 -> be ((r1.drop 4).take 4) + 9 = r1.length + 1 -> r1.length + 1 <= 65545 -> mV (kind :: r1) = ⟨true, kind, (be (r1.take 4) : Nat), (r1.drop 4).drop 4, ee ((r1.drop 4).drop 4)⟩ := fun a b c => by
  unfold mV; rw [hk, h5, h1, h9, hBl, if_pos ⟨a, b, c⟩]
 have hG68 : kind.toNat = 68 -> r1.length + 1 = 37 -> mV (kind :: r1) = ⟨true, kind, (be (r1.take 4) : Nat), [], tD (r1.drop 4)⟩ := fun a b => by
  unfold mV; rw [hk, h5, h1, h9, hBl, if_neg (by omega), if_pos ⟨a, b⟩]
 have hGno : ¬ (kind.toNat = 80 /\ be ((r1.drop 4).take 4) + 9 = r1.length + 1 /\ r1.length + 1 <= 65545) -> ¬ (kind.toNat = 68 /\ r1.length + 1 = 37) -> mV (kind :: r1) = xk := fun a b => by
  unfold mV; rw [hk, h5, h1, h9, hBl, if_neg a, if_neg b]
 rw [eG, if_neg (by omega)]; have hl4 : (r1.drop 4).length = r1.length - 4 := by simp
 have hl8 : ((r1.drop 4).drop 4).length = r1.length - 8 := by simp only [List.length_drop]; omega
 by_cases cn : be (r1.take 4) = n
 ·rw [if_neg (by simp [cn])]; unfold gk; by_cases k80 : kind.toNat = 80
  ·rw [if_pos k80]; by_cases c1 : (r1.drop 4).length < 4 \/ (r1.drop 4).length - 4 < be ((r1.drop 4).take 4)
   ·rw [if_pos c1, hGno (by omega) (by omega), gx]
   ·rw [if_neg c1]; unfold gF; have hd : (((r1.drop 4).drop 4).drop (be ((r1.drop 4).take 4))).length = r1.length - 8 - be ((r1.drop 4).take 4) := by rw [List.length_drop, hl8]
    by_cases c2 : be ((r1.drop 4).take 4) + 9 = r1.length + 1
    ·have hx : ((r1.drop 4).drop 4).take (be ((r1.drop 4).take 4)) = (r1.drop 4).drop 4 := List.take_of_length_le (by omega); rw [if_neg (by rw [hd]; omega), hx]; by_cases c3 : r1.length + 1 <= 65545
     ·rw [hG80 k80 c2 c3]; unfold fB; simp only [k80, true_and, true_iff, if_true, cn]; have hs : (ee ((r1.drop 4).drop 4)).l = Sha.sum ((r1.drop 4).drop 4) := rfl; rw [hs]; by_cases c4 : aP objs (Sha.sum ((r1.drop 4).drop 4)) = none /\ objs.length < 256
      ·rw [if_pos ⟨by omega, c4⟩, if_pos ⟨c4.1, by omega⟩]
      ·rw [if_neg (fun h => c4 h.2), if_neg (fun h => c4 ⟨h.1, by omega⟩)]
     ·rw [if_neg (fun h => by have := h.1; omega), hGno (by omega) (by omega), gx]
    ·rw [if_pos (by rw [hd]; omega), hGno (by omega) (by omega), gx]
  ·rw [if_neg k80]; by_cases k68 : kind.toNat = 68
   ·rw [if_pos k68]; by_cases c1 : (r1.drop 4).length < 32
    ·rw [if_pos c1, hGno (by omega) (by omega), gx]
    ·rw [if_neg c1]; unfold fQ; have hd : ((r1.drop 4).drop 32).length = r1.length - 36 := by rw [List.length_drop, hl4]; omega
     by_cases c2 : r1.length + 1 = 37
     ·have hx : (r1.drop 4).take 32 = r1.drop 4 := List.take_of_length_le (by omega); rw [if_neg (by rw [hd]; omega), hx, hG68 k68 c2]; have hv : (tD (r1.drop 4)).l = r1.drop 4 := by unfold tD; rw [dif_pos (by omega)]
      unfold fB; simp only [hv, cn, k80, false_iff, false_and, not_false_eq_true, and_true, true_and, if_false]; cases aP objs (r1.drop 4) with
      | none => simp
      | some i => simp
     ·rw [if_pos (by rw [hd]; omega), hGno (by omega) (by omega), gx]
   ·rw [if_neg k68, hGno (by omega) (by omega), gx]
 ·rw [if_pos (by exact cn)]; symm; unfold fB; rw [if_neg]; rintro ⟨g1, g2, _⟩; by_cases a : kind.toNat = 80 /\ be ((r1.drop 4).take 4) + 9 = r1.length + 1 /\ r1.length + 1 <= 65545
  ·rw [hG80 a.1 a.2.1 a.2.2] at g2; simp at g2; omega
  ·by_cases b : kind.toNat = 68 /\ r1.length + 1 = 37
   ·rw [hG68 b.1 b.2] at g2; simp at g2; omega
   ·rw [hGno a b] at g1; cases g1
theorem Kr (objs : List Ob) (n : Nat) (b : zBz) : bx objs n b = fB objs n (wa b) := by
 unfold bx wa; by_cases c1 : b.length < 41
 ·rw [if_pos c1, gx]; by_cases c0 : b.length < 32
  ·rw [if_pos c0]
  ·rw [if_neg c0]; split
   ·rfl
   ·have hl : (b.take (b.length - 32)).length <= 8 := by simp; omega
    generalize b.take (b.length - 32) = B at hl; cases B with
    | nil => rfl
    | cons k r =>
     have hr : r.length <= 7 := by simp at hl; omega
     rw [eG]; split
     ·rfl
     split
     ·rfl
     unfold gk; have hd : (r.drop 4).length <= 3 := by simp; omega
     split
     ·rw [if_pos (by omega)]
     ·split
      ·rw [if_pos (by omega)]
      ·rfl
 ·rw [if_neg c1, if_neg (by omega)]; by_cases c2 : Sha.sum (b.take (b.length - 32)) ≠ b.drop (b.length - 32)
  ·rw [if_pos c2, if_pos c2, gx]
  ·rw [if_neg c2, if_neg c2]; exact Iw objs n _ (by simp; omega)
end
section
theorem Dm (sz : Nat) (rows : zRz) : (dB sz rows).sz = sz := rfl
section
variable {h : zHz} {l : Nat} {r : Rcd}
theorem lW (hl : look h l = some ⟨36, [r.row.map V.d]⟩) : aX Tryd.prog h 4 (.ref l 0 0) = some (.d (.v (.bool r.ok))) := by
 simp only [aX, hl, Option.bind_some, List.getElem?_cons_zero, cA, ag4]; rfl
theorem fT (hl : look h l = some ⟨36, [r.row.map V.d]⟩) : aX Tryd.prog h 5 (.ref l 0 1) = some (.d (.v (.int .u8 (r.kind.toNat : Int)))) := by
 simp only [aX, hl, Option.bind_some, List.getElem?_cons_zero, cA, ag5]; rfl
theorem pK (hl : look h l = some ⟨36, [r.row.map V.d]⟩) : aX Tryd.prog h 3 (.ref l 0 2) = some (.d (.v (.int .i64 r.n))) := by
 simp only [aX, hl, Option.bind_some, List.getElem?_cons_zero, cA, ag3]; rfl
theorem DI (hl : look h l = some ⟨36, [r.row.map V.d]⟩) : aX Tryd.prog h 30 (.ref l 0 3) = some (.d (.list 1 (r.data.map ai) false)) := by
 simp only [aX, hl, Option.bind_some, List.getElem?_cons_zero, cA, CP]; rfl
theorem ya (hl : look h l = some ⟨36, [r.row.map V.d]⟩) : aX Tryd.prog h 42 (.ref l 0 4) = some (.d (.agg 32 (ay r.sum.l))) := by
 have hsl : (ay r.sum.l).length = 32 := cq r.sum.h; have hs : seg (r.row.map V.d) 36 4 32 = (ay r.sum.l).map V.d := by
  unfold seg; rw [if_neg (by decide), <- List.map_drop, <- List.map_take]
  congr 1
  simp only [Rcd.row, List.cons_append, List.nil_append, List.drop_succ_cons, List.drop_zero]; exact List.take_of_length_le (by omega)
 have hp : bw ((ay r.sum.l).map V.d) = some (ay r.sum.l) := gK _; simp only [aX, hl, Option.bind_some, List.getElem?_cons_zero, cA, mC, nP, hs, hp]; rfl
end
theorem EY (n sz : Nat) (rows : zRz) : ∀ r ∈ (dB sz rows).rows, ∀ y ∈ r, V.lt n y = true /\ y.noGh = true := by
 intro r hr y hy; obtain ⟨r0, _, rfl⟩ := List.mem_map.1 hr; obtain ⟨d, _, rfl⟩ := List.mem_map.1 hy; exact ⟨rfl, rfl⟩
theorem Me {F : Fr} (h0 : F.n0 = 0) (hgt : ∀ ds h μ C w, F.G ds h μ C w) {a b c : D} {objs' safe' : zRz} {n m : Nat} : St.to F ⟨[(0, .d a), (2, .ref 0 0 0), (3, .ref 1 0 0), (4, .d b)], [(3, dB 1 safe'), (5, dB 33 objs'), (1, ⟨3, [[.sref 5 0 n, .sref 3 0 m, .d c]]⟩), (0, ⟨3, [[.d c, .d c, .d c]]⟩)], 6⟩
  ⟨[(0, .d a), (2, .ref 0 0 0), (3, .ref 1 0 0), (4, .d b)], [(3, dB 1 safe'), (2, dB 33 objs'), (1, ⟨3, [[.sref 2 0 n, .sref 3 0 m, .d c]]⟩), (0, ⟨3, [[.d c, .d c, .d c]]⟩)], 4⟩ := by
 have hH : ∀ m' k', look ([(3, dB 1 safe'), (2, dB 33 objs'), (1, ⟨3, [[.sref 2 0 n, .sref 3 0 m, .d c]]⟩), (0, ⟨3, [[.d c, .d c, .d c]]⟩)] : zHz) m' = some k' -> m' < 4 /\ look ([(3, dB 1 safe'), (5, dB 33 objs'), (1, ⟨3, [[.sref 5 0 n, .sref 3 0 m, .d c]]⟩), (0, ⟨3, [[.d c, .d c, .d c]]⟩)] : zHz) (if m' = 2 then 5 else m') = some (k'.ren fun m => if m = 2 then 5 else m) /\ (∀ r ∈ k'.rows, ∀ y ∈ r, V.lt 4 y = true /\ y.noGh = true) := by
  intro m' k' hk; simp only [look] at hk; split at hk
  ·rename_i e; subst e; cases hk; exact ⟨by decide, by rw [rR]; rfl, EY _ _ _⟩
  split at hk
  ·rename_i e; subst e; cases hk; exact ⟨by decide, by rw [rR]; rfl, EY _ _ _⟩
  split at hk
  ·rename_i e; subst e; cases hk; refine ⟨by decide, rfl, fun r hr y hy => ?_⟩; simp at hr; subst hr; simp at hy; rcases hy with rfl | rfl | rfl <;> exact ⟨rfl, rfl⟩
  split at hk
  ·rename_i e; subst e; cases hk; refine ⟨by decide, rfl, fun r hr y hy => ?_⟩; simp at hr; subst hr; simp at hy; subst hy; exact ⟨rfl, rfl⟩
  cases hk
 refine GE (fun m => if m = 2 then 5 else m) (by omega) (by omega) ?_ hH ?_ (.inl hgt)
 ·intro t y hy; simp only [look] at hy; split at hy
  ·rename_i e; subst e; cases hy; exact ⟨rfl, rfl, rfl⟩
  split at hy
  ·rename_i e; subst e; cases hy; exact ⟨rfl, rfl, rfl⟩
  split at hy
  ·rename_i e; subst e; cases hy; exact ⟨rfl, rfl, rfl⟩
  split at hy
  ·rename_i e; subst e; cases hy; exact ⟨rfl, rfl, rfl⟩
  cases hy
 ·intro m1 m2 g1 g2 e; obtain ⟨k1, hk1⟩ := Option.isSome_iff_exists.1 g1; obtain ⟨k2, hk2⟩ := Option.isSome_iff_exists.1 g2; have l1 := (hH m1 k1 hk1).1; have l2 := (hH m2 k2 hk2).1; have e : (if m1 = 2 then 5 else m1) = (if m2 = 2 then 5 else m2) := e; split at e <;> split at e <;> omega
set_option maxHeartbeats 4000000 in
theorem HH (rs : List zBz) (hrs : rs.length <= 1000000) (hb : ∀ b ∈ rs, b.length <= 1000000) : aj Tryd.prog HG 32 [.list 1 (rs.map au) false] (.agg 3 (Sto.row (cY [] [] rs))) := by
 refine uK Tryd.func32 rfl Tryd.ntmps32 (by simp) ?_; intro F hF h0 hT hgt; simp only [List.zipIdx_cons, List.zipIdx_nil, List.map_cons, List.map_nil, Nat.zero_add, Nat.reduceAdd]; refine Sm.seq ?_; refine ab hF rfl ?_; refine SmG.new hF rfl rfl rfl (aD rfl kZ) ?_; refine SmG.nil (aa (Sm.seq ?_)); refine ab hF rfl ?_; refine gv hF (bV rfl Tryd.underlying27 (by kernel_rfl) rfl KK) ?_; refine SmG.new hF rfl rfl rfl (aD rfl kZ) ?_; refine SmG.store hF rfl rfl rfl rfl rfl (eZ gM rfl rfl) ?_; refine SmG.nil (aa (Sm.seq (Sm.seq ?_))); refine ab hF rfl ?_; refine gv hF oA (SmG.nil (aa (Sm.block ?_))); simp only [rep, Nat.zero_add, Nat.reduceEqDiff, if_true, if_false]; refine pX 1 0 0 33 rfl rfl rfl ?_; refine pX 1 0 1 1 rfl rfl rfl ?_; refine Sm.loop (ι := {s : Sto // s.queue = [] /\ s.objects.length <= 256 /\ s.safe.length <= rs.length /\ cY [] [] rs = cY s.objects s.safe (rs.drop s.safe.length)}) (fun s => ⟨[(0, .d (.list 1 (rs.map au) false)), (2, .ref 0 0 0), (3, .ref 1 0 0), (4, .d (.v (.int .i64 s.1.safe.length)))], [(3, dB 1 (s.1.safe.map au)), (2, dB 33 (s.1.objects.map Ob.row)), (1, ⟨3, [[.sref 2 0 s.1.objects.length, .sref 3 0 s.1.safe.length, .d (.list 0 [] true)]]⟩), (0, ⟨3, [[.d (.list 0 [] true), .d (.list 0 [] true), .d (.list 0 [] true)]]⟩)], 4⟩) (fun s => rs.length - s.1.safe.length) (⟨⟨[], [], []⟩, rfl, by decide, by simp, by simp⟩) ?_ ?_
 ·exact aJ ⟨rfl, rfl, rfl, rfl, trivial⟩ ⟨rfl, rfl, rfl, rfl, trivial⟩ (Nat.le_refl _)
 rintro ⟨⟨objs, safe, queue⟩, hq, ho, hs, heq⟩; simp only at hq ho hs heq ⊢; have hfrz : ∀ (nx : Nat), St.to F ⟨[(2, .ref 0 0 0), (3, .ref 1 0 0)], [(3, dB 1 (safe.map au)), (2, dB 33 (objs.map Ob.row)), (1, ⟨3, [[.sref 2 0 objs.length, .sref 3 0 safe.length, .d (.list 0 [] true)]]⟩), (0, ⟨3, [[.d (.list 0 [] true), .d (.list 0 [] true), .d (.list 0 [] true)]]⟩)], nx⟩ ⟨[(2, .ref 0 0 0), (3, .ref 1 0 0)], [(1, ⟨3, [[.d (.list 33 (objs.map Ob.row) false), .d (.list 1 (safe.map au) false), .d (.list 0 [] true)]]⟩), (0, ⟨3, [[.d (.list 0 [] true), .d (.list 0 [] true), .d (.list 0 [] true)]]⟩)], nx⟩ := fun nx => by
  have h := fF (F := F) (st := ⟨[(2, .ref 0 0 0), (3, .ref 1 0 0)], [(3, dB 1 (safe.map au)), (2, dB 33 (objs.map Ob.row)), (1, ⟨3, [[.sref 2 0 objs.length, .sref 3 0 safe.length, .d (.list 0 [] true)]]⟩), (0, ⟨3, [[.d (.list 0 [] true), .d (.list 0 [] true), .d (.list 0 [] true)]]⟩)], nx⟩) (l := 2) (objs.map Ob.row) rfl rfl; have h2 := fF (F := F) (st := ⟨[(2, .ref 0 0 0), (3, .ref 1 0 0)], [(3, dB 1 (safe.map au)), (1, ⟨3, [[.d (.list 33 (objs.map Ob.row) false), .sref 3 0 safe.length, .d (.list 0 [] true)]]⟩), (0, ⟨3, [[.d (.list 0 [] true), .d (.list 0 [] true), .d (.list 0 [] true)]]⟩)], nx⟩) (l := 3) (safe.map au) rfl rfl; refine aU (st' := ⟨[(2, .ref 0 0 0), (3, .ref 1 0 0)], [(3, dB 1 (safe.map au)), (1, ⟨3, [[.d (.list 33 (objs.map Ob.row) false), .sref 3 0 safe.length, .d (.list 0 [] true)]]⟩), (0, ⟨3, [[.d (.list 0 [] true), .d (.list 0 [] true), .d (.list 0 [] true)]]⟩)], nx⟩) ?_ ?_
  ·simp only [ic, bO, dn, ta, Dm, reduceIte, Nat.reduceEqDiff] at h; simpa [cQ, bf, cE] using h
  ·simp only [ic, bO, dn, ta, Dm, reduceIte, Nat.reduceEqDiff] at h2; simpa [cQ, bf, cE] using h2
 by_cases hlt : safe.length < rs.length
 ·obtain ⟨b, hbi⟩ : ∃ b, rs[safe.length]? = some b := ⟨rs[safe.length], by simp⟩
  have hbl : b.length <= 1000000 := hb b (List.mem_of_getElem? hbi); have hdr : rs.drop safe.length = b :: rs.drop (safe.length + 1) := by
   rw [List.drop_eq_getElem_cons hlt]
   congr 1
   rw [List.getElem?_eq_getElem hlt] at hbi; exact Option.some.inj hbi
  have cread := Ga b hbl; have hstep := Kr objs safe.length b; generalize wa b = r at cread hstep; refine Sm.seq (Sm.seq ?_); refine ab hF rfl ?_; refine gv hF oM (gv hF oM ?_); refine gv hF (aK rfl rfl (by simp only [go_sem, hbi, au, aB, ac] <;> rfl)) ?_; refine gv hF (ag rfl rfl rfl (by exact dE _ _ _ _ _ (by omega))) ?_; refine SmG.nil (aa ?_); refine bc hF rfl ?_; refine Sm.skip ?_; refine aa (Sm.seq (Sm.block (Sm.seq ?_))); refine ab hF rfl ?_; refine gv hF oM (gv hF oM ?_); refine gv hF (ak rfl rfl rfl (by simp only [go_sem, hbi, au, aB, ac] <;> rfl)) ?_; refine gv hF (ae rfl rfl (by simp only [go_sem, hbi, au, aB, ac] <;> rfl)) ?_; refine SmG.call hF rfl rfl (by kernel_rfl) rfl rfl rfl (cread) ?_; refine SmG.new hF rfl rfl rfl (aD rfl CS) ?_; refine SmG.store hF rfl rfl rfl rfl rfl (eZ gN rfl rfl) ?_; refine SmG.nil (aa (Sm.seq ?_)); simp only [rep, if_true]; refine Sm.to (cD (st' := ⟨[(0, .d (.list 1 (rs.map au) false)), (2, .ref 0 0 0), (3, .ref 1 0 0), (4, .d (.v (.int .i64 safe.length))), (5, .ref 4 0 0)], [(4, ⟨36, [r.row.map V.d]⟩), (3, dB 1 (safe.map au)), (2, dB 33 (objs.map Ob.row)), (1, ⟨3, [[.sref 2 0 objs.length, .sref 3 0 safe.length, .d (.list 0 [] true)]]⟩), (0, ⟨3, [[.d (.list 0 [] true), .d (.list 0 [] true), .d (.list 0 [] true)]]⟩)], 5⟩) (aJ ⟨rfl, rfl, rfl, rfl, rfl, trivial⟩ ⟨rfl, rfl, rfl, rfl, rfl, trivial⟩ (Nat.le_refl _))) ?_; refine ab hF rfl ?_; refine gv hF (af rfl rfl (by simp only [go_sem, ac] <;> rfl)) ?_; refine gv hF (ae rfl rfl (by simp only [go_sem, ac] <;> rfl)) ?_; refine gv hF (af rfl rfl (by simp only [go_sem, ac] <;> rfl)) ?_; refine gv hF (ae rfl rfl (ya rfl)) ?_; refine nl hF (l := 2) (objs.map Ob.row) rfl rfl (by kernel_rfl) rfl rfl rfl (by simp only [cQ, bf]; simp; rfl) (uk objs r.sum (by omega)) (KP _) ?_; refine gv hF oA (SmG.nil (aa (Sm.seq (Sm.seq ?_)))); have hdone : bx objs safe.length b = none -> cY [] [] rs = ⟨objs, safe, []⟩ := fun h => by
   rw [heq, hdr]; unfold cY; rw [h]
  cases hok : r.ok
  ·
   refine ab hF rfl ?_; refine gv hF (af rfl rfl (by simp only [go_sem, ac] <;> rfl)) ?_; refine gv hF (ae rfl rfl ((lW rfl).trans (by rw [hok]))) ?_; refine gv hF (dI rfl rfl (by exact tq _)) ?_; refine gv hF oM ?_; refine gp hF ?_; refine gp hF ?_; refine gp hF ?_; refine gp hF ?_; refine gv hF (aL rfl rfl rfl) ?_; refine gv hF oM ?_; refine gp hF ?_; refine gp hF ?_; refine gp hF ?_; refine gp hF ?_; refine gp hF ?_; refine gp hF ?_; refine gv hF (aL rfl rfl rfl) ?_; refine gv hF oM ?_; refine gp hF ?_; refine gp hF ?_; refine gp hF ?_; refine gp hF ?_; refine gp hF ?_; refine gp hF ?_; refine gp hF ?_; refine gp hF ?_; refine gp hF ?_; refine gv hF (aL rfl rfl rfl) ?_; refine SmG.nil (aa ?_); refine bc hF rfl ?_; refine Sm.seq ?_; refine Sm.to (aU (cD (st' := ⟨[(2, .ref 0 0 0), (3, .ref 1 0 0)], [(3, dB 1 (safe.map au)), (2, dB 33 (objs.map Ob.row)), (1, ⟨3, [[.sref 2 0 objs.length, .sref 3 0 safe.length, .d (.list 0 [] true)]]⟩), (0, ⟨3, [[.d (.list 0 [] true), .d (.list 0 [] true), .d (.list 0 [] true)]]⟩)], 5⟩) (aJ ⟨rfl, rfl, trivial⟩ ⟨rfl, rfl, rfl, rfl, trivial⟩ (Nat.le_refl _))) (hfrz 5)) ?_; refine ab hF rfl ?_; refine gv hF (ae rfl rfl (cJ rfl)) ?_; refine SmG.store hF rfl rfl rfl rfl rfl (eZ gM rfl rfl) ?_; refine SmG.nil (aa (Sm.ret ?_)); simp only [ba, bJ]; refine cL rfl rfl (gT gM mB rfl) ?_; rw [hdone (by rw [hstep]; unfold fB; rw [if_neg]; rintro ⟨g1, g2, g3, g4⟩; rw [hok] at g1; cases g1)]; exact fE ⟨D.le.refl _, D.le.refl _, bN 0 1 true, trivial⟩
  by_cases hn : ¬ r.n = (safe.length : Int)
  ·
   refine ab hF rfl ?_; refine gv hF (af rfl rfl (by simp only [go_sem, ac] <;> rfl)) ?_; refine gv hF (ae rfl rfl ((lW rfl).trans (by rw [hok]))) ?_; refine gv hF (dI rfl rfl (by exact ff _)) ?_; refine gv hF oM ?_; refine gv hF (af rfl rfl (by simp only [go_sem, ac] <;> rfl)) ?_; refine gv hF (ae rfl rfl (pK rfl)) ?_; refine gv hF oM ?_; refine gv hF (ag rfl rfl rfl (by exact ne _ _ _ _ _ (by omega))) ?_; refine gv hF (aR rfl rfl rfl) ?_; refine gv hF oM ?_; refine gp hF ?_; refine gp hF ?_; refine gp hF ?_; refine gp hF ?_; refine gp hF ?_; refine gp hF ?_; refine gv hF (aL rfl rfl rfl) ?_; refine gv hF oM ?_; refine gp hF ?_; refine gp hF ?_; refine gp hF ?_; refine gp hF ?_; refine gp hF ?_; refine gp hF ?_; refine gp hF ?_; refine gp hF ?_; refine gp hF ?_; refine gv hF (aL rfl rfl rfl) ?_; refine SmG.nil (aa ?_); refine bc hF rfl ?_; refine Sm.seq ?_; refine Sm.to (aU (cD (st' := ⟨[(2, .ref 0 0 0), (3, .ref 1 0 0)], [(3, dB 1 (safe.map au)), (2, dB 33 (objs.map Ob.row)), (1, ⟨3, [[.sref 2 0 objs.length, .sref 3 0 safe.length, .d (.list 0 [] true)]]⟩), (0, ⟨3, [[.d (.list 0 [] true), .d (.list 0 [] true), .d (.list 0 [] true)]]⟩)], 5⟩) (aJ ⟨rfl, rfl, trivial⟩ ⟨rfl, rfl, rfl, rfl, trivial⟩ (Nat.le_refl _))) (hfrz 5)) ?_; refine ab hF rfl ?_; refine gv hF (ae rfl rfl (cJ rfl)) ?_; refine SmG.store hF rfl rfl rfl rfl rfl (eZ gM rfl rfl) ?_; refine SmG.nil (aa (Sm.ret ?_)); simp only [ba, bJ]; refine cL rfl rfl (gT gM mB rfl) ?_; rw [hdone (by rw [hstep]; unfold fB; rw [if_neg]; rintro ⟨g1, g2, g3, g4⟩; exact hn g2)]; exact fE ⟨D.le.refl _, D.le.refl _, bN 0 1 true, trivial⟩
  have hn : r.n = (safe.length : Int) := Classical.not_not.1 hn; by_cases k80 : r.kind.toNat = 80
  ·cases hfn : aP objs r.sum.l with
   | some i =>
    have hfz : cG objs r.sum.l = (i : Int) := by unfold cG; rw [hfn]
    rw [hfz]; refine ab hF rfl ?_; refine gv hF (af rfl rfl (by simp only [go_sem, ac] <;> rfl)) ?_; refine gv hF (ae rfl rfl ((lW rfl).trans (by rw [hok]))) ?_; refine gv hF (dI rfl rfl (by exact ff _)) ?_; refine gv hF oM ?_; refine gv hF (af rfl rfl (by simp only [go_sem, ac] <;> rfl)) ?_; refine gv hF (ae rfl rfl (pK rfl)) ?_; refine gv hF oM ?_; refine gv hF (ag rfl rfl rfl (by exact jc _ _ _ _ _ (by omega))) ?_; refine gv hF (aR rfl rfl rfl) ?_; refine gv hF oM ?_; refine gv hF (af rfl rfl (by simp only [go_sem, ac] <;> rfl)) ?_; refine gv hF (ae rfl rfl (fT rfl)) ?_; refine gv hF (ag rfl rfl rfl (by exact dU _ _ _ _ _ (by omega))) ?_; refine gv hF oM ?_; refine gv hF (ag rfl rfl rfl (by exact dV _ _ _ _ _ (by omega))) ?_; refine gv hF (ag rfl rfl rfl (pP _ _ _ _ (by kernel_rfl) (by exact (rfl : _ = true)))) ?_; refine gv hF (aR rfl rfl rfl) ?_; refine gv hF oM ?_; refine gp hF ?_; refine gp hF ?_; refine gp hF ?_; refine gp hF ?_; refine gp hF ?_; refine gp hF ?_; refine gp hF ?_; refine gp hF ?_; refine gp hF ?_; refine gv hF (aL rfl rfl rfl) ?_; refine SmG.nil (aa ?_); refine bc hF rfl ?_; refine Sm.seq ?_; refine Sm.to (aU (cD (st' := ⟨[(2, .ref 0 0 0), (3, .ref 1 0 0)], [(3, dB 1 (safe.map au)), (2, dB 33 (objs.map Ob.row)), (1, ⟨3, [[.sref 2 0 objs.length, .sref 3 0 safe.length, .d (.list 0 [] true)]]⟩), (0, ⟨3, [[.d (.list 0 [] true), .d (.list 0 [] true), .d (.list 0 [] true)]]⟩)], 5⟩) (aJ ⟨rfl, rfl, trivial⟩ ⟨rfl, rfl, rfl, rfl, trivial⟩ (Nat.le_refl _))) (hfrz 5)) ?_; refine ab hF rfl ?_; refine gv hF (ae rfl rfl (cJ rfl)) ?_; refine SmG.store hF rfl rfl rfl rfl rfl (eZ gM rfl rfl) ?_; refine SmG.nil (aa (Sm.ret ?_)); simp only [ba, bJ]; refine cL rfl rfl (gT gM mB rfl) ?_; rw [hdone (by rw [hstep]; unfold fB; rw [if_neg]; rintro ⟨g1, g2, g3, g4⟩; rw [g3.1 k80] at hfn; cases hfn)]; exact fE ⟨D.le.refl _, D.le.refl _, bN 0 1 true, trivial⟩
   | none =>
    have hfz : cG objs r.sum.l = -1 := by unfold cG; rw [hfn]
    rw [hfz]; by_cases c4 : 256 <= objs.length
    ·
     refine ab hF rfl ?_; refine gv hF (af rfl rfl (by simp only [go_sem, ac] <;> rfl)) ?_; refine gv hF (ae rfl rfl ((lW rfl).trans (by rw [hok]))) ?_; refine gv hF (dI rfl rfl (by exact ff _)) ?_; refine gv hF oM ?_; refine gv hF (af rfl rfl (by simp only [go_sem, ac] <;> rfl)) ?_; refine gv hF (ae rfl rfl (pK rfl)) ?_; refine gv hF oM ?_; refine gv hF (ag rfl rfl rfl (by exact jc _ _ _ _ _ (by omega))) ?_; refine gv hF (aR rfl rfl rfl) ?_; refine gv hF oM ?_; refine gv hF (af rfl rfl (by simp only [go_sem, ac] <;> rfl)) ?_; refine gv hF (ae rfl rfl (fT rfl)) ?_; refine gv hF (ag rfl rfl rfl (by exact dU _ _ _ _ _ (by omega))) ?_; refine gv hF oM ?_; refine gv hF (ag rfl rfl rfl (by exact dE _ _ _ _ _ (by omega))) ?_; refine gv hF (ag rfl rfl rfl (pP _ _ _ _ (by kernel_rfl) (by exact (rfl : _ = false)))) ?_; refine gv hF (aR rfl rfl rfl) ?_; refine gv hF oM ?_; refine gv hF (af rfl rfl (by simp only [go_sem, ac] <;> rfl)) ?_; refine gv hF (ae rfl rfl (fT rfl)) ?_; refine gv hF (ag rfl rfl rfl (by exact dU _ _ _ _ _ (by omega))) ?_; refine gv hF oM ?_; refine gv hF (af rfl rfl (by simp only [go_sem, ac] <;> rfl)) ?_; refine gv hF (ae rfl rfl (by simp only [go_sem, ac] <;> rfl)) ?_; refine gv hF (aK rfl rfl (by simp only [go_sem, ac] <;> rfl)) ?_; refine gv hF (ag rfl rfl rfl (by exact pR _ _ _ _ _ (by omega))) ?_; refine gv hF (aL rfl rfl rfl) ?_; refine gv hF (aR rfl rfl rfl) ?_; refine SmG.nil (aa ?_); refine bc hF rfl ?_; refine Sm.seq ?_; refine Sm.to (aU (cD (st' := ⟨[(2, .ref 0 0 0), (3, .ref 1 0 0)], [(3, dB 1 (safe.map au)), (2, dB 33 (objs.map Ob.row)), (1, ⟨3, [[.sref 2 0 objs.length, .sref 3 0 safe.length, .d (.list 0 [] true)]]⟩), (0, ⟨3, [[.d (.list 0 [] true), .d (.list 0 [] true), .d (.list 0 [] true)]]⟩)], 5⟩) (aJ ⟨rfl, rfl, trivial⟩ ⟨rfl, rfl, rfl, rfl, trivial⟩ (Nat.le_refl _))) (hfrz 5)) ?_; refine ab hF rfl ?_; refine gv hF (ae rfl rfl (cJ rfl)) ?_; refine SmG.store hF rfl rfl rfl rfl rfl (eZ gM rfl rfl) ?_; refine SmG.nil (aa (Sm.ret ?_)); simp only [ba, bJ]
     refine cL rfl rfl (gT gM mB rfl) ?_; rw [hdone (by rw [hstep]; unfold fB; rw [if_neg]; rintro ⟨g1, g2, g3, g4⟩; exact g4 ⟨k80, c4⟩)]; exact fE ⟨D.le.refl _, D.le.refl _, bN 0 1 true, trivial⟩
    ·have hnext : bx objs safe.length b = some (objs ++ [⟨r.sum, r.data⟩]) := by
      rw [hstep]; unfold fB; rw [if_pos ⟨hok, hn, ⟨fun _ => hfn, fun _ => k80⟩, fun h => c4 h.2⟩, if_pos k80]
     have hbo := ua r.sum r.data; refine ab hF rfl ?_; refine gv hF (af rfl rfl (by simp only [go_sem, ac, hbi, au, aB] <;> rfl)) ?_; refine gv hF (ae rfl rfl ((lW rfl).trans (by rw [hok]))) ?_; refine gv hF (dI rfl rfl (by exact ff _)) ?_; refine gv hF oM ?_; refine gv hF (af rfl rfl (by simp only [go_sem, ac, hbi, au, aB] <;> rfl)) ?_; refine gv hF (ae rfl rfl (pK rfl)) ?_; refine gv hF oM ?_; refine gv hF (ag rfl rfl rfl (by exact jc _ _ _ _ _ (by omega))) ?_; refine gv hF (aR rfl rfl rfl) ?_; refine gv hF oM ?_; refine gv hF (af rfl rfl (by simp only [go_sem, ac, hbi, au, aB] <;> rfl)) ?_; refine gv hF (ae rfl rfl (fT rfl)) ?_; refine gv hF (ag rfl rfl rfl (by exact dU _ _ _ _ _ (by omega))) ?_; refine gv hF oM ?_; refine gv hF (ag rfl rfl rfl (by exact dE _ _ _ _ _ (by omega))) ?_; refine gv hF (ag rfl rfl rfl (pP _ _ _ _ (by kernel_rfl) (by exact (rfl : _ = false)))) ?_; refine gv hF (aR rfl rfl rfl) ?_; refine gv hF oM ?_; refine gv hF (af rfl rfl (by simp only [go_sem, ac, hbi, au, aB] <;> rfl)) ?_; refine gv hF (ae rfl rfl (fT rfl)) ?_; refine gv hF (ag rfl rfl rfl (by exact dU _ _ _ _ _ (by omega))) ?_; refine gv hF oM ?_; refine gv hF (af rfl rfl (by simp only [go_sem, ac, hbi, au, aB] <;> rfl)) ?_; refine gv hF (ae rfl rfl (by simp only [go_sem, ac, hbi, au, aB] <;> rfl)) ?_; refine gv hF (aK rfl rfl (by simp only [go_sem, ac, hbi, au, aB] <;> rfl)) ?_; refine gv hF (ag rfl rfl rfl (by exact pQ _ _ _ _ _ (by omega))) ?_; refine gv hF (aL rfl rfl rfl) ?_; refine gv hF (aR rfl rfl rfl) ?_; refine SmG.nil (aa ?_); refine aN hF rfl ?_; refine Sm.skip ?_; refine aa (Sm.seq (Sm.seq ?_)); refine ab hF rfl ?_; refine gv hF (af rfl rfl (by simp only [go_sem, ac, hbi, au, aB] <;> rfl)) ?_; refine gv hF (ae rfl rfl (fT rfl)) ?_; refine gv hF (ag rfl rfl rfl (by exact dU _ _ _ _ _ (by omega))) ?_; refine SmG.nil (aa ?_); refine bc hF rfl ?_; refine ab hF rfl ?_; refine gv hF (af rfl rfl (by simp only [go_sem, ac, hbi, au, aB] <;> rfl)) ?_; refine gv hF (ae rfl rfl (by simp only [go_sem, ac, hbi, au, aB] <;> rfl)) ?_
     refine gv hF (af rfl rfl (by simp only [go_sem, ac, hbi, au, aB] <;> rfl)) ?_; refine gv hF (ae rfl rfl (ya rfl)) ?_; refine gv hF (af rfl rfl (by simp only [go_sem, ac, hbi, au, aB] <;> rfl)) ?_; refine gv hF (ae rfl rfl (DI rfl)) ?_; refine gv hF (bV rfl Tryd.underlying53 (by kernel_rfl) rfl hbo) ?_; refine gv hF (aM rfl rfl (by simp only [go_sem, ac, hbi, au, aB] <;> rfl)) ?_; rw [show objs.length = (objs.map Ob.row).length by simp]; refine jG hF rT rfl rfl rfl rfl rfl rfl rfl (by rfl) (Or.inl rfl) ?_ ?_ ?_; rotate_left; rotate_left; simp only [dh, Pk.v, V.free, rep, dn, cE, nD, lu, oz, cI, List.map_cons, List.map_nil, bne_self_eq_false, Nat.reduceAdd, Nat.reduceBNe, Nat.reduceBEq, Nat.reduceEqDiff, reduceIte, Bool.false_eq_true]
     ·refine gv hF (af rfl rfl (by simp only [go_sem, ac, hbi, au, aB] <;> rfl)) ?_; refine SmG.store hF rfl rfl rfl rfl rfl (by simp only [go_sem, ac, hbi, au, aB] <;> rfl) ?_; refine SmG.nil (aa ?_); refine du hF (by kernel_rfl) rfl 7 (by kernel_rfl) (by kernel_rfl) ?_; simp only [List.take_succ_cons, List.take_zero, List.take_nil]; refine hv hF (af rfl rfl (by simp only [go_sem, ac, hbi, au, aB] <;> rfl)) ?_; refine hv hF (ae rfl rfl (by simp only [go_sem, ac, hbi, au, aB] <;> rfl)) ?_; refine hv hF oM (hv hF oM ?_); refine hv hF (ak rfl rfl rfl (by simp only [go_sem, ac, hbi, au, aB] <;> rfl)) ?_; refine hv hF (ae rfl rfl (by simp only [go_sem, ac, hbi, au, aB] <;> rfl)) ?_; refine hv hF (aM rfl rfl (by simp only [go_sem, ac, hbi, au, aB] <;> rfl)) ?_; refine ap.last ⟨rfl, ?_⟩; simp only [List.drop_succ_cons, List.drop_zero, List.drop_nil, List.nil_append, List.cons_append]; refine jG hF ue rfl rfl rfl rfl rfl rfl rfl (by (simp; done)) (Or.inl rfl) ?_ ?_ ?_; rotate_left; rotate_left; simp only [dh, Pk.v, V.free, rep, dn, cE, nD, lu, oz, cI, List.map_cons, List.map_nil, bne_self_eq_false, Nat.reduceAdd, Nat.reduceBNe, Nat.reduceBEq, Nat.reduceEqDiff, reduceIte, Bool.false_eq_true]
      ·have hro : objs.map Ob.row ++ [Ob.row ⟨r.sum, r.data⟩] = (objs ++ [(⟨r.sum, r.data⟩ : Ob)]).map Ob.row := by simp
       have hrs2 : safe.map au ++ [[D.list 1 (b.map ai) false]] = (safe ++ [b]).map au := by simp [au, aB]
       rw [hro, hrs2, show ((objs ++ [(⟨r.sum, r.data⟩ : Ob)]).map Ob.row).length = (objs ++ [(⟨r.sum, r.data⟩ : Ob)]).length by simp, show ((safe ++ [b]).map au).length = (safe ++ [b]).length by simp]; refine gv hF (af rfl rfl (by simp only [go_sem, ac, hbi, au, aB] <;> rfl)) ?_; refine SmG.store hF rfl rfl rfl rfl rfl (by simp only [go_sem, ac, hbi, au, aB] <;> rfl) ?_; refine SmG.nil (aH (aa ?_)); refine Sm.to (aU (cD (st' := ⟨[(0, .d (.list 1 (rs.map au) false)), (2, .ref 0 0 0), (3, .ref 1 0 0), (4, .d (.v (.int .i64 safe.length)))], [(3, dB 1 ((safe ++ [b]).map au)), (2, dB 33 ((objs ++ [(⟨r.sum, r.data⟩ : Ob)]).map Ob.row)), (1, ⟨3, [[.sref 2 0 (objs ++ [(⟨r.sum, r.data⟩ : Ob)]).length, .sref 3 0 (safe ++ [b]).length, .d (.list 0 [] true)]]⟩), (0, ⟨3, [[.d (.list 0 [] true), .d (.list 0 [] true), .d (.list 0 [] true)]]⟩)], 5⟩) (aJ ⟨rfl, rfl, rfl, rfl, trivial⟩ ⟨rfl, rfl, rfl, rfl, trivial⟩ (Nat.le_refl _))) (mP 4 rfl (by (repeat' first | exact pL _ | exact nb _ _ | exact trivial | refine nJ ?_ (by decide) | refine lX ?_ (vL _ _ _) | refine pM ?_ ?_ | refine ⟨rfl, ?_⟩)) rfl (by omega))) ?_; refine ab hF rfl ?_; refine gv hF oM ?_; refine gv hF (ag rfl rfl rfl (by exact ed _ _ _ _ _ (aV _ (by omega)))) ?_; refine gv hF oA (SmG.nil (aa ?_)); have he : (safe.length : Int) + 1 = ((safe ++ [b]).length : Int) := by simp
       rw [he]; refine ⟨⟨⟨objs ++ [⟨r.sum, r.data⟩], safe ++ [b], []⟩, rfl, by simp; omega, by simp; omega, ?_⟩, by simp; omega, aJ ⟨rfl, rfl, rfl, rfl, trivial⟩ ⟨rfl, rfl, rfl, rfl, trivial⟩ (Nat.le_refl _)⟩; rw [heq, hdr, cY, hnext]; simp
      ·simp; omega
      ·simp; omega
     ·simp; omega
     ·simp; omega
  ·cases hfn : aP objs r.sum.l with
   | none =>
    have hfz : cG objs r.sum.l = -1 := by unfold cG; rw [hfn]
    rw [hfz]; refine ab hF rfl ?_; refine gv hF (af rfl rfl (by simp only [go_sem, ac] <;> rfl)) ?_; refine gv hF (ae rfl rfl ((lW rfl).trans (by rw [hok]))) ?_; refine gv hF (dI rfl rfl (by exact ff _)) ?_; refine gv hF oM ?_; refine gv hF (af rfl rfl (by simp only [go_sem, ac] <;> rfl)) ?_; refine gv hF (ae rfl rfl (pK rfl)) ?_; refine gv hF oM ?_; refine gv hF (ag rfl rfl rfl (by exact jc _ _ _ _ _ (by omega))) ?_; refine gv hF (aR rfl rfl rfl) ?_; refine gv hF oM ?_; refine gv hF (af rfl rfl (by simp only [go_sem, ac] <;> rfl)) ?_; refine gv hF (ae rfl rfl (fT rfl)) ?_; refine gv hF (ag rfl rfl rfl (by exact jS _ _ _ _ _ (by omega))) ?_; refine gv hF oM ?_; refine gv hF (ag rfl rfl rfl (by exact dE _ _ _ _ _ (by omega))) ?_; refine gv hF (ag rfl rfl rfl (pP _ _ _ _ (by kernel_rfl) (by exact (rfl : _ = true)))) ?_; refine gv hF (aR rfl rfl rfl) ?_; refine gv hF oM ?_; refine gp hF ?_; refine gp hF ?_; refine gp hF ?_; refine gp hF ?_; refine gp hF ?_; refine gp hF ?_; refine gp hF ?_; refine gp hF ?_; refine gp hF ?_; refine gv hF (aL rfl rfl rfl) ?_; refine SmG.nil (aa ?_); refine bc hF rfl ?_; refine Sm.seq ?_; refine Sm.to (aU (cD (st' := ⟨[(2, .ref 0 0 0), (3, .ref 1 0 0)], [(3, dB 1 (safe.map au)), (2, dB 33 (objs.map Ob.row)), (1, ⟨3, [[.sref 2 0 objs.length, .sref 3 0 safe.length, .d (.list 0 [] true)]]⟩), (0, ⟨3, [[.d (.list 0 [] true), .d (.list 0 [] true), .d (.list 0 [] true)]]⟩)], 5⟩) (aJ ⟨rfl, rfl, trivial⟩ ⟨rfl, rfl, rfl, rfl, trivial⟩ (Nat.le_refl _))) (hfrz 5)) ?_; refine ab hF rfl ?_; refine gv hF (ae rfl rfl (cJ rfl)) ?_; refine SmG.store hF rfl rfl rfl rfl rfl (eZ gM rfl rfl) ?_; refine SmG.nil (aa (Sm.ret ?_)); simp only [ba, bJ]; refine cL rfl rfl (gT gM mB rfl) ?_; rw [hdone (by rw [hstep]; unfold fB; rw [if_neg]; rintro ⟨g1, g2, g3, g4⟩; exact k80 (g3.2 hfn))]; exact fE ⟨D.le.refl _, D.le.refl _, bN 0 1 true, trivial⟩
   | some i =>
    have hfz : cG objs r.sum.l = (i : Int) := by unfold cG; rw [hfn]
    rw [hfz]; have hi : i < objs.length := by
     unfold aP at hfn; rw [List.findIdx?_eq_some_iff_getElem] at hfn; exact hfn.1
    have hnext : bx objs safe.length b = some (objs.eraseIdx i) := by
     rw [hstep]; unfold fB; rw [if_pos ⟨hok, hn, ⟨fun h => absurd h k80, fun h => by rw [hfn] at h; cases h⟩, fun h => k80 h.1⟩, if_neg k80, hfn]; rfl
    have ho2 : (objs.eraseIdx i).length <= 256 := by have := List.length_eraseIdx_le objs i; omega
    refine ab hF rfl ?_; refine gv hF (af rfl rfl (by simp only [go_sem, ac, hbi, au, aB] <;> rfl)) ?_; refine gv hF (ae rfl rfl ((lW rfl).trans (by rw [hok]))) ?_; refine gv hF (dI rfl rfl (by exact ff _)) ?_; refine gv hF oM ?_; refine gv hF (af rfl rfl (by simp only [go_sem, ac, hbi, au, aB] <;> rfl)) ?_; refine gv hF (ae rfl rfl (pK rfl)) ?_; refine gv hF oM ?_; refine gv hF (ag rfl rfl rfl (by exact jc _ _ _ _ _ (by omega))) ?_; refine gv hF (aR rfl rfl rfl) ?_; refine gv hF oM ?_; refine gv hF (af rfl rfl (by simp only [go_sem, ac, hbi, au, aB] <;> rfl)) ?_; refine gv hF (ae rfl rfl (fT rfl)) ?_; refine gv hF (ag rfl rfl rfl (by exact jS _ _ _ _ _ (by omega))) ?_; refine gv hF oM ?_; refine gv hF (ag rfl rfl rfl (by exact dV _ _ _ _ _ (by omega))) ?_; refine gv hF (ag rfl rfl rfl (pP _ _ _ _ (by kernel_rfl) (by exact (rfl : _ = false)))) ?_; refine gv hF (aR rfl rfl rfl) ?_; refine gv hF oM ?_; refine gv hF (af rfl rfl (by simp only [go_sem, ac, hbi, au, aB] <;> rfl)) ?_; refine gv hF (ae rfl rfl (fT rfl)) ?_; refine gv hF (ag rfl rfl rfl (by exact jS _ _ _ _ _ (by omega))) ?_; refine gv hF oM ?_; refine gp hF ?_; refine gp hF ?_; refine gp hF ?_; refine gp hF ?_; refine gv hF (aR rfl rfl rfl) ?_; refine gv hF (aR rfl rfl rfl) ?_; refine SmG.nil (aa ?_); refine aN hF rfl ?_; refine Sm.skip ?_; refine aa (Sm.seq (Sm.seq ?_)); refine ab hF rfl ?_; refine gv hF (af rfl rfl (by simp only [go_sem, ac, hbi, au, aB] <;> rfl)) ?_; refine gv hF (ae rfl rfl (fT rfl)) ?_; refine gv hF (ag rfl rfl rfl (by exact jS _ _ _ _ _ (by omega))) ?_; refine SmG.nil (aa ?_); refine aN hF rfl ?_; have hf2 : St.to F ⟨[(0, .d (.list 1 (rs.map au) false)), (2, .ref 0 0 0), (3, .ref 1 0 0), (4, .d (.v (.int .i64 safe.length))), (6, .d (.v (.int .i64 i)))], [(3, dB 1 (safe.map au)), (2, dB 33 (objs.map Ob.row)), (1, ⟨3, [[.sref 2 0 objs.length, .sref 3 0 safe.length, .d (.list 0 [] true)]]⟩), (0, ⟨3, [[.d (.list 0 [] true), .d (.list 0 [] true), .d (.list 0 [] true)]]⟩)], 5⟩ ⟨[(0, .d (.list 1 (rs.map au) false)), (2, .ref 0 0 0), (3, .ref 1 0 0), (4, .d (.v (.int .i64 safe.length))), (6, .d (.v (.int .i64 i)))], [(3, dB 1 (safe.map au)), (1, ⟨3, [[.d (.list 33 (objs.map Ob.row) false), .sref 3 0 safe.length, .d (.list 0 [] true)]]⟩), (0, ⟨3, [[.d (.list 0 [] true), .d (.list 0 [] true), .d (.list 0 [] true)]]⟩)], 5⟩ := by
     have h := fF (F := F) (st := ⟨[(0, .d (.list 1 (rs.map au) false)), (2, .ref 0 0 0), (3, .ref 1 0 0), (4, .d (.v (.int .i64 safe.length))), (6, .d (.v (.int .i64 i)))], [(3, dB 1 (safe.map au)), (2, dB 33 (objs.map Ob.row)), (1, ⟨3, [[.sref 2 0 objs.length, .sref 3 0 safe.length, .d (.list 0 [] true)]]⟩), (0, ⟨3, [[.d (.list 0 [] true), .d (.list 0 [] true), .d (.list 0 [] true)]]⟩)], 5⟩) (l := 2) (objs.map Ob.row) rfl rfl; simp only [ic, bO, dn, ta, Dm, reduceIte, Nat.reduceEqDiff] at h; simpa [cQ, bf, cE] using h
    refine Sm.to (aU (cD (st' := ⟨[(0, .d (.list 1 (rs.map au) false)), (2, .ref 0 0 0), (3, .ref 1 0 0), (4, .d (.v (.int .i64 safe.length))), (6, .d (.v (.int .i64 i)))], [(3, dB 1 (safe.map au)), (2, dB 33 (objs.map Ob.row)), (1, ⟨3, [[.sref 2 0 objs.length, .sref 3 0 safe.length, .d (.list 0 [] true)]]⟩), (0, ⟨3, [[.d (.list 0 [] true), .d (.list 0 [] true), .d (.list 0 [] true)]]⟩)], 5⟩) (aJ ⟨rfl, rfl, rfl, rfl, rfl, trivial⟩ ⟨rfl, rfl, rfl, rfl, trivial⟩ (Nat.le_refl _))) hf2) ?_; refine ab hF rfl ?_; refine gv hF (af rfl rfl (by simp only [go_sem, ac, hbi, au, aB] <;> rfl)) ?_; refine gv hF (ae rfl rfl (by simp only [go_sem, ac, hbi, au, aB] <;> rfl)) ?_; refine gv hF oM ?_; refine SmG.callO hF rfl rfl (by kernel_rfl) rfl rfl rfl (tV objs i (by omega) hi) ?_; refine gv hF (af rfl rfl (by simp only [go_sem, ac, hbi, au, aB] <;> rfl)) ?_; refine SmG.store hF rfl rfl rfl rfl rfl (by simp only [go_sem, ac, hbi, au, aB] <;> rfl) ?_; refine SmG.nil (aa ?_); refine du hF (by kernel_rfl) rfl 7 (by kernel_rfl) (by kernel_rfl) ?_; simp only [List.take_succ_cons, List.take_zero, List.take_nil]; refine hv hF (af rfl rfl (by simp only [go_sem, ac, hbi, au, aB] <;> rfl)) ?_; refine hv hF (ae rfl rfl (by simp only [go_sem, ac, hbi, au, aB] <;> rfl)) ?_; refine hv hF oM (hv hF oM ?_); refine hv hF (ak rfl rfl rfl (by simp only [go_sem, ac, hbi, au, aB] <;> rfl)) ?_; refine hv hF (ae rfl rfl (by simp only [go_sem, ac, hbi, au, aB] <;> rfl)) ?_; refine hv hF (aM rfl rfl (by simp only [go_sem, ac, hbi, au, aB] <;> rfl)) ?_; refine ap.last ⟨rfl, ?_⟩; simp only [List.drop_succ_cons, List.drop_zero, List.drop_nil, List.nil_append, List.cons_append]; refine jG hF ue rfl rfl rfl rfl rfl rfl rfl (by (simp; done)) (Or.inl rfl) ?_ ?_ ?_; rotate_left; rotate_left; simp only [dh, Pk.v, V.free, rep, dn, cE, nD, lu, oz, cI, List.map_cons, List.map_nil, bne_self_eq_false, Nat.reduceAdd, Nat.reduceBNe, Nat.reduceBEq, Nat.reduceEqDiff, reduceIte, Bool.false_eq_true]
    ·have hrs2 : safe.map au ++ [[D.list 1 (b.map ai) false]] = (safe ++ [b]).map au := by simp [au, aB]
     rw [hrs2, show ((objs.eraseIdx i).map Ob.row).length = (objs.eraseIdx i).length by simp, show ((safe ++ [b]).map au).length = (safe ++ [b]).length by simp]; refine gv hF (af rfl rfl (by simp only [go_sem, ac, hbi, au, aB] <;> rfl)) ?_; refine SmG.store hF rfl rfl rfl rfl rfl (by simp only [go_sem, ac, hbi, au, aB] <;> rfl) ?_; refine SmG.nil (aH (aa ?_)); refine Sm.to (aU (cD (st' := ⟨[(0, .d (.list 1 (rs.map au) false)), (2, .ref 0 0 0), (3, .ref 1 0 0), (4, .d (.v (.int .i64 safe.length)))], [(3, dB 1 ((safe ++ [b]).map au)), (5, dB 33 ((objs.eraseIdx i).map Ob.row)), (1, ⟨3, [[.sref 5 0 (objs.eraseIdx i).length, .sref 3 0 (safe ++ [b]).length, .d (.list 0 [] true)]]⟩), (0, ⟨3, [[.d (.list 0 [] true), .d (.list 0 [] true), .d (.list 0 [] true)]]⟩)], 6⟩) (aJ ⟨rfl, rfl, rfl, rfl, trivial⟩ ⟨rfl, rfl, rfl, rfl, trivial⟩ (Nat.le_refl _))) (Me h0 hgt)) ?_; refine ab hF rfl ?_; refine gv hF oM ?_; refine gv hF (ag rfl rfl rfl (by exact ed _ _ _ _ _ (aV _ (by omega)))) ?_; refine gv hF oA (SmG.nil (aa ?_)); have he : (safe.length : Int) + 1 = ((safe ++ [b]).length : Int) := by simp
     rw [he]; refine ⟨⟨⟨objs.eraseIdx i, safe ++ [b], []⟩, rfl, ho2, by simp; omega, ?_⟩, by simp; omega, aJ ⟨rfl, rfl, rfl, rfl, trivial⟩ ⟨rfl, rfl, rfl, rfl, trivial⟩ (Nat.le_refl _)⟩; rw [heq, hdr, cY, hnext]; simp
    ·simp; omega
    ·simp; omega
 ·refine Sm.seq (Sm.seq ?_); refine ab hF rfl ?_; refine gv hF oM (gv hF oM ?_); refine gv hF (aK rfl rfl (by simp only [go_sem, ac] <;> rfl)) ?_; refine gv hF (ag rfl rfl rfl (by exact dV _ _ _ _ _ (by omega))) ?_; refine SmG.nil (aa ?_); refine aN hF rfl ?_; refine Sm.exit ?_; simp only [ba, bJ, reduceIte, reduceCtorEq]; refine Sm.to (aU (cD (st' := ⟨[(2, .ref 0 0 0), (3, .ref 1 0 0)], [(3, dB 1 (safe.map au)), (2, dB 33 (objs.map Ob.row)), (1, ⟨3, [[.sref 2 0 objs.length, .sref 3 0 safe.length, .d (.list 0 [] true)]]⟩), (0, ⟨3, [[.d (.list 0 [] true), .d (.list 0 [] true), .d (.list 0 [] true)]]⟩)], 4⟩) (aJ ⟨rfl, rfl, trivial⟩ ⟨rfl, rfl, rfl, rfl, trivial⟩ (Nat.le_refl _))) (hfrz 4)) ?_; refine Sm.seq ?_; refine ab hF rfl ?_; refine gv hF (ae rfl rfl (cJ rfl)) ?_; refine SmG.store hF rfl rfl rfl rfl rfl (eZ gM rfl rfl) ?_; refine SmG.nil (aa (Sm.ret ?_)); refine cL rfl rfl (gT gM mB rfl) ?_; have : safe.length = rs.length := by omega
  rw [heq, this, List.drop_length]; exact fE ⟨D.le.refl _, D.le.refl _, bN 0 1 true, trivial⟩
end
section
open Classical in
noncomputable def eR (a : zBz) : Option (Vec 32) := if a.length <= 1000000 then some (ee a) else none
noncomputable def je : Con Tryd.prog HG nmS := ⟨47, [], [.lst .u8], .vec 32, fun a => eR a, false⟩
theorem rC {a : zBz} {r : Vec 32} (h : eR a = some r) : aj Tryd.prog HG 47 [.list 1 (a.map ai) false] (.agg 32 (ay r.l)) := by
 unfold eR at h; split at h
 ·cases h; exact ra a (by assumption) HG
 ·cases h
theorem lK : je.Ok := ⟨fun _ a r h => rC h, fun h => by cases h⟩
open Classical in
noncomputable def jp (s : Sto) (k : UInt8) (x : zBz) : Option Sto := if s.safe.length <= 1000000 /\ s.queue.length <= 1000000 /\ x.length <= 100000 then some (ml s k x) else none
theorem wR {s r : Sto} {k : UInt8} {x : zBz} (h : jp s k x = some r) : aj Tryd.prog HG 65 [.agg 3 (Sto.row s), .v (.int .u8 (k.toNat : Int)), .list 1 (x.map ai) false] (.agg 3 (Sto.row r)) := by
 unfold jp at h; split at h
 ·rename_i hc; cases h; exact FP s k x hc.1 hc.2.1 hc.2.2
 ·cases h
noncomputable def pI : Con Tryd.prog HG nmS := ⟨65, [], [.nm 1, .u8, .lst .u8], .nm 1, fun a => jp a.1 a.2.1 a.2.2, false⟩
theorem wS : pI.Ok := ⟨fun _ a r h => wR h, fun h => by cases h⟩
open Classical in
noncomputable def kj (s : Sto) (x : zBz) : Option (Sto × Vec 32 × Int) := if s.objects.length <= 1000000 /\ s.safe.length <= 1000000 /\ s.queue.length <= 1000000 /\ x.length <= 99000 then some (cZ s x) else none
theorem yL {s : Sto} {x : zBz} {r : Sto × Vec 32 × Int} (h : kj s x = some r) : aj Tryd.prog HG 40 [.agg 3 (Sto.row s), .list 1 (x.map ai) false] (.tup [.agg 3 (Sto.row r.1), .agg 32 (ay r.2.1.l), .v (.int .i64 r.2.2)]) := by
 unfold kj at h; split at h
 ·rename_i hc; cases h; exact My s x hc.1 hc.2.1 hc.2.2.1 hc.2.2.2
 ·cases h
noncomputable def rx : Con Tryd.prog HG nmS := ⟨40, [], [.nm 1, .lst .u8], .tup [.nm 1, .vec 32, .int .i64], fun a => kj a.1 a.2, false⟩
theorem yM : rx.Ok := ⟨fun _ a r h => yL h, fun h => by cases h⟩
open Classical in
noncomputable def ez (rs : List zBz) : Option Sto := if rs.length <= 1000000 /\ ∀ b ∈ rs, b.length <= 1000000 then some (cY [] [] rs) else none
theorem qp {rs : List zBz} {r : Sto} (h : ez rs = some r) : aj Tryd.prog HG 32 [.list 1 (rs.map au) false] (.agg 3 (Sto.row r)) := by
 unfold ez at h; split at h
 ·rename_i hc; cases h; exact HH rs hc.1 hc.2
 ·cases h
noncomputable def iH : Con Tryd.prog HG nmS := ⟨32, [], [.lst (.lst .u8)], .nm 1, fun a => ez a, false⟩
theorem lg : iH.Ok := ⟨fun _ a r h => qp h, fun h => by cases h⟩
noncomputable def vu : Con Tryd.prog HG nmS := ⟨14, [], [.nm 1], .bool, fun a => fG a, false⟩
theorem ov : vu.Ok := ⟨fun _ a r h => vr h, fun h => by cases h⟩
noncomputable def vm : Con Tryd.prog HG nmS := ⟨25, [], [.nm 1, .lst .bool], .nm 1, fun a => iT a.1 a.2, false⟩
theorem oq : vm.Ok := ⟨fun _ a r h => vl h, fun h => by cases h⟩
open Classical in
noncomputable def ia (l : List Ob) (k : Vec 32) : Option Int := if l.length <= 4294967296 then some (cG l k.l) else none
theorem wQ {l : List Ob} {k : Vec 32} {r : Int} (h : ia l k = some r) : aj Tryd.prog HG 58 [.list 33 (l.map Ob.row) false, .agg 32 (ay k.l)] (.v (.int .i64 r)) := by
 unfold ia at h; split at h
 ·cases h; exact sa l k (by assumption)
 ·cases h
noncomputable def lS : Con Tryd.prog HG nmS := ⟨58, [], [.lst (.nm 0), .vec 32], .int .i64, fun a => ia a.1 a.2, false⟩
theorem pH : lS.Ok := ⟨fun _ a r h => wQ h, fun h => by cases h⟩
noncomputable def mO : Con Tryd.prog HG nmS := ⟨59, [], [.lst (.nm 0), .int .i64], .lst (.nm 0), fun a => eK a.1 a.2, false⟩
theorem tG : mO.Ok := ⟨fun _ a r h => mN h, fun h => by cases h⟩
open Classical in
noncomputable def cT (n : Int) (x : zBz) : Option zBz := if 0 <= n /\ x.length <= 100000 then some (iL n.toNat x) else none
theorem mQ {n : Int} {x r : zBz} (h : cT n x = some r) : aj Tryd.prog HG 50 [.v (.int .i64 n), .list 1 (x.map ai) false] (.list 1 (r.map ai) false) := by
 unfold cT at h; split at h
 ·rename_i hc; cases h; have := BJ n.toNat x hc.2; rwa [Int.toNat_of_nonneg hc.1] at this
 ·cases h
noncomputable def jh : Con Tryd.prog HG nmS := ⟨50, [], [.int .i64, .lst .u8], .lst .u8, fun a => cT a.1 a.2, false⟩
theorem mR : jh.Ok := ⟨fun _ a r h => mQ h, fun h => by cases h⟩
open Classical in
noncomputable def cO (n : Int) (k : Vec 32) : Option zBz := if 0 <= n then some (nO n.toNat k.l) else none
theorem mI {n : Int} {k : Vec 32} {r : zBz} (h : cO n k = some r) : aj Tryd.prog HG 78 [.v (.int .i64 n), .agg 32 (ay k.l)] (.list 1 (r.map ai) false) := by
 unfold cO at h; split at h
 ·rename_i hc; cases h; have := zK n.toNat k; rwa [Int.toNat_of_nonneg hc] at this
 ·cases h
noncomputable def iQ : Con Tryd.prog HG nmS := ⟨78, [], [.int .i64, .vec 32], .lst .u8, fun a => cO a.1 a.2, false⟩
theorem mJ : iQ.Ok := ⟨fun _ a r h => mI h, fun h => by cases h⟩
end
section
noncomputable def fS : Con Tryd.prog HG nmS := ⟨33, [], [.lst (.lst (.lst .u8))], .lst (.lst .u8), fun a => bj a, false⟩
theorem kh : fS.Ok := ⟨fun _ a r h => kg h, fun h => by cases h⟩
noncomputable def tP : Option Sto :=
 some (⟨[], [], []⟩ : Sto)
theorem yJ (a : Unit) : fH (cfA [] Tryd.f11.ntmps []) [] Tryd.f11 [] [] (.nm 1) (.e) a = tP := by kernel_rfl
noncomputable def yI : Con Tryd.prog HG nmS := ⟨11, [], [], (.nm 1), fun a => tP, false⟩
theorem yK : yI.Ok := gL .nil yJ Tryd.func11 rfl
noncomputable def ki (a0 : Sto) (a1 : Vec 32) : Option (zBz × Int) :=
 ob (ia a0.objects a1) fun x1 =>
 bif (decide (x1 < 0)) then (
  some ([], 331)
 ) else (
  ob (idx a0.objects x1) fun x3 =>
  some (x3.data, 0)
 )
theorem yG (a : Sto × (Vec 32)) : fH (cfA [lS] Tryd.f44.ntmps [2, 3]) [] Tryd.f44 [] [(.nm 1), (.vec 32)] (.pair (.lst .u8) (.int .i64)) (.nj (.br .e .e)) a = ki a.1 a.2 := by kernel_rfl
noncomputable def rv : Con Tryd.prog HG nmS := ⟨44, [], [(.nm 1), (.vec 32)], (.pair (.lst .u8) (.int .i64)), fun a => ki a.1 a.2, false⟩
theorem yH : rv.Ok := gL (.cons pH .nil) yG Tryd.func44 rfl
noncomputable def iU (a0 : Sto) (a1 : Vec 32) : Option (Sto × Int) :=
 ob (ia a0.objects a1) fun x1 =>
 bif (decide (x1 < 0)) then (
  some (a0, 331)
 ) else (
  ob (jp a0 (68 : UInt8) a1.l) fun x3 =>
  ob (eK x3.objects x1) fun x4 =>
  some ((⟨x4, x3.safe, x3.queue⟩ : Sto), 0)
 )
theorem vn (a : Sto × (Vec 32)) : fH (cfA [lS, pI, mO] Tryd.f45.ntmps [3]) [] Tryd.f45 [] [(.nm 1), (.vec 32)] (.pair (.nm 1) (.int .i64)) (.nj (.br .e (.seg 2 .e))) a = iU a.1 a.2 := by kernel_rfl
noncomputable def ot : Con Tryd.prog HG nmS := ⟨45, [], [(.nm 1), (.vec 32)], (.pair (.nm 1) (.int .i64)), fun a => iU a.1 a.2, false⟩
theorem vq : ot.Ok := gL (.cons pH (.cons wS (.cons tG .nil))) vn Tryd.func45 rfl
noncomputable def dM (a0 : Sto) : Option (List zBz) :=
 ob (app ([] : List zBz) a0.safe) fun x1 =>
 ob (app x1 a0.queue) fun x2 =>
 some x2
theorem rD (a : Sto) : fH (cfA [] Tryd.f16.ntmps [1]) [(7, 2)] Tryd.f16 [] [(.nm 1)] (.lst (.lst .u8)) (.e) a = dM a := by kernel_rfl
noncomputable def jf : Con Tryd.prog HG nmS := ⟨16, [], [(.nm 1)], (.lst (.lst .u8)), fun a => dM a, false⟩
theorem lL : jf.Ok := gL .nil rD Tryd.func16 rfl
noncomputable def gY (a0 : List Ob) (a1 : List Ob) (s2 : Int) : Option (Int ⊕ (Unit ⊕ Bool)) :=
 bif (decide (s2 < (a0.length : Int))) then (
  ob (idx a0 s2) fun x7 =>
  ob (idx a1 s2) fun x8 =>
  bif (!(x7.sum.l == x8.sum.l)) then (
   some (.inr (.inr false))
  ) else (
   ob (idx a0 s2) fun x10 =>
   ob (idx a1 s2) fun x11 =>
   bif (!(x10.data == x11.data)) then (
    some (.inr (.inr false))
   ) else (
    ob (arI .i64 (s2 + 1)) fun x13 =>
    some (.inl x13)
   )
  )
 ) else (
  some (.inr (.inl ()))
 )
noncomputable def cb (a0 : List Ob) (a1 : List Ob) : Option Bool :=
 bif ((a0.length : Int) != (a1.length : Int)) then (
  some false
 ) else (
  ob ((
   cP (gY a0 a1) 0
   : Option (Unit ⊕ Bool))) fun o15 => match o15 with
  | .inl v14 => (
   some true
   )
  | .inr e16 => some e16
 )
theorem ms (a : (List Ob) × (List Ob)) : fH (cfA [] Tryd.f17.ntmps []) [] Tryd.f17 [] [(.lst (.nm 0)), (.lst (.nm 0))] .bool (.nj (.br .e (.jn ⟨[], [], [], [], [], [], 0⟩ true (.lp [] ⟨[0, 1], [], [], [(5, (.int .i64))], [], [], 0⟩ (.nj (.br (.nj (.seg 24 (.br .e (.br .e .e)))) .e))) .e))) a = cb a.1 a.2 := by kernel_rfl
noncomputable def fo : Con Tryd.prog HG nmS := ⟨17, [], [(.lst (.nm 0)), (.lst (.nm 0))], .bool, fun a => cb a.1 a.2, false⟩
theorem ir : fo.Ok := gL .nil ms Tryd.func17 rfl
noncomputable def gZ (a0 : List zBz) (a1 : List zBz) (s2 : Int) : Option (Int ⊕ (Unit ⊕ Bool)) :=
 bif (decide (s2 < (a0.length : Int))) then (
  ob (idx a0 s2) fun x7 =>
  ob (idx a1 s2) fun x8 =>
  bif (!(x7 == x8)) then (
   some (.inr (.inr false))
  ) else (
   ob (arI .i64 (s2 + 1)) fun x10 =>
   some (.inl x10)
  )
 ) else (
  some (.inr (.inl ()))
 )
noncomputable def cc (a0 : List zBz) (a1 : List zBz) : Option Bool :=
 bif ((a0.length : Int) != (a1.length : Int)) then (
  some false
 ) else (
  ob ((
   cP (gZ a0 a1) 0
   : Option (Unit ⊕ Bool))) fun o12 => match o12 with
  | .inl v11 => (
   some true
   )
  | .inr e13 => some e13
 )
theorem mu (a : (List zBz) × (List zBz)) : fH (cfA [] Tryd.f18.ntmps []) [] Tryd.f18 [] [(.lst (.lst .u8)), (.lst (.lst .u8))] .bool (.nj (.br .e (.jn ⟨[], [], [], [], [], [], 0⟩ true (.lp [] ⟨[0, 1], [], [], [(5, (.int .i64))], [], [], 0⟩ (.nj (.br (.nj (.seg 10 (.br .e .e))) .e))) .e))) a = cc a.1 a.2 := by kernel_rfl
noncomputable def iu : Con Tryd.prog HG nmS := ⟨18, [], [(.lst (.lst .u8)), (.lst (.lst .u8))], .bool, fun a => cc a.1 a.2, false⟩
theorem mw : iu.Ok := gL .nil mu Tryd.func18 rfl
noncomputable def fm (a0 : Sto) (a1 : Sto) : Option Bool :=
 ob (cb a0.objects a1.objects) fun x1 =>
 bif x1 then (
  ob (cc a0.safe a1.safe) fun x3 =>
  bif x3 then (
   ob (cc a0.queue a1.queue) fun x5 =>
   some x5
  ) else (
   some false
  )
 ) else (
  some false
 )
theorem qv (a : Sto × Sto) : fH (cfA [fo, iu] Tryd.f26.ntmps [2, 3]) [] Tryd.f26 [] [(.nm 1), (.nm 1)] .bool (.br (.br .e .e) .e) a = fm a.1 a.2 := by kernel_rfl
noncomputable def lh : Con Tryd.prog HG nmS := ⟨26, [], [(.nm 1), (.nm 1)], .bool, fun a => fm a.1 a.2, false⟩
theorem qw : lh.Ok := gL (.cons ir (.cons mw .nil)) qv Tryd.func26 rfl
noncomputable def jo (a0 : Sto) : Option Sto :=
 ob (bj [a0.safe, a0.queue]) fun x1 =>
 some (⟨a0.objects, x1, []⟩ : Sto)
theorem wO (a : Sto) : fH (cfA [fS] Tryd.f27.ntmps [1]) [] Tryd.f27 [] [(.nm 1)] (.nm 1) (.seg 8 .e) a = jo a := by kernel_rfl
noncomputable def wN : Con Tryd.prog HG nmS := ⟨27, [], [(.nm 1)], (.nm 1), fun a => jo a, false⟩
theorem wP : wN.Ok := gL (.cons kh .nil) wO Tryd.func27 rfl
noncomputable def dD (a0 : Sto) (a1 : zBz) : Option Sto :=
 ob (app ([] : List zBz) a0.queue) fun x1 =>
 ob (app x1 [a1]) fun x2 =>
 some (⟨a0.objects, a0.safe, x2⟩ : Sto)
theorem pn (a : Sto × zBz) : fH (cfA [] Tryd.f49.ntmps []) [(9, 2)] Tryd.f49 [] [(.nm 1), (.lst .u8)] (.nm 1) (.e) a = dD a.1 a.2 := by kernel_rfl
noncomputable def gH : Con Tryd.prog HG nmS := ⟨49, [], [(.nm 1), (.lst .u8)], (.nm 1), fun a => dD a.1 a.2, false⟩
theorem ke : gH.Ok := gL .nil pn Tryd.func49 rfl
noncomputable def eC (a0 : Sto) : Option Sto :=
 ob (dM a0) fun x1 =>
 some (⟨a0.objects, x1, []⟩ : Sto)
theorem qz (a : Sto) : fH (cfA [jf] Tryd.f63.ntmps [1]) [] Tryd.f63 [] [(.nm 1)] (.nm 1) (.seg 4 .e) a = eC a := by kernel_rfl
noncomputable def lj : Con Tryd.prog HG nmS := ⟨63, [], [(.nm 1)], (.nm 1), fun a => eC a, false⟩
theorem qA : lj.Ok := gL (.cons lL .nil) qz Tryd.func63 rfl
noncomputable def dY (a0 : Sto) (a1 : List Bool) (s2 : (Int × (List zBz))) : Option ((Int × (List zBz)) ⊕ List zBz) :=
 bif (decide (s2.1 < (a0.queue.length : Int))) then (
  bif (decide (s2.1 < (a1.length : Int))) then (
   ob ((
    ob (idx a1 s2.1) fun x8 =>
    bif x8 then (
     ob (idx a0.queue s2.1) fun x10 =>
     ob (app s2.2 [x10]) fun x11 =>
     some x11
    ) else (
     some s2.2
    )
    : Option (List zBz))) fun v12 =>
   ob (arI .i64 (s2.1 + 1)) fun x13 =>
   some (.inl (x13, v12))
  ) else (
   some (.inr s2.2)
  )
 ) else (
  some (.inr s2.2)
 )
noncomputable def eW (a0 : Sto) (a1 : List Bool) : Option Sto :=
 ob (app ([] : List zBz) a0.safe) fun x1 =>
 ob ((
  cP (dY a0 a1) (0, x1)
  : Option (List zBz))) fun v14 =>
 ob (ez v14) fun x15 =>
 some x15
theorem pA (a : Sto × (List Bool)) : fH (cfA [iH] Tryd.f64.ntmps [2]) [(10, 2)] Tryd.f64 [] [(.nm 1), (.lst .bool)] (.nm 1) (.jn ⟨[4], [(5, 1)], [0], [], [(1, (.lst .u8))], [], 2⟩ false (.lp [] ⟨[1, 2, 4], [(5, 1)], [0], [(6, (.int .i64))], [(1, (.lst .u8))], [], 2⟩ (.nj (.br (.br (.jn ⟨[1, 2, 4, 6, 17, 18, 19, 20], [(5, 1)], [0], [], [(1, (.lst .u8))], [], 2⟩ false (.br .e .e) .e) .e) .e))) .e) a = eW a.1 a.2 := by kernel_rfl
noncomputable def kS : Con Tryd.prog HG nmS := ⟨64, [], [(.nm 1), (.lst .bool)], (.nm 1), fun a => eW a.1 a.2, false⟩
theorem pB : kS.Ok := gL (.cons lg .nil) pA Tryd.func64 rfl
noncomputable def ge (a0 : Sto) : Option Bool :=
 ob (dM a0) fun x1 =>
 ob (ez x1) fun x2 =>
 bif ((x2.safe.length : Int) == (x1.length : Int)) then (
  ob (cb x2.objects a0.objects) fun x4 =>
  some x4
 ) else (
  some false
 )
theorem pF (a : Sto) : fH (cfA [jf, iH, fo] Tryd.f13.ntmps [1]) [] Tryd.f13 [] [(.nm 1)] .bool (.br .e .e) a = ge a := by kernel_rfl
noncomputable def pE : Con Tryd.prog HG nmS := ⟨13, [], [(.nm 1)], .bool, fun a => ge a, false⟩
theorem hO : pE.Ok := gL (.cons lL (.cons lg (.cons ir .nil))) pF Tryd.func13 rfl
noncomputable def cU (a0 : Sto) (a1 : zBz) : Option Std :=
 ob (kj a0 a1) fun x1 =>
 some (⟨x1.1, x1.2.1, x1.2.2⟩ : Std)
theorem pm (a : Sto × zBz) : fH (cfA [rx] Tryd.f20.ntmps [2]) [] Tryd.f20 [] [(.nm 1), (.lst .u8)] (.nm 4) (.e) a = cU a.1 a.2 := by kernel_rfl
noncomputable def pj : Con Tryd.prog HG nmS := ⟨20, [], [(.nm 1), (.lst .u8)], (.nm 4), fun a => cU a.1 a.2, false⟩
theorem dX : pj.Ok := gL (.cons yM .nil) pm Tryd.func20 rfl
noncomputable def ey (a0 : Sto) (a1 : Vec 32) : Option Std :=
 ob (iU a0 a1) fun x1 =>
 some (⟨x1.1, (⟨List.replicate 32 0, rfl⟩ : Vec 32), x1.2⟩ : Std)
theorem nT (a : Sto × (Vec 32)) : fH (cfA [ot] Tryd.f23.ntmps [2, 3]) [] Tryd.f23 [] [(.nm 1), (.vec 32)] (.nm 4) (.e) a = ey a.1 a.2 := by kernel_rfl
noncomputable def nS : Con Tryd.prog HG nmS := ⟨23, [], [(.nm 1), (.vec 32)], (.nm 4), fun a => ey a.1 a.2, false⟩
theorem jV : nS.Ok := gL (.cons vq .nil) nT Tryd.func23 rfl
noncomputable def dL (a0 : Sto) (a1 : Vec 32) : Option Gott :=
 ob (ki a0 a1) fun x1 =>
 some (⟨x1.1, x1.2⟩ : Gott)
theorem rB (a : Sto × (Vec 32)) : fH (cfA [rv] Tryd.f22.ntmps [2, 3]) [] Tryd.f22 [] [(.nm 1), (.vec 32)] (.nm 5) (.e) a = dL a.1 a.2 := by kernel_rfl
noncomputable def rA : Con Tryd.prog HG nmS := ⟨22, [], [(.nm 1), (.vec 32)], (.nm 5), fun a => dL a.1 a.2, false⟩
theorem jd : rA.Ok := gL (.cons yH .nil) rB Tryd.func22 rfl
noncomputable def eJ (a0 : Std) (a1 : Std) : Option Bool :=
 ob (fm a0.s a1.s) fun x1 =>
 bif x1 then (
  bif (a0.k.l == a1.k.l) then (
   some (a0.e == a1.e)
  ) else (
   some false
  )
 ) else (
  some false
 )
theorem mH (a : Std × Std) : fH (cfA [lh] Tryd.f29.ntmps [2, 3]) [] Tryd.f29 [] [(.nm 4), (.nm 4)] .bool (.br (.br .e .e) .e) a = eJ a.1 a.2 := by kernel_rfl
noncomputable def mG : Con Tryd.prog HG nmS := ⟨29, [], [(.nm 4), (.nm 4)], .bool, fun a => eJ a.1 a.2, false⟩
theorem iP : mG.Ok := gL (.cons qw .nil) mH Tryd.func29 rfl
noncomputable def fw (a0 : Gott) (a1 : Gott) : Option Bool :=
 bif (a0.b == a1.b) then (
  some (a0.e == a1.e)
 ) else (
  some false
 )
theorem nV (a : Gott × Gott) : fH (cfA [] Tryd.f24.ntmps [2, 3]) [] Tryd.f24 [] [(.nm 5), (.nm 5)] .bool (.br .e .e) a = fw a.1 a.2 := by kernel_rfl
noncomputable def nU : Con Tryd.prog HG nmS := ⟨24, [], [(.nm 5), (.nm 5)], .bool, fun a => fw a.1 a.2, false⟩
theorem nW : nU.Ok := gL .nil nV Tryd.func24 rfl
end
section
open Classical in
noncomputable def lP (l : List Ob) (k : Vec 32) : Option Int := if l.length <= 4294967296 then some (cG l k.l) else none
theorem Dt {l : List Ob} {k : Vec 32} {r : Int} (h : lP l k = some r) : aj Tryd.prog HG 30 [.list 33 (l.map Ob.row) false, .agg 32 (ay k.l)] (.v (.int .i64 r)) := by
 unfold lP at h; split at h
 ·cases h; exact uk l k (by assumption)
 ·cases h
noncomputable def iG : Con Tryd.prog HG nmS := ⟨30, [], [.lst (.nm 0), .vec 32], .int .i64, fun a => lP a.1 a.2, false⟩
theorem lf : iG.Ok := ⟨fun _ a r h => Dt h, fun h => by cases h⟩
open Classical in
noncomputable def kd (l : List Ob) (i : Int) : Option (List Ob) := if l.length <= 1000000 /\ 0 <= i /\ i < (l.length : Int) then some (l.eraseIdx i.toNat) else none
theorem yF {l r : List Ob} {i : Int} (h : kd l i = some r) : aj Tryd.prog HG 51 [.list 33 (l.map Ob.row) false, .v (.int .i64 i)] (.list 33 (r.map Ob.row) false) := by
 unfold kd at h; split at h
 ·rename_i hc; cases h; have := (tV l i.toNat hc.1 (by omega)).data; rwa [Int.toNat_of_nonneg hc.2.1] at this
 ·cases h
noncomputable def jW : Con Tryd.prog HG nmS := ⟨51, [], [.lst (.nm 0), .int .i64], .lst (.nm 0), fun a => kd a.1 a.2, false⟩
theorem nY : jW.Ok := ⟨fun _ a r h => yF h, fun h => by cases h⟩
noncomputable def eS (a0 : Sto) (a1 : zBz) : Option Std :=
 bif (decide (65536 < (a1.length : Int))) then (
  some (⟨a0, (⟨List.replicate 32 0, rfl⟩ : Vec 32), 2⟩ : Std)
 ) else (
  ob (eR a1) fun x2 =>
  ob (lP a0.objects x2) fun x3 =>
  bif (decide (0 <= x3)) then (
   some (⟨a0, x2, 0⟩ : Std)
  ) else (
   bif (decide (256 <= (a0.objects.length : Int))) then (
    some (⟨a0, (⟨List.replicate 32 0, rfl⟩ : Vec 32), 330⟩ : Std)
   ) else (
    ob (app ([] : List Ob) a0.objects) fun x6 =>
    ob (arI .i64 ((a0.safe.length : Int) + (a0.queue.length : Int))) fun x7 =>
    ob (cT x7 a1) fun x8 =>
    ob (dD a0 x8) fun x9 =>
    ob (app ([] : zBz) a1) fun x10 =>
    ob (app x6 [(⟨x2, x10⟩ : Ob)]) fun x11 =>
    some (⟨(⟨x11, x9.safe, x9.queue⟩ : Sto), x2, 0⟩ : Std)
   )
  )
 )
theorem rE (a : Sto × zBz) : fH (cfA [je, iG, jh, gH] Tryd.f31.ntmps []) [(31, 2)] Tryd.f31 [] [(.nm 1), (.lst .u8)] (.nm 4) (.nj (.br .e (.nj (.br .e (.nj (.br .e (.seg 10 (.seg 7 .e)))))))) a = eS a.1 a.2 := by kernel_rfl
noncomputable def lM : Con Tryd.prog HG nmS := ⟨31, [], [(.nm 1), (.lst .u8)], (.nm 4), fun a => eS a.1 a.2, false⟩
theorem lN : lM.Ok := gL (.cons lK (.cons lf (.cons mR (.cons ke .nil)))) rE Tryd.func31 rfl
noncomputable def eX (a0 : Sto) (a1 : Vec 32) : Option Std :=
 ob (lP a0.objects a1) fun x1 =>
 bif (decide (x1 < 0)) then (
  some (⟨a0, (⟨List.replicate 32 0, rfl⟩ : Vec 32), 331⟩ : Std)
 ) else (
  ob (arI .i64 ((a0.safe.length : Int) + (a0.queue.length : Int))) fun x3 =>
  ob (cO x3 a1) fun x4 =>
  ob (dD a0 x4) fun x5 =>
  ob (kd x5.objects x1) fun x6 =>
  some (⟨(⟨x6, x5.safe, x5.queue⟩ : Sto), (⟨List.replicate 32 0, rfl⟩ : Vec 32), 0⟩ : Std)
 )
theorem pC (a : Sto × (Vec 32)) : fH (cfA [iG, iQ, gH, jW] Tryd.f62.ntmps [3]) [] Tryd.f62 [] [(.nm 1), (.vec 32)] (.nm 4) (.nj (.br .e (.seg 10 .e))) a = eX a.1 a.2 := by kernel_rfl
noncomputable def kT : Con Tryd.prog HG nmS := ⟨62, [], [(.nm 1), (.vec 32)], (.nm 4), fun a => eX a.1 a.2, false⟩
theorem pD : kT.Ok := gL (.cons lf (.cons mJ (.cons ke (.cons nY .nil)))) pC Tryd.func62 rfl
noncomputable def fp (a0 : Sto) (a1 : SRaw) : Option Sto :=
 ob (slc a1.data 0 (min (a1.data.length : Int) 40)) fun x1 =>
 ob (sJ (a1.kind.toNat : Int) 8) fun x2 =>
 ob ((
  bif (x2 == 0) then (
   some (x2 == 0)
  ) else (
   bif (x2 == 1) then (
    some (x2 == 1)
   ) else (
    bif (x2 == 2) then (
     some (x2 == 2)
    ) else (
     some (x2 == 3)
    )
   )
  )
  : Option Bool)) fun v6 =>
 bif v6 then (
  ob (eS a0 x1) fun x8 =>
  some x8.s
 ) else (
  ob ((
   bif (x2 == 4) then (
    some (x2 == 4)
   ) else (
    some (x2 == 5)
   )
   : Option Bool)) fun v10 =>
  bif v10 then (
   ob (eR x1) fun x12 =>
   ob (eX a0 x12) fun x13 =>
   some x13.s
  ) else (
   bif (x2 == 6) then (
    ob (eC a0) fun x15 =>
    some x15
   ) else (
    ob (eW a0 a1.keep) fun x16 =>
    some x16
   )
  )
 )
theorem qx (a : Sto × SRaw) : fH (cfA [lM, je, kT, lj, kS] Tryd.f39.ntmps [2, 3]) [] Tryd.f39 [] [(.nm 1), (.nm 2)] (.nm 1) (.nj (.jn ⟨[2, 3, 4, 5, 15], [], [0], [(16, .bool)], [], [], 1⟩ false (.br .e (.br .e (.br .e .e))) (.br .e (.jn ⟨[2, 3, 4, 5, 15], [], [0], [(25, .bool)], [], [], 1⟩ false (.br .e .e) (.br (.seg 3 .e) (.br .e .e)))))) a = fp a.1 a.2 := by kernel_rfl
noncomputable def li : Con Tryd.prog HG nmS := ⟨39, [], [(.nm 1), (.nm 2)], (.nm 1), fun a => fp a.1 a.2, false⟩
theorem qy : li.Ok := gL (.cons lN (.cons lK (.cons pD (.cons qA (.cons pB .nil))))) qx Tryd.func39 rfl
noncomputable def eB (a0 : List SRaw) (a1 : Int) (s1 : (Int × (List Ob) × (List zBz) × (List zBz))) : Option ((Int × (List Ob) × (List zBz) × (List zBz)) ⊕ ((List Ob) × (List zBz) × (List zBz))) :=
 bif (decide (s1.1 < (a0.length : Int))) then (
  bif (decide (s1.1 < a1)) then (
   ob (idx a0 s1.1) fun x7 =>
   ob (fp (⟨s1.2.1, s1.2.2.1, s1.2.2.2⟩ : Sto) x7) fun x8 =>
   ob (arI .i64 (s1.1 + 1)) fun x9 =>
   some (.inl (x9, x8.objects, x8.safe, x8.queue))
  ) else (
   some (.inr (s1.2.1, s1.2.2.1, s1.2.2.2))
  )
 ) else (
  some (.inr (s1.2.1, s1.2.2.1, s1.2.2.2))
 )
noncomputable def gn (a0 : List SRaw) (a1 : Int) : Option Sto :=
 ob ((
  cP (eB a0 a1) (0, [], [], [])
  : Option ((List Ob) × (List zBz) × (List zBz)))) fun v10 =>
 some (⟨v10.1, v10.2.1, v10.2.2⟩ : Sto)
theorem qt (a : (List SRaw) × Int) : fH (cfA [li] Tryd.f19.ntmps []) [] Tryd.f19 [] [(.lst (.nm 2)), (.int .i64)] (.nm 1) (.jn ⟨[4, 5], [], [0], [], [], [(1, [some (.lst (.nm 0)), some (.lst (.lst .u8)), some (.lst (.lst .u8))])], 2⟩ false (.lp [] ⟨[0, 1, 4, 5], [], [0], [(6, (.int .i64))], [], [(1, [some (.lst (.nm 0)), some (.lst (.lst .u8)), some (.lst (.lst .u8))])], 2⟩ (.nj (.br (.br (.nj (.seg 5 .e)) .e) .e))) .e) a = gn a.1 a.2 := by kernel_rfl
noncomputable def qq : Con Tryd.prog HG nmS := ⟨19, [], [(.lst (.nm 2)), (.int .i64)], (.nm 1), fun a => gn a.1 a.2, false⟩
theorem qu : qq.Ok := gL (.cons qy .nil) qt Tryd.func19 rfl
end
section
theorem wG {n : Nat} (h : n < 4294967296) : be (bG n) = n := by
 simp only [bG, be, List.foldl_cons, List.foldl_nil, UInt8.toNat_ofNat']; omega
theorem nM (n : Nat) : (bG n).length = 4 := rfl
theorem BN (x : zBz) : (x ++ Sha.sum x).take ((x ++ Sha.sum x).length - 32) = x := by
 have : (Sha.sum x).length = 32 := Sha.out_length _; rw [List.length_append, this, Nat.add_sub_cancel, List.take_left']; rfl
theorem BM (x : zBz) : (x ++ Sha.sum x).drop ((x ++ Sha.sum x).length - 32) = Sha.sum x := by
 have : (Sha.sum x).length = 32 := Sha.out_length _; rw [List.length_append, this, Nat.add_sub_cancel, List.drop_left']; rfl
theorem ru (o : List Ob) (n : Nat) (x : zBz) : bx o n (x ++ Sha.sum x) = rN o n x := by
 have h32 : (Sha.sum x).length = 32 := Sha.out_length _; unfold bx; rw [if_neg (by simp [h32]), BN, BM, if_neg (by simp)]
theorem CY {o : List Ob} {n : Nat} {x : zBz} (hn : n < 4294967296) (hx : x.length <= 65536) (hf : aP o (Sha.sum x) = none) (ho : o.length < 256) : bx o n (iL n x) = some (o ++ [⟨ee x, x⟩]) := by
 unfold iL; rw [ru, eG]; have h4 := nM n; have h4' := nM x.length; have e1 : (bG n ++ bG x.length ++ x).take 4 = bG n := by rw [List.append_assoc, List.take_left' h4]
 have e2 : (bG n ++ bG x.length ++ x).drop 4 = bG x.length ++ x := by rw [List.append_assoc, List.drop_left' h4]
 rw [if_neg (by simp [h4]), e1, e2, wG hn, if_neg (by simp)]; unfold gk; have e3 : (bG x.length ++ x).take 4 = bG x.length := List.take_left' h4'; have e4 : (bG x.length ++ x).drop 4 = x := List.drop_left' h4'; rw [if_pos (by decide), e3, e4, wG (by omega), if_neg (by simp [h4'])]; unfold gF; rw [if_neg (by simp), List.take_length, if_pos ⟨hx, hf, ho⟩]
theorem Bk {o : List Ob} {n i : Nat} {k : zBz} (hn : n < 4294967296) (hk : k.length = 32) (hf : aP o k = some i) : bx o n (nO n k) = some (o.eraseIdx i) := by
 unfold nO; rw [ru, eG]; have h4 := nM n; have e1 : (bG n ++ k).take 4 = bG n := List.take_left' h4; have e2 : (bG n ++ k).drop 4 = k := List.drop_left' h4; rw [if_neg (by simp [h4]), e1, e2, wG hn, if_neg (by simp)]; unfold gk; rw [if_neg (by decide), if_pos (by decide), if_neg (by omega)]; unfold fQ; rw [if_neg (by simp [hk]), List.take_of_length_le (by omega), hf]
theorem CX {o o' o2 o2' : List Ob} {n m : Nat} {b : zBz} (h : bx o n b = some o') (k : bx o2 m b = some o2') : n = m := by
 unfold bx at h k; split at h
 ·cases h
 split at h
 ·cases h
 rw [if_neg (by assumption), if_neg (by assumption)] at k; generalize b.take (b.length - 32) = B at h k; cases B with
 | nil => cases h
 | cons c r =>
  rw [eG] at h k; split at h
  ·cases h
  split at h
  ·cases h
  rename_i h1 h2; rw [if_neg h1] at k; split at k
  ·cases k
  rename_i h3; simp only [ne_eq, Decidable.not_not] at h2 h3; rw [<- h2, <- h3]
def ib (o : List Ob) (n : Nat) : List zBz -> Option (List Ob)
 | [] => some o
 | b :: r => (bx o n b).bind fun o' => ib o' (n + 1) r
theorem tQ (o : List Ob) (n : Nat) (a b : List zBz) : ib o n (a ++ b) = (ib o n a).bind fun o' => ib o' (n + a.length) b := by
 induction a generalizing o n with
 | nil => rfl
 | cons x r ih =>
  simp only [List.cons_append, ib, List.length_cons]; cases bx o n x with
  | none => rfl
  | some o' =>
   simp only [Option.bind_some, ih]; rw [show n + 1 + r.length = n + (r.length + 1) by omega]
theorem xV (o : List Ob) (n : Nat) (a : List zBz) (b : zBz) {o' : List Ob} (h : ib o n a = some o') : ib o n (a ++ [b]) = bx o' (n + a.length) b := by
 rw [tQ, h]; simp only [Option.bind_some, ib]; cases bx o' (n + a.length) b <;> rfl
theorem vS : ∀ {l : List zBz} {o o' : List Ob} {s : List zBz}, ib o s.length l = some o' -> cY o s l = ⟨o', s ++ l, []⟩
 | [], o, o', s, h => by cases h; simp [cY]
 | b :: r, o, o', s, h => by
  simp only [ib] at h; cases hb : bx o s.length b with
  | none => rw [hb] at h; cases h
  | some o1 =>
   rw [hb] at h; simp only [Option.bind_some] at h; rw [cY, hb]; simp only; rw [vS (s := s ++ [b]) (by simpa using h)]; simp
theorem ss : ∀ (l : List zBz) (o : List Ob) (s : List zBz), ∃ (a : List zBz) (o' : List Ob), a <+: l /\ ib o s.length a = some o' /\ cY o s l = ⟨o', s ++ a, []⟩
 | [], o, s => ⟨[], o, List.prefix_refl _, rfl, by simp [cY]⟩
 | b :: r, o, s => by
  rw [cY]; cases hb : bx o s.length b with
  | none => exact ⟨[], o, List.nil_prefix, rfl, by simp⟩
  | some o1 =>
   obtain ⟨a, o', h1, h2, h3⟩ := ss r o1 (s ++ [b]); refine ⟨b :: a, o', by rw [List.cons_prefix_cons]; exact ⟨rfl, h1⟩, ?_, by simp only [h3]; simp⟩; simp only [ib, hb, Option.bind_some]; simpa using h2
theorem xW {l : List zBz} {o o' : List Ob} {n : Nat} (h : ib o n l = some o') (k : Nat) : ∃ o1, ib o n (l.take k) = some o1 := by
 rw [<- List.take_append_drop k l, tQ] at h; cases hq : ib o n (l.take k) with
 | none => rw [hq] at h; cases h
 | some o1 => exact ⟨o1, rfl⟩
theorem Jz {l : List zBz} {o o' : List Ob} {n i : Nat} {b : zBz} (h : ib o n l = some o') (hi : l[i]? = some b) : ∃ o1 o2, ib o n (l.take i) = some o1 /\ bx o1 (n + i) b = some o2 := by
 obtain ⟨o1, h1⟩ := xW h i; obtain ⟨o2, h2⟩ := xW h (i + 1); have hl := (List.getElem?_eq_some_iff.1 hi).1; rw [List.take_add_one, hi] at h2; simp only [Option.toList_some] at h2; rw [xV _ _ _ _ h1, List.length_take, Nat.min_eq_left (by omega)] at h2; exact ⟨o1, o2, h1, h2⟩
def dv (s : Sto) : List zBz := s.safe ++ s.queue
def oc (s : Sto) : Prop := ib [] 0 (dv s) = some s.objects
theorem oc.open {s : Sto} (h : oc s) : cY [] [] (dv s) = ⟨s.objects, dv s, []⟩ := by
 have := vS (s := []) (l := dv s) (o := []) h; simpa using this
theorem Fp (l : List zBz) : oc (cY [] [] l) := by
 obtain ⟨a, o', h1, h2, h3⟩ := ss l [] []; rw [h3]; simpa [oc, dv] using h2
structure ObsOk (m : Nat) (o : List Ob) : Prop where
 sum : ∀ x ∈ o, x.sum.l = Sha.sum x.data
 len : ∀ x ∈ o, x.data.length <= m
 dis : (o.map fun x => x.sum.l).Nodup
theorem qD {o : List Ob} {k : zBz} : aP o k = none ↔ ∀ x ∈ o, x.sum.l ≠ k := by
 unfold aP; simp [List.findIdx?_eq_none_iff]
theorem Dv {o : List Ob} {k : zBz} {i : Nat} (h : aP o k = some i) : ∃ x, o[i]? = some x /\ x.sum.l = k := by
 unfold aP at h; rw [List.findIdx?_eq_some_iff_getElem] at h; obtain ⟨hi, h1, _⟩ := h; exact ⟨o[i], by simp [hi], by simpa using h1⟩
theorem EJ {m : Nat} {o o' : List Ob} {n : Nat} {b : zBz} (ho : ObsOk m o) (hb : b.length <= m) (h : bx o n b = some o') : ObsOk m o' /\ o'.length <= o.length + 1 := by
 unfold bx at h; split at h
 ·cases h
 split at h
 ·cases h
 have hB : (b.take (b.length - 32)).length <= m := by simp; omega
 generalize b.take (b.length - 32) = B at h hB; cases B with
 | nil => cases h
 | cons c r =>
  rw [eG] at h; split at h
  ·cases h
  split at h
  ·cases h
  unfold gk at h; split at h
  ·split at h
   ·cases h
   ·unfold gF at h; split at h
    ·cases h
    split at h
    ·rename_i hc; cases h; have hxl : (((r.drop 4).drop 4).take (be ((r.drop 4).take 4))).length <= m := by simp at hB ⊢; omega
     generalize ((r.drop 4).drop 4).take (be ((r.drop 4).take 4)) = x at hc hxl; refine ⟨⟨fun y hy => ?_, fun y hy => ?_, ?_⟩, by simp⟩
     ·rcases List.mem_append.1 hy with hy | hy
      ·exact ho.sum y hy
      ·simp at hy; subst hy; rfl
     ·rcases List.mem_append.1 hy with hy | hy
      ·exact ho.len y hy
      ·simp at hy; subst hy; exact hxl
     ·rw [List.map_append, List.nodup_append]; refine ⟨ho.dis, by simp, fun a ha b hb => ?_⟩; simp at hb; subst hb; obtain ⟨y, hy, rfl⟩ := List.mem_map.1 ha; exact qD.1 hc.2.1 y hy
    ·cases h
  ·split at h
   ·split at h
    ·cases h
    ·unfold fQ at h; split at h
     ·cases h
     split at h
     ·cases h
     ·cases h; rename_i i _; have hsub : (o.eraseIdx i).Sublist o := List.eraseIdx_sublist ..; refine ⟨⟨fun y hy => ho.sum y (hsub.mem hy), fun y hy => ho.len y (hsub.mem hy), (hsub.map _).nodup ho.dis⟩, ?_⟩; have := hsub.length_le; omega
   ·cases h
theorem Ck {m : Nat} : ∀ {l : List zBz} {o o' : List Ob} {n : Nat}, ObsOk m o -> (∀ b ∈ l, b.length <= m) -> ib o n l = some o' -> ObsOk m o' /\ o'.length <= o.length + l.length
 | [], o, o', n, ho, _, h => by cases h; exact ⟨ho, by simp⟩
 | b :: r, o, o', n, ho, hb, h => by
  simp only [ib] at h; cases hq : bx o n b with
  | none => rw [hq] at h; cases h
  | some o1 =>
   rw [hq] at h; simp only [Option.bind_some] at h; obtain ⟨h1, h2⟩ := EJ ho (hb b (by simp)) hq; obtain ⟨h3, h4⟩ := Ck h1 (fun x hx => hb x (by simp [hx])) h; exact ⟨h3, by simp only [List.length_cons]; omega⟩
theorem FF (m : Nat) : ObsOk m [] := ⟨by simp, by simp, by simp⟩
structure SInv (m : Nat) (s : Sto) : Prop where
 good : oc s
 num : s.safe.length + s.queue.length <= m
 len : ∀ b ∈ dv s, b.length <= 2000
theorem SInv.obs {m : Nat} {s : Sto} (h : SInv m s) : ObsOk 2000 s.objects /\ s.objects.length <= m := by
 obtain ⟨h1, h2⟩ := Ck (FF 2000) h.len h.good; have := h.num; simp only [dv, List.length_append, List.length_nil, Nat.zero_add] at h2; exact ⟨h1, by omega⟩
theorem SInv.mono {m m' : Nat} {s : Sto} (h : SInv m s) (k : m <= m') : SInv m' s := ⟨h.good, Nat.le_trans h.num k, h.len⟩
def mc : Sto := ⟨[], [], []⟩
theorem Dz : SInv 0 mc := ⟨rfl, Nat.le_refl _, by simp [mc, dv]⟩
theorem SInv.push {m : Nat} {s : Sto} (h : SInv m s) {b : zBz} {o : List Ob} (hb : b.length <= 2000) (ha : bx s.objects (s.safe.length + s.queue.length) b = some o) : SInv (m + 1) ⟨o, s.safe, s.queue ++ [b]⟩ := by
 have e : dv ⟨o, s.safe, s.queue ++ [b]⟩ = dv s ++ [b] := by simp [dv]
 refine ⟨?_, by have := h.num; simp; omega, fun x hx => ?_⟩
 ·unfold oc; rw [e, xV _ _ _ _ h.good]; have : (dv s).length = s.safe.length + s.queue.length := by simp [dv]
  rw [Nat.zero_add, this]; exact ha
 ·rw [e] at hx; rcases List.mem_append.1 hx with hx | hx
  ·exact h.len x hx
  ·simp at hx; subst hx; exact hb
theorem Ia (n : Nat) (x : zBz) : (iL n x).length = x.length + 41 := by
 have : ∀ y, (Sha.sum y).length = 32 := fun y => Sha.out_length _
 simp [iL, this, nM]; omega
theorem HW (n : Nat) {k : zBz} (hk : k.length = 32) : (nO n k).length = 69 := by
 have : ∀ y, (Sha.sum y).length = 32 := fun y => Sha.out_length _
 simp [nO, this, nM, hk]
def evF (s : Sto) (k : Vec 32) : Sto := match aP s.objects k.l with
 | none => s
 | some i => ⟨s.objects.eraseIdx i, s.safe, s.queue ++ [nO (s.safe.length + s.queue.length) k.l]⟩
theorem qZ (s : Sto) {x : zBz} (h : 65536 < x.length) : cZ s x = (s, ⟨List.replicate 32 0, rfl⟩, 2) := by unfold cZ; rw [if_pos h]
theorem jx (s : Sto) {x : zBz} {i : Nat} (h : ¬ 65536 < x.length) (hf : aP s.objects (Sha.sum x) = some i) : cZ s x = (s, ee x, 0) := by unfold cZ; rw [if_neg h, hf]; rfl
theorem oT (s : Sto) {x : zBz} (h : ¬ 65536 < x.length) (hf : aP s.objects (Sha.sum x) = none) (ho : 256 <= s.objects.length) : cZ s x = (s, ⟨List.replicate 32 0, rfl⟩, 330) := by unfold cZ; rw [if_neg h, hf, if_neg (by simp), if_pos ho]
theorem ma (s : Sto) {x : zBz} (h : ¬ 65536 < x.length) (hf : aP s.objects (Sha.sum x) = none) (ho : s.objects.length < 256) : cZ s x = (⟨s.objects ++ [⟨ee x, x⟩], s.safe, s.queue ++ [iL (s.safe.length + s.queue.length) x]⟩, ee x, 0) := by
 unfold cZ; rw [if_neg h, hf, if_neg (by simp), if_neg (by omega)]; simp [ml, iL]
theorem SInv.put {m : Nat} {s : Sto} (h : SInv m s) {x : zBz} (hx : x.length <= 200) (hm : m < 256) : SInv (m + 1) (cZ s x).1 := by
 cases hf : aP s.objects (Sha.sum x) with
 | some i => rw [jx s (by omega) hf]; exact h.mono (by omega)
 | none =>
  have := h.obs.2; have hn := h.num; rw [ma s (by omega) hf (by omega)]; exact h.push (by rw [Ia]; omega) (CY (by omega) (by omega) hf (by omega))
theorem SInv.evict {m : Nat} {s : Sto} (h : SInv m s) (k : Vec 32) (hm : m < 4294967296) : SInv (m + 1) (evF s k) := by
 unfold evF; have hn := h.num; cases hf : aP s.objects k.l with
 | none => exact h.mono (by omega)
 | some i => exact h.push (by rw [HW _ k.h]; omega) (Bk (by omega) k.h hf)
def gC (s : Sto) : Sto := ⟨s.objects, s.safe ++ s.queue, []⟩
theorem SInv.sync {m : Nat} {s : Sto} (h : SInv m s) : SInv m (gC s) := by
 have e : dv (gC s) = dv s := by simp [dv, gC]
 exact ⟨by unfold oc; rw [e]; exact h.good, by have := h.num; simp [gC]; omega, by rw [e]; exact h.len⟩
def cW : List zBz -> List Bool -> List zBz
 | q :: qs, true :: ks => q :: cW qs ks
 | _ :: qs, false :: ks => cW qs ks
 | _, _ => []
theorem jr : ∀ (q : List zBz) (k : List Bool), (cW q k).Sublist q
 | [], _ => by simp [cW]
 | _ :: _, [] => by simp [cW]
 | q :: qs, true :: ks => by rw [cW]; exact (jr qs ks).cons_cons q
 | q :: qs, false :: ks => by rw [cW]; exact (jr qs ks).cons q
def mn (s : Sto) (k : List Bool) : Sto := cY [] [] (s.safe ++ cW s.queue k)
theorem SInv.open {m : Nat} {l : List zBz} (hl : l.length <= m) (hb : ∀ b ∈ l, b.length <= 2000) : SInv m (cY [] [] l) := by
 obtain ⟨a, o', h1, h2, h3⟩ := ss l [] []; refine ⟨Fp l, ?_, fun b hb' => ?_⟩
 ·rw [h3]; have := h1.length_le; simp; omega
 ·rw [h3] at hb'; simp [dv] at hb'; exact hb b (h1.subset hb')
theorem SInv.break {m : Nat} {s : Sto} (h : SInv m s) (k : List Bool) : SInv m (mn s k) := by
 have hs := jr s.queue k; refine SInv.open ?_ fun b hb => h.len b ?_
 ·have := h.num; have := hs.length_le; simp; omega
 ·simp only [dv]; rcases List.mem_append.1 hb with hb | hb
  ·simp [hb]
  ·simp [hs.subset hb]
def oY (s : Sto) (x : SRaw) : Sto :=
 if x.kind.toNat % 8 < 4 then (cZ s (x.data.take 40)).1 else
 if x.kind.toNat % 8 < 6 then evF s (ee (x.data.take 40)) else
 if x.kind.toNat % 8 = 6 then gC s else mn s x.keep
theorem SInv.step {m : Nat} {s : Sto} (h : SInv m s) (x : SRaw) (hm : m < 256) : SInv (m + 1) (oY s x) := by
 unfold oY; have hl : (x.data.take 40).length <= 40 := by simp; omega
 split
 ·exact h.put (by omega) hm
 split
 ·exact h.evict _ (by omega)
 split
 ·exact h.sync.mono (by omega)
 ·exact (h.break _).mono (by omega)
def fO (l : List SRaw) (n : Nat) : Sto := (l.take n).foldl oY mc
theorem uN : ∀ (l : List SRaw) (m : Nat) (s : Sto), SInv m s -> m + l.length <= 256 -> SInv (m + l.length) (l.foldl oY s)
 | [], _, _, h, _ => h
 | x :: r, m, s, h, hm => by
  simp only [List.length_cons] at hm; have := uN r (m + 1) (oY s x) (h.step x (by omega)) (by omega); simp only [List.foldl_cons, List.length_cons]; exact this.mono (by omega)
theorem Ae (l : List SRaw) (n : Nat) (hn : n <= 256) : SInv n (fO l n) := by
 have := uN (l.take n) 0 mc Dz (by simp; omega); exact this.mono (by simp; omega)
end
section
theorem BU {s : Sto} (h : s.safe.length + s.queue.length <= 1000000) : dM s = some (dv s) := by
 unfold dM; rw [eI (by simp; omega), aw, List.nil_append, eI (by omega), aw]; rfl
theorem Iy {s : Sto} (h : s.safe.length + s.queue.length <= 1000000) : jo s = some (gC s) := by
 unfold jo; rw [iF _ (by simp; omega) (by simp), aw]; simp [gC]
theorem Ek {s : Sto} (h : s.safe.length + s.queue.length <= 1000000) : eC s = some (gC s) := by
 unfold eC; rw [BU h, aw]; rfl
theorem vV {s : Sto} (b : zBz) (h : s.queue.length <= 1000000) : dD s b = some ⟨s.objects, s.safe, s.queue ++ [b]⟩ := by
 unfold dD; rw [eI (by simp; omega), aw, List.nil_append, eI (by simp; omega), aw]
theorem uy {l : List zBz} (h : l.length <= 1000000 /\ ∀ b ∈ l, b.length <= 1000000) : jm l = some (cY [] [] l) := if_pos h
theorem vR {l : List zBz} (h : l.length <= 1000000 /\ ∀ b ∈ l, b.length <= 1000000) : ez l = some (cY [] [] l) := if_pos h
theorem yz {x : zBz} (h : x.length <= 1000000) : eR x = some (ee x) := if_pos h
theorem yv {l : List Ob} (k : Vec 32) (h : l.length <= 4294967296) : ia l k = some (cG l k.l) := if_pos h
theorem yk {l : List Ob} (k : Vec 32) (h : l.length <= 4294967296) : lP l k = some (cG l k.l) := if_pos h
theorem ll {l : List Ob} {k : zBz} {i : Nat} (h : aP l k = some i) : cG l k = (i : Int) := by unfold cG; rw [h]
theorem lk {l : List Ob} {k : zBz} (h : aP l k = none) : cG l k = -1 := by unfold cG; rw [h]
theorem ul {l : List Ob} {k : zBz} {i : Nat} (h : aP l k = some i) : i < l.length := by
 obtain ⟨x, hx, _⟩ := Dv h; exact (List.getElem?_eq_some_iff.1 hx).1
theorem Ks (s : Sto) : (⟨s.objects, s.safe, s.queue⟩ : Sto) = s := rfl
theorem HR {s : Sto} (k : UInt8) {x : zBz} (h1 : s.safe.length <= 1000000) (h2 : s.queue.length <= 1000000) (h3 : x.length <= 100000) : jp s k x = some (ml s k x) := if_pos ⟨h1, h2, h3⟩
theorem BO {l : List Ob} {i : Nat} (hl : l.length <= 1000000) (hi : i < l.length) : eK l (i : Int) = some (l.eraseIdx i) := by
 unfold eK; rw [kJ (by omega), aw, bZ (by omega), aw, kJ (by omega), aw, gX _ (by simp; omega) (by simp), aw]; have h1 : ((i : Int) + 1).toNat = i + 1 := by omega
 simp [List.eraseIdx_eq_take_drop_succ, h1]
theorem AM {l : List Ob} {i : Nat} (hl : l.length <= 1000000) (hi : i < l.length) : kd l (i : Int) = some (l.eraseIdx i) := if_pos ⟨hl, by omega, by omega⟩
theorem SInv.small {m : Nat} {s : Sto} (h : SInv m s) (hm : m <= 256) : s.objects.length <= 256 /\ s.safe.length + s.queue.length <= 256 /\ (∀ b ∈ dv s, b.length <= 2000) := ⟨Nat.le_trans h.obs.2 hm, Nat.le_trans h.num hm, h.len⟩
theorem Iv {m : Nat} {s : Sto} (h : SInv m s) (hm : m <= 256) {x : zBz} (hx : x.length <= 99000) : kj s x = some (cZ s x) := by
 obtain ⟨h1, h2, _⟩ := h.small hm; exact if_pos ⟨by omega, by omega, by omega, hx⟩
theorem uC {m : Nat} {s : Sto} (h : SInv m s) (hm : m <= 256) {x : zBz} (hx : x.length <= 99000) : eS s x = some ⟨(cZ s x).1, (cZ s x).2.1, (cZ s x).2.2⟩ := by
 obtain ⟨h1, h2, _⟩ := h.small hm; unfold eS; by_cases c : 65536 < x.length
 ·rw [gR (by omega), cond_true, qZ s c]
 rw [gQ (by omega), cond_false, yz (by omega), aw, yk _ (by omega), aw]; show (bif decide (0 <= cG s.objects (Sha.sum x)) then _ else _) = _; cases hf : aP s.objects (Sha.sum x) with
 | some i => rw [ll hf, IU (by omega), cond_true, jx s c hf]
 | none =>
  rw [lk hf, IR (by omega), cond_false]; by_cases c2 : 256 <= s.objects.length
  ·rw [IU (by omega), cond_true, oT s c hf c2]
  ·rw [IR (by omega), cond_false, ma s c hf (by omega), eI (by simp; omega), aw, List.nil_append, bZ (by omega), aw]; have e : cT ((s.safe.length : Int) + (s.queue.length : Int)) x = some (iL (s.safe.length + s.queue.length) x) := by
    unfold cT; rw [if_pos ⟨by omega, by omega⟩]
    congr 2
   rw [e, aw, vV _ (by omega), aw, eI (by simp; omega), aw, List.nil_append, eI (by simp; omega), aw]
theorem Kp {m : Nat} {s : Sto} (h : SInv m s) (hm : m <= 256) (k : Vec 32) : iU s k = some (evF s k, if aP s.objects k.l = none then 331 else 0) := by
 obtain ⟨h1, h2, _⟩ := h.small hm; unfold iU evF; rw [yv _ (by omega), aw]; cases hf : aP s.objects k.l with
 | none => rw [lk hf, gR (by omega), cond_true]; rfl
 | some i =>
  have hi := ul hf; rw [ll hf, gQ (by omega), cond_false, HR _ (by omega) (by omega) (by rw [k.h]; omega), aw]; have e : (ml s 68 k.l).objects = s.objects := rfl; rw [e, BO (by omega) hi, aw, if_neg (by simp)]; simp [ml, nO]
theorem Ke {m : Nat} {s : Sto} (h : SInv m s) (hm : m <= 256) (k : Vec 32) : eX s k = some ⟨evF s k, ⟨List.replicate 32 0, rfl⟩, if aP s.objects k.l = none then 331 else 0⟩ := by
 obtain ⟨h1, h2, _⟩ := h.small hm; unfold eX evF; rw [yk _ (by omega), aw]; cases hf : aP s.objects k.l with
 | none => rw [lk hf, gR (by omega), cond_true]; rfl
 | some i =>
  have hi := ul hf; rw [ll hf, gQ (by omega), cond_false, bZ (by omega), aw]; have e : cO ((s.safe.length : Int) + (s.queue.length : Int)) k = some (nO (s.safe.length + s.queue.length) k.l) := by
   unfold cO; rw [if_pos (by omega)]
   congr 2
  rw [e, aw, vV _ (by omega), aw]; simp only; rw [AM (by omega) hi, aw, if_neg (by simp)]
theorem AU {m : Nat} {s : Sto} (h : SInv m s) (hm : m <= 256) (k : Vec 32) : ki s k = some (match aP s.objects k.l with | none => ([], 331) | some i => ((s.objects.getD i ⟨k, []⟩).data, 0)) := by
 obtain ⟨h1, h2, _⟩ := h.small hm; unfold ki; rw [yv _ (by omega), aw]; cases hf : aP s.objects k.l with
 | none => rw [lk hf, gR (by omega), cond_true]
 | some i =>
  have hi := ul hf; rw [ll hf, gQ (by omega), cond_false, eT, List.getElem?_eq_getElem hi, aw]; simp [List.getD_eq_getElem?_getD, hi]
theorem Gt {m : Nat} {s : Sto} (h : SInv m s) (hm : m <= 256) : jo s = some (gC s) := Iy (by have := (h.small hm).2.1; omega)
theorem Gf {m : Nat} {s : Sto} (h : SInv m s) (hm : m <= 256) : eC s = some (gC s) := Ek (by have := (h.small hm).2.1; omega)
theorem Ik {m : Nat} {s : Sto} (h : SInv m s) (hm : m <= 256) : dM s = some (dv s) := BU (by have := (h.small hm).2.1; omega)
theorem vF (q : List zBz) (k : List Bool) (i : Nat) {x : zBz} (hx : q[i]? = some x) : cW (q.take (i + 1)) k = cW (q.take i) k ++ (if k[i]? = some true then [x] else []) := by
 induction q generalizing k i with
 | nil => simp at hx
 | cons y r ih =>
  cases i with
  | zero =>
   simp at hx; subst hx; cases k with
   | nil => simp [cW]
   | cons b k => cases b <;> simp [cW]
  | succ i =>
   simp only [List.getElem?_cons_succ] at hx; simp only [List.take_succ_cons]; cases k with
   | nil => simp [cW]
   | cons b k =>
    have := ih k i hx; cases b <;> simp [cW, this]
theorem DA (q : List zBz) (k : List Bool) {i : Nat} (h : k.length <= i) : cW q k = cW (q.take i) k := by
 induction q generalizing k i with
 | nil => simp
 | cons y r ih =>
  cases k with
  | nil => cases i <;> simp [cW]
  | cons b k =>
   cases i with
   | zero => simp at h
   | succ i =>
    have := ih k (i := i) (by simpa using h); cases b <;> simp [cW, this]
theorem wi {s : Sto} (k : List Bool) (h : s.safe.length + s.queue.length <= 256) (hb : ∀ b ∈ dv s, b.length <= 2000) : iT s k = some (mn s k) := by
 unfold iT; have e : dg s.safe = some s.safe := if_pos (by omega); rw [e, aw]; have h2 : cP (en s k) (0, s.safe) = some (s.safe ++ cW s.queue k) := by
  have := kD (body := en s k) (fun i => ((i : Int), s.safe ++ cW (s.queue.take i) k)) s.queue.length (e := s.safe ++ cW s.queue k) (fun i hi => by
   have hx : s.queue[i]? = some (s.queue[i]'hi) := List.getElem?_eq_getElem _; generalize s.queue[i]'hi = x at hx; have hl := (jr (s.queue.take i) k).length_le; rw [List.length_take] at hl; unfold en; simp only; rw [gR (by omega), cond_true, eT, hx, aw, vF _ _ _ hx]; by_cases c : i < k.length
   ·have hk : k[i]? = some (k[i]'c) := List.getElem?_eq_getElem _; generalize k[i]'c = b at hk; rw [gR (by omega), cond_true, eT, hk, aw]; cases b with
    | true =>
     rw [cond_true, eI (by simp; omega), aw, aw, bZ (by omega), aw]; simp
    | false =>
     rw [cond_false, aw, bZ (by omega), aw]; simp
   ·rw [gQ (by omega), cond_false, aw, bZ (by omega), aw]; have : k[i]? = none := by rw [List.getElem?_eq_none_iff]; omega
    rw [this]; simp) (by
   unfold en; simp only [List.take_length]; rw [gQ (by omega), cond_false])
  simpa [cW] using this
 rw [h2, aw, uy, aw]
 ·rfl
 ·have hs := jr s.queue k; refine ⟨by have := hs.length_le; simp; omega, fun b hb' => ?_⟩; have : b ∈ dv s := by
   simp only [dv]; rcases List.mem_append.1 hb' with hb' | hb'
   ·simp [hb']
   ·simp [hs.subset hb']
  exact Nat.le_trans (hb b this) (by omega)
theorem DY {s : Sto} (k : List Bool) (h : s.safe.length + s.queue.length <= 256) (hb : ∀ b ∈ dv s, b.length <= 2000) : eW s k = some (mn s k) := by
 unfold eW; rw [eI (by simp; omega), aw, List.nil_append]; have h2 : cP (dY s k) (0, s.safe) = some (s.safe ++ cW s.queue k) := by
  have hmin : ∀ n, n = min s.queue.length k.length -> cW (s.queue.take n) k = cW s.queue k := fun n hn => by
   by_cases c : s.queue.length <= k.length
   ·rw [hn, Nat.min_eq_left c, List.take_length]
   ·rw [hn, Nat.min_eq_right (by omega), <- DA _ _ (Nat.le_refl _)]
  have := kD (body := dY s k) (fun i => ((i : Int), s.safe ++ cW (s.queue.take i) k)) (min s.queue.length k.length) (e := s.safe ++ cW s.queue k) (fun i hi => by
   have hx : s.queue[i]? = some (s.queue[i]'(by omega)) := List.getElem?_eq_getElem _; generalize s.queue[i]'(by omega) = x at hx; have hl := (jr (s.queue.take i) k).length_le; rw [List.length_take] at hl; have hk : k[i]? = some (k[i]'(by omega)) := List.getElem?_eq_getElem _; generalize k[i]'(by omega) = b at hk; unfold dY; simp only; rw [gR (by omega), cond_true, gR (by omega), cond_true, eT, hk, aw, vF _ _ _ hx]; cases b with
   | true =>
    rw [cond_true, eT, hx, aw, eI (by simp; omega), aw, aw, bZ (by omega), aw]; simp [hk]
   | false =>
    rw [cond_false, aw, bZ (by omega), aw]; simp [hk]) (by
   unfold dY; simp only; rw [hmin _ rfl]; by_cases c : s.queue.length <= k.length
   ·rw [Nat.min_eq_left c, gQ (by omega), cond_false]
   ·rw [Nat.min_eq_right (by omega), gR (by omega), cond_true, gQ (by omega), cond_false])
  simpa [cW] using this
 rw [h2, aw, vR, aw]
 ·rfl
 ·have hs := jr s.queue k; refine ⟨by have := hs.length_le; simp; omega, fun b hb' => ?_⟩; have : b ∈ dv s := by
   simp only [dv]; rcases List.mem_append.1 hb' with hb' | hb'
   ·simp [hb']
   ·simp [hs.subset hb']
  exact Nat.le_trans (hb b this) (by omega)
open Classical in
theorem Gi (a b : List Ob) (ha : a.length <= 1000000) : cb a b = some (decide (a = b)) := by
 unfold cb; refine Ok.get ?_; refine Ok.cond (fun c => Ok.ret ?_) fun c => ?_
 ·have : a.length ≠ b.length := by simp at c; omega
  rw [eq_comm, decide_eq_false_iff_not]; intro e; subst e; exact this rfl
 have hl : a.length = b.length := by simp at c; omega
 refine Ok.bind (P := fun o => o = if a = b then .inl () else .inr false) ?_ ?_
 ·refine Ok.loop (fun s : Int => ∃ i : Nat, s = i /\ i <= a.length /\ ∀ j x y, j < i -> a[j]? = some x -> b[j]? = some y -> x = y) (fun s : Int => a.length - s.toNat) ⟨0, rfl, by omega, fun j x y h => by omega⟩ ?_; rintro _ ⟨i, rfl, h1, h2⟩; unfold gY; refine Ok.cond (fun c => ?_) fun c => Ok.ret ?_
  ·simp only [decide_eq_true_eq] at c; have hx : a[i]? = some (a[i]'(by omega)) := List.getElem?_eq_getElem _; have hy : b[i]? = some (b[i]'(by omega)) := List.getElem?_eq_getElem _; generalize a[i]'(by omega) = x at hx; generalize b[i]'(by omega) = y at hy; simp only [eT, hx, hy, aw]; have hstop : x ≠ y -> (Sum.inr false : Unit ⊕ Bool) = if a = b then .inl () else .inr false := fun hne => by
    rw [if_neg]; intro e; subst e; rw [hx] at hy; exact hne (Option.some.inj hy)
   have hgo : x = y -> ∀ j x' y', j < i + 1 -> a[j]? = some x' -> b[j]? = some y' -> x' = y' := fun he j x' y' hj hx' hy' => by
    by_cases e : j = i
    ·subst e; rw [hx] at hx'; rw [hy] at hy'; cases hx'; cases hy'; exact he
    ·exact h2 j x' y' (by omega) hx' hy'
   refine Ok.cond (fun c2 => Ok.ret (hstop fun e => ?_)) fun c2 => ?_
   ·subst e; simp at c2
   refine Ok.cond (fun c3 => Ok.ret (hstop fun e => ?_)) fun c3 => ?_
   ·subst e; simp at c3
   rw [bZ (by omega), aw]; have he : x = y := Ob.same.1 ⟨by simpa using c2, by simpa using c3⟩; exact Ok.ret ⟨⟨i + 1, by omega, by omega, hgo he⟩, by omega⟩
  ·simp only [decide_eq_false_iff_not] at c; rw [if_pos (qX hl h2 (by omega))]
 ·rintro o rfl; by_cases e : a = b
  ·rw [if_pos e, decide_eq_true e]; exact Ok.ret rfl
  ·rw [if_neg e, decide_eq_false e]; exact Ok.ret rfl
theorem Gj (a b : List zBz) (ha : a.length <= 1000000) : cc a b = some (decide (a = b)) := by
 unfold cc; refine Ok.get ?_; refine Ok.cond (fun c => Ok.ret ?_) fun c => ?_
 ·have : a.length ≠ b.length := by simp at c; omega
  rw [eq_comm, decide_eq_false_iff_not]; intro e; subst e; exact this rfl
 have hl : a.length = b.length := by simp at c; omega
 refine Ok.bind (P := fun o => o = if a = b then .inl () else .inr false) ?_ ?_
 ·refine Ok.loop (fun s : Int => ∃ i : Nat, s = i /\ i <= a.length /\ ∀ j x y, j < i -> a[j]? = some x -> b[j]? = some y -> x = y) (fun s : Int => a.length - s.toNat) ⟨0, rfl, by omega, fun j x y h => by omega⟩ ?_; rintro _ ⟨i, rfl, h1, h2⟩; unfold gZ; refine Ok.cond (fun c => ?_) fun c => Ok.ret ?_
  ·simp only [decide_eq_true_eq] at c; have hx : a[i]? = some (a[i]'(by omega)) := List.getElem?_eq_getElem _; have hy : b[i]? = some (b[i]'(by omega)) := List.getElem?_eq_getElem _; generalize a[i]'(by omega) = x at hx; generalize b[i]'(by omega) = y at hy; simp only [eT, hx, hy, aw]; have hstop : x ≠ y -> (Sum.inr false : Unit ⊕ Bool) = if a = b then .inl () else .inr false := fun hne => by
    rw [if_neg]; intro e; subst e; rw [hx] at hy; exact hne (Option.some.inj hy)
   have hgo : x = y -> ∀ j x' y', j < i + 1 -> a[j]? = some x' -> b[j]? = some y' -> x' = y' := fun he j x' y' hj hx' hy' => by
    by_cases e : j = i
    ·subst e; rw [hx] at hx'; rw [hy] at hy'; cases hx'; cases hy'; exact he
    ·exact h2 j x' y' (by omega) hx' hy'
   refine Ok.cond (fun c2 => Ok.ret (hstop fun e => ?_)) fun c2 => ?_
   ·subst e; simp at c2
   rw [bZ (by omega), aw]; have he : x = y := by simpa using c2
   exact Ok.ret ⟨⟨i + 1, by omega, by omega, hgo he⟩, by omega⟩
  ·simp only [decide_eq_false_iff_not] at c; rw [if_pos (qX hl h2 (by omega))]
 ·rintro o rfl; by_cases e : a = b
  ·rw [if_pos e, decide_eq_true e]; exact Ok.ret rfl
  ·rw [if_neg e, decide_eq_false e]; exact Ok.ret rfl
theorem we {a : List Ob} (ha : a.length <= 1000000) : cb a a = some true := (Gi a a ha).trans (by simp)
theorem wg {a : List zBz} (ha : a.length <= 1000000) : cc a a = some true := (Gj a a ha).trans (by rw [decide_eq_true rfl])
theorem Gk {s : Sto} (h1 : s.objects.length <= 1000000) (h2 : s.safe.length <= 1000000) (h3 : s.queue.length <= 1000000) : fm s s = some true := by
 unfold fm; rw [we h1, aw, cond_true, wg h2, aw, cond_true, wg h3, aw]
theorem oX {x : Std} (h1 : x.s.objects.length <= 1000000) (h2 : x.s.safe.length <= 1000000) (h3 : x.s.queue.length <= 1000000) : eJ x x = some true := by
 unfold eJ; rw [Gk h1 h2 h3, aw, cond_true]; simp
theorem AO (x : Gott) : fw x x = some true := by
 unfold fw; simp
theorem SInv.openOk {m : Nat} {s : Sto} (h : SInv m s) (hm : m <= 256) : (dv s).length <= 1000000 /\ ∀ b ∈ dv s, b.length <= 1000000 := by
 obtain ⟨h1, h2, h3⟩ := h.small hm; exact ⟨by simp [dv]; omega, fun b hb => Nat.le_trans (h3 b hb) (by omega)⟩
theorem re {m : Nat} {s : Sto} (h : SInv m s) (hm : m <= 256) : ge s = some true := by
 obtain ⟨h1, h2, h3⟩ := h.small hm; unfold ge; rw [Ik h hm, aw, vR (h.openOk hm), aw, h.good.open, zd rfl, cond_true]; simp only; rw [we (by omega), aw]
theorem Eh {m : Nat} {s : Sto} (h : SInv m s) (hm : m <= 256) : fG s = some true := by
 obtain ⟨h1, h2, h3⟩ := h.small hm; unfold fG; rw [iF _ (by simp; omega) (by simp), aw]; have e : [s.safe, s.queue].flatten = dv s := by simp [dv]
 rw [e, uy (h.openOk hm), aw, h.good.open, zd rfl, cond_true]; simp only; have := vk s.objects s.objects (by omega) (fun x hx => Nat.le_trans (h.obs.1.len x hx) (by omega)); exact (fW (this.trans (by simp)))
theorem iN {m : Nat} {s : Sto} (h : SInv m s) (hm : m <= 256) {x : zBz} (hx : x.length <= 99000) : cU s x = some ⟨(cZ s x).1, (cZ s x).2.1, (cZ s x).2.2⟩ := by
 unfold cU; rw [Iv h hm hx, aw]
theorem tO {m : Nat} {s : Sto} (h : SInv m s) (hm : m <= 256) (k : Vec 32) : ey s k = some ⟨evF s k, ⟨List.replicate 32 0, rfl⟩, if aP s.objects k.l = none then 331 else 0⟩ := by
 unfold ey; rw [Kp h hm, aw]
theorem Ad {m : Nat} {s : Sto} (h : SInv m s) (hm : m <= 256) {k : Vec 32} (hf : aP s.objects k.l = none) : dL s k = some ⟨[], 331⟩ := by
 unfold dL; rw [AU h hm, hf, aw]
theorem Hl {m : Nat} {s : Sto} (h : SInv m s) (hm : m <= 256) {k : Vec 32} {i : Nat} {x : Ob} (hf : aP s.objects k.l = some i) (hx : s.objects[i]? = some x) : dL s k = some ⟨x.data, 0⟩ := by
 unfold dL; rw [AU h hm, hf, aw]; simp [List.getD_eq_getElem?_getD, hx]
theorem Hq (k : UInt8) : sJ (k.toNat : Int) 8 = some ((k.toNat % 8 : Nat) : Int) := by
 rw [Ib (by omega) (by omega)]; norm_cast
theorem Mi (x : zBz) : slc x 0 (min (x.length : Int) 40) = some (x.take 40) := by
 rw [kJ (by omega)]; simp only [Int.toNat_zero, List.drop_zero, Option.some.injEq]; by_cases c : x.length <= 40
 ·rw [show (min (x.length : Int) 40).toNat = x.length by omega, List.take_length, List.take_of_length_le c]
 ·rw [show (min (x.length : Int) 40).toNat = 40 by omega]
theorem Mr (n : Nat) : (bif ((n : Int) == 0) then some ((n : Int) == 0) else bif ((n : Int) == 1) then some ((n : Int) == 1) else bif ((n : Int) == 2) then some ((n : Int) == 2) else some ((n : Int) == 3)) = some (decide (n < 4)) := by
 by_cases a : n = 0
 ·subst a; rfl
 rw [qg (by omega), cond_false]; by_cases b : n = 1
 ·subst b; rfl
 rw [qg (by omega), cond_false]; by_cases c : n = 2
 ·subst c; rfl
 rw [qg (by omega), cond_false]; by_cases d : n = 3
 ·subst d; rfl
 rw [qg (by omega), decide_eq_false (by omega)]
theorem Ms {n : Nat} (c : ¬ n < 4) : (bif ((n : Int) == 4) then some ((n : Int) == 4) else some ((n : Int) == 5)) = some (decide (n < 6)) := by
 by_cases a : n = 4
 ·subst a; rfl
 rw [qg (by omega), cond_false]; by_cases b : n = 5
 ·subst b; rfl
 rw [qg (by omega), decide_eq_false (by omega)]
theorem Ge {m : Nat} {s : Sto} (h : SInv m s) (hm : m <= 256) (x : SRaw) : fp s x = some (oY s x) := by
 obtain ⟨h1, h2, h3⟩ := h.small hm; have hl : (x.data.take 40).length <= 40 := by simp; omega
 unfold fp oY; rw [Mi, aw, Hq, aw]; generalize x.kind.toNat % 8 = n; rw [Mr, aw]; by_cases c : n < 4
 ·rw [decide_eq_true c, cond_true, if_pos c, uC h hm (by omega), aw]
 rw [decide_eq_false c, cond_false, if_neg c]; rw [Ms c, aw]; by_cases c6 : n < 6
 ·rw [decide_eq_true c6, cond_true, if_pos c6, yz (by omega), aw, Ke h hm, aw]
 rw [decide_eq_false c6, cond_false, if_neg c6]; by_cases c7 : n = 6
 ·subst c7; rw [zd (show ((6 : Nat) : Int) = 6 from rfl), cond_true, if_pos rfl, Gf h hm, aw]
 ·rw [qg (by omega), cond_false, if_neg c7, DY _ (by omega) h3, aw]
theorem DU (l : List SRaw) {n : Nat} {x : SRaw} (hx : l[n]? = some x) : fO l (n + 1) = oY (fO l n) x := by
 unfold fO; rw [List.take_add_one, hx]; simp
theorem HO (l : List SRaw) (n : Nat) (hn : n <= 250) : gn l (n : Int) = some (fO l n) := by
 unfold gn; have h2 : cP (eB l (n : Int)) (0, [], [], []) = some ((fO l n).objects, (fO l n).safe, (fO l n).queue) := by
  have hmin : ∀ k, k = min l.length n -> fO l k = fO l n := fun k hk => by
   unfold fO; by_cases c : l.length <= n
   ·rw [hk, Nat.min_eq_left c, List.take_length, List.take_of_length_le c]
   ·rw [hk, Nat.min_eq_right (by omega)]
  have := kD (body := eB l (n : Int)) (fun i => ((i : Int), (fO l i).objects, (fO l i).safe, (fO l i).queue)) (min l.length n) (e := ((fO l n).objects, (fO l n).safe, (fO l n).queue)) (fun i hi => by
   have hx : l[i]? = some (l[i]'(by omega)) := List.getElem?_eq_getElem _; generalize l[i]'(by omega) = x at hx; unfold eB; simp only; rw [gR (by omega), cond_true, gR (by omega), cond_true, eT, hx, aw, Ks, Ge (Ae l i (by omega)) (by omega), aw, bZ (by omega), aw, DU l hx]; rfl) (by
   unfold eB; simp only; rw [hmin _ rfl]; by_cases c : l.length <= n
   ·rw [Nat.min_eq_left c, gQ (by omega), cond_false]
   ·rw [Nat.min_eq_right (by omega), gR (by omega), cond_true, gQ (by omega), cond_false])
  exact this
 rw [h2, aw]
end
section
section
variable {P : Program} {G : zGz} {N : Nat} {F : Fr} {ops rest : zOz} {o : Oper} {Q : zQz} {h : zHz} {env : zEz} {nx : Nat} {st : St} {μ : zMz} {C : av} {a : Act} {w w' : World}
structure Marked (b : Nat) (w w' : World) : Prop where
 os : w'.os = w.os
 tape : w'.tape = w.tape
 output : w'.output = w.output
 size : w'.heap.size = w.heap.size
 block : ∀ k, k ≠ b -> w'.heap[k]? = w.heap[k]?
 cell : ∀ k o, w'.cell? ⟨k, o, none⟩ = w.cell? ⟨k, o, none⟩
theorem yT (w : World) (b m : Nat) {cur : Array Value} {T : TypeId} (hb : w.heap[b]? = some (.cells cur T (0, 0))) : Marked b w (w.freeze ⟨b, m, none⟩ 1) := by
 have hh : ∀ k, (w.freeze ⟨b, m, none⟩ 1).heap[k]? = if k = b then some (.cells cur T (m, m + 1)) else w.heap[k]? := by
  intro k; unfold World.freeze; rw [if_neg (by decide)]; simp only [Array.getElem?_modify]; by_cases e : k = b
  ·subst e; simp [hb]
  ·simp [e, Ne.symm e]
 refine ⟨?_, ?_, ?_, ?_, fun k hk => by rw [hh, if_neg hk], fun k o => ?_⟩
 ·unfold World.freeze; rw [if_neg (by decide)]
 ·unfold World.freeze; rw [if_neg (by decide)]
 ·unfold World.freeze; rw [if_neg (by decide)]
 ·unfold World.freeze; rw [if_neg (by decide)]; simp
 ·simp only [World.cell?, hh]; by_cases e : k = b
  ·subst e; simp [hb]
  ·simp [e]
theorem Sim.mark {l : Nat} {k : Blk} {p : Place} (rows : zRz) (hs : Sim F st μ C a w) (hk : look st.h l = some k) (hr : k.rows = rows.map fun r => r.map V.d) (hp : μ l = some p) (hc : 0 < p.cap) (hw : Marked p.b w w') :
  ∃ C', (∀ b o u, C b o u -> C' b o u) /\ (∀ y v, ax μ C y v -> ax μ C' (bf l k.sz rows y) v) /\ Sim F ⟨cQ l k.sz rows st.env, bO l st.h, st.nx⟩ μ C' a w' := by
 obtain ⟨p', hp', hb⟩ := hs.heap l k hk; rw [hp] at hp'; cases hp'; have hrow : ∀ x ∈ rows, x.length = k.sz := by
  intro x hx; have := hb.row (x.map V.d) (by rw [hr]; exact List.mem_map.2 ⟨x, hx, rfl⟩); simpa using this
 have hlen : rows.length <= p.cap := by have := hb.len; rw [hr] at this; simpa using this
 obtain ⟨b1, b2, cur, T, b3, b4, b5⟩ := hb.cells hc; have hkm : k.isMap = false := by
  have := fe k.sz rows; rw [<- hr] at this; exact this
 rw [hkm] at b3; have b3 := b3.cells; have k1 : ∀ b o u, C b o u -> jX C p.b cur b o u := fun _ _ _ h => .inl h
 have hne : ∀ b o u, C b o u -> b ≠ p.b := fun b o u h e => b2 o u (e ▸ h)
 have hcell : ∀ b o, b ≠ p.b -> w'.cell? ⟨b, o, none⟩ = w.cell? ⟨b, o, none⟩ := fun b o _ => hw.cell b o
 have k3 : bI (jX C p.b cur) w' := fun b o u h => by
  rcases h with h | ⟨rfl, h⟩
  ·have hb := hne _ _ _ h; rcases hs.known b o u h with h | h
   ·left; rw [hcell _ _ hb]; exact h
   ·right; obtain ⟨es, c, h1, h2⟩ := h; exact ⟨es, c, by rw [hw.block _ hb]; exact h1, h2⟩
  ·left; rw [hw.cell, cell_of_row w p.b o _ _ _ b3]; exact h
 have k4 : 0 < p.cap -> ∀ (i : Nat) (r : List D), rows[i]? = some r -> Rp (jX C p.b cur) (.mem r p.b (i * p.sz)) := fun _ i r hi => by
  refine gt fun j d hj => ?_
  have h1 : k.rows[i]? = some (r.map V.d) := by rw [hr]; simp [hi]
  obtain ⟨u, a1, a2, a3⟩ := b5 i _ h1 j (.d d) (by simp [hj]); exact ⟨u, .inr ⟨rfl, by rw [hb.sz]; simpa using a1⟩, a2, Rp.mono (fun _ _ _ h => .inl h) a3⟩
 have hrep : ∀ y v, ax μ C y v -> ax μ (jX C p.b cur) (bf l k.sz rows y) v := fun y v hy => wU hp hb hrow hlen k1 k4 hy
 have hsz := hw.size; refine ⟨jX C p.b cur, k1, hrep, ⟨hs.size, ?_, ⟨by rw [hw.os]; exact hs.below.os, by rw [hw.tape]; exact hs.below.tape, by rw [hw.output]; exact hs.below.output, by rw [hsz]; exact hs.below.size, fun b hlt hn => ?_⟩, fun b o u h => k1 _ _ _ (hs.sub _ _ _ h), fun b o u h => ?_, k3, fun t x hx => ?_, fun l' k' hk' => ?_, fun l1 l2 p1 p2 h1 h2 => ?_, hs.nx, ?_⟩⟩
 ·refine hs.defers.step fun q _ hq => ?_
  have : q ≠ p.b := fun e => by rw [e, b3] at hq; cases hq
  rw [hw.block _ this]; exact hq
 ·have : b ≠ p.b := fun e => by
   subst e; rcases b1 with h | h
   ·omega
   ·exact hn h
  rw [hw.block _ this]; exact hs.below.block b hlt hn
 ·rcases h with h | ⟨rfl, _⟩
  ·exact hs.new _ _ _ h
  ·exact .inr b1
 ·rw [ju] at hx; cases hl : look st.env t with
  | none => rw [hl] at hx; cases hx
  | some y =>
   rw [hl] at hx; cases hx; exact hrep _ _ (hs.env t y hl)
 ·rw [dP] at hk'; split at hk'
  ·cases hk'
  ·rename_i hne'; obtain ⟨p', hp', hb'⟩ := hs.heap l' k' hk'; refine ⟨p', hp', hb'.sz, hb'.len, hb'.max, hb'.row, fun hc' => ?_⟩; obtain ⟨c1, c2, cur2, T2, c3, c4, c5⟩ := hb'.cells hc'; have hpb : p'.b ≠ p.b := fun e => hne' (hs.inj l' l p' p (by rw [hk']; rfl) (by rw [hk]; rfl) hp' hp hc' hc e)
   refine ⟨c1, fun o u hcu => ?_, cur2, T2, c3.of_eq (hw.block _ hpb), c4, c5.mono (fun _ _ h => h) k1⟩; rcases hcu with h | ⟨e, _⟩
   ·exact c2 o u h
   ·exact hpb e
 ·simp only [dP] at h1 h2; split at h1
  ·cases h1
  ·split at h2
   ·cases h2
   ·exact hs.inj l1 l2 p1 p2 h1 h2
 ·refine F.stab hs.gh ⟨hw.os, hw.tape, hw.output, by rw [hsz]; exact Nat.le_refl _, fun _ _ _ h => h, fun j hj => .inl (by simp only [dP] at hj; split at hj <;> first | cases hj | exact hj), fun b hb hn => ?_, fun b ⟨l', k', q, g1, g2⟩ => .inl ?_, k1, fun b o u h => ?_, k3⟩
  ·refine hw.block b fun e => hn ⟨l, k, p, hk, hp, hc, e.symm⟩
  ·rw [dP] at g1; split at g1
   ·cases g1
   ·exact ⟨l', k', q, g1, g2⟩
  ·rcases h with h | ⟨rfl, _⟩
   ·exact .inl h
   ·exact .inr (.inl ⟨l, k, p, hk, hp, hc, rfl⟩)
theorem SmG.mark (hF : Env F P G N) {t e : TypeId} {x : Operand} {l : Nat} {rows : zRz} {d : Tmp} (ho : o.op = .convert t t x) (hd : o.dst = some d) (hdN : Nat.blt d N = true) (hg : aC ops env o.guard = some true) (hx : evB G env x = some (.sref l 0 rows.length)) (hk : ah h l = some (dB 1 rows)) (hne : rows ≠ [])
  (h1 : P.underlying t = some (.slice e)) (h2 : P.underlying e = some (.int .u8)) (k : SmG F N ops rest Q ⟨(d, .d (.list 1 rows false)) :: cQ l 1 rows env, bO l h, nx⟩) : SmG F N ops (o :: rest) Q ⟨env, h, nx⟩ := by
 have hdN' : d < N := by simpa [Nat.blt_eq] using hdN
 rw [aO] at hk; rw [aW] at hx; intro hsm μ C a w hs; have hsm2 : St.small N ⟨(d, .d (.list 1 rows false)) :: cQ l 1 rows env, bO l h, nx⟩ := by
  refine bM (env := cQ l 1 rows env) (h := bO l h) (nx := nx) ?_ hdN'; intro s y hy; simp only [ju] at hy; cases hq : look env s with
  | none => rw [hq] at hy; cases hy
  | some y' => exact hsm s y' hq
 have k2 := k hsm2; obtain ⟨rfl, rfl, hG⟩ := hF; refine ci (fun _ c e => by rw [ho] at e; cases e) fun K hK => ?_
 rw [bL hs (aQ hg) hsm, if_pos rfl]; have hxv := bY hs hG hx; obtain ⟨p, ao, hp, hv, hle, hao⟩ := hxv; obtain ⟨p', hp', hb⟩ := hs.heap l _ hk; rw [hp] at hp'; cases hp'; have hpos : 0 < rows.length := List.length_pos_iff.2 hne; have hc : 0 < p.cap := by omega
 obtain rfl := hao hc; obtain ⟨b1, b2, cur, T, b3, b4, b5⟩ := hb.cells hc; have hkm : (dB 1 rows).isMap = false := fe 1 rows; rw [hkm] at b3; have b3 := b3.cells; have hM := yT w p.b cur.size b3; obtain ⟨C', hsub, hrep, hsim⟩ := Sim.mark (k := dB 1 rows) rows hs hk rfl hp hc hM; have hr : ax μ C' (.d (.list 1 rows false)) (a.eval x) := by
  have := hrep _ _ (bY hs hG hx); rw [show (dB 1 rows).sz = 1 from rfl, xY] at this; exact this
 have hsh : w.shape? p.b = some (T, cur.size) := by unfold World.shape?; rw [b3]
 have hz : 0 * p.sz = 0 := by omega
 have hex : (execOp a.eval o).run F.P w = .ok (.value (a.eval x)) (w.freeze ⟨p.b, cur.size, none⟩ 1) := by
  rw [rZ ho, hv]; simp [convert, Sem.run_bind, run_underlying h1, run_underlying h2, markStringish, hsh, Result.andThen_ok]
 unfold Oper.wp; rw [hex, Oper.upon_value, hd]; exact hK _ _ (k2 μ C' _ _ (hsim.put hdN' hr))
theorem bT.make (hF : Env F P G N) {t e : TypeId} {z : Value} {size bytes : Nat} {h0 : zHz} (hE : ElemT P t e z size bytes) (hz : z.cells.toList.all (·.oneCell') = true) {x y : Operand} {k1 k2 : IntKind} (n : Nat) (ho : o.op = .makeSlice t x y)
  (hx : evD G env x = some (.d (.v (.int k1 n)))) (hy : evD G env y = some (.d (.v (.int k2 n)))) (hn : n <= 281474976710656) (hb : n * bytes <= 140737488355328) :
  bT F G h0 o env (.d (.list size (List.replicate n (z.cells.toList.map bE)) false)) := by
 intro μ C a w nx' hh hs _ hop K Q hK; obtain ⟨rfl, rfl, hG⟩ := hF; have hxv := bt (hop x (by rw [ho]; simp [Op.operands]) _ hx); have hyv := bt (hop y (by rw [ho]; simp [Op.operands]) _ hy); have hrun := AJ (P := F.P) hE (k1 := k1) (k2 := k2) hn hb w; unfold Oper.wp; have hex : (execOp a.eval o).run F.P w = .ok (.value (.slice (some ⟨w.heap.size, 0, none⟩) n n)) (w.alloc (.cells ((Array.range (n * size)).map (fun i => (if n * size = 0 then #[] else z.cells)[i % (if n * size = 0 then #[] else z.cells).size]!)) e)) := by
  simp only [execOp, ho, hxv, hyv]; simp [Sem.run_bind, hrun, Result.andThen]
 rw [hex, Oper.upon_value]; have hk := hs.known; have hzl : z.cells.toList.length = size := by rw [Array.length_toList]; exact hE.zs
 generalize hcur : ((Array.range (n * size)).map (fun i => (if n * size = 0 then #[] else z.cells)[i % (if n * size = 0 then #[] else z.cells).size]!)) = cur; have hbl : Below w.heap.size w (w.alloc (.cells cur e)) := (Below.refl _ w).alloc (Nat.le_refl _) _; have hnew : (w.alloc (.cells cur e)).heap[w.heap.size]? = some (.cells cur e) := heap_alloc_new w _; have hcell : ∀ i j (d : D), i < n -> (z.cells.toList.map bE)[j]? = some d -> ∃ u, cur[i * size + j]? = some u /\ u.oneCell' = true /\ d = bE u := fun i j d hin hj => by
  have hjs : j < size := by have := (List.getElem?_eq_some_iff.1 hj).1; simp only [List.length_map] at this; omega
  have hzj : z.cells.toList[j]? = some z.cells.toList[j] := List.getElem?_eq_getElem (by omega); rw [List.getElem?_map, hzj] at hj; simp only [Option.map_some, Option.some.injEq] at hj; have hlt : i * size + j < n * size := by
   have := Nat.mul_le_mul_right size (show i + 1 <= n by omega); rw [Nat.succ_mul] at this; omega
  have hne : n * size ≠ 0 := by omega
  have hm : (i * size + j) % z.cells.size = j := by rw [hE.zs, Nat.mul_comm, Nat.mul_add_mod, Nat.mod_eq_of_lt hjs]
  refine ⟨z.cells.toList[j], ?_, List.all_eq_true.1 hz _ (List.getElem_mem _), hj.symm⟩; rw [<- hcur]; simp only [if_neg hne]; rw [Array.getElem?_map, Array.getElem?_range, if_pos hlt]; simp only [Option.map_some, hm]
  congr 1
  rw [getElem!_pos z.cells j (by rw [hE.zs]; exact hjs)]; simp
 refine hK _ _ (jX C w.heap.size cur) ⟨hbl, fun _ _ _ h => .inl h, fun b o u h => h.imp id (fun h => by omega), fun b o u h => ?_⟩ ?_
 ·rcases h with h | ⟨rfl, h⟩
  ·exact hk.below hbl b o u h
  ·left; rw [cell_of_row _ _ o _ _ _ hnew]; exact h
 ·show Rep _ _ _; by_cases h0 : n = 0
  ·subst h0; exact .nil _ _ _ _ ⟨Nat.le_refl _, by simp, by omega, (by intro h; cases h), fun x hx _ => by cases hx; rfl⟩
  ·have hl : (List.replicate n (z.cells.toList.map bE)).length = n := by simp
   have := Rp.list (C := jX C w.heap.size cur) size (List.replicate n (z.cells.toList.map bE)) false w.heap.size 0 n (by intro e; rw [e] at hl; simp at hl; omega) ⟨by omega, by simp, by omega, (by intro h; cases h), fun x hx _ => by cases hx; rfl⟩
    (jU fun i x hi => by
     have hin : i < n := by have := (List.getElem?_eq_some_iff.1 hi).1; simpa using this
     rw [List.getElem?_replicate, if_pos hin] at hi; cases hi; refine ⟨by simpa using hzl, gt fun j d hj => ?_⟩; obtain ⟨u, h1, h2, rfl⟩ := hcell i j d hin hj; exact ⟨u, .inr ⟨rfl, by simpa using h1⟩, h2, kQ _⟩)
   rw [hl] at this; exact this
end
end
section
theorem mX (x : Std) : (Std.row x).length = 36 := by simp [Std.row, cq x.k.h]
theorem nI {t : TypeId} {n m off : Nat} {R S : List D} {h : zHz} {l : Nat} (hl : look h l = some ⟨n, [R.map V.d]⟩) (ha : bg Tryd.prog t = some true) (hs : az Tryd.prog t = some m) (hR : R.length = n) (hle : off + m <= n) (hS : (R.drop off).take m = S) : aX Tryd.prog h t (.ref l 0 off) = some (.d (.agg m S)) := by
 have hsg : seg (R.map V.d) n off m = S.map V.d := by
  unfold seg; split
  ·rename_i e; obtain ⟨rfl, rfl⟩ := e; rw [<- hS, List.drop_zero, <- hR, List.take_length]
  ·rw [<- List.map_drop, <- List.map_take, hS]
 have hp : bw (S.map V.d) = some S := gK _; simp only [aX, hl, Option.bind_some, List.getElem?_cons_zero, cA, ha, hs, hsg, hp, hle]; rfl
theorem oG {t : TypeId} {n off : Nat} {R : List D} {y : D} {h : zHz} {l : Nat} (hl : look h l = some ⟨n, [R.map V.d]⟩) (ha : bg Tryd.prog t = some false) (hy : R[off]? = some y) : aX Tryd.prog h t (.ref l 0 off) = some (.d y) := by
 simp only [aX, hl, Option.bind_some, List.getElem?_cons_zero, cA, ha, List.getElem?_map, hy, Option.map_some]
theorem ur {h : zHz} {l : Nat} {x : Std} (hl : look h l = some ⟨36, [(Std.row x).map V.d]⟩) : aX Tryd.prog h 45 (.ref l 0 0) = some (.d (.agg 36 (Std.row x))) := nI hl KG LI (mX x) (by decide) (by rw [List.drop_zero, List.take_of_length_le (by rw [mX]; decide)])
theorem eh {h : zHz} {l : Nat} {x : Std} (hl : look h l = some ⟨36, [(Std.row x).map V.d]⟩) : aX Tryd.prog h 27 (.ref l 0 0) = some (.d (.agg 3 (Sto.row x.s))) := nI hl mB gM (mX x) (by decide) (by simp [Std.row, Sto.row])
theorem iK {h : zHz} {l : Nat} {x : Std} (hl : look h l = some ⟨36, [(Std.row x).map V.d]⟩) : aX Tryd.prog h 42 (.ref l 0 3) = some (.d (.agg 32 (ay x.k.l))) := nI hl mC nP (mX x) (by decide) (by simp [Std.row, cq x.k.h])
theorem vH {h : zHz} {l : Nat} {x : Std} (hl : look h l = some ⟨36, [(Std.row x).map V.d]⟩) : aX Tryd.prog h 43 (.ref l 0 35) = some (.d (.v (.int .i64 x.e))) := oG hl KF (by
 have := cq x.k.h; have h2 : ∀ (y : D) (r : List D), r.length = 32 -> (D.list 33 (x.s.objects.map Ob.row) false :: D.list 1 (x.s.safe.map au) false :: D.list 1 (x.s.queue.map au) false :: (r ++ [y]))[35]? = some y := fun y r hr => by
  simp only [List.getElem?_cons_succ]; rw [List.getElem?_append_right (by omega), hr]; rfl
 exact h2 _ _ this)
theorem DJ {h : zHz} {l : Nat} {x : Std} (hl : look h l = some ⟨36, [(Std.row x).map V.d]⟩) : aX Tryd.prog h 24 (.ref l 0 0) = some (.d (.list 33 (x.s.objects.map Ob.row) false)) := oG hl tY rfl
theorem vI {h : zHz} {l : Nat} {x : Std} (hl : look h l = some ⟨36, [(Std.row x).map V.d]⟩) : aX Tryd.prog h 25 (.ref l 0 2) = some (.d (.list 1 (x.s.queue.map au) false)) := oG hl qd rfl
theorem lw {h : zHz} {l : Nat} {x : Sto} (hl : look h l = some ⟨3, [(Sto.row x).map V.d]⟩) : aX Tryd.prog h 24 (.ref l 0 0) = some (.d (.list 33 (x.objects.map Ob.row) false)) := oG hl tY rfl
theorem yg (s : Sto) (x : zBz) : (cZ s x).1.safe = s.safe /\ ∃ r, (cZ s x).1.queue = s.queue ++ r := by
 by_cases c : 65536 < x.length
 ·rw [qZ s c]; exact ⟨rfl, [], by simp⟩
 cases hf : aP s.objects (Sha.sum x) with
 | some i => rw [jx s c hf]; exact ⟨rfl, [], by simp⟩
 | none =>
  by_cases c2 : 256 <= s.objects.length
  ·rw [oT s c hf c2]; exact ⟨rfl, [], by simp⟩
  ·rw [ma s c hf (by omega)]; exact ⟨rfl, _, rfl⟩
theorem Kb (P : Program) (t : TypeId) (x y : Operand) (l : zBz) : aE P (do eqGuard .eql t x y (.string ⟨l.toArray⟩) (.string ⟨l.toArray⟩); binOp .eql t (.string ⟨l.toArray⟩) (.string ⟨l.toArray⟩)) = some (.bool true) := by
 rw [Cv]; simp
set_option maxHeartbeats 8000000 in
theorem Io : aj Tryd.prog HG 10 [] (.v (.bool true)) := by
 have f0 : aP mc.objects (Sha.sum [97]) = none := rfl; obtain ⟨A, hAe⟩ : ∃ A : Std, A = ⟨(cZ mc [97]).1, (cZ mc [97]).2.1, (cZ mc [97]).2.2⟩ := ⟨_, rfl⟩
 have hAq : A = ⟨⟨[⟨ee [97], [97]⟩], [], [iL 0 [97]]⟩, ee [97], 0⟩ := by rw [hAe, ma _ (by decide) f0 (by decide)]; rfl
 have hAs : A.s = ⟨[⟨ee [97], [97]⟩], [], [iL 0 [97]]⟩ := by rw [hAq]
 have hAk : A.k = ee [97] := by rw [hAq]
 have hA0 : A.e = 0 := by rw [hAq]
 have iA : SInv 1 A.s := by rw [hAe]; exact Dz.put (by decide) (by decide)
 have hNew : aj Tryd.prog HG 11 [] (.agg 3 (Sto.row mc)) := yK.d rfl () mc rfl; have hA : aj Tryd.prog HG 20 [.agg 3 (Sto.row mc), .list 1 (([97] : zBz).map ai) false] (.agg 36 (Std.row A)) := dX.d rfl (mc, ([97] : zBz)) A (by rw [hAe]; exact iN Dz (by decide) (x := [97]) (by decide)); have fA : aP A.s.objects (Sha.sum [97]) = some 0 := by rw [hAs]; simp [aP, ee]
 have hA2 : aj Tryd.prog HG 20 [.agg 3 (Sto.row A.s), .list 1 (([97] : zBz).map ai) false] (.agg 36 (Std.row A)) := dX.d rfl (A.s, ([97] : zBz)) A (by
  show cU A.s [97] = _; rw [iN iA (by decide) (by decide), jx _ (by decide) fA]; exact congrArg some (by rw [hAq]))
 have hSy : aj Tryd.prog HG 27 [.agg 3 (Sto.row A.s)] (.agg 3 (Sto.row (gC A.s))) := wP.d rfl A.s _ (Gt iA (by decide)); have iS := iA.sync; obtain ⟨B, hBe⟩ : ∃ B : Std, B = ⟨(cZ (gC A.s) [98]).1, (cZ (gC A.s) [98]).2.1, (cZ (gC A.s) [98]).2.2⟩ := ⟨_, rfl⟩
 have iB : SInv 2 B.s := by rw [hBe]; exact iS.put (by decide) (by decide)
 have hB : aj Tryd.prog HG 20 [.agg 3 (Sto.row (gC A.s)), .list 1 (([98] : zBz).map ai) false] (.agg 36 (Std.row B)) := dX.d rfl (gC A.s, ([98] : zBz)) B (by rw [hBe]; exact iN iS (by decide) (x := [98]) (by decide)); obtain ⟨Cc, hCe⟩ : ∃ C : Std, C = ⟨(cZ A.s [98]).1, (cZ A.s [98]).2.1, (cZ A.s [98]).2.2⟩ := ⟨_, rfl⟩
 have iC : SInv 2 Cc.s := by rw [hCe]; exact iA.put (by decide) (by decide)
 have hC : aj Tryd.prog HG 20 [.agg 3 (Sto.row A.s), .list 1 (([98] : zBz).map ai) false] (.agg 36 (Std.row Cc)) := dX.d rfl (A.s, ([98] : zBz)) Cc (by rw [hCe]; exact iN iA (by decide) (x := [98]) (by decide)); have hRA : aj Tryd.prog HG 13 [.agg 3 (Sto.row A.s)] (.v (.bool true)) := hO.d rfl A.s true (re iA (by decide)); have hRB : aj Tryd.prog HG 13 [.agg 3 (Sto.row B.s)] (.v (.bool true)) := hO.d rfl B.s true (re iB (by decide)); have hRC : aj Tryd.prog HG 13 [.agg 3 (Sto.row Cc.s)] (.v (.bool true)) := hO.d rfl Cc.s true (re iC (by decide)); obtain ⟨E, hEe⟩ : ∃ E : Std, E = ⟨evF A.s A.k, ⟨List.replicate 32 0, rfl⟩, if aP A.s.objects A.k.l = none then 331 else 0⟩ := ⟨_, rfl⟩
 have fA2 : aP A.s.objects A.k.l = some 0 := by rw [hAk]; exact fA
 have hEq : E = ⟨⟨[], [], [iL 0 [97], nO 1 A.k.l]⟩, ⟨List.replicate 32 0, rfl⟩, 0⟩ := by
  rw [hEe, fA2, if_neg (by simp)]; unfold evF; rw [fA2, hAs]; rfl
 have iE : SInv 2 E.s := by rw [hEe]; exact iA.evict _ (by decide)
 have hE : aj Tryd.prog HG 23 [.agg 3 (Sto.row A.s), .agg 32 (ay A.k.l)] (.agg 36 (Std.row E)) := jV.d rfl (A.s, A.k) E (by rw [hEe]; exact tO iA (by decide) _); have hSS : aj Tryd.prog HG 29 [.agg 36 (Std.row A), .agg 36 (Std.row A)] (.v (.bool true)) := iP.d rfl (A, A) true (oX (by rw [hAs]; decide) (by rw [hAs]; decide) (by rw [hAs]; decide)); obtain ⟨O1, hO1e⟩ : ∃ O, O = mn B.s [] := ⟨_, rfl⟩
 have hO1l : O1.objects.length = 1 := by
  have h1 : (B.s.safe ++ cW B.s.queue []) = [iL 0 [97]] := by
   have : B.s.safe = [iL 0 [97]] := by rw [hBe]; rw [(yg _ _).1, hAs]; rfl
   rw [this]; cases B.s.queue <;> rfl
  have h2 := iS.good.open; have h3 : dv (gC A.s) = [iL 0 [97]] := by rw [hAs]; rfl
  rw [h3] at h2; rw [hO1e, mn, h1, h2, hAs]; rfl
 have hO1 : aj Tryd.prog HG 25 [.agg 3 (Sto.row B.s), .list 0 [] true] (.agg 3 (Sto.row O1)) :=
  (oq.d rfl (B.s, []) O1 (by rw [hO1e]; exact wi _ (iB.small (by decide)).2.1 (iB.small (by decide)).2.2)).args fun C => dq (D.le.refl _) (dq (bN 0 1 true) fun _ h => h)
 obtain ⟨O2, hO2e⟩ : ∃ O, O = mn Cc.s [false, true] := ⟨_, rfl⟩
 have hO2l : O2.objects.length = 0 := by
  obtain ⟨c1, r, c2⟩ := yg A.s [98]; have h1 : Cc.s.safe = [] := by rw [hCe]; rw [c1, hAs]
  have h2 : Cc.s.queue = iL 0 [97] :: r := by rw [hCe]; rw [c2, hAs]; rfl
  have hg := iC.good; have hall : dv Cc.s = iL 0 [97] :: r := by simp [dv, h1, h2]
  unfold oc at hg; rw [hall] at hg; rw [hO2e, mn, h1, h2, List.nil_append]; cases r with
  | nil => rfl
  | cons y r =>
   obtain ⟨o1, o2, g1, g2⟩ := Jz (i := 1) (b := y) hg rfl; have : cW (iL 0 [97] :: y :: r) [false, true] = [y] := by simp [cW]
   rw [this, cY]; cases hy : bx [] ([] : List zBz).length y with
   | none => rfl
   | some o => exact absurd (CX hy g2) (by decide)
 have hO2 : aj Tryd.prog HG 25 [.agg 3 (Sto.row Cc.s), .list 1 [[.v (.bool false)], [.v (.bool true)]] true] (.agg 3 (Sto.row O2)) :=
  (oq.d rfl (Cc.s, [false, true]) O2 (by rw [hO2e]; exact wi _ (iC.small (by decide)).2.1 (iC.small (by decide)).2.2)).args fun C => dq (D.le.refl _) (dq (kM 1 _ true) fun _ h => h)
 have hG1 : aj Tryd.prog HG 22 [.agg 3 (Sto.row E.s), .agg 32 (ay A.k.l)] (.agg 2 (Gott.row ⟨[], 331⟩)) := jd.d rfl (E.s, A.k) _ (Ad iE (by decide) (by rw [hEq]; rfl)); have hG2 : aj Tryd.prog HG 22 [.agg 3 (Sto.row A.s), .agg 32 (ay A.k.l)] (.agg 2 (Gott.row ⟨[97], 0⟩)) := jd.d rfl (A.s, A.k) _ (Hl iA (by decide) fA2 (x := ⟨ee [97], [97]⟩) (by rw [hAs]; rfl)); have hSum : aj Tryd.prog HG 21 [.list 1 (([97] : zBz).map ai) false] (.agg 32 (ay A.k.l)) := by
  rw [hAk]; exact tA [97] (by decide)
 have hS1 : aj Tryd.prog HG 14 [.agg 3 (Sto.row A.s)] (.v (.bool true)) := ov.d rfl A.s true (Eh iA (by decide)); have hS2 : aj Tryd.prog HG 14 [.agg 3 [.list 33 [ay (List.replicate 32 0) ++ [.list 0 [] true]] false, .list 0 [] true, .list 0 [] true]] (.v (.bool false)) := by
  have hz : fG ⟨[⟨⟨List.replicate 32 0, rfl⟩, []⟩], [], []⟩ = some false := by
   unfold fG; rw [iF _ (by decide) (by decide), aw]; simp only [List.flatten_cons, List.flatten_nil, List.append_nil]; rw [uy (by simp), aw]; simp only [cY]; rw [zd rfl, cond_true]; exact fW ((vk [] _ (by decide) (by simp)).trans (by simp))
  refine (ov.d rfl (⟨[⟨⟨List.replicate 32 0, rfl⟩, []⟩], [], []⟩ : Sto) false hz).args fun C => dq ?_ fun _ h => h
  refine fE ⟨?_, bN 0 1 true, bN 0 1 true, trivial⟩; have hA : ∀ (r : List D), LeL (r ++ [.list 0 [] true]) (r ++ [.list 1 [] false]) := fun r => by
   induction r with
   | nil => exact .cons (bN 0 1 true) .nil
   | cons x r ih => exact .cons (D.le.refl x) ih
  exact xy (.cons (hA _) .nil)
 have hEo : E.s.objects.length = 0 := by rw [hEq]; rfl
 have hEl : E.s.queue.length = 2 := by rw [hEq]; rfl
 have hE0 : E.e = 0 := by rw [hEq]
 have hAl : A.s.queue.length = 1 := by rw [hAs]; rfl
 have hkl : A.k.l.length = 32 := A.k.h; clear hAe hAq hAs hAk hBe hCe hEe hEq hO1e hO2e iA iS iB iC iE fA fA2 f0; refine aj.of Tryd.func10 rfl Tryd.ntmps10 (by simp) ?_; intro F hF h0 hT; simp only [List.zipIdx_cons, List.zipIdx_nil, List.map_cons, List.map_nil, Nat.zero_add, Nat.reduceAdd]; refine Sm.seq ?_; refine ab hF rfl ?_; refine gv hF oA (SmG.nil (aa (Sm.seq ?_))); refine ab hF rfl ?_; refine SmG.call hF rfl rfl (by kernel_rfl) rfl rfl rfl (hNew) ?_; refine SmG.buildOwn hF rfl rfl rfl rfl rfl (sz := 1) (rows := ([97] : zBz).map ai) (by simp [bn, Tryd.underlying30, sz5, ze5]; rfl) (by simp) ?_; refine SmG.mark hF (rows := ([97] : zBz).map ai) rfl rfl rfl rfl rfl rfl (by simp) Tryd.underlying30 Tryd.underlying5 ?_; simp only [cQ, bf, ic, dn, cE, bO, if_true, Nat.reduceEqDiff, if_false, Nat.zero_add, List.length_map, Nat.le_refl, and_self]; refine SmG.call hF rfl rfl (by kernel_rfl) rfl rfl rfl (hA) ?_; refine SmG.new hF rfl rfl rfl (aD rfl wD) ?_; refine SmG.store hF rfl rfl rfl rfl rfl (by simp only [go_sem, ac] <;> rfl) ?_; refine SmG.nil (aa (Sm.seq ?_)); refine ab hF rfl ?_; refine gv hF (af rfl rfl (by simp only [go_sem, ac] <;> rfl)) ?_; refine gv hF (ae rfl rfl (eh rfl)) ?_; refine SmG.buildOwn hF rfl rfl rfl rfl rfl (sz := 1) (rows := ([97] : zBz).map ai) (by simp [bn, Tryd.underlying30, sz5, ze5]; rfl) (by simp) ?_; refine SmG.mark hF (rows := ([97] : zBz).map ai) rfl rfl rfl rfl rfl rfl (by simp) Tryd.underlying30 Tryd.underlying5 ?_; simp only [cQ, bf, ic, dn, cE, bO, if_true, Nat.reduceEqDiff, if_false, Nat.zero_add, List.length_map, Nat.le_refl, and_self]; refine SmG.call hF rfl rfl (by kernel_rfl) rfl rfl rfl (hA2) ?_; refine SmG.new hF rfl rfl rfl (aD rfl wD) ?_; refine SmG.store hF rfl rfl rfl rfl rfl (by simp only [go_sem, ac] <;> rfl) ?_; refine SmG.nil (aa (Sm.seq ?_)); refine ab hF rfl ?_; refine gv hF (af rfl rfl (by simp only [go_sem, ac] <;> rfl)) ?_; refine gv hF (ae rfl rfl (eh rfl)) ?_; refine SmG.call hF rfl rfl (by kernel_rfl) rfl rfl rfl (hSy) ?_
 refine SmG.buildOwn hF rfl rfl rfl rfl rfl (sz := 1) (rows := ([98] : zBz).map ai) (by simp [bn, Tryd.underlying30, sz5, ze5]; rfl) (by simp) ?_; refine SmG.mark hF (rows := ([98] : zBz).map ai) rfl rfl rfl rfl rfl rfl (by simp) Tryd.underlying30 Tryd.underlying5 ?_; simp only [cQ, bf, ic, dn, cE, bO, if_true, Nat.reduceEqDiff, if_false, Nat.zero_add, List.length_map, Nat.le_refl, and_self]; refine SmG.call hF rfl rfl (by kernel_rfl) rfl rfl rfl (hB) ?_; refine SmG.new hF rfl rfl rfl (aD rfl wD) ?_; refine SmG.store hF rfl rfl rfl rfl rfl (by simp only [go_sem, ac] <;> rfl) ?_; refine SmG.nil (aa (Sm.seq ?_)); refine ab hF rfl ?_; refine gv hF (af rfl rfl (by simp only [go_sem, ac] <;> rfl)) ?_; refine gv hF (ae rfl rfl (eh rfl)) ?_; refine SmG.buildOwn hF rfl rfl rfl rfl rfl (sz := 1) (rows := ([98] : zBz).map ai) (by simp [bn, Tryd.underlying30, sz5, ze5]; rfl) (by simp) ?_; refine SmG.mark hF (rows := ([98] : zBz).map ai) rfl rfl rfl rfl rfl rfl (by simp) Tryd.underlying30 Tryd.underlying5 ?_; simp only [cQ, bf, ic, dn, cE, bO, if_true, Nat.reduceEqDiff, if_false, Nat.zero_add, List.length_map, Nat.le_refl, and_self]; refine SmG.call hF rfl rfl (by kernel_rfl) rfl rfl rfl (hC) ?_; refine SmG.new hF rfl rfl rfl (aD rfl wD) ?_; refine SmG.store hF rfl rfl rfl rfl rfl (by simp only [go_sem, ac] <;> rfl) ?_; refine SmG.nil (aa (Sm.seq (Sm.seq ?_))); refine ab hF rfl ?_; refine gv hF (af rfl rfl (by simp only [go_sem, ac] <;> rfl)) ?_; refine gv hF (ae rfl rfl (vH rfl)) ?_; refine gv hF (ag rfl rfl rfl (by exact jc _ _ _ _ _ (by omega))) ?_; refine gv hF oM ?_; refine gv hF (af rfl rfl (by simp only [go_sem, ac] <;> rfl)) ?_; refine gv hF (ae rfl rfl (eh rfl)) ?_; refine SmG.call hF rfl rfl (by kernel_rfl) rfl rfl rfl (hRA) ?_; refine gv hF (dI rfl rfl (by exact ff _)) ?_; refine gv hF (aR rfl rfl rfl) ?_; refine gv hF oM ?_; refine gv hF (af rfl rfl (by simp only [go_sem, ac] <;> rfl)) ?_; refine gv hF (ae rfl rfl (eh rfl)) ?_; refine SmG.call hF rfl rfl (by kernel_rfl) rfl rfl rfl (hRB) ?_
 refine gv hF (dI rfl rfl (by exact ff _)) ?_; refine gv hF (aR rfl rfl rfl) ?_; refine gv hF oM ?_; refine gv hF (af rfl rfl (by simp only [go_sem, ac] <;> rfl)) ?_; refine gv hF (ae rfl rfl (eh rfl)) ?_; refine SmG.call hF rfl rfl (by kernel_rfl) rfl rfl rfl (hRC) ?_; refine gv hF (dI rfl rfl (by exact ff _)) ?_; refine gv hF (aR rfl rfl rfl) ?_; refine SmG.nil (aa ?_); refine aN hF rfl ?_; refine Sm.skip ?_; refine aa (Sm.seq ?_); refine ab hF rfl ?_; refine gv hF (af rfl rfl (by simp only [go_sem, ac] <;> rfl)) ?_; refine gv hF (ae rfl rfl (eh rfl)) ?_; refine gv hF (af rfl rfl (by simp only [go_sem, ac] <;> rfl)) ?_; refine gv hF (ae rfl rfl (iK rfl)) ?_; refine SmG.call hF rfl rfl (by kernel_rfl) rfl rfl rfl (hE) ?_; refine SmG.new hF rfl rfl rfl (aD rfl wD) ?_; refine SmG.store hF rfl rfl rfl rfl rfl (by simp only [go_sem, ac] <;> rfl) ?_; refine SmG.nil (aa (Sm.seq ?_)); refine ab hF rfl ?_; refine gv hF (af rfl rfl (by simp only [go_sem, ac] <;> rfl)) ?_; refine gv hF (af rfl rfl (by simp only [go_sem, ac] <;> rfl)) ?_; refine gv hF (ae rfl rfl (vI rfl)) ?_; refine gv hF (aK rfl rfl (by simp only [go_sem, ac] <;> rfl)) ?_; refine gv hF (ag rfl rfl rfl (by exact dU _ _ _ _ _ (by omega))) ?_; refine gv hF oM (gv hF (ae rfl rfl (ur rfl)) (gv hF (ae rfl rfl (ur rfl)) ?_)); refine SmG.call hF rfl rfl (by kernel_rfl) rfl rfl rfl (hSS) ?_; refine gv hF (aL rfl rfl rfl) ?_; refine gv hF oM ?_; refine gv hF (af rfl rfl (by simp only [go_sem, ac] <;> rfl)) ?_; refine gv hF (ae rfl rfl (vH rfl)) ?_; refine gv hF (ag rfl rfl rfl (by exact dU _ _ _ _ _ (by omega))) ?_; refine gv hF (aL rfl rfl rfl) ?_; refine gv hF oM ?_; refine gv hF (af rfl rfl (by simp only [go_sem, ac] <;> rfl)) ?_; refine gv hF (af rfl rfl (by simp only [go_sem, ac] <;> rfl)) ?_; refine gv hF (ae rfl rfl (DJ rfl)) ?_; refine gv hF (aK rfl rfl (by simp only [go_sem, ac] <;> rfl)) ?_; refine gv hF (ag rfl rfl rfl (by exact dU _ _ _ _ _ (by omega))) ?_; refine gv hF (aL rfl rfl rfl) ?_; refine gv hF oM ?_
 refine gv hF (af rfl rfl (by simp only [go_sem, ac] <;> rfl)) ?_; refine gv hF (af rfl rfl (by simp only [go_sem, ac] <;> rfl)) ?_; refine gv hF (ae rfl rfl (vI rfl)) ?_; refine gv hF (aK rfl rfl (by simp only [go_sem, ac] <;> rfl)) ?_; refine gv hF (ag rfl rfl rfl (by exact dU _ _ _ _ _ (by omega))) ?_; refine gv hF (aL rfl rfl rfl) ?_; refine gv hF oA (SmG.nil (aa (Sm.seq ?_))); refine du hF (by kernel_rfl) rfl 9 (by kernel_rfl) (by kernel_rfl) ?_; simp only [List.take_succ_cons, List.take_zero, List.take_nil]; refine hv hF (af rfl rfl (by simp only [go_sem, ac] <;> rfl)) ?_; refine hv hF (ae rfl rfl (eh rfl)) ?_; refine ap.c hF rfl rfl (by kernel_rfl) rfl rfl rfl (hO1) ?_; refine hv hF (af rfl rfl (by simp only [go_sem, ac] <;> rfl)) ?_; refine hv hF (ae rfl rfl (eh rfl)) ?_; refine hv hF (aM rfl rfl (by simp only [go_sem, ac] <;> rfl)) ?_; refine ap.c hF rfl rfl (by kernel_rfl) rfl rfl rfl (hO2) ?_; refine ap.new hF rfl rfl rfl rfl kZ ?_; refine ap.new hF rfl rfl rfl rfl kZ ?_; refine ap.last ⟨rfl, ?_⟩; simp only [List.drop_succ_cons, List.drop_zero, List.drop_nil, List.nil_append, List.cons_append]; refine SmG.store hF rfl rfl rfl rfl rfl (by simp only [go_sem, ac] <;> rfl) ?_; refine SmG.store hF rfl rfl rfl rfl rfl (by simp only [go_sem, ac] <;> rfl) ?_; refine SmG.nil (aa (Sm.seq ?_)); refine Sm.to (cD (st' := ⟨[(6, .d (.v (.bool true))), (1, .ref 1 0 0), (5, .ref 8 0 0), (7, .ref 9 0 0), (8, .ref 10 0 0)], [(1, ⟨36, [(Std.row A).map V.d]⟩), (8, ⟨36, [(Std.row E).map V.d]⟩), (9, ⟨3, [(Sto.row O1).map V.d]⟩), (10, ⟨3, [(Sto.row O2).map V.d]⟩)], 11⟩) (aJ ⟨rfl, rfl, rfl, rfl, rfl, trivial⟩ ⟨rfl, rfl, rfl, rfl, trivial⟩ (Nat.le_refl _))) ?_; clear hA hA2 hSy hB hC hRA hRB hRC hE hSS hO1 hO2 hNew; refine dC hF rfl ?_; refine ip hF rfl 0 21 (by kernel_rfl) ?_; simp only [List.take_succ_cons, List.take_zero, List.take_nil, List.drop_succ_cons, List.drop_zero, Nat.reduceSub]; refine hv hF oM (hv hF oM ?_); refine hv hF (af rfl rfl (by simp only [go_sem, ac] <;> rfl)) ?_
 refine hv hF (ae rfl rfl (eh rfl)) ?_; refine hv hF (af rfl rfl (by simp only [go_sem, ac] <;> rfl)) ?_; refine hv hF (ae rfl rfl (iK rfl)) ?_; refine ap.c hF rfl rfl (by kernel_rfl) rfl rfl rfl (hG1) ?_; refine hv hF (oQ rfl rfl (by simp only [go_sem, ac] <;> rfl)) ?_; refine hv hF (ag rfl rfl rfl (by exact mA _ _ _ _ _ _ _)) ?_; refine hv hF (aL rfl rfl rfl) ?_; refine hv hF oM ?_; refine hv hF (af rfl rfl (by simp only [go_sem, ac] <;> rfl)) ?_; refine hv hF (ae rfl rfl (eh rfl)) ?_; refine hv hF (af rfl rfl (by simp only [go_sem, ac] <;> rfl)) ?_; refine hv hF (ae rfl rfl (iK rfl)) ?_; refine ap.c hF rfl rfl (by kernel_rfl) rfl rfl rfl (hG2) ?_; refine hv hF (oQ rfl rfl (by simp only [go_sem, ac] <;> rfl)) ?_; refine hv hF (cg rfl rfl (wM (l := [97]) Tryd.underlying30 Tryd.underlying9 Tryd.underlying5)) (hv hF (ag rfl rfl rfl (Kb _ _ _ _ [97])) ?_); refine hv hF (aL rfl rfl rfl) ?_; refine hv hF oM ?_; refine ap.last ?_; simp only [List.nil_append, List.cons_append]; refine pw (n := 31) rfl rfl ?_; refine cB (n' := 26) (ls' := List.replicate 26 true ++ List.replicate 26 false) ?s1_5 ?h1_5 (fun r1_5 => ?k1_5)
 case' k1_5 => refine cB (n' := 27) (ls' := List.replicate 25 true ++ List.replicate 27 false) ?s1_4 ?h1_4 (fun r1_4 => ?k1_4)
 case' k1_4 => refine cB (n' := 27) (ls' := List.replicate 22 true ++ [false, true, true, true] ++ List.replicate 26 false) ?s1_3 ?h1_3 (fun r1_3 => ?k1_3)
 case' k1_3 => refine cB (n' := 28) (ls' := List.replicate 24 true ++ List.replicate 28 false) ?s1_2 ?h1_2 (fun r1_2 => ?k1_2)
 case' k1_2 => refine cB (n' := 28) (ls' := List.replicate 22 true ++ [false, true, true] ++ List.replicate 27 false) ?s1_1 ?h1_1 (fun r1_1 => ?k1_1)
 case' k1_1 => refine cB (n' := 29) (ls' := List.replicate 22 true ++ [false, true] ++ List.replicate 28 false) ?s1_0 ?h1_0 (fun r1_0 => ?k1_0)
 case k1_0 =>
  refine SmM.step hF [21, 23] rfl (by kernel_rfl) rfl ⟨⟨_, rfl, ?_⟩, ⟨_, rfl, ?_⟩, trivial⟩
  ·refine gv hF (af rfl rfl (by simp only [go_sem, ac] <;> rfl)) ?_; refine SmG.nil (aa ?_); refine SmM.step hF [22, 23] rfl (by kernel_rfl) rfl ⟨⟨_, rfl, ?_⟩, ⟨_, rfl, ?_⟩, trivial⟩
   ·refine gv hF (ae rfl rfl (iK rfl)) (SmG.nil (aa ?_)); refine SmM.step hF [23] rfl (by kernel_rfl) rfl ⟨⟨_, rfl, ?_⟩, trivial⟩; refine SmG.buildOwn hF rfl rfl rfl rfl rfl (sz := 1) (rows := ([97] : zBz).map ai) (by simp [bn, Tryd.underlying30, sz5, ze5]; rfl) (by simp) ?_; refine SmG.nil (aa ?_); exact r1_2
   ·refine SmG.buildOwn hF rfl rfl rfl rfl rfl (sz := 1) (rows := ([97] : zBz).map ai) (by simp [bn, Tryd.underlying30, sz5, ze5]; rfl) (by simp) ?_; refine SmG.nil (aa ?_); exact r1_0
  ·refine SmG.buildOwn hF rfl rfl rfl rfl rfl (sz := 1) (rows := ([97] : zBz).map ai) (by simp [bn, Tryd.underlying30, sz5, ze5]; rfl) (by simp) ?_; refine SmG.nil (aa ?_); refine SmM.step hF [21, 24] rfl (by kernel_rfl) rfl ⟨⟨_, rfl, ?_⟩, ⟨_, rfl, ?_⟩, trivial⟩
   ·refine gv hF (af rfl rfl (by simp only [go_sem, ac] <;> rfl)) ?_; refine SmG.nil (aa ?_); exact bA r1_0
   ·refine SmG.mark hF (rows := ([97] : zBz).map ai) rfl rfl rfl rfl rfl rfl (by simp) Tryd.underlying30 Tryd.underlying5 ?_; simp only [cQ, bf, ic, dn, cE, bO, if_true, Nat.reduceEqDiff, if_false, Nat.zero_add, List.length_map, Nat.le_refl, and_self]; refine SmG.nil (aa ?_); refine SmM.step hF [21, 25] rfl (by kernel_rfl) rfl ⟨⟨_, rfl, ?_⟩, ⟨_, rfl, ?_⟩, trivial⟩
    ·refine gv hF (af rfl rfl (by simp only [go_sem, ac] <;> rfl)) ?_; refine SmG.nil (aa ?_); exact r1_1
    ·refine SmG.call hF rfl rfl (by kernel_rfl) rfl rfl rfl (hSum) ?_; refine SmG.nil (aa ?_); refine SmM.step hF [21] rfl (by kernel_rfl) rfl ⟨⟨_, rfl, ?_⟩, trivial⟩; refine gv hF (af rfl rfl (by simp only [go_sem, ac] <;> rfl)) ?_; refine SmG.nil (aa ?_); exact r1_3
 case h1_0 =>
  refine SmM.step hF [22, 24] rfl (by kernel_rfl) rfl ⟨⟨_, rfl, ?_⟩, ⟨_, rfl, ?_⟩, trivial⟩
  ·refine gv hF (ae rfl rfl (iK rfl)) (SmG.nil (aa ?_)); exact bA r1_2
  ·refine SmG.mark hF (rows := ([97] : zBz).map ai) rfl rfl rfl rfl rfl rfl (by simp) Tryd.underlying30 Tryd.underlying5 ?_; simp only [cQ, bf, ic, dn, cE, bO, if_true, Nat.reduceEqDiff, if_false, Nat.zero_add, List.length_map, Nat.le_refl, and_self]; refine SmG.nil (aa ?_); exact bA r1_1
 case h1_1 =>
  refine SmM.step hF [22, 25] rfl (by kernel_rfl) rfl ⟨⟨_, rfl, ?_⟩, ⟨_, rfl, ?_⟩, trivial⟩
  ·refine gv hF (ae rfl rfl (iK rfl)) (SmG.nil (aa ?_)); exact r1_4
  ·refine SmG.call hF rfl rfl (by kernel_rfl) rfl rfl rfl (hSum) ?_; refine SmG.nil (aa ?_); exact bA r1_3
 case h1_2 =>
  refine SmM.step hF [24] rfl (by kernel_rfl) rfl ⟨⟨_, rfl, ?_⟩, trivial⟩; refine SmG.mark hF (rows := ([97] : zBz).map ai) rfl rfl rfl rfl rfl rfl (by simp) Tryd.underlying30 Tryd.underlying5 ?_; simp only [cQ, bf, ic, dn, cE, bO, if_true, Nat.reduceEqDiff, if_false, Nat.zero_add, List.length_map, Nat.le_refl, and_self]; refine SmG.nil (aa ?_); exact bA r1_4
 case h1_3 =>
  refine SmM.step hF [22] rfl (by kernel_rfl) rfl ⟨⟨_, rfl, ?_⟩, trivial⟩; refine gv hF (ae rfl rfl (iK rfl)) (SmG.nil (aa ?_)); exact r1_5
 case h1_4 =>
  refine SmM.step hF [25] rfl (by kernel_rfl) rfl ⟨⟨_, rfl, ?_⟩, trivial⟩; refine SmG.call hF rfl rfl (by kernel_rfl) rfl rfl rfl (hSum) ?_; refine SmG.nil (aa ?_); exact bA r1_5
 case h1_5 =>
  refine SmM.step hF [26] rfl (by kernel_rfl) rfl ⟨⟨_, rfl, ?_⟩, trivial⟩; refine gv hF (jQ rfl rfl rfl ((rW hkl hkl).trans (by rw [decide_eq_true rfl]))) ?_; refine SmG.nil (aa ?_); refine SmM.step hF [27] rfl (by kernel_rfl) rfl ⟨⟨_, rfl, ?_⟩, trivial⟩; refine gv hF (aL rfl rfl rfl) ?_; refine SmG.nil (aa ?_); refine SmM.step hF [28] rfl (by kernel_rfl) rfl ⟨⟨_, rfl, ?_⟩, trivial⟩; refine gv hF oM (SmG.nil (aa ?_)); refine SmM.step hF [29] rfl (by kernel_rfl) rfl ⟨⟨_, rfl, ?_⟩, trivial⟩; refine gv hF (af rfl rfl (by simp only [go_sem, ac] <;> rfl)) ?_; refine SmG.nil (aa ?_); refine SmM.step hF [30] rfl (by kernel_rfl) rfl ⟨⟨_, rfl, ?_⟩, trivial⟩; refine gv hF (ae rfl rfl (lw rfl)) (SmG.nil (aa ?_)); refine SmM.step hF [31] rfl (by kernel_rfl) rfl ⟨⟨_, rfl, ?_⟩, trivial⟩; refine gv hF (aK rfl rfl (by simp only [go_sem, ac] <;> rfl)) ?_; refine SmG.nil (aa ?_); refine SmM.step hF [32] rfl (by kernel_rfl) rfl ⟨⟨_, rfl, ?_⟩, trivial⟩; refine gv hF (ag rfl rfl rfl (by exact dU _ _ _ _ _ (by omega))) ?_; refine SmG.nil (aa ?_); refine SmM.step hF [33] rfl (by kernel_rfl) rfl ⟨⟨_, rfl, ?_⟩, trivial⟩; refine gv hF (aL rfl rfl rfl) ?_; refine SmG.nil (aa ?_); refine SmM.step hF [34] rfl (by kernel_rfl) rfl ⟨⟨_, rfl, ?_⟩, trivial⟩; refine gv hF oM (SmG.nil (aa ?_)); refine SmM.step hF [35] rfl (by kernel_rfl) rfl ⟨⟨_, rfl, ?_⟩, trivial⟩; refine gv hF (af rfl rfl (by simp only [go_sem, ac] <;> rfl)) ?_; refine SmG.nil (aa ?_); refine SmM.step hF [36] rfl (by kernel_rfl) rfl ⟨⟨_, rfl, ?_⟩, trivial⟩; refine gv hF (ae rfl rfl (lw rfl)) (SmG.nil (aa ?_)); refine SmM.step hF [37] rfl (by kernel_rfl) rfl ⟨⟨_, rfl, ?_⟩, trivial⟩; refine gv hF (aK rfl rfl (by simp only [go_sem, ac] <;> rfl)) ?_; refine SmG.nil (aa ?_); refine SmM.step hF [38] rfl (by kernel_rfl) rfl ⟨⟨_, rfl, ?_⟩, trivial⟩; refine gv hF (ag rfl rfl rfl (by exact dU _ _ _ _ _ (by omega))) ?_; refine SmG.nil (aa ?_); refine SmM.step hF [39] rfl (by kernel_rfl) rfl ⟨⟨_, rfl, ?_⟩, trivial⟩; refine gv hF (aL rfl rfl rfl) ?_
  refine SmG.nil (aa ?_); refine SmM.step hF [40] rfl (by kernel_rfl) rfl ⟨⟨_, rfl, ?_⟩, trivial⟩; refine gv hF oM (SmG.nil (aa ?_)); refine SmM.step hF [41] rfl (by kernel_rfl) rfl ⟨⟨_, rfl, ?_⟩, trivial⟩; refine gv hF (af rfl rfl (by simp only [go_sem, ac] <;> rfl)) ?_; refine SmG.nil (aa ?_); refine SmM.step hF [42] rfl (by kernel_rfl) rfl ⟨⟨_, rfl, ?_⟩, trivial⟩; refine gv hF (ae rfl rfl (eh rfl)) (SmG.nil (aa ?_)); refine SmM.step hF [43] rfl (by kernel_rfl) rfl ⟨⟨_, rfl, ?_⟩, trivial⟩; refine SmG.call hF rfl rfl (by kernel_rfl) rfl rfl rfl hS1 ?_; refine SmG.nil (aa ?_); refine SmM.step hF [44] rfl (by kernel_rfl) rfl ⟨⟨_, rfl, ?_⟩, trivial⟩; refine gv hF (aL rfl rfl rfl) ?_; refine SmG.nil (aa ?_); refine SmM.step hF [45] rfl (by kernel_rfl) rfl ⟨⟨_, rfl, ?_⟩, trivial⟩; refine gv hF oM (SmG.nil (aa ?_)); refine SmM.step hF [46] rfl (by kernel_rfl) rfl ⟨⟨_, rfl, ?_⟩, trivial⟩; refine SmG.makeOwn hF rT rfl 1 rfl rfl rfl rfl rfl rfl (by decide) (by decide) ?_; refine SmG.freeze (l := 12) [ay (List.replicate 32 0) ++ [.list 0 [] true]] rfl ?_; simp only [cQ, bf, ic, dn, cE, bO, if_true, Nat.reduceEqDiff, if_false, Nat.zero_add, List.length_map, Nat.le_refl, and_self]; refine SmG.nil (aa ?_); refine SmM.step hF [47] rfl (by kernel_rfl) rfl ⟨⟨_, rfl, ?_⟩, trivial⟩; refine gv hF (bV rfl Tryd.underlying27 (by kernel_rfl) rfl (gi (n := 3) LR Nd rfl (by repeat' first | apply xT rfl rfl (by first | rfl | simp [ay, ac]) | apply xS rfl rfl rfl (by first | assumption | simp [ay, ac]) | (apply IV; simp only [List.set_cons_succ, List.set_cons_zero, List.take_succ_cons, List.take_zero, List.drop_succ_cons, List.drop_zero, List.drop_nil, List.cons_append, List.nil_append, List.append_nil, ac] <;> rfl)))) ?_; refine SmG.nil (aa ?_); refine SmM.step hF [48] rfl (by kernel_rfl) rfl ⟨⟨_, rfl, ?_⟩, trivial⟩; refine SmG.call hF rfl rfl (by kernel_rfl) rfl rfl rfl hS2 ?_; refine SmG.nil (aa ?_); refine SmM.step hF [49] rfl (by kernel_rfl) rfl ⟨⟨_, rfl, ?_⟩, trivial⟩; refine gv hF (dI rfl rfl (by exact tq _)) ?_
  refine SmG.nil (aa ?_); refine SmM.step hF [50] rfl (by kernel_rfl) rfl ⟨⟨_, rfl, ?_⟩, trivial⟩; refine gv hF (aL rfl rfl rfl) ?_; refine SmG.nil (aa ?_); refine SmM.step hF [51] rfl (by kernel_rfl) rfl ⟨⟨_, rfl, ?_⟩, trivial⟩; refine gv hF oA (SmG.nil (aa ?_)); refine SmM.nil (by kernel_rfl) ?_; refine aa (Sm.ret ?_)
  skip
  exact ⟨_, rfl, D.le.refl _⟩
end
section
theorem Bu (x : Std) : iV Tryd.prog 45 (.d (.agg 36 (Std.row x))) 0 = some (.d (.agg 3 (Sto.row x.s))) :=
 Cj KQ KR mB rfl (by unfold seg; rw [if_neg (by decide)]; simp [Std.row, Sto.row])
theorem fU {h : zHz} {l : Nat} {x : Sto} (hl : look h l = some ⟨3, [(Sto.row x).map V.d]⟩) : aX Tryd.prog h 27 (.ref l 0 0) = some (.d (.agg 3 (Sto.row x))) := nI hl mB gM rfl (by decide) rfl
theorem oH {h : zHz} {l : Nat} {k : Vec 32} (hl : look h l = some ⟨32, [(ay k.l).map V.d]⟩) : aX Tryd.prog h 42 (.ref l 0 0) = some (.d (.agg 32 (ay k.l))) := nI hl mC nP (cq k.h) (by decide) (by rw [List.drop_zero, List.take_of_length_le (by rw [cq k.h]; decide)])
def jN (i : Nat) : Sto := (List.range i).foldl (fun s j => (cZ s [1, UInt8.ofNat j]).1) mc
theorem qF (i : Nat) : jN (i + 1) = (cZ (jN i) [1, UInt8.ofNat i]).1 := by
 unfold jN; rw [List.range_succ, List.foldl_append]; rfl
theorem qL : ∀ i, i <= 256 -> SInv i (jN i)
 | 0, _ => Dz
 | i + 1, h => by
  rw [qF]; exact (qL i (by omega)).put (by simp) (by omega)
theorem HU (s : Sto) (x : zBz) : ∃ r, (cZ s x).1.objects = s.objects ++ r := by
 by_cases c : 65536 < x.length
 ·rw [qZ s c]; exact ⟨[], by simp⟩
 cases hf : aP s.objects (Sha.sum x) with
 | some i => rw [jx s c hf]; exact ⟨[], by simp⟩
 | none =>
  by_cases c2 : 256 <= s.objects.length
  ·rw [oT s c hf c2]; exact ⟨[], by simp⟩
  ·rw [ma s c hf (by omega)]; exact ⟨_, rfl⟩
theorem Fh {o : List Ob} {k : zBz} (r : List Ob) (h : aP o k ≠ none) : aP (o ++ r) k ≠ none := by
 rw [ne_eq, qD] at h ⊢; intro hn; exact h fun x hx => hn x (by simp [hx])
theorem zZ : ∀ i, i <= 256 -> ∀ j, j < i -> aP (jN i).objects (Sha.sum [1, UInt8.ofNat j]) ≠ none
 | 0, _, j, h => by omega
 | i + 1, hi, j, hj => by
  rw [qF]; by_cases e : j = i
  ·subst e; have hI := qL j (by omega); have hl := hI.obs.2; cases hf : aP (jN j).objects (Sha.sum [1, UInt8.ofNat j]) with
   | some m => rw [jx _ (by simp) hf, hf]; simp
   | none =>
    rw [ma _ (by simp) hf (by omega)]; intro hn; exact qD.1 hn ⟨ee [1, UInt8.ofNat j], [1, UInt8.ofNat j]⟩ (by simp) rfl
  ·obtain ⟨r, hr⟩ := HU (jN i) [1, UInt8.ofNat i]; rw [hr]; exact Fh r (zZ i (by omega) j (by omega))
theorem yy {s : Sto} {x : zBz} {r : Std} (h : cU s x = some r) : aj Tryd.prog HG 20 [.agg 3 (Sto.row s), .list 1 (x.map ai) false] (.agg 36 (Std.row r)) := dX.d rfl (s, x) r h
theorem Ds {s : Sto} {k : Vec 32} {r : Std} (h : ey s k = some r) : aj Tryd.prog HG 23 [.agg 3 (Sto.row s), .agg 32 (ay k.l)] (.agg 36 (Std.row r)) := jV.d rfl (s, k) r h
theorem KS {s : Sto} {k : Vec 32} {r : Gott} (h : dL s k = some r) : aj Tryd.prog HG 22 [.agg 3 (Sto.row s), .agg 32 (ay k.l)] (.agg 2 (Gott.row r)) := jd.d rfl (s, k) r h
theorem Cx {s : Sto} {x : zBz} {r : Std} (h : eS s x = some r) : aj Tryd.prog HG 31 [.agg 3 (Sto.row s), .list 1 (x.map ai) true] (.agg 36 (Std.row r)) :=
 (lN.d rfl (s, x) r h).args fun C => dq (D.le.refl _) (dq (kM 1 _ true) fun _ h => h)
theorem wo {s : Sto} {x : zBz} {r : Std} (h : cU s x = some r) : aj Tryd.prog HG 20 [.agg 3 (Sto.row s), .list 1 (x.map ai) true] (.agg 36 (Std.row r)) :=
 (yy h).args fun C => dq (D.le.refl _) (dq (kM 1 _ true) fun _ h => h)
theorem Il (x : Gott) : aj Tryd.prog HG 24 [.agg 2 (Gott.row x), .agg 2 (Gott.row x)] (.v (.bool true)) := nW.d rfl (x, x) true (AO x)
theorem tv {x : Std} (h1 : x.s.objects.length <= 256) (h2 : x.s.safe.length + x.s.queue.length <= 256) : aj Tryd.prog HG 29 [.agg 36 (Std.row x), .agg 36 (Std.row x)] (.v (.bool true)) := iP.d rfl (x, x) true (oX (x := x) (by omega) (by omega) (by omega))
theorem LV : List.replicate 32 (D.v (.int .u8 0)) = ay (List.replicate 32 0) := rfl
theorem uZ (s : Sto) (e : Int) : dz Tryd.prog 45 [(0, .d (.agg 3 (Sto.row s))), (2, .d (.v (.int .i64 e)))] = some (.d (.agg 36 (Std.row ⟨s, ⟨List.replicate 32 0, rfl⟩, e⟩))) := by
 refine gi (n := 36) LT Lk rfl ?_; rw [nB (off := 0) (s := 3) (n := 36) rfl (by decide) rfl rfl (by decide)]; rw [uj (off := 35) (n := 36) (d := .v (.int .i64 e)) rfl rfl (by simp [Sto.row]) (by decide)]; have e1 : Std.row ⟨s, ⟨List.replicate 32 0, rfl⟩, e⟩ = Sto.row s ++ ay (List.replicate 32 0) ++ [.v (.int .i64 e)] := by simp [Std.row, Sto.row]
 rw [e1, <- LV]; rfl
theorem Di (s : Sto) (k : Vec 32) : dz Tryd.prog 45 [(0, .d (.agg 3 (Sto.row s))), (1, .d (.agg 32 (ay k.l)))] = some (.d (.agg 36 (Std.row ⟨s, k, 0⟩))) := by
 have hl : (ay k.l).length = 32 := cq k.h; refine gi (n := 36) LT Lk rfl ?_; rw [nB (off := 0) (s := 3) (n := 36) rfl (by decide) rfl rfl (by decide)]; rw [nB (off := 3) (s := 32) (n := 36) rfl (by decide) hl (by simp [Sto.row]) (by decide)]; have e1 : Std.row ⟨s, k, 0⟩ = Sto.row s ++ ay k.l ++ [.v (.int .i64 0)] := by simp [Std.row, Sto.row]
 rw [e1]; simp [eg, Sto.row, hl]
set_option maxHeartbeats 8000000 in
theorem Hv (l : List SRaw) (k : Vec 32) (n : UInt8) : aj Tryd.prog HG 9 [.list 3 (l.map SRaw.row) false, .agg 32 (ay k.l), .v (.int .u8 (n.toNat : Int))] (.v (.bool true)) := by
 have hn : n.toNat < 256 := n.toNat_lt; have hPlay : aj Tryd.prog HG 19 [.list 3 (l.map SRaw.row) false, .v (.int .i64 10)] (.agg 3 (Sto.row (fO l 10))) := qu.d rfl (l, (10 : Int)) _ (HO l 10 (by omega)); have hs := Ae l 10 (by omega); generalize fO l 10 = s at hPlay hs; obtain ⟨s1, s2, s3⟩ := hs.small (by omega); have hbl : (List.replicate (65537 + n.toNat) (0 : UInt8)).length = 65537 + n.toNat := by simp
 have hBig := yy (s := s) (x := List.replicate (65537 + n.toNat) (0 : UInt8)) (r := ⟨s, ⟨List.replicate 32 0, rfl⟩, 2⟩) (by rw [iN hs (by omega) (by omega), qZ s (by omega)]); rw [show (List.replicate (65537 + n.toNat) (0 : UInt8)).map ai = List.replicate (65537 + n.toNat) [D.v (.int .u8 0)] by simp [ai, aG]] at hBig; have hcast : (65537 : Int) + (n.toNat : Int) = ((65537 + n.toNat : Nat) : Int) := by omega
 have hSame1 := tv (x := ⟨s, ⟨List.replicate 32 0, rfl⟩, 2⟩) s1 s2; refine aj.of Tryd.func9 rfl Tryd.ntmps9 (by simp) ?_; intro F hF h0 hT; simp only [List.zipIdx_cons, List.zipIdx_nil, List.map_cons, List.map_nil, Nat.zero_add, Nat.reduceAdd]; refine Sm.seq ?_; refine ab hF rfl ?_; refine SmG.new hF rfl rfl rfl (eU rfl rfl (by simp only [go_sem, ac] <;> rfl)) ?_; refine gv hF oA (SmG.nil (aa (Sm.seq ?_))); refine ab hF rfl ?_; refine SmG.call hF rfl rfl (by kernel_rfl) rfl rfl rfl (Io) ?_; refine gv hF oA (SmG.nil (aa (Sm.seq ?_))); refine ab hF rfl ?_; refine gv hF oM ?_; refine SmG.call hF rfl rfl (by kernel_rfl) rfl rfl rfl (hPlay) ?_; refine SmG.new hF rfl rfl rfl (aD rfl kZ) ?_; refine SmG.store hF rfl rfl rfl rfl rfl (by simp only [go_sem, ac] <;> rfl) ?_; refine SmG.nil (aa (Sm.seq ?_)); refine du hF (by kernel_rfl) rfl 7 (by kernel_rfl) (by kernel_rfl) ?_; simp only [List.take_succ_cons, List.take_zero, List.take_nil]; refine hv hF (ae rfl rfl (fU rfl)) (hv hF oM ?_); refine hv hF (cg rfl rfl (by exact eV rfl rfl (aV _ (by omega)))) ?_; refine hv hF (ag rfl rfl rfl ((ed _ _ _ _ _ (aV _ (by omega))).trans (by rw [hcast]))) ?_; refine ap.gives hF rfl rfl rfl (bT.make hF kB rfl (65537 + n.toNat) rfl rfl rfl (by omega) (by omega)) ?_; refine ap.c hF rfl rfl (by kernel_rfl) rfl rfl rfl (hBig) ?_; refine ap.new hF rfl rfl rfl rfl wD ?_; refine ap.last ⟨rfl, ?_⟩; simp only [List.drop_succ_cons, List.drop_zero, List.drop_nil, List.nil_append, List.cons_append]; refine SmG.store hF rfl rfl rfl rfl rfl (by simp only [go_sem, ac] <;> rfl) ?_; refine SmG.nil (aa (Sm.seq (Sm.seq ?_))); refine ab hF rfl ?_; refine gv hF (ae rfl rfl (ur rfl)) (gv hF (ae rfl rfl (fU rfl)) ?_); refine gv hF (bV rfl Tryd.underlying45 (by kernel_rfl) rfl (uZ s 2)) ?_; refine SmG.call hF rfl rfl (by kernel_rfl) rfl rfl rfl (hSame1) ?_; refine gv hF (dI rfl rfl (by exact ff _)) ?_; refine SmG.nil (aa ?_); refine aN hF rfl ?_; refine Sm.skip ?_; refine aa (Sm.seq (Sm.seq ?_)); refine Sm.to (cD (st' := ⟨[(2, .d (.v (.int .u8 (n.toNat : Int)))), (4, .ref 0 0 0), (7, .d (.v (.bool true))), (8, .ref 1 0 0)], [(1, ⟨3, [(Sto.row s).map V.d]⟩), (0, ⟨32, [(ay k.l).map V.d]⟩)], 3⟩) (aJ ⟨rfl, rfl, rfl, rfl, trivial⟩ ⟨rfl, rfl, trivial⟩ (Nat.le_refl _))) ?_
 clear hPlay hBig hSame1 hcast hbl; have hFind := uk s.objects k (by omega); have hSame1 := tv (x := ⟨s, ⟨List.replicate 32 0, rfl⟩, 331⟩) s1 s2; have hSG : aj Tryd.prog HG 24 [.agg 2 (Gott.row ⟨[], 331⟩), .agg 2 [.list 0 [] true, .v (.int .i64 331)]] (.v (.bool true)) :=
  (Il ⟨[], 331⟩).args fun C => dq (D.le.refl _) (dq (fE ⟨bN 0 1 true, D.le.refl _, trivial⟩) fun _ h => h)
 refine gE (I := ⟨[(2, .d (.v (.int .u8 (n.toNat : Int)))), (7, .d (.v (.bool true))), (47, .d (.v (.bool false)))], [], 3⟩) ?_ ?_
 rotate_left
 ·cases hf : aP s.objects k.l with
  | some i =>
   rw [ll hf] at hFind; refine du hF (by kernel_rfl) rfl 22 (by kernel_rfl) (by kernel_rfl) ?_; simp only [List.take_succ_cons, List.take_zero, List.take_nil]; refine hv hF (af rfl rfl (by simp only [go_sem, ac] <;> rfl)) ?_; refine hv hF (ae rfl rfl (lw rfl)) (hv hF (ae rfl rfl (oH rfl)) ?_); refine ap.c hF rfl rfl (by kernel_rfl) rfl rfl rfl (hFind) ?_; refine hv hF (ag rfl rfl rfl (by exact dV _ _ _ _ _ (by omega))) ?_; refine hv hF oM ?_; refine hp hF ?_; refine hp hF ?_; refine hp hF ?_; refine hp hF ?_; refine hp hF ?_; refine hp hF ?_; refine hp hF ?_; refine hp hF ?_; refine hp hF ?_; refine hp hF ?_; refine hp hF ?_; refine hp hF ?_; refine hp hF ?_; refine hp hF ?_; refine hp hF ?_; refine hv hF (aR rfl rfl rfl) ?_; refine ap.last ⟨rfl, ?_⟩; simp only [List.drop_succ_cons, List.drop_zero, List.drop_nil, List.nil_append, List.cons_append]; refine SmG.nil (aa ?_); exact cD (aJ ⟨rfl, rfl, rfl, trivial⟩ trivial (Nat.le_refl _))
  | none =>
   rw [lk hf] at hFind; have hEv := Ds (s := s) (k := k) (r := ⟨s, ⟨List.replicate 32 0, rfl⟩, 331⟩) (by rw [tO hs (by omega), if_pos hf]; unfold evF; rw [hf]); have hGot := KS (Ad hs (by omega) hf); refine du hF (by kernel_rfl) rfl 22 (by kernel_rfl) (by kernel_rfl) ?_; simp only [List.take_succ_cons, List.take_zero, List.take_nil]; refine hv hF (af rfl rfl (by simp only [go_sem, ac] <;> rfl)) ?_; refine hv hF (ae rfl rfl (lw rfl)) (hv hF (ae rfl rfl (oH rfl)) ?_); refine ap.c hF rfl rfl (by kernel_rfl) rfl rfl rfl (hFind) ?_; refine hv hF (ag rfl rfl rfl (by exact dE _ _ _ _ _ (by omega))) ?_; refine hv hF oM ?_; refine hv hF (ae rfl rfl (fU rfl)) ?_; refine hv hF (ae rfl rfl (oH rfl)) ?_; refine ap.c hF rfl rfl (by kernel_rfl) rfl rfl rfl (hEv) ?_; refine hv hF (ae rfl rfl (fU rfl)) ?_; refine hv hF (bV rfl Tryd.underlying45 (by kernel_rfl) rfl (uZ s 331)) ?_; refine ap.c hF rfl rfl (by kernel_rfl) rfl rfl rfl (hSame1) ?_; refine hv hF (dI rfl rfl (by exact ff _)) ?_; refine hv hF oM ?_; refine hv hF (ae rfl rfl (fU rfl)) ?_; refine hv hF (ae rfl rfl (oH rfl)) ?_; refine ap.c hF rfl rfl (by kernel_rfl) rfl rfl rfl (hGot) ?_; refine hv hF (bV rfl Tryd.underlying49 (by kernel_rfl) rfl (by simp only [go_sem, ac] <;> rfl)) ?_; refine ap.c hF rfl rfl (by kernel_rfl) rfl rfl rfl (hSG) ?_; refine hv hF (dI rfl rfl (by exact ff _)) ?_; refine hv hF (aR rfl rfl rfl) ?_; refine hv hF (aL rfl rfl rfl) ?_; refine ap.last ⟨rfl, ?_⟩; simp only [List.drop_succ_cons, List.drop_zero, List.drop_nil, List.nil_append, List.cons_append]; refine SmG.nil (aa ?_); exact cD (aJ ⟨rfl, rfl, rfl, trivial⟩ trivial (Nat.le_refl _))
 clear hFind hSame1 hSG
 skip
 refine aN hF rfl ?_; refine Sm.skip ?_; refine aa (Sm.seq (Sm.seq ?_)); refine ab hF rfl ?_; refine gv hF oM ?_; refine gv hF (ag rfl rfl rfl (by exact vZ _ _ _ _ _ (by omega) (by omega))) ?_; refine gv hF (ag rfl rfl rfl (by exact sD _ _ _ _ _ _ _)) ?_; refine SmG.nil (aa ?_); refine ek hF rfl (fun hc => ?_) (fun hc => ?_)
 ·refine Sm.seq ?_; refine ab hF rfl ?_; refine gv hF oM (gv hF oA (SmG.nil (aa (Sm.ret ?_)))); simp only [ba, bJ]; exact ⟨_, rfl, D.le.refl _⟩
 clear hc; refine Sm.skip ?_; refine aa (Sm.seq ?_); refine ab hF rfl ?_; refine gv hF (bV rfl Tryd.underlying27 (by kernel_rfl) rfl KK) ?_; refine SmG.new hF rfl rfl rfl (aD rfl kZ) ?_; refine SmG.store hF rfl rfl rfl rfl rfl (by simp only [go_sem, ac] <;> rfl) ?_; refine SmG.nil (aa (Sm.seq (Sm.seq ?_))); refine ab hF rfl ?_; refine gv hF oA (SmG.nil (aa (Sm.block ?_))); refine Sm.to (uS (env' := [(2, .d (.v (.int .u8 (n.toNat : Int)))), (7, .d (.v (.bool true))), (10, .ref 3 0 0), (11, .d (.v (.int .i64 0)))]) (h' := [(3, ⟨3, [(Sto.row (jN 0)).map V.d]⟩)]) (nx' := 4) ⟨⟨_, rfl, V.le.refl _⟩, ⟨_, rfl, V.le.refl _⟩, ⟨_, rfl, V.le.refl _⟩, ⟨_, rfl, V.le.refl _⟩, trivial⟩ ⟨⟨_, rfl, fD.row (.cons (V.le.d (bN 0 33 true)) (.cons (V.le.d (bN 0 1 true)) (.cons (V.le.d (bN 0 1 true)) .nil)))⟩, trivial⟩ (Nat.le_refl _)) ?_; refine Sm.loop (ι := {i : Nat // i <= 256}) (fun i => ⟨[(2, .d (.v (.int .u8 (n.toNat : Int)))), (7, .d (.v (.bool true))), (10, .ref 3 0 0), (11, .d (.v (.int .i64 (i.1 : Int))))], [(3, ⟨3, [(Sto.row (jN i.1)).map V.d]⟩)], 4⟩) (fun i => 256 - i.1) (⟨0, by omega⟩) ?_ ?_
 ·exact aJ ⟨rfl, rfl, rfl, rfl, trivial⟩ ⟨rfl, trivial⟩ (Nat.le_refl _)
 rintro ⟨i, hi⟩; simp only; by_cases hlt : i < 256
 ·have hPut := Cx (s := jN i) (x := [1, UInt8.ofNat i]) (uC (qL i (by omega)) (by omega) (by simp)); obtain ⟨r, hr, hPut⟩ : ∃ r : Std, r.s = jN (i + 1) /\ aj Tryd.prog HG 31 [.agg 3 (Sto.row (jN i)), .list 1 (([1, UInt8.ofNat i] : zBz).map ai) true] (.agg 36 (Std.row r)) := ⟨_, (qF i).symm, hPut⟩
  refine Sm.seq (Sm.seq ?_); refine ab hF rfl ?_; refine gv hF oM ?_; refine gv hF (ag rfl rfl rfl (by exact dE _ _ _ _ _ (by omega))) ?_; refine SmG.nil (aa ?_); refine bc hF rfl ?_; refine Sm.skip ?_; refine aa (Sm.seq (Sm.block ?_)); refine ab hF rfl ?_; refine gv hF (ae rfl rfl (fU rfl)) (gv hF oM (gv hF (cg rfl rfl (fd _ Tryd.underlying3 Tryd.underlying5)) ?_)); refine gv hF (aM rfl rfl (by simp only [go_sem, ac] <;> rfl)) ?_; refine SmG.call hF rfl rfl (by kernel_rfl) rfl rfl rfl (hPut) ?_; refine gv hF (oQ rfl rfl (Bu _)) ?_; refine SmG.store hF rfl rfl rfl rfl rfl (eZ gM rfl rfl) ?_; refine SmG.nil (aH (aa ?_)); refine ab hF rfl ?_; refine gv hF oM ?_; refine gv hF (ag rfl rfl rfl (by exact ed _ _ _ _ _ (aV _ (by omega)))) ?_; refine gv hF oA (SmG.nil (aa ?_)); have he : (i : Int) + 1 = ((i + 1 : Nat) : Int) := by omega
  rw [he, hr]; exact ⟨⟨i + 1, by omega⟩, by show 256 - (i + 1) < 256 - i; omega, aJ ⟨rfl, rfl, rfl, rfl, trivial⟩ ⟨rfl, trivial⟩ (Nat.le_refl _)⟩
 obtain rfl : i = 256 := by omega
 have hI := qL 256 (by omega); have hH := zZ 256 (by omega) n.toNat (by omega); rw [show UInt8.ofNat n.toNat = n by simp] at hH; generalize jN 256 = f at hI hH; refine Sm.seq (Sm.seq ?_); refine ab hF rfl ?_; refine gv hF oM ?_; refine gv hF (ag rfl rfl rfl (by exact dV _ _ _ _ _ (by omega))) ?_; refine SmG.nil (aa ?_); refine aN hF rfl ?_; refine Sm.exit ?_; simp only [ba, bJ, reduceIte, reduceCtorEq]; refine Sm.seq (Sm.seq ?_); refine ab hF rfl ?_; refine gv hF (af rfl rfl (by simp only [go_sem, ac] <;> rfl)) ?_; refine gv hF (ae rfl rfl (lw rfl)) ?_; refine gv hF (aK rfl rfl (by simp only [go_sem, ac] <;> rfl)) ?_; refine gv hF (ag rfl rfl rfl (by exact sG _ _ _ _ _ _ _)) ?_; refine SmG.nil (aa ?_); refine ek hF rfl (fun hc => ?_) (fun hc => ?_)
 ·refine Sm.seq ?_; refine ab hF rfl ?_; refine gv hF oM (gv hF oA (SmG.nil (aa (Sm.ret ?_)))); simp only [ba, bJ]; exact ⟨_, rfl, D.le.refl _⟩
 have hlen : f.objects.length = 256 := by simp at hc; omega
 clear hc; obtain ⟨f1, f2, f3⟩ := hI.small (by omega); obtain ⟨r, hr, hst, hpt⟩ : ∃ r : Std, r.s = f /\ aj Tryd.prog HG 20 [.agg 3 (Sto.row f), .list 1 (([2, n] : zBz).map ai) true] (.agg 36 (Std.row r)) /\ aj Tryd.prog HG 31 [.agg 3 (Sto.row f), .list 1 (([2, n] : zBz).map ai) true] (.agg 36 (Std.row r)) := by
  refine ⟨⟨(cZ f [2, n]).1, (cZ f [2, n]).2.1, (cZ f [2, n]).2.2⟩, ?_, wo (iN hI (by omega) (by simp)), Cx (uC hI (by omega) (by simp))⟩; cases hf : aP f.objects (Sha.sum [2, n]) with
  | some i => rw [jx f (by simp) hf]
  | none => rw [oT f (by simp) hf (by omega)]
 obtain ⟨i, hi⟩ : ∃ i, aP f.objects (Sha.sum [1, n]) = some i := Option.ne_none_iff_exists'.1 hH; have hst1 := wo (s := f) (x := [1, n]) (r := ⟨f, ee [1, n], 0⟩) (by rw [iN hI (by omega) (by simp), jx f (by simp) hi]); have hsm : aj Tryd.prog HG 21 [.list 1 (([1, n] : zBz).map ai) true] (.agg 32 (ay (ee [1, n]).l)) := (tA [1, n] (by simp)).args fun C => dq (kM 1 _ true) fun _ h => h
 have hs2 := tv (x := r) (by rw [hr]; exact f1) (by rw [hr]; exact f2); have hs3 := tv (x := ⟨f, ee [1, n], 0⟩) f1 f2; refine Sm.skip ?_; refine aa (Sm.seq ?_); refine du hF (by kernel_rfl) rfl 25 (by kernel_rfl) (by kernel_rfl) ?_; simp only [List.take_succ_cons, List.take_zero, List.take_nil]; refine hv hF (ae rfl rfl (fU rfl)) (hv hF oM ?_); refine hv hF (aM rfl rfl (by simp only [go_sem, ac] <;> rfl)) ?_; refine ap.c hF rfl rfl (by kernel_rfl) rfl rfl rfl hst ?_; refine hv hF (ae rfl rfl (fU rfl)) (hv hF oM ?_); refine hv hF (aM rfl rfl (by simp only [go_sem, ac] <;> rfl)) ?_; refine ap.c hF rfl rfl (by kernel_rfl) rfl rfl rfl hpt ?_; refine ap.c hF rfl rfl (by kernel_rfl) rfl rfl rfl hs2 ?_; refine hv hF oM (hv hF (ae rfl rfl (fU rfl)) ?_); refine hv hF oM ?_; refine hv hF (aM rfl rfl (by simp only [go_sem, ac] <;> rfl)) ?_; refine ap.c hF rfl rfl (by kernel_rfl) rfl rfl rfl hst1 ?_; refine hv hF (ae rfl rfl (fU rfl)) ?_; refine hv hF oM ?_; refine hv hF (aM rfl rfl (by simp only [go_sem, ac] <;> rfl)) ?_; refine ap.c hF rfl rfl (by kernel_rfl) rfl rfl rfl hsm ?_; refine hv hF (bV rfl Tryd.underlying45 (by kernel_rfl) rfl (Di f (ee [1, n]))) ?_; refine ap.c hF rfl rfl (by kernel_rfl) rfl rfl rfl hs3 ?_; refine hv hF (aL rfl rfl rfl) ?_; refine hv hF oM ?_; refine hv hF oM ?_; refine hv hF (aL rfl rfl rfl) ?_; refine hv hF oA ?_; refine ap.last ⟨rfl, ?_⟩; simp only [List.drop_succ_cons, List.drop_zero, List.drop_nil, List.nil_append, List.cons_append]; refine SmG.nil (aa (Sm.ret ?_)); exact ⟨_, rfl, D.le.refl _⟩
theorem mr {a0 : List SRaw} {a1 : zBz} {a2 : UInt8} (h : a1.length = 32) : aj Tryd.prog HG 9 [.list 3 (a0.map SRaw.row) false, .agg 32 (ay a1), .v (.int .u8 (a2.toNat : Int))] (.v (.bool true)) := Hv a0 ⟨a1, h⟩ a2
end
end Go.Proofs.YtaclinnjekdgoaaDoor
