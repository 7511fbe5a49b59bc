/-
  Lemmas, part 8 of 8: walks through the program's functions, and plain Lean about what they compute.
-/
import Derived.Test.YtaclinnjekdgoaaDoorZ1
import Derived.Test.YtaclinnjekdgoaaDoorZ2
import Derived.Test.YtaclinnjekdgoaaDoorZ3
import Derived.Test.YtaclinnjekdgoaaDoorZ4
import Derived.Test.YtaclinnjekdgoaaDoorZ5
import Derived.Test.YtaclinnjekdgoaaDoorZ6
import Derived.Test.YtaclinnjekdgoaaDoorZ7
set_option linter.unnecessarySimpa false
set_option linter.unusedSimpArgs false
set_option linter.unusedVariables false
set_option maxRecDepth 100000
namespace Go.Proofs.YtaclinnjekdgoaaDoor
open Go.RowKit
section
noncomputable def gu (a0 : zBz) : Option Int :=
 ob (idx a0 0) fun x1 =>
 ob (sP .i64 (x1.toNat : Int) 24) fun x2 =>
 ob (idx a0 1) fun x3 =>
 ob (sP .i64 (x3.toNat : Int) 16) fun x4 =>
 ob (arI .i64 (x2 + x4)) fun x5 =>
 ob (idx a0 2) fun x6 =>
 ob (sP .i64 (x6.toNat : Int) 8) fun x7 =>
 ob (arI .i64 (x5 + x7)) fun x8 =>
 ob (idx a0 3) fun x9 =>
 ob (arI .i64 (x8 + (x9.toNat : Int))) fun x10 =>
 some x10
set_option maxHeartbeats 4000000 in
theorem qx {a0 : zBz} {r : Int} (h : gu a0 = some r) : am Tryd.prog HG 48 [.list 1 (a0.map aj) false] (.i r) := by
 unfold gu at h; refine am.of Tryd.func48 rfl Tryd.ntmps48 (by simp) ?_; intro F hF h0 hT; show Sm F _ _ ⟨[(0, .d (.list 1 (a0.map aj) false))], [], 0⟩; refine sr hF (gv hF oA (sn (Sm.seq ?_))); refine dG hF 21 ?_; refine hv hF oM ?_; obtain ⟨x1, hx1, h⟩ := au h; refine hv hF (oI (eI u30 sz5 hx1)) (hv hF (oL (lP1 ag5 rfl)) (hv hF (oC (dZ u5 u3 (kg _))) ?_)); obtain ⟨x2, hx2, h⟩ := au h; refine hv hF (oB (vO hx2)) (hv hF oM ?_); obtain ⟨x3, hx3, h⟩ := au h; refine hv hF (oI (eI u30 sz5 hx3)) (hv hF (oL (lP1 ag5 rfl)) (hv hF (oC (dZ u5 u3 (kg _))) ?_)); obtain ⟨x4, hx4, h⟩ := au h; refine hv hF (oB (vO hx4)) ?_; obtain ⟨x5, hx5, h⟩ := au h; refine hv hF (oB (dS hx5)) (hv hF oM ?_); obtain ⟨x6, hx6, h⟩ := au h; refine hv hF (oI (eI u30 sz5 hx6)) (hv hF (oL (lP1 ag5 rfl)) (hv hF (oC (dZ u5 u3 (kg _))) ?_)); obtain ⟨x7, hx7, h⟩ := au h; refine hv hF (oB (vO hx7)) ?_; obtain ⟨x8, hx8, h⟩ := au h; refine hv hF (oB (dS hx8)) (hv hF oM ?_); obtain ⟨x9, hx9, h⟩ := au h; refine hv hF (oI (eI u30 sz5 hx9)) (hv hF (oL (lP1 ag5 rfl)) (hv hF (oC (dZ u5 u3 (kg _))) ?_)); refine hE ?_; obtain ⟨x10, hx10, h⟩ := au h; refine gv hF (oB (dS hx10)) (gv hF oA (sn (Sm.ret ?_))); obtain rfl := aY h; exact lm rfl rfl
theorem ux {n : Nat} {k : Nat} (hn : n < 256) (hk : k <= 24) : sP .i64 (n : Int) (k : Int) = some ((n * 2 ^ k : Nat) : Int) := by
 unfold sP; have hm : min ((k : Int).toNat) IntKind.i64.bits = k := by show min _ 64 = _; omega
 rw [if_neg (by omega), hm]; have h1 : (2 : Nat) ^ k <= 2 ^ 24 := Nat.pow_le_pow_right (by omega) hk; have h2 : n * 2 ^ k < 256 * 2 ^ 24 := Nat.lt_of_lt_of_le (Nat.mul_lt_mul_of_pos_right hn (Nat.pow_pos (by omega))) (Nat.mul_le_mul_left _ h1); have e : ((n : Int) * 2 ^ k) = ((n * 2 ^ k : Nat) : Int) := by norm_cast
 rw [e, aN _ (by omega)]
theorem HE (b0 b1 b2 b3 : UInt8) : gu [b0, b1, b2, b3] = some ((be [b0, b1, b2, b3] : Nat) : Int) := by
 have h0 := b0.toNat_lt; have h1 := b1.toNat_lt; have h2 := b2.toNat_lt; have h3 := b3.toNat_lt; unfold gu; rw [show idx [b0, b1, b2, b3] 0 = some b0 from rfl, ax, show (24 : Int) = ((24 : Nat) : Int) from rfl, ux h0 (by omega), ax, show idx [b0, b1, b2, b3] 1 = some b1 from rfl, ax, show (16 : Int) = ((16 : Nat) : Int) from rfl, ux h1 (by omega), ax, bZ (by omega), ax,
  show idx [b0, b1, b2, b3] 2 = some b2 from rfl, ax, show (8 : Int) = ((8 : Nat) : Int) from rfl, ux h2 (by omega), ax, bZ (by omega), ax, show idx [b0, b1, b2, b3] 3 = some b3 from rfl, ax, bZ (by omega), ax]
 simp only [be, List.foldl_cons, List.foldl_nil]
 congr 1
 omega
theorem FR (l : zBz) (hl : l.length = 4) : am Tryd.prog HG 48 [.list 1 (l.map aj) false] (.v (.int .i64 (be l))) := by
 rcases l with _ | ⟨b0, _ | ⟨b1, _ | ⟨b2, _ | ⟨b3, _ | ⟨b4, l⟩⟩⟩⟩⟩ <;> simp at hl
 exact qx (HE b0 b1 b2 b3)
def tC (l : zBz) : Vec 32 := if h : l.length = 32 then ⟨l, h⟩ else ⟨List.replicate 32 0, rfl⟩
def xd : Rcd := ⟨false, 0, 0, [], ⟨List.replicate 32 0, rfl⟩⟩
def mQ (B : zBz) : Rcd :=
 if (B.getD 0 0).toNat = 80 /\ be ((B.drop 5).take 4) + 9 = B.length /\ B.length <= 65545 then ⟨true, B.getD 0 0, (be ((B.drop 1).take 4) : Nat), B.drop 9, ff (B.drop 9)⟩
 else if (B.getD 0 0).toNat = 68 /\ B.length = 37 then ⟨true, B.getD 0 0, (be ((B.drop 1).take 4) : Nat), [], tC (B.drop 5)⟩
 else xd
def oD (b : zBz) : Rcd :=
 if b.length < 41 then xd else
 if Sha.sum (b.take (b.length - 32)) ≠ b.drop (b.length - 32) then xd else
 mQ (b.take (b.length - 32))
theorem er {n l : Nat} {t : TypeId} {R : List D} {h : zHz} {zr zp : List V} (hs : aA Tryd.prog t = some n) (hl : look h l = some ⟨n, [zr]⟩) (hp : ac zr = some zp) : dn Tryd.prog h t (.ref l 0 0) (.d (.agg n R)) = some (.upd l ⟨n, [R.map V.d]⟩) := by
 simp only [dn, hl, Option.bind_some, List.getElem?_cons_zero, hp, gq, hs]; simp
theorem gU {n l : Nat} {t : TypeId} {R : List D} {h : zHz} (hs : aA Tryd.prog t = some n) (ha : bi Tryd.prog t = some true) (hl : look h l = some ⟨n, [R.map V.d]⟩) : aX Tryd.prog h t (.ref l 0 0) = some (.d (.agg n R)) := by
 have hs' : seg (R.map V.d) n 0 n = R.map V.d := by
  unfold seg; rw [if_pos ⟨rfl, rfl⟩]
 have hp : bx (R.map V.d) = some R := gN _; simp only [aX, hl, Option.bind_some, List.getElem?_cons_zero, cw, ha, hs, hs', hp]; simp
theorem mZ (r : D) (h : r = .agg 36 ([.v (.bool false), .v (.int .u8 0), .v (.int .i64 0), .list 0 [] true] ++ az (List.replicate 32 0))) : r.le (.agg 36 (Rcd.row xd)) := by
 rw [h]; refine fY ?_; exact ⟨D.le.refl _, D.le.refl _, D.le.refl _, cA 0 1 true, leL.refl _⟩
def pi (k : UInt8) (n : Int) (L : zBz) (i : Nat) : List D := [.v (.bool true), .v (.int .u8 (k.toNat : Int)), .v (.int .i64 n), .list 0 [] true] ++ az (L.take i ++ List.replicate (32 - i) 0)
theorem HN (k : UInt8) (n : Int) {L : zBz} {i : Nat} {y : UInt8} (hL : L.length = 32) (hy : L[i]? = some y) : (pi k n L i).set (4 + i) (aC y) = pi k n L (i + 1) := by
 have hi : i < 32 := by have := (List.getElem?_eq_some_iff.1 hy).1; omega
 unfold pi; rw [List.set_append_right _ _ (by simp)]
 congr 1
 simp only [List.length_cons, List.length_nil, Nat.zero_add, Nat.reduceAdd, Nat.add_sub_cancel_left]; unfold az; rw [<- List.map_set]
 congr 1
 rw [List.take_add_one, hy, List.set_append_right _ _ (by rw [List.length_take]; omega), show 32 - i = (32 - (i + 1)) + 1 by omega, List.replicate_succ]; have hmin : i - (List.take i L).length = 0 := by simp only [List.length_take]; omega
 rw [hmin, List.set_cons_zero]; simp
theorem Iq {k : UInt8} {n : Int} {L : zBz} {i l : Nat} {y : UInt8} {h : zHz} (hL : L.length = 32) (hy : L[i]? = some y) (hl : look h l = some ⟨36, [(pi k n L i).map V.d]⟩) : dn Tryd.prog h 5 (.ref l 0 (4 + i)) (.d (aC y)) = some (.upd l ⟨36, [(pi k n L (i + 1)).map V.d]⟩) := by
 have hi : i < 32 := by have := (List.getElem?_eq_some_iff.1 hy).1; omega
 have h1 : ((pi k n L i).map V.d).set (4 + i) (V.d (aC y)) = (pi k n L (i + 1)).map V.d := by
  rw [<- List.map_set, HN k n hL hy]
 have hc : gq (.d (aC y)) = some (1, [.d (aC y)]) := rfl; simp only [dn, hl, Option.bind_some, List.getElem?_cons_zero, cw, hc, sz5]; rw [if_pos ⟨trivial, by omega⟩, if_neg (by omega), if_pos trivial, h1]; rfl
set_option maxHeartbeats 4000000 in
theorem ya (b : zBz) (hb : b.length <= 1000000) : am Tryd.prog HG 28 [.list 1 (b.map aj) false] (.agg 36 (Rcd.row (oD b))) := by
 unfold oD; by_cases c1 : b.length < 41
 ·rw [if_pos c1]; refine am.of Tryd.func28 rfl Tryd.ntmps28 (by simp) ?_; intro F hF h0 hT; simp only [List.zipIdx_cons, List.zipIdx_nil, List.map_cons, List.map_nil, Nat.zero_add, Nat.reduceAdd]; refine Sm.seq ?_; refine ab hF rfl ?_; refine SmG.new hF rfl rfl rfl (aE rfl CQ) ?_; refine SmG.nil (aa (Sm.seq (Sm.seq ?_))); refine ab hF rfl ?_; refine gv hF oM ?_; refine gv hF (aH rfl rfl (by simp (disch := omega) only [go_sem, Nat.reduceEqDiff, aD, ac] <;> rfl)) ?_; refine gv hF (ag rfl rfl rfl (by exact en _ _ _ _ _ (by omega))) ?_; refine SmG.nil (aa ?_); refine bg hF rfl ?_; refine Sm.seq ?_; refine ab hF rfl ?_; refine gv hF (da rfl Tryd.underlying64 (by kernel_rfl) rfl wE) ?_; refine SmG.store hF rfl rfl rfl rfl rfl (er gO rfl rfl) ?_; refine SmG.nil (aa (Sm.ret ?_)); simp only [bc, bO]; refine cK rfl rfl (gU gO nn rfl) ?_; exact mZ _ rfl
 rw [if_neg c1]; obtain ⟨E, hE⟩ : ∃ E, b.length = E + 32 := ⟨b.length - 32, by omega⟩
 have hE2 : (b.length : Int) - 32 = (E : Int) := by omega
 have hE3 : b.length - 32 = E := by omega
 have hlb : (b.take E).length = E := by simp; omega
 have hlt : (b.drop E).length = 32 := by simp; omega
 rw [hE3]; have csum := qV (b.take E) (by omega) HG; obtain ⟨sx, hsx⟩ : ∃ sx : Vec 32, sx.l = Sha.sum (b.take E) := ⟨ff _, rfl⟩
 rw [<- hsx] at csum ⊢; have hsl := sx.h; have hrl : (az sx.l).length = 32 := cR hsl; have hch : fw 1 32 (az sx.l) = sx.l.map aj := by
  have := kH (az sx.l); rw [hrl] at this; rw [this]; simp [az, aj]
 have htk : (sx.l.map aj).take 32 = sx.l.map aj := List.take_of_length_le (by simp [hsl]); refine am.of Tryd.func28 rfl Tryd.ntmps28 (by simp) ?_; intro F hF h0 hT; simp only [List.zipIdx_cons, List.zipIdx_nil, List.map_cons, List.map_nil, Nat.zero_add, Nat.reduceAdd]; refine Sm.seq ?_; refine ab hF rfl ?_; refine SmG.new hF rfl rfl rfl (aE rfl CQ) ?_; refine SmG.nil (aa (Sm.seq (Sm.seq ?_))); refine ab hF rfl ?_; refine gv hF oM ?_; refine gv hF (aH rfl rfl (by simp (disch := omega) only [go_sem, Nat.reduceEqDiff, aD, ac, <- List.map_take, <- List.map_drop] <;> rfl)) ?_; refine gv hF (ag rfl rfl rfl (by exact eR _ _ _ _ _ (by omega))) ?_; refine SmG.nil (aa ?_); refine aR hF rfl ?_; refine Sm.skip ?_; refine aa (Sm.seq ?_); refine ab hF rfl ?_; refine gv hF oM ?_; refine gv hF (aH rfl rfl (by simp (disch := omega) only [go_sem, Nat.reduceEqDiff, aD, ac, <- List.map_take, <- List.map_drop] <;> rfl)) ?_; refine gv hF (ag rfl rfl rfl ((ig _ _ _ _ _ (aN _ (by omega))).trans (by rw [hE2]))) ?_; refine gv hF oA (SmG.nil (aa (Sm.seq ?_))); refine ab hF rfl ?_; refine gv hF oM (gv hF oM ?_); refine gv hF (bf rfl rfl rfl rfl rfl (by simp (disch := omega) only [go_sem, Nat.reduceEqDiff, aD, ac, <- List.map_take, <- List.map_drop] <;> rfl)) ?_; refine SmG.call hF rfl rfl (by kernel_rfl) rfl rfl rfl (csum) ?_; refine SmG.new hF rfl rfl rfl (aE rfl mo) ?_; refine SmG.store hF rfl rfl rfl rfl rfl (by simp (disch := omega) only [go_sem, Nat.reduceEqDiff, aD, ac, <- List.map_take, <- List.map_drop] <;> rfl) ?_; refine SmG.nil (aa (Sm.seq (Sm.seq ?_))); simp only [rep, Nat.zero_add, Nat.reduceEqDiff, if_true, if_false]; refine Sm.freeze (l := 1) [az sx.l] rfl ?_; simp only [Pk.v, cP, aZ, bM,  reduceIte, Nat.reduceAdd, Nat.zero_add, List.length_map, List.length_append, Nat.le_refl, true_and, and_self, if_true, Nat.reduceEqDiff, true_and]; refine dE hF (by kernel_rfl) rfl 7 (by kernel_rfl) (by kernel_rfl) ?_; simp only [List.take_succ_cons, List.take_zero, List.take_nil]; refine hv hF (bf rfl rfl rfl rfl rfl (by simp (disch := omega) only [go_sem, Nat.reduceEqDiff, aD, ac, <- List.map_take, <- List.map_drop, hch, htk, iU] <;> rfl)) ?_
 refine hv hF (bW rfl rfl (by simp (disch := omega) only [go_sem, Nat.reduceEqDiff, aD, ac, <- List.map_take, <- List.map_drop, hch, htk, iU] <;> rfl)) ?_; refine hv hF oM (hv hF oM ?_); refine hv hF (bf rfl rfl rfl rfl rfl (by simp (disch := omega) only [go_sem, Nat.reduceEqDiff, aD, ac, <- List.map_take, <- List.map_drop, hch, htk, iU] <;> rfl)) ?_; refine hv hF (bW rfl rfl (by simp (disch := omega) only [go_sem, Nat.reduceEqDiff, aD, ac, <- List.map_take, <- List.map_drop, hch, htk, iU] <;> rfl)) ?_; refine aq.v (x := .d (.v (.bool (sx.l != b.drop E)))) hF rfl rfl rfl (ag rfl rfl rfl (FL rfl)) ?_; refine aq.last ⟨rfl, ?_⟩; simp only [List.drop_succ_cons, List.drop_zero, List.drop_nil, List.nil_append, List.cons_append]; refine SmG.nil (aa ?_); by_cases hs : sx.l = b.drop E
 case neg =>
  rw [if_pos (by exact hs), show (sx.l != b.drop E) = true by simp [hs]]; refine bg hF rfl ?_; refine Sm.seq ?_; refine ab hF rfl ?_; refine gv hF (da rfl Tryd.underlying64 (by kernel_rfl) rfl wE) ?_; refine SmG.store hF rfl rfl rfl rfl rfl (er gO rfl rfl) ?_; refine SmG.nil (aa (Sm.ret ?_)); simp only [bc, bO]; refine cK rfl rfl (gU gO nn rfl) ?_; exact mZ _ rfl
 rw [if_neg (by simp [hs]), show (sx.l != b.drop E) = false by simp [hs]]; obtain ⟨kind, hk⟩ : ∃ kind, b[0]? = some kind := ⟨b[0]'(by omega), List.getElem?_eq_getElem (by omega)⟩
 have hkB : (b.take E).getD 0 0 = kind := by
  have : (b.take E)[0]? = some kind := by rw [List.getElem?_take]; simp [hk]; omega
  simp [List.getD_eq_getElem?_getD, this]
 have e1 : (b.take 5).drop 1 = ((b.take E).drop 1).take 4 := by
  rw [List.drop_take, List.drop_take, List.take_take]; congr 1; omega
 have e5 : (b.take 9).drop 5 = ((b.take E).drop 5).take 4 := by
  rw [List.drop_take, List.drop_take, List.take_take]; congr 1; omega
 have h1 : ((b.take 5).drop 1).length = 4 := by simp; omega
 have h5 : ((b.take 9).drop 5).length = 4 := by simp; omega
 unfold mQ; rw [hkB, <- e1, <- e5, hlb]; have cr1 := FR _ h1; have cr5 := FR _ h5; generalize hl1 : (b.take 5).drop 1 = l1 at cr1 h1; generalize hl5 : (b.take 9).drop 5 = l5 at cr5 h5; have hm1 : List.drop 1 (List.take (Int.toNat 5) b) = l1 := hl1; have hm5 : List.drop (Int.toNat 5) (List.take (Int.toNat 9) b) = l5 := hl5; refine aR hF rfl ?_; refine Sm.skip ?_; refine aa (Sm.seq ?_); refine dw hF rfl ?_; refine ip hF rfl 0 9 (by kernel_rfl) ?_; simp only [List.take_succ_cons, List.take_zero, List.take_nil, List.drop_succ_cons, List.drop_zero, Nat.reduceSub]; refine hv hF oM ?_; refine hv hF (ak rfl rfl rfl (by simp (disch := omega) only [go_sem, Nat.reduceEqDiff, aD, ac, <- List.map_take, <- List.map_drop, hk, aj, aC, hm1, hm5] <;> rfl)) ?_; refine hv hF (ae rfl rfl (by simp (disch := omega) only [go_sem, Nat.reduceEqDiff, aD, ac, <- List.map_take, <- List.map_drop, hk, aj, aC, hm1, hm5] <;> rfl)) ?_; refine hv hF oM ?_; refine hv hF (bf rfl rfl rfl rfl rfl (by simp (disch := omega) only [go_sem, Nat.reduceEqDiff, aD, ac, <- List.map_take, <- List.map_drop, hk, aj, aC, hm1, hm5] <;> rfl)) ?_; refine aq.c hF rfl rfl (by kernel_rfl) rfl rfl rfl (cr1) ?_; refine hv hF (da rfl Tryd.underlying64 (by kernel_rfl) rfl (ki (n := 36) ND MT rfl (by repeat' first | apply xM rfl rfl (by first | rfl | simp [az, ac, <- List.map_take, <- List.map_drop, hk, aj, aC, hm1, hm5]) | apply xL rfl rfl rfl (by first | assumption | simp [az, ac, <- List.map_take, <- List.map_drop, hk, aj, aC, hm1, hm5]) | (apply IL; simp only [List.set_cons_succ, List.set_cons_zero, List.take_succ_cons, List.take_zero, List.drop_succ_cons, List.drop_zero, List.drop_nil, List.cons_append, List.nil_append, List.append_nil, ac, <- List.map_take, <- List.map_drop, hk, aj, aC, hm1, hm5] <;> rfl)))) ?_; refine aq.new hF rfl rfl rfl rfl CQ ?_; refine aq.st hF rfl rfl rfl rfl rfl rfl (er gO rfl rfl) ?_; refine aq.last ?_; simp only [List.nil_append, List.cons_append]; refine SmA.nil (Nat.le_of_ble_eq_true rfl) ?_; refine aa (Sm.seq (Sm.seq ?_))
 by_cases k80 : kind.toNat = 80
 ·by_cases cn : be l5 + 9 = E
  ·by_cases cl : E <= 65545
   ·rw [if_pos ⟨k80, cn, cl⟩]; have hx : (b.take E).drop 9 = (b.take E).drop 9 := rfl; have hxl : ((b.take E).drop 9).length <= 1000000 := by simp; omega
    have csx := qV _ hxl HG; have hnil : List.drop (Int.toNat 9) (List.take E b) = (b.take E).drop 9 := rfl; generalize (b.take E).drop 9 = x at hxl csx hnil; obtain ⟨sv, hsv, hsv2⟩ : ∃ sv : Vec 32, sv.l = Sha.sum x /\ sv = ff x := ⟨ff x, rfl, rfl⟩
    rw [<- hsv] at csx; rw [<- hsv2]; refine ab hF rfl ?_; refine gv hF oM ?_; refine gv hF (ak rfl rfl rfl (by simp (disch := omega) only [go_sem, Nat.reduceEqDiff, aD, ac, <- List.map_take, <- List.map_drop, hk, aj, aC, hm5] <;> rfl)) ?_; refine gv hF (ae rfl rfl (by simp (disch := omega) only [go_sem, Nat.reduceEqDiff, aD, ac, <- List.map_take, <- List.map_drop, hk, aj, aC, hm5] <;> rfl)) ?_; refine gv hF (ag rfl rfl rfl (by exact dP _ _ _ _ _ (by omega))) ?_; refine gv hF oM ?_; refine gv hF oM ?_; refine gv hF (bf rfl rfl rfl rfl rfl (by simp (disch := omega) only [go_sem, Nat.reduceEqDiff, aD, ac, <- List.map_take, <- List.map_drop, hk, aj, aC, hm5] <;> rfl)) ?_; refine SmG.call hF rfl rfl (by kernel_rfl) rfl rfl rfl (cr5) ?_; refine gv hF oM ?_; refine gv hF (ag rfl rfl rfl (by exact ig _ _ _ _ _ (aN _ (by omega)))) ?_; refine gv hF (ag rfl rfl rfl (by exact dP _ _ _ _ _ (by omega))) ?_; refine gv hF (aM rfl rfl rfl) ?_; refine gv hF oM ?_; refine gv hF oM ?_; refine gv hF (ag rfl rfl rfl (by exact ig _ _ _ _ _ (aN _ (by omega)))) ?_; refine gv hF (ag rfl rfl rfl (by exact tq _ _ _ _ _ (by omega))) ?_; refine gv hF (aM rfl rfl rfl) ?_; refine SmG.nil (aa ?_); refine bg hF rfl ?_; refine Sm.seq ?_; refine ab hF rfl ?_; refine gv hF (aP rfl rfl (by simp (disch := omega) only [go_sem, Nat.reduceEqDiff, aD, ac, <- List.map_take, <- List.map_drop, hnil, List.append_nil] <;> rfl)) ?_; refine gv hF oM (gv hF oM ?_); refine gv hF (bf rfl rfl rfl rfl rfl (by simp (disch := omega) only [go_sem, Nat.reduceEqDiff, aD, ac, <- List.map_take, <- List.map_drop, hnil, List.append_nil] <;> rfl)) ?_; refine SmG.append hF ku rfl rfl rfl rfl rfl rfl (Or.inr rfl) (Or.inl rfl) (by simp; omega) (by simp; omega) ?_; refine gv hF (af rfl rfl (by simp (disch := omega) only [go_sem, Nat.reduceEqDiff, aD, ac, <- List.map_take, <- List.map_drop, hnil, List.append_nil] <;> rfl)) ?_; refine SmG.store hF rfl rfl rfl rfl rfl (by simp (disch := omega) only [go_sem, Nat.reduceEqDiff, aD, ac, <- List.map_take, <- List.map_drop, hnil, List.append_nil] <;> rfl) ?_
    refine SmG.nil (aa (Sm.seq ?_)); refine ab hF rfl ?_; refine gv hF (af rfl rfl (by simp (disch := omega) only [go_sem, Nat.reduceEqDiff, aD, ac, <- List.map_take, <- List.map_drop, hnil, List.append_nil] <;> rfl)) ?_; refine gv hF (ae rfl rfl (by simp (disch := omega) only [go_sem, Nat.reduceEqDiff, aD, ac, <- List.map_take, <- List.map_drop, hnil, List.append_nil] <;> rfl)) ?_; refine SmG.call hF rfl rfl (by kernel_rfl) rfl rfl rfl (csx) ?_; refine gv hF (af rfl rfl (by simp (disch := omega) only [go_sem, Nat.reduceEqDiff, aD, ac, <- List.map_take, <- List.map_drop, hnil, List.append_nil] <;> rfl)) ?_; refine SmG.store hF rfl rfl rfl rfl rfl (by simp (disch := omega) only [go_sem, Nat.reduceEqDiff, aD, ac, <- List.map_take, <- List.map_drop, hnil, List.append_nil] <;> rfl) ?_; refine SmG.nil (aa (Sm.seq ?_)); refine Sm.to (bR (st' := ⟨[(2, .ref 0 0 0), (5, .ref 2 0 0)], [(2, ⟨36, [(Rcd.row ⟨true, kind, (be l1 : Nat), x, sv⟩).map V.d]⟩), (0, ⟨36, [([.v (.bool false), .v (.int .u8 0), .v (.int .i64 0), .list 0 [] true] ++ List.replicate 32 (.v (.int .u8 0)) : List D).map V.d]⟩)], 3⟩) (aI ⟨rfl, rfl, trivial⟩ ⟨rfl, rfl, trivial⟩ (Nat.le_refl _))) ?_; refine ab hF rfl ?_; refine gv hF (ae rfl rfl (gU gO nn rfl)) ?_; refine SmG.store hF rfl rfl rfl rfl rfl (er gO rfl rfl) ?_; refine SmG.nil (aa (Sm.ret ?_)); simp only [bc, bO]; exact cK rfl rfl (gU gO nn rfl) (D.le.refl _)
   ·rw [if_neg (by omega), if_neg (by omega)]; refine ab hF rfl ?_; refine gv hF oM ?_; refine gv hF (ak rfl rfl rfl (by simp (disch := omega) only [go_sem, Nat.reduceEqDiff, aD, ac, <- List.map_take, <- List.map_drop, hk, aj, aC, hm5] <;> rfl)) ?_; refine gv hF (ae rfl rfl (by simp (disch := omega) only [go_sem, Nat.reduceEqDiff, aD, ac, <- List.map_take, <- List.map_drop, hk, aj, aC, hm5] <;> rfl)) ?_; refine gv hF (ag rfl rfl rfl (by exact dP _ _ _ _ _ (by omega))) ?_; refine gv hF oM ?_; refine gv hF oM ?_; refine gv hF (bf rfl rfl rfl rfl rfl (by simp (disch := omega) only [go_sem, Nat.reduceEqDiff, aD, ac, <- List.map_take, <- List.map_drop, hk, aj, aC, hm5] <;> rfl)) ?_; refine SmG.call hF rfl rfl (by kernel_rfl) rfl rfl rfl (cr5) ?_; refine gv hF oM ?_; refine gv hF (ag rfl rfl rfl (by exact ig _ _ _ _ _ (aN _ (by omega)))) ?_; refine gv hF (ag rfl rfl rfl (by exact dP _ _ _ _ _ (by omega))) ?_; refine gv hF (aM rfl rfl rfl) ?_; refine gv hF oM ?_; refine gv hF oM ?_; refine gv hF (ag rfl rfl rfl (by exact ig _ _ _ _ _ (aN _ (by omega)))) ?_; refine gv hF (ag rfl rfl rfl (by exact xb _ _ _ _ _ (by omega))) ?_; refine gv hF (aM rfl rfl rfl) ?_; refine SmG.nil (aa ?_); refine aR hF rfl ?_; refine Sm.skip ?_; refine aa (Sm.seq (Sm.seq ?_)); refine ab hF rfl ?_; refine gv hF oM ?_; refine gv hF (ak rfl rfl rfl (by simp (disch := omega) only [go_sem, Nat.reduceEqDiff, aD, ac, <- List.map_take, <- List.map_drop, hk, aj, aC, hm5] <;> rfl)) ?_; refine gv hF (ae rfl rfl (by simp (disch := omega) only [go_sem, Nat.reduceEqDiff, aD, ac, <- List.map_take, <- List.map_drop, hk, aj, aC, hm5] <;> rfl)) ?_; refine gv hF (ag rfl rfl rfl (by exact lQ _ _ _ _ _ (by omega))) ?_; refine gv hF oM ?_; refine gp hF ?_; refine gp hF ?_; refine gv hF (aM rfl rfl rfl) ?_; refine SmG.nil (aa ?_); refine bg hF rfl ?_; refine Sm.seq ?_; refine ab hF rfl ?_; refine gv hF (da rfl Tryd.underlying64 (by kernel_rfl) rfl wE) ?_; refine SmG.store hF rfl rfl rfl rfl rfl (er gO rfl rfl) ?_; refine SmG.nil (aa (Sm.ret ?_))
    simp only [bc, bO]; refine cK rfl rfl (gU gO nn rfl) (mZ _ rfl)
  ·rw [if_neg (by omega), if_neg (by omega)]; refine ab hF rfl ?_; refine gv hF oM ?_; refine gv hF (ak rfl rfl rfl (by simp (disch := omega) only [go_sem, Nat.reduceEqDiff, aD, ac, <- List.map_take, <- List.map_drop, hk, aj, aC, hm5] <;> rfl)) ?_; refine gv hF (ae rfl rfl (by simp (disch := omega) only [go_sem, Nat.reduceEqDiff, aD, ac, <- List.map_take, <- List.map_drop, hk, aj, aC, hm5] <;> rfl)) ?_; refine gv hF (ag rfl rfl rfl (by exact dP _ _ _ _ _ (by omega))) ?_; refine gv hF oM ?_; refine gv hF oM ?_; refine gv hF (bf rfl rfl rfl rfl rfl (by simp (disch := omega) only [go_sem, Nat.reduceEqDiff, aD, ac, <- List.map_take, <- List.map_drop, hk, aj, aC, hm5] <;> rfl)) ?_; refine SmG.call hF rfl rfl (by kernel_rfl) rfl rfl rfl (cr5) ?_; refine gv hF oM ?_; refine gv hF (ag rfl rfl rfl (by exact ig _ _ _ _ _ (aN _ (by omega)))) ?_; refine gv hF (ag rfl rfl rfl (by exact jN _ _ _ _ _ (by omega))) ?_; refine gv hF (aM rfl rfl rfl) ?_; refine gv hF oM ?_; refine gp hF ?_; refine gp hF ?_; refine gp hF ?_; refine gv hF (aL rfl rfl rfl) ?_; refine SmG.nil (aa ?_); refine aR hF rfl ?_; refine Sm.skip ?_; refine aa (Sm.seq (Sm.seq ?_)); refine ab hF rfl ?_; refine gv hF oM ?_; refine gv hF (ak rfl rfl rfl (by simp (disch := omega) only [go_sem, Nat.reduceEqDiff, aD, ac, <- List.map_take, <- List.map_drop, hk, aj, aC, hm5] <;> rfl)) ?_; refine gv hF (ae rfl rfl (by simp (disch := omega) only [go_sem, Nat.reduceEqDiff, aD, ac, <- List.map_take, <- List.map_drop, hk, aj, aC, hm5] <;> rfl)) ?_; refine gv hF (ag rfl rfl rfl (by exact lQ _ _ _ _ _ (by omega))) ?_; refine gv hF oM ?_; refine gp hF ?_; refine gp hF ?_; refine gv hF (aM rfl rfl rfl) ?_; refine SmG.nil (aa ?_); refine bg hF rfl ?_; refine Sm.seq ?_; refine ab hF rfl ?_; refine gv hF (da rfl Tryd.underlying64 (by kernel_rfl) rfl wE) ?_; refine SmG.store hF rfl rfl rfl rfl rfl (er gO rfl rfl) ?_; refine SmG.nil (aa (Sm.ret ?_)); simp only [bc, bO]; refine cK rfl rfl (gU gO nn rfl) (mZ _ rfl)
 ·by_cases k68 : kind.toNat = 68
  ·by_cases c37 : E = 37
   ·rw [if_neg (by omega), if_pos ⟨k68, c37⟩]; have hL : ((b.take E).drop 5).length = 32 := by simp; omega
    have hLi : ∀ i, i < 32 -> b[5 + i]? = ((b.take E).drop 5)[i]? := fun i hi => by
     rw [List.getElem?_drop, List.getElem?_take, if_pos (by omega)]
    generalize (b.take E).drop 5 = L at hL hLi; refine ab hF rfl ?_; refine gv hF oM ?_; refine gv hF (ak rfl rfl rfl (by simp (disch := omega) only [go_sem, Nat.reduceEqDiff, aD, ac, <- List.map_take, <- List.map_drop, hk, aj, aC, hm5] <;> rfl)) ?_; refine gv hF (ae rfl rfl (by simp (disch := omega) only [go_sem, Nat.reduceEqDiff, aD, ac, <- List.map_take, <- List.map_drop, hk, aj, aC, hm5] <;> rfl)) ?_; refine gv hF (ag rfl rfl rfl (by exact jN _ _ _ _ _ (by omega))) ?_; refine gv hF oM ?_; refine gp hF ?_; refine gp hF ?_; refine gp hF ?_; refine gp hF ?_; refine gp hF ?_; refine gp hF ?_; refine gv hF (aL rfl rfl rfl) ?_; refine gv hF oM ?_; refine gp hF ?_; refine gp hF ?_; refine gp hF ?_; refine gv hF (aL rfl rfl rfl) ?_; refine SmG.nil (aa ?_); refine aR hF rfl ?_; refine Sm.skip ?_; refine aa (Sm.seq (Sm.seq ?_)); refine ab hF rfl ?_; refine gv hF oM ?_; refine gv hF (ak rfl rfl rfl (by simp (disch := omega) only [go_sem, Nat.reduceEqDiff, aD, ac, <- List.map_take, <- List.map_drop, hk, aj, aC, hm5] <;> rfl)) ?_; refine gv hF (ae rfl rfl (by simp (disch := omega) only [go_sem, Nat.reduceEqDiff, aD, ac, <- List.map_take, <- List.map_drop, hk, aj, aC, hm5] <;> rfl)) ?_; refine gv hF (ag rfl rfl rfl (by exact fc _ _ _ _ _ (by omega))) ?_; refine gv hF oM ?_; refine gv hF oM ?_; refine gv hF (ag rfl rfl rfl (by exact fc _ _ _ _ _ (by omega))) ?_; refine gv hF (aL rfl rfl rfl) ?_; refine SmG.nil (aa ?_); refine aR hF rfl ?_; refine Sm.skip ?_; refine aa (Sm.seq (Sm.seq ?_)); refine Sm.to (bR (st' := ⟨[(0, .d (.list 1 (b.map aj) false)), (2, .ref 0 0 0), (5, .ref 2 0 0)], [(2, ⟨36, [(pi kind (be l1 : Nat) L 0).map V.d]⟩), (0, ⟨36, [([.v (.bool false), .v (.int .u8 0), .v (.int .i64 0), .list 0 [] true] ++ List.replicate 32 (.v (.int .u8 0)) : List D).map V.d]⟩)], 3⟩) (aI ⟨rfl, rfl, rfl, trivial⟩ ⟨rfl, rfl, trivial⟩ (Nat.le_refl _))) ?_; refine ab hF rfl ?_; refine gv hF oA (SmG.nil (aa (Sm.block ?_))); refine Sm.loop (ι := {i : Nat // i <= 32}) (fun i => ⟨[(0, .d (.list 1 (b.map aj) false)), (2, .ref 0 0 0), (5, .ref 2 0 0), (6, .d (.v (.int .i64 i.1)))], [(2, ⟨36, [(pi kind (be l1 : Nat) L i.1).map V.d]⟩), (0, ⟨36, [([.v (.bool false), .v (.int .u8 0), .v (.int .i64 0), .list 0 [] true] ++ List.replicate 32 (.v (.int .u8 0)) : List D).map V.d]⟩)], 3⟩) (fun i => 32 - i.1) (⟨0, by omega⟩) ?_ ?_
    ·exact aI ⟨rfl, rfl, rfl, rfl, trivial⟩ ⟨rfl, rfl, trivial⟩ (Nat.le_refl _)
    rintro ⟨i, hi⟩; simp only; by_cases hlt : i < 32
    ·obtain ⟨y, hy⟩ : ∃ y, L[i]? = some y := ⟨L[i]'(by omega), List.getElem?_eq_getElem (by omega)⟩
     have hby : b[5 + i]? = some y := by rw [hLi i hlt, hy]
     have h5i : (5 : Int) + (i : Int) = ((5 + i : Nat) : Int) := by omega
     refine Sm.seq (Sm.seq ?_); refine ab hF rfl ?_; refine gv hF oM ?_; refine gv hF (ag rfl rfl rfl (by exact en _ _ _ _ _ (by omega))) ?_; refine SmG.nil (aa ?_); refine bg hF rfl ?_; refine Sm.skip ?_; refine aa (Sm.seq (Sm.block ?_)); refine ab hF rfl ?_; refine gv hF oM (gv hF oM (gv hF oM ?_)); refine gv hF (ag rfl rfl rfl ((dl _ _ _ _ _ (aN _ (by omega))).trans (by rw [h5i]))) ?_; refine gv hF (ak rfl rfl rfl (by simp (disch := omega) only [go_sem, Nat.reduceEqDiff, aD, hby, aj, aC] <;> rfl)) ?_; refine gv hF (ae rfl rfl (by simp (disch := omega) only [go_sem, Nat.reduceEqDiff, aD, hby, aj, aC] <;> rfl)) ?_; refine gv hF (af rfl rfl (by simp (disch := omega) only [go_sem, Nat.reduceEqDiff, aD, hby, aj, aC] <;> rfl)) ?_; refine gv hF (ak rfl rfl rfl (by simp (disch := omega) only [go_sem, Nat.reduceEqDiff, aD, hby, aj, aC] <;> rfl)) ?_; refine SmG.store hF rfl rfl rfl rfl rfl (Iq hL hy rfl) ?_; refine SmG.nil (aK (aa ?_)); refine ab hF rfl ?_; refine gv hF oM ?_; refine gv hF (ag rfl rfl rfl (by exact dl _ _ _ _ _ (aN _ (by omega)))) ?_; refine gv hF oA (SmG.nil (aa ?_)); exact ⟨⟨i + 1, by omega⟩, by show 32 - (i + 1) < 32 - i; omega, aI ⟨rfl, rfl, rfl, rfl, trivial⟩ ⟨rfl, rfl, trivial⟩ (Nat.le_refl _)⟩
    ·obtain rfl : i = 32 := by omega
     refine Sm.seq (Sm.seq ?_); refine ab hF rfl ?_; refine gv hF oM ?_; refine gv hF (ag rfl rfl rfl (by exact eR _ _ _ _ _ (by omega))) ?_; refine SmG.nil (aa ?_); refine aR hF rfl ?_; refine Sm.exit ?_; simp only [bc, bO, reduceIte, reduceCtorEq]; refine Sm.seq ?_; refine ab hF rfl ?_; refine gv hF (ae rfl rfl (gU gO nn rfl)) ?_; refine SmG.store hF rfl rfl rfl rfl rfl (er gO rfl rfl) ?_; refine SmG.nil (aa (Sm.ret ?_)); refine cK rfl rfl (gU gO nn rfl) ?_; have hv : (tC L).l = L := by unfold tC; rw [dif_pos hL]
     refine fY ?_; simp only [pi, Rcd.row, hv, Nat.sub_self, List.replicate_zero, List.append_nil, List.take_of_length_le (Nat.le_of_eq hL)]; exact ⟨D.le.refl _, D.le.refl _, D.le.refl _, cA 0 1 true, leL.refl _⟩
   ·rw [if_neg (by omega), if_neg (by omega)]; refine ab hF rfl ?_; refine gv hF oM ?_; refine gv hF (ak rfl rfl rfl (by simp (disch := omega) only [go_sem, Nat.reduceEqDiff, aD, ac, <- List.map_take, <- List.map_drop, hk, aj, aC, hm5] <;> rfl)) ?_; refine gv hF (ae rfl rfl (by simp (disch := omega) only [go_sem, Nat.reduceEqDiff, aD, ac, <- List.map_take, <- List.map_drop, hk, aj, aC, hm5] <;> rfl)) ?_; refine gv hF (ag rfl rfl rfl (by exact jN _ _ _ _ _ (by omega))) ?_; refine gv hF oM ?_; refine gp hF ?_; refine gp hF ?_; refine gp hF ?_; refine gp hF ?_; refine gp hF ?_; refine gp hF ?_; refine gv hF (aL rfl rfl rfl) ?_; refine gv hF oM ?_; refine gp hF ?_; refine gp hF ?_; refine gp hF ?_; refine gv hF (aL rfl rfl rfl) ?_; refine SmG.nil (aa ?_); refine aR hF rfl ?_; refine Sm.skip ?_; refine aa (Sm.seq (Sm.seq ?_)); refine ab hF rfl ?_; refine gv hF oM ?_; refine gv hF (ak rfl rfl rfl (by simp (disch := omega) only [go_sem, Nat.reduceEqDiff, aD, ac, <- List.map_take, <- List.map_drop, hk, aj, aC, hm5] <;> rfl)) ?_; refine gv hF (ae rfl rfl (by simp (disch := omega) only [go_sem, Nat.reduceEqDiff, aD, ac, <- List.map_take, <- List.map_drop, hk, aj, aC, hm5] <;> rfl)) ?_; refine gv hF (ag rfl rfl rfl (by exact fc _ _ _ _ _ (by omega))) ?_; refine gv hF oM ?_; refine gv hF oM ?_; refine gv hF (ag rfl rfl rfl (by exact lQ _ _ _ _ _ (by omega))) ?_; refine gv hF (aL rfl rfl rfl) ?_; refine SmG.nil (aa ?_); refine bg hF rfl ?_; refine Sm.seq ?_; refine ab hF rfl ?_; refine gv hF (da rfl Tryd.underlying64 (by kernel_rfl) rfl wE) ?_; refine SmG.store hF rfl rfl rfl rfl rfl (er gO rfl rfl) ?_; refine SmG.nil (aa (Sm.ret ?_)); simp only [bc, bO]; refine cK rfl rfl (gU gO nn rfl) (mZ _ rfl)
  ·rw [if_neg (by omega), if_neg (by omega)]; refine ab hF rfl ?_; refine gv hF oM ?_; refine gv hF (ak rfl rfl rfl (by simp (disch := omega) only [go_sem, Nat.reduceEqDiff, aD, ac, <- List.map_take, <- List.map_drop, hk, aj, aC, hm5] <;> rfl)) ?_; refine gv hF (ae rfl rfl (by simp (disch := omega) only [go_sem, Nat.reduceEqDiff, aD, ac, <- List.map_take, <- List.map_drop, hk, aj, aC, hm5] <;> rfl)) ?_; refine gv hF (ag rfl rfl rfl (by exact jN _ _ _ _ _ (by omega))) ?_; refine gv hF oM ?_; refine gp hF ?_; refine gp hF ?_; refine gp hF ?_; refine gp hF ?_; refine gp hF ?_; refine gp hF ?_; refine gv hF (aL rfl rfl rfl) ?_; refine gv hF oM ?_; refine gp hF ?_; refine gp hF ?_; refine gp hF ?_; refine gv hF (aL rfl rfl rfl) ?_; refine SmG.nil (aa ?_); refine aR hF rfl ?_; refine Sm.skip ?_; refine aa (Sm.seq (Sm.seq ?_)); refine ab hF rfl ?_; refine gv hF oM ?_; refine gv hF (ak rfl rfl rfl (by simp (disch := omega) only [go_sem, Nat.reduceEqDiff, aD, ac, <- List.map_take, <- List.map_drop, hk, aj, aC, hm5] <;> rfl)) ?_; refine gv hF (ae rfl rfl (by simp (disch := omega) only [go_sem, Nat.reduceEqDiff, aD, ac, <- List.map_take, <- List.map_drop, hk, aj, aC, hm5] <;> rfl)) ?_; refine gv hF (ag rfl rfl rfl (by exact lQ _ _ _ _ _ (by omega))) ?_; refine gv hF oM ?_; refine gp hF ?_; refine gp hF ?_; refine gv hF (aM rfl rfl rfl) ?_; refine SmG.nil (aa ?_); refine bg hF rfl ?_; refine Sm.seq ?_; refine ab hF rfl ?_; refine gv hF (da rfl Tryd.underlying64 (by kernel_rfl) rfl wE) ?_; refine SmG.store hF rfl rfl rfl rfl rfl (er gO rfl rfl) ?_; refine SmG.nil (aa (Sm.ret ?_)); simp only [bc, bO]; refine cK rfl rfl (gU gO nn rfl) (mZ _ rfl)
end
section
theorem Ga (x : Ob) : seg (List.drop 0 x.row) (33 - 0) 0 32 = az x.sum.l := by
 unfold seg; rw [if_neg (by decide), List.drop_zero, List.drop_zero, jK]
noncomputable def dq (a0 : List Ob) (a1 : zBz) (s1 : Int) : Option (Int ⊕ (Unit ⊕ Int)) :=
 bif (decide (s1 < (a0.length : Int))) then (
  ob (idx a0 s1) fun x6 =>
  ob (vN 32 x6.sum.l) fun x7 =>
  ob (vN 32 a1) fun x8 =>
  bif (x6.sum.l == a1) then (
   some (.inr (.inr s1))
  ) else (
   ob (arI .i64 (s1 + 1)) fun x10 =>
   some (.inl x10)
  )
 ) else (
  some (.inr (.inl ()))
 )
noncomputable def gr (a0 : List Ob) (a1 : zBz) : Option Int :=
 ob ((
  cQ (dq a0 a1) 0
  : Option (Unit ⊕ Int))) fun o12 => match o12 with
 | .inl v11 => (
  some (-1)
  )
 | .inr e13 => some e13
set_option maxHeartbeats 4000000 in
theorem qj {a0 : List Ob} {a1 : zBz} {r : Int} (h : gr a0 a1 = some r) : am Tryd.prog HG 30 [.list 33 (a0.map Ob.row) false, .agg 32 (az a1)] (.i r) := by
 unfold gr at h; refine am.of Tryd.func30 rfl Tryd.ntmps30 (by simp) ?_; intro F hF h0 hT; show Sm F _ _ ⟨[(0, .d (.list 33 (a0.map Ob.row) false)), (1, .d (.agg 32 (az a1)))], [], 0⟩; refine sr hF ?_; refine pU hF Gx ?_; refine gv hF oA (sn (Sm.seq ?_)); obtain ⟨o12, ho12, h⟩ := au h; rcases zh o12 with ⟨e13, rfl⟩ | ⟨v11, rfl⟩
 ·have he13 := aY h; subst he13; replace h := ho12; refine sr hF (gv hF oA (sn (Sm.block ?_))); refine eD (dq a0 a1) (fun s1 => ⟨[(0, .d (.list 33 (a0.map Ob.row) false)), (3, .d (.ptr 32 (az a1))), (5, .i s1)], [], 0⟩) 0 h (kA) ?_; intro n2 s1 o3 h hd4; unfold dq at h; refine Sm.seq (sr hF (gv hF oM (gv hF oM (gv hF (oN (eJ u24)) (gv hF (oB (gi)) (sn ?_)))))); refine cM hF rfl (fun hc5 => ?_) (fun hc5 => ?_)
  ·replace h := ifF hc5 h; refine Sm.exit ?_; replace h := bX h hd4; cases h
  replace h := ifT hc5 h; refine sk (Sm.seq (Sm.block (Sm.seq ?_))); refine dG hF 6 ?_; refine hv hF oM (hv hF oM ?_); obtain ⟨x6, hx6, h⟩ := au h; refine hv hF (oI (eI u24 fP hx6)) (hv hF (oF (gw Fd rfl)) (hv hF (x := .d (.agg 32 (az x6.sum.l))) (oL (kc oV pj rfl (Ga x6))) (hv hF (x := .d (.agg 32 (az a1))) (oL (kc oV pj rfl rfl)) ?_))); refine hE ?_; obtain ⟨x7, hx7, h⟩ := au h; obtain ⟨x8, hx8, h⟩ := au h; refine gv hF (jL rfl rfl rfl (uY (by kernel_rfl) (by kernel_rfl) (wj hx7) (wj hx8))) (sn ?_); refine cM hF rfl (fun hc9 => ?_) (fun hc9 => ?_)
  ·replace h := ifF hc9 h; refine Sm.skip ?_; refine aK (aa ?_); refine ab hF rfl ?_; refine gv hF oM ?_; obtain ⟨x10, hx10, h⟩ := au h; refine gv hF (oB (dS hx10)) (gv hF oA (SmG.nil ?_)); exact eZ (dM h hd4) (kA)
  replace h := ifT hc9 h; refine sr hF (gv hF oM (gv hF oA (sn (Sm.ret ?_)))); replace h := bX h hd4; replace h := tf h; obtain rfl := aY h; exact lm rfl rfl
 refine gG ⟨[], [], 0⟩ ?_ ?_
 ·refine Sm.seq ?_; refine ab hF rfl ?_; refine gv hF oA (sn (Sm.ret ?_)); obtain rfl := aY h; exact lm rfl rfl
 replace h := ho12; refine sr hF (gv hF oA (sn (Sm.block ?_))); refine eD (dq a0 a1) (fun s1 => ⟨[(0, .d (.list 33 (a0.map Ob.row) false)), (3, .d (.ptr 32 (az a1))), (5, .i s1)], [], 0⟩) 0 h (kA) ?_; intro n2 s1 o3 h hd4; unfold dq at h; refine Sm.seq (sr hF (gv hF oM (gv hF oM (gv hF (oN (eJ u24)) (gv hF (oB (gi)) (sn ?_)))))); refine cM hF rfl (fun hc5 => ?_) (fun hc5 => ?_)
 ·replace h := ifF hc5 h; refine Sm.exit ?_; replace h := bX h hd4; obtain rfl := aY (te h); exact (kA)
 replace h := ifT hc5 h; refine sk (Sm.seq (Sm.block (Sm.seq ?_))); refine dG hF 6 ?_; refine hv hF oM (hv hF oM ?_); obtain ⟨x6, hx6, h⟩ := au h; refine hv hF (oI (eI u24 fP hx6)) (hv hF (oF (gw Fd rfl)) (hv hF (x := .d (.agg 32 (az x6.sum.l))) (oL (kc oV pj rfl (Ga x6))) (hv hF (x := .d (.agg 32 (az a1))) (oL (kc oV pj rfl rfl)) ?_))); refine hE ?_; obtain ⟨x7, hx7, h⟩ := au h; obtain ⟨x8, hx8, h⟩ := au h; refine gv hF (jL rfl rfl rfl (uY (by kernel_rfl) (by kernel_rfl) (wj hx7) (wj hx8))) (sn ?_); refine eC hF rfl (fun hc9 => ?_) (fun hc9 => ?_)
 ·replace h := ifT hc9 h; refine sr hF (gv hF oM (gv hF oA (sn (Sm.ret ?_)))); replace h := bX h hd4; cases h
 replace h := ifF hc9 h; refine Sm.skip ?_; refine aK (aa ?_); refine ab hF rfl ?_; refine gv hF oM ?_; obtain ⟨x10, hx10, h⟩ := au h; refine gv hF (oB (dS hx10)) (gv hF oA (SmG.nil ?_)); exact eZ (dM h hd4) (kA)
noncomputable def hU (a0 : List Ob) (a1 : Int) : Option (List Ob) :=
 ob (slc a0 0 a1) fun x1 =>
 ob (app ([] : List Ob) x1) fun x2 =>
 ob (arI .i64 (a1 + 1)) fun x3 =>
 ob (slc a0 x3 (a0.length : Int)) fun x4 =>
 ob (app x2 x4) fun x5 =>
 some x5
set_option maxHeartbeats 4000000 in
theorem nP {a0 : List Ob} {a1 : Int} {r : List Ob} (h : hU a0 a1 = some r) : ci Tryd.prog HG 51 [.list 33 (a0.map Ob.row) false, .i a1] .one 33 (r.map Ob.row) [] := by
 unfold hU at h; refine ci.of Tryd.func51 rfl Tryd.ntmps51 (by simp) ?_; intro F hF h0 hT; show Sm F _ _ ⟨[(0, .d (.list 33 (a0.map Ob.row) false)), (1, .i a1)], [], 0⟩; refine sr hF (gv hF oA (sn (sr hF (gv hF (x := .d (.list 33 (([] : List Ob).map Ob.row) true)) (oS (tJ u24 fP)) (gv hF oM (gv hF oM ?_)))))); obtain ⟨x1, hx1, h⟩ := au h; refine gv hF (bf rfl rfl rfl rfl rfl (re u24 fP hx1)) ?_; obtain ⟨x2, hx2, h⟩ := au h; refine SmG.appendFreshL hF rS rfl (ys := x1) (row := Ob.row) rfl rfl rfl rfl rfl rfl rfl (.inl rfl) hx2 ?_; refine gv hF oA (sn (sr hF (gv hF oM (gv hF oM (gv hF oM ?_))))); obtain ⟨x3, hx3, h⟩ := au h; refine gv hF (oB (dS hx3)) ?_; obtain ⟨x4, hx4, h⟩ := au h; refine gv hF (bf rfl rfl rfl rfl rfl (wb u24 fP hx4)) ?_; obtain ⟨x5, hx5, h⟩ := au h; refine eW hF rS rfl (ys := x4) (row := Ob.row) rfl rfl rfl rfl rfl rfl rfl rfl (.inl rfl) hx5 (by (repeat' first | exact ml _ | refine lf ?_ | refine cW ?_ (iV _ _ _) | refine cW ?_ (iV _ _ [_]) | refine cW ?_ (nw (by rfl)))) ?_; refine gv hF oA (sn (Sm.ret ?_)); obtain rfl := aY h; exact lS 0 rfl rfl rfl
theorem Dq (l : List Ob) (k : Vec 32) (hl : l.length <= 4294967296) : gr l k.l = some (cF l k.l) := by
 unfold gr; refine Ok.get ?_; refine Ok.bind (P := fun o => o = match ba l k.l with | some i => .inr (i : Int) | none => .inl ()) ?_ ?_
 ·refine Ok.loop (fun s : Int => ∃ i : Nat, s = i /\ i <= l.length /\ ∀ j x, j < i -> l[j]? = some x -> ¬ (x.sum.l = k.l)) (fun s : Int => l.length - s.toNat) ⟨0, rfl, by omega, fun j x h => by omega⟩ ?_; rintro _ ⟨i, rfl, h1, h2⟩; unfold dq; refine Ok.cond (fun c => ?_) fun c => Ok.ret ?_
  ·simp only [decide_eq_true_eq] at c; have hx : l[i]? = some (l[i]'(by omega)) := List.getElem?_eq_getElem _; generalize l[i]'(by omega) = x at hx; rw [eP, hx, ax, CA x.sum.h, ax, CA k.h, ax]; refine Ok.cond (fun c2 => Ok.ret ?_) fun c2 => ?_
   ·have hf : ba l k.l = some i := by
     unfold ba; rw [List.findIdx?_eq_some_iff_getElem]; refine ⟨by omega, ?_, fun j hj => ?_⟩
     ·rw [List.getElem?_eq_getElem (by omega)] at hx; rw [Option.some.inj hx]; exact c2
     ·have := h2 j _ hj (List.getElem?_eq_getElem (by omega)); simpa using this
    simp only [hf]
   ·rw [bZ (by omega), ax]; refine Ok.ret ⟨⟨i + 1, by omega, by omega, fun j y hj hy => ?_⟩, by omega⟩; by_cases e : j = i
    ·subst e; rw [hx] at hy; cases hy; simpa using c2
    ·exact h2 j y (by omega) hy
  ·simp only [decide_eq_false_iff_not] at c; have hf : ba l k.l = none := by
    unfold ba; rw [List.findIdx?_eq_none_iff]; intro x hx; obtain ⟨j, hj, e⟩ := List.getElem_of_mem hx; have := h2 j x (by omega) (by rw [List.getElem?_eq_getElem hj, e]); simpa using this
   simp only [hf]
 ·rintro o rfl; unfold cF; cases ba l k.l <;> exact Ok.ret rfl
theorem zP (l : List Ob) (k : Vec 32) (hl : l.length <= 4294967296) : am Tryd.prog HG 30 [.list 33 (l.map Ob.row) false, .agg 32 (az k.l)] (.v (.int .i64 (cF l k.l))) := qj (Dq l k hl)
theorem tT (l : List Ob) (i : Nat) (hl : l.length <= 1000000) (hi : i < l.length) : ci Tryd.prog HG 51 [.list 33 (l.map Ob.row) false, .v (.int .i64 i)] .one 33 ((l.eraseIdx i).map Ob.row) [] := by
 refine nP (a0 := l) (a1 := (i : Int)) (r := l.eraseIdx i) ?_; unfold hU; rw [ge (by omega), ax, cN (by simp; omega), ax, bZ (by omega), ax, ge (by omega), ax, cN (by simp; omega), ax]; have e : ((i : Int) + 1).toNat = i + 1 := by omega
 simp [e, List.eraseIdx_eq_take_drop_succ]
end
section
def fd (objs : List Ob) (n : Nat) (r : Rcd) : Option (List Ob) :=
 if r.ok = true /\ r.n = (n : Int) /\ (r.kind.toNat = 80 ↔ ba objs r.sum.l = none) /\ ¬ (r.kind.toNat = 80 /\ 256 <= objs.length) then
  (if r.kind.toNat = 80 then some (objs ++ [⟨r.sum, r.data⟩]) else (ba objs r.sum.l).map fun i => objs.eraseIdx i)
 else none
theorem gz (objs : List Ob) (n : Nat) : fd objs n xd = none := by
 unfold fd; rw [if_neg]; rintro ⟨h, _⟩; cases h
theorem Ip (objs : List Ob) (n : Nat) (B : zBz) (hB : 9 <= B.length) : rM objs n B = fd objs n (mQ B) := by
 obtain ⟨kind, r1, rfl⟩ : ∃ kind r1, B = kind :: r1 := by
  cases B with
  | nil => simp at hB
  | cons a l => exact ⟨a, l, rfl⟩
 have hr1 : 8 <= r1.length := by simp at hB; omega
 have hBl : (kind :: r1).length = r1.length + 1 := rfl; have hk : (kind :: r1).getD 0 0 = kind := rfl; have h5 : (kind :: r1).drop 5 = r1.drop 4 := rfl; have h1 : (kind :: r1).drop 1 = r1 := rfl; have h9 : (kind :: r1).drop 9 = (r1.drop 4).drop 4 := by rw [List.drop_drop]; rfl
 have hG80 : kind.toNat = 80 -> be ((r1.drop 4).take 4) + 9 = r1.length + 1 -> r1.length + 1 <= 65545 -> mQ (kind :: r1) = ⟨true, kind, (be (r1.take 4) : Nat), (r1.drop 4).drop 4, ff ((r1.drop 4).drop 4)⟩ := fun a b c => by
  unfold mQ; rw [hk, h5, h1, h9, hBl, if_pos ⟨a, b, c⟩]
 have hG68 : kind.toNat = 68 -> r1.length + 1 = 37 -> mQ (kind :: r1) = ⟨true, kind, (be (r1.take 4) : Nat), [], tC (r1.drop 4)⟩ := fun a b => by
  unfold mQ; rw [hk, h5, h1, h9, hBl, if_neg (by omega), if_pos ⟨a, b⟩]
 have hGno : ¬ (kind.toNat = 80 /\ be ((r1.drop 4).take 4) + 9 = r1.length + 1 /\ r1.length + 1 <= 65545) -> ¬ (kind.toNat = 68 /\ r1.length + 1 = 37) -> mQ (kind :: r1) = xd := fun a b => by
  unfold mQ; rw [hk, h5, h1, h9, hBl, if_neg a, if_neg b]
 rw [eB, if_neg (by omega)]; have hl4 : (r1.drop 4).length = r1.length - 4 := by simp
 have hl8 : ((r1.drop 4).drop 4).length = r1.length - 8 := by simp only [List.length_drop]; omega
 by_cases cn : be (r1.take 4) = n
 ·rw [if_neg (by simp [cn])]; unfold gn; by_cases k80 : kind.toNat = 80
  ·rw [if_pos k80]; by_cases c1 : (r1.drop 4).length < 4 \/ (r1.drop 4).length - 4 < be ((r1.drop 4).take 4)
   ·rw [if_pos c1, hGno (by omega) (by omega), gz]
   ·rw [if_neg c1]; unfold gH; have hd : (((r1.drop 4).drop 4).drop (be ((r1.drop 4).take 4))).length = r1.length - 8 - be ((r1.drop 4).take 4) := by rw [List.length_drop, hl8]
    by_cases c2 : be ((r1.drop 4).take 4) + 9 = r1.length + 1
    ·have hx : ((r1.drop 4).drop 4).take (be ((r1.drop 4).take 4)) = (r1.drop 4).drop 4 := List.take_of_length_le (by omega); rw [if_neg (by rw [hd]; omega), hx]; by_cases c3 : r1.length + 1 <= 65545
     ·rw [hG80 k80 c2 c3]; unfold fd; simp only [k80, true_and, true_iff, if_true, cn]; have hs : (ff ((r1.drop 4).drop 4)).l = Sha.sum ((r1.drop 4).drop 4) := rfl; rw [hs]; by_cases c4 : ba objs (Sha.sum ((r1.drop 4).drop 4)) = none /\ objs.length < 256
      ·rw [if_pos ⟨by omega, c4⟩, if_pos ⟨c4.1, by omega⟩]
      ·rw [if_neg (fun h => c4 h.2), if_neg (fun h => c4 ⟨h.1, by omega⟩)]
     ·rw [if_neg (fun h => by have := h.1; omega), hGno (by omega) (by omega), gz]
    ·rw [if_pos (by rw [hd]; omega), hGno (by omega) (by omega), gz]
  ·rw [if_neg k80]; by_cases k68 : kind.toNat = 68
   ·rw [if_pos k68]; by_cases c1 : (r1.drop 4).length < 32
    ·rw [if_pos c1, hGno (by omega) (by omega), gz]
    ·rw [if_neg c1]; unfold fQ; have hd : ((r1.drop 4).drop 32).length = r1.length - 36 := by rw [List.length_drop, hl4]; omega
     by_cases c2 : r1.length + 1 = 37
     ·have hx : (r1.drop 4).take 32 = r1.drop 4 := List.take_of_length_le (by omega); rw [if_neg (by rw [hd]; omega), hx, hG68 k68 c2]; have hv : (tC (r1.drop 4)).l = r1.drop 4 := by unfold tC; rw [dif_pos (by omega)]
      unfold fd; simp only [hv, cn, k80, false_iff, false_and, not_false_eq_true, and_true, true_and, if_false]; cases ba objs (r1.drop 4) with
      | none => simp
      | some i => simp
     ·rw [if_pos (by rw [hd]; omega), hGno (by omega) (by omega), gz]
   ·rw [if_neg k68, hGno (by omega) (by omega), gz]
 ·rw [if_pos (by exact cn)]; symm; unfold fd; rw [if_neg]; rintro ⟨g1, g2, _⟩; by_cases a : kind.toNat = 80 /\ be ((r1.drop 4).take 4) + 9 = r1.length + 1 /\ r1.length + 1 <= 65545
  ·rw [hG80 a.1 a.2.1 a.2.2] at g2; simp at g2; omega
  ·by_cases b : kind.toNat = 68 /\ r1.length + 1 = 37
   ·rw [hG68 b.1 b.2] at g2; simp at g2; omega
   ·rw [hGno a b] at g1; cases g1
theorem Cw (objs : List Ob) (n : Nat) (b : zBz) : bh objs n b = fd objs n (oD b) := by
 unfold bh oD; by_cases c1 : b.length < 41
 ·rw [if_pos c1, gz]; by_cases c0 : b.length < 32
  ·rw [if_pos c0]
  ·rw [if_neg c0]; split
   ·rfl
   ·have hl : (b.take (b.length - 32)).length <= 8 := by simp; omega
    generalize b.take (b.length - 32) = B at hl; cases B with
    | nil => rfl
    | cons k r =>
     have hr : r.length <= 7 := by simp at hl; omega
     rw [eB]; split
     ·rfl
     split
     ·rfl
     unfold gn; have hd : (r.drop 4).length <= 3 := by simp; omega
     split
     ·rw [if_pos (by omega)]
     ·split
      ·rw [if_pos (by omega)]
      ·rfl
 ·rw [if_neg c1, if_neg (by omega)]; by_cases c2 : Sha.sum (b.take (b.length - 32)) ≠ b.drop (b.length - 32)
  ·rw [if_pos c2, if_pos c2, gz]
  ·rw [if_neg c2, if_neg c2]; exact Ip objs n _ (by simp; omega)
end
section
theorem Di (sz : Nat) (rows : zRz) : (dB sz rows).sz = sz := rfl
section
variable {h : zHz} {l : Nat} {r : Rcd}
theorem lM (hl : look h l = some ⟨36, [r.row.map V.d]⟩) : aX Tryd.prog h 4 (.ref l 0 0) = some (.d (.v (.bool r.ok))) := by
 simp only [aX, hl, Option.bind_some, List.getElem?_cons_zero, cw, ag4]; rfl
theorem fT (hl : look h l = some ⟨36, [r.row.map V.d]⟩) : aX Tryd.prog h 5 (.ref l 0 1) = some (.d (.v (.int .u8 (r.kind.toNat : Int)))) := by
 simp only [aX, hl, Option.bind_some, List.getElem?_cons_zero, cw, ag5]; rfl
theorem pD (hl : look h l = some ⟨36, [r.row.map V.d]⟩) : aX Tryd.prog h 3 (.ref l 0 2) = some (.d (.v (.int .i64 r.n))) := by
 simp only [aX, hl, Option.bind_some, List.getElem?_cons_zero, cw, ag3]; rfl
theorem DE (hl : look h l = some ⟨36, [r.row.map V.d]⟩) : aX Tryd.prog h 30 (.ref l 0 3) = some (.d (.list 1 (r.data.map aj) false)) := by
 simp only [aX, hl, Option.bind_some, List.getElem?_cons_zero, cw, CN]; rfl
theorem xS (hl : look h l = some ⟨36, [r.row.map V.d]⟩) : aX Tryd.prog h 42 (.ref l 0 4) = some (.d (.agg 32 (az r.sum.l))) := by
 have hsl : (az r.sum.l).length = 32 := cR r.sum.h; have hs : seg (r.row.map V.d) 36 4 32 = (az r.sum.l).map V.d := by
  unfold seg; rw [if_neg (by decide), <- List.map_drop, <- List.map_take]
  congr 1
  simp only [Rcd.row, List.cons_append, List.nil_append, List.drop_succ_cons, List.drop_zero]; exact List.take_of_length_le (by omega)
 have hp : bx ((az r.sum.l).map V.d) = some (az r.sum.l) := gN _; simp only [aX, hl, Option.bind_some, List.getElem?_cons_zero, cw, oV, pj, hs, hp]; rfl
end
theorem ES (n sz : Nat) (rows : zRz) : ∀ r ∈ (dB sz rows).rows, ∀ y ∈ r, V.lt n y = true /\ y.noGh = true := by
 intro r hr y hy; obtain ⟨r0, _, rfl⟩ := List.mem_map.1 hr; obtain ⟨d, _, rfl⟩ := List.mem_map.1 hy; exact ⟨rfl, rfl⟩
theorem LQ {F : Fr} (h0 : F.n0 = 0) (hgt : ∀ ds h μ C w, F.G ds h μ C w) {a b c : D} {objs' safe' : zRz} {n m : Nat} : St.to F ⟨[(0, .d a), (2, .ref 0 0 0), (3, .ref 1 0 0), (4, .d b)], [(3, dB 1 safe'), (5, dB 33 objs'), (1, ⟨3, [[.sref 5 0 n, .sref 3 0 m, .d c]]⟩), (0, ⟨3, [[.d c, .d c, .d c]]⟩)], 6⟩
  ⟨[(0, .d a), (2, .ref 0 0 0), (3, .ref 1 0 0), (4, .d b)], [(3, dB 1 safe'), (2, dB 33 objs'), (1, ⟨3, [[.sref 2 0 n, .sref 3 0 m, .d c]]⟩), (0, ⟨3, [[.d c, .d c, .d c]]⟩)], 4⟩ := by
 have hH : ∀ m' k', look ([(3, dB 1 safe'), (2, dB 33 objs'), (1, ⟨3, [[.sref 2 0 n, .sref 3 0 m, .d c]]⟩), (0, ⟨3, [[.d c, .d c, .d c]]⟩)] : zHz) m' = some k' -> m' < 4 /\ look ([(3, dB 1 safe'), (5, dB 33 objs'), (1, ⟨3, [[.sref 5 0 n, .sref 3 0 m, .d c]]⟩), (0, ⟨3, [[.d c, .d c, .d c]]⟩)] : zHz) (if m' = 2 then 5 else m') = some (k'.ren fun m => if m = 2 then 5 else m) /\ (∀ r ∈ k'.rows, ∀ y ∈ r, V.lt 4 y = true /\ y.noGh = true) := by
  intro m' k' hk; simp only [look] at hk; split at hk
  ·rename_i e; subst e; cases hk; exact ⟨by decide, by rw [rQ]; rfl, ES _ _ _⟩
  split at hk
  ·rename_i e; subst e; cases hk; exact ⟨by decide, by rw [rQ]; rfl, ES _ _ _⟩
  split at hk
  ·rename_i e; subst e; cases hk; refine ⟨by decide, rfl, fun r hr y hy => ?_⟩; simp at hr; subst hr; simp at hy; rcases hy with rfl | rfl | rfl <;> exact ⟨rfl, rfl⟩
  split at hk
  ·rename_i e; subst e; cases hk; refine ⟨by decide, rfl, fun r hr y hy => ?_⟩; simp at hr; subst hr; simp at hy; subst hy; exact ⟨rfl, rfl⟩
  cases hk
 refine Gs (fun m => if m = 2 then 5 else m) (by omega) (by omega) ?_ hH ?_ (.inl hgt)
 ·intro t y hy; simp only [look] at hy; split at hy
  ·rename_i e; subst e; cases hy; exact ⟨rfl, rfl, rfl⟩
  split at hy
  ·rename_i e; subst e; cases hy; exact ⟨rfl, rfl, rfl⟩
  split at hy
  ·rename_i e; subst e; cases hy; exact ⟨rfl, rfl, rfl⟩
  split at hy
  ·rename_i e; subst e; cases hy; exact ⟨rfl, rfl, rfl⟩
  cases hy
 ·intro m1 m2 g1 g2 e; obtain ⟨k1, hk1⟩ := Option.isSome_iff_exists.1 g1; obtain ⟨k2, hk2⟩ := Option.isSome_iff_exists.1 g2; have l1 := (hH m1 k1 hk1).1; have l2 := (hH m2 k2 hk2).1; have e : (if m1 = 2 then 5 else m1) = (if m2 = 2 then 5 else m2) := e; split at e <;> split at e <;> omega
set_option maxHeartbeats 4000000 in
theorem Hv (rs : List zBz) (hrs : rs.length <= 1000000) (hb : ∀ b ∈ rs, b.length <= 1000000) : am Tryd.prog HG 32 [.list 1 (rs.map ai) false] (.agg 3 (Sto.row (bS [] [] rs))) := by
 refine uD Tryd.func32 rfl Tryd.ntmps32 (by simp) ?_; intro F hF h0 hT hgt; simp only [List.zipIdx_cons, List.zipIdx_nil, List.map_cons, List.map_nil, Nat.zero_add, Nat.reduceAdd]; refine Sm.seq ?_; refine ab hF rfl ?_; refine SmG.new hF rfl rfl rfl (aE rfl ko) ?_; refine SmG.nil (aa (Sm.seq ?_)); refine ab hF rfl ?_; refine gv hF (da rfl Tryd.underlying27 (by kernel_rfl) rfl MN) ?_; refine SmG.new hF rfl rfl rfl (aE rfl ko) ?_; refine SmG.store hF rfl rfl rfl rfl rfl (er gl rfl rfl) ?_; refine SmG.nil (aa (Sm.seq (Sm.seq ?_))); refine ab hF rfl ?_; refine gv hF oA (SmG.nil (aa (Sm.block ?_))); simp only [rep, Nat.zero_add, Nat.reduceEqDiff, if_true, if_false]; refine pT 1 0 0 33 rfl rfl rfl ?_; refine pT 1 0 1 1 rfl rfl rfl ?_; refine Sm.loop (ι := {s : Sto // s.queue = [] /\ s.objects.length <= 256 /\ s.safe.length <= rs.length /\ bS [] [] rs = bS s.objects s.safe (rs.drop s.safe.length)}) (fun s => ⟨[(0, .d (.list 1 (rs.map ai) false)), (2, .ref 0 0 0), (3, .ref 1 0 0), (4, .d (.v (.int .i64 s.1.safe.length)))], [(3, dB 1 (s.1.safe.map ai)), (2, dB 33 (s.1.objects.map Ob.row)), (1, ⟨3, [[.sref 2 0 s.1.objects.length, .sref 3 0 s.1.safe.length, .d (.list 0 [] true)]]⟩), (0, ⟨3, [[.d (.list 0 [] true), .d (.list 0 [] true), .d (.list 0 [] true)]]⟩)], 4⟩) (fun s => rs.length - s.1.safe.length) (⟨⟨[], [], []⟩, rfl, by decide, by simp, by simp⟩) ?_ ?_
 ·exact aI ⟨rfl, rfl, rfl, rfl, trivial⟩ ⟨rfl, rfl, rfl, rfl, trivial⟩ (Nat.le_refl _)
 rintro ⟨⟨objs, safe, queue⟩, hq, ho, hs, heq⟩; simp only at hq ho hs heq ⊢; have hfrz : ∀ (nx : Nat), St.to F ⟨[(2, .ref 0 0 0), (3, .ref 1 0 0)], [(3, dB 1 (safe.map ai)), (2, dB 33 (objs.map Ob.row)), (1, ⟨3, [[.sref 2 0 objs.length, .sref 3 0 safe.length, .d (.list 0 [] true)]]⟩), (0, ⟨3, [[.d (.list 0 [] true), .d (.list 0 [] true), .d (.list 0 [] true)]]⟩)], nx⟩ ⟨[(2, .ref 0 0 0), (3, .ref 1 0 0)], [(1, ⟨3, [[.d (.list 33 (objs.map Ob.row) false), .d (.list 1 (safe.map ai) false), .d (.list 0 [] true)]]⟩), (0, ⟨3, [[.d (.list 0 [] true), .d (.list 0 [] true), .d (.list 0 [] true)]]⟩)], nx⟩ := fun nx => by
  have h := eS (F := F) (st := ⟨[(2, .ref 0 0 0), (3, .ref 1 0 0)], [(3, dB 1 (safe.map ai)), (2, dB 33 (objs.map Ob.row)), (1, ⟨3, [[.sref 2 0 objs.length, .sref 3 0 safe.length, .d (.list 0 [] true)]]⟩), (0, ⟨3, [[.d (.list 0 [] true), .d (.list 0 [] true), .d (.list 0 [] true)]]⟩)], nx⟩) (l := 2) (objs.map Ob.row) rfl rfl; have h2 := eS (F := F) (st := ⟨[(2, .ref 0 0 0), (3, .ref 1 0 0)], [(3, dB 1 (safe.map ai)), (1, ⟨3, [[.d (.list 33 (objs.map Ob.row) false), .sref 3 0 safe.length, .d (.list 0 [] true)]]⟩), (0, ⟨3, [[.d (.list 0 [] true), .d (.list 0 [] true), .d (.list 0 [] true)]]⟩)], nx⟩) (l := 3) (safe.map ai) rfl rfl; refine aU (st' := ⟨[(2, .ref 0 0 0), (3, .ref 1 0 0)], [(3, dB 1 (safe.map ai)), (1, ⟨3, [[.d (.list 33 (objs.map Ob.row) false), .sref 3 0 safe.length, .d (.list 0 [] true)]]⟩), (0, ⟨3, [[.d (.list 0 [] true), .d (.list 0 [] true), .d (.list 0 [] true)]]⟩)], nx⟩) ?_ ?_
  ·simp only [gL, bM, dg, pC, Di, reduceIte, Nat.reduceEqDiff] at h; simpa [cP, aZ, ck] using h
  ·simp only [gL, bM, dg, pC, Di, reduceIte, Nat.reduceEqDiff] at h2; simpa [cP, aZ, ck] using h2
 by_cases hlt : safe.length < rs.length
 ·obtain ⟨b, hbi⟩ : ∃ b, rs[safe.length]? = some b := ⟨rs[safe.length], by simp⟩
  have hbl : b.length <= 1000000 := hb b (List.mem_of_getElem? hbi); have hdr : rs.drop safe.length = b :: rs.drop (safe.length + 1) := by
   rw [List.drop_eq_getElem_cons hlt]
   congr 1
   rw [List.getElem?_eq_getElem hlt] at hbi; exact Option.some.inj hbi
  have cread := ya b hbl; have hstep := Cw objs safe.length b; generalize oD b = r at cread hstep; refine Sm.seq (Sm.seq ?_); refine ab hF rfl ?_; refine gv hF oM (gv hF oM ?_); refine gv hF (aH rfl rfl (by simp only [go_sem, hbi, ai, av, ac] <;> rfl)) ?_; refine gv hF (ag rfl rfl rfl (by exact en _ _ _ _ _ (by omega))) ?_; refine SmG.nil (aa ?_); refine bg hF rfl ?_; refine Sm.skip ?_; refine aa (Sm.seq (Sm.block (Sm.seq ?_))); refine ab hF rfl ?_; refine gv hF oM (gv hF oM ?_); refine gv hF (ak rfl rfl rfl (by simp only [go_sem, hbi, ai, av, ac] <;> rfl)) ?_; refine gv hF (ae rfl rfl (by simp only [go_sem, hbi, ai, av, ac] <;> rfl)) ?_; refine SmG.call hF rfl rfl (by kernel_rfl) rfl rfl rfl (cread) ?_; refine SmG.new hF rfl rfl rfl (aE rfl CQ) ?_; refine SmG.store hF rfl rfl rfl rfl rfl (er gO rfl rfl) ?_; refine SmG.nil (aa (Sm.seq ?_)); simp only [rep, if_true]; refine Sm.to (bR (st' := ⟨[(0, .d (.list 1 (rs.map ai) false)), (2, .ref 0 0 0), (3, .ref 1 0 0), (4, .d (.v (.int .i64 safe.length))), (5, .ref 4 0 0)], [(4, ⟨36, [r.row.map V.d]⟩), (3, dB 1 (safe.map ai)), (2, dB 33 (objs.map Ob.row)), (1, ⟨3, [[.sref 2 0 objs.length, .sref 3 0 safe.length, .d (.list 0 [] true)]]⟩), (0, ⟨3, [[.d (.list 0 [] true), .d (.list 0 [] true), .d (.list 0 [] true)]]⟩)], 5⟩) (aI ⟨rfl, rfl, rfl, rfl, rfl, trivial⟩ ⟨rfl, rfl, rfl, rfl, rfl, trivial⟩ (Nat.le_refl _))) ?_; refine ab hF rfl ?_; refine gv hF (af rfl rfl (by simp only [go_sem, ac] <;> rfl)) ?_; refine gv hF (ae rfl rfl (by simp only [go_sem, ac] <;> rfl)) ?_; refine gv hF (af rfl rfl (by simp only [go_sem, ac] <;> rfl)) ?_; refine gv hF (ae rfl rfl (xS rfl)) ?_; refine ne hF (l := 2) (objs.map Ob.row) rfl rfl (by kernel_rfl) rfl rfl rfl (by simp only [cP, aZ]; simp; rfl) (zP objs r.sum (by omega)) (KF _) ?_; refine gv hF oA (SmG.nil (aa (Sm.seq (Sm.seq ?_)))); have hdone : bh objs safe.length b = none -> bS [] [] rs = ⟨objs, safe, []⟩ := fun h => by
   rw [heq, hdr]; unfold bS; rw [h]
  cases hok : r.ok
  ·
   refine ab hF rfl ?_; refine gv hF (af rfl rfl (by simp only [go_sem, ac] <;> rfl)) ?_; refine gv hF (ae rfl rfl ((lM rfl).trans (by rw [hok]))) ?_; refine gv hF (ek rfl rfl (by exact tr _)) ?_; refine gv hF oM ?_; refine gp hF ?_; refine gp hF ?_; refine gp hF ?_; refine gp hF ?_; refine gv hF (aM rfl rfl rfl) ?_; refine gv hF oM ?_; refine gp hF ?_; refine gp hF ?_; refine gp hF ?_; refine gp hF ?_; refine gp hF ?_; refine gp hF ?_; refine gv hF (aM rfl rfl rfl) ?_; refine gv hF oM ?_; refine gp hF ?_; refine gp hF ?_; refine gp hF ?_; refine gp hF ?_; refine gp hF ?_; refine gp hF ?_; refine gp hF ?_; refine gp hF ?_; refine gp hF ?_; refine gv hF (aM rfl rfl rfl) ?_; refine SmG.nil (aa ?_); refine bg hF rfl ?_; refine Sm.seq ?_; refine Sm.to (aU (bR (st' := ⟨[(2, .ref 0 0 0), (3, .ref 1 0 0)], [(3, dB 1 (safe.map ai)), (2, dB 33 (objs.map Ob.row)), (1, ⟨3, [[.sref 2 0 objs.length, .sref 3 0 safe.length, .d (.list 0 [] true)]]⟩), (0, ⟨3, [[.d (.list 0 [] true), .d (.list 0 [] true), .d (.list 0 [] true)]]⟩)], 5⟩) (aI ⟨rfl, rfl, trivial⟩ ⟨rfl, rfl, rfl, rfl, trivial⟩ (Nat.le_refl _))) (hfrz 5)) ?_; refine ab hF rfl ?_; refine gv hF (ae rfl rfl (cI rfl)) ?_; refine SmG.store hF rfl rfl rfl rfl rfl (er gl rfl rfl) ?_; refine SmG.nil (aa (Sm.ret ?_)); simp only [bc, bO]; refine cK rfl rfl (gU gl oU rfl) ?_; rw [hdone (by rw [hstep]; unfold fd; rw [if_neg]; rintro ⟨g1, g2, g3, g4⟩; rw [hok] at g1; cases g1)]; exact fY ⟨D.le.refl _, D.le.refl _, cA 0 1 true, trivial⟩
  by_cases hn : ¬ r.n = (safe.length : Int)
  ·
   refine ab hF rfl ?_; refine gv hF (af rfl rfl (by simp only [go_sem, ac] <;> rfl)) ?_; refine gv hF (ae rfl rfl ((lM rfl).trans (by rw [hok]))) ?_; refine gv hF (ek rfl rfl (by exact fX _)) ?_; refine gv hF oM ?_; refine gv hF (af rfl rfl (by simp only [go_sem, ac] <;> rfl)) ?_; refine gv hF (ae rfl rfl (pD rfl)) ?_; refine gv hF oM ?_; refine gv hF (ag rfl rfl rfl (by exact lQ _ _ _ _ _ (by omega))) ?_; refine gv hF (aL rfl rfl rfl) ?_; refine gv hF oM ?_; refine gp hF ?_; refine gp hF ?_; refine gp hF ?_; refine gp hF ?_; refine gp hF ?_; refine gp hF ?_; refine gv hF (aM rfl rfl rfl) ?_; refine gv hF oM ?_; refine gp hF ?_; refine gp hF ?_; refine gp hF ?_; refine gp hF ?_; refine gp hF ?_; refine gp hF ?_; refine gp hF ?_; refine gp hF ?_; refine gp hF ?_; refine gv hF (aM rfl rfl rfl) ?_; refine SmG.nil (aa ?_); refine bg hF rfl ?_; refine Sm.seq ?_; refine Sm.to (aU (bR (st' := ⟨[(2, .ref 0 0 0), (3, .ref 1 0 0)], [(3, dB 1 (safe.map ai)), (2, dB 33 (objs.map Ob.row)), (1, ⟨3, [[.sref 2 0 objs.length, .sref 3 0 safe.length, .d (.list 0 [] true)]]⟩), (0, ⟨3, [[.d (.list 0 [] true), .d (.list 0 [] true), .d (.list 0 [] true)]]⟩)], 5⟩) (aI ⟨rfl, rfl, trivial⟩ ⟨rfl, rfl, rfl, rfl, trivial⟩ (Nat.le_refl _))) (hfrz 5)) ?_; refine ab hF rfl ?_; refine gv hF (ae rfl rfl (cI rfl)) ?_; refine SmG.store hF rfl rfl rfl rfl rfl (er gl rfl rfl) ?_; refine SmG.nil (aa (Sm.ret ?_)); simp only [bc, bO]; refine cK rfl rfl (gU gl oU rfl) ?_; rw [hdone (by rw [hstep]; unfold fd; rw [if_neg]; rintro ⟨g1, g2, g3, g4⟩; exact hn g2)]; exact fY ⟨D.le.refl _, D.le.refl _, cA 0 1 true, trivial⟩
  have hn : r.n = (safe.length : Int) := Classical.not_not.1 hn; by_cases k80 : r.kind.toNat = 80
  ·cases hfn : ba objs r.sum.l with
   | some i =>
    have hfz : cF objs r.sum.l = (i : Int) := by unfold cF; rw [hfn]
    rw [hfz]; refine ab hF rfl ?_; refine gv hF (af rfl rfl (by simp only [go_sem, ac] <;> rfl)) ?_; refine gv hF (ae rfl rfl ((lM rfl).trans (by rw [hok]))) ?_; refine gv hF (ek rfl rfl (by exact fX _)) ?_; refine gv hF oM ?_; refine gv hF (af rfl rfl (by simp only [go_sem, ac] <;> rfl)) ?_; refine gv hF (ae rfl rfl (pD rfl)) ?_; refine gv hF oM ?_; refine gv hF (ag rfl rfl rfl (by exact fc _ _ _ _ _ (by omega))) ?_; refine gv hF (aL rfl rfl rfl) ?_; refine gv hF oM ?_; refine gv hF (af rfl rfl (by simp only [go_sem, ac] <;> rfl)) ?_; refine gv hF (ae rfl rfl (fT rfl)) ?_; refine gv hF (ag rfl rfl rfl (by exact dP _ _ _ _ _ (by omega))) ?_; refine gv hF oM ?_; refine gv hF (ag rfl rfl rfl (by exact eR _ _ _ _ _ (by omega))) ?_; refine gv hF (ag rfl rfl rfl (pJ _ _ _ _ (by kernel_rfl) (by exact (rfl : _ = true)))) ?_; refine gv hF (aL rfl rfl rfl) ?_; refine gv hF oM ?_; refine gp hF ?_; refine gp hF ?_; refine gp hF ?_; refine gp hF ?_; refine gp hF ?_; refine gp hF ?_; refine gp hF ?_; refine gp hF ?_; refine gp hF ?_; refine gv hF (aM rfl rfl rfl) ?_; refine SmG.nil (aa ?_); refine bg hF rfl ?_; refine Sm.seq ?_; refine Sm.to (aU (bR (st' := ⟨[(2, .ref 0 0 0), (3, .ref 1 0 0)], [(3, dB 1 (safe.map ai)), (2, dB 33 (objs.map Ob.row)), (1, ⟨3, [[.sref 2 0 objs.length, .sref 3 0 safe.length, .d (.list 0 [] true)]]⟩), (0, ⟨3, [[.d (.list 0 [] true), .d (.list 0 [] true), .d (.list 0 [] true)]]⟩)], 5⟩) (aI ⟨rfl, rfl, trivial⟩ ⟨rfl, rfl, rfl, rfl, trivial⟩ (Nat.le_refl _))) (hfrz 5)) ?_; refine ab hF rfl ?_; refine gv hF (ae rfl rfl (cI rfl)) ?_; refine SmG.store hF rfl rfl rfl rfl rfl (er gl rfl rfl) ?_; refine SmG.nil (aa (Sm.ret ?_)); simp only [bc, bO]; refine cK rfl rfl (gU gl oU rfl) ?_; rw [hdone (by rw [hstep]; unfold fd; rw [if_neg]; rintro ⟨g1, g2, g3, g4⟩; rw [g3.1 k80] at hfn; cases hfn)]; exact fY ⟨D.le.refl _, D.le.refl _, cA 0 1 true, trivial⟩
   | none =>
    have hfz : cF objs r.sum.l = -1 := by unfold cF; rw [hfn]
    rw [hfz]; by_cases c4 : 256 <= objs.length
    ·
     refine ab hF rfl ?_; refine gv hF (af rfl rfl (by simp only [go_sem, ac] <;> rfl)) ?_; refine gv hF (ae rfl rfl ((lM rfl).trans (by rw [hok]))) ?_; refine gv hF (ek rfl rfl (by exact fX _)) ?_; refine gv hF oM ?_; refine gv hF (af rfl rfl (by simp only [go_sem, ac] <;> rfl)) ?_; refine gv hF (ae rfl rfl (pD rfl)) ?_; refine gv hF oM ?_; refine gv hF (ag rfl rfl rfl (by exact fc _ _ _ _ _ (by omega))) ?_; refine gv hF (aL rfl rfl rfl) ?_; refine gv hF oM ?_; refine gv hF (af rfl rfl (by simp only [go_sem, ac] <;> rfl)) ?_; refine gv hF (ae rfl rfl (fT rfl)) ?_; refine gv hF (ag rfl rfl rfl (by exact dP _ _ _ _ _ (by omega))) ?_; refine gv hF oM ?_; refine gv hF (ag rfl rfl rfl (by exact en _ _ _ _ _ (by omega))) ?_; refine gv hF (ag rfl rfl rfl (pJ _ _ _ _ (by kernel_rfl) (by exact (rfl : _ = false)))) ?_; refine gv hF (aL rfl rfl rfl) ?_; refine gv hF oM ?_; refine gv hF (af rfl rfl (by simp only [go_sem, ac] <;> rfl)) ?_; refine gv hF (ae rfl rfl (fT rfl)) ?_; refine gv hF (ag rfl rfl rfl (by exact dP _ _ _ _ _ (by omega))) ?_; refine gv hF oM ?_; refine gv hF (af rfl rfl (by simp only [go_sem, ac] <;> rfl)) ?_; refine gv hF (ae rfl rfl (by simp only [go_sem, ac] <;> rfl)) ?_; refine gv hF (aH rfl rfl (by simp only [go_sem, ac] <;> rfl)) ?_; refine gv hF (ag rfl rfl rfl (by exact pL _ _ _ _ _ (by omega))) ?_; refine gv hF (aM rfl rfl rfl) ?_; refine gv hF (aL rfl rfl rfl) ?_; refine SmG.nil (aa ?_); refine bg hF rfl ?_; refine Sm.seq ?_; refine Sm.to (aU (bR (st' := ⟨[(2, .ref 0 0 0), (3, .ref 1 0 0)], [(3, dB 1 (safe.map ai)), (2, dB 33 (objs.map Ob.row)), (1, ⟨3, [[.sref 2 0 objs.length, .sref 3 0 safe.length, .d (.list 0 [] true)]]⟩), (0, ⟨3, [[.d (.list 0 [] true), .d (.list 0 [] true), .d (.list 0 [] true)]]⟩)], 5⟩) (aI ⟨rfl, rfl, trivial⟩ ⟨rfl, rfl, rfl, rfl, trivial⟩ (Nat.le_refl _))) (hfrz 5)) ?_; refine ab hF rfl ?_; refine gv hF (ae rfl rfl (cI rfl)) ?_; refine SmG.store hF rfl rfl rfl rfl rfl (er gl rfl rfl) ?_; refine SmG.nil (aa (Sm.ret ?_)); simp only [bc, bO]
     refine cK rfl rfl (gU gl oU rfl) ?_; rw [hdone (by rw [hstep]; unfold fd; rw [if_neg]; rintro ⟨g1, g2, g3, g4⟩; exact g4 ⟨k80, c4⟩)]; exact fY ⟨D.le.refl _, D.le.refl _, cA 0 1 true, trivial⟩
    ·have hnext : bh objs safe.length b = some (objs ++ [⟨r.sum, r.data⟩]) := by
      rw [hstep]; unfold fd; rw [if_pos ⟨hok, hn, ⟨fun _ => hfn, fun _ => k80⟩, fun h => c4 h.2⟩, if_pos k80]
     have hbo := tX r.sum r.data; refine ab hF rfl ?_; refine gv hF (af rfl rfl (by simp only [go_sem, ac, hbi, ai, av] <;> rfl)) ?_; refine gv hF (ae rfl rfl ((lM rfl).trans (by rw [hok]))) ?_; refine gv hF (ek rfl rfl (by exact fX _)) ?_; refine gv hF oM ?_; refine gv hF (af rfl rfl (by simp only [go_sem, ac, hbi, ai, av] <;> rfl)) ?_; refine gv hF (ae rfl rfl (pD rfl)) ?_; refine gv hF oM ?_; refine gv hF (ag rfl rfl rfl (by exact fc _ _ _ _ _ (by omega))) ?_; refine gv hF (aL rfl rfl rfl) ?_; refine gv hF oM ?_; refine gv hF (af rfl rfl (by simp only [go_sem, ac, hbi, ai, av] <;> rfl)) ?_; refine gv hF (ae rfl rfl (fT rfl)) ?_; refine gv hF (ag rfl rfl rfl (by exact dP _ _ _ _ _ (by omega))) ?_; refine gv hF oM ?_; refine gv hF (ag rfl rfl rfl (by exact en _ _ _ _ _ (by omega))) ?_; refine gv hF (ag rfl rfl rfl (pJ _ _ _ _ (by kernel_rfl) (by exact (rfl : _ = false)))) ?_; refine gv hF (aL rfl rfl rfl) ?_; refine gv hF oM ?_; refine gv hF (af rfl rfl (by simp only [go_sem, ac, hbi, ai, av] <;> rfl)) ?_; refine gv hF (ae rfl rfl (fT rfl)) ?_; refine gv hF (ag rfl rfl rfl (by exact dP _ _ _ _ _ (by omega))) ?_; refine gv hF oM ?_; refine gv hF (af rfl rfl (by simp only [go_sem, ac, hbi, ai, av] <;> rfl)) ?_; refine gv hF (ae rfl rfl (by simp only [go_sem, ac, hbi, ai, av] <;> rfl)) ?_; refine gv hF (aH rfl rfl (by simp only [go_sem, ac, hbi, ai, av] <;> rfl)) ?_; refine gv hF (ag rfl rfl rfl (by exact pK _ _ _ _ _ (by omega))) ?_; refine gv hF (aM rfl rfl rfl) ?_; refine gv hF (aL rfl rfl rfl) ?_; refine SmG.nil (aa ?_); refine aR hF rfl ?_; refine Sm.skip ?_; refine aa (Sm.seq (Sm.seq ?_)); refine ab hF rfl ?_; refine gv hF (af rfl rfl (by simp only [go_sem, ac, hbi, ai, av] <;> rfl)) ?_; refine gv hF (ae rfl rfl (fT rfl)) ?_; refine gv hF (ag rfl rfl rfl (by exact dP _ _ _ _ _ (by omega))) ?_; refine SmG.nil (aa ?_); refine bg hF rfl ?_; refine ab hF rfl ?_; refine gv hF (af rfl rfl (by simp only [go_sem, ac, hbi, ai, av] <;> rfl)) ?_; refine gv hF (ae rfl rfl (by simp only [go_sem, ac, hbi, ai, av] <;> rfl)) ?_
     refine gv hF (af rfl rfl (by simp only [go_sem, ac, hbi, ai, av] <;> rfl)) ?_; refine gv hF (ae rfl rfl (xS rfl)) ?_; refine gv hF (af rfl rfl (by simp only [go_sem, ac, hbi, ai, av] <;> rfl)) ?_; refine gv hF (ae rfl rfl (DE rfl)) ?_; refine gv hF (da rfl Tryd.underlying53 (by kernel_rfl) rfl hbo) ?_; refine gv hF (aP rfl rfl (by simp only [go_sem, ac, hbi, ai, av] <;> rfl)) ?_; rw [show objs.length = (objs.map Ob.row).length by simp]; refine jB hF rS rfl rfl rfl rfl rfl rfl rfl (by rfl) (Or.inl rfl) ?_ ?_ ?_; rotate_left; rotate_left; simp only [cY, Pk.v, V.free, rep, dg, ck, ny, li, oo, cH, List.map_cons, List.map_nil, bne_self_eq_false, Nat.reduceAdd, Nat.reduceBNe, Nat.reduceBEq, Nat.reduceEqDiff, reduceIte, Bool.false_eq_true]
     ·refine gv hF (af rfl rfl (by simp only [go_sem, ac, hbi, ai, av] <;> rfl)) ?_; refine SmG.store hF rfl rfl rfl rfl rfl (by simp only [go_sem, ac, hbi, ai, av] <;> rfl) ?_; refine SmG.nil (aa ?_); refine dE hF (by kernel_rfl) rfl 7 (by kernel_rfl) (by kernel_rfl) ?_; simp only [List.take_succ_cons, List.take_zero, List.take_nil]; refine hv hF (af rfl rfl (by simp only [go_sem, ac, hbi, ai, av] <;> rfl)) ?_; refine hv hF (ae rfl rfl (by simp only [go_sem, ac, hbi, ai, av] <;> rfl)) ?_; refine hv hF oM (hv hF oM ?_); refine hv hF (ak rfl rfl rfl (by simp only [go_sem, ac, hbi, ai, av] <;> rfl)) ?_; refine hv hF (ae rfl rfl (by simp only [go_sem, ac, hbi, ai, av] <;> rfl)) ?_; refine hv hF (aP rfl rfl (by simp only [go_sem, ac, hbi, ai, av] <;> rfl)) ?_; refine aq.last ⟨rfl, ?_⟩; simp only [List.drop_succ_cons, List.drop_zero, List.drop_nil, List.nil_append, List.cons_append]; refine jB hF mq rfl rfl rfl rfl rfl rfl rfl (by (simp; done)) (Or.inl rfl) ?_ ?_ ?_; rotate_left; rotate_left; simp only [cY, Pk.v, V.free, rep, dg, ck, ny, li, oo, cH, List.map_cons, List.map_nil, bne_self_eq_false, Nat.reduceAdd, Nat.reduceBNe, Nat.reduceBEq, Nat.reduceEqDiff, reduceIte, Bool.false_eq_true]
      ·have hro : objs.map Ob.row ++ [Ob.row ⟨r.sum, r.data⟩] = (objs ++ [(⟨r.sum, r.data⟩ : Ob)]).map Ob.row := by simp
       have hrs2 : safe.map ai ++ [[D.list 1 (b.map aj) false]] = (safe ++ [b]).map ai := by simp [ai, av]
       rw [hro, hrs2, show ((objs ++ [(⟨r.sum, r.data⟩ : Ob)]).map Ob.row).length = (objs ++ [(⟨r.sum, r.data⟩ : Ob)]).length by simp, show ((safe ++ [b]).map ai).length = (safe ++ [b]).length by simp]; refine gv hF (af rfl rfl (by simp only [go_sem, ac, hbi, ai, av] <;> rfl)) ?_; refine SmG.store hF rfl rfl rfl rfl rfl (by simp only [go_sem, ac, hbi, ai, av] <;> rfl) ?_; refine SmG.nil (aK (aa ?_)); refine Sm.to (aU (bR (st' := ⟨[(0, .d (.list 1 (rs.map ai) false)), (2, .ref 0 0 0), (3, .ref 1 0 0), (4, .d (.v (.int .i64 safe.length)))], [(3, dB 1 ((safe ++ [b]).map ai)), (2, dB 33 ((objs ++ [(⟨r.sum, r.data⟩ : Ob)]).map Ob.row)), (1, ⟨3, [[.sref 2 0 (objs ++ [(⟨r.sum, r.data⟩ : Ob)]).length, .sref 3 0 (safe ++ [b]).length, .d (.list 0 [] true)]]⟩), (0, ⟨3, [[.d (.list 0 [] true), .d (.list 0 [] true), .d (.list 0 [] true)]]⟩)], 5⟩) (aI ⟨rfl, rfl, rfl, rfl, trivial⟩ ⟨rfl, rfl, rfl, rfl, trivial⟩ (Nat.le_refl _))) (mH 4 rfl (by (repeat' first | exact pE _ | exact mX _ _ | exact trivial | refine nD ?_ (by decide) | refine lN ?_ (vE _ _ _) | refine pF ?_ ?_ | refine ⟨rfl, ?_⟩)) rfl (by omega))) ?_; refine ab hF rfl ?_; refine gv hF oM ?_; refine gv hF (ag rfl rfl rfl (by exact dl _ _ _ _ _ (aN _ (by omega)))) ?_; refine gv hF oA (SmG.nil (aa ?_)); have he : (safe.length : Int) + 1 = ((safe ++ [b]).length : Int) := by simp
       rw [he]; refine ⟨⟨⟨objs ++ [⟨r.sum, r.data⟩], safe ++ [b], []⟩, rfl, by simp; omega, by simp; omega, ?_⟩, by simp; omega, aI ⟨rfl, rfl, rfl, rfl, trivial⟩ ⟨rfl, rfl, rfl, rfl, trivial⟩ (Nat.le_refl _)⟩; rw [heq, hdr, bS, hnext]; simp
      ·simp; omega
      ·simp; omega
     ·simp; omega
     ·simp; omega
  ·cases hfn : ba objs r.sum.l with
   | none =>
    have hfz : cF objs r.sum.l = -1 := by unfold cF; rw [hfn]
    rw [hfz]; refine ab hF rfl ?_; refine gv hF (af rfl rfl (by simp only [go_sem, ac] <;> rfl)) ?_; refine gv hF (ae rfl rfl ((lM rfl).trans (by rw [hok]))) ?_; refine gv hF (ek rfl rfl (by exact fX _)) ?_; refine gv hF oM ?_; refine gv hF (af rfl rfl (by simp only [go_sem, ac] <;> rfl)) ?_; refine gv hF (ae rfl rfl (pD rfl)) ?_; refine gv hF oM ?_; refine gv hF (ag rfl rfl rfl (by exact fc _ _ _ _ _ (by omega))) ?_; refine gv hF (aL rfl rfl rfl) ?_; refine gv hF oM ?_; refine gv hF (af rfl rfl (by simp only [go_sem, ac] <;> rfl)) ?_; refine gv hF (ae rfl rfl (fT rfl)) ?_; refine gv hF (ag rfl rfl rfl (by exact jN _ _ _ _ _ (by omega))) ?_; refine gv hF oM ?_; refine gv hF (ag rfl rfl rfl (by exact en _ _ _ _ _ (by omega))) ?_; refine gv hF (ag rfl rfl rfl (pJ _ _ _ _ (by kernel_rfl) (by exact (rfl : _ = true)))) ?_; refine gv hF (aL rfl rfl rfl) ?_; refine gv hF oM ?_; refine gp hF ?_; refine gp hF ?_; refine gp hF ?_; refine gp hF ?_; refine gp hF ?_; refine gp hF ?_; refine gp hF ?_; refine gp hF ?_; refine gp hF ?_; refine gv hF (aM rfl rfl rfl) ?_; refine SmG.nil (aa ?_); refine bg hF rfl ?_; refine Sm.seq ?_; refine Sm.to (aU (bR (st' := ⟨[(2, .ref 0 0 0), (3, .ref 1 0 0)], [(3, dB 1 (safe.map ai)), (2, dB 33 (objs.map Ob.row)), (1, ⟨3, [[.sref 2 0 objs.length, .sref 3 0 safe.length, .d (.list 0 [] true)]]⟩), (0, ⟨3, [[.d (.list 0 [] true), .d (.list 0 [] true), .d (.list 0 [] true)]]⟩)], 5⟩) (aI ⟨rfl, rfl, trivial⟩ ⟨rfl, rfl, rfl, rfl, trivial⟩ (Nat.le_refl _))) (hfrz 5)) ?_; refine ab hF rfl ?_; refine gv hF (ae rfl rfl (cI rfl)) ?_; refine SmG.store hF rfl rfl rfl rfl rfl (er gl rfl rfl) ?_; refine SmG.nil (aa (Sm.ret ?_)); simp only [bc, bO]; refine cK rfl rfl (gU gl oU rfl) ?_; rw [hdone (by rw [hstep]; unfold fd; rw [if_neg]; rintro ⟨g1, g2, g3, g4⟩; exact k80 (g3.2 hfn))]; exact fY ⟨D.le.refl _, D.le.refl _, cA 0 1 true, trivial⟩
   | some i =>
    have hfz : cF objs r.sum.l = (i : Int) := by unfold cF; rw [hfn]
    rw [hfz]; have hi : i < objs.length := by
     unfold ba at hfn; rw [List.findIdx?_eq_some_iff_getElem] at hfn; exact hfn.1
    have hnext : bh objs safe.length b = some (objs.eraseIdx i) := by
     rw [hstep]; unfold fd; rw [if_pos ⟨hok, hn, ⟨fun h => absurd h k80, fun h => by rw [hfn] at h; cases h⟩, fun h => k80 h.1⟩, if_neg k80, hfn]; rfl
    have ho2 : (objs.eraseIdx i).length <= 256 := by have := List.length_eraseIdx_le objs i; omega
    refine ab hF rfl ?_; refine gv hF (af rfl rfl (by simp only [go_sem, ac, hbi, ai, av] <;> rfl)) ?_; refine gv hF (ae rfl rfl ((lM rfl).trans (by rw [hok]))) ?_; refine gv hF (ek rfl rfl (by exact fX _)) ?_; refine gv hF oM ?_; refine gv hF (af rfl rfl (by simp only [go_sem, ac, hbi, ai, av] <;> rfl)) ?_; refine gv hF (ae rfl rfl (pD rfl)) ?_; refine gv hF oM ?_; refine gv hF (ag rfl rfl rfl (by exact fc _ _ _ _ _ (by omega))) ?_; refine gv hF (aL rfl rfl rfl) ?_; refine gv hF oM ?_; refine gv hF (af rfl rfl (by simp only [go_sem, ac, hbi, ai, av] <;> rfl)) ?_; refine gv hF (ae rfl rfl (fT rfl)) ?_; refine gv hF (ag rfl rfl rfl (by exact jN _ _ _ _ _ (by omega))) ?_; refine gv hF oM ?_; refine gv hF (ag rfl rfl rfl (by exact eR _ _ _ _ _ (by omega))) ?_; refine gv hF (ag rfl rfl rfl (pJ _ _ _ _ (by kernel_rfl) (by exact (rfl : _ = false)))) ?_; refine gv hF (aL rfl rfl rfl) ?_; refine gv hF oM ?_; refine gv hF (af rfl rfl (by simp only [go_sem, ac, hbi, ai, av] <;> rfl)) ?_; refine gv hF (ae rfl rfl (fT rfl)) ?_; refine gv hF (ag rfl rfl rfl (by exact jN _ _ _ _ _ (by omega))) ?_; refine gv hF oM ?_; refine gp hF ?_; refine gp hF ?_; refine gp hF ?_; refine gp hF ?_; refine gv hF (aL rfl rfl rfl) ?_; refine gv hF (aL rfl rfl rfl) ?_; refine SmG.nil (aa ?_); refine aR hF rfl ?_; refine Sm.skip ?_; refine aa (Sm.seq (Sm.seq ?_)); refine ab hF rfl ?_; refine gv hF (af rfl rfl (by simp only [go_sem, ac, hbi, ai, av] <;> rfl)) ?_; refine gv hF (ae rfl rfl (fT rfl)) ?_; refine gv hF (ag rfl rfl rfl (by exact jN _ _ _ _ _ (by omega))) ?_; refine SmG.nil (aa ?_); refine aR hF rfl ?_; have hf2 : St.to F ⟨[(0, .d (.list 1 (rs.map ai) false)), (2, .ref 0 0 0), (3, .ref 1 0 0), (4, .d (.v (.int .i64 safe.length))), (6, .d (.v (.int .i64 i)))], [(3, dB 1 (safe.map ai)), (2, dB 33 (objs.map Ob.row)), (1, ⟨3, [[.sref 2 0 objs.length, .sref 3 0 safe.length, .d (.list 0 [] true)]]⟩), (0, ⟨3, [[.d (.list 0 [] true), .d (.list 0 [] true), .d (.list 0 [] true)]]⟩)], 5⟩ ⟨[(0, .d (.list 1 (rs.map ai) false)), (2, .ref 0 0 0), (3, .ref 1 0 0), (4, .d (.v (.int .i64 safe.length))), (6, .d (.v (.int .i64 i)))], [(3, dB 1 (safe.map ai)), (1, ⟨3, [[.d (.list 33 (objs.map Ob.row) false), .sref 3 0 safe.length, .d (.list 0 [] true)]]⟩), (0, ⟨3, [[.d (.list 0 [] true), .d (.list 0 [] true), .d (.list 0 [] true)]]⟩)], 5⟩ := by
     have h := eS (F := F) (st := ⟨[(0, .d (.list 1 (rs.map ai) false)), (2, .ref 0 0 0), (3, .ref 1 0 0), (4, .d (.v (.int .i64 safe.length))), (6, .d (.v (.int .i64 i)))], [(3, dB 1 (safe.map ai)), (2, dB 33 (objs.map Ob.row)), (1, ⟨3, [[.sref 2 0 objs.length, .sref 3 0 safe.length, .d (.list 0 [] true)]]⟩), (0, ⟨3, [[.d (.list 0 [] true), .d (.list 0 [] true), .d (.list 0 [] true)]]⟩)], 5⟩) (l := 2) (objs.map Ob.row) rfl rfl; simp only [gL, bM, dg, pC, Di, reduceIte, Nat.reduceEqDiff] at h; simpa [cP, aZ, ck] using h
    refine Sm.to (aU (bR (st' := ⟨[(0, .d (.list 1 (rs.map ai) false)), (2, .ref 0 0 0), (3, .ref 1 0 0), (4, .d (.v (.int .i64 safe.length))), (6, .d (.v (.int .i64 i)))], [(3, dB 1 (safe.map ai)), (2, dB 33 (objs.map Ob.row)), (1, ⟨3, [[.sref 2 0 objs.length, .sref 3 0 safe.length, .d (.list 0 [] true)]]⟩), (0, ⟨3, [[.d (.list 0 [] true), .d (.list 0 [] true), .d (.list 0 [] true)]]⟩)], 5⟩) (aI ⟨rfl, rfl, rfl, rfl, rfl, trivial⟩ ⟨rfl, rfl, rfl, rfl, trivial⟩ (Nat.le_refl _))) hf2) ?_; refine ab hF rfl ?_; refine gv hF (af rfl rfl (by simp only [go_sem, ac, hbi, ai, av] <;> rfl)) ?_; refine gv hF (ae rfl rfl (by simp only [go_sem, ac, hbi, ai, av] <;> rfl)) ?_; refine gv hF oM ?_; refine SmG.callO hF rfl rfl (by kernel_rfl) rfl rfl rfl (tT objs i (by omega) hi) ?_; refine gv hF (af rfl rfl (by simp only [go_sem, ac, hbi, ai, av] <;> rfl)) ?_; refine SmG.store hF rfl rfl rfl rfl rfl (by simp only [go_sem, ac, hbi, ai, av] <;> rfl) ?_; refine SmG.nil (aa ?_); refine dE hF (by kernel_rfl) rfl 7 (by kernel_rfl) (by kernel_rfl) ?_; simp only [List.take_succ_cons, List.take_zero, List.take_nil]; refine hv hF (af rfl rfl (by simp only [go_sem, ac, hbi, ai, av] <;> rfl)) ?_; refine hv hF (ae rfl rfl (by simp only [go_sem, ac, hbi, ai, av] <;> rfl)) ?_; refine hv hF oM (hv hF oM ?_); refine hv hF (ak rfl rfl rfl (by simp only [go_sem, ac, hbi, ai, av] <;> rfl)) ?_; refine hv hF (ae rfl rfl (by simp only [go_sem, ac, hbi, ai, av] <;> rfl)) ?_; refine hv hF (aP rfl rfl (by simp only [go_sem, ac, hbi, ai, av] <;> rfl)) ?_; refine aq.last ⟨rfl, ?_⟩; simp only [List.drop_succ_cons, List.drop_zero, List.drop_nil, List.nil_append, List.cons_append]; refine jB hF mq rfl rfl rfl rfl rfl rfl rfl (by (simp; done)) (Or.inl rfl) ?_ ?_ ?_; rotate_left; rotate_left; simp only [cY, Pk.v, V.free, rep, dg, ck, ny, li, oo, cH, List.map_cons, List.map_nil, bne_self_eq_false, Nat.reduceAdd, Nat.reduceBNe, Nat.reduceBEq, Nat.reduceEqDiff, reduceIte, Bool.false_eq_true]
    ·have hrs2 : safe.map ai ++ [[D.list 1 (b.map aj) false]] = (safe ++ [b]).map ai := by simp [ai, av]
     rw [hrs2, show ((objs.eraseIdx i).map Ob.row).length = (objs.eraseIdx i).length by simp, show ((safe ++ [b]).map ai).length = (safe ++ [b]).length by simp]; refine gv hF (af rfl rfl (by simp only [go_sem, ac, hbi, ai, av] <;> rfl)) ?_; refine SmG.store hF rfl rfl rfl rfl rfl (by simp only [go_sem, ac, hbi, ai, av] <;> rfl) ?_; refine SmG.nil (aK (aa ?_)); refine Sm.to (aU (bR (st' := ⟨[(0, .d (.list 1 (rs.map ai) false)), (2, .ref 0 0 0), (3, .ref 1 0 0), (4, .d (.v (.int .i64 safe.length)))], [(3, dB 1 ((safe ++ [b]).map ai)), (5, dB 33 ((objs.eraseIdx i).map Ob.row)), (1, ⟨3, [[.sref 5 0 (objs.eraseIdx i).length, .sref 3 0 (safe ++ [b]).length, .d (.list 0 [] true)]]⟩), (0, ⟨3, [[.d (.list 0 [] true), .d (.list 0 [] true), .d (.list 0 [] true)]]⟩)], 6⟩) (aI ⟨rfl, rfl, rfl, rfl, trivial⟩ ⟨rfl, rfl, rfl, rfl, trivial⟩ (Nat.le_refl _))) (LQ h0 hgt)) ?_; refine ab hF rfl ?_; refine gv hF oM ?_; refine gv hF (ag rfl rfl rfl (by exact dl _ _ _ _ _ (aN _ (by omega)))) ?_; refine gv hF oA (SmG.nil (aa ?_)); have he : (safe.length : Int) + 1 = ((safe ++ [b]).length : Int) := by simp
     rw [he]; refine ⟨⟨⟨objs.eraseIdx i, safe ++ [b], []⟩, rfl, ho2, by simp; omega, ?_⟩, by simp; omega, aI ⟨rfl, rfl, rfl, rfl, trivial⟩ ⟨rfl, rfl, rfl, rfl, trivial⟩ (Nat.le_refl _)⟩; rw [heq, hdr, bS, hnext]; simp
    ·simp; omega
    ·simp; omega
 ·refine Sm.seq (Sm.seq ?_); refine ab hF rfl ?_; refine gv hF oM (gv hF oM ?_); refine gv hF (aH rfl rfl (by simp only [go_sem, ac] <;> rfl)) ?_; refine gv hF (ag rfl rfl rfl (by exact eR _ _ _ _ _ (by omega))) ?_; refine SmG.nil (aa ?_); refine aR hF rfl ?_; refine Sm.exit ?_; simp only [bc, bO, reduceIte, reduceCtorEq]; refine Sm.to (aU (bR (st' := ⟨[(2, .ref 0 0 0), (3, .ref 1 0 0)], [(3, dB 1 (safe.map ai)), (2, dB 33 (objs.map Ob.row)), (1, ⟨3, [[.sref 2 0 objs.length, .sref 3 0 safe.length, .d (.list 0 [] true)]]⟩), (0, ⟨3, [[.d (.list 0 [] true), .d (.list 0 [] true), .d (.list 0 [] true)]]⟩)], 4⟩) (aI ⟨rfl, rfl, trivial⟩ ⟨rfl, rfl, rfl, rfl, trivial⟩ (Nat.le_refl _))) (hfrz 4)) ?_; refine Sm.seq ?_; refine ab hF rfl ?_; refine gv hF (ae rfl rfl (cI rfl)) ?_; refine SmG.store hF rfl rfl rfl rfl rfl (er gl rfl rfl) ?_; refine SmG.nil (aa (Sm.ret ?_)); refine cK rfl rfl (gU gl oU rfl) ?_; have : safe.length = rs.length := by omega
  rw [heq, this, List.drop_length]; exact fY ⟨D.le.refl _, D.le.refl _, cA 0 1 true, trivial⟩
end
section
open Classical in
noncomputable def eO (a : zBz) : Option (Vec 32) := if a.length <= 1000000 then some (ff a) else none
noncomputable def iY : Con Tryd.prog HG nmS := ⟨47, [], [.lst .u8], .vec 32, fun a => eO a, false⟩
theorem rz {a : zBz} {r : Vec 32} (h : eO a = some r) : am Tryd.prog HG 47 [.list 1 (a.map aj) false] (.agg 32 (az r.l)) := by
 unfold eO at h; split at h
 ·cases h; exact qV a (by assumption) HG
 ·cases h
theorem lD : iY.Ok := ⟨fun _ a r h => rz h, fun h => by cases h⟩
open Classical in
noncomputable def jj (s : Sto) (k : UInt8) (x : zBz) : Option Sto := if s.safe.length <= 1000000 /\ s.queue.length <= 1000000 /\ x.length <= 100000 then some (lZ s k x) else none
theorem wK {s r : Sto} {k : UInt8} {x : zBz} (h : jj s k x = some r) : am Tryd.prog HG 65 [.agg 3 (Sto.row s), .v (.int .u8 (k.toNat : Int)), .list 1 (x.map aj) false] (.agg 3 (Sto.row r)) := by
 unfold jj at h; split at h
 ·rename_i hc; cases h; exact FH s k x hc.1 hc.2.1 hc.2.2
 ·cases h
noncomputable def pB : Con Tryd.prog HG nmS := ⟨65, [], [.nm 1, .u8, .lst .u8], .nm 1, fun a => jj a.1 a.2.1 a.2.2, false⟩
theorem wL : pB.Ok := ⟨fun _ a r h => wK h, fun h => by cases h⟩
open Classical in
noncomputable def jZ (s : Sto) (x : zBz) : Option (Sto × Vec 32 × Int) := if s.objects.length <= 1000000 /\ s.safe.length <= 1000000 /\ s.queue.length <= 1000000 /\ x.length <= 99000 then some (dJ s x) else none
theorem yE {s : Sto} {x : zBz} {r : Sto × Vec 32 × Int} (h : jZ s x = some r) : am Tryd.prog HG 40 [.agg 3 (Sto.row s), .list 1 (x.map aj) false] (.tup [.agg 3 (Sto.row r.1), .agg 32 (az r.2.1.l), .v (.int .i64 r.2.2)]) := by
 unfold jZ at h; split at h
 ·rename_i hc; cases h; exact Mk s x hc.1 hc.2.1 hc.2.2.1 hc.2.2.2
 ·cases h
noncomputable def rt : Con Tryd.prog HG nmS := ⟨40, [], [.nm 1, .lst .u8], .tup [.nm 1, .vec 32, .int .i64], fun a => jZ a.1 a.2, false⟩
theorem yF : rt.Ok := ⟨fun _ a r h => yE h, fun h => by cases h⟩
open Classical in
noncomputable def ef (rs : List zBz) : Option Sto := if rs.length <= 1000000 /\ ∀ b ∈ rs, b.length <= 1000000 then some (bS [] [] rs) else none
theorem qk {rs : List zBz} {r : Sto} (h : ef rs = some r) : am Tryd.prog HG 32 [.list 1 (rs.map ai) false] (.agg 3 (Sto.row r)) := by
 unfold ef at h; split at h
 ·rename_i hc; cases h; exact Hv rs hc.1 hc.2
 ·cases h
noncomputable def iG : Con Tryd.prog HG nmS := ⟨32, [], [.lst (.lst .u8)], .nm 1, fun a => ef a, false⟩
theorem kX : iG.Ok := ⟨fun _ a r h => qk h, fun h => by cases h⟩
noncomputable def vh : Con Tryd.prog HG nmS := ⟨14, [], [.nm 1], .bool, fun a => fD a, false⟩
theorem og : vh.Ok := ⟨fun _ a r h => vg h, fun h => by cases h⟩
noncomputable def vd : Con Tryd.prog HG nmS := ⟨25, [], [.nm 1, .lst .bool], .nm 1, fun a => iP a.1 a.2, false⟩
theorem oc : vd.Ok := ⟨fun _ a r h => vc h, fun h => by cases h⟩
open Classical in
noncomputable def ia (l : List Ob) (k : Vec 32) : Option Int := if l.length <= 4294967296 then some (cF l k.l) else none
theorem wJ {l : List Ob} {k : Vec 32} {r : Int} (h : ia l k = some r) : am Tryd.prog HG 58 [.list 33 (l.map Ob.row) false, .agg 32 (az k.l)] (.v (.int .i64 r)) := by
 unfold ia at h; split at h
 ·cases h; exact rZ l k (by assumption)
 ·cases h
noncomputable def lI : Con Tryd.prog HG nmS := ⟨58, [], [.lst (.nm 0), .vec 32], .int .i64, fun a => ia a.1 a.2, false⟩
theorem pA : lI.Ok := ⟨fun _ a r h => wJ h, fun h => by cases h⟩
noncomputable def mG : Con Tryd.prog HG nmS := ⟨59, [], [.lst (.nm 0), .int .i64], .lst (.nm 0), fun a => eG a.1 a.2, false⟩
theorem tF : mG.Ok := ⟨fun _ a r h => mF h, fun h => by cases h⟩
open Classical in
noncomputable def cV (n : Int) (x : zBz) : Option zBz := if 0 <= n /\ x.length <= 100000 then some (iK n.toNat x) else none
theorem mI {n : Int} {x r : zBz} (h : cV n x = some r) : am Tryd.prog HG 50 [.v (.int .i64 n), .list 1 (x.map aj) false] (.list 1 (r.map aj) false) := by
 unfold cV at h; split at h
 ·rename_i hc; cases h; have := BH n.toNat x hc.2; rwa [Int.toNat_of_nonneg hc.1] at this
 ·cases h
noncomputable def jc : Con Tryd.prog HG nmS := ⟨50, [], [.int .i64, .lst .u8], .lst .u8, fun a => cV a.1 a.2, false⟩
theorem mJ : jc.Ok := ⟨fun _ a r h => mI h, fun h => by cases h⟩
open Classical in
noncomputable def cO (n : Int) (k : Vec 32) : Option zBz := if 0 <= n then some (nI n.toNat k.l) else none
theorem mz {n : Int} {k : Vec 32} {r : zBz} (h : cO n k = some r) : am Tryd.prog HG 78 [.v (.int .i64 n), .agg 32 (az k.l)] (.list 1 (r.map aj) false) := by
 unfold cO at h; split at h
 ·rename_i hc; cases h; have := zE n.toNat k; rwa [Int.toNat_of_nonneg hc] at this
 ·cases h
noncomputable def iN : Con Tryd.prog HG nmS := ⟨78, [], [.int .i64, .vec 32], .lst .u8, fun a => cO a.1 a.2, false⟩
theorem mA : iN.Ok := ⟨fun _ a r h => mz h, fun h => by cases h⟩
end
section
noncomputable def fS : Con Tryd.prog HG nmS := ⟨33, [], [.lst (.lst (.lst .u8))], .lst (.lst .u8), fun a => bn a, false⟩
theorem jX : fS.Ok := ⟨fun _ a r h => jW h, fun h => by cases h⟩
noncomputable def tN : Option Sto :=
 some (⟨[], [], []⟩ : Sto)
theorem yC (a : Unit) : fO (cfA [] Tryd.f11.ntmps []) [] Tryd.f11 [] [] (.nm 1) (.e) a = tN := by kernel_rfl
noncomputable def yB : Con Tryd.prog HG nmS := ⟨11, [], [], (.nm 1), fun a => tN, false⟩
theorem yD : yB.Ok := ii .nil yC Tryd.func11 rfl
noncomputable def jY (a0 : Sto) (a1 : Vec 32) : Option (zBz × Int) :=
 ob (ia a0.objects a1) fun x1 =>
 bif (decide (x1 < 0)) then (
  some ([], 331)
 ) else (
  ob (idx a0.objects x1) fun x3 =>
  some (x3.data, 0)
 )
theorem yz (a : Sto × (Vec 32)) : fO (cfA [lI] Tryd.f44.ntmps [2, 3]) [] Tryd.f44 [] [(.nm 1), (.vec 32)] (.pair (.lst .u8) (.int .i64)) (.nj (.br .e .e)) a = jY a.1 a.2 := by kernel_rfl
noncomputable def rq : Con Tryd.prog HG nmS := ⟨44, [], [(.nm 1), (.vec 32)], (.pair (.lst .u8) (.int .i64)), fun a => jY a.1 a.2, false⟩
theorem yA : rq.Ok := ii (.cons pA .nil) yz Tryd.func44 rfl
noncomputable def iQ (a0 : Sto) (a1 : Vec 32) : Option (Sto × Int) :=
 ob (ia a0.objects a1) fun x1 =>
 bif (decide (x1 < 0)) then (
  some (a0, 331)
 ) else (
  ob (jj a0 (68 : UInt8) a1.l) fun x3 =>
  ob (eG x3.objects x1) fun x4 =>
  some ((⟨x4, x3.safe, x3.queue⟩ : Sto), 0)
 )
theorem ve (a : Sto × (Vec 32)) : fO (cfA [lI, pB, mG] Tryd.f45.ntmps [3]) [] Tryd.f45 [] [(.nm 1), (.vec 32)] (.pair (.nm 1) (.int .i64)) (.nj (.br .e (.seg 2 .e))) a = iQ a.1 a.2 := by kernel_rfl
noncomputable def od : Con Tryd.prog HG nmS := ⟨45, [], [(.nm 1), (.vec 32)], (.pair (.nm 1) (.int .i64)), fun a => iQ a.1 a.2, false⟩
theorem vf : od.Ok := ii (.cons pA (.cons wL (.cons tF .nil))) ve Tryd.func45 rfl
noncomputable def dH (a0 : Sto) : Option (List zBz) :=
 ob (app ([] : List zBz) a0.safe) fun x1 =>
 ob (app x1 a0.queue) fun x2 =>
 some x2
theorem rA (a : Sto) : fO (cfA [] Tryd.f16.ntmps [1]) [(7, 2)] Tryd.f16 [] [(.nm 1)] (.lst (.lst .u8)) (.e) a = dH a := by kernel_rfl
noncomputable def iZ : Con Tryd.prog HG nmS := ⟨16, [], [(.nm 1)], (.lst (.lst .u8)), fun a => dH a, false⟩
theorem ja : iZ.Ok := ii .nil rA Tryd.func16 rfl
noncomputable def gY (a0 : List Ob) (a1 : List Ob) (s2 : Int) : Option (Int ⊕ (Unit ⊕ Bool)) :=
 bif (decide (s2 < (a0.length : Int))) then (
  ob (idx a0 s2) fun x7 =>
  ob (idx a1 s2) fun x8 =>
  bif (!(x7.sum.l == x8.sum.l)) then (
   some (.inr (.inr false))
  ) else (
   ob (idx a0 s2) fun x10 =>
   ob (idx a1 s2) fun x11 =>
   bif (!(x10.data == x11.data)) then (
    some (.inr (.inr false))
   ) else (
    ob (arI .i64 (s2 + 1)) fun x13 =>
    some (.inl x13)
   )
  )
 ) else (
  some (.inr (.inl ()))
 )
noncomputable def cb (a0 : List Ob) (a1 : List Ob) : Option Bool :=
 bif ((a0.length : Int) != (a1.length : Int)) then (
  some false
 ) else (
  ob ((
   cQ (gY a0 a1) 0
   : Option (Unit ⊕ Bool))) fun o15 => match o15 with
  | .inl v14 => (
   some true
   )
  | .inr e16 => some e16
 )
theorem mh (a : (List Ob) × (List Ob)) : fO (cfA [] Tryd.f17.ntmps []) [] Tryd.f17 [] [(.lst (.nm 0)), (.lst (.nm 0))] .bool (.nj (.br .e (.jn ⟨[], [], [], [], [], [], 0⟩ true (.lp [] ⟨[0, 1], [], [], [(5, (.int .i64))], [], [], 0⟩ (.nj (.br (.nj (.seg 24 (.br .e (.br .e .e)))) .e))) .e))) a = cb a.1 a.2 := by kernel_rfl
noncomputable def fo : Con Tryd.prog HG nmS := ⟨17, [], [(.lst (.nm 0)), (.lst (.nm 0))], .bool, fun a => cb a.1 a.2, false⟩
theorem fp : fo.Ok := ii .nil mh Tryd.func17 rfl
noncomputable def gZ (a0 : List zBz) (a1 : List zBz) (s2 : Int) : Option (Int ⊕ (Unit ⊕ Bool)) :=
 bif (decide (s2 < (a0.length : Int))) then (
  ob (idx a0 s2) fun x7 =>
  ob (idx a1 s2) fun x8 =>
  bif (!(x7 == x8)) then (
   some (.inr (.inr false))
  ) else (
   ob (arI .i64 (s2 + 1)) fun x10 =>
   some (.inl x10)
  )
 ) else (
  some (.inr (.inl ()))
 )
noncomputable def cc (a0 : List zBz) (a1 : List zBz) : Option Bool :=
 bif ((a0.length : Int) != (a1.length : Int)) then (
  some false
 ) else (
  ob ((
   cQ (gZ a0 a1) 0
   : Option (Unit ⊕ Bool))) fun o12 => match o12 with
  | .inl v11 => (
   some true
   )
  | .inr e13 => some e13
 )
theorem mi (a : (List zBz) × (List zBz)) : fO (cfA [] Tryd.f18.ntmps []) [] Tryd.f18 [] [(.lst (.lst .u8)), (.lst (.lst .u8))] .bool (.nj (.br .e (.jn ⟨[], [], [], [], [], [], 0⟩ true (.lp [] ⟨[0, 1], [], [], [(5, (.int .i64))], [], [], 0⟩ (.nj (.br (.nj (.seg 10 (.br .e .e))) .e))) .e))) a = cc a.1 a.2 := by kernel_rfl
noncomputable def ir : Con Tryd.prog HG nmS := ⟨18, [], [(.lst (.lst .u8)), (.lst (.lst .u8))], .bool, fun a => cc a.1 a.2, false⟩
theorem mj : ir.Ok := ii .nil mi Tryd.func18 rfl
noncomputable def fm (a0 : Sto) (a1 : Sto) : Option Bool :=
 ob (cb a0.objects a1.objects) fun x1 =>
 bif x1 then (
  ob (cc a0.safe a1.safe) fun x3 =>
  bif x3 then (
   ob (cc a0.queue a1.queue) fun x5 =>
   some x5
  ) else (
   some false
  )
 ) else (
  some false
 )
theorem qp (a : Sto × Sto) : fO (cfA [fo, ir] Tryd.f26.ntmps [2, 3]) [] Tryd.f26 [] [(.nm 1), (.nm 1)] .bool (.br (.br .e .e) .e) a = fm a.1 a.2 := by kernel_rfl
noncomputable def kY : Con Tryd.prog HG nmS := ⟨26, [], [(.nm 1), (.nm 1)], .bool, fun a => fm a.1 a.2, false⟩
theorem qq : kY.Ok := ii (.cons fp (.cons mj .nil)) qp Tryd.func26 rfl
noncomputable def ji (a0 : Sto) : Option Sto :=
 ob (bn [a0.safe, a0.queue]) fun x1 =>
 some (⟨a0.objects, x1, []⟩ : Sto)
theorem wH (a : Sto) : fO (cfA [fS] Tryd.f27.ntmps [1]) [] Tryd.f27 [] [(.nm 1)] (.nm 1) (.seg 8 .e) a = ji a := by kernel_rfl
noncomputable def wG : Con Tryd.prog HG nmS := ⟨27, [], [(.nm 1)], (.nm 1), fun a => ji a, false⟩
theorem wI : wG.Ok := ii (.cons jX .nil) wH Tryd.func27 rfl
noncomputable def dz (a0 : Sto) (a1 : zBz) : Option Sto :=
 ob (app ([] : List zBz) a0.queue) fun x1 =>
 ob (app x1 [a1]) fun x2 =>
 some (⟨a0.objects, a0.safe, x2⟩ : Sto)
theorem pc (a : Sto × zBz) : fO (cfA [] Tryd.f49.ntmps []) [(9, 2)] Tryd.f49 [] [(.nm 1), (.lst .u8)] (.nm 1) (.e) a = dz a.1 a.2 := by kernel_rfl
noncomputable def gJ : Con Tryd.prog HG nmS := ⟨49, [], [(.nm 1), (.lst .u8)], (.nm 1), fun a => dz a.1 a.2, false⟩
theorem jU : gJ.Ok := ii .nil pc Tryd.func49 rfl
noncomputable def eh (a0 : Sto) : Option Sto :=
 ob (dH a0) fun x1 =>
 some (⟨a0.objects, x1, []⟩ : Sto)
theorem qv (a : Sto) : fO (cfA [iZ] Tryd.f63.ntmps [1]) [] Tryd.f63 [] [(.nm 1)] (.nm 1) (.seg 4 .e) a = eh a := by kernel_rfl
noncomputable def lc : Con Tryd.prog HG nmS := ⟨63, [], [(.nm 1)], (.nm 1), fun a => eh a, false⟩
theorem qw : lc.Ok := ii (.cons ja .nil) qv Tryd.func63 rfl
noncomputable def dR (a0 : Sto) (a1 : List Bool) (s2 : (Int × (List zBz))) : Option ((Int × (List zBz)) ⊕ List zBz) :=
 bif (decide (s2.1 < (a0.queue.length : Int))) then (
  bif (decide (s2.1 < (a1.length : Int))) then (
   ob ((
    ob (idx a1 s2.1) fun x8 =>
    bif x8 then (
     ob (idx a0.queue s2.1) fun x10 =>
     ob (app s2.2 [x10]) fun x11 =>
     some x11
    ) else (
     some s2.2
    )
    : Option (List zBz))) fun v12 =>
   ob (arI .i64 (s2.1 + 1)) fun x13 =>
   some (.inl (x13, v12))
  ) else (
   some (.inr s2.2)
  )
 ) else (
  some (.inr s2.2)
 )
noncomputable def eT (a0 : Sto) (a1 : List Bool) : Option Sto :=
 ob (app ([] : List zBz) a0.safe) fun x1 =>
 ob ((
  cQ (dR a0 a1) (0, x1)
  : Option (List zBz))) fun v14 =>
 ob (ef v14) fun x15 =>
 some x15
theorem pp (a : Sto × (List Bool)) : fO (cfA [iG] Tryd.f64.ntmps [2]) [(10, 2)] Tryd.f64 [] [(.nm 1), (.lst .bool)] (.nm 1) (.jn ⟨[4], [(5, 1)], [0], [], [(1, (.lst .u8))], [], 2⟩ false (.lp [] ⟨[1, 2, 4], [(5, 1)], [0], [(6, (.int .i64))], [(1, (.lst .u8))], [], 2⟩ (.nj (.br (.br (.jn ⟨[1, 2, 4, 6, 17, 18, 19, 20], [(5, 1)], [0], [], [(1, (.lst .u8))], [], 2⟩ false (.br .e .e) .e) .e) .e))) .e) a = eT a.1 a.2 := by kernel_rfl
noncomputable def kJ : Con Tryd.prog HG nmS := ⟨64, [], [(.nm 1), (.lst .bool)], (.nm 1), fun a => eT a.1 a.2, false⟩
theorem pq : kJ.Ok := ii (.cons kX .nil) pp Tryd.func64 rfl
noncomputable def gj (a0 : Sto) : Option Bool :=
 ob (dH a0) fun x1 =>
 ob (ef x1) fun x2 =>
 bif ((x2.safe.length : Int) == (x1.length : Int)) then (
  ob (cb x2.objects a0.objects) fun x4 =>
  some x4
 ) else (
  some false
 )
theorem pw (a : Sto) : fO (cfA [iZ, iG, fo] Tryd.f13.ntmps [1]) [] Tryd.f13 [] [(.nm 1)] .bool (.br .e .e) a = gj a := by kernel_rfl
noncomputable def pv : Con Tryd.prog HG nmS := ⟨13, [], [(.nm 1)], .bool, fun a => gj a, false⟩
theorem hO : pv.Ok := ii (.cons ja (.cons kX (.cons fp .nil))) pw Tryd.func13 rfl
noncomputable def eF (a0 : Sto) (a1 : zBz) : Option Std :=
 ob (jZ a0 a1) fun x1 =>
 some (⟨x1.1, x1.2.1, x1.2.2⟩ : Std)
theorem pb (a : Sto × zBz) : fO (cfA [rt] Tryd.f20.ntmps [2]) [] Tryd.f20 [] [(.nm 1), (.lst .u8)] (.nm 4) (.e) a = eF a.1 a.2 := by kernel_rfl
noncomputable def oZ : Con Tryd.prog HG nmS := ⟨20, [], [(.nm 1), (.lst .u8)], (.nm 4), fun a => eF a.1 a.2, false⟩
theorem fi : oZ.Ok := ii (.cons yF .nil) pb Tryd.func20 rfl
noncomputable def fB (a0 : Sto) (a1 : Vec 32) : Option Std :=
 ob (iQ a0 a1) fun x1 =>
 some (⟨x1.1, (⟨List.replicate 32 0, rfl⟩ : Vec 32), x1.2⟩ : Std)
theorem nN (a : Sto × (Vec 32)) : fO (cfA [od] Tryd.f23.ntmps [2, 3]) [] Tryd.f23 [] [(.nm 1), (.vec 32)] (.nm 4) (.e) a = fB a.1 a.2 := by kernel_rfl
noncomputable def nM : Con Tryd.prog HG nmS := ⟨23, [], [(.nm 1), (.vec 32)], (.nm 4), fun a => fB a.1 a.2, false⟩
theorem nO : nM.Ok := ii (.cons vf .nil) nN Tryd.func23 rfl
noncomputable def eN (a0 : Sto) (a1 : Vec 32) : Option Gott :=
 ob (jY a0 a1) fun x1 =>
 some (⟨x1.1, x1.2⟩ : Gott)
theorem ry (a : Sto × (Vec 32)) : fO (cfA [rq] Tryd.f22.ntmps [2, 3]) [] Tryd.f22 [] [(.nm 1), (.vec 32)] (.nm 5) (.e) a = eN a.1 a.2 := by kernel_rfl
noncomputable def rx : Con Tryd.prog HG nmS := ⟨22, [], [(.nm 1), (.vec 32)], (.nm 5), fun a => eN a.1 a.2, false⟩
theorem lC : rx.Ok := ii (.cons yA .nil) ry Tryd.func22 rfl
noncomputable def eE (a0 : Std) (a1 : Std) : Option Bool :=
 ob (fm a0.s a1.s) fun x1 =>
 bif x1 then (
  bif (a0.k.l == a1.k.l) then (
   some (a0.e == a1.e)
  ) else (
   some false
  )
 ) else (
  some false
 )
theorem mw (a : Std × Std) : fO (cfA [kY] Tryd.f29.ntmps [2, 3]) [] Tryd.f29 [] [(.nm 4), (.nm 4)] .bool (.br (.br .e .e) .e) a = eE a.1 a.2 := by kernel_rfl
noncomputable def mu : Con Tryd.prog HG nmS := ⟨29, [], [(.nm 4), (.nm 4)], .bool, fun a => eE a.1 a.2, false⟩
theorem my : mu.Ok := ii (.cons qq .nil) mw Tryd.func29 rfl
end
section
open Classical in
noncomputable def lG (l : List Ob) (k : Vec 32) : Option Int := if l.length <= 4294967296 then some (cF l k.l) else none
theorem Dp {l : List Ob} {k : Vec 32} {r : Int} (h : lG l k = some r) : am Tryd.prog HG 30 [.list 33 (l.map Ob.row) false, .agg 32 (az k.l)] (.v (.int .i64 r)) := by
 unfold lG at h; split at h
 ·cases h; exact zP l k (by assumption)
 ·cases h
noncomputable def iF : Con Tryd.prog HG nmS := ⟨30, [], [.lst (.nm 0), .vec 32], .int .i64, fun a => lG a.1 a.2, false⟩
theorem kW : iF.Ok := ⟨fun _ a r h => Dp h, fun h => by cases h⟩
open Classical in
noncomputable def jT (l : List Ob) (i : Int) : Option (List Ob) := if l.length <= 1000000 /\ 0 <= i /\ i < (l.length : Int) then some (l.eraseIdx i.toNat) else none
theorem yy {l r : List Ob} {i : Int} (h : jT l i = some r) : am Tryd.prog HG 51 [.list 33 (l.map Ob.row) false, .v (.int .i64 i)] (.list 33 (r.map Ob.row) false) := by
 unfold jT at h; split at h
 ·rename_i hc; cases h; have := (tT l i.toNat hc.1 (by omega)).data; rwa [Int.toNat_of_nonneg hc.2.1] at this
 ·cases h
noncomputable def jP : Con Tryd.prog HG nmS := ⟨51, [], [.lst (.nm 0), .int .i64], .lst (.nm 0), fun a => jT a.1 a.2, false⟩
theorem nQ : jP.Ok := ⟨fun _ a r h => yy h, fun h => by cases h⟩
noncomputable def fH (a0 : Sto) (a1 : zBz) : Option Std :=
 bif (decide (65536 < (a1.length : Int))) then (
  some (⟨a0, (⟨List.replicate 32 0, rfl⟩ : Vec 32), 2⟩ : Std)
 ) else (
  ob (eO a1) fun x2 =>
  ob (lG a0.objects x2) fun x3 =>
  bif (decide (0 <= x3)) then (
   some (⟨a0, x2, 0⟩ : Std)
  ) else (
   bif (decide (256 <= (a0.objects.length : Int))) then (
    some (⟨a0, (⟨List.replicate 32 0, rfl⟩ : Vec 32), 330⟩ : Std)
   ) else (
    ob (app ([] : List Ob) a0.objects) fun x6 =>
    ob (arI .i64 ((a0.safe.length : Int) + (a0.queue.length : Int))) fun x7 =>
    ob (cV x7 a1) fun x8 =>
    ob (dz a0 x8) fun x9 =>
    ob (app ([] : zBz) a1) fun x10 =>
    ob (app x6 [(⟨x2, x10⟩ : Ob)]) fun x11 =>
    some (⟨(⟨x11, x9.safe, x9.queue⟩ : Sto), x2, 0⟩ : Std)
   )
  )
 )
theorem rB (a : Sto × zBz) : fO (cfA [iY, iF, jc, gJ] Tryd.f31.ntmps []) [(31, 2)] Tryd.f31 [] [(.nm 1), (.lst .u8)] (.nm 4) (.nj (.br .e (.nj (.br .e (.nj (.br .e (.seg 10 (.seg 7 .e)))))))) a = fH a.1 a.2 := by kernel_rfl
noncomputable def lE : Con Tryd.prog HG nmS := ⟨31, [], [(.nm 1), (.lst .u8)], (.nm 4), fun a => fH a.1 a.2, false⟩
theorem rC : lE.Ok := ii (.cons lD (.cons kW (.cons mJ (.cons jU .nil)))) rB Tryd.func31 rfl
noncomputable def eU (a0 : Sto) (a1 : Vec 32) : Option Std :=
 ob (lG a0.objects a1) fun x1 =>
 bif (decide (x1 < 0)) then (
  some (⟨a0, (⟨List.replicate 32 0, rfl⟩ : Vec 32), 331⟩ : Std)
 ) else (
  ob (arI .i64 ((a0.safe.length : Int) + (a0.queue.length : Int))) fun x3 =>
  ob (cO x3 a1) fun x4 =>
  ob (dz a0 x4) fun x5 =>
  ob (jT x5.objects x1) fun x6 =>
  some (⟨(⟨x6, x5.safe, x5.queue⟩ : Sto), (⟨List.replicate 32 0, rfl⟩ : Vec 32), 0⟩ : Std)
 )
theorem pt (a : Sto × (Vec 32)) : fO (cfA [iF, iN, gJ, jP] Tryd.f62.ntmps [3]) [] Tryd.f62 [] [(.nm 1), (.vec 32)] (.nm 4) (.nj (.br .e (.seg 10 .e))) a = eU a.1 a.2 := by kernel_rfl
noncomputable def kK : Con Tryd.prog HG nmS := ⟨62, [], [(.nm 1), (.vec 32)], (.nm 4), fun a => eU a.1 a.2, false⟩
theorem pu : kK.Ok := ii (.cons kW (.cons mA (.cons jU (.cons nQ .nil)))) pt Tryd.func62 rfl
noncomputable def fq (a0 : Sto) (a1 : SRaw) : Option Sto :=
 ob (slc a1.data 0 (min (a1.data.length : Int) 40)) fun x1 =>
 ob (sI (a1.kind.toNat : Int) 8) fun x2 =>
 ob ((
  bif (x2 == 0) then (
   some (x2 == 0)
  ) else (
   bif (x2 == 1) then (
    some (x2 == 1)
   ) else (
    bif (x2 == 2) then (
     some (x2 == 2)
    ) else (
     some (x2 == 3)
    )
   )
  )
  : Option Bool)) fun v6 =>
 bif v6 then (
  ob (fH a0 x1) fun x8 =>
  some x8.s
 ) else (
  ob ((
   bif (x2 == 4) then (
    some (x2 == 4)
   ) else (
    some (x2 == 5)
   )
   : Option Bool)) fun v10 =>
  bif v10 then (
   ob (eO x1) fun x12 =>
   ob (eU a0 x12) fun x13 =>
   some x13.s
  ) else (
   bif (x2 == 6) then (
    ob (eh a0) fun x15 =>
    some x15
   ) else (
    ob (eT a0 a1.keep) fun x16 =>
    some x16
   )
  )
 )
theorem qt (a : Sto × SRaw) : fO (cfA [lE, iY, kK, lc, kJ] Tryd.f39.ntmps [2, 3]) [] Tryd.f39 [] [(.nm 1), (.nm 2)] (.nm 1) (.nj (.jn ⟨[2, 3, 4, 5, 15], [], [0], [(16, .bool)], [], [], 1⟩ false (.br .e (.br .e (.br .e .e))) (.br .e (.jn ⟨[2, 3, 4, 5, 15], [], [0], [(25, .bool)], [], [], 1⟩ false (.br .e .e) (.br (.seg 3 .e) (.br .e .e)))))) a = fq a.1 a.2 := by kernel_rfl
noncomputable def kZ : Con Tryd.prog HG nmS := ⟨39, [], [(.nm 1), (.nm 2)], (.nm 1), fun a => fq a.1 a.2, false⟩
theorem qu : kZ.Ok := ii (.cons rC (.cons lD (.cons pu (.cons qw (.cons pq .nil))))) qt Tryd.func39 rfl
noncomputable def eg (a0 : List SRaw) (a1 : Int) (s1 : (Int × (List Ob) × (List zBz) × (List zBz))) : Option ((Int × (List Ob) × (List zBz) × (List zBz)) ⊕ ((List Ob) × (List zBz) × (List zBz))) :=
 bif (decide (s1.1 < (a0.length : Int))) then (
  bif (decide (s1.1 < a1)) then (
   ob (idx a0 s1.1) fun x7 =>
   ob (fq (⟨s1.2.1, s1.2.2.1, s1.2.2.2⟩ : Sto) x7) fun x8 =>
   ob (arI .i64 (s1.1 + 1)) fun x9 =>
   some (.inl (x9, x8.objects, x8.safe, x8.queue))
  ) else (
   some (.inr (s1.2.1, s1.2.2.1, s1.2.2.2))
  )
 ) else (
  some (.inr (s1.2.1, s1.2.2.1, s1.2.2.2))
 )
noncomputable def gt (a0 : List SRaw) (a1 : Int) : Option Sto :=
 ob ((
  cQ (eg a0 a1) (0, [], [], [])
  : Option ((List Ob) × (List zBz) × (List zBz)))) fun v10 =>
 some (⟨v10.1, v10.2.1, v10.2.2⟩ : Sto)
theorem qn (a : (List SRaw) × Int) : fO (cfA [kZ] Tryd.f19.ntmps []) [] Tryd.f19 [] [(.lst (.nm 2)), (.int .i64)] (.nm 1) (.jn ⟨[4, 5], [], [0], [], [], [(1, [some (.lst (.nm 0)), some (.lst (.lst .u8)), some (.lst (.lst .u8))])], 2⟩ false (.lp [] ⟨[0, 1, 4, 5], [], [0], [(6, (.int .i64))], [], [(1, [some (.lst (.nm 0)), some (.lst (.lst .u8)), some (.lst (.lst .u8))])], 2⟩ (.nj (.br (.br (.nj (.seg 5 .e)) .e) .e))) .e) a = gt a.1 a.2 := by kernel_rfl
noncomputable def qm : Con Tryd.prog HG nmS := ⟨19, [], [(.lst (.nm 2)), (.int .i64)], (.nm 1), fun a => gt a.1 a.2, false⟩
theorem qo : qm.Ok := ii (.cons qu .nil) qn Tryd.func19 rfl
end
section
theorem wz {n : Nat} (h : n < 4294967296) : be (bH n) = n := by
 simp only [bH, be, List.foldl_cons, List.foldl_nil, UInt8.toNat_ofNat']; omega
theorem nG (n : Nat) : (bH n).length = 4 := rfl
theorem BL (x : zBz) : (x ++ Sha.sum x).take ((x ++ Sha.sum x).length - 32) = x := by
 have : (Sha.sum x).length = 32 := Sha.out_length _; rw [List.length_append, this, Nat.add_sub_cancel, List.take_left']; rfl
theorem BK (x : zBz) : (x ++ Sha.sum x).drop ((x ++ Sha.sum x).length - 32) = Sha.sum x := by
 have : (Sha.sum x).length = 32 := Sha.out_length _; rw [List.length_append, this, Nat.add_sub_cancel, List.drop_left']; rfl
theorem rp (o : List Ob) (n : Nat) (x : zBz) : bh o n (x ++ Sha.sum x) = rM o n x := by
 have h32 : (Sha.sum x).length = 32 := Sha.out_length _; unfold bh; rw [if_neg (by simp [h32]), BL, BK, if_neg (by simp)]
theorem CV {o : List Ob} {n : Nat} {x : zBz} (hn : n < 4294967296) (hx : x.length <= 65536) (hf : ba o (Sha.sum x) = none) (ho : o.length < 256) : bh o n (iK n x) = some (o ++ [⟨ff x, x⟩]) := by
 unfold iK; rw [rp, eB]; have h4 := nG n; have h4' := nG x.length; have e1 : (bH n ++ bH x.length ++ x).take 4 = bH n := by rw [List.append_assoc, List.take_left' h4]
 have e2 : (bH n ++ bH x.length ++ x).drop 4 = bH x.length ++ x := by rw [List.append_assoc, List.drop_left' h4]
 rw [if_neg (by simp [h4]), e1, e2, wz hn, if_neg (by simp)]; unfold gn; have e3 : (bH x.length ++ x).take 4 = bH x.length := List.take_left' h4'; have e4 : (bH x.length ++ x).drop 4 = x := List.drop_left' h4'; rw [if_pos (by decide), e3, e4, wz (by omega), if_neg (by simp [h4'])]; unfold gH; rw [if_neg (by simp), List.take_length, if_pos ⟨hx, hf, ho⟩]
theorem Bg {o : List Ob} {n i : Nat} {k : zBz} (hn : n < 4294967296) (hk : k.length = 32) (hf : ba o k = some i) : bh o n (nI n k) = some (o.eraseIdx i) := by
 unfold nI; rw [rp, eB]; have h4 := nG n; have e1 : (bH n ++ k).take 4 = bH n := List.take_left' h4; have e2 : (bH n ++ k).drop 4 = k := List.drop_left' h4; rw [if_neg (by simp [h4]), e1, e2, wz hn, if_neg (by simp)]; unfold gn; rw [if_neg (by decide), if_pos (by decide), if_neg (by omega)]; unfold fQ; rw [if_neg (by simp [hk]), List.take_of_length_le (by omega), hf]
theorem qa {o o' o2 o2' : List Ob} {n m : Nat} {b : zBz} (h : bh o n b = some o') (k : bh o2 m b = some o2') : n = m := by
 unfold bh at h k; split at h
 ·cases h
 split at h
 ·cases h
 rw [if_neg (by assumption), if_neg (by assumption)] at k; generalize b.take (b.length - 32) = B at h k; cases B with
 | nil => cases h
 | cons c r =>
  rw [eB] at h k; split at h
  ·cases h
  split at h
  ·cases h
  rename_i h1 h2; rw [if_neg h1] at k; split at k
  ·cases k
  rename_i h3; simp only [ne_eq, Decidable.not_not] at h2 h3; rw [<- h2, <- h3]
def fE (o : List Ob) (n : Nat) : List zBz -> Option (List Ob)
 | [] => some o
 | b :: r => (bh o n b).bind fun o' => fE o' (n + 1) r
theorem tO (o : List Ob) (n : Nat) (a b : List zBz) : fE o n (a ++ b) = (fE o n a).bind fun o' => fE o' (n + a.length) b := by
 induction a generalizing o n with
 | nil => rfl
 | cons x r ih =>
  simp only [List.cons_append, fE, List.length_cons]; cases bh o n x with
  | none => rfl
  | some o' =>
   simp only [Option.bind_some, ih]; rw [show n + 1 + r.length = n + (r.length + 1) by omega]
theorem sa (o : List Ob) (n : Nat) (a : List zBz) (b : zBz) {o' : List Ob} (h : fE o n a = some o') : fE o n (a ++ [b]) = bh o' (n + a.length) b := by
 rw [tO, h]; simp only [Option.bind_some, fE]; cases bh o' (n + a.length) b <;> rfl
theorem jM : ∀ {l : List zBz} {o o' : List Ob} {s : List zBz}, fE o s.length l = some o' -> bS o s l = ⟨o', s ++ l, []⟩
 | [], o, o', s, h => by cases h; simp [bS]
 | b :: r, o, o', s, h => by
  simp only [fE] at h; cases hb : bh o s.length b with
  | none => rw [hb] at h; cases h
  | some o1 =>
   rw [hb] at h; simp only [Option.bind_some] at h; rw [bS, hb]; simp only; rw [jM (s := s ++ [b]) (by simpa using h)]; simp
theorem qO {a r : List zBz} {b : zBz} : ∀ {o o' : List Ob} {s : List zBz}, fE o s.length a = some o' -> bh o' (s.length + a.length) b = none -> bS o s (a ++ b :: r) = ⟨o', s ++ a, []⟩ := by
 induction a with
 | nil =>
  intro o o' s h k; cases h; simp only [List.nil_append, bS, List.append_nil]; simp only [List.length_nil, Nat.add_zero] at k; rw [k]
 | cons x t ih =>
  intro o o' s h k; simp only [fE] at h; cases hb : bh o s.length x with
  | none => rw [hb] at h; cases h
  | some o1 =>
   rw [hb] at h; simp only [Option.bind_some] at h; simp only [List.cons_append, bS, hb]; rw [ih (s := s ++ [x]) (by simpa using h) (by simp only [List.length_append, List.length_cons, List.length_nil] at k ⊢; rw [<- k]; congr 1; omega)]; simp
theorem su : ∀ (l : List zBz) (o : List Ob) (s : List zBz), ∃ (a : List zBz) (o' : List Ob), a <+: l /\ fE o s.length a = some o' /\ bS o s l = ⟨o', s ++ a, []⟩
 | [], o, s => ⟨[], o, List.prefix_refl _, rfl, by simp [bS]⟩
 | b :: r, o, s => by
  rw [bS]; cases hb : bh o s.length b with
  | none => exact ⟨[], o, List.nil_prefix, rfl, by simp⟩
  | some o1 =>
   obtain ⟨a, o', h1, h2, h3⟩ := su r o1 (s ++ [b]); refine ⟨b :: a, o', by rw [List.cons_prefix_cons]; exact ⟨rfl, h1⟩, ?_, by simp only [h3]; simp⟩; simp only [fE, hb, Option.bind_some]; simpa using h2
theorem ol {l : List zBz} {o o' : List Ob} {n : Nat} (h : fE o n l = some o') (k : Nat) : ∃ o1, fE o n (l.take k) = some o1 := by
 rw [<- List.take_append_drop k l, tO] at h; cases hq : fE o n (l.take k) with
 | none => rw [hq] at h; cases h
 | some o1 => exact ⟨o1, rfl⟩
theorem ta {l : List zBz} {o o' : List Ob} {n i : Nat} {b : zBz} (h : fE o n l = some o') (hi : l[i]? = some b) : ∃ o1 o2, fE o n (l.take i) = some o1 /\ bh o1 (n + i) b = some o2 := by
 obtain ⟨o1, h1⟩ := ol h i; obtain ⟨o2, h2⟩ := ol h (i + 1); have hl := (List.getElem?_eq_some_iff.1 hi).1; rw [List.take_add_one, hi] at h2; simp only [Option.toList_some] at h2; rw [sa _ _ _ _ h1, List.length_take, Nat.min_eq_left (by omega)] at h2; exact ⟨o1, o2, h1, h2⟩
def cT (s : Sto) : List zBz := s.safe ++ s.queue
def nT (s : Sto) : Prop := fE [] 0 (cT s) = some s.objects
theorem nT.open {s : Sto} (h : nT s) : bS [] [] (cT s) = ⟨s.objects, cT s, []⟩ := by
 have := jM (s := []) (l := cT s) (o := []) h; simpa using this
theorem Fg (l : List zBz) : nT (bS [] [] l) := by
 obtain ⟨a, o', h1, h2, h3⟩ := su l [] []; rw [h3]; simpa [nT, cT] using h2
structure ObsOk (m : Nat) (o : List Ob) : Prop where
 sum : ∀ x ∈ o, x.sum.l = Sha.sum x.data
 len : ∀ x ∈ o, x.data.length <= m
 dis : (o.map fun x => x.sum.l).Nodup
theorem Dr {o : List Ob} {k : zBz} : ba o k = none ↔ ∀ x ∈ o, x.sum.l ≠ k := by
 unfold ba; simp [List.findIdx?_eq_none_iff]
theorem Ds {o : List Ob} {k : zBz} {i : Nat} (h : ba o k = some i) : ∃ x, o[i]? = some x /\ x.sum.l = k := by
 unfold ba at h; rw [List.findIdx?_eq_some_iff_getElem] at h; obtain ⟨hi, h1, _⟩ := h; exact ⟨o[i], by simp [hi], by simpa using h1⟩
theorem ED {m : Nat} {o o' : List Ob} {n : Nat} {b : zBz} (ho : ObsOk m o) (hb : b.length <= m) (h : bh o n b = some o') : ObsOk m o' /\ o'.length <= o.length + 1 := by
 unfold bh at h; split at h
 ·cases h
 split at h
 ·cases h
 have hB : (b.take (b.length - 32)).length <= m := by simp; omega
 generalize b.take (b.length - 32) = B at h hB; cases B with
 | nil => cases h
 | cons c r =>
  rw [eB] at h; split at h
  ·cases h
  split at h
  ·cases h
  unfold gn at h; split at h
  ·split at h
   ·cases h
   ·unfold gH at h; split at h
    ·cases h
    split at h
    ·rename_i hc; cases h; have hxl : (((r.drop 4).drop 4).take (be ((r.drop 4).take 4))).length <= m := by simp at hB ⊢; omega
     generalize ((r.drop 4).drop 4).take (be ((r.drop 4).take 4)) = x at hc hxl; refine ⟨⟨fun y hy => ?_, fun y hy => ?_, ?_⟩, by simp⟩
     ·rcases List.mem_append.1 hy with hy | hy
      ·exact ho.sum y hy
      ·simp at hy; subst hy; rfl
     ·rcases List.mem_append.1 hy with hy | hy
      ·exact ho.len y hy
      ·simp at hy; subst hy; exact hxl
     ·rw [List.map_append, List.nodup_append]; refine ⟨ho.dis, by simp, fun a ha b hb => ?_⟩; simp at hb; subst hb; obtain ⟨y, hy, rfl⟩ := List.mem_map.1 ha; exact Dr.1 hc.2.1 y hy
    ·cases h
  ·split at h
   ·split at h
    ·cases h
    ·unfold fQ at h; split at h
     ·cases h
     split at h
     ·cases h
     ·cases h; rename_i i _; have hsub : (o.eraseIdx i).Sublist o := List.eraseIdx_sublist ..; refine ⟨⟨fun y hy => ho.sum y (hsub.mem hy), fun y hy => ho.len y (hsub.mem hy), (hsub.map _).nodup ho.dis⟩, ?_⟩; have := hsub.length_le; omega
   ·cases h
theorem tb {m : Nat} : ∀ {l : List zBz} {o o' : List Ob} {n : Nat}, ObsOk m o -> (∀ b ∈ l, b.length <= m) -> fE o n l = some o' -> ObsOk m o' /\ o'.length <= o.length + l.length
 | [], o, o', n, ho, _, h => by cases h; exact ⟨ho, by simp⟩
 | b :: r, o, o', n, ho, hb, h => by
  simp only [fE] at h; cases hq : bh o n b with
  | none => rw [hq] at h; cases h
  | some o1 =>
   rw [hq] at h; simp only [Option.bind_some] at h; obtain ⟨h1, h2⟩ := ED ho (hb b (by simp)) hq; obtain ⟨h3, h4⟩ := tb h1 (fun x hx => hb x (by simp [hx])) h; exact ⟨h3, by simp only [List.length_cons]; omega⟩
theorem ss (m : Nat) : ObsOk m [] := ⟨by simp, by simp, by simp⟩
structure SInv (m : Nat) (s : Sto) : Prop where
 good : nT s
 num : s.safe.length + s.queue.length <= m
 len : ∀ b ∈ cT s, b.length <= 2000
theorem SInv.obs {m : Nat} {s : Sto} (h : SInv m s) : ObsOk 2000 s.objects /\ s.objects.length <= m := by
 obtain ⟨h1, h2⟩ := tb (ss 2000) h.len h.good; have := h.num; simp only [cT, List.length_append, List.length_nil, Nat.zero_add] at h2; exact ⟨h1, by omega⟩
theorem SInv.mono {m m' : Nat} {s : Sto} (h : SInv m s) (k : m <= m') : SInv m' s := ⟨h.good, Nat.le_trans h.num k, h.len⟩
def mE : Sto := ⟨[], [], []⟩
theorem He : SInv 0 mE := ⟨rfl, Nat.le_refl _, by simp [mE, cT]⟩
theorem SInv.push {m : Nat} {s : Sto} (h : SInv m s) {b : zBz} {o : List Ob} (hb : b.length <= 2000) (ha : bh s.objects (s.safe.length + s.queue.length) b = some o) : SInv (m + 1) ⟨o, s.safe, s.queue ++ [b]⟩ := by
 have e : cT ⟨o, s.safe, s.queue ++ [b]⟩ = cT s ++ [b] := by simp [cT]
 refine ⟨?_, by have := h.num; simp; omega, fun x hx => ?_⟩
 ·unfold nT; rw [e, sa _ _ _ _ h.good]; have : (cT s).length = s.safe.length + s.queue.length := by simp [cT]
  rw [Nat.zero_add, this]; exact ha
 ·rw [e] at hx; rcases List.mem_append.1 hx with hx | hx
  ·exact h.len x hx
  ·simp at hx; subst hx; exact hb
theorem HH (n : Nat) (x : zBz) : (iK n x).length = x.length + 41 := by
 have : ∀ y, (Sha.sum y).length = 32 := fun y => Sha.out_length _
 simp [iK, this, nG]; omega
theorem HF (n : Nat) {k : zBz} (hk : k.length = 32) : (nI n k).length = 69 := by
 have : ∀ y, (Sha.sum y).length = 32 := fun y => Sha.out_length _
 simp [nI, this, nG, hk]
def evF (s : Sto) (k : Vec 32) : Sto := match ba s.objects k.l with
 | none => s
 | some i => ⟨s.objects.eraseIdx i, s.safe, s.queue ++ [nI (s.safe.length + s.queue.length) k.l]⟩
theorem Au (s : Sto) {x : zBz} (h : 65536 < x.length) : dJ s x = (s, ⟨List.replicate 32 0, rfl⟩, 2) := by unfold dJ; rw [if_pos h]
theorem qU (s : Sto) {x : zBz} {i : Nat} (h : ¬ 65536 < x.length) (hf : ba s.objects (Sha.sum x) = some i) : dJ s x = (s, ff x, 0) := by unfold dJ; rw [if_neg h, hf]; rfl
theorem xY (s : Sto) {x : zBz} (h : ¬ 65536 < x.length) (hf : ba s.objects (Sha.sum x) = none) (ho : 256 <= s.objects.length) : dJ s x = (s, ⟨List.replicate 32 0, rfl⟩, 330) := by unfold dJ; rw [if_neg h, hf, if_neg (by simp), if_pos ho]
theorem qT (s : Sto) {x : zBz} (h : ¬ 65536 < x.length) (hf : ba s.objects (Sha.sum x) = none) (ho : s.objects.length < 256) : dJ s x = (⟨s.objects ++ [⟨ff x, x⟩], s.safe, s.queue ++ [iK (s.safe.length + s.queue.length) x]⟩, ff x, 0) := by
 unfold dJ; rw [if_neg h, hf, if_neg (by simp), if_neg (by omega)]; simp [lZ, iK]
theorem SInv.put {m : Nat} {s : Sto} (h : SInv m s) {x : zBz} (hx : x.length <= 200) (hm : m < 256) : SInv (m + 1) (dJ s x).1 := by
 cases hf : ba s.objects (Sha.sum x) with
 | some i => rw [qU s (by omega) hf]; exact h.mono (by omega)
 | none =>
  have := h.obs.2; have hn := h.num; rw [qT s (by omega) hf (by omega)]; exact h.push (by rw [HH]; omega) (CV (by omega) (by omega) hf (by omega))
theorem SInv.evict {m : Nat} {s : Sto} (h : SInv m s) (k : Vec 32) (hm : m < 4294967296) : SInv (m + 1) (evF s k) := by
 unfold evF; have hn := h.num; cases hf : ba s.objects k.l with
 | none => exact h.mono (by omega)
 | some i => exact h.push (by rw [HF _ k.h]; omega) (Bg (by omega) k.h hf)
def gE (s : Sto) : Sto := ⟨s.objects, s.safe ++ s.queue, []⟩
theorem SInv.sync {m : Nat} {s : Sto} (h : SInv m s) : SInv m (gE s) := by
 have e : cT (gE s) = cT s := by simp [cT, gE]
 exact ⟨by unfold nT; rw [e]; exact h.good, by have := h.num; simp [gE]; omega, by rw [e]; exact h.len⟩
def cX : List zBz -> List Bool -> List zBz
 | q :: qs, true :: ks => q :: cX qs ks
 | _ :: qs, false :: ks => cX qs ks
 | _, _ => []
theorem jm : ∀ (q : List zBz) (k : List Bool), (cX q k).Sublist q
 | [], _ => by simp [cX]
 | _ :: _, [] => by simp [cX]
 | q :: qs, true :: ks => by rw [cX]; exact (jm qs ks).cons_cons q
 | q :: qs, false :: ks => by rw [cX]; exact (jm qs ks).cons q
def mb (s : Sto) (k : List Bool) : Sto := bS [] [] (s.safe ++ cX s.queue k)
theorem SInv.open {m : Nat} {l : List zBz} (hl : l.length <= m) (hb : ∀ b ∈ l, b.length <= 2000) : SInv m (bS [] [] l) := by
 obtain ⟨a, o', h1, h2, h3⟩ := su l [] []; refine ⟨Fg l, ?_, fun b hb' => ?_⟩
 ·rw [h3]; have := h1.length_le; simp; omega
 ·rw [h3] at hb'; simp [cT] at hb'; exact hb b (h1.subset hb')
theorem SInv.break {m : Nat} {s : Sto} (h : SInv m s) (k : List Bool) : SInv m (mb s k) := by
 have hs := jm s.queue k; refine SInv.open ?_ fun b hb => h.len b ?_
 ·have := h.num; have := hs.length_le; simp; omega
 ·simp only [cT]; rcases List.mem_append.1 hb with hb | hb
  ·simp [hb]
  ·simp [hs.subset hb]
def oJ (s : Sto) (x : SRaw) : Sto :=
 if x.kind.toNat % 8 < 4 then (dJ s (x.data.take 40)).1 else
 if x.kind.toNat % 8 < 6 then evF s (ff (x.data.take 40)) else
 if x.kind.toNat % 8 = 6 then gE s else mb s x.keep
theorem SInv.step {m : Nat} {s : Sto} (h : SInv m s) (x : SRaw) (hm : m < 256) : SInv (m + 1) (oJ s x) := by
 unfold oJ; have hl : (x.data.take 40).length <= 40 := by simp; omega
 split
 ·exact h.put (by omega) hm
 split
 ·exact h.evict _ (by omega)
 split
 ·exact h.sync.mono (by omega)
 ·exact (h.break _).mono (by omega)
def fN (l : List SRaw) (n : Nat) : Sto := (l.take n).foldl oJ mE
theorem uG : ∀ (l : List SRaw) (m : Nat) (s : Sto), SInv m s -> m + l.length <= 256 -> SInv (m + l.length) (l.foldl oJ s)
 | [], _, _, h, _ => h
 | x :: r, m, s, h, hm => by
  simp only [List.length_cons] at hm; have := uG r (m + 1) (oJ s x) (h.step x (by omega)) (by omega); simp only [List.foldl_cons, List.length_cons]; exact this.mono (by omega)
theorem zZ (l : List SRaw) (n : Nat) (hn : n <= 256) : SInv n (fN l n) := by
 have := uG (l.take n) 0 mE He (by simp; omega); exact this.mono (by simp; omega)
end
section
theorem ww {s : Sto} (h : s.safe.length + s.queue.length <= 1000000) : dH s = some (cT s) := by
 unfold dH; rw [cN (by simp; omega), ax, List.nil_append, cN (by omega), ax]; rfl
theorem Ir {s : Sto} (h : s.safe.length + s.queue.length <= 1000000) : ji s = some (gE s) := by
 unfold ji; rw [iD _ (by simp; omega) (by simp), ax]; simp [gE]
theorem Ee {s : Sto} (h : s.safe.length + s.queue.length <= 1000000) : eh s = some (gE s) := by
 unfold eh; rw [ww h, ax]; rfl
theorem vM {s : Sto} (b : zBz) (h : s.queue.length <= 1000000) : dz s b = some ⟨s.objects, s.safe, s.queue ++ [b]⟩ := by
 unfold dz; rw [cN (by simp; omega), ax, List.nil_append, cN (by simp; omega), ax]
theorem ur {l : List zBz} (h : l.length <= 1000000 /\ ∀ b ∈ l, b.length <= 1000000) : jh l = some (bS [] [] l) := if_pos h
theorem vJ {l : List zBz} (h : l.length <= 1000000 /\ ∀ b ∈ l, b.length <= 1000000) : ef l = some (bS [] [] l) := if_pos h
theorem yp {x : zBz} (h : x.length <= 1000000) : eO x = some (ff x) := if_pos h
theorem yl {l : List Ob} (k : Vec 32) (h : l.length <= 4294967296) : ia l k = some (cF l k.l) := if_pos h
theorem yd {l : List Ob} (k : Vec 32) (h : l.length <= 4294967296) : lG l k = some (cF l k.l) := if_pos h
theorem mM {l : List Ob} {k : zBz} {i : Nat} (h : ba l k = some i) : cF l k = (i : Int) := by unfold cF; rw [h]
theorem mL {l : List Ob} {k : zBz} (h : ba l k = none) : cF l k = -1 := by unfold cF; rw [h]
theorem uf {l : List Ob} {k : zBz} {i : Nat} (h : ba l k = some i) : i < l.length := by
 obtain ⟨x, hx, _⟩ := Ds h; exact (List.getElem?_eq_some_iff.1 hx).1
theorem Ki (s : Sto) : (⟨s.objects, s.safe, s.queue⟩ : Sto) = s := rfl
theorem Hz {s : Sto} (k : UInt8) {x : zBz} (h1 : s.safe.length <= 1000000) (h2 : s.queue.length <= 1000000) (h3 : x.length <= 100000) : jj s k x = some (lZ s k x) := if_pos ⟨h1, h2, h3⟩
theorem BM {l : List Ob} {i : Nat} (hl : l.length <= 1000000) (hi : i < l.length) : eG l (i : Int) = some (l.eraseIdx i) := by
 unfold eG; rw [ge (by omega), ax, bZ (by omega), ax, ge (by omega), ax, gX _ (by simp; omega) (by simp), ax]; have h1 : ((i : Int) + 1).toNat = i + 1 := by omega
 simp [List.eraseIdx_eq_take_drop_succ, h1]
theorem AJ {l : List Ob} {i : Nat} (hl : l.length <= 1000000) (hi : i < l.length) : jT l (i : Int) = some (l.eraseIdx i) := if_pos ⟨hl, by omega, by omega⟩
theorem SInv.small {m : Nat} {s : Sto} (h : SInv m s) (hm : m <= 256) : s.objects.length <= 256 /\ s.safe.length + s.queue.length <= 256 /\ (∀ b ∈ cT s, b.length <= 2000) := ⟨Nat.le_trans h.obs.2 hm, Nat.le_trans h.num hm, h.len⟩
theorem Io {m : Nat} {s : Sto} (h : SInv m s) (hm : m <= 256) {x : zBz} (hx : x.length <= 99000) : jZ s x = some (dJ s x) := by
 obtain ⟨h1, h2, _⟩ := h.small hm; exact if_pos ⟨by omega, by omega, by omega, hx⟩
theorem HR {m : Nat} {s : Sto} (h : SInv m s) (hm : m <= 256) {x : zBz} (hx : x.length <= 99000) : fH s x = some ⟨(dJ s x).1, (dJ s x).2.1, (dJ s x).2.2⟩ := by
 obtain ⟨h1, h2, _⟩ := h.small hm; unfold fH; by_cases c : 65536 < x.length
 ·rw [gS (by omega), cond_true, Au s c]
 rw [gR (by omega), cond_false, yp (by omega), ax, yd _ (by omega), ax]; show (bif decide (0 <= cF s.objects (Sha.sum x)) then _ else _) = _; cases hf : ba s.objects (Sha.sum x) with
 | some i => rw [mM hf, IK (by omega), cond_true, qU s c hf]
 | none =>
  rw [mL hf, IJ (by omega), cond_false]; by_cases c2 : 256 <= s.objects.length
  ·rw [IK (by omega), cond_true, xY s c hf c2]
  ·rw [IJ (by omega), cond_false, qT s c hf (by omega), cN (by simp; omega), ax, List.nil_append, bZ (by omega), ax]; have e : cV ((s.safe.length : Int) + (s.queue.length : Int)) x = some (iK (s.safe.length + s.queue.length) x) := by
    unfold cV; rw [if_pos ⟨by omega, by omega⟩]
    congr 2
   rw [e, ax, vM _ (by omega), ax, cN (by simp; omega), ax, List.nil_append, cN (by simp; omega), ax]
theorem Kg {m : Nat} {s : Sto} (h : SInv m s) (hm : m <= 256) (k : Vec 32) : iQ s k = some (evF s k, if ba s.objects k.l = none then 331 else 0) := by
 obtain ⟨h1, h2, _⟩ := h.small hm; unfold iQ evF; rw [yl _ (by omega), ax]; cases hf : ba s.objects k.l with
 | none => rw [mL hf, gS (by omega), cond_true]; rfl
 | some i =>
  have hi := uf hf; rw [mM hf, gR (by omega), cond_false, Hz _ (by omega) (by omega) (by rw [k.h]; omega), ax]; have e : (lZ s 68 k.l).objects = s.objects := rfl; rw [e, BM (by omega) hi, ax, if_neg (by simp)]; simp [lZ, nI]
theorem JU {m : Nat} {s : Sto} (h : SInv m s) (hm : m <= 256) (k : Vec 32) : eU s k = some ⟨evF s k, ⟨List.replicate 32 0, rfl⟩, if ba s.objects k.l = none then 331 else 0⟩ := by
 obtain ⟨h1, h2, _⟩ := h.small hm; unfold eU evF; rw [yd _ (by omega), ax]; cases hf : ba s.objects k.l with
 | none => rw [mL hf, gS (by omega), cond_true]; rfl
 | some i =>
  have hi := uf hf; rw [mM hf, gR (by omega), cond_false, bZ (by omega), ax]; have e : cO ((s.safe.length : Int) + (s.queue.length : Int)) k = some (nI (s.safe.length + s.queue.length) k.l) := by
   unfold cO; rw [if_pos (by omega)]
   congr 2
  rw [e, ax, vM _ (by omega), ax]; simp only; rw [AJ (by omega) hi, ax, if_neg (by simp)]
theorem AP {m : Nat} {s : Sto} (h : SInv m s) (hm : m <= 256) (k : Vec 32) : jY s k = some (match ba s.objects k.l with | none => ([], 331) | some i => ((s.objects.getD i ⟨k, []⟩).data, 0)) := by
 obtain ⟨h1, h2, _⟩ := h.small hm; unfold jY; rw [yl _ (by omega), ax]; cases hf : ba s.objects k.l with
 | none => rw [mL hf, gS (by omega), cond_true]
 | some i =>
  have hi := uf hf; rw [mM hf, gR (by omega), cond_false, eP, List.getElem?_eq_getElem hi, ax]; simp [List.getD_eq_getElem?_getD, hi]
theorem Gh {m : Nat} {s : Sto} (h : SInv m s) (hm : m <= 256) : ji s = some (gE s) := Ir (by have := (h.small hm).2.1; omega)
theorem FU {m : Nat} {s : Sto} (h : SInv m s) (hm : m <= 256) : eh s = some (gE s) := Ee (by have := (h.small hm).2.1; omega)
theorem Id {m : Nat} {s : Sto} (h : SInv m s) (hm : m <= 256) : dH s = some (cT s) := ww (by have := (h.small hm).2.1; omega)
theorem vw (q : List zBz) (k : List Bool) (i : Nat) {x : zBz} (hx : q[i]? = some x) : cX (q.take (i + 1)) k = cX (q.take i) k ++ (if k[i]? = some true then [x] else []) := by
 induction q generalizing k i with
 | nil => simp at hx
 | cons y r ih =>
  cases i with
  | zero =>
   simp at hx; subst hx; cases k with
   | nil => simp [cX]
   | cons b k => cases b <;> simp [cX]
  | succ i =>
   simp only [List.getElem?_cons_succ] at hx; simp only [List.take_succ_cons]; cases k with
   | nil => simp [cX]
   | cons b k =>
    have := ih k i hx; cases b <;> simp [cX, this]
theorem Dw (q : List zBz) (k : List Bool) {i : Nat} (h : k.length <= i) : cX q k = cX (q.take i) k := by
 induction q generalizing k i with
 | nil => simp
 | cons y r ih =>
  cases k with
  | nil => cases i <;> simp [cX]
  | cons b k =>
   cases i with
   | zero => simp at h
   | succ i =>
    have := ih k (i := i) (by simpa using h); cases b <;> simp [cX, this]
theorem vZ {s : Sto} (k : List Bool) (h : s.safe.length + s.queue.length <= 256) (hb : ∀ b ∈ cT s, b.length <= 2000) : iP s k = some (mb s k) := by
 unfold iP; have e : dk s.safe = some s.safe := if_pos (by omega); rw [e, ax]; have h2 : cQ (dX s k) (0, s.safe) = some (s.safe ++ cX s.queue k) := by
  have := kw (body := dX s k) (fun i => ((i : Int), s.safe ++ cX (s.queue.take i) k)) s.queue.length (e := s.safe ++ cX s.queue k) (fun i hi => by
   have hx : s.queue[i]? = some (s.queue[i]'hi) := List.getElem?_eq_getElem _; generalize s.queue[i]'hi = x at hx; have hl := (jm (s.queue.take i) k).length_le; rw [List.length_take] at hl; unfold dX; simp only; rw [gS (by omega), cond_true, eP, hx, ax, vw _ _ _ hx]; by_cases c : i < k.length
   ·have hk : k[i]? = some (k[i]'c) := List.getElem?_eq_getElem _; generalize k[i]'c = b at hk; rw [gS (by omega), cond_true, eP, hk, ax]; cases b with
    | true =>
     rw [cond_true, cN (by simp; omega), ax, ax, bZ (by omega), ax]; simp
    | false =>
     rw [cond_false, ax, bZ (by omega), ax]; simp
   ·rw [gR (by omega), cond_false, ax, bZ (by omega), ax]; have : k[i]? = none := by rw [List.getElem?_eq_none_iff]; omega
    rw [this]; simp) (by
   unfold dX; simp only [List.take_length]; rw [gR (by omega), cond_false])
  simpa [cX] using this
 rw [h2, ax, ur, ax]
 ·rfl
 ·have hs := jm s.queue k; refine ⟨by have := hs.length_le; simp; omega, fun b hb' => ?_⟩; have : b ∈ cT s := by
   simp only [cT]; rcases List.mem_append.1 hb' with hb' | hb'
   ·simp [hb']
   ·simp [hs.subset hb']
  exact Nat.le_trans (hb b this) (by omega)
theorem DU {s : Sto} (k : List Bool) (h : s.safe.length + s.queue.length <= 256) (hb : ∀ b ∈ cT s, b.length <= 2000) : eT s k = some (mb s k) := by
 unfold eT; rw [cN (by simp; omega), ax, List.nil_append]; have h2 : cQ (dR s k) (0, s.safe) = some (s.safe ++ cX s.queue k) := by
  have hmin : ∀ n, n = min s.queue.length k.length -> cX (s.queue.take n) k = cX s.queue k := fun n hn => by
   by_cases c : s.queue.length <= k.length
   ·rw [hn, Nat.min_eq_left c, List.take_length]
   ·rw [hn, Nat.min_eq_right (by omega), <- Dw _ _ (Nat.le_refl _)]
  have := kw (body := dR s k) (fun i => ((i : Int), s.safe ++ cX (s.queue.take i) k)) (min s.queue.length k.length) (e := s.safe ++ cX s.queue k) (fun i hi => by
   have hx : s.queue[i]? = some (s.queue[i]'(by omega)) := List.getElem?_eq_getElem _; generalize s.queue[i]'(by omega) = x at hx; have hl := (jm (s.queue.take i) k).length_le; rw [List.length_take] at hl; have hk : k[i]? = some (k[i]'(by omega)) := List.getElem?_eq_getElem _; generalize k[i]'(by omega) = b at hk; unfold dR; simp only; rw [gS (by omega), cond_true, gS (by omega), cond_true, eP, hk, ax, vw _ _ _ hx]; cases b with
   | true =>
    rw [cond_true, eP, hx, ax, cN (by simp; omega), ax, ax, bZ (by omega), ax]; simp [hk]
   | false =>
    rw [cond_false, ax, bZ (by omega), ax]; simp [hk]) (by
   unfold dR; simp only; rw [hmin _ rfl]; by_cases c : s.queue.length <= k.length
   ·rw [Nat.min_eq_left c, gR (by omega), cond_false]
   ·rw [Nat.min_eq_right (by omega), gS (by omega), cond_true, gR (by omega), cond_false])
  simpa [cX] using this
 rw [h2, ax, vJ, ax]
 ·rfl
 ·have hs := jm s.queue k; refine ⟨by have := hs.length_le; simp; omega, fun b hb' => ?_⟩; have : b ∈ cT s := by
   simp only [cT]; rcases List.mem_append.1 hb' with hb' | hb'
   ·simp [hb']
   ·simp [hs.subset hb']
  exact Nat.le_trans (hb b this) (by omega)
open Classical in
theorem FX (a b : List Ob) (ha : a.length <= 1000000) : cb a b = some (decide (a = b)) := by
 unfold cb; refine Ok.get ?_; refine Ok.cond (fun c => Ok.ret ?_) fun c => ?_
 ·have : a.length ≠ b.length := by simp at c; omega
  rw [eq_comm, decide_eq_false_iff_not]; intro e; subst e; exact this rfl
 have hl : a.length = b.length := by simp at c; omega
 refine Ok.bind (P := fun o => o = if a = b then .inl () else .inr false) ?_ ?_
 ·refine Ok.loop (fun s : Int => ∃ i : Nat, s = i /\ i <= a.length /\ ∀ j x y, j < i -> a[j]? = some x -> b[j]? = some y -> x = y) (fun s : Int => a.length - s.toNat) ⟨0, rfl, by omega, fun j x y h => by omega⟩ ?_; rintro _ ⟨i, rfl, h1, h2⟩; unfold gY; refine Ok.cond (fun c => ?_) fun c => Ok.ret ?_
  ·simp only [decide_eq_true_eq] at c; have hx : a[i]? = some (a[i]'(by omega)) := List.getElem?_eq_getElem _; have hy : b[i]? = some (b[i]'(by omega)) := List.getElem?_eq_getElem _; generalize a[i]'(by omega) = x at hx; generalize b[i]'(by omega) = y at hy; simp only [eP, hx, hy, ax]; have hstop : x ≠ y -> (Sum.inr false : Unit ⊕ Bool) = if a = b then .inl () else .inr false := fun hne => by
    rw [if_neg]; intro e; subst e; rw [hx] at hy; exact hne (Option.some.inj hy)
   have hgo : x = y -> ∀ j x' y', j < i + 1 -> a[j]? = some x' -> b[j]? = some y' -> x' = y' := fun he j x' y' hj hx' hy' => by
    by_cases e : j = i
    ·subst e; rw [hx] at hx'; rw [hy] at hy'; cases hx'; cases hy'; exact he
    ·exact h2 j x' y' (by omega) hx' hy'
   refine Ok.cond (fun c2 => Ok.ret (hstop fun e => ?_)) fun c2 => ?_
   ·subst e; simp at c2
   refine Ok.cond (fun c3 => Ok.ret (hstop fun e => ?_)) fun c3 => ?_
   ·subst e; simp at c3
   rw [bZ (by omega), ax]; have he : x = y := Ob.same.1 ⟨by simpa using c2, by simpa using c3⟩; exact Ok.ret ⟨⟨i + 1, by omega, by omega, hgo he⟩, by omega⟩
  ·simp only [decide_eq_false_iff_not] at c; rw [if_pos (qR hl h2 (by omega))]
 ·rintro o rfl; by_cases e : a = b
  ·rw [if_pos e, decide_eq_true e]; exact Ok.ret rfl
  ·rw [if_neg e, decide_eq_false e]; exact Ok.ret rfl
theorem FY (a b : List zBz) (ha : a.length <= 1000000) : cc a b = some (decide (a = b)) := by
 unfold cc; refine Ok.get ?_; refine Ok.cond (fun c => Ok.ret ?_) fun c => ?_
 ·have : a.length ≠ b.length := by simp at c; omega
  rw [eq_comm, decide_eq_false_iff_not]; intro e; subst e; exact this rfl
 have hl : a.length = b.length := by simp at c; omega
 refine Ok.bind (P := fun o => o = if a = b then .inl () else .inr false) ?_ ?_
 ·refine Ok.loop (fun s : Int => ∃ i : Nat, s = i /\ i <= a.length /\ ∀ j x y, j < i -> a[j]? = some x -> b[j]? = some y -> x = y) (fun s : Int => a.length - s.toNat) ⟨0, rfl, by omega, fun j x y h => by omega⟩ ?_; rintro _ ⟨i, rfl, h1, h2⟩; unfold gZ; refine Ok.cond (fun c => ?_) fun c => Ok.ret ?_
  ·simp only [decide_eq_true_eq] at c; have hx : a[i]? = some (a[i]'(by omega)) := List.getElem?_eq_getElem _; have hy : b[i]? = some (b[i]'(by omega)) := List.getElem?_eq_getElem _; generalize a[i]'(by omega) = x at hx; generalize b[i]'(by omega) = y at hy; simp only [eP, hx, hy, ax]; have hstop : x ≠ y -> (Sum.inr false : Unit ⊕ Bool) = if a = b then .inl () else .inr false := fun hne => by
    rw [if_neg]; intro e; subst e; rw [hx] at hy; exact hne (Option.some.inj hy)
   have hgo : x = y -> ∀ j x' y', j < i + 1 -> a[j]? = some x' -> b[j]? = some y' -> x' = y' := fun he j x' y' hj hx' hy' => by
    by_cases e : j = i
    ·subst e; rw [hx] at hx'; rw [hy] at hy'; cases hx'; cases hy'; exact he
    ·exact h2 j x' y' (by omega) hx' hy'
   refine Ok.cond (fun c2 => Ok.ret (hstop fun e => ?_)) fun c2 => ?_
   ·subst e; simp at c2
   rw [bZ (by omega), ax]; have he : x = y := by simpa using c2
   exact Ok.ret ⟨⟨i + 1, by omega, by omega, hgo he⟩, by omega⟩
  ·simp only [decide_eq_false_iff_not] at c; rw [if_pos (qR hl h2 (by omega))]
 ·rintro o rfl; by_cases e : a = b
  ·rw [if_pos e, decide_eq_true e]; exact Ok.ret rfl
  ·rw [if_neg e, decide_eq_false e]; exact Ok.ret rfl
theorem rb {a : List Ob} (ha : a.length <= 1000000) : cb a a = some true := (FX a a ha).trans (by simp)
theorem vW {a : List zBz} (ha : a.length <= 1000000) : cc a a = some true := (FY a a ha).trans (by rw [decide_eq_true rfl])
theorem FZ {s : Sto} (h1 : s.objects.length <= 1000000) (h2 : s.safe.length <= 1000000) (h3 : s.queue.length <= 1000000) : fm s s = some true := by
 unfold fm; rw [rb h1, ax, cond_true, vW h2, ax, cond_true, vW h3, ax]
theorem vY {x : Std} (h1 : x.s.objects.length <= 1000000) (h2 : x.s.safe.length <= 1000000) (h3 : x.s.queue.length <= 1000000) : eE x x = some true := by
 unfold eE; rw [FZ h1 h2 h3, ax, cond_true]; simp
theorem SInv.openOk {m : Nat} {s : Sto} (h : SInv m s) (hm : m <= 256) : (cT s).length <= 1000000 /\ ∀ b ∈ cT s, b.length <= 1000000 := by
 obtain ⟨h1, h2, h3⟩ := h.small hm; exact ⟨by simp [cT]; omega, fun b hb => Nat.le_trans (h3 b hb) (by omega)⟩
theorem qY {m : Nat} {s : Sto} (h : SInv m s) (hm : m <= 256) : gj s = some true := by
 obtain ⟨h1, h2, h3⟩ := h.small hm; unfold gj; rw [Id h hm, ax, vJ (h.openOk hm), ax, h.good.open, yV rfl, cond_true]; simp only; rw [rb (by omega), ax]
theorem Eb {m : Nat} {s : Sto} (h : SInv m s) (hm : m <= 256) : fD s = some true := by
 obtain ⟨h1, h2, h3⟩ := h.small hm; unfold fD; rw [iD _ (by simp; omega) (by simp), ax]; have e : [s.safe, s.queue].flatten = cT s := by simp [cT]
 rw [e, ur (h.openOk hm), ax, h.good.open, yV rfl, cond_true]; simp only; have := uZ s.objects s.objects (by omega) (fun x hx => Nat.le_trans (h.obs.1.len x hx) (by omega)); exact (fV (this.trans (by simp)))
theorem mT {m : Nat} {s : Sto} (h : SInv m s) (hm : m <= 256) {x : zBz} (hx : x.length <= 99000) : eF s x = some ⟨(dJ s x).1, (dJ s x).2.1, (dJ s x).2.2⟩ := by
 unfold eF; rw [Io h hm hx, ax]
theorem Bq {m : Nat} {s : Sto} (h : SInv m s) (hm : m <= 256) (k : Vec 32) : fB s k = some ⟨evF s k, ⟨List.replicate 32 0, rfl⟩, if ba s.objects k.l = none then 331 else 0⟩ := by
 unfold fB; rw [Kg h hm, ax]
theorem GY {m : Nat} {s : Sto} (h : SInv m s) (hm : m <= 256) {k : Vec 32} (hf : ba s.objects k.l = none) : eN s k = some ⟨[], 331⟩ := by
 unfold eN; rw [AP h hm, hf, ax]
theorem Hd {m : Nat} {s : Sto} (h : SInv m s) (hm : m <= 256) {k : Vec 32} {i : Nat} {x : Ob} (hf : ba s.objects k.l = some i) (hx : s.objects[i]? = some x) : eN s k = some ⟨x.data, 0⟩ := by
 unfold eN; rw [AP h hm, hf, ax]; simp [List.getD_eq_getElem?_getD, hx]
theorem Hi (k : UInt8) : sI (k.toNat : Int) 8 = some ((k.toNat % 8 : Nat) : Int) := by
 rw [HI (by omega) (by omega)]; norm_cast
theorem LU (x : zBz) : slc x 0 (min (x.length : Int) 40) = some (x.take 40) := by
 rw [ge (by omega)]; simp only [Int.toNat_zero, List.drop_zero, Option.some.injEq]; by_cases c : x.length <= 40
 ·rw [show (min (x.length : Int) 40).toNat = x.length by omega, List.take_length, List.take_of_length_le c]
 ·rw [show (min (x.length : Int) 40).toNat = 40 by omega]
theorem Md (n : Nat) : (bif ((n : Int) == 0) then some ((n : Int) == 0) else bif ((n : Int) == 1) then some ((n : Int) == 1) else bif ((n : Int) == 2) then some ((n : Int) == 2) else some ((n : Int) == 3)) = some (decide (n < 4)) := by
 by_cases a : n = 0
 ·subst a; rfl
 rw [qc (by omega), cond_false]; by_cases b : n = 1
 ·subst b; rfl
 rw [qc (by omega), cond_false]; by_cases c : n = 2
 ·subst c; rfl
 rw [qc (by omega), cond_false]; by_cases d : n = 3
 ·subst d; rfl
 rw [qc (by omega), decide_eq_false (by omega)]
theorem Me {n : Nat} (c : ¬ n < 4) : (bif ((n : Int) == 4) then some ((n : Int) == 4) else some ((n : Int) == 5)) = some (decide (n < 6)) := by
 by_cases a : n = 4
 ·subst a; rfl
 rw [qc (by omega), cond_false]; by_cases b : n = 5
 ·subst b; rfl
 rw [qc (by omega), decide_eq_false (by omega)]
theorem FT {m : Nat} {s : Sto} (h : SInv m s) (hm : m <= 256) (x : SRaw) : fq s x = some (oJ s x) := by
 obtain ⟨h1, h2, h3⟩ := h.small hm; have hl : (x.data.take 40).length <= 40 := by simp; omega
 unfold fq oJ; rw [LU, ax, Hi, ax]; generalize x.kind.toNat % 8 = n; rw [Md, ax]; by_cases c : n < 4
 ·rw [decide_eq_true c, cond_true, if_pos c, HR h hm (by omega), ax]
 rw [decide_eq_false c, cond_false, if_neg c]; rw [Me c, ax]; by_cases c6 : n < 6
 ·rw [decide_eq_true c6, cond_true, if_pos c6, yp (by omega), ax, JU h hm, ax]
 rw [decide_eq_false c6, cond_false, if_neg c6]; by_cases c7 : n = 6
 ·subst c7; rw [yV (show ((6 : Nat) : Int) = 6 from rfl), cond_true, if_pos rfl, FU h hm, ax]
 ·rw [qc (by omega), cond_false, if_neg c7, DU _ (by omega) h3, ax]
theorem DP (l : List SRaw) {n : Nat} {x : SRaw} (hx : l[n]? = some x) : fN l (n + 1) = oJ (fN l n) x := by
 unfold fN; rw [List.take_add_one, hx]; simp
theorem Hy (l : List SRaw) (n : Nat) (hn : n <= 250) : gt l (n : Int) = some (fN l n) := by
 unfold gt; have h2 : cQ (eg l (n : Int)) (0, [], [], []) = some ((fN l n).objects, (fN l n).safe, (fN l n).queue) := by
  have hmin : ∀ k, k = min l.length n -> fN l k = fN l n := fun k hk => by
   unfold fN; by_cases c : l.length <= n
   ·rw [hk, Nat.min_eq_left c, List.take_length, List.take_of_length_le c]
   ·rw [hk, Nat.min_eq_right (by omega)]
  have := kw (body := eg l (n : Int)) (fun i => ((i : Int), (fN l i).objects, (fN l i).safe, (fN l i).queue)) (min l.length n) (e := ((fN l n).objects, (fN l n).safe, (fN l n).queue)) (fun i hi => by
   have hx : l[i]? = some (l[i]'(by omega)) := List.getElem?_eq_getElem _; generalize l[i]'(by omega) = x at hx; unfold eg; simp only; rw [gS (by omega), cond_true, gS (by omega), cond_true, eP, hx, ax, Ki, FT (zZ l i (by omega)) (by omega), ax, bZ (by omega), ax, DP l hx]; rfl) (by
   unfold eg; simp only; rw [hmin _ rfl]; by_cases c : l.length <= n
   ·rw [Nat.min_eq_left c, gR (by omega), cond_false]
   ·rw [Nat.min_eq_right (by omega), gS (by omega), cond_true, gR (by omega), cond_false])
  exact this
 rw [h2, ax]
end
section
section
variable {P : Program} {G : zGz} {N : Nat} {F : Fr} {ops rest : zOz} {o : Oper} {Q : zQz} {h : zHz} {env : zEz} {nx : Nat} {st : St} {μ : zMz} {C : aw} {a : Act} {w w' : World}
structure Marked (b : Nat) (w w' : World) : Prop where
 os : w'.os = w.os
 tape : w'.tape = w.tape
 output : w'.output = w.output
 size : w'.heap.size = w.heap.size
 block : ∀ k, k ≠ b -> w'.heap[k]? = w.heap[k]?
 cell : ∀ k o, w'.cell? ⟨k, o, none⟩ = w.cell? ⟨k, o, none⟩
theorem yM (w : World) (b m : Nat) {cur : Array Value} {T : TypeId} (hb : w.heap[b]? = some (.cells cur T (0, 0))) : Marked b w (w.freeze ⟨b, m, none⟩ 1) := by
 have hh : ∀ k, (w.freeze ⟨b, m, none⟩ 1).heap[k]? = if k = b then some (.cells cur T (m, m + 1)) else w.heap[k]? := by
  intro k; unfold World.freeze; rw [if_neg (by decide)]; simp only [Array.getElem?_modify]; by_cases e : k = b
  ·subst e; simp [hb]
  ·simp [e, Ne.symm e]
 refine ⟨?_, ?_, ?_, ?_, fun k hk => by rw [hh, if_neg hk], fun k o => ?_⟩
 ·unfold World.freeze; rw [if_neg (by decide)]
 ·unfold World.freeze; rw [if_neg (by decide)]
 ·unfold World.freeze; rw [if_neg (by decide)]
 ·unfold World.freeze; rw [if_neg (by decide)]; simp
 ·simp only [World.cell?, hh]; by_cases e : k = b
  ·subst e; simp [hb]
  ·simp [e]
theorem Sim.mark {l : Nat} {k : Blk} {p : Place} (rows : zRz) (hs : Sim F st μ C a w) (hk : look st.h l = some k) (hr : k.rows = rows.map fun r => r.map V.d) (hp : μ l = some p) (hc : 0 < p.cap) (hw : Marked p.b w w') :
  ∃ C', (∀ b o u, C b o u -> C' b o u) /\ (∀ y v, ay μ C y v -> ay μ C' (aZ l k.sz rows y) v) /\ Sim F ⟨cP l k.sz rows st.env, bM l st.h, st.nx⟩ μ C' a w' := by
 obtain ⟨p', hp', hb⟩ := hs.heap l k hk; rw [hp] at hp'; cases hp'; have hrow : ∀ x ∈ rows, x.length = k.sz := by
  intro x hx; have := hb.row (x.map V.d) (by rw [hr]; exact List.mem_map.2 ⟨x, hx, rfl⟩); simpa using this
 have hlen : rows.length <= p.cap := by have := hb.len; rw [hr] at this; simpa using this
 obtain ⟨b1, b2, cur, T, b3, b4, b5⟩ := hb.cells hc; have hkm : k.isMap = false := by
  have := fb k.sz rows; rw [<- hr] at this; exact this
 rw [hkm] at b3; have b3 := b3.cells; have k1 : ∀ b o u, C b o u -> kT C p.b cur b o u := fun _ _ _ h => .inl h
 have hne : ∀ b o u, C b o u -> b ≠ p.b := fun b o u h e => b2 o u (e ▸ h)
 have hcell : ∀ b o, b ≠ p.b -> w'.cell? ⟨b, o, none⟩ = w.cell? ⟨b, o, none⟩ := fun b o _ => hw.cell b o
 have k3 : bI (kT C p.b cur) w' := fun b o u h => by
  rcases h with h | ⟨rfl, h⟩
  ·have hb := hne _ _ _ h; rcases hs.known b o u h with h | h
   ·left; rw [hcell _ _ hb]; exact h
   ·right; obtain ⟨es, c, h1, h2⟩ := h; exact ⟨es, c, by rw [hw.block _ hb]; exact h1, h2⟩
  ·left; rw [hw.cell, cell_of_row w p.b o _ _ _ b3]; exact h
 have k4 : 0 < p.cap -> ∀ (i : Nat) (r : List D), rows[i]? = some r -> Rp (kT C p.b cur) (.mem r p.b (i * p.sz)) := fun _ i r hi => by
  refine ic fun j d hj => ?_
  have h1 : k.rows[i]? = some (r.map V.d) := by rw [hr]; simp [hi]
  obtain ⟨u, a1, a2, a3⟩ := b5 i _ h1 j (.d d) (by simp [hj]); exact ⟨u, .inr ⟨rfl, by rw [hb.sz]; simpa using a1⟩, a2, Rp.mono (fun _ _ _ h => .inl h) a3⟩
 have hrep : ∀ y v, ay μ C y v -> ay μ (kT C p.b cur) (aZ l k.sz rows y) v := fun y v hy => wN hp hb hrow hlen k1 k4 hy
 have hsz := hw.size; refine ⟨kT C p.b cur, k1, hrep, ⟨hs.size, ?_, ⟨by rw [hw.os]; exact hs.below.os, by rw [hw.tape]; exact hs.below.tape, by rw [hw.output]; exact hs.below.output, by rw [hsz]; exact hs.below.size, fun b hlt hn => ?_⟩, fun b o u h => k1 _ _ _ (hs.sub _ _ _ h), fun b o u h => ?_, k3, fun t x hx => ?_, fun l' k' hk' => ?_, fun l1 l2 p1 p2 h1 h2 => ?_, hs.nx, ?_⟩⟩
 ·refine hs.defers.step fun q _ hq => ?_
  have : q ≠ p.b := fun e => by rw [e, b3] at hq; cases hq
  rw [hw.block _ this]; exact hq
 ·have : b ≠ p.b := fun e => by
   subst e; rcases b1 with h | h
   ·omega
   ·exact hn h
  rw [hw.block _ this]; exact hs.below.block b hlt hn
 ·rcases h with h | ⟨rfl, _⟩
  ·exact hs.new _ _ _ h
  ·exact .inr b1
 ·rw [jq] at hx; cases hl : look st.env t with
  | none => rw [hl] at hx; cases hx
  | some y =>
   rw [hl] at hx; cases hx; exact hrep _ _ (hs.env t y hl)
 ·rw [dL] at hk'; split at hk'
  ·cases hk'
  ·rename_i hne'; obtain ⟨p', hp', hb'⟩ := hs.heap l' k' hk'; refine ⟨p', hp', hb'.sz, hb'.len, hb'.max, hb'.row, fun hc' => ?_⟩; obtain ⟨c1, c2, cur2, T2, c3, c4, c5⟩ := hb'.cells hc'; have hpb : p'.b ≠ p.b := fun e => hne' (hs.inj l' l p' p (by rw [hk']; rfl) (by rw [hk]; rfl) hp' hp hc' hc e)
   refine ⟨c1, fun o u hcu => ?_, cur2, T2, c3.of_eq (hw.block _ hpb), c4, c5.mono (fun _ _ h => h) k1⟩; rcases hcu with h | ⟨e, _⟩
   ·exact c2 o u h
   ·exact hpb e
 ·simp only [dL] at h1 h2; split at h1
  ·cases h1
  ·split at h2
   ·cases h2
   ·exact hs.inj l1 l2 p1 p2 h1 h2
 ·refine F.stab hs.gh ⟨hw.os, hw.tape, hw.output, by rw [hsz]; exact Nat.le_refl _, fun _ _ _ h => h, fun j hj => .inl (by simp only [dL] at hj; split at hj <;> first | cases hj | exact hj), fun b hb hn => ?_, fun b ⟨l', k', q, g1, g2⟩ => .inl ?_, k1, fun b o u h => ?_, k3⟩
  ·refine hw.block b fun e => hn ⟨l, k, p, hk, hp, hc, e.symm⟩
  ·rw [dL] at g1; split at g1
   ·cases g1
   ·exact ⟨l', k', q, g1, g2⟩
  ·rcases h with h | ⟨rfl, _⟩
   ·exact .inl h
   ·exact .inr (.inl ⟨l, k, p, hk, hp, hc, rfl⟩)
theorem SmG.mark (hF : Env F P G N) {t e : TypeId} {x : Operand} {l : Nat} {rows : zRz} {d : Tmp} (ho : o.op = .convert t t x) (hd : o.dst = some d) (hdN : Nat.blt d N = true) (hg : aF ops env o.guard = some true) (hx : evB G env x = some (.sref l 0 rows.length)) (hk : ah h l = some (dB 1 rows)) (hne : rows ≠ [])
  (h1 : P.underlying t = some (.slice e)) (h2 : P.underlying e = some (.int .u8)) (k : SmG F N ops rest Q ⟨(d, .d (.list 1 rows false)) :: cP l 1 rows env, bM l h, nx⟩) : SmG F N ops (o :: rest) Q ⟨env, h, nx⟩ := by
 have hdN' : d < N := by simpa [Nat.blt_eq] using hdN
 rw [aO] at hk; rw [aV] at hx; intro hsm μ C a w hs; have hsm2 : St.small N ⟨(d, .d (.list 1 rows false)) :: cP l 1 rows env, bM l h, nx⟩ := by
  refine bL (env := cP l 1 rows env) (h := bM l h) (nx := nx) ?_ hdN'; intro s y hy; simp only [jq] at hy; cases hq : look env s with
  | none => rw [hq] at hy; cases hy
  | some y' => exact hsm s y' hq
 have k2 := k hsm2; obtain ⟨rfl, rfl, hG⟩ := hF; refine cg (fun _ c e => by rw [ho] at e; cases e) fun K hK => ?_
 rw [bK hs (aQ hg) hsm, if_pos rfl]; have hxv := bY hs hG hx; obtain ⟨p, ao, hp, hv, hle, hao⟩ := hxv; obtain ⟨p', hp', hb⟩ := hs.heap l _ hk; rw [hp] at hp'; cases hp'; have hpos : 0 < rows.length := List.length_pos_iff.2 hne; have hc : 0 < p.cap := by omega
 obtain rfl := hao hc; obtain ⟨b1, b2, cur, T, b3, b4, b5⟩ := hb.cells hc; have hkm : (dB 1 rows).isMap = false := fb 1 rows; rw [hkm] at b3; have b3 := b3.cells; have hM := yM w p.b cur.size b3; obtain ⟨C', hsub, hrep, hsim⟩ := Sim.mark (k := dB 1 rows) rows hs hk rfl hp hc hM; have hr : ay μ C' (.d (.list 1 rows false)) (a.eval x) := by
  have := hrep _ _ (bY hs hG hx); rw [show (dB 1 rows).sz = 1 from rfl, xQ] at this; exact this
 have hsh : w.shape? p.b = some (T, cur.size) := by unfold World.shape?; rw [b3]
 have hz : 0 * p.sz = 0 := by omega
 have hex : (execOp a.eval o).run F.P w = .ok (.value (a.eval x)) (w.freeze ⟨p.b, cur.size, none⟩ 1) := by
  rw [rY ho, hv]; simp [convert, Sem.run_bind, run_underlying h1, run_underlying h2, markStringish, hsh, Result.andThen_ok]
 unfold Oper.wp; rw [hex, Oper.upon_value, hd]; exact hK _ _ (k2 μ C' _ _ (hsim.put hdN' hr))
end
end
section
theorem mS (x : Std) : (Std.row x).length = 36 := by simp [Std.row, cR x.k.h]
theorem uj {t : TypeId} {n m off : Nat} {R S : List D} {h : zHz} {l : Nat} (hl : look h l = some ⟨n, [R.map V.d]⟩) (ha : bi Tryd.prog t = some true) (hs : aA Tryd.prog t = some m) (hR : R.length = n) (hle : off + m <= n) (hS : (R.drop off).take m = S) : aX Tryd.prog h t (.ref l 0 off) = some (.d (.agg m S)) := by
 have hsg : seg (R.map V.d) n off m = S.map V.d := by
  unfold seg; split
  ·rename_i e; obtain ⟨rfl, rfl⟩ := e; rw [<- hS, List.drop_zero, <- hR, List.take_length]
  ·rw [<- List.map_drop, <- List.map_take, hS]
 have hp : bx (S.map V.d) = some S := gN _; simp only [aX, hl, Option.bind_some, List.getElem?_cons_zero, cw, ha, hs, hsg, hp, hle]; rfl
theorem mn {t : TypeId} {n off : Nat} {R : List D} {y : D} {h : zHz} {l : Nat} (hl : look h l = some ⟨n, [R.map V.d]⟩) (ha : bi Tryd.prog t = some false) (hy : R[off]? = some y) : aX Tryd.prog h t (.ref l 0 off) = some (.d y) := by
 simp only [aX, hl, Option.bind_some, List.getElem?_cons_zero, cw, ha, List.getElem?_map, hy, Option.map_some]
theorem Ag {h : zHz} {l : Nat} {x : Std} (hl : look h l = some ⟨36, [(Std.row x).map V.d]⟩) : aX Tryd.prog h 45 (.ref l 0 0) = some (.d (.agg 36 (Std.row x))) := uj hl Ku Lv (mS x) (by decide) (by rw [List.drop_zero, List.take_of_length_le (by rw [mS]; decide)])
theorem dV {h : zHz} {l : Nat} {x : Std} (hl : look h l = some ⟨36, [(Std.row x).map V.d]⟩) : aX Tryd.prog h 27 (.ref l 0 0) = some (.d (.agg 3 (Sto.row x.s))) := uj hl oU gl (mS x) (by decide) (by simp [Std.row, Sto.row])
theorem iJ {h : zHz} {l : Nat} {x : Std} (hl : look h l = some ⟨36, [(Std.row x).map V.d]⟩) : aX Tryd.prog h 42 (.ref l 0 3) = some (.d (.agg 32 (az x.k.l))) := uj hl oV pj (mS x) (by decide) (by simp [Std.row, cR x.k.h])
theorem vA {h : zHz} {l : Nat} {x : Std} (hl : look h l = some ⟨36, [(Std.row x).map V.d]⟩) : aX Tryd.prog h 43 (.ref l 0 35) = some (.d (.v (.int .i64 x.e))) := mn hl Kt (by
 have := cR x.k.h; have h2 : ∀ (y : D) (r : List D), r.length = 32 -> (D.list 33 (x.s.objects.map Ob.row) false :: D.list 1 (x.s.safe.map ai) false :: D.list 1 (x.s.queue.map ai) false :: (r ++ [y]))[35]? = some y := fun y r hr => by
  simp only [List.getElem?_cons_succ]; rw [List.getElem?_append_right (by omega), hr]; rfl
 exact h2 _ _ this)
theorem DF {h : zHz} {l : Nat} {x : Std} (hl : look h l = some ⟨36, [(Std.row x).map V.d]⟩) : aX Tryd.prog h 24 (.ref l 0 0) = some (.d (.list 33 (x.s.objects.map Ob.row) false)) := mn hl pZ rfl
theorem vB {h : zHz} {l : Nat} {x : Std} (hl : look h l = some ⟨36, [(Std.row x).map V.d]⟩) : aX Tryd.prog h 25 (.ref l 0 2) = some (.d (.list 1 (x.s.queue.map ai) false)) := mn hl oT rfl
theorem mN {h : zHz} {l : Nat} {x : Sto} (hl : look h l = some ⟨3, [(Sto.row x).map V.d]⟩) : aX Tryd.prog h 24 (.ref l 0 0) = some (.d (.list 33 (x.objects.map Ob.row) false)) := mn hl pZ rfl
theorem xZ (s : Sto) (x : zBz) : (dJ s x).1.safe = s.safe /\ ∃ r, (dJ s x).1.queue = s.queue ++ r := by
 by_cases c : 65536 < x.length
 ·rw [Au s c]; exact ⟨rfl, [], by simp⟩
 cases hf : ba s.objects (Sha.sum x) with
 | some i => rw [qU s c hf]; exact ⟨rfl, [], by simp⟩
 | none =>
  by_cases c2 : 256 <= s.objects.length
  ·rw [xY s c hf c2]; exact ⟨rfl, [], by simp⟩
  ·rw [qT s c hf (by omega)]; exact ⟨rfl, _, rfl⟩
theorem JR (P : Program) (t : TypeId) (x y : Operand) (l : zBz) : aG P (do eqGuard .eql t x y (.string ⟨l.toArray⟩) (.string ⟨l.toArray⟩); binOp .eql t (.string ⟨l.toArray⟩) (.string ⟨l.toArray⟩)) = some (.bool true) := by
 rw [Cs]; simp
set_option maxHeartbeats 8000000 in
theorem Ig : am Tryd.prog HG 10 [] (.v (.bool true)) := by
 have f0 : ba mE.objects (Sha.sum [97]) = none := rfl; obtain ⟨A, hAe⟩ : ∃ A : Std, A = ⟨(dJ mE [97]).1, (dJ mE [97]).2.1, (dJ mE [97]).2.2⟩ := ⟨_, rfl⟩
 have hAq : A = ⟨⟨[⟨ff [97], [97]⟩], [], [iK 0 [97]]⟩, ff [97], 0⟩ := by rw [hAe, qT _ (by decide) f0 (by decide)]; rfl
 have hAs : A.s = ⟨[⟨ff [97], [97]⟩], [], [iK 0 [97]]⟩ := by rw [hAq]
 have hAk : A.k = ff [97] := by rw [hAq]
 have hA0 : A.e = 0 := by rw [hAq]
 have iA : SInv 1 A.s := by rw [hAe]; exact He.put (by decide) (by decide)
 have hNew : am Tryd.prog HG 11 [] (.agg 3 (Sto.row mE)) := yD.d rfl () mE rfl; have hA : am Tryd.prog HG 20 [.agg 3 (Sto.row mE), .list 1 (([97] : zBz).map aj) false] (.agg 36 (Std.row A)) := fi.d rfl (mE, ([97] : zBz)) A (by rw [hAe]; exact mT He (by decide) (x := [97]) (by decide)); have fA : ba A.s.objects (Sha.sum [97]) = some 0 := by rw [hAs]; simp [ba, ff]
 have hA2 : am Tryd.prog HG 20 [.agg 3 (Sto.row A.s), .list 1 (([97] : zBz).map aj) false] (.agg 36 (Std.row A)) := fi.d rfl (A.s, ([97] : zBz)) A (by
  show eF A.s [97] = _; rw [mT iA (by decide) (by decide), qU _ (by decide) fA]; exact congrArg some (by rw [hAq]))
 have hSy : am Tryd.prog HG 27 [.agg 3 (Sto.row A.s)] (.agg 3 (Sto.row (gE A.s))) := wI.d rfl A.s _ (Gh iA (by decide)); have iS := iA.sync; obtain ⟨B, hBe⟩ : ∃ B : Std, B = ⟨(dJ (gE A.s) [98]).1, (dJ (gE A.s) [98]).2.1, (dJ (gE A.s) [98]).2.2⟩ := ⟨_, rfl⟩
 have iB : SInv 2 B.s := by rw [hBe]; exact iS.put (by decide) (by decide)
 have hB : am Tryd.prog HG 20 [.agg 3 (Sto.row (gE A.s)), .list 1 (([98] : zBz).map aj) false] (.agg 36 (Std.row B)) := fi.d rfl (gE A.s, ([98] : zBz)) B (by rw [hBe]; exact mT iS (by decide) (x := [98]) (by decide)); obtain ⟨Cc, hCe⟩ : ∃ C : Std, C = ⟨(dJ A.s [98]).1, (dJ A.s [98]).2.1, (dJ A.s [98]).2.2⟩ := ⟨_, rfl⟩
 have iC : SInv 2 Cc.s := by rw [hCe]; exact iA.put (by decide) (by decide)
 have hC : am Tryd.prog HG 20 [.agg 3 (Sto.row A.s), .list 1 (([98] : zBz).map aj) false] (.agg 36 (Std.row Cc)) := fi.d rfl (A.s, ([98] : zBz)) Cc (by rw [hCe]; exact mT iA (by decide) (x := [98]) (by decide)); have hRA : am Tryd.prog HG 13 [.agg 3 (Sto.row A.s)] (.v (.bool true)) := hO.d rfl A.s true (qY iA (by decide)); have hRB : am Tryd.prog HG 13 [.agg 3 (Sto.row B.s)] (.v (.bool true)) := hO.d rfl B.s true (qY iB (by decide)); have hRC : am Tryd.prog HG 13 [.agg 3 (Sto.row Cc.s)] (.v (.bool true)) := hO.d rfl Cc.s true (qY iC (by decide)); obtain ⟨E, hEe⟩ : ∃ E : Std, E = ⟨evF A.s A.k, ⟨List.replicate 32 0, rfl⟩, if ba A.s.objects A.k.l = none then 331 else 0⟩ := ⟨_, rfl⟩
 have fA2 : ba A.s.objects A.k.l = some 0 := by rw [hAk]; exact fA
 have hEq : E = ⟨⟨[], [], [iK 0 [97], nI 1 A.k.l]⟩, ⟨List.replicate 32 0, rfl⟩, 0⟩ := by
  rw [hEe, fA2, if_neg (by simp)]; unfold evF; rw [fA2, hAs]; rfl
 have iE : SInv 2 E.s := by rw [hEe]; exact iA.evict _ (by decide)
 have hE : am Tryd.prog HG 23 [.agg 3 (Sto.row A.s), .agg 32 (az A.k.l)] (.agg 36 (Std.row E)) := nO.d rfl (A.s, A.k) E (by rw [hEe]; exact Bq iA (by decide) _); have hSS : am Tryd.prog HG 29 [.agg 36 (Std.row A), .agg 36 (Std.row A)] (.v (.bool true)) := my.d rfl (A, A) true (vY (by rw [hAs]; decide) (by rw [hAs]; decide) (by rw [hAs]; decide)); obtain ⟨O1, hO1e⟩ : ∃ O, O = mb B.s [] := ⟨_, rfl⟩
 have hO1l : O1.objects.length = 1 := by
  have h1 : (B.s.safe ++ cX B.s.queue []) = [iK 0 [97]] := by
   have : B.s.safe = [iK 0 [97]] := by rw [hBe]; rw [(xZ _ _).1, hAs]; rfl
   rw [this]; cases B.s.queue <;> rfl
  have h2 := iS.good.open; have h3 : cT (gE A.s) = [iK 0 [97]] := by rw [hAs]; rfl
  rw [h3] at h2; rw [hO1e, mb, h1, h2, hAs]; rfl
 have hO1 : am Tryd.prog HG 25 [.agg 3 (Sto.row B.s), .list 0 [] true] (.agg 3 (Sto.row O1)) :=
  (oc.d rfl (B.s, []) O1 (by rw [hO1e]; exact vZ _ (iB.small (by decide)).2.1 (iB.small (by decide)).2.2)).args fun C => fW (D.le.refl _) (fW (cA 0 1 true) fun _ h => h)
 obtain ⟨O2, hO2e⟩ : ∃ O, O = mb Cc.s [false, true] := ⟨_, rfl⟩
 have hO2l : O2.objects.length = 0 := by
  obtain ⟨c1, r, c2⟩ := xZ A.s [98]; have h1 : Cc.s.safe = [] := by rw [hCe]; rw [c1, hAs]
  have h2 : Cc.s.queue = iK 0 [97] :: r := by rw [hCe]; rw [c2, hAs]; rfl
  have hg := iC.good; have hall : cT Cc.s = iK 0 [97] :: r := by simp [cT, h1, h2]
  unfold nT at hg; rw [hall] at hg; rw [hO2e, mb, h1, h2, List.nil_append]; cases r with
  | nil => rfl
  | cons y r =>
   obtain ⟨o1, o2, g1, g2⟩ := ta (i := 1) (b := y) hg rfl; have : cX (iK 0 [97] :: y :: r) [false, true] = [y] := by simp [cX]
   rw [this, bS]; cases hy : bh [] ([] : List zBz).length y with
   | none => rfl
   | some o => exact absurd (qa hy g2) (by decide)
 have hO2 : am Tryd.prog HG 25 [.agg 3 (Sto.row Cc.s), .list 1 [[.v (.bool false)], [.v (.bool true)]] true] (.agg 3 (Sto.row O2)) :=
  (oc.d rfl (Cc.s, [false, true]) O2 (by rw [hO2e]; exact vZ _ (iC.small (by decide)).2.1 (iC.small (by decide)).2.2)).args fun C => fW (D.le.refl _) (fW (rH 1 _ true) fun _ h => h)
 have hG1 : am Tryd.prog HG 22 [.agg 3 (Sto.row E.s), .agg 32 (az A.k.l)] (.agg 2 (Gott.row ⟨[], 331⟩)) := lC.d rfl (E.s, A.k) _ (GY iE (by decide) (by rw [hEq]; rfl)); have hG2 : am Tryd.prog HG 22 [.agg 3 (Sto.row A.s), .agg 32 (az A.k.l)] (.agg 2 (Gott.row ⟨[97], 0⟩)) := lC.d rfl (A.s, A.k) _ (Hd iA (by decide) fA2 (x := ⟨ff [97], [97]⟩) (by rw [hAs]; rfl)); have hSum : am Tryd.prog HG 21 [.list 1 (([97] : zBz).map aj) false] (.agg 32 (az A.k.l)) := by
  rw [hAk]; exact wh [97] (by decide)
 have hS1 : am Tryd.prog HG 14 [.agg 3 (Sto.row A.s)] (.v (.bool true)) := og.d rfl A.s true (Eb iA (by decide)); have hS2 : am Tryd.prog HG 14 [.agg 3 [.list 33 [az (List.replicate 32 0) ++ [.list 0 [] true]] false, .list 0 [] true, .list 0 [] true]] (.v (.bool false)) := by
  have hz : fD ⟨[⟨⟨List.replicate 32 0, rfl⟩, []⟩], [], []⟩ = some false := by
   unfold fD; rw [iD _ (by decide) (by decide), ax]; simp only [List.flatten_cons, List.flatten_nil, List.append_nil]; rw [ur (by simp), ax]; simp only [bS]; rw [yV rfl, cond_true]; exact fV ((uZ [] _ (by decide) (by simp)).trans (by simp))
  refine (og.d rfl (⟨[⟨⟨List.replicate 32 0, rfl⟩, []⟩], [], []⟩ : Sto) false hz).args fun C => fW ?_ fun _ h => h
  refine fY ⟨?_, cA 0 1 true, cA 0 1 true, trivial⟩; have hA : ∀ (r : List D), LeL (r ++ [.list 0 [] true]) (r ++ [.list 1 [] false]) := fun r => by
   induction r with
   | nil => exact .cons (cA 0 1 true) .nil
   | cons x r ih => exact .cons (D.le.refl x) ih
  exact xp (.cons (hA _) .nil)
 have hEo : E.s.objects.length = 0 := by rw [hEq]; rfl
 have hEl : E.s.queue.length = 2 := by rw [hEq]; rfl
 have hE0 : E.e = 0 := by rw [hEq]
 have hAl : A.s.queue.length = 1 := by rw [hAs]; rfl
 have hkl : A.k.l.length = 32 := A.k.h; clear hAe hAq hAs hAk hBe hCe hEe hEq hO1e hO2e iA iS iB iC iE fA fA2 f0; refine am.of Tryd.func10 rfl Tryd.ntmps10 (by simp) ?_; intro F hF h0 hT; simp only [List.zipIdx_cons, List.zipIdx_nil, List.map_cons, List.map_nil, Nat.zero_add, Nat.reduceAdd]; refine Sm.seq ?_; refine ab hF rfl ?_; refine gv hF oA (SmG.nil (aa (Sm.seq ?_))); refine ab hF rfl ?_; refine SmG.call hF rfl rfl (by kernel_rfl) rfl rfl rfl (hNew) ?_; refine SmG.buildOwn hF rfl rfl rfl rfl rfl (sz := 1) (rows := ([97] : zBz).map aj) (by simp [bq, Tryd.underlying30, sz5, ze5]; rfl) (by simp) ?_; refine SmG.mark hF (rows := ([97] : zBz).map aj) rfl rfl rfl rfl rfl rfl (by simp) Tryd.underlying30 Tryd.underlying5 ?_; simp only [cP, aZ, gL, dg, ck, bM, if_true, Nat.reduceEqDiff, if_false, Nat.zero_add, List.length_map, Nat.le_refl, and_self]; refine SmG.call hF rfl rfl (by kernel_rfl) rfl rfl rfl (hA) ?_; refine SmG.new hF rfl rfl rfl (aE rfl zq) ?_; refine SmG.store hF rfl rfl rfl rfl rfl (by simp only [go_sem, ac] <;> rfl) ?_; refine SmG.nil (aa (Sm.seq ?_)); refine ab hF rfl ?_; refine gv hF (af rfl rfl (by simp only [go_sem, ac] <;> rfl)) ?_; refine gv hF (ae rfl rfl (dV rfl)) ?_; refine SmG.buildOwn hF rfl rfl rfl rfl rfl (sz := 1) (rows := ([97] : zBz).map aj) (by simp [bq, Tryd.underlying30, sz5, ze5]; rfl) (by simp) ?_; refine SmG.mark hF (rows := ([97] : zBz).map aj) rfl rfl rfl rfl rfl rfl (by simp) Tryd.underlying30 Tryd.underlying5 ?_; simp only [cP, aZ, gL, dg, ck, bM, if_true, Nat.reduceEqDiff, if_false, Nat.zero_add, List.length_map, Nat.le_refl, and_self]; refine SmG.call hF rfl rfl (by kernel_rfl) rfl rfl rfl (hA2) ?_; refine SmG.new hF rfl rfl rfl (aE rfl zq) ?_; refine SmG.store hF rfl rfl rfl rfl rfl (by simp only [go_sem, ac] <;> rfl) ?_; refine SmG.nil (aa (Sm.seq ?_)); refine ab hF rfl ?_; refine gv hF (af rfl rfl (by simp only [go_sem, ac] <;> rfl)) ?_; refine gv hF (ae rfl rfl (dV rfl)) ?_; refine SmG.call hF rfl rfl (by kernel_rfl) rfl rfl rfl (hSy) ?_
 refine SmG.buildOwn hF rfl rfl rfl rfl rfl (sz := 1) (rows := ([98] : zBz).map aj) (by simp [bq, Tryd.underlying30, sz5, ze5]; rfl) (by simp) ?_; refine SmG.mark hF (rows := ([98] : zBz).map aj) rfl rfl rfl rfl rfl rfl (by simp) Tryd.underlying30 Tryd.underlying5 ?_; simp only [cP, aZ, gL, dg, ck, bM, if_true, Nat.reduceEqDiff, if_false, Nat.zero_add, List.length_map, Nat.le_refl, and_self]; refine SmG.call hF rfl rfl (by kernel_rfl) rfl rfl rfl (hB) ?_; refine SmG.new hF rfl rfl rfl (aE rfl zq) ?_; refine SmG.store hF rfl rfl rfl rfl rfl (by simp only [go_sem, ac] <;> rfl) ?_; refine SmG.nil (aa (Sm.seq ?_)); refine ab hF rfl ?_; refine gv hF (af rfl rfl (by simp only [go_sem, ac] <;> rfl)) ?_; refine gv hF (ae rfl rfl (dV rfl)) ?_; refine SmG.buildOwn hF rfl rfl rfl rfl rfl (sz := 1) (rows := ([98] : zBz).map aj) (by simp [bq, Tryd.underlying30, sz5, ze5]; rfl) (by simp) ?_; refine SmG.mark hF (rows := ([98] : zBz).map aj) rfl rfl rfl rfl rfl rfl (by simp) Tryd.underlying30 Tryd.underlying5 ?_; simp only [cP, aZ, gL, dg, ck, bM, if_true, Nat.reduceEqDiff, if_false, Nat.zero_add, List.length_map, Nat.le_refl, and_self]; refine SmG.call hF rfl rfl (by kernel_rfl) rfl rfl rfl (hC) ?_; refine SmG.new hF rfl rfl rfl (aE rfl zq) ?_; refine SmG.store hF rfl rfl rfl rfl rfl (by simp only [go_sem, ac] <;> rfl) ?_; refine SmG.nil (aa (Sm.seq (Sm.seq ?_))); refine ab hF rfl ?_; refine gv hF (af rfl rfl (by simp only [go_sem, ac] <;> rfl)) ?_; refine gv hF (ae rfl rfl (vA rfl)) ?_; refine gv hF (ag rfl rfl rfl (by exact fc _ _ _ _ _ (by omega))) ?_; refine gv hF oM ?_; refine gv hF (af rfl rfl (by simp only [go_sem, ac] <;> rfl)) ?_; refine gv hF (ae rfl rfl (dV rfl)) ?_; refine SmG.call hF rfl rfl (by kernel_rfl) rfl rfl rfl (hRA) ?_; refine gv hF (ek rfl rfl (by exact fX _)) ?_; refine gv hF (aL rfl rfl rfl) ?_; refine gv hF oM ?_; refine gv hF (af rfl rfl (by simp only [go_sem, ac] <;> rfl)) ?_; refine gv hF (ae rfl rfl (dV rfl)) ?_; refine SmG.call hF rfl rfl (by kernel_rfl) rfl rfl rfl (hRB) ?_
 refine gv hF (ek rfl rfl (by exact fX _)) ?_; refine gv hF (aL rfl rfl rfl) ?_; refine gv hF oM ?_; refine gv hF (af rfl rfl (by simp only [go_sem, ac] <;> rfl)) ?_; refine gv hF (ae rfl rfl (dV rfl)) ?_; refine SmG.call hF rfl rfl (by kernel_rfl) rfl rfl rfl (hRC) ?_; refine gv hF (ek rfl rfl (by exact fX _)) ?_; refine gv hF (aL rfl rfl rfl) ?_; refine SmG.nil (aa ?_); refine aR hF rfl ?_; refine Sm.skip ?_; refine aa (Sm.seq ?_); refine ab hF rfl ?_; refine gv hF (af rfl rfl (by simp only [go_sem, ac] <;> rfl)) ?_; refine gv hF (ae rfl rfl (dV rfl)) ?_; refine gv hF (af rfl rfl (by simp only [go_sem, ac] <;> rfl)) ?_; refine gv hF (ae rfl rfl (iJ rfl)) ?_; refine SmG.call hF rfl rfl (by kernel_rfl) rfl rfl rfl (hE) ?_; refine SmG.new hF rfl rfl rfl (aE rfl zq) ?_; refine SmG.store hF rfl rfl rfl rfl rfl (by simp only [go_sem, ac] <;> rfl) ?_; refine SmG.nil (aa (Sm.seq ?_)); refine ab hF rfl ?_; refine gv hF (af rfl rfl (by simp only [go_sem, ac] <;> rfl)) ?_; refine gv hF (af rfl rfl (by simp only [go_sem, ac] <;> rfl)) ?_; refine gv hF (ae rfl rfl (vB rfl)) ?_; refine gv hF (aH rfl rfl (by simp only [go_sem, ac] <;> rfl)) ?_; refine gv hF (ag rfl rfl rfl (by exact dP _ _ _ _ _ (by omega))) ?_; refine gv hF oM (gv hF (ae rfl rfl (Ag rfl)) (gv hF (ae rfl rfl (Ag rfl)) ?_)); refine SmG.call hF rfl rfl (by kernel_rfl) rfl rfl rfl (hSS) ?_; refine gv hF (aM rfl rfl rfl) ?_; refine gv hF oM ?_; refine gv hF (af rfl rfl (by simp only [go_sem, ac] <;> rfl)) ?_; refine gv hF (ae rfl rfl (vA rfl)) ?_; refine gv hF (ag rfl rfl rfl (by exact dP _ _ _ _ _ (by omega))) ?_; refine gv hF (aM rfl rfl rfl) ?_; refine gv hF oM ?_; refine gv hF (af rfl rfl (by simp only [go_sem, ac] <;> rfl)) ?_; refine gv hF (af rfl rfl (by simp only [go_sem, ac] <;> rfl)) ?_; refine gv hF (ae rfl rfl (DF rfl)) ?_; refine gv hF (aH rfl rfl (by simp only [go_sem, ac] <;> rfl)) ?_; refine gv hF (ag rfl rfl rfl (by exact dP _ _ _ _ _ (by omega))) ?_; refine gv hF (aM rfl rfl rfl) ?_; refine gv hF oM ?_
 refine gv hF (af rfl rfl (by simp only [go_sem, ac] <;> rfl)) ?_; refine gv hF (af rfl rfl (by simp only [go_sem, ac] <;> rfl)) ?_; refine gv hF (ae rfl rfl (vB rfl)) ?_; refine gv hF (aH rfl rfl (by simp only [go_sem, ac] <;> rfl)) ?_; refine gv hF (ag rfl rfl rfl (by exact dP _ _ _ _ _ (by omega))) ?_; refine gv hF (aM rfl rfl rfl) ?_; refine gv hF oA (SmG.nil (aa (Sm.seq ?_))); refine dE hF (by kernel_rfl) rfl 9 (by kernel_rfl) (by kernel_rfl) ?_; simp only [List.take_succ_cons, List.take_zero, List.take_nil]; refine hv hF (af rfl rfl (by simp only [go_sem, ac] <;> rfl)) ?_; refine hv hF (ae rfl rfl (dV rfl)) ?_; refine aq.c hF rfl rfl (by kernel_rfl) rfl rfl rfl (hO1) ?_; refine hv hF (af rfl rfl (by simp only [go_sem, ac] <;> rfl)) ?_; refine hv hF (ae rfl rfl (dV rfl)) ?_; refine hv hF (aP rfl rfl (by simp only [go_sem, ac] <;> rfl)) ?_; refine aq.c hF rfl rfl (by kernel_rfl) rfl rfl rfl (hO2) ?_; refine aq.new hF rfl rfl rfl rfl ko ?_; refine aq.new hF rfl rfl rfl rfl ko ?_; refine aq.last ⟨rfl, ?_⟩; simp only [List.drop_succ_cons, List.drop_zero, List.drop_nil, List.nil_append, List.cons_append]; refine SmG.store hF rfl rfl rfl rfl rfl (by simp only [go_sem, ac] <;> rfl) ?_; refine SmG.store hF rfl rfl rfl rfl rfl (by simp only [go_sem, ac] <;> rfl) ?_; refine SmG.nil (aa (Sm.seq ?_)); refine Sm.to (bR (st' := ⟨[(6, .d (.v (.bool true))), (1, .ref 1 0 0), (5, .ref 8 0 0), (7, .ref 9 0 0), (8, .ref 10 0 0)], [(1, ⟨36, [(Std.row A).map V.d]⟩), (8, ⟨36, [(Std.row E).map V.d]⟩), (9, ⟨3, [(Sto.row O1).map V.d]⟩), (10, ⟨3, [(Sto.row O2).map V.d]⟩)], 11⟩) (aI ⟨rfl, rfl, rfl, rfl, rfl, trivial⟩ ⟨rfl, rfl, rfl, rfl, trivial⟩ (Nat.le_refl _))) ?_; clear hA hA2 hSy hB hC hRA hRB hRC hE hSS hO1 hO2 hNew; refine dw hF rfl ?_; refine ip hF rfl 0 21 (by kernel_rfl) ?_; simp only [List.take_succ_cons, List.take_zero, List.take_nil, List.drop_succ_cons, List.drop_zero, Nat.reduceSub]; refine hv hF oM (hv hF oM ?_); refine hv hF (af rfl rfl (by simp only [go_sem, ac] <;> rfl)) ?_
 refine hv hF (ae rfl rfl (dV rfl)) ?_; refine hv hF (af rfl rfl (by simp only [go_sem, ac] <;> rfl)) ?_; refine hv hF (ae rfl rfl (iJ rfl)) ?_; refine aq.c hF rfl rfl (by kernel_rfl) rfl rfl rfl (hG1) ?_; refine hv hF (kM rfl rfl (by simp only [go_sem, ac] <;> rfl)) ?_; refine hv hF (ag rfl rfl rfl (by exact ll _ _ _ _ _ _ _)) ?_; refine hv hF (aM rfl rfl rfl) ?_; refine hv hF oM ?_; refine hv hF (af rfl rfl (by simp only [go_sem, ac] <;> rfl)) ?_; refine hv hF (ae rfl rfl (dV rfl)) ?_; refine hv hF (af rfl rfl (by simp only [go_sem, ac] <;> rfl)) ?_; refine hv hF (ae rfl rfl (iJ rfl)) ?_; refine aq.c hF rfl rfl (by kernel_rfl) rfl rfl rfl (hG2) ?_; refine hv hF (kM rfl rfl (by simp only [go_sem, ac] <;> rfl)) ?_; refine hv hF (bW rfl rfl (wF (l := [97]) Tryd.underlying30 Tryd.underlying9 Tryd.underlying5)) (hv hF (ag rfl rfl rfl (JR _ _ _ _ [97])) ?_); refine hv hF (aM rfl rfl rfl) ?_; refine hv hF oM ?_; refine aq.last ?_; simp only [List.nil_append, List.cons_append]; refine pm (n := 31) rfl rfl ?_; refine cC (n' := 26) (ls' := List.replicate 26 true ++ List.replicate 26 false) ?s1_5 ?h1_5 (fun r1_5 => ?k1_5)
 case' k1_5 => refine cC (n' := 27) (ls' := List.replicate 25 true ++ List.replicate 27 false) ?s1_4 ?h1_4 (fun r1_4 => ?k1_4)
 case' k1_4 => refine cC (n' := 27) (ls' := List.replicate 22 true ++ [false, true, true, true] ++ List.replicate 26 false) ?s1_3 ?h1_3 (fun r1_3 => ?k1_3)
 case' k1_3 => refine cC (n' := 28) (ls' := List.replicate 24 true ++ List.replicate 28 false) ?s1_2 ?h1_2 (fun r1_2 => ?k1_2)
 case' k1_2 => refine cC (n' := 28) (ls' := List.replicate 22 true ++ [false, true, true] ++ List.replicate 27 false) ?s1_1 ?h1_1 (fun r1_1 => ?k1_1)
 case' k1_1 => refine cC (n' := 29) (ls' := List.replicate 22 true ++ [false, true] ++ List.replicate 28 false) ?s1_0 ?h1_0 (fun r1_0 => ?k1_0)
 case k1_0 =>
  refine SmM.step hF [21, 23] rfl (by kernel_rfl) rfl ⟨⟨_, rfl, ?_⟩, ⟨_, rfl, ?_⟩, trivial⟩
  ·refine gv hF (af rfl rfl (by simp only [go_sem, ac] <;> rfl)) ?_; refine SmG.nil (aa ?_); refine SmM.step hF [22, 23] rfl (by kernel_rfl) rfl ⟨⟨_, rfl, ?_⟩, ⟨_, rfl, ?_⟩, trivial⟩
   ·refine gv hF (ae rfl rfl (iJ rfl)) (SmG.nil (aa ?_)); refine SmM.step hF [23] rfl (by kernel_rfl) rfl ⟨⟨_, rfl, ?_⟩, trivial⟩; refine SmG.buildOwn hF rfl rfl rfl rfl rfl (sz := 1) (rows := ([97] : zBz).map aj) (by simp [bq, Tryd.underlying30, sz5, ze5]; rfl) (by simp) ?_; refine SmG.nil (aa ?_); exact r1_2
   ·refine SmG.buildOwn hF rfl rfl rfl rfl rfl (sz := 1) (rows := ([97] : zBz).map aj) (by simp [bq, Tryd.underlying30, sz5, ze5]; rfl) (by simp) ?_; refine SmG.nil (aa ?_); exact r1_0
  ·refine SmG.buildOwn hF rfl rfl rfl rfl rfl (sz := 1) (rows := ([97] : zBz).map aj) (by simp [bq, Tryd.underlying30, sz5, ze5]; rfl) (by simp) ?_; refine SmG.nil (aa ?_); refine SmM.step hF [21, 24] rfl (by kernel_rfl) rfl ⟨⟨_, rfl, ?_⟩, ⟨_, rfl, ?_⟩, trivial⟩
   ·refine gv hF (af rfl rfl (by simp only [go_sem, ac] <;> rfl)) ?_; refine SmG.nil (aa ?_); exact bC r1_0
   ·refine SmG.mark hF (rows := ([97] : zBz).map aj) rfl rfl rfl rfl rfl rfl (by simp) Tryd.underlying30 Tryd.underlying5 ?_; simp only [cP, aZ, gL, dg, ck, bM, if_true, Nat.reduceEqDiff, if_false, Nat.zero_add, List.length_map, Nat.le_refl, and_self]; refine SmG.nil (aa ?_); refine SmM.step hF [21, 25] rfl (by kernel_rfl) rfl ⟨⟨_, rfl, ?_⟩, ⟨_, rfl, ?_⟩, trivial⟩
    ·refine gv hF (af rfl rfl (by simp only [go_sem, ac] <;> rfl)) ?_; refine SmG.nil (aa ?_); exact r1_1
    ·refine SmG.call hF rfl rfl (by kernel_rfl) rfl rfl rfl (hSum) ?_; refine SmG.nil (aa ?_); refine SmM.step hF [21] rfl (by kernel_rfl) rfl ⟨⟨_, rfl, ?_⟩, trivial⟩; refine gv hF (af rfl rfl (by simp only [go_sem, ac] <;> rfl)) ?_; refine SmG.nil (aa ?_); exact r1_3
 case h1_0 =>
  refine SmM.step hF [22, 24] rfl (by kernel_rfl) rfl ⟨⟨_, rfl, ?_⟩, ⟨_, rfl, ?_⟩, trivial⟩
  ·refine gv hF (ae rfl rfl (iJ rfl)) (SmG.nil (aa ?_)); exact bC r1_2
  ·refine SmG.mark hF (rows := ([97] : zBz).map aj) rfl rfl rfl rfl rfl rfl (by simp) Tryd.underlying30 Tryd.underlying5 ?_; simp only [cP, aZ, gL, dg, ck, bM, if_true, Nat.reduceEqDiff, if_false, Nat.zero_add, List.length_map, Nat.le_refl, and_self]; refine SmG.nil (aa ?_); exact bC r1_1
 case h1_1 =>
  refine SmM.step hF [22, 25] rfl (by kernel_rfl) rfl ⟨⟨_, rfl, ?_⟩, ⟨_, rfl, ?_⟩, trivial⟩
  ·refine gv hF (ae rfl rfl (iJ rfl)) (SmG.nil (aa ?_)); exact r1_4
  ·refine SmG.call hF rfl rfl (by kernel_rfl) rfl rfl rfl (hSum) ?_; refine SmG.nil (aa ?_); exact bC r1_3
 case h1_2 =>
  refine SmM.step hF [24] rfl (by kernel_rfl) rfl ⟨⟨_, rfl, ?_⟩, trivial⟩; refine SmG.mark hF (rows := ([97] : zBz).map aj) rfl rfl rfl rfl rfl rfl (by simp) Tryd.underlying30 Tryd.underlying5 ?_; simp only [cP, aZ, gL, dg, ck, bM, if_true, Nat.reduceEqDiff, if_false, Nat.zero_add, List.length_map, Nat.le_refl, and_self]; refine SmG.nil (aa ?_); exact bC r1_4
 case h1_3 =>
  refine SmM.step hF [22] rfl (by kernel_rfl) rfl ⟨⟨_, rfl, ?_⟩, trivial⟩; refine gv hF (ae rfl rfl (iJ rfl)) (SmG.nil (aa ?_)); exact r1_5
 case h1_4 =>
  refine SmM.step hF [25] rfl (by kernel_rfl) rfl ⟨⟨_, rfl, ?_⟩, trivial⟩; refine SmG.call hF rfl rfl (by kernel_rfl) rfl rfl rfl (hSum) ?_; refine SmG.nil (aa ?_); exact bC r1_5
 case h1_5 =>
  refine SmM.step hF [26] rfl (by kernel_rfl) rfl ⟨⟨_, rfl, ?_⟩, trivial⟩; refine gv hF (jL rfl rfl rfl ((rV hkl hkl).trans (by rw [decide_eq_true rfl]))) ?_; refine SmG.nil (aa ?_); refine SmM.step hF [27] rfl (by kernel_rfl) rfl ⟨⟨_, rfl, ?_⟩, trivial⟩; refine gv hF (aM rfl rfl rfl) ?_; refine SmG.nil (aa ?_); refine SmM.step hF [28] rfl (by kernel_rfl) rfl ⟨⟨_, rfl, ?_⟩, trivial⟩; refine gv hF oM (SmG.nil (aa ?_)); refine SmM.step hF [29] rfl (by kernel_rfl) rfl ⟨⟨_, rfl, ?_⟩, trivial⟩; refine gv hF (af rfl rfl (by simp only [go_sem, ac] <;> rfl)) ?_; refine SmG.nil (aa ?_); refine SmM.step hF [30] rfl (by kernel_rfl) rfl ⟨⟨_, rfl, ?_⟩, trivial⟩; refine gv hF (ae rfl rfl (mN rfl)) (SmG.nil (aa ?_)); refine SmM.step hF [31] rfl (by kernel_rfl) rfl ⟨⟨_, rfl, ?_⟩, trivial⟩; refine gv hF (aH rfl rfl (by simp only [go_sem, ac] <;> rfl)) ?_; refine SmG.nil (aa ?_); refine SmM.step hF [32] rfl (by kernel_rfl) rfl ⟨⟨_, rfl, ?_⟩, trivial⟩; refine gv hF (ag rfl rfl rfl (by exact dP _ _ _ _ _ (by omega))) ?_; refine SmG.nil (aa ?_); refine SmM.step hF [33] rfl (by kernel_rfl) rfl ⟨⟨_, rfl, ?_⟩, trivial⟩; refine gv hF (aM rfl rfl rfl) ?_; refine SmG.nil (aa ?_); refine SmM.step hF [34] rfl (by kernel_rfl) rfl ⟨⟨_, rfl, ?_⟩, trivial⟩; refine gv hF oM (SmG.nil (aa ?_)); refine SmM.step hF [35] rfl (by kernel_rfl) rfl ⟨⟨_, rfl, ?_⟩, trivial⟩; refine gv hF (af rfl rfl (by simp only [go_sem, ac] <;> rfl)) ?_; refine SmG.nil (aa ?_); refine SmM.step hF [36] rfl (by kernel_rfl) rfl ⟨⟨_, rfl, ?_⟩, trivial⟩; refine gv hF (ae rfl rfl (mN rfl)) (SmG.nil (aa ?_)); refine SmM.step hF [37] rfl (by kernel_rfl) rfl ⟨⟨_, rfl, ?_⟩, trivial⟩; refine gv hF (aH rfl rfl (by simp only [go_sem, ac] <;> rfl)) ?_; refine SmG.nil (aa ?_); refine SmM.step hF [38] rfl (by kernel_rfl) rfl ⟨⟨_, rfl, ?_⟩, trivial⟩; refine gv hF (ag rfl rfl rfl (by exact dP _ _ _ _ _ (by omega))) ?_; refine SmG.nil (aa ?_); refine SmM.step hF [39] rfl (by kernel_rfl) rfl ⟨⟨_, rfl, ?_⟩, trivial⟩; refine gv hF (aM rfl rfl rfl) ?_
  refine SmG.nil (aa ?_); refine SmM.step hF [40] rfl (by kernel_rfl) rfl ⟨⟨_, rfl, ?_⟩, trivial⟩; refine gv hF oM (SmG.nil (aa ?_)); refine SmM.step hF [41] rfl (by kernel_rfl) rfl ⟨⟨_, rfl, ?_⟩, trivial⟩; refine gv hF (af rfl rfl (by simp only [go_sem, ac] <;> rfl)) ?_; refine SmG.nil (aa ?_); refine SmM.step hF [42] rfl (by kernel_rfl) rfl ⟨⟨_, rfl, ?_⟩, trivial⟩; refine gv hF (ae rfl rfl (dV rfl)) (SmG.nil (aa ?_)); refine SmM.step hF [43] rfl (by kernel_rfl) rfl ⟨⟨_, rfl, ?_⟩, trivial⟩; refine SmG.call hF rfl rfl (by kernel_rfl) rfl rfl rfl hS1 ?_; refine SmG.nil (aa ?_); refine SmM.step hF [44] rfl (by kernel_rfl) rfl ⟨⟨_, rfl, ?_⟩, trivial⟩; refine gv hF (aM rfl rfl rfl) ?_; refine SmG.nil (aa ?_); refine SmM.step hF [45] rfl (by kernel_rfl) rfl ⟨⟨_, rfl, ?_⟩, trivial⟩; refine gv hF oM (SmG.nil (aa ?_)); refine SmM.step hF [46] rfl (by kernel_rfl) rfl ⟨⟨_, rfl, ?_⟩, trivial⟩; refine SmG.makeOwn hF rS rfl 1 rfl rfl rfl rfl rfl rfl (by decide) (by decide) ?_; refine SmG.freeze (l := 12) [az (List.replicate 32 0) ++ [.list 0 [] true]] rfl ?_; simp only [cP, aZ, gL, dg, ck, bM, if_true, Nat.reduceEqDiff, if_false, Nat.zero_add, List.length_map, Nat.le_refl, and_self]; refine SmG.nil (aa ?_); refine SmM.step hF [47] rfl (by kernel_rfl) rfl ⟨⟨_, rfl, ?_⟩, trivial⟩; refine gv hF (da rfl Tryd.underlying27 (by kernel_rfl) rfl (ki (n := 3) LF MR rfl (by repeat' first | apply xM rfl rfl (by first | rfl | simp [az, ac]) | apply xL rfl rfl rfl (by first | assumption | simp [az, ac]) | (apply IL; simp only [List.set_cons_succ, List.set_cons_zero, List.take_succ_cons, List.take_zero, List.drop_succ_cons, List.drop_zero, List.drop_nil, List.cons_append, List.nil_append, List.append_nil, ac] <;> rfl)))) ?_; refine SmG.nil (aa ?_); refine SmM.step hF [48] rfl (by kernel_rfl) rfl ⟨⟨_, rfl, ?_⟩, trivial⟩; refine SmG.call hF rfl rfl (by kernel_rfl) rfl rfl rfl hS2 ?_; refine SmG.nil (aa ?_); refine SmM.step hF [49] rfl (by kernel_rfl) rfl ⟨⟨_, rfl, ?_⟩, trivial⟩; refine gv hF (ek rfl rfl (by exact tr _)) ?_
  refine SmG.nil (aa ?_); refine SmM.step hF [50] rfl (by kernel_rfl) rfl ⟨⟨_, rfl, ?_⟩, trivial⟩; refine gv hF (aM rfl rfl rfl) ?_; refine SmG.nil (aa ?_); refine SmM.step hF [51] rfl (by kernel_rfl) rfl ⟨⟨_, rfl, ?_⟩, trivial⟩; refine gv hF oA (SmG.nil (aa ?_)); refine SmM.nil (by kernel_rfl) ?_; refine aa (Sm.ret ?_)
  skip
  exact ⟨_, rfl, D.le.refl _⟩
end
section
end
section
theorem pH {l : List zBz} (h1 : l.length <= 1000000) (h2 : ∀ b ∈ l, b.length <= 1000000) : am Tryd.prog HG 15 [.list 1 (l.map ai) false] (.agg 3 (Sto.row (bS [] [] l))) := FD l h1 h2
theorem Bh {o o' : List Ob} {n : Nat} {b : zBz} (h : bh o n b = some o') : 32 <= b.length := by
 unfold bh at h; split at h
 ·cases h
 ·omega
theorem Dj {A : List zBz} {o : List Ob} (hf : fE [] 0 A = some o) {i : Nat} {b : zBz} (hb : A[i]? = some b) : ∃ o1 o2, bS [] [] (A.take i) = ⟨o1, A.take i, []⟩ /\ bS [] [] (A.take (i + 1)) = ⟨o2, A.take (i + 1), []⟩ /\
  bS [] [] (A.take i ++ A.drop (i + 1)) = ⟨o1, A.take i, []⟩ /\ bS [] [] (A.take (i + 1) ++ A.drop i) = ⟨o2, A.take (i + 1), []⟩ /\ ∀ b', (oD b').ok = false -> bS [] [] (A.set i b') = ⟨o1, A.take i, []⟩ := by
 have hi := (List.getElem?_eq_some_iff.1 hb).1; obtain ⟨o1, o2, h1, h2⟩ := ta hf hb; have h3 : fE [] 0 (A.take (i + 1)) = some o2 := by
  rw [List.take_add_one, hb]; simp only [Option.toList_some]; rw [sa _ _ _ _ h1, List.length_take, Nat.min_eq_left (by omega)]; exact h2
 have g1 := jM (s := []) h1; have g2 := jM (s := []) h3; simp only [List.nil_append] at g1 g2; refine ⟨o1, o2, g1, g2, ?_, ?_, fun b' hb' => ?_⟩
 ·cases hd : A.drop (i + 1) with
  | nil => rw [List.append_nil]; exact g1
  | cons y r =>
   have hy : A[i + 1]? = some y := by
    have := congrArg (fun l => l[0]?) hd; simpa using this
   obtain ⟨p1, p2, _, p4⟩ := ta hf hy; have := qO (s := []) (r := r) (b := y) h1 (by
    cases hq : bh o1 (([] : List zBz).length + (A.take i).length) y with
    | none => rfl
    | some z =>
     have := qa hq p4; simp at this; omega)
   simpa using this
 ·have hd : A.drop i = b :: A.drop (i + 1) := by
   rw [List.drop_eq_getElem_cons hi]
   congr 1
   rw [List.getElem?_eq_getElem hi] at hb; exact Option.some.inj hb
  rw [hd]; have := qO (s := []) (r := A.drop (i + 1)) (b := b) h3 (by
   cases hq : bh o2 (([] : List zBz).length + (A.take (i + 1)).length) b with
   | none => rfl
   | some z =>
    have := qa hq h2; simp at this; omega)
  simpa using this
 ·have hset : A.set i b' = A.take i ++ b' :: A.drop (i + 1) := by rw [List.set_eq_take_append_cons_drop, if_pos hi]
  rw [hset]; have := qO (s := []) (r := A.drop (i + 1)) (b := b') h1 (by
   rw [Cw]; unfold fd; rw [if_neg]; rintro ⟨g, _⟩; rw [hb'] at g; cases g)
  simpa using this
theorem jJ {h : zHz} {l : Nat} {x : Sto} (hl : look h l = some ⟨3, [(Sto.row x).map V.d]⟩) : aX Tryd.prog h 25 (.ref l 0 1) = some (.d (.list 1 (x.safe.map ai) false)) := mn hl oT rfl
theorem AK {a : List Ob} (h : a.length <= 1000000) : am Tryd.prog HG 17 [.list 33 (a.map Ob.row) false, .list 33 (a.map Ob.row) false] (.v (.bool true)) := fp.d rfl (a, a) true (rb h)
theorem HD {P : Program} {ts : Array TypeId} {T : TypeId} {a b : Int} : aG P (Builtin.max_ ts T #[.int .u16 a, .int .u16 b]) = some (.int .u16 (max a b)) := by
 by_cases hb : a < b
 ·rw [Int.max_eq_right (by omega)]; simp [Builtin.max_, Builtin.max2, bF, hb]
 ·rw [Int.max_eq_left (by omega)]; simp [Builtin.max_, Builtin.max2, bF, hb]
theorem Kx {s : Sto} (h : s.safe.length + s.queue.length <= 1000000) : am Tryd.prog HG 16 [.agg 3 (Sto.row s)] (.list 1 ((cT s).map ai) false) := ja.d rfl s _ (ww h)
set_option maxHeartbeats 8000000 in
theorem GI (l : List SRaw) (w0 w1 w2 : Int) (hw0 : 0 <= w0 /\ w0 <= 65535) (hw1 : 0 <= w1 /\ w1 <= 65535) (hw2 : 0 <= w2 /\ w2 <= 65535) : am Tryd.prog HG 7 [.list 3 (l.map SRaw.row) false, .agg 3 [.v (.int .u16 w0), .v (.int .u16 w1), .v (.int .u16 w2)]] (.v (.bool true)) := by
 have hPlay : am Tryd.prog HG 19 [.list 3 (l.map SRaw.row) false, .v (.int .i64 12)] (.agg 3 (Sto.row (fN l 12))) := qo.d rfl (l, (12 : Int)) _ (Hy l 12 (by omega)); have hs := zZ l 12 (by omega); generalize fN l 12 = s at hPlay hs; obtain ⟨s1, s2, s3⟩ := hs.small (by omega); have hAll := Kx (s := s) (by omega); have hf : fE [] 0 (cT s) = some s.objects := hs.good; have hAl : (cT s).length <= 256 := by simp [cT]; omega
 generalize cT s = A at hAll hf hAl s3; refine am.of Tryd.func7 rfl Tryd.ntmps7 (by simp) ?_; intro F hF h0 hT; simp only [List.zipIdx_cons, List.zipIdx_nil, List.map_cons, List.map_nil, Nat.zero_add, Nat.reduceAdd]; refine Sm.seq ?_; refine ab hF rfl ?_; refine SmG.new hF rfl rfl rfl (eQ rfl rfl (by simp only [go_sem, ac] <;> rfl)) ?_; refine gv hF oA (SmG.nil (aa (Sm.seq ?_))); refine ab hF rfl ?_; refine SmG.call hF rfl rfl (by kernel_rfl) rfl rfl rfl (Ig) ?_; refine gv hF oA (SmG.nil (aa (Sm.seq ?_))); refine ab hF rfl ?_; refine gv hF oM ?_; refine SmG.call hF rfl rfl (by kernel_rfl) rfl rfl rfl (hPlay) ?_; refine SmG.call hF rfl rfl (by kernel_rfl) rfl rfl rfl (hAll) ?_; refine gv hF oA (SmG.nil (aa (Sm.seq (Sm.seq ?_)))); refine ab hF rfl ?_; refine gv hF oM ?_; refine gv hF (aH rfl rfl (by simp only [go_sem, ac] <;> rfl)) ?_; refine gv hF (ag rfl rfl rfl (by exact ll _ _ _ _ _ _ _)) ?_; refine SmG.nil (aa ?_); refine eC hF rfl (fun hc => ?_) (fun hc => ?_)
 ·refine Sm.seq ?_; refine ab hF rfl ?_; refine gv hF oM (gv hF oA (SmG.nil (aa (Sm.ret ?_)))); simp only [bc, bO]; exact ⟨_, rfl, D.le.refl _⟩
 have hpos : 0 < A.length := Nat.pos_of_ne_zero fun e => by rw [e] at hc; simp at hc
 clear hc hPlay hAll; obtain ⟨i, hi, hil⟩ : ∃ i : Nat, w0 % (A.length : Int) = (i : Int) /\ i < A.length := by
  have h1 := Int.emod_nonneg w0 (b := (A.length : Int)) (by omega); have h2 := Int.emod_lt_of_pos w0 (b := (A.length : Int)) (by omega); generalize w0 % (A.length : Int) = z at h1 h2 ⊢; exact ⟨z.toNat, by omega, by omega⟩
 obtain ⟨b, hb⟩ : ∃ b, A[i]? = some b := ⟨A[i], by simp⟩
 obtain ⟨o1, o2, g1, g2, g3, g4, g5⟩ := Dj hf hb; have hA0 : app ([] : List zBz) A = some A := by rw [cN (by simp; omega)]; rfl
 have hA1 : app ([] : List zBz) (A.take i) = some (A.take i) := by rw [cN (by simp; omega)]; rfl
 have hTi : slc A 0 (i : Int) = some (A.take i) := by rw [ge (by omega)]; simp
 refine Sm.skip ?_; refine aa (Sm.seq ?_); refine ab hF rfl ?_; refine gv hF (ak rfl rfl rfl (by simp only [go_sem, ac] <;> rfl)) ?_; refine gv hF (ae rfl rfl (by simp only [go_sem, ac] <;> rfl)) ?_; refine gv hF (bW rfl rfl (by exact dZ rfl rfl (aN _ (by omega)))) ?_; refine gv hF oM ?_; refine gv hF (aH rfl rfl (by simp only [go_sem, ac] <;> rfl)) ?_; refine gv hF (ag rfl rfl rfl ((pM _ _ _ _ _ (by omega) (by omega)).trans (by rw [hi]))) ?_; refine gv hF oA (SmG.nil (aa (Sm.seq ?_))); refine dE hF (by kernel_rfl) rfl 8 (by kernel_rfl) (by kernel_rfl) ?_; simp only [List.take_succ_cons, List.take_zero, List.take_nil]; refine hv hF (aP rfl rfl (by simp only [go_sem, ac] <;> rfl)) ?_; refine hv hF oM ?_; refine aq.appendFreshL hF mq rfl (ys := A) (row := ai) rfl rfl rfl rfl rfl rfl rfl (.inl rfl) hA0 ?_; refine hv hF (aP rfl rfl (by simp only [go_sem, ac] <;> rfl)) ?_; refine hv hF oM (hv hF oM (hv hF (bf rfl rfl rfl rfl rfl (re Tryd.underlying25 nJ hTi)) ?_)); refine aq.appendFreshL hF mq rfl (ys := A.take i) (row := ai) rfl rfl rfl rfl rfl rfl rfl (.inl rfl) hA1 ?_; refine aq.last ⟨rfl, ?_⟩; simp only [List.drop_succ_cons, List.drop_zero, List.drop_nil, List.nil_append, List.cons_append]; refine gv hF oA (gv hF oA (SmG.nil (aa (Sm.seq ?_)))); refine Sm.to (bR (st' := ⟨[(3, .ref 0 0 0), (5, .d (.v (.bool true))), (6, .d (.list 1 (A.map ai) false)), (7, .d (.v (.int .i64 (i : Int)))), (8, .sref 1 0 (A.map ai).length), (9, .sref 2 0 ((A.take i).map ai).length)], [(2, dB 1 ((A.take i).map ai)), (1, dB 1 (A.map ai)), (0, ⟨3, [[.d (.v (.int .u16 w0)), .d (.v (.int .u16 w1)), .d (.v (.int .u16 w2))]]⟩)], 3⟩) (aI ⟨rfl, rfl, rfl, rfl, rfl, rfl, trivial⟩ ⟨rfl, rfl, rfl, trivial⟩ (Nat.le_refl _))) ?_; have hbm := List.mem_of_getElem? hb; have hbl := s3 b hbm; have hB0 : app ([] : zBz) b = some b := by rw [cN (by simp; omega)]; rfl
 refine ab hF rfl ?_; refine gv hF oM (gv hF oM ?_); refine gv hF (aP rfl rfl (by simp only [go_sem, hb, ai, av, ac] <;> rfl)) ?_; refine gv hF oM (gv hF oM ?_); refine gv hF (ak rfl rfl rfl (by simp only [go_sem, hb, ai, av, ac] <;> rfl)) ?_; refine gv hF (ae rfl rfl (by simp only [go_sem, hb, ai, av, ac] <;> rfl)) ?_; refine SmG.appendFreshL hF ku rfl (ys := b) (row := aj) rfl rfl rfl rfl rfl rfl rfl (.inl rfl) hB0 ?_; refine gv hF (ak rfl rfl rfl (by simp (disch := omega) only [go_sem, Nat.reduceEqDiff, aD, hb, ai, av, ac] <;> rfl)) ?_; refine SmG.store hF rfl rfl rfl rfl rfl (by simp (disch := omega) only [go_sem, Nat.reduceEqDiff, aD, hb, ai, av, ac] <;> rfl) ?_; refine SmG.nil (aa (Sm.seq ?_)); simp only [rep, Nat.reduceEqDiff, if_false, if_true]; obtain ⟨R, hR, hRi⟩ : ∃ R : List (List V), R = (List.map (fun r => List.map V.d r) (List.map ai A)).set i [V.sref 3 0 b.length] /\ R[i]? = some [V.sref 3 0 b.length] := ⟨_, rfl, by simp [hil]⟩
 rw [<- hR]; obtain ⟨o1', o2', _, hap⟩ := ta hf hb; have hb32 := Bh hap; obtain ⟨j, hj, hjl⟩ : ∃ j : Nat, w1 % (b.length : Int) = (j : Int) /\ j < b.length := by
  have h1 := Int.emod_nonneg w1 (b := (b.length : Int)) (by omega); have h2 := Int.emod_lt_of_pos w1 (b := (b.length : Int)) (by omega); generalize w1 % (b.length : Int) = z at h1 h2 ⊢; exact ⟨z.toNat, by omega, by omega⟩
 obtain ⟨c, hbj⟩ : ∃ c, b[j]? = some c := ⟨b[j], by simp⟩
 obtain ⟨z, hz⟩ : ∃ z : Nat, max 1 (w2 % 256) = (z : Int) := ⟨(max 1 (w2 % 256)).toNat, by omega⟩
 obtain ⟨y, hy⟩ : ∃ y : UInt8, IntKind.u8.wrap ((BitVec.ofInt IntKind.u8.bits (c.toNat : Int) ^^^ BitVec.ofInt IntKind.u8.bits ((UInt8.ofNat z).toNat : Int)).toNat : Int) = (y.toNat : Int) := by
  have hlt : (BitVec.ofInt IntKind.u8.bits (c.toNat : Int) ^^^ BitVec.ofInt IntKind.u8.bits ((UInt8.ofNat z).toNat : Int)).toNat < 256 := BitVec.isLt _; generalize (BitVec.ofInt IntKind.u8.bits (c.toNat : Int) ^^^ BitVec.ofInt IntKind.u8.bits ((UInt8.ofNat z).toNat : Int)).toNat = v at hlt; exact ⟨UInt8.ofNat v, by rw [LB _ (by omega), UInt8.toNat_ofNat', Nat.mod_eq_of_lt hlt]⟩
 refine dE hF (by kernel_rfl) rfl 22 (by kernel_rfl) (by kernel_rfl) ?_; simp only [List.take_succ_cons, List.take_zero, List.take_nil]; refine hv hF oM (hv hF oM ?_); refine hv hF (ak rfl rfl rfl (by simp (disch := omega) only [go_sem, Nat.reduceEqDiff, aD, hb, hbj, hRi, ai, aj, aC, av, ac] <;> rfl)) ?_; refine hv hF (ae rfl rfl (by simp (disch := omega) only [go_sem, Nat.reduceEqDiff, aD, hb, hbj, hRi, ai, aj, aC, av, ac] <;> rfl)) ?_; refine hv hF (ak rfl rfl rfl (by simp only [go_sem, hb, hbj, hRi, ai, aj, aC, av, ac] <;> rfl)) ?_; refine hv hF (ae rfl rfl (by simp only [go_sem, hb, hbj, hRi, ai, aj, aC, av, ac] <;> rfl)) ?_; refine hv hF (bW rfl rfl (by exact dZ rfl rfl (aN _ (by omega)))) ?_; refine hv hF oM (hv hF oM ?_); refine hv hF (ak rfl rfl rfl (by simp only [go_sem, hb, hbj, hRi, ai, aj, aC, av, ac] <;> rfl)) ?_; refine hv hF (ae rfl rfl (by simp only [go_sem, hb, hbj, hRi, ai, aj, aC, av, ac] <;> rfl)) ?_; refine hv hF (aH rfl rfl (by simp only [go_sem, hb, hbj, hRi, ai, aj, aC, av, ac] <;> rfl)) ?_; refine hv hF (ag rfl rfl rfl ((pM _ _ _ _ _ (by omega) (by omega)).trans (by rw [hj]))) ?_; refine hv hF (ak rfl rfl rfl (by simp (disch := omega) only [go_sem, Nat.reduceEqDiff, aD, hb, hbj, hRi, ai, aj, aC, av, ac] <;> rfl)) ?_; refine hv hF (ae rfl rfl (by simp only [go_sem, hb, hbj, hRi, ai, aj, aC, av, ac] <;> rfl)) ?_; refine hv hF (ak rfl rfl rfl (by simp only [go_sem, hb, hbj, hRi, ai, aj, aC, av, ac] <;> rfl)) ?_; refine hv hF (ae rfl rfl (by simp only [go_sem, hb, hbj, hRi, ai, aj, aC, av, ac] <;> rfl)) ?_; refine hv hF (ag rfl rfl rfl (by exact pM _ _ _ _ _ (by omega) (by omega))) ?_; refine hv hF (Cq rfl rfl rfl (HD.trans (by rw [hz]))) ?_; refine hv hF (bW rfl rfl (fa _ Tryd.underlying61 Tryd.underlying5)) (hv hF (ag rfl rfl rfl ((Ay _ _ _ _ _ _ _).trans (congrArg (fun x => some (Value.int .u8 x)) hy))) ?_); refine hv hF (ak rfl rfl rfl (by simp (disch := omega) only [go_sem, Nat.reduceEqDiff, aD, hb, hbj, hRi, ai, aj, aC, av, ac] <;> rfl)) ?_
 refine aq.last ⟨rfl, ?_⟩; simp only [List.drop_succ_cons, List.drop_zero, List.drop_nil, List.nil_append, List.cons_append]; refine SmG.store hF rfl rfl rfl rfl rfl (by simp only [go_sem, hb, hbj, hRi, ai, aj, aC, av, ac] <;> rfl) ?_; refine SmG.nil (aa (Sm.seq ?_)); have hb3 : ({ sz := 1, rows := (List.map (fun r => List.map V.d r) (List.map aj b)).set j [V.d (D.v (.int .u8 (y.toNat : Int)))] } : Blk) = dB 1 ((b.set j y).map aj) := by simp [dB, List.map_set, aj, aC]
 simp only [rep, Nat.reduceEqDiff, if_false, if_true]; rw [hb3]; have hlb : (b.set j y).length = b.length := by simp
 generalize b.set j y = b' at hlb; obtain ⟨A', hA'⟩ : ∃ A', A' = A.set i b' := ⟨_, rfl⟩
 have hlA : A'.length = A.length := by rw [hA']; simp
 have hmB : ck (aZ 3 1 (b'.map aj)) ⟨1, R⟩ = dB 1 (A'.map ai) := by
  rw [hR, hA']; simp only [ck, dB, List.map_set, GW, List.map_cons, List.map_nil]
  congr 2
  simp [aZ, hlb, ai, av]
 have hfz := eS (F := F) (st := ⟨[(5, .d (.v (.bool true))), (6, .d (.list 1 (A.map ai) false)), (7, .d (.v (.int .i64 (i : Int)))), (8, .sref 1 0 (A.map ai).length), (9, .sref 2 0 ((A.take i).map ai).length)], [(3, dB 1 (b'.map aj)), (2, dB 1 ((A.take i).map ai)), (1, ⟨1, R⟩)], 4⟩) (l := 3) (b'.map aj) rfl rfl; refine Sm.to (bR (st' := ⟨[(5, .d (.v (.bool true))), (6, .d (.list 1 (A.map ai) false)), (7, .d (.v (.int .i64 (i : Int)))), (8, .sref 1 0 (A.map ai).length), (9, .sref 2 0 ((A.take i).map ai).length)], [(3, dB 1 (b'.map aj)), (2, dB 1 ((A.take i).map ai)), (1, ⟨1, R⟩)], 4⟩) (aI ⟨rfl, rfl, rfl, rfl, rfl, trivial⟩ ⟨rfl, rfl, rfl, trivial⟩ (Nat.le_refl _))) ?_; refine Sm.to hfz ?_; refine Sm.to (bR (st' := ⟨[(5, .d (.v (.bool true))), (6, .d (.list 1 (A.map ai) false)), (7, .d (.v (.int .i64 (i : Int)))), (8, .sref 1 0 (A.map ai).length), (9, .sref 2 0 ((A.take i).map ai).length)], [(2, dB 1 ((A.take i).map ai)), (1, dB 1 (A'.map ai))], 4⟩) (aI ⟨rfl, rfl, rfl, rfl, rfl, trivial⟩ ⟨congrArg some (pC ..), congrArg some hmB, trivial⟩ (Nat.le_refl _))) ?_; rw [show V.sref 1 0 (A.map ai).length = V.sref 1 0 (A'.map ai).length by rw [List.length_map, List.length_map, hlA]]; clear hfz hmB hb3 hy hz hbj hRi hR hB0; have hDi : slc A ((i : Int) + 1) (A.length : Int) = some (A.drop (i + 1)) := by rw [ge (by omega), show ((i : Int) + 1).toNat = i + 1 by omega]; simp
 have hDj : slc A (i : Int) (A.length : Int) = some (A.drop i) := by rw [ge (by omega)]; simp
 have hTj : slc A 0 ((i : Int) + 1) = some (A.take (i + 1)) := by rw [ge (by omega), show ((i : Int) + 1).toNat = i + 1 by omega]; simp
 have hA2 : app (A.take i) (A.drop (i + 1)) = some (A.take i ++ A.drop (i + 1)) := cN (by simp; omega); have hA3 : app ([] : List zBz) (A.take (i + 1)) = some (A.take (i + 1)) := by rw [cN (by simp; omega)]; rfl
 have hA4 : app (A.take (i + 1)) (A.drop i) = some (A.take (i + 1) ++ A.drop i) := cN (by simp; omega); refine ab hF rfl ?_; refine gv hF oM (gv hF oM (gv hF oM ?_)); refine gv hF (ag rfl rfl rfl (by exact dl _ _ _ _ _ (aN _ (by omega)))) ?_; refine gv hF (bf rfl rfl rfl rfl rfl (wb Tryd.underlying25 nJ hDi)) ?_; refine eW hF mq rfl (xs := A.take i) (ys := A.drop (i + 1)) (row := ai) rfl rfl rfl rfl rfl rfl rfl rfl (.inl rfl) hA2 frH ?_; simp only [cY, Pk.v, V.free, rep, bne_self_eq_false, Nat.reduceAdd, Nat.reduceBNe, Nat.reduceBEq, Nat.reduceEqDiff, reduceIte, Bool.false_eq_true]; refine gv hF oA (SmG.nil (aa (Sm.seq ?_))); refine ab hF rfl ?_; refine gv hF (aP rfl rfl (by simp only [go_sem, ac] <;> rfl)) ?_; refine gv hF oM (gv hF oM ?_); refine gv hF (ag rfl rfl rfl (by exact dl _ _ _ _ _ (aN _ (by omega)))) ?_; refine gv hF (bf rfl rfl rfl rfl rfl (re Tryd.underlying25 nJ hTj)) ?_; refine SmG.appendFreshL hF mq rfl (ys := A.take (i + 1)) (row := ai) rfl rfl rfl rfl rfl rfl rfl (.inl rfl) hA3 ?_; refine gv hF oA (SmG.nil (aa (Sm.seq ?_))); refine ab hF rfl ?_; refine gv hF oM (gv hF oM (gv hF oM (gv hF (bf rfl rfl rfl rfl rfl (wb Tryd.underlying25 nJ hDj)) ?_))); refine eW hF mq rfl (xs := A.take (i + 1)) (ys := A.drop i) (row := ai) rfl rfl rfl rfl rfl rfl rfl rfl (.inl rfl) hA4 frH ?_; simp only [cY, Pk.v, V.free, rep, bne_self_eq_false, Nat.reduceAdd, Nat.reduceBNe, Nat.reduceBEq, Nat.reduceEqDiff, reduceIte, Bool.false_eq_true]; refine gv hF oA (SmG.nil (aa (Sm.seq ?_))); obtain ⟨Bk, hBk⟩ : ∃ B, B = A.take i ++ A.drop (i + 1) := ⟨_, rfl⟩
 obtain ⟨Ck, hCk⟩ : ∃ C, C = A.take (i + 1) ++ A.drop i := ⟨_, rfl⟩
 rw [<- hBk] at g3 ⊢; rw [<- hCk] at g4 ⊢; have hBm : Bk.length <= 1000000 /\ ∀ x ∈ Bk, x.length <= 1000000 := by
  rw [hBk]; refine ⟨by simp; omega, fun x hx => ?_⟩; rcases List.mem_append.1 hx with hx | hx
  ·exact Nat.le_trans (s3 x (List.mem_of_mem_take hx)) (by omega)
  ·exact Nat.le_trans (s3 x (List.mem_of_mem_drop hx)) (by omega)
 have hCm : Ck.length <= 1000000 /\ ∀ x ∈ Ck, x.length <= 1000000 := by
  rw [hCk]; refine ⟨by simp; omega, fun x hx => ?_⟩; rcases List.mem_append.1 hx with hx | hx
  ·exact Nat.le_trans (s3 x (List.mem_of_mem_take hx)) (by omega)
  ·exact Nat.le_trans (s3 x (List.mem_of_mem_drop hx)) (by omega)
 have hAm : A'.length <= 1000000 /\ ∀ x ∈ A', x.length <= 1000000 := by
  rw [hA']; refine ⟨by simp; omega, fun x hx => ?_⟩; rcases List.mem_or_eq_of_mem_set hx with hx | rfl
  ·exact Nat.le_trans (s3 x hx) (by omega)
  ·omega
 have hb2 : A'[i]? = some b' := by rw [hA']; simp [hil]
 have g6 : (oD b').ok = false -> bS [] [] A' = ⟨o1, A.take i, []⟩ := by rw [hA']; exact g5 b'
 have hOa := pH hAm.1 hAm.2; have hOb := pH hBm.1 hBm.2; have hOc := pH hCm.1 hCm.2; have hOd := pH (l := A.take i) (by simp; omega) (fun x hx => Nat.le_trans (s3 x (List.mem_of_mem_take hx)) (by omega)); have hOe := pH (l := A.take (i + 1)) (by simp; omega) (fun x hx => Nat.le_trans (s3 x (List.mem_of_mem_take hx)) (by omega)); rw [g3] at hOb; rw [g4] at hOc; rw [g1] at hOd; rw [g2] at hOe; have hRd := ya b' (by omega); have ho1 : o1.length <= 1000000 := by
  obtain ⟨q, hq⟩ := ol hf i; have := jM (s := []) hq; simp only [List.nil_append] at this; rw [this] at g1; cases g1; have := (tb (ss 2000) (fun x hx => s3 x (List.mem_of_mem_take hx)) hq).2; simp at this; omega
 have ho2 : o2.length <= 1000000 := by
  obtain ⟨q, hq⟩ := ol hf (i + 1); have := jM (s := []) hq; simp only [List.nil_append] at this; rw [this] at g2; cases g2; have := (tb (ss 2000) (fun x hx => s3 x (List.mem_of_mem_take hx)) hq).2; simp at this; omega
 have hSO1 := AK ho1; have hSO2 := AK ho2; generalize bS [] [] A' = pa at hOa g6; generalize oD b' = rd at hRd g6; have hl1 : (A.take i).length = i := by simp; omega
 have hl2 : (A.take (i + 1)).length = i + 1 := by simp; omega
 refine Sm.to (bR (st' := ⟨[(5, .d (.v (.bool true))), (6, .d (.list 1 (A.map ai) false)), (7, .d (.v (.int .i64 (i : Int)))), (8, .sref 1 0 (A'.map ai).length), (9, .sref 2 0 (Bk.map ai).length), (10, .sref 4 0 (Ck.map ai).length)], [(4, dB 1 (Ck.map ai)), (2, dB 1 (Bk.map ai)), (1, dB 1 (A'.map ai))], 5⟩) (aI ⟨rfl, rfl, rfl, rfl, rfl, rfl, trivial⟩ ⟨rfl, rfl, rfl, trivial⟩ (Nat.le_refl _))) ?_; refine Sm.freeze (l := 1) (A'.map ai) rfl ?_; refine Sm.freeze (l := 2) (Bk.map ai) rfl ?_; refine Sm.freeze (l := 4) (Ck.map ai) rfl ?_; simp only [cP, aZ, gL, dg, ck, bM, if_true, Nat.reduceEqDiff, if_false, Nat.zero_add, List.length_map, Nat.le_refl, and_self]; clear hBm hCm hAm g1 g2 g3 g4 g5 hf hBk hCk hA' hs; refine ab hF rfl ?_; refine gv hF oM ?_; refine SmG.call hF rfl rfl (by kernel_rfl) rfl rfl rfl hOa ?_; refine gv hF oM ?_; refine SmG.call hF rfl rfl (by kernel_rfl) rfl rfl rfl hOb ?_; refine gv hF oM ?_; refine SmG.call hF rfl rfl (by kernel_rfl) rfl rfl rfl hOc ?_; refine SmG.new hF rfl rfl rfl (aE rfl ko) ?_; refine SmG.new hF rfl rfl rfl (aE rfl ko) ?_; refine SmG.new hF rfl rfl rfl (aE rfl ko) ?_; refine SmG.store hF rfl rfl rfl rfl rfl (er gl rfl rfl) ?_; refine SmG.store hF rfl rfl rfl rfl rfl (er gl rfl rfl) ?_; refine SmG.store hF rfl rfl rfl rfl rfl (er gl rfl rfl) ?_; refine SmG.nil (aa (Sm.seq (Sm.seq ?_))); obtain ⟨B1, hB1⟩ : ∃ x : Sto, x = ⟨o1, A.take i, []⟩ := ⟨_, rfl⟩
 obtain ⟨C1, hC1⟩ : ∃ x : Sto, x = ⟨o2, A.take (i + 1), []⟩ := ⟨_, rfl⟩
 rw [<- hB1] at hOd ⊢; rw [<- hC1] at hOe ⊢; rw [<- hB1] at g6; have hBs : B1.safe.length = i := by rw [hB1]; exact hl1
 have hCs : C1.safe.length = i + 1 := by rw [hC1]; exact hl2
 rw [show o1 = B1.objects by rw [hB1]] at hSO1; rw [show o2 = C1.objects by rw [hC1]] at hSO2; refine Sm.to (bR (st' := ⟨[(5, .d (.v (.bool true))), (6, .d (.list 1 (A.map ai) false)), (7, .d (.v (.int .i64 (i : Int)))), (8, .d (.list 1 (A'.map ai) false)), (11, .ref 5 0 0), (12, .ref 6 0 0), (13, .ref 7 0 0)], [(5, ⟨3, [(Sto.row pa).map V.d]⟩), (6, ⟨3, [(Sto.row B1).map V.d]⟩), (7, ⟨3, [(Sto.row C1).map V.d]⟩)], 8⟩) (aI ⟨rfl, rfl, rfl, rfl, rfl, rfl, rfl, trivial⟩ ⟨rfl, rfl, rfl, trivial⟩ (Nat.le_refl _))) ?_; refine gG (I := ⟨[(118, .d (.v (.bool false))), (5, .d (.v (.bool true))), (6, .d (.list 1 (A.map ai) false)), (7, .d (.v (.int .i64 (i : Int)))), (12, .ref 6 0 0), (13, .ref 7 0 0)], [(6, ⟨3, [(Sto.row B1).map V.d]⟩), (7, ⟨3, [(Sto.row C1).map V.d]⟩)], 8⟩) ?_ ?_
 rotate_left
 ·by_cases hc1 : pa.safe.length = i
  ·have hok : rd.ok = rd.ok := rfl; refine ab hF rfl ?_; refine gv hF (af rfl rfl (by simp only [go_sem, hb2, ai, av, ac] <;> rfl)) ?_; refine gv hF (ae rfl rfl (jJ rfl)) ?_; refine gv hF (aH rfl rfl (by simp only [go_sem, hb2, ai, av, ac] <;> rfl)) ?_; refine gv hF oM ?_; refine gv hF (ag rfl rfl rfl (by exact fc _ _ _ _ _ (by omega))) ?_; refine gv hF oM ?_; refine gp hF ?_; refine gp hF ?_; refine gp hF ?_; refine gp hF ?_; refine gp hF ?_; refine gp hF ?_; refine gp hF ?_; refine gv hF (aL rfl rfl rfl) ?_; refine gv hF oM ?_; refine gv hF (af rfl rfl (by simp only [go_sem, hb2, ai, av, ac] <;> rfl)) ?_; refine gv hF (ae rfl rfl (jJ rfl)) ?_; refine gv hF (aH rfl rfl (by simp only [go_sem, hb2, ai, av, ac] <;> rfl)) ?_; refine gv hF oM ?_; refine gv hF (ag rfl rfl rfl (by exact fc _ _ _ _ _ (by omega))) ?_; refine gv hF (aL rfl rfl rfl) ?_; refine gv hF oM ?_; refine gv hF (af rfl rfl (by simp only [go_sem, hb2, ai, av, ac] <;> rfl)) ?_; refine gv hF (ae rfl rfl (jJ rfl)) ?_; refine gv hF (aH rfl rfl (by simp only [go_sem, hb2, ai, av, ac] <;> rfl)) ?_; refine gv hF oM ?_; refine gv hF (ag rfl rfl rfl (by exact dl _ _ _ _ _ (aN _ (by omega)))) ?_; refine gv hF (ag rfl rfl rfl (by exact fc _ _ _ _ _ (by omega))) ?_; refine gv hF (aL rfl rfl rfl) ?_; refine SmG.nil (aa ?_); exact bR (aI ⟨rfl, rfl, rfl, rfl, rfl, rfl, trivial⟩ ⟨rfl, rfl, trivial⟩ (Nat.le_refl _))
  ·have hok : rd.ok = true := by
    cases hq : rd.ok with
    | true => rfl
    | false => exact absurd (by rw [g6 hq]; exact hBs) hc1
   refine ab hF rfl ?_; refine gv hF (af rfl rfl (by simp only [go_sem, hb2, ai, av, ac] <;> rfl)) ?_; refine gv hF (ae rfl rfl (jJ rfl)) ?_; refine gv hF (aH rfl rfl (by simp only [go_sem, hb2, ai, av, ac] <;> rfl)) ?_; refine gv hF oM ?_; refine gv hF (ag rfl rfl rfl (by exact lQ _ _ _ _ _ (by omega))) ?_; refine gv hF oM ?_; refine gv hF oM ?_; refine gv hF oM ?_; refine gv hF (ak rfl rfl rfl (by simp only [go_sem, hb2, ai, av, ac] <;> rfl)) ?_; refine gv hF (ae rfl rfl (by simp only [go_sem, hb2, ai, av, ac] <;> rfl)) ?_; refine SmG.call hF rfl rfl (by kernel_rfl) rfl rfl rfl (hRd) ?_; refine gv hF (kM rfl rfl ((sY (m := 36) KG KH ag4 rfl).trans (by rw [hok]))) ?_; refine gv hF (ek rfl rfl (by exact fX _)) ?_; refine gv hF (aM rfl rfl rfl) ?_; refine gv hF oM ?_; refine gv hF (af rfl rfl (by simp only [go_sem, hb2, ai, av, ac] <;> rfl)) ?_; refine gv hF (ae rfl rfl (jJ rfl)) ?_; refine gv hF (aH rfl rfl (by simp only [go_sem, hb2, ai, av, ac] <;> rfl)) ?_; refine gv hF oM ?_; refine gv hF (ag rfl rfl rfl (by exact fc _ _ _ _ _ (by omega))) ?_; refine gv hF (aL rfl rfl rfl) ?_; refine gv hF oM ?_; refine gv hF (af rfl rfl (by simp only [go_sem, hb2, ai, av, ac] <;> rfl)) ?_; refine gv hF (ae rfl rfl (jJ rfl)) ?_; refine gv hF (aH rfl rfl (by simp only [go_sem, hb2, ai, av, ac] <;> rfl)) ?_; refine gv hF oM ?_; refine gv hF (ag rfl rfl rfl (by exact dl _ _ _ _ _ (aN _ (by omega)))) ?_; refine gv hF (ag rfl rfl rfl (by exact fc _ _ _ _ _ (by omega))) ?_; refine gv hF (aL rfl rfl rfl) ?_; refine SmG.nil (aa ?_); exact bR (aI ⟨rfl, rfl, rfl, rfl, rfl, rfl, trivial⟩ ⟨rfl, rfl, trivial⟩ (Nat.le_refl _))
 skip
 refine aR hF rfl ?_; refine Sm.skip ?_; refine aa (Sm.seq ?_); refine dE hF (by kernel_rfl) rfl 23 (by kernel_rfl) (by kernel_rfl) ?_; simp only [List.take_succ_cons, List.take_zero, List.take_nil]; refine hv hF oM (hv hF oM (hv hF (bf rfl rfl rfl rfl rfl (re Tryd.underlying25 nJ hTi)) ?_)); refine aq.c hF rfl rfl (by kernel_rfl) rfl rfl rfl hOd ?_; refine hv hF (kM rfl rfl (sY (m := 3) vl Fe pZ rfl)) ?_; refine hv hF (af rfl rfl (by simp only [go_sem, hb2, ai, av, ac] <;> rfl)) ?_; refine hv hF (ae rfl rfl (mN rfl)) ?_; refine aq.c hF rfl rfl (by kernel_rfl) rfl rfl rfl hSO1 ?_; refine hv hF oM ?_; refine hv hF oM ?_; refine hv hF oM ?_; refine hv hF (ag rfl rfl rfl (by exact dl _ _ _ _ _ (aN _ (by omega)))) ?_; refine hv hF (bf rfl rfl rfl rfl rfl (re Tryd.underlying25 nJ hTj)) ?_; refine aq.c hF rfl rfl (by kernel_rfl) rfl rfl rfl hOe ?_; refine hv hF (kM rfl rfl (sY (m := 3) vl Fe pZ rfl)) ?_; refine hv hF (af rfl rfl (by simp only [go_sem, hb2, ai, av, ac] <;> rfl)) ?_; refine hv hF (ae rfl rfl (mN rfl)) ?_; refine aq.c hF rfl rfl (by kernel_rfl) rfl rfl rfl hSO2 ?_; refine hv hF (aM rfl rfl rfl) ?_; refine hv hF oM ?_; refine hv hF oM ?_; refine hv hF (aM rfl rfl rfl) ?_; refine hv hF oA ?_; refine aq.last ⟨rfl, ?_⟩; simp only [List.drop_succ_cons, List.drop_zero, List.drop_nil, List.nil_append, List.cons_append]; refine SmG.nil (aa (Sm.ret ?_)); exact ⟨_, rfl, D.le.refl _⟩
theorem mg {a0 : List SRaw} {a1 : Int × Int × Int} (h : (0 <= a1.1 /\ a1.1 <= 65535) /\ (0 <= a1.2.1 /\ a1.2.1 <= 65535) /\ (0 <= a1.2.2 /\ a1.2.2 <= 65535)) : am Tryd.prog HG 7 [.list 3 (a0.map SRaw.row) false, .agg 3 [.v (.int .u16 a1.1), .v (.int .u16 a1.2.1), .v (.int .u16 a1.2.2)]] (.v (.bool true)) := GI a0 _ _ _ h.1 h.2.1 h.2.2
end
end Go.Proofs.YtaclinnjekdgoaaDoor
