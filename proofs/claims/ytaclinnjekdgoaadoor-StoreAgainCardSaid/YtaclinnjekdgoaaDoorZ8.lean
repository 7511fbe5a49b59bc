/-
  Lemmas, part 8 of 8: walks through the program's functions, and plain Lean about what they compute.
-/
import Derived.Test.YtaclinnjekdgoaaDoorZ1
import Derived.Test.YtaclinnjekdgoaaDoorZ2
import Derived.Test.YtaclinnjekdgoaaDoorZ3
import Derived.Test.YtaclinnjekdgoaaDoorZ4
import Derived.Test.YtaclinnjekdgoaaDoorZ5
import Derived.Test.YtaclinnjekdgoaaDoorZ6
import Derived.Test.YtaclinnjekdgoaaDoorZ7
set_option linter.unnecessarySimpa false
set_option linter.unusedSimpArgs false
set_option linter.unusedVariables false
set_option maxRecDepth 100000
namespace Go.Proofs.YtaclinnjekdgoaaDoor
open Go.RowKit
section
noncomputable def f6 (a0 : List UInt8) : Option Int :=
 ob (idx a0 0) fun x1 =>
 ob (ry .i64 (x1.toNat : Int) 24) fun x2 =>
 ob (idx a0 1) fun x3 =>
 ob (ry .i64 (x3.toNat : Int) 16) fun x4 =>
 ob (arI .i64 (x2 + x4)) fun x5 =>
 ob (idx a0 2) fun x6 =>
 ob (ry .i64 (x6.toNat : Int) 8) fun x7 =>
 ob (arI .i64 (x5 + x7)) fun x8 =>
 ob (idx a0 3) fun x9 =>
 ob (arI .i64 (x8 + (x9.toNat : Int))) fun x10 =>
 some x10
set_option maxHeartbeats 4000000 in
theorem pB {a0 : List UInt8} {r : Int} (h : f6 a0 = some r) : aj Tryd.prog HG 48 [.list 1 (a0.map ai) false] (.i r) := by
 unfold f6 at h; refine aj.of Tryd.func48 rfl Tryd.ntmps48 (by simp) ?_; intro F hF h0 hT; show Sm F _ _ ⟨[(0, .d (.list 1 (a0.map ai) false))], [], 0⟩; refine sr hF (gv hF oA (sn (Sm.seq ?_))); refine dG hF 21 ?_; refine hv hF oM ?_; obtain ⟨x1, hx1, h⟩ := ap h; refine hv hF (oI (eC u30 sz5 hx1)) (hv hF (oL (lP1 ag5 rfl)) (hv hF (oC (e7 u5 u3 (jQ _))) ?_)); obtain ⟨x2, hx2, h⟩ := ap h; refine hv hF (oB (uw hx2)) (hv hF oM ?_); obtain ⟨x3, hx3, h⟩ := ap h; refine hv hF (oI (eC u30 sz5 hx3)) (hv hF (oL (lP1 ag5 rfl)) (hv hF (oC (e7 u5 u3 (jQ _))) ?_)); obtain ⟨x4, hx4, h⟩ := ap h; refine hv hF (oB (uw hx4)) ?_; obtain ⟨x5, hx5, h⟩ := ap h; refine hv hF (oB (dP hx5)) (hv hF oM ?_); obtain ⟨x6, hx6, h⟩ := ap h; refine hv hF (oI (eC u30 sz5 hx6)) (hv hF (oL (lP1 ag5 rfl)) (hv hF (oC (e7 u5 u3 (jQ _))) ?_)); obtain ⟨x7, hx7, h⟩ := ap h; refine hv hF (oB (uw hx7)) ?_; obtain ⟨x8, hx8, h⟩ := ap h; refine hv hF (oB (dP hx8)) (hv hF oM ?_); obtain ⟨x9, hx9, h⟩ := ap h; refine hv hF (oI (eC u30 sz5 hx9)) (hv hF (oL (lP1 ag5 rfl)) (hv hF (oC (e7 u5 u3 (jQ _))) ?_)); refine hE ?_; obtain ⟨x10, hx10, h⟩ := ap h; refine gv hF (oB (dP hx10)) (gv hF oA (sn (Sm.ret ?_))); obtain rfl := aW h; exact kP rfl rfl
theorem tc {n : Nat} {k : Nat} (hn : n < 256) (hk : k ≤ 24) : ry .i64 (n : Int) (k : Int) = some ((n * 2 ^ k : Nat) : Int) := by
 unfold ry; have hm : min ((k : Int).toNat) IntKind.i64.bits = k := by show min _ 64 = _; omega
 rw [if_neg (by omega), hm]; have h1 : (2 : Nat) ^ k ≤ 2 ^ 24 := Nat.pow_le_pow_right (by omega) hk; have h2 : n * 2 ^ k < 256 * 2 ^ 24 := Nat.lt_of_lt_of_le (Nat.mul_lt_mul_of_pos_right hn (Nat.pow_pos (by omega))) (Nat.mul_le_mul_left _ h1); have e : ((n : Int) * 2 ^ k) = ((n * 2 ^ k : Nat) : Int) := by norm_cast
 rw [e, aY _ (by omega)]
theorem E7 (b0 b1 b2 b3 : UInt8) : f6 [b0, b1, b2, b3] = some ((be [b0, b1, b2, b3] : Nat) : Int) := by
 have h0 := b0.toNat_lt; have h1 := b1.toNat_lt; have h2 := b2.toNat_lt; have h3 := b3.toNat_lt; unfold f6; rw [show idx [b0, b1, b2, b3] 0 = some b0 from rfl, aq, show (24 : Int) = ((24 : Nat) : Int) from rfl, tc h0 (by omega), aq, show idx [b0, b1, b2, b3] 1 = some b1 from rfl, aq, show (16 : Int) = ((16 : Nat) : Int) from rfl, tc h1 (by omega), aq, bP (by omega), aq,
  show idx [b0, b1, b2, b3] 2 = some b2 from rfl, aq, show (8 : Int) = ((8 : Nat) : Int) from rfl, tc h2 (by omega), aq, bP (by omega), aq, show idx [b0, b1, b2, b3] 3 = some b3 from rfl, aq, bP (by omega), aq]
 simp only [be, List.foldl_cons, List.foldl_nil]
 congr 1
 omega
theorem DP (l : List UInt8) (hl : l.length = 4) : aj Tryd.prog HG 48 [.list 1 (l.map ai) false] (.v (.int .i64 (be l))) := by
 rcases l with _ | ⟨b0, _ | ⟨b1, _ | ⟨b2, _ | ⟨b3, _ | ⟨b4, l⟩⟩⟩⟩⟩ <;> simp at hl
 exact pB (E7 b0 b1 b2 b3)
def rZ (l : List UInt8) : Vec 32 := if h : l.length = 32 then ⟨l, h⟩ else ⟨List.replicate 32 0, rfl⟩
def vJ : Rcd := ⟨false, 0, 0, [], ⟨List.replicate 32 0, rfl⟩⟩
def mo (B : List UInt8) : Rcd :=
 if (B.getD 0 0).toNat = 80 ∧ be ((B.drop 5).take 4) + 9 = B.length ∧ B.length ≤ 65545 then ⟨true, B.getD 0 0, (be ((B.drop 1).take 4) : Nat), B.drop 9, cu (B.drop 9)⟩
 else if (B.getD 0 0).toNat = 68 ∧ B.length = 37 then ⟨true, B.getD 0 0, (be ((B.drop 1).take 4) : Nat), [], rZ (B.drop 5)⟩
 else vJ
def uB (b : List UInt8) : Rcd :=
 if b.length < 41 then vJ else
 if Sha.sum (b.take (b.length - 32)) ≠ b.drop (b.length - 32) then vJ else
 mo (b.take (b.length - 32))
theorem fc {n l : Nat} {t : TypeId} {R : List D} {h : List (Nat × Blk)} {zr zp : List V} (hs : az Tryd.prog t = some n) (hl : look h l = some ⟨n, [zr]⟩) (hp : ac zr = some zp) : db Tryd.prog h t (.ref l 0 0) (.d (.agg n R)) = some (.upd l ⟨n, [R.map V.d]⟩) := by
 simp only [db, hl, Option.bind_some, List.getElem?_cons_zero, hp, fZ, hs]; simp
theorem gz {n l : Nat} {t : TypeId} {R : List D} {h : List (Nat × Blk)} (hs : az Tryd.prog t = some n) (ha : bg Tryd.prog t = some true) (hl : look h l = some ⟨n, [R.map V.d]⟩) : aX Tryd.prog h t (.ref l 0 0) = some (.d (.agg n R)) := by
 have hs' : seg (R.map V.d) n 0 n = R.map V.d := by
  unfold seg; rw [if_pos ⟨rfl, rfl⟩]
 have hp : bu (R.map V.d) = some R := gr _; simp only [aX, hl, Option.bind_some, List.getElem?_cons_zero, cc, ha, hs, hs', hp]; simp
theorem mB (r : D) (h : r = .agg 36 ([.v (.bool false), .v (.int .u8 0), .v (.int .i64 0), .list 0 [] true] ++ ay (List.replicate 32 0))) : r.le (.agg 36 (Rcd.row vJ)) := by
 rw [h]; refine fM ?_; exact ⟨D.le.refl _, D.le.refl _, D.le.refl _, cd 0 1 true, leL.refl _⟩
def n9 (k : UInt8) (n : Int) (L : List UInt8) (i : Nat) : List D := [.v (.bool true), .v (.int .u8 (k.toNat : Int)), .v (.int .i64 n), .list 0 [] true] ++ ay (L.take i ++ List.replicate (32 - i) 0)
theorem Fb (k : UInt8) (n : Int) {L : List UInt8} {i : Nat} {y : UInt8} (hL : L.length = 32) (hy : L[i]? = some y) : (n9 k n L i).set (4 + i) (aG y) = n9 k n L (i + 1) := by
 have hi : i < 32 := by have := (List.getElem?_eq_some_iff.1 hy).1; omega
 unfold n9; rw [List.set_append_right _ _ (by simp)]
 congr 1
 simp only [List.length_cons, List.length_nil, Nat.zero_add, Nat.reduceAdd, Nat.add_sub_cancel_left]; unfold ay; rw [← List.map_set]
 congr 1
 rw [List.take_add_one, hy, List.set_append_right _ _ (by rw [List.length_take]; omega), show 32 - i = (32 - (i + 1)) + 1 by omega, List.replicate_succ]; have hmin : i - (List.take i L).length = 0 := by simp only [List.length_take]; omega
 rw [hmin, List.set_cons_zero]; simp
theorem Fx {k : UInt8} {n : Int} {L : List UInt8} {i l : Nat} {y : UInt8} {h : List (Nat × Blk)} (hL : L.length = 32) (hy : L[i]? = some y) (hl : look h l = some ⟨36, [(n9 k n L i).map V.d]⟩) : db Tryd.prog h 5 (.ref l 0 (4 + i)) (.d (aG y)) = some (.upd l ⟨36, [(n9 k n L (i + 1)).map V.d]⟩) := by
 have hi : i < 32 := by have := (List.getElem?_eq_some_iff.1 hy).1; omega
 have h1 : ((n9 k n L i).map V.d).set (4 + i) (V.d (aG y)) = (n9 k n L (i + 1)).map V.d := by
  rw [← List.map_set, Fb k n hL hy]
 have hc : fZ (.d (aG y)) = some (1, [.d (aG y)]) := rfl; simp only [db, hl, Option.bind_some, List.getElem?_cons_zero, cc, hc, sz5]; rw [if_pos ⟨trivial, by omega⟩, if_neg (by omega), if_pos trivial, h1]; rfl
set_option maxHeartbeats 4000000 in
theorem DO (b : List UInt8) (hb : b.length ≤ 1000000) : aj Tryd.prog HG 28 [.list 1 (b.map ai) false] (.agg 36 (Rcd.row (uB b))) := by
 unfold uB; by_cases c1 : b.length < 41
 ·rw [if_pos c1]; refine aj.of Tryd.func28 rfl Tryd.ntmps28 (by simp) ?_; intro F hF h0 hT; simp only [List.zipIdx_cons, List.zipIdx_nil, List.map_cons, List.map_nil, Nat.zero_add, Nat.reduceAdd]; refine Sm.seq ?_; refine ab hF rfl ?_; refine SmG.new hF rfl rfl rfl (aF rfl A7) ?_; refine SmG.nil (aa (Sm.seq (Sm.seq ?_))); refine ab hF rfl ?_; refine gv hF oM ?_; refine gv hF (aJ rfl rfl (by simp (disch := omega) only [go_sem, Nat.reduceEqDiff, aE, ac] <;> rfl)) ?_; refine gv hF (ah rfl rfl rfl (by exact eg _ _ _ _ _ (by omega))) ?_; refine SmG.nil (aa ?_); refine aZ hF rfl ?_; refine Sm.seq ?_; refine ab hF rfl ?_; refine gv hF (cV rfl Tryd.underlying64 (by kernel_rfl) rfl ve) ?_; refine SmG.store hF rfl rfl rfl rfl rfl (fc gu rfl rfl) ?_; refine SmG.nil (aa (Sm.ret ?_)); simp only [a9, bQ]; refine cG rfl rfl (gz gu mL rfl) ?_; exact mB _ rfl
 rw [if_neg c1]; obtain ⟨E, hE⟩ : ∃ E, b.length = E + 32 := ⟨b.length - 32, by omega⟩
 have hE2 : (b.length : Int) - 32 = (E : Int) := by omega
 have hE3 : b.length - 32 = E := by omega
 have hlb : (b.take E).length = E := by simp; omega
 have hlt : (b.drop E).length = 32 := by simp; omega
 rw [hE3]; have csum := pY (b.take E) (by omega) HG; obtain ⟨sx, hsx⟩ : ∃ sx : Vec 32, sx.l = Sha.sum (b.take E) := ⟨cu _, rfl⟩
 rw [← hsx] at csum ⊢; have hsl := sx.h; have hrl : (ay sx.l).length = 32 := cM hsl; have hch : fg 1 32 (ay sx.l) = sx.l.map ai := by
  have := kg (ay sx.l); rw [hrl] at this; rw [this]; simp [ay, ai]
 have htk : (sx.l.map ai).take 32 = sx.l.map ai := List.take_of_length_le (by simp [hsl]); refine aj.of Tryd.func28 rfl Tryd.ntmps28 (by simp) ?_; intro F hF h0 hT; simp only [List.zipIdx_cons, List.zipIdx_nil, List.map_cons, List.map_nil, Nat.zero_add, Nat.reduceAdd]; refine Sm.seq ?_; refine ab hF rfl ?_; refine SmG.new hF rfl rfl rfl (aF rfl A7) ?_; refine SmG.nil (aa (Sm.seq (Sm.seq ?_))); refine ab hF rfl ?_; refine gv hF oM ?_; refine gv hF (aJ rfl rfl (by simp (disch := omega) only [go_sem, Nat.reduceEqDiff, aE, ac, ← List.map_take, ← List.map_drop] <;> rfl)) ?_; refine gv hF (ah rfl rfl rfl (by exact eL _ _ _ _ _ (by omega))) ?_; refine SmG.nil (aa ?_); refine aS hF rfl ?_; refine Sm.skip ?_; refine aa (Sm.seq ?_); refine ab hF rfl ?_; refine gv hF oM ?_; refine gv hF (aJ rfl rfl (by simp (disch := omega) only [go_sem, Nat.reduceEqDiff, aE, ac, ← List.map_take, ← List.map_drop] <;> rfl)) ?_; refine gv hF (ah rfl rfl rfl ((gO _ _ _ _ _ (aY _ (by omega))).trans (by rw [hE2]))) ?_; refine gv hF oA (SmG.nil (aa (Sm.seq ?_))); refine ab hF rfl ?_; refine gv hF oM (gv hF oM ?_); refine gv hF (bB rfl rfl rfl rfl rfl (by simp (disch := omega) only [go_sem, Nat.reduceEqDiff, aE, ac, ← List.map_take, ← List.map_drop] <;> rfl)) ?_; refine SmG.call hF rfl rfl (by kernel_rfl) rfl rfl rfl (csum) ?_; refine SmG.new hF rfl rfl rfl (aF rfl lM) ?_; refine SmG.store hF rfl rfl rfl rfl rfl (by simp (disch := omega) only [go_sem, Nat.reduceEqDiff, aE, ac, ← List.map_take, ← List.map_drop] <;> rfl) ?_; refine SmG.nil (aa (Sm.seq (Sm.seq ?_))); simp only [rep, Nat.zero_add, Nat.reduceEqDiff, if_true, if_false]; refine Sm.freeze (l := 1) [ay sx.l] rfl ?_; simp only [Pk.v, cN, bc, bK,  reduceIte, Nat.reduceAdd, Nat.zero_add, List.length_map, List.length_append, Nat.le_refl, true_and, and_self, if_true, Nat.reduceEqDiff, true_and]; refine eQ hF (by kernel_rfl) rfl 7 (by kernel_rfl) (by kernel_rfl) ?_; simp only [List.take_succ_cons, List.take_zero, List.take_nil]; refine hv hF (bB rfl rfl rfl rfl rfl (by simp (disch := omega) only [go_sem, Nat.reduceEqDiff, aE, ac, ← List.map_take, ← List.map_drop, hch, htk, iI] <;> rfl)) ?_
 refine hv hF (cq rfl rfl (by simp (disch := omega) only [go_sem, Nat.reduceEqDiff, aE, ac, ← List.map_take, ← List.map_drop, hch, htk, iI] <;> rfl)) ?_; refine hv hF oM (hv hF oM ?_); refine hv hF (bB rfl rfl rfl rfl rfl (by simp (disch := omega) only [go_sem, Nat.reduceEqDiff, aE, ac, ← List.map_take, ← List.map_drop, hch, htk, iI] <;> rfl)) ?_; refine hv hF (cq rfl rfl (by simp (disch := omega) only [go_sem, Nat.reduceEqDiff, aE, ac, ← List.map_take, ← List.map_drop, hch, htk, iI] <;> rfl)) ?_; refine au.v (x := .d (.v (.bool (sx.l != b.drop E)))) hF rfl rfl rfl (ah rfl rfl rfl (DH rfl)) ?_; refine au.last ⟨rfl, ?_⟩; simp only [List.drop_succ_cons, List.drop_zero, List.drop_nil, List.nil_append, List.cons_append]; refine SmG.nil (aa ?_); by_cases hs : sx.l = b.drop E
 case neg =>
  rw [if_pos (by exact hs), show (sx.l != b.drop E) = true by simp [hs]]; refine aZ hF rfl ?_; refine Sm.seq ?_; refine ab hF rfl ?_; refine gv hF (cV rfl Tryd.underlying64 (by kernel_rfl) rfl ve) ?_; refine SmG.store hF rfl rfl rfl rfl rfl (fc gu rfl rfl) ?_; refine SmG.nil (aa (Sm.ret ?_)); simp only [a9, bQ]; refine cG rfl rfl (gz gu mL rfl) ?_; exact mB _ rfl
 rw [if_neg (by simp [hs]), show (sx.l != b.drop E) = false by simp [hs]]; obtain ⟨kind, hk⟩ : ∃ kind, b[0]? = some kind := ⟨b[0]'(by omega), List.getElem?_eq_getElem (by omega)⟩
 have hkB : (b.take E).getD 0 0 = kind := by
  have : (b.take E)[0]? = some kind := by rw [List.getElem?_take]; simp [hk]; omega
  simp [List.getD_eq_getElem?_getD, this]
 have e1 : (b.take 5).drop 1 = ((b.take E).drop 1).take 4 := by
  rw [List.drop_take, List.drop_take, List.take_take]; congr 1; omega
 have e5 : (b.take 9).drop 5 = ((b.take E).drop 5).take 4 := by
  rw [List.drop_take, List.drop_take, List.take_take]; congr 1; omega
 have h1 : ((b.take 5).drop 1).length = 4 := by simp; omega
 have h5 : ((b.take 9).drop 5).length = 4 := by simp; omega
 unfold mo; rw [hkB, ← e1, ← e5, hlb]; have cr1 := DP _ h1; have cr5 := DP _ h5; generalize hl1 : (b.take 5).drop 1 = l1 at cr1 h1; generalize hl5 : (b.take 9).drop 5 = l5 at cr5 h5; have hm1 : List.drop 1 (List.take (Int.toNat 5) b) = l1 := hl1; have hm5 : List.drop (Int.toNat 5) (List.take (Int.toNat 9) b) = l5 := hl5; refine aS hF rfl ?_; refine Sm.skip ?_; refine aa (Sm.seq ?_); refine du hF rfl ?_; refine gT hF rfl 0 9 (by kernel_rfl) ?_; simp only [List.take_succ_cons, List.take_zero, List.take_nil, List.drop_succ_cons, List.drop_zero, Nat.reduceSub]; refine hv hF oM ?_; refine hv hF (ak rfl rfl rfl (by simp (disch := omega) only [go_sem, Nat.reduceEqDiff, aE, ac, ← List.map_take, ← List.map_drop, hk, ai, aG, hm1, hm5] <;> rfl)) ?_; refine hv hF (ae rfl rfl (by simp (disch := omega) only [go_sem, Nat.reduceEqDiff, aE, ac, ← List.map_take, ← List.map_drop, hk, ai, aG, hm1, hm5] <;> rfl)) ?_; refine hv hF oM ?_; refine hv hF (bB rfl rfl rfl rfl rfl (by simp (disch := omega) only [go_sem, Nat.reduceEqDiff, aE, ac, ← List.map_take, ← List.map_drop, hk, ai, aG, hm1, hm5] <;> rfl)) ?_; refine au.c hF rfl rfl (by kernel_rfl) rfl rfl rfl (cr1) ?_; refine hv hF (cV rfl Tryd.underlying64 (by kernel_rfl) rfl (jS (n := 36) Kc JL rfl (by repeat' first | apply wu rfl rfl (by first | rfl | simp [ay, ac, ← List.map_take, ← List.map_drop, hk, ai, aG, hm1, hm5]) | apply wq rfl rfl rfl (by first | assumption | simp [ay, ac, ← List.map_take, ← List.map_drop, hk, ai, aG, hm1, hm5]) | (apply FQ; simp only [List.set_cons_succ, List.set_cons_zero, List.take_succ_cons, List.take_zero, List.drop_succ_cons, List.drop_zero, List.drop_nil, List.cons_append, List.nil_append, List.append_nil, ac, ← List.map_take, ← List.map_drop, hk, ai, aG, hm1, hm5] <;> rfl)))) ?_; refine au.new hF rfl rfl rfl rfl A7 ?_; refine au.st hF rfl rfl rfl rfl rfl rfl (fc gu rfl rfl) ?_; refine au.last ?_; simp only [List.nil_append, List.cons_append]; refine SmA.nil (Nat.le_of_ble_eq_true rfl) ?_; refine aa (Sm.seq (Sm.seq ?_))
 by_cases k80 : kind.toNat = 80
 ·by_cases cn : be l5 + 9 = E
  ·by_cases cl : E ≤ 65545
   ·rw [if_pos ⟨k80, cn, cl⟩]; have hx : (b.take E).drop 9 = (b.take E).drop 9 := rfl; have hxl : ((b.take E).drop 9).length ≤ 1000000 := by simp; omega
    have csx := pY _ hxl HG; have hnil : List.drop (Int.toNat 9) (List.take E b) = (b.take E).drop 9 := rfl; generalize (b.take E).drop 9 = x at hxl csx hnil; obtain ⟨sv, hsv, hsv2⟩ : ∃ sv : Vec 32, sv.l = Sha.sum x ∧ sv = cu x := ⟨cu x, rfl, rfl⟩
    rw [← hsv] at csx; rw [← hsv2]; refine ab hF rfl ?_; refine gv hF oM ?_; refine gv hF (ak rfl rfl rfl (by simp (disch := omega) only [go_sem, Nat.reduceEqDiff, aE, ac, ← List.map_take, ← List.map_drop, hk, ai, aG, hm5] <;> rfl)) ?_; refine gv hF (ae rfl rfl (by simp (disch := omega) only [go_sem, Nat.reduceEqDiff, aE, ac, ← List.map_take, ← List.map_drop, hk, ai, aG, hm5] <;> rfl)) ?_; refine gv hF (ah rfl rfl rfl (by exact dL _ _ _ _ _ (by omega))) ?_; refine gv hF oM ?_; refine gv hF oM ?_; refine gv hF (bB rfl rfl rfl rfl rfl (by simp (disch := omega) only [go_sem, Nat.reduceEqDiff, aE, ac, ← List.map_take, ← List.map_drop, hk, ai, aG, hm5] <;> rfl)) ?_; refine SmG.call hF rfl rfl (by kernel_rfl) rfl rfl rfl (cr5) ?_; refine gv hF oM ?_; refine gv hF (ah rfl rfl rfl (by exact gO _ _ _ _ _ (aY _ (by omega)))) ?_; refine gv hF (ah rfl rfl rfl (by exact dL _ _ _ _ _ (by omega))) ?_; refine gv hF (aO rfl rfl rfl) ?_; refine gv hF oM ?_; refine gv hF oM ?_; refine gv hF (ah rfl rfl rfl (by exact gO _ _ _ _ _ (aY _ (by omega)))) ?_; refine gv hF (ah rfl rfl rfl (by exact rQ _ _ _ _ _ (by omega))) ?_; refine gv hF (aO rfl rfl rfl) ?_; refine SmG.nil (aa ?_); refine aZ hF rfl ?_; refine Sm.seq ?_; refine ab hF rfl ?_; refine gv hF (ba rfl rfl (by simp (disch := omega) only [go_sem, Nat.reduceEqDiff, aE, ac, ← List.map_take, ← List.map_drop, hnil, List.append_nil] <;> rfl)) ?_; refine gv hF oM (gv hF oM ?_); refine gv hF (bB rfl rfl rfl rfl rfl (by simp (disch := omega) only [go_sem, Nat.reduceEqDiff, aE, ac, ← List.map_take, ← List.map_drop, hnil, List.append_nil] <;> rfl)) ?_; refine SmG.append hF kz rfl rfl rfl rfl rfl rfl (Or.inr rfl) (Or.inl rfl) (by simp; omega) (by simp; omega) ?_; refine gv hF (ag rfl rfl (by simp (disch := omega) only [go_sem, Nat.reduceEqDiff, aE, ac, ← List.map_take, ← List.map_drop, hnil, List.append_nil] <;> rfl)) ?_; refine SmG.store hF rfl rfl rfl rfl rfl (by simp (disch := omega) only [go_sem, Nat.reduceEqDiff, aE, ac, ← List.map_take, ← List.map_drop, hnil, List.append_nil] <;> rfl) ?_
    refine SmG.nil (aa (Sm.seq ?_)); refine ab hF rfl ?_; refine gv hF (ag rfl rfl (by simp (disch := omega) only [go_sem, Nat.reduceEqDiff, aE, ac, ← List.map_take, ← List.map_drop, hnil, List.append_nil] <;> rfl)) ?_; refine gv hF (ae rfl rfl (by simp (disch := omega) only [go_sem, Nat.reduceEqDiff, aE, ac, ← List.map_take, ← List.map_drop, hnil, List.append_nil] <;> rfl)) ?_; refine SmG.call hF rfl rfl (by kernel_rfl) rfl rfl rfl (csx) ?_; refine gv hF (ag rfl rfl (by simp (disch := omega) only [go_sem, Nat.reduceEqDiff, aE, ac, ← List.map_take, ← List.map_drop, hnil, List.append_nil] <;> rfl)) ?_; refine SmG.store hF rfl rfl rfl rfl rfl (by simp (disch := omega) only [go_sem, Nat.reduceEqDiff, aE, ac, ← List.map_take, ← List.map_drop, hnil, List.append_nil] <;> rfl) ?_; refine SmG.nil (aa (Sm.seq ?_)); refine Sm.to (cQ (st' := ⟨[(2, .ref 0 0 0), (5, .ref 2 0 0)], [(2, ⟨36, [(Rcd.row ⟨true, kind, (be l1 : Nat), x, sv⟩).map V.d]⟩), (0, ⟨36, [([.v (.bool false), .v (.int .u8 0), .v (.int .i64 0), .list 0 [] true] ++ List.replicate 32 (.v (.int .u8 0)) : List D).map V.d]⟩)], 3⟩) (aK ⟨rfl, rfl, trivial⟩ ⟨rfl, rfl, trivial⟩ (Nat.le_refl _))) ?_; refine ab hF rfl ?_; refine gv hF (ae rfl rfl (gz gu mL rfl)) ?_; refine SmG.store hF rfl rfl rfl rfl rfl (fc gu rfl rfl) ?_; refine SmG.nil (aa (Sm.ret ?_)); simp only [a9, bQ]; exact cG rfl rfl (gz gu mL rfl) (D.le.refl _)
   ·rw [if_neg (by omega), if_neg (by omega)]; refine ab hF rfl ?_; refine gv hF oM ?_; refine gv hF (ak rfl rfl rfl (by simp (disch := omega) only [go_sem, Nat.reduceEqDiff, aE, ac, ← List.map_take, ← List.map_drop, hk, ai, aG, hm5] <;> rfl)) ?_; refine gv hF (ae rfl rfl (by simp (disch := omega) only [go_sem, Nat.reduceEqDiff, aE, ac, ← List.map_take, ← List.map_drop, hk, ai, aG, hm5] <;> rfl)) ?_; refine gv hF (ah rfl rfl rfl (by exact dL _ _ _ _ _ (by omega))) ?_; refine gv hF oM ?_; refine gv hF oM ?_; refine gv hF (bB rfl rfl rfl rfl rfl (by simp (disch := omega) only [go_sem, Nat.reduceEqDiff, aE, ac, ← List.map_take, ← List.map_drop, hk, ai, aG, hm5] <;> rfl)) ?_; refine SmG.call hF rfl rfl (by kernel_rfl) rfl rfl rfl (cr5) ?_; refine gv hF oM ?_; refine gv hF (ah rfl rfl rfl (by exact gO _ _ _ _ _ (aY _ (by omega)))) ?_; refine gv hF (ah rfl rfl rfl (by exact dL _ _ _ _ _ (by omega))) ?_; refine gv hF (aO rfl rfl rfl) ?_; refine gv hF oM ?_; refine gv hF oM ?_; refine gv hF (ah rfl rfl rfl (by exact gO _ _ _ _ _ (aY _ (by omega)))) ?_; refine gv hF (ah rfl rfl rfl (by exact vI _ _ _ _ _ (by omega))) ?_; refine gv hF (aO rfl rfl rfl) ?_; refine SmG.nil (aa ?_); refine aS hF rfl ?_; refine Sm.skip ?_; refine aa (Sm.seq (Sm.seq ?_)); refine ab hF rfl ?_; refine gv hF oM ?_; refine gv hF (ak rfl rfl rfl (by simp (disch := omega) only [go_sem, Nat.reduceEqDiff, aE, ac, ← List.map_take, ← List.map_drop, hk, ai, aG, hm5] <;> rfl)) ?_; refine gv hF (ae rfl rfl (by simp (disch := omega) only [go_sem, Nat.reduceEqDiff, aE, ac, ← List.map_take, ← List.map_drop, hk, ai, aG, hm5] <;> rfl)) ?_; refine gv hF (ah rfl rfl rfl (by exact mA _ _ _ _ _ (by omega))) ?_; refine gv hF oM ?_; refine gp hF ?_; refine gp hF ?_; refine gv hF (aO rfl rfl rfl) ?_; refine SmG.nil (aa ?_); refine aZ hF rfl ?_; refine Sm.seq ?_; refine ab hF rfl ?_; refine gv hF (cV rfl Tryd.underlying64 (by kernel_rfl) rfl ve) ?_; refine SmG.store hF rfl rfl rfl rfl rfl (fc gu rfl rfl) ?_; refine SmG.nil (aa (Sm.ret ?_))
    simp only [a9, bQ]; refine cG rfl rfl (gz gu mL rfl) (mB _ rfl)
  ·rw [if_neg (by omega), if_neg (by omega)]; refine ab hF rfl ?_; refine gv hF oM ?_; refine gv hF (ak rfl rfl rfl (by simp (disch := omega) only [go_sem, Nat.reduceEqDiff, aE, ac, ← List.map_take, ← List.map_drop, hk, ai, aG, hm5] <;> rfl)) ?_; refine gv hF (ae rfl rfl (by simp (disch := omega) only [go_sem, Nat.reduceEqDiff, aE, ac, ← List.map_take, ← List.map_drop, hk, ai, aG, hm5] <;> rfl)) ?_; refine gv hF (ah rfl rfl rfl (by exact dL _ _ _ _ _ (by omega))) ?_; refine gv hF oM ?_; refine gv hF oM ?_; refine gv hF (bB rfl rfl rfl rfl rfl (by simp (disch := omega) only [go_sem, Nat.reduceEqDiff, aE, ac, ← List.map_take, ← List.map_drop, hk, ai, aG, hm5] <;> rfl)) ?_; refine SmG.call hF rfl rfl (by kernel_rfl) rfl rfl rfl (cr5) ?_; refine gv hF oM ?_; refine gv hF (ah rfl rfl rfl (by exact gO _ _ _ _ _ (aY _ (by omega)))) ?_; refine gv hF (ah rfl rfl rfl (by exact jv _ _ _ _ _ (by omega))) ?_; refine gv hF (aO rfl rfl rfl) ?_; refine gv hF oM ?_; refine gp hF ?_; refine gp hF ?_; refine gp hF ?_; refine gv hF (aU rfl rfl rfl) ?_; refine SmG.nil (aa ?_); refine aS hF rfl ?_; refine Sm.skip ?_; refine aa (Sm.seq (Sm.seq ?_)); refine ab hF rfl ?_; refine gv hF oM ?_; refine gv hF (ak rfl rfl rfl (by simp (disch := omega) only [go_sem, Nat.reduceEqDiff, aE, ac, ← List.map_take, ← List.map_drop, hk, ai, aG, hm5] <;> rfl)) ?_; refine gv hF (ae rfl rfl (by simp (disch := omega) only [go_sem, Nat.reduceEqDiff, aE, ac, ← List.map_take, ← List.map_drop, hk, ai, aG, hm5] <;> rfl)) ?_; refine gv hF (ah rfl rfl rfl (by exact mA _ _ _ _ _ (by omega))) ?_; refine gv hF oM ?_; refine gp hF ?_; refine gp hF ?_; refine gv hF (aO rfl rfl rfl) ?_; refine SmG.nil (aa ?_); refine aZ hF rfl ?_; refine Sm.seq ?_; refine ab hF rfl ?_; refine gv hF (cV rfl Tryd.underlying64 (by kernel_rfl) rfl ve) ?_; refine SmG.store hF rfl rfl rfl rfl rfl (fc gu rfl rfl) ?_; refine SmG.nil (aa (Sm.ret ?_)); simp only [a9, bQ]; refine cG rfl rfl (gz gu mL rfl) (mB _ rfl)
 ·by_cases k68 : kind.toNat = 68
  ·by_cases c37 : E = 37
   ·rw [if_neg (by omega), if_pos ⟨k68, c37⟩]; have hL : ((b.take E).drop 5).length = 32 := by simp; omega
    have hLi : ∀ i, i < 32 → b[5 + i]? = ((b.take E).drop 5)[i]? := fun i hi => by
     rw [List.getElem?_drop, List.getElem?_take, if_pos (by omega)]
    generalize (b.take E).drop 5 = L at hL hLi; refine ab hF rfl ?_; refine gv hF oM ?_; refine gv hF (ak rfl rfl rfl (by simp (disch := omega) only [go_sem, Nat.reduceEqDiff, aE, ac, ← List.map_take, ← List.map_drop, hk, ai, aG, hm5] <;> rfl)) ?_; refine gv hF (ae rfl rfl (by simp (disch := omega) only [go_sem, Nat.reduceEqDiff, aE, ac, ← List.map_take, ← List.map_drop, hk, ai, aG, hm5] <;> rfl)) ?_; refine gv hF (ah rfl rfl rfl (by exact jv _ _ _ _ _ (by omega))) ?_; refine gv hF oM ?_; refine gp hF ?_; refine gp hF ?_; refine gp hF ?_; refine gp hF ?_; refine gp hF ?_; refine gp hF ?_; refine gv hF (aU rfl rfl rfl) ?_; refine gv hF oM ?_; refine gp hF ?_; refine gp hF ?_; refine gp hF ?_; refine gv hF (aU rfl rfl rfl) ?_; refine SmG.nil (aa ?_); refine aS hF rfl ?_; refine Sm.skip ?_; refine aa (Sm.seq (Sm.seq ?_)); refine ab hF rfl ?_; refine gv hF oM ?_; refine gv hF (ak rfl rfl rfl (by simp (disch := omega) only [go_sem, Nat.reduceEqDiff, aE, ac, ← List.map_take, ← List.map_drop, hk, ai, aG, hm5] <;> rfl)) ?_; refine gv hF (ae rfl rfl (by simp (disch := omega) only [go_sem, Nat.reduceEqDiff, aE, ac, ← List.map_take, ← List.map_drop, hk, ai, aG, hm5] <;> rfl)) ?_; refine gv hF (ah rfl rfl rfl (by exact iM _ _ _ _ _ (by omega))) ?_; refine gv hF oM ?_; refine gv hF oM ?_; refine gv hF (ah rfl rfl rfl (by exact iM _ _ _ _ _ (by omega))) ?_; refine gv hF (aU rfl rfl rfl) ?_; refine SmG.nil (aa ?_); refine aS hF rfl ?_; refine Sm.skip ?_; refine aa (Sm.seq (Sm.seq ?_)); refine Sm.to (cQ (st' := ⟨[(0, .d (.list 1 (b.map ai) false)), (2, .ref 0 0 0), (5, .ref 2 0 0)], [(2, ⟨36, [(n9 kind (be l1 : Nat) L 0).map V.d]⟩), (0, ⟨36, [([.v (.bool false), .v (.int .u8 0), .v (.int .i64 0), .list 0 [] true] ++ List.replicate 32 (.v (.int .u8 0)) : List D).map V.d]⟩)], 3⟩) (aK ⟨rfl, rfl, rfl, trivial⟩ ⟨rfl, rfl, trivial⟩ (Nat.le_refl _))) ?_; refine ab hF rfl ?_; refine gv hF oA (SmG.nil (aa (Sm.block ?_))); refine Sm.loop (ι := {i : Nat // i ≤ 32}) (fun i => ⟨[(0, .d (.list 1 (b.map ai) false)), (2, .ref 0 0 0), (5, .ref 2 0 0), (6, .d (.v (.int .i64 i.1)))], [(2, ⟨36, [(n9 kind (be l1 : Nat) L i.1).map V.d]⟩), (0, ⟨36, [([.v (.bool false), .v (.int .u8 0), .v (.int .i64 0), .list 0 [] true] ++ List.replicate 32 (.v (.int .u8 0)) : List D).map V.d]⟩)], 3⟩) (fun i => 32 - i.1) (⟨0, by omega⟩) ?_ ?_
    ·exact aK ⟨rfl, rfl, rfl, rfl, trivial⟩ ⟨rfl, rfl, trivial⟩ (Nat.le_refl _)
    rintro ⟨i, hi⟩; simp only; by_cases hlt : i < 32
    ·obtain ⟨y, hy⟩ : ∃ y, L[i]? = some y := ⟨L[i]'(by omega), List.getElem?_eq_getElem (by omega)⟩
     have hby : b[5 + i]? = some y := by rw [hLi i hlt, hy]
     have h5i : (5 : Int) + (i : Int) = ((5 + i : Nat) : Int) := by omega
     refine Sm.seq (Sm.seq ?_); refine ab hF rfl ?_; refine gv hF oM ?_; refine gv hF (ah rfl rfl rfl (by exact eg _ _ _ _ _ (by omega))) ?_; refine SmG.nil (aa ?_); refine aZ hF rfl ?_; refine Sm.skip ?_; refine aa (Sm.seq (Sm.block ?_)); refine ab hF rfl ?_; refine gv hF oM (gv hF oM (gv hF oM ?_)); refine gv hF (ah rfl rfl rfl ((eH _ _ _ _ _ (aY _ (by omega))).trans (by rw [h5i]))) ?_; refine gv hF (ak rfl rfl rfl (by simp (disch := omega) only [go_sem, Nat.reduceEqDiff, aE, hby, ai, aG] <;> rfl)) ?_; refine gv hF (ae rfl rfl (by simp (disch := omega) only [go_sem, Nat.reduceEqDiff, aE, hby, ai, aG] <;> rfl)) ?_; refine gv hF (ag rfl rfl (by simp (disch := omega) only [go_sem, Nat.reduceEqDiff, aE, hby, ai, aG] <;> rfl)) ?_; refine gv hF (ak rfl rfl rfl (by simp (disch := omega) only [go_sem, Nat.reduceEqDiff, aE, hby, ai, aG] <;> rfl)) ?_; refine SmG.store hF rfl rfl rfl rfl rfl (Fx hL hy rfl) ?_; refine SmG.nil (aI (aa ?_)); refine ab hF rfl ?_; refine gv hF oM ?_; refine gv hF (ah rfl rfl rfl (by exact eH _ _ _ _ _ (aY _ (by omega)))) ?_; refine gv hF oA (SmG.nil (aa ?_)); exact ⟨⟨i + 1, by omega⟩, by show 32 - (i + 1) < 32 - i; omega, aK ⟨rfl, rfl, rfl, rfl, trivial⟩ ⟨rfl, rfl, trivial⟩ (Nat.le_refl _)⟩
    ·obtain rfl : i = 32 := by omega
     refine Sm.seq (Sm.seq ?_); refine ab hF rfl ?_; refine gv hF oM ?_; refine gv hF (ah rfl rfl rfl (by exact eL _ _ _ _ _ (by omega))) ?_; refine SmG.nil (aa ?_); refine aS hF rfl ?_; refine Sm.exit ?_; simp only [a9, bQ, reduceIte, reduceCtorEq]; refine Sm.seq ?_; refine ab hF rfl ?_; refine gv hF (ae rfl rfl (gz gu mL rfl)) ?_; refine SmG.store hF rfl rfl rfl rfl rfl (fc gu rfl rfl) ?_; refine SmG.nil (aa (Sm.ret ?_)); refine cG rfl rfl (gz gu mL rfl) ?_; have hv : (rZ L).l = L := by unfold rZ; rw [dif_pos hL]
     refine fM ?_; simp only [n9, Rcd.row, hv, Nat.sub_self, List.replicate_zero, List.append_nil, List.take_of_length_le (Nat.le_of_eq hL)]; exact ⟨D.le.refl _, D.le.refl _, D.le.refl _, cd 0 1 true, leL.refl _⟩
   ·rw [if_neg (by omega), if_neg (by omega)]; refine ab hF rfl ?_; refine gv hF oM ?_; refine gv hF (ak rfl rfl rfl (by simp (disch := omega) only [go_sem, Nat.reduceEqDiff, aE, ac, ← List.map_take, ← List.map_drop, hk, ai, aG, hm5] <;> rfl)) ?_; refine gv hF (ae rfl rfl (by simp (disch := omega) only [go_sem, Nat.reduceEqDiff, aE, ac, ← List.map_take, ← List.map_drop, hk, ai, aG, hm5] <;> rfl)) ?_; refine gv hF (ah rfl rfl rfl (by exact jv _ _ _ _ _ (by omega))) ?_; refine gv hF oM ?_; refine gp hF ?_; refine gp hF ?_; refine gp hF ?_; refine gp hF ?_; refine gp hF ?_; refine gp hF ?_; refine gv hF (aU rfl rfl rfl) ?_; refine gv hF oM ?_; refine gp hF ?_; refine gp hF ?_; refine gp hF ?_; refine gv hF (aU rfl rfl rfl) ?_; refine SmG.nil (aa ?_); refine aS hF rfl ?_; refine Sm.skip ?_; refine aa (Sm.seq (Sm.seq ?_)); refine ab hF rfl ?_; refine gv hF oM ?_; refine gv hF (ak rfl rfl rfl (by simp (disch := omega) only [go_sem, Nat.reduceEqDiff, aE, ac, ← List.map_take, ← List.map_drop, hk, ai, aG, hm5] <;> rfl)) ?_; refine gv hF (ae rfl rfl (by simp (disch := omega) only [go_sem, Nat.reduceEqDiff, aE, ac, ← List.map_take, ← List.map_drop, hk, ai, aG, hm5] <;> rfl)) ?_; refine gv hF (ah rfl rfl rfl (by exact iM _ _ _ _ _ (by omega))) ?_; refine gv hF oM ?_; refine gv hF oM ?_; refine gv hF (ah rfl rfl rfl (by exact mA _ _ _ _ _ (by omega))) ?_; refine gv hF (aU rfl rfl rfl) ?_; refine SmG.nil (aa ?_); refine aZ hF rfl ?_; refine Sm.seq ?_; refine ab hF rfl ?_; refine gv hF (cV rfl Tryd.underlying64 (by kernel_rfl) rfl ve) ?_; refine SmG.store hF rfl rfl rfl rfl rfl (fc gu rfl rfl) ?_; refine SmG.nil (aa (Sm.ret ?_)); simp only [a9, bQ]; refine cG rfl rfl (gz gu mL rfl) (mB _ rfl)
  ·rw [if_neg (by omega), if_neg (by omega)]; refine ab hF rfl ?_; refine gv hF oM ?_; refine gv hF (ak rfl rfl rfl (by simp (disch := omega) only [go_sem, Nat.reduceEqDiff, aE, ac, ← List.map_take, ← List.map_drop, hk, ai, aG, hm5] <;> rfl)) ?_; refine gv hF (ae rfl rfl (by simp (disch := omega) only [go_sem, Nat.reduceEqDiff, aE, ac, ← List.map_take, ← List.map_drop, hk, ai, aG, hm5] <;> rfl)) ?_; refine gv hF (ah rfl rfl rfl (by exact jv _ _ _ _ _ (by omega))) ?_; refine gv hF oM ?_; refine gp hF ?_; refine gp hF ?_; refine gp hF ?_; refine gp hF ?_; refine gp hF ?_; refine gp hF ?_; refine gv hF (aU rfl rfl rfl) ?_; refine gv hF oM ?_; refine gp hF ?_; refine gp hF ?_; refine gp hF ?_; refine gv hF (aU rfl rfl rfl) ?_; refine SmG.nil (aa ?_); refine aS hF rfl ?_; refine Sm.skip ?_; refine aa (Sm.seq (Sm.seq ?_)); refine ab hF rfl ?_; refine gv hF oM ?_; refine gv hF (ak rfl rfl rfl (by simp (disch := omega) only [go_sem, Nat.reduceEqDiff, aE, ac, ← List.map_take, ← List.map_drop, hk, ai, aG, hm5] <;> rfl)) ?_; refine gv hF (ae rfl rfl (by simp (disch := omega) only [go_sem, Nat.reduceEqDiff, aE, ac, ← List.map_take, ← List.map_drop, hk, ai, aG, hm5] <;> rfl)) ?_; refine gv hF (ah rfl rfl rfl (by exact mA _ _ _ _ _ (by omega))) ?_; refine gv hF oM ?_; refine gp hF ?_; refine gp hF ?_; refine gv hF (aO rfl rfl rfl) ?_; refine SmG.nil (aa ?_); refine aZ hF rfl ?_; refine Sm.seq ?_; refine ab hF rfl ?_; refine gv hF (cV rfl Tryd.underlying64 (by kernel_rfl) rfl ve) ?_; refine SmG.store hF rfl rfl rfl rfl rfl (fc gu rfl rfl) ?_; refine SmG.nil (aa (Sm.ret ?_)); simp only [a9, bQ]; refine cG rfl rfl (gz gu mL rfl) (mB _ rfl)
end
section
theorem DZ (x : Ob) : seg (List.drop 0 x.row) (33 - 0) 0 32 = ay x.sum.l := by
 unfold seg; rw [if_neg (by decide), List.drop_zero, List.drop_zero, jt]
noncomputable def dk (a0 : List Ob) (a1 : List UInt8) (s1 : Int) : Option (Int ⊕ (Unit ⊕ Int)) :=
 bif (decide (s1 < (a0.length : Int))) then (
  ob (idx a0 s1) fun x6 =>
  ob (vN 32 x6.sum.l) fun x7 =>
  ob (vN 32 a1) fun x8 =>
  bif (x6.sum.l == a1) then (
   some (.inr (.inr s1))
  ) else (
   ob (arI .i64 (s1 + 1)) fun x10 =>
   some (.inl x10)
  )
 ) else (
  some (.inr (.inl ()))
 )
noncomputable def f5 (a0 : List Ob) (a1 : List UInt8) : Option Int :=
 ob ((
  cL (dk a0 a1) 0
  : Option (Unit ⊕ Int))) fun o12 => match o12 with
 | .inl v11 => (
  some (-1)
  )
 | .inr e13 => some e13
set_option maxHeartbeats 4000000 in
theorem pm {a0 : List Ob} {a1 : List UInt8} {r : Int} (h : f5 a0 a1 = some r) : aj Tryd.prog HG 30 [.list 33 (a0.map Ob.row) false, .agg 32 (ay a1)] (.i r) := by
 unfold f5 at h; refine aj.of Tryd.func30 rfl Tryd.ntmps30 (by simp) ?_; intro F hF h0 hT; show Sm F _ _ ⟨[(0, .d (.list 33 (a0.map Ob.row) false)), (1, .d (.agg 32 (ay a1)))], [], 0⟩; refine sr hF ?_; refine oU hF En ?_; refine gv hF oA (sn (Sm.seq ?_)); obtain ⟨o12, ho12, h⟩ := ap h; rcases xK o12 with ⟨e13, rfl⟩ | ⟨v11, rfl⟩
 ·have he13 := aW h; subst he13; replace h := ho12; refine sr hF (gv hF oA (sn (Sm.block ?_))); refine eu (dk a0 a1) (fun s1 => ⟨[(0, .d (.list 33 (a0.map Ob.row) false)), (3, .d (.ptr 32 (ay a1))), (5, .i s1)], [], 0⟩) 0 h (kA) ?_; intro n2 s1 o3 h hd4; unfold dk at h; refine Sm.seq (sr hF (gv hF oM (gv hF oM (gv hF (oN (eD u24)) (gv hF (oB (fR)) (sn ?_)))))); refine cJ hF rfl (fun hc5 => ?_) (fun hc5 => ?_)
  ·replace h := ifF hc5 h; refine Sm.exit ?_; replace h := bU h hd4; cases h
  replace h := ifT hc5 h; refine sk (Sm.seq (Sm.block (Sm.seq ?_))); refine dG hF 6 ?_; refine hv hF oM (hv hF oM ?_); obtain ⟨x6, hx6, h⟩ := ap h; refine hv hF (oI (eC u24 fE hx6)) (hv hF (oF (f7 Db rfl)) (hv hF (x := .d (.agg 32 (ay x6.sum.l))) (oL (jM nT oa rfl (DZ x6))) (hv hF (x := .d (.agg 32 (ay a1))) (oL (jM nT oa rfl rfl)) ?_))); refine hE ?_; obtain ⟨x7, hx7, h⟩ := ap h; obtain ⟨x8, hx8, h⟩ := ap h; refine gv hF (ju rfl rfl rfl (tN (by kernel_rfl) (by kernel_rfl) (uQ hx7) (uQ hx8))) (sn ?_); refine cJ hF rfl (fun hc9 => ?_) (fun hc9 => ?_)
  ·replace h := ifF hc9 h; refine Sm.skip ?_; refine aI (aa ?_); refine ab hF rfl ?_; refine gv hF oM ?_; obtain ⟨x10, hx10, h⟩ := ap h; refine gv hF (oB (dP hx10)) (gv hF oA (SmG.nil ?_)); exact eT (dH h hd4) (kA)
  replace h := ifT hc9 h; refine sr hF (gv hF oM (gv hF oA (sn (Sm.ret ?_)))); replace h := bU h hd4; replace h := rJ h; obtain rfl := aW h; exact kP rfl rfl
 refine gZ ⟨[], [], 0⟩ ?_ ?_
 ·refine Sm.seq ?_; refine ab hF rfl ?_; refine gv hF oA (sn (Sm.ret ?_)); obtain rfl := aW h; exact kP rfl rfl
 replace h := ho12; refine sr hF (gv hF oA (sn (Sm.block ?_))); refine eu (dk a0 a1) (fun s1 => ⟨[(0, .d (.list 33 (a0.map Ob.row) false)), (3, .d (.ptr 32 (ay a1))), (5, .i s1)], [], 0⟩) 0 h (kA) ?_; intro n2 s1 o3 h hd4; unfold dk at h; refine Sm.seq (sr hF (gv hF oM (gv hF oM (gv hF (oN (eD u24)) (gv hF (oB (fR)) (sn ?_)))))); refine cJ hF rfl (fun hc5 => ?_) (fun hc5 => ?_)
 ·replace h := ifF hc5 h; refine Sm.exit ?_; replace h := bU h hd4; obtain rfl := aW (rI h); exact (kA)
 replace h := ifT hc5 h; refine sk (Sm.seq (Sm.block (Sm.seq ?_))); refine dG hF 6 ?_; refine hv hF oM (hv hF oM ?_); obtain ⟨x6, hx6, h⟩ := ap h; refine hv hF (oI (eC u24 fE hx6)) (hv hF (oF (f7 Db rfl)) (hv hF (x := .d (.agg 32 (ay x6.sum.l))) (oL (jM nT oa rfl (DZ x6))) (hv hF (x := .d (.agg 32 (ay a1))) (oL (jM nT oa rfl rfl)) ?_))); refine hE ?_; obtain ⟨x7, hx7, h⟩ := ap h; obtain ⟨x8, hx8, h⟩ := ap h; refine gv hF (ju rfl rfl rfl (tN (by kernel_rfl) (by kernel_rfl) (uQ hx7) (uQ hx8))) (sn ?_); refine eP hF rfl (fun hc9 => ?_) (fun hc9 => ?_)
 ·replace h := ifT hc9 h; refine sr hF (gv hF oM (gv hF oA (sn (Sm.ret ?_)))); replace h := bU h hd4; cases h
 replace h := ifF hc9 h; refine Sm.skip ?_; refine aI (aa ?_); refine ab hF rfl ?_; refine gv hF oM ?_; obtain ⟨x10, hx10, h⟩ := ap h; refine gv hF (oB (dP hx10)) (gv hF oA (SmG.nil ?_)); exact eT (dH h hd4) (kA)
noncomputable def gI (a0 : List Ob) (a1 : Int) : Option (List Ob) :=
 ob (slc a0 0 a1) fun x1 =>
 ob (app ([] : List Ob) x1) fun x2 =>
 ob (arI .i64 (a1 + 1)) fun x3 =>
 ob (slc a0 x3 (a0.length : Int)) fun x4 =>
 ob (app x2 x4) fun x5 =>
 some x5
set_option maxHeartbeats 4000000 in
theorem nb {a0 : List Ob} {a1 : Int} {r : List Ob} (h : gI a0 a1 = some r) : b8 Tryd.prog HG 51 [.list 33 (a0.map Ob.row) false, .i a1] .one 33 (r.map Ob.row) [] := by
 unfold gI at h; refine b8.of Tryd.func51 rfl Tryd.ntmps51 (by simp) ?_; intro F hF h0 hT; show Sm F _ _ ⟨[(0, .d (.list 33 (a0.map Ob.row) false)), (1, .i a1)], [], 0⟩; refine sr hF (gv hF oA (sn (sr hF (gv hF (x := .d (.list 33 (([] : List Ob).map Ob.row) true)) (oS (r7 u24 fE)) (gv hF oM (gv hF oM ?_)))))); obtain ⟨x1, hx1, h⟩ := ap h; refine gv hF (bB rfl rfl rfl rfl rfl (B9 u24 fE hx1)) ?_; obtain ⟨x2, hx2, h⟩ := ap h; refine SmG.appendFreshL hF qQ rfl (ys := x1) (row := Ob.row) rfl rfl rfl rfl rfl rfl rfl (.inl rfl) hx2 ?_; refine gv hF oA (sn (sr hF (gv hF oM (gv hF oM (gv hF oM ?_))))); obtain ⟨x3, hx3, h⟩ := ap h; refine gv hF (oB (dP hx3)) ?_; obtain ⟨x4, hx4, h⟩ := ap h; refine gv hF (bB rfl rfl rfl rfl rfl (Ca u24 fE hx4)) ?_; obtain ⟨x5, hx5, h⟩ := ap h; refine gE hF qQ rfl (ys := x4) (row := Ob.row) rfl rfl rfl rfl rfl rfl rfl rfl (.inl rfl) hx5 (by (repeat' first | exact lI _ | refine kJ ?_ | refine cR ?_ (iJ _ _ _) | refine cR ?_ (iJ _ _ [_]) | refine cR ?_ (mS (by rfl)))) ?_; refine gv hF oA (sn (Sm.ret ?_)); obtain rfl := aW h; exact lj 0 rfl rfl rfl
theorem BA (l : List Ob) (k : Vec 32) (hl : l.length ≤ 4294967296) : f5 l k.l = some (cB l k.l) := by
 unfold f5; refine Ok.get ?_; refine Ok.bind (P := fun o => o = match aM l k.l with | some i => .inr (i : Int) | none => .inl ()) ?_ ?_
 ·refine Ok.loop (fun s : Int => ∃ i : Nat, s = i ∧ i ≤ l.length ∧ ∀ j x, j < i → l[j]? = some x → ¬ (x.sum.l = k.l)) (fun s : Int => l.length - s.toNat) ⟨0, rfl, by omega, fun j x h => by omega⟩ ?_; rintro _ ⟨i, rfl, h1, h2⟩; unfold dk; refine Ok.cond (fun c => ?_) fun c => Ok.ret ?_
  ·simp only [decide_eq_true_eq] at c; have hx : l[i]? = some (l[i]'(by omega)) := List.getElem?_eq_getElem _; generalize l[i]'(by omega) = x at hx; rw [ef, hx, aq, AL x.sum.h, aq, AL k.h, aq]; refine Ok.cond (fun c2 => Ok.ret ?_) fun c2 => ?_
   ·have hf : aM l k.l = some i := by
     unfold aM; rw [List.findIdx?_eq_some_iff_getElem]; refine ⟨by omega, ?_, fun j hj => ?_⟩
     ·rw [List.getElem?_eq_getElem (by omega)] at hx; rw [Option.some.inj hx]; exact c2
     ·have := h2 j _ hj (List.getElem?_eq_getElem (by omega)); simpa using this
    simp only [hf]
   ·rw [bP (by omega), aq]; refine Ok.ret ⟨⟨i + 1, by omega, by omega, fun j y hj hy => ?_⟩, by omega⟩; by_cases e : j = i
    ·subst e; rw [hx] at hy; cases hy; simpa using c2
    ·exact h2 j y (by omega) hy
  ·simp only [decide_eq_false_iff_not] at c; have hf : aM l k.l = none := by
    unfold aM; rw [List.findIdx?_eq_none_iff]; intro x hx; obtain ⟨j, hj, e⟩ := List.getElem_of_mem hx; have := h2 j x (by omega) (by rw [List.getElem?_eq_getElem hj, e]); simpa using this
   simp only [hf]
 ·rintro o rfl; unfold cB; cases aM l k.l <;> exact Ok.ret rfl
theorem yu (l : List Ob) (k : Vec 32) (hl : l.length ≤ 4294967296) : aj Tryd.prog HG 30 [.list 33 (l.map Ob.row) false, .agg 32 (ay k.l)] (.v (.int .i64 (cB l k.l))) := pm (BA l k hl)
theorem sq (l : List Ob) (i : Nat) (hl : l.length ≤ 1000000) (hi : i < l.length) : b8 Tryd.prog HG 51 [.list 33 (l.map Ob.row) false, .v (.int .i64 i)] .one 33 ((l.eraseIdx i).map Ob.row) [] := by
 refine nb (a0 := l) (a1 := (i : Int)) (r := l.eraseIdx i) ?_; unfold gI; rw [j9 (by omega), aq, ey (by simp; omega), aq, bP (by omega), aq, j9 (by omega), aq, ey (by simp; omega), aq]; have e : ((i : Int) + 1).toNat = i + 1 := by omega
 simp [e, List.eraseIdx_eq_take_drop_succ]
end
section
def fj (objs : List Ob) (n : Nat) (r : Rcd) : Option (List Ob) :=
 if r.ok = true ∧ r.n = (n : Int) ∧ (r.kind.toNat = 80 ↔ aM objs r.sum.l = none) ∧ ¬ (r.kind.toNat = 80 ∧ 256 ≤ objs.length) then
  (if r.kind.toNat = 80 then some (objs ++ [⟨r.sum, r.data⟩]) else (aM objs r.sum.l).map fun i => objs.eraseIdx i)
 else none
theorem gc (objs : List Ob) (n : Nat) : fj objs n vJ = none := by
 unfold fj; rw [if_neg]; rintro ⟨h, _⟩; cases h
theorem Fw (objs : List Ob) (n : Nat) (B : List UInt8) (hB : 9 ≤ B.length) : qK objs n B = fj objs n (mo B) := by
 obtain ⟨kind, r1, rfl⟩ : ∃ kind r1, B = kind :: r1 := by
  cases B with
  | nil => simp at hB
  | cons a l => exact ⟨a, l, rfl⟩
 have hr1 : 8 ≤ r1.length := by simp at hB; omega
 have hBl : (kind :: r1).length = r1.length + 1 := rfl; have hk : (kind :: r1).getD 0 0 = kind := rfl; have h5 : (kind :: r1).drop 5 = r1.drop 4 := rfl; have h1 : (kind :: r1).drop 1 = r1 := rfl; have h9 : (kind :: r1).drop 9 = (r1.drop 4).drop 4 := by rw [List.drop_drop]; rfl
 have hG80 : kind.toNat = 80 → be ((r1.drop 4).take 4) + 9 = r1.length + 1 → r1.length + 1 ≤ 65545 → mo (kind :: r1) = ⟨true, kind, (be (r1.take 4) : Nat), (r1.drop 4).drop 4, cu ((r1.drop 4).drop 4)⟩ := fun a b c => by
  unfold mo; rw [hk, h5, h1, h9, hBl, if_pos ⟨a, b, c⟩]
 have hG68 : kind.toNat = 68 → r1.length + 1 = 37 → mo (kind :: r1) = ⟨true, kind, (be (r1.take 4) : Nat), [], rZ (r1.drop 4)⟩ := fun a b => by
  unfold mo; rw [hk, h5, h1, h9, hBl, if_neg (by omega), if_pos ⟨a, b⟩]
 have hGno : ¬ (kind.toNat = 80 ∧ be ((r1.drop 4).take 4) + 9 = r1.length + 1 ∧ r1.length + 1 ≤ 65545) → ¬ (kind.toNat = 68 ∧ r1.length + 1 = 37) → mo (kind :: r1) = vJ := fun a b => by
  unfold mo; rw [hk, h5, h1, h9, hBl, if_neg a, if_neg b]
 rw [er, if_neg (by omega)]; have hl4 : (r1.drop 4).length = r1.length - 4 := by simp
 have hl8 : ((r1.drop 4).drop 4).length = r1.length - 8 := by simp only [List.length_drop]; omega
 by_cases cn : be (r1.take 4) = n
 ·rw [if_neg (by simp [cn])]; unfold fY; by_cases k80 : kind.toNat = 80
  ·rw [if_pos k80]; by_cases c1 : (r1.drop 4).length < 4 ∨ (r1.drop 4).length - 4 < be ((r1.drop 4).take 4)
   ·rw [if_pos c1, hGno (by omega) (by omega), gc]
   ·rw [if_neg c1]; unfold gk; have hd : (((r1.drop 4).drop 4).drop (be ((r1.drop 4).take 4))).length = r1.length - 8 - be ((r1.drop 4).take 4) := by rw [List.length_drop, hl8]
    by_cases c2 : be ((r1.drop 4).take 4) + 9 = r1.length + 1
    ·have hx : ((r1.drop 4).drop 4).take (be ((r1.drop 4).take 4)) = (r1.drop 4).drop 4 := List.take_of_length_le (by omega); rw [if_neg (by rw [hd]; omega), hx]; by_cases c3 : r1.length + 1 ≤ 65545
     ·rw [hG80 k80 c2 c3]; unfold fj; simp only [k80, true_and, true_iff, if_true, cn]; have hs : (cu ((r1.drop 4).drop 4)).l = Sha.sum ((r1.drop 4).drop 4) := rfl; rw [hs]; by_cases c4 : aM objs (Sha.sum ((r1.drop 4).drop 4)) = none ∧ objs.length < 256
      ·rw [if_pos ⟨by omega, c4⟩, if_pos ⟨c4.1, by omega⟩]
      ·rw [if_neg (fun h => c4 h.2), if_neg (fun h => c4 ⟨h.1, by omega⟩)]
     ·rw [if_neg (fun h => by have := h.1; omega), hGno (by omega) (by omega), gc]
    ·rw [if_pos (by rw [hd]; omega), hGno (by omega) (by omega), gc]
  ·rw [if_neg k80]; by_cases k68 : kind.toNat = 68
   ·rw [if_pos k68]; by_cases c1 : (r1.drop 4).length < 32
    ·rw [if_pos c1, hGno (by omega) (by omega), gc]
    ·rw [if_neg c1]; unfold fF; have hd : ((r1.drop 4).drop 32).length = r1.length - 36 := by rw [List.length_drop, hl4]; omega
     by_cases c2 : r1.length + 1 = 37
     ·have hx : (r1.drop 4).take 32 = r1.drop 4 := List.take_of_length_le (by omega); rw [if_neg (by rw [hd]; omega), hx, hG68 k68 c2]; have hv : (rZ (r1.drop 4)).l = r1.drop 4 := by unfold rZ; rw [dif_pos (by omega)]
      unfold fj; simp only [hv, cn, k80, false_iff, false_and, not_false_eq_true, and_true, true_and, if_false]; cases aM objs (r1.drop 4) with
      | none => simp
      | some i => simp
     ·rw [if_pos (by rw [hd]; omega), hGno (by omega) (by omega), gc]
   ·rw [if_neg k68, hGno (by omega) (by omega), gc]
 ·rw [if_pos (by exact cn)]; symm; unfold fj; rw [if_neg]; rintro ⟨g1, g2, _⟩; by_cases a : kind.toNat = 80 ∧ be ((r1.drop 4).take 4) + 9 = r1.length + 1 ∧ r1.length + 1 ≤ 65545
  ·rw [hG80 a.1 a.2.1 a.2.2] at g2; simp at g2; omega
  ·by_cases b : kind.toNat = 68 ∧ r1.length + 1 = 37
   ·rw [hG68 b.1 b.2] at g2; simp at g2; omega
   ·rw [hGno a b] at g1; cases g1
theorem GY (objs : List Ob) (n : Nat) (b : List UInt8) : bv objs n b = fj objs n (uB b) := by
 unfold bv uB; by_cases c1 : b.length < 41
 ·rw [if_pos c1, gc]; by_cases c0 : b.length < 32
  ·rw [if_pos c0]
  ·rw [if_neg c0]; split
   ·rfl
   ·have hl : (b.take (b.length - 32)).length ≤ 8 := by simp; omega
    generalize b.take (b.length - 32) = B at hl; cases B with
    | nil => rfl
    | cons k r =>
     have hr : r.length ≤ 7 := by simp at hl; omega
     rw [er]; split
     ·rfl
     split
     ·rfl
     unfold fY; have hd : (r.drop 4).length ≤ 3 := by simp; omega
     split
     ·rw [if_pos (by omega)]
     ·split
      ·rw [if_pos (by omega)]
      ·rfl
 ·rw [if_neg c1, if_neg (by omega)]; by_cases c2 : Sha.sum (b.take (b.length - 32)) ≠ b.drop (b.length - 32)
  ·rw [if_pos c2, if_pos c2, gc]
  ·rw [if_neg c2, if_neg c2]; exact Fw objs n _ (by simp; omega)
end
section
theorem Br (sz : Nat) (rows : List (List D)) : (dB sz rows).sz = sz := rfl
section
variable {h : List (Nat × Blk)} {l : Nat} {r : Rcd}
theorem lf (hl : look h l = some ⟨36, [r.row.map V.d]⟩) : aX Tryd.prog h 4 (.ref l 0 0) = some (.d (.v (.bool r.ok))) := by
 simp only [aX, hl, Option.bind_some, List.getElem?_cons_zero, cc, ag4]; rfl
theorem fI (hl : look h l = some ⟨36, [r.row.map V.d]⟩) : aX Tryd.prog h 5 (.ref l 0 1) = some (.d (.v (.int .u8 (r.kind.toNat : Int)))) := by
 simp only [aX, hl, Option.bind_some, List.getElem?_cons_zero, cc, ag5]; rfl
theorem ou (hl : look h l = some ⟨36, [r.row.map V.d]⟩) : aX Tryd.prog h 3 (.ref l 0 2) = some (.d (.v (.int .i64 r.n))) := by
 simp only [aX, hl, Option.bind_some, List.getElem?_cons_zero, cc, ag3]; rfl
theorem BM (hl : look h l = some ⟨36, [r.row.map V.d]⟩) : aX Tryd.prog h 30 (.ref l 0 3) = some (.d (.list 1 (r.data.map ai) false)) := by
 simp only [aX, hl, Option.bind_some, List.getElem?_cons_zero, cc, xS]; rfl
theorem wB (hl : look h l = some ⟨36, [r.row.map V.d]⟩) : aX Tryd.prog h 42 (.ref l 0 4) = some (.d (.agg 32 (ay r.sum.l))) := by
 have hsl : (ay r.sum.l).length = 32 := cM r.sum.h; have hs : seg (r.row.map V.d) 36 4 32 = (ay r.sum.l).map V.d := by
  unfold seg; rw [if_neg (by decide), ← List.map_drop, ← List.map_take]
  congr 1
  simp only [Rcd.row, List.cons_append, List.nil_append, List.drop_succ_cons, List.drop_zero]; exact List.take_of_length_le (by omega)
 have hp : bu ((ay r.sum.l).map V.d) = some (ay r.sum.l) := gr _; simp only [aX, hl, Option.bind_some, List.getElem?_cons_zero, cc, nT, oa, hs, hp]; rfl
end
theorem CX (n sz : Nat) (rows : List (List D)) : ∀ r ∈ (dB sz rows).rows, ∀ y ∈ r, V.lt n y = true ∧ y.noGh = true := by
 intro r hr y hy; obtain ⟨r0, _, rfl⟩ := List.mem_map.1 hr; obtain ⟨d, _, rfl⟩ := List.mem_map.1 hy; exact ⟨rfl, rfl⟩
theorem IL {F : Fr} (h0 : F.n0 = 0) (hgt : ∀ ds h μ C w, F.G ds h μ C w) {a b c : D} {objs' safe' : List (List D)} {n m : Nat} : St.to F ⟨[(0, .d a), (2, .ref 0 0 0), (3, .ref 1 0 0), (4, .d b)], [(3, dB 1 safe'), (5, dB 33 objs'), (1, ⟨3, [[.sref 5 0 n, .sref 3 0 m, .d c]]⟩), (0, ⟨3, [[.d c, .d c, .d c]]⟩)], 6⟩
  ⟨[(0, .d a), (2, .ref 0 0 0), (3, .ref 1 0 0), (4, .d b)], [(3, dB 1 safe'), (2, dB 33 objs'), (1, ⟨3, [[.sref 2 0 n, .sref 3 0 m, .d c]]⟩), (0, ⟨3, [[.d c, .d c, .d c]]⟩)], 4⟩ := by
 have hH : ∀ m' k', look ([(3, dB 1 safe'), (2, dB 33 objs'), (1, ⟨3, [[.sref 2 0 n, .sref 3 0 m, .d c]]⟩), (0, ⟨3, [[.d c, .d c, .d c]]⟩)] : List (Nat × Blk)) m' = some k' → m' < 4 ∧ look ([(3, dB 1 safe'), (5, dB 33 objs'), (1, ⟨3, [[.sref 5 0 n, .sref 3 0 m, .d c]]⟩), (0, ⟨3, [[.d c, .d c, .d c]]⟩)] : List (Nat × Blk)) (if m' = 2 then 5 else m') = some (k'.ren fun m => if m = 2 then 5 else m) ∧ (∀ r ∈ k'.rows, ∀ y ∈ r, V.lt 4 y = true ∧ y.noGh = true) := by
  intro m' k' hk; simp only [look] at hk; split at hk
  ·rename_i e; subst e; cases hk; exact ⟨by decide, by rw [qO]; rfl, CX _ _ _⟩
  split at hk
  ·rename_i e; subst e; cases hk; exact ⟨by decide, by rw [qO]; rfl, CX _ _ _⟩
  split at hk
  ·rename_i e; subst e; cases hk; refine ⟨by decide, rfl, fun r hr y hy => ?_⟩; simp at hr; subst hr; simp at hy; rcases hy with rfl | rfl | rfl <;> exact ⟨rfl, rfl⟩
  split at hk
  ·rename_i e; subst e; cases hk; refine ⟨by decide, rfl, fun r hr y hy => ?_⟩; simp at hr; subst hr; simp at hy; subst hy; exact ⟨rfl, rfl⟩
  cases hk
 refine Ei (fun m => if m = 2 then 5 else m) (by omega) (by omega) ?_ hH ?_ (.inl hgt)
 ·intro t y hy; simp only [look] at hy; split at hy
  ·rename_i e; subst e; cases hy; exact ⟨rfl, rfl, rfl⟩
  split at hy
  ·rename_i e; subst e; cases hy; exact ⟨rfl, rfl, rfl⟩
  split at hy
  ·rename_i e; subst e; cases hy; exact ⟨rfl, rfl, rfl⟩
  split at hy
  ·rename_i e; subst e; cases hy; exact ⟨rfl, rfl, rfl⟩
  cases hy
 ·intro m1 m2 g1 g2 e; obtain ⟨k1, hk1⟩ := Option.isSome_iff_exists.1 g1; obtain ⟨k2, hk2⟩ := Option.isSome_iff_exists.1 g2; have l1 := (hH m1 k1 hk1).1; have l2 := (hH m2 k2 hk2).1; have e : (if m1 = 2 then 5 else m1) = (if m2 = 2 then 5 else m2) := e; split at e <;> split at e <;> omega
set_option maxHeartbeats 4000000 in
theorem E2 (rs : List (List UInt8)) (hrs : rs.length ≤ 1000000) (hb : ∀ b ∈ rs, b.length ≤ 1000000) : aj Tryd.prog HG 32 [.list 1 (rs.map av) false] (.agg 3 (Sto.row (cW [] [] rs))) := by
 refine tj Tryd.func32 rfl Tryd.ntmps32 (by simp) ?_; intro F hF h0 hT hgt; simp only [List.zipIdx_cons, List.zipIdx_nil, List.map_cons, List.map_nil, Nat.zero_add, Nat.reduceAdd]; refine Sm.seq ?_; refine ab hF rfl ?_; refine SmG.new hF rfl rfl rfl (aF rfl lL) ?_; refine SmG.nil (aa (Sm.seq ?_)); refine ab hF rfl ?_; refine gv hF (cV rfl Tryd.underlying27 (by kernel_rfl) rfl JD) ?_; refine SmG.new hF rfl rfl rfl (aF rfl lL) ?_; refine SmG.store hF rfl rfl rfl rfl rfl (fc ip rfl rfl) ?_; refine SmG.nil (aa (Sm.seq (Sm.seq ?_))); refine ab hF rfl ?_; refine gv hF oA (SmG.nil (aa (Sm.block ?_))); simp only [rep, Nat.zero_add, Nat.reduceEqDiff, if_true, if_false]; refine oT 1 0 0 33 rfl rfl rfl ?_; refine oT 1 0 1 1 rfl rfl rfl ?_; refine Sm.loop (ι := {s : Sto // s.queue = [] ∧ s.objects.length ≤ 256 ∧ s.safe.length ≤ rs.length ∧ cW [] [] rs = cW s.objects s.safe (rs.drop s.safe.length)}) (fun s => ⟨[(0, .d (.list 1 (rs.map av) false)), (2, .ref 0 0 0), (3, .ref 1 0 0), (4, .d (.v (.int .i64 s.1.safe.length)))], [(3, dB 1 (s.1.safe.map av)), (2, dB 33 (s.1.objects.map Ob.row)), (1, ⟨3, [[.sref 2 0 s.1.objects.length, .sref 3 0 s.1.safe.length, .d (.list 0 [] true)]]⟩), (0, ⟨3, [[.d (.list 0 [] true), .d (.list 0 [] true), .d (.list 0 [] true)]]⟩)], 4⟩) (fun s => rs.length - s.1.safe.length) (⟨⟨[], [], []⟩, rfl, by decide, by simp, by simp⟩) ?_ ?_
 ·exact aK ⟨rfl, rfl, rfl, rfl, trivial⟩ ⟨rfl, rfl, rfl, rfl, trivial⟩ (Nat.le_refl _)
 rintro ⟨⟨objs, safe, queue⟩, hq, ho, hs, heq⟩; simp only at hq ho hs heq ⊢; have hfrz : ∀ (nx : Nat), St.to F ⟨[(2, .ref 0 0 0), (3, .ref 1 0 0)], [(3, dB 1 (safe.map av)), (2, dB 33 (objs.map Ob.row)), (1, ⟨3, [[.sref 2 0 objs.length, .sref 3 0 safe.length, .d (.list 0 [] true)]]⟩), (0, ⟨3, [[.d (.list 0 [] true), .d (.list 0 [] true), .d (.list 0 [] true)]]⟩)], nx⟩ ⟨[(2, .ref 0 0 0), (3, .ref 1 0 0)], [(1, ⟨3, [[.d (.list 33 (objs.map Ob.row) false), .d (.list 1 (safe.map av) false), .d (.list 0 [] true)]]⟩), (0, ⟨3, [[.d (.list 0 [] true), .d (.list 0 [] true), .d (.list 0 [] true)]]⟩)], nx⟩ := fun nx => by
  have h := fm (F := F) (st := ⟨[(2, .ref 0 0 0), (3, .ref 1 0 0)], [(3, dB 1 (safe.map av)), (2, dB 33 (objs.map Ob.row)), (1, ⟨3, [[.sref 2 0 objs.length, .sref 3 0 safe.length, .d (.list 0 [] true)]]⟩), (0, ⟨3, [[.d (.list 0 [] true), .d (.list 0 [] true), .d (.list 0 [] true)]]⟩)], nx⟩) (l := 2) (objs.map Ob.row) rfl rfl; have h2 := fm (F := F) (st := ⟨[(2, .ref 0 0 0), (3, .ref 1 0 0)], [(3, dB 1 (safe.map av)), (1, ⟨3, [[.d (.list 33 (objs.map Ob.row) false), .sref 3 0 safe.length, .d (.list 0 [] true)]]⟩), (0, ⟨3, [[.d (.list 0 [] true), .d (.list 0 [] true), .d (.list 0 [] true)]]⟩)], nx⟩) (l := 3) (safe.map av) rfl rfl; refine aR (st' := ⟨[(2, .ref 0 0 0), (3, .ref 1 0 0)], [(3, dB 1 (safe.map av)), (1, ⟨3, [[.d (.list 33 (objs.map Ob.row) false), .sref 3 0 safe.length, .d (.list 0 [] true)]]⟩), (0, ⟨3, [[.d (.list 0 [] true), .d (.list 0 [] true), .d (.list 0 [] true)]]⟩)], nx⟩) ?_ ?_
  ·simp only [gL, bK, dh, rG, Br, reduceIte, Nat.reduceEqDiff] at h; simpa [cN, bc, ck] using h
  ·simp only [gL, bK, dh, rG, Br, reduceIte, Nat.reduceEqDiff] at h2; simpa [cN, bc, ck] using h2
 by_cases hlt : safe.length < rs.length
 ·obtain ⟨b, hbi⟩ : ∃ b, rs[safe.length]? = some b := ⟨rs[safe.length], by simp⟩
  have hbl : b.length ≤ 1000000 := hb b (List.mem_of_getElem? hbi); have hdr : rs.drop safe.length = b :: rs.drop (safe.length + 1) := by
   rw [List.drop_eq_getElem_cons hlt]
   congr 1
   rw [List.getElem?_eq_getElem hlt] at hbi; exact Option.some.inj hbi
  have cread := DO b hbl; have hstep := GY objs safe.length b; generalize uB b = r at cread hstep; refine Sm.seq (Sm.seq ?_); refine ab hF rfl ?_; refine gv hF oM (gv hF oM ?_); refine gv hF (aJ rfl rfl (by simp only [go_sem, hbi, av, aB, ac] <;> rfl)) ?_; refine gv hF (ah rfl rfl rfl (by exact eg _ _ _ _ _ (by omega))) ?_; refine SmG.nil (aa ?_); refine aZ hF rfl ?_; refine Sm.skip ?_; refine aa (Sm.seq (Sm.block (Sm.seq ?_))); refine ab hF rfl ?_; refine gv hF oM (gv hF oM ?_); refine gv hF (ak rfl rfl rfl (by simp only [go_sem, hbi, av, aB, ac] <;> rfl)) ?_; refine gv hF (ae rfl rfl (by simp only [go_sem, hbi, av, aB, ac] <;> rfl)) ?_; refine SmG.call hF rfl rfl (by kernel_rfl) rfl rfl rfl (cread) ?_; refine SmG.new hF rfl rfl rfl (aF rfl A7) ?_; refine SmG.store hF rfl rfl rfl rfl rfl (fc gu rfl rfl) ?_; refine SmG.nil (aa (Sm.seq ?_)); simp only [rep, if_true]; refine Sm.to (cQ (st' := ⟨[(0, .d (.list 1 (rs.map av) false)), (2, .ref 0 0 0), (3, .ref 1 0 0), (4, .d (.v (.int .i64 safe.length))), (5, .ref 4 0 0)], [(4, ⟨36, [r.row.map V.d]⟩), (3, dB 1 (safe.map av)), (2, dB 33 (objs.map Ob.row)), (1, ⟨3, [[.sref 2 0 objs.length, .sref 3 0 safe.length, .d (.list 0 [] true)]]⟩), (0, ⟨3, [[.d (.list 0 [] true), .d (.list 0 [] true), .d (.list 0 [] true)]]⟩)], 5⟩) (aK ⟨rfl, rfl, rfl, rfl, rfl, trivial⟩ ⟨rfl, rfl, rfl, rfl, rfl, trivial⟩ (Nat.le_refl _))) ?_; refine ab hF rfl ?_; refine gv hF (ag rfl rfl (by simp only [go_sem, ac] <;> rfl)) ?_; refine gv hF (ae rfl rfl (by simp only [go_sem, ac] <;> rfl)) ?_; refine gv hF (ag rfl rfl (by simp only [go_sem, ac] <;> rfl)) ?_; refine gv hF (ae rfl rfl (wB rfl)) ?_; refine mF hF (l := 2) (objs.map Ob.row) rfl rfl (by kernel_rfl) rfl rfl rfl (by simp only [cN, bc]; simp; rfl) (yu objs r.sum (by omega)) (Hr _) ?_; refine gv hF oA (SmG.nil (aa (Sm.seq (Sm.seq ?_)))); have hdone : bv objs safe.length b = none → cW [] [] rs = ⟨objs, safe, []⟩ := fun h => by
   rw [heq, hdr]; unfold cW; rw [h]
  cases hok : r.ok
  ·
   refine ab hF rfl ?_; refine gv hF (ag rfl rfl (by simp only [go_sem, ac] <;> rfl)) ?_; refine gv hF (ae rfl rfl ((lf rfl).trans (by rw [hok]))) ?_; refine gv hF (eG rfl rfl (by exact rR _)) ?_; refine gv hF oM ?_; refine gp hF ?_; refine gp hF ?_; refine gp hF ?_; refine gp hF ?_; refine gv hF (aO rfl rfl rfl) ?_; refine gv hF oM ?_; refine gp hF ?_; refine gp hF ?_; refine gp hF ?_; refine gp hF ?_; refine gp hF ?_; refine gp hF ?_; refine gv hF (aO rfl rfl rfl) ?_; refine gv hF oM ?_; refine gp hF ?_; refine gp hF ?_; refine gp hF ?_; refine gp hF ?_; refine gp hF ?_; refine gp hF ?_; refine gp hF ?_; refine gp hF ?_; refine gp hF ?_; refine gv hF (aO rfl rfl rfl) ?_; refine SmG.nil (aa ?_); refine aZ hF rfl ?_; refine Sm.seq ?_; refine Sm.to (aR (cQ (st' := ⟨[(2, .ref 0 0 0), (3, .ref 1 0 0)], [(3, dB 1 (safe.map av)), (2, dB 33 (objs.map Ob.row)), (1, ⟨3, [[.sref 2 0 objs.length, .sref 3 0 safe.length, .d (.list 0 [] true)]]⟩), (0, ⟨3, [[.d (.list 0 [] true), .d (.list 0 [] true), .d (.list 0 [] true)]]⟩)], 5⟩) (aK ⟨rfl, rfl, trivial⟩ ⟨rfl, rfl, rfl, rfl, trivial⟩ (Nat.le_refl _))) (hfrz 5)) ?_; refine ab hF rfl ?_; refine gv hF (ae rfl rfl (cE rfl)) ?_; refine SmG.store hF rfl rfl rfl rfl rfl (fc ip rfl rfl) ?_; refine SmG.nil (aa (Sm.ret ?_)); simp only [a9, bQ]; refine cG rfl rfl (gz ip nS rfl) ?_; rw [hdone (by rw [hstep]; unfold fj; rw [if_neg]; rintro ⟨g1, g2, g3, g4⟩; rw [hok] at g1; cases g1)]; exact fM ⟨D.le.refl _, D.le.refl _, cd 0 1 true, trivial⟩
  by_cases hn : ¬ r.n = (safe.length : Int)
  ·
   refine ab hF rfl ?_; refine gv hF (ag rfl rfl (by simp only [go_sem, ac] <;> rfl)) ?_; refine gv hF (ae rfl rfl ((lf rfl).trans (by rw [hok]))) ?_; refine gv hF (eG rfl rfl (by exact fW _)) ?_; refine gv hF oM ?_; refine gv hF (ag rfl rfl (by simp only [go_sem, ac] <;> rfl)) ?_; refine gv hF (ae rfl rfl (ou rfl)) ?_; refine gv hF oM ?_; refine gv hF (ah rfl rfl rfl (by exact mA _ _ _ _ _ (by omega))) ?_; refine gv hF (aU rfl rfl rfl) ?_; refine gv hF oM ?_; refine gp hF ?_; refine gp hF ?_; refine gp hF ?_; refine gp hF ?_; refine gp hF ?_; refine gp hF ?_; refine gv hF (aO rfl rfl rfl) ?_; refine gv hF oM ?_; refine gp hF ?_; refine gp hF ?_; refine gp hF ?_; refine gp hF ?_; refine gp hF ?_; refine gp hF ?_; refine gp hF ?_; refine gp hF ?_; refine gp hF ?_; refine gv hF (aO rfl rfl rfl) ?_; refine SmG.nil (aa ?_); refine aZ hF rfl ?_; refine Sm.seq ?_; refine Sm.to (aR (cQ (st' := ⟨[(2, .ref 0 0 0), (3, .ref 1 0 0)], [(3, dB 1 (safe.map av)), (2, dB 33 (objs.map Ob.row)), (1, ⟨3, [[.sref 2 0 objs.length, .sref 3 0 safe.length, .d (.list 0 [] true)]]⟩), (0, ⟨3, [[.d (.list 0 [] true), .d (.list 0 [] true), .d (.list 0 [] true)]]⟩)], 5⟩) (aK ⟨rfl, rfl, trivial⟩ ⟨rfl, rfl, rfl, rfl, trivial⟩ (Nat.le_refl _))) (hfrz 5)) ?_; refine ab hF rfl ?_; refine gv hF (ae rfl rfl (cE rfl)) ?_; refine SmG.store hF rfl rfl rfl rfl rfl (fc ip rfl rfl) ?_; refine SmG.nil (aa (Sm.ret ?_)); simp only [a9, bQ]; refine cG rfl rfl (gz ip nS rfl) ?_; rw [hdone (by rw [hstep]; unfold fj; rw [if_neg]; rintro ⟨g1, g2, g3, g4⟩; exact hn g2)]; exact fM ⟨D.le.refl _, D.le.refl _, cd 0 1 true, trivial⟩
  have hn : r.n = (safe.length : Int) := Classical.not_not.1 hn; by_cases k80 : r.kind.toNat = 80
  ·cases hfn : aM objs r.sum.l with
   | some i =>
    have hfz : cB objs r.sum.l = (i : Int) := by unfold cB; rw [hfn]
    rw [hfz]; refine ab hF rfl ?_; refine gv hF (ag rfl rfl (by simp only [go_sem, ac] <;> rfl)) ?_; refine gv hF (ae rfl rfl ((lf rfl).trans (by rw [hok]))) ?_; refine gv hF (eG rfl rfl (by exact fW _)) ?_; refine gv hF oM ?_; refine gv hF (ag rfl rfl (by simp only [go_sem, ac] <;> rfl)) ?_; refine gv hF (ae rfl rfl (ou rfl)) ?_; refine gv hF oM ?_; refine gv hF (ah rfl rfl rfl (by exact iM _ _ _ _ _ (by omega))) ?_; refine gv hF (aU rfl rfl rfl) ?_; refine gv hF oM ?_; refine gv hF (ag rfl rfl (by simp only [go_sem, ac] <;> rfl)) ?_; refine gv hF (ae rfl rfl (fI rfl)) ?_; refine gv hF (ah rfl rfl rfl (by exact dL _ _ _ _ _ (by omega))) ?_; refine gv hF oM ?_; refine gv hF (ah rfl rfl rfl (by exact eL _ _ _ _ _ (by omega))) ?_; refine gv hF (ah rfl rfl rfl (oD _ _ _ _ (by kernel_rfl) (by exact (rfl : _ = true)))) ?_; refine gv hF (aU rfl rfl rfl) ?_; refine gv hF oM ?_; refine gp hF ?_; refine gp hF ?_; refine gp hF ?_; refine gp hF ?_; refine gp hF ?_; refine gp hF ?_; refine gp hF ?_; refine gp hF ?_; refine gp hF ?_; refine gv hF (aO rfl rfl rfl) ?_; refine SmG.nil (aa ?_); refine aZ hF rfl ?_; refine Sm.seq ?_; refine Sm.to (aR (cQ (st' := ⟨[(2, .ref 0 0 0), (3, .ref 1 0 0)], [(3, dB 1 (safe.map av)), (2, dB 33 (objs.map Ob.row)), (1, ⟨3, [[.sref 2 0 objs.length, .sref 3 0 safe.length, .d (.list 0 [] true)]]⟩), (0, ⟨3, [[.d (.list 0 [] true), .d (.list 0 [] true), .d (.list 0 [] true)]]⟩)], 5⟩) (aK ⟨rfl, rfl, trivial⟩ ⟨rfl, rfl, rfl, rfl, trivial⟩ (Nat.le_refl _))) (hfrz 5)) ?_; refine ab hF rfl ?_; refine gv hF (ae rfl rfl (cE rfl)) ?_; refine SmG.store hF rfl rfl rfl rfl rfl (fc ip rfl rfl) ?_; refine SmG.nil (aa (Sm.ret ?_)); simp only [a9, bQ]; refine cG rfl rfl (gz ip nS rfl) ?_; rw [hdone (by rw [hstep]; unfold fj; rw [if_neg]; rintro ⟨g1, g2, g3, g4⟩; rw [g3.1 k80] at hfn; cases hfn)]; exact fM ⟨D.le.refl _, D.le.refl _, cd 0 1 true, trivial⟩
   | none =>
    have hfz : cB objs r.sum.l = -1 := by unfold cB; rw [hfn]
    rw [hfz]; by_cases c4 : 256 ≤ objs.length
    ·
     refine ab hF rfl ?_; refine gv hF (ag rfl rfl (by simp only [go_sem, ac] <;> rfl)) ?_; refine gv hF (ae rfl rfl ((lf rfl).trans (by rw [hok]))) ?_; refine gv hF (eG rfl rfl (by exact fW _)) ?_; refine gv hF oM ?_; refine gv hF (ag rfl rfl (by simp only [go_sem, ac] <;> rfl)) ?_; refine gv hF (ae rfl rfl (ou rfl)) ?_; refine gv hF oM ?_; refine gv hF (ah rfl rfl rfl (by exact iM _ _ _ _ _ (by omega))) ?_; refine gv hF (aU rfl rfl rfl) ?_; refine gv hF oM ?_; refine gv hF (ag rfl rfl (by simp only [go_sem, ac] <;> rfl)) ?_; refine gv hF (ae rfl rfl (fI rfl)) ?_; refine gv hF (ah rfl rfl rfl (by exact dL _ _ _ _ _ (by omega))) ?_; refine gv hF oM ?_; refine gv hF (ah rfl rfl rfl (by exact eg _ _ _ _ _ (by omega))) ?_; refine gv hF (ah rfl rfl rfl (oD _ _ _ _ (by kernel_rfl) (by exact (rfl : _ = false)))) ?_; refine gv hF (aU rfl rfl rfl) ?_; refine gv hF oM ?_; refine gv hF (ag rfl rfl (by simp only [go_sem, ac] <;> rfl)) ?_; refine gv hF (ae rfl rfl (fI rfl)) ?_; refine gv hF (ah rfl rfl rfl (by exact dL _ _ _ _ _ (by omega))) ?_; refine gv hF oM ?_; refine gv hF (ag rfl rfl (by simp only [go_sem, ac] <;> rfl)) ?_; refine gv hF (ae rfl rfl (by simp only [go_sem, ac] <;> rfl)) ?_; refine gv hF (aJ rfl rfl (by simp only [go_sem, ac] <;> rfl)) ?_; refine gv hF (ah rfl rfl rfl (by exact oH _ _ _ _ _ (by omega))) ?_; refine gv hF (aO rfl rfl rfl) ?_; refine gv hF (aU rfl rfl rfl) ?_; refine SmG.nil (aa ?_); refine aZ hF rfl ?_; refine Sm.seq ?_; refine Sm.to (aR (cQ (st' := ⟨[(2, .ref 0 0 0), (3, .ref 1 0 0)], [(3, dB 1 (safe.map av)), (2, dB 33 (objs.map Ob.row)), (1, ⟨3, [[.sref 2 0 objs.length, .sref 3 0 safe.length, .d (.list 0 [] true)]]⟩), (0, ⟨3, [[.d (.list 0 [] true), .d (.list 0 [] true), .d (.list 0 [] true)]]⟩)], 5⟩) (aK ⟨rfl, rfl, trivial⟩ ⟨rfl, rfl, rfl, rfl, trivial⟩ (Nat.le_refl _))) (hfrz 5)) ?_; refine ab hF rfl ?_; refine gv hF (ae rfl rfl (cE rfl)) ?_; refine SmG.store hF rfl rfl rfl rfl rfl (fc ip rfl rfl) ?_; refine SmG.nil (aa (Sm.ret ?_)); simp only [a9, bQ]
     refine cG rfl rfl (gz ip nS rfl) ?_; rw [hdone (by rw [hstep]; unfold fj; rw [if_neg]; rintro ⟨g1, g2, g3, g4⟩; exact g4 ⟨k80, c4⟩)]; exact fM ⟨D.le.refl _, D.le.refl _, cd 0 1 true, trivial⟩
    ·have hnext : bv objs safe.length b = some (objs ++ [⟨r.sum, r.data⟩]) := by
      rw [hstep]; unfold fj; rw [if_pos ⟨hok, hn, ⟨fun _ => hfn, fun _ => k80⟩, fun h => c4 h.2⟩, if_pos k80]
     have hbo := sB r.sum r.data; refine ab hF rfl ?_; refine gv hF (ag rfl rfl (by simp only [go_sem, ac, hbi, av, aB] <;> rfl)) ?_; refine gv hF (ae rfl rfl ((lf rfl).trans (by rw [hok]))) ?_; refine gv hF (eG rfl rfl (by exact fW _)) ?_; refine gv hF oM ?_; refine gv hF (ag rfl rfl (by simp only [go_sem, ac, hbi, av, aB] <;> rfl)) ?_; refine gv hF (ae rfl rfl (ou rfl)) ?_; refine gv hF oM ?_; refine gv hF (ah rfl rfl rfl (by exact iM _ _ _ _ _ (by omega))) ?_; refine gv hF (aU rfl rfl rfl) ?_; refine gv hF oM ?_; refine gv hF (ag rfl rfl (by simp only [go_sem, ac, hbi, av, aB] <;> rfl)) ?_; refine gv hF (ae rfl rfl (fI rfl)) ?_; refine gv hF (ah rfl rfl rfl (by exact dL _ _ _ _ _ (by omega))) ?_; refine gv hF oM ?_; refine gv hF (ah rfl rfl rfl (by exact eg _ _ _ _ _ (by omega))) ?_; refine gv hF (ah rfl rfl rfl (oD _ _ _ _ (by kernel_rfl) (by exact (rfl : _ = false)))) ?_; refine gv hF (aU rfl rfl rfl) ?_; refine gv hF oM ?_; refine gv hF (ag rfl rfl (by simp only [go_sem, ac, hbi, av, aB] <;> rfl)) ?_; refine gv hF (ae rfl rfl (fI rfl)) ?_; refine gv hF (ah rfl rfl rfl (by exact dL _ _ _ _ _ (by omega))) ?_; refine gv hF oM ?_; refine gv hF (ag rfl rfl (by simp only [go_sem, ac, hbi, av, aB] <;> rfl)) ?_; refine gv hF (ae rfl rfl (by simp only [go_sem, ac, hbi, av, aB] <;> rfl)) ?_; refine gv hF (aJ rfl rfl (by simp only [go_sem, ac, hbi, av, aB] <;> rfl)) ?_; refine gv hF (ah rfl rfl rfl (by exact oG _ _ _ _ _ (by omega))) ?_; refine gv hF (aO rfl rfl rfl) ?_; refine gv hF (aU rfl rfl rfl) ?_; refine SmG.nil (aa ?_); refine aS hF rfl ?_; refine Sm.skip ?_; refine aa (Sm.seq (Sm.seq ?_)); refine ab hF rfl ?_; refine gv hF (ag rfl rfl (by simp only [go_sem, ac, hbi, av, aB] <;> rfl)) ?_; refine gv hF (ae rfl rfl (fI rfl)) ?_; refine gv hF (ah rfl rfl rfl (by exact dL _ _ _ _ _ (by omega))) ?_; refine SmG.nil (aa ?_); refine aZ hF rfl ?_; refine ab hF rfl ?_; refine gv hF (ag rfl rfl (by simp only [go_sem, ac, hbi, av, aB] <;> rfl)) ?_; refine gv hF (ae rfl rfl (by simp only [go_sem, ac, hbi, av, aB] <;> rfl)) ?_
     refine gv hF (ag rfl rfl (by simp only [go_sem, ac, hbi, av, aB] <;> rfl)) ?_; refine gv hF (ae rfl rfl (wB rfl)) ?_; refine gv hF (ag rfl rfl (by simp only [go_sem, ac, hbi, av, aB] <;> rfl)) ?_; refine gv hF (ae rfl rfl (BM rfl)) ?_; refine gv hF (cV rfl Tryd.underlying53 (by kernel_rfl) rfl hbo) ?_; refine gv hF (ba rfl rfl (by simp only [go_sem, ac, hbi, av, aB] <;> rfl)) ?_; rw [show objs.length = (objs.map Ob.row).length by simp]; refine jk hF qQ rfl rfl rfl rfl rfl rfl rfl (by rfl) (Or.inl rfl) ?_ ?_ ?_; rotate_left; rotate_left; simp only [da, Pk.v, V.free, rep, dh, ck, mT, kM, nA, cD, List.map_cons, List.map_nil, bne_self_eq_false, Nat.reduceAdd, Nat.reduceBNe, Nat.reduceBEq, Nat.reduceEqDiff, reduceIte, Bool.false_eq_true]
     ·refine gv hF (ag rfl rfl (by simp only [go_sem, ac, hbi, av, aB] <;> rfl)) ?_; refine SmG.store hF rfl rfl rfl rfl rfl (by simp only [go_sem, ac, hbi, av, aB] <;> rfl) ?_; refine SmG.nil (aa ?_); refine eQ hF (by kernel_rfl) rfl 7 (by kernel_rfl) (by kernel_rfl) ?_; simp only [List.take_succ_cons, List.take_zero, List.take_nil]; refine hv hF (ag rfl rfl (by simp only [go_sem, ac, hbi, av, aB] <;> rfl)) ?_; refine hv hF (ae rfl rfl (by simp only [go_sem, ac, hbi, av, aB] <;> rfl)) ?_; refine hv hF oM (hv hF oM ?_); refine hv hF (ak rfl rfl rfl (by simp only [go_sem, ac, hbi, av, aB] <;> rfl)) ?_; refine hv hF (ae rfl rfl (by simp only [go_sem, ac, hbi, av, aB] <;> rfl)) ?_; refine hv hF (ba rfl rfl (by simp only [go_sem, ac, hbi, av, aB] <;> rfl)) ?_; refine au.last ⟨rfl, ?_⟩; simp only [List.drop_succ_cons, List.drop_zero, List.drop_nil, List.nil_append, List.cons_append]; refine jk hF sI rfl rfl rfl rfl rfl rfl rfl (by (simp; done)) (Or.inl rfl) ?_ ?_ ?_; rotate_left; rotate_left; simp only [da, Pk.v, V.free, rep, dh, ck, mT, kM, nA, cD, List.map_cons, List.map_nil, bne_self_eq_false, Nat.reduceAdd, Nat.reduceBNe, Nat.reduceBEq, Nat.reduceEqDiff, reduceIte, Bool.false_eq_true]
      ·have hro : objs.map Ob.row ++ [Ob.row ⟨r.sum, r.data⟩] = (objs ++ [(⟨r.sum, r.data⟩ : Ob)]).map Ob.row := by simp
       have hrs2 : safe.map av ++ [[D.list 1 (b.map ai) false]] = (safe ++ [b]).map av := by simp [av, aB]
       rw [hro, hrs2, show ((objs ++ [(⟨r.sum, r.data⟩ : Ob)]).map Ob.row).length = (objs ++ [(⟨r.sum, r.data⟩ : Ob)]).length by simp, show ((safe ++ [b]).map av).length = (safe ++ [b]).length by simp]; refine gv hF (ag rfl rfl (by simp only [go_sem, ac, hbi, av, aB] <;> rfl)) ?_; refine SmG.store hF rfl rfl rfl rfl rfl (by simp only [go_sem, ac, hbi, av, aB] <;> rfl) ?_; refine SmG.nil (aI (aa ?_)); refine Sm.to (aR (cQ (st' := ⟨[(0, .d (.list 1 (rs.map av) false)), (2, .ref 0 0 0), (3, .ref 1 0 0), (4, .d (.v (.int .i64 safe.length)))], [(3, dB 1 ((safe ++ [b]).map av)), (2, dB 33 ((objs ++ [(⟨r.sum, r.data⟩ : Ob)]).map Ob.row)), (1, ⟨3, [[.sref 2 0 (objs ++ [(⟨r.sum, r.data⟩ : Ob)]).length, .sref 3 0 (safe ++ [b]).length, .d (.list 0 [] true)]]⟩), (0, ⟨3, [[.d (.list 0 [] true), .d (.list 0 [] true), .d (.list 0 [] true)]]⟩)], 5⟩) (aK ⟨rfl, rfl, rfl, rfl, trivial⟩ ⟨rfl, rfl, rfl, rfl, trivial⟩ (Nat.le_refl _))) (mf 4 rfl (by (repeat' first | exact ov _ | exact my _ _ | exact trivial | refine mY ?_ (by decide) | refine lg ?_ (uj _ _ _) | refine ox ?_ ?_ | refine ⟨rfl, ?_⟩)) rfl (by omega))) ?_; refine ab hF rfl ?_; refine gv hF oM ?_; refine gv hF (ah rfl rfl rfl (by exact eH _ _ _ _ _ (aY _ (by omega)))) ?_; refine gv hF oA (SmG.nil (aa ?_)); have he : (safe.length : Int) + 1 = ((safe ++ [b]).length : Int) := by simp
       rw [he]; refine ⟨⟨⟨objs ++ [⟨r.sum, r.data⟩], safe ++ [b], []⟩, rfl, by simp; omega, by simp; omega, ?_⟩, by simp; omega, aK ⟨rfl, rfl, rfl, rfl, trivial⟩ ⟨rfl, rfl, rfl, rfl, trivial⟩ (Nat.le_refl _)⟩; rw [heq, hdr, cW, hnext]; simp
      ·simp; omega
      ·simp; omega
     ·simp; omega
     ·simp; omega
  ·cases hfn : aM objs r.sum.l with
   | none =>
    have hfz : cB objs r.sum.l = -1 := by unfold cB; rw [hfn]
    rw [hfz]; refine ab hF rfl ?_; refine gv hF (ag rfl rfl (by simp only [go_sem, ac] <;> rfl)) ?_; refine gv hF (ae rfl rfl ((lf rfl).trans (by rw [hok]))) ?_; refine gv hF (eG rfl rfl (by exact fW _)) ?_; refine gv hF oM ?_; refine gv hF (ag rfl rfl (by simp only [go_sem, ac] <;> rfl)) ?_; refine gv hF (ae rfl rfl (ou rfl)) ?_; refine gv hF oM ?_; refine gv hF (ah rfl rfl rfl (by exact iM _ _ _ _ _ (by omega))) ?_; refine gv hF (aU rfl rfl rfl) ?_; refine gv hF oM ?_; refine gv hF (ag rfl rfl (by simp only [go_sem, ac] <;> rfl)) ?_; refine gv hF (ae rfl rfl (fI rfl)) ?_; refine gv hF (ah rfl rfl rfl (by exact jv _ _ _ _ _ (by omega))) ?_; refine gv hF oM ?_; refine gv hF (ah rfl rfl rfl (by exact eg _ _ _ _ _ (by omega))) ?_; refine gv hF (ah rfl rfl rfl (oD _ _ _ _ (by kernel_rfl) (by exact (rfl : _ = true)))) ?_; refine gv hF (aU rfl rfl rfl) ?_; refine gv hF oM ?_; refine gp hF ?_; refine gp hF ?_; refine gp hF ?_; refine gp hF ?_; refine gp hF ?_; refine gp hF ?_; refine gp hF ?_; refine gp hF ?_; refine gp hF ?_; refine gv hF (aO rfl rfl rfl) ?_; refine SmG.nil (aa ?_); refine aZ hF rfl ?_; refine Sm.seq ?_; refine Sm.to (aR (cQ (st' := ⟨[(2, .ref 0 0 0), (3, .ref 1 0 0)], [(3, dB 1 (safe.map av)), (2, dB 33 (objs.map Ob.row)), (1, ⟨3, [[.sref 2 0 objs.length, .sref 3 0 safe.length, .d (.list 0 [] true)]]⟩), (0, ⟨3, [[.d (.list 0 [] true), .d (.list 0 [] true), .d (.list 0 [] true)]]⟩)], 5⟩) (aK ⟨rfl, rfl, trivial⟩ ⟨rfl, rfl, rfl, rfl, trivial⟩ (Nat.le_refl _))) (hfrz 5)) ?_; refine ab hF rfl ?_; refine gv hF (ae rfl rfl (cE rfl)) ?_; refine SmG.store hF rfl rfl rfl rfl rfl (fc ip rfl rfl) ?_; refine SmG.nil (aa (Sm.ret ?_)); simp only [a9, bQ]; refine cG rfl rfl (gz ip nS rfl) ?_; rw [hdone (by rw [hstep]; unfold fj; rw [if_neg]; rintro ⟨g1, g2, g3, g4⟩; exact k80 (g3.2 hfn))]; exact fM ⟨D.le.refl _, D.le.refl _, cd 0 1 true, trivial⟩
   | some i =>
    have hfz : cB objs r.sum.l = (i : Int) := by unfold cB; rw [hfn]
    rw [hfz]; have hi : i < objs.length := by
     unfold aM at hfn; rw [List.findIdx?_eq_some_iff_getElem] at hfn; exact hfn.1
    have hnext : bv objs safe.length b = some (objs.eraseIdx i) := by
     rw [hstep]; unfold fj; rw [if_pos ⟨hok, hn, ⟨fun h => absurd h k80, fun h => by rw [hfn] at h; cases h⟩, fun h => k80 h.1⟩, if_neg k80, hfn]; rfl
    have ho2 : (objs.eraseIdx i).length ≤ 256 := by have := List.length_eraseIdx_le objs i; omega
    refine ab hF rfl ?_; refine gv hF (ag rfl rfl (by simp only [go_sem, ac, hbi, av, aB] <;> rfl)) ?_; refine gv hF (ae rfl rfl ((lf rfl).trans (by rw [hok]))) ?_; refine gv hF (eG rfl rfl (by exact fW _)) ?_; refine gv hF oM ?_; refine gv hF (ag rfl rfl (by simp only [go_sem, ac, hbi, av, aB] <;> rfl)) ?_; refine gv hF (ae rfl rfl (ou rfl)) ?_; refine gv hF oM ?_; refine gv hF (ah rfl rfl rfl (by exact iM _ _ _ _ _ (by omega))) ?_; refine gv hF (aU rfl rfl rfl) ?_; refine gv hF oM ?_; refine gv hF (ag rfl rfl (by simp only [go_sem, ac, hbi, av, aB] <;> rfl)) ?_; refine gv hF (ae rfl rfl (fI rfl)) ?_; refine gv hF (ah rfl rfl rfl (by exact jv _ _ _ _ _ (by omega))) ?_; refine gv hF oM ?_; refine gv hF (ah rfl rfl rfl (by exact eL _ _ _ _ _ (by omega))) ?_; refine gv hF (ah rfl rfl rfl (oD _ _ _ _ (by kernel_rfl) (by exact (rfl : _ = false)))) ?_; refine gv hF (aU rfl rfl rfl) ?_; refine gv hF oM ?_; refine gv hF (ag rfl rfl (by simp only [go_sem, ac, hbi, av, aB] <;> rfl)) ?_; refine gv hF (ae rfl rfl (fI rfl)) ?_; refine gv hF (ah rfl rfl rfl (by exact jv _ _ _ _ _ (by omega))) ?_; refine gv hF oM ?_; refine gp hF ?_; refine gp hF ?_; refine gp hF ?_; refine gp hF ?_; refine gv hF (aU rfl rfl rfl) ?_; refine gv hF (aU rfl rfl rfl) ?_; refine SmG.nil (aa ?_); refine aS hF rfl ?_; refine Sm.skip ?_; refine aa (Sm.seq (Sm.seq ?_)); refine ab hF rfl ?_; refine gv hF (ag rfl rfl (by simp only [go_sem, ac, hbi, av, aB] <;> rfl)) ?_; refine gv hF (ae rfl rfl (fI rfl)) ?_; refine gv hF (ah rfl rfl rfl (by exact jv _ _ _ _ _ (by omega))) ?_; refine SmG.nil (aa ?_); refine aS hF rfl ?_; have hf2 : St.to F ⟨[(0, .d (.list 1 (rs.map av) false)), (2, .ref 0 0 0), (3, .ref 1 0 0), (4, .d (.v (.int .i64 safe.length))), (6, .d (.v (.int .i64 i)))], [(3, dB 1 (safe.map av)), (2, dB 33 (objs.map Ob.row)), (1, ⟨3, [[.sref 2 0 objs.length, .sref 3 0 safe.length, .d (.list 0 [] true)]]⟩), (0, ⟨3, [[.d (.list 0 [] true), .d (.list 0 [] true), .d (.list 0 [] true)]]⟩)], 5⟩ ⟨[(0, .d (.list 1 (rs.map av) false)), (2, .ref 0 0 0), (3, .ref 1 0 0), (4, .d (.v (.int .i64 safe.length))), (6, .d (.v (.int .i64 i)))], [(3, dB 1 (safe.map av)), (1, ⟨3, [[.d (.list 33 (objs.map Ob.row) false), .sref 3 0 safe.length, .d (.list 0 [] true)]]⟩), (0, ⟨3, [[.d (.list 0 [] true), .d (.list 0 [] true), .d (.list 0 [] true)]]⟩)], 5⟩ := by
     have h := fm (F := F) (st := ⟨[(0, .d (.list 1 (rs.map av) false)), (2, .ref 0 0 0), (3, .ref 1 0 0), (4, .d (.v (.int .i64 safe.length))), (6, .d (.v (.int .i64 i)))], [(3, dB 1 (safe.map av)), (2, dB 33 (objs.map Ob.row)), (1, ⟨3, [[.sref 2 0 objs.length, .sref 3 0 safe.length, .d (.list 0 [] true)]]⟩), (0, ⟨3, [[.d (.list 0 [] true), .d (.list 0 [] true), .d (.list 0 [] true)]]⟩)], 5⟩) (l := 2) (objs.map Ob.row) rfl rfl; simp only [gL, bK, dh, rG, Br, reduceIte, Nat.reduceEqDiff] at h; simpa [cN, bc, ck] using h
    refine Sm.to (aR (cQ (st' := ⟨[(0, .d (.list 1 (rs.map av) false)), (2, .ref 0 0 0), (3, .ref 1 0 0), (4, .d (.v (.int .i64 safe.length))), (6, .d (.v (.int .i64 i)))], [(3, dB 1 (safe.map av)), (2, dB 33 (objs.map Ob.row)), (1, ⟨3, [[.sref 2 0 objs.length, .sref 3 0 safe.length, .d (.list 0 [] true)]]⟩), (0, ⟨3, [[.d (.list 0 [] true), .d (.list 0 [] true), .d (.list 0 [] true)]]⟩)], 5⟩) (aK ⟨rfl, rfl, rfl, rfl, rfl, trivial⟩ ⟨rfl, rfl, rfl, rfl, trivial⟩ (Nat.le_refl _))) hf2) ?_; refine ab hF rfl ?_; refine gv hF (ag rfl rfl (by simp only [go_sem, ac, hbi, av, aB] <;> rfl)) ?_; refine gv hF (ae rfl rfl (by simp only [go_sem, ac, hbi, av, aB] <;> rfl)) ?_; refine gv hF oM ?_; refine SmG.callO hF rfl rfl (by kernel_rfl) rfl rfl rfl (sq objs i (by omega) hi) ?_; refine gv hF (ag rfl rfl (by simp only [go_sem, ac, hbi, av, aB] <;> rfl)) ?_; refine SmG.store hF rfl rfl rfl rfl rfl (by simp only [go_sem, ac, hbi, av, aB] <;> rfl) ?_; refine SmG.nil (aa ?_); refine eQ hF (by kernel_rfl) rfl 7 (by kernel_rfl) (by kernel_rfl) ?_; simp only [List.take_succ_cons, List.take_zero, List.take_nil]; refine hv hF (ag rfl rfl (by simp only [go_sem, ac, hbi, av, aB] <;> rfl)) ?_; refine hv hF (ae rfl rfl (by simp only [go_sem, ac, hbi, av, aB] <;> rfl)) ?_; refine hv hF oM (hv hF oM ?_); refine hv hF (ak rfl rfl rfl (by simp only [go_sem, ac, hbi, av, aB] <;> rfl)) ?_; refine hv hF (ae rfl rfl (by simp only [go_sem, ac, hbi, av, aB] <;> rfl)) ?_; refine hv hF (ba rfl rfl (by simp only [go_sem, ac, hbi, av, aB] <;> rfl)) ?_; refine au.last ⟨rfl, ?_⟩; simp only [List.drop_succ_cons, List.drop_zero, List.drop_nil, List.nil_append, List.cons_append]; refine jk hF sI rfl rfl rfl rfl rfl rfl rfl (by (simp; done)) (Or.inl rfl) ?_ ?_ ?_; rotate_left; rotate_left; simp only [da, Pk.v, V.free, rep, dh, ck, mT, kM, nA, cD, List.map_cons, List.map_nil, bne_self_eq_false, Nat.reduceAdd, Nat.reduceBNe, Nat.reduceBEq, Nat.reduceEqDiff, reduceIte, Bool.false_eq_true]
    ·have hrs2 : safe.map av ++ [[D.list 1 (b.map ai) false]] = (safe ++ [b]).map av := by simp [av, aB]
     rw [hrs2, show ((objs.eraseIdx i).map Ob.row).length = (objs.eraseIdx i).length by simp, show ((safe ++ [b]).map av).length = (safe ++ [b]).length by simp]; refine gv hF (ag rfl rfl (by simp only [go_sem, ac, hbi, av, aB] <;> rfl)) ?_; refine SmG.store hF rfl rfl rfl rfl rfl (by simp only [go_sem, ac, hbi, av, aB] <;> rfl) ?_; refine SmG.nil (aI (aa ?_)); refine Sm.to (aR (cQ (st' := ⟨[(0, .d (.list 1 (rs.map av) false)), (2, .ref 0 0 0), (3, .ref 1 0 0), (4, .d (.v (.int .i64 safe.length)))], [(3, dB 1 ((safe ++ [b]).map av)), (5, dB 33 ((objs.eraseIdx i).map Ob.row)), (1, ⟨3, [[.sref 5 0 (objs.eraseIdx i).length, .sref 3 0 (safe ++ [b]).length, .d (.list 0 [] true)]]⟩), (0, ⟨3, [[.d (.list 0 [] true), .d (.list 0 [] true), .d (.list 0 [] true)]]⟩)], 6⟩) (aK ⟨rfl, rfl, rfl, rfl, trivial⟩ ⟨rfl, rfl, rfl, rfl, trivial⟩ (Nat.le_refl _))) (IL h0 hgt)) ?_; refine ab hF rfl ?_; refine gv hF oM ?_; refine gv hF (ah rfl rfl rfl (by exact eH _ _ _ _ _ (aY _ (by omega)))) ?_; refine gv hF oA (SmG.nil (aa ?_)); have he : (safe.length : Int) + 1 = ((safe ++ [b]).length : Int) := by simp
     rw [he]; refine ⟨⟨⟨objs.eraseIdx i, safe ++ [b], []⟩, rfl, ho2, by simp; omega, ?_⟩, by simp; omega, aK ⟨rfl, rfl, rfl, rfl, trivial⟩ ⟨rfl, rfl, rfl, rfl, trivial⟩ (Nat.le_refl _)⟩; rw [heq, hdr, cW, hnext]; simp
    ·simp; omega
    ·simp; omega
 ·refine Sm.seq (Sm.seq ?_); refine ab hF rfl ?_; refine gv hF oM (gv hF oM ?_); refine gv hF (aJ rfl rfl (by simp only [go_sem, ac] <;> rfl)) ?_; refine gv hF (ah rfl rfl rfl (by exact eL _ _ _ _ _ (by omega))) ?_; refine SmG.nil (aa ?_); refine aS hF rfl ?_; refine Sm.exit ?_; simp only [a9, bQ, reduceIte, reduceCtorEq]; refine Sm.to (aR (cQ (st' := ⟨[(2, .ref 0 0 0), (3, .ref 1 0 0)], [(3, dB 1 (safe.map av)), (2, dB 33 (objs.map Ob.row)), (1, ⟨3, [[.sref 2 0 objs.length, .sref 3 0 safe.length, .d (.list 0 [] true)]]⟩), (0, ⟨3, [[.d (.list 0 [] true), .d (.list 0 [] true), .d (.list 0 [] true)]]⟩)], 4⟩) (aK ⟨rfl, rfl, trivial⟩ ⟨rfl, rfl, rfl, rfl, trivial⟩ (Nat.le_refl _))) (hfrz 4)) ?_; refine Sm.seq ?_; refine ab hF rfl ?_; refine gv hF (ae rfl rfl (cE rfl)) ?_; refine SmG.store hF rfl rfl rfl rfl rfl (fc ip rfl rfl) ?_; refine SmG.nil (aa (Sm.ret ?_)); refine cG rfl rfl (gz ip nS rfl) ?_; have : safe.length = rs.length := by omega
  rw [heq, this, List.drop_length]; exact fM ⟨D.le.refl _, D.le.refl _, cd 0 1 true, trivial⟩
end
section
open Classical in
noncomputable def eK (a : List UInt8) : Option (Vec 32) := if a.length ≤ 1000000 then some (cu a) else none
noncomputable def iN : Con Tryd.prog HG nmS := ⟨47, [], [.lst .u8], .vec 32, fun a => eK a, false⟩
theorem qx {a : List UInt8} {r : Vec 32} (h : eK a = some r) : aj Tryd.prog HG 47 [.list 1 (a.map ai) false] (.agg 32 (ay r.l)) := by
 unfold eK at h; split at h
 ·cases h; exact pY a (by assumption) HG
 ·cases h
theorem kY : iN.Ok := ⟨fun _ a r h => qx h, fun h => by cases h⟩
open Classical in
noncomputable def iY (s : Sto) (k : UInt8) (x : List UInt8) : Option Sto := if s.safe.length ≤ 1000000 ∧ s.queue.length ≤ 1000000 ∧ x.length ≤ 100000 then some (lu s k x) else none
theorem vl {s r : Sto} {k : UInt8} {x : List UInt8} (h : iY s k x = some r) : aj Tryd.prog HG 65 [.agg 3 (Sto.row s), .v (.int .u8 (k.toNat : Int)), .list 1 (x.map ai) false] (.agg 3 (Sto.row r)) := by
 unfold iY at h; split at h
 ·rename_i hc; cases h; exact DD s k x hc.1 hc.2.1 hc.2.2
 ·cases h
noncomputable def ot : Con Tryd.prog HG nmS := ⟨65, [], [.nm 1, .u8, .lst .u8], .nm 1, fun a => iY a.1 a.2.1 a.2.2, false⟩
theorem vm : ot.Ok := ⟨fun _ a r h => vl h, fun h => by cases h⟩
open Classical in
noncomputable def jL (s : Sto) (x : List UInt8) : Option (Sto × Vec 32 × Int) := if s.objects.length ≤ 1000000 ∧ s.safe.length ≤ 1000000 ∧ s.queue.length ≤ 1000000 ∧ x.length ≤ 99000 then some (cZ s x) else none
theorem xf {s : Sto} {x : List UInt8} {r : Sto × Vec 32 × Int} (h : jL s x = some r) : aj Tryd.prog HG 40 [.agg 3 (Sto.row s), .list 1 (x.map ai) false] (.tup [.agg 3 (Sto.row r.1), .agg 32 (ay r.2.1.l), .v (.int .i64 r.2.2)]) := by
 unfold jL at h; split at h
 ·rename_i hc; cases h; exact I8 s x hc.1 hc.2.1 hc.2.2.1 hc.2.2.2
 ·cases h
noncomputable def qq : Con Tryd.prog HG nmS := ⟨40, [], [.nm 1, .lst .u8], .tup [.nm 1, .vec 32, .int .i64], fun a => jL a.1 a.2, false⟩
theorem xg : qq.Ok := ⟨fun _ a r h => xf h, fun h => by cases h⟩
open Classical in
noncomputable def dZ (rs : List (List UInt8)) : Option Sto := if rs.length ≤ 1000000 ∧ ∀ b ∈ rs, b.length ≤ 1000000 then some (cW [] [] rs) else none
theorem pn {rs : List (List UInt8)} {r : Sto} (h : dZ rs = some r) : aj Tryd.prog HG 32 [.list 1 (rs.map av) false] (.agg 3 (Sto.row r)) := by
 unfold dZ at h; split at h
 ·rename_i hc; cases h; exact E2 rs hc.1 hc.2
 ·cases h
noncomputable def ic : Con Tryd.prog HG nmS := ⟨32, [], [.lst (.lst .u8)], .nm 1, fun a => dZ a, false⟩
theorem kD : ic.Ok := ⟨fun _ a r h => pn h, fun h => by cases h⟩
noncomputable def tU : Con Tryd.prog HG nmS := ⟨14, [], [.nm 1], .bool, fun a => fo a, false⟩
theorem nw : tU.Ok := ⟨fun _ a r h => tT h, fun h => by cases h⟩
noncomputable def tQ : Con Tryd.prog HG nmS := ⟨25, [], [.nm 1, .lst .bool], .nm 1, fun a => iD a.1 a.2, false⟩
theorem nt : tQ.Ok := ⟨fun _ a r h => tP h, fun h => by cases h⟩
open Classical in
noncomputable def gJ (l : List Ob) (k : Vec 32) : Option Int := if l.length ≤ 4294967296 then some (cB l k.l) else none
theorem vk {l : List Ob} {k : Vec 32} {r : Int} (h : gJ l k = some r) : aj Tryd.prog HG 58 [.list 33 (l.map Ob.row) false, .agg 32 (ay k.l)] (.v (.int .i64 r)) := by
 unfold gJ at h; split at h
 ·cases h; exact qY l k (by assumption)
 ·cases h
noncomputable def k8 : Con Tryd.prog HG nmS := ⟨58, [], [.lst (.nm 0), .vec 32], .int .i64, fun a => gJ a.1 a.2, false⟩
theorem oq : k8.Ok := ⟨fun _ a r h => vk h, fun h => by cases h⟩
noncomputable def me : Con Tryd.prog HG nmS := ⟨59, [], [.lst (.nm 0), .int .i64], .lst (.nm 0), fun a => ez a.1 a.2, false⟩
theorem r4 : me.Ok := ⟨fun _ a r h => mc h, fun h => by cases h⟩
open Classical in
noncomputable def cP (n : Int) (x : List UInt8) : Option (List UInt8) := if 0 ≤ n ∧ x.length ≤ 100000 then some (ik n.toNat x) else none
theorem mg {n : Int} {x r : List UInt8} (h : cP n x = some r) : aj Tryd.prog HG 50 [.v (.int .i64 n), .list 1 (x.map ai) false] (.list 1 (r.map ai) false) := by
 unfold cP at h; split at h
 ·rename_i hc; cases h; have := zY n.toNat x hc.2; rwa [Int.toNat_of_nonneg hc.1] at this
 ·cases h
noncomputable def iQ : Con Tryd.prog HG nmS := ⟨50, [], [.int .i64, .lst .u8], .lst .u8, fun a => cP a.1 a.2, false⟩
theorem mh : iQ.Ok := ⟨fun _ a r h => mg h, fun h => by cases h⟩
open Classical in
noncomputable def cK (n : Int) (k : Vec 32) : Option (List UInt8) := if 0 ≤ n then some (ma n.toNat k.l) else none
theorem lV {n : Int} {k : Vec 32} {r : List UInt8} (h : cK n k = some r) : aj Tryd.prog HG 78 [.v (.int .i64 n), .agg 32 (ay k.l)] (.list 1 (r.map ai) false) := by
 unfold cK at h; split at h
 ·rename_i hc; cases h; have := ye n.toNat k; rwa [Int.toNat_of_nonneg hc] at this
 ·cases h
noncomputable def iw : Con Tryd.prog HG nmS := ⟨78, [], [.int .i64, .vec 32], .lst .u8, fun a => cK a.1 a.2, false⟩
theorem lW : iw.Ok := ⟨fun _ a r h => lV h, fun h => by cases h⟩
end
section
noncomputable def fH : Con Tryd.prog HG nmS := ⟨33, [], [.lst (.lst (.lst .u8))], .lst (.lst .u8), fun a => bi a, false⟩
theorem jJ : fH.Ok := ⟨fun _ a r h => jI h, fun h => by cases h⟩
noncomputable def sd : Option Sto :=
 some (⟨[], [], []⟩ : Sto)
theorem xd (a : Unit) : fp (cfA [] Tryd.f11.ntmps []) [] Tryd.f11 [] [] (.nm 1) (.e) a = sd := by kernel_rfl
noncomputable def xb : Con Tryd.prog HG nmS := ⟨11, [], [], (.nm 1), fun a => sd, false⟩
theorem xe : xb.Ok := gt .nil xd Tryd.func11 rfl
noncomputable def jK (a0 : Sto) (a1 : Vec 32) : Option (List UInt8 × Int) :=
 ob (gJ a0.objects a1) fun x1 =>
 bif (decide (x1 < 0)) then (
  some ([], 331)
 ) else (
  ob (idx a0.objects x1) fun x3 =>
  some (x3.data, 0)
 )
theorem w9 (a : Sto × (Vec 32)) : fp (cfA [k8] Tryd.f44.ntmps [2, 3]) [] Tryd.f44 [] [(.nm 1), (.vec 32)] (.pair (.lst .u8) (.int .i64)) (.nj (.br .e .e)) a = jK a.1 a.2 := by kernel_rfl
noncomputable def qp : Con Tryd.prog HG nmS := ⟨44, [], [(.nm 1), (.vec 32)], (.pair (.lst .u8) (.int .i64)), fun a => jK a.1 a.2, false⟩
theorem xa : qp.Ok := gt (.cons oq .nil) w9 Tryd.func44 rfl
noncomputable def iF (a0 : Sto) (a1 : Vec 32) : Option (Sto × Int) :=
 ob (gJ a0.objects a1) fun x1 =>
 bif (decide (x1 < 0)) then (
  some (a0, 331)
 ) else (
  ob (iY a0 (68 : UInt8) a1.l) fun x3 =>
  ob (ez x3.objects x1) fun x4 =>
  some ((⟨x4, x3.safe, x3.queue⟩ : Sto), 0)
 )
theorem tR (a : Sto × (Vec 32)) : fp (cfA [k8, ot, me] Tryd.f45.ntmps [3]) [] Tryd.f45 [] [(.nm 1), (.vec 32)] (.pair (.nm 1) (.int .i64)) (.nj (.br .e (.seg 2 .e))) a = iF a.1 a.2 := by kernel_rfl
noncomputable def nu : Con Tryd.prog HG nmS := ⟨45, [], [(.nm 1), (.vec 32)], (.pair (.nm 1) (.int .i64)), fun a => iF a.1 a.2, false⟩
theorem tS : nu.Ok := gt (.cons oq (.cons vm (.cons r4 .nil))) tR Tryd.func45 rfl
noncomputable def cH (a0 : Sto) : Option (List (List UInt8)) :=
 ob (app ([] : List (List UInt8)) a0.safe) fun x1 =>
 ob (app x1 a0.queue) fun x2 =>
 some x2
theorem qy (a : Sto) : fp (cfA [] Tryd.f16.ntmps [1]) [(7, 2)] Tryd.f16 [] [(.nm 1)] (.lst (.lst .u8)) (.e) a = cH a := by kernel_rfl
noncomputable def fT : Con Tryd.prog HG nmS := ⟨16, [], [(.nm 1)], (.lst (.lst .u8)), fun a => cH a, false⟩
theorem iO : fT.Ok := gt .nil qy Tryd.func16 rfl
noncomputable def gG (a0 : List Ob) (a1 : List Ob) (s2 : Int) : Option (Int ⊕ (Unit ⊕ Bool)) :=
 bif (decide (s2 < (a0.length : Int))) then (
  ob (idx a0 s2) fun x7 =>
  ob (idx a1 s2) fun x8 =>
  bif (!(x7.sum.l == x8.sum.l)) then (
   some (.inr (.inr false))
  ) else (
   ob (idx a0 s2) fun x10 =>
   ob (idx a1 s2) fun x11 =>
   bif (!(x10.data == x11.data)) then (
    some (.inr (.inr false))
   ) else (
    ob (arI .i64 (s2 + 1)) fun x13 =>
    some (.inl x13)
   )
  )
 ) else (
  some (.inr (.inl ()))
 )
noncomputable def bX (a0 : List Ob) (a1 : List Ob) : Option Bool :=
 bif ((a0.length : Int) != (a1.length : Int)) then (
  some false
 ) else (
  ob ((
   cL (gG a0 a1) 0
   : Option (Unit ⊕ Bool))) fun o15 => match o15 with
  | .inl v14 => (
   some true
   )
  | .inr e16 => some e16
 )
theorem lF (a : (List Ob) × (List Ob)) : fp (cfA [] Tryd.f17.ntmps []) [] Tryd.f17 [] [(.lst (.nm 0)), (.lst (.nm 0))] .bool (.nj (.br .e (.jn ⟨[], [], [], [], [], [], 0⟩ true (.lp [] ⟨[0, 1], [], [], [(5, (.int .i64))], [], [], 0⟩ (.nj (.br (.nj (.seg 24 (.br .e (.br .e .e)))) .e))) .e))) a = bX a.1 a.2 := by kernel_rfl
noncomputable def fa : Con Tryd.prog HG nmS := ⟨17, [], [(.lst (.nm 0)), (.lst (.nm 0))], .bool, fun a => bX a.1 a.2, false⟩
theorem gV : fa.Ok := gt .nil lF Tryd.func17 rfl
noncomputable def gH (a0 : List (List UInt8)) (a1 : List (List UInt8)) (s2 : Int) : Option (Int ⊕ (Unit ⊕ Bool)) :=
 bif (decide (s2 < (a0.length : Int))) then (
  ob (idx a0 s2) fun x7 =>
  ob (idx a1 s2) fun x8 =>
  bif (!(x7 == x8)) then (
   some (.inr (.inr false))
  ) else (
   ob (arI .i64 (s2 + 1)) fun x10 =>
   some (.inl x10)
  )
 ) else (
  some (.inr (.inl ()))
 )
noncomputable def bY (a0 : List (List UInt8)) (a1 : List (List UInt8)) : Option Bool :=
 bif ((a0.length : Int) != (a1.length : Int)) then (
  some false
 ) else (
  ob ((
   cL (gH a0 a1) 0
   : Option (Unit ⊕ Bool))) fun o12 => match o12 with
  | .inl v11 => (
   some true
   )
  | .inr e13 => some e13
 )
theorem lG (a : (List (List UInt8)) × (List (List UInt8))) : fp (cfA [] Tryd.f18.ntmps []) [] Tryd.f18 [] [(.lst (.lst .u8)), (.lst (.lst .u8))] .bool (.nj (.br .e (.jn ⟨[], [], [], [], [], [], 0⟩ true (.lp [] ⟨[0, 1], [], [], [(5, (.int .i64))], [], [], 0⟩ (.nj (.br (.nj (.seg 10 (.br .e .e))) .e))) .e))) a = bY a.1 a.2 := by kernel_rfl
noncomputable def gW : Con Tryd.prog HG nmS := ⟨18, [], [(.lst (.lst .u8)), (.lst (.lst .u8))], .bool, fun a => bY a.1 a.2, false⟩
theorem lH : gW.Ok := gt .nil lG Tryd.func18 rfl
noncomputable def e9 (a0 : Sto) (a1 : Sto) : Option Bool :=
 ob (bX a0.objects a1.objects) fun x1 =>
 bif x1 then (
  ob (bY a0.safe a1.safe) fun x3 =>
  bif x3 then (
   ob (bY a0.queue a1.queue) fun x5 =>
   some x5
  ) else (
   some false
  )
 ) else (
  some false
 )
theorem pt (a : Sto × Sto) : fp (cfA [fa, gW] Tryd.f26.ntmps [2, 3]) [] Tryd.f26 [] [(.nm 1), (.nm 1)] .bool (.br (.br .e .e) .e) a = e9 a.1 a.2 := by kernel_rfl
noncomputable def kF : Con Tryd.prog HG nmS := ⟨26, [], [(.nm 1), (.nm 1)], .bool, fun a => e9 a.1 a.2, false⟩
theorem pu : kF.Ok := gt (.cons gV (.cons lH .nil)) pt Tryd.func26 rfl
noncomputable def iX (a0 : Sto) : Option Sto :=
 ob (bi [a0.safe, a0.queue]) fun x1 =>
 some (⟨a0.objects, x1, []⟩ : Sto)
theorem vh (a : Sto) : fp (cfA [fH] Tryd.f27.ntmps [1]) [] Tryd.f27 [] [(.nm 1)] (.nm 1) (.seg 8 .e) a = iX a := by kernel_rfl
noncomputable def vg : Con Tryd.prog HG nmS := ⟨27, [], [(.nm 1)], (.nm 1), fun a => iX a, false⟩
theorem vj : vg.Ok := gt (.cons jJ .nil) vh Tryd.func27 rfl
noncomputable def dv (a0 : Sto) (a1 : List UInt8) : Option Sto :=
 ob (app ([] : List (List UInt8)) a0.queue) fun x1 =>
 ob (app x1 [a1]) fun x2 =>
 some (⟨a0.objects, a0.safe, x2⟩ : Sto)
theorem nZ (a : Sto × (List UInt8)) : fp (cfA [] Tryd.f49.ntmps []) [(9, 2)] Tryd.f49 [] [(.nm 1), (.lst .u8)] (.nm 1) (.e) a = dv a.1 a.2 := by kernel_rfl
noncomputable def gm : Con Tryd.prog HG nmS := ⟨49, [], [(.nm 1), (.lst .u8)], (.nm 1), fun a => dv a.1 a.2, false⟩
theorem jG : gm.Ok := gt .nil nZ Tryd.func49 rfl
noncomputable def ee (a0 : Sto) : Option Sto :=
 ob (cH a0) fun x1 =>
 some (⟨a0.objects, x1, []⟩ : Sto)
theorem pz (a : Sto) : fp (cfA [fT] Tryd.f63.ntmps [1]) [] Tryd.f63 [] [(.nm 1)] (.nm 1) (.seg 4 .e) a = ee a := by kernel_rfl
noncomputable def kH : Con Tryd.prog HG nmS := ⟨63, [], [(.nm 1)], (.nm 1), fun a => ee a, false⟩
theorem pA : kH.Ok := gt (.cons iO .nil) pz Tryd.func63 rfl
noncomputable def dO (a0 : Sto) (a1 : List Bool) (s2 : (Int × (List (List UInt8)))) : Option ((Int × (List (List UInt8))) ⊕ List (List UInt8)) :=
 bif (decide (s2.1 < (a0.queue.length : Int))) then (
  bif (decide (s2.1 < (a1.length : Int))) then (
   ob ((
    ob (idx a1 s2.1) fun x8 =>
    bif x8 then (
     ob (idx a0.queue s2.1) fun x10 =>
     ob (app s2.2 [x10]) fun x11 =>
     some x11
    ) else (
     some s2.2
    )
    : Option (List (List UInt8)))) fun v12 =>
   ob (arI .i64 (s2.1 + 1)) fun x13 =>
   some (.inl (x13, v12))
  ) else (
   some (.inr s2.2)
  )
 ) else (
  some (.inr s2.2)
 )
noncomputable def eM (a0 : Sto) (a1 : List Bool) : Option Sto :=
 ob (app ([] : List (List UInt8)) a0.safe) fun x1 =>
 ob ((
  cL (dO a0 a1) (0, x1)
  : Option (List (List UInt8)))) fun v14 =>
 ob (dZ v14) fun x15 =>
 some x15
theorem oe (a : Sto × (List Bool)) : fp (cfA [ic] Tryd.f64.ntmps [2]) [(10, 2)] Tryd.f64 [] [(.nm 1), (.lst .bool)] (.nm 1) (.jn ⟨[4], [(5, 1)], [0], [], [(1, (.lst .u8))], [], 2⟩ false (.lp [] ⟨[1, 2, 4], [(5, 1)], [0], [(6, (.int .i64))], [(1, (.lst .u8))], [], 2⟩ (.nj (.br (.br (.jn ⟨[1, 2, 4, 6, 17, 18, 19, 20], [(5, 1)], [0], [], [(1, (.lst .u8))], [], 2⟩ false (.br .e .e) .e) .e) .e))) .e) a = eM a.1 a.2 := by kernel_rfl
noncomputable def ki : Con Tryd.prog HG nmS := ⟨64, [], [(.nm 1), (.lst .bool)], (.nm 1), fun a => eM a.1 a.2, false⟩
theorem og : ki.Ok := gt (.cons kD .nil) oe Tryd.func64 rfl
noncomputable def dK (a0 : Sto) : Option Bool :=
 ob (cH a0) fun x1 =>
 ob (dZ x1) fun x2 =>
 bif ((x2.safe.length : Int) == (x1.length : Int)) then (
  ob (bX x2.objects a0.objects) fun x4 =>
  some x4
 ) else (
  some false
 )
theorem om (a : Sto) : fp (cfA [fT, ic, fa] Tryd.f13.ntmps [1]) [] Tryd.f13 [] [(.nm 1)] .bool (.br .e .e) a = dK a := by kernel_rfl
noncomputable def kl : Con Tryd.prog HG nmS := ⟨13, [], [(.nm 1)], .bool, fun a => dK a, false⟩
theorem fi : kl.Ok := gt (.cons iO (.cons kD (.cons gV .nil))) om Tryd.func13 rfl
noncomputable def cA (a0 : Sto) (a1 : List UInt8) : Option Std :=
 ob (jL a0 a1) fun x1 =>
 some (⟨x1.1, x1.2.1, x1.2.2⟩ : Std)
theorem nY (a : Sto × (List UInt8)) : fp (cfA [qq] Tryd.f20.ntmps [2]) [] Tryd.f20 [] [(.nm 1), (.lst .u8)] (.nm 4) (.e) a = cA a.1 a.2 := by kernel_rfl
noncomputable def jF : Con Tryd.prog HG nmS := ⟨20, [], [(.nm 1), (.lst .u8)], (.nm 4), fun a => cA a.1 a.2, false⟩
theorem dN : jF.Ok := gt (.cons xg .nil) nY Tryd.func20 rfl
noncomputable def dY (a0 : Sto) (a1 : Vec 32) : Option Std :=
 ob (iF a0 a1) fun x1 =>
 some (⟨x1.1, (⟨List.replicate 32 0, rfl⟩ : Vec 32), x1.2⟩ : Std)
theorem na (a : Sto × (Vec 32)) : fp (cfA [nu] Tryd.f23.ntmps [2, 3]) [] Tryd.f23 [] [(.nm 1), (.vec 32)] (.nm 4) (.e) a = dY a.1 a.2 := by kernel_rfl
noncomputable def jx : Con Tryd.prog HG nmS := ⟨23, [], [(.nm 1), (.vec 32)], (.nm 4), fun a => dY a.1 a.2, false⟩
theorem jy : jx.Ok := gt (.cons tS .nil) na Tryd.func23 rfl
noncomputable def eJ (a0 : Sto) (a1 : Vec 32) : Option Gott :=
 ob (jK a0 a1) fun x1 =>
 some (⟨x1.1, x1.2⟩ : Gott)
theorem qw (a : Sto × (Vec 32)) : fp (cfA [qp] Tryd.f22.ntmps [2, 3]) [] Tryd.f22 [] [(.nm 1), (.vec 32)] (.nm 5) (.e) a = eJ a.1 a.2 := by kernel_rfl
noncomputable def qv : Con Tryd.prog HG nmS := ⟨22, [], [(.nm 1), (.vec 32)], (.nm 5), fun a => eJ a.1 a.2, false⟩
theorem kX : qv.Ok := gt (.cons xa .nil) qw Tryd.func22 rfl
noncomputable def dt (a0 : Std) (a1 : Std) : Option Bool :=
 ob (e9 a0.s a1.s) fun x1 =>
 bif x1 then (
  bif (a0.k.l == a1.k.l) then (
   some (a0.e == a1.e)
  ) else (
   some false
  )
 ) else (
  some false
 )
theorem lU (a : Std × Std) : fp (cfA [kF] Tryd.f29.ntmps [2, 3]) [] Tryd.f29 [] [(.nm 4), (.nm 4)] .bool (.br (.br .e .e) .e) a = dt a.1 a.2 := by kernel_rfl
noncomputable def ir : Con Tryd.prog HG nmS := ⟨29, [], [(.nm 4), (.nm 4)], .bool, fun a => dt a.1 a.2, false⟩
theorem iu : ir.Ok := gt (.cons pu .nil) lU Tryd.func29 rfl
end
section
open Classical in
noncomputable def k6 (l : List Ob) (k : Vec 32) : Option Int := if l.length ≤ 4294967296 then some (cB l k.l) else none
theorem Bz {l : List Ob} {k : Vec 32} {r : Int} (h : k6 l k = some r) : aj Tryd.prog HG 30 [.list 33 (l.map Ob.row) false, .agg 32 (ay k.l)] (.v (.int .i64 r)) := by
 unfold k6 at h; split at h
 ·cases h; exact yu l k (by assumption)
 ·cases h
noncomputable def ib : Con Tryd.prog HG nmS := ⟨30, [], [.lst (.nm 0), .vec 32], .int .i64, fun a => k6 a.1 a.2, false⟩
theorem kC : ib.Ok := ⟨fun _ a r h => Bz h, fun h => by cases h⟩
open Classical in
noncomputable def jD (l : List Ob) (i : Int) : Option (List Ob) := if l.length ≤ 1000000 ∧ 0 ≤ i ∧ i < (l.length : Int) then some (l.eraseIdx i.toNat) else none
theorem w7 {l r : List Ob} {i : Int} (h : jD l i = some r) : aj Tryd.prog HG 51 [.list 33 (l.map Ob.row) false, .v (.int .i64 i)] (.list 33 (r.map Ob.row) false) := by
 unfold jD at h; split at h
 ·rename_i hc; cases h; have := (sq l i.toNat hc.1 (by omega)).data; rwa [Int.toNat_of_nonneg hc.2.1] at this
 ·cases h
noncomputable def jz : Con Tryd.prog HG nmS := ⟨51, [], [.lst (.nm 0), .int .i64], .lst (.nm 0), fun a => jD a.1 a.2, false⟩
theorem nc : jz.Ok := ⟨fun _ a r h => w7 h, fun h => by cases h⟩
noncomputable def ft (a0 : Sto) (a1 : List UInt8) : Option Std :=
 bif (decide (65536 < (a1.length : Int))) then (
  some (⟨a0, (⟨List.replicate 32 0, rfl⟩ : Vec 32), 2⟩ : Std)
 ) else (
  ob (eK a1) fun x2 =>
  ob (k6 a0.objects x2) fun x3 =>
  bif (decide (0 ≤ x3)) then (
   some (⟨a0, x2, 0⟩ : Std)
  ) else (
   bif (decide (256 ≤ (a0.objects.length : Int))) then (
    some (⟨a0, (⟨List.replicate 32 0, rfl⟩ : Vec 32), 330⟩ : Std)
   ) else (
    ob (app ([] : List Ob) a0.objects) fun x6 =>
    ob (arI .i64 ((a0.safe.length : Int) + (a0.queue.length : Int))) fun x7 =>
    ob (cP x7 a1) fun x8 =>
    ob (dv a0 x8) fun x9 =>
    ob (app ([] : List UInt8) a1) fun x10 =>
    ob (app x6 [(⟨x2, x10⟩ : Ob)]) fun x11 =>
    some (⟨(⟨x11, x9.safe, x9.queue⟩ : Sto), x2, 0⟩ : Std)
   )
  )
 )
theorem qz (a : Sto × (List UInt8)) : fp (cfA [iN, ib, iQ, gm] Tryd.f31.ntmps []) [(31, 2)] Tryd.f31 [] [(.nm 1), (.lst .u8)] (.nm 4) (.nj (.br .e (.nj (.br .e (.nj (.br .e (.seg 10 (.seg 7 .e)))))))) a = ft a.1 a.2 := by kernel_rfl
noncomputable def kZ : Con Tryd.prog HG nmS := ⟨31, [], [(.nm 1), (.lst .u8)], (.nm 4), fun a => ft a.1 a.2, false⟩
theorem qA : kZ.Ok := gt (.cons kY (.cons kC (.cons mh (.cons jG .nil)))) qz Tryd.func31 rfl
noncomputable def eN (a0 : Sto) (a1 : Vec 32) : Option Std :=
 ob (k6 a0.objects a1) fun x1 =>
 bif (decide (x1 < 0)) then (
  some (⟨a0, (⟨List.replicate 32 0, rfl⟩ : Vec 32), 331⟩ : Std)
 ) else (
  ob (arI .i64 ((a0.safe.length : Int) + (a0.queue.length : Int))) fun x3 =>
  ob (cK x3 a1) fun x4 =>
  ob (dv a0 x4) fun x5 =>
  ob (jD x5.objects x1) fun x6 =>
  some (⟨(⟨x6, x5.safe, x5.queue⟩ : Sto), (⟨List.replicate 32 0, rfl⟩ : Vec 32), 0⟩ : Std)
 )
theorem oh (a : Sto × (Vec 32)) : fp (cfA [ib, iw, gm, jz] Tryd.f62.ntmps [3]) [] Tryd.f62 [] [(.nm 1), (.vec 32)] (.nm 4) (.nj (.br .e (.seg 10 .e))) a = eN a.1 a.2 := by kernel_rfl
noncomputable def kj : Con Tryd.prog HG nmS := ⟨62, [], [(.nm 1), (.vec 32)], (.nm 4), fun a => eN a.1 a.2, false⟩
theorem ol : kj.Ok := gt (.cons kC (.cons lW (.cons jG (.cons nc .nil)))) oh Tryd.func62 rfl
noncomputable def fb (a0 : Sto) (a1 : SRaw) : Option Sto :=
 ob (slc a1.data 0 (min (a1.data.length : Int) 40)) fun x1 =>
 ob (rn (a1.kind.toNat : Int) 8) fun x2 =>
 ob ((
  bif (x2 == 0) then (
   some (x2 == 0)
  ) else (
   bif (x2 == 1) then (
    some (x2 == 1)
   ) else (
    bif (x2 == 2) then (
     some (x2 == 2)
    ) else (
     some (x2 == 3)
    )
   )
  )
  : Option Bool)) fun v6 =>
 bif v6 then (
  ob (ft a0 x1) fun x8 =>
  some x8.s
 ) else (
  ob ((
   bif (x2 == 4) then (
    some (x2 == 4)
   ) else (
    some (x2 == 5)
   )
   : Option Bool)) fun v10 =>
  bif v10 then (
   ob (eK x1) fun x12 =>
   ob (eN a0 x12) fun x13 =>
   some x13.s
  ) else (
   bif (x2 == 6) then (
    ob (ee a0) fun x15 =>
    some x15
   ) else (
    ob (eM a0 a1.keep) fun x16 =>
    some x16
   )
  )
 )
theorem pv (a : Sto × SRaw) : fp (cfA [kZ, iN, kj, kH, ki] Tryd.f39.ntmps [2, 3]) [] Tryd.f39 [] [(.nm 1), (.nm 2)] (.nm 1) (.nj (.jn ⟨[2, 3, 4, 5, 15], [], [0], [(16, .bool)], [], [], 1⟩ false (.br .e (.br .e (.br .e .e))) (.br .e (.jn ⟨[2, 3, 4, 5, 15], [], [0], [(25, .bool)], [], [], 1⟩ false (.br .e .e) (.br (.seg 3 .e) (.br .e .e)))))) a = fb a.1 a.2 := by kernel_rfl
noncomputable def kG : Con Tryd.prog HG nmS := ⟨39, [], [(.nm 1), (.nm 2)], (.nm 1), fun a => fb a.1 a.2, false⟩
theorem pw : kG.Ok := gt (.cons qA (.cons kY (.cons ol (.cons pA (.cons og .nil))))) pv Tryd.func39 rfl
noncomputable def ed (a0 : List SRaw) (a1 : Int) (s1 : (Int × (List Ob) × (List (List UInt8)) × (List (List UInt8)))) : Option ((Int × (List Ob) × (List (List UInt8)) × (List (List UInt8))) ⊕ ((List Ob) × (List (List UInt8)) × (List (List UInt8)))) :=
 bif (decide (s1.1 < (a0.length : Int))) then (
  bif (decide (s1.1 < a1)) then (
   ob (idx a0 s1.1) fun x7 =>
   ob (fb (⟨s1.2.1, s1.2.2.1, s1.2.2.2⟩ : Sto) x7) fun x8 =>
   ob (arI .i64 (s1.1 + 1)) fun x9 =>
   some (.inl (x9, x8.objects, x8.safe, x8.queue))
  ) else (
   some (.inr (s1.2.1, s1.2.2.1, s1.2.2.2))
  )
 ) else (
  some (.inr (s1.2.1, s1.2.2.1, s1.2.2.2))
 )
noncomputable def e8 (a0 : List SRaw) (a1 : Int) : Option Sto :=
 ob ((
  cL (ed a0 a1) (0, [], [], [])
  : Option ((List Ob) × (List (List UInt8)) × (List (List UInt8))))) fun v10 =>
 some (⟨v10.1, v10.2.1, v10.2.2⟩ : Sto)
theorem pp (a : (List SRaw) × Int) : fp (cfA [kG] Tryd.f19.ntmps []) [] Tryd.f19 [] [(.lst (.nm 2)), (.int .i64)] (.nm 1) (.jn ⟨[4, 5], [], [0], [], [], [(1, [some (.lst (.nm 0)), some (.lst (.lst .u8)), some (.lst (.lst .u8))])], 2⟩ false (.lp [] ⟨[0, 1, 4, 5], [], [0], [(6, (.int .i64))], [], [(1, [some (.lst (.nm 0)), some (.lst (.lst .u8)), some (.lst (.lst .u8))])], 2⟩ (.nj (.br (.br (.nj (.seg 5 .e)) .e) .e))) .e) a = e8 a.1 a.2 := by kernel_rfl
noncomputable def kE : Con Tryd.prog HG nmS := ⟨19, [], [(.lst (.nm 2)), (.int .i64)], (.nm 1), fun a => e8 a.1 a.2, false⟩
theorem pq : kE.Ok := gt (.cons pw .nil) pp Tryd.func19 rfl
end
section
theorem u6 {n : Nat} (h : n < 4294967296) : be (bE n) = n := by
 simp only [bE, be, List.foldl_cons, List.foldl_nil, UInt8.toNat_ofNat']; omega
theorem m6 (n : Nat) : (bE n).length = 4 := rfl
theorem Aa (x : List UInt8) : (x ++ Sha.sum x).take ((x ++ Sha.sum x).length - 32) = x := by
 have : (Sha.sum x).length = 32 := Sha.out_length _; rw [List.length_append, this, Nat.add_sub_cancel, List.take_left']; rfl
theorem z9 (x : List UInt8) : (x ++ Sha.sum x).drop ((x ++ Sha.sum x).length - 32) = Sha.sum x := by
 have : (Sha.sum x).length = 32 := Sha.out_length _; rw [List.length_append, this, Nat.add_sub_cancel, List.drop_left']; rfl
theorem qo (o : List Ob) (n : Nat) (x : List UInt8) : bv o n (x ++ Sha.sum x) = qK o n x := by
 have h32 : (Sha.sum x).length = 32 := Sha.out_length _; unfold bv; rw [if_neg (by simp [h32]), Aa, z9, if_neg (by simp)]
theorem Be {o : List Ob} {n : Nat} {x : List UInt8} (hn : n < 4294967296) (hx : x.length ≤ 65536) (hf : aM o (Sha.sum x) = none) (ho : o.length < 256) : bv o n (ik n x) = some (o ++ [⟨cu x, x⟩]) := by
 unfold ik; rw [qo, er]; have h4 := m6 n; have h4' := m6 x.length; have e1 : (bE n ++ bE x.length ++ x).take 4 = bE n := by rw [List.append_assoc, List.take_left' h4]
 have e2 : (bE n ++ bE x.length ++ x).drop 4 = bE x.length ++ x := by rw [List.append_assoc, List.drop_left' h4]
 rw [if_neg (by simp [h4]), e1, e2, u6 hn, if_neg (by simp)]; unfold fY; have e3 : (bE x.length ++ x).take 4 = bE x.length := List.take_left' h4'; have e4 : (bE x.length ++ x).drop 4 = x := List.drop_left' h4'; rw [if_pos (by decide), e3, e4, u6 (by omega), if_neg (by simp [h4'])]; unfold gk; rw [if_neg (by simp), List.take_length, if_pos ⟨hx, hf, ho⟩]
theorem zC {o : List Ob} {n i : Nat} {k : List UInt8} (hn : n < 4294967296) (hk : k.length = 32) (hf : aM o k = some i) : bv o n (ma n k) = some (o.eraseIdx i) := by
 unfold ma; rw [qo, er]; have h4 := m6 n; have e1 : (bE n ++ k).take 4 = bE n := List.take_left' h4; have e2 : (bE n ++ k).drop 4 = k := List.drop_left' h4; rw [if_neg (by simp [h4]), e1, e2, u6 hn, if_neg (by simp)]; unfold fY; rw [if_neg (by decide), if_pos (by decide), if_neg (by omega)]; unfold fF; rw [if_neg (by simp [hk]), List.take_of_length_le (by omega), hf]
theorem Bc {o o' o2 o2' : List Ob} {n m : Nat} {b : List UInt8} (h : bv o n b = some o') (k : bv o2 m b = some o2') : n = m := by
 unfold bv at h k; split at h
 ·cases h
 split at h
 ·cases h
 rw [if_neg (by assumption), if_neg (by assumption)] at k; generalize b.take (b.length - 32) = B at h k; cases B with
 | nil => cases h
 | cons c r =>
  rw [er] at h k; split at h
  ·cases h
  split at h
  ·cases h
  rename_i h1 h2; rw [if_neg h1] at k; split at k
  ·cases k
  rename_i h3; simp only [ne_eq, Decidable.not_not] at h2 h3; rw [← h2, ← h3]
def gK (o : List Ob) (n : Nat) : List (List UInt8) → Option (List Ob)
 | [] => some o
 | b :: r => (bv o n b).bind fun o' => gK o' (n + 1) r
theorem se (o : List Ob) (n : Nat) (a b : List (List UInt8)) : gK o n (a ++ b) = (gK o n a).bind fun o' => gK o' (n + a.length) b := by
 induction a generalizing o n with
 | nil => rfl
 | cons x r ih =>
  simp only [List.cons_append, gK, List.length_cons]; cases bv o n x with
  | none => rfl
  | some o' =>
   simp only [Option.bind_some, ih]; rw [show n + 1 + r.length = n + (r.length + 1) by omega]
theorem ww (o : List Ob) (n : Nat) (a : List (List UInt8)) (b : List UInt8) {o' : List Ob} (h : gK o n a = some o') : gK o n (a ++ [b]) = bv o' (n + a.length) b := by
 rw [se, h]; simp only [Option.bind_some, gK]; cases bv o' (n + a.length) b <;> rfl
theorem ur : ∀ {l : List (List UInt8)} {o o' : List Ob} {s : List (List UInt8)}, gK o s.length l = some o' → cW o s l = ⟨o', s ++ l, []⟩
 | [], o, o', s, h => by cases h; simp [cW]
 | b :: r, o, o', s, h => by
  simp only [gK] at h; cases hb : bv o s.length b with
  | none => rw [hb] at h; cases h
  | some o1 =>
   rw [hb] at h; simp only [Option.bind_some] at h; rw [cW, hb]; simp only; rw [ur (s := s ++ [b]) (by simpa using h)]; simp
theorem rg : ∀ (l : List (List UInt8)) (o : List Ob) (s : List (List UInt8)), ∃ (a : List (List UInt8)) (o' : List Ob), a <+: l ∧ gK o s.length a = some o' ∧ cW o s l = ⟨o', s ++ a, []⟩
 | [], o, s => ⟨[], o, List.prefix_refl _, rfl, by simp [cW]⟩
 | b :: r, o, s => by
  rw [cW]; cases hb : bv o s.length b with
  | none => exact ⟨[], o, List.nil_prefix, rfl, by simp⟩
  | some o1 =>
   obtain ⟨a, o', h1, h2, h3⟩ := rg r o1 (s ++ [b]); refine ⟨b :: a, o', by rw [List.cons_prefix_cons]; exact ⟨rfl, h1⟩, ?_, by simp only [h3]; simp⟩; simp only [gK, hb, Option.bind_some]; simpa using h2
theorem wx {l : List (List UInt8)} {o o' : List Ob} {n : Nat} (h : gK o n l = some o') (k : Nat) : ∃ o1, gK o n (l.take k) = some o1 := by
 rw [← List.take_append_drop k l, se] at h; cases hq : gK o n (l.take k) with
 | none => rw [hq] at h; cases h
 | some o1 => exact ⟨o1, rfl⟩
theorem Gi {l : List (List UInt8)} {o o' : List Ob} {n i : Nat} {b : List UInt8} (h : gK o n l = some o') (hi : l[i]? = some b) : ∃ o1 o2, gK o n (l.take i) = some o1 ∧ bv o1 (n + i) b = some o2 := by
 obtain ⟨o1, h1⟩ := wx h i; obtain ⟨o2, h2⟩ := wx h (i + 1); have hl := (List.getElem?_eq_some_iff.1 hi).1; rw [List.take_add_one, hi] at h2; simp only [Option.toList_some] at h2; rw [ww _ _ _ _ h1, List.length_take, Nat.min_eq_left (by omega)] at h2; exact ⟨o1, o2, h1, h2⟩
def cY (s : Sto) : List (List UInt8) := s.safe ++ s.queue
def nh (s : Sto) : Prop := gK [] 0 (cY s) = some s.objects
theorem nh.open {s : Sto} (h : nh s) : cW [] [] (cY s) = ⟨s.objects, cY s, []⟩ := by
 have := ur (s := []) (l := cY s) (o := []) h; simpa using this
theorem De (l : List (List UInt8)) : nh (cW [] [] l) := by
 obtain ⟨a, o', h1, h2, h3⟩ := rg l [] []; rw [h3]; simpa [nh, cY] using h2
structure ObsOk (m : Nat) (o : List Ob) : Prop where
 sum : ∀ x ∈ o, x.sum.l = Sha.sum x.data
 len : ∀ x ∈ o, x.data.length ≤ m
 dis : (o.map fun x => x.sum.l).Nodup
theorem tX {o : List Ob} {k : List UInt8} : aM o k = none ↔ ∀ x ∈ o, x.sum.l ≠ k := by
 unfold aM; simp [List.findIdx?_eq_none_iff]
theorem pE {o : List Ob} {k : List UInt8} {i : Nat} (h : aM o k = some i) : ∃ x, o[i]? = some x ∧ x.sum.l = k := by
 unfold aM at h; rw [List.findIdx?_eq_some_iff_getElem] at h; obtain ⟨hi, h1, _⟩ := h; exact ⟨o[i], by simp [hi], by simpa using h1⟩
theorem mR {o : List Ob} (hd : (o.map fun x => x.sum.l).Nodup) {i : Nat} {x : Ob} (hx : o[i]? = some x) : aM o x.sum.l = some i := by
 cases h : aM o x.sum.l with
 | none => exact absurd rfl (tX.1 h x (List.mem_of_getElem? hx))
 | some j =>
  obtain ⟨y, hy, he⟩ := pE h; have h1 : (o.map fun x => x.sum.l)[j]? = some x.sum.l := by simp [hy, he]
  have h2 : (o.map fun x => x.sum.l)[i]? = some x.sum.l := by simp [hx]
  have hj := (List.getElem?_eq_some_iff.1 h1)
  have hi := (List.getElem?_eq_some_iff.1 h2)
  rcases Nat.lt_trichotomy j i with hlt | rfl | hlt
  ·exact absurd (hj.2.trans hi.2.symm) (List.pairwise_iff_getElem.1 hd j i hj.1 hi.1 hlt)
  ·rfl
  ·exact absurd (hi.2.trans hj.2.symm) (List.pairwise_iff_getElem.1 hd i j hi.1 hj.1 hlt)
theorem CI {m : Nat} {o o' : List Ob} {n : Nat} {b : List UInt8} (ho : ObsOk m o) (hb : b.length ≤ m) (h : bv o n b = some o') : ObsOk m o' ∧ o'.length ≤ o.length + 1 := by
 unfold bv at h; split at h
 ·cases h
 split at h
 ·cases h
 have hB : (b.take (b.length - 32)).length ≤ m := by simp; omega
 generalize b.take (b.length - 32) = B at h hB; cases B with
 | nil => cases h
 | cons c r =>
  rw [er] at h; split at h
  ·cases h
  split at h
  ·cases h
  unfold fY at h; split at h
  ·split at h
   ·cases h
   ·unfold gk at h; split at h
    ·cases h
    split at h
    ·rename_i hc; cases h; have hxl : (((r.drop 4).drop 4).take (be ((r.drop 4).take 4))).length ≤ m := by simp at hB ⊢; omega
     generalize ((r.drop 4).drop 4).take (be ((r.drop 4).take 4)) = x at hc hxl; refine ⟨⟨fun y hy => ?_, fun y hy => ?_, ?_⟩, by simp⟩
     ·rcases List.mem_append.1 hy with hy | hy
      ·exact ho.sum y hy
      ·simp at hy; subst hy; rfl
     ·rcases List.mem_append.1 hy with hy | hy
      ·exact ho.len y hy
      ·simp at hy; subst hy; exact hxl
     ·rw [List.map_append, List.nodup_append]; refine ⟨ho.dis, by simp, fun a ha b hb => ?_⟩; simp at hb; subst hb; obtain ⟨y, hy, rfl⟩ := List.mem_map.1 ha; exact tX.1 hc.2.1 y hy
    ·cases h
  ·split at h
   ·split at h
    ·cases h
    ·unfold fF at h; split at h
     ·cases h
     split at h
     ·cases h
     ·cases h; rename_i i _; have hsub : (o.eraseIdx i).Sublist o := List.eraseIdx_sublist ..; refine ⟨⟨fun y hy => ho.sum y (hsub.mem hy), fun y hy => ho.len y (hsub.mem hy), (hsub.map _).nodup ho.dis⟩, ?_⟩; have := hsub.length_le; omega
   ·cases h
theorem As {m : Nat} : ∀ {l : List (List UInt8)} {o o' : List Ob} {n : Nat}, ObsOk m o → (∀ b ∈ l, b.length ≤ m) → gK o n l = some o' → ObsOk m o' ∧ o'.length ≤ o.length + l.length
 | [], o, o', n, ho, _, h => by cases h; exact ⟨ho, by simp⟩
 | b :: r, o, o', n, ho, hb, h => by
  simp only [gK] at h; cases hq : bv o n b with
  | none => rw [hq] at h; cases h
  | some o1 =>
   rw [hq] at h; simp only [Option.bind_some] at h; obtain ⟨h1, h2⟩ := CI ho (hb b (by simp)) hq; obtain ⟨h3, h4⟩ := As h1 (fun x hx => hb x (by simp [hx])) h; exact ⟨h3, by simp only [List.length_cons]; omega⟩
theorem Dt (m : Nat) : ObsOk m [] := ⟨by simp, by simp, by simp⟩
structure SInv (m : Nat) (s : Sto) : Prop where
 good : nh s
 num : s.safe.length + s.queue.length ≤ m
 len : ∀ b ∈ cY s, b.length ≤ 2000
theorem SInv.obs {m : Nat} {s : Sto} (h : SInv m s) : ObsOk 2000 s.objects ∧ s.objects.length ≤ m := by
 obtain ⟨h1, h2⟩ := As (Dt 2000) h.len h.good; have := h.num; simp only [cY, List.length_append, List.length_nil, Nat.zero_add] at h2; exact ⟨h1, by omega⟩
theorem SInv.mono {m m' : Nat} {s : Sto} (h : SInv m s) (k : m ≤ m') : SInv m' s := ⟨h.good, Nat.le_trans h.num k, h.len⟩
def mb : Sto := ⟨[], [], []⟩
theorem EM : SInv 0 mb := ⟨rfl, Nat.le_refl _, by simp [mb, cY]⟩
theorem SInv.push {m : Nat} {s : Sto} (h : SInv m s) {b : List UInt8} {o : List Ob} (hb : b.length ≤ 2000) (ha : bv s.objects (s.safe.length + s.queue.length) b = some o) : SInv (m + 1) ⟨o, s.safe, s.queue ++ [b]⟩ := by
 have e : cY ⟨o, s.safe, s.queue ++ [b]⟩ = cY s ++ [b] := by simp [cY]
 refine ⟨?_, by have := h.num; simp; omega, fun x hx => ?_⟩
 ·unfold nh; rw [e, ww _ _ _ _ h.good]; have : (cY s).length = s.safe.length + s.queue.length := by simp [cY]
  rw [Nat.zero_add, this]; exact ha
 ·rw [e] at hx; rcases List.mem_append.1 hx with hx | hx
  ·exact h.len x hx
  ·simp at hx; subst hx; exact hb
theorem E9 (n : Nat) (x : List UInt8) : (ik n x).length = x.length + 41 := by
 have : ∀ y, (Sha.sum y).length = 32 := fun y => Sha.out_length _
 simp [ik, this, m6]; omega
theorem E8 (n : Nat) {k : List UInt8} (hk : k.length = 32) : (ma n k).length = 69 := by
 have : ∀ y, (Sha.sum y).length = 32 := fun y => Sha.out_length _
 simp [ma, this, m6, hk]
def evF (s : Sto) (k : Vec 32) : Sto := match aM s.objects k.l with
 | none => s
 | some i => ⟨s.objects.eraseIdx i, s.safe, s.queue ++ [ma (s.safe.length + s.queue.length) k.l]⟩
theorem yZ (s : Sto) {x : List UInt8} (h : 65536 < x.length) : cZ s x = (s, ⟨List.replicate 32 0, rfl⟩, 2) := by unfold cZ; rw [if_pos h]
theorem j5 (s : Sto) {x : List UInt8} {i : Nat} (h : ¬ 65536 < x.length) (hf : aM s.objects (Sha.sum x) = some i) : cZ s x = (s, cu x, 0) := by unfold cZ; rw [if_neg h, hf]; rfl
theorem wH (s : Sto) {x : List UInt8} (h : ¬ 65536 < x.length) (hf : aM s.objects (Sha.sum x) = none) (ho : 256 ≤ s.objects.length) : cZ s x = (s, ⟨List.replicate 32 0, rfl⟩, 330) := by unfold cZ; rw [if_neg h, hf, if_neg (by simp), if_pos ho]
theorem jb (s : Sto) {x : List UInt8} (h : ¬ 65536 < x.length) (hf : aM s.objects (Sha.sum x) = none) (ho : s.objects.length < 256) : cZ s x = (⟨s.objects ++ [⟨cu x, x⟩], s.safe, s.queue ++ [ik (s.safe.length + s.queue.length) x]⟩, cu x, 0) := by
 unfold cZ; rw [if_neg h, hf, if_neg (by simp), if_neg (by omega)]; simp [lu, ik]
theorem SInv.put {m : Nat} {s : Sto} (h : SInv m s) {x : List UInt8} (hx : x.length ≤ 200) (hm : m < 256) : SInv (m + 1) (cZ s x).1 := by
 cases hf : aM s.objects (Sha.sum x) with
 | some i => rw [j5 s (by omega) hf]; exact h.mono (by omega)
 | none =>
  have := h.obs.2; have hn := h.num; rw [jb s (by omega) hf (by omega)]; exact h.push (by rw [E9]; omega) (Be (by omega) (by omega) hf (by omega))
theorem SInv.evict {m : Nat} {s : Sto} (h : SInv m s) (k : Vec 32) (hm : m < 4294967296) : SInv (m + 1) (evF s k) := by
 unfold evF; have hn := h.num; cases hf : aM s.objects k.l with
 | none => exact h.mono (by omega)
 | some i => exact h.push (by rw [E8 _ k.h]; omega) (zC (by omega) k.h hf)
def gi (s : Sto) : Sto := ⟨s.objects, s.safe ++ s.queue, []⟩
theorem SInv.sync {m : Nat} {s : Sto} (h : SInv m s) : SInv m (gi s) := by
 have e : cY (gi s) = cY s := by simp [cY, gi]
 exact ⟨by unfold nh; rw [e]; exact h.good, by have := h.num; simp [gi]; omega, by rw [e]; exact h.len⟩
def cT : List (List UInt8) → List Bool → List (List UInt8)
 | q :: qs, true :: ks => q :: cT qs ks
 | _ :: qs, false :: ks => cT qs ks
 | _, _ => []
theorem i5 : ∀ (q : List (List UInt8)) (k : List Bool), (cT q k).Sublist q
 | [], _ => by simp [cT]
 | _ :: _, [] => by simp [cT]
 | q :: qs, true :: ks => by rw [cT]; exact (i5 qs ks).cons_cons q
 | q :: qs, false :: ks => by rw [cT]; exact (i5 qs ks).cons q
def lB (s : Sto) (k : List Bool) : Sto := cW [] [] (s.safe ++ cT s.queue k)
theorem SInv.open {m : Nat} {l : List (List UInt8)} (hl : l.length ≤ m) (hb : ∀ b ∈ l, b.length ≤ 2000) : SInv m (cW [] [] l) := by
 obtain ⟨a, o', h1, h2, h3⟩ := rg l [] []; refine ⟨De l, ?_, fun b hb' => ?_⟩
 ·rw [h3]; have := h1.length_le; simp; omega
 ·rw [h3] at hb'; simp [cY] at hb'; exact hb b (h1.subset hb')
theorem SInv.break {m : Nat} {s : Sto} (h : SInv m s) (k : List Bool) : SInv m (lB s k) := by
 have hs := i5 s.queue k; refine SInv.open ?_ fun b hb => h.len b ?_
 ·have := h.num; have := hs.length_le; simp; omega
 ·simp only [cY]; rcases List.mem_append.1 hb with hb | hb
  ·simp [hb]
  ·simp [hs.subset hb]
def nM (s : Sto) (x : SRaw) : Sto :=
 if x.kind.toNat % 8 < 4 then (cZ s (x.data.take 40)).1 else
 if x.kind.toNat % 8 < 6 then evF s (cu (x.data.take 40)) else
 if x.kind.toNat % 8 = 6 then gi s else lB s x.keep
theorem SInv.step {m : Nat} {s : Sto} (h : SInv m s) (x : SRaw) (hm : m < 256) : SInv (m + 1) (nM s x) := by
 unfold nM; have hl : (x.data.take 40).length ≤ 40 := by simp; omega
 split
 ·exact h.put (by omega) hm
 split
 ·exact h.evict _ (by omega)
 split
 ·exact h.sync.mono (by omega)
 ·exact (h.break _).mono (by omega)
def fV (l : List SRaw) (n : Nat) : Sto := (l.take n).foldl nM mb
theorem tq : ∀ (l : List SRaw) (m : Nat) (s : Sto), SInv m s → m + l.length ≤ 256 → SInv (m + l.length) (l.foldl nM s)
 | [], _, _, h, _ => h
 | x :: r, m, s, h, hm => by
  simp only [List.length_cons] at hm; have := tq r (m + 1) (nM s x) (h.step x (by omega)) (by omega); simp only [List.foldl_cons, List.length_cons]; exact this.mono (by omega)
theorem yE (l : List SRaw) (n : Nat) (hn : n ≤ 256) : SInv n (fV l n) := by
 have := tq (l.take n) 0 mb EM (by simp; omega); exact this.mono (by simp; omega)
end
section
theorem Ah {s : Sto} (h : s.safe.length + s.queue.length ≤ 1000000) : cH s = some (cY s) := by
 unfold cH; rw [ey (by simp; omega), aq, List.nil_append, ey (by omega), aq]; rfl
theorem Fy {s : Sto} (h : s.safe.length + s.queue.length ≤ 1000000) : iX s = some (gi s) := by
 unfold iX; rw [hU _ (by simp; omega) (by simp), aq]; simp [gi]
theorem Ch {s : Sto} (h : s.safe.length + s.queue.length ≤ 1000000) : ee s = some (gi s) := by
 unfold ee; rw [Ah h, aq]; rfl
theorem uv {s : Sto} (b : List UInt8) (h : s.queue.length ≤ 1000000) : dv s b = some ⟨s.objects, s.safe, s.queue ++ [b]⟩ := by
 unfold dv; rw [ey (by simp; omega), aq, List.nil_append, ey (by simp; omega), aq]
theorem sY {l : List (List UInt8)} (h : l.length ≤ 1000000 ∧ ∀ b ∈ l, b.length ≤ 1000000) : iW l = some (cW [] [] l) := if_pos h
theorem uq {l : List (List UInt8)} (h : l.length ≤ 1000000 ∧ ∀ b ∈ l, b.length ≤ 1000000) : dZ l = some (cW [] [] l) := if_pos h
theorem wV {x : List UInt8} (h : x.length ≤ 1000000) : eK x = some (cu x) := if_pos h
theorem wS {l : List Ob} (k : Vec 32) (h : l.length ≤ 4294967296) : gJ l k = some (cB l k.l) := if_pos h
theorem wL {l : List Ob} (k : Vec 32) (h : l.length ≤ 4294967296) : k6 l k = some (cB l k.l) := if_pos h
theorem ml {l : List Ob} {k : List UInt8} {i : Nat} (h : aM l k = some i) : cB l k = (i : Int) := by unfold cB; rw [h]
theorem mj {l : List Ob} {k : List UInt8} (h : aM l k = none) : cB l k = -1 := by unfold cB; rw [h]
theorem pD {l : List Ob} {k : List UInt8} {i : Nat} (h : aM l k = some i) : i < l.length := by
 obtain ⟨x, hx, _⟩ := pE h; exact (List.getElem?_eq_some_iff.1 hx).1
theorem G0 (s : Sto) : (⟨s.objects, s.safe, s.queue⟩ : Sto) = s := rfl
theorem E6 {s : Sto} (k : UInt8) {x : List UInt8} (h1 : s.safe.length ≤ 1000000) (h2 : s.queue.length ≤ 1000000) (h3 : x.length ≤ 100000) : iY s k x = some (lu s k x) := if_pos ⟨h1, h2, h3⟩
theorem Ab {l : List Ob} {i : Nat} (hl : l.length ≤ 1000000) (hi : i < l.length) : ez l (i : Int) = some (l.eraseIdx i) := by
 unfold ez; rw [j9 (by omega), aq, bP (by omega), aq, j9 (by omega), aq, gF _ (by simp; omega) (by simp), aq]; have h1 : ((i : Int) + 1).toNat = i + 1 := by omega
 simp [List.eraseIdx_eq_take_drop_succ, h1]
theorem zg {l : List Ob} {i : Nat} (hl : l.length ≤ 1000000) (hi : i < l.length) : jD l (i : Int) = some (l.eraseIdx i) := if_pos ⟨hl, by omega, by omega⟩
theorem SInv.small {m : Nat} {s : Sto} (h : SInv m s) (hm : m ≤ 256) : s.objects.length ≤ 256 ∧ s.safe.length + s.queue.length ≤ 256 ∧ (∀ b ∈ cY s, b.length ≤ 2000) := ⟨Nat.le_trans h.obs.2 hm, Nat.le_trans h.num hm, h.len⟩
theorem Fv {m : Nat} {s : Sto} (h : SInv m s) (hm : m ≤ 256) {x : List UInt8} (hx : x.length ≤ 99000) : jL s x = some (cZ s x) := by
 obtain ⟨h1, h2, _⟩ := h.small hm; exact if_pos ⟨by omega, by omega, by omega, hx⟩
theorem Fe {m : Nat} {s : Sto} (h : SInv m s) (hm : m ≤ 256) {x : List UInt8} (hx : x.length ≤ 99000) : ft s x = some ⟨(cZ s x).1, (cZ s x).2.1, (cZ s x).2.2⟩ := by
 obtain ⟨h1, h2, _⟩ := h.small hm; unfold ft; by_cases c : 65536 < x.length
 ·rw [fS (by omega), cond_true, yZ s c]
 rw [f3 (by omega), cond_false, wV (by omega), aq, wL _ (by omega), aq]; show (bif decide (0 ≤ cB s.objects (Sha.sum x)) then _ else _) = _; cases hf : aM s.objects (Sha.sum x) with
 | some i => rw [ml hf, FP (by omega), cond_true, j5 s c hf]
 | none =>
  rw [mj hf, FO (by omega), cond_false]; by_cases c2 : 256 ≤ s.objects.length
  ·rw [FP (by omega), cond_true, wH s c hf c2]
  ·rw [FO (by omega), cond_false, jb s c hf (by omega), ey (by simp; omega), aq, List.nil_append, bP (by omega), aq]; have e : cP ((s.safe.length : Int) + (s.queue.length : Int)) x = some (ik (s.safe.length + s.queue.length) x) := by
    unfold cP; rw [if_pos ⟨by omega, by omega⟩]
    congr 2
   rw [e, aq, uv _ (by omega), aq, ey (by simp; omega), aq, List.nil_append, ey (by simp; omega), aq]
theorem GW {m : Nat} {s : Sto} (h : SInv m s) (hm : m ≤ 256) (k : Vec 32) : iF s k = some (evF s k, if aM s.objects k.l = none then 331 else 0) := by
 obtain ⟨h1, h2, _⟩ := h.small hm; unfold iF evF; rw [wS _ (by omega), aq]; cases hf : aM s.objects k.l with
 | none => rw [mj hf, fS (by omega), cond_true]; rfl
 | some i =>
  have hi := pD hf; rw [ml hf, f3 (by omega), cond_false, E6 _ (by omega) (by omega) (by rw [k.h]; omega), aq]; have e : (lu s 68 k.l).objects = s.objects := rfl; rw [e, Ab (by omega) hi, aq, if_neg (by simp)]; simp [lu, ma]
theorem GL {m : Nat} {s : Sto} (h : SInv m s) (hm : m ≤ 256) (k : Vec 32) : eN s k = some ⟨evF s k, ⟨List.replicate 32 0, rfl⟩, if aM s.objects k.l = none then 331 else 0⟩ := by
 obtain ⟨h1, h2, _⟩ := h.small hm; unfold eN evF; rw [wL _ (by omega), aq]; cases hf : aM s.objects k.l with
 | none => rw [mj hf, fS (by omega), cond_true]; rfl
 | some i =>
  have hi := pD hf; rw [ml hf, f3 (by omega), cond_false, bP (by omega), aq]; have e : cK ((s.safe.length : Int) + (s.queue.length : Int)) k = some (ma (s.safe.length + s.queue.length) k.l) := by
   unfold cK; rw [if_pos (by omega)]
   congr 2
  rw [e, aq, uv _ (by omega), aq]; simp only; rw [zg (by omega) hi, aq, if_neg (by simp)]
theorem zk {m : Nat} {s : Sto} (h : SInv m s) (hm : m ≤ 256) (k : Vec 32) : jK s k = some (match aM s.objects k.l with | none => ([], 331) | some i => ((s.objects.getD i ⟨k, []⟩).data, 0)) := by
 obtain ⟨h1, h2, _⟩ := h.small hm; unfold jK; rw [wS _ (by omega), aq]; cases hf : aM s.objects k.l with
 | none => rw [mj hf, fS (by omega), cond_true]
 | some i =>
  have hi := pD hf; rw [ml hf, f3 (by omega), cond_false, ef, List.getElem?_eq_getElem hi, aq]; simp [List.getD_eq_getElem?_getD, hi]
theorem D8 {m : Nat} {s : Sto} (h : SInv m s) (hm : m ≤ 256) : iX s = some (gi s) := Fy (by have := (h.small hm).2.1; omega)
theorem DT {m : Nat} {s : Sto} (h : SInv m s) (hm : m ≤ 256) : ee s = some (gi s) := Ch (by have := (h.small hm).2.1; omega)
theorem ta {m : Nat} {s : Sto} (h : SInv m s) (hm : m ≤ 256) : cH s = some (cY s) := Ah (by have := (h.small hm).2.1; omega)
theorem uc (q : List (List UInt8)) (k : List Bool) (i : Nat) {x : List UInt8} (hx : q[i]? = some x) : cT (q.take (i + 1)) k = cT (q.take i) k ++ (if k[i]? = some true then [x] else []) := by
 induction q generalizing k i with
 | nil => simp at hx
 | cons y r ih =>
  cases i with
  | zero =>
   simp at hx; subst hx; cases k with
   | nil => simp [cT]
   | cons b k => cases b <;> simp [cT]
  | succ i =>
   simp only [List.getElem?_cons_succ] at hx; simp only [List.take_succ_cons]; cases k with
   | nil => simp [cT]
   | cons b k =>
    have := ih k i hx; cases b <;> simp [cT, this]
theorem BE (q : List (List UInt8)) (k : List Bool) {i : Nat} (h : k.length ≤ i) : cT q k = cT (q.take i) k := by
 induction q generalizing k i with
 | nil => simp
 | cons y r ih =>
  cases k with
  | nil => cases i <;> simp [cT]
  | cons b k =>
   cases i with
   | zero => simp at h
   | succ i =>
    have := ih k (i := i) (by simpa using h); cases b <;> simp [cT, this]
theorem uI {s : Sto} (k : List Bool) (h : s.safe.length + s.queue.length ≤ 256) (hb : ∀ b ∈ cY s, b.length ≤ 2000) : iD s k = some (lB s k) := by
 unfold iD; have e : c9 s.safe = some s.safe := if_pos (by omega); rw [e, aq]; have h2 : cL (dS s k) (0, s.safe) = some (s.safe ++ cT s.queue k) := by
  have := jZ (body := dS s k) (fun i => ((i : Int), s.safe ++ cT (s.queue.take i) k)) s.queue.length (e := s.safe ++ cT s.queue k) (fun i hi => by
   have hx : s.queue[i]? = some (s.queue[i]'hi) := List.getElem?_eq_getElem _; generalize s.queue[i]'hi = x at hx; have hl := (i5 (s.queue.take i) k).length_le; rw [List.length_take] at hl; unfold dS; simp only; rw [fS (by omega), cond_true, ef, hx, aq, uc _ _ _ hx]; by_cases c : i < k.length
   ·have hk : k[i]? = some (k[i]'c) := List.getElem?_eq_getElem _; generalize k[i]'c = b at hk; rw [fS (by omega), cond_true, ef, hk, aq]; cases b with
    | true =>
     rw [cond_true, ey (by simp; omega), aq, aq, bP (by omega), aq]; simp
    | false =>
     rw [cond_false, aq, bP (by omega), aq]; simp
   ·rw [f3 (by omega), cond_false, aq, bP (by omega), aq]; have : k[i]? = none := by rw [List.getElem?_eq_none_iff]; omega
    rw [this]; simp) (by
   unfold dS; simp only [List.take_length]; rw [f3 (by omega), cond_false])
  simpa [cT] using this
 rw [h2, aq, sY, aq]
 ·rfl
 ·have hs := i5 s.queue k; refine ⟨by have := hs.length_le; simp; omega, fun b hb' => ?_⟩; have : b ∈ cY s := by
   simp only [cY]; rcases List.mem_append.1 hb' with hb' | hb'
   ·simp [hb']
   ·simp [hs.subset hb']
  exact Nat.le_trans (hb b this) (by omega)
theorem B3 {s : Sto} (k : List Bool) (h : s.safe.length + s.queue.length ≤ 256) (hb : ∀ b ∈ cY s, b.length ≤ 2000) : eM s k = some (lB s k) := by
 unfold eM; rw [ey (by simp; omega), aq, List.nil_append]; have h2 : cL (dO s k) (0, s.safe) = some (s.safe ++ cT s.queue k) := by
  have hmin : ∀ n, n = min s.queue.length k.length → cT (s.queue.take n) k = cT s.queue k := fun n hn => by
   by_cases c : s.queue.length ≤ k.length
   ·rw [hn, Nat.min_eq_left c, List.take_length]
   ·rw [hn, Nat.min_eq_right (by omega), ← BE _ _ (Nat.le_refl _)]
  have := jZ (body := dO s k) (fun i => ((i : Int), s.safe ++ cT (s.queue.take i) k)) (min s.queue.length k.length) (e := s.safe ++ cT s.queue k) (fun i hi => by
   have hx : s.queue[i]? = some (s.queue[i]'(by omega)) := List.getElem?_eq_getElem _; generalize s.queue[i]'(by omega) = x at hx; have hl := (i5 (s.queue.take i) k).length_le; rw [List.length_take] at hl; have hk : k[i]? = some (k[i]'(by omega)) := List.getElem?_eq_getElem _; generalize k[i]'(by omega) = b at hk; unfold dO; simp only; rw [fS (by omega), cond_true, fS (by omega), cond_true, ef, hk, aq, uc _ _ _ hx]; cases b with
   | true =>
    rw [cond_true, ef, hx, aq, ey (by simp; omega), aq, aq, bP (by omega), aq]; simp [hk]
   | false =>
    rw [cond_false, aq, bP (by omega), aq]; simp [hk]) (by
   unfold dO; simp only; rw [hmin _ rfl]; by_cases c : s.queue.length ≤ k.length
   ·rw [Nat.min_eq_left c, f3 (by omega), cond_false]
   ·rw [Nat.min_eq_right (by omega), fS (by omega), cond_true, f3 (by omega), cond_false])
  simpa [cT] using this
 rw [h2, aq, uq, aq]
 ·rfl
 ·have hs := i5 s.queue k; refine ⟨by have := hs.length_le; simp; omega, fun b hb' => ?_⟩; have : b ∈ cY s := by
   simp only [cY]; rcases List.mem_append.1 hb' with hb' | hb'
   ·simp [hb']
   ·simp [hs.subset hb']
  exact Nat.le_trans (hb b this) (by omega)
open Classical in
theorem DW (a b : List Ob) (ha : a.length ≤ 1000000) : bX a b = some (decide (a = b)) := by
 unfold bX; refine Ok.get ?_; refine Ok.cond (fun c => Ok.ret ?_) fun c => ?_
 ·have : a.length ≠ b.length := by simp at c; omega
  rw [eq_comm, decide_eq_false_iff_not]; intro e; subst e; exact this rfl
 have hl : a.length = b.length := by simp at c; omega
 refine Ok.bind (P := fun o => o = if a = b then .inl () else .inr false) ?_ ?_
 ·refine Ok.loop (fun s : Int => ∃ i : Nat, s = i ∧ i ≤ a.length ∧ ∀ j x y, j < i → a[j]? = some x → b[j]? = some y → x = y) (fun s : Int => a.length - s.toNat) ⟨0, rfl, by omega, fun j x y h => by omega⟩ ?_; rintro _ ⟨i, rfl, h1, h2⟩; unfold gG; refine Ok.cond (fun c => ?_) fun c => Ok.ret ?_
  ·simp only [decide_eq_true_eq] at c; have hx : a[i]? = some (a[i]'(by omega)) := List.getElem?_eq_getElem _; have hy : b[i]? = some (b[i]'(by omega)) := List.getElem?_eq_getElem _; generalize a[i]'(by omega) = x at hx; generalize b[i]'(by omega) = y at hy; simp only [ef, hx, hy, aq]; have hstop : x ≠ y → (Sum.inr false : Unit ⊕ Bool) = if a = b then .inl () else .inr false := fun hne => by
    rw [if_neg]; intro e; subst e; rw [hx] at hy; exact hne (Option.some.inj hy)
   have hgo : x = y → ∀ j x' y', j < i + 1 → a[j]? = some x' → b[j]? = some y' → x' = y' := fun he j x' y' hj hx' hy' => by
    by_cases e : j = i
    ·subst e; rw [hx] at hx'; rw [hy] at hy'; cases hx'; cases hy'; exact he
    ·exact h2 j x' y' (by omega) hx' hy'
   refine Ok.cond (fun c2 => Ok.ret (hstop fun e => ?_)) fun c2 => ?_
   ·subst e; simp at c2
   refine Ok.cond (fun c3 => Ok.ret (hstop fun e => ?_)) fun c3 => ?_
   ·subst e; simp at c3
   rw [bP (by omega), aq]; have he : x = y := Ob.same.1 ⟨by simpa using c2, by simpa using c3⟩; exact Ok.ret ⟨⟨i + 1, by omega, by omega, hgo he⟩, by omega⟩
  ·simp only [decide_eq_false_iff_not] at c; rw [if_pos (pW hl h2 (by omega))]
 ·rintro o rfl; by_cases e : a = b
  ·rw [if_pos e, decide_eq_true e]; exact Ok.ret rfl
  ·rw [if_neg e, decide_eq_false e]; exact Ok.ret rfl
theorem DX (a b : List (List UInt8)) (ha : a.length ≤ 1000000) : bY a b = some (decide (a = b)) := by
 unfold bY; refine Ok.get ?_; refine Ok.cond (fun c => Ok.ret ?_) fun c => ?_
 ·have : a.length ≠ b.length := by simp at c; omega
  rw [eq_comm, decide_eq_false_iff_not]; intro e; subst e; exact this rfl
 have hl : a.length = b.length := by simp at c; omega
 refine Ok.bind (P := fun o => o = if a = b then .inl () else .inr false) ?_ ?_
 ·refine Ok.loop (fun s : Int => ∃ i : Nat, s = i ∧ i ≤ a.length ∧ ∀ j x y, j < i → a[j]? = some x → b[j]? = some y → x = y) (fun s : Int => a.length - s.toNat) ⟨0, rfl, by omega, fun j x y h => by omega⟩ ?_; rintro _ ⟨i, rfl, h1, h2⟩; unfold gH; refine Ok.cond (fun c => ?_) fun c => Ok.ret ?_
  ·simp only [decide_eq_true_eq] at c; have hx : a[i]? = some (a[i]'(by omega)) := List.getElem?_eq_getElem _; have hy : b[i]? = some (b[i]'(by omega)) := List.getElem?_eq_getElem _; generalize a[i]'(by omega) = x at hx; generalize b[i]'(by omega) = y at hy; simp only [ef, hx, hy, aq]; have hstop : x ≠ y → (Sum.inr false : Unit ⊕ Bool) = if a = b then .inl () else .inr false := fun hne => by
    rw [if_neg]; intro e; subst e; rw [hx] at hy; exact hne (Option.some.inj hy)
   have hgo : x = y → ∀ j x' y', j < i + 1 → a[j]? = some x' → b[j]? = some y' → x' = y' := fun he j x' y' hj hx' hy' => by
    by_cases e : j = i
    ·subst e; rw [hx] at hx'; rw [hy] at hy'; cases hx'; cases hy'; exact he
    ·exact h2 j x' y' (by omega) hx' hy'
   refine Ok.cond (fun c2 => Ok.ret (hstop fun e => ?_)) fun c2 => ?_
   ·subst e; simp at c2
   rw [bP (by omega), aq]; have he : x = y := by simpa using c2
   exact Ok.ret ⟨⟨i + 1, by omega, by omega, hgo he⟩, by omega⟩
  ·simp only [decide_eq_false_iff_not] at c; rw [if_pos (pW hl h2 (by omega))]
 ·rintro o rfl; by_cases e : a = b
  ·rw [if_pos e, decide_eq_true e]; exact Ok.ret rfl
  ·rw [if_neg e, decide_eq_false e]; exact Ok.ret rfl
theorem uF {a : List Ob} (ha : a.length ≤ 1000000) : bX a a = some true := (DW a a ha).trans (by simp)
theorem uG {a : List (List UInt8)} (ha : a.length ≤ 1000000) : bY a a = some true := (DX a a ha).trans (by rw [decide_eq_true rfl])
theorem DY {s : Sto} (h1 : s.objects.length ≤ 1000000) (h2 : s.safe.length ≤ 1000000) (h3 : s.queue.length ≤ 1000000) : e9 s s = some true := by
 unfold e9; rw [uF h1, aq, cond_true, uG h2, aq, cond_true, uG h3, aq]
theorem nL {x : Std} (h1 : x.s.objects.length ≤ 1000000) (h2 : x.s.safe.length ≤ 1000000) (h3 : x.s.queue.length ≤ 1000000) : dt x x = some true := by
 unfold dt; rw [DY h1 h2 h3, aq, cond_true]; simp
theorem SInv.openOk {m : Nat} {s : Sto} (h : SInv m s) (hm : m ≤ 256) : (cY s).length ≤ 1000000 ∧ ∀ b ∈ cY s, b.length ≤ 1000000 := by
 obtain ⟨h1, h2, h3⟩ := h.small hm; exact ⟨by simp [cY]; omega, fun b hb => Nat.le_trans (h3 b hb) (by omega)⟩
theorem kR {m : Nat} {s : Sto} (h : SInv m s) (hm : m ≤ 256) : dK s = some true := by
 obtain ⟨h1, h2, h3⟩ := h.small hm; unfold dK; rw [ta h hm, aq, uq (h.openOk hm), aq, h.good.open, pc rfl, cond_true]; simp only; rw [uF (by omega), aq]
theorem Cd {m : Nat} {s : Sto} (h : SInv m s) (hm : m ≤ 256) : fo s = some true := by
 obtain ⟨h1, h2, h3⟩ := h.small hm; unfold fo; rw [hU _ (by simp; omega) (by simp), aq]; have e : [s.safe, s.queue].flatten = cY s := by simp [cY]
 rw [e, sY (h.openOk hm), aq, h.good.open, pc rfl, cond_true]; simp only; have := tO s.objects s.objects (by omega) (fun x hx => Nat.le_trans (h.obs.1.len x hx) (by omega)); exact (fK (this.trans (by simp)))
theorem io {m : Nat} {s : Sto} (h : SInv m s) (hm : m ≤ 256) {x : List UInt8} (hx : x.length ≤ 99000) : cA s x = some ⟨(cZ s x).1, (cZ s x).2.1, (cZ s x).2.2⟩ := by
 unfold cA; rw [Fv h hm hx, aq]
theorem sb {m : Nat} {s : Sto} (h : SInv m s) (hm : m ≤ 256) (k : Vec 32) : dY s k = some ⟨evF s k, ⟨List.replicate 32 0, rfl⟩, if aM s.objects k.l = none then 331 else 0⟩ := by
 unfold dY; rw [GW h hm, aq]
theorem EK {m : Nat} {s : Sto} (h : SInv m s) (hm : m ≤ 256) {k : Vec 32} (hf : aM s.objects k.l = none) : eJ s k = some ⟨[], 331⟩ := by
 unfold eJ; rw [zk h hm, hf, aq]
theorem EL {m : Nat} {s : Sto} (h : SInv m s) (hm : m ≤ 256) {k : Vec 32} {i : Nat} {x : Ob} (hf : aM s.objects k.l = some i) (hx : s.objects[i]? = some x) : eJ s k = some ⟨x.data, 0⟩ := by
 unfold eJ; rw [zk h hm, hf, aq]; simp [List.getD_eq_getElem?_getD, hx]
theorem EQ (k : UInt8) : rn (k.toNat : Int) 8 = some ((k.toNat % 8 : Nat) : Int) := by
 rw [Fa (by omega) (by omega)]; norm_cast
theorem IQ (x : List UInt8) : slc x 0 (min (x.length : Int) 40) = some (x.take 40) := by
 rw [j9 (by omega)]; simp only [Int.toNat_zero, List.drop_zero, Option.some.injEq]; by_cases c : x.length ≤ 40
 ·rw [show (min (x.length : Int) 40).toNat = x.length by omega, List.take_length, List.take_of_length_le c]
 ·rw [show (min (x.length : Int) 40).toNat = 40 by omega]
theorem DR {m : Nat} {s : Sto} (h : SInv m s) (hm : m ≤ 256) (x : SRaw) : fb s x = some (nM s x) := by
 obtain ⟨h1, h2, h3⟩ := h.small hm; have hl : (x.data.take 40).length ≤ 40 := by simp; omega
 unfold fb nM; rw [IQ, aq, EQ, aq]; generalize x.kind.toNat % 8 = n; have e1 : (bif ((n : Int) == 0) then some ((n : Int) == 0) else bif ((n : Int) == 1) then some ((n : Int) == 1) else bif ((n : Int) == 2) then some ((n : Int) == 2) else some ((n : Int) == 3)) = some (decide (n < 4)) := by
  by_cases a : n = 0
  ·subst a; rfl
  rw [pb (by omega), cond_false]; by_cases b : n = 1
  ·subst b; rfl
  rw [pb (by omega), cond_false]; by_cases c : n = 2
  ·subst c; rfl
  rw [pb (by omega), cond_false]; by_cases d : n = 3
  ·subst d; rfl
  rw [pb (by omega), decide_eq_false (by omega)]
 rw [e1, aq]; by_cases c : n < 4
 ·rw [decide_eq_true c, cond_true, if_pos c, Fe h hm (by omega), aq]
 rw [decide_eq_false c, cond_false, if_neg c]; have e2 : (bif ((n : Int) == 4) then some ((n : Int) == 4) else some ((n : Int) == 5)) = some (decide (n < 6)) := by
  by_cases a : n = 4
  ·subst a; rfl
  rw [pb (by omega), cond_false]; by_cases b : n = 5
  ·subst b; rfl
  rw [pb (by omega), decide_eq_false (by omega)]
 rw [e2, aq]; by_cases c6 : n < 6
 ·rw [decide_eq_true c6, cond_true, if_pos c6, wV (by omega), aq, GL h hm, aq]
 rw [decide_eq_false c6, cond_false, if_neg c6]; by_cases c7 : n = 6
 ·subst c7; rw [pc (show ((6 : Nat) : Int) = 6 from rfl), cond_true, if_pos rfl, DT h hm, aq]
 ·rw [pb (by omega), cond_false, if_neg c7, B3 _ (by omega) h3, aq]
theorem BZ (l : List SRaw) {n : Nat} {x : SRaw} (hx : l[n]? = some x) : fV l (n + 1) = nM (fV l n) x := by
 unfold fV; rw [List.take_add_one, hx]; simp
theorem E5 (l : List SRaw) (n : Nat) (hn : n ≤ 250) : e8 l (n : Int) = some (fV l n) := by
 unfold e8; have h2 : cL (ed l (n : Int)) (0, [], [], []) = some ((fV l n).objects, (fV l n).safe, (fV l n).queue) := by
  have hmin : ∀ k, k = min l.length n → fV l k = fV l n := fun k hk => by
   unfold fV; by_cases c : l.length ≤ n
   ·rw [hk, Nat.min_eq_left c, List.take_length, List.take_of_length_le c]
   ·rw [hk, Nat.min_eq_right (by omega)]
  have := jZ (body := ed l (n : Int)) (fun i => ((i : Int), (fV l i).objects, (fV l i).safe, (fV l i).queue)) (min l.length n) (e := ((fV l n).objects, (fV l n).safe, (fV l n).queue)) (fun i hi => by
   have hx : l[i]? = some (l[i]'(by omega)) := List.getElem?_eq_getElem _; generalize l[i]'(by omega) = x at hx; unfold ed; simp only; rw [fS (by omega), cond_true, fS (by omega), cond_true, ef, hx, aq, G0, DR (yE l i (by omega)) (by omega), aq, bP (by omega), aq, BZ l hx]; rfl) (by
   unfold ed; simp only; rw [hmin _ rfl]; by_cases c : l.length ≤ n
   ·rw [Nat.min_eq_left c, f3 (by omega), cond_false]
   ·rw [Nat.min_eq_right (by omega), fS (by omega), cond_true, f3 (by omega), cond_false])
  exact this
 rw [h2, aq]
end
section
section
variable {P : Program} {G : Nat → Option D} {N : Nat} {F : Fr} {ops rest : List Oper} {o : Oper} {Q : Exit → St → Prop} {h : List (Nat × Blk)} {env : List (Nat × V)} {nx : Nat} {st : St} {μ : Nat → Option Place} {C : aw} {a : Act} {w w' : World}
structure Marked (b : Nat) (w w' : World) : Prop where
 os : w'.os = w.os
 tape : w'.tape = w.tape
 output : w'.output = w.output
 size : w'.heap.size = w.heap.size
 block : ∀ k, k ≠ b → w'.heap[k]? = w.heap[k]?
 cell : ∀ k o, w'.cell? ⟨k, o, none⟩ = w.cell? ⟨k, o, none⟩
theorem xn (w : World) (b m : Nat) {cur : Array Value} {T : TypeId} (hb : w.heap[b]? = some (.cells cur T (0, 0))) : Marked b w (w.freeze ⟨b, m, none⟩ 1) := by
 have hh : ∀ k, (w.freeze ⟨b, m, none⟩ 1).heap[k]? = if k = b then some (.cells cur T (m, m + 1)) else w.heap[k]? := by
  intro k; unfold World.freeze; rw [if_neg (by decide)]; simp only [Array.getElem?_modify]; by_cases e : k = b
  ·subst e; simp [hb]
  ·simp [e, Ne.symm e]
 refine ⟨?_, ?_, ?_, ?_, fun k hk => by rw [hh, if_neg hk], fun k o => ?_⟩
 ·unfold World.freeze; rw [if_neg (by decide)]
 ·unfold World.freeze; rw [if_neg (by decide)]
 ·unfold World.freeze; rw [if_neg (by decide)]
 ·unfold World.freeze; rw [if_neg (by decide)]; simp
 ·simp only [World.cell?, hh]; by_cases e : k = b
  ·subst e; simp [hb]
  ·simp [e]
theorem Sim.mark {l : Nat} {k : Blk} {p : Place} (rows : List (List D)) (hs : Sim F st μ C a w) (hk : look st.h l = some k) (hr : k.rows = rows.map fun r => r.map V.d) (hp : μ l = some p) (hc : 0 < p.cap) (hw : Marked p.b w w') :
  ∃ C', (∀ b o u, C b o u → C' b o u) ∧ (∀ y v, ax μ C y v → ax μ C' (bc l k.sz rows y) v) ∧ Sim F ⟨cN l k.sz rows st.env, bK l st.h, st.nx⟩ μ C' a w' := by
 obtain ⟨p', hp', hb⟩ := hs.heap l k hk; rw [hp] at hp'; cases hp'; have hrow : ∀ x ∈ rows, x.length = k.sz := by
  intro x hx; have := hb.row (x.map V.d) (by rw [hr]; exact List.mem_map.2 ⟨x, hx, rfl⟩); simpa using this
 have hlen : rows.length ≤ p.cap := by have := hb.len; rw [hr] at this; simpa using this
 obtain ⟨b1, b2, cur, T, b3, b4, b5⟩ := hb.cells hc; have hkm : k.isMap = false := by
  have := eU k.sz rows; rw [← hr] at this; exact this
 rw [hkm] at b3; have b3 := b3.cells; have k1 : ∀ b o u, C b o u → kx C p.b cur b o u := fun _ _ _ h => .inl h
 have hne : ∀ b o u, C b o u → b ≠ p.b := fun b o u h e => b2 o u (e ▸ h)
 have hcell : ∀ b o, b ≠ p.b → w'.cell? ⟨b, o, none⟩ = w.cell? ⟨b, o, none⟩ := fun b o _ => hw.cell b o
 have k3 : bF (kx C p.b cur) w' := fun b o u h => by
  rcases h with h | ⟨rfl, h⟩
  ·have hb := hne _ _ _ h; rcases hs.known b o u h with h | h
   ·left; rw [hcell _ _ hb]; exact h
   ·right; obtain ⟨es, c, h1, h2⟩ := h; exact ⟨es, c, by rw [hw.block _ hb]; exact h1, h2⟩
  ·left; rw [hw.cell, cell_of_row w p.b o _ _ _ b3]; exact h
 have k4 : 0 < p.cap → ∀ (i : Nat) (r : List D), rows[i]? = some r → Rp (kx C p.b cur) (.mem r p.b (i * p.sz)) := fun _ i r hi => by
  refine gN fun j d hj => ?_
  have h1 : k.rows[i]? = some (r.map V.d) := by rw [hr]; simp [hi]
  obtain ⟨u, a1, a2, a3⟩ := b5 i _ h1 j (.d d) (by simp [hj]); exact ⟨u, .inr ⟨rfl, by rw [hb.sz]; simpa using a1⟩, a2, Rp.mono (fun _ _ _ h => .inl h) a3⟩
 have hrep : ∀ y v, ax μ C y v → ax μ (kx C p.b cur) (bc l k.sz rows y) v := fun y v hy => vq hp hb hrow hlen k1 k4 hy
 have hsz := hw.size; refine ⟨kx C p.b cur, k1, hrep, ⟨hs.size, ?_, ⟨by rw [hw.os]; exact hs.below.os, by rw [hw.tape]; exact hs.below.tape, by rw [hw.output]; exact hs.below.output, by rw [hsz]; exact hs.below.size, fun b hlt hn => ?_⟩, fun b o u h => k1 _ _ _ (hs.sub _ _ _ h), fun b o u h => ?_, k3, fun t x hx => ?_, fun l' k' hk' => ?_, fun l1 l2 p1 p2 h1 h2 => ?_, hs.nx, ?_⟩⟩
 ·refine hs.defers.step fun q _ hq => ?_
  have : q ≠ p.b := fun e => by rw [e, b3] at hq; cases hq
  rw [hw.block _ this]; exact hq
 ·have : b ≠ p.b := fun e => by
   subst e; rcases b1 with h | h
   ·omega
   ·exact hn h
  rw [hw.block _ this]; exact hs.below.block b hlt hn
 ·rcases h with h | ⟨rfl, _⟩
  ·exact hs.new _ _ _ h
  ·exact .inr b1
 ·rw [i8] at hx; cases hl : look st.env t with
  | none => rw [hl] at hx; cases hx
  | some y =>
   rw [hl] at hx; cases hx; exact hrep _ _ (hs.env t y hl)
 ·rw [dF] at hk'; split at hk'
  ·cases hk'
  ·rename_i hne'; obtain ⟨p', hp', hb'⟩ := hs.heap l' k' hk'; refine ⟨p', hp', hb'.sz, hb'.len, hb'.max, hb'.row, fun hc' => ?_⟩; obtain ⟨c1, c2, cur2, T2, c3, c4, c5⟩ := hb'.cells hc'; have hpb : p'.b ≠ p.b := fun e => hne' (hs.inj l' l p' p (by rw [hk']; rfl) (by rw [hk]; rfl) hp' hp hc' hc e)
   refine ⟨c1, fun o u hcu => ?_, cur2, T2, c3.of_eq (hw.block _ hpb), c4, c5.mono (fun _ _ h => h) k1⟩; rcases hcu with h | ⟨e, _⟩
   ·exact c2 o u h
   ·exact hpb e
 ·simp only [dF] at h1 h2; split at h1
  ·cases h1
  ·split at h2
   ·cases h2
   ·exact hs.inj l1 l2 p1 p2 h1 h2
 ·refine F.stab hs.gh ⟨hw.os, hw.tape, hw.output, by rw [hsz]; exact Nat.le_refl _, fun _ _ _ h => h, fun j hj => .inl (by simp only [dF] at hj; split at hj <;> first | cases hj | exact hj), fun b hb hn => ?_, fun b ⟨l', k', q, g1, g2⟩ => .inl ?_, k1, fun b o u h => ?_, k3⟩
  ·refine hw.block b fun e => hn ⟨l, k, p, hk, hp, hc, e.symm⟩
  ·rw [dF] at g1; split at g1
   ·cases g1
   ·exact ⟨l', k', q, g1, g2⟩
  ·rcases h with h | ⟨rfl, _⟩
   ·exact .inl h
   ·exact .inr (.inl ⟨l, k, p, hk, hp, hc, rfl⟩)
theorem SmG.mark (hF : Env F P G N) {t e : TypeId} {x : Operand} {l : Nat} {rows : List (List D)} {d : Tmp} (ho : o.op = .convert t t x) (hd : o.dst = some d) (hdN : Nat.blt d N = true) (hg : aC ops env o.guard = some true) (hx : evB G env x = some (.sref l 0 rows.length)) (hk : af h l = some (dB 1 rows)) (hne : rows ≠ [])
  (h1 : P.underlying t = some (.slice e)) (h2 : P.underlying e = some (.int .u8)) (k : SmG F N ops rest Q ⟨(d, .d (.list 1 rows false)) :: cN l 1 rows env, bK l h, nx⟩) : SmG F N ops (o :: rest) Q ⟨env, h, nx⟩ := by
 have hdN' : d < N := by simpa [Nat.blt_eq] using hdN
 rw [aL] at hk; rw [aT] at hx; intro hsm μ C a w hs; have hsm2 : St.small N ⟨(d, .d (.list 1 rows false)) :: cN l 1 rows env, bK l h, nx⟩ := by
  refine bI (env := cN l 1 rows env) (h := bK l h) (nx := nx) ?_ hdN'; intro s y hy; simp only [i8] at hy; cases hq : look env s with
  | none => rw [hq] at hy; cases hy
  | some y' => exact hsm s y' hq
 have k2 := k hsm2; obtain ⟨rfl, rfl, hG⟩ := hF; refine b7 (fun _ c e => by rw [ho] at e; cases e) fun K hK => ?_
 rw [bH hs (aN hg) hsm, if_pos rfl]; have hxv := bV hs hG hx; obtain ⟨p, ao, hp, hv, hle, hao⟩ := hxv; obtain ⟨p', hp', hb⟩ := hs.heap l _ hk; rw [hp] at hp'; cases hp'; have hpos : 0 < rows.length := List.length_pos_iff.2 hne; have hc : 0 < p.cap := by omega
 obtain rfl := hao hc; obtain ⟨b1, b2, cur, T, b3, b4, b5⟩ := hb.cells hc; have hkm : (dB 1 rows).isMap = false := eU 1 rows; rw [hkm] at b3; have b3 := b3.cells; have hM := xn w p.b cur.size b3; obtain ⟨C', hsub, hrep, hsim⟩ := Sim.mark (k := dB 1 rows) rows hs hk rfl hp hc hM; have hr : ax μ C' (.d (.list 1 rows false)) (a.eval x) := by
  have := hrep _ _ (bV hs hG hx); rw [show (dB 1 rows).sz = 1 from rfl, wz] at this; exact this
 have hsh : w.shape? p.b = some (T, cur.size) := by unfold World.shape?; rw [b3]
 have hz : 0 * p.sz = 0 := by omega
 have hex : (execOp a.eval o).run F.P w = .ok (.value (a.eval x)) (w.freeze ⟨p.b, cur.size, none⟩ 1) := by
  rw [qW ho, hv]; simp [convert, Sem.run_bind, run_underlying h1, run_underlying h2, markStringish, hsh, Result.andThen_ok]
 unfold Oper.wp; rw [hex, Oper.upon_value, hd]; exact hK _ _ (k2 μ C' _ _ (hsim.put hdN' hr))
end
end
section
theorem mr (x : Std) : (Std.row x).length = 36 := by simp [Std.row, cM x.k.h]
theorem sQ {t : TypeId} {n m off : Nat} {R S : List D} {h : List (Nat × Blk)} {l : Nat} (hl : look h l = some ⟨n, [R.map V.d]⟩) (ha : bg Tryd.prog t = some true) (hs : az Tryd.prog t = some m) (hR : R.length = n) (hle : off + m ≤ n) (hS : (R.drop off).take m = S) : aX Tryd.prog h t (.ref l 0 off) = some (.d (.agg m S)) := by
 have hsg : seg (R.map V.d) n off m = S.map V.d := by
  unfold seg; split
  ·rename_i e; obtain ⟨rfl, rfl⟩ := e; rw [← hS, List.drop_zero, ← hR, List.take_length]
  ·rw [← List.map_drop, ← List.map_take, hS]
 have hp : bu (S.map V.d) = some S := gr _; simp only [aX, hl, Option.bind_some, List.getElem?_cons_zero, cc, ha, hs, hsg, hp, hle]; rfl
theorem nC {t : TypeId} {n off : Nat} {R : List D} {y : D} {h : List (Nat × Blk)} {l : Nat} (hl : look h l = some ⟨n, [R.map V.d]⟩) (ha : bg Tryd.prog t = some false) (hy : R[off]? = some y) : aX Tryd.prog h t (.ref l 0 off) = some (.d y) := by
 simp only [aX, hl, Option.bind_some, List.getElem?_cons_zero, cc, ha, List.getElem?_map, hy, Option.map_some]
theorem yL {h : List (Nat × Blk)} {l : Nat} {x : Std} (hl : look h l = some ⟨36, [(Std.row x).map V.d]⟩) : aX Tryd.prog h 45 (.ref l 0 0) = some (.d (.agg 36 (Std.row x))) := sQ hl Hj Ip (mr x) (by decide) (by rw [List.drop_zero, List.take_of_length_le (by rw [mr]; decide)])
theorem dR {h : List (Nat × Blk)} {l : Nat} {x : Std} (hl : look h l = some ⟨36, [(Std.row x).map V.d]⟩) : aX Tryd.prog h 27 (.ref l 0 0) = some (.d (.agg 3 (Sto.row x.s))) := sQ hl nS ip (mr x) (by decide) (by simp [Std.row, Sto.row])
theorem ij {h : List (Nat × Blk)} {l : Nat} {x : Std} (hl : look h l = some ⟨36, [(Std.row x).map V.d]⟩) : aX Tryd.prog h 42 (.ref l 0 3) = some (.d (.agg 32 (ay x.k.l))) := sQ hl nT oa (mr x) (by decide) (by simp [Std.row, cM x.k.h])
theorem ue {h : List (Nat × Blk)} {l : Nat} {x : Std} (hl : look h l = some ⟨36, [(Std.row x).map V.d]⟩) : aX Tryd.prog h 43 (.ref l 0 35) = some (.d (.v (.int .i64 x.e))) := nC hl Hi (by
 have := cM x.k.h; have h2 : ∀ (y : D) (r : List D), r.length = 32 → (D.list 33 (x.s.objects.map Ob.row) false :: D.list 1 (x.s.safe.map av) false :: D.list 1 (x.s.queue.map av) false :: (r ++ [y]))[35]? = some y := fun y r hr => by
  simp only [List.getElem?_cons_succ]; rw [List.getElem?_append_right (by omega), hr]; rfl
 exact h2 _ _ this)
theorem BN {h : List (Nat × Blk)} {l : Nat} {x : Std} (hl : look h l = some ⟨36, [(Std.row x).map V.d]⟩) : aX Tryd.prog h 24 (.ref l 0 0) = some (.d (.list 33 (x.s.objects.map Ob.row) false)) := nC hl sw rfl
theorem uf {h : List (Nat × Blk)} {l : Nat} {x : Std} (hl : look h l = some ⟨36, [(Std.row x).map V.d]⟩) : aX Tryd.prog h 25 (.ref l 0 2) = some (.d (.list 1 (x.s.queue.map av) false)) := nC hl oZ rfl
theorem ug {h : List (Nat × Blk)} {l : Nat} {x : Sto} (hl : look h l = some ⟨3, [(Sto.row x).map V.d]⟩) : aX Tryd.prog h 24 (.ref l 0 0) = some (.d (.list 33 (x.objects.map Ob.row) false)) := nC hl sw rfl
theorem wI (s : Sto) (x : List UInt8) : (cZ s x).1.safe = s.safe ∧ ∃ r, (cZ s x).1.queue = s.queue ++ r := by
 by_cases c : 65536 < x.length
 ·rw [yZ s c]; exact ⟨rfl, [], by simp⟩
 cases hf : aM s.objects (Sha.sum x) with
 | some i => rw [j5 s c hf]; exact ⟨rfl, [], by simp⟩
 | none =>
  by_cases c2 : 256 ≤ s.objects.length
  ·rw [wH s c hf c2]; exact ⟨rfl, [], by simp⟩
  ·rw [jb s c hf (by omega)]; exact ⟨rfl, _, rfl⟩
theorem HR (s : Sto) {x : List UInt8} (hx : x.length ≤ 65536) (ho : s.objects.length < 256) : (cZ s x).2.1 = cu x ∧ (cZ s x).2.2 = 0 := by
 cases hf : aM s.objects (Sha.sum x) with
 | some i => rw [j5 s (by omega) hf]; exact ⟨rfl, rfl⟩
 | none => rw [jb s (by omega) hf (by omega)]; exact ⟨rfl, rfl⟩
theorem GH (P : Program) (t : TypeId) (x y : Operand) (l : List UInt8) : aD P (do eqGuard .eql t x y (.string ⟨l.toArray⟩) (.string ⟨l.toArray⟩); binOp .eql t (.string ⟨l.toArray⟩) (.string ⟨l.toArray⟩)) = some (.bool true) := by
 rw [AD]; simp
set_option maxHeartbeats 8000000 in
theorem Fm : aj Tryd.prog HG 10 [] (.v (.bool true)) := by
 have f0 : aM mb.objects (Sha.sum [97]) = none := rfl; obtain ⟨A, hAe⟩ : ∃ A : Std, A = ⟨(cZ mb [97]).1, (cZ mb [97]).2.1, (cZ mb [97]).2.2⟩ := ⟨_, rfl⟩
 have hAq : A = ⟨⟨[⟨cu [97], [97]⟩], [], [ik 0 [97]]⟩, cu [97], 0⟩ := by rw [hAe, jb _ (by decide) f0 (by decide)]; rfl
 have hAs : A.s = ⟨[⟨cu [97], [97]⟩], [], [ik 0 [97]]⟩ := by rw [hAq]
 have hAk : A.k = cu [97] := by rw [hAq]
 have hA0 : A.e = 0 := by rw [hAq]
 have iA : SInv 1 A.s := by rw [hAe]; exact EM.put (by decide) (by decide)
 have hNew : aj Tryd.prog HG 11 [] (.agg 3 (Sto.row mb)) := xe.d rfl () mb rfl; have hA : aj Tryd.prog HG 20 [.agg 3 (Sto.row mb), .list 1 (([97] : List UInt8).map ai) false] (.agg 36 (Std.row A)) := dN.d rfl (mb, ([97] : List UInt8)) A (by rw [hAe]; exact io EM (by decide) (x := [97]) (by decide)); have fA : aM A.s.objects (Sha.sum [97]) = some 0 := by rw [hAs]; simp [aM, cu]
 have hA2 : aj Tryd.prog HG 20 [.agg 3 (Sto.row A.s), .list 1 (([97] : List UInt8).map ai) false] (.agg 36 (Std.row A)) := dN.d rfl (A.s, ([97] : List UInt8)) A (by
  show cA A.s [97] = _; rw [io iA (by decide) (by decide), j5 _ (by decide) fA]; exact congrArg some (by rw [hAq]))
 have hSy : aj Tryd.prog HG 27 [.agg 3 (Sto.row A.s)] (.agg 3 (Sto.row (gi A.s))) := vj.d rfl A.s _ (D8 iA (by decide)); have iS := iA.sync; obtain ⟨B, hBe⟩ : ∃ B : Std, B = ⟨(cZ (gi A.s) [98]).1, (cZ (gi A.s) [98]).2.1, (cZ (gi A.s) [98]).2.2⟩ := ⟨_, rfl⟩
 have iB : SInv 2 B.s := by rw [hBe]; exact iS.put (by decide) (by decide)
 have hB : aj Tryd.prog HG 20 [.agg 3 (Sto.row (gi A.s)), .list 1 (([98] : List UInt8).map ai) false] (.agg 36 (Std.row B)) := dN.d rfl (gi A.s, ([98] : List UInt8)) B (by rw [hBe]; exact io iS (by decide) (x := [98]) (by decide)); obtain ⟨Cc, hCe⟩ : ∃ C : Std, C = ⟨(cZ A.s [98]).1, (cZ A.s [98]).2.1, (cZ A.s [98]).2.2⟩ := ⟨_, rfl⟩
 have iC : SInv 2 Cc.s := by rw [hCe]; exact iA.put (by decide) (by decide)
 have hC : aj Tryd.prog HG 20 [.agg 3 (Sto.row A.s), .list 1 (([98] : List UInt8).map ai) false] (.agg 36 (Std.row Cc)) := dN.d rfl (A.s, ([98] : List UInt8)) Cc (by rw [hCe]; exact io iA (by decide) (x := [98]) (by decide)); have hRA : aj Tryd.prog HG 13 [.agg 3 (Sto.row A.s)] (.v (.bool true)) := fi.d rfl A.s true (kR iA (by decide)); have hRB : aj Tryd.prog HG 13 [.agg 3 (Sto.row B.s)] (.v (.bool true)) := fi.d rfl B.s true (kR iB (by decide)); have hRC : aj Tryd.prog HG 13 [.agg 3 (Sto.row Cc.s)] (.v (.bool true)) := fi.d rfl Cc.s true (kR iC (by decide)); obtain ⟨E, hEe⟩ : ∃ E : Std, E = ⟨evF A.s A.k, ⟨List.replicate 32 0, rfl⟩, if aM A.s.objects A.k.l = none then 331 else 0⟩ := ⟨_, rfl⟩
 have fA2 : aM A.s.objects A.k.l = some 0 := by rw [hAk]; exact fA
 have hEq : E = ⟨⟨[], [], [ik 0 [97], ma 1 A.k.l]⟩, ⟨List.replicate 32 0, rfl⟩, 0⟩ := by
  rw [hEe, fA2, if_neg (by simp)]; unfold evF; rw [fA2, hAs]; rfl
 have iE : SInv 2 E.s := by rw [hEe]; exact iA.evict _ (by decide)
 have hE : aj Tryd.prog HG 23 [.agg 3 (Sto.row A.s), .agg 32 (ay A.k.l)] (.agg 36 (Std.row E)) := jy.d rfl (A.s, A.k) E (by rw [hEe]; exact sb iA (by decide) _); have hSS : aj Tryd.prog HG 29 [.agg 36 (Std.row A), .agg 36 (Std.row A)] (.v (.bool true)) := iu.d rfl (A, A) true (nL (by rw [hAs]; decide) (by rw [hAs]; decide) (by rw [hAs]; decide)); obtain ⟨O1, hO1e⟩ : ∃ O, O = lB B.s [] := ⟨_, rfl⟩
 have hO1l : O1.objects.length = 1 := by
  have h1 : (B.s.safe ++ cT B.s.queue []) = [ik 0 [97]] := by
   have : B.s.safe = [ik 0 [97]] := by rw [hBe]; rw [(wI _ _).1, hAs]; rfl
   rw [this]; cases B.s.queue <;> rfl
  have h2 := iS.good.open; have h3 : cY (gi A.s) = [ik 0 [97]] := by rw [hAs]; rfl
  rw [h3] at h2; rw [hO1e, lB, h1, h2, hAs]; rfl
 have hO1 : aj Tryd.prog HG 25 [.agg 3 (Sto.row B.s), .list 0 [] true] (.agg 3 (Sto.row O1)) :=
  (nt.d rfl (B.s, []) O1 (by rw [hO1e]; exact uI _ (iB.small (by decide)).2.1 (iB.small (by decide)).2.2)).args fun C => fL (D.le.refl _) (fL (cd 0 1 true) fun _ h => h)
 obtain ⟨O2, hO2e⟩ : ∃ O, O = lB Cc.s [false, true] := ⟨_, rfl⟩
 have hO2l : O2.objects.length = 0 := by
  obtain ⟨c1, r, c2⟩ := wI A.s [98]; have h1 : Cc.s.safe = [] := by rw [hCe]; rw [c1, hAs]
  have h2 : Cc.s.queue = ik 0 [97] :: r := by rw [hCe]; rw [c2, hAs]; rfl
  have hg := iC.good; have hall : cY Cc.s = ik 0 [97] :: r := by simp [cY, h1, h2]
  unfold nh at hg; rw [hall] at hg; rw [hO2e, lB, h1, h2, List.nil_append]; cases r with
  | nil => rfl
  | cons y r =>
   obtain ⟨o1, o2, g1, g2⟩ := Gi (i := 1) (b := y) hg rfl; have : cT (ik 0 [97] :: y :: r) [false, true] = [y] := by simp [cT]
   rw [this, cW]; cases hy : bv [] ([] : List (List UInt8)).length y with
   | none => rfl
   | some o => exact absurd (Bc hy g2) (by decide)
 have hO2 : aj Tryd.prog HG 25 [.agg 3 (Sto.row Cc.s), .list 1 [[.v (.bool false)], [.v (.bool true)]] true] (.agg 3 (Sto.row O2)) :=
  (nt.d rfl (Cc.s, [false, true]) O2 (by rw [hO2e]; exact uI _ (iC.small (by decide)).2.1 (iC.small (by decide)).2.2)).args fun C => fL (D.le.refl _) (fL (qF 1 _ true) fun _ h => h)
 have hG1 : aj Tryd.prog HG 22 [.agg 3 (Sto.row E.s), .agg 32 (ay A.k.l)] (.agg 2 (Gott.row ⟨[], 331⟩)) := kX.d rfl (E.s, A.k) _ (EK iE (by decide) (by rw [hEq]; rfl)); have hG2 : aj Tryd.prog HG 22 [.agg 3 (Sto.row A.s), .agg 32 (ay A.k.l)] (.agg 2 (Gott.row ⟨[97], 0⟩)) := kX.d rfl (A.s, A.k) _ (EL iA (by decide) fA2 (x := ⟨cu [97], [97]⟩) (by rw [hAs]; rfl)); have hSum : aj Tryd.prog HG 21 [.list 1 (([97] : List UInt8).map ai) false] (.agg 32 (ay A.k.l)) := by
  rw [hAk]; exact uO [97] (by decide)
 have hS1 : aj Tryd.prog HG 14 [.agg 3 (Sto.row A.s)] (.v (.bool true)) := nw.d rfl A.s true (Cd iA (by decide)); have hS2 : aj Tryd.prog HG 14 [.agg 3 [.list 33 [ay (List.replicate 32 0) ++ [.list 0 [] true]] false, .list 0 [] true, .list 0 [] true]] (.v (.bool false)) := by
  have hz : fo ⟨[⟨⟨List.replicate 32 0, rfl⟩, []⟩], [], []⟩ = some false := by
   unfold fo; rw [hU _ (by decide) (by decide), aq]; simp only [List.flatten_cons, List.flatten_nil, List.append_nil]; rw [sY (by simp), aq]; simp only [cW]; rw [pc rfl, cond_true]; exact fK ((tO [] _ (by decide) (by simp)).trans (by simp))
  refine (nw.d rfl (⟨[⟨⟨List.replicate 32 0, rfl⟩, []⟩], [], []⟩ : Sto) false hz).args fun C => fL ?_ fun _ h => h
  refine fM ⟨?_, cd 0 1 true, cd 0 1 true, trivial⟩; have hA : ∀ (r : List D), LeL (r ++ [.list 0 [] true]) (r ++ [.list 1 [] false]) := fun r => by
   induction r with
   | nil => exact .cons (cd 0 1 true) .nil
   | cons x r ih => exact .cons (D.le.refl x) ih
  exact vV (.cons (hA _) .nil)
 have hEo : E.s.objects.length = 0 := by rw [hEq]; rfl
 have hEl : E.s.queue.length = 2 := by rw [hEq]; rfl
 have hE0 : E.e = 0 := by rw [hEq]
 have hAl : A.s.queue.length = 1 := by rw [hAs]; rfl
 have hkl : A.k.l.length = 32 := A.k.h; clear hAe hAq hAs hAk hBe hCe hEe hEq hO1e hO2e iA iS iB iC iE fA fA2 f0; refine aj.of Tryd.func10 rfl Tryd.ntmps10 (by simp) ?_; intro F hF h0 hT; simp only [List.zipIdx_cons, List.zipIdx_nil, List.map_cons, List.map_nil, Nat.zero_add, Nat.reduceAdd]; refine Sm.seq ?_; refine ab hF rfl ?_; refine gv hF oA (SmG.nil (aa (Sm.seq ?_))); refine ab hF rfl ?_; refine SmG.call hF rfl rfl (by kernel_rfl) rfl rfl rfl (hNew) ?_; refine SmG.buildOwn hF rfl rfl rfl rfl rfl (sz := 1) (rows := ([97] : List UInt8).map ai) (by simp [bm, Tryd.underlying30, sz5, ze5]; rfl) (by simp) ?_; refine SmG.mark hF (rows := ([97] : List UInt8).map ai) rfl rfl rfl rfl rfl rfl (by simp) Tryd.underlying30 Tryd.underlying5 ?_; simp only [cN, bc, gL, dh, ck, bK, if_true, Nat.reduceEqDiff, if_false, Nat.zero_add, List.length_map, Nat.le_refl, and_self]; refine SmG.call hF rfl rfl (by kernel_rfl) rfl rfl rfl (hA) ?_; refine SmG.new hF rfl rfl rfl (aF rfl xT) ?_; refine SmG.store hF rfl rfl rfl rfl rfl (by simp only [go_sem, ac] <;> rfl) ?_; refine SmG.nil (aa (Sm.seq ?_)); refine ab hF rfl ?_; refine gv hF (ag rfl rfl (by simp only [go_sem, ac] <;> rfl)) ?_; refine gv hF (ae rfl rfl (dR rfl)) ?_; refine SmG.buildOwn hF rfl rfl rfl rfl rfl (sz := 1) (rows := ([97] : List UInt8).map ai) (by simp [bm, Tryd.underlying30, sz5, ze5]; rfl) (by simp) ?_; refine SmG.mark hF (rows := ([97] : List UInt8).map ai) rfl rfl rfl rfl rfl rfl (by simp) Tryd.underlying30 Tryd.underlying5 ?_; simp only [cN, bc, gL, dh, ck, bK, if_true, Nat.reduceEqDiff, if_false, Nat.zero_add, List.length_map, Nat.le_refl, and_self]; refine SmG.call hF rfl rfl (by kernel_rfl) rfl rfl rfl (hA2) ?_; refine SmG.new hF rfl rfl rfl (aF rfl xT) ?_; refine SmG.store hF rfl rfl rfl rfl rfl (by simp only [go_sem, ac] <;> rfl) ?_; refine SmG.nil (aa (Sm.seq ?_)); refine ab hF rfl ?_; refine gv hF (ag rfl rfl (by simp only [go_sem, ac] <;> rfl)) ?_; refine gv hF (ae rfl rfl (dR rfl)) ?_; refine SmG.call hF rfl rfl (by kernel_rfl) rfl rfl rfl (hSy) ?_
 refine SmG.buildOwn hF rfl rfl rfl rfl rfl (sz := 1) (rows := ([98] : List UInt8).map ai) (by simp [bm, Tryd.underlying30, sz5, ze5]; rfl) (by simp) ?_; refine SmG.mark hF (rows := ([98] : List UInt8).map ai) rfl rfl rfl rfl rfl rfl (by simp) Tryd.underlying30 Tryd.underlying5 ?_; simp only [cN, bc, gL, dh, ck, bK, if_true, Nat.reduceEqDiff, if_false, Nat.zero_add, List.length_map, Nat.le_refl, and_self]; refine SmG.call hF rfl rfl (by kernel_rfl) rfl rfl rfl (hB) ?_; refine SmG.new hF rfl rfl rfl (aF rfl xT) ?_; refine SmG.store hF rfl rfl rfl rfl rfl (by simp only [go_sem, ac] <;> rfl) ?_; refine SmG.nil (aa (Sm.seq ?_)); refine ab hF rfl ?_; refine gv hF (ag rfl rfl (by simp only [go_sem, ac] <;> rfl)) ?_; refine gv hF (ae rfl rfl (dR rfl)) ?_; refine SmG.buildOwn hF rfl rfl rfl rfl rfl (sz := 1) (rows := ([98] : List UInt8).map ai) (by simp [bm, Tryd.underlying30, sz5, ze5]; rfl) (by simp) ?_; refine SmG.mark hF (rows := ([98] : List UInt8).map ai) rfl rfl rfl rfl rfl rfl (by simp) Tryd.underlying30 Tryd.underlying5 ?_; simp only [cN, bc, gL, dh, ck, bK, if_true, Nat.reduceEqDiff, if_false, Nat.zero_add, List.length_map, Nat.le_refl, and_self]; refine SmG.call hF rfl rfl (by kernel_rfl) rfl rfl rfl (hC) ?_; refine SmG.new hF rfl rfl rfl (aF rfl xT) ?_; refine SmG.store hF rfl rfl rfl rfl rfl (by simp only [go_sem, ac] <;> rfl) ?_; refine SmG.nil (aa (Sm.seq (Sm.seq ?_))); refine ab hF rfl ?_; refine gv hF (ag rfl rfl (by simp only [go_sem, ac] <;> rfl)) ?_; refine gv hF (ae rfl rfl (ue rfl)) ?_; refine gv hF (ah rfl rfl rfl (by exact iM _ _ _ _ _ (by omega))) ?_; refine gv hF oM ?_; refine gv hF (ag rfl rfl (by simp only [go_sem, ac] <;> rfl)) ?_; refine gv hF (ae rfl rfl (dR rfl)) ?_; refine SmG.call hF rfl rfl (by kernel_rfl) rfl rfl rfl (hRA) ?_; refine gv hF (eG rfl rfl (by exact fW _)) ?_; refine gv hF (aU rfl rfl rfl) ?_; refine gv hF oM ?_; refine gv hF (ag rfl rfl (by simp only [go_sem, ac] <;> rfl)) ?_; refine gv hF (ae rfl rfl (dR rfl)) ?_; refine SmG.call hF rfl rfl (by kernel_rfl) rfl rfl rfl (hRB) ?_
 refine gv hF (eG rfl rfl (by exact fW _)) ?_; refine gv hF (aU rfl rfl rfl) ?_; refine gv hF oM ?_; refine gv hF (ag rfl rfl (by simp only [go_sem, ac] <;> rfl)) ?_; refine gv hF (ae rfl rfl (dR rfl)) ?_; refine SmG.call hF rfl rfl (by kernel_rfl) rfl rfl rfl (hRC) ?_; refine gv hF (eG rfl rfl (by exact fW _)) ?_; refine gv hF (aU rfl rfl rfl) ?_; refine SmG.nil (aa ?_); refine aS hF rfl ?_; refine Sm.skip ?_; refine aa (Sm.seq ?_); refine ab hF rfl ?_; refine gv hF (ag rfl rfl (by simp only [go_sem, ac] <;> rfl)) ?_; refine gv hF (ae rfl rfl (dR rfl)) ?_; refine gv hF (ag rfl rfl (by simp only [go_sem, ac] <;> rfl)) ?_; refine gv hF (ae rfl rfl (ij rfl)) ?_; refine SmG.call hF rfl rfl (by kernel_rfl) rfl rfl rfl (hE) ?_; refine SmG.new hF rfl rfl rfl (aF rfl xT) ?_; refine SmG.store hF rfl rfl rfl rfl rfl (by simp only [go_sem, ac] <;> rfl) ?_; refine SmG.nil (aa (Sm.seq ?_)); refine ab hF rfl ?_; refine gv hF (ag rfl rfl (by simp only [go_sem, ac] <;> rfl)) ?_; refine gv hF (ag rfl rfl (by simp only [go_sem, ac] <;> rfl)) ?_; refine gv hF (ae rfl rfl (uf rfl)) ?_; refine gv hF (aJ rfl rfl (by simp only [go_sem, ac] <;> rfl)) ?_; refine gv hF (ah rfl rfl rfl (by exact dL _ _ _ _ _ (by omega))) ?_; refine gv hF oM (gv hF (ae rfl rfl (yL rfl)) (gv hF (ae rfl rfl (yL rfl)) ?_)); refine SmG.call hF rfl rfl (by kernel_rfl) rfl rfl rfl (hSS) ?_; refine gv hF (aO rfl rfl rfl) ?_; refine gv hF oM ?_; refine gv hF (ag rfl rfl (by simp only [go_sem, ac] <;> rfl)) ?_; refine gv hF (ae rfl rfl (ue rfl)) ?_; refine gv hF (ah rfl rfl rfl (by exact dL _ _ _ _ _ (by omega))) ?_; refine gv hF (aO rfl rfl rfl) ?_; refine gv hF oM ?_; refine gv hF (ag rfl rfl (by simp only [go_sem, ac] <;> rfl)) ?_; refine gv hF (ag rfl rfl (by simp only [go_sem, ac] <;> rfl)) ?_; refine gv hF (ae rfl rfl (BN rfl)) ?_; refine gv hF (aJ rfl rfl (by simp only [go_sem, ac] <;> rfl)) ?_; refine gv hF (ah rfl rfl rfl (by exact dL _ _ _ _ _ (by omega))) ?_; refine gv hF (aO rfl rfl rfl) ?_; refine gv hF oM ?_
 refine gv hF (ag rfl rfl (by simp only [go_sem, ac] <;> rfl)) ?_; refine gv hF (ag rfl rfl (by simp only [go_sem, ac] <;> rfl)) ?_; refine gv hF (ae rfl rfl (uf rfl)) ?_; refine gv hF (aJ rfl rfl (by simp only [go_sem, ac] <;> rfl)) ?_; refine gv hF (ah rfl rfl rfl (by exact dL _ _ _ _ _ (by omega))) ?_; refine gv hF (aO rfl rfl rfl) ?_; refine gv hF oA (SmG.nil (aa (Sm.seq ?_))); refine eQ hF (by kernel_rfl) rfl 9 (by kernel_rfl) (by kernel_rfl) ?_; simp only [List.take_succ_cons, List.take_zero, List.take_nil]; refine hv hF (ag rfl rfl (by simp only [go_sem, ac] <;> rfl)) ?_; refine hv hF (ae rfl rfl (dR rfl)) ?_; refine au.c hF rfl rfl (by kernel_rfl) rfl rfl rfl (hO1) ?_; refine hv hF (ag rfl rfl (by simp only [go_sem, ac] <;> rfl)) ?_; refine hv hF (ae rfl rfl (dR rfl)) ?_; refine hv hF (ba rfl rfl (by simp only [go_sem, ac] <;> rfl)) ?_; refine au.c hF rfl rfl (by kernel_rfl) rfl rfl rfl (hO2) ?_; refine au.new hF rfl rfl rfl rfl lL ?_; refine au.new hF rfl rfl rfl rfl lL ?_; refine au.last ⟨rfl, ?_⟩; simp only [List.drop_succ_cons, List.drop_zero, List.drop_nil, List.nil_append, List.cons_append]; refine SmG.store hF rfl rfl rfl rfl rfl (by simp only [go_sem, ac] <;> rfl) ?_; refine SmG.store hF rfl rfl rfl rfl rfl (by simp only [go_sem, ac] <;> rfl) ?_; refine SmG.nil (aa (Sm.seq ?_)); refine Sm.to (cQ (st' := ⟨[(6, .d (.v (.bool true))), (1, .ref 1 0 0), (5, .ref 8 0 0), (7, .ref 9 0 0), (8, .ref 10 0 0)], [(1, ⟨36, [(Std.row A).map V.d]⟩), (8, ⟨36, [(Std.row E).map V.d]⟩), (9, ⟨3, [(Sto.row O1).map V.d]⟩), (10, ⟨3, [(Sto.row O2).map V.d]⟩)], 11⟩) (aK ⟨rfl, rfl, rfl, rfl, rfl, trivial⟩ ⟨rfl, rfl, rfl, rfl, trivial⟩ (Nat.le_refl _))) ?_; clear hA hA2 hSy hB hC hRA hRB hRC hE hSS hO1 hO2 hNew; refine du hF rfl ?_; refine gT hF rfl 0 21 (by kernel_rfl) ?_; simp only [List.take_succ_cons, List.take_zero, List.take_nil, List.drop_succ_cons, List.drop_zero, Nat.reduceSub]; refine hv hF oM (hv hF oM ?_); refine hv hF (ag rfl rfl (by simp only [go_sem, ac] <;> rfl)) ?_
 refine hv hF (ae rfl rfl (dR rfl)) ?_; refine hv hF (ag rfl rfl (by simp only [go_sem, ac] <;> rfl)) ?_; refine hv hF (ae rfl rfl (ij rfl)) ?_; refine au.c hF rfl rfl (by kernel_rfl) rfl rfl rfl (hG1) ?_; refine hv hF (rf rfl rfl (by simp only [go_sem, ac] <;> rfl)) ?_; refine hv hF (ah rfl rfl rfl (by exact lK _ _ _ _ _ _ _)) ?_; refine hv hF (aO rfl rfl rfl) ?_; refine hv hF oM ?_; refine hv hF (ag rfl rfl (by simp only [go_sem, ac] <;> rfl)) ?_; refine hv hF (ae rfl rfl (dR rfl)) ?_; refine hv hF (ag rfl rfl (by simp only [go_sem, ac] <;> rfl)) ?_; refine hv hF (ae rfl rfl (ij rfl)) ?_; refine au.c hF rfl rfl (by kernel_rfl) rfl rfl rfl (hG2) ?_; refine hv hF (rf rfl rfl (by simp only [go_sem, ac] <;> rfl)) ?_; refine hv hF (cq rfl rfl (vf (l := [97]) Tryd.underlying30 Tryd.underlying9 Tryd.underlying5)) (hv hF (ah rfl rfl rfl (GH _ _ _ _ [97])) ?_); refine hv hF (aO rfl rfl rfl) ?_; refine hv hF oM ?_; refine au.last ?_; simp only [List.nil_append, List.cons_append]; refine oc (n := 31) rfl rfl ?_; refine ci (n' := 26) (ls' := List.replicate 26 true ++ List.replicate 26 false) ?s1_5 ?h1_5 (fun r1_5 => ?k1_5)
 case' k1_5 => refine ci (n' := 27) (ls' := List.replicate 25 true ++ List.replicate 27 false) ?s1_4 ?h1_4 (fun r1_4 => ?k1_4)
 case' k1_4 => refine ci (n' := 27) (ls' := List.replicate 22 true ++ [false, true, true, true] ++ List.replicate 26 false) ?s1_3 ?h1_3 (fun r1_3 => ?k1_3)
 case' k1_3 => refine ci (n' := 28) (ls' := List.replicate 24 true ++ List.replicate 28 false) ?s1_2 ?h1_2 (fun r1_2 => ?k1_2)
 case' k1_2 => refine ci (n' := 28) (ls' := List.replicate 22 true ++ [false, true, true] ++ List.replicate 27 false) ?s1_1 ?h1_1 (fun r1_1 => ?k1_1)
 case' k1_1 => refine ci (n' := 29) (ls' := List.replicate 22 true ++ [false, true] ++ List.replicate 28 false) ?s1_0 ?h1_0 (fun r1_0 => ?k1_0)
 case k1_0 =>
  refine SmM.step hF [21, 23] rfl (by kernel_rfl) rfl ⟨⟨_, rfl, ?_⟩, ⟨_, rfl, ?_⟩, trivial⟩
  ·refine gv hF (ag rfl rfl (by simp only [go_sem, ac] <;> rfl)) ?_; refine SmG.nil (aa ?_); refine SmM.step hF [22, 23] rfl (by kernel_rfl) rfl ⟨⟨_, rfl, ?_⟩, ⟨_, rfl, ?_⟩, trivial⟩
   ·refine gv hF (ae rfl rfl (ij rfl)) (SmG.nil (aa ?_)); refine SmM.step hF [23] rfl (by kernel_rfl) rfl ⟨⟨_, rfl, ?_⟩, trivial⟩; refine SmG.buildOwn hF rfl rfl rfl rfl rfl (sz := 1) (rows := ([97] : List UInt8).map ai) (by simp [bm, Tryd.underlying30, sz5, ze5]; rfl) (by simp) ?_; refine SmG.nil (aa ?_); exact r1_2
   ·refine SmG.buildOwn hF rfl rfl rfl rfl rfl (sz := 1) (rows := ([97] : List UInt8).map ai) (by simp [bm, Tryd.underlying30, sz5, ze5]; rfl) (by simp) ?_; refine SmG.nil (aa ?_); exact r1_0
  ·refine SmG.buildOwn hF rfl rfl rfl rfl rfl (sz := 1) (rows := ([97] : List UInt8).map ai) (by simp [bm, Tryd.underlying30, sz5, ze5]; rfl) (by simp) ?_; refine SmG.nil (aa ?_); refine SmM.step hF [21, 24] rfl (by kernel_rfl) rfl ⟨⟨_, rfl, ?_⟩, ⟨_, rfl, ?_⟩, trivial⟩
   ·refine gv hF (ag rfl rfl (by simp only [go_sem, ac] <;> rfl)) ?_; refine SmG.nil (aa ?_); exact bz r1_0
   ·refine SmG.mark hF (rows := ([97] : List UInt8).map ai) rfl rfl rfl rfl rfl rfl (by simp) Tryd.underlying30 Tryd.underlying5 ?_; simp only [cN, bc, gL, dh, ck, bK, if_true, Nat.reduceEqDiff, if_false, Nat.zero_add, List.length_map, Nat.le_refl, and_self]; refine SmG.nil (aa ?_); refine SmM.step hF [21, 25] rfl (by kernel_rfl) rfl ⟨⟨_, rfl, ?_⟩, ⟨_, rfl, ?_⟩, trivial⟩
    ·refine gv hF (ag rfl rfl (by simp only [go_sem, ac] <;> rfl)) ?_; refine SmG.nil (aa ?_); exact r1_1
    ·refine SmG.call hF rfl rfl (by kernel_rfl) rfl rfl rfl (hSum) ?_; refine SmG.nil (aa ?_); refine SmM.step hF [21] rfl (by kernel_rfl) rfl ⟨⟨_, rfl, ?_⟩, trivial⟩; refine gv hF (ag rfl rfl (by simp only [go_sem, ac] <;> rfl)) ?_; refine SmG.nil (aa ?_); exact r1_3
 case h1_0 =>
  refine SmM.step hF [22, 24] rfl (by kernel_rfl) rfl ⟨⟨_, rfl, ?_⟩, ⟨_, rfl, ?_⟩, trivial⟩
  ·refine gv hF (ae rfl rfl (ij rfl)) (SmG.nil (aa ?_)); exact bz r1_2
  ·refine SmG.mark hF (rows := ([97] : List UInt8).map ai) rfl rfl rfl rfl rfl rfl (by simp) Tryd.underlying30 Tryd.underlying5 ?_; simp only [cN, bc, gL, dh, ck, bK, if_true, Nat.reduceEqDiff, if_false, Nat.zero_add, List.length_map, Nat.le_refl, and_self]; refine SmG.nil (aa ?_); exact bz r1_1
 case h1_1 =>
  refine SmM.step hF [22, 25] rfl (by kernel_rfl) rfl ⟨⟨_, rfl, ?_⟩, ⟨_, rfl, ?_⟩, trivial⟩
  ·refine gv hF (ae rfl rfl (ij rfl)) (SmG.nil (aa ?_)); exact r1_4
  ·refine SmG.call hF rfl rfl (by kernel_rfl) rfl rfl rfl (hSum) ?_; refine SmG.nil (aa ?_); exact bz r1_3
 case h1_2 =>
  refine SmM.step hF [24] rfl (by kernel_rfl) rfl ⟨⟨_, rfl, ?_⟩, trivial⟩; refine SmG.mark hF (rows := ([97] : List UInt8).map ai) rfl rfl rfl rfl rfl rfl (by simp) Tryd.underlying30 Tryd.underlying5 ?_; simp only [cN, bc, gL, dh, ck, bK, if_true, Nat.reduceEqDiff, if_false, Nat.zero_add, List.length_map, Nat.le_refl, and_self]; refine SmG.nil (aa ?_); exact bz r1_4
 case h1_3 =>
  refine SmM.step hF [22] rfl (by kernel_rfl) rfl ⟨⟨_, rfl, ?_⟩, trivial⟩; refine gv hF (ae rfl rfl (ij rfl)) (SmG.nil (aa ?_)); exact r1_5
 case h1_4 =>
  refine SmM.step hF [25] rfl (by kernel_rfl) rfl ⟨⟨_, rfl, ?_⟩, trivial⟩; refine SmG.call hF rfl rfl (by kernel_rfl) rfl rfl rfl (hSum) ?_; refine SmG.nil (aa ?_); exact bz r1_5
 case h1_5 =>
  refine SmM.step hF [26] rfl (by kernel_rfl) rfl ⟨⟨_, rfl, ?_⟩, trivial⟩; refine gv hF (ju rfl rfl rfl ((qT hkl hkl).trans (by rw [decide_eq_true rfl]))) ?_; refine SmG.nil (aa ?_); refine SmM.step hF [27] rfl (by kernel_rfl) rfl ⟨⟨_, rfl, ?_⟩, trivial⟩; refine gv hF (aO rfl rfl rfl) ?_; refine SmG.nil (aa ?_); refine SmM.step hF [28] rfl (by kernel_rfl) rfl ⟨⟨_, rfl, ?_⟩, trivial⟩; refine gv hF oM (SmG.nil (aa ?_)); refine SmM.step hF [29] rfl (by kernel_rfl) rfl ⟨⟨_, rfl, ?_⟩, trivial⟩; refine gv hF (ag rfl rfl (by simp only [go_sem, ac] <;> rfl)) ?_; refine SmG.nil (aa ?_); refine SmM.step hF [30] rfl (by kernel_rfl) rfl ⟨⟨_, rfl, ?_⟩, trivial⟩; refine gv hF (ae rfl rfl (ug rfl)) (SmG.nil (aa ?_)); refine SmM.step hF [31] rfl (by kernel_rfl) rfl ⟨⟨_, rfl, ?_⟩, trivial⟩; refine gv hF (aJ rfl rfl (by simp only [go_sem, ac] <;> rfl)) ?_; refine SmG.nil (aa ?_); refine SmM.step hF [32] rfl (by kernel_rfl) rfl ⟨⟨_, rfl, ?_⟩, trivial⟩; refine gv hF (ah rfl rfl rfl (by exact dL _ _ _ _ _ (by omega))) ?_; refine SmG.nil (aa ?_); refine SmM.step hF [33] rfl (by kernel_rfl) rfl ⟨⟨_, rfl, ?_⟩, trivial⟩; refine gv hF (aO rfl rfl rfl) ?_; refine SmG.nil (aa ?_); refine SmM.step hF [34] rfl (by kernel_rfl) rfl ⟨⟨_, rfl, ?_⟩, trivial⟩; refine gv hF oM (SmG.nil (aa ?_)); refine SmM.step hF [35] rfl (by kernel_rfl) rfl ⟨⟨_, rfl, ?_⟩, trivial⟩; refine gv hF (ag rfl rfl (by simp only [go_sem, ac] <;> rfl)) ?_; refine SmG.nil (aa ?_); refine SmM.step hF [36] rfl (by kernel_rfl) rfl ⟨⟨_, rfl, ?_⟩, trivial⟩; refine gv hF (ae rfl rfl (ug rfl)) (SmG.nil (aa ?_)); refine SmM.step hF [37] rfl (by kernel_rfl) rfl ⟨⟨_, rfl, ?_⟩, trivial⟩; refine gv hF (aJ rfl rfl (by simp only [go_sem, ac] <;> rfl)) ?_; refine SmG.nil (aa ?_); refine SmM.step hF [38] rfl (by kernel_rfl) rfl ⟨⟨_, rfl, ?_⟩, trivial⟩; refine gv hF (ah rfl rfl rfl (by exact dL _ _ _ _ _ (by omega))) ?_; refine SmG.nil (aa ?_); refine SmM.step hF [39] rfl (by kernel_rfl) rfl ⟨⟨_, rfl, ?_⟩, trivial⟩; refine gv hF (aO rfl rfl rfl) ?_
  refine SmG.nil (aa ?_); refine SmM.step hF [40] rfl (by kernel_rfl) rfl ⟨⟨_, rfl, ?_⟩, trivial⟩; refine gv hF oM (SmG.nil (aa ?_)); refine SmM.step hF [41] rfl (by kernel_rfl) rfl ⟨⟨_, rfl, ?_⟩, trivial⟩; refine gv hF (ag rfl rfl (by simp only [go_sem, ac] <;> rfl)) ?_; refine SmG.nil (aa ?_); refine SmM.step hF [42] rfl (by kernel_rfl) rfl ⟨⟨_, rfl, ?_⟩, trivial⟩; refine gv hF (ae rfl rfl (dR rfl)) (SmG.nil (aa ?_)); refine SmM.step hF [43] rfl (by kernel_rfl) rfl ⟨⟨_, rfl, ?_⟩, trivial⟩; refine SmG.call hF rfl rfl (by kernel_rfl) rfl rfl rfl hS1 ?_; refine SmG.nil (aa ?_); refine SmM.step hF [44] rfl (by kernel_rfl) rfl ⟨⟨_, rfl, ?_⟩, trivial⟩; refine gv hF (aO rfl rfl rfl) ?_; refine SmG.nil (aa ?_); refine SmM.step hF [45] rfl (by kernel_rfl) rfl ⟨⟨_, rfl, ?_⟩, trivial⟩; refine gv hF oM (SmG.nil (aa ?_)); refine SmM.step hF [46] rfl (by kernel_rfl) rfl ⟨⟨_, rfl, ?_⟩, trivial⟩; refine SmG.makeOwn hF qQ rfl 1 rfl rfl rfl rfl rfl rfl (by decide) (by decide) ?_; refine SmG.freeze (l := 12) [ay (List.replicate 32 0) ++ [.list 0 [] true]] rfl ?_; simp only [cN, bc, gL, dh, ck, bK, if_true, Nat.reduceEqDiff, if_false, Nat.zero_add, List.length_map, Nat.le_refl, and_self]; refine SmG.nil (aa ?_); refine SmM.step hF [47] rfl (by kernel_rfl) rfl ⟨⟨_, rfl, ?_⟩, trivial⟩; refine gv hF (cV rfl Tryd.underlying27 (by kernel_rfl) rfl (jS (n := 3) Iy JJ rfl (by repeat' first | apply wu rfl rfl (by first | rfl | simp [ay, ac]) | apply wq rfl rfl rfl (by first | assumption | simp [ay, ac]) | (apply FQ; simp only [List.set_cons_succ, List.set_cons_zero, List.take_succ_cons, List.take_zero, List.drop_succ_cons, List.drop_zero, List.drop_nil, List.cons_append, List.nil_append, List.append_nil, ac] <;> rfl)))) ?_; refine SmG.nil (aa ?_); refine SmM.step hF [48] rfl (by kernel_rfl) rfl ⟨⟨_, rfl, ?_⟩, trivial⟩; refine SmG.call hF rfl rfl (by kernel_rfl) rfl rfl rfl hS2 ?_; refine SmG.nil (aa ?_); refine SmM.step hF [49] rfl (by kernel_rfl) rfl ⟨⟨_, rfl, ?_⟩, trivial⟩; refine gv hF (eG rfl rfl (by exact rR _)) ?_
  refine SmG.nil (aa ?_); refine SmM.step hF [50] rfl (by kernel_rfl) rfl ⟨⟨_, rfl, ?_⟩, trivial⟩; refine gv hF (aO rfl rfl rfl) ?_; refine SmG.nil (aa ?_); refine SmM.step hF [51] rfl (by kernel_rfl) rfl ⟨⟨_, rfl, ?_⟩, trivial⟩; refine gv hF oA (SmG.nil (aa ?_)); refine SmM.nil (by kernel_rfl) ?_; refine aa (Sm.ret ?_)
  skip
  exact ⟨_, rfl, D.le.refl _⟩
noncomputable def ia : Option Bool := some true
noncomputable def jE : Con Tryd.prog HG nmS := ⟨10, [], [], .bool, fun _ => ia, false⟩
theorem nX : jE.Ok := ⟨fun _ a r h => by cases h; exact Fm, fun h => by cases h⟩
end
section
noncomputable def dq (a0 : List SRaw) (a1 : List UInt8) : Option Bool :=
 ob (ia ) fun x1 =>
 bif (decide (200 < (a1.length : Int))) then (
  some x1
 ) else (
  ob (e8 a0 10) fun x3 =>
  ob (cA x3 a1) fun x4 =>
  bif (x4.e != 0) then (
   some false
  ) else (
   ob (dK x4.s) fun x6 =>
   bif (!x6) then (
    some false
   ) else (
    ob (cA x4.s a1) fun x8 =>
    ob (dY x4.s x4.k) fun x9 =>
    bif (x9.e != 0) then (
     some false
    ) else (
     ob (dK x9.s) fun x11 =>
     bif (!x11) then (
      some false
     ) else (
      ob (cA x9.s a1) fun x13 =>
      ob (dt x8 x4) fun x14 =>
      bif x14 then (
       bif (x13.e == 0) then (
        bif (x13.k.l == x4.k.l) then (
         bif ((x13.s.objects.length : Int) == (x4.s.objects.length : Int)) then (
          bif (decide (0 < (x13.s.objects.length : Int))) then (
           ob (arI .i64 ((x13.s.objects.length : Int) - 1)) fun x20 =>
           ob (idx x13.s.objects x20) fun x21 =>
           bif (x21.sum.l == x4.k.l) then (
            ob (arI .i64 ((x13.s.objects.length : Int) - 1)) fun x23 =>
            ob (idx x13.s.objects x23) fun x24 =>
            bif (x24.data == a1) then (
             ob (cH x13.s) fun x26 =>
             ob (cH x4.s) fun x27 =>
             ob (arI .i64 ((x27.length : Int) + 2)) fun x28 =>
             bif ((x26.length : Int) == x28) then (
              some x1
             ) else (
              some false
             )
            ) else (
             some false
            )
           ) else (
            some false
           )
          ) else (
           some false
          )
         ) else (
          some false
         )
        ) else (
         some false
        )
       ) else (
        some false
       )
      ) else (
       some false
      )
     )
    )
   )
  )
 )
theorem lS (a : (List SRaw) × (List UInt8)) : fp (cfA [jE, kE, jF, kl, jx, ir, fT] Tryd.f8.ntmps []) [] Tryd.f8 [] [(.lst (.nm 2)), (.lst .u8)] .bool (.nj (.br .e (.nj (.br .e (.br .e (.seg 11 (.nj (.br .e (.br .e (.seg 64 (.br (.br (.br (.br (.br (.br (.br (.br .e .e) .e) .e) .e) .e) .e) .e) .e))))))))))) a = dq a.1 a.2 := by kernel_rfl
noncomputable def lQ : Con Tryd.prog HG nmS := ⟨8, [], [(.lst (.nm 2)), (.lst .u8)], .bool, fun a => dq a.1 a.2, false⟩
theorem lT : lQ.Ok := gt (.cons nX (.cons pq (.cons dN (.cons fi (.cons jy (.cons iu (.cons iO .nil))))))) lS Tryd.func8 rfl
theorem CF (l : List SRaw) (b : List UInt8) : dq l b = some true := by
 unfold dq; rw [show ia = some true from rfl, aq]; by_cases hb : 200 < b.length
 ·rw [fS (by omega), cond_true]
 rw [f3 (by omega), cond_false, show (10 : Int) = ((10 : Nat) : Int) from rfl, E5 l 10 (by omega), aq]; have hs := yE l 10 (by omega); generalize fV l 10 = s at hs; obtain ⟨s1, s2, s3⟩ := hs.small (by omega); have so := hs.obs; rw [io hs (by omega) (by omega), aq]; obtain ⟨k1, k2⟩ := HR s (x := b) (by omega) (by omega); have hp := hs.put (x := b) (by omega) (by omega); have hpo := hp.obs; have hfind : ∃ i, aM (cZ s b).1.objects (Sha.sum b) = some i := by
  cases hf : aM s.objects (Sha.sum b) with
  | some i => rw [j5 s (by omega) hf]; exact ⟨i, hf⟩
  | none =>
   rw [jb s (by omega) hf (by omega)]; have := mR (o := s.objects ++ [⟨cu b, b⟩]) (by have := hpo.1.dis; rw [jb s (by omega) hf (by omega)] at this; exact this) (i := s.objects.length) (x := ⟨cu b, b⟩) (by simp); exact ⟨_, this⟩
 obtain ⟨j, hj⟩ := hfind; generalize hP : cZ s b = p at k1 k2 hp hpo hj; obtain ⟨p, kk, e⟩ := p; simp only at k1 k2 hp hpo hj; subst k1 k2; obtain ⟨p1, p2, p3⟩ := hp.small (by omega); have hkj : aM p.objects (cu b).l = some j := hj; have hjl := pD hj; rw [show ((0 : Int) != 0) = false from rfl, cond_false, kR hp (by omega), aq, Bool.not_true, cond_false, io hp (by omega) (by omega), aq, j5 p (by omega) hj, sb hp (by omega), aq, hkj, if_neg (by simp)]; have hx := hp.evict (cu b) (by omega); have hxe : evF p (cu b) = ⟨p.objects.eraseIdx j, p.safe, p.queue ++ [ma (p.safe.length + p.queue.length) (cu b).l]⟩ := by unfold evF; rw [hkj]
 have hgone : aM (evF p (cu b)).objects (Sha.sum b) = none := by
  cases hf : aM (evF p (cu b)).objects (Sha.sum b) with
  | none => rfl
  | some i =>
   exfalso; obtain ⟨z, hz, hze⟩ := pE hf; rw [hxe] at hz; simp only at hz; rw [List.getElem?_eraseIdx] at hz; split at hz
   ·have := mR hpo.1.dis hz; rw [hze, hj] at this; cases this; omega
   ·have := mR hpo.1.dis hz; rw [hze, hj] at this; cases this; omega
 simp only; rw [show ((0 : Int) != 0) = false from rfl, cond_false, kR hx (by omega), aq, Bool.not_true, cond_false, io hx (by omega) (by omega), aq, nL (by exact Nat.le_trans p1 (by omega)) (by show p.safe.length ≤ _; omega) (by show p.queue.length ≤ _; omega), aq, cond_true]; have hxl := hx.obs.2; have hnew := hx.put (x := b) (by omega) (by omega); obtain ⟨n1, n2, n3⟩ := hnew.small (by omega); rw [jb _ (by omega) hgone (by omega)] at hnew n1 n2 ⊢; simp only at n1 n2 ⊢; have hel : (evF p (cu b)).objects.length = p.objects.length - 1 := by rw [hxe]; exact List.length_eraseIdx_of_lt hjl
 rw [pc rfl, cond_true, beq_self_eq_true, cond_true, pc (by simp; omega), cond_true, fS (by simp), cond_true, bP (by simp; omega), aq]; have hidx : idx ((evF p (cu b)).objects ++ [⟨cu b, b⟩]) ((((evF p (cu b)).objects ++ [(⟨cu b, b⟩ : Ob)]).length : Int) - 1) = some ⟨cu b, b⟩ := by
  rw [show ((((evF p (cu b)).objects ++ [(⟨cu b, b⟩ : Ob)]).length : Int) - 1) = (((evF p (cu b)).objects.length : Nat) : Int) by simp, ef]; simp
 rw [hidx, aq, beq_self_eq_true, cond_true, aq, hidx, aq, beq_self_eq_true, cond_true, ta hnew (by omega), aq, ta hp (by omega), aq, bP (by simp [cY]; omega), aq]; rw [pc, cond_true]; rw [hxe]; simp [cY]; omega
theorem lP {a0 : List SRaw} {a1 : List UInt8} {r : Bool} (h : dq a0 a1 = some r) : aj Tryd.prog HG 8 [.list 3 (a0.map SRaw.row) false, .list 1 (a1.map ai) false] (.v (.bool r)) := lT.d rfl (a0, a1) r h
end
end Go.Proofs.YtaclinnjekdgoaaDoor
