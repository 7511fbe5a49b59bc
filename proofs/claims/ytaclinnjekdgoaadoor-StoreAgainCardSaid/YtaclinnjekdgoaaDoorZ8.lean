/-
  Lemmas, part 8 of 8: walks through the program's functions, and plain Lean about what they compute.
-/
import Derived.Test.YtaclinnjekdgoaaDoorZ1
import Derived.Test.YtaclinnjekdgoaaDoorZ2
import Derived.Test.YtaclinnjekdgoaaDoorZ3
import Derived.Test.YtaclinnjekdgoaaDoorZ4
import Derived.Test.YtaclinnjekdgoaaDoorZ5
import Derived.Test.YtaclinnjekdgoaaDoorZ6
import Derived.Test.YtaclinnjekdgoaaDoorZ7
set_option linter.unnecessarySimpa false
set_option linter.unusedSimpArgs false
set_option linter.unusedVariables false
set_option maxRecDepth 100000
namespace Go.Proofs.YtaclinnjekdgoaaDoor
open Go.RowKit
section
noncomputable def gr (a0 : zBz) : Option Int :=
 ob (idx a0 0) fun x1 =>
 ob (sJ .i64 (x1.toNat : Int) 24) fun x2 =>
 ob (idx a0 1) fun x3 =>
 ob (sJ .i64 (x3.toNat : Int) 16) fun x4 =>
 ob (arI .i64 (x2 + x4)) fun x5 =>
 ob (idx a0 2) fun x6 =>
 ob (sJ .i64 (x6.toNat : Int) 8) fun x7 =>
 ob (arI .i64 (x5 + x7)) fun x8 =>
 ob (idx a0 3) fun x9 =>
 ob (arI .i64 (x8 + (x9.toNat : Int))) fun x10 =>
 some x10
set_option maxHeartbeats 4000000 in
theorem qv {a0 : zBz} {r : Int} (h : gr a0 = some r) : aj Tryd.prog HG 48 [.list 1 (a0.map ai) false] (.i r) := by
 unfold gr at h; refine aj.of Tryd.func48 rfl Tryd.ntmps48 (by simp) ?_; intro F hF h0 hT; show Sm F _ _ ⟨[(0, .d (.list 1 (a0.map ai) false))], [], 0⟩; refine sr hF (gv hF oA (sn (Sm.seq ?_))); refine dG hF 21 ?_; refine hv hF oM ?_; obtain ⟨x1, hx1, h⟩ := ap h; refine hv hF (oI (eI u30 sz5 hx1)) (hv hF (oL (lP1 ag5 rfl)) (hv hF (oC (fh u5 u3 (kq _))) ?_)); obtain ⟨x2, hx2, h⟩ := ap h; refine hv hF (oB (vK hx2)) (hv hF oM ?_); obtain ⟨x3, hx3, h⟩ := ap h; refine hv hF (oI (eI u30 sz5 hx3)) (hv hF (oL (lP1 ag5 rfl)) (hv hF (oC (fh u5 u3 (kq _))) ?_)); obtain ⟨x4, hx4, h⟩ := ap h; refine hv hF (oB (vK hx4)) ?_; obtain ⟨x5, hx5, h⟩ := ap h; refine hv hF (oB (dX hx5)) (hv hF oM ?_); obtain ⟨x6, hx6, h⟩ := ap h; refine hv hF (oI (eI u30 sz5 hx6)) (hv hF (oL (lP1 ag5 rfl)) (hv hF (oC (fh u5 u3 (kq _))) ?_)); obtain ⟨x7, hx7, h⟩ := ap h; refine hv hF (oB (vK hx7)) ?_; obtain ⟨x8, hx8, h⟩ := ap h; refine hv hF (oB (dX hx8)) (hv hF oM ?_); obtain ⟨x9, hx9, h⟩ := ap h; refine hv hF (oI (eI u30 sz5 hx9)) (hv hF (oL (lP1 ag5 rfl)) (hv hF (oC (fh u5 u3 (kq _))) ?_)); refine hE ?_; obtain ⟨x10, hx10, h⟩ := ap h; refine gv hF (oB (dX hx10)) (gv hF oA (sn (Sm.ret ?_))); obtain rfl := aW h; exact lD rfl rfl
theorem ur {n : Nat} {k : Nat} (hn : n < 256) (hk : k <= 24) : sJ .i64 (n : Int) (k : Int) = some ((n * 2 ^ k : Nat) : Int) := by
 unfold sJ; have hm : min ((k : Int).toNat) IntKind.i64.bits = k := by show min _ 64 = _; omega
 rw [if_neg (by omega), hm]; have h1 : (2 : Nat) ^ k <= 2 ^ 24 := Nat.pow_le_pow_right (by omega) hk; have h2 : n * 2 ^ k < 256 * 2 ^ 24 := Nat.lt_of_lt_of_le (Nat.mul_lt_mul_of_pos_right hn (Nat.pow_pos (by omega))) (Nat.mul_le_mul_left _ h1); have e : ((n : Int) * 2 ^ k) = ((n * 2 ^ k : Nat) : Int) := by norm_cast
 rw [e, aY _ (by omega)]
theorem Ht (b0 b1 b2 b3 : UInt8) : gr [b0, b1, b2, b3] = some ((be [b0, b1, b2, b3] : Nat) : Int) := by
 have h0 := b0.toNat_lt; have h1 := b1.toNat_lt; have h2 := b2.toNat_lt; have h3 := b3.toNat_lt; unfold gr; rw [show idx [b0, b1, b2, b3] 0 = some b0 from rfl, aq, show (24 : Int) = ((24 : Nat) : Int) from rfl, ur h0 (by omega), aq, show idx [b0, b1, b2, b3] 1 = some b1 from rfl, aq, show (16 : Int) = ((16 : Nat) : Int) from rfl, ur h1 (by omega), aq, bQ (by omega), aq,
  show idx [b0, b1, b2, b3] 2 = some b2 from rfl, aq, show (8 : Int) = ((8 : Nat) : Int) from rfl, ur h2 (by omega), aq, bQ (by omega), aq, show idx [b0, b1, b2, b3] 3 = some b3 from rfl, aq, bQ (by omega), aq]
 simp only [be, List.foldl_cons, List.foldl_nil]
 congr 1
 omega
theorem FM (l : zBz) (hl : l.length = 4) : aj Tryd.prog HG 48 [.list 1 (l.map ai) false] (.v (.int .i64 (be l))) := by
 rcases l with _ | ⟨b0, _ | ⟨b1, _ | ⟨b2, _ | ⟨b3, _ | ⟨b4, l⟩⟩⟩⟩⟩ <;> simp at hl
 exact qv (Ht b0 b1 b2 b3)
def tr (l : zBz) : Vec 32 := if h : l.length = 32 then ⟨l, h⟩ else ⟨List.replicate 32 0, rfl⟩
def wY : Rcd := ⟨false, 0, 0, [], ⟨List.replicate 32 0, rfl⟩⟩
def mZ (B : zBz) : Rcd :=
 if (B.getD 0 0).toNat = 80 /\ be ((B.drop 5).take 4) + 9 = B.length /\ B.length <= 65545 then ⟨true, B.getD 0 0, (be ((B.drop 1).take 4) : Nat), B.drop 9, cC (B.drop 9)⟩
 else if (B.getD 0 0).toNat = 68 /\ B.length = 37 then ⟨true, B.getD 0 0, (be ((B.drop 1).take 4) : Nat), [], tr (B.drop 5)⟩
 else wY
def vQ (b : zBz) : Rcd :=
 if b.length < 41 then wY else
 if Sha.sum (b.take (b.length - 32)) ≠ b.drop (b.length - 32) then wY else
 mZ (b.take (b.length - 32))
theorem fo {n l : Nat} {t : TypeId} {R : List D} {h : zHz} {zr zp : List V} (hs : az Tryd.prog t = some n) (hl : look h l = some ⟨n, [zr]⟩) (hp : ac zr = some zp) : dp Tryd.prog h t (.ref l 0 0) (.d (.agg n R)) = some (.upd l ⟨n, [R.map V.d]⟩) := by
 simp only [dp, hl, Option.bind_some, List.getElem?_cons_zero, hp, gm, hs]; simp
theorem gQ {n l : Nat} {t : TypeId} {R : List D} {h : zHz} (hs : az Tryd.prog t = some n) (ha : bh Tryd.prog t = some true) (hl : look h l = some ⟨n, [R.map V.d]⟩) : aX Tryd.prog h t (.ref l 0 0) = some (.d (.agg n R)) := by
 have hs' : seg (R.map V.d) n 0 n = R.map V.d := by
  unfold seg; rw [if_pos ⟨rfl, rfl⟩]
 have hp : bv (R.map V.d) = some R := gK _; simp only [aX, hl, Option.bind_some, List.getElem?_cons_zero, cj, ha, hs, hs', hp]; simp
theorem nl (r : D) (h : r = .agg 36 ([.v (.bool false), .v (.int .u8 0), .v (.int .i64 0), .list 0 [] true] ++ ay (List.replicate 32 0))) : r.le (.agg 36 (Rcd.row wY)) := by
 rw [h]; refine fW ?_; exact ⟨D.le.refl _, D.le.refl _, D.le.refl _, ck 0 1 true, leL.refl _⟩
def pn (k : UInt8) (n : Int) (L : zBz) (i : Nat) : List D := [.v (.bool true), .v (.int .u8 (k.toNat : Int)), .v (.int .i64 n), .list 0 [] true] ++ ay (L.take i ++ List.replicate (32 - i) 0)
theorem Hx (k : UInt8) (n : Int) {L : zBz} {i : Nat} {y : UInt8} (hL : L.length = 32) (hy : L[i]? = some y) : (pn k n L i).set (4 + i) (aG y) = pn k n L (i + 1) := by
 have hi : i < 32 := by have := (List.getElem?_eq_some_iff.1 hy).1; omega
 unfold pn; rw [List.set_append_right _ _ (by simp)]
 congr 1
 simp only [List.length_cons, List.length_nil, Nat.zero_add, Nat.reduceAdd, Nat.add_sub_cancel_left]; unfold ay; rw [<- List.map_set]
 congr 1
 rw [List.take_add_one, hy, List.set_append_right _ _ (by rw [List.length_take]; omega), show 32 - i = (32 - (i + 1)) + 1 by omega, List.replicate_succ]; have hmin : i - (List.take i L).length = 0 := by simp only [List.length_take]; omega
 rw [hmin, List.set_cons_zero]; simp
theorem Ig {k : UInt8} {n : Int} {L : zBz} {i l : Nat} {y : UInt8} {h : zHz} (hL : L.length = 32) (hy : L[i]? = some y) (hl : look h l = some ⟨36, [(pn k n L i).map V.d]⟩) : dp Tryd.prog h 5 (.ref l 0 (4 + i)) (.d (aG y)) = some (.upd l ⟨36, [(pn k n L (i + 1)).map V.d]⟩) := by
 have hi : i < 32 := by have := (List.getElem?_eq_some_iff.1 hy).1; omega
 have h1 : ((pn k n L i).map V.d).set (4 + i) (V.d (aG y)) = (pn k n L (i + 1)).map V.d := by
  rw [<- List.map_set, Hx k n hL hy]
 have hc : gm (.d (aG y)) = some (1, [.d (aG y)]) := rfl; simp only [dp, hl, Option.bind_some, List.getElem?_cons_zero, cj, hc, sz5]; rw [if_pos ⟨trivial, by omega⟩, if_neg (by omega), if_pos trivial, h1]; rfl
set_option maxHeartbeats 4000000 in
theorem FL (b : zBz) (hb : b.length <= 1000000) : aj Tryd.prog HG 28 [.list 1 (b.map ai) false] (.agg 36 (Rcd.row (vQ b))) := by
 unfold vQ; by_cases c1 : b.length < 41
 ·rw [if_pos c1]; refine aj.of Tryd.func28 rfl Tryd.ntmps28 (by simp) ?_; intro F hF h0 hT; simp only [List.zipIdx_cons, List.zipIdx_nil, List.map_cons, List.map_nil, Nat.zero_add, Nat.reduceAdd]; refine Sm.seq ?_; refine ab hF rfl ?_; refine SmG.new hF rfl rfl rfl (aF rfl CH) ?_; refine SmG.nil (aa (Sm.seq (Sm.seq ?_))); refine ab hF rfl ?_; refine gv hF oM ?_; refine gv hF (aJ rfl rfl (by simp (disch := omega) only [go_sem, Nat.reduceEqDiff, aE, ac] <;> rfl)) ?_; refine gv hF (ah rfl rfl rfl (by exact eu _ _ _ _ _ (by omega))) ?_; refine SmG.nil (aa ?_); refine aZ hF rfl ?_; refine Sm.seq ?_; refine ab hF rfl ?_; refine gv hF (cZ rfl Tryd.underlying64 (by kernel_rfl) rfl wA) ?_; refine SmG.store hF rfl rfl rfl rfl rfl (fo gM rfl rfl) ?_; refine SmG.nil (aa (Sm.ret ?_)); simp only [ba, bR]; refine cK rfl rfl (gQ gM nz rfl) ?_; exact nl _ rfl
 rw [if_neg c1]; obtain ⟨E, hE⟩ : ∃ E, b.length = E + 32 := ⟨b.length - 32, by omega⟩
 have hE2 : (b.length : Int) - 32 = (E : Int) := by omega
 have hE3 : b.length - 32 = E := by omega
 have hlb : (b.take E).length = E := by simp; omega
 have hlt : (b.drop E).length = 32 := by simp; omega
 rw [hE3]; have csum := qS (b.take E) (by omega) HG; obtain ⟨sx, hsx⟩ : ∃ sx : Vec 32, sx.l = Sha.sum (b.take E) := ⟨cC _, rfl⟩
 rw [<- hsx] at csum ⊢; have hsl := sx.h; have hrl : (ay sx.l).length = 32 := cQ hsl; have hch : ft 1 32 (ay sx.l) = sx.l.map ai := by
  have := kO (ay sx.l); rw [hrl] at this; rw [this]; simp [ay, ai]
 have htk : (sx.l.map ai).take 32 = sx.l.map ai := List.take_of_length_le (by simp [hsl]); refine aj.of Tryd.func28 rfl Tryd.ntmps28 (by simp) ?_; intro F hF h0 hT; simp only [List.zipIdx_cons, List.zipIdx_nil, List.map_cons, List.map_nil, Nat.zero_add, Nat.reduceAdd]; refine Sm.seq ?_; refine ab hF rfl ?_; refine SmG.new hF rfl rfl rfl (aF rfl CH) ?_; refine SmG.nil (aa (Sm.seq (Sm.seq ?_))); refine ab hF rfl ?_; refine gv hF oM ?_; refine gv hF (aJ rfl rfl (by simp (disch := omega) only [go_sem, Nat.reduceEqDiff, aE, ac, <- List.map_take, <- List.map_drop] <;> rfl)) ?_; refine gv hF (ah rfl rfl rfl (by exact eR _ _ _ _ _ (by omega))) ?_; refine SmG.nil (aa ?_); refine aS hF rfl ?_; refine Sm.skip ?_; refine aa (Sm.seq ?_); refine ab hF rfl ?_; refine gv hF oM ?_; refine gv hF (aJ rfl rfl (by simp (disch := omega) only [go_sem, Nat.reduceEqDiff, aE, ac, <- List.map_take, <- List.map_drop] <;> rfl)) ?_; refine gv hF (ah rfl rfl rfl ((ib _ _ _ _ _ (aY _ (by omega))).trans (by rw [hE2]))) ?_; refine gv hF oA (SmG.nil (aa (Sm.seq ?_))); refine ab hF rfl ?_; refine gv hF oM (gv hF oM ?_); refine gv hF (bC rfl rfl rfl rfl rfl (by simp (disch := omega) only [go_sem, Nat.reduceEqDiff, aE, ac, <- List.map_take, <- List.map_drop] <;> rfl)) ?_; refine SmG.call hF rfl rfl (by kernel_rfl) rfl rfl rfl (csum) ?_; refine SmG.new hF rfl rfl rfl (aF rfl mA) ?_; refine SmG.store hF rfl rfl rfl rfl rfl (by simp (disch := omega) only [go_sem, Nat.reduceEqDiff, aE, ac, <- List.map_take, <- List.map_drop] <;> rfl) ?_; refine SmG.nil (aa (Sm.seq (Sm.seq ?_))); simp only [rep, Nat.zero_add, Nat.reduceEqDiff, if_true, if_false]; refine Sm.freeze (l := 1) [ay sx.l] rfl ?_; simp only [Pk.v, cR, bf, bL,  reduceIte, Nat.reduceAdd, Nat.zero_add, List.length_map, List.length_append, Nat.le_refl, true_and, and_self, if_true, Nat.reduceEqDiff, true_and]; refine eW hF (by kernel_rfl) rfl 7 (by kernel_rfl) (by kernel_rfl) ?_; simp only [List.take_succ_cons, List.take_zero, List.take_nil]; refine hv hF (bC rfl rfl rfl rfl rfl (by simp (disch := omega) only [go_sem, Nat.reduceEqDiff, aE, ac, <- List.map_take, <- List.map_drop, hch, htk, iY] <;> rfl)) ?_
 refine hv hF (cB rfl rfl (by simp (disch := omega) only [go_sem, Nat.reduceEqDiff, aE, ac, <- List.map_take, <- List.map_drop, hch, htk, iY] <;> rfl)) ?_; refine hv hF oM (hv hF oM ?_); refine hv hF (bC rfl rfl rfl rfl rfl (by simp (disch := omega) only [go_sem, Nat.reduceEqDiff, aE, ac, <- List.map_take, <- List.map_drop, hch, htk, iY] <;> rfl)) ?_; refine hv hF (cB rfl rfl (by simp (disch := omega) only [go_sem, Nat.reduceEqDiff, aE, ac, <- List.map_take, <- List.map_drop, hch, htk, iY] <;> rfl)) ?_; refine au.v (x := .d (.v (.bool (sx.l != b.drop E)))) hF rfl rfl rfl (ah rfl rfl rfl (FE rfl)) ?_; refine au.last ⟨rfl, ?_⟩; simp only [List.drop_succ_cons, List.drop_zero, List.drop_nil, List.nil_append, List.cons_append]; refine SmG.nil (aa ?_); by_cases hs : sx.l = b.drop E
 case neg =>
  rw [if_pos (by exact hs), show (sx.l != b.drop E) = true by simp [hs]]; refine aZ hF rfl ?_; refine Sm.seq ?_; refine ab hF rfl ?_; refine gv hF (cZ rfl Tryd.underlying64 (by kernel_rfl) rfl wA) ?_; refine SmG.store hF rfl rfl rfl rfl rfl (fo gM rfl rfl) ?_; refine SmG.nil (aa (Sm.ret ?_)); simp only [ba, bR]; refine cK rfl rfl (gQ gM nz rfl) ?_; exact nl _ rfl
 rw [if_neg (by simp [hs]), show (sx.l != b.drop E) = false by simp [hs]]; obtain ⟨kind, hk⟩ : ∃ kind, b[0]? = some kind := ⟨b[0]'(by omega), List.getElem?_eq_getElem (by omega)⟩
 have hkB : (b.take E).getD 0 0 = kind := by
  have : (b.take E)[0]? = some kind := by rw [List.getElem?_take]; simp [hk]; omega
  simp [List.getD_eq_getElem?_getD, this]
 have e1 : (b.take 5).drop 1 = ((b.take E).drop 1).take 4 := by
  rw [List.drop_take, List.drop_take, List.take_take]; congr 1; omega
 have e5 : (b.take 9).drop 5 = ((b.take E).drop 5).take 4 := by
  rw [List.drop_take, List.drop_take, List.take_take]; congr 1; omega
 have h1 : ((b.take 5).drop 1).length = 4 := by simp; omega
 have h5 : ((b.take 9).drop 5).length = 4 := by simp; omega
 unfold mZ; rw [hkB, <- e1, <- e5, hlb]; have cr1 := FM _ h1; have cr5 := FM _ h5; generalize hl1 : (b.take 5).drop 1 = l1 at cr1 h1; generalize hl5 : (b.take 9).drop 5 = l5 at cr5 h5; have hm1 : List.drop 1 (List.take (Int.toNat 5) b) = l1 := hl1; have hm5 : List.drop (Int.toNat 5) (List.take (Int.toNat 9) b) = l5 := hl5; refine aS hF rfl ?_; refine Sm.skip ?_; refine aa (Sm.seq ?_); refine dD hF rfl ?_; refine ik hF rfl 0 9 (by kernel_rfl) ?_; simp only [List.take_succ_cons, List.take_zero, List.take_nil, List.drop_succ_cons, List.drop_zero, Nat.reduceSub]; refine hv hF oM ?_; refine hv hF (ak rfl rfl rfl (by simp (disch := omega) only [go_sem, Nat.reduceEqDiff, aE, ac, <- List.map_take, <- List.map_drop, hk, ai, aG, hm1, hm5] <;> rfl)) ?_; refine hv hF (ae rfl rfl (by simp (disch := omega) only [go_sem, Nat.reduceEqDiff, aE, ac, <- List.map_take, <- List.map_drop, hk, ai, aG, hm1, hm5] <;> rfl)) ?_; refine hv hF oM ?_; refine hv hF (bC rfl rfl rfl rfl rfl (by simp (disch := omega) only [go_sem, Nat.reduceEqDiff, aE, ac, <- List.map_take, <- List.map_drop, hk, ai, aG, hm1, hm5] <;> rfl)) ?_; refine au.c hF rfl rfl (by kernel_rfl) rfl rfl rfl (cr1) ?_; refine hv hF (cZ rfl Tryd.underlying64 (by kernel_rfl) rfl (ku (n := 36) Nj MJ rfl (by repeat' first | apply xI rfl rfl (by first | rfl | simp [ay, ac, <- List.map_take, <- List.map_drop, hk, ai, aG, hm1, hm5]) | apply xH rfl rfl rfl (by first | assumption | simp [ay, ac, <- List.map_take, <- List.map_drop, hk, ai, aG, hm1, hm5]) | (apply IA; simp only [List.set_cons_succ, List.set_cons_zero, List.take_succ_cons, List.take_zero, List.drop_succ_cons, List.drop_zero, List.drop_nil, List.cons_append, List.nil_append, List.append_nil, ac, <- List.map_take, <- List.map_drop, hk, ai, aG, hm1, hm5] <;> rfl)))) ?_; refine au.new hF rfl rfl rfl rfl CH ?_; refine au.st hF rfl rfl rfl rfl rfl rfl (fo gM rfl rfl) ?_; refine au.last ?_; simp only [List.nil_append, List.cons_append]; refine SmA.nil (Nat.le_of_ble_eq_true rfl) ?_; refine aa (Sm.seq (Sm.seq ?_))
 by_cases k80 : kind.toNat = 80
 ·by_cases cn : be l5 + 9 = E
  ·by_cases cl : E <= 65545
   ·rw [if_pos ⟨k80, cn, cl⟩]; have hx : (b.take E).drop 9 = (b.take E).drop 9 := rfl; have hxl : ((b.take E).drop 9).length <= 1000000 := by simp; omega
    have csx := qS _ hxl HG; have hnil : List.drop (Int.toNat 9) (List.take E b) = (b.take E).drop 9 := rfl; generalize (b.take E).drop 9 = x at hxl csx hnil; obtain ⟨sv, hsv, hsv2⟩ : ∃ sv : Vec 32, sv.l = Sha.sum x /\ sv = cC x := ⟨cC x, rfl, rfl⟩
    rw [<- hsv] at csx; rw [<- hsv2]; refine ab hF rfl ?_; refine gv hF oM ?_; refine gv hF (ak rfl rfl rfl (by simp (disch := omega) only [go_sem, Nat.reduceEqDiff, aE, ac, <- List.map_take, <- List.map_drop, hk, ai, aG, hm5] <;> rfl)) ?_; refine gv hF (ae rfl rfl (by simp (disch := omega) only [go_sem, Nat.reduceEqDiff, aE, ac, <- List.map_take, <- List.map_drop, hk, ai, aG, hm5] <;> rfl)) ?_; refine gv hF (ah rfl rfl rfl (by exact dR _ _ _ _ _ (by omega))) ?_; refine gv hF oM ?_; refine gv hF oM ?_; refine gv hF (bC rfl rfl rfl rfl rfl (by simp (disch := omega) only [go_sem, Nat.reduceEqDiff, aE, ac, <- List.map_take, <- List.map_drop, hk, ai, aG, hm5] <;> rfl)) ?_; refine SmG.call hF rfl rfl (by kernel_rfl) rfl rfl rfl (cr5) ?_; refine gv hF oM ?_; refine gv hF (ah rfl rfl rfl (by exact ib _ _ _ _ _ (aY _ (by omega)))) ?_; refine gv hF (ah rfl rfl rfl (by exact dR _ _ _ _ _ (by omega))) ?_; refine gv hF (aO rfl rfl rfl) ?_; refine gv hF oM ?_; refine gv hF oM ?_; refine gv hF (ah rfl rfl rfl (by exact ib _ _ _ _ _ (aY _ (by omega)))) ?_; refine gv hF (ah rfl rfl rfl (by exact te _ _ _ _ _ (by omega))) ?_; refine gv hF (aO rfl rfl rfl) ?_; refine SmG.nil (aa ?_); refine aZ hF rfl ?_; refine Sm.seq ?_; refine ab hF rfl ?_; refine gv hF (bc rfl rfl (by simp (disch := omega) only [go_sem, Nat.reduceEqDiff, aE, ac, <- List.map_take, <- List.map_drop, hnil, List.append_nil] <;> rfl)) ?_; refine gv hF oM (gv hF oM ?_); refine gv hF (bC rfl rfl rfl rfl rfl (by simp (disch := omega) only [go_sem, Nat.reduceEqDiff, aE, ac, <- List.map_take, <- List.map_drop, hnil, List.append_nil] <;> rfl)) ?_; refine SmG.append hF lf rfl rfl rfl rfl rfl rfl (Or.inr rfl) (Or.inl rfl) (by simp; omega) (by simp; omega) ?_; refine gv hF (ag rfl rfl (by simp (disch := omega) only [go_sem, Nat.reduceEqDiff, aE, ac, <- List.map_take, <- List.map_drop, hnil, List.append_nil] <;> rfl)) ?_; refine SmG.store hF rfl rfl rfl rfl rfl (by simp (disch := omega) only [go_sem, Nat.reduceEqDiff, aE, ac, <- List.map_take, <- List.map_drop, hnil, List.append_nil] <;> rfl) ?_
    refine SmG.nil (aa (Sm.seq ?_)); refine ab hF rfl ?_; refine gv hF (ag rfl rfl (by simp (disch := omega) only [go_sem, Nat.reduceEqDiff, aE, ac, <- List.map_take, <- List.map_drop, hnil, List.append_nil] <;> rfl)) ?_; refine gv hF (ae rfl rfl (by simp (disch := omega) only [go_sem, Nat.reduceEqDiff, aE, ac, <- List.map_take, <- List.map_drop, hnil, List.append_nil] <;> rfl)) ?_; refine SmG.call hF rfl rfl (by kernel_rfl) rfl rfl rfl (csx) ?_; refine gv hF (ag rfl rfl (by simp (disch := omega) only [go_sem, Nat.reduceEqDiff, aE, ac, <- List.map_take, <- List.map_drop, hnil, List.append_nil] <;> rfl)) ?_; refine SmG.store hF rfl rfl rfl rfl rfl (by simp (disch := omega) only [go_sem, Nat.reduceEqDiff, aE, ac, <- List.map_take, <- List.map_drop, hnil, List.append_nil] <;> rfl) ?_; refine SmG.nil (aa (Sm.seq ?_)); refine Sm.to (cV (st' := ⟨[(2, .ref 0 0 0), (5, .ref 2 0 0)], [(2, ⟨36, [(Rcd.row ⟨true, kind, (be l1 : Nat), x, sv⟩).map V.d]⟩), (0, ⟨36, [([.v (.bool false), .v (.int .u8 0), .v (.int .i64 0), .list 0 [] true] ++ List.replicate 32 (.v (.int .u8 0)) : List D).map V.d]⟩)], 3⟩) (aK ⟨rfl, rfl, trivial⟩ ⟨rfl, rfl, trivial⟩ (Nat.le_refl _))) ?_; refine ab hF rfl ?_; refine gv hF (ae rfl rfl (gQ gM nz rfl)) ?_; refine SmG.store hF rfl rfl rfl rfl rfl (fo gM rfl rfl) ?_; refine SmG.nil (aa (Sm.ret ?_)); simp only [ba, bR]; exact cK rfl rfl (gQ gM nz rfl) (D.le.refl _)
   ·rw [if_neg (by omega), if_neg (by omega)]; refine ab hF rfl ?_; refine gv hF oM ?_; refine gv hF (ak rfl rfl rfl (by simp (disch := omega) only [go_sem, Nat.reduceEqDiff, aE, ac, <- List.map_take, <- List.map_drop, hk, ai, aG, hm5] <;> rfl)) ?_; refine gv hF (ae rfl rfl (by simp (disch := omega) only [go_sem, Nat.reduceEqDiff, aE, ac, <- List.map_take, <- List.map_drop, hk, ai, aG, hm5] <;> rfl)) ?_; refine gv hF (ah rfl rfl rfl (by exact dR _ _ _ _ _ (by omega))) ?_; refine gv hF oM ?_; refine gv hF oM ?_; refine gv hF (bC rfl rfl rfl rfl rfl (by simp (disch := omega) only [go_sem, Nat.reduceEqDiff, aE, ac, <- List.map_take, <- List.map_drop, hk, ai, aG, hm5] <;> rfl)) ?_; refine SmG.call hF rfl rfl (by kernel_rfl) rfl rfl rfl (cr5) ?_; refine gv hF oM ?_; refine gv hF (ah rfl rfl rfl (by exact ib _ _ _ _ _ (aY _ (by omega)))) ?_; refine gv hF (ah rfl rfl rfl (by exact dR _ _ _ _ _ (by omega))) ?_; refine gv hF (aO rfl rfl rfl) ?_; refine gv hF oM ?_; refine gv hF oM ?_; refine gv hF (ah rfl rfl rfl (by exact ib _ _ _ _ _ (aY _ (by omega)))) ?_; refine gv hF (ah rfl rfl rfl (by exact wX _ _ _ _ _ (by omega))) ?_; refine gv hF (aO rfl rfl rfl) ?_; refine SmG.nil (aa ?_); refine aS hF rfl ?_; refine Sm.skip ?_; refine aa (Sm.seq (Sm.seq ?_)); refine ab hF rfl ?_; refine gv hF oM ?_; refine gv hF (ak rfl rfl rfl (by simp (disch := omega) only [go_sem, Nat.reduceEqDiff, aE, ac, <- List.map_take, <- List.map_drop, hk, ai, aG, hm5] <;> rfl)) ?_; refine gv hF (ae rfl rfl (by simp (disch := omega) only [go_sem, Nat.reduceEqDiff, aE, ac, <- List.map_take, <- List.map_drop, hk, ai, aG, hm5] <;> rfl)) ?_; refine gv hF (ah rfl rfl rfl (by exact nk _ _ _ _ _ (by omega))) ?_; refine gv hF oM ?_; refine gp hF ?_; refine gp hF ?_; refine gv hF (aO rfl rfl rfl) ?_; refine SmG.nil (aa ?_); refine aZ hF rfl ?_; refine Sm.seq ?_; refine ab hF rfl ?_; refine gv hF (cZ rfl Tryd.underlying64 (by kernel_rfl) rfl wA) ?_; refine SmG.store hF rfl rfl rfl rfl rfl (fo gM rfl rfl) ?_; refine SmG.nil (aa (Sm.ret ?_))
    simp only [ba, bR]; refine cK rfl rfl (gQ gM nz rfl) (nl _ rfl)
  ·rw [if_neg (by omega), if_neg (by omega)]; refine ab hF rfl ?_; refine gv hF oM ?_; refine gv hF (ak rfl rfl rfl (by simp (disch := omega) only [go_sem, Nat.reduceEqDiff, aE, ac, <- List.map_take, <- List.map_drop, hk, ai, aG, hm5] <;> rfl)) ?_; refine gv hF (ae rfl rfl (by simp (disch := omega) only [go_sem, Nat.reduceEqDiff, aE, ac, <- List.map_take, <- List.map_drop, hk, ai, aG, hm5] <;> rfl)) ?_; refine gv hF (ah rfl rfl rfl (by exact dR _ _ _ _ _ (by omega))) ?_; refine gv hF oM ?_; refine gv hF oM ?_; refine gv hF (bC rfl rfl rfl rfl rfl (by simp (disch := omega) only [go_sem, Nat.reduceEqDiff, aE, ac, <- List.map_take, <- List.map_drop, hk, ai, aG, hm5] <;> rfl)) ?_; refine SmG.call hF rfl rfl (by kernel_rfl) rfl rfl rfl (cr5) ?_; refine gv hF oM ?_; refine gv hF (ah rfl rfl rfl (by exact ib _ _ _ _ _ (aY _ (by omega)))) ?_; refine gv hF (ah rfl rfl rfl (by exact jQ _ _ _ _ _ (by omega))) ?_; refine gv hF (aO rfl rfl rfl) ?_; refine gv hF oM ?_; refine gp hF ?_; refine gp hF ?_; refine gp hF ?_; refine gv hF (aU rfl rfl rfl) ?_; refine SmG.nil (aa ?_); refine aS hF rfl ?_; refine Sm.skip ?_; refine aa (Sm.seq (Sm.seq ?_)); refine ab hF rfl ?_; refine gv hF oM ?_; refine gv hF (ak rfl rfl rfl (by simp (disch := omega) only [go_sem, Nat.reduceEqDiff, aE, ac, <- List.map_take, <- List.map_drop, hk, ai, aG, hm5] <;> rfl)) ?_; refine gv hF (ae rfl rfl (by simp (disch := omega) only [go_sem, Nat.reduceEqDiff, aE, ac, <- List.map_take, <- List.map_drop, hk, ai, aG, hm5] <;> rfl)) ?_; refine gv hF (ah rfl rfl rfl (by exact nk _ _ _ _ _ (by omega))) ?_; refine gv hF oM ?_; refine gp hF ?_; refine gp hF ?_; refine gv hF (aO rfl rfl rfl) ?_; refine SmG.nil (aa ?_); refine aZ hF rfl ?_; refine Sm.seq ?_; refine ab hF rfl ?_; refine gv hF (cZ rfl Tryd.underlying64 (by kernel_rfl) rfl wA) ?_; refine SmG.store hF rfl rfl rfl rfl rfl (fo gM rfl rfl) ?_; refine SmG.nil (aa (Sm.ret ?_)); simp only [ba, bR]; refine cK rfl rfl (gQ gM nz rfl) (nl _ rfl)
 ·by_cases k68 : kind.toNat = 68
  ·by_cases c37 : E = 37
   ·rw [if_neg (by omega), if_pos ⟨k68, c37⟩]; have hL : ((b.take E).drop 5).length = 32 := by simp; omega
    have hLi : ∀ i, i < 32 -> b[5 + i]? = ((b.take E).drop 5)[i]? := fun i hi => by
     rw [List.getElem?_drop, List.getElem?_take, if_pos (by omega)]
    generalize (b.take E).drop 5 = L at hL hLi; refine ab hF rfl ?_; refine gv hF oM ?_; refine gv hF (ak rfl rfl rfl (by simp (disch := omega) only [go_sem, Nat.reduceEqDiff, aE, ac, <- List.map_take, <- List.map_drop, hk, ai, aG, hm5] <;> rfl)) ?_; refine gv hF (ae rfl rfl (by simp (disch := omega) only [go_sem, Nat.reduceEqDiff, aE, ac, <- List.map_take, <- List.map_drop, hk, ai, aG, hm5] <;> rfl)) ?_; refine gv hF (ah rfl rfl rfl (by exact jQ _ _ _ _ _ (by omega))) ?_; refine gv hF oM ?_; refine gp hF ?_; refine gp hF ?_; refine gp hF ?_; refine gp hF ?_; refine gp hF ?_; refine gp hF ?_; refine gv hF (aU rfl rfl rfl) ?_; refine gv hF oM ?_; refine gp hF ?_; refine gp hF ?_; refine gp hF ?_; refine gv hF (aU rfl rfl rfl) ?_; refine SmG.nil (aa ?_); refine aS hF rfl ?_; refine Sm.skip ?_; refine aa (Sm.seq (Sm.seq ?_)); refine ab hF rfl ?_; refine gv hF oM ?_; refine gv hF (ak rfl rfl rfl (by simp (disch := omega) only [go_sem, Nat.reduceEqDiff, aE, ac, <- List.map_take, <- List.map_drop, hk, ai, aG, hm5] <;> rfl)) ?_; refine gv hF (ae rfl rfl (by simp (disch := omega) only [go_sem, Nat.reduceEqDiff, aE, ac, <- List.map_take, <- List.map_drop, hk, ai, aG, hm5] <;> rfl)) ?_; refine gv hF (ah rfl rfl rfl (by exact jc _ _ _ _ _ (by omega))) ?_; refine gv hF oM ?_; refine gv hF oM ?_; refine gv hF (ah rfl rfl rfl (by exact jc _ _ _ _ _ (by omega))) ?_; refine gv hF (aU rfl rfl rfl) ?_; refine SmG.nil (aa ?_); refine aS hF rfl ?_; refine Sm.skip ?_; refine aa (Sm.seq (Sm.seq ?_)); refine Sm.to (cV (st' := ⟨[(0, .d (.list 1 (b.map ai) false)), (2, .ref 0 0 0), (5, .ref 2 0 0)], [(2, ⟨36, [(pn kind (be l1 : Nat) L 0).map V.d]⟩), (0, ⟨36, [([.v (.bool false), .v (.int .u8 0), .v (.int .i64 0), .list 0 [] true] ++ List.replicate 32 (.v (.int .u8 0)) : List D).map V.d]⟩)], 3⟩) (aK ⟨rfl, rfl, rfl, trivial⟩ ⟨rfl, rfl, trivial⟩ (Nat.le_refl _))) ?_; refine ab hF rfl ?_; refine gv hF oA (SmG.nil (aa (Sm.block ?_))); refine Sm.loop (ι := {i : Nat // i <= 32}) (fun i => ⟨[(0, .d (.list 1 (b.map ai) false)), (2, .ref 0 0 0), (5, .ref 2 0 0), (6, .d (.v (.int .i64 i.1)))], [(2, ⟨36, [(pn kind (be l1 : Nat) L i.1).map V.d]⟩), (0, ⟨36, [([.v (.bool false), .v (.int .u8 0), .v (.int .i64 0), .list 0 [] true] ++ List.replicate 32 (.v (.int .u8 0)) : List D).map V.d]⟩)], 3⟩) (fun i => 32 - i.1) (⟨0, by omega⟩) ?_ ?_
    ·exact aK ⟨rfl, rfl, rfl, rfl, trivial⟩ ⟨rfl, rfl, trivial⟩ (Nat.le_refl _)
    rintro ⟨i, hi⟩; simp only; by_cases hlt : i < 32
    ·obtain ⟨y, hy⟩ : ∃ y, L[i]? = some y := ⟨L[i]'(by omega), List.getElem?_eq_getElem (by omega)⟩
     have hby : b[5 + i]? = some y := by rw [hLi i hlt, hy]
     have h5i : (5 : Int) + (i : Int) = ((5 + i : Nat) : Int) := by omega
     refine Sm.seq (Sm.seq ?_); refine ab hF rfl ?_; refine gv hF oM ?_; refine gv hF (ah rfl rfl rfl (by exact eu _ _ _ _ _ (by omega))) ?_; refine SmG.nil (aa ?_); refine aZ hF rfl ?_; refine Sm.skip ?_; refine aa (Sm.seq (Sm.block ?_)); refine ab hF rfl ?_; refine gv hF oM (gv hF oM (gv hF oM ?_)); refine gv hF (ah rfl rfl rfl ((eN _ _ _ _ _ (aY _ (by omega))).trans (by rw [h5i]))) ?_; refine gv hF (ak rfl rfl rfl (by simp (disch := omega) only [go_sem, Nat.reduceEqDiff, aE, hby, ai, aG] <;> rfl)) ?_; refine gv hF (ae rfl rfl (by simp (disch := omega) only [go_sem, Nat.reduceEqDiff, aE, hby, ai, aG] <;> rfl)) ?_; refine gv hF (ag rfl rfl (by simp (disch := omega) only [go_sem, Nat.reduceEqDiff, aE, hby, ai, aG] <;> rfl)) ?_; refine gv hF (ak rfl rfl rfl (by simp (disch := omega) only [go_sem, Nat.reduceEqDiff, aE, hby, ai, aG] <;> rfl)) ?_; refine SmG.store hF rfl rfl rfl rfl rfl (Ig hL hy rfl) ?_; refine SmG.nil (aI (aa ?_)); refine ab hF rfl ?_; refine gv hF oM ?_; refine gv hF (ah rfl rfl rfl (by exact eN _ _ _ _ _ (aY _ (by omega)))) ?_; refine gv hF oA (SmG.nil (aa ?_)); exact ⟨⟨i + 1, by omega⟩, by show 32 - (i + 1) < 32 - i; omega, aK ⟨rfl, rfl, rfl, rfl, trivial⟩ ⟨rfl, rfl, trivial⟩ (Nat.le_refl _)⟩
    ·obtain rfl : i = 32 := by omega
     refine Sm.seq (Sm.seq ?_); refine ab hF rfl ?_; refine gv hF oM ?_; refine gv hF (ah rfl rfl rfl (by exact eR _ _ _ _ _ (by omega))) ?_; refine SmG.nil (aa ?_); refine aS hF rfl ?_; refine Sm.exit ?_; simp only [ba, bR, reduceIte, reduceCtorEq]; refine Sm.seq ?_; refine ab hF rfl ?_; refine gv hF (ae rfl rfl (gQ gM nz rfl)) ?_; refine SmG.store hF rfl rfl rfl rfl rfl (fo gM rfl rfl) ?_; refine SmG.nil (aa (Sm.ret ?_)); refine cK rfl rfl (gQ gM nz rfl) ?_; have hv : (tr L).l = L := by unfold tr; rw [dif_pos hL]
     refine fW ?_; simp only [pn, Rcd.row, hv, Nat.sub_self, List.replicate_zero, List.append_nil, List.take_of_length_le (Nat.le_of_eq hL)]; exact ⟨D.le.refl _, D.le.refl _, D.le.refl _, ck 0 1 true, leL.refl _⟩
   ·rw [if_neg (by omega), if_neg (by omega)]; refine ab hF rfl ?_; refine gv hF oM ?_; refine gv hF (ak rfl rfl rfl (by simp (disch := omega) only [go_sem, Nat.reduceEqDiff, aE, ac, <- List.map_take, <- List.map_drop, hk, ai, aG, hm5] <;> rfl)) ?_; refine gv hF (ae rfl rfl (by simp (disch := omega) only [go_sem, Nat.reduceEqDiff, aE, ac, <- List.map_take, <- List.map_drop, hk, ai, aG, hm5] <;> rfl)) ?_; refine gv hF (ah rfl rfl rfl (by exact jQ _ _ _ _ _ (by omega))) ?_; refine gv hF oM ?_; refine gp hF ?_; refine gp hF ?_; refine gp hF ?_; refine gp hF ?_; refine gp hF ?_; refine gp hF ?_; refine gv hF (aU rfl rfl rfl) ?_; refine gv hF oM ?_; refine gp hF ?_; refine gp hF ?_; refine gp hF ?_; refine gv hF (aU rfl rfl rfl) ?_; refine SmG.nil (aa ?_); refine aS hF rfl ?_; refine Sm.skip ?_; refine aa (Sm.seq (Sm.seq ?_)); refine ab hF rfl ?_; refine gv hF oM ?_; refine gv hF (ak rfl rfl rfl (by simp (disch := omega) only [go_sem, Nat.reduceEqDiff, aE, ac, <- List.map_take, <- List.map_drop, hk, ai, aG, hm5] <;> rfl)) ?_; refine gv hF (ae rfl rfl (by simp (disch := omega) only [go_sem, Nat.reduceEqDiff, aE, ac, <- List.map_take, <- List.map_drop, hk, ai, aG, hm5] <;> rfl)) ?_; refine gv hF (ah rfl rfl rfl (by exact jc _ _ _ _ _ (by omega))) ?_; refine gv hF oM ?_; refine gv hF oM ?_; refine gv hF (ah rfl rfl rfl (by exact nk _ _ _ _ _ (by omega))) ?_; refine gv hF (aU rfl rfl rfl) ?_; refine SmG.nil (aa ?_); refine aZ hF rfl ?_; refine Sm.seq ?_; refine ab hF rfl ?_; refine gv hF (cZ rfl Tryd.underlying64 (by kernel_rfl) rfl wA) ?_; refine SmG.store hF rfl rfl rfl rfl rfl (fo gM rfl rfl) ?_; refine SmG.nil (aa (Sm.ret ?_)); simp only [ba, bR]; refine cK rfl rfl (gQ gM nz rfl) (nl _ rfl)
  ·rw [if_neg (by omega), if_neg (by omega)]; refine ab hF rfl ?_; refine gv hF oM ?_; refine gv hF (ak rfl rfl rfl (by simp (disch := omega) only [go_sem, Nat.reduceEqDiff, aE, ac, <- List.map_take, <- List.map_drop, hk, ai, aG, hm5] <;> rfl)) ?_; refine gv hF (ae rfl rfl (by simp (disch := omega) only [go_sem, Nat.reduceEqDiff, aE, ac, <- List.map_take, <- List.map_drop, hk, ai, aG, hm5] <;> rfl)) ?_; refine gv hF (ah rfl rfl rfl (by exact jQ _ _ _ _ _ (by omega))) ?_; refine gv hF oM ?_; refine gp hF ?_; refine gp hF ?_; refine gp hF ?_; refine gp hF ?_; refine gp hF ?_; refine gp hF ?_; refine gv hF (aU rfl rfl rfl) ?_; refine gv hF oM ?_; refine gp hF ?_; refine gp hF ?_; refine gp hF ?_; refine gv hF (aU rfl rfl rfl) ?_; refine SmG.nil (aa ?_); refine aS hF rfl ?_; refine Sm.skip ?_; refine aa (Sm.seq (Sm.seq ?_)); refine ab hF rfl ?_; refine gv hF oM ?_; refine gv hF (ak rfl rfl rfl (by simp (disch := omega) only [go_sem, Nat.reduceEqDiff, aE, ac, <- List.map_take, <- List.map_drop, hk, ai, aG, hm5] <;> rfl)) ?_; refine gv hF (ae rfl rfl (by simp (disch := omega) only [go_sem, Nat.reduceEqDiff, aE, ac, <- List.map_take, <- List.map_drop, hk, ai, aG, hm5] <;> rfl)) ?_; refine gv hF (ah rfl rfl rfl (by exact nk _ _ _ _ _ (by omega))) ?_; refine gv hF oM ?_; refine gp hF ?_; refine gp hF ?_; refine gv hF (aO rfl rfl rfl) ?_; refine SmG.nil (aa ?_); refine aZ hF rfl ?_; refine Sm.seq ?_; refine ab hF rfl ?_; refine gv hF (cZ rfl Tryd.underlying64 (by kernel_rfl) rfl wA) ?_; refine SmG.store hF rfl rfl rfl rfl rfl (fo gM rfl rfl) ?_; refine SmG.nil (aa (Sm.ret ?_)); simp only [ba, bR]; refine cK rfl rfl (gQ gM nz rfl) (nl _ rfl)
end
section
theorem FV (x : Ob) : seg (List.drop 0 x.row) (33 - 0) 0 32 = ay x.sum.l := by
 unfold seg; rw [if_neg (by decide), List.drop_zero, List.drop_zero, jO]
noncomputable def du (a0 : List Ob) (a1 : zBz) (s1 : Int) : Option (Int ⊕ (Unit ⊕ Int)) :=
 bif (decide (s1 < (a0.length : Int))) then (
  ob (idx a0 s1) fun x6 =>
  ob (vN 32 x6.sum.l) fun x7 =>
  ob (vN 32 a1) fun x8 =>
  bif (x6.sum.l == a1) then (
   some (.inr (.inr s1))
  ) else (
   ob (arI .i64 (s1 + 1)) fun x10 =>
   some (.inl x10)
  )
 ) else (
  some (.inr (.inl ()))
 )
noncomputable def gq (a0 : List Ob) (a1 : zBz) : Option Int :=
 ob ((
  cP (du a0 a1) 0
  : Option (Unit ⊕ Int))) fun o12 => match o12 with
 | .inl v11 => (
  some (-1)
  )
 | .inr e13 => some e13
set_option maxHeartbeats 4000000 in
theorem qi {a0 : List Ob} {a1 : zBz} {r : Int} (h : gq a0 a1 = some r) : aj Tryd.prog HG 30 [.list 33 (a0.map Ob.row) false, .agg 32 (ay a1)] (.i r) := by
 unfold gq at h; refine aj.of Tryd.func30 rfl Tryd.ntmps30 (by simp) ?_; intro F hF h0 hT; show Sm F _ _ ⟨[(0, .d (.list 33 (a0.map Ob.row) false)), (1, .d (.agg 32 (ay a1)))], [], 0⟩; refine sr hF ?_; refine pT hF Gs ?_; refine gv hF oA (sn (Sm.seq ?_)); obtain ⟨o12, ho12, h⟩ := ap h; rcases zb o12 with ⟨e13, rfl⟩ | ⟨v11, rfl⟩
 ·have he13 := aW h; subst he13; replace h := ho12; refine sr hF (gv hF oA (sn (Sm.block ?_))); refine eE (du a0 a1) (fun s1 => ⟨[(0, .d (.list 33 (a0.map Ob.row) false)), (3, .d (.ptr 32 (ay a1))), (5, .i s1)], [], 0⟩) 0 h (kA) ?_; intro n2 s1 o3 h hd4; unfold du at h; refine Sm.seq (sr hF (gv hF oM (gv hF oM (gv hF (oN (eJ u24)) (gv hF (oB (gb)) (sn ?_)))))); refine cN hF rfl (fun hc5 => ?_) (fun hc5 => ?_)
  ·replace h := ifF hc5 h; refine Sm.exit ?_; replace h := bV h hd4; cases h
  replace h := ifT hc5 h; refine sk (Sm.seq (Sm.block (Sm.seq ?_))); refine dG hF 6 ?_; refine hv hF oM (hv hF oM ?_); obtain ⟨x6, hx6, h⟩ := ap h; refine hv hF (oI (eI u24 fO hx6)) (hv hF (oF (gt EV rfl)) (hv hF (x := .d (.agg 32 (ay x6.sum.l))) (oL (kj oZ pp rfl (FV x6))) (hv hF (x := .d (.agg 32 (ay a1))) (oL (kj oZ pp rfl rfl)) ?_))); refine hE ?_; obtain ⟨x7, hx7, h⟩ := ap h; obtain ⟨x8, hx8, h⟩ := ap h; refine gv hF (jP rfl rfl rfl (uT (by kernel_rfl) (by kernel_rfl) (wg hx7) (wg hx8))) (sn ?_); refine cN hF rfl (fun hc9 => ?_) (fun hc9 => ?_)
  ·replace h := ifF hc9 h; refine Sm.skip ?_; refine aI (aa ?_); refine ab hF rfl ?_; refine gv hF oM ?_; obtain ⟨x10, hx10, h⟩ := ap h; refine gv hF (oB (dX hx10)) (gv hF oA (SmG.nil ?_)); exact eZ (dN h hd4) (kA)
  replace h := ifT hc9 h; refine sr hF (gv hF oM (gv hF oA (sn (Sm.ret ?_)))); replace h := bV h hd4; replace h := sW h; obtain rfl := aW h; exact lD rfl rfl
 refine iu ⟨[], [], 0⟩ ?_ ?_
 ·refine Sm.seq ?_; refine ab hF rfl ?_; refine gv hF oA (sn (Sm.ret ?_)); obtain rfl := aW h; exact lD rfl rfl
 replace h := ho12; refine sr hF (gv hF oA (sn (Sm.block ?_))); refine eE (du a0 a1) (fun s1 => ⟨[(0, .d (.list 33 (a0.map Ob.row) false)), (3, .d (.ptr 32 (ay a1))), (5, .i s1)], [], 0⟩) 0 h (kA) ?_; intro n2 s1 o3 h hd4; unfold du at h; refine Sm.seq (sr hF (gv hF oM (gv hF oM (gv hF (oN (eJ u24)) (gv hF (oB (gb)) (sn ?_)))))); refine cN hF rfl (fun hc5 => ?_) (fun hc5 => ?_)
 ·replace h := ifF hc5 h; refine Sm.exit ?_; replace h := bV h hd4; obtain rfl := aW (sV h); exact (kA)
 replace h := ifT hc5 h; refine sk (Sm.seq (Sm.block (Sm.seq ?_))); refine dG hF 6 ?_; refine hv hF oM (hv hF oM ?_); obtain ⟨x6, hx6, h⟩ := ap h; refine hv hF (oI (eI u24 fO hx6)) (hv hF (oF (gt EV rfl)) (hv hF (x := .d (.agg 32 (ay x6.sum.l))) (oL (kj oZ pp rfl (FV x6))) (hv hF (x := .d (.agg 32 (ay a1))) (oL (kj oZ pp rfl rfl)) ?_))); refine hE ?_; obtain ⟨x7, hx7, h⟩ := ap h; obtain ⟨x8, hx8, h⟩ := ap h; refine gv hF (jP rfl rfl rfl (uT (by kernel_rfl) (by kernel_rfl) (wg hx7) (wg hx8))) (sn ?_); refine eV hF rfl (fun hc9 => ?_) (fun hc9 => ?_)
 ·replace h := ifT hc9 h; refine sr hF (gv hF oM (gv hF oA (sn (Sm.ret ?_)))); replace h := bV h hd4; cases h
 replace h := ifF hc9 h; refine Sm.skip ?_; refine aI (aa ?_); refine ab hF rfl ?_; refine gv hF oM ?_; obtain ⟨x10, hx10, h⟩ := ap h; refine gv hF (oB (dX hx10)) (gv hF oA (SmG.nil ?_)); exact eZ (dN h hd4) (kA)
noncomputable def gX (a0 : List Ob) (a1 : Int) : Option (List Ob) :=
 ob (slc a0 0 a1) fun x1 =>
 ob (app ([] : List Ob) x1) fun x2 =>
 ob (arI .i64 (a1 + 1)) fun x3 =>
 ob (slc a0 x3 (a0.length : Int)) fun x4 =>
 ob (app x2 x4) fun x5 =>
 some x5
set_option maxHeartbeats 4000000 in
theorem nU {a0 : List Ob} {a1 : Int} {r : List Ob} (h : gX a0 a1 = some r) : cc Tryd.prog HG 51 [.list 33 (a0.map Ob.row) false, .i a1] .one 33 (r.map Ob.row) [] := by
 unfold gX at h; refine cc.of Tryd.func51 rfl Tryd.ntmps51 (by simp) ?_; intro F hF h0 hT; show Sm F _ _ ⟨[(0, .d (.list 33 (a0.map Ob.row) false)), (1, .i a1)], [], 0⟩; refine sr hF (gv hF oA (sn (sr hF (gv hF (x := .d (.list 33 (([] : List Ob).map Ob.row) true)) (oS (tz u24 fO)) (gv hF oM (gv hF oM ?_)))))); obtain ⟨x1, hx1, h⟩ := ap h; refine gv hF (bC rfl rfl rfl rfl rfl (DO u24 fO hx1)) ?_; obtain ⟨x2, hx2, h⟩ := ap h; refine SmG.appendFreshL hF rM rfl (ys := x1) (row := Ob.row) rfl rfl rfl rfl rfl rfl rfl (.inl rfl) hx2 ?_; refine gv hF oA (sn (sr hF (gv hF oM (gv hF oM (gv hF oM ?_))))); obtain ⟨x3, hx3, h⟩ := ap h; refine gv hF (oB (dX hx3)) ?_; obtain ⟨x4, hx4, h⟩ := ap h; refine gv hF (bC rfl rfl rfl rfl rfl (DP u24 fO hx4)) ?_; obtain ⟨x5, hx5, h⟩ := ap h; refine gT hF rM rfl (ys := x4) (row := Ob.row) rfl rfl rfl rfl rfl rfl rfl rfl (.inl rfl) hx5 (by (repeat' first | exact mu _ | refine lq ?_ | refine cW ?_ (iZ _ _ _) | refine cW ?_ (iZ _ _ [_]) | refine cW ?_ (nG (by rfl)))) ?_; refine gv hF oA (sn (Sm.ret ?_)); obtain rfl := aW h; exact ma 0 rfl rfl rfl
theorem Dh (l : List Ob) (k : Vec 32) (hl : l.length <= 4294967296) : gq l k.l = some (cF l k.l) := by
 unfold gq; refine Ok.get ?_; refine Ok.bind (P := fun o => o = match aM l k.l with | some i => .inr (i : Int) | none => .inl ()) ?_ ?_
 ·refine Ok.loop (fun s : Int => ∃ i : Nat, s = i /\ i <= l.length /\ ∀ j x, j < i -> l[j]? = some x -> ¬ (x.sum.l = k.l)) (fun s : Int => l.length - s.toNat) ⟨0, rfl, by omega, fun j x h => by omega⟩ ?_; rintro _ ⟨i, rfl, h1, h2⟩; unfold du; refine Ok.cond (fun c => ?_) fun c => Ok.ret ?_
  ·simp only [decide_eq_true_eq] at c; have hx : l[i]? = some (l[i]'(by omega)) := List.getElem?_eq_getElem _; generalize l[i]'(by omega) = x at hx; rw [er, hx, aq, Cs x.sum.h, aq, Cs k.h, aq]; refine Ok.cond (fun c2 => Ok.ret ?_) fun c2 => ?_
   ·have hf : aM l k.l = some i := by
     unfold aM; rw [List.findIdx?_eq_some_iff_getElem]; refine ⟨by omega, ?_, fun j hj => ?_⟩
     ·rw [List.getElem?_eq_getElem (by omega)] at hx; rw [Option.some.inj hx]; exact c2
     ·have := h2 j _ hj (List.getElem?_eq_getElem (by omega)); simpa using this
    simp only [hf]
   ·rw [bQ (by omega), aq]; refine Ok.ret ⟨⟨i + 1, by omega, by omega, fun j y hj hy => ?_⟩, by omega⟩; by_cases e : j = i
    ·subst e; rw [hx] at hy; cases hy; simpa using c2
    ·exact h2 j y (by omega) hy
  ·simp only [decide_eq_false_iff_not] at c; have hf : aM l k.l = none := by
    unfold aM; rw [List.findIdx?_eq_none_iff]; intro x hx; obtain ⟨j, hj, e⟩ := List.getElem_of_mem hx; have := h2 j x (by omega) (by rw [List.getElem?_eq_getElem hj, e]); simpa using this
   simp only [hf]
 ·rintro o rfl; unfold cF; cases aM l k.l <;> exact Ok.ret rfl
theorem zL (l : List Ob) (k : Vec 32) (hl : l.length <= 4294967296) : aj Tryd.prog HG 30 [.list 33 (l.map Ob.row) false, .agg 32 (ay k.l)] (.v (.int .i64 (cF l k.l))) := qi (Dh l k hl)
theorem tM (l : List Ob) (i : Nat) (hl : l.length <= 1000000) (hi : i < l.length) : cc Tryd.prog HG 51 [.list 33 (l.map Ob.row) false, .v (.int .i64 i)] .one 33 ((l.eraseIdx i).map Ob.row) [] := by
 refine nU (a0 := l) (a1 := (i : Int)) (r := l.eraseIdx i) ?_; unfold gX; rw [kJ (by omega), aq, eF (by simp; omega), aq, bQ (by omega), aq, kJ (by omega), aq, eF (by simp; omega), aq]; have e : ((i : Int) + 1).toNat = i + 1 := by omega
 simp [e, List.eraseIdx_eq_take_drop_succ]
end
section
def fB (objs : List Ob) (n : Nat) (r : Rcd) : Option (List Ob) :=
 if r.ok = true /\ r.n = (n : Int) /\ (r.kind.toNat = 80 ↔ aM objs r.sum.l = none) /\ ¬ (r.kind.toNat = 80 /\ 256 <= objs.length) then
  (if r.kind.toNat = 80 then some (objs ++ [⟨r.sum, r.data⟩]) else (aM objs r.sum.l).map fun i => objs.eraseIdx i)
 else none
theorem gy (objs : List Ob) (n : Nat) : fB objs n wY = none := by
 unfold fB; rw [if_neg]; rintro ⟨h, _⟩; cases h
theorem Ie (objs : List Ob) (n : Nat) (B : zBz) (hB : 9 <= B.length) : rG objs n B = fB objs n (mZ B) := by
 obtain ⟨kind, r1, rfl⟩ : ∃ kind r1, B = kind :: r1 := by
  cases B with
  | nil => simp at hB
  | cons a l => exact ⟨a, l, rfl⟩
 have hr1 : 8 <= r1.length := by simp at hB; omega
 have hBl : (kind :: r1).length = r1.length + 1 := rfl; have hk : (kind :: r1).getD 0 0 = kind := rfl; have h5 : (kind :: r1).drop 5 = r1.drop 4 := rfl; have h1 : (kind :: r1).drop 1 = r1 := rfl; have h9 : (kind :: r1).drop 9 = (r1.drop 4).drop 4 := by rw [List.drop_drop]; rfl
 have hG80 : kind.toNat = 80 -> be ((r1.drop 4).take 4) + 9 = r1.length + 1 -> r1.length + 1 <= 65545 -> mZ (kind :: r1) = ⟨true, kind, (be (r1.take 4) : Nat), (r1.drop 4).drop 4, cC ((r1.drop 4).drop 4)⟩ := fun a b c => by
  unfold mZ; rw [hk, h5, h1, h9, hBl, if_pos ⟨a, b, c⟩]
 have hG68 : kind.toNat = 68 -> r1.length + 1 = 37 -> mZ (kind :: r1) = ⟨true, kind, (be (r1.take 4) : Nat), [], tr (r1.drop 4)⟩ := fun a b => by
  unfold mZ; rw [hk, h5, h1, h9, hBl, if_neg (by omega), if_pos ⟨a, b⟩]
 have hGno : ¬ (kind.toNat = 80 /\ be ((r1.drop 4).take 4) + 9 = r1.length + 1 /\ r1.length + 1 <= 65545) -> ¬ (kind.toNat = 68 /\ r1.length + 1 = 37) -> mZ (kind :: r1) = wY := fun a b => by
  unfold mZ; rw [hk, h5, h1, h9, hBl, if_neg a, if_neg b]
 rw [eD, if_neg (by omega)]; have hl4 : (r1.drop 4).length = r1.length - 4 := by simp
 have hl8 : ((r1.drop 4).drop 4).length = r1.length - 8 := by simp only [List.length_drop]; omega
 by_cases cn : be (r1.take 4) = n
 ·rw [if_neg (by simp [cn])]; unfold gl; by_cases k80 : kind.toNat = 80
  ·rw [if_pos k80]; by_cases c1 : (r1.drop 4).length < 4 \/ (r1.drop 4).length - 4 < be ((r1.drop 4).take 4)
   ·rw [if_pos c1, hGno (by omega) (by omega), gy]
   ·rw [if_neg c1]; unfold gF; have hd : (((r1.drop 4).drop 4).drop (be ((r1.drop 4).take 4))).length = r1.length - 8 - be ((r1.drop 4).take 4) := by rw [List.length_drop, hl8]
    by_cases c2 : be ((r1.drop 4).take 4) + 9 = r1.length + 1
    ·have hx : ((r1.drop 4).drop 4).take (be ((r1.drop 4).take 4)) = (r1.drop 4).drop 4 := List.take_of_length_le (by omega); rw [if_neg (by rw [hd]; omega), hx]; by_cases c3 : r1.length + 1 <= 65545
     ·rw [hG80 k80 c2 c3]; unfold fB; simp only [k80, true_and, true_iff, if_true, cn]; have hs : (cC ((r1.drop 4).drop 4)).l = Sha.sum ((r1.drop 4).drop 4) := rfl; rw [hs]; by_cases c4 : aM objs (Sha.sum ((r1.drop 4).drop 4)) = none /\ objs.length < 256
      ·rw [if_pos ⟨by omega, c4⟩, if_pos ⟨c4.1, by omega⟩]
      ·rw [if_neg (fun h => c4 h.2), if_neg (fun h => c4 ⟨h.1, by omega⟩)]
     ·rw [if_neg (fun h => by have := h.1; omega), hGno (by omega) (by omega), gy]
    ·rw [if_pos (by rw [hd]; omega), hGno (by omega) (by omega), gy]
  ·rw [if_neg k80]; by_cases k68 : kind.toNat = 68
   ·rw [if_pos k68]; by_cases c1 : (r1.drop 4).length < 32
    ·rw [if_pos c1, hGno (by omega) (by omega), gy]
    ·rw [if_neg c1]; unfold fP; have hd : ((r1.drop 4).drop 32).length = r1.length - 36 := by rw [List.length_drop, hl4]; omega
     by_cases c2 : r1.length + 1 = 37
     ·have hx : (r1.drop 4).take 32 = r1.drop 4 := List.take_of_length_le (by omega); rw [if_neg (by rw [hd]; omega), hx, hG68 k68 c2]; have hv : (tr (r1.drop 4)).l = r1.drop 4 := by unfold tr; rw [dif_pos (by omega)]
      unfold fB; simp only [hv, cn, k80, false_iff, false_and, not_false_eq_true, and_true, true_and, if_false]; cases aM objs (r1.drop 4) with
      | none => simp
      | some i => simp
     ·rw [if_pos (by rw [hd]; omega), hGno (by omega) (by omega), gy]
   ·rw [if_neg k68, hGno (by omega) (by omega), gy]
 ·rw [if_pos (by exact cn)]; symm; unfold fB; rw [if_neg]; rintro ⟨g1, g2, _⟩; by_cases a : kind.toNat = 80 /\ be ((r1.drop 4).take 4) + 9 = r1.length + 1 /\ r1.length + 1 <= 65545
  ·rw [hG80 a.1 a.2.1 a.2.2] at g2; simp at g2; omega
  ·by_cases b : kind.toNat = 68 /\ r1.length + 1 = 37
   ·rw [hG68 b.1 b.2] at g2; simp at g2; omega
   ·rw [hGno a b] at g1; cases g1
theorem Kc (objs : List Ob) (n : Nat) (b : zBz) : bw objs n b = fB objs n (vQ b) := by
 unfold bw vQ; by_cases c1 : b.length < 41
 ·rw [if_pos c1, gy]; by_cases c0 : b.length < 32
  ·rw [if_pos c0]
  ·rw [if_neg c0]; split
   ·rfl
   ·have hl : (b.take (b.length - 32)).length <= 8 := by simp; omega
    generalize b.take (b.length - 32) = B at hl; cases B with
    | nil => rfl
    | cons k r =>
     have hr : r.length <= 7 := by simp at hl; omega
     rw [eD]; split
     ·rfl
     split
     ·rfl
     unfold gl; have hd : (r.drop 4).length <= 3 := by simp; omega
     split
     ·rw [if_pos (by omega)]
     ·split
      ·rw [if_pos (by omega)]
      ·rfl
 ·rw [if_neg c1, if_neg (by omega)]; by_cases c2 : Sha.sum (b.take (b.length - 32)) ≠ b.drop (b.length - 32)
  ·rw [if_pos c2, if_pos c2, gy]
  ·rw [if_neg c2, if_neg c2]; exact Ie objs n _ (by simp; omega)
end
section
theorem Da (sz : Nat) (rows : zRz) : (dB sz rows).sz = sz := rfl
section
variable {h : zHz} {l : Nat} {r : Rcd}
theorem lW (hl : look h l = some ⟨36, [r.row.map V.d]⟩) : aX Tryd.prog h 4 (.ref l 0 0) = some (.d (.v (.bool r.ok))) := by
 simp only [aX, hl, Option.bind_some, List.getElem?_cons_zero, cj, ag4]; rfl
theorem fS (hl : look h l = some ⟨36, [r.row.map V.d]⟩) : aX Tryd.prog h 5 (.ref l 0 1) = some (.d (.v (.int .u8 (r.kind.toNat : Int)))) := by
 simp only [aX, hl, Option.bind_some, List.getElem?_cons_zero, cj, ag5]; rfl
theorem pE (hl : look h l = some ⟨36, [r.row.map V.d]⟩) : aX Tryd.prog h 3 (.ref l 0 2) = some (.d (.v (.int .i64 r.n))) := by
 simp only [aX, hl, Option.bind_some, List.getElem?_cons_zero, cj, ag3]; rfl
theorem Dt (hl : look h l = some ⟨36, [r.row.map V.d]⟩) : aX Tryd.prog h 30 (.ref l 0 3) = some (.d (.list 1 (r.data.map ai) false)) := by
 simp only [aX, hl, Option.bind_some, List.getElem?_cons_zero, cj, zk]; rfl
theorem xP (hl : look h l = some ⟨36, [r.row.map V.d]⟩) : aX Tryd.prog h 42 (.ref l 0 4) = some (.d (.agg 32 (ay r.sum.l))) := by
 have hsl : (ay r.sum.l).length = 32 := cQ r.sum.h; have hs : seg (r.row.map V.d) 36 4 32 = (ay r.sum.l).map V.d := by
  unfold seg; rw [if_neg (by decide), <- List.map_drop, <- List.map_take]
  congr 1
  simp only [Rcd.row, List.cons_append, List.nil_append, List.drop_succ_cons, List.drop_zero]; exact List.take_of_length_le (by omega)
 have hp : bv ((ay r.sum.l).map V.d) = some (ay r.sum.l) := gK _; simp only [aX, hl, Option.bind_some, List.getElem?_cons_zero, cj, oZ, pp, hs, hp]; rfl
end
theorem EK (n sz : Nat) (rows : zRz) : ∀ r ∈ (dB sz rows).rows, ∀ y ∈ r, V.lt n y = true /\ y.noGh = true := by
 intro r hr y hy; obtain ⟨r0, _, rfl⟩ := List.mem_map.1 hr; obtain ⟨d, _, rfl⟩ := List.mem_map.1 hy; exact ⟨rfl, rfl⟩
theorem LI {F : Fr} (h0 : F.n0 = 0) (hgt : ∀ ds h μ C w, F.G ds h μ C w) {a b c : D} {objs' safe' : zRz} {n m : Nat} : St.to F ⟨[(0, .d a), (2, .ref 0 0 0), (3, .ref 1 0 0), (4, .d b)], [(3, dB 1 safe'), (5, dB 33 objs'), (1, ⟨3, [[.sref 5 0 n, .sref 3 0 m, .d c]]⟩), (0, ⟨3, [[.d c, .d c, .d c]]⟩)], 6⟩
  ⟨[(0, .d a), (2, .ref 0 0 0), (3, .ref 1 0 0), (4, .d b)], [(3, dB 1 safe'), (2, dB 33 objs'), (1, ⟨3, [[.sref 2 0 n, .sref 3 0 m, .d c]]⟩), (0, ⟨3, [[.d c, .d c, .d c]]⟩)], 4⟩ := by
 have hH : ∀ m' k', look ([(3, dB 1 safe'), (2, dB 33 objs'), (1, ⟨3, [[.sref 2 0 n, .sref 3 0 m, .d c]]⟩), (0, ⟨3, [[.d c, .d c, .d c]]⟩)] : zHz) m' = some k' -> m' < 4 /\ look ([(3, dB 1 safe'), (5, dB 33 objs'), (1, ⟨3, [[.sref 5 0 n, .sref 3 0 m, .d c]]⟩), (0, ⟨3, [[.d c, .d c, .d c]]⟩)] : zHz) (if m' = 2 then 5 else m') = some (k'.ren fun m => if m = 2 then 5 else m) /\ (∀ r ∈ k'.rows, ∀ y ∈ r, V.lt 4 y = true /\ y.noGh = true) := by
  intro m' k' hk; simp only [look] at hk; split at hk
  ·rename_i e; subst e; cases hk; exact ⟨by decide, by rw [rK]; rfl, EK _ _ _⟩
  split at hk
  ·rename_i e; subst e; cases hk; exact ⟨by decide, by rw [rK]; rfl, EK _ _ _⟩
  split at hk
  ·rename_i e; subst e; cases hk; refine ⟨by decide, rfl, fun r hr y hy => ?_⟩; simp at hr; subst hr; simp at hy; rcases hy with rfl | rfl | rfl <;> exact ⟨rfl, rfl⟩
  split at hk
  ·rename_i e; subst e; cases hk; refine ⟨by decide, rfl, fun r hr y hy => ?_⟩; simp at hr; subst hr; simp at hy; subst hy; exact ⟨rfl, rfl⟩
  cases hk
 refine Gm (fun m => if m = 2 then 5 else m) (by omega) (by omega) ?_ hH ?_ (.inl hgt)
 ·intro t y hy; simp only [look] at hy; split at hy
  ·rename_i e; subst e; cases hy; exact ⟨rfl, rfl, rfl⟩
  split at hy
  ·rename_i e; subst e; cases hy; exact ⟨rfl, rfl, rfl⟩
  split at hy
  ·rename_i e; subst e; cases hy; exact ⟨rfl, rfl, rfl⟩
  split at hy
  ·rename_i e; subst e; cases hy; exact ⟨rfl, rfl, rfl⟩
  cases hy
 ·intro m1 m2 g1 g2 e; obtain ⟨k1, hk1⟩ := Option.isSome_iff_exists.1 g1; obtain ⟨k2, hk2⟩ := Option.isSome_iff_exists.1 g2; have l1 := (hH m1 k1 hk1).1; have l2 := (hH m2 k2 hk2).1; have e : (if m1 = 2 then 5 else m1) = (if m2 = 2 then 5 else m2) := e; split at e <;> split at e <;> omega
set_option maxHeartbeats 4000000 in
theorem Ho (rs : List zBz) (hrs : rs.length <= 1000000) (hb : ∀ b ∈ rs, b.length <= 1000000) : aj Tryd.prog HG 32 [.list 1 (rs.map av) false] (.agg 3 (Sto.row (da [] [] rs))) := by
 refine uy Tryd.func32 rfl Tryd.ntmps32 (by simp) ?_; intro F hF h0 hT hgt; simp only [List.zipIdx_cons, List.zipIdx_nil, List.map_cons, List.map_nil, Nat.zero_add, Nat.reduceAdd]; refine Sm.seq ?_; refine ab hF rfl ?_; refine SmG.new hF rfl rfl rfl (aF rfl mz) ?_; refine SmG.nil (aa (Sm.seq ?_)); refine ab hF rfl ?_; refine gv hF (cZ rfl Tryd.underlying27 (by kernel_rfl) rfl MD) ?_; refine SmG.new hF rfl rfl rfl (aF rfl mz) ?_; refine SmG.store hF rfl rfl rfl rfl rfl (fo iN rfl rfl) ?_; refine SmG.nil (aa (Sm.seq (Sm.seq ?_))); refine ab hF rfl ?_; refine gv hF oA (SmG.nil (aa (Sm.block ?_))); simp only [rep, Nat.zero_add, Nat.reduceEqDiff, if_true, if_false]; refine pS 1 0 0 33 rfl rfl rfl ?_; refine pS 1 0 1 1 rfl rfl rfl ?_; refine Sm.loop (ι := {s : Sto // s.queue = [] /\ s.objects.length <= 256 /\ s.safe.length <= rs.length /\ da [] [] rs = da s.objects s.safe (rs.drop s.safe.length)}) (fun s => ⟨[(0, .d (.list 1 (rs.map av) false)), (2, .ref 0 0 0), (3, .ref 1 0 0), (4, .d (.v (.int .i64 s.1.safe.length)))], [(3, dB 1 (s.1.safe.map av)), (2, dB 33 (s.1.objects.map Ob.row)), (1, ⟨3, [[.sref 2 0 s.1.objects.length, .sref 3 0 s.1.safe.length, .d (.list 0 [] true)]]⟩), (0, ⟨3, [[.d (.list 0 [] true), .d (.list 0 [] true), .d (.list 0 [] true)]]⟩)], 4⟩) (fun s => rs.length - s.1.safe.length) (⟨⟨[], [], []⟩, rfl, by decide, by simp, by simp⟩) ?_ ?_
 ·exact aK ⟨rfl, rfl, rfl, rfl, trivial⟩ ⟨rfl, rfl, rfl, rfl, trivial⟩ (Nat.le_refl _)
 rintro ⟨⟨objs, safe, queue⟩, hq, ho, hs, heq⟩; simp only at hq ho hs heq ⊢; have hfrz : ∀ (nx : Nat), St.to F ⟨[(2, .ref 0 0 0), (3, .ref 1 0 0)], [(3, dB 1 (safe.map av)), (2, dB 33 (objs.map Ob.row)), (1, ⟨3, [[.sref 2 0 objs.length, .sref 3 0 safe.length, .d (.list 0 [] true)]]⟩), (0, ⟨3, [[.d (.list 0 [] true), .d (.list 0 [] true), .d (.list 0 [] true)]]⟩)], nx⟩ ⟨[(2, .ref 0 0 0), (3, .ref 1 0 0)], [(1, ⟨3, [[.d (.list 33 (objs.map Ob.row) false), .d (.list 1 (safe.map av) false), .d (.list 0 [] true)]]⟩), (0, ⟨3, [[.d (.list 0 [] true), .d (.list 0 [] true), .d (.list 0 [] true)]]⟩)], nx⟩ := fun nx => by
  have h := fD (F := F) (st := ⟨[(2, .ref 0 0 0), (3, .ref 1 0 0)], [(3, dB 1 (safe.map av)), (2, dB 33 (objs.map Ob.row)), (1, ⟨3, [[.sref 2 0 objs.length, .sref 3 0 safe.length, .d (.list 0 [] true)]]⟩), (0, ⟨3, [[.d (.list 0 [] true), .d (.list 0 [] true), .d (.list 0 [] true)]]⟩)], nx⟩) (l := 2) (objs.map Ob.row) rfl rfl; have h2 := fD (F := F) (st := ⟨[(2, .ref 0 0 0), (3, .ref 1 0 0)], [(3, dB 1 (safe.map av)), (1, ⟨3, [[.d (.list 33 (objs.map Ob.row) false), .sref 3 0 safe.length, .d (.list 0 [] true)]]⟩), (0, ⟨3, [[.d (.list 0 [] true), .d (.list 0 [] true), .d (.list 0 [] true)]]⟩)], nx⟩) (l := 3) (safe.map av) rfl rfl; refine aR (st' := ⟨[(2, .ref 0 0 0), (3, .ref 1 0 0)], [(3, dB 1 (safe.map av)), (1, ⟨3, [[.d (.list 33 (objs.map Ob.row) false), .sref 3 0 safe.length, .d (.list 0 [] true)]]⟩), (0, ⟨3, [[.d (.list 0 [] true), .d (.list 0 [] true), .d (.list 0 [] true)]]⟩)], nx⟩) ?_ ?_
  ·simp only [hO, bL, dt, sS, Da, reduceIte, Nat.reduceEqDiff] at h; simpa [cR, bf, cA] using h
  ·simp only [hO, bL, dt, sS, Da, reduceIte, Nat.reduceEqDiff] at h2; simpa [cR, bf, cA] using h2
 by_cases hlt : safe.length < rs.length
 ·obtain ⟨b, hbi⟩ : ∃ b, rs[safe.length]? = some b := ⟨rs[safe.length], by simp⟩
  have hbl : b.length <= 1000000 := hb b (List.mem_of_getElem? hbi); have hdr : rs.drop safe.length = b :: rs.drop (safe.length + 1) := by
   rw [List.drop_eq_getElem_cons hlt]
   congr 1
   rw [List.getElem?_eq_getElem hlt] at hbi; exact Option.some.inj hbi
  have cread := FL b hbl; have hstep := Kc objs safe.length b; generalize vQ b = r at cread hstep; refine Sm.seq (Sm.seq ?_); refine ab hF rfl ?_; refine gv hF oM (gv hF oM ?_); refine gv hF (aJ rfl rfl (by simp only [go_sem, hbi, av, aB, ac] <;> rfl)) ?_; refine gv hF (ah rfl rfl rfl (by exact eu _ _ _ _ _ (by omega))) ?_; refine SmG.nil (aa ?_); refine aZ hF rfl ?_; refine Sm.skip ?_; refine aa (Sm.seq (Sm.block (Sm.seq ?_))); refine ab hF rfl ?_; refine gv hF oM (gv hF oM ?_); refine gv hF (ak rfl rfl rfl (by simp only [go_sem, hbi, av, aB, ac] <;> rfl)) ?_; refine gv hF (ae rfl rfl (by simp only [go_sem, hbi, av, aB, ac] <;> rfl)) ?_; refine SmG.call hF rfl rfl (by kernel_rfl) rfl rfl rfl (cread) ?_; refine SmG.new hF rfl rfl rfl (aF rfl CH) ?_; refine SmG.store hF rfl rfl rfl rfl rfl (fo gM rfl rfl) ?_; refine SmG.nil (aa (Sm.seq ?_)); simp only [rep, if_true]; refine Sm.to (cV (st' := ⟨[(0, .d (.list 1 (rs.map av) false)), (2, .ref 0 0 0), (3, .ref 1 0 0), (4, .d (.v (.int .i64 safe.length))), (5, .ref 4 0 0)], [(4, ⟨36, [r.row.map V.d]⟩), (3, dB 1 (safe.map av)), (2, dB 33 (objs.map Ob.row)), (1, ⟨3, [[.sref 2 0 objs.length, .sref 3 0 safe.length, .d (.list 0 [] true)]]⟩), (0, ⟨3, [[.d (.list 0 [] true), .d (.list 0 [] true), .d (.list 0 [] true)]]⟩)], 5⟩) (aK ⟨rfl, rfl, rfl, rfl, rfl, trivial⟩ ⟨rfl, rfl, rfl, rfl, rfl, trivial⟩ (Nat.le_refl _))) ?_; refine ab hF rfl ?_; refine gv hF (ag rfl rfl (by simp only [go_sem, ac] <;> rfl)) ?_; refine gv hF (ae rfl rfl (by simp only [go_sem, ac] <;> rfl)) ?_; refine gv hF (ag rfl rfl (by simp only [go_sem, ac] <;> rfl)) ?_; refine gv hF (ae rfl rfl (xP rfl)) ?_; refine nr hF (l := 2) (objs.map Ob.row) rfl rfl (by kernel_rfl) rfl rfl rfl (by simp only [cR, bf]; simp; rfl) (zL objs r.sum (by omega)) (Kx _) ?_; refine gv hF oA (SmG.nil (aa (Sm.seq (Sm.seq ?_)))); have hdone : bw objs safe.length b = none -> da [] [] rs = ⟨objs, safe, []⟩ := fun h => by
   rw [heq, hdr]; unfold da; rw [h]
  cases hok : r.ok
  ·
   refine ab hF rfl ?_; refine gv hF (ag rfl rfl (by simp only [go_sem, ac] <;> rfl)) ?_; refine gv hF (ae rfl rfl ((lW rfl).trans (by rw [hok]))) ?_; refine gv hF (eM rfl rfl (by exact tf _)) ?_; refine gv hF oM ?_; refine gp hF ?_; refine gp hF ?_; refine gp hF ?_; refine gp hF ?_; refine gv hF (aO rfl rfl rfl) ?_; refine gv hF oM ?_; refine gp hF ?_; refine gp hF ?_; refine gp hF ?_; refine gp hF ?_; refine gp hF ?_; refine gp hF ?_; refine gv hF (aO rfl rfl rfl) ?_; refine gv hF oM ?_; refine gp hF ?_; refine gp hF ?_; refine gp hF ?_; refine gp hF ?_; refine gp hF ?_; refine gp hF ?_; refine gp hF ?_; refine gp hF ?_; refine gp hF ?_; refine gv hF (aO rfl rfl rfl) ?_; refine SmG.nil (aa ?_); refine aZ hF rfl ?_; refine Sm.seq ?_; refine Sm.to (aR (cV (st' := ⟨[(2, .ref 0 0 0), (3, .ref 1 0 0)], [(3, dB 1 (safe.map av)), (2, dB 33 (objs.map Ob.row)), (1, ⟨3, [[.sref 2 0 objs.length, .sref 3 0 safe.length, .d (.list 0 [] true)]]⟩), (0, ⟨3, [[.d (.list 0 [] true), .d (.list 0 [] true), .d (.list 0 [] true)]]⟩)], 5⟩) (aK ⟨rfl, rfl, trivial⟩ ⟨rfl, rfl, rfl, rfl, trivial⟩ (Nat.le_refl _))) (hfrz 5)) ?_; refine ab hF rfl ?_; refine gv hF (ae rfl rfl (cI rfl)) ?_; refine SmG.store hF rfl rfl rfl rfl rfl (fo iN rfl rfl) ?_; refine SmG.nil (aa (Sm.ret ?_)); simp only [ba, bR]; refine cK rfl rfl (gQ iN oY rfl) ?_; rw [hdone (by rw [hstep]; unfold fB; rw [if_neg]; rintro ⟨g1, g2, g3, g4⟩; rw [hok] at g1; cases g1)]; exact fW ⟨D.le.refl _, D.le.refl _, ck 0 1 true, trivial⟩
  by_cases hn : ¬ r.n = (safe.length : Int)
  ·
   refine ab hF rfl ?_; refine gv hF (ag rfl rfl (by simp only [go_sem, ac] <;> rfl)) ?_; refine gv hF (ae rfl rfl ((lW rfl).trans (by rw [hok]))) ?_; refine gv hF (eM rfl rfl (by exact gj _)) ?_; refine gv hF oM ?_; refine gv hF (ag rfl rfl (by simp only [go_sem, ac] <;> rfl)) ?_; refine gv hF (ae rfl rfl (pE rfl)) ?_; refine gv hF oM ?_; refine gv hF (ah rfl rfl rfl (by exact nk _ _ _ _ _ (by omega))) ?_; refine gv hF (aU rfl rfl rfl) ?_; refine gv hF oM ?_; refine gp hF ?_; refine gp hF ?_; refine gp hF ?_; refine gp hF ?_; refine gp hF ?_; refine gp hF ?_; refine gv hF (aO rfl rfl rfl) ?_; refine gv hF oM ?_; refine gp hF ?_; refine gp hF ?_; refine gp hF ?_; refine gp hF ?_; refine gp hF ?_; refine gp hF ?_; refine gp hF ?_; refine gp hF ?_; refine gp hF ?_; refine gv hF (aO rfl rfl rfl) ?_; refine SmG.nil (aa ?_); refine aZ hF rfl ?_; refine Sm.seq ?_; refine Sm.to (aR (cV (st' := ⟨[(2, .ref 0 0 0), (3, .ref 1 0 0)], [(3, dB 1 (safe.map av)), (2, dB 33 (objs.map Ob.row)), (1, ⟨3, [[.sref 2 0 objs.length, .sref 3 0 safe.length, .d (.list 0 [] true)]]⟩), (0, ⟨3, [[.d (.list 0 [] true), .d (.list 0 [] true), .d (.list 0 [] true)]]⟩)], 5⟩) (aK ⟨rfl, rfl, trivial⟩ ⟨rfl, rfl, rfl, rfl, trivial⟩ (Nat.le_refl _))) (hfrz 5)) ?_; refine ab hF rfl ?_; refine gv hF (ae rfl rfl (cI rfl)) ?_; refine SmG.store hF rfl rfl rfl rfl rfl (fo iN rfl rfl) ?_; refine SmG.nil (aa (Sm.ret ?_)); simp only [ba, bR]; refine cK rfl rfl (gQ iN oY rfl) ?_; rw [hdone (by rw [hstep]; unfold fB; rw [if_neg]; rintro ⟨g1, g2, g3, g4⟩; exact hn g2)]; exact fW ⟨D.le.refl _, D.le.refl _, ck 0 1 true, trivial⟩
  have hn : r.n = (safe.length : Int) := Classical.not_not.1 hn; by_cases k80 : r.kind.toNat = 80
  ·cases hfn : aM objs r.sum.l with
   | some i =>
    have hfz : cF objs r.sum.l = (i : Int) := by unfold cF; rw [hfn]
    rw [hfz]; refine ab hF rfl ?_; refine gv hF (ag rfl rfl (by simp only [go_sem, ac] <;> rfl)) ?_; refine gv hF (ae rfl rfl ((lW rfl).trans (by rw [hok]))) ?_; refine gv hF (eM rfl rfl (by exact gj _)) ?_; refine gv hF oM ?_; refine gv hF (ag rfl rfl (by simp only [go_sem, ac] <;> rfl)) ?_; refine gv hF (ae rfl rfl (pE rfl)) ?_; refine gv hF oM ?_; refine gv hF (ah rfl rfl rfl (by exact jc _ _ _ _ _ (by omega))) ?_; refine gv hF (aU rfl rfl rfl) ?_; refine gv hF oM ?_; refine gv hF (ag rfl rfl (by simp only [go_sem, ac] <;> rfl)) ?_; refine gv hF (ae rfl rfl (fS rfl)) ?_; refine gv hF (ah rfl rfl rfl (by exact dR _ _ _ _ _ (by omega))) ?_; refine gv hF oM ?_; refine gv hF (ah rfl rfl rfl (by exact eR _ _ _ _ _ (by omega))) ?_; refine gv hF (ah rfl rfl rfl (pJ _ _ _ _ (by kernel_rfl) (by exact (rfl : _ = true)))) ?_; refine gv hF (aU rfl rfl rfl) ?_; refine gv hF oM ?_; refine gp hF ?_; refine gp hF ?_; refine gp hF ?_; refine gp hF ?_; refine gp hF ?_; refine gp hF ?_; refine gp hF ?_; refine gp hF ?_; refine gp hF ?_; refine gv hF (aO rfl rfl rfl) ?_; refine SmG.nil (aa ?_); refine aZ hF rfl ?_; refine Sm.seq ?_; refine Sm.to (aR (cV (st' := ⟨[(2, .ref 0 0 0), (3, .ref 1 0 0)], [(3, dB 1 (safe.map av)), (2, dB 33 (objs.map Ob.row)), (1, ⟨3, [[.sref 2 0 objs.length, .sref 3 0 safe.length, .d (.list 0 [] true)]]⟩), (0, ⟨3, [[.d (.list 0 [] true), .d (.list 0 [] true), .d (.list 0 [] true)]]⟩)], 5⟩) (aK ⟨rfl, rfl, trivial⟩ ⟨rfl, rfl, rfl, rfl, trivial⟩ (Nat.le_refl _))) (hfrz 5)) ?_; refine ab hF rfl ?_; refine gv hF (ae rfl rfl (cI rfl)) ?_; refine SmG.store hF rfl rfl rfl rfl rfl (fo iN rfl rfl) ?_; refine SmG.nil (aa (Sm.ret ?_)); simp only [ba, bR]; refine cK rfl rfl (gQ iN oY rfl) ?_; rw [hdone (by rw [hstep]; unfold fB; rw [if_neg]; rintro ⟨g1, g2, g3, g4⟩; rw [g3.1 k80] at hfn; cases hfn)]; exact fW ⟨D.le.refl _, D.le.refl _, ck 0 1 true, trivial⟩
   | none =>
    have hfz : cF objs r.sum.l = -1 := by unfold cF; rw [hfn]
    rw [hfz]; by_cases c4 : 256 <= objs.length
    ·
     refine ab hF rfl ?_; refine gv hF (ag rfl rfl (by simp only [go_sem, ac] <;> rfl)) ?_; refine gv hF (ae rfl rfl ((lW rfl).trans (by rw [hok]))) ?_; refine gv hF (eM rfl rfl (by exact gj _)) ?_; refine gv hF oM ?_; refine gv hF (ag rfl rfl (by simp only [go_sem, ac] <;> rfl)) ?_; refine gv hF (ae rfl rfl (pE rfl)) ?_; refine gv hF oM ?_; refine gv hF (ah rfl rfl rfl (by exact jc _ _ _ _ _ (by omega))) ?_; refine gv hF (aU rfl rfl rfl) ?_; refine gv hF oM ?_; refine gv hF (ag rfl rfl (by simp only [go_sem, ac] <;> rfl)) ?_; refine gv hF (ae rfl rfl (fS rfl)) ?_; refine gv hF (ah rfl rfl rfl (by exact dR _ _ _ _ _ (by omega))) ?_; refine gv hF oM ?_; refine gv hF (ah rfl rfl rfl (by exact eu _ _ _ _ _ (by omega))) ?_; refine gv hF (ah rfl rfl rfl (pJ _ _ _ _ (by kernel_rfl) (by exact (rfl : _ = false)))) ?_; refine gv hF (aU rfl rfl rfl) ?_; refine gv hF oM ?_; refine gv hF (ag rfl rfl (by simp only [go_sem, ac] <;> rfl)) ?_; refine gv hF (ae rfl rfl (fS rfl)) ?_; refine gv hF (ah rfl rfl rfl (by exact dR _ _ _ _ _ (by omega))) ?_; refine gv hF oM ?_; refine gv hF (ag rfl rfl (by simp only [go_sem, ac] <;> rfl)) ?_; refine gv hF (ae rfl rfl (by simp only [go_sem, ac] <;> rfl)) ?_; refine gv hF (aJ rfl rfl (by simp only [go_sem, ac] <;> rfl)) ?_; refine gv hF (ah rfl rfl rfl (by exact pL _ _ _ _ _ (by omega))) ?_; refine gv hF (aO rfl rfl rfl) ?_; refine gv hF (aU rfl rfl rfl) ?_; refine SmG.nil (aa ?_); refine aZ hF rfl ?_; refine Sm.seq ?_; refine Sm.to (aR (cV (st' := ⟨[(2, .ref 0 0 0), (3, .ref 1 0 0)], [(3, dB 1 (safe.map av)), (2, dB 33 (objs.map Ob.row)), (1, ⟨3, [[.sref 2 0 objs.length, .sref 3 0 safe.length, .d (.list 0 [] true)]]⟩), (0, ⟨3, [[.d (.list 0 [] true), .d (.list 0 [] true), .d (.list 0 [] true)]]⟩)], 5⟩) (aK ⟨rfl, rfl, trivial⟩ ⟨rfl, rfl, rfl, rfl, trivial⟩ (Nat.le_refl _))) (hfrz 5)) ?_; refine ab hF rfl ?_; refine gv hF (ae rfl rfl (cI rfl)) ?_; refine SmG.store hF rfl rfl rfl rfl rfl (fo iN rfl rfl) ?_; refine SmG.nil (aa (Sm.ret ?_)); simp only [ba, bR]
     refine cK rfl rfl (gQ iN oY rfl) ?_; rw [hdone (by rw [hstep]; unfold fB; rw [if_neg]; rintro ⟨g1, g2, g3, g4⟩; exact g4 ⟨k80, c4⟩)]; exact fW ⟨D.le.refl _, D.le.refl _, ck 0 1 true, trivial⟩
    ·have hnext : bw objs safe.length b = some (objs ++ [⟨r.sum, r.data⟩]) := by
      rw [hstep]; unfold fB; rw [if_pos ⟨hok, hn, ⟨fun _ => hfn, fun _ => k80⟩, fun h => c4 h.2⟩, if_pos k80]
     have hbo := tR r.sum r.data; refine ab hF rfl ?_; refine gv hF (ag rfl rfl (by simp only [go_sem, ac, hbi, av, aB] <;> rfl)) ?_; refine gv hF (ae rfl rfl ((lW rfl).trans (by rw [hok]))) ?_; refine gv hF (eM rfl rfl (by exact gj _)) ?_; refine gv hF oM ?_; refine gv hF (ag rfl rfl (by simp only [go_sem, ac, hbi, av, aB] <;> rfl)) ?_; refine gv hF (ae rfl rfl (pE rfl)) ?_; refine gv hF oM ?_; refine gv hF (ah rfl rfl rfl (by exact jc _ _ _ _ _ (by omega))) ?_; refine gv hF (aU rfl rfl rfl) ?_; refine gv hF oM ?_; refine gv hF (ag rfl rfl (by simp only [go_sem, ac, hbi, av, aB] <;> rfl)) ?_; refine gv hF (ae rfl rfl (fS rfl)) ?_; refine gv hF (ah rfl rfl rfl (by exact dR _ _ _ _ _ (by omega))) ?_; refine gv hF oM ?_; refine gv hF (ah rfl rfl rfl (by exact eu _ _ _ _ _ (by omega))) ?_; refine gv hF (ah rfl rfl rfl (pJ _ _ _ _ (by kernel_rfl) (by exact (rfl : _ = false)))) ?_; refine gv hF (aU rfl rfl rfl) ?_; refine gv hF oM ?_; refine gv hF (ag rfl rfl (by simp only [go_sem, ac, hbi, av, aB] <;> rfl)) ?_; refine gv hF (ae rfl rfl (fS rfl)) ?_; refine gv hF (ah rfl rfl rfl (by exact dR _ _ _ _ _ (by omega))) ?_; refine gv hF oM ?_; refine gv hF (ag rfl rfl (by simp only [go_sem, ac, hbi, av, aB] <;> rfl)) ?_; refine gv hF (ae rfl rfl (by simp only [go_sem, ac, hbi, av, aB] <;> rfl)) ?_; refine gv hF (aJ rfl rfl (by simp only [go_sem, ac, hbi, av, aB] <;> rfl)) ?_; refine gv hF (ah rfl rfl rfl (by exact pK _ _ _ _ _ (by omega))) ?_; refine gv hF (aO rfl rfl rfl) ?_; refine gv hF (aU rfl rfl rfl) ?_; refine SmG.nil (aa ?_); refine aS hF rfl ?_; refine Sm.skip ?_; refine aa (Sm.seq (Sm.seq ?_)); refine ab hF rfl ?_; refine gv hF (ag rfl rfl (by simp only [go_sem, ac, hbi, av, aB] <;> rfl)) ?_; refine gv hF (ae rfl rfl (fS rfl)) ?_; refine gv hF (ah rfl rfl rfl (by exact dR _ _ _ _ _ (by omega))) ?_; refine SmG.nil (aa ?_); refine aZ hF rfl ?_; refine ab hF rfl ?_; refine gv hF (ag rfl rfl (by simp only [go_sem, ac, hbi, av, aB] <;> rfl)) ?_; refine gv hF (ae rfl rfl (by simp only [go_sem, ac, hbi, av, aB] <;> rfl)) ?_
     refine gv hF (ag rfl rfl (by simp only [go_sem, ac, hbi, av, aB] <;> rfl)) ?_; refine gv hF (ae rfl rfl (xP rfl)) ?_; refine gv hF (ag rfl rfl (by simp only [go_sem, ac, hbi, av, aB] <;> rfl)) ?_; refine gv hF (ae rfl rfl (Dt rfl)) ?_; refine gv hF (cZ rfl Tryd.underlying53 (by kernel_rfl) rfl hbo) ?_; refine gv hF (bc rfl rfl (by simp only [go_sem, ac, hbi, av, aB] <;> rfl)) ?_; rw [show objs.length = (objs.map Ob.row).length by simp]; refine jG hF rM rfl rfl rfl rfl rfl rfl rfl (by rfl) (Or.inl rfl) ?_ ?_ ?_; rotate_left; rotate_left; simp only [dn, Pk.v, V.free, rep, dt, cA, nH, lw, ov, cH, List.map_cons, List.map_nil, bne_self_eq_false, Nat.reduceAdd, Nat.reduceBNe, Nat.reduceBEq, Nat.reduceEqDiff, reduceIte, Bool.false_eq_true]
     ·refine gv hF (ag rfl rfl (by simp only [go_sem, ac, hbi, av, aB] <;> rfl)) ?_; refine SmG.store hF rfl rfl rfl rfl rfl (by simp only [go_sem, ac, hbi, av, aB] <;> rfl) ?_; refine SmG.nil (aa ?_); refine eW hF (by kernel_rfl) rfl 7 (by kernel_rfl) (by kernel_rfl) ?_; simp only [List.take_succ_cons, List.take_zero, List.take_nil]; refine hv hF (ag rfl rfl (by simp only [go_sem, ac, hbi, av, aB] <;> rfl)) ?_; refine hv hF (ae rfl rfl (by simp only [go_sem, ac, hbi, av, aB] <;> rfl)) ?_; refine hv hF oM (hv hF oM ?_); refine hv hF (ak rfl rfl rfl (by simp only [go_sem, ac, hbi, av, aB] <;> rfl)) ?_; refine hv hF (ae rfl rfl (by simp only [go_sem, ac, hbi, av, aB] <;> rfl)) ?_; refine hv hF (bc rfl rfl (by simp only [go_sem, ac, hbi, av, aB] <;> rfl)) ?_; refine au.last ⟨rfl, ?_⟩; simp only [List.drop_succ_cons, List.drop_zero, List.drop_nil, List.nil_append, List.cons_append]; refine jG hF tV rfl rfl rfl rfl rfl rfl rfl (by (simp; done)) (Or.inl rfl) ?_ ?_ ?_; rotate_left; rotate_left; simp only [dn, Pk.v, V.free, rep, dt, cA, nH, lw, ov, cH, List.map_cons, List.map_nil, bne_self_eq_false, Nat.reduceAdd, Nat.reduceBNe, Nat.reduceBEq, Nat.reduceEqDiff, reduceIte, Bool.false_eq_true]
      ·have hro : objs.map Ob.row ++ [Ob.row ⟨r.sum, r.data⟩] = (objs ++ [(⟨r.sum, r.data⟩ : Ob)]).map Ob.row := by simp
       have hrs2 : safe.map av ++ [[D.list 1 (b.map ai) false]] = (safe ++ [b]).map av := by simp [av, aB]
       rw [hro, hrs2, show ((objs ++ [(⟨r.sum, r.data⟩ : Ob)]).map Ob.row).length = (objs ++ [(⟨r.sum, r.data⟩ : Ob)]).length by simp, show ((safe ++ [b]).map av).length = (safe ++ [b]).length by simp]; refine gv hF (ag rfl rfl (by simp only [go_sem, ac, hbi, av, aB] <;> rfl)) ?_; refine SmG.store hF rfl rfl rfl rfl rfl (by simp only [go_sem, ac, hbi, av, aB] <;> rfl) ?_; refine SmG.nil (aI (aa ?_)); refine Sm.to (aR (cV (st' := ⟨[(0, .d (.list 1 (rs.map av) false)), (2, .ref 0 0 0), (3, .ref 1 0 0), (4, .d (.v (.int .i64 safe.length)))], [(3, dB 1 ((safe ++ [b]).map av)), (2, dB 33 ((objs ++ [(⟨r.sum, r.data⟩ : Ob)]).map Ob.row)), (1, ⟨3, [[.sref 2 0 (objs ++ [(⟨r.sum, r.data⟩ : Ob)]).length, .sref 3 0 (safe ++ [b]).length, .d (.list 0 [] true)]]⟩), (0, ⟨3, [[.d (.list 0 [] true), .d (.list 0 [] true), .d (.list 0 [] true)]]⟩)], 5⟩) (aK ⟨rfl, rfl, rfl, rfl, trivial⟩ ⟨rfl, rfl, rfl, rfl, trivial⟩ (Nat.le_refl _))) (mR 4 rfl (by (repeat' first | exact pF _ | exact nh _ _ | exact trivial | refine nM ?_ (by decide) | refine lX ?_ (vA _ _ _) | refine pG ?_ ?_ | refine ⟨rfl, ?_⟩)) rfl (by omega))) ?_; refine ab hF rfl ?_; refine gv hF oM ?_; refine gv hF (ah rfl rfl rfl (by exact eN _ _ _ _ _ (aY _ (by omega)))) ?_; refine gv hF oA (SmG.nil (aa ?_)); have he : (safe.length : Int) + 1 = ((safe ++ [b]).length : Int) := by simp
       rw [he]; refine ⟨⟨⟨objs ++ [⟨r.sum, r.data⟩], safe ++ [b], []⟩, rfl, by simp; omega, by simp; omega, ?_⟩, by simp; omega, aK ⟨rfl, rfl, rfl, rfl, trivial⟩ ⟨rfl, rfl, rfl, rfl, trivial⟩ (Nat.le_refl _)⟩; rw [heq, hdr, da, hnext]; simp
      ·simp; omega
      ·simp; omega
     ·simp; omega
     ·simp; omega
  ·cases hfn : aM objs r.sum.l with
   | none =>
    have hfz : cF objs r.sum.l = -1 := by unfold cF; rw [hfn]
    rw [hfz]; refine ab hF rfl ?_; refine gv hF (ag rfl rfl (by simp only [go_sem, ac] <;> rfl)) ?_; refine gv hF (ae rfl rfl ((lW rfl).trans (by rw [hok]))) ?_; refine gv hF (eM rfl rfl (by exact gj _)) ?_; refine gv hF oM ?_; refine gv hF (ag rfl rfl (by simp only [go_sem, ac] <;> rfl)) ?_; refine gv hF (ae rfl rfl (pE rfl)) ?_; refine gv hF oM ?_; refine gv hF (ah rfl rfl rfl (by exact jc _ _ _ _ _ (by omega))) ?_; refine gv hF (aU rfl rfl rfl) ?_; refine gv hF oM ?_; refine gv hF (ag rfl rfl (by simp only [go_sem, ac] <;> rfl)) ?_; refine gv hF (ae rfl rfl (fS rfl)) ?_; refine gv hF (ah rfl rfl rfl (by exact jQ _ _ _ _ _ (by omega))) ?_; refine gv hF oM ?_; refine gv hF (ah rfl rfl rfl (by exact eu _ _ _ _ _ (by omega))) ?_; refine gv hF (ah rfl rfl rfl (pJ _ _ _ _ (by kernel_rfl) (by exact (rfl : _ = true)))) ?_; refine gv hF (aU rfl rfl rfl) ?_; refine gv hF oM ?_; refine gp hF ?_; refine gp hF ?_; refine gp hF ?_; refine gp hF ?_; refine gp hF ?_; refine gp hF ?_; refine gp hF ?_; refine gp hF ?_; refine gp hF ?_; refine gv hF (aO rfl rfl rfl) ?_; refine SmG.nil (aa ?_); refine aZ hF rfl ?_; refine Sm.seq ?_; refine Sm.to (aR (cV (st' := ⟨[(2, .ref 0 0 0), (3, .ref 1 0 0)], [(3, dB 1 (safe.map av)), (2, dB 33 (objs.map Ob.row)), (1, ⟨3, [[.sref 2 0 objs.length, .sref 3 0 safe.length, .d (.list 0 [] true)]]⟩), (0, ⟨3, [[.d (.list 0 [] true), .d (.list 0 [] true), .d (.list 0 [] true)]]⟩)], 5⟩) (aK ⟨rfl, rfl, trivial⟩ ⟨rfl, rfl, rfl, rfl, trivial⟩ (Nat.le_refl _))) (hfrz 5)) ?_; refine ab hF rfl ?_; refine gv hF (ae rfl rfl (cI rfl)) ?_; refine SmG.store hF rfl rfl rfl rfl rfl (fo iN rfl rfl) ?_; refine SmG.nil (aa (Sm.ret ?_)); simp only [ba, bR]; refine cK rfl rfl (gQ iN oY rfl) ?_; rw [hdone (by rw [hstep]; unfold fB; rw [if_neg]; rintro ⟨g1, g2, g3, g4⟩; exact k80 (g3.2 hfn))]; exact fW ⟨D.le.refl _, D.le.refl _, ck 0 1 true, trivial⟩
   | some i =>
    have hfz : cF objs r.sum.l = (i : Int) := by unfold cF; rw [hfn]
    rw [hfz]; have hi : i < objs.length := by
     unfold aM at hfn; rw [List.findIdx?_eq_some_iff_getElem] at hfn; exact hfn.1
    have hnext : bw objs safe.length b = some (objs.eraseIdx i) := by
     rw [hstep]; unfold fB; rw [if_pos ⟨hok, hn, ⟨fun h => absurd h k80, fun h => by rw [hfn] at h; cases h⟩, fun h => k80 h.1⟩, if_neg k80, hfn]; rfl
    have ho2 : (objs.eraseIdx i).length <= 256 := by have := List.length_eraseIdx_le objs i; omega
    refine ab hF rfl ?_; refine gv hF (ag rfl rfl (by simp only [go_sem, ac, hbi, av, aB] <;> rfl)) ?_; refine gv hF (ae rfl rfl ((lW rfl).trans (by rw [hok]))) ?_; refine gv hF (eM rfl rfl (by exact gj _)) ?_; refine gv hF oM ?_; refine gv hF (ag rfl rfl (by simp only [go_sem, ac, hbi, av, aB] <;> rfl)) ?_; refine gv hF (ae rfl rfl (pE rfl)) ?_; refine gv hF oM ?_; refine gv hF (ah rfl rfl rfl (by exact jc _ _ _ _ _ (by omega))) ?_; refine gv hF (aU rfl rfl rfl) ?_; refine gv hF oM ?_; refine gv hF (ag rfl rfl (by simp only [go_sem, ac, hbi, av, aB] <;> rfl)) ?_; refine gv hF (ae rfl rfl (fS rfl)) ?_; refine gv hF (ah rfl rfl rfl (by exact jQ _ _ _ _ _ (by omega))) ?_; refine gv hF oM ?_; refine gv hF (ah rfl rfl rfl (by exact eR _ _ _ _ _ (by omega))) ?_; refine gv hF (ah rfl rfl rfl (pJ _ _ _ _ (by kernel_rfl) (by exact (rfl : _ = false)))) ?_; refine gv hF (aU rfl rfl rfl) ?_; refine gv hF oM ?_; refine gv hF (ag rfl rfl (by simp only [go_sem, ac, hbi, av, aB] <;> rfl)) ?_; refine gv hF (ae rfl rfl (fS rfl)) ?_; refine gv hF (ah rfl rfl rfl (by exact jQ _ _ _ _ _ (by omega))) ?_; refine gv hF oM ?_; refine gp hF ?_; refine gp hF ?_; refine gp hF ?_; refine gp hF ?_; refine gv hF (aU rfl rfl rfl) ?_; refine gv hF (aU rfl rfl rfl) ?_; refine SmG.nil (aa ?_); refine aS hF rfl ?_; refine Sm.skip ?_; refine aa (Sm.seq (Sm.seq ?_)); refine ab hF rfl ?_; refine gv hF (ag rfl rfl (by simp only [go_sem, ac, hbi, av, aB] <;> rfl)) ?_; refine gv hF (ae rfl rfl (fS rfl)) ?_; refine gv hF (ah rfl rfl rfl (by exact jQ _ _ _ _ _ (by omega))) ?_; refine SmG.nil (aa ?_); refine aS hF rfl ?_; have hf2 : St.to F ⟨[(0, .d (.list 1 (rs.map av) false)), (2, .ref 0 0 0), (3, .ref 1 0 0), (4, .d (.v (.int .i64 safe.length))), (6, .d (.v (.int .i64 i)))], [(3, dB 1 (safe.map av)), (2, dB 33 (objs.map Ob.row)), (1, ⟨3, [[.sref 2 0 objs.length, .sref 3 0 safe.length, .d (.list 0 [] true)]]⟩), (0, ⟨3, [[.d (.list 0 [] true), .d (.list 0 [] true), .d (.list 0 [] true)]]⟩)], 5⟩ ⟨[(0, .d (.list 1 (rs.map av) false)), (2, .ref 0 0 0), (3, .ref 1 0 0), (4, .d (.v (.int .i64 safe.length))), (6, .d (.v (.int .i64 i)))], [(3, dB 1 (safe.map av)), (1, ⟨3, [[.d (.list 33 (objs.map Ob.row) false), .sref 3 0 safe.length, .d (.list 0 [] true)]]⟩), (0, ⟨3, [[.d (.list 0 [] true), .d (.list 0 [] true), .d (.list 0 [] true)]]⟩)], 5⟩ := by
     have h := fD (F := F) (st := ⟨[(0, .d (.list 1 (rs.map av) false)), (2, .ref 0 0 0), (3, .ref 1 0 0), (4, .d (.v (.int .i64 safe.length))), (6, .d (.v (.int .i64 i)))], [(3, dB 1 (safe.map av)), (2, dB 33 (objs.map Ob.row)), (1, ⟨3, [[.sref 2 0 objs.length, .sref 3 0 safe.length, .d (.list 0 [] true)]]⟩), (0, ⟨3, [[.d (.list 0 [] true), .d (.list 0 [] true), .d (.list 0 [] true)]]⟩)], 5⟩) (l := 2) (objs.map Ob.row) rfl rfl; simp only [hO, bL, dt, sS, Da, reduceIte, Nat.reduceEqDiff] at h; simpa [cR, bf, cA] using h
    refine Sm.to (aR (cV (st' := ⟨[(0, .d (.list 1 (rs.map av) false)), (2, .ref 0 0 0), (3, .ref 1 0 0), (4, .d (.v (.int .i64 safe.length))), (6, .d (.v (.int .i64 i)))], [(3, dB 1 (safe.map av)), (2, dB 33 (objs.map Ob.row)), (1, ⟨3, [[.sref 2 0 objs.length, .sref 3 0 safe.length, .d (.list 0 [] true)]]⟩), (0, ⟨3, [[.d (.list 0 [] true), .d (.list 0 [] true), .d (.list 0 [] true)]]⟩)], 5⟩) (aK ⟨rfl, rfl, rfl, rfl, rfl, trivial⟩ ⟨rfl, rfl, rfl, rfl, trivial⟩ (Nat.le_refl _))) hf2) ?_; refine ab hF rfl ?_; refine gv hF (ag rfl rfl (by simp only [go_sem, ac, hbi, av, aB] <;> rfl)) ?_; refine gv hF (ae rfl rfl (by simp only [go_sem, ac, hbi, av, aB] <;> rfl)) ?_; refine gv hF oM ?_; refine SmG.callO hF rfl rfl (by kernel_rfl) rfl rfl rfl (tM objs i (by omega) hi) ?_; refine gv hF (ag rfl rfl (by simp only [go_sem, ac, hbi, av, aB] <;> rfl)) ?_; refine SmG.store hF rfl rfl rfl rfl rfl (by simp only [go_sem, ac, hbi, av, aB] <;> rfl) ?_; refine SmG.nil (aa ?_); refine eW hF (by kernel_rfl) rfl 7 (by kernel_rfl) (by kernel_rfl) ?_; simp only [List.take_succ_cons, List.take_zero, List.take_nil]; refine hv hF (ag rfl rfl (by simp only [go_sem, ac, hbi, av, aB] <;> rfl)) ?_; refine hv hF (ae rfl rfl (by simp only [go_sem, ac, hbi, av, aB] <;> rfl)) ?_; refine hv hF oM (hv hF oM ?_); refine hv hF (ak rfl rfl rfl (by simp only [go_sem, ac, hbi, av, aB] <;> rfl)) ?_; refine hv hF (ae rfl rfl (by simp only [go_sem, ac, hbi, av, aB] <;> rfl)) ?_; refine hv hF (bc rfl rfl (by simp only [go_sem, ac, hbi, av, aB] <;> rfl)) ?_; refine au.last ⟨rfl, ?_⟩; simp only [List.drop_succ_cons, List.drop_zero, List.drop_nil, List.nil_append, List.cons_append]; refine jG hF tV rfl rfl rfl rfl rfl rfl rfl (by (simp; done)) (Or.inl rfl) ?_ ?_ ?_; rotate_left; rotate_left; simp only [dn, Pk.v, V.free, rep, dt, cA, nH, lw, ov, cH, List.map_cons, List.map_nil, bne_self_eq_false, Nat.reduceAdd, Nat.reduceBNe, Nat.reduceBEq, Nat.reduceEqDiff, reduceIte, Bool.false_eq_true]
    ·have hrs2 : safe.map av ++ [[D.list 1 (b.map ai) false]] = (safe ++ [b]).map av := by simp [av, aB]
     rw [hrs2, show ((objs.eraseIdx i).map Ob.row).length = (objs.eraseIdx i).length by simp, show ((safe ++ [b]).map av).length = (safe ++ [b]).length by simp]; refine gv hF (ag rfl rfl (by simp only [go_sem, ac, hbi, av, aB] <;> rfl)) ?_; refine SmG.store hF rfl rfl rfl rfl rfl (by simp only [go_sem, ac, hbi, av, aB] <;> rfl) ?_; refine SmG.nil (aI (aa ?_)); refine Sm.to (aR (cV (st' := ⟨[(0, .d (.list 1 (rs.map av) false)), (2, .ref 0 0 0), (3, .ref 1 0 0), (4, .d (.v (.int .i64 safe.length)))], [(3, dB 1 ((safe ++ [b]).map av)), (5, dB 33 ((objs.eraseIdx i).map Ob.row)), (1, ⟨3, [[.sref 5 0 (objs.eraseIdx i).length, .sref 3 0 (safe ++ [b]).length, .d (.list 0 [] true)]]⟩), (0, ⟨3, [[.d (.list 0 [] true), .d (.list 0 [] true), .d (.list 0 [] true)]]⟩)], 6⟩) (aK ⟨rfl, rfl, rfl, rfl, trivial⟩ ⟨rfl, rfl, rfl, rfl, trivial⟩ (Nat.le_refl _))) (LI h0 hgt)) ?_; refine ab hF rfl ?_; refine gv hF oM ?_; refine gv hF (ah rfl rfl rfl (by exact eN _ _ _ _ _ (aY _ (by omega)))) ?_; refine gv hF oA (SmG.nil (aa ?_)); have he : (safe.length : Int) + 1 = ((safe ++ [b]).length : Int) := by simp
     rw [he]; refine ⟨⟨⟨objs.eraseIdx i, safe ++ [b], []⟩, rfl, ho2, by simp; omega, ?_⟩, by simp; omega, aK ⟨rfl, rfl, rfl, rfl, trivial⟩ ⟨rfl, rfl, rfl, rfl, trivial⟩ (Nat.le_refl _)⟩; rw [heq, hdr, da, hnext]; simp
    ·simp; omega
    ·simp; omega
 ·refine Sm.seq (Sm.seq ?_); refine ab hF rfl ?_; refine gv hF oM (gv hF oM ?_); refine gv hF (aJ rfl rfl (by simp only [go_sem, ac] <;> rfl)) ?_; refine gv hF (ah rfl rfl rfl (by exact eR _ _ _ _ _ (by omega))) ?_; refine SmG.nil (aa ?_); refine aS hF rfl ?_; refine Sm.exit ?_; simp only [ba, bR, reduceIte, reduceCtorEq]; refine Sm.to (aR (cV (st' := ⟨[(2, .ref 0 0 0), (3, .ref 1 0 0)], [(3, dB 1 (safe.map av)), (2, dB 33 (objs.map Ob.row)), (1, ⟨3, [[.sref 2 0 objs.length, .sref 3 0 safe.length, .d (.list 0 [] true)]]⟩), (0, ⟨3, [[.d (.list 0 [] true), .d (.list 0 [] true), .d (.list 0 [] true)]]⟩)], 4⟩) (aK ⟨rfl, rfl, trivial⟩ ⟨rfl, rfl, rfl, rfl, trivial⟩ (Nat.le_refl _))) (hfrz 4)) ?_; refine Sm.seq ?_; refine ab hF rfl ?_; refine gv hF (ae rfl rfl (cI rfl)) ?_; refine SmG.store hF rfl rfl rfl rfl rfl (fo iN rfl rfl) ?_; refine SmG.nil (aa (Sm.ret ?_)); refine cK rfl rfl (gQ iN oY rfl) ?_; have : safe.length = rs.length := by omega
  rw [heq, this, List.drop_length]; exact fW ⟨D.le.refl _, D.le.refl _, ck 0 1 true, trivial⟩
end
section
open Classical in
noncomputable def eQ (a : zBz) : Option (Vec 32) := if a.length <= 1000000 then some (cC a) else none
noncomputable def jd : Con Tryd.prog HG nmS := ⟨47, [], [.lst .u8], .vec 32, fun a => eQ a, false⟩
theorem rq {a : zBz} {r : Vec 32} (h : eQ a = some r) : aj Tryd.prog HG 47 [.list 1 (a.map ai) false] (.agg 32 (ay r.l)) := by
 unfold eQ at h; split at h
 ·cases h; exact qS a (by assumption) HG
 ·cases h
theorem lM : jd.Ok := ⟨fun _ a r h => rq h, fun h => by cases h⟩
open Classical in
noncomputable def jo (s : Sto) (k : UInt8) (x : zBz) : Option Sto := if s.safe.length <= 1000000 /\ s.queue.length <= 1000000 /\ x.length <= 100000 then some (mi s k x) else none
theorem wG {s r : Sto} {k : UInt8} {x : zBz} (h : jo s k x = some r) : aj Tryd.prog HG 65 [.agg 3 (Sto.row s), .v (.int .u8 (k.toNat : Int)), .list 1 (x.map ai) false] (.agg 3 (Sto.row r)) := by
 unfold jo at h; split at h
 ·rename_i hc; cases h; exact FA s k x hc.1 hc.2.1 hc.2.2
 ·cases h
noncomputable def pD : Con Tryd.prog HG nmS := ⟨65, [], [.nm 1, .u8, .lst .u8], .nm 1, fun a => jo a.1 a.2.1 a.2.2, false⟩
theorem wH : pD.Ok := ⟨fun _ a r h => wG h, fun h => by cases h⟩
open Classical in
noncomputable def ki (s : Sto) (x : zBz) : Option (Sto × Vec 32 × Int) := if s.objects.length <= 1000000 /\ s.safe.length <= 1000000 /\ s.queue.length <= 1000000 /\ x.length <= 99000 then some (dh s x) else none
theorem yA {s : Sto} {x : zBz} {r : Sto × Vec 32 × Int} (h : ki s x = some r) : aj Tryd.prog HG 40 [.agg 3 (Sto.row s), .list 1 (x.map ai) false] (.tup [.agg 3 (Sto.row r.1), .agg 32 (ay r.2.1.l), .v (.int .i64 r.2.2)]) := by
 unfold ki at h; split at h
 ·rename_i hc; cases h; exact Mc s x hc.1 hc.2.1 hc.2.2.1 hc.2.2.2
 ·cases h
noncomputable def rk : Con Tryd.prog HG nmS := ⟨40, [], [.nm 1, .lst .u8], .tup [.nm 1, .vec 32, .int .i64], fun a => ki a.1 a.2, false⟩
theorem yB : rk.Ok := ⟨fun _ a r h => yA h, fun h => by cases h⟩
open Classical in
noncomputable def ek (rs : List zBz) : Option Sto := if rs.length <= 1000000 /\ ∀ b ∈ rs, b.length <= 1000000 then some (da [] [] rs) else none
theorem qj {rs : List zBz} {r : Sto} (h : ek rs = some r) : aj Tryd.prog HG 32 [.list 1 (rs.map av) false] (.agg 3 (Sto.row r)) := by
 unfold ek at h; split at h
 ·rename_i hc; cases h; exact Ho rs hc.1 hc.2
 ·cases h
noncomputable def iG : Con Tryd.prog HG nmS := ⟨32, [], [.lst (.lst .u8)], .nm 1, fun a => ek a, false⟩
theorem li : iG.Ok := ⟨fun _ a r h => qj h, fun h => by cases h⟩
noncomputable def vc : Con Tryd.prog HG nmS := ⟨14, [], [.nm 1], .bool, fun a => fE a, false⟩
theorem oq : vc.Ok := ⟨fun _ a r h => uZ h, fun h => by cases h⟩
noncomputable def uW : Con Tryd.prog HG nmS := ⟨25, [], [.nm 1, .lst .bool], .nm 1, fun a => iU a.1 a.2, false⟩
theorem ol : uW.Ok := ⟨fun _ a r h => uV h, fun h => by cases h⟩
open Classical in
noncomputable def gY (l : List Ob) (k : Vec 32) : Option Int := if l.length <= 4294967296 then some (cF l k.l) else none
theorem wF {l : List Ob} {k : Vec 32} {r : Int} (h : gY l k = some r) : aj Tryd.prog HG 58 [.list 33 (l.map Ob.row) false, .agg 32 (ay k.l)] (.v (.int .i64 r)) := by
 unfold gY at h; split at h
 ·cases h; exact rU l k (by assumption)
 ·cases h
noncomputable def lS : Con Tryd.prog HG nmS := ⟨58, [], [.lst (.nm 0), .vec 32], .int .i64, fun a => gY a.1 a.2, false⟩
theorem pC : lS.Ok := ⟨fun _ a r h => wF h, fun h => by cases h⟩
noncomputable def mQ : Con Tryd.prog HG nmS := ⟨59, [], [.lst (.nm 0), .int .i64], .lst (.nm 0), fun a => eG a.1 a.2, false⟩
theorem tu : mQ.Ok := ⟨fun _ a r h => mP h, fun h => by cases h⟩
open Classical in
noncomputable def cU (n : Int) (x : zBz) : Option zBz := if 0 <= n /\ x.length <= 100000 then some (iK n.toNat x) else none
theorem mS {n : Int} {x r : zBz} (h : cU n x = some r) : aj Tryd.prog HG 50 [.v (.int .i64 n), .list 1 (x.map ai) false] (.list 1 (r.map ai) false) := by
 unfold cU at h; split at h
 ·rename_i hc; cases h; have := BA n.toNat x hc.2; rwa [Int.toNat_of_nonneg hc.1] at this
 ·cases h
noncomputable def jg : Con Tryd.prog HG nmS := ⟨50, [], [.int .i64, .lst .u8], .lst .u8, fun a => cU a.1 a.2, false⟩
theorem mT : jg.Ok := ⟨fun _ a r h => mS h, fun h => by cases h⟩
open Classical in
noncomputable def cO (n : Int) (k : Vec 32) : Option zBz := if 0 <= n then some (mN n.toNat k.l) else none
theorem mI {n : Int} {k : Vec 32} {r : zBz} (h : cO n k = some r) : aj Tryd.prog HG 78 [.v (.int .i64 n), .agg 32 (ay k.l)] (.list 1 (r.map ai) false) := by
 unfold cO at h; split at h
 ·rename_i hc; cases h; have := zA n.toNat k; rwa [Int.toNat_of_nonneg hc] at this
 ·cases h
noncomputable def iR : Con Tryd.prog HG nmS := ⟨78, [], [.int .i64, .vec 32], .lst .u8, fun a => cO a.1 a.2, false⟩
theorem mJ : iR.Ok := ⟨fun _ a r h => mI h, fun h => by cases h⟩
end
section
noncomputable def fR : Con Tryd.prog HG nmS := ⟨33, [], [.lst (.lst (.lst .u8))], .lst (.lst .u8), fun a => bj a, false⟩
theorem kg : fR.Ok := ⟨fun _ a r h => kf h, fun h => by cases h⟩
noncomputable def tF : Option Sto :=
 some (⟨[], [], []⟩ : Sto)
theorem yy (a : Unit) : fF (cfA [] Tryd.f11.ntmps []) [] Tryd.f11 [] [] (.nm 1) (.e) a = tF := by kernel_rfl
noncomputable def yx : Con Tryd.prog HG nmS := ⟨11, [], [], (.nm 1), fun a => tF, false⟩
theorem yz : yx.Ok := gL .nil yy Tryd.func11 rfl
noncomputable def kh (a0 : Sto) (a1 : Vec 32) : Option (zBz × Int) :=
 ob (gY a0.objects a1) fun x1 =>
 bif (decide (x1 < 0)) then (
  some ([], 331)
 ) else (
  ob (idx a0.objects x1) fun x3 =>
  some (x3.data, 0)
 )
theorem yv (a : Sto × (Vec 32)) : fF (cfA [lS] Tryd.f44.ntmps [2, 3]) [] Tryd.f44 [] [(.nm 1), (.vec 32)] (.pair (.lst .u8) (.int .i64)) (.nj (.br .e .e)) a = kh a.1 a.2 := by kernel_rfl
noncomputable def rj : Con Tryd.prog HG nmS := ⟨44, [], [(.nm 1), (.vec 32)], (.pair (.lst .u8) (.int .i64)), fun a => kh a.1 a.2, false⟩
theorem yw : rj.Ok := gL (.cons pC .nil) yv Tryd.func44 rfl
noncomputable def iV (a0 : Sto) (a1 : Vec 32) : Option (Sto × Int) :=
 ob (gY a0.objects a1) fun x1 =>
 bif (decide (x1 < 0)) then (
  some (a0, 331)
 ) else (
  ob (jo a0 (68 : UInt8) a1.l) fun x3 =>
  ob (eG x3.objects x1) fun x4 =>
  some ((⟨x4, x3.safe, x3.queue⟩ : Sto), 0)
 )
theorem uX (a : Sto × (Vec 32)) : fF (cfA [lS, pD, mQ] Tryd.f45.ntmps [3]) [] Tryd.f45 [] [(.nm 1), (.vec 32)] (.pair (.nm 1) (.int .i64)) (.nj (.br .e (.seg 2 .e))) a = iV a.1 a.2 := by kernel_rfl
noncomputable def om : Con Tryd.prog HG nmS := ⟨45, [], [(.nm 1), (.vec 32)], (.pair (.nm 1) (.int .i64)), fun a => iV a.1 a.2, false⟩
theorem uY : om.Ok := gL (.cons pC (.cons wH (.cons tu .nil))) uX Tryd.func45 rfl
noncomputable def cL (a0 : Sto) : Option (List zBz) :=
 ob (app ([] : List zBz) a0.safe) fun x1 =>
 ob (app x1 a0.queue) fun x2 =>
 some x2
theorem rt (a : Sto) : fF (cfA [] Tryd.f16.ntmps [1]) [(7, 2)] Tryd.f16 [] [(.nm 1)] (.lst (.lst .u8)) (.e) a = cL a := by kernel_rfl
noncomputable def ge : Con Tryd.prog HG nmS := ⟨16, [], [(.nm 1)], (.lst (.lst .u8)), fun a => cL a, false⟩
theorem je : ge.Ok := gL .nil rt Tryd.func16 rfl
noncomputable def gV (a0 : List Ob) (a1 : List Ob) (s2 : Int) : Option (Int ⊕ (Unit ⊕ Bool)) :=
 bif (decide (s2 < (a0.length : Int))) then (
  ob (idx a0 s2) fun x7 =>
  ob (idx a1 s2) fun x8 =>
  bif (!(x7.sum.l == x8.sum.l)) then (
   some (.inr (.inr false))
  ) else (
   ob (idx a0 s2) fun x10 =>
   ob (idx a1 s2) fun x11 =>
   bif (!(x10.data == x11.data)) then (
    some (.inr (.inr false))
   ) else (
    ob (arI .i64 (s2 + 1)) fun x13 =>
    some (.inl x13)
   )
  )
 ) else (
  some (.inr (.inl ()))
 )
noncomputable def bY (a0 : List Ob) (a1 : List Ob) : Option Bool :=
 bif ((a0.length : Int) != (a1.length : Int)) then (
  some false
 ) else (
  ob ((
   cP (gV a0 a1) 0
   : Option (Unit ⊕ Bool))) fun o15 => match o15 with
  | .inl v14 => (
   some true
   )
  | .inr e16 => some e16
 )
theorem mq (a : (List Ob) × (List Ob)) : fF (cfA [] Tryd.f17.ntmps []) [] Tryd.f17 [] [(.lst (.nm 0)), (.lst (.nm 0))] .bool (.nj (.br .e (.jn ⟨[], [], [], [], [], [], 0⟩ true (.lp [] ⟨[0, 1], [], [], [(5, (.int .i64))], [], [], 0⟩ (.nj (.br (.nj (.seg 24 (.br .e (.br .e .e)))) .e))) .e))) a = bY a.1 a.2 := by kernel_rfl
noncomputable def fk : Con Tryd.prog HG nmS := ⟨17, [], [(.lst (.nm 0)), (.lst (.nm 0))], .bool, fun a => bY a.1 a.2, false⟩
theorem io : fk.Ok := gL .nil mq Tryd.func17 rfl
noncomputable def gW (a0 : List zBz) (a1 : List zBz) (s2 : Int) : Option (Int ⊕ (Unit ⊕ Bool)) :=
 bif (decide (s2 < (a0.length : Int))) then (
  ob (idx a0 s2) fun x7 =>
  ob (idx a1 s2) fun x8 =>
  bif (!(x7 == x8)) then (
   some (.inr (.inr false))
  ) else (
   ob (arI .i64 (s2 + 1)) fun x10 =>
   some (.inl x10)
  )
 ) else (
  some (.inr (.inl ()))
 )
noncomputable def bZ (a0 : List zBz) (a1 : List zBz) : Option Bool :=
 bif ((a0.length : Int) != (a1.length : Int)) then (
  some false
 ) else (
  ob ((
   cP (gW a0 a1) 0
   : Option (Unit ⊕ Bool))) fun o12 => match o12 with
  | .inl v11 => (
   some true
   )
  | .inr e13 => some e13
 )
theorem mr (a : (List zBz) × (List zBz)) : fF (cfA [] Tryd.f18.ntmps []) [] Tryd.f18 [] [(.lst (.lst .u8)), (.lst (.lst .u8))] .bool (.nj (.br .e (.jn ⟨[], [], [], [], [], [], 0⟩ true (.lp [] ⟨[0, 1], [], [], [(5, (.int .i64))], [], [], 0⟩ (.nj (.br (.nj (.seg 10 (.br .e .e))) .e))) .e))) a = bZ a.1 a.2 := by kernel_rfl
noncomputable def ip : Con Tryd.prog HG nmS := ⟨18, [], [(.lst (.lst .u8)), (.lst (.lst .u8))], .bool, fun a => bZ a.1 a.2, false⟩
theorem ms : ip.Ok := gL .nil mr Tryd.func18 rfl
noncomputable def fj (a0 : Sto) (a1 : Sto) : Option Bool :=
 ob (bY a0.objects a1.objects) fun x1 =>
 bif x1 then (
  ob (bZ a0.safe a1.safe) fun x3 =>
  bif x3 then (
   ob (bZ a0.queue a1.queue) fun x5 =>
   some x5
  ) else (
   some false
  )
 ) else (
  some false
 )
theorem qn (a : Sto × Sto) : fF (cfA [fk, ip] Tryd.f26.ntmps [2, 3]) [] Tryd.f26 [] [(.nm 1), (.nm 1)] .bool (.br (.br .e .e) .e) a = fj a.1 a.2 := by kernel_rfl
noncomputable def lk : Con Tryd.prog HG nmS := ⟨26, [], [(.nm 1), (.nm 1)], .bool, fun a => fj a.1 a.2, false⟩
theorem qo : lk.Ok := gL (.cons io (.cons ms .nil)) qn Tryd.func26 rfl
noncomputable def jm (a0 : Sto) : Option Sto :=
 ob (bj [a0.safe, a0.queue]) fun x1 =>
 some (⟨a0.objects, x1, []⟩ : Sto)
theorem wD (a : Sto) : fF (cfA [fR] Tryd.f27.ntmps [1]) [] Tryd.f27 [] [(.nm 1)] (.nm 1) (.seg 8 .e) a = jm a := by kernel_rfl
noncomputable def wC : Con Tryd.prog HG nmS := ⟨27, [], [(.nm 1)], (.nm 1), fun a => jm a, false⟩
theorem wE : wC.Ok := gL (.cons kg .nil) wD Tryd.func27 rfl
noncomputable def dE (a0 : Sto) (a1 : zBz) : Option Sto :=
 ob (app ([] : List zBz) a0.queue) fun x1 =>
 ob (app x1 [a1]) fun x2 =>
 some (⟨a0.objects, a0.safe, x2⟩ : Sto)
theorem pg (a : Sto × zBz) : fF (cfA [] Tryd.f49.ntmps []) [(9, 2)] Tryd.f49 [] [(.nm 1), (.lst .u8)] (.nm 1) (.e) a = dE a.1 a.2 := by kernel_rfl
noncomputable def gH : Con Tryd.prog HG nmS := ⟨49, [], [(.nm 1), (.lst .u8)], (.nm 1), fun a => dE a.1 a.2, false⟩
theorem kd : gH.Ok := gL .nil pg Tryd.func49 rfl
noncomputable def eo (a0 : Sto) : Option Sto :=
 ob (cL a0) fun x1 =>
 some (⟨a0.objects, x1, []⟩ : Sto)
theorem qt (a : Sto) : fF (cfA [ge] Tryd.f63.ntmps [1]) [] Tryd.f63 [] [(.nm 1)] (.nm 1) (.seg 4 .e) a = eo a := by kernel_rfl
noncomputable def lm : Con Tryd.prog HG nmS := ⟨63, [], [(.nm 1)], (.nm 1), fun a => eo a, false⟩
theorem qu : lm.Ok := gL (.cons je .nil) qt Tryd.func63 rfl
noncomputable def dV (a0 : Sto) (a1 : List Bool) (s2 : (Int × (List zBz))) : Option ((Int × (List zBz)) ⊕ List zBz) :=
 bif (decide (s2.1 < (a0.queue.length : Int))) then (
  bif (decide (s2.1 < (a1.length : Int))) then (
   ob ((
    ob (idx a1 s2.1) fun x8 =>
    bif x8 then (
     ob (idx a0.queue s2.1) fun x10 =>
     ob (app s2.2 [x10]) fun x11 =>
     some x11
    ) else (
     some s2.2
    )
    : Option (List zBz))) fun v12 =>
   ob (arI .i64 (s2.1 + 1)) fun x13 =>
   some (.inl (x13, v12))
  ) else (
   some (.inr s2.2)
  )
 ) else (
  some (.inr s2.2)
 )
noncomputable def eS (a0 : Sto) (a1 : List Bool) : Option Sto :=
 ob (app ([] : List zBz) a0.safe) fun x1 =>
 ob ((
  cP (dV a0 a1) (0, x1)
  : Option (List zBz))) fun v14 =>
 ob (ek v14) fun x15 =>
 some x15
theorem pu (a : Sto × (List Bool)) : fF (cfA [iG] Tryd.f64.ntmps [2]) [(10, 2)] Tryd.f64 [] [(.nm 1), (.lst .bool)] (.nm 1) (.jn ⟨[4], [(5, 1)], [0], [], [(1, (.lst .u8))], [], 2⟩ false (.lp [] ⟨[1, 2, 4], [(5, 1)], [0], [(6, (.int .i64))], [(1, (.lst .u8))], [], 2⟩ (.nj (.br (.br (.jn ⟨[1, 2, 4, 6, 17, 18, 19, 20], [(5, 1)], [0], [], [(1, (.lst .u8))], [], 2⟩ false (.br .e .e) .e) .e) .e))) .e) a = eS a.1 a.2 := by kernel_rfl
noncomputable def kQ : Con Tryd.prog HG nmS := ⟨64, [], [(.nm 1), (.lst .bool)], (.nm 1), fun a => eS a.1 a.2, false⟩
theorem pv : kQ.Ok := gL (.cons li .nil) pu Tryd.func64 rfl
noncomputable def dQ (a0 : Sto) : Option Bool :=
 ob (cL a0) fun x1 =>
 ob (ek x1) fun x2 =>
 bif ((x2.safe.length : Int) == (x1.length : Int)) then (
  ob (bY x2.objects a0.objects) fun x4 =>
  some x4
 ) else (
  some false
 )
theorem pA (a : Sto) : fF (cfA [ge, iG, fk] Tryd.f13.ntmps [1]) [] Tryd.f13 [] [(.nm 1)] .bool (.br .e .e) a = dQ a := by kernel_rfl
noncomputable def kS : Con Tryd.prog HG nmS := ⟨13, [], [(.nm 1)], .bool, fun a => dQ a, false⟩
theorem fw : kS.Ok := gL (.cons je (.cons li (.cons io .nil))) pA Tryd.func13 rfl
noncomputable def cE (a0 : Sto) (a1 : zBz) : Option Std :=
 ob (ki a0 a1) fun x1 =>
 some (⟨x1.1, x1.2.1, x1.2.2⟩ : Std)
theorem pf (a : Sto × zBz) : fF (cfA [rk] Tryd.f20.ntmps [2]) [] Tryd.f20 [] [(.nm 1), (.lst .u8)] (.nm 4) (.e) a = cE a.1 a.2 := by kernel_rfl
noncomputable def kc : Con Tryd.prog HG nmS := ⟨20, [], [(.nm 1), (.lst .u8)], (.nm 4), fun a => cE a.1 a.2, false⟩
theorem dU : kc.Ok := gL (.cons yB .nil) pf Tryd.func20 rfl
noncomputable def eh (a0 : Sto) (a1 : Vec 32) : Option Std :=
 ob (iV a0 a1) fun x1 =>
 some (⟨x1.1, (⟨List.replicate 32 0, rfl⟩ : Vec 32), x1.2⟩ : Std)
theorem nT (a : Sto × (Vec 32)) : fF (cfA [om] Tryd.f23.ntmps [2, 3]) [] Tryd.f23 [] [(.nm 1), (.vec 32)] (.nm 4) (.e) a = eh a.1 a.2 := by kernel_rfl
noncomputable def jS : Con Tryd.prog HG nmS := ⟨23, [], [(.nm 1), (.vec 32)], (.nm 4), fun a => eh a.1 a.2, false⟩
theorem jT : jS.Ok := gL (.cons uY .nil) nT Tryd.func23 rfl
noncomputable def eP (a0 : Sto) (a1 : Vec 32) : Option Gott :=
 ob (kh a0 a1) fun x1 =>
 some (⟨x1.1, x1.2⟩ : Gott)
theorem rp (a : Sto × (Vec 32)) : fF (cfA [rj] Tryd.f22.ntmps [2, 3]) [] Tryd.f22 [] [(.nm 1), (.vec 32)] (.nm 5) (.e) a = eP a.1 a.2 := by kernel_rfl
noncomputable def rn : Con Tryd.prog HG nmS := ⟨22, [], [(.nm 1), (.vec 32)], (.nm 5), fun a => eP a.1 a.2, false⟩
theorem lL : rn.Ok := gL (.cons yw .nil) rp Tryd.func22 rfl
noncomputable def dC (a0 : Std) (a1 : Std) : Option Bool :=
 ob (fj a0.s a1.s) fun x1 =>
 bif x1 then (
  bif (a0.k.l == a1.k.l) then (
   some (a0.e == a1.e)
  ) else (
   some false
  )
 ) else (
  some false
 )
theorem mH (a : Std × Std) : fF (cfA [lk] Tryd.f29.ntmps [2, 3]) [] Tryd.f29 [] [(.nm 4), (.nm 4)] .bool (.br (.br .e .e) .e) a = dC a.1 a.2 := by kernel_rfl
noncomputable def iP : Con Tryd.prog HG nmS := ⟨29, [], [(.nm 4), (.nm 4)], .bool, fun a => dC a.1 a.2, false⟩
theorem iQ : iP.Ok := gL (.cons qo .nil) mH Tryd.func29 rfl
end
section
open Classical in
noncomputable def lP (l : List Ob) (k : Vec 32) : Option Int := if l.length <= 4294967296 then some (cF l k.l) else none
theorem Dg {l : List Ob} {k : Vec 32} {r : Int} (h : lP l k = some r) : aj Tryd.prog HG 30 [.list 33 (l.map Ob.row) false, .agg 32 (ay k.l)] (.v (.int .i64 r)) := by
 unfold lP at h; split at h
 ·cases h; exact zL l k (by assumption)
 ·cases h
noncomputable def iF : Con Tryd.prog HG nmS := ⟨30, [], [.lst (.nm 0), .vec 32], .int .i64, fun a => lP a.1 a.2, false⟩
theorem lh : iF.Ok := ⟨fun _ a r h => Dg h, fun h => by cases h⟩
open Classical in
noncomputable def jY (l : List Ob) (i : Int) : Option (List Ob) := if l.length <= 1000000 /\ 0 <= i /\ i < (l.length : Int) then some (l.eraseIdx i.toNat) else none
theorem yu {l r : List Ob} {i : Int} (h : jY l i = some r) : aj Tryd.prog HG 51 [.list 33 (l.map Ob.row) false, .v (.int .i64 i)] (.list 33 (r.map Ob.row) false) := by
 unfold jY at h; split at h
 ·rename_i hc; cases h; have := (tM l i.toNat hc.1 (by omega)).data; rwa [Int.toNat_of_nonneg hc.2.1] at this
 ·cases h
noncomputable def jU : Con Tryd.prog HG nmS := ⟨51, [], [.lst (.nm 0), .int .i64], .lst (.nm 0), fun a => jY a.1 a.2, false⟩
theorem nV : jU.Ok := ⟨fun _ a r h => yu h, fun h => by cases h⟩
noncomputable def fI (a0 : Sto) (a1 : zBz) : Option Std :=
 bif (decide (65536 < (a1.length : Int))) then (
  some (⟨a0, (⟨List.replicate 32 0, rfl⟩ : Vec 32), 2⟩ : Std)
 ) else (
  ob (eQ a1) fun x2 =>
  ob (lP a0.objects x2) fun x3 =>
  bif (decide (0 <= x3)) then (
   some (⟨a0, x2, 0⟩ : Std)
  ) else (
   bif (decide (256 <= (a0.objects.length : Int))) then (
    some (⟨a0, (⟨List.replicate 32 0, rfl⟩ : Vec 32), 330⟩ : Std)
   ) else (
    ob (app ([] : List Ob) a0.objects) fun x6 =>
    ob (arI .i64 ((a0.safe.length : Int) + (a0.queue.length : Int))) fun x7 =>
    ob (cU x7 a1) fun x8 =>
    ob (dE a0 x8) fun x9 =>
    ob (app ([] : zBz) a1) fun x10 =>
    ob (app x6 [(⟨x2, x10⟩ : Ob)]) fun x11 =>
    some (⟨(⟨x11, x9.safe, x9.queue⟩ : Sto), x2, 0⟩ : Std)
   )
  )
 )
theorem ru (a : Sto × zBz) : fF (cfA [jd, iF, jg, gH] Tryd.f31.ntmps []) [(31, 2)] Tryd.f31 [] [(.nm 1), (.lst .u8)] (.nm 4) (.nj (.br .e (.nj (.br .e (.nj (.br .e (.seg 10 (.seg 7 .e)))))))) a = fI a.1 a.2 := by kernel_rfl
noncomputable def lN : Con Tryd.prog HG nmS := ⟨31, [], [(.nm 1), (.lst .u8)], (.nm 4), fun a => fI a.1 a.2, false⟩
theorem rv : lN.Ok := gL (.cons lM (.cons lh (.cons mT (.cons kd .nil)))) ru Tryd.func31 rfl
noncomputable def eT (a0 : Sto) (a1 : Vec 32) : Option Std :=
 ob (lP a0.objects a1) fun x1 =>
 bif (decide (x1 < 0)) then (
  some (⟨a0, (⟨List.replicate 32 0, rfl⟩ : Vec 32), 331⟩ : Std)
 ) else (
  ob (arI .i64 ((a0.safe.length : Int) + (a0.queue.length : Int))) fun x3 =>
  ob (cO x3 a1) fun x4 =>
  ob (dE a0 x4) fun x5 =>
  ob (jY x5.objects x1) fun x6 =>
  some (⟨(⟨x6, x5.safe, x5.queue⟩ : Sto), (⟨List.replicate 32 0, rfl⟩ : Vec 32), 0⟩ : Std)
 )
theorem pw (a : Sto × (Vec 32)) : fF (cfA [iF, iR, gH, jU] Tryd.f62.ntmps [3]) [] Tryd.f62 [] [(.nm 1), (.vec 32)] (.nm 4) (.nj (.br .e (.seg 10 .e))) a = eT a.1 a.2 := by kernel_rfl
noncomputable def kR : Con Tryd.prog HG nmS := ⟨62, [], [(.nm 1), (.vec 32)], (.nm 4), fun a => eT a.1 a.2, false⟩
theorem pz : kR.Ok := gL (.cons lh (.cons mJ (.cons kd (.cons nV .nil)))) pw Tryd.func62 rfl
noncomputable def fm (a0 : Sto) (a1 : SRaw) : Option Sto :=
 ob (slc a1.data 0 (min (a1.data.length : Int) 40)) fun x1 =>
 ob (sw (a1.kind.toNat : Int) 8) fun x2 =>
 ob ((
  bif (x2 == 0) then (
   some (x2 == 0)
  ) else (
   bif (x2 == 1) then (
    some (x2 == 1)
   ) else (
    bif (x2 == 2) then (
     some (x2 == 2)
    ) else (
     some (x2 == 3)
    )
   )
  )
  : Option Bool)) fun v6 =>
 bif v6 then (
  ob (fI a0 x1) fun x8 =>
  some x8.s
 ) else (
  ob ((
   bif (x2 == 4) then (
    some (x2 == 4)
   ) else (
    some (x2 == 5)
   )
   : Option Bool)) fun v10 =>
  bif v10 then (
   ob (eQ x1) fun x12 =>
   ob (eT a0 x12) fun x13 =>
   some x13.s
  ) else (
   bif (x2 == 6) then (
    ob (eo a0) fun x15 =>
    some x15
   ) else (
    ob (eS a0 a1.keep) fun x16 =>
    some x16
   )
  )
 )
theorem qp (a : Sto × SRaw) : fF (cfA [lN, jd, kR, lm, kQ] Tryd.f39.ntmps [2, 3]) [] Tryd.f39 [] [(.nm 1), (.nm 2)] (.nm 1) (.nj (.jn ⟨[2, 3, 4, 5, 15], [], [0], [(16, .bool)], [], [], 1⟩ false (.br .e (.br .e (.br .e .e))) (.br .e (.jn ⟨[2, 3, 4, 5, 15], [], [0], [(25, .bool)], [], [], 1⟩ false (.br .e .e) (.br (.seg 3 .e) (.br .e .e)))))) a = fm a.1 a.2 := by kernel_rfl
noncomputable def ll : Con Tryd.prog HG nmS := ⟨39, [], [(.nm 1), (.nm 2)], (.nm 1), fun a => fm a.1 a.2, false⟩
theorem qq : ll.Ok := gL (.cons rv (.cons lM (.cons pz (.cons qu (.cons pv .nil))))) qp Tryd.func39 rfl
noncomputable def en (a0 : List SRaw) (a1 : Int) (s1 : (Int × (List Ob) × (List zBz) × (List zBz))) : Option ((Int × (List Ob) × (List zBz) × (List zBz)) ⊕ ((List Ob) × (List zBz) × (List zBz))) :=
 bif (decide (s1.1 < (a0.length : Int))) then (
  bif (decide (s1.1 < a1)) then (
   ob (idx a0 s1.1) fun x7 =>
   ob (fm (⟨s1.2.1, s1.2.2.1, s1.2.2.2⟩ : Sto) x7) fun x8 =>
   ob (arI .i64 (s1.1 + 1)) fun x9 =>
   some (.inl (x9, x8.objects, x8.safe, x8.queue))
  ) else (
   some (.inr (s1.2.1, s1.2.2.1, s1.2.2.2))
  )
 ) else (
  some (.inr (s1.2.1, s1.2.2.1, s1.2.2.2))
 )
noncomputable def fi (a0 : List SRaw) (a1 : Int) : Option Sto :=
 ob ((
  cP (en a0 a1) (0, [], [], [])
  : Option ((List Ob) × (List zBz) × (List zBz)))) fun v10 =>
 some (⟨v10.1, v10.2.1, v10.2.2⟩ : Sto)
theorem qk (a : (List SRaw) × Int) : fF (cfA [ll] Tryd.f19.ntmps []) [] Tryd.f19 [] [(.lst (.nm 2)), (.int .i64)] (.nm 1) (.jn ⟨[4, 5], [], [0], [], [], [(1, [some (.lst (.nm 0)), some (.lst (.lst .u8)), some (.lst (.lst .u8))])], 2⟩ false (.lp [] ⟨[0, 1, 4, 5], [], [0], [(6, (.int .i64))], [], [(1, [some (.lst (.nm 0)), some (.lst (.lst .u8)), some (.lst (.lst .u8))])], 2⟩ (.nj (.br (.br (.nj (.seg 5 .e)) .e) .e))) .e) a = fi a.1 a.2 := by kernel_rfl
noncomputable def lj : Con Tryd.prog HG nmS := ⟨19, [], [(.lst (.nm 2)), (.int .i64)], (.nm 1), fun a => fi a.1 a.2, false⟩
theorem qm : lj.Ok := gL (.cons qq .nil) qk Tryd.func19 rfl
end
section
theorem wv {n : Nat} (h : n < 4294967296) : be (bF n) = n := by
 simp only [bF, be, List.foldl_cons, List.foldl_nil, UInt8.toNat_ofNat']; omega
theorem nP (n : Nat) : (bF n).length = 4 := rfl
theorem BE (x : zBz) : (x ++ Sha.sum x).take ((x ++ Sha.sum x).length - 32) = x := by
 have : (Sha.sum x).length = 32 := Sha.out_length _; rw [List.length_append, this, Nat.add_sub_cancel, List.take_left']; rfl
theorem BD (x : zBz) : (x ++ Sha.sum x).drop ((x ++ Sha.sum x).length - 32) = Sha.sum x := by
 have : (Sha.sum x).length = 32 := Sha.out_length _; rw [List.length_append, this, Nat.add_sub_cancel, List.drop_left']; rfl
theorem ri (o : List Ob) (n : Nat) (x : zBz) : bw o n (x ++ Sha.sum x) = rG o n x := by
 have h32 : (Sha.sum x).length = 32 := Sha.out_length _; unfold bw; rw [if_neg (by simp [h32]), BE, BD, if_neg (by simp)]
theorem CN {o : List Ob} {n : Nat} {x : zBz} (hn : n < 4294967296) (hx : x.length <= 65536) (hf : aM o (Sha.sum x) = none) (ho : o.length < 256) : bw o n (iK n x) = some (o ++ [⟨cC x, x⟩]) := by
 unfold iK; rw [ri, eD]; have h4 := nP n; have h4' := nP x.length; have e1 : (bF n ++ bF x.length ++ x).take 4 = bF n := by rw [List.append_assoc, List.take_left' h4]
 have e2 : (bF n ++ bF x.length ++ x).drop 4 = bF x.length ++ x := by rw [List.append_assoc, List.drop_left' h4]
 rw [if_neg (by simp [h4]), e1, e2, wv hn, if_neg (by simp)]; unfold gl; have e3 : (bF x.length ++ x).take 4 = bF x.length := List.take_left' h4'; have e4 : (bF x.length ++ x).drop 4 = x := List.drop_left' h4'; rw [if_pos (by decide), e3, e4, wv (by omega), if_neg (by simp [h4'])]; unfold gF; rw [if_neg (by simp), List.take_length, if_pos ⟨hx, hf, ho⟩]
theorem Bb {o : List Ob} {n i : Nat} {k : zBz} (hn : n < 4294967296) (hk : k.length = 32) (hf : aM o k = some i) : bw o n (mN n k) = some (o.eraseIdx i) := by
 unfold mN; rw [ri, eD]; have h4 := nP n; have e1 : (bF n ++ k).take 4 = bF n := List.take_left' h4; have e2 : (bF n ++ k).drop 4 = k := List.drop_left' h4; rw [if_neg (by simp [h4]), e1, e2, wv hn, if_neg (by simp)]; unfold gl; rw [if_neg (by decide), if_pos (by decide), if_neg (by omega)]; unfold fP; rw [if_neg (by simp [hk]), List.take_of_length_le (by omega), hf]
theorem CM {o o' o2 o2' : List Ob} {n m : Nat} {b : zBz} (h : bw o n b = some o') (k : bw o2 m b = some o2') : n = m := by
 unfold bw at h k; split at h
 ·cases h
 split at h
 ·cases h
 rw [if_neg (by assumption), if_neg (by assumption)] at k; generalize b.take (b.length - 32) = B at h k; cases B with
 | nil => cases h
 | cons c r =>
  rw [eD] at h k; split at h
  ·cases h
  split at h
  ·cases h
  rename_i h1 h2; rw [if_neg h1] at k; split at k
  ·cases k
  rename_i h3; simp only [ne_eq, Decidable.not_not] at h2 h3; rw [<- h2, <- h3]
def gZ (o : List Ob) (n : Nat) : List zBz -> Option (List Ob)
 | [] => some o
 | b :: r => (bw o n b).bind fun o' => gZ o' (n + 1) r
theorem tG (o : List Ob) (n : Nat) (a b : List zBz) : gZ o n (a ++ b) = (gZ o n a).bind fun o' => gZ o' (n + a.length) b := by
 induction a generalizing o n with
 | nil => rfl
 | cons x r ih =>
  simp only [List.cons_append, gZ, List.length_cons]; cases bw o n x with
  | none => rfl
  | some o' =>
   simp only [Option.bind_some, ih]; rw [show n + 1 + r.length = n + (r.length + 1) by omega]
theorem xK (o : List Ob) (n : Nat) (a : List zBz) (b : zBz) {o' : List Ob} (h : gZ o n a = some o') : gZ o n (a ++ [b]) = bw o' (n + a.length) b := by
 rw [tG, h]; simp only [Option.bind_some, gZ]; cases bw o' (n + a.length) b <;> rfl
theorem vG : ∀ {l : List zBz} {o o' : List Ob} {s : List zBz}, gZ o s.length l = some o' -> da o s l = ⟨o', s ++ l, []⟩
 | [], o, o', s, h => by cases h; simp [da]
 | b :: r, o, o', s, h => by
  simp only [gZ] at h; cases hb : bw o s.length b with
  | none => rw [hb] at h; cases h
  | some o1 =>
   rw [hb] at h; simp only [Option.bind_some] at h; rw [da, hb]; simp only; rw [vG (s := s ++ [b]) (by simpa using h)]; simp
theorem sf : ∀ (l : List zBz) (o : List Ob) (s : List zBz), ∃ (a : List zBz) (o' : List Ob), a <+: l /\ gZ o s.length a = some o' /\ da o s l = ⟨o', s ++ a, []⟩
 | [], o, s => ⟨[], o, List.prefix_refl _, rfl, by simp [da]⟩
 | b :: r, o, s => by
  rw [da]; cases hb : bw o s.length b with
  | none => exact ⟨[], o, List.nil_prefix, rfl, by simp⟩
  | some o1 =>
   obtain ⟨a, o', h1, h2, h3⟩ := sf r o1 (s ++ [b]); refine ⟨b :: a, o', by rw [List.cons_prefix_cons]; exact ⟨rfl, h1⟩, ?_, by simp only [h3]; simp⟩; simp only [gZ, hb, Option.bind_some]; simpa using h2
theorem xL {l : List zBz} {o o' : List Ob} {n : Nat} (h : gZ o n l = some o') (k : Nat) : ∃ o1, gZ o n (l.take k) = some o1 := by
 rw [<- List.take_append_drop k l, tG] at h; cases hq : gZ o n (l.take k) with
 | none => rw [hq] at h; cases h
 | some o1 => exact ⟨o1, rfl⟩
theorem Ji {l : List zBz} {o o' : List Ob} {n i : Nat} {b : zBz} (h : gZ o n l = some o') (hi : l[i]? = some b) : ∃ o1 o2, gZ o n (l.take i) = some o1 /\ bw o1 (n + i) b = some o2 := by
 obtain ⟨o1, h1⟩ := xL h i; obtain ⟨o2, h2⟩ := xL h (i + 1); have hl := (List.getElem?_eq_some_iff.1 hi).1; rw [List.take_add_one, hi] at h2; simp only [Option.toList_some] at h2; rw [xK _ _ _ _ h1, List.length_take, Nat.min_eq_left (by omega)] at h2; exact ⟨o1, o2, h1, h2⟩
def dg (s : Sto) : List zBz := s.safe ++ s.queue
def nY (s : Sto) : Prop := gZ [] 0 (dg s) = some s.objects
theorem nY.open {s : Sto} (h : nY s) : da [] [] (dg s) = ⟨s.objects, dg s, []⟩ := by
 have := vG (s := []) (l := dg s) (o := []) h; simpa using this
theorem EY (l : List zBz) : nY (da [] [] l) := by
 obtain ⟨a, o', h1, h2, h3⟩ := sf l [] []; rw [h3]; simpa [nY, dg] using h2
structure ObsOk (m : Nat) (o : List Ob) : Prop where
 sum : ∀ x ∈ o, x.sum.l = Sha.sum x.data
 len : ∀ x ∈ o, x.data.length <= m
 dis : (o.map fun x => x.sum.l).Nodup
theorem vf {o : List Ob} {k : zBz} : aM o k = none ↔ ∀ x ∈ o, x.sum.l ≠ k := by
 unfold aM; simp [List.findIdx?_eq_none_iff]
theorem qy {o : List Ob} {k : zBz} {i : Nat} (h : aM o k = some i) : ∃ x, o[i]? = some x /\ x.sum.l = k := by
 unfold aM at h; rw [List.findIdx?_eq_some_iff_getElem] at h; obtain ⟨hi, h1, _⟩ := h; exact ⟨o[i], by simp [hi], by simpa using h1⟩
theorem nF {o : List Ob} (hd : (o.map fun x => x.sum.l).Nodup) {i : Nat} {x : Ob} (hx : o[i]? = some x) : aM o x.sum.l = some i := by
 cases h : aM o x.sum.l with
 | none => exact absurd rfl (vf.1 h x (List.mem_of_getElem? hx))
 | some j =>
  obtain ⟨y, hy, he⟩ := qy h; have h1 : (o.map fun x => x.sum.l)[j]? = some x.sum.l := by simp [hy, he]
  have h2 : (o.map fun x => x.sum.l)[i]? = some x.sum.l := by simp [hx]
  have hj := (List.getElem?_eq_some_iff.1 h1)
  have hi := (List.getElem?_eq_some_iff.1 h2)
  rcases Nat.lt_trichotomy j i with hlt | rfl | hlt
  ·exact absurd (hj.2.trans hi.2.symm) (List.pairwise_iff_getElem.1 hd j i hj.1 hi.1 hlt)
  ·rfl
  ·exact absurd (hi.2.trans hj.2.symm) (List.pairwise_iff_getElem.1 hd i j hi.1 hj.1 hlt)
theorem Ev {m : Nat} {o o' : List Ob} {n : Nat} {b : zBz} (ho : ObsOk m o) (hb : b.length <= m) (h : bw o n b = some o') : ObsOk m o' /\ o'.length <= o.length + 1 := by
 unfold bw at h; split at h
 ·cases h
 split at h
 ·cases h
 have hB : (b.take (b.length - 32)).length <= m := by simp; omega
 generalize b.take (b.length - 32) = B at h hB; cases B with
 | nil => cases h
 | cons c r =>
  rw [eD] at h; split at h
  ·cases h
  split at h
  ·cases h
  unfold gl at h; split at h
  ·split at h
   ·cases h
   ·unfold gF at h; split at h
    ·cases h
    split at h
    ·rename_i hc; cases h; have hxl : (((r.drop 4).drop 4).take (be ((r.drop 4).take 4))).length <= m := by simp at hB ⊢; omega
     generalize ((r.drop 4).drop 4).take (be ((r.drop 4).take 4)) = x at hc hxl; refine ⟨⟨fun y hy => ?_, fun y hy => ?_, ?_⟩, by simp⟩
     ·rcases List.mem_append.1 hy with hy | hy
      ·exact ho.sum y hy
      ·simp at hy; subst hy; rfl
     ·rcases List.mem_append.1 hy with hy | hy
      ·exact ho.len y hy
      ·simp at hy; subst hy; exact hxl
     ·rw [List.map_append, List.nodup_append]; refine ⟨ho.dis, by simp, fun a ha b hb => ?_⟩; simp at hb; subst hb; obtain ⟨y, hy, rfl⟩ := List.mem_map.1 ha; exact vf.1 hc.2.1 y hy
    ·cases h
  ·split at h
   ·split at h
    ·cases h
    ·unfold fP at h; split at h
     ·cases h
     split at h
     ·cases h
     ·cases h; rename_i i _; have hsub : (o.eraseIdx i).Sublist o := List.eraseIdx_sublist ..; refine ⟨⟨fun y hy => ho.sum y (hsub.mem hy), fun y hy => ho.len y (hsub.mem hy), (hsub.map _).nodup ho.dis⟩, ?_⟩; have := hsub.length_le; omega
   ·cases h
theorem BX {m : Nat} : ∀ {l : List zBz} {o o' : List Ob} {n : Nat}, ObsOk m o -> (∀ b ∈ l, b.length <= m) -> gZ o n l = some o' -> ObsOk m o' /\ o'.length <= o.length + l.length
 | [], o, o', n, ho, _, h => by cases h; exact ⟨ho, by simp⟩
 | b :: r, o, o', n, ho, hb, h => by
  simp only [gZ] at h; cases hq : bw o n b with
  | none => rw [hq] at h; cases h
  | some o1 =>
   rw [hq] at h; simp only [Option.bind_some] at h; obtain ⟨h1, h2⟩ := Ev ho (hb b (by simp)) hq; obtain ⟨h3, h4⟩ := BX h1 (fun x hx => hb x (by simp [hx])) h; exact ⟨h3, by simp only [List.length_cons]; omega⟩
theorem Fp (m : Nat) : ObsOk m [] := ⟨by simp, by simp, by simp⟩
structure SInv (m : Nat) (s : Sto) : Prop where
 good : nY s
 num : s.safe.length + s.queue.length <= m
 len : ∀ b ∈ dg s, b.length <= 2000
theorem SInv.obs {m : Nat} {s : Sto} (h : SInv m s) : ObsOk 2000 s.objects /\ s.objects.length <= m := by
 obtain ⟨h1, h2⟩ := BX (Fp 2000) h.len h.good; have := h.num; simp only [dg, List.length_append, List.length_nil, Nat.zero_add] at h2; exact ⟨h1, by omega⟩
theorem SInv.mono {m m' : Nat} {s : Sto} (h : SInv m s) (k : m <= m') : SInv m' s := ⟨h.good, Nat.le_trans h.num k, h.len⟩
def mO : Sto := ⟨[], [], []⟩
theorem GT : SInv 0 mO := ⟨rfl, Nat.le_refl _, by simp [mO, dg]⟩
theorem SInv.push {m : Nat} {s : Sto} (h : SInv m s) {b : zBz} {o : List Ob} (hb : b.length <= 2000) (ha : bw s.objects (s.safe.length + s.queue.length) b = some o) : SInv (m + 1) ⟨o, s.safe, s.queue ++ [b]⟩ := by
 have e : dg ⟨o, s.safe, s.queue ++ [b]⟩ = dg s ++ [b] := by simp [dg]
 refine ⟨?_, by have := h.num; simp; omega, fun x hx => ?_⟩
 ·unfold nY; rw [e, xK _ _ _ _ h.good]; have : (dg s).length = s.safe.length + s.queue.length := by simp [dg]
  rw [Nat.zero_add, this]; exact ha
 ·rw [e] at hx; rcases List.mem_append.1 hx with hx | hx
  ·exact h.len x hx
  ·simp at hx; subst hx; exact hb
theorem Hv (n : Nat) (x : zBz) : (iK n x).length = x.length + 41 := by
 have : ∀ y, (Sha.sum y).length = 32 := fun y => Sha.out_length _
 simp [iK, this, nP]; omega
theorem Hu (n : Nat) {k : zBz} (hk : k.length = 32) : (mN n k).length = 69 := by
 have : ∀ y, (Sha.sum y).length = 32 := fun y => Sha.out_length _
 simp [mN, this, nP, hk]
def evF (s : Sto) (k : Vec 32) : Sto := match aM s.objects k.l with
 | none => s
 | some i => ⟨s.objects.eraseIdx i, s.safe, s.queue ++ [mN (s.safe.length + s.queue.length) k.l]⟩
theorem Aq (s : Sto) {x : zBz} (h : 65536 < x.length) : dh s x = (s, ⟨List.replicate 32 0, rfl⟩, 2) := by unfold dh; rw [if_pos h]
theorem kF (s : Sto) {x : zBz} {i : Nat} (h : ¬ 65536 < x.length) (hf : aM s.objects (Sha.sum x) = some i) : dh s x = (s, cC x, 0) := by unfold dh; rw [if_neg h, hf]; rfl
theorem xV (s : Sto) {x : zBz} (h : ¬ 65536 < x.length) (hf : aM s.objects (Sha.sum x) = none) (ho : 256 <= s.objects.length) : dh s x = (s, ⟨List.replicate 32 0, rfl⟩, 330) := by unfold dh; rw [if_neg h, hf, if_neg (by simp), if_pos ho]
theorem jx (s : Sto) {x : zBz} (h : ¬ 65536 < x.length) (hf : aM s.objects (Sha.sum x) = none) (ho : s.objects.length < 256) : dh s x = (⟨s.objects ++ [⟨cC x, x⟩], s.safe, s.queue ++ [iK (s.safe.length + s.queue.length) x]⟩, cC x, 0) := by
 unfold dh; rw [if_neg h, hf, if_neg (by simp), if_neg (by omega)]; simp [mi, iK]
theorem SInv.put {m : Nat} {s : Sto} (h : SInv m s) {x : zBz} (hx : x.length <= 200) (hm : m < 256) : SInv (m + 1) (dh s x).1 := by
 cases hf : aM s.objects (Sha.sum x) with
 | some i => rw [kF s (by omega) hf]; exact h.mono (by omega)
 | none =>
  have := h.obs.2; have hn := h.num; rw [jx s (by omega) hf (by omega)]; exact h.push (by rw [Hv]; omega) (CN (by omega) (by omega) hf (by omega))
theorem SInv.evict {m : Nat} {s : Sto} (h : SInv m s) (k : Vec 32) (hm : m < 4294967296) : SInv (m + 1) (evF s k) := by
 unfold evF; have hn := h.num; cases hf : aM s.objects k.l with
 | none => exact h.mono (by omega)
 | some i => exact h.push (by rw [Hu _ k.h]; omega) (Bb (by omega) k.h hf)
def gD (s : Sto) : Sto := ⟨s.objects, s.safe ++ s.queue, []⟩
theorem SInv.sync {m : Nat} {s : Sto} (h : SInv m s) : SInv m (gD s) := by
 have e : dg (gD s) = dg s := by simp [dg, gD]
 exact ⟨by unfold nY; rw [e]; exact h.good, by have := h.num; simp [gD]; omega, by rw [e]; exact h.len⟩
def cX : List zBz -> List Bool -> List zBz
 | q :: qs, true :: ks => q :: cX qs ks
 | _ :: qs, false :: ks => cX qs ks
 | _, _ => []
theorem jr : ∀ (q : List zBz) (k : List Bool), (cX q k).Sublist q
 | [], _ => by simp [cX]
 | _ :: _, [] => by simp [cX]
 | q :: qs, true :: ks => by rw [cX]; exact (jr qs ks).cons_cons q
 | q :: qs, false :: ks => by rw [cX]; exact (jr qs ks).cons q
def ml (s : Sto) (k : List Bool) : Sto := da [] [] (s.safe ++ cX s.queue k)
theorem SInv.open {m : Nat} {l : List zBz} (hl : l.length <= m) (hb : ∀ b ∈ l, b.length <= 2000) : SInv m (da [] [] l) := by
 obtain ⟨a, o', h1, h2, h3⟩ := sf l [] []; refine ⟨EY l, ?_, fun b hb' => ?_⟩
 ·rw [h3]; have := h1.length_le; simp; omega
 ·rw [h3] at hb'; simp [dg] at hb'; exact hb b (h1.subset hb')
theorem SInv.break {m : Nat} {s : Sto} (h : SInv m s) (k : List Bool) : SInv m (ml s k) := by
 have hs := jr s.queue k; refine SInv.open ?_ fun b hb => h.len b ?_
 ·have := h.num; have := hs.length_le; simp; omega
 ·simp only [dg]; rcases List.mem_append.1 hb with hb | hb
  ·simp [hb]
  ·simp [hs.subset hb]
def oR (s : Sto) (x : SRaw) : Sto :=
 if x.kind.toNat % 8 < 4 then (dh s (x.data.take 40)).1 else
 if x.kind.toNat % 8 < 6 then evF s (cC (x.data.take 40)) else
 if x.kind.toNat % 8 = 6 then gD s else ml s x.keep
theorem SInv.step {m : Nat} {s : Sto} (h : SInv m s) (x : SRaw) (hm : m < 256) : SInv (m + 1) (oR s x) := by
 unfold oR; have hl : (x.data.take 40).length <= 40 := by simp; omega
 split
 ·exact h.put (by omega) hm
 split
 ·exact h.evict _ (by omega)
 split
 ·exact h.sync.mono (by omega)
 ·exact (h.break _).mono (by omega)
def gi (l : List SRaw) (n : Nat) : Sto := (l.take n).foldl oR mO
theorem uB : ∀ (l : List SRaw) (m : Nat) (s : Sto), SInv m s -> m + l.length <= 256 -> SInv (m + l.length) (l.foldl oR s)
 | [], _, _, h, _ => h
 | x :: r, m, s, h, hm => by
  simp only [List.length_cons] at hm; have := uB r (m + 1) (oR s x) (h.step x (by omega)) (by omega); simp only [List.foldl_cons, List.length_cons]; exact this.mono (by omega)
theorem zV (l : List SRaw) (n : Nat) (hn : n <= 256) : SInv n (gi l n) := by
 have := uB (l.take n) 0 mO GT (by simp; omega); exact this.mono (by simp; omega)
end
section
theorem BL {s : Sto} (h : s.safe.length + s.queue.length <= 1000000) : cL s = some (dg s) := by
 unfold cL; rw [eF (by simp; omega), aq, List.nil_append, eF (by omega), aq]; rfl
theorem Ih {s : Sto} (h : s.safe.length + s.queue.length <= 1000000) : jm s = some (gD s) := by
 unfold jm; rw [iz _ (by simp; omega) (by simp), aq]; simp [gD]
theorem DV {s : Sto} (h : s.safe.length + s.queue.length <= 1000000) : eo s = some (gD s) := by
 unfold eo; rw [BL h, aq]; rfl
theorem vJ {s : Sto} (b : zBz) (h : s.queue.length <= 1000000) : dE s b = some ⟨s.objects, s.safe, s.queue ++ [b]⟩ := by
 unfold dE; rw [eF (by simp; omega), aq, List.nil_append, eF (by simp; omega), aq]
theorem uj {l : List zBz} (h : l.length <= 1000000 /\ ∀ b ∈ l, b.length <= 1000000) : jl l = some (da [] [] l) := if_pos h
theorem vF {l : List zBz} (h : l.length <= 1000000 /\ ∀ b ∈ l, b.length <= 1000000) : ek l = some (da [] [] l) := if_pos h
theorem yk {x : zBz} (h : x.length <= 1000000) : eQ x = some (cC x) := if_pos h
theorem yg {l : List Ob} (k : Vec 32) (h : l.length <= 4294967296) : gY l k = some (cF l k.l) := if_pos h
theorem xZ {l : List Ob} (k : Vec 32) (h : l.length <= 4294967296) : lP l k = some (cF l k.l) := if_pos h
theorem mW {l : List Ob} {k : zBz} {i : Nat} (h : aM l k = some i) : cF l k = (i : Int) := by unfold cF; rw [h]
theorem mV {l : List Ob} {k : zBz} (h : aM l k = none) : cF l k = -1 := by unfold cF; rw [h]
theorem qx {l : List Ob} {k : zBz} {i : Nat} (h : aM l k = some i) : i < l.length := by
 obtain ⟨x, hx, _⟩ := qy h; exact (List.getElem?_eq_some_iff.1 hx).1
theorem Kd (s : Sto) : (⟨s.objects, s.safe, s.queue⟩ : Sto) = s := rfl
theorem Hs {s : Sto} (k : UInt8) {x : zBz} (h1 : s.safe.length <= 1000000) (h2 : s.queue.length <= 1000000) (h3 : x.length <= 100000) : jo s k x = some (mi s k x) := if_pos ⟨h1, h2, h3⟩
theorem BF {l : List Ob} {i : Nat} (hl : l.length <= 1000000) (hi : i < l.length) : eG l (i : Int) = some (l.eraseIdx i) := by
 unfold eG; rw [kJ (by omega), aq, bQ (by omega), aq, kJ (by omega), aq, gU _ (by simp; omega) (by simp), aq]; have h1 : ((i : Int) + 1).toNat = i + 1 := by omega
 simp [List.eraseIdx_eq_take_drop_succ, h1]
theorem AE {l : List Ob} {i : Nat} (hl : l.length <= 1000000) (hi : i < l.length) : jY l (i : Int) = some (l.eraseIdx i) := if_pos ⟨hl, by omega, by omega⟩
theorem SInv.small {m : Nat} {s : Sto} (h : SInv m s) (hm : m <= 256) : s.objects.length <= 256 /\ s.safe.length + s.queue.length <= 256 /\ (∀ b ∈ dg s, b.length <= 2000) := ⟨Nat.le_trans h.obs.2 hm, Nat.le_trans h.num hm, h.len⟩
theorem Id {m : Nat} {s : Sto} (h : SInv m s) (hm : m <= 256) {x : zBz} (hx : x.length <= 99000) : ki s x = some (dh s x) := by
 obtain ⟨h1, h2, _⟩ := h.small hm; exact if_pos ⟨by omega, by omega, by omega, hx⟩
theorem Hz {m : Nat} {s : Sto} (h : SInv m s) (hm : m <= 256) {x : zBz} (hx : x.length <= 99000) : fI s x = some ⟨(dh s x).1, (dh s x).2.1, (dh s x).2.2⟩ := by
 obtain ⟨h1, h2, _⟩ := h.small hm; unfold fI; by_cases c : 65536 < x.length
 ·rw [gc (by omega), cond_true, Aq s c]
 rw [gn (by omega), cond_false, yk (by omega), aq, xZ _ (by omega), aq]; show (bif decide (0 <= cF s.objects (Sha.sum x)) then _ else _) = _; cases hf : aM s.objects (Sha.sum x) with
 | some i => rw [mW hf, Iz (by omega), cond_true, kF s c hf]
 | none =>
  rw [mV hf, Iy (by omega), cond_false]; by_cases c2 : 256 <= s.objects.length
  ·rw [Iz (by omega), cond_true, xV s c hf c2]
  ·rw [Iy (by omega), cond_false, jx s c hf (by omega), eF (by simp; omega), aq, List.nil_append, bQ (by omega), aq]; have e : cU ((s.safe.length : Int) + (s.queue.length : Int)) x = some (iK (s.safe.length + s.queue.length) x) := by
    unfold cU; rw [if_pos ⟨by omega, by omega⟩]
    congr 2
   rw [e, aq, vJ _ (by omega), aq, eF (by simp; omega), aq, List.nil_append, eF (by simp; omega), aq]
theorem Ka {m : Nat} {s : Sto} (h : SInv m s) (hm : m <= 256) (k : Vec 32) : iV s k = some (evF s k, if aM s.objects k.l = none then 331 else 0) := by
 obtain ⟨h1, h2, _⟩ := h.small hm; unfold iV evF; rw [yg _ (by omega), aq]; cases hf : aM s.objects k.l with
 | none => rw [mV hf, gc (by omega), cond_true]; rfl
 | some i =>
  have hi := qx hf; rw [mW hf, gn (by omega), cond_false, Hs _ (by omega) (by omega) (by rw [k.h]; omega), aq]; have e : (mi s 68 k.l).objects = s.objects := rfl; rw [e, BF (by omega) hi, aq, if_neg (by simp)]; simp [mi, mN]
theorem JO {m : Nat} {s : Sto} (h : SInv m s) (hm : m <= 256) (k : Vec 32) : eT s k = some ⟨evF s k, ⟨List.replicate 32 0, rfl⟩, if aM s.objects k.l = none then 331 else 0⟩ := by
 obtain ⟨h1, h2, _⟩ := h.small hm; unfold eT evF; rw [xZ _ (by omega), aq]; cases hf : aM s.objects k.l with
 | none => rw [mV hf, gc (by omega), cond_true]; rfl
 | some i =>
  have hi := qx hf; rw [mW hf, gn (by omega), cond_false, bQ (by omega), aq]; have e : cO ((s.safe.length : Int) + (s.queue.length : Int)) k = some (mN (s.safe.length + s.queue.length) k.l) := by
   unfold cO; rw [if_pos (by omega)]
   congr 2
  rw [e, aq, vJ _ (by omega), aq]; simp only; rw [AE (by omega) hi, aq, if_neg (by simp)]
theorem AJ {m : Nat} {s : Sto} (h : SInv m s) (hm : m <= 256) (k : Vec 32) : kh s k = some (match aM s.objects k.l with | none => ([], 331) | some i => ((s.objects.getD i ⟨k, []⟩).data, 0)) := by
 obtain ⟨h1, h2, _⟩ := h.small hm; unfold kh; rw [yg _ (by omega), aq]; cases hf : aM s.objects k.l with
 | none => rw [mV hf, gc (by omega), cond_true]
 | some i =>
  have hi := qx hf; rw [mW hf, gn (by omega), cond_false, er, List.getElem?_eq_getElem hi, aq]; simp [List.getD_eq_getElem?_getD, hi]
theorem Gc {m : Nat} {s : Sto} (h : SInv m s) (hm : m <= 256) : jm s = some (gD s) := Ih (by have := (h.small hm).2.1; omega)
theorem FP {m : Nat} {s : Sto} (h : SInv m s) (hm : m <= 256) : eo s = some (gD s) := DV (by have := (h.small hm).2.1; omega)
theorem uo {m : Nat} {s : Sto} (h : SInv m s) (hm : m <= 256) : cL s = some (dg s) := BL (by have := (h.small hm).2.1; omega)
theorem vn (q : List zBz) (k : List Bool) (i : Nat) {x : zBz} (hx : q[i]? = some x) : cX (q.take (i + 1)) k = cX (q.take i) k ++ (if k[i]? = some true then [x] else []) := by
 induction q generalizing k i with
 | nil => simp at hx
 | cons y r ih =>
  cases i with
  | zero =>
   simp at hx; subst hx; cases k with
   | nil => simp [cX]
   | cons b k => cases b <;> simp [cX]
  | succ i =>
   simp only [List.getElem?_cons_succ] at hx; simp only [List.take_succ_cons]; cases k with
   | nil => simp [cX]
   | cons b k =>
    have := ih k i hx; cases b <;> simp [cX, this]
theorem Dl (q : List zBz) (k : List Bool) {i : Nat} (h : k.length <= i) : cX q k = cX (q.take i) k := by
 induction q generalizing k i with
 | nil => simp
 | cons y r ih =>
  cases k with
  | nil => cases i <;> simp [cX]
  | cons b k =>
   cases i with
   | zero => simp at h
   | succ i =>
    have := ih k (i := i) (by simpa using h); cases b <;> simp [cX, this]
theorem vX {s : Sto} (k : List Bool) (h : s.safe.length + s.queue.length <= 256) (hb : ∀ b ∈ dg s, b.length <= 2000) : iU s k = some (ml s k) := by
 unfold iU; have e : dl s.safe = some s.safe := if_pos (by omega); rw [e, aq]; have h2 : cP (ed s k) (0, s.safe) = some (s.safe ++ cX s.queue k) := by
  have := kC (body := ed s k) (fun i => ((i : Int), s.safe ++ cX (s.queue.take i) k)) s.queue.length (e := s.safe ++ cX s.queue k) (fun i hi => by
   have hx : s.queue[i]? = some (s.queue[i]'hi) := List.getElem?_eq_getElem _; generalize s.queue[i]'hi = x at hx; have hl := (jr (s.queue.take i) k).length_le; rw [List.length_take] at hl; unfold ed; simp only; rw [gc (by omega), cond_true, er, hx, aq, vn _ _ _ hx]; by_cases c : i < k.length
   ·have hk : k[i]? = some (k[i]'c) := List.getElem?_eq_getElem _; generalize k[i]'c = b at hk; rw [gc (by omega), cond_true, er, hk, aq]; cases b with
    | true =>
     rw [cond_true, eF (by simp; omega), aq, aq, bQ (by omega), aq]; simp
    | false =>
     rw [cond_false, aq, bQ (by omega), aq]; simp
   ·rw [gn (by omega), cond_false, aq, bQ (by omega), aq]; have : k[i]? = none := by rw [List.getElem?_eq_none_iff]; omega
    rw [this]; simp) (by
   unfold ed; simp only [List.take_length]; rw [gn (by omega), cond_false])
  simpa [cX] using this
 rw [h2, aq, uj, aq]
 ·rfl
 ·have hs := jr s.queue k; refine ⟨by have := hs.length_le; simp; omega, fun b hb' => ?_⟩; have : b ∈ dg s := by
   simp only [dg]; rcases List.mem_append.1 hb' with hb' | hb'
   ·simp [hb']
   ·simp [hs.subset hb']
  exact Nat.le_trans (hb b this) (by omega)
theorem DI {s : Sto} (k : List Bool) (h : s.safe.length + s.queue.length <= 256) (hb : ∀ b ∈ dg s, b.length <= 2000) : eS s k = some (ml s k) := by
 unfold eS; rw [eF (by simp; omega), aq, List.nil_append]; have h2 : cP (dV s k) (0, s.safe) = some (s.safe ++ cX s.queue k) := by
  have hmin : ∀ n, n = min s.queue.length k.length -> cX (s.queue.take n) k = cX s.queue k := fun n hn => by
   by_cases c : s.queue.length <= k.length
   ·rw [hn, Nat.min_eq_left c, List.take_length]
   ·rw [hn, Nat.min_eq_right (by omega), <- Dl _ _ (Nat.le_refl _)]
  have := kC (body := dV s k) (fun i => ((i : Int), s.safe ++ cX (s.queue.take i) k)) (min s.queue.length k.length) (e := s.safe ++ cX s.queue k) (fun i hi => by
   have hx : s.queue[i]? = some (s.queue[i]'(by omega)) := List.getElem?_eq_getElem _; generalize s.queue[i]'(by omega) = x at hx; have hl := (jr (s.queue.take i) k).length_le; rw [List.length_take] at hl; have hk : k[i]? = some (k[i]'(by omega)) := List.getElem?_eq_getElem _; generalize k[i]'(by omega) = b at hk; unfold dV; simp only; rw [gc (by omega), cond_true, gc (by omega), cond_true, er, hk, aq, vn _ _ _ hx]; cases b with
   | true =>
    rw [cond_true, er, hx, aq, eF (by simp; omega), aq, aq, bQ (by omega), aq]; simp [hk]
   | false =>
    rw [cond_false, aq, bQ (by omega), aq]; simp [hk]) (by
   unfold dV; simp only; rw [hmin _ rfl]; by_cases c : s.queue.length <= k.length
   ·rw [Nat.min_eq_left c, gn (by omega), cond_false]
   ·rw [Nat.min_eq_right (by omega), gc (by omega), cond_true, gn (by omega), cond_false])
  simpa [cX] using this
 rw [h2, aq, vF, aq]
 ·rfl
 ·have hs := jr s.queue k; refine ⟨by have := hs.length_le; simp; omega, fun b hb' => ?_⟩; have : b ∈ dg s := by
   simp only [dg]; rcases List.mem_append.1 hb' with hb' | hb'
   ·simp [hb']
   ·simp [hs.subset hb']
  exact Nat.le_trans (hb b this) (by omega)
open Classical in
theorem FS (a b : List Ob) (ha : a.length <= 1000000) : bY a b = some (decide (a = b)) := by
 unfold bY; refine Ok.get ?_; refine Ok.cond (fun c => Ok.ret ?_) fun c => ?_
 ·have : a.length ≠ b.length := by simp at c; omega
  rw [eq_comm, decide_eq_false_iff_not]; intro e; subst e; exact this rfl
 have hl : a.length = b.length := by simp at c; omega
 refine Ok.bind (P := fun o => o = if a = b then .inl () else .inr false) ?_ ?_
 ·refine Ok.loop (fun s : Int => ∃ i : Nat, s = i /\ i <= a.length /\ ∀ j x y, j < i -> a[j]? = some x -> b[j]? = some y -> x = y) (fun s : Int => a.length - s.toNat) ⟨0, rfl, by omega, fun j x y h => by omega⟩ ?_; rintro _ ⟨i, rfl, h1, h2⟩; unfold gV; refine Ok.cond (fun c => ?_) fun c => Ok.ret ?_
  ·simp only [decide_eq_true_eq] at c; have hx : a[i]? = some (a[i]'(by omega)) := List.getElem?_eq_getElem _; have hy : b[i]? = some (b[i]'(by omega)) := List.getElem?_eq_getElem _; generalize a[i]'(by omega) = x at hx; generalize b[i]'(by omega) = y at hy; simp only [er, hx, hy, aq]; have hstop : x ≠ y -> (Sum.inr false : Unit ⊕ Bool) = if a = b then .inl () else .inr false := fun hne => by
    rw [if_neg]; intro e; subst e; rw [hx] at hy; exact hne (Option.some.inj hy)
   have hgo : x = y -> ∀ j x' y', j < i + 1 -> a[j]? = some x' -> b[j]? = some y' -> x' = y' := fun he j x' y' hj hx' hy' => by
    by_cases e : j = i
    ·subst e; rw [hx] at hx'; rw [hy] at hy'; cases hx'; cases hy'; exact he
    ·exact h2 j x' y' (by omega) hx' hy'
   refine Ok.cond (fun c2 => Ok.ret (hstop fun e => ?_)) fun c2 => ?_
   ·subst e; simp at c2
   refine Ok.cond (fun c3 => Ok.ret (hstop fun e => ?_)) fun c3 => ?_
   ·subst e; simp at c3
   rw [bQ (by omega), aq]; have he : x = y := Ob.same.1 ⟨by simpa using c2, by simpa using c3⟩; exact Ok.ret ⟨⟨i + 1, by omega, by omega, hgo he⟩, by omega⟩
  ·simp only [decide_eq_false_iff_not] at c; rw [if_pos (qQ hl h2 (by omega))]
 ·rintro o rfl; by_cases e : a = b
  ·rw [if_pos e, decide_eq_true e]; exact Ok.ret rfl
  ·rw [if_neg e, decide_eq_false e]; exact Ok.ret rfl
theorem FT (a b : List zBz) (ha : a.length <= 1000000) : bZ a b = some (decide (a = b)) := by
 unfold bZ; refine Ok.get ?_; refine Ok.cond (fun c => Ok.ret ?_) fun c => ?_
 ·have : a.length ≠ b.length := by simp at c; omega
  rw [eq_comm, decide_eq_false_iff_not]; intro e; subst e; exact this rfl
 have hl : a.length = b.length := by simp at c; omega
 refine Ok.bind (P := fun o => o = if a = b then .inl () else .inr false) ?_ ?_
 ·refine Ok.loop (fun s : Int => ∃ i : Nat, s = i /\ i <= a.length /\ ∀ j x y, j < i -> a[j]? = some x -> b[j]? = some y -> x = y) (fun s : Int => a.length - s.toNat) ⟨0, rfl, by omega, fun j x y h => by omega⟩ ?_; rintro _ ⟨i, rfl, h1, h2⟩; unfold gW; refine Ok.cond (fun c => ?_) fun c => Ok.ret ?_
  ·simp only [decide_eq_true_eq] at c; have hx : a[i]? = some (a[i]'(by omega)) := List.getElem?_eq_getElem _; have hy : b[i]? = some (b[i]'(by omega)) := List.getElem?_eq_getElem _; generalize a[i]'(by omega) = x at hx; generalize b[i]'(by omega) = y at hy; simp only [er, hx, hy, aq]; have hstop : x ≠ y -> (Sum.inr false : Unit ⊕ Bool) = if a = b then .inl () else .inr false := fun hne => by
    rw [if_neg]; intro e; subst e; rw [hx] at hy; exact hne (Option.some.inj hy)
   have hgo : x = y -> ∀ j x' y', j < i + 1 -> a[j]? = some x' -> b[j]? = some y' -> x' = y' := fun he j x' y' hj hx' hy' => by
    by_cases e : j = i
    ·subst e; rw [hx] at hx'; rw [hy] at hy'; cases hx'; cases hy'; exact he
    ·exact h2 j x' y' (by omega) hx' hy'
   refine Ok.cond (fun c2 => Ok.ret (hstop fun e => ?_)) fun c2 => ?_
   ·subst e; simp at c2
   rw [bQ (by omega), aq]; have he : x = y := by simpa using c2
   exact Ok.ret ⟨⟨i + 1, by omega, by omega, hgo he⟩, by omega⟩
  ·simp only [decide_eq_false_iff_not] at c; rw [if_pos (qQ hl h2 (by omega))]
 ·rintro o rfl; by_cases e : a = b
  ·rw [if_pos e, decide_eq_true e]; exact Ok.ret rfl
  ·rw [if_neg e, decide_eq_false e]; exact Ok.ret rfl
theorem vU {a : List Ob} (ha : a.length <= 1000000) : bY a a = some true := (FS a a ha).trans (by simp)
theorem vV {a : List zBz} (ha : a.length <= 1000000) : bZ a a = some true := (FT a a ha).trans (by rw [decide_eq_true rfl])
theorem FU {s : Sto} (h1 : s.objects.length <= 1000000) (h2 : s.safe.length <= 1000000) (h3 : s.queue.length <= 1000000) : fj s s = some true := by
 unfold fj; rw [vU h1, aq, cond_true, vV h2, aq, cond_true, vV h3, aq]
theorem oQ {x : Std} (h1 : x.s.objects.length <= 1000000) (h2 : x.s.safe.length <= 1000000) (h3 : x.s.queue.length <= 1000000) : dC x x = some true := by
 unfold dC; rw [FU h1 h2 h3, aq, cond_true]; simp
theorem SInv.openOk {m : Nat} {s : Sto} (h : SInv m s) (hm : m <= 256) : (dg s).length <= 1000000 /\ ∀ b ∈ dg s, b.length <= 1000000 := by
 obtain ⟨h1, h2, h3⟩ := h.small hm; exact ⟨by simp [dg]; omega, fun b hb => Nat.le_trans (h3 b hb) (by omega)⟩
theorem lF {m : Nat} {s : Sto} (h : SInv m s) (hm : m <= 256) : dQ s = some true := by
 obtain ⟨h1, h2, h3⟩ := h.small hm; unfold dQ; rw [uo h hm, aq, vF (h.openOk hm), aq, h.good.open, qb rfl, cond_true]; simp only; rw [vU (by omega), aq]
theorem DR {m : Nat} {s : Sto} (h : SInv m s) (hm : m <= 256) : fE s = some true := by
 obtain ⟨h1, h2, h3⟩ := h.small hm; unfold fE; rw [iz _ (by simp; omega) (by simp), aq]; have e : [s.safe, s.queue].flatten = dg s := by simp [dg]
 rw [e, uj (h.openOk hm), aq, h.good.open, qb rfl, cond_true]; simp only; have := uU s.objects s.objects (by omega) (fun x hx => Nat.le_trans (h.obs.1.len x hx) (by omega)); exact (fU (this.trans (by simp)))
theorem iM {m : Nat} {s : Sto} (h : SInv m s) (hm : m <= 256) {x : zBz} (hx : x.length <= 99000) : cE s x = some ⟨(dh s x).1, (dh s x).2.1, (dh s x).2.2⟩ := by
 unfold cE; rw [Id h hm hx, aq]
theorem tD {m : Nat} {s : Sto} (h : SInv m s) (hm : m <= 256) (k : Vec 32) : eh s k = some ⟨evF s k, ⟨List.replicate 32 0, rfl⟩, if aM s.objects k.l = none then 331 else 0⟩ := by
 unfold eh; rw [Ka h hm, aq]
theorem GR {m : Nat} {s : Sto} (h : SInv m s) (hm : m <= 256) {k : Vec 32} (hf : aM s.objects k.l = none) : eP s k = some ⟨[], 331⟩ := by
 unfold eP; rw [AJ h hm, hf, aq]
theorem GS {m : Nat} {s : Sto} (h : SInv m s) (hm : m <= 256) {k : Vec 32} {i : Nat} {x : Ob} (hf : aM s.objects k.l = some i) (hx : s.objects[i]? = some x) : eP s k = some ⟨x.data, 0⟩ := by
 unfold eP; rw [AJ h hm, hf, aq]; simp [List.getD_eq_getElem?_getD, hx]
theorem GX (k : UInt8) : sw (k.toNat : Int) 8 = some ((k.toNat % 8 : Nat) : Int) := by
 rw [Hw (by omega) (by omega)]; norm_cast
theorem LM (x : zBz) : slc x 0 (min (x.length : Int) 40) = some (x.take 40) := by
 rw [kJ (by omega)]; simp only [Int.toNat_zero, List.drop_zero, Option.some.injEq]; by_cases c : x.length <= 40
 ·rw [show (min (x.length : Int) 40).toNat = x.length by omega, List.take_length, List.take_of_length_le c]
 ·rw [show (min (x.length : Int) 40).toNat = 40 by omega]
theorem LV (n : Nat) : (bif ((n : Int) == 0) then some ((n : Int) == 0) else bif ((n : Int) == 1) then some ((n : Int) == 1) else bif ((n : Int) == 2) then some ((n : Int) == 2) else some ((n : Int) == 3)) = some (decide (n < 4)) := by
 by_cases a : n = 0
 ·subst a; rfl
 rw [qa (by omega), cond_false]; by_cases b : n = 1
 ·subst b; rfl
 rw [qa (by omega), cond_false]; by_cases c : n = 2
 ·subst c; rfl
 rw [qa (by omega), cond_false]; by_cases d : n = 3
 ·subst d; rfl
 rw [qa (by omega), decide_eq_false (by omega)]
theorem LW {n : Nat} (c : ¬ n < 4) : (bif ((n : Int) == 4) then some ((n : Int) == 4) else some ((n : Int) == 5)) = some (decide (n < 6)) := by
 by_cases a : n = 4
 ·subst a; rfl
 rw [qa (by omega), cond_false]; by_cases b : n = 5
 ·subst b; rfl
 rw [qa (by omega), decide_eq_false (by omega)]
theorem FO {m : Nat} {s : Sto} (h : SInv m s) (hm : m <= 256) (x : SRaw) : fm s x = some (oR s x) := by
 obtain ⟨h1, h2, h3⟩ := h.small hm; have hl : (x.data.take 40).length <= 40 := by simp; omega
 unfold fm oR; rw [LM, aq, GX, aq]; generalize x.kind.toNat % 8 = n; rw [LV, aq]; by_cases c : n < 4
 ·rw [decide_eq_true c, cond_true, if_pos c, Hz h hm (by omega), aq]
 rw [decide_eq_false c, cond_false, if_neg c]; rw [LW c, aq]; by_cases c6 : n < 6
 ·rw [decide_eq_true c6, cond_true, if_pos c6, yk (by omega), aq, JO h hm, aq]
 rw [decide_eq_false c6, cond_false, if_neg c6]; by_cases c7 : n = 6
 ·subst c7; rw [qb (show ((6 : Nat) : Int) = 6 from rfl), cond_true, if_pos rfl, FP h hm, aq]
 ·rw [qa (by omega), cond_false, if_neg c7, DI _ (by omega) h3, aq]
theorem DE (l : List SRaw) {n : Nat} {x : SRaw} (hx : l[n]? = some x) : gi l (n + 1) = oR (gi l n) x := by
 unfold gi; rw [List.take_add_one, hx]; simp
theorem Hr (l : List SRaw) (n : Nat) (hn : n <= 250) : fi l (n : Int) = some (gi l n) := by
 unfold fi; have h2 : cP (en l (n : Int)) (0, [], [], []) = some ((gi l n).objects, (gi l n).safe, (gi l n).queue) := by
  have hmin : ∀ k, k = min l.length n -> gi l k = gi l n := fun k hk => by
   unfold gi; by_cases c : l.length <= n
   ·rw [hk, Nat.min_eq_left c, List.take_length, List.take_of_length_le c]
   ·rw [hk, Nat.min_eq_right (by omega)]
  have := kC (body := en l (n : Int)) (fun i => ((i : Int), (gi l i).objects, (gi l i).safe, (gi l i).queue)) (min l.length n) (e := ((gi l n).objects, (gi l n).safe, (gi l n).queue)) (fun i hi => by
   have hx : l[i]? = some (l[i]'(by omega)) := List.getElem?_eq_getElem _; generalize l[i]'(by omega) = x at hx; unfold en; simp only; rw [gc (by omega), cond_true, gc (by omega), cond_true, er, hx, aq, Kd, FO (zV l i (by omega)) (by omega), aq, bQ (by omega), aq, DE l hx]; rfl) (by
   unfold en; simp only; rw [hmin _ rfl]; by_cases c : l.length <= n
   ·rw [Nat.min_eq_left c, gn (by omega), cond_false]
   ·rw [Nat.min_eq_right (by omega), gc (by omega), cond_true, gn (by omega), cond_false])
  exact this
 rw [h2, aq]
end
section
section
variable {P : Program} {G : zGz} {N : Nat} {F : Fr} {ops rest : zOz} {o : Oper} {Q : zQz} {h : zHz} {env : zEz} {nx : Nat} {st : St} {μ : zMz} {C : aw} {a : Act} {w w' : World}
structure Marked (b : Nat) (w w' : World) : Prop where
 os : w'.os = w.os
 tape : w'.tape = w.tape
 output : w'.output = w.output
 size : w'.heap.size = w.heap.size
 block : ∀ k, k ≠ b -> w'.heap[k]? = w.heap[k]?
 cell : ∀ k o, w'.cell? ⟨k, o, none⟩ = w.cell? ⟨k, o, none⟩
theorem yI (w : World) (b m : Nat) {cur : Array Value} {T : TypeId} (hb : w.heap[b]? = some (.cells cur T (0, 0))) : Marked b w (w.freeze ⟨b, m, none⟩ 1) := by
 have hh : ∀ k, (w.freeze ⟨b, m, none⟩ 1).heap[k]? = if k = b then some (.cells cur T (m, m + 1)) else w.heap[k]? := by
  intro k; unfold World.freeze; rw [if_neg (by decide)]; simp only [Array.getElem?_modify]; by_cases e : k = b
  ·subst e; simp [hb]
  ·simp [e, Ne.symm e]
 refine ⟨?_, ?_, ?_, ?_, fun k hk => by rw [hh, if_neg hk], fun k o => ?_⟩
 ·unfold World.freeze; rw [if_neg (by decide)]
 ·unfold World.freeze; rw [if_neg (by decide)]
 ·unfold World.freeze; rw [if_neg (by decide)]
 ·unfold World.freeze; rw [if_neg (by decide)]; simp
 ·simp only [World.cell?, hh]; by_cases e : k = b
  ·subst e; simp [hb]
  ·simp [e]
theorem Sim.mark {l : Nat} {k : Blk} {p : Place} (rows : zRz) (hs : Sim F st μ C a w) (hk : look st.h l = some k) (hr : k.rows = rows.map fun r => r.map V.d) (hp : μ l = some p) (hc : 0 < p.cap) (hw : Marked p.b w w') :
  ∃ C', (∀ b o u, C b o u -> C' b o u) /\ (∀ y v, ax μ C y v -> ax μ C' (bf l k.sz rows y) v) /\ Sim F ⟨cR l k.sz rows st.env, bL l st.h, st.nx⟩ μ C' a w' := by
 obtain ⟨p', hp', hb⟩ := hs.heap l k hk; rw [hp] at hp'; cases hp'; have hrow : ∀ x ∈ rows, x.length = k.sz := by
  intro x hx; have := hb.row (x.map V.d) (by rw [hr]; exact List.mem_map.2 ⟨x, hx, rfl⟩); simpa using this
 have hlen : rows.length <= p.cap := by have := hb.len; rw [hr] at this; simpa using this
 obtain ⟨b1, b2, cur, T, b3, b4, b5⟩ := hb.cells hc; have hkm : k.isMap = false := by
  have := fa k.sz rows; rw [<- hr] at this; exact this
 rw [hkm] at b3; have b3 := b3.cells; have k1 : ∀ b o u, C b o u -> lc C p.b cur b o u := fun _ _ _ h => .inl h
 have hne : ∀ b o u, C b o u -> b ≠ p.b := fun b o u h e => b2 o u (e ▸ h)
 have hcell : ∀ b o, b ≠ p.b -> w'.cell? ⟨b, o, none⟩ = w.cell? ⟨b, o, none⟩ := fun b o _ => hw.cell b o
 have k3 : bG (lc C p.b cur) w' := fun b o u h => by
  rcases h with h | ⟨rfl, h⟩
  ·have hb := hne _ _ _ h; rcases hs.known b o u h with h | h
   ·left; rw [hcell _ _ hb]; exact h
   ·right; obtain ⟨es, c, h1, h2⟩ := h; exact ⟨es, c, by rw [hw.block _ hb]; exact h1, h2⟩
  ·left; rw [hw.cell, cell_of_row w p.b o _ _ _ b3]; exact h
 have k4 : 0 < p.cap -> ∀ (i : Nat) (r : List D), rows[i]? = some r -> Rp (lc C p.b cur) (.mem r p.b (i * p.sz)) := fun _ i r hi => by
  refine ia fun j d hj => ?_
  have h1 : k.rows[i]? = some (r.map V.d) := by rw [hr]; simp [hi]
  obtain ⟨u, a1, a2, a3⟩ := b5 i _ h1 j (.d d) (by simp [hj]); exact ⟨u, .inr ⟨rfl, by rw [hb.sz]; simpa using a1⟩, a2, Rp.mono (fun _ _ _ h => .inl h) a3⟩
 have hrep : ∀ y v, ax μ C y v -> ax μ (lc C p.b cur) (bf l k.sz rows y) v := fun y v hy => wJ hp hb hrow hlen k1 k4 hy
 have hsz := hw.size; refine ⟨lc C p.b cur, k1, hrep, ⟨hs.size, ?_, ⟨by rw [hw.os]; exact hs.below.os, by rw [hw.tape]; exact hs.below.tape, by rw [hw.output]; exact hs.below.output, by rw [hsz]; exact hs.below.size, fun b hlt hn => ?_⟩, fun b o u h => k1 _ _ _ (hs.sub _ _ _ h), fun b o u h => ?_, k3, fun t x hx => ?_, fun l' k' hk' => ?_, fun l1 l2 p1 p2 h1 h2 => ?_, hs.nx, ?_⟩⟩
 ·refine hs.defers.step fun q _ hq => ?_
  have : q ≠ p.b := fun e => by rw [e, b3] at hq; cases hq
  rw [hw.block _ this]; exact hq
 ·have : b ≠ p.b := fun e => by
   subst e; rcases b1 with h | h
   ·omega
   ·exact hn h
  rw [hw.block _ this]; exact hs.below.block b hlt hn
 ·rcases h with h | ⟨rfl, _⟩
  ·exact hs.new _ _ _ h
  ·exact .inr b1
 ·rw [ju] at hx; cases hl : look st.env t with
  | none => rw [hl] at hx; cases hx
  | some y =>
   rw [hl] at hx; cases hx; exact hrep _ _ (hs.env t y hl)
 ·rw [dM] at hk'; split at hk'
  ·cases hk'
  ·rename_i hne'; obtain ⟨p', hp', hb'⟩ := hs.heap l' k' hk'; refine ⟨p', hp', hb'.sz, hb'.len, hb'.max, hb'.row, fun hc' => ?_⟩; obtain ⟨c1, c2, cur2, T2, c3, c4, c5⟩ := hb'.cells hc'; have hpb : p'.b ≠ p.b := fun e => hne' (hs.inj l' l p' p (by rw [hk']; rfl) (by rw [hk]; rfl) hp' hp hc' hc e)
   refine ⟨c1, fun o u hcu => ?_, cur2, T2, c3.of_eq (hw.block _ hpb), c4, c5.mono (fun _ _ h => h) k1⟩; rcases hcu with h | ⟨e, _⟩
   ·exact c2 o u h
   ·exact hpb e
 ·simp only [dM] at h1 h2; split at h1
  ·cases h1
  ·split at h2
   ·cases h2
   ·exact hs.inj l1 l2 p1 p2 h1 h2
 ·refine F.stab hs.gh ⟨hw.os, hw.tape, hw.output, by rw [hsz]; exact Nat.le_refl _, fun _ _ _ h => h, fun j hj => .inl (by simp only [dM] at hj; split at hj <;> first | cases hj | exact hj), fun b hb hn => ?_, fun b ⟨l', k', q, g1, g2⟩ => .inl ?_, k1, fun b o u h => ?_, k3⟩
  ·refine hw.block b fun e => hn ⟨l, k, p, hk, hp, hc, e.symm⟩
  ·rw [dM] at g1; split at g1
   ·cases g1
   ·exact ⟨l', k', q, g1, g2⟩
  ·rcases h with h | ⟨rfl, _⟩
   ·exact .inl h
   ·exact .inr (.inl ⟨l, k, p, hk, hp, hc, rfl⟩)
theorem SmG.mark (hF : Env F P G N) {t e : TypeId} {x : Operand} {l : Nat} {rows : zRz} {d : Tmp} (ho : o.op = .convert t t x) (hd : o.dst = some d) (hdN : Nat.blt d N = true) (hg : aC ops env o.guard = some true) (hx : evB G env x = some (.sref l 0 rows.length)) (hk : af h l = some (dB 1 rows)) (hne : rows ≠ [])
  (h1 : P.underlying t = some (.slice e)) (h2 : P.underlying e = some (.int .u8)) (k : SmG F N ops rest Q ⟨(d, .d (.list 1 rows false)) :: cR l 1 rows env, bL l h, nx⟩) : SmG F N ops (o :: rest) Q ⟨env, h, nx⟩ := by
 have hdN' : d < N := by simpa [Nat.blt_eq] using hdN
 rw [aL] at hk; rw [aT] at hx; intro hsm μ C a w hs; have hsm2 : St.small N ⟨(d, .d (.list 1 rows false)) :: cR l 1 rows env, bL l h, nx⟩ := by
  refine bJ (env := cR l 1 rows env) (h := bL l h) (nx := nx) ?_ hdN'; intro s y hy; simp only [ju] at hy; cases hq : look env s with
  | none => rw [hq] at hy; cases hy
  | some y' => exact hsm s y' hq
 have k2 := k hsm2; obtain ⟨rfl, rfl, hG⟩ := hF; refine cb (fun _ c e => by rw [ho] at e; cases e) fun K hK => ?_
 rw [bI hs (aN hg) hsm, if_pos rfl]; have hxv := bW hs hG hx; obtain ⟨p, ao, hp, hv, hle, hao⟩ := hxv; obtain ⟨p', hp', hb⟩ := hs.heap l _ hk; rw [hp] at hp'; cases hp'; have hpos : 0 < rows.length := List.length_pos_iff.2 hne; have hc : 0 < p.cap := by omega
 obtain rfl := hao hc; obtain ⟨b1, b2, cur, T, b3, b4, b5⟩ := hb.cells hc; have hkm : (dB 1 rows).isMap = false := fa 1 rows; rw [hkm] at b3; have b3 := b3.cells; have hM := yI w p.b cur.size b3; obtain ⟨C', hsub, hrep, hsim⟩ := Sim.mark (k := dB 1 rows) rows hs hk rfl hp hc hM; have hr : ax μ C' (.d (.list 1 rows false)) (a.eval x) := by
  have := hrep _ _ (bW hs hG hx); rw [show (dB 1 rows).sz = 1 from rfl, xN] at this; exact this
 have hsh : w.shape? p.b = some (T, cur.size) := by unfold World.shape?; rw [b3]
 have hz : 0 * p.sz = 0 := by omega
 have hex : (execOp a.eval o).run F.P w = .ok (.value (a.eval x)) (w.freeze ⟨p.b, cur.size, none⟩ 1) := by
  rw [rS ho, hv]; simp [convert, Sem.run_bind, run_underlying h1, run_underlying h2, markStringish, hsh, Result.andThen_ok]
 unfold Oper.wp; rw [hex, Oper.upon_value, hd]; exact hK _ _ (k2 μ C' _ _ (hsim.put hdN' hr))
end
end
section
theorem nb (x : Std) : (Std.row x).length = 36 := by simp [Std.row, cQ x.k.h]
theorem ud {t : TypeId} {n m off : Nat} {R S : List D} {h : zHz} {l : Nat} (hl : look h l = some ⟨n, [R.map V.d]⟩) (ha : bh Tryd.prog t = some true) (hs : az Tryd.prog t = some m) (hR : R.length = n) (hle : off + m <= n) (hS : (R.drop off).take m = S) : aX Tryd.prog h t (.ref l 0 off) = some (.d (.agg m S)) := by
 have hsg : seg (R.map V.d) n off m = S.map V.d := by
  unfold seg; split
  ·rename_i e; obtain ⟨rfl, rfl⟩ := e; rw [<- hS, List.drop_zero, <- hR, List.take_length]
  ·rw [<- List.map_drop, <- List.map_take, hS]
 have hp : bv (S.map V.d) = some S := gK _; simp only [aX, hl, Option.bind_some, List.getElem?_cons_zero, cj, ha, hs, hsg, hp, hle]; rfl
theorem oy {t : TypeId} {n off : Nat} {R : List D} {y : D} {h : zHz} {l : Nat} (hl : look h l = some ⟨n, [R.map V.d]⟩) (ha : bh Tryd.prog t = some false) (hy : R[off]? = some y) : aX Tryd.prog h t (.ref l 0 off) = some (.d y) := by
 simp only [aX, hl, Option.bind_some, List.getElem?_cons_zero, cj, ha, List.getElem?_map, hy, Option.map_some]
theorem Ac {h : zHz} {l : Nat} {x : Std} (hl : look h l = some ⟨36, [(Std.row x).map V.d]⟩) : aX Tryd.prog h 45 (.ref l 0 0) = some (.d (.agg 36 (Std.row x))) := ud hl Kp Lo (nb x) (by decide) (by rw [List.drop_zero, List.take_of_length_le (by rw [nb]; decide)])
theorem dZ {h : zHz} {l : Nat} {x : Std} (hl : look h l = some ⟨36, [(Std.row x).map V.d]⟩) : aX Tryd.prog h 27 (.ref l 0 0) = some (.d (.agg 3 (Sto.row x.s))) := ud hl oY iN (nb x) (by decide) (by simp [Std.row, Sto.row])
theorem iJ {h : zHz} {l : Nat} {x : Std} (hl : look h l = some ⟨36, [(Std.row x).map V.d]⟩) : aX Tryd.prog h 42 (.ref l 0 3) = some (.d (.agg 32 (ay x.k.l))) := ud hl oZ pp (nb x) (by decide) (by simp [Std.row, cQ x.k.h])
theorem vr {h : zHz} {l : Nat} {x : Std} (hl : look h l = some ⟨36, [(Std.row x).map V.d]⟩) : aX Tryd.prog h 43 (.ref l 0 35) = some (.d (.v (.int .i64 x.e))) := oy hl Ko (by
 have := cQ x.k.h; have h2 : ∀ (y : D) (r : List D), r.length = 32 -> (D.list 33 (x.s.objects.map Ob.row) false :: D.list 1 (x.s.safe.map av) false :: D.list 1 (x.s.queue.map av) false :: (r ++ [y]))[35]? = some y := fun y r hr => by
  simp only [List.getElem?_cons_succ]; rw [List.getElem?_append_right (by omega), hr]; rfl
 exact h2 _ _ this)
theorem Du {h : zHz} {l : Nat} {x : Std} (hl : look h l = some ⟨36, [(Std.row x).map V.d]⟩) : aX Tryd.prog h 24 (.ref l 0 0) = some (.d (.list 33 (x.s.objects.map Ob.row) false)) := oy hl tP rfl
theorem vu {h : zHz} {l : Nat} {x : Std} (hl : look h l = some ⟨36, [(Std.row x).map V.d]⟩) : aX Tryd.prog h 25 (.ref l 0 2) = some (.d (.list 1 (x.s.queue.map av) false)) := oy hl pY rfl
theorem vv {h : zHz} {l : Nat} {x : Sto} (hl : look h l = some ⟨3, [(Sto.row x).map V.d]⟩) : aX Tryd.prog h 24 (.ref l 0 0) = some (.d (.list 33 (x.objects.map Ob.row) false)) := oy hl tP rfl
theorem xW (s : Sto) (x : zBz) : (dh s x).1.safe = s.safe /\ ∃ r, (dh s x).1.queue = s.queue ++ r := by
 by_cases c : 65536 < x.length
 ·rw [Aq s c]; exact ⟨rfl, [], by simp⟩
 cases hf : aM s.objects (Sha.sum x) with
 | some i => rw [kF s c hf]; exact ⟨rfl, [], by simp⟩
 | none =>
  by_cases c2 : 256 <= s.objects.length
  ·rw [xV s c hf c2]; exact ⟨rfl, [], by simp⟩
  ·rw [jx s c hf (by omega)]; exact ⟨rfl, _, rfl⟩
theorem KP (s : Sto) {x : zBz} (hx : x.length <= 65536) (ho : s.objects.length < 256) : (dh s x).2.1 = cC x /\ (dh s x).2.2 = 0 := by
 cases hf : aM s.objects (Sha.sum x) with
 | some i => rw [kF s (by omega) hf]; exact ⟨rfl, rfl⟩
 | none => rw [jx s (by omega) hf (by omega)]; exact ⟨rfl, rfl⟩
theorem JL (P : Program) (t : TypeId) (x y : Operand) (l : zBz) : aD P (do eqGuard .eql t x y (.string ⟨l.toArray⟩) (.string ⟨l.toArray⟩); binOp .eql t (.string ⟨l.toArray⟩) (.string ⟨l.toArray⟩)) = some (.bool true) := by
 rw [Ck]; simp
set_option maxHeartbeats 8000000 in
theorem HR : aj Tryd.prog HG 10 [] (.v (.bool true)) := by
 have f0 : aM mO.objects (Sha.sum [97]) = none := rfl; obtain ⟨A, hAe⟩ : ∃ A : Std, A = ⟨(dh mO [97]).1, (dh mO [97]).2.1, (dh mO [97]).2.2⟩ := ⟨_, rfl⟩
 have hAq : A = ⟨⟨[⟨cC [97], [97]⟩], [], [iK 0 [97]]⟩, cC [97], 0⟩ := by rw [hAe, jx _ (by decide) f0 (by decide)]; rfl
 have hAs : A.s = ⟨[⟨cC [97], [97]⟩], [], [iK 0 [97]]⟩ := by rw [hAq]
 have hAk : A.k = cC [97] := by rw [hAq]
 have hA0 : A.e = 0 := by rw [hAq]
 have iA : SInv 1 A.s := by rw [hAe]; exact GT.put (by decide) (by decide)
 have hNew : aj Tryd.prog HG 11 [] (.agg 3 (Sto.row mO)) := yz.d rfl () mO rfl; have hA : aj Tryd.prog HG 20 [.agg 3 (Sto.row mO), .list 1 (([97] : zBz).map ai) false] (.agg 36 (Std.row A)) := dU.d rfl (mO, ([97] : zBz)) A (by rw [hAe]; exact iM GT (by decide) (x := [97]) (by decide)); have fA : aM A.s.objects (Sha.sum [97]) = some 0 := by rw [hAs]; simp [aM, cC]
 have hA2 : aj Tryd.prog HG 20 [.agg 3 (Sto.row A.s), .list 1 (([97] : zBz).map ai) false] (.agg 36 (Std.row A)) := dU.d rfl (A.s, ([97] : zBz)) A (by
  show cE A.s [97] = _; rw [iM iA (by decide) (by decide), kF _ (by decide) fA]; exact congrArg some (by rw [hAq]))
 have hSy : aj Tryd.prog HG 27 [.agg 3 (Sto.row A.s)] (.agg 3 (Sto.row (gD A.s))) := wE.d rfl A.s _ (Gc iA (by decide)); have iS := iA.sync; obtain ⟨B, hBe⟩ : ∃ B : Std, B = ⟨(dh (gD A.s) [98]).1, (dh (gD A.s) [98]).2.1, (dh (gD A.s) [98]).2.2⟩ := ⟨_, rfl⟩
 have iB : SInv 2 B.s := by rw [hBe]; exact iS.put (by decide) (by decide)
 have hB : aj Tryd.prog HG 20 [.agg 3 (Sto.row (gD A.s)), .list 1 (([98] : zBz).map ai) false] (.agg 36 (Std.row B)) := dU.d rfl (gD A.s, ([98] : zBz)) B (by rw [hBe]; exact iM iS (by decide) (x := [98]) (by decide)); obtain ⟨Cc, hCe⟩ : ∃ C : Std, C = ⟨(dh A.s [98]).1, (dh A.s [98]).2.1, (dh A.s [98]).2.2⟩ := ⟨_, rfl⟩
 have iC : SInv 2 Cc.s := by rw [hCe]; exact iA.put (by decide) (by decide)
 have hC : aj Tryd.prog HG 20 [.agg 3 (Sto.row A.s), .list 1 (([98] : zBz).map ai) false] (.agg 36 (Std.row Cc)) := dU.d rfl (A.s, ([98] : zBz)) Cc (by rw [hCe]; exact iM iA (by decide) (x := [98]) (by decide)); have hRA : aj Tryd.prog HG 13 [.agg 3 (Sto.row A.s)] (.v (.bool true)) := fw.d rfl A.s true (lF iA (by decide)); have hRB : aj Tryd.prog HG 13 [.agg 3 (Sto.row B.s)] (.v (.bool true)) := fw.d rfl B.s true (lF iB (by decide)); have hRC : aj Tryd.prog HG 13 [.agg 3 (Sto.row Cc.s)] (.v (.bool true)) := fw.d rfl Cc.s true (lF iC (by decide)); obtain ⟨E, hEe⟩ : ∃ E : Std, E = ⟨evF A.s A.k, ⟨List.replicate 32 0, rfl⟩, if aM A.s.objects A.k.l = none then 331 else 0⟩ := ⟨_, rfl⟩
 have fA2 : aM A.s.objects A.k.l = some 0 := by rw [hAk]; exact fA
 have hEq : E = ⟨⟨[], [], [iK 0 [97], mN 1 A.k.l]⟩, ⟨List.replicate 32 0, rfl⟩, 0⟩ := by
  rw [hEe, fA2, if_neg (by simp)]; unfold evF; rw [fA2, hAs]; rfl
 have iE : SInv 2 E.s := by rw [hEe]; exact iA.evict _ (by decide)
 have hE : aj Tryd.prog HG 23 [.agg 3 (Sto.row A.s), .agg 32 (ay A.k.l)] (.agg 36 (Std.row E)) := jT.d rfl (A.s, A.k) E (by rw [hEe]; exact tD iA (by decide) _); have hSS : aj Tryd.prog HG 29 [.agg 36 (Std.row A), .agg 36 (Std.row A)] (.v (.bool true)) := iQ.d rfl (A, A) true (oQ (by rw [hAs]; decide) (by rw [hAs]; decide) (by rw [hAs]; decide)); obtain ⟨O1, hO1e⟩ : ∃ O, O = ml B.s [] := ⟨_, rfl⟩
 have hO1l : O1.objects.length = 1 := by
  have h1 : (B.s.safe ++ cX B.s.queue []) = [iK 0 [97]] := by
   have : B.s.safe = [iK 0 [97]] := by rw [hBe]; rw [(xW _ _).1, hAs]; rfl
   rw [this]; cases B.s.queue <;> rfl
  have h2 := iS.good.open; have h3 : dg (gD A.s) = [iK 0 [97]] := by rw [hAs]; rfl
  rw [h3] at h2; rw [hO1e, ml, h1, h2, hAs]; rfl
 have hO1 : aj Tryd.prog HG 25 [.agg 3 (Sto.row B.s), .list 0 [] true] (.agg 3 (Sto.row O1)) :=
  (ol.d rfl (B.s, []) O1 (by rw [hO1e]; exact vX _ (iB.small (by decide)).2.1 (iB.small (by decide)).2.2)).args fun C => fV (D.le.refl _) (fV (ck 0 1 true) fun _ h => h)
 obtain ⟨O2, hO2e⟩ : ∃ O, O = ml Cc.s [false, true] := ⟨_, rfl⟩
 have hO2l : O2.objects.length = 0 := by
  obtain ⟨c1, r, c2⟩ := xW A.s [98]; have h1 : Cc.s.safe = [] := by rw [hCe]; rw [c1, hAs]
  have h2 : Cc.s.queue = iK 0 [97] :: r := by rw [hCe]; rw [c2, hAs]; rfl
  have hg := iC.good; have hall : dg Cc.s = iK 0 [97] :: r := by simp [dg, h1, h2]
  unfold nY at hg; rw [hall] at hg; rw [hO2e, ml, h1, h2, List.nil_append]; cases r with
  | nil => rfl
  | cons y r =>
   obtain ⟨o1, o2, g1, g2⟩ := Ji (i := 1) (b := y) hg rfl; have : cX (iK 0 [97] :: y :: r) [false, true] = [y] := by simp [cX]
   rw [this, da]; cases hy : bw [] ([] : List zBz).length y with
   | none => rfl
   | some o => exact absurd (CM hy g2) (by decide)
 have hO2 : aj Tryd.prog HG 25 [.agg 3 (Sto.row Cc.s), .list 1 [[.v (.bool false)], [.v (.bool true)]] true] (.agg 3 (Sto.row O2)) :=
  (ol.d rfl (Cc.s, [false, true]) O2 (by rw [hO2e]; exact vX _ (iC.small (by decide)).2.1 (iC.small (by decide)).2.2)).args fun C => fV (D.le.refl _) (fV (rB 1 _ true) fun _ h => h)
 have hG1 : aj Tryd.prog HG 22 [.agg 3 (Sto.row E.s), .agg 32 (ay A.k.l)] (.agg 2 (Gott.row ⟨[], 331⟩)) := lL.d rfl (E.s, A.k) _ (GR iE (by decide) (by rw [hEq]; rfl)); have hG2 : aj Tryd.prog HG 22 [.agg 3 (Sto.row A.s), .agg 32 (ay A.k.l)] (.agg 2 (Gott.row ⟨[97], 0⟩)) := lL.d rfl (A.s, A.k) _ (GS iA (by decide) fA2 (x := ⟨cC [97], [97]⟩) (by rw [hAs]; rfl)); have hSum : aj Tryd.prog HG 21 [.list 1 (([97] : zBz).map ai) false] (.agg 32 (ay A.k.l)) := by
  rw [hAk]; exact wd [97] (by decide)
 have hS1 : aj Tryd.prog HG 14 [.agg 3 (Sto.row A.s)] (.v (.bool true)) := oq.d rfl A.s true (DR iA (by decide)); have hS2 : aj Tryd.prog HG 14 [.agg 3 [.list 33 [ay (List.replicate 32 0) ++ [.list 0 [] true]] false, .list 0 [] true, .list 0 [] true]] (.v (.bool false)) := by
  have hz : fE ⟨[⟨⟨List.replicate 32 0, rfl⟩, []⟩], [], []⟩ = some false := by
   unfold fE; rw [iz _ (by decide) (by decide), aq]; simp only [List.flatten_cons, List.flatten_nil, List.append_nil]; rw [uj (by simp), aq]; simp only [da]; rw [qb rfl, cond_true]; exact fU ((uU [] _ (by decide) (by simp)).trans (by simp))
  refine (oq.d rfl (⟨[⟨⟨List.replicate 32 0, rfl⟩, []⟩], [], []⟩ : Sto) false hz).args fun C => fV ?_ fun _ h => h
  refine fW ⟨?_, ck 0 1 true, ck 0 1 true, trivial⟩; have hA : ∀ (r : List D), LeL (r ++ [.list 0 [] true]) (r ++ [.list 1 [] false]) := fun r => by
   induction r with
   | nil => exact .cons (ck 0 1 true) .nil
   | cons x r ih => exact .cons (D.le.refl x) ih
  exact xk (.cons (hA _) .nil)
 have hEo : E.s.objects.length = 0 := by rw [hEq]; rfl
 have hEl : E.s.queue.length = 2 := by rw [hEq]; rfl
 have hE0 : E.e = 0 := by rw [hEq]
 have hAl : A.s.queue.length = 1 := by rw [hAs]; rfl
 have hkl : A.k.l.length = 32 := A.k.h; clear hAe hAq hAs hAk hBe hCe hEe hEq hO1e hO2e iA iS iB iC iE fA fA2 f0; refine aj.of Tryd.func10 rfl Tryd.ntmps10 (by simp) ?_; intro F hF h0 hT; simp only [List.zipIdx_cons, List.zipIdx_nil, List.map_cons, List.map_nil, Nat.zero_add, Nat.reduceAdd]; refine Sm.seq ?_; refine ab hF rfl ?_; refine gv hF oA (SmG.nil (aa (Sm.seq ?_))); refine ab hF rfl ?_; refine SmG.call hF rfl rfl (by kernel_rfl) rfl rfl rfl (hNew) ?_; refine SmG.buildOwn hF rfl rfl rfl rfl rfl (sz := 1) (rows := ([97] : zBz).map ai) (by simp [bn, Tryd.underlying30, sz5, ze5]; rfl) (by simp) ?_; refine SmG.mark hF (rows := ([97] : zBz).map ai) rfl rfl rfl rfl rfl rfl (by simp) Tryd.underlying30 Tryd.underlying5 ?_; simp only [cR, bf, hO, dt, cA, bL, if_true, Nat.reduceEqDiff, if_false, Nat.zero_add, List.length_map, Nat.le_refl, and_self]; refine SmG.call hF rfl rfl (by kernel_rfl) rfl rfl rfl (hA) ?_; refine SmG.new hF rfl rfl rfl (aF rfl zl) ?_; refine SmG.store hF rfl rfl rfl rfl rfl (by simp only [go_sem, ac] <;> rfl) ?_; refine SmG.nil (aa (Sm.seq ?_)); refine ab hF rfl ?_; refine gv hF (ag rfl rfl (by simp only [go_sem, ac] <;> rfl)) ?_; refine gv hF (ae rfl rfl (dZ rfl)) ?_; refine SmG.buildOwn hF rfl rfl rfl rfl rfl (sz := 1) (rows := ([97] : zBz).map ai) (by simp [bn, Tryd.underlying30, sz5, ze5]; rfl) (by simp) ?_; refine SmG.mark hF (rows := ([97] : zBz).map ai) rfl rfl rfl rfl rfl rfl (by simp) Tryd.underlying30 Tryd.underlying5 ?_; simp only [cR, bf, hO, dt, cA, bL, if_true, Nat.reduceEqDiff, if_false, Nat.zero_add, List.length_map, Nat.le_refl, and_self]; refine SmG.call hF rfl rfl (by kernel_rfl) rfl rfl rfl (hA2) ?_; refine SmG.new hF rfl rfl rfl (aF rfl zl) ?_; refine SmG.store hF rfl rfl rfl rfl rfl (by simp only [go_sem, ac] <;> rfl) ?_; refine SmG.nil (aa (Sm.seq ?_)); refine ab hF rfl ?_; refine gv hF (ag rfl rfl (by simp only [go_sem, ac] <;> rfl)) ?_; refine gv hF (ae rfl rfl (dZ rfl)) ?_; refine SmG.call hF rfl rfl (by kernel_rfl) rfl rfl rfl (hSy) ?_
 refine SmG.buildOwn hF rfl rfl rfl rfl rfl (sz := 1) (rows := ([98] : zBz).map ai) (by simp [bn, Tryd.underlying30, sz5, ze5]; rfl) (by simp) ?_; refine SmG.mark hF (rows := ([98] : zBz).map ai) rfl rfl rfl rfl rfl rfl (by simp) Tryd.underlying30 Tryd.underlying5 ?_; simp only [cR, bf, hO, dt, cA, bL, if_true, Nat.reduceEqDiff, if_false, Nat.zero_add, List.length_map, Nat.le_refl, and_self]; refine SmG.call hF rfl rfl (by kernel_rfl) rfl rfl rfl (hB) ?_; refine SmG.new hF rfl rfl rfl (aF rfl zl) ?_; refine SmG.store hF rfl rfl rfl rfl rfl (by simp only [go_sem, ac] <;> rfl) ?_; refine SmG.nil (aa (Sm.seq ?_)); refine ab hF rfl ?_; refine gv hF (ag rfl rfl (by simp only [go_sem, ac] <;> rfl)) ?_; refine gv hF (ae rfl rfl (dZ rfl)) ?_; refine SmG.buildOwn hF rfl rfl rfl rfl rfl (sz := 1) (rows := ([98] : zBz).map ai) (by simp [bn, Tryd.underlying30, sz5, ze5]; rfl) (by simp) ?_; refine SmG.mark hF (rows := ([98] : zBz).map ai) rfl rfl rfl rfl rfl rfl (by simp) Tryd.underlying30 Tryd.underlying5 ?_; simp only [cR, bf, hO, dt, cA, bL, if_true, Nat.reduceEqDiff, if_false, Nat.zero_add, List.length_map, Nat.le_refl, and_self]; refine SmG.call hF rfl rfl (by kernel_rfl) rfl rfl rfl (hC) ?_; refine SmG.new hF rfl rfl rfl (aF rfl zl) ?_; refine SmG.store hF rfl rfl rfl rfl rfl (by simp only [go_sem, ac] <;> rfl) ?_; refine SmG.nil (aa (Sm.seq (Sm.seq ?_))); refine ab hF rfl ?_; refine gv hF (ag rfl rfl (by simp only [go_sem, ac] <;> rfl)) ?_; refine gv hF (ae rfl rfl (vr rfl)) ?_; refine gv hF (ah rfl rfl rfl (by exact jc _ _ _ _ _ (by omega))) ?_; refine gv hF oM ?_; refine gv hF (ag rfl rfl (by simp only [go_sem, ac] <;> rfl)) ?_; refine gv hF (ae rfl rfl (dZ rfl)) ?_; refine SmG.call hF rfl rfl (by kernel_rfl) rfl rfl rfl (hRA) ?_; refine gv hF (eM rfl rfl (by exact gj _)) ?_; refine gv hF (aU rfl rfl rfl) ?_; refine gv hF oM ?_; refine gv hF (ag rfl rfl (by simp only [go_sem, ac] <;> rfl)) ?_; refine gv hF (ae rfl rfl (dZ rfl)) ?_; refine SmG.call hF rfl rfl (by kernel_rfl) rfl rfl rfl (hRB) ?_
 refine gv hF (eM rfl rfl (by exact gj _)) ?_; refine gv hF (aU rfl rfl rfl) ?_; refine gv hF oM ?_; refine gv hF (ag rfl rfl (by simp only [go_sem, ac] <;> rfl)) ?_; refine gv hF (ae rfl rfl (dZ rfl)) ?_; refine SmG.call hF rfl rfl (by kernel_rfl) rfl rfl rfl (hRC) ?_; refine gv hF (eM rfl rfl (by exact gj _)) ?_; refine gv hF (aU rfl rfl rfl) ?_; refine SmG.nil (aa ?_); refine aS hF rfl ?_; refine Sm.skip ?_; refine aa (Sm.seq ?_); refine ab hF rfl ?_; refine gv hF (ag rfl rfl (by simp only [go_sem, ac] <;> rfl)) ?_; refine gv hF (ae rfl rfl (dZ rfl)) ?_; refine gv hF (ag rfl rfl (by simp only [go_sem, ac] <;> rfl)) ?_; refine gv hF (ae rfl rfl (iJ rfl)) ?_; refine SmG.call hF rfl rfl (by kernel_rfl) rfl rfl rfl (hE) ?_; refine SmG.new hF rfl rfl rfl (aF rfl zl) ?_; refine SmG.store hF rfl rfl rfl rfl rfl (by simp only [go_sem, ac] <;> rfl) ?_; refine SmG.nil (aa (Sm.seq ?_)); refine ab hF rfl ?_; refine gv hF (ag rfl rfl (by simp only [go_sem, ac] <;> rfl)) ?_; refine gv hF (ag rfl rfl (by simp only [go_sem, ac] <;> rfl)) ?_; refine gv hF (ae rfl rfl (vu rfl)) ?_; refine gv hF (aJ rfl rfl (by simp only [go_sem, ac] <;> rfl)) ?_; refine gv hF (ah rfl rfl rfl (by exact dR _ _ _ _ _ (by omega))) ?_; refine gv hF oM (gv hF (ae rfl rfl (Ac rfl)) (gv hF (ae rfl rfl (Ac rfl)) ?_)); refine SmG.call hF rfl rfl (by kernel_rfl) rfl rfl rfl (hSS) ?_; refine gv hF (aO rfl rfl rfl) ?_; refine gv hF oM ?_; refine gv hF (ag rfl rfl (by simp only [go_sem, ac] <;> rfl)) ?_; refine gv hF (ae rfl rfl (vr rfl)) ?_; refine gv hF (ah rfl rfl rfl (by exact dR _ _ _ _ _ (by omega))) ?_; refine gv hF (aO rfl rfl rfl) ?_; refine gv hF oM ?_; refine gv hF (ag rfl rfl (by simp only [go_sem, ac] <;> rfl)) ?_; refine gv hF (ag rfl rfl (by simp only [go_sem, ac] <;> rfl)) ?_; refine gv hF (ae rfl rfl (Du rfl)) ?_; refine gv hF (aJ rfl rfl (by simp only [go_sem, ac] <;> rfl)) ?_; refine gv hF (ah rfl rfl rfl (by exact dR _ _ _ _ _ (by omega))) ?_; refine gv hF (aO rfl rfl rfl) ?_; refine gv hF oM ?_
 refine gv hF (ag rfl rfl (by simp only [go_sem, ac] <;> rfl)) ?_; refine gv hF (ag rfl rfl (by simp only [go_sem, ac] <;> rfl)) ?_; refine gv hF (ae rfl rfl (vu rfl)) ?_; refine gv hF (aJ rfl rfl (by simp only [go_sem, ac] <;> rfl)) ?_; refine gv hF (ah rfl rfl rfl (by exact dR _ _ _ _ _ (by omega))) ?_; refine gv hF (aO rfl rfl rfl) ?_; refine gv hF oA (SmG.nil (aa (Sm.seq ?_))); refine eW hF (by kernel_rfl) rfl 9 (by kernel_rfl) (by kernel_rfl) ?_; simp only [List.take_succ_cons, List.take_zero, List.take_nil]; refine hv hF (ag rfl rfl (by simp only [go_sem, ac] <;> rfl)) ?_; refine hv hF (ae rfl rfl (dZ rfl)) ?_; refine au.c hF rfl rfl (by kernel_rfl) rfl rfl rfl (hO1) ?_; refine hv hF (ag rfl rfl (by simp only [go_sem, ac] <;> rfl)) ?_; refine hv hF (ae rfl rfl (dZ rfl)) ?_; refine hv hF (bc rfl rfl (by simp only [go_sem, ac] <;> rfl)) ?_; refine au.c hF rfl rfl (by kernel_rfl) rfl rfl rfl (hO2) ?_; refine au.new hF rfl rfl rfl rfl mz ?_; refine au.new hF rfl rfl rfl rfl mz ?_; refine au.last ⟨rfl, ?_⟩; simp only [List.drop_succ_cons, List.drop_zero, List.drop_nil, List.nil_append, List.cons_append]; refine SmG.store hF rfl rfl rfl rfl rfl (by simp only [go_sem, ac] <;> rfl) ?_; refine SmG.store hF rfl rfl rfl rfl rfl (by simp only [go_sem, ac] <;> rfl) ?_; refine SmG.nil (aa (Sm.seq ?_)); refine Sm.to (cV (st' := ⟨[(6, .d (.v (.bool true))), (1, .ref 1 0 0), (5, .ref 8 0 0), (7, .ref 9 0 0), (8, .ref 10 0 0)], [(1, ⟨36, [(Std.row A).map V.d]⟩), (8, ⟨36, [(Std.row E).map V.d]⟩), (9, ⟨3, [(Sto.row O1).map V.d]⟩), (10, ⟨3, [(Sto.row O2).map V.d]⟩)], 11⟩) (aK ⟨rfl, rfl, rfl, rfl, rfl, trivial⟩ ⟨rfl, rfl, rfl, rfl, trivial⟩ (Nat.le_refl _))) ?_; clear hA hA2 hSy hB hC hRA hRB hRC hE hSS hO1 hO2 hNew; refine dD hF rfl ?_; refine ik hF rfl 0 21 (by kernel_rfl) ?_; simp only [List.take_succ_cons, List.take_zero, List.take_nil, List.drop_succ_cons, List.drop_zero, Nat.reduceSub]; refine hv hF oM (hv hF oM ?_); refine hv hF (ag rfl rfl (by simp only [go_sem, ac] <;> rfl)) ?_
 refine hv hF (ae rfl rfl (dZ rfl)) ?_; refine hv hF (ag rfl rfl (by simp only [go_sem, ac] <;> rfl)) ?_; refine hv hF (ae rfl rfl (iJ rfl)) ?_; refine au.c hF rfl rfl (by kernel_rfl) rfl rfl rfl (hG1) ?_; refine hv hF (se rfl rfl (by simp only [go_sem, ac] <;> rfl)) ?_; refine hv hF (ah rfl rfl rfl (by exact my _ _ _ _ _ _ _)) ?_; refine hv hF (aO rfl rfl rfl) ?_; refine hv hF oM ?_; refine hv hF (ag rfl rfl (by simp only [go_sem, ac] <;> rfl)) ?_; refine hv hF (ae rfl rfl (dZ rfl)) ?_; refine hv hF (ag rfl rfl (by simp only [go_sem, ac] <;> rfl)) ?_; refine hv hF (ae rfl rfl (iJ rfl)) ?_; refine au.c hF rfl rfl (by kernel_rfl) rfl rfl rfl (hG2) ?_; refine hv hF (se rfl rfl (by simp only [go_sem, ac] <;> rfl)) ?_; refine hv hF (cB rfl rfl (wB (l := [97]) Tryd.underlying30 Tryd.underlying9 Tryd.underlying5)) (hv hF (ah rfl rfl rfl (JL _ _ _ _ [97])) ?_); refine hv hF (aO rfl rfl rfl) ?_; refine hv hF oM ?_; refine au.last ?_; simp only [List.nil_append, List.cons_append]; refine pq (n := 31) rfl rfl ?_; refine cu (n' := 26) (ls' := List.replicate 26 true ++ List.replicate 26 false) ?s1_5 ?h1_5 (fun r1_5 => ?k1_5)
 case' k1_5 => refine cu (n' := 27) (ls' := List.replicate 25 true ++ List.replicate 27 false) ?s1_4 ?h1_4 (fun r1_4 => ?k1_4)
 case' k1_4 => refine cu (n' := 27) (ls' := List.replicate 22 true ++ [false, true, true, true] ++ List.replicate 26 false) ?s1_3 ?h1_3 (fun r1_3 => ?k1_3)
 case' k1_3 => refine cu (n' := 28) (ls' := List.replicate 24 true ++ List.replicate 28 false) ?s1_2 ?h1_2 (fun r1_2 => ?k1_2)
 case' k1_2 => refine cu (n' := 28) (ls' := List.replicate 22 true ++ [false, true, true] ++ List.replicate 27 false) ?s1_1 ?h1_1 (fun r1_1 => ?k1_1)
 case' k1_1 => refine cu (n' := 29) (ls' := List.replicate 22 true ++ [false, true] ++ List.replicate 28 false) ?s1_0 ?h1_0 (fun r1_0 => ?k1_0)
 case k1_0 =>
  refine SmM.step hF [21, 23] rfl (by kernel_rfl) rfl ⟨⟨_, rfl, ?_⟩, ⟨_, rfl, ?_⟩, trivial⟩
  ·refine gv hF (ag rfl rfl (by simp only [go_sem, ac] <;> rfl)) ?_; refine SmG.nil (aa ?_); refine SmM.step hF [22, 23] rfl (by kernel_rfl) rfl ⟨⟨_, rfl, ?_⟩, ⟨_, rfl, ?_⟩, trivial⟩
   ·refine gv hF (ae rfl rfl (iJ rfl)) (SmG.nil (aa ?_)); refine SmM.step hF [23] rfl (by kernel_rfl) rfl ⟨⟨_, rfl, ?_⟩, trivial⟩; refine SmG.buildOwn hF rfl rfl rfl rfl rfl (sz := 1) (rows := ([97] : zBz).map ai) (by simp [bn, Tryd.underlying30, sz5, ze5]; rfl) (by simp) ?_; refine SmG.nil (aa ?_); exact r1_2
   ·refine SmG.buildOwn hF rfl rfl rfl rfl rfl (sz := 1) (rows := ([97] : zBz).map ai) (by simp [bn, Tryd.underlying30, sz5, ze5]; rfl) (by simp) ?_; refine SmG.nil (aa ?_); exact r1_0
  ·refine SmG.buildOwn hF rfl rfl rfl rfl rfl (sz := 1) (rows := ([97] : zBz).map ai) (by simp [bn, Tryd.underlying30, sz5, ze5]; rfl) (by simp) ?_; refine SmG.nil (aa ?_); refine SmM.step hF [21, 24] rfl (by kernel_rfl) rfl ⟨⟨_, rfl, ?_⟩, ⟨_, rfl, ?_⟩, trivial⟩
   ·refine gv hF (ag rfl rfl (by simp only [go_sem, ac] <;> rfl)) ?_; refine SmG.nil (aa ?_); exact bA r1_0
   ·refine SmG.mark hF (rows := ([97] : zBz).map ai) rfl rfl rfl rfl rfl rfl (by simp) Tryd.underlying30 Tryd.underlying5 ?_; simp only [cR, bf, hO, dt, cA, bL, if_true, Nat.reduceEqDiff, if_false, Nat.zero_add, List.length_map, Nat.le_refl, and_self]; refine SmG.nil (aa ?_); refine SmM.step hF [21, 25] rfl (by kernel_rfl) rfl ⟨⟨_, rfl, ?_⟩, ⟨_, rfl, ?_⟩, trivial⟩
    ·refine gv hF (ag rfl rfl (by simp only [go_sem, ac] <;> rfl)) ?_; refine SmG.nil (aa ?_); exact r1_1
    ·refine SmG.call hF rfl rfl (by kernel_rfl) rfl rfl rfl (hSum) ?_; refine SmG.nil (aa ?_); refine SmM.step hF [21] rfl (by kernel_rfl) rfl ⟨⟨_, rfl, ?_⟩, trivial⟩; refine gv hF (ag rfl rfl (by simp only [go_sem, ac] <;> rfl)) ?_; refine SmG.nil (aa ?_); exact r1_3
 case h1_0 =>
  refine SmM.step hF [22, 24] rfl (by kernel_rfl) rfl ⟨⟨_, rfl, ?_⟩, ⟨_, rfl, ?_⟩, trivial⟩
  ·refine gv hF (ae rfl rfl (iJ rfl)) (SmG.nil (aa ?_)); exact bA r1_2
  ·refine SmG.mark hF (rows := ([97] : zBz).map ai) rfl rfl rfl rfl rfl rfl (by simp) Tryd.underlying30 Tryd.underlying5 ?_; simp only [cR, bf, hO, dt, cA, bL, if_true, Nat.reduceEqDiff, if_false, Nat.zero_add, List.length_map, Nat.le_refl, and_self]; refine SmG.nil (aa ?_); exact bA r1_1
 case h1_1 =>
  refine SmM.step hF [22, 25] rfl (by kernel_rfl) rfl ⟨⟨_, rfl, ?_⟩, ⟨_, rfl, ?_⟩, trivial⟩
  ·refine gv hF (ae rfl rfl (iJ rfl)) (SmG.nil (aa ?_)); exact r1_4
  ·refine SmG.call hF rfl rfl (by kernel_rfl) rfl rfl rfl (hSum) ?_; refine SmG.nil (aa ?_); exact bA r1_3
 case h1_2 =>
  refine SmM.step hF [24] rfl (by kernel_rfl) rfl ⟨⟨_, rfl, ?_⟩, trivial⟩; refine SmG.mark hF (rows := ([97] : zBz).map ai) rfl rfl rfl rfl rfl rfl (by simp) Tryd.underlying30 Tryd.underlying5 ?_; simp only [cR, bf, hO, dt, cA, bL, if_true, Nat.reduceEqDiff, if_false, Nat.zero_add, List.length_map, Nat.le_refl, and_self]; refine SmG.nil (aa ?_); exact bA r1_4
 case h1_3 =>
  refine SmM.step hF [22] rfl (by kernel_rfl) rfl ⟨⟨_, rfl, ?_⟩, trivial⟩; refine gv hF (ae rfl rfl (iJ rfl)) (SmG.nil (aa ?_)); exact r1_5
 case h1_4 =>
  refine SmM.step hF [25] rfl (by kernel_rfl) rfl ⟨⟨_, rfl, ?_⟩, trivial⟩; refine SmG.call hF rfl rfl (by kernel_rfl) rfl rfl rfl (hSum) ?_; refine SmG.nil (aa ?_); exact bA r1_5
 case h1_5 =>
  refine SmM.step hF [26] rfl (by kernel_rfl) rfl ⟨⟨_, rfl, ?_⟩, trivial⟩; refine gv hF (jP rfl rfl rfl ((rP hkl hkl).trans (by rw [decide_eq_true rfl]))) ?_; refine SmG.nil (aa ?_); refine SmM.step hF [27] rfl (by kernel_rfl) rfl ⟨⟨_, rfl, ?_⟩, trivial⟩; refine gv hF (aO rfl rfl rfl) ?_; refine SmG.nil (aa ?_); refine SmM.step hF [28] rfl (by kernel_rfl) rfl ⟨⟨_, rfl, ?_⟩, trivial⟩; refine gv hF oM (SmG.nil (aa ?_)); refine SmM.step hF [29] rfl (by kernel_rfl) rfl ⟨⟨_, rfl, ?_⟩, trivial⟩; refine gv hF (ag rfl rfl (by simp only [go_sem, ac] <;> rfl)) ?_; refine SmG.nil (aa ?_); refine SmM.step hF [30] rfl (by kernel_rfl) rfl ⟨⟨_, rfl, ?_⟩, trivial⟩; refine gv hF (ae rfl rfl (vv rfl)) (SmG.nil (aa ?_)); refine SmM.step hF [31] rfl (by kernel_rfl) rfl ⟨⟨_, rfl, ?_⟩, trivial⟩; refine gv hF (aJ rfl rfl (by simp only [go_sem, ac] <;> rfl)) ?_; refine SmG.nil (aa ?_); refine SmM.step hF [32] rfl (by kernel_rfl) rfl ⟨⟨_, rfl, ?_⟩, trivial⟩; refine gv hF (ah rfl rfl rfl (by exact dR _ _ _ _ _ (by omega))) ?_; refine SmG.nil (aa ?_); refine SmM.step hF [33] rfl (by kernel_rfl) rfl ⟨⟨_, rfl, ?_⟩, trivial⟩; refine gv hF (aO rfl rfl rfl) ?_; refine SmG.nil (aa ?_); refine SmM.step hF [34] rfl (by kernel_rfl) rfl ⟨⟨_, rfl, ?_⟩, trivial⟩; refine gv hF oM (SmG.nil (aa ?_)); refine SmM.step hF [35] rfl (by kernel_rfl) rfl ⟨⟨_, rfl, ?_⟩, trivial⟩; refine gv hF (ag rfl rfl (by simp only [go_sem, ac] <;> rfl)) ?_; refine SmG.nil (aa ?_); refine SmM.step hF [36] rfl (by kernel_rfl) rfl ⟨⟨_, rfl, ?_⟩, trivial⟩; refine gv hF (ae rfl rfl (vv rfl)) (SmG.nil (aa ?_)); refine SmM.step hF [37] rfl (by kernel_rfl) rfl ⟨⟨_, rfl, ?_⟩, trivial⟩; refine gv hF (aJ rfl rfl (by simp only [go_sem, ac] <;> rfl)) ?_; refine SmG.nil (aa ?_); refine SmM.step hF [38] rfl (by kernel_rfl) rfl ⟨⟨_, rfl, ?_⟩, trivial⟩; refine gv hF (ah rfl rfl rfl (by exact dR _ _ _ _ _ (by omega))) ?_; refine SmG.nil (aa ?_); refine SmM.step hF [39] rfl (by kernel_rfl) rfl ⟨⟨_, rfl, ?_⟩, trivial⟩; refine gv hF (aO rfl rfl rfl) ?_
  refine SmG.nil (aa ?_); refine SmM.step hF [40] rfl (by kernel_rfl) rfl ⟨⟨_, rfl, ?_⟩, trivial⟩; refine gv hF oM (SmG.nil (aa ?_)); refine SmM.step hF [41] rfl (by kernel_rfl) rfl ⟨⟨_, rfl, ?_⟩, trivial⟩; refine gv hF (ag rfl rfl (by simp only [go_sem, ac] <;> rfl)) ?_; refine SmG.nil (aa ?_); refine SmM.step hF [42] rfl (by kernel_rfl) rfl ⟨⟨_, rfl, ?_⟩, trivial⟩; refine gv hF (ae rfl rfl (dZ rfl)) (SmG.nil (aa ?_)); refine SmM.step hF [43] rfl (by kernel_rfl) rfl ⟨⟨_, rfl, ?_⟩, trivial⟩; refine SmG.call hF rfl rfl (by kernel_rfl) rfl rfl rfl hS1 ?_; refine SmG.nil (aa ?_); refine SmM.step hF [44] rfl (by kernel_rfl) rfl ⟨⟨_, rfl, ?_⟩, trivial⟩; refine gv hF (aO rfl rfl rfl) ?_; refine SmG.nil (aa ?_); refine SmM.step hF [45] rfl (by kernel_rfl) rfl ⟨⟨_, rfl, ?_⟩, trivial⟩; refine gv hF oM (SmG.nil (aa ?_)); refine SmM.step hF [46] rfl (by kernel_rfl) rfl ⟨⟨_, rfl, ?_⟩, trivial⟩; refine SmG.makeOwn hF rM rfl 1 rfl rfl rfl rfl rfl rfl (by decide) (by decide) ?_; refine SmG.freeze (l := 12) [ay (List.replicate 32 0) ++ [.list 0 [] true]] rfl ?_; simp only [cR, bf, hO, dt, cA, bL, if_true, Nat.reduceEqDiff, if_false, Nat.zero_add, List.length_map, Nat.le_refl, and_self]; refine SmG.nil (aa ?_); refine SmM.step hF [47] rfl (by kernel_rfl) rfl ⟨⟨_, rfl, ?_⟩, trivial⟩; refine gv hF (cZ rfl Tryd.underlying27 (by kernel_rfl) rfl (ku (n := 3) Lx MH rfl (by repeat' first | apply xI rfl rfl (by first | rfl | simp [ay, ac]) | apply xH rfl rfl rfl (by first | assumption | simp [ay, ac]) | (apply IA; simp only [List.set_cons_succ, List.set_cons_zero, List.take_succ_cons, List.take_zero, List.drop_succ_cons, List.drop_zero, List.drop_nil, List.cons_append, List.nil_append, List.append_nil, ac] <;> rfl)))) ?_; refine SmG.nil (aa ?_); refine SmM.step hF [48] rfl (by kernel_rfl) rfl ⟨⟨_, rfl, ?_⟩, trivial⟩; refine SmG.call hF rfl rfl (by kernel_rfl) rfl rfl rfl hS2 ?_; refine SmG.nil (aa ?_); refine SmM.step hF [49] rfl (by kernel_rfl) rfl ⟨⟨_, rfl, ?_⟩, trivial⟩; refine gv hF (eM rfl rfl (by exact tf _)) ?_
  refine SmG.nil (aa ?_); refine SmM.step hF [50] rfl (by kernel_rfl) rfl ⟨⟨_, rfl, ?_⟩, trivial⟩; refine gv hF (aO rfl rfl rfl) ?_; refine SmG.nil (aa ?_); refine SmM.step hF [51] rfl (by kernel_rfl) rfl ⟨⟨_, rfl, ?_⟩, trivial⟩; refine gv hF oA (SmG.nil (aa ?_)); refine SmM.nil (by kernel_rfl) ?_; refine aa (Sm.ret ?_)
  skip
  exact ⟨_, rfl, D.le.refl _⟩
noncomputable def iD : Option Bool := some true
noncomputable def jZ : Con Tryd.prog HG nmS := ⟨10, [], [], .bool, fun _ => iD, false⟩
theorem pd : jZ.Ok := ⟨fun _ a r h => by cases h; exact HR, fun h => by cases h⟩
end
section
noncomputable def dA (a0 : List SRaw) (a1 : zBz) : Option Bool :=
 ob (iD ) fun x1 =>
 bif (decide (200 < (a1.length : Int))) then (
  some x1
 ) else (
  ob (fi a0 10) fun x3 =>
  ob (cE x3 a1) fun x4 =>
  bif (x4.e != 0) then (
   some false
  ) else (
   ob (dQ x4.s) fun x6 =>
   bif (!x6) then (
    some false
   ) else (
    ob (cE x4.s a1) fun x8 =>
    ob (eh x4.s x4.k) fun x9 =>
    bif (x9.e != 0) then (
     some false
    ) else (
     ob (dQ x9.s) fun x11 =>
     bif (!x11) then (
      some false
     ) else (
      ob (cE x9.s a1) fun x13 =>
      ob (dC x8 x4) fun x14 =>
      bif x14 then (
       bif (x13.e == 0) then (
        bif (x13.k.l == x4.k.l) then (
         bif ((x13.s.objects.length : Int) == (x4.s.objects.length : Int)) then (
          bif (decide (0 < (x13.s.objects.length : Int))) then (
           ob (arI .i64 ((x13.s.objects.length : Int) - 1)) fun x20 =>
           ob (idx x13.s.objects x20) fun x21 =>
           bif (x21.sum.l == x4.k.l) then (
            ob (arI .i64 ((x13.s.objects.length : Int) - 1)) fun x23 =>
            ob (idx x13.s.objects x23) fun x24 =>
            bif (x24.data == a1) then (
             ob (cL x13.s) fun x26 =>
             ob (cL x4.s) fun x27 =>
             ob (arI .i64 ((x27.length : Int) + 2)) fun x28 =>
             bif ((x26.length : Int) == x28) then (
              some x1
             ) else (
              some false
             )
            ) else (
             some false
            )
           ) else (
            some false
           )
          ) else (
           some false
          )
         ) else (
          some false
         )
        ) else (
         some false
        )
       ) else (
        some false
       )
      ) else (
       some false
      )
     )
    )
   )
  )
 )
theorem mF (a : (List SRaw) × zBz) : fF (cfA [jZ, lj, kc, kS, jS, iP, ge] Tryd.f8.ntmps []) [] Tryd.f8 [] [(.lst (.nm 2)), (.lst .u8)] .bool (.nj (.br .e (.nj (.br .e (.br .e (.seg 11 (.nj (.br .e (.br .e (.seg 64 (.br (.br (.br (.br (.br (.br (.br (.br .e .e) .e) .e) .e) .e) .e) .e) .e))))))))))) a = dA a.1 a.2 := by kernel_rfl
noncomputable def mE : Con Tryd.prog HG nmS := ⟨8, [], [(.lst (.nm 2)), (.lst .u8)], .bool, fun a => dA a.1 a.2, false⟩
theorem mG : mE.Ok := gL (.cons pd (.cons qm (.cons dU (.cons fw (.cons jT (.cons iQ (.cons je .nil))))))) mF Tryd.func8 rfl
theorem Es (l : List SRaw) (b : zBz) : dA l b = some true := by
 unfold dA; rw [show iD = some true from rfl, aq]; by_cases hb : 200 < b.length
 ·rw [gc (by omega), cond_true]
 rw [gn (by omega), cond_false, show (10 : Int) = ((10 : Nat) : Int) from rfl, Hr l 10 (by omega), aq]; have hs := zV l 10 (by omega); generalize gi l 10 = s at hs; obtain ⟨s1, s2, s3⟩ := hs.small (by omega); have so := hs.obs; rw [iM hs (by omega) (by omega), aq]; obtain ⟨k1, k2⟩ := KP s (x := b) (by omega) (by omega); have hp := hs.put (x := b) (by omega) (by omega); have hpo := hp.obs; have hfind : ∃ i, aM (dh s b).1.objects (Sha.sum b) = some i := by
  cases hf : aM s.objects (Sha.sum b) with
  | some i => rw [kF s (by omega) hf]; exact ⟨i, hf⟩
  | none =>
   rw [jx s (by omega) hf (by omega)]; have := nF (o := s.objects ++ [⟨cC b, b⟩]) (by have := hpo.1.dis; rw [jx s (by omega) hf (by omega)] at this; exact this) (i := s.objects.length) (x := ⟨cC b, b⟩) (by simp); exact ⟨_, this⟩
 obtain ⟨j, hj⟩ := hfind; generalize hP : dh s b = p at k1 k2 hp hpo hj; obtain ⟨p, kk, e⟩ := p; simp only at k1 k2 hp hpo hj; subst k1 k2; obtain ⟨p1, p2, p3⟩ := hp.small (by omega); have hkj : aM p.objects (cC b).l = some j := hj; have hjl := qx hj; rw [show ((0 : Int) != 0) = false from rfl, cond_false, lF hp (by omega), aq, Bool.not_true, cond_false, iM hp (by omega) (by omega), aq, kF p (by omega) hj, tD hp (by omega), aq, hkj, if_neg (by simp)]; have hx := hp.evict (cC b) (by omega); have hxe : evF p (cC b) = ⟨p.objects.eraseIdx j, p.safe, p.queue ++ [mN (p.safe.length + p.queue.length) (cC b).l]⟩ := by unfold evF; rw [hkj]
 have hgone : aM (evF p (cC b)).objects (Sha.sum b) = none := by
  cases hf : aM (evF p (cC b)).objects (Sha.sum b) with
  | none => rfl
  | some i =>
   exfalso; obtain ⟨z, hz, hze⟩ := qy hf; rw [hxe] at hz; simp only at hz; rw [List.getElem?_eraseIdx] at hz; split at hz
   ·have := nF hpo.1.dis hz; rw [hze, hj] at this; cases this; omega
   ·have := nF hpo.1.dis hz; rw [hze, hj] at this; cases this; omega
 simp only; rw [show ((0 : Int) != 0) = false from rfl, cond_false, lF hx (by omega), aq, Bool.not_true, cond_false, iM hx (by omega) (by omega), aq, oQ (by exact Nat.le_trans p1 (by omega)) (by show p.safe.length <= _; omega) (by show p.queue.length <= _; omega), aq, cond_true]; have hxl := hx.obs.2; have hnew := hx.put (x := b) (by omega) (by omega); obtain ⟨n1, n2, n3⟩ := hnew.small (by omega); rw [jx _ (by omega) hgone (by omega)] at hnew n1 n2 ⊢; simp only at n1 n2 ⊢; have hel : (evF p (cC b)).objects.length = p.objects.length - 1 := by rw [hxe]; exact List.length_eraseIdx_of_lt hjl
 rw [qb rfl, cond_true, beq_self_eq_true, cond_true, qb (by simp; omega), cond_true, gc (by simp), cond_true, bQ (by simp; omega), aq]; have hidx : idx ((evF p (cC b)).objects ++ [⟨cC b, b⟩]) ((((evF p (cC b)).objects ++ [(⟨cC b, b⟩ : Ob)]).length : Int) - 1) = some ⟨cC b, b⟩ := by
  rw [show ((((evF p (cC b)).objects ++ [(⟨cC b, b⟩ : Ob)]).length : Int) - 1) = (((evF p (cC b)).objects.length : Nat) : Int) by simp, er]; simp
 rw [hidx, aq, beq_self_eq_true, cond_true, aq, hidx, aq, beq_self_eq_true, cond_true, uo hnew (by omega), aq, uo hp (by omega), aq, bQ (by simp [dg]; omega), aq]; rw [qb, cond_true]; rw [hxe]; simp [dg]; omega
theorem mD {a0 : List SRaw} {a1 : zBz} {r : Bool} (h : dA a0 a1 = some r) : aj Tryd.prog HG 8 [.list 3 (a0.map SRaw.row) false, .list 1 (a1.map ai) false] (.v (.bool r)) := mG.d rfl (a0, a1) r h
end
end Go.Proofs.YtaclinnjekdgoaaDoor
