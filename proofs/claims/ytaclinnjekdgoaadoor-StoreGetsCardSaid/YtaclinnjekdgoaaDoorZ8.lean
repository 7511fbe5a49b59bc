/-
  Lemmas, part 8 of 8: walks through the program's functions, and plain Lean about what they compute.
-/
import Derived.Test.YtaclinnjekdgoaaDoorZ1
import Derived.Test.YtaclinnjekdgoaaDoorZ2
import Derived.Test.YtaclinnjekdgoaaDoorZ3
import Derived.Test.YtaclinnjekdgoaaDoorZ4
import Derived.Test.YtaclinnjekdgoaaDoorZ5
import Derived.Test.YtaclinnjekdgoaaDoorZ6
import Derived.Test.YtaclinnjekdgoaaDoorZ7
set_option linter.unnecessarySimpa false
set_option linter.unusedSimpArgs false
set_option linter.unusedVariables false
set_option maxRecDepth 100000
namespace Go.Proofs.YtaclinnjekdgoaaDoor
open Go.RowKit
section
noncomputable def f7 (a0 : List UInt8) : Option Int :=
 ob (idx a0 0) fun x1 =>
 ob (rD .i64 (x1.toNat : Int) 24) fun x2 =>
 ob (idx a0 1) fun x3 =>
 ob (rD .i64 (x3.toNat : Int) 16) fun x4 =>
 ob (arI .i64 (x2 + x4)) fun x5 =>
 ob (idx a0 2) fun x6 =>
 ob (rD .i64 (x6.toNat : Int) 8) fun x7 =>
 ob (arI .i64 (x5 + x7)) fun x8 =>
 ob (idx a0 3) fun x9 =>
 ob (arI .i64 (x8 + (x9.toNat : Int))) fun x10 =>
 some x10
set_option maxHeartbeats 4000000 in
theorem pG {a0 : List UInt8} {r : Int} (h : f7 a0 = some r) : aj Tryd.prog HG 48 [.list 1 (a0.map ai) false] (.i r) := by
 unfold f7 at h; refine aj.of Tryd.func48 rfl Tryd.ntmps48 (by simp) ?_; intro F hF h0 hT; show Sm F _ _ ⟨[(0, .d (.list 1 (a0.map ai) false))], [], 0⟩; refine sr hF (gv hF oA (sn (Sm.seq ?_))); refine dG hF 21 ?_; refine hv hF oM ?_; obtain ⟨x1, hx1, h⟩ := aq h; refine hv hF (oI (eE u30 sz5 hx1)) (hv hF (oL (lP1 ag5 rfl)) (hv hF (oC (e8 u5 u3 (jS _))) ?_)); obtain ⟨x2, hx2, h⟩ := aq h; refine hv hF (oB (uC hx2)) (hv hF oM ?_); obtain ⟨x3, hx3, h⟩ := aq h; refine hv hF (oI (eE u30 sz5 hx3)) (hv hF (oL (lP1 ag5 rfl)) (hv hF (oC (e8 u5 u3 (jS _))) ?_)); obtain ⟨x4, hx4, h⟩ := aq h; refine hv hF (oB (uC hx4)) ?_; obtain ⟨x5, hx5, h⟩ := aq h; refine hv hF (oB (dQ hx5)) (hv hF oM ?_); obtain ⟨x6, hx6, h⟩ := aq h; refine hv hF (oI (eE u30 sz5 hx6)) (hv hF (oL (lP1 ag5 rfl)) (hv hF (oC (e8 u5 u3 (jS _))) ?_)); obtain ⟨x7, hx7, h⟩ := aq h; refine hv hF (oB (uC hx7)) ?_; obtain ⟨x8, hx8, h⟩ := aq h; refine hv hF (oB (dQ hx8)) (hv hF oM ?_); obtain ⟨x9, hx9, h⟩ := aq h; refine hv hF (oI (eE u30 sz5 hx9)) (hv hF (oL (lP1 ag5 rfl)) (hv hF (oC (e8 u5 u3 (jS _))) ?_)); refine hE ?_; obtain ⟨x10, hx10, h⟩ := aq h; refine gv hF (oB (dQ hx10)) (gv hF oA (sn (Sm.ret ?_))); obtain rfl := aW h; exact kR rfl rfl
theorem tj {n : Nat} {k : Nat} (hn : n < 256) (hk : k ≤ 24) : rD .i64 (n : Int) (k : Int) = some ((n * 2 ^ k : Nat) : Int) := by
 unfold rD; have hm : min ((k : Int).toNat) IntKind.i64.bits = k := by show min _ 64 = _; omega
 rw [if_neg (by omega), hm]; have h1 : (2 : Nat) ^ k ≤ 2 ^ 24 := Nat.pow_le_pow_right (by omega) hk; have h2 : n * 2 ^ k < 256 * 2 ^ 24 := Nat.lt_of_lt_of_le (Nat.mul_lt_mul_of_pos_right hn (Nat.pow_pos (by omega))) (Nat.mul_le_mul_left _ h1); have e : ((n : Int) * 2 ^ k) = ((n * 2 ^ k : Nat) : Int) := by norm_cast
 rw [e, aY _ (by omega)]
theorem Fh (b0 b1 b2 b3 : UInt8) : f7 [b0, b1, b2, b3] = some ((be [b0, b1, b2, b3] : Nat) : Int) := by
 have h0 := b0.toNat_lt; have h1 := b1.toNat_lt; have h2 := b2.toNat_lt; have h3 := b3.toNat_lt; unfold f7; rw [show idx [b0, b1, b2, b3] 0 = some b0 from rfl, ap, show (24 : Int) = ((24 : Nat) : Int) from rfl, tj h0 (by omega), ap, show idx [b0, b1, b2, b3] 1 = some b1 from rfl, ap, show (16 : Int) = ((16 : Nat) : Int) from rfl, tj h1 (by omega), ap, bP (by omega), ap,
  show idx [b0, b1, b2, b3] 2 = some b2 from rfl, ap, show (8 : Int) = ((8 : Nat) : Int) from rfl, tj h2 (by omega), ap, bP (by omega), ap, show idx [b0, b1, b2, b3] 3 = some b3 from rfl, ap, bP (by omega), ap]
 simp only [be, List.foldl_cons, List.foldl_nil]
 congr 1
 omega
theorem D2 (l : List UInt8) (hl : l.length = 4) : aj Tryd.prog HG 48 [.list 1 (l.map ai) false] (.v (.int .i64 (be l))) := by
 rcases l with _ | ⟨b0, _ | ⟨b1, _ | ⟨b2, _ | ⟨b3, _ | ⟨b4, l⟩⟩⟩⟩⟩ <;> simp at hl
 exact pG (Fh b0 b1 b2 b3)
def r8 (l : List UInt8) : Vec 32 := if h : l.length = 32 then ⟨l, h⟩ else ⟨List.replicate 32 0, rfl⟩
def vQ : Rcd := ⟨false, 0, 0, [], ⟨List.replicate 32 0, rfl⟩⟩
def mw (B : List UInt8) : Rcd :=
 if (B.getD 0 0).toNat = 80 ∧ be ((B.drop 5).take 4) + 9 = B.length ∧ B.length ≤ 65545 then ⟨true, B.getD 0 0, (be ((B.drop 1).take 4) : Nat), B.drop 9, cw (B.drop 9)⟩
 else if (B.getD 0 0).toNat = 68 ∧ B.length = 37 then ⟨true, B.getD 0 0, (be ((B.drop 1).take 4) : Nat), [], r8 (B.drop 5)⟩
 else vQ
def uH (b : List UInt8) : Rcd :=
 if b.length < 41 then vQ else
 if Sha.sum (b.take (b.length - 32)) ≠ b.drop (b.length - 32) then vQ else
 mw (b.take (b.length - 32))
theorem fe {n l : Nat} {t : TypeId} {R : List D} {h : List (Nat × Blk)} {zr zp : List V} (hs : az Tryd.prog t = some n) (hl : look h l = some ⟨n, [zr]⟩) (hp : ac zr = some zp) : c9 Tryd.prog h t (.ref l 0 0) (.d (.agg n R)) = some (.upd l ⟨n, [R.map V.d]⟩) := by
 simp only [c9, hl, Option.bind_some, List.getElem?_cons_zero, hp, fZ, hs]; simp
theorem gy {n l : Nat} {t : TypeId} {R : List D} {h : List (Nat × Blk)} (hs : az Tryd.prog t = some n) (ha : bg Tryd.prog t = some true) (hl : look h l = some ⟨n, [R.map V.d]⟩) : aX Tryd.prog h t (.ref l 0 0) = some (.d (.agg n R)) := by
 have hs' : seg (R.map V.d) n 0 n = R.map V.d := by
  unfold seg; rw [if_pos ⟨rfl, rfl⟩]
 have hp : bu (R.map V.d) = some R := gr _; simp only [aX, hl, Option.bind_some, List.getElem?_cons_zero, cc, ha, hs, hs', hp]; simp
theorem mG (r : D) (h : r = .agg 36 ([.v (.bool false), .v (.int .u8 0), .v (.int .i64 0), .list 0 [] true] ++ ay (List.replicate 32 0))) : r.le (.agg 36 (Rcd.row vQ)) := by
 rw [h]; refine fN ?_; exact ⟨D.le.refl _, D.le.refl _, D.le.refl _, cd 0 1 true, leL.refl _⟩
def oh (k : UInt8) (n : Int) (L : List UInt8) (i : Nat) : List D := [.v (.bool true), .v (.int .u8 (k.toNat : Int)), .v (.int .i64 n), .list 0 [] true] ++ ay (L.take i ++ List.replicate (32 - i) 0)
theorem Fl (k : UInt8) (n : Int) {L : List UInt8} {i : Nat} {y : UInt8} (hL : L.length = 32) (hy : L[i]? = some y) : (oh k n L i).set (4 + i) (aG y) = oh k n L (i + 1) := by
 have hi : i < 32 := by have := (List.getElem?_eq_some_iff.1 hy).1; omega
 unfold oh; rw [List.set_append_right _ _ (by simp)]
 congr 1
 simp only [List.length_cons, List.length_nil, Nat.zero_add, Nat.reduceAdd, Nat.add_sub_cancel_left]; unfold ay; rw [← List.map_set]
 congr 1
 rw [List.take_add_one, hy, List.set_append_right _ _ (by rw [List.length_take]; omega), show 32 - i = (32 - (i + 1)) + 1 by omega, List.replicate_succ]; have hmin : i - (List.take i L).length = 0 := by simp only [List.length_take]; omega
 rw [hmin, List.set_cons_zero]; simp
theorem FH {k : UInt8} {n : Int} {L : List UInt8} {i l : Nat} {y : UInt8} {h : List (Nat × Blk)} (hL : L.length = 32) (hy : L[i]? = some y) (hl : look h l = some ⟨36, [(oh k n L i).map V.d]⟩) : c9 Tryd.prog h 5 (.ref l 0 (4 + i)) (.d (aG y)) = some (.upd l ⟨36, [(oh k n L (i + 1)).map V.d]⟩) := by
 have hi : i < 32 := by have := (List.getElem?_eq_some_iff.1 hy).1; omega
 have h1 : ((oh k n L i).map V.d).set (4 + i) (V.d (aG y)) = (oh k n L (i + 1)).map V.d := by
  rw [← List.map_set, Fl k n hL hy]
 have hc : fZ (.d (aG y)) = some (1, [.d (aG y)]) := rfl; simp only [c9, hl, Option.bind_some, List.getElem?_cons_zero, cc, hc, sz5]; rw [if_pos ⟨trivial, by omega⟩, if_neg (by omega), if_pos trivial, h1]; rfl
set_option maxHeartbeats 4000000 in
theorem DZ (b : List UInt8) (hb : b.length ≤ 1000000) : aj Tryd.prog HG 28 [.list 1 (b.map ai) false] (.agg 36 (Rcd.row (uH b))) := by
 unfold uH; by_cases c1 : b.length < 41
 ·rw [if_pos c1]; refine aj.of Tryd.func28 rfl Tryd.ntmps28 (by simp) ?_; intro F hF h0 hT; simp only [List.zipIdx_cons, List.zipIdx_nil, List.map_cons, List.map_nil, Nat.zero_add, Nat.reduceAdd]; refine Sm.seq ?_; refine ab hF rfl ?_; refine SmG.new hF rfl rfl rfl (aF rfl Bj) ?_; refine SmG.nil (aa (Sm.seq (Sm.seq ?_))); refine ab hF rfl ?_; refine gv hF oM ?_; refine gv hF (aJ rfl rfl (by simp (disch := omega) only [go_sem, Nat.reduceEqDiff, aE, ac] <;> rfl)) ?_; refine gv hF (ah rfl rfl rfl (by exact eh _ _ _ _ _ (by omega))) ?_; refine SmG.nil (aa ?_); refine aZ hF rfl ?_; refine Sm.seq ?_; refine ab hF rfl ?_; refine gv hF (cU rfl Tryd.underlying64 (by kernel_rfl) rfl vl) ?_; refine SmG.store hF rfl rfl rfl rfl rfl (fe gt rfl rfl) ?_; refine SmG.nil (aa (Sm.ret ?_)); simp only [a9, bQ]; refine cG rfl rfl (gy gt mQ rfl) ?_; exact mG _ rfl
 rw [if_neg c1]; obtain ⟨E, hE⟩ : ∃ E, b.length = E + 32 := ⟨b.length - 32, by omega⟩
 have hE2 : (b.length : Int) - 32 = (E : Int) := by omega
 have hE3 : b.length - 32 = E := by omega
 have hlb : (b.take E).length = E := by simp; omega
 have hlt : (b.drop E).length = 32 := by simp; omega
 rw [hE3]; have csum := qc (b.take E) (by omega) HG; obtain ⟨sx, hsx⟩ : ∃ sx : Vec 32, sx.l = Sha.sum (b.take E) := ⟨cw _, rfl⟩
 rw [← hsx] at csum ⊢; have hsl := sx.h; have hrl : (ay sx.l).length = 32 := cL hsl; have hch : fi 1 32 (ay sx.l) = sx.l.map ai := by
  have := ki (ay sx.l); rw [hrl] at this; rw [this]; simp [ay, ai]
 have htk : (sx.l.map ai).take 32 = sx.l.map ai := List.take_of_length_le (by simp [hsl]); refine aj.of Tryd.func28 rfl Tryd.ntmps28 (by simp) ?_; intro F hF h0 hT; simp only [List.zipIdx_cons, List.zipIdx_nil, List.map_cons, List.map_nil, Nat.zero_add, Nat.reduceAdd]; refine Sm.seq ?_; refine ab hF rfl ?_; refine SmG.new hF rfl rfl rfl (aF rfl Bj) ?_; refine SmG.nil (aa (Sm.seq (Sm.seq ?_))); refine ab hF rfl ?_; refine gv hF oM ?_; refine gv hF (aJ rfl rfl (by simp (disch := omega) only [go_sem, Nat.reduceEqDiff, aE, ac, ← List.map_take, ← List.map_drop] <;> rfl)) ?_; refine gv hF (ah rfl rfl rfl (by exact eM _ _ _ _ _ (by omega))) ?_; refine SmG.nil (aa ?_); refine aS hF rfl ?_; refine Sm.skip ?_; refine aa (Sm.seq ?_); refine ab hF rfl ?_; refine gv hF oM ?_; refine gv hF (aJ rfl rfl (by simp (disch := omega) only [go_sem, Nat.reduceEqDiff, aE, ac, ← List.map_take, ← List.map_drop] <;> rfl)) ?_; refine gv hF (ah rfl rfl rfl ((gN _ _ _ _ _ (aY _ (by omega))).trans (by rw [hE2]))) ?_; refine gv hF oA (SmG.nil (aa (Sm.seq ?_))); refine ab hF rfl ?_; refine gv hF oM (gv hF oM ?_); refine gv hF (bB rfl rfl rfl rfl rfl (by simp (disch := omega) only [go_sem, Nat.reduceEqDiff, aE, ac, ← List.map_take, ← List.map_drop] <;> rfl)) ?_; refine SmG.call hF rfl rfl (by kernel_rfl) rfl rfl rfl (csum) ?_; refine SmG.new hF rfl rfl rfl (aF rfl lQ) ?_; refine SmG.store hF rfl rfl rfl rfl rfl (by simp (disch := omega) only [go_sem, Nat.reduceEqDiff, aE, ac, ← List.map_take, ← List.map_drop] <;> rfl) ?_; refine SmG.nil (aa (Sm.seq (Sm.seq ?_))); simp only [rep, Nat.zero_add, Nat.reduceEqDiff, if_true, if_false]; refine Sm.freeze (l := 1) [ay sx.l] rfl ?_; simp only [Pk.v, cM, bc, bK,  reduceIte, Nat.reduceAdd, Nat.zero_add, List.length_map, List.length_append, Nat.le_refl, true_and, and_self, if_true, Nat.reduceEqDiff, true_and]; refine eR hF (by kernel_rfl) rfl 7 (by kernel_rfl) (by kernel_rfl) ?_; simp only [List.take_succ_cons, List.take_zero, List.take_nil]; refine hv hF (bB rfl rfl rfl rfl rfl (by simp (disch := omega) only [go_sem, Nat.reduceEqDiff, aE, ac, ← List.map_take, ← List.map_drop, hch, htk, iF] <;> rfl)) ?_
 refine hv hF (cu rfl rfl (by simp (disch := omega) only [go_sem, Nat.reduceEqDiff, aE, ac, ← List.map_take, ← List.map_drop, hch, htk, iF] <;> rfl)) ?_; refine hv hF oM (hv hF oM ?_); refine hv hF (bB rfl rfl rfl rfl rfl (by simp (disch := omega) only [go_sem, Nat.reduceEqDiff, aE, ac, ← List.map_take, ← List.map_drop, hch, htk, iF] <;> rfl)) ?_; refine hv hF (cu rfl rfl (by simp (disch := omega) only [go_sem, Nat.reduceEqDiff, aE, ac, ← List.map_take, ← List.map_drop, hch, htk, iF] <;> rfl)) ?_; refine au.v (x := .d (.v (.bool (sx.l != b.drop E)))) hF rfl rfl rfl (ah rfl rfl rfl (DR rfl)) ?_; refine au.last ⟨rfl, ?_⟩; simp only [List.drop_succ_cons, List.drop_zero, List.drop_nil, List.nil_append, List.cons_append]; refine SmG.nil (aa ?_); by_cases hs : sx.l = b.drop E
 case neg =>
  rw [if_pos (by exact hs), show (sx.l != b.drop E) = true by simp [hs]]; refine aZ hF rfl ?_; refine Sm.seq ?_; refine ab hF rfl ?_; refine gv hF (cU rfl Tryd.underlying64 (by kernel_rfl) rfl vl) ?_; refine SmG.store hF rfl rfl rfl rfl rfl (fe gt rfl rfl) ?_; refine SmG.nil (aa (Sm.ret ?_)); simp only [a9, bQ]; refine cG rfl rfl (gy gt mQ rfl) ?_; exact mG _ rfl
 rw [if_neg (by simp [hs]), show (sx.l != b.drop E) = false by simp [hs]]; obtain ⟨kind, hk⟩ : ∃ kind, b[0]? = some kind := ⟨b[0]'(by omega), List.getElem?_eq_getElem (by omega)⟩
 have hkB : (b.take E).getD 0 0 = kind := by
  have : (b.take E)[0]? = some kind := by rw [List.getElem?_take]; simp [hk]; omega
  simp [List.getD_eq_getElem?_getD, this]
 have e1 : (b.take 5).drop 1 = ((b.take E).drop 1).take 4 := by
  rw [List.drop_take, List.drop_take, List.take_take]; congr 1; omega
 have e5 : (b.take 9).drop 5 = ((b.take E).drop 5).take 4 := by
  rw [List.drop_take, List.drop_take, List.take_take]; congr 1; omega
 have h1 : ((b.take 5).drop 1).length = 4 := by simp; omega
 have h5 : ((b.take 9).drop 5).length = 4 := by simp; omega
 unfold mw; rw [hkB, ← e1, ← e5, hlb]; have cr1 := D2 _ h1; have cr5 := D2 _ h5; generalize hl1 : (b.take 5).drop 1 = l1 at cr1 h1; generalize hl5 : (b.take 9).drop 5 = l5 at cr5 h5; have hm1 : List.drop 1 (List.take (Int.toNat 5) b) = l1 := hl1; have hm5 : List.drop (Int.toNat 5) (List.take (Int.toNat 9) b) = l5 := hl5; refine aS hF rfl ?_; refine Sm.skip ?_; refine aa (Sm.seq ?_); refine dq hF rfl ?_; refine gS hF rfl 0 9 (by kernel_rfl) ?_; simp only [List.take_succ_cons, List.take_zero, List.take_nil, List.drop_succ_cons, List.drop_zero, Nat.reduceSub]; refine hv hF oM ?_; refine hv hF (ak rfl rfl rfl (by simp (disch := omega) only [go_sem, Nat.reduceEqDiff, aE, ac, ← List.map_take, ← List.map_drop, hk, ai, aG, hm1, hm5] <;> rfl)) ?_; refine hv hF (ae rfl rfl (by simp (disch := omega) only [go_sem, Nat.reduceEqDiff, aE, ac, ← List.map_take, ← List.map_drop, hk, ai, aG, hm1, hm5] <;> rfl)) ?_; refine hv hF oM ?_; refine hv hF (bB rfl rfl rfl rfl rfl (by simp (disch := omega) only [go_sem, Nat.reduceEqDiff, aE, ac, ← List.map_take, ← List.map_drop, hk, ai, aG, hm1, hm5] <;> rfl)) ?_; refine au.c hF rfl rfl (by kernel_rfl) rfl rfl rfl (cr1) ?_; refine hv hF (cU rfl Tryd.underlying64 (by kernel_rfl) rfl (jU (n := 36) Km JV rfl (by repeat' first | apply wA rfl rfl (by first | rfl | simp [ay, ac, ← List.map_take, ← List.map_drop, hk, ai, aG, hm1, hm5]) | apply wz rfl rfl rfl (by first | assumption | simp [ay, ac, ← List.map_take, ← List.map_drop, hk, ai, aG, hm1, hm5]) | (apply F0; simp only [List.set_cons_succ, List.set_cons_zero, List.take_succ_cons, List.take_zero, List.drop_succ_cons, List.drop_zero, List.drop_nil, List.cons_append, List.nil_append, List.append_nil, ac, ← List.map_take, ← List.map_drop, hk, ai, aG, hm1, hm5] <;> rfl)))) ?_; refine au.new hF rfl rfl rfl rfl Bj ?_; refine au.st hF rfl rfl rfl rfl rfl rfl (fe gt rfl rfl) ?_; refine au.last ?_; simp only [List.nil_append, List.cons_append]; refine SmA.nil (Nat.le_of_ble_eq_true rfl) ?_; refine aa (Sm.seq (Sm.seq ?_))
 by_cases k80 : kind.toNat = 80
 ·by_cases cn : be l5 + 9 = E
  ·by_cases cl : E ≤ 65545
   ·rw [if_pos ⟨k80, cn, cl⟩]; have hx : (b.take E).drop 9 = (b.take E).drop 9 := rfl; have hxl : ((b.take E).drop 9).length ≤ 1000000 := by simp; omega
    have csx := qc _ hxl HG; have hnil : List.drop (Int.toNat 9) (List.take E b) = (b.take E).drop 9 := rfl; generalize (b.take E).drop 9 = x at hxl csx hnil; obtain ⟨sv, hsv, hsv2⟩ : ∃ sv : Vec 32, sv.l = Sha.sum x ∧ sv = cw x := ⟨cw x, rfl, rfl⟩
    rw [← hsv] at csx; rw [← hsv2]; refine ab hF rfl ?_; refine gv hF oM ?_; refine gv hF (ak rfl rfl rfl (by simp (disch := omega) only [go_sem, Nat.reduceEqDiff, aE, ac, ← List.map_take, ← List.map_drop, hk, ai, aG, hm5] <;> rfl)) ?_; refine gv hF (ae rfl rfl (by simp (disch := omega) only [go_sem, Nat.reduceEqDiff, aE, ac, ← List.map_take, ← List.map_drop, hk, ai, aG, hm5] <;> rfl)) ?_; refine gv hF (ah rfl rfl rfl (by exact dM _ _ _ _ _ (by omega))) ?_; refine gv hF oM ?_; refine gv hF oM ?_; refine gv hF (bB rfl rfl rfl rfl rfl (by simp (disch := omega) only [go_sem, Nat.reduceEqDiff, aE, ac, ← List.map_take, ← List.map_drop, hk, ai, aG, hm5] <;> rfl)) ?_; refine SmG.call hF rfl rfl (by kernel_rfl) rfl rfl rfl (cr5) ?_; refine gv hF oM ?_; refine gv hF (ah rfl rfl rfl (by exact gN _ _ _ _ _ (aY _ (by omega)))) ?_; refine gv hF (ah rfl rfl rfl (by exact dM _ _ _ _ _ (by omega))) ?_; refine gv hF (aO rfl rfl rfl) ?_; refine gv hF oM ?_; refine gv hF oM ?_; refine gv hF (ah rfl rfl rfl (by exact gN _ _ _ _ _ (aY _ (by omega)))) ?_; refine gv hF (ah rfl rfl rfl (by exact rV _ _ _ _ _ (by omega))) ?_; refine gv hF (aO rfl rfl rfl) ?_; refine SmG.nil (aa ?_); refine aZ hF rfl ?_; refine Sm.seq ?_; refine ab hF rfl ?_; refine gv hF (ba rfl rfl (by simp (disch := omega) only [go_sem, Nat.reduceEqDiff, aE, ac, ← List.map_take, ← List.map_drop, hnil, List.append_nil] <;> rfl)) ?_; refine gv hF oM (gv hF oM ?_); refine gv hF (bB rfl rfl rfl rfl rfl (by simp (disch := omega) only [go_sem, Nat.reduceEqDiff, aE, ac, ← List.map_take, ← List.map_drop, hnil, List.append_nil] <;> rfl)) ?_; refine SmG.append hF kC rfl rfl rfl rfl rfl rfl (Or.inr rfl) (Or.inl rfl) (by simp; omega) (by simp; omega) ?_; refine gv hF (ag rfl rfl (by simp (disch := omega) only [go_sem, Nat.reduceEqDiff, aE, ac, ← List.map_take, ← List.map_drop, hnil, List.append_nil] <;> rfl)) ?_; refine SmG.store hF rfl rfl rfl rfl rfl (by simp (disch := omega) only [go_sem, Nat.reduceEqDiff, aE, ac, ← List.map_take, ← List.map_drop, hnil, List.append_nil] <;> rfl) ?_
    refine SmG.nil (aa (Sm.seq ?_)); refine ab hF rfl ?_; refine gv hF (ag rfl rfl (by simp (disch := omega) only [go_sem, Nat.reduceEqDiff, aE, ac, ← List.map_take, ← List.map_drop, hnil, List.append_nil] <;> rfl)) ?_; refine gv hF (ae rfl rfl (by simp (disch := omega) only [go_sem, Nat.reduceEqDiff, aE, ac, ← List.map_take, ← List.map_drop, hnil, List.append_nil] <;> rfl)) ?_; refine SmG.call hF rfl rfl (by kernel_rfl) rfl rfl rfl (csx) ?_; refine gv hF (ag rfl rfl (by simp (disch := omega) only [go_sem, Nat.reduceEqDiff, aE, ac, ← List.map_take, ← List.map_drop, hnil, List.append_nil] <;> rfl)) ?_; refine SmG.store hF rfl rfl rfl rfl rfl (by simp (disch := omega) only [go_sem, Nat.reduceEqDiff, aE, ac, ← List.map_take, ← List.map_drop, hnil, List.append_nil] <;> rfl) ?_; refine SmG.nil (aa (Sm.seq ?_)); refine Sm.to (cP (st' := ⟨[(2, .ref 0 0 0), (5, .ref 2 0 0)], [(2, ⟨36, [(Rcd.row ⟨true, kind, (be l1 : Nat), x, sv⟩).map V.d]⟩), (0, ⟨36, [([.v (.bool false), .v (.int .u8 0), .v (.int .i64 0), .list 0 [] true] ++ List.replicate 32 (.v (.int .u8 0)) : List D).map V.d]⟩)], 3⟩) (aK ⟨rfl, rfl, trivial⟩ ⟨rfl, rfl, trivial⟩ (Nat.le_refl _))) ?_; refine ab hF rfl ?_; refine gv hF (ae rfl rfl (gy gt mQ rfl)) ?_; refine SmG.store hF rfl rfl rfl rfl rfl (fe gt rfl rfl) ?_; refine SmG.nil (aa (Sm.ret ?_)); simp only [a9, bQ]; exact cG rfl rfl (gy gt mQ rfl) (D.le.refl _)
   ·rw [if_neg (by omega), if_neg (by omega)]; refine ab hF rfl ?_; refine gv hF oM ?_; refine gv hF (ak rfl rfl rfl (by simp (disch := omega) only [go_sem, Nat.reduceEqDiff, aE, ac, ← List.map_take, ← List.map_drop, hk, ai, aG, hm5] <;> rfl)) ?_; refine gv hF (ae rfl rfl (by simp (disch := omega) only [go_sem, Nat.reduceEqDiff, aE, ac, ← List.map_take, ← List.map_drop, hk, ai, aG, hm5] <;> rfl)) ?_; refine gv hF (ah rfl rfl rfl (by exact dM _ _ _ _ _ (by omega))) ?_; refine gv hF oM ?_; refine gv hF oM ?_; refine gv hF (bB rfl rfl rfl rfl rfl (by simp (disch := omega) only [go_sem, Nat.reduceEqDiff, aE, ac, ← List.map_take, ← List.map_drop, hk, ai, aG, hm5] <;> rfl)) ?_; refine SmG.call hF rfl rfl (by kernel_rfl) rfl rfl rfl (cr5) ?_; refine gv hF oM ?_; refine gv hF (ah rfl rfl rfl (by exact gN _ _ _ _ _ (aY _ (by omega)))) ?_; refine gv hF (ah rfl rfl rfl (by exact dM _ _ _ _ _ (by omega))) ?_; refine gv hF (aO rfl rfl rfl) ?_; refine gv hF oM ?_; refine gv hF oM ?_; refine gv hF (ah rfl rfl rfl (by exact gN _ _ _ _ _ (aY _ (by omega)))) ?_; refine gv hF (ah rfl rfl rfl (by exact vP _ _ _ _ _ (by omega))) ?_; refine gv hF (aO rfl rfl rfl) ?_; refine SmG.nil (aa ?_); refine aS hF rfl ?_; refine Sm.skip ?_; refine aa (Sm.seq (Sm.seq ?_)); refine ab hF rfl ?_; refine gv hF oM ?_; refine gv hF (ak rfl rfl rfl (by simp (disch := omega) only [go_sem, Nat.reduceEqDiff, aE, ac, ← List.map_take, ← List.map_drop, hk, ai, aG, hm5] <;> rfl)) ?_; refine gv hF (ae rfl rfl (by simp (disch := omega) only [go_sem, Nat.reduceEqDiff, aE, ac, ← List.map_take, ← List.map_drop, hk, ai, aG, hm5] <;> rfl)) ?_; refine gv hF (ah rfl rfl rfl (by exact mF _ _ _ _ _ (by omega))) ?_; refine gv hF oM ?_; refine gp hF ?_; refine gp hF ?_; refine gv hF (aO rfl rfl rfl) ?_; refine SmG.nil (aa ?_); refine aZ hF rfl ?_; refine Sm.seq ?_; refine ab hF rfl ?_; refine gv hF (cU rfl Tryd.underlying64 (by kernel_rfl) rfl vl) ?_; refine SmG.store hF rfl rfl rfl rfl rfl (fe gt rfl rfl) ?_; refine SmG.nil (aa (Sm.ret ?_))
    simp only [a9, bQ]; refine cG rfl rfl (gy gt mQ rfl) (mG _ rfl)
  ·rw [if_neg (by omega), if_neg (by omega)]; refine ab hF rfl ?_; refine gv hF oM ?_; refine gv hF (ak rfl rfl rfl (by simp (disch := omega) only [go_sem, Nat.reduceEqDiff, aE, ac, ← List.map_take, ← List.map_drop, hk, ai, aG, hm5] <;> rfl)) ?_; refine gv hF (ae rfl rfl (by simp (disch := omega) only [go_sem, Nat.reduceEqDiff, aE, ac, ← List.map_take, ← List.map_drop, hk, ai, aG, hm5] <;> rfl)) ?_; refine gv hF (ah rfl rfl rfl (by exact dM _ _ _ _ _ (by omega))) ?_; refine gv hF oM ?_; refine gv hF oM ?_; refine gv hF (bB rfl rfl rfl rfl rfl (by simp (disch := omega) only [go_sem, Nat.reduceEqDiff, aE, ac, ← List.map_take, ← List.map_drop, hk, ai, aG, hm5] <;> rfl)) ?_; refine SmG.call hF rfl rfl (by kernel_rfl) rfl rfl rfl (cr5) ?_; refine gv hF oM ?_; refine gv hF (ah rfl rfl rfl (by exact gN _ _ _ _ _ (aY _ (by omega)))) ?_; refine gv hF (ah rfl rfl rfl (by exact jw _ _ _ _ _ (by omega))) ?_; refine gv hF (aO rfl rfl rfl) ?_; refine gv hF oM ?_; refine gp hF ?_; refine gp hF ?_; refine gp hF ?_; refine gv hF (aU rfl rfl rfl) ?_; refine SmG.nil (aa ?_); refine aS hF rfl ?_; refine Sm.skip ?_; refine aa (Sm.seq (Sm.seq ?_)); refine ab hF rfl ?_; refine gv hF oM ?_; refine gv hF (ak rfl rfl rfl (by simp (disch := omega) only [go_sem, Nat.reduceEqDiff, aE, ac, ← List.map_take, ← List.map_drop, hk, ai, aG, hm5] <;> rfl)) ?_; refine gv hF (ae rfl rfl (by simp (disch := omega) only [go_sem, Nat.reduceEqDiff, aE, ac, ← List.map_take, ← List.map_drop, hk, ai, aG, hm5] <;> rfl)) ?_; refine gv hF (ah rfl rfl rfl (by exact mF _ _ _ _ _ (by omega))) ?_; refine gv hF oM ?_; refine gp hF ?_; refine gp hF ?_; refine gv hF (aO rfl rfl rfl) ?_; refine SmG.nil (aa ?_); refine aZ hF rfl ?_; refine Sm.seq ?_; refine ab hF rfl ?_; refine gv hF (cU rfl Tryd.underlying64 (by kernel_rfl) rfl vl) ?_; refine SmG.store hF rfl rfl rfl rfl rfl (fe gt rfl rfl) ?_; refine SmG.nil (aa (Sm.ret ?_)); simp only [a9, bQ]; refine cG rfl rfl (gy gt mQ rfl) (mG _ rfl)
 ·by_cases k68 : kind.toNat = 68
  ·by_cases c37 : E = 37
   ·rw [if_neg (by omega), if_pos ⟨k68, c37⟩]; have hL : ((b.take E).drop 5).length = 32 := by simp; omega
    have hLi : ∀ i, i < 32 → b[5 + i]? = ((b.take E).drop 5)[i]? := fun i hi => by
     rw [List.getElem?_drop, List.getElem?_take, if_pos (by omega)]
    generalize (b.take E).drop 5 = L at hL hLi; refine ab hF rfl ?_; refine gv hF oM ?_; refine gv hF (ak rfl rfl rfl (by simp (disch := omega) only [go_sem, Nat.reduceEqDiff, aE, ac, ← List.map_take, ← List.map_drop, hk, ai, aG, hm5] <;> rfl)) ?_; refine gv hF (ae rfl rfl (by simp (disch := omega) only [go_sem, Nat.reduceEqDiff, aE, ac, ← List.map_take, ← List.map_drop, hk, ai, aG, hm5] <;> rfl)) ?_; refine gv hF (ah rfl rfl rfl (by exact jw _ _ _ _ _ (by omega))) ?_; refine gv hF oM ?_; refine gp hF ?_; refine gp hF ?_; refine gp hF ?_; refine gp hF ?_; refine gp hF ?_; refine gp hF ?_; refine gv hF (aU rfl rfl rfl) ?_; refine gv hF oM ?_; refine gp hF ?_; refine gp hF ?_; refine gp hF ?_; refine gv hF (aU rfl rfl rfl) ?_; refine SmG.nil (aa ?_); refine aS hF rfl ?_; refine Sm.skip ?_; refine aa (Sm.seq (Sm.seq ?_)); refine ab hF rfl ?_; refine gv hF oM ?_; refine gv hF (ak rfl rfl rfl (by simp (disch := omega) only [go_sem, Nat.reduceEqDiff, aE, ac, ← List.map_take, ← List.map_drop, hk, ai, aG, hm5] <;> rfl)) ?_; refine gv hF (ae rfl rfl (by simp (disch := omega) only [go_sem, Nat.reduceEqDiff, aE, ac, ← List.map_take, ← List.map_drop, hk, ai, aG, hm5] <;> rfl)) ?_; refine gv hF (ah rfl rfl rfl (by exact iJ _ _ _ _ _ (by omega))) ?_; refine gv hF oM ?_; refine gv hF oM ?_; refine gv hF (ah rfl rfl rfl (by exact iJ _ _ _ _ _ (by omega))) ?_; refine gv hF (aU rfl rfl rfl) ?_; refine SmG.nil (aa ?_); refine aS hF rfl ?_; refine Sm.skip ?_; refine aa (Sm.seq (Sm.seq ?_)); refine Sm.to (cP (st' := ⟨[(0, .d (.list 1 (b.map ai) false)), (2, .ref 0 0 0), (5, .ref 2 0 0)], [(2, ⟨36, [(oh kind (be l1 : Nat) L 0).map V.d]⟩), (0, ⟨36, [([.v (.bool false), .v (.int .u8 0), .v (.int .i64 0), .list 0 [] true] ++ List.replicate 32 (.v (.int .u8 0)) : List D).map V.d]⟩)], 3⟩) (aK ⟨rfl, rfl, rfl, trivial⟩ ⟨rfl, rfl, trivial⟩ (Nat.le_refl _))) ?_; refine ab hF rfl ?_; refine gv hF oA (SmG.nil (aa (Sm.block ?_))); refine Sm.loop (ι := {i : Nat // i ≤ 32}) (fun i => ⟨[(0, .d (.list 1 (b.map ai) false)), (2, .ref 0 0 0), (5, .ref 2 0 0), (6, .d (.v (.int .i64 i.1)))], [(2, ⟨36, [(oh kind (be l1 : Nat) L i.1).map V.d]⟩), (0, ⟨36, [([.v (.bool false), .v (.int .u8 0), .v (.int .i64 0), .list 0 [] true] ++ List.replicate 32 (.v (.int .u8 0)) : List D).map V.d]⟩)], 3⟩) (fun i => 32 - i.1) (⟨0, by omega⟩) ?_ ?_
    ·exact aK ⟨rfl, rfl, rfl, rfl, trivial⟩ ⟨rfl, rfl, trivial⟩ (Nat.le_refl _)
    rintro ⟨i, hi⟩; simp only; by_cases hlt : i < 32
    ·obtain ⟨y, hy⟩ : ∃ y, L[i]? = some y := ⟨L[i]'(by omega), List.getElem?_eq_getElem (by omega)⟩
     have hby : b[5 + i]? = some y := by rw [hLi i hlt, hy]
     have h5i : (5 : Int) + (i : Int) = ((5 + i : Nat) : Int) := by omega
     refine Sm.seq (Sm.seq ?_); refine ab hF rfl ?_; refine gv hF oM ?_; refine gv hF (ah rfl rfl rfl (by exact eh _ _ _ _ _ (by omega))) ?_; refine SmG.nil (aa ?_); refine aZ hF rfl ?_; refine Sm.skip ?_; refine aa (Sm.seq (Sm.block ?_)); refine ab hF rfl ?_; refine gv hF oM (gv hF oM (gv hF oM ?_)); refine gv hF (ah rfl rfl rfl ((eJ _ _ _ _ _ (aY _ (by omega))).trans (by rw [h5i]))) ?_; refine gv hF (ak rfl rfl rfl (by simp (disch := omega) only [go_sem, Nat.reduceEqDiff, aE, hby, ai, aG] <;> rfl)) ?_; refine gv hF (ae rfl rfl (by simp (disch := omega) only [go_sem, Nat.reduceEqDiff, aE, hby, ai, aG] <;> rfl)) ?_; refine gv hF (ag rfl rfl (by simp (disch := omega) only [go_sem, Nat.reduceEqDiff, aE, hby, ai, aG] <;> rfl)) ?_; refine gv hF (ak rfl rfl rfl (by simp (disch := omega) only [go_sem, Nat.reduceEqDiff, aE, hby, ai, aG] <;> rfl)) ?_; refine SmG.store hF rfl rfl rfl rfl rfl (FH hL hy rfl) ?_; refine SmG.nil (aI (aa ?_)); refine ab hF rfl ?_; refine gv hF oM ?_; refine gv hF (ah rfl rfl rfl (by exact eJ _ _ _ _ _ (aY _ (by omega)))) ?_; refine gv hF oA (SmG.nil (aa ?_)); exact ⟨⟨i + 1, by omega⟩, by show 32 - (i + 1) < 32 - i; omega, aK ⟨rfl, rfl, rfl, rfl, trivial⟩ ⟨rfl, rfl, trivial⟩ (Nat.le_refl _)⟩
    ·obtain rfl : i = 32 := by omega
     refine Sm.seq (Sm.seq ?_); refine ab hF rfl ?_; refine gv hF oM ?_; refine gv hF (ah rfl rfl rfl (by exact eM _ _ _ _ _ (by omega))) ?_; refine SmG.nil (aa ?_); refine aS hF rfl ?_; refine Sm.exit ?_; simp only [a9, bQ, reduceIte, reduceCtorEq]; refine Sm.seq ?_; refine ab hF rfl ?_; refine gv hF (ae rfl rfl (gy gt mQ rfl)) ?_; refine SmG.store hF rfl rfl rfl rfl rfl (fe gt rfl rfl) ?_; refine SmG.nil (aa (Sm.ret ?_)); refine cG rfl rfl (gy gt mQ rfl) ?_; have hv : (r8 L).l = L := by unfold r8; rw [dif_pos hL]
     refine fN ?_; simp only [oh, Rcd.row, hv, Nat.sub_self, List.replicate_zero, List.append_nil, List.take_of_length_le (Nat.le_of_eq hL)]; exact ⟨D.le.refl _, D.le.refl _, D.le.refl _, cd 0 1 true, leL.refl _⟩
   ·rw [if_neg (by omega), if_neg (by omega)]; refine ab hF rfl ?_; refine gv hF oM ?_; refine gv hF (ak rfl rfl rfl (by simp (disch := omega) only [go_sem, Nat.reduceEqDiff, aE, ac, ← List.map_take, ← List.map_drop, hk, ai, aG, hm5] <;> rfl)) ?_; refine gv hF (ae rfl rfl (by simp (disch := omega) only [go_sem, Nat.reduceEqDiff, aE, ac, ← List.map_take, ← List.map_drop, hk, ai, aG, hm5] <;> rfl)) ?_; refine gv hF (ah rfl rfl rfl (by exact jw _ _ _ _ _ (by omega))) ?_; refine gv hF oM ?_; refine gp hF ?_; refine gp hF ?_; refine gp hF ?_; refine gp hF ?_; refine gp hF ?_; refine gp hF ?_; refine gv hF (aU rfl rfl rfl) ?_; refine gv hF oM ?_; refine gp hF ?_; refine gp hF ?_; refine gp hF ?_; refine gv hF (aU rfl rfl rfl) ?_; refine SmG.nil (aa ?_); refine aS hF rfl ?_; refine Sm.skip ?_; refine aa (Sm.seq (Sm.seq ?_)); refine ab hF rfl ?_; refine gv hF oM ?_; refine gv hF (ak rfl rfl rfl (by simp (disch := omega) only [go_sem, Nat.reduceEqDiff, aE, ac, ← List.map_take, ← List.map_drop, hk, ai, aG, hm5] <;> rfl)) ?_; refine gv hF (ae rfl rfl (by simp (disch := omega) only [go_sem, Nat.reduceEqDiff, aE, ac, ← List.map_take, ← List.map_drop, hk, ai, aG, hm5] <;> rfl)) ?_; refine gv hF (ah rfl rfl rfl (by exact iJ _ _ _ _ _ (by omega))) ?_; refine gv hF oM ?_; refine gv hF oM ?_; refine gv hF (ah rfl rfl rfl (by exact mF _ _ _ _ _ (by omega))) ?_; refine gv hF (aU rfl rfl rfl) ?_; refine SmG.nil (aa ?_); refine aZ hF rfl ?_; refine Sm.seq ?_; refine ab hF rfl ?_; refine gv hF (cU rfl Tryd.underlying64 (by kernel_rfl) rfl vl) ?_; refine SmG.store hF rfl rfl rfl rfl rfl (fe gt rfl rfl) ?_; refine SmG.nil (aa (Sm.ret ?_)); simp only [a9, bQ]; refine cG rfl rfl (gy gt mQ rfl) (mG _ rfl)
  ·rw [if_neg (by omega), if_neg (by omega)]; refine ab hF rfl ?_; refine gv hF oM ?_; refine gv hF (ak rfl rfl rfl (by simp (disch := omega) only [go_sem, Nat.reduceEqDiff, aE, ac, ← List.map_take, ← List.map_drop, hk, ai, aG, hm5] <;> rfl)) ?_; refine gv hF (ae rfl rfl (by simp (disch := omega) only [go_sem, Nat.reduceEqDiff, aE, ac, ← List.map_take, ← List.map_drop, hk, ai, aG, hm5] <;> rfl)) ?_; refine gv hF (ah rfl rfl rfl (by exact jw _ _ _ _ _ (by omega))) ?_; refine gv hF oM ?_; refine gp hF ?_; refine gp hF ?_; refine gp hF ?_; refine gp hF ?_; refine gp hF ?_; refine gp hF ?_; refine gv hF (aU rfl rfl rfl) ?_; refine gv hF oM ?_; refine gp hF ?_; refine gp hF ?_; refine gp hF ?_; refine gv hF (aU rfl rfl rfl) ?_; refine SmG.nil (aa ?_); refine aS hF rfl ?_; refine Sm.skip ?_; refine aa (Sm.seq (Sm.seq ?_)); refine ab hF rfl ?_; refine gv hF oM ?_; refine gv hF (ak rfl rfl rfl (by simp (disch := omega) only [go_sem, Nat.reduceEqDiff, aE, ac, ← List.map_take, ← List.map_drop, hk, ai, aG, hm5] <;> rfl)) ?_; refine gv hF (ae rfl rfl (by simp (disch := omega) only [go_sem, Nat.reduceEqDiff, aE, ac, ← List.map_take, ← List.map_drop, hk, ai, aG, hm5] <;> rfl)) ?_; refine gv hF (ah rfl rfl rfl (by exact mF _ _ _ _ _ (by omega))) ?_; refine gv hF oM ?_; refine gp hF ?_; refine gp hF ?_; refine gv hF (aO rfl rfl rfl) ?_; refine SmG.nil (aa ?_); refine aZ hF rfl ?_; refine Sm.seq ?_; refine ab hF rfl ?_; refine gv hF (cU rfl Tryd.underlying64 (by kernel_rfl) rfl vl) ?_; refine SmG.store hF rfl rfl rfl rfl rfl (fe gt rfl rfl) ?_; refine SmG.nil (aa (Sm.ret ?_)); simp only [a9, bQ]; refine cG rfl rfl (gy gt mQ rfl) (mG _ rfl)
end
section
theorem Eb (x : Ob) : seg (List.drop 0 x.row) (33 - 0) 0 32 = ay x.sum.l := by
 unfold seg; rw [if_neg (by decide), List.drop_zero, List.drop_zero, ju]
noncomputable def dh (a0 : List Ob) (a1 : List UInt8) (s1 : Int) : Option (Int ⊕ (Unit ⊕ Int)) :=
 bif (decide (s1 < (a0.length : Int))) then (
  ob (idx a0 s1) fun x6 =>
  ob (vN 32 x6.sum.l) fun x7 =>
  ob (vN 32 a1) fun x8 =>
  bif (x6.sum.l == a1) then (
   some (.inr (.inr s1))
  ) else (
   ob (arI .i64 (s1 + 1)) fun x10 =>
   some (.inl x10)
  )
 ) else (
  some (.inr (.inl ()))
 )
noncomputable def f6 (a0 : List Ob) (a1 : List UInt8) : Option Int :=
 ob ((
  cH (dh a0 a1) 0
  : Option (Unit ⊕ Int))) fun o12 => match o12 with
 | .inl v11 => (
  some (-1)
  )
 | .inr e13 => some e13
set_option maxHeartbeats 4000000 in
theorem pu {a0 : List Ob} {a1 : List UInt8} {r : Int} (h : f6 a0 a1 = some r) : aj Tryd.prog HG 30 [.list 33 (a0.map Ob.row) false, .agg 32 (ay a1)] (.i r) := by
 unfold f6 at h; refine aj.of Tryd.func30 rfl Tryd.ntmps30 (by simp) ?_; intro F hF h0 hT; show Sm F _ _ ⟨[(0, .d (.list 33 (a0.map Ob.row) false)), (1, .d (.agg 32 (ay a1)))], [], 0⟩; refine sr hF ?_; refine pa hF Ex ?_; refine gv hF oA (sn (Sm.seq ?_)); obtain ⟨o12, ho12, h⟩ := aq h; rcases xR o12 with ⟨e13, rfl⟩ | ⟨v11, rfl⟩
 ·have he13 := aW h; subst he13; replace h := ho12; refine sr hF (gv hF oA (sn (Sm.block ?_))); refine ey (dh a0 a1) (fun s1 => ⟨[(0, .d (.list 33 (a0.map Ob.row) false)), (3, .d (.ptr 32 (ay a1))), (5, .i s1)], [], 0⟩) 0 h (kA) ?_; intro n2 s1 o3 h hd4; unfold dh at h; refine Sm.seq (sr hF (gv hF oM (gv hF oM (gv hF (oN (eF u24)) (gv hF (oB (fS)) (sn ?_)))))); refine cJ hF rfl (fun hc5 => ?_) (fun hc5 => ?_)
  ·replace h := ifF hc5 h; refine Sm.exit ?_; replace h := bU h hd4; cases h
  replace h := ifT hc5 h; refine sk (Sm.seq (Sm.block (Sm.seq ?_))); refine dG hF 6 ?_; refine hv hF oM (hv hF oM ?_); obtain ⟨x6, hx6, h⟩ := aq h; refine hv hF (oI (eE u24 fF hx6)) (hv hF (oF (f8 Dl rfl)) (hv hF (x := .d (.agg 32 (ay x6.sum.l))) (oL (jO nZ ol rfl (Eb x6))) (hv hF (x := .d (.agg 32 (ay a1))) (oL (jO nZ ol rfl rfl)) ?_))); refine hE ?_; obtain ⟨x7, hx7, h⟩ := aq h; obtain ⟨x8, hx8, h⟩ := aq h; refine gv hF (jv rfl rfl rfl (tT (by kernel_rfl) (by kernel_rfl) (uW hx7) (uW hx8))) (sn ?_); refine cJ hF rfl (fun hc9 => ?_) (fun hc9 => ?_)
  ·replace h := ifF hc9 h; refine Sm.skip ?_; refine aI (aa ?_); refine ab hF rfl ?_; refine gv hF oM ?_; obtain ⟨x10, hx10, h⟩ := aq h; refine gv hF (oB (dQ hx10)) (gv hF oA (SmG.nil ?_)); exact eU (dI h hd4) (kA)
  replace h := ifT hc9 h; refine sr hF (gv hF oM (gv hF oA (sn (Sm.ret ?_)))); replace h := bU h hd4; replace h := rO h; obtain rfl := aW h; exact kR rfl rfl
 refine gY ⟨[], [], 0⟩ ?_ ?_
 ·refine Sm.seq ?_; refine ab hF rfl ?_; refine gv hF oA (sn (Sm.ret ?_)); obtain rfl := aW h; exact kR rfl rfl
 replace h := ho12; refine sr hF (gv hF oA (sn (Sm.block ?_))); refine ey (dh a0 a1) (fun s1 => ⟨[(0, .d (.list 33 (a0.map Ob.row) false)), (3, .d (.ptr 32 (ay a1))), (5, .i s1)], [], 0⟩) 0 h (kA) ?_; intro n2 s1 o3 h hd4; unfold dh at h; refine Sm.seq (sr hF (gv hF oM (gv hF oM (gv hF (oN (eF u24)) (gv hF (oB (fS)) (sn ?_)))))); refine cJ hF rfl (fun hc5 => ?_) (fun hc5 => ?_)
 ·replace h := ifF hc5 h; refine Sm.exit ?_; replace h := bU h hd4; obtain rfl := aW (rN h); exact (kA)
 replace h := ifT hc5 h; refine sk (Sm.seq (Sm.block (Sm.seq ?_))); refine dG hF 6 ?_; refine hv hF oM (hv hF oM ?_); obtain ⟨x6, hx6, h⟩ := aq h; refine hv hF (oI (eE u24 fF hx6)) (hv hF (oF (f8 Dl rfl)) (hv hF (x := .d (.agg 32 (ay x6.sum.l))) (oL (jO nZ ol rfl (Eb x6))) (hv hF (x := .d (.agg 32 (ay a1))) (oL (jO nZ ol rfl rfl)) ?_))); refine hE ?_; obtain ⟨x7, hx7, h⟩ := aq h; obtain ⟨x8, hx8, h⟩ := aq h; refine gv hF (jv rfl rfl rfl (tT (by kernel_rfl) (by kernel_rfl) (uW hx7) (uW hx8))) (sn ?_); refine eQ hF rfl (fun hc9 => ?_) (fun hc9 => ?_)
 ·replace h := ifT hc9 h; refine sr hF (gv hF oM (gv hF oA (sn (Sm.ret ?_)))); replace h := bU h hd4; cases h
 replace h := ifF hc9 h; refine Sm.skip ?_; refine aI (aa ?_); refine ab hF rfl ?_; refine gv hF oM ?_; obtain ⟨x10, hx10, h⟩ := aq h; refine gv hF (oB (dQ hx10)) (gv hF oA (SmG.nil ?_)); exact eU (dI h hd4) (kA)
noncomputable def gH (a0 : List Ob) (a1 : Int) : Option (List Ob) :=
 ob (slc a0 0 a1) fun x1 =>
 ob (app ([] : List Ob) x1) fun x2 =>
 ob (arI .i64 (a1 + 1)) fun x3 =>
 ob (slc a0 x3 (a0.length : Int)) fun x4 =>
 ob (app x2 x4) fun x5 =>
 some x5
set_option maxHeartbeats 4000000 in
theorem nl {a0 : List Ob} {a1 : Int} {r : List Ob} (h : gH a0 a1 = some r) : b8 Tryd.prog HG 51 [.list 33 (a0.map Ob.row) false, .i a1] .one 33 (r.map Ob.row) [] := by
 unfold gH at h; refine b8.of Tryd.func51 rfl Tryd.ntmps51 (by simp) ?_; intro F hF h0 hT; show Sm F _ _ ⟨[(0, .d (.list 33 (a0.map Ob.row) false)), (1, .i a1)], [], 0⟩; refine sr hF (gv hF oA (sn (sr hF (gv hF (x := .d (.list 33 (([] : List Ob).map Ob.row) true)) (oS (se u24 fF)) (gv hF oM (gv hF oM ?_)))))); obtain ⟨x1, hx1, h⟩ := aq h; refine gv hF (bB rfl rfl rfl rfl rfl (Cn u24 fF hx1)) ?_; obtain ⟨x2, hx2, h⟩ := aq h; refine SmG.appendFreshL hF qT rfl (ys := x1) (row := Ob.row) rfl rfl rfl rfl rfl rfl rfl (.inl rfl) hx2 ?_; refine gv hF oA (sn (sr hF (gv hF oM (gv hF oM (gv hF oM ?_))))); obtain ⟨x3, hx3, h⟩ := aq h; refine gv hF (oB (dQ hx3)) ?_; obtain ⟨x4, hx4, h⟩ := aq h; refine gv hF (bB rfl rfl rfl rfl rfl (Co u24 fF hx4)) ?_; obtain ⟨x5, hx5, h⟩ := aq h; refine gD hF qT rfl (ys := x4) (row := Ob.row) rfl rfl rfl rfl rfl rfl rfl rfl (.inl rfl) hx5 (by (repeat' first | exact lM _ | refine kL ?_ | refine cQ ?_ (iG _ _ _) | refine cQ ?_ (iG _ _ [_]) | refine cQ ?_ (mW (by rfl)))) ?_; refine gv hF oA (sn (Sm.ret ?_)); obtain rfl := aW h; exact ln 0 rfl rfl rfl
theorem BL (l : List Ob) (k : Vec 32) (hl : l.length ≤ 4294967296) : f6 l k.l = some (cB l k.l) := by
 unfold f6; refine Ok.get ?_; refine Ok.bind (P := fun o => o = match aM l k.l with | some i => .inr (i : Int) | none => .inl ()) ?_ ?_
 ·refine Ok.loop (fun s : Int => ∃ i : Nat, s = i ∧ i ≤ l.length ∧ ∀ j x, j < i → l[j]? = some x → ¬ (x.sum.l = k.l)) (fun s : Int => l.length - s.toNat) ⟨0, rfl, by omega, fun j x h => by omega⟩ ?_; rintro _ ⟨i, rfl, h1, h2⟩; unfold dh; refine Ok.cond (fun c => ?_) fun c => Ok.ret ?_
  ·simp only [decide_eq_true_eq] at c; have hx : l[i]? = some (l[i]'(by omega)) := List.getElem?_eq_getElem _; generalize l[i]'(by omega) = x at hx; rw [eg, hx, ap, A0 x.sum.h, ap, A0 k.h, ap]; refine Ok.cond (fun c2 => Ok.ret ?_) fun c2 => ?_
   ·have hf : aM l k.l = some i := by
     unfold aM; rw [List.findIdx?_eq_some_iff_getElem]; refine ⟨by omega, ?_, fun j hj => ?_⟩
     ·rw [List.getElem?_eq_getElem (by omega)] at hx; rw [Option.some.inj hx]; exact c2
     ·have := h2 j _ hj (List.getElem?_eq_getElem (by omega)); simpa using this
    simp only [hf]
   ·rw [bP (by omega), ap]; refine Ok.ret ⟨⟨i + 1, by omega, by omega, fun j y hj hy => ?_⟩, by omega⟩; by_cases e : j = i
    ·subst e; rw [hx] at hy; cases hy; simpa using c2
    ·exact h2 j y (by omega) hy
  ·simp only [decide_eq_false_iff_not] at c; have hf : aM l k.l = none := by
    unfold aM; rw [List.findIdx?_eq_none_iff]; intro x hx; obtain ⟨j, hj, e⟩ := List.getElem_of_mem hx; have := h2 j x (by omega) (by rw [List.getElem?_eq_getElem hj, e]); simpa using this
   simp only [hf]
 ·rintro o rfl; unfold cB; cases aM l k.l <;> exact Ok.ret rfl
theorem yD (l : List Ob) (k : Vec 32) (hl : l.length ≤ 4294967296) : aj Tryd.prog HG 30 [.list 33 (l.map Ob.row) false, .agg 32 (ay k.l)] (.v (.int .i64 (cB l k.l))) := pu (BL l k hl)
theorem sD (l : List Ob) (i : Nat) (hl : l.length ≤ 1000000) (hi : i < l.length) : b8 Tryd.prog HG 51 [.list 33 (l.map Ob.row) false, .v (.int .i64 i)] .one 33 ((l.eraseIdx i).map Ob.row) [] := by
 refine nl (a0 := l) (a1 := (i : Int)) (r := l.eraseIdx i) ?_; unfold gH; rw [kd (by omega), ap, ez (by simp; omega), ap, bP (by omega), ap, kd (by omega), ap, ez (by simp; omega), ap]; have e : ((i : Int) + 1).toNat = i + 1 := by omega
 simp [e, List.eraseIdx_eq_take_drop_succ]
end
section
def fm (objs : List Ob) (n : Nat) (r : Rcd) : Option (List Ob) :=
 if r.ok = true ∧ r.n = (n : Int) ∧ (r.kind.toNat = 80 ↔ aM objs r.sum.l = none) ∧ ¬ (r.kind.toNat = 80 ∧ 256 ≤ objs.length) then
  (if r.kind.toNat = 80 then some (objs ++ [⟨r.sum, r.data⟩]) else (aM objs r.sum.l).map fun i => objs.eraseIdx i)
 else none
theorem gc (objs : List Ob) (n : Nat) : fm objs n vQ = none := by
 unfold fm; rw [if_neg]; rintro ⟨h, _⟩; cases h
theorem FG (objs : List Ob) (n : Nat) (B : List UInt8) (hB : 9 ≤ B.length) : qN objs n B = fm objs n (mw B) := by
 obtain ⟨kind, r1, rfl⟩ : ∃ kind r1, B = kind :: r1 := by
  cases B with
  | nil => simp at hB
  | cons a l => exact ⟨a, l, rfl⟩
 have hr1 : 8 ≤ r1.length := by simp at hB; omega
 have hBl : (kind :: r1).length = r1.length + 1 := rfl; have hk : (kind :: r1).getD 0 0 = kind := rfl; have h5 : (kind :: r1).drop 5 = r1.drop 4 := rfl; have h1 : (kind :: r1).drop 1 = r1 := rfl; have h9 : (kind :: r1).drop 9 = (r1.drop 4).drop 4 := by rw [List.drop_drop]; rfl
 have hG80 : kind.toNat = 80 → be ((r1.drop 4).take 4) + 9 = r1.length + 1 → r1.length + 1 ≤ 65545 → mw (kind :: r1) = ⟨true, kind, (be (r1.take 4) : Nat), (r1.drop 4).drop 4, cw ((r1.drop 4).drop 4)⟩ := fun a b c => by
  unfold mw; rw [hk, h5, h1, h9, hBl, if_pos ⟨a, b, c⟩]
 have hG68 : kind.toNat = 68 → r1.length + 1 = 37 → mw (kind :: r1) = ⟨true, kind, (be (r1.take 4) : Nat), [], r8 (r1.drop 4)⟩ := fun a b => by
  unfold mw; rw [hk, h5, h1, h9, hBl, if_neg (by omega), if_pos ⟨a, b⟩]
 have hGno : ¬ (kind.toNat = 80 ∧ be ((r1.drop 4).take 4) + 9 = r1.length + 1 ∧ r1.length + 1 ≤ 65545) → ¬ (kind.toNat = 68 ∧ r1.length + 1 = 37) → mw (kind :: r1) = vQ := fun a b => by
  unfold mw; rw [hk, h5, h1, h9, hBl, if_neg a, if_neg b]
 rw [eu, if_neg (by omega)]; have hl4 : (r1.drop 4).length = r1.length - 4 := by simp
 have hl8 : ((r1.drop 4).drop 4).length = r1.length - 8 := by simp only [List.length_drop]; omega
 by_cases cn : be (r1.take 4) = n
 ·rw [if_neg (by simp [cn])]; unfold fY; by_cases k80 : kind.toNat = 80
  ·rw [if_pos k80]; by_cases c1 : (r1.drop 4).length < 4 ∨ (r1.drop 4).length - 4 < be ((r1.drop 4).take 4)
   ·rw [if_pos c1, hGno (by omega) (by omega), gc]
   ·rw [if_neg c1]; unfold gk; have hd : (((r1.drop 4).drop 4).drop (be ((r1.drop 4).take 4))).length = r1.length - 8 - be ((r1.drop 4).take 4) := by rw [List.length_drop, hl8]
    by_cases c2 : be ((r1.drop 4).take 4) + 9 = r1.length + 1
    ·have hx : ((r1.drop 4).drop 4).take (be ((r1.drop 4).take 4)) = (r1.drop 4).drop 4 := List.take_of_length_le (by omega); rw [if_neg (by rw [hd]; omega), hx]; by_cases c3 : r1.length + 1 ≤ 65545
     ·rw [hG80 k80 c2 c3]; unfold fm; simp only [k80, true_and, true_iff, if_true, cn]; have hs : (cw ((r1.drop 4).drop 4)).l = Sha.sum ((r1.drop 4).drop 4) := rfl; rw [hs]; by_cases c4 : aM objs (Sha.sum ((r1.drop 4).drop 4)) = none ∧ objs.length < 256
      ·rw [if_pos ⟨by omega, c4⟩, if_pos ⟨c4.1, by omega⟩]
      ·rw [if_neg (fun h => c4 h.2), if_neg (fun h => c4 ⟨h.1, by omega⟩)]
     ·rw [if_neg (fun h => by have := h.1; omega), hGno (by omega) (by omega), gc]
    ·rw [if_pos (by rw [hd]; omega), hGno (by omega) (by omega), gc]
  ·rw [if_neg k80]; by_cases k68 : kind.toNat = 68
   ·rw [if_pos k68]; by_cases c1 : (r1.drop 4).length < 32
    ·rw [if_pos c1, hGno (by omega) (by omega), gc]
    ·rw [if_neg c1]; unfold fG; have hd : ((r1.drop 4).drop 32).length = r1.length - 36 := by rw [List.length_drop, hl4]; omega
     by_cases c2 : r1.length + 1 = 37
     ·have hx : (r1.drop 4).take 32 = r1.drop 4 := List.take_of_length_le (by omega); rw [if_neg (by rw [hd]; omega), hx, hG68 k68 c2]; have hv : (r8 (r1.drop 4)).l = r1.drop 4 := by unfold r8; rw [dif_pos (by omega)]
      unfold fm; simp only [hv, cn, k80, false_iff, false_and, not_false_eq_true, and_true, true_and, if_false]; cases aM objs (r1.drop 4) with
      | none => simp
      | some i => simp
     ·rw [if_pos (by rw [hd]; omega), hGno (by omega) (by omega), gc]
   ·rw [if_neg k68, hGno (by omega) (by omega), gc]
 ·rw [if_pos (by exact cn)]; symm; unfold fm; rw [if_neg]; rintro ⟨g1, g2, _⟩; by_cases a : kind.toNat = 80 ∧ be ((r1.drop 4).take 4) + 9 = r1.length + 1 ∧ r1.length + 1 ≤ 65545
  ·rw [hG80 a.1 a.2.1 a.2.2] at g2; simp at g2; omega
  ·by_cases b : kind.toNat = 68 ∧ r1.length + 1 = 37
   ·rw [hG68 b.1 b.2] at g2; simp at g2; omega
   ·rw [hGno a b] at g1; cases g1
theorem Hg (objs : List Ob) (n : Nat) (b : List UInt8) : bv objs n b = fm objs n (uH b) := by
 unfold bv uH; by_cases c1 : b.length < 41
 ·rw [if_pos c1, gc]; by_cases c0 : b.length < 32
  ·rw [if_pos c0]
  ·rw [if_neg c0]; split
   ·rfl
   ·have hl : (b.take (b.length - 32)).length ≤ 8 := by simp; omega
    generalize b.take (b.length - 32) = B at hl; cases B with
    | nil => rfl
    | cons k r =>
     have hr : r.length ≤ 7 := by simp at hl; omega
     rw [eu]; split
     ·rfl
     split
     ·rfl
     unfold fY; have hd : (r.drop 4).length ≤ 3 := by simp; omega
     split
     ·rw [if_pos (by omega)]
     ·split
      ·rw [if_pos (by omega)]
      ·rfl
 ·rw [if_neg c1, if_neg (by omega)]; by_cases c2 : Sha.sum (b.take (b.length - 32)) ≠ b.drop (b.length - 32)
  ·rw [if_pos c2, if_pos c2, gc]
  ·rw [if_neg c2, if_neg c2]; exact FG objs n _ (by simp; omega)
end
section
theorem BE (sz : Nat) (rows : List (List D)) : (dB sz rows).sz = sz := rfl
section
variable {h : List (Nat × Blk)} {l : Nat} {r : Rcd}
theorem lj (hl : look h l = some ⟨36, [r.row.map V.d]⟩) : aX Tryd.prog h 4 (.ref l 0 0) = some (.d (.v (.bool r.ok))) := by
 simp only [aX, hl, Option.bind_some, List.getElem?_cons_zero, cc, ag4]; rfl
theorem fJ (hl : look h l = some ⟨36, [r.row.map V.d]⟩) : aX Tryd.prog h 5 (.ref l 0 1) = some (.d (.v (.int .u8 (r.kind.toNat : Int)))) := by
 simp only [aX, hl, Option.bind_some, List.getElem?_cons_zero, cc, ag5]; rfl
theorem oG (hl : look h l = some ⟨36, [r.row.map V.d]⟩) : aX Tryd.prog h 3 (.ref l 0 2) = some (.d (.v (.int .i64 r.n))) := by
 simp only [aX, hl, Option.bind_some, List.getElem?_cons_zero, cc, ag3]; rfl
theorem BZ (hl : look h l = some ⟨36, [r.row.map V.d]⟩) : aX Tryd.prog h 30 (.ref l 0 3) = some (.d (.list 1 (r.data.map ai) false)) := by
 simp only [aX, hl, Option.bind_some, List.getElem?_cons_zero, cc, xZ]; rfl
theorem wH (hl : look h l = some ⟨36, [r.row.map V.d]⟩) : aX Tryd.prog h 42 (.ref l 0 4) = some (.d (.agg 32 (ay r.sum.l))) := by
 have hsl : (ay r.sum.l).length = 32 := cL r.sum.h; have hs : seg (r.row.map V.d) 36 4 32 = (ay r.sum.l).map V.d := by
  unfold seg; rw [if_neg (by decide), ← List.map_drop, ← List.map_take]
  congr 1
  simp only [Rcd.row, List.cons_append, List.nil_append, List.drop_succ_cons, List.drop_zero]; exact List.take_of_length_le (by omega)
 have hp : bu ((ay r.sum.l).map V.d) = some (ay r.sum.l) := gr _; simp only [aX, hl, Option.bind_some, List.getElem?_cons_zero, cc, nZ, ol, hs, hp]; rfl
end
theorem Da (n sz : Nat) (rows : List (List D)) : ∀ r ∈ (dB sz rows).rows, ∀ y ∈ r, V.lt n y = true ∧ y.noGh = true := by
 intro r hr y hy; obtain ⟨r0, _, rfl⟩ := List.mem_map.1 hr; obtain ⟨d, _, rfl⟩ := List.mem_map.1 hy; exact ⟨rfl, rfl⟩
theorem IY {F : Fr} (h0 : F.n0 = 0) (hgt : ∀ ds h μ C w, F.G ds h μ C w) {a b c : D} {objs' safe' : List (List D)} {n m : Nat} : St.to F ⟨[(0, .d a), (2, .ref 0 0 0), (3, .ref 1 0 0), (4, .d b)], [(3, dB 1 safe'), (5, dB 33 objs'), (1, ⟨3, [[.sref 5 0 n, .sref 3 0 m, .d c]]⟩), (0, ⟨3, [[.d c, .d c, .d c]]⟩)], 6⟩
  ⟨[(0, .d a), (2, .ref 0 0 0), (3, .ref 1 0 0), (4, .d b)], [(3, dB 1 safe'), (2, dB 33 objs'), (1, ⟨3, [[.sref 2 0 n, .sref 3 0 m, .d c]]⟩), (0, ⟨3, [[.d c, .d c, .d c]]⟩)], 4⟩ := by
 have hH : ∀ m' k', look ([(3, dB 1 safe'), (2, dB 33 objs'), (1, ⟨3, [[.sref 2 0 n, .sref 3 0 m, .d c]]⟩), (0, ⟨3, [[.d c, .d c, .d c]]⟩)] : List (Nat × Blk)) m' = some k' → m' < 4 ∧ look ([(3, dB 1 safe'), (5, dB 33 objs'), (1, ⟨3, [[.sref 5 0 n, .sref 3 0 m, .d c]]⟩), (0, ⟨3, [[.d c, .d c, .d c]]⟩)] : List (Nat × Blk)) (if m' = 2 then 5 else m') = some (k'.ren fun m => if m = 2 then 5 else m) ∧ (∀ r ∈ k'.rows, ∀ y ∈ r, V.lt 4 y = true ∧ y.noGh = true) := by
  intro m' k' hk; simp only [look] at hk; split at hk
  ·rename_i e; subst e; cases hk; exact ⟨by decide, by rw [qR]; rfl, Da _ _ _⟩
  split at hk
  ·rename_i e; subst e; cases hk; exact ⟨by decide, by rw [qR]; rfl, Da _ _ _⟩
  split at hk
  ·rename_i e; subst e; cases hk; refine ⟨by decide, rfl, fun r hr y hy => ?_⟩; simp at hr; subst hr; simp at hy; rcases hy with rfl | rfl | rfl <;> exact ⟨rfl, rfl⟩
  split at hk
  ·rename_i e; subst e; cases hk; refine ⟨by decide, rfl, fun r hr y hy => ?_⟩; simp at hr; subst hr; simp at hy; subst hy; exact ⟨rfl, rfl⟩
  cases hk
 refine Es (fun m => if m = 2 then 5 else m) (by omega) (by omega) ?_ hH ?_ (.inl hgt)
 ·intro t y hy; simp only [look] at hy; split at hy
  ·rename_i e; subst e; cases hy; exact ⟨rfl, rfl, rfl⟩
  split at hy
  ·rename_i e; subst e; cases hy; exact ⟨rfl, rfl, rfl⟩
  split at hy
  ·rename_i e; subst e; cases hy; exact ⟨rfl, rfl, rfl⟩
  split at hy
  ·rename_i e; subst e; cases hy; exact ⟨rfl, rfl, rfl⟩
  cases hy
 ·intro m1 m2 g1 g2 e; obtain ⟨k1, hk1⟩ := Option.isSome_iff_exists.1 g1; obtain ⟨k2, hk2⟩ := Option.isSome_iff_exists.1 g2; have l1 := (hH m1 k1 hk1).1; have l2 := (hH m2 k2 hk2).1; have e : (if m1 = 2 then 5 else m1) = (if m2 = 2 then 5 else m2) := e; split at e <;> split at e <;> omega
set_option maxHeartbeats 4000000 in
theorem Fb (rs : List (List UInt8)) (hrs : rs.length ≤ 1000000) (hb : ∀ b ∈ rs, b.length ≤ 1000000) : aj Tryd.prog HG 32 [.list 1 (rs.map av) false] (.agg 3 (Sto.row (cV [] [] rs))) := by
 refine tu Tryd.func32 rfl Tryd.ntmps32 (by simp) ?_; intro F hF h0 hT hgt; simp only [List.zipIdx_cons, List.zipIdx_nil, List.map_cons, List.map_nil, Nat.zero_add, Nat.reduceAdd]; refine Sm.seq ?_; refine ab hF rfl ?_; refine SmG.new hF rfl rfl rfl (aF rfl lP) ?_; refine SmG.nil (aa (Sm.seq ?_)); refine ab hF rfl ?_; refine gv hF (cU rfl Tryd.underlying27 (by kernel_rfl) rfl JP) ?_; refine SmG.new hF rfl rfl rfl (aF rfl lP) ?_; refine SmG.store hF rfl rfl rfl rfl rfl (fe il rfl rfl) ?_; refine SmG.nil (aa (Sm.seq (Sm.seq ?_))); refine ab hF rfl ?_; refine gv hF oA (SmG.nil (aa (Sm.block ?_))); simp only [rep, Nat.zero_add, Nat.reduceEqDiff, if_true, if_false]; refine oZ 1 0 0 33 rfl rfl rfl ?_; refine oZ 1 0 1 1 rfl rfl rfl ?_; refine Sm.loop (ι := {s : Sto // s.queue = [] ∧ s.objects.length ≤ 256 ∧ s.safe.length ≤ rs.length ∧ cV [] [] rs = cV s.objects s.safe (rs.drop s.safe.length)}) (fun s => ⟨[(0, .d (.list 1 (rs.map av) false)), (2, .ref 0 0 0), (3, .ref 1 0 0), (4, .d (.v (.int .i64 s.1.safe.length)))], [(3, dB 1 (s.1.safe.map av)), (2, dB 33 (s.1.objects.map Ob.row)), (1, ⟨3, [[.sref 2 0 s.1.objects.length, .sref 3 0 s.1.safe.length, .d (.list 0 [] true)]]⟩), (0, ⟨3, [[.d (.list 0 [] true), .d (.list 0 [] true), .d (.list 0 [] true)]]⟩)], 4⟩) (fun s => rs.length - s.1.safe.length) (⟨⟨[], [], []⟩, rfl, by decide, by simp, by simp⟩) ?_ ?_
 ·exact aK ⟨rfl, rfl, rfl, rfl, trivial⟩ ⟨rfl, rfl, rfl, rfl, trivial⟩ (Nat.le_refl _)
 rintro ⟨⟨objs, safe, queue⟩, hq, ho, hs, heq⟩; simp only at hq ho hs heq ⊢; have hfrz : ∀ (nx : Nat), St.to F ⟨[(2, .ref 0 0 0), (3, .ref 1 0 0)], [(3, dB 1 (safe.map av)), (2, dB 33 (objs.map Ob.row)), (1, ⟨3, [[.sref 2 0 objs.length, .sref 3 0 safe.length, .d (.list 0 [] true)]]⟩), (0, ⟨3, [[.d (.list 0 [] true), .d (.list 0 [] true), .d (.list 0 [] true)]]⟩)], nx⟩ ⟨[(2, .ref 0 0 0), (3, .ref 1 0 0)], [(1, ⟨3, [[.d (.list 33 (objs.map Ob.row) false), .d (.list 1 (safe.map av) false), .d (.list 0 [] true)]]⟩), (0, ⟨3, [[.d (.list 0 [] true), .d (.list 0 [] true), .d (.list 0 [] true)]]⟩)], nx⟩ := fun nx => by
  have h := fp (F := F) (st := ⟨[(2, .ref 0 0 0), (3, .ref 1 0 0)], [(3, dB 1 (safe.map av)), (2, dB 33 (objs.map Ob.row)), (1, ⟨3, [[.sref 2 0 objs.length, .sref 3 0 safe.length, .d (.list 0 [] true)]]⟩), (0, ⟨3, [[.d (.list 0 [] true), .d (.list 0 [] true), .d (.list 0 [] true)]]⟩)], nx⟩) (l := 2) (objs.map Ob.row) rfl rfl; have h2 := fp (F := F) (st := ⟨[(2, .ref 0 0 0), (3, .ref 1 0 0)], [(3, dB 1 (safe.map av)), (1, ⟨3, [[.d (.list 33 (objs.map Ob.row) false), .sref 3 0 safe.length, .d (.list 0 [] true)]]⟩), (0, ⟨3, [[.d (.list 0 [] true), .d (.list 0 [] true), .d (.list 0 [] true)]]⟩)], nx⟩) (l := 3) (safe.map av) rfl rfl; refine aR (st' := ⟨[(2, .ref 0 0 0), (3, .ref 1 0 0)], [(3, dB 1 (safe.map av)), (1, ⟨3, [[.d (.list 33 (objs.map Ob.row) false), .sref 3 0 safe.length, .d (.list 0 [] true)]]⟩), (0, ⟨3, [[.d (.list 0 [] true), .d (.list 0 [] true), .d (.list 0 [] true)]]⟩)], nx⟩) ?_ ?_
  ·simp only [gK, bK, db, rL, BE, reduceIte, Nat.reduceEqDiff] at h; simpa [cM, bc, cq] using h
  ·simp only [gK, bK, db, rL, BE, reduceIte, Nat.reduceEqDiff] at h2; simpa [cM, bc, cq] using h2
 by_cases hlt : safe.length < rs.length
 ·obtain ⟨b, hbi⟩ : ∃ b, rs[safe.length]? = some b := ⟨rs[safe.length], by simp⟩
  have hbl : b.length ≤ 1000000 := hb b (List.mem_of_getElem? hbi); have hdr : rs.drop safe.length = b :: rs.drop (safe.length + 1) := by
   rw [List.drop_eq_getElem_cons hlt]
   congr 1
   rw [List.getElem?_eq_getElem hlt] at hbi; exact Option.some.inj hbi
  have cread := DZ b hbl; have hstep := Hg objs safe.length b; generalize uH b = r at cread hstep; refine Sm.seq (Sm.seq ?_); refine ab hF rfl ?_; refine gv hF oM (gv hF oM ?_); refine gv hF (aJ rfl rfl (by simp only [go_sem, hbi, av, aB, ac] <;> rfl)) ?_; refine gv hF (ah rfl rfl rfl (by exact eh _ _ _ _ _ (by omega))) ?_; refine SmG.nil (aa ?_); refine aZ hF rfl ?_; refine Sm.skip ?_; refine aa (Sm.seq (Sm.block (Sm.seq ?_))); refine ab hF rfl ?_; refine gv hF oM (gv hF oM ?_); refine gv hF (ak rfl rfl rfl (by simp only [go_sem, hbi, av, aB, ac] <;> rfl)) ?_; refine gv hF (ae rfl rfl (by simp only [go_sem, hbi, av, aB, ac] <;> rfl)) ?_; refine SmG.call hF rfl rfl (by kernel_rfl) rfl rfl rfl (cread) ?_; refine SmG.new hF rfl rfl rfl (aF rfl Bj) ?_; refine SmG.store hF rfl rfl rfl rfl rfl (fe gt rfl rfl) ?_; refine SmG.nil (aa (Sm.seq ?_)); simp only [rep, if_true]; refine Sm.to (cP (st' := ⟨[(0, .d (.list 1 (rs.map av) false)), (2, .ref 0 0 0), (3, .ref 1 0 0), (4, .d (.v (.int .i64 safe.length))), (5, .ref 4 0 0)], [(4, ⟨36, [r.row.map V.d]⟩), (3, dB 1 (safe.map av)), (2, dB 33 (objs.map Ob.row)), (1, ⟨3, [[.sref 2 0 objs.length, .sref 3 0 safe.length, .d (.list 0 [] true)]]⟩), (0, ⟨3, [[.d (.list 0 [] true), .d (.list 0 [] true), .d (.list 0 [] true)]]⟩)], 5⟩) (aK ⟨rfl, rfl, rfl, rfl, rfl, trivial⟩ ⟨rfl, rfl, rfl, rfl, rfl, trivial⟩ (Nat.le_refl _))) ?_; refine ab hF rfl ?_; refine gv hF (ag rfl rfl (by simp only [go_sem, ac] <;> rfl)) ?_; refine gv hF (ae rfl rfl (by simp only [go_sem, ac] <;> rfl)) ?_; refine gv hF (ag rfl rfl (by simp only [go_sem, ac] <;> rfl)) ?_; refine gv hF (ae rfl rfl (wH rfl)) ?_; refine mK hF (l := 2) (objs.map Ob.row) rfl rfl (by kernel_rfl) rfl rfl rfl (by simp only [cM, bc]; simp; rfl) (yD objs r.sum (by omega)) (HE _) ?_; refine gv hF oA (SmG.nil (aa (Sm.seq (Sm.seq ?_)))); have hdone : bv objs safe.length b = none → cV [] [] rs = ⟨objs, safe, []⟩ := fun h => by
   rw [heq, hdr]; unfold cV; rw [h]
  cases hok : r.ok
  ·
   refine ab hF rfl ?_; refine gv hF (ag rfl rfl (by simp only [go_sem, ac] <;> rfl)) ?_; refine gv hF (ae rfl rfl ((lj rfl).trans (by rw [hok]))) ?_; refine gv hF (eI rfl rfl (by exact rW _)) ?_; refine gv hF oM ?_; refine gp hF ?_; refine gp hF ?_; refine gp hF ?_; refine gp hF ?_; refine gv hF (aO rfl rfl rfl) ?_; refine gv hF oM ?_; refine gp hF ?_; refine gp hF ?_; refine gp hF ?_; refine gp hF ?_; refine gp hF ?_; refine gp hF ?_; refine gv hF (aO rfl rfl rfl) ?_; refine gv hF oM ?_; refine gp hF ?_; refine gp hF ?_; refine gp hF ?_; refine gp hF ?_; refine gp hF ?_; refine gp hF ?_; refine gp hF ?_; refine gp hF ?_; refine gp hF ?_; refine gv hF (aO rfl rfl rfl) ?_; refine SmG.nil (aa ?_); refine aZ hF rfl ?_; refine Sm.seq ?_; refine Sm.to (aR (cP (st' := ⟨[(2, .ref 0 0 0), (3, .ref 1 0 0)], [(3, dB 1 (safe.map av)), (2, dB 33 (objs.map Ob.row)), (1, ⟨3, [[.sref 2 0 objs.length, .sref 3 0 safe.length, .d (.list 0 [] true)]]⟩), (0, ⟨3, [[.d (.list 0 [] true), .d (.list 0 [] true), .d (.list 0 [] true)]]⟩)], 5⟩) (aK ⟨rfl, rfl, trivial⟩ ⟨rfl, rfl, rfl, rfl, trivial⟩ (Nat.le_refl _))) (hfrz 5)) ?_; refine ab hF rfl ?_; refine gv hF (ae rfl rfl (cE rfl)) ?_; refine SmG.store hF rfl rfl rfl rfl rfl (fe il rfl rfl) ?_; refine SmG.nil (aa (Sm.ret ?_)); simp only [a9, bQ]; refine cG rfl rfl (gy il nY rfl) ?_; rw [hdone (by rw [hstep]; unfold fm; rw [if_neg]; rintro ⟨g1, g2, g3, g4⟩; rw [hok] at g1; cases g1)]; exact fN ⟨D.le.refl _, D.le.refl _, cd 0 1 true, trivial⟩
  by_cases hn : ¬ r.n = (safe.length : Int)
  ·
   refine ab hF rfl ?_; refine gv hF (ag rfl rfl (by simp only [go_sem, ac] <;> rfl)) ?_; refine gv hF (ae rfl rfl ((lj rfl).trans (by rw [hok]))) ?_; refine gv hF (eI rfl rfl (by exact fW _)) ?_; refine gv hF oM ?_; refine gv hF (ag rfl rfl (by simp only [go_sem, ac] <;> rfl)) ?_; refine gv hF (ae rfl rfl (oG rfl)) ?_; refine gv hF oM ?_; refine gv hF (ah rfl rfl rfl (by exact mF _ _ _ _ _ (by omega))) ?_; refine gv hF (aU rfl rfl rfl) ?_; refine gv hF oM ?_; refine gp hF ?_; refine gp hF ?_; refine gp hF ?_; refine gp hF ?_; refine gp hF ?_; refine gp hF ?_; refine gv hF (aO rfl rfl rfl) ?_; refine gv hF oM ?_; refine gp hF ?_; refine gp hF ?_; refine gp hF ?_; refine gp hF ?_; refine gp hF ?_; refine gp hF ?_; refine gp hF ?_; refine gp hF ?_; refine gp hF ?_; refine gv hF (aO rfl rfl rfl) ?_; refine SmG.nil (aa ?_); refine aZ hF rfl ?_; refine Sm.seq ?_; refine Sm.to (aR (cP (st' := ⟨[(2, .ref 0 0 0), (3, .ref 1 0 0)], [(3, dB 1 (safe.map av)), (2, dB 33 (objs.map Ob.row)), (1, ⟨3, [[.sref 2 0 objs.length, .sref 3 0 safe.length, .d (.list 0 [] true)]]⟩), (0, ⟨3, [[.d (.list 0 [] true), .d (.list 0 [] true), .d (.list 0 [] true)]]⟩)], 5⟩) (aK ⟨rfl, rfl, trivial⟩ ⟨rfl, rfl, rfl, rfl, trivial⟩ (Nat.le_refl _))) (hfrz 5)) ?_; refine ab hF rfl ?_; refine gv hF (ae rfl rfl (cE rfl)) ?_; refine SmG.store hF rfl rfl rfl rfl rfl (fe il rfl rfl) ?_; refine SmG.nil (aa (Sm.ret ?_)); simp only [a9, bQ]; refine cG rfl rfl (gy il nY rfl) ?_; rw [hdone (by rw [hstep]; unfold fm; rw [if_neg]; rintro ⟨g1, g2, g3, g4⟩; exact hn g2)]; exact fN ⟨D.le.refl _, D.le.refl _, cd 0 1 true, trivial⟩
  have hn : r.n = (safe.length : Int) := Classical.not_not.1 hn; by_cases k80 : r.kind.toNat = 80
  ·cases hfn : aM objs r.sum.l with
   | some i =>
    have hfz : cB objs r.sum.l = (i : Int) := by unfold cB; rw [hfn]
    rw [hfz]; refine ab hF rfl ?_; refine gv hF (ag rfl rfl (by simp only [go_sem, ac] <;> rfl)) ?_; refine gv hF (ae rfl rfl ((lj rfl).trans (by rw [hok]))) ?_; refine gv hF (eI rfl rfl (by exact fW _)) ?_; refine gv hF oM ?_; refine gv hF (ag rfl rfl (by simp only [go_sem, ac] <;> rfl)) ?_; refine gv hF (ae rfl rfl (oG rfl)) ?_; refine gv hF oM ?_; refine gv hF (ah rfl rfl rfl (by exact iJ _ _ _ _ _ (by omega))) ?_; refine gv hF (aU rfl rfl rfl) ?_; refine gv hF oM ?_; refine gv hF (ag rfl rfl (by simp only [go_sem, ac] <;> rfl)) ?_; refine gv hF (ae rfl rfl (fJ rfl)) ?_; refine gv hF (ah rfl rfl rfl (by exact dM _ _ _ _ _ (by omega))) ?_; refine gv hF oM ?_; refine gv hF (ah rfl rfl rfl (by exact eM _ _ _ _ _ (by omega))) ?_; refine gv hF (ah rfl rfl rfl (oP _ _ _ _ (by kernel_rfl) (by exact (rfl : _ = true)))) ?_; refine gv hF (aU rfl rfl rfl) ?_; refine gv hF oM ?_; refine gp hF ?_; refine gp hF ?_; refine gp hF ?_; refine gp hF ?_; refine gp hF ?_; refine gp hF ?_; refine gp hF ?_; refine gp hF ?_; refine gp hF ?_; refine gv hF (aO rfl rfl rfl) ?_; refine SmG.nil (aa ?_); refine aZ hF rfl ?_; refine Sm.seq ?_; refine Sm.to (aR (cP (st' := ⟨[(2, .ref 0 0 0), (3, .ref 1 0 0)], [(3, dB 1 (safe.map av)), (2, dB 33 (objs.map Ob.row)), (1, ⟨3, [[.sref 2 0 objs.length, .sref 3 0 safe.length, .d (.list 0 [] true)]]⟩), (0, ⟨3, [[.d (.list 0 [] true), .d (.list 0 [] true), .d (.list 0 [] true)]]⟩)], 5⟩) (aK ⟨rfl, rfl, trivial⟩ ⟨rfl, rfl, rfl, rfl, trivial⟩ (Nat.le_refl _))) (hfrz 5)) ?_; refine ab hF rfl ?_; refine gv hF (ae rfl rfl (cE rfl)) ?_; refine SmG.store hF rfl rfl rfl rfl rfl (fe il rfl rfl) ?_; refine SmG.nil (aa (Sm.ret ?_)); simp only [a9, bQ]; refine cG rfl rfl (gy il nY rfl) ?_; rw [hdone (by rw [hstep]; unfold fm; rw [if_neg]; rintro ⟨g1, g2, g3, g4⟩; rw [g3.1 k80] at hfn; cases hfn)]; exact fN ⟨D.le.refl _, D.le.refl _, cd 0 1 true, trivial⟩
   | none =>
    have hfz : cB objs r.sum.l = -1 := by unfold cB; rw [hfn]
    rw [hfz]; by_cases c4 : 256 ≤ objs.length
    ·
     refine ab hF rfl ?_; refine gv hF (ag rfl rfl (by simp only [go_sem, ac] <;> rfl)) ?_; refine gv hF (ae rfl rfl ((lj rfl).trans (by rw [hok]))) ?_; refine gv hF (eI rfl rfl (by exact fW _)) ?_; refine gv hF oM ?_; refine gv hF (ag rfl rfl (by simp only [go_sem, ac] <;> rfl)) ?_; refine gv hF (ae rfl rfl (oG rfl)) ?_; refine gv hF oM ?_; refine gv hF (ah rfl rfl rfl (by exact iJ _ _ _ _ _ (by omega))) ?_; refine gv hF (aU rfl rfl rfl) ?_; refine gv hF oM ?_; refine gv hF (ag rfl rfl (by simp only [go_sem, ac] <;> rfl)) ?_; refine gv hF (ae rfl rfl (fJ rfl)) ?_; refine gv hF (ah rfl rfl rfl (by exact dM _ _ _ _ _ (by omega))) ?_; refine gv hF oM ?_; refine gv hF (ah rfl rfl rfl (by exact eh _ _ _ _ _ (by omega))) ?_; refine gv hF (ah rfl rfl rfl (oP _ _ _ _ (by kernel_rfl) (by exact (rfl : _ = false)))) ?_; refine gv hF (aU rfl rfl rfl) ?_; refine gv hF oM ?_; refine gv hF (ag rfl rfl (by simp only [go_sem, ac] <;> rfl)) ?_; refine gv hF (ae rfl rfl (fJ rfl)) ?_; refine gv hF (ah rfl rfl rfl (by exact dM _ _ _ _ _ (by omega))) ?_; refine gv hF oM ?_; refine gv hF (ag rfl rfl (by simp only [go_sem, ac] <;> rfl)) ?_; refine gv hF (ae rfl rfl (by simp only [go_sem, ac] <;> rfl)) ?_; refine gv hF (aJ rfl rfl (by simp only [go_sem, ac] <;> rfl)) ?_; refine gv hF (ah rfl rfl rfl (by exact oR _ _ _ _ _ (by omega))) ?_; refine gv hF (aO rfl rfl rfl) ?_; refine gv hF (aU rfl rfl rfl) ?_; refine SmG.nil (aa ?_); refine aZ hF rfl ?_; refine Sm.seq ?_; refine Sm.to (aR (cP (st' := ⟨[(2, .ref 0 0 0), (3, .ref 1 0 0)], [(3, dB 1 (safe.map av)), (2, dB 33 (objs.map Ob.row)), (1, ⟨3, [[.sref 2 0 objs.length, .sref 3 0 safe.length, .d (.list 0 [] true)]]⟩), (0, ⟨3, [[.d (.list 0 [] true), .d (.list 0 [] true), .d (.list 0 [] true)]]⟩)], 5⟩) (aK ⟨rfl, rfl, trivial⟩ ⟨rfl, rfl, rfl, rfl, trivial⟩ (Nat.le_refl _))) (hfrz 5)) ?_; refine ab hF rfl ?_; refine gv hF (ae rfl rfl (cE rfl)) ?_; refine SmG.store hF rfl rfl rfl rfl rfl (fe il rfl rfl) ?_; refine SmG.nil (aa (Sm.ret ?_)); simp only [a9, bQ]
     refine cG rfl rfl (gy il nY rfl) ?_; rw [hdone (by rw [hstep]; unfold fm; rw [if_neg]; rintro ⟨g1, g2, g3, g4⟩; exact g4 ⟨k80, c4⟩)]; exact fN ⟨D.le.refl _, D.le.refl _, cd 0 1 true, trivial⟩
    ·have hnext : bv objs safe.length b = some (objs ++ [⟨r.sum, r.data⟩]) := by
      rw [hstep]; unfold fm; rw [if_pos ⟨hok, hn, ⟨fun _ => hfn, fun _ => k80⟩, fun h => c4 h.2⟩, if_pos k80]
     have hbo := sK r.sum r.data; refine ab hF rfl ?_; refine gv hF (ag rfl rfl (by simp only [go_sem, ac, hbi, av, aB] <;> rfl)) ?_; refine gv hF (ae rfl rfl ((lj rfl).trans (by rw [hok]))) ?_; refine gv hF (eI rfl rfl (by exact fW _)) ?_; refine gv hF oM ?_; refine gv hF (ag rfl rfl (by simp only [go_sem, ac, hbi, av, aB] <;> rfl)) ?_; refine gv hF (ae rfl rfl (oG rfl)) ?_; refine gv hF oM ?_; refine gv hF (ah rfl rfl rfl (by exact iJ _ _ _ _ _ (by omega))) ?_; refine gv hF (aU rfl rfl rfl) ?_; refine gv hF oM ?_; refine gv hF (ag rfl rfl (by simp only [go_sem, ac, hbi, av, aB] <;> rfl)) ?_; refine gv hF (ae rfl rfl (fJ rfl)) ?_; refine gv hF (ah rfl rfl rfl (by exact dM _ _ _ _ _ (by omega))) ?_; refine gv hF oM ?_; refine gv hF (ah rfl rfl rfl (by exact eh _ _ _ _ _ (by omega))) ?_; refine gv hF (ah rfl rfl rfl (oP _ _ _ _ (by kernel_rfl) (by exact (rfl : _ = false)))) ?_; refine gv hF (aU rfl rfl rfl) ?_; refine gv hF oM ?_; refine gv hF (ag rfl rfl (by simp only [go_sem, ac, hbi, av, aB] <;> rfl)) ?_; refine gv hF (ae rfl rfl (fJ rfl)) ?_; refine gv hF (ah rfl rfl rfl (by exact dM _ _ _ _ _ (by omega))) ?_; refine gv hF oM ?_; refine gv hF (ag rfl rfl (by simp only [go_sem, ac, hbi, av, aB] <;> rfl)) ?_; refine gv hF (ae rfl rfl (by simp only [go_sem, ac, hbi, av, aB] <;> rfl)) ?_; refine gv hF (aJ rfl rfl (by simp only [go_sem, ac, hbi, av, aB] <;> rfl)) ?_; refine gv hF (ah rfl rfl rfl (by exact oQ _ _ _ _ _ (by omega))) ?_; refine gv hF (aO rfl rfl rfl) ?_; refine gv hF (aU rfl rfl rfl) ?_; refine SmG.nil (aa ?_); refine aS hF rfl ?_; refine Sm.skip ?_; refine aa (Sm.seq (Sm.seq ?_)); refine ab hF rfl ?_; refine gv hF (ag rfl rfl (by simp only [go_sem, ac, hbi, av, aB] <;> rfl)) ?_; refine gv hF (ae rfl rfl (fJ rfl)) ?_; refine gv hF (ah rfl rfl rfl (by exact dM _ _ _ _ _ (by omega))) ?_; refine SmG.nil (aa ?_); refine aZ hF rfl ?_; refine ab hF rfl ?_; refine gv hF (ag rfl rfl (by simp only [go_sem, ac, hbi, av, aB] <;> rfl)) ?_; refine gv hF (ae rfl rfl (by simp only [go_sem, ac, hbi, av, aB] <;> rfl)) ?_
     refine gv hF (ag rfl rfl (by simp only [go_sem, ac, hbi, av, aB] <;> rfl)) ?_; refine gv hF (ae rfl rfl (wH rfl)) ?_; refine gv hF (ag rfl rfl (by simp only [go_sem, ac, hbi, av, aB] <;> rfl)) ?_; refine gv hF (ae rfl rfl (BZ rfl)) ?_; refine gv hF (cU rfl Tryd.underlying53 (by kernel_rfl) rfl hbo) ?_; refine gv hF (ba rfl rfl (by simp only [go_sem, ac, hbi, av, aB] <;> rfl)) ?_; rw [show objs.length = (objs.map Ob.row).length by simp]; refine jj hF qT rfl rfl rfl rfl rfl rfl rfl (by rfl) (Or.inl rfl) ?_ ?_ ?_; rotate_left; rotate_left; simp only [c8, Pk.v, V.free, rep, db, cq, mX, kO, nH, cD, List.map_cons, List.map_nil, bne_self_eq_false, Nat.reduceAdd, Nat.reduceBNe, Nat.reduceBEq, Nat.reduceEqDiff, reduceIte, Bool.false_eq_true]
     ·refine gv hF (ag rfl rfl (by simp only [go_sem, ac, hbi, av, aB] <;> rfl)) ?_; refine SmG.store hF rfl rfl rfl rfl rfl (by simp only [go_sem, ac, hbi, av, aB] <;> rfl) ?_; refine SmG.nil (aa ?_); refine eR hF (by kernel_rfl) rfl 7 (by kernel_rfl) (by kernel_rfl) ?_; simp only [List.take_succ_cons, List.take_zero, List.take_nil]; refine hv hF (ag rfl rfl (by simp only [go_sem, ac, hbi, av, aB] <;> rfl)) ?_; refine hv hF (ae rfl rfl (by simp only [go_sem, ac, hbi, av, aB] <;> rfl)) ?_; refine hv hF oM (hv hF oM ?_); refine hv hF (ak rfl rfl rfl (by simp only [go_sem, ac, hbi, av, aB] <;> rfl)) ?_; refine hv hF (ae rfl rfl (by simp only [go_sem, ac, hbi, av, aB] <;> rfl)) ?_; refine hv hF (ba rfl rfl (by simp only [go_sem, ac, hbi, av, aB] <;> rfl)) ?_; refine au.last ⟨rfl, ?_⟩; simp only [List.drop_succ_cons, List.drop_zero, List.drop_nil, List.nil_append, List.cons_append]; refine jj hF sO rfl rfl rfl rfl rfl rfl rfl (by (simp; done)) (Or.inl rfl) ?_ ?_ ?_; rotate_left; rotate_left; simp only [c8, Pk.v, V.free, rep, db, cq, mX, kO, nH, cD, List.map_cons, List.map_nil, bne_self_eq_false, Nat.reduceAdd, Nat.reduceBNe, Nat.reduceBEq, Nat.reduceEqDiff, reduceIte, Bool.false_eq_true]
      ·have hro : objs.map Ob.row ++ [Ob.row ⟨r.sum, r.data⟩] = (objs ++ [(⟨r.sum, r.data⟩ : Ob)]).map Ob.row := by simp
       have hrs2 : safe.map av ++ [[D.list 1 (b.map ai) false]] = (safe ++ [b]).map av := by simp [av, aB]
       rw [hro, hrs2, show ((objs ++ [(⟨r.sum, r.data⟩ : Ob)]).map Ob.row).length = (objs ++ [(⟨r.sum, r.data⟩ : Ob)]).length by simp, show ((safe ++ [b]).map av).length = (safe ++ [b]).length by simp]; refine gv hF (ag rfl rfl (by simp only [go_sem, ac, hbi, av, aB] <;> rfl)) ?_; refine SmG.store hF rfl rfl rfl rfl rfl (by simp only [go_sem, ac, hbi, av, aB] <;> rfl) ?_; refine SmG.nil (aI (aa ?_)); refine Sm.to (aR (cP (st' := ⟨[(0, .d (.list 1 (rs.map av) false)), (2, .ref 0 0 0), (3, .ref 1 0 0), (4, .d (.v (.int .i64 safe.length)))], [(3, dB 1 ((safe ++ [b]).map av)), (2, dB 33 ((objs ++ [(⟨r.sum, r.data⟩ : Ob)]).map Ob.row)), (1, ⟨3, [[.sref 2 0 (objs ++ [(⟨r.sum, r.data⟩ : Ob)]).length, .sref 3 0 (safe ++ [b]).length, .d (.list 0 [] true)]]⟩), (0, ⟨3, [[.d (.list 0 [] true), .d (.list 0 [] true), .d (.list 0 [] true)]]⟩)], 5⟩) (aK ⟨rfl, rfl, rfl, rfl, trivial⟩ ⟨rfl, rfl, rfl, rfl, trivial⟩ (Nat.le_refl _))) (mg 4 rfl (by (repeat' first | exact oH _ | exact mD _ _ | exact trivial | refine m7 ?_ (by decide) | refine lk ?_ (ur _ _ _) | refine oJ ?_ ?_ | refine ⟨rfl, ?_⟩)) rfl (by omega))) ?_; refine ab hF rfl ?_; refine gv hF oM ?_; refine gv hF (ah rfl rfl rfl (by exact eJ _ _ _ _ _ (aY _ (by omega)))) ?_; refine gv hF oA (SmG.nil (aa ?_)); have he : (safe.length : Int) + 1 = ((safe ++ [b]).length : Int) := by simp
       rw [he]; refine ⟨⟨⟨objs ++ [⟨r.sum, r.data⟩], safe ++ [b], []⟩, rfl, by simp; omega, by simp; omega, ?_⟩, by simp; omega, aK ⟨rfl, rfl, rfl, rfl, trivial⟩ ⟨rfl, rfl, rfl, rfl, trivial⟩ (Nat.le_refl _)⟩; rw [heq, hdr, cV, hnext]; simp
      ·simp; omega
      ·simp; omega
     ·simp; omega
     ·simp; omega
  ·cases hfn : aM objs r.sum.l with
   | none =>
    have hfz : cB objs r.sum.l = -1 := by unfold cB; rw [hfn]
    rw [hfz]; refine ab hF rfl ?_; refine gv hF (ag rfl rfl (by simp only [go_sem, ac] <;> rfl)) ?_; refine gv hF (ae rfl rfl ((lj rfl).trans (by rw [hok]))) ?_; refine gv hF (eI rfl rfl (by exact fW _)) ?_; refine gv hF oM ?_; refine gv hF (ag rfl rfl (by simp only [go_sem, ac] <;> rfl)) ?_; refine gv hF (ae rfl rfl (oG rfl)) ?_; refine gv hF oM ?_; refine gv hF (ah rfl rfl rfl (by exact iJ _ _ _ _ _ (by omega))) ?_; refine gv hF (aU rfl rfl rfl) ?_; refine gv hF oM ?_; refine gv hF (ag rfl rfl (by simp only [go_sem, ac] <;> rfl)) ?_; refine gv hF (ae rfl rfl (fJ rfl)) ?_; refine gv hF (ah rfl rfl rfl (by exact jw _ _ _ _ _ (by omega))) ?_; refine gv hF oM ?_; refine gv hF (ah rfl rfl rfl (by exact eh _ _ _ _ _ (by omega))) ?_; refine gv hF (ah rfl rfl rfl (oP _ _ _ _ (by kernel_rfl) (by exact (rfl : _ = true)))) ?_; refine gv hF (aU rfl rfl rfl) ?_; refine gv hF oM ?_; refine gp hF ?_; refine gp hF ?_; refine gp hF ?_; refine gp hF ?_; refine gp hF ?_; refine gp hF ?_; refine gp hF ?_; refine gp hF ?_; refine gp hF ?_; refine gv hF (aO rfl rfl rfl) ?_; refine SmG.nil (aa ?_); refine aZ hF rfl ?_; refine Sm.seq ?_; refine Sm.to (aR (cP (st' := ⟨[(2, .ref 0 0 0), (3, .ref 1 0 0)], [(3, dB 1 (safe.map av)), (2, dB 33 (objs.map Ob.row)), (1, ⟨3, [[.sref 2 0 objs.length, .sref 3 0 safe.length, .d (.list 0 [] true)]]⟩), (0, ⟨3, [[.d (.list 0 [] true), .d (.list 0 [] true), .d (.list 0 [] true)]]⟩)], 5⟩) (aK ⟨rfl, rfl, trivial⟩ ⟨rfl, rfl, rfl, rfl, trivial⟩ (Nat.le_refl _))) (hfrz 5)) ?_; refine ab hF rfl ?_; refine gv hF (ae rfl rfl (cE rfl)) ?_; refine SmG.store hF rfl rfl rfl rfl rfl (fe il rfl rfl) ?_; refine SmG.nil (aa (Sm.ret ?_)); simp only [a9, bQ]; refine cG rfl rfl (gy il nY rfl) ?_; rw [hdone (by rw [hstep]; unfold fm; rw [if_neg]; rintro ⟨g1, g2, g3, g4⟩; exact k80 (g3.2 hfn))]; exact fN ⟨D.le.refl _, D.le.refl _, cd 0 1 true, trivial⟩
   | some i =>
    have hfz : cB objs r.sum.l = (i : Int) := by unfold cB; rw [hfn]
    rw [hfz]; have hi : i < objs.length := by
     unfold aM at hfn; rw [List.findIdx?_eq_some_iff_getElem] at hfn; exact hfn.1
    have hnext : bv objs safe.length b = some (objs.eraseIdx i) := by
     rw [hstep]; unfold fm; rw [if_pos ⟨hok, hn, ⟨fun h => absurd h k80, fun h => by rw [hfn] at h; cases h⟩, fun h => k80 h.1⟩, if_neg k80, hfn]; rfl
    have ho2 : (objs.eraseIdx i).length ≤ 256 := by have := List.length_eraseIdx_le objs i; omega
    refine ab hF rfl ?_; refine gv hF (ag rfl rfl (by simp only [go_sem, ac, hbi, av, aB] <;> rfl)) ?_; refine gv hF (ae rfl rfl ((lj rfl).trans (by rw [hok]))) ?_; refine gv hF (eI rfl rfl (by exact fW _)) ?_; refine gv hF oM ?_; refine gv hF (ag rfl rfl (by simp only [go_sem, ac, hbi, av, aB] <;> rfl)) ?_; refine gv hF (ae rfl rfl (oG rfl)) ?_; refine gv hF oM ?_; refine gv hF (ah rfl rfl rfl (by exact iJ _ _ _ _ _ (by omega))) ?_; refine gv hF (aU rfl rfl rfl) ?_; refine gv hF oM ?_; refine gv hF (ag rfl rfl (by simp only [go_sem, ac, hbi, av, aB] <;> rfl)) ?_; refine gv hF (ae rfl rfl (fJ rfl)) ?_; refine gv hF (ah rfl rfl rfl (by exact jw _ _ _ _ _ (by omega))) ?_; refine gv hF oM ?_; refine gv hF (ah rfl rfl rfl (by exact eM _ _ _ _ _ (by omega))) ?_; refine gv hF (ah rfl rfl rfl (oP _ _ _ _ (by kernel_rfl) (by exact (rfl : _ = false)))) ?_; refine gv hF (aU rfl rfl rfl) ?_; refine gv hF oM ?_; refine gv hF (ag rfl rfl (by simp only [go_sem, ac, hbi, av, aB] <;> rfl)) ?_; refine gv hF (ae rfl rfl (fJ rfl)) ?_; refine gv hF (ah rfl rfl rfl (by exact jw _ _ _ _ _ (by omega))) ?_; refine gv hF oM ?_; refine gp hF ?_; refine gp hF ?_; refine gp hF ?_; refine gp hF ?_; refine gv hF (aU rfl rfl rfl) ?_; refine gv hF (aU rfl rfl rfl) ?_; refine SmG.nil (aa ?_); refine aS hF rfl ?_; refine Sm.skip ?_; refine aa (Sm.seq (Sm.seq ?_)); refine ab hF rfl ?_; refine gv hF (ag rfl rfl (by simp only [go_sem, ac, hbi, av, aB] <;> rfl)) ?_; refine gv hF (ae rfl rfl (fJ rfl)) ?_; refine gv hF (ah rfl rfl rfl (by exact jw _ _ _ _ _ (by omega))) ?_; refine SmG.nil (aa ?_); refine aS hF rfl ?_; have hf2 : St.to F ⟨[(0, .d (.list 1 (rs.map av) false)), (2, .ref 0 0 0), (3, .ref 1 0 0), (4, .d (.v (.int .i64 safe.length))), (6, .d (.v (.int .i64 i)))], [(3, dB 1 (safe.map av)), (2, dB 33 (objs.map Ob.row)), (1, ⟨3, [[.sref 2 0 objs.length, .sref 3 0 safe.length, .d (.list 0 [] true)]]⟩), (0, ⟨3, [[.d (.list 0 [] true), .d (.list 0 [] true), .d (.list 0 [] true)]]⟩)], 5⟩ ⟨[(0, .d (.list 1 (rs.map av) false)), (2, .ref 0 0 0), (3, .ref 1 0 0), (4, .d (.v (.int .i64 safe.length))), (6, .d (.v (.int .i64 i)))], [(3, dB 1 (safe.map av)), (1, ⟨3, [[.d (.list 33 (objs.map Ob.row) false), .sref 3 0 safe.length, .d (.list 0 [] true)]]⟩), (0, ⟨3, [[.d (.list 0 [] true), .d (.list 0 [] true), .d (.list 0 [] true)]]⟩)], 5⟩ := by
     have h := fp (F := F) (st := ⟨[(0, .d (.list 1 (rs.map av) false)), (2, .ref 0 0 0), (3, .ref 1 0 0), (4, .d (.v (.int .i64 safe.length))), (6, .d (.v (.int .i64 i)))], [(3, dB 1 (safe.map av)), (2, dB 33 (objs.map Ob.row)), (1, ⟨3, [[.sref 2 0 objs.length, .sref 3 0 safe.length, .d (.list 0 [] true)]]⟩), (0, ⟨3, [[.d (.list 0 [] true), .d (.list 0 [] true), .d (.list 0 [] true)]]⟩)], 5⟩) (l := 2) (objs.map Ob.row) rfl rfl; simp only [gK, bK, db, rL, BE, reduceIte, Nat.reduceEqDiff] at h; simpa [cM, bc, cq] using h
    refine Sm.to (aR (cP (st' := ⟨[(0, .d (.list 1 (rs.map av) false)), (2, .ref 0 0 0), (3, .ref 1 0 0), (4, .d (.v (.int .i64 safe.length))), (6, .d (.v (.int .i64 i)))], [(3, dB 1 (safe.map av)), (2, dB 33 (objs.map Ob.row)), (1, ⟨3, [[.sref 2 0 objs.length, .sref 3 0 safe.length, .d (.list 0 [] true)]]⟩), (0, ⟨3, [[.d (.list 0 [] true), .d (.list 0 [] true), .d (.list 0 [] true)]]⟩)], 5⟩) (aK ⟨rfl, rfl, rfl, rfl, rfl, trivial⟩ ⟨rfl, rfl, rfl, rfl, trivial⟩ (Nat.le_refl _))) hf2) ?_; refine ab hF rfl ?_; refine gv hF (ag rfl rfl (by simp only [go_sem, ac, hbi, av, aB] <;> rfl)) ?_; refine gv hF (ae rfl rfl (by simp only [go_sem, ac, hbi, av, aB] <;> rfl)) ?_; refine gv hF oM ?_; refine SmG.callO hF rfl rfl (by kernel_rfl) rfl rfl rfl (sD objs i (by omega) hi) ?_; refine gv hF (ag rfl rfl (by simp only [go_sem, ac, hbi, av, aB] <;> rfl)) ?_; refine SmG.store hF rfl rfl rfl rfl rfl (by simp only [go_sem, ac, hbi, av, aB] <;> rfl) ?_; refine SmG.nil (aa ?_); refine eR hF (by kernel_rfl) rfl 7 (by kernel_rfl) (by kernel_rfl) ?_; simp only [List.take_succ_cons, List.take_zero, List.take_nil]; refine hv hF (ag rfl rfl (by simp only [go_sem, ac, hbi, av, aB] <;> rfl)) ?_; refine hv hF (ae rfl rfl (by simp only [go_sem, ac, hbi, av, aB] <;> rfl)) ?_; refine hv hF oM (hv hF oM ?_); refine hv hF (ak rfl rfl rfl (by simp only [go_sem, ac, hbi, av, aB] <;> rfl)) ?_; refine hv hF (ae rfl rfl (by simp only [go_sem, ac, hbi, av, aB] <;> rfl)) ?_; refine hv hF (ba rfl rfl (by simp only [go_sem, ac, hbi, av, aB] <;> rfl)) ?_; refine au.last ⟨rfl, ?_⟩; simp only [List.drop_succ_cons, List.drop_zero, List.drop_nil, List.nil_append, List.cons_append]; refine jj hF sO rfl rfl rfl rfl rfl rfl rfl (by (simp; done)) (Or.inl rfl) ?_ ?_ ?_; rotate_left; rotate_left; simp only [c8, Pk.v, V.free, rep, db, cq, mX, kO, nH, cD, List.map_cons, List.map_nil, bne_self_eq_false, Nat.reduceAdd, Nat.reduceBNe, Nat.reduceBEq, Nat.reduceEqDiff, reduceIte, Bool.false_eq_true]
    ·have hrs2 : safe.map av ++ [[D.list 1 (b.map ai) false]] = (safe ++ [b]).map av := by simp [av, aB]
     rw [hrs2, show ((objs.eraseIdx i).map Ob.row).length = (objs.eraseIdx i).length by simp, show ((safe ++ [b]).map av).length = (safe ++ [b]).length by simp]; refine gv hF (ag rfl rfl (by simp only [go_sem, ac, hbi, av, aB] <;> rfl)) ?_; refine SmG.store hF rfl rfl rfl rfl rfl (by simp only [go_sem, ac, hbi, av, aB] <;> rfl) ?_; refine SmG.nil (aI (aa ?_)); refine Sm.to (aR (cP (st' := ⟨[(0, .d (.list 1 (rs.map av) false)), (2, .ref 0 0 0), (3, .ref 1 0 0), (4, .d (.v (.int .i64 safe.length)))], [(3, dB 1 ((safe ++ [b]).map av)), (5, dB 33 ((objs.eraseIdx i).map Ob.row)), (1, ⟨3, [[.sref 5 0 (objs.eraseIdx i).length, .sref 3 0 (safe ++ [b]).length, .d (.list 0 [] true)]]⟩), (0, ⟨3, [[.d (.list 0 [] true), .d (.list 0 [] true), .d (.list 0 [] true)]]⟩)], 6⟩) (aK ⟨rfl, rfl, rfl, rfl, trivial⟩ ⟨rfl, rfl, rfl, rfl, trivial⟩ (Nat.le_refl _))) (IY h0 hgt)) ?_; refine ab hF rfl ?_; refine gv hF oM ?_; refine gv hF (ah rfl rfl rfl (by exact eJ _ _ _ _ _ (aY _ (by omega)))) ?_; refine gv hF oA (SmG.nil (aa ?_)); have he : (safe.length : Int) + 1 = ((safe ++ [b]).length : Int) := by simp
     rw [he]; refine ⟨⟨⟨objs.eraseIdx i, safe ++ [b], []⟩, rfl, ho2, by simp; omega, ?_⟩, by simp; omega, aK ⟨rfl, rfl, rfl, rfl, trivial⟩ ⟨rfl, rfl, rfl, rfl, trivial⟩ (Nat.le_refl _)⟩; rw [heq, hdr, cV, hnext]; simp
    ·simp; omega
    ·simp; omega
 ·refine Sm.seq (Sm.seq ?_); refine ab hF rfl ?_; refine gv hF oM (gv hF oM ?_); refine gv hF (aJ rfl rfl (by simp only [go_sem, ac] <;> rfl)) ?_; refine gv hF (ah rfl rfl rfl (by exact eM _ _ _ _ _ (by omega))) ?_; refine SmG.nil (aa ?_); refine aS hF rfl ?_; refine Sm.exit ?_; simp only [a9, bQ, reduceIte, reduceCtorEq]; refine Sm.to (aR (cP (st' := ⟨[(2, .ref 0 0 0), (3, .ref 1 0 0)], [(3, dB 1 (safe.map av)), (2, dB 33 (objs.map Ob.row)), (1, ⟨3, [[.sref 2 0 objs.length, .sref 3 0 safe.length, .d (.list 0 [] true)]]⟩), (0, ⟨3, [[.d (.list 0 [] true), .d (.list 0 [] true), .d (.list 0 [] true)]]⟩)], 4⟩) (aK ⟨rfl, rfl, trivial⟩ ⟨rfl, rfl, rfl, rfl, trivial⟩ (Nat.le_refl _))) (hfrz 4)) ?_; refine Sm.seq ?_; refine ab hF rfl ?_; refine gv hF (ae rfl rfl (cE rfl)) ?_; refine SmG.store hF rfl rfl rfl rfl rfl (fe il rfl rfl) ?_; refine SmG.nil (aa (Sm.ret ?_)); refine cG rfl rfl (gy il nY rfl) ?_; have : safe.length = rs.length := by omega
  rw [heq, this, List.drop_length]; exact fN ⟨D.le.refl _, D.le.refl _, cd 0 1 true, trivial⟩
end
section
open Classical in
noncomputable def jp (a : List UInt8) : Option (Vec 32) := if a.length ≤ 1000000 then some (cw a) else none
noncomputable def q0 : Con Tryd.prog HG nmS := ⟨21, [], [.lst .u8], .vec 32, fun a => jp a, false⟩
theorem yx {a : List UInt8} {r : Vec 32} (h : jp a = some r) : aj Tryd.prog HG 21 [.list 1 (a.map ai) false] (.agg 32 (ay r.l)) := by
 unfold jp at h; split at h
 ·cases h; exact r5 a (by assumption)
 ·cases h
theorem yy : q0.Ok := ⟨fun _ a r h => yx h, fun h => by cases h⟩
open Classical in
noncomputable def eL (a : List UInt8) : Option (Vec 32) := if a.length ≤ 1000000 then some (cw a) else none
noncomputable def iL : Con Tryd.prog HG nmS := ⟨47, [], [.lst .u8], .vec 32, fun a => eL a, false⟩
theorem qA {a : List UInt8} {r : Vec 32} (h : eL a = some r) : aj Tryd.prog HG 47 [.list 1 (a.map ai) false] (.agg 32 (ay r.l)) := by
 unfold eL at h; split at h
 ·cases h; exact qc a (by assumption) HG
 ·cases h
theorem k6 : iL.Ok := ⟨fun _ a r h => qA h, fun h => by cases h⟩
open Classical in
noncomputable def iW (s : Sto) (k : UInt8) (x : List UInt8) : Option Sto := if s.safe.length ≤ 1000000 ∧ s.queue.length ≤ 1000000 ∧ x.length ≤ 100000 then some (lD s k x) else none
theorem vv {s r : Sto} {k : UInt8} {x : List UInt8} (h : iW s k x = some r) : aj Tryd.prog HG 65 [.agg 3 (Sto.row s), .v (.int .u8 (k.toNat : Int)), .list 1 (x.map ai) false] (.agg 3 (Sto.row r)) := by
 unfold iW at h; split at h
 ·rename_i hc; cases h; exact DN s k x hc.1 hc.2.1 hc.2.2
 ·cases h
noncomputable def oD : Con Tryd.prog HG nmS := ⟨65, [], [.nm 1, .u8, .lst .u8], .nm 1, fun a => iW a.1 a.2.1 a.2.2, false⟩
theorem vw : oD.Ok := ⟨fun _ a r h => vv h, fun h => by cases h⟩
open Classical in
noncomputable def jN (s : Sto) (x : List UInt8) : Option (Sto × Vec 32 × Int) := if s.objects.length ≤ 1000000 ∧ s.safe.length ≤ 1000000 ∧ s.queue.length ≤ 1000000 ∧ x.length ≤ 99000 then some (cW s x) else none
theorem xl {s : Sto} {x : List UInt8} {r : Sto × Vec 32 × Int} (h : jN s x = some r) : aj Tryd.prog HG 40 [.agg 3 (Sto.row s), .list 1 (x.map ai) false] (.tup [.agg 3 (Sto.row r.1), .agg 32 (ay r.2.1.l), .v (.int .i64 r.2.2)]) := by
 unfold jN at h; split at h
 ·rename_i hc; cases h; exact Ji s x hc.1 hc.2.1 hc.2.2.1 hc.2.2.2
 ·cases h
noncomputable def qw : Con Tryd.prog HG nmS := ⟨40, [], [.nm 1, .lst .u8], .tup [.nm 1, .vec 32, .int .i64], fun a => jN a.1 a.2, false⟩
theorem xm : qw.Ok := ⟨fun _ a r h => xl h, fun h => by cases h⟩
open Classical in
noncomputable def ed (rs : List (List UInt8)) : Option Sto := if rs.length ≤ 1000000 ∧ ∀ b ∈ rs, b.length ≤ 1000000 then some (cV [] [] rs) else none
theorem pv {rs : List (List UInt8)} {r : Sto} (h : ed rs = some r) : aj Tryd.prog HG 32 [.list 1 (rs.map av) false] (.agg 3 (Sto.row r)) := by
 unfold ed at h; split at h
 ·rename_i hc; cases h; exact Fb rs hc.1 hc.2
 ·cases h
noncomputable def ib : Con Tryd.prog HG nmS := ⟨32, [], [.lst (.lst .u8)], .nm 1, fun a => ed a, false⟩
theorem kF : ib.Ok := ⟨fun _ a r h => pv h, fun h => by cases h⟩
noncomputable def t3 : Con Tryd.prog HG nmS := ⟨14, [], [.nm 1], .bool, fun a => fq a, false⟩
theorem nE : t3.Ok := ⟨fun _ a r h => tZ h, fun h => by cases h⟩
noncomputable def tW : Con Tryd.prog HG nmS := ⟨25, [], [.nm 1, .lst .bool], .nm 1, fun a => iu a.1 a.2, false⟩
theorem nB : tW.Ok := ⟨fun _ a r h => tV h, fun h => by cases h⟩
open Classical in
noncomputable def gI (l : List Ob) (k : Vec 32) : Option Int := if l.length ≤ 4294967296 then some (cB l k.l) else none
theorem vu {l : List Ob} {k : Vec 32} {r : Int} (h : gI l k = some r) : aj Tryd.prog HG 58 [.list 33 (l.map Ob.row) false, .agg 32 (ay k.l)] (.v (.int .i64 r)) := by
 unfold gI at h; split at h
 ·cases h; exact q9 l k (by assumption)
 ·cases h
noncomputable def lf : Con Tryd.prog HG nmS := ⟨58, [], [.lst (.nm 0), .vec 32], .int .i64, fun a => gI a.1 a.2, false⟩
theorem oz : lf.Ok := ⟨fun _ a r h => vu h, fun h => by cases h⟩
noncomputable def mf : Con Tryd.prog HG nmS := ⟨59, [], [.lst (.nm 0), .int .i64], .lst (.nm 0), fun a => eC a.1 a.2, false⟩
theorem sa : mf.Ok := ⟨fun _ a r h => me h, fun h => by cases h⟩
open Classical in
noncomputable def cO (n : Int) (x : List UInt8) : Option (List UInt8) := if 0 ≤ n ∧ x.length ≤ 100000 then some (ij n.toNat x) else none
theorem mm {n : Int} {x r : List UInt8} (h : cO n x = some r) : aj Tryd.prog HG 50 [.v (.int .i64 n), .list 1 (x.map ai) false] (.list 1 (r.map ai) false) := by
 unfold cO at h; split at h
 ·rename_i hc; cases h; have := Ag n.toNat x hc.2; rwa [Int.toNat_of_nonneg hc.1] at this
 ·cases h
noncomputable def iO : Con Tryd.prog HG nmS := ⟨50, [], [.int .i64, .lst .u8], .lst .u8, fun a => cO a.1 a.2, false⟩
theorem mn : iO.Ok := ⟨fun _ a r h => mm h, fun h => by cases h⟩
open Classical in
noncomputable def cK (n : Int) (k : Vec 32) : Option (List UInt8) := if 0 ≤ n then some (nc n.toNat k.l) else none
theorem lX {n : Int} {k : Vec 32} {r : List UInt8} (h : cK n k = some r) : aj Tryd.prog HG 78 [.v (.int .i64 n), .agg 32 (ay k.l)] (.list 1 (r.map ai) false) := by
 unfold cK at h; split at h
 ·rename_i hc; cases h; have := ym n.toNat k; rwa [Int.toNat_of_nonneg hc] at this
 ·cases h
noncomputable def iq : Con Tryd.prog HG nmS := ⟨78, [], [.int .i64, .vec 32], .lst .u8, fun a => cK a.1 a.2, false⟩
theorem lY : iq.Ok := ⟨fun _ a r h => lX h, fun h => by cases h⟩
end
section
noncomputable def fI : Con Tryd.prog HG nmS := ⟨33, [], [.lst (.lst (.lst .u8))], .lst (.lst .u8), fun a => bi a, false⟩
theorem jL : fI.Ok := ⟨fun _ a r h => jK h, fun h => by cases h⟩
noncomputable def sq : Option Sto :=
 some (⟨[], [], []⟩ : Sto)
theorem xj (a : Unit) : fd (cfA [] Tryd.f11.ntmps []) [] Tryd.f11 [] [] (.nm 1) (.e) a = sq := by kernel_rfl
noncomputable def xi : Con Tryd.prog HG nmS := ⟨11, [], [], (.nm 1), fun a => sq, false⟩
theorem xk : xi.Ok := fV .nil xj Tryd.func11 rfl
noncomputable def jM (a0 : Sto) (a1 : Vec 32) : Option (List UInt8 × Int) :=
 ob (gI a0.objects a1) fun x1 =>
 bif (decide (x1 < 0)) then (
  some ([], 331)
 ) else (
  ob (idx a0.objects x1) fun x3 =>
  some (x3.data, 0)
 )
theorem xg (a : Sto × (Vec 32)) : fd (cfA [lf] Tryd.f44.ntmps [2, 3]) [] Tryd.f44 [] [(.nm 1), (.vec 32)] (.pair (.lst .u8) (.int .i64)) (.nj (.br .e .e)) a = jM a.1 a.2 := by kernel_rfl
noncomputable def qv : Con Tryd.prog HG nmS := ⟨44, [], [(.nm 1), (.vec 32)], (.pair (.lst .u8) (.int .i64)), fun a => jM a.1 a.2, false⟩
theorem xh : qv.Ok := fV (.cons oz .nil) xg Tryd.func44 rfl
noncomputable def iw (a0 : Sto) (a1 : Vec 32) : Option (Sto × Int) :=
 ob (gI a0.objects a1) fun x1 =>
 bif (decide (x1 < 0)) then (
  some (a0, 331)
 ) else (
  ob (iW a0 (68 : UInt8) a1.l) fun x3 =>
  ob (eC x3.objects x1) fun x4 =>
  some ((⟨x4, x3.safe, x3.queue⟩ : Sto), 0)
 )
theorem tX (a : Sto × (Vec 32)) : fd (cfA [lf, oD, mf] Tryd.f45.ntmps [3]) [] Tryd.f45 [] [(.nm 1), (.vec 32)] (.pair (.nm 1) (.int .i64)) (.nj (.br .e (.seg 2 .e))) a = iw a.1 a.2 := by kernel_rfl
noncomputable def nC : Con Tryd.prog HG nmS := ⟨45, [], [(.nm 1), (.vec 32)], (.pair (.nm 1) (.int .i64)), fun a => iw a.1 a.2, false⟩
theorem tY : nC.Ok := fV (.cons oz (.cons vw (.cons sa .nil))) tX Tryd.func45 rfl
noncomputable def dD (a0 : Sto) : Option (List (List UInt8)) :=
 ob (app ([] : List (List UInt8)) a0.safe) fun x1 =>
 ob (app x1 a0.queue) fun x2 =>
 some x2
theorem qB (a : Sto) : fd (cfA [] Tryd.f16.ntmps [1]) [(7, 2)] Tryd.f16 [] [(.nm 1)] (.lst (.lst .u8)) (.e) a = dD a := by kernel_rfl
noncomputable def iM : Con Tryd.prog HG nmS := ⟨16, [], [(.nm 1)], (.lst (.lst .u8)), fun a => dD a, false⟩
theorem k7 : iM.Ok := fV .nil qB Tryd.func16 rfl
noncomputable def gF (a0 : List Ob) (a1 : List Ob) (s2 : Int) : Option (Int ⊕ (Unit ⊕ Bool)) :=
 bif (decide (s2 < (a0.length : Int))) then (
  ob (idx a0 s2) fun x7 =>
  ob (idx a1 s2) fun x8 =>
  bif (!(x7.sum.l == x8.sum.l)) then (
   some (.inr (.inr false))
  ) else (
   ob (idx a0 s2) fun x10 =>
   ob (idx a1 s2) fun x11 =>
   bif (!(x10.data == x11.data)) then (
    some (.inr (.inr false))
   ) else (
    ob (arI .i64 (s2 + 1)) fun x13 =>
    some (.inl x13)
   )
  )
 ) else (
  some (.inr (.inl ()))
 )
noncomputable def bX (a0 : List Ob) (a1 : List Ob) : Option Bool :=
 bif ((a0.length : Int) != (a1.length : Int)) then (
  some false
 ) else (
  ob ((
   cH (gF a0 a1) 0
   : Option (Unit ⊕ Bool))) fun o15 => match o15 with
  | .inl v14 => (
   some true
   )
  | .inr e16 => some e16
 )
theorem lJ (a : (List Ob) × (List Ob)) : fd (cfA [] Tryd.f17.ntmps []) [] Tryd.f17 [] [(.lst (.nm 0)), (.lst (.nm 0))] .bool (.nj (.br .e (.jn ⟨[], [], [], [], [], [], 0⟩ true (.lp [] ⟨[0, 1], [], [], [(5, (.int .i64))], [], [], 0⟩ (.nj (.br (.nj (.seg 24 (.br .e (.br .e .e)))) .e))) .e))) a = bX a.1 a.2 := by kernel_rfl
noncomputable def fb : Con Tryd.prog HG nmS := ⟨17, [], [(.lst (.nm 0)), (.lst (.nm 0))], .bool, fun a => bX a.1 a.2, false⟩
theorem gU : fb.Ok := fV .nil lJ Tryd.func17 rfl
noncomputable def gG (a0 : List (List UInt8)) (a1 : List (List UInt8)) (s2 : Int) : Option (Int ⊕ (Unit ⊕ Bool)) :=
 bif (decide (s2 < (a0.length : Int))) then (
  ob (idx a0 s2) fun x7 =>
  ob (idx a1 s2) fun x8 =>
  bif (!(x7 == x8)) then (
   some (.inr (.inr false))
  ) else (
   ob (arI .i64 (s2 + 1)) fun x10 =>
   some (.inl x10)
  )
 ) else (
  some (.inr (.inl ()))
 )
noncomputable def bY (a0 : List (List UInt8)) (a1 : List (List UInt8)) : Option Bool :=
 bif ((a0.length : Int) != (a1.length : Int)) then (
  some false
 ) else (
  ob ((
   cH (gG a0 a1) 0
   : Option (Unit ⊕ Bool))) fun o12 => match o12 with
  | .inl v11 => (
   some true
   )
  | .inr e13 => some e13
 )
theorem lK (a : (List (List UInt8)) × (List (List UInt8))) : fd (cfA [] Tryd.f18.ntmps []) [] Tryd.f18 [] [(.lst (.lst .u8)), (.lst (.lst .u8))] .bool (.nj (.br .e (.jn ⟨[], [], [], [], [], [], 0⟩ true (.lp [] ⟨[0, 1], [], [], [(5, (.int .i64))], [], [], 0⟩ (.nj (.br (.nj (.seg 10 (.br .e .e))) .e))) .e))) a = bY a.1 a.2 := by kernel_rfl
noncomputable def gV : Con Tryd.prog HG nmS := ⟨18, [], [(.lst (.lst .u8)), (.lst (.lst .u8))], .bool, fun a => bY a.1 a.2, false⟩
theorem lL : gV.Ok := fV .nil lK Tryd.func18 rfl
noncomputable def fa (a0 : Sto) (a1 : Sto) : Option Bool :=
 ob (bX a0.objects a1.objects) fun x1 =>
 bif x1 then (
  ob (bY a0.safe a1.safe) fun x3 =>
  bif x3 then (
   ob (bY a0.queue a1.queue) fun x5 =>
   some x5
  ) else (
   some false
  )
 ) else (
  some false
 )
theorem pA (a : Sto × Sto) : fd (cfA [fb, gV] Tryd.f26.ntmps [2, 3]) [] Tryd.f26 [] [(.nm 1), (.nm 1)] .bool (.br (.br .e .e) .e) a = fa a.1 a.2 := by kernel_rfl
noncomputable def kH : Con Tryd.prog HG nmS := ⟨26, [], [(.nm 1), (.nm 1)], .bool, fun a => fa a.1 a.2, false⟩
theorem pB : kH.Ok := fV (.cons gU (.cons lL .nil)) pA Tryd.func26 rfl
noncomputable def iV (a0 : Sto) : Option Sto :=
 ob (bi [a0.safe, a0.queue]) fun x1 =>
 some (⟨a0.objects, x1, []⟩ : Sto)
theorem vq (a : Sto) : fd (cfA [fI] Tryd.f27.ntmps [1]) [] Tryd.f27 [] [(.nm 1)] (.nm 1) (.seg 8 .e) a = iV a := by kernel_rfl
noncomputable def vn : Con Tryd.prog HG nmS := ⟨27, [], [(.nm 1)], (.nm 1), fun a => iV a, false⟩
theorem vr : vn.Ok := fV (.cons jL .nil) vq Tryd.func27 rfl
noncomputable def du (a0 : Sto) (a1 : List UInt8) : Option Sto :=
 ob (app ([] : List (List UInt8)) a0.queue) fun x1 =>
 ob (app x1 [a1]) fun x2 =>
 some (⟨a0.objects, a0.safe, x2⟩ : Sto)
theorem oa (a : Sto × (List UInt8)) : fd (cfA [] Tryd.f49.ntmps []) [(9, 2)] Tryd.f49 [] [(.nm 1), (.lst .u8)] (.nm 1) (.e) a = du a.1 a.2 := by kernel_rfl
noncomputable def gm : Con Tryd.prog HG nmS := ⟨49, [], [(.nm 1), (.lst .u8)], (.nm 1), fun a => du a.1 a.2, false⟩
theorem jI : gm.Ok := fV .nil oa Tryd.func49 rfl
noncomputable def ef (a0 : Sto) : Option Sto :=
 ob (dD a0) fun x1 =>
 some (⟨a0.objects, x1, []⟩ : Sto)
theorem pE (a : Sto) : fd (cfA [iM] Tryd.f63.ntmps [1]) [] Tryd.f63 [] [(.nm 1)] (.nm 1) (.seg 4 .e) a = ef a := by kernel_rfl
noncomputable def kJ : Con Tryd.prog HG nmS := ⟨63, [], [(.nm 1)], (.nm 1), fun a => ef a, false⟩
theorem pF : kJ.Ok := fV (.cons k7 .nil) pE Tryd.func63 rfl
noncomputable def dP (a0 : Sto) (a1 : List Bool) (s2 : (Int × (List (List UInt8)))) : Option ((Int × (List (List UInt8))) ⊕ List (List UInt8)) :=
 bif (decide (s2.1 < (a0.queue.length : Int))) then (
  bif (decide (s2.1 < (a1.length : Int))) then (
   ob ((
    ob (idx a1 s2.1) fun x8 =>
    bif x8 then (
     ob (idx a0.queue s2.1) fun x10 =>
     ob (app s2.2 [x10]) fun x11 =>
     some x11
    ) else (
     some s2.2
    )
    : Option (List (List UInt8)))) fun v12 =>
   ob (arI .i64 (s2.1 + 1)) fun x13 =>
   some (.inl (x13, v12))
  ) else (
   some (.inr s2.2)
  )
 ) else (
  some (.inr s2.2)
 )
noncomputable def eN (a0 : Sto) (a1 : List Bool) : Option Sto :=
 ob (app ([] : List (List UInt8)) a0.safe) fun x1 =>
 ob ((
  cH (dP a0 a1) (0, x1)
  : Option (List (List UInt8)))) fun v14 =>
 ob (ed v14) fun x15 =>
 some x15
theorem oq (a : Sto × (List Bool)) : fd (cfA [ib] Tryd.f64.ntmps [2]) [(10, 2)] Tryd.f64 [] [(.nm 1), (.lst .bool)] (.nm 1) (.jn ⟨[4], [(5, 1)], [0], [], [(1, (.lst .u8))], [], 2⟩ false (.lp [] ⟨[1, 2, 4], [(5, 1)], [0], [(6, (.int .i64))], [(1, (.lst .u8))], [], 2⟩ (.nj (.br (.br (.jn ⟨[1, 2, 4, 6, 17, 18, 19, 20], [(5, 1)], [0], [], [(1, (.lst .u8))], [], 2⟩ false (.br .e .e) .e) .e) .e))) .e) a = eN a.1 a.2 := by kernel_rfl
noncomputable def kl : Con Tryd.prog HG nmS := ⟨64, [], [(.nm 1), (.lst .bool)], (.nm 1), fun a => eN a.1 a.2, false⟩
theorem ot : kl.Ok := fV (.cons kF .nil) oq Tryd.func64 rfl
noncomputable def dL (a0 : Sto) : Option Bool :=
 ob (dD a0) fun x1 =>
 ob (ed x1) fun x2 =>
 bif ((x2.safe.length : Int) == (x1.length : Int)) then (
  ob (bX x2.objects a0.objects) fun x4 =>
  some x4
 ) else (
  some false
 )
theorem ox (a : Sto) : fd (cfA [iM, ib, fb] Tryd.f13.ntmps [1]) [] Tryd.f13 [] [(.nm 1)] .bool (.br .e .e) a = dL a := by kernel_rfl
noncomputable def ko : Con Tryd.prog HG nmS := ⟨13, [], [(.nm 1)], .bool, fun a => dL a, false⟩
theorem fk : ko.Ok := fV (.cons k7 (.cons kF (.cons gU .nil))) ox Tryd.func13 rfl
noncomputable def dt (a0 : Sto) (a1 : List UInt8) : Option Std :=
 ob (jN a0 a1) fun x1 =>
 some (⟨x1.1, x1.2.1, x1.2.2⟩ : Std)
theorem n9 (a : Sto × (List UInt8)) : fd (cfA [qw] Tryd.f20.ntmps [2]) [] Tryd.f20 [] [(.nm 1), (.lst .u8)] (.nm 4) (.e) a = dt a.1 a.2 := by kernel_rfl
noncomputable def jH : Con Tryd.prog HG nmS := ⟨20, [], [(.nm 1), (.lst .u8)], (.nm 4), fun a => dt a.1 a.2, false⟩
theorem dO : jH.Ok := fV (.cons xm .nil) n9 Tryd.func20 rfl
noncomputable def dZ (a0 : Sto) (a1 : Vec 32) : Option Std :=
 ob (iw a0 a1) fun x1 =>
 some (⟨x1.1, (⟨List.replicate 32 0, rfl⟩ : Vec 32), x1.2⟩ : Std)
theorem nh (a : Sto × (Vec 32)) : fd (cfA [nC] Tryd.f23.ntmps [2, 3]) [] Tryd.f23 [] [(.nm 1), (.vec 32)] (.nm 4) (.e) a = dZ a.1 a.2 := by kernel_rfl
noncomputable def jy : Con Tryd.prog HG nmS := ⟨23, [], [(.nm 1), (.vec 32)], (.nm 4), fun a => dZ a.1 a.2, false⟩
theorem jz : jy.Ok := fV (.cons tY .nil) nh Tryd.func23 rfl
noncomputable def cj (a0 : Sto) (a1 : Vec 32) : Option Gott :=
 ob (jM a0 a1) fun x1 =>
 some (⟨x1.1, x1.2⟩ : Gott)
theorem qz (a : Sto × (Vec 32)) : fd (cfA [qv] Tryd.f22.ntmps [2, 3]) [] Tryd.f22 [] [(.nm 1), (.vec 32)] (.nm 5) (.e) a = cj a.1 a.2 := by kernel_rfl
noncomputable def k5 : Con Tryd.prog HG nmS := ⟨22, [], [(.nm 1), (.vec 32)], (.nm 5), fun a => cj a.1 a.2, false⟩
theorem iK : k5.Ok := fV (.cons xh .nil) qz Tryd.func22 rfl
noncomputable def eB (a0 : Std) (a1 : Std) : Option Bool :=
 ob (fa a0.s a1.s) fun x1 =>
 bif x1 then (
  bif (a0.k.l == a1.k.l) then (
   some (a0.e == a1.e)
  ) else (
   some false
  )
 ) else (
  some false
 )
theorem lV (a : Std × Std) : fd (cfA [kH] Tryd.f29.ntmps [2, 3]) [] Tryd.f29 [] [(.nm 4), (.nm 4)] .bool (.br (.br .e .e) .e) a = eB a.1 a.2 := by kernel_rfl
noncomputable def lU : Con Tryd.prog HG nmS := ⟨29, [], [(.nm 4), (.nm 4)], .bool, fun a => eB a.1 a.2, false⟩
theorem lW : lU.Ok := fV (.cons pB .nil) lV Tryd.func29 rfl
noncomputable def dg (a0 : Gott) (a1 : Gott) : Option Bool :=
 bif (a0.b == a1.b) then (
  some (a0.e == a1.e)
 ) else (
  some false
 )
theorem ni (a : Gott × Gott) : fd (cfA [] Tryd.f24.ntmps [2, 3]) [] Tryd.f24 [] [(.nm 5), (.nm 5)] .bool (.br .e .e) a = dg a.1 a.2 := by kernel_rfl
noncomputable def jA : Con Tryd.prog HG nmS := ⟨24, [], [(.nm 5), (.nm 5)], .bool, fun a => dg a.1 a.2, false⟩
theorem nk : jA.Ok := fV .nil ni Tryd.func24 rfl
end
section
open Classical in
noncomputable def lc (l : List Ob) (k : Vec 32) : Option Int := if l.length ≤ 4294967296 then some (cB l k.l) else none
theorem BK {l : List Ob} {k : Vec 32} {r : Int} (h : lc l k = some r) : aj Tryd.prog HG 30 [.list 33 (l.map Ob.row) false, .agg 32 (ay k.l)] (.v (.int .i64 r)) := by
 unfold lc at h; split at h
 ·cases h; exact yD l k (by assumption)
 ·cases h
noncomputable def ia : Con Tryd.prog HG nmS := ⟨30, [], [.lst (.nm 0), .vec 32], .int .i64, fun a => lc a.1 a.2, false⟩
theorem kE : ia.Ok := ⟨fun _ a r h => BK h, fun h => by cases h⟩
open Classical in
noncomputable def jF (l : List Ob) (i : Int) : Option (List Ob) := if l.length ≤ 1000000 ∧ 0 ≤ i ∧ i < (l.length : Int) then some (l.eraseIdx i.toNat) else none
theorem xf {l r : List Ob} {i : Int} (h : jF l i = some r) : aj Tryd.prog HG 51 [.list 33 (l.map Ob.row) false, .v (.int .i64 i)] (.list 33 (r.map Ob.row) false) := by
 unfold jF at h; split at h
 ·rename_i hc; cases h; have := (sD l i.toNat hc.1 (by omega)).data; rwa [Int.toNat_of_nonneg hc.2.1] at this
 ·cases h
noncomputable def jB : Con Tryd.prog HG nmS := ⟨51, [], [.lst (.nm 0), .int .i64], .lst (.nm 0), fun a => jF a.1 a.2, false⟩
theorem nn : jB.Ok := ⟨fun _ a r h => xf h, fun h => by cases h⟩
noncomputable def fu (a0 : Sto) (a1 : List UInt8) : Option Std :=
 bif (decide (65536 < (a1.length : Int))) then (
  some (⟨a0, (⟨List.replicate 32 0, rfl⟩ : Vec 32), 2⟩ : Std)
 ) else (
  ob (eL a1) fun x2 =>
  ob (lc a0.objects x2) fun x3 =>
  bif (decide (0 ≤ x3)) then (
   some (⟨a0, x2, 0⟩ : Std)
  ) else (
   bif (decide (256 ≤ (a0.objects.length : Int))) then (
    some (⟨a0, (⟨List.replicate 32 0, rfl⟩ : Vec 32), 330⟩ : Std)
   ) else (
    ob (app ([] : List Ob) a0.objects) fun x6 =>
    ob (arI .i64 ((a0.safe.length : Int) + (a0.queue.length : Int))) fun x7 =>
    ob (cO x7 a1) fun x8 =>
    ob (du a0 x8) fun x9 =>
    ob (app ([] : List UInt8) a1) fun x10 =>
    ob (app x6 [(⟨x2, x10⟩ : Ob)]) fun x11 =>
    some (⟨(⟨x11, x9.safe, x9.queue⟩ : Sto), x2, 0⟩ : Std)
   )
  )
 )
theorem qC (a : Sto × (List UInt8)) : fd (cfA [iL, ia, iO, gm] Tryd.f31.ntmps []) [(31, 2)] Tryd.f31 [] [(.nm 1), (.lst .u8)] (.nm 4) (.nj (.br .e (.nj (.br .e (.nj (.br .e (.seg 10 (.seg 7 .e)))))))) a = fu a.1 a.2 := by kernel_rfl
noncomputable def k8 : Con Tryd.prog HG nmS := ⟨31, [], [(.nm 1), (.lst .u8)], (.nm 4), fun a => fu a.1 a.2, false⟩
theorem qD : k8.Ok := fV (.cons k6 (.cons kE (.cons mn (.cons jI .nil)))) qC Tryd.func31 rfl
noncomputable def eO (a0 : Sto) (a1 : Vec 32) : Option Std :=
 ob (lc a0.objects a1) fun x1 =>
 bif (decide (x1 < 0)) then (
  some (⟨a0, (⟨List.replicate 32 0, rfl⟩ : Vec 32), 331⟩ : Std)
 ) else (
  ob (arI .i64 ((a0.safe.length : Int) + (a0.queue.length : Int))) fun x3 =>
  ob (cK x3 a1) fun x4 =>
  ob (du a0 x4) fun x5 =>
  ob (jF x5.objects x1) fun x6 =>
  some (⟨(⟨x6, x5.safe, x5.queue⟩ : Sto), (⟨List.replicate 32 0, rfl⟩ : Vec 32), 0⟩ : Std)
 )
theorem ou (a : Sto × (Vec 32)) : fd (cfA [ia, iq, gm, jB] Tryd.f62.ntmps [3]) [] Tryd.f62 [] [(.nm 1), (.vec 32)] (.nm 4) (.nj (.br .e (.seg 10 .e))) a = eO a.1 a.2 := by kernel_rfl
noncomputable def km : Con Tryd.prog HG nmS := ⟨62, [], [(.nm 1), (.vec 32)], (.nm 4), fun a => eO a.1 a.2, false⟩
theorem ov : km.Ok := fV (.cons kE (.cons lY (.cons jI (.cons nn .nil)))) ou Tryd.func62 rfl
noncomputable def fc (a0 : Sto) (a1 : SRaw) : Option Sto :=
 ob (slc a1.data 0 (min (a1.data.length : Int) 40)) fun x1 =>
 ob (ru (a1.kind.toNat : Int) 8) fun x2 =>
 ob ((
  bif (x2 == 0) then (
   some (x2 == 0)
  ) else (
   bif (x2 == 1) then (
    some (x2 == 1)
   ) else (
    bif (x2 == 2) then (
     some (x2 == 2)
    ) else (
     some (x2 == 3)
    )
   )
  )
  : Option Bool)) fun v6 =>
 bif v6 then (
  ob (fu a0 x1) fun x8 =>
  some x8.s
 ) else (
  ob ((
   bif (x2 == 4) then (
    some (x2 == 4)
   ) else (
    some (x2 == 5)
   )
   : Option Bool)) fun v10 =>
  bif v10 then (
   ob (eL x1) fun x12 =>
   ob (eO a0 x12) fun x13 =>
   some x13.s
  ) else (
   bif (x2 == 6) then (
    ob (ef a0) fun x15 =>
    some x15
   ) else (
    ob (eN a0 a1.keep) fun x16 =>
    some x16
   )
  )
 )
theorem pC (a : Sto × SRaw) : fd (cfA [k8, iL, km, kJ, kl] Tryd.f39.ntmps [2, 3]) [] Tryd.f39 [] [(.nm 1), (.nm 2)] (.nm 1) (.nj (.jn ⟨[2, 3, 4, 5, 15], [], [0], [(16, .bool)], [], [], 1⟩ false (.br .e (.br .e (.br .e .e))) (.br .e (.jn ⟨[2, 3, 4, 5, 15], [], [0], [(25, .bool)], [], [], 1⟩ false (.br .e .e) (.br (.seg 3 .e) (.br .e .e)))))) a = fc a.1 a.2 := by kernel_rfl
noncomputable def kI : Con Tryd.prog HG nmS := ⟨39, [], [(.nm 1), (.nm 2)], (.nm 1), fun a => fc a.1 a.2, false⟩
theorem pD : kI.Ok := fV (.cons qD (.cons k6 (.cons ov (.cons pF (.cons ot .nil))))) pC Tryd.func39 rfl
noncomputable def ee (a0 : List SRaw) (a1 : Int) (s1 : (Int × (List Ob) × (List (List UInt8)) × (List (List UInt8)))) : Option ((Int × (List Ob) × (List (List UInt8)) × (List (List UInt8))) ⊕ ((List Ob) × (List (List UInt8)) × (List (List UInt8)))) :=
 bif (decide (s1.1 < (a0.length : Int))) then (
  bif (decide (s1.1 < a1)) then (
   ob (idx a0 s1.1) fun x7 =>
   ob (fc (⟨s1.2.1, s1.2.2.1, s1.2.2.2⟩ : Sto) x7) fun x8 =>
   ob (arI .i64 (s1.1 + 1)) fun x9 =>
   some (.inl (x9, x8.objects, x8.safe, x8.queue))
  ) else (
   some (.inr (s1.2.1, s1.2.2.1, s1.2.2.2))
  )
 ) else (
  some (.inr (s1.2.1, s1.2.2.1, s1.2.2.2))
 )
noncomputable def e9 (a0 : List SRaw) (a1 : Int) : Option Sto :=
 ob ((
  cH (ee a0 a1) (0, [], [], [])
  : Option ((List Ob) × (List (List UInt8)) × (List (List UInt8))))) fun v10 =>
 some (⟨v10.1, v10.2.1, v10.2.2⟩ : Sto)
theorem pw (a : (List SRaw) × Int) : fd (cfA [kI] Tryd.f19.ntmps []) [] Tryd.f19 [] [(.lst (.nm 2)), (.int .i64)] (.nm 1) (.jn ⟨[4, 5], [], [0], [], [], [(1, [some (.lst (.nm 0)), some (.lst (.lst .u8)), some (.lst (.lst .u8))])], 2⟩ false (.lp [] ⟨[0, 1, 4, 5], [], [0], [(6, (.int .i64))], [], [(1, [some (.lst (.nm 0)), some (.lst (.lst .u8)), some (.lst (.lst .u8))])], 2⟩ (.nj (.br (.br (.nj (.seg 5 .e)) .e) .e))) .e) a = e9 a.1 a.2 := by kernel_rfl
noncomputable def kG : Con Tryd.prog HG nmS := ⟨19, [], [(.lst (.nm 2)), (.int .i64)], (.nm 1), fun a => e9 a.1 a.2, false⟩
theorem pz : kG.Ok := fV (.cons pD .nil) pw Tryd.func19 rfl
end
section
theorem vf {n : Nat} (h : n < 4294967296) : be (bE n) = n := by
 simp only [bE, be, List.foldl_cons, List.foldl_nil, UInt8.toNat_ofNat']; omega
theorem na (n : Nat) : (bE n).length = 4 := rfl
theorem Ak (x : List UInt8) : (x ++ Sha.sum x).take ((x ++ Sha.sum x).length - 32) = x := by
 have : (Sha.sum x).length = 32 := Sha.out_length _; rw [List.length_append, this, Nat.add_sub_cancel, List.take_left']; rfl
theorem Aj (x : List UInt8) : (x ++ Sha.sum x).drop ((x ++ Sha.sum x).length - 32) = Sha.sum x := by
 have : (Sha.sum x).length = 32 := Sha.out_length _; rw [List.length_append, this, Nat.add_sub_cancel, List.drop_left']; rfl
theorem qu (o : List Ob) (n : Nat) (x : List UInt8) : bv o n (x ++ Sha.sum x) = qN o n x := by
 have h32 : (Sha.sum x).length = 32 := Sha.out_length _; unfold bv; rw [if_neg (by simp [h32]), Ak, Aj, if_neg (by simp)]
theorem Bp {o : List Ob} {n : Nat} {x : List UInt8} (hn : n < 4294967296) (hx : x.length ≤ 65536) (hf : aM o (Sha.sum x) = none) (ho : o.length < 256) : bv o n (ij n x) = some (o ++ [⟨cw x, x⟩]) := by
 unfold ij; rw [qu, eu]; have h4 := na n; have h4' := na x.length; have e1 : (bE n ++ bE x.length ++ x).take 4 = bE n := by rw [List.append_assoc, List.take_left' h4]
 have e2 : (bE n ++ bE x.length ++ x).drop 4 = bE x.length ++ x := by rw [List.append_assoc, List.drop_left' h4]
 rw [if_neg (by simp [h4]), e1, e2, vf hn, if_neg (by simp)]; unfold fY; have e3 : (bE x.length ++ x).take 4 = bE x.length := List.take_left' h4'; have e4 : (bE x.length ++ x).drop 4 = x := List.drop_left' h4'; rw [if_pos (by decide), e3, e4, vf (by omega), if_neg (by simp [h4'])]; unfold gk; rw [if_neg (by simp), List.take_length, if_pos ⟨hx, hf, ho⟩]
theorem zM {o : List Ob} {n i : Nat} {k : List UInt8} (hn : n < 4294967296) (hk : k.length = 32) (hf : aM o k = some i) : bv o n (nc n k) = some (o.eraseIdx i) := by
 unfold nc; rw [qu, eu]; have h4 := na n; have e1 : (bE n ++ k).take 4 = bE n := List.take_left' h4; have e2 : (bE n ++ k).drop 4 = k := List.drop_left' h4; rw [if_neg (by simp [h4]), e1, e2, vf hn, if_neg (by simp)]; unfold fY; rw [if_neg (by decide), if_pos (by decide), if_neg (by omega)]; unfold fG; rw [if_neg (by simp [hk]), List.take_of_length_le (by omega), hf]
theorem Bo {o o' o2 o2' : List Ob} {n m : Nat} {b : List UInt8} (h : bv o n b = some o') (k : bv o2 m b = some o2') : n = m := by
 unfold bv at h k; split at h
 ·cases h
 split at h
 ·cases h
 rw [if_neg (by assumption), if_neg (by assumption)] at k; generalize b.take (b.length - 32) = B at h k; cases B with
 | nil => cases h
 | cons c r =>
  rw [eu] at h k; split at h
  ·cases h
  split at h
  ·cases h
  rename_i h1 h2; rw [if_neg h1] at k; split at k
  ·cases k
  rename_i h3; simp only [ne_eq, Decidable.not_not] at h2 h3; rw [← h2, ← h3]
def gJ (o : List Ob) (n : Nat) : List (List UInt8) → Option (List Ob)
 | [] => some o
 | b :: r => (bv o n b).bind fun o' => gJ o' (n + 1) r
theorem ss (o : List Ob) (n : Nat) (a b : List (List UInt8)) : gJ o n (a ++ b) = (gJ o n a).bind fun o' => gJ o' (n + a.length) b := by
 induction a generalizing o n with
 | nil => rfl
 | cons x r ih =>
  simp only [List.cons_append, gJ, List.length_cons]; cases bv o n x with
  | none => rfl
  | some o' =>
   simp only [Option.bind_some, ih]; rw [show n + 1 + r.length = n + (r.length + 1) by omega]
theorem wC (o : List Ob) (n : Nat) (a : List (List UInt8)) (b : List UInt8) {o' : List Ob} (h : gJ o n a = some o') : gJ o n (a ++ [b]) = bv o' (n + a.length) b := by
 rw [ss, h]; simp only [Option.bind_some, gJ]; cases bv o' (n + a.length) b <;> rfl
theorem uy : ∀ {l : List (List UInt8)} {o o' : List Ob} {s : List (List UInt8)}, gJ o s.length l = some o' → cV o s l = ⟨o', s ++ l, []⟩
 | [], o, o', s, h => by cases h; simp [cV]
 | b :: r, o, o', s, h => by
  simp only [gJ] at h; cases hb : bv o s.length b with
  | none => rw [hb] at h; cases h
  | some o1 =>
   rw [hb] at h; simp only [Option.bind_some] at h; rw [cV, hb]; simp only; rw [uy (s := s ++ [b]) (by simpa using h)]; simp
theorem rk : ∀ (l : List (List UInt8)) (o : List Ob) (s : List (List UInt8)), ∃ (a : List (List UInt8)) (o' : List Ob), a <+: l ∧ gJ o s.length a = some o' ∧ cV o s l = ⟨o', s ++ a, []⟩
 | [], o, s => ⟨[], o, List.prefix_refl _, rfl, by simp [cV]⟩
 | b :: r, o, s => by
  rw [cV]; cases hb : bv o s.length b with
  | none => exact ⟨[], o, List.nil_prefix, rfl, by simp⟩
  | some o1 =>
   obtain ⟨a, o', h1, h2, h3⟩ := rk r o1 (s ++ [b]); refine ⟨b :: a, o', by rw [List.cons_prefix_cons]; exact ⟨rfl, h1⟩, ?_, by simp only [h3]; simp⟩; simp only [gJ, hb, Option.bind_some]; simpa using h2
theorem wD {l : List (List UInt8)} {o o' : List Ob} {n : Nat} (h : gJ o n l = some o') (k : Nat) : ∃ o1, gJ o n (l.take k) = some o1 := by
 rw [← List.take_append_drop k l, ss] at h; cases hq : gJ o n (l.take k) with
 | none => rw [hq] at h; cases h
 | some o1 => exact ⟨o1, rfl⟩
theorem Gt {l : List (List UInt8)} {o o' : List Ob} {n i : Nat} {b : List UInt8} (h : gJ o n l = some o') (hi : l[i]? = some b) : ∃ o1 o2, gJ o n (l.take i) = some o1 ∧ bv o1 (n + i) b = some o2 := by
 obtain ⟨o1, h1⟩ := wD h i; obtain ⟨o2, h2⟩ := wD h (i + 1); have hl := (List.getElem?_eq_some_iff.1 hi).1; rw [List.take_add_one, hi] at h2; simp only [Option.toList_some] at h2; rw [wC _ _ _ _ h1, List.length_take, Nat.min_eq_left (by omega)] at h2; exact ⟨o1, o2, h1, h2⟩
def dl (s : Sto) : List (List UInt8) := s.safe ++ s.queue
def nr (s : Sto) : Prop := gJ [] 0 (dl s) = some s.objects
theorem nr.open {s : Sto} (h : nr s) : cV [] [] (dl s) = ⟨s.objects, dl s, []⟩ := by
 have := uy (s := []) (l := dl s) (o := []) h; simpa using this
theorem Do (l : List (List UInt8)) : nr (cV [] [] l) := by
 obtain ⟨a, o', h1, h2, h3⟩ := rk l [] []; rw [h3]; simpa [nr, dl] using h2
structure ObsOk (m : Nat) (o : List Ob) : Prop where
 sum : ∀ x ∈ o, x.sum.l = Sha.sum x.data
 len : ∀ x ∈ o, x.data.length ≤ m
 dis : (o.map fun x => x.sum.l).Nodup
theorem ub {o : List Ob} {k : List UInt8} : aM o k = none ↔ ∀ x ∈ o, x.sum.l ≠ k := by
 unfold aM; simp [List.findIdx?_eq_none_iff]
theorem jq {o : List Ob} {k : List UInt8} {i : Nat} (h : aM o k = some i) : ∃ x, o[i]? = some x ∧ x.sum.l = k := by
 unfold aM at h; rw [List.findIdx?_eq_some_iff_getElem] at h; obtain ⟨hi, h1, _⟩ := h; exact ⟨o[i], by simp [hi], by simpa using h1⟩
theorem iZ {o : List Ob} (hd : (o.map fun x => x.sum.l).Nodup) {i : Nat} {x : Ob} (hx : o[i]? = some x) : aM o x.sum.l = some i := by
 cases h : aM o x.sum.l with
 | none => exact absurd rfl (ub.1 h x (List.mem_of_getElem? hx))
 | some j =>
  obtain ⟨y, hy, he⟩ := jq h; have h1 : (o.map fun x => x.sum.l)[j]? = some x.sum.l := by simp [hy, he]
  have h2 : (o.map fun x => x.sum.l)[i]? = some x.sum.l := by simp [hx]
  have hj := (List.getElem?_eq_some_iff.1 h1)
  have hi := (List.getElem?_eq_some_iff.1 h2)
  rcases Nat.lt_trichotomy j i with hlt | rfl | hlt
  ·exact absurd (hj.2.trans hi.2.symm) (List.pairwise_iff_getElem.1 hd j i hj.1 hi.1 hlt)
  ·rfl
  ·exact absurd (hi.2.trans hj.2.symm) (List.pairwise_iff_getElem.1 hd i j hi.1 hj.1 hlt)
theorem CS {m : Nat} {o o' : List Ob} {n : Nat} {b : List UInt8} (ho : ObsOk m o) (hb : b.length ≤ m) (h : bv o n b = some o') : ObsOk m o' ∧ o'.length ≤ o.length + 1 := by
 unfold bv at h; split at h
 ·cases h
 split at h
 ·cases h
 have hB : (b.take (b.length - 32)).length ≤ m := by simp; omega
 generalize b.take (b.length - 32) = B at h hB; cases B with
 | nil => cases h
 | cons c r =>
  rw [eu] at h; split at h
  ·cases h
  split at h
  ·cases h
  unfold fY at h; split at h
  ·split at h
   ·cases h
   ·unfold gk at h; split at h
    ·cases h
    split at h
    ·rename_i hc; cases h; have hxl : (((r.drop 4).drop 4).take (be ((r.drop 4).take 4))).length ≤ m := by simp at hB ⊢; omega
     generalize ((r.drop 4).drop 4).take (be ((r.drop 4).take 4)) = x at hc hxl; refine ⟨⟨fun y hy => ?_, fun y hy => ?_, ?_⟩, by simp⟩
     ·rcases List.mem_append.1 hy with hy | hy
      ·exact ho.sum y hy
      ·simp at hy; subst hy; rfl
     ·rcases List.mem_append.1 hy with hy | hy
      ·exact ho.len y hy
      ·simp at hy; subst hy; exact hxl
     ·rw [List.map_append, List.nodup_append]; refine ⟨ho.dis, by simp, fun a ha b hb => ?_⟩; simp at hb; subst hb; obtain ⟨y, hy, rfl⟩ := List.mem_map.1 ha; exact ub.1 hc.2.1 y hy
    ·cases h
  ·split at h
   ·split at h
    ·cases h
    ·unfold fG at h; split at h
     ·cases h
     split at h
     ·cases h
     ·cases h; rename_i i _; have hsub : (o.eraseIdx i).Sublist o := List.eraseIdx_sublist ..; refine ⟨⟨fun y hy => ho.sum y (hsub.mem hy), fun y hy => ho.len y (hsub.mem hy), (hsub.map _).nodup ho.dis⟩, ?_⟩; have := hsub.length_le; omega
   ·cases h
theorem AD {m : Nat} : ∀ {l : List (List UInt8)} {o o' : List Ob} {n : Nat}, ObsOk m o → (∀ b ∈ l, b.length ≤ m) → gJ o n l = some o' → ObsOk m o' ∧ o'.length ≤ o.length + l.length
 | [], o, o', n, ho, _, h => by cases h; exact ⟨ho, by simp⟩
 | b :: r, o, o', n, ho, hb, h => by
  simp only [gJ] at h; cases hq : bv o n b with
  | none => rw [hq] at h; cases h
  | some o1 =>
   rw [hq] at h; simp only [Option.bind_some] at h; obtain ⟨h1, h2⟩ := CS ho (hb b (by simp)) hq; obtain ⟨h3, h4⟩ := AD h1 (fun x hx => hb x (by simp [hx])) h; exact ⟨h3, by simp only [List.length_cons]; omega⟩
theorem DD (m : Nat) : ObsOk m [] := ⟨by simp, by simp, by simp⟩
structure SInv (m : Nat) (s : Sto) : Prop where
 good : nr s
 num : s.safe.length + s.queue.length ≤ m
 len : ∀ b ∈ dl s, b.length ≤ 2000
theorem SInv.obs {m : Nat} {s : Sto} (h : SInv m s) : ObsOk 2000 s.objects ∧ s.objects.length ≤ m := by
 obtain ⟨h1, h2⟩ := AD (DD 2000) h.len h.good; have := h.num; simp only [dl, List.length_append, List.length_nil, Nat.zero_add] at h2; exact ⟨h1, by omega⟩
theorem SInv.mono {m m' : Nat} {s : Sto} (h : SInv m s) (k : m ≤ m') : SInv m' s := ⟨h.good, Nat.le_trans h.num k, h.len⟩
def mc : Sto := ⟨[], [], []⟩
theorem EV : SInv 0 mc := ⟨rfl, Nat.le_refl _, by simp [mc, dl]⟩
theorem SInv.push {m : Nat} {s : Sto} (h : SInv m s) {b : List UInt8} {o : List Ob} (hb : b.length ≤ 2000) (ha : bv s.objects (s.safe.length + s.queue.length) b = some o) : SInv (m + 1) ⟨o, s.safe, s.queue ++ [b]⟩ := by
 have e : dl ⟨o, s.safe, s.queue ++ [b]⟩ = dl s ++ [b] := by simp [dl]
 refine ⟨?_, by have := h.num; simp; omega, fun x hx => ?_⟩
 ·unfold nr; rw [e, wC _ _ _ _ h.good]; have : (dl s).length = s.safe.length + s.queue.length := by simp [dl]
  rw [Nat.zero_add, this]; exact ha
 ·rw [e] at hx; rcases List.mem_append.1 hx with hx | hx
  ·exact h.len x hx
  ·simp at hx; subst hx; exact hb
theorem Fj (n : Nat) (x : List UInt8) : (ij n x).length = x.length + 41 := by
 have : ∀ y, (Sha.sum y).length = 32 := fun y => Sha.out_length _
 simp [ij, this, na]; omega
theorem Fi (n : Nat) {k : List UInt8} (hk : k.length = 32) : (nc n k).length = 69 := by
 have : ∀ y, (Sha.sum y).length = 32 := fun y => Sha.out_length _
 simp [nc, this, na, hk]
def evF (s : Sto) (k : Vec 32) : Sto := match aM s.objects k.l with
 | none => s
 | some i => ⟨s.objects.eraseIdx i, s.safe, s.queue ++ [nc (s.safe.length + s.queue.length) k.l]⟩
theorem zd (s : Sto) {x : List UInt8} (h : 65536 < x.length) : cW s x = (s, ⟨List.replicate 32 0, rfl⟩, 2) := by unfold cW; rw [if_pos h]
theorem j7 (s : Sto) {x : List UInt8} {i : Nat} (h : ¬ 65536 < x.length) (hf : aM s.objects (Sha.sum x) = some i) : cW s x = (s, cw x, 0) := by unfold cW; rw [if_neg h, hf]; rfl
theorem wN (s : Sto) {x : List UInt8} (h : ¬ 65536 < x.length) (hf : aM s.objects (Sha.sum x) = none) (ho : 256 ≤ s.objects.length) : cW s x = (s, ⟨List.replicate 32 0, rfl⟩, 330) := by unfold cW; rw [if_neg h, hf, if_neg (by simp), if_pos ho]
theorem ja (s : Sto) {x : List UInt8} (h : ¬ 65536 < x.length) (hf : aM s.objects (Sha.sum x) = none) (ho : s.objects.length < 256) : cW s x = (⟨s.objects ++ [⟨cw x, x⟩], s.safe, s.queue ++ [ij (s.safe.length + s.queue.length) x]⟩, cw x, 0) := by
 unfold cW; rw [if_neg h, hf, if_neg (by simp), if_neg (by omega)]; simp [lD, ij]
theorem SInv.put {m : Nat} {s : Sto} (h : SInv m s) {x : List UInt8} (hx : x.length ≤ 200) (hm : m < 256) : SInv (m + 1) (cW s x).1 := by
 cases hf : aM s.objects (Sha.sum x) with
 | some i => rw [j7 s (by omega) hf]; exact h.mono (by omega)
 | none =>
  have := h.obs.2; have hn := h.num; rw [ja s (by omega) hf (by omega)]; exact h.push (by rw [Fj]; omega) (Bp (by omega) (by omega) hf (by omega))
theorem SInv.evict {m : Nat} {s : Sto} (h : SInv m s) (k : Vec 32) (hm : m < 4294967296) : SInv (m + 1) (evF s k) := by
 unfold evF; have hn := h.num; cases hf : aM s.objects k.l with
 | none => exact h.mono (by omega)
 | some i => exact h.push (by rw [Fi _ k.h]; omega) (zM (by omega) k.h hf)
def gi (s : Sto) : Sto := ⟨s.objects, s.safe ++ s.queue, []⟩
theorem SInv.sync {m : Nat} {s : Sto} (h : SInv m s) : SInv m (gi s) := by
 have e : dl (gi s) = dl s := by simp [dl, gi]
 exact ⟨by unfold nr; rw [e]; exact h.good, by have := h.num; simp [gi]; omega, by rw [e]; exact h.len⟩
def cR : List (List UInt8) → List Bool → List (List UInt8)
 | q :: qs, true :: ks => q :: cR qs ks
 | _ :: qs, false :: ks => cR qs ks
 | _, _ => []
theorem i4 : ∀ (q : List (List UInt8)) (k : List Bool), (cR q k).Sublist q
 | [], _ => by simp [cR]
 | _ :: _, [] => by simp [cR]
 | q :: qs, true :: ks => by rw [cR]; exact (i4 qs ks).cons_cons q
 | q :: qs, false :: ks => by rw [cR]; exact (i4 qs ks).cons q
def lF (s : Sto) (k : List Bool) : Sto := cV [] [] (s.safe ++ cR s.queue k)
theorem SInv.open {m : Nat} {l : List (List UInt8)} (hl : l.length ≤ m) (hb : ∀ b ∈ l, b.length ≤ 2000) : SInv m (cV [] [] l) := by
 obtain ⟨a, o', h1, h2, h3⟩ := rk l [] []; refine ⟨Do l, ?_, fun b hb' => ?_⟩
 ·rw [h3]; have := h1.length_le; simp; omega
 ·rw [h3] at hb'; simp [dl] at hb'; exact hb b (h1.subset hb')
theorem SInv.break {m : Nat} {s : Sto} (h : SInv m s) (k : List Bool) : SInv m (lF s k) := by
 have hs := i4 s.queue k; refine SInv.open ?_ fun b hb => h.len b ?_
 ·have := h.num; have := hs.length_le; simp; omega
 ·simp only [dl]; rcases List.mem_append.1 hb with hb | hb
  ·simp [hb]
  ·simp [hs.subset hb]
def nS (s : Sto) (x : SRaw) : Sto :=
 if x.kind.toNat % 8 < 4 then (cW s (x.data.take 40)).1 else
 if x.kind.toNat % 8 < 6 then evF s (cw (x.data.take 40)) else
 if x.kind.toNat % 8 = 6 then gi s else lF s x.keep
theorem SInv.step {m : Nat} {s : Sto} (h : SInv m s) (x : SRaw) (hm : m < 256) : SInv (m + 1) (nS s x) := by
 unfold nS; have hl : (x.data.take 40).length ≤ 40 := by simp; omega
 split
 ·exact h.put (by omega) hm
 split
 ·exact h.evict _ (by omega)
 split
 ·exact h.sync.mono (by omega)
 ·exact (h.break _).mono (by omega)
def fU (l : List SRaw) (n : Nat) : Sto := (l.take n).foldl nS mc
theorem tz : ∀ (l : List SRaw) (m : Nat) (s : Sto), SInv m s → m + l.length ≤ 256 → SInv (m + l.length) (l.foldl nS s)
 | [], _, _, h, _ => h
 | x :: r, m, s, h, hm => by
  simp only [List.length_cons] at hm; have := tz r (m + 1) (nS s x) (h.step x (by omega)) (by omega); simp only [List.foldl_cons, List.length_cons]; exact this.mono (by omega)
theorem yO (l : List SRaw) (n : Nat) (hn : n ≤ 256) : SInv n (fU l n) := by
 have := tz (l.take n) 0 mc EV (by simp; omega); exact this.mono (by simp; omega)
end
section
theorem Ar {s : Sto} (h : s.safe.length + s.queue.length ≤ 1000000) : dD s = some (dl s) := by
 unfold dD; rw [ez (by simp; omega), ap, List.nil_append, ez (by omega), ap]; rfl
theorem FI {s : Sto} (h : s.safe.length + s.queue.length ≤ 1000000) : iV s = some (gi s) := by
 unfold iV; rw [hO _ (by simp; omega) (by simp), ap]; simp [gi]
theorem Ct {s : Sto} (h : s.safe.length + s.queue.length ≤ 1000000) : ef s = some (gi s) := by
 unfold ef; rw [Ar h, ap]; rfl
theorem uB {s : Sto} (b : List UInt8) (h : s.queue.length ≤ 1000000) : du s b = some ⟨s.objects, s.safe, s.queue ++ [b]⟩ := by
 unfold du; rw [ez (by simp; omega), ap, List.nil_append, ez (by simp; omega), ap]
theorem te {l : List (List UInt8)} (h : l.length ≤ 1000000 ∧ ∀ b ∈ l, b.length ≤ 1000000) : iU l = some (cV [] [] l) := if_pos h
theorem ux {l : List (List UInt8)} (h : l.length ≤ 1000000 ∧ ∀ b ∈ l, b.length ≤ 1000000) : ed l = some (cV [] [] l) := if_pos h
theorem AV {x : List UInt8} (h : x.length ≤ 1000000) : jp x = some (cw x) := if_pos h
theorem w7 {x : List UInt8} (h : x.length ≤ 1000000) : eL x = some (cw x) := if_pos h
theorem wY {l : List Ob} (k : Vec 32) (h : l.length ≤ 4294967296) : gI l k = some (cB l k.l) := if_pos h
theorem wR {l : List Ob} (k : Vec 32) (h : l.length ≤ 4294967296) : lc l k = some (cB l k.l) := if_pos h
theorem mr {l : List Ob} {k : List UInt8} {i : Nat} (h : aM l k = some i) : cB l k = (i : Int) := by unfold cB; rw [h]
theorem mq {l : List Ob} {k : List UInt8} (h : aM l k = none) : cB l k = -1 := by unfold cB; rw [h]
theorem sV {l : List Ob} {k : List UInt8} {i : Nat} (h : aM l k = some i) : i < l.length := by
 obtain ⟨x, hx, _⟩ := jq h; exact (List.getElem?_eq_some_iff.1 hx).1
theorem Hh (s : Sto) : (⟨s.objects, s.safe, s.queue⟩ : Sto) = s := rfl
theorem Fg {s : Sto} (k : UInt8) {x : List UInt8} (h1 : s.safe.length ≤ 1000000) (h2 : s.queue.length ≤ 1000000) (h3 : x.length ≤ 100000) : iW s k x = some (lD s k x) := if_pos ⟨h1, h2, h3⟩
theorem Al {l : List Ob} {i : Nat} (hl : l.length ≤ 1000000) (hi : i < l.length) : eC l (i : Int) = some (l.eraseIdx i) := by
 unfold eC; rw [kd (by omega), ap, bP (by omega), ap, kd (by omega), ap, gE _ (by simp; omega) (by simp), ap]; have h1 : ((i : Int) + 1).toNat = i + 1 := by omega
 simp [List.eraseIdx_eq_take_drop_succ, h1]
theorem zt {l : List Ob} {i : Nat} (hl : l.length ≤ 1000000) (hi : i < l.length) : jF l (i : Int) = some (l.eraseIdx i) := if_pos ⟨hl, by omega, by omega⟩
theorem SInv.small {m : Nat} {s : Sto} (h : SInv m s) (hm : m ≤ 256) : s.objects.length ≤ 256 ∧ s.safe.length + s.queue.length ≤ 256 ∧ (∀ b ∈ dl s, b.length ≤ 2000) := ⟨Nat.le_trans h.obs.2 hm, Nat.le_trans h.num hm, h.len⟩
theorem FF {m : Nat} {s : Sto} (h : SInv m s) (hm : m ≤ 256) {x : List UInt8} (hx : x.length ≤ 99000) : jN s x = some (cW s x) := by
 obtain ⟨h1, h2, _⟩ := h.small hm; exact if_pos ⟨by omega, by omega, by omega, hx⟩
theorem Fo {m : Nat} {s : Sto} (h : SInv m s) (hm : m ≤ 256) {x : List UInt8} (hx : x.length ≤ 99000) : fu s x = some ⟨(cW s x).1, (cW s x).2.1, (cW s x).2.2⟩ := by
 obtain ⟨h1, h2, _⟩ := h.small hm; unfold fu; by_cases c : 65536 < x.length
 ·rw [f5 (by omega), cond_true, zd s c]
 rw [f3 (by omega), cond_false, w7 (by omega), ap, wR _ (by omega), ap]; show (bif decide (0 ≤ cB s.objects (Sha.sum x)) then _ else _) = _; cases hf : aM s.objects (Sha.sum x) with
 | some i => rw [mr hf, FZ (by omega), cond_true, j7 s c hf]
 | none =>
  rw [mq hf, FY (by omega), cond_false]; by_cases c2 : 256 ≤ s.objects.length
  ·rw [FZ (by omega), cond_true, wN s c hf c2]
  ·rw [FY (by omega), cond_false, ja s c hf (by omega), ez (by simp; omega), ap, List.nil_append, bP (by omega), ap]; have e : cO ((s.safe.length : Int) + (s.queue.length : Int)) x = some (ij (s.safe.length + s.queue.length) x) := by
    unfold cO; rw [if_pos ⟨by omega, by omega⟩]
    congr 2
   rw [e, ap, uB _ (by omega), ap, ez (by simp; omega), ap, List.nil_append, ez (by simp; omega), ap]
theorem He {m : Nat} {s : Sto} (h : SInv m s) (hm : m ≤ 256) (k : Vec 32) : iw s k = some (evF s k, if aM s.objects k.l = none then 331 else 0) := by
 obtain ⟨h1, h2, _⟩ := h.small hm; unfold iw evF; rw [wY _ (by omega), ap]; cases hf : aM s.objects k.l with
 | none => rw [mq hf, f5 (by omega), cond_true]; rfl
 | some i =>
  have hi := sV hf; rw [mr hf, f3 (by omega), cond_false, Fg _ (by omega) (by omega) (by rw [k.h]; omega), ap]; have e : (lD s 68 k.l).objects = s.objects := rfl; rw [e, Al (by omega) hi, ap, if_neg (by simp)]; simp [lD, nc]
theorem GV {m : Nat} {s : Sto} (h : SInv m s) (hm : m ≤ 256) (k : Vec 32) : eO s k = some ⟨evF s k, ⟨List.replicate 32 0, rfl⟩, if aM s.objects k.l = none then 331 else 0⟩ := by
 obtain ⟨h1, h2, _⟩ := h.small hm; unfold eO evF; rw [wR _ (by omega), ap]; cases hf : aM s.objects k.l with
 | none => rw [mq hf, f5 (by omega), cond_true]; rfl
 | some i =>
  have hi := sV hf; rw [mr hf, f3 (by omega), cond_false, bP (by omega), ap]; have e : cK ((s.safe.length : Int) + (s.queue.length : Int)) k = some (nc (s.safe.length + s.queue.length) k.l) := by
   unfold cK; rw [if_pos (by omega)]
   congr 2
  rw [e, ap, uB _ (by omega), ap]; simp only; rw [zt (by omega) hi, ap, if_neg (by simp)]
theorem zy {m : Nat} {s : Sto} (h : SInv m s) (hm : m ≤ 256) (k : Vec 32) : jM s k = some (match aM s.objects k.l with | none => ([], 331) | some i => ((s.objects.getD i ⟨k, []⟩).data, 0)) := by
 obtain ⟨h1, h2, _⟩ := h.small hm; unfold jM; rw [wY _ (by omega), ap]; cases hf : aM s.objects k.l with
 | none => rw [mq hf, f5 (by omega), cond_true]
 | some i =>
  have hi := sV hf; rw [mr hf, f3 (by omega), cond_false, eg, List.getElem?_eq_getElem hi, ap]; simp [List.getD_eq_getElem?_getD, hi]
theorem Ei {m : Nat} {s : Sto} (h : SInv m s) (hm : m ≤ 256) : iV s = some (gi s) := FI (by have := (h.small hm).2.1; omega)
theorem D5 {m : Nat} {s : Sto} (h : SInv m s) (hm : m ≤ 256) : ef s = some (gi s) := Ct (by have := (h.small hm).2.1; omega)
theorem Fw {m : Nat} {s : Sto} (h : SInv m s) (hm : m ≤ 256) : dD s = some (dl s) := Ar (by have := (h.small hm).2.1; omega)
theorem ui (q : List (List UInt8)) (k : List Bool) (i : Nat) {x : List UInt8} (hx : q[i]? = some x) : cR (q.take (i + 1)) k = cR (q.take i) k ++ (if k[i]? = some true then [x] else []) := by
 induction q generalizing k i with
 | nil => simp at hx
 | cons y r ih =>
  cases i with
  | zero =>
   simp at hx; subst hx; cases k with
   | nil => simp [cR]
   | cons b k => cases b <;> simp [cR]
  | succ i =>
   simp only [List.getElem?_cons_succ] at hx; simp only [List.take_succ_cons]; cases k with
   | nil => simp [cR]
   | cons b k =>
    have := ih k i hx; cases b <;> simp [cR, this]
theorem BP (q : List (List UInt8)) (k : List Bool) {i : Nat} (h : k.length ≤ i) : cR q k = cR (q.take i) k := by
 induction q generalizing k i with
 | nil => simp
 | cons y r ih =>
  cases k with
  | nil => cases i <;> simp [cR]
  | cons b k =>
   cases i with
   | zero => simp at h
   | succ i =>
    have := ih k (i := i) (by simpa using h); cases b <;> simp [cR, this]
theorem uP {s : Sto} (k : List Bool) (h : s.safe.length + s.queue.length ≤ 256) (hb : ∀ b ∈ dl s, b.length ≤ 2000) : iu s k = some (lF s k) := by
 unfold iu; have e : cZ s.safe = some s.safe := if_pos (by omega); rw [e, ap]; have h2 : cH (dU s k) (0, s.safe) = some (s.safe ++ cR s.queue k) := by
  have := j4 (body := dU s k) (fun i => ((i : Int), s.safe ++ cR (s.queue.take i) k)) s.queue.length (e := s.safe ++ cR s.queue k) (fun i hi => by
   have hx : s.queue[i]? = some (s.queue[i]'hi) := List.getElem?_eq_getElem _; generalize s.queue[i]'hi = x at hx; have hl := (i4 (s.queue.take i) k).length_le; rw [List.length_take] at hl; unfold dU; simp only; rw [f5 (by omega), cond_true, eg, hx, ap, ui _ _ _ hx]; by_cases c : i < k.length
   ·have hk : k[i]? = some (k[i]'c) := List.getElem?_eq_getElem _; generalize k[i]'c = b at hk; rw [f5 (by omega), cond_true, eg, hk, ap]; cases b with
    | true =>
     rw [cond_true, ez (by simp; omega), ap, ap, bP (by omega), ap]; simp
    | false =>
     rw [cond_false, ap, bP (by omega), ap]; simp
   ·rw [f3 (by omega), cond_false, ap, bP (by omega), ap]; have : k[i]? = none := by rw [List.getElem?_eq_none_iff]; omega
    rw [this]; simp) (by
   unfold dU; simp only [List.take_length]; rw [f3 (by omega), cond_false])
  simpa [cR] using this
 rw [h2, ap, te, ap]
 ·rfl
 ·have hs := i4 s.queue k; refine ⟨by have := hs.length_le; simp; omega, fun b hb' => ?_⟩; have : b ∈ dl s := by
   simp only [dl]; rcases List.mem_append.1 hb' with hb' | hb'
   ·simp [hb']
   ·simp [hs.subset hb']
  exact Nat.le_trans (hb b this) (by omega)
theorem Cg {s : Sto} (k : List Bool) (h : s.safe.length + s.queue.length ≤ 256) (hb : ∀ b ∈ dl s, b.length ≤ 2000) : eN s k = some (lF s k) := by
 unfold eN; rw [ez (by simp; omega), ap, List.nil_append]; have h2 : cH (dP s k) (0, s.safe) = some (s.safe ++ cR s.queue k) := by
  have hmin : ∀ n, n = min s.queue.length k.length → cR (s.queue.take n) k = cR s.queue k := fun n hn => by
   by_cases c : s.queue.length ≤ k.length
   ·rw [hn, Nat.min_eq_left c, List.take_length]
   ·rw [hn, Nat.min_eq_right (by omega), ← BP _ _ (Nat.le_refl _)]
  have := j4 (body := dP s k) (fun i => ((i : Int), s.safe ++ cR (s.queue.take i) k)) (min s.queue.length k.length) (e := s.safe ++ cR s.queue k) (fun i hi => by
   have hx : s.queue[i]? = some (s.queue[i]'(by omega)) := List.getElem?_eq_getElem _; generalize s.queue[i]'(by omega) = x at hx; have hl := (i4 (s.queue.take i) k).length_le; rw [List.length_take] at hl; have hk : k[i]? = some (k[i]'(by omega)) := List.getElem?_eq_getElem _; generalize k[i]'(by omega) = b at hk; unfold dP; simp only; rw [f5 (by omega), cond_true, f5 (by omega), cond_true, eg, hk, ap, ui _ _ _ hx]; cases b with
   | true =>
    rw [cond_true, eg, hx, ap, ez (by simp; omega), ap, ap, bP (by omega), ap]; simp [hk]
   | false =>
    rw [cond_false, ap, bP (by omega), ap]; simp [hk]) (by
   unfold dP; simp only; rw [hmin _ rfl]; by_cases c : s.queue.length ≤ k.length
   ·rw [Nat.min_eq_left c, f3 (by omega), cond_false]
   ·rw [Nat.min_eq_right (by omega), f5 (by omega), cond_true, f3 (by omega), cond_false])
  simpa [cR] using this
 rw [h2, ap, ux, ap]
 ·rfl
 ·have hs := i4 s.queue k; refine ⟨by have := hs.length_le; simp; omega, fun b hb' => ?_⟩; have : b ∈ dl s := by
   simp only [dl]; rcases List.mem_append.1 hb' with hb' | hb'
   ·simp [hb']
   ·simp [hs.subset hb']
  exact Nat.le_trans (hb b this) (by omega)
open Classical in
theorem D8 (a b : List Ob) (ha : a.length ≤ 1000000) : bX a b = some (decide (a = b)) := by
 unfold bX; refine Ok.get ?_; refine Ok.cond (fun c => Ok.ret ?_) fun c => ?_
 ·have : a.length ≠ b.length := by simp at c; omega
  rw [eq_comm, decide_eq_false_iff_not]; intro e; subst e; exact this rfl
 have hl : a.length = b.length := by simp at c; omega
 refine Ok.bind (P := fun o => o = if a = b then .inl () else .inr false) ?_ ?_
 ·refine Ok.loop (fun s : Int => ∃ i : Nat, s = i ∧ i ≤ a.length ∧ ∀ j x y, j < i → a[j]? = some x → b[j]? = some y → x = y) (fun s : Int => a.length - s.toNat) ⟨0, rfl, by omega, fun j x y h => by omega⟩ ?_; rintro _ ⟨i, rfl, h1, h2⟩; unfold gF; refine Ok.cond (fun c => ?_) fun c => Ok.ret ?_
  ·simp only [decide_eq_true_eq] at c; have hx : a[i]? = some (a[i]'(by omega)) := List.getElem?_eq_getElem _; have hy : b[i]? = some (b[i]'(by omega)) := List.getElem?_eq_getElem _; generalize a[i]'(by omega) = x at hx; generalize b[i]'(by omega) = y at hy; simp only [eg, hx, hy, ap]; have hstop : x ≠ y → (Sum.inr false : Unit ⊕ Bool) = if a = b then .inl () else .inr false := fun hne => by
    rw [if_neg]; intro e; subst e; rw [hx] at hy; exact hne (Option.some.inj hy)
   have hgo : x = y → ∀ j x' y', j < i + 1 → a[j]? = some x' → b[j]? = some y' → x' = y' := fun he j x' y' hj hx' hy' => by
    by_cases e : j = i
    ·subst e; rw [hx] at hx'; rw [hy] at hy'; cases hx'; cases hy'; exact he
    ·exact h2 j x' y' (by omega) hx' hy'
   refine Ok.cond (fun c2 => Ok.ret (hstop fun e => ?_)) fun c2 => ?_
   ·subst e; simp at c2
   refine Ok.cond (fun c3 => Ok.ret (hstop fun e => ?_)) fun c3 => ?_
   ·subst e; simp at c3
   rw [bP (by omega), ap]; have he : x = y := Ob.same.1 ⟨by simpa using c2, by simpa using c3⟩; exact Ok.ret ⟨⟨i + 1, by omega, by omega, hgo he⟩, by omega⟩
  ·simp only [decide_eq_false_iff_not] at c; rw [if_pos (qa hl h2 (by omega))]
 ·rintro o rfl; by_cases e : a = b
  ·rw [if_pos e, decide_eq_true e]; exact Ok.ret rfl
  ·rw [if_neg e, decide_eq_false e]; exact Ok.ret rfl
theorem D9 (a b : List (List UInt8)) (ha : a.length ≤ 1000000) : bY a b = some (decide (a = b)) := by
 unfold bY; refine Ok.get ?_; refine Ok.cond (fun c => Ok.ret ?_) fun c => ?_
 ·have : a.length ≠ b.length := by simp at c; omega
  rw [eq_comm, decide_eq_false_iff_not]; intro e; subst e; exact this rfl
 have hl : a.length = b.length := by simp at c; omega
 refine Ok.bind (P := fun o => o = if a = b then .inl () else .inr false) ?_ ?_
 ·refine Ok.loop (fun s : Int => ∃ i : Nat, s = i ∧ i ≤ a.length ∧ ∀ j x y, j < i → a[j]? = some x → b[j]? = some y → x = y) (fun s : Int => a.length - s.toNat) ⟨0, rfl, by omega, fun j x y h => by omega⟩ ?_; rintro _ ⟨i, rfl, h1, h2⟩; unfold gG; refine Ok.cond (fun c => ?_) fun c => Ok.ret ?_
  ·simp only [decide_eq_true_eq] at c; have hx : a[i]? = some (a[i]'(by omega)) := List.getElem?_eq_getElem _; have hy : b[i]? = some (b[i]'(by omega)) := List.getElem?_eq_getElem _; generalize a[i]'(by omega) = x at hx; generalize b[i]'(by omega) = y at hy; simp only [eg, hx, hy, ap]; have hstop : x ≠ y → (Sum.inr false : Unit ⊕ Bool) = if a = b then .inl () else .inr false := fun hne => by
    rw [if_neg]; intro e; subst e; rw [hx] at hy; exact hne (Option.some.inj hy)
   have hgo : x = y → ∀ j x' y', j < i + 1 → a[j]? = some x' → b[j]? = some y' → x' = y' := fun he j x' y' hj hx' hy' => by
    by_cases e : j = i
    ·subst e; rw [hx] at hx'; rw [hy] at hy'; cases hx'; cases hy'; exact he
    ·exact h2 j x' y' (by omega) hx' hy'
   refine Ok.cond (fun c2 => Ok.ret (hstop fun e => ?_)) fun c2 => ?_
   ·subst e; simp at c2
   rw [bP (by omega), ap]; have he : x = y := by simpa using c2
   exact Ok.ret ⟨⟨i + 1, by omega, by omega, hgo he⟩, by omega⟩
  ·simp only [decide_eq_false_iff_not] at c; rw [if_pos (qa hl h2 (by omega))]
 ·rintro o rfl; by_cases e : a = b
  ·rw [if_pos e, decide_eq_true e]; exact Ok.ret rfl
  ·rw [if_neg e, decide_eq_false e]; exact Ok.ret rfl
theorem uL {a : List Ob} (ha : a.length ≤ 1000000) : bX a a = some true := (D8 a a ha).trans (by simp)
theorem uM {a : List (List UInt8)} (ha : a.length ≤ 1000000) : bY a a = some true := (D9 a a ha).trans (by rw [decide_eq_true rfl])
theorem Ea {s : Sto} (h1 : s.objects.length ≤ 1000000) (h2 : s.safe.length ≤ 1000000) (h3 : s.queue.length ≤ 1000000) : fa s s = some true := by
 unfold fa; rw [uL h1, ap, cond_true, uM h2, ap, cond_true, uM h3, ap]
theorem uO {x : Std} (h1 : x.s.objects.length ≤ 1000000) (h2 : x.s.safe.length ≤ 1000000) (h3 : x.s.queue.length ≤ 1000000) : eB x x = some true := by
 unfold eB; rw [Ea h1 h2 h3, ap, cond_true]; simp
theorem rA (x : Gott) : dg x x = some true := by
 unfold dg; simp
theorem SInv.openOk {m : Nat} {s : Sto} (h : SInv m s) (hm : m ≤ 256) : (dl s).length ≤ 1000000 ∧ ∀ b ∈ dl s, b.length ≤ 1000000 := by
 obtain ⟨h1, h2, h3⟩ := h.small hm; exact ⟨by simp [dl]; omega, fun b hb => Nat.le_trans (h3 b hb) (by omega)⟩
theorem kT {m : Nat} {s : Sto} (h : SInv m s) (hm : m ≤ 256) : dL s = some true := by
 obtain ⟨h1, h2, h3⟩ := h.small hm; unfold dL; rw [Fw h hm, ap, ux (h.openOk hm), ap, h.good.open, xG rfl, cond_true]; simp only; rw [uL (by omega), ap]
theorem Cq {m : Nat} {s : Sto} (h : SInv m s) (hm : m ≤ 256) : fq s = some true := by
 obtain ⟨h1, h2, h3⟩ := h.small hm; unfold fq; rw [hO _ (by simp; omega) (by simp), ap]; have e : [s.safe, s.queue].flatten = dl s := by simp [dl]
 rw [e, te (h.openOk hm), ap, h.good.open, xG rfl, cond_true]; simp only; have := tU s.objects s.objects (by omega) (fun x hx => Nat.le_trans (h.obs.1.len x hx) (by omega)); exact (fL (this.trans (by simp)))
theorem kX {m : Nat} {s : Sto} (h : SInv m s) (hm : m ≤ 256) {x : List UInt8} (hx : x.length ≤ 99000) : dt s x = some ⟨(cW s x).1, (cW s x).2.1, (cW s x).2.2⟩ := by
 unfold dt; rw [FF h hm hx, ap]
theorem sl {m : Nat} {s : Sto} (h : SInv m s) (hm : m ≤ 256) (k : Vec 32) : dZ s k = some ⟨evF s k, ⟨List.replicate 32 0, rfl⟩, if aM s.objects k.l = none then 331 else 0⟩ := by
 unfold dZ; rw [He h hm, ap]
theorem yN {m : Nat} {s : Sto} (h : SInv m s) (hm : m ≤ 256) {k : Vec 32} (hf : aM s.objects k.l = none) : cj s k = some ⟨[], 331⟩ := by
 unfold cj; rw [zy h hm, hf, ap]
theorem pJ {m : Nat} {s : Sto} (h : SInv m s) (hm : m ≤ 256) {k : Vec 32} {i : Nat} {x : Ob} (hf : aM s.objects k.l = some i) (hx : s.objects[i]? = some x) : cj s k = some ⟨x.data, 0⟩ := by
 unfold cj; rw [zy h hm, hf, ap]; simp [List.getD_eq_getElem?_getD, hx]
theorem EZ (k : UInt8) : ru (k.toNat : Int) 8 = some ((k.toNat % 8 : Nat) : Int) := by
 rw [Fk (by omega) (by omega)]; norm_cast
theorem I3 (x : List UInt8) : slc x 0 (min (x.length : Int) 40) = some (x.take 40) := by
 rw [kd (by omega)]; simp only [Int.toNat_zero, List.drop_zero, Option.some.injEq]; by_cases c : x.length ≤ 40
 ·rw [show (min (x.length : Int) 40).toNat = x.length by omega, List.take_length, List.take_of_length_le c]
 ·rw [show (min (x.length : Int) 40).toNat = 40 by omega]
theorem D4 {m : Nat} {s : Sto} (h : SInv m s) (hm : m ≤ 256) (x : SRaw) : fc s x = some (nS s x) := by
 obtain ⟨h1, h2, h3⟩ := h.small hm; have hl : (x.data.take 40).length ≤ 40 := by simp; omega
 unfold fc nS; rw [I3, ap, EZ, ap]; generalize x.kind.toNat % 8 = n; have e1 : (bif ((n : Int) == 0) then some ((n : Int) == 0) else bif ((n : Int) == 1) then some ((n : Int) == 1) else bif ((n : Int) == 2) then some ((n : Int) == 2) else some ((n : Int) == 3)) = some (decide (n < 4)) := by
  by_cases a : n = 0
  ·subst a; rfl
  rw [pi (by omega), cond_false]; by_cases b : n = 1
  ·subst b; rfl
  rw [pi (by omega), cond_false]; by_cases c : n = 2
  ·subst c; rfl
  rw [pi (by omega), cond_false]; by_cases d : n = 3
  ·subst d; rfl
  rw [pi (by omega), decide_eq_false (by omega)]
 rw [e1, ap]; by_cases c : n < 4
 ·rw [decide_eq_true c, cond_true, if_pos c, Fo h hm (by omega), ap]
 rw [decide_eq_false c, cond_false, if_neg c]; have e2 : (bif ((n : Int) == 4) then some ((n : Int) == 4) else some ((n : Int) == 5)) = some (decide (n < 6)) := by
  by_cases a : n = 4
  ·subst a; rfl
  rw [pi (by omega), cond_false]; by_cases b : n = 5
  ·subst b; rfl
  rw [pi (by omega), decide_eq_false (by omega)]
 rw [e2, ap]; by_cases c6 : n < 6
 ·rw [decide_eq_true c6, cond_true, if_pos c6, w7 (by omega), ap, GV h hm, ap]
 rw [decide_eq_false c6, cond_false, if_neg c6]; by_cases c7 : n = 6
 ·subst c7; rw [xG (show ((6 : Nat) : Int) = 6 from rfl), cond_true, if_pos rfl, D5 h hm, ap]
 ·rw [pi (by omega), cond_false, if_neg c7, Cg _ (by omega) h3, ap]
theorem Ca (l : List SRaw) {n : Nat} {x : SRaw} (hx : l[n]? = some x) : fU l (n + 1) = nS (fU l n) x := by
 unfold fU; rw [List.take_add_one, hx]; simp
theorem Ff (l : List SRaw) (n : Nat) (hn : n ≤ 250) : e9 l (n : Int) = some (fU l n) := by
 unfold e9; have h2 : cH (ee l (n : Int)) (0, [], [], []) = some ((fU l n).objects, (fU l n).safe, (fU l n).queue) := by
  have hmin : ∀ k, k = min l.length n → fU l k = fU l n := fun k hk => by
   unfold fU; by_cases c : l.length ≤ n
   ·rw [hk, Nat.min_eq_left c, List.take_length, List.take_of_length_le c]
   ·rw [hk, Nat.min_eq_right (by omega)]
  have := j4 (body := ee l (n : Int)) (fun i => ((i : Int), (fU l i).objects, (fU l i).safe, (fU l i).queue)) (min l.length n) (e := ((fU l n).objects, (fU l n).safe, (fU l n).queue)) (fun i hi => by
   have hx : l[i]? = some (l[i]'(by omega)) := List.getElem?_eq_getElem _; generalize l[i]'(by omega) = x at hx; unfold ee; simp only; rw [f5 (by omega), cond_true, f5 (by omega), cond_true, eg, hx, ap, Hh, D4 (yO l i (by omega)) (by omega), ap, bP (by omega), ap, Ca l hx]; rfl) (by
   unfold ee; simp only; rw [hmin _ rfl]; by_cases c : l.length ≤ n
   ·rw [Nat.min_eq_left c, f3 (by omega), cond_false]
   ·rw [Nat.min_eq_right (by omega), f5 (by omega), cond_true, f3 (by omega), cond_false])
  exact this
 rw [h2, ap]
end
section
section
variable {P : Program} {G : Nat → Option D} {N : Nat} {F : Fr} {ops rest : List Oper} {o : Oper} {Q : Exit → St → Prop} {h : List (Nat × Blk)} {env : List (Nat × V)} {nx : Nat} {st : St} {μ : Nat → Option Place} {C : aw} {a : Act} {w w' : World}
structure Marked (b : Nat) (w w' : World) : Prop where
 os : w'.os = w.os
 tape : w'.tape = w.tape
 output : w'.output = w.output
 size : w'.heap.size = w.heap.size
 block : ∀ k, k ≠ b → w'.heap[k]? = w.heap[k]?
 cell : ∀ k o, w'.cell? ⟨k, o, none⟩ = w.cell? ⟨k, o, none⟩
theorem xw (w : World) (b m : Nat) {cur : Array Value} {T : TypeId} (hb : w.heap[b]? = some (.cells cur T (0, 0))) : Marked b w (w.freeze ⟨b, m, none⟩ 1) := by
 have hh : ∀ k, (w.freeze ⟨b, m, none⟩ 1).heap[k]? = if k = b then some (.cells cur T (m, m + 1)) else w.heap[k]? := by
  intro k; unfold World.freeze; rw [if_neg (by decide)]; simp only [Array.getElem?_modify]; by_cases e : k = b
  ·subst e; simp [hb]
  ·simp [e, Ne.symm e]
 refine ⟨?_, ?_, ?_, ?_, fun k hk => by rw [hh, if_neg hk], fun k o => ?_⟩
 ·unfold World.freeze; rw [if_neg (by decide)]
 ·unfold World.freeze; rw [if_neg (by decide)]
 ·unfold World.freeze; rw [if_neg (by decide)]
 ·unfold World.freeze; rw [if_neg (by decide)]; simp
 ·simp only [World.cell?, hh]; by_cases e : k = b
  ·subst e; simp [hb]
  ·simp [e]
theorem Sim.mark {l : Nat} {k : Blk} {p : Place} (rows : List (List D)) (hs : Sim F st μ C a w) (hk : look st.h l = some k) (hr : k.rows = rows.map fun r => r.map V.d) (hp : μ l = some p) (hc : 0 < p.cap) (hw : Marked p.b w w') :
  ∃ C', (∀ b o u, C b o u → C' b o u) ∧ (∀ y v, ax μ C y v → ax μ C' (bc l k.sz rows y) v) ∧ Sim F ⟨cM l k.sz rows st.env, bK l st.h, st.nx⟩ μ C' a w' := by
 obtain ⟨p', hp', hb⟩ := hs.heap l k hk; rw [hp] at hp'; cases hp'; have hrow : ∀ x ∈ rows, x.length = k.sz := by
  intro x hx; have := hb.row (x.map V.d) (by rw [hr]; exact List.mem_map.2 ⟨x, hx, rfl⟩); simpa using this
 have hlen : rows.length ≤ p.cap := by have := hb.len; rw [hr] at this; simpa using this
 obtain ⟨b1, b2, cur, T, b3, b4, b5⟩ := hb.cells hc; have hkm : k.isMap = false := by
  have := eV k.sz rows; rw [← hr] at this; exact this
 rw [hkm] at b3; have b3 := b3.cells; have k1 : ∀ b o u, C b o u → kz C p.b cur b o u := fun _ _ _ h => .inl h
 have hne : ∀ b o u, C b o u → b ≠ p.b := fun b o u h e => b2 o u (e ▸ h)
 have hcell : ∀ b o, b ≠ p.b → w'.cell? ⟨b, o, none⟩ = w.cell? ⟨b, o, none⟩ := fun b o _ => hw.cell b o
 have k3 : bF (kz C p.b cur) w' := fun b o u h => by
  rcases h with h | ⟨rfl, h⟩
  ·have hb := hne _ _ _ h; rcases hs.known b o u h with h | h
   ·left; rw [hcell _ _ hb]; exact h
   ·right; obtain ⟨es, c, h1, h2⟩ := h; exact ⟨es, c, by rw [hw.block _ hb]; exact h1, h2⟩
  ·left; rw [hw.cell, cell_of_row w p.b o _ _ _ b3]; exact h
 have k4 : 0 < p.cap → ∀ (i : Nat) (r : List D), rows[i]? = some r → Rp (kz C p.b cur) (.mem r p.b (i * p.sz)) := fun _ i r hi => by
  refine gM fun j d hj => ?_
  have h1 : k.rows[i]? = some (r.map V.d) := by rw [hr]; simp [hi]
  obtain ⟨u, a1, a2, a3⟩ := b5 i _ h1 j (.d d) (by simp [hj]); exact ⟨u, .inr ⟨rfl, by rw [hb.sz]; simpa using a1⟩, a2, Rp.mono (fun _ _ _ h => .inl h) a3⟩
 have hrep : ∀ y v, ax μ C y v → ax μ (kz C p.b cur) (bc l k.sz rows y) v := fun y v hy => vA hp hb hrow hlen k1 k4 hy
 have hsz := hw.size; refine ⟨kz C p.b cur, k1, hrep, ⟨hs.size, ?_, ⟨by rw [hw.os]; exact hs.below.os, by rw [hw.tape]; exact hs.below.tape, by rw [hw.output]; exact hs.below.output, by rw [hsz]; exact hs.below.size, fun b hlt hn => ?_⟩, fun b o u h => k1 _ _ _ (hs.sub _ _ _ h), fun b o u h => ?_, k3, fun t x hx => ?_, fun l' k' hk' => ?_, fun l1 l2 p1 p2 h1 h2 => ?_, hs.nx, ?_⟩⟩
 ·refine hs.defers.step fun q _ hq => ?_
  have : q ≠ p.b := fun e => by rw [e, b3] at hq; cases hq
  rw [hw.block _ this]; exact hq
 ·have : b ≠ p.b := fun e => by
   subst e; rcases b1 with h | h
   ·omega
   ·exact hn h
  rw [hw.block _ this]; exact hs.below.block b hlt hn
 ·rcases h with h | ⟨rfl, _⟩
  ·exact hs.new _ _ _ h
  ·exact .inr b1
 ·rw [i7] at hx; cases hl : look st.env t with
  | none => rw [hl] at hx; cases hx
  | some y =>
   rw [hl] at hx; cases hx; exact hrep _ _ (hs.env t y hl)
 ·rw [dH] at hk'; split at hk'
  ·cases hk'
  ·rename_i hne'; obtain ⟨p', hp', hb'⟩ := hs.heap l' k' hk'; refine ⟨p', hp', hb'.sz, hb'.len, hb'.max, hb'.row, fun hc' => ?_⟩; obtain ⟨c1, c2, cur2, T2, c3, c4, c5⟩ := hb'.cells hc'; have hpb : p'.b ≠ p.b := fun e => hne' (hs.inj l' l p' p (by rw [hk']; rfl) (by rw [hk]; rfl) hp' hp hc' hc e)
   refine ⟨c1, fun o u hcu => ?_, cur2, T2, c3.of_eq (hw.block _ hpb), c4, c5.mono (fun _ _ h => h) k1⟩; rcases hcu with h | ⟨e, _⟩
   ·exact c2 o u h
   ·exact hpb e
 ·simp only [dH] at h1 h2; split at h1
  ·cases h1
  ·split at h2
   ·cases h2
   ·exact hs.inj l1 l2 p1 p2 h1 h2
 ·refine F.stab hs.gh ⟨hw.os, hw.tape, hw.output, by rw [hsz]; exact Nat.le_refl _, fun _ _ _ h => h, fun j hj => .inl (by simp only [dH] at hj; split at hj <;> first | cases hj | exact hj), fun b hb hn => ?_, fun b ⟨l', k', q, g1, g2⟩ => .inl ?_, k1, fun b o u h => ?_, k3⟩
  ·refine hw.block b fun e => hn ⟨l, k, p, hk, hp, hc, e.symm⟩
  ·rw [dH] at g1; split at g1
   ·cases g1
   ·exact ⟨l', k', q, g1, g2⟩
  ·rcases h with h | ⟨rfl, _⟩
   ·exact .inl h
   ·exact .inr (.inl ⟨l, k, p, hk, hp, hc, rfl⟩)
theorem SmG.mark (hF : Env F P G N) {t e : TypeId} {x : Operand} {l : Nat} {rows : List (List D)} {d : Tmp} (ho : o.op = .convert t t x) (hd : o.dst = some d) (hdN : Nat.blt d N = true) (hg : aC ops env o.guard = some true) (hx : evB G env x = some (.sref l 0 rows.length)) (hk : af h l = some (dB 1 rows)) (hne : rows ≠ [])
  (h1 : P.underlying t = some (.slice e)) (h2 : P.underlying e = some (.int .u8)) (k : SmG F N ops rest Q ⟨(d, .d (.list 1 rows false)) :: cM l 1 rows env, bK l h, nx⟩) : SmG F N ops (o :: rest) Q ⟨env, h, nx⟩ := by
 have hdN' : d < N := by simpa [Nat.blt_eq] using hdN
 rw [aL] at hk; rw [aT] at hx; intro hsm μ C a w hs; have hsm2 : St.small N ⟨(d, .d (.list 1 rows false)) :: cM l 1 rows env, bK l h, nx⟩ := by
  refine bI (env := cM l 1 rows env) (h := bK l h) (nx := nx) ?_ hdN'; intro s y hy; simp only [i7] at hy; cases hq : look env s with
  | none => rw [hq] at hy; cases hy
  | some y' => exact hsm s y' hq
 have k2 := k hsm2; obtain ⟨rfl, rfl, hG⟩ := hF; refine b7 (fun _ c e => by rw [ho] at e; cases e) fun K hK => ?_
 rw [bH hs (aN hg) hsm, if_pos rfl]; have hxv := bV hs hG hx; obtain ⟨p, ao, hp, hv, hle, hao⟩ := hxv; obtain ⟨p', hp', hb⟩ := hs.heap l _ hk; rw [hp] at hp'; cases hp'; have hpos : 0 < rows.length := List.length_pos_iff.2 hne; have hc : 0 < p.cap := by omega
 obtain rfl := hao hc; obtain ⟨b1, b2, cur, T, b3, b4, b5⟩ := hb.cells hc; have hkm : (dB 1 rows).isMap = false := eV 1 rows; rw [hkm] at b3; have b3 := b3.cells; have hM := xw w p.b cur.size b3; obtain ⟨C', hsub, hrep, hsim⟩ := Sim.mark (k := dB 1 rows) rows hs hk rfl hp hc hM; have hr : ax μ C' (.d (.list 1 rows false)) (a.eval x) := by
  have := hrep _ _ (bV hs hG hx); rw [show (dB 1 rows).sz = 1 from rfl, wF] at this; exact this
 have hsh : w.shape? p.b = some (T, cur.size) := by unfold World.shape?; rw [b3]
 have hz : 0 * p.sz = 0 := by omega
 have hex : (execOp a.eval o).run F.P w = .ok (.value (a.eval x)) (w.freeze ⟨p.b, cur.size, none⟩ 1) := by
  rw [qZ ho, hv]; simp [convert, Sem.run_bind, run_underlying h1, run_underlying h2, markStringish, hsh, Result.andThen_ok]
 unfold Oper.wp; rw [hex, Oper.upon_value, hd]; exact hK _ _ (k2 μ C' _ _ (hsim.put hdN' hr))
end
end
section
theorem mz (x : Std) : (Std.row x).length = 36 := by simp [Std.row, cL x.k.h]
theorem sZ {t : TypeId} {n m off : Nat} {R S : List D} {h : List (Nat × Blk)} {l : Nat} (hl : look h l = some ⟨n, [R.map V.d]⟩) (ha : bg Tryd.prog t = some true) (hs : az Tryd.prog t = some m) (hR : R.length = n) (hle : off + m ≤ n) (hS : (R.drop off).take m = S) : aX Tryd.prog h t (.ref l 0 off) = some (.d (.agg m S)) := by
 have hsg : seg (R.map V.d) n off m = S.map V.d := by
  unfold seg; split
  ·rename_i e; obtain ⟨rfl, rfl⟩ := e; rw [← hS, List.drop_zero, ← hR, List.take_length]
  ·rw [← List.map_drop, ← List.map_take, hS]
 have hp : bu (S.map V.d) = some S := gr _; simp only [aX, hl, Option.bind_some, List.getElem?_cons_zero, cc, ha, hs, hsg, hp, hle]; rfl
theorem nJ {t : TypeId} {n off : Nat} {R : List D} {y : D} {h : List (Nat × Blk)} {l : Nat} (hl : look h l = some ⟨n, [R.map V.d]⟩) (ha : bg Tryd.prog t = some false) (hy : R[off]? = some y) : aX Tryd.prog h t (.ref l 0 off) = some (.d y) := by
 simp only [aX, hl, Option.bind_some, List.getElem?_cons_zero, cc, ha, List.getElem?_map, hy, Option.map_some]
theorem yV {h : List (Nat × Blk)} {l : Nat} {x : Std} (hl : look h l = some ⟨36, [(Std.row x).map V.d]⟩) : aX Tryd.prog h 45 (.ref l 0 0) = some (.d (.agg 36 (Std.row x))) := sZ hl Hu Iz (mz x) (by decide) (by rw [List.drop_zero, List.take_of_length_le (by rw [mz]; decide)])
theorem dS {h : List (Nat × Blk)} {l : Nat} {x : Std} (hl : look h l = some ⟨36, [(Std.row x).map V.d]⟩) : aX Tryd.prog h 27 (.ref l 0 0) = some (.d (.agg 3 (Sto.row x.s))) := sZ hl nY il (mz x) (by decide) (by simp [Std.row, Sto.row])
theorem ii {h : List (Nat × Blk)} {l : Nat} {x : Std} (hl : look h l = some ⟨36, [(Std.row x).map V.d]⟩) : aX Tryd.prog h 42 (.ref l 0 3) = some (.d (.agg 32 (ay x.k.l))) := sZ hl nZ ol (mz x) (by decide) (by simp [Std.row, cL x.k.h])
theorem uk {h : List (Nat × Blk)} {l : Nat} {x : Std} (hl : look h l = some ⟨36, [(Std.row x).map V.d]⟩) : aX Tryd.prog h 43 (.ref l 0 35) = some (.d (.v (.int .i64 x.e))) := nJ hl Ht (by
 have := cL x.k.h; have h2 : ∀ (y : D) (r : List D), r.length = 32 → (D.list 33 (x.s.objects.map Ob.row) false :: D.list 1 (x.s.safe.map av) false :: D.list 1 (x.s.queue.map av) false :: (r ++ [y]))[35]? = some y := fun y r hr => by
  simp only [List.getElem?_cons_succ]; rw [List.getElem?_append_right (by omega), hr]; rfl
 exact h2 _ _ this)
theorem B0 {h : List (Nat × Blk)} {l : Nat} {x : Std} (hl : look h l = some ⟨36, [(Std.row x).map V.d]⟩) : aX Tryd.prog h 24 (.ref l 0 0) = some (.d (.list 33 (x.s.objects.map Ob.row) false)) := nJ hl sI rfl
theorem ul {h : List (Nat × Blk)} {l : Nat} {x : Std} (hl : look h l = some ⟨36, [(Std.row x).map V.d]⟩) : aX Tryd.prog h 25 (.ref l 0 2) = some (.d (.list 1 (x.s.queue.map av) false)) := nJ hl pg rfl
theorem um {h : List (Nat × Blk)} {l : Nat} {x : Sto} (hl : look h l = some ⟨3, [(Sto.row x).map V.d]⟩) : aX Tryd.prog h 24 (.ref l 0 0) = some (.d (.list 33 (x.objects.map Ob.row) false)) := nJ hl sI rfl
theorem wO (s : Sto) (x : List UInt8) : (cW s x).1.safe = s.safe ∧ ∃ r, (cW s x).1.queue = s.queue ++ r := by
 by_cases c : 65536 < x.length
 ·rw [zd s c]; exact ⟨rfl, [], by simp⟩
 cases hf : aM s.objects (Sha.sum x) with
 | some i => rw [j7 s c hf]; exact ⟨rfl, [], by simp⟩
 | none =>
  by_cases c2 : 256 ≤ s.objects.length
  ·rw [wN s c hf c2]; exact ⟨rfl, [], by simp⟩
  ·rw [ja s c hf (by omega)]; exact ⟨rfl, _, rfl⟩
theorem H9 (s : Sto) {x : List UInt8} (hx : x.length ≤ 65536) (ho : s.objects.length < 256) : (cW s x).2.1 = cw x ∧ (cW s x).2.2 = 0 := by
 cases hf : aM s.objects (Sha.sum x) with
 | some i => rw [j7 s (by omega) hf]; exact ⟨rfl, rfl⟩
 | none => rw [ja s (by omega) hf (by omega)]; exact ⟨rfl, rfl⟩
theorem GS (P : Program) (t : TypeId) (x y : Operand) (l : List UInt8) : aD P (do eqGuard .eql t x y (.string ⟨l.toArray⟩) (.string ⟨l.toArray⟩); binOp .eql t (.string ⟨l.toArray⟩) (.string ⟨l.toArray⟩)) = some (.bool true) := by
 rw [AP]; simp
set_option maxHeartbeats 8000000 in
theorem Fy : aj Tryd.prog HG 10 [] (.v (.bool true)) := by
 have f0 : aM mc.objects (Sha.sum [97]) = none := rfl; obtain ⟨A, hAe⟩ : ∃ A : Std, A = ⟨(cW mc [97]).1, (cW mc [97]).2.1, (cW mc [97]).2.2⟩ := ⟨_, rfl⟩
 have hAq : A = ⟨⟨[⟨cw [97], [97]⟩], [], [ij 0 [97]]⟩, cw [97], 0⟩ := by rw [hAe, ja _ (by decide) f0 (by decide)]; rfl
 have hAs : A.s = ⟨[⟨cw [97], [97]⟩], [], [ij 0 [97]]⟩ := by rw [hAq]
 have hAk : A.k = cw [97] := by rw [hAq]
 have hA0 : A.e = 0 := by rw [hAq]
 have iA : SInv 1 A.s := by rw [hAe]; exact EV.put (by decide) (by decide)
 have hNew : aj Tryd.prog HG 11 [] (.agg 3 (Sto.row mc)) := xk.d rfl () mc rfl; have hA : aj Tryd.prog HG 20 [.agg 3 (Sto.row mc), .list 1 (([97] : List UInt8).map ai) false] (.agg 36 (Std.row A)) := dO.d rfl (mc, ([97] : List UInt8)) A (by rw [hAe]; exact kX EV (by decide) (x := [97]) (by decide)); have fA : aM A.s.objects (Sha.sum [97]) = some 0 := by rw [hAs]; simp [aM, cw]
 have hA2 : aj Tryd.prog HG 20 [.agg 3 (Sto.row A.s), .list 1 (([97] : List UInt8).map ai) false] (.agg 36 (Std.row A)) := dO.d rfl (A.s, ([97] : List UInt8)) A (by
  show dt A.s [97] = _; rw [kX iA (by decide) (by decide), j7 _ (by decide) fA]; exact congrArg some (by rw [hAq]))
 have hSy : aj Tryd.prog HG 27 [.agg 3 (Sto.row A.s)] (.agg 3 (Sto.row (gi A.s))) := vr.d rfl A.s _ (Ei iA (by decide)); have iS := iA.sync; obtain ⟨B, hBe⟩ : ∃ B : Std, B = ⟨(cW (gi A.s) [98]).1, (cW (gi A.s) [98]).2.1, (cW (gi A.s) [98]).2.2⟩ := ⟨_, rfl⟩
 have iB : SInv 2 B.s := by rw [hBe]; exact iS.put (by decide) (by decide)
 have hB : aj Tryd.prog HG 20 [.agg 3 (Sto.row (gi A.s)), .list 1 (([98] : List UInt8).map ai) false] (.agg 36 (Std.row B)) := dO.d rfl (gi A.s, ([98] : List UInt8)) B (by rw [hBe]; exact kX iS (by decide) (x := [98]) (by decide)); obtain ⟨Cc, hCe⟩ : ∃ C : Std, C = ⟨(cW A.s [98]).1, (cW A.s [98]).2.1, (cW A.s [98]).2.2⟩ := ⟨_, rfl⟩
 have iC : SInv 2 Cc.s := by rw [hCe]; exact iA.put (by decide) (by decide)
 have hC : aj Tryd.prog HG 20 [.agg 3 (Sto.row A.s), .list 1 (([98] : List UInt8).map ai) false] (.agg 36 (Std.row Cc)) := dO.d rfl (A.s, ([98] : List UInt8)) Cc (by rw [hCe]; exact kX iA (by decide) (x := [98]) (by decide)); have hRA : aj Tryd.prog HG 13 [.agg 3 (Sto.row A.s)] (.v (.bool true)) := fk.d rfl A.s true (kT iA (by decide)); have hRB : aj Tryd.prog HG 13 [.agg 3 (Sto.row B.s)] (.v (.bool true)) := fk.d rfl B.s true (kT iB (by decide)); have hRC : aj Tryd.prog HG 13 [.agg 3 (Sto.row Cc.s)] (.v (.bool true)) := fk.d rfl Cc.s true (kT iC (by decide)); obtain ⟨E, hEe⟩ : ∃ E : Std, E = ⟨evF A.s A.k, ⟨List.replicate 32 0, rfl⟩, if aM A.s.objects A.k.l = none then 331 else 0⟩ := ⟨_, rfl⟩
 have fA2 : aM A.s.objects A.k.l = some 0 := by rw [hAk]; exact fA
 have hEq : E = ⟨⟨[], [], [ij 0 [97], nc 1 A.k.l]⟩, ⟨List.replicate 32 0, rfl⟩, 0⟩ := by
  rw [hEe, fA2, if_neg (by simp)]; unfold evF; rw [fA2, hAs]; rfl
 have iE : SInv 2 E.s := by rw [hEe]; exact iA.evict _ (by decide)
 have hE : aj Tryd.prog HG 23 [.agg 3 (Sto.row A.s), .agg 32 (ay A.k.l)] (.agg 36 (Std.row E)) := jz.d rfl (A.s, A.k) E (by rw [hEe]; exact sl iA (by decide) _); have hSS : aj Tryd.prog HG 29 [.agg 36 (Std.row A), .agg 36 (Std.row A)] (.v (.bool true)) := lW.d rfl (A, A) true (uO (by rw [hAs]; decide) (by rw [hAs]; decide) (by rw [hAs]; decide)); obtain ⟨O1, hO1e⟩ : ∃ O, O = lF B.s [] := ⟨_, rfl⟩
 have hO1l : O1.objects.length = 1 := by
  have h1 : (B.s.safe ++ cR B.s.queue []) = [ij 0 [97]] := by
   have : B.s.safe = [ij 0 [97]] := by rw [hBe]; rw [(wO _ _).1, hAs]; rfl
   rw [this]; cases B.s.queue <;> rfl
  have h2 := iS.good.open; have h3 : dl (gi A.s) = [ij 0 [97]] := by rw [hAs]; rfl
  rw [h3] at h2; rw [hO1e, lF, h1, h2, hAs]; rfl
 have hO1 : aj Tryd.prog HG 25 [.agg 3 (Sto.row B.s), .list 0 [] true] (.agg 3 (Sto.row O1)) :=
  (nB.d rfl (B.s, []) O1 (by rw [hO1e]; exact uP _ (iB.small (by decide)).2.1 (iB.small (by decide)).2.2)).args fun C => fM (D.le.refl _) (fM (cd 0 1 true) fun _ h => h)
 obtain ⟨O2, hO2e⟩ : ∃ O, O = lF Cc.s [false, true] := ⟨_, rfl⟩
 have hO2l : O2.objects.length = 0 := by
  obtain ⟨c1, r, c2⟩ := wO A.s [98]; have h1 : Cc.s.safe = [] := by rw [hCe]; rw [c1, hAs]
  have h2 : Cc.s.queue = ij 0 [97] :: r := by rw [hCe]; rw [c2, hAs]; rfl
  have hg := iC.good; have hall : dl Cc.s = ij 0 [97] :: r := by simp [dl, h1, h2]
  unfold nr at hg; rw [hall] at hg; rw [hO2e, lF, h1, h2, List.nil_append]; cases r with
  | nil => rfl
  | cons y r =>
   obtain ⟨o1, o2, g1, g2⟩ := Gt (i := 1) (b := y) hg rfl; have : cR (ij 0 [97] :: y :: r) [false, true] = [y] := by simp [cR]
   rw [this, cV]; cases hy : bv [] ([] : List (List UInt8)).length y with
   | none => rfl
   | some o => exact absurd (Bo hy g2) (by decide)
 have hO2 : aj Tryd.prog HG 25 [.agg 3 (Sto.row Cc.s), .list 1 [[.v (.bool false)], [.v (.bool true)]] true] (.agg 3 (Sto.row O2)) :=
  (nB.d rfl (Cc.s, [false, true]) O2 (by rw [hO2e]; exact uP _ (iC.small (by decide)).2.1 (iC.small (by decide)).2.2)).args fun C => fM (D.le.refl _) (fM (qI 1 _ true) fun _ h => h)
 have hG1 : aj Tryd.prog HG 22 [.agg 3 (Sto.row E.s), .agg 32 (ay A.k.l)] (.agg 2 (Gott.row ⟨[], 331⟩)) := iK.d rfl (E.s, A.k) _ (yN iE (by decide) (by rw [hEq]; rfl)); have hG2 : aj Tryd.prog HG 22 [.agg 3 (Sto.row A.s), .agg 32 (ay A.k.l)] (.agg 2 (Gott.row ⟨[97], 0⟩)) := iK.d rfl (A.s, A.k) _ (pJ iA (by decide) fA2 (x := ⟨cw [97], [97]⟩) (by rw [hAs]; rfl)); have hSum : aj Tryd.prog HG 21 [.list 1 (([97] : List UInt8).map ai) false] (.agg 32 (ay A.k.l)) := by
  rw [hAk]; exact r5 [97] (by decide)
 have hS1 : aj Tryd.prog HG 14 [.agg 3 (Sto.row A.s)] (.v (.bool true)) := nE.d rfl A.s true (Cq iA (by decide)); have hS2 : aj Tryd.prog HG 14 [.agg 3 [.list 33 [ay (List.replicate 32 0) ++ [.list 0 [] true]] false, .list 0 [] true, .list 0 [] true]] (.v (.bool false)) := by
  have hz : fq ⟨[⟨⟨List.replicate 32 0, rfl⟩, []⟩], [], []⟩ = some false := by
   unfold fq; rw [hO _ (by decide) (by decide), ap]; simp only [List.flatten_cons, List.flatten_nil, List.append_nil]; rw [te (by simp), ap]; simp only [cV]; rw [xG rfl, cond_true]; exact fL ((tU [] _ (by decide) (by simp)).trans (by simp))
  refine (nE.d rfl (⟨[⟨⟨List.replicate 32 0, rfl⟩, []⟩], [], []⟩ : Sto) false hz).args fun C => fM ?_ fun _ h => h
  refine fN ⟨?_, cd 0 1 true, cd 0 1 true, trivial⟩; have hA : ∀ (r : List D), LeL (r ++ [.list 0 [] true]) (r ++ [.list 1 [] false]) := fun r => by
   induction r with
   | nil => exact .cons (cd 0 1 true) .nil
   | cons x r ih => exact .cons (D.le.refl x) ih
  exact wb (.cons (hA _) .nil)
 have hEo : E.s.objects.length = 0 := by rw [hEq]; rfl
 have hEl : E.s.queue.length = 2 := by rw [hEq]; rfl
 have hE0 : E.e = 0 := by rw [hEq]
 have hAl : A.s.queue.length = 1 := by rw [hAs]; rfl
 have hkl : A.k.l.length = 32 := A.k.h; clear hAe hAq hAs hAk hBe hCe hEe hEq hO1e hO2e iA iS iB iC iE fA fA2 f0; refine aj.of Tryd.func10 rfl Tryd.ntmps10 (by simp) ?_; intro F hF h0 hT; simp only [List.zipIdx_cons, List.zipIdx_nil, List.map_cons, List.map_nil, Nat.zero_add, Nat.reduceAdd]; refine Sm.seq ?_; refine ab hF rfl ?_; refine gv hF oA (SmG.nil (aa (Sm.seq ?_))); refine ab hF rfl ?_; refine SmG.call hF rfl rfl (by kernel_rfl) rfl rfl rfl (hNew) ?_; refine SmG.buildOwn hF rfl rfl rfl rfl rfl (sz := 1) (rows := ([97] : List UInt8).map ai) (by simp [bm, Tryd.underlying30, sz5, ze5]; rfl) (by simp) ?_; refine SmG.mark hF (rows := ([97] : List UInt8).map ai) rfl rfl rfl rfl rfl rfl (by simp) Tryd.underlying30 Tryd.underlying5 ?_; simp only [cM, bc, gK, db, cq, bK, if_true, Nat.reduceEqDiff, if_false, Nat.zero_add, List.length_map, Nat.le_refl, and_self]; refine SmG.call hF rfl rfl (by kernel_rfl) rfl rfl rfl (hA) ?_; refine SmG.new hF rfl rfl rfl (aF rfl ya) ?_; refine SmG.store hF rfl rfl rfl rfl rfl (by simp only [go_sem, ac] <;> rfl) ?_; refine SmG.nil (aa (Sm.seq ?_)); refine ab hF rfl ?_; refine gv hF (ag rfl rfl (by simp only [go_sem, ac] <;> rfl)) ?_; refine gv hF (ae rfl rfl (dS rfl)) ?_; refine SmG.buildOwn hF rfl rfl rfl rfl rfl (sz := 1) (rows := ([97] : List UInt8).map ai) (by simp [bm, Tryd.underlying30, sz5, ze5]; rfl) (by simp) ?_; refine SmG.mark hF (rows := ([97] : List UInt8).map ai) rfl rfl rfl rfl rfl rfl (by simp) Tryd.underlying30 Tryd.underlying5 ?_; simp only [cM, bc, gK, db, cq, bK, if_true, Nat.reduceEqDiff, if_false, Nat.zero_add, List.length_map, Nat.le_refl, and_self]; refine SmG.call hF rfl rfl (by kernel_rfl) rfl rfl rfl (hA2) ?_; refine SmG.new hF rfl rfl rfl (aF rfl ya) ?_; refine SmG.store hF rfl rfl rfl rfl rfl (by simp only [go_sem, ac] <;> rfl) ?_; refine SmG.nil (aa (Sm.seq ?_)); refine ab hF rfl ?_; refine gv hF (ag rfl rfl (by simp only [go_sem, ac] <;> rfl)) ?_; refine gv hF (ae rfl rfl (dS rfl)) ?_; refine SmG.call hF rfl rfl (by kernel_rfl) rfl rfl rfl (hSy) ?_
 refine SmG.buildOwn hF rfl rfl rfl rfl rfl (sz := 1) (rows := ([98] : List UInt8).map ai) (by simp [bm, Tryd.underlying30, sz5, ze5]; rfl) (by simp) ?_; refine SmG.mark hF (rows := ([98] : List UInt8).map ai) rfl rfl rfl rfl rfl rfl (by simp) Tryd.underlying30 Tryd.underlying5 ?_; simp only [cM, bc, gK, db, cq, bK, if_true, Nat.reduceEqDiff, if_false, Nat.zero_add, List.length_map, Nat.le_refl, and_self]; refine SmG.call hF rfl rfl (by kernel_rfl) rfl rfl rfl (hB) ?_; refine SmG.new hF rfl rfl rfl (aF rfl ya) ?_; refine SmG.store hF rfl rfl rfl rfl rfl (by simp only [go_sem, ac] <;> rfl) ?_; refine SmG.nil (aa (Sm.seq ?_)); refine ab hF rfl ?_; refine gv hF (ag rfl rfl (by simp only [go_sem, ac] <;> rfl)) ?_; refine gv hF (ae rfl rfl (dS rfl)) ?_; refine SmG.buildOwn hF rfl rfl rfl rfl rfl (sz := 1) (rows := ([98] : List UInt8).map ai) (by simp [bm, Tryd.underlying30, sz5, ze5]; rfl) (by simp) ?_; refine SmG.mark hF (rows := ([98] : List UInt8).map ai) rfl rfl rfl rfl rfl rfl (by simp) Tryd.underlying30 Tryd.underlying5 ?_; simp only [cM, bc, gK, db, cq, bK, if_true, Nat.reduceEqDiff, if_false, Nat.zero_add, List.length_map, Nat.le_refl, and_self]; refine SmG.call hF rfl rfl (by kernel_rfl) rfl rfl rfl (hC) ?_; refine SmG.new hF rfl rfl rfl (aF rfl ya) ?_; refine SmG.store hF rfl rfl rfl rfl rfl (by simp only [go_sem, ac] <;> rfl) ?_; refine SmG.nil (aa (Sm.seq (Sm.seq ?_))); refine ab hF rfl ?_; refine gv hF (ag rfl rfl (by simp only [go_sem, ac] <;> rfl)) ?_; refine gv hF (ae rfl rfl (uk rfl)) ?_; refine gv hF (ah rfl rfl rfl (by exact iJ _ _ _ _ _ (by omega))) ?_; refine gv hF oM ?_; refine gv hF (ag rfl rfl (by simp only [go_sem, ac] <;> rfl)) ?_; refine gv hF (ae rfl rfl (dS rfl)) ?_; refine SmG.call hF rfl rfl (by kernel_rfl) rfl rfl rfl (hRA) ?_; refine gv hF (eI rfl rfl (by exact fW _)) ?_; refine gv hF (aU rfl rfl rfl) ?_; refine gv hF oM ?_; refine gv hF (ag rfl rfl (by simp only [go_sem, ac] <;> rfl)) ?_; refine gv hF (ae rfl rfl (dS rfl)) ?_; refine SmG.call hF rfl rfl (by kernel_rfl) rfl rfl rfl (hRB) ?_
 refine gv hF (eI rfl rfl (by exact fW _)) ?_; refine gv hF (aU rfl rfl rfl) ?_; refine gv hF oM ?_; refine gv hF (ag rfl rfl (by simp only [go_sem, ac] <;> rfl)) ?_; refine gv hF (ae rfl rfl (dS rfl)) ?_; refine SmG.call hF rfl rfl (by kernel_rfl) rfl rfl rfl (hRC) ?_; refine gv hF (eI rfl rfl (by exact fW _)) ?_; refine gv hF (aU rfl rfl rfl) ?_; refine SmG.nil (aa ?_); refine aS hF rfl ?_; refine Sm.skip ?_; refine aa (Sm.seq ?_); refine ab hF rfl ?_; refine gv hF (ag rfl rfl (by simp only [go_sem, ac] <;> rfl)) ?_; refine gv hF (ae rfl rfl (dS rfl)) ?_; refine gv hF (ag rfl rfl (by simp only [go_sem, ac] <;> rfl)) ?_; refine gv hF (ae rfl rfl (ii rfl)) ?_; refine SmG.call hF rfl rfl (by kernel_rfl) rfl rfl rfl (hE) ?_; refine SmG.new hF rfl rfl rfl (aF rfl ya) ?_; refine SmG.store hF rfl rfl rfl rfl rfl (by simp only [go_sem, ac] <;> rfl) ?_; refine SmG.nil (aa (Sm.seq ?_)); refine ab hF rfl ?_; refine gv hF (ag rfl rfl (by simp only [go_sem, ac] <;> rfl)) ?_; refine gv hF (ag rfl rfl (by simp only [go_sem, ac] <;> rfl)) ?_; refine gv hF (ae rfl rfl (ul rfl)) ?_; refine gv hF (aJ rfl rfl (by simp only [go_sem, ac] <;> rfl)) ?_; refine gv hF (ah rfl rfl rfl (by exact dM _ _ _ _ _ (by omega))) ?_; refine gv hF oM (gv hF (ae rfl rfl (yV rfl)) (gv hF (ae rfl rfl (yV rfl)) ?_)); refine SmG.call hF rfl rfl (by kernel_rfl) rfl rfl rfl (hSS) ?_; refine gv hF (aO rfl rfl rfl) ?_; refine gv hF oM ?_; refine gv hF (ag rfl rfl (by simp only [go_sem, ac] <;> rfl)) ?_; refine gv hF (ae rfl rfl (uk rfl)) ?_; refine gv hF (ah rfl rfl rfl (by exact dM _ _ _ _ _ (by omega))) ?_; refine gv hF (aO rfl rfl rfl) ?_; refine gv hF oM ?_; refine gv hF (ag rfl rfl (by simp only [go_sem, ac] <;> rfl)) ?_; refine gv hF (ag rfl rfl (by simp only [go_sem, ac] <;> rfl)) ?_; refine gv hF (ae rfl rfl (B0 rfl)) ?_; refine gv hF (aJ rfl rfl (by simp only [go_sem, ac] <;> rfl)) ?_; refine gv hF (ah rfl rfl rfl (by exact dM _ _ _ _ _ (by omega))) ?_; refine gv hF (aO rfl rfl rfl) ?_; refine gv hF oM ?_
 refine gv hF (ag rfl rfl (by simp only [go_sem, ac] <;> rfl)) ?_; refine gv hF (ag rfl rfl (by simp only [go_sem, ac] <;> rfl)) ?_; refine gv hF (ae rfl rfl (ul rfl)) ?_; refine gv hF (aJ rfl rfl (by simp only [go_sem, ac] <;> rfl)) ?_; refine gv hF (ah rfl rfl rfl (by exact dM _ _ _ _ _ (by omega))) ?_; refine gv hF (aO rfl rfl rfl) ?_; refine gv hF oA (SmG.nil (aa (Sm.seq ?_))); refine eR hF (by kernel_rfl) rfl 9 (by kernel_rfl) (by kernel_rfl) ?_; simp only [List.take_succ_cons, List.take_zero, List.take_nil]; refine hv hF (ag rfl rfl (by simp only [go_sem, ac] <;> rfl)) ?_; refine hv hF (ae rfl rfl (dS rfl)) ?_; refine au.c hF rfl rfl (by kernel_rfl) rfl rfl rfl (hO1) ?_; refine hv hF (ag rfl rfl (by simp only [go_sem, ac] <;> rfl)) ?_; refine hv hF (ae rfl rfl (dS rfl)) ?_; refine hv hF (ba rfl rfl (by simp only [go_sem, ac] <;> rfl)) ?_; refine au.c hF rfl rfl (by kernel_rfl) rfl rfl rfl (hO2) ?_; refine au.new hF rfl rfl rfl rfl lP ?_; refine au.new hF rfl rfl rfl rfl lP ?_; refine au.last ⟨rfl, ?_⟩; simp only [List.drop_succ_cons, List.drop_zero, List.drop_nil, List.nil_append, List.cons_append]; refine SmG.store hF rfl rfl rfl rfl rfl (by simp only [go_sem, ac] <;> rfl) ?_; refine SmG.store hF rfl rfl rfl rfl rfl (by simp only [go_sem, ac] <;> rfl) ?_; refine SmG.nil (aa (Sm.seq ?_)); refine Sm.to (cP (st' := ⟨[(6, .d (.v (.bool true))), (1, .ref 1 0 0), (5, .ref 8 0 0), (7, .ref 9 0 0), (8, .ref 10 0 0)], [(1, ⟨36, [(Std.row A).map V.d]⟩), (8, ⟨36, [(Std.row E).map V.d]⟩), (9, ⟨3, [(Sto.row O1).map V.d]⟩), (10, ⟨3, [(Sto.row O2).map V.d]⟩)], 11⟩) (aK ⟨rfl, rfl, rfl, rfl, rfl, trivial⟩ ⟨rfl, rfl, rfl, rfl, trivial⟩ (Nat.le_refl _))) ?_; clear hA hA2 hSy hB hC hRA hRB hRC hE hSS hO1 hO2 hNew; refine dq hF rfl ?_; refine gS hF rfl 0 21 (by kernel_rfl) ?_; simp only [List.take_succ_cons, List.take_zero, List.take_nil, List.drop_succ_cons, List.drop_zero, Nat.reduceSub]; refine hv hF oM (hv hF oM ?_); refine hv hF (ag rfl rfl (by simp only [go_sem, ac] <;> rfl)) ?_
 refine hv hF (ae rfl rfl (dS rfl)) ?_; refine hv hF (ag rfl rfl (by simp only [go_sem, ac] <;> rfl)) ?_; refine hv hF (ae rfl rfl (ii rfl)) ?_; refine au.c hF rfl rfl (by kernel_rfl) rfl rfl rfl (hG1) ?_; refine hv hF (rj rfl rfl (by simp only [go_sem, ac] <;> rfl)) ?_; refine hv hF (ah rfl rfl rfl (by exact lO _ _ _ _ _ _ _)) ?_; refine hv hF (aO rfl rfl rfl) ?_; refine hv hF oM ?_; refine hv hF (ag rfl rfl (by simp only [go_sem, ac] <;> rfl)) ?_; refine hv hF (ae rfl rfl (dS rfl)) ?_; refine hv hF (ag rfl rfl (by simp only [go_sem, ac] <;> rfl)) ?_; refine hv hF (ae rfl rfl (ii rfl)) ?_; refine au.c hF rfl rfl (by kernel_rfl) rfl rfl rfl (hG2) ?_; refine hv hF (rj rfl rfl (by simp only [go_sem, ac] <;> rfl)) ?_; refine hv hF (cu rfl rfl (vm (l := [97]) Tryd.underlying30 Tryd.underlying9 Tryd.underlying5)) (hv hF (ah rfl rfl rfl (GS _ _ _ _ [97])) ?_); refine hv hF (aO rfl rfl rfl) ?_; refine hv hF oM ?_; refine au.last ?_; simp only [List.nil_append, List.cons_append]; refine om (n := 31) rfl rfl ?_; refine ci (n' := 26) (ls' := List.replicate 26 true ++ List.replicate 26 false) ?s1_5 ?h1_5 (fun r1_5 => ?k1_5)
 case' k1_5 => refine ci (n' := 27) (ls' := List.replicate 25 true ++ List.replicate 27 false) ?s1_4 ?h1_4 (fun r1_4 => ?k1_4)
 case' k1_4 => refine ci (n' := 27) (ls' := List.replicate 22 true ++ [false, true, true, true] ++ List.replicate 26 false) ?s1_3 ?h1_3 (fun r1_3 => ?k1_3)
 case' k1_3 => refine ci (n' := 28) (ls' := List.replicate 24 true ++ List.replicate 28 false) ?s1_2 ?h1_2 (fun r1_2 => ?k1_2)
 case' k1_2 => refine ci (n' := 28) (ls' := List.replicate 22 true ++ [false, true, true] ++ List.replicate 27 false) ?s1_1 ?h1_1 (fun r1_1 => ?k1_1)
 case' k1_1 => refine ci (n' := 29) (ls' := List.replicate 22 true ++ [false, true] ++ List.replicate 28 false) ?s1_0 ?h1_0 (fun r1_0 => ?k1_0)
 case k1_0 =>
  refine SmM.step hF [21, 23] rfl (by kernel_rfl) rfl ⟨⟨_, rfl, ?_⟩, ⟨_, rfl, ?_⟩, trivial⟩
  ·refine gv hF (ag rfl rfl (by simp only [go_sem, ac] <;> rfl)) ?_; refine SmG.nil (aa ?_); refine SmM.step hF [22, 23] rfl (by kernel_rfl) rfl ⟨⟨_, rfl, ?_⟩, ⟨_, rfl, ?_⟩, trivial⟩
   ·refine gv hF (ae rfl rfl (ii rfl)) (SmG.nil (aa ?_)); refine SmM.step hF [23] rfl (by kernel_rfl) rfl ⟨⟨_, rfl, ?_⟩, trivial⟩; refine SmG.buildOwn hF rfl rfl rfl rfl rfl (sz := 1) (rows := ([97] : List UInt8).map ai) (by simp [bm, Tryd.underlying30, sz5, ze5]; rfl) (by simp) ?_; refine SmG.nil (aa ?_); exact r1_2
   ·refine SmG.buildOwn hF rfl rfl rfl rfl rfl (sz := 1) (rows := ([97] : List UInt8).map ai) (by simp [bm, Tryd.underlying30, sz5, ze5]; rfl) (by simp) ?_; refine SmG.nil (aa ?_); exact r1_0
  ·refine SmG.buildOwn hF rfl rfl rfl rfl rfl (sz := 1) (rows := ([97] : List UInt8).map ai) (by simp [bm, Tryd.underlying30, sz5, ze5]; rfl) (by simp) ?_; refine SmG.nil (aa ?_); refine SmM.step hF [21, 24] rfl (by kernel_rfl) rfl ⟨⟨_, rfl, ?_⟩, ⟨_, rfl, ?_⟩, trivial⟩
   ·refine gv hF (ag rfl rfl (by simp only [go_sem, ac] <;> rfl)) ?_; refine SmG.nil (aa ?_); exact bz r1_0
   ·refine SmG.mark hF (rows := ([97] : List UInt8).map ai) rfl rfl rfl rfl rfl rfl (by simp) Tryd.underlying30 Tryd.underlying5 ?_; simp only [cM, bc, gK, db, cq, bK, if_true, Nat.reduceEqDiff, if_false, Nat.zero_add, List.length_map, Nat.le_refl, and_self]; refine SmG.nil (aa ?_); refine SmM.step hF [21, 25] rfl (by kernel_rfl) rfl ⟨⟨_, rfl, ?_⟩, ⟨_, rfl, ?_⟩, trivial⟩
    ·refine gv hF (ag rfl rfl (by simp only [go_sem, ac] <;> rfl)) ?_; refine SmG.nil (aa ?_); exact r1_1
    ·refine SmG.call hF rfl rfl (by kernel_rfl) rfl rfl rfl (hSum) ?_; refine SmG.nil (aa ?_); refine SmM.step hF [21] rfl (by kernel_rfl) rfl ⟨⟨_, rfl, ?_⟩, trivial⟩; refine gv hF (ag rfl rfl (by simp only [go_sem, ac] <;> rfl)) ?_; refine SmG.nil (aa ?_); exact r1_3
 case h1_0 =>
  refine SmM.step hF [22, 24] rfl (by kernel_rfl) rfl ⟨⟨_, rfl, ?_⟩, ⟨_, rfl, ?_⟩, trivial⟩
  ·refine gv hF (ae rfl rfl (ii rfl)) (SmG.nil (aa ?_)); exact bz r1_2
  ·refine SmG.mark hF (rows := ([97] : List UInt8).map ai) rfl rfl rfl rfl rfl rfl (by simp) Tryd.underlying30 Tryd.underlying5 ?_; simp only [cM, bc, gK, db, cq, bK, if_true, Nat.reduceEqDiff, if_false, Nat.zero_add, List.length_map, Nat.le_refl, and_self]; refine SmG.nil (aa ?_); exact bz r1_1
 case h1_1 =>
  refine SmM.step hF [22, 25] rfl (by kernel_rfl) rfl ⟨⟨_, rfl, ?_⟩, ⟨_, rfl, ?_⟩, trivial⟩
  ·refine gv hF (ae rfl rfl (ii rfl)) (SmG.nil (aa ?_)); exact r1_4
  ·refine SmG.call hF rfl rfl (by kernel_rfl) rfl rfl rfl (hSum) ?_; refine SmG.nil (aa ?_); exact bz r1_3
 case h1_2 =>
  refine SmM.step hF [24] rfl (by kernel_rfl) rfl ⟨⟨_, rfl, ?_⟩, trivial⟩; refine SmG.mark hF (rows := ([97] : List UInt8).map ai) rfl rfl rfl rfl rfl rfl (by simp) Tryd.underlying30 Tryd.underlying5 ?_; simp only [cM, bc, gK, db, cq, bK, if_true, Nat.reduceEqDiff, if_false, Nat.zero_add, List.length_map, Nat.le_refl, and_self]; refine SmG.nil (aa ?_); exact bz r1_4
 case h1_3 =>
  refine SmM.step hF [22] rfl (by kernel_rfl) rfl ⟨⟨_, rfl, ?_⟩, trivial⟩; refine gv hF (ae rfl rfl (ii rfl)) (SmG.nil (aa ?_)); exact r1_5
 case h1_4 =>
  refine SmM.step hF [25] rfl (by kernel_rfl) rfl ⟨⟨_, rfl, ?_⟩, trivial⟩; refine SmG.call hF rfl rfl (by kernel_rfl) rfl rfl rfl (hSum) ?_; refine SmG.nil (aa ?_); exact bz r1_5
 case h1_5 =>
  refine SmM.step hF [26] rfl (by kernel_rfl) rfl ⟨⟨_, rfl, ?_⟩, trivial⟩; refine gv hF (jv rfl rfl rfl ((qW hkl hkl).trans (by rw [decide_eq_true rfl]))) ?_; refine SmG.nil (aa ?_); refine SmM.step hF [27] rfl (by kernel_rfl) rfl ⟨⟨_, rfl, ?_⟩, trivial⟩; refine gv hF (aO rfl rfl rfl) ?_; refine SmG.nil (aa ?_); refine SmM.step hF [28] rfl (by kernel_rfl) rfl ⟨⟨_, rfl, ?_⟩, trivial⟩; refine gv hF oM (SmG.nil (aa ?_)); refine SmM.step hF [29] rfl (by kernel_rfl) rfl ⟨⟨_, rfl, ?_⟩, trivial⟩; refine gv hF (ag rfl rfl (by simp only [go_sem, ac] <;> rfl)) ?_; refine SmG.nil (aa ?_); refine SmM.step hF [30] rfl (by kernel_rfl) rfl ⟨⟨_, rfl, ?_⟩, trivial⟩; refine gv hF (ae rfl rfl (um rfl)) (SmG.nil (aa ?_)); refine SmM.step hF [31] rfl (by kernel_rfl) rfl ⟨⟨_, rfl, ?_⟩, trivial⟩; refine gv hF (aJ rfl rfl (by simp only [go_sem, ac] <;> rfl)) ?_; refine SmG.nil (aa ?_); refine SmM.step hF [32] rfl (by kernel_rfl) rfl ⟨⟨_, rfl, ?_⟩, trivial⟩; refine gv hF (ah rfl rfl rfl (by exact dM _ _ _ _ _ (by omega))) ?_; refine SmG.nil (aa ?_); refine SmM.step hF [33] rfl (by kernel_rfl) rfl ⟨⟨_, rfl, ?_⟩, trivial⟩; refine gv hF (aO rfl rfl rfl) ?_; refine SmG.nil (aa ?_); refine SmM.step hF [34] rfl (by kernel_rfl) rfl ⟨⟨_, rfl, ?_⟩, trivial⟩; refine gv hF oM (SmG.nil (aa ?_)); refine SmM.step hF [35] rfl (by kernel_rfl) rfl ⟨⟨_, rfl, ?_⟩, trivial⟩; refine gv hF (ag rfl rfl (by simp only [go_sem, ac] <;> rfl)) ?_; refine SmG.nil (aa ?_); refine SmM.step hF [36] rfl (by kernel_rfl) rfl ⟨⟨_, rfl, ?_⟩, trivial⟩; refine gv hF (ae rfl rfl (um rfl)) (SmG.nil (aa ?_)); refine SmM.step hF [37] rfl (by kernel_rfl) rfl ⟨⟨_, rfl, ?_⟩, trivial⟩; refine gv hF (aJ rfl rfl (by simp only [go_sem, ac] <;> rfl)) ?_; refine SmG.nil (aa ?_); refine SmM.step hF [38] rfl (by kernel_rfl) rfl ⟨⟨_, rfl, ?_⟩, trivial⟩; refine gv hF (ah rfl rfl rfl (by exact dM _ _ _ _ _ (by omega))) ?_; refine SmG.nil (aa ?_); refine SmM.step hF [39] rfl (by kernel_rfl) rfl ⟨⟨_, rfl, ?_⟩, trivial⟩; refine gv hF (aO rfl rfl rfl) ?_
  refine SmG.nil (aa ?_); refine SmM.step hF [40] rfl (by kernel_rfl) rfl ⟨⟨_, rfl, ?_⟩, trivial⟩; refine gv hF oM (SmG.nil (aa ?_)); refine SmM.step hF [41] rfl (by kernel_rfl) rfl ⟨⟨_, rfl, ?_⟩, trivial⟩; refine gv hF (ag rfl rfl (by simp only [go_sem, ac] <;> rfl)) ?_; refine SmG.nil (aa ?_); refine SmM.step hF [42] rfl (by kernel_rfl) rfl ⟨⟨_, rfl, ?_⟩, trivial⟩; refine gv hF (ae rfl rfl (dS rfl)) (SmG.nil (aa ?_)); refine SmM.step hF [43] rfl (by kernel_rfl) rfl ⟨⟨_, rfl, ?_⟩, trivial⟩; refine SmG.call hF rfl rfl (by kernel_rfl) rfl rfl rfl hS1 ?_; refine SmG.nil (aa ?_); refine SmM.step hF [44] rfl (by kernel_rfl) rfl ⟨⟨_, rfl, ?_⟩, trivial⟩; refine gv hF (aO rfl rfl rfl) ?_; refine SmG.nil (aa ?_); refine SmM.step hF [45] rfl (by kernel_rfl) rfl ⟨⟨_, rfl, ?_⟩, trivial⟩; refine gv hF oM (SmG.nil (aa ?_)); refine SmM.step hF [46] rfl (by kernel_rfl) rfl ⟨⟨_, rfl, ?_⟩, trivial⟩; refine SmG.makeOwn hF qT rfl 1 rfl rfl rfl rfl rfl rfl (by decide) (by decide) ?_; refine SmG.freeze (l := 12) [ay (List.replicate 32 0) ++ [.list 0 [] true]] rfl ?_; simp only [cM, bc, gK, db, cq, bK, if_true, Nat.reduceEqDiff, if_false, Nat.zero_add, List.length_map, Nat.le_refl, and_self]; refine SmG.nil (aa ?_); refine SmM.step hF [47] rfl (by kernel_rfl) rfl ⟨⟨_, rfl, ?_⟩, trivial⟩; refine gv hF (cU rfl Tryd.underlying27 (by kernel_rfl) rfl (jU (n := 3) IK JT rfl (by repeat' first | apply wA rfl rfl (by first | rfl | simp [ay, ac]) | apply wz rfl rfl rfl (by first | assumption | simp [ay, ac]) | (apply F0; simp only [List.set_cons_succ, List.set_cons_zero, List.take_succ_cons, List.take_zero, List.drop_succ_cons, List.drop_zero, List.drop_nil, List.cons_append, List.nil_append, List.append_nil, ac] <;> rfl)))) ?_; refine SmG.nil (aa ?_); refine SmM.step hF [48] rfl (by kernel_rfl) rfl ⟨⟨_, rfl, ?_⟩, trivial⟩; refine SmG.call hF rfl rfl (by kernel_rfl) rfl rfl rfl hS2 ?_; refine SmG.nil (aa ?_); refine SmM.step hF [49] rfl (by kernel_rfl) rfl ⟨⟨_, rfl, ?_⟩, trivial⟩; refine gv hF (eI rfl rfl (by exact rW _)) ?_
  refine SmG.nil (aa ?_); refine SmM.step hF [50] rfl (by kernel_rfl) rfl ⟨⟨_, rfl, ?_⟩, trivial⟩; refine gv hF (aO rfl rfl rfl) ?_; refine SmG.nil (aa ?_); refine SmM.step hF [51] rfl (by kernel_rfl) rfl ⟨⟨_, rfl, ?_⟩, trivial⟩; refine gv hF oA (SmG.nil (aa ?_)); refine SmM.nil (by kernel_rfl) ?_; refine aa (Sm.ret ?_)
  skip
  exact ⟨_, rfl, D.le.refl _⟩
noncomputable def hU : Option Bool := some true
noncomputable def jG : Con Tryd.prog HG nmS := ⟨10, [], [], .bool, fun _ => hU, false⟩
theorem n8 : jG.Ok := ⟨fun _ a r h => by cases h; exact Fy, fun h => by cases h⟩
end
section
noncomputable def ip (x2 : Sto) (x4 : Std) (x14 : Std) (s20 : Int) : Option (Int ⊕ (Unit ⊕ Bool)) :=
 bif (decide (s20 < (x2.objects.length : Int))) then (
  ob (idx x2.objects s20) fun x25 =>
  ob (cj x4.s x25.sum) fun x26 =>
  ob (dg x26 (⟨x25.data, 0⟩ : Gott)) fun x27 =>
  bif (!x27) then (
   some (.inr (.inr false))
  ) else (
   bif (!(x25.sum.l == x4.k.l)) then (
    ob (cj x14.s x25.sum) fun x30 =>
    ob (dg x30 (⟨x25.data, 0⟩ : Gott)) fun x31 =>
    bif (!x31) then (
     some (.inr (.inr false))
    ) else (
     ob (arI .i64 (s20 + 1)) fun x33 =>
     some (.inl x33)
    )
   ) else (
    ob (arI .i64 (s20 + 1)) fun x34 =>
    some (.inl x34)
   )
  )
 ) else (
  some (.inr (.inl ()))
 )
noncomputable def dz (a0 : List SRaw) (a1 : List UInt8) : Option Bool :=
 ob (hU ) fun x1 =>
 ob (e9 a0 10) fun x2 =>
 bif (decide (200 < (a1.length : Int))) then (
  some x1
 ) else (
  ob (dt x2 a1) fun x4 =>
  bif (x4.e != 0) then (
   some false
  ) else (
   ob (jp a1) fun x6 =>
   bif (!(x4.k.l == x6.l)) then (
    some false
   ) else (
    ob (dL x4.s) fun x8 =>
    bif (!x8) then (
     some false
    ) else (
     ob (cj x4.s x4.k) fun x10 =>
     bif (x10.e != 0) then (
      some false
     ) else (
      ob (jp x10.b) fun x12 =>
      bif (!(x12.l == x4.k.l)) then (
       some false
      ) else (
       ob (dZ x4.s x4.k) fun x14 =>
       bif (x14.e != 0) then (
        some false
       ) else (
        ob (dL x14.s) fun x16 =>
        bif (!x16) then (
         some false
        ) else (
         ob (cj x14.s x4.k) fun x18 =>
         bif (x18.e != 331) then (
          some false
         ) else (
          ob ((
           cH (ip x2 x4 x14) 0
           : Option (Unit ⊕ Bool))) fun o36 => match o36 with
          | .inl v35 => (
           some x1
           )
          | .inr e37 => some e37
         )
        )
       )
      )
     )
    )
   )
  )
 )
theorem mj (a : (List SRaw) × (List UInt8)) : fd (cfA [jG, kG, jH, q0, ko, k5, jy, jA] Tryd.f4.ntmps []) [] Tryd.f4 [] [(.lst (.nm 2)), (.lst .u8)] .bool (.nj (.br .e (.nj (.seg 8 (.br .e (.br .e (.br .e (.nj (.seg 9 (.br .e (.br .e (.nj (.br .e (.br .e (.br .e (.jn ⟨[5], [], [], [], [], [], 4⟩ true (.lp [] ⟨[5, 6, 7, 9], [], [0, 1, 3], [(10, (.int .i64))], [], [], 4⟩ (.nj (.br (.nj (.seg 25 (.br .e (.br (.br .e .e) .e)))) .e))) .e)))))))))))))))) a = dz a.1 a.2 := by kernel_rfl
noncomputable def mi : Con Tryd.prog HG nmS := ⟨4, [], [(.lst (.nm 2)), (.lst .u8)], .bool, fun a => dz a.1 a.2, false⟩
theorem ml : mi.Ok := fV (.cons n8 (.cons pz (.cons dO (.cons yy (.cons fk (.cons iK (.cons jz (.cons nk .nil)))))))) mj Tryd.func4 rfl
theorem ET (l : List SRaw) (b : List UInt8) : dz l b = some true := by
 unfold dz; rw [show hU = some true from rfl, ap, show (10 : Int) = ((10 : Nat) : Int) from rfl, Ff l 10 (by omega), ap]; have hs := yO l 10 (by omega); generalize fU l 10 = s at hs; obtain ⟨s1, s2, s3⟩ := hs.small (by omega); by_cases hb : 200 < b.length
 ·rw [f5 (by omega), cond_true]
 rw [f3 (by omega), cond_false, kX hs (by omega) (by omega), ap]; have so := hs.obs; obtain ⟨k1, k2⟩ := H9 s (x := b) (by omega) (by omega); have hp := hs.put (x := b) (by omega) (by omega); have hpo := hp.obs; have hfind : ∃ i y, aM (cW s b).1.objects (Sha.sum b) = some i ∧ (cW s b).1.objects[i]? = some y ∧ Sha.sum y.data = Sha.sum b := by
  cases hf : aM s.objects (Sha.sum b) with
  | some i =>
   obtain ⟨y, hy, he⟩ := jq hf; rw [j7 s (by omega) hf]; exact ⟨i, y, hf, hy, by rw [← he, so.1.sum y (List.mem_of_getElem? hy)]⟩
  | none =>
   rw [ja s (by omega) hf (by omega)]; refine ⟨s.objects.length, ⟨cw b, b⟩, ?_, by simp, rfl⟩; have := iZ (o := s.objects ++ [⟨cw b, b⟩]) (by have := hpo.1.dis; rw [ja s (by omega) hf (by omega)] at this; exact this) (i := s.objects.length) (x := ⟨cw b, b⟩) (by simp); exact this
 have hold : ∀ i y, s.objects[i]? = some y → (cW s b).1.objects[i]? = some y := fun i y hy => by
  cases hf : aM s.objects (Sha.sum b) with
  | some j => rw [j7 s (by omega) hf]; exact hy
  | none =>
   rw [ja s (by omega) hf (by omega)]; rw [List.getElem?_append_left (List.getElem?_eq_some_iff.1 hy).1]; exact hy
 obtain ⟨j, y, hj, hy, hys⟩ := hfind; generalize hP : cW s b = p at k1 k2 hp hpo hj hy hold; obtain ⟨p, kk, e⟩ := p; simp only at k1 k2 hp hpo hj hy hold; subst k1 k2; have hyl : y.data.length ≤ 2000 := hpo.1.len y (List.mem_of_getElem? hy); have hkj : aM p.objects (cw b).l = some j := hj; rw [show ((0 : Int) != 0) = false from rfl, cond_false, AV (by omega), ap, beq_self_eq_true, Bool.not_true, cond_false, kT hp (by omega), ap, Bool.not_true, cond_false, pJ hp (by omega) hkj hy, ap]; simp only; rw [show ((0 : Int) != 0) = false from rfl, cond_false, AV (by omega), ap]; rw [show ((cw y.data).l == (cw b).l) = true by simp [cw, hys], Bool.not_true, cond_false, sl hp (by omega), ap, hkj, if_neg (by simp)]; have hx := hp.evict (cw b) (by omega); have hxe : (evF p (cw b)).objects = p.objects.eraseIdx j := by unfold evF; rw [hkj]
 have hxd := hx.obs.1.dis; have hgone : aM (evF p (cw b)).objects (cw b).l = none := by
  cases hf : aM (evF p (cw b)).objects (cw b).l with
  | none => rfl
  | some i =>
   exfalso; obtain ⟨z, hz, hze⟩ := jq hf; rw [hxe, List.getElem?_eraseIdx] at hz; obtain ⟨y', hy', hye'⟩ := jq hkj; split at hz
   ·rename_i hlt; have := iZ hpo.1.dis hz; rw [hze, hkj] at this; cases this; omega
   ·have := iZ hpo.1.dis hz; rw [hze, hkj] at this; cases this; omega
 simp only; rw [show ((0 : Int) != 0) = false from rfl, cond_false, kT hx (by omega), ap, Bool.not_true, cond_false, yN hx (by omega) hgone, ap]; simp only; rw [show ((331 : Int) != 331) = false from rfl, cond_false]; refine Ok.get (Ok.bind (P := fun o => o = .inl ()) ?_ ?_)
 ·refine Ok.loop (fun n : Int => ∃ i : Nat, n = (i : Int) ∧ i ≤ s.objects.length) (fun n => s.objects.length - n.toNat) ⟨0, rfl, by omega⟩ ?_; rintro _ ⟨i, rfl, hi⟩; unfold ip; simp only; refine Ok.cond (fun c => ?_) fun c => Ok.ret rfl
  simp only [decide_eq_true_eq] at c; have ho : s.objects[i]? = some (s.objects[i]'(by omega)) := List.getElem?_eq_getElem _; generalize s.objects[i]'(by omega) = z at ho; have hpz := hold i z ho; have hfz := iZ hpo.1.dis hpz; rw [eg, ho, ap, pJ hp (by omega) hfz hpz, ap, rA, ap, Bool.not_true, cond_false]; refine Ok.cond (fun c2 => ?_) fun c2 => ?_
  ·have hne : z.sum.l ≠ (cw b).l := by simpa using c2
   have hxz : ∃ i' : Nat, (evF p (cw b)).objects[i']? = some z := by
    rw [hxe]; have hij : i ≠ j := fun e => by
     subst e; obtain ⟨y', hy', hye'⟩ := jq hkj; rw [hpz] at hy'; cases hy'; exact hne hye'
    rcases Nat.lt_or_gt_of_ne hij with h | h
    ·exact ⟨i, by rw [List.getElem?_eraseIdx, if_pos h]; exact hpz⟩
    ·exact ⟨i - 1, by rw [List.getElem?_eraseIdx, if_neg (by omega), show i - 1 + 1 = i by omega]; exact hpz⟩
   obtain ⟨i', hxz⟩ := hxz; rw [pJ hx (by omega) (iZ hxd hxz) hxz, ap, rA, ap, Bool.not_true, cond_false, bP (by omega), ap]; exact Ok.ret ⟨⟨i + 1, by omega, by omega⟩, by omega⟩
  ·rw [bP (by omega), ap]; exact Ok.ret ⟨⟨i + 1, by omega, by omega⟩, by omega⟩
 ·rintro o rfl; exact Ok.ret rfl
theorem mh {a0 : List SRaw} {a1 : List UInt8} {r : Bool} (h : dz a0 a1 = some r) : aj Tryd.prog HG 4 [.list 3 (a0.map SRaw.row) false, .list 1 (a1.map ai) false] (.v (.bool r)) := ml.d rfl (a0, a1) r h
end
end Go.Proofs.YtaclinnjekdgoaaDoor
