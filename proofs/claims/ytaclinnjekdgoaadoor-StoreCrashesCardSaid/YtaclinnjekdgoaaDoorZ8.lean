/-
  Lemmas, part 8 of 8: walks through the program's functions, and plain Lean about what they compute.
-/
import Derived.Test.YtaclinnjekdgoaaDoorZ1
import Derived.Test.YtaclinnjekdgoaaDoorZ2
import Derived.Test.YtaclinnjekdgoaaDoorZ3
import Derived.Test.YtaclinnjekdgoaaDoorZ4
import Derived.Test.YtaclinnjekdgoaaDoorZ5
import Derived.Test.YtaclinnjekdgoaaDoorZ6
import Derived.Test.YtaclinnjekdgoaaDoorZ7
set_option linter.unnecessarySimpa false
set_option linter.unusedSimpArgs false
set_option linter.unusedVariables false
set_option maxRecDepth 100000
namespace Go.Proofs.YtaclinnjekdgoaaDoor
open Go.RowKit
section
noncomputable def gc (a0 : List UInt8) : Option Int :=
 ob (idx a0 0) fun x1 =>
 ob (rB .i64 (x1.toNat : Int) 24) fun x2 =>
 ob (idx a0 1) fun x3 =>
 ob (rB .i64 (x3.toNat : Int) 16) fun x4 =>
 ob (arI .i64 (x2 + x4)) fun x5 =>
 ob (idx a0 2) fun x6 =>
 ob (rB .i64 (x6.toNat : Int) 8) fun x7 =>
 ob (arI .i64 (x5 + x7)) fun x8 =>
 ob (idx a0 3) fun x9 =>
 ob (arI .i64 (x8 + (x9.toNat : Int))) fun x10 =>
 some x10
set_option maxHeartbeats 4000000 in
theorem pA {a0 : List UInt8} {r : Int} (h : gc a0 = some r) : aj Tryd.prog HG 48 [.list 1 (a0.map ai) false] (.i r) := by
 unfold gc at h; refine aj.of Tryd.func48 rfl Tryd.ntmps48 (by simp) ?_; intro F hF h0 hT; show Sm F _ _ ⟨[(0, .d (.list 1 (a0.map ai) false))], [], 0⟩; refine sr hF (gv hF oA (sn (Sm.seq ?_))); refine dG hF 21 ?_; refine hv hF oM ?_; obtain ⟨x1, hx1, h⟩ := ap h; refine hv hF (oI (eB u30 sz5 hx1)) (hv hF (oL (lP1 ag5 rfl)) (hv hF (oC (e9 u5 u3 (jP _))) ?_)); obtain ⟨x2, hx2, h⟩ := ap h; refine hv hF (oB (uy hx2)) (hv hF oM ?_); obtain ⟨x3, hx3, h⟩ := ap h; refine hv hF (oI (eB u30 sz5 hx3)) (hv hF (oL (lP1 ag5 rfl)) (hv hF (oC (e9 u5 u3 (jP _))) ?_)); obtain ⟨x4, hx4, h⟩ := ap h; refine hv hF (oB (uy hx4)) ?_; obtain ⟨x5, hx5, h⟩ := ap h; refine hv hF (oB (dN hx5)) (hv hF oM ?_); obtain ⟨x6, hx6, h⟩ := ap h; refine hv hF (oI (eB u30 sz5 hx6)) (hv hF (oL (lP1 ag5 rfl)) (hv hF (oC (e9 u5 u3 (jP _))) ?_)); obtain ⟨x7, hx7, h⟩ := ap h; refine hv hF (oB (uy hx7)) ?_; obtain ⟨x8, hx8, h⟩ := ap h; refine hv hF (oB (dN hx8)) (hv hF oM ?_); obtain ⟨x9, hx9, h⟩ := ap h; refine hv hF (oI (eB u30 sz5 hx9)) (hv hF (oL (lP1 ag5 rfl)) (hv hF (oC (e9 u5 u3 (jP _))) ?_)); refine hE ?_; obtain ⟨x10, hx10, h⟩ := ap h; refine gv hF (oB (dN hx10)) (gv hF oA (sn (Sm.ret ?_))); obtain rfl := aV h; exact kM rfl rfl
theorem tf {n : Nat} {k : Nat} (hn : n < 256) (hk : k ≤ 24) : rB .i64 (n : Int) (k : Int) = some ((n * 2 ^ k : Nat) : Int) := by
 unfold rB; have hm : min ((k : Int).toNat) IntKind.i64.bits = k := by show min _ 64 = _; omega
 rw [if_neg (by omega), hm]; have h1 : (2 : Nat) ^ k ≤ 2 ^ 24 := Nat.pow_le_pow_right (by omega) hk; have h2 : n * 2 ^ k < 256 * 2 ^ 24 := Nat.lt_of_lt_of_le (Nat.mul_lt_mul_of_pos_right hn (Nat.pow_pos (by omega))) (Nat.mul_le_mul_left _ h1); have e : ((n : Int) * 2 ^ k) = ((n * 2 ^ k : Nat) : Int) := by norm_cast
 rw [e, aX _ (by omega)]
theorem Fg (b0 b1 b2 b3 : UInt8) : gc [b0, b1, b2, b3] = some ((be [b0, b1, b2, b3] : Nat) : Int) := by
 have h0 := b0.toNat_lt; have h1 := b1.toNat_lt; have h2 := b2.toNat_lt; have h3 := b3.toNat_lt; unfold gc; rw [show idx [b0, b1, b2, b3] 0 = some b0 from rfl, aq, show (24 : Int) = ((24 : Nat) : Int) from rfl, tf h0 (by omega), aq, show idx [b0, b1, b2, b3] 1 = some b1 from rfl, aq, show (16 : Int) = ((16 : Nat) : Int) from rfl, tf h1 (by omega), aq, bP (by omega), aq,
  show idx [b0, b1, b2, b3] 2 = some b2 from rfl, aq, show (8 : Int) = ((8 : Nat) : Int) from rfl, tf h2 (by omega), aq, bP (by omega), aq, show idx [b0, b1, b2, b3] 3 = some b3 from rfl, aq, bP (by omega), aq]
 simp only [be, List.foldl_cons, List.foldl_nil]
 congr 1
 omega
theorem DZ (l : List UInt8) (hl : l.length = 4) : aj Tryd.prog HG 48 [.list 1 (l.map ai) false] (.v (.int .i64 (be l))) := by
 rcases l with _ | ⟨b0, _ | ⟨b1, _ | ⟨b2, _ | ⟨b3, _ | ⟨b4, l⟩⟩⟩⟩⟩ <;> simp at hl
 exact pA (Fg b0 b1 b2 b3)
def r5 (l : List UInt8) : Vec 32 := if h : l.length = 32 then ⟨l, h⟩ else ⟨List.replicate 32 0, rfl⟩
def vM : Rcd := ⟨false, 0, 0, [], ⟨List.replicate 32 0, rfl⟩⟩
def mm (B : List UInt8) : Rcd :=
 if (B.getD 0 0).toNat = 80 ∧ be ((B.drop 5).take 4) + 9 = B.length ∧ B.length ≤ 65545 then ⟨true, B.getD 0 0, (be ((B.drop 1).take 4) : Nat), B.drop 9, eX (B.drop 9)⟩
 else if (B.getD 0 0).toNat = 68 ∧ B.length = 37 then ⟨true, B.getD 0 0, (be ((B.drop 1).take 4) : Nat), [], r5 (B.drop 5)⟩
 else vM
def uD (b : List UInt8) : Rcd :=
 if b.length < 41 then vM else
 if Sha.sum (b.take (b.length - 32)) ≠ b.drop (b.length - 32) then vM else
 mm (b.take (b.length - 32))
theorem fd {n l : Nat} {t : TypeId} {R : List D} {h : List (Nat × Blk)} {zr zp : List V} (hs : az Tryd.prog t = some n) (hl : look h l = some ⟨n, [zr]⟩) (hp : ac zr = some zp) : db Tryd.prog h t (.ref l 0 0) (.d (.agg n R)) = some (.upd l ⟨n, [R.map V.d]⟩) := by
 simp only [db, hl, Option.bind_some, List.getElem?_cons_zero, hp, ga, hs]; simp
theorem gG {n l : Nat} {t : TypeId} {R : List D} {h : List (Nat × Blk)} (hs : az Tryd.prog t = some n) (ha : bh Tryd.prog t = some true) (hl : look h l = some ⟨n, [R.map V.d]⟩) : aW Tryd.prog h t (.ref l 0 0) = some (.d (.agg n R)) := by
 have hs' : seg (R.map V.d) n 0 n = R.map V.d := by
  unfold seg; rw [if_pos ⟨rfl, rfl⟩]
 have hp : bv (R.map V.d) = some R := gy _; simp only [aW, hl, Option.bind_some, List.getElem?_cons_zero, cg, ha, hs, hs', hp]; simp
theorem mB (r : D) (h : r = .agg 36 ([.v (.bool false), .v (.int .u8 0), .v (.int .i64 0), .list 0 [] true] ++ ay (List.replicate 32 0))) : r.le (.agg 36 (Rcd.row vM)) := by
 rw [h]; refine fP ?_; exact ⟨D.le.refl _, D.le.refl _, D.le.refl _, ci 0 1 true, leL.refl _⟩
def oa (k : UInt8) (n : Int) (L : List UInt8) (i : Nat) : List D := [.v (.bool true), .v (.int .u8 (k.toNat : Int)), .v (.int .i64 n), .list 0 [] true] ++ ay (L.take i ++ List.replicate (32 - i) 0)
theorem Fk (k : UInt8) (n : Int) {L : List UInt8} {i : Nat} {y : UInt8} (hL : L.length = 32) (hy : L[i]? = some y) : (oa k n L i).set (4 + i) (aG y) = oa k n L (i + 1) := by
 have hi : i < 32 := by have := (List.getElem?_eq_some_iff.1 hy).1; omega
 unfold oa; rw [List.set_append_right _ _ (by simp)]
 congr 1
 simp only [List.length_cons, List.length_nil, Nat.zero_add, Nat.reduceAdd, Nat.add_sub_cancel_left]; unfold ay; rw [← List.map_set]
 congr 1
 rw [List.take_add_one, hy, List.set_append_right _ _ (by rw [List.length_take]; omega), show 32 - i = (32 - (i + 1)) + 1 by omega, List.replicate_succ]; have hmin : i - (List.take i L).length = 0 := by simp only [List.length_take]; omega
 rw [hmin, List.set_cons_zero]; simp
theorem FF {k : UInt8} {n : Int} {L : List UInt8} {i l : Nat} {y : UInt8} {h : List (Nat × Blk)} (hL : L.length = 32) (hy : L[i]? = some y) (hl : look h l = some ⟨36, [(oa k n L i).map V.d]⟩) : db Tryd.prog h 5 (.ref l 0 (4 + i)) (.d (aG y)) = some (.upd l ⟨36, [(oa k n L (i + 1)).map V.d]⟩) := by
 have hi : i < 32 := by have := (List.getElem?_eq_some_iff.1 hy).1; omega
 have h1 : ((oa k n L i).map V.d).set (4 + i) (V.d (aG y)) = (oa k n L (i + 1)).map V.d := by
  rw [← List.map_set, Fk k n hL hy]
 have hc : ga (.d (aG y)) = some (1, [.d (aG y)]) := rfl; simp only [db, hl, Option.bind_some, List.getElem?_cons_zero, cg, hc, sz5]; rw [if_pos ⟨trivial, by omega⟩, if_neg (by omega), if_pos trivial, h1]; rfl
set_option maxHeartbeats 4000000 in
theorem DY (b : List UInt8) (hb : b.length ≤ 1000000) : aj Tryd.prog HG 28 [.list 1 (b.map ai) false] (.agg 36 (Rcd.row (uD b))) := by
 unfold uD; by_cases c1 : b.length < 41
 ·rw [if_pos c1]; refine aj.of Tryd.func28 rfl Tryd.ntmps28 (by simp) ?_; intro F hF h0 hT; simp only [List.zipIdx_cons, List.zipIdx_nil, List.map_cons, List.map_nil, Nat.zero_add, Nat.reduceAdd]; refine Sm.seq ?_; refine ab hF rfl ?_; refine SmG.new hF rfl rfl rfl (aF rfl Be) ?_; refine SmG.nil (aa (Sm.seq (Sm.seq ?_))); refine ab hF rfl ?_; refine gv hF oM ?_; refine gv hF (aJ rfl rfl (by simp (disch := omega) only [go_sem, Nat.reduceEqDiff, aE, ac] <;> rfl)) ?_; refine gv hF (ah rfl rfl rfl (by exact ed _ _ _ _ _ (by omega))) ?_; refine SmG.nil (aa ?_); refine aZ hF rfl ?_; refine Sm.seq ?_; refine ab hF rfl ?_; refine gv hF (cW rfl Tryd.underlying64 (by kernel_rfl) rfl vg) ?_; refine SmG.store hF rfl rfl rfl rfl rfl (fd gC rfl rfl) ?_; refine SmG.nil (aa (Sm.ret ?_)); simp only [a9, bQ]; refine cK rfl rfl (gG gC mL rfl) ?_; exact mB _ rfl
 rw [if_neg c1]; obtain ⟨E, hE⟩ : ∃ E, b.length = E + 32 := ⟨b.length - 32, by omega⟩
 have hE2 : (b.length : Int) - 32 = (E : Int) := by omega
 have hE3 : b.length - 32 = E := by omega
 have hlb : (b.take E).length = E := by simp; omega
 have hlt : (b.drop E).length = 32 := by simp; omega
 rw [hE3]; have csum := pZ (b.take E) (by omega) HG; obtain ⟨sx, hsx⟩ : ∃ sx : Vec 32, sx.l = Sha.sum (b.take E) := ⟨eX _, rfl⟩
 rw [← hsx] at csum ⊢; have hsl := sx.h; have hrl : (ay sx.l).length = 32 := cO hsl; have hch : fh 1 32 (ay sx.l) = sx.l.map ai := by
  have := kc (ay sx.l); rw [hrl] at this; rw [this]; simp [ay, ai]
 have htk : (sx.l.map ai).take 32 = sx.l.map ai := List.take_of_length_le (by simp [hsl]); refine aj.of Tryd.func28 rfl Tryd.ntmps28 (by simp) ?_; intro F hF h0 hT; simp only [List.zipIdx_cons, List.zipIdx_nil, List.map_cons, List.map_nil, Nat.zero_add, Nat.reduceAdd]; refine Sm.seq ?_; refine ab hF rfl ?_; refine SmG.new hF rfl rfl rfl (aF rfl Be) ?_; refine SmG.nil (aa (Sm.seq (Sm.seq ?_))); refine ab hF rfl ?_; refine gv hF oM ?_; refine gv hF (aJ rfl rfl (by simp (disch := omega) only [go_sem, Nat.reduceEqDiff, aE, ac, ← List.map_take, ← List.map_drop] <;> rfl)) ?_; refine gv hF (ah rfl rfl rfl (by exact eK _ _ _ _ _ (by omega))) ?_; refine SmG.nil (aa ?_); refine aR hF rfl ?_; refine Sm.skip ?_; refine aa (Sm.seq ?_); refine ab hF rfl ?_; refine gv hF oM ?_; refine gv hF (aJ rfl rfl (by simp (disch := omega) only [go_sem, Nat.reduceEqDiff, aE, ac, ← List.map_take, ← List.map_drop] <;> rfl)) ?_; refine gv hF (ah rfl rfl rfl ((gS _ _ _ _ _ (aX _ (by omega))).trans (by rw [hE2]))) ?_; refine gv hF oA (SmG.nil (aa (Sm.seq ?_))); refine ab hF rfl ?_; refine gv hF oM (gv hF oM ?_); refine gv hF (bB rfl rfl rfl rfl rfl (by simp (disch := omega) only [go_sem, Nat.reduceEqDiff, aE, ac, ← List.map_take, ← List.map_drop] <;> rfl)) ?_; refine SmG.call hF rfl rfl (by kernel_rfl) rfl rfl rfl (csum) ?_; refine SmG.new hF rfl rfl rfl (aF rfl lM) ?_; refine SmG.store hF rfl rfl rfl rfl rfl (by simp (disch := omega) only [go_sem, Nat.reduceEqDiff, aE, ac, ← List.map_take, ← List.map_drop] <;> rfl) ?_; refine SmG.nil (aa (Sm.seq (Sm.seq ?_))); simp only [rep, Nat.zero_add, Nat.reduceEqDiff, if_true, if_false]; refine Sm.freeze (l := 1) [ay sx.l] rfl ?_; simp only [Pk.v, cP, bc, bK,  reduceIte, Nat.reduceAdd, Nat.zero_add, List.length_map, List.length_append, Nat.le_refl, true_and, and_self, if_true, Nat.reduceEqDiff, true_and]; refine eQ hF (by kernel_rfl) rfl 7 (by kernel_rfl) (by kernel_rfl) ?_; simp only [List.take_succ_cons, List.take_zero, List.take_nil]; refine hv hF (bB rfl rfl rfl rfl rfl (by simp (disch := omega) only [go_sem, Nat.reduceEqDiff, aE, ac, ← List.map_take, ← List.map_drop, hch, htk, iK] <;> rfl)) ?_
 refine hv hF (cw rfl rfl (by simp (disch := omega) only [go_sem, Nat.reduceEqDiff, aE, ac, ← List.map_take, ← List.map_drop, hch, htk, iK] <;> rfl)) ?_; refine hv hF oM (hv hF oM ?_); refine hv hF (bB rfl rfl rfl rfl rfl (by simp (disch := omega) only [go_sem, Nat.reduceEqDiff, aE, ac, ← List.map_take, ← List.map_drop, hch, htk, iK] <;> rfl)) ?_; refine hv hF (cw rfl rfl (by simp (disch := omega) only [go_sem, Nat.reduceEqDiff, aE, ac, ← List.map_take, ← List.map_drop, hch, htk, iK] <;> rfl)) ?_; refine au.v (x := .d (.v (.bool (sx.l != b.drop E)))) hF rfl rfl rfl (ah rfl rfl rfl (DQ rfl)) ?_; refine au.last ⟨rfl, ?_⟩; simp only [List.drop_succ_cons, List.drop_zero, List.drop_nil, List.nil_append, List.cons_append]; refine SmG.nil (aa ?_); by_cases hs : sx.l = b.drop E
 case neg =>
  rw [if_pos (by exact hs), show (sx.l != b.drop E) = true by simp [hs]]; refine aZ hF rfl ?_; refine Sm.seq ?_; refine ab hF rfl ?_; refine gv hF (cW rfl Tryd.underlying64 (by kernel_rfl) rfl vg) ?_; refine SmG.store hF rfl rfl rfl rfl rfl (fd gC rfl rfl) ?_; refine SmG.nil (aa (Sm.ret ?_)); simp only [a9, bQ]; refine cK rfl rfl (gG gC mL rfl) ?_; exact mB _ rfl
 rw [if_neg (by simp [hs]), show (sx.l != b.drop E) = false by simp [hs]]; obtain ⟨kind, hk⟩ : ∃ kind, b[0]? = some kind := ⟨b[0]'(by omega), List.getElem?_eq_getElem (by omega)⟩
 have hkB : (b.take E).getD 0 0 = kind := by
  have : (b.take E)[0]? = some kind := by rw [List.getElem?_take]; simp [hk]; omega
  simp [List.getD_eq_getElem?_getD, this]
 have e1 : (b.take 5).drop 1 = ((b.take E).drop 1).take 4 := by
  rw [List.drop_take, List.drop_take, List.take_take]; congr 1; omega
 have e5 : (b.take 9).drop 5 = ((b.take E).drop 5).take 4 := by
  rw [List.drop_take, List.drop_take, List.take_take]; congr 1; omega
 have h1 : ((b.take 5).drop 1).length = 4 := by simp; omega
 have h5 : ((b.take 9).drop 5).length = 4 := by simp; omega
 unfold mm; rw [hkB, ← e1, ← e5, hlb]; have cr1 := DZ _ h1; have cr5 := DZ _ h5; generalize hl1 : (b.take 5).drop 1 = l1 at cr1 h1; generalize hl5 : (b.take 9).drop 5 = l5 at cr5 h5; have hm1 : List.drop 1 (List.take (Int.toNat 5) b) = l1 := hl1; have hm5 : List.drop (Int.toNat 5) (List.take (Int.toNat 9) b) = l5 := hl5; refine aR hF rfl ?_; refine Sm.skip ?_; refine aa (Sm.seq ?_); refine dq hF rfl ?_; refine gX hF rfl 0 9 (by kernel_rfl) ?_; simp only [List.take_succ_cons, List.take_zero, List.take_nil, List.drop_succ_cons, List.drop_zero, Nat.reduceSub]; refine hv hF oM ?_; refine hv hF (ak rfl rfl rfl (by simp (disch := omega) only [go_sem, Nat.reduceEqDiff, aE, ac, ← List.map_take, ← List.map_drop, hk, ai, aG, hm1, hm5] <;> rfl)) ?_; refine hv hF (ae rfl rfl (by simp (disch := omega) only [go_sem, Nat.reduceEqDiff, aE, ac, ← List.map_take, ← List.map_drop, hk, ai, aG, hm1, hm5] <;> rfl)) ?_; refine hv hF oM ?_; refine hv hF (bB rfl rfl rfl rfl rfl (by simp (disch := omega) only [go_sem, Nat.reduceEqDiff, aE, ac, ← List.map_take, ← List.map_drop, hk, ai, aG, hm1, hm5] <;> rfl)) ?_; refine au.c hF rfl rfl (by kernel_rfl) rfl rfl rfl (cr1) ?_; refine hv hF (cW rfl Tryd.underlying64 (by kernel_rfl) rfl (jR (n := 36) Ki JR rfl (by repeat' first | apply wx rfl rfl (by first | rfl | simp [ay, ac, ← List.map_take, ← List.map_drop, hk, ai, aG, hm1, hm5]) | apply ww rfl rfl rfl (by first | assumption | simp [ay, ac, ← List.map_take, ← List.map_drop, hk, ai, aG, hm1, hm5]) | (apply FY; simp only [List.set_cons_succ, List.set_cons_zero, List.take_succ_cons, List.take_zero, List.drop_succ_cons, List.drop_zero, List.drop_nil, List.cons_append, List.nil_append, List.append_nil, ac, ← List.map_take, ← List.map_drop, hk, ai, aG, hm1, hm5] <;> rfl)))) ?_; refine au.new hF rfl rfl rfl rfl Be ?_; refine au.st hF rfl rfl rfl rfl rfl rfl (fd gC rfl rfl) ?_; refine au.last ?_; simp only [List.nil_append, List.cons_append]; refine SmA.nil (Nat.le_of_ble_eq_true rfl) ?_; refine aa (Sm.seq (Sm.seq ?_))
 by_cases k80 : kind.toNat = 80
 ·by_cases cn : be l5 + 9 = E
  ·by_cases cl : E ≤ 65545
   ·rw [if_pos ⟨k80, cn, cl⟩]; have hx : (b.take E).drop 9 = (b.take E).drop 9 := rfl; have hxl : ((b.take E).drop 9).length ≤ 1000000 := by simp; omega
    have csx := pZ _ hxl HG; have hnil : List.drop (Int.toNat 9) (List.take E b) = (b.take E).drop 9 := rfl; generalize (b.take E).drop 9 = x at hxl csx hnil; obtain ⟨sv, hsv, hsv2⟩ : ∃ sv : Vec 32, sv.l = Sha.sum x ∧ sv = eX x := ⟨eX x, rfl, rfl⟩
    rw [← hsv] at csx; rw [← hsv2]; refine ab hF rfl ?_; refine gv hF oM ?_; refine gv hF (ak rfl rfl rfl (by simp (disch := omega) only [go_sem, Nat.reduceEqDiff, aE, ac, ← List.map_take, ← List.map_drop, hk, ai, aG, hm5] <;> rfl)) ?_; refine gv hF (ae rfl rfl (by simp (disch := omega) only [go_sem, Nat.reduceEqDiff, aE, ac, ← List.map_take, ← List.map_drop, hk, ai, aG, hm5] <;> rfl)) ?_; refine gv hF (ah rfl rfl rfl (by exact dK _ _ _ _ _ (by omega))) ?_; refine gv hF oM ?_; refine gv hF oM ?_; refine gv hF (bB rfl rfl rfl rfl rfl (by simp (disch := omega) only [go_sem, Nat.reduceEqDiff, aE, ac, ← List.map_take, ← List.map_drop, hk, ai, aG, hm5] <;> rfl)) ?_; refine SmG.call hF rfl rfl (by kernel_rfl) rfl rfl rfl (cr5) ?_; refine gv hF oM ?_; refine gv hF (ah rfl rfl rfl (by exact gS _ _ _ _ _ (aX _ (by omega)))) ?_; refine gv hF (ah rfl rfl rfl (by exact dK _ _ _ _ _ (by omega))) ?_; refine gv hF (aN rfl rfl rfl) ?_; refine gv hF oM ?_; refine gv hF oM ?_; refine gv hF (ah rfl rfl rfl (by exact gS _ _ _ _ _ (aX _ (by omega)))) ?_; refine gv hF (ah rfl rfl rfl (by exact rT _ _ _ _ _ (by omega))) ?_; refine gv hF (aN rfl rfl rfl) ?_; refine SmG.nil (aa ?_); refine aZ hF rfl ?_; refine Sm.seq ?_; refine ab hF rfl ?_; refine gv hF (ba rfl rfl (by simp (disch := omega) only [go_sem, Nat.reduceEqDiff, aE, ac, ← List.map_take, ← List.map_drop, hnil, List.append_nil] <;> rfl)) ?_; refine gv hF oM (gv hF oM ?_); refine gv hF (bB rfl rfl rfl rfl rfl (by simp (disch := omega) only [go_sem, Nat.reduceEqDiff, aE, ac, ← List.map_take, ← List.map_drop, hnil, List.append_nil] <;> rfl)) ?_; refine SmG.append hF kv rfl rfl rfl rfl rfl rfl (Or.inr rfl) (Or.inl rfl) (by simp; omega) (by simp; omega) ?_; refine gv hF (ag rfl rfl (by simp (disch := omega) only [go_sem, Nat.reduceEqDiff, aE, ac, ← List.map_take, ← List.map_drop, hnil, List.append_nil] <;> rfl)) ?_; refine SmG.store hF rfl rfl rfl rfl rfl (by simp (disch := omega) only [go_sem, Nat.reduceEqDiff, aE, ac, ← List.map_take, ← List.map_drop, hnil, List.append_nil] <;> rfl) ?_
    refine SmG.nil (aa (Sm.seq ?_)); refine ab hF rfl ?_; refine gv hF (ag rfl rfl (by simp (disch := omega) only [go_sem, Nat.reduceEqDiff, aE, ac, ← List.map_take, ← List.map_drop, hnil, List.append_nil] <;> rfl)) ?_; refine gv hF (ae rfl rfl (by simp (disch := omega) only [go_sem, Nat.reduceEqDiff, aE, ac, ← List.map_take, ← List.map_drop, hnil, List.append_nil] <;> rfl)) ?_; refine SmG.call hF rfl rfl (by kernel_rfl) rfl rfl rfl (csx) ?_; refine gv hF (ag rfl rfl (by simp (disch := omega) only [go_sem, Nat.reduceEqDiff, aE, ac, ← List.map_take, ← List.map_drop, hnil, List.append_nil] <;> rfl)) ?_; refine SmG.store hF rfl rfl rfl rfl rfl (by simp (disch := omega) only [go_sem, Nat.reduceEqDiff, aE, ac, ← List.map_take, ← List.map_drop, hnil, List.append_nil] <;> rfl) ?_; refine SmG.nil (aa (Sm.seq ?_)); refine Sm.to (cT (st' := ⟨[(2, .ref 0 0 0), (5, .ref 2 0 0)], [(2, ⟨36, [(Rcd.row ⟨true, kind, (be l1 : Nat), x, sv⟩).map V.d]⟩), (0, ⟨36, [([.v (.bool false), .v (.int .u8 0), .v (.int .i64 0), .list 0 [] true] ++ List.replicate 32 (.v (.int .u8 0)) : List D).map V.d]⟩)], 3⟩) (aK ⟨rfl, rfl, trivial⟩ ⟨rfl, rfl, trivial⟩ (Nat.le_refl _))) ?_; refine ab hF rfl ?_; refine gv hF (ae rfl rfl (gG gC mL rfl)) ?_; refine SmG.store hF rfl rfl rfl rfl rfl (fd gC rfl rfl) ?_; refine SmG.nil (aa (Sm.ret ?_)); simp only [a9, bQ]; exact cK rfl rfl (gG gC mL rfl) (D.le.refl _)
   ·rw [if_neg (by omega), if_neg (by omega)]; refine ab hF rfl ?_; refine gv hF oM ?_; refine gv hF (ak rfl rfl rfl (by simp (disch := omega) only [go_sem, Nat.reduceEqDiff, aE, ac, ← List.map_take, ← List.map_drop, hk, ai, aG, hm5] <;> rfl)) ?_; refine gv hF (ae rfl rfl (by simp (disch := omega) only [go_sem, Nat.reduceEqDiff, aE, ac, ← List.map_take, ← List.map_drop, hk, ai, aG, hm5] <;> rfl)) ?_; refine gv hF (ah rfl rfl rfl (by exact dK _ _ _ _ _ (by omega))) ?_; refine gv hF oM ?_; refine gv hF oM ?_; refine gv hF (bB rfl rfl rfl rfl rfl (by simp (disch := omega) only [go_sem, Nat.reduceEqDiff, aE, ac, ← List.map_take, ← List.map_drop, hk, ai, aG, hm5] <;> rfl)) ?_; refine SmG.call hF rfl rfl (by kernel_rfl) rfl rfl rfl (cr5) ?_; refine gv hF oM ?_; refine gv hF (ah rfl rfl rfl (by exact gS _ _ _ _ _ (aX _ (by omega)))) ?_; refine gv hF (ah rfl rfl rfl (by exact dK _ _ _ _ _ (by omega))) ?_; refine gv hF (aN rfl rfl rfl) ?_; refine gv hF oM ?_; refine gv hF oM ?_; refine gv hF (ah rfl rfl rfl (by exact gS _ _ _ _ _ (aX _ (by omega)))) ?_; refine gv hF (ah rfl rfl rfl (by exact vL _ _ _ _ _ (by omega))) ?_; refine gv hF (aN rfl rfl rfl) ?_; refine SmG.nil (aa ?_); refine aR hF rfl ?_; refine Sm.skip ?_; refine aa (Sm.seq (Sm.seq ?_)); refine ab hF rfl ?_; refine gv hF oM ?_; refine gv hF (ak rfl rfl rfl (by simp (disch := omega) only [go_sem, Nat.reduceEqDiff, aE, ac, ← List.map_take, ← List.map_drop, hk, ai, aG, hm5] <;> rfl)) ?_; refine gv hF (ae rfl rfl (by simp (disch := omega) only [go_sem, Nat.reduceEqDiff, aE, ac, ← List.map_take, ← List.map_drop, hk, ai, aG, hm5] <;> rfl)) ?_; refine gv hF (ah rfl rfl rfl (by exact mA _ _ _ _ _ (by omega))) ?_; refine gv hF oM ?_; refine gp hF ?_; refine gp hF ?_; refine gv hF (aN rfl rfl rfl) ?_; refine SmG.nil (aa ?_); refine aZ hF rfl ?_; refine Sm.seq ?_; refine ab hF rfl ?_; refine gv hF (cW rfl Tryd.underlying64 (by kernel_rfl) rfl vg) ?_; refine SmG.store hF rfl rfl rfl rfl rfl (fd gC rfl rfl) ?_; refine SmG.nil (aa (Sm.ret ?_))
    simp only [a9, bQ]; refine cK rfl rfl (gG gC mL rfl) (mB _ rfl)
  ·rw [if_neg (by omega), if_neg (by omega)]; refine ab hF rfl ?_; refine gv hF oM ?_; refine gv hF (ak rfl rfl rfl (by simp (disch := omega) only [go_sem, Nat.reduceEqDiff, aE, ac, ← List.map_take, ← List.map_drop, hk, ai, aG, hm5] <;> rfl)) ?_; refine gv hF (ae rfl rfl (by simp (disch := omega) only [go_sem, Nat.reduceEqDiff, aE, ac, ← List.map_take, ← List.map_drop, hk, ai, aG, hm5] <;> rfl)) ?_; refine gv hF (ah rfl rfl rfl (by exact dK _ _ _ _ _ (by omega))) ?_; refine gv hF oM ?_; refine gv hF oM ?_; refine gv hF (bB rfl rfl rfl rfl rfl (by simp (disch := omega) only [go_sem, Nat.reduceEqDiff, aE, ac, ← List.map_take, ← List.map_drop, hk, ai, aG, hm5] <;> rfl)) ?_; refine SmG.call hF rfl rfl (by kernel_rfl) rfl rfl rfl (cr5) ?_; refine gv hF oM ?_; refine gv hF (ah rfl rfl rfl (by exact gS _ _ _ _ _ (aX _ (by omega)))) ?_; refine gv hF (ah rfl rfl rfl (by exact jw _ _ _ _ _ (by omega))) ?_; refine gv hF (aN rfl rfl rfl) ?_; refine gv hF oM ?_; refine gp hF ?_; refine gp hF ?_; refine gp hF ?_; refine gv hF (aT rfl rfl rfl) ?_; refine SmG.nil (aa ?_); refine aR hF rfl ?_; refine Sm.skip ?_; refine aa (Sm.seq (Sm.seq ?_)); refine ab hF rfl ?_; refine gv hF oM ?_; refine gv hF (ak rfl rfl rfl (by simp (disch := omega) only [go_sem, Nat.reduceEqDiff, aE, ac, ← List.map_take, ← List.map_drop, hk, ai, aG, hm5] <;> rfl)) ?_; refine gv hF (ae rfl rfl (by simp (disch := omega) only [go_sem, Nat.reduceEqDiff, aE, ac, ← List.map_take, ← List.map_drop, hk, ai, aG, hm5] <;> rfl)) ?_; refine gv hF (ah rfl rfl rfl (by exact mA _ _ _ _ _ (by omega))) ?_; refine gv hF oM ?_; refine gp hF ?_; refine gp hF ?_; refine gv hF (aN rfl rfl rfl) ?_; refine SmG.nil (aa ?_); refine aZ hF rfl ?_; refine Sm.seq ?_; refine ab hF rfl ?_; refine gv hF (cW rfl Tryd.underlying64 (by kernel_rfl) rfl vg) ?_; refine SmG.store hF rfl rfl rfl rfl rfl (fd gC rfl rfl) ?_; refine SmG.nil (aa (Sm.ret ?_)); simp only [a9, bQ]; refine cK rfl rfl (gG gC mL rfl) (mB _ rfl)
 ·by_cases k68 : kind.toNat = 68
  ·by_cases c37 : E = 37
   ·rw [if_neg (by omega), if_pos ⟨k68, c37⟩]; have hL : ((b.take E).drop 5).length = 32 := by simp; omega
    have hLi : ∀ i, i < 32 → b[5 + i]? = ((b.take E).drop 5)[i]? := fun i hi => by
     rw [List.getElem?_drop, List.getElem?_take, if_pos (by omega)]
    generalize (b.take E).drop 5 = L at hL hLi; refine ab hF rfl ?_; refine gv hF oM ?_; refine gv hF (ak rfl rfl rfl (by simp (disch := omega) only [go_sem, Nat.reduceEqDiff, aE, ac, ← List.map_take, ← List.map_drop, hk, ai, aG, hm5] <;> rfl)) ?_; refine gv hF (ae rfl rfl (by simp (disch := omega) only [go_sem, Nat.reduceEqDiff, aE, ac, ← List.map_take, ← List.map_drop, hk, ai, aG, hm5] <;> rfl)) ?_; refine gv hF (ah rfl rfl rfl (by exact jw _ _ _ _ _ (by omega))) ?_; refine gv hF oM ?_; refine gp hF ?_; refine gp hF ?_; refine gp hF ?_; refine gp hF ?_; refine gp hF ?_; refine gp hF ?_; refine gv hF (aT rfl rfl rfl) ?_; refine gv hF oM ?_; refine gp hF ?_; refine gp hF ?_; refine gp hF ?_; refine gv hF (aT rfl rfl rfl) ?_; refine SmG.nil (aa ?_); refine aR hF rfl ?_; refine Sm.skip ?_; refine aa (Sm.seq (Sm.seq ?_)); refine ab hF rfl ?_; refine gv hF oM ?_; refine gv hF (ak rfl rfl rfl (by simp (disch := omega) only [go_sem, Nat.reduceEqDiff, aE, ac, ← List.map_take, ← List.map_drop, hk, ai, aG, hm5] <;> rfl)) ?_; refine gv hF (ae rfl rfl (by simp (disch := omega) only [go_sem, Nat.reduceEqDiff, aE, ac, ← List.map_take, ← List.map_drop, hk, ai, aG, hm5] <;> rfl)) ?_; refine gv hF (ah rfl rfl rfl (by exact iO _ _ _ _ _ (by omega))) ?_; refine gv hF oM ?_; refine gv hF oM ?_; refine gv hF (ah rfl rfl rfl (by exact iO _ _ _ _ _ (by omega))) ?_; refine gv hF (aT rfl rfl rfl) ?_; refine SmG.nil (aa ?_); refine aR hF rfl ?_; refine Sm.skip ?_; refine aa (Sm.seq (Sm.seq ?_)); refine Sm.to (cT (st' := ⟨[(0, .d (.list 1 (b.map ai) false)), (2, .ref 0 0 0), (5, .ref 2 0 0)], [(2, ⟨36, [(oa kind (be l1 : Nat) L 0).map V.d]⟩), (0, ⟨36, [([.v (.bool false), .v (.int .u8 0), .v (.int .i64 0), .list 0 [] true] ++ List.replicate 32 (.v (.int .u8 0)) : List D).map V.d]⟩)], 3⟩) (aK ⟨rfl, rfl, rfl, trivial⟩ ⟨rfl, rfl, trivial⟩ (Nat.le_refl _))) ?_; refine ab hF rfl ?_; refine gv hF oA (SmG.nil (aa (Sm.block ?_))); refine Sm.loop (ι := {i : Nat // i ≤ 32}) (fun i => ⟨[(0, .d (.list 1 (b.map ai) false)), (2, .ref 0 0 0), (5, .ref 2 0 0), (6, .d (.v (.int .i64 i.1)))], [(2, ⟨36, [(oa kind (be l1 : Nat) L i.1).map V.d]⟩), (0, ⟨36, [([.v (.bool false), .v (.int .u8 0), .v (.int .i64 0), .list 0 [] true] ++ List.replicate 32 (.v (.int .u8 0)) : List D).map V.d]⟩)], 3⟩) (fun i => 32 - i.1) (⟨0, by omega⟩) ?_ ?_
    ·exact aK ⟨rfl, rfl, rfl, rfl, trivial⟩ ⟨rfl, rfl, trivial⟩ (Nat.le_refl _)
    rintro ⟨i, hi⟩; simp only; by_cases hlt : i < 32
    ·obtain ⟨y, hy⟩ : ∃ y, L[i]? = some y := ⟨L[i]'(by omega), List.getElem?_eq_getElem (by omega)⟩
     have hby : b[5 + i]? = some y := by rw [hLi i hlt, hy]
     have h5i : (5 : Int) + (i : Int) = ((5 + i : Nat) : Int) := by omega
     refine Sm.seq (Sm.seq ?_); refine ab hF rfl ?_; refine gv hF oM ?_; refine gv hF (ah rfl rfl rfl (by exact ed _ _ _ _ _ (by omega))) ?_; refine SmG.nil (aa ?_); refine aZ hF rfl ?_; refine Sm.skip ?_; refine aa (Sm.seq (Sm.block ?_)); refine ab hF rfl ?_; refine gv hF oM (gv hF oM (gv hF oM ?_)); refine gv hF (ah rfl rfl rfl ((eG _ _ _ _ _ (aX _ (by omega))).trans (by rw [h5i]))) ?_; refine gv hF (ak rfl rfl rfl (by simp (disch := omega) only [go_sem, Nat.reduceEqDiff, aE, hby, ai, aG] <;> rfl)) ?_; refine gv hF (ae rfl rfl (by simp (disch := omega) only [go_sem, Nat.reduceEqDiff, aE, hby, ai, aG] <;> rfl)) ?_; refine gv hF (ag rfl rfl (by simp (disch := omega) only [go_sem, Nat.reduceEqDiff, aE, hby, ai, aG] <;> rfl)) ?_; refine gv hF (ak rfl rfl rfl (by simp (disch := omega) only [go_sem, Nat.reduceEqDiff, aE, hby, ai, aG] <;> rfl)) ?_; refine SmG.store hF rfl rfl rfl rfl rfl (FF hL hy rfl) ?_; refine SmG.nil (aI (aa ?_)); refine ab hF rfl ?_; refine gv hF oM ?_; refine gv hF (ah rfl rfl rfl (by exact eG _ _ _ _ _ (aX _ (by omega)))) ?_; refine gv hF oA (SmG.nil (aa ?_)); exact ⟨⟨i + 1, by omega⟩, by show 32 - (i + 1) < 32 - i; omega, aK ⟨rfl, rfl, rfl, rfl, trivial⟩ ⟨rfl, rfl, trivial⟩ (Nat.le_refl _)⟩
    ·obtain rfl : i = 32 := by omega
     refine Sm.seq (Sm.seq ?_); refine ab hF rfl ?_; refine gv hF oM ?_; refine gv hF (ah rfl rfl rfl (by exact eK _ _ _ _ _ (by omega))) ?_; refine SmG.nil (aa ?_); refine aR hF rfl ?_; refine Sm.exit ?_; simp only [a9, bQ, reduceIte, reduceCtorEq]; refine Sm.seq ?_; refine ab hF rfl ?_; refine gv hF (ae rfl rfl (gG gC mL rfl)) ?_; refine SmG.store hF rfl rfl rfl rfl rfl (fd gC rfl rfl) ?_; refine SmG.nil (aa (Sm.ret ?_)); refine cK rfl rfl (gG gC mL rfl) ?_; have hv : (r5 L).l = L := by unfold r5; rw [dif_pos hL]
     refine fP ?_; simp only [oa, Rcd.row, hv, Nat.sub_self, List.replicate_zero, List.append_nil, List.take_of_length_le (Nat.le_of_eq hL)]; exact ⟨D.le.refl _, D.le.refl _, D.le.refl _, ci 0 1 true, leL.refl _⟩
   ·rw [if_neg (by omega), if_neg (by omega)]; refine ab hF rfl ?_; refine gv hF oM ?_; refine gv hF (ak rfl rfl rfl (by simp (disch := omega) only [go_sem, Nat.reduceEqDiff, aE, ac, ← List.map_take, ← List.map_drop, hk, ai, aG, hm5] <;> rfl)) ?_; refine gv hF (ae rfl rfl (by simp (disch := omega) only [go_sem, Nat.reduceEqDiff, aE, ac, ← List.map_take, ← List.map_drop, hk, ai, aG, hm5] <;> rfl)) ?_; refine gv hF (ah rfl rfl rfl (by exact jw _ _ _ _ _ (by omega))) ?_; refine gv hF oM ?_; refine gp hF ?_; refine gp hF ?_; refine gp hF ?_; refine gp hF ?_; refine gp hF ?_; refine gp hF ?_; refine gv hF (aT rfl rfl rfl) ?_; refine gv hF oM ?_; refine gp hF ?_; refine gp hF ?_; refine gp hF ?_; refine gv hF (aT rfl rfl rfl) ?_; refine SmG.nil (aa ?_); refine aR hF rfl ?_; refine Sm.skip ?_; refine aa (Sm.seq (Sm.seq ?_)); refine ab hF rfl ?_; refine gv hF oM ?_; refine gv hF (ak rfl rfl rfl (by simp (disch := omega) only [go_sem, Nat.reduceEqDiff, aE, ac, ← List.map_take, ← List.map_drop, hk, ai, aG, hm5] <;> rfl)) ?_; refine gv hF (ae rfl rfl (by simp (disch := omega) only [go_sem, Nat.reduceEqDiff, aE, ac, ← List.map_take, ← List.map_drop, hk, ai, aG, hm5] <;> rfl)) ?_; refine gv hF (ah rfl rfl rfl (by exact iO _ _ _ _ _ (by omega))) ?_; refine gv hF oM ?_; refine gv hF oM ?_; refine gv hF (ah rfl rfl rfl (by exact mA _ _ _ _ _ (by omega))) ?_; refine gv hF (aT rfl rfl rfl) ?_; refine SmG.nil (aa ?_); refine aZ hF rfl ?_; refine Sm.seq ?_; refine ab hF rfl ?_; refine gv hF (cW rfl Tryd.underlying64 (by kernel_rfl) rfl vg) ?_; refine SmG.store hF rfl rfl rfl rfl rfl (fd gC rfl rfl) ?_; refine SmG.nil (aa (Sm.ret ?_)); simp only [a9, bQ]; refine cK rfl rfl (gG gC mL rfl) (mB _ rfl)
  ·rw [if_neg (by omega), if_neg (by omega)]; refine ab hF rfl ?_; refine gv hF oM ?_; refine gv hF (ak rfl rfl rfl (by simp (disch := omega) only [go_sem, Nat.reduceEqDiff, aE, ac, ← List.map_take, ← List.map_drop, hk, ai, aG, hm5] <;> rfl)) ?_; refine gv hF (ae rfl rfl (by simp (disch := omega) only [go_sem, Nat.reduceEqDiff, aE, ac, ← List.map_take, ← List.map_drop, hk, ai, aG, hm5] <;> rfl)) ?_; refine gv hF (ah rfl rfl rfl (by exact jw _ _ _ _ _ (by omega))) ?_; refine gv hF oM ?_; refine gp hF ?_; refine gp hF ?_; refine gp hF ?_; refine gp hF ?_; refine gp hF ?_; refine gp hF ?_; refine gv hF (aT rfl rfl rfl) ?_; refine gv hF oM ?_; refine gp hF ?_; refine gp hF ?_; refine gp hF ?_; refine gv hF (aT rfl rfl rfl) ?_; refine SmG.nil (aa ?_); refine aR hF rfl ?_; refine Sm.skip ?_; refine aa (Sm.seq (Sm.seq ?_)); refine ab hF rfl ?_; refine gv hF oM ?_; refine gv hF (ak rfl rfl rfl (by simp (disch := omega) only [go_sem, Nat.reduceEqDiff, aE, ac, ← List.map_take, ← List.map_drop, hk, ai, aG, hm5] <;> rfl)) ?_; refine gv hF (ae rfl rfl (by simp (disch := omega) only [go_sem, Nat.reduceEqDiff, aE, ac, ← List.map_take, ← List.map_drop, hk, ai, aG, hm5] <;> rfl)) ?_; refine gv hF (ah rfl rfl rfl (by exact mA _ _ _ _ _ (by omega))) ?_; refine gv hF oM ?_; refine gp hF ?_; refine gp hF ?_; refine gv hF (aN rfl rfl rfl) ?_; refine SmG.nil (aa ?_); refine aZ hF rfl ?_; refine Sm.seq ?_; refine ab hF rfl ?_; refine gv hF (cW rfl Tryd.underlying64 (by kernel_rfl) rfl vg) ?_; refine SmG.store hF rfl rfl rfl rfl rfl (fd gC rfl rfl) ?_; refine SmG.nil (aa (Sm.ret ?_)); simp only [a9, bQ]; refine cK rfl rfl (gG gC mL rfl) (mB _ rfl)
end
section
theorem D9 (x : Ob) : seg (List.drop 0 x.row) (33 - 0) 0 32 = ay x.sum.l := by
 unfold seg; rw [if_neg (by decide), List.drop_zero, List.drop_zero, ju]
noncomputable def dk (a0 : List Ob) (a1 : List UInt8) (s1 : Int) : Option (Int ⊕ (Unit ⊕ Int)) :=
 bif (decide (s1 < (a0.length : Int))) then (
  ob (idx a0 s1) fun x6 =>
  ob (vN 32 x6.sum.l) fun x7 =>
  ob (vN 32 a1) fun x8 =>
  bif (x6.sum.l == a1) then (
   some (.inr (.inr s1))
  ) else (
   ob (arI .i64 (s1 + 1)) fun x10 =>
   some (.inl x10)
  )
 ) else (
  some (.inr (.inl ()))
 )
noncomputable def gb (a0 : List Ob) (a1 : List UInt8) : Option Int :=
 ob ((
  cH (dk a0 a1) 0
  : Option (Unit ⊕ Int))) fun o12 => match o12 with
 | .inl v11 => (
  some (-1)
  )
 | .inr e13 => some e13
set_option maxHeartbeats 4000000 in
theorem pm {a0 : List Ob} {a1 : List UInt8} {r : Int} (h : gb a0 a1 = some r) : aj Tryd.prog HG 30 [.list 33 (a0.map Ob.row) false, .agg 32 (ay a1)] (.i r) := by
 unfold gb at h; refine aj.of Tryd.func30 rfl Tryd.ntmps30 (by simp) ?_; intro F hF h0 hT; show Sm F _ _ ⟨[(0, .d (.list 33 (a0.map Ob.row) false)), (1, .d (.agg 32 (ay a1)))], [], 0⟩; refine sr hF ?_; refine oV hF Ev ?_; refine gv hF oA (sn (Sm.seq ?_)); obtain ⟨o12, ho12, h⟩ := ap h; rcases xN o12 with ⟨e13, rfl⟩ | ⟨v11, rfl⟩
 ·have he13 := aV h; subst he13; replace h := ho12; refine sr hF (gv hF oA (sn (Sm.block ?_))); refine en (dk a0 a1) (fun s1 => ⟨[(0, .d (.list 33 (a0.map Ob.row) false)), (3, .d (.ptr 32 (ay a1))), (5, .i s1)], [], 0⟩) 0 h (kA) ?_; intro n2 s1 o3 h hd4; unfold dk at h; refine Sm.seq (sr hF (gv hF oM (gv hF oM (gv hF (oN (eC u24)) (gv hF (oB (fV)) (sn ?_)))))); refine cM hF rfl (fun hc5 => ?_) (fun hc5 => ?_)
  ·replace h := ifF hc5 h; refine Sm.exit ?_; replace h := bU h hd4; cases h
  replace h := ifT hc5 h; refine sk (Sm.seq (Sm.block (Sm.seq ?_))); refine dG hF 6 ?_; refine hv hF oM (hv hF oM ?_); obtain ⟨x6, hx6, h⟩ := ap h; refine hv hF (oI (eB u24 fH hx6)) (hv hF (oF (ge Dk rfl)) (hv hF (x := .d (.agg 32 (ay x6.sum.l))) (oL (jL nT oc rfl (D9 x6))) (hv hF (x := .d (.agg 32 (ay a1))) (oL (jL nT oc rfl rfl)) ?_))); refine hE ?_; obtain ⟨x7, hx7, h⟩ := ap h; obtain ⟨x8, hx8, h⟩ := ap h; refine gv hF (jv rfl rfl rfl (tR (by kernel_rfl) (by kernel_rfl) (uS hx7) (uS hx8))) (sn ?_); refine cM hF rfl (fun hc9 => ?_) (fun hc9 => ?_)
  ·replace h := ifF hc9 h; refine Sm.skip ?_; refine aI (aa ?_); refine ab hF rfl ?_; refine gv hF oM ?_; obtain ⟨x10, hx10, h⟩ := ap h; refine gv hF (oB (dN hx10)) (gv hF oA (SmG.nil ?_)); exact eT (dF h hd4) (kA)
  replace h := ifT hc9 h; refine sr hF (gv hF oM (gv hF oA (sn (Sm.ret ?_)))); replace h := bU h hd4; replace h := rM h; obtain rfl := aV h; exact kM rfl rfl
 refine ic ⟨[], [], 0⟩ ?_ ?_
 ·refine Sm.seq ?_; refine ab hF rfl ?_; refine gv hF oA (sn (Sm.ret ?_)); obtain rfl := aV h; exact kM rfl rfl
 replace h := ho12; refine sr hF (gv hF oA (sn (Sm.block ?_))); refine en (dk a0 a1) (fun s1 => ⟨[(0, .d (.list 33 (a0.map Ob.row) false)), (3, .d (.ptr 32 (ay a1))), (5, .i s1)], [], 0⟩) 0 h (kA) ?_; intro n2 s1 o3 h hd4; unfold dk at h; refine Sm.seq (sr hF (gv hF oM (gv hF oM (gv hF (oN (eC u24)) (gv hF (oB (fV)) (sn ?_)))))); refine cM hF rfl (fun hc5 => ?_) (fun hc5 => ?_)
 ·replace h := ifF hc5 h; refine Sm.exit ?_; replace h := bU h hd4; obtain rfl := aV (rL h); exact (kA)
 replace h := ifT hc5 h; refine sk (Sm.seq (Sm.block (Sm.seq ?_))); refine dG hF 6 ?_; refine hv hF oM (hv hF oM ?_); obtain ⟨x6, hx6, h⟩ := ap h; refine hv hF (oI (eB u24 fH hx6)) (hv hF (oF (ge Dk rfl)) (hv hF (x := .d (.agg 32 (ay x6.sum.l))) (oL (jL nT oc rfl (D9 x6))) (hv hF (x := .d (.agg 32 (ay a1))) (oL (jL nT oc rfl rfl)) ?_))); refine hE ?_; obtain ⟨x7, hx7, h⟩ := ap h; obtain ⟨x8, hx8, h⟩ := ap h; refine gv hF (jv rfl rfl rfl (tR (by kernel_rfl) (by kernel_rfl) (uS hx7) (uS hx8))) (sn ?_); refine eP hF rfl (fun hc9 => ?_) (fun hc9 => ?_)
 ·replace h := ifT hc9 h; refine sr hF (gv hF oM (gv hF oA (sn (Sm.ret ?_)))); replace h := bU h hd4; cases h
 replace h := ifF hc9 h; refine Sm.skip ?_; refine aI (aa ?_); refine ab hF rfl ?_; refine gv hF oM ?_; obtain ⟨x10, hx10, h⟩ := ap h; refine gv hF (oB (dN hx10)) (gv hF oA (SmG.nil ?_)); exact eT (dF h hd4) (kA)
noncomputable def gN (a0 : List Ob) (a1 : Int) : Option (List Ob) :=
 ob (slc a0 0 a1) fun x1 =>
 ob (app ([] : List Ob) x1) fun x2 =>
 ob (arI .i64 (a1 + 1)) fun x3 =>
 ob (slc a0 x3 (a0.length : Int)) fun x4 =>
 ob (app x2 x4) fun x5 =>
 some x5
set_option maxHeartbeats 4000000 in
theorem ne {a0 : List Ob} {a1 : Int} {r : List Ob} (h : gN a0 a1 = some r) : b8 Tryd.prog HG 51 [.list 33 (a0.map Ob.row) false, .i a1] .one 33 (r.map Ob.row) [] := by
 unfold gN at h; refine b8.of Tryd.func51 rfl Tryd.ntmps51 (by simp) ?_; intro F hF h0 hT; show Sm F _ _ ⟨[(0, .d (.list 33 (a0.map Ob.row) false)), (1, .i a1)], [], 0⟩; refine sr hF (gv hF oA (sn (sr hF (gv hF (x := .d (.list 33 (([] : List Ob).map Ob.row) true)) (oS (sa u24 fH)) (gv hF oM (gv hF oM ?_)))))); obtain ⟨x1, hx1, h⟩ := ap h; refine gv hF (bB rfl rfl rfl rfl rfl (Ck u24 fH hx1)) ?_; obtain ⟨x2, hx2, h⟩ := ap h; refine SmG.appendFreshL hF qS rfl (ys := x1) (row := Ob.row) rfl rfl rfl rfl rfl rfl rfl (.inl rfl) hx2 ?_; refine gv hF oA (sn (sr hF (gv hF oM (gv hF oM (gv hF oM ?_))))); obtain ⟨x3, hx3, h⟩ := ap h; refine gv hF (oB (dN hx3)) ?_; obtain ⟨x4, hx4, h⟩ := ap h; refine gv hF (bB rfl rfl rfl rfl rfl (Cm u24 fH hx4)) ?_; obtain ⟨x5, hx5, h⟩ := ap h; refine gJ hF qS rfl (ys := x4) (row := Ob.row) rfl rfl rfl rfl rfl rfl rfl rfl (.inl rfl) hx5 (by (repeat' first | exact lI _ | refine kG ?_ | refine cU ?_ (iL _ _ _) | refine cU ?_ (iL _ _ [_]) | refine cU ?_ (mR (by rfl)))) ?_; refine gv hF oA (sn (Sm.ret ?_)); obtain rfl := aV h; exact lk 0 rfl rfl rfl
theorem BG (l : List Ob) (k : Vec 32) (hl : l.length ≤ 4294967296) : gb l k.l = some (cB l k.l) := by
 unfold gb; refine Ok.get ?_; refine Ok.bind (P := fun o => o = match aY l k.l with | some i => .inr (i : Int) | none => .inl ()) ?_ ?_
 ·refine Ok.loop (fun s : Int => ∃ i : Nat, s = i ∧ i ≤ l.length ∧ ∀ j x, j < i → l[j]? = some x → ¬ (x.sum.l = k.l)) (fun s : Int => l.length - s.toNat) ⟨0, rfl, by omega, fun j x h => by omega⟩ ?_; rintro _ ⟨i, rfl, h1, h2⟩; unfold dk; refine Ok.cond (fun c => ?_) fun c => Ok.ret ?_
  ·simp only [decide_eq_true_eq] at c; have hx : l[i]? = some (l[i]'(by omega)) := List.getElem?_eq_getElem _; generalize l[i]'(by omega) = x at hx; rw [dJ, hx, aq, AR x.sum.h, aq, AR k.h, aq]; refine Ok.cond (fun c2 => Ok.ret ?_) fun c2 => ?_
   ·have hf : aY l k.l = some i := by
     unfold aY; rw [List.findIdx?_eq_some_iff_getElem]; refine ⟨by omega, ?_, fun j hj => ?_⟩
     ·rw [List.getElem?_eq_getElem (by omega)] at hx; rw [Option.some.inj hx]; exact c2
     ·have := h2 j _ hj (List.getElem?_eq_getElem (by omega)); simpa using this
    simp only [hf]
   ·rw [bP (by omega), aq]; refine Ok.ret ⟨⟨i + 1, by omega, by omega, fun j y hj hy => ?_⟩, by omega⟩; by_cases e : j = i
    ·subst e; rw [hx] at hy; cases hy; simpa using c2
    ·exact h2 j y (by omega) hy
  ·simp only [decide_eq_false_iff_not] at c; have hf : aY l k.l = none := by
    unfold aY; rw [List.findIdx?_eq_none_iff]; intro x hx; obtain ⟨j, hj, e⟩ := List.getElem_of_mem hx; have := h2 j x (by omega) (by rw [List.getElem?_eq_getElem hj, e]); simpa using this
   simp only [hf]
 ·rintro o rfl; unfold cB; cases aY l k.l <;> exact Ok.ret rfl
theorem yw (l : List Ob) (k : Vec 32) (hl : l.length ≤ 4294967296) : aj Tryd.prog HG 30 [.list 33 (l.map Ob.row) false, .agg 32 (ay k.l)] (.v (.int .i64 (cB l k.l))) := pm (BG l k hl)
theorem su (l : List Ob) (i : Nat) (hl : l.length ≤ 1000000) (hi : i < l.length) : b8 Tryd.prog HG 51 [.list 33 (l.map Ob.row) false, .v (.int .i64 i)] .one 33 ((l.eraseIdx i).map Ob.row) [] := by
 refine ne (a0 := l) (a1 := (i : Int)) (r := l.eraseIdx i) ?_; unfold gN; rw [jf (by omega), aq, eo (by simp; omega), aq, bP (by omega), aq, jf (by omega), aq, eo (by simp; omega), aq]; have e : ((i : Int) + 1).toNat = i + 1 := by omega
 simp [e, List.eraseIdx_eq_take_drop_succ]
end
section
def fo (objs : List Ob) (n : Nat) (r : Rcd) : Option (List Ob) :=
 if r.ok = true ∧ r.n = (n : Int) ∧ (r.kind.toNat = 80 ↔ aY objs r.sum.l = none) ∧ ¬ (r.kind.toNat = 80 ∧ 256 ≤ objs.length) then
  (if r.kind.toNat = 80 then some (objs ++ [⟨r.sum, r.data⟩]) else (aY objs r.sum.l).map fun i => objs.eraseIdx i)
 else none
theorem gk (objs : List Ob) (n : Nat) : fo objs n vM = none := by
 unfold fo; rw [if_neg]; rintro ⟨h, _⟩; cases h
theorem FE (objs : List Ob) (n : Nat) (B : List UInt8) (hB : 9 ≤ B.length) : qM objs n B = fo objs n (mm B) := by
 obtain ⟨kind, r1, rfl⟩ : ∃ kind r1, B = kind :: r1 := by
  cases B with
  | nil => simp at hB
  | cons a l => exact ⟨a, l, rfl⟩
 have hr1 : 8 ≤ r1.length := by simp at hB; omega
 have hBl : (kind :: r1).length = r1.length + 1 := rfl; have hk : (kind :: r1).getD 0 0 = kind := rfl; have h5 : (kind :: r1).drop 5 = r1.drop 4 := rfl; have h1 : (kind :: r1).drop 1 = r1 := rfl; have h9 : (kind :: r1).drop 9 = (r1.drop 4).drop 4 := by rw [List.drop_drop]; rfl
 have hG80 : kind.toNat = 80 → be ((r1.drop 4).take 4) + 9 = r1.length + 1 → r1.length + 1 ≤ 65545 → mm (kind :: r1) = ⟨true, kind, (be (r1.take 4) : Nat), (r1.drop 4).drop 4, eX ((r1.drop 4).drop 4)⟩ := fun a b c => by
  unfold mm; rw [hk, h5, h1, h9, hBl, if_pos ⟨a, b, c⟩]
 have hG68 : kind.toNat = 68 → r1.length + 1 = 37 → mm (kind :: r1) = ⟨true, kind, (be (r1.take 4) : Nat), [], r5 (r1.drop 4)⟩ := fun a b => by
  unfold mm; rw [hk, h5, h1, h9, hBl, if_neg (by omega), if_pos ⟨a, b⟩]
 have hGno : ¬ (kind.toNat = 80 ∧ be ((r1.drop 4).take 4) + 9 = r1.length + 1 ∧ r1.length + 1 ≤ 65545) → ¬ (kind.toNat = 68 ∧ r1.length + 1 = 37) → mm (kind :: r1) = vM := fun a b => by
  unfold mm; rw [hk, h5, h1, h9, hBl, if_neg a, if_neg b]
 rw [ek, if_neg (by omega)]; have hl4 : (r1.drop 4).length = r1.length - 4 := by simp
 have hl8 : ((r1.drop 4).drop 4).length = r1.length - 8 := by simp only [List.length_drop]; omega
 by_cases cn : be (r1.take 4) = n
 ·rw [if_neg (by simp [cn])]; unfold f9; by_cases k80 : kind.toNat = 80
  ·rw [if_pos k80]; by_cases c1 : (r1.drop 4).length < 4 ∨ (r1.drop 4).length - 4 < be ((r1.drop 4).take 4)
   ·rw [if_pos c1, hGno (by omega) (by omega), gk]
   ·rw [if_neg c1]; unfold gr; have hd : (((r1.drop 4).drop 4).drop (be ((r1.drop 4).take 4))).length = r1.length - 8 - be ((r1.drop 4).take 4) := by rw [List.length_drop, hl8]
    by_cases c2 : be ((r1.drop 4).take 4) + 9 = r1.length + 1
    ·have hx : ((r1.drop 4).drop 4).take (be ((r1.drop 4).take 4)) = (r1.drop 4).drop 4 := List.take_of_length_le (by omega); rw [if_neg (by rw [hd]; omega), hx]; by_cases c3 : r1.length + 1 ≤ 65545
     ·rw [hG80 k80 c2 c3]; unfold fo; simp only [k80, true_and, true_iff, if_true, cn]; have hs : (eX ((r1.drop 4).drop 4)).l = Sha.sum ((r1.drop 4).drop 4) := rfl; rw [hs]; by_cases c4 : aY objs (Sha.sum ((r1.drop 4).drop 4)) = none ∧ objs.length < 256
      ·rw [if_pos ⟨by omega, c4⟩, if_pos ⟨c4.1, by omega⟩]
      ·rw [if_neg (fun h => c4 h.2), if_neg (fun h => c4 ⟨h.1, by omega⟩)]
     ·rw [if_neg (fun h => by have := h.1; omega), hGno (by omega) (by omega), gk]
    ·rw [if_pos (by rw [hd]; omega), hGno (by omega) (by omega), gk]
  ·rw [if_neg k80]; by_cases k68 : kind.toNat = 68
   ·rw [if_pos k68]; by_cases c1 : (r1.drop 4).length < 32
    ·rw [if_pos c1, hGno (by omega) (by omega), gk]
    ·rw [if_neg c1]; unfold fI; have hd : ((r1.drop 4).drop 32).length = r1.length - 36 := by rw [List.length_drop, hl4]; omega
     by_cases c2 : r1.length + 1 = 37
     ·have hx : (r1.drop 4).take 32 = r1.drop 4 := List.take_of_length_le (by omega); rw [if_neg (by rw [hd]; omega), hx, hG68 k68 c2]; have hv : (r5 (r1.drop 4)).l = r1.drop 4 := by unfold r5; rw [dif_pos (by omega)]
      unfold fo; simp only [hv, cn, k80, false_iff, false_and, not_false_eq_true, and_true, true_and, if_false]; cases aY objs (r1.drop 4) with
      | none => simp
      | some i => simp
     ·rw [if_pos (by rw [hd]; omega), hGno (by omega) (by omega), gk]
   ·rw [if_neg k68, hGno (by omega) (by omega), gk]
 ·rw [if_pos (by exact cn)]; symm; unfold fo; rw [if_neg]; rintro ⟨g1, g2, _⟩; by_cases a : kind.toNat = 80 ∧ be ((r1.drop 4).take 4) + 9 = r1.length + 1 ∧ r1.length + 1 ≤ 65545
  ·rw [hG80 a.1 a.2.1 a.2.2] at g2; simp at g2; omega
  ·by_cases b : kind.toNat = 68 ∧ r1.length + 1 = 37
   ·rw [hG68 b.1 b.2] at g2; simp at g2; omega
   ·rw [hGno a b] at g1; cases g1
theorem Hd (objs : List Ob) (n : Nat) (b : List UInt8) : bg objs n b = fo objs n (uD b) := by
 unfold bg uD; by_cases c1 : b.length < 41
 ·rw [if_pos c1, gk]; by_cases c0 : b.length < 32
  ·rw [if_pos c0]
  ·rw [if_neg c0]; split
   ·rfl
   ·have hl : (b.take (b.length - 32)).length ≤ 8 := by simp; omega
    generalize b.take (b.length - 32) = B at hl; cases B with
    | nil => rfl
    | cons k r =>
     have hr : r.length ≤ 7 := by simp at hl; omega
     rw [ek]; split
     ·rfl
     split
     ·rfl
     unfold f9; have hd : (r.drop 4).length ≤ 3 := by simp; omega
     split
     ·rw [if_pos (by omega)]
     ·split
      ·rw [if_pos (by omega)]
      ·rfl
 ·rw [if_neg c1, if_neg (by omega)]; by_cases c2 : Sha.sum (b.take (b.length - 32)) ≠ b.drop (b.length - 32)
  ·rw [if_pos c2, if_pos c2, gk]
  ·rw [if_neg c2, if_neg c2]; exact FE objs n _ (by simp; omega)
end
section
theorem Bz (sz : Nat) (rows : List (List D)) : (dB sz rows).sz = sz := rfl
section
variable {h : List (Nat × Blk)} {l : Nat} {r : Rcd}
theorem lg (hl : look h l = some ⟨36, [r.row.map V.d]⟩) : aW Tryd.prog h 4 (.ref l 0 0) = some (.d (.v (.bool r.ok))) := by
 simp only [aW, hl, Option.bind_some, List.getElem?_cons_zero, cg, ag4]; rfl
theorem fL (hl : look h l = some ⟨36, [r.row.map V.d]⟩) : aW Tryd.prog h 5 (.ref l 0 1) = some (.d (.v (.int .u8 (r.kind.toNat : Int)))) := by
 simp only [aW, hl, Option.bind_some, List.getElem?_cons_zero, cg, ag5]; rfl
theorem ov (hl : look h l = some ⟨36, [r.row.map V.d]⟩) : aW Tryd.prog h 3 (.ref l 0 2) = some (.d (.v (.int .i64 r.n))) := by
 simp only [aW, hl, Option.bind_some, List.getElem?_cons_zero, cg, ag3]; rfl
theorem BU (hl : look h l = some ⟨36, [r.row.map V.d]⟩) : aW Tryd.prog h 30 (.ref l 0 3) = some (.d (.list 1 (r.data.map ai) false)) := by
 simp only [aW, hl, Option.bind_some, List.getElem?_cons_zero, cg, Ba]; rfl
theorem wD (hl : look h l = some ⟨36, [r.row.map V.d]⟩) : aW Tryd.prog h 42 (.ref l 0 4) = some (.d (.agg 32 (ay r.sum.l))) := by
 have hsl : (ay r.sum.l).length = 32 := cO r.sum.h; have hs : seg (r.row.map V.d) 36 4 32 = (ay r.sum.l).map V.d := by
  unfold seg; rw [if_neg (by decide), ← List.map_drop, ← List.map_take]
  congr 1
  simp only [Rcd.row, List.cons_append, List.nil_append, List.drop_succ_cons, List.drop_zero]; exact List.take_of_length_le (by omega)
 have hp : bv ((ay r.sum.l).map V.d) = some (ay r.sum.l) := gy _; simp only [aW, hl, Option.bind_some, List.getElem?_cons_zero, cg, nT, oc, hs, hp]; rfl
end
theorem C9 (n sz : Nat) (rows : List (List D)) : ∀ r ∈ (dB sz rows).rows, ∀ y ∈ r, V.lt n y = true ∧ y.noGh = true := by
 intro r hr y hy; obtain ⟨r0, _, rfl⟩ := List.mem_map.1 hr; obtain ⟨d, _, rfl⟩ := List.mem_map.1 hy; exact ⟨rfl, rfl⟩
theorem IV {F : Fr} (h0 : F.n0 = 0) (hgt : ∀ ds h μ C w, F.G ds h μ C w) {a b c : D} {objs' safe' : List (List D)} {n m : Nat} : St.to F ⟨[(0, .d a), (2, .ref 0 0 0), (3, .ref 1 0 0), (4, .d b)], [(3, dB 1 safe'), (5, dB 33 objs'), (1, ⟨3, [[.sref 5 0 n, .sref 3 0 m, .d c]]⟩), (0, ⟨3, [[.d c, .d c, .d c]]⟩)], 6⟩
  ⟨[(0, .d a), (2, .ref 0 0 0), (3, .ref 1 0 0), (4, .d b)], [(3, dB 1 safe'), (2, dB 33 objs'), (1, ⟨3, [[.sref 2 0 n, .sref 3 0 m, .d c]]⟩), (0, ⟨3, [[.d c, .d c, .d c]]⟩)], 4⟩ := by
 have hH : ∀ m' k', look ([(3, dB 1 safe'), (2, dB 33 objs'), (1, ⟨3, [[.sref 2 0 n, .sref 3 0 m, .d c]]⟩), (0, ⟨3, [[.d c, .d c, .d c]]⟩)] : List (Nat × Blk)) m' = some k' → m' < 4 ∧ look ([(3, dB 1 safe'), (5, dB 33 objs'), (1, ⟨3, [[.sref 5 0 n, .sref 3 0 m, .d c]]⟩), (0, ⟨3, [[.d c, .d c, .d c]]⟩)] : List (Nat × Blk)) (if m' = 2 then 5 else m') = some (k'.ren fun m => if m = 2 then 5 else m) ∧ (∀ r ∈ k'.rows, ∀ y ∈ r, V.lt 4 y = true ∧ y.noGh = true) := by
  intro m' k' hk; simp only [look] at hk; split at hk
  ·rename_i e; subst e; cases hk; exact ⟨by decide, by rw [qQ]; rfl, C9 _ _ _⟩
  split at hk
  ·rename_i e; subst e; cases hk; exact ⟨by decide, by rw [qQ]; rfl, C9 _ _ _⟩
  split at hk
  ·rename_i e; subst e; cases hk; refine ⟨by decide, rfl, fun r hr y hy => ?_⟩; simp at hr; subst hr; simp at hy; rcases hy with rfl | rfl | rfl <;> exact ⟨rfl, rfl⟩
  split at hk
  ·rename_i e; subst e; cases hk; refine ⟨by decide, rfl, fun r hr y hy => ?_⟩; simp at hr; subst hr; simp at hy; subst hy; exact ⟨rfl, rfl⟩
  cases hk
 refine Eq (fun m => if m = 2 then 5 else m) (by omega) (by omega) ?_ hH ?_ (.inl hgt)
 ·intro t y hy; simp only [look] at hy; split at hy
  ·rename_i e; subst e; cases hy; exact ⟨rfl, rfl, rfl⟩
  split at hy
  ·rename_i e; subst e; cases hy; exact ⟨rfl, rfl, rfl⟩
  split at hy
  ·rename_i e; subst e; cases hy; exact ⟨rfl, rfl, rfl⟩
  split at hy
  ·rename_i e; subst e; cases hy; exact ⟨rfl, rfl, rfl⟩
  cases hy
 ·intro m1 m2 g1 g2 e; obtain ⟨k1, hk1⟩ := Option.isSome_iff_exists.1 g1; obtain ⟨k2, hk2⟩ := Option.isSome_iff_exists.1 g2; have l1 := (hH m1 k1 hk1).1; have l2 := (hH m2 k2 hk2).1; have e : (if m1 = 2 then 5 else m1) = (if m2 = 2 then 5 else m2) := e; split at e <;> split at e <;> omega
set_option maxHeartbeats 4000000 in
theorem Fa (rs : List (List UInt8)) (hrs : rs.length ≤ 1000000) (hb : ∀ b ∈ rs, b.length ≤ 1000000) : aj Tryd.prog HG 32 [.list 1 (rs.map av) false] (.agg 3 (Sto.row (cE [] [] rs))) := by
 refine tl Tryd.func32 rfl Tryd.ntmps32 (by simp) ?_; intro F hF h0 hT hgt; simp only [List.zipIdx_cons, List.zipIdx_nil, List.map_cons, List.map_nil, Nat.zero_add, Nat.reduceAdd]; refine Sm.seq ?_; refine ab hF rfl ?_; refine SmG.new hF rfl rfl rfl (aF rfl lL) ?_; refine SmG.nil (aa (Sm.seq ?_)); refine ab hF rfl ?_; refine gv hF (cW rfl Tryd.underlying27 (by kernel_rfl) rfl JL) ?_; refine SmG.new hF rfl rfl rfl (aF rfl lL) ?_; refine SmG.store hF rfl rfl rfl rfl rfl (fd iz rfl rfl) ?_; refine SmG.nil (aa (Sm.seq (Sm.seq ?_))); refine ab hF rfl ?_; refine gv hF oA (SmG.nil (aa (Sm.block ?_))); simp only [rep, Nat.zero_add, Nat.reduceEqDiff, if_true, if_false]; refine oU 1 0 0 33 rfl rfl rfl ?_; refine oU 1 0 1 1 rfl rfl rfl ?_; refine Sm.loop (ι := {s : Sto // s.queue = [] ∧ s.objects.length ≤ 256 ∧ s.safe.length ≤ rs.length ∧ cE [] [] rs = cE s.objects s.safe (rs.drop s.safe.length)}) (fun s => ⟨[(0, .d (.list 1 (rs.map av) false)), (2, .ref 0 0 0), (3, .ref 1 0 0), (4, .d (.v (.int .i64 s.1.safe.length)))], [(3, dB 1 (s.1.safe.map av)), (2, dB 33 (s.1.objects.map Ob.row)), (1, ⟨3, [[.sref 2 0 s.1.objects.length, .sref 3 0 s.1.safe.length, .d (.list 0 [] true)]]⟩), (0, ⟨3, [[.d (.list 0 [] true), .d (.list 0 [] true), .d (.list 0 [] true)]]⟩)], 4⟩) (fun s => rs.length - s.1.safe.length) (⟨⟨[], [], []⟩, rfl, by decide, by simp, by simp⟩) ?_ ?_
 ·exact aK ⟨rfl, rfl, rfl, rfl, trivial⟩ ⟨rfl, rfl, rfl, rfl, trivial⟩ (Nat.le_refl _)
 rintro ⟨⟨objs, safe, queue⟩, hq, ho, hs, heq⟩; simp only at hq ho hs heq ⊢; have hfrz : ∀ (nx : Nat), St.to F ⟨[(2, .ref 0 0 0), (3, .ref 1 0 0)], [(3, dB 1 (safe.map av)), (2, dB 33 (objs.map Ob.row)), (1, ⟨3, [[.sref 2 0 objs.length, .sref 3 0 safe.length, .d (.list 0 [] true)]]⟩), (0, ⟨3, [[.d (.list 0 [] true), .d (.list 0 [] true), .d (.list 0 [] true)]]⟩)], nx⟩ ⟨[(2, .ref 0 0 0), (3, .ref 1 0 0)], [(1, ⟨3, [[.d (.list 33 (objs.map Ob.row) false), .d (.list 1 (safe.map av) false), .d (.list 0 [] true)]]⟩), (0, ⟨3, [[.d (.list 0 [] true), .d (.list 0 [] true), .d (.list 0 [] true)]]⟩)], nx⟩ := fun nx => by
  have h := fq (F := F) (st := ⟨[(2, .ref 0 0 0), (3, .ref 1 0 0)], [(3, dB 1 (safe.map av)), (2, dB 33 (objs.map Ob.row)), (1, ⟨3, [[.sref 2 0 objs.length, .sref 3 0 safe.length, .d (.list 0 [] true)]]⟩), (0, ⟨3, [[.d (.list 0 [] true), .d (.list 0 [] true), .d (.list 0 [] true)]]⟩)], nx⟩) (l := 2) (objs.map Ob.row) rfl rfl; have h2 := fq (F := F) (st := ⟨[(2, .ref 0 0 0), (3, .ref 1 0 0)], [(3, dB 1 (safe.map av)), (1, ⟨3, [[.d (.list 33 (objs.map Ob.row) false), .sref 3 0 safe.length, .d (.list 0 [] true)]]⟩), (0, ⟨3, [[.d (.list 0 [] true), .d (.list 0 [] true), .d (.list 0 [] true)]]⟩)], nx⟩) (l := 3) (safe.map av) rfl rfl; refine aQ (st' := ⟨[(2, .ref 0 0 0), (3, .ref 1 0 0)], [(3, dB 1 (safe.map av)), (1, ⟨3, [[.d (.list 33 (objs.map Ob.row) false), .sref 3 0 safe.length, .d (.list 0 [] true)]]⟩), (0, ⟨3, [[.d (.list 0 [] true), .d (.list 0 [] true), .d (.list 0 [] true)]]⟩)], nx⟩) ?_ ?_
  ·simp only [gP, bK, dh, rJ, Bz, reduceIte, Nat.reduceEqDiff] at h; simpa [cP, bc, cu] using h
  ·simp only [gP, bK, dh, rJ, Bz, reduceIte, Nat.reduceEqDiff] at h2; simpa [cP, bc, cu] using h2
 by_cases hlt : safe.length < rs.length
 ·obtain ⟨b, hbi⟩ : ∃ b, rs[safe.length]? = some b := ⟨rs[safe.length], by simp⟩
  have hbl : b.length ≤ 1000000 := hb b (List.mem_of_getElem? hbi); have hdr : rs.drop safe.length = b :: rs.drop (safe.length + 1) := by
   rw [List.drop_eq_getElem_cons hlt]
   congr 1
   rw [List.getElem?_eq_getElem hlt] at hbi; exact Option.some.inj hbi
  have cread := DY b hbl; have hstep := Hd objs safe.length b; generalize uD b = r at cread hstep; refine Sm.seq (Sm.seq ?_); refine ab hF rfl ?_; refine gv hF oM (gv hF oM ?_); refine gv hF (aJ rfl rfl (by simp only [go_sem, hbi, av, aB, ac] <;> rfl)) ?_; refine gv hF (ah rfl rfl rfl (by exact ed _ _ _ _ _ (by omega))) ?_; refine SmG.nil (aa ?_); refine aZ hF rfl ?_; refine Sm.skip ?_; refine aa (Sm.seq (Sm.block (Sm.seq ?_))); refine ab hF rfl ?_; refine gv hF oM (gv hF oM ?_); refine gv hF (ak rfl rfl rfl (by simp only [go_sem, hbi, av, aB, ac] <;> rfl)) ?_; refine gv hF (ae rfl rfl (by simp only [go_sem, hbi, av, aB, ac] <;> rfl)) ?_; refine SmG.call hF rfl rfl (by kernel_rfl) rfl rfl rfl (cread) ?_; refine SmG.new hF rfl rfl rfl (aF rfl Be) ?_; refine SmG.store hF rfl rfl rfl rfl rfl (fd gC rfl rfl) ?_; refine SmG.nil (aa (Sm.seq ?_)); simp only [rep, if_true]; refine Sm.to (cT (st' := ⟨[(0, .d (.list 1 (rs.map av) false)), (2, .ref 0 0 0), (3, .ref 1 0 0), (4, .d (.v (.int .i64 safe.length))), (5, .ref 4 0 0)], [(4, ⟨36, [r.row.map V.d]⟩), (3, dB 1 (safe.map av)), (2, dB 33 (objs.map Ob.row)), (1, ⟨3, [[.sref 2 0 objs.length, .sref 3 0 safe.length, .d (.list 0 [] true)]]⟩), (0, ⟨3, [[.d (.list 0 [] true), .d (.list 0 [] true), .d (.list 0 [] true)]]⟩)], 5⟩) (aK ⟨rfl, rfl, rfl, rfl, rfl, trivial⟩ ⟨rfl, rfl, rfl, rfl, rfl, trivial⟩ (Nat.le_refl _))) ?_; refine ab hF rfl ?_; refine gv hF (ag rfl rfl (by simp only [go_sem, ac] <;> rfl)) ?_; refine gv hF (ae rfl rfl (by simp only [go_sem, ac] <;> rfl)) ?_; refine gv hF (ag rfl rfl (by simp only [go_sem, ac] <;> rfl)) ?_; refine gv hF (ae rfl rfl (wD rfl)) ?_; refine mF hF (l := 2) (objs.map Ob.row) rfl rfl (by kernel_rfl) rfl rfl rfl (by simp only [cP, bc]; simp; rfl) (yw objs r.sum (by omega)) (Hz _) ?_; refine gv hF oA (SmG.nil (aa (Sm.seq (Sm.seq ?_)))); have hdone : bg objs safe.length b = none → cE [] [] rs = ⟨objs, safe, []⟩ := fun h => by
   rw [heq, hdr]; unfold cE; rw [h]
  cases hok : r.ok
  ·
   refine ab hF rfl ?_; refine gv hF (ag rfl rfl (by simp only [go_sem, ac] <;> rfl)) ?_; refine gv hF (ae rfl rfl ((lg rfl).trans (by rw [hok]))) ?_; refine gv hF (eF rfl rfl (by exact rU _)) ?_; refine gv hF oM ?_; refine gp hF ?_; refine gp hF ?_; refine gp hF ?_; refine gp hF ?_; refine gv hF (aN rfl rfl rfl) ?_; refine gv hF oM ?_; refine gp hF ?_; refine gp hF ?_; refine gp hF ?_; refine gp hF ?_; refine gp hF ?_; refine gp hF ?_; refine gv hF (aN rfl rfl rfl) ?_; refine gv hF oM ?_; refine gp hF ?_; refine gp hF ?_; refine gp hF ?_; refine gp hF ?_; refine gp hF ?_; refine gp hF ?_; refine gp hF ?_; refine gp hF ?_; refine gp hF ?_; refine gv hF (aN rfl rfl rfl) ?_; refine SmG.nil (aa ?_); refine aZ hF rfl ?_; refine Sm.seq ?_; refine Sm.to (aQ (cT (st' := ⟨[(2, .ref 0 0 0), (3, .ref 1 0 0)], [(3, dB 1 (safe.map av)), (2, dB 33 (objs.map Ob.row)), (1, ⟨3, [[.sref 2 0 objs.length, .sref 3 0 safe.length, .d (.list 0 [] true)]]⟩), (0, ⟨3, [[.d (.list 0 [] true), .d (.list 0 [] true), .d (.list 0 [] true)]]⟩)], 5⟩) (aK ⟨rfl, rfl, trivial⟩ ⟨rfl, rfl, rfl, rfl, trivial⟩ (Nat.le_refl _))) (hfrz 5)) ?_; refine ab hF rfl ?_; refine gv hF (ae rfl rfl (cG rfl)) ?_; refine SmG.store hF rfl rfl rfl rfl rfl (fd iz rfl rfl) ?_; refine SmG.nil (aa (Sm.ret ?_)); simp only [a9, bQ]; refine cK rfl rfl (gG iz nS rfl) ?_; rw [hdone (by rw [hstep]; unfold fo; rw [if_neg]; rintro ⟨g1, g2, g3, g4⟩; rw [hok] at g1; cases g1)]; exact fP ⟨D.le.refl _, D.le.refl _, ci 0 1 true, trivial⟩
  by_cases hn : ¬ r.n = (safe.length : Int)
  ·
   refine ab hF rfl ?_; refine gv hF (ag rfl rfl (by simp only [go_sem, ac] <;> rfl)) ?_; refine gv hF (ae rfl rfl ((lg rfl).trans (by rw [hok]))) ?_; refine gv hF (eF rfl rfl (by exact f7 _)) ?_; refine gv hF oM ?_; refine gv hF (ag rfl rfl (by simp only [go_sem, ac] <;> rfl)) ?_; refine gv hF (ae rfl rfl (ov rfl)) ?_; refine gv hF oM ?_; refine gv hF (ah rfl rfl rfl (by exact mA _ _ _ _ _ (by omega))) ?_; refine gv hF (aT rfl rfl rfl) ?_; refine gv hF oM ?_; refine gp hF ?_; refine gp hF ?_; refine gp hF ?_; refine gp hF ?_; refine gp hF ?_; refine gp hF ?_; refine gv hF (aN rfl rfl rfl) ?_; refine gv hF oM ?_; refine gp hF ?_; refine gp hF ?_; refine gp hF ?_; refine gp hF ?_; refine gp hF ?_; refine gp hF ?_; refine gp hF ?_; refine gp hF ?_; refine gp hF ?_; refine gv hF (aN rfl rfl rfl) ?_; refine SmG.nil (aa ?_); refine aZ hF rfl ?_; refine Sm.seq ?_; refine Sm.to (aQ (cT (st' := ⟨[(2, .ref 0 0 0), (3, .ref 1 0 0)], [(3, dB 1 (safe.map av)), (2, dB 33 (objs.map Ob.row)), (1, ⟨3, [[.sref 2 0 objs.length, .sref 3 0 safe.length, .d (.list 0 [] true)]]⟩), (0, ⟨3, [[.d (.list 0 [] true), .d (.list 0 [] true), .d (.list 0 [] true)]]⟩)], 5⟩) (aK ⟨rfl, rfl, trivial⟩ ⟨rfl, rfl, rfl, rfl, trivial⟩ (Nat.le_refl _))) (hfrz 5)) ?_; refine ab hF rfl ?_; refine gv hF (ae rfl rfl (cG rfl)) ?_; refine SmG.store hF rfl rfl rfl rfl rfl (fd iz rfl rfl) ?_; refine SmG.nil (aa (Sm.ret ?_)); simp only [a9, bQ]; refine cK rfl rfl (gG iz nS rfl) ?_; rw [hdone (by rw [hstep]; unfold fo; rw [if_neg]; rintro ⟨g1, g2, g3, g4⟩; exact hn g2)]; exact fP ⟨D.le.refl _, D.le.refl _, ci 0 1 true, trivial⟩
  have hn : r.n = (safe.length : Int) := Classical.not_not.1 hn; by_cases k80 : r.kind.toNat = 80
  ·cases hfn : aY objs r.sum.l with
   | some i =>
    have hfz : cB objs r.sum.l = (i : Int) := by unfold cB; rw [hfn]
    rw [hfz]; refine ab hF rfl ?_; refine gv hF (ag rfl rfl (by simp only [go_sem, ac] <;> rfl)) ?_; refine gv hF (ae rfl rfl ((lg rfl).trans (by rw [hok]))) ?_; refine gv hF (eF rfl rfl (by exact f7 _)) ?_; refine gv hF oM ?_; refine gv hF (ag rfl rfl (by simp only [go_sem, ac] <;> rfl)) ?_; refine gv hF (ae rfl rfl (ov rfl)) ?_; refine gv hF oM ?_; refine gv hF (ah rfl rfl rfl (by exact iO _ _ _ _ _ (by omega))) ?_; refine gv hF (aT rfl rfl rfl) ?_; refine gv hF oM ?_; refine gv hF (ag rfl rfl (by simp only [go_sem, ac] <;> rfl)) ?_; refine gv hF (ae rfl rfl (fL rfl)) ?_; refine gv hF (ah rfl rfl rfl (by exact dK _ _ _ _ _ (by omega))) ?_; refine gv hF oM ?_; refine gv hF (ah rfl rfl rfl (by exact eK _ _ _ _ _ (by omega))) ?_; refine gv hF (ah rfl rfl rfl (oG _ _ _ _ (by kernel_rfl) (by exact (rfl : _ = true)))) ?_; refine gv hF (aT rfl rfl rfl) ?_; refine gv hF oM ?_; refine gp hF ?_; refine gp hF ?_; refine gp hF ?_; refine gp hF ?_; refine gp hF ?_; refine gp hF ?_; refine gp hF ?_; refine gp hF ?_; refine gp hF ?_; refine gv hF (aN rfl rfl rfl) ?_; refine SmG.nil (aa ?_); refine aZ hF rfl ?_; refine Sm.seq ?_; refine Sm.to (aQ (cT (st' := ⟨[(2, .ref 0 0 0), (3, .ref 1 0 0)], [(3, dB 1 (safe.map av)), (2, dB 33 (objs.map Ob.row)), (1, ⟨3, [[.sref 2 0 objs.length, .sref 3 0 safe.length, .d (.list 0 [] true)]]⟩), (0, ⟨3, [[.d (.list 0 [] true), .d (.list 0 [] true), .d (.list 0 [] true)]]⟩)], 5⟩) (aK ⟨rfl, rfl, trivial⟩ ⟨rfl, rfl, rfl, rfl, trivial⟩ (Nat.le_refl _))) (hfrz 5)) ?_; refine ab hF rfl ?_; refine gv hF (ae rfl rfl (cG rfl)) ?_; refine SmG.store hF rfl rfl rfl rfl rfl (fd iz rfl rfl) ?_; refine SmG.nil (aa (Sm.ret ?_)); simp only [a9, bQ]; refine cK rfl rfl (gG iz nS rfl) ?_; rw [hdone (by rw [hstep]; unfold fo; rw [if_neg]; rintro ⟨g1, g2, g3, g4⟩; rw [g3.1 k80] at hfn; cases hfn)]; exact fP ⟨D.le.refl _, D.le.refl _, ci 0 1 true, trivial⟩
   | none =>
    have hfz : cB objs r.sum.l = -1 := by unfold cB; rw [hfn]
    rw [hfz]; by_cases c4 : 256 ≤ objs.length
    ·
     refine ab hF rfl ?_; refine gv hF (ag rfl rfl (by simp only [go_sem, ac] <;> rfl)) ?_; refine gv hF (ae rfl rfl ((lg rfl).trans (by rw [hok]))) ?_; refine gv hF (eF rfl rfl (by exact f7 _)) ?_; refine gv hF oM ?_; refine gv hF (ag rfl rfl (by simp only [go_sem, ac] <;> rfl)) ?_; refine gv hF (ae rfl rfl (ov rfl)) ?_; refine gv hF oM ?_; refine gv hF (ah rfl rfl rfl (by exact iO _ _ _ _ _ (by omega))) ?_; refine gv hF (aT rfl rfl rfl) ?_; refine gv hF oM ?_; refine gv hF (ag rfl rfl (by simp only [go_sem, ac] <;> rfl)) ?_; refine gv hF (ae rfl rfl (fL rfl)) ?_; refine gv hF (ah rfl rfl rfl (by exact dK _ _ _ _ _ (by omega))) ?_; refine gv hF oM ?_; refine gv hF (ah rfl rfl rfl (by exact ed _ _ _ _ _ (by omega))) ?_; refine gv hF (ah rfl rfl rfl (oG _ _ _ _ (by kernel_rfl) (by exact (rfl : _ = false)))) ?_; refine gv hF (aT rfl rfl rfl) ?_; refine gv hF oM ?_; refine gv hF (ag rfl rfl (by simp only [go_sem, ac] <;> rfl)) ?_; refine gv hF (ae rfl rfl (fL rfl)) ?_; refine gv hF (ah rfl rfl rfl (by exact dK _ _ _ _ _ (by omega))) ?_; refine gv hF oM ?_; refine gv hF (ag rfl rfl (by simp only [go_sem, ac] <;> rfl)) ?_; refine gv hF (ae rfl rfl (by simp only [go_sem, ac] <;> rfl)) ?_; refine gv hF (aJ rfl rfl (by simp only [go_sem, ac] <;> rfl)) ?_; refine gv hF (ah rfl rfl rfl (by exact oJ _ _ _ _ _ (by omega))) ?_; refine gv hF (aN rfl rfl rfl) ?_; refine gv hF (aT rfl rfl rfl) ?_; refine SmG.nil (aa ?_); refine aZ hF rfl ?_; refine Sm.seq ?_; refine Sm.to (aQ (cT (st' := ⟨[(2, .ref 0 0 0), (3, .ref 1 0 0)], [(3, dB 1 (safe.map av)), (2, dB 33 (objs.map Ob.row)), (1, ⟨3, [[.sref 2 0 objs.length, .sref 3 0 safe.length, .d (.list 0 [] true)]]⟩), (0, ⟨3, [[.d (.list 0 [] true), .d (.list 0 [] true), .d (.list 0 [] true)]]⟩)], 5⟩) (aK ⟨rfl, rfl, trivial⟩ ⟨rfl, rfl, rfl, rfl, trivial⟩ (Nat.le_refl _))) (hfrz 5)) ?_; refine ab hF rfl ?_; refine gv hF (ae rfl rfl (cG rfl)) ?_; refine SmG.store hF rfl rfl rfl rfl rfl (fd iz rfl rfl) ?_; refine SmG.nil (aa (Sm.ret ?_)); simp only [a9, bQ]
     refine cK rfl rfl (gG iz nS rfl) ?_; rw [hdone (by rw [hstep]; unfold fo; rw [if_neg]; rintro ⟨g1, g2, g3, g4⟩; exact g4 ⟨k80, c4⟩)]; exact fP ⟨D.le.refl _, D.le.refl _, ci 0 1 true, trivial⟩
    ·have hnext : bg objs safe.length b = some (objs ++ [⟨r.sum, r.data⟩]) := by
      rw [hstep]; unfold fo; rw [if_pos ⟨hok, hn, ⟨fun _ => hfn, fun _ => k80⟩, fun h => c4 h.2⟩, if_pos k80]
     have hbo := sF r.sum r.data; refine ab hF rfl ?_; refine gv hF (ag rfl rfl (by simp only [go_sem, ac, hbi, av, aB] <;> rfl)) ?_; refine gv hF (ae rfl rfl ((lg rfl).trans (by rw [hok]))) ?_; refine gv hF (eF rfl rfl (by exact f7 _)) ?_; refine gv hF oM ?_; refine gv hF (ag rfl rfl (by simp only [go_sem, ac, hbi, av, aB] <;> rfl)) ?_; refine gv hF (ae rfl rfl (ov rfl)) ?_; refine gv hF oM ?_; refine gv hF (ah rfl rfl rfl (by exact iO _ _ _ _ _ (by omega))) ?_; refine gv hF (aT rfl rfl rfl) ?_; refine gv hF oM ?_; refine gv hF (ag rfl rfl (by simp only [go_sem, ac, hbi, av, aB] <;> rfl)) ?_; refine gv hF (ae rfl rfl (fL rfl)) ?_; refine gv hF (ah rfl rfl rfl (by exact dK _ _ _ _ _ (by omega))) ?_; refine gv hF oM ?_; refine gv hF (ah rfl rfl rfl (by exact ed _ _ _ _ _ (by omega))) ?_; refine gv hF (ah rfl rfl rfl (oG _ _ _ _ (by kernel_rfl) (by exact (rfl : _ = false)))) ?_; refine gv hF (aT rfl rfl rfl) ?_; refine gv hF oM ?_; refine gv hF (ag rfl rfl (by simp only [go_sem, ac, hbi, av, aB] <;> rfl)) ?_; refine gv hF (ae rfl rfl (fL rfl)) ?_; refine gv hF (ah rfl rfl rfl (by exact dK _ _ _ _ _ (by omega))) ?_; refine gv hF oM ?_; refine gv hF (ag rfl rfl (by simp only [go_sem, ac, hbi, av, aB] <;> rfl)) ?_; refine gv hF (ae rfl rfl (by simp only [go_sem, ac, hbi, av, aB] <;> rfl)) ?_; refine gv hF (aJ rfl rfl (by simp only [go_sem, ac, hbi, av, aB] <;> rfl)) ?_; refine gv hF (ah rfl rfl rfl (by exact oH _ _ _ _ _ (by omega))) ?_; refine gv hF (aN rfl rfl rfl) ?_; refine gv hF (aT rfl rfl rfl) ?_; refine SmG.nil (aa ?_); refine aR hF rfl ?_; refine Sm.skip ?_; refine aa (Sm.seq (Sm.seq ?_)); refine ab hF rfl ?_; refine gv hF (ag rfl rfl (by simp only [go_sem, ac, hbi, av, aB] <;> rfl)) ?_; refine gv hF (ae rfl rfl (fL rfl)) ?_; refine gv hF (ah rfl rfl rfl (by exact dK _ _ _ _ _ (by omega))) ?_; refine SmG.nil (aa ?_); refine aZ hF rfl ?_; refine ab hF rfl ?_; refine gv hF (ag rfl rfl (by simp only [go_sem, ac, hbi, av, aB] <;> rfl)) ?_; refine gv hF (ae rfl rfl (by simp only [go_sem, ac, hbi, av, aB] <;> rfl)) ?_
     refine gv hF (ag rfl rfl (by simp only [go_sem, ac, hbi, av, aB] <;> rfl)) ?_; refine gv hF (ae rfl rfl (wD rfl)) ?_; refine gv hF (ag rfl rfl (by simp only [go_sem, ac, hbi, av, aB] <;> rfl)) ?_; refine gv hF (ae rfl rfl (BU rfl)) ?_; refine gv hF (cW rfl Tryd.underlying53 (by kernel_rfl) rfl hbo) ?_; refine gv hF (ba rfl rfl (by simp only [go_sem, ac, hbi, av, aB] <;> rfl)) ?_; rw [show objs.length = (objs.map Ob.row).length by simp]; refine jl hF qS rfl rfl rfl rfl rfl rfl rfl (by rfl) (Or.inl rfl) ?_ ?_ ?_; rotate_left; rotate_left; simp only [da, Pk.v, V.free, rep, dh, cu, mS, kJ, nC, cD, List.map_cons, List.map_nil, bne_self_eq_false, Nat.reduceAdd, Nat.reduceBNe, Nat.reduceBEq, Nat.reduceEqDiff, reduceIte, Bool.false_eq_true]
     ·refine gv hF (ag rfl rfl (by simp only [go_sem, ac, hbi, av, aB] <;> rfl)) ?_; refine SmG.store hF rfl rfl rfl rfl rfl (by simp only [go_sem, ac, hbi, av, aB] <;> rfl) ?_; refine SmG.nil (aa ?_); refine eQ hF (by kernel_rfl) rfl 7 (by kernel_rfl) (by kernel_rfl) ?_; simp only [List.take_succ_cons, List.take_zero, List.take_nil]; refine hv hF (ag rfl rfl (by simp only [go_sem, ac, hbi, av, aB] <;> rfl)) ?_; refine hv hF (ae rfl rfl (by simp only [go_sem, ac, hbi, av, aB] <;> rfl)) ?_; refine hv hF oM (hv hF oM ?_); refine hv hF (ak rfl rfl rfl (by simp only [go_sem, ac, hbi, av, aB] <;> rfl)) ?_; refine hv hF (ae rfl rfl (by simp only [go_sem, ac, hbi, av, aB] <;> rfl)) ?_; refine hv hF (ba rfl rfl (by simp only [go_sem, ac, hbi, av, aB] <;> rfl)) ?_; refine au.last ⟨rfl, ?_⟩; simp only [List.drop_succ_cons, List.drop_zero, List.drop_nil, List.nil_append, List.cons_append]; refine jl hF sK rfl rfl rfl rfl rfl rfl rfl (by (simp; done)) (Or.inl rfl) ?_ ?_ ?_; rotate_left; rotate_left; simp only [da, Pk.v, V.free, rep, dh, cu, mS, kJ, nC, cD, List.map_cons, List.map_nil, bne_self_eq_false, Nat.reduceAdd, Nat.reduceBNe, Nat.reduceBEq, Nat.reduceEqDiff, reduceIte, Bool.false_eq_true]
      ·have hro : objs.map Ob.row ++ [Ob.row ⟨r.sum, r.data⟩] = (objs ++ [(⟨r.sum, r.data⟩ : Ob)]).map Ob.row := by simp
       have hrs2 : safe.map av ++ [[D.list 1 (b.map ai) false]] = (safe ++ [b]).map av := by simp [av, aB]
       rw [hro, hrs2, show ((objs ++ [(⟨r.sum, r.data⟩ : Ob)]).map Ob.row).length = (objs ++ [(⟨r.sum, r.data⟩ : Ob)]).length by simp, show ((safe ++ [b]).map av).length = (safe ++ [b]).length by simp]; refine gv hF (ag rfl rfl (by simp only [go_sem, ac, hbi, av, aB] <;> rfl)) ?_; refine SmG.store hF rfl rfl rfl rfl rfl (by simp only [go_sem, ac, hbi, av, aB] <;> rfl) ?_; refine SmG.nil (aI (aa ?_)); refine Sm.to (aQ (cT (st' := ⟨[(0, .d (.list 1 (rs.map av) false)), (2, .ref 0 0 0), (3, .ref 1 0 0), (4, .d (.v (.int .i64 safe.length)))], [(3, dB 1 ((safe ++ [b]).map av)), (2, dB 33 ((objs ++ [(⟨r.sum, r.data⟩ : Ob)]).map Ob.row)), (1, ⟨3, [[.sref 2 0 (objs ++ [(⟨r.sum, r.data⟩ : Ob)]).length, .sref 3 0 (safe ++ [b]).length, .d (.list 0 [] true)]]⟩), (0, ⟨3, [[.d (.list 0 [] true), .d (.list 0 [] true), .d (.list 0 [] true)]]⟩)], 5⟩) (aK ⟨rfl, rfl, rfl, rfl, trivial⟩ ⟨rfl, rfl, rfl, rfl, trivial⟩ (Nat.le_refl _))) (mb 4 rfl (by (repeat' first | exact ox _ | exact my _ _ | exact trivial | refine mX ?_ (by decide) | refine lh ?_ (um _ _ _) | refine oy ?_ ?_ | refine ⟨rfl, ?_⟩)) rfl (by omega))) ?_; refine ab hF rfl ?_; refine gv hF oM ?_; refine gv hF (ah rfl rfl rfl (by exact eG _ _ _ _ _ (aX _ (by omega)))) ?_; refine gv hF oA (SmG.nil (aa ?_)); have he : (safe.length : Int) + 1 = ((safe ++ [b]).length : Int) := by simp
       rw [he]; refine ⟨⟨⟨objs ++ [⟨r.sum, r.data⟩], safe ++ [b], []⟩, rfl, by simp; omega, by simp; omega, ?_⟩, by simp; omega, aK ⟨rfl, rfl, rfl, rfl, trivial⟩ ⟨rfl, rfl, rfl, rfl, trivial⟩ (Nat.le_refl _)⟩; rw [heq, hdr, cE, hnext]; simp
      ·simp; omega
      ·simp; omega
     ·simp; omega
     ·simp; omega
  ·cases hfn : aY objs r.sum.l with
   | none =>
    have hfz : cB objs r.sum.l = -1 := by unfold cB; rw [hfn]
    rw [hfz]; refine ab hF rfl ?_; refine gv hF (ag rfl rfl (by simp only [go_sem, ac] <;> rfl)) ?_; refine gv hF (ae rfl rfl ((lg rfl).trans (by rw [hok]))) ?_; refine gv hF (eF rfl rfl (by exact f7 _)) ?_; refine gv hF oM ?_; refine gv hF (ag rfl rfl (by simp only [go_sem, ac] <;> rfl)) ?_; refine gv hF (ae rfl rfl (ov rfl)) ?_; refine gv hF oM ?_; refine gv hF (ah rfl rfl rfl (by exact iO _ _ _ _ _ (by omega))) ?_; refine gv hF (aT rfl rfl rfl) ?_; refine gv hF oM ?_; refine gv hF (ag rfl rfl (by simp only [go_sem, ac] <;> rfl)) ?_; refine gv hF (ae rfl rfl (fL rfl)) ?_; refine gv hF (ah rfl rfl rfl (by exact jw _ _ _ _ _ (by omega))) ?_; refine gv hF oM ?_; refine gv hF (ah rfl rfl rfl (by exact ed _ _ _ _ _ (by omega))) ?_; refine gv hF (ah rfl rfl rfl (oG _ _ _ _ (by kernel_rfl) (by exact (rfl : _ = true)))) ?_; refine gv hF (aT rfl rfl rfl) ?_; refine gv hF oM ?_; refine gp hF ?_; refine gp hF ?_; refine gp hF ?_; refine gp hF ?_; refine gp hF ?_; refine gp hF ?_; refine gp hF ?_; refine gp hF ?_; refine gp hF ?_; refine gv hF (aN rfl rfl rfl) ?_; refine SmG.nil (aa ?_); refine aZ hF rfl ?_; refine Sm.seq ?_; refine Sm.to (aQ (cT (st' := ⟨[(2, .ref 0 0 0), (3, .ref 1 0 0)], [(3, dB 1 (safe.map av)), (2, dB 33 (objs.map Ob.row)), (1, ⟨3, [[.sref 2 0 objs.length, .sref 3 0 safe.length, .d (.list 0 [] true)]]⟩), (0, ⟨3, [[.d (.list 0 [] true), .d (.list 0 [] true), .d (.list 0 [] true)]]⟩)], 5⟩) (aK ⟨rfl, rfl, trivial⟩ ⟨rfl, rfl, rfl, rfl, trivial⟩ (Nat.le_refl _))) (hfrz 5)) ?_; refine ab hF rfl ?_; refine gv hF (ae rfl rfl (cG rfl)) ?_; refine SmG.store hF rfl rfl rfl rfl rfl (fd iz rfl rfl) ?_; refine SmG.nil (aa (Sm.ret ?_)); simp only [a9, bQ]; refine cK rfl rfl (gG iz nS rfl) ?_; rw [hdone (by rw [hstep]; unfold fo; rw [if_neg]; rintro ⟨g1, g2, g3, g4⟩; exact k80 (g3.2 hfn))]; exact fP ⟨D.le.refl _, D.le.refl _, ci 0 1 true, trivial⟩
   | some i =>
    have hfz : cB objs r.sum.l = (i : Int) := by unfold cB; rw [hfn]
    rw [hfz]; have hi : i < objs.length := by
     unfold aY at hfn; rw [List.findIdx?_eq_some_iff_getElem] at hfn; exact hfn.1
    have hnext : bg objs safe.length b = some (objs.eraseIdx i) := by
     rw [hstep]; unfold fo; rw [if_pos ⟨hok, hn, ⟨fun h => absurd h k80, fun h => by rw [hfn] at h; cases h⟩, fun h => k80 h.1⟩, if_neg k80, hfn]; rfl
    have ho2 : (objs.eraseIdx i).length ≤ 256 := by have := List.length_eraseIdx_le objs i; omega
    refine ab hF rfl ?_; refine gv hF (ag rfl rfl (by simp only [go_sem, ac, hbi, av, aB] <;> rfl)) ?_; refine gv hF (ae rfl rfl ((lg rfl).trans (by rw [hok]))) ?_; refine gv hF (eF rfl rfl (by exact f7 _)) ?_; refine gv hF oM ?_; refine gv hF (ag rfl rfl (by simp only [go_sem, ac, hbi, av, aB] <;> rfl)) ?_; refine gv hF (ae rfl rfl (ov rfl)) ?_; refine gv hF oM ?_; refine gv hF (ah rfl rfl rfl (by exact iO _ _ _ _ _ (by omega))) ?_; refine gv hF (aT rfl rfl rfl) ?_; refine gv hF oM ?_; refine gv hF (ag rfl rfl (by simp only [go_sem, ac, hbi, av, aB] <;> rfl)) ?_; refine gv hF (ae rfl rfl (fL rfl)) ?_; refine gv hF (ah rfl rfl rfl (by exact jw _ _ _ _ _ (by omega))) ?_; refine gv hF oM ?_; refine gv hF (ah rfl rfl rfl (by exact eK _ _ _ _ _ (by omega))) ?_; refine gv hF (ah rfl rfl rfl (oG _ _ _ _ (by kernel_rfl) (by exact (rfl : _ = false)))) ?_; refine gv hF (aT rfl rfl rfl) ?_; refine gv hF oM ?_; refine gv hF (ag rfl rfl (by simp only [go_sem, ac, hbi, av, aB] <;> rfl)) ?_; refine gv hF (ae rfl rfl (fL rfl)) ?_; refine gv hF (ah rfl rfl rfl (by exact jw _ _ _ _ _ (by omega))) ?_; refine gv hF oM ?_; refine gp hF ?_; refine gp hF ?_; refine gp hF ?_; refine gp hF ?_; refine gv hF (aT rfl rfl rfl) ?_; refine gv hF (aT rfl rfl rfl) ?_; refine SmG.nil (aa ?_); refine aR hF rfl ?_; refine Sm.skip ?_; refine aa (Sm.seq (Sm.seq ?_)); refine ab hF rfl ?_; refine gv hF (ag rfl rfl (by simp only [go_sem, ac, hbi, av, aB] <;> rfl)) ?_; refine gv hF (ae rfl rfl (fL rfl)) ?_; refine gv hF (ah rfl rfl rfl (by exact jw _ _ _ _ _ (by omega))) ?_; refine SmG.nil (aa ?_); refine aR hF rfl ?_; have hf2 : St.to F ⟨[(0, .d (.list 1 (rs.map av) false)), (2, .ref 0 0 0), (3, .ref 1 0 0), (4, .d (.v (.int .i64 safe.length))), (6, .d (.v (.int .i64 i)))], [(3, dB 1 (safe.map av)), (2, dB 33 (objs.map Ob.row)), (1, ⟨3, [[.sref 2 0 objs.length, .sref 3 0 safe.length, .d (.list 0 [] true)]]⟩), (0, ⟨3, [[.d (.list 0 [] true), .d (.list 0 [] true), .d (.list 0 [] true)]]⟩)], 5⟩ ⟨[(0, .d (.list 1 (rs.map av) false)), (2, .ref 0 0 0), (3, .ref 1 0 0), (4, .d (.v (.int .i64 safe.length))), (6, .d (.v (.int .i64 i)))], [(3, dB 1 (safe.map av)), (1, ⟨3, [[.d (.list 33 (objs.map Ob.row) false), .sref 3 0 safe.length, .d (.list 0 [] true)]]⟩), (0, ⟨3, [[.d (.list 0 [] true), .d (.list 0 [] true), .d (.list 0 [] true)]]⟩)], 5⟩ := by
     have h := fq (F := F) (st := ⟨[(0, .d (.list 1 (rs.map av) false)), (2, .ref 0 0 0), (3, .ref 1 0 0), (4, .d (.v (.int .i64 safe.length))), (6, .d (.v (.int .i64 i)))], [(3, dB 1 (safe.map av)), (2, dB 33 (objs.map Ob.row)), (1, ⟨3, [[.sref 2 0 objs.length, .sref 3 0 safe.length, .d (.list 0 [] true)]]⟩), (0, ⟨3, [[.d (.list 0 [] true), .d (.list 0 [] true), .d (.list 0 [] true)]]⟩)], 5⟩) (l := 2) (objs.map Ob.row) rfl rfl; simp only [gP, bK, dh, rJ, Bz, reduceIte, Nat.reduceEqDiff] at h; simpa [cP, bc, cu] using h
    refine Sm.to (aQ (cT (st' := ⟨[(0, .d (.list 1 (rs.map av) false)), (2, .ref 0 0 0), (3, .ref 1 0 0), (4, .d (.v (.int .i64 safe.length))), (6, .d (.v (.int .i64 i)))], [(3, dB 1 (safe.map av)), (2, dB 33 (objs.map Ob.row)), (1, ⟨3, [[.sref 2 0 objs.length, .sref 3 0 safe.length, .d (.list 0 [] true)]]⟩), (0, ⟨3, [[.d (.list 0 [] true), .d (.list 0 [] true), .d (.list 0 [] true)]]⟩)], 5⟩) (aK ⟨rfl, rfl, rfl, rfl, rfl, trivial⟩ ⟨rfl, rfl, rfl, rfl, trivial⟩ (Nat.le_refl _))) hf2) ?_; refine ab hF rfl ?_; refine gv hF (ag rfl rfl (by simp only [go_sem, ac, hbi, av, aB] <;> rfl)) ?_; refine gv hF (ae rfl rfl (by simp only [go_sem, ac, hbi, av, aB] <;> rfl)) ?_; refine gv hF oM ?_; refine SmG.callO hF rfl rfl (by kernel_rfl) rfl rfl rfl (su objs i (by omega) hi) ?_; refine gv hF (ag rfl rfl (by simp only [go_sem, ac, hbi, av, aB] <;> rfl)) ?_; refine SmG.store hF rfl rfl rfl rfl rfl (by simp only [go_sem, ac, hbi, av, aB] <;> rfl) ?_; refine SmG.nil (aa ?_); refine eQ hF (by kernel_rfl) rfl 7 (by kernel_rfl) (by kernel_rfl) ?_; simp only [List.take_succ_cons, List.take_zero, List.take_nil]; refine hv hF (ag rfl rfl (by simp only [go_sem, ac, hbi, av, aB] <;> rfl)) ?_; refine hv hF (ae rfl rfl (by simp only [go_sem, ac, hbi, av, aB] <;> rfl)) ?_; refine hv hF oM (hv hF oM ?_); refine hv hF (ak rfl rfl rfl (by simp only [go_sem, ac, hbi, av, aB] <;> rfl)) ?_; refine hv hF (ae rfl rfl (by simp only [go_sem, ac, hbi, av, aB] <;> rfl)) ?_; refine hv hF (ba rfl rfl (by simp only [go_sem, ac, hbi, av, aB] <;> rfl)) ?_; refine au.last ⟨rfl, ?_⟩; simp only [List.drop_succ_cons, List.drop_zero, List.drop_nil, List.nil_append, List.cons_append]; refine jl hF sK rfl rfl rfl rfl rfl rfl rfl (by (simp; done)) (Or.inl rfl) ?_ ?_ ?_; rotate_left; rotate_left; simp only [da, Pk.v, V.free, rep, dh, cu, mS, kJ, nC, cD, List.map_cons, List.map_nil, bne_self_eq_false, Nat.reduceAdd, Nat.reduceBNe, Nat.reduceBEq, Nat.reduceEqDiff, reduceIte, Bool.false_eq_true]
    ·have hrs2 : safe.map av ++ [[D.list 1 (b.map ai) false]] = (safe ++ [b]).map av := by simp [av, aB]
     rw [hrs2, show ((objs.eraseIdx i).map Ob.row).length = (objs.eraseIdx i).length by simp, show ((safe ++ [b]).map av).length = (safe ++ [b]).length by simp]; refine gv hF (ag rfl rfl (by simp only [go_sem, ac, hbi, av, aB] <;> rfl)) ?_; refine SmG.store hF rfl rfl rfl rfl rfl (by simp only [go_sem, ac, hbi, av, aB] <;> rfl) ?_; refine SmG.nil (aI (aa ?_)); refine Sm.to (aQ (cT (st' := ⟨[(0, .d (.list 1 (rs.map av) false)), (2, .ref 0 0 0), (3, .ref 1 0 0), (4, .d (.v (.int .i64 safe.length)))], [(3, dB 1 ((safe ++ [b]).map av)), (5, dB 33 ((objs.eraseIdx i).map Ob.row)), (1, ⟨3, [[.sref 5 0 (objs.eraseIdx i).length, .sref 3 0 (safe ++ [b]).length, .d (.list 0 [] true)]]⟩), (0, ⟨3, [[.d (.list 0 [] true), .d (.list 0 [] true), .d (.list 0 [] true)]]⟩)], 6⟩) (aK ⟨rfl, rfl, rfl, rfl, trivial⟩ ⟨rfl, rfl, rfl, rfl, trivial⟩ (Nat.le_refl _))) (IV h0 hgt)) ?_; refine ab hF rfl ?_; refine gv hF oM ?_; refine gv hF (ah rfl rfl rfl (by exact eG _ _ _ _ _ (aX _ (by omega)))) ?_; refine gv hF oA (SmG.nil (aa ?_)); have he : (safe.length : Int) + 1 = ((safe ++ [b]).length : Int) := by simp
     rw [he]; refine ⟨⟨⟨objs.eraseIdx i, safe ++ [b], []⟩, rfl, ho2, by simp; omega, ?_⟩, by simp; omega, aK ⟨rfl, rfl, rfl, rfl, trivial⟩ ⟨rfl, rfl, rfl, rfl, trivial⟩ (Nat.le_refl _)⟩; rw [heq, hdr, cE, hnext]; simp
    ·simp; omega
    ·simp; omega
 ·refine Sm.seq (Sm.seq ?_); refine ab hF rfl ?_; refine gv hF oM (gv hF oM ?_); refine gv hF (aJ rfl rfl (by simp only [go_sem, ac] <;> rfl)) ?_; refine gv hF (ah rfl rfl rfl (by exact eK _ _ _ _ _ (by omega))) ?_; refine SmG.nil (aa ?_); refine aR hF rfl ?_; refine Sm.exit ?_; simp only [a9, bQ, reduceIte, reduceCtorEq]; refine Sm.to (aQ (cT (st' := ⟨[(2, .ref 0 0 0), (3, .ref 1 0 0)], [(3, dB 1 (safe.map av)), (2, dB 33 (objs.map Ob.row)), (1, ⟨3, [[.sref 2 0 objs.length, .sref 3 0 safe.length, .d (.list 0 [] true)]]⟩), (0, ⟨3, [[.d (.list 0 [] true), .d (.list 0 [] true), .d (.list 0 [] true)]]⟩)], 4⟩) (aK ⟨rfl, rfl, trivial⟩ ⟨rfl, rfl, rfl, rfl, trivial⟩ (Nat.le_refl _))) (hfrz 4)) ?_; refine Sm.seq ?_; refine ab hF rfl ?_; refine gv hF (ae rfl rfl (cG rfl)) ?_; refine SmG.store hF rfl rfl rfl rfl rfl (fd iz rfl rfl) ?_; refine SmG.nil (aa (Sm.ret ?_)); refine cK rfl rfl (gG iz nS rfl) ?_; have : safe.length = rs.length := by omega
  rw [heq, this, List.drop_length]; exact fP ⟨D.le.refl _, D.le.refl _, ci 0 1 true, trivial⟩
end
section
open Classical in
noncomputable def eJ (a : List UInt8) : Option (Vec 32) := if a.length ≤ 1000000 then some (eX a) else none
noncomputable def iP : Con Tryd.prog HG nmS := ⟨47, [], [.lst .u8], .vec 32, fun a => eJ a, false⟩
theorem qz {a : List UInt8} {r : Vec 32} (h : eJ a = some r) : aj Tryd.prog HG 47 [.list 1 (a.map ai) false] (.agg 32 (ay r.l)) := by
 unfold eJ at h; split at h
 ·cases h; exact pZ a (by assumption) HG
 ·cases h
theorem kU : iP.Ok := ⟨fun _ a r h => qz h, fun h => by cases h⟩
noncomputable def oq : Con Tryd.prog HG nmS := ⟨15, [], [.lst (.lst .u8)], .nm 1, fun a => fQ a, false⟩
theorem vj : oq.Ok := ⟨fun _ a r h => k8 h, fun h => by cases h⟩
open Classical in
noncomputable def iZ (s : Sto) (k : UInt8) (x : List UInt8) : Option Sto := if s.safe.length ≤ 1000000 ∧ s.queue.length ≤ 1000000 ∧ x.length ≤ 100000 then some (lw s k x) else none
theorem vq {s r : Sto} {k : UInt8} {x : List UInt8} (h : iZ s k x = some r) : aj Tryd.prog HG 65 [.agg 3 (Sto.row s), .v (.int .u8 (k.toNat : Int)), .list 1 (x.map ai) false] (.agg 3 (Sto.row r)) := by
 unfold iZ at h; split at h
 ·rename_i hc; cases h; exact DM s k x hc.1 hc.2.1 hc.2.2
 ·cases h
noncomputable def ou : Con Tryd.prog HG nmS := ⟨65, [], [.nm 1, .u8, .lst .u8], .nm 1, fun a => iZ a.1 a.2.1 a.2.2, false⟩
theorem vr : ou.Ok := ⟨fun _ a r h => vq h, fun h => by cases h⟩
open Classical in
noncomputable def jK (s : Sto) (x : List UInt8) : Option (Sto × Vec 32 × Int) := if s.objects.length ≤ 1000000 ∧ s.safe.length ≤ 1000000 ∧ s.queue.length ≤ 1000000 ∧ x.length ≤ 99000 then some (dC s x) else none
theorem xi {s : Sto} {x : List UInt8} {r : Sto × Vec 32 × Int} (h : jK s x = some r) : aj Tryd.prog HG 40 [.agg 3 (Sto.row s), .list 1 (x.map ai) false] (.tup [.agg 3 (Sto.row r.1), .agg 32 (ay r.2.1.l), .v (.int .i64 r.2.2)]) := by
 unfold jK at h; split at h
 ·rename_i hc; cases h; exact Jf s x hc.1 hc.2.1 hc.2.2.1 hc.2.2.2
 ·cases h
noncomputable def qu : Con Tryd.prog HG nmS := ⟨40, [], [.nm 1, .lst .u8], .tup [.nm 1, .vec 32, .int .i64], fun a => jK a.1 a.2, false⟩
theorem xj : qu.Ok := ⟨fun _ a r h => xi h, fun h => by cases h⟩
open Classical in
noncomputable def dV (rs : List (List UInt8)) : Option Sto := if rs.length ≤ 1000000 ∧ ∀ b ∈ rs, b.length ≤ 1000000 then some (cE [] [] rs) else none
theorem pn {rs : List (List UInt8)} {r : Sto} (h : dV rs = some r) : aj Tryd.prog HG 32 [.list 1 (rs.map av) false] (.agg 3 (Sto.row r)) := by
 unfold dV at h; split at h
 ·rename_i hc; cases h; exact Fa rs hc.1 hc.2
 ·cases h
noncomputable def il : Con Tryd.prog HG nmS := ⟨32, [], [.lst (.lst .u8)], .nm 1, fun a => dV a, false⟩
theorem ky : il.Ok := ⟨fun _ a r h => pn h, fun h => by cases h⟩
noncomputable def tX : Con Tryd.prog HG nmS := ⟨14, [], [.nm 1], .bool, fun a => fr a, false⟩
theorem nz : tX.Ok := ⟨fun _ a r h => tW h, fun h => by cases h⟩
noncomputable def nv : Con Tryd.prog HG nmS := ⟨25, [], [.nm 1, .lst .bool], .nm 1, fun a => f6 a.1 a.2, false⟩
theorem kE : nv.Ok := ⟨fun _ a r h => tT h, fun h => by cases h⟩
open Classical in
noncomputable def gO (l : List Ob) (k : Vec 32) : Option Int := if l.length ≤ 4294967296 then some (cB l k.l) else none
theorem vn {l : List Ob} {k : Vec 32} {r : Int} (h : gO l k = some r) : aj Tryd.prog HG 58 [.list 33 (l.map Ob.row) false, .agg 32 (ay k.l)] (.v (.int .i64 r)) := by
 unfold gO at h; split at h
 ·cases h; exact q0 l k (by assumption)
 ·cases h
noncomputable def k9 : Con Tryd.prog HG nmS := ⟨58, [], [.lst (.nm 0), .vec 32], .int .i64, fun a => gO a.1 a.2, false⟩
theorem ot : k9.Ok := ⟨fun _ a r h => vn h, fun h => by cases h⟩
noncomputable def ma : Con Tryd.prog HG nmS := ⟨59, [], [.lst (.nm 0), .int .i64], .lst (.nm 0), fun a => ey a.1 a.2, false⟩
theorem r7 : ma.Ok := ⟨fun _ a r h => lZ h, fun h => by cases h⟩
open Classical in
noncomputable def cR (n : Int) (x : List UInt8) : Option (List UInt8) := if 0 ≤ n ∧ x.length ≤ 100000 then some (iu n.toNat x) else none
theorem mc {n : Int} {x r : List UInt8} (h : cR n x = some r) : aj Tryd.prog HG 50 [.v (.int .i64 n), .list 1 (x.map ai) false] (.list 1 (r.map ai) false) := by
 unfold cR at h; split at h
 ·rename_i hc; cases h; have := Aa n.toNat x hc.2; rwa [Int.toNat_of_nonneg hc.1] at this
 ·cases h
noncomputable def iT : Con Tryd.prog HG nmS := ⟨50, [], [.int .i64, .lst .u8], .lst .u8, fun a => cR a.1 a.2, false⟩
theorem me : iT.Ok := ⟨fun _ a r h => mc h, fun h => by cases h⟩
open Classical in
noncomputable def cN (n : Int) (k : Vec 32) : Option (List UInt8) := if 0 ≤ n then some (m7 n.toNat k.l) else none
theorem lT {n : Int} {k : Vec 32} {r : List UInt8} (h : cN n k = some r) : aj Tryd.prog HG 78 [.v (.int .i64 n), .agg 32 (ay k.l)] (.list 1 (r.map ai) false) := by
 unfold cN at h; split at h
 ·rename_i hc; cases h; have := yg n.toNat k; rwa [Int.toNat_of_nonneg hc] at this
 ·cases h
noncomputable def iF : Con Tryd.prog HG nmS := ⟨78, [], [.int .i64, .vec 32], .lst .u8, fun a => cN a.1 a.2, false⟩
theorem lU : iF.Ok := ⟨fun _ a r h => lT h, fun h => by cases h⟩
end
section
noncomputable def fK : Con Tryd.prog HG nmS := ⟨33, [], [.lst (.lst (.lst .u8))], .lst (.lst .u8), fun a => bj a, false⟩
theorem jI : fK.Ok := ⟨fun _ a r h => jH h, fun h => by cases h⟩
noncomputable def sf : Option Sto :=
 some (⟨[], [], []⟩ : Sto)
theorem xg (a : Unit) : ft (cfA [] Tryd.f11.ntmps []) [] Tryd.f11 [] [] (.nm 1) (.e) a = sf := by kernel_rfl
noncomputable def xf : Con Tryd.prog HG nmS := ⟨11, [], [], (.nm 1), fun a => sf, false⟩
theorem xh : xf.Ok := gz .nil xg Tryd.func11 rfl
noncomputable def jJ (a0 : Sto) (a1 : Vec 32) : Option (List UInt8 × Int) :=
 ob (gO a0.objects a1) fun x1 =>
 bif (decide (x1 < 0)) then (
  some ([], 331)
 ) else (
  ob (idx a0.objects x1) fun x3 =>
  some (x3.data, 0)
 )
theorem xd (a : Sto × (Vec 32)) : ft (cfA [k9] Tryd.f44.ntmps [2, 3]) [] Tryd.f44 [] [(.nm 1), (.vec 32)] (.pair (.lst .u8) (.int .i64)) (.nj (.br .e .e)) a = jJ a.1 a.2 := by kernel_rfl
noncomputable def qt : Con Tryd.prog HG nmS := ⟨44, [], [(.nm 1), (.vec 32)], (.pair (.lst .u8) (.int .i64)), fun a => jJ a.1 a.2, false⟩
theorem xe : qt.Ok := gz (.cons ot .nil) xd Tryd.func44 rfl
noncomputable def iH (a0 : Sto) (a1 : Vec 32) : Option (Sto × Int) :=
 ob (gO a0.objects a1) fun x1 =>
 bif (decide (x1 < 0)) then (
  some (a0, 331)
 ) else (
  ob (iZ a0 (68 : UInt8) a1.l) fun x3 =>
  ob (ey x3.objects x1) fun x4 =>
  some ((⟨x4, x3.safe, x3.queue⟩ : Sto), 0)
 )
theorem tU (a : Sto × (Vec 32)) : ft (cfA [k9, ou, ma] Tryd.f45.ntmps [3]) [] Tryd.f45 [] [(.nm 1), (.vec 32)] (.pair (.nm 1) (.int .i64)) (.nj (.br .e (.seg 2 .e))) a = iH a.1 a.2 := by kernel_rfl
noncomputable def nw : Con Tryd.prog HG nmS := ⟨45, [], [(.nm 1), (.vec 32)], (.pair (.nm 1) (.int .i64)), fun a => iH a.1 a.2, false⟩
theorem tV : nw.Ok := gz (.cons ot (.cons vr (.cons r7 .nil))) tU Tryd.func45 rfl
noncomputable def cZ (a0 : Sto) : Option (List (List UInt8)) :=
 ob (app ([] : List (List UInt8)) a0.safe) fun x1 =>
 ob (app x1 a0.queue) fun x2 =>
 some x2
theorem qA (a : Sto) : ft (cfA [] Tryd.f16.ntmps [1]) [(7, 2)] Tryd.f16 [] [(.nm 1)] (.lst (.lst .u8)) (.e) a = cZ a := by kernel_rfl
noncomputable def fX : Con Tryd.prog HG nmS := ⟨16, [], [(.nm 1)], (.lst (.lst .u8)), fun a => cZ a, false⟩
theorem iQ : fX.Ok := gz .nil qA Tryd.func16 rfl
noncomputable def gL (a0 : List Ob) (a1 : List Ob) (s2 : Int) : Option (Int ⊕ (Unit ⊕ Bool)) :=
 bif (decide (s2 < (a0.length : Int))) then (
  ob (idx a0 s2) fun x7 =>
  ob (idx a1 s2) fun x8 =>
  bif (!(x7.sum.l == x8.sum.l)) then (
   some (.inr (.inr false))
  ) else (
   ob (idx a0 s2) fun x10 =>
   ob (idx a1 s2) fun x11 =>
   bif (!(x10.data == x11.data)) then (
    some (.inr (.inr false))
   ) else (
    ob (arI .i64 (s2 + 1)) fun x13 =>
    some (.inl x13)
   )
  )
 ) else (
  some (.inr (.inl ()))
 )
noncomputable def bX (a0 : List Ob) (a1 : List Ob) : Option Bool :=
 bif ((a0.length : Int) != (a1.length : Int)) then (
  some false
 ) else (
  ob ((
   cH (gL a0 a1) 0
   : Option (Unit ⊕ Bool))) fun o15 => match o15 with
  | .inl v14 => (
   some true
   )
  | .inr e16 => some e16
 )
theorem lF (a : (List Ob) × (List Ob)) : ft (cfA [] Tryd.f17.ntmps []) [] Tryd.f17 [] [(.lst (.nm 0)), (.lst (.nm 0))] .bool (.nj (.br .e (.jn ⟨[], [], [], [], [], [], 0⟩ true (.lp [] ⟨[0, 1], [], [], [(5, (.int .i64))], [], [], 0⟩ (.nj (.br (.nj (.seg 24 (.br .e (.br .e .e)))) .e))) .e))) a = bX a.1 a.2 := by kernel_rfl
noncomputable def fb : Con Tryd.prog HG nmS := ⟨17, [], [(.lst (.nm 0)), (.lst (.nm 0))], .bool, fun a => bX a.1 a.2, false⟩
theorem gZ : fb.Ok := gz .nil lF Tryd.func17 rfl
noncomputable def gM (a0 : List (List UInt8)) (a1 : List (List UInt8)) (s2 : Int) : Option (Int ⊕ (Unit ⊕ Bool)) :=
 bif (decide (s2 < (a0.length : Int))) then (
  ob (idx a0 s2) fun x7 =>
  ob (idx a1 s2) fun x8 =>
  bif (!(x7 == x8)) then (
   some (.inr (.inr false))
  ) else (
   ob (arI .i64 (s2 + 1)) fun x10 =>
   some (.inl x10)
  )
 ) else (
  some (.inr (.inl ()))
 )
noncomputable def bY (a0 : List (List UInt8)) (a1 : List (List UInt8)) : Option Bool :=
 bif ((a0.length : Int) != (a1.length : Int)) then (
  some false
 ) else (
  ob ((
   cH (gM a0 a1) 0
   : Option (Unit ⊕ Bool))) fun o12 => match o12 with
  | .inl v11 => (
   some true
   )
  | .inr e13 => some e13
 )
theorem lG (a : (List (List UInt8)) × (List (List UInt8))) : ft (cfA [] Tryd.f18.ntmps []) [] Tryd.f18 [] [(.lst (.lst .u8)), (.lst (.lst .u8))] .bool (.nj (.br .e (.jn ⟨[], [], [], [], [], [], 0⟩ true (.lp [] ⟨[0, 1], [], [], [(5, (.int .i64))], [], [], 0⟩ (.nj (.br (.nj (.seg 10 (.br .e .e))) .e))) .e))) a = bY a.1 a.2 := by kernel_rfl
noncomputable def hO : Con Tryd.prog HG nmS := ⟨18, [], [(.lst (.lst .u8)), (.lst (.lst .u8))], .bool, fun a => bY a.1 a.2, false⟩
theorem lH : hO.Ok := gz .nil lG Tryd.func18 rfl
noncomputable def dY (a0 : Sto) (a1 : Sto) : Option Bool :=
 ob (bX a0.objects a1.objects) fun x1 =>
 bif x1 then (
  ob (bY a0.safe a1.safe) fun x3 =>
  bif x3 then (
   ob (bY a0.queue a1.queue) fun x5 =>
   some x5
  ) else (
   some false
  )
 ) else (
  some false
 )
theorem pt (a : Sto × Sto) : ft (cfA [fb, hO] Tryd.f26.ntmps [2, 3]) [] Tryd.f26 [] [(.nm 1), (.nm 1)] .bool (.br (.br .e .e) .e) a = dY a.1 a.2 := by kernel_rfl
noncomputable def io : Con Tryd.prog HG nmS := ⟨26, [], [(.nm 1), (.nm 1)], .bool, fun a => dY a.1 a.2, false⟩
theorem kB : io.Ok := gz (.cons gZ (.cons lH .nil)) pt Tryd.func26 rfl
noncomputable def iY (a0 : Sto) : Option Sto :=
 ob (bj [a0.safe, a0.queue]) fun x1 =>
 some (⟨a0.objects, x1, []⟩ : Sto)
theorem vl (a : Sto) : ft (cfA [fK] Tryd.f27.ntmps [1]) [] Tryd.f27 [] [(.nm 1)] (.nm 1) (.seg 8 .e) a = iY a := by kernel_rfl
noncomputable def vk : Con Tryd.prog HG nmS := ⟨27, [], [(.nm 1)], (.nm 1), fun a => iY a, false⟩
theorem vm : vk.Ok := gz (.cons jI .nil) vl Tryd.func27 rfl
noncomputable def dt (a0 : Sto) (a1 : List UInt8) : Option Sto :=
 ob (app ([] : List (List UInt8)) a0.queue) fun x1 =>
 ob (app x1 [a1]) fun x2 =>
 some (⟨a0.objects, a0.safe, x2⟩ : Sto)
theorem n5 (a : Sto × (List UInt8)) : ft (cfA [] Tryd.f49.ntmps []) [(9, 2)] Tryd.f49 [] [(.nm 1), (.lst .u8)] (.nm 1) (.e) a = dt a.1 a.2 := by kernel_rfl
noncomputable def gu : Con Tryd.prog HG nmS := ⟨49, [], [(.nm 1), (.lst .u8)], (.nm 1), fun a => dt a.1 a.2, false⟩
theorem jF : gu.Ok := gz .nil n5 Tryd.func49 rfl
noncomputable def dZ (a0 : Sto) : Option Sto :=
 ob (cZ a0) fun x1 =>
 some (⟨a0.objects, x1, []⟩ : Sto)
theorem pw (a : Sto) : ft (cfA [fX] Tryd.f63.ntmps [1]) [] Tryd.f63 [] [(.nm 1)] (.nm 1) (.seg 4 .e) a = dZ a := by kernel_rfl
noncomputable def kD : Con Tryd.prog HG nmS := ⟨63, [], [(.nm 1)], (.nm 1), fun a => dZ a, false⟩
theorem pz : kD.Ok := gz (.cons iQ .nil) pw Tryd.func63 rfl
noncomputable def dM (a0 : Sto) (a1 : List Bool) (s2 : (Int × (List (List UInt8)))) : Option ((Int × (List (List UInt8))) ⊕ List (List UInt8)) :=
 bif (decide (s2.1 < (a0.queue.length : Int))) then (
  bif (decide (s2.1 < (a1.length : Int))) then (
   ob ((
    ob (idx a1 s2.1) fun x8 =>
    bif x8 then (
     ob (idx a0.queue s2.1) fun x10 =>
     ob (app s2.2 [x10]) fun x11 =>
     some x11
    ) else (
     some s2.2
    )
    : Option (List (List UInt8)))) fun v12 =>
   ob (arI .i64 (s2.1 + 1)) fun x13 =>
   some (.inl (x13, v12))
  ) else (
   some (.inr s2.2)
  )
 ) else (
  some (.inr s2.2)
 )
noncomputable def eL (a0 : Sto) (a1 : List Bool) : Option Sto :=
 ob (app ([] : List (List UInt8)) a0.safe) fun x1 =>
 ob ((
  cH (dM a0 a1) (0, x1)
  : Option (List (List UInt8)))) fun v14 =>
 ob (dV v14) fun x15 =>
 some x15
theorem og (a : Sto × (List Bool)) : ft (cfA [il] Tryd.f64.ntmps [2]) [(10, 2)] Tryd.f64 [] [(.nm 1), (.lst .bool)] (.nm 1) (.jn ⟨[4], [(5, 1)], [0], [], [(1, (.lst .u8))], [], 2⟩ false (.lp [] ⟨[1, 2, 4], [(5, 1)], [0], [(6, (.int .i64))], [(1, (.lst .u8))], [], 2⟩ (.nj (.br (.br (.jn ⟨[1, 2, 4, 6, 17, 18, 19, 20], [(5, 1)], [0], [], [(1, (.lst .u8))], [], 2⟩ false (.br .e .e) .e) .e) .e))) .e) a = eL a.1 a.2 := by kernel_rfl
noncomputable def ke : Con Tryd.prog HG nmS := ⟨64, [], [(.nm 1), (.lst .bool)], (.nm 1), fun a => eL a.1 a.2, false⟩
theorem oh : ke.Ok := gz (.cons ky .nil) og Tryd.func64 rfl
noncomputable def eN (a0 : Sto) : Option Bool :=
 ob (cZ a0) fun x1 =>
 ob (dV x1) fun x2 =>
 bif ((x2.safe.length : Int) == (x1.length : Int)) then (
  ob (bX x2.objects a0.objects) fun x4 =>
  some x4
 ) else (
  some false
 )
theorem oo (a : Sto) : ft (cfA [fX, il, fb] Tryd.f13.ntmps [1]) [] Tryd.f13 [] [(.nm 1)] .bool (.br .e .e) a = eN a := by kernel_rfl
noncomputable def kg : Con Tryd.prog HG nmS := ⟨13, [], [(.nm 1)], .bool, fun a => eN a, false⟩
theorem fm : kg.Ok := gz (.cons iQ (.cons ky (.cons gZ .nil))) oo Tryd.func13 rfl
noncomputable def eu (a0 : Sto) (a1 : List UInt8) : Option Std :=
 ob (jK a0 a1) fun x1 =>
 some (⟨x1.1, x1.2.1, x1.2.2⟩ : Std)
theorem nZ (a : Sto × (List UInt8)) : ft (cfA [qu] Tryd.f20.ntmps [2]) [] Tryd.f20 [] [(.nm 1), (.lst .u8)] (.nm 4) (.e) a = eu a.1 a.2 := by kernel_rfl
noncomputable def nY : Con Tryd.prog HG nmS := ⟨20, [], [(.nm 1), (.lst .u8)], (.nm 4), fun a => eu a.1 a.2, false⟩
theorem e6 : nY.Ok := gz (.cons xj .nil) nZ Tryd.func20 rfl
noncomputable def fk (a0 : Sto) (a1 : Vec 32) : Option Std :=
 ob (iH a0 a1) fun x1 =>
 some (⟨x1.1, (⟨List.replicate 32 0, rfl⟩ : Vec 32), x1.2⟩ : Std)
theorem nb (a : Sto × (Vec 32)) : ft (cfA [nw] Tryd.f23.ntmps [2, 3]) [] Tryd.f23 [] [(.nm 1), (.vec 32)] (.nm 4) (.e) a = fk a.1 a.2 := by kernel_rfl
noncomputable def na : Con Tryd.prog HG nmS := ⟨23, [], [(.nm 1), (.vec 32)], (.nm 4), fun a => fk a.1 a.2, false⟩
theorem nc : na.Ok := gz (.cons tV .nil) nb Tryd.func23 rfl
noncomputable def eI (a0 : Sto) (a1 : Vec 32) : Option Gott :=
 ob (jJ a0 a1) fun x1 =>
 some (⟨x1.1, x1.2⟩ : Gott)
theorem qy (a : Sto × (Vec 32)) : ft (cfA [qt] Tryd.f22.ntmps [2, 3]) [] Tryd.f22 [] [(.nm 1), (.vec 32)] (.nm 5) (.e) a = eI a.1 a.2 := by kernel_rfl
noncomputable def qx : Con Tryd.prog HG nmS := ⟨22, [], [(.nm 1), (.vec 32)], (.nm 5), fun a => eI a.1 a.2, false⟩
theorem kT : qx.Ok := gz (.cons xe .nil) qy Tryd.func22 rfl
noncomputable def er (a0 : Std) (a1 : Std) : Option Bool :=
 ob (dY a0.s a1.s) fun x1 =>
 bif x1 then (
  bif (a0.k.l == a1.k.l) then (
   some (a0.e == a1.e)
  ) else (
   some false
  )
 ) else (
  some false
 )
theorem lQ (a : Std × Std) : ft (cfA [io] Tryd.f29.ntmps [2, 3]) [] Tryd.f29 [] [(.nm 4), (.nm 4)] .bool (.br (.br .e .e) .e) a = er a.1 a.2 := by kernel_rfl
noncomputable def lP : Con Tryd.prog HG nmS := ⟨29, [], [(.nm 4), (.nm 4)], .bool, fun a => er a.1 a.2, false⟩
theorem lS : lP.Ok := gz (.cons kB .nil) lQ Tryd.func29 rfl
end
section
open Classical in
noncomputable def kX (l : List Ob) (k : Vec 32) : Option Int := if l.length ≤ 4294967296 then some (cB l k.l) else none
theorem BF {l : List Ob} {k : Vec 32} {r : Int} (h : kX l k = some r) : aj Tryd.prog HG 30 [.list 33 (l.map Ob.row) false, .agg 32 (ay k.l)] (.v (.int .i64 r)) := by
 unfold kX at h; split at h
 ·cases h; exact yw l k (by assumption)
 ·cases h
noncomputable def ik : Con Tryd.prog HG nmS := ⟨30, [], [.lst (.nm 0), .vec 32], .int .i64, fun a => kX a.1 a.2, false⟩
theorem kx : ik.Ok := ⟨fun _ a r h => BF h, fun h => by cases h⟩
open Classical in
noncomputable def jD (l : List Ob) (i : Int) : Option (List Ob) := if l.length ≤ 1000000 ∧ 0 ≤ i ∧ i < (l.length : Int) then some (l.eraseIdx i.toNat) else none
theorem xb {l r : List Ob} {i : Int} (h : jD l i = some r) : aj Tryd.prog HG 51 [.list 33 (l.map Ob.row) false, .v (.int .i64 i)] (.list 33 (r.map Ob.row) false) := by
 unfold jD at h; split at h
 ·rename_i hc; cases h; have := (su l i.toNat hc.1 (by omega)).data; rwa [Int.toNat_of_nonneg hc.2.1] at this
 ·cases h
noncomputable def jy : Con Tryd.prog HG nmS := ⟨51, [], [.lst (.nm 0), .int .i64], .lst (.nm 0), fun a => jD a.1 a.2, false⟩
theorem ng : jy.Ok := ⟨fun _ a r h => xb h, fun h => by cases h⟩
noncomputable def fB (a0 : Sto) (a1 : List UInt8) : Option Std :=
 bif (decide (65536 < (a1.length : Int))) then (
  some (⟨a0, (⟨List.replicate 32 0, rfl⟩ : Vec 32), 2⟩ : Std)
 ) else (
  ob (eJ a1) fun x2 =>
  ob (kX a0.objects x2) fun x3 =>
  bif (decide (0 ≤ x3)) then (
   some (⟨a0, x2, 0⟩ : Std)
  ) else (
   bif (decide (256 ≤ (a0.objects.length : Int))) then (
    some (⟨a0, (⟨List.replicate 32 0, rfl⟩ : Vec 32), 330⟩ : Std)
   ) else (
    ob (app ([] : List Ob) a0.objects) fun x6 =>
    ob (arI .i64 ((a0.safe.length : Int) + (a0.queue.length : Int))) fun x7 =>
    ob (cR x7 a1) fun x8 =>
    ob (dt a0 x8) fun x9 =>
    ob (app ([] : List UInt8) a1) fun x10 =>
    ob (app x6 [(⟨x2, x10⟩ : Ob)]) fun x11 =>
    some (⟨(⟨x11, x9.safe, x9.queue⟩ : Sto), x2, 0⟩ : Std)
   )
  )
 )
theorem qB (a : Sto × (List UInt8)) : ft (cfA [iP, ik, iT, gu] Tryd.f31.ntmps []) [(31, 2)] Tryd.f31 [] [(.nm 1), (.lst .u8)] (.nm 4) (.nj (.br .e (.nj (.br .e (.nj (.br .e (.seg 10 (.seg 7 .e)))))))) a = fB a.1 a.2 := by kernel_rfl
noncomputable def kV : Con Tryd.prog HG nmS := ⟨31, [], [(.nm 1), (.lst .u8)], (.nm 4), fun a => fB a.1 a.2, false⟩
theorem qC : kV.Ok := gz (.cons kU (.cons kx (.cons me (.cons jF .nil)))) qB Tryd.func31 rfl
noncomputable def eM (a0 : Sto) (a1 : Vec 32) : Option Std :=
 ob (kX a0.objects a1) fun x1 =>
 bif (decide (x1 < 0)) then (
  some (⟨a0, (⟨List.replicate 32 0, rfl⟩ : Vec 32), 331⟩ : Std)
 ) else (
  ob (arI .i64 ((a0.safe.length : Int) + (a0.queue.length : Int))) fun x3 =>
  ob (cN x3 a1) fun x4 =>
  ob (dt a0 x4) fun x5 =>
  ob (jD x5.objects x1) fun x6 =>
  some (⟨(⟨x6, x5.safe, x5.queue⟩ : Sto), (⟨List.replicate 32 0, rfl⟩ : Vec 32), 0⟩ : Std)
 )
theorem ol (a : Sto × (Vec 32)) : ft (cfA [ik, iF, gu, jy] Tryd.f62.ntmps [3]) [] Tryd.f62 [] [(.nm 1), (.vec 32)] (.nm 4) (.nj (.br .e (.seg 10 .e))) a = eM a.1 a.2 := by kernel_rfl
noncomputable def kf : Con Tryd.prog HG nmS := ⟨62, [], [(.nm 1), (.vec 32)], (.nm 4), fun a => eM a.1 a.2, false⟩
theorem om : kf.Ok := gz (.cons kx (.cons lU (.cons jF (.cons ng .nil)))) ol Tryd.func62 rfl
noncomputable def fc (a0 : Sto) (a1 : SRaw) : Option Sto :=
 ob (slc a1.data 0 (min (a1.data.length : Int) 40)) fun x1 =>
 ob (rt (a1.kind.toNat : Int) 8) fun x2 =>
 ob ((
  bif (x2 == 0) then (
   some (x2 == 0)
  ) else (
   bif (x2 == 1) then (
    some (x2 == 1)
   ) else (
    bif (x2 == 2) then (
     some (x2 == 2)
    ) else (
     some (x2 == 3)
    )
   )
  )
  : Option Bool)) fun v6 =>
 bif v6 then (
  ob (fB a0 x1) fun x8 =>
  some x8.s
 ) else (
  ob ((
   bif (x2 == 4) then (
    some (x2 == 4)
   ) else (
    some (x2 == 5)
   )
   : Option Bool)) fun v10 =>
  bif v10 then (
   ob (eJ x1) fun x12 =>
   ob (eM a0 x12) fun x13 =>
   some x13.s
  ) else (
   bif (x2 == 6) then (
    ob (dZ a0) fun x15 =>
    some x15
   ) else (
    ob (eL a0 a1.keep) fun x16 =>
    some x16
   )
  )
 )
theorem pu (a : Sto × SRaw) : ft (cfA [kV, iP, kf, kD, ke] Tryd.f39.ntmps [2, 3]) [] Tryd.f39 [] [(.nm 1), (.nm 2)] (.nm 1) (.nj (.jn ⟨[2, 3, 4, 5, 15], [], [0], [(16, .bool)], [], [], 1⟩ false (.br .e (.br .e (.br .e .e))) (.br .e (.jn ⟨[2, 3, 4, 5, 15], [], [0], [(25, .bool)], [], [], 1⟩ false (.br .e .e) (.br (.seg 3 .e) (.br .e .e)))))) a = fc a.1 a.2 := by kernel_rfl
noncomputable def kC : Con Tryd.prog HG nmS := ⟨39, [], [(.nm 1), (.nm 2)], (.nm 1), fun a => fc a.1 a.2, false⟩
theorem pv : kC.Ok := gz (.cons qC (.cons kU (.cons om (.cons pz (.cons oh .nil))))) pu Tryd.func39 rfl
noncomputable def dX (a0 : List SRaw) (a1 : Int) (s1 : (Int × (List Ob) × (List (List UInt8)) × (List (List UInt8)))) : Option ((Int × (List Ob) × (List (List UInt8)) × (List (List UInt8))) ⊕ ((List Ob) × (List (List UInt8)) × (List (List UInt8)))) :=
 bif (decide (s1.1 < (a0.length : Int))) then (
  bif (decide (s1.1 < a1)) then (
   ob (idx a0 s1.1) fun x7 =>
   ob (fc (⟨s1.2.1, s1.2.2.1, s1.2.2.2⟩ : Sto) x7) fun x8 =>
   ob (arI .i64 (s1.1 + 1)) fun x9 =>
   some (.inl (x9, x8.objects, x8.safe, x8.queue))
  ) else (
   some (.inr (s1.2.1, s1.2.2.1, s1.2.2.2))
  )
 ) else (
  some (.inr (s1.2.1, s1.2.2.1, s1.2.2.2))
 )
noncomputable def fa (a0 : List SRaw) (a1 : Int) : Option Sto :=
 ob ((
  cH (dX a0 a1) (0, [], [], [])
  : Option ((List Ob) × (List (List UInt8)) × (List (List UInt8))))) fun v10 =>
 some (⟨v10.1, v10.2.1, v10.2.2⟩ : Sto)
theorem pp (a : (List SRaw) × Int) : ft (cfA [kC] Tryd.f19.ntmps []) [] Tryd.f19 [] [(.lst (.nm 2)), (.int .i64)] (.nm 1) (.jn ⟨[4, 5], [], [0], [], [], [(1, [some (.lst (.nm 0)), some (.lst (.lst .u8)), some (.lst (.lst .u8))])], 2⟩ false (.lp [] ⟨[0, 1, 4, 5], [], [0], [(6, (.int .i64))], [], [(1, [some (.lst (.nm 0)), some (.lst (.lst .u8)), some (.lst (.lst .u8))])], 2⟩ (.nj (.br (.br (.nj (.seg 5 .e)) .e) .e))) .e) a = fa a.1 a.2 := by kernel_rfl
noncomputable def kz : Con Tryd.prog HG nmS := ⟨19, [], [(.lst (.nm 2)), (.int .i64)], (.nm 1), fun a => fa a.1 a.2, false⟩
theorem pq : kz.Ok := gz (.cons pv .nil) pp Tryd.func19 rfl
end
section
theorem u9 {n : Nat} (h : n < 4294967296) : be (bE n) = n := by
 simp only [bE, be, List.foldl_cons, List.foldl_nil, UInt8.toNat_ofNat']; omega
theorem m4 (n : Nat) : (bE n).length = 4 := rfl
theorem Ae (x : List UInt8) : (x ++ Sha.sum x).take ((x ++ Sha.sum x).length - 32) = x := by
 have : (Sha.sum x).length = 32 := Sha.out_length _; rw [List.length_append, this, Nat.add_sub_cancel, List.take_left']; rfl
theorem Ad (x : List UInt8) : (x ++ Sha.sum x).drop ((x ++ Sha.sum x).length - 32) = Sha.sum x := by
 have : (Sha.sum x).length = 32 := Sha.out_length _; rw [List.length_append, this, Nat.add_sub_cancel, List.drop_left']; rfl
theorem qq (o : List Ob) (n : Nat) (x : List UInt8) : bg o n (x ++ Sha.sum x) = qM o n x := by
 have h32 : (Sha.sum x).length = 32 := Sha.out_length _; unfold bg; rw [if_neg (by simp [h32]), Ae, Ad, if_neg (by simp)]
theorem Bj {o : List Ob} {n : Nat} {x : List UInt8} (hn : n < 4294967296) (hx : x.length ≤ 65536) (hf : aY o (Sha.sum x) = none) (ho : o.length < 256) : bg o n (iu n x) = some (o ++ [⟨eX x, x⟩]) := by
 unfold iu; rw [qq, ek]; have h4 := m4 n; have h4' := m4 x.length; have e1 : (bE n ++ bE x.length ++ x).take 4 = bE n := by rw [List.append_assoc, List.take_left' h4]
 have e2 : (bE n ++ bE x.length ++ x).drop 4 = bE x.length ++ x := by rw [List.append_assoc, List.drop_left' h4]
 rw [if_neg (by simp [h4]), e1, e2, u9 hn, if_neg (by simp)]; unfold f9; have e3 : (bE x.length ++ x).take 4 = bE x.length := List.take_left' h4'; have e4 : (bE x.length ++ x).drop 4 = x := List.drop_left' h4'; rw [if_pos (by decide), e3, e4, u9 (by omega), if_neg (by simp [h4'])]; unfold gr; rw [if_neg (by simp), List.take_length, if_pos ⟨hx, hf, ho⟩]
theorem zF {o : List Ob} {n i : Nat} {k : List UInt8} (hn : n < 4294967296) (hk : k.length = 32) (hf : aY o k = some i) : bg o n (m7 n k) = some (o.eraseIdx i) := by
 unfold m7; rw [qq, ek]; have h4 := m4 n; have e1 : (bE n ++ k).take 4 = bE n := List.take_left' h4; have e2 : (bE n ++ k).drop 4 = k := List.drop_left' h4; rw [if_neg (by simp [h4]), e1, e2, u9 hn, if_neg (by simp)]; unfold f9; rw [if_neg (by decide), if_pos (by decide), if_neg (by omega)]; unfold fI; rw [if_neg (by simp [hk]), List.take_of_length_le (by omega), hf]
theorem tF {o o' o2 o2' : List Ob} {n m : Nat} {b : List UInt8} (h : bg o n b = some o') (k : bg o2 m b = some o2') : n = m := by
 unfold bg at h k; split at h
 ·cases h
 split at h
 ·cases h
 rw [if_neg (by assumption), if_neg (by assumption)] at k; generalize b.take (b.length - 32) = B at h k; cases B with
 | nil => cases h
 | cons c r =>
  rw [ek] at h k; split at h
  ·cases h
  split at h
  ·cases h
  rename_i h1 h2; rw [if_neg h1] at k; split at k
  ·cases k
  rename_i h3; simp only [ne_eq, Decidable.not_not] at h2 h3; rw [← h2, ← h3]
def f3 (o : List Ob) (n : Nat) : List (List UInt8) → Option (List Ob)
 | [] => some o
 | b :: r => (bg o n b).bind fun o' => f3 o' (n + 1) r
theorem si (o : List Ob) (n : Nat) (a b : List (List UInt8)) : f3 o n (a ++ b) = (f3 o n a).bind fun o' => f3 o' (n + a.length) b := by
 induction a generalizing o n with
 | nil => rfl
 | cons x r ih =>
  simp only [List.cons_append, f3, List.length_cons]; cases bg o n x with
  | none => rfl
  | some o' =>
   simp only [Option.bind_some, ih]; rw [show n + 1 + r.length = n + (r.length + 1) by omega]
theorem wz (o : List Ob) (n : Nat) (a : List (List UInt8)) (b : List UInt8) {o' : List Ob} (h : f3 o n a = some o') : f3 o n (a ++ [b]) = bg o' (n + a.length) b := by
 rw [si, h]; simp only [Option.bind_some, f3]; cases bg o' (n + a.length) b <;> rfl
theorem pR : ∀ {l : List (List UInt8)} {o o' : List Ob} {s : List (List UInt8)}, f3 o s.length l = some o' → cE o s l = ⟨o', s ++ l, []⟩
 | [], o, o', s, h => by cases h; simp [cE]
 | b :: r, o, o', s, h => by
  simp only [f3] at h; cases hb : bg o s.length b with
  | none => rw [hb] at h; cases h
  | some o1 =>
   rw [hb] at h; simp only [Option.bind_some] at h; rw [cE, hb]; simp only; rw [pR (s := s ++ [b]) (by simpa using h)]; simp
theorem B4 {a r : List (List UInt8)} {b : List UInt8} : ∀ {o o' : List Ob} {s : List (List UInt8)}, f3 o s.length a = some o' → bg o' (s.length + a.length) b = none → cE o s (a ++ b :: r) = ⟨o', s ++ a, []⟩ := by
 induction a with
 | nil =>
  intro o o' s h k; cases h; simp only [List.nil_append, cE, List.append_nil]; simp only [List.length_nil, Nat.add_zero] at k; rw [k]
 | cons x t ih =>
  intro o o' s h k; simp only [f3] at h; cases hb : bg o s.length x with
  | none => rw [hb] at h; cases h
  | some o1 =>
   rw [hb] at h; simp only [Option.bind_some] at h; simp only [List.cons_append, cE, hb]; rw [ih (s := s ++ [x]) (by simpa using h) (by simp only [List.length_append, List.length_cons, List.length_nil] at k ⊢; rw [← k]; congr 1; omega)]; simp
theorem rj : ∀ (l : List (List UInt8)) (o : List Ob) (s : List (List UInt8)), ∃ (a : List (List UInt8)) (o' : List Ob), a <+: l ∧ f3 o s.length a = some o' ∧ cE o s l = ⟨o', s ++ a, []⟩
 | [], o, s => ⟨[], o, List.prefix_refl _, rfl, by simp [cE]⟩
 | b :: r, o, s => by
  rw [cE]; cases hb : bg o s.length b with
  | none => exact ⟨[], o, List.nil_prefix, rfl, by simp⟩
  | some o1 =>
   obtain ⟨a, o', h1, h2, h3⟩ := rj r o1 (s ++ [b]); refine ⟨b :: a, o', by rw [List.cons_prefix_cons]; exact ⟨rfl, h1⟩, ?_, by simp only [h3]; simp⟩; simp only [f3, hb, Option.bind_some]; simpa using h2
theorem q6 {l : List (List UInt8)} {o o' : List Ob} {n : Nat} (h : f3 o n l = some o') (k : Nat) : ∃ o1, f3 o n (l.take k) = some o1 := by
 rw [← List.take_append_drop k l, si] at h; cases hq : f3 o n (l.take k) with
 | none => rw [hq] at h; cases h
 | some o1 => exact ⟨o1, rfl⟩
theorem Aw {l : List (List UInt8)} {o o' : List Ob} {n i : Nat} {b : List UInt8} (h : f3 o n l = some o') (hi : l[i]? = some b) : ∃ o1 o2, f3 o n (l.take i) = some o1 ∧ bg o1 (n + i) b = some o2 := by
 obtain ⟨o1, h1⟩ := q6 h i; obtain ⟨o2, h2⟩ := q6 h (i + 1); have hl := (List.getElem?_eq_some_iff.1 hi).1; rw [List.take_add_one, hi] at h2; simp only [Option.toList_some] at h2; rw [wz _ _ _ _ h1, List.length_take, Nat.min_eq_left (by omega)] at h2; exact ⟨o1, o2, h1, h2⟩
def cF (s : Sto) : List (List UInt8) := s.safe ++ s.queue
def nk (s : Sto) : Prop := f3 [] 0 (cF s) = some s.objects
theorem nk.open {s : Sto} (h : nk s) : cE [] [] (cF s) = ⟨s.objects, cF s, []⟩ := by
 have := pR (s := []) (l := cF s) (o := []) h; simpa using this
theorem Dn (l : List (List UInt8)) : nk (cE [] [] l) := by
 obtain ⟨a, o', h1, h2, h3⟩ := rj l [] []; rw [h3]; simpa [nk, cF] using h2
structure ObsOk (m : Nat) (o : List Ob) : Prop where
 sum : ∀ x ∈ o, x.sum.l = Sha.sum x.data
 len : ∀ x ∈ o, x.data.length ≤ m
 dis : (o.map fun x => x.sum.l).Nodup
theorem BH {o : List Ob} {k : List UInt8} : aY o k = none ↔ ∀ x ∈ o, x.sum.l ≠ k := by
 unfold aY; simp [List.findIdx?_eq_none_iff]
theorem BI {o : List Ob} {k : List UInt8} {i : Nat} (h : aY o k = some i) : ∃ x, o[i]? = some x ∧ x.sum.l = k := by
 unfold aY at h; rw [List.findIdx?_eq_some_iff_getElem] at h; obtain ⟨hi, h1, _⟩ := h; exact ⟨o[i], by simp [hi], by simpa using h1⟩
theorem CQ {m : Nat} {o o' : List Ob} {n : Nat} {b : List UInt8} (ho : ObsOk m o) (hb : b.length ≤ m) (h : bg o n b = some o') : ObsOk m o' ∧ o'.length ≤ o.length + 1 := by
 unfold bg at h; split at h
 ·cases h
 split at h
 ·cases h
 have hB : (b.take (b.length - 32)).length ≤ m := by simp; omega
 generalize b.take (b.length - 32) = B at h hB; cases B with
 | nil => cases h
 | cons c r =>
  rw [ek] at h; split at h
  ·cases h
  split at h
  ·cases h
  unfold f9 at h; split at h
  ·split at h
   ·cases h
   ·unfold gr at h; split at h
    ·cases h
    split at h
    ·rename_i hc; cases h; have hxl : (((r.drop 4).drop 4).take (be ((r.drop 4).take 4))).length ≤ m := by simp at hB ⊢; omega
     generalize ((r.drop 4).drop 4).take (be ((r.drop 4).take 4)) = x at hc hxl; refine ⟨⟨fun y hy => ?_, fun y hy => ?_, ?_⟩, by simp⟩
     ·rcases List.mem_append.1 hy with hy | hy
      ·exact ho.sum y hy
      ·simp at hy; subst hy; rfl
     ·rcases List.mem_append.1 hy with hy | hy
      ·exact ho.len y hy
      ·simp at hy; subst hy; exact hxl
     ·rw [List.map_append, List.nodup_append]; refine ⟨ho.dis, by simp, fun a ha b hb => ?_⟩; simp at hb; subst hb; obtain ⟨y, hy, rfl⟩ := List.mem_map.1 ha; exact BH.1 hc.2.1 y hy
    ·cases h
  ·split at h
   ·split at h
    ·cases h
    ·unfold fI at h; split at h
     ·cases h
     split at h
     ·cases h
     ·cases h; rename_i i _; have hsub : (o.eraseIdx i).Sublist o := List.eraseIdx_sublist ..; refine ⟨⟨fun y hy => ho.sum y (hsub.mem hy), fun y hy => ho.len y (hsub.mem hy), (hsub.map _).nodup ho.dis⟩, ?_⟩; have := hsub.length_le; omega
   ·cases h
theorem Ax {m : Nat} : ∀ {l : List (List UInt8)} {o o' : List Ob} {n : Nat}, ObsOk m o → (∀ b ∈ l, b.length ≤ m) → f3 o n l = some o' → ObsOk m o' ∧ o'.length ≤ o.length + l.length
 | [], o, o', n, ho, _, h => by cases h; exact ⟨ho, by simp⟩
 | b :: r, o, o', n, ho, hb, h => by
  simp only [f3] at h; cases hq : bg o n b with
  | none => rw [hq] at h; cases h
  | some o1 =>
   rw [hq] at h; simp only [Option.bind_some] at h; obtain ⟨h1, h2⟩ := CQ ho (hb b (by simp)) hq; obtain ⟨h3, h4⟩ := Ax h1 (fun x hx => hb x (by simp [hx])) h; exact ⟨h3, by simp only [List.length_cons]; omega⟩
theorem DC (m : Nat) : ObsOk m [] := ⟨by simp, by simp, by simp⟩
structure SInv (m : Nat) (s : Sto) : Prop where
 good : nk s
 num : s.safe.length + s.queue.length ≤ m
 len : ∀ b ∈ cF s, b.length ≤ 2000
theorem SInv.obs {m : Nat} {s : Sto} (h : SInv m s) : ObsOk 2000 s.objects ∧ s.objects.length ≤ m := by
 obtain ⟨h1, h2⟩ := Ax (DC 2000) h.len h.good; have := h.num; simp only [cF, List.length_append, List.length_nil, Nat.zero_add] at h2; exact ⟨h1, by omega⟩
theorem SInv.mono {m m' : Nat} {s : Sto} (h : SInv m s) (k : m ≤ m') : SInv m' s := ⟨h.good, Nat.le_trans h.num k, h.len⟩
def lY : Sto := ⟨[], [], []⟩
theorem EU : SInv 0 lY := ⟨rfl, Nat.le_refl _, by simp [lY, cF]⟩
theorem SInv.push {m : Nat} {s : Sto} (h : SInv m s) {b : List UInt8} {o : List Ob} (hb : b.length ≤ 2000) (ha : bg s.objects (s.safe.length + s.queue.length) b = some o) : SInv (m + 1) ⟨o, s.safe, s.queue ++ [b]⟩ := by
 have e : cF ⟨o, s.safe, s.queue ++ [b]⟩ = cF s ++ [b] := by simp [cF]
 refine ⟨?_, by have := h.num; simp; omega, fun x hx => ?_⟩
 ·unfold nk; rw [e, wz _ _ _ _ h.good]; have : (cF s).length = s.safe.length + s.queue.length := by simp [cF]
  rw [Nat.zero_add, this]; exact ha
 ·rw [e] at hx; rcases List.mem_append.1 hx with hx | hx
  ·exact h.len x hx
  ·simp at hx; subst hx; exact hb
theorem Fi (n : Nat) (x : List UInt8) : (iu n x).length = x.length + 41 := by
 have : ∀ y, (Sha.sum y).length = 32 := fun y => Sha.out_length _
 simp [iu, this, m4]; omega
theorem Fh (n : Nat) {k : List UInt8} (hk : k.length = 32) : (m7 n k).length = 69 := by
 have : ∀ y, (Sha.sum y).length = 32 := fun y => Sha.out_length _
 simp [m7, this, m4, hk]
def evF (s : Sto) (k : Vec 32) : Sto := match aY s.objects k.l with
 | none => s
 | some i => ⟨s.objects.eraseIdx i, s.safe, s.queue ++ [m7 (s.safe.length + s.queue.length) k.l]⟩
theorem y4 (s : Sto) {x : List UInt8} (h : 65536 < x.length) : dC s x = (s, ⟨List.replicate 32 0, rfl⟩, 2) := by unfold dC; rw [if_pos h]
theorem pY (s : Sto) {x : List UInt8} {i : Nat} (h : ¬ 65536 < x.length) (hf : aY s.objects (Sha.sum x) = some i) : dC s x = (s, eX x, 0) := by unfold dC; rw [if_neg h, hf]; rfl
theorem wJ (s : Sto) {x : List UInt8} (h : ¬ 65536 < x.length) (hf : aY s.objects (Sha.sum x) = none) (ho : 256 ≤ s.objects.length) : dC s x = (s, ⟨List.replicate 32 0, rfl⟩, 330) := by unfold dC; rw [if_neg h, hf, if_neg (by simp), if_pos ho]
theorem pX (s : Sto) {x : List UInt8} (h : ¬ 65536 < x.length) (hf : aY s.objects (Sha.sum x) = none) (ho : s.objects.length < 256) : dC s x = (⟨s.objects ++ [⟨eX x, x⟩], s.safe, s.queue ++ [iu (s.safe.length + s.queue.length) x]⟩, eX x, 0) := by
 unfold dC; rw [if_neg h, hf, if_neg (by simp), if_neg (by omega)]; simp [lw, iu]
theorem SInv.put {m : Nat} {s : Sto} (h : SInv m s) {x : List UInt8} (hx : x.length ≤ 200) (hm : m < 256) : SInv (m + 1) (dC s x).1 := by
 cases hf : aY s.objects (Sha.sum x) with
 | some i => rw [pY s (by omega) hf]; exact h.mono (by omega)
 | none =>
  have := h.obs.2; have hn := h.num; rw [pX s (by omega) hf (by omega)]; exact h.push (by rw [Fi]; omega) (Bj (by omega) (by omega) hf (by omega))
theorem SInv.evict {m : Nat} {s : Sto} (h : SInv m s) (k : Vec 32) (hm : m < 4294967296) : SInv (m + 1) (evF s k) := by
 unfold evF; have hn := h.num; cases hf : aY s.objects k.l with
 | none => exact h.mono (by omega)
 | some i => exact h.push (by rw [Fh _ k.h]; omega) (zF (by omega) k.h hf)
def gn (s : Sto) : Sto := ⟨s.objects, s.safe ++ s.queue, []⟩
theorem SInv.sync {m : Nat} {s : Sto} (h : SInv m s) : SInv m (gn s) := by
 have e : cF (gn s) = cF s := by simp [cF, gn]
 exact ⟨by unfold nk; rw [e]; exact h.good, by have := h.num; simp [gn]; omega, by rw [e]; exact h.len⟩
def ca : List (List UInt8) → List Bool → List (List UInt8)
 | q :: qs, true :: ks => q :: ca qs ks
 | _ :: qs, false :: ks => ca qs ks
 | _, _ => []
theorem ia : ∀ (q : List (List UInt8)) (k : List Bool), (ca q k).Sublist q
 | [], _ => by simp [ca]
 | _ :: _, [] => by simp [ca]
 | q :: qs, true :: ks => by rw [ca]; exact (ia qs ks).cons_cons q
 | q :: qs, false :: ks => by rw [ca]; exact (ia qs ks).cons q
def jB (s : Sto) (k : List Bool) : Sto := cE [] [] (s.safe ++ ca s.queue k)
theorem SInv.open {m : Nat} {l : List (List UInt8)} (hl : l.length ≤ m) (hb : ∀ b ∈ l, b.length ≤ 2000) : SInv m (cE [] [] l) := by
 obtain ⟨a, o', h1, h2, h3⟩ := rj l [] []; refine ⟨Dn l, ?_, fun b hb' => ?_⟩
 ·rw [h3]; have := h1.length_le; simp; omega
 ·rw [h3] at hb'; simp [cF] at hb'; exact hb b (h1.subset hb')
theorem SInv.break {m : Nat} {s : Sto} (h : SInv m s) (k : List Bool) : SInv m (jB s k) := by
 have hs := ia s.queue k; refine SInv.open ?_ fun b hb => h.len b ?_
 ·have := h.num; have := hs.length_le; simp; omega
 ·simp only [cF]; rcases List.mem_append.1 hb with hb | hb
  ·simp [hb]
  ·simp [hs.subset hb]
def nM (s : Sto) (x : SRaw) : Sto :=
 if x.kind.toNat % 8 < 4 then (dC s (x.data.take 40)).1 else
 if x.kind.toNat % 8 < 6 then evF s (eX (x.data.take 40)) else
 if x.kind.toNat % 8 = 6 then gn s else jB s x.keep
theorem SInv.step {m : Nat} {s : Sto} (h : SInv m s) (x : SRaw) (hm : m < 256) : SInv (m + 1) (nM s x) := by
 unfold nM; have hl : (x.data.take 40).length ≤ 40 := by simp; omega
 split
 ·exact h.put (by omega) hm
 split
 ·exact h.evict _ (by omega)
 split
 ·exact h.sync.mono (by omega)
 ·exact (h.break _).mono (by omega)
def fZ (l : List SRaw) (n : Nat) : Sto := (l.take n).foldl nM lY
theorem tt : ∀ (l : List SRaw) (m : Nat) (s : Sto), SInv m s → m + l.length ≤ 256 → SInv (m + l.length) (l.foldl nM s)
 | [], _, _, h, _ => h
 | x :: r, m, s, h, hm => by
  simp only [List.length_cons] at hm; have := tt r (m + 1) (nM s x) (h.step x (by omega)) (by omega); simp only [List.foldl_cons, List.length_cons]; exact this.mono (by omega)
theorem yG (l : List SRaw) (n : Nat) (hn : n ≤ 256) : SInv n (fZ l n) := by
 have := tt (l.take n) 0 lY EU (by simp; omega); exact this.mono (by simp; omega)
end
section
theorem Al {s : Sto} (h : s.safe.length + s.queue.length ≤ 1000000) : cZ s = some (cF s) := by
 unfold cZ; rw [eo (by simp; omega), aq, List.nil_append, eo (by omega), aq]; rfl
theorem FG {s : Sto} (h : s.safe.length + s.queue.length ≤ 1000000) : iY s = some (gn s) := by
 unfold iY; rw [ii _ (by simp; omega) (by simp), aq]; simp [gn]
theorem Cr {s : Sto} (h : s.safe.length + s.queue.length ≤ 1000000) : dZ s = some (gn s) := by
 unfold dZ; rw [Al h, aq]; rfl
theorem ux {s : Sto} (b : List UInt8) (h : s.queue.length ≤ 1000000) : dt s b = some ⟨s.objects, s.safe, s.queue ++ [b]⟩ := by
 unfold dt; rw [eo (by simp; omega), aq, List.nil_append, eo (by simp; omega), aq]
theorem pS {l : List (List UInt8)} (h : l.length ≤ 1000000 ∧ ∀ b ∈ l, b.length ≤ 1000000) : fQ l = some (cE [] [] l) := if_pos h
theorem uu {l : List (List UInt8)} (h : l.length ≤ 1000000 ∧ ∀ b ∈ l, b.length ≤ 1000000) : dV l = some (cE [] [] l) := if_pos h
theorem wY {x : List UInt8} (h : x.length ≤ 1000000) : eJ x = some (eX x) := if_pos h
theorem wV {l : List Ob} (k : Vec 32) (h : l.length ≤ 4294967296) : gO l k = some (cB l k.l) := if_pos h
theorem wN {l : List Ob} (k : Vec 32) (h : l.length ≤ 4294967296) : kX l k = some (cB l k.l) := if_pos h
theorem mh {l : List Ob} {k : List UInt8} {i : Nat} (h : aY l k = some i) : cB l k = (i : Int) := by unfold cB; rw [h]
theorem mg {l : List Ob} {k : List UInt8} (h : aY l k = none) : cB l k = -1 := by unfold cB; rw [h]
theorem sP {l : List Ob} {k : List UInt8} {i : Nat} (h : aY l k = some i) : i < l.length := by
 obtain ⟨x, hx, _⟩ := BI h; exact (List.getElem?_eq_some_iff.1 hx).1
theorem He (s : Sto) : (⟨s.objects, s.safe, s.queue⟩ : Sto) = s := rfl
theorem Ff {s : Sto} (k : UInt8) {x : List UInt8} (h1 : s.safe.length ≤ 1000000) (h2 : s.queue.length ≤ 1000000) (h3 : x.length ≤ 100000) : iZ s k x = some (lw s k x) := if_pos ⟨h1, h2, h3⟩
theorem Af {l : List Ob} {i : Nat} (hl : l.length ≤ 1000000) (hi : i < l.length) : ey l (i : Int) = some (l.eraseIdx i) := by
 unfold ey; rw [jf (by omega), aq, bP (by omega), aq, jf (by omega), aq, gK _ (by simp; omega) (by simp), aq]; have h1 : ((i : Int) + 1).toNat = i + 1 := by omega
 simp [List.eraseIdx_eq_take_drop_succ, h1]
theorem zi {l : List Ob} {i : Nat} (hl : l.length ≤ 1000000) (hi : i < l.length) : jD l (i : Int) = some (l.eraseIdx i) := if_pos ⟨hl, by omega, by omega⟩
theorem SInv.small {m : Nat} {s : Sto} (h : SInv m s) (hm : m ≤ 256) : s.objects.length ≤ 256 ∧ s.safe.length + s.queue.length ≤ 256 ∧ (∀ b ∈ cF s, b.length ≤ 2000) := ⟨Nat.le_trans h.obs.2 hm, Nat.le_trans h.num hm, h.len⟩
theorem FD {m : Nat} {s : Sto} (h : SInv m s) (hm : m ≤ 256) {x : List UInt8} (hx : x.length ≤ 99000) : jK s x = some (dC s x) := by
 obtain ⟨h1, h2, _⟩ := h.small hm; exact if_pos ⟨by omega, by omega, by omega, hx⟩
theorem Fm {m : Nat} {s : Sto} (h : SInv m s) (hm : m ≤ 256) {x : List UInt8} (hx : x.length ≤ 99000) : fB s x = some ⟨(dC s x).1, (dC s x).2.1, (dC s x).2.2⟩ := by
 obtain ⟨h1, h2, _⟩ := h.small hm; unfold fB; by_cases c : 65536 < x.length
 ·rw [fj (by omega), cond_true, y4 s c]
 rw [fW (by omega), cond_false, wY (by omega), aq, wN _ (by omega), aq]; show (bif decide (0 ≤ cB s.objects (Sha.sum x)) then _ else _) = _; cases hf : aY s.objects (Sha.sum x) with
 | some i => rw [mh hf, FX (by omega), cond_true, pY s c hf]
 | none =>
  rw [mg hf, FW (by omega), cond_false]; by_cases c2 : 256 ≤ s.objects.length
  ·rw [FX (by omega), cond_true, wJ s c hf c2]
  ·rw [FW (by omega), cond_false, pX s c hf (by omega), eo (by simp; omega), aq, List.nil_append, bP (by omega), aq]; have e : cR ((s.safe.length : Int) + (s.queue.length : Int)) x = some (iu (s.safe.length + s.queue.length) x) := by
    unfold cR; rw [if_pos ⟨by omega, by omega⟩]
    congr 2
   rw [e, aq, ux _ (by omega), aq, eo (by simp; omega), aq, List.nil_append, eo (by simp; omega), aq]
theorem G8 {m : Nat} {s : Sto} (h : SInv m s) (hm : m ≤ 256) (k : Vec 32) : iH s k = some (evF s k, if aY s.objects k.l = none then 331 else 0) := by
 obtain ⟨h1, h2, _⟩ := h.small hm; unfold iH evF; rw [wV _ (by omega), aq]; cases hf : aY s.objects k.l with
 | none => rw [mg hf, fj (by omega), cond_true]; rfl
 | some i =>
  have hi := sP hf; rw [mh hf, fW (by omega), cond_false, Ff _ (by omega) (by omega) (by rw [k.h]; omega), aq]; have e : (lw s 68 k.l).objects = s.objects := rfl; rw [e, Af (by omega) hi, aq, if_neg (by simp)]; simp [lw, m7]
theorem GS {m : Nat} {s : Sto} (h : SInv m s) (hm : m ≤ 256) (k : Vec 32) : eM s k = some ⟨evF s k, ⟨List.replicate 32 0, rfl⟩, if aY s.objects k.l = none then 331 else 0⟩ := by
 obtain ⟨h1, h2, _⟩ := h.small hm; unfold eM evF; rw [wN _ (by omega), aq]; cases hf : aY s.objects k.l with
 | none => rw [mg hf, fj (by omega), cond_true]; rfl
 | some i =>
  have hi := sP hf; rw [mh hf, fW (by omega), cond_false, bP (by omega), aq]; have e : cN ((s.safe.length : Int) + (s.queue.length : Int)) k = some (m7 (s.safe.length + s.queue.length) k.l) := by
   unfold cN; rw [if_pos (by omega)]
   congr 2
  rw [e, aq, ux _ (by omega), aq]; simp only; rw [zi (by omega) hi, aq, if_neg (by simp)]
theorem zn {m : Nat} {s : Sto} (h : SInv m s) (hm : m ≤ 256) (k : Vec 32) : jJ s k = some (match aY s.objects k.l with | none => ([], 331) | some i => ((s.objects.getD i ⟨k, []⟩).data, 0)) := by
 obtain ⟨h1, h2, _⟩ := h.small hm; unfold jJ; rw [wV _ (by omega), aq]; cases hf : aY s.objects k.l with
 | none => rw [mg hf, fj (by omega), cond_true]
 | some i =>
  have hi := sP hf; rw [mh hf, fW (by omega), cond_false, dJ, List.getElem?_eq_getElem hi, aq]; simp [List.getD_eq_getElem?_getD, hi]
theorem Eg {m : Nat} {s : Sto} (h : SInv m s) (hm : m ≤ 256) : iY s = some (gn s) := FG (by have := (h.small hm).2.1; omega)
theorem D4 {m : Nat} {s : Sto} (h : SInv m s) (hm : m ≤ 256) : dZ s = some (gn s) := Cr (by have := (h.small hm).2.1; omega)
theorem zj {m : Nat} {s : Sto} (h : SInv m s) (hm : m ≤ 256) : cZ s = some (cF s) := Al (by have := (h.small hm).2.1; omega)
theorem uf (q : List (List UInt8)) (k : List Bool) (i : Nat) {x : List UInt8} (hx : q[i]? = some x) : ca (q.take (i + 1)) k = ca (q.take i) k ++ (if k[i]? = some true then [x] else []) := by
 induction q generalizing k i with
 | nil => simp at hx
 | cons y r ih =>
  cases i with
  | zero =>
   simp at hx; subst hx; cases k with
   | nil => simp [ca]
   | cons b k => cases b <;> simp [ca]
  | succ i =>
   simp only [List.getElem?_cons_succ] at hx; simp only [List.take_succ_cons]; cases k with
   | nil => simp [ca]
   | cons b k =>
    have := ih k i hx; cases b <;> simp [ca, this]
theorem BM (q : List (List UInt8)) (k : List Bool) {i : Nat} (h : k.length ≤ i) : ca q k = ca (q.take i) k := by
 induction q generalizing k i with
 | nil => simp
 | cons y r ih =>
  cases k with
  | nil => cases i <;> simp [ca]
  | cons b k =>
   cases i with
   | zero => simp at h
   | succ i =>
    have := ih k (i := i) (by simpa using h); cases b <;> simp [ca, this]
theorem qe {s : Sto} (k : List Bool) (h : s.safe.length + s.queue.length ≤ 256) (hb : ∀ b ∈ cF s, b.length ≤ 2000) : f6 s k = some (jB s k) := by
 unfold f6; have e : c9 s.safe = some s.safe := if_pos (by omega); rw [e, aq]; have h2 : cH (dQ s k) (0, s.safe) = some (s.safe ++ ca s.queue k) := by
  have := ja (body := dQ s k) (fun i => ((i : Int), s.safe ++ ca (s.queue.take i) k)) s.queue.length (e := s.safe ++ ca s.queue k) (fun i hi => by
   have hx : s.queue[i]? = some (s.queue[i]'hi) := List.getElem?_eq_getElem _; generalize s.queue[i]'hi = x at hx; have hl := (ia (s.queue.take i) k).length_le; rw [List.length_take] at hl; unfold dQ; simp only; rw [fj (by omega), cond_true, dJ, hx, aq, uf _ _ _ hx]; by_cases c : i < k.length
   ·have hk : k[i]? = some (k[i]'c) := List.getElem?_eq_getElem _; generalize k[i]'c = b at hk; rw [fj (by omega), cond_true, dJ, hk, aq]; cases b with
    | true =>
     rw [cond_true, eo (by simp; omega), aq, aq, bP (by omega), aq]; simp
    | false =>
     rw [cond_false, aq, bP (by omega), aq]; simp
   ·rw [fW (by omega), cond_false, aq, bP (by omega), aq]; have : k[i]? = none := by rw [List.getElem?_eq_none_iff]; omega
    rw [this]; simp) (by
   unfold dQ; simp only [List.take_length]; rw [fW (by omega), cond_false])
  simpa [ca] using this
 rw [h2, aq, pS, aq]
 ·rfl
 ·have hs := ia s.queue k; refine ⟨by have := hs.length_le; simp; omega, fun b hb' => ?_⟩; have : b ∈ cF s := by
   simp only [cF]; rcases List.mem_append.1 hb' with hb' | hb'
   ·simp [hb']
   ·simp [hs.subset hb']
  exact Nat.le_trans (hb b this) (by omega)
theorem Cd {s : Sto} (k : List Bool) (h : s.safe.length + s.queue.length ≤ 256) (hb : ∀ b ∈ cF s, b.length ≤ 2000) : eL s k = some (jB s k) := by
 unfold eL; rw [eo (by simp; omega), aq, List.nil_append]; have h2 : cH (dM s k) (0, s.safe) = some (s.safe ++ ca s.queue k) := by
  have hmin : ∀ n, n = min s.queue.length k.length → ca (s.queue.take n) k = ca s.queue k := fun n hn => by
   by_cases c : s.queue.length ≤ k.length
   ·rw [hn, Nat.min_eq_left c, List.take_length]
   ·rw [hn, Nat.min_eq_right (by omega), ← BM _ _ (Nat.le_refl _)]
  have := ja (body := dM s k) (fun i => ((i : Int), s.safe ++ ca (s.queue.take i) k)) (min s.queue.length k.length) (e := s.safe ++ ca s.queue k) (fun i hi => by
   have hx : s.queue[i]? = some (s.queue[i]'(by omega)) := List.getElem?_eq_getElem _; generalize s.queue[i]'(by omega) = x at hx; have hl := (ia (s.queue.take i) k).length_le; rw [List.length_take] at hl; have hk : k[i]? = some (k[i]'(by omega)) := List.getElem?_eq_getElem _; generalize k[i]'(by omega) = b at hk; unfold dM; simp only; rw [fj (by omega), cond_true, fj (by omega), cond_true, dJ, hk, aq, uf _ _ _ hx]; cases b with
   | true =>
    rw [cond_true, dJ, hx, aq, eo (by simp; omega), aq, aq, bP (by omega), aq]; simp [hk]
   | false =>
    rw [cond_false, aq, bP (by omega), aq]; simp [hk]) (by
   unfold dM; simp only; rw [hmin _ rfl]; by_cases c : s.queue.length ≤ k.length
   ·rw [Nat.min_eq_left c, fW (by omega), cond_false]
   ·rw [Nat.min_eq_right (by omega), fj (by omega), cond_true, fW (by omega), cond_false])
  simpa [ca] using this
 rw [h2, aq, uu, aq]
 ·rfl
 ·have hs := ia s.queue k; refine ⟨by have := hs.length_le; simp; omega, fun b hb' => ?_⟩; have : b ∈ cF s := by
   simp only [cF]; rcases List.mem_append.1 hb' with hb' | hb'
   ·simp [hb']
   ·simp [hs.subset hb']
  exact Nat.le_trans (hb b this) (by omega)
open Classical in
theorem D7 (a b : List Ob) (ha : a.length ≤ 1000000) : bX a b = some (decide (a = b)) := by
 unfold bX; refine Ok.get ?_; refine Ok.cond (fun c => Ok.ret ?_) fun c => ?_
 ·have : a.length ≠ b.length := by simp at c; omega
  rw [eq_comm, decide_eq_false_iff_not]; intro e; subst e; exact this rfl
 have hl : a.length = b.length := by simp at c; omega
 refine Ok.bind (P := fun o => o = if a = b then .inl () else .inr false) ?_ ?_
 ·refine Ok.loop (fun s : Int => ∃ i : Nat, s = i ∧ i ≤ a.length ∧ ∀ j x y, j < i → a[j]? = some x → b[j]? = some y → x = y) (fun s : Int => a.length - s.toNat) ⟨0, rfl, by omega, fun j x y h => by omega⟩ ?_; rintro _ ⟨i, rfl, h1, h2⟩; unfold gL; refine Ok.cond (fun c => ?_) fun c => Ok.ret ?_
  ·simp only [decide_eq_true_eq] at c; have hx : a[i]? = some (a[i]'(by omega)) := List.getElem?_eq_getElem _; have hy : b[i]? = some (b[i]'(by omega)) := List.getElem?_eq_getElem _; generalize a[i]'(by omega) = x at hx; generalize b[i]'(by omega) = y at hy; simp only [dJ, hx, hy, aq]; have hstop : x ≠ y → (Sum.inr false : Unit ⊕ Bool) = if a = b then .inl () else .inr false := fun hne => by
    rw [if_neg]; intro e; subst e; rw [hx] at hy; exact hne (Option.some.inj hy)
   have hgo : x = y → ∀ j x' y', j < i + 1 → a[j]? = some x' → b[j]? = some y' → x' = y' := fun he j x' y' hj hx' hy' => by
    by_cases e : j = i
    ·subst e; rw [hx] at hx'; rw [hy] at hy'; cases hx'; cases hy'; exact he
    ·exact h2 j x' y' (by omega) hx' hy'
   refine Ok.cond (fun c2 => Ok.ret (hstop fun e => ?_)) fun c2 => ?_
   ·subst e; simp at c2
   refine Ok.cond (fun c3 => Ok.ret (hstop fun e => ?_)) fun c3 => ?_
   ·subst e; simp at c3
   rw [bP (by omega), aq]; have he : x = y := Ob.same.1 ⟨by simpa using c2, by simpa using c3⟩; exact Ok.ret ⟨⟨i + 1, by omega, by omega, hgo he⟩, by omega⟩
  ·simp only [decide_eq_false_iff_not] at c; rw [if_pos (pV hl h2 (by omega))]
 ·rintro o rfl; by_cases e : a = b
  ·rw [if_pos e, decide_eq_true e]; exact Ok.ret rfl
  ·rw [if_neg e, decide_eq_false e]; exact Ok.ret rfl
theorem D8 (a b : List (List UInt8)) (ha : a.length ≤ 1000000) : bY a b = some (decide (a = b)) := by
 unfold bY; refine Ok.get ?_; refine Ok.cond (fun c => Ok.ret ?_) fun c => ?_
 ·have : a.length ≠ b.length := by simp at c; omega
  rw [eq_comm, decide_eq_false_iff_not]; intro e; subst e; exact this rfl
 have hl : a.length = b.length := by simp at c; omega
 refine Ok.bind (P := fun o => o = if a = b then .inl () else .inr false) ?_ ?_
 ·refine Ok.loop (fun s : Int => ∃ i : Nat, s = i ∧ i ≤ a.length ∧ ∀ j x y, j < i → a[j]? = some x → b[j]? = some y → x = y) (fun s : Int => a.length - s.toNat) ⟨0, rfl, by omega, fun j x y h => by omega⟩ ?_; rintro _ ⟨i, rfl, h1, h2⟩; unfold gM; refine Ok.cond (fun c => ?_) fun c => Ok.ret ?_
  ·simp only [decide_eq_true_eq] at c; have hx : a[i]? = some (a[i]'(by omega)) := List.getElem?_eq_getElem _; have hy : b[i]? = some (b[i]'(by omega)) := List.getElem?_eq_getElem _; generalize a[i]'(by omega) = x at hx; generalize b[i]'(by omega) = y at hy; simp only [dJ, hx, hy, aq]; have hstop : x ≠ y → (Sum.inr false : Unit ⊕ Bool) = if a = b then .inl () else .inr false := fun hne => by
    rw [if_neg]; intro e; subst e; rw [hx] at hy; exact hne (Option.some.inj hy)
   have hgo : x = y → ∀ j x' y', j < i + 1 → a[j]? = some x' → b[j]? = some y' → x' = y' := fun he j x' y' hj hx' hy' => by
    by_cases e : j = i
    ·subst e; rw [hx] at hx'; rw [hy] at hy'; cases hx'; cases hy'; exact he
    ·exact h2 j x' y' (by omega) hx' hy'
   refine Ok.cond (fun c2 => Ok.ret (hstop fun e => ?_)) fun c2 => ?_
   ·subst e; simp at c2
   rw [bP (by omega), aq]; have he : x = y := by simpa using c2
   exact Ok.ret ⟨⟨i + 1, by omega, by omega, hgo he⟩, by omega⟩
  ·simp only [decide_eq_false_iff_not] at c; rw [if_pos (pV hl h2 (by omega))]
 ·rintro o rfl; by_cases e : a = b
  ·rw [if_pos e, decide_eq_true e]; exact Ok.ret rfl
  ·rw [if_neg e, decide_eq_false e]; exact Ok.ret rfl
theorem uH {a : List Ob} (ha : a.length ≤ 1000000) : bX a a = some true := (D7 a a ha).trans (by simp)
theorem uI {a : List (List UInt8)} (ha : a.length ≤ 1000000) : bY a a = some true := (D8 a a ha).trans (by rw [decide_eq_true rfl])
theorem wT {s : Sto} (h1 : s.objects.length ≤ 1000000) (h2 : s.safe.length ≤ 1000000) (h3 : s.queue.length ≤ 1000000) : dY s s = some true := by
 unfold dY; rw [uH h1, aq, cond_true, uI h2, aq, cond_true, uI h3, aq]
theorem uK {x : Std} (h1 : x.s.objects.length ≤ 1000000) (h2 : x.s.safe.length ≤ 1000000) (h3 : x.s.queue.length ≤ 1000000) : er x x = some true := by
 unfold er; rw [wT h1 h2 h3, aq, cond_true]; simp
theorem SInv.openOk {m : Nat} {s : Sto} (h : SInv m s) (hm : m ≤ 256) : (cF s).length ≤ 1000000 ∧ ∀ b ∈ cF s, b.length ≤ 1000000 := by
 obtain ⟨h1, h2, h3⟩ := h.small hm; exact ⟨by simp [cF]; omega, fun b hb => Nat.le_trans (h3 b hb) (by omega)⟩
theorem mo {m : Nat} {s : Sto} (h : SInv m s) (hm : m ≤ 256) : eN s = some true := by
 obtain ⟨h1, h2, h3⟩ := h.small hm; unfold eN; rw [zj h hm, aq, uu (h.openOk hm), aq, h.good.open, tJ rfl, cond_true]; simp only; rw [uH (by omega), aq]
theorem Co {m : Nat} {s : Sto} (h : SInv m s) (hm : m ≤ 256) : fr s = some true := by
 obtain ⟨h1, h2, h3⟩ := h.small hm; unfold fr; rw [ii _ (by simp; omega) (by simp), aq]; have e : [s.safe, s.queue].flatten = cF s := by simp [cF]
 rw [e, pS (h.openOk hm), aq, h.good.open, tJ rfl, cond_true]; simp only; have := tS s.objects s.objects (by omega) (fun x hx => Nat.le_trans (h.obs.1.len x hx) (by omega)); exact (fN (this.trans (by simp)))
theorem mr {m : Nat} {s : Sto} (h : SInv m s) (hm : m ≤ 256) {x : List UInt8} (hx : x.length ≤ 99000) : eu s x = some ⟨(dC s x).1, (dC s x).2.1, (dC s x).2.2⟩ := by
 unfold eu; rw [FD h hm hx, aq]
theorem zN {m : Nat} {s : Sto} (h : SInv m s) (hm : m ≤ 256) (k : Vec 32) : fk s k = some ⟨evF s k, ⟨List.replicate 32 0, rfl⟩, if aY s.objects k.l = none then 331 else 0⟩ := by
 unfold fk; rw [G8 h hm, aq]
theorem ES {m : Nat} {s : Sto} (h : SInv m s) (hm : m ≤ 256) {k : Vec 32} (hf : aY s.objects k.l = none) : eI s k = some ⟨[], 331⟩ := by
 unfold eI; rw [zn h hm, hf, aq]
theorem ET {m : Nat} {s : Sto} (h : SInv m s) (hm : m ≤ 256) {k : Vec 32} {i : Nat} {x : Ob} (hf : aY s.objects k.l = some i) (hx : s.objects[i]? = some x) : eI s k = some ⟨x.data, 0⟩ := by
 unfold eI; rw [zn h hm, hf, aq]; simp [List.getD_eq_getElem?_getD, hx]
theorem EY (k : UInt8) : rt (k.toNat : Int) 8 = some ((k.toNat % 8 : Nat) : Int) := by
 rw [Fj (by omega) (by omega)]; norm_cast
theorem I0 (x : List UInt8) : slc x 0 (min (x.length : Int) 40) = some (x.take 40) := by
 rw [jf (by omega)]; simp only [Int.toNat_zero, List.drop_zero, Option.some.injEq]; by_cases c : x.length ≤ 40
 ·rw [show (min (x.length : Int) 40).toNat = x.length by omega, List.take_length, List.take_of_length_le c]
 ·rw [show (min (x.length : Int) 40).toNat = 40 by omega]
theorem D3 {m : Nat} {s : Sto} (h : SInv m s) (hm : m ≤ 256) (x : SRaw) : fc s x = some (nM s x) := by
 obtain ⟨h1, h2, h3⟩ := h.small hm; have hl : (x.data.take 40).length ≤ 40 := by simp; omega
 unfold fc nM; rw [I0, aq, EY, aq]; generalize x.kind.toNat % 8 = n; have e1 : (bif ((n : Int) == 0) then some ((n : Int) == 0) else bif ((n : Int) == 1) then some ((n : Int) == 1) else bif ((n : Int) == 2) then some ((n : Int) == 2) else some ((n : Int) == 3)) = some (decide (n < 4)) := by
  by_cases a : n = 0
  ·subst a; rfl
  rw [pc (by omega), cond_false]; by_cases b : n = 1
  ·subst b; rfl
  rw [pc (by omega), cond_false]; by_cases c : n = 2
  ·subst c; rfl
  rw [pc (by omega), cond_false]; by_cases d : n = 3
  ·subst d; rfl
  rw [pc (by omega), decide_eq_false (by omega)]
 rw [e1, aq]; by_cases c : n < 4
 ·rw [decide_eq_true c, cond_true, if_pos c, Fm h hm (by omega), aq]
 rw [decide_eq_false c, cond_false, if_neg c]; have e2 : (bif ((n : Int) == 4) then some ((n : Int) == 4) else some ((n : Int) == 5)) = some (decide (n < 6)) := by
  by_cases a : n = 4
  ·subst a; rfl
  rw [pc (by omega), cond_false]; by_cases b : n = 5
  ·subst b; rfl
  rw [pc (by omega), decide_eq_false (by omega)]
 rw [e2, aq]; by_cases c6 : n < 6
 ·rw [decide_eq_true c6, cond_true, if_pos c6, wY (by omega), aq, GS h hm, aq]
 rw [decide_eq_false c6, cond_false, if_neg c6]; by_cases c7 : n = 6
 ·subst c7; rw [tJ (show ((6 : Nat) : Int) = 6 from rfl), cond_true, if_pos rfl, D4 h hm, aq]
 ·rw [pc (by omega), cond_false, if_neg c7, Cd _ (by omega) h3, aq]
theorem B8 (l : List SRaw) {n : Nat} {x : SRaw} (hx : l[n]? = some x) : fZ l (n + 1) = nM (fZ l n) x := by
 unfold fZ; rw [List.take_add_one, hx]; simp
theorem Fe (l : List SRaw) (n : Nat) (hn : n ≤ 250) : fa l (n : Int) = some (fZ l n) := by
 unfold fa; have h2 : cH (dX l (n : Int)) (0, [], [], []) = some ((fZ l n).objects, (fZ l n).safe, (fZ l n).queue) := by
  have hmin : ∀ k, k = min l.length n → fZ l k = fZ l n := fun k hk => by
   unfold fZ; by_cases c : l.length ≤ n
   ·rw [hk, Nat.min_eq_left c, List.take_length, List.take_of_length_le c]
   ·rw [hk, Nat.min_eq_right (by omega)]
  have := ja (body := dX l (n : Int)) (fun i => ((i : Int), (fZ l i).objects, (fZ l i).safe, (fZ l i).queue)) (min l.length n) (e := ((fZ l n).objects, (fZ l n).safe, (fZ l n).queue)) (fun i hi => by
   have hx : l[i]? = some (l[i]'(by omega)) := List.getElem?_eq_getElem _; generalize l[i]'(by omega) = x at hx; unfold dX; simp only; rw [fj (by omega), cond_true, fj (by omega), cond_true, dJ, hx, aq, He, D3 (yG l i (by omega)) (by omega), aq, bP (by omega), aq, B8 l hx]; rfl) (by
   unfold dX; simp only; rw [hmin _ rfl]; by_cases c : l.length ≤ n
   ·rw [Nat.min_eq_left c, fW (by omega), cond_false]
   ·rw [Nat.min_eq_right (by omega), fj (by omega), cond_true, fW (by omega), cond_false])
  exact this
 rw [h2, aq]
end
section
section
variable {P : Program} {G : Nat → Option D} {N : Nat} {F : Fr} {ops rest : List Oper} {o : Oper} {Q : Exit → St → Prop} {h : List (Nat × Blk)} {env : List (Nat × V)} {nx : Nat} {st : St} {μ : Nat → Option Place} {C : aw} {a : Act} {w w' : World}
structure Marked (b : Nat) (w w' : World) : Prop where
 os : w'.os = w.os
 tape : w'.tape = w.tape
 output : w'.output = w.output
 size : w'.heap.size = w.heap.size
 block : ∀ k, k ≠ b → w'.heap[k]? = w.heap[k]?
 cell : ∀ k o, w'.cell? ⟨k, o, none⟩ = w.cell? ⟨k, o, none⟩
theorem xr (w : World) (b m : Nat) {cur : Array Value} {T : TypeId} (hb : w.heap[b]? = some (.cells cur T (0, 0))) : Marked b w (w.freeze ⟨b, m, none⟩ 1) := by
 have hh : ∀ k, (w.freeze ⟨b, m, none⟩ 1).heap[k]? = if k = b then some (.cells cur T (m, m + 1)) else w.heap[k]? := by
  intro k; unfold World.freeze; rw [if_neg (by decide)]; simp only [Array.getElem?_modify]; by_cases e : k = b
  ·subst e; simp [hb]
  ·simp [e, Ne.symm e]
 refine ⟨?_, ?_, ?_, ?_, fun k hk => by rw [hh, if_neg hk], fun k o => ?_⟩
 ·unfold World.freeze; rw [if_neg (by decide)]
 ·unfold World.freeze; rw [if_neg (by decide)]
 ·unfold World.freeze; rw [if_neg (by decide)]
 ·unfold World.freeze; rw [if_neg (by decide)]; simp
 ·simp only [World.cell?, hh]; by_cases e : k = b
  ·subst e; simp [hb]
  ·simp [e]
theorem Sim.mark {l : Nat} {k : Blk} {p : Place} (rows : List (List D)) (hs : Sim F st μ C a w) (hk : look st.h l = some k) (hr : k.rows = rows.map fun r => r.map V.d) (hp : μ l = some p) (hc : 0 < p.cap) (hw : Marked p.b w w') :
  ∃ C', (∀ b o u, C b o u → C' b o u) ∧ (∀ y v, ax μ C y v → ax μ C' (bc l k.sz rows y) v) ∧ Sim F ⟨cP l k.sz rows st.env, bK l st.h, st.nx⟩ μ C' a w' := by
 obtain ⟨p', hp', hb⟩ := hs.heap l k hk; rw [hp] at hp'; cases hp'; have hrow : ∀ x ∈ rows, x.length = k.sz := by
  intro x hx; have := hb.row (x.map V.d) (by rw [hr]; exact List.mem_map.2 ⟨x, hx, rfl⟩); simpa using this
 have hlen : rows.length ≤ p.cap := by have := hb.len; rw [hr] at this; simpa using this
 obtain ⟨b1, b2, cur, T, b3, b4, b5⟩ := hb.cells hc; have hkm : k.isMap = false := by
  have := eU k.sz rows; rw [← hr] at this; exact this
 rw [hkm] at b3; have b3 := b3.cells; have k1 : ∀ b o u, C b o u → kr C p.b cur b o u := fun _ _ _ h => .inl h
 have hne : ∀ b o u, C b o u → b ≠ p.b := fun b o u h e => b2 o u (e ▸ h)
 have hcell : ∀ b o, b ≠ p.b → w'.cell? ⟨b, o, none⟩ = w.cell? ⟨b, o, none⟩ := fun b o _ => hw.cell b o
 have k3 : bF (kr C p.b cur) w' := fun b o u h => by
  rcases h with h | ⟨rfl, h⟩
  ·have hb := hne _ _ _ h; rcases hs.known b o u h with h | h
   ·left; rw [hcell _ _ hb]; exact h
   ·right; obtain ⟨es, c, h1, h2⟩ := h; exact ⟨es, c, by rw [hw.block _ hb]; exact h1, h2⟩
  ·left; rw [hw.cell, cell_of_row w p.b o _ _ _ b3]; exact h
 have k4 : 0 < p.cap → ∀ (i : Nat) (r : List D), rows[i]? = some r → Rp (kr C p.b cur) (.mem r p.b (i * p.sz)) := fun _ i r hi => by
  refine gR fun j d hj => ?_
  have h1 : k.rows[i]? = some (r.map V.d) := by rw [hr]; simp [hi]
  obtain ⟨u, a1, a2, a3⟩ := b5 i _ h1 j (.d d) (by simp [hj]); exact ⟨u, .inr ⟨rfl, by rw [hb.sz]; simpa using a1⟩, a2, Rp.mono (fun _ _ _ h => .inl h) a3⟩
 have hrep : ∀ y v, ax μ C y v → ax μ (kr C p.b cur) (bc l k.sz rows y) v := fun y v hy => vv hp hb hrow hlen k1 k4 hy
 have hsz := hw.size; refine ⟨kr C p.b cur, k1, hrep, ⟨hs.size, ?_, ⟨by rw [hw.os]; exact hs.below.os, by rw [hw.tape]; exact hs.below.tape, by rw [hw.output]; exact hs.below.output, by rw [hsz]; exact hs.below.size, fun b hlt hn => ?_⟩, fun b o u h => k1 _ _ _ (hs.sub _ _ _ h), fun b o u h => ?_, k3, fun t x hx => ?_, fun l' k' hk' => ?_, fun l1 l2 p1 p2 h1 h2 => ?_, hs.nx, ?_⟩⟩
 ·refine hs.defers.step fun q _ hq => ?_
  have : q ≠ p.b := fun e => by rw [e, b3] at hq; cases hq
  rw [hw.block _ this]; exact hq
 ·have : b ≠ p.b := fun e => by
   subst e; rcases b1 with h | h
   ·omega
   ·exact hn h
  rw [hw.block _ this]; exact hs.below.block b hlt hn
 ·rcases h with h | ⟨rfl, _⟩
  ·exact hs.new _ _ _ h
  ·exact .inr b1
 ·rw [i8] at hx; cases hl : look st.env t with
  | none => rw [hl] at hx; cases hx
  | some y =>
   rw [hl] at hx; cases hx; exact hrep _ _ (hs.env t y hl)
 ·rw [dE] at hk'; split at hk'
  ·cases hk'
  ·rename_i hne'; obtain ⟨p', hp', hb'⟩ := hs.heap l' k' hk'; refine ⟨p', hp', hb'.sz, hb'.len, hb'.max, hb'.row, fun hc' => ?_⟩; obtain ⟨c1, c2, cur2, T2, c3, c4, c5⟩ := hb'.cells hc'; have hpb : p'.b ≠ p.b := fun e => hne' (hs.inj l' l p' p (by rw [hk']; rfl) (by rw [hk]; rfl) hp' hp hc' hc e)
   refine ⟨c1, fun o u hcu => ?_, cur2, T2, c3.of_eq (hw.block _ hpb), c4, c5.mono (fun _ _ h => h) k1⟩; rcases hcu with h | ⟨e, _⟩
   ·exact c2 o u h
   ·exact hpb e
 ·simp only [dE] at h1 h2; split at h1
  ·cases h1
  ·split at h2
   ·cases h2
   ·exact hs.inj l1 l2 p1 p2 h1 h2
 ·refine F.stab hs.gh ⟨hw.os, hw.tape, hw.output, by rw [hsz]; exact Nat.le_refl _, fun _ _ _ h => h, fun j hj => .inl (by simp only [dE] at hj; split at hj <;> first | cases hj | exact hj), fun b hb hn => ?_, fun b ⟨l', k', q, g1, g2⟩ => .inl ?_, k1, fun b o u h => ?_, k3⟩
  ·refine hw.block b fun e => hn ⟨l, k, p, hk, hp, hc, e.symm⟩
  ·rw [dE] at g1; split at g1
   ·cases g1
   ·exact ⟨l', k', q, g1, g2⟩
  ·rcases h with h | ⟨rfl, _⟩
   ·exact .inl h
   ·exact .inr (.inl ⟨l, k, p, hk, hp, hc, rfl⟩)
theorem SmG.mark (hF : Env F P G N) {t e : TypeId} {x : Operand} {l : Nat} {rows : List (List D)} {d : Tmp} (ho : o.op = .convert t t x) (hd : o.dst = some d) (hdN : Nat.blt d N = true) (hg : aC ops env o.guard = some true) (hx : evB G env x = some (.sref l 0 rows.length)) (hk : af h l = some (dB 1 rows)) (hne : rows ≠ [])
  (h1 : P.underlying t = some (.slice e)) (h2 : P.underlying e = some (.int .u8)) (k : SmG F N ops rest Q ⟨(d, .d (.list 1 rows false)) :: cP l 1 rows env, bK l h, nx⟩) : SmG F N ops (o :: rest) Q ⟨env, h, nx⟩ := by
 have hdN' : d < N := by simpa [Nat.blt_eq] using hdN
 rw [aL] at hk; rw [aS] at hx; intro hsm μ C a w hs; have hsm2 : St.small N ⟨(d, .d (.list 1 rows false)) :: cP l 1 rows env, bK l h, nx⟩ := by
  refine bI (env := cP l 1 rows env) (h := bK l h) (nx := nx) ?_ hdN'; intro s y hy; simp only [i8] at hy; cases hq : look env s with
  | none => rw [hq] at hy; cases hy
  | some y' => exact hsm s y' hq
 have k2 := k hsm2; obtain ⟨rfl, rfl, hG⟩ := hF; refine b7 (fun _ c e => by rw [ho] at e; cases e) fun K hK => ?_
 rw [bH hs (aM hg) hsm, if_pos rfl]; have hxv := bV hs hG hx; obtain ⟨p, ao, hp, hv, hle, hao⟩ := hxv; obtain ⟨p', hp', hb⟩ := hs.heap l _ hk; rw [hp] at hp'; cases hp'; have hpos : 0 < rows.length := List.length_pos_iff.2 hne; have hc : 0 < p.cap := by omega
 obtain rfl := hao hc; obtain ⟨b1, b2, cur, T, b3, b4, b5⟩ := hb.cells hc; have hkm : (dB 1 rows).isMap = false := eU 1 rows; rw [hkm] at b3; have b3 := b3.cells; have hM := xr w p.b cur.size b3; obtain ⟨C', hsub, hrep, hsim⟩ := Sim.mark (k := dB 1 rows) rows hs hk rfl hp hc hM; have hr : ax μ C' (.d (.list 1 rows false)) (a.eval x) := by
  have := hrep _ _ (bV hs hG hx); rw [show (dB 1 rows).sz = 1 from rfl, wB] at this; exact this
 have hsh : w.shape? p.b = some (T, cur.size) := by unfold World.shape?; rw [b3]
 have hz : 0 * p.sz = 0 := by omega
 have hex : (execOp a.eval o).run F.P w = .ok (.value (a.eval x)) (w.freeze ⟨p.b, cur.size, none⟩ 1) := by
  rw [qY ho, hv]; simp [convert, Sem.run_bind, run_underlying h1, run_underlying h2, markStringish, hsh, Result.andThen_ok]
 unfold Oper.wp; rw [hex, Oper.upon_value, hd]; exact hK _ _ (k2 μ C' _ _ (hsim.put hdN' hr))
end
end
section
theorem mq (x : Std) : (Std.row x).length = 36 := by simp [Std.row, cO x.k.h]
theorem sW {t : TypeId} {n m off : Nat} {R S : List D} {h : List (Nat × Blk)} {l : Nat} (hl : look h l = some ⟨n, [R.map V.d]⟩) (ha : bh Tryd.prog t = some true) (hs : az Tryd.prog t = some m) (hR : R.length = n) (hle : off + m ≤ n) (hS : (R.drop off).take m = S) : aW Tryd.prog h t (.ref l 0 off) = some (.d (.agg m S)) := by
 have hsg : seg (R.map V.d) n off m = S.map V.d := by
  unfold seg; split
  ·rename_i e; obtain ⟨rfl, rfl⟩ := e; rw [← hS, List.drop_zero, ← hR, List.take_length]
  ·rw [← List.map_drop, ← List.map_take, hS]
 have hp : bv (S.map V.d) = some S := gy _; simp only [aW, hl, Option.bind_some, List.getElem?_cons_zero, cg, ha, hs, hsg, hp, hle]; rfl
theorem nE {t : TypeId} {n off : Nat} {R : List D} {y : D} {h : List (Nat × Blk)} {l : Nat} (hl : look h l = some ⟨n, [R.map V.d]⟩) (ha : bh Tryd.prog t = some false) (hy : R[off]? = some y) : aW Tryd.prog h t (.ref l 0 off) = some (.d y) := by
 simp only [aW, hl, Option.bind_some, List.getElem?_cons_zero, cg, ha, List.getElem?_map, hy, Option.map_some]
theorem yN {h : List (Nat × Blk)} {l : Nat} {x : Std} (hl : look h l = some ⟨36, [(Std.row x).map V.d]⟩) : aW Tryd.prog h 45 (.ref l 0 0) = some (.d (.agg 36 (Std.row x))) := sW hl Hs Iw (mq x) (by decide) (by rw [List.drop_zero, List.take_of_length_le (by rw [mq]; decide)])
theorem dP {h : List (Nat × Blk)} {l : Nat} {x : Std} (hl : look h l = some ⟨36, [(Std.row x).map V.d]⟩) : aW Tryd.prog h 27 (.ref l 0 0) = some (.d (.agg 3 (Sto.row x.s))) := sW hl nS iz (mq x) (by decide) (by simp [Std.row, Sto.row])
theorem ir {h : List (Nat × Blk)} {l : Nat} {x : Std} (hl : look h l = some ⟨36, [(Std.row x).map V.d]⟩) : aW Tryd.prog h 42 (.ref l 0 3) = some (.d (.agg 32 (ay x.k.l))) := sW hl nT oc (mq x) (by decide) (by simp [Std.row, cO x.k.h])
theorem uh {h : List (Nat × Blk)} {l : Nat} {x : Std} (hl : look h l = some ⟨36, [(Std.row x).map V.d]⟩) : aW Tryd.prog h 43 (.ref l 0 35) = some (.d (.v (.int .i64 x.e))) := nE hl Hr (by
 have := cO x.k.h; have h2 : ∀ (y : D) (r : List D), r.length = 32 → (D.list 33 (x.s.objects.map Ob.row) false :: D.list 1 (x.s.safe.map av) false :: D.list 1 (x.s.queue.map av) false :: (r ++ [y]))[35]? = some y := fun y r hr => by
  simp only [List.getElem?_cons_succ]; rw [List.getElem?_append_right (by omega), hr]; rfl
 exact h2 _ _ this)
theorem BV {h : List (Nat × Blk)} {l : Nat} {x : Std} (hl : look h l = some ⟨36, [(Std.row x).map V.d]⟩) : aW Tryd.prog h 24 (.ref l 0 0) = some (.d (.list 33 (x.s.objects.map Ob.row) false)) := nE hl sB rfl
theorem ui {h : List (Nat × Blk)} {l : Nat} {x : Std} (hl : look h l = some ⟨36, [(Std.row x).map V.d]⟩) : aW Tryd.prog h 25 (.ref l 0 2) = some (.d (.list 1 (x.s.queue.map av) false)) := nE hl pa rfl
theorem uj {h : List (Nat × Blk)} {l : Nat} {x : Sto} (hl : look h l = some ⟨3, [(Sto.row x).map V.d]⟩) : aW Tryd.prog h 24 (.ref l 0 0) = some (.d (.list 33 (x.objects.map Ob.row) false)) := nE hl sB rfl
theorem wK (s : Sto) (x : List UInt8) : (dC s x).1.safe = s.safe ∧ ∃ r, (dC s x).1.queue = s.queue ++ r := by
 by_cases c : 65536 < x.length
 ·rw [y4 s c]; exact ⟨rfl, [], by simp⟩
 cases hf : aY s.objects (Sha.sum x) with
 | some i => rw [pY s c hf]; exact ⟨rfl, [], by simp⟩
 | none =>
  by_cases c2 : 256 ≤ s.objects.length
  ·rw [wJ s c hf c2]; exact ⟨rfl, [], by simp⟩
  ·rw [pX s c hf (by omega)]; exact ⟨rfl, _, rfl⟩
theorem GP (P : Program) (t : TypeId) (x y : Operand) (l : List UInt8) : aD P (do eqGuard .eql t x y (.string ⟨l.toArray⟩) (.string ⟨l.toArray⟩); binOp .eql t (.string ⟨l.toArray⟩) (.string ⟨l.toArray⟩)) = some (.bool true) := by
 rw [AJ]; simp
set_option maxHeartbeats 8000000 in
theorem Fw : aj Tryd.prog HG 10 [] (.v (.bool true)) := by
 have f0 : aY lY.objects (Sha.sum [97]) = none := rfl; obtain ⟨A, hAe⟩ : ∃ A : Std, A = ⟨(dC lY [97]).1, (dC lY [97]).2.1, (dC lY [97]).2.2⟩ := ⟨_, rfl⟩
 have hAq : A = ⟨⟨[⟨eX [97], [97]⟩], [], [iu 0 [97]]⟩, eX [97], 0⟩ := by rw [hAe, pX _ (by decide) f0 (by decide)]; rfl
 have hAs : A.s = ⟨[⟨eX [97], [97]⟩], [], [iu 0 [97]]⟩ := by rw [hAq]
 have hAk : A.k = eX [97] := by rw [hAq]
 have hA0 : A.e = 0 := by rw [hAq]
 have iA : SInv 1 A.s := by rw [hAe]; exact EU.put (by decide) (by decide)
 have hNew : aj Tryd.prog HG 11 [] (.agg 3 (Sto.row lY)) := xh.d rfl () lY rfl; have hA : aj Tryd.prog HG 20 [.agg 3 (Sto.row lY), .list 1 (([97] : List UInt8).map ai) false] (.agg 36 (Std.row A)) := e6.d rfl (lY, ([97] : List UInt8)) A (by rw [hAe]; exact mr EU (by decide) (x := [97]) (by decide)); have fA : aY A.s.objects (Sha.sum [97]) = some 0 := by rw [hAs]; simp [aY, eX]
 have hA2 : aj Tryd.prog HG 20 [.agg 3 (Sto.row A.s), .list 1 (([97] : List UInt8).map ai) false] (.agg 36 (Std.row A)) := e6.d rfl (A.s, ([97] : List UInt8)) A (by
  show eu A.s [97] = _; rw [mr iA (by decide) (by decide), pY _ (by decide) fA]; exact congrArg some (by rw [hAq]))
 have hSy : aj Tryd.prog HG 27 [.agg 3 (Sto.row A.s)] (.agg 3 (Sto.row (gn A.s))) := vm.d rfl A.s _ (Eg iA (by decide)); have iS := iA.sync; obtain ⟨B, hBe⟩ : ∃ B : Std, B = ⟨(dC (gn A.s) [98]).1, (dC (gn A.s) [98]).2.1, (dC (gn A.s) [98]).2.2⟩ := ⟨_, rfl⟩
 have iB : SInv 2 B.s := by rw [hBe]; exact iS.put (by decide) (by decide)
 have hB : aj Tryd.prog HG 20 [.agg 3 (Sto.row (gn A.s)), .list 1 (([98] : List UInt8).map ai) false] (.agg 36 (Std.row B)) := e6.d rfl (gn A.s, ([98] : List UInt8)) B (by rw [hBe]; exact mr iS (by decide) (x := [98]) (by decide)); obtain ⟨Cc, hCe⟩ : ∃ C : Std, C = ⟨(dC A.s [98]).1, (dC A.s [98]).2.1, (dC A.s [98]).2.2⟩ := ⟨_, rfl⟩
 have iC : SInv 2 Cc.s := by rw [hCe]; exact iA.put (by decide) (by decide)
 have hC : aj Tryd.prog HG 20 [.agg 3 (Sto.row A.s), .list 1 (([98] : List UInt8).map ai) false] (.agg 36 (Std.row Cc)) := e6.d rfl (A.s, ([98] : List UInt8)) Cc (by rw [hCe]; exact mr iA (by decide) (x := [98]) (by decide)); have hRA : aj Tryd.prog HG 13 [.agg 3 (Sto.row A.s)] (.v (.bool true)) := fm.d rfl A.s true (mo iA (by decide)); have hRB : aj Tryd.prog HG 13 [.agg 3 (Sto.row B.s)] (.v (.bool true)) := fm.d rfl B.s true (mo iB (by decide)); have hRC : aj Tryd.prog HG 13 [.agg 3 (Sto.row Cc.s)] (.v (.bool true)) := fm.d rfl Cc.s true (mo iC (by decide)); obtain ⟨E, hEe⟩ : ∃ E : Std, E = ⟨evF A.s A.k, ⟨List.replicate 32 0, rfl⟩, if aY A.s.objects A.k.l = none then 331 else 0⟩ := ⟨_, rfl⟩
 have fA2 : aY A.s.objects A.k.l = some 0 := by rw [hAk]; exact fA
 have hEq : E = ⟨⟨[], [], [iu 0 [97], m7 1 A.k.l]⟩, ⟨List.replicate 32 0, rfl⟩, 0⟩ := by
  rw [hEe, fA2, if_neg (by simp)]; unfold evF; rw [fA2, hAs]; rfl
 have iE : SInv 2 E.s := by rw [hEe]; exact iA.evict _ (by decide)
 have hE : aj Tryd.prog HG 23 [.agg 3 (Sto.row A.s), .agg 32 (ay A.k.l)] (.agg 36 (Std.row E)) := nc.d rfl (A.s, A.k) E (by rw [hEe]; exact zN iA (by decide) _); have hSS : aj Tryd.prog HG 29 [.agg 36 (Std.row A), .agg 36 (Std.row A)] (.v (.bool true)) := lS.d rfl (A, A) true (uK (by rw [hAs]; decide) (by rw [hAs]; decide) (by rw [hAs]; decide)); obtain ⟨O1, hO1e⟩ : ∃ O, O = jB B.s [] := ⟨_, rfl⟩
 have hO1l : O1.objects.length = 1 := by
  have h1 : (B.s.safe ++ ca B.s.queue []) = [iu 0 [97]] := by
   have : B.s.safe = [iu 0 [97]] := by rw [hBe]; rw [(wK _ _).1, hAs]; rfl
   rw [this]; cases B.s.queue <;> rfl
  have h2 := iS.good.open; have h3 : cF (gn A.s) = [iu 0 [97]] := by rw [hAs]; rfl
  rw [h3] at h2; rw [hO1e, jB, h1, h2, hAs]; rfl
 have hO1 : aj Tryd.prog HG 25 [.agg 3 (Sto.row B.s), .list 0 [] true] (.agg 3 (Sto.row O1)) :=
  (kE.d rfl (B.s, []) O1 (by rw [hO1e]; exact qe _ (iB.small (by decide)).2.1 (iB.small (by decide)).2.2)).args fun C => fO (D.le.refl _) (fO (ci 0 1 true) fun _ h => h)
 obtain ⟨O2, hO2e⟩ : ∃ O, O = jB Cc.s [false, true] := ⟨_, rfl⟩
 have hO2l : O2.objects.length = 0 := by
  obtain ⟨c1, r, c2⟩ := wK A.s [98]; have h1 : Cc.s.safe = [] := by rw [hCe]; rw [c1, hAs]
  have h2 : Cc.s.queue = iu 0 [97] :: r := by rw [hCe]; rw [c2, hAs]; rfl
  have hg := iC.good; have hall : cF Cc.s = iu 0 [97] :: r := by simp [cF, h1, h2]
  unfold nk at hg; rw [hall] at hg; rw [hO2e, jB, h1, h2, List.nil_append]; cases r with
  | nil => rfl
  | cons y r =>
   obtain ⟨o1, o2, g1, g2⟩ := Aw (i := 1) (b := y) hg rfl; have : ca (iu 0 [97] :: y :: r) [false, true] = [y] := by simp [ca]
   rw [this, cE]; cases hy : bg [] ([] : List (List UInt8)).length y with
   | none => rfl
   | some o => exact absurd (tF hy g2) (by decide)
 have hO2 : aj Tryd.prog HG 25 [.agg 3 (Sto.row Cc.s), .list 1 [[.v (.bool false)], [.v (.bool true)]] true] (.agg 3 (Sto.row O2)) :=
  (kE.d rfl (Cc.s, [false, true]) O2 (by rw [hO2e]; exact qe _ (iC.small (by decide)).2.1 (iC.small (by decide)).2.2)).args fun C => fO (D.le.refl _) (fO (qH 1 _ true) fun _ h => h)
 have hG1 : aj Tryd.prog HG 22 [.agg 3 (Sto.row E.s), .agg 32 (ay A.k.l)] (.agg 2 (Gott.row ⟨[], 331⟩)) := kT.d rfl (E.s, A.k) _ (ES iE (by decide) (by rw [hEq]; rfl)); have hG2 : aj Tryd.prog HG 22 [.agg 3 (Sto.row A.s), .agg 32 (ay A.k.l)] (.agg 2 (Gott.row ⟨[97], 0⟩)) := kT.d rfl (A.s, A.k) _ (ET iA (by decide) fA2 (x := ⟨eX [97], [97]⟩) (by rw [hAs]; rfl)); have hSum : aj Tryd.prog HG 21 [.list 1 (([97] : List UInt8).map ai) false] (.agg 32 (ay A.k.l)) := by
  rw [hAk]; exact uQ [97] (by decide)
 have hS1 : aj Tryd.prog HG 14 [.agg 3 (Sto.row A.s)] (.v (.bool true)) := nz.d rfl A.s true (Co iA (by decide)); have hS2 : aj Tryd.prog HG 14 [.agg 3 [.list 33 [ay (List.replicate 32 0) ++ [.list 0 [] true]] false, .list 0 [] true, .list 0 [] true]] (.v (.bool false)) := by
  have hz : fr ⟨[⟨⟨List.replicate 32 0, rfl⟩, []⟩], [], []⟩ = some false := by
   unfold fr; rw [ii _ (by decide) (by decide), aq]; simp only [List.flatten_cons, List.flatten_nil, List.append_nil]; rw [pS (by simp), aq]; simp only [cE]; rw [tJ rfl, cond_true]; exact fN ((tS [] _ (by decide) (by simp)).trans (by simp))
  refine (nz.d rfl (⟨[⟨⟨List.replicate 32 0, rfl⟩, []⟩], [], []⟩ : Sto) false hz).args fun C => fO ?_ fun _ h => h
  refine fP ⟨?_, ci 0 1 true, ci 0 1 true, trivial⟩; have hA : ∀ (r : List D), LeL (r ++ [.list 0 [] true]) (r ++ [.list 1 [] false]) := fun r => by
   induction r with
   | nil => exact .cons (ci 0 1 true) .nil
   | cons x r ih => exact .cons (D.le.refl x) ih
  exact vY (.cons (hA _) .nil)
 have hEo : E.s.objects.length = 0 := by rw [hEq]; rfl
 have hEl : E.s.queue.length = 2 := by rw [hEq]; rfl
 have hE0 : E.e = 0 := by rw [hEq]
 have hAl : A.s.queue.length = 1 := by rw [hAs]; rfl
 have hkl : A.k.l.length = 32 := A.k.h; clear hAe hAq hAs hAk hBe hCe hEe hEq hO1e hO2e iA iS iB iC iE fA fA2 f0; refine aj.of Tryd.func10 rfl Tryd.ntmps10 (by simp) ?_; intro F hF h0 hT; simp only [List.zipIdx_cons, List.zipIdx_nil, List.map_cons, List.map_nil, Nat.zero_add, Nat.reduceAdd]; refine Sm.seq ?_; refine ab hF rfl ?_; refine gv hF oA (SmG.nil (aa (Sm.seq ?_))); refine ab hF rfl ?_; refine SmG.call hF rfl rfl (by kernel_rfl) rfl rfl rfl (hNew) ?_; refine SmG.buildOwn hF rfl rfl rfl rfl rfl (sz := 1) (rows := ([97] : List UInt8).map ai) (by simp [bn, Tryd.underlying30, sz5, ze5]; rfl) (by simp) ?_; refine SmG.mark hF (rows := ([97] : List UInt8).map ai) rfl rfl rfl rfl rfl rfl (by simp) Tryd.underlying30 Tryd.underlying5 ?_; simp only [cP, bc, gP, dh, cu, bK, if_true, Nat.reduceEqDiff, if_false, Nat.zero_add, List.length_map, Nat.le_refl, and_self]; refine SmG.call hF rfl rfl (by kernel_rfl) rfl rfl rfl (hA) ?_; refine SmG.new hF rfl rfl rfl (aF rfl xV) ?_; refine SmG.store hF rfl rfl rfl rfl rfl (by simp only [go_sem, ac] <;> rfl) ?_; refine SmG.nil (aa (Sm.seq ?_)); refine ab hF rfl ?_; refine gv hF (ag rfl rfl (by simp only [go_sem, ac] <;> rfl)) ?_; refine gv hF (ae rfl rfl (dP rfl)) ?_; refine SmG.buildOwn hF rfl rfl rfl rfl rfl (sz := 1) (rows := ([97] : List UInt8).map ai) (by simp [bn, Tryd.underlying30, sz5, ze5]; rfl) (by simp) ?_; refine SmG.mark hF (rows := ([97] : List UInt8).map ai) rfl rfl rfl rfl rfl rfl (by simp) Tryd.underlying30 Tryd.underlying5 ?_; simp only [cP, bc, gP, dh, cu, bK, if_true, Nat.reduceEqDiff, if_false, Nat.zero_add, List.length_map, Nat.le_refl, and_self]; refine SmG.call hF rfl rfl (by kernel_rfl) rfl rfl rfl (hA2) ?_; refine SmG.new hF rfl rfl rfl (aF rfl xV) ?_; refine SmG.store hF rfl rfl rfl rfl rfl (by simp only [go_sem, ac] <;> rfl) ?_; refine SmG.nil (aa (Sm.seq ?_)); refine ab hF rfl ?_; refine gv hF (ag rfl rfl (by simp only [go_sem, ac] <;> rfl)) ?_; refine gv hF (ae rfl rfl (dP rfl)) ?_; refine SmG.call hF rfl rfl (by kernel_rfl) rfl rfl rfl (hSy) ?_
 refine SmG.buildOwn hF rfl rfl rfl rfl rfl (sz := 1) (rows := ([98] : List UInt8).map ai) (by simp [bn, Tryd.underlying30, sz5, ze5]; rfl) (by simp) ?_; refine SmG.mark hF (rows := ([98] : List UInt8).map ai) rfl rfl rfl rfl rfl rfl (by simp) Tryd.underlying30 Tryd.underlying5 ?_; simp only [cP, bc, gP, dh, cu, bK, if_true, Nat.reduceEqDiff, if_false, Nat.zero_add, List.length_map, Nat.le_refl, and_self]; refine SmG.call hF rfl rfl (by kernel_rfl) rfl rfl rfl (hB) ?_; refine SmG.new hF rfl rfl rfl (aF rfl xV) ?_; refine SmG.store hF rfl rfl rfl rfl rfl (by simp only [go_sem, ac] <;> rfl) ?_; refine SmG.nil (aa (Sm.seq ?_)); refine ab hF rfl ?_; refine gv hF (ag rfl rfl (by simp only [go_sem, ac] <;> rfl)) ?_; refine gv hF (ae rfl rfl (dP rfl)) ?_; refine SmG.buildOwn hF rfl rfl rfl rfl rfl (sz := 1) (rows := ([98] : List UInt8).map ai) (by simp [bn, Tryd.underlying30, sz5, ze5]; rfl) (by simp) ?_; refine SmG.mark hF (rows := ([98] : List UInt8).map ai) rfl rfl rfl rfl rfl rfl (by simp) Tryd.underlying30 Tryd.underlying5 ?_; simp only [cP, bc, gP, dh, cu, bK, if_true, Nat.reduceEqDiff, if_false, Nat.zero_add, List.length_map, Nat.le_refl, and_self]; refine SmG.call hF rfl rfl (by kernel_rfl) rfl rfl rfl (hC) ?_; refine SmG.new hF rfl rfl rfl (aF rfl xV) ?_; refine SmG.store hF rfl rfl rfl rfl rfl (by simp only [go_sem, ac] <;> rfl) ?_; refine SmG.nil (aa (Sm.seq (Sm.seq ?_))); refine ab hF rfl ?_; refine gv hF (ag rfl rfl (by simp only [go_sem, ac] <;> rfl)) ?_; refine gv hF (ae rfl rfl (uh rfl)) ?_; refine gv hF (ah rfl rfl rfl (by exact iO _ _ _ _ _ (by omega))) ?_; refine gv hF oM ?_; refine gv hF (ag rfl rfl (by simp only [go_sem, ac] <;> rfl)) ?_; refine gv hF (ae rfl rfl (dP rfl)) ?_; refine SmG.call hF rfl rfl (by kernel_rfl) rfl rfl rfl (hRA) ?_; refine gv hF (eF rfl rfl (by exact f7 _)) ?_; refine gv hF (aT rfl rfl rfl) ?_; refine gv hF oM ?_; refine gv hF (ag rfl rfl (by simp only [go_sem, ac] <;> rfl)) ?_; refine gv hF (ae rfl rfl (dP rfl)) ?_; refine SmG.call hF rfl rfl (by kernel_rfl) rfl rfl rfl (hRB) ?_
 refine gv hF (eF rfl rfl (by exact f7 _)) ?_; refine gv hF (aT rfl rfl rfl) ?_; refine gv hF oM ?_; refine gv hF (ag rfl rfl (by simp only [go_sem, ac] <;> rfl)) ?_; refine gv hF (ae rfl rfl (dP rfl)) ?_; refine SmG.call hF rfl rfl (by kernel_rfl) rfl rfl rfl (hRC) ?_; refine gv hF (eF rfl rfl (by exact f7 _)) ?_; refine gv hF (aT rfl rfl rfl) ?_; refine SmG.nil (aa ?_); refine aR hF rfl ?_; refine Sm.skip ?_; refine aa (Sm.seq ?_); refine ab hF rfl ?_; refine gv hF (ag rfl rfl (by simp only [go_sem, ac] <;> rfl)) ?_; refine gv hF (ae rfl rfl (dP rfl)) ?_; refine gv hF (ag rfl rfl (by simp only [go_sem, ac] <;> rfl)) ?_; refine gv hF (ae rfl rfl (ir rfl)) ?_; refine SmG.call hF rfl rfl (by kernel_rfl) rfl rfl rfl (hE) ?_; refine SmG.new hF rfl rfl rfl (aF rfl xV) ?_; refine SmG.store hF rfl rfl rfl rfl rfl (by simp only [go_sem, ac] <;> rfl) ?_; refine SmG.nil (aa (Sm.seq ?_)); refine ab hF rfl ?_; refine gv hF (ag rfl rfl (by simp only [go_sem, ac] <;> rfl)) ?_; refine gv hF (ag rfl rfl (by simp only [go_sem, ac] <;> rfl)) ?_; refine gv hF (ae rfl rfl (ui rfl)) ?_; refine gv hF (aJ rfl rfl (by simp only [go_sem, ac] <;> rfl)) ?_; refine gv hF (ah rfl rfl rfl (by exact dK _ _ _ _ _ (by omega))) ?_; refine gv hF oM (gv hF (ae rfl rfl (yN rfl)) (gv hF (ae rfl rfl (yN rfl)) ?_)); refine SmG.call hF rfl rfl (by kernel_rfl) rfl rfl rfl (hSS) ?_; refine gv hF (aN rfl rfl rfl) ?_; refine gv hF oM ?_; refine gv hF (ag rfl rfl (by simp only [go_sem, ac] <;> rfl)) ?_; refine gv hF (ae rfl rfl (uh rfl)) ?_; refine gv hF (ah rfl rfl rfl (by exact dK _ _ _ _ _ (by omega))) ?_; refine gv hF (aN rfl rfl rfl) ?_; refine gv hF oM ?_; refine gv hF (ag rfl rfl (by simp only [go_sem, ac] <;> rfl)) ?_; refine gv hF (ag rfl rfl (by simp only [go_sem, ac] <;> rfl)) ?_; refine gv hF (ae rfl rfl (BV rfl)) ?_; refine gv hF (aJ rfl rfl (by simp only [go_sem, ac] <;> rfl)) ?_; refine gv hF (ah rfl rfl rfl (by exact dK _ _ _ _ _ (by omega))) ?_; refine gv hF (aN rfl rfl rfl) ?_; refine gv hF oM ?_
 refine gv hF (ag rfl rfl (by simp only [go_sem, ac] <;> rfl)) ?_; refine gv hF (ag rfl rfl (by simp only [go_sem, ac] <;> rfl)) ?_; refine gv hF (ae rfl rfl (ui rfl)) ?_; refine gv hF (aJ rfl rfl (by simp only [go_sem, ac] <;> rfl)) ?_; refine gv hF (ah rfl rfl rfl (by exact dK _ _ _ _ _ (by omega))) ?_; refine gv hF (aN rfl rfl rfl) ?_; refine gv hF oA (SmG.nil (aa (Sm.seq ?_))); refine eQ hF (by kernel_rfl) rfl 9 (by kernel_rfl) (by kernel_rfl) ?_; simp only [List.take_succ_cons, List.take_zero, List.take_nil]; refine hv hF (ag rfl rfl (by simp only [go_sem, ac] <;> rfl)) ?_; refine hv hF (ae rfl rfl (dP rfl)) ?_; refine au.c hF rfl rfl (by kernel_rfl) rfl rfl rfl (hO1) ?_; refine hv hF (ag rfl rfl (by simp only [go_sem, ac] <;> rfl)) ?_; refine hv hF (ae rfl rfl (dP rfl)) ?_; refine hv hF (ba rfl rfl (by simp only [go_sem, ac] <;> rfl)) ?_; refine au.c hF rfl rfl (by kernel_rfl) rfl rfl rfl (hO2) ?_; refine au.new hF rfl rfl rfl rfl lL ?_; refine au.new hF rfl rfl rfl rfl lL ?_; refine au.last ⟨rfl, ?_⟩; simp only [List.drop_succ_cons, List.drop_zero, List.drop_nil, List.nil_append, List.cons_append]; refine SmG.store hF rfl rfl rfl rfl rfl (by simp only [go_sem, ac] <;> rfl) ?_; refine SmG.store hF rfl rfl rfl rfl rfl (by simp only [go_sem, ac] <;> rfl) ?_; refine SmG.nil (aa (Sm.seq ?_)); refine Sm.to (cT (st' := ⟨[(6, .d (.v (.bool true))), (1, .ref 1 0 0), (5, .ref 8 0 0), (7, .ref 9 0 0), (8, .ref 10 0 0)], [(1, ⟨36, [(Std.row A).map V.d]⟩), (8, ⟨36, [(Std.row E).map V.d]⟩), (9, ⟨3, [(Sto.row O1).map V.d]⟩), (10, ⟨3, [(Sto.row O2).map V.d]⟩)], 11⟩) (aK ⟨rfl, rfl, rfl, rfl, rfl, trivial⟩ ⟨rfl, rfl, rfl, rfl, trivial⟩ (Nat.le_refl _))) ?_; clear hA hA2 hSy hB hC hRA hRB hRC hE hSS hO1 hO2 hNew; refine dq hF rfl ?_; refine gX hF rfl 0 21 (by kernel_rfl) ?_; simp only [List.take_succ_cons, List.take_zero, List.take_nil, List.drop_succ_cons, List.drop_zero, Nat.reduceSub]; refine hv hF oM (hv hF oM ?_); refine hv hF (ag rfl rfl (by simp only [go_sem, ac] <;> rfl)) ?_
 refine hv hF (ae rfl rfl (dP rfl)) ?_; refine hv hF (ag rfl rfl (by simp only [go_sem, ac] <;> rfl)) ?_; refine hv hF (ae rfl rfl (ir rfl)) ?_; refine au.c hF rfl rfl (by kernel_rfl) rfl rfl rfl (hG1) ?_; refine hv hF (ri rfl rfl (by simp only [go_sem, ac] <;> rfl)) ?_; refine hv hF (ah rfl rfl rfl (by exact lK _ _ _ _ _ _ _)) ?_; refine hv hF (aN rfl rfl rfl) ?_; refine hv hF oM ?_; refine hv hF (ag rfl rfl (by simp only [go_sem, ac] <;> rfl)) ?_; refine hv hF (ae rfl rfl (dP rfl)) ?_; refine hv hF (ag rfl rfl (by simp only [go_sem, ac] <;> rfl)) ?_; refine hv hF (ae rfl rfl (ir rfl)) ?_; refine au.c hF rfl rfl (by kernel_rfl) rfl rfl rfl (hG2) ?_; refine hv hF (ri rfl rfl (by simp only [go_sem, ac] <;> rfl)) ?_; refine hv hF (cw rfl rfl (vh (l := [97]) Tryd.underlying30 Tryd.underlying9 Tryd.underlying5)) (hv hF (ah rfl rfl rfl (GP _ _ _ _ [97])) ?_); refine hv hF (aN rfl rfl rfl) ?_; refine hv hF oM ?_; refine au.last ?_; simp only [List.nil_append, List.cons_append]; refine od (n := 31) rfl rfl ?_; refine ck (n' := 26) (ls' := List.replicate 26 true ++ List.replicate 26 false) ?s1_5 ?h1_5 (fun r1_5 => ?k1_5)
 case' k1_5 => refine ck (n' := 27) (ls' := List.replicate 25 true ++ List.replicate 27 false) ?s1_4 ?h1_4 (fun r1_4 => ?k1_4)
 case' k1_4 => refine ck (n' := 27) (ls' := List.replicate 22 true ++ [false, true, true, true] ++ List.replicate 26 false) ?s1_3 ?h1_3 (fun r1_3 => ?k1_3)
 case' k1_3 => refine ck (n' := 28) (ls' := List.replicate 24 true ++ List.replicate 28 false) ?s1_2 ?h1_2 (fun r1_2 => ?k1_2)
 case' k1_2 => refine ck (n' := 28) (ls' := List.replicate 22 true ++ [false, true, true] ++ List.replicate 27 false) ?s1_1 ?h1_1 (fun r1_1 => ?k1_1)
 case' k1_1 => refine ck (n' := 29) (ls' := List.replicate 22 true ++ [false, true] ++ List.replicate 28 false) ?s1_0 ?h1_0 (fun r1_0 => ?k1_0)
 case k1_0 =>
  refine SmM.step hF [21, 23] rfl (by kernel_rfl) rfl ⟨⟨_, rfl, ?_⟩, ⟨_, rfl, ?_⟩, trivial⟩
  ·refine gv hF (ag rfl rfl (by simp only [go_sem, ac] <;> rfl)) ?_; refine SmG.nil (aa ?_); refine SmM.step hF [22, 23] rfl (by kernel_rfl) rfl ⟨⟨_, rfl, ?_⟩, ⟨_, rfl, ?_⟩, trivial⟩
   ·refine gv hF (ae rfl rfl (ir rfl)) (SmG.nil (aa ?_)); refine SmM.step hF [23] rfl (by kernel_rfl) rfl ⟨⟨_, rfl, ?_⟩, trivial⟩; refine SmG.buildOwn hF rfl rfl rfl rfl rfl (sz := 1) (rows := ([97] : List UInt8).map ai) (by simp [bn, Tryd.underlying30, sz5, ze5]; rfl) (by simp) ?_; refine SmG.nil (aa ?_); exact r1_2
   ·refine SmG.buildOwn hF rfl rfl rfl rfl rfl (sz := 1) (rows := ([97] : List UInt8).map ai) (by simp [bn, Tryd.underlying30, sz5, ze5]; rfl) (by simp) ?_; refine SmG.nil (aa ?_); exact r1_0
  ·refine SmG.buildOwn hF rfl rfl rfl rfl rfl (sz := 1) (rows := ([97] : List UInt8).map ai) (by simp [bn, Tryd.underlying30, sz5, ze5]; rfl) (by simp) ?_; refine SmG.nil (aa ?_); refine SmM.step hF [21, 24] rfl (by kernel_rfl) rfl ⟨⟨_, rfl, ?_⟩, ⟨_, rfl, ?_⟩, trivial⟩
   ·refine gv hF (ag rfl rfl (by simp only [go_sem, ac] <;> rfl)) ?_; refine SmG.nil (aa ?_); exact bz r1_0
   ·refine SmG.mark hF (rows := ([97] : List UInt8).map ai) rfl rfl rfl rfl rfl rfl (by simp) Tryd.underlying30 Tryd.underlying5 ?_; simp only [cP, bc, gP, dh, cu, bK, if_true, Nat.reduceEqDiff, if_false, Nat.zero_add, List.length_map, Nat.le_refl, and_self]; refine SmG.nil (aa ?_); refine SmM.step hF [21, 25] rfl (by kernel_rfl) rfl ⟨⟨_, rfl, ?_⟩, ⟨_, rfl, ?_⟩, trivial⟩
    ·refine gv hF (ag rfl rfl (by simp only [go_sem, ac] <;> rfl)) ?_; refine SmG.nil (aa ?_); exact r1_1
    ·refine SmG.call hF rfl rfl (by kernel_rfl) rfl rfl rfl (hSum) ?_; refine SmG.nil (aa ?_); refine SmM.step hF [21] rfl (by kernel_rfl) rfl ⟨⟨_, rfl, ?_⟩, trivial⟩; refine gv hF (ag rfl rfl (by simp only [go_sem, ac] <;> rfl)) ?_; refine SmG.nil (aa ?_); exact r1_3
 case h1_0 =>
  refine SmM.step hF [22, 24] rfl (by kernel_rfl) rfl ⟨⟨_, rfl, ?_⟩, ⟨_, rfl, ?_⟩, trivial⟩
  ·refine gv hF (ae rfl rfl (ir rfl)) (SmG.nil (aa ?_)); exact bz r1_2
  ·refine SmG.mark hF (rows := ([97] : List UInt8).map ai) rfl rfl rfl rfl rfl rfl (by simp) Tryd.underlying30 Tryd.underlying5 ?_; simp only [cP, bc, gP, dh, cu, bK, if_true, Nat.reduceEqDiff, if_false, Nat.zero_add, List.length_map, Nat.le_refl, and_self]; refine SmG.nil (aa ?_); exact bz r1_1
 case h1_1 =>
  refine SmM.step hF [22, 25] rfl (by kernel_rfl) rfl ⟨⟨_, rfl, ?_⟩, ⟨_, rfl, ?_⟩, trivial⟩
  ·refine gv hF (ae rfl rfl (ir rfl)) (SmG.nil (aa ?_)); exact r1_4
  ·refine SmG.call hF rfl rfl (by kernel_rfl) rfl rfl rfl (hSum) ?_; refine SmG.nil (aa ?_); exact bz r1_3
 case h1_2 =>
  refine SmM.step hF [24] rfl (by kernel_rfl) rfl ⟨⟨_, rfl, ?_⟩, trivial⟩; refine SmG.mark hF (rows := ([97] : List UInt8).map ai) rfl rfl rfl rfl rfl rfl (by simp) Tryd.underlying30 Tryd.underlying5 ?_; simp only [cP, bc, gP, dh, cu, bK, if_true, Nat.reduceEqDiff, if_false, Nat.zero_add, List.length_map, Nat.le_refl, and_self]; refine SmG.nil (aa ?_); exact bz r1_4
 case h1_3 =>
  refine SmM.step hF [22] rfl (by kernel_rfl) rfl ⟨⟨_, rfl, ?_⟩, trivial⟩; refine gv hF (ae rfl rfl (ir rfl)) (SmG.nil (aa ?_)); exact r1_5
 case h1_4 =>
  refine SmM.step hF [25] rfl (by kernel_rfl) rfl ⟨⟨_, rfl, ?_⟩, trivial⟩; refine SmG.call hF rfl rfl (by kernel_rfl) rfl rfl rfl (hSum) ?_; refine SmG.nil (aa ?_); exact bz r1_5
 case h1_5 =>
  refine SmM.step hF [26] rfl (by kernel_rfl) rfl ⟨⟨_, rfl, ?_⟩, trivial⟩; refine gv hF (jv rfl rfl rfl ((qV hkl hkl).trans (by rw [decide_eq_true rfl]))) ?_; refine SmG.nil (aa ?_); refine SmM.step hF [27] rfl (by kernel_rfl) rfl ⟨⟨_, rfl, ?_⟩, trivial⟩; refine gv hF (aN rfl rfl rfl) ?_; refine SmG.nil (aa ?_); refine SmM.step hF [28] rfl (by kernel_rfl) rfl ⟨⟨_, rfl, ?_⟩, trivial⟩; refine gv hF oM (SmG.nil (aa ?_)); refine SmM.step hF [29] rfl (by kernel_rfl) rfl ⟨⟨_, rfl, ?_⟩, trivial⟩; refine gv hF (ag rfl rfl (by simp only [go_sem, ac] <;> rfl)) ?_; refine SmG.nil (aa ?_); refine SmM.step hF [30] rfl (by kernel_rfl) rfl ⟨⟨_, rfl, ?_⟩, trivial⟩; refine gv hF (ae rfl rfl (uj rfl)) (SmG.nil (aa ?_)); refine SmM.step hF [31] rfl (by kernel_rfl) rfl ⟨⟨_, rfl, ?_⟩, trivial⟩; refine gv hF (aJ rfl rfl (by simp only [go_sem, ac] <;> rfl)) ?_; refine SmG.nil (aa ?_); refine SmM.step hF [32] rfl (by kernel_rfl) rfl ⟨⟨_, rfl, ?_⟩, trivial⟩; refine gv hF (ah rfl rfl rfl (by exact dK _ _ _ _ _ (by omega))) ?_; refine SmG.nil (aa ?_); refine SmM.step hF [33] rfl (by kernel_rfl) rfl ⟨⟨_, rfl, ?_⟩, trivial⟩; refine gv hF (aN rfl rfl rfl) ?_; refine SmG.nil (aa ?_); refine SmM.step hF [34] rfl (by kernel_rfl) rfl ⟨⟨_, rfl, ?_⟩, trivial⟩; refine gv hF oM (SmG.nil (aa ?_)); refine SmM.step hF [35] rfl (by kernel_rfl) rfl ⟨⟨_, rfl, ?_⟩, trivial⟩; refine gv hF (ag rfl rfl (by simp only [go_sem, ac] <;> rfl)) ?_; refine SmG.nil (aa ?_); refine SmM.step hF [36] rfl (by kernel_rfl) rfl ⟨⟨_, rfl, ?_⟩, trivial⟩; refine gv hF (ae rfl rfl (uj rfl)) (SmG.nil (aa ?_)); refine SmM.step hF [37] rfl (by kernel_rfl) rfl ⟨⟨_, rfl, ?_⟩, trivial⟩; refine gv hF (aJ rfl rfl (by simp only [go_sem, ac] <;> rfl)) ?_; refine SmG.nil (aa ?_); refine SmM.step hF [38] rfl (by kernel_rfl) rfl ⟨⟨_, rfl, ?_⟩, trivial⟩; refine gv hF (ah rfl rfl rfl (by exact dK _ _ _ _ _ (by omega))) ?_; refine SmG.nil (aa ?_); refine SmM.step hF [39] rfl (by kernel_rfl) rfl ⟨⟨_, rfl, ?_⟩, trivial⟩; refine gv hF (aN rfl rfl rfl) ?_
  refine SmG.nil (aa ?_); refine SmM.step hF [40] rfl (by kernel_rfl) rfl ⟨⟨_, rfl, ?_⟩, trivial⟩; refine gv hF oM (SmG.nil (aa ?_)); refine SmM.step hF [41] rfl (by kernel_rfl) rfl ⟨⟨_, rfl, ?_⟩, trivial⟩; refine gv hF (ag rfl rfl (by simp only [go_sem, ac] <;> rfl)) ?_; refine SmG.nil (aa ?_); refine SmM.step hF [42] rfl (by kernel_rfl) rfl ⟨⟨_, rfl, ?_⟩, trivial⟩; refine gv hF (ae rfl rfl (dP rfl)) (SmG.nil (aa ?_)); refine SmM.step hF [43] rfl (by kernel_rfl) rfl ⟨⟨_, rfl, ?_⟩, trivial⟩; refine SmG.call hF rfl rfl (by kernel_rfl) rfl rfl rfl hS1 ?_; refine SmG.nil (aa ?_); refine SmM.step hF [44] rfl (by kernel_rfl) rfl ⟨⟨_, rfl, ?_⟩, trivial⟩; refine gv hF (aN rfl rfl rfl) ?_; refine SmG.nil (aa ?_); refine SmM.step hF [45] rfl (by kernel_rfl) rfl ⟨⟨_, rfl, ?_⟩, trivial⟩; refine gv hF oM (SmG.nil (aa ?_)); refine SmM.step hF [46] rfl (by kernel_rfl) rfl ⟨⟨_, rfl, ?_⟩, trivial⟩; refine SmG.makeOwn hF qS rfl 1 rfl rfl rfl rfl rfl rfl (by decide) (by decide) ?_; refine SmG.freeze (l := 12) [ay (List.replicate 32 0) ++ [.list 0 [] true]] rfl ?_; simp only [cP, bc, gP, dh, cu, bK, if_true, Nat.reduceEqDiff, if_false, Nat.zero_add, List.length_map, Nat.le_refl, and_self]; refine SmG.nil (aa ?_); refine SmM.step hF [47] rfl (by kernel_rfl) rfl ⟨⟨_, rfl, ?_⟩, trivial⟩; refine gv hF (cW rfl Tryd.underlying27 (by kernel_rfl) rfl (jR (n := 3) IH JP rfl (by repeat' first | apply wx rfl rfl (by first | rfl | simp [ay, ac]) | apply ww rfl rfl rfl (by first | assumption | simp [ay, ac]) | (apply FY; simp only [List.set_cons_succ, List.set_cons_zero, List.take_succ_cons, List.take_zero, List.drop_succ_cons, List.drop_zero, List.drop_nil, List.cons_append, List.nil_append, List.append_nil, ac] <;> rfl)))) ?_; refine SmG.nil (aa ?_); refine SmM.step hF [48] rfl (by kernel_rfl) rfl ⟨⟨_, rfl, ?_⟩, trivial⟩; refine SmG.call hF rfl rfl (by kernel_rfl) rfl rfl rfl hS2 ?_; refine SmG.nil (aa ?_); refine SmM.step hF [49] rfl (by kernel_rfl) rfl ⟨⟨_, rfl, ?_⟩, trivial⟩; refine gv hF (eF rfl rfl (by exact rU _)) ?_
  refine SmG.nil (aa ?_); refine SmM.step hF [50] rfl (by kernel_rfl) rfl ⟨⟨_, rfl, ?_⟩, trivial⟩; refine gv hF (aN rfl rfl rfl) ?_; refine SmG.nil (aa ?_); refine SmM.step hF [51] rfl (by kernel_rfl) rfl ⟨⟨_, rfl, ?_⟩, trivial⟩; refine gv hF oA (SmG.nil (aa ?_)); refine SmM.nil (by kernel_rfl) ?_; refine aa (Sm.ret ?_)
  skip
  exact ⟨_, rfl, D.le.refl _⟩
noncomputable def ij : Option Bool := some true
noncomputable def jE : Con Tryd.prog HG nmS := ⟨10, [], [], .bool, fun _ => ij, false⟩
theorem nX : jE.Ok := ⟨fun _ a r h => by cases h; exact Fw, fun h => by cases h⟩
end
section
noncomputable def cI (a1 : List Bool) (x2 : Sto) (s3 : Int) : Option (Int ⊕ Int) :=
 bif (decide (s3 < (x2.queue.length : Int))) then (
  bif (decide (s3 < (a1.length : Int))) then (
   ob (idx a1 s3) fun x9 =>
   bif x9 then (
    ob (arI .i64 (s3 + 1)) fun x11 =>
    some (.inl x11)
   ) else (
    some (.inr s3)
   )
  ) else (
   some (.inr s3)
  )
 ) else (
  some (.inr s3)
 )
noncomputable def cX (a0 : List SRaw) (a1 : List Bool) : Option Bool :=
 ob (ij ) fun x1 =>
 ob (fa a0 12) fun x2 =>
 ob ((
  cH (cI a1 x2) 0
  : Option Int)) fun v12 =>
 ob (f6 x2 a1) fun x13 =>
 ob (cZ x2) fun x14 =>
 ob (arI .i64 ((x2.safe.length : Int) + v12)) fun x15 =>
 ob (slc x14 0 x15) fun x16 =>
 ob (fQ x16) fun x17 =>
 ob (eN x13) fun x18 =>
 bif x18 then (
  ob (dY x13 x17) fun x20 =>
  bif x20 then (
   ob (arI .i64 ((x2.safe.length : Int) + v12)) fun x22 =>
   bif ((x13.safe.length : Int) == x22) then (
    bif ((x13.queue.length : Int) == 0) then (
     some x1
    ) else (
     some false
    )
   ) else (
    some false
   )
  ) else (
   some false
  )
 ) else (
  some false
 )
theorem k5 (a : (List SRaw) × (List Bool)) : ft (cfA [jE, kz, nv, fX, oq, kg, io] Tryd.f5.ntmps []) [] Tryd.f5 [] [(.lst (.nm 2)), (.lst .bool)] .bool (.jn ⟨[1, 5, 6], [], [0], [(7, (.int .i64))], [], [], 1⟩ false (.lp [] ⟨[1, 5, 6], [], [0], [(7, (.int .i64))], [], [], 1⟩ (.nj (.br (.br (.br .e .e) .e) .e))) (.br (.br (.br (.br .e .e) .e) .e) .e)) a = cX a.1 a.2 := by kernel_rfl
noncomputable def kZ : Con Tryd.prog HG nmS := ⟨5, [], [(.lst (.nm 2)), (.lst .bool)], .bool, fun a => cX a.1 a.2, false⟩
theorem k6 : kZ.Ok := gz (.cons nX (.cons pq (.cons kE (.cons iQ (.cons vj (.cons fm (.cons kB .nil))))))) k5 Tryd.func5 rfl
def cd : List (List UInt8) → List Bool → Nat
 | _ :: qs, true :: ks => cd qs ks + 1
 | _, _ => 0
theorem ue : ∀ (q : List (List UInt8)) (k : List Bool), ∃ r, ca q k = q.take (cd q k) ++ r ∧ (r = [] ∨ ∃ j b r', r = b :: r' ∧ cd q k < j ∧ q[j]? = some b)
 | [], _ => ⟨[], by simp [ca], .inl rfl⟩
 | _ :: _, [] => ⟨[], by simp [ca, cd], .inl rfl⟩
 | q :: qs, true :: ks => by
  obtain ⟨r, h1, h2⟩ := ue qs ks; refine ⟨r, by simp [ca, cd, h1], h2.imp id ?_⟩; rintro ⟨j, b, r', h3, h4, h5⟩; exact ⟨j + 1, b, r', h3, by simp [cd]; omega, by simpa using h5⟩
 | q :: qs, false :: ks => by
  refine ⟨ca qs ks, by simp [ca, cd], ?_⟩; cases hk : ca qs ks with
  | nil => exact .inl rfl
  | cons b r' =>
   right; have hb : b ∈ qs := (ia qs ks).subset (by rw [hk]; simp); obtain ⟨j, hj⟩ := List.mem_iff_getElem?.1 hb; exact ⟨j + 1, b, r', rfl, by simp [cd], by simpa using hj⟩
theorem sQ : ∀ (q : List (List UInt8)) (k : List Bool), cd q k ≤ q.length ∧ cd q k ≤ k.length ∧ (∀ i, i < cd q k → k[i]? = some true) ∧ (cd q k < q.length → cd q k < k.length → k[cd q k]? = some false)
 | [], k => by simp [cd]
 | _ :: _, [] => by simp [cd]
 | q :: qs, true :: ks => by
  obtain ⟨h1, h2, h3, h4⟩ := sQ qs ks; refine ⟨by simp [cd]; omega, by simp [cd]; omega, fun i hi => ?_, fun a b => ?_⟩
  ·cases i with
   | zero => rfl
   | succ i => simp only [cd] at hi; simpa using h3 i (by omega)
  ·simp only [cd, List.length_cons] at a b; simpa [cd] using h4 (by omega) (by omega)
 | q :: qs, false :: ks => by simp [cd]
theorem Br {m : Nat} {s : Sto} (h : SInv m s) (k : List Bool) : ∃ o, jB s k = ⟨o, s.safe ++ s.queue.take (cd s.queue k), []⟩ ∧ cE [] [] (s.safe ++ s.queue.take (cd s.queue k)) = ⟨o, s.safe ++ s.queue.take (cd s.queue k), []⟩ := by
 obtain ⟨r, h1, h2⟩ := ue s.queue k; obtain ⟨l1, l2, _, _⟩ := sQ s.queue k; have e : s.safe ++ s.queue.take (cd s.queue k) = (cF s).take (s.safe.length + cd s.queue k) := by
  simp [cF, List.take_append]; rw [List.take_of_length_le (by omega)]
 obtain ⟨o, ho⟩ := q6 h.good (s.safe.length + cd s.queue k); rw [← e] at ho; have hopen := pR (s := []) ho; simp only [List.nil_append] at hopen; refine ⟨o, ?_, hopen⟩; unfold jB; rw [h1, ← List.append_assoc]; rcases h2 with rfl | ⟨j, b, r', rfl, hj, hb⟩
 ·simpa using hopen
 ·have hi : (cF s)[s.safe.length + j]? = some b := by
   simp only [cF]; rw [List.getElem?_append_right (by omega), Nat.add_sub_cancel_left]; exact hb
  obtain ⟨o1, o2, _, g2⟩ := Aw h.good hi; have hlen : (s.safe ++ s.queue.take (cd s.queue k)).length = s.safe.length + cd s.queue k := by simp; omega
  have hno : bg o (([] : List (List UInt8)).length + (s.safe ++ s.queue.take (cd s.queue k)).length) b = none := by
   cases hq : bg o (([] : List (List UInt8)).length + (s.safe ++ s.queue.take (cd s.queue k)).length) b with
   | none => rfl
   | some o3 =>
    have := tF hq g2; rw [hlen] at this; simp at this; omega
  have := B4 (s := []) (r := r') ho hno; simpa using this
theorem C8 (l : List SRaw) (k : List Bool) : cX l k = some true := by
 unfold cX; rw [show ij = some true from rfl, aq, show (12 : Int) = ((12 : Nat) : Int) from rfl, Fe l 12 (by omega), aq]; have hs := yG l 12 (by omega); generalize fZ l 12 = s at hs; obtain ⟨s1, s2, s3⟩ := hs.small (by omega); obtain ⟨l1, l2, l3, l4⟩ := sQ s.queue k; obtain ⟨o, hb1, hb2⟩ := Br hs k; have hbi := hs.break k; have hloop : cH (cI k s) 0 = some ((cd s.queue k : Nat) : Int) := by
  refine ja (body := cI k s) (fun i => ((i : Nat) : Int)) (cd s.queue k) (fun i hi => ?_) ?_
  ·unfold cI; rw [fj (by omega), cond_true, fj (by omega), cond_true, dJ, l3 i hi, aq, cond_true, bP (by omega), aq]; simp
  ·unfold cI; by_cases c1 : cd s.queue k < s.queue.length
   ·rw [fj (by omega), cond_true]; by_cases c2 : cd s.queue k < k.length
    ·rw [fj (by omega), cond_true, dJ, l4 c1 c2, aq, cond_false]
    ·rw [fW (by omega), cond_false]
   ·rw [fW (by omega), cond_false]
 generalize cd s.queue k = n at hloop l1 l2 l3 l4 hb1 hb2; have htk : (cF s).take (s.safe.length + n) = s.safe ++ s.queue.take n := by
  simp [cF, List.take_append]; rw [List.take_of_length_le (by omega)]
 have hall : (cF s).length = s.safe.length + s.queue.length := by simp [cF]
 rw [hloop, aq, qe k (by omega) s3, aq, zj hs (by omega), aq, bP (by omega), aq, jf (by rw [hall]; omega), aq]; rw [show ((s.safe.length : Int) + (n : Int)).toNat = s.safe.length + n by omega, Int.toNat_zero, List.drop_zero, htk]; have hok : (s.safe ++ s.queue.take n).length ≤ 1000000 ∧ ∀ b ∈ s.safe ++ s.queue.take n, b.length ≤ 1000000 := by
  refine ⟨by simp; omega, fun b hb => ?_⟩; rw [← htk] at hb; exact Nat.le_trans (s3 b (List.mem_of_mem_take hb)) (by omega)
 rw [pS hok, aq, hb2, mo hbi (by omega), aq, cond_true, hb1]; have ho : o.length ≤ 1000000 := by
  have := hbi.obs.2; rw [hb1] at this; simp only at this; omega
 rw [wT (by exact ho) (by simp; omega) (by simp), aq, cond_true, aq, tJ (by simp; omega), cond_true]; simp
theorem kY {a0 : List SRaw} {a1 : List Bool} {r : Bool} (h : cX a0 a1 = some r) : aj Tryd.prog HG 5 [.list 3 (a0.map SRaw.row) false, .list 1 (a1.map ml) false] (.v (.bool r)) := k6.d rfl (a0, a1) r h
end
end Go.Proofs.YtaclinnjekdgoaaDoor
