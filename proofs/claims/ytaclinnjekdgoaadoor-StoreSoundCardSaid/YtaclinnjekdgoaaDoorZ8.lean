/-
  Lemmas, part 8 of 8: walks through the program's functions, and plain Lean about what they compute.
-/
import Derived.Test.YtaclinnjekdgoaaDoorZ1
import Derived.Test.YtaclinnjekdgoaaDoorZ2
import Derived.Test.YtaclinnjekdgoaaDoorZ3
import Derived.Test.YtaclinnjekdgoaaDoorZ4
import Derived.Test.YtaclinnjekdgoaaDoorZ5
import Derived.Test.YtaclinnjekdgoaaDoorZ6
import Derived.Test.YtaclinnjekdgoaaDoorZ7
set_option linter.unnecessarySimpa false
set_option linter.unusedSimpArgs false
set_option linter.unusedVariables false
namespace Go.Proofs.YtaclinnjekdgoaaDoor
section
open Go.RowKit
set_option maxRecDepth 100000
noncomputable def fO (a0 : List UInt8) : Option Int :=
 ob (idx a0 0) fun x1 =>
 ob (qy .i64 (x1.toNat : Int) 24) fun x2 =>
 ob (idx a0 1) fun x3 =>
 ob (qy .i64 (x3.toNat : Int) 16) fun x4 =>
 ob (arI .i64 (x2 + x4)) fun x5 =>
 ob (idx a0 2) fun x6 =>
 ob (qy .i64 (x6.toNat : Int) 8) fun x7 =>
 ob (arI .i64 (x5 + x7)) fun x8 =>
 ob (idx a0 3) fun x9 =>
 ob (arI .i64 (x8 + (x9.toNat : Int))) fun x10 =>
 some x10
set_option maxHeartbeats 4000000 in
theorem n7 {a0 : List UInt8} {r : Int} (h : fO a0 = some r) : ap Tryd.prog HG 48 [.list 1 (a0.map am) false] (.i r) := by
 unfold fO at h
 refine ap.of Tryd.func48 rfl Tryd.ntmps48 (by simp) ?_
 intro F hF h0 hT
 show Sm F _ _ ⟨[(0, .d (.list 1 (a0.map am) false))], [], 0⟩
 refine sr hF (gv hF oA (sn (Sm.seq ?_)))
 refine dG hF 21 ?_
 refine hv hF oM ?_
 obtain ⟨x1, hx1, h⟩ := aq h
 refine hv hF (oI (ee u30 sz5 hx1)) (hv hF (oL (lP1 ag5 rfl)) (hv hF (oC (eQ u5 u3 (jj _))) ?_))
 obtain ⟨x2, hx2, h⟩ := aq h
 refine hv hF (oB (tq hx2)) (hv hF oM ?_)
 obtain ⟨x3, hx3, h⟩ := aq h
 refine hv hF (oI (ee u30 sz5 hx3)) (hv hF (oL (lP1 ag5 rfl)) (hv hF (oC (eQ u5 u3 (jj _))) ?_))
 obtain ⟨x4, hx4, h⟩ := aq h
 refine hv hF (oB (tq hx4)) ?_
 obtain ⟨x5, hx5, h⟩ := aq h
 refine hv hF (oB (dF hx5)) (hv hF oM ?_)
 obtain ⟨x6, hx6, h⟩ := aq h
 refine hv hF (oI (ee u30 sz5 hx6)) (hv hF (oL (lP1 ag5 rfl)) (hv hF (oC (eQ u5 u3 (jj _))) ?_))
 obtain ⟨x7, hx7, h⟩ := aq h
 refine hv hF (oB (tq hx7)) ?_
 obtain ⟨x8, hx8, h⟩ := aq h
 refine hv hF (oB (dF hx8)) (hv hF oM ?_)
 obtain ⟨x9, hx9, h⟩ := aq h
 refine hv hF (oI (ee u30 sz5 hx9)) (hv hF (oL (lP1 ag5 rfl)) (hv hF (oC (eQ u5 u3 (jj _))) ?_))
 refine hE ?_
 obtain ⟨x10, hx10, h⟩ := aq h
 refine gv hF (oB (dF hx10)) (gv hF oA (sn (Sm.ret ?_)))
 obtain rfl := aV h
 exact kc rfl rfl
theorem rX {n : Nat} {k : Nat} (hn : n < 256) (hk : k ≤ 24) : qy .i64 (n : Int) (k : Int) = some ((n * 2 ^ k : Nat) : Int) := by
 unfold qy
 have hm : min ((k : Int).toNat) IntKind.i64.bits = k := by show min _ 64 = _; omega
 rw [if_neg (by omega), hm]
 have h1 : (2 : Nat) ^ k ≤ 2 ^ 24 := Nat.pow_le_pow_right (by omega) hk
 have h2 : n * 2 ^ k < 256 * 2 ^ 24 := Nat.lt_of_lt_of_le (Nat.mul_lt_mul_of_pos_right hn (Nat.pow_pos (by omega))) (Nat.mul_le_mul_left _ h1)
 have e : ((n : Int) * 2 ^ k) = ((n * 2 ^ k : Nat) : Int) := by norm_cast
 rw [e, aX _ (by omega)]
theorem Ec (b0 b1 b2 b3 : UInt8) : fO [b0, b1, b2, b3] = some ((be [b0, b1, b2, b3] : Nat) : Int) := by
 have h0 := b0.toNat_lt
 have h1 := b1.toNat_lt
 have h2 := b2.toNat_lt
 have h3 := b3.toNat_lt
 unfold fO
 rw [show idx [b0, b1, b2, b3] 0 = some b0 from rfl, ay, show (24 : Int) = ((24 : Nat) : Int) from rfl, rX h0 (by omega), ay, show idx [b0, b1, b2, b3] 1 = some b1 from rfl, ay, show (16 : Int) = ((16 : Nat) : Int) from rfl, rX h1 (by omega), ay, cA (by omega), ay,
  show idx [b0, b1, b2, b3] 2 = some b2 from rfl, ay, show (8 : Int) = ((8 : Nat) : Int) from rfl, rX h2 (by omega), ay, cA (by omega), ay, show idx [b0, b1, b2, b3] 3 = some b3 from rfl, ay, cA (by omega), ay]
 simp only [be, List.foldl_cons, List.foldl_nil]
 congr 1
 omega
theorem CR (l : List UInt8) (hl : l.length = 4) : ap Tryd.prog HG 48 [.list 1 (l.map am) false] (.v (.int .i64 (be l))) := by
 rcases l with _ | ⟨b0, _ | ⟨b1, _ | ⟨b2, _ | ⟨b3, _ | ⟨b4, l⟩⟩⟩⟩⟩ <;> simp at hl
 exact n7 (Ec b0 b1 b2 b3)
def ra (l : List UInt8) : Vec 32 := if h : l.length = 32 then ⟨l, h⟩ else ⟨List.replicate 32 0, rfl⟩
def uE : Rcd := ⟨false, 0, 0, [], ⟨List.replicate 32 0, rfl⟩⟩
def ll (B : List UInt8) : Rcd :=
 if (B.getD 0 0).toNat = 80 ∧ be ((B.drop 5).take 4) + 9 = B.length ∧ B.length ≤ 65545 then ⟨true, B.getD 0 0, (be ((B.drop 1).take 4) : Nat), B.drop 9, eK (B.drop 9)⟩
 else if (B.getD 0 0).toNat = 68 ∧ B.length = 37 then ⟨true, B.getD 0 0, (be ((B.drop 1).take 4) : Nat), [], ra (B.drop 5)⟩
 else uE
def tw (b : List UInt8) : Rcd :=
 if b.length < 41 then uE else
 if Sha.sum (b.take (b.length - 32)) ≠ b.drop (b.length - 32) then uE else
 ll (b.take (b.length - 32))
theorem eW {n l : Nat} {t : TypeId} {R : List D} {h : List (Nat × Blk)} {zr zp : List V} (hs : az Tryd.prog t = some n) (hl : look h l = some ⟨n, [zr]⟩) (hp : af zr = some zp) : cT Tryd.prog h t (.ref l 0 0) (.d (.agg n R)) = some (.upd l ⟨n, [R.map V.d]⟩) := by
 simp only [cT, hl, Option.bind_some, List.getElem?_cons_zero, hp, fM, hs]
 simp
theorem gb {n l : Nat} {t : TypeId} {R : List D} {h : List (Nat × Blk)} (hs : az Tryd.prog t = some n) (ha : bc Tryd.prog t = some true) (hl : look h l = some ⟨n, [R.map V.d]⟩) : aW Tryd.prog h t (.ref l 0 0) = some (.d (.agg n R)) := by
 have hs' : seg (R.map V.d) n 0 n = R.map V.d := by
  unfold seg
  rw [if_pos ⟨rfl, rfl⟩]
 have hp : bt (R.map V.d) = some R := f6 _
 simp only [aW, hl, Option.bind_some, List.getElem?_cons_zero, cu, ha, hs, hs', hp]
 simp
theorem lE (r : D) (h : r = .agg 36 ([.v (.bool false), .v (.int .u8 0), .v (.int .i64 0), .list 0 [] true] ++ aA (List.replicate 32 0))) : r.le (.agg 36 (Rcd.row uE)) := by
 rw [h]
 refine ft ?_
 exact ⟨D.le.refl _, D.le.refl _, D.le.refl _, ca 0 1 true, leL.refl _⟩
def nh (k : UInt8) (n : Int) (L : List UInt8) (i : Nat) : List D := [.v (.bool true), .v (.int .u8 (k.toNat : Int)), .v (.int .i64 n), .list 0 [] true] ++ aA (L.take i ++ List.replicate (32 - i) 0)
theorem Eg (k : UInt8) (n : Int) {L : List UInt8} {i : Nat} {y : UInt8} (hL : L.length = 32) (hy : L[i]? = some y) : (nh k n L i).set (4 + i) (aG y) = nh k n L (i + 1) := by
 have hi : i < 32 := by have := (List.getElem?_eq_some_iff.1 hy).1; omega
 unfold nh
 rw [List.set_append_right _ _ (by simp)]
 congr 1
 simp only [List.length_cons, List.length_nil, Nat.zero_add, Nat.reduceAdd, Nat.add_sub_cancel_left]
 unfold aA
 rw [← List.map_set]
 congr 1
 rw [List.take_add_one, hy, List.set_append_right _ _ (by rw [List.length_take]; omega), show 32 - i = (32 - (i + 1)) + 1 by omega, List.replicate_succ]
 have hmin : i - (List.take i L).length = 0 := by simp only [List.length_take]; omega
 rw [hmin, List.set_cons_zero]
 simp
theorem Ez {k : UInt8} {n : Int} {L : List UInt8} {i l : Nat} {y : UInt8} {h : List (Nat × Blk)} (hL : L.length = 32) (hy : L[i]? = some y) (hl : look h l = some ⟨36, [(nh k n L i).map V.d]⟩) : cT Tryd.prog h 5 (.ref l 0 (4 + i)) (.d (aG y)) = some (.upd l ⟨36, [(nh k n L (i + 1)).map V.d]⟩) := by
 have hi : i < 32 := by have := (List.getElem?_eq_some_iff.1 hy).1; omega
 have h1 : ((nh k n L i).map V.d).set (4 + i) (V.d (aG y)) = (nh k n L (i + 1)).map V.d := by
  rw [← List.map_set, Eg k n hL hy]
 have hc : fM (.d (aG y)) = some (1, [.d (aG y)]) := rfl
 simp only [cT, hl, Option.bind_some, List.getElem?_cons_zero, cu, hc, sz5]
 rw [if_pos ⟨trivial, by omega⟩, if_neg (by omega), if_pos trivial, h1]
 rfl
set_option maxHeartbeats 4000000 in
theorem CQ (b : List UInt8) (hb : b.length ≤ 1000000) : ap Tryd.prog HG 28 [.list 1 (b.map am) false] (.agg 36 (Rcd.row (tw b))) := by
 unfold tw
 by_cases c1 : b.length < 41
 ·rw [if_pos c1]
  refine ap.of Tryd.func28 rfl Tryd.ntmps28 (by simp) ?_; intro F hF h0 hT; simp only [List.zipIdx_cons, List.zipIdx_nil, List.map_cons, List.map_nil, Nat.zero_add, Nat.reduceAdd]
  refine Sm.seq ?_
  refine ab hF rfl ?_
  refine SmG.new hF rfl rfl rfl (aF rfl zW) ?_
  refine SmG.nil (aa (Sm.seq (Sm.seq ?_)))
  refine ab hF rfl ?_
  refine gv hF oM ?_
  refine gv hF (aJ rfl rfl (by simp (disch := omega) only [go_sem, Nat.reduceEqDiff, ai, af] <;> rfl)) ?_
  refine gv hF (ah rfl rfl rfl (by exact dO _ _ _ _ _ (by omega))) ?_
  refine SmG.nil (aa ?_)
  refine aY hF rfl ?_
  refine Sm.seq ?_
  refine ab hF rfl ?_
  refine gv hF (cK rfl Tryd.underlying64 (by kernel_rfl) rfl ud) ?_
  refine SmG.store hF rfl rfl rfl rfl rfl (eW f7 rfl rfl) ?_
  refine SmG.nil (aa (Sm.ret ?_))
  simp only [aZ, bP]
  refine cC rfl rfl (gb f7 lM rfl) ?_
  exact lE _ rfl
 rw [if_neg c1]
 obtain ⟨E, hE⟩ : ∃ E, b.length = E + 32 := ⟨b.length - 32, by omega⟩
 have hE2 : (b.length : Int) - 32 = (E : Int) := by omega
 have hE3 : b.length - 32 = E := by omega
 have hlb : (b.take E).length = E := by simp; omega
 have hlt : (b.drop E).length = 32 := by simp; omega
 rw [hE3]
 have csum := xW (b.take E) (by omega) HG
 obtain ⟨sx, hsx⟩ : ∃ sx : Vec 32, sx.l = Sha.sum (b.take E) := ⟨eK _, rfl⟩
 rw [← hsx] at csum ⊢
 have hsl := sx.h
 have hrl : (aA sx.l).length = 32 := da hsl
 have hch : fF 1 32 (aA sx.l) = sx.l.map am := by
  have := mz (aA sx.l)
  rw [hrl] at this
  rw [this]; simp [aA, am]
 have htk : (sx.l.map am).take 32 = sx.l.map am := List.take_of_length_le (by simp [hsl])
 refine ap.of Tryd.func28 rfl Tryd.ntmps28 (by simp) ?_; intro F hF h0 hT; simp only [List.zipIdx_cons, List.zipIdx_nil, List.map_cons, List.map_nil, Nat.zero_add, Nat.reduceAdd]
 refine Sm.seq ?_
 refine ab hF rfl ?_
 refine SmG.new hF rfl rfl rfl (aF rfl zW) ?_
 refine SmG.nil (aa (Sm.seq (Sm.seq ?_)))
 refine ab hF rfl ?_
 refine gv hF oM ?_
 refine gv hF (aJ rfl rfl (by simp (disch := omega) only [go_sem, Nat.reduceEqDiff, ai, af, ← List.map_take, ← List.map_drop] <;> rfl)) ?_
 refine gv hF (ah rfl rfl rfl (by exact ey _ _ _ _ _ (by omega))) ?_
 refine SmG.nil (aa ?_)
 refine aR hF rfl ?_
 refine Sm.skip ?_
 refine aa (Sm.seq ?_)
 refine ab hF rfl ?_
 refine gv hF oM ?_
 refine gv hF (aJ rfl rfl (by simp (disch := omega) only [go_sem, Nat.reduceEqDiff, ai, af, ← List.map_take, ← List.map_drop] <;> rfl)) ?_
 refine gv hF (ah rfl rfl rfl ((gu _ _ _ _ _ (aX _ (by omega))).trans (by rw [hE2]))) ?_
 refine gv hF oA (SmG.nil (aa (Sm.seq ?_)))
 refine ab hF rfl ?_
 refine gv hF oM (gv hF oM ?_)
 refine gv hF (bK rfl rfl rfl rfl rfl (by simp (disch := omega) only [go_sem, Nat.reduceEqDiff, ai, af, ← List.map_take, ← List.map_drop] <;> rfl)) ?_
 refine SmG.call hF rfl rfl (by kernel_rfl) rfl rfl rfl (csum) ?_
 refine SmG.new hF rfl rfl rfl (aF rfl lN) ?_
 refine SmG.store hF rfl rfl rfl rfl rfl (by simp (disch := omega) only [go_sem, Nat.reduceEqDiff, ai, af, ← List.map_take, ← List.map_drop] <;> rfl) ?_
 refine SmG.nil (aa (Sm.seq (Sm.seq ?_)))
 simp only [rep, Nat.zero_add, Nat.reduceEqDiff, if_true, if_false]
 refine Sm.freeze (l := 1) [aA sx.l] rfl ?_
 simp only [Pk.v, c8, bn, b7,  reduceIte, Nat.reduceAdd, Nat.zero_add, List.length_map, List.length_append, Nat.le_refl, true_and, and_self, if_true, Nat.reduceEqDiff, true_and]
 refine eE hF (by kernel_rfl) rfl 7 (by kernel_rfl) (by kernel_rfl) ?_
 simp only [List.take_succ_cons, List.take_zero, List.take_nil]
 refine hv hF (bK rfl rfl rfl rfl rfl (by simp (disch := omega) only [go_sem, Nat.reduceEqDiff, ai, af, ← List.map_take, ← List.map_drop, hch, htk, gX] <;> rfl)) ?_
 refine hv hF (cO rfl rfl (by simp (disch := omega) only [go_sem, Nat.reduceEqDiff, ai, af, ← List.map_take, ← List.map_drop, hch, htk, gX] <;> rfl)) ?_
 refine hv hF oM (hv hF oM ?_)
 refine hv hF (bK rfl rfl rfl rfl rfl (by simp (disch := omega) only [go_sem, Nat.reduceEqDiff, ai, af, ← List.map_take, ← List.map_drop, hch, htk, gX] <;> rfl)) ?_
 refine hv hF (cO rfl rfl (by simp (disch := omega) only [go_sem, Nat.reduceEqDiff, ai, af, ← List.map_take, ← List.map_drop, hch, htk, gX] <;> rfl)) ?_
 refine au.v (x := .d (.v (.bool (sx.l != b.drop E)))) hF rfl rfl rfl (ah rfl rfl rfl (CJ rfl)) ?_
 refine au.last ⟨rfl, ?_⟩
 simp only [List.drop_succ_cons, List.drop_zero, List.drop_nil, List.nil_append, List.cons_append]
 refine SmG.nil (aa ?_)
 by_cases hs : sx.l = b.drop E
 case neg =>
  rw [if_pos (by exact hs), show (sx.l != b.drop E) = true by simp [hs]]
  refine aY hF rfl ?_
  refine Sm.seq ?_
  refine ab hF rfl ?_
  refine gv hF (cK rfl Tryd.underlying64 (by kernel_rfl) rfl ud) ?_
  refine SmG.store hF rfl rfl rfl rfl rfl (eW f7 rfl rfl) ?_
  refine SmG.nil (aa (Sm.ret ?_))
  simp only [aZ, bP]
  refine cC rfl rfl (gb f7 lM rfl) ?_
  exact lE _ rfl
 rw [if_neg (by simp [hs]), show (sx.l != b.drop E) = false by simp [hs]]
 obtain ⟨kind, hk⟩ : ∃ kind, b[0]? = some kind := ⟨b[0]'(by omega), List.getElem?_eq_getElem (by omega)⟩
 have hkB : (b.take E).getD 0 0 = kind := by
  have : (b.take E)[0]? = some kind := by rw [List.getElem?_take]; simp [hk]; omega
  simp [List.getD_eq_getElem?_getD, this]
 have e1 : (b.take 5).drop 1 = ((b.take E).drop 1).take 4 := by
  rw [List.drop_take, List.drop_take, List.take_take]; congr 1; omega
 have e5 : (b.take 9).drop 5 = ((b.take E).drop 5).take 4 := by
  rw [List.drop_take, List.drop_take, List.take_take]; congr 1; omega
 have h1 : ((b.take 5).drop 1).length = 4 := by simp; omega
 have h5 : ((b.take 9).drop 5).length = 4 := by simp; omega
 unfold ll
 rw [hkB, ← e1, ← e5, hlb]
 have cr1 := CR _ h1
 have cr5 := CR _ h5
 generalize hl1 : (b.take 5).drop 1 = l1 at cr1 h1
 generalize hl5 : (b.take 9).drop 5 = l5 at cr5 h5
 have hm1 : List.drop 1 (List.take (Int.toNat 5) b) = l1 := hl1
 have hm5 : List.drop (Int.toNat 5) (List.take (Int.toNat 9) b) = l5 := hl5
 refine aR hF rfl ?_
 refine Sm.skip ?_
 refine aa (Sm.seq ?_)
 refine c9 hF rfl ?_
 refine gC hF rfl 0 9 (by kernel_rfl) ?_
 simp only [List.take_succ_cons, List.take_zero, List.take_nil, List.drop_succ_cons, List.drop_zero, Nat.reduceSub]
 refine hv hF oM ?_
 refine hv hF (aj rfl rfl rfl (by simp (disch := omega) only [go_sem, Nat.reduceEqDiff, ai, af, ← List.map_take, ← List.map_drop, hk, am, aG, hm1, hm5] <;> rfl)) ?_
 refine hv hF (ac rfl rfl (by simp (disch := omega) only [go_sem, Nat.reduceEqDiff, ai, af, ← List.map_take, ← List.map_drop, hk, am, aG, hm1, hm5] <;> rfl)) ?_
 refine hv hF oM ?_
 refine hv hF (bK rfl rfl rfl rfl rfl (by simp (disch := omega) only [go_sem, Nat.reduceEqDiff, ai, af, ← List.map_take, ← List.map_drop, hk, am, aG, hm1, hm5] <;> rfl)) ?_
 refine au.c hF rfl rfl (by kernel_rfl) rfl rfl rfl (cr1) ?_
 refine hv hF (cK rfl Tryd.underlying64 (by kernel_rfl) rfl (jl (n := 36) I6 IA rfl (by repeat' first | apply vh rfl rfl (by first | rfl | simp [aA, af, ← List.map_take, ← List.map_drop, hk, am, aG, hm1, hm5]) | apply vg rfl rfl rfl (by first | assumption | simp [aA, af, ← List.map_take, ← List.map_drop, hk, am, aG, hm1, hm5]) | (apply EQ; simp only [List.set_cons_succ, List.set_cons_zero, List.take_succ_cons, List.take_zero, List.drop_succ_cons, List.drop_zero, List.drop_nil, List.cons_append, List.nil_append, List.append_nil, af, ← List.map_take, ← List.map_drop, hk, am, aG, hm1, hm5] <;> rfl)))) ?_
 refine au.new hF rfl rfl rfl rfl zW ?_
 refine au.st hF rfl rfl rfl rfl rfl rfl (eW f7 rfl rfl) ?_
 refine au.last ?_
 simp only [List.nil_append, List.cons_append]
 refine SmA.nil (Nat.le_of_ble_eq_true rfl) ?_
 refine aa (Sm.seq (Sm.seq ?_))
 by_cases k80 : kind.toNat = 80
 ·by_cases cn : be l5 + 9 = E
  ·by_cases cl : E ≤ 65545
   ·rw [if_pos ⟨k80, cn, cl⟩]
    have hx : (b.take E).drop 9 = (b.take E).drop 9 := rfl
    have hxl : ((b.take E).drop 9).length ≤ 1000000 := by simp; omega
    have csx := xW _ hxl HG
    have hnil : List.drop (Int.toNat 9) (List.take E b) = (b.take E).drop 9 := rfl
    generalize (b.take E).drop 9 = x at hxl csx hnil
    obtain ⟨sv, hsv, hsv2⟩ : ∃ sv : Vec 32, sv.l = Sha.sum x ∧ sv = eK x := ⟨eK x, rfl, rfl⟩
    rw [← hsv] at csx
    rw [← hsv2]
    refine ab hF rfl ?_
    refine gv hF oM ?_
    refine gv hF (aj rfl rfl rfl (by simp (disch := omega) only [go_sem, Nat.reduceEqDiff, ai, af, ← List.map_take, ← List.map_drop, hk, am, aG, hm5] <;> rfl)) ?_
    refine gv hF (ac rfl rfl (by simp (disch := omega) only [go_sem, Nat.reduceEqDiff, ai, af, ← List.map_take, ← List.map_drop, hk, am, aG, hm5] <;> rfl)) ?_
    refine gv hF (ah rfl rfl rfl (by exact dC _ _ _ _ _ (by omega))) ?_
    refine gv hF oM ?_
    refine gv hF oM ?_
    refine gv hF (bK rfl rfl rfl rfl rfl (by simp (disch := omega) only [go_sem, Nat.reduceEqDiff, ai, af, ← List.map_take, ← List.map_drop, hk, am, aG, hm5] <;> rfl)) ?_
    refine SmG.call hF rfl rfl (by kernel_rfl) rfl rfl rfl (cr5) ?_
    refine gv hF oM ?_
    refine gv hF (ah rfl rfl rfl (by exact gu _ _ _ _ _ (aX _ (by omega)))) ?_
    refine gv hF (ah rfl rfl rfl (by exact dC _ _ _ _ _ (by omega))) ?_
    refine gv hF (aN rfl rfl rfl) ?_
    refine gv hF oM ?_
    refine gv hF oM ?_
    refine gv hF (ah rfl rfl rfl (by exact gu _ _ _ _ _ (aX _ (by omega)))) ?_
    refine gv hF (ah rfl rfl rfl (by exact qT _ _ _ _ _ (by omega))) ?_
    refine gv hF (aN rfl rfl rfl) ?_
    refine SmG.nil (aa ?_)
    refine aY hF rfl ?_
    refine Sm.seq ?_
    refine ab hF rfl ?_
    refine gv hF (bg rfl rfl (by simp (disch := omega) only [go_sem, Nat.reduceEqDiff, ai, af, ← List.map_take, ← List.map_drop, hnil, List.append_nil] <;> rfl)) ?_
    refine gv hF oM (gv hF oM ?_)
    refine gv hF (bK rfl rfl rfl rfl rfl (by simp (disch := omega) only [go_sem, Nat.reduceEqDiff, ai, af, ← List.map_take, ← List.map_drop, hnil, List.append_nil] <;> rfl)) ?_
    refine SmG.append hF pP rfl rfl rfl rfl rfl rfl (Or.inr rfl) (Or.inl rfl) (by simp; omega) (by simp; omega) ?_
    refine gv hF (ag rfl rfl (by simp (disch := omega) only [go_sem, Nat.reduceEqDiff, ai, af, ← List.map_take, ← List.map_drop, hnil, List.append_nil] <;> rfl)) ?_
    refine SmG.store hF rfl rfl rfl rfl rfl (by simp (disch := omega) only [go_sem, Nat.reduceEqDiff, ai, af, ← List.map_take, ← List.map_drop, hnil, List.append_nil] <;> rfl) ?_
    refine SmG.nil (aa (Sm.seq ?_))
    refine ab hF rfl ?_
    refine gv hF (ag rfl rfl (by simp (disch := omega) only [go_sem, Nat.reduceEqDiff, ai, af, ← List.map_take, ← List.map_drop, hnil, List.append_nil] <;> rfl)) ?_
    refine gv hF (ac rfl rfl (by simp (disch := omega) only [go_sem, Nat.reduceEqDiff, ai, af, ← List.map_take, ← List.map_drop, hnil, List.append_nil] <;> rfl)) ?_
    refine SmG.call hF rfl rfl (by kernel_rfl) rfl rfl rfl (csx) ?_
    refine gv hF (ag rfl rfl (by simp (disch := omega) only [go_sem, Nat.reduceEqDiff, ai, af, ← List.map_take, ← List.map_drop, hnil, List.append_nil] <;> rfl)) ?_
    refine SmG.store hF rfl rfl rfl rfl rfl (by simp (disch := omega) only [go_sem, Nat.reduceEqDiff, ai, af, ← List.map_take, ← List.map_drop, hnil, List.append_nil] <;> rfl) ?_
    refine SmG.nil (aa (Sm.seq ?_))
    refine Sm.to (cH (st' := ⟨[(2, .ref 0 0 0), (5, .ref 2 0 0)], [(2, ⟨36, [(Rcd.row ⟨true, kind, (be l1 : Nat), x, sv⟩).map V.d]⟩), (0, ⟨36, [([.v (.bool false), .v (.int .u8 0), .v (.int .i64 0), .list 0 [] true] ++ List.replicate 32 (.v (.int .u8 0)) : List D).map V.d]⟩)], 3⟩) (aK ⟨rfl, rfl, trivial⟩ ⟨rfl, rfl, trivial⟩ (Nat.le_refl _))) ?_
    refine ab hF rfl ?_
    refine gv hF (ac rfl rfl (gb f7 lM rfl)) ?_
    refine SmG.store hF rfl rfl rfl rfl rfl (eW f7 rfl rfl) ?_
    refine SmG.nil (aa (Sm.ret ?_))
    simp only [aZ, bP]
    exact cC rfl rfl (gb f7 lM rfl) (D.le.refl _)
   ·rw [if_neg (by omega), if_neg (by omega)]
    refine ab hF rfl ?_
    refine gv hF oM ?_
    refine gv hF (aj rfl rfl rfl (by simp (disch := omega) only [go_sem, Nat.reduceEqDiff, ai, af, ← List.map_take, ← List.map_drop, hk, am, aG, hm5] <;> rfl)) ?_
    refine gv hF (ac rfl rfl (by simp (disch := omega) only [go_sem, Nat.reduceEqDiff, ai, af, ← List.map_take, ← List.map_drop, hk, am, aG, hm5] <;> rfl)) ?_
    refine gv hF (ah rfl rfl rfl (by exact dC _ _ _ _ _ (by omega))) ?_
    refine gv hF oM ?_
    refine gv hF oM ?_
    refine gv hF (bK rfl rfl rfl rfl rfl (by simp (disch := omega) only [go_sem, Nat.reduceEqDiff, ai, af, ← List.map_take, ← List.map_drop, hk, am, aG, hm5] <;> rfl)) ?_
    refine SmG.call hF rfl rfl (by kernel_rfl) rfl rfl rfl (cr5) ?_
    refine gv hF oM ?_
    refine gv hF (ah rfl rfl rfl (by exact gu _ _ _ _ _ (aX _ (by omega)))) ?_
    refine gv hF (ah rfl rfl rfl (by exact dC _ _ _ _ _ (by omega))) ?_
    refine gv hF (aN rfl rfl rfl) ?_
    refine gv hF oM ?_
    refine gv hF oM ?_
    refine gv hF (ah rfl rfl rfl (by exact gu _ _ _ _ _ (aX _ (by omega)))) ?_
    refine gv hF (ah rfl rfl rfl (by exact uD _ _ _ _ _ (by omega))) ?_
    refine gv hF (aN rfl rfl rfl) ?_
    refine SmG.nil (aa ?_)
    refine aR hF rfl ?_
    refine Sm.skip ?_
    refine aa (Sm.seq (Sm.seq ?_))
    refine ab hF rfl ?_
    refine gv hF oM ?_
    refine gv hF (aj rfl rfl rfl (by simp (disch := omega) only [go_sem, Nat.reduceEqDiff, ai, af, ← List.map_take, ← List.map_drop, hk, am, aG, hm5] <;> rfl)) ?_
    refine gv hF (ac rfl rfl (by simp (disch := omega) only [go_sem, Nat.reduceEqDiff, ai, af, ← List.map_take, ← List.map_drop, hk, am, aG, hm5] <;> rfl)) ?_
    refine gv hF (ah rfl rfl rfl (by exact lC _ _ _ _ _ (by omega))) ?_
    refine gv hF oM ?_
    refine gp hF ?_
    refine gp hF ?_
    refine gv hF (aN rfl rfl rfl) ?_
    refine SmG.nil (aa ?_)
    refine aY hF rfl ?_
    refine Sm.seq ?_
    refine ab hF rfl ?_
    refine gv hF (cK rfl Tryd.underlying64 (by kernel_rfl) rfl ud) ?_
    refine SmG.store hF rfl rfl rfl rfl rfl (eW f7 rfl rfl) ?_
    refine SmG.nil (aa (Sm.ret ?_))
    simp only [aZ, bP]
    refine cC rfl rfl (gb f7 lM rfl) (lE _ rfl)
  ·rw [if_neg (by omega), if_neg (by omega)]
   refine ab hF rfl ?_
   refine gv hF oM ?_
   refine gv hF (aj rfl rfl rfl (by simp (disch := omega) only [go_sem, Nat.reduceEqDiff, ai, af, ← List.map_take, ← List.map_drop, hk, am, aG, hm5] <;> rfl)) ?_
   refine gv hF (ac rfl rfl (by simp (disch := omega) only [go_sem, Nat.reduceEqDiff, ai, af, ← List.map_take, ← List.map_drop, hk, am, aG, hm5] <;> rfl)) ?_
   refine gv hF (ah rfl rfl rfl (by exact dC _ _ _ _ _ (by omega))) ?_
   refine gv hF oM ?_
   refine gv hF oM ?_
   refine gv hF (bK rfl rfl rfl rfl rfl (by simp (disch := omega) only [go_sem, Nat.reduceEqDiff, ai, af, ← List.map_take, ← List.map_drop, hk, am, aG, hm5] <;> rfl)) ?_
   refine SmG.call hF rfl rfl (by kernel_rfl) rfl rfl rfl (cr5) ?_
   refine gv hF oM ?_
   refine gv hF (ah rfl rfl rfl (by exact gu _ _ _ _ _ (aX _ (by omega)))) ?_
   refine gv hF (ah rfl rfl rfl (by exact iY _ _ _ _ _ (by omega))) ?_
   refine gv hF (aN rfl rfl rfl) ?_
   refine gv hF oM ?_
   refine gp hF ?_
   refine gp hF ?_
   refine gp hF ?_
   refine gv hF (aT rfl rfl rfl) ?_
   refine SmG.nil (aa ?_)
   refine aR hF rfl ?_
   refine Sm.skip ?_
   refine aa (Sm.seq (Sm.seq ?_))
   refine ab hF rfl ?_
   refine gv hF oM ?_
   refine gv hF (aj rfl rfl rfl (by simp (disch := omega) only [go_sem, Nat.reduceEqDiff, ai, af, ← List.map_take, ← List.map_drop, hk, am, aG, hm5] <;> rfl)) ?_
   refine gv hF (ac rfl rfl (by simp (disch := omega) only [go_sem, Nat.reduceEqDiff, ai, af, ← List.map_take, ← List.map_drop, hk, am, aG, hm5] <;> rfl)) ?_
   refine gv hF (ah rfl rfl rfl (by exact lC _ _ _ _ _ (by omega))) ?_
   refine gv hF oM ?_
   refine gp hF ?_
   refine gp hF ?_
   refine gv hF (aN rfl rfl rfl) ?_
   refine SmG.nil (aa ?_)
   refine aY hF rfl ?_
   refine Sm.seq ?_
   refine ab hF rfl ?_
   refine gv hF (cK rfl Tryd.underlying64 (by kernel_rfl) rfl ud) ?_
   refine SmG.store hF rfl rfl rfl rfl rfl (eW f7 rfl rfl) ?_
   refine SmG.nil (aa (Sm.ret ?_))
   simp only [aZ, bP]
   refine cC rfl rfl (gb f7 lM rfl) (lE _ rfl)
 ·by_cases k68 : kind.toNat = 68
  ·by_cases c37 : E = 37
   ·rw [if_neg (by omega), if_pos ⟨k68, c37⟩]
    have hL : ((b.take E).drop 5).length = 32 := by simp; omega
    have hLi : ∀ i, i < 32 → b[5 + i]? = ((b.take E).drop 5)[i]? := fun i hi => by
     rw [List.getElem?_drop, List.getElem?_take, if_pos (by omega)]
    generalize (b.take E).drop 5 = L at hL hLi
    refine ab hF rfl ?_
    refine gv hF oM ?_
    refine gv hF (aj rfl rfl rfl (by simp (disch := omega) only [go_sem, Nat.reduceEqDiff, ai, af, ← List.map_take, ← List.map_drop, hk, am, aG, hm5] <;> rfl)) ?_
    refine gv hF (ac rfl rfl (by simp (disch := omega) only [go_sem, Nat.reduceEqDiff, ai, af, ← List.map_take, ← List.map_drop, hk, am, aG, hm5] <;> rfl)) ?_
    refine gv hF (ah rfl rfl rfl (by exact iY _ _ _ _ _ (by omega))) ?_
    refine gv hF oM ?_
    refine gp hF ?_
    refine gp hF ?_
    refine gp hF ?_
    refine gp hF ?_
    refine gp hF ?_
    refine gp hF ?_
    refine gv hF (aT rfl rfl rfl) ?_
    refine gv hF oM ?_
    refine gp hF ?_
    refine gp hF ?_
    refine gp hF ?_
    refine gv hF (aT rfl rfl rfl) ?_
    refine SmG.nil (aa ?_)
    refine aR hF rfl ?_
    refine Sm.skip ?_
    refine aa (Sm.seq (Sm.seq ?_))
    refine ab hF rfl ?_
    refine gv hF oM ?_
    refine gv hF (aj rfl rfl rfl (by simp (disch := omega) only [go_sem, Nat.reduceEqDiff, ai, af, ← List.map_take, ← List.map_drop, hk, am, aG, hm5] <;> rfl)) ?_
    refine gv hF (ac rfl rfl (by simp (disch := omega) only [go_sem, Nat.reduceEqDiff, ai, af, ← List.map_take, ← List.map_drop, hk, am, aG, hm5] <;> rfl)) ?_
    refine gv hF (ah rfl rfl rfl (by exact ia _ _ _ _ _ (by omega))) ?_
    refine gv hF oM ?_
    refine gv hF oM ?_
    refine gv hF (ah rfl rfl rfl (by exact ia _ _ _ _ _ (by omega))) ?_
    refine gv hF (aT rfl rfl rfl) ?_
    refine SmG.nil (aa ?_)
    refine aR hF rfl ?_
    refine Sm.skip ?_
    refine aa (Sm.seq (Sm.seq ?_))
    refine Sm.to (cH (st' := ⟨[(0, .d (.list 1 (b.map am) false)), (2, .ref 0 0 0), (5, .ref 2 0 0)], [(2, ⟨36, [(nh kind (be l1 : Nat) L 0).map V.d]⟩), (0, ⟨36, [([.v (.bool false), .v (.int .u8 0), .v (.int .i64 0), .list 0 [] true] ++ List.replicate 32 (.v (.int .u8 0)) : List D).map V.d]⟩)], 3⟩) (aK ⟨rfl, rfl, rfl, trivial⟩ ⟨rfl, rfl, trivial⟩ (Nat.le_refl _))) ?_
    refine ab hF rfl ?_
    refine gv hF oA (SmG.nil (aa (Sm.block ?_)))
    refine Sm.loop (ι := {i : Nat // i ≤ 32}) (fun i => ⟨[(0, .d (.list 1 (b.map am) false)), (2, .ref 0 0 0), (5, .ref 2 0 0), (6, .d (.v (.int .i64 i.1)))], [(2, ⟨36, [(nh kind (be l1 : Nat) L i.1).map V.d]⟩), (0, ⟨36, [([.v (.bool false), .v (.int .u8 0), .v (.int .i64 0), .list 0 [] true] ++ List.replicate 32 (.v (.int .u8 0)) : List D).map V.d]⟩)], 3⟩) (fun i => 32 - i.1) (⟨0, by omega⟩) ?_ ?_
    ·exact aK ⟨rfl, rfl, rfl, rfl, trivial⟩ ⟨rfl, rfl, trivial⟩ (Nat.le_refl _)
    rintro ⟨i, hi⟩
    simp only
    by_cases hlt : i < 32
    ·obtain ⟨y, hy⟩ : ∃ y, L[i]? = some y := ⟨L[i]'(by omega), List.getElem?_eq_getElem (by omega)⟩
     have hby : b[5 + i]? = some y := by rw [hLi i hlt, hy]
     have h5i : (5 : Int) + (i : Int) = ((5 + i : Nat) : Int) := by omega
     refine Sm.seq (Sm.seq ?_)
     refine ab hF rfl ?_
     refine gv hF oM ?_
     refine gv hF (ah rfl rfl rfl (by exact dO _ _ _ _ _ (by omega))) ?_
     refine SmG.nil (aa ?_)
     refine aY hF rfl ?_
     refine Sm.skip ?_
     refine aa (Sm.seq (Sm.block ?_))
     refine ab hF rfl ?_
     refine gv hF oM (gv hF oM (gv hF oM ?_))
     refine gv hF (ah rfl rfl rfl ((eo _ _ _ _ _ (aX _ (by omega))).trans (by rw [h5i]))) ?_
     refine gv hF (aj rfl rfl rfl (by simp (disch := omega) only [go_sem, Nat.reduceEqDiff, ai, hby, am, aG] <;> rfl)) ?_
     refine gv hF (ac rfl rfl (by simp (disch := omega) only [go_sem, Nat.reduceEqDiff, ai, hby, am, aG] <;> rfl)) ?_
     refine gv hF (ag rfl rfl (by simp (disch := omega) only [go_sem, Nat.reduceEqDiff, ai, hby, am, aG] <;> rfl)) ?_
     refine gv hF (aj rfl rfl rfl (by simp (disch := omega) only [go_sem, Nat.reduceEqDiff, ai, hby, am, aG] <;> rfl)) ?_
     refine SmG.store hF rfl rfl rfl rfl rfl (Ez hL hy rfl) ?_
     refine SmG.nil (aI (aa ?_))
     refine ab hF rfl ?_
     refine gv hF oM ?_
     refine gv hF (ah rfl rfl rfl (by exact eo _ _ _ _ _ (aX _ (by omega)))) ?_
     refine gv hF oA (SmG.nil (aa ?_))
     exact ⟨⟨i + 1, by omega⟩, by show 32 - (i + 1) < 32 - i; omega, aK ⟨rfl, rfl, rfl, rfl, trivial⟩ ⟨rfl, rfl, trivial⟩ (Nat.le_refl _)⟩
    ·obtain rfl : i = 32 := by omega
     refine Sm.seq (Sm.seq ?_)
     refine ab hF rfl ?_
     refine gv hF oM ?_
     refine gv hF (ah rfl rfl rfl (by exact ey _ _ _ _ _ (by omega))) ?_
     refine SmG.nil (aa ?_)
     refine aR hF rfl ?_
     refine Sm.exit ?_; simp only [aZ, bP, reduceIte, reduceCtorEq]
     refine Sm.seq ?_
     refine ab hF rfl ?_
     refine gv hF (ac rfl rfl (gb f7 lM rfl)) ?_
     refine SmG.store hF rfl rfl rfl rfl rfl (eW f7 rfl rfl) ?_
     refine SmG.nil (aa (Sm.ret ?_))
     refine cC rfl rfl (gb f7 lM rfl) ?_
     have hv : (ra L).l = L := by unfold ra; rw [dif_pos hL]
     refine ft ?_
     simp only [nh, Rcd.row, hv, Nat.sub_self, List.replicate_zero, List.append_nil, List.take_of_length_le (Nat.le_of_eq hL)]
     exact ⟨D.le.refl _, D.le.refl _, D.le.refl _, ca 0 1 true, leL.refl _⟩
   ·rw [if_neg (by omega), if_neg (by omega)]
    refine ab hF rfl ?_
    refine gv hF oM ?_
    refine gv hF (aj rfl rfl rfl (by simp (disch := omega) only [go_sem, Nat.reduceEqDiff, ai, af, ← List.map_take, ← List.map_drop, hk, am, aG, hm5] <;> rfl)) ?_
    refine gv hF (ac rfl rfl (by simp (disch := omega) only [go_sem, Nat.reduceEqDiff, ai, af, ← List.map_take, ← List.map_drop, hk, am, aG, hm5] <;> rfl)) ?_
    refine gv hF (ah rfl rfl rfl (by exact iY _ _ _ _ _ (by omega))) ?_
    refine gv hF oM ?_
    refine gp hF ?_
    refine gp hF ?_
    refine gp hF ?_
    refine gp hF ?_
    refine gp hF ?_
    refine gp hF ?_
    refine gv hF (aT rfl rfl rfl) ?_
    refine gv hF oM ?_
    refine gp hF ?_
    refine gp hF ?_
    refine gp hF ?_
    refine gv hF (aT rfl rfl rfl) ?_
    refine SmG.nil (aa ?_)
    refine aR hF rfl ?_
    refine Sm.skip ?_
    refine aa (Sm.seq (Sm.seq ?_))
    refine ab hF rfl ?_
    refine gv hF oM ?_
    refine gv hF (aj rfl rfl rfl (by simp (disch := omega) only [go_sem, Nat.reduceEqDiff, ai, af, ← List.map_take, ← List.map_drop, hk, am, aG, hm5] <;> rfl)) ?_
    refine gv hF (ac rfl rfl (by simp (disch := omega) only [go_sem, Nat.reduceEqDiff, ai, af, ← List.map_take, ← List.map_drop, hk, am, aG, hm5] <;> rfl)) ?_
    refine gv hF (ah rfl rfl rfl (by exact ia _ _ _ _ _ (by omega))) ?_
    refine gv hF oM ?_
    refine gv hF oM ?_
    refine gv hF (ah rfl rfl rfl (by exact lC _ _ _ _ _ (by omega))) ?_
    refine gv hF (aT rfl rfl rfl) ?_
    refine SmG.nil (aa ?_)
    refine aY hF rfl ?_
    refine Sm.seq ?_
    refine ab hF rfl ?_
    refine gv hF (cK rfl Tryd.underlying64 (by kernel_rfl) rfl ud) ?_
    refine SmG.store hF rfl rfl rfl rfl rfl (eW f7 rfl rfl) ?_
    refine SmG.nil (aa (Sm.ret ?_))
    simp only [aZ, bP]
    refine cC rfl rfl (gb f7 lM rfl) (lE _ rfl)
  ·rw [if_neg (by omega), if_neg (by omega)]
   refine ab hF rfl ?_
   refine gv hF oM ?_
   refine gv hF (aj rfl rfl rfl (by simp (disch := omega) only [go_sem, Nat.reduceEqDiff, ai, af, ← List.map_take, ← List.map_drop, hk, am, aG, hm5] <;> rfl)) ?_
   refine gv hF (ac rfl rfl (by simp (disch := omega) only [go_sem, Nat.reduceEqDiff, ai, af, ← List.map_take, ← List.map_drop, hk, am, aG, hm5] <;> rfl)) ?_
   refine gv hF (ah rfl rfl rfl (by exact iY _ _ _ _ _ (by omega))) ?_
   refine gv hF oM ?_
   refine gp hF ?_
   refine gp hF ?_
   refine gp hF ?_
   refine gp hF ?_
   refine gp hF ?_
   refine gp hF ?_
   refine gv hF (aT rfl rfl rfl) ?_
   refine gv hF oM ?_
   refine gp hF ?_
   refine gp hF ?_
   refine gp hF ?_
   refine gv hF (aT rfl rfl rfl) ?_
   refine SmG.nil (aa ?_)
   refine aR hF rfl ?_
   refine Sm.skip ?_
   refine aa (Sm.seq (Sm.seq ?_))
   refine ab hF rfl ?_
   refine gv hF oM ?_
   refine gv hF (aj rfl rfl rfl (by simp (disch := omega) only [go_sem, Nat.reduceEqDiff, ai, af, ← List.map_take, ← List.map_drop, hk, am, aG, hm5] <;> rfl)) ?_
   refine gv hF (ac rfl rfl (by simp (disch := omega) only [go_sem, Nat.reduceEqDiff, ai, af, ← List.map_take, ← List.map_drop, hk, am, aG, hm5] <;> rfl)) ?_
   refine gv hF (ah rfl rfl rfl (by exact lC _ _ _ _ _ (by omega))) ?_
   refine gv hF oM ?_
   refine gp hF ?_
   refine gp hF ?_
   refine gv hF (aN rfl rfl rfl) ?_
   refine SmG.nil (aa ?_)
   refine aY hF rfl ?_
   refine Sm.seq ?_
   refine ab hF rfl ?_
   refine gv hF (cK rfl Tryd.underlying64 (by kernel_rfl) rfl ud) ?_
   refine SmG.store hF rfl rfl rfl rfl rfl (eW f7 rfl rfl) ?_
   refine SmG.nil (aa (Sm.ret ?_))
   simp only [aZ, bP]
   refine cC rfl rfl (gb f7 lM rfl) (lE _ rfl)
end
section
open Go.RowKit
set_option maxRecDepth 100000
theorem CY (x : Ob) : seg (List.drop 0 x.row) (33 - 0) 0 32 = aA x.sum.l := by
 unfold seg
 rw [if_neg (by decide), List.drop_zero, List.drop_zero, iW]
noncomputable def cV (a0 : List Ob) (a1 : List UInt8) (s1 : Int) : Option (Int ⊕ (Unit ⊕ Int)) :=
 bif (decide (s1 < (a0.length : Int))) then (
  ob (idx a0 s1) fun x6 =>
  ob (vN 32 x6.sum.l) fun x7 =>
  ob (vN 32 a1) fun x8 =>
  bif (x6.sum.l == a1) then (
   some (.inr (.inr s1))
  ) else (
   ob (arI .i64 (s1 + 1)) fun x10 =>
   some (.inl x10)
  )
 ) else (
  some (.inr (.inl ()))
 )
noncomputable def fN (a0 : List Ob) (a1 : List UInt8) : Option Int :=
 ob ((
  cR (cV a0 a1) 0
  : Option (Unit ⊕ Int))) fun o12 => match o12 with
 | .inl v11 => (
  some (-1)
  )
 | .inr e13 => some e13
set_option maxHeartbeats 4000000 in
theorem nX {a0 : List Ob} {a1 : List UInt8} {r : Int} (h : fN a0 a1 = some r) : ap Tryd.prog HG 30 [.list 33 (a0.map Ob.row) false, .agg 32 (aA a1)] (.i r) := by
 unfold fN at h
 refine ap.of Tryd.func30 rfl Tryd.ntmps30 (by simp) ?_
 intro F hF h0 hT
 show Sm F _ _ ⟨[(0, .d (.list 33 (a0.map Ob.row) false)), (1, .d (.agg 32 (aA a1)))], [], 0⟩
 refine sr hF ?_
 refine nJ hF Dn ?_
 refine gv hF oA (sn (Sm.seq ?_))
 obtain ⟨o12, ho12, h⟩ := aq h
 rcases wG o12 with ⟨e13, rfl⟩ | ⟨v11, rfl⟩
 ·have he13 := aV h
  subst he13
  replace h := ho12
  refine sr hF (gv hF oA (sn (Sm.block ?_)))
  refine dX (cV a0 a1) (fun s1 => ⟨[(0, .d (.list 33 (a0.map Ob.row) false)), (3, .d (.ptr 32 (aA a1))), (5, .i s1)], [], 0⟩) 0 h (kA) ?_
  intro n2 s1 o3 h hd4
  unfold cV at h
  refine Sm.seq (sr hF (gv hF oM (gv hF oM (gv hF (oN (eg u24)) (gv hF (oB (fE)) (sn ?_))))))
  refine cE hF rfl (fun hc5 => ?_) (fun hc5 => ?_)
  ·replace h := ifF hc5 h
   refine Sm.exit ?_
   replace h := bT h hd4
   cases h
  replace h := ifT hc5 h
  refine sk (Sm.seq (Sm.block (Sm.seq ?_)))
  refine dG hF 6 ?_
  refine hv hF oM (hv hF oM ?_)
  obtain ⟨x6, hx6, h⟩ := aq h
  refine hv hF (oI (ee u24 fi hx6)) (hv hF (oF (fP B9 rfl)) (hv hF (x := .d (.agg 32 (aA x6.sum.l))) (oL (jf mZ ni rfl (CY x6))) (hv hF (x := .d (.agg 32 (aA a1))) (oL (jf mZ ni rfl rfl)) ?_)))
  refine hE ?_
  obtain ⟨x7, hx7, h⟩ := aq h
  obtain ⟨x8, hx8, h⟩ := aq h
  refine gv hF (iX rfl rfl rfl (sI (by kernel_rfl) (by kernel_rfl) (tO hx7) (tO hx8))) (sn ?_)
  refine cE hF rfl (fun hc9 => ?_) (fun hc9 => ?_)
  ·replace h := ifF hc9 h
   refine Sm.skip ?_
   refine aI (aa ?_)
   refine ab hF rfl ?_
   refine gv hF oM ?_
   obtain ⟨x10, hx10, h⟩ := aq h
   refine gv hF (oB (dF hx10)) (gv hF oA (SmG.nil ?_))
   exact eH (dw h hd4) (kA)
  replace h := ifT hc9 h
  refine sr hF (gv hF oM (gv hF oA (sn (Sm.ret ?_))))
  replace h := bT h hd4
  replace h := qK h
  obtain rfl := aV h
  exact kc rfl rfl
 refine gI ⟨[], [], 0⟩ ?_ ?_
 ·refine Sm.seq ?_
  refine ab hF rfl ?_
  refine gv hF oA (sn (Sm.ret ?_))
  obtain rfl := aV h
  exact kc rfl rfl
 replace h := ho12
 refine sr hF (gv hF oA (sn (Sm.block ?_)))
 refine dX (cV a0 a1) (fun s1 => ⟨[(0, .d (.list 33 (a0.map Ob.row) false)), (3, .d (.ptr 32 (aA a1))), (5, .i s1)], [], 0⟩) 0 h (kA) ?_
 intro n2 s1 o3 h hd4
 unfold cV at h
 refine Sm.seq (sr hF (gv hF oM (gv hF oM (gv hF (oN (eg u24)) (gv hF (oB (fE)) (sn ?_))))))
 refine cE hF rfl (fun hc5 => ?_) (fun hc5 => ?_)
 ·replace h := ifF hc5 h
  refine Sm.exit ?_
  replace h := bT h hd4
  obtain rfl := aV (qJ h)
  exact (kA)
 replace h := ifT hc5 h
 refine sk (Sm.seq (Sm.block (Sm.seq ?_)))
 refine dG hF 6 ?_
 refine hv hF oM (hv hF oM ?_)
 obtain ⟨x6, hx6, h⟩ := aq h
 refine hv hF (oI (ee u24 fi hx6)) (hv hF (oF (fP B9 rfl)) (hv hF (x := .d (.agg 32 (aA x6.sum.l))) (oL (jf mZ ni rfl (CY x6))) (hv hF (x := .d (.agg 32 (aA a1))) (oL (jf mZ ni rfl rfl)) ?_)))
 refine hE ?_
 obtain ⟨x7, hx7, h⟩ := aq h
 obtain ⟨x8, hx8, h⟩ := aq h
 refine gv hF (iX rfl rfl rfl (sI (by kernel_rfl) (by kernel_rfl) (tO hx7) (tO hx8))) (sn ?_)
 refine eD hF rfl (fun hc9 => ?_) (fun hc9 => ?_)
 ·replace h := ifT hc9 h
  refine sr hF (gv hF oM (gv hF oA (sn (Sm.ret ?_))))
  replace h := bT h hd4
  cases h
 replace h := ifF hc9 h
 refine Sm.skip ?_
 refine aI (aa ?_)
 refine ab hF rfl ?_
 refine gv hF oM ?_
 obtain ⟨x10, hx10, h⟩ := aq h
 refine gv hF (oB (dF hx10)) (gv hF oA (SmG.nil ?_))
 exact eH (dw h hd4) (kA)
noncomputable def gl (a0 : List Ob) (a1 : Int) : Option (List Ob) :=
 ob (slc a0 0 a1) fun x1 =>
 ob (app ([] : List Ob) x1) fun x2 =>
 ob (arI .i64 (a1 + 1)) fun x3 =>
 ob (slc a0 x3 (a0.length : Int)) fun x4 =>
 ob (app x2 x4) fun x5 =>
 some x5
set_option maxHeartbeats 4000000 in
theorem mm {a0 : List Ob} {a1 : Int} {r : List Ob} (h : gl a0 a1 = some r) : bY Tryd.prog HG 51 [.list 33 (a0.map Ob.row) false, .i a1] .one 33 (r.map Ob.row) [] := by
 unfold gl at h
 refine bY.of Tryd.func51 rfl Tryd.ntmps51 (by simp) ?_
 intro F hF h0 hT
 show Sm F _ _ ⟨[(0, .d (.list 33 (a0.map Ob.row) false)), (1, .i a1)], [], 0⟩
 refine sr hF (gv hF oA (sn (sr hF (gv hF (x := .d (.list 33 (([] : List Ob).map Ob.row) true)) (oS (rg u24 fi)) (gv hF oM (gv hF oM ?_))))))
 obtain ⟨x1, hx1, h⟩ := aq h
 refine gv hF (bK rfl rfl rfl rfl rfl (Bb u24 fi hx1)) ?_
 obtain ⟨x2, hx2, h⟩ := aq h
 refine SmG.appendFreshL hF pO rfl (ys := x1) (row := Ob.row) rfl rfl rfl rfl rfl rfl rfl (.inl rfl) hx2 ?_
 refine gv hF oA (sn (sr hF (gv hF oM (gv hF oM (gv hF oM ?_)))))
 obtain ⟨x3, hx3, h⟩ := aq h
 refine gv hF (oB (dF hx3)) ?_
 obtain ⟨x4, hx4, h⟩ := aq h
 refine gv hF (bK rfl rfl rfl rfl rfl (Bc u24 fi hx4)) ?_
 obtain ⟨x5, hx5, h⟩ := aq h
 refine gg hF pO rfl (ys := x4) (row := Ob.row) rfl rfl rfl rfl rfl rfl rfl rfl (.inl rfl) hx5 (by (repeat' first | exact kQ _ | refine j4 ?_ | refine cI ?_ (gZ _ _ _) | refine cI ?_ (gZ _ _ [_]) | refine cI ?_ (lV (by rfl)))) ?_
 refine gv hF oA (sn (Sm.ret ?_))
 obtain rfl := aV h
 exact kC 0 rfl rfl rfl
theorem Au (l : List Ob) (k : Vec 32) (hl : l.length ≤ 4294967296) : fN l k.l = some (cF l k.l) := by
 unfold fN
 refine Ok.get ?_
 refine Ok.bind (P := fun o => o = match a9 l k.l with | some i => .inr (i : Int) | none => .inl ()) ?_ ?_
 ·refine Ok.loop (fun s : Int => ∃ i : Nat, s = i ∧ i ≤ l.length ∧ ∀ j x, j < i → l[j]? = some x → ¬ (x.sum.l = k.l)) (fun s : Int => l.length - s.toNat) ⟨0, rfl, by omega, fun j x h => by omega⟩ ?_
  rintro _ ⟨i, rfl, h1, h2⟩
  unfold cV
  refine Ok.cond (fun c => ?_) fun c => Ok.ret ?_
  ·simp only [decide_eq_true_eq] at c
   have hx : l[i]? = some (l[i]'(by omega)) := List.getElem?_eq_getElem _
   generalize l[i]'(by omega) = x at hx
   rw [e7, hx, ay, zG x.sum.h, ay, zG k.h, ay]
   refine Ok.cond (fun c2 => Ok.ret ?_) fun c2 => ?_
   ·have hf : a9 l k.l = some i := by
     unfold a9
     rw [List.findIdx?_eq_some_iff_getElem]
     refine ⟨by omega, ?_, fun j hj => ?_⟩
     ·rw [List.getElem?_eq_getElem (by omega)] at hx
      rw [Option.some.inj hx]; exact c2
     ·have := h2 j _ hj (List.getElem?_eq_getElem (by omega))
      simpa using this
    simp only [hf]
   ·rw [cA (by omega), ay]
    refine Ok.ret ⟨⟨i + 1, by omega, by omega, fun j y hj hy => ?_⟩, by omega⟩
    by_cases e : j = i
    ·subst e; rw [hx] at hy; cases hy; simpa using c2
    ·exact h2 j y (by omega) hy
  ·simp only [decide_eq_false_iff_not] at c
   have hf : a9 l k.l = none := by
    unfold a9
    rw [List.findIdx?_eq_none_iff]
    intro x hx
    obtain ⟨j, hj, e⟩ := List.getElem_of_mem hx
    have := h2 j x (by omega) (by rw [List.getElem?_eq_getElem hj, e])
    simpa using this
   simp only [hf]
 ·rintro o rfl
  unfold cF
  cases a9 l k.l <;> exact Ok.ret rfl
theorem DE (l : List Ob) (k : Vec 32) (hl : l.length ≤ 4294967296) : ap Tryd.prog HG 30 [.list 33 (l.map Ob.row) false, .agg 32 (aA k.l)] (.v (.int .i64 (cF l k.l))) := nX (Au l k hl)
theorem y3 (l : List Ob) (i : Nat) (hl : l.length ≤ 1000000) (hi : i < l.length) : bY Tryd.prog HG 51 [.list 33 (l.map Ob.row) false, .v (.int .i64 i)] .one 33 ((l.eraseIdx i).map Ob.row) [] := by
 refine mm (a0 := l) (a1 := (i : Int)) (r := l.eraseIdx i) ?_
 unfold gl
 rw [jB (by omega), ay, jq (by simp; omega), ay, cA (by omega), ay, jB (by omega), ay, jq (by simp; omega), ay]
 have e : ((i : Int) + 1).toNat = i + 1 := by omega
 simp [e, List.eraseIdx_eq_take_drop_succ]
end
section
open Go.RowKit
def e9 (objs : List Ob) (n : Nat) (r : Rcd) : Option (List Ob) :=
 if r.ok = true ∧ r.n = (n : Int) ∧ (r.kind.toNat = 80 ↔ a9 objs r.sum.l = none) ∧ ¬ (r.kind.toNat = 80 ∧ 256 ≤ objs.length) then
  (if r.kind.toNat = 80 then some (objs ++ [⟨r.sum, r.data⟩]) else (a9 objs r.sum.l).map fun i => objs.eraseIdx i)
 else none
theorem fT (objs : List Ob) (n : Nat) : e9 objs n uE = none := by
 unfold e9
 rw [if_neg]
 rintro ⟨h, _⟩
 cases h
theorem Ex (objs : List Ob) (n : Nat) (B : List UInt8) (hB : 9 ≤ B.length) : pH objs n B = e9 objs n (ll B) := by
 obtain ⟨kind, r1, rfl⟩ : ∃ kind r1, B = kind :: r1 := by
  cases B with
  | nil => simp at hB
  | cons a l => exact ⟨a, l, rfl⟩
 have hr1 : 8 ≤ r1.length := by simp at hB; omega
 have hBl : (kind :: r1).length = r1.length + 1 := rfl
 have hk : (kind :: r1).getD 0 0 = kind := rfl
 have h5 : (kind :: r1).drop 5 = r1.drop 4 := rfl
 have h1 : (kind :: r1).drop 1 = r1 := rfl
 have h9 : (kind :: r1).drop 9 = (r1.drop 4).drop 4 := by rw [List.drop_drop]; rfl
 have hG80 : kind.toNat = 80 → be ((r1.drop 4).take 4) + 9 = r1.length + 1 → r1.length + 1 ≤ 65545 → ll (kind :: r1) = ⟨true, kind, (be (r1.take 4) : Nat), (r1.drop 4).drop 4, eK ((r1.drop 4).drop 4)⟩ := fun a b c => by
  unfold ll; rw [hk, h5, h1, h9, hBl, if_pos ⟨a, b, c⟩]
 have hG68 : kind.toNat = 68 → r1.length + 1 = 37 → ll (kind :: r1) = ⟨true, kind, (be (r1.take 4) : Nat), [], ra (r1.drop 4)⟩ := fun a b => by
  unfold ll; rw [hk, h5, h1, h9, hBl, if_neg (by omega), if_pos ⟨a, b⟩]
 have hGno : ¬ (kind.toNat = 80 ∧ be ((r1.drop 4).take 4) + 9 = r1.length + 1 ∧ r1.length + 1 ≤ 65545) → ¬ (kind.toNat = 68 ∧ r1.length + 1 = 37) → ll (kind :: r1) = uE := fun a b => by
  unfold ll; rw [hk, h5, h1, h9, hBl, if_neg a, if_neg b]
 rw [dV, if_neg (by omega)]
 have hl4 : (r1.drop 4).length = r1.length - 4 := by simp
 have hl8 : ((r1.drop 4).drop 4).length = r1.length - 8 := by simp only [List.length_drop]; omega
 by_cases cn : be (r1.take 4) = n
 ·rw [if_neg (by simp [cn])]
  unfold fL
  by_cases k80 : kind.toNat = 80
  ·rw [if_pos k80]
   by_cases c1 : (r1.drop 4).length < 4 ∨ (r1.drop 4).length - 4 < be ((r1.drop 4).take 4)
   ·rw [if_pos c1, hGno (by omega) (by omega), fT]
   ·rw [if_neg c1]
    unfold fX
    have hd : (((r1.drop 4).drop 4).drop (be ((r1.drop 4).take 4))).length = r1.length - 8 - be ((r1.drop 4).take 4) := by rw [List.length_drop, hl8]
    by_cases c2 : be ((r1.drop 4).take 4) + 9 = r1.length + 1
    ·have hx : ((r1.drop 4).drop 4).take (be ((r1.drop 4).take 4)) = (r1.drop 4).drop 4 := List.take_of_length_le (by omega)
     rw [if_neg (by rw [hd]; omega), hx]
     by_cases c3 : r1.length + 1 ≤ 65545
     ·rw [hG80 k80 c2 c3]
      unfold e9
      simp only [k80, true_and, true_iff, if_true, cn]
      have hs : (eK ((r1.drop 4).drop 4)).l = Sha.sum ((r1.drop 4).drop 4) := rfl
      rw [hs]
      by_cases c4 : a9 objs (Sha.sum ((r1.drop 4).drop 4)) = none ∧ objs.length < 256
      ·rw [if_pos ⟨by omega, c4⟩, if_pos ⟨c4.1, by omega⟩]
      ·rw [if_neg (fun h => c4 h.2), if_neg (fun h => c4 ⟨h.1, by omega⟩)]
     ·rw [if_neg (fun h => by have := h.1; omega), hGno (by omega) (by omega), fT]
    ·rw [if_pos (by rw [hd]; omega), hGno (by omega) (by omega), fT]
  ·rw [if_neg k80]
   by_cases k68 : kind.toNat = 68
   ·rw [if_pos k68]
    by_cases c1 : (r1.drop 4).length < 32
    ·rw [if_pos c1, hGno (by omega) (by omega), fT]
    ·rw [if_neg c1]
     unfold fj
     have hd : ((r1.drop 4).drop 32).length = r1.length - 36 := by rw [List.length_drop, hl4]; omega
     by_cases c2 : r1.length + 1 = 37
     ·have hx : (r1.drop 4).take 32 = r1.drop 4 := List.take_of_length_le (by omega)
      rw [if_neg (by rw [hd]; omega), hx, hG68 k68 c2]
      have hv : (ra (r1.drop 4)).l = r1.drop 4 := by unfold ra; rw [dif_pos (by omega)]
      unfold e9
      simp only [hv, cn, k80, false_iff, false_and, not_false_eq_true, and_true, true_and, if_false]
      cases a9 objs (r1.drop 4) with
      | none => simp
      | some i => simp
     ·rw [if_pos (by rw [hd]; omega), hGno (by omega) (by omega), fT]
   ·rw [if_neg k68, hGno (by omega) (by omega), fT]
 ·rw [if_pos (by exact cn)]
  symm
  unfold e9
  rw [if_neg]
  rintro ⟨g1, g2, _⟩
  by_cases a : kind.toNat = 80 ∧ be ((r1.drop 4).take 4) + 9 = r1.length + 1 ∧ r1.length + 1 ≤ 65545
  ·rw [hG80 a.1 a.2.1 a.2.2] at g2; simp at g2; omega
  ·by_cases b : kind.toNat = 68 ∧ r1.length + 1 = 37
   ·rw [hG68 b.1 b.2] at g2; simp at g2; omega
   ·rw [hGno a b] at g1; cases g1
theorem FY (objs : List Ob) (n : Nat) (b : List UInt8) : bu objs n b = e9 objs n (tw b) := by
 unfold bu tw
 by_cases c1 : b.length < 41
 ·rw [if_pos c1, fT]
  by_cases c0 : b.length < 32
  ·rw [if_pos c0]
  ·rw [if_neg c0]
   split
   ·rfl
   ·have hl : (b.take (b.length - 32)).length ≤ 8 := by simp; omega
    generalize b.take (b.length - 32) = B at hl
    cases B with
    | nil => rfl
    | cons k r =>
     have hr : r.length ≤ 7 := by simp at hl; omega
     rw [dV]
     split
     ·rfl
     split
     ·rfl
     unfold fL
     have hd : (r.drop 4).length ≤ 3 := by simp; omega
     split
     ·rw [if_pos (by omega)]
     ·split
      ·rw [if_pos (by omega)]
      ·rfl
 ·rw [if_neg c1, if_neg (by omega)]
  by_cases c2 : Sha.sum (b.take (b.length - 32)) ≠ b.drop (b.length - 32)
  ·rw [if_pos c2, if_pos c2, fT]
  ·rw [if_neg c2, if_neg c2]
   exact Ex objs n _ (by simp; omega)
end
section
open Go.RowKit
set_option maxRecDepth 100000
theorem Ao (sz : Nat) (rows : List (List D)) : (dB sz rows).sz = sz := rfl
section
variable {h : List (Nat × Blk)} {l : Nat} {r : Rcd}
theorem ky (hl : look h l = some ⟨36, [r.row.map V.d]⟩) : aW Tryd.prog h 4 (.ref l 0 0) = some (.d (.v (.bool r.ok))) := by
 simp only [aW, hl, Option.bind_some, List.getElem?_cons_zero, cu, ag4]
 rfl
theorem fo (hl : look h l = some ⟨36, [r.row.map V.d]⟩) : aW Tryd.prog h 5 (.ref l 0 1) = some (.d (.v (.int .u8 (r.kind.toNat : Int)))) := by
 simp only [aW, hl, Option.bind_some, List.getElem?_cons_zero, cu, ag5]
 rfl
theorem nv (hl : look h l = some ⟨36, [r.row.map V.d]⟩) : aW Tryd.prog h 3 (.ref l 0 2) = some (.d (.v (.int .i64 r.n))) := by
 simp only [aW, hl, Option.bind_some, List.getElem?_cons_zero, cu, ag3]
 rfl
theorem AK (hl : look h l = some ⟨36, [r.row.map V.d]⟩) : aW Tryd.prog h 30 (.ref l 0 3) = some (.d (.list 1 (r.data.map am) false)) := by
 simp only [aW, hl, Option.bind_some, List.getElem?_cons_zero, cu, zT]
 rfl
theorem vr (hl : look h l = some ⟨36, [r.row.map V.d]⟩) : aW Tryd.prog h 42 (.ref l 0 4) = some (.d (.agg 32 (aA r.sum.l))) := by
 have hsl : (aA r.sum.l).length = 32 := da r.sum.h
 have hs : seg (r.row.map V.d) 36 4 32 = (aA r.sum.l).map V.d := by
  unfold seg
  rw [if_neg (by decide), ← List.map_drop, ← List.map_take]
  congr 1
  simp only [Rcd.row, List.cons_append, List.nil_append, List.drop_succ_cons, List.drop_zero]
  exact List.take_of_length_le (by omega)
 have hp : bt ((aA r.sum.l).map V.d) = some (aA r.sum.l) := f6 _
 simp only [aW, hl, Option.bind_some, List.getElem?_cons_zero, cu, mZ, ni, hs, hp]
 rfl
end
theorem BX (n sz : Nat) (rows : List (List D)) : ∀ r ∈ (dB sz rows).rows, ∀ y ∈ r, V.lt n y = true ∧ y.noGh = true := by
 intro r hr y hy
 obtain ⟨r0, _, rfl⟩ := List.mem_map.1 hr
 obtain ⟨d, _, rfl⟩ := List.mem_map.1 hy
 exact ⟨rfl, rfl⟩
theorem Hr {F : Fr} (h0 : F.n0 = 0) (hgt : ∀ ds h μ C w, F.G ds h μ C w) {a b c : D} {objs' safe' : List (List D)} {n m : Nat} : St.to F ⟨[(0, .d a), (2, .ref 0 0 0), (3, .ref 1 0 0), (4, .d b)], [(3, dB 1 safe'), (5, dB 33 objs'), (1, ⟨3, [[.sref 5 0 n, .sref 3 0 m, .d c]]⟩), (0, ⟨3, [[.d c, .d c, .d c]]⟩)], 6⟩
  ⟨[(0, .d a), (2, .ref 0 0 0), (3, .ref 1 0 0), (4, .d b)], [(3, dB 1 safe'), (2, dB 33 objs'), (1, ⟨3, [[.sref 2 0 n, .sref 3 0 m, .d c]]⟩), (0, ⟨3, [[.d c, .d c, .d c]]⟩)], 4⟩ := by
 have hH : ∀ m' k', look ([(3, dB 1 safe'), (2, dB 33 objs'), (1, ⟨3, [[.sref 2 0 n, .sref 3 0 m, .d c]]⟩), (0, ⟨3, [[.d c, .d c, .d c]]⟩)] : List (Nat × Blk)) m' = some k' → m' < 4 ∧ look ([(3, dB 1 safe'), (5, dB 33 objs'), (1, ⟨3, [[.sref 5 0 n, .sref 3 0 m, .d c]]⟩), (0, ⟨3, [[.d c, .d c, .d c]]⟩)] : List (Nat × Blk)) (if m' = 2 then 5 else m') = some (k'.ren fun m => if m = 2 then 5 else m) ∧ (∀ r ∈ k'.rows, ∀ y ∈ r, V.lt 4 y = true ∧ y.noGh = true) := by
  intro m' k' hk
  simp only [look] at hk
  split at hk
  ·rename_i e; subst e; cases hk
   exact ⟨by decide, by rw [pM]; rfl, BX _ _ _⟩
  split at hk
  ·rename_i e; subst e; cases hk
   exact ⟨by decide, by rw [pM]; rfl, BX _ _ _⟩
  split at hk
  ·rename_i e; subst e; cases hk
   refine ⟨by decide, rfl, fun r hr y hy => ?_⟩
   simp at hr; subst hr
   simp at hy
   rcases hy with rfl | rfl | rfl <;> exact ⟨rfl, rfl⟩
  split at hk
  ·rename_i e; subst e; cases hk
   refine ⟨by decide, rfl, fun r hr y hy => ?_⟩
   simp at hr; subst hr
   simp at hy
   subst hy; exact ⟨rfl, rfl⟩
  cases hk
 refine Di (fun m => if m = 2 then 5 else m) (by omega) (by omega) ?_ hH ?_ (.inl hgt)
 ·intro t y hy
  simp only [look] at hy
  split at hy
  ·rename_i e; subst e; cases hy; exact ⟨rfl, rfl, rfl⟩
  split at hy
  ·rename_i e; subst e; cases hy; exact ⟨rfl, rfl, rfl⟩
  split at hy
  ·rename_i e; subst e; cases hy; exact ⟨rfl, rfl, rfl⟩
  split at hy
  ·rename_i e; subst e; cases hy; exact ⟨rfl, rfl, rfl⟩
  cases hy
 ·intro m1 m2 g1 g2 e
  obtain ⟨k1, hk1⟩ := Option.isSome_iff_exists.1 g1
  obtain ⟨k2, hk2⟩ := Option.isSome_iff_exists.1 g2
  have l1 := (hH m1 k1 hk1).1
  have l2 := (hH m2 k2 hk2).1
  have e : (if m1 = 2 then 5 else m1) = (if m2 = 2 then 5 else m2) := e
  split at e <;> split at e <;> omega
set_option maxHeartbeats 4000000 in
theorem D7 (rs : List (List UInt8)) (hrs : rs.length ≤ 1000000) (hb : ∀ b ∈ rs, b.length ≤ 1000000) : ap Tryd.prog HG 32 [.list 1 (rs.map av) false] (.agg 3 (Sto.row (cL [] [] rs))) := by
 refine r6 Tryd.func32 rfl Tryd.ntmps32 (by simp) ?_; intro F hF h0 hT hgt; simp only [List.zipIdx_cons, List.zipIdx_nil, List.map_cons, List.map_nil, Nat.zero_add, Nat.reduceAdd]
 refine Sm.seq ?_
 refine ab hF rfl ?_
 refine SmG.new hF rfl rfl rfl (aF rfl kU) ?_
 refine SmG.nil (aa (Sm.seq ?_))
 refine ab hF rfl ?_
 refine gv hF (cK rfl Tryd.underlying27 (by kernel_rfl) rfl Iu) ?_
 refine SmG.new hF rfl rfl rfl (aF rfl kU) ?_
 refine SmG.store hF rfl rfl rfl rfl rfl (eW gR rfl rfl) ?_
 refine SmG.nil (aa (Sm.seq (Sm.seq ?_)))
 refine ab hF rfl ?_
 refine gv hF oA (SmG.nil (aa (Sm.block ?_)))
 simp only [rep, Nat.zero_add, Nat.reduceEqDiff, if_true, if_false]
 refine nI 1 0 0 33 rfl rfl rfl ?_
 refine nI 1 0 1 1 rfl rfl rfl ?_
 refine Sm.loop (ι := {s : Sto // s.queue = [] ∧ s.objects.length ≤ 256 ∧ s.safe.length ≤ rs.length ∧ cL [] [] rs = cL s.objects s.safe (rs.drop s.safe.length)}) (fun s => ⟨[(0, .d (.list 1 (rs.map av) false)), (2, .ref 0 0 0), (3, .ref 1 0 0), (4, .d (.v (.int .i64 s.1.safe.length)))], [(3, dB 1 (s.1.safe.map av)), (2, dB 33 (s.1.objects.map Ob.row)), (1, ⟨3, [[.sref 2 0 s.1.objects.length, .sref 3 0 s.1.safe.length, .d (.list 0 [] true)]]⟩), (0, ⟨3, [[.d (.list 0 [] true), .d (.list 0 [] true), .d (.list 0 [] true)]]⟩)], 4⟩) (fun s => rs.length - s.1.safe.length) (⟨⟨[], [], []⟩, rfl, by decide, by simp, by simp⟩) ?_ ?_
 ·exact aK ⟨rfl, rfl, rfl, rfl, trivial⟩ ⟨rfl, rfl, rfl, rfl, trivial⟩ (Nat.le_refl _)
 rintro ⟨⟨objs, safe, queue⟩, hq, ho, hs, heq⟩
 simp only at hq ho hs heq ⊢
 have hfrz : ∀ (nx : Nat), St.to F ⟨[(2, .ref 0 0 0), (3, .ref 1 0 0)], [(3, dB 1 (safe.map av)), (2, dB 33 (objs.map Ob.row)), (1, ⟨3, [[.sref 2 0 objs.length, .sref 3 0 safe.length, .d (.list 0 [] true)]]⟩), (0, ⟨3, [[.d (.list 0 [] true), .d (.list 0 [] true), .d (.list 0 [] true)]]⟩)], nx⟩ ⟨[(2, .ref 0 0 0), (3, .ref 1 0 0)], [(1, ⟨3, [[.d (.list 33 (objs.map Ob.row) false), .d (.list 1 (safe.map av) false), .d (.list 0 [] true)]]⟩), (0, ⟨3, [[.d (.list 0 [] true), .d (.list 0 [] true), .d (.list 0 [] true)]]⟩)], nx⟩ := fun nx => by
  have h := fb (F := F) (st := ⟨[(2, .ref 0 0 0), (3, .ref 1 0 0)], [(3, dB 1 (safe.map av)), (2, dB 33 (objs.map Ob.row)), (1, ⟨3, [[.sref 2 0 objs.length, .sref 3 0 safe.length, .d (.list 0 [] true)]]⟩), (0, ⟨3, [[.d (.list 0 [] true), .d (.list 0 [] true), .d (.list 0 [] true)]]⟩)], nx⟩) (l := 2) (objs.map Ob.row) rfl rfl
  have h2 := fb (F := F) (st := ⟨[(2, .ref 0 0 0), (3, .ref 1 0 0)], [(3, dB 1 (safe.map av)), (1, ⟨3, [[.d (.list 33 (objs.map Ob.row) false), .sref 3 0 safe.length, .d (.list 0 [] true)]]⟩), (0, ⟨3, [[.d (.list 0 [] true), .d (.list 0 [] true), .d (.list 0 [] true)]]⟩)], nx⟩) (l := 3) (safe.map av) rfl rfl
  refine aQ (st' := ⟨[(2, .ref 0 0 0), (3, .ref 1 0 0)], [(3, dB 1 (safe.map av)), (1, ⟨3, [[.d (.list 33 (objs.map Ob.row) false), .sref 3 0 safe.length, .d (.list 0 [] true)]]⟩), (0, ⟨3, [[.d (.list 0 [] true), .d (.list 0 [] true), .d (.list 0 [] true)]]⟩)], nx⟩) ?_ ?_
  ·simp only [ic, b7, dg, qH, Ao, reduceIte, Nat.reduceEqDiff] at h
   simpa [c8, bn, cg] using h
  ·simp only [ic, b7, dg, qH, Ao, reduceIte, Nat.reduceEqDiff] at h2
   simpa [c8, bn, cg] using h2
 by_cases hlt : safe.length < rs.length
 ·obtain ⟨b, hbi⟩ : ∃ b, rs[safe.length]? = some b := ⟨rs[safe.length], by simp⟩
  have hbl : b.length ≤ 1000000 := hb b (List.mem_of_getElem? hbi)
  have hdr : rs.drop safe.length = b :: rs.drop (safe.length + 1) := by
   rw [List.drop_eq_getElem_cons hlt]
   congr 1
   rw [List.getElem?_eq_getElem hlt] at hbi
   exact Option.some.inj hbi
  have cread := CQ b hbl
  have hstep := FY objs safe.length b
  generalize tw b = r at cread hstep
  refine Sm.seq (Sm.seq ?_)
  refine ab hF rfl ?_
  refine gv hF oM (gv hF oM ?_)
  refine gv hF (aJ rfl rfl (by simp (disch := omega) only [go_sem, Nat.reduceEqDiff, ai, hbi, av, aC, af] <;> rfl)) ?_
  refine gv hF (ah rfl rfl rfl (by exact dO _ _ _ _ _ (by omega))) ?_
  refine SmG.nil (aa ?_)
  refine aY hF rfl ?_
  refine Sm.skip ?_
  refine aa (Sm.seq (Sm.block (Sm.seq ?_)))
  refine ab hF rfl ?_
  refine gv hF oM (gv hF oM ?_)
  refine gv hF (aj rfl rfl rfl (by simp (disch := omega) only [go_sem, Nat.reduceEqDiff, ai, hbi, av, aC, af] <;> rfl)) ?_
  refine gv hF (ac rfl rfl (by simp (disch := omega) only [go_sem, Nat.reduceEqDiff, ai, hbi, av, aC, af] <;> rfl)) ?_
  refine SmG.call hF rfl rfl (by kernel_rfl) rfl rfl rfl (cread) ?_
  refine SmG.new hF rfl rfl rfl (aF rfl zW) ?_
  refine SmG.store hF rfl rfl rfl rfl rfl (eW f7 rfl rfl) ?_
  refine SmG.nil (aa (Sm.seq ?_))
  simp only [rep, if_true]
  refine Sm.to (cH (st' := ⟨[(0, .d (.list 1 (rs.map av) false)), (2, .ref 0 0 0), (3, .ref 1 0 0), (4, .d (.v (.int .i64 safe.length))), (5, .ref 4 0 0)], [(4, ⟨36, [r.row.map V.d]⟩), (3, dB 1 (safe.map av)), (2, dB 33 (objs.map Ob.row)), (1, ⟨3, [[.sref 2 0 objs.length, .sref 3 0 safe.length, .d (.list 0 [] true)]]⟩), (0, ⟨3, [[.d (.list 0 [] true), .d (.list 0 [] true), .d (.list 0 [] true)]]⟩)], 5⟩) (aK ⟨rfl, rfl, rfl, rfl, rfl, trivial⟩ ⟨rfl, rfl, rfl, rfl, rfl, trivial⟩ (Nat.le_refl _))) ?_
  refine ab hF rfl ?_
  refine gv hF (ag rfl rfl (by simp (disch := omega) only [go_sem, Nat.reduceEqDiff, ai, af] <;> rfl)) ?_
  refine gv hF (ac rfl rfl (by simp (disch := omega) only [go_sem, Nat.reduceEqDiff, ai, af] <;> rfl)) ?_
  refine gv hF (ag rfl rfl (by simp (disch := omega) only [go_sem, Nat.reduceEqDiff, ai, af] <;> rfl)) ?_
  refine gv hF (ac rfl rfl (vr rfl)) ?_
  refine pD hF (l := 2) (objs.map Ob.row) rfl rfl (by kernel_rfl) rfl rfl rfl (by simp only [c8, bn]; simp; rfl) (DE objs r.sum (by omega)) (Gi _) ?_
  refine gv hF oA (SmG.nil (aa (Sm.seq (Sm.seq ?_))))
  have hdone : bu objs safe.length b = none → cL [] [] rs = ⟨objs, safe, []⟩ := fun h => by
   rw [heq, hdr]; unfold cL; rw [h]
  cases hok : r.ok
  ·
   refine ab hF rfl ?_
   refine gv hF (ag rfl rfl (by simp (disch := omega) only [go_sem, Nat.reduceEqDiff, ai, af] <;> rfl)) ?_
   refine gv hF (ac rfl rfl ((ky rfl).trans (by rw [hok]))) ?_
   refine gv hF (en rfl rfl (by exact qU _)) ?_
   refine gv hF oM ?_
   refine gp hF ?_
   refine gp hF ?_
   refine gp hF ?_
   refine gp hF ?_
   refine gv hF (aN rfl rfl rfl) ?_
   refine gv hF oM ?_
   refine gp hF ?_
   refine gp hF ?_
   refine gp hF ?_
   refine gp hF ?_
   refine gp hF ?_
   refine gp hF ?_
   refine gv hF (aN rfl rfl rfl) ?_
   refine gv hF oM ?_
   refine gp hF ?_
   refine gp hF ?_
   refine gp hF ?_
   refine gp hF ?_
   refine gp hF ?_
   refine gp hF ?_
   refine gp hF ?_
   refine gp hF ?_
   refine gp hF ?_
   refine gv hF (aN rfl rfl rfl) ?_
   refine SmG.nil (aa ?_)
   refine aY hF rfl ?_
   refine Sm.seq ?_
   refine Sm.to (aQ (cH (st' := ⟨[(2, .ref 0 0 0), (3, .ref 1 0 0)], [(3, dB 1 (safe.map av)), (2, dB 33 (objs.map Ob.row)), (1, ⟨3, [[.sref 2 0 objs.length, .sref 3 0 safe.length, .d (.list 0 [] true)]]⟩), (0, ⟨3, [[.d (.list 0 [] true), .d (.list 0 [] true), .d (.list 0 [] true)]]⟩)], 5⟩) (aK ⟨rfl, rfl, trivial⟩ ⟨rfl, rfl, rfl, rfl, trivial⟩ (Nat.le_refl _))) (hfrz 5)) ?_
   refine ab hF rfl ?_
   refine gv hF (ac rfl rfl (cw rfl)) ?_
   refine SmG.store hF rfl rfl rfl rfl rfl (eW gR rfl rfl) ?_
   refine SmG.nil (aa (Sm.ret ?_))
   simp only [aZ, bP]
   refine cC rfl rfl (gb gR mY rfl) ?_
   rw [hdone (by rw [hstep]; unfold e9; rw [if_neg]; rintro ⟨g1, g2, g3, g4⟩; rw [hok] at g1; cases g1)]
   exact ft ⟨D.le.refl _, D.le.refl _, ca 0 1 true, trivial⟩
  by_cases hn : ¬ r.n = (safe.length : Int)
  ·
   refine ab hF rfl ?_
   refine gv hF (ag rfl rfl (by simp (disch := omega) only [go_sem, Nat.reduceEqDiff, ai, af] <;> rfl)) ?_
   refine gv hF (ac rfl rfl ((ky rfl).trans (by rw [hok]))) ?_
   refine gv hF (en rfl rfl (by exact fI _)) ?_
   refine gv hF oM ?_
   refine gv hF (ag rfl rfl (by simp (disch := omega) only [go_sem, Nat.reduceEqDiff, ai, af] <;> rfl)) ?_
   refine gv hF (ac rfl rfl (nv rfl)) ?_
   refine gv hF oM ?_
   refine gv hF (ah rfl rfl rfl (by exact lC _ _ _ _ _ (by omega))) ?_
   refine gv hF (aT rfl rfl rfl) ?_
   refine gv hF oM ?_
   refine gp hF ?_
   refine gp hF ?_
   refine gp hF ?_
   refine gp hF ?_
   refine gp hF ?_
   refine gp hF ?_
   refine gv hF (aN rfl rfl rfl) ?_
   refine gv hF oM ?_
   refine gp hF ?_
   refine gp hF ?_
   refine gp hF ?_
   refine gp hF ?_
   refine gp hF ?_
   refine gp hF ?_
   refine gp hF ?_
   refine gp hF ?_
   refine gp hF ?_
   refine gv hF (aN rfl rfl rfl) ?_
   refine SmG.nil (aa ?_)
   refine aY hF rfl ?_
   refine Sm.seq ?_
   refine Sm.to (aQ (cH (st' := ⟨[(2, .ref 0 0 0), (3, .ref 1 0 0)], [(3, dB 1 (safe.map av)), (2, dB 33 (objs.map Ob.row)), (1, ⟨3, [[.sref 2 0 objs.length, .sref 3 0 safe.length, .d (.list 0 [] true)]]⟩), (0, ⟨3, [[.d (.list 0 [] true), .d (.list 0 [] true), .d (.list 0 [] true)]]⟩)], 5⟩) (aK ⟨rfl, rfl, trivial⟩ ⟨rfl, rfl, rfl, rfl, trivial⟩ (Nat.le_refl _))) (hfrz 5)) ?_
   refine ab hF rfl ?_
   refine gv hF (ac rfl rfl (cw rfl)) ?_
   refine SmG.store hF rfl rfl rfl rfl rfl (eW gR rfl rfl) ?_
   refine SmG.nil (aa (Sm.ret ?_))
   simp only [aZ, bP]
   refine cC rfl rfl (gb gR mY rfl) ?_
   rw [hdone (by rw [hstep]; unfold e9; rw [if_neg]; rintro ⟨g1, g2, g3, g4⟩; exact hn g2)]
   exact ft ⟨D.le.refl _, D.le.refl _, ca 0 1 true, trivial⟩
  have hn : r.n = (safe.length : Int) := Classical.not_not.1 hn
  by_cases k80 : r.kind.toNat = 80
  ·cases hfn : a9 objs r.sum.l with
   | some i =>
    have hfz : cF objs r.sum.l = (i : Int) := by unfold cF; rw [hfn]
    rw [hfz]
    refine ab hF rfl ?_
    refine gv hF (ag rfl rfl (by simp (disch := omega) only [go_sem, Nat.reduceEqDiff, ai, af] <;> rfl)) ?_
    refine gv hF (ac rfl rfl ((ky rfl).trans (by rw [hok]))) ?_
    refine gv hF (en rfl rfl (by exact fI _)) ?_
    refine gv hF oM ?_
    refine gv hF (ag rfl rfl (by simp (disch := omega) only [go_sem, Nat.reduceEqDiff, ai, af] <;> rfl)) ?_
    refine gv hF (ac rfl rfl (nv rfl)) ?_
    refine gv hF oM ?_
    refine gv hF (ah rfl rfl rfl (by exact ia _ _ _ _ _ (by omega))) ?_
    refine gv hF (aT rfl rfl rfl) ?_
    refine gv hF oM ?_
    refine gv hF (ag rfl rfl (by simp (disch := omega) only [go_sem, Nat.reduceEqDiff, ai, af] <;> rfl)) ?_
    refine gv hF (ac rfl rfl (fo rfl)) ?_
    refine gv hF (ah rfl rfl rfl (by exact dC _ _ _ _ _ (by omega))) ?_
    refine gv hF oM ?_
    refine gv hF (ah rfl rfl rfl (by exact ey _ _ _ _ _ (by omega))) ?_
    refine gv hF (ah rfl rfl rfl (nA _ _ _ _ (by kernel_rfl) (by exact (rfl : _ = true)))) ?_
    refine gv hF (aT rfl rfl rfl) ?_
    refine gv hF oM ?_
    refine gp hF ?_
    refine gp hF ?_
    refine gp hF ?_
    refine gp hF ?_
    refine gp hF ?_
    refine gp hF ?_
    refine gp hF ?_
    refine gp hF ?_
    refine gp hF ?_
    refine gv hF (aN rfl rfl rfl) ?_
    refine SmG.nil (aa ?_)
    refine aY hF rfl ?_
    refine Sm.seq ?_
    refine Sm.to (aQ (cH (st' := ⟨[(2, .ref 0 0 0), (3, .ref 1 0 0)], [(3, dB 1 (safe.map av)), (2, dB 33 (objs.map Ob.row)), (1, ⟨3, [[.sref 2 0 objs.length, .sref 3 0 safe.length, .d (.list 0 [] true)]]⟩), (0, ⟨3, [[.d (.list 0 [] true), .d (.list 0 [] true), .d (.list 0 [] true)]]⟩)], 5⟩) (aK ⟨rfl, rfl, trivial⟩ ⟨rfl, rfl, rfl, rfl, trivial⟩ (Nat.le_refl _))) (hfrz 5)) ?_
    refine ab hF rfl ?_
    refine gv hF (ac rfl rfl (cw rfl)) ?_
    refine SmG.store hF rfl rfl rfl rfl rfl (eW gR rfl rfl) ?_
    refine SmG.nil (aa (Sm.ret ?_))
    simp only [aZ, bP]
    refine cC rfl rfl (gb gR mY rfl) ?_
    rw [hdone (by rw [hstep]; unfold e9; rw [if_neg]; rintro ⟨g1, g2, g3, g4⟩; rw [g3.1 k80] at hfn; cases hfn)]
    exact ft ⟨D.le.refl _, D.le.refl _, ca 0 1 true, trivial⟩
   | none =>
    have hfz : cF objs r.sum.l = -1 := by unfold cF; rw [hfn]
    rw [hfz]
    by_cases c4 : 256 ≤ objs.length
    ·
     refine ab hF rfl ?_
     refine gv hF (ag rfl rfl (by simp (disch := omega) only [go_sem, Nat.reduceEqDiff, ai, af] <;> rfl)) ?_
     refine gv hF (ac rfl rfl ((ky rfl).trans (by rw [hok]))) ?_
     refine gv hF (en rfl rfl (by exact fI _)) ?_
     refine gv hF oM ?_
     refine gv hF (ag rfl rfl (by simp (disch := omega) only [go_sem, Nat.reduceEqDiff, ai, af] <;> rfl)) ?_
     refine gv hF (ac rfl rfl (nv rfl)) ?_
     refine gv hF oM ?_
     refine gv hF (ah rfl rfl rfl (by exact ia _ _ _ _ _ (by omega))) ?_
     refine gv hF (aT rfl rfl rfl) ?_
     refine gv hF oM ?_
     refine gv hF (ag rfl rfl (by simp (disch := omega) only [go_sem, Nat.reduceEqDiff, ai, af] <;> rfl)) ?_
     refine gv hF (ac rfl rfl (fo rfl)) ?_
     refine gv hF (ah rfl rfl rfl (by exact dC _ _ _ _ _ (by omega))) ?_
     refine gv hF oM ?_
     refine gv hF (ah rfl rfl rfl (by exact dO _ _ _ _ _ (by omega))) ?_
     refine gv hF (ah rfl rfl rfl (nA _ _ _ _ (by kernel_rfl) (by exact (rfl : _ = false)))) ?_
     refine gv hF (aT rfl rfl rfl) ?_
     refine gv hF oM ?_
     refine gv hF (ag rfl rfl (by simp (disch := omega) only [go_sem, Nat.reduceEqDiff, ai, af] <;> rfl)) ?_
     refine gv hF (ac rfl rfl (fo rfl)) ?_
     refine gv hF (ah rfl rfl rfl (by exact dC _ _ _ _ _ (by omega))) ?_
     refine gv hF oM ?_
     refine gv hF (ag rfl rfl (by simp (disch := omega) only [go_sem, Nat.reduceEqDiff, ai, af] <;> rfl)) ?_
     refine gv hF (ac rfl rfl (by simp (disch := omega) only [go_sem, Nat.reduceEqDiff, ai, af] <;> rfl)) ?_
     refine gv hF (aJ rfl rfl (by simp (disch := omega) only [go_sem, Nat.reduceEqDiff, ai, af] <;> rfl)) ?_
     refine gv hF (ah rfl rfl rfl (by exact nC _ _ _ _ _ (by omega))) ?_
     refine gv hF (aN rfl rfl rfl) ?_
     refine gv hF (aT rfl rfl rfl) ?_
     refine SmG.nil (aa ?_)
     refine aY hF rfl ?_
     refine Sm.seq ?_
     refine Sm.to (aQ (cH (st' := ⟨[(2, .ref 0 0 0), (3, .ref 1 0 0)], [(3, dB 1 (safe.map av)), (2, dB 33 (objs.map Ob.row)), (1, ⟨3, [[.sref 2 0 objs.length, .sref 3 0 safe.length, .d (.list 0 [] true)]]⟩), (0, ⟨3, [[.d (.list 0 [] true), .d (.list 0 [] true), .d (.list 0 [] true)]]⟩)], 5⟩) (aK ⟨rfl, rfl, trivial⟩ ⟨rfl, rfl, rfl, rfl, trivial⟩ (Nat.le_refl _))) (hfrz 5)) ?_
     refine ab hF rfl ?_
     refine gv hF (ac rfl rfl (cw rfl)) ?_
     refine SmG.store hF rfl rfl rfl rfl rfl (eW gR rfl rfl) ?_
     refine SmG.nil (aa (Sm.ret ?_))
     simp only [aZ, bP]
     refine cC rfl rfl (gb gR mY rfl) ?_
     rw [hdone (by rw [hstep]; unfold e9; rw [if_neg]; rintro ⟨g1, g2, g3, g4⟩; exact g4 ⟨k80, c4⟩)]
     exact ft ⟨D.le.refl _, D.le.refl _, ca 0 1 true, trivial⟩
    ·have hnext : bu objs safe.length b = some (objs ++ [⟨r.sum, r.data⟩]) := by
      rw [hstep]; unfold e9
      rw [if_pos ⟨hok, hn, ⟨fun _ => hfn, fun _ => k80⟩, fun h => c4 h.2⟩, if_pos k80]
     have hbo := rz r.sum r.data
     refine ab hF rfl ?_
     refine gv hF (ag rfl rfl (by simp (disch := omega) only [go_sem, Nat.reduceEqDiff, ai, af, hbi, av, aC] <;> rfl)) ?_
     refine gv hF (ac rfl rfl ((ky rfl).trans (by rw [hok]))) ?_
     refine gv hF (en rfl rfl (by exact fI _)) ?_
     refine gv hF oM ?_
     refine gv hF (ag rfl rfl (by simp (disch := omega) only [go_sem, Nat.reduceEqDiff, ai, af, hbi, av, aC] <;> rfl)) ?_
     refine gv hF (ac rfl rfl (nv rfl)) ?_
     refine gv hF oM ?_
     refine gv hF (ah rfl rfl rfl (by exact ia _ _ _ _ _ (by omega))) ?_
     refine gv hF (aT rfl rfl rfl) ?_
     refine gv hF oM ?_
     refine gv hF (ag rfl rfl (by simp (disch := omega) only [go_sem, Nat.reduceEqDiff, ai, af, hbi, av, aC] <;> rfl)) ?_
     refine gv hF (ac rfl rfl (fo rfl)) ?_
     refine gv hF (ah rfl rfl rfl (by exact dC _ _ _ _ _ (by omega))) ?_
     refine gv hF oM ?_
     refine gv hF (ah rfl rfl rfl (by exact dO _ _ _ _ _ (by omega))) ?_
     refine gv hF (ah rfl rfl rfl (nA _ _ _ _ (by kernel_rfl) (by exact (rfl : _ = false)))) ?_
     refine gv hF (aT rfl rfl rfl) ?_
     refine gv hF oM ?_
     refine gv hF (ag rfl rfl (by simp (disch := omega) only [go_sem, Nat.reduceEqDiff, ai, af, hbi, av, aC] <;> rfl)) ?_
     refine gv hF (ac rfl rfl (fo rfl)) ?_
     refine gv hF (ah rfl rfl rfl (by exact dC _ _ _ _ _ (by omega))) ?_
     refine gv hF oM ?_
     refine gv hF (ag rfl rfl (by simp (disch := omega) only [go_sem, Nat.reduceEqDiff, ai, af, hbi, av, aC] <;> rfl)) ?_
     refine gv hF (ac rfl rfl (by simp (disch := omega) only [go_sem, Nat.reduceEqDiff, ai, af, hbi, av, aC] <;> rfl)) ?_
     refine gv hF (aJ rfl rfl (by simp (disch := omega) only [go_sem, Nat.reduceEqDiff, ai, af, hbi, av, aC] <;> rfl)) ?_
     refine gv hF (ah rfl rfl rfl (by exact nB _ _ _ _ _ (by omega))) ?_
     refine gv hF (aN rfl rfl rfl) ?_
     refine gv hF (aT rfl rfl rfl) ?_
     refine SmG.nil (aa ?_)
     refine aR hF rfl ?_
     refine Sm.skip ?_
     refine aa (Sm.seq (Sm.seq ?_))
     refine ab hF rfl ?_
     refine gv hF (ag rfl rfl (by simp (disch := omega) only [go_sem, Nat.reduceEqDiff, ai, af, hbi, av, aC] <;> rfl)) ?_
     refine gv hF (ac rfl rfl (fo rfl)) ?_
     refine gv hF (ah rfl rfl rfl (by exact dC _ _ _ _ _ (by omega))) ?_
     refine SmG.nil (aa ?_)
     refine aY hF rfl ?_
     refine ab hF rfl ?_
     refine gv hF (ag rfl rfl (by simp (disch := omega) only [go_sem, Nat.reduceEqDiff, ai, af, hbi, av, aC] <;> rfl)) ?_
     refine gv hF (ac rfl rfl (by simp (disch := omega) only [go_sem, Nat.reduceEqDiff, ai, af, hbi, av, aC] <;> rfl)) ?_
     refine gv hF (ag rfl rfl (by simp (disch := omega) only [go_sem, Nat.reduceEqDiff, ai, af, hbi, av, aC] <;> rfl)) ?_
     refine gv hF (ac rfl rfl (vr rfl)) ?_
     refine gv hF (ag rfl rfl (by simp (disch := omega) only [go_sem, Nat.reduceEqDiff, ai, af, hbi, av, aC] <;> rfl)) ?_
     refine gv hF (ac rfl rfl (AK rfl)) ?_
     refine gv hF (cK rfl Tryd.underlying53 (by kernel_rfl) rfl hbo) ?_
     refine gv hF (bg rfl rfl (by simp (disch := omega) only [go_sem, Nat.reduceEqDiff, ai, af, hbi, av, aC] <;> rfl)) ?_
     rw [show objs.length = (objs.map Ob.row).length by simp]
     refine iN hF pO rfl rfl rfl rfl rfl rfl rfl (by rfl) (Or.inl rfl) ?_ ?_ ?_; rotate_left; rotate_left; simp only [ef, Pk.v, V.free, rep, dg, cg, lW, j7, mJ, ck, List.map_cons, List.map_nil, bne_self_eq_false, Nat.reduceAdd, Nat.reduceBNe, Nat.reduceBEq, Nat.reduceEqDiff, reduceIte, Bool.false_eq_true]
     ·refine gv hF (ag rfl rfl (by simp (disch := omega) only [go_sem, Nat.reduceEqDiff, ai, af, hbi, av, aC] <;> rfl)) ?_
      refine SmG.store hF rfl rfl rfl rfl rfl (by simp (disch := omega) only [go_sem, Nat.reduceEqDiff, ai, af, hbi, av, aC] <;> rfl) ?_
      refine SmG.nil (aa ?_)
      refine eE hF (by kernel_rfl) rfl 7 (by kernel_rfl) (by kernel_rfl) ?_
      simp only [List.take_succ_cons, List.take_zero, List.take_nil]
      refine hv hF (ag rfl rfl (by simp (disch := omega) only [go_sem, Nat.reduceEqDiff, ai, af, hbi, av, aC] <;> rfl)) ?_
      refine hv hF (ac rfl rfl (by simp (disch := omega) only [go_sem, Nat.reduceEqDiff, ai, af, hbi, av, aC] <;> rfl)) ?_
      refine hv hF oM (hv hF oM ?_)
      refine hv hF (aj rfl rfl rfl (by simp (disch := omega) only [go_sem, Nat.reduceEqDiff, ai, af, hbi, av, aC] <;> rfl)) ?_
      refine hv hF (ac rfl rfl (by simp (disch := omega) only [go_sem, Nat.reduceEqDiff, ai, af, hbi, av, aC] <;> rfl)) ?_
      refine hv hF (bg rfl rfl (by simp (disch := omega) only [go_sem, Nat.reduceEqDiff, ai, af, hbi, av, aC] <;> rfl)) ?_
      refine au.last ⟨rfl, ?_⟩
      simp only [List.drop_succ_cons, List.drop_zero, List.drop_nil, List.nil_append, List.cons_append]
      refine iN hF rC rfl rfl rfl rfl rfl rfl rfl (by (simp; done)) (Or.inl rfl) ?_ ?_ ?_; rotate_left; rotate_left; simp only [ef, Pk.v, V.free, rep, dg, cg, lW, j7, mJ, ck, List.map_cons, List.map_nil, bne_self_eq_false, Nat.reduceAdd, Nat.reduceBNe, Nat.reduceBEq, Nat.reduceEqDiff, reduceIte, Bool.false_eq_true]
      ·have hro : objs.map Ob.row ++ [Ob.row ⟨r.sum, r.data⟩] = (objs ++ [(⟨r.sum, r.data⟩ : Ob)]).map Ob.row := by simp
       have hrs2 : safe.map av ++ [[D.list 1 (b.map am) false]] = (safe ++ [b]).map av := by simp [av, aC]
       rw [hro, hrs2, show ((objs ++ [(⟨r.sum, r.data⟩ : Ob)]).map Ob.row).length = (objs ++ [(⟨r.sum, r.data⟩ : Ob)]).length by simp, show ((safe ++ [b]).map av).length = (safe ++ [b]).length by simp]
       refine gv hF (ag rfl rfl (by simp (disch := omega) only [go_sem, Nat.reduceEqDiff, ai, af, hbi, av, aC] <;> rfl)) ?_
       refine SmG.store hF rfl rfl rfl rfl rfl (by simp (disch := omega) only [go_sem, Nat.reduceEqDiff, ai, af, hbi, av, aC] <;> rfl) ?_
       refine SmG.nil (aI (aa ?_))
       refine Sm.to (aQ (cH (st' := ⟨[(0, .d (.list 1 (rs.map av) false)), (2, .ref 0 0 0), (3, .ref 1 0 0), (4, .d (.v (.int .i64 safe.length)))], [(3, dB 1 ((safe ++ [b]).map av)), (2, dB 33 ((objs ++ [(⟨r.sum, r.data⟩ : Ob)]).map Ob.row)), (1, ⟨3, [[.sref 2 0 (objs ++ [(⟨r.sum, r.data⟩ : Ob)]).length, .sref 3 0 (safe ++ [b]).length, .d (.list 0 [] true)]]⟩), (0, ⟨3, [[.d (.list 0 [] true), .d (.list 0 [] true), .d (.list 0 [] true)]]⟩)], 5⟩) (aK ⟨rfl, rfl, rfl, rfl, trivial⟩ ⟨rfl, rfl, rfl, rfl, trivial⟩ (Nat.le_refl _))) (lh 4 rfl (by (repeat' first | exact qO _ | exact nw _ _ | exact trivial | refine ot ?_ (by decide) | refine mb ?_ (wF _ _ _) | refine qP ?_ ?_ | refine ⟨rfl, ?_⟩)) rfl (by omega))) ?_
       refine ab hF rfl ?_
       refine gv hF oM ?_
       refine gv hF (ah rfl rfl rfl (by exact eo _ _ _ _ _ (aX _ (by omega)))) ?_
       refine gv hF oA (SmG.nil (aa ?_))
       have he : (safe.length : Int) + 1 = ((safe ++ [b]).length : Int) := by simp
       rw [he]
       refine ⟨⟨⟨objs ++ [⟨r.sum, r.data⟩], safe ++ [b], []⟩, rfl, by simp; omega, by simp; omega, ?_⟩, by simp; omega, aK ⟨rfl, rfl, rfl, rfl, trivial⟩ ⟨rfl, rfl, rfl, rfl, trivial⟩ (Nat.le_refl _)⟩
       rw [heq, hdr, cL, hnext]
       simp
      ·simp; omega
      ·simp; omega
     ·simp; omega
     ·simp; omega
  ·cases hfn : a9 objs r.sum.l with
   | none =>
    have hfz : cF objs r.sum.l = -1 := by unfold cF; rw [hfn]
    rw [hfz]
    refine ab hF rfl ?_
    refine gv hF (ag rfl rfl (by simp (disch := omega) only [go_sem, Nat.reduceEqDiff, ai, af] <;> rfl)) ?_
    refine gv hF (ac rfl rfl ((ky rfl).trans (by rw [hok]))) ?_
    refine gv hF (en rfl rfl (by exact fI _)) ?_
    refine gv hF oM ?_
    refine gv hF (ag rfl rfl (by simp (disch := omega) only [go_sem, Nat.reduceEqDiff, ai, af] <;> rfl)) ?_
    refine gv hF (ac rfl rfl (nv rfl)) ?_
    refine gv hF oM ?_
    refine gv hF (ah rfl rfl rfl (by exact ia _ _ _ _ _ (by omega))) ?_
    refine gv hF (aT rfl rfl rfl) ?_
    refine gv hF oM ?_
    refine gv hF (ag rfl rfl (by simp (disch := omega) only [go_sem, Nat.reduceEqDiff, ai, af] <;> rfl)) ?_
    refine gv hF (ac rfl rfl (fo rfl)) ?_
    refine gv hF (ah rfl rfl rfl (by exact iY _ _ _ _ _ (by omega))) ?_
    refine gv hF oM ?_
    refine gv hF (ah rfl rfl rfl (by exact dO _ _ _ _ _ (by omega))) ?_
    refine gv hF (ah rfl rfl rfl (nA _ _ _ _ (by kernel_rfl) (by exact (rfl : _ = true)))) ?_
    refine gv hF (aT rfl rfl rfl) ?_
    refine gv hF oM ?_
    refine gp hF ?_
    refine gp hF ?_
    refine gp hF ?_
    refine gp hF ?_
    refine gp hF ?_
    refine gp hF ?_
    refine gp hF ?_
    refine gp hF ?_
    refine gp hF ?_
    refine gv hF (aN rfl rfl rfl) ?_
    refine SmG.nil (aa ?_)
    refine aY hF rfl ?_
    refine Sm.seq ?_
    refine Sm.to (aQ (cH (st' := ⟨[(2, .ref 0 0 0), (3, .ref 1 0 0)], [(3, dB 1 (safe.map av)), (2, dB 33 (objs.map Ob.row)), (1, ⟨3, [[.sref 2 0 objs.length, .sref 3 0 safe.length, .d (.list 0 [] true)]]⟩), (0, ⟨3, [[.d (.list 0 [] true), .d (.list 0 [] true), .d (.list 0 [] true)]]⟩)], 5⟩) (aK ⟨rfl, rfl, trivial⟩ ⟨rfl, rfl, rfl, rfl, trivial⟩ (Nat.le_refl _))) (hfrz 5)) ?_
    refine ab hF rfl ?_
    refine gv hF (ac rfl rfl (cw rfl)) ?_
    refine SmG.store hF rfl rfl rfl rfl rfl (eW gR rfl rfl) ?_
    refine SmG.nil (aa (Sm.ret ?_))
    simp only [aZ, bP]
    refine cC rfl rfl (gb gR mY rfl) ?_
    rw [hdone (by rw [hstep]; unfold e9; rw [if_neg]; rintro ⟨g1, g2, g3, g4⟩; exact k80 (g3.2 hfn))]
    exact ft ⟨D.le.refl _, D.le.refl _, ca 0 1 true, trivial⟩
   | some i =>
    have hfz : cF objs r.sum.l = (i : Int) := by unfold cF; rw [hfn]
    rw [hfz]
    have hi : i < objs.length := by
     unfold a9 at hfn
     rw [List.findIdx?_eq_some_iff_getElem] at hfn
     exact hfn.1
    have hnext : bu objs safe.length b = some (objs.eraseIdx i) := by
     rw [hstep]; unfold e9
     rw [if_pos ⟨hok, hn, ⟨fun h => absurd h k80, fun h => by rw [hfn] at h; cases h⟩, fun h => k80 h.1⟩, if_neg k80, hfn]
     rfl
    have ho2 : (objs.eraseIdx i).length ≤ 256 := by have := List.length_eraseIdx_le objs i; omega
    refine ab hF rfl ?_
    refine gv hF (ag rfl rfl (by simp (disch := omega) only [go_sem, Nat.reduceEqDiff, ai, af, hbi, av, aC] <;> rfl)) ?_
    refine gv hF (ac rfl rfl ((ky rfl).trans (by rw [hok]))) ?_
    refine gv hF (en rfl rfl (by exact fI _)) ?_
    refine gv hF oM ?_
    refine gv hF (ag rfl rfl (by simp (disch := omega) only [go_sem, Nat.reduceEqDiff, ai, af, hbi, av, aC] <;> rfl)) ?_
    refine gv hF (ac rfl rfl (nv rfl)) ?_
    refine gv hF oM ?_
    refine gv hF (ah rfl rfl rfl (by exact ia _ _ _ _ _ (by omega))) ?_
    refine gv hF (aT rfl rfl rfl) ?_
    refine gv hF oM ?_
    refine gv hF (ag rfl rfl (by simp (disch := omega) only [go_sem, Nat.reduceEqDiff, ai, af, hbi, av, aC] <;> rfl)) ?_
    refine gv hF (ac rfl rfl (fo rfl)) ?_
    refine gv hF (ah rfl rfl rfl (by exact iY _ _ _ _ _ (by omega))) ?_
    refine gv hF oM ?_
    refine gv hF (ah rfl rfl rfl (by exact ey _ _ _ _ _ (by omega))) ?_
    refine gv hF (ah rfl rfl rfl (nA _ _ _ _ (by kernel_rfl) (by exact (rfl : _ = false)))) ?_
    refine gv hF (aT rfl rfl rfl) ?_
    refine gv hF oM ?_
    refine gv hF (ag rfl rfl (by simp (disch := omega) only [go_sem, Nat.reduceEqDiff, ai, af, hbi, av, aC] <;> rfl)) ?_
    refine gv hF (ac rfl rfl (fo rfl)) ?_
    refine gv hF (ah rfl rfl rfl (by exact iY _ _ _ _ _ (by omega))) ?_
    refine gv hF oM ?_
    refine gp hF ?_
    refine gp hF ?_
    refine gp hF ?_
    refine gp hF ?_
    refine gv hF (aT rfl rfl rfl) ?_
    refine gv hF (aT rfl rfl rfl) ?_
    refine SmG.nil (aa ?_)
    refine aR hF rfl ?_
    refine Sm.skip ?_
    refine aa (Sm.seq (Sm.seq ?_))
    refine ab hF rfl ?_
    refine gv hF (ag rfl rfl (by simp (disch := omega) only [go_sem, Nat.reduceEqDiff, ai, af, hbi, av, aC] <;> rfl)) ?_
    refine gv hF (ac rfl rfl (fo rfl)) ?_
    refine gv hF (ah rfl rfl rfl (by exact iY _ _ _ _ _ (by omega))) ?_
    refine SmG.nil (aa ?_)
    refine aR hF rfl ?_
    have hf2 : St.to F ⟨[(0, .d (.list 1 (rs.map av) false)), (2, .ref 0 0 0), (3, .ref 1 0 0), (4, .d (.v (.int .i64 safe.length))), (6, .d (.v (.int .i64 i)))], [(3, dB 1 (safe.map av)), (2, dB 33 (objs.map Ob.row)), (1, ⟨3, [[.sref 2 0 objs.length, .sref 3 0 safe.length, .d (.list 0 [] true)]]⟩), (0, ⟨3, [[.d (.list 0 [] true), .d (.list 0 [] true), .d (.list 0 [] true)]]⟩)], 5⟩ ⟨[(0, .d (.list 1 (rs.map av) false)), (2, .ref 0 0 0), (3, .ref 1 0 0), (4, .d (.v (.int .i64 safe.length))), (6, .d (.v (.int .i64 i)))], [(3, dB 1 (safe.map av)), (1, ⟨3, [[.d (.list 33 (objs.map Ob.row) false), .sref 3 0 safe.length, .d (.list 0 [] true)]]⟩), (0, ⟨3, [[.d (.list 0 [] true), .d (.list 0 [] true), .d (.list 0 [] true)]]⟩)], 5⟩ := by
     have h := fb (F := F) (st := ⟨[(0, .d (.list 1 (rs.map av) false)), (2, .ref 0 0 0), (3, .ref 1 0 0), (4, .d (.v (.int .i64 safe.length))), (6, .d (.v (.int .i64 i)))], [(3, dB 1 (safe.map av)), (2, dB 33 (objs.map Ob.row)), (1, ⟨3, [[.sref 2 0 objs.length, .sref 3 0 safe.length, .d (.list 0 [] true)]]⟩), (0, ⟨3, [[.d (.list 0 [] true), .d (.list 0 [] true), .d (.list 0 [] true)]]⟩)], 5⟩) (l := 2) (objs.map Ob.row) rfl rfl
     simp only [ic, b7, dg, qH, Ao, reduceIte, Nat.reduceEqDiff] at h
     simpa [c8, bn, cg] using h
    refine Sm.to (aQ (cH (st' := ⟨[(0, .d (.list 1 (rs.map av) false)), (2, .ref 0 0 0), (3, .ref 1 0 0), (4, .d (.v (.int .i64 safe.length))), (6, .d (.v (.int .i64 i)))], [(3, dB 1 (safe.map av)), (2, dB 33 (objs.map Ob.row)), (1, ⟨3, [[.sref 2 0 objs.length, .sref 3 0 safe.length, .d (.list 0 [] true)]]⟩), (0, ⟨3, [[.d (.list 0 [] true), .d (.list 0 [] true), .d (.list 0 [] true)]]⟩)], 5⟩) (aK ⟨rfl, rfl, rfl, rfl, rfl, trivial⟩ ⟨rfl, rfl, rfl, rfl, trivial⟩ (Nat.le_refl _))) hf2) ?_
    refine ab hF rfl ?_
    refine gv hF (ag rfl rfl (by simp (disch := omega) only [go_sem, Nat.reduceEqDiff, ai, af, hbi, av, aC] <;> rfl)) ?_
    refine gv hF (ac rfl rfl (by simp (disch := omega) only [go_sem, Nat.reduceEqDiff, ai, af, hbi, av, aC] <;> rfl)) ?_
    refine gv hF oM ?_
    refine SmG.callO hF rfl rfl (by kernel_rfl) rfl rfl rfl (y3 objs i (by omega) hi) ?_
    refine gv hF (ag rfl rfl (by simp (disch := omega) only [go_sem, Nat.reduceEqDiff, ai, af, hbi, av, aC] <;> rfl)) ?_
    refine SmG.store hF rfl rfl rfl rfl rfl (by simp (disch := omega) only [go_sem, Nat.reduceEqDiff, ai, af, hbi, av, aC] <;> rfl) ?_
    refine SmG.nil (aa ?_)
    refine eE hF (by kernel_rfl) rfl 7 (by kernel_rfl) (by kernel_rfl) ?_
    simp only [List.take_succ_cons, List.take_zero, List.take_nil]
    refine hv hF (ag rfl rfl (by simp (disch := omega) only [go_sem, Nat.reduceEqDiff, ai, af, hbi, av, aC] <;> rfl)) ?_
    refine hv hF (ac rfl rfl (by simp (disch := omega) only [go_sem, Nat.reduceEqDiff, ai, af, hbi, av, aC] <;> rfl)) ?_
    refine hv hF oM (hv hF oM ?_)
    refine hv hF (aj rfl rfl rfl (by simp (disch := omega) only [go_sem, Nat.reduceEqDiff, ai, af, hbi, av, aC] <;> rfl)) ?_
    refine hv hF (ac rfl rfl (by simp (disch := omega) only [go_sem, Nat.reduceEqDiff, ai, af, hbi, av, aC] <;> rfl)) ?_
    refine hv hF (bg rfl rfl (by simp (disch := omega) only [go_sem, Nat.reduceEqDiff, ai, af, hbi, av, aC] <;> rfl)) ?_
    refine au.last ⟨rfl, ?_⟩
    simp only [List.drop_succ_cons, List.drop_zero, List.drop_nil, List.nil_append, List.cons_append]
    refine iN hF rC rfl rfl rfl rfl rfl rfl rfl (by (simp; done)) (Or.inl rfl) ?_ ?_ ?_; rotate_left; rotate_left; simp only [ef, Pk.v, V.free, rep, dg, cg, lW, j7, mJ, ck, List.map_cons, List.map_nil, bne_self_eq_false, Nat.reduceAdd, Nat.reduceBNe, Nat.reduceBEq, Nat.reduceEqDiff, reduceIte, Bool.false_eq_true]
    ·have hrs2 : safe.map av ++ [[D.list 1 (b.map am) false]] = (safe ++ [b]).map av := by simp [av, aC]
     rw [hrs2, show ((objs.eraseIdx i).map Ob.row).length = (objs.eraseIdx i).length by simp, show ((safe ++ [b]).map av).length = (safe ++ [b]).length by simp]
     refine gv hF (ag rfl rfl (by simp (disch := omega) only [go_sem, Nat.reduceEqDiff, ai, af, hbi, av, aC] <;> rfl)) ?_
     refine SmG.store hF rfl rfl rfl rfl rfl (by simp (disch := omega) only [go_sem, Nat.reduceEqDiff, ai, af, hbi, av, aC] <;> rfl) ?_
     refine SmG.nil (aI (aa ?_))
     refine Sm.to (aQ (cH (st' := ⟨[(0, .d (.list 1 (rs.map av) false)), (2, .ref 0 0 0), (3, .ref 1 0 0), (4, .d (.v (.int .i64 safe.length)))], [(3, dB 1 ((safe ++ [b]).map av)), (5, dB 33 ((objs.eraseIdx i).map Ob.row)), (1, ⟨3, [[.sref 5 0 (objs.eraseIdx i).length, .sref 3 0 (safe ++ [b]).length, .d (.list 0 [] true)]]⟩), (0, ⟨3, [[.d (.list 0 [] true), .d (.list 0 [] true), .d (.list 0 [] true)]]⟩)], 6⟩) (aK ⟨rfl, rfl, rfl, rfl, trivial⟩ ⟨rfl, rfl, rfl, rfl, trivial⟩ (Nat.le_refl _))) (Hr h0 hgt)) ?_
     refine ab hF rfl ?_
     refine gv hF oM ?_
     refine gv hF (ah rfl rfl rfl (by exact eo _ _ _ _ _ (aX _ (by omega)))) ?_
     refine gv hF oA (SmG.nil (aa ?_))
     have he : (safe.length : Int) + 1 = ((safe ++ [b]).length : Int) := by simp
     rw [he]
     refine ⟨⟨⟨objs.eraseIdx i, safe ++ [b], []⟩, rfl, ho2, by simp; omega, ?_⟩, by simp; omega, aK ⟨rfl, rfl, rfl, rfl, trivial⟩ ⟨rfl, rfl, rfl, rfl, trivial⟩ (Nat.le_refl _)⟩
     rw [heq, hdr, cL, hnext]
     simp
    ·simp; omega
    ·simp; omega
 ·refine Sm.seq (Sm.seq ?_)
  refine ab hF rfl ?_
  refine gv hF oM (gv hF oM ?_)
  refine gv hF (aJ rfl rfl (by simp (disch := omega) only [go_sem, Nat.reduceEqDiff, ai, af] <;> rfl)) ?_
  refine gv hF (ah rfl rfl rfl (by exact ey _ _ _ _ _ (by omega))) ?_
  refine SmG.nil (aa ?_)
  refine aR hF rfl ?_
  refine Sm.exit ?_; simp only [aZ, bP, reduceIte, reduceCtorEq]
  refine Sm.to (aQ (cH (st' := ⟨[(2, .ref 0 0 0), (3, .ref 1 0 0)], [(3, dB 1 (safe.map av)), (2, dB 33 (objs.map Ob.row)), (1, ⟨3, [[.sref 2 0 objs.length, .sref 3 0 safe.length, .d (.list 0 [] true)]]⟩), (0, ⟨3, [[.d (.list 0 [] true), .d (.list 0 [] true), .d (.list 0 [] true)]]⟩)], 4⟩) (aK ⟨rfl, rfl, trivial⟩ ⟨rfl, rfl, rfl, rfl, trivial⟩ (Nat.le_refl _))) (hfrz 4)) ?_
  refine Sm.seq ?_
  refine ab hF rfl ?_
  refine gv hF (ac rfl rfl (cw rfl)) ?_
  refine SmG.store hF rfl rfl rfl rfl rfl (eW gR rfl rfl) ?_
  refine SmG.nil (aa (Sm.ret ?_))
  refine cC rfl rfl (gb gR mY rfl) ?_
  have : safe.length = rs.length := by omega
  rw [heq, this, List.drop_length]
  exact ft ⟨D.le.refl _, D.le.refl _, ca 0 1 true, trivial⟩
end
section
open Go.RowKit
set_option maxRecDepth 100000
open Classical in
noncomputable def jT (a : List UInt8) : Option (Vec 32) := if a.length ≤ 1000000 then some (eK a) else none
noncomputable def pW : Con Tryd.prog HG nmS := ⟨21, [], [.lst .u8], .vec 32, fun a => jT a, false⟩
theorem xd {a : List UInt8} {r : Vec 32} (h : jT a = some r) : ap Tryd.prog HG 21 [.list 1 (a.map am) false] (.agg 32 (aA r.l)) := by
 unfold jT at h
 split at h
 ·cases h; exact q0 a (by assumption)
 ·cases h
theorem xe : pW.Ok := ⟨fun _ a r h => xd h, fun h => by cases h⟩
noncomputable def np : Con Tryd.prog HG nmS := ⟨15, [], [.lst (.lst .u8)], .nm 1, fun a => fu a, false⟩
theorem ug : np.Ok := ⟨fun _ a r h => kr h, fun h => by cases h⟩
open Classical in
noncomputable def io (s : Sto) (k : UInt8) (x : List UInt8) : Option Sto := if s.safe.length ≤ 1000000 ∧ s.queue.length ≤ 1000000 ∧ x.length ≤ 100000 then some (kJ s k x) else none
theorem uj {s r : Sto} {k : UInt8} {x : List UInt8} (h : io s k x = some r) : ap Tryd.prog HG 65 [.agg 3 (Sto.row s), .v (.int .u8 (k.toNat : Int)), .list 1 (x.map am) false] (.agg 3 (Sto.row r)) := by
 unfold io at h
 split at h
 ·rename_i hc; cases h; exact CE s k x hc.1 hc.2.1 hc.2.2
 ·cases h
noncomputable def nu : Con Tryd.prog HG nmS := ⟨65, [], [.nm 1, .u8, .lst .u8], .nm 1, fun a => io a.1 a.2.1 a.2.2, false⟩
theorem uk : nu.Ok := ⟨fun _ a r h => uj h, fun h => by cases h⟩
open Classical in
noncomputable def je (s : Sto) (x : List UInt8) : Option (Sto × Vec 32 × Int) := if s.objects.length ≤ 1000000 ∧ s.safe.length ≤ 1000000 ∧ s.queue.length ≤ 1000000 ∧ x.length ≤ 99000 then some (dU s x) else none
theorem vY {s : Sto} {x : List UInt8} {r : Sto × Vec 32 × Int} (h : je s x = some r) : ap Tryd.prog HG 40 [.agg 3 (Sto.row s), .list 1 (x.map am) false] (.tup [.agg 3 (Sto.row r.1), .agg 32 (aA r.2.1.l), .v (.int .i64 r.2.2)]) := by
 unfold je at h
 split at h
 ·rename_i hc; cases h; exact HV s x hc.1 hc.2.1 hc.2.2.1 hc.2.2.2
 ·cases h
noncomputable def pj : Con Tryd.prog HG nmS := ⟨40, [], [.nm 1, .lst .u8], .tup [.nm 1, .vec 32, .int .i64], fun a => je a.1 a.2, false⟩
theorem vZ : pj.Ok := ⟨fun _ a r h => vY h, fun h => by cases h⟩
open Classical in
noncomputable def eS (rs : List (List UInt8)) : Option Sto := if rs.length ≤ 1000000 ∧ ∀ b ∈ rs, b.length ≤ 1000000 then some (cL [] [] rs) else none
theorem nY {rs : List (List UInt8)} {r : Sto} (h : eS rs = some r) : ap Tryd.prog HG 32 [.list 1 (rs.map av) false] (.agg 3 (Sto.row r)) := by
 unfold eS at h
 split at h
 ·rename_i hc; cases h; exact D7 rs hc.1 hc.2
 ·cases h
noncomputable def jW : Con Tryd.prog HG nmS := ⟨32, [], [.lst (.lst .u8)], .nm 1, fun a => eS a, false⟩
theorem nZ : jW.Ok := ⟨fun _ a r h => nY h, fun h => by cases h⟩
noncomputable def mG : Con Tryd.prog HG nmS := ⟨14, [], [.nm 1], .bool, fun a => ez a, false⟩
theorem jZ : mG.Ok := ⟨fun _ a r h => sN h, fun h => by cases h⟩
noncomputable def mD : Con Tryd.prog HG nmS := ⟨25, [], [.nm 1, .lst .bool], .nm 1, fun a => fH a.1 a.2, false⟩
theorem jY : mD.Ok := ⟨fun _ a r h => sK h, fun h => by cases h⟩
open Classical in
noncomputable def gn (l : List Ob) (k : Vec 32) : Option Int := if l.length ≤ 4294967296 then some (cF l k.l) else none
theorem ui {l : List Ob} {k : Vec 32} {r : Int} (h : gn l k = some r) : ap Tryd.prog HG 58 [.list 33 (l.map Ob.row) false, .agg 32 (aA k.l)] (.v (.int .i64 r)) := by
 unfold gn at h
 split at h
 ·cases h; exact pY l k (by assumption)
 ·cases h
noncomputable def ku : Con Tryd.prog HG nmS := ⟨58, [], [.lst (.nm 0), .vec 32], .int .i64, fun a => gn a.1 a.2, false⟩
theorem nt : ku.Ok := ⟨fun _ a r h => ui h, fun h => by cases h⟩
noncomputable def lg : Con Tryd.prog HG nmS := ⟨59, [], [.lst (.nm 0), .int .i64], .lst (.nm 0), fun a => dZ a.1 a.2, false⟩
theorem rc : lg.Ok := ⟨fun _ a r h => lf h, fun h => by cases h⟩
end
section
open Go.RowKit
set_option maxRecDepth 100000
noncomputable def fm : Con Tryd.prog HG nmS := ⟨33, [], [.lst (.lst (.lst .u8))], .lst (.lst .u8), fun a => bh a, false⟩
theorem jc : fm.Ok := ⟨fun _ a r h => jb h, fun h => by cases h⟩
noncomputable def na : Option Sto :=
 some (⟨[], [], []⟩ : Sto)
theorem vX (a : Unit) : gO (cfA [] Tryd.f11.ntmps []) [] Tryd.f11 [] [] (.nm 1) (.e) a = na := by kernel_rfl
noncomputable def ph : Con Tryd.prog HG nmS := ⟨11, [], [], (.nm 1), fun a => na, false⟩
theorem pi : ph.Ok := jA .nil vX Tryd.func11 rfl
noncomputable def jd (a0 : Sto) (a1 : Vec 32) : Option (List UInt8 × Int) :=
 ob (gn a0.objects a1) fun x1 =>
 bif (decide (x1 < 0)) then (
  some ([], 331)
 ) else (
  ob (idx a0.objects x1) fun x3 =>
  some (x3.data, 0)
 )
theorem vV (a : Sto × (Vec 32)) : gO (cfA [ku] Tryd.f44.ntmps [2, 3]) [] Tryd.f44 [] [(.nm 1), (.vec 32)] (.pair (.lst .u8) (.int .i64)) (.nj (.br .e .e)) a = jd a.1 a.2 := by kernel_rfl
noncomputable def pg : Con Tryd.prog HG nmS := ⟨44, [], [(.nm 1), (.vec 32)], (.pair (.lst .u8) (.int .i64)), fun a => jd a.1 a.2, false⟩
theorem vW : pg.Ok := jA (.cons nt .nil) vV Tryd.func44 rfl
noncomputable def gU (a0 : Sto) (a1 : Vec 32) : Option (Sto × Int) :=
 ob (gn a0.objects a1) fun x1 =>
 bif (decide (x1 < 0)) then (
  some (a0, 331)
 ) else (
  ob (io a0 (68 : UInt8) a1.l) fun x3 =>
  ob (dZ x3.objects x1) fun x4 =>
  some ((⟨x4, x3.safe, x3.queue⟩ : Sto), 0)
 )
theorem sL (a : Sto × (Vec 32)) : gO (cfA [ku, nu, lg] Tryd.f45.ntmps [3]) [] Tryd.f45 [] [(.nm 1), (.vec 32)] (.pair (.nm 1) (.int .i64)) (.nj (.br .e (.seg 2 .e))) a = gU a.1 a.2 := by kernel_rfl
noncomputable def mE : Con Tryd.prog HG nmS := ⟨45, [], [(.nm 1), (.vec 32)], (.pair (.nm 1) (.int .i64)), fun a => gU a.1 a.2, false⟩
theorem sM : mE.Ok := jA (.cons nt (.cons uk (.cons rc .nil))) sL Tryd.func45 rfl
noncomputable def cN (a0 : Sto) : Option (List (List UInt8)) :=
 ob (app ([] : List (List UInt8)) a0.safe) fun x1 =>
 ob (app x1 a0.queue) fun x2 =>
 some x2
theorem pt (a : Sto) : gO (cfA [] Tryd.f16.ntmps [1]) [(7, 2)] Tryd.f16 [] [(.nm 1)] (.lst (.lst .u8)) (.e) a = cN a := by kernel_rfl
noncomputable def ib : Con Tryd.prog HG nmS := ⟨16, [], [(.nm 1)], (.lst (.lst .u8)), fun a => cN a, false⟩
theorem km : ib.Ok := jA .nil pt Tryd.func16 rfl
noncomputable def gj (a0 : List Ob) (a1 : List Ob) (s2 : Int) : Option (Int ⊕ (Unit ⊕ Bool)) :=
 bif (decide (s2 < (a0.length : Int))) then (
  ob (idx a0 s2) fun x7 =>
  ob (idx a1 s2) fun x8 =>
  bif (!(x7.sum.l == x8.sum.l)) then (
   some (.inr (.inr false))
  ) else (
   ob (idx a0 s2) fun x10 =>
   ob (idx a1 s2) fun x11 =>
   bif (!(x10.data == x11.data)) then (
    some (.inr (.inr false))
   ) else (
    ob (arI .i64 (s2 + 1)) fun x13 =>
    some (.inl x13)
   )
  )
 ) else (
  some (.inr (.inl ()))
 )
noncomputable def bI (a0 : List Ob) (a1 : List Ob) : Option Bool :=
 bif ((a0.length : Int) != (a1.length : Int)) then (
  some false
 ) else (
  ob ((
   cR (gj a0 a1) 0
   : Option (Unit ⊕ Bool))) fun o15 => match o15 with
  | .inl v14 => (
   some true
   )
  | .inr e16 => some e16
 )
theorem kO (a : (List Ob) × (List Ob)) : gO (cfA [] Tryd.f17.ntmps []) [] Tryd.f17 [] [(.lst (.nm 0)), (.lst (.nm 0))] .bool (.nj (.br .e (.jn ⟨[], [], [], [], [], [], 0⟩ true (.lp [] ⟨[0, 1], [], [], [(5, (.int .i64))], [], [], 0⟩ (.nj (.br (.nj (.seg 24 (.br .e (.br .e .e)))) .e))) .e))) a = bI a.1 a.2 := by kernel_rfl
noncomputable def du : Con Tryd.prog HG nmS := ⟨17, [], [(.lst (.nm 0)), (.lst (.nm 0))], .bool, fun a => bI a.1 a.2, false⟩
theorem eU : du.Ok := jA .nil kO Tryd.func17 rfl
noncomputable def gk (a0 : List (List UInt8)) (a1 : List (List UInt8)) (s2 : Int) : Option (Int ⊕ (Unit ⊕ Bool)) :=
 bif (decide (s2 < (a0.length : Int))) then (
  ob (idx a0 s2) fun x7 =>
  ob (idx a1 s2) fun x8 =>
  bif (!(x7 == x8)) then (
   some (.inr (.inr false))
  ) else (
   ob (arI .i64 (s2 + 1)) fun x10 =>
   some (.inl x10)
  )
 ) else (
  some (.inr (.inl ()))
 )
noncomputable def bJ (a0 : List (List UInt8)) (a1 : List (List UInt8)) : Option Bool :=
 bif ((a0.length : Int) != (a1.length : Int)) then (
  some false
 ) else (
  ob ((
   cR (gk a0 a1) 0
   : Option (Unit ⊕ Bool))) fun o12 => match o12 with
  | .inl v11 => (
   some true
   )
  | .inr e13 => some e13
 )
theorem kP (a : (List (List UInt8)) × (List (List UInt8))) : gO (cfA [] Tryd.f18.ntmps []) [] Tryd.f18 [] [(.lst (.lst .u8)), (.lst (.lst .u8))] .bool (.nj (.br .e (.jn ⟨[], [], [], [], [], [], 0⟩ true (.lp [] ⟨[0, 1], [], [], [(5, (.int .i64))], [], [], 0⟩ (.nj (.br (.nj (.seg 10 (.br .e .e))) .e))) .e))) a = bJ a.1 a.2 := by kernel_rfl
noncomputable def eV : Con Tryd.prog HG nmS := ⟨18, [], [(.lst (.lst .u8)), (.lst (.lst .u8))], .bool, fun a => bJ a.1 a.2, false⟩
theorem gF : eV.Ok := jA .nil kP Tryd.func18 rfl
noncomputable def eT (a0 : Sto) (a1 : Sto) : Option Bool :=
 ob (bI a0.objects a1.objects) fun x1 =>
 bif x1 then (
  ob (bJ a0.safe a1.safe) fun x3 =>
  bif x3 then (
   ob (bJ a0.queue a1.queue) fun x5 =>
   some x5
  ) else (
   some false
  )
 ) else (
  some false
 )
theorem n5 (a : Sto × Sto) : gO (cfA [du, eV] Tryd.f26.ntmps [2, 3]) [] Tryd.f26 [] [(.nm 1), (.nm 1)] .bool (.br (.br .e .e) .e) a = eT a.1 a.2 := by kernel_rfl
noncomputable def jX : Con Tryd.prog HG nmS := ⟨26, [], [(.nm 1), (.nm 1)], .bool, fun a => eT a.1 a.2, false⟩
theorem n6 : jX.Ok := jA (.cons eU (.cons gF .nil)) n5 Tryd.func26 rfl
noncomputable def gm (a0 : Sto) : Option Sto :=
 ob (bh [a0.safe, a0.queue]) fun x1 =>
 some (⟨a0.objects, x1, []⟩ : Sto)
theorem uh (a : Sto) : gO (cfA [fm] Tryd.f27.ntmps [1]) [] Tryd.f27 [] [(.nm 1)] (.nm 1) (.seg 8 .e) a = gm a := by kernel_rfl
noncomputable def nq : Con Tryd.prog HG nmS := ⟨27, [], [(.nm 1)], (.nm 1), fun a => gm a, false⟩
theorem nr : nq.Ok := jA (.cons jc .nil) uh Tryd.func27 rfl
noncomputable def eB (a0 : Sto) : Option Bool :=
 ob (cN a0) fun x1 =>
 ob (eS x1) fun x2 =>
 bif ((x2.safe.length : Int) == (x1.length : Int)) then (
  ob (bI x2.objects a0.objects) fun x4 =>
  some x4
 ) else (
  some false
 )
theorem nn (a : Sto) : gO (cfA [ib, jW, du] Tryd.f13.ntmps [1]) [] Tryd.f13 [] [(.nm 1)] .bool (.br .e .e) a = eB a := by kernel_rfl
noncomputable def jH : Con Tryd.prog HG nmS := ⟨13, [], [(.nm 1)], .bool, fun a => eB a, false⟩
theorem e6 : jH.Ok := jA (.cons km (.cons nZ (.cons eU .nil))) nn Tryd.func13 rfl
noncomputable def db (a0 : Sto) (a1 : List UInt8) : Option Std :=
 ob (je a0 a1) fun x1 =>
 some (⟨x1.1, x1.2.1, x1.2.2⟩ : Std)
theorem m9 (a : Sto × (List UInt8)) : gO (cfA [pj] Tryd.f20.ntmps [2]) [] Tryd.f20 [] [(.nm 1), (.lst .u8)] (.nm 4) (.e) a = db a.1 a.2 := by kernel_rfl
noncomputable def i9 : Con Tryd.prog HG nmS := ⟨20, [], [(.nm 1), (.lst .u8)], (.nm 4), fun a => db a.1 a.2, false⟩
theorem dE : i9.Ok := jA (.cons vZ .nil) m9 Tryd.func20 rfl
noncomputable def dN (a0 : Sto) (a1 : Vec 32) : Option Std :=
 ob (gU a0 a1) fun x1 =>
 some (⟨x1.1, (⟨List.replicate 32 0, rfl⟩ : Vec 32), x1.2⟩ : Std)
theorem ml (a : Sto × (Vec 32)) : gO (cfA [mE] Tryd.f23.ntmps [2, 3]) [] Tryd.f23 [] [(.nm 1), (.vec 32)] (.nm 4) (.e) a = dN a.1 a.2 := by kernel_rfl
noncomputable def iZ : Con Tryd.prog HG nmS := ⟨23, [], [(.nm 1), (.vec 32)], (.nm 4), fun a => dN a.1 a.2, false⟩
theorem i4 : iZ.Ok := jA (.cons sM .nil) ml Tryd.func23 rfl
noncomputable def eu (a0 : Sto) (a1 : Vec 32) : Option Gott :=
 ob (jd a0 a1) fun x1 =>
 some (⟨x1.1, x1.2⟩ : Gott)
theorem pq (a : Sto × (Vec 32)) : gO (cfA [pg] Tryd.f22.ntmps [2, 3]) [] Tryd.f22 [] [(.nm 1), (.vec 32)] (.nm 5) (.e) a = eu a.1 a.2 := by kernel_rfl
noncomputable def pp : Con Tryd.prog HG nmS := ⟨22, [], [(.nm 1), (.vec 32)], (.nm 5), fun a => eu a.1 a.2, false⟩
theorem kl : pp.Ok := jA (.cons vW .nil) pq Tryd.func22 rfl
noncomputable def dY (a0 : Std) (a1 : Std) : Option Bool :=
 ob (eT a0.s a1.s) fun x1 =>
 bif x1 then (
  bif (a0.k.l == a1.k.l) then (
   some (a0.e == a1.e)
  ) else (
   some false
  )
 ) else (
  some false
 )
theorem k7 (a : Std × Std) : gO (cfA [jX] Tryd.f29.ntmps [2, 3]) [] Tryd.f29 [] [(.nm 4), (.nm 4)] .bool (.br (.br .e .e) .e) a = dY a.1 a.2 := by kernel_rfl
noncomputable def k6 : Con Tryd.prog HG nmS := ⟨29, [], [(.nm 4), (.nm 4)], .bool, fun a => dY a.1 a.2, false⟩
theorem k8 : k6.Ok := jA (.cons n6 .nil) k7 Tryd.func29 rfl
noncomputable def eR (a0 : Sto) (a1 : SRaw) : Option Sto :=
 ob (slc a1.data 0 (min (a1.data.length : Int) 40)) fun x1 =>
 ob (qp (a1.kind.toNat : Int) 8) fun x2 =>
 ob ((
  bif (x2 == 0) then (
   some (x2 == 0)
  ) else (
   bif (x2 == 1) then (
    some (x2 == 1)
   ) else (
    bif (x2 == 2) then (
     some (x2 == 2)
    ) else (
     some (x2 == 3)
    )
   )
  )
  : Option Bool)) fun v6 =>
 bif v6 then (
  ob (db a0 x1) fun x8 =>
  some x8.s
 ) else (
  ob ((
   bif (x2 == 4) then (
    some (x2 == 4)
   ) else (
    some (x2 == 5)
   )
   : Option Bool)) fun v10 =>
  bif v10 then (
   ob (jT x1) fun x12 =>
   ob (dN a0 x12) fun x13 =>
   some x13.s
  ) else (
   bif (x2 == 6) then (
    ob (gm a0) fun x15 =>
    some x15
   ) else (
    ob (fH a0 a1.keep) fun x16 =>
    some x16
   )
  )
 )
theorem nV (a : Sto × SRaw) : gO (cfA [i9, pW, iZ, nq, mD] Tryd.f12.ntmps [2, 3]) [] Tryd.f12 [] [(.nm 1), (.nm 2)] (.nm 1) (.nj (.jn ⟨[2, 3, 4, 5, 15], [], [0], [(16, .bool)], [], [], 1⟩ false (.br .e (.br .e (.br .e .e))) (.br .e (.jn ⟨[2, 3, 4, 5, 15], [], [0], [(25, .bool)], [], [], 1⟩ false (.br .e .e) (.br (.seg 3 .e) (.br .e .e)))))) a = eR a.1 a.2 := by kernel_rfl
noncomputable def jV : Con Tryd.prog HG nmS := ⟨12, [], [(.nm 1), (.nm 2)], (.nm 1), fun a => eR a.1 a.2, false⟩
theorem nW : jV.Ok := jA (.cons dE (.cons xe (.cons i4 (.cons nr (.cons jY .nil))))) nV Tryd.func12 rfl
end
section
open Go.RowKit
set_option maxRecDepth 100000
end
section
open Go.RowKit
theorem tZ {n : Nat} (h : n < 4294967296) : be (cq n) = n := by
 simp only [cq, be, List.foldl_cons, List.foldl_nil, UInt8.toNat_ofNat']
 omega
theorem mf (n : Nat) : (cq n).length = 4 := rfl
theorem yZ (x : List UInt8) : (x ++ Sha.sum x).take ((x ++ Sha.sum x).length - 32) = x := by
 have : (Sha.sum x).length = 32 := Sha.out_length _
 rw [List.length_append, this, Nat.add_sub_cancel, List.take_left']; rfl
theorem yY (x : List UInt8) : (x ++ Sha.sum x).drop ((x ++ Sha.sum x).length - 32) = Sha.sum x := by
 have : (Sha.sum x).length = 32 := Sha.out_length _
 rw [List.length_append, this, Nat.add_sub_cancel, List.drop_left']; rfl
theorem pf (o : List Ob) (n : Nat) (x : List UInt8) : bu o n (x ++ Sha.sum x) = pH o n x := by
 have h32 : (Sha.sum x).length = 32 := Sha.out_length _
 unfold bu
 rw [if_neg (by simp [h32]), yZ, yY, if_neg (by simp)]
theorem Aa {o : List Ob} {n : Nat} {x : List UInt8} (hn : n < 4294967296) (hx : x.length ≤ 65536) (hf : a9 o (Sha.sum x) = none) (ho : o.length < 256) : bu o n (jx n x) = some (o ++ [⟨eK x, x⟩]) := by
 unfold jx
 rw [pf, dV]
 have h4 := mf n
 have h4' := mf x.length
 have e1 : (cq n ++ cq x.length ++ x).take 4 = cq n := by rw [List.append_assoc, List.take_left' h4]
 have e2 : (cq n ++ cq x.length ++ x).drop 4 = cq x.length ++ x := by rw [List.append_assoc, List.drop_left' h4]
 rw [if_neg (by simp [h4]), e1, e2, tZ hn, if_neg (by simp)]
 unfold fL
 have e3 : (cq x.length ++ x).take 4 = cq x.length := List.take_left' h4'
 have e4 : (cq x.length ++ x).drop 4 = x := List.drop_left' h4'
 rw [if_pos (by decide), e3, e4, tZ (by omega), if_neg (by simp [h4'])]
 unfold fX
 rw [if_neg (by simp), List.take_length, if_pos ⟨hx, hf, ho⟩]
theorem yA {o : List Ob} {n i : Nat} {k : List UInt8} (hn : n < 4294967296) (hk : k.length = 32) (hf : a9 o k = some i) : bu o n (rT n k) = some (o.eraseIdx i) := by
 unfold rT
 rw [pf, dV]
 have h4 := mf n
 have e1 : (cq n ++ k).take 4 = cq n := List.take_left' h4
 have e2 : (cq n ++ k).drop 4 = k := List.drop_left' h4
 rw [if_neg (by simp [h4]), e1, e2, tZ hn, if_neg (by simp)]
 unfold fL
 rw [if_neg (by decide), if_pos (by decide), if_neg (by omega)]
 unfold fj
 rw [if_neg (by simp [hk]), List.take_of_length_le (by omega), hf]
theorem z9 {o o' o2 o2' : List Ob} {n m : Nat} {b : List UInt8} (h : bu o n b = some o') (k : bu o2 m b = some o2') : n = m := by
 unfold bu at h k
 split at h
 ·cases h
 split at h
 ·cases h
 rw [if_neg (by assumption), if_neg (by assumption)] at k
 generalize b.take (b.length - 32) = B at h k
 cases B with
 | nil => cases h
 | cons c r =>
  rw [dV] at h k
  split at h
  ·cases h
  split at h
  ·cases h
  rename_i h1 h2
  rw [if_neg h1] at k
  split at k
  ·cases k
  rename_i h3
  simp only [ne_eq, Decidable.not_not] at h2 h3
  rw [← h2, ← h3]
def gq (o : List Ob) (n : Nat) : List (List UInt8) → Option (List Ob)
 | [] => some o
 | b :: r => (bu o n b).bind fun o' => gq o' (n + 1) r
theorem rl (o : List Ob) (n : Nat) (a b : List (List UInt8)) : gq o n (a ++ b) = (gq o n a).bind fun o' => gq o' (n + a.length) b := by
 induction a generalizing o n with
 | nil => rfl
 | cons x r ih =>
  simp only [List.cons_append, gq, List.length_cons]
  cases bu o n x with
  | none => rfl
  | some o' =>
   simp only [Option.bind_some, ih]
   rw [show n + 1 + r.length = n + (r.length + 1) by omega]
theorem vk (o : List Ob) (n : Nat) (a : List (List UInt8)) (b : List UInt8) {o' : List Ob} (h : gq o n a = some o') : gq o n (a ++ [b]) = bu o' (n + a.length) b := by
 rw [rl, h]
 simp only [Option.bind_some, gq]
 cases bu o' (n + a.length) b <;> rfl
theorem tj : ∀ {l : List (List UInt8)} {o o' : List Ob} {s : List (List UInt8)}, gq o s.length l = some o' → cL o s l = ⟨o', s ++ l, []⟩
 | [], o, o', s, h => by cases h; simp [cL]
 | b :: r, o, o', s, h => by
  simp only [gq] at h
  cases hb : bu o s.length b with
  | none => rw [hb] at h; cases h
  | some o1 =>
   rw [hb] at h
   simp only [Option.bind_some] at h
   rw [cL, hb]
   simp only
   rw [tj (s := s ++ [b]) (by simpa using h)]
   simp
theorem qh : ∀ (l : List (List UInt8)) (o : List Ob) (s : List (List UInt8)), ∃ (a : List (List UInt8)) (o' : List Ob), a <+: l ∧ gq o s.length a = some o' ∧ cL o s l = ⟨o', s ++ a, []⟩
 | [], o, s => ⟨[], o, List.prefix_refl _, rfl, by simp [cL]⟩
 | b :: r, o, s => by
  rw [cL]
  cases hb : bu o s.length b with
  | none => exact ⟨[], o, List.nil_prefix, rfl, by simp⟩
  | some o1 =>
   obtain ⟨a, o', h1, h2, h3⟩ := qh r o1 (s ++ [b])
   refine ⟨b :: a, o', by rw [List.cons_prefix_cons]; exact ⟨rfl, h1⟩, ?_, by simp only [h3]; simp⟩
   simp only [gq, hb, Option.bind_some]
   simpa using h2
theorem vl {l : List (List UInt8)} {o o' : List Ob} {n : Nat} (h : gq o n l = some o') (k : Nat) : ∃ o1, gq o n (l.take k) = some o1 := by
 rw [← List.take_append_drop k l, rl] at h
 cases hq : gq o n (l.take k) with
 | none => rw [hq] at h; cases h
 | some o1 => exact ⟨o1, rfl⟩
theorem Fk {l : List (List UInt8)} {o o' : List Ob} {n i : Nat} {b : List UInt8} (h : gq o n l = some o') (hi : l[i]? = some b) : ∃ o1 o2, gq o n (l.take i) = some o1 ∧ bu o1 (n + i) b = some o2 := by
 obtain ⟨o1, h1⟩ := vl h i
 obtain ⟨o2, h2⟩ := vl h (i + 1)
 have hl := (List.getElem?_eq_some_iff.1 hi).1
 rw [List.take_add_one, hi] at h2
 simp only [Option.toList_some] at h2
 rw [vk _ _ _ _ h1, List.length_take, Nat.min_eq_left (by omega)] at h2
 exact ⟨o1, o2, h1, h2⟩
def dp (s : Sto) : List (List UInt8) := s.safe ++ s.queue
def mq (s : Sto) : Prop := gq [] 0 (dp s) = some s.objects
theorem mq.open {s : Sto} (h : mq s) : cL [] [] (dp s) = ⟨s.objects, dp s, []⟩ := by
 have := tj (s := []) (l := dp s) (o := []) h
 simpa using this
theorem Cd (l : List (List UInt8)) : mq (cL [] [] l) := by
 obtain ⟨a, o', h1, h2, h3⟩ := qh l [] []
 rw [h3]
 simpa [mq, dp] using h2
structure ObsOk (m : Nat) (o : List Ob) : Prop where
 sum : ∀ x ∈ o, x.sum.l = Sha.sum x.data
 len : ∀ x ∈ o, x.data.length ≤ m
 dis : (o.map fun x => x.sum.l).Nodup
theorem Av {o : List Ob} {k : List UInt8} : a9 o k = none ↔ ∀ x ∈ o, x.sum.l ≠ k := by
 unfold a9
 simp [List.findIdx?_eq_none_iff]
theorem Aw {o : List Ob} {k : List UInt8} {i : Nat} (h : a9 o k = some i) : ∃ x, o[i]? = some x ∧ x.sum.l = k := by
 unfold a9 at h
 rw [List.findIdx?_eq_some_iff_getElem] at h
 obtain ⟨hi, h1, _⟩ := h
 exact ⟨o[i], by simp [hi], by simpa using h1⟩
theorem BH {m : Nat} {o o' : List Ob} {n : Nat} {b : List UInt8} (ho : ObsOk m o) (hb : b.length ≤ m) (h : bu o n b = some o') : ObsOk m o' ∧ o'.length ≤ o.length + 1 := by
 unfold bu at h
 split at h
 ·cases h
 split at h
 ·cases h
 have hB : (b.take (b.length - 32)).length ≤ m := by simp; omega
 generalize b.take (b.length - 32) = B at h hB
 cases B with
 | nil => cases h
 | cons c r =>
  rw [dV] at h
  split at h
  ·cases h
  split at h
  ·cases h
  unfold fL at h
  split at h
  ·split at h
   ·cases h
   ·unfold fX at h
    split at h
    ·cases h
    split at h
    ·rename_i hc
     cases h
     have hxl : (((r.drop 4).drop 4).take (be ((r.drop 4).take 4))).length ≤ m := by simp at hB ⊢; omega
     generalize ((r.drop 4).drop 4).take (be ((r.drop 4).take 4)) = x at hc hxl
     refine ⟨⟨fun y hy => ?_, fun y hy => ?_, ?_⟩, by simp⟩
     ·rcases List.mem_append.1 hy with hy | hy
      ·exact ho.sum y hy
      ·simp at hy; subst hy; rfl
     ·rcases List.mem_append.1 hy with hy | hy
      ·exact ho.len y hy
      ·simp at hy; subst hy; exact hxl
     ·rw [List.map_append, List.nodup_append]
      refine ⟨ho.dis, by simp, fun a ha b hb => ?_⟩
      simp at hb
      subst hb
      obtain ⟨y, hy, rfl⟩ := List.mem_map.1 ha
      exact Av.1 hc.2.1 y hy
    ·cases h
  ·split at h
   ·split at h
    ·cases h
    ·unfold fj at h
     split at h
     ·cases h
     split at h
     ·cases h
     ·cases h
      rename_i i _
      have hsub : (o.eraseIdx i).Sublist o := List.eraseIdx_sublist ..
      refine ⟨⟨fun y hy => ho.sum y (hsub.mem hy), fun y hy => ho.len y (hsub.mem hy), (hsub.map _).nodup ho.dis⟩, ?_⟩
      have := hsub.length_le; omega
   ·cases h
theorem zl {m : Nat} : ∀ {l : List (List UInt8)} {o o' : List Ob} {n : Nat}, ObsOk m o → (∀ b ∈ l, b.length ≤ m) → gq o n l = some o' → ObsOk m o' ∧ o'.length ≤ o.length + l.length
 | [], o, o', n, ho, _, h => by cases h; exact ⟨ho, by simp⟩
 | b :: r, o, o', n, ho, hb, h => by
  simp only [gq] at h
  cases hq : bu o n b with
  | none => rw [hq] at h; cases h
  | some o1 =>
   rw [hq] at h
   simp only [Option.bind_some] at h
   obtain ⟨h1, h2⟩ := BH ho (hb b (by simp)) hq
   obtain ⟨h3, h4⟩ := zl h1 (fun x hx => hb x (by simp [hx])) h
   exact ⟨h3, by simp only [List.length_cons]; omega⟩
theorem Cu (m : Nat) : ObsOk m [] := ⟨by simp, by simp, by simp⟩
structure SInv (m : Nat) (s : Sto) : Prop where
 good : mq s
 num : s.safe.length + s.queue.length ≤ m
 len : ∀ b ∈ dp s, b.length ≤ 2000
theorem SInv.obs {m : Nat} {s : Sto} (h : SInv m s) : ObsOk 2000 s.objects ∧ s.objects.length ≤ m := by
 obtain ⟨h1, h2⟩ := zl (Cu 2000) h.len h.good
 have := h.num
 simp only [dp, List.length_append, List.length_nil, Nat.zero_add] at h2
 exact ⟨h1, by omega⟩
theorem SInv.mono {m m' : Nat} {s : Sto} (h : SInv m s) (k : m ≤ m') : SInv m' s := ⟨h.good, Nat.le_trans h.num k, h.len⟩
def mh : Sto := ⟨[], [], []⟩
theorem DO : SInv 0 mh := ⟨rfl, Nat.le_refl _, by simp [mh, dp]⟩
theorem SInv.push {m : Nat} {s : Sto} (h : SInv m s) {b : List UInt8} {o : List Ob} (hb : b.length ≤ 2000) (ha : bu s.objects (s.safe.length + s.queue.length) b = some o) : SInv (m + 1) ⟨o, s.safe, s.queue ++ [b]⟩ := by
 have e : dp ⟨o, s.safe, s.queue ++ [b]⟩ = dp s ++ [b] := by simp [dp]
 refine ⟨?_, by have := h.num; simp; omega, fun x hx => ?_⟩
 ·unfold mq
  rw [e, vk _ _ _ _ h.good]
  have : (dp s).length = s.safe.length + s.queue.length := by simp [dp]
  rw [Nat.zero_add, this]; exact ha
 ·rw [e] at hx
  rcases List.mem_append.1 hx with hx | hx
  ·exact h.len x hx
  ·simp at hx; subst hx; exact hb
theorem Ee (n : Nat) (x : List UInt8) : (jx n x).length = x.length + 41 := by
 have : ∀ y, (Sha.sum y).length = 32 := fun y => Sha.out_length _
 simp [jx, this, mf]; omega
theorem Ed (n : Nat) {k : List UInt8} (hk : k.length = 32) : (rT n k).length = 69 := by
 have : ∀ y, (Sha.sum y).length = 32 := fun y => Sha.out_length _
 simp [rT, this, mf, hk]
def evF (s : Sto) (k : Vec 32) : Sto := match a9 s.objects k.l with
 | none => s
 | some i => ⟨s.objects.eraseIdx i, s.safe, s.queue ++ [rT (s.safe.length + s.queue.length) k.l]⟩
theorem Eb (s : Sto) {x : List UInt8} (h : 65536 < x.length) : dU s x = (s, ⟨List.replicate 32 0, rfl⟩, 2) := by unfold dU; rw [if_pos h]
theorem rR (s : Sto) {x : List UInt8} {i : Nat} (h : ¬ 65536 < x.length) (hf : a9 s.objects (Sha.sum x) = some i) : dU s x = (s, eK x, 0) := by unfold dU; rw [if_neg h, hf]; rfl
theorem CF (s : Sto) {x : List UInt8} (h : ¬ 65536 < x.length) (hf : a9 s.objects (Sha.sum x) = none) (ho : 256 ≤ s.objects.length) : dU s x = (s, ⟨List.replicate 32 0, rfl⟩, 330) := by unfold dU; rw [if_neg h, hf, if_neg (by simp), if_pos ho]
theorem rQ (s : Sto) {x : List UInt8} (h : ¬ 65536 < x.length) (hf : a9 s.objects (Sha.sum x) = none) (ho : s.objects.length < 256) : dU s x = (⟨s.objects ++ [⟨eK x, x⟩], s.safe, s.queue ++ [jx (s.safe.length + s.queue.length) x]⟩, eK x, 0) := by
 unfold dU
 rw [if_neg h, hf, if_neg (by simp), if_neg (by omega)]
 simp [kJ, jx]
theorem SInv.put {m : Nat} {s : Sto} (h : SInv m s) {x : List UInt8} (hx : x.length ≤ 200) (hm : m < 256) : SInv (m + 1) (dU s x).1 := by
 cases hf : a9 s.objects (Sha.sum x) with
 | some i => rw [rR s (by omega) hf]; exact h.mono (by omega)
 | none =>
  have := h.obs.2
  have hn := h.num
  rw [rQ s (by omega) hf (by omega)]
  exact h.push (by rw [Ee]; omega) (Aa (by omega) (by omega) hf (by omega))
theorem SInv.evict {m : Nat} {s : Sto} (h : SInv m s) (k : Vec 32) (hm : m < 4294967296) : SInv (m + 1) (evF s k) := by
 unfold evF
 have hn := h.num
 cases hf : a9 s.objects k.l with
 | none => exact h.mono (by omega)
 | some i => exact h.push (by rw [Ed _ k.h]; omega) (yA (by omega) k.h hf)
def gQ (s : Sto) : Sto := ⟨s.objects, s.safe ++ s.queue, []⟩
theorem SInv.sync {m : Nat} {s : Sto} (h : SInv m s) : SInv m (gQ s) := by
 have e : dp (gQ s) = dp s := by simp [dp, gQ]
 exact ⟨by unfold mq; rw [e]; exact h.good, by have := h.num; simp [gQ]; omega, by rw [e]; exact h.len⟩
def eN : List (List UInt8) → List Bool → List (List UInt8)
 | q :: qs, true :: ks => q :: eN qs ks
 | _ :: qs, false :: ks => eN qs ks
 | _, _ => []
theorem kS : ∀ (q : List (List UInt8)) (k : List Bool), (eN q k).Sublist q
 | [], _ => by simp [eN]
 | _ :: _, [] => by simp [eN]
 | q :: qs, true :: ks => by rw [eN]; exact (kS qs ks).cons_cons q
 | q :: qs, false :: ks => by rw [eN]; exact (kS qs ks).cons q
def lP (s : Sto) (k : List Bool) : Sto := cL [] [] (s.safe ++ eN s.queue k)
theorem SInv.open {m : Nat} {l : List (List UInt8)} (hl : l.length ≤ m) (hb : ∀ b ∈ l, b.length ≤ 2000) : SInv m (cL [] [] l) := by
 obtain ⟨a, o', h1, h2, h3⟩ := qh l [] []
 refine ⟨Cd l, ?_, fun b hb' => ?_⟩
 ·rw [h3]; have := h1.length_le; simp; omega
 ·rw [h3] at hb'
  simp [dp] at hb'
  exact hb b (h1.subset hb')
theorem SInv.break {m : Nat} {s : Sto} (h : SInv m s) (k : List Bool) : SInv m (lP s k) := by
 have hs := kS s.queue k
 refine SInv.open ?_ fun b hb => h.len b ?_
 ·have := h.num; have := hs.length_le; simp; omega
 ·simp only [dp]
  rcases List.mem_append.1 hb with hb | hb
  ·simp [hb]
  ·simp [hs.subset hb]
def tL (s : Sto) (x : SRaw) : Sto :=
 if x.kind.toNat % 8 < 4 then (dU s (x.data.take 40)).1 else
 if x.kind.toNat % 8 < 6 then evF s (eK (x.data.take 40)) else
 if x.kind.toNat % 8 = 6 then gQ s else lP s x.keep
theorem SInv.step {m : Nat} {s : Sto} (h : SInv m s) (x : SRaw) (hm : m < 256) : SInv (m + 1) (tL s x) := by
 unfold tL
 have hl : (x.data.take 40).length ≤ 40 := by simp; omega
 split
 ·exact h.put (by omega) hm
 split
 ·exact h.evict _ (by omega)
 split
 ·exact h.sync.mono (by omega)
 ·exact (h.break _).mono (by omega)
end
section
open Go.RowKit
theorem E2 {s : Sto} (h : s.safe.length + s.queue.length ≤ 1000000) : cN s = some (dp s) := by
 unfold cN
 rw [jq (by simp; omega), ay, List.nil_append, jq (by omega), ay]; rfl
theorem EA {s : Sto} (h : s.safe.length + s.queue.length ≤ 1000000) : gm s = some (gQ s) := by
 unfold gm
 rw [gK _ (by simp; omega) (by simp), ay]
 simp [gQ]
theorem oz {l : List (List UInt8)} (h : l.length ≤ 1000000 ∧ ∀ b ∈ l, b.length ≤ 1000000) : fu l = some (cL [] [] l) := if_pos h
theorem AV {l : List (List UInt8)} (h : l.length ≤ 1000000 ∧ ∀ b ∈ l, b.length ≤ 1000000) : eS l = some (cL [] [] l) := if_pos h
theorem F1 {x : List UInt8} (h : x.length ≤ 1000000) : jT x = some (eK x) := if_pos h
theorem vL {l : List Ob} (k : Vec 32) (h : l.length ≤ 4294967296) : gn l k = some (cF l k.l) := if_pos h
theorem sS {l : List Ob} {k : List UInt8} {i : Nat} (h : a9 l k = some i) : cF l k = (i : Int) := by unfold cF; rw [h]
theorem sQ {l : List Ob} {k : List UInt8} (h : a9 l k = none) : cF l k = -1 := by unfold cF; rw [h]
theorem xj {l : List Ob} {k : List UInt8} {i : Nat} (h : a9 l k = some i) : i < l.length := by
 obtain ⟨x, hx, _⟩ := Aw h
 exact (List.getElem?_eq_some_iff.1 hx).1
theorem Ea {s : Sto} (k : UInt8) {x : List UInt8} (h1 : s.safe.length ≤ 1000000) (h2 : s.queue.length ≤ 1000000) (h3 : x.length ≤ 100000) : io s k x = some (kJ s k x) := if_pos ⟨h1, h2, h3⟩
theorem y4 {l : List Ob} {i : Nat} (hl : l.length ≤ 1000000) (hi : i < l.length) : dZ l (i : Int) = some (l.eraseIdx i) := by
 unfold dZ
 rw [jB (by omega), ay, cA (by omega), ay, jB (by omega), ay, gi _ (by simp; omega) (by simp), ay]
 have h1 : ((i : Int) + 1).toNat = i + 1 := by omega
 simp [List.eraseIdx_eq_take_drop_succ, h1]
theorem SInv.small {m : Nat} {s : Sto} (h : SInv m s) (hm : m ≤ 256) : s.objects.length ≤ 256 ∧ s.safe.length + s.queue.length ≤ 256 ∧ (∀ b ∈ dp s, b.length ≤ 2000) := ⟨Nat.le_trans h.obs.2 hm, Nat.le_trans h.num hm, h.len⟩
theorem Ew {m : Nat} {s : Sto} (h : SInv m s) (hm : m ≤ 256) {x : List UInt8} (hx : x.length ≤ 99000) : je s x = some (dU s x) := by
 obtain ⟨h1, h2, _⟩ := h.small hm
 exact if_pos ⟨by omega, by omega, by omega, hx⟩
theorem FW {m : Nat} {s : Sto} (h : SInv m s) (hm : m ≤ 256) (k : Vec 32) : gU s k = some (evF s k, if a9 s.objects k.l = none then 331 else 0) := by
 obtain ⟨h1, h2, _⟩ := h.small hm
 unfold gU evF
 rw [vL _ (by omega), ay]
 cases hf : a9 s.objects k.l with
 | none => rw [sQ hf, mA (by omega), cond_true]; rfl
 | some i =>
  have hi := xj hf
  rw [sS hf, jR (by omega), cond_false, Ea _ (by omega) (by omega) (by rw [k.h]; omega), ay]
  have e : (kJ s 68 k.l).objects = s.objects := rfl
  rw [e, y4 (by omega) hi, ay, if_neg (by simp)]
  simp [kJ, rT]
theorem yg {m : Nat} {s : Sto} (h : SInv m s) (hm : m ≤ 256) (k : Vec 32) : jd s k = some (match a9 s.objects k.l with | none => ([], 331) | some i => ((s.objects.getD i ⟨k, []⟩).data, 0)) := by
 obtain ⟨h1, h2, _⟩ := h.small hm
 unfold jd
 rw [vL _ (by omega), ay]
 cases hf : a9 s.objects k.l with
 | none => rw [sQ hf, mA (by omega), cond_true]
 | some i =>
  have hi := xj hf
  rw [sS hf, jR (by omega), cond_false, e7, List.getElem?_eq_getElem hi, ay]
  simp [List.getD_eq_getElem?_getD, hi]
theorem vO {m : Nat} {s : Sto} (h : SInv m s) (hm : m ≤ 256) : gm s = some (gQ s) := EA (by have := (h.small hm).2.1; omega)
theorem yd {m : Nat} {s : Sto} (h : SInv m s) (hm : m ≤ 256) : cN s = some (dp s) := E2 (by have := (h.small hm).2.1; omega)
theorem AA (q : List (List UInt8)) (k : List Bool) (i : Nat) {x : List UInt8} (hx : q[i]? = some x) : eN (q.take (i + 1)) k = eN (q.take i) k ++ (if k[i]? = some true then [x] else []) := by
 induction q generalizing k i with
 | nil => simp at hx
 | cons y r ih =>
  cases i with
  | zero =>
   simp at hx; subst hx
   cases k with
   | nil => simp [eN]
   | cons b k => cases b <;> simp [eN]
  | succ i =>
   simp only [List.getElem?_cons_succ] at hx
   simp only [List.take_succ_cons]
   cases k with
   | nil => simp [eN]
   | cons b k =>
    have := ih k i hx
    cases b <;> simp [eN, this]
theorem oU {s : Sto} (k : List Bool) (h : s.safe.length + s.queue.length ≤ 256) (hb : ∀ b ∈ dp s, b.length ≤ 2000) : fH s k = some (lP s k) := by
 unfold fH
 have e : cQ s.safe = some s.safe := if_pos (by omega)
 rw [e, ay]
 have h2 : cR (dJ s k) (0, s.safe) = some (s.safe ++ eN s.queue k) := by
  have := ma (body := dJ s k) (fun i => ((i : Int), s.safe ++ eN (s.queue.take i) k)) s.queue.length (e := s.safe ++ eN s.queue k) (fun i hi => by
   have hx : s.queue[i]? = some (s.queue[i]'hi) := List.getElem?_eq_getElem _
   generalize s.queue[i]'hi = x at hx
   have hl := (kS (s.queue.take i) k).length_le
   rw [List.length_take] at hl
   unfold dJ
   simp only
   rw [mA (by omega), cond_true, e7, hx, ay, AA _ _ _ hx]
   by_cases c : i < k.length
   ·have hk : k[i]? = some (k[i]'c) := List.getElem?_eq_getElem _
    generalize k[i]'c = b at hk
    rw [mA (by omega), cond_true, e7, hk, ay]
    cases b with
    | true =>
     rw [cond_true, jq (by simp; omega), ay, ay, cA (by omega), ay]
     simp
    | false =>
     rw [cond_false, ay, cA (by omega), ay]
     simp
   ·rw [jR (by omega), cond_false, ay, cA (by omega), ay]
    have : k[i]? = none := by rw [List.getElem?_eq_none_iff]; omega
    rw [this]
    simp) (by
   unfold dJ
   simp only [List.take_length]
   rw [jR (by omega), cond_false])
  simpa [eN] using this
 rw [h2, ay, oz, ay]
 ·rfl
 ·have hs := kS s.queue k
  refine ⟨by have := hs.length_le; simp; omega, fun b hb' => ?_⟩
  have : b ∈ dp s := by
   simp only [dp]
   rcases List.mem_append.1 hb' with hb' | hb'
   ·simp [hb']
   ·simp [hs.subset hb']
  exact Nat.le_trans (hb b this) (by omega)
open Classical in
theorem CV (a b : List Ob) (ha : a.length ≤ 1000000) : bI a b = some (decide (a = b)) := by
 unfold bI
 refine Ok.get ?_
 refine Ok.cond (fun c => Ok.ret ?_) fun c => ?_
 ·have : a.length ≠ b.length := by simp at c; omega
  rw [eq_comm, decide_eq_false_iff_not]
  intro e; subst e; exact this rfl
 have hl : a.length = b.length := by simp at c; omega
 refine Ok.bind (P := fun o => o = if a = b then .inl () else .inr false) ?_ ?_
 ·refine Ok.loop (fun s : Int => ∃ i : Nat, s = i ∧ i ≤ a.length ∧ ∀ j x y, j < i → a[j]? = some x → b[j]? = some y → x = y) (fun s : Int => a.length - s.toNat) ⟨0, rfl, by omega, fun j x y h => by omega⟩ ?_
  rintro _ ⟨i, rfl, h1, h2⟩
  unfold gj
  refine Ok.cond (fun c => ?_) fun c => Ok.ret ?_
  ·simp only [decide_eq_true_eq] at c
   have hx : a[i]? = some (a[i]'(by omega)) := List.getElem?_eq_getElem _
   have hy : b[i]? = some (b[i]'(by omega)) := List.getElem?_eq_getElem _
   generalize a[i]'(by omega) = x at hx
   generalize b[i]'(by omega) = y at hy
   simp only [e7, hx, hy, ay]
   have hstop : x ≠ y → (Sum.inr false : Unit ⊕ Bool) = if a = b then .inl () else .inr false := fun hne => by
    rw [if_neg]
    intro e; subst e; rw [hx] at hy; exact hne (Option.some.inj hy)
   have hgo : x = y → ∀ j x' y', j < i + 1 → a[j]? = some x' → b[j]? = some y' → x' = y' := fun he j x' y' hj hx' hy' => by
    by_cases e : j = i
    ·subst e; rw [hx] at hx'; rw [hy] at hy'; cases hx'; cases hy'; exact he
    ·exact h2 j x' y' (by omega) hx' hy'
   refine Ok.cond (fun c2 => Ok.ret (hstop fun e => ?_)) fun c2 => ?_
   ·subst e; simp at c2
   refine Ok.cond (fun c3 => Ok.ret (hstop fun e => ?_)) fun c3 => ?_
   ·subst e; simp at c3
   rw [cA (by omega), ay]
   have he : x = y := Ob.same.1 ⟨by simpa using c2, by simpa using c3⟩
   exact Ok.ret ⟨⟨i + 1, by omega, by omega, hgo he⟩, by omega⟩
  ·simp only [decide_eq_false_iff_not] at c
   rw [if_pos (oH hl h2 (by omega))]
 ·rintro o rfl
  by_cases e : a = b
  ·rw [if_pos e, decide_eq_true e]; exact Ok.ret rfl
  ·rw [if_neg e, decide_eq_false e]; exact Ok.ret rfl
theorem CW (a b : List (List UInt8)) (ha : a.length ≤ 1000000) : bJ a b = some (decide (a = b)) := by
 unfold bJ
 refine Ok.get ?_
 refine Ok.cond (fun c => Ok.ret ?_) fun c => ?_
 ·have : a.length ≠ b.length := by simp at c; omega
  rw [eq_comm, decide_eq_false_iff_not]
  intro e; subst e; exact this rfl
 have hl : a.length = b.length := by simp at c; omega
 refine Ok.bind (P := fun o => o = if a = b then .inl () else .inr false) ?_ ?_
 ·refine Ok.loop (fun s : Int => ∃ i : Nat, s = i ∧ i ≤ a.length ∧ ∀ j x y, j < i → a[j]? = some x → b[j]? = some y → x = y) (fun s : Int => a.length - s.toNat) ⟨0, rfl, by omega, fun j x y h => by omega⟩ ?_
  rintro _ ⟨i, rfl, h1, h2⟩
  unfold gk
  refine Ok.cond (fun c => ?_) fun c => Ok.ret ?_
  ·simp only [decide_eq_true_eq] at c
   have hx : a[i]? = some (a[i]'(by omega)) := List.getElem?_eq_getElem _
   have hy : b[i]? = some (b[i]'(by omega)) := List.getElem?_eq_getElem _
   generalize a[i]'(by omega) = x at hx
   generalize b[i]'(by omega) = y at hy
   simp only [e7, hx, hy, ay]
   have hstop : x ≠ y → (Sum.inr false : Unit ⊕ Bool) = if a = b then .inl () else .inr false := fun hne => by
    rw [if_neg]
    intro e; subst e; rw [hx] at hy; exact hne (Option.some.inj hy)
   have hgo : x = y → ∀ j x' y', j < i + 1 → a[j]? = some x' → b[j]? = some y' → x' = y' := fun he j x' y' hj hx' hy' => by
    by_cases e : j = i
    ·subst e; rw [hx] at hx'; rw [hy] at hy'; cases hx'; cases hy'; exact he
    ·exact h2 j x' y' (by omega) hx' hy'
   refine Ok.cond (fun c2 => Ok.ret (hstop fun e => ?_)) fun c2 => ?_
   ·subst e; simp at c2
   rw [cA (by omega), ay]
   have he : x = y := by simpa using c2
   exact Ok.ret ⟨⟨i + 1, by omega, by omega, hgo he⟩, by omega⟩
  ·simp only [decide_eq_false_iff_not] at c
   rw [if_pos (oH hl h2 (by omega))]
 ·rintro o rfl
  by_cases e : a = b
  ·rw [if_pos e, decide_eq_true e]; exact Ok.ret rfl
  ·rw [if_neg e, decide_eq_false e]; exact Ok.ret rfl
theorem oR {a : List Ob} (ha : a.length ≤ 1000000) : bI a a = some true := (CV a a ha).trans (by simp)
theorem oT {a : List (List UInt8)} (ha : a.length ≤ 1000000) : bJ a a = some true := (CW a a ha).trans (by rw [decide_eq_true rfl])
theorem CX {s : Sto} (h1 : s.objects.length ≤ 1000000) (h2 : s.safe.length ≤ 1000000) (h3 : s.queue.length ≤ 1000000) : eT s s = some true := by
 unfold eT
 rw [oR h1, ay, cond_true, oT h2, ay, cond_true, oT h3, ay]
theorem tD {x : Std} (h1 : x.s.objects.length ≤ 1000000) (h2 : x.s.safe.length ≤ 1000000) (h3 : x.s.queue.length ≤ 1000000) : dY x x = some true := by
 unfold dY
 rw [CX h1 h2 h3, ay, cond_true]
 simp
theorem SInv.openOk {m : Nat} {s : Sto} (h : SInv m s) (hm : m ≤ 256) : (dp s).length ≤ 1000000 ∧ ∀ b ∈ dp s, b.length ≤ 1000000 := by
 obtain ⟨h1, h2, h3⟩ := h.small hm
 exact ⟨by simp [dp]; omega, fun b hb => Nat.le_trans (h3 b hb) (by omega)⟩
theorem ln {m : Nat} {s : Sto} (h : SInv m s) (hm : m ≤ 256) : eB s = some true := by
 obtain ⟨h1, h2, h3⟩ := h.small hm
 unfold eB
 rw [yd h hm, ay, AV (h.openOk hm), ay, h.good.open, wu rfl, cond_true]
 simp only
 rw [oR (by omega), ay]
theorem tK {m : Nat} {s : Sto} (h : SInv m s) (hm : m ≤ 256) : ez s = some true := by
 obtain ⟨h1, h2, h3⟩ := h.small hm
 unfold ez
 rw [gK _ (by simp; omega) (by simp), ay]
 have e : [s.safe, s.queue].flatten = dp s := by simp [dp]
 rw [e, oz (h.openOk hm), ay, h.good.open, wu rfl, cond_true]
 simp only
 have := sJ s.objects s.objects (by omega) (fun x hx => Nat.le_trans (h.obs.1.len x hx) (by omega))
 exact (fq (this.trans (by simp)))
theorem kh {m : Nat} {s : Sto} (h : SInv m s) (hm : m ≤ 256) {x : List UInt8} (hx : x.length ≤ 99000) : db s x = some ⟨(dU s x).1, (dU s x).2.1, (dU s x).2.2⟩ := by
 unfold db
 rw [Ew h hm hx, ay]
theorem rk {m : Nat} {s : Sto} (h : SInv m s) (hm : m ≤ 256) (k : Vec 32) : dN s k = some ⟨evF s k, ⟨List.replicate 32 0, rfl⟩, if a9 s.objects k.l = none then 331 else 0⟩ := by
 unfold dN
 rw [FW h hm, ay]
theorem DM {m : Nat} {s : Sto} (h : SInv m s) (hm : m ≤ 256) {k : Vec 32} (hf : a9 s.objects k.l = none) : eu s k = some ⟨[], 331⟩ := by
 unfold eu
 rw [yg h hm, hf, ay]
theorem DN {m : Nat} {s : Sto} (h : SInv m s) (hm : m ≤ 256) {k : Vec 32} {i : Nat} {x : Ob} (hf : a9 s.objects k.l = some i) (hx : s.objects[i]? = some x) : eu s k = some ⟨x.data, 0⟩ := by
 unfold eu
 rw [yg h hm, hf, ay]
 simp [List.getD_eq_getElem?_getD, hx]
theorem DT (k : UInt8) : qp (k.toNat : Int) 8 = some ((k.toNat % 8 : Nat) : Int) := by
 rw [Ef (by omega) (by omega)]; norm_cast
theorem Hv (x : List UInt8) : slc x 0 (min (x.length : Int) 40) = some (x.take 40) := by
 rw [jB (by omega)]
 simp only [Int.toNat_zero, List.drop_zero, Option.some.injEq]
 by_cases c : x.length ≤ 40
 ·rw [show (min (x.length : Int) 40).toNat = x.length by omega, List.take_length, List.take_of_length_le c]
 ·rw [show (min (x.length : Int) 40).toNat = 40 by omega]
theorem Ey {m : Nat} {s : Sto} (h : SInv m s) (hm : m ≤ 256) (x : SRaw) : eR s x = some (tL s x) := by
 obtain ⟨h1, h2, h3⟩ := h.small hm
 have hl : (x.data.take 40).length ≤ 40 := by simp; omega
 unfold eR tL
 rw [Hv, ay, DT, ay]
 generalize x.kind.toNat % 8 = n
 have e1 : (bif ((n : Int) == 0) then some ((n : Int) == 0) else bif ((n : Int) == 1) then some ((n : Int) == 1) else bif ((n : Int) == 2) then some ((n : Int) == 2) else some ((n : Int) == 3)) = some (decide (n < 4)) := by
  by_cases a : n = 0
  ·subst a; rfl
  rw [nP (by omega), cond_false]
  by_cases b : n = 1
  ·subst b; rfl
  rw [nP (by omega), cond_false]
  by_cases c : n = 2
  ·subst c; rfl
  rw [nP (by omega), cond_false]
  by_cases d : n = 3
  ·subst d; rfl
  rw [nP (by omega), decide_eq_false (by omega)]
 rw [e1, ay]
 by_cases c : n < 4
 ·rw [decide_eq_true c, cond_true, if_pos c, kh h hm (by omega), ay]
 rw [decide_eq_false c, cond_false, if_neg c]
 have e2 : (bif ((n : Int) == 4) then some ((n : Int) == 4) else some ((n : Int) == 5)) = some (decide (n < 6)) := by
  by_cases a : n = 4
  ·subst a; rfl
  rw [nP (by omega), cond_false]
  by_cases b : n = 5
  ·subst b; rfl
  rw [nP (by omega), decide_eq_false (by omega)]
 rw [e2, ay]
 by_cases c6 : n < 6
 ·rw [decide_eq_true c6, cond_true, if_pos c6, F1 (by omega), ay, rk h hm, ay]
 rw [decide_eq_false c6, cond_false, if_neg c6]
 by_cases c7 : n = 6
 ·subst c7; rw [wu (show ((6 : Nat) : Int) = 6 from rfl), cond_true, if_pos rfl, vO h hm, ay]
 ·rw [nP (by omega), cond_false, if_neg c7, oU _ (by omega) h3, ay]
end
section
open Go.RowKit
section
variable {P : Program} {G : Nat → Option D} {N : Nat} {F : Fr} {ops rest : List Oper} {o : Oper} {Q : Exit → St → Prop} {h : List (Nat × Blk)} {env : List (Nat × V)} {nx : Nat} {st : St} {μ : Nat → Option Place} {C : aw} {a : Act} {w w' : World}
structure Marked (b : Nat) (w w' : World) : Prop where
 os : w'.os = w.os
 tape : w'.tape = w.tape
 output : w'.output = w.output
 size : w'.heap.size = w.heap.size
 block : ∀ k, k ≠ b → w'.heap[k]? = w.heap[k]?
 cell : ∀ k o, w'.cell? ⟨k, o, none⟩ = w.cell? ⟨k, o, none⟩
theorem wh (w : World) (b m : Nat) {cur : Array Value} {T : TypeId} (hb : w.heap[b]? = some (.cells cur T (0, 0))) : Marked b w (w.freeze ⟨b, m, none⟩ 1) := by
 have hh : ∀ k, (w.freeze ⟨b, m, none⟩ 1).heap[k]? = if k = b then some (.cells cur T (m, m + 1)) else w.heap[k]? := by
  intro k
  unfold World.freeze
  rw [if_neg (by decide)]
  simp only [Array.getElem?_modify]
  by_cases e : k = b
  ·subst e; simp [hb]
  ·simp [e, Ne.symm e]
 refine ⟨?_, ?_, ?_, ?_, fun k hk => by rw [hh, if_neg hk], fun k o => ?_⟩
 ·unfold World.freeze; rw [if_neg (by decide)]
 ·unfold World.freeze; rw [if_neg (by decide)]
 ·unfold World.freeze; rw [if_neg (by decide)]
 ·unfold World.freeze; rw [if_neg (by decide)]; simp
 ·simp only [World.cell?, hh]
  by_cases e : k = b
  ·subst e; simp [hb]
  ·simp [e]
theorem Sim.mark {l : Nat} {k : Blk} {p : Place} (rows : List (List D)) (hs : Sim F st μ C a w) (hk : look st.h l = some k) (hr : k.rows = rows.map fun r => r.map V.d) (hp : μ l = some p) (hc : 0 < p.cap) (hw : Marked p.b w w') :
  ∃ C', (∀ b o u, C b o u → C' b o u) ∧ (∀ y v, ax μ C y v → ax μ C' (bn l k.sz rows y) v) ∧ Sim F ⟨c8 l k.sz rows st.env, b7 l st.h, st.nx⟩ μ C' a w' := by
 obtain ⟨p', hp', hb⟩ := hs.heap l k hk
 rw [hp] at hp'; cases hp'
 have hrow : ∀ x ∈ rows, x.length = k.sz := by
  intro x hx
  have := hb.row (x.map V.d) (by rw [hr]; exact List.mem_map.2 ⟨x, hx, rfl⟩)
  simpa using this
 have hlen : rows.length ≤ p.cap := by have := hb.len; rw [hr] at this; simpa using this
 obtain ⟨b1, b2, cur, T, b3, b4, b5⟩ := hb.cells hc
 have hkm : k.isMap = false := by
  have := eI k.sz rows
  rw [← hr] at this; exact this
 rw [hkm] at b3
 have b3 := b3.cells
 have k1 : ∀ b o u, C b o u → jP C p.b cur b o u := fun _ _ _ h => .inl h
 have hne : ∀ b o u, C b o u → b ≠ p.b := fun b o u h e => b2 o u (e ▸ h)
 have hcell : ∀ b o, b ≠ p.b → w'.cell? ⟨b, o, none⟩ = w.cell? ⟨b, o, none⟩ := fun b o _ => hw.cell b o
 have k3 : bD (jP C p.b cur) w' := fun b o u h => by
  rcases h with h | ⟨rfl, h⟩
  ·have hb := hne _ _ _ h
   rcases hs.known b o u h with h | h
   ·left; rw [hcell _ _ hb]; exact h
   ·right
    obtain ⟨es, c, h1, h2⟩ := h
    exact ⟨es, c, by rw [hw.block _ hb]; exact h1, h2⟩
  ·left; rw [hw.cell, cell_of_row w p.b o _ _ _ b3]; exact h
 have k4 : 0 < p.cap → ∀ (i : Nat) (r : List D), rows[i]? = some r → Rp (jP C p.b cur) (.mem r p.b (i * p.sz)) := fun _ i r hi => by
  refine gt fun j d hj => ?_
  have h1 : k.rows[i]? = some (r.map V.d) := by rw [hr]; simp [hi]
  obtain ⟨u, a1, a2, a3⟩ := b5 i _ h1 j (.d d) (by simp [hj])
  exact ⟨u, .inr ⟨rfl, by rw [hb.sz]; simpa using a1⟩, a2, Rp.mono (fun _ _ _ h => .inl h) a3⟩
 have hrep : ∀ y v, ax μ C y v → ax μ (jP C p.b cur) (bn l k.sz rows y) v := fun y v hy => um hp hb hrow hlen k1 k4 hy
 have hsz := hw.size
 refine ⟨jP C p.b cur, k1, hrep, ⟨hs.size, ?_, ⟨by rw [hw.os]; exact hs.below.os, by rw [hw.tape]; exact hs.below.tape, by rw [hw.output]; exact hs.below.output, by rw [hsz]; exact hs.below.size, fun b hlt hn => ?_⟩, fun b o u h => k1 _ _ _ (hs.sub _ _ _ h), fun b o u h => ?_, k3, fun t x hx => ?_, fun l' k' hk' => ?_, fun l1 l2 p1 p2 h1 h2 => ?_, hs.nx, ?_⟩⟩
 ·refine hs.defers.step fun q _ hq => ?_
  have : q ≠ p.b := fun e => by rw [e, b3] at hq; cases hq
  rw [hw.block _ this]; exact hq
 ·have : b ≠ p.b := fun e => by
   subst e
   rcases b1 with h | h
   ·omega
   ·exact hn h
  rw [hw.block _ this]; exact hs.below.block b hlt hn
 ·rcases h with h | ⟨rfl, _⟩
  ·exact hs.new _ _ _ h
  ·exact .inr b1
 ·rw [iw] at hx
  cases hl : look st.env t with
  | none => rw [hl] at hx; cases hx
  | some y =>
   rw [hl] at hx; cases hx
   exact hrep _ _ (hs.env t y hl)
 ·rw [dv] at hk'
  split at hk'
  ·cases hk'
  ·rename_i hne'
   obtain ⟨p', hp', hb'⟩ := hs.heap l' k' hk'
   refine ⟨p', hp', hb'.sz, hb'.len, hb'.max, hb'.row, fun hc' => ?_⟩
   obtain ⟨c1, c2, cur2, T2, c3, c4, c5⟩ := hb'.cells hc'
   have hpb : p'.b ≠ p.b := fun e => hne' (hs.inj l' l p' p (by rw [hk']; rfl) (by rw [hk]; rfl) hp' hp hc' hc e)
   refine ⟨c1, fun o u hcu => ?_, cur2, T2, c3.of_eq (hw.block _ hpb), c4, c5.mono (fun _ _ h => h) k1⟩
   rcases hcu with h | ⟨e, _⟩
   ·exact c2 o u h
   ·exact hpb e
 ·simp only [dv] at h1 h2
  split at h1
  ·cases h1
  ·split at h2
   ·cases h2
   ·exact hs.inj l1 l2 p1 p2 h1 h2
 ·refine F.stab hs.gh ⟨hw.os, hw.tape, hw.output, by rw [hsz]; exact Nat.le_refl _, fun _ _ _ h => h, fun j hj => .inl (by simp only [dv] at hj; split at hj <;> first | cases hj | exact hj), fun b hb hn => ?_, fun b ⟨l', k', q, g1, g2⟩ => .inl ?_, k1, fun b o u h => ?_, k3⟩
  ·refine hw.block b fun e => hn ⟨l, k, p, hk, hp, hc, e.symm⟩
  ·rw [dv] at g1
   split at g1
   ·cases g1
   ·exact ⟨l', k', q, g1, g2⟩
  ·rcases h with h | ⟨rfl, _⟩
   ·exact .inl h
   ·exact .inr (.inl ⟨l, k, p, hk, hp, hc, rfl⟩)
theorem SmG.mark (hF : Env F P G N) {t e : TypeId} {x : Operand} {l : Nat} {rows : List (List D)} {d : Tmp} (ho : o.op = .convert t t x) (hd : o.dst = some d) (hdN : Nat.blt d N = true) (hg : aD ops env o.guard = some true) (hx : evB G env x = some (.sref l 0 rows.length)) (hk : ae h l = some (dB 1 rows)) (hne : rows ≠ [])
  (h1 : P.underlying t = some (.slice e)) (h2 : P.underlying e = some (.int .u8)) (k : SmG F N ops rest Q ⟨(d, .d (.list 1 rows false)) :: c8 l 1 rows env, b7 l h, nx⟩) : SmG F N ops (o :: rest) Q ⟨env, h, nx⟩ := by
 have hdN' : d < N := by simpa [Nat.blt_eq] using hdN
 rw [aL] at hk
 rw [aS] at hx
 intro hsm μ C a w hs
 have hsm2 : St.small N ⟨(d, .d (.list 1 rows false)) :: c8 l 1 rows env, b7 l h, nx⟩ := by
  refine bG (env := c8 l 1 rows env) (h := b7 l h) (nx := nx) ?_ hdN'
  intro s y hy
  simp only [iw] at hy
  cases hq : look env s with
  | none => rw [hq] at hy; cases hy
  | some y' => exact hsm s y' hq
 have k2 := k hsm2
 obtain ⟨rfl, rfl, hG⟩ := hF
 refine bX (fun _ c e => by rw [ho] at e; cases e) fun K hK => ?_
 rw [bF hs (aM hg) hsm, if_pos rfl]
 have hxv := bU hs hG hx
 obtain ⟨p, ao, hp, hv, hle, hao⟩ := hxv
 obtain ⟨p', hp', hb⟩ := hs.heap l _ hk
 rw [hp] at hp'; cases hp'
 have hpos : 0 < rows.length := List.length_pos_iff.2 hne
 have hc : 0 < p.cap := by omega
 obtain rfl := hao hc
 obtain ⟨b1, b2, cur, T, b3, b4, b5⟩ := hb.cells hc
 have hkm : (dB 1 rows).isMap = false := eI 1 rows
 rw [hkm] at b3
 have b3 := b3.cells
 have hM := wh w p.b cur.size b3
 obtain ⟨C', hsub, hrep, hsim⟩ := Sim.mark (k := dB 1 rows) rows hs hk rfl hp hc hM
 have hr : ax μ C' (.d (.list 1 rows false)) (a.eval x) := by
  have := hrep _ _ (bU hs hG hx)
  rw [show (dB 1 rows).sz = 1 from rfl, vn] at this
  exact this
 have hsh : w.shape? p.b = some (T, cur.size) := by unfold World.shape?; rw [b3]
 have hz : 0 * p.sz = 0 := by omega
 have hex : (execOp a.eval o).run F.P w = .ok (.value (a.eval x)) (w.freeze ⟨p.b, cur.size, none⟩ 1) := by
  rw [pV ho, hv]
  simp [convert, Sem.run_bind, run_underlying h1, run_underlying h2, markStringish, hsh, Result.andThen_ok]
 unfold Oper.wp
 rw [hex, Oper.upon_value, hd]
 exact hK _ _ (k2 μ C' _ _ (hsim.put hdN' hr))
end
end
section
open Go.RowKit
set_option maxRecDepth 100000
theorem lq (x : Std) : (Std.row x).length = 36 := by simp [Std.row, da x.k.h]
theorem rK {t : TypeId} {n m off : Nat} {R S : List D} {h : List (Nat × Blk)} {l : Nat} (hl : look h l = some ⟨n, [R.map V.d]⟩) (ha : bc Tryd.prog t = some true) (hs : az Tryd.prog t = some m) (hR : R.length = n) (hle : off + m ≤ n) (hS : (R.drop off).take m = S) : aW Tryd.prog h t (.ref l 0 off) = some (.d (.agg m S)) := by
 have hsg : seg (R.map V.d) n off m = S.map V.d := by
  unfold seg
  split
  ·rename_i e; obtain ⟨rfl, rfl⟩ := e
   rw [← hS, List.drop_zero, ← hR, List.take_length]
  ·rw [← List.map_drop, ← List.map_take, hS]
 have hp : bt (S.map V.d) = some S := f6 _
 simp only [aW, hl, Option.bind_some, List.getElem?_cons_zero, cu, ha, hs, hsg, hp, hle]
 rfl
theorem mL {t : TypeId} {n off : Nat} {R : List D} {y : D} {h : List (Nat × Blk)} {l : Nat} (hl : look h l = some ⟨n, [R.map V.d]⟩) (ha : bc Tryd.prog t = some false) (hy : R[off]? = some y) : aW Tryd.prog h t (.ref l 0 off) = some (.d y) := by
 simp only [aW, hl, Option.bind_some, List.getElem?_cons_zero, cu, ha, List.getElem?_map, hy, Option.map_some]
theorem xC {h : List (Nat × Blk)} {l : Nat} {x : Std} (hl : look h l = some ⟨36, [(Std.row x).map V.d]⟩) : aW Tryd.prog h 45 (.ref l 0 0) = some (.d (.agg 36 (Std.row x))) := rK hl Gb GY (lq x) (by decide) (by rw [List.drop_zero, List.take_of_length_le (by rw [lq]; decide)])
theorem dI {h : List (Nat × Blk)} {l : Nat} {x : Std} (hl : look h l = some ⟨36, [(Std.row x).map V.d]⟩) : aW Tryd.prog h 27 (.ref l 0 0) = some (.d (.agg 3 (Sto.row x.s))) := rK hl mY gR (lq x) (by decide) (by simp [Std.row, Sto.row])
theorem gN {h : List (Nat × Blk)} {l : Nat} {x : Std} (hl : look h l = some ⟨36, [(Std.row x).map V.d]⟩) : aW Tryd.prog h 42 (.ref l 0 3) = some (.d (.agg 32 (aA x.k.l))) := rK hl mZ ni (lq x) (by decide) (by simp [Std.row, da x.k.h])
theorem s9 {h : List (Nat × Blk)} {l : Nat} {x : Std} (hl : look h l = some ⟨36, [(Std.row x).map V.d]⟩) : aW Tryd.prog h 43 (.ref l 0 35) = some (.d (.v (.int .i64 x.e))) := mL hl Ga (by
 have := da x.k.h
 have h2 : ∀ (y : D) (r : List D), r.length = 32 → (D.list 33 (x.s.objects.map Ob.row) false :: D.list 1 (x.s.safe.map av) false :: D.list 1 (x.s.queue.map av) false :: (r ++ [y]))[35]? = some y := fun y r hr => by
  simp only [List.getElem?_cons_succ]
  rw [List.getElem?_append_right (by omega), hr]; rfl
 exact h2 _ _ this)
theorem AL {h : List (Nat × Blk)} {l : Nat} {x : Std} (hl : look h l = some ⟨36, [(Std.row x).map V.d]⟩) : aW Tryd.prog h 24 (.ref l 0 0) = some (.d (.list 33 (x.s.objects.map Ob.row) false)) := mL hl rx rfl
theorem ta {h : List (Nat × Blk)} {l : Nat} {x : Std} (hl : look h l = some ⟨36, [(Std.row x).map V.d]⟩) : aW Tryd.prog h 25 (.ref l 0 2) = some (.d (.list 1 (x.s.queue.map av) false)) := mL hl nN rfl
theorem tb {h : List (Nat × Blk)} {l : Nat} {x : Sto} (hl : look h l = some ⟨3, [(Sto.row x).map V.d]⟩) : aW Tryd.prog h 24 (.ref l 0 0) = some (.d (.list 33 (x.objects.map Ob.row) false)) := mL hl rx rfl
theorem vC (s : Sto) (x : List UInt8) : (dU s x).1.safe = s.safe ∧ ∃ r, (dU s x).1.queue = s.queue ++ r := by
 by_cases c : 65536 < x.length
 ·rw [Eb s c]; exact ⟨rfl, [], by simp⟩
 cases hf : a9 s.objects (Sha.sum x) with
 | some i => rw [rR s c hf]; exact ⟨rfl, [], by simp⟩
 | none =>
  by_cases c2 : 256 ≤ s.objects.length
  ·rw [CF s c hf c2]; exact ⟨rfl, [], by simp⟩
  ·rw [rQ s c hf (by omega)]; exact ⟨rfl, _, rfl⟩
theorem FJ (P : Program) (t : TypeId) (x y : Operand) (l : List UInt8) : aE P (do eqGuard .eql t x y (.string ⟨l.toArray⟩) (.string ⟨l.toArray⟩); binOp .eql t (.string ⟨l.toArray⟩) (.string ⟨l.toArray⟩)) = some (.bool true) := by
 rw [zz]; simp
set_option maxHeartbeats 8000000 in
theorem Ep : ap Tryd.prog HG 10 [] (.v (.bool true)) := by
 have f0 : a9 mh.objects (Sha.sum [97]) = none := rfl
 obtain ⟨A, hAe⟩ : ∃ A : Std, A = ⟨(dU mh [97]).1, (dU mh [97]).2.1, (dU mh [97]).2.2⟩ := ⟨_, rfl⟩
 have hAq : A = ⟨⟨[⟨eK [97], [97]⟩], [], [jx 0 [97]]⟩, eK [97], 0⟩ := by rw [hAe, rQ _ (by decide) f0 (by decide)]; rfl
 have hAs : A.s = ⟨[⟨eK [97], [97]⟩], [], [jx 0 [97]]⟩ := by rw [hAq]
 have hAk : A.k = eK [97] := by rw [hAq]
 have hA0 : A.e = 0 := by rw [hAq]
 have iA : SInv 1 A.s := by rw [hAe]; exact DO.put (by decide) (by decide)
 have hNew : ap Tryd.prog HG 11 [] (.agg 3 (Sto.row mh)) := pi.d rfl () mh rfl
 have hA : ap Tryd.prog HG 20 [.agg 3 (Sto.row mh), .list 1 (([97] : List UInt8).map am) false] (.agg 36 (Std.row A)) := dE.d rfl (mh, ([97] : List UInt8)) A (by rw [hAe]; exact kh DO (by decide) (x := [97]) (by decide))
 have fA : a9 A.s.objects (Sha.sum [97]) = some 0 := by rw [hAs]; simp [a9, eK]
 have hA2 : ap Tryd.prog HG 20 [.agg 3 (Sto.row A.s), .list 1 (([97] : List UInt8).map am) false] (.agg 36 (Std.row A)) := dE.d rfl (A.s, ([97] : List UInt8)) A (by
  show db A.s [97] = _
  rw [kh iA (by decide) (by decide), rR _ (by decide) fA]; exact congrArg some (by rw [hAq]))
 have hSy : ap Tryd.prog HG 27 [.agg 3 (Sto.row A.s)] (.agg 3 (Sto.row (gQ A.s))) := nr.d rfl A.s _ (vO iA (by decide))
 have iS := iA.sync
 obtain ⟨B, hBe⟩ : ∃ B : Std, B = ⟨(dU (gQ A.s) [98]).1, (dU (gQ A.s) [98]).2.1, (dU (gQ A.s) [98]).2.2⟩ := ⟨_, rfl⟩
 have iB : SInv 2 B.s := by rw [hBe]; exact iS.put (by decide) (by decide)
 have hB : ap Tryd.prog HG 20 [.agg 3 (Sto.row (gQ A.s)), .list 1 (([98] : List UInt8).map am) false] (.agg 36 (Std.row B)) := dE.d rfl (gQ A.s, ([98] : List UInt8)) B (by rw [hBe]; exact kh iS (by decide) (x := [98]) (by decide))
 obtain ⟨Cc, hCe⟩ : ∃ C : Std, C = ⟨(dU A.s [98]).1, (dU A.s [98]).2.1, (dU A.s [98]).2.2⟩ := ⟨_, rfl⟩
 have iC : SInv 2 Cc.s := by rw [hCe]; exact iA.put (by decide) (by decide)
 have hC : ap Tryd.prog HG 20 [.agg 3 (Sto.row A.s), .list 1 (([98] : List UInt8).map am) false] (.agg 36 (Std.row Cc)) := dE.d rfl (A.s, ([98] : List UInt8)) Cc (by rw [hCe]; exact kh iA (by decide) (x := [98]) (by decide))
 have hRA : ap Tryd.prog HG 13 [.agg 3 (Sto.row A.s)] (.v (.bool true)) := e6.d rfl A.s true (ln iA (by decide))
 have hRB : ap Tryd.prog HG 13 [.agg 3 (Sto.row B.s)] (.v (.bool true)) := e6.d rfl B.s true (ln iB (by decide))
 have hRC : ap Tryd.prog HG 13 [.agg 3 (Sto.row Cc.s)] (.v (.bool true)) := e6.d rfl Cc.s true (ln iC (by decide))
 obtain ⟨E, hEe⟩ : ∃ E : Std, E = ⟨evF A.s A.k, ⟨List.replicate 32 0, rfl⟩, if a9 A.s.objects A.k.l = none then 331 else 0⟩ := ⟨_, rfl⟩
 have fA2 : a9 A.s.objects A.k.l = some 0 := by rw [hAk]; exact fA
 have hEq : E = ⟨⟨[], [], [jx 0 [97], rT 1 A.k.l]⟩, ⟨List.replicate 32 0, rfl⟩, 0⟩ := by
  rw [hEe, fA2, if_neg (by simp)]
  unfold evF
  rw [fA2, hAs]
  rfl
 have iE : SInv 2 E.s := by rw [hEe]; exact iA.evict _ (by decide)
 have hE : ap Tryd.prog HG 23 [.agg 3 (Sto.row A.s), .agg 32 (aA A.k.l)] (.agg 36 (Std.row E)) := i4.d rfl (A.s, A.k) E (by rw [hEe]; exact rk iA (by decide) _)
 have hSS : ap Tryd.prog HG 29 [.agg 36 (Std.row A), .agg 36 (Std.row A)] (.v (.bool true)) := k8.d rfl (A, A) true (tD (by rw [hAs]; decide) (by rw [hAs]; decide) (by rw [hAs]; decide))
 obtain ⟨O1, hO1e⟩ : ∃ O, O = lP B.s [] := ⟨_, rfl⟩
 have hO1l : O1.objects.length = 1 := by
  have h1 : (B.s.safe ++ eN B.s.queue []) = [jx 0 [97]] := by
   have : B.s.safe = [jx 0 [97]] := by rw [hBe]; rw [(vC _ _).1, hAs]; rfl
   rw [this]; cases B.s.queue <;> rfl
  have h2 := iS.good.open
  have h3 : dp (gQ A.s) = [jx 0 [97]] := by rw [hAs]; rfl
  rw [h3] at h2
  rw [hO1e, lP, h1, h2, hAs]; rfl
 have hO1 : ap Tryd.prog HG 25 [.agg 3 (Sto.row B.s), .list 0 [] true] (.agg 3 (Sto.row O1)) :=
  (jY.d rfl (B.s, []) O1 (by rw [hO1e]; exact oU _ (iB.small (by decide)).2.1 (iB.small (by decide)).2.2)).args fun C => fr (D.le.refl _) (fr (ca 0 1 true) fun _ h => h)
 obtain ⟨O2, hO2e⟩ : ∃ O, O = lP Cc.s [false, true] := ⟨_, rfl⟩
 have hO2l : O2.objects.length = 0 := by
  obtain ⟨c1, r, c2⟩ := vC A.s [98]
  have h1 : Cc.s.safe = [] := by rw [hCe]; rw [c1, hAs]
  have h2 : Cc.s.queue = jx 0 [97] :: r := by rw [hCe]; rw [c2, hAs]; rfl
  have hg := iC.good
  have hall : dp Cc.s = jx 0 [97] :: r := by simp [dp, h1, h2]
  unfold mq at hg
  rw [hall] at hg
  rw [hO2e, lP, h1, h2, List.nil_append]
  cases r with
  | nil => rfl
  | cons y r =>
   obtain ⟨o1, o2, g1, g2⟩ := Fk (i := 1) (b := y) hg rfl
   have : eN (jx 0 [97] :: y :: r) [false, true] = [y] := by simp [eN]
   rw [this, cL]
   cases hy : bu [] ([] : List (List UInt8)).length y with
   | none => rfl
   | some o => exact absurd (z9 hy g2) (by decide)
 have hO2 : ap Tryd.prog HG 25 [.agg 3 (Sto.row Cc.s), .list 1 [[.v (.bool false)], [.v (.bool true)]] true] (.agg 3 (Sto.row O2)) :=
  (jY.d rfl (Cc.s, [false, true]) O2 (by rw [hO2e]; exact oU _ (iC.small (by decide)).2.1 (iC.small (by decide)).2.2)).args fun C => fr (D.le.refl _) (fr (pB 1 _ true) fun _ h => h)
 have hG1 : ap Tryd.prog HG 22 [.agg 3 (Sto.row E.s), .agg 32 (aA A.k.l)] (.agg 2 (Gott.row ⟨[], 331⟩)) := kl.d rfl (E.s, A.k) _ (DM iE (by decide) (by rw [hEq]; rfl))
 have hG2 : ap Tryd.prog HG 22 [.agg 3 (Sto.row A.s), .agg 32 (aA A.k.l)] (.agg 2 (Gott.row ⟨[97], 0⟩)) := kl.d rfl (A.s, A.k) _ (DN iA (by decide) fA2 (x := ⟨eK [97], [97]⟩) (by rw [hAs]; rfl))
 have hSum : ap Tryd.prog HG 21 [.list 1 (([97] : List UInt8).map am) false] (.agg 32 (aA A.k.l)) := by
  rw [hAk]; exact q0 [97] (by decide)
 have hS1 : ap Tryd.prog HG 14 [.agg 3 (Sto.row A.s)] (.v (.bool true)) := jZ.d rfl A.s true (tK iA (by decide))
 have hS2 : ap Tryd.prog HG 14 [.agg 3 [.list 33 [aA (List.replicate 32 0) ++ [.list 0 [] true]] false, .list 0 [] true, .list 0 [] true]] (.v (.bool false)) := by
  have hz : ez ⟨[⟨⟨List.replicate 32 0, rfl⟩, []⟩], [], []⟩ = some false := by
   unfold ez
   rw [gK _ (by decide) (by decide), ay]
   simp only [List.flatten_cons, List.flatten_nil, List.append_nil]
   rw [oz (by simp), ay]
   simp only [cL]
   rw [wu rfl, cond_true]
   exact fq ((sJ [] _ (by decide) (by simp)).trans (by simp))
  refine (jZ.d rfl (⟨[⟨⟨List.replicate 32 0, rfl⟩, []⟩], [], []⟩ : Sto) false hz).args fun C => fr ?_ fun _ h => h
  refine ft ⟨?_, ca 0 1 true, ca 0 1 true, trivial⟩
  have hA : ∀ (r : List D), LeL (r ++ [.list 0 [] true]) (r ++ [.list 1 [] false]) := fun r => by
   induction r with
   | nil => exact .cons (ca 0 1 true) .nil
   | cons x r ih => exact .cons (D.le.refl x) ih
  exact uP (.cons (hA _) .nil)
 have hEo : E.s.objects.length = 0 := by rw [hEq]; rfl
 have hEl : E.s.queue.length = 2 := by rw [hEq]; rfl
 have hE0 : E.e = 0 := by rw [hEq]
 have hAl : A.s.queue.length = 1 := by rw [hAs]; rfl
 have hkl : A.k.l.length = 32 := A.k.h
 clear hAe hAq hAs hAk hBe hCe hEe hEq hO1e hO2e iA iS iB iC iE fA fA2 f0
 refine ap.of Tryd.func10 rfl Tryd.ntmps10 (by simp) ?_; intro F hF h0 hT; simp only [List.zipIdx_cons, List.zipIdx_nil, List.map_cons, List.map_nil, Nat.zero_add, Nat.reduceAdd]
 refine Sm.seq ?_
 refine ab hF rfl ?_
 refine gv hF oA (SmG.nil (aa (Sm.seq ?_)))
 refine ab hF rfl ?_
 refine SmG.call hF rfl rfl (by kernel_rfl) rfl rfl rfl (hNew) ?_
 refine SmG.buildOwn hF rfl rfl rfl rfl rfl (sz := 1) (rows := ([97] : List UInt8).map am) (by simp [bw, Tryd.underlying30, sz5, ze5]; rfl) (by simp) ?_
 refine SmG.mark hF (rows := ([97] : List UInt8).map am) rfl rfl rfl rfl rfl rfl (by simp) Tryd.underlying30 Tryd.underlying5 ?_
 simp only [c8, bn, ic, dg, cg, b7, if_true, Nat.reduceEqDiff, if_false, Nat.zero_add, List.length_map, Nat.le_refl, and_self]
 refine SmG.call hF rfl rfl (by kernel_rfl) rfl rfl rfl (hA) ?_
 refine SmG.new hF rfl rfl rfl (aF rfl wO) ?_
 refine SmG.store hF rfl rfl rfl rfl rfl (by simp (disch := omega) only [go_sem] <;> rfl) ?_
 refine SmG.nil (aa (Sm.seq ?_))
 refine ab hF rfl ?_
 refine gv hF (ag rfl rfl (by simp (disch := omega) only [go_sem] <;> rfl)) ?_
 refine gv hF (ac rfl rfl (dI rfl)) ?_
 refine SmG.buildOwn hF rfl rfl rfl rfl rfl (sz := 1) (rows := ([97] : List UInt8).map am) (by simp [bw, Tryd.underlying30, sz5, ze5]; rfl) (by simp) ?_
 refine SmG.mark hF (rows := ([97] : List UInt8).map am) rfl rfl rfl rfl rfl rfl (by simp) Tryd.underlying30 Tryd.underlying5 ?_
 simp only [c8, bn, ic, dg, cg, b7, if_true, Nat.reduceEqDiff, if_false, Nat.zero_add, List.length_map, Nat.le_refl, and_self]
 refine SmG.call hF rfl rfl (by kernel_rfl) rfl rfl rfl (hA2) ?_
 refine SmG.new hF rfl rfl rfl (aF rfl wO) ?_
 refine SmG.store hF rfl rfl rfl rfl rfl (by simp (disch := omega) only [go_sem] <;> rfl) ?_
 refine SmG.nil (aa (Sm.seq ?_))
 refine ab hF rfl ?_
 refine gv hF (ag rfl rfl (by simp (disch := omega) only [go_sem] <;> rfl)) ?_
 refine gv hF (ac rfl rfl (dI rfl)) ?_
 refine SmG.call hF rfl rfl (by kernel_rfl) rfl rfl rfl (hSy) ?_
 refine SmG.buildOwn hF rfl rfl rfl rfl rfl (sz := 1) (rows := ([98] : List UInt8).map am) (by simp [bw, Tryd.underlying30, sz5, ze5]; rfl) (by simp) ?_
 refine SmG.mark hF (rows := ([98] : List UInt8).map am) rfl rfl rfl rfl rfl rfl (by simp) Tryd.underlying30 Tryd.underlying5 ?_
 simp only [c8, bn, ic, dg, cg, b7, if_true, Nat.reduceEqDiff, if_false, Nat.zero_add, List.length_map, Nat.le_refl, and_self]
 refine SmG.call hF rfl rfl (by kernel_rfl) rfl rfl rfl (hB) ?_
 refine SmG.new hF rfl rfl rfl (aF rfl wO) ?_
 refine SmG.store hF rfl rfl rfl rfl rfl (by simp (disch := omega) only [go_sem] <;> rfl) ?_
 refine SmG.nil (aa (Sm.seq ?_))
 refine ab hF rfl ?_
 refine gv hF (ag rfl rfl (by simp (disch := omega) only [go_sem] <;> rfl)) ?_
 refine gv hF (ac rfl rfl (dI rfl)) ?_
 refine SmG.buildOwn hF rfl rfl rfl rfl rfl (sz := 1) (rows := ([98] : List UInt8).map am) (by simp [bw, Tryd.underlying30, sz5, ze5]; rfl) (by simp) ?_
 refine SmG.mark hF (rows := ([98] : List UInt8).map am) rfl rfl rfl rfl rfl rfl (by simp) Tryd.underlying30 Tryd.underlying5 ?_
 simp only [c8, bn, ic, dg, cg, b7, if_true, Nat.reduceEqDiff, if_false, Nat.zero_add, List.length_map, Nat.le_refl, and_self]
 refine SmG.call hF rfl rfl (by kernel_rfl) rfl rfl rfl (hC) ?_
 refine SmG.new hF rfl rfl rfl (aF rfl wO) ?_
 refine SmG.store hF rfl rfl rfl rfl rfl (by simp (disch := omega) only [go_sem] <;> rfl) ?_
 refine SmG.nil (aa (Sm.seq (Sm.seq ?_)))
 refine ab hF rfl ?_
 refine gv hF (ag rfl rfl (by simp (disch := omega) only [go_sem] <;> rfl)) ?_
 refine gv hF (ac rfl rfl (s9 rfl)) ?_
 refine gv hF (ah rfl rfl rfl (by exact ia _ _ _ _ _ (by omega))) ?_
 refine gv hF oM ?_
 refine gv hF (ag rfl rfl (by simp (disch := omega) only [go_sem] <;> rfl)) ?_
 refine gv hF (ac rfl rfl (dI rfl)) ?_
 refine SmG.call hF rfl rfl (by kernel_rfl) rfl rfl rfl (hRA) ?_
 refine gv hF (en rfl rfl (by exact fI _)) ?_
 refine gv hF (aT rfl rfl rfl) ?_
 refine gv hF oM ?_
 refine gv hF (ag rfl rfl (by simp (disch := omega) only [go_sem] <;> rfl)) ?_
 refine gv hF (ac rfl rfl (dI rfl)) ?_
 refine SmG.call hF rfl rfl (by kernel_rfl) rfl rfl rfl (hRB) ?_
 refine gv hF (en rfl rfl (by exact fI _)) ?_
 refine gv hF (aT rfl rfl rfl) ?_
 refine gv hF oM ?_
 refine gv hF (ag rfl rfl (by simp (disch := omega) only [go_sem] <;> rfl)) ?_
 refine gv hF (ac rfl rfl (dI rfl)) ?_
 refine SmG.call hF rfl rfl (by kernel_rfl) rfl rfl rfl (hRC) ?_
 refine gv hF (en rfl rfl (by exact fI _)) ?_
 refine gv hF (aT rfl rfl rfl) ?_
 refine SmG.nil (aa ?_)
 refine aR hF rfl ?_
 refine Sm.skip ?_
 refine aa (Sm.seq ?_)
 refine ab hF rfl ?_
 refine gv hF (ag rfl rfl (by simp (disch := omega) only [go_sem] <;> rfl)) ?_
 refine gv hF (ac rfl rfl (dI rfl)) ?_
 refine gv hF (ag rfl rfl (by simp (disch := omega) only [go_sem] <;> rfl)) ?_
 refine gv hF (ac rfl rfl (gN rfl)) ?_
 refine SmG.call hF rfl rfl (by kernel_rfl) rfl rfl rfl (hE) ?_
 refine SmG.new hF rfl rfl rfl (aF rfl wO) ?_
 refine SmG.store hF rfl rfl rfl rfl rfl (by simp (disch := omega) only [go_sem] <;> rfl) ?_
 refine SmG.nil (aa (Sm.seq ?_))
 refine ab hF rfl ?_
 refine gv hF (ag rfl rfl (by simp (disch := omega) only [go_sem] <;> rfl)) ?_
 refine gv hF (ag rfl rfl (by simp (disch := omega) only [go_sem] <;> rfl)) ?_
 refine gv hF (ac rfl rfl (ta rfl)) ?_
 refine gv hF (aJ rfl rfl (by simp (disch := omega) only [go_sem] <;> rfl)) ?_
 refine gv hF (ah rfl rfl rfl (by exact dC _ _ _ _ _ (by omega))) ?_
 refine gv hF oM (gv hF (ac rfl rfl (xC rfl)) (gv hF (ac rfl rfl (xC rfl)) ?_))
 refine SmG.call hF rfl rfl (by kernel_rfl) rfl rfl rfl (hSS) ?_
 refine gv hF (aN rfl rfl rfl) ?_
 refine gv hF oM ?_
 refine gv hF (ag rfl rfl (by simp (disch := omega) only [go_sem] <;> rfl)) ?_
 refine gv hF (ac rfl rfl (s9 rfl)) ?_
 refine gv hF (ah rfl rfl rfl (by exact dC _ _ _ _ _ (by omega))) ?_
 refine gv hF (aN rfl rfl rfl) ?_
 refine gv hF oM ?_
 refine gv hF (ag rfl rfl (by simp (disch := omega) only [go_sem] <;> rfl)) ?_
 refine gv hF (ag rfl rfl (by simp (disch := omega) only [go_sem] <;> rfl)) ?_
 refine gv hF (ac rfl rfl (AL rfl)) ?_
 refine gv hF (aJ rfl rfl (by simp (disch := omega) only [go_sem] <;> rfl)) ?_
 refine gv hF (ah rfl rfl rfl (by exact dC _ _ _ _ _ (by omega))) ?_
 refine gv hF (aN rfl rfl rfl) ?_
 refine gv hF oM ?_
 refine gv hF (ag rfl rfl (by simp (disch := omega) only [go_sem] <;> rfl)) ?_
 refine gv hF (ag rfl rfl (by simp (disch := omega) only [go_sem] <;> rfl)) ?_
 refine gv hF (ac rfl rfl (ta rfl)) ?_
 refine gv hF (aJ rfl rfl (by simp (disch := omega) only [go_sem] <;> rfl)) ?_
 refine gv hF (ah rfl rfl rfl (by exact dC _ _ _ _ _ (by omega))) ?_
 refine gv hF (aN rfl rfl rfl) ?_
 refine gv hF oA (SmG.nil (aa (Sm.seq ?_)))
 refine eE hF (by kernel_rfl) rfl 9 (by kernel_rfl) (by kernel_rfl) ?_
 simp only [List.take_succ_cons, List.take_zero, List.take_nil]
 refine hv hF (ag rfl rfl (by simp (disch := omega) only [go_sem] <;> rfl)) ?_
 refine hv hF (ac rfl rfl (dI rfl)) ?_
 refine au.c hF rfl rfl (by kernel_rfl) rfl rfl rfl (hO1) ?_
 refine hv hF (ag rfl rfl (by simp (disch := omega) only [go_sem] <;> rfl)) ?_
 refine hv hF (ac rfl rfl (dI rfl)) ?_
 refine hv hF (bg rfl rfl (by simp (disch := omega) only [go_sem] <;> rfl)) ?_
 refine au.c hF rfl rfl (by kernel_rfl) rfl rfl rfl (hO2) ?_
 refine au.new hF rfl rfl rfl rfl kU ?_
 refine au.new hF rfl rfl rfl rfl kU ?_
 refine au.last ⟨rfl, ?_⟩
 simp only [List.drop_succ_cons, List.drop_zero, List.drop_nil, List.nil_append, List.cons_append]
 refine SmG.store hF rfl rfl rfl rfl rfl (by simp (disch := omega) only [go_sem] <;> rfl) ?_
 refine SmG.store hF rfl rfl rfl rfl rfl (by simp (disch := omega) only [go_sem] <;> rfl) ?_
 refine SmG.nil (aa (Sm.seq ?_))
 refine Sm.to (cH (st' := ⟨[(6, .d (.v (.bool true))), (1, .ref 1 0 0), (5, .ref 8 0 0), (7, .ref 9 0 0), (8, .ref 10 0 0)], [(1, ⟨36, [(Std.row A).map V.d]⟩), (8, ⟨36, [(Std.row E).map V.d]⟩), (9, ⟨3, [(Sto.row O1).map V.d]⟩), (10, ⟨3, [(Sto.row O2).map V.d]⟩)], 11⟩) (aK ⟨rfl, rfl, rfl, rfl, rfl, trivial⟩ ⟨rfl, rfl, rfl, rfl, trivial⟩ (Nat.le_refl _))) ?_
 clear hA hA2 hSy hB hC hRA hRB hRC hE hSS hO1 hO2 hNew
 refine c9 hF rfl ?_
 refine gC hF rfl 0 21 (by kernel_rfl) ?_
 simp only [List.take_succ_cons, List.take_zero, List.take_nil, List.drop_succ_cons, List.drop_zero, Nat.reduceSub]
 refine hv hF oM (hv hF oM ?_)
 refine hv hF (ag rfl rfl (by simp (disch := omega) only [go_sem] <;> rfl)) ?_
 refine hv hF (ac rfl rfl (dI rfl)) ?_
 refine hv hF (ag rfl rfl (by simp (disch := omega) only [go_sem] <;> rfl)) ?_
 refine hv hF (ac rfl rfl (gN rfl)) ?_
 refine au.c hF rfl rfl (by kernel_rfl) rfl rfl rfl (hG1) ?_
 refine hv hF (qg rfl rfl (by simp (disch := omega) only [go_sem] <;> rfl)) ?_
 refine hv hF (ah rfl rfl rfl (by exact kT _ _ _ _ _ _ _)) ?_
 refine hv hF (aN rfl rfl rfl) ?_
 refine hv hF oM ?_
 refine hv hF (ag rfl rfl (by simp (disch := omega) only [go_sem] <;> rfl)) ?_
 refine hv hF (ac rfl rfl (dI rfl)) ?_
 refine hv hF (ag rfl rfl (by simp (disch := omega) only [go_sem] <;> rfl)) ?_
 refine hv hF (ac rfl rfl (gN rfl)) ?_
 refine au.c hF rfl rfl (by kernel_rfl) rfl rfl rfl (hG2) ?_
 refine hv hF (qg rfl rfl (by simp (disch := omega) only [go_sem] <;> rfl)) ?_
 refine hv hF (cO rfl rfl (uf (l := [97]) Tryd.underlying30 Tryd.underlying9 Tryd.underlying5)) (hv hF (ah rfl rfl rfl (FJ _ _ _ _ [97])) ?_)
 refine hv hF (aN rfl rfl rfl) ?_
 refine hv hF oM ?_
 refine au.last ?_
 simp only [List.nil_append, List.cons_append]
 refine nk (n := 31) rfl rfl ?_
 refine cc (n' := 26) (ls' := List.replicate 26 true ++ List.replicate 26 false) ?s1_5 ?h1_5 (fun r1_5 => ?k1_5)
 case' k1_5 => refine cc (n' := 27) (ls' := List.replicate 25 true ++ List.replicate 27 false) ?s1_4 ?h1_4 (fun r1_4 => ?k1_4)
 case' k1_4 => refine cc (n' := 27) (ls' := List.replicate 22 true ++ [false, true, true, true] ++ List.replicate 26 false) ?s1_3 ?h1_3 (fun r1_3 => ?k1_3)
 case' k1_3 => refine cc (n' := 28) (ls' := List.replicate 24 true ++ List.replicate 28 false) ?s1_2 ?h1_2 (fun r1_2 => ?k1_2)
 case' k1_2 => refine cc (n' := 28) (ls' := List.replicate 22 true ++ [false, true, true] ++ List.replicate 27 false) ?s1_1 ?h1_1 (fun r1_1 => ?k1_1)
 case' k1_1 => refine cc (n' := 29) (ls' := List.replicate 22 true ++ [false, true] ++ List.replicate 28 false) ?s1_0 ?h1_0 (fun r1_0 => ?k1_0)
 case k1_0 =>
  refine SmM.step hF [21, 23] rfl (by kernel_rfl) rfl ⟨⟨_, rfl, ?_⟩, ⟨_, rfl, ?_⟩, trivial⟩
  ·refine gv hF (ag rfl rfl (by simp (disch := omega) only [go_sem] <;> rfl)) ?_
   refine SmG.nil (aa ?_)
   refine SmM.step hF [22, 23] rfl (by kernel_rfl) rfl ⟨⟨_, rfl, ?_⟩, ⟨_, rfl, ?_⟩, trivial⟩
   ·refine gv hF (ac rfl rfl (gN rfl)) (SmG.nil (aa ?_))
    refine SmM.step hF [23] rfl (by kernel_rfl) rfl ⟨⟨_, rfl, ?_⟩, trivial⟩
    refine SmG.buildOwn hF rfl rfl rfl rfl rfl (sz := 1) (rows := ([97] : List UInt8).map am) (by simp [bw, Tryd.underlying30, sz5, ze5]; rfl) (by simp) ?_
    refine SmG.nil (aa ?_)
    exact r1_2
   ·refine SmG.buildOwn hF rfl rfl rfl rfl rfl (sz := 1) (rows := ([97] : List UInt8).map am) (by simp [bw, Tryd.underlying30, sz5, ze5]; rfl) (by simp) ?_
    refine SmG.nil (aa ?_)
    exact r1_0
  ·refine SmG.buildOwn hF rfl rfl rfl rfl rfl (sz := 1) (rows := ([97] : List UInt8).map am) (by simp [bw, Tryd.underlying30, sz5, ze5]; rfl) (by simp) ?_
   refine SmG.nil (aa ?_)
   refine SmM.step hF [21, 24] rfl (by kernel_rfl) rfl ⟨⟨_, rfl, ?_⟩, ⟨_, rfl, ?_⟩, trivial⟩
   ·refine gv hF (ag rfl rfl (by simp (disch := omega) only [go_sem] <;> rfl)) ?_
    refine SmG.nil (aa ?_)
    exact bz r1_0
   ·refine SmG.mark hF (rows := ([97] : List UInt8).map am) rfl rfl rfl rfl rfl rfl (by simp) Tryd.underlying30 Tryd.underlying5 ?_
    simp only [c8, bn, ic, dg, cg, b7, if_true, Nat.reduceEqDiff, if_false, Nat.zero_add, List.length_map, Nat.le_refl, and_self]
    refine SmG.nil (aa ?_)
    refine SmM.step hF [21, 25] rfl (by kernel_rfl) rfl ⟨⟨_, rfl, ?_⟩, ⟨_, rfl, ?_⟩, trivial⟩
    ·refine gv hF (ag rfl rfl (by simp (disch := omega) only [go_sem] <;> rfl)) ?_
     refine SmG.nil (aa ?_)
     exact r1_1
    ·refine SmG.call hF rfl rfl (by kernel_rfl) rfl rfl rfl (hSum) ?_
     refine SmG.nil (aa ?_)
     refine SmM.step hF [21] rfl (by kernel_rfl) rfl ⟨⟨_, rfl, ?_⟩, trivial⟩
     refine gv hF (ag rfl rfl (by simp (disch := omega) only [go_sem] <;> rfl)) ?_
     refine SmG.nil (aa ?_)
     exact r1_3
 case h1_0 =>
  refine SmM.step hF [22, 24] rfl (by kernel_rfl) rfl ⟨⟨_, rfl, ?_⟩, ⟨_, rfl, ?_⟩, trivial⟩
  ·refine gv hF (ac rfl rfl (gN rfl)) (SmG.nil (aa ?_))
   exact bz r1_2
  ·refine SmG.mark hF (rows := ([97] : List UInt8).map am) rfl rfl rfl rfl rfl rfl (by simp) Tryd.underlying30 Tryd.underlying5 ?_
   simp only [c8, bn, ic, dg, cg, b7, if_true, Nat.reduceEqDiff, if_false, Nat.zero_add, List.length_map, Nat.le_refl, and_self]
   refine SmG.nil (aa ?_)
   exact bz r1_1
 case h1_1 =>
  refine SmM.step hF [22, 25] rfl (by kernel_rfl) rfl ⟨⟨_, rfl, ?_⟩, ⟨_, rfl, ?_⟩, trivial⟩
  ·refine gv hF (ac rfl rfl (gN rfl)) (SmG.nil (aa ?_))
   exact r1_4
  ·refine SmG.call hF rfl rfl (by kernel_rfl) rfl rfl rfl (hSum) ?_
   refine SmG.nil (aa ?_)
   exact bz r1_3
 case h1_2 =>
  refine SmM.step hF [24] rfl (by kernel_rfl) rfl ⟨⟨_, rfl, ?_⟩, trivial⟩
  refine SmG.mark hF (rows := ([97] : List UInt8).map am) rfl rfl rfl rfl rfl rfl (by simp) Tryd.underlying30 Tryd.underlying5 ?_
  simp only [c8, bn, ic, dg, cg, b7, if_true, Nat.reduceEqDiff, if_false, Nat.zero_add, List.length_map, Nat.le_refl, and_self]
  refine SmG.nil (aa ?_)
  exact bz r1_4
 case h1_3 =>
  refine SmM.step hF [22] rfl (by kernel_rfl) rfl ⟨⟨_, rfl, ?_⟩, trivial⟩
  refine gv hF (ac rfl rfl (gN rfl)) (SmG.nil (aa ?_))
  exact r1_5
 case h1_4 =>
  refine SmM.step hF [25] rfl (by kernel_rfl) rfl ⟨⟨_, rfl, ?_⟩, trivial⟩
  refine SmG.call hF rfl rfl (by kernel_rfl) rfl rfl rfl (hSum) ?_
  refine SmG.nil (aa ?_)
  exact bz r1_5
 case h1_5 =>
  refine SmM.step hF [26] rfl (by kernel_rfl) rfl ⟨⟨_, rfl, ?_⟩, trivial⟩
  refine gv hF (iX rfl rfl rfl ((pS hkl hkl).trans (by rw [decide_eq_true rfl]))) ?_
  refine SmG.nil (aa ?_)
  refine SmM.step hF [27] rfl (by kernel_rfl) rfl ⟨⟨_, rfl, ?_⟩, trivial⟩
  refine gv hF (aN rfl rfl rfl) ?_
  refine SmG.nil (aa ?_)
  refine SmM.step hF [28] rfl (by kernel_rfl) rfl ⟨⟨_, rfl, ?_⟩, trivial⟩
  refine gv hF oM (SmG.nil (aa ?_))
  refine SmM.step hF [29] rfl (by kernel_rfl) rfl ⟨⟨_, rfl, ?_⟩, trivial⟩
  refine gv hF (ag rfl rfl (by simp (disch := omega) only [go_sem] <;> rfl)) ?_
  refine SmG.nil (aa ?_)
  refine SmM.step hF [30] rfl (by kernel_rfl) rfl ⟨⟨_, rfl, ?_⟩, trivial⟩
  refine gv hF (ac rfl rfl (tb rfl)) (SmG.nil (aa ?_))
  refine SmM.step hF [31] rfl (by kernel_rfl) rfl ⟨⟨_, rfl, ?_⟩, trivial⟩
  refine gv hF (aJ rfl rfl (by simp (disch := omega) only [go_sem] <;> rfl)) ?_
  refine SmG.nil (aa ?_)
  refine SmM.step hF [32] rfl (by kernel_rfl) rfl ⟨⟨_, rfl, ?_⟩, trivial⟩
  refine gv hF (ah rfl rfl rfl (by exact dC _ _ _ _ _ (by omega))) ?_
  refine SmG.nil (aa ?_)
  refine SmM.step hF [33] rfl (by kernel_rfl) rfl ⟨⟨_, rfl, ?_⟩, trivial⟩
  refine gv hF (aN rfl rfl rfl) ?_
  refine SmG.nil (aa ?_)
  refine SmM.step hF [34] rfl (by kernel_rfl) rfl ⟨⟨_, rfl, ?_⟩, trivial⟩
  refine gv hF oM (SmG.nil (aa ?_))
  refine SmM.step hF [35] rfl (by kernel_rfl) rfl ⟨⟨_, rfl, ?_⟩, trivial⟩
  refine gv hF (ag rfl rfl (by simp (disch := omega) only [go_sem] <;> rfl)) ?_
  refine SmG.nil (aa ?_)
  refine SmM.step hF [36] rfl (by kernel_rfl) rfl ⟨⟨_, rfl, ?_⟩, trivial⟩
  refine gv hF (ac rfl rfl (tb rfl)) (SmG.nil (aa ?_))
  refine SmM.step hF [37] rfl (by kernel_rfl) rfl ⟨⟨_, rfl, ?_⟩, trivial⟩
  refine gv hF (aJ rfl rfl (by simp (disch := omega) only [go_sem] <;> rfl)) ?_
  refine SmG.nil (aa ?_)
  refine SmM.step hF [38] rfl (by kernel_rfl) rfl ⟨⟨_, rfl, ?_⟩, trivial⟩
  refine gv hF (ah rfl rfl rfl (by exact dC _ _ _ _ _ (by omega))) ?_
  refine SmG.nil (aa ?_)
  refine SmM.step hF [39] rfl (by kernel_rfl) rfl ⟨⟨_, rfl, ?_⟩, trivial⟩
  refine gv hF (aN rfl rfl rfl) ?_
  refine SmG.nil (aa ?_)
  refine SmM.step hF [40] rfl (by kernel_rfl) rfl ⟨⟨_, rfl, ?_⟩, trivial⟩
  refine gv hF oM (SmG.nil (aa ?_))
  refine SmM.step hF [41] rfl (by kernel_rfl) rfl ⟨⟨_, rfl, ?_⟩, trivial⟩
  refine gv hF (ag rfl rfl (by simp (disch := omega) only [go_sem] <;> rfl)) ?_
  refine SmG.nil (aa ?_)
  refine SmM.step hF [42] rfl (by kernel_rfl) rfl ⟨⟨_, rfl, ?_⟩, trivial⟩
  refine gv hF (ac rfl rfl (dI rfl)) (SmG.nil (aa ?_))
  refine SmM.step hF [43] rfl (by kernel_rfl) rfl ⟨⟨_, rfl, ?_⟩, trivial⟩
  refine SmG.call hF rfl rfl (by kernel_rfl) rfl rfl rfl hS1 ?_
  refine SmG.nil (aa ?_)
  refine SmM.step hF [44] rfl (by kernel_rfl) rfl ⟨⟨_, rfl, ?_⟩, trivial⟩
  refine gv hF (aN rfl rfl rfl) ?_
  refine SmG.nil (aa ?_)
  refine SmM.step hF [45] rfl (by kernel_rfl) rfl ⟨⟨_, rfl, ?_⟩, trivial⟩
  refine gv hF oM (SmG.nil (aa ?_))
  refine SmM.step hF [46] rfl (by kernel_rfl) rfl ⟨⟨_, rfl, ?_⟩, trivial⟩
  refine SmG.makeOwn hF pO rfl 1 rfl rfl rfl rfl rfl rfl (by decide) (by decide) ?_
  refine SmG.freeze (l := 12) [aA (List.replicate 32 0) ++ [.list 0 [] true]] rfl ?_
  simp only [c8, bn, ic, dg, cg, b7, if_true, Nat.reduceEqDiff, if_false, Nat.zero_add, List.length_map, Nat.le_refl, and_self]
  refine SmG.nil (aa ?_)
  refine SmM.step hF [47] rfl (by kernel_rfl) rfl ⟨⟨_, rfl, ?_⟩, trivial⟩
  refine gv hF (cK rfl Tryd.underlying27 (by kernel_rfl) rfl (jl (n := 3) Hf Iy rfl (by repeat' first | apply vh rfl rfl (by first | rfl | simp [aA, af]) | apply vg rfl rfl rfl (by first | assumption | simp [aA, af]) | (apply EQ; simp only [List.set_cons_succ, List.set_cons_zero, List.take_succ_cons, List.take_zero, List.drop_succ_cons, List.drop_zero, List.drop_nil, List.cons_append, List.nil_append, List.append_nil, af] <;> rfl)))) ?_
  refine SmG.nil (aa ?_)
  refine SmM.step hF [48] rfl (by kernel_rfl) rfl ⟨⟨_, rfl, ?_⟩, trivial⟩
  refine SmG.call hF rfl rfl (by kernel_rfl) rfl rfl rfl hS2 ?_
  refine SmG.nil (aa ?_)
  refine SmM.step hF [49] rfl (by kernel_rfl) rfl ⟨⟨_, rfl, ?_⟩, trivial⟩
  refine gv hF (en rfl rfl (by exact qU _)) ?_
  refine SmG.nil (aa ?_)
  refine SmM.step hF [50] rfl (by kernel_rfl) rfl ⟨⟨_, rfl, ?_⟩, trivial⟩
  refine gv hF (aN rfl rfl rfl) ?_
  refine SmG.nil (aa ?_)
  refine SmM.step hF [51] rfl (by kernel_rfl) rfl ⟨⟨_, rfl, ?_⟩, trivial⟩
  refine gv hF oA (SmG.nil (aa ?_))
  refine SmM.nil (by kernel_rfl) ?_
  refine aa (Sm.ret ?_)
  skip
  exact ⟨_, rfl, D.le.refl _⟩
noncomputable def jU : Option Bool := some true
noncomputable def i8 : Con Tryd.prog HG nmS := ⟨10, [], [], .bool, fun _ => jU, false⟩
theorem m8 : i8.Ok := ⟨fun _ a r h => by cases h; exact Ep, fun h => by cases h⟩
end
section
open Go.RowKit
set_option maxRecDepth 100000
noncomputable def gE (a0 : List SRaw) (s3 : (Int × (List Ob) × (List (List UInt8)) × (List (List UInt8)))) : Option ((Int × (List Ob) × (List (List UInt8)) × (List (List UInt8))) ⊕ (Unit ⊕ Bool)) :=
 bif (decide (s3.1 < (a0.length : Int))) then (
  bif (decide (s3.1 < 12)) then (
   ob (idx a0 s3.1) fun x9 =>
   ob (eR (⟨s3.2.1, s3.2.2.1, s3.2.2.2⟩ : Sto) x9) fun x10 =>
   ob (eB x10) fun x11 =>
   bif (!x11) then (
    some (.inr (.inr false))
   ) else (
    ob (ez x10) fun x13 =>
    bif (!x13) then (
     some (.inr (.inr false))
    ) else (
     ob (cN x10) fun x15 =>
     ob (fu x15) fun x16 =>
     ob (bI x16.objects x10.objects) fun x17 =>
     bif (!x17) then (
      some (.inr (.inr false))
     ) else (
      bif (decide (0 < (x16.queue.length : Int))) then (
       some (.inr (.inr false))
      ) else (
       ob (cN x10) fun x20 =>
       ob (bJ x16.safe x20) fun x21 =>
       bif (!x21) then (
        some (.inr (.inr false))
       ) else (
        ob (arI .i64 (s3.1 + 1)) fun x23 =>
        some (.inl (x23, x10.objects, x10.safe, x10.queue))
       )
      )
     )
    )
   )
  ) else (
   some (.inr (.inl ()))
  )
 ) else (
  some (.inr (.inl ()))
 )
noncomputable def cZ (a0 : List SRaw) : Option Bool :=
 ob (jU ) fun x1 =>
 ob (na ) fun x2 =>
 ob ((
  cR (gE a0) (0, x2.objects, x2.safe, x2.queue)
  : Option (Unit ⊕ Bool))) fun o25 => match o25 with
 | .inl v24 => (
  some x1
  )
 | .inr e26 => some e26
theorem kZ (a : List SRaw) : gO (cfA [i8, ph, jV, jH, mG, ib, np, du, eV] Tryd.f3.ntmps []) [] Tryd.f3 [] [(.lst (.nm 2))] .bool (.jn ⟨[3], [], [], [], [], [], 1⟩ true (.lp [] ⟨[0, 3, 4], [], [], [(5, (.int .i64))], [], [(0, [some (.lst (.nm 0)), some (.lst (.lst .u8)), some (.lst (.lst .u8))])], 1⟩ (.nj (.br (.br (.nj (.seg 5 (.nj (.br .e (.br .e (.seg 17 (.br .e (.br .e (.br .e .e))))))))) .e) .e))) .e) a = cZ a := by kernel_rfl
noncomputable def kY : Con Tryd.prog HG nmS := ⟨3, [], [(.lst (.nm 2))], .bool, fun a => cZ a, false⟩
theorem k5 : kY.Ok := jA (.cons m8 (.cons pi (.cons nW (.cons e6 (.cons jZ (.cons km (.cons ug (.cons eU (.cons gF .nil))))))))) kZ Tryd.func3 rfl
theorem C8 (l : List SRaw) : cZ l = some true := by
 unfold cZ
 refine Ok.get (Ok.eq (v := true) rfl ?_)
 refine Ok.eq (v := mh) rfl ?_
 refine Ok.bind (P := fun o => o = .inl ()) ?_ ?_
 ·refine Ok.loop (fun s => ∃ i : Nat, i ≤ l.length ∧ i ≤ 12 ∧ s.1 = (i : Int) ∧ SInv i ⟨s.2.1, s.2.2.1, s.2.2.2⟩) (fun s => l.length - s.1.toNat) ⟨0, by omega, by omega, rfl, DO⟩ ?_
  rintro ⟨_, o, sf, q⟩ ⟨i, h1, h2, rfl, hi⟩
  simp only at hi
  unfold gE
  refine Ok.cond (fun c => ?_) fun c => Ok.ret rfl
  refine Ok.cond (fun c2 => ?_) fun c2 => Ok.ret rfl
  simp only [decide_eq_true_eq] at c c2
  have hx : l[i]? = some (l[i]'(by omega)) := List.getElem?_eq_getElem _
  generalize l[i]'(by omega) = x at hx
  simp only [e7, hx, ay]
  rw [Ey hi (by omega), ay]
  have hs := hi.step x (by omega)
  generalize tL ⟨o, sf, q⟩ x = t at hs
  obtain ⟨t1, t2, t3⟩ := hs.small (by omega)
  rw [ln hs (by omega), ay, Bool.not_true, cond_false, tK hs (by omega), ay, Bool.not_true, cond_false, yd hs (by omega), ay, oz (hs.openOk (by omega)), ay, hs.good.open]
  simp only
  rw [oR (by omega), ay, Bool.not_true, cond_false, jR (by simp), cond_false, ay, oT (by simp [dp]; omega), ay, Bool.not_true, cond_false, cA (by omega), ay]
  exact Ok.ret ⟨⟨i + 1, by omega, by omega, by simp, hs⟩, by simp; omega⟩
 ·rintro o rfl
  exact Ok.ret rfl
theorem kX {a0 : List SRaw} {r : Bool} (h : cZ a0 = some r) : ap Tryd.prog HG 3 [.list 3 (a0.map SRaw.row) false] (.v (.bool r)) := k5.d rfl a0 r h
end
end Go.Proofs.YtaclinnjekdgoaaDoor
