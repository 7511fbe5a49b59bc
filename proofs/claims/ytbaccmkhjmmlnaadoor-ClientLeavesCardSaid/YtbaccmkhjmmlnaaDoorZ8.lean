/-
  Lemmas, part 8 of 9: walks through the program's functions, and plain Lean about what they compute.
-/
import Derived.Test.YtbaccmkhjmmlnaaDoorZ1
import Derived.Test.YtbaccmkhjmmlnaaDoorZ2
import Derived.Test.YtbaccmkhjmmlnaaDoorZ3
import Derived.Test.YtbaccmkhjmmlnaaDoorZ4
import Derived.Test.YtbaccmkhjmmlnaaDoorZ5
import Derived.Test.YtbaccmkhjmmlnaaDoorZ6
import Derived.Test.YtbaccmkhjmmlnaaDoorZ7
set_option linter.unnecessarySimpa false
set_option linter.unusedSimpArgs false
set_option linter.unusedVariables false
namespace Go.Proofs.YtbaccmkhjmmlnaaDoor
section
open Go.RowKit
set_option maxRecDepth 100000
structure Ans where
 version : Int
 index : Int
 count : Int
 pos : Ps
 entry : Rs
 proof : List (List UInt8)
def Ans.row (x : Ans) : List D := [.v (.int .i64 x.version), .v (.int .i64 x.index), .v (.int .i64 x.count), .list 1 (x.pos.at_.map (rInt .i64)) false, .list 1 (x.pos.h0.map (rInt .i64)) false, .list 1 (x.pos.h1.map (rInt .i64)) false, .v (.int .i64 x.pos.rights), .v (.int .i64 x.pos.side), .v (.int .i64 x.entry.out), .v (.int .i64 x.entry.n), .list 32 (x.proof.map rowS) false]
structure Pvd where
 l : List (List UInt8)
 e : Int
def Pvd.row (x : Pvd) : List D := [.list 32 (x.l.map rowS) false, .v (.int .i64 x.e)]
noncomputable def zod (a0 : GRaw) (x1 : Brd) (x2 : Int) (v5 : Int) (s9 : (Int × (List (List Stp)))) : Option ((Int × (List (List Stp))) ⊕ List (List Stp)) :=
 bif (decide (s9.1 < (a0.k0.length : Int))) then (
  bif (decide (s9.1 < 4)) then (
   ob (idx a0.k0 s9.1) fun x15 =>
   ob (zrd x15 (x1.next.length : Int) v5 x2) fun x16 =>
   ob (app s9.2 [x16]) fun x17 =>
   ob (arI .i64 (s9.1 + 1)) fun x18 =>
   some (.inl (x18, x17))
  ) else (
   some (.inr s9.2)
  )
 ) else (
  some (.inr s9.2)
 )
noncomputable def zyd (a0 : GRaw) (x1 : Brd) (x2 : Int) (v5 : Int) (s25 : (Int × (List (List Stp)))) : Option ((Int × (List (List Stp))) ⊕ List (List Stp)) :=
 bif (decide (s25.1 < (a0.k1.length : Int))) then (
  bif (decide (s25.1 < 4)) then (
   ob (idx a0.k1 s25.1) fun x31 =>
   ob (zrd x31 (x1.next.length : Int) v5 x2) fun x32 =>
   ob (app s25.2 [x32]) fun x33 =>
   ob (arI .i64 (s25.1 + 1)) fun x34 =>
   some (.inl (x34, x33))
  ) else (
   some (.inr s25.2)
  )
 ) else (
  some (.inr s25.2)
 )
noncomputable def zrf (s41 : Int) : Option (Int ⊕ List Knd) :=
 none
noncomputable def zsd (a0 : GRaw) (x1 : Brd) (v5 : Int) (s60 : (Int × (List Cls))) : Option ((Int × (List Cls)) ⊕ List Cls) :=
 bif (decide (s60.1 < (a0.c.length : Int))) then (
  bif (decide (s60.1 < 3)) then (
   ob (idx a0.c s60.1) fun x66 =>
   ob (remI (x66.1.toNat : Int) 3) fun x67 =>
   ob (arI .i64 (1 + x67)) fun x68 =>
   ob (idx a0.c s60.1) fun x69 =>
   ob (quoI .u8 (x69.1.toNat : Int) 4) fun x70 =>
   ob (arI .i64 x70) fun x71 =>
   ob (remI x71 3) fun x72 =>
   ob (arI .i64 (1 + x72)) fun x73 =>
   ob ((
    bif (x68 != 3) then (
     ob (idx a0.c s60.1) fun x75 =>
     ob (remI (x75.2.1.toNat : Int) v5) fun x76 =>
     some x76
    ) else (
     some 0
    )
    : Option Int)) fun v77 =>
   ob ((
    bif (x68 == 2) then (
     ob (idx a0.c s60.1) fun x79 =>
     ob (remI (x79.2.2.toNat : Int) x1.cells) fun x80 =>
     some x80
    ) else (
     some 0
    )
    : Option Int)) fun v81 =>
   ob ((
    bif (x68 == 3) then (
     ob (idx a0.c s60.1) fun x83 =>
     ob (remI (x83.2.2.toNat : Int) 3) fun x84 =>
     some x84
    ) else (
     some v81
    )
    : Option Int)) fun v85 =>
   ob (app s60.2 [(⟨x68, v77, v85, x73⟩ : Cls)]) fun x86 =>
   ob (arI .i64 (s60.1 + 1)) fun x87 =>
   some (.inl (x87, x86))
  ) else (
   some (.inr s60.2)
  )
 ) else (
  some (.inr s60.2)
 )
noncomputable def znd (a0 : GRaw) : Option Gm :=
 ob (zde a0.w a0.h a0.cut) fun x1 =>
 ob (remI (a0.f0.toNat : Int) 3) fun x2 =>
 ob (remI (a0.f1.toNat : Int) 4) fun x3 =>
 ob ((
  bif (decide (0 < (a0.k1.length : Int))) then (
   some 2
  ) else (
   some 1
  )
  : Option Int)) fun v5 =>
 ob ((
  bif (decide (0 < v5)) then (
   ob ((
    ob (idx ([([97] : List UInt8), ([98, 101, 101] : List UInt8)]) 0) fun x7 =>
    ob (shrI .u8 (a0.f2.toNat : Int) 0) fun x8 =>
    ob ((
     loopO (zod a0 x1 x2 v5) (0, ([] : List (List Stp)))
     : Option (List (List Stp)))) fun v19 =>
    ob (app ([] : List Knd) [(⟨x7, v19, ((andI .u8 x8 1) == 1)⟩ : Knd)]) fun x20 =>
    some x20
    : Option (List Knd))) fun v21 =>
   bif (decide (1 < v5)) then (
    ob ((
     ob (idx ([([97] : List UInt8), ([98, 101, 101] : List UInt8)]) 1) fun x23 =>
     ob (shrI .u8 (a0.f2.toNat : Int) 1) fun x24 =>
     ob ((
      loopO (zyd a0 x1 x2 v5) (0, ([] : List (List Stp)))
      : Option (List (List Stp)))) fun v35 =>
     ob (app v21 [(⟨x23, v35, ((andI .u8 x24 1) == 1)⟩ : Knd)]) fun x36 =>
     some x36
     : Option (List Knd))) fun v37 =>
    bif (decide (2 < v5)) then (
     ob (idx ([([97] : List UInt8), ([98, 101, 101] : List UInt8)]) 2) fun x39 =>
     ob (shrI .u8 (a0.f2.toNat : Int) 2) fun x40 =>
     loopO (zrf) 0
    ) else (
     some v37
    )
   ) else (
    some v21
   )
  ) else (
   some []
  )
  : Option (List Knd))) fun v45 =>
 ob ((
  ob (remI (a0.f3.toNat : Int) 4) fun x46 =>
  bif (x46 == 3) then (
   ob (quoI .u8 (a0.f3.toNat : Int) 4) fun x48 =>
   ob (arI .i64 x48) fun x49 =>
   ob (remI x49 3) fun x50 =>
   ob (arI .i64 (1 + x50)) fun x51 =>
   some x51
  ) else (
   some 3
  )
  : Option Int)) fun v52 =>
 ob ((
  ob (remI (a0.f4.toNat : Int) 4) fun x53 =>
  bif (x53 == 3) then (
   ob (quoI .u8 (a0.f4.toNat : Int) 4) fun x55 =>
   ob (arI .i64 x55) fun x56 =>
   ob (remI x56 3) fun x57 =>
   ob (arI .i64 (1 + x57)) fun x58 =>
   some x58
  ) else (
   some 2
  )
  : Option Int)) fun v59 =>
 ob ((
  loopO (zsd a0 x1 v5) (0, ([] : List Cls))
  : Option (List Cls))) fun v88 =>
 some (⟨x1, v45, x2, (x3 == 3), v88, v52, v59⟩ : Gm)
set_option maxHeartbeats 4000000 in
theorem z7g {a0 : GRaw} {r : Gm} (h : znd a0 = some r) : zg Tryd.prog HG 24 [.agg 12 (GRaw.row a0)] (.agg 9 (Gm.row r)) := by
 unfold znd at h
 refine zg.of Tryd.func24 rfl Tryd.ntmps24 (by simp) ?_
 intro F hF h0 hT
 show Sm F _ _ ⟨[(0, .d (.agg 12 (GRaw.row a0)))], [], 0⟩
 refine sr hF ?_
 refine SmG.boxP hF boxA ?_
 refine SmG.new hF rfl rfl rfl (zx rfl al77) ?_
 refine sn ?_
 refine Sm.seq ?_
 refine Sm.drawG hF (by kernel_rfl) rfl 19 (by kernel_rfl) (by kernel_rfl) ?_
 simp only [List.take_succ_cons, List.take_zero, List.take_nil]
 refine hv hF (oF (ze zsw rfl)) ?_
 refine hv hF (oL (lP1 ag5 rfl)) ?_
 refine hv hF (oF (ze zgx rfl)) ?_
 refine hv hF (oL (lP1 ag5 rfl)) ?_
 refine hv hF (oF (ze zzw rfl)) ?_
 refine hv hF (oL (lP1 ag5 rfl)) ?_
 obtain ⟨x1, hx1, h⟩ := za h
 refine Head.c hF rfl rfl (by kernel_rfl) rfl rfl rfl (zzk hx1) ?_
 refine hv hF (oF (ze zdh rfl)) ?_
 refine hv hF (oI (idxAP u27 sz5 rfl rfl)) ?_
 refine hv hF (oL (lP1 ag5 rfl)) ?_
 refine hv hF (oC (zbd u5 u3 (z4c _))) ?_
 obtain ⟨x2, hx2, h⟩ := za h
 refine hv hF (oB (zsb hx2)) ?_
 refine hv hF (oF (ze zdh rfl)) ?_
 refine hv hF (oI (idxAP u27 sz5 rfl rfl)) ?_
 refine hv hF (oL (lP1 ag5 rfl)) ?_
 obtain ⟨x3, hx3, h⟩ := za h
 refine hv hF (oB (zsb hx3)) ?_
 refine hv hF (oB (c_eql)) ?_
 refine hv hF (x := .d (.agg 9 [.v (.int .i64 x1.cells), .list 1 (x1.next.map (rLst 1 (rInt .i64))) false, .list 1 (x1.turn.map (rInt .i64)) false, .list 0 [] true, .v (.int .i64 x2), .v (.bool (x3 == 3)), .list 0 [] true, .v (.int .i64 3), .v (.int .i64 2)])) (zz rfl u77 (by kernel_rfl) rfl (z8 (n := 9) ze77 pl77 rfl rfl)) ?_
 refine Head.new hF rfl rfl rfl rfl al77 ?_
 refine Head.last ⟨rfl, ?_⟩
 simp only [List.drop_succ_cons, List.drop_zero, List.drop_nil, List.nil_append, List.cons_append]
 refine SmG.store hF rfl rfl rfl rfl rfl (zy (ys := [.d (.v (.int .i64 x1.cells)), .d (.list 1 (x1.next.map (rLst 1 (rInt .i64))) false), .d (.list 1 (x1.turn.map (rInt .i64)) false), .d (.list 0 [] true), .d (.v (.int .i64 x2)), .d (.v (.bool (x3 == 3))), .d (.list 0 [] true), .d (.v (.int .i64 3)), .d (.v (.int .i64 2))]) (r := [.d (.v (.int .i64 0)), .d (.list 0 [] true), .d (.list 0 [] true), .d (.list 0 [] true), .d (.v (.int .i64 0)), .d (.v (.bool false)), .d (.list 0 [] true), .d (.v (.int .i64 0)), .d (.v (.int .i64 0))]) (rows' := [[.d (.v (.int .i64 x1.cells)), .d (.list 1 (x1.next.map (rLst 1 (rInt .i64))) false), .d (.list 1 (x1.turn.map (rInt .i64)) false), .d (.list 0 [] true), .d (.v (.int .i64 x2)), .d (.v (.bool (x3 == 3))), .d (.list 0 [] true), .d (.v (.int .i64 3)), .d (.v (.int .i64 2))]]) rfl rfl rfl sz77 rfl rfl rfl rfl rfl) ?_
 refine sn ?_
 refine sr hF ?_
 refine gv hF oA ?_
 refine sn ?_
 refine Sm.seq ?_
 obtain ⟨v5, hv5, h⟩ := za h
 refine Sm.joinTU ⟨[(1, .d (.ptr 12 (GRaw.row a0))), (2, .ref 0 0 0), (3, .ref 1 0 0), (4, .d (.v (.int .i64 v5)))], [(1, ⟨9, [[.d (.v (.int .i64 x1.cells)), .d (.list 1 (x1.next.map (rLst 1 (rInt .i64))) false), .d (.list 1 (x1.turn.map (rInt .i64)) false), .d (.list 0 [] true), .d (.v (.int .i64 x2)), .d (.v (.bool (x3 == 3))), .d (.list 0 [] true), .d (.v (.int .i64 3)), .d (.v (.int .i64 2))]]⟩), (0, ⟨9, [[.d (.v (.int .i64 0)), .d (.list 0 [] true), .d (.list 0 [] true), .d (.list 0 [] true), .d (.v (.int .i64 0)), .d (.v (.bool false)), .d (.list 0 [] true), .d (.v (.int .i64 0)), .d (.v (.int .i64 0))]]⟩)], 2⟩ ?_ ?_
 ·replace h := hv5
  refine sr hF ?_
  refine gv hF (oF (ze z9j rfl)) ?_
  refine gv hF (oI (idxAP u25 sz24 rfl rfl)) ?_
  refine gv hF (oL (lP1 ag24 rfl)) ?_
  refine gv hF (oN (lenQD u24)) ?_
  refine gv hF (oB (c_gtr)) ?_
  refine sn ?_
  refine Sm.condU hF rfl (fun hc4 => ?_) (fun hc4 => ?_)
  ·replace h := ifF hc4 h
   refine Sm.skip ?_
   obtain rfl := zb h
   exact (toK ⟨rfl, rfl, rfl, rfl, trivial⟩ ⟨rfl, rfl, trivial⟩)
  replace h := ifT hc4 h
  refine Sm.regionG hF rfl ?_
  refine gv hF oA ?_
  refine SmG.nil ?_
  obtain rfl := zb h
  exact (toK ⟨rfl, rfl, rfl, rfl, trivial⟩ ⟨rfl, rfl, trivial⟩)
 refine Sm.seq ?_
 obtain ⟨v45, hv45, h⟩ := za h
 refine Sm.joinT ⟨[(1, .d (.ptr 12 (GRaw.row a0))), (2, .ref 0 0 0), (3, .ref 1 0 0), (4, .d (.v (.int .i64 v5)))], [(1, ⟨9, [[.d (.v (.int .i64 x1.cells)), .d (.list 1 (x1.next.map (rLst 1 (rInt .i64))) false), .d (.list 1 (x1.turn.map (rInt .i64)) false), .d (.list 3 (v45.map Knd.row) false), .d (.v (.int .i64 x2)), .d (.v (.bool (x3 == 3))), .d (.list 0 [] true), .d (.v (.int .i64 3)), .d (.v (.int .i64 2))]]⟩), (0, ⟨9, [[.d (.v (.int .i64 0)), .d (.list 0 [] true), .d (.list 0 [] true), .d (.list 0 [] true), .d (.v (.int .i64 0)), .d (.v (.bool false)), .d (.list 0 [] true), .d (.v (.int .i64 0)), .d (.v (.int .i64 0))]]⟩)], 7⟩ ?_ ?_
 ·refine Sm.seq ?_
  obtain ⟨v52, hv52, h⟩ := za h
  refine Sm.joinTU ⟨[(1, .d (.ptr 12 (GRaw.row a0))), (2, .ref 0 0 0), (3, .ref 1 0 0), (4, .d (.v (.int .i64 v5)))], [(1, ⟨9, [[.d (.v (.int .i64 x1.cells)), .d (.list 1 (x1.next.map (rLst 1 (rInt .i64))) false), .d (.list 1 (x1.turn.map (rInt .i64)) false), .d (.list 3 (v45.map Knd.row) false), .d (.v (.int .i64 x2)), .d (.v (.bool (x3 == 3))), .d (.list 0 [] true), .d (.v (.int .i64 v52)), .d (.v (.int .i64 2))]]⟩), (0, ⟨9, [[.d (.v (.int .i64 0)), .d (.list 0 [] true), .d (.list 0 [] true), .d (.list 0 [] true), .d (.v (.int .i64 0)), .d (.v (.bool false)), .d (.list 0 [] true), .d (.v (.int .i64 0)), .d (.v (.int .i64 0))]]⟩)], 7⟩ ?_ ?_
  ·replace h := hv52
   refine sr hF ?_
   refine gv hF (oF (ze zdh rfl)) ?_
   refine gv hF (oI (idxAP u27 sz5 rfl rfl)) ?_
   refine gv hF (oL (lP1 ag5 rfl)) ?_
   obtain ⟨x46, hx46, h⟩ := za h
   refine gv hF (oB (zsb hx46)) ?_
   refine gv hF (oB (c_eql)) ?_
   refine sn ?_
   refine Sm.condU hF rfl (fun hc47 => ?_) (fun hc47 => ?_)
   ·replace h := ifF hc47 h
    refine Sm.skip ?_
    obtain rfl := zb h
    exact (toK ⟨rfl, rfl, rfl, rfl, trivial⟩ ⟨rfl, rfl, trivial⟩)
   replace h := ifT hc47 h
   refine Sm.regionG hF rfl ?_
   refine gv hF (oF (ze zdh rfl)) ?_
   refine gv hF (oI (idxAP u27 sz5 rfl rfl)) ?_
   refine gv hF (oL (lP1 ag5 rfl)) ?_
   obtain ⟨x48, hx48, h⟩ := za h
   refine gv hF (oB (z2i hx48)) ?_
   obtain ⟨x49, hx49, h⟩ := za h
   refine gv hF (oC (z8f u5 u3 hx49)) ?_
   obtain ⟨x50, hx50, h⟩ := za h
   refine gv hF (oB (zsb hx50)) ?_
   obtain ⟨x51, hx51, h⟩ := za h
   refine gv hF (oB (z7 hx51)) ?_
   refine gv hF (oF (zq z6w)) ?_
   refine SmG.store hF rfl rfl rfl rfl rfl (zmc (rows' := [[.d (.v (.int .i64 x1.cells)), .d (.list 1 (x1.next.map (rLst 1 (rInt .i64))) false), .d (.list 1 (x1.turn.map (rInt .i64)) false), .d (.list 3 (v45.map Knd.row) false), .d (.v (.int .i64 x2)), .d (.v (.bool (x3 == 3))), .d (.list 0 [] true), .d (.v (.int .i64 x51)), .d (.v (.int .i64 2))]]) rfl rfl rfl sz3 rfl rfl rfl) ?_
   refine SmG.nil ?_
   obtain rfl := zb h
   exact (toK ⟨rfl, rfl, rfl, rfl, trivial⟩ ⟨rfl, rfl, trivial⟩)
  refine Sm.seq ?_
  obtain ⟨v59, hv59, h⟩ := za h
  refine Sm.joinTU ⟨[(1, .d (.ptr 12 (GRaw.row a0))), (2, .ref 0 0 0), (3, .ref 1 0 0), (4, .d (.v (.int .i64 v5)))], [(1, ⟨9, [[.d (.v (.int .i64 x1.cells)), .d (.list 1 (x1.next.map (rLst 1 (rInt .i64))) false), .d (.list 1 (x1.turn.map (rInt .i64)) false), .d (.list 3 (v45.map Knd.row) false), .d (.v (.int .i64 x2)), .d (.v (.bool (x3 == 3))), .d (.list 0 [] true), .d (.v (.int .i64 v52)), .d (.v (.int .i64 v59))]]⟩), (0, ⟨9, [[.d (.v (.int .i64 0)), .d (.list 0 [] true), .d (.list 0 [] true), .d (.list 0 [] true), .d (.v (.int .i64 0)), .d (.v (.bool false)), .d (.list 0 [] true), .d (.v (.int .i64 0)), .d (.v (.int .i64 0))]]⟩)], 7⟩ ?_ ?_
  ·replace h := hv59
   refine sr hF ?_
   refine gv hF (oF (ze zdh rfl)) ?_
   refine gv hF (oI (idxAP u27 sz5 rfl rfl)) ?_
   refine gv hF (oL (lP1 ag5 rfl)) ?_
   obtain ⟨x53, hx53, h⟩ := za h
   refine gv hF (oB (zsb hx53)) ?_
   refine gv hF (oB (c_eql)) ?_
   refine sn ?_
   refine Sm.condU hF rfl (fun hc54 => ?_) (fun hc54 => ?_)
   ·replace h := ifF hc54 h
    refine Sm.skip ?_
    obtain rfl := zb h
    exact (toK ⟨rfl, rfl, rfl, rfl, trivial⟩ ⟨rfl, rfl, trivial⟩)
   replace h := ifT hc54 h
   refine Sm.regionG hF rfl ?_
   refine gv hF (oF (ze zdh rfl)) ?_
   refine gv hF (oI (idxAP u27 sz5 rfl rfl)) ?_
   refine gv hF (oL (lP1 ag5 rfl)) ?_
   obtain ⟨x55, hx55, h⟩ := za h
   refine gv hF (oB (z2i hx55)) ?_
   obtain ⟨x56, hx56, h⟩ := za h
   refine gv hF (oC (z8f u5 u3 hx56)) ?_
   obtain ⟨x57, hx57, h⟩ := za h
   refine gv hF (oB (zsb hx57)) ?_
   obtain ⟨x58, hx58, h⟩ := za h
   refine gv hF (oB (z7 hx58)) ?_
   refine gv hF (oF (zq zsx)) ?_
   refine SmG.store hF rfl rfl rfl rfl rfl (zmc (rows' := [[.d (.v (.int .i64 x1.cells)), .d (.list 1 (x1.next.map (rLst 1 (rInt .i64))) false), .d (.list 1 (x1.turn.map (rInt .i64)) false), .d (.list 3 (v45.map Knd.row) false), .d (.v (.int .i64 x2)), .d (.v (.bool (x3 == 3))), .d (.list 0 [] true), .d (.v (.int .i64 v52)), .d (.v (.int .i64 x58))]]) rfl rfl rfl sz3 rfl rfl rfl) ?_
   refine SmG.nil ?_
   obtain rfl := zb h
   exact (toK ⟨rfl, rfl, rfl, rfl, trivial⟩ ⟨rfl, rfl, trivial⟩)
  refine Sm.seq ?_
  obtain ⟨v88, hv88, h⟩ := za h
  refine Sm.joinT ⟨[(2, .ref 0 0 0), (3, .ref 1 0 0)], [(1, ⟨9, [[.d (.v (.int .i64 x1.cells)), .d (.list 1 (x1.next.map (rLst 1 (rInt .i64))) false), .d (.list 1 (x1.turn.map (rInt .i64)) false), .d (.list 3 (v45.map Knd.row) false), .d (.v (.int .i64 x2)), .d (.v (.bool (x3 == 3))), .d (.list 4 (v88.map Cls.row) false), .d (.v (.int .i64 v52)), .d (.v (.int .i64 v59))]]⟩), (0, ⟨9, [[.d (.v (.int .i64 0)), .d (.list 0 [] true), .d (.list 0 [] true), .d (.list 0 [] true), .d (.v (.int .i64 0)), .d (.v (.bool false)), .d (.list 0 [] true), .d (.v (.int .i64 0)), .d (.v (.int .i64 0))]]⟩)], 8⟩ ?_ ?_
  ·refine Sm.seq ?_
   refine Sm.regionG hF rfl ?_
   refine gv hF (x := .d (.agg 9 [.v (.int .i64 x1.cells), .list 1 (x1.next.map (rLst 1 (rInt .i64))) false, .list 1 (x1.turn.map (rInt .i64)) false, .list 3 (v45.map Knd.row) false, .v (.int .i64 x2), .v (.bool (x3 == 3)), .list 4 (v88.map Cls.row) false, .v (.int .i64 v52), .v (.int .i64 v59)])) (oL (zn rfl rfl ag77 sz77 rfl rfl)) ?_
   refine SmG.store hF rfl rfl rfl rfl rfl (zy (ys := [.d (.v (.int .i64 x1.cells)), .d (.list 1 (x1.next.map (rLst 1 (rInt .i64))) false), .d (.list 1 (x1.turn.map (rInt .i64)) false), .d (.list 3 (v45.map Knd.row) false), .d (.v (.int .i64 x2)), .d (.v (.bool (x3 == 3))), .d (.list 4 (v88.map Cls.row) false), .d (.v (.int .i64 v52)), .d (.v (.int .i64 v59))]) (r := [.d (.v (.int .i64 0)), .d (.list 0 [] true), .d (.list 0 [] true), .d (.list 0 [] true), .d (.v (.int .i64 0)), .d (.v (.bool false)), .d (.list 0 [] true), .d (.v (.int .i64 0)), .d (.v (.int .i64 0))]) (rows' := [[.d (.v (.int .i64 x1.cells)), .d (.list 1 (x1.next.map (rLst 1 (rInt .i64))) false), .d (.list 1 (x1.turn.map (rInt .i64)) false), .d (.list 3 (v45.map Knd.row) false), .d (.v (.int .i64 x2)), .d (.v (.bool (x3 == 3))), .d (.list 4 (v88.map Cls.row) false), .d (.v (.int .i64 v52)), .d (.v (.int .i64 v59))]]) rfl rfl rfl sz77 rfl rfl rfl rfl rfl) ?_
   refine sn ?_
   refine Sm.ret ?_
   obtain rfl := zb h
   exact zcd (RetR.cons (RetO.cell rfl (zn (ds := [.v (.int .i64 x1.cells), .list 1 (x1.next.map (rLst 1 (rInt .i64))) false, .list 1 (x1.turn.map (rInt .i64)) false, .list 3 (v45.map Knd.row) false, .v (.int .i64 x2), .v (.bool (x3 == 3)), .list 4 (v88.map Cls.row) false, .v (.int .i64 v52), .v (.int .i64 v59)]) rfl rfl ag77 sz77 rfl rfl)) (RetR.nil)) (D.le.refl _)
  replace h := hv88
  refine sr hF ?_
  refine gv hF oA ?_
  refine sn ?_
  refine Sm.block ?_
  refine Sm.to (toK (e := [(1, .d (.ptr 12 (GRaw.row a0))), (2, .ref 0 0 0), (3, .ref 1 0 0), (4, .d (.v (.int .i64 v5))), (8, .d (.v (.int .i64 0)))]) (g := [(1, ⟨9, [[.d (.v (.int .i64 x1.cells)), .d (.list 1 (x1.next.map (rLst 1 (rInt .i64))) false), .d (.list 1 (x1.turn.map (rInt .i64)) false), .d (.list 3 (v45.map Knd.row) false), .d (.v (.int .i64 x2)), .d (.v (.bool (x3 == 3))), .d (.list 0 [] true), .d (.v (.int .i64 v52)), .d (.v (.int .i64 v59))]]⟩), (0, ⟨9, [[.d (.v (.int .i64 0)), .d (.list 0 [] true), .d (.list 0 [] true), .d (.list 0 [] true), .d (.v (.int .i64 0)), .d (.v (.bool false)), .d (.list 0 [] true), .d (.v (.int .i64 0)), .d (.v (.int .i64 0))]]⟩)]) (m := 7) ⟨rfl, rfl, rfl, rfl, rfl, trivial⟩ ⟨rfl, rfl, trivial⟩) ?_
  refine Sm.ownCell 1 0 6 4 rfl rfl rfl ?_
  refine Sm.loopT (zsd a0 x1 v5) (fun s60 => ⟨[(1, .d (.ptr 12 (GRaw.row a0))), (2, .ref 0 0 0), (3, .ref 1 0 0), (4, .d (.v (.int .i64 v5))), (8, .d (.v (.int .i64 s60.1)))], [(7, dB 4 (s60.2.map Cls.row)), (1, ⟨9, [[.d (.v (.int .i64 x1.cells)), .d (.list 1 (x1.next.map (rLst 1 (rInt .i64))) false), .d (.list 1 (x1.turn.map (rInt .i64)) false), .d (.list 3 (v45.map Knd.row) false), .d (.v (.int .i64 x2)), .d (.v (.bool (x3 == 3))), .sref 7 0 (s60.2.map Cls.row).length, .d (.v (.int .i64 v52)), .d (.v (.int .i64 v59))]]⟩), (0, ⟨9, [[.d (.v (.int .i64 0)), .d (.list 0 [] true), .d (.list 0 [] true), .d (.list 0 [] true), .d (.v (.int .i64 0)), .d (.v (.bool false)), .d (.list 0 [] true), .d (.v (.int .i64 0)), .d (.v (.int .i64 0))]]⟩)], 8⟩) (0, ([] : List Cls)) h (toK ⟨rfl, rfl, rfl, rfl, rfl, trivial⟩ ⟨rfl, rfl, rfl, trivial⟩) ?_
  intro n61 s60 o62 h hd63
  unfold zsd at h
  refine Sm.seq ?_
  refine sr hF ?_
  refine gv hF oM ?_
  refine gv hF (oF (ze zmk rfl)) ?_
  refine gv hF (oL (lP1 ag26 rfl)) ?_
  refine gv hF (oN (lenQD u26)) ?_
  refine gv hF (oB (c_lss)) ?_
  rcases zzb (decide (s60.1 < (a0.c.length : Int))) with hc64 | hc64
  ·replace h := ifF hc64 h
   refine gv hF (zj rfl rfl hc64) ?_
   refine gp hF ?_
   refine gp hF ?_
   refine gv hF (zf rfl rfl rfl) ?_
   refine sn ?_
   refine Sm.condF hF rfl ?_
   refine Sm.exit ?_
   replace h := zw h hd63
   obtain rfl := zb h
   exact (St.to_trans (toK (e := [(2, .ref 0 0 0), (3, .ref 1 0 0)]) (g := [(7, dB 4 (s60.2.map Cls.row)), (1, ⟨9, [[.d (.v (.int .i64 x1.cells)), .d (.list 1 (x1.next.map (rLst 1 (rInt .i64))) false), .d (.list 1 (x1.turn.map (rInt .i64)) false), .d (.list 3 (v45.map Knd.row) false), .d (.v (.int .i64 x2)), .d (.v (.bool (x3 == 3))), .sref 7 0 (s60.2.map Cls.row).length, .d (.v (.int .i64 v52)), .d (.v (.int .i64 v59))]]⟩), (0, ⟨9, [[.d (.v (.int .i64 0)), .d (.list 0 [] true), .d (.list 0 [] true), .d (.list 0 [] true), .d (.v (.int .i64 0)), .d (.v (.bool false)), .d (.list 0 [] true), .d (.v (.int .i64 0)), .d (.v (.int .i64 0))]]⟩)]) (m := 8) ⟨rfl, rfl, trivial⟩ ⟨rfl, rfl, rfl, trivial⟩) (St.to_frz (l := 7) (sz := 4) (env' := [(2, .ref 0 0 0), (3, .ref 1 0 0)]) (h' := [(1, ⟨9, [[.d (.v (.int .i64 x1.cells)), .d (.list 1 (x1.next.map (rLst 1 (rInt .i64))) false), .d (.list 1 (x1.turn.map (rInt .i64)) false), .d (.list 3 (v45.map Knd.row) false), .d (.v (.int .i64 x2)), .d (.v (.bool (x3 == 3))), .d (.list 4 (s60.2.map Cls.row) false), .d (.v (.int .i64 v52)), .d (.v (.int .i64 v59))]]⟩), (0, ⟨9, [[.d (.v (.int .i64 0)), .d (.list 0 [] true), .d (.list 0 [] true), .d (.list 0 [] true), .d (.v (.int .i64 0)), .d (.v (.bool false)), .d (.list 0 [] true), .d (.v (.int .i64 0)), .d (.v (.int .i64 0))]]⟩)]) (nx := 8) (s60.2.map Cls.row) rfl ⟨⟨_, rfl, rfl⟩, ⟨_, rfl, rfl⟩, trivial⟩ ⟨⟨rfl, _, rfl, zfb (.cons rfl (.cons rfl (.cons rfl (.cons rfl (.cons rfl (.cons rfl (.cons zjc (.cons rfl (.cons rfl .nil)))))))))⟩, ⟨rfl, _, rfl, zfb (.cons rfl (.cons rfl (.cons rfl (.cons rfl (.cons rfl (.cons rfl (.cons rfl (.cons rfl (.cons rfl .nil)))))))))⟩, trivial⟩))
  replace h := ifT hc64 h
  refine gv hF (zj rfl rfl hc64) ?_
  refine gv hF oM ?_
  refine gv hF (oB (c_lss)) ?_
  refine gv hF (zu rfl rfl rfl) ?_
  refine sn ?_
  refine Sm.condU hF rfl (fun hc65 => ?_) (fun hc65 => ?_)
  ·replace h := ifF hc65 h
   refine Sm.exit ?_
   replace h := zw h hd63
   obtain rfl := zb h
   exact (St.to_trans (toK (e := [(2, .ref 0 0 0), (3, .ref 1 0 0)]) (g := [(7, dB 4 (s60.2.map Cls.row)), (1, ⟨9, [[.d (.v (.int .i64 x1.cells)), .d (.list 1 (x1.next.map (rLst 1 (rInt .i64))) false), .d (.list 1 (x1.turn.map (rInt .i64)) false), .d (.list 3 (v45.map Knd.row) false), .d (.v (.int .i64 x2)), .d (.v (.bool (x3 == 3))), .sref 7 0 (s60.2.map Cls.row).length, .d (.v (.int .i64 v52)), .d (.v (.int .i64 v59))]]⟩), (0, ⟨9, [[.d (.v (.int .i64 0)), .d (.list 0 [] true), .d (.list 0 [] true), .d (.list 0 [] true), .d (.v (.int .i64 0)), .d (.v (.bool false)), .d (.list 0 [] true), .d (.v (.int .i64 0)), .d (.v (.int .i64 0))]]⟩)]) (m := 8) ⟨rfl, rfl, trivial⟩ ⟨rfl, rfl, rfl, trivial⟩) (St.to_frz (l := 7) (sz := 4) (env' := [(2, .ref 0 0 0), (3, .ref 1 0 0)]) (h' := [(1, ⟨9, [[.d (.v (.int .i64 x1.cells)), .d (.list 1 (x1.next.map (rLst 1 (rInt .i64))) false), .d (.list 1 (x1.turn.map (rInt .i64)) false), .d (.list 3 (v45.map Knd.row) false), .d (.v (.int .i64 x2)), .d (.v (.bool (x3 == 3))), .d (.list 4 (s60.2.map Cls.row) false), .d (.v (.int .i64 v52)), .d (.v (.int .i64 v59))]]⟩), (0, ⟨9, [[.d (.v (.int .i64 0)), .d (.list 0 [] true), .d (.list 0 [] true), .d (.list 0 [] true), .d (.v (.int .i64 0)), .d (.v (.bool false)), .d (.list 0 [] true), .d (.v (.int .i64 0)), .d (.v (.int .i64 0))]]⟩)]) (nx := 8) (s60.2.map Cls.row) rfl ⟨⟨_, rfl, rfl⟩, ⟨_, rfl, rfl⟩, trivial⟩ ⟨⟨rfl, _, rfl, zfb (.cons rfl (.cons rfl (.cons rfl (.cons rfl (.cons rfl (.cons rfl (.cons zjc (.cons rfl (.cons rfl .nil)))))))))⟩, ⟨rfl, _, rfl, zfb (.cons rfl (.cons rfl (.cons rfl (.cons rfl (.cons rfl (.cons rfl (.cons rfl (.cons rfl (.cons rfl .nil)))))))))⟩, trivial⟩))
  replace h := ifT hc65 h
  refine sk ?_
  refine Sm.seq ?_
  refine Sm.block ?_
  refine Sm.seq ?_
  refine Sm.drawG hF (by kernel_rfl) rfl 21 (by kernel_rfl) (by kernel_rfl) ?_
  simp only [List.take_succ_cons, List.take_zero, List.take_nil]
  refine hv hF (oF (ze zmk rfl)) ?_
  refine hv hF (oL (lP1 ag26 rfl)) ?_
  refine hv hF oM ?_
  obtain ⟨x66, hx66, h⟩ := za h
  refine hv hF (oI (idxQD u26 sz117 hx66)) ?_
  refine hv hF (oI (idxAP u117 sz5 rfl rfl)) ?_
  refine hv hF (oL (lP1 ag5 rfl)) ?_
  refine hv hF (oC (zbd u5 u3 (z4c _))) ?_
  obtain ⟨x67, hx67, h⟩ := za h
  refine hv hF (oB (zsb hx67)) ?_
  obtain ⟨x68, hx68, h⟩ := za h
  refine hv hF (oB (z7 hx68)) ?_
  refine hv hF (oF (ze zmk rfl)) ?_
  refine hv hF (oL (lP1 ag26 rfl)) ?_
  refine hv hF oM ?_
  obtain ⟨x69, hx69, h⟩ := za h
  refine hv hF (oI (idxQD u26 sz117 hx69)) ?_
  refine hv hF (oI (idxAP u117 sz5 rfl rfl)) ?_
  refine hv hF (oL (lP1 ag5 rfl)) ?_
  obtain ⟨x70, hx70, h⟩ := za h
  refine hv hF (oB (z2i hx70)) ?_
  obtain ⟨x71, hx71, h⟩ := za h
  refine hv hF (oC (z8f u5 u3 hx71)) ?_
  obtain ⟨x72, hx72, h⟩ := za h
  refine hv hF (oB (zsb hx72)) ?_
  obtain ⟨x73, hx73, h⟩ := za h
  refine hv hF (oB (z7 hx73)) ?_
  refine hv hF (x := .d (.agg 4 [.v (.int .i64 x68), .v (.int .i64 0), .v (.int .i64 0), .v (.int .i64 x73)])) (zz rfl u119 (by kernel_rfl) rfl (z8 (n := 4) ze119 pl119 rfl rfl)) ?_
  refine Head.new hF rfl rfl rfl rfl al119 ?_
  refine Head.last ⟨rfl, ?_⟩
  simp only [List.drop_succ_cons, List.drop_zero, List.drop_nil, List.nil_append, List.cons_append]
  refine SmG.store hF rfl rfl rfl rfl rfl (zy (ys := [.d (.v (.int .i64 x68)), .d (.v (.int .i64 0)), .d (.v (.int .i64 0)), .d (.v (.int .i64 x73))]) (r := [.d (.v (.int .i64 0)), .d (.v (.int .i64 0)), .d (.v (.int .i64 0)), .d (.v (.int .i64 0))]) (rows' := [[.d (.v (.int .i64 x68)), .d (.v (.int .i64 0)), .d (.v (.int .i64 0)), .d (.v (.int .i64 x73))]]) rfl rfl rfl sz119 rfl rfl rfl rfl rfl) ?_
  refine sn ?_
  refine Sm.seq ?_
  obtain ⟨v77, hv77, h⟩ := za h
  refine Sm.joinTU ⟨[(1, .d (.ptr 12 (GRaw.row a0))), (2, .ref 0 0 0), (3, .ref 1 0 0), (4, .d (.v (.int .i64 v5))), (8, .d (.v (.int .i64 s60.1))), (9, .ref 8 0 0), (121, .d (.v (.int .i64 s60.1))), (122, .d (.v (.bool (decide (s60.1 < 3)))))], [(8, ⟨4, [[.d (.v (.int .i64 x68)), .d (.v (.int .i64 v77)), .d (.v (.int .i64 0)), .d (.v (.int .i64 x73))]]⟩), (7, dB 4 (s60.2.map Cls.row)), (1, ⟨9, [[.d (.v (.int .i64 x1.cells)), .d (.list 1 (x1.next.map (rLst 1 (rInt .i64))) false), .d (.list 1 (x1.turn.map (rInt .i64)) false), .d (.list 3 (v45.map Knd.row) false), .d (.v (.int .i64 x2)), .d (.v (.bool (x3 == 3))), .sref 7 0 (s60.2.map Cls.row).length, .d (.v (.int .i64 v52)), .d (.v (.int .i64 v59))]]⟩), (0, ⟨9, [[.d (.v (.int .i64 0)), .d (.list 0 [] true), .d (.list 0 [] true), .d (.list 0 [] true), .d (.v (.int .i64 0)), .d (.v (.bool false)), .d (.list 0 [] true), .d (.v (.int .i64 0)), .d (.v (.int .i64 0))]]⟩)], 9⟩ ?_ ?_
  ·replace h := hv77
   refine sr hF ?_
   refine gv hF (oF (zq z5n)) ?_
   refine gv hF (oL (z4b rfl rfl ag3 rfl)) ?_
   refine gv hF (oB (c_neq)) ?_
   refine sn ?_
   refine Sm.condU hF rfl (fun hc74 => ?_) (fun hc74 => ?_)
   ·replace h := ifF hc74 h
    refine Sm.skip ?_
    obtain rfl := zb h
    exact (toK ⟨rfl, rfl, rfl, rfl, rfl, rfl, rfl, rfl, trivial⟩ ⟨rfl, rfl, rfl, rfl, trivial⟩)
   replace h := ifT hc74 h
   refine Sm.regionG hF rfl ?_
   refine gv hF (oF (ze zmk rfl)) ?_
   refine gv hF (oL (lP1 ag26 rfl)) ?_
   refine gv hF oM ?_
   obtain ⟨x75, hx75, h⟩ := za h
   refine gv hF (oI (idxQD u26 sz117 hx75)) ?_
   refine gv hF (oI (idxAP u117 sz5 rfl rfl)) ?_
   refine gv hF (oL (lP1 ag5 rfl)) ?_
   refine gv hF (oC (zbd u5 u3 (z4c _))) ?_
   refine gv hF oM ?_
   obtain ⟨x76, hx76, h⟩ := za h
   refine gv hF (oB (zsb hx76)) ?_
   refine gv hF (oF (zq zkw)) ?_
   refine SmG.store hF rfl rfl rfl rfl rfl (zmc (rows' := [[.d (.v (.int .i64 x68)), .d (.v (.int .i64 x76)), .d (.v (.int .i64 0)), .d (.v (.int .i64 x73))]]) rfl rfl rfl sz3 rfl rfl rfl) ?_
   refine SmG.nil ?_
   obtain rfl := zb h
   exact (toK ⟨rfl, rfl, rfl, rfl, rfl, rfl, rfl, rfl, trivial⟩ ⟨rfl, rfl, rfl, rfl, trivial⟩)
  refine Sm.seq ?_
  obtain ⟨v81, hv81, h⟩ := za h
  refine Sm.joinTU ⟨[(1, .d (.ptr 12 (GRaw.row a0))), (2, .ref 0 0 0), (3, .ref 1 0 0), (4, .d (.v (.int .i64 v5))), (8, .d (.v (.int .i64 s60.1))), (9, .ref 8 0 0), (121, .d (.v (.int .i64 s60.1))), (122, .d (.v (.bool (decide (s60.1 < 3)))))], [(8, ⟨4, [[.d (.v (.int .i64 x68)), .d (.v (.int .i64 v77)), .d (.v (.int .i64 v81)), .d (.v (.int .i64 x73))]]⟩), (7, dB 4 (s60.2.map Cls.row)), (1, ⟨9, [[.d (.v (.int .i64 x1.cells)), .d (.list 1 (x1.next.map (rLst 1 (rInt .i64))) false), .d (.list 1 (x1.turn.map (rInt .i64)) false), .d (.list 3 (v45.map Knd.row) false), .d (.v (.int .i64 x2)), .d (.v (.bool (x3 == 3))), .sref 7 0 (s60.2.map Cls.row).length, .d (.v (.int .i64 v52)), .d (.v (.int .i64 v59))]]⟩), (0, ⟨9, [[.d (.v (.int .i64 0)), .d (.list 0 [] true), .d (.list 0 [] true), .d (.list 0 [] true), .d (.v (.int .i64 0)), .d (.v (.bool false)), .d (.list 0 [] true), .d (.v (.int .i64 0)), .d (.v (.int .i64 0))]]⟩)], 9⟩ ?_ ?_
  ·replace h := hv81
   refine sr hF ?_
   refine gv hF (oF (zq z5n)) ?_
   refine gv hF (oL (z4b rfl rfl ag3 rfl)) ?_
   refine gv hF (oB (c_eql)) ?_
   refine sn ?_
   refine Sm.condU hF rfl (fun hc78 => ?_) (fun hc78 => ?_)
   ·replace h := ifF hc78 h
    refine Sm.skip ?_
    obtain rfl := zb h
    exact (toK ⟨rfl, rfl, rfl, rfl, rfl, rfl, rfl, rfl, trivial⟩ ⟨rfl, rfl, rfl, rfl, trivial⟩)
   replace h := ifT hc78 h
   refine Sm.drawG hF (by kernel_rfl) rfl 10 (by kernel_rfl) (by kernel_rfl) ?_
   simp only [List.take_succ_cons, List.take_zero, List.take_nil]
   refine hv hF (oF (ze zmk rfl)) ?_
   refine hv hF (oL (lP1 ag26 rfl)) ?_
   refine hv hF oM ?_
   obtain ⟨x79, hx79, h⟩ := za h
   refine hv hF (oI (idxQD u26 sz117 hx79)) ?_
   refine hv hF (oI (idxAP u117 sz5 rfl rfl)) ?_
   refine hv hF (oL (lP1 ag5 rfl)) ?_
   refine hv hF (oC (zbd u5 u3 (z4c _))) ?_
   refine hv hF (oF (zq z4j)) ?_
   refine hv hF (oF (zq z9h)) ?_
   refine hv hF (oL (z4b rfl rfl ag3 rfl)) ?_
   refine Head.last ⟨rfl, ?_⟩
   simp only [List.drop_succ_cons, List.drop_zero, List.drop_nil, List.nil_append, List.cons_append]
   obtain ⟨x80, hx80, h⟩ := za h
   refine gv hF (oB (zsb hx80)) ?_
   refine gv hF (oF (zq z0r)) ?_
   refine SmG.store hF rfl rfl rfl rfl rfl (zmc (rows' := [[.d (.v (.int .i64 x68)), .d (.v (.int .i64 v77)), .d (.v (.int .i64 x80)), .d (.v (.int .i64 x73))]]) rfl rfl rfl sz3 rfl rfl rfl) ?_
   refine SmG.nil ?_
   obtain rfl := zb h
   exact (toK ⟨rfl, rfl, rfl, rfl, rfl, rfl, rfl, rfl, trivial⟩ ⟨rfl, rfl, rfl, rfl, trivial⟩)
  refine Sm.seq ?_
  obtain ⟨v85, hv85, h⟩ := za h
  refine Sm.joinT ⟨[(1, .d (.ptr 12 (GRaw.row a0))), (2, .ref 0 0 0), (3, .ref 1 0 0), (4, .d (.v (.int .i64 v5))), (8, .d (.v (.int .i64 s60.1))), (9, .ref 8 0 0), (121, .d (.v (.int .i64 s60.1))), (122, .d (.v (.bool (decide (s60.1 < 3)))))], [(8, ⟨4, [[.d (.v (.int .i64 x68)), .d (.v (.int .i64 v77)), .d (.v (.int .i64 v85)), .d (.v (.int .i64 x73))]]⟩), (7, dB 4 (s60.2.map Cls.row)), (1, ⟨9, [[.d (.v (.int .i64 x1.cells)), .d (.list 1 (x1.next.map (rLst 1 (rInt .i64))) false), .d (.list 1 (x1.turn.map (rInt .i64)) false), .d (.list 3 (v45.map Knd.row) false), .d (.v (.int .i64 x2)), .d (.v (.bool (x3 == 3))), .sref 7 0 (s60.2.map Cls.row).length, .d (.v (.int .i64 v52)), .d (.v (.int .i64 v59))]]⟩), (0, ⟨9, [[.d (.v (.int .i64 0)), .d (.list 0 [] true), .d (.list 0 [] true), .d (.list 0 [] true), .d (.v (.int .i64 0)), .d (.v (.bool false)), .d (.list 0 [] true), .d (.v (.int .i64 0)), .d (.v (.int .i64 0))]]⟩)], 9⟩ ?_ ?_
  ·refine Sm.regionG hF rfl ?_
   refine gv hF (oF (zq zcu)) ?_
   refine gv hF (oL (z4b rfl rfl ag75 rfl)) ?_
   refine gv hF (x := .d (.agg 4 [.v (.int .i64 x68), .v (.int .i64 v77), .v (.int .i64 v85), .v (.int .i64 x73)])) (oL (zn rfl rfl ag119 sz119 rfl rfl)) ?_
   refine gv hF (x := .d (.list 4 ([(⟨x68, v77, v85, x73⟩ : Cls)].map Cls.row) true)) (oS (zl u75 sz119 ze119 rfl rfl (PartsQ.cons rfl (PartsQ.nil _)) rfl)) ?_
   refine SmG.toX (St.to_weak (env' := [(1, .d (.ptr 12 (GRaw.row a0))), (2, .ref 0 0 0), (3, .ref 1 0 0), (4, .d (.v (.int .i64 v5))), (8, .d (.v (.int .i64 s60.1))), (121, .d (.v (.int .i64 s60.1))), (122, .d (.v (.bool (decide (s60.1 < 3))))), (187, .sref 7 0 (s60.2.map Cls.row).length), (189, .d (.list 4 ([(⟨x68, v77, v85, x73⟩ : Cls)].map Cls.row) true))]) (h' := [(7, dB 4 (s60.2.map Cls.row)), (1, ⟨9, [[.d (.v (.int .i64 x1.cells)), .d (.list 1 (x1.next.map (rLst 1 (rInt .i64))) false), .d (.list 1 (x1.turn.map (rInt .i64)) false), .d (.list 3 (v45.map Knd.row) false), .d (.v (.int .i64 x2)), .d (.v (.bool (x3 == 3))), .any, .d (.v (.int .i64 v52)), .d (.v (.int .i64 v59))]]⟩), (0, ⟨9, [[.d (.v (.int .i64 0)), .d (.list 0 [] true), .d (.list 0 [] true), .d (.list 0 [] true), .d (.v (.int .i64 0)), .d (.v (.bool false)), .d (.list 0 [] true), .d (.v (.int .i64 0)), .d (.v (.int .i64 0))]]⟩)]) (nx' := 9) ⟨⟨_, rfl, V.le.refl _⟩, ⟨_, rfl, V.le.refl _⟩, ⟨_, rfl, V.le.refl _⟩, ⟨_, rfl, V.le.refl _⟩, ⟨_, rfl, V.le.refl _⟩, ⟨_, rfl, V.le.refl _⟩, ⟨_, rfl, V.le.refl _⟩, ⟨_, rfl, V.le.refl _⟩, ⟨_, rfl, V.le.refl _⟩, trivial⟩ ⟨⟨_, rfl, BlkR.refl _⟩, ⟨_, rfl, BlkR.row (.cons (V.le.refl _) (.cons (V.le.refl _) (.cons (V.le.refl _) (.cons (V.le.refl _) (.cons (V.le.refl _) (.cons (V.le.refl _) (.cons (V.le.any _) (.cons (V.le.refl _) (.cons (V.le.refl _) .nil)))))))))⟩, ⟨_, rfl, BlkR.refl _⟩, trivial⟩ (Nat.le_of_ble_eq_true rfl)) rfl ?_
   obtain ⟨x86, hx86, h⟩ := za h
   refine SmG.appendOwnL hF el75 rfl (ys := [(⟨x68, v77, v85, x73⟩ : Cls)]) (row := Cls.row) rfl rfl rfl rfl rfl rfl rfl rfl (.inl rfl) hx86 (by (repeat' first | exact zqb _ | refine zib ?_ | refine zi ?_ (z6 _ _ _) | refine zi ?_ (z6 _ _ [_]) | refine zi ?_ (z2b (by rfl)))) ?_
   refine gv hF (oF (zq zcu)) ?_
   refine SmG.store hF rfl rfl rfl rfl rfl (zmc (rows' := [[.d (.v (.int .i64 x1.cells)), .d (.list 1 (x1.next.map (rLst 1 (rInt .i64))) false), .d (.list 1 (x1.turn.map (rInt .i64)) false), .d (.list 3 (v45.map Knd.row) false), .d (.v (.int .i64 x2)), .d (.v (.bool (x3 == 3))), .sref 7 0 (x86.map Cls.row).length, .d (.v (.int .i64 v52)), .d (.v (.int .i64 v59))]]) rfl rfl rfl sz75 rfl rfl rfl) ?_
   refine SmG.nil ?_
   refine zk ?_
   refine zd ?_
   refine Sm.regionG hF rfl ?_
   refine gv hF oM ?_
   obtain ⟨x87, hx87, h⟩ := za h
   refine gv hF (oB (z7 hx87)) ?_
   refine gv hF oA ?_
   refine SmG.nil ?_
   exact ztb (zhb h hd63) (St.to_trans (toK (e := [(1, .d (.ptr 12 (GRaw.row a0))), (2, .ref 0 0 0), (3, .ref 1 0 0), (4, .d (.v (.int .i64 v5))), (8, .d (.v (.int .i64 x87)))]) (g := [(7, dB 4 (x86.map Cls.row)), (1, ⟨9, [[.d (.v (.int .i64 x1.cells)), .d (.list 1 (x1.next.map (rLst 1 (rInt .i64))) false), .d (.list 1 (x1.turn.map (rInt .i64)) false), .d (.list 3 (v45.map Knd.row) false), .d (.v (.int .i64 x2)), .d (.v (.bool (x3 == 3))), .sref 7 0 (x86.map Cls.row).length, .d (.v (.int .i64 v52)), .d (.v (.int .i64 v59))]]⟩), (0, ⟨9, [[.d (.v (.int .i64 0)), .d (.list 0 [] true), .d (.list 0 [] true), .d (.list 0 [] true), .d (.v (.int .i64 0)), .d (.v (.bool false)), .d (.list 0 [] true), .d (.v (.int .i64 0)), .d (.v (.int .i64 0))]]⟩)]) (m := 9) ⟨rfl, rfl, rfl, rfl, rfl, trivial⟩ ⟨rfl, rfl, rfl, trivial⟩) (St.to_cutX 8 rfl (by (repeat' first | exact z9l _ | exact zik _ _ | exact trivial | refine z6k ?_ (by decide) | refine z8i ?_ (lt_dB _ _ _) | refine zbm ?_ ?_ | refine ⟨rfl, ?_⟩)) rfl))
  replace h := hv85
  refine sr hF ?_
  refine gv hF (oF (zq z5n)) ?_
  refine gv hF (oL (z4b rfl rfl ag3 rfl)) ?_
  refine gv hF (oB (c_eql)) ?_
  refine sn ?_
  refine Sm.condU hF rfl (fun hc82 => ?_) (fun hc82 => ?_)
  ·replace h := ifF hc82 h
   refine Sm.skip ?_
   obtain rfl := zb h
   exact (toK ⟨rfl, rfl, rfl, rfl, rfl, rfl, rfl, rfl, trivial⟩ ⟨rfl, rfl, rfl, rfl, trivial⟩)
  replace h := ifT hc82 h
  refine Sm.regionG hF rfl ?_
  refine gv hF (oF (ze zmk rfl)) ?_
  refine gv hF (oL (lP1 ag26 rfl)) ?_
  refine gv hF oM ?_
  obtain ⟨x83, hx83, h⟩ := za h
  refine gv hF (oI (idxQD u26 sz117 hx83)) ?_
  refine gv hF (oI (idxAP u117 sz5 rfl rfl)) ?_
  refine gv hF (oL (lP1 ag5 rfl)) ?_
  refine gv hF (oC (zbd u5 u3 (z4c _))) ?_
  obtain ⟨x84, hx84, h⟩ := za h
  refine gv hF (oB (zsb hx84)) ?_
  refine gv hF (oF (zq z0r)) ?_
  refine SmG.store hF rfl rfl rfl rfl rfl (zmc (rows' := [[.d (.v (.int .i64 x68)), .d (.v (.int .i64 v77)), .d (.v (.int .i64 x84)), .d (.v (.int .i64 x73))]]) rfl rfl rfl sz3 rfl rfl rfl) ?_
  refine SmG.nil ?_
  obtain rfl := zb h
  exact (toK ⟨rfl, rfl, rfl, rfl, rfl, rfl, rfl, rfl, trivial⟩ ⟨rfl, rfl, rfl, rfl, trivial⟩)
 replace h := hv45
 refine sr hF ?_
 refine gv hF oA ?_
 refine sn ?_
 refine Sm.block ?_
 refine Sm.rounds 60 ?_
 refine zrh ?_
 refine Sm.seq ?_
 refine sr hF ?_
 refine gv hF oM ?_
 refine gv hF oM ?_
 refine gv hF (oB (c_lss)) ?_
 refine sn ?_
 refine Sm.condU hF rfl (fun hc6 => ?_) (fun hc6 => ?_)
 ·replace h := ifF hc6 h
  refine Sm.exit ?_
  obtain rfl := zb h
  exact (St.to_trans (toK (e := [(1, .d (.ptr 12 (GRaw.row a0))), (2, .ref 0 0 0), (3, .ref 1 0 0), (4, .d (.v (.int .i64 v5)))]) (g := [(1, ⟨9, [[.d (.v (.int .i64 x1.cells)), .d (.list 1 (x1.next.map (rLst 1 (rInt .i64))) false), .d (.list 1 (x1.turn.map (rInt .i64)) false), .d (.list 0 [] true), .d (.v (.int .i64 x2)), .d (.v (.bool (x3 == 3))), .d (.list 0 [] true), .d (.v (.int .i64 3)), .d (.v (.int .i64 2))]]⟩), (0, ⟨9, [[.d (.v (.int .i64 0)), .d (.list 0 [] true), .d (.list 0 [] true), .d (.list 0 [] true), .d (.v (.int .i64 0)), .d (.v (.bool false)), .d (.list 0 [] true), .d (.v (.int .i64 0)), .d (.v (.int .i64 0))]]⟩)]) (m := 2) ⟨rfl, rfl, rfl, rfl, trivial⟩ ⟨rfl, rfl, trivial⟩) (St.to_weak (env' := [(1, .d (.ptr 12 (GRaw.row a0))), (2, .ref 0 0 0), (3, .ref 1 0 0), (4, .d (.v (.int .i64 v5)))]) (h' := [(1, ⟨9, [[.d (.v (.int .i64 x1.cells)), .d (.list 1 (x1.next.map (rLst 1 (rInt .i64))) false), .d (.list 1 (x1.turn.map (rInt .i64)) false), .d (.list 3 ([].map Knd.row) false), .d (.v (.int .i64 x2)), .d (.v (.bool (x3 == 3))), .d (.list 0 [] true), .d (.v (.int .i64 3)), .d (.v (.int .i64 2))]]⟩), (0, ⟨9, [[.d (.v (.int .i64 0)), .d (.list 0 [] true), .d (.list 0 [] true), .d (.list 0 [] true), .d (.v (.int .i64 0)), .d (.v (.bool false)), .d (.list 0 [] true), .d (.v (.int .i64 0)), .d (.v (.int .i64 0))]]⟩)]) (nx' := 7) ⟨⟨_, rfl, V.le.refl _⟩, ⟨_, rfl, V.le.refl _⟩, ⟨_, rfl, V.le.refl _⟩, ⟨_, rfl, V.le.refl _⟩, trivial⟩ ⟨⟨_, rfl, BlkR.row (.cons (V.le.refl _) (.cons (V.le.refl _) (.cons (V.le.refl _) (.cons (V.le.d (by repeat' first | exact D.le.refl _ | exact D.le_full _ _ _ | exact D.le_nil' _ _ _ | refine D.le_list ?_ | exact LeRows.nil | refine LeRows.cons ?_ ?_ | exact LeL.nil | refine LeL.cons ?_ ?_ | refine D.le_tupL ?_ | refine D.le_aggL ?_)) (.cons (V.le.refl _) (.cons (V.le.refl _) (.cons (V.le.refl _) (.cons (V.le.refl _) (.cons (V.le.refl _) .nil)))))))))⟩, ⟨_, rfl, BlkR.refl _⟩, trivial⟩ (Nat.le_of_ble_eq_true rfl)))
 replace h := ifT hc6 h
 refine sk ?_
 refine Sm.seq ?_
 obtain ⟨v21, hv21, h⟩ := za h
 refine Sm.joinTU ⟨[(1, .d (.ptr 12 (GRaw.row a0))), (2, .ref 0 0 0), (3, .ref 1 0 0), (4, .d (.v (.int .i64 v5))), (5, .d (.v (.int .i64 0)))], [(4, dB 3 (v21.map Knd.row)), (1, ⟨9, [[.d (.v (.int .i64 x1.cells)), .d (.list 1 (x1.next.map (rLst 1 (rInt .i64))) false), .d (.list 1 (x1.turn.map (rInt .i64)) false), .sref 4 0 (v21.map Knd.row).length, .d (.v (.int .i64 x2)), .d (.v (.bool (x3 == 3))), .d (.list 0 [] true), .d (.v (.int .i64 3)), .d (.v (.int .i64 2))]]⟩), (0, ⟨9, [[.d (.v (.int .i64 0)), .d (.list 0 [] true), .d (.list 0 [] true), .d (.list 0 [] true), .d (.v (.int .i64 0)), .d (.v (.bool false)), .d (.list 0 [] true), .d (.v (.int .i64 0)), .d (.v (.int .i64 0))]]⟩)], 5⟩ ?_ ?_
 ·replace h := hv21
  refine Sm.block ?_
  refine Sm.seq ?_
  refine Sm.drawG hF (by kernel_rfl) rfl 13 (by kernel_rfl) (by kernel_rfl) ?_
  simp only [List.take_succ_cons, List.take_zero, List.take_nil]
  refine hv hF (x := .d (.list 1 ([([97] : List UInt8), ([98, 101, 101] : List UInt8)].map z5p) true)) (oS (zl u113 sz9 ze9 rfl rfl (PartsQ.cons rfl (PartsQ.cons rfl (PartsQ.nil _))) rfl)) ?_
  refine hv hF oM ?_
  obtain ⟨x7, hx7, h⟩ := za h
  refine hv hF (oI (idxQD u113 sz9 hx7)) ?_
  refine hv hF (oL (lP1 ag9 rfl)) ?_
  refine hv hF (oF (ze zdh rfl)) ?_
  refine hv hF (oI (idxAP u27 sz5 rfl rfl)) ?_
  refine hv hF (oL (lP1 ag5 rfl)) ?_
  refine hv hF oM ?_
  obtain ⟨x8, hx8, h⟩ := za h
  refine hv hF (oB (zfh hx8)) ?_
  refine hv hF (oB zop) ?_
  refine hv hF (oB (c_eql)) ?_
  refine hv hF (x := .d (.agg 3 [.v (.string ⟨(x7 : List UInt8).toArray⟩), .list 0 [] true, .v (.bool ((andI .u8 x8 1) == 1))])) (zz rfl u111 (by kernel_rfl) rfl (z8 (n := 3) ze111 pl111 rfl rfl)) ?_
  refine Head.new hF rfl rfl rfl rfl al111 ?_
  refine Head.last ⟨rfl, ?_⟩
  simp only [List.drop_succ_cons, List.drop_zero, List.drop_nil, List.nil_append, List.cons_append]
  refine SmG.store hF rfl rfl rfl rfl rfl (zy (ys := [.d (.v (.string ⟨(x7 : List UInt8).toArray⟩)), .d (.list 0 [] true), .d (.v (.bool ((andI .u8 x8 1) == 1)))]) (r := [.d (.v (.string ⟨([] : List UInt8).toArray⟩)), .d (.list 0 [] true), .d (.v (.bool false))]) (rows' := [[.d (.v (.string ⟨(x7 : List UInt8).toArray⟩)), .d (.list 0 [] true), .d (.v (.bool ((andI .u8 x8 1) == 1)))]]) rfl rfl rfl sz111 rfl rfl rfl rfl rfl) ?_
  refine sn ?_
  refine Sm.seq ?_
  obtain ⟨v19, hv19, h⟩ := za h
  refine Sm.joinT ⟨[(1, .d (.ptr 12 (GRaw.row a0))), (2, .ref 0 0 0), (3, .ref 1 0 0), (4, .d (.v (.int .i64 v5))), (5, .d (.v (.int .i64 0))), (6, .ref 2 0 0)], [(2, ⟨3, [[.d (.v (.string ⟨(x7 : List UInt8).toArray⟩)), .d (.list 1 (v19.map (rLst 2 Stp.row)) false), .d (.v (.bool ((andI .u8 x8 1) == 1)))]]⟩), (1, ⟨9, [[.d (.v (.int .i64 x1.cells)), .d (.list 1 (x1.next.map (rLst 1 (rInt .i64))) false), .d (.list 1 (x1.turn.map (rInt .i64)) false), .d (.list 0 [] true), .d (.v (.int .i64 x2)), .d (.v (.bool (x3 == 3))), .d (.list 0 [] true), .d (.v (.int .i64 3)), .d (.v (.int .i64 2))]]⟩), (0, ⟨9, [[.d (.v (.int .i64 0)), .d (.list 0 [] true), .d (.list 0 [] true), .d (.list 0 [] true), .d (.v (.int .i64 0)), .d (.v (.bool false)), .d (.list 0 [] true), .d (.v (.int .i64 0)), .d (.v (.int .i64 0))]]⟩)], 4⟩ ?_ ?_
  ·refine Sm.regionG hF rfl ?_
   refine gv hF (oF (zq z1f)) ?_
   refine gv hF (oL (z4b rfl rfl ag74 rfl)) ?_
   refine gv hF (x := .d (.agg 3 [.v (.string ⟨(x7 : List UInt8).toArray⟩), .list 1 (v19.map (rLst 2 Stp.row)) false, .v (.bool ((andI .u8 x8 1) == 1))])) (oL (zn rfl rfl ag111 sz111 rfl rfl)) ?_
   refine gv hF (x := .d (.list 3 ([(⟨x7, v19, ((andI .u8 x8 1) == 1)⟩ : Knd)].map Knd.row) true)) (oS (zl u74 sz111 ze111 rfl rfl (PartsQ.cons rfl (PartsQ.nil _)) rfl)) ?_
   obtain ⟨x20, hx20, h⟩ := za h
   refine SmG.appendFreshL hF el74 rfl (ys := [(⟨x7, v19, ((andI .u8 x8 1) == 1)⟩ : Knd)]) (row := Knd.row) rfl rfl rfl rfl rfl rfl rfl (.inl rfl) hx20 ?_
   refine gv hF (oF (zq z1f)) ?_
   refine SmG.store hF rfl rfl rfl rfl rfl (zmc (rows' := [[.d (.v (.int .i64 x1.cells)), .d (.list 1 (x1.next.map (rLst 1 (rInt .i64))) false), .d (.list 1 (x1.turn.map (rInt .i64)) false), .sref 4 0 (x20.map Knd.row).length, .d (.v (.int .i64 x2)), .d (.v (.bool (x3 == 3))), .d (.list 0 [] true), .d (.v (.int .i64 3)), .d (.v (.int .i64 2))]]) rfl rfl rfl sz74 rfl rfl rfl) ?_
   refine SmG.nil ?_
   refine zk ?_
   obtain rfl := zb h
   exact (toK ⟨rfl, rfl, rfl, rfl, rfl, trivial⟩ ⟨rfl, rfl, rfl, trivial⟩)
  replace h := hv19
  refine sr hF ?_
  refine gv hF oA ?_
  refine sn ?_
  refine Sm.block ?_
  refine Sm.to (toK (e := [(1, .d (.ptr 12 (GRaw.row a0))), (2, .ref 0 0 0), (3, .ref 1 0 0), (4, .d (.v (.int .i64 v5))), (5, .d (.v (.int .i64 0))), (6, .ref 2 0 0), (7, .d (.v (.int .i64 0)))]) (g := [(2, ⟨3, [[.d (.v (.string ⟨(x7 : List UInt8).toArray⟩)), .d (.list 0 [] true), .d (.v (.bool ((andI .u8 x8 1) == 1)))]]⟩), (1, ⟨9, [[.d (.v (.int .i64 x1.cells)), .d (.list 1 (x1.next.map (rLst 1 (rInt .i64))) false), .d (.list 1 (x1.turn.map (rInt .i64)) false), .d (.list 0 [] true), .d (.v (.int .i64 x2)), .d (.v (.bool (x3 == 3))), .d (.list 0 [] true), .d (.v (.int .i64 3)), .d (.v (.int .i64 2))]]⟩), (0, ⟨9, [[.d (.v (.int .i64 0)), .d (.list 0 [] true), .d (.list 0 [] true), .d (.list 0 [] true), .d (.v (.int .i64 0)), .d (.v (.bool false)), .d (.list 0 [] true), .d (.v (.int .i64 0)), .d (.v (.int .i64 0))]]⟩)]) (m := 3) ⟨rfl, rfl, rfl, rfl, rfl, rfl, rfl, trivial⟩ ⟨rfl, rfl, rfl, trivial⟩) ?_
  refine Sm.ownCell 2 0 1 1 rfl rfl rfl ?_
  refine Sm.loopT (zod a0 x1 x2 v5) (fun s9 => ⟨[(1, .d (.ptr 12 (GRaw.row a0))), (2, .ref 0 0 0), (3, .ref 1 0 0), (4, .d (.v (.int .i64 v5))), (5, .d (.v (.int .i64 0))), (6, .ref 2 0 0), (7, .d (.v (.int .i64 s9.1)))], [(3, dB 1 (s9.2.map (rLst 2 Stp.row))), (2, ⟨3, [[.d (.v (.string ⟨(x7 : List UInt8).toArray⟩)), .sref 3 0 (s9.2.map (rLst 2 Stp.row)).length, .d (.v (.bool ((andI .u8 x8 1) == 1)))]]⟩), (1, ⟨9, [[.d (.v (.int .i64 x1.cells)), .d (.list 1 (x1.next.map (rLst 1 (rInt .i64))) false), .d (.list 1 (x1.turn.map (rInt .i64)) false), .d (.list 0 [] true), .d (.v (.int .i64 x2)), .d (.v (.bool (x3 == 3))), .d (.list 0 [] true), .d (.v (.int .i64 3)), .d (.v (.int .i64 2))]]⟩), (0, ⟨9, [[.d (.v (.int .i64 0)), .d (.list 0 [] true), .d (.list 0 [] true), .d (.list 0 [] true), .d (.v (.int .i64 0)), .d (.v (.bool false)), .d (.list 0 [] true), .d (.v (.int .i64 0)), .d (.v (.int .i64 0))]]⟩)], 4⟩) (0, ([] : List (List Stp))) h (toK ⟨rfl, rfl, rfl, rfl, rfl, rfl, rfl, trivial⟩ ⟨rfl, rfl, rfl, rfl, trivial⟩) ?_
  intro n10 s9 o11 h hd12
  unfold zod at h
  refine Sm.seq ?_
  refine sr hF ?_
  refine gv hF oM ?_
  refine gv hF oM ?_
  refine gv hF (oF (ze z9j rfl)) ?_
  refine gv hF (oI (idxAP u25 sz24 rfl rfl)) ?_
  refine gv hF (oL (lP1 ag24 rfl)) ?_
  refine gv hF (oN (lenQD u24)) ?_
  refine gv hF (oB (c_lss)) ?_
  rcases zzb (decide (s9.1 < (a0.k0.length : Int))) with hc13 | hc13
  ·replace h := ifF hc13 h
   refine gv hF (zj rfl rfl hc13) ?_
   refine gp hF ?_
   refine gp hF ?_
   refine gv hF (zf rfl rfl rfl) ?_
   refine sn ?_
   refine Sm.condF hF rfl ?_
   refine Sm.exit ?_
   replace h := zw h hd12
   obtain rfl := zb h
   exact (St.to_trans (toK (e := [(1, .d (.ptr 12 (GRaw.row a0))), (2, .ref 0 0 0), (3, .ref 1 0 0), (4, .d (.v (.int .i64 v5))), (5, .d (.v (.int .i64 0))), (6, .ref 2 0 0)]) (g := [(3, dB 1 (s9.2.map (rLst 2 Stp.row))), (2, ⟨3, [[.d (.v (.string ⟨(x7 : List UInt8).toArray⟩)), .sref 3 0 (s9.2.map (rLst 2 Stp.row)).length, .d (.v (.bool ((andI .u8 x8 1) == 1)))]]⟩), (1, ⟨9, [[.d (.v (.int .i64 x1.cells)), .d (.list 1 (x1.next.map (rLst 1 (rInt .i64))) false), .d (.list 1 (x1.turn.map (rInt .i64)) false), .d (.list 0 [] true), .d (.v (.int .i64 x2)), .d (.v (.bool (x3 == 3))), .d (.list 0 [] true), .d (.v (.int .i64 3)), .d (.v (.int .i64 2))]]⟩), (0, ⟨9, [[.d (.v (.int .i64 0)), .d (.list 0 [] true), .d (.list 0 [] true), .d (.list 0 [] true), .d (.v (.int .i64 0)), .d (.v (.bool false)), .d (.list 0 [] true), .d (.v (.int .i64 0)), .d (.v (.int .i64 0))]]⟩)]) (m := 4) ⟨rfl, rfl, rfl, rfl, rfl, rfl, trivial⟩ ⟨rfl, rfl, rfl, rfl, trivial⟩) (St.to_frz (l := 3) (sz := 1) (env' := [(1, .d (.ptr 12 (GRaw.row a0))), (2, .ref 0 0 0), (3, .ref 1 0 0), (4, .d (.v (.int .i64 v5))), (5, .d (.v (.int .i64 0))), (6, .ref 2 0 0)]) (h' := [(2, ⟨3, [[.d (.v (.string ⟨(x7 : List UInt8).toArray⟩)), .d (.list 1 (s9.2.map (rLst 2 Stp.row)) false), .d (.v (.bool ((andI .u8 x8 1) == 1)))]]⟩), (1, ⟨9, [[.d (.v (.int .i64 x1.cells)), .d (.list 1 (x1.next.map (rLst 1 (rInt .i64))) false), .d (.list 1 (x1.turn.map (rInt .i64)) false), .d (.list 0 [] true), .d (.v (.int .i64 x2)), .d (.v (.bool (x3 == 3))), .d (.list 0 [] true), .d (.v (.int .i64 3)), .d (.v (.int .i64 2))]]⟩), (0, ⟨9, [[.d (.v (.int .i64 0)), .d (.list 0 [] true), .d (.list 0 [] true), .d (.list 0 [] true), .d (.v (.int .i64 0)), .d (.v (.bool false)), .d (.list 0 [] true), .d (.v (.int .i64 0)), .d (.v (.int .i64 0))]]⟩)]) (nx := 4) (s9.2.map (rLst 2 Stp.row)) rfl ⟨⟨_, rfl, rfl⟩, ⟨_, rfl, rfl⟩, ⟨_, rfl, rfl⟩, ⟨_, rfl, rfl⟩, ⟨_, rfl, rfl⟩, ⟨_, rfl, rfl⟩, trivial⟩ ⟨⟨rfl, _, rfl, zfb (.cons rfl (.cons zjc (.cons rfl .nil)))⟩, ⟨rfl, _, rfl, zfb (.cons rfl (.cons rfl (.cons rfl (.cons rfl (.cons rfl (.cons rfl (.cons rfl (.cons rfl (.cons rfl .nil)))))))))⟩, ⟨rfl, _, rfl, zfb (.cons rfl (.cons rfl (.cons rfl (.cons rfl (.cons rfl (.cons rfl (.cons rfl (.cons rfl (.cons rfl .nil)))))))))⟩, trivial⟩))
  replace h := ifT hc13 h
  refine gv hF (zj rfl rfl hc13) ?_
  refine gv hF oM ?_
  refine gv hF (oB (c_lss)) ?_
  refine gv hF (zu rfl rfl rfl) ?_
  refine sn ?_
  refine Sm.condU hF rfl (fun hc14 => ?_) (fun hc14 => ?_)
  ·replace h := ifF hc14 h
   refine Sm.exit ?_
   replace h := zw h hd12
   obtain rfl := zb h
   exact (St.to_trans (toK (e := [(1, .d (.ptr 12 (GRaw.row a0))), (2, .ref 0 0 0), (3, .ref 1 0 0), (4, .d (.v (.int .i64 v5))), (5, .d (.v (.int .i64 0))), (6, .ref 2 0 0)]) (g := [(3, dB 1 (s9.2.map (rLst 2 Stp.row))), (2, ⟨3, [[.d (.v (.string ⟨(x7 : List UInt8).toArray⟩)), .sref 3 0 (s9.2.map (rLst 2 Stp.row)).length, .d (.v (.bool ((andI .u8 x8 1) == 1)))]]⟩), (1, ⟨9, [[.d (.v (.int .i64 x1.cells)), .d (.list 1 (x1.next.map (rLst 1 (rInt .i64))) false), .d (.list 1 (x1.turn.map (rInt .i64)) false), .d (.list 0 [] true), .d (.v (.int .i64 x2)), .d (.v (.bool (x3 == 3))), .d (.list 0 [] true), .d (.v (.int .i64 3)), .d (.v (.int .i64 2))]]⟩), (0, ⟨9, [[.d (.v (.int .i64 0)), .d (.list 0 [] true), .d (.list 0 [] true), .d (.list 0 [] true), .d (.v (.int .i64 0)), .d (.v (.bool false)), .d (.list 0 [] true), .d (.v (.int .i64 0)), .d (.v (.int .i64 0))]]⟩)]) (m := 4) ⟨rfl, rfl, rfl, rfl, rfl, rfl, trivial⟩ ⟨rfl, rfl, rfl, rfl, trivial⟩) (St.to_frz (l := 3) (sz := 1) (env' := [(1, .d (.ptr 12 (GRaw.row a0))), (2, .ref 0 0 0), (3, .ref 1 0 0), (4, .d (.v (.int .i64 v5))), (5, .d (.v (.int .i64 0))), (6, .ref 2 0 0)]) (h' := [(2, ⟨3, [[.d (.v (.string ⟨(x7 : List UInt8).toArray⟩)), .d (.list 1 (s9.2.map (rLst 2 Stp.row)) false), .d (.v (.bool ((andI .u8 x8 1) == 1)))]]⟩), (1, ⟨9, [[.d (.v (.int .i64 x1.cells)), .d (.list 1 (x1.next.map (rLst 1 (rInt .i64))) false), .d (.list 1 (x1.turn.map (rInt .i64)) false), .d (.list 0 [] true), .d (.v (.int .i64 x2)), .d (.v (.bool (x3 == 3))), .d (.list 0 [] true), .d (.v (.int .i64 3)), .d (.v (.int .i64 2))]]⟩), (0, ⟨9, [[.d (.v (.int .i64 0)), .d (.list 0 [] true), .d (.list 0 [] true), .d (.list 0 [] true), .d (.v (.int .i64 0)), .d (.v (.bool false)), .d (.list 0 [] true), .d (.v (.int .i64 0)), .d (.v (.int .i64 0))]]⟩)]) (nx := 4) (s9.2.map (rLst 2 Stp.row)) rfl ⟨⟨_, rfl, rfl⟩, ⟨_, rfl, rfl⟩, ⟨_, rfl, rfl⟩, ⟨_, rfl, rfl⟩, ⟨_, rfl, rfl⟩, ⟨_, rfl, rfl⟩, trivial⟩ ⟨⟨rfl, _, rfl, zfb (.cons rfl (.cons zjc (.cons rfl .nil)))⟩, ⟨rfl, _, rfl, zfb (.cons rfl (.cons rfl (.cons rfl (.cons rfl (.cons rfl (.cons rfl (.cons rfl (.cons rfl (.cons rfl .nil)))))))))⟩, ⟨rfl, _, rfl, zfb (.cons rfl (.cons rfl (.cons rfl (.cons rfl (.cons rfl (.cons rfl (.cons rfl (.cons rfl (.cons rfl .nil)))))))))⟩, trivial⟩))
  replace h := ifT hc14 h
  refine sk ?_
  refine Sm.seq ?_
  refine Sm.block ?_
  refine Sm.drawG hF (by kernel_rfl) rfl 18 (by kernel_rfl) (by kernel_rfl) ?_
  simp only [List.take_succ_cons, List.take_zero, List.take_nil]
  refine hv hF (oF (zq z7l)) ?_
  refine hv hF (oL (z4b rfl rfl ag109 rfl)) ?_
  refine hv hF oM ?_
  refine hv hF (oF (ze z9j rfl)) ?_
  refine hv hF (oI (idxAP u25 sz24 rfl rfl)) ?_
  refine hv hF (oL (lP1 ag24 rfl)) ?_
  refine hv hF oM ?_
  obtain ⟨x15, hx15, h⟩ := za h
  refine hv hF (oI (idxQD u24 sz5 hx15)) ?_
  refine hv hF (oL (lP1 ag5 rfl)) ?_
  refine hv hF (oF (zq z4j)) ?_
  refine hv hF (oF (zq zfi)) ?_
  refine hv hF (oL (z4b rfl rfl ag71 rfl)) ?_
  refine hv hF (oN (lenQD u71)) ?_
  refine hv hF oM ?_
  refine hv hF (oF (zq zmp)) ?_
  refine hv hF (oL (z4b rfl rfl ag3 rfl)) ?_
  obtain ⟨x16, hx16, h⟩ := za h
  refine Head.c hF rfl rfl (by kernel_rfl) rfl rfl rfl (zgh hx16) ?_
  refine hv hF (x := .d (.list 1 ([x16].map (rLst 2 Stp.row)) true)) (oS (zl u109 sz115 ze115 rfl rfl (PartsQ.cons rfl (PartsQ.nil _)) rfl)) ?_
  refine Head.last ⟨rfl, ?_⟩
  simp only [List.drop_succ_cons, List.drop_zero, List.drop_nil, List.nil_append, List.cons_append]
  refine SmG.toX (St.to_weak (env' := [(1, .d (.ptr 12 (GRaw.row a0))), (2, .ref 0 0 0), (3, .ref 1 0 0), (4, .d (.v (.int .i64 v5))), (5, .d (.v (.int .i64 0))), (6, .ref 2 0 0), (7, .d (.v (.int .i64 s9.1))), (58, .d (.v (.int .i64 s9.1))), (59, .d (.v (.bool (decide (s9.1 < 4))))), (64, .sref 3 0 (s9.2.map (rLst 2 Stp.row)).length), (80, .d (.list 1 ([x16].map (rLst 2 Stp.row)) true))]) (h' := [(3, dB 1 (s9.2.map (rLst 2 Stp.row))), (2, ⟨3, [[.d (.v (.string ⟨(x7 : List UInt8).toArray⟩)), .any, .d (.v (.bool ((andI .u8 x8 1) == 1)))]]⟩), (1, ⟨9, [[.d (.v (.int .i64 x1.cells)), .d (.list 1 (x1.next.map (rLst 1 (rInt .i64))) false), .d (.list 1 (x1.turn.map (rInt .i64)) false), .d (.list 0 [] true), .d (.v (.int .i64 x2)), .d (.v (.bool (x3 == 3))), .d (.list 0 [] true), .d (.v (.int .i64 3)), .d (.v (.int .i64 2))]]⟩), (0, ⟨9, [[.d (.v (.int .i64 0)), .d (.list 0 [] true), .d (.list 0 [] true), .d (.list 0 [] true), .d (.v (.int .i64 0)), .d (.v (.bool false)), .d (.list 0 [] true), .d (.v (.int .i64 0)), .d (.v (.int .i64 0))]]⟩)]) (nx' := 4) ⟨⟨_, rfl, V.le.refl _⟩, ⟨_, rfl, V.le.refl _⟩, ⟨_, rfl, V.le.refl _⟩, ⟨_, rfl, V.le.refl _⟩, ⟨_, rfl, V.le.refl _⟩, ⟨_, rfl, V.le.refl _⟩, ⟨_, rfl, V.le.refl _⟩, ⟨_, rfl, V.le.refl _⟩, ⟨_, rfl, V.le.refl _⟩, ⟨_, rfl, V.le.refl _⟩, ⟨_, rfl, V.le.refl _⟩, trivial⟩ ⟨⟨_, rfl, BlkR.refl _⟩, ⟨_, rfl, BlkR.row (.cons (V.le.refl _) (.cons (V.le.any _) (.cons (V.le.refl _) .nil)))⟩, ⟨_, rfl, BlkR.refl _⟩, ⟨_, rfl, BlkR.refl _⟩, trivial⟩ (Nat.le_of_ble_eq_true rfl)) rfl ?_
  obtain ⟨x17, hx17, h⟩ := za h
  refine SmG.appendOwnL hF el109 rfl (ys := [x16]) (row := (rLst 2 Stp.row)) rfl rfl rfl rfl rfl rfl rfl rfl (.inl rfl) hx17 (by (repeat' first | exact zqb _ | refine zib ?_ | refine zi ?_ (z6 _ _ _) | refine zi ?_ (z6 _ _ [_]) | refine zi ?_ (z2b (by rfl)))) ?_
  refine gv hF (oF (zq z7l)) ?_
  refine SmG.store hF rfl rfl rfl rfl rfl (zmc (rows' := [[.d (.v (.string ⟨(x7 : List UInt8).toArray⟩)), .sref 3 0 (x17.map (rLst 2 Stp.row)).length, .d (.v (.bool ((andI .u8 x8 1) == 1)))]]) rfl rfl rfl sz109 rfl rfl rfl) ?_
  refine SmG.nil ?_
  refine zk ?_
  refine zd ?_
  refine Sm.regionG hF rfl ?_
  refine gv hF oM ?_
  obtain ⟨x18, hx18, h⟩ := za h
  refine gv hF (oB (z7 hx18)) ?_
  refine gv hF oA ?_
  refine SmG.nil ?_
  exact ztb (zhb h hd12) (toK ⟨rfl, rfl, rfl, rfl, rfl, rfl, rfl, trivial⟩ ⟨rfl, rfl, rfl, rfl, trivial⟩)
 refine Sm.regionG hF rfl ?_
 refine gv hF oM ?_
 refine gv hF (oB (z7 (v := 1) rfl)) ?_
 refine gv hF oA ?_
 refine sn ?_
 refine zrh ?_
 refine Sm.seq ?_
 refine sr hF ?_
 refine gv hF oM ?_
 refine gv hF oM ?_
 refine gv hF (oB (c_lss)) ?_
 refine sn ?_
 refine Sm.condU hF rfl (fun hc22 => ?_) (fun hc22 => ?_)
 ·replace h := ifF hc22 h
  refine Sm.exit ?_
  obtain rfl := zb h
  exact (St.to_trans (toK (e := [(1, .d (.ptr 12 (GRaw.row a0))), (2, .ref 0 0 0), (3, .ref 1 0 0), (4, .d (.v (.int .i64 v5)))]) (g := [(4, dB 3 (v21.map Knd.row)), (1, ⟨9, [[.d (.v (.int .i64 x1.cells)), .d (.list 1 (x1.next.map (rLst 1 (rInt .i64))) false), .d (.list 1 (x1.turn.map (rInt .i64)) false), .sref 4 0 (v21.map Knd.row).length, .d (.v (.int .i64 x2)), .d (.v (.bool (x3 == 3))), .d (.list 0 [] true), .d (.v (.int .i64 3)), .d (.v (.int .i64 2))]]⟩), (0, ⟨9, [[.d (.v (.int .i64 0)), .d (.list 0 [] true), .d (.list 0 [] true), .d (.list 0 [] true), .d (.v (.int .i64 0)), .d (.v (.bool false)), .d (.list 0 [] true), .d (.v (.int .i64 0)), .d (.v (.int .i64 0))]]⟩)]) (m := 5) ⟨rfl, rfl, rfl, rfl, trivial⟩ ⟨rfl, rfl, rfl, trivial⟩) (St.to_trans (St.to_frz (l := 4) (sz := 3) (env' := [(1, .d (.ptr 12 (GRaw.row a0))), (2, .ref 0 0 0), (3, .ref 1 0 0), (4, .d (.v (.int .i64 v5)))]) (h' := [(1, ⟨9, [[.d (.v (.int .i64 x1.cells)), .d (.list 1 (x1.next.map (rLst 1 (rInt .i64))) false), .d (.list 1 (x1.turn.map (rInt .i64)) false), .d (.list 3 (v21.map Knd.row) false), .d (.v (.int .i64 x2)), .d (.v (.bool (x3 == 3))), .d (.list 0 [] true), .d (.v (.int .i64 3)), .d (.v (.int .i64 2))]]⟩), (0, ⟨9, [[.d (.v (.int .i64 0)), .d (.list 0 [] true), .d (.list 0 [] true), .d (.list 0 [] true), .d (.v (.int .i64 0)), .d (.v (.bool false)), .d (.list 0 [] true), .d (.v (.int .i64 0)), .d (.v (.int .i64 0))]]⟩)]) (nx := 5) (v21.map Knd.row) rfl ⟨⟨_, rfl, rfl⟩, ⟨_, rfl, rfl⟩, ⟨_, rfl, rfl⟩, ⟨_, rfl, rfl⟩, trivial⟩ ⟨⟨rfl, _, rfl, zfb (.cons rfl (.cons rfl (.cons rfl (.cons zjc (.cons rfl (.cons rfl (.cons rfl (.cons rfl (.cons rfl .nil)))))))))⟩, ⟨rfl, _, rfl, zfb (.cons rfl (.cons rfl (.cons rfl (.cons rfl (.cons rfl (.cons rfl (.cons rfl (.cons rfl (.cons rfl .nil)))))))))⟩, trivial⟩) (toK ⟨rfl, rfl, rfl, rfl, trivial⟩ ⟨rfl, rfl, trivial⟩)))
 replace h := ifT hc22 h
 refine sk ?_
 refine Sm.seq ?_
 obtain ⟨v37, hv37, h⟩ := za h
 refine Sm.joinT ⟨[(1, .d (.ptr 12 (GRaw.row a0))), (2, .ref 0 0 0), (3, .ref 1 0 0), (4, .d (.v (.int .i64 v5))), (5, .d (.v (.int .i64 1)))], [(4, dB 3 (v37.map Knd.row)), (1, ⟨9, [[.d (.v (.int .i64 x1.cells)), .d (.list 1 (x1.next.map (rLst 1 (rInt .i64))) false), .d (.list 1 (x1.turn.map (rInt .i64)) false), .sref 4 0 (v37.map Knd.row).length, .d (.v (.int .i64 x2)), .d (.v (.bool (x3 == 3))), .d (.list 0 [] true), .d (.v (.int .i64 3)), .d (.v (.int .i64 2))]]⟩), (0, ⟨9, [[.d (.v (.int .i64 0)), .d (.list 0 [] true), .d (.list 0 [] true), .d (.list 0 [] true), .d (.v (.int .i64 0)), .d (.v (.bool false)), .d (.list 0 [] true), .d (.v (.int .i64 0)), .d (.v (.int .i64 0))]]⟩)], 7⟩ ?_ ?_
 ·refine Sm.regionG hF rfl ?_
  refine gv hF oM ?_
  refine gv hF (oB (z7 (v := 2) rfl)) ?_
  refine gv hF oA ?_
  refine sn ?_
  refine zrh ?_
  refine Sm.seq ?_
  refine sr hF ?_
  refine gv hF oM ?_
  refine gv hF oM ?_
  refine gv hF (oB (c_lss)) ?_
  refine sn ?_
  refine Sm.condU hF rfl (fun hc38 => ?_) (fun hc38 => ?_)
  ·replace h := ifF hc38 h
   refine Sm.exit ?_
   obtain rfl := zb h
   exact (St.to_trans (toK (e := [(1, .d (.ptr 12 (GRaw.row a0))), (2, .ref 0 0 0), (3, .ref 1 0 0), (4, .d (.v (.int .i64 v5)))]) (g := [(4, dB 3 (v37.map Knd.row)), (1, ⟨9, [[.d (.v (.int .i64 x1.cells)), .d (.list 1 (x1.next.map (rLst 1 (rInt .i64))) false), .d (.list 1 (x1.turn.map (rInt .i64)) false), .sref 4 0 (v37.map Knd.row).length, .d (.v (.int .i64 x2)), .d (.v (.bool (x3 == 3))), .d (.list 0 [] true), .d (.v (.int .i64 3)), .d (.v (.int .i64 2))]]⟩), (0, ⟨9, [[.d (.v (.int .i64 0)), .d (.list 0 [] true), .d (.list 0 [] true), .d (.list 0 [] true), .d (.v (.int .i64 0)), .d (.v (.bool false)), .d (.list 0 [] true), .d (.v (.int .i64 0)), .d (.v (.int .i64 0))]]⟩)]) (m := 7) ⟨rfl, rfl, rfl, rfl, trivial⟩ ⟨rfl, rfl, rfl, trivial⟩) (St.to_frz (l := 4) (sz := 3) (env' := [(1, .d (.ptr 12 (GRaw.row a0))), (2, .ref 0 0 0), (3, .ref 1 0 0), (4, .d (.v (.int .i64 v5)))]) (h' := [(1, ⟨9, [[.d (.v (.int .i64 x1.cells)), .d (.list 1 (x1.next.map (rLst 1 (rInt .i64))) false), .d (.list 1 (x1.turn.map (rInt .i64)) false), .d (.list 3 (v37.map Knd.row) false), .d (.v (.int .i64 x2)), .d (.v (.bool (x3 == 3))), .d (.list 0 [] true), .d (.v (.int .i64 3)), .d (.v (.int .i64 2))]]⟩), (0, ⟨9, [[.d (.v (.int .i64 0)), .d (.list 0 [] true), .d (.list 0 [] true), .d (.list 0 [] true), .d (.v (.int .i64 0)), .d (.v (.bool false)), .d (.list 0 [] true), .d (.v (.int .i64 0)), .d (.v (.int .i64 0))]]⟩)]) (nx := 7) (v37.map Knd.row) rfl ⟨⟨_, rfl, rfl⟩, ⟨_, rfl, rfl⟩, ⟨_, rfl, rfl⟩, ⟨_, rfl, rfl⟩, trivial⟩ ⟨⟨rfl, _, rfl, zfb (.cons rfl (.cons rfl (.cons rfl (.cons zjc (.cons rfl (.cons rfl (.cons rfl (.cons rfl (.cons rfl .nil)))))))))⟩, ⟨rfl, _, rfl, zfb (.cons rfl (.cons rfl (.cons rfl (.cons rfl (.cons rfl (.cons rfl (.cons rfl (.cons rfl (.cons rfl .nil)))))))))⟩, trivial⟩))
  replace h := ifT hc38 h
  refine sk ?_
  refine Sm.seq ?_
  refine Sm.block ?_
  refine Sm.seq ?_
  refine Sm.drawG hF (by kernel_rfl) rfl 13 (by kernel_rfl) (by kernel_rfl) ?_
  simp only [List.take_succ_cons, List.take_zero, List.take_nil]
  refine hv hF (x := .d (.list 1 ([([97] : List UInt8), ([98, 101, 101] : List UInt8)].map z5p) true)) (oS (zl u113 sz9 ze9 rfl rfl (PartsQ.cons rfl (PartsQ.cons rfl (PartsQ.nil _))) rfl)) ?_
  refine hv hF oM ?_
  obtain ⟨x39, hx39, h⟩ := za h
  refine hv hF (oI (idxQD u113 sz9 hx39)) ?_
  refine hv hF (oL (lP1 ag9 rfl)) ?_
  refine hv hF (oF (ze zdh rfl)) ?_
  refine hv hF (oI (idxAP u27 sz5 rfl rfl)) ?_
  refine hv hF (oL (lP1 ag5 rfl)) ?_
  refine hv hF oM ?_
  obtain ⟨x40, hx40, h⟩ := za h
  refine hv hF (oB (zfh hx40)) ?_
  refine hv hF (oB zop) ?_
  refine hv hF (oB (c_eql)) ?_
  refine hv hF (x := .d (.agg 3 [.v (.string ⟨(x39 : List UInt8).toArray⟩), .list 0 [] true, .v (.bool ((andI .u8 x40 1) == 1))])) (zz rfl u111 (by kernel_rfl) rfl (z8 (n := 3) ze111 pl111 rfl rfl)) ?_
  refine Head.new hF rfl rfl rfl rfl al111 ?_
  refine Head.last ⟨rfl, ?_⟩
  simp only [List.drop_succ_cons, List.drop_zero, List.drop_nil, List.nil_append, List.cons_append]
  refine SmG.store hF rfl rfl rfl rfl rfl (zy (ys := [.d (.v (.string ⟨(x39 : List UInt8).toArray⟩)), .d (.list 0 [] true), .d (.v (.bool ((andI .u8 x40 1) == 1)))]) (r := [.d (.v (.string ⟨([] : List UInt8).toArray⟩)), .d (.list 0 [] true), .d (.v (.bool false))]) (rows' := [[.d (.v (.string ⟨(x39 : List UInt8).toArray⟩)), .d (.list 0 [] true), .d (.v (.bool ((andI .u8 x40 1) == 1)))]]) rfl rfl rfl sz111 rfl rfl rfl rfl rfl) ?_
  refine sn ?_
  refine Sm.seq ?_
  refine sr hF ?_
  refine gv hF oA ?_
  refine sn ?_
  refine Sm.block ?_
  refine Sm.loopT (zrf) (fun s41 => ⟨[(1, .d (.ptr 12 (GRaw.row a0))), (2, .ref 0 0 0), (3, .ref 1 0 0), (4, .d (.v (.int .i64 v5))), (5, .d (.v (.int .i64 2))), (6, .ref 7 0 0), (7, .d (.v (.int .i64 s41)))], [(7, ⟨3, [[.d (.v (.string ⟨(x39 : List UInt8).toArray⟩)), .d (.list 0 [] true), .d (.v (.bool ((andI .u8 x40 1) == 1)))]]⟩), (4, dB 3 (v37.map Knd.row)), (1, ⟨9, [[.d (.v (.int .i64 x1.cells)), .d (.list 1 (x1.next.map (rLst 1 (rInt .i64))) false), .d (.list 1 (x1.turn.map (rInt .i64)) false), .sref 4 0 (v37.map Knd.row).length, .d (.v (.int .i64 x2)), .d (.v (.bool (x3 == 3))), .d (.list 0 [] true), .d (.v (.int .i64 3)), .d (.v (.int .i64 2))]]⟩), (0, ⟨9, [[.d (.v (.int .i64 0)), .d (.list 0 [] true), .d (.list 0 [] true), .d (.list 0 [] true), .d (.v (.int .i64 0)), .d (.v (.bool false)), .d (.list 0 [] true), .d (.v (.int .i64 0)), .d (.v (.int .i64 0))]]⟩)], 8⟩) 0 h (toK ⟨rfl, rfl, rfl, rfl, rfl, rfl, rfl, trivial⟩ ⟨rfl, rfl, rfl, rfl, trivial⟩) ?_
  intro n42 s41 o43 h hd44
  unfold zrf at h
  refine Sm.seq ?_
  refine sr hF ?_
  refine gv hF oM ?_
  refine gv hF oM ?_
  refine gv hF (oF (ze z9j rfl)) ?_
  cases h
 replace h := hv37
 refine Sm.block ?_
 refine Sm.seq ?_
 refine Sm.drawG hF (by kernel_rfl) rfl 13 (by kernel_rfl) (by kernel_rfl) ?_
 simp only [List.take_succ_cons, List.take_zero, List.take_nil]
 refine hv hF (x := .d (.list 1 ([([97] : List UInt8), ([98, 101, 101] : List UInt8)].map z5p) true)) (oS (zl u113 sz9 ze9 rfl rfl (PartsQ.cons rfl (PartsQ.cons rfl (PartsQ.nil _))) rfl)) ?_
 refine hv hF oM ?_
 obtain ⟨x23, hx23, h⟩ := za h
 refine hv hF (oI (idxQD u113 sz9 hx23)) ?_
 refine hv hF (oL (lP1 ag9 rfl)) ?_
 refine hv hF (oF (ze zdh rfl)) ?_
 refine hv hF (oI (idxAP u27 sz5 rfl rfl)) ?_
 refine hv hF (oL (lP1 ag5 rfl)) ?_
 refine hv hF oM ?_
 obtain ⟨x24, hx24, h⟩ := za h
 refine hv hF (oB (zfh hx24)) ?_
 refine hv hF (oB zop) ?_
 refine hv hF (oB (c_eql)) ?_
 refine hv hF (x := .d (.agg 3 [.v (.string ⟨(x23 : List UInt8).toArray⟩), .list 0 [] true, .v (.bool ((andI .u8 x24 1) == 1))])) (zz rfl u111 (by kernel_rfl) rfl (z8 (n := 3) ze111 pl111 rfl rfl)) ?_
 refine Head.new hF rfl rfl rfl rfl al111 ?_
 refine Head.last ⟨rfl, ?_⟩
 simp only [List.drop_succ_cons, List.drop_zero, List.drop_nil, List.nil_append, List.cons_append]
 refine SmG.store hF rfl rfl rfl rfl rfl (zy (ys := [.d (.v (.string ⟨(x23 : List UInt8).toArray⟩)), .d (.list 0 [] true), .d (.v (.bool ((andI .u8 x24 1) == 1)))]) (r := [.d (.v (.string ⟨([] : List UInt8).toArray⟩)), .d (.list 0 [] true), .d (.v (.bool false))]) (rows' := [[.d (.v (.string ⟨(x23 : List UInt8).toArray⟩)), .d (.list 0 [] true), .d (.v (.bool ((andI .u8 x24 1) == 1)))]]) rfl rfl rfl sz111 rfl rfl rfl rfl rfl) ?_
 refine sn ?_
 refine Sm.seq ?_
 obtain ⟨v35, hv35, h⟩ := za h
 refine Sm.joinT ⟨[(1, .d (.ptr 12 (GRaw.row a0))), (2, .ref 0 0 0), (3, .ref 1 0 0), (4, .d (.v (.int .i64 v5))), (5, .d (.v (.int .i64 1))), (6, .ref 5 0 0)], [(5, ⟨3, [[.d (.v (.string ⟨(x23 : List UInt8).toArray⟩)), .d (.list 1 (v35.map (rLst 2 Stp.row)) false), .d (.v (.bool ((andI .u8 x24 1) == 1)))]]⟩), (4, dB 3 (v21.map Knd.row)), (1, ⟨9, [[.d (.v (.int .i64 x1.cells)), .d (.list 1 (x1.next.map (rLst 1 (rInt .i64))) false), .d (.list 1 (x1.turn.map (rInt .i64)) false), .sref 4 0 (v21.map Knd.row).length, .d (.v (.int .i64 x2)), .d (.v (.bool (x3 == 3))), .d (.list 0 [] true), .d (.v (.int .i64 3)), .d (.v (.int .i64 2))]]⟩), (0, ⟨9, [[.d (.v (.int .i64 0)), .d (.list 0 [] true), .d (.list 0 [] true), .d (.list 0 [] true), .d (.v (.int .i64 0)), .d (.v (.bool false)), .d (.list 0 [] true), .d (.v (.int .i64 0)), .d (.v (.int .i64 0))]]⟩)], 7⟩ ?_ ?_
 ·refine Sm.regionG hF rfl ?_
  refine gv hF (oF (zq z1f)) ?_
  refine gv hF (oL (z4b rfl rfl ag74 rfl)) ?_
  refine gv hF (x := .d (.agg 3 [.v (.string ⟨(x23 : List UInt8).toArray⟩), .list 1 (v35.map (rLst 2 Stp.row)) false, .v (.bool ((andI .u8 x24 1) == 1))])) (oL (zn rfl rfl ag111 sz111 rfl rfl)) ?_
  refine gv hF (x := .d (.list 3 ([(⟨x23, v35, ((andI .u8 x24 1) == 1)⟩ : Knd)].map Knd.row) true)) (oS (zl u74 sz111 ze111 rfl rfl (PartsQ.cons rfl (PartsQ.nil _)) rfl)) ?_
  refine SmG.toX (St.to_weak (env' := [(1, .d (.ptr 12 (GRaw.row a0))), (2, .ref 0 0 0), (3, .ref 1 0 0), (4, .d (.v (.int .i64 v5))), (5, .d (.v (.int .i64 1))), (84, .sref 4 0 (v21.map Knd.row).length), (86, .d (.list 3 ([(⟨x23, v35, ((andI .u8 x24 1) == 1)⟩ : Knd)].map Knd.row) true))]) (h' := [(4, dB 3 (v21.map Knd.row)), (1, ⟨9, [[.d (.v (.int .i64 x1.cells)), .d (.list 1 (x1.next.map (rLst 1 (rInt .i64))) false), .d (.list 1 (x1.turn.map (rInt .i64)) false), .any, .d (.v (.int .i64 x2)), .d (.v (.bool (x3 == 3))), .d (.list 0 [] true), .d (.v (.int .i64 3)), .d (.v (.int .i64 2))]]⟩), (0, ⟨9, [[.d (.v (.int .i64 0)), .d (.list 0 [] true), .d (.list 0 [] true), .d (.list 0 [] true), .d (.v (.int .i64 0)), .d (.v (.bool false)), .d (.list 0 [] true), .d (.v (.int .i64 0)), .d (.v (.int .i64 0))]]⟩)]) (nx' := 7) ⟨⟨_, rfl, V.le.refl _⟩, ⟨_, rfl, V.le.refl _⟩, ⟨_, rfl, V.le.refl _⟩, ⟨_, rfl, V.le.refl _⟩, ⟨_, rfl, V.le.refl _⟩, ⟨_, rfl, V.le.refl _⟩, ⟨_, rfl, V.le.refl _⟩, trivial⟩ ⟨⟨_, rfl, BlkR.refl _⟩, ⟨_, rfl, BlkR.row (.cons (V.le.refl _) (.cons (V.le.refl _) (.cons (V.le.refl _) (.cons (V.le.any _) (.cons (V.le.refl _) (.cons (V.le.refl _) (.cons (V.le.refl _) (.cons (V.le.refl _) (.cons (V.le.refl _) .nil)))))))))⟩, ⟨_, rfl, BlkR.refl _⟩, trivial⟩ (Nat.le_of_ble_eq_true rfl)) rfl ?_
  obtain ⟨x36, hx36, h⟩ := za h
  refine SmG.appendOwnL hF el74 rfl (ys := [(⟨x23, v35, ((andI .u8 x24 1) == 1)⟩ : Knd)]) (row := Knd.row) rfl rfl rfl rfl rfl rfl rfl rfl (.inl rfl) hx36 (by (repeat' first | exact zqb _ | refine zib ?_ | refine zi ?_ (z6 _ _ _) | refine zi ?_ (z6 _ _ [_]) | refine zi ?_ (z2b (by rfl)))) ?_
  refine gv hF (oF (zq z1f)) ?_
  refine SmG.store hF rfl rfl rfl rfl rfl (zmc (rows' := [[.d (.v (.int .i64 x1.cells)), .d (.list 1 (x1.next.map (rLst 1 (rInt .i64))) false), .d (.list 1 (x1.turn.map (rInt .i64)) false), .sref 4 0 (x36.map Knd.row).length, .d (.v (.int .i64 x2)), .d (.v (.bool (x3 == 3))), .d (.list 0 [] true), .d (.v (.int .i64 3)), .d (.v (.int .i64 2))]]) rfl rfl rfl sz74 rfl rfl rfl) ?_
  refine SmG.nil ?_
  refine zk ?_
  obtain rfl := zb h
  exact (toK ⟨rfl, rfl, rfl, rfl, rfl, trivial⟩ ⟨rfl, rfl, rfl, trivial⟩)
 replace h := hv35
 refine sr hF ?_
 refine gv hF oA ?_
 refine sn ?_
 refine Sm.block ?_
 refine Sm.to (toK (e := [(1, .d (.ptr 12 (GRaw.row a0))), (2, .ref 0 0 0), (3, .ref 1 0 0), (4, .d (.v (.int .i64 v5))), (5, .d (.v (.int .i64 1))), (6, .ref 5 0 0), (7, .d (.v (.int .i64 0)))]) (g := [(5, ⟨3, [[.d (.v (.string ⟨(x23 : List UInt8).toArray⟩)), .d (.list 0 [] true), .d (.v (.bool ((andI .u8 x24 1) == 1)))]]⟩), (4, dB 3 (v21.map Knd.row)), (1, ⟨9, [[.d (.v (.int .i64 x1.cells)), .d (.list 1 (x1.next.map (rLst 1 (rInt .i64))) false), .d (.list 1 (x1.turn.map (rInt .i64)) false), .sref 4 0 (v21.map Knd.row).length, .d (.v (.int .i64 x2)), .d (.v (.bool (x3 == 3))), .d (.list 0 [] true), .d (.v (.int .i64 3)), .d (.v (.int .i64 2))]]⟩), (0, ⟨9, [[.d (.v (.int .i64 0)), .d (.list 0 [] true), .d (.list 0 [] true), .d (.list 0 [] true), .d (.v (.int .i64 0)), .d (.v (.bool false)), .d (.list 0 [] true), .d (.v (.int .i64 0)), .d (.v (.int .i64 0))]]⟩)]) (m := 6) ⟨rfl, rfl, rfl, rfl, rfl, rfl, rfl, trivial⟩ ⟨rfl, rfl, rfl, rfl, trivial⟩) ?_
 refine Sm.ownCell 5 0 1 1 rfl rfl rfl ?_
 refine Sm.loopT (zyd a0 x1 x2 v5) (fun s25 => ⟨[(1, .d (.ptr 12 (GRaw.row a0))), (2, .ref 0 0 0), (3, .ref 1 0 0), (4, .d (.v (.int .i64 v5))), (5, .d (.v (.int .i64 1))), (6, .ref 5 0 0), (7, .d (.v (.int .i64 s25.1)))], [(6, dB 1 (s25.2.map (rLst 2 Stp.row))), (5, ⟨3, [[.d (.v (.string ⟨(x23 : List UInt8).toArray⟩)), .sref 6 0 (s25.2.map (rLst 2 Stp.row)).length, .d (.v (.bool ((andI .u8 x24 1) == 1)))]]⟩), (4, dB 3 (v21.map Knd.row)), (1, ⟨9, [[.d (.v (.int .i64 x1.cells)), .d (.list 1 (x1.next.map (rLst 1 (rInt .i64))) false), .d (.list 1 (x1.turn.map (rInt .i64)) false), .sref 4 0 (v21.map Knd.row).length, .d (.v (.int .i64 x2)), .d (.v (.bool (x3 == 3))), .d (.list 0 [] true), .d (.v (.int .i64 3)), .d (.v (.int .i64 2))]]⟩), (0, ⟨9, [[.d (.v (.int .i64 0)), .d (.list 0 [] true), .d (.list 0 [] true), .d (.list 0 [] true), .d (.v (.int .i64 0)), .d (.v (.bool false)), .d (.list 0 [] true), .d (.v (.int .i64 0)), .d (.v (.int .i64 0))]]⟩)], 7⟩) (0, ([] : List (List Stp))) h (toK ⟨rfl, rfl, rfl, rfl, rfl, rfl, rfl, trivial⟩ ⟨rfl, rfl, rfl, rfl, rfl, trivial⟩) ?_
 intro n26 s25 o27 h hd28
 unfold zyd at h
 refine Sm.seq ?_
 refine sr hF ?_
 refine gv hF oM ?_
 refine gv hF oM ?_
 refine gv hF (oF (ze z9j rfl)) ?_
 refine gv hF (oI (idxAP u25 sz24 rfl rfl)) ?_
 refine gv hF (oL (lP1 ag24 rfl)) ?_
 refine gv hF (oN (lenQD u24)) ?_
 refine gv hF (oB (c_lss)) ?_
 rcases zzb (decide (s25.1 < (a0.k1.length : Int))) with hc29 | hc29
 ·replace h := ifF hc29 h
  refine gv hF (zj rfl rfl hc29) ?_
  refine gp hF ?_
  refine gp hF ?_
  refine gv hF (zf rfl rfl rfl) ?_
  refine sn ?_
  refine Sm.condF hF rfl ?_
  refine Sm.exit ?_
  replace h := zw h hd28
  obtain rfl := zb h
  exact (St.to_trans (toK (e := [(1, .d (.ptr 12 (GRaw.row a0))), (2, .ref 0 0 0), (3, .ref 1 0 0), (4, .d (.v (.int .i64 v5))), (5, .d (.v (.int .i64 1))), (6, .ref 5 0 0)]) (g := [(6, dB 1 (s25.2.map (rLst 2 Stp.row))), (5, ⟨3, [[.d (.v (.string ⟨(x23 : List UInt8).toArray⟩)), .sref 6 0 (s25.2.map (rLst 2 Stp.row)).length, .d (.v (.bool ((andI .u8 x24 1) == 1)))]]⟩), (4, dB 3 (v21.map Knd.row)), (1, ⟨9, [[.d (.v (.int .i64 x1.cells)), .d (.list 1 (x1.next.map (rLst 1 (rInt .i64))) false), .d (.list 1 (x1.turn.map (rInt .i64)) false), .sref 4 0 (v21.map Knd.row).length, .d (.v (.int .i64 x2)), .d (.v (.bool (x3 == 3))), .d (.list 0 [] true), .d (.v (.int .i64 3)), .d (.v (.int .i64 2))]]⟩), (0, ⟨9, [[.d (.v (.int .i64 0)), .d (.list 0 [] true), .d (.list 0 [] true), .d (.list 0 [] true), .d (.v (.int .i64 0)), .d (.v (.bool false)), .d (.list 0 [] true), .d (.v (.int .i64 0)), .d (.v (.int .i64 0))]]⟩)]) (m := 7) ⟨rfl, rfl, rfl, rfl, rfl, rfl, trivial⟩ ⟨rfl, rfl, rfl, rfl, rfl, trivial⟩) (St.to_frz (l := 6) (sz := 1) (env' := [(1, .d (.ptr 12 (GRaw.row a0))), (2, .ref 0 0 0), (3, .ref 1 0 0), (4, .d (.v (.int .i64 v5))), (5, .d (.v (.int .i64 1))), (6, .ref 5 0 0)]) (h' := [(5, ⟨3, [[.d (.v (.string ⟨(x23 : List UInt8).toArray⟩)), .d (.list 1 (s25.2.map (rLst 2 Stp.row)) false), .d (.v (.bool ((andI .u8 x24 1) == 1)))]]⟩), (4, dB 3 (v21.map Knd.row)), (1, ⟨9, [[.d (.v (.int .i64 x1.cells)), .d (.list 1 (x1.next.map (rLst 1 (rInt .i64))) false), .d (.list 1 (x1.turn.map (rInt .i64)) false), .sref 4 0 (v21.map Knd.row).length, .d (.v (.int .i64 x2)), .d (.v (.bool (x3 == 3))), .d (.list 0 [] true), .d (.v (.int .i64 3)), .d (.v (.int .i64 2))]]⟩), (0, ⟨9, [[.d (.v (.int .i64 0)), .d (.list 0 [] true), .d (.list 0 [] true), .d (.list 0 [] true), .d (.v (.int .i64 0)), .d (.v (.bool false)), .d (.list 0 [] true), .d (.v (.int .i64 0)), .d (.v (.int .i64 0))]]⟩)]) (nx := 7) (s25.2.map (rLst 2 Stp.row)) rfl ⟨⟨_, rfl, rfl⟩, ⟨_, rfl, rfl⟩, ⟨_, rfl, rfl⟩, ⟨_, rfl, rfl⟩, ⟨_, rfl, rfl⟩, ⟨_, rfl, rfl⟩, trivial⟩ ⟨⟨rfl, _, rfl, zfb (.cons rfl (.cons zjc (.cons rfl .nil)))⟩, ⟨rfl, _, rfl, zpg⟩, ⟨rfl, _, rfl, zfb (.cons rfl (.cons rfl (.cons rfl (.cons rfl (.cons rfl (.cons rfl (.cons rfl (.cons rfl (.cons rfl .nil)))))))))⟩, ⟨rfl, _, rfl, zfb (.cons rfl (.cons rfl (.cons rfl (.cons rfl (.cons rfl (.cons rfl (.cons rfl (.cons rfl (.cons rfl .nil)))))))))⟩, trivial⟩))
 replace h := ifT hc29 h
 refine gv hF (zj rfl rfl hc29) ?_
 refine gv hF oM ?_
 refine gv hF (oB (c_lss)) ?_
 refine gv hF (zu rfl rfl rfl) ?_
 refine sn ?_
 refine Sm.condU hF rfl (fun hc30 => ?_) (fun hc30 => ?_)
 ·replace h := ifF hc30 h
  refine Sm.exit ?_
  replace h := zw h hd28
  obtain rfl := zb h
  exact (St.to_trans (toK (e := [(1, .d (.ptr 12 (GRaw.row a0))), (2, .ref 0 0 0), (3, .ref 1 0 0), (4, .d (.v (.int .i64 v5))), (5, .d (.v (.int .i64 1))), (6, .ref 5 0 0)]) (g := [(6, dB 1 (s25.2.map (rLst 2 Stp.row))), (5, ⟨3, [[.d (.v (.string ⟨(x23 : List UInt8).toArray⟩)), .sref 6 0 (s25.2.map (rLst 2 Stp.row)).length, .d (.v (.bool ((andI .u8 x24 1) == 1)))]]⟩), (4, dB 3 (v21.map Knd.row)), (1, ⟨9, [[.d (.v (.int .i64 x1.cells)), .d (.list 1 (x1.next.map (rLst 1 (rInt .i64))) false), .d (.list 1 (x1.turn.map (rInt .i64)) false), .sref 4 0 (v21.map Knd.row).length, .d (.v (.int .i64 x2)), .d (.v (.bool (x3 == 3))), .d (.list 0 [] true), .d (.v (.int .i64 3)), .d (.v (.int .i64 2))]]⟩), (0, ⟨9, [[.d (.v (.int .i64 0)), .d (.list 0 [] true), .d (.list 0 [] true), .d (.list 0 [] true), .d (.v (.int .i64 0)), .d (.v (.bool false)), .d (.list 0 [] true), .d (.v (.int .i64 0)), .d (.v (.int .i64 0))]]⟩)]) (m := 7) ⟨rfl, rfl, rfl, rfl, rfl, rfl, trivial⟩ ⟨rfl, rfl, rfl, rfl, rfl, trivial⟩) (St.to_frz (l := 6) (sz := 1) (env' := [(1, .d (.ptr 12 (GRaw.row a0))), (2, .ref 0 0 0), (3, .ref 1 0 0), (4, .d (.v (.int .i64 v5))), (5, .d (.v (.int .i64 1))), (6, .ref 5 0 0)]) (h' := [(5, ⟨3, [[.d (.v (.string ⟨(x23 : List UInt8).toArray⟩)), .d (.list 1 (s25.2.map (rLst 2 Stp.row)) false), .d (.v (.bool ((andI .u8 x24 1) == 1)))]]⟩), (4, dB 3 (v21.map Knd.row)), (1, ⟨9, [[.d (.v (.int .i64 x1.cells)), .d (.list 1 (x1.next.map (rLst 1 (rInt .i64))) false), .d (.list 1 (x1.turn.map (rInt .i64)) false), .sref 4 0 (v21.map Knd.row).length, .d (.v (.int .i64 x2)), .d (.v (.bool (x3 == 3))), .d (.list 0 [] true), .d (.v (.int .i64 3)), .d (.v (.int .i64 2))]]⟩), (0, ⟨9, [[.d (.v (.int .i64 0)), .d (.list 0 [] true), .d (.list 0 [] true), .d (.list 0 [] true), .d (.v (.int .i64 0)), .d (.v (.bool false)), .d (.list 0 [] true), .d (.v (.int .i64 0)), .d (.v (.int .i64 0))]]⟩)]) (nx := 7) (s25.2.map (rLst 2 Stp.row)) rfl ⟨⟨_, rfl, rfl⟩, ⟨_, rfl, rfl⟩, ⟨_, rfl, rfl⟩, ⟨_, rfl, rfl⟩, ⟨_, rfl, rfl⟩, ⟨_, rfl, rfl⟩, trivial⟩ ⟨⟨rfl, _, rfl, zfb (.cons rfl (.cons zjc (.cons rfl .nil)))⟩, ⟨rfl, _, rfl, zpg⟩, ⟨rfl, _, rfl, zfb (.cons rfl (.cons rfl (.cons rfl (.cons rfl (.cons rfl (.cons rfl (.cons rfl (.cons rfl (.cons rfl .nil)))))))))⟩, ⟨rfl, _, rfl, zfb (.cons rfl (.cons rfl (.cons rfl (.cons rfl (.cons rfl (.cons rfl (.cons rfl (.cons rfl (.cons rfl .nil)))))))))⟩, trivial⟩))
 replace h := ifT hc30 h
 refine sk ?_
 refine Sm.seq ?_
 refine Sm.block ?_
 refine Sm.drawG hF (by kernel_rfl) rfl 18 (by kernel_rfl) (by kernel_rfl) ?_
 simp only [List.take_succ_cons, List.take_zero, List.take_nil]
 refine hv hF (oF (zq z7l)) ?_
 refine hv hF (oL (z4b rfl rfl ag109 rfl)) ?_
 refine hv hF oM ?_
 refine hv hF (oF (ze z9j rfl)) ?_
 refine hv hF (oI (idxAP u25 sz24 rfl rfl)) ?_
 refine hv hF (oL (lP1 ag24 rfl)) ?_
 refine hv hF oM ?_
 obtain ⟨x31, hx31, h⟩ := za h
 refine hv hF (oI (idxQD u24 sz5 hx31)) ?_
 refine hv hF (oL (lP1 ag5 rfl)) ?_
 refine hv hF (oF (zq z4j)) ?_
 refine hv hF (oF (zq zfi)) ?_
 refine hv hF (oL (z4b rfl rfl ag71 rfl)) ?_
 refine hv hF (oN (lenQD u71)) ?_
 refine hv hF oM ?_
 refine hv hF (oF (zq zmp)) ?_
 refine hv hF (oL (z4b rfl rfl ag3 rfl)) ?_
 obtain ⟨x32, hx32, h⟩ := za h
 refine Head.c hF rfl rfl (by kernel_rfl) rfl rfl rfl (zgh hx32) ?_
 refine hv hF (x := .d (.list 1 ([x32].map (rLst 2 Stp.row)) true)) (oS (zl u109 sz115 ze115 rfl rfl (PartsQ.cons rfl (PartsQ.nil _)) rfl)) ?_
 refine Head.last ⟨rfl, ?_⟩
 simp only [List.drop_succ_cons, List.drop_zero, List.drop_nil, List.nil_append, List.cons_append]
 refine SmG.toX (St.to_weak (env' := [(1, .d (.ptr 12 (GRaw.row a0))), (2, .ref 0 0 0), (3, .ref 1 0 0), (4, .d (.v (.int .i64 v5))), (5, .d (.v (.int .i64 1))), (6, .ref 5 0 0), (7, .d (.v (.int .i64 s25.1))), (58, .d (.v (.int .i64 s25.1))), (59, .d (.v (.bool (decide (s25.1 < 4))))), (64, .sref 6 0 (s25.2.map (rLst 2 Stp.row)).length), (80, .d (.list 1 ([x32].map (rLst 2 Stp.row)) true))]) (h' := [(6, dB 1 (s25.2.map (rLst 2 Stp.row))), (5, ⟨3, [[.d (.v (.string ⟨(x23 : List UInt8).toArray⟩)), .any, .d (.v (.bool ((andI .u8 x24 1) == 1)))]]⟩), (4, dB 3 (v21.map Knd.row)), (1, ⟨9, [[.d (.v (.int .i64 x1.cells)), .d (.list 1 (x1.next.map (rLst 1 (rInt .i64))) false), .d (.list 1 (x1.turn.map (rInt .i64)) false), .sref 4 0 (v21.map Knd.row).length, .d (.v (.int .i64 x2)), .d (.v (.bool (x3 == 3))), .d (.list 0 [] true), .d (.v (.int .i64 3)), .d (.v (.int .i64 2))]]⟩), (0, ⟨9, [[.d (.v (.int .i64 0)), .d (.list 0 [] true), .d (.list 0 [] true), .d (.list 0 [] true), .d (.v (.int .i64 0)), .d (.v (.bool false)), .d (.list 0 [] true), .d (.v (.int .i64 0)), .d (.v (.int .i64 0))]]⟩)]) (nx' := 7) ⟨⟨_, rfl, V.le.refl _⟩, ⟨_, rfl, V.le.refl _⟩, ⟨_, rfl, V.le.refl _⟩, ⟨_, rfl, V.le.refl _⟩, ⟨_, rfl, V.le.refl _⟩, ⟨_, rfl, V.le.refl _⟩, ⟨_, rfl, V.le.refl _⟩, ⟨_, rfl, V.le.refl _⟩, ⟨_, rfl, V.le.refl _⟩, ⟨_, rfl, V.le.refl _⟩, ⟨_, rfl, V.le.refl _⟩, trivial⟩ ⟨⟨_, rfl, BlkR.refl _⟩, ⟨_, rfl, BlkR.row (.cons (V.le.refl _) (.cons (V.le.any _) (.cons (V.le.refl _) .nil)))⟩, ⟨_, rfl, BlkR.refl _⟩, ⟨_, rfl, BlkR.refl _⟩, ⟨_, rfl, BlkR.refl _⟩, trivial⟩ (Nat.le_of_ble_eq_true rfl)) rfl ?_
 obtain ⟨x33, hx33, h⟩ := za h
 refine SmG.appendOwnL hF el109 rfl (ys := [x32]) (row := (rLst 2 Stp.row)) rfl rfl rfl rfl rfl rfl rfl rfl (.inl rfl) hx33 (by (repeat' first | exact zqb _ | refine zib ?_ | refine zi ?_ (z6 _ _ _) | refine zi ?_ (z6 _ _ [_]) | refine zi ?_ (z2b (by rfl)))) ?_
 refine gv hF (oF (zq z7l)) ?_
 refine SmG.store hF rfl rfl rfl rfl rfl (zmc (rows' := [[.d (.v (.string ⟨(x23 : List UInt8).toArray⟩)), .sref 6 0 (x33.map (rLst 2 Stp.row)).length, .d (.v (.bool ((andI .u8 x24 1) == 1)))]]) rfl rfl rfl sz109 rfl rfl rfl) ?_
 refine SmG.nil ?_
 refine zk ?_
 refine zd ?_
 refine Sm.regionG hF rfl ?_
 refine gv hF oM ?_
 obtain ⟨x34, hx34, h⟩ := za h
 refine gv hF (oB (z7 hx34)) ?_
 refine gv hF oA ?_
 refine SmG.nil ?_
 exact ztb (zhb h hd28) (toK ⟨rfl, rfl, rfl, rfl, rfl, rfl, rfl, trivial⟩ ⟨rfl, rfl, rfl, rfl, rfl, trivial⟩)
end
section
open Go.RowKit
set_option maxRecDepth 100000
noncomputable def zlf (a0 : List Int) (s1 : (Int × (List UInt8))) : Option ((Int × (List UInt8)) ⊕ List UInt8) :=
 bif (decide (s1.1 < (a0.length : Int))) then (
  ob (idx a0 s1.1) fun x6 =>
  ob (app s1.2 [(w8 x6)]) fun x7 =>
  ob (arI .i64 (s1.1 + 1)) fun x8 =>
  some (.inl (x8, x7))
 ) else (
  some (.inr s1.2)
 )
noncomputable def z3e (a0 : List Int) : Option (List UInt8) :=
 ob ((
  loopO (zlf a0) (0, ([] : List UInt8))
  : Option (List UInt8))) fun v9 =>
 some v9
set_option maxHeartbeats 4000000 in
theorem zzi {a0 : List Int} {r : List UInt8} (h : z3e a0 = some r) : zg Tryd.prog HG 35 [.list 1 (a0.map (rInt .i64)) false] (.list 1 (r.map rowB) false) := by
 unfold z3e at h
 refine zg.of Tryd.func35 rfl Tryd.ntmps35 (by simp) ?_
 intro F hF h0 hT
 show Sm F _ _ ⟨[(0, .d (.list 1 (a0.map (rInt .i64)) false))], [], 0⟩
 refine sr hF ?_
 refine gv hF oA ?_
 refine sn ?_
 refine sr hF ?_
 refine gv hF oA ?_
 refine sn ?_
 refine Sm.seq ?_
 obtain ⟨v9, hv9, h⟩ := za h
 refine Sm.joinT ⟨[(3, .d (.list 1 (v9.map rowB) false))], [], 1⟩ ?_ ?_
 ·refine Sm.seq ?_
  refine Sm.regionG hF rfl ?_
  refine gv hF oM ?_
  refine gv hF oA ?_
  refine sn ?_
  refine Sm.ret ?_
  obtain rfl := zb h
  exact ret1 rfl rfl
 replace h := hv9
 refine sr hF ?_
 refine gv hF oM ?_
 refine gv hF (oN (lenQD u30)) ?_
 refine gv hF oM ?_
 refine sn ?_
 refine Sm.block ?_
 refine Sm.to (toK (e := [(3, .d (.list 0 [] true)), (6, .d (.list 1 (a0.map (rInt .i64)) false)), (7, .d (.v (.int .i64 (a0.length : Int)))), (8, .d (.v (.int .i64 0)))]) (g := []) (m := 0) ⟨rfl, rfl, rfl, rfl, trivial⟩ trivial) ?_
 refine Sm.own (t := 3) 1 rfl ?_
 refine Sm.loopT (zlf a0) (fun s1 => ⟨[(3, .sref 0 0 (s1.2.map rowB).length), (6, .d (.list 1 (a0.map (rInt .i64)) false)), (7, .d (.v (.int .i64 (a0.length : Int)))), (8, .d (.v (.int .i64 s1.1)))], [(0, dB 1 (s1.2.map rowB))], 1⟩) (0, ([] : List UInt8)) h (toK ⟨rfl, rfl, rfl, rfl, trivial⟩ ⟨rfl, trivial⟩) ?_
 intro n2 s1 o3 h hd4
 unfold zlf at h
 refine sr hF ?_
 refine gv hF (oB (c_lss)) ?_
 refine sn ?_
 refine Sm.seq ?_
 refine Sm.condU hF rfl (fun hc5 => ?_) (fun hc5 => ?_)
 ·replace h := ifF hc5 h
  refine Sm.exit ?_
  replace h := zw h hd4
  obtain rfl := zb h
  exact (St.to_trans (toK (e := [(3, .sref 0 0 (s1.2.map rowB).length)]) (g := [(0, dB 1 (s1.2.map rowB))]) (m := 1) ⟨rfl, trivial⟩ ⟨rfl, trivial⟩) (St.to_frz (l := 0) (sz := 1) (env' := [(3, .d (.list 1 (s1.2.map rowB) false))]) (h' := []) (nx := 1) (s1.2.map rowB) rfl ⟨⟨_, rfl, zjc⟩, trivial⟩ trivial))
 replace h := ifT hc5 h
 refine sk ?_
 refine Sm.seq ?_
 refine Sm.block ?_
 refine sr hF ?_
 obtain ⟨x6, hx6, h⟩ := za h
 refine gv hF (oI (idxQD u30 sz3 hx6)) ?_
 refine gv hF (oL (lP1 ag3 rfl)) ?_
 refine gv hF oA ?_
 refine sn ?_
 refine Sm.regionG hF rfl ?_
 refine gv hF oM ?_
 refine gv hF oM ?_
 refine gv hF (oC (z6g u3 u5)) ?_
 refine gv hF (x := .d (.list 1 ([(w8 x6)].map rowB) true)) (oS (zl u24 sz5 ze5 rfl rfl (PartsQ.cons rfl (PartsQ.nil _)) rfl)) ?_
 obtain ⟨x7, hx7, h⟩ := za h
 refine SmG.appendOwnL hF el24 rfl (ys := [(w8 x6)]) (row := rowB) rfl rfl rfl rfl rfl rfl rfl rfl (.inl rfl) hx7 (by (repeat' first | exact zqb _ | refine zib ?_ | refine zi ?_ (z6 _ _ _) | refine zi ?_ (z6 _ _ [_]) | refine zi ?_ (z2b (by rfl)))) ?_
 refine gv hF oA ?_
 refine SmG.nil ?_
 refine zk ?_
 refine zd ?_
 refine Sm.regionG hF rfl ?_
 obtain ⟨x8, hx8, h⟩ := za h
 refine gv hF (oB (z7 hx8)) ?_
 refine gv hF oM ?_
 refine SmG.nil ?_
 exact ztb (zhb h hd4) (toK ⟨rfl, rfl, rfl, rfl, trivial⟩ ⟨rfl, trivial⟩)
noncomputable def zih (x1 : List Int) (s2 : (Int × (List UInt8))) : Option ((Int × (List UInt8)) ⊕ List UInt8) :=
 bif (decide (s2.1 < (x1.length : Int))) then (
  ob (idx x1 s2.1) fun x7 =>
  ob (app s2.2 [(w8 x7)]) fun x8 =>
  ob (arI .i64 (s2.1 + 1)) fun x9 =>
  some (.inl (x9, x8))
 ) else (
  some (.inr s2.2)
 )
noncomputable def z8h (a0 : Ps) : Option (List UInt8) :=
 ob ((
  ob (zyc ([a0.at_, a0.h0, a0.h1, [a0.rights, a0.side]])) fun x1 =>
  loopO (zih x1) (0, ([] : List UInt8))
  : Option (List UInt8))) fun v10 =>
 some v10
set_option maxHeartbeats 4000000 in
theorem zdr {a0 : Ps} {r : List UInt8} (h : z8h a0 = some r) : zg Tryd.prog HG 37 [.agg 5 (Ps.row a0)] (.v (.string ⟨(r : List UInt8).toArray⟩)) := by
 unfold z8h at h
 refine zg.of Tryd.func37 rfl Tryd.ntmps37 (by simp) ?_
 intro F hF h0 hT
 show Sm F _ _ ⟨[(0, .d (.agg 5 (Ps.row a0)))], [], 0⟩
 refine sr hF ?_
 refine SmG.boxP hF boxA ?_
 refine gv hF oA ?_
 refine sn ?_
 refine sr hF ?_
 refine gv hF oA ?_
 refine sn ?_
 refine Sm.seq ?_
 obtain ⟨v10, hv10, h⟩ := za h
 refine Sm.joinT ⟨[(3, .d (.list 1 (v10.map rowB) false))], [], 2⟩ ?_ ?_
 ·refine Sm.seq ?_
  refine Sm.regionG hF rfl ?_
  refine gv hF oM ?_
  refine gv hF (oC (zgk u24 u9 u5)) ?_
  refine gv hF oA ?_
  refine sn ?_
  refine Sm.ret ?_
  obtain rfl := zb h
  exact ret1 rfl rfl
 replace h := hv10
 refine sr hF ?_
 refine gv hF (oF (ze zci rfl)) ?_
 refine gv hF (oL (lP1 ag30 rfl)) ?_
 refine gv hF (oF (ze zmd rfl)) ?_
 refine gv hF (oI (idxAP u31 sz30 rfl rfl)) ?_
 refine gv hF (oL (lP1 ag30 rfl)) ?_
 refine gv hF (oF (ze zmd rfl)) ?_
 refine gv hF (oI (idxAP u31 sz30 rfl rfl)) ?_
 refine gv hF (oL (lP1 ag30 rfl)) ?_
 refine gv hF (oF (ze zwl rfl)) ?_
 refine gv hF (oL (lP1 ag3 rfl)) ?_
 refine gv hF (oF (ze zpl rfl)) ?_
 refine gv hF (oL (lP1 ag3 rfl)) ?_
 refine gv hF (x := .d (.list 1 ([a0.rights, a0.side].map (rInt .i64)) true)) (oS (zl u30 sz3 ze3 rfl rfl (PartsQ.cons rfl (PartsQ.cons rfl (PartsQ.nil _))) rfl)) ?_
 refine SmG.toX (St.to_weak (env' := [(3, .d (.list 0 [] true)), (7, .d (.list 1 (a0.at_.map (rInt .i64)) false)), (10, .d (.list 1 (a0.h0.map (rInt .i64)) false)), (13, .d (.list 1 (a0.h1.map (rInt .i64)) false)), (18, .d (.list 1 ([a0.rights, a0.side].map (rInt .i64)) false))]) (h' := []) (nx' := 0) ⟨⟨_, rfl, V.le.refl _⟩, ⟨_, rfl, V.le.refl _⟩, ⟨_, rfl, V.le.refl _⟩, ⟨_, rfl, V.le.refl _⟩, ⟨_, rfl, V.le.d (by repeat' first | exact D.le.refl _ | exact D.le_full _ _ _ | exact D.le_nil' _ _ _ | refine D.le_list ?_ | exact LeRows.nil | refine LeRows.cons ?_ ?_ | exact LeL.nil | refine LeL.cons ?_ ?_ | refine D.le_tupL ?_ | refine D.le_aggL ?_)⟩, trivial⟩ trivial (Nat.le_of_ble_eq_true rfl)) rfl ?_
 refine gv hF (x := .d (.list 1 ([a0.at_, a0.h0, a0.h1, [a0.rights, a0.side]].map (rLst 1 (rInt .i64))) true)) (oS (zl u71 sz30 ze30 rfl rfl (PartsQ.cons rfl (PartsQ.cons rfl (PartsQ.cons rfl (PartsQ.cons rfl (PartsQ.nil _))))) rfl)) ?_
 obtain ⟨x1, hx1, h⟩ := za h
 refine SmG.callO hF rfl rfl (by kernel_rfl) rfl rfl rfl (ztd.args (z1h hx1) (fun C => (zfc (by repeat' first | exact D.le.refl _ | exact D.le_full _ _ _ | exact D.le_nil' _ _ _ | refine D.le_list ?_ | exact LeRows.nil | refine LeRows.cons ?_ ?_ | exact LeL.nil | refine LeL.cons ?_ ?_ | refine D.le_tupL ?_ | refine D.le_aggL ?_) (fun _ h => h)))) ?_
 refine gv hF (oN (lenQO u30)) ?_
 refine gv hF oM ?_
 refine sn ?_
 refine Sm.block ?_
 refine Sm.to (toK (e := [(3, .d (.list 0 [] true)), (20, .sref 0 0 (x1.map (rInt .i64)).length), (21, .d (.v (.int .i64 (x1.length : Int)))), (22, .d (.v (.int .i64 0)))]) (g := [(0, dB 1 (x1.map (rInt .i64)))]) (m := 1) ⟨rfl, rfl, rfl, rfl, trivial⟩ ⟨rfl, trivial⟩) ?_
 refine Sm.own (t := 3) 1 rfl ?_
 refine Sm.loopT (zih x1) (fun s2 => ⟨[(3, .sref 1 0 (s2.2.map rowB).length), (20, .sref 0 0 (x1.map (rInt .i64)).length), (21, .d (.v (.int .i64 (x1.length : Int)))), (22, .d (.v (.int .i64 s2.1)))], [(1, dB 1 (s2.2.map rowB)), (0, dB 1 (x1.map (rInt .i64)))], 2⟩) (0, ([] : List UInt8)) h (toK ⟨rfl, rfl, rfl, rfl, trivial⟩ ⟨rfl, rfl, trivial⟩) ?_
 intro n3 s2 o4 h hd5
 unfold zih at h
 refine sr hF ?_
 refine gv hF (oB (c_lss)) ?_
 refine sn ?_
 refine Sm.seq ?_
 refine Sm.condU hF rfl (fun hc6 => ?_) (fun hc6 => ?_)
 ·replace h := ifF hc6 h
  refine Sm.exit ?_
  replace h := zw h hd5
  obtain rfl := zb h
  exact (St.to_trans (toK (e := [(3, .sref 1 0 (s2.2.map rowB).length)]) (g := [(1, dB 1 (s2.2.map rowB))]) (m := 2) ⟨rfl, trivial⟩ ⟨rfl, trivial⟩) (St.to_frz (l := 1) (sz := 1) (env' := [(3, .d (.list 1 (s2.2.map rowB) false))]) (h' := []) (nx := 2) (s2.2.map rowB) rfl ⟨⟨_, rfl, zjc⟩, trivial⟩ trivial))
 replace h := ifT hc6 h
 refine sk ?_
 refine Sm.seq ?_
 refine Sm.block ?_
 refine sr hF ?_
 obtain ⟨x7, hx7, h⟩ := za h
 refine gv hF (oI (idxQO u30 sz3 rfl hx7)) ?_
 refine gv hF (oL (zhx rfl hx7 ag3 rfl)) ?_
 refine gv hF oA ?_
 refine sn ?_
 refine Sm.regionG hF rfl ?_
 refine gv hF oM ?_
 refine gv hF oM ?_
 refine gv hF (oC (z6g u3 u5)) ?_
 refine gv hF (x := .d (.list 1 ([(w8 x7)].map rowB) true)) (oS (zl u24 sz5 ze5 rfl rfl (PartsQ.cons rfl (PartsQ.nil _)) rfl)) ?_
 obtain ⟨x8, hx8, h⟩ := za h
 refine SmG.appendOwnL hF el24 rfl (ys := [(w8 x7)]) (row := rowB) rfl rfl rfl rfl rfl rfl rfl rfl (.inl rfl) hx8 (by (repeat' first | exact zqb _ | refine zib ?_ | refine zi ?_ (z6 _ _ _) | refine zi ?_ (z6 _ _ [_]) | refine zi ?_ (z2b (by rfl)))) ?_
 refine gv hF oA ?_
 refine SmG.nil ?_
 refine zk ?_
 refine zd ?_
 refine Sm.regionG hF rfl ?_
 obtain ⟨x9, hx9, h⟩ := za h
 refine gv hF (oB (z7 hx9)) ?_
 refine gv hF oM ?_
 refine SmG.nil ?_
 exact ztb (zhb h hd5) (toK ⟨rfl, rfl, rfl, rfl, trivial⟩ ⟨rfl, rfl, trivial⟩)
noncomputable def zjd (a0 : Ps) (a1 : Rs) : Option (List UInt8) :=
 ob (z3e [(a0.at_.length : Int), (a0.h0.length : Int), (a0.h1.length : Int)]) fun x1 =>
 ob (z8h a0) fun x2 =>
 ob (strI x2) fun x3 =>
 ob (shrI .i64 a1.n 24) fun x4 =>
 ob (shrI .i64 a1.n 16) fun x5 =>
 ob (shrI .i64 a1.n 8) fun x6 =>
 ob (z3e [a1.out, x4, x5, x6, a1.n]) fun x7 =>
 ob (zqc [x1, x3, x7]) fun x8 =>
 some x8
set_option maxHeartbeats 4000000 in
theorem zhf {a0 : Ps} {a1 : Rs} {r : List UInt8} (h : zjd a0 a1 = some r) : zg Tryd.prog HG 13 [.agg 5 (Ps.row a0), .agg 2 (Rs.row a1)] (.list 1 (r.map rowB) false) := by
 unfold zjd at h
 refine zg.of Tryd.func13 rfl Tryd.ntmps13 (by simp) ?_
 intro F hF h0 hT
 show Sm F _ _ ⟨[(0, .d (.agg 5 (Ps.row a0))), (1, .d (.agg 2 (Rs.row a1)))], [], 0⟩
 refine sr hF ?_
 refine SmG.boxP hF boxA ?_
 refine SmG.boxP hF boxA ?_
 refine gv hF oA ?_
 refine sn ?_
 refine sr hF ?_
 refine gv hF (oF (ze zci rfl)) ?_
 refine gv hF (oL (lP1 ag30 rfl)) ?_
 refine gv hF (oN (lenQD u30)) ?_
 refine gv hF (oF (ze zmd rfl)) ?_
 refine gv hF (oI (idxAP u31 sz30 rfl rfl)) ?_
 refine gv hF (oL (lP1 ag30 rfl)) ?_
 refine gv hF (oN (lenQD u30)) ?_
 refine gv hF (oF (ze zmd rfl)) ?_
 refine gv hF (oI (idxAP u31 sz30 rfl rfl)) ?_
 refine gv hF (oL (lP1 ag30 rfl)) ?_
 refine gv hF (oN (lenQD u30)) ?_
 refine gv hF (x := .d (.list 1 ([(a0.at_.length : Int), (a0.h0.length : Int), (a0.h1.length : Int)].map (rInt .i64)) true)) (oS (zl u30 sz3 ze3 rfl rfl (PartsQ.cons rfl (PartsQ.cons rfl (PartsQ.cons rfl (PartsQ.nil _)))) rfl)) ?_
 obtain ⟨x1, hx1, h⟩ := za h
 refine SmG.call hF rfl rfl (by kernel_rfl) rfl rfl rfl (zg.args (zzi hx1) (fun C => (zfc (by repeat' first | exact D.le.refl _ | exact D.le_full _ _ _ | exact D.le_nil' _ _ _ | refine D.le_list ?_ | exact LeRows.nil | refine LeRows.cons ?_ ?_ | exact LeL.nil | refine LeL.cons ?_ ?_ | refine D.le_tupL ?_ | refine D.le_aggL ?_) (fun _ h => h)))) ?_
 refine gv hF oA ?_
 refine sn ?_
 refine Sm.seq ?_
 refine Sm.drawG hF (by kernel_rfl) rfl 19 (by kernel_rfl) (by kernel_rfl) ?_
 simp only [List.take_succ_cons, List.take_zero, List.take_nil]
 refine hv hF oM ?_
 refine hv hF (x := .d (.agg 5 (Ps.row a0))) (oL (z3d ag33 sz33 rfl rfl)) ?_
 obtain ⟨x2, hx2, h⟩ := za h
 refine Head.c hF rfl rfl (by kernel_rfl) rfl rfl rfl (zdr hx2) ?_
 obtain ⟨x3, hx3, h⟩ := za h
 refine Head.ofString hF rfl rfl rfl rfl rfl Tryd.underlying9 Tryd.underlying24 Tryd.underlying5 hx3 ?_
 refine hv hF (oF (ze zbq rfl)) ?_
 refine hv hF (oL (lP1 ag3 rfl)) ?_
 refine hv hF (oF (ze zek rfl)) ?_
 refine hv hF (oL (lP1 ag3 rfl)) ?_
 obtain ⟨x4, hx4, h⟩ := za h
 refine hv hF (oB (zfh hx4)) ?_
 refine hv hF (oF (ze zek rfl)) ?_
 refine hv hF (oL (lP1 ag3 rfl)) ?_
 obtain ⟨x5, hx5, h⟩ := za h
 refine hv hF (oB (zfh hx5)) ?_
 refine hv hF (oF (ze zek rfl)) ?_
 refine hv hF (oL (lP1 ag3 rfl)) ?_
 obtain ⟨x6, hx6, h⟩ := za h
 refine hv hF (oB (zfh hx6)) ?_
 refine hv hF (oF (ze zek rfl)) ?_
 refine hv hF (oL (lP1 ag3 rfl)) ?_
 refine hv hF (x := .d (.list 1 ([a1.out, x4, x5, x6, a1.n].map (rInt .i64)) true)) (oS (zl u30 sz3 ze3 rfl rfl (PartsQ.cons rfl (PartsQ.cons rfl (PartsQ.cons rfl (PartsQ.cons rfl (PartsQ.cons rfl (PartsQ.nil _)))))) rfl)) ?_
 obtain ⟨x7, hx7, h⟩ := za h
 refine Head.c hF rfl rfl (by kernel_rfl) rfl rfl rfl (zg.args (zzi hx7) (fun C => (zfc (by repeat' first | exact D.le.refl _ | exact D.le_full _ _ _ | exact D.le_nil' _ _ _ | refine D.le_list ?_ | exact LeRows.nil | refine LeRows.cons ?_ ?_ | exact LeL.nil | refine LeL.cons ?_ ?_ | refine D.le_tupL ?_ | refine D.le_aggL ?_) (fun _ h => h)))) ?_
 refine Head.last ⟨rfl, ?_⟩
 simp only [List.drop_succ_cons, List.drop_zero, List.drop_nil, List.nil_append, List.cons_append]
 refine gv hF (x := .d (.list 1 ([x1, x3, x7].map rowE) true)) (oS (zl u61 sz24 ze24 rfl rfl (PartsQ.cons rfl (PartsQ.cons rfl (PartsQ.cons rfl (PartsQ.nil _)))) rfl)) ?_
 obtain ⟨x8, hx8, h⟩ := za h
 refine SmG.callO hF rfl rfl (by kernel_rfl) rfl rfl rfl (ztd.args (zjh hx8) (fun C => (zfc (by repeat' first | exact D.le.refl _ | exact D.le_full _ _ _ | exact D.le_nil' _ _ _ | refine D.le_list ?_ | exact LeRows.nil | refine LeRows.cons ?_ ?_ | exact LeL.nil | refine LeL.cons ?_ ?_ | refine D.le_tupL ?_ | refine D.le_aggL ?_) (fun _ h => h)))) ?_
 refine gv hF oA ?_
 refine sn ?_
 refine Sm.to (St.to_trans (toK (e := [(4, .sref 0 0 (x8.map rowB).length)]) (g := [(0, dB 1 (x8.map rowB))]) (m := 1) ⟨rfl, trivial⟩ ⟨rfl, trivial⟩) (St.to_frz (l := 0) (sz := 1) (env' := [(4, .d (.list 1 (x8.map rowB) false))]) (h' := []) (nx := 1) (x8.map rowB) rfl ⟨⟨_, rfl, zjc⟩, trivial⟩ trivial)) ?_
 refine Sm.ret ?_
 obtain rfl := zb h
 exact ret1 rfl rfl
noncomputable def zxd (a0 : List Ps) (a1 : List Rs) (s1 : (Int × (List (List UInt8)))) : Option ((Int × (List (List UInt8))) ⊕ List (List UInt8)) :=
 bif (decide (s1.1 < (min (a0.length : Int) (a1.length : Int)))) then (
  ob (idx a0 s1.1) fun x6 =>
  ob (idx a1 s1.1) fun x7 =>
  ob (zjd x6 x7) fun x8 =>
  ob (app s1.2 [x8]) fun x9 =>
  ob (arI .i64 (s1.1 + 1)) fun x10 =>
  some (.inl (x10, x9))
 ) else (
  some (.inr s1.2)
 )
noncomputable def zne (a0 : List Ps) (a1 : List Rs) : Option (List (List UInt8)) :=
 ob ((
  loopO (zxd a0 a1) (0, ([] : List (List UInt8)))
  : Option (List (List UInt8)))) fun v11 =>
 some v11
set_option maxHeartbeats 4000000 in
theorem zni {a0 : List Ps} {a1 : List Rs} {r : List (List UInt8)} (h : zne a0 a1 = some r) : zg Tryd.prog HG 33 [.list 5 (a0.map Ps.row) false, .list 2 (a1.map Rs.row) false] (.list 1 (r.map rowE) false) := by
 unfold zne at h
 refine zg.of Tryd.func33 rfl Tryd.ntmps33 (by simp) ?_
 intro F hF h0 hT
 show Sm F _ _ ⟨[(0, .d (.list 5 (a0.map Ps.row) false)), (1, .d (.list 2 (a1.map Rs.row) false))], [], 0⟩
 refine sr hF ?_
 refine gv hF oA ?_
 refine sn ?_
 refine sr hF ?_
 refine gv hF oA ?_
 refine sn ?_
 refine Sm.seq ?_
 obtain ⟨v11, hv11, h⟩ := za h
 refine Sm.joinT ⟨[(5, .d (.list 1 (v11.map rowE) false))], [], 1⟩ ?_ ?_
 ·refine Sm.seq ?_
  refine Sm.regionG hF rfl ?_
  refine gv hF oM ?_
  refine gv hF oA ?_
  refine sn ?_
  refine Sm.ret ?_
  obtain rfl := zb h
  exact ret1 rfl rfl
 replace h := hv11
 refine sr hF ?_
 refine gv hF oM ?_
 refine gv hF (oN (lenQD u40)) ?_
 refine gv hF oM ?_
 refine gv hF (oN (lenQD u41)) ?_
 refine gv hF (zrv rfl rfl rfl zux) ?_
 refine gv hF oM ?_
 refine sn ?_
 refine Sm.block ?_
 refine Sm.to (toK (e := [(0, .d (.list 5 (a0.map Ps.row) false)), (1, .d (.list 2 (a1.map Rs.row) false)), (5, .d (.list 0 [] true)), (11, .d (.v (.int .i64 (min (a0.length : Int) (a1.length : Int))))), (12, .d (.v (.int .i64 0)))]) (g := []) (m := 0) ⟨rfl, rfl, rfl, rfl, rfl, trivial⟩ trivial) ?_
 refine Sm.own (t := 5) 1 rfl ?_
 refine Sm.loopT (zxd a0 a1) (fun s1 => ⟨[(0, .d (.list 5 (a0.map Ps.row) false)), (1, .d (.list 2 (a1.map Rs.row) false)), (5, .sref 0 0 (s1.2.map rowE).length), (11, .d (.v (.int .i64 (min (a0.length : Int) (a1.length : Int))))), (12, .d (.v (.int .i64 s1.1)))], [(0, dB 1 (s1.2.map rowE))], 1⟩) (0, ([] : List (List UInt8))) h (toK ⟨rfl, rfl, rfl, rfl, rfl, trivial⟩ ⟨rfl, trivial⟩) ?_
 intro n2 s1 o3 h hd4
 unfold zxd at h
 refine sr hF ?_
 refine gv hF (oB (c_lss)) ?_
 refine sn ?_
 refine Sm.seq ?_
 refine Sm.condU hF rfl (fun hc5 => ?_) (fun hc5 => ?_)
 ·replace h := ifF hc5 h
  refine Sm.exit ?_
  replace h := zw h hd4
  obtain rfl := zb h
  exact (St.to_trans (toK (e := [(5, .sref 0 0 (s1.2.map rowE).length)]) (g := [(0, dB 1 (s1.2.map rowE))]) (m := 1) ⟨rfl, trivial⟩ ⟨rfl, trivial⟩) (St.to_frz (l := 0) (sz := 1) (env' := [(5, .d (.list 1 (s1.2.map rowE) false))]) (h' := []) (nx := 1) (s1.2.map rowE) rfl ⟨⟨_, rfl, zjc⟩, trivial⟩ trivial))
 replace h := ifT hc5 h
 refine sk ?_
 refine Sm.seq ?_
 refine Sm.block ?_
 refine sr hF ?_
 refine gv hF oM ?_
 refine gv hF oA ?_
 refine sn ?_
 refine Sm.drawG hF (by kernel_rfl) rfl 11 (by kernel_rfl) (by kernel_rfl) ?_
 simp only [List.take_succ_cons, List.take_zero, List.take_nil]
 refine hv hF oM ?_
 refine hv hF oM ?_
 refine hv hF oM ?_
 obtain ⟨x6, hx6, h⟩ := za h
 refine hv hF (oI (idxQD u40 sz33 hx6)) ?_
 refine hv hF (x := .d (.agg 5 (Ps.row x6))) (oL (z3d ag33 sz33 rfl rfl)) ?_
 refine hv hF oM ?_
 refine hv hF oM ?_
 obtain ⟨x7, hx7, h⟩ := za h
 refine hv hF (oI (idxQD u41 sz35 hx7)) ?_
 refine hv hF (x := .d (.agg 2 (Rs.row x7))) (oL (z3d ag35 sz35 rfl rfl)) ?_
 obtain ⟨x8, hx8, h⟩ := za h
 refine Head.c hF rfl rfl (by kernel_rfl) rfl rfl rfl (zhf hx8) ?_
 refine hv hF (x := .d (.list 1 ([x8].map rowE) true)) (oS (zl u61 sz24 ze24 rfl rfl (PartsQ.cons rfl (PartsQ.nil _)) rfl)) ?_
 refine Head.last ⟨rfl, ?_⟩
 simp only [List.drop_succ_cons, List.drop_zero, List.drop_nil, List.nil_append, List.cons_append]
 obtain ⟨x9, hx9, h⟩ := za h
 refine SmG.appendOwnL hF el61 rfl (ys := [x8]) (row := rowE) rfl rfl rfl rfl rfl rfl rfl rfl (.inl rfl) hx9 (by (repeat' first | exact zqb _ | refine zib ?_ | refine zi ?_ (z6 _ _ _) | refine zi ?_ (z6 _ _ [_]) | refine zi ?_ (z2b (by rfl)))) ?_
 refine gv hF oA ?_
 refine SmG.nil ?_
 refine zk ?_
 refine zd ?_
 refine Sm.regionG hF rfl ?_
 obtain ⟨x10, hx10, h⟩ := za h
 refine gv hF (oB (z7 hx10)) ?_
 refine gv hF oM ?_
 refine SmG.nil ?_
 exact ztb (zhb h hd4) (toK ⟨rfl, rfl, rfl, rfl, rfl, trivial⟩ ⟨rfl, trivial⟩)
noncomputable def zbf (a0 : List Ps) (a1 : List Rs) : Option (List UInt8) :=
 ob (zne a0 a1) fun x1 =>
 ob (zzh x1) fun x2 =>
 ob (vN 32 x2) fun x3 =>
 some x2
set_option maxHeartbeats 4000000 in
theorem zqn {a0 : List Ps} {a1 : List Rs} {r : List UInt8} (h : zbf a0 a1 = some r) : zg Tryd.prog HG 11 [.list 5 (a0.map Ps.row) false, .list 2 (a1.map Rs.row) false] (.agg 32 (rowS r)) := by
 unfold zbf at h
 refine zg.of Tryd.func11 rfl Tryd.ntmps11 (by simp) ?_
 intro F hF h0 hT
 show Sm F _ _ ⟨[(0, .d (.list 5 (a0.map Ps.row) false)), (1, .d (.list 2 (a1.map Rs.row) false))], [], 0⟩
 refine sr hF ?_
 refine SmG.new hF rfl rfl rfl (zx rfl al47) ?_
 refine sn ?_
 refine sr hF ?_
 refine gv hF oM ?_
 refine gv hF oM ?_
 obtain ⟨x1, hx1, h⟩ := za h
 refine SmG.call hF rfl rfl (by kernel_rfl) rfl rfl rfl (zni hx1) ?_
 obtain ⟨x2, hx2, h⟩ := za h
 refine SmG.call hF rfl rfl (by kernel_rfl) rfl rfl rfl (z9o hx2) ?_
 obtain ⟨x3, hx3, h⟩ := za h
 refine SmG.store hF rfl rfl rfl rfl rfl (z5r rfl rfl sz47 rfl (z9m hx3)) ?_
 refine sn ?_
 refine Sm.ret ?_
 obtain rfl := zb h
 exact zcd (RetR.cons (RetO.cell rfl (zfn rfl ag47 sz47)) (RetR.nil)) (D.le.refl _)
noncomputable def zpc (a0 : List Ps) (a1 : List Rs) (a2 : Int) (a3 : Int) : Option (Ans × Int) :=
 bif ((a0.length : Int) != (a1.length : Int)) then (
  some ((⟨0, 0, 0, (⟨[], [], [], 0, 0⟩ : Ps), (⟨0, 0⟩ : Rs), []⟩ : Ans), 1)
 ) else (
  ob (zne a0 a1) fun x2 =>
  ob (z7e x2 a3) fun x3 =>
  bif (x3.2 != 0) then (
   some ((⟨0, 0, 0, (⟨[], [], [], 0, 0⟩ : Ps), (⟨0, 0⟩ : Rs), []⟩ : Ans), x3.2)
  ) else (
   ob (idx a0 a3) fun x5 =>
   ob (idx a1 a3) fun x6 =>
   some ((⟨a2, a3, (a0.length : Int), x5, x6, x3.1⟩ : Ans), 0)
  )
 )
set_option maxHeartbeats 4000000 in
theorem zsg {a0 : List Ps} {a1 : List Rs} {a2 : Int} {a3 : Int} {r : (Ans × Int)} (h : zpc a0 a1 a2 a3 = some r) : zg Tryd.prog HG 15 [.list 5 (a0.map Ps.row) false, .list 2 (a1.map Rs.row) false, .v (.int .i64 a2), .v (.int .i64 a3)] (.tup [.agg 11 (Ans.row r.1), .v (.int .i64 r.2)]) := by
 unfold zpc at h
 refine zg.of Tryd.func15 rfl Tryd.ntmps15 (by simp) ?_
 intro F hF h0 hT
 show Sm F _ _ ⟨[(0, .d (.list 5 (a0.map Ps.row) false)), (1, .d (.list 2 (a1.map Rs.row) false)), (2, .d (.v (.int .i64 a2))), (3, .d (.v (.int .i64 a3)))], [], 0⟩
 refine sr hF ?_
 refine SmG.new hF rfl rfl rfl (zx rfl al38) ?_
 refine gv hF oA ?_
 refine sn ?_
 refine Sm.seq ?_
 refine sr hF ?_
 refine gv hF oM ?_
 refine gv hF (oN (lenQD u40)) ?_
 refine gv hF oM ?_
 refine gv hF (oN (lenQD u41)) ?_
 refine gv hF (oB (c_neq)) ?_
 refine sn ?_
 refine Sm.condB hF rfl (fun hc1 => ?_) (fun hc1 => ?_)
 ·replace h := ifT hc1 h
  refine sr hF ?_
  refine gv hF (x := .d (.agg 11 [.v (.int .i64 0), .v (.int .i64 0), .v (.int .i64 0), .list 0 [] true, .list 0 [] true, .list 0 [] true, .v (.int .i64 0), .v (.int .i64 0), .v (.int .i64 0), .v (.int .i64 0), .list 0 [] true])) (zz rfl u38 (by kernel_rfl) rfl bz38) ?_
  refine SmG.store hF rfl rfl rfl rfl rfl (zy (ys := [.d (.v (.int .i64 0)), .d (.v (.int .i64 0)), .d (.v (.int .i64 0)), .d (.list 0 [] true), .d (.list 0 [] true), .d (.list 0 [] true), .d (.v (.int .i64 0)), .d (.v (.int .i64 0)), .d (.v (.int .i64 0)), .d (.v (.int .i64 0)), .d (.list 0 [] true)]) (r := [.d (.v (.int .i64 0)), .d (.v (.int .i64 0)), .d (.v (.int .i64 0)), .d (.list 0 [] true), .d (.list 0 [] true), .d (.list 0 [] true), .d (.v (.int .i64 0)), .d (.v (.int .i64 0)), .d (.v (.int .i64 0)), .d (.v (.int .i64 0)), .d (.list 0 [] true)]) (rows' := [[.d (.v (.int .i64 0)), .d (.v (.int .i64 0)), .d (.v (.int .i64 0)), .d (.list 0 [] true), .d (.list 0 [] true), .d (.list 0 [] true), .d (.v (.int .i64 0)), .d (.v (.int .i64 0)), .d (.v (.int .i64 0)), .d (.v (.int .i64 0)), .d (.list 0 [] true)]]) rfl rfl rfl sz38 rfl rfl rfl rfl rfl) ?_
  refine gv hF oA ?_
  refine sn ?_
  refine Sm.ret ?_
  obtain rfl := zb h
  exact zcd (RetR.cons (RetO.cell rfl (zn (ds := [.v (.int .i64 0), .v (.int .i64 0), .v (.int .i64 0), .list 0 [] true, .list 0 [] true, .list 0 [] true, .v (.int .i64 0), .v (.int .i64 0), .v (.int .i64 0), .v (.int .i64 0), .list 0 [] true]) rfl rfl ag38 sz38 rfl rfl)) (RetR.cons (RetO.tmp rfl) (RetR.nil))) (by repeat' first | exact D.le.refl _ | exact D.le_full _ _ _ | exact D.le_nil' _ _ _ | refine D.le_list ?_ | exact LeRows.nil | refine LeRows.cons ?_ ?_ | exact LeL.nil | refine LeL.cons ?_ ?_ | refine D.le_tupL ?_ | refine D.le_aggL ?_)
 replace h := ifF hc1 h
 refine sk ?_
 refine sr hF ?_
 refine gv hF oM ?_
 refine gv hF oM ?_
 obtain ⟨x2, hx2, h⟩ := za h
 refine SmG.call hF rfl rfl (by kernel_rfl) rfl rfl rfl (zni hx2) ?_
 refine gv hF oM ?_
 obtain ⟨x3, hx3, h⟩ := za h
 refine SmG.call hF rfl rfl (by kernel_rfl) rfl rfl rfl (z0n hx3) ?_
 refine gv hF oM ?_
 refine gv hF (zic rfl rfl rfl) ?_
 refine gv hF (zic rfl rfl rfl) ?_
 refine gv hF oA ?_
 refine gv hF oA ?_
 refine sn ?_
 refine Sm.seq ?_
 refine sr hF ?_
 refine gv hF oM ?_
 refine gv hF (oB (c_neq)) ?_
 refine sn ?_
 refine Sm.condB hF rfl (fun hc4 => ?_) (fun hc4 => ?_)
 ·replace h := ifT hc4 h
  refine sr hF ?_
  refine gv hF (x := .d (.agg 11 [.v (.int .i64 0), .v (.int .i64 0), .v (.int .i64 0), .list 0 [] true, .list 0 [] true, .list 0 [] true, .v (.int .i64 0), .v (.int .i64 0), .v (.int .i64 0), .v (.int .i64 0), .list 0 [] true])) (zz rfl u38 (by kernel_rfl) rfl bz38) ?_
  refine gv hF oM ?_
  refine SmG.store hF rfl rfl rfl rfl rfl (zy (ys := [.d (.v (.int .i64 0)), .d (.v (.int .i64 0)), .d (.v (.int .i64 0)), .d (.list 0 [] true), .d (.list 0 [] true), .d (.list 0 [] true), .d (.v (.int .i64 0)), .d (.v (.int .i64 0)), .d (.v (.int .i64 0)), .d (.v (.int .i64 0)), .d (.list 0 [] true)]) (r := [.d (.v (.int .i64 0)), .d (.v (.int .i64 0)), .d (.v (.int .i64 0)), .d (.list 0 [] true), .d (.list 0 [] true), .d (.list 0 [] true), .d (.v (.int .i64 0)), .d (.v (.int .i64 0)), .d (.v (.int .i64 0)), .d (.v (.int .i64 0)), .d (.list 0 [] true)]) (rows' := [[.d (.v (.int .i64 0)), .d (.v (.int .i64 0)), .d (.v (.int .i64 0)), .d (.list 0 [] true), .d (.list 0 [] true), .d (.list 0 [] true), .d (.v (.int .i64 0)), .d (.v (.int .i64 0)), .d (.v (.int .i64 0)), .d (.v (.int .i64 0)), .d (.list 0 [] true)]]) rfl rfl rfl sz38 rfl rfl rfl rfl rfl) ?_
  refine gv hF oA ?_
  refine sn ?_
  refine Sm.ret ?_
  obtain rfl := zb h
  exact zcd (RetR.cons (RetO.cell rfl (zn (ds := [.v (.int .i64 0), .v (.int .i64 0), .v (.int .i64 0), .list 0 [] true, .list 0 [] true, .list 0 [] true, .v (.int .i64 0), .v (.int .i64 0), .v (.int .i64 0), .v (.int .i64 0), .list 0 [] true]) rfl rfl ag38 sz38 rfl rfl)) (RetR.cons (RetO.tmp rfl) (RetR.nil))) (by repeat' first | exact D.le.refl _ | exact D.le_full _ _ _ | exact D.le_nil' _ _ _ | refine D.le_list ?_ | exact LeRows.nil | refine LeRows.cons ?_ ?_ | exact LeL.nil | refine LeL.cons ?_ ?_ | refine D.le_tupL ?_ | refine D.le_aggL ?_)
 replace h := ifF hc4 h
 refine sk ?_
 refine Sm.seq ?_
 refine Sm.drawG hF (by kernel_rfl) rfl 13 (by kernel_rfl) (by kernel_rfl) ?_
 simp only [List.take_succ_cons, List.take_zero, List.take_nil]
 refine hv hF oM ?_
 refine hv hF oM ?_
 refine hv hF oM ?_
 refine hv hF (oN (lenQD u40)) ?_
 refine hv hF oM ?_
 refine hv hF oM ?_
 obtain ⟨x5, hx5, h⟩ := za h
 refine hv hF (oI (idxQD u40 sz33 hx5)) ?_
 refine hv hF (x := .d (.agg 5 (Ps.row x5))) (oL (z3d ag33 sz33 rfl rfl)) ?_
 refine hv hF oM ?_
 refine hv hF oM ?_
 obtain ⟨x6, hx6, h⟩ := za h
 refine hv hF (oI (idxQD u41 sz35 hx6)) ?_
 refine hv hF (x := .d (.agg 2 (Rs.row x6))) (oL (z3d ag35 sz35 rfl rfl)) ?_
 refine hv hF oM ?_
 refine Head.last ⟨rfl, ?_⟩
 simp only [List.drop_succ_cons, List.drop_zero, List.drop_nil, List.nil_append, List.cons_append]
 refine gv hF (x := .d (.agg 11 [.v (.int .i64 a2), .v (.int .i64 a3), .v (.int .i64 (a0.length : Int)), .list 1 (x5.at_.map (rInt .i64)) false, .list 1 (x5.h0.map (rInt .i64)) false, .list 1 (x5.h1.map (rInt .i64)) false, .v (.int .i64 x5.rights), .v (.int .i64 x5.side), .v (.int .i64 x6.out), .v (.int .i64 x6.n), .list 32 (x3.1.map rowS) false])) (zz rfl u38 (by kernel_rfl) rfl (z8 (n := 11) ze38 pl38 rfl rfl)) ?_
 refine SmG.store hF rfl rfl rfl rfl rfl (zy (ys := [.d (.v (.int .i64 a2)), .d (.v (.int .i64 a3)), .d (.v (.int .i64 (a0.length : Int))), .d (.list 1 (x5.at_.map (rInt .i64)) false), .d (.list 1 (x5.h0.map (rInt .i64)) false), .d (.list 1 (x5.h1.map (rInt .i64)) false), .d (.v (.int .i64 x5.rights)), .d (.v (.int .i64 x5.side)), .d (.v (.int .i64 x6.out)), .d (.v (.int .i64 x6.n)), .d (.list 32 (x3.1.map rowS) false)]) (r := [.d (.v (.int .i64 0)), .d (.v (.int .i64 0)), .d (.v (.int .i64 0)), .d (.list 0 [] true), .d (.list 0 [] true), .d (.list 0 [] true), .d (.v (.int .i64 0)), .d (.v (.int .i64 0)), .d (.v (.int .i64 0)), .d (.v (.int .i64 0)), .d (.list 0 [] true)]) (rows' := [[.d (.v (.int .i64 a2)), .d (.v (.int .i64 a3)), .d (.v (.int .i64 (a0.length : Int))), .d (.list 1 (x5.at_.map (rInt .i64)) false), .d (.list 1 (x5.h0.map (rInt .i64)) false), .d (.list 1 (x5.h1.map (rInt .i64)) false), .d (.v (.int .i64 x5.rights)), .d (.v (.int .i64 x5.side)), .d (.v (.int .i64 x6.out)), .d (.v (.int .i64 x6.n)), .d (.list 32 (x3.1.map rowS) false)]]) rfl rfl rfl sz38 rfl rfl rfl rfl rfl) ?_
 refine gv hF oA ?_
 refine sn ?_
 refine Sm.ret ?_
 obtain rfl := zb h
 exact zcd (RetR.cons (RetO.cell rfl (zn (ds := [.v (.int .i64 a2), .v (.int .i64 a3), .v (.int .i64 (a0.length : Int)), .list 1 (x5.at_.map (rInt .i64)) false, .list 1 (x5.h0.map (rInt .i64)) false, .list 1 (x5.h1.map (rInt .i64)) false, .v (.int .i64 x5.rights), .v (.int .i64 x5.side), .v (.int .i64 x6.out), .v (.int .i64 x6.n), .list 32 (x3.1.map rowS) false]) rfl rfl ag38 sz38 rfl rfl)) (RetR.cons (RetO.tmp rfl) (RetR.nil))) (D.le.refl _)
noncomputable def znc (a1 : Rs) (s5 : (Int × (List UInt8))) : Option ((Int × (List UInt8)) ⊕ List UInt8) :=
 bif (decide (0 ≤ s5.1)) then (
  ob (arI .i64 (8 * s5.1)) fun x10 =>
  ob (shrI .i64 a1.n x10) fun x11 =>
  ob (app s5.2 [(w8 x11)]) fun x12 =>
  ob (arI .i64 (s5.1 - 1)) fun x13 =>
  some (.inl (x13, x12))
 ) else (
  some (.inr s5.2)
 )
noncomputable def zge (a0 : Ps) (a1 : Rs) : Option (List UInt8) :=
 ob (zue a0) fun x1 =>
 ob (strI x1) fun x2 =>
 ob (app [(w8 (a0.at_.length : Int)), (w8 (a0.h0.length : Int)), (w8 (a0.h1.length : Int))] x2) fun x3 =>
 ob (app x3 [(w8 a1.out)]) fun x4 =>
 ob ((
  loopO (znc a1) (3, x4)
  : Option (List UInt8))) fun v14 =>
 some v14
set_option maxHeartbeats 4000000 in
theorem zbl {a0 : Ps} {a1 : Rs} {r : List UInt8} (h : zge a0 a1 = some r) : zg Tryd.prog HG 14 [.agg 5 (Ps.row a0), .agg 2 (Rs.row a1)] (.list 1 (r.map rowB) false) := by
 unfold zge at h
 refine zg.of Tryd.func14 rfl Tryd.ntmps14 (by simp) ?_
 intro F hF h0 hT
 show Sm F _ _ ⟨[(0, .d (.agg 5 (Ps.row a0))), (1, .d (.agg 2 (Rs.row a1)))], [], 0⟩
 refine sr hF ?_
 refine SmG.boxP hF boxA ?_
 refine SmG.boxP hF boxA ?_
 refine gv hF oA ?_
 refine sn ?_
 refine sr hF ?_
 refine gv hF (oF (ze zci rfl)) ?_
 refine gv hF (oL (lP1 ag30 rfl)) ?_
 refine gv hF (oN (lenQD u30)) ?_
 refine gv hF (oC (z6g u3 u5)) ?_
 refine gv hF (oF (ze zmd rfl)) ?_
 refine gv hF (oI (idxAP u31 sz30 rfl rfl)) ?_
 refine gv hF (oL (lP1 ag30 rfl)) ?_
 refine gv hF (oN (lenQD u30)) ?_
 refine gv hF (oC (z6g u3 u5)) ?_
 refine gv hF (oF (ze zmd rfl)) ?_
 refine gv hF (oI (idxAP u31 sz30 rfl rfl)) ?_
 refine gv hF (oL (lP1 ag30 rfl)) ?_
 refine gv hF (oN (lenQD u30)) ?_
 refine gv hF (oC (z6g u3 u5)) ?_
 refine SmG.buildOwn hF (rows := ([(w8 (a0.at_.length : Int)), (w8 (a0.h0.length : Int)), (w8 (a0.h1.length : Int))].map rowB)) rfl rfl rfl rfl rfl (zl Tryd.underlying24 sz5 ze5 rfl rfl (PartsQ.cons rfl (PartsQ.cons rfl (PartsQ.cons rfl (PartsQ.nil _)))) rfl) (by simp) ?_
 refine gv hF oA ?_
 refine sn ?_
 refine sr hF ?_
 refine gv hF oM ?_
 refine gv hF (x := .d (.agg 5 (Ps.row a0))) (oL (z3d ag33 sz33 rfl rfl)) ?_
 obtain ⟨x1, hx1, h⟩ := za h
 refine SmG.call hF rfl rfl (by kernel_rfl) rfl rfl rfl (zkl hx1) ?_
 obtain ⟨x2, hx2, h⟩ := za h
 refine SmG.ofString hF rfl rfl rfl rfl rfl Tryd.underlying9 Tryd.underlying24 Tryd.underlying5 hx2 ?_
 obtain ⟨x3, hx3, h⟩ := za h
 refine SmG.appendOwnL hF el24 rfl (ys := x2) (row := rowB) rfl rfl rfl rfl rfl rfl rfl rfl (.inl rfl) hx3 (by (repeat' first | exact zqb _ | refine zib ?_ | refine zi ?_ (z6 _ _ _) | refine zi ?_ (z6 _ _ [_]) | refine zi ?_ (z2b (by rfl)))) ?_
 refine gv hF oA ?_
 refine sn ?_
 refine sr hF ?_
 refine gv hF oM ?_
 refine gv hF (oF (ze zbq rfl)) ?_
 refine gv hF (oL (lP1 ag3 rfl)) ?_
 refine gv hF (oC (z6g u3 u5)) ?_
 refine gv hF (x := .d (.list 1 ([(w8 a1.out)].map rowB) true)) (oS (zl u24 sz5 ze5 rfl rfl (PartsQ.cons rfl (PartsQ.nil _)) rfl)) ?_
 obtain ⟨x4, hx4, h⟩ := za h
 refine SmG.appendOwnL hF el24 rfl (ys := [(w8 a1.out)]) (row := rowB) rfl rfl rfl rfl rfl rfl rfl rfl (.inl rfl) hx4 (by (repeat' first | exact zqb _ | refine zib ?_ | refine zi ?_ (z6 _ _ _) | refine zi ?_ (z6 _ _ [_]) | refine zi ?_ (z2b (by rfl)))) ?_
 refine gv hF oA ?_
 refine sn ?_
 refine Sm.seq ?_
 obtain ⟨v14, hv14, h⟩ := za h
 refine Sm.joinT ⟨[(5, .sref 0 0 (v14.map rowB).length)], [(0, dB 1 (v14.map rowB))], 1⟩ ?_ ?_
 ·refine Sm.seq ?_
  refine Sm.regionG hF rfl ?_
  refine gv hF oM ?_
  refine gv hF oA ?_
  refine sn ?_
  refine Sm.to (St.to_trans (toK (e := [(4, .sref 0 0 (v14.map rowB).length)]) (g := [(0, dB 1 (v14.map rowB))]) (m := 1) ⟨rfl, trivial⟩ ⟨rfl, trivial⟩) (St.to_frz (l := 0) (sz := 1) (env' := [(4, .d (.list 1 (v14.map rowB) false))]) (h' := []) (nx := 1) (v14.map rowB) rfl ⟨⟨_, rfl, zjc⟩, trivial⟩ trivial)) ?_
  refine Sm.ret ?_
  obtain rfl := zb h
  exact ret1 rfl rfl
 replace h := hv14
 refine sr hF ?_
 refine gv hF oA ?_
 refine sn ?_
 refine Sm.block ?_
 refine Sm.loopT (znc a1) (fun s5 => ⟨[(3, .d (.ptr 2 (Rs.row a1))), (5, .sref 0 0 (s5.2.map rowB).length), (6, .d (.v (.int .i64 s5.1)))], [(0, dB 1 (s5.2.map rowB))], 1⟩) (3, x4) h (toK ⟨rfl, rfl, rfl, trivial⟩ ⟨rfl, trivial⟩) ?_
 intro n6 s5 o7 h hd8
 unfold znc at h
 refine Sm.seq ?_
 refine sr hF ?_
 refine gv hF oM ?_
 refine gv hF (oB (c_geq)) ?_
 refine sn ?_
 refine Sm.condU hF rfl (fun hc9 => ?_) (fun hc9 => ?_)
 ·replace h := ifF hc9 h
  refine Sm.exit ?_
  replace h := zw h hd8
  obtain rfl := zb h
  exact (toK ⟨rfl, trivial⟩ ⟨rfl, trivial⟩)
 replace h := ifT hc9 h
 refine sk ?_
 refine Sm.seq ?_
 refine Sm.block ?_
 refine Sm.regionG hF rfl ?_
 refine gv hF oM ?_
 refine gv hF (oF (ze zek rfl)) ?_
 refine gv hF (oL (lP1 ag3 rfl)) ?_
 refine gv hF oM ?_
 obtain ⟨x10, hx10, h⟩ := za h
 refine gv hF (oB (zxg hx10)) ?_
 obtain ⟨x11, hx11, h⟩ := za h
 refine gv hF (oB (zfh hx11)) ?_
 refine gv hF (oC (z6g u3 u5)) ?_
 refine gv hF (x := .d (.list 1 ([(w8 x11)].map rowB) true)) (oS (zl u24 sz5 ze5 rfl rfl (PartsQ.cons rfl (PartsQ.nil _)) rfl)) ?_
 obtain ⟨x12, hx12, h⟩ := za h
 refine SmG.appendOwnL hF el24 rfl (ys := [(w8 x11)]) (row := rowB) rfl rfl rfl rfl rfl rfl rfl rfl (.inl rfl) hx12 (by (repeat' first | exact zqb _ | refine zib ?_ | refine zi ?_ (z6 _ _ _) | refine zi ?_ (z6 _ _ [_]) | refine zi ?_ (z2b (by rfl)))) ?_
 refine gv hF oA ?_
 refine SmG.nil ?_
 refine zk ?_
 refine zd ?_
 refine Sm.regionG hF rfl ?_
 refine gv hF oM ?_
 obtain ⟨x13, hx13, h⟩ := za h
 refine gv hF (oB (z4l hx13)) ?_
 refine gv hF oA ?_
 refine SmG.nil ?_
 exact ztb (zhb h hd8) (toK ⟨rfl, rfl, rfl, trivial⟩ ⟨rfl, trivial⟩)
end
section
open Go.RowKit
set_option maxRecDepth 100000
noncomputable def z5f (a0 : Int) (a1 : Int) (a2 : Int) : Option Bool :=
 bif (decide (a1 ≤ a0)) then (
  some (decide (a0 ≤ a2))
 ) else (
  some false
 )
set_option maxHeartbeats 4000000 in
theorem zan {a0 : Int} {a1 : Int} {a2 : Int} {r : Bool} (h : z5f a0 a1 a2 = some r) : zg Tryd.prog HG 88 [.v (.int .i64 a0), .ptr 1 [.v (.int .i64 a1)], .ptr 1 [.v (.int .i64 a2)]] (.v (.bool r)) := by
 unfold z5f at h
 refine zg.of Tryd.func88 rfl Tryd.ntmps88 (by simp) ?_
 intro F hF h0 hT
 show Sm F _ _ ⟨[(0, .d (.v (.int .i64 a0))), (1, .d (.ptr 1 [.v (.int .i64 a1)])), (2, .d (.ptr 1 [.v (.int .i64 a2)]))], [], 0⟩
 refine sr hF ?_
 refine gv hF oA ?_
 refine sn ?_
 refine sr hF ?_
 refine gv hF (oL (lP1 ag3 rfl)) ?_
 refine gv hF oM ?_
 refine gv hF (oB (c_leq)) ?_
 rcases z7h (decide (a1 ≤ a0)) with hc1 | hc1
 ·replace h := ifT hc1 h
  refine gv hF (zj rfl rfl hc1) ?_
  refine gv hF oM ?_
  refine gv hF (oL (lP1 ag3 rfl)) ?_
  refine gv hF (oB (c_leq)) ?_
  refine gv hF (zu rfl rfl rfl) ?_
  refine gv hF oA ?_
  refine sn ?_
  refine Sm.ret ?_
  obtain rfl := zb h
  exact ret1 rfl rfl
 replace h := ifF hc1 h
 refine gv hF (zj rfl rfl hc1) ?_
 refine gp hF ?_
 refine gp hF ?_
 refine gp hF ?_
 refine gv hF (zf rfl rfl rfl) ?_
 refine gv hF oA ?_
 refine sn ?_
 refine Sm.ret ?_
 obtain rfl := zb h
 exact ret1 rfl rfl
noncomputable def zcg (a0 : Int) (a1 : Int) : Option (FnV Tryd.prog HG (α := Int) (β := Bool) (fun x => [.v (.int .i64 x)]) (fun y => .v (.bool y))) :=
 some (⟨88, [.ptr 1 [.v (.int .i64 a0)], .ptr 1 [.v (.int .i64 a1)]], fun x => z5f x a0 a1, by kernel_rfl, fun x y h => zan h⟩ : (FnV Tryd.prog HG (α := Int) (β := Bool) (fun x => [.v (.int .i64 x)]) (fun y => .v (.bool y))))
set_option maxHeartbeats 4000000 in
theorem zli {a0 : Int} {a1 : Int} {r : (FnV Tryd.prog HG (α := Int) (β := Bool) (fun x => [.v (.int .i64 x)]) (fun y => .v (.bool y)))} (h : zcg a0 a1 = some r) : zg Tryd.prog HG 67 [.v (.int .i64 a0), .v (.int .i64 a1)] (.fn r.g r.c) := by
 unfold zcg at h
 refine zg.of Tryd.func67 rfl Tryd.ntmps67 (by simp) ?_
 intro F hF h0 hT
 show Sm F _ _ ⟨[(0, .d (.v (.int .i64 a0))), (1, .d (.v (.int .i64 a1)))], [], 0⟩
 refine sr hF ?_
 refine SmG.boxP hF boxI ?_
 refine SmG.boxP hF boxI ?_
 refine gv hF oA ?_
 refine sn ?_
 refine sr hF ?_
 refine gv hF (zuf rfl rfl) ?_
 refine gv hF oA ?_
 refine sn ?_
 refine Sm.ret ?_
 obtain rfl := zb h
 exact ret1 rfl rfl
noncomputable def zyb (a0 : List Int) (a1 : (FnV Tryd.prog HG (α := Int) (β := Bool) (fun x => [.v (.int .i64 x)]) (fun y => .v (.bool y)))) (s1 : Int) : Option (Int ⊕ (Unit ⊕ Int)) :=
 bif (decide (s1 < (a0.length : Int))) then (
  ob (idx a0 s1) fun x6 =>
  ob (a1.f x6) fun x7 =>
  bif x7 then (
   some (.inr (.inr s1))
  ) else (
   ob (arI .i64 (s1 + 1)) fun x9 =>
   some (.inl x9)
  )
 ) else (
  some (.inr (.inl ()))
 )
noncomputable def z6c (a0 : List Int) (a1 : (FnV Tryd.prog HG (α := Int) (β := Bool) (fun x => [.v (.int .i64 x)]) (fun y => .v (.bool y)))) : Option Int :=
 ob ((
  loopO (zyb a0 a1) 0
  : Option (Unit ⊕ Int))) fun o11 => match o11 with
 | .inl v10 => (
  some (-1)
  )
 | .inr e12 => some e12
set_option maxHeartbeats 4000000 in
theorem zeh {a0 : List Int} {a1 : (FnV Tryd.prog HG (α := Int) (β := Bool) (fun x => [.v (.int .i64 x)]) (fun y => .v (.bool y)))} {r : Int} (h : z6c a0 a1 = some r) : zg Tryd.prog HG 89 [.list 1 (a0.map (rInt .i64)) false, .fn a1.g a1.c] (.v (.int .i64 r)) := by
 unfold z6c at h
 refine zg.of Tryd.func89 rfl Tryd.ntmps89 (by simp) ?_
 intro F hF h0 hT
 show Sm F _ _ ⟨[(0, .d (.list 1 (a0.map (rInt .i64)) false)), (1, .d (.fn a1.g a1.c))], [], 0⟩
 refine sr hF ?_
 refine gv hF oA ?_
 refine sn ?_
 refine Sm.seq ?_
 obtain ⟨o11, ho11, h⟩ := za h
 rcases ocase o11 with ⟨e12, rfl⟩ | ⟨v10, rfl⟩
 ·have he12 := zb h
  subst he12
  replace h := ho11
  refine sr hF ?_
  refine gv hF oM ?_
  refine gv hF (oN (lenQD u30)) ?_
  refine gv hF oM ?_
  refine sn ?_
  refine Sm.block ?_
  refine Sm.loopT (zyb a0 a1) (fun s1 => ⟨[(0, .d (.list 1 (a0.map (rInt .i64)) false)), (1, .d (.fn a1.g a1.c)), (7, .d (.v (.int .i64 (a0.length : Int)))), (8, .d (.v (.int .i64 s1)))], [], 0⟩) 0 h (toK ⟨rfl, rfl, rfl, rfl, trivial⟩ trivial) ?_
  intro n2 s1 o3 h hd4
  unfold zyb at h
  refine sr hF ?_
  refine gv hF (oB (c_lss)) ?_
  refine sn ?_
  refine Sm.seq ?_
  refine Sm.condU hF rfl (fun hc5 => ?_) (fun hc5 => ?_)
  ·replace h := ifF hc5 h
   refine Sm.exit ?_
   replace h := zw h hd4
   cases h
  replace h := ifT hc5 h
  refine sk ?_
  refine Sm.seq ?_
  refine Sm.block ?_
  refine sr hF ?_
  refine gv hF oM ?_
  refine gv hF oA ?_
  refine sn ?_
  refine sr hF ?_
  refine gv hF oM ?_
  refine gv hF oM ?_
  refine gv hF oM ?_
  obtain ⟨x6, hx6, h⟩ := za h
  refine gv hF (oI (idxQD u30 sz3 hx6)) ?_
  refine gv hF (oL (lP1 ag3 rfl)) ?_
  obtain ⟨x7, hx7, h⟩ := za h
  refine SmG.callF hF rfl rfl rfl rfl rfl rfl a1.body (a1.ok _ _ hx7) ?_
  refine sn ?_
  refine Sm.condU hF rfl (fun hc8 => ?_) (fun hc8 => ?_)
  ·replace h := ifF hc8 h
   refine Sm.skip ?_
   refine zk ?_
   refine zd ?_
   refine Sm.regionG hF rfl ?_
   obtain ⟨x9, hx9, h⟩ := za h
   refine gv hF (oB (z7 hx9)) ?_
   refine gv hF oM ?_
   refine SmG.nil ?_
   exact ztb (zhb h hd4) (toK ⟨rfl, rfl, rfl, rfl, trivial⟩ trivial)
  replace h := ifT hc8 h
  refine sr hF ?_
  refine gv hF oM ?_
  refine gv hF oA ?_
  refine sn ?_
  refine Sm.ret ?_
  replace h := zw h hd4
  replace h := zhk h
  obtain rfl := zb h
  exact ret1 rfl rfl
 refine Sm.joinT ⟨[], [], 0⟩ ?_ ?_
 ·refine Sm.seq ?_
  refine Sm.regionG hF rfl ?_
  refine gv hF oA ?_
  refine sn ?_
  refine Sm.ret ?_
  obtain rfl := zb h
  exact ret1 rfl rfl
 replace h := ho11
 refine sr hF ?_
 refine gv hF oM ?_
 refine gv hF (oN (lenQD u30)) ?_
 refine gv hF oM ?_
 refine sn ?_
 refine Sm.block ?_
 refine Sm.loopT (zyb a0 a1) (fun s1 => ⟨[(0, .d (.list 1 (a0.map (rInt .i64)) false)), (1, .d (.fn a1.g a1.c)), (7, .d (.v (.int .i64 (a0.length : Int)))), (8, .d (.v (.int .i64 s1)))], [], 0⟩) 0 h (toK ⟨rfl, rfl, rfl, rfl, trivial⟩ trivial) ?_
 intro n2 s1 o3 h hd4
 unfold zyb at h
 refine sr hF ?_
 refine gv hF (oB (c_lss)) ?_
 refine sn ?_
 refine Sm.seq ?_
 refine Sm.condU hF rfl (fun hc5 => ?_) (fun hc5 => ?_)
 ·replace h := ifF hc5 h
  refine Sm.exit ?_
  replace h := zw h hd4
  obtain rfl := zb (zqg h)
  exact (toK trivial trivial)
 replace h := ifT hc5 h
 refine sk ?_
 refine Sm.seq ?_
 refine Sm.block ?_
 refine sr hF ?_
 refine gv hF oM ?_
 refine gv hF oA ?_
 refine sn ?_
 refine sr hF ?_
 refine gv hF oM ?_
 refine gv hF oM ?_
 refine gv hF oM ?_
 obtain ⟨x6, hx6, h⟩ := za h
 refine gv hF (oI (idxQD u30 sz3 hx6)) ?_
 refine gv hF (oL (lP1 ag3 rfl)) ?_
 obtain ⟨x7, hx7, h⟩ := za h
 refine SmG.callF hF rfl rfl rfl rfl rfl rfl a1.body (a1.ok _ _ hx7) ?_
 refine sn ?_
 refine Sm.condB hF rfl (fun hc8 => ?_) (fun hc8 => ?_)
 ·replace h := ifT hc8 h
  refine sr hF ?_
  refine gv hF oM ?_
  refine gv hF oA ?_
  refine sn ?_
  refine Sm.ret ?_
  replace h := zw h hd4
  cases h
 replace h := ifF hc8 h
 refine Sm.skip ?_
 refine zk ?_
 refine zd ?_
 refine Sm.regionG hF rfl ?_
 obtain ⟨x9, hx9, h⟩ := za h
 refine gv hF (oB (z7 hx9)) ?_
 refine gv hF oM ?_
 refine SmG.nil ?_
 exact ztb (zhb h hd4) (toK ⟨rfl, rfl, rfl, rfl, trivial⟩ trivial)
noncomputable def zec (a0 : List Int) (a1 : (FnV Tryd.prog HG (α := Int) (β := Bool) (fun x => [.v (.int .i64 x)]) (fun y => .v (.bool y)))) : Option Bool :=
 ob (z6c a0 a1) fun x1 =>
 some (decide (0 ≤ x1))
set_option maxHeartbeats 4000000 in
theorem zwg {a0 : List Int} {a1 : (FnV Tryd.prog HG (α := Int) (β := Bool) (fun x => [.v (.int .i64 x)]) (fun y => .v (.bool y)))} {r : Bool} (h : zec a0 a1 = some r) : zg Tryd.prog HG 69 [.list 1 (a0.map (rInt .i64)) false, .fn a1.g a1.c] (.v (.bool r)) := by
 unfold zec at h
 refine zg.of Tryd.func69 rfl Tryd.ntmps69 (by simp) ?_
 intro F hF h0 hT
 show Sm F _ _ ⟨[(0, .d (.list 1 (a0.map (rInt .i64)) false)), (1, .d (.fn a1.g a1.c))], [], 0⟩
 refine sr hF ?_
 refine gv hF oA ?_
 refine sn ?_
 refine sr hF ?_
 refine gv hF oM ?_
 refine gv hF oM ?_
 obtain ⟨x1, hx1, h⟩ := za h
 refine SmG.call hF rfl rfl (by kernel_rfl) rfl rfl rfl (zeh hx1) ?_
 refine gv hF (oB (c_geq)) ?_
 refine gv hF oA ?_
 refine sn ?_
 refine Sm.ret ?_
 obtain rfl := zb h
 exact ret1 rfl rfl
noncomputable def zie (a0 : Int) (a1 : (FnV Tryd.prog HG (α := Int) (β := Bool) (fun x => [.v (.int .i64 x)]) (fun y => .v (.bool y)))) : Option Bool :=
 ob (a1.f a0) fun x1 =>
 some (!x1)
set_option maxHeartbeats 4000000 in
theorem zqk {a0 : Int} {a1 : (FnV Tryd.prog HG (α := Int) (β := Bool) (fun x => [.v (.int .i64 x)]) (fun y => .v (.bool y)))} {r : Bool} (h : zie a0 a1 = some r) : zg Tryd.prog HG 70 [.v (.int .i64 a0), .ptr 1 [.fn a1.g a1.c]] (.v (.bool r)) := by
 unfold zie at h
 refine zg.of Tryd.func70 rfl Tryd.ntmps70 (by simp) ?_
 intro F hF h0 hT
 show Sm F _ _ ⟨[(0, .d (.v (.int .i64 a0))), (1, .d (.ptr 1 [.fn a1.g a1.c]))], [], 0⟩
 refine sr hF ?_
 refine gv hF oA ?_
 refine sn ?_
 refine sr hF ?_
 refine gv hF (oL (lP1 ag127 rfl)) ?_
 refine gv hF oM ?_
 obtain ⟨x1, hx1, h⟩ := za h
 refine SmG.callF hF rfl rfl rfl rfl rfl rfl a1.body (a1.ok _ _ hx1) ?_
 refine gv hF (z5i rfl rfl (zfk _)) ?_
 refine gv hF oA ?_
 refine sn ?_
 refine Sm.ret ?_
 obtain rfl := zb h
 exact ret1 rfl rfl
noncomputable def zkd (a0 : List Int) (a1 : (FnV Tryd.prog HG (α := Int) (β := Bool) (fun x => [.v (.int .i64 x)]) (fun y => .v (.bool y)))) : Option Bool :=
 bif (decide ((a0.length : Int) ≤ 255)) then (
  ob (zec a0 (⟨70, [.ptr 1 [.fn a1.g a1.c]], fun x => zie x a1, by kernel_rfl, fun x y h => zqk h⟩ : (FnV Tryd.prog HG (α := Int) (β := Bool) (fun x => [.v (.int .i64 x)]) (fun y => .v (.bool y))))) fun x2 =>
  some (!x2)
 ) else (
  some false
 )
set_option maxHeartbeats 4000000 in
theorem zng {a0 : List Int} {a1 : (FnV Tryd.prog HG (α := Int) (β := Bool) (fun x => [.v (.int .i64 x)]) (fun y => .v (.bool y)))} {r : Bool} (h : zkd a0 a1 = some r) : zg Tryd.prog HG 68 [.list 1 (a0.map (rInt .i64)) false, .ptr 1 [.fn a1.g a1.c]] (.v (.bool r)) := by
 unfold zkd at h
 refine zg.of Tryd.func68 rfl Tryd.ntmps68 (by simp) ?_
 intro F hF h0 hT
 show Sm F _ _ ⟨[(0, .d (.list 1 (a0.map (rInt .i64)) false)), (1, .d (.ptr 1 [.fn a1.g a1.c]))], [], 0⟩
 refine sr hF ?_
 refine gv hF oA ?_
 refine sn ?_
 refine sr hF ?_
 refine gv hF oM ?_
 refine gv hF (oN (lenQD u30)) ?_
 refine gv hF (oB (c_leq)) ?_
 rcases zzb (decide ((a0.length : Int) ≤ 255)) with hc1 | hc1
 ·replace h := ifF hc1 h
  refine gv hF (zj rfl rfl hc1) ?_
  refine gp hF ?_
  refine gp hF ?_
  refine gp hF ?_
  refine gp hF ?_
  refine gv hF (zf rfl rfl rfl) ?_
  refine gv hF oA ?_
  refine sn ?_
  refine Sm.ret ?_
  obtain rfl := zb h
  exact ret1 rfl rfl
 replace h := ifT hc1 h
 refine gv hF (zj rfl rfl hc1) ?_
 refine gv hF oM ?_
 refine gv hF (zuf rfl rfl) ?_
 obtain ⟨x2, hx2, h⟩ := za h
 refine SmG.call hF rfl rfl (by kernel_rfl) rfl rfl rfl (zwg hx2) ?_
 refine gv hF (z5i rfl rfl (zfk _)) ?_
 refine gv hF (zu rfl rfl rfl) ?_
 refine gv hF oA ?_
 refine sn ?_
 refine Sm.ret ?_
 obtain rfl := zb h
 exact ret1 rfl rfl
noncomputable def zwf (a0 : Ps) (a1 : Rs) : Option Bool :=
 ob (zcg 0 255) fun x1 =>
 ob (zkd a0.at_ x1) fun x2 =>
 bif x2 then (
  ob (zkd a0.h0 x1) fun x4 =>
  bif x4 then (
   ob (zkd a0.h1 x1) fun x6 =>
   bif x6 then (
    ob (x1.f a0.rights) fun x8 =>
    bif x8 then (
     ob (x1.f a0.side) fun x10 =>
     bif x10 then (
      ob (zcg 1 3) fun x12 =>
      ob (x12.f a1.out) fun x13 =>
      bif x13 then (
       ob (zcg 0 2147483647) fun x15 =>
       ob (x15.f a1.n) fun x16 =>
       some x16
      ) else (
       some false
      )
     ) else (
      some false
     )
    ) else (
     some false
    )
   ) else (
    some false
   )
  ) else (
   some false
  )
 ) else (
  some false
 )
set_option maxHeartbeats 4000000 in
theorem zvm {a0 : Ps} {a1 : Rs} {r : Bool} (h : zwf a0 a1 = some r) : zg Tryd.prog HG 44 [.agg 5 (Ps.row a0), .agg 2 (Rs.row a1)] (.v (.bool r)) := by
 unfold zwf at h
 refine zg.of Tryd.func44 rfl Tryd.ntmps44 (by simp) ?_
 intro F hF h0 hT
 show Sm F _ _ ⟨[(0, .d (.agg 5 (Ps.row a0))), (1, .d (.agg 2 (Rs.row a1)))], [], 0⟩
 refine sr hF ?_
 refine SmG.boxP hF boxA ?_
 refine SmG.boxP hF boxA ?_
 refine gv hF oA ?_
 refine sn ?_
 refine sr hF ?_
 obtain ⟨x1, hx1, h⟩ := za h
 refine SmG.call hF rfl rfl (by kernel_rfl) rfl rfl rfl (zli hx1) ?_
 refine SmG.new hF rfl rfl rfl (zx rfl al127) ?_
 refine SmG.store hF rfl rfl rfl rfl rfl (zmc (rows' := [[.d (.fn x1.g x1.c)]]) rfl rfl rfl sz127 rfl rfl rfl) ?_
 refine sn ?_
 refine sr hF ?_
 refine SmG.toX (St.to_trans (toK (e := [(2, .d (.ptr 5 (Ps.row a0))), (3, .d (.ptr 2 (Rs.row a1))), (5, .ref 0 0 0)]) (g := [(0, ⟨1, [[.d (.fn x1.g x1.c)]]⟩)]) (m := 1) ⟨rfl, rfl, rfl, trivial⟩ ⟨rfl, trivial⟩) (St.to_frz (l := 0) (sz := 1) (env' := [(2, .d (.ptr 5 (Ps.row a0))), (3, .d (.ptr 2 (Rs.row a1))), (5, .d (.ptr 1 [.fn x1.g x1.c]))]) (h' := []) (nx := 1) [[.fn x1.g x1.c]] rfl ⟨⟨_, rfl, rfl⟩, ⟨_, rfl, rfl⟩, ⟨_, rfl, rfl⟩, trivial⟩ trivial)) rfl ?_
 refine gv hF (zuf rfl rfl) ?_
 refine gv hF oA ?_
 refine sn ?_
 refine Sm.seq ?_
 refine Sm.drawG hF (by kernel_rfl) rfl 40 (by kernel_rfl) (by kernel_rfl) ?_
 simp only [List.take_succ_cons, List.take_zero, List.take_nil]
 refine hv hF oM ?_
 refine hv hF (oF (ze zci rfl)) ?_
 refine hv hF (oL (lP1 ag30 rfl)) ?_
 obtain ⟨x2, hx2, h⟩ := za h
 refine Head.cf hF rfl rfl rfl rfl rfl rfl (by kernel_rfl) (zng hx2) ?_
 rcases zzb x2 with hc3 | hc3
 ·replace h := ifF hc3 h
  refine hv hF (zj rfl rfl hc3) ?_
  refine hp hF ?_
  refine hp hF ?_
  refine hp hF ?_
  refine hp hF ?_
  refine hp hF ?_
  refine hv hF (zf rfl rfl rfl) ?_
  refine hv hF oM ?_
  refine hp hF ?_
  refine hp hF ?_
  refine hp hF ?_
  refine hp hF ?_
  refine hp hF ?_
  refine hv hF (zf rfl rfl rfl) ?_
  refine hv hF oM ?_
  refine hp hF ?_
  refine hp hF ?_
  refine hp hF ?_
  refine hp hF ?_
  refine hv hF (zf rfl rfl rfl) ?_
  refine hv hF oM ?_
  refine hp hF ?_
  refine hp hF ?_
  refine hp hF ?_
  refine hp hF ?_
  refine hv hF (zf rfl rfl rfl) ?_
  refine hv hF oM ?_
  refine hp hF ?_
  refine hp hF ?_
  refine hp hF ?_
  refine hp hF ?_
  refine hv hF (zf rfl rfl rfl) ?_
  refine hv hF oM ?_
  refine hp hF ?_
  refine hp hF ?_
  refine hp hF ?_
  refine Head.last ⟨rfl, ?_⟩
  simp only [List.drop_succ_cons, List.drop_zero, List.drop_nil, List.nil_append, List.cons_append]
  refine gp hF ?_
  refine gv hF (zf rfl rfl rfl) ?_
  refine gv hF oA ?_
  refine sn ?_
  refine Sm.ret ?_
  obtain rfl := zb h
  exact ret1 rfl rfl
 replace h := ifT hc3 h
 refine hv hF (zj rfl rfl hc3) ?_
 refine hv hF oM ?_
 refine hv hF (oF (ze zmd rfl)) ?_
 refine hv hF (oI (idxAP u31 sz30 rfl rfl)) ?_
 refine hv hF (oL (lP1 ag30 rfl)) ?_
 obtain ⟨x4, hx4, h⟩ := za h
 refine Head.cf hF rfl rfl rfl rfl rfl rfl (by kernel_rfl) (zng hx4) ?_
 refine hv hF (zu rfl rfl rfl) ?_
 rcases zzb x4 with hc5 | hc5
 ·replace h := ifF hc5 h
  refine hv hF (zj rfl rfl hc5) ?_
  refine hp hF ?_
  refine hp hF ?_
  refine hp hF ?_
  refine hp hF ?_
  refine hp hF ?_
  refine hv hF (zf rfl rfl rfl) ?_
  refine hv hF oM ?_
  refine hp hF ?_
  refine hp hF ?_
  refine hp hF ?_
  refine hp hF ?_
  refine hv hF (zf rfl rfl rfl) ?_
  refine hv hF oM ?_
  refine hp hF ?_
  refine hp hF ?_
  refine hp hF ?_
  refine hp hF ?_
  refine hv hF (zf rfl rfl rfl) ?_
  refine hv hF oM ?_
  refine hp hF ?_
  refine hp hF ?_
  refine hp hF ?_
  refine hp hF ?_
  refine hv hF (zf rfl rfl rfl) ?_
  refine hv hF oM ?_
  refine hp hF ?_
  refine hp hF ?_
  refine hp hF ?_
  refine Head.last ⟨rfl, ?_⟩
  simp only [List.drop_succ_cons, List.drop_zero, List.drop_nil, List.nil_append, List.cons_append]
  refine gp hF ?_
  refine gv hF (zf rfl rfl rfl) ?_
  refine gv hF oA ?_
  refine sn ?_
  refine Sm.ret ?_
  obtain rfl := zb h
  exact ret1 rfl rfl
 replace h := ifT hc5 h
 refine hv hF (zj rfl rfl hc5) ?_
 refine hv hF oM ?_
 refine hv hF (oF (ze zmd rfl)) ?_
 refine hv hF (oI (idxAP u31 sz30 rfl rfl)) ?_
 refine hv hF (oL (lP1 ag30 rfl)) ?_
 obtain ⟨x6, hx6, h⟩ := za h
 refine Head.cf hF rfl rfl rfl rfl rfl rfl (by kernel_rfl) (zng hx6) ?_
 refine hv hF (zu rfl rfl rfl) ?_
 rcases zzb x6 with hc7 | hc7
 ·replace h := ifF hc7 h
  refine hv hF (zj rfl rfl hc7) ?_
  refine hp hF ?_
  refine hp hF ?_
  refine hp hF ?_
  refine hp hF ?_
  refine hv hF (zf rfl rfl rfl) ?_
  refine hv hF oM ?_
  refine hp hF ?_
  refine hp hF ?_
  refine hp hF ?_
  refine hp hF ?_
  refine hv hF (zf rfl rfl rfl) ?_
  refine hv hF oM ?_
  refine hp hF ?_
  refine hp hF ?_
  refine hp hF ?_
  refine hp hF ?_
  refine hv hF (zf rfl rfl rfl) ?_
  refine hv hF oM ?_
  refine hp hF ?_
  refine hp hF ?_
  refine hp hF ?_
  refine Head.last ⟨rfl, ?_⟩
  simp only [List.drop_succ_cons, List.drop_zero, List.drop_nil, List.nil_append, List.cons_append]
  refine gp hF ?_
  refine gv hF (zf rfl rfl rfl) ?_
  refine gv hF oA ?_
  refine sn ?_
  refine Sm.ret ?_
  obtain rfl := zb h
  exact ret1 rfl rfl
 replace h := ifT hc7 h
 refine hv hF (zj rfl rfl hc7) ?_
 refine hv hF (oL (lP1 ag127 rfl)) ?_
 refine hv hF (oF (ze zwl rfl)) ?_
 refine hv hF (oL (lP1 ag3 rfl)) ?_
 obtain ⟨x8, hx8, h⟩ := za h
 refine Head.cf hF rfl rfl rfl rfl rfl rfl x1.body (x1.ok _ _ hx8) ?_
 refine hv hF (zu rfl rfl rfl) ?_
 rcases zzb x8 with hc9 | hc9
 ·replace h := ifF hc9 h
  refine hv hF (zj rfl rfl hc9) ?_
  refine hp hF ?_
  refine hp hF ?_
  refine hp hF ?_
  refine hp hF ?_
  refine hv hF (zf rfl rfl rfl) ?_
  refine hv hF oM ?_
  refine hp hF ?_
  refine hp hF ?_
  refine hp hF ?_
  refine hp hF ?_
  refine hv hF (zf rfl rfl rfl) ?_
  refine hv hF oM ?_
  refine hp hF ?_
  refine hp hF ?_
  refine hp hF ?_
  refine Head.last ⟨rfl, ?_⟩
  simp only [List.drop_succ_cons, List.drop_zero, List.drop_nil, List.nil_append, List.cons_append]
  refine gp hF ?_
  refine gv hF (zf rfl rfl rfl) ?_
  refine gv hF oA ?_
  refine sn ?_
  refine Sm.ret ?_
  obtain rfl := zb h
  exact ret1 rfl rfl
 replace h := ifT hc9 h
 refine hv hF (zj rfl rfl hc9) ?_
 refine hv hF (oL (lP1 ag127 rfl)) ?_
 refine hv hF (oF (ze zpl rfl)) ?_
 refine hv hF (oL (lP1 ag3 rfl)) ?_
 obtain ⟨x10, hx10, h⟩ := za h
 refine Head.cf hF rfl rfl rfl rfl rfl rfl x1.body (x1.ok _ _ hx10) ?_
 refine hv hF (zu rfl rfl rfl) ?_
 rcases zzb x10 with hc11 | hc11
 ·replace h := ifF hc11 h
  refine hv hF (zj rfl rfl hc11) ?_
  refine hp hF ?_
  refine hp hF ?_
  refine hp hF ?_
  refine hp hF ?_
  refine hv hF (zf rfl rfl rfl) ?_
  refine hv hF oM ?_
  refine hp hF ?_
  refine hp hF ?_
  refine hp hF ?_
  refine Head.last ⟨rfl, ?_⟩
  simp only [List.drop_succ_cons, List.drop_zero, List.drop_nil, List.nil_append, List.cons_append]
  refine gp hF ?_
  refine gv hF (zf rfl rfl rfl) ?_
  refine gv hF oA ?_
  refine sn ?_
  refine Sm.ret ?_
  obtain rfl := zb h
  exact ret1 rfl rfl
 replace h := ifT hc11 h
 refine hv hF (zj rfl rfl hc11) ?_
 obtain ⟨x12, hx12, h⟩ := za h
 refine Head.c hF rfl rfl (by kernel_rfl) rfl rfl rfl (zli hx12) ?_
 refine hv hF (oF (ze zbq rfl)) ?_
 refine hv hF (oL (lP1 ag3 rfl)) ?_
 obtain ⟨x13, hx13, h⟩ := za h
 refine Head.cf hF rfl rfl rfl rfl rfl rfl x12.body (x12.ok _ _ hx13) ?_
 refine hv hF (zu rfl rfl rfl) ?_
 rcases zzb x13 with hc14 | hc14
 ·replace h := ifF hc14 h
  refine hv hF (zj rfl rfl hc14) ?_
  refine hp hF ?_
  refine hp hF ?_
  refine hp hF ?_
  refine Head.last ⟨rfl, ?_⟩
  simp only [List.drop_succ_cons, List.drop_zero, List.drop_nil, List.nil_append, List.cons_append]
  refine gp hF ?_
  refine gv hF (zf rfl rfl rfl) ?_
  refine gv hF oA ?_
  refine sn ?_
  refine Sm.ret ?_
  obtain rfl := zb h
  exact ret1 rfl rfl
 replace h := ifT hc14 h
 refine hv hF (zj rfl rfl hc14) ?_
 obtain ⟨x15, hx15, h⟩ := za h
 refine Head.c hF rfl rfl (by kernel_rfl) rfl rfl rfl (zli hx15) ?_
 refine hv hF (oF (ze zek rfl)) ?_
 refine hv hF (oL (lP1 ag3 rfl)) ?_
 refine Head.last ⟨rfl, ?_⟩
 simp only [List.drop_succ_cons, List.drop_zero, List.drop_nil, List.nil_append, List.cons_append]
 obtain ⟨x16, hx16, h⟩ := za h
 refine SmG.callF hF rfl rfl rfl rfl rfl rfl x15.body (x15.ok _ _ hx16) ?_
 refine gv hF (zu rfl rfl rfl) ?_
 refine gv hF oA ?_
 refine sn ?_
 refine Sm.ret ?_
 obtain rfl := zb h
 exact ret1 rfl rfl
noncomputable def z8e (a0 : Ans) (a1 : Int) : Option Bool :=
 some (a0.version == a1)
set_option maxHeartbeats 4000000 in
theorem zii {a0 : Ans} {a1 : Int} {r : Bool} (h : z8e a0 a1 = some r) : zg Tryd.prog HG 42 [.ptr 11 (Ans.row a0), .ptr 1 [.v (.int .i64 a1)]] (.v (.bool r)) := by
 unfold z8e at h
 refine zg.of Tryd.func42 rfl Tryd.ntmps42 (by simp) ?_
 intro F hF h0 hT
 show Sm F _ _ ⟨[(0, .d (.ptr 11 (Ans.row a0))), (1, .d (.ptr 1 [.v (.int .i64 a1)]))], [], 0⟩
 refine sr hF ?_
 refine gv hF oA ?_
 refine sn ?_
 refine sr hF ?_
 refine gv hF (oF (ze ztw rfl)) ?_
 refine gv hF (oL (lP1 ag3 rfl)) ?_
 refine gv hF (oL (lP1 ag3 rfl)) ?_
 refine gv hF (oB (c_eql)) ?_
 refine gv hF oA ?_
 refine sn ?_
 refine Sm.ret ?_
 obtain rfl := zb h
 exact ret1 rfl rfl
noncomputable def z7d (a0 : Ans) : Option Bool :=
 ob (zwf a0.pos a0.entry) fun x1 =>
 some x1
set_option maxHeartbeats 4000000 in
theorem z5h {a0 : Ans} {r : Bool} (h : z7d a0 = some r) : zg Tryd.prog HG 43 [.ptr 11 (Ans.row a0)] (.v (.bool r)) := by
 unfold z7d at h
 refine zg.of Tryd.func43 rfl Tryd.ntmps43 (by simp) ?_
 intro F hF h0 hT
 show Sm F _ _ ⟨[(0, .d (.ptr 11 (Ans.row a0)))], [], 0⟩
 refine sr hF ?_
 refine gv hF oA ?_
 refine sn ?_
 refine sr hF ?_
 refine gv hF (oF (ze zeu rfl)) ?_
 refine gv hF (x := .d (.agg 5 [.list 1 (a0.pos.at_.map (rInt .i64)) false, .list 1 (a0.pos.h0.map (rInt .i64)) false, .list 1 (a0.pos.h1.map (rInt .i64)) false, .v (.int .i64 a0.pos.rights), .v (.int .i64 a0.pos.side)])) (oL (z3d ag33 sz33 rfl rfl)) ?_
 refine gv hF (oF (ze zut rfl)) ?_
 refine gv hF (x := .d (.agg 2 [.v (.int .i64 a0.entry.out), .v (.int .i64 a0.entry.n)])) (oL (z3d ag35 sz35 rfl rfl)) ?_
 obtain ⟨x1, hx1, h⟩ := za h
 refine SmG.call hF rfl rfl (by kernel_rfl) rfl rfl rfl (zvm hx1) ?_
 refine gv hF oA ?_
 refine sn ?_
 refine Sm.ret ?_
 obtain rfl := zb h
 exact ret1 rfl rfl
noncomputable def z6d (a0 : List UInt8) (a1 : Ans) : Option Bool :=
 ob (zjd a1.pos a1.entry) fun x1 =>
 ob (z9g a0 a1.count a1.index x1 a1.proof) fun x2 =>
 some x2
set_option maxHeartbeats 4000000 in
theorem z6h {a0 : List UInt8} {a1 : Ans} {r : Bool} (h : z6d a0 a1 = some r) : zg Tryd.prog HG 45 [.ptr 32 (rowS a0), .ptr 11 (Ans.row a1)] (.v (.bool r)) := by
 unfold z6d at h
 refine zg.of Tryd.func45 rfl Tryd.ntmps45 (by simp) ?_
 intro F hF h0 hT
 show Sm F _ _ ⟨[(0, .d (.ptr 32 (rowS a0))), (1, .d (.ptr 11 (Ans.row a1)))], [], 0⟩
 refine sr hF ?_
 refine gv hF oA ?_
 refine sn ?_
 refine Sm.seq ?_
 refine Sm.drawG hF (by kernel_rfl) rfl 12 (by kernel_rfl) (by kernel_rfl) ?_
 simp only [List.take_succ_cons, List.take_zero, List.take_nil]
 refine hv hF (x := .d (.agg 32 (rowS a0))) (oL (z3d ag47 sz47 rfl rfl)) ?_
 refine hv hF (oF (ze zmt rfl)) ?_
 refine hv hF (oL (lP1 ag3 rfl)) ?_
 refine hv hF (oF (ze zpx rfl)) ?_
 refine hv hF (oL (lP1 ag3 rfl)) ?_
 refine hv hF (oF (ze zeu rfl)) ?_
 refine hv hF (x := .d (.agg 5 [.list 1 (a1.pos.at_.map (rInt .i64)) false, .list 1 (a1.pos.h0.map (rInt .i64)) false, .list 1 (a1.pos.h1.map (rInt .i64)) false, .v (.int .i64 a1.pos.rights), .v (.int .i64 a1.pos.side)])) (oL (z3d ag33 sz33 rfl rfl)) ?_
 refine hv hF (oF (ze zut rfl)) ?_
 refine hv hF (x := .d (.agg 2 [.v (.int .i64 a1.entry.out), .v (.int .i64 a1.entry.n)])) (oL (z3d ag35 sz35 rfl rfl)) ?_
 obtain ⟨x1, hx1, h⟩ := za h
 refine Head.c hF rfl rfl (by kernel_rfl) rfl rfl rfl (zhf hx1) ?_
 refine hv hF (oF (ze z9t rfl)) ?_
 refine hv hF (oL (lP1 ag36 rfl)) ?_
 refine Head.last ⟨rfl, ?_⟩
 simp only [List.drop_succ_cons, List.drop_zero, List.drop_nil, List.nil_append, List.cons_append]
 obtain ⟨x2, hx2, h⟩ := za h
 refine SmG.call hF rfl rfl (by kernel_rfl) rfl rfl rfl (z7n hx2) ?_
 refine gv hF oA ?_
 refine sn ?_
 refine Sm.ret ?_
 obtain rfl := zb h
 exact ret1 rfl rfl
noncomputable def z4e (a0 : (FnV Tryd.prog HG (α := Unit) (β := Bool) (fun x => []) (fun y => .v (.bool y)))) : Option Bool :=
 ob (a0.f ()) fun x1 =>
 some (!x1)
set_option maxHeartbeats 4000000 in
theorem z5l {a0 : (FnV Tryd.prog HG (α := Unit) (β := Bool) (fun x => []) (fun y => .v (.bool y)))} {r : Bool} (h : z4e a0 = some r) : zg Tryd.prog HG 48 [.fn a0.g a0.c] (.v (.bool r)) := by
 unfold z4e at h
 refine zg.of Tryd.func48 rfl Tryd.ntmps48 (by simp) ?_
 intro F hF h0 hT
 show Sm F _ _ ⟨[(0, .d (.fn a0.g a0.c))], [], 0⟩
 refine sr hF ?_
 refine gv hF oA ?_
 refine sn ?_
 refine sr hF ?_
 refine gv hF oM ?_
 obtain ⟨x1, hx1, h⟩ := za h
 refine SmG.callF hF rfl rfl rfl rfl rfl rfl a0.body (a0.ok _ _ hx1) ?_
 refine gv hF (z5i rfl rfl (zfk _)) ?_
 refine gv hF oA ?_
 refine sn ?_
 refine Sm.ret ?_
 obtain rfl := zb h
 exact ret1 rfl rfl
noncomputable def zdb (a0 : List (FnV Tryd.prog HG (α := Unit) (β := Bool) (fun x => []) (fun y => .v (.bool y)))) (a1 : (FnV Tryd.prog HG (α := (FnV Tryd.prog HG (α := Unit) (β := Bool) (fun x => []) (fun y => .v (.bool y)))) (β := Bool) (fun x => [.fn x.g x.c]) (fun y => .v (.bool y)))) (s1 : Int) : Option (Int ⊕ (Unit ⊕ Int)) :=
 bif (decide (s1 < (a0.length : Int))) then (
  ob (idx a0 s1) fun x6 =>
  ob (a1.f x6) fun x7 =>
  bif x7 then (
   some (.inr (.inr s1))
  ) else (
   ob (arI .i64 (s1 + 1)) fun x9 =>
   some (.inl x9)
  )
 ) else (
  some (.inr (.inl ()))
 )
noncomputable def z5b (a0 : List (FnV Tryd.prog HG (α := Unit) (β := Bool) (fun x => []) (fun y => .v (.bool y)))) (a1 : (FnV Tryd.prog HG (α := (FnV Tryd.prog HG (α := Unit) (β := Bool) (fun x => []) (fun y => .v (.bool y)))) (β := Bool) (fun x => [.fn x.g x.c]) (fun y => .v (.bool y)))) : Option Int :=
 ob ((
  loopO (zdb a0 a1) 0
  : Option (Unit ⊕ Int))) fun o11 => match o11 with
 | .inl v10 => (
  some (-1)
  )
 | .inr e12 => some e12
set_option maxHeartbeats 4000000 in
theorem ztf {a0 : List (FnV Tryd.prog HG (α := Unit) (β := Bool) (fun x => []) (fun y => .v (.bool y)))} {a1 : (FnV Tryd.prog HG (α := (FnV Tryd.prog HG (α := Unit) (β := Bool) (fun x => []) (fun y => .v (.bool y)))) (β := Bool) (fun x => [.fn x.g x.c]) (fun y => .v (.bool y)))} {r : Int} (h : z5b a0 a1 = some r) : zg Tryd.prog HG 72 [.list 1 (a0.map FnV.row) false, .fn a1.g a1.c] (.v (.int .i64 r)) := by
 unfold z5b at h
 refine zg.of Tryd.func72 rfl Tryd.ntmps72 (by simp) ?_
 intro F hF h0 hT
 show Sm F _ _ ⟨[(0, .d (.list 1 (a0.map FnV.row) false)), (1, .d (.fn a1.g a1.c))], [], 0⟩
 refine sr hF ?_
 refine gv hF oA ?_
 refine sn ?_
 refine Sm.seq ?_
 obtain ⟨o11, ho11, h⟩ := za h
 rcases ocase o11 with ⟨e12, rfl⟩ | ⟨v10, rfl⟩
 ·have he12 := zb h
  subst he12
  replace h := ho11
  refine sr hF ?_
  refine gv hF oM ?_
  refine gv hF (oN (lenQD u104)) ?_
  refine gv hF oM ?_
  refine sn ?_
  refine Sm.block ?_
  refine Sm.loopT (zdb a0 a1) (fun s1 => ⟨[(0, .d (.list 1 (a0.map FnV.row) false)), (1, .d (.fn a1.g a1.c)), (7, .d (.v (.int .i64 (a0.length : Int)))), (8, .d (.v (.int .i64 s1)))], [], 0⟩) 0 h (toK ⟨rfl, rfl, rfl, rfl, trivial⟩ trivial) ?_
  intro n2 s1 o3 h hd4
  unfold zdb at h
  refine sr hF ?_
  refine gv hF (oB (c_lss)) ?_
  refine sn ?_
  refine Sm.seq ?_
  refine Sm.condU hF rfl (fun hc5 => ?_) (fun hc5 => ?_)
  ·replace h := ifF hc5 h
   refine Sm.exit ?_
   replace h := zw h hd4
   cases h
  replace h := ifT hc5 h
  refine sk ?_
  refine Sm.seq ?_
  refine Sm.block ?_
  refine sr hF ?_
  refine gv hF oM ?_
  refine gv hF oA ?_
  refine sn ?_
  refine sr hF ?_
  refine gv hF oM ?_
  refine gv hF oM ?_
  refine gv hF oM ?_
  obtain ⟨x6, hx6, h⟩ := za h
  refine gv hF (oI (idxQD u104 sz39 hx6)) ?_
  refine gv hF (oL (lP1 ag39 rfl)) ?_
  obtain ⟨x7, hx7, h⟩ := za h
  refine SmG.callF hF rfl rfl rfl rfl rfl rfl a1.body (a1.ok _ _ hx7) ?_
  refine sn ?_
  refine Sm.condU hF rfl (fun hc8 => ?_) (fun hc8 => ?_)
  ·replace h := ifF hc8 h
   refine Sm.skip ?_
   refine zk ?_
   refine zd ?_
   refine Sm.regionG hF rfl ?_
   obtain ⟨x9, hx9, h⟩ := za h
   refine gv hF (oB (z7 hx9)) ?_
   refine gv hF oM ?_
   refine SmG.nil ?_
   exact ztb (zhb h hd4) (toK ⟨rfl, rfl, rfl, rfl, trivial⟩ trivial)
  replace h := ifT hc8 h
  refine sr hF ?_
  refine gv hF oM ?_
  refine gv hF oA ?_
  refine sn ?_
  refine Sm.ret ?_
  replace h := zw h hd4
  replace h := zhk h
  obtain rfl := zb h
  exact ret1 rfl rfl
 refine Sm.joinT ⟨[], [], 0⟩ ?_ ?_
 ·refine Sm.seq ?_
  refine Sm.regionG hF rfl ?_
  refine gv hF oA ?_
  refine sn ?_
  refine Sm.ret ?_
  obtain rfl := zb h
  exact ret1 rfl rfl
 replace h := ho11
 refine sr hF ?_
 refine gv hF oM ?_
 refine gv hF (oN (lenQD u104)) ?_
 refine gv hF oM ?_
 refine sn ?_
 refine Sm.block ?_
 refine Sm.loopT (zdb a0 a1) (fun s1 => ⟨[(0, .d (.list 1 (a0.map FnV.row) false)), (1, .d (.fn a1.g a1.c)), (7, .d (.v (.int .i64 (a0.length : Int)))), (8, .d (.v (.int .i64 s1)))], [], 0⟩) 0 h (toK ⟨rfl, rfl, rfl, rfl, trivial⟩ trivial) ?_
 intro n2 s1 o3 h hd4
 unfold zdb at h
 refine sr hF ?_
 refine gv hF (oB (c_lss)) ?_
 refine sn ?_
 refine Sm.seq ?_
 refine Sm.condU hF rfl (fun hc5 => ?_) (fun hc5 => ?_)
 ·replace h := ifF hc5 h
  refine Sm.exit ?_
  replace h := zw h hd4
  obtain rfl := zb (zqg h)
  exact (toK trivial trivial)
 replace h := ifT hc5 h
 refine sk ?_
 refine Sm.seq ?_
 refine Sm.block ?_
 refine sr hF ?_
 refine gv hF oM ?_
 refine gv hF oA ?_
 refine sn ?_
 refine sr hF ?_
 refine gv hF oM ?_
 refine gv hF oM ?_
 refine gv hF oM ?_
 obtain ⟨x6, hx6, h⟩ := za h
 refine gv hF (oI (idxQD u104 sz39 hx6)) ?_
 refine gv hF (oL (lP1 ag39 rfl)) ?_
 obtain ⟨x7, hx7, h⟩ := za h
 refine SmG.callF hF rfl rfl rfl rfl rfl rfl a1.body (a1.ok _ _ hx7) ?_
 refine sn ?_
 refine Sm.condB hF rfl (fun hc8 => ?_) (fun hc8 => ?_)
 ·replace h := ifT hc8 h
  refine sr hF ?_
  refine gv hF oM ?_
  refine gv hF oA ?_
  refine sn ?_
  refine Sm.ret ?_
  replace h := zw h hd4
  cases h
 replace h := ifF hc8 h
 refine Sm.skip ?_
 refine zk ?_
 refine zd ?_
 refine Sm.regionG hF rfl ?_
 obtain ⟨x9, hx9, h⟩ := za h
 refine gv hF (oB (z7 hx9)) ?_
 refine gv hF oM ?_
 refine SmG.nil ?_
 exact ztb (zhb h hd4) (toK ⟨rfl, rfl, rfl, rfl, trivial⟩ trivial)
noncomputable def zjb (a0 : List (FnV Tryd.prog HG (α := Unit) (β := Bool) (fun x => []) (fun y => .v (.bool y)))) (a1 : (FnV Tryd.prog HG (α := (FnV Tryd.prog HG (α := Unit) (β := Bool) (fun x => []) (fun y => .v (.bool y)))) (β := Bool) (fun x => [.fn x.g x.c]) (fun y => .v (.bool y)))) : Option Bool :=
 ob (z5b a0 a1) fun x1 =>
 some (decide (0 ≤ x1))
set_option maxHeartbeats 4000000 in
theorem zef {a0 : List (FnV Tryd.prog HG (α := Unit) (β := Bool) (fun x => []) (fun y => .v (.bool y)))} {a1 : (FnV Tryd.prog HG (α := (FnV Tryd.prog HG (α := Unit) (β := Bool) (fun x => []) (fun y => .v (.bool y)))) (β := Bool) (fun x => [.fn x.g x.c]) (fun y => .v (.bool y)))} {r : Bool} (h : zjb a0 a1 = some r) : zg Tryd.prog HG 47 [.list 1 (a0.map FnV.row) false, .fn a1.g a1.c] (.v (.bool r)) := by
 unfold zjb at h
 refine zg.of Tryd.func47 rfl Tryd.ntmps47 (by simp) ?_
 intro F hF h0 hT
 show Sm F _ _ ⟨[(0, .d (.list 1 (a0.map FnV.row) false)), (1, .d (.fn a1.g a1.c))], [], 0⟩
 refine sr hF ?_
 refine gv hF oA ?_
 refine sn ?_
 refine sr hF ?_
 refine gv hF oM ?_
 refine gv hF oM ?_
 obtain ⟨x1, hx1, h⟩ := za h
 refine SmG.call hF rfl rfl (by kernel_rfl) rfl rfl rfl (ztf hx1) ?_
 refine gv hF (oB (c_geq)) ?_
 refine gv hF oA ?_
 refine sn ?_
 refine Sm.ret ?_
 obtain rfl := zb h
 exact ret1 rfl rfl
noncomputable def z9d (a0 : List UInt8) (a1 : Int) (a2 : Ans) : Option Bool :=
 ob (zjb ([(⟨42, [.ptr 11 (Ans.row a2), .ptr 1 [.v (.int .i64 a1)]], fun x => z8e  a2 a1, by kernel_rfl, fun x y h => zii h⟩ : (FnV Tryd.prog HG (α := Unit) (β := Bool) (fun x => []) (fun y => .v (.bool y)))), (⟨43, [.ptr 11 (Ans.row a2)], fun x => z7d  a2, by kernel_rfl, fun x y h => z5h h⟩ : (FnV Tryd.prog HG (α := Unit) (β := Bool) (fun x => []) (fun y => .v (.bool y)))), (⟨45, [.ptr 32 (rowS a0), .ptr 11 (Ans.row a2)], fun x => z6d  a0 a2, by kernel_rfl, fun x y h => z6h h⟩ : (FnV Tryd.prog HG (α := Unit) (β := Bool) (fun x => []) (fun y => .v (.bool y))))]) (⟨48, [], fun x => z4e x , by kernel_rfl, fun x y h => z5l h⟩ : (FnV Tryd.prog HG (α := (FnV Tryd.prog HG (α := Unit) (β := Bool) (fun x => []) (fun y => .v (.bool y)))) (β := Bool) (fun x => [.fn x.g x.c]) (fun y => .v (.bool y))))) fun x1 =>
 some (!x1)
set_option maxHeartbeats 4000000 in
theorem z1g {a0 : List UInt8} {a1 : Int} {a2 : Ans} {r : Bool} (h : z9d a0 a1 a2 = some r) : zg Tryd.prog HG 18 [.agg 32 (rowS a0), .v (.int .i64 a1), .agg 11 (Ans.row a2)] (.v (.bool r)) := by
 unfold z9d at h
 refine zg.of Tryd.func18 rfl Tryd.ntmps18 (by simp) ?_
 intro F hF h0 hT
 show Sm F _ _ ⟨[(0, .d (.agg 32 (rowS a0))), (1, .d (.v (.int .i64 a1))), (2, .d (.agg 11 (Ans.row a2)))], [], 0⟩
 refine sr hF ?_
 refine SmG.boxP hF boxA ?_
 refine SmG.boxP hF boxI ?_
 refine SmG.boxP hF boxA ?_
 refine gv hF oA ?_
 refine sn ?_
 refine sr hF ?_
 refine gv hF (zuf rfl rfl) ?_
 refine gv hF (zuf rfl rfl) ?_
 refine gv hF (zuf rfl rfl) ?_
 refine gv hF (x := .d (.list 1 ([(⟨42, [.ptr 11 (Ans.row a2), .ptr 1 [.v (.int .i64 a1)]], fun x => z8e  a2 a1, by kernel_rfl, fun x y h => zii h⟩ : (FnV Tryd.prog HG (α := Unit) (β := Bool) (fun x => []) (fun y => .v (.bool y)))), (⟨43, [.ptr 11 (Ans.row a2)], fun x => z7d  a2, by kernel_rfl, fun x y h => z5h h⟩ : (FnV Tryd.prog HG (α := Unit) (β := Bool) (fun x => []) (fun y => .v (.bool y)))), (⟨45, [.ptr 32 (rowS a0), .ptr 11 (Ans.row a2)], fun x => z6d  a0 a2, by kernel_rfl, fun x y h => z6h h⟩ : (FnV Tryd.prog HG (α := Unit) (β := Bool) (fun x => []) (fun y => .v (.bool y))))].map FnV.row) true)) (oS (zl u104 sz39 ze39 rfl rfl (PartsQ.cons rfl (PartsQ.cons rfl (PartsQ.cons rfl (PartsQ.nil _)))) rfl)) ?_
 refine gv hF oA ?_
 refine sn ?_
 refine sr hF ?_
 refine gv hF oM ?_
 obtain ⟨x1, hx1, h⟩ := za h
 refine SmG.call hF rfl rfl (by kernel_rfl) rfl rfl rfl (zg.args (zef hx1) (fun C => (zfc (by repeat' first | exact D.le.refl _ | exact D.le_full _ _ _ | exact D.le_nil' _ _ _ | refine D.le_list ?_ | exact LeRows.nil | refine LeRows.cons ?_ ?_ | exact LeL.nil | refine LeL.cons ?_ ?_ | refine D.le_tupL ?_ | refine D.le_aggL ?_) (zfc (by repeat' first | exact D.le.refl _ | exact D.le_full _ _ _ | exact D.le_nil' _ _ _ | refine D.le_list ?_ | exact LeRows.nil | refine LeRows.cons ?_ ?_ | exact LeL.nil | refine LeL.cons ?_ ?_ | refine D.le_tupL ?_ | refine D.le_aggL ?_) (fun _ h => h))))) ?_
 refine gv hF (z5i rfl rfl (zfk _)) ?_
 refine gv hF oA ?_
 refine sn ?_
 refine Sm.ret ?_
 obtain rfl := zb h
 exact ret1 rfl rfl
end
section
open Go.RowKit
set_option maxRecDepth 100000
noncomputable def zzd : Option Bool :=
 ob (zjd (⟨[1, 0], [2], [0], 1, 0⟩ : Ps) (⟨1, 258⟩ : Rs)) fun x1 =>
 ob (zpc ([(⟨[1, 0], [2], [0], 1, 0⟩ : Ps)]) [(⟨1, 258⟩ : Rs)] 7 0) fun x2 =>
 ob (zpc ([(⟨[1, 0], [2], [0], 1, 0⟩ : Ps)]) [] 7 0) fun x3 =>
 ob (zpc ([(⟨[1, 0], [2], [0], 1, 0⟩ : Ps)]) [(⟨1, 258⟩ : Rs)] 7 1) fun x4 =>
 ob (zbf ([(⟨[1, 0], [2], [0], 1, 0⟩ : Ps)]) [(⟨1, 258⟩ : Rs)]) fun x5 =>
 ob (vN 32 x5) fun x6 =>
 bif (x2.2 == 0) then (
  bif (x3.2 == 1) then (
   bif (x4.2 == 1) then (
    bif (x1 == ([2, 1, 1, 1, 0, 2, 0, 1, 0, 1, 0, 0, 1, 2] : List UInt8)) then (
     bif ((x2.1.proof.length : Int) == 0) then (
      bif (x2.1.count == 1) then (
       ob (zge (⟨[1, 0], [2], [0], 1, 0⟩ : Ps) (⟨1, 258⟩ : Rs)) fun x13 =>
       ob (zff x13) fun x14 =>
       ob (vN 32 x5) fun x15 =>
       ob (vN 32 x14) fun x16 =>
       bif (x5 == x14) then (
        ob (z9d x5 7 x2.1) fun x18 =>
        bif x18 then (
         ob (z9d x5 8 x2.1) fun x20 =>
         bif (!x20) then (
          ob (z9d (List.replicate 32 0) 7 x2.1) fun x22 =>
          some (!x22)
         ) else (
          some false
         )
        ) else (
         some false
        )
       ) else (
        some false
       )
      ) else (
       some false
      )
     ) else (
      some false
     )
    ) else (
     some false
    )
   ) else (
    some false
   )
  ) else (
   some false
  )
 ) else (
  some false
 )
set_option maxHeartbeats 4000000 in
theorem ztj {r : Bool} (h : zzd = some r) : zg Tryd.prog HG 9 [] (.v (.bool r)) := by
 unfold zzd at h
 refine zg.of Tryd.func9 rfl Tryd.ntmps9 (by simp) ?_
 intro F hF h0 hT
 show Sm F _ _ ⟨[], [], 0⟩
 refine sr hF ?_
 refine gv hF oA ?_
 refine sn ?_
 refine sr hF ?_
 refine gv hF (x := .d (.list 1 ([1, 0].map (rInt .i64)) true)) (oS (zl u30 sz3 ze3 rfl rfl (PartsQ.cons rfl (PartsQ.cons rfl (PartsQ.nil _))) rfl)) ?_
 refine gv hF (x := .d (.list 1 ([2].map (rInt .i64)) true)) (oS (zl u30 sz3 ze3 rfl rfl (PartsQ.cons rfl (PartsQ.nil _)) rfl)) ?_
 refine gv hF (x := .d (.list 1 ([0].map (rInt .i64)) true)) (oS (zl u30 sz3 ze3 rfl rfl (PartsQ.cons rfl (PartsQ.nil _)) rfl)) ?_
 refine gv hF (x := .d (.agg 2 [.list 1 ([2].map (rInt .i64)) true, .list 1 ([0].map (rInt .i64)) true])) (zyf rfl u31 rfl (zfs u31 sz30 ze31 rfl rfl)) ?_
 refine gv hF (x := .d (.agg 5 [.list 1 ([1, 0].map (rInt .i64)) true, .list 1 ([2].map (rInt .i64)) true, .list 1 ([0].map (rInt .i64)) true, .v (.int .i64 1), .v (.int .i64 0)])) (zz rfl u33 (by kernel_rfl) rfl (z8 (n := 5) ze33 pl33 rfl rfl)) ?_
 refine SmG.new hF rfl rfl rfl (zx rfl al33) ?_
 refine SmG.store hF rfl rfl rfl rfl rfl (zy (ys := [.d (.list 1 ([1, 0].map (rInt .i64)) true), .d (.list 1 ([2].map (rInt .i64)) true), .d (.list 1 ([0].map (rInt .i64)) true), .d (.v (.int .i64 1)), .d (.v (.int .i64 0))]) (r := [.d (.list 0 [] true), .d (.list 0 [] true), .d (.list 0 [] true), .d (.v (.int .i64 0)), .d (.v (.int .i64 0))]) (rows' := [[.d (.list 1 ([1, 0].map (rInt .i64)) true), .d (.list 1 ([2].map (rInt .i64)) true), .d (.list 1 ([0].map (rInt .i64)) true), .d (.v (.int .i64 1)), .d (.v (.int .i64 0))]]) rfl rfl rfl sz33 rfl rfl rfl rfl rfl) ?_
 refine sn ?_
 refine sr hF ?_
 refine gv hF (x := .d (.agg 2 [.v (.int .i64 1), .v (.int .i64 258)])) (zz rfl u35 (by kernel_rfl) rfl (z8 (n := 2) ze35 pl35 rfl rfl)) ?_
 refine SmG.new hF rfl rfl rfl (zx rfl al35) ?_
 refine SmG.store hF rfl rfl rfl rfl rfl (zy (ys := [.d (.v (.int .i64 1)), .d (.v (.int .i64 258))]) (r := [.d (.v (.int .i64 0)), .d (.v (.int .i64 0))]) (rows' := [[.d (.v (.int .i64 1)), .d (.v (.int .i64 258))]]) rfl rfl rfl sz35 rfl rfl rfl rfl rfl) ?_
 refine sn ?_
 refine sr hF ?_
 refine gv hF (x := .d (.agg 5 [.list 1 ([1, 0].map (rInt .i64)) true, .list 1 ([2].map (rInt .i64)) true, .list 1 ([0].map (rInt .i64)) true, .v (.int .i64 1), .v (.int .i64 0)])) (oL (zn rfl rfl ag33 sz33 rfl rfl)) ?_
 refine gv hF (x := .d (.agg 2 [.v (.int .i64 1), .v (.int .i64 258)])) (oL (zn rfl rfl ag35 sz35 rfl rfl)) ?_
 obtain ⟨x1, hx1, h⟩ := za h
 refine SmG.call hF rfl rfl (by kernel_rfl) rfl rfl rfl (zg.args (zhf hx1) (fun C => (zfc (by repeat' first | exact D.le.refl _ | exact D.le_full _ _ _ | exact D.le_nil' _ _ _ | refine D.le_list ?_ | exact LeRows.nil | refine LeRows.cons ?_ ?_ | exact LeL.nil | refine LeL.cons ?_ ?_ | refine D.le_tupL ?_ | refine D.le_aggL ?_) (zfc (by repeat' first | exact D.le.refl _ | exact D.le_full _ _ _ | exact D.le_nil' _ _ _ | refine D.le_list ?_ | exact LeRows.nil | refine LeRows.cons ?_ ?_ | exact LeL.nil | refine LeL.cons ?_ ?_ | refine D.le_tupL ?_ | refine D.le_aggL ?_) (fun _ h => h))))) ?_
 refine gv hF oA ?_
 refine sn ?_
 refine sr hF ?_
 refine gv hF (x := .d (.agg 5 [.list 1 ([1, 0].map (rInt .i64)) true, .list 1 ([2].map (rInt .i64)) true, .list 1 ([0].map (rInt .i64)) true, .v (.int .i64 1), .v (.int .i64 0)])) (oL (zn rfl rfl ag33 sz33 rfl rfl)) ?_
 refine SmG.toX (St.to_weak (env' := [(1, .ref 0 0 0), (2, .ref 1 0 0), (3, .d (.list 1 (x1.map rowB) false)), (22, .d (.agg 5 [.list 1 ([1, 0].map (rInt .i64)) false, .list 1 ([2].map (rInt .i64)) false, .list 1 ([0].map (rInt .i64)) false, .v (.int .i64 1), .v (.int .i64 0)]))]) (h' := [(1, ⟨2, [[.d (.v (.int .i64 1)), .d (.v (.int .i64 258))]]⟩), (0, ⟨5, [[.d (.list 1 ([1, 0].map (rInt .i64)) true), .d (.list 1 ([2].map (rInt .i64)) true), .d (.list 1 ([0].map (rInt .i64)) true), .d (.v (.int .i64 1)), .d (.v (.int .i64 0))]]⟩)]) (nx' := 2) ⟨⟨_, rfl, V.le.refl _⟩, ⟨_, rfl, V.le.refl _⟩, ⟨_, rfl, V.le.refl _⟩, ⟨_, rfl, V.le.d (by repeat' first | exact D.le.refl _ | exact D.le_full _ _ _ | exact D.le_nil' _ _ _ | refine D.le_list ?_ | exact LeRows.nil | refine LeRows.cons ?_ ?_ | exact LeL.nil | refine LeL.cons ?_ ?_ | refine D.le_tupL ?_ | refine D.le_aggL ?_)⟩, trivial⟩ ⟨⟨_, rfl, BlkR.refl _⟩, ⟨_, rfl, BlkR.refl _⟩, trivial⟩ (Nat.le_of_ble_eq_true rfl)) rfl ?_
 refine gv hF (x := .d (.list 5 ([(⟨[1, 0], [2], [0], 1, 0⟩ : Ps)].map Ps.row) true)) (oS (zl u40 sz33 ze33 rfl rfl (PartsQ.cons rfl (PartsQ.nil _)) rfl)) ?_
 refine gv hF (x := .d (.agg 2 [.v (.int .i64 1), .v (.int .i64 258)])) (oL (zn rfl rfl ag35 sz35 rfl rfl)) ?_
 refine gv hF (x := .d (.list 2 ([(⟨1, 258⟩ : Rs)].map Rs.row) true)) (oS (zl u41 sz35 ze35 rfl rfl (PartsQ.cons rfl (PartsQ.nil _)) rfl)) ?_
 obtain ⟨x2, hx2, h⟩ := za h
 refine SmG.call hF rfl rfl (by kernel_rfl) rfl rfl rfl (zg.args (zsg hx2) (fun C => (zfc (by repeat' first | exact D.le.refl _ | exact D.le_full _ _ _ | exact D.le_nil' _ _ _ | refine D.le_list ?_ | exact LeRows.nil | refine LeRows.cons ?_ ?_ | exact LeL.nil | refine LeL.cons ?_ ?_ | refine D.le_tupL ?_ | refine D.le_aggL ?_) (zfc (by repeat' first | exact D.le.refl _ | exact D.le_full _ _ _ | exact D.le_nil' _ _ _ | refine D.le_list ?_ | exact LeRows.nil | refine LeRows.cons ?_ ?_ | exact LeL.nil | refine LeL.cons ?_ ?_ | refine D.le_tupL ?_ | refine D.le_aggL ?_) (zfc (by repeat' first | exact D.le.refl _ | exact D.le_full _ _ _ | exact D.le_nil' _ _ _ | refine D.le_list ?_ | exact LeRows.nil | refine LeRows.cons ?_ ?_ | exact LeL.nil | refine LeL.cons ?_ ?_ | refine D.le_tupL ?_ | refine D.le_aggL ?_) (zfc (by repeat' first | exact D.le.refl _ | exact D.le_full _ _ _ | exact D.le_nil' _ _ _ | refine D.le_list ?_ | exact LeRows.nil | refine LeRows.cons ?_ ?_ | exact LeL.nil | refine LeL.cons ?_ ?_ | refine D.le_tupL ?_ | refine D.le_aggL ?_) (fun _ h => h))))))) ?_
 refine gv hF oM ?_
 refine gv hF (zic rfl rfl rfl) ?_
 refine gv hF (zic rfl rfl rfl) ?_
 refine SmG.new hF rfl rfl rfl (zx rfl al38) ?_
 refine SmG.store hF rfl rfl rfl rfl rfl (zy (ys := [.d (.v (.int .i64 x2.1.version)), .d (.v (.int .i64 x2.1.index)), .d (.v (.int .i64 x2.1.count)), .d (.list 1 (x2.1.pos.at_.map (rInt .i64)) false), .d (.list 1 (x2.1.pos.h0.map (rInt .i64)) false), .d (.list 1 (x2.1.pos.h1.map (rInt .i64)) false), .d (.v (.int .i64 x2.1.pos.rights)), .d (.v (.int .i64 x2.1.pos.side)), .d (.v (.int .i64 x2.1.entry.out)), .d (.v (.int .i64 x2.1.entry.n)), .d (.list 32 (x2.1.proof.map rowS) false)]) (r := [.d (.v (.int .i64 0)), .d (.v (.int .i64 0)), .d (.v (.int .i64 0)), .d (.list 0 [] true), .d (.list 0 [] true), .d (.list 0 [] true), .d (.v (.int .i64 0)), .d (.v (.int .i64 0)), .d (.v (.int .i64 0)), .d (.v (.int .i64 0)), .d (.list 0 [] true)]) (rows' := [[.d (.v (.int .i64 x2.1.version)), .d (.v (.int .i64 x2.1.index)), .d (.v (.int .i64 x2.1.count)), .d (.list 1 (x2.1.pos.at_.map (rInt .i64)) false), .d (.list 1 (x2.1.pos.h0.map (rInt .i64)) false), .d (.list 1 (x2.1.pos.h1.map (rInt .i64)) false), .d (.v (.int .i64 x2.1.pos.rights)), .d (.v (.int .i64 x2.1.pos.side)), .d (.v (.int .i64 x2.1.entry.out)), .d (.v (.int .i64 x2.1.entry.n)), .d (.list 32 (x2.1.proof.map rowS) false)]]) rfl rfl rfl sz38 rfl rfl rfl rfl rfl) ?_
 refine gv hF oA ?_
 refine sn ?_
 refine sr hF ?_
 refine gv hF (x := .d (.agg 5 [.list 1 ([1, 0].map (rInt .i64)) true, .list 1 ([2].map (rInt .i64)) true, .list 1 ([0].map (rInt .i64)) true, .v (.int .i64 1), .v (.int .i64 0)])) (oL (zn rfl rfl ag33 sz33 rfl rfl)) ?_
 refine SmG.toX (St.to_weak (env' := [(1, .ref 0 0 0), (2, .ref 1 0 0), (3, .d (.list 1 (x1.map rowB) false)), (4, .ref 2 0 0), (5, .d (.v (.int .i64 x2.2))), (30, .d (.agg 5 [.list 1 ([1, 0].map (rInt .i64)) false, .list 1 ([2].map (rInt .i64)) false, .list 1 ([0].map (rInt .i64)) false, .v (.int .i64 1), .v (.int .i64 0)]))]) (h' := [(2, ⟨11, [[.d (.v (.int .i64 x2.1.version)), .d (.v (.int .i64 x2.1.index)), .d (.v (.int .i64 x2.1.count)), .d (.list 1 (x2.1.pos.at_.map (rInt .i64)) false), .d (.list 1 (x2.1.pos.h0.map (rInt .i64)) false), .d (.list 1 (x2.1.pos.h1.map (rInt .i64)) false), .d (.v (.int .i64 x2.1.pos.rights)), .d (.v (.int .i64 x2.1.pos.side)), .d (.v (.int .i64 x2.1.entry.out)), .d (.v (.int .i64 x2.1.entry.n)), .d (.list 32 (x2.1.proof.map rowS) false)]]⟩), (1, ⟨2, [[.d (.v (.int .i64 1)), .d (.v (.int .i64 258))]]⟩), (0, ⟨5, [[.d (.list 1 ([1, 0].map (rInt .i64)) true), .d (.list 1 ([2].map (rInt .i64)) true), .d (.list 1 ([0].map (rInt .i64)) true), .d (.v (.int .i64 1)), .d (.v (.int .i64 0))]]⟩)]) (nx' := 3) ⟨⟨_, rfl, V.le.refl _⟩, ⟨_, rfl, V.le.refl _⟩, ⟨_, rfl, V.le.refl _⟩, ⟨_, rfl, V.le.refl _⟩, ⟨_, rfl, V.le.refl _⟩, ⟨_, rfl, V.le.d (by repeat' first | exact D.le.refl _ | exact D.le_full _ _ _ | exact D.le_nil' _ _ _ | refine D.le_list ?_ | exact LeRows.nil | refine LeRows.cons ?_ ?_ | exact LeL.nil | refine LeL.cons ?_ ?_ | refine D.le_tupL ?_ | refine D.le_aggL ?_)⟩, trivial⟩ ⟨⟨_, rfl, BlkR.refl _⟩, ⟨_, rfl, BlkR.refl _⟩, ⟨_, rfl, BlkR.refl _⟩, trivial⟩ (Nat.le_of_ble_eq_true rfl)) rfl ?_
 refine gv hF (x := .d (.list 5 ([(⟨[1, 0], [2], [0], 1, 0⟩ : Ps)].map Ps.row) true)) (oS (zl u40 sz33 ze33 rfl rfl (PartsQ.cons rfl (PartsQ.nil _)) rfl)) ?_
 obtain ⟨x3, hx3, h⟩ := za h
 refine SmG.call hF rfl rfl (by kernel_rfl) rfl rfl rfl (zg.args (zsg hx3) (fun C => (zfc (by repeat' first | exact D.le.refl _ | exact D.le_full _ _ _ | exact D.le_nil' _ _ _ | refine D.le_list ?_ | exact LeRows.nil | refine LeRows.cons ?_ ?_ | exact LeL.nil | refine LeL.cons ?_ ?_ | refine D.le_tupL ?_ | refine D.le_aggL ?_) (zfc (by repeat' first | exact D.le.refl _ | exact D.le_full _ _ _ | exact D.le_nil' _ _ _ | refine D.le_list ?_ | exact LeRows.nil | refine LeRows.cons ?_ ?_ | exact LeL.nil | refine LeL.cons ?_ ?_ | refine D.le_tupL ?_ | refine D.le_aggL ?_) (zfc (by repeat' first | exact D.le.refl _ | exact D.le_full _ _ _ | exact D.le_nil' _ _ _ | refine D.le_list ?_ | exact LeRows.nil | refine LeRows.cons ?_ ?_ | exact LeL.nil | refine LeL.cons ?_ ?_ | refine D.le_tupL ?_ | refine D.le_aggL ?_) (zfc (by repeat' first | exact D.le.refl _ | exact D.le_full _ _ _ | exact D.le_nil' _ _ _ | refine D.le_list ?_ | exact LeRows.nil | refine LeRows.cons ?_ ?_ | exact LeL.nil | refine LeL.cons ?_ ?_ | refine D.le_tupL ?_ | refine D.le_aggL ?_) (fun _ h => h))))))) ?_
 refine gv hF oM ?_
 refine gv hF (zic rfl rfl rfl) ?_
 refine gv hF (zic rfl rfl rfl) ?_
 refine SmG.new hF rfl rfl rfl (zx rfl al38) ?_
 refine SmG.store hF rfl rfl rfl rfl rfl (zy (ys := [.d (.v (.int .i64 x3.1.version)), .d (.v (.int .i64 x3.1.index)), .d (.v (.int .i64 x3.1.count)), .d (.list 1 (x3.1.pos.at_.map (rInt .i64)) false), .d (.list 1 (x3.1.pos.h0.map (rInt .i64)) false), .d (.list 1 (x3.1.pos.h1.map (rInt .i64)) false), .d (.v (.int .i64 x3.1.pos.rights)), .d (.v (.int .i64 x3.1.pos.side)), .d (.v (.int .i64 x3.1.entry.out)), .d (.v (.int .i64 x3.1.entry.n)), .d (.list 32 (x3.1.proof.map rowS) false)]) (r := [.d (.v (.int .i64 0)), .d (.v (.int .i64 0)), .d (.v (.int .i64 0)), .d (.list 0 [] true), .d (.list 0 [] true), .d (.list 0 [] true), .d (.v (.int .i64 0)), .d (.v (.int .i64 0)), .d (.v (.int .i64 0)), .d (.v (.int .i64 0)), .d (.list 0 [] true)]) (rows' := [[.d (.v (.int .i64 x3.1.version)), .d (.v (.int .i64 x3.1.index)), .d (.v (.int .i64 x3.1.count)), .d (.list 1 (x3.1.pos.at_.map (rInt .i64)) false), .d (.list 1 (x3.1.pos.h0.map (rInt .i64)) false), .d (.list 1 (x3.1.pos.h1.map (rInt .i64)) false), .d (.v (.int .i64 x3.1.pos.rights)), .d (.v (.int .i64 x3.1.pos.side)), .d (.v (.int .i64 x3.1.entry.out)), .d (.v (.int .i64 x3.1.entry.n)), .d (.list 32 (x3.1.proof.map rowS) false)]]) rfl rfl rfl sz38 rfl rfl rfl rfl rfl) ?_
 refine gv hF oA ?_
 refine sn ?_
 refine sr hF ?_
 refine gv hF (x := .d (.agg 5 [.list 1 ([1, 0].map (rInt .i64)) true, .list 1 ([2].map (rInt .i64)) true, .list 1 ([0].map (rInt .i64)) true, .v (.int .i64 1), .v (.int .i64 0)])) (oL (zn rfl rfl ag33 sz33 rfl rfl)) ?_
 refine SmG.toX (St.to_weak (env' := [(1, .ref 0 0 0), (2, .ref 1 0 0), (3, .d (.list 1 (x1.map rowB) false)), (4, .ref 2 0 0), (5, .d (.v (.int .i64 x2.2))), (7, .d (.v (.int .i64 x3.2))), (36, .d (.agg 5 [.list 1 ([1, 0].map (rInt .i64)) false, .list 1 ([2].map (rInt .i64)) false, .list 1 ([0].map (rInt .i64)) false, .v (.int .i64 1), .v (.int .i64 0)]))]) (h' := [(2, ⟨11, [[.d (.v (.int .i64 x2.1.version)), .d (.v (.int .i64 x2.1.index)), .d (.v (.int .i64 x2.1.count)), .d (.list 1 (x2.1.pos.at_.map (rInt .i64)) false), .d (.list 1 (x2.1.pos.h0.map (rInt .i64)) false), .d (.list 1 (x2.1.pos.h1.map (rInt .i64)) false), .d (.v (.int .i64 x2.1.pos.rights)), .d (.v (.int .i64 x2.1.pos.side)), .d (.v (.int .i64 x2.1.entry.out)), .d (.v (.int .i64 x2.1.entry.n)), .d (.list 32 (x2.1.proof.map rowS) false)]]⟩), (1, ⟨2, [[.d (.v (.int .i64 1)), .d (.v (.int .i64 258))]]⟩), (0, ⟨5, [[.d (.list 1 ([1, 0].map (rInt .i64)) true), .d (.list 1 ([2].map (rInt .i64)) true), .d (.list 1 ([0].map (rInt .i64)) true), .d (.v (.int .i64 1)), .d (.v (.int .i64 0))]]⟩)]) (nx' := 4) ⟨⟨_, rfl, V.le.refl _⟩, ⟨_, rfl, V.le.refl _⟩, ⟨_, rfl, V.le.refl _⟩, ⟨_, rfl, V.le.refl _⟩, ⟨_, rfl, V.le.refl _⟩, ⟨_, rfl, V.le.refl _⟩, ⟨_, rfl, V.le.d (by repeat' first | exact D.le.refl _ | exact D.le_full _ _ _ | exact D.le_nil' _ _ _ | refine D.le_list ?_ | exact LeRows.nil | refine LeRows.cons ?_ ?_ | exact LeL.nil | refine LeL.cons ?_ ?_ | refine D.le_tupL ?_ | refine D.le_aggL ?_)⟩, trivial⟩ ⟨⟨_, rfl, BlkR.refl _⟩, ⟨_, rfl, BlkR.refl _⟩, ⟨_, rfl, BlkR.refl _⟩, trivial⟩ (Nat.le_of_ble_eq_true rfl)) rfl ?_
 refine gv hF (x := .d (.list 5 ([(⟨[1, 0], [2], [0], 1, 0⟩ : Ps)].map Ps.row) true)) (oS (zl u40 sz33 ze33 rfl rfl (PartsQ.cons rfl (PartsQ.nil _)) rfl)) ?_
 refine gv hF (x := .d (.agg 2 [.v (.int .i64 1), .v (.int .i64 258)])) (oL (zn rfl rfl ag35 sz35 rfl rfl)) ?_
 refine gv hF (x := .d (.list 2 ([(⟨1, 258⟩ : Rs)].map Rs.row) true)) (oS (zl u41 sz35 ze35 rfl rfl (PartsQ.cons rfl (PartsQ.nil _)) rfl)) ?_
 obtain ⟨x4, hx4, h⟩ := za h
 refine SmG.call hF rfl rfl (by kernel_rfl) rfl rfl rfl (zg.args (zsg hx4) (fun C => (zfc (by repeat' first | exact D.le.refl _ | exact D.le_full _ _ _ | exact D.le_nil' _ _ _ | refine D.le_list ?_ | exact LeRows.nil | refine LeRows.cons ?_ ?_ | exact LeL.nil | refine LeL.cons ?_ ?_ | refine D.le_tupL ?_ | refine D.le_aggL ?_) (zfc (by repeat' first | exact D.le.refl _ | exact D.le_full _ _ _ | exact D.le_nil' _ _ _ | refine D.le_list ?_ | exact LeRows.nil | refine LeRows.cons ?_ ?_ | exact LeL.nil | refine LeL.cons ?_ ?_ | refine D.le_tupL ?_ | refine D.le_aggL ?_) (zfc (by repeat' first | exact D.le.refl _ | exact D.le_full _ _ _ | exact D.le_nil' _ _ _ | refine D.le_list ?_ | exact LeRows.nil | refine LeRows.cons ?_ ?_ | exact LeL.nil | refine LeL.cons ?_ ?_ | refine D.le_tupL ?_ | refine D.le_aggL ?_) (zfc (by repeat' first | exact D.le.refl _ | exact D.le_full _ _ _ | exact D.le_nil' _ _ _ | refine D.le_list ?_ | exact LeRows.nil | refine LeRows.cons ?_ ?_ | exact LeL.nil | refine LeL.cons ?_ ?_ | refine D.le_tupL ?_ | refine D.le_aggL ?_) (fun _ h => h))))))) ?_
 refine gv hF oM ?_
 refine gv hF (zic rfl rfl rfl) ?_
 refine gv hF (zic rfl rfl rfl) ?_
 refine SmG.new hF rfl rfl rfl (zx rfl al38) ?_
 refine SmG.store hF rfl rfl rfl rfl rfl (zy (ys := [.d (.v (.int .i64 x4.1.version)), .d (.v (.int .i64 x4.1.index)), .d (.v (.int .i64 x4.1.count)), .d (.list 1 (x4.1.pos.at_.map (rInt .i64)) false), .d (.list 1 (x4.1.pos.h0.map (rInt .i64)) false), .d (.list 1 (x4.1.pos.h1.map (rInt .i64)) false), .d (.v (.int .i64 x4.1.pos.rights)), .d (.v (.int .i64 x4.1.pos.side)), .d (.v (.int .i64 x4.1.entry.out)), .d (.v (.int .i64 x4.1.entry.n)), .d (.list 32 (x4.1.proof.map rowS) false)]) (r := [.d (.v (.int .i64 0)), .d (.v (.int .i64 0)), .d (.v (.int .i64 0)), .d (.list 0 [] true), .d (.list 0 [] true), .d (.list 0 [] true), .d (.v (.int .i64 0)), .d (.v (.int .i64 0)), .d (.v (.int .i64 0)), .d (.v (.int .i64 0)), .d (.list 0 [] true)]) (rows' := [[.d (.v (.int .i64 x4.1.version)), .d (.v (.int .i64 x4.1.index)), .d (.v (.int .i64 x4.1.count)), .d (.list 1 (x4.1.pos.at_.map (rInt .i64)) false), .d (.list 1 (x4.1.pos.h0.map (rInt .i64)) false), .d (.list 1 (x4.1.pos.h1.map (rInt .i64)) false), .d (.v (.int .i64 x4.1.pos.rights)), .d (.v (.int .i64 x4.1.pos.side)), .d (.v (.int .i64 x4.1.entry.out)), .d (.v (.int .i64 x4.1.entry.n)), .d (.list 32 (x4.1.proof.map rowS) false)]]) rfl rfl rfl sz38 rfl rfl rfl rfl rfl) ?_
 refine gv hF oA ?_
 refine sn ?_
 refine sr hF ?_
 refine gv hF (x := .d (.agg 5 [.list 1 ([1, 0].map (rInt .i64)) true, .list 1 ([2].map (rInt .i64)) true, .list 1 ([0].map (rInt .i64)) true, .v (.int .i64 1), .v (.int .i64 0)])) (oL (zn rfl rfl ag33 sz33 rfl rfl)) ?_
 refine SmG.toX (St.to_weak (env' := [(1, .ref 0 0 0), (2, .ref 1 0 0), (3, .d (.list 1 (x1.map rowB) false)), (4, .ref 2 0 0), (5, .d (.v (.int .i64 x2.2))), (7, .d (.v (.int .i64 x3.2))), (9, .d (.v (.int .i64 x4.2))), (43, .d (.agg 5 [.list 1 ([1, 0].map (rInt .i64)) false, .list 1 ([2].map (rInt .i64)) false, .list 1 ([0].map (rInt .i64)) false, .v (.int .i64 1), .v (.int .i64 0)]))]) (h' := [(2, ⟨11, [[.d (.v (.int .i64 x2.1.version)), .d (.v (.int .i64 x2.1.index)), .d (.v (.int .i64 x2.1.count)), .d (.list 1 (x2.1.pos.at_.map (rInt .i64)) false), .d (.list 1 (x2.1.pos.h0.map (rInt .i64)) false), .d (.list 1 (x2.1.pos.h1.map (rInt .i64)) false), .d (.v (.int .i64 x2.1.pos.rights)), .d (.v (.int .i64 x2.1.pos.side)), .d (.v (.int .i64 x2.1.entry.out)), .d (.v (.int .i64 x2.1.entry.n)), .d (.list 32 (x2.1.proof.map rowS) false)]]⟩), (1, ⟨2, [[.d (.v (.int .i64 1)), .d (.v (.int .i64 258))]]⟩), (0, ⟨5, [[.d (.list 1 ([1, 0].map (rInt .i64)) true), .d (.list 1 ([2].map (rInt .i64)) true), .d (.list 1 ([0].map (rInt .i64)) true), .d (.v (.int .i64 1)), .d (.v (.int .i64 0))]]⟩)]) (nx' := 5) ⟨⟨_, rfl, V.le.refl _⟩, ⟨_, rfl, V.le.refl _⟩, ⟨_, rfl, V.le.refl _⟩, ⟨_, rfl, V.le.refl _⟩, ⟨_, rfl, V.le.refl _⟩, ⟨_, rfl, V.le.refl _⟩, ⟨_, rfl, V.le.refl _⟩, ⟨_, rfl, V.le.d (by repeat' first | exact D.le.refl _ | exact D.le_full _ _ _ | exact D.le_nil' _ _ _ | refine D.le_list ?_ | exact LeRows.nil | refine LeRows.cons ?_ ?_ | exact LeL.nil | refine LeL.cons ?_ ?_ | refine D.le_tupL ?_ | refine D.le_aggL ?_)⟩, trivial⟩ ⟨⟨_, rfl, BlkR.refl _⟩, ⟨_, rfl, BlkR.refl _⟩, ⟨_, rfl, BlkR.refl _⟩, trivial⟩ (Nat.le_of_ble_eq_true rfl)) rfl ?_
 refine gv hF (x := .d (.list 5 ([(⟨[1, 0], [2], [0], 1, 0⟩ : Ps)].map Ps.row) true)) (oS (zl u40 sz33 ze33 rfl rfl (PartsQ.cons rfl (PartsQ.nil _)) rfl)) ?_
 refine gv hF (x := .d (.agg 2 [.v (.int .i64 1), .v (.int .i64 258)])) (oL (zn rfl rfl ag35 sz35 rfl rfl)) ?_
 refine gv hF (x := .d (.list 2 ([(⟨1, 258⟩ : Rs)].map Rs.row) true)) (oS (zl u41 sz35 ze35 rfl rfl (PartsQ.cons rfl (PartsQ.nil _)) rfl)) ?_
 obtain ⟨x5, hx5, h⟩ := za h
 refine SmG.call hF rfl rfl (by kernel_rfl) rfl rfl rfl (zg.args (zqn hx5) (fun C => (zfc (by repeat' first | exact D.le.refl _ | exact D.le_full _ _ _ | exact D.le_nil' _ _ _ | refine D.le_list ?_ | exact LeRows.nil | refine LeRows.cons ?_ ?_ | exact LeL.nil | refine LeL.cons ?_ ?_ | refine D.le_tupL ?_ | refine D.le_aggL ?_) (zfc (by repeat' first | exact D.le.refl _ | exact D.le_full _ _ _ | exact D.le_nil' _ _ _ | refine D.le_list ?_ | exact LeRows.nil | refine LeRows.cons ?_ ?_ | exact LeL.nil | refine LeL.cons ?_ ?_ | refine D.le_tupL ?_ | refine D.le_aggL ?_) (fun _ h => h))))) ?_
 refine SmG.new hF rfl rfl rfl (zx rfl al47) ?_
 obtain ⟨x6, hx6, h⟩ := za h
 refine SmG.store hF rfl rfl rfl rfl rfl (z5r rfl rfl sz47 rfl (z9m hx6)) ?_
 refine sn ?_
 refine sr hF ?_
 refine gv hF oM ?_
 refine gv hF (oB (c_eql)) ?_
 rcases zzb (x2.2 == 0) with hc7 | hc7
 ·replace h := ifF hc7 h
  refine gv hF (zj rfl rfl hc7) ?_
  refine gp hF ?_
  refine gp hF ?_
  refine gv hF (zf rfl rfl rfl) ?_
  refine gv hF oM ?_
  refine gp hF ?_
  refine gp hF ?_
  refine gv hF (zf rfl rfl rfl) ?_
  refine gv hF oA ?_
  refine sn ?_
  refine Sm.seq ?_
  refine Sm.drawG hF (by kernel_rfl) rfl 39 (by kernel_rfl) (by kernel_rfl) ?_
  simp only [List.take_succ_cons, List.take_zero, List.take_nil]
  refine hv hF oM ?_
  refine hv hF oM ?_
  refine hp hF ?_
  refine hp hF ?_
  refine hp hF ?_
  refine hv hF (zf rfl rfl rfl) ?_
  refine hv hF oM ?_
  refine hp hF ?_
  refine hp hF ?_
  refine hp hF ?_
  refine hp hF ?_
  refine hv hF (zf rfl rfl rfl) ?_
  refine hv hF oM ?_
  refine hp hF ?_
  refine hp hF ?_
  refine hp hF ?_
  refine hv hF (zf rfl rfl rfl) ?_
  refine hv hF oM ?_
  refine hp hF ?_
  refine hp hF ?_
  refine hp hF ?_
  refine hp hF ?_
  refine hp hF ?_
  refine hp hF ?_
  refine hv hF (zf rfl rfl rfl) ?_
  refine hv hF oM ?_
  refine hp hF ?_
  refine hp hF ?_
  refine hp hF ?_
  refine hv hF (zf rfl rfl rfl) ?_
  refine hv hF oM ?_
  refine hp hF ?_
  refine hp hF ?_
  refine hp hF ?_
  refine hp hF ?_
  refine hv hF (zf rfl rfl rfl) ?_
  refine hv hF oM ?_
  refine hp hF ?_
  refine hp hF ?_
  refine Head.last ⟨rfl, ?_⟩
  simp only [List.drop_succ_cons, List.drop_zero, List.drop_nil, List.nil_append, List.cons_append]
  refine gp hF ?_
  refine gp hF ?_
  refine gv hF (zf rfl rfl rfl) ?_
  refine gv hF oA ?_
  refine sn ?_
  refine Sm.ret ?_
  obtain rfl := zb h
  exact ret1 rfl rfl
 replace h := ifT hc7 h
 refine gv hF (zj rfl rfl hc7) ?_
 refine gv hF oM ?_
 refine gv hF (oB (c_eql)) ?_
 refine gv hF (zu rfl rfl rfl) ?_
 rcases zzb (x3.2 == 1) with hc8 | hc8
 ·replace h := ifF hc8 h
  refine gv hF (zj rfl rfl hc8) ?_
  refine gp hF ?_
  refine gp hF ?_
  refine gv hF (zf rfl rfl rfl) ?_
  refine gv hF oA ?_
  refine sn ?_
  refine Sm.seq ?_
  refine Sm.drawG hF (by kernel_rfl) rfl 39 (by kernel_rfl) (by kernel_rfl) ?_
  simp only [List.take_succ_cons, List.take_zero, List.take_nil]
  refine hv hF oM ?_
  refine hv hF oM ?_
  refine hp hF ?_
  refine hp hF ?_
  refine hp hF ?_
  refine hv hF (zf rfl rfl rfl) ?_
  refine hv hF oM ?_
  refine hp hF ?_
  refine hp hF ?_
  refine hp hF ?_
  refine hp hF ?_
  refine hv hF (zf rfl rfl rfl) ?_
  refine hv hF oM ?_
  refine hp hF ?_
  refine hp hF ?_
  refine hp hF ?_
  refine hv hF (zf rfl rfl rfl) ?_
  refine hv hF oM ?_
  refine hp hF ?_
  refine hp hF ?_
  refine hp hF ?_
  refine hp hF ?_
  refine hp hF ?_
  refine hp hF ?_
  refine hv hF (zf rfl rfl rfl) ?_
  refine hv hF oM ?_
  refine hp hF ?_
  refine hp hF ?_
  refine hp hF ?_
  refine hv hF (zf rfl rfl rfl) ?_
  refine hv hF oM ?_
  refine hp hF ?_
  refine hp hF ?_
  refine hp hF ?_
  refine hp hF ?_
  refine hv hF (zf rfl rfl rfl) ?_
  refine hv hF oM ?_
  refine hp hF ?_
  refine hp hF ?_
  refine Head.last ⟨rfl, ?_⟩
  simp only [List.drop_succ_cons, List.drop_zero, List.drop_nil, List.nil_append, List.cons_append]
  refine gp hF ?_
  refine gp hF ?_
  refine gv hF (zf rfl rfl rfl) ?_
  refine gv hF oA ?_
  refine sn ?_
  refine Sm.ret ?_
  obtain rfl := zb h
  exact ret1 rfl rfl
 replace h := ifT hc8 h
 refine gv hF (zj rfl rfl hc8) ?_
 refine gv hF oM ?_
 refine gv hF (oB (c_eql)) ?_
 refine gv hF (zu rfl rfl rfl) ?_
 refine gv hF oA ?_
 refine sn ?_
 refine Sm.seq ?_
 refine Sm.drawG hF (by kernel_rfl) rfl 39 (by kernel_rfl) (by kernel_rfl) ?_
 simp only [List.take_succ_cons, List.take_zero, List.take_nil]
 refine hv hF oM ?_
 rcases zzb (x4.2 == 1) with hc9 | hc9
 ·replace h := ifF hc9 h
  refine hv hF (zj rfl rfl hc9) ?_
  refine hp hF ?_
  refine hp hF ?_
  refine hp hF ?_
  refine hv hF (zf rfl rfl rfl) ?_
  refine hv hF oM ?_
  refine hp hF ?_
  refine hp hF ?_
  refine hp hF ?_
  refine hp hF ?_
  refine hv hF (zf rfl rfl rfl) ?_
  refine hv hF oM ?_
  refine hp hF ?_
  refine hp hF ?_
  refine hp hF ?_
  refine hv hF (zf rfl rfl rfl) ?_
  refine hv hF oM ?_
  refine hp hF ?_
  refine hp hF ?_
  refine hp hF ?_
  refine hp hF ?_
  refine hp hF ?_
  refine hp hF ?_
  refine hv hF (zf rfl rfl rfl) ?_
  refine hv hF oM ?_
  refine hp hF ?_
  refine hp hF ?_
  refine hp hF ?_
  refine hv hF (zf rfl rfl rfl) ?_
  refine hv hF oM ?_
  refine hp hF ?_
  refine hp hF ?_
  refine hp hF ?_
  refine hp hF ?_
  refine hv hF (zf rfl rfl rfl) ?_
  refine hv hF oM ?_
  refine hp hF ?_
  refine hp hF ?_
  refine Head.last ⟨rfl, ?_⟩
  simp only [List.drop_succ_cons, List.drop_zero, List.drop_nil, List.nil_append, List.cons_append]
  refine gp hF ?_
  refine gp hF ?_
  refine gv hF (zf rfl rfl rfl) ?_
  refine gv hF oA ?_
  refine sn ?_
  refine Sm.ret ?_
  obtain rfl := zb h
  exact ret1 rfl rfl
 replace h := ifT hc9 h
 refine hv hF (zj rfl rfl hc9) ?_
 refine hv hF oM ?_
 refine hv hF (oC (zgk u24 u9 u5)) ?_
 refine hv hF (oB (z3s rfl)) ?_
 refine hv hF (zu rfl rfl rfl) ?_
 rcases zzb (x1 == ([2, 1, 1, 1, 0, 2, 0, 1, 0, 1, 0, 0, 1, 2] : List UInt8)) with hc10 | hc10
 ·replace h := ifF hc10 h
  refine hv hF (zj rfl rfl hc10) ?_
  refine hp hF ?_
  refine hp hF ?_
  refine hp hF ?_
  refine hp hF ?_
  refine hv hF (zf rfl rfl rfl) ?_
  refine hv hF oM ?_
  refine hp hF ?_
  refine hp hF ?_
  refine hp hF ?_
  refine hv hF (zf rfl rfl rfl) ?_
  refine hv hF oM ?_
  refine hp hF ?_
  refine hp hF ?_
  refine hp hF ?_
  refine hp hF ?_
  refine hp hF ?_
  refine hp hF ?_
  refine hv hF (zf rfl rfl rfl) ?_
  refine hv hF oM ?_
  refine hp hF ?_
  refine hp hF ?_
  refine hp hF ?_
  refine hv hF (zf rfl rfl rfl) ?_
  refine hv hF oM ?_
  refine hp hF ?_
  refine hp hF ?_
  refine hp hF ?_
  refine hp hF ?_
  refine hv hF (zf rfl rfl rfl) ?_
  refine hv hF oM ?_
  refine hp hF ?_
  refine hp hF ?_
  refine Head.last ⟨rfl, ?_⟩
  simp only [List.drop_succ_cons, List.drop_zero, List.drop_nil, List.nil_append, List.cons_append]
  refine gp hF ?_
  refine gp hF ?_
  refine gv hF (zf rfl rfl rfl) ?_
  refine gv hF oA ?_
  refine sn ?_
  refine Sm.ret ?_
  obtain rfl := zb h
  exact ret1 rfl rfl
 replace h := ifT hc10 h
 refine hv hF (zj rfl rfl hc10) ?_
 refine hv hF (oF (zq z9t)) ?_
 refine hv hF (oL (z4b rfl rfl ag36 rfl)) ?_
 refine hv hF (oN (lenQD u36)) ?_
 refine hv hF (oB (c_eql)) ?_
 refine hv hF (zu rfl rfl rfl) ?_
 rcases zzb ((x2.1.proof.length : Int) == 0) with hc11 | hc11
 ·replace h := ifF hc11 h
  refine hv hF (zj rfl rfl hc11) ?_
  refine hp hF ?_
  refine hp hF ?_
  refine hp hF ?_
  refine hv hF (zf rfl rfl rfl) ?_
  refine hv hF oM ?_
  refine hp hF ?_
  refine hp hF ?_
  refine hp hF ?_
  refine hp hF ?_
  refine hp hF ?_
  refine hp hF ?_
  refine hv hF (zf rfl rfl rfl) ?_
  refine hv hF oM ?_
  refine hp hF ?_
  refine hp hF ?_
  refine hp hF ?_
  refine hv hF (zf rfl rfl rfl) ?_
  refine hv hF oM ?_
  refine hp hF ?_
  refine hp hF ?_
  refine hp hF ?_
  refine hp hF ?_
  refine hv hF (zf rfl rfl rfl) ?_
  refine hv hF oM ?_
  refine hp hF ?_
  refine hp hF ?_
  refine Head.last ⟨rfl, ?_⟩
  simp only [List.drop_succ_cons, List.drop_zero, List.drop_nil, List.nil_append, List.cons_append]
  refine gp hF ?_
  refine gp hF ?_
  refine gv hF (zf rfl rfl rfl) ?_
  refine gv hF oA ?_
  refine sn ?_
  refine Sm.ret ?_
  obtain rfl := zb h
  exact ret1 rfl rfl
 replace h := ifT hc11 h
 refine hv hF (zj rfl rfl hc11) ?_
 refine hv hF (oF (zq zmt)) ?_
 refine hv hF (oL (z4b rfl rfl ag3 rfl)) ?_
 refine hv hF (oB (c_eql)) ?_
 refine hv hF (zu rfl rfl rfl) ?_
 rcases zzb (x2.1.count == 1) with hc12 | hc12
 ·replace h := ifF hc12 h
  refine hv hF (zj rfl rfl hc12) ?_
  refine hp hF ?_
  refine hp hF ?_
  refine hp hF ?_
  refine hp hF ?_
  refine hp hF ?_
  refine hp hF ?_
  refine hv hF (zf rfl rfl rfl) ?_
  refine hv hF oM ?_
  refine hp hF ?_
  refine hp hF ?_
  refine hp hF ?_
  refine hv hF (zf rfl rfl rfl) ?_
  refine hv hF oM ?_
  refine hp hF ?_
  refine hp hF ?_
  refine hp hF ?_
  refine hp hF ?_
  refine hv hF (zf rfl rfl rfl) ?_
  refine hv hF oM ?_
  refine hp hF ?_
  refine hp hF ?_
  refine Head.last ⟨rfl, ?_⟩
  simp only [List.drop_succ_cons, List.drop_zero, List.drop_nil, List.nil_append, List.cons_append]
  refine gp hF ?_
  refine gp hF ?_
  refine gv hF (zf rfl rfl rfl) ?_
  refine gv hF oA ?_
  refine sn ?_
  refine Sm.ret ?_
  obtain rfl := zb h
  exact ret1 rfl rfl
 replace h := ifT hc12 h
 refine hv hF (zj rfl rfl hc12) ?_
 refine hv hF (x := .d (.agg 32 (rowS x5))) (oL (zfn rfl ag47 sz47)) ?_
 refine hv hF (x := .d (.agg 5 [.list 1 ([1, 0].map (rInt .i64)) true, .list 1 ([2].map (rInt .i64)) true, .list 1 ([0].map (rInt .i64)) true, .v (.int .i64 1), .v (.int .i64 0)])) (oL (zn rfl rfl ag33 sz33 rfl rfl)) ?_
 refine hv hF (x := .d (.agg 2 [.v (.int .i64 1), .v (.int .i64 258)])) (oL (zn rfl rfl ag35 sz35 rfl rfl)) ?_
 obtain ⟨x13, hx13, h⟩ := za h
 refine Head.c hF rfl rfl (by kernel_rfl) rfl rfl rfl (zg.args (zbl hx13) (fun C => (zfc (by repeat' first | exact D.le.refl _ | exact D.le_full _ _ _ | exact D.le_nil' _ _ _ | refine D.le_list ?_ | exact LeRows.nil | refine LeRows.cons ?_ ?_ | exact LeL.nil | refine LeL.cons ?_ ?_ | refine D.le_tupL ?_ | refine D.le_aggL ?_) (zfc (by repeat' first | exact D.le.refl _ | exact D.le_full _ _ _ | exact D.le_nil' _ _ _ | refine D.le_list ?_ | exact LeRows.nil | refine LeRows.cons ?_ ?_ | exact LeL.nil | refine LeL.cons ?_ ?_ | refine D.le_tupL ?_ | refine D.le_aggL ?_) (fun _ h => h))))) ?_
 obtain ⟨x14, hx14, h⟩ := za h
 refine Head.c hF rfl rfl (by kernel_rfl) rfl rfl rfl (z4k hx14) ?_
 obtain ⟨x15, hx15, h⟩ := za h
 obtain ⟨x16, hx16, h⟩ := za h
 refine hv hF (zbs rfl rfl rfl (zvw (by kernel_rfl) (by kernel_rfl) (z9m hx15) (z9m hx16))) ?_
 refine hv hF (zu rfl rfl rfl) ?_
 rcases zzb (x5 == x14) with hc17 | hc17
 ·replace h := ifF hc17 h
  refine hv hF (zj rfl rfl hc17) ?_
  refine hp hF ?_
  refine hp hF ?_
  refine hp hF ?_
  refine hv hF (zf rfl rfl rfl) ?_
  refine hv hF oM ?_
  refine hp hF ?_
  refine hp hF ?_
  refine hp hF ?_
  refine hp hF ?_
  refine hv hF (zf rfl rfl rfl) ?_
  refine hv hF oM ?_
  refine hp hF ?_
  refine hp hF ?_
  refine Head.last ⟨rfl, ?_⟩
  simp only [List.drop_succ_cons, List.drop_zero, List.drop_nil, List.nil_append, List.cons_append]
  refine gp hF ?_
  refine gp hF ?_
  refine gv hF (zf rfl rfl rfl) ?_
  refine gv hF oA ?_
  refine sn ?_
  refine Sm.ret ?_
  obtain rfl := zb h
  exact ret1 rfl rfl
 replace h := ifT hc17 h
 refine hv hF (zj rfl rfl hc17) ?_
 refine hv hF (x := .d (.agg 32 (rowS x5))) (oL (zfn rfl ag47 sz47)) ?_
 refine hv hF (x := .d (.agg 11 [.v (.int .i64 x2.1.version), .v (.int .i64 x2.1.index), .v (.int .i64 x2.1.count), .list 1 (x2.1.pos.at_.map (rInt .i64)) false, .list 1 (x2.1.pos.h0.map (rInt .i64)) false, .list 1 (x2.1.pos.h1.map (rInt .i64)) false, .v (.int .i64 x2.1.pos.rights), .v (.int .i64 x2.1.pos.side), .v (.int .i64 x2.1.entry.out), .v (.int .i64 x2.1.entry.n), .list 32 (x2.1.proof.map rowS) false])) (oL (zn rfl rfl ag38 sz38 rfl rfl)) ?_
 obtain ⟨x18, hx18, h⟩ := za h
 refine Head.c hF rfl rfl (by kernel_rfl) rfl rfl rfl (z1g hx18) ?_
 refine hv hF (zu rfl rfl rfl) ?_
 rcases zzb x18 with hc19 | hc19
 ·replace h := ifF hc19 h
  refine hv hF (zj rfl rfl hc19) ?_
  refine hp hF ?_
  refine hp hF ?_
  refine hp hF ?_
  refine hp hF ?_
  refine hv hF (zf rfl rfl rfl) ?_
  refine hv hF oM ?_
  refine hp hF ?_
  refine hp hF ?_
  refine Head.last ⟨rfl, ?_⟩
  simp only [List.drop_succ_cons, List.drop_zero, List.drop_nil, List.nil_append, List.cons_append]
  refine gp hF ?_
  refine gp hF ?_
  refine gv hF (zf rfl rfl rfl) ?_
  refine gv hF oA ?_
  refine sn ?_
  refine Sm.ret ?_
  obtain rfl := zb h
  exact ret1 rfl rfl
 replace h := ifT hc19 h
 refine hv hF (zj rfl rfl hc19) ?_
 refine hv hF (x := .d (.agg 32 (rowS x5))) (oL (zfn rfl ag47 sz47)) ?_
 refine hv hF (x := .d (.agg 11 [.v (.int .i64 x2.1.version), .v (.int .i64 x2.1.index), .v (.int .i64 x2.1.count), .list 1 (x2.1.pos.at_.map (rInt .i64)) false, .list 1 (x2.1.pos.h0.map (rInt .i64)) false, .list 1 (x2.1.pos.h1.map (rInt .i64)) false, .v (.int .i64 x2.1.pos.rights), .v (.int .i64 x2.1.pos.side), .v (.int .i64 x2.1.entry.out), .v (.int .i64 x2.1.entry.n), .list 32 (x2.1.proof.map rowS) false])) (oL (zn rfl rfl ag38 sz38 rfl rfl)) ?_
 obtain ⟨x20, hx20, h⟩ := za h
 refine Head.c hF rfl rfl (by kernel_rfl) rfl rfl rfl (z1g hx20) ?_
 refine hv hF (z5i rfl rfl (zfk _)) ?_
 refine hv hF (zu rfl rfl rfl) ?_
 rcases zzb (!x20) with hc21 | hc21
 ·replace h := ifF hc21 h
  refine hv hF (zj rfl rfl hc21) ?_
  refine hp hF ?_
  refine hp hF ?_
  refine Head.last ⟨rfl, ?_⟩
  simp only [List.drop_succ_cons, List.drop_zero, List.drop_nil, List.nil_append, List.cons_append]
  refine gp hF ?_
  refine gp hF ?_
  refine gv hF (zf rfl rfl rfl) ?_
  refine gv hF oA ?_
  refine sn ?_
  refine Sm.ret ?_
  obtain rfl := zb h
  exact ret1 rfl rfl
 replace h := ifT hc21 h
 refine hv hF (zj rfl rfl hc21) ?_
 refine hv hF (x := .d (.agg 32 (rowS (List.replicate 32 0)))) (zyf rfl u47 rfl bz47) ?_
 refine hv hF (x := .d (.agg 11 [.v (.int .i64 x2.1.version), .v (.int .i64 x2.1.index), .v (.int .i64 x2.1.count), .list 1 (x2.1.pos.at_.map (rInt .i64)) false, .list 1 (x2.1.pos.h0.map (rInt .i64)) false, .list 1 (x2.1.pos.h1.map (rInt .i64)) false, .v (.int .i64 x2.1.pos.rights), .v (.int .i64 x2.1.pos.side), .v (.int .i64 x2.1.entry.out), .v (.int .i64 x2.1.entry.n), .list 32 (x2.1.proof.map rowS) false])) (oL (zn rfl rfl ag38 sz38 rfl rfl)) ?_
 refine Head.last ⟨rfl, ?_⟩
 simp only [List.drop_succ_cons, List.drop_zero, List.drop_nil, List.nil_append, List.cons_append]
 obtain ⟨x22, hx22, h⟩ := za h
 refine SmG.call hF rfl rfl (by kernel_rfl) rfl rfl rfl (z1g hx22) ?_
 refine gv hF (z5i rfl rfl (zfk _)) ?_
 refine gv hF (zu rfl rfl rfl) ?_
 refine gv hF oA ?_
 refine sn ?_
 refine Sm.ret ?_
 obtain rfl := zb h
 exact ret1 rfl rfl
noncomputable def zhd (a0 : (GRaw × GRaw)) (a1 : (PRaw × PRaw)) (a2 : (Int × Int × Int × Int)) : Option Bool :=
 ob (zzd ) fun x1 =>
 ob (znd a0.1) fun x2 =>
 ob (zvd x2 a1.1) fun x3 =>
 ob (znd a0.2) fun x4 =>
 ob (zvd x4 a1.2) fun x5 =>
 ob (remI a2.1 3) fun x6 =>
 ob (arI .i64 x6) fun x7 =>
 ob (arI .i64 (1 + x7)) fun x8 =>
 ob (shrI .u32 a2.2.1 1) fun x9 =>
 ob (arI .i64 x9) fun x10 =>
 ob (remI a2.2.2.1 3) fun x11 =>
 ob (arI .i64 x11) fun x12 =>
 ob (arI .i64 (1 + x12)) fun x13 =>
 ob (shrI .u32 a2.2.2.2 1) fun x14 =>
 ob (arI .i64 x14) fun x15 =>
 ob (zjd x3 (⟨x8, x10⟩ : Rs)) fun x16 =>
 ob (zjd x5 (⟨x13, x15⟩ : Rs)) fun x17 =>
 bif x1 then (
  ob (zje x3 x5) fun x19 =>
  bif x19 then (
   bif ((x16 == x17) == ((x8 == x13) && ((x10 == x15) && true))) then (
    ob (zlc x3) fun x22 =>
    ob (arI .i64 ((x22.length : Int) + 8)) fun x23 =>
    some ((x16.length : Int) == x23)
   ) else (
    some false
   )
  ) else (
   bif ((x16 == x17) == false) then (
    ob (zlc x3) fun x25 =>
    ob (arI .i64 ((x25.length : Int) + 8)) fun x26 =>
    some ((x16.length : Int) == x26)
   ) else (
    some false
   )
  )
 ) else (
  some false
 )
set_option maxHeartbeats 4000000 in
theorem znh {a0 : (GRaw × GRaw)} {a1 : (PRaw × PRaw)} {a2 : (Int × Int × Int × Int)} {r : Bool} (h : zhd a0 a1 a2 = some r) : zg Tryd.prog HG 6 [.agg 24 [.v (.int .u8 (a0.1.w.toNat : Int)), .v (.int .u8 (a0.1.h.toNat : Int)), .v (.int .u8 (a0.1.cut.toNat : Int)), .list 1 (a0.1.k0.map rowB) false, .list 1 (a0.1.k1.map rowB) false, .list 3 (a0.1.c.map (fun x : (UInt8 × UInt8 × UInt8) => [.v (.int .u8 (x.1.toNat : Int)), .v (.int .u8 (x.2.1.toNat : Int)), .v (.int .u8 (x.2.2.toNat : Int))])) false, .v (.int .u8 (a0.1.f0.toNat : Int)), .v (.int .u8 (a0.1.f1.toNat : Int)), .v (.int .u8 (a0.1.f2.toNat : Int)), .v (.int .u8 (a0.1.f3.toNat : Int)), .v (.int .u8 (a0.1.f4.toNat : Int)), .v (.int .u8 (a0.1.f5.toNat : Int)), .v (.int .u8 (a0.2.w.toNat : Int)), .v (.int .u8 (a0.2.h.toNat : Int)), .v (.int .u8 (a0.2.cut.toNat : Int)), .list 1 (a0.2.k0.map rowB) false, .list 1 (a0.2.k1.map rowB) false, .list 3 (a0.2.c.map (fun x : (UInt8 × UInt8 × UInt8) => [.v (.int .u8 (x.1.toNat : Int)), .v (.int .u8 (x.2.1.toNat : Int)), .v (.int .u8 (x.2.2.toNat : Int))])) false, .v (.int .u8 (a0.2.f0.toNat : Int)), .v (.int .u8 (a0.2.f1.toNat : Int)), .v (.int .u8 (a0.2.f2.toNat : Int)), .v (.int .u8 (a0.2.f3.toNat : Int)), .v (.int .u8 (a0.2.f4.toNat : Int)), .v (.int .u8 (a0.2.f5.toNat : Int))], .agg 36 [.v (.int .u8 (a1.1.c0.toNat : Int)), .v (.int .u8 (a1.1.c1.toNat : Int)), .v (.int .u8 (a1.1.c2.toNat : Int)), .v (.int .u8 (a1.1.c3.toNat : Int)), .v (.int .u8 (a1.1.c4.toNat : Int)), .v (.int .u8 (a1.1.c5.toNat : Int)), .v (.int .u8 (a1.1.k0.toNat : Int)), .v (.int .u8 (a1.1.k1.toNat : Int)), .v (.int .u8 (a1.1.k2.toNat : Int)), .v (.int .u8 (a1.1.k3.toNat : Int)), .v (.int .u8 (a1.1.k4.toNat : Int)), .v (.int .u8 (a1.1.k5.toNat : Int)), .v (.int .u8 (a1.1.h0.toNat : Int)), .v (.int .u8 (a1.1.h1.toNat : Int)), .v (.int .u8 (a1.1.h2.toNat : Int)), .v (.int .u8 (a1.1.h3.toNat : Int)), .v (.int .u8 (a1.1.rights.toNat : Int)), .v (.int .u8 (a1.1.side.toNat : Int)), .v (.int .u8 (a1.2.c0.toNat : Int)), .v (.int .u8 (a1.2.c1.toNat : Int)), .v (.int .u8 (a1.2.c2.toNat : Int)), .v (.int .u8 (a1.2.c3.toNat : Int)), .v (.int .u8 (a1.2.c4.toNat : Int)), .v (.int .u8 (a1.2.c5.toNat : Int)), .v (.int .u8 (a1.2.k0.toNat : Int)), .v (.int .u8 (a1.2.k1.toNat : Int)), .v (.int .u8 (a1.2.k2.toNat : Int)), .v (.int .u8 (a1.2.k3.toNat : Int)), .v (.int .u8 (a1.2.k4.toNat : Int)), .v (.int .u8 (a1.2.k5.toNat : Int)), .v (.int .u8 (a1.2.h0.toNat : Int)), .v (.int .u8 (a1.2.h1.toNat : Int)), .v (.int .u8 (a1.2.h2.toNat : Int)), .v (.int .u8 (a1.2.h3.toNat : Int)), .v (.int .u8 (a1.2.rights.toNat : Int)), .v (.int .u8 (a1.2.side.toNat : Int))], .agg 4 [.v (.int .u32 a2.1), .v (.int .u32 a2.2.1), .v (.int .u32 a2.2.2.1), .v (.int .u32 a2.2.2.2)]] (.v (.bool r)) := by
 unfold zhd at h
 refine zg.of Tryd.func6 rfl Tryd.ntmps6 (by simp) ?_
 intro F hF h0 hT
 show Sm F _ _ ⟨[(0, .d (.agg 24 [.v (.int .u8 (a0.1.w.toNat : Int)), .v (.int .u8 (a0.1.h.toNat : Int)), .v (.int .u8 (a0.1.cut.toNat : Int)), .list 1 (a0.1.k0.map rowB) false, .list 1 (a0.1.k1.map rowB) false, .list 3 (a0.1.c.map (fun x : (UInt8 × UInt8 × UInt8) => [.v (.int .u8 (x.1.toNat : Int)), .v (.int .u8 (x.2.1.toNat : Int)), .v (.int .u8 (x.2.2.toNat : Int))])) false, .v (.int .u8 (a0.1.f0.toNat : Int)), .v (.int .u8 (a0.1.f1.toNat : Int)), .v (.int .u8 (a0.1.f2.toNat : Int)), .v (.int .u8 (a0.1.f3.toNat : Int)), .v (.int .u8 (a0.1.f4.toNat : Int)), .v (.int .u8 (a0.1.f5.toNat : Int)), .v (.int .u8 (a0.2.w.toNat : Int)), .v (.int .u8 (a0.2.h.toNat : Int)), .v (.int .u8 (a0.2.cut.toNat : Int)), .list 1 (a0.2.k0.map rowB) false, .list 1 (a0.2.k1.map rowB) false, .list 3 (a0.2.c.map (fun x : (UInt8 × UInt8 × UInt8) => [.v (.int .u8 (x.1.toNat : Int)), .v (.int .u8 (x.2.1.toNat : Int)), .v (.int .u8 (x.2.2.toNat : Int))])) false, .v (.int .u8 (a0.2.f0.toNat : Int)), .v (.int .u8 (a0.2.f1.toNat : Int)), .v (.int .u8 (a0.2.f2.toNat : Int)), .v (.int .u8 (a0.2.f3.toNat : Int)), .v (.int .u8 (a0.2.f4.toNat : Int)), .v (.int .u8 (a0.2.f5.toNat : Int))])), (1, .d (.agg 36 [.v (.int .u8 (a1.1.c0.toNat : Int)), .v (.int .u8 (a1.1.c1.toNat : Int)), .v (.int .u8 (a1.1.c2.toNat : Int)), .v (.int .u8 (a1.1.c3.toNat : Int)), .v (.int .u8 (a1.1.c4.toNat : Int)), .v (.int .u8 (a1.1.c5.toNat : Int)), .v (.int .u8 (a1.1.k0.toNat : Int)), .v (.int .u8 (a1.1.k1.toNat : Int)), .v (.int .u8 (a1.1.k2.toNat : Int)), .v (.int .u8 (a1.1.k3.toNat : Int)), .v (.int .u8 (a1.1.k4.toNat : Int)), .v (.int .u8 (a1.1.k5.toNat : Int)), .v (.int .u8 (a1.1.h0.toNat : Int)), .v (.int .u8 (a1.1.h1.toNat : Int)), .v (.int .u8 (a1.1.h2.toNat : Int)), .v (.int .u8 (a1.1.h3.toNat : Int)), .v (.int .u8 (a1.1.rights.toNat : Int)), .v (.int .u8 (a1.1.side.toNat : Int)), .v (.int .u8 (a1.2.c0.toNat : Int)), .v (.int .u8 (a1.2.c1.toNat : Int)), .v (.int .u8 (a1.2.c2.toNat : Int)), .v (.int .u8 (a1.2.c3.toNat : Int)), .v (.int .u8 (a1.2.c4.toNat : Int)), .v (.int .u8 (a1.2.c5.toNat : Int)), .v (.int .u8 (a1.2.k0.toNat : Int)), .v (.int .u8 (a1.2.k1.toNat : Int)), .v (.int .u8 (a1.2.k2.toNat : Int)), .v (.int .u8 (a1.2.k3.toNat : Int)), .v (.int .u8 (a1.2.k4.toNat : Int)), .v (.int .u8 (a1.2.k5.toNat : Int)), .v (.int .u8 (a1.2.h0.toNat : Int)), .v (.int .u8 (a1.2.h1.toNat : Int)), .v (.int .u8 (a1.2.h2.toNat : Int)), .v (.int .u8 (a1.2.h3.toNat : Int)), .v (.int .u8 (a1.2.rights.toNat : Int)), .v (.int .u8 (a1.2.side.toNat : Int))])), (2, .d (.agg 4 [.v (.int .u32 a2.1), .v (.int .u32 a2.2.1), .v (.int .u32 a2.2.2.1), .v (.int .u32 a2.2.2.2)]))], [], 0⟩
 refine sr hF ?_
 refine SmG.boxP hF boxA ?_
 refine SmG.boxP hF boxA ?_
 refine SmG.boxP hF boxA ?_
 refine gv hF oA ?_
 refine sn ?_
 refine sr hF ?_
 obtain ⟨x1, hx1, h⟩ := za h
 refine SmG.call hF rfl rfl (by kernel_rfl) rfl rfl rfl (ztj hx1) ?_
 refine gv hF oA ?_
 refine sn ?_
 refine Sm.seq ?_
 refine Sm.drawG hF (by kernel_rfl) rfl 7 (by kernel_rfl) (by kernel_rfl) ?_
 simp only [List.take_succ_cons, List.take_zero, List.take_nil]
 refine hv hF (oI (idxAP u64 sz29 rfl rfl)) ?_
 refine hv hF (x := .d (.agg 12 [.v (.int .u8 (a0.1.w.toNat : Int)), .v (.int .u8 (a0.1.h.toNat : Int)), .v (.int .u8 (a0.1.cut.toNat : Int)), .list 1 (a0.1.k0.map rowB) false, .list 1 (a0.1.k1.map rowB) false, .list 3 (a0.1.c.map (fun x : (UInt8 × UInt8 × UInt8) => [.v (.int .u8 (x.1.toNat : Int)), .v (.int .u8 (x.2.1.toNat : Int)), .v (.int .u8 (x.2.2.toNat : Int))])) false, .v (.int .u8 (a0.1.f0.toNat : Int)), .v (.int .u8 (a0.1.f1.toNat : Int)), .v (.int .u8 (a0.1.f2.toNat : Int)), .v (.int .u8 (a0.1.f3.toNat : Int)), .v (.int .u8 (a0.1.f4.toNat : Int)), .v (.int .u8 (a0.1.f5.toNat : Int))])) (oL (z3d ag29 sz29 rfl rfl)) ?_
 obtain ⟨x2, hx2, h⟩ := za h
 refine Head.c hF rfl rfl (by kernel_rfl) rfl rfl rfl (z7g hx2) ?_
 refine hv hF (oI (idxAP u67 sz66 rfl rfl)) ?_
 refine hv hF (x := .d (.agg 18 [.v (.int .u8 (a1.1.c0.toNat : Int)), .v (.int .u8 (a1.1.c1.toNat : Int)), .v (.int .u8 (a1.1.c2.toNat : Int)), .v (.int .u8 (a1.1.c3.toNat : Int)), .v (.int .u8 (a1.1.c4.toNat : Int)), .v (.int .u8 (a1.1.c5.toNat : Int)), .v (.int .u8 (a1.1.k0.toNat : Int)), .v (.int .u8 (a1.1.k1.toNat : Int)), .v (.int .u8 (a1.1.k2.toNat : Int)), .v (.int .u8 (a1.1.k3.toNat : Int)), .v (.int .u8 (a1.1.k4.toNat : Int)), .v (.int .u8 (a1.1.k5.toNat : Int)), .v (.int .u8 (a1.1.h0.toNat : Int)), .v (.int .u8 (a1.1.h1.toNat : Int)), .v (.int .u8 (a1.1.h2.toNat : Int)), .v (.int .u8 (a1.1.h3.toNat : Int)), .v (.int .u8 (a1.1.rights.toNat : Int)), .v (.int .u8 (a1.1.side.toNat : Int))])) (oL (z3d ag66 sz66 rfl rfl)) ?_
 obtain ⟨x3, hx3, h⟩ := za h
 refine Head.c hF rfl rfl (by kernel_rfl) rfl rfl rfl (z8g hx3) ?_
 refine Head.new hF rfl rfl rfl rfl al33 ?_
 refine Head.last ⟨rfl, ?_⟩
 simp only [List.drop_succ_cons, List.drop_zero, List.drop_nil, List.nil_append, List.cons_append]
 refine SmG.store hF rfl rfl rfl rfl rfl (zy (ys := [.d (.list 1 (x3.at_.map (rInt .i64)) false), .d (.list 1 (x3.h0.map (rInt .i64)) false), .d (.list 1 (x3.h1.map (rInt .i64)) false), .d (.v (.int .i64 x3.rights)), .d (.v (.int .i64 x3.side))]) (r := [.d (.list 0 [] true), .d (.list 0 [] true), .d (.list 0 [] true), .d (.v (.int .i64 0)), .d (.v (.int .i64 0))]) (rows' := [[.d (.list 1 (x3.at_.map (rInt .i64)) false), .d (.list 1 (x3.h0.map (rInt .i64)) false), .d (.list 1 (x3.h1.map (rInt .i64)) false), .d (.v (.int .i64 x3.rights)), .d (.v (.int .i64 x3.side))]]) rfl rfl rfl sz33 rfl rfl rfl rfl rfl) ?_
 refine sn ?_
 refine Sm.seq ?_
 refine Sm.drawG hF (by kernel_rfl) rfl 7 (by kernel_rfl) (by kernel_rfl) ?_
 simp only [List.take_succ_cons, List.take_zero, List.take_nil]
 refine hv hF (oI (idxAP u64 sz29 rfl rfl)) ?_
 refine hv hF (x := .d (.agg 12 [.v (.int .u8 (a0.2.w.toNat : Int)), .v (.int .u8 (a0.2.h.toNat : Int)), .v (.int .u8 (a0.2.cut.toNat : Int)), .list 1 (a0.2.k0.map rowB) false, .list 1 (a0.2.k1.map rowB) false, .list 3 (a0.2.c.map (fun x : (UInt8 × UInt8 × UInt8) => [.v (.int .u8 (x.1.toNat : Int)), .v (.int .u8 (x.2.1.toNat : Int)), .v (.int .u8 (x.2.2.toNat : Int))])) false, .v (.int .u8 (a0.2.f0.toNat : Int)), .v (.int .u8 (a0.2.f1.toNat : Int)), .v (.int .u8 (a0.2.f2.toNat : Int)), .v (.int .u8 (a0.2.f3.toNat : Int)), .v (.int .u8 (a0.2.f4.toNat : Int)), .v (.int .u8 (a0.2.f5.toNat : Int))])) (oL (z3d ag29 sz29 rfl rfl)) ?_
 obtain ⟨x4, hx4, h⟩ := za h
 refine Head.c hF rfl rfl (by kernel_rfl) rfl rfl rfl (z7g hx4) ?_
 refine hv hF (oI (idxAP u67 sz66 rfl rfl)) ?_
 refine hv hF (x := .d (.agg 18 [.v (.int .u8 (a1.2.c0.toNat : Int)), .v (.int .u8 (a1.2.c1.toNat : Int)), .v (.int .u8 (a1.2.c2.toNat : Int)), .v (.int .u8 (a1.2.c3.toNat : Int)), .v (.int .u8 (a1.2.c4.toNat : Int)), .v (.int .u8 (a1.2.c5.toNat : Int)), .v (.int .u8 (a1.2.k0.toNat : Int)), .v (.int .u8 (a1.2.k1.toNat : Int)), .v (.int .u8 (a1.2.k2.toNat : Int)), .v (.int .u8 (a1.2.k3.toNat : Int)), .v (.int .u8 (a1.2.k4.toNat : Int)), .v (.int .u8 (a1.2.k5.toNat : Int)), .v (.int .u8 (a1.2.h0.toNat : Int)), .v (.int .u8 (a1.2.h1.toNat : Int)), .v (.int .u8 (a1.2.h2.toNat : Int)), .v (.int .u8 (a1.2.h3.toNat : Int)), .v (.int .u8 (a1.2.rights.toNat : Int)), .v (.int .u8 (a1.2.side.toNat : Int))])) (oL (z3d ag66 sz66 rfl rfl)) ?_
 obtain ⟨x5, hx5, h⟩ := za h
 refine Head.c hF rfl rfl (by kernel_rfl) rfl rfl rfl (z8g hx5) ?_
 refine Head.new hF rfl rfl rfl rfl al33 ?_
 refine Head.last ⟨rfl, ?_⟩
 simp only [List.drop_succ_cons, List.drop_zero, List.drop_nil, List.nil_append, List.cons_append]
 refine SmG.store hF rfl rfl rfl rfl rfl (zy (ys := [.d (.list 1 (x5.at_.map (rInt .i64)) false), .d (.list 1 (x5.h0.map (rInt .i64)) false), .d (.list 1 (x5.h1.map (rInt .i64)) false), .d (.v (.int .i64 x5.rights)), .d (.v (.int .i64 x5.side))]) (r := [.d (.list 0 [] true), .d (.list 0 [] true), .d (.list 0 [] true), .d (.v (.int .i64 0)), .d (.v (.int .i64 0))]) (rows' := [[.d (.list 1 (x5.at_.map (rInt .i64)) false), .d (.list 1 (x5.h0.map (rInt .i64)) false), .d (.list 1 (x5.h1.map (rInt .i64)) false), .d (.v (.int .i64 x5.rights)), .d (.v (.int .i64 x5.side))]]) rfl rfl rfl sz33 rfl rfl rfl rfl rfl) ?_
 refine sn ?_
 refine sr hF ?_
 refine gv hF (oI (idxAP u69 sz68 rfl rfl)) ?_
 refine gv hF (oL (lP1 ag68 rfl)) ?_
 obtain ⟨x6, hx6, h⟩ := za h
 refine gv hF (oB (zsb hx6)) ?_
 obtain ⟨x7, hx7, h⟩ := za h
 refine gv hF (oC (z8f u68 u3 hx7)) ?_
 obtain ⟨x8, hx8, h⟩ := za h
 refine gv hF (oB (z7 hx8)) ?_
 refine gv hF (oI (idxAP u69 sz68 rfl rfl)) ?_
 refine gv hF (oL (lP1 ag68 rfl)) ?_
 obtain ⟨x9, hx9, h⟩ := za h
 refine gv hF (oB (zfh hx9)) ?_
 obtain ⟨x10, hx10, h⟩ := za h
 refine gv hF (oC (z8f u68 u3 hx10)) ?_
 refine gv hF (x := .d (.agg 2 [.v (.int .i64 x8), .v (.int .i64 x10)])) (zz rfl u35 (by kernel_rfl) rfl (z8 (n := 2) ze35 pl35 rfl rfl)) ?_
 refine SmG.new hF rfl rfl rfl (zx rfl al35) ?_
 refine SmG.store hF rfl rfl rfl rfl rfl (zy (ys := [.d (.v (.int .i64 x8)), .d (.v (.int .i64 x10))]) (r := [.d (.v (.int .i64 0)), .d (.v (.int .i64 0))]) (rows' := [[.d (.v (.int .i64 x8)), .d (.v (.int .i64 x10))]]) rfl rfl rfl sz35 rfl rfl rfl rfl rfl) ?_
 refine sn ?_
 refine sr hF ?_
 refine gv hF (oI (idxAP u69 sz68 rfl rfl)) ?_
 refine gv hF (oL (lP1 ag68 rfl)) ?_
 obtain ⟨x11, hx11, h⟩ := za h
 refine gv hF (oB (zsb hx11)) ?_
 obtain ⟨x12, hx12, h⟩ := za h
 refine gv hF (oC (z8f u68 u3 hx12)) ?_
 obtain ⟨x13, hx13, h⟩ := za h
 refine gv hF (oB (z7 hx13)) ?_
 refine gv hF (oI (idxAP u69 sz68 rfl rfl)) ?_
 refine gv hF (oL (lP1 ag68 rfl)) ?_
 obtain ⟨x14, hx14, h⟩ := za h
 refine gv hF (oB (zfh hx14)) ?_
 obtain ⟨x15, hx15, h⟩ := za h
 refine gv hF (oC (z8f u68 u3 hx15)) ?_
 refine gv hF (x := .d (.agg 2 [.v (.int .i64 x13), .v (.int .i64 x15)])) (zz rfl u35 (by kernel_rfl) rfl (z8 (n := 2) ze35 pl35 rfl rfl)) ?_
 refine SmG.new hF rfl rfl rfl (zx rfl al35) ?_
 refine SmG.store hF rfl rfl rfl rfl rfl (zy (ys := [.d (.v (.int .i64 x13)), .d (.v (.int .i64 x15))]) (r := [.d (.v (.int .i64 0)), .d (.v (.int .i64 0))]) (rows' := [[.d (.v (.int .i64 x13)), .d (.v (.int .i64 x15))]]) rfl rfl rfl sz35 rfl rfl rfl rfl rfl) ?_
 refine sn ?_
 refine sr hF ?_
 refine gv hF (x := .d (.agg 5 [.list 1 (x3.at_.map (rInt .i64)) false, .list 1 (x3.h0.map (rInt .i64)) false, .list 1 (x3.h1.map (rInt .i64)) false, .v (.int .i64 x3.rights), .v (.int .i64 x3.side)])) (oL (zn rfl rfl ag33 sz33 rfl rfl)) ?_
 refine gv hF (x := .d (.agg 2 [.v (.int .i64 x8), .v (.int .i64 x10)])) (oL (zn rfl rfl ag35 sz35 rfl rfl)) ?_
 obtain ⟨x16, hx16, h⟩ := za h
 refine SmG.call hF rfl rfl (by kernel_rfl) rfl rfl rfl (zhf hx16) ?_
 refine gv hF (oC (zgk u24 u9 u5)) ?_
 refine gv hF oA ?_
 refine sn ?_
 refine sr hF ?_
 refine gv hF (x := .d (.agg 5 [.list 1 (x5.at_.map (rInt .i64)) false, .list 1 (x5.h0.map (rInt .i64)) false, .list 1 (x5.h1.map (rInt .i64)) false, .v (.int .i64 x5.rights), .v (.int .i64 x5.side)])) (oL (zn rfl rfl ag33 sz33 rfl rfl)) ?_
 refine gv hF (x := .d (.agg 2 [.v (.int .i64 x13), .v (.int .i64 x15)])) (oL (zn rfl rfl ag35 sz35 rfl rfl)) ?_
 obtain ⟨x17, hx17, h⟩ := za h
 refine SmG.call hF rfl rfl (by kernel_rfl) rfl rfl rfl (zhf hx17) ?_
 refine gv hF (oC (zgk u24 u9 u5)) ?_
 refine gv hF oA ?_
 refine sn ?_
 refine sr hF ?_
 refine gv hF oM ?_
 rcases zzb x1 with hc18 | hc18
 ·replace h := ifF hc18 h
  refine gv hF (zj rfl rfl hc18) ?_
  refine gp hF ?_
  refine gp hF ?_
  refine gp hF ?_
  refine gp hF ?_
  refine gp hF ?_
  refine gp hF ?_
  refine gp hF ?_
  refine gp hF ?_
  refine gp hF ?_
  refine gp hF ?_
  refine gp hF ?_
  refine gp hF ?_
  refine gv hF (zf rfl rfl rfl) ?_
  refine gv hF oM ?_
  refine gp hF ?_
  refine gp hF ?_
  refine gp hF ?_
  refine gp hF ?_
  refine gp hF ?_
  refine gp hF ?_
  refine gp hF ?_
  refine gv hF (zf rfl rfl rfl) ?_
  refine gv hF oA ?_
  refine sn ?_
  refine Sm.ret ?_
  obtain rfl := zb h
  exact ret1 rfl rfl
 replace h := ifT hc18 h
 refine gv hF (zj rfl rfl hc18) ?_
 refine gv hF oM ?_
 refine gv hF oM ?_
 refine gv hF (oB (z3s rfl)) ?_
 refine gv hF (x := .d (.agg 5 [.list 1 (x3.at_.map (rInt .i64)) false, .list 1 (x3.h0.map (rInt .i64)) false, .list 1 (x3.h1.map (rInt .i64)) false, .v (.int .i64 x3.rights), .v (.int .i64 x3.side)])) (oL (zn rfl rfl ag33 sz33 rfl rfl)) ?_
 refine gv hF (x := .d (.agg 5 [.list 1 (x5.at_.map (rInt .i64)) false, .list 1 (x5.h0.map (rInt .i64)) false, .list 1 (x5.h1.map (rInt .i64)) false, .v (.int .i64 x5.rights), .v (.int .i64 x5.side)])) (oL (zn rfl rfl ag33 sz33 rfl rfl)) ?_
 obtain ⟨x19, hx19, h⟩ := za h
 refine SmG.call hF rfl rfl (by kernel_rfl) rfl rfl rfl (z5k hx19) ?_
 rcases z7h x19 with hc20 | hc20
 ·replace h := ifT hc20 h
  refine gv hF (zj rfl rfl hc20) ?_
  refine gv hF (x := .d (.agg 2 [.v (.int .i64 x8), .v (.int .i64 x10)])) (oL (zn rfl rfl ag35 sz35 rfl rfl)) ?_
  refine gv hF (x := .d (.agg 2 [.v (.int .i64 x13), .v (.int .i64 x15)])) (oL (zn rfl rfl ag35 sz35 rfl rfl)) ?_
  refine gv hF (zbs rfl rfl rfl (znu (ds := [.int .i64, .int .i64]) (by kernel_rfl) (by kernel_rfl) rfl)) ?_
  refine gv hF (zu rfl rfl rfl) ?_
  refine gv hF (oB (ziu _ _ _ _ (by kernel_rfl) rfl)) ?_
  refine gv hF (zu rfl rfl rfl) ?_
  rcases zzb ((x16 == x17) == ((x8 == x13) && ((x10 == x15) && true))) with hc21 | hc21
  ·replace h := ifF hc21 h
   refine gv hF (zj rfl rfl hc21) ?_
   refine gp hF ?_
   refine gp hF ?_
   refine gp hF ?_
   refine gp hF ?_
   refine gp hF ?_
   refine gp hF ?_
   refine gp hF ?_
   refine gv hF (zf rfl rfl rfl) ?_
   refine gv hF oA ?_
   refine sn ?_
   refine Sm.ret ?_
   obtain rfl := zb h
   exact ret1 rfl rfl
  replace h := ifT hc21 h
  refine gv hF (zj rfl rfl hc21) ?_
  refine gv hF oM ?_
  refine gv hF (oN (lenQS u9)) ?_
  refine gv hF (x := .d (.agg 5 [.list 1 (x3.at_.map (rInt .i64)) false, .list 1 (x3.h0.map (rInt .i64)) false, .list 1 (x3.h1.map (rInt .i64)) false, .v (.int .i64 x3.rights), .v (.int .i64 x3.side)])) (oL (zn rfl rfl ag33 sz33 rfl rfl)) ?_
  obtain ⟨x22, hx22, h⟩ := za h
  refine SmG.call hF rfl rfl (by kernel_rfl) rfl rfl rfl (z9e hx22) ?_
  refine gv hF (oN (lenQD u30)) ?_
  obtain ⟨x23, hx23, h⟩ := za h
  refine gv hF (oB (z7 hx23)) ?_
  refine gv hF (oB (c_eql)) ?_
  refine gv hF (zu rfl rfl rfl) ?_
  refine gv hF oA ?_
  refine sn ?_
  refine Sm.ret ?_
  obtain rfl := zb h
  exact ret1 rfl rfl
 replace h := ifF hc20 h
 refine gv hF (zj rfl rfl hc20) ?_
 refine gp hF ?_
 refine gp hF ?_
 refine gp hF ?_
 refine gv hF (zf rfl rfl rfl) ?_
 refine gv hF (oB (ziu _ _ _ _ (by kernel_rfl) rfl)) ?_
 refine gv hF (zu rfl rfl rfl) ?_
 rcases zzb ((x16 == x17) == false) with hc24 | hc24
 ·replace h := ifF hc24 h
  refine gv hF (zj rfl rfl hc24) ?_
  refine gp hF ?_
  refine gp hF ?_
  refine gp hF ?_
  refine gp hF ?_
  refine gp hF ?_
  refine gp hF ?_
  refine gp hF ?_
  refine gv hF (zf rfl rfl rfl) ?_
  refine gv hF oA ?_
  refine sn ?_
  refine Sm.ret ?_
  obtain rfl := zb h
  exact ret1 rfl rfl
 replace h := ifT hc24 h
 refine gv hF (zj rfl rfl hc24) ?_
 refine gv hF oM ?_
 refine gv hF (oN (lenQS u9)) ?_
 refine gv hF (x := .d (.agg 5 [.list 1 (x3.at_.map (rInt .i64)) false, .list 1 (x3.h0.map (rInt .i64)) false, .list 1 (x3.h1.map (rInt .i64)) false, .v (.int .i64 x3.rights), .v (.int .i64 x3.side)])) (oL (zn rfl rfl ag33 sz33 rfl rfl)) ?_
 obtain ⟨x25, hx25, h⟩ := za h
 refine SmG.call hF rfl rfl (by kernel_rfl) rfl rfl rfl (z9e hx25) ?_
 refine gv hF (oN (lenQD u30)) ?_
 obtain ⟨x26, hx26, h⟩ := za h
 refine gv hF (oB (z7 hx26)) ?_
 refine gv hF (oB (c_eql)) ?_
 refine gv hF (zu rfl rfl rfl) ?_
 refine gv hF oA ?_
 refine sn ?_
 refine Sm.ret ?_
 obtain rfl := zb h
 exact ret1 rfl rfl
end
section
open Go.RowKit
set_option maxRecDepth 100000
theorem zlj (a b : Int) : Ok (zgc a b) fun v => (v = 0 ↔ a = b) := by
 unfold zgc
 refine Ok.cond (fun h => Ok.ret ?_) fun h => Ok.cond (fun h2 => Ok.ret ?_) fun h2 => Ok.ret ?_
 all_goals simp only [decide_eq_true_eq, decide_eq_false_iff_not] at h
 ·omega
 ·simp only [decide_eq_true_eq] at h2; omega
 ·simp only [decide_eq_false_iff_not] at h2; omega
theorem zyn (a b : List Int) (ha : a.length ≤ 9223372036854775807) : Ok (z2c a b) fun v => (v = 0 ↔ a = b) := by
 unfold z2c
 refine Ok.bind (P := fun o => match o with | .inl () => a.take (min a.length b.length) = b.take (min a.length b.length) | .inr v => v ≠ 0 ∧ a ≠ b) ?_ ?_
 ·refine Ok.loop (fun s : Int => ∃ i : Nat, s = i ∧ i ≤ a.length ∧ i ≤ b.length ∧ a.take i = b.take i) (fun s : Int => a.length - s.toNat) ⟨0, rfl, by omega, by omega, by simp⟩ ?_
  rintro _ ⟨i, rfl, h1, h2, h3⟩
  unfold zzc
  refine Ok.cond (fun c1 => ?_) fun c1 => Ok.ret ?_
  ·refine Ok.cond (fun c2 => ?_) fun c2 => Ok.ret ?_
   ·simp only [decide_eq_true_eq] at c1 c2
    have ea : a[i]? = some (a[i]'(by omega)) := List.getElem?_eq_getElem _
    have eb : b[i]? = some (b[i]'(by omega)) := List.getElem?_eq_getElem _
    generalize a[i]'(by omega) = x at ea
    generalize b[i]'(by omega) = y at eb
    simp only [z9f, ea, eb, ob_eq]
    refine Ok.cond (fun c3 => ?_) fun c3 => ?_
    ·refine Ok.bind (zlj x y) fun v hv => Ok.ret ?_
     have hxy : x ≠ y := by simpa using c3
     exact ⟨fun h => hxy (hv.1 h), fun h => by subst h; rw [ea] at eb; exact hxy (Option.some.inj eb)⟩
    ·have hxy : x = y := by simpa using c3
     rw [zt (by omega), ob_eq]
     refine Ok.ret ⟨⟨i + 1, by omega, by omega, by omega, ?_⟩, by omega⟩
     rw [List.take_add_one, List.take_add_one, ea, eb, h3, hxy]
   ·simp only [decide_eq_false_iff_not] at c2
    have : min a.length b.length = i := by omega
    simp only [this]; exact h3
  ·simp only [decide_eq_false_iff_not] at c1
   have : min a.length b.length = i := by omega
   simp only [this]; exact h3
 ·rintro (⟨⟩ | v) h
  ·refine Ok.bind (zlj _ _) fun v hv => Ok.ret ?_
   simp only at h
   rw [hv]
   constructor
   ·intro e
    have e : a.length = b.length := by omega
    rw [e, Nat.min_self, List.take_length] at h
    rw [← e, List.take_length] at h
    exact h
   ·intro e; rw [e]
  ·exact Ok.ret ⟨fun e => absurd e h.1, fun e => absurd e h.2⟩
structure PsFit (p : Ps) : Prop where
 a : p.at_.length ≤ 9223372036854775807
 b : p.h0.length ≤ 9223372036854775807
 c : p.h1.length ≤ 9223372036854775807
theorem zms (p q : Ps) (hp : PsFit p) : Ok (zld p q) fun v => (v = 0 ↔ p = q) := by
 unfold zld
 refine Ok.bind (zyn _ _ hp.a) fun v1 h1 => ?_
 refine Ok.bind (zyn _ _ hp.b) fun v2 h2 => ?_
 refine Ok.bind (zyn _ _ hp.c) fun v3 h3 => ?_
 refine Ok.bind (zlj _ _) fun v4 h4 => ?_
 refine Ok.bind (zlj _ _) fun v5 h5 => ?_
 have hpq : p = q ↔ v1 = 0 ∧ v2 = 0 ∧ v3 = 0 ∧ v4 = 0 ∧ v5 = 0 := by
  rw [h1, h2, h3, h4, h5]
  obtain ⟨a, b, c, d, e⟩ := p
  obtain ⟨a', b', c', d', e'⟩ := q
  simp only [Ps.mk.injEq]
 rw [hpq]
 refine Ok.bind (P := fun o => match o with | .inl () => ∀ i, i < 5 → [v1, v2, v3, v4, v5][i]? = some 0 | .inr v => v ≠ 0 ∧ v ∈ [v1, v2, v3, v4, v5]) ?_ ?_
 ·refine Ok.loop (fun s : Int => ∃ i : Nat, s = i ∧ i ≤ 5 ∧ ∀ j, j < i → [v1, v2, v3, v4, v5][j]? = some 0) (fun s : Int => 5 - s.toNat) ⟨0, rfl, by omega, fun j h => by omega⟩ ?_
  rintro _ ⟨i, rfl, hi, hall⟩
  unfold zoc
  refine Ok.cond (fun c1 => ?_) fun c1 => Ok.ret ?_
  ·simp only [decide_eq_true_eq, List.length_cons, List.length_nil] at c1
   have hi5 : i < [v1, v2, v3, v4, v5].length := by simp only [List.length_cons, List.length_nil]; omega
   have e : [v1, v2, v3, v4, v5][i]? = some ([v1, v2, v3, v4, v5][i]'hi5) := List.getElem?_eq_getElem _
   generalize [v1, v2, v3, v4, v5][i]'hi5 = x at e
   simp only [z9f, e, ob_eq]
   refine Ok.cond (fun c2 => Ok.ret ⟨by simpa using c2, List.mem_of_getElem? e⟩) fun c2 => ?_
   rw [zt (by omega), ob_eq]
   refine Ok.ret ⟨⟨i + 1, by omega, by omega, fun j hj => ?_⟩, by omega⟩
   rcases Nat.lt_or_ge j i with h | h
   ·exact hall j h
   ·obtain rfl : j = i := by omega
    rw [e]; simpa using c2
  ·simp only [decide_eq_false_iff_not, List.length_cons, List.length_nil] at c1
   intro j hj; exact hall j (by omega)
 ·rintro (⟨⟩ | v) h
  ·refine Ok.ret ?_
   simp only at h
   have g0 := h 0 (by omega); have g1 := h 1 (by omega); have g2 := h 2 (by omega); have g3 := h 3 (by omega); have g4 := h 4 (by omega)
   simp at g0 g1 g2 g3 g4
   simp [g0, g1, g2, g3, g4]
  ·refine Ok.ret ⟨fun e => absurd e h.1, fun e => ?_⟩
   obtain ⟨e1, e2, e3, e4, e5⟩ := e
   have := h.2
   simp [e1, e2, e3, e4, e5] at this
   exact this
theorem zpw (p q : Ps) (hp : PsFit p) : zje p q = some (decide (p = q)) := by
 unfold zje
 obtain ⟨v, h1, h2⟩ := zms p q hp
 rw [zaf h1]
 congr 1
 rw [Bool.eq_iff_iff]
 simp [h2]
end
section
open Go.RowKit
set_option maxRecDepth 100000
theorem zvk {α : Type} (ls : List (List α)) (i : Nat) (x : List α) (h : ls[i]? = some x) : (ls.take (i + 1)).flatten.length = (ls.take i).flatten.length + x.length ∧ (ls.take (i + 1)).flatten = (ls.take i).flatten ++ x := by
 have hi := (List.getElem?_eq_some_iff.1 h).1
 rw [List.take_add_one, h]; simp
theorem zch {α : Type} (ls : List (List α)) (i : Nat) : (ls.take i).flatten.length ≤ ls.flatten.length := by
 have := congrArg (fun l => l.flatten.length) (List.take_append_drop i ls)
 simp only [List.flatten_append, List.length_append] at this
 omega
theorem zzp (n : Int) (h : 0 ≤ n ∧ n ≤ 4294967296) : z9c [] n = some [] := by
 refine Ok.get ?_
 unfold z9c
 refine Ok.cond (fun c => ?_) fun _ => ?_
 ·simp only [decide_eq_true_eq] at c; omega
 ·rw [zt (by omega), ob_eq]
  refine Ok.cond (fun c => ?_) fun _ => Ok.ret rfl
  simp only [decide_eq_true_eq] at c
  have : posI (n - 0) = some (n - 0).toNat := if_pos (by omega)
  rw [this, ob_eq]; exact Ok.ret rfl
theorem zwn (ls : List (List Int)) (h : ls.flatten.length ≤ 4294967296) (hl : ls.length ≤ 4294967296) : zyc ls = some ls.flatten := by
 unfold zyc
 have h1 : loopO (zxb ls) (0, 0) = some (ls.flatten.length : Int) := by
  have := z3i (body := zxb ls) (fun i => (((ls.take i).flatten.length : Nat), (i : Int))) ls.length (e := (ls.flatten.length : Int)) (fun i hi => by
   have hx : ls[i]? = some (ls[i]'hi) := List.getElem?_eq_getElem _
   generalize ls[i]'hi = x at hx
   have hle := zch ls (i + 1)
   have hst := (zvk ls i x hx).1
   unfold zxb
   simp only
   rw [dlt_t (by omega), cond_true, z9f, hx, ob_eq, zt (by omega), ob_eq, dlt_f (by omega), cond_false, zt (by omega), ob_eq, hst]
   rfl) (by
   unfold zxb
   simp only [List.take_length]
   rw [dlt_f (by omega), cond_false])
  simpa using this
 rw [zaf h1, zaf (zzp _ (by omega))]
 have h2 : loopO (zwb ls) (0, []) = some ls.flatten := by
  have := z3i (body := zwb ls) (fun i => ((i : Int), (ls.take i).flatten)) ls.length (e := ls.flatten) (fun i hi => by
   have hx : ls[i]? = some (ls[i]'hi) := List.getElem?_eq_getElem _
   generalize ls[i]'hi = x at hx
   have hle := zch ls (i + 1)
   obtain ⟨hst, hst2⟩ := zvk ls i x hx
   unfold zwb
   simp only
   rw [dlt_t (by omega), cond_true, z9f, hx, ob_eq, z7b (by omega), ob_eq, zt (by omega), ob_eq, hst2]
   rfl) (by
   unfold zwb
   simp only [List.take_length]
   rw [dlt_f (by omega), cond_false])
  simpa using this
 rw [zaf h2]
theorem z3n (n : Int) (h : 0 ≤ n ∧ n ≤ 4294967296) : zxc [] n = some [] := by
 refine Ok.get ?_
 unfold zxc
 refine Ok.cond (fun c => ?_) fun _ => ?_
 ·simp only [decide_eq_true_eq] at c; omega
 ·rw [zt (by omega), ob_eq]
  refine Ok.cond (fun c => ?_) fun _ => Ok.ret rfl
  simp only [decide_eq_true_eq] at c
  have : posI (n - 0) = some (n - 0).toNat := if_pos (by omega)
  rw [this, ob_eq]; exact Ok.ret rfl
theorem zzm (ls : List (List UInt8)) (h : ls.flatten.length ≤ 4294967296) (hl : ls.length ≤ 4294967296) : zqc ls = some ls.flatten := by
 unfold zqc
 have h1 : loopO (zpb ls) (0, 0) = some (ls.flatten.length : Int) := by
  have := z3i (body := zpb ls) (fun i => (((ls.take i).flatten.length : Nat), (i : Int))) ls.length (e := (ls.flatten.length : Int)) (fun i hi => by
   have hx : ls[i]? = some (ls[i]'hi) := List.getElem?_eq_getElem _
   generalize ls[i]'hi = x at hx
   have hle := zch ls (i + 1)
   have hst := (zvk ls i x hx).1
   unfold zpb
   simp only
   rw [dlt_t (by omega), cond_true, z9f, hx, ob_eq, zt (by omega), ob_eq, dlt_f (by omega), cond_false, zt (by omega), ob_eq, hst]
   rfl) (by
   unfold zpb
   simp only [List.take_length]
   rw [dlt_f (by omega), cond_false])
  simpa using this
 rw [zaf h1, zaf (z3n _ (by omega))]
 have h2 : loopO (zob ls) (0, []) = some ls.flatten := by
  have := z3i (body := zob ls) (fun i => ((i : Int), (ls.take i).flatten)) ls.length (e := ls.flatten) (fun i hi => by
   have hx : ls[i]? = some (ls[i]'hi) := List.getElem?_eq_getElem _
   generalize ls[i]'hi = x at hx
   have hle := zch ls (i + 1)
   obtain ⟨hst, hst2⟩ := zvk ls i x hx
   unfold zob
   simp only
   rw [dlt_t (by omega), cond_true, z9f, hx, ob_eq, z7b (by omega), ob_eq, zt (by omega), ob_eq, hst2]
   rfl) (by
   unfold zob
   simp only [List.take_length]
   rw [dlt_f (by omega), cond_false])
  simpa using this
 rw [zaf h2]
theorem zrw (n : Int) : w8 n = lowB n := rfl
theorem zjn (p : Ps) (h : p.at_.length ≤ 1000000000) (h0 : p.h0.length ≤ 1000000000) (h1 : p.h1.length ≤ 1000000000) : zlc p = some (nums p) := by
 unfold zlc nums
 rw [z7b (by simp; omega), ob_eq, z7b (by simp; omega), ob_eq, z7b (by simp; omega), ob_eq, z7b (by simp; omega), ob_eq]
 simp
theorem zqm {body : (Int × List UInt8) → Option ((Int × List UInt8) ⊕ List UInt8)} (l : List Int) (hl : l.length ≤ 4294967295)
  (hb : ∀ s, body s = (bif (decide (s.1 < (l.length : Int))) then (ob (idx l s.1) fun x => ob (app s.2 [(w8 x)]) fun y => ob (arI .i64 (s.1 + 1)) fun z => some (.inl (z, y))) else some (.inr s.2))) : loopO body (0, []) = some (l.map lowB) :=
 zzo l lowB (fun i x acc hx hacc => by
  have hi := (List.getElem?_eq_some_iff.1 hx).1
  rw [hb]
  simp only
  rw [dlt_t (by omega), cond_true, z9f, hx, ob_eq, z7b (by simp; omega), ob_eq, zt (by omega), ob_eq]; rfl) (fun acc => by
  rw [hb]; simp only
  rw [dlt_f (by omega), cond_false])
theorem zgt (p : Ps) (h : p.at_.length ≤ 1000000000) (h0 : p.h0.length ≤ 1000000000) (h1 : p.h1.length ≤ 1000000000) : zue p = some (keyB p) := by
 unfold zue
 rw [zjn p h h0 h1, ob_eq, zqm (body := zye (nums p)) (nums p) (by simp [nums]; omega) (fun s => rfl), ob_eq]; rfl
theorem zuw (p : Ps) (h : p.at_.length ≤ 1000000000) (h0 : p.h0.length ≤ 1000000000) (h1 : p.h1.length ≤ 1000000000) : z8h p = some (keyB p) := by
 unfold z8h
 rw [zwn _ (by simp; omega) (by simp), ob_eq]
 have : [p.at_, p.h0, p.h1, [p.rights, p.side]].flatten = nums p := by simp [nums]
 rw [this, zqm (body := zih (nums p)) (nums p) (by simp [nums]; omega) (fun s => rfl), ob_eq]; rfl
theorem zdq (l : List Int) (h : l.length ≤ 4294967295) : z3e l = some (l.map lowB) := by
 unfold z3e
 rw [zqm (body := zlf l) l h (fun s => rfl), ob_eq]
structure PsB (p : Ps) : Prop where
 a : p.at_.length ≤ 1000000000
 b : p.h0.length ≤ 1000000000
 c : p.h1.length ≤ 1000000000
theorem PsB.fit {p : Ps} (h : PsB p) : PsFit p := ⟨by have := h.a; omega, by have := h.b; omega, by have := h.c; omega⟩
theorem zlp (p : Ps) : (keyB p).length = p.at_.length + p.h0.length + p.h1.length + 2 := by simp [keyB, nums]; omega
theorem zdk (p : Ps) (r : Rs) (h : PsB p) : zjd p r = some (leafB p r) := by
 have ha := h.a
 have hb := h.b
 have hc := h.c
 unfold zjd
 have hk := zlp p
 rw [zdq _ (by simp), ob_eq, zuw p h.a h.b h.c, ob_eq, zko (by omega), ob_eq, zuk (by omega), ob_eq, zuk (by omega), ob_eq, zuk (by omega), ob_eq, zdq _ (by simp), ob_eq, zzm _ (by simp; omega) (by simp), ob_eq]
 simp [leafB, resB]
theorem zus (p : Ps) (r : Rs) (h : PsB p) : zge p r = some (leafB p r) := by
 have ha := h.a
 have hb := h.b
 have hc := h.c
 unfold zge
 have hk := zlp p
 rw [zgt p h.a h.b h.c, ob_eq, zko (by omega), ob_eq, z7b (by simp; omega), ob_eq, z7b (by simp; omega), ob_eq]
 have hloop : loopO (znc r) (3, [w8 p.at_.length, w8 p.h0.length, w8 p.h1.length] ++ keyB p ++ [w8 r.out]) = some (leafB p r) := by
  generalize hL : [w8 p.at_.length, w8 p.h0.length, w8 p.h1.length] ++ keyB p ++ [w8 r.out] = L
  have hLl : L.length ≤ 4000000000 := by rw [← hL]; simp; omega
  have step : ∀ (i : Int) (l : List UInt8), 0 ≤ i → i ≤ 3 → l.length ≤ 4000000010 → znc r (i, l) = some (.inl (i - 1, l ++ [w8 (r.n / 2 ^ (8 * i).toNat)])) := fun i l h0 h3 hl => by
   unfold znc
   simp only
   rw [dle_t (by omega), cond_true, zt (by omega), ob_eq, zuk (by omega), ob_eq, z7b (by simp; omega), ob_eq, zt (by omega), ob_eq]
  refine zrg (step 3 _ (by omega) (by omega) (by omega)) (zrg (step _ _ (by omega) (by omega) (by simp; omega)) (zrg (step _ _ (by omega) (by omega) (by simp; omega)) (zrg (step _ _ (by omega) (by omega) (by simp; omega)) (z7k ?_))))
  unfold znc
  simp only
  rw [dle_f (by omega), cond_false, ← hL]
  simp [leafB, resB, zrw]
 rw [hloop, ob_eq]
end
section
open Go.RowKit
set_option maxRecDepth 100000
structure BrdOk (b : Brd) : Prop where
 c1 : 1 ≤ b.cells
 c9 : b.cells ≤ 9
 nl : b.next.length = 8
 row : ∀ l ∈ b.next, (l.length : Int) = b.cells
 tl : b.turn.length = 8
theorem okT {α : Type} (v : α) : Ok (some v) fun _ => True := ⟨v, rfl, trivial⟩
theorem zzn {a b : Int} (h : 0 < b) : Ok (remI a b) fun _ => True := ⟨_, if_neg (by omega), trivial⟩
theorem zfw {w h : Int} (h1 : 1 ≤ w ∧ w ≤ 3) (h2 : 1 ≤ h ∧ h ≤ 3) : Ok (zee w h) fun r => BrdOk r.1 := by
 obtain ⟨n, hn, hn1, hn9⟩ : ∃ n : Int, w * h = n ∧ 1 ≤ n ∧ n ≤ 9 := by
  obtain rfl | rfl | rfl : w = 1 ∨ w = 2 ∨ w = 3 := by omega
  all_goals exact ⟨_, rfl, by omega, by omega⟩
 unfold zee
 rw [dlt_f (by omega), cond_false, dlt_f (by omega), cond_false, dlt_f (by omega), cond_false, dlt_f (by omega), cond_false, hn, zt (by omega), ob_eq, dlt_f (by omega), cond_false, ob_eq]
 have hin : ∀ (d : Nat) (x : List (List Int)) (y : List Int), d < 8 → Ok (loopO (zpd w h ((d : Int), x, y)) (0, [])) fun l => (l.length : Int) = n := by
  intro d x y hd
  refine Ok.loop (fun s : Int × List Int => ∃ i : Nat, s.1 = i ∧ (i : Int) ≤ n ∧ s.2.length = i) (fun s => n.toNat - s.1.toNat) ⟨0, rfl, by omega, rfl⟩ ?_
  rintro ⟨_, acc⟩ ⟨i, rfl, hi, ha⟩
  unfold zpd
  simp only at ha ⊢
  rw [hn, zt (by omega), ob_eq]
  refine Ok.cond (fun c1 => ?_) fun c1 => Ok.ret (by simp only [decide_eq_false_iff_not] at c1; omega)
  simp only [decide_eq_true_eq] at c1
  have hv : ∀ l : List Int, l.length = 8 → (∀ x ∈ l, -1 ≤ x ∧ x ≤ 1) → ∃ v, idx l (d : Int) = some v ∧ -1 ≤ v ∧ v ≤ 1 := fun l hl hx => ⟨_, zed (by omega) (by omega), hx _ (List.getElem_mem _)⟩
  obtain ⟨a, ha1, ha2⟩ := hv [0, 1, 1, 1, 0, (-1), (-1), (-1)] rfl (by decide)
  obtain ⟨b, hb1, hb2⟩ := hv [(-1), (-1), 0, 1, 1, 1, 0, (-1)] rfl (by decide)
  have q1 := Int.emod_nonneg (i : Int) (b := w) (by omega)
  have q2 := Int.emod_lt_of_pos (i : Int) (b := w) (by omega)
  have q3 : 0 ≤ (i : Int) / w := Int.ediv_nonneg (by omega) (by omega)
  have q4 : (i : Int) / w ≤ i := Int.ediv_le_self _ (by omega)
  rw [zlb (by omega) (by omega), ob_eq, ha1, ob_eq, zt (by omega), ob_eq, zbv (by omega) (by omega), ob_eq, hb1, ob_eq, zt (by omega), ob_eq]
  refine Ok.bind (P := fun _ => True) ?_ fun v _ => ?_
  ·refine Ok.cond (fun _ => Ok.cond (fun _ => Ok.cond (fun k1 => Ok.cond (fun k2 => ?_) fun _ => okT _) fun _ => okT _) fun _ => okT _) fun _ => okT _
   simp only [decide_eq_true_eq] at k1 k2
   generalize (i : Int) / w + b = z at k1 k2 ⊢
   have : 0 ≤ z * w ∧ z * w ≤ 27 := by
    obtain rfl | rfl | rfl : w = 1 ∨ w = 2 ∨ w = 3 := by omega
    all_goals omega
   rw [zt (by omega), ob_eq, zt (by omega), ob_eq]
   exact okT _
  ·rw [z7b (by simp; omega), ob_eq, zt (by omega), ob_eq]
   exact Ok.ret ⟨⟨i + 1, by simp, by omega, by simp [ha]⟩, by simp only; omega⟩
 refine Ok.bind (P := fun r : List (List Int) × List Int => r.1.length = 8 ∧ r.2.length = 8 ∧ ∀ l ∈ r.1, (l.length : Int) = n) ?_ fun r hr => Ok.ret ⟨hn1, hn9, hr.1, hr.2.2, hr.2.1⟩
 refine Ok.loop (fun s : Int × List (List Int) × List Int => ∃ i : Nat, s.1 = i ∧ i ≤ 8 ∧ s.2.1.length = i ∧ s.2.2.length = i ∧ ∀ l ∈ s.2.1, (l.length : Int) = n) (fun s => 8 - s.1.toNat) ⟨0, rfl, by omega, rfl, rfl, fun _ h => by cases h⟩ ?_
 rintro ⟨_, x, y⟩ ⟨i, rfl, hi, hx, hy, hl⟩
 unfold zke
 simp only at hx hy hl ⊢
 refine Ok.cond (fun c1 => ?_) fun c1 => Ok.ret (by simp only [decide_eq_false_iff_not] at c1; simp only; exact ⟨by omega, by omega, hl⟩)
 simp only [decide_eq_true_eq] at c1
 refine Ok.bind (P := fun s : List (List Int) × List Int => s.1.length = i + 1 ∧ s.2.length = i + 1 ∧ ∀ l ∈ s.1, (l.length : Int) = n) ?_ fun s hs => ?_
 ·refine Ok.bind (hin i x y (by omega)) fun v hv => ?_
  rw [z7b (by simp; omega), ob_eq, zt (by omega), ob_eq, zlb (by omega) (by omega), ob_eq, z7b (by simp; omega), ob_eq]
  refine Ok.ret ⟨by simp [hx], by simp [hy], fun l hl' => ?_⟩
  rcases List.mem_append.1 hl' with h | h
  ·exact hl l h
  ·rw [List.mem_singleton.1 h]; exact hv
 ·rw [zt (by omega), ob_eq]
  exact Ok.ret ⟨⟨i + 1, by simp, by omega, hs.1, hs.2.1, hs.2.2⟩, by simp only; omega⟩
theorem zns {b : Brd} {c : Int} (hb : BrdOk b) (hc0 : 0 ≤ c) (hc : c < b.cells) : Ok (zud b c) fun r => BrdOk r.1 := by
 obtain ⟨n, next, turn⟩ := b
 have h1 := hb.c1
 have h9 := hb.c9
 have hnl := hb.nl
 have hrow := hb.row
 have htl := hb.tl
 simp only at h1 h9 hnl hrow htl hc
 unfold zud
 simp only
 rw [dlt_f (by omega), cond_false, dle_f (by omega), cond_false, z7b (by simp; omega), ob_eq]
 have hin : ∀ (d : Nat) (x : List (List Int)), d < 8 → Ok (loopO (z1c ⟨n, next, turn⟩ c ((d : Int), x)) (0, [])) fun l => (l.length : Int) = n := by
  intro d x hd
  refine Ok.loop (fun s : Int × List Int => ∃ i : Nat, s.1 = i ∧ (i : Int) ≤ n ∧ s.2.length = i) (fun s => n.toNat - s.1.toNat) ⟨0, rfl, by omega, rfl⟩ ?_
  rintro ⟨_, acc⟩ ⟨i, rfl, hi, ha⟩
  unfold z1c
  simp only at ha ⊢
  refine Ok.cond (fun c1 => ?_) fun c1 => Ok.ret (by simp only [decide_eq_false_iff_not] at c1; omega)
  simp only [decide_eq_true_eq] at c1
  have hr := hrow (next[d]) (List.getElem_mem _)
  rw [zed (by omega) (by omega), ob_eq]
  refine Ok.eq (zed (by omega) (by show (i : Int) < (next[d].length : Int); omega)) ?_
  refine Ok.bind (P := fun _ => True) (Ok.cond (fun _ => okT _) fun _ => Ok.cond (fun _ => okT _) fun _ => okT _) fun v _ => ?_
  rw [z7b (by simp; omega), ob_eq, zt (by omega), ob_eq]
  exact Ok.ret ⟨⟨i + 1, by simp, by omega, by simp [ha]⟩, by simp only; omega⟩
 refine Ok.bind (P := fun r : List (List Int) => r.length = 8 ∧ ∀ l ∈ r, (l.length : Int) = n) ?_ fun r hr => Ok.ret ⟨h1, h9, hr.1, hr.2, by simpa using htl⟩
 refine Ok.loop (fun s : Int × List (List Int) => ∃ i : Nat, s.1 = i ∧ i ≤ 8 ∧ s.2.length = i ∧ ∀ l ∈ s.2, (l.length : Int) = n) (fun s => 8 - s.1.toNat) ⟨0, rfl, by omega, rfl, fun _ h => by cases h⟩ ?_
 rintro ⟨_, x⟩ ⟨i, rfl, hi, hx, hl⟩
 unfold z2d
 simp only at hx hl ⊢
 refine Ok.cond (fun c1 => ?_) fun c1 => Ok.ret (by simp only [decide_eq_false_iff_not] at c1; exact ⟨by omega, hl⟩)
 simp only [decide_eq_true_eq] at c1
 refine Ok.bind (P := fun s : List (List Int) => s.length = i + 1 ∧ ∀ l ∈ s, (l.length : Int) = n) ?_ fun s hs => ?_
 ·refine Ok.bind (hin i x (by omega)) fun v hv => ?_
  rw [z7b (by simp; omega), ob_eq]
  refine Ok.ret ⟨by simp [hx], fun l hl' => ?_⟩
  rcases List.mem_append.1 hl' with h | h
  ·exact hl l h
  ·rw [List.mem_singleton.1 h]; exact hv
 ·rw [zt (by omega), ob_eq]
  exact Ok.ret ⟨⟨i + 1, by simp, by omega, hs.1, hs.2⟩, by simp only; omega⟩
theorem z0u (a b c : UInt8) : Ok (zde a b c) BrdOk := by
 have ha := a.toNat_lt
 have hb := b.toNat_lt
 have hc := c.toNat_lt
 unfold zde
 rw [zlb (by omega) (by omega), ob_eq, zt (by omega), ob_eq, zt (by omega), ob_eq, zlb (by omega) (by omega), ob_eq, zt (by omega), ob_eq, zt (by omega), ob_eq]
 refine Ok.bind (zfw (by omega) (by omega)) fun r hr => ?_
 refine Ok.bind (P := fun v : Int × List (List Int) × List Int => BrdOk ⟨v.1, v.2.1, v.2.2⟩) (Ok.cond (fun _ => ?_) fun _ => Ok.ret hr) fun v hv => Ok.ret hv
 have := hr.c1
 rw [zlb (by omega) (by omega), ob_eq]
 exact Ok.bind (zns hr (Int.emod_nonneg _ (by omega)) (Int.emod_lt_of_pos _ (by omega))) fun v hv => Ok.ret hv
theorem at_ok (l : List UInt8) {i : Int} (hi : 0 ≤ i) : Ok (zuc l i) fun v => 0 ≤ v ∧ v ≤ 255 := by
 unfold zuc
 refine Ok.cond (fun c => ?_) fun _ => Ok.ret (by omega)
 simp only [decide_eq_true_eq] at c
 rw [zed hi c, ob_eq]
 have := (l[i.toNat]'(by omega)).toNat_lt
 exact Ok.ret (by omega)
theorem ztx (l : List UInt8) : Ok (zte l) fun r => r.length ≤ 6 := by
 unfold zte
 refine Ok.bind (at_ok l (by omega)) fun x1 g1 => ?_
 rw [zlb (by omega) (by omega), ob_eq]
 refine Ok.bind (at_ok l (by omega)) fun x3 g3 => ?_
 rw [zlb (by omega) (by omega), ob_eq]
 refine Ok.bind (at_ok l (by omega)) fun x5 g5 => ?_
 rw [zlb (by omega) (by omega), ob_eq]
 refine Ok.bind (at_ok l (by omega)) fun x7 g7 => ?_
 rw [zlb (by omega) (by omega), ob_eq, zt (by omega), ob_eq, zlb (by omega) (by omega), ob_eq]
 refine Ok.bind (at_ok l (by omega)) fun x11 g11 => ?_
 have key : ∀ t : List (List Stp), t.length = 16 → (∀ r ∈ t, r.length ≤ 6) → Ok (ob (remI x11 (t.length : Int)) fun x12 => ob (idx t x12) fun x13 => some x13) fun r => r.length ≤ 6 := by
  intro t ht hr
  have ht' : ((t.length : Nat) : Int) = 16 := by omega
  rw [ht', zlb (by omega) (by omega), ob_eq, zed (by omega) (by omega), ob_eq]
  exact Ok.ret (hr _ (List.getElem_mem _))
 refine key _ rfl ?_
 intro r hr
 simp only [List.mem_cons, List.not_mem_nil, or_false] at hr
 rcases hr with rfl | rfl | rfl | rfl | rfl | rfl | rfl | rfl | rfl | rfl | rfl | rfl | rfl | rfl | rfl | rfl <;> exact Nat.le_of_ble_eq_true rfl
theorem zww {a : List Stp} {d k r : Int} (ha : a.length ≤ 6) (hd : 0 < d) (hk : 0 < k) (hr : 0 ≤ r) : Ok (zve a d k r) fun _ => True := by
 unfold zve
 refine Ok.bind (P := fun _ => True) ?_ fun v _ => Ok.cond (fun _ => okT _) fun _ => okT _
 refine Ok.loop (fun s : Int × List Stp => ∃ i : Nat, s.1 = i ∧ i ≤ a.length ∧ s.2.length ≤ i) (fun s => a.length - s.1.toNat) ⟨0, rfl, by omega, by simp⟩ ?_
 rintro ⟨_, acc⟩ ⟨i, rfl, hi, hl⟩
 unfold zxe
 simp only at hl ⊢
 refine Ok.cond (fun c1 => ?_) fun _ => Ok.ret trivial
 simp only [decide_eq_true_eq] at c1
 refine Ok.bind (P := fun v : List Stp => v.length ≤ i + 1) ?_ fun v hv => ?_
 ·rw [zed (by omega) (by omega), ob_eq]
  generalize a[(i : Int).toNat]'(by omega) = x
  have okL : ∀ z : Int, Ok (some (.inl z : Int ⊕ List Stp)) fun o => ∀ e, o = .inr e → e.length ≤ i := fun z => ⟨_, rfl, fun e h => by cases h⟩
  refine Ok.bind (P := fun o : Int ⊕ List Stp => ∀ e, o = .inr e → e.length ≤ i) ?_ fun o ho => ?_
  ·refine Ok.bind (P := fun _ => True) (Ok.cond (fun _ => okT _) fun _ => Ok.cond (fun _ => okT _) fun _ => okT _) fun _ _ => ?_
   refine Ok.cond (fun _ => Ok.bind (zzn hd) fun _ _ => okL _) fun _ => Ok.cond (fun _ => Ok.bind (zzn hk) fun _ _ => okL _) fun _ => ?_
   refine Ok.bind (P := fun _ => True) (Ok.cond (fun _ => okT _) fun _ => okT _) fun _ _ => ?_
   refine Ok.cond (fun _ => Ok.cond (fun _ => Ok.ret fun e h => by cases h; exact hl) fun c => ?_) fun _ => okL _
   simp only [beq_eq_false_iff_ne, ne_eq] at c
   exact Ok.bind (zzn (by omega)) fun _ _ => okL _
  ·cases o with
   | inl v =>
    show Ok (ob (app acc [_]) _) _
    rw [z7b (by simp; omega), ob_eq]
    exact Ok.ret (by simp; omega)
   | inr e => exact Ok.ret (by have := ho e rfl; omega)
 ·rw [zt (by omega), ob_eq]
  exact Ok.ret ⟨⟨i + 1, by simp, by omega, hv⟩, by simp only; omega⟩
theorem z7r (n : UInt8) {d k r : Int} (hd : 0 < d) (hk : 0 < k) (hr : 0 ≤ r) : Ok (zrd n d k r) fun _ => True := by
 have hn := n.toNat_lt
 unfold zrd
 rw [zkk (by omega) (by omega), ob_eq, ob_eq, zlb (by omega) (by omega), ob_eq, z2t (by omega), ob_eq, zkk (by omega) (by omega), ob_eq]
 have hu : ∀ z : Int, 0 ≤ z ∧ z ≤ 255 → ∃ u, u8of z = some u := fun z hz => ⟨_, if_pos hz⟩
 obtain ⟨u1, e1⟩ := hu ((n.toNat : Int) / 16) (by omega)
 obtain ⟨u2, e2⟩ := hu ((n.toNat : Int) / 16 + (n.toNat : Int) % 5) (by omega)
 obtain ⟨u3, e3⟩ := hu ((n.toNat : Int) / 3) (by omega)
 rw [e1, ob_eq, e2, ob_eq, e3, ob_eq]
 exact Ok.bind (ztx _) fun x9 h9 => Ok.bind (zww h9 hd hk hr) fun _ _ => okT _
end
end Go.Proofs.YtbaccmkhjmmlnaaDoor
