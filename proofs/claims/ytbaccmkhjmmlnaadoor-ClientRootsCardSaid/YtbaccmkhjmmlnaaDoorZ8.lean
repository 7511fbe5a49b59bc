/-
  Lemmas, part 8 of 8: walks through the program's functions, and plain Lean about what they compute.
-/
import Derived.Test.YtbaccmkhjmmlnaaDoorZ1
import Derived.Test.YtbaccmkhjmmlnaaDoorZ2
import Derived.Test.YtbaccmkhjmmlnaaDoorZ3
import Derived.Test.YtbaccmkhjmmlnaaDoorZ4
import Derived.Test.YtbaccmkhjmmlnaaDoorZ5
import Derived.Test.YtbaccmkhjmmlnaaDoorZ6
import Derived.Test.YtbaccmkhjmmlnaaDoorZ7
set_option linter.unnecessarySimpa false
set_option linter.unusedSimpArgs false
set_option linter.unusedVariables false
namespace Go.Proofs.YtbaccmkhjmmlnaaDoor
section
open Go.RowKit
set_option maxRecDepth 100000
noncomputable def ix (a0 : Int) (a1 : Int) (a2 : Int) : Option Bool :=
 bif (decide (a1 ≤ a0)) then (
  some (decide (a0 ≤ a2))
 ) else (
  some false
 )
set_option maxHeartbeats 4000000 in
theorem qH {a0 : Int} {a1 : Int} {a2 : Int} {r : Bool} (h : ix a0 a1 a2 = some r) : aj Tryd.prog HG 88 [.i a0, .ptr 1 [.i a1], .ptr 1 [.i a2]] (.v (.bool r)) := by
 unfold ix at h
 refine aj.of Tryd.func88 rfl Tryd.ntmps88 (by simp) ?_
 intro F hF h0 hT
 show Sm F _ _ ⟨[(0, .i a0), (1, .d (.ptr 1 [.i a1])), (2, .d (.ptr 1 [.i a2]))], [], 0⟩
 refine sr hF (gv hF oA (sn (sr hF (gv hF (oL (lP1 ag3 rfl)) (gv hF oM (gv hF (oB (vP)) ?_))))))
 rcases kU (decide (a1 ≤ a0)) with hc1 | hc1
 ·replace h := ifT hc1 h
  refine gv hF (ar rfl rfl hc1) (gv hF oM (gv hF (oL (lP1 ag3 rfl)) (gv hF (oB (vP)) (gv hF (aJ rfl rfl rfl) (gv hF oA (sn (Sm.ret ?_)))))))
  obtain rfl := ac h
  exact bu rfl rfl
 replace h := ifF hc1 h
 refine gv hF (ar rfl rfl hc1) (gp hF (gp hF (gp hF (gv hF (ap rfl rfl rfl) (gv hF oA (sn (Sm.ret ?_)))))))
 obtain rfl := ac h
 exact bu rfl rfl
noncomputable def iC (a0 : Int) (a1 : Int) : Option (FnV Tryd.prog HG (α := Int) (β := Bool) (fun x => [.i x]) (fun y => .v (.bool y))) :=
 some (⟨88, [.ptr 1 [.i a0], .ptr 1 [.i a1]], fun x => ix x a0 a1, by kernel_rfl, fun x y h => qH h⟩ : (FnV Tryd.prog HG (α := Int) (β := Bool) (fun x => [.i x]) (fun y => .v (.bool y))))
set_option maxHeartbeats 4000000 in
theorem k9 {a0 : Int} {a1 : Int} {r : (FnV Tryd.prog HG (α := Int) (β := Bool) (fun x => [.i x]) (fun y => .v (.bool y)))} (h : iC a0 a1 = some r) : aj Tryd.prog HG 67 [.i a0, .i a1] (.fn r.g r.c) := by
 unfold iC at h
 refine aj.of Tryd.func67 rfl Tryd.ntmps67 (by simp) ?_
 intro F hF h0 hT
 show Sm F _ _ ⟨[(0, .i a0), (1, .i a1)], [], 0⟩
 refine sr hF ?_
 refine bQ hF yh ?_
 refine bQ hF yh ?_
 refine gv hF oA (sn (sr hF (gv hF (gZ rfl rfl) (gv hF oA (sn (Sm.ret ?_))))))
 obtain rfl := ac h
 exact bu rfl rfl
noncomputable def bT (a0 : List Int) (a1 : (FnV Tryd.prog HG (α := Int) (β := Bool) (fun x => [.i x]) (fun y => .v (.bool y)))) (s1 : Int) : Option (Int ⊕ (Unit ⊕ Int)) :=
 bif (decide (s1 < (a0.length : Int))) then (
  ob (idx a0 s1) fun x6 =>
  ob (a1.f x6) fun x7 =>
  bif x7 then (
   some (.inr (.inr s1))
  ) else (
   ob (arI .i64 (s1 + 1)) fun x9 =>
   some (.inl x9)
  )
 ) else (
  some (.inr (.inl ()))
 )
noncomputable def dQ (a0 : List Int) (a1 : (FnV Tryd.prog HG (α := Int) (β := Bool) (fun x => [.i x]) (fun y => .v (.bool y)))) : Option Int :=
 ob ((
  bm (bT a0 a1) 0
  : Option (Unit ⊕ Int))) fun o11 => match o11 with
 | .inl v10 => (
  some (-1)
  )
 | .inr e12 => some e12
set_option maxHeartbeats 4000000 in
theorem jI {a0 : List Int} {a1 : (FnV Tryd.prog HG (α := Int) (β := Bool) (fun x => [.i x]) (fun y => .v (.bool y)))} {r : Int} (h : dQ a0 a1 = some r) : aj Tryd.prog HG 89 [.l a0, .fn a1.g a1.c] (.i r) := by
 unfold dQ at h
 refine aj.of Tryd.func89 rfl Tryd.ntmps89 (by simp) ?_
 intro F hF h0 hT
 show Sm F _ _ ⟨[(0, .l a0), (1, .d (.fn a1.g a1.c))], [], 0⟩
 refine sr hF (gv hF oA (sn (Sm.seq ?_)))
 obtain ⟨o11, ho11, h⟩ := aa h
 rcases iZ o11 with ⟨e12, rfl⟩ | ⟨v10, rfl⟩
 ·have he12 := ac h
  subst he12
  replace h := ho11
  refine sr hF (gv hF oM (gv hF (oN (aY u30)) (gv hF oM (sn (Sm.block ?_)))))
  refine ba (bT a0 a1) (fun s1 => ⟨[(0, .l a0), (1, .d (.fn a1.g a1.c)), (7, .i (a0.length : Int)), (8, .i s1)], [], 0⟩) 0 h (kA) ?_
  intro n2 s1 o3 h hd4
  unfold bT at h
  refine sr hF (gv hF (oB (bh)) (sn (Sm.seq ?_)))
  refine ay hF rfl (fun hc5 => ?_) (fun hc5 => ?_)
  ·replace h := ifF hc5 h
   refine Sm.exit ?_
   replace h := aC h hd4
   cases h
  replace h := ifT hc5 h
  refine sk (Sm.seq (Sm.block (sr hF (gv hF oM (gv hF oA (sn (sr hF (gv hF oM ?_))))))))
  refine gv hF oM (gv hF oM ?_)
  obtain ⟨x6, hx6, h⟩ := aa h
  refine gv hF (oI (aT u30 sz3 hx6)) (gv hF (oL (lP1 ag3 rfl)) ?_)
  obtain ⟨x7, hx7, h⟩ := aa h
  refine SmG.callF hF rfl rfl rfl rfl rfl rfl a1.body (a1.ok _ _ hx7) ?_
  refine sn ?_
  refine ay hF rfl (fun hc8 => ?_) (fun hc8 => ?_)
  ·replace h := ifF hc8 h
   refine Sm.skip ?_
   refine ak (ae ?_)
   refine ab hF rfl ?_
   obtain ⟨x9, hx9, h⟩ := aa h
   refine gv hF (oB (aU hx9)) (gv hF oM (SmG.nil ?_))
   exact bc (aX h hd4) (kA)
  replace h := ifT hc8 h
  refine sr hF (gv hF oM (gv hF oA (sn (Sm.ret ?_))))
  replace h := aC h hd4
  replace h := gr h
  obtain rfl := ac h
  exact bu rfl rfl
 refine aW ⟨[], [], 0⟩ ?_ ?_
 ·refine Sm.seq ?_
  refine ab hF rfl ?_
  refine gv hF oA (sn (Sm.ret ?_))
  obtain rfl := ac h
  exact bu rfl rfl
 replace h := ho11
 refine sr hF (gv hF oM (gv hF (oN (aY u30)) (gv hF oM (sn (Sm.block ?_)))))
 refine ba (bT a0 a1) (fun s1 => ⟨[(0, .l a0), (1, .d (.fn a1.g a1.c)), (7, .i (a0.length : Int)), (8, .i s1)], [], 0⟩) 0 h (kA) ?_
 intro n2 s1 o3 h hd4
 unfold bT at h
 refine sr hF (gv hF (oB (bh)) (sn (Sm.seq ?_)))
 refine ay hF rfl (fun hc5 => ?_) (fun hc5 => ?_)
 ·replace h := ifF hc5 h
  refine Sm.exit ?_
  replace h := aC h hd4
  obtain rfl := ac (dg h)
  exact (kA)
 replace h := ifT hc5 h
 refine sk (Sm.seq (Sm.block (sr hF (gv hF oM (gv hF oA (sn (sr hF (gv hF oM ?_))))))))
 refine gv hF oM (gv hF oM ?_)
 obtain ⟨x6, hx6, h⟩ := aa h
 refine gv hF (oI (aT u30 sz3 hx6)) (gv hF (oL (lP1 ag3 rfl)) ?_)
 obtain ⟨x7, hx7, h⟩ := aa h
 refine SmG.callF hF rfl rfl rfl rfl rfl rfl a1.body (a1.ok _ _ hx7) ?_
 refine sn ?_
 refine bw hF rfl (fun hc8 => ?_) (fun hc8 => ?_)
 ·replace h := ifT hc8 h
  refine sr hF (gv hF oM (gv hF oA (sn (Sm.ret ?_))))
  replace h := aC h hd4
  cases h
 replace h := ifF hc8 h
 refine Sm.skip ?_
 refine ak (ae ?_)
 refine ab hF rfl ?_
 obtain ⟨x9, hx9, h⟩ := aa h
 refine gv hF (oB (aU hx9)) (gv hF oM (SmG.nil ?_))
 exact bc (aX h hd4) (kA)
noncomputable def cq (a0 : List Int) (a1 : (FnV Tryd.prog HG (α := Int) (β := Bool) (fun x => [.i x]) (fun y => .v (.bool y)))) : Option Bool :=
 ob (dQ a0 a1) fun x1 =>
 some (decide (0 ≤ x1))
set_option maxHeartbeats 4000000 in
theorem jf {a0 : List Int} {a1 : (FnV Tryd.prog HG (α := Int) (β := Bool) (fun x => [.i x]) (fun y => .v (.bool y)))} {r : Bool} (h : cq a0 a1 = some r) : aj Tryd.prog HG 69 [.l a0, .fn a1.g a1.c] (.v (.bool r)) := by
 unfold cq at h
 refine aj.of Tryd.func69 rfl Tryd.ntmps69 (by simp) ?_
 intro F hF h0 hT
 show Sm F _ _ ⟨[(0, .l a0), (1, .d (.fn a1.g a1.c))], [], 0⟩
 refine sr hF (gv hF oA (sn (sr hF (gv hF oM (gv hF oM ?_)))))
 obtain ⟨x1, hx1, h⟩ := aa h
 refine cS hF (jI hx1) ?_
 refine gv hF (oB (oW)) (gv hF oA (sn (Sm.ret ?_)))
 obtain rfl := ac h
 exact bu rfl rfl
noncomputable def fG (a0 : Int) (a1 : (FnV Tryd.prog HG (α := Int) (β := Bool) (fun x => [.i x]) (fun y => .v (.bool y)))) : Option Bool :=
 ob (a1.f a0) fun x1 =>
 some (!x1)
set_option maxHeartbeats 4000000 in
theorem nC {a0 : Int} {a1 : (FnV Tryd.prog HG (α := Int) (β := Bool) (fun x => [.i x]) (fun y => .v (.bool y)))} {r : Bool} (h : fG a0 a1 = some r) : aj Tryd.prog HG 70 [.i a0, .ptr 1 [.fn a1.g a1.c]] (.v (.bool r)) := by
 unfold fG at h
 refine aj.of Tryd.func70 rfl Tryd.ntmps70 (by simp) ?_
 intro F hF h0 hT
 show Sm F _ _ ⟨[(0, .i a0), (1, .d (.ptr 1 [.fn a1.g a1.c]))], [], 0⟩
 refine sr hF (gv hF oA (sn (sr hF (gv hF (oL (lP1 r4 rfl)) (gv hF oM ?_)))))
 obtain ⟨x1, hx1, h⟩ := aa h
 refine SmG.callF hF rfl rfl rfl rfl rfl rfl a1.body (a1.ok _ _ hx1) ?_
 refine gv hF (jF rfl rfl (kz _)) (gv hF oA (sn (Sm.ret ?_)))
 obtain rfl := ac h
 exact bu rfl rfl
noncomputable def eC (a0 : List Int) (a1 : (FnV Tryd.prog HG (α := Int) (β := Bool) (fun x => [.i x]) (fun y => .v (.bool y)))) : Option Bool :=
 bif (decide ((a0.length : Int) ≤ 255)) then (
  ob (cq a0 (⟨70, [.ptr 1 [.fn a1.g a1.c]], fun x => fG x a1, by kernel_rfl, fun x y h => nC h⟩ : (FnV Tryd.prog HG (α := Int) (β := Bool) (fun x => [.i x]) (fun y => .v (.bool y))))) fun x2 =>
  some (!x2)
 ) else (
  some false
 )
set_option maxHeartbeats 4000000 in
theorem iQ {a0 : List Int} {a1 : (FnV Tryd.prog HG (α := Int) (β := Bool) (fun x => [.i x]) (fun y => .v (.bool y)))} {r : Bool} (h : eC a0 a1 = some r) : aj Tryd.prog HG 68 [.l a0, .ptr 1 [.fn a1.g a1.c]] (.v (.bool r)) := by
 unfold eC at h
 refine aj.of Tryd.func68 rfl Tryd.ntmps68 (by simp) ?_
 intro F hF h0 hT
 show Sm F _ _ ⟨[(0, .l a0), (1, .d (.ptr 1 [.fn a1.g a1.c]))], [], 0⟩
 refine sr hF (gv hF oA (sn (sr hF (gv hF oM (gv hF (oN (aY u30)) (gv hF (oB (vP)) ?_))))))
 rcases br (decide ((a0.length : Int) ≤ 255)) with hc1 | hc1
 ·replace h := ifF hc1 h
  refine gv hF (ar rfl rfl hc1) (gp hF (gp hF (gp hF (gp hF (gv hF (ap rfl rfl rfl) (gv hF oA (sn (Sm.ret ?_))))))))
  obtain rfl := ac h
  exact bu rfl rfl
 replace h := ifT hc1 h
 refine gv hF (ar rfl rfl hc1) (gv hF oM (gv hF (gZ rfl rfl) ?_))
 obtain ⟨x2, hx2, h⟩ := aa h
 refine cS hF (jf hx2) ?_
 refine gv hF (jF rfl rfl (kz _)) (gv hF (aJ rfl rfl rfl) (gv hF oA (sn (Sm.ret ?_))))
 obtain rfl := ac h
 exact bu rfl rfl
noncomputable def ib (a0 : Ps) (a1 : Rs) : Option Bool :=
 ob (iC 0 255) fun x1 =>
 ob (eC a0.at_ x1) fun x2 =>
 bif x2 then (
  ob (eC a0.h0 x1) fun x4 =>
  bif x4 then (
   ob (eC a0.h1 x1) fun x6 =>
   bif x6 then (
    ob (x1.f a0.rights) fun x8 =>
    bif x8 then (
     ob (x1.f a0.side) fun x10 =>
     bif x10 then (
      ob (iC 1 3) fun x12 =>
      ob (x12.f a1.out) fun x13 =>
      bif x13 then (
       ob (iC 0 2147483647) fun x15 =>
       ob (x15.f a1.n) fun x16 =>
       some x16
      ) else (
       some false
      )
     ) else (
      some false
     )
    ) else (
     some false
    )
   ) else (
    some false
   )
  ) else (
   some false
  )
 ) else (
  some false
 )
set_option maxHeartbeats 4000000 in
theorem pZ {a0 : Ps} {a1 : Rs} {r : Bool} (h : ib a0 a1 = some r) : aj Tryd.prog HG 44 [.agg 5 (Ps.row a0), .agg 2 (Rs.row a1)] (.v (.bool r)) := by
 unfold ib at h
 refine aj.of Tryd.func44 rfl Tryd.ntmps44 (by simp) ?_
 intro F hF h0 hT
 show Sm F _ _ ⟨[(0, .d (.agg 5 (Ps.row a0))), (1, .d (.agg 2 (Rs.row a1)))], [], 0⟩
 refine sr hF ?_
 refine bQ hF gi ?_
 refine bQ hF gi ?_
 refine gv hF oA (sn (sr hF ?_))
 obtain ⟨x1, hx1, h⟩ := aa h
 refine cS hF (k9 hx1) ?_
 refine SmG.new hF rfl rfl rfl (aO rfl Bo) ?_
 refine SmG.store hF rfl rfl rfl rfl rfl (cM (rows' := [[.d (.fn x1.g x1.c)]]) rfl rfl rfl yT rfl rfl rfl) ?_
 refine sn (sr hF ?_)
 refine dq (aL (kA (e := [(2, .d (.ptr 5 (Ps.row a0))), (3, .d (.ptr 2 (Rs.row a1))), (5, .ref 0 0 0)]) (g := [(0, ⟨1, [[.d (.fn x1.g x1.c)]]⟩)]) (m := 1)) (fA (l := 0) (sz := 1) (e := [(2, .d (.ptr 5 (Ps.row a0))), (3, .d (.ptr 2 (Rs.row a1))), (5, .d (.ptr 1 [.fn x1.g x1.c]))]) (g := []) (nx := 1) [[.fn x1.g x1.c]])) rfl ?_
 refine gv hF (gZ rfl rfl) (gv hF oA (sn (Sm.seq ?_)))
 refine dG hF 40 ?_
 refine hv hF oM (hv hF (oF (ai kD rfl)) (hv hF (oL (lP1 eo rfl)) ?_))
 obtain ⟨x2, hx2, h⟩ := aa h
 refine lC hF rfl rfl rfl rfl rfl rfl (by kernel_rfl) (iQ hx2) ?_
 rcases br x2 with hc3 | hc3
 ·replace h := ifF hc3 h
  refine hv hF (ar rfl rfl hc3) (hp hF (hp hF (hp hF (hp hF (hp hF (hv hF (ap rfl rfl rfl) (hv hF oM (hp hF ?_))))))))
  refine hp hF (hp hF (hp hF (hp hF (hv hF (ap rfl rfl rfl) (hv hF oM (hp hF (hp hF (hp hF ?_))))))))
  refine hp hF (hv hF (ap rfl rfl rfl) (hv hF oM (hp hF (hp hF (hp hF (hp hF (hv hF (ap rfl rfl rfl) (hv hF oM ?_))))))))
  refine hp hF (hp hF (hp hF (hp hF (hv hF (ap rfl rfl rfl) (hv hF oM (hp hF (hp hF (hp hF ?_))))))))
  refine hE ?_
  refine gp hF (gv hF (ap rfl rfl rfl) (gv hF oA (sn (Sm.ret ?_))))
  obtain rfl := ac h
  exact bu rfl rfl
 replace h := ifT hc3 h
 refine hv hF (ar rfl rfl hc3) (hv hF oM (hv hF (oF (ai eT rfl)) (hv hF (oI (ci u31 eE rfl rfl)) (hv hF (oL (lP1 eo rfl)) ?_))))
 obtain ⟨x4, hx4, h⟩ := aa h
 refine lC hF rfl rfl rfl rfl rfl rfl (by kernel_rfl) (iQ hx4) ?_
 refine hv hF (aJ rfl rfl rfl) ?_
 rcases br x4 with hc5 | hc5
 ·replace h := ifF hc5 h
  refine hv hF (ar rfl rfl hc5) (hp hF (hp hF (hp hF (hp hF (hp hF (hv hF (ap rfl rfl rfl) (hv hF oM (hp hF ?_))))))))
  refine hp hF (hp hF (hp hF (hv hF (ap rfl rfl rfl) (hv hF oM (hp hF (hp hF (hp hF (hp hF ?_))))))))
  refine hv hF (ap rfl rfl rfl) (hv hF oM (hp hF (hp hF (hp hF (hp hF (hv hF (ap rfl rfl rfl) (hv hF oM (hp hF ?_))))))))
  refine hp hF (hp hF ?_)
  refine hE ?_
  refine gp hF (gv hF (ap rfl rfl rfl) (gv hF oA (sn (Sm.ret ?_))))
  obtain rfl := ac h
  exact bu rfl rfl
 replace h := ifT hc5 h
 refine hv hF (ar rfl rfl hc5) (hv hF oM (hv hF (oF (ai eT rfl)) (hv hF (oI (ci u31 eE rfl rfl)) (hv hF (oL (lP1 eo rfl)) ?_))))
 obtain ⟨x6, hx6, h⟩ := aa h
 refine lC hF rfl rfl rfl rfl rfl rfl (by kernel_rfl) (iQ hx6) ?_
 refine hv hF (aJ rfl rfl rfl) ?_
 rcases br x6 with hc7 | hc7
 ·replace h := ifF hc7 h
  refine hv hF (ar rfl rfl hc7) (hp hF (hp hF (hp hF (hp hF (hv hF (ap rfl rfl rfl) (hv hF oM (hp hF (hp hF ?_))))))))
  refine hp hF (hp hF (hv hF (ap rfl rfl rfl) (hv hF oM (hp hF (hp hF (hp hF (hp hF (hv hF (ap rfl rfl rfl) ?_))))))))
  refine hv hF oM (hp hF (hp hF (hp hF ?_)))
  refine hE ?_
  refine gp hF (gv hF (ap rfl rfl rfl) (gv hF oA (sn (Sm.ret ?_))))
  obtain rfl := ac h
  exact bu rfl rfl
 replace h := ifT hc7 h
 refine hv hF (ar rfl rfl hc7) (hv hF (oL (lP1 r4 rfl)) (hv hF (oF (ai ov rfl)) (hv hF (oL (lP1 ag3 rfl)) ?_)))
 obtain ⟨x8, hx8, h⟩ := aa h
 refine lC hF rfl rfl rfl rfl rfl rfl x1.body (x1.ok _ _ hx8) ?_
 refine hv hF (aJ rfl rfl rfl) ?_
 rcases br x8 with hc9 | hc9
 ·replace h := ifF hc9 h
  refine hv hF (ar rfl rfl hc9) (hp hF (hp hF (hp hF (hp hF (hv hF (ap rfl rfl rfl) (hv hF oM (hp hF (hp hF ?_))))))))
  refine hp hF (hp hF (hv hF (ap rfl rfl rfl) (hv hF oM (hp hF (hp hF (hp hF ?_))))))
  refine hE ?_
  refine gp hF (gv hF (ap rfl rfl rfl) (gv hF oA (sn (Sm.ret ?_))))
  obtain rfl := ac h
  exact bu rfl rfl
 replace h := ifT hc9 h
 refine hv hF (ar rfl rfl hc9) (hv hF (oL (lP1 r4 rfl)) (hv hF (oF (ai oq rfl)) (hv hF (oL (lP1 ag3 rfl)) ?_)))
 obtain ⟨x10, hx10, h⟩ := aa h
 refine lC hF rfl rfl rfl rfl rfl rfl x1.body (x1.ok _ _ hx10) ?_
 refine hv hF (aJ rfl rfl rfl) ?_
 rcases br x10 with hc11 | hc11
 ·replace h := ifF hc11 h
  refine hv hF (ar rfl rfl hc11) (hp hF (hp hF (hp hF (hp hF (hv hF (ap rfl rfl rfl) (hv hF oM (hp hF (hp hF ?_))))))))
  refine hp hF ?_
  refine hE ?_
  refine gp hF (gv hF (ap rfl rfl rfl) (gv hF oA (sn (Sm.ret ?_))))
  obtain rfl := ac h
  exact bu rfl rfl
 replace h := ifT hc11 h
 refine hv hF (ar rfl rfl hc11) ?_
 obtain ⟨x12, hx12, h⟩ := aa h
 refine cH hF (k9 hx12) ?_
 refine hv hF (oF (ai sM rfl)) (hv hF (oL (lP1 ag3 rfl)) ?_)
 obtain ⟨x13, hx13, h⟩ := aa h
 refine lC hF rfl rfl rfl rfl rfl rfl x12.body (x12.ok _ _ hx13) ?_
 refine hv hF (aJ rfl rfl rfl) ?_
 rcases br x13 with hc14 | hc14
 ·replace h := ifF hc14 h
  refine hv hF (ar rfl rfl hc14) (hp hF (hp hF (hp hF ?_)))
  refine hE ?_
  refine gp hF (gv hF (ap rfl rfl rfl) (gv hF oA (sn (Sm.ret ?_))))
  obtain rfl := ac h
  exact bu rfl rfl
 replace h := ifT hc14 h
 refine hv hF (ar rfl rfl hc14) ?_
 obtain ⟨x15, hx15, h⟩ := aa h
 refine cH hF (k9 hx15) ?_
 refine hv hF (oF (ai mF rfl)) (hv hF (oL (lP1 ag3 rfl)) ?_)
 refine hE ?_
 obtain ⟨x16, hx16, h⟩ := aa h
 refine SmG.callF hF rfl rfl rfl rfl rfl rfl x15.body (x15.ok _ _ hx16) ?_
 refine gv hF (aJ rfl rfl rfl) (gv hF oA (sn (Sm.ret ?_)))
 obtain rfl := ac h
 exact bu rfl rfl
noncomputable def gB (a0 : Ans) (a1 : Int) : Option Bool :=
 some (a0.version == a1)
set_option maxHeartbeats 4000000 in
theorem kN {a0 : Ans} {a1 : Int} {r : Bool} (h : gB a0 a1 = some r) : aj Tryd.prog HG 42 [.ptr 11 (Ans.row a0), .ptr 1 [.i a1]] (.v (.bool r)) := by
 unfold gB at h
 refine aj.of Tryd.func42 rfl Tryd.ntmps42 (by simp) ?_
 intro F hF h0 hT
 show Sm F _ _ ⟨[(0, .d (.ptr 11 (Ans.row a0))), (1, .d (.ptr 1 [.i a1]))], [], 0⟩
 refine sr hF (gv hF oA (sn (sr hF (gv hF (oF (ai z6 rfl)) (gv hF (oL (lP1 ag3 rfl)) (gv hF (oL (lP1 ag3 rfl)) (gv hF (oB (cD)) (gv hF oA ?_))))))))
 refine sn (Sm.ret ?_)
 obtain rfl := ac h
 exact bu rfl rfl
noncomputable def fq (a0 : Ans) : Option Bool :=
 ob (ib a0.pos a0.entry) fun x1 =>
 some x1
set_option maxHeartbeats 4000000 in
theorem kW {a0 : Ans} {r : Bool} (h : fq a0 = some r) : aj Tryd.prog HG 43 [.ptr 11 (Ans.row a0)] (.v (.bool r)) := by
 unfold fq at h
 refine aj.of Tryd.func43 rfl Tryd.ntmps43 (by simp) ?_
 intro F hF h0 hT
 show Sm F _ _ ⟨[(0, .d (.ptr 11 (Ans.row a0)))], [], 0⟩
 refine sr hF (gv hF oA (sn (sr hF (gv hF (oF (ai xh rfl)) (gv hF (x := .d (.agg 5 [.l a0.pos.at_, .l a0.pos.h0, .l a0.pos.h1, .i a0.pos.rights, .i a0.pos.side])) (oL (bR gz cK rfl rfl)) (gv hF (oF (ai wV rfl)) (gv hF (x := .d (.agg 2 [.i a0.entry.out, .i a0.entry.n])) (oL (bR j8 fL rfl rfl)) ?_)))))))
 obtain ⟨x1, hx1, h⟩ := aa h
 refine cS hF (pZ hx1) ?_
 refine gv hF oA (sn (Sm.ret ?_))
 obtain rfl := ac h
 exact bu rfl rfl
noncomputable def fu (a0 : List UInt8) (a1 : Ans) : Option Bool :=
 ob (fU a1.pos a1.entry) fun x1 =>
 ob (jC a0 a1.count a1.index x1 a1.proof) fun x2 =>
 some x2
set_option maxHeartbeats 4000000 in
theorem kJ {a0 : List UInt8} {a1 : Ans} {r : Bool} (h : fu a0 a1 = some r) : aj Tryd.prog HG 45 [.ptr 32 (aI a0), .ptr 11 (Ans.row a1)] (.v (.bool r)) := by
 unfold fu at h
 refine aj.of Tryd.func45 rfl Tryd.ntmps45 (by simp) ?_
 intro F hF h0 hT
 show Sm F _ _ ⟨[(0, .d (.ptr 32 (aI a0))), (1, .d (.ptr 11 (Ans.row a1)))], [], 0⟩
 refine sr hF (gv hF oA (sn (Sm.seq ?_)))
 refine dG hF 12 ?_
 refine hv hF (x := .d (.agg 32 (aI a0))) (oL (bR fJ cB rfl rfl)) (hv hF (oF (ai xn rfl)) (hv hF (oL (lP1 ag3 rfl)) (hv hF (oF (ai Ae rfl)) (hv hF (oL (lP1 ag3 rfl)) (hv hF (oF (ai xh rfl)) (hv hF (x := .d (.agg 5 [.l a1.pos.at_, .l a1.pos.h0, .l a1.pos.h1, .i a1.pos.rights, .i a1.pos.side])) (oL (bR gz cK rfl rfl)) (hv hF (oF (ai wV rfl)) (hv hF (x := .d (.agg 2 [.i a1.entry.out, .i a1.entry.n])) (oL (bR j8 fL rfl rfl)) ?_))))))))
 obtain ⟨x1, hx1, h⟩ := aa h
 refine cH hF (jA hx1) ?_
 refine hv hF (oF (ai xm rfl)) (hv hF (oL (lP1 yg rfl)) ?_)
 refine hE ?_
 obtain ⟨x2, hx2, h⟩ := aa h
 refine cS hF (qX hx2) ?_
 refine gv hF oA (sn (Sm.ret ?_))
 obtain rfl := ac h
 exact bu rfl rfl
noncomputable def gy (a0 : (FnV Tryd.prog HG (α := Unit) (β := Bool) (fun x => []) (fun y => .v (.bool y)))) : Option Bool :=
 ob (a0.f ()) fun x1 =>
 some (!x1)
set_option maxHeartbeats 4000000 in
theorem nZ {a0 : (FnV Tryd.prog HG (α := Unit) (β := Bool) (fun x => []) (fun y => .v (.bool y)))} {r : Bool} (h : gy a0 = some r) : aj Tryd.prog HG 48 [.fn a0.g a0.c] (.v (.bool r)) := by
 unfold gy at h
 refine aj.of Tryd.func48 rfl Tryd.ntmps48 (by simp) ?_
 intro F hF h0 hT
 show Sm F _ _ ⟨[(0, .d (.fn a0.g a0.c))], [], 0⟩
 refine sr hF (gv hF oA (sn (sr hF (gv hF oM ?_))))
 obtain ⟨x1, hx1, h⟩ := aa h
 refine SmG.callF hF rfl rfl rfl rfl rfl rfl a0.body (a0.ok _ _ hx1) ?_
 refine gv hF (jF rfl rfl (kz _)) (gv hF oA (sn (Sm.ret ?_)))
 obtain rfl := ac h
 exact bu rfl rfl
noncomputable def bj (a0 : List (FnV Tryd.prog HG (α := Unit) (β := Bool) (fun x => []) (fun y => .v (.bool y)))) (a1 : (FnV Tryd.prog HG (α := (FnV Tryd.prog HG (α := Unit) (β := Bool) (fun x => []) (fun y => .v (.bool y)))) (β := Bool) (fun x => [.fn x.g x.c]) (fun y => .v (.bool y)))) (s1 : Int) : Option (Int ⊕ (Unit ⊕ Int)) :=
 bif (decide (s1 < (a0.length : Int))) then (
  ob (idx a0 s1) fun x6 =>
  ob (a1.f x6) fun x7 =>
  bif x7 then (
   some (.inr (.inr s1))
  ) else (
   ob (arI .i64 (s1 + 1)) fun x9 =>
   some (.inl x9)
  )
 ) else (
  some (.inr (.inl ()))
 )
noncomputable def b9 (a0 : List (FnV Tryd.prog HG (α := Unit) (β := Bool) (fun x => []) (fun y => .v (.bool y)))) (a1 : (FnV Tryd.prog HG (α := (FnV Tryd.prog HG (α := Unit) (β := Bool) (fun x => []) (fun y => .v (.bool y)))) (β := Bool) (fun x => [.fn x.g x.c]) (fun y => .v (.bool y)))) : Option Int :=
 ob ((
  bm (bj a0 a1) 0
  : Option (Unit ⊕ Int))) fun o11 => match o11 with
 | .inl v10 => (
  some (-1)
  )
 | .inr e12 => some e12
set_option maxHeartbeats 4000000 in
theorem hU {a0 : List (FnV Tryd.prog HG (α := Unit) (β := Bool) (fun x => []) (fun y => .v (.bool y)))} {a1 : (FnV Tryd.prog HG (α := (FnV Tryd.prog HG (α := Unit) (β := Bool) (fun x => []) (fun y => .v (.bool y)))) (β := Bool) (fun x => [.fn x.g x.c]) (fun y => .v (.bool y)))} {r : Int} (h : b9 a0 a1 = some r) : aj Tryd.prog HG 72 [.list 1 (a0.map FnV.row) false, .fn a1.g a1.c] (.i r) := by
 unfold b9 at h
 refine aj.of Tryd.func72 rfl Tryd.ntmps72 (by simp) ?_
 intro F hF h0 hT
 show Sm F _ _ ⟨[(0, .d (.list 1 (a0.map FnV.row) false)), (1, .d (.fn a1.g a1.c))], [], 0⟩
 refine sr hF (gv hF oA (sn (Sm.seq ?_)))
 obtain ⟨o11, ho11, h⟩ := aa h
 rcases iZ o11 with ⟨e12, rfl⟩ | ⟨v10, rfl⟩
 ·have he12 := ac h
  subst he12
  replace h := ho11
  refine sr hF (gv hF oM (gv hF (oN (aY sw)) (gv hF oM (sn (Sm.block ?_)))))
  refine ba (bj a0 a1) (fun s1 => ⟨[(0, .d (.list 1 (a0.map FnV.row) false)), (1, .d (.fn a1.g a1.c)), (7, .i (a0.length : Int)), (8, .i s1)], [], 0⟩) 0 h (kA) ?_
  intro n2 s1 o3 h hd4
  unfold bj at h
  refine sr hF (gv hF (oB (bh)) (sn (Sm.seq ?_)))
  refine ay hF rfl (fun hc5 => ?_) (fun hc5 => ?_)
  ·replace h := ifF hc5 h
   refine Sm.exit ?_
   replace h := aC h hd4
   cases h
  replace h := ifT hc5 h
  refine sk (Sm.seq (Sm.block (sr hF (gv hF oM (gv hF oA (sn (sr hF (gv hF oM ?_))))))))
  refine gv hF oM (gv hF oM ?_)
  obtain ⟨x6, hx6, h⟩ := aa h
  refine gv hF (oI (aT sw vz hx6)) (gv hF (oL (lP1 yc rfl)) ?_)
  obtain ⟨x7, hx7, h⟩ := aa h
  refine SmG.callF hF rfl rfl rfl rfl rfl rfl a1.body (a1.ok _ _ hx7) ?_
  refine sn ?_
  refine ay hF rfl (fun hc8 => ?_) (fun hc8 => ?_)
  ·replace h := ifF hc8 h
   refine Sm.skip ?_
   refine ak (ae ?_)
   refine ab hF rfl ?_
   obtain ⟨x9, hx9, h⟩ := aa h
   refine gv hF (oB (aU hx9)) (gv hF oM (SmG.nil ?_))
   exact bc (aX h hd4) (kA)
  replace h := ifT hc8 h
  refine sr hF (gv hF oM (gv hF oA (sn (Sm.ret ?_))))
  replace h := aC h hd4
  replace h := gr h
  obtain rfl := ac h
  exact bu rfl rfl
 refine aW ⟨[], [], 0⟩ ?_ ?_
 ·refine Sm.seq ?_
  refine ab hF rfl ?_
  refine gv hF oA (sn (Sm.ret ?_))
  obtain rfl := ac h
  exact bu rfl rfl
 replace h := ho11
 refine sr hF (gv hF oM (gv hF (oN (aY sw)) (gv hF oM (sn (Sm.block ?_)))))
 refine ba (bj a0 a1) (fun s1 => ⟨[(0, .d (.list 1 (a0.map FnV.row) false)), (1, .d (.fn a1.g a1.c)), (7, .i (a0.length : Int)), (8, .i s1)], [], 0⟩) 0 h (kA) ?_
 intro n2 s1 o3 h hd4
 unfold bj at h
 refine sr hF (gv hF (oB (bh)) (sn (Sm.seq ?_)))
 refine ay hF rfl (fun hc5 => ?_) (fun hc5 => ?_)
 ·replace h := ifF hc5 h
  refine Sm.exit ?_
  replace h := aC h hd4
  obtain rfl := ac (dg h)
  exact (kA)
 replace h := ifT hc5 h
 refine sk (Sm.seq (Sm.block (sr hF (gv hF oM (gv hF oA (sn (sr hF (gv hF oM ?_))))))))
 refine gv hF oM (gv hF oM ?_)
 obtain ⟨x6, hx6, h⟩ := aa h
 refine gv hF (oI (aT sw vz hx6)) (gv hF (oL (lP1 yc rfl)) ?_)
 obtain ⟨x7, hx7, h⟩ := aa h
 refine SmG.callF hF rfl rfl rfl rfl rfl rfl a1.body (a1.ok _ _ hx7) ?_
 refine sn ?_
 refine bw hF rfl (fun hc8 => ?_) (fun hc8 => ?_)
 ·replace h := ifT hc8 h
  refine sr hF (gv hF oM (gv hF oA (sn (Sm.ret ?_))))
  replace h := aC h hd4
  cases h
 replace h := ifF hc8 h
 refine Sm.skip ?_
 refine ak (ae ?_)
 refine ab hF rfl ?_
 obtain ⟨x9, hx9, h⟩ := aa h
 refine gv hF (oB (aU hx9)) (gv hF oM (SmG.nil ?_))
 exact bc (aX h hd4) (kA)
noncomputable def bE (a0 : List (FnV Tryd.prog HG (α := Unit) (β := Bool) (fun x => []) (fun y => .v (.bool y)))) (a1 : (FnV Tryd.prog HG (α := (FnV Tryd.prog HG (α := Unit) (β := Bool) (fun x => []) (fun y => .v (.bool y)))) (β := Bool) (fun x => [.fn x.g x.c]) (fun y => .v (.bool y)))) : Option Bool :=
 ob (b9 a0 a1) fun x1 =>
 some (decide (0 ≤ x1))
set_option maxHeartbeats 4000000 in
theorem gO {a0 : List (FnV Tryd.prog HG (α := Unit) (β := Bool) (fun x => []) (fun y => .v (.bool y)))} {a1 : (FnV Tryd.prog HG (α := (FnV Tryd.prog HG (α := Unit) (β := Bool) (fun x => []) (fun y => .v (.bool y)))) (β := Bool) (fun x => [.fn x.g x.c]) (fun y => .v (.bool y)))} {r : Bool} (h : bE a0 a1 = some r) : aj Tryd.prog HG 47 [.list 1 (a0.map FnV.row) false, .fn a1.g a1.c] (.v (.bool r)) := by
 unfold bE at h
 refine aj.of Tryd.func47 rfl Tryd.ntmps47 (by simp) ?_
 intro F hF h0 hT
 show Sm F _ _ ⟨[(0, .d (.list 1 (a0.map FnV.row) false)), (1, .d (.fn a1.g a1.c))], [], 0⟩
 refine sr hF (gv hF oA (sn (sr hF (gv hF oM (gv hF oM ?_)))))
 obtain ⟨x1, hx1, h⟩ := aa h
 refine cS hF (hU hx1) ?_
 refine gv hF (oB (oW)) (gv hF oA (sn (Sm.ret ?_)))
 obtain rfl := ac h
 exact bu rfl rfl
noncomputable def fp (a0 : List UInt8) (a1 : Int) (a2 : Ans) : Option Bool :=
 ob (bE ([(⟨42, [.ptr 11 (Ans.row a2), .ptr 1 [.i a1]], fun x => gB  a2 a1, by kernel_rfl, fun x y h => kN h⟩ : (FnV Tryd.prog HG (α := Unit) (β := Bool) (fun x => []) (fun y => .v (.bool y)))), (⟨43, [.ptr 11 (Ans.row a2)], fun x => fq  a2, by kernel_rfl, fun x y h => kW h⟩ : (FnV Tryd.prog HG (α := Unit) (β := Bool) (fun x => []) (fun y => .v (.bool y)))), (⟨45, [.ptr 32 (aI a0), .ptr 11 (Ans.row a2)], fun x => fu  a0 a2, by kernel_rfl, fun x y h => kJ h⟩ : (FnV Tryd.prog HG (α := Unit) (β := Bool) (fun x => []) (fun y => .v (.bool y))))]) (⟨48, [], fun x => gy x , by kernel_rfl, fun x y h => nZ h⟩ : (FnV Tryd.prog HG (α := (FnV Tryd.prog HG (α := Unit) (β := Bool) (fun x => []) (fun y => .v (.bool y)))) (β := Bool) (fun x => [.fn x.g x.c]) (fun y => .v (.bool y))))) fun x1 =>
 some (!x1)
set_option maxHeartbeats 4000000 in
theorem jp {a0 : List UInt8} {a1 : Int} {a2 : Ans} {r : Bool} (h : fp a0 a1 a2 = some r) : aj Tryd.prog HG 18 [.agg 32 (aI a0), .i a1, .agg 11 (Ans.row a2)] (.v (.bool r)) := by
 unfold fp at h
 refine aj.of Tryd.func18 rfl Tryd.ntmps18 (by simp) ?_
 intro F hF h0 hT
 show Sm F _ _ ⟨[(0, .d (.agg 32 (aI a0))), (1, .i a1), (2, .d (.agg 11 (Ans.row a2)))], [], 0⟩
 refine sr hF ?_
 refine bQ hF gi ?_
 refine bQ hF yh ?_
 refine bQ hF gi ?_
 refine gv hF oA (sn (sr hF (gv hF (gZ rfl rfl) (gv hF (gZ rfl rfl) (gv hF (gZ rfl rfl) (gv hF (x := .d (.list 1 ([(⟨42, [.ptr 11 (Ans.row a2), .ptr 1 [.i a1]], fun x => gB  a2 a1, by kernel_rfl, fun x y h => kN h⟩ : (FnV Tryd.prog HG (α := Unit) (β := Bool) (fun x => []) (fun y => .v (.bool y)))), (⟨43, [.ptr 11 (Ans.row a2)], fun x => fq  a2, by kernel_rfl, fun x y h => kW h⟩ : (FnV Tryd.prog HG (α := Unit) (β := Bool) (fun x => []) (fun y => .v (.bool y)))), (⟨45, [.ptr 32 (aI a0), .ptr 11 (Ans.row a2)], fun x => fu  a0 a2, by kernel_rfl, fun x y h => kJ h⟩ : (FnV Tryd.prog HG (α := Unit) (β := Bool) (fun x => []) (fun y => .v (.bool y))))].map FnV.row) true)) (oS (aw sw vz GQ rfl rfl (PartsQ.cons rfl (PartsQ.cons rfl (PartsQ.cons rfl (PartsQ.nil _)))) rfl)) (gv hF oA (sn ?_))))))))
 refine sr hF (gv hF oM ?_)
 obtain ⟨x1, hx1, h⟩ := aa h
 refine SmG.call hF rfl rfl (by kernel_rfl) rfl rfl rfl (aj.args (gO hx1) (fun C => (oE (oE (fun _ h => h))))) ?_
 refine gv hF (jF rfl rfl (kz _)) (gv hF oA (sn (Sm.ret ?_)))
 obtain rfl := ac h
 exact bu rfl rfl
end
section
open Go.RowKit
set_option maxRecDepth 100000
noncomputable def e7 : Option Bool :=
 ob (fU (⟨[1, 0], [2], [0], 1, 0⟩ : Ps) (⟨1, 258⟩ : Rs)) fun x1 =>
 ob (cQ ([(⟨[1, 0], [2], [0], 1, 0⟩ : Ps)]) [(⟨1, 258⟩ : Rs)] 7 0) fun x2 =>
 ob (cQ ([(⟨[1, 0], [2], [0], 1, 0⟩ : Ps)]) [] 7 0) fun x3 =>
 ob (cQ ([(⟨[1, 0], [2], [0], 1, 0⟩ : Ps)]) [(⟨1, 258⟩ : Rs)] 7 1) fun x4 =>
 ob (fc ([(⟨[1, 0], [2], [0], 1, 0⟩ : Ps)]) [(⟨1, 258⟩ : Rs)]) fun x5 =>
 ob (vN 32 x5) fun x6 =>
 bif (x2.2 == 0) then (
  bif (x3.2 == 1) then (
   bif (x4.2 == 1) then (
    bif (x1 == ([2, 1, 1, 1, 0, 2, 0, 1, 0, 1, 0, 0, 1, 2] : List UInt8)) then (
     bif ((x2.1.proof.length : Int) == 0) then (
      bif (x2.1.count == 1) then (
       ob (eN (⟨[1, 0], [2], [0], 1, 0⟩ : Ps) (⟨1, 258⟩ : Rs)) fun x13 =>
       ob (gL x13) fun x14 =>
       ob (vN 32 x5) fun x15 =>
       ob (vN 32 x14) fun x16 =>
       bif (x5 == x14) then (
        ob (fp x5 7 x2.1) fun x18 =>
        bif x18 then (
         ob (fp x5 8 x2.1) fun x20 =>
         bif (!x20) then (
          ob (fp (List.replicate 32 0) 7 x2.1) fun x22 =>
          some (!x22)
         ) else (
          some false
         )
        ) else (
         some false
        )
       ) else (
        some false
       )
      ) else (
       some false
      )
     ) else (
      some false
     )
    ) else (
     some false
    )
   ) else (
    some false
   )
  ) else (
   some false
  )
 ) else (
  some false
 )
set_option maxHeartbeats 4000000 in
theorem mw {r : Bool} (h : e7 = some r) : aj Tryd.prog HG 9 [] (.v (.bool r)) := by
 unfold e7 at h
 refine aj.of Tryd.func9 rfl Tryd.ntmps9 (by simp) ?_
 intro F hF h0 hT
 show Sm F _ _ ⟨[], [], 0⟩
 refine sr hF (gv hF oA (sn (sr hF (gv hF (x := .d (.list 1 ([1, 0].map (af .i64)) true)) (oS (aw u30 sz3 ze3 rfl rfl (PartsQ.cons rfl (PartsQ.cons rfl (PartsQ.nil _))) rfl)) (gv hF (x := .d (.list 1 ([2].map (af .i64)) true)) (oS (aw u30 sz3 ze3 rfl rfl (PartsQ.cons rfl (PartsQ.nil _)) rfl)) (gv hF (x := .d (.list 1 ([0].map (af .i64)) true)) (oS (aw u30 sz3 ze3 rfl rfl (PartsQ.cons rfl (PartsQ.nil _)) rfl)) (gv hF (x := .d (.agg 2 [.list 1 ([2].map (af .i64)) true, .list 1 ([0].map (af .i64)) true])) (iq rfl u31 rfl (vB u31 eE zV rfl rfl)) (gv hF (x := .d (.agg 5 [.list 1 ([1, 0].map (af .i64)) true, .list 1 ([2].map (af .i64)) true, .list 1 ([0].map (af .i64)) true, .i 1, .i 0])) (a8 rfl u33 (by kernel_rfl) rfl (bg (n := 5) oz AB rfl rfl)) ?_))))))))
 refine SmG.new hF rfl rfl rfl (aO rfl yn) ?_
 refine SmG.store hF rfl rfl rfl rfl rfl (bd (ys := [.d (.list 1 ([1, 0].map (af .i64)) true), .d (.list 1 ([2].map (af .i64)) true), .d (.list 1 ([0].map (af .i64)) true), .i 1, .i 0]) (r := [.z, .z, .z, .i 0, .i 0]) (rows' := [[.d (.list 1 ([1, 0].map (af .i64)) true), .d (.list 1 ([2].map (af .i64)) true), .d (.list 1 ([0].map (af .i64)) true), .i 1, .i 0]]) rfl rfl rfl cK rfl rfl rfl rfl rfl) ?_
 refine sn (sr hF (gv hF (x := .d (.agg 2 [.i 1, .i 258])) (a8 rfl u35 (by kernel_rfl) rfl (bg (n := 2) pO An rfl rfl)) ?_))
 refine SmG.new hF rfl rfl rfl (aO rfl Hv) ?_
 refine SmG.store hF rfl rfl rfl rfl rfl (bd (ys := [.i 1, .i 258]) (r := [.i 0, .i 0]) (rows' := [[.i 1, .i 258]]) rfl rfl rfl fL rfl rfl rfl rfl rfl) ?_
 refine sn (sr hF (gv hF (x := .d (.agg 5 [.list 1 ([1, 0].map (af .i64)) true, .list 1 ([2].map (af .i64)) true, .list 1 ([0].map (af .i64)) true, .i 1, .i 0])) (oL (aG rfl rfl gz cK rfl rfl)) (gv hF (x := .d (.agg 2 [.i 1, .i 258])) (oL (aG rfl rfl j8 fL rfl rfl)) ?_)))
 obtain ⟨x1, hx1, h⟩ := aa h
 refine SmG.call hF rfl rfl (by kernel_rfl) rfl rfl rfl (aj.args (jA hx1) (fun C => (oE (oE (fun _ h => h))))) ?_
 refine gv hF oA (sn (sr hF (gv hF (x := .d (.agg 5 [.list 1 ([1, 0].map (af .i64)) true, .list 1 ([2].map (af .i64)) true, .list 1 ([0].map (af .i64)) true, .i 1, .i 0])) (oL (aG rfl rfl gz cK rfl rfl)) ?_)))
 refine dq (wA (e := [(1, .ref 0 0 0), (2, .ref 1 0 0), (3, .d (.list 1 (x1.map aH) false)), (22, .d (.agg 5 [.list 1 ([1, 0].map (af .i64)) false, .list 1 ([2].map (af .i64)) false, .list 1 ([0].map (af .i64)) false, .i 1, .i 0]))]) (g := [(1, ⟨2, [[.i 1, .i 258]]⟩), (0, ⟨5, [[.d (.list 1 ([1, 0].map (af .i64)) true), .d (.list 1 ([2].map (af .i64)) true), .d (.list 1 ([0].map (af .i64)) true), .i 1, .i 0]]⟩)]) (m := 2)) rfl ?_
 refine gv hF (x := .d (.list 5 ([(⟨[1, 0], [2], [0], 1, 0⟩ : Ps)].map Ps.row) true)) (oS (aw u40 cK oz rfl rfl (PartsQ.cons rfl (PartsQ.nil _)) rfl)) (gv hF (x := .d (.agg 2 [.i 1, .i 258])) (oL (aG rfl rfl j8 fL rfl rfl)) (gv hF (x := .d (.list 2 ([(⟨1, 258⟩ : Rs)].map Rs.row) true)) (oS (aw u41 fL pO rfl rfl (PartsQ.cons rfl (PartsQ.nil _)) rfl)) ?_))
 obtain ⟨x2, hx2, h⟩ := aa h
 refine SmG.call hF rfl rfl (by kernel_rfl) rfl rfl rfl (aj.args (ja hx2) (fun C => (oE (oE (oE (oE (fun _ h => h))))))) ?_
 refine gv hF oM (gv hF (bS rfl rfl rfl) (gv hF (bS rfl rfl rfl) ?_))
 refine SmG.new hF rfl rfl rfl (aO rfl uT) ?_
 refine SmG.store hF rfl rfl rfl rfl rfl (bd (ys := [.i x2.1.version, .i x2.1.index, .i x2.1.count, .l x2.1.pos.at_, .l x2.1.pos.h0, .l x2.1.pos.h1, .i x2.1.pos.rights, .i x2.1.pos.side, .i x2.1.entry.out, .i x2.1.entry.n, .d (.list 32 (x2.1.proof.map aI) false)]) (r := [.i 0, .i 0, .i 0, .z, .z, .z, .i 0, .i 0, .i 0, .i 0, .z]) (rows' := [[.i x2.1.version, .i x2.1.index, .i x2.1.count, .l x2.1.pos.at_, .l x2.1.pos.h0, .l x2.1.pos.h1, .i x2.1.pos.rights, .i x2.1.pos.side, .i x2.1.entry.out, .i x2.1.entry.n, .d (.list 32 (x2.1.proof.map aI) false)]]) rfl rfl rfl ka rfl rfl rfl rfl rfl) ?_
 refine gv hF oA (sn (sr hF (gv hF (x := .d (.agg 5 [.list 1 ([1, 0].map (af .i64)) true, .list 1 ([2].map (af .i64)) true, .list 1 ([0].map (af .i64)) true, .i 1, .i 0])) (oL (aG rfl rfl gz cK rfl rfl)) ?_)))
 refine dq (wA (e := [(1, .ref 0 0 0), (2, .ref 1 0 0), (3, .d (.list 1 (x1.map aH) false)), (4, .ref 2 0 0), (5, .i x2.2), (30, .d (.agg 5 [.list 1 ([1, 0].map (af .i64)) false, .list 1 ([2].map (af .i64)) false, .list 1 ([0].map (af .i64)) false, .i 1, .i 0]))]) (g := [(2, ⟨11, [[.i x2.1.version, .i x2.1.index, .i x2.1.count, .l x2.1.pos.at_, .l x2.1.pos.h0, .l x2.1.pos.h1, .i x2.1.pos.rights, .i x2.1.pos.side, .i x2.1.entry.out, .i x2.1.entry.n, .d (.list 32 (x2.1.proof.map aI) false)]]⟩), (1, ⟨2, [[.i 1, .i 258]]⟩), (0, ⟨5, [[.d (.list 1 ([1, 0].map (af .i64)) true), .d (.list 1 ([2].map (af .i64)) true), .d (.list 1 ([0].map (af .i64)) true), .i 1, .i 0]]⟩)]) (m := 3)) rfl ?_
 refine gv hF (x := .d (.list 5 ([(⟨[1, 0], [2], [0], 1, 0⟩ : Ps)].map Ps.row) true)) (oS (aw u40 cK oz rfl rfl (PartsQ.cons rfl (PartsQ.nil _)) rfl)) ?_
 obtain ⟨x3, hx3, h⟩ := aa h
 refine SmG.call hF rfl rfl (by kernel_rfl) rfl rfl rfl (aj.args (ja hx3) (fun C => (oE (oE (oE (oE (fun _ h => h))))))) ?_
 refine gv hF oM (gv hF (bS rfl rfl rfl) (gv hF (bS rfl rfl rfl) ?_))
 refine SmG.new hF rfl rfl rfl (aO rfl uT) ?_
 refine SmG.store hF rfl rfl rfl rfl rfl (bd (ys := [.i x3.1.version, .i x3.1.index, .i x3.1.count, .l x3.1.pos.at_, .l x3.1.pos.h0, .l x3.1.pos.h1, .i x3.1.pos.rights, .i x3.1.pos.side, .i x3.1.entry.out, .i x3.1.entry.n, .d (.list 32 (x3.1.proof.map aI) false)]) (r := [.i 0, .i 0, .i 0, .z, .z, .z, .i 0, .i 0, .i 0, .i 0, .z]) (rows' := [[.i x3.1.version, .i x3.1.index, .i x3.1.count, .l x3.1.pos.at_, .l x3.1.pos.h0, .l x3.1.pos.h1, .i x3.1.pos.rights, .i x3.1.pos.side, .i x3.1.entry.out, .i x3.1.entry.n, .d (.list 32 (x3.1.proof.map aI) false)]]) rfl rfl rfl ka rfl rfl rfl rfl rfl) ?_
 refine gv hF oA (sn (sr hF (gv hF (x := .d (.agg 5 [.list 1 ([1, 0].map (af .i64)) true, .list 1 ([2].map (af .i64)) true, .list 1 ([0].map (af .i64)) true, .i 1, .i 0])) (oL (aG rfl rfl gz cK rfl rfl)) ?_)))
 refine dq (wA (e := [(1, .ref 0 0 0), (2, .ref 1 0 0), (3, .d (.list 1 (x1.map aH) false)), (4, .ref 2 0 0), (5, .i x2.2), (7, .i x3.2), (36, .d (.agg 5 [.list 1 ([1, 0].map (af .i64)) false, .list 1 ([2].map (af .i64)) false, .list 1 ([0].map (af .i64)) false, .i 1, .i 0]))]) (g := [(2, ⟨11, [[.i x2.1.version, .i x2.1.index, .i x2.1.count, .l x2.1.pos.at_, .l x2.1.pos.h0, .l x2.1.pos.h1, .i x2.1.pos.rights, .i x2.1.pos.side, .i x2.1.entry.out, .i x2.1.entry.n, .d (.list 32 (x2.1.proof.map aI) false)]]⟩), (1, ⟨2, [[.i 1, .i 258]]⟩), (0, ⟨5, [[.d (.list 1 ([1, 0].map (af .i64)) true), .d (.list 1 ([2].map (af .i64)) true), .d (.list 1 ([0].map (af .i64)) true), .i 1, .i 0]]⟩)]) (m := 4)) rfl ?_
 refine gv hF (x := .d (.list 5 ([(⟨[1, 0], [2], [0], 1, 0⟩ : Ps)].map Ps.row) true)) (oS (aw u40 cK oz rfl rfl (PartsQ.cons rfl (PartsQ.nil _)) rfl)) (gv hF (x := .d (.agg 2 [.i 1, .i 258])) (oL (aG rfl rfl j8 fL rfl rfl)) (gv hF (x := .d (.list 2 ([(⟨1, 258⟩ : Rs)].map Rs.row) true)) (oS (aw u41 fL pO rfl rfl (PartsQ.cons rfl (PartsQ.nil _)) rfl)) ?_))
 obtain ⟨x4, hx4, h⟩ := aa h
 refine SmG.call hF rfl rfl (by kernel_rfl) rfl rfl rfl (aj.args (ja hx4) (fun C => (oE (oE (oE (oE (fun _ h => h))))))) ?_
 refine gv hF oM (gv hF (bS rfl rfl rfl) (gv hF (bS rfl rfl rfl) ?_))
 refine SmG.new hF rfl rfl rfl (aO rfl uT) ?_
 refine SmG.store hF rfl rfl rfl rfl rfl (bd (ys := [.i x4.1.version, .i x4.1.index, .i x4.1.count, .l x4.1.pos.at_, .l x4.1.pos.h0, .l x4.1.pos.h1, .i x4.1.pos.rights, .i x4.1.pos.side, .i x4.1.entry.out, .i x4.1.entry.n, .d (.list 32 (x4.1.proof.map aI) false)]) (r := [.i 0, .i 0, .i 0, .z, .z, .z, .i 0, .i 0, .i 0, .i 0, .z]) (rows' := [[.i x4.1.version, .i x4.1.index, .i x4.1.count, .l x4.1.pos.at_, .l x4.1.pos.h0, .l x4.1.pos.h1, .i x4.1.pos.rights, .i x4.1.pos.side, .i x4.1.entry.out, .i x4.1.entry.n, .d (.list 32 (x4.1.proof.map aI) false)]]) rfl rfl rfl ka rfl rfl rfl rfl rfl) ?_
 refine gv hF oA (sn (sr hF (gv hF (x := .d (.agg 5 [.list 1 ([1, 0].map (af .i64)) true, .list 1 ([2].map (af .i64)) true, .list 1 ([0].map (af .i64)) true, .i 1, .i 0])) (oL (aG rfl rfl gz cK rfl rfl)) ?_)))
 refine dq (wA (e := [(1, .ref 0 0 0), (2, .ref 1 0 0), (3, .d (.list 1 (x1.map aH) false)), (4, .ref 2 0 0), (5, .i x2.2), (7, .i x3.2), (9, .i x4.2), (43, .d (.agg 5 [.list 1 ([1, 0].map (af .i64)) false, .list 1 ([2].map (af .i64)) false, .list 1 ([0].map (af .i64)) false, .i 1, .i 0]))]) (g := [(2, ⟨11, [[.i x2.1.version, .i x2.1.index, .i x2.1.count, .l x2.1.pos.at_, .l x2.1.pos.h0, .l x2.1.pos.h1, .i x2.1.pos.rights, .i x2.1.pos.side, .i x2.1.entry.out, .i x2.1.entry.n, .d (.list 32 (x2.1.proof.map aI) false)]]⟩), (1, ⟨2, [[.i 1, .i 258]]⟩), (0, ⟨5, [[.d (.list 1 ([1, 0].map (af .i64)) true), .d (.list 1 ([2].map (af .i64)) true), .d (.list 1 ([0].map (af .i64)) true), .i 1, .i 0]]⟩)]) (m := 5)) rfl ?_
 refine gv hF (x := .d (.list 5 ([(⟨[1, 0], [2], [0], 1, 0⟩ : Ps)].map Ps.row) true)) (oS (aw u40 cK oz rfl rfl (PartsQ.cons rfl (PartsQ.nil _)) rfl)) (gv hF (x := .d (.agg 2 [.i 1, .i 258])) (oL (aG rfl rfl j8 fL rfl rfl)) (gv hF (x := .d (.list 2 ([(⟨1, 258⟩ : Rs)].map Rs.row) true)) (oS (aw u41 fL pO rfl rfl (PartsQ.cons rfl (PartsQ.nil _)) rfl)) ?_))
 obtain ⟨x5, hx5, h⟩ := aa h
 refine SmG.call hF rfl rfl (by kernel_rfl) rfl rfl rfl (aj.args (jO hx5) (fun C => (oE (oE (fun _ h => h))))) ?_
 refine SmG.new hF rfl rfl rfl (aO rfl jo) ?_
 obtain ⟨x6, hx6, h⟩ := aa h
 refine SmG.store hF rfl rfl rfl rfl rfl (jv rfl rfl cB rfl (cr hx6)) ?_
 refine sn (sr hF (gv hF oM (gv hF (oB (cD)) ?_)))
 rcases br (x2.2 == 0) with hc7 | hc7
 ·replace h := ifF hc7 h
  refine gv hF (ar rfl rfl hc7) (gp hF (gp hF (gv hF (ap rfl rfl rfl) (gv hF oM (gp hF (gp hF (gv hF (ap rfl rfl rfl) (gv hF oA ?_))))))))
  refine sn (Sm.seq ?_)
  refine dG hF 39 ?_
  refine hv hF oM (hv hF oM (hp hF (hp hF (hp hF (hv hF (ap rfl rfl rfl) (hv hF oM (hp hF (hp hF ?_))))))))
  refine hp hF (hp hF (hv hF (ap rfl rfl rfl) (hv hF oM (hp hF (hp hF (hp hF (hv hF (ap rfl rfl rfl) (hv hF oM ?_))))))))
  refine hp hF (hp hF (hp hF (hp hF (hp hF (hp hF (hv hF (ap rfl rfl rfl) (hv hF oM (hp hF ?_))))))))
  refine hp hF (hp hF (hv hF (ap rfl rfl rfl) (hv hF oM (hp hF (hp hF (hp hF (hp hF (hv hF (ap rfl rfl rfl) ?_))))))))
  refine hv hF oM (hp hF (hp hF ?_))
  refine hE ?_
  refine gp hF (gp hF (gv hF (ap rfl rfl rfl) (gv hF oA (sn (Sm.ret ?_)))))
  obtain rfl := ac h
  exact bu rfl rfl
 replace h := ifT hc7 h
 refine gv hF (ar rfl rfl hc7) (gv hF oM (gv hF (oB (cD)) (gv hF (aJ rfl rfl rfl) ?_)))
 rcases br (x3.2 == 1) with hc8 | hc8
 ·replace h := ifF hc8 h
  refine gv hF (ar rfl rfl hc8) (gp hF (gp hF (gv hF (ap rfl rfl rfl) (gv hF oA (sn (Sm.seq ?_))))))
  refine dG hF 39 ?_
  refine hv hF oM (hv hF oM (hp hF (hp hF (hp hF (hv hF (ap rfl rfl rfl) (hv hF oM (hp hF (hp hF ?_))))))))
  refine hp hF (hp hF (hv hF (ap rfl rfl rfl) (hv hF oM (hp hF (hp hF (hp hF (hv hF (ap rfl rfl rfl) (hv hF oM ?_))))))))
  refine hp hF (hp hF (hp hF (hp hF (hp hF (hp hF (hv hF (ap rfl rfl rfl) (hv hF oM (hp hF ?_))))))))
  refine hp hF (hp hF (hv hF (ap rfl rfl rfl) (hv hF oM (hp hF (hp hF (hp hF (hp hF (hv hF (ap rfl rfl rfl) ?_))))))))
  refine hv hF oM (hp hF (hp hF ?_))
  refine hE ?_
  refine gp hF (gp hF (gv hF (ap rfl rfl rfl) (gv hF oA (sn (Sm.ret ?_)))))
  obtain rfl := ac h
  exact bu rfl rfl
 replace h := ifT hc8 h
 refine gv hF (ar rfl rfl hc8) (gv hF oM (gv hF (oB (cD)) (gv hF (aJ rfl rfl rfl) (gv hF oA (sn (Sm.seq ?_))))))
 refine dG hF 39 ?_
 refine hv hF oM ?_
 rcases br (x4.2 == 1) with hc9 | hc9
 ·replace h := ifF hc9 h
  refine hv hF (ar rfl rfl hc9) (hp hF (hp hF (hp hF (hv hF (ap rfl rfl rfl) (hv hF oM (hp hF (hp hF (hp hF ?_))))))))
  refine hp hF (hv hF (ap rfl rfl rfl) (hv hF oM (hp hF (hp hF (hp hF (hv hF (ap rfl rfl rfl) (hv hF oM (hp hF ?_))))))))
  refine hp hF (hp hF (hp hF (hp hF (hp hF (hv hF (ap rfl rfl rfl) (hv hF oM (hp hF (hp hF ?_))))))))
  refine hp hF (hv hF (ap rfl rfl rfl) (hv hF oM (hp hF (hp hF (hp hF (hp hF (hv hF (ap rfl rfl rfl) (hv hF oM ?_))))))))
  refine hp hF (hp hF ?_)
  refine hE ?_
  refine gp hF (gp hF (gv hF (ap rfl rfl rfl) (gv hF oA (sn (Sm.ret ?_)))))
  obtain rfl := ac h
  exact bu rfl rfl
 replace h := ifT hc9 h
 refine hv hF (ar rfl rfl hc9) (hv hF oM (hv hF (oC (dR u24 u9 u5)) (hv hF (oB (AX rfl)) (hv hF (aJ rfl rfl rfl) ?_))))
 rcases br (x1 == ([2, 1, 1, 1, 0, 2, 0, 1, 0, 1, 0, 0, 1, 2] : List UInt8)) with hc10 | hc10
 ·replace h := ifF hc10 h
  refine hv hF (ar rfl rfl hc10) (hp hF (hp hF (hp hF (hp hF (hv hF (ap rfl rfl rfl) (hv hF oM (hp hF (hp hF ?_))))))))
  refine hp hF (hv hF (ap rfl rfl rfl) (hv hF oM (hp hF (hp hF (hp hF (hp hF (hp hF (hp hF ?_))))))))
  refine hv hF (ap rfl rfl rfl) (hv hF oM (hp hF (hp hF (hp hF (hv hF (ap rfl rfl rfl) (hv hF oM (hp hF (hp hF ?_))))))))
  refine hp hF (hp hF (hv hF (ap rfl rfl rfl) (hv hF oM (hp hF (hp hF ?_)))))
  refine hE ?_
  refine gp hF (gp hF (gv hF (ap rfl rfl rfl) (gv hF oA (sn (Sm.ret ?_)))))
  obtain rfl := ac h
  exact bu rfl rfl
 replace h := ifT hc10 h
 refine hv hF (ar rfl rfl hc10) (hv hF (oF (aD xm)) (hv hF (oL (bZ rfl rfl yg rfl)) (hv hF (oN (aY u36)) (hv hF (oB (cD)) (hv hF (aJ rfl rfl rfl) ?_)))))
 rcases br ((x2.1.proof.length : Int) == 0) with hc11 | hc11
 ·replace h := ifF hc11 h
  refine hv hF (ar rfl rfl hc11) (hp hF (hp hF (hp hF (hv hF (ap rfl rfl rfl) (hv hF oM (hp hF (hp hF (hp hF ?_))))))))
  refine hp hF (hp hF (hp hF (hv hF (ap rfl rfl rfl) (hv hF oM (hp hF (hp hF (hp hF (hv hF (ap rfl rfl rfl) ?_))))))))
  refine hv hF oM (hp hF (hp hF (hp hF (hp hF (hv hF (ap rfl rfl rfl) (hv hF oM (hp hF (hp hF ?_))))))))
  refine hE ?_
  refine gp hF (gp hF (gv hF (ap rfl rfl rfl) (gv hF oA (sn (Sm.ret ?_)))))
  obtain rfl := ac h
  exact bu rfl rfl
 replace h := ifT hc11 h
 refine hv hF (ar rfl rfl hc11) (hv hF (oF (aD xn)) (hv hF (oL (bZ rfl rfl ag3 rfl)) (hv hF (oB (cD)) (hv hF (aJ rfl rfl rfl) ?_))))
 rcases br (x2.1.count == 1) with hc12 | hc12
 ·replace h := ifF hc12 h
  refine hv hF (ar rfl rfl hc12) (hp hF (hp hF (hp hF (hp hF (hp hF (hp hF (hv hF (ap rfl rfl rfl) (hv hF oM ?_))))))))
  refine hp hF (hp hF (hp hF (hv hF (ap rfl rfl rfl) (hv hF oM (hp hF (hp hF (hp hF (hp hF ?_))))))))
  refine hv hF (ap rfl rfl rfl) (hv hF oM (hp hF (hp hF ?_)))
  refine hE ?_
  refine gp hF (gp hF (gv hF (ap rfl rfl rfl) (gv hF oA (sn (Sm.ret ?_)))))
  obtain rfl := ac h
  exact bu rfl rfl
 replace h := ifT hc12 h
 refine hv hF (ar rfl rfl hc12) (hv hF (x := .d (.agg 32 (aI x5))) (oL (f8 rfl fJ cB)) (hv hF (x := .d (.agg 5 [.list 1 ([1, 0].map (af .i64)) true, .list 1 ([2].map (af .i64)) true, .list 1 ([0].map (af .i64)) true, .i 1, .i 0])) (oL (aG rfl rfl gz cK rfl rfl)) (hv hF (x := .d (.agg 2 [.i 1, .i 258])) (oL (aG rfl rfl j8 fL rfl rfl)) ?_)))
 obtain ⟨x13, hx13, h⟩ := aa h
 refine aF.c hF rfl rfl (by kernel_rfl) rfl rfl rfl (aj.args (jT hx13) (fun C => (oE (oE (fun _ h => h))))) ?_
 obtain ⟨x14, hx14, h⟩ := aa h
 refine cH hF (nB hx14) ?_
 obtain ⟨x15, hx15, h⟩ := aa h
 obtain ⟨x16, hx16, h⟩ := aa h
 refine hv hF (ig rfl rfl rfl (iL (by kernel_rfl) (by kernel_rfl) (cr hx15) (cr hx16))) (hv hF (aJ rfl rfl rfl) ?_)
 rcases br (x5 == x14) with hc17 | hc17
 ·replace h := ifF hc17 h
  refine hv hF (ar rfl rfl hc17) (hp hF (hp hF (hp hF (hv hF (ap rfl rfl rfl) (hv hF oM (hp hF (hp hF (hp hF ?_))))))))
  refine hp hF (hv hF (ap rfl rfl rfl) (hv hF oM (hp hF (hp hF ?_))))
  refine hE ?_
  refine gp hF (gp hF (gv hF (ap rfl rfl rfl) (gv hF oA (sn (Sm.ret ?_)))))
  obtain rfl := ac h
  exact bu rfl rfl
 replace h := ifT hc17 h
 refine hv hF (ar rfl rfl hc17) (hv hF (x := .d (.agg 32 (aI x5))) (oL (f8 rfl fJ cB)) (hv hF (x := .d (.agg 11 [.i x2.1.version, .i x2.1.index, .i x2.1.count, .l x2.1.pos.at_, .l x2.1.pos.h0, .l x2.1.pos.h1, .i x2.1.pos.rights, .i x2.1.pos.side, .i x2.1.entry.out, .i x2.1.entry.n, .list 32 (x2.1.proof.map aI) false])) (oL (aG rfl rfl pC ka rfl rfl)) ?_))
 obtain ⟨x18, hx18, h⟩ := aa h
 refine cH hF (jp hx18) ?_
 refine hv hF (aJ rfl rfl rfl) ?_
 rcases br x18 with hc19 | hc19
 ·replace h := ifF hc19 h
  refine hv hF (ar rfl rfl hc19) (hp hF (hp hF (hp hF (hp hF (hv hF (ap rfl rfl rfl) (hv hF oM (hp hF (hp hF ?_))))))))
  refine hE ?_
  refine gp hF (gp hF (gv hF (ap rfl rfl rfl) (gv hF oA (sn (Sm.ret ?_)))))
  obtain rfl := ac h
  exact bu rfl rfl
 replace h := ifT hc19 h
 refine hv hF (ar rfl rfl hc19) (hv hF (x := .d (.agg 32 (aI x5))) (oL (f8 rfl fJ cB)) (hv hF (x := .d (.agg 11 [.i x2.1.version, .i x2.1.index, .i x2.1.count, .l x2.1.pos.at_, .l x2.1.pos.h0, .l x2.1.pos.h1, .i x2.1.pos.rights, .i x2.1.pos.side, .i x2.1.entry.out, .i x2.1.entry.n, .list 32 (x2.1.proof.map aI) false])) (oL (aG rfl rfl pC ka rfl rfl)) ?_))
 obtain ⟨x20, hx20, h⟩ := aa h
 refine cH hF (jp hx20) ?_
 refine hv hF (jF rfl rfl (kz _)) (hv hF (aJ rfl rfl rfl) ?_)
 rcases br (!x20) with hc21 | hc21
 ·replace h := ifF hc21 h
  refine hv hF (ar rfl rfl hc21) (hp hF (hp hF ?_))
  refine hE ?_
  refine gp hF (gp hF (gv hF (ap rfl rfl rfl) (gv hF oA (sn (Sm.ret ?_)))))
  obtain rfl := ac h
  exact bu rfl rfl
 replace h := ifT hc21 h
 refine hv hF (ar rfl rfl hc21) (hv hF (x := .d (.agg 32 (aI (List.replicate 32 0)))) (iq rfl u47 rfl AV) (hv hF (x := .d (.agg 11 [.i x2.1.version, .i x2.1.index, .i x2.1.count, .l x2.1.pos.at_, .l x2.1.pos.h0, .l x2.1.pos.h1, .i x2.1.pos.rights, .i x2.1.pos.side, .i x2.1.entry.out, .i x2.1.entry.n, .list 32 (x2.1.proof.map aI) false])) (oL (aG rfl rfl pC ka rfl rfl)) ?_))
 refine hE ?_
 obtain ⟨x22, hx22, h⟩ := aa h
 refine cS hF (jp hx22) ?_
 refine gv hF (jF rfl rfl (kz _)) (gv hF (aJ rfl rfl rfl) (gv hF oA (sn (Sm.ret ?_))))
 obtain rfl := ac h
 exact bu rfl rfl
noncomputable def du (a0 : GRaw) (a1 : List PRaw) (a2 : List Int) : Option (List Ps × List Rs) :=
 ob (fH a0) fun x1 =>
 ob (fE x1 a1 10) fun x2 =>
 ob (eS x2 a2) fun x3 =>
 some (x2, x3)
set_option maxHeartbeats 4000000 in
theorem jy {a0 : GRaw} {a1 : List PRaw} {a2 : List Int} {r : (List Ps × List Rs)} (h : du a0 a1 a2 = some r) : aj Tryd.prog HG 10 [.agg 12 (GRaw.row a0), .list 18 (a1.map PRaw.row) false, .list 1 (a2.map (af .u16)) false] (.tup [.list 5 (r.1.map Ps.row) false, .list 2 (r.2.map Rs.row) false]) := by
 unfold du at h
 refine aj.of Tryd.func10 rfl Tryd.ntmps10 (by simp) ?_
 intro F hF h0 hT
 show Sm F _ _ ⟨[(0, .d (.agg 12 (GRaw.row a0))), (1, .d (.list 18 (a1.map PRaw.row) false)), (2, .d (.list 1 (a2.map (af .u16)) false))], [], 0⟩
 refine sr hF ?_
 refine bQ hF gi ?_
 refine gv hF oA (gv hF oA (sn (sr hF (gv hF (x := .d (.agg 12 (GRaw.row a0))) (oL (bR sR vp rfl rfl)) ?_))))
 obtain ⟨x1, hx1, h⟩ := aa h
 refine cS hF (nv hx1) ?_
 refine gv hF oM ?_
 obtain ⟨x2, hx2, h⟩ := aa h
 refine cS hF (np hx2) ?_
 refine gv hF oA (sn (sr hF (gv hF oM (gv hF oM (gv hF oM ?_)))))
 obtain ⟨x3, hx3, h⟩ := aa h
 refine cS hF (lW hx3) ?_
 refine gv hF oA (gv hF oA (sn (Sm.ret ?_)))
 obtain rfl := ac h
 exact dS (RetR.cons (RetO.tmp rfl) (RetR.cons (RetO.tmp rfl) (RetR.nil))) (D.le.refl _)
noncomputable def d9 (x2 : (List Ps × List Rs)) (x3 : (List Ps × List Rs)) (x5 : List Rs) (x7 : List Rs) (s9 : (Bool × Int)) : Option ((Bool × Int) ⊕ Bool) :=
 bif (decide (s9.2 < (min (x2.1.length : Int) (x3.1.length : Int)))) then (
  ob ((
   bif s9.1 then (
    ob (idx x5 s9.2) fun x15 =>
    ob (idx x7 s9.2) fun x16 =>
    some ((x15.out == x16.out) && ((x15.n == x16.n) && true))
   ) else (
    some false
   )
   : Option Bool)) fun v17 =>
  ob (arI .i64 (s9.2 + 1)) fun x18 =>
  some (.inl (v17, x18))
 ) else (
  some (.inr s9.1)
 )
noncomputable def eW (a0 : (List PRaw × List PRaw)) (a1 : GRaw) (a2 : (Int × Int)) : Option Bool :=
 ob (e7 ) fun x1 =>
 ob (du a1 a0.1 [a2.1]) fun x2 =>
 ob (du a1 a0.2 [a2.2]) fun x3 =>
 ob (slc x2.1 0 (min (x2.1.length : Int) (x3.1.length : Int))) fun x4 =>
 ob (slc x2.2 0 (min (x2.1.length : Int) (x3.1.length : Int))) fun x5 =>
 ob (slc x3.1 0 (min (x2.1.length : Int) (x3.1.length : Int))) fun x6 =>
 ob (slc x3.2 0 (min (x2.1.length : Int) (x3.1.length : Int))) fun x7 =>
 ob (fk x4 x6) fun x8 =>
 ob ((
  bm (d9 x2 x3 x5 x7) (x8, 0)
  : Option Bool)) fun v19 =>
 ob (fc x4 x5) fun x20 =>
 ob (vN 32 x20) fun x21 =>
 ob (fc x6 x7) fun x22 =>
 ob (vN 32 x22) fun x23 =>
 bif v19 then (
  bif x1 then (
   ob (vN 32 x20) fun x26 =>
   ob (vN 32 x22) fun x27 =>
   some (x20 == x22)
  ) else (
   some false
  )
 ) else (
  bif x1 then (
   ob (vN 32 x20) fun x29 =>
   ob (vN 32 x22) fun x30 =>
   bif (!(x20 == x22)) then (
    some true
   ) else (
    ob (d8 x4 x5) fun x32 =>
    ob (ga x32) fun x33 =>
    ob (d8 x6 x7) fun x34 =>
    ob (ga x34) fun x35 =>
    ob (gb x33 x35) fun x36 =>
    some x36
   )
  ) else (
   some false
  )
 )
set_option maxHeartbeats 4000000 in
theorem kF {a0 : (List PRaw × List PRaw)} {a1 : GRaw} {a2 : (Int × Int)} {r : Bool} (h : eW a0 a1 a2 = some r) : aj Tryd.prog HG 7 [.agg 2 [.list 18 (a0.1.map PRaw.row) false, .list 18 (a0.2.map PRaw.row) false], .agg 12 (GRaw.row a1), .agg 2 [.v (.int .u16 a2.1), .v (.int .u16 a2.2)]] (.v (.bool r)) := by
 unfold eW at h
 refine aj.of Tryd.func7 rfl Tryd.ntmps7 (by simp) ?_
 intro F hF h0 hT
 show Sm F _ _ ⟨[(0, .d (.agg 2 [.list 18 (a0.1.map PRaw.row) false, .list 18 (a0.2.map PRaw.row) false])), (1, .d (.agg 12 (GRaw.row a1))), (2, .d (.agg 2 [.v (.int .u16 a2.1), .v (.int .u16 a2.2)]))], [], 0⟩
 refine sr hF ?_
 refine bQ hF gi ?_
 refine bQ hF gi ?_
 refine bQ hF gi ?_
 refine gv hF oA (sn (sr hF ?_))
 obtain ⟨x1, hx1, h⟩ := aa h
 refine cS hF (mw hx1) ?_
 refine gv hF oA (sn (sr hF (gv hF (x := .d (.agg 12 (GRaw.row a1))) (oL (bR sR vp rfl rfl)) (gv hF (oI (ci u23 xS rfl rfl)) (gv hF (oL (lP1 yf rfl)) (gv hF (oI (ci u82 qS rfl rfl)) (gv hF (oL (lP1 vh rfl)) (gv hF (x := .d (.list 1 ([a2.1].map (af .u16)) true)) (oS (aw u45 qS yb rfl rfl (PartsQ.cons rfl (PartsQ.nil _)) rfl)) ?_))))))))
 obtain ⟨x2, hx2, h⟩ := aa h
 refine SmG.call hF rfl rfl (by kernel_rfl) rfl rfl rfl (aj.args (jy hx2) (fun C => (oE (oE (oE (fun _ h => h)))))) ?_
 refine gv hF oM (gv hF (bS rfl rfl rfl) (gv hF (bS rfl rfl rfl) (gv hF oA (gv hF oA (sn (sr hF (gv hF (x := .d (.agg 12 (GRaw.row a1))) (oL (bR sR vp rfl rfl)) (gv hF (oI (ci u23 xS rfl rfl)) ?_))))))))
 refine gv hF (oL (lP1 yf rfl)) (gv hF (oI (ci u82 qS rfl rfl)) (gv hF (oL (lP1 vh rfl)) (gv hF (x := .d (.list 1 ([a2.2].map (af .u16)) true)) (oS (aw u45 qS yb rfl rfl (PartsQ.cons rfl (PartsQ.nil _)) rfl)) ?_)))
 obtain ⟨x3, hx3, h⟩ := aa h
 refine SmG.call hF rfl rfl (by kernel_rfl) rfl rfl rfl (aj.args (jy hx3) (fun C => (oE (oE (oE (fun _ h => h)))))) ?_
 refine gv hF oM (gv hF (bS rfl rfl rfl) (gv hF (bS rfl rfl rfl) (gv hF oA (gv hF oA (sn (sr hF (gv hF oM (gv hF (oN (aY u40)) ?_))))))))
 refine gv hF oM (gv hF (oN (aY u40)) (gv hF (ut rfl rfl rfl xl) (gv hF oA (sn (sr hF (gv hF oM (gv hF oM ?_)))))))
 obtain ⟨x4, hx4, h⟩ := aa h
 refine gv hF (dI rfl rfl rfl rfl rfl (o5 u40 cK hx4)) (gv hF oA (sn (sr hF (gv hF oM (gv hF oM ?_)))))
 obtain ⟨x5, hx5, h⟩ := aa h
 refine gv hF (dI rfl rfl rfl rfl rfl (o5 u41 fL hx5)) (gv hF oA (sn (sr hF (gv hF oM (gv hF oM ?_)))))
 obtain ⟨x6, hx6, h⟩ := aa h
 refine gv hF (dI rfl rfl rfl rfl rfl (o5 u40 cK hx6)) (gv hF oA (sn (sr hF (gv hF oM (gv hF oM ?_)))))
 obtain ⟨x7, hx7, h⟩ := aa h
 refine gv hF (dI rfl rfl rfl rfl rfl (o5 u41 fL hx7)) (gv hF oA (sn (sr hF (gv hF oM (gv hF oM ?_)))))
 obtain ⟨x8, hx8, h⟩ := aa h
 refine cS hF (mE hx8) ?_
 refine gv hF oA (sn (Sm.seq ?_))
 obtain ⟨v19, hv19, h⟩ := aa h
 refine dt ⟨[(7, .d (.v (.bool x1))), (8, .d (.list 5 (x4.map Ps.row) false)), (9, .d (.list 2 (x5.map Rs.row) false)), (10, .d (.list 5 (x6.map Ps.row) false)), (11, .d (.list 2 (x7.map Rs.row) false)), (13, .d (.v (.bool v19)))], [], 0⟩ ?_ ?_
 ·replace h := hv19
  refine sr hF (gv hF oA (sn (Sm.block ?_)))
  refine ba (d9 x2 x3 x5 x7) (fun s9 => ⟨[(7, .d (.v (.bool x1))), (8, .d (.list 5 (x4.map Ps.row) false)), (9, .d (.list 2 (x5.map Rs.row) false)), (10, .d (.list 5 (x6.map Ps.row) false)), (11, .d (.list 2 (x7.map Rs.row) false)), (12, .i (min (x2.1.length : Int) (x3.1.length : Int))), (13, .d (.v (.bool s9.1))), (14, .i s9.2)], [], 0⟩) (x8, 0) h (kA) ?_
  intro n10 s9 o11 h hd12
  unfold d9 at h
  refine Sm.seq (sr hF (gv hF oM (gv hF oM (gv hF (oB (bh)) (sn ?_)))))
  refine ay hF rfl (fun hc13 => ?_) (fun hc13 => ?_)
  ·replace h := ifF hc13 h
   refine Sm.exit ?_
   replace h := aC h hd12
   obtain rfl := ac h
   exact (kA)
  replace h := ifT hc13 h
  refine sk (Sm.seq ?_)
  obtain ⟨v17, hv17, h⟩ := aa h
  refine aW ⟨[(7, .d (.v (.bool x1))), (8, .d (.list 5 (x4.map Ps.row) false)), (9, .d (.list 2 (x5.map Rs.row) false)), (10, .d (.list 5 (x6.map Ps.row) false)), (11, .d (.list 2 (x7.map Rs.row) false)), (12, .i (min (x2.1.length : Int) (x3.1.length : Int))), (13, .d (.v (.bool v17))), (14, .i s9.2)], [], 0⟩ ?_ ?_
  ·refine ab hF rfl ?_
   refine gv hF oM ?_
   obtain ⟨x18, hx18, h⟩ := aa h
   refine gv hF (oB (aU hx18)) (gv hF oA (SmG.nil ?_))
   exact bc (aX h hd12) (kA)
  replace h := hv17
  refine Sm.block ?_
  refine dG hF 10 ?_
  refine hv hF oM ?_
  rcases br s9.1 with hc14 | hc14
  ·replace h := ifF hc14 h
   refine hv hF (ar rfl rfl hc14) (hp hF (hp hF (hp hF (hp hF (hp hF (hp hF (hp hF (hp hF ?_))))))))
   refine hE ?_
   refine gp hF (gv hF (ap rfl rfl rfl) (gv hF oA (SmG.nil (ak ?_))))
   obtain rfl := ac h
   exact (kA)
  replace h := ifT hc14 h
  refine hv hF (ar rfl rfl hc14) (hv hF oM (hv hF oM ?_))
  obtain ⟨x15, hx15, h⟩ := aa h
  refine hv hF (oI (aT u41 fL hx15)) (hv hF (x := .d (.agg 2 (Rs.row x15))) (oL (bR j8 fL rfl rfl)) (hv hF oM (hv hF oM ?_)))
  obtain ⟨x16, hx16, h⟩ := aa h
  refine hv hF (oI (aT u41 fL hx16)) (hv hF (x := .d (.agg 2 (Rs.row x16))) (oL (bR j8 fL rfl rfl)) ?_)
  refine hE ?_
  refine gv hF (ig rfl rfl rfl (wN (ds := [.int .i64, .int .i64]) (by kernel_rfl) (by kernel_rfl) rfl)) (gv hF (aJ rfl rfl rfl) (gv hF oA (SmG.nil (ak ?_))))
  obtain rfl := ac h
  exact (kA)
 refine sr hF (gv hF oM (gv hF oM ?_))
 obtain ⟨x20, hx20, h⟩ := aa h
 refine cS hF (jO hx20) ?_
 refine SmG.new hF rfl rfl rfl (aO rfl jo) ?_
 obtain ⟨x21, hx21, h⟩ := aa h
 refine SmG.store hF rfl rfl rfl rfl rfl (jv rfl rfl cB rfl (cr hx21)) ?_
 refine sn (sr hF (gv hF oM (gv hF oM ?_)))
 obtain ⟨x22, hx22, h⟩ := aa h
 refine cS hF (jO hx22) ?_
 refine SmG.new hF rfl rfl rfl (aO rfl jo) ?_
 obtain ⟨x23, hx23, h⟩ := aa h
 refine SmG.store hF rfl rfl rfl rfl rfl (jv rfl rfl cB rfl (cr hx23)) ?_
 refine sn (Sm.seq (sr hF (gv hF oM (sn ?_))))
 refine bw hF rfl (fun hc24 => ?_) (fun hc24 => ?_)
 ·replace h := ifT hc24 h
  refine sr hF (gv hF oM ?_)
  rcases br x1 with hc25 | hc25
  ·replace h := ifF hc25 h
   refine gv hF (ar rfl rfl hc25) (gp hF (gp hF (gp hF (gv hF (ap rfl rfl rfl) (gv hF oA (sn (Sm.ret ?_)))))))
   obtain rfl := ac h
   exact bu rfl rfl
  replace h := ifT hc25 h
  refine gv hF (ar rfl rfl hc25) (gv hF (x := .d (.agg 32 (aI x20))) (oL (f8 rfl fJ cB)) (gv hF (x := .d (.agg 32 (aI x22))) (oL (f8 rfl fJ cB)) ?_))
  obtain ⟨x26, hx26, h⟩ := aa h
  obtain ⟨x27, hx27, h⟩ := aa h
  refine gv hF (ig rfl rfl rfl (iL (by kernel_rfl) (by kernel_rfl) (cr hx26) (cr hx27))) (gv hF (aJ rfl rfl rfl) (gv hF oA (sn (Sm.ret ?_))))
  obtain rfl := ac h
  exact bu rfl rfl
 replace h := ifF hc24 h
 refine sk (sr hF (gv hF oM ?_))
 rcases br x1 with hc28 | hc28
 ·replace h := ifF hc28 h
  refine gv hF (ar rfl rfl hc28) (gp hF (gp hF (gp hF (gp hF (gp hF (gp hF (gp hF (gp hF ?_))))))))
  refine gp hF (gp hF (gp hF (gp hF (gp hF (gp hF (gv hF (ap rfl rfl rfl) (gv hF oA (sn ?_))))))))
  refine Sm.ret ?_
  obtain rfl := ac h
  exact bu rfl rfl
 replace h := ifT hc28 h
 refine gv hF (ar rfl rfl hc28) (gv hF (x := .d (.agg 32 (aI x20))) (oL (f8 rfl fJ cB)) (gv hF (x := .d (.agg 32 (aI x22))) (oL (f8 rfl fJ cB)) ?_))
 obtain ⟨x29, hx29, h⟩ := aa h
 obtain ⟨x30, hx30, h⟩ := aa h
 refine gv hF (zb rfl rfl rfl (iL (by kernel_rfl) (by kernel_rfl) (cr hx29) (cr hx30))) ?_
 rcases kU (!(x20 == x22)) with hc31 | hc31
 ·replace h := ifT hc31 h
  refine gv hF (ar rfl rfl hc31) (gp hF (gp hF (gp hF (gp hF (gp hF (gp hF (gp hF (gp hF ?_))))))))
  refine gp hF (gv hF (aJ rfl rfl rfl) (gv hF (aJ rfl rfl rfl) (gv hF oA (sn (Sm.ret ?_)))))
  obtain rfl := ac h
  exact bu rfl rfl
 replace h := ifF hc31 h
 refine gv hF (ar rfl rfl hc31) (gv hF oM (gv hF oM ?_))
 obtain ⟨x32, hx32, h⟩ := aa h
 refine cS hF (je hx32) ?_
 obtain ⟨x33, hx33, h⟩ := aa h
 refine cS hF (jW hx33) ?_
 refine gv hF oM (gv hF oM ?_)
 obtain ⟨x34, hx34, h⟩ := aa h
 refine cS hF (je hx34) ?_
 obtain ⟨x35, hx35, h⟩ := aa h
 refine cS hF (jW hx35) ?_
 obtain ⟨x36, hx36, h⟩ := aa h
 refine cS hF (nN hx36) ?_
 refine gv hF (ap rfl rfl rfl) (gv hF (aJ rfl rfl rfl) (gv hF oA (sn (Sm.ret ?_))))
 obtain rfl := ac h
 exact bu rfl rfl
end
section
open Go.RowKit
set_option maxRecDepth 100000
theorem ma (a b : Int) : Ok (cA a b) fun v => (v = 0 ↔ a = b) := by
 unfold cA
 refine Ok.cond (fun h => Ok.ret ?_) fun h => Ok.cond (fun h2 => Ok.ret ?_) fun h2 => Ok.ret ?_
 all_goals simp only [decide_eq_true_eq, decide_eq_false_iff_not] at h
 ·omega
 ·simp only [decide_eq_true_eq] at h2; omega
 ·simp only [decide_eq_false_iff_not] at h2; omega
theorem rh (a b : List Int) (ha : a.length ≤ 9223372036854775807) : Ok (dJ a b) fun v => (v = 0 ↔ a = b) := by
 unfold dJ
 refine Ok.bind (P := fun o => match o with | .inl () => a.take (min a.length b.length) = b.take (min a.length b.length) | .inr v => v ≠ 0 ∧ a ≠ b) ?_ ?_
 ·refine Ok.loop (fun s : Int => ∃ i : Nat, s = i ∧ i ≤ a.length ∧ i ≤ b.length ∧ a.take i = b.take i) (fun s : Int => a.length - s.toNat) ⟨0, rfl, by omega, by omega, by simp⟩ ?_
  rintro _ ⟨i, rfl, h1, h2, h3⟩
  unfold dC
  refine Ok.cond (fun c1 => ?_) fun c1 => Ok.ret ?_
  ·refine Ok.cond (fun c2 => ?_) fun c2 => Ok.ret ?_
   ·simp only [decide_eq_true_eq] at c1 c2
    have ea : a[i]? = some (a[i]'(by omega)) := List.getElem?_eq_getElem _
    have eb : b[i]? = some (b[i]'(by omega)) := List.getElem?_eq_getElem _
    generalize a[i]'(by omega) = x at ea
    generalize b[i]'(by omega) = y at eb
    simp only [ed, ea, eb, ag]
    refine Ok.cond (fun c3 => ?_) fun c3 => ?_
    ·refine Ok.bind (ma x y) fun v hv => Ok.ret ?_
     have hxy : x ≠ y := by simpa using c3
     exact ⟨fun h => hxy (hv.1 h), fun h => by subst h; rw [ea] at eb; exact hxy (Option.some.inj eb)⟩
    ·have hxy : x = y := by simpa using c3
     rw [aQ (by omega), ag]
     refine Ok.ret ⟨⟨i + 1, by omega, by omega, by omega, ?_⟩, by omega⟩
     rw [List.take_add_one, List.take_add_one, ea, eb, h3, hxy]
   ·simp only [decide_eq_false_iff_not] at c2
    have : min a.length b.length = i := by omega
    simp only [this]; exact h3
  ·simp only [decide_eq_false_iff_not] at c1
   have : min a.length b.length = i := by omega
   simp only [this]; exact h3
 ·rintro (⟨⟩ | v) h
  ·refine Ok.bind (ma _ _) fun v hv => Ok.ret ?_
   simp only at h
   rw [hv]
   constructor
   ·intro e
    have e : a.length = b.length := by omega
    rw [e, Nat.min_self, List.take_length] at h
    rw [← e, List.take_length] at h
    exact h
   ·intro e; rw [e]
  ·exact Ok.ret ⟨fun e => absurd e h.1, fun e => absurd e h.2⟩
structure PsFit (p : Ps) : Prop where
 a : p.at_.length ≤ 9223372036854775807
 b : p.h0.length ≤ 9223372036854775807
 c : p.h1.length ≤ 9223372036854775807
theorem vE (p q : Ps) (hp : PsFit p) : Ok (eU p q) fun v => (v = 0 ↔ p = q) := by
 unfold eU
 refine Ok.bind (rh _ _ hp.a) fun v1 h1 => ?_
 refine Ok.bind (rh _ _ hp.b) fun v2 h2 => ?_
 refine Ok.bind (rh _ _ hp.c) fun v3 h3 => ?_
 refine Ok.bind (ma _ _) fun v4 h4 => ?_
 refine Ok.bind (ma _ _) fun v5 h5 => ?_
 have hpq : p = q ↔ v1 = 0 ∧ v2 = 0 ∧ v3 = 0 ∧ v4 = 0 ∧ v5 = 0 := by
  rw [h1, h2, h3, h4, h5]
  obtain ⟨a, b, c, d, e⟩ := p
  obtain ⟨a', b', c', d', e'⟩ := q
  simp only [Ps.mk.injEq]
 rw [hpq]
 refine Ok.bind (P := fun o => match o with | .inl () => ∀ i, i < 5 → [v1, v2, v3, v4, v5][i]? = some 0 | .inr v => v ≠ 0 ∧ v ∈ [v1, v2, v3, v4, v5]) ?_ ?_
 ·refine Ok.loop (fun s : Int => ∃ i : Nat, s = i ∧ i ≤ 5 ∧ ∀ j, j < i → [v1, v2, v3, v4, v5][j]? = some 0) (fun s : Int => 5 - s.toNat) ⟨0, rfl, by omega, fun j h => by omega⟩ ?_
  rintro _ ⟨i, rfl, hi, hall⟩
  unfold cL
  refine Ok.cond (fun c1 => ?_) fun c1 => Ok.ret ?_
  ·simp only [decide_eq_true_eq, List.length_cons, List.length_nil] at c1
   have hi5 : i < [v1, v2, v3, v4, v5].length := by simp only [List.length_cons, List.length_nil]; omega
   have e : [v1, v2, v3, v4, v5][i]? = some ([v1, v2, v3, v4, v5][i]'hi5) := List.getElem?_eq_getElem _
   generalize [v1, v2, v3, v4, v5][i]'hi5 = x at e
   simp only [ed, e, ag]
   refine Ok.cond (fun c2 => Ok.ret ⟨by simpa using c2, List.mem_of_getElem? e⟩) fun c2 => ?_
   rw [aQ (by omega), ag]
   refine Ok.ret ⟨⟨i + 1, by omega, by omega, fun j hj => ?_⟩, by omega⟩
   rcases Nat.lt_or_ge j i with h | h
   ·exact hall j h
   ·obtain rfl : j = i := by omega
    rw [e]; simpa using c2
  ·simp only [decide_eq_false_iff_not, List.length_cons, List.length_nil] at c1
   intro j hj; exact hall j (by omega)
 ·rintro (⟨⟩ | v) h
  ·refine Ok.ret ?_
   simp only at h
   have g0 := h 0 (by omega); have g1 := h 1 (by omega); have g2 := h 2 (by omega); have g3 := h 3 (by omega); have g4 := h 4 (by omega)
   simp at g0 g1 g2 g3 g4
   simp [g0, g1, g2, g3, g4]
  ·refine Ok.ret ⟨fun e => absurd e h.1, fun e => ?_⟩
   obtain ⟨e1, e2, e3, e4, e5⟩ := e
   have := h.2
   simp [e1, e2, e3, e4, e5] at this
   exact this
theorem zo (p q : Ps) (hp : PsFit p) : fM p q = some (decide (p = q)) := by
 unfold fM
 obtain ⟨v, h1, h2⟩ := vE p q hp
 rw [gH h1]
 congr 1
 rw [Bool.eq_iff_iff]
 simp [h2]
theorem xJ (l m : List Ps) (hl : l.length ≤ 9223372036854775807) (hp : ∀ p ∈ l, PsFit p) : fk l m = some (decide (l = m)) := by
 refine Ok.get ?_
 unfold fk
 refine Ok.cond (fun c => Ok.ret ?_) fun c => ?_
 ·have : l ≠ m := fun e => by subst e; simp at c
  simp [this]
 ·have hlm : l.length = m.length := by simp at c; omega
  refine Ok.bind (P := fun o => match o with | .inl () => l = m | .inr v => v = false ∧ l ≠ m) ?_ ?_
  ·refine Ok.loop (fun s : Int => ∃ i : Nat, s = i ∧ i ≤ l.length ∧ l.take i = m.take i) (fun s : Int => l.length - s.toNat) ⟨0, rfl, by omega, by simp⟩ ?_
   rintro _ ⟨i, rfl, hi, h3⟩
   unfold dk
   refine Ok.cond (fun c1 => ?_) fun c1 => Ok.ret ?_
   ·simp only [decide_eq_true_eq] at c1
    have ea : l[i]? = some (l[i]'(by omega)) := List.getElem?_eq_getElem _
    have eb : m[i]? = some (m[i]'(by omega)) := List.getElem?_eq_getElem _
    have hx := hp (l[i]'(by omega)) (List.getElem_mem _)
    generalize l[i]'(by omega) = x at ea hx
    generalize m[i]'(by omega) = y at eb
    simp only [ed, ea, eb, ag, zo x y hx]
    refine Ok.cond (fun c3 => Ok.ret ?_) fun c3 => ?_
    ·refine ⟨rfl, fun e => ?_⟩
     subst e; rw [ea] at eb; cases eb; simp at c3
    ·have hxy : x = y := by simpa using c3
     rw [aQ (by omega), ag]
     refine Ok.ret ⟨⟨i + 1, by omega, by omega, ?_⟩, by omega⟩
     rw [List.take_add_one, List.take_add_one, ea, eb, h3, hxy]
   ·simp only [decide_eq_false_iff_not] at c1
    have : i = l.length := by omega
    rw [this, List.take_length, hlm, List.take_length] at h3
    exact h3
  ·rintro (⟨⟩ | v) h
   ·exact Ok.ret (by simpa using h)
   ·exact Ok.ret (by simp [h.1, h.2])
end
section
open Go.RowKit
set_option maxRecDepth 100000
theorem ng {α : Type} (ls : List (List α)) (i : Nat) (x : List α) (h : ls[i]? = some x) : (ls.take (i + 1)).flatten.length = (ls.take i).flatten.length + x.length ∧ (ls.take (i + 1)).flatten = (ls.take i).flatten ++ x := by
 have hi := (List.getElem?_eq_some_iff.1 h).1
 rw [List.take_add_one, h]; simp
theorem jB {α : Type} (ls : List (List α)) (i : Nat) : (ls.take i).flatten.length ≤ ls.flatten.length := by
 have := congrArg (fun l => l.flatten.length) (List.take_append_drop i ls)
 simp only [List.flatten_append, List.length_append] at this
 omega
theorem tk (n : Int) (h : 0 ≤ n ∧ n ≤ 4294967296) : eg [] n = some [] := by
 refine Ok.get ?_
 unfold eg
 refine Ok.cond (fun c => ?_) fun _ => ?_
 ·simp only [decide_eq_true_eq] at c; omega
 ·rw [aQ (by omega), ag]
  refine Ok.cond (fun c => ?_) fun _ => Ok.ret rfl
  simp only [decide_eq_true_eq] at c
  have : qT (n - 0) = some (n - 0).toNat := if_pos (by omega)
  rw [this, ag]; exact Ok.ret rfl
theorem qM (ls : List (List Int)) (h : ls.flatten.length ≤ 4294967296) (hl : ls.length ≤ 4294967296) : dz ls = some ls.flatten := by
 unfold dz
 have h1 : bm (bO ls) (0, 0) = some (ls.flatten.length : Int) := by
  have := lS (body := bO ls) (fun i => (((ls.take i).flatten.length : Nat), (i : Int))) ls.length (e := (ls.flatten.length : Int)) (fun i hi => by
   have hx : ls[i]? = some (ls[i]'hi) := List.getElem?_eq_getElem _
   generalize ls[i]'hi = x at hx
   have hle := jB ls (i + 1)
   have hst := (ng ls i x hx).1
   unfold bO
   simp only
   rw [jj (by omega), cond_true, ed, hx, ag, aQ (by omega), ag, gM (by omega), cond_false, aQ (by omega), ag, hst]
   rfl) (by
   unfold bO
   simp only [List.take_length]
   rw [gM (by omega), cond_false])
  simpa using this
 rw [gH h1, gH (tk _ (by omega))]
 have h2 : bm (bP ls) (0, []) = some ls.flatten := by
  have := lS (body := bP ls) (fun i => ((i : Int), (ls.take i).flatten)) ls.length (e := ls.flatten) (fun i hi => by
   have hx : ls[i]? = some (ls[i]'hi) := List.getElem?_eq_getElem _
   generalize ls[i]'hi = x at hx
   have hle := jB ls (i + 1)
   obtain ⟨hst, hst2⟩ := ng ls i x hx
   unfold bP
   simp only
   rw [jj (by omega), cond_true, ed, hx, ag, bB (by omega), ag, aQ (by omega), ag, hst2]
   rfl) (by
   unfold bP
   simp only [List.take_length]
   rw [gM (by omega), cond_false])
  simpa using this
 rw [gH h2]
theorem ra (n : Int) (h : 0 ≤ n ∧ n ≤ 4294967296) : dv [] n = some [] := by
 refine Ok.get ?_
 unfold dv
 refine Ok.cond (fun c => ?_) fun _ => ?_
 ·simp only [decide_eq_true_eq] at c; omega
 ·rw [aQ (by omega), ag]
  refine Ok.cond (fun c => ?_) fun _ => Ok.ret rfl
  simp only [decide_eq_true_eq] at c
  have : qT (n - 0) = some (n - 0).toNat := if_pos (by omega)
  rw [this, ag]; exact Ok.ret rfl
theorem pF (ls : List (List UInt8)) (h : ls.flatten.length ≤ 4294967296) (hl : ls.length ≤ 4294967296) : cU ls = some ls.flatten := by
 unfold cU
 have h1 : bm (bI ls) (0, 0) = some (ls.flatten.length : Int) := by
  have := lS (body := bI ls) (fun i => (((ls.take i).flatten.length : Nat), (i : Int))) ls.length (e := (ls.flatten.length : Int)) (fun i hi => by
   have hx : ls[i]? = some (ls[i]'hi) := List.getElem?_eq_getElem _
   generalize ls[i]'hi = x at hx
   have hle := jB ls (i + 1)
   have hst := (ng ls i x hx).1
   unfold bI
   simp only
   rw [jj (by omega), cond_true, ed, hx, ag, aQ (by omega), ag, gM (by omega), cond_false, aQ (by omega), ag, hst]
   rfl) (by
   unfold bI
   simp only [List.take_length]
   rw [gM (by omega), cond_false])
  simpa using this
 rw [gH h1, gH (ra _ (by omega))]
 have h2 : bm (bG ls) (0, []) = some ls.flatten := by
  have := lS (body := bG ls) (fun i => ((i : Int), (ls.take i).flatten)) ls.length (e := ls.flatten) (fun i hi => by
   have hx : ls[i]? = some (ls[i]'hi) := List.getElem?_eq_getElem _
   generalize ls[i]'hi = x at hx
   have hle := jB ls (i + 1)
   obtain ⟨hst, hst2⟩ := ng ls i x hx
   unfold bG
   simp only
   rw [jj (by omega), cond_true, ed, hx, ag, bB (by omega), ag, aQ (by omega), ag, hst2]
   rfl) (by
   unfold bG
   simp only [List.take_length]
   rw [gM (by omega), cond_false])
  simpa using this
 rw [gH h2]
theorem Aw (n : Int) : w8 n = im n := rfl
theorem vw (p : Ps) (h : p.at_.length ≤ 1000000000) (h0 : p.h0.length ≤ 1000000000) (h1 : p.h1.length ≤ 1000000000) : eG p = some (iE p) := by
 unfold eG iE
 rw [bB (by simp; omega), ag, bB (by simp; omega), ag, bB (by simp; omega), ag, bB (by simp; omega), ag]
 simp
theorem pu {body : (Int × List UInt8) → Option ((Int × List UInt8) ⊕ List UInt8)} (l : List Int) (hl : l.length ≤ 4294967295)
  (hb : ∀ s, body s = (bif (decide (s.1 < (l.length : Int))) then (ob (idx l s.1) fun x => ob (app s.2 [(w8 x)]) fun y => ob (arI .i64 (s.1 + 1)) fun z => some (.inl (z, y))) else some (.inr s.2))) : bm body (0, []) = some (l.map im) :=
 kE l im (fun i x acc hx hacc => by
  have hi := (List.getElem?_eq_some_iff.1 hx).1
  rw [hb]
  simp only
  rw [jj (by omega), cond_true, ed, hx, ag, bB (by simp; omega), ag, aQ (by omega), ag]; rfl) (fun acc => by
  rw [hb]; simp only
  rw [gM (by omega), cond_false])
theorem xi (p : Ps) (h : p.at_.length ≤ 1000000000) (h0 : p.h0.length ≤ 1000000000) (h1 : p.h1.length ≤ 1000000000) : gc p = some (ne p) := by
 unfold gc
 rw [vw p h h0 h1, ag, pu (body := gg (iE p)) (iE p) (by simp [iE]; omega) (fun s => rfl), ag]; rfl
theorem Ai (p : Ps) (h : p.at_.length ≤ 1000000000) (h0 : p.h0.length ≤ 1000000000) (h1 : p.h1.length ≤ 1000000000) : kL p = some (ne p) := by
 unfold kL
 rw [qM _ (by simp; omega) (by simp), ag]
 have : [p.at_, p.h0, p.h1, [p.rights, p.side]].flatten = iE p := by simp [iE]
 rw [this, pu (body := jL (iE p)) (iE p) (by simp [iE]; omega) (fun s => rfl), ag]; rfl
theorem sX (l : List Int) (h : l.length ≤ 4294967295) : gq l = some (l.map im) := by
 unfold gq
 rw [pu (body := gT l) l h (fun s => rfl), ag]
structure PsB (p : Ps) : Prop where
 a : p.at_.length ≤ 1000000000
 b : p.h0.length ≤ 1000000000
 c : p.h1.length ≤ 1000000000
theorem PsB.fit {p : Ps} (h : PsB p) : PsFit p := ⟨by have := h.a; omega, by have := h.b; omega, by have := h.c; omega⟩
theorem sm (p : Ps) : (ne p).length = p.at_.length + p.h0.length + p.h1.length + 2 := by simp [ne, iE]; omega
theorem rk (p : Ps) (r : Rs) (h : PsB p) : fU p r = some (dE p r) := by
 have ha := h.a
 have hb := h.b
 have hc := h.c
 unfold fU
 have hk := sm p
 rw [sX _ (by simp), ag, Ai p h.a h.b h.c, ag, rv (by omega), ag, nj (by omega), ag, nj (by omega), ag, nj (by omega), ag, sX _ (by simp), ag, pF _ (by simp; omega) (by simp), ag]
 simp [dE, pK]
theorem qx (p : Ps) (r : Rs) (h : PsB p) : eN p r = some (dE p r) := by
 have ha := h.a
 have hb := h.b
 have hc := h.c
 unfold eN
 have hk := sm p
 rw [xi p h.a h.b h.c, ag, rv (by omega), ag, bB (by simp; omega), ag, bB (by simp; omega), ag]
 have hloop : bm (cJ r) (3, [w8 p.at_.length, w8 p.h0.length, w8 p.h1.length] ++ ne p ++ [w8 r.out]) = some (dE p r) := by
  generalize hL : [w8 p.at_.length, w8 p.h0.length, w8 p.h1.length] ++ ne p ++ [w8 r.out] = L
  have hLl : L.length ≤ 4000000000 := by rw [← hL]; simp; omega
  have step : ∀ (i : Int) (l : List UInt8), 0 ≤ i → i ≤ 3 → l.length ≤ 4000000010 → cJ r (i, l) = some (.inl (i - 1, l ++ [w8 (r.n / 2 ^ (8 * i).toNat)])) := fun i l h0 h3 hl => by
   unfold cJ
   simp only
   rw [A8 (by omega), cond_true, aQ (by omega), ag, nj (by omega), ag, bB (by simp; omega), ag, aQ (by omega), ag]
  refine i5 (step 3 _ (by omega) (by omega) (by omega)) (i5 (step _ _ (by omega) (by omega) (by simp; omega)) (i5 (step _ _ (by omega) (by omega) (by simp; omega)) (i5 (step _ _ (by omega) (by omega) (by simp; omega)) (nu ?_))))
  unfold cJ
  simp only
  rw [yQ (by omega), cond_false, ← hL]
  simp [dE, pK, Aw]
 rw [hloop, ag]
end
section
open Go.RowKit
set_option maxRecDepth 100000
structure BrdOk (b : Brd) : Prop where
 c1 : 1 ≤ b.cells
 c9 : b.cells ≤ 9
 nl : b.next.length = 8
 row : ∀ l ∈ b.next, (l.length : Int) = b.cells
 tl : b.turn.length = 8
theorem okT {α : Type} (v : α) : Ok (some v) fun _ => True := ⟨v, rfl, trivial⟩
theorem ro {a b : Int} (h : 0 < b) : Ok (cF a b) fun _ => True := ⟨_, if_neg (by omega), trivial⟩
theorem zl {w h : Int} (h1 : 1 ≤ w ∧ w ≤ 3) (h2 : 1 ≤ h ∧ h ≤ 3) : Ok (fF w h) fun r => BrdOk r.1 := by
 obtain ⟨n, hn, hn1, hn9⟩ : ∃ n : Int, w * h = n ∧ 1 ≤ n ∧ n ≤ 9 := by
  obtain rfl | rfl | rfl : w = 1 ∨ w = 2 ∨ w = 3 := by omega
  all_goals exact ⟨_, rfl, by omega, by omega⟩
 unfold fF
 rw [gM (by omega), cond_false, gM (by omega), cond_false, gM (by omega), cond_false, gM (by omega), cond_false, hn, aQ (by omega), ag, gM (by omega), cond_false, ag]
 have hin : ∀ (d : Nat) (x : List (List Int)) (y : List Int), d < 8 → Ok (bm (eH w h ((d : Int), x, y)) (0, [])) fun l => (l.length : Int) = n := by
  intro d x y hd
  refine Ok.loop (fun s : Int × List Int => ∃ i : Nat, s.1 = i ∧ (i : Int) ≤ n ∧ s.2.length = i) (fun s => n.toNat - s.1.toNat) ⟨0, rfl, by omega, rfl⟩ ?_
  rintro ⟨_, acc⟩ ⟨i, rfl, hi, ha⟩
  unfold eH
  simp only at ha ⊢
  rw [hn, aQ (by omega), ag]
  refine Ok.cond (fun c1 => ?_) fun c1 => Ok.ret (by simp only [decide_eq_false_iff_not] at c1; omega)
  simp only [decide_eq_true_eq] at c1
  have hv : ∀ l : List Int, l.length = 8 → (∀ x ∈ l, -1 ≤ x ∧ x ≤ 1) → ∃ v, idx l (d : Int) = some v ∧ -1 ≤ v ∧ v ≤ 1 := fun l hl hx => ⟨_, dl (by omega) (by omega), hx _ (List.getElem_mem _)⟩
  obtain ⟨a, ha1, ha2⟩ := hv [0, 1, 1, 1, 0, (-1), (-1), (-1)] rfl (by decide)
  obtain ⟨b, hb1, hb2⟩ := hv [(-1), (-1), 0, 1, 1, 1, 0, (-1)] rfl (by decide)
  have q1 := Int.emod_nonneg (i : Int) (b := w) (by omega)
  have q2 := Int.emod_lt_of_pos (i : Int) (b := w) (by omega)
  have q3 : 0 ≤ (i : Int) / w := Int.ediv_nonneg (by omega) (by omega)
  have q4 : (i : Int) / w ≤ i := Int.ediv_le_self _ (by omega)
  rw [bF (by omega) (by omega), ag, ha1, ag, aQ (by omega), ag, s7 (by omega) (by omega), ag, hb1, ag, aQ (by omega), ag]
  refine Ok.bind (P := fun _ => True) ?_ fun v _ => ?_
  ·refine Ok.cond (fun _ => Ok.cond (fun _ => Ok.cond (fun k1 => Ok.cond (fun k2 => ?_) fun _ => okT _) fun _ => okT _) fun _ => okT _) fun _ => okT _
   simp only [decide_eq_true_eq] at k1 k2
   generalize (i : Int) / w + b = z at k1 k2 ⊢
   have : 0 ≤ z * w ∧ z * w ≤ 27 := by
    obtain rfl | rfl | rfl : w = 1 ∨ w = 2 ∨ w = 3 := by omega
    all_goals omega
   rw [aQ (by omega), ag, aQ (by omega), ag]
   exact okT _
  ·rw [bB (by simp; omega), ag, aQ (by omega), ag]
   exact Ok.ret ⟨⟨i + 1, by simp, by omega, by simp [ha]⟩, by simp only; omega⟩
 refine Ok.bind (P := fun r : List (List Int) × List Int => r.1.length = 8 ∧ r.2.length = 8 ∧ ∀ l ∈ r.1, (l.length : Int) = n) ?_ fun r hr => Ok.ret ⟨hn1, hn9, hr.1, hr.2.2, hr.2.1⟩
 refine Ok.loop (fun s : Int × List (List Int) × List Int => ∃ i : Nat, s.1 = i ∧ i ≤ 8 ∧ s.2.1.length = i ∧ s.2.2.length = i ∧ ∀ l ∈ s.2.1, (l.length : Int) = n) (fun s => 8 - s.1.toNat) ⟨0, rfl, by omega, rfl, rfl, fun _ h => by cases h⟩ ?_
 rintro ⟨_, x, y⟩ ⟨i, rfl, hi, hx, hy, hl⟩
 unfold fT
 simp only at hx hy hl ⊢
 refine Ok.cond (fun c1 => ?_) fun c1 => Ok.ret (by simp only [decide_eq_false_iff_not] at c1; simp only; exact ⟨by omega, by omega, hl⟩)
 simp only [decide_eq_true_eq] at c1
 refine Ok.bind (P := fun s : List (List Int) × List Int => s.1.length = i + 1 ∧ s.2.length = i + 1 ∧ ∀ l ∈ s.1, (l.length : Int) = n) ?_ fun s hs => ?_
 ·refine Ok.bind (hin i x y (by omega)) fun v hv => ?_
  rw [bB (by simp; omega), ag, aQ (by omega), ag, bF (by omega) (by omega), ag, bB (by simp; omega), ag]
  refine Ok.ret ⟨by simp [hx], by simp [hy], fun l hl' => ?_⟩
  rcases List.mem_append.1 hl' with h | h
  ·exact hl l h
  ·rw [List.mem_singleton.1 h]; exact hv
 ·rw [aQ (by omega), ag]
  exact Ok.ret ⟨⟨i + 1, by simp, by omega, hs.1, hs.2.1, hs.2.2⟩, by simp only; omega⟩
theorem uY {b : Brd} {c : Int} (hb : BrdOk b) (hc0 : 0 ≤ c) (hc : c < b.cells) : Ok (eO b c) fun r => BrdOk r.1 := by
 obtain ⟨n, next, turn⟩ := b
 have h1 := hb.c1
 have h9 := hb.c9
 have hnl := hb.nl
 have hrow := hb.row
 have htl := hb.tl
 simp only at h1 h9 hnl hrow htl hc
 unfold eO
 simp only
 rw [gM (by omega), cond_false, yQ (by omega), cond_false, bB (by simp; omega), ag]
 have hin : ∀ (d : Nat) (x : List (List Int)), d < 8 → Ok (bm (dF ⟨n, next, turn⟩ c ((d : Int), x)) (0, [])) fun l => (l.length : Int) = n := by
  intro d x hd
  refine Ok.loop (fun s : Int × List Int => ∃ i : Nat, s.1 = i ∧ (i : Int) ≤ n ∧ s.2.length = i) (fun s => n.toNat - s.1.toNat) ⟨0, rfl, by omega, rfl⟩ ?_
  rintro ⟨_, acc⟩ ⟨i, rfl, hi, ha⟩
  unfold dF
  simp only at ha ⊢
  refine Ok.cond (fun c1 => ?_) fun c1 => Ok.ret (by simp only [decide_eq_false_iff_not] at c1; omega)
  simp only [decide_eq_true_eq] at c1
  have hr := hrow (next[d]) (List.getElem_mem _)
  rw [dl (by omega) (by omega), ag]
  refine Ok.eq (dl (by omega) (by show (i : Int) < (next[d].length : Int); omega)) ?_
  refine Ok.bind (P := fun _ => True) (Ok.cond (fun _ => okT _) fun _ => Ok.cond (fun _ => okT _) fun _ => okT _) fun v _ => ?_
  rw [bB (by simp; omega), ag, aQ (by omega), ag]
  exact Ok.ret ⟨⟨i + 1, by simp, by omega, by simp [ha]⟩, by simp only; omega⟩
 refine Ok.bind (P := fun r : List (List Int) => r.length = 8 ∧ ∀ l ∈ r, (l.length : Int) = n) ?_ fun r hr => Ok.ret ⟨h1, h9, hr.1, hr.2, by simpa using htl⟩
 refine Ok.loop (fun s : Int × List (List Int) => ∃ i : Nat, s.1 = i ∧ i ≤ 8 ∧ s.2.length = i ∧ ∀ l ∈ s.2, (l.length : Int) = n) (fun s => 8 - s.1.toNat) ⟨0, rfl, by omega, rfl, fun _ h => by cases h⟩ ?_
 rintro ⟨_, x⟩ ⟨i, rfl, hi, hx, hl⟩
 unfold eY
 simp only at hx hl ⊢
 refine Ok.cond (fun c1 => ?_) fun c1 => Ok.ret (by simp only [decide_eq_false_iff_not] at c1; exact ⟨by omega, hl⟩)
 simp only [decide_eq_true_eq] at c1
 refine Ok.bind (P := fun s : List (List Int) => s.length = i + 1 ∧ ∀ l ∈ s, (l.length : Int) = n) ?_ fun s hs => ?_
 ·refine Ok.bind (hin i x (by omega)) fun v hv => ?_
  rw [bB (by simp; omega), ag]
  refine Ok.ret ⟨by simp [hx], fun l hl' => ?_⟩
  rcases List.mem_append.1 hl' with h | h
  ·exact hl l h
  ·rw [List.mem_singleton.1 h]; exact hv
 ·rw [aQ (by omega), ag]
  exact Ok.ret ⟨⟨i + 1, by simp, by omega, hs.1, hs.2⟩, by simp only; omega⟩
theorem xR (a b c : UInt8) : Ok (fD a b c) BrdOk := by
 have ha := a.toNat_lt
 have hb := b.toNat_lt
 have hc := c.toNat_lt
 unfold fD
 rw [bF (by omega) (by omega), ag, aQ (by omega), ag, aQ (by omega), ag, bF (by omega) (by omega), ag, aQ (by omega), ag, aQ (by omega), ag]
 refine Ok.bind (zl (by omega) (by omega)) fun r hr => ?_
 refine Ok.bind (P := fun v : Int × List (List Int) × List Int => BrdOk ⟨v.1, v.2.1, v.2.2⟩) (Ok.cond (fun _ => ?_) fun _ => Ok.ret hr) fun v hv => Ok.ret hv
 have := hr.c1
 rw [bF (by omega) (by omega), ag]
 exact Ok.bind (uY hr (Int.emod_nonneg _ (by omega)) (Int.emod_lt_of_pos _ (by omega))) fun v hv => Ok.ret hv
theorem qj (l : List UInt8) {i : Int} (hi : 0 ≤ i) : Ok (c8 l i) fun v => 0 ≤ v ∧ v ≤ 255 := by
 unfold c8
 refine Ok.cond (fun c => ?_) fun _ => Ok.ret (by omega)
 simp only [decide_eq_true_eq] at c
 rw [dl hi c, ag]
 have := (l[i.toNat]'(by omega)).toNat_lt
 exact Ok.ret (by omega)
theorem zJ (l : List UInt8) : Ok (f6 l) fun r => r.length ≤ 6 := by
 unfold f6
 refine Ok.bind (qj l (by omega)) fun x1 g1 => ?_
 rw [bF (by omega) (by omega), ag]
 refine Ok.bind (qj l (by omega)) fun x3 g3 => ?_
 rw [bF (by omega) (by omega), ag]
 refine Ok.bind (qj l (by omega)) fun x5 g5 => ?_
 rw [bF (by omega) (by omega), ag]
 refine Ok.bind (qj l (by omega)) fun x7 g7 => ?_
 rw [bF (by omega) (by omega), ag, aQ (by omega), ag, bF (by omega) (by omega), ag]
 refine Ok.bind (qj l (by omega)) fun x11 g11 => ?_
 have key : ∀ t : List (List Stp), t.length = 16 → (∀ r ∈ t, r.length ≤ 6) → Ok (ob (cF x11 (t.length : Int)) fun x12 => ob (idx t x12) fun x13 => some x13) fun r => r.length ≤ 6 := by
  intro t ht hr
  have ht' : ((t.length : Nat) : Int) = 16 := by omega
  rw [ht', bF (by omega) (by omega), ag, dl (by omega) (by omega), ag]
  exact Ok.ret (hr _ (List.getElem_mem _))
 refine key _ rfl ?_
 intro r hr
 simp only [List.mem_cons, List.not_mem_nil, or_false] at hr
 rcases hr with rfl | rfl | rfl | rfl | rfl | rfl | rfl | rfl | rfl | rfl | rfl | rfl | rfl | rfl | rfl | rfl <;> exact Nat.le_of_ble_eq_true rfl
theorem zW {a : List Stp} {d k r : Int} (ha : a.length ≤ 6) (hd : 0 < d) (hk : 0 < k) (hr : 0 ≤ r) : Ok (fY a d k r) fun _ => True := by
 unfold fY
 refine Ok.bind (P := fun _ => True) ?_ fun v _ => Ok.cond (fun _ => okT _) fun _ => okT _
 refine Ok.loop (fun s : Int × List Stp => ∃ i : Nat, s.1 = i ∧ i ≤ a.length ∧ s.2.length ≤ i) (fun s => a.length - s.1.toNat) ⟨0, rfl, by omega, by simp⟩ ?_
 rintro ⟨_, acc⟩ ⟨i, rfl, hi, hl⟩
 unfold gj
 simp only at hl ⊢
 refine Ok.cond (fun c1 => ?_) fun _ => Ok.ret trivial
 simp only [decide_eq_true_eq] at c1
 refine Ok.bind (P := fun v : List Stp => v.length ≤ i + 1) ?_ fun v hv => ?_
 ·rw [dl (by omega) (by omega), ag]
  generalize a[(i : Int).toNat]'(by omega) = x
  have okL : ∀ z : Int, Ok (some (.inl z : Int ⊕ List Stp)) fun o => ∀ e, o = .inr e → e.length ≤ i := fun z => ⟨_, rfl, fun e h => by cases h⟩
  refine Ok.bind (P := fun o : Int ⊕ List Stp => ∀ e, o = .inr e → e.length ≤ i) ?_ fun o ho => ?_
  ·refine Ok.bind (P := fun _ => True) (Ok.cond (fun _ => okT _) fun _ => Ok.cond (fun _ => okT _) fun _ => okT _) fun _ _ => ?_
   refine Ok.cond (fun _ => Ok.bind (ro hd) fun _ _ => okL _) fun _ => Ok.cond (fun _ => Ok.bind (ro hk) fun _ _ => okL _) fun _ => ?_
   refine Ok.bind (P := fun _ => True) (Ok.cond (fun _ => okT _) fun _ => okT _) fun _ _ => ?_
   refine Ok.cond (fun _ => Ok.cond (fun _ => Ok.ret fun e h => by cases h; exact hl) fun c => ?_) fun _ => okL _
   simp only [beq_eq_false_iff_ne, ne_eq] at c
   exact Ok.bind (ro (by omega)) fun _ _ => okL _
  ·cases o with
   | inl v =>
    show Ok (ob (app acc [_]) _) _
    rw [bB (by simp; omega), ag]
    exact Ok.ret (by simp; omega)
   | inr e => exact Ok.ret (by have := ho e rfl; omega)
 ·rw [aQ (by omega), ag]
  exact Ok.ret ⟨⟨i + 1, by simp, by omega, hv⟩, by simp only; omega⟩
theorem uo (n : UInt8) {d k r : Int} (hd : 0 < d) (hk : 0 < k) (hr : 0 ≤ r) : Ok (eR n d k r) fun _ => True := by
 have hn := n.toNat_lt
 unfold eR
 rw [mT (by omega) (by omega), ag, ag, bF (by omega) (by omega), ag, we (by omega), ag, mT (by omega) (by omega), ag]
 have hu : ∀ z : Int, 0 ≤ z ∧ z ≤ 255 → ∃ u, pA z = some u := fun z hz => ⟨_, if_pos hz⟩
 obtain ⟨u1, e1⟩ := hu ((n.toNat : Int) / 16) (by omega)
 obtain ⟨u2, e2⟩ := hu ((n.toNat : Int) / 16 + (n.toNat : Int) % 5) (by omega)
 obtain ⟨u3, e3⟩ := hu ((n.toNat : Int) / 3) (by omega)
 rw [e1, ag, e2, ag, e3, ag]
 exact Ok.bind (zJ _) fun x9 h9 => Ok.bind (zW h9 hd hk hr) fun _ _ => okT _
end
section
open Go.RowKit
set_option maxRecDepth 100000
structure GmFine (g : Gm) : Prop where
 board : BrdOk g.board
 k1 : 1 ≤ g.kinds.length
 k2 : g.kinds.length ≤ 2
 r0 : 0 ≤ g.rights
 r2 : g.rights ≤ 2
theorem Dl (x : GRaw) : Ok (fH x) GmFine := by
 unfold fH
 refine Ok.bind (xR x.w x.h x.cut) fun b hB => ?_
 have hnl := hB.nl
 have hc1 := hB.c1
 have h0 := x.f0.toNat_lt
 have h1 := x.f1.toNat_lt
 have h3 := x.f3.toNat_lt
 have h4 := x.f4.toNat_lt
 rw [bF (by omega) (by omega), ag, bF (by omega) (by omega), ag]
 obtain ⟨r, hr, hr0, hr2⟩ : ∃ r : Int, (x.f0.toNat : Int) % 3 = r ∧ 0 ≤ r ∧ r ≤ 2 := ⟨_, rfl, by omega, by omega⟩
 rw [hr]
 refine Ok.bind (P := fun v => v = 1 ∨ v = 2) (Ok.cond (fun _ => Ok.ret (.inr rfl)) fun _ => Ok.ret (.inl rfl)) fun kn hkn => ?_
 have hk0 : 0 < kn := by omega
 have hl0 : Ok (bm (eP x b r kn) (0, [])) fun _ => True := by
  refine Ok.loop (fun s : Int × List (List Stp) => ∃ i : Nat, s.1 = i ∧ i ≤ 4 ∧ s.2.length = i) (fun s : Int × List (List Stp) => 4 - s.1.toNat) ⟨0, rfl, by omega, rfl⟩ ?_
  rintro ⟨_, acc⟩ ⟨i, rfl, hi, ha⟩
  unfold eP
  simp only at ha ⊢
  refine Ok.cond (fun c1 => Ok.cond (fun c2 => ?_) fun _ => Ok.ret trivial) fun _ => Ok.ret trivial
  simp only [decide_eq_true_eq] at c1 c2
  rw [dl (by omega) (by omega), ag]
  refine Ok.bind (uo _ (by omega) hk0 hr0) fun _ _ => ?_
  rw [bB (by simp; omega), ag, aQ (by omega), ag]
  exact Ok.ret ⟨⟨i + 1, by simp, by omega, by simp [ha]⟩, by simp only; omega⟩
 have hl1 : Ok (bm (eJ x b r kn) (0, [])) fun _ => True := by
  refine Ok.loop (fun s : Int × List (List Stp) => ∃ i : Nat, s.1 = i ∧ i ≤ 4 ∧ s.2.length = i) (fun s : Int × List (List Stp) => 4 - s.1.toNat) ⟨0, rfl, by omega, rfl⟩ ?_
  rintro ⟨_, acc⟩ ⟨i, rfl, hi, ha⟩
  unfold eJ
  simp only at ha ⊢
  refine Ok.cond (fun c1 => Ok.cond (fun c2 => ?_) fun _ => Ok.ret trivial) fun _ => Ok.ret trivial
  simp only [decide_eq_true_eq] at c1 c2
  rw [dl (by omega) (by omega), ag]
  refine Ok.bind (uo _ (by omega) hk0 hr0) fun _ _ => ?_
  rw [bB (by simp; omega), ag, aQ (by omega), ag]
  exact Ok.ret ⟨⟨i + 1, by simp, by omega, by simp [ha]⟩, by simp only; omega⟩
 have hl3 : Ok (bm (eI x b kn) (0, [])) fun _ => True := by
  refine Ok.loop (fun s : Int × List Cls => ∃ i : Nat, s.1 = i ∧ i ≤ 3 ∧ s.2.length = i) (fun s : Int × List Cls => 3 - s.1.toNat) ⟨0, rfl, by omega, rfl⟩ ?_
  rintro ⟨_, acc⟩ ⟨i, rfl, hi, ha⟩
  unfold eI
  simp only at ha ⊢
  refine Ok.cond (fun c1 => Ok.cond (fun c2 => ?_) fun _ => Ok.ret trivial) fun _ => Ok.ret trivial
  simp only [decide_eq_true_eq] at c1 c2
  obtain ⟨e, he⟩ : ∃ e, idx x.c (i : Int) = some e := ⟨_, dl (by omega) (by omega)⟩
  obtain ⟨e1, e2, e3⟩ := e
  have g1 := e1.toNat_lt
  have g2 := e2.toNat_lt
  have g3 := e3.toNat_lt
  simp only [he, ag]
  rw [bF (by omega) (by omega), ag, aQ (by omega), ag, mT (by omega) (by omega), ag, aQ (by omega), ag, bF (by omega) (by omega), ag, aQ (by omega), ag]
  refine Ok.bind (P := fun _ => True) (Ok.cond (fun _ => ?_) fun _ => Ok.ret trivial) fun _ _ => Ok.bind (P := fun _ => True) (Ok.cond (fun _ => ?_) fun _ => Ok.ret trivial) fun _ _ => Ok.bind (P := fun _ => True) (Ok.cond (fun _ => ?_) fun _ => Ok.ret trivial) fun _ _ => ?_
  ·rw [bF (by omega) (by omega), ag]; exact Ok.ret trivial
  ·rw [bF (by omega) (by omega), ag]; exact Ok.ret trivial
  ·rw [bF (by omega) (by omega), ag]; exact Ok.ret trivial
  ·rw [bB (by simp; omega), ag, aQ (by omega), ag]
   exact Ok.ret ⟨⟨i + 1, by simp, by omega, by simp [ha]⟩, by simp only; omega⟩
 refine Ok.bind (P := fun l : List Knd => 1 ≤ l.length ∧ l.length ≤ 2) ?_ fun ks hks => ?_
 ·rw [jj hk0, cond_true]
  refine Ok.bind (P := fun l : List Knd => l.length = 1) ?_ fun l hl => ?_
  ·rw [show idx [([97] : List UInt8), [98, 101, 101]] 0 = some [97] from rfl, ag, uH (by omega), ag]
   refine Ok.bind hl0 fun ps _ => ?_
   rw [bB (by simp), ag]
   exact Ok.ret rfl
  ·refine Ok.cond (fun c1 => ?_) fun _ => Ok.ret ⟨by omega, by omega⟩
   refine Ok.bind (P := fun l : List Knd => l.length = 2) ?_ fun l2 hl2 => ?_
   ·rw [show idx [([97] : List UInt8), [98, 101, 101]] 1 = some [98, 101, 101] from rfl, ag, uH (by omega), ag]
    refine Ok.bind hl1 fun ps _ => ?_
    rw [bB (by simp; omega), ag]
    exact Ok.ret (by simp; omega)
   ·rw [gM (by omega), cond_false]
    exact Ok.ret ⟨by omega, by omega⟩
 ·refine Ok.bind (P := fun _ => True) ?_ fun _ _ => Ok.bind (P := fun _ => True) ?_ fun _ _ => Ok.bind hl3 fun _ _ => Ok.ret ⟨hB, hks.1, hks.2, hr0, hr2⟩
  ·rw [bF (by omega) (by omega), ag]
   refine Ok.cond (fun _ => ?_) fun _ => Ok.ret trivial
   rw [mT (by omega) (by omega), ag, aQ (by omega), ag, bF (by omega) (by omega), ag, aQ (by omega), ag]
   exact Ok.ret trivial
  ·rw [bF (by omega) (by omega), ag]
   refine Ok.cond (fun _ => ?_) fun _ => Ok.ret trivial
   rw [mT (by omega) (by omega), ag, aQ (by omega), ag, bF (by omega) (by omega), ag, aQ (by omega), ag]
   exact Ok.ret trivial
structure PsFine (g : Gm) (p : Ps) : Prop where
 la : (p.at_.length : Int) = g.board.cells
 l0 : p.h0.length = g.kinds.length
 l1 : p.h1.length = g.kinds.length
 a : ∀ x ∈ p.at_, 0 ≤ x ∧ x ≤ 2 * (g.kinds.length : Int)
 b : ∀ x ∈ p.h0, 0 ≤ x ∧ x ≤ 8
 c : ∀ x ∈ p.h1, 0 ≤ x ∧ x ≤ 8
 r : 0 ≤ p.rights ∧ p.rights < 2 ^ g.rights.toNat
 s : p.side = 0 ∨ p.side = 1
theorem PsFine.ok {g : Gm} {p : Ps} (hg : GmFine g) (h : PsFine g p) : PsOk p := by
 have h1 := hg.board.c9
 have h2 := hg.k2
 have h3 := h.la
 have h4 := h.l0
 have h5 := h.l1
 have hr := hg.r2
 have hr0 := hg.r0
 refine ⟨by omega, by omega, by omega, fun x hx => ?_, fun x hx => ?_, fun x hx => ?_, ?_, ?_⟩
 ·have := h.a x hx; exact ⟨this.1, by omega⟩
 ·have := h.b x hx; exact ⟨this.1, by omega⟩
 ·have := h.c x hx; exact ⟨this.1, by omega⟩
 ·have := h.r
  have h4 : (2 : Int) ^ g.rights.toNat ≤ 4 := by
   have : g.rights.toNat = 0 ∨ g.rights.toNat = 1 ∨ g.rights.toNat = 2 := by omega
   rcases this with h | h | h <;> rw [h] <;> decide
  exact ⟨h.r.1, by have := h.r.2; omega⟩
 ·rcases h.s with e | e <;> rw [e] <;> exact ⟨by omega, by omega⟩
theorem rC (g : Gm) (hs : List UInt8) (o : Nat) (hl : hs.length = 4) (ho : o ≤ 2) (hg : GmFine g) {body : (Int × List Int) → Option ((Int × List Int) ⊕ List Int)}
  (hb : ∀ s, body s = (bif (decide (s.1 < (g.kinds.length : Int))) then (bif (decide (s.1 < 2)) then (ob (ob (idx g.kinds s.1) fun x => bif x.keep then (ob (arI .i64 (o + s.1)) fun a => ob (idx hs a) fun b => ob (cF (b.toNat : Int) 3) fun c => ob (idx s.2 s.1) fun _ => ob (arI .i64 (o + s.1)) fun a2 => ob (idx hs a2) fun b2 =>
   bif (decide (250 < (b2.toNat : Int))) then (ob (idx (s.2.set (s.1 : Int).toNat c) s.1) fun _ => some ((s.2.set (s.1 : Int).toNat c).set (s.1 : Int).toNat 8)) else some (s.2.set (s.1 : Int).toNat c)) else some s.2) fun v => ob (arI .i64 (s.1 + 1)) fun z => some (.inl (z, v))) else some (.inr s.2)) else some (.inr s.2))) :
  Ok (bm body (0, List.replicate g.kinds.length 0)) fun l => l.length = g.kinds.length ∧ ∀ x ∈ l, 0 ≤ x ∧ x ≤ 8 := by
 have hk2 := hg.k2
 refine Ok.loop (fun s : Int × List Int => ∃ i : Nat, s.1 = i ∧ i ≤ 2 ∧ s.2.length = g.kinds.length ∧ ∀ x ∈ s.2, 0 ≤ x ∧ x ≤ 8) (fun s : Int × List Int => 2 - s.1.toNat) ⟨0, rfl, by omega, by simp, fun x hx => by rw [List.eq_of_mem_replicate hx]; omega⟩ ?_
 rintro ⟨_, l⟩ ⟨i, rfl, hi, h1, h2⟩
 rw [hb]
 simp only at h1 h2 ⊢
 refine Ok.cond (fun c1 => Ok.cond (fun c2 => ?_) fun _ => Ok.ret ⟨h1, h2⟩) fun _ => Ok.ret ⟨h1, h2⟩
 simp only [decide_eq_true_eq] at c1 c2
 refine Ok.bind (P := fun v : List Int => v.length = g.kinds.length ∧ ∀ x ∈ v, 0 ≤ x ∧ x ≤ 8) ?_ fun v hv => ?_
 ·rw [dl (by omega) (by omega), ag]
  refine Ok.cond (fun _ => ?_) fun _ => Ok.ret ⟨h1, h2⟩
  rw [aQ (by omega), ag]
  obtain ⟨b, hb'⟩ : ∃ b, idx hs ((o : Int) + i) = some b := ⟨_, dl (by omega) (by omega)⟩
  have hbl := b.toNat_lt
  rw [hb', ag, bF (by omega) (by omega), ag, dl (by omega) (by omega), ag, ag, hb', ag]
  have hset : ∀ (l : List Int) (y : Int), (∀ x ∈ l, 0 ≤ x ∧ x ≤ 8) → 0 ≤ y ∧ y ≤ 8 → ∀ x ∈ l.set i y, 0 ≤ x ∧ x ≤ 8 := fun l y hl hy x hx => by
   rcases List.mem_or_eq_of_mem_set hx with h | rfl
   ·exact hl x h
   ·exact hy
  have s1 := hset l ((b.toNat : Int) % 3) h2 (by omega)
  refine Ok.cond (fun _ => ?_) fun _ => Ok.ret ⟨by simpa using h1, by simpa using s1⟩
  rw [dl (by omega) (by simp; omega), ag]
  exact Ok.ret ⟨by simpa using h1, by simpa using hset _ 8 s1 (by omega)⟩
 ·rw [aQ (by omega), ag]
  exact Ok.ret ⟨⟨i + 1, by simp, by omega, hv.1, hv.2⟩, by simp only; omega⟩
theorem Cx (g : Gm) (y : PRaw) (hg : GmFine g) : Ok (fI g y) (PsFine g) := by
 unfold fI
 have hc1 := hg.board.c1
 have hc9 := hg.board.c9
 have hk1 := hg.k1
 have hk2 := hg.k2
 have hr0 := hg.r0
 have hr2 := hg.r2
 have hyr := y.rights.toNat_lt
 have hys := y.side.toNat_lt
 have hpow : (1 : Int) ≤ 2 ^ g.rights.toNat ∧ (2 : Int) ^ g.rights.toNat ≤ 4 := by
  have : g.rights.toNat = 0 ∨ g.rights.toNat = 1 ∨ g.rights.toNat = 2 := by omega
  rcases this with h | h | h <;> rw [h] <;> decide
 have hshl : tb .i64 1 g.rights = some (2 ^ g.rights.toNat) := by
  unfold tb
  have : min g.rights.toNat IntKind.i64.bits = g.rights.toNat := by show min _ 64 = _; omega
  rw [if_neg (by omega), this, Int.one_mul, bX _ (by omega)]
 rw [rt (by omega), ag, hshl, ag, bF (by omega) (by omega), ag, bF (by omega) (by omega), ag, aQ (by omega), ag]
 refine Ok.bind (P := fun l : List Int => (l.length : Int) = g.board.cells ∧ ∀ x ∈ l, 0 ≤ x ∧ x ≤ 2 * (g.kinds.length : Int)) ?_ fun at_ hat => ?_
 ·refine Ok.loop (fun s : Int × List Int => ∃ i : Nat, s.1 = i ∧ i ≤ 6 ∧ (s.2.length : Int) = g.board.cells ∧ ∀ x ∈ s.2, 0 ≤ x ∧ x ≤ 2 * (g.kinds.length : Int)) (fun s : Int × List Int => 6 - s.1.toNat) ⟨0, rfl, by omega, by simp; omega, fun x hx => by rw [List.eq_of_mem_replicate hx]; omega⟩ ?_
  rintro ⟨_, l⟩ ⟨i, rfl, hi, h1, h2⟩
  unfold fO
  simp only at h1 h2 ⊢
  refine Ok.cond (fun c1 => ?_) fun _ => Ok.ret ⟨h1, h2⟩
  simp only [decide_eq_true_eq] at c1
  refine Ok.bind (P := fun v : List Int => (v.length : Int) = g.board.cells ∧ ∀ x ∈ v, 0 ≤ x ∧ x ≤ 2 * (g.kinds.length : Int)) ?_ fun v hv => ?_
  ·obtain ⟨a, ha⟩ : ∃ a, idx [y.c0, y.c1, y.c2, y.c3, y.c4, y.c5] (i : Int) = some a := ⟨_, dl (by omega) (by simp only [List.length_cons, List.length_nil]; omega)⟩
   have hal := a.toNat_lt
   rw [ha, ag, aQ (by omega), ag, bF (by omega) (by omega), ag]
   refine Ok.cond (fun c2 => ?_) fun _ => Ok.ret ⟨h1, h2⟩
   simp only [decide_eq_true_eq] at c2
   rw [jj (by omega), cond_true]
   obtain ⟨k, hk⟩ : ∃ k, idx [y.k0, y.k1, y.k2, y.k3, y.k4, y.k5] (i : Int) = some k := ⟨_, dl (by omega) (by simp only [List.length_cons, List.length_nil]; omega)⟩
   have hkl := k.toNat_lt
   rw [hk, ag, bF (by omega) (by omega), ag]
   obtain ⟨q, hq, hq0, hq1⟩ : ∃ q : Int, (k.toNat : Int) % (g.kinds.length : Int) = q ∧ 0 ≤ q ∧ q < (g.kinds.length : Int) := ⟨_, rfl, Int.emod_nonneg _ (by omega), Int.emod_lt_of_pos _ (by omega)⟩
   rw [hq]
   have hcm := Int.emod_nonneg (a.toNat : Int) (show g.board.cells + 1 ≠ 0 by omega)
   rw [aQ (by omega), ag, aQ (by omega), ag, bF (by omega) (by omega), ag, aQ (by omega), ag, dl (by omega) (by omega), ag]
   refine Ok.ret ⟨by simpa using h1, fun x hx => ?_⟩
   rcases List.mem_or_eq_of_mem_set hx with h | rfl
   ·exact h2 x h
   ·omega
  ·rw [aQ (by omega), ag]
   exact Ok.ret ⟨⟨i + 1, by simp, by omega, hv.1, hv.2⟩, by simp only; omega⟩
 ·refine Ok.bind (P := fun v : List Int × List Int => (v.1.length = g.kinds.length ∧ ∀ x ∈ v.1, 0 ≤ x ∧ x ≤ 8) ∧ (v.2.length = g.kinds.length ∧ ∀ x ∈ v.2, 0 ≤ x ∧ x ≤ 8)) ?_ fun v hv => ?_
  ·rw [rt (by omega), Int.toNat_natCast]
   refine Ok.bind (P := fun v : List Int => v.length = g.kinds.length ∧ ∀ x ∈ v, 0 ≤ x ∧ x ≤ 8) ?_ fun v1 hv1 => Ok.bind (P := fun v : List Int => v.length = g.kinds.length ∧ ∀ x ∈ v, 0 ≤ x ∧ x ≤ 8) ?_ fun v2 hv2 => Ok.ret ⟨hv1, hv2⟩
   ·rw [ag]; exact rC g [y.h0, y.h1, y.h2, y.h3] 0 rfl (by omega) hg fun s => rfl
   ·rw [ag]; exact rC g [y.h0, y.h1, y.h2, y.h3] 2 rfl (by omega) hg fun s => rfl
  ·refine Ok.ret ⟨hat.1, hv.1.1, hv.2.1, hat.2, hv.1.2, hv.2.2, ⟨Int.emod_nonneg _ (by omega), Int.emod_lt_of_pos _ (by omega)⟩, ?_⟩
   simp only; omega
end
section
open Go.RowKit
set_option maxRecDepth 100000
open Classical
structure PsS (p : Ps) : Prop where
 a : p.at_.length ≤ 200000
 b : p.h0.length ≤ 200000
 c : p.h1.length ≤ 200000
theorem PsS.B {p : Ps} (h : PsS p) : PsB p := ⟨by have := h.a; omega, by have := h.b; omega, by have := h.c; omega⟩
theorem PsOk.S {p : Ps} (h : PsOk p) : PsS p := ⟨by have := h.la; omega, by have := h.l0; omega, by have := h.l1; omega⟩
theorem sF {p : Ps} (h : PsS p) (r : Rs) : (dE p r).length ≤ 700000 := by
 rw [wu]
 have := h.a
 have := h.b
 have := h.c
 simp [iE]; omega
def cO (l : List Ps) (v : List Rs) : List (List UInt8) := (l.zip v).map fun e => dE e.1 e.2
theorem kv (l : List Ps) (v : List Rs) : (cO l v).length = min l.length v.length := by simp [cO]
theorem uu {l : List Ps} {v : List Rs} {i : Nat} {e : Ps × Rs} (h : (l.zip v)[i]? = some e) : l[i]? = some e.1 ∧ v[i]? = some e.2 := by
 rw [List.getElem?_zip_eq_some] at h; exact h
theorem rH (l : List Ps) (v : List Rs) (hl : l.length ≤ 1000000) (hs : ∀ p ∈ l, PsS p) : fP l v = some (cO l v) := by
 unfold fP
 have := kE (body := eK l v) (l.zip v) (fun e => dE e.1 e.2) (fun i e acc he hacc => by
  obtain ⟨h1, h2⟩ := uu he
  have hi := (List.getElem?_eq_some_iff.1 he).1
  rw [List.length_zip] at hi
  have hS := hs e.1 (List.mem_of_getElem? h1)
  unfold eK
  simp only
  rw [jj (by omega), cond_true, ed, ed, h1, h2, ag, ag, rk _ _ hS.B, ag, bB (by simp; omega), ag, aQ (by omega), ag]; rfl) (fun acc => by
  unfold eK
  simp only [List.length_zip]
  rw [gM (by omega), cond_false])
 rw [this, ag]; rfl
theorem oK (l : List Ps) (v : List Rs) (hl : l.length ≤ 1000000) (hs : ∀ p ∈ l, PsS p) : d8 l v = some (cO l v) := by
 unfold d8
 have := kE (body := cW l v) (l.zip v) (fun e => dE e.1 e.2) (fun i e acc he hacc => by
  obtain ⟨h1, h2⟩ := uu he
  have hi := (List.getElem?_eq_some_iff.1 he).1
  rw [List.length_zip] at hi
  have hS := hs e.1 (List.mem_of_getElem? h1)
  unfold cW
  simp only
  rw [jj (by omega), cond_true, jj (by omega), cond_true, ed, ed, h1, h2, ag, ag, qx _ _ hS.B, ag, bB (by simp; omega), ag, aQ (by omega), ag]; rfl) (fun acc => by
  unfold cW
  simp only [List.length_zip]
  refine Ok.get ?_
  refine Ok.cond (fun c1 => Ok.cond (fun c2 => ?_) fun _ => Ok.ret rfl) fun _ => Ok.ret rfl
  simp only [decide_eq_true_eq] at c1 c2; omega)
 rw [this, ag]; rfl
theorem jE {l : List Ps} {v : List Rs} (hl : l.length ≤ 1000000) (hs : ∀ p ∈ l, PsS p) : Fit (cO l v) := by
 refine ⟨by rw [kv]; omega, fun x hx => ?_⟩
 simp only [cO, List.mem_map] at hx
 obtain ⟨e, he, rfl⟩ := hx
 have := sF (hs e.1 (List.of_mem_zip he).1) e.2
 omega
theorem rl (l : List Ps) (v : List Rs) (hl : l.length ≤ 1000000) (hs : ∀ p ∈ l, PsS p) : fc l v = some (Sha.root (cO l v)) := by
 unfold fc
 rw [rH l v hl hs, ag, show km (cO l v) = some (Sha.root (cO l v)) from if_pos (jE hl hs), ag, gt (Sha.root_len _), ag]
def vR : Ans := ⟨0, 0, 0, ⟨[], [], [], 0, 0⟩, ⟨0, 0⟩, []⟩
noncomputable def mB (l : List Ps) (v : List Rs) (ver i : Int) : Ans × Int :=
 if h : l.length = v.length ∧ 0 ≤ i ∧ i < (l.length : Int) then (⟨ver, i, l.length, l[i.toNat]'(by omega), v[i.toNat]'(by omega), Sha.proof (cO l v) i.toNat⟩, 0) else (vR, 1)
theorem nT (l : List Ps) (v : List Rs) (ver i : Int) (hl : l.length ≤ 1000000) (hs : ∀ p ∈ l, PsS p) : cQ l v ver i = some (mB l v ver i) := by
 refine Ok.get ?_
 unfold cQ mB
 refine Ok.cond (fun c => Ok.ret ?_) fun c => ?_
 ·rw [dif_neg (fun h => by rw [h.1] at c; simp at c)]; rfl
 ·have hlv : l.length = v.length := by simp at c; omega
  have hlen := kv l v
  rw [rH l v hl hs, ag]
  by_cases hi : i < 0 ∨ (l.length : Int) ≤ i
  ·rw [show gu (cO l v) i = some ([], 1) by unfold gu; rw [if_pos (jE hl hs), if_pos (by omega)], ag, dif_neg (by omega)]
   exact Ok.ret rfl
  ·rw [show gu (cO l v) i = some (Sha.proof (cO l v) i.toNat, 0) by unfold gu; rw [if_pos (jE hl hs), if_neg (by omega)], ag, dif_pos (by omega)]
   simp only
   rw [Cp rfl, cond_false, dl (by omega) (by omega), ag, dl (by omega) (by omega), ag]
   exact Ok.ret rfl
theorem rI {α : Type} {body : Int → Option (Int ⊕ (Unit ⊕ Int))} (l : List α) (g : α → Bool) (f : α → Option Bool) (hf : ∀ x ∈ l, f x = some (g x)) (hl : l.length ≤ 9223372036854775807)
  (hb : ∀ s, body s = (bif (decide (s < (l.length : Int))) then (ob (idx l s) fun x => ob (f x) fun y => bif y then some (.inr (.inr s)) else ob (arI .i64 (s + 1)) fun z => some (.inl z)) else some (.inr (.inl ())))) :
  Ok (ob (bm body 0) fun o => match o with | .inl _ => some (-1) | .inr e => some e) fun r => decide (0 ≤ r) = l.any g := by
 refine Ok.bind (P := fun o => match o with | .inl () => ∀ x ∈ l, g x = false | .inr r => 0 ≤ r ∧ l.any g = true) ?_ ?_
 ·refine Ok.loop (fun s : Int => ∃ i : Nat, s = i ∧ i ≤ l.length ∧ ∀ j x, j < i → l[j]? = some x → g x = false) (fun s : Int => l.length - s.toNat) ⟨0, rfl, by omega, fun j x h => by omega⟩ ?_
  rintro _ ⟨i, rfl, hi, hall⟩
  rw [hb]
  refine Ok.cond (fun c1 => ?_) fun c1 => Ok.ret ?_
  ·simp only [decide_eq_true_eq] at c1
   have e : l[i]? = some (l[i]'(by omega)) := List.getElem?_eq_getElem _
   generalize l[i]'(by omega) = x at e
   have hx := List.mem_of_getElem? e
   rw [ed, e, ag, hf x hx, ag]
   refine Ok.cond (fun c2 => Ok.ret ⟨by omega, List.any_eq_true.2 ⟨x, hx, c2⟩⟩) fun c2 => ?_
   rw [aQ (by omega), ag]
   refine Ok.ret ⟨⟨i + 1, by omega, by omega, fun j y hj hy => ?_⟩, by omega⟩
   rcases Nat.lt_or_ge j i with h | h
   ·exact hall j y h hy
   ·obtain rfl : j = i := by omega
    rw [e] at hy; cases hy; exact c2
  ·simp only [decide_eq_false_iff_not] at c1
   intro x hx
   obtain ⟨j, hj⟩ := List.getElem?_of_mem hx
   exact hall j x (by have := (List.getElem?_eq_some_iff.1 hj).1; omega) hj
 ·rintro (⟨⟩ | r) h
  ·refine Ok.ret ?_
   have : l.any g = false := by rw [List.any_eq_false]; intro x hx; rw [h x hx]; simp
   rw [this]; rfl
  ·refine Ok.ret ?_
   rw [h.2]; exact decide_eq_true h.1
theorem sK (l : List Int) (F : FnV Tryd.prog HG (α := Int) (β := Bool) (fun x => [.v (.int .i64 x)]) (fun y => .v (.bool y))) (g : Int → Bool) (hf : ∀ x ∈ l, F.f x = some (g x)) (hl : l.length ≤ 9223372036854775807) : cq l F = some (l.any g) := by
 unfold cq dQ
 obtain ⟨r, h1, h2⟩ := rI l g F.f hf hl (body := bT l F) (fun s => rfl)
 exact Ok.get (Ok.eq h1 (Ok.ret h2))
abbrev FnB := FnV Tryd.prog HG (α := Unit) (β := Bool) (fun _ => []) (fun y => .v (.bool y))
theorem tO (l : List FnB) (F : FnV Tryd.prog HG (α := FnB) (β := Bool) (fun x => [.fn x.g x.c]) (fun y => .v (.bool y))) (g : FnB → Bool) (hf : ∀ x ∈ l, F.f x = some (g x)) (hl : l.length ≤ 9223372036854775807) : bE l F = some (l.any g) := by
 unfold bE b9
 obtain ⟨r, h1, h2⟩ := rI l g F.f hf hl (body := bj l F) (fun s => rfl)
 exact Ok.get (Ok.eq h1 (Ok.ret h2))
theorem CV (a b c : Int) : ix a b c = some (decide (b ≤ a) && decide (a ≤ c)) := by
 refine Ok.get ?_
 unfold ix
 exact Ok.cond (fun h => Ok.ret (by rw [h]; simp)) fun h => Ok.ret (by rw [h]; simp)
def u8B (n : Int) : Bool := decide (0 ≤ n) && decide (n ≤ 255)
theorem ot (l : List Int) (f : FnV Tryd.prog HG (α := Int) (β := Bool) (fun x => [.v (.int .i64 x)]) (fun y => .v (.bool y))) (hf : ∀ x, f.f x = some (u8B x)) : eC l f = some (decide (l.length ≤ 255) && l.all u8B) := by
 refine Ok.get ?_
 unfold eC
 refine Ok.cond (fun c => ?_) fun c => Ok.ret ?_
 ·simp only [decide_eq_true_eq] at c
  refine Ok.eq (sK l _ (fun x => !u8B x) (fun x _ => by show fG x f = _; unfold fG; rw [hf, ag]) (by omega)) (Ok.ret ?_)
  have : decide (l.length ≤ 255) = true := decide_eq_true (by omega)
  rw [this]
  simp [List.all_eq_not_any_not]
 ·simp only [decide_eq_false_iff_not] at c
  have : decide (l.length ≤ 255) = false := decide_eq_false (by omega)
  rw [this]; simp
def rg (p : Ps) (r : Rs) : Bool := (decide (p.at_.length ≤ 255) && p.at_.all u8B) && ((decide (p.h0.length ≤ 255) && p.h0.all u8B) && ((decide (p.h1.length ≤ 255) && p.h1.all u8B) && (u8B p.rights && (u8B p.side && ((decide (1 ≤ r.out) && decide (r.out ≤ 3)) && (decide (0 ≤ r.n) && decide (r.n ≤ 2147483647)))))))
theorem mM {a b : Bool} {x : Option Bool} (h : a = true → Ok x (· = b)) : Ok (bif a then x else some false) (· = (a && b)) := by
 cases a with
 | false => exact Ok.ret rfl
 | true => simpa using h rfl
theorem yC (p : Ps) (r : Rs) : ib p r = some (rg p r) := by
 refine Ok.get ?_
 unfold ib rg
 have hin : ∀ a b, ∃ F : FnV Tryd.prog HG (α := Int) (β := Bool) (fun x => [.v (.int .i64 x)]) (fun y => .v (.bool y)), iC a b = some F ∧ ∀ x, F.f x = some (decide (a ≤ x) && decide (x ≤ b)) := fun a b => ⟨_, rfl, fun x => CV x a b⟩
 obtain ⟨F, h1, h2⟩ := hin 0 255
 obtain ⟨F2, h3, h4⟩ := hin 1 3
 obtain ⟨F3, h5, h6⟩ := hin 0 2147483647
 rw [h1, ag, ot _ F h2, ag]
 refine mM fun _ => ?_
 rw [ot _ F h2, ag]
 refine mM fun _ => ?_
 rw [ot _ F h2, ag]
 refine mM fun _ => ?_
 rw [h2, ag]
 refine mM fun _ => ?_
 rw [h2, ag]
 refine mM fun _ => ?_
 rw [h3, ag, h4, ag]
 refine mM fun _ => ?_
 rw [h5, ag, h6, ag]
 exact Ok.ret rfl
end
section
open Go.RowKit
set_option maxRecDepth 100000
structure CkOk (root : List UInt8) (a : Ans) : Prop where
 root : root.length = 32
 pos : PsS a.pos
 proof : ∀ s ∈ a.proof, s.length = 32
 len : a.proof.length ≤ 900000
 c1 : -9223372036854775808 ≤ a.count
 c2 : a.count ≤ 4294967296
 i : -9223372036854775808 ≤ a.index ∧ a.index ≤ 9223372036854775807
def kP (root : List UInt8) (ver : Int) (a : Ans) : Bool := (a.version == ver) && (rg a.pos a.entry && Sha.check root a.count a.index (dE a.pos a.entry) a.proof)
theorem sG {root : List UInt8} {a : Ans} (h : CkOk root a) : jC root a.count a.index (dE a.pos a.entry) a.proof = some (Sha.check root a.count a.index (dE a.pos a.entry) a.proof) :=
 if_pos ⟨h.root, by have := sF h.pos a.entry; omega, h.proof, by have := h.len; omega, h.c2, h.c1, h.i⟩
theorem pI {root : List UInt8} {a : Ans} (ver : Int) (h : CkOk root a) : fp root ver a = some (kP root ver a) := by
 refine Ok.get ?_
 unfold fp
 have e3 : fu root a = some (Sha.check root a.count a.index (dE a.pos a.entry) a.proof) := by
  unfold fu
  rw [rk _ _ h.pos.B, ag, sG h, ag]
 have e2 : fq a = some (rg a.pos a.entry) := by
  unfold fq
  rw [yC, ag]
 have e1 : gB a ver = some (a.version == ver) := rfl
 refine Ok.eq (tO _ _ (fun F : FnB => !(F.f ()).getD false) (fun F hF => ?_) (by simp)) ?_
 ·show gy F = _
  unfold gy
  have : ∃ b, F.f () = some b := by
   simp only [List.mem_cons, List.not_mem_nil, or_false] at hF
   rcases hF with rfl | rfl | rfl
   ·exact ⟨_, e1⟩
   ·exact ⟨_, e2⟩
   ·exact ⟨_, e3⟩
  obtain ⟨b, hb⟩ := this
  rw [hb, ag]; rfl
 ·refine Ok.ret ?_
  simp only [List.any_cons, List.any_nil, e1, e2, e3, Option.getD_some, kP]
  cases (a.version == ver) <;> cases rg a.pos a.entry <;> cases Sha.check root a.count a.index (dE a.pos a.entry) a.proof <;> rfl
def lP (x : List Int) (i : Nat) : Int := if x = [] then 7 * i else x[i % x.length]?.getD 0 + i
def vH (x : List Int) (i : Nat) : Rs := ⟨1 + lP x i % 3, lP x i / 3⟩
def ke (n : Nat) (x : List Int) : List Rs := (List.range n).map (vH x)
theorem uU (l : List Ps) (x : List Int) (hl : l.length ≤ 1000000) (hx : ∀ y ∈ x, 0 ≤ y ∧ y ≤ 65535) (hxl : x.length ≤ 1000000) : eS l x = some (ke l.length x) := by
 unfold eS
 have := kE (body := cN l x) (List.range l.length) (vH x) (fun i k acc he hacc => by
  have hi := (List.getElem?_eq_some_iff.1 he).1
  rw [List.length_range] at hi
  obtain rfl : k = i := by rw [List.getElem?_range hi] at he; exact (Option.some.inj he).symm
  have hN : 0 ≤ lP x k ∧ lP x k ≤ 10000000 := by
   unfold lP
   split
   ·omega
   ·rename_i hne
    have hpos : 0 < x.length := List.length_pos_iff.2 hne
    have hm := Nat.mod_lt k hpos
    rw [List.getElem?_eq_getElem hm]
    have := hx _ (List.getElem_mem hm)
    simp only [Option.getD_some]; omega
  refine Ok.get ?_
  unfold cN
  simp only
  rw [jj (by omega), cond_true, aQ (by omega), ag]
  refine Ok.bind (P := fun v => v = lP x k) (Ok.cond (fun c => ?_) fun c => Ok.ret ?_) fun v hv => ?_
  ·simp only [decide_eq_true_eq] at c
   have hne : x ≠ [] := fun e => by subst e; simp at c
   have hpos : 0 < x.length := by omega
   have hm := Nat.mod_lt k hpos
   rw [bF (by omega) (by omega), ag]
   have he2 : ((k : Nat) : Int) % (x.length : Int) = ((k % x.length : Nat) : Int) := by simp
   have hb := hx _ (List.getElem_mem hm)
   rw [he2, ed, List.getElem?_eq_getElem hm, ag, aQ (by omega), ag, aQ (by omega), ag]
   refine Ok.ret ?_
   unfold lP
   rw [if_neg hne, List.getElem?_eq_getElem hm]; rfl
  ·simp only [decide_eq_false_iff_not] at c
   have : x = [] := List.eq_nil_of_length_eq_zero (by omega)
   unfold lP; rw [if_pos this]
  ·subst hv
   rw [bF (by omega) (by omega), ag, aQ (by omega), ag, s7 (by omega) (by omega), ag, bB (by simp; omega), ag, aQ (by omega), ag]
   exact Ok.ret rfl) (fun acc => by
  unfold cN
  simp only [List.length_range]
  rw [gM (by omega), cond_false])
 rw [this, ag]; rfl
theorem ze (x : List Int) (hx : ∀ y ∈ x, 0 ≤ y ∧ y ≤ 65535) (i : Nat) (hi : i ≤ 1000000) : nD (vH x i) := by
 have hN : 0 ≤ lP x i ∧ lP x i ≤ 10000000 := by
  unfold lP
  split
  ·omega
  ·rename_i hne
   have hpos : 0 < x.length := List.length_pos_iff.2 hne
   have hm := Nat.mod_lt i hpos
   rw [List.getElem?_eq_getElem hm]
   have := hx _ (List.getElem_mem hm)
   simp only [Option.getD_some]; omega
 unfold nD vH
 simp only; omega
theorem zf (g : Gm) (l : List PRaw) (hg : GmFine g) (n : Nat) (hn : n ≤ 1000) : Ok (fE g l n) fun ps => ps.length ≤ n ∧ ∀ p ∈ ps, PsFine g p := by
 unfold fE
 refine Ok.bind (P := fun ps : List Ps => ps.length ≤ n ∧ ∀ p ∈ ps, PsFine g p) ?_ fun ps h => Ok.ret h
 refine Ok.loop (fun s : Int × List Ps => ∃ i : Nat, s.1 = i ∧ i ≤ n ∧ s.2.length = i ∧ ∀ p ∈ s.2, PsFine g p) (fun s : Int × List Ps => n - s.1.toNat) ⟨0, rfl, by omega, rfl, by simp⟩ ?_
 rintro ⟨_, acc⟩ ⟨i, rfl, hi, ha, hall⟩
 unfold fS
 simp only at ha hall ⊢
 refine Ok.cond (fun c1 => Ok.cond (fun c2 => ?_) fun _ => Ok.ret ⟨by omega, hall⟩) fun _ => Ok.ret ⟨by omega, hall⟩
 simp only [decide_eq_true_eq] at c1 c2
 rw [dl (by omega) (by omega), ag]
 refine Ok.bind (Cx g _ hg) fun p hp => ?_
 rw [bB (by simp; omega), ag, aQ (by omega), ag]
 refine Ok.ret ⟨⟨i + 1, by simp, by omega, by simp [ha], fun q hq => ?_⟩, by simp only; omega⟩
 rcases List.mem_append.1 hq with h | h
 ·exact hall q h
 ·simp at h; subst h; exact hp
theorem ub (x : GRaw) (l : List PRaw) (n : List Int) (hx : ∀ y ∈ n, 0 ≤ y ∧ y ≤ 65535) (hnl : n.length ≤ 1000) :
  Ok (du x l n) fun r => r.1.length ≤ 10 ∧ (∀ p ∈ r.1, PsOk p ∧ 1 ≤ p.at_.length) ∧ r.2 = ke r.1.length n := by
 unfold du
 refine Ok.bind (Dl x) fun g hg => ?_
 refine Ok.bind (zf g l hg 10 (by omega)) fun ps hps => ?_
 rw [uU ps n (by omega) hx (by omega), ag]
 refine Ok.ret ⟨hps.1, fun p hp => ⟨(hps.2 p hp).ok hg, ?_⟩, rfl⟩
 have := (hps.2 p hp).la
 have := hg.board.c1
 omega
end
section
open Go.RowKit
set_option maxRecDepth 100000
def P0 : Ps := ⟨[1, 0], [2], [0], 1, 0⟩
def R0 : Rs := ⟨1, 258⟩
theorem qA : dE P0 R0 = [2, 1, 1, 1, 0, 2, 0, 1, 0, 1, 0, 0, 1, 2] := by decide
theorem DU : Sha.leaf [2, 1, 1, 1, 0, 2, 0, 1, 0, 1, 0, 0, 1, 2] ≠ List.replicate 32 0 := by decide +kernel
theorem uh : e7 = some true := by
 have hS : PsS P0 := ⟨by decide, by decide, by decide⟩
 have hs : ∀ p ∈ [P0], PsS p := by simpa using hS
 have hl : cO [P0] [R0] = [dE P0 R0] := rfl
 have hpr : Sha.proof [dE P0 R0] 0 = [] := by unfold Sha.proof; rw [Sha.path_one 0 (by simp)]; rfl
 have a1 : cQ [P0] [R0] 7 0 = some (⟨7, 0, 1, P0, R0, []⟩, 0) := by
  rw [nT _ _ _ _ (by simp) hs]
  unfold mB
  rw [dif_pos ⟨rfl, by decide, by decide⟩]
  show some ((⟨7, 0, 1, P0, R0, Sha.proof [dE P0 R0] 0⟩ : Ans), (0 : Int)) = _
  rw [hpr]
 have a2 : cQ [P0] [] 7 0 = some (vR, 1) := by
  rw [nT _ _ _ _ (by simp) hs]
  unfold mB
  rw [dif_neg (by simp)]
 have a3 : cQ [P0] [R0] 7 1 = some (vR, 1) := by
  rw [nT _ _ _ _ (by simp) hs]
  unfold mB
  rw [dif_neg (by simp)]
 have a4 : fc [P0] [R0] = some (Sha.leaf (dE P0 R0)) := by
  rw [rl _ _ (by simp) hs, hl, Sha.root_one]
 have hck : ∀ root : List UInt8, root.length = 32 → CkOk root ⟨7, 0, 1, P0, R0, []⟩ := fun root h => ⟨h, hS, by simp, by simp, by decide, by decide, by decide⟩
 have hpl : rg P0 R0 = true := by decide
 have hcl : ∀ root : List UInt8, Sha.check root 1 0 (dE P0 R0) [] = decide (Sha.leaf (dE P0 R0) = root) := fun root => by
  unfold Sha.check Sha.climb; simp
 simp only [qA] at hcl
 refine Ok.get ?_
 unfold e7
 refine Ok.eq (rk P0 R0 hS.B) ?_
 refine Ok.eq a1 (Ok.eq a2 (Ok.eq a3 (Ok.eq a4 (Ok.eq (gt (Sha.leaf_len _)) ?_))))
 simp only [vR, qA, beq_self_eq_true, cond_true, List.length_nil, Int.natCast_zero, Int.cast_ofNat_Int]
 refine Ok.eq (qx P0 R0 hS.B) ?_
 rw [qA]
 refine Ok.eq (show gL _ = some (Sha.leaf _) from if_pos (by decide)) ?_
 refine Ok.eq (gt (Sha.leaf_len _)) (Ok.eq (gt (Sha.leaf_len _)) ?_)
 rw [beq_self_eq_true, cond_true]
 refine Ok.eq (pI 7 (hck _ (Sha.leaf_len _))) ?_
 have e1 : kP (Sha.leaf [2, 1, 1, 1, 0, 2, 0, 1, 0, 1, 0, 0, 1, 2]) 7 ⟨7, 0, 1, P0, R0, []⟩ = true := by
  unfold kP; simp only [hpl, qA, hcl]; simp
 have e2 : kP (Sha.leaf [2, 1, 1, 1, 0, 2, 0, 1, 0, 1, 0, 0, 1, 2]) 8 ⟨7, 0, 1, P0, R0, []⟩ = false := by
  unfold kP; simp
 have e3 : kP (List.replicate 32 0) 7 ⟨7, 0, 1, P0, R0, []⟩ = false := by
  unfold kP; simp only [hpl, qA, hcl]
  rw [decide_eq_false DU]; rfl
 rw [e1, cond_true]
 refine Ok.eq (pI 8 (hck _ (Sha.leaf_len _))) ?_
 rw [e2]
 refine Ok.eq (pI 7 (hck _ (by simp))) (Ok.ret ?_)
 rw [e3]; rfl
end
section
open Go.RowKit
set_option maxRecDepth 100000
theorem sW (n : Nat) (x : List Int) : (ke n x).length = n := by simp [ke]
structure LsOk (l : List Ps) (v : List Rs) : Prop where
 le : l.length ≤ 1000
 len : l.length = v.length
 ps : ∀ p ∈ l, PsOk p
 rs : ∀ r ∈ v, nD r
theorem LsOk.S {l : List Ps} {v : List Rs} (h : LsOk l v) : ∀ p ∈ l, PsS p := fun p hp => (h.ps p hp).S
theorem LsOk.big {l : List Ps} {v : List Rs} (h : LsOk l v) : l.length ≤ 1000000 := by have := h.le; omega
theorem LsOk.take {l : List Ps} {v : List Rs} (h : LsOk l v) (n : Nat) : LsOk (l.take n) (v.take n) :=
 ⟨by have := h.le; rw [List.length_take]; omega, by rw [List.length_take, List.length_take, h.len], fun p hp => h.ps p (List.mem_of_mem_take hp), fun r hr => h.rs r (List.mem_of_mem_take hr)⟩
theorem sZ (x : GRaw) (l : List PRaw) (n : List Int) (hx : ∀ y ∈ n, 0 ≤ y ∧ y ≤ 65535) (hnl : n.length ≤ 1000) :
  Ok (du x l n) fun r => LsOk r.1 r.2 ∧ r.1.length ≤ 10 ∧ (∀ p ∈ r.1, 1 ≤ p.at_.length) ∧ r.2 = ke r.1.length n :=
 (ub x l n hx hnl).mono fun r hr => by
  refine ⟨⟨by have := hr.1; omega, by rw [hr.2.2, sW], fun p hp => (hr.2.1 p hp).1, fun s hs => ?_⟩, hr.1, fun p hp => (hr.2.1 p hp).2, hr.2.2⟩
  rw [hr.2.2, ke] at hs
  obtain ⟨i, hi, rfl⟩ := List.mem_map.1 hs
  exact ze n hx i (by have := List.mem_range.1 hi; have := hr.1; omega)
end
section
open Go.RowKit
set_option maxRecDepth 100000
def iM (l : List (List UInt8)) : List (List UInt8) :=
 if h : 2 ≤ l.length then (1 :: (Sha.root (l.take (Sha.cut l.length)) ++ Sha.root (l.drop (Sha.cut l.length)))) :: (iM (l.take (Sha.cut l.length)) ++ iM (l.drop (Sha.cut l.length)))
 else match l with
  | [] => [[]]
  | x :: _ => [0 :: x]
termination_by l.length
decreasing_by
 ·have := Sha.cut_lt h; rw [List.length_take]; omega
 ·have := Sha.cut_pos l.length; rw [List.length_drop]; omega
theorem kf {l : List (List UInt8)} (h : 2 ≤ l.length) : iM l = (1 :: (Sha.root (l.take (Sha.cut l.length)) ++ Sha.root (l.drop (Sha.cut l.length)))) :: (iM (l.take (Sha.cut l.length)) ++ iM (l.drop (Sha.cut l.length))) := by
 rw [iM, dif_pos h]
theorem pW : iM [] = [[]] := by rw [iM, dif_neg (by simp)]
theorem j4 (x : List UInt8) : iM [x] = [0 :: x] := by rw [iM, dif_neg (by simp)]
theorem Met.mono {a b a' b' : List (List UInt8)} (h : Sha.Met a b) (h1 : ∀ x ∈ a, x ∈ a') (h2 : ∀ x ∈ b, x ∈ b') : Sha.Met a' b' := by
 obtain ⟨x, hx, y, hy, hne, he⟩ := h
 exact ⟨x, h1 x hx, y, h2 y hy, hne, he⟩
theorem uZ : ∀ (n : Nat) (a b : List (List UInt8)), a.length = n → b.length = n → Sha.root a = Sha.root b → a ≠ b → Sha.Met (iM a) (iM b) := by
 intro n
 induction n using Nat.strongRecOn with
 | _ n ih =>
  intro a b ha hb hr hne
  by_cases h2 : 2 ≤ n
  ·have ca : 2 ≤ a.length := by omega
   have cb : 2 ≤ b.length := by omega
   rw [Sha.root_cut ca, Sha.root_cut cb] at hr
   rw [kf ca, kf cb]
   have hlt := Sha.cut_lt h2
   have hpos := Sha.cut_pos n
   rw [ha, hb] at hr ⊢
   by_cases e : (1 :: (Sha.root (a.take (Sha.cut n)) ++ Sha.root (a.drop (Sha.cut n))) : List UInt8) = 1 :: (Sha.root (b.take (Sha.cut n)) ++ Sha.root (b.drop (Sha.cut n)))
   ·obtain ⟨e1, e2⟩ := List.append_inj (List.cons.inj e).2 (by rw [Sha.root_len, Sha.root_len])
    by_cases q : a.take (Sha.cut n) = b.take (Sha.cut n)
    ·have q2 : a.drop (Sha.cut n) ≠ b.drop (Sha.cut n) := fun q2 => hne (by rw [← List.take_append_drop (Sha.cut n) a, q, q2, List.take_append_drop])
     exact Met.mono (ih (n - Sha.cut n) (by omega) _ _ (by rw [List.length_drop]; omega) (by rw [List.length_drop]; omega) e2 q2) (fun x hx => by simp [hx]) fun x hx => by simp [hx]
    ·exact Met.mono (ih (Sha.cut n) hlt _ _ (by rw [List.length_take]; omega) (by rw [List.length_take]; omega) e1 q) (fun x hx => by simp [hx]) fun x hx => by simp [hx]
   ·exact ⟨_, by simp, _, by simp, e, hr⟩
  ·match a, b, ha, hb with
   | [], [], _, _ => exact absurd rfl hne
   | [x], [y], _, _ =>
    rw [Sha.root_one, Sha.root_one] at hr
    rw [j4, j4]
    exact ⟨_, by simp, _, by simp, fun e => hne (by rw [(List.cons.inj e).2]), hr⟩
   | _ :: _ :: _, _, h, _ => simp at h; omega
   | [_], [], h, k => simp at h k; omega
   | [_], _ :: _ :: _, _, k => simp at k; omega
   | [], _ :: _, h, k => simp at h k; omega
theorem o1 : ∀ (n : Nat) (a : List (List UInt8)), a.length = n → (iM a).length ≤ 2 * n + 1 := by
 intro n
 induction n using Nat.strongRecOn with
 | _ n ih =>
  intro a ha
  by_cases h2 : 2 ≤ n
  ·have hlt := Sha.cut_lt h2
   have hpos := Sha.cut_pos n
   rw [kf (by omega), ha, List.length_cons, List.length_append]
   have i1 := ih (Sha.cut n) hlt (a.take (Sha.cut n)) (by rw [List.length_take]; omega)
   have i2 := ih (n - Sha.cut n) (by omega) (a.drop (Sha.cut n)) (by rw [List.length_drop]; omega)
   have b1 := ih (Sha.cut n) hlt
   have : ∀ k (l : List (List UInt8)), l.length = k → 1 ≤ k → (iM l).length ≤ 2 * k - 1 := by
    intro k
    induction k using Nat.strongRecOn with
    | _ k ik =>
     intro l hl hk
     by_cases h3 : 2 ≤ k
     ·have hlt := Sha.cut_lt h3
      have hpos := Sha.cut_pos k
      rw [kf (by omega), hl, List.length_cons, List.length_append]
      have j1 := ik (Sha.cut k) hlt (l.take (Sha.cut k)) (by rw [List.length_take]; omega) (by omega)
      have j2 := ik (k - Sha.cut k) (by omega) (l.drop (Sha.cut k)) (by rw [List.length_drop]; omega) (by omega)
      omega
     ·obtain ⟨x, rfl⟩ := List.length_eq_one_iff.1 (show l.length = 1 by omega)
      rw [j4]; simp <;> omega
   have k1 := this _ (a.take (Sha.cut n)) rfl (by rw [List.length_take]; omega)
   have k2 := this _ (a.drop (Sha.cut n)) rfl (by rw [List.length_drop]; omega)
   rw [List.length_take] at k1
   rw [List.length_drop] at k2
   omega
  ·rcases a with _ | ⟨x, _ | ⟨y, t⟩⟩
   ·rw [pW]; simp
   ·rw [j4]; simp <;> omega
   ·simp at ha; omega
theorem yO (n : Nat) : ∀ a : List (List UInt8), Fit a → cG n a = some (iM a) ∨ (cG n a = none ∧ n ≤ a.length) := by
 induction n with
 | zero => intro a _; exact .inr ⟨rfl, by omega⟩
 | succ n ih =>
  intro a hF
  have h1 := hF.1
  unfold cG
  rcases a with _ | ⟨x, _ | ⟨y, t⟩⟩
  ·left
   rw [yU (show (([] : List (List UInt8)).length : Int) = 0 from rfl), cond_true, bB (by simp), ag, pW]; rfl
  ·left
   rw [u7 (show (([x] : List (List UInt8)).length : Int) ≠ 0 by simp), cond_false, yU (show (([x] : List (List UInt8)).length : Int) = 1 from rfl), cond_true, show idx [x] 0 = some x from rfl, ag, show fg x = some (0 :: x) from if_pos (hF.2 x (by simp)), ag, bB (by simp), ag, j4]; rfl
  ·obtain ⟨a, ha⟩ : ∃ a, a = x :: y :: t := ⟨_, rfl⟩
   have h2 : 2 ≤ a.length := by rw [ha]; simp
   rw [← ha] at hF h1 ⊢
   have hlt := Sha.cut_lt h2
   have hpos := Sha.cut_pos a.length
   have e1 : slc a 0 ((Sha.cut a.length : Nat) : Int) = some (a.take (Sha.cut a.length)) := by rw [pS (by omega)]; simp
   have e2 : slc a ((Sha.cut a.length : Nat) : Int) (a.length : Int) = some (a.drop (Sha.cut a.length)) := by rw [pS (by omega)]; simp
   have F1 := pL hF (Sha.cut a.length)
   have F2 := pQ hF (Sha.cut a.length)
   rw [u7 (by omega), cond_false, u7 (by omega), cond_false, show f9 (a.length : Int) = some ((Sha.cut a.length : Nat) : Int) from by unfold f9; rw [if_pos (by omega)]; simp, ag, e1, ag,
    show eM (a.take (Sha.cut a.length)) = some (Sha.root (a.take (Sha.cut a.length))) from if_pos F1, ag, e2, ag, show eM (a.drop (Sha.cut a.length)) = some (Sha.root (a.drop (Sha.cut a.length))) from if_pos F2, ag,
    show fh (Sha.root (a.take (Sha.cut a.length))) (Sha.root (a.drop (Sha.cut a.length))) = some _ from if_pos ⟨Sha.root_len _, Sha.root_len _⟩, ag, bB (by simp), ag, ag]
   have l1 := o1 _ (a.take (Sha.cut a.length)) rfl
   have l2 := o1 _ (a.drop (Sha.cut a.length)) rfl
   rw [List.length_take] at l1
   rw [List.length_drop] at l2
   rcases ih _ F1 with i1 | ⟨i1, i1'⟩
   ·rw [i1, ag, bB (by simp; omega), ag, ag]
    rcases ih _ F2 with i2 | ⟨i2, i2'⟩
    ·left
     rw [i2, ag, bB (by simp; omega), ag, kf h2]
     simp
    ·right
     rw [i2]
     rw [List.length_drop] at i2'
     exact ⟨rfl, by omega⟩
   ·right
    rw [i1]
    rw [List.length_take] at i1'
    exact ⟨rfl, by omega⟩
theorem xg {a : List (List UInt8)} (hF : Fit a) : ga a = some (iM a) := by
 unfold ga
 refine yZ (a.length + 1) ?_ fun m r' h => ?_
 ·rcases yO (a.length + 1) a hF with h | ⟨_, h⟩
  ·exact h
  ·omega
 ·rcases yO m a hF with h1 | ⟨h1, _⟩
  ·rw [h] at h1; exact Option.some.inj h1
  ·rw [h] at h1; cases h1
theorem xW {a b : List (List UInt8)} (ha : a.length ≤ 1000000) (hb : b.length ≤ 1000000) (fa : ∀ x ∈ a, x.length ≤ 1000000) (fb : ∀ x ∈ b, x.length ≤ 1000000) (h : Sha.Met a b) : gb a b = some true := by
 refine Ok.get ?_
 unfold gb
 have hS : ∀ x : List UInt8, x.length ≤ 1000000 → ge x = some (Sha.sum x) := fun x hx => if_pos hx
 have e0 := kE (body := dV b) b Sha.sum (fun i x acc hx hacc => by
  obtain ⟨hlt, he⟩ := List.getElem?_eq_some_iff.1 hx
  unfold dV
  simp only
  rw [jj (by omega), cond_true, ed, hx, ag, hS x (fb x (he ▸ List.getElem_mem hlt)), ag, bB (by simp; omega), ag, aQ (by omega), ag]
  simp) fun acc => by
  unfold dV
  simp only
  rw [gM (by omega), cond_false]
 rw [e0, ag]
 have key : ∀ (i : Nat) (hi : i < a.length), ∃ o, bm (bJ a b (b.map Sha.sum) (i : Int) (Sha.sum a[i])) 0 = some o ∧ ((o = .inl () ∧ ∀ y ∈ b, ¬ (a[i] ≠ y ∧ Sha.sum a[i] = Sha.sum y)) ∨ o = .inr (.inr (.inr true))) := by
  intro i hi
  refine Ok.loop (fun s : Int => ∃ j : Nat, s = j ∧ j ≤ b.length ∧ ∀ y ∈ b.take j, ¬ (a[i] ≠ y ∧ Sha.sum a[i] = Sha.sum y)) (fun s => b.length - s.toNat) ⟨0, rfl, by omega, by simp⟩ ?_
  rintro _ ⟨j, rfl, hj, hno⟩
  unfold bJ
  refine Ok.cond (fun c => ?_) fun c => Ok.ret (.inl ⟨rfl, ?_⟩)
  ·simp only [decide_eq_true_eq] at c
   have hj' : j < b.length := by omega
   have hb' : (b.map Sha.sum)[j]? = some (Sha.sum b[j]) := by simp [hj']
   have stp : (a[i] = b[j] ∨ Sha.sum a[i] ≠ Sha.sum b[j]) → ∀ y ∈ b.take (j + 1), ¬ (a[i] ≠ y ∧ Sha.sum a[i] = Sha.sum y) := by
    intro hq y hy
    rw [List.take_add_one, List.getElem?_eq_getElem hj'] at hy
    rcases List.mem_append.1 hy with hy | hy
    ·exact hno y hy
    ·simp only [Option.toList_some, List.mem_singleton] at hy
     subst hy
     rintro ⟨q1, q2⟩
     rcases hq with hq | hq
     ·exact q1 hq
     ·exact hq q2
   rw [ed, hb', ag, gt (Sha.sum_len _), ag, gt (Sha.sum_len _), ag]
   by_cases e : Sha.sum a[i] = Sha.sum b[j]
   ·rw [show (Sha.sum a[i] == Sha.sum b[j]) = true by simpa using e, cond_true, dl (by omega) (by omega), ag, dl (by omega) (by omega), ag]
    by_cases q : a[i] = b[j]
    ·rw [show (!(a[(i : Int).toNat] == b[(j : Int).toNat])) = false by simpa using q, cond_false, ag]
     simp only
     rw [aQ (by omega), ag]
     exact Ok.ret ⟨⟨j + 1, by simp, by omega, stp (.inl q)⟩, by omega⟩
    ·rw [show (!(a[(i : Int).toNat] == b[(j : Int).toNat])) = true by simpa using q, cond_true, ag]
     exact Ok.ret (.inr rfl)
   ·rw [show (Sha.sum a[i] == Sha.sum b[j]) = false by simpa using e, cond_false, ag]
    simp only
    rw [aQ (by omega), ag]
    exact Ok.ret ⟨⟨j + 1, by simp, by omega, stp (.inr e)⟩, by omega⟩
  ·simp only [decide_eq_false_iff_not] at c
   obtain rfl : j = b.length := by omega
   simpa using hno
 refine Ok.bind (P := fun o => o = .inr true) ?_ fun o ho => by subst ho; exact Ok.ret rfl
 refine Ok.loop (fun s : Int => ∃ i : Nat, s = i ∧ i ≤ a.length ∧ ∀ x ∈ a.take i, ∀ y ∈ b, ¬ (x ≠ y ∧ Sha.sum x = Sha.sum y)) (fun s => a.length - s.toNat) ⟨0, rfl, by omega, by simp⟩ ?_
 rintro _ ⟨i, rfl, hi, hno⟩
 unfold dU
 refine Ok.cond (fun c => ?_) fun c => ?_
 ·simp only [decide_eq_true_eq] at c
  have hi' : i < a.length := by omega
  have hai : a[i]? = some a[i] := by simp
  rw [ed, hai, ag, hS _ (fa _ (List.getElem_mem _)), ag, gt (Sha.sum_len _), ag]
  obtain ⟨o, ho, hc⟩ := key i hi'
  rw [ho, ag]
  rcases hc with ⟨rfl, hc⟩ | rfl
  ·simp only
   rw [aQ (by omega), ag]
   refine Ok.ret ⟨⟨i + 1, by simp, by omega, fun x hx => ?_⟩, by omega⟩
   rw [List.take_add_one, hai] at hx
   rcases List.mem_append.1 hx with hx | hx
   ·exact hno x hx
   ·simp only [Option.toList_some, List.mem_singleton] at hx
    subst hx; exact hc
  ·exact Ok.ret rfl
 ·simp only [decide_eq_false_iff_not] at c
  obtain rfl : i = a.length := by omega
  obtain ⟨x, hx, y, hy, hne, he⟩ := h
  exact absurd ⟨hne, he⟩ (hno x (by simpa using hx) y hy)
theorem pn : ∀ {l m : List Ps} {v w : List Rs}, LsOk l v → LsOk m w → l.length = m.length → cO l v = cO m w → l = m ∧ v = w
 | [], [], [], [], _, _, _, _ => ⟨rfl, rfl⟩
 | p :: l, q :: m, r :: v, s :: w, h, k, e, hl => by
  simp only [cO, List.zip_cons_cons, List.map_cons, List.cons.injEq] at hl
  obtain ⟨rfl, rfl⟩ := (wa (h.ps p (by simp)) (k.ps q (by simp)) (h.rs r (by simp)) (k.rs s (by simp))).1 hl.1
  obtain ⟨rfl, rfl⟩ := pn (l := l) (m := m) (v := v) (w := w) ⟨by have := h.le; simp at this; omega, by have := h.len; simpa using this, fun p hp => h.ps p (by simp [hp]), fun r hr => h.rs r (by simp [hr])⟩
   ⟨by have := k.le; simp at this; omega, by have := k.len; simpa using this, fun p hp => k.ps p (by simp [hp]), fun r hr => k.rs r (by simp [hr])⟩ (by simpa using e) hl.2
  exact ⟨rfl, rfl⟩
 | [], _ :: _, _, _, _, _, e, _ => by simp at e
 | _ :: _, [], _, _, _, _, e, _ => by simp at e
 | _ :: _, _, [], _, h, _, _, _ => by have := h.len; simp at this
 | [], _, _ :: _, _, h, _, _, _ => by have := h.len; simp at this
 | _, _ :: _, _, [], _, k, _, _ => by have := k.len; simp at this
 | _, [], _, _ :: _, _, k, _, _ => by have := k.len; simp at this
theorem te : ∀ (n : Nat) (a : List (List UInt8)), a.length = n → Fit a → ∀ x ∈ iM a, x.length ≤ 1000000 := by
 intro n
 induction n using Nat.strongRecOn with
 | _ n ih =>
  intro a ha hF x hx
  by_cases h2 : 2 ≤ n
  ·have hlt := Sha.cut_lt h2
   have hpos := Sha.cut_pos n
   rw [kf (by omega), ha] at hx
   rcases List.mem_cons.1 hx with rfl | hx
   ·simp [Sha.root_len]
   ·rcases List.mem_append.1 hx with hx | hx
    ·exact ih (Sha.cut n) hlt _ (by rw [List.length_take]; omega) (pL hF _) x hx
    ·exact ih (n - Sha.cut n) (by omega) _ (by rw [List.length_drop]; omega) (pQ hF _) x hx
  ·rcases a with _ | ⟨y, _ | ⟨z, t⟩⟩
   ·rw [pW] at hx; simp at hx; simp [hx]
   ·rw [j4] at hx; simp at hx; have := hF.2 y (by simp); rw [hx]; simp; omega
   ·simp at ha; omega
theorem xu (l : List PRaw × List PRaw) (x : GRaw) (n : Int × Int) (h1 : 0 ≤ n.1 ∧ n.1 ≤ 65535) (h2 : 0 ≤ n.2 ∧ n.2 ≤ 65535) : eW l x n = some true := by
 refine Ok.get ?_
 unfold eW
 refine Ok.eq uh ?_
 refine Ok.bind (sZ x l.1 [n.1] (fun y hy => by rw [List.mem_singleton.1 hy]; exact h1) (by simp)) fun r hr => ?_
 refine Ok.bind (sZ x l.2 [n.2] (fun y hy => by rw [List.mem_singleton.1 hy]; exact h2) (by simp)) fun t ht => ?_
 obtain ⟨p1, r1⟩ := r
 obtain ⟨p2, r2⟩ := t
 obtain ⟨hk, h10, _, _⟩ := hr
 obtain ⟨hk2, h102, _, _⟩ := ht
 simp only at hk h10 hk2 h102 ⊢
 obtain ⟨m, hm⟩ : ∃ m : Nat, m = min p1.length p2.length := ⟨_, rfl⟩
 have hmi : (min (p1.length : Int) (p2.length : Int)) = (m : Int) := by omega
 have hsl : ∀ {α : Type} (l : List α), m ≤ l.length → slc l 0 (m : Int) = some (l.take m) := fun l hl => by rw [pS (by omega)]; simp
 have lr1 := hk.len
 have lr2 := hk2.len
 rw [hmi, hsl p1 (by omega), ag, hsl r1 (by omega), ag, hsl p2 (by omega), ag, hsl r2 (by omega), ag]
 have K1 := hk.take m
 have K2 := hk2.take m
 have L1 : (p1.take m).length = m := by rw [List.length_take]; omega
 have L2 : (p2.take m).length = m := by rw [List.length_take]; omega
 have M1 : (r1.take m).length = m := by rw [List.length_take]; omega
 have M2 : (r2.take m).length = m := by rw [List.length_take]; omega
 rw [xJ _ _ (by omega) (fun p hp => (K1.S p hp).B.fit), ag]
 obtain ⟨q, hq⟩ : ∃ q : Bool, q = (decide (p1.take m = p2.take m) && decide (r1.take m = r2.take m)) := ⟨_, rfl⟩
 refine Ok.bind (P := fun b => b = q) ?_ fun b hb => ?_
 ·refine Ok.loop (fun s : Bool × Int => ∃ i : Nat, s = (decide (p1.take m = p2.take m) && decide ((r1.take m).take i = (r2.take m).take i), (i : Int)) ∧ i ≤ m) (fun s => m - s.2.toNat) ⟨0, by simp, by omega⟩ ?_
  rintro _ ⟨i, rfl, hi⟩
  unfold d9
  simp only
  rw [hmi]
  refine Ok.cond (fun c => ?_) fun c => ?_
  ·simp only [decide_eq_true_eq] at c
   have hi' : i < m := by omega
   refine Ok.bind (P := fun b => b = (decide (p1.take m = p2.take m) && decide ((r1.take m).take (i + 1) = (r2.take m).take (i + 1)))) ?_ fun b hb => ?_
   ·have e1 : (r1.take m)[i]? = some ((r1.take m)[i]'(by omega)) := List.getElem?_eq_getElem _
    have e2 : (r2.take m)[i]? = some ((r2.take m)[i]'(by omega)) := List.getElem?_eq_getElem _
    have hst : ((r1.take m).take (i + 1) = (r2.take m).take (i + 1)) ↔ (r1.take m).take i = (r2.take m).take i ∧ (r1.take m)[i] = (r2.take m)[i] := by
     rw [List.take_add_one, List.take_add_one, e1, e2]
     simp only [Option.toList_some]
     constructor
     ·intro h
      obtain ⟨a, b⟩ := List.append_inj h (by simp only [List.length_take]; omega)
      exact ⟨a, by simpa using b⟩
     ·rintro ⟨a, b⟩; rw [a, b]
    refine Ok.cond (fun c1 => ?_) fun c1 => Ok.ret ?_
    ·rw [ed, e1, ag, ed, e2, ag]
     refine Ok.ret ?_
     rw [Bool.eq_iff_iff]
     simp only [Bool.and_eq_true, decide_eq_true_eq, beq_iff_eq, and_true, hst] at c1 ⊢
     constructor
     ·rintro ⟨a, b⟩
      refine ⟨c1.1, c1.2, ?_⟩
      generalize (r1.take m)[i] = u at a b ⊢
      generalize (r2.take m)[i] = v at a b ⊢
      obtain ⟨_, _⟩ := u
      obtain ⟨_, _⟩ := v
      simp only at a b
      rw [a, b]
     ·rintro ⟨_, _, h⟩; rw [h]; exact ⟨rfl, rfl⟩
    ·rw [eq_comm, Bool.eq_false_iff]
     intro hh
     simp only [Bool.and_eq_true, decide_eq_true_eq, hst, Bool.and_eq_false_iff, decide_eq_false_iff_not] at hh c1
     rcases c1 with c1 | c1
     ·exact c1 hh.1
     ·exact c1 hh.2.1
   ·rw [aQ (by omega), ag]
    exact Ok.ret ⟨⟨i + 1, by rw [hb]; simp, by omega⟩, by simp only; omega⟩
  ·simp only [decide_eq_false_iff_not] at c
   obtain rfl : i = m := by omega
   refine Ok.ret ?_
   simp only [hq]
   rw [List.take_of_length_le (l := r1.take i) (by omega), List.take_of_length_le (l := r2.take i) (by omega)]
 ·rw [hb]
  refine Ok.eq (rl _ _ K1.big K1.S) (Ok.eq (gt (Sha.root_len _)) (Ok.eq (rl _ _ K2.big K2.S) (Ok.eq (gt (Sha.root_len _)) ?_)))
  refine Ok.cond (fun c => ?_) fun c => ?_
  ·rw [hq] at c
   simp only [Bool.and_eq_true, decide_eq_true_eq] at c
   rw [cond_true, gt (Sha.root_len _), ag, gt (Sha.root_len _), ag, c.1, c.2]
   exact Ok.ret (by simp)
  ·rw [cond_true, gt (Sha.root_len _), ag, gt (Sha.root_len _), ag]
   refine Ok.cond (fun _ => Ok.ret rfl) fun c2 => ?_
   have hroot : Sha.root (cO (p1.take m) (r1.take m)) = Sha.root (cO (p2.take m) (r2.take m)) := by simpa using c2
   have F1 := jE (v := r1.take m) K1.big K1.S
   have F2 := jE (v := r2.take m) K2.big K2.S
   rw [oK _ _ K1.big K1.S, ag, xg F1, ag, oK _ _ K2.big K2.S, ag, xg F2, ag]
   have hne : cO (p1.take m) (r1.take m) ≠ cO (p2.take m) (r2.take m) := by
    intro e
    obtain ⟨e1, e2⟩ := pn K1 K2 (by omega) e
    rw [hq, e1, e2] at c
    simp at c
   have n1 := kv (p1.take m) (r1.take m)
   have n2 := kv (p2.take m) (r2.take m)
   have a1 := o1 _ (cO (p1.take m) (r1.take m)) rfl
   have a2 := o1 _ (cO (p2.take m) (r2.take m)) rfl
   rw [xW (by omega) (by omega) (te _ _ rfl F1) (te _ _ rfl F2) (uZ m _ _ (by omega) (by omega) hroot hne), ag]
   exact Ok.ret rfl
end
end Go.Proofs.YtbaccmkhjmmlnaaDoor
