/-
  ClientRoots, for every input: the law returns true, and its arguments read as before; the two tables of the package hash are as the program's text lays them (tied), nothing else is assumed.
-/
import Derived.Test.YtbaccmkhjmmlnaaDoorCards
import Derived.Test.YtbaccmkhjmmlnaaDoorTie
import Derived.Test.YtbaccmkhjmmlnaaDoorZ1
import Derived.Test.YtbaccmkhjmmlnaaDoorZ2
import Derived.Test.YtbaccmkhjmmlnaaDoorZ3
import Derived.Test.YtbaccmkhjmmlnaaDoorZ4
import Derived.Test.YtbaccmkhjmmlnaaDoorZ5
import Derived.Test.YtbaccmkhjmmlnaaDoorZ6
import Derived.Test.YtbaccmkhjmmlnaaDoorZ7
import Derived.Test.YtbaccmkhjmmlnaaDoorZ8
set_option linter.unnecessarySimpa false
set_option linter.unusedSimpArgs false
set_option linter.unusedVariables false
namespace Go.Proofs.YtbaccmkhjmmlnaaDoor
open Go.ChangeShapes Go.WideShapes Go.ChangeAt Go.RowKit
set_option maxRecDepth 100000
theorem ty5 {n : Nat} {x : List D} (h : TyD Tryd.prog (n + 1) 5 x) : ∃ a : UInt8, x = [.v (.int .u8 (a.toNat : Int))] ∧ True := by
  simp only [TyD, Tryd.underlying5] at h
  obtain ⟨z, rfl, h1, h2⟩ := h
  simp [IntKind.min, IntKind.max, IntKind.signed, IntKind.bits] at h1 h2
  refine ⟨UInt8.ofNat z.toNat, ?_, trivial⟩
  simp only [UInt8.toNat_ofNat']
  congr 3; omega
theorem ty27 {n : Nat} {x : List D} (h : TyD Tryd.prog (n + 2) 27 x) : ∃ a : (UInt8 × UInt8 × UInt8 × UInt8 × UInt8 × UInt8), x = [.v (.int .u8 (a.1.toNat : Int)), .v (.int .u8 (a.2.1.toNat : Int)), .v (.int .u8 (a.2.2.1.toNat : Int)), .v (.int .u8 (a.2.2.2.1.toNat : Int)), .v (.int .u8 (a.2.2.2.2.1.toNat : Int)), .v (.int .u8 (a.2.2.2.2.2.toNat : Int))] ∧ True := by
  rw [TyD] at h
  simp only [Tryd.underlying27] at h
  obtain ⟨parts, hl, rfl, hp⟩ := h
  have hl : parts.length = 6 := hl
  match parts, hl with
  | [p0, p1, p2, p3, p4, p5], _ =>
    obtain ⟨a0, rfl, g0⟩ := ty5 (hp p0 (by simp))
    obtain ⟨a1, rfl, g1⟩ := ty5 (hp p1 (by simp))
    obtain ⟨a2, rfl, g2⟩ := ty5 (hp p2 (by simp))
    obtain ⟨a3, rfl, g3⟩ := ty5 (hp p3 (by simp))
    obtain ⟨a4, rfl, g4⟩ := ty5 (hp p4 (by simp))
    obtain ⟨a5, rfl, g5⟩ := ty5 (hp p5 (by simp))
    exact ⟨(a0, a1, a2, a3, a4, a5), rfl, trivial⟩
theorem ty59 {n : Nat} {x : List D} (h : TyD Tryd.prog (n + 2) 59 x) : ∃ a : (UInt8 × UInt8 × UInt8 × UInt8), x = [.v (.int .u8 (a.1.toNat : Int)), .v (.int .u8 (a.2.1.toNat : Int)), .v (.int .u8 (a.2.2.1.toNat : Int)), .v (.int .u8 (a.2.2.2.toNat : Int))] ∧ True := by
  rw [TyD] at h
  simp only [Tryd.underlying59] at h
  obtain ⟨parts, hl, rfl, hp⟩ := h
  have hl : parts.length = 4 := hl
  match parts, hl with
  | [p0, p1, p2, p3], _ =>
    obtain ⟨a0, rfl, g0⟩ := ty5 (hp p0 (by simp))
    obtain ⟨a1, rfl, g1⟩ := ty5 (hp p1 (by simp))
    obtain ⟨a2, rfl, g2⟩ := ty5 (hp p2 (by simp))
    obtain ⟨a3, rfl, g3⟩ := ty5 (hp p3 (by simp))
    exact ⟨(a0, a1, a2, a3), rfl, trivial⟩
theorem ty66 {n : Nat} {x : List D} (h : TyD Tryd.prog (n + 3) 66 x) : ∃ a : PRaw, x = [.v (.int .u8 (a.c0.toNat : Int)), .v (.int .u8 (a.c1.toNat : Int)), .v (.int .u8 (a.c2.toNat : Int)), .v (.int .u8 (a.c3.toNat : Int)), .v (.int .u8 (a.c4.toNat : Int)), .v (.int .u8 (a.c5.toNat : Int)), .v (.int .u8 (a.k0.toNat : Int)), .v (.int .u8 (a.k1.toNat : Int)), .v (.int .u8 (a.k2.toNat : Int)), .v (.int .u8 (a.k3.toNat : Int)), .v (.int .u8 (a.k4.toNat : Int)), .v (.int .u8 (a.k5.toNat : Int)), .v (.int .u8 (a.h0.toNat : Int)), .v (.int .u8 (a.h1.toNat : Int)), .v (.int .u8 (a.h2.toNat : Int)), .v (.int .u8 (a.h3.toNat : Int)), .v (.int .u8 (a.rights.toNat : Int)), .v (.int .u8 (a.side.toNat : Int))] ∧ True := by
  rw [TyD] at h
  simp only [Tryd.underlying66] at h
  obtain ⟨parts, hl, rfl, hp⟩ := h
  have hl : parts.length = 5 := hl
  match parts, hl with
  | [p0, p1, p2, p3, p4], _ =>
    obtain ⟨a0, rfl, g0⟩ := ty27 (hp 0 _ p0 rfl rfl)
    obtain ⟨a1, rfl, g1⟩ := ty27 (hp 1 _ p1 rfl rfl)
    obtain ⟨a2, rfl, g2⟩ := ty59 (hp 2 _ p2 rfl rfl)
    obtain ⟨a3, rfl, g3⟩ := ty5 (hp 3 _ p3 rfl rfl)
    obtain ⟨a4, rfl, g4⟩ := ty5 (hp 4 _ p4 rfl rfl)
    exact ⟨⟨a0.1, a0.2.1, a0.2.2.1, a0.2.2.2.1, a0.2.2.2.2.1, a0.2.2.2.2.2, a1.1, a1.2.1, a1.2.2.1, a1.2.2.2.1, a1.2.2.2.2.1, a1.2.2.2.2.2, a2.1, a2.2.1, a2.2.2.1, a2.2.2.2, a3, a4⟩, rfl, trivial⟩
theorem ty22 {n : Nat} {x : List D} (h : TyD Tryd.prog (n + 4) 22 x) : ∃ a : List PRaw, x = [.list 18 (a.map PRaw.row) false] ∧ (a.length ≤ 9223372036854775807) := by
  rw [TyD] at h
  simp only [Tryd.underlying22] at h
  obtain ⟨xs, rfl, h1, h2⟩ := h
  obtain ⟨l, rfl, hl⟩ := qZ (f := fun a : PRaw => [.v (.int .u8 (a.c0.toNat : Int)), .v (.int .u8 (a.c1.toNat : Int)), .v (.int .u8 (a.c2.toNat : Int)), .v (.int .u8 (a.c3.toNat : Int)), .v (.int .u8 (a.c4.toNat : Int)), .v (.int .u8 (a.c5.toNat : Int)), .v (.int .u8 (a.k0.toNat : Int)), .v (.int .u8 (a.k1.toNat : Int)), .v (.int .u8 (a.k2.toNat : Int)), .v (.int .u8 (a.k3.toNat : Int)), .v (.int .u8 (a.k4.toNat : Int)), .v (.int .u8 (a.k5.toNat : Int)), .v (.int .u8 (a.h0.toNat : Int)), .v (.int .u8 (a.h1.toNat : Int)), .v (.int .u8 (a.h2.toNat : Int)), .v (.int .u8 (a.h3.toNat : Int)), .v (.int .u8 (a.rights.toNat : Int)), .v (.int .u8 (a.side.toNat : Int))]) (g := fun y => True) fun x hx => ty66 (h2 x hx)
  have hc : Tryd.prog.cellsOf 66 = 18 := by kernel_rfl
  exact ⟨l, by rw [hc] <;> rfl, by simpa using h1⟩
theorem ty23 {n : Nat} {x : List D} (h : TyD Tryd.prog (n + 5) 23 x) : ∃ a : (List PRaw × List PRaw), x = [.list 18 (a.1.map PRaw.row) false, .list 18 (a.2.map PRaw.row) false] ∧ ((a.1.length ≤ 9223372036854775807) ∧ (a.2.length ≤ 9223372036854775807)) := by
  rw [TyD] at h
  simp only [Tryd.underlying23] at h
  obtain ⟨parts, hl, rfl, hp⟩ := h
  have hl : parts.length = 2 := hl
  match parts, hl with
  | [p0, p1], _ =>
    obtain ⟨a0, rfl, g0⟩ := ty22 (hp p0 (by simp))
    obtain ⟨a1, rfl, g1⟩ := ty22 (hp p1 (by simp))
    exact ⟨(a0, a1), rfl, g0, g1⟩
theorem ty24 {n : Nat} {x : List D} (h : TyD Tryd.prog (n + 2) 24 x) : ∃ a : List UInt8, x = [.list 1 (a.map aH) false] ∧ (a.length ≤ 9223372036854775807) := by
  rw [TyD] at h
  simp only [Tryd.underlying24] at h
  obtain ⟨xs, rfl, h1, h2⟩ := h
  obtain ⟨l, rfl, hl⟩ := qZ (f := fun a : UInt8 => [.v (.int .u8 (a.toNat : Int))]) (g := fun y => True) fun x hx => ty5 (h2 x hx)
  have hc : Tryd.prog.cellsOf 5 = 1 := by kernel_rfl
  exact ⟨l, by rw [hc] <;> rfl, by simpa using h1⟩
theorem ty25 {n : Nat} {x : List D} (h : TyD Tryd.prog (n + 3) 25 x) : ∃ a : (List UInt8 × List UInt8), x = [.list 1 (a.1.map aH) false, .list 1 (a.2.map aH) false] ∧ ((a.1.length ≤ 9223372036854775807) ∧ (a.2.length ≤ 9223372036854775807)) := by
  rw [TyD] at h
  simp only [Tryd.underlying25] at h
  obtain ⟨parts, hl, rfl, hp⟩ := h
  have hl : parts.length = 2 := hl
  match parts, hl with
  | [p0, p1], _ =>
    obtain ⟨a0, rfl, g0⟩ := ty24 (hp p0 (by simp))
    obtain ⟨a1, rfl, g1⟩ := ty24 (hp p1 (by simp))
    exact ⟨(a0, a1), rfl, g0, g1⟩
theorem ty117 {n : Nat} {x : List D} (h : TyD Tryd.prog (n + 2) 117 x) : ∃ a : (UInt8 × UInt8 × UInt8), x = [.v (.int .u8 (a.1.toNat : Int)), .v (.int .u8 (a.2.1.toNat : Int)), .v (.int .u8 (a.2.2.toNat : Int))] ∧ True := by
  rw [TyD] at h
  simp only [Tryd.underlying117] at h
  obtain ⟨parts, hl, rfl, hp⟩ := h
  have hl : parts.length = 3 := hl
  match parts, hl with
  | [p0, p1, p2], _ =>
    obtain ⟨a0, rfl, g0⟩ := ty5 (hp p0 (by simp))
    obtain ⟨a1, rfl, g1⟩ := ty5 (hp p1 (by simp))
    obtain ⟨a2, rfl, g2⟩ := ty5 (hp p2 (by simp))
    exact ⟨(a0, a1, a2), rfl, trivial⟩
theorem ty26 {n : Nat} {x : List D} (h : TyD Tryd.prog (n + 3) 26 x) : ∃ a : List (UInt8 × UInt8 × UInt8), x = [.list 3 (a.map (fun x : (UInt8 × UInt8 × UInt8) => [.v (.int .u8 (x.1.toNat : Int)), .v (.int .u8 (x.2.1.toNat : Int)), .v (.int .u8 (x.2.2.toNat : Int))])) false] ∧ (a.length ≤ 9223372036854775807) := by
  rw [TyD] at h
  simp only [Tryd.underlying26] at h
  obtain ⟨xs, rfl, h1, h2⟩ := h
  obtain ⟨l, rfl, hl⟩ := qZ (f := fun a : (UInt8 × UInt8 × UInt8) => [.v (.int .u8 (a.1.toNat : Int)), .v (.int .u8 (a.2.1.toNat : Int)), .v (.int .u8 (a.2.2.toNat : Int))]) (g := fun y => True) fun x hx => ty117 (h2 x hx)
  have hc : Tryd.prog.cellsOf 117 = 3 := by kernel_rfl
  exact ⟨l, by rw [hc] <;> rfl, by simpa using h1⟩
theorem ty29 {n : Nat} {x : List D} (h : TyD Tryd.prog (n + 4) 29 x) : ∃ a : GRaw, x = [.v (.int .u8 (a.w.toNat : Int)), .v (.int .u8 (a.h.toNat : Int)), .v (.int .u8 (a.cut.toNat : Int)), .list 1 (a.k0.map aH) false, .list 1 (a.k1.map aH) false, .list 3 (a.c.map (fun x : (UInt8 × UInt8 × UInt8) => [.v (.int .u8 (x.1.toNat : Int)), .v (.int .u8 (x.2.1.toNat : Int)), .v (.int .u8 (x.2.2.toNat : Int))])) false, .v (.int .u8 (a.f0.toNat : Int)), .v (.int .u8 (a.f1.toNat : Int)), .v (.int .u8 (a.f2.toNat : Int)), .v (.int .u8 (a.f3.toNat : Int)), .v (.int .u8 (a.f4.toNat : Int)), .v (.int .u8 (a.f5.toNat : Int))] ∧ ((a.k0.length ≤ 9223372036854775807) ∧ (a.k1.length ≤ 9223372036854775807) ∧ (a.c.length ≤ 9223372036854775807)) := by
  rw [TyD] at h
  simp only [Tryd.underlying29] at h
  obtain ⟨parts, hl, rfl, hp⟩ := h
  have hl : parts.length = 6 := hl
  match parts, hl with
  | [p0, p1, p2, p3, p4, p5], _ =>
    obtain ⟨a0, rfl, g0⟩ := ty5 (hp 0 _ p0 rfl rfl)
    obtain ⟨a1, rfl, g1⟩ := ty5 (hp 1 _ p1 rfl rfl)
    obtain ⟨a2, rfl, g2⟩ := ty5 (hp 2 _ p2 rfl rfl)
    obtain ⟨a3, rfl, g3⟩ := ty25 (hp 3 _ p3 rfl rfl)
    obtain ⟨a4, rfl, g4⟩ := ty26 (hp 4 _ p4 rfl rfl)
    obtain ⟨a5, rfl, g5⟩ := ty27 (hp 5 _ p5 rfl rfl)
    exact ⟨⟨a0, a1, a2, a3.1, a3.2, a4, a5.1, a5.2.1, a5.2.2.1, a5.2.2.2.1, a5.2.2.2.2.1, a5.2.2.2.2.2⟩, rfl, g3.1, g3.2, g4⟩
theorem ty44 {n : Nat} {x : List D} (h : TyD Tryd.prog (n + 1) 44 x) : ∃ a : Int, x = [.v (.int .u16 a)] ∧ (0 ≤ a ∧ a ≤ 65535) := by
  simp only [TyD, Tryd.underlying44] at h
  obtain ⟨z, rfl, h1, h2⟩ := h
  simp [IntKind.min, IntKind.max, IntKind.signed, IntKind.bits] at h1 h2
  exact ⟨z, rfl, by first | omega | exact ⟨h1, h2⟩, by first | omega | exact h2⟩
theorem ty82 {n : Nat} {x : List D} (h : TyD Tryd.prog (n + 2) 82 x) : ∃ a : (Int × Int), x = [.v (.int .u16 a.1), .v (.int .u16 a.2)] ∧ ((0 ≤ a.1 ∧ a.1 ≤ 65535) ∧ (0 ≤ a.2 ∧ a.2 ≤ 65535)) := by
  rw [TyD] at h
  simp only [Tryd.underlying82] at h
  obtain ⟨parts, hl, rfl, hp⟩ := h
  have hl : parts.length = 2 := hl
  match parts, hl with
  | [p0, p1], _ =>
    obtain ⟨a0, rfl, g0⟩ := ty44 (hp p0 (by simp))
    obtain ⟨a1, rfl, g1⟩ := ty44 (hp p1 (by simp))
    exact ⟨(a0, a1), rfl, g0, g1⟩
theorem croots_args (ds : List D) (h : nd Tryd.prog 6 Tryd.f7.params.toList ds) : aj Tryd.prog HG 7 ds (.v (.bool true)) := by
  rw [Tryd.params7] at h
  obtain ⟨d0, _, rfl, h0, h⟩ := m6 h
  obtain ⟨d1, _, rfl, h1, h⟩ := m6 h
  obtain ⟨d2, _, rfl, h2, h⟩ := m6 h
  obtain rfl := wg h
  simp only [mt, Aa] at h0
  obtain ⟨x0, rfl, _, h0⟩ := h0
  obtain ⟨a0, rfl, g0⟩ := ty23 h0
  have c0 : Tryd.prog.cellsOf 23 = 2 := by kernel_rfl
  rw [c0]
  simp only [mt, sR] at h1
  obtain ⟨x1, rfl, _, h1⟩ := h1
  obtain ⟨a1, rfl, g1⟩ := ty29 h1
  have c1 : Tryd.prog.cellsOf 29 = 12 := by kernel_rfl
  rw [c1]
  simp only [mt, AP] at h2
  obtain ⟨x2, rfl, _, h2⟩ := h2
  obtain ⟨a2, rfl, g2⟩ := ty82 h2
  have c2 : Tryd.prog.cellsOf 82 = 2 := by kernel_rfl
  rw [c2]
  exact kF (xu a0 a1 a2 g2.1 g2.2)
set_option maxRecDepth 100000 in
theorem clientRoots_lifted (os : Os) (started : os.Started) (H : Type) (enc : TypeId × Value → H) :
    ReturnsInHanded {} Tryd.checked os 7 .any (fun w args => (Rows.clientRootsSpec.pre enc Tryd.prog Tryd.f7 [] false w args ∧ laidMetH Tryd.prog ml w) ∧ sizedMet enc Tryd.prog Tryd.f7 (OpenSpec.ofChange Rows.clientRootsSpec) false w args)
      (Rows.clientRootsSpec.post enc Tryd.prog Tryd.f7 false true false false) := by
  refine returnsInHanded_of_change_and (C := Tryd.checked) (X := fun w _ => laidMetH Tryd.prog ml w) (fun _ _ _ hh h => h.of_heap hh) own started (by kernel_rfl) Tryd.func7
    (ChangeSpec.witness_shaped (enc := enc) (C := Tryd.checked) (os := os) (X := fun w _ => laidMetH Tryd.prog ml w) false (World.laidAll Tryd.prog os ml) #[(Go.Value.agg #[Go.Value.slice none 0 0, Go.Value.slice none 0 0]), (Go.Value.agg #[Go.Value.int Go.IntKind.u8 0, Go.Value.int Go.IntKind.u8 0, Go.Value.int Go.IntKind.u8 0, Go.Value.slice none 0 0, Go.Value.slice none 0 0, Go.Value.slice none 0 0, Go.Value.int Go.IntKind.u8 0, Go.Value.int Go.IntKind.u8 0, Go.Value.int Go.IntKind.u8 0, Go.Value.int Go.IntKind.u8 0, Go.Value.int Go.IntKind.u8 0, Go.Value.int Go.IntKind.u8 0]), (Go.Value.agg #[Go.Value.int Go.IntKind.u16 0, Go.Value.int Go.IntKind.u16 0])] 8 (World.laidAll_os _ _ _) (World.shaped_of_ZipB (by kernel_rfl) (by kernel_rfl)) (by kernel_rfl) (by kernel_rfl) (by kernel_rfl)
      (rV os _)) ?_
  intro W base args ds gs before hval hW _ _ hL _
  exact xH (n := 6) rfl (fun ds h => by
    match ds, h with
    | [d0, d1, d2], _ => rfl) rfl (by kernel_rfl) (by kernel_rfl) croots_args W base args ds gs before hval hW hL
theorem clientRoots_holds : Rows.ClientRootsSaid :=
  OpenClaim.holds_of_wide 7 Tryd.f7 rfl rfl rfl rfl rfl rfl rfl ⟨rfl, rfl, rfl, rfl, rfl⟩ rfl rfl rfl rfl rfl (by kernel_rfl) Tryd.func7 (by kernel_rfl)
    (of_decide_eq_true (by kernel_rfl)) (by unfold Func.isWrapper; rw [if_neg (by decide +kernel)]; exact ⟨rfl, rfl⟩)
    (fun os started H enc _ => clientRoots_lifted os started H enc)
theorem clientRoots_card_holds : Rows.ClientRootsCardSaid :=
  Claim7.holds_tied_plain_at .later [] [.data, .data] true (true, "3e5299d63908c37e810f7cdc7eaea8897ce56edfdd2ff209cbe64cf292028d9c") false clientRoots_holds (fun _ h => by cases h) (by kernel_rfl) (fun _ h => by cases h) clientRoots_row_tie rfl ⟨rfl, rfl⟩ (by kernel_rfl) rfl
    (fun f fn hf hfn => by
      obtain rfl : f = 7 := Option.some.inj ((show Tryd.prog.funcNamed "skewer/skewerlaw34.ClientRoots" = some 7 by kernel_rfl).symm.trans hf) |>.symm
      obtain rfl : fn = Tryd.f7 := (Option.some.inj (Tryd.func7.symm.trans hfn)).symm
      exact ⟨by kernel_rfl, fun j t ht => by
        rw [Tryd.params7] at ht
        have hm : t ∈ [23, 29, 82] := by simpa using Array.mem_of_getElem? ht
        have hall : ([23, 29, 82].all fun u => !Tryd.prog.wantsStandIn u) = true := by kernel_rfl
        exact (show Tryd.prog.wantsStandIn t = false by simpa using List.all_eq_true.1 hall t hm)⟩)
    (by kernel_rfl)
#print axioms clientRoots_card_holds
end Go.Proofs.YtbaccmkhjmmlnaaDoor
