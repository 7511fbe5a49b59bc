/-
  StoreAgain, for every input: the law returns true, and its arguments read as0 before; the two tables of the package hash are as0 the program's text lays them (tied), nothing else is assumed.
-/
import Derived.Test.YtaclinnjekdgoaaDoorCards
import Derived.Test.YtaclinnjekdgoaaDoorTie
import Derived.Test.YtaclinnjekdgoaaDoorZ1
import Derived.Test.YtaclinnjekdgoaaDoorZ2
import Derived.Test.YtaclinnjekdgoaaDoorZ3
import Derived.Test.YtaclinnjekdgoaaDoorZ4
import Derived.Test.YtaclinnjekdgoaaDoorZ5
import Derived.Test.YtaclinnjekdgoaaDoorZ6
import Derived.Test.YtaclinnjekdgoaaDoorZ7
import Derived.Test.YtaclinnjekdgoaaDoorZ8
set_option linter.unnecessarySimpa false
set_option linter.unusedSimpArgs false
set_option linter.unusedVariables false
namespace Go.Proofs.YtaclinnjekdgoaaDoor
open Go.ChangeShapes Go.WideShapes Go.ChangeAt Go.RowKit
set_option maxRecDepth 100000
theorem ty5 {n : Nat} {x : List D} (h : TyD Tryd.prog (n + 1) 5 x) : ∃ a : UInt8, x = [.v (.int .u8 (a.toNat : Int))] ∧ True := by
  simp only [TyD, Tryd.underlying5] at h
  obtain ⟨z, rfl, h1, h2⟩ := h
  simp [IntKind.min, IntKind.max, IntKind.signed, IntKind.bits] at h1 h2
  refine ⟨UInt8.ofNat z.toNat, ?_, trivial⟩
  simp only [UInt8.toNat_ofNat']
  congr 3; omega
theorem ty30 {n : Nat} {x : List D} (h : TyD Tryd.prog (n + 2) 30 x) : ∃ a : List UInt8, x = [.list 1 (a.map ai) false] ∧ (a.length ≤ 9223372036854775807) := by
  rw [TyD] at h
  simp only [Tryd.underlying30] at h
  obtain ⟨xs, rfl, h1, h2⟩ := h
  obtain ⟨l, rfl, hl⟩ := wP (f := fun a : UInt8 => [.v (.int .u8 (a.toNat : Int))]) (g := fun y => True) fun x hx => ty5 (h2 x hx)
  have hc : Tryd.prog.cellsOf 5 = 1 := by kernel_rfl
  exact ⟨l, by rw [hc] <;> rfl, by simpa using h1⟩
theorem ty4 {n : Nat} {x : List D} (h : TyD Tryd.prog (n + 1) 4 x) : ∃ a : Bool, x = [.v (.bool a)] ∧ True := by
  simp only [TyD, Tryd.underlying4] at h
  obtain ⟨b, rfl⟩ := h
  exact ⟨b, rfl, trivial⟩
theorem ty31 {n : Nat} {x : List D} (h : TyD Tryd.prog (n + 2) 31 x) : ∃ a : List Bool, x = [.list 1 (a.map oK) false] ∧ (a.length ≤ 9223372036854775807) := by
  rw [TyD] at h
  simp only [Tryd.underlying31] at h
  obtain ⟨xs, rfl, h1, h2⟩ := h
  obtain ⟨l, rfl, hl⟩ := wP (f := fun a : Bool => [.v (.bool a)]) (g := fun y => True) fun x hx => ty4 (h2 x hx)
  have hc : Tryd.prog.cellsOf 4 = 1 := by kernel_rfl
  exact ⟨l, by rw [hc] <;> rfl, by simpa using h1⟩
theorem ty33 {n : Nat} {x : List D} (h : TyD Tryd.prog (n + 3) 33 x) : ∃ a : SRaw, x = [.v (.int .u8 (a.kind.toNat : Int)), .list 1 (a.data.map ai) false, .list 1 (a.keep.map oK) false] ∧ ((a.data.length ≤ 9223372036854775807) ∧ (a.keep.length ≤ 9223372036854775807)) := by
  rw [TyD] at h
  simp only [Tryd.underlying33] at h
  obtain ⟨parts, hl, rfl, hp⟩ := h
  have hl : parts.length = 3 := hl
  match parts, hl with
  | [p0, p1, p2], _ =>
    obtain ⟨a0, rfl, g0⟩ := ty5 (hp 0 _ p0 rfl rfl)
    obtain ⟨a1, rfl, g1⟩ := ty30 (hp 1 _ p1 rfl rfl)
    obtain ⟨a2, rfl, g2⟩ := ty31 (hp 2 _ p2 rfl rfl)
    exact ⟨⟨a0, a1, a2⟩, rfl, g1, g2⟩
theorem ty22 {n : Nat} {x : List D} (h : TyD Tryd.prog (n + 4) 22 x) : ∃ a : List SRaw, x = [.list 3 (a.map SRaw.row) false] ∧ (a.length ≤ 9223372036854775807 ∧ ∀ y0 ∈ a, ((y0.data.length ≤ 9223372036854775807) ∧ (y0.keep.length ≤ 9223372036854775807))) := by
  rw [TyD] at h
  simp only [Tryd.underlying22] at h
  obtain ⟨xs, rfl, h1, h2⟩ := h
  obtain ⟨l, rfl, hl⟩ := wP (f := fun a : SRaw => [.v (.int .u8 (a.kind.toNat : Int)), .list 1 (a.data.map ai) false, .list 1 (a.keep.map oK) false]) (g := fun y => ((y.data.length ≤ 9223372036854775807) ∧ (y.keep.length ≤ 9223372036854775807))) fun x hx => ty33 (h2 x hx)
  have hc : Tryd.prog.cellsOf 33 = 3 := by kernel_rfl
  exact ⟨l, by rw [hc] <;> rfl, by simpa using h1, hl⟩
theorem saga_args (ds : List D) (h : pQ Tryd.prog 6 Tryd.f8.params.toList ds) : aj Tryd.prog HG 8 ds (.v (.bool true)) := by
  rw [Tryd.params8] at h
  obtain ⟨d0, _, rfl, h0, h⟩ := uK h
  obtain ⟨d1, _, rfl, h1, h⟩ := uK h
  obtain rfl := Ew h
  simp only [pP, Kn] at h0
  obtain ⟨a0, e0, g0⟩ := ty22 h0
  obtain ⟨rfl, _⟩ := List.cons.inj e0
  simp only [pP, zk] at h1
  obtain ⟨a1, e1, g1⟩ := ty30 h1
  obtain ⟨rfl, _⟩ := List.cons.inj e1
  exact mD (Es a0 a1)
set_option maxRecDepth 100000 in
theorem storeAgain_lifted (os : Os) (started : os.Started) (H : Type) (enc : TypeId × Value → H) :
    ReturnsInHanded {} Tryd.checked os 8 .any (fun w args => (Rows.storeAgainSpec.pre enc Tryd.prog Tryd.f8 [] false w args ∧ laidMetH Tryd.prog ox w) ∧ sizedMet enc Tryd.prog Tryd.f8 (OpenSpec.ofChange Rows.storeAgainSpec) false w args)
      (Rows.storeAgainSpec.post enc Tryd.prog Tryd.f8 false true false false) := by
  refine returnsInHanded_of_change_and (C := Tryd.checked) (X := fun w _ => laidMetH Tryd.prog ox w) (fun _ _ _ hh h => h.of_heap hh) own started (by kernel_rfl) Tryd.func8
    (ChangeSpec.witness_shaped (enc := enc) (C := Tryd.checked) (os := os) (X := fun w _ => laidMetH Tryd.prog ox w) false (World.laidAll Tryd.prog os ox) #[(Go.Value.slice none 0 0), (Go.Value.slice none 0 0)] 8 (World.laidAll_os _ _ _) (World.shaped_of_ZipB (by kernel_rfl) (by kernel_rfl)) (by kernel_rfl) (by kernel_rfl) (by kernel_rfl)
      (yH os _)) ?_
  intro W base args ds gs before hval hW _ _ hL _
  exact GY (n := 6) rfl (fun ds h => by
    match ds, h with
    | [d0, d1], _ => rfl) rfl (by kernel_rfl) (by kernel_rfl) saga_args W base args ds gs before hval hW hL
theorem storeAgain_holds : Rows.StoreAgainSaid :=
  OpenClaim.holds_of_wide 8 Tryd.f8 rfl rfl rfl rfl rfl rfl rfl ⟨rfl, rfl, rfl, rfl, rfl⟩ rfl rfl rfl rfl rfl (by kernel_rfl) Tryd.func8 (by kernel_rfl)
    (of_decide_eq_true (by kernel_rfl)) (by unfold Func.isWrapper; rw [if_neg (by decide +kernel)]; exact ⟨rfl, rfl⟩)
    (fun os started H enc _ => storeAgain_lifted os started H enc)
theorem storeAgain_card_holds : Rows.StoreAgainCardSaid :=
  Claim7.holds_tied_plain_at .later [] [.data, .data] true (true, "c708b27b1eb6382a52e25c3d919ea928df5e5c27ffd17dfc6f7f09d7ffd6087b") true storeAgain_holds (fun _ h => by cases h) (by kernel_rfl) (fun _ h => by cases h) storeAgain_row_tie rfl ⟨rfl, rfl⟩ (by kernel_rfl) rfl
    (fun f fn hf hfn => by
      obtain rfl : f = 8 := Option.some.inj ((show Tryd.prog.funcNamed "skewer/skewerlaw33.StoreAgain" = some 8 by kernel_rfl).symm.trans hf) |>.symm
      obtain rfl : fn = Tryd.f8 := (Option.some.inj (Tryd.func8.symm.trans hfn)).symm
      exact ⟨by kernel_rfl, fun j t ht => by
        rw [Tryd.params8] at ht
        have hm : t ∈ [22, 30] := by simpa using Array.mem_of_getElem? ht
        have hall : ([22, 30].all fun u => !Tryd.prog.wantsStandIn u) = true := by kernel_rfl
        exact (show Tryd.prog.wantsStandIn t = false by simpa using List.all_eq_true.1 hall t hm)⟩)
    (by kernel_rfl)
#print axioms storeAgain_card_holds
end Go.Proofs.YtaclinnjekdgoaaDoor
