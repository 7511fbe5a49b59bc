/-
  HashMatchesReference, for every input: the law returns true, and its arguments read as before; the two tables of the package hash are as the program's text lays them (tied), nothing else is assumed.
-/
import Derived.Test.YtmindblfbijaaaaDoorCards
import Derived.Test.YtmindblfbijaaaaDoorTie
import Derived.Test.YtmindblfbijaaaaDoorZ1
import Derived.Test.YtmindblfbijaaaaDoorZ2
import Derived.Test.YtmindblfbijaaaaDoorZ3
import Derived.Test.YtmindblfbijaaaaDoorZ4
import Derived.Test.YtmindblfbijaaaaDoorZ5
import Derived.Test.YtmindblfbijaaaaDoorZ6
set_option linter.unnecessarySimpa false
set_option linter.unusedSimpArgs false
set_option linter.unusedVariables false
namespace Go.Proofs.YtmindblfbijaaaaDoor
open Go.ChangeShapes Go.WideShapes Go.ChangeAt Go.RowKit
theorem four_typed {n : Nat} {d : D} (h : ArgD Tryd.prog (n + 2) 24 d) : ∃ w0 w1 w2 w3 : UInt8, d = four w0 w1 w2 w3 := by
  simp only [ArgD, ag24] at h
  obtain ⟨ds, rfl, _, h⟩ := h
  rw [TyD] at h
  simp only [Tryd.underlying24] at h
  obtain ⟨parts, hl, rfl, hp⟩ := h
  match parts, hl with
  | [a, b, c, d], _ =>
    obtain ⟨w0, rfl⟩ := byte_typed (hp a (by simp))
    obtain ⟨w1, rfl⟩ := byte_typed (hp b (by simp))
    obtain ⟨w2, rfl⟩ := byte_typed (hp c (by simp))
    obtain ⟨w3, rfl⟩ := byte_typed (hp d (by simp))
    have hc : Tryd.prog.cellsOf 24 = 4 := by kernel_rfl
    exact ⟨w0, w1, w2, w3, by rw [hc]; rfl⟩
theorem match_args (ds : List D) (h : ArgsD Tryd.prog 6 Tryd.f3.params.toList ds) : CallsD Tryd.prog HG 3 ds (.v (.bool true)) := by
  rw [Tryd.params3] at h
  obtain ⟨d, _, rfl, h1, h⟩ := argsD_cons h
  obtain ⟨e, _, rfl, h2, h⟩ := argsD_cons h
  obtain ⟨f, _, rfl, h3, h⟩ := argsD_cons h
  obtain rfl := argsD_nil h
  obtain ⟨b, rfl, hb⟩ := byteSlice_typed h1
  obtain ⟨xs, rfl, hx⟩ := elems_typed h2
  obtain ⟨w0, w1, w2, w3, rfl⟩ := four_typed h3
  exact match_D b xs w0 w1 w2 w3 hb hx
set_option maxRecDepth 100000 in
theorem hashMatchesReference_lifted (os : Os) (started : os.Started) (H : Type) (enc : TypeId × Value → H) :
    ReturnsInHanded {} Tryd.checked os 3 .any (fun w args => (Rows.hashMatchesReferenceSpec.pre enc Tryd.prog Tryd.f3 [] false w args ∧ laidMetH Tryd.prog laid2 w) ∧ sizedMet enc Tryd.prog Tryd.f3 (OpenSpec.ofChange Rows.hashMatchesReferenceSpec) false w args)
      (Rows.hashMatchesReferenceSpec.post enc Tryd.prog Tryd.f3 false true false false) := by
  refine returnsInHanded_of_change_and (C := Tryd.checked) (X := fun w _ => laidMetH Tryd.prog laid2 w) (fun _ _ _ hh h => h.of_heap hh) own started (by kernel_rfl) Tryd.func3
    (ChangeSpec.witness_shaped (enc := enc) (C := Tryd.checked) (os := os) (X := fun w _ => laidMetH Tryd.prog laid2 w) false (World.laidAll Tryd.prog os laid2) #[(Go.Value.slice none 0 0), (Go.Value.slice none 0 0), (Go.Value.agg #[Go.Value.int Go.IntKind.u8 0, Go.Value.int Go.IntKind.u8 0, Go.Value.int Go.IntKind.u8 0, Go.Value.int Go.IntKind.u8 0])] 8 (World.laidAll_os _ _ _) (World.shaped_of_ZipB (by kernel_rfl) (by kernel_rfl)) (by kernel_rfl) (by kernel_rfl) (by kernel_rfl)
      (laidWorld_met os _)) ?_
  intro W base args ds gs before hval hW _ _ hL _
  exact law_core (n := 6) rfl (fun ds h => by
    match ds, h with
    | [d0, d1, d2], _ => rfl) rfl (by kernel_rfl) (by kernel_rfl) match_args W base args ds gs before hval hW hL
theorem hashMatchesReference_holds : Rows.HashMatchesReferenceSaid :=
  OpenClaim.holds_of_wide 3 Tryd.f3 rfl rfl rfl rfl rfl rfl rfl ⟨rfl, rfl, rfl, rfl, rfl⟩ rfl rfl rfl rfl rfl (by kernel_rfl) Tryd.func3 (by kernel_rfl)
    (of_decide_eq_true (by kernel_rfl)) (by unfold Func.isWrapper; rw [if_neg (by decide +kernel)]; exact ⟨rfl, rfl⟩)
    (fun os started H enc _ => hashMatchesReference_lifted os started H enc)
theorem hashMatchesReference_card_holds : Rows.HashMatchesReferenceCardSaid :=
  Claim7.holds_tied_plain_at .later [] [.data, .data] true (true, "1662110316f33394562037f0c68f514619b4259e58889673b486da50a8b24cfe") false hashMatchesReference_holds (fun _ h => by cases h) (by kernel_rfl) (fun _ h => by cases h) hashMatchesReference_row_tie rfl ⟨rfl, rfl⟩ (by kernel_rfl) rfl
    (fun f fn hf hfn => by
      obtain rfl : f = 3 := Option.some.inj ((show Tryd.prog.funcNamed "skewer/skewerlaw16.HashMatchesReference" = some 3 by kernel_rfl).symm.trans hf) |>.symm
      obtain rfl : fn = Tryd.f3 := (Option.some.inj (Tryd.func3.symm.trans hfn)).symm
      exact ⟨by kernel_rfl, fun j t ht => by
        rw [Tryd.params3] at ht
        have hm : t ∈ [22, 23, 24] := by simpa using Array.mem_of_getElem? ht
        have hall : ([22, 23, 24].all fun u => !Tryd.prog.wantsStandIn u) = true := by kernel_rfl
        exact (show Tryd.prog.wantsStandIn t = false by simpa using List.all_eq_true.1 hall t hm)⟩)
    (by kernel_rfl)
#print axioms hashMatchesReference_card_holds
end Go.Proofs.YtmindblfbijaaaaDoor
