/-
  HashParts, for every input: the law returns true, and its arguments read as before; the two tables of the package hash are as the program's text lays them (tied), nothing else is assumed.
-/
import Derived.Test.YtmindblfbijaaaaDoorCards
import Derived.Test.YtmindblfbijaaaaDoorTie
import Derived.Test.YtmindblfbijaaaaDoorZ1
import Derived.Test.YtmindblfbijaaaaDoorZ2
import Derived.Test.YtmindblfbijaaaaDoorZ3
import Derived.Test.YtmindblfbijaaaaDoorZ4
set_option linter.unusedSimpArgs false
set_option linter.unusedVariables false
namespace Go.Proofs.YtmindblfbijaaaaDoor
open Go.ChangeShapes Go.WideShapes Go.ChangeAt Go.RowKit
theorem parts_args (ds : List D) (h : ArgsD Tryd.prog 6 Tryd.f6.params.toList ds) : CallsD Tryd.prog HG 6 ds (.v (.bool true)) := by
  rw [Tryd.params6] at h
  match ds, h with
  | [d], h =>
    obtain ⟨xs, rfl, hx⟩ := elems_typed h.1
    exact parts_D xs hx
set_option maxRecDepth 100000 in
theorem hashParts_lifted (os : Os) (started : os.Started) (H : Type) (enc : TypeId × Value → H) :
    ReturnsInHanded {} Tryd.checked os 6 .any (fun w args => (Rows.hashPartsSpec.pre enc Tryd.prog Tryd.f6 [] false w args ∧ laidMetH Tryd.prog laid2 w) ∧ sizedMet enc Tryd.prog Tryd.f6 (OpenSpec.ofChange Rows.hashPartsSpec) false w args)
      (Rows.hashPartsSpec.post enc Tryd.prog Tryd.f6 false true false false) := by
  refine returnsInHanded_of_change_and (C := Tryd.checked) (X := fun w _ => laidMetH Tryd.prog laid2 w) (fun _ _ _ hh h => h.of_heap hh) own started (by kernel_rfl) Tryd.func6
    (ChangeSpec.witness_shaped (enc := enc) (C := Tryd.checked) (os := os) (X := fun w _ => laidMetH Tryd.prog laid2 w) false (World.laidAll Tryd.prog os laid2) #[(Go.Value.slice none 0 0)] 8 (World.laidAll_os _ _ _) (World.shaped_of_ZipB (by kernel_rfl) (by kernel_rfl)) (by kernel_rfl) (by kernel_rfl) (by kernel_rfl)
      (laidWorld_met os _)) ?_
  intro W base args ds gs before hval hW _ _ hL _
  exact law_core (n := 6) rfl (fun ds h => by
    match ds, h with
    | [d0], _ => rfl) rfl (by kernel_rfl) (by kernel_rfl) parts_args W base args ds gs before hval hW hL
theorem hashParts_holds : Rows.HashPartsSaid :=
  OpenClaim.holds_of_wide 6 Tryd.f6 rfl rfl rfl rfl rfl rfl rfl ⟨rfl, rfl, rfl, rfl, rfl⟩ rfl rfl rfl rfl rfl (by kernel_rfl) Tryd.func6 (by kernel_rfl)
    (of_decide_eq_true (by kernel_rfl)) (by unfold Func.isWrapper; rw [if_neg (by decide +kernel)]; exact ⟨rfl, rfl⟩)
    (fun os started H enc _ => hashParts_lifted os started H enc)
theorem hashParts_card_holds : Rows.HashPartsCardSaid :=
  Claim7.holds_tied_plain_at .later [] [.data, .data] true (true, "1662110316f33394562037f0c68f514619b4259e58889673b486da50a8b24cfe") false hashParts_holds (fun _ h => by cases h) (by kernel_rfl) (fun _ h => by cases h) hashParts_row_tie rfl ⟨rfl, rfl⟩ (by kernel_rfl) rfl
    (fun f fn hf hfn => by
      obtain rfl : f = 6 := Option.some.inj ((show Tryd.prog.funcNamed "skewer/skewerlaw16.HashParts" = some 6 by kernel_rfl).symm.trans hf) |>.symm
      obtain rfl : fn = Tryd.f6 := (Option.some.inj (Tryd.func6.symm.trans hfn)).symm
      exact ⟨by kernel_rfl, fun j t ht => by
        rw [Tryd.params6] at ht
        have hm : t ∈ [23] := by simpa using Array.mem_of_getElem? ht
        have hall : ([23].all fun u => !Tryd.prog.wantsStandIn u) = true := by kernel_rfl
        exact (show Tryd.prog.wantsStandIn t = false by simpa using List.all_eq_true.1 hall t hm)⟩)
    (by kernel_rfl)
#print axioms hashParts_card_holds
end Go.Proofs.YtmindblfbijaaaaDoor
