/-
  HashNeighbors, for every input: the law returns true, and its arguments read as before; the two tables of the package hash are as the program's text lays them (tied), nothing else is assumed.
-/
import Derived.Test.YtmindblfbijaaaaDoorCards
import Derived.Test.YtmindblfbijaaaaDoorTie
import Derived.Test.YtmindblfbijaaaaDoorZ1
import Derived.Test.YtmindblfbijaaaaDoorZ2
import Derived.Test.YtmindblfbijaaaaDoorZ3
import Derived.Test.YtmindblfbijaaaaDoorZ4
set_option linter.unusedSimpArgs false
set_option linter.unusedVariables false
namespace Go.Proofs.YtmindblfbijaaaaDoor
open Go.ChangeShapes Go.WideShapes Go.ChangeAt Go.RowKit
theorem neigh_args (ds : List D) (h : ArgsD Tryd.prog 6 Tryd.f8.params.toList ds) : CallsD Tryd.prog HG 8 ds (.v (.bool true)) := by
  rw [Tryd.params8] at h
  match ds, h with
  | [d], h =>
    obtain ⟨xs, rfl, hx⟩ := elems_typed h.1
    exact neigh_D xs hx
set_option maxRecDepth 100000 in
theorem hashNeighbors_lifted (os : Os) (started : os.Started) (H : Type) (enc : TypeId × Value → H) :
    ReturnsInHanded {} Tryd.checked os 8 .any (fun w args => (Rows.hashNeighborsSpec.pre enc Tryd.prog Tryd.f8 [] false w args ∧ laidMetH Tryd.prog laid2 w) ∧ sizedMet enc Tryd.prog Tryd.f8 (OpenSpec.ofChange Rows.hashNeighborsSpec) false w args)
      (Rows.hashNeighborsSpec.post enc Tryd.prog Tryd.f8 false true false false) := by
  refine returnsInHanded_of_change_and (C := Tryd.checked) (X := fun w _ => laidMetH Tryd.prog laid2 w) (fun _ _ _ hh h => h.of_heap hh) own started (by kernel_rfl) Tryd.func8
    (ChangeSpec.witness_shaped (enc := enc) (C := Tryd.checked) (os := os) (X := fun w _ => laidMetH Tryd.prog laid2 w) false (World.laidAll Tryd.prog os laid2) #[(Go.Value.slice none 0 0)] 8 (World.laidAll_os _ _ _) (World.shaped_of_ZipB (by kernel_rfl) (by kernel_rfl)) (by kernel_rfl) (by kernel_rfl) (by kernel_rfl)
      (laidWorld_met os _)) ?_
  intro W base args ds gs before hval hW _ _ hL _
  exact law_core (n := 6) rfl (fun ds h => by
    match ds, h with
    | [d0], _ => rfl) rfl (by kernel_rfl) (by kernel_rfl) neigh_args W base args ds gs before hval hW hL
theorem hashNeighbors_holds : Rows.HashNeighborsSaid :=
  OpenClaim.holds_of_wide 8 Tryd.f8 rfl rfl rfl rfl rfl rfl rfl ⟨rfl, rfl, rfl, rfl, rfl⟩ rfl rfl rfl rfl rfl (by kernel_rfl) Tryd.func8 (by kernel_rfl)
    (of_decide_eq_true (by kernel_rfl)) (by unfold Func.isWrapper; rw [if_neg (by decide +kernel)]; exact ⟨rfl, rfl⟩)
    (fun os started H enc _ => hashNeighbors_lifted os started H enc)
theorem hashNeighbors_card_holds : Rows.HashNeighborsCardSaid :=
  Claim7.holds_tied_plain_at .later [] [.data, .data] true (true, "1662110316f33394562037f0c68f514619b4259e58889673b486da50a8b24cfe") false hashNeighbors_holds (fun _ h => by cases h) (by kernel_rfl) (fun _ h => by cases h) hashNeighbors_row_tie rfl ⟨rfl, rfl⟩ (by kernel_rfl) rfl
    (fun f fn hf hfn => by
      obtain rfl : f = 8 := Option.some.inj ((show Tryd.prog.funcNamed "skewer/skewerlaw16.HashNeighbors" = some 8 by kernel_rfl).symm.trans hf) |>.symm
      obtain rfl : fn = Tryd.f8 := (Option.some.inj (Tryd.func8.symm.trans hfn)).symm
      exact ⟨by kernel_rfl, fun j t ht => by
        rw [Tryd.params8] at ht
        have hm : t ∈ [23] := by simpa using Array.mem_of_getElem? ht
        have hall : ([23].all fun u => !Tryd.prog.wantsStandIn u) = true := by kernel_rfl
        exact (show Tryd.prog.wantsStandIn t = false by simpa using List.all_eq_true.1 hall t hm)⟩)
    (by kernel_rfl)
#print axioms hashNeighbors_card_holds
end Go.Proofs.YtmindblfbijaaaaDoor
