/-
  WorkerHonest, for every input: the law returns true, and its arguments read as before; the two tables of the package hash are as the program's text lays them (tied), nothing else is assumed.
-/
import Derived.Test.YtagfaaijgfigkaaDoorCards
import Derived.Test.YtagfaaijgfigkaaDoorTie
import Derived.Test.YtagfaaijgfigkaaDoorZ1
import Derived.Test.YtagfaaijgfigkaaDoorZ2
import Derived.Test.YtagfaaijgfigkaaDoorZ3
import Derived.Test.YtagfaaijgfigkaaDoorZ4
import Derived.Test.YtagfaaijgfigkaaDoorZ5
import Derived.Test.YtagfaaijgfigkaaDoorZ6
set_option linter.unnecessarySimpa false
set_option linter.unusedSimpArgs false
set_option linter.unusedVariables false
namespace Go.Proofs.YtagfaaijgfigkaaDoor
open Go.ChangeShapes Go.WideShapes Go.ChangeAt Go.RowKit
set_option maxRecDepth 100000
theorem whonest_args (ds : List D) (h : ArgsD Tryd.prog 6 Tryd.f5.params.toList ds) : CallsD Tryd.prog HG 5 ds (.v (.bool true)) := by
  rw [Tryd.params5] at h
  obtain ⟨d, _, rfl, h1, h⟩ := argsD_cons h
  obtain ⟨e, _, rfl, h2, h⟩ := argsD_cons h
  obtain ⟨f, _, rfl, h3, h⟩ := argsD_cons h
  obtain rfl := argsD_nil h
  obtain ⟨l, rfl, hl⟩ := u2s_arg h1
  obtain ⟨a, rfl⟩ := u8_arg h2
  obtain ⟨t, rfl, ht⟩ := i8_arg h3
  exact workerHonest_D l a t hl ht
set_option maxRecDepth 100000 in
theorem workerHonest_lifted (os : Os) (started : os.Started) (H : Type) (enc : TypeId × Value → H) :
    ReturnsInHanded {} Tryd.checked os 5 .any (fun w args => (Rows.workerHonestSpec.pre enc Tryd.prog Tryd.f5 [] false w args ∧ laidMetH Tryd.prog laid2 w) ∧ sizedMet enc Tryd.prog Tryd.f5 (OpenSpec.ofChange Rows.workerHonestSpec) false w args)
      (Rows.workerHonestSpec.post enc Tryd.prog Tryd.f5 false true false false) := by
  refine returnsInHanded_of_change_and (C := Tryd.checked) (X := fun w _ => laidMetH Tryd.prog laid2 w) (fun _ _ _ hh h => h.of_heap hh) own started (by kernel_rfl) Tryd.func5
    (ChangeSpec.witness_shaped (enc := enc) (C := Tryd.checked) (os := os) (X := fun w _ => laidMetH Tryd.prog laid2 w) false (World.laidAll Tryd.prog os laid2) #[(Go.Value.slice none 0 0), (Go.Value.int Go.IntKind.u8 0), (Go.Value.int Go.IntKind.i8 0)] 8 (World.laidAll_os _ _ _) (World.shaped_of_ZipB (by kernel_rfl) (by kernel_rfl)) (by kernel_rfl) (by kernel_rfl) (by kernel_rfl)
      (laidWorld_met os _)) ?_
  intro W base args ds gs before hval hW _ _ hL _
  exact law_core (n := 6) rfl (fun ds h => by
    match ds, h with
    | [d0, d1, d2], _ => rfl) rfl (by kernel_rfl) (by kernel_rfl) whonest_args W base args ds gs before hval hW hL
theorem workerHonest_holds : Rows.WorkerHonestSaid :=
  OpenClaim.holds_of_wide 5 Tryd.f5 rfl rfl rfl rfl rfl rfl rfl ⟨rfl, rfl, rfl, rfl, rfl⟩ rfl rfl rfl rfl rfl (by kernel_rfl) Tryd.func5 (by kernel_rfl)
    (of_decide_eq_true (by kernel_rfl)) (by unfold Func.isWrapper; rw [if_neg (by decide +kernel)]; exact ⟨rfl, rfl⟩)
    (fun os started H enc _ => workerHonest_lifted os started H enc)
theorem workerHonest_card_holds : Rows.WorkerHonestCardSaid :=
  Claim7.holds_tied_plain_at .later [] [.data, .data] true (true, "dcd803ba5fb1d7cc31c8f1283848ca091cd31ea6076c00275404fdd1aad58b2c") false workerHonest_holds (fun _ h => by cases h) (by kernel_rfl) (fun _ h => by cases h) workerHonest_row_tie rfl ⟨rfl, rfl⟩ (by kernel_rfl) rfl
    (fun f fn hf hfn => by
      obtain rfl : f = 5 := Option.some.inj ((show Tryd.prog.funcNamed "skewer/skewerlaw17.WorkerHonest" = some 5 by kernel_rfl).symm.trans hf) |>.symm
      obtain rfl : fn = Tryd.f5 := (Option.some.inj (Tryd.func5.symm.trans hfn)).symm
      exact ⟨by kernel_rfl, fun j t ht => by
        rw [Tryd.params5] at ht
        have hm : t ∈ [22, 5, 24] := by simpa using Array.mem_of_getElem? ht
        have hall : ([22, 5, 24].all fun u => !Tryd.prog.wantsStandIn u) = true := by kernel_rfl
        exact (show Tryd.prog.wantsStandIn t = false by simpa using List.all_eq_true.1 hall t hm)⟩)
    (by kernel_rfl)
#print axioms workerHonest_card_holds
end Go.Proofs.YtagfaaijgfigkaaDoor
