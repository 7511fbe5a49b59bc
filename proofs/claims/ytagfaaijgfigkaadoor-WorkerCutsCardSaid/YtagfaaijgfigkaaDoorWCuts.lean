/-
  WorkerCuts, for every input: the law returns true, and its arguments read as before; the two tables of the package hash are as the program's text lays them (tied), nothing else is assumed.
-/
import Derived.Test.YtagfaaijgfigkaaDoorCards
import Derived.Test.YtagfaaijgfigkaaDoorTie
import Derived.Test.YtagfaaijgfigkaaDoorZ1
import Derived.Test.YtagfaaijgfigkaaDoorZ2
import Derived.Test.YtagfaaijgfigkaaDoorZ3
import Derived.Test.YtagfaaijgfigkaaDoorZ4
import Derived.Test.YtagfaaijgfigkaaDoorZ5
import Derived.Test.YtagfaaijgfigkaaDoorZ6
set_option linter.unnecessarySimpa false
set_option linter.unusedSimpArgs false
set_option linter.unusedVariables false
namespace Go.Proofs.YtagfaaijgfigkaaDoor
open Go.ChangeShapes Go.WideShapes Go.ChangeAt Go.RowKit
set_option maxRecDepth 100000
theorem int16_typed {n : Nat} {d : D} (h : ArgD Tryd.prog (n + 1) 55 d) : ∃ z : Int, d = .v (.int .i16 z) ∧ -32768 ≤ z ∧ z ≤ 32767 := by
  simp only [ArgD, ag55, TyD, Tryd.underlying55] at h
  obtain ⟨z, h1, h2, h3⟩ := h
  simp [IntKind.min, IntKind.max, IntKind.signed, IntKind.bits] at h2 h3
  exact ⟨z, by simpa using h1, h2, h3⟩
theorem int64_typed {n : Nat} {d : D} (h : ArgD Tryd.prog (n + 1) 3 d) : ∃ z : Int, d = .v (.int .i64 z) ∧ -9223372036854775808 ≤ z ∧ z ≤ 9223372036854775807 := by
  simp only [ArgD, ag3, TyD, Tryd.underlying3] at h
  obtain ⟨z, h1, h2, h3⟩ := h
  simp [IntKind.min, IntKind.max, IntKind.signed, IntKind.bits] at h2 h3
  exact ⟨z, by simpa using h1, h2, h3⟩
theorem wcuts_args (ds : List D) (h : ArgsD Tryd.prog 6 Tryd.f4.params.toList ds) : CallsD Tryd.prog HG 4 ds (.v (.bool true)) := by
  rw [Tryd.params4] at h
  obtain ⟨d, _, rfl, h1, h⟩ := argsD_cons h
  obtain ⟨e, _, rfl, h2, h⟩ := argsD_cons h
  obtain rfl := argsD_nil h
  obtain ⟨n, rfl, hn1, hn2⟩ := int16_typed h1
  obtain ⟨k, rfl, _, _⟩ := int64_typed h2
  exact workerCuts_D n k ⟨hn1, hn2⟩
set_option maxRecDepth 100000 in
theorem workerCuts_lifted (os : Os) (started : os.Started) (H : Type) (enc : TypeId × Value → H) :
    ReturnsInHanded {} Tryd.checked os 4 .any (fun w args => (Rows.workerCutsSpec.pre enc Tryd.prog Tryd.f4 [] false w args ∧ laidMetH Tryd.prog laid2 w) ∧ sizedMet enc Tryd.prog Tryd.f4 (OpenSpec.ofChange Rows.workerCutsSpec) false w args)
      (Rows.workerCutsSpec.post enc Tryd.prog Tryd.f4 false true false false) := by
  refine returnsInHanded_of_change_and (C := Tryd.checked) (X := fun w _ => laidMetH Tryd.prog laid2 w) (fun _ _ _ hh h => h.of_heap hh) own started (by kernel_rfl) Tryd.func4
    (ChangeSpec.witness_shaped (enc := enc) (C := Tryd.checked) (os := os) (X := fun w _ => laidMetH Tryd.prog laid2 w) false (World.laidAll Tryd.prog os laid2) #[(Go.Value.int Go.IntKind.i16 0), (Go.Value.int Go.IntKind.i64 0)] 8 (World.laidAll_os _ _ _) (World.shaped_of_ZipB (by kernel_rfl) (by kernel_rfl)) (by kernel_rfl) (by kernel_rfl) (by kernel_rfl)
      (laidWorld_met os _)) ?_
  intro W base args ds gs before hval hW _ _ hL _
  exact law_core (n := 6) rfl (fun ds h => by
    match ds, h with
    | [d0, d1], _ => rfl) rfl (by kernel_rfl) (by kernel_rfl) wcuts_args W base args ds gs before hval hW hL
theorem workerCuts_holds : Rows.WorkerCutsSaid :=
  OpenClaim.holds_of_wide 4 Tryd.f4 rfl rfl rfl rfl rfl rfl rfl ⟨rfl, rfl, rfl, rfl, rfl⟩ rfl rfl rfl rfl rfl (by kernel_rfl) Tryd.func4 (by kernel_rfl)
    (of_decide_eq_true (by kernel_rfl)) (by unfold Func.isWrapper; rw [if_neg (by decide +kernel)]; exact ⟨rfl, rfl⟩)
    (fun os started H enc _ => workerCuts_lifted os started H enc)
theorem workerCuts_card_holds : Rows.WorkerCutsCardSaid :=
  Claim7.holds_tied_plain_at .later [] [.data, .data] true (true, "dcd803ba5fb1d7cc31c8f1283848ca091cd31ea6076c00275404fdd1aad58b2c") false workerCuts_holds (fun _ h => by cases h) (by kernel_rfl) (fun _ h => by cases h) workerCuts_row_tie rfl ⟨rfl, rfl⟩ (by kernel_rfl) rfl
    (fun f fn hf hfn => by
      obtain rfl : f = 4 := Option.some.inj ((show Tryd.prog.funcNamed "skewer/skewerlaw17.WorkerCuts" = some 4 by kernel_rfl).symm.trans hf) |>.symm
      obtain rfl : fn = Tryd.f4 := (Option.some.inj (Tryd.func4.symm.trans hfn)).symm
      exact ⟨by kernel_rfl, fun j t ht => by
        rw [Tryd.params4] at ht
        have hm : t ∈ [55, 3] := by simpa using Array.mem_of_getElem? ht
        have hall : ([55, 3].all fun u => !Tryd.prog.wantsStandIn u) = true := by kernel_rfl
        exact (show Tryd.prog.wantsStandIn t = false by simpa using List.all_eq_true.1 hall t hm)⟩)
    (by kernel_rfl)
#print axioms workerCuts_card_holds
end Go.Proofs.YtagfaaijgfigkaaDoor
