/-
  WorkerBytes, for every input: the law returns true, and its arguments read as before; the two tables of the package hash are as the program's text lays them (tied), nothing else is assumed.
-/
import Derived.Test.YtagfaaijgfigkaaDoorCards
import Derived.Test.YtagfaaijgfigkaaDoorTie
import Derived.Test.YtagfaaijgfigkaaDoorZ1
import Derived.Test.YtagfaaijgfigkaaDoorZ2
import Derived.Test.YtagfaaijgfigkaaDoorZ3
import Derived.Test.YtagfaaijgfigkaaDoorZ4
import Derived.Test.YtagfaaijgfigkaaDoorZ5
import Derived.Test.YtagfaaijgfigkaaDoorZ6
set_option linter.unnecessarySimpa false
set_option linter.unusedSimpArgs false
set_option linter.unusedVariables false
namespace Go.Proofs.YtagfaaijgfigkaaDoor
open Go.ChangeShapes Go.WideShapes Go.ChangeAt Go.RowKit
set_option maxRecDepth 100000
theorem two_bytes_typed {n : Nat} {d : D} (h : ArgD Tryd.prog (n + 2) 66 d) : ∃ a b : UInt8, d = .agg 2 [byteD a, byteD b] := by
  simp only [ArgD, ag66] at h
  obtain ⟨ds, rfl, _, h⟩ := h
  rw [TyD] at h
  simp only [Tryd.underlying66] at h
  obtain ⟨parts, hl, rfl, hp⟩ := h
  match parts, hl with
  | [a, b], _ =>
    obtain ⟨w0, rfl⟩ := byte_typed (hp a (by simp))
    obtain ⟨w1, rfl⟩ := byte_typed (hp b (by simp))
    have hc : Tryd.prog.cellsOf 66 = 2 := by kernel_rfl
    exact ⟨w0, w1, by rw [hc]; rfl⟩
theorem u32_typed {n : Nat} {x : List D} (h : TyD Tryd.prog (n + 1) 70 x) : ∃ z : Int, x = [.v (.int .u32 z)] ∧ 0 ≤ z ∧ z ≤ 4294967295 := by
  simp only [TyD, Tryd.underlying70] at h
  obtain ⟨z, h1, h2, h3⟩ := h
  simp [IntKind.min, IntKind.max, IntKind.signed, IntKind.bits] at h2 h3
  exact ⟨z, by simpa using h1, h2, h3⟩
theorem two_u32_typed {n : Nat} {d : D} (h : ArgD Tryd.prog (n + 2) 71 d) : ∃ a b : Int, d = .agg 2 [.v (.int .u32 a), .v (.int .u32 b)] ∧ (0 ≤ a ∧ a ≤ 4294967295) ∧ (0 ≤ b ∧ b ≤ 4294967295) := by
  simp only [ArgD, ag71] at h
  obtain ⟨ds, rfl, _, h⟩ := h
  rw [TyD] at h
  simp only [Tryd.underlying71] at h
  obtain ⟨parts, hl, rfl, hp⟩ := h
  match parts, hl with
  | [a, b], _ =>
    obtain ⟨w0, rfl, h0⟩ := u32_typed (hp a (by simp))
    obtain ⟨w1, rfl, h1⟩ := u32_typed (hp b (by simp))
    have hc : Tryd.prog.cellsOf 71 = 2 := by kernel_rfl
    exact ⟨w0, w1, by rw [hc]; rfl, h0, h1⟩
theorem wbytes_args (ds : List D) (h : ArgsD Tryd.prog 6 Tryd.f9.params.toList ds) : CallsD Tryd.prog HG 9 ds (.v (.bool true)) := by
  rw [Tryd.params9] at h
  obtain ⟨d, _, rfl, h1, h⟩ := argsD_cons h
  obtain ⟨e, _, rfl, h2, h⟩ := argsD_cons h
  obtain rfl := argsD_nil h
  obtain ⟨a, b, rfl⟩ := two_bytes_typed h1
  obtain ⟨n, m, rfl, hn, hm⟩ := two_u32_typed h2
  exact workerBytes_D a b n m hn hm
set_option maxRecDepth 100000 in
theorem workerBytes_lifted (os : Os) (started : os.Started) (H : Type) (enc : TypeId × Value → H) :
    ReturnsInHanded {} Tryd.checked os 9 .any (fun w args => (Rows.workerBytesSpec.pre enc Tryd.prog Tryd.f9 [] false w args ∧ laidMetH Tryd.prog laid2 w) ∧ sizedMet enc Tryd.prog Tryd.f9 (OpenSpec.ofChange Rows.workerBytesSpec) false w args)
      (Rows.workerBytesSpec.post enc Tryd.prog Tryd.f9 false true false false) := by
  refine returnsInHanded_of_change_and (C := Tryd.checked) (X := fun w _ => laidMetH Tryd.prog laid2 w) (fun _ _ _ hh h => h.of_heap hh) own started (by kernel_rfl) Tryd.func9
    (ChangeSpec.witness_shaped (enc := enc) (C := Tryd.checked) (os := os) (X := fun w _ => laidMetH Tryd.prog laid2 w) false (World.laidAll Tryd.prog os laid2) #[(Go.Value.agg #[Go.Value.int Go.IntKind.u8 0, Go.Value.int Go.IntKind.u8 0]), (Go.Value.agg #[Go.Value.int Go.IntKind.u32 0, Go.Value.int Go.IntKind.u32 0])] 8 (World.laidAll_os _ _ _) (World.shaped_of_ZipB (by kernel_rfl) (by kernel_rfl)) (by kernel_rfl) (by kernel_rfl) (by kernel_rfl)
      (laidWorld_met os _)) ?_
  intro W base args ds gs before hval hW _ _ hL _
  exact law_core (n := 6) rfl (fun ds h => by
    match ds, h with
    | [d0, d1], _ => rfl) rfl (by kernel_rfl) (by kernel_rfl) wbytes_args W base args ds gs before hval hW hL
theorem workerBytes_holds : Rows.WorkerBytesSaid :=
  OpenClaim.holds_of_wide 9 Tryd.f9 rfl rfl rfl rfl rfl rfl rfl ⟨rfl, rfl, rfl, rfl, rfl⟩ rfl rfl rfl rfl rfl (by kernel_rfl) Tryd.func9 (by kernel_rfl)
    (of_decide_eq_true (by kernel_rfl)) (by unfold Func.isWrapper; rw [if_neg (by decide +kernel)]; exact ⟨rfl, rfl⟩)
    (fun os started H enc _ => workerBytes_lifted os started H enc)
theorem workerBytes_card_holds : Rows.WorkerBytesCardSaid :=
  Claim7.holds_tied_plain_at .later [] [.data, .data] true (true, "dcd803ba5fb1d7cc31c8f1283848ca091cd31ea6076c00275404fdd1aad58b2c") false workerBytes_holds (fun _ h => by cases h) (by kernel_rfl) (fun _ h => by cases h) workerBytes_row_tie rfl ⟨rfl, rfl⟩ (by kernel_rfl) rfl
    (fun f fn hf hfn => by
      obtain rfl : f = 9 := Option.some.inj ((show Tryd.prog.funcNamed "skewer/skewerlaw17.WorkerBytes" = some 9 by kernel_rfl).symm.trans hf) |>.symm
      obtain rfl : fn = Tryd.f9 := (Option.some.inj (Tryd.func9.symm.trans hfn)).symm
      exact ⟨by kernel_rfl, fun j t ht => by
        rw [Tryd.params9] at ht
        have hm : t ∈ [66, 71] := by simpa using Array.mem_of_getElem? ht
        have hall : ([66, 71].all fun u => !Tryd.prog.wantsStandIn u) = true := by kernel_rfl
        exact (show Tryd.prog.wantsStandIn t = false by simpa using List.all_eq_true.1 hall t hm)⟩)
    (by kernel_rfl)
#print axioms workerBytes_card_holds
end Go.Proofs.YtagfaaijgfigkaaDoor
