/-
  HashBinds, for every input: the law returns true, and its arguments read as before; the two tables of the package hash are as the program's text lays them (tied), nothing else is assumed.
-/
import Derived.Test.YtmindblfbijaaaaDoorCards
import Derived.Test.YtmindblfbijaaaaDoorTie
import Derived.Test.YtmindblfbijaaaaDoorZ1
import Derived.Test.YtmindblfbijaaaaDoorZ2
import Derived.Test.YtmindblfbijaaaaDoorZ3
import Derived.Test.YtmindblfbijaaaaDoorZ4
import Derived.Test.YtmindblfbijaaaaDoorZ5
import Derived.Test.YtmindblfbijaaaaDoorZ6
set_option linter.unnecessarySimpa false
set_option linter.unusedSimpArgs false
set_option linter.unusedVariables false
namespace Go.Proofs.YtmindblfbijaaaaDoor
open Go.ChangeShapes Go.WideShapes Go.ChangeAt Go.RowKit
theorem u16_typed {n : Nat} {ds : List D} (h : TyD Tryd.prog (n + 1) 45 ds) : ∃ z : Nat, ds = [.v (.int .u16 z)] ∧ z ≤ 65535 := by
  simp only [TyD, Tryd.underlying45] at h
  obtain ⟨z, rfl, h1, h2⟩ := h
  simp [IntKind.min, IntKind.max, IntKind.signed, IntKind.bits] at h1 h2
  exact ⟨z.toNat, by rw [Int.toNat_of_nonneg h1], by omega⟩
theorem five_typed {n : Nat} {d : D} (h : ArgD Tryd.prog (n + 2) 46 d) : ∃ w0 w1 w2 w3 w4 : Nat, d = five w0 w1 w2 w3 w4 ∧ w0 ≤ 65535 ∧ w1 ≤ 65535 ∧ w2 ≤ 65535 ∧ w3 ≤ 65535 ∧ w4 ≤ 65535 := by
  simp only [ArgD, ag46] at h
  obtain ⟨ds, rfl, _, h⟩ := h
  rw [TyD] at h
  simp only [Tryd.underlying46] at h
  obtain ⟨parts, hl, rfl, hp⟩ := h
  match parts, hl with
  | [a, b, c, d, e], _ =>
    obtain ⟨w0, rfl, h0⟩ := u16_typed (hp a (by simp))
    obtain ⟨w1, rfl, h1⟩ := u16_typed (hp b (by simp))
    obtain ⟨w2, rfl, h2⟩ := u16_typed (hp c (by simp))
    obtain ⟨w3, rfl, h3⟩ := u16_typed (hp d (by simp))
    obtain ⟨w4, rfl, h4⟩ := u16_typed (hp e (by simp))
    have hc : Tryd.prog.cellsOf 46 = 5 := by kernel_rfl
    exact ⟨w0, w1, w2, w3, w4, by rw [hc]; rfl, h0, h1, h2, h3, h4⟩
theorem binds_args (ds : List D) (h : ArgsD Tryd.prog 6 Tryd.f5.params.toList ds) : CallsD Tryd.prog HG 5 ds (.v (.bool true)) := by
  rw [Tryd.params5] at h
  obtain ⟨d, _, rfl, h1, h⟩ := argsD_cons h
  obtain ⟨e, _, rfl, h2, h⟩ := argsD_cons h
  obtain ⟨f, _, rfl, h3, h⟩ := argsD_cons h
  obtain rfl := argsD_nil h
  obtain ⟨xs, rfl, hx⟩ := elems_typed h1
  obtain ⟨y, rfl, hy⟩ := byteSlice_typed h2
  obtain ⟨w0, w1, w2, w3, w4, rfl, a0, a1, a2, a3, a4⟩ := five_typed h3
  exact binds_D xs y w0 w1 w2 w3 w4 hx hy a0 a1 a2 a3 a4
set_option maxRecDepth 100000 in
theorem hashBinds_lifted (os : Os) (started : os.Started) (H : Type) (enc : TypeId × Value → H) :
    ReturnsInHanded {} Tryd.checked os 5 .any (fun w args => (Rows.hashBindsSpec.pre enc Tryd.prog Tryd.f5 [] false w args ∧ laidMetH Tryd.prog laid2 w) ∧ sizedMet enc Tryd.prog Tryd.f5 (OpenSpec.ofChange Rows.hashBindsSpec) false w args)
      (Rows.hashBindsSpec.post enc Tryd.prog Tryd.f5 false true false false) := by
  refine returnsInHanded_of_change_and (C := Tryd.checked) (X := fun w _ => laidMetH Tryd.prog laid2 w) (fun _ _ _ hh h => h.of_heap hh) own started (by kernel_rfl) Tryd.func5
    (ChangeSpec.witness_shaped (enc := enc) (C := Tryd.checked) (os := os) (X := fun w _ => laidMetH Tryd.prog laid2 w) false (World.laidAll Tryd.prog os laid2) #[(Go.Value.slice none 0 0), (Go.Value.slice none 0 0), (Go.Value.agg #[Go.Value.int Go.IntKind.u16 0, Go.Value.int Go.IntKind.u16 0, Go.Value.int Go.IntKind.u16 0, Go.Value.int Go.IntKind.u16 0, Go.Value.int Go.IntKind.u16 0])] 8 (World.laidAll_os _ _ _) (World.shaped_of_ZipB (by kernel_rfl) (by kernel_rfl)) (by kernel_rfl) (by kernel_rfl) (by kernel_rfl)
      (laidWorld_met os _)) ?_
  intro W base args ds gs before hval hW _ _ hL _
  exact law_core (n := 6) rfl (fun ds h => by
    match ds, h with
    | [d0, d1, d2], _ => rfl) rfl (by kernel_rfl) (by kernel_rfl) binds_args W base args ds gs before hval hW hL
theorem hashBinds_holds : Rows.HashBindsSaid :=
  OpenClaim.holds_of_wide 5 Tryd.f5 rfl rfl rfl rfl rfl rfl rfl ⟨rfl, rfl, rfl, rfl, rfl⟩ rfl rfl rfl rfl rfl (by kernel_rfl) Tryd.func5 (by kernel_rfl)
    (of_decide_eq_true (by kernel_rfl)) (by unfold Func.isWrapper; rw [if_neg (by decide +kernel)]; exact ⟨rfl, rfl⟩)
    (fun os started H enc _ => hashBinds_lifted os started H enc)
theorem hashBinds_card_holds : Rows.HashBindsCardSaid :=
  Claim7.holds_tied_plain_at .later [] [.data, .data] true (true, "1662110316f33394562037f0c68f514619b4259e58889673b486da50a8b24cfe") false hashBinds_holds (fun _ h => by cases h) (by kernel_rfl) (fun _ h => by cases h) hashBinds_row_tie rfl ⟨rfl, rfl⟩ (by kernel_rfl) rfl
    (fun f fn hf hfn => by
      obtain rfl : f = 5 := Option.some.inj ((show Tryd.prog.funcNamed "skewer/skewerlaw16.HashBinds" = some 5 by kernel_rfl).symm.trans hf) |>.symm
      obtain rfl : fn = Tryd.f5 := (Option.some.inj (Tryd.func5.symm.trans hfn)).symm
      exact ⟨by kernel_rfl, fun j t ht => by
        rw [Tryd.params5] at ht
        have hm : t ∈ [23, 22, 46] := by simpa using Array.mem_of_getElem? ht
        have hall : ([23, 22, 46].all fun u => !Tryd.prog.wantsStandIn u) = true := by kernel_rfl
        exact (show Tryd.prog.wantsStandIn t = false by simpa using List.all_eq_true.1 hall t hm)⟩)
    (by kernel_rfl)
#print axioms hashBinds_card_holds
end Go.Proofs.YtmindblfbijaaaaDoor
