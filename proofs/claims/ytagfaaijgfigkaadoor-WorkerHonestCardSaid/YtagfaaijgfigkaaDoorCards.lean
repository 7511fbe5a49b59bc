/-
  DERIVED. GIVEN WITH THE SEED: THE CARDS: each row of YtagfaaijgfigkaaDoorRows.lean that lists a variable, with what it lists TIED to the program's text (the seventh form; the later family's looks); each row that meets fmt, with fmt's text TOLD by the authors' own Lean function (tested against real Go, not proved from fmt's source: count such statements apart). THE CARD IS WHAT COUNTS. Prove the row's statement (the work); the ties are given (YtagfaaijgfigkaaDoorTie.lean); close each card by the builder's one call (the guide's Derived/Test/ToyasCard.lean, 'card_holds'). Laid BY PROGRAM, IN A SANDBOX (cutbox-door.mjs). By AI agents, Wed Nov 11 2026. No macro, syntax, notation, axiom, sorry.
-/
import Derived.Test.YtagfaaijgfigkaaDoorRows
import GoSem.ClaimSeven
namespace Go.Proofs.YtagfaaijgfigkaaDoor
namespace Rows

/-- THE TIED CARD OF 'skewerlaw17.WorkerMatchesReference'. -/
def workerMatchesReferenceCard : Claim7 := { stood := { row := workerMatchesReferenceRow, standIns := [], harness := (true, "dcd803ba5fb1d7cc31c8f1283848ca091cd31ea6076c00275404fdd1aad58b2c"), looks := false }, kinds := [], alts := [], laidByText := true, laidKinds := [.data, .data], laidTests := true, laidLooks := .later }
def WorkerMatchesReferenceCardSaid : Prop := Claim7.holds Tryd.pinned (.plain (OpenSpec.ofChange workerMatchesReferenceSpec)) workerMatchesReferenceCard

/-- THE TIED CARD OF 'skewerlaw17.WorkerCuts'. -/
def workerCutsCard : Claim7 := { stood := { row := workerCutsRow, standIns := [], harness := (true, "dcd803ba5fb1d7cc31c8f1283848ca091cd31ea6076c00275404fdd1aad58b2c"), looks := false }, kinds := [], alts := [], laidByText := true, laidKinds := [.data, .data], laidTests := true, laidLooks := .later }
def WorkerCutsCardSaid : Prop := Claim7.holds Tryd.pinned (.plain (OpenSpec.ofChange workerCutsSpec)) workerCutsCard

/-- THE TIED CARD OF 'skewerlaw17.WorkerHonest'. -/
def workerHonestCard : Claim7 := { stood := { row := workerHonestRow, standIns := [], harness := (true, "dcd803ba5fb1d7cc31c8f1283848ca091cd31ea6076c00275404fdd1aad58b2c"), looks := false }, kinds := [], alts := [], laidByText := true, laidKinds := [.data, .data], laidTests := true, laidLooks := .later }
def WorkerHonestCardSaid : Prop := Claim7.holds Tryd.pinned (.plain (OpenSpec.ofChange workerHonestSpec)) workerHonestCard

/-- THE TIED CARD OF 'skewerlaw17.WorkerLate'. -/
def workerLateCard : Claim7 := { stood := { row := workerLateRow, standIns := [], harness := (true, "dcd803ba5fb1d7cc31c8f1283848ca091cd31ea6076c00275404fdd1aad58b2c"), looks := false }, kinds := [], alts := [], laidByText := true, laidKinds := [.data, .data], laidTests := true, laidLooks := .later }
def WorkerLateCardSaid : Prop := Claim7.holds Tryd.pinned (.plain (OpenSpec.ofChange workerLateSpec)) workerLateCard

/-- THE TIED CARD OF 'skewerlaw17.WorkerLies'. -/
def workerLiesCard : Claim7 := { stood := { row := workerLiesRow, standIns := [], harness := (true, "dcd803ba5fb1d7cc31c8f1283848ca091cd31ea6076c00275404fdd1aad58b2c"), looks := false }, kinds := [], alts := [], laidByText := true, laidKinds := [.data, .data], laidTests := true, laidLooks := .later }
def WorkerLiesCardSaid : Prop := Claim7.holds Tryd.pinned (.plain (OpenSpec.ofChange workerLiesSpec)) workerLiesCard

/-- THE TIED CARD OF 'skewerlaw17.WorkerSound'. -/
def workerSoundCard : Claim7 := { stood := { row := workerSoundRow, standIns := [], harness := (true, "dcd803ba5fb1d7cc31c8f1283848ca091cd31ea6076c00275404fdd1aad58b2c"), looks := false }, kinds := [], alts := [], laidByText := true, laidKinds := [.data, .data], laidTests := true, laidLooks := .later }
def WorkerSoundCardSaid : Prop := Claim7.holds Tryd.pinned (.plain (OpenSpec.ofChange workerSoundSpec)) workerSoundCard

/-- THE TIED CARD OF 'skewerlaw17.WorkerBytes'. -/
def workerBytesCard : Claim7 := { stood := { row := workerBytesRow, standIns := [], harness := (true, "dcd803ba5fb1d7cc31c8f1283848ca091cd31ea6076c00275404fdd1aad58b2c"), looks := false }, kinds := [], alts := [], laidByText := true, laidKinds := [.data, .data], laidTests := true, laidLooks := .later }
def WorkerBytesCardSaid : Prop := Claim7.holds Tryd.pinned (.plain (OpenSpec.ofChange workerBytesSpec)) workerBytesCard

/-- THE SECOND FORM's CARD OF 'skewerlaw17.WorkerMatchesReference'. -/
def workerMatchesReferenceUptoCard : Claim7 := { stood := { row := workerMatchesReferenceUptoRow, standIns := [], harness := (true, "dcd803ba5fb1d7cc31c8f1283848ca091cd31ea6076c00275404fdd1aad58b2c"), looks := false }, kinds := [], alts := [], laidByText := true, laidKinds := [.data, .data], laidTests := true, laidLooks := .later }
def WorkerMatchesReferenceUptoCardSaid : Prop := Claim7.holds Tryd.pinned (.plain (OpenSpec.upto workerMatchesReferenceSpec)) workerMatchesReferenceUptoCard

/-- THE SECOND FORM's CARD OF 'skewerlaw17.WorkerCuts'. -/
def workerCutsUptoCard : Claim7 := { stood := { row := workerCutsUptoRow, standIns := [], harness := (true, "dcd803ba5fb1d7cc31c8f1283848ca091cd31ea6076c00275404fdd1aad58b2c"), looks := false }, kinds := [], alts := [], laidByText := true, laidKinds := [.data, .data], laidTests := true, laidLooks := .later }
def WorkerCutsUptoCardSaid : Prop := Claim7.holds Tryd.pinned (.plain (OpenSpec.upto workerCutsSpec)) workerCutsUptoCard

/-- THE SECOND FORM's CARD OF 'skewerlaw17.WorkerHonest'. -/
def workerHonestUptoCard : Claim7 := { stood := { row := workerHonestUptoRow, standIns := [], harness := (true, "dcd803ba5fb1d7cc31c8f1283848ca091cd31ea6076c00275404fdd1aad58b2c"), looks := false }, kinds := [], alts := [], laidByText := true, laidKinds := [.data, .data], laidTests := true, laidLooks := .later }
def WorkerHonestUptoCardSaid : Prop := Claim7.holds Tryd.pinned (.plain (OpenSpec.upto workerHonestSpec)) workerHonestUptoCard

/-- THE SECOND FORM's CARD OF 'skewerlaw17.WorkerLate'. -/
def workerLateUptoCard : Claim7 := { stood := { row := workerLateUptoRow, standIns := [], harness := (true, "dcd803ba5fb1d7cc31c8f1283848ca091cd31ea6076c00275404fdd1aad58b2c"), looks := false }, kinds := [], alts := [], laidByText := true, laidKinds := [.data, .data], laidTests := true, laidLooks := .later }
def WorkerLateUptoCardSaid : Prop := Claim7.holds Tryd.pinned (.plain (OpenSpec.upto workerLateSpec)) workerLateUptoCard

/-- THE SECOND FORM's CARD OF 'skewerlaw17.WorkerLies'. -/
def workerLiesUptoCard : Claim7 := { stood := { row := workerLiesUptoRow, standIns := [], harness := (true, "dcd803ba5fb1d7cc31c8f1283848ca091cd31ea6076c00275404fdd1aad58b2c"), looks := false }, kinds := [], alts := [], laidByText := true, laidKinds := [.data, .data], laidTests := true, laidLooks := .later }
def WorkerLiesUptoCardSaid : Prop := Claim7.holds Tryd.pinned (.plain (OpenSpec.upto workerLiesSpec)) workerLiesUptoCard

/-- THE SECOND FORM's CARD OF 'skewerlaw17.WorkerSound'. -/
def workerSoundUptoCard : Claim7 := { stood := { row := workerSoundUptoRow, standIns := [], harness := (true, "dcd803ba5fb1d7cc31c8f1283848ca091cd31ea6076c00275404fdd1aad58b2c"), looks := false }, kinds := [], alts := [], laidByText := true, laidKinds := [.data, .data], laidTests := true, laidLooks := .later }
def WorkerSoundUptoCardSaid : Prop := Claim7.holds Tryd.pinned (.plain (OpenSpec.upto workerSoundSpec)) workerSoundUptoCard

/-- THE SECOND FORM's CARD OF 'skewerlaw17.WorkerBytes'. -/
def workerBytesUptoCard : Claim7 := { stood := { row := workerBytesUptoRow, standIns := [], harness := (true, "dcd803ba5fb1d7cc31c8f1283848ca091cd31ea6076c00275404fdd1aad58b2c"), looks := false }, kinds := [], alts := [], laidByText := true, laidKinds := [.data, .data], laidTests := true, laidLooks := .later }
def WorkerBytesUptoCardSaid : Prop := Claim7.holds Tryd.pinned (.plain (OpenSpec.upto workerBytesSpec)) workerBytesUptoCard
end Rows
end Go.Proofs.YtagfaaijgfigkaaDoor
