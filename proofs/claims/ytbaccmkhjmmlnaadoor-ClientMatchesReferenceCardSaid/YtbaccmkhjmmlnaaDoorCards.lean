/-
  DERIVED. GIVEN WITH THE SEED: THE CARDS: each row of YtbaccmkhjmmlnaaDoorRows.lean that lists a variable, with what it lists TIED to the program's text (the seventh form; the later family's looks); each row that meets fmt, with fmt's text TOLD by the authors' own Lean function (tested against real Go, not proved from fmt's source: count such statements apart). THE CARD IS WHAT COUNTS. Prove the row's statement (the work); the ties are given (YtbaccmkhjmmlnaaDoorTie.lean); close each card by the builder's one call (the guide's Derived/Test/ToyasCard.lean, 'card_holds'). Laid BY PROGRAM, IN A SANDBOX (cutbox-door.mjs). By AI agents, Wed Nov 11 2026. No macro, syntax, notation, axiom, sorry.
-/
import Derived.Test.YtbaccmkhjmmlnaaDoorRows
import GoSem.ClaimSeven
namespace Go.Proofs.YtbaccmkhjmmlnaaDoor
namespace Rows

/-- THE TIED CARD OF 'skewerlaw34.ClientMatchesReference'. -/
def clientMatchesReferenceCard : Claim7 := { stood := { row := clientMatchesReferenceRow, standIns := [], harness := (true, "3e5299d63908c37e810f7cdc7eaea8897ce56edfdd2ff209cbe64cf292028d9c"), looks := false }, kinds := [], alts := [], laidByText := true, laidKinds := [.data, .data], laidTests := true, laidLooks := .later }
def ClientMatchesReferenceCardSaid : Prop := Claim7.holds Tryd.pinned (.plain (OpenSpec.ofChange clientMatchesReferenceSpec)) clientMatchesReferenceCard

/-- THE TIED CARD OF 'skewerlaw34.ClientAnswers'. -/
def clientAnswersCard : Claim7 := { stood := { row := clientAnswersRow, standIns := [], harness := (true, "3e5299d63908c37e810f7cdc7eaea8897ce56edfdd2ff209cbe64cf292028d9c"), looks := false }, kinds := [], alts := [], laidByText := true, laidKinds := [.data, .data], laidTests := true, laidLooks := .later }
def ClientAnswersCardSaid : Prop := Claim7.holds Tryd.pinned (.plain (OpenSpec.ofChange clientAnswersSpec)) clientAnswersCard

/-- THE TIED CARD OF 'skewerlaw34.ClientBinds'. -/
def clientBindsCard : Claim7 := { stood := { row := clientBindsRow, standIns := [], harness := (true, "3e5299d63908c37e810f7cdc7eaea8897ce56edfdd2ff209cbe64cf292028d9c"), looks := false }, kinds := [], alts := [], laidByText := true, laidKinds := [.data, .data], laidTests := true, laidLooks := .later }
def ClientBindsCardSaid : Prop := Claim7.holds Tryd.pinned (.plain (OpenSpec.ofChange clientBindsSpec)) clientBindsCard

/-- THE TIED CARD OF 'skewerlaw34.ClientLeaves'. -/
def clientLeavesCard : Claim7 := { stood := { row := clientLeavesRow, standIns := [], harness := (true, "3e5299d63908c37e810f7cdc7eaea8897ce56edfdd2ff209cbe64cf292028d9c"), looks := false }, kinds := [], alts := [], laidByText := true, laidKinds := [.data, .data], laidTests := true, laidLooks := .later }
def ClientLeavesCardSaid : Prop := Claim7.holds Tryd.pinned (.plain (OpenSpec.ofChange clientLeavesSpec)) clientLeavesCard

/-- THE TIED CARD OF 'skewerlaw34.ClientRoots'. -/
def clientRootsCard : Claim7 := { stood := { row := clientRootsRow, standIns := [], harness := (true, "3e5299d63908c37e810f7cdc7eaea8897ce56edfdd2ff209cbe64cf292028d9c"), looks := false }, kinds := [], alts := [], laidByText := true, laidKinds := [.data, .data], laidTests := true, laidLooks := .later }
def ClientRootsCardSaid : Prop := Claim7.holds Tryd.pinned (.plain (OpenSpec.ofChange clientRootsSpec)) clientRootsCard

/-- THE TIED CARD OF 'skewerlaw34.ClientRefuses'. -/
def clientRefusesCard : Claim7 := { stood := { row := clientRefusesRow, standIns := [], harness := (true, "3e5299d63908c37e810f7cdc7eaea8897ce56edfdd2ff209cbe64cf292028d9c"), looks := false }, kinds := [], alts := [], laidByText := true, laidKinds := [.data, .data], laidTests := true, laidLooks := .later }
def ClientRefusesCardSaid : Prop := Claim7.holds Tryd.pinned (.plain (OpenSpec.ofChange clientRefusesSpec)) clientRefusesCard

/-- THE SECOND FORM's CARD OF 'skewerlaw34.ClientMatchesReference'. -/
def clientMatchesReferenceUptoCard : Claim7 := { stood := { row := clientMatchesReferenceUptoRow, standIns := [], harness := (true, "3e5299d63908c37e810f7cdc7eaea8897ce56edfdd2ff209cbe64cf292028d9c"), looks := false }, kinds := [], alts := [], laidByText := true, laidKinds := [.data, .data], laidTests := true, laidLooks := .later }
def ClientMatchesReferenceUptoCardSaid : Prop := Claim7.holds Tryd.pinned (.plain (OpenSpec.upto clientMatchesReferenceSpec)) clientMatchesReferenceUptoCard

/-- THE SECOND FORM's CARD OF 'skewerlaw34.ClientAnswers'. -/
def clientAnswersUptoCard : Claim7 := { stood := { row := clientAnswersUptoRow, standIns := [], harness := (true, "3e5299d63908c37e810f7cdc7eaea8897ce56edfdd2ff209cbe64cf292028d9c"), looks := false }, kinds := [], alts := [], laidByText := true, laidKinds := [.data, .data], laidTests := true, laidLooks := .later }
def ClientAnswersUptoCardSaid : Prop := Claim7.holds Tryd.pinned (.plain (OpenSpec.upto clientAnswersSpec)) clientAnswersUptoCard

/-- THE SECOND FORM's CARD OF 'skewerlaw34.ClientBinds'. -/
def clientBindsUptoCard : Claim7 := { stood := { row := clientBindsUptoRow, standIns := [], harness := (true, "3e5299d63908c37e810f7cdc7eaea8897ce56edfdd2ff209cbe64cf292028d9c"), looks := false }, kinds := [], alts := [], laidByText := true, laidKinds := [.data, .data], laidTests := true, laidLooks := .later }
def ClientBindsUptoCardSaid : Prop := Claim7.holds Tryd.pinned (.plain (OpenSpec.upto clientBindsSpec)) clientBindsUptoCard

/-- THE SECOND FORM's CARD OF 'skewerlaw34.ClientLeaves'. -/
def clientLeavesUptoCard : Claim7 := { stood := { row := clientLeavesUptoRow, standIns := [], harness := (true, "3e5299d63908c37e810f7cdc7eaea8897ce56edfdd2ff209cbe64cf292028d9c"), looks := false }, kinds := [], alts := [], laidByText := true, laidKinds := [.data, .data], laidTests := true, laidLooks := .later }
def ClientLeavesUptoCardSaid : Prop := Claim7.holds Tryd.pinned (.plain (OpenSpec.upto clientLeavesSpec)) clientLeavesUptoCard

/-- THE SECOND FORM's CARD OF 'skewerlaw34.ClientRoots'. -/
def clientRootsUptoCard : Claim7 := { stood := { row := clientRootsUptoRow, standIns := [], harness := (true, "3e5299d63908c37e810f7cdc7eaea8897ce56edfdd2ff209cbe64cf292028d9c"), looks := false }, kinds := [], alts := [], laidByText := true, laidKinds := [.data, .data], laidTests := true, laidLooks := .later }
def ClientRootsUptoCardSaid : Prop := Claim7.holds Tryd.pinned (.plain (OpenSpec.upto clientRootsSpec)) clientRootsUptoCard

/-- THE SECOND FORM's CARD OF 'skewerlaw34.ClientRefuses'. -/
def clientRefusesUptoCard : Claim7 := { stood := { row := clientRefusesUptoRow, standIns := [], harness := (true, "3e5299d63908c37e810f7cdc7eaea8897ce56edfdd2ff209cbe64cf292028d9c"), looks := false }, kinds := [], alts := [], laidByText := true, laidKinds := [.data, .data], laidTests := true, laidLooks := .later }
def ClientRefusesUptoCardSaid : Prop := Claim7.holds Tryd.pinned (.plain (OpenSpec.upto clientRefusesSpec)) clientRefusesUptoCard
end Rows
end Go.Proofs.YtbaccmkhjmmlnaaDoor
