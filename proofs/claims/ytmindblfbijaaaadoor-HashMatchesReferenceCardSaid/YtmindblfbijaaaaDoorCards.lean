/-
  DERIVED. GIVEN WITH THE SEED: THE CARDS: each row of YtmindblfbijaaaaDoorRows.lean that lists a variable, with what it lists TIED to the program's text (the seventh form; the later family's looks); each row that meets fmt, with fmt's text TOLD by the authors' own Lean function (tested against real Go, not proved from fmt's source: count such statements apart). THE CARD IS WHAT COUNTS. Prove the row's statement (the work); the ties are given (YtmindblfbijaaaaDoorTie.lean); close each card by the builder's one call (the guide's Derived/Test/ToyasCard.lean, 'card_holds'). Laid BY PROGRAM, IN A SANDBOX (cutbox-door.mjs). By AI agents, Wed Nov 11 2026. No macro, syntax, notation, axiom, sorry.
-/
import Derived.Test.YtmindblfbijaaaaDoorRows
import GoSem.ClaimSeven
namespace Go.Proofs.YtmindblfbijaaaaDoor
namespace Rows

/-- THE TIED CARD OF 'skewerlaw16.HashMatchesReference'. -/
def hashMatchesReferenceCard : Claim7 := { stood := { row := hashMatchesReferenceRow, standIns := [], harness := (true, "1662110316f33394562037f0c68f514619b4259e58889673b486da50a8b24cfe"), looks := false }, kinds := [], alts := [], laidByText := true, laidKinds := [.data, .data], laidTests := true, laidLooks := .later }
def HashMatchesReferenceCardSaid : Prop := Claim7.holds Tryd.pinned (.plain (OpenSpec.ofChange hashMatchesReferenceSpec)) hashMatchesReferenceCard

/-- THE TIED CARD OF 'skewerlaw16.HashProofs'. -/
def hashProofsCard : Claim7 := { stood := { row := hashProofsRow, standIns := [], harness := (true, "1662110316f33394562037f0c68f514619b4259e58889673b486da50a8b24cfe"), looks := false }, kinds := [], alts := [], laidByText := true, laidKinds := [.data, .data], laidTests := true, laidLooks := .later }
def HashProofsCardSaid : Prop := Claim7.holds Tryd.pinned (.plain (OpenSpec.ofChange hashProofsSpec)) hashProofsCard

/-- THE TIED CARD OF 'skewerlaw16.HashBinds'. -/
def hashBindsCard : Claim7 := { stood := { row := hashBindsRow, standIns := [], harness := (true, "1662110316f33394562037f0c68f514619b4259e58889673b486da50a8b24cfe"), looks := false }, kinds := [], alts := [], laidByText := true, laidKinds := [.data, .data], laidTests := true, laidLooks := .later }
def HashBindsCardSaid : Prop := Claim7.holds Tryd.pinned (.plain (OpenSpec.ofChange hashBindsSpec)) hashBindsCard

/-- THE TIED CARD OF 'skewerlaw16.HashParts'. -/
def hashPartsCard : Claim7 := { stood := { row := hashPartsRow, standIns := [], harness := (true, "1662110316f33394562037f0c68f514619b4259e58889673b486da50a8b24cfe"), looks := false }, kinds := [], alts := [], laidByText := true, laidKinds := [.data, .data], laidTests := true, laidLooks := .later }
def HashPartsCardSaid : Prop := Claim7.holds Tryd.pinned (.plain (OpenSpec.ofChange hashPartsSpec)) hashPartsCard

/-- THE TIED CARD OF 'skewerlaw16.HashPlaces'. -/
def hashPlacesCard : Claim7 := { stood := { row := hashPlacesRow, standIns := [], harness := (true, "1662110316f33394562037f0c68f514619b4259e58889673b486da50a8b24cfe"), looks := false }, kinds := [], alts := [], laidByText := true, laidKinds := [.data, .data], laidTests := true, laidLooks := .later }
def HashPlacesCardSaid : Prop := Claim7.holds Tryd.pinned (.plain (OpenSpec.ofChange hashPlacesSpec)) hashPlacesCard

/-- THE TIED CARD OF 'skewerlaw16.HashNeighbors'. -/
def hashNeighborsCard : Claim7 := { stood := { row := hashNeighborsRow, standIns := [], harness := (true, "1662110316f33394562037f0c68f514619b4259e58889673b486da50a8b24cfe"), looks := false }, kinds := [], alts := [], laidByText := true, laidKinds := [.data, .data], laidTests := true, laidLooks := .later }
def HashNeighborsCardSaid : Prop := Claim7.holds Tryd.pinned (.plain (OpenSpec.ofChange hashNeighborsSpec)) hashNeighborsCard

/-- THE TIED CARD OF 'skewerlaw16.HashBytes'. -/
def hashBytesCard : Claim7 := { stood := { row := hashBytesRow, standIns := [], harness := (true, "1662110316f33394562037f0c68f514619b4259e58889673b486da50a8b24cfe"), looks := false }, kinds := [], alts := [], laidByText := true, laidKinds := [.data, .data], laidTests := true, laidLooks := .later }
def HashBytesCardSaid : Prop := Claim7.holds Tryd.pinned (.plain (OpenSpec.ofChange hashBytesSpec)) hashBytesCard

/-- THE SECOND FORM's CARD OF 'skewerlaw16.HashMatchesReference'. -/
def hashMatchesReferenceUptoCard : Claim7 := { stood := { row := hashMatchesReferenceUptoRow, standIns := [], harness := (true, "1662110316f33394562037f0c68f514619b4259e58889673b486da50a8b24cfe"), looks := false }, kinds := [], alts := [], laidByText := true, laidKinds := [.data, .data], laidTests := true, laidLooks := .later }
def HashMatchesReferenceUptoCardSaid : Prop := Claim7.holds Tryd.pinned (.plain (OpenSpec.upto hashMatchesReferenceSpec)) hashMatchesReferenceUptoCard

/-- THE SECOND FORM's CARD OF 'skewerlaw16.HashProofs'. -/
def hashProofsUptoCard : Claim7 := { stood := { row := hashProofsUptoRow, standIns := [], harness := (true, "1662110316f33394562037f0c68f514619b4259e58889673b486da50a8b24cfe"), looks := false }, kinds := [], alts := [], laidByText := true, laidKinds := [.data, .data], laidTests := true, laidLooks := .later }
def HashProofsUptoCardSaid : Prop := Claim7.holds Tryd.pinned (.plain (OpenSpec.upto hashProofsSpec)) hashProofsUptoCard

/-- THE SECOND FORM's CARD OF 'skewerlaw16.HashBinds'. -/
def hashBindsUptoCard : Claim7 := { stood := { row := hashBindsUptoRow, standIns := [], harness := (true, "1662110316f33394562037f0c68f514619b4259e58889673b486da50a8b24cfe"), looks := false }, kinds := [], alts := [], laidByText := true, laidKinds := [.data, .data], laidTests := true, laidLooks := .later }
def HashBindsUptoCardSaid : Prop := Claim7.holds Tryd.pinned (.plain (OpenSpec.upto hashBindsSpec)) hashBindsUptoCard

/-- THE SECOND FORM's CARD OF 'skewerlaw16.HashParts'. -/
def hashPartsUptoCard : Claim7 := { stood := { row := hashPartsUptoRow, standIns := [], harness := (true, "1662110316f33394562037f0c68f514619b4259e58889673b486da50a8b24cfe"), looks := false }, kinds := [], alts := [], laidByText := true, laidKinds := [.data, .data], laidTests := true, laidLooks := .later }
def HashPartsUptoCardSaid : Prop := Claim7.holds Tryd.pinned (.plain (OpenSpec.upto hashPartsSpec)) hashPartsUptoCard

/-- THE SECOND FORM's CARD OF 'skewerlaw16.HashPlaces'. -/
def hashPlacesUptoCard : Claim7 := { stood := { row := hashPlacesUptoRow, standIns := [], harness := (true, "1662110316f33394562037f0c68f514619b4259e58889673b486da50a8b24cfe"), looks := false }, kinds := [], alts := [], laidByText := true, laidKinds := [.data, .data], laidTests := true, laidLooks := .later }
def HashPlacesUptoCardSaid : Prop := Claim7.holds Tryd.pinned (.plain (OpenSpec.upto hashPlacesSpec)) hashPlacesUptoCard

/-- THE SECOND FORM's CARD OF 'skewerlaw16.HashNeighbors'. -/
def hashNeighborsUptoCard : Claim7 := { stood := { row := hashNeighborsUptoRow, standIns := [], harness := (true, "1662110316f33394562037f0c68f514619b4259e58889673b486da50a8b24cfe"), looks := false }, kinds := [], alts := [], laidByText := true, laidKinds := [.data, .data], laidTests := true, laidLooks := .later }
def HashNeighborsUptoCardSaid : Prop := Claim7.holds Tryd.pinned (.plain (OpenSpec.upto hashNeighborsSpec)) hashNeighborsUptoCard

/-- THE SECOND FORM's CARD OF 'skewerlaw16.HashBytes'. -/
def hashBytesUptoCard : Claim7 := { stood := { row := hashBytesUptoRow, standIns := [], harness := (true, "1662110316f33394562037f0c68f514619b4259e58889673b486da50a8b24cfe"), looks := false }, kinds := [], alts := [], laidByText := true, laidKinds := [.data, .data], laidTests := true, laidLooks := .later }
def HashBytesUptoCardSaid : Prop := Claim7.holds Tryd.pinned (.plain (OpenSpec.upto hashBytesSpec)) hashBytesUptoCard
end Rows
end Go.Proofs.YtmindblfbijaaaaDoor
