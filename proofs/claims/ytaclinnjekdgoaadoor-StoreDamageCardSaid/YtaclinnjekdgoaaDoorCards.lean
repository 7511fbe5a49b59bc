/-
  DERIVED. GIVEN WITH THE SEED: THE CARDS: each row of YtaclinnjekdgoaaDoorRows.lean that lists a variable, with what it lists TIED to the program's text (the seventh form; the later family's looks); each row that meets fmt, with fmt's text TOLD by the authors' own Lean function (tested against real Go, not proved from fmt's source: count such statements apart). THE CARD IS WHAT COUNTS. Prove the row's statement (the work); the ties are given (YtaclinnjekdgoaaDoorTie.lean); close each card by the builder's one call (the guide's Derived/Test/ToyasCard.lean, 'card_holds'). Laid BY PROGRAM, IN A SANDBOX (cutbox-door.mjs). By AI agents, Wed Nov 11 2026. No macro, syntax, notation, axiom, sorry.
-/
import Derived.Test.YtaclinnjekdgoaaDoorRows
import GoSem.ClaimSeven
namespace Go.Proofs.YtaclinnjekdgoaaDoor
namespace Rows

/-- THE TIED CARD OF 'skewerlaw33.StoreSound'. -/
def storeSoundCard : Claim7 := { stood := { row := storeSoundRow, standIns := [], harness := (true, "c708b27b1eb6382a52e25c3d919ea928df5e5c27ffd17dfc6f7f09d7ffd6087b"), looks := true }, kinds := [], alts := [], laidByText := true, laidKinds := [.data, .data], laidTests := true, laidLooks := .later }
def StoreSoundCardSaid : Prop := Claim7.holds Tryd.pinned (.plain (OpenSpec.ofChange storeSoundSpec)) storeSoundCard

/-- THE TIED CARD OF 'skewerlaw33.StoreGets'. -/
def storeGetsCard : Claim7 := { stood := { row := storeGetsRow, standIns := [], harness := (true, "c708b27b1eb6382a52e25c3d919ea928df5e5c27ffd17dfc6f7f09d7ffd6087b"), looks := true }, kinds := [], alts := [], laidByText := true, laidKinds := [.data, .data], laidTests := true, laidLooks := .later }
def StoreGetsCardSaid : Prop := Claim7.holds Tryd.pinned (.plain (OpenSpec.ofChange storeGetsSpec)) storeGetsCard

/-- THE TIED CARD OF 'skewerlaw33.StoreCrashes'. -/
def storeCrashesCard : Claim7 := { stood := { row := storeCrashesRow, standIns := [], harness := (true, "c708b27b1eb6382a52e25c3d919ea928df5e5c27ffd17dfc6f7f09d7ffd6087b"), looks := true }, kinds := [], alts := [], laidByText := true, laidKinds := [.data, .data], laidTests := true, laidLooks := .later }
def StoreCrashesCardSaid : Prop := Claim7.holds Tryd.pinned (.plain (OpenSpec.ofChange storeCrashesSpec)) storeCrashesCard

/-- THE TIED CARD OF 'skewerlaw33.StoreSyncs'. -/
def storeSyncsCard : Claim7 := { stood := { row := storeSyncsRow, standIns := [], harness := (true, "c708b27b1eb6382a52e25c3d919ea928df5e5c27ffd17dfc6f7f09d7ffd6087b"), looks := true }, kinds := [], alts := [], laidByText := true, laidKinds := [.data, .data], laidTests := true, laidLooks := .later }
def StoreSyncsCardSaid : Prop := Claim7.holds Tryd.pinned (.plain (OpenSpec.ofChange storeSyncsSpec)) storeSyncsCard

/-- THE TIED CARD OF 'skewerlaw33.StoreDamage'. -/
def storeDamageCard : Claim7 := { stood := { row := storeDamageRow, standIns := [], harness := (true, "c708b27b1eb6382a52e25c3d919ea928df5e5c27ffd17dfc6f7f09d7ffd6087b"), looks := true }, kinds := [], alts := [], laidByText := true, laidKinds := [.data, .data], laidTests := true, laidLooks := .later }
def StoreDamageCardSaid : Prop := Claim7.holds Tryd.pinned (.plain (OpenSpec.ofChange storeDamageSpec)) storeDamageCard

/-- THE TIED CARD OF 'skewerlaw33.StoreAgain'. -/
def storeAgainCard : Claim7 := { stood := { row := storeAgainRow, standIns := [], harness := (true, "c708b27b1eb6382a52e25c3d919ea928df5e5c27ffd17dfc6f7f09d7ffd6087b"), looks := true }, kinds := [], alts := [], laidByText := true, laidKinds := [.data, .data], laidTests := true, laidLooks := .later }
def StoreAgainCardSaid : Prop := Claim7.holds Tryd.pinned (.plain (OpenSpec.ofChange storeAgainSpec)) storeAgainCard

/-- THE TIED CARD OF 'skewerlaw33.StoreLimits'. -/
def storeLimitsCard : Claim7 := { stood := { row := storeLimitsRow, standIns := [], harness := (true, "c708b27b1eb6382a52e25c3d919ea928df5e5c27ffd17dfc6f7f09d7ffd6087b"), looks := true }, kinds := [], alts := [], laidByText := true, laidKinds := [.data, .data], laidTests := true, laidLooks := .later }
def StoreLimitsCardSaid : Prop := Claim7.holds Tryd.pinned (.plain (OpenSpec.ofChange storeLimitsSpec)) storeLimitsCard

/-- THE SECOND FORM's CARD OF 'skewerlaw33.StoreSound'. -/
def storeSoundUptoCard : Claim7 := { stood := { row := storeSoundUptoRow, standIns := [], harness := (true, "c708b27b1eb6382a52e25c3d919ea928df5e5c27ffd17dfc6f7f09d7ffd6087b"), looks := true }, kinds := [], alts := [], laidByText := true, laidKinds := [.data, .data], laidTests := true, laidLooks := .later }
def StoreSoundUptoCardSaid : Prop := Claim7.holds Tryd.pinned (.plain (OpenSpec.upto storeSoundSpec)) storeSoundUptoCard

/-- THE SECOND FORM's CARD OF 'skewerlaw33.StoreGets'. -/
def storeGetsUptoCard : Claim7 := { stood := { row := storeGetsUptoRow, standIns := [], harness := (true, "c708b27b1eb6382a52e25c3d919ea928df5e5c27ffd17dfc6f7f09d7ffd6087b"), looks := true }, kinds := [], alts := [], laidByText := true, laidKinds := [.data, .data], laidTests := true, laidLooks := .later }
def StoreGetsUptoCardSaid : Prop := Claim7.holds Tryd.pinned (.plain (OpenSpec.upto storeGetsSpec)) storeGetsUptoCard

/-- THE SECOND FORM's CARD OF 'skewerlaw33.StoreCrashes'. -/
def storeCrashesUptoCard : Claim7 := { stood := { row := storeCrashesUptoRow, standIns := [], harness := (true, "c708b27b1eb6382a52e25c3d919ea928df5e5c27ffd17dfc6f7f09d7ffd6087b"), looks := true }, kinds := [], alts := [], laidByText := true, laidKinds := [.data, .data], laidTests := true, laidLooks := .later }
def StoreCrashesUptoCardSaid : Prop := Claim7.holds Tryd.pinned (.plain (OpenSpec.upto storeCrashesSpec)) storeCrashesUptoCard

/-- THE SECOND FORM's CARD OF 'skewerlaw33.StoreSyncs'. -/
def storeSyncsUptoCard : Claim7 := { stood := { row := storeSyncsUptoRow, standIns := [], harness := (true, "c708b27b1eb6382a52e25c3d919ea928df5e5c27ffd17dfc6f7f09d7ffd6087b"), looks := true }, kinds := [], alts := [], laidByText := true, laidKinds := [.data, .data], laidTests := true, laidLooks := .later }
def StoreSyncsUptoCardSaid : Prop := Claim7.holds Tryd.pinned (.plain (OpenSpec.upto storeSyncsSpec)) storeSyncsUptoCard

/-- THE SECOND FORM's CARD OF 'skewerlaw33.StoreDamage'. -/
def storeDamageUptoCard : Claim7 := { stood := { row := storeDamageUptoRow, standIns := [], harness := (true, "c708b27b1eb6382a52e25c3d919ea928df5e5c27ffd17dfc6f7f09d7ffd6087b"), looks := true }, kinds := [], alts := [], laidByText := true, laidKinds := [.data, .data], laidTests := true, laidLooks := .later }
def StoreDamageUptoCardSaid : Prop := Claim7.holds Tryd.pinned (.plain (OpenSpec.upto storeDamageSpec)) storeDamageUptoCard

/-- THE SECOND FORM's CARD OF 'skewerlaw33.StoreAgain'. -/
def storeAgainUptoCard : Claim7 := { stood := { row := storeAgainUptoRow, standIns := [], harness := (true, "c708b27b1eb6382a52e25c3d919ea928df5e5c27ffd17dfc6f7f09d7ffd6087b"), looks := true }, kinds := [], alts := [], laidByText := true, laidKinds := [.data, .data], laidTests := true, laidLooks := .later }
def StoreAgainUptoCardSaid : Prop := Claim7.holds Tryd.pinned (.plain (OpenSpec.upto storeAgainSpec)) storeAgainUptoCard

/-- THE SECOND FORM's CARD OF 'skewerlaw33.StoreLimits'. -/
def storeLimitsUptoCard : Claim7 := { stood := { row := storeLimitsUptoRow, standIns := [], harness := (true, "c708b27b1eb6382a52e25c3d919ea928df5e5c27ffd17dfc6f7f09d7ffd6087b"), looks := true }, kinds := [], alts := [], laidByText := true, laidKinds := [.data, .data], laidTests := true, laidLooks := .later }
def StoreLimitsUptoCardSaid : Prop := Claim7.holds Tryd.pinned (.plain (OpenSpec.upto storeLimitsSpec)) storeLimitsUptoCard
end Rows
end Go.Proofs.YtaclinnjekdgoaaDoor
