/-
  DERIVED. GIVEN WITH THE SEED: THE CARDS: each row of YtaeefjcbmkiiaaaGreatDoorRows.lean that lists a variable, with what it lists TIED to the program's text (the seventh form; the later family's looks); each row that meets fmt, with fmt's text TOLD by the authors' own Lean function (tested against real Go, not proved from fmt's source: count such statements apart). THE CARD IS WHAT COUNTS. Prove the row's statement (the work); the ties are given (YtaeefjcbmkiiaaaGreatDoorTie.lean); close each card by the builder's one call (the guide's Derived/Test/ToyasCard.lean, 'card_holds'). Laid BY PROGRAM, IN A SANDBOX (cutbox-door.mjs). By AI agents, Wed Nov 11 2026. No macro, syntax, notation, axiom, sorry.
-/
import Derived.Test.YtaeefjcbmkiiaaaGreatDoorRows
import GoSem.ClaimSeven
namespace Go.Proofs.YtaeefjcbmkiiaaaGreatDoor
namespace Rows

/-- THE TIED CARD OF 'kiosklaw3.WalPlays'. -/
def walPlaysCard : Claim7 := { stood := { row := walPlaysRow, standIns := [], harness := (true, "4b3d49cffdd0d6a93d5cf3607d67de4cf4e6cab560c22fd814272e6a7302bd2e"), looks := true }, kinds := [], alts := [], laidByText := true, laidKinds := [.data, .data, .data, .data, .sentinel, .sentinel, .pinned], laidTests := true, laidLooks := .later }
def WalPlaysCardSaid : Prop := Claim7.holds Tryz.pinned (.plain (OpenSpec.ofChange walPlaysSpec)) walPlaysCard

/-- THE TIED CARD OF 'kiosklaw3.WalKeeps'. -/
def walKeepsCard : Claim7 := { stood := { row := walKeepsRow, standIns := [], harness := (true, "4b3d49cffdd0d6a93d5cf3607d67de4cf4e6cab560c22fd814272e6a7302bd2e"), looks := true }, kinds := [], alts := [], laidByText := true, laidKinds := [.data, .data, .data, .data, .sentinel, .sentinel, .pinned], laidTests := true, laidLooks := .later }
def WalKeepsCardSaid : Prop := Claim7.holds Tryz.pinned (.plain (OpenSpec.ofChange walKeepsSpec)) walKeepsCard

/-- THE TIED CARD OF 'kiosklaw3.WalCuts'. -/
def walCutsCard : Claim7 := { stood := { row := walCutsRow, standIns := [], harness := (true, "4b3d49cffdd0d6a93d5cf3607d67de4cf4e6cab560c22fd814272e6a7302bd2e"), looks := true }, kinds := [], alts := [], laidByText := true, laidKinds := [.data, .data, .data, .data, .sentinel, .sentinel, .pinned], laidTests := true, laidLooks := .later }
def WalCutsCardSaid : Prop := Claim7.holds Tryz.pinned (.plain (OpenSpec.ofChange walCutsSpec)) walCutsCard

/-- THE TIED CARD OF 'kiosklaw3.WalAgain'. -/
def walAgainCard : Claim7 := { stood := { row := walAgainRow, standIns := [], harness := (true, "4b3d49cffdd0d6a93d5cf3607d67de4cf4e6cab560c22fd814272e6a7302bd2e"), looks := true }, kinds := [], alts := [], laidByText := true, laidKinds := [.data, .data, .data, .data, .sentinel, .sentinel, .pinned], laidTests := true, laidLooks := .later }
def WalAgainCardSaid : Prop := Claim7.holds Tryz.pinned (.plain (OpenSpec.ofChange walAgainSpec)) walAgainCard

/-- THE TIED CARD OF 'kiosklaw3.WalFull'. -/
def walFullCard : Claim7 := { stood := { row := walFullRow, standIns := [], harness := (true, "4b3d49cffdd0d6a93d5cf3607d67de4cf4e6cab560c22fd814272e6a7302bd2e"), looks := true }, kinds := [], alts := [], laidByText := true, laidKinds := [.data, .data, .data, .data, .sentinel, .sentinel, .pinned], laidTests := true, laidLooks := .later }
def WalFullCardSaid : Prop := Claim7.holds Tryz.pinned (.plain (OpenSpec.ofChange walFullSpec)) walFullCard

/-- THE SECOND FORM's CARD OF 'kiosklaw3.WalPlays'. -/
def walPlaysUptoCard : Claim7 := { stood := { row := walPlaysUptoRow, standIns := [], harness := (true, "4b3d49cffdd0d6a93d5cf3607d67de4cf4e6cab560c22fd814272e6a7302bd2e"), looks := true }, kinds := [], alts := [], laidByText := true, laidKinds := [.data, .data, .data, .data, .sentinel, .sentinel, .pinned], laidTests := true, laidLooks := .later }
def WalPlaysUptoCardSaid : Prop := Claim7.holds Tryz.pinned (.plain (OpenSpec.upto walPlaysSpec)) walPlaysUptoCard

/-- THE SECOND FORM's CARD OF 'kiosklaw3.WalKeeps'. -/
def walKeepsUptoCard : Claim7 := { stood := { row := walKeepsUptoRow, standIns := [], harness := (true, "4b3d49cffdd0d6a93d5cf3607d67de4cf4e6cab560c22fd814272e6a7302bd2e"), looks := true }, kinds := [], alts := [], laidByText := true, laidKinds := [.data, .data, .data, .data, .sentinel, .sentinel, .pinned], laidTests := true, laidLooks := .later }
def WalKeepsUptoCardSaid : Prop := Claim7.holds Tryz.pinned (.plain (OpenSpec.upto walKeepsSpec)) walKeepsUptoCard

/-- THE SECOND FORM's CARD OF 'kiosklaw3.WalCuts'. -/
def walCutsUptoCard : Claim7 := { stood := { row := walCutsUptoRow, standIns := [], harness := (true, "4b3d49cffdd0d6a93d5cf3607d67de4cf4e6cab560c22fd814272e6a7302bd2e"), looks := true }, kinds := [], alts := [], laidByText := true, laidKinds := [.data, .data, .data, .data, .sentinel, .sentinel, .pinned], laidTests := true, laidLooks := .later }
def WalCutsUptoCardSaid : Prop := Claim7.holds Tryz.pinned (.plain (OpenSpec.upto walCutsSpec)) walCutsUptoCard

/-- THE SECOND FORM's CARD OF 'kiosklaw3.WalAgain'. -/
def walAgainUptoCard : Claim7 := { stood := { row := walAgainUptoRow, standIns := [], harness := (true, "4b3d49cffdd0d6a93d5cf3607d67de4cf4e6cab560c22fd814272e6a7302bd2e"), looks := true }, kinds := [], alts := [], laidByText := true, laidKinds := [.data, .data, .data, .data, .sentinel, .sentinel, .pinned], laidTests := true, laidLooks := .later }
def WalAgainUptoCardSaid : Prop := Claim7.holds Tryz.pinned (.plain (OpenSpec.upto walAgainSpec)) walAgainUptoCard

/-- THE SECOND FORM's CARD OF 'kiosklaw3.WalFull'. -/
def walFullUptoCard : Claim7 := { stood := { row := walFullUptoRow, standIns := [], harness := (true, "4b3d49cffdd0d6a93d5cf3607d67de4cf4e6cab560c22fd814272e6a7302bd2e"), looks := true }, kinds := [], alts := [], laidByText := true, laidKinds := [.data, .data, .data, .data, .sentinel, .sentinel, .pinned], laidTests := true, laidLooks := .later }
def WalFullUptoCardSaid : Prop := Claim7.holds Tryz.pinned (.plain (OpenSpec.upto walFullSpec)) walFullUptoCard
end Rows
end Go.Proofs.YtaeefjcbmkiiaaaGreatDoor
