/-
  DERIVED. GIVEN WITH THE SEED: THE CARDS: each row of YtapledphhfiimaaGreatDoorRows.lean that lists a variable, with what it lists TIED to the program's text (the seventh form; the later family's looks); each row that meets fmt, with fmt's text TOLD by the authors' own Lean function (tested against real Go, not proved from fmt's source: count such statements apart). THE CARD IS WHAT COUNTS. Prove the row's statement (the work); the ties are given (YtapledphhfiimaaGreatDoorTie.lean); close each card by the builder's one call (the guide's Derived/Test/ToyasCard.lean, 'card_holds'). Laid BY PROGRAM, IN A SANDBOX (cutbox-door.mjs). By AI agents, Wed Nov 11 2026. No macro, syntax, notation, axiom, sorry.
-/
import Derived.Test.YtapledphhfiimaaGreatDoorRows
import GoSem.ClaimSeven
namespace Go.Proofs.YtapledphhfiimaaGreatDoor
namespace Rows

/-- THE TIED CARD OF 'fretworklaw17.ProgParts'. -/
def progPartsCard : Claim7 := { stood := { row := progPartsRow, standIns := [], harness := (true, "4d7f386eef42b318618b07d3110495c973bc541998f64978c57959aaef20f3cc"), looks := true }, kinds := [], alts := [], laidByText := true, laidKinds := [.data, .data, .data, .data, .handle, .sentinel, .sentinel, .pinned], laidTests := true, laidLooks := .later }
def ProgPartsCardSaid : Prop := Claim7.holds Tryz.pinned (.plain (OpenSpec.ofChange progPartsSpec)) progPartsCard

/-- THE TIED CARD OF 'fretworklaw22.ConfProgs'. -/
def confProgsCard : Claim7 := { stood := { row := confProgsRow, standIns := [], harness := (true, "4d7f386eef42b318618b07d3110495c973bc541998f64978c57959aaef20f3cc"), looks := true }, kinds := [], alts := [], laidByText := true, laidKinds := [.data, .data, .data, .data, .handle, .sentinel, .sentinel, .pinned], laidTests := true, laidLooks := .later }
def ConfProgsCardSaid : Prop := Claim7.holds Tryz.pinned (.plain (OpenSpec.ofChange confProgsSpec)) confProgsCard

/-- THE TIED CARD OF 'fretworklaw08.PatBack'. -/
def patBackCard : Claim7 := { stood := { row := patBackRow, standIns := [], harness := (true, "4d7f386eef42b318618b07d3110495c973bc541998f64978c57959aaef20f3cc"), looks := true }, kinds := [], alts := [], laidByText := true, laidKinds := [.data, .data, .data, .handle], laidTests := true, laidLooks := .later }
def PatBackCardSaid : Prop := Claim7.holds Tryz.pinned (.plain (OpenSpec.ofChange patBackSpec)) patBackCard

/-- THE SECOND FORM's CARD OF 'fretworklaw17.ProgParts'. -/
def progPartsUptoCard : Claim7 := { stood := { row := progPartsUptoRow, standIns := [], harness := (true, "4d7f386eef42b318618b07d3110495c973bc541998f64978c57959aaef20f3cc"), looks := true }, kinds := [], alts := [], laidByText := true, laidKinds := [.data, .data, .data, .data, .handle, .sentinel, .sentinel, .pinned], laidTests := true, laidLooks := .later }
def ProgPartsUptoCardSaid : Prop := Claim7.holds Tryz.pinned (.plain (OpenSpec.upto progPartsSpec)) progPartsUptoCard

/-- THE SECOND FORM's CARD OF 'fretworklaw22.ConfProgs'. -/
def confProgsUptoCard : Claim7 := { stood := { row := confProgsUptoRow, standIns := [], harness := (true, "4d7f386eef42b318618b07d3110495c973bc541998f64978c57959aaef20f3cc"), looks := true }, kinds := [], alts := [], laidByText := true, laidKinds := [.data, .data, .data, .data, .handle, .sentinel, .sentinel, .pinned], laidTests := true, laidLooks := .later }
def ConfProgsUptoCardSaid : Prop := Claim7.holds Tryz.pinned (.plain (OpenSpec.upto confProgsSpec)) confProgsUptoCard

/-- THE SECOND FORM's CARD OF 'fretworklaw08.PatBack'. -/
def patBackUptoCard : Claim7 := { stood := { row := patBackUptoRow, standIns := [], harness := (true, "4d7f386eef42b318618b07d3110495c973bc541998f64978c57959aaef20f3cc"), looks := true }, kinds := [], alts := [], laidByText := true, laidKinds := [.data, .data, .data, .handle], laidTests := true, laidLooks := .later }
def PatBackUptoCardSaid : Prop := Claim7.holds Tryz.pinned (.plain (OpenSpec.upto patBackSpec)) patBackUptoCard
end Rows
end Go.Proofs.YtapledphhfiimaaGreatDoor
