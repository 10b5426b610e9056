/-
  DERIVED. GIVEN WITH THE SEED: THE CARDS: each row of YtmonepclhbappaaGreatDoorRows.lean that lists a variable, with what it lists TIED to the program's text (the seventh form; the later family's looks); each row that meets fmt, with fmt's text TOLD by the authors' own Lean function (tested against real Go, not proved from fmt's source: count such statements apart). THE CARD IS WHAT COUNTS. Prove the row's statement (the work); the ties are given (YtmonepclhbappaaGreatDoorTie.lean); close each card by the builder's one call (the guide's Derived/Test/ToyasCard.lean, 'card_holds'). Laid BY PROGRAM, IN A SANDBOX (cutbox-door.mjs). By AI agents, Wed Nov 11 2026. No macro, syntax, notation, axiom, sorry.
-/
import Derived.Test.YtmonepclhbappaaGreatDoorRows
import GoSem.ClaimSeven
namespace Go.Proofs.YtmonepclhbappaaGreatDoor
namespace Rows

/-- THE TIED CARD OF 'fretworklaw08.PatTexts'. -/
def patTextsCard : Claim7 := { stood := { row := patTextsRow, standIns := [], harness := (true, "186f202512e95d632e1e4cce261455be0e1b74ef7cf54182ade34d0bc745db87"), looks := true }, kinds := [], alts := [], laidByText := true, laidKinds := [.data, .data, .data, .handle], laidTests := true, laidLooks := .later }
def PatTextsCardSaid : Prop := Claim7.holds Tryz.pinned (.plain (OpenSpec.ofChange patTextsSpec)) patTextsCard

/-- THE TIED CARD OF 'fretworklaw13.OdagReads'. -/
def odagReadsCard : Claim7 := { stood := { row := odagReadsRow, standIns := [], harness := (true, "186f202512e95d632e1e4cce261455be0e1b74ef7cf54182ade34d0bc745db87"), looks := true }, kinds := [], alts := [], laidByText := true, laidKinds := [.handle], laidTests := true, laidLooks := .later }
def OdagReadsCardSaid : Prop := Claim7.holds Tryz.pinned (.plain (OpenSpec.ofChange odagReadsSpec)) odagReadsCard

/-- THE TIED CARD OF 'fretworklaw13.OdagMerge'. -/
def odagMergeCard : Claim7 := { stood := { row := odagMergeRow, standIns := [], harness := (true, "186f202512e95d632e1e4cce261455be0e1b74ef7cf54182ade34d0bc745db87"), looks := true }, kinds := [], alts := [], laidByText := true, laidKinds := [.handle], laidTests := true, laidLooks := .later }
def OdagMergeCardSaid : Prop := Claim7.holds Tryz.pinned (.plain (OpenSpec.ofChange odagMergeSpec)) odagMergeCard

/-- THE SECOND FORM's CARD OF 'fretworklaw08.PatTexts'. -/
def patTextsUptoCard : Claim7 := { stood := { row := patTextsUptoRow, standIns := [], harness := (true, "186f202512e95d632e1e4cce261455be0e1b74ef7cf54182ade34d0bc745db87"), looks := true }, kinds := [], alts := [], laidByText := true, laidKinds := [.data, .data, .data, .handle], laidTests := true, laidLooks := .later }
def PatTextsUptoCardSaid : Prop := Claim7.holds Tryz.pinned (.plain (OpenSpec.upto patTextsSpec)) patTextsUptoCard

/-- THE SECOND FORM's CARD OF 'fretworklaw13.OdagReads'. -/
def odagReadsUptoCard : Claim7 := { stood := { row := odagReadsUptoRow, standIns := [], harness := (true, "186f202512e95d632e1e4cce261455be0e1b74ef7cf54182ade34d0bc745db87"), looks := true }, kinds := [], alts := [], laidByText := true, laidKinds := [.handle], laidTests := true, laidLooks := .later }
def OdagReadsUptoCardSaid : Prop := Claim7.holds Tryz.pinned (.plain (OpenSpec.upto odagReadsSpec)) odagReadsUptoCard

/-- THE SECOND FORM's CARD OF 'fretworklaw13.OdagMerge'. -/
def odagMergeUptoCard : Claim7 := { stood := { row := odagMergeUptoRow, standIns := [], harness := (true, "186f202512e95d632e1e4cce261455be0e1b74ef7cf54182ade34d0bc745db87"), looks := true }, kinds := [], alts := [], laidByText := true, laidKinds := [.handle], laidTests := true, laidLooks := .later }
def OdagMergeUptoCardSaid : Prop := Claim7.holds Tryz.pinned (.plain (OpenSpec.upto odagMergeSpec)) odagMergeUptoCard
end Rows
end Go.Proofs.YtmonepclhbappaaGreatDoor
