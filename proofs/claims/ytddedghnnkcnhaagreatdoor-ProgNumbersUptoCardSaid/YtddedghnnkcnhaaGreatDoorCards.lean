/-
  DERIVED. GIVEN WITH THE SEED: THE CARDS: each row of YtddedghnnkcnhaaGreatDoorRows.lean that lists a variable, with what it lists TIED to the program's text (the seventh form; the later family's looks); each row that meets fmt, with fmt's text TOLD by the authors' own Lean function (tested against real Go, not proved from fmt's source: count such statements apart). THE CARD IS WHAT COUNTS. Prove the row's statement (the work); the ties are given (YtddedghnnkcnhaaGreatDoorTie.lean); close each card by the builder's one call (the guide's Derived/Test/ToyasCard.lean, 'card_holds'). Laid BY PROGRAM, IN A SANDBOX (cutbox-door.mjs). By AI agents, Wed Nov 11 2026. No macro, syntax, notation, axiom, sorry.
-/
import Derived.Test.YtddedghnnkcnhaaGreatDoorRows
import GoSem.ClaimSeven
namespace Go.Proofs.YtddedghnnkcnhaaGreatDoor
namespace Rows

/-- THE TIED CARD OF 'fretworklaw08.PatTexts'. -/
def patTextsCard : Claim7 := { stood := { row := patTextsRow, standIns := [], harness := (true, "372edc0244f6a4cb50f0acc2df979fcded721098dbd3b6dacdf9171c6d6fb430"), looks := true }, kinds := [], alts := [], laidByText := true, laidKinds := [.data, .data, .data, .handle], laidTests := true, laidLooks := .later }
def PatTextsCardSaid : Prop := Claim7.holds Tryz.pinned (.plain (OpenSpec.ofChange patTextsSpec)) patTextsCard

/-- THE TIED CARD OF 'fretworklaw08.PatBack'. -/
def patBackCard : Claim7 := { stood := { row := patBackRow, standIns := [], harness := (true, "372edc0244f6a4cb50f0acc2df979fcded721098dbd3b6dacdf9171c6d6fb430"), looks := true }, kinds := [], alts := [], laidByText := true, laidKinds := [.data, .data, .data, .handle], laidTests := true, laidLooks := .later }
def PatBackCardSaid : Prop := Claim7.holds Tryz.pinned (.plain (OpenSpec.ofChange patBackSpec)) patBackCard

/-- THE TIED CARD OF 'fretworklaw05.LoadMore'. -/
def loadMoreCard : Claim7 := { stood := { row := loadMoreRow, standIns := [], harness := (true, "372edc0244f6a4cb50f0acc2df979fcded721098dbd3b6dacdf9171c6d6fb430"), looks := true }, kinds := [], alts := [], laidByText := true, laidKinds := [.data, .handle, .pinned], laidTests := true, laidLooks := .later }
def LoadMoreCardSaid : Prop := Claim7.holds Tryz.pinned (.plain (OpenSpec.ofChange loadMoreSpec)) loadMoreCard

/-- THE TIED CARD OF 'fretworklaw22.ConfLines'. -/
def confLinesCard : Claim7 := { stood := { row := confLinesRow, standIns := [], harness := (true, "372edc0244f6a4cb50f0acc2df979fcded721098dbd3b6dacdf9171c6d6fb430"), looks := true }, kinds := [], alts := [], laidByText := true, laidKinds := [.data, .data, .data, .data, .handle, .sentinel, .sentinel, .pinned], laidTests := true, laidLooks := .later }
def ConfLinesCardSaid : Prop := Claim7.holds Tryz.pinned (.plain (OpenSpec.ofChange confLinesSpec)) confLinesCard

/-- THE TIED CARD OF 'fretworklaw22.ConfParses'. -/
def confParsesCard : Claim7 := { stood := { row := confParsesRow, standIns := [], harness := (true, "372edc0244f6a4cb50f0acc2df979fcded721098dbd3b6dacdf9171c6d6fb430"), looks := true }, kinds := [], alts := [], laidByText := true, laidKinds := [.data, .data, .data, .data, .handle, .sentinel, .sentinel, .pinned], laidTests := true, laidLooks := .later }
def ConfParsesCardSaid : Prop := Claim7.holds Tryz.pinned (.plain (OpenSpec.ofChange confParsesSpec)) confParsesCard

/-- THE TIED CARD OF 'fretworklaw22.ConfTexts'. -/
def confTextsCard : Claim7 := { stood := { row := confTextsRow, standIns := [], harness := (true, "372edc0244f6a4cb50f0acc2df979fcded721098dbd3b6dacdf9171c6d6fb430"), looks := true }, kinds := [], alts := [], laidByText := true, laidKinds := [.data, .data, .data, .data, .handle, .sentinel, .sentinel, .pinned], laidTests := true, laidLooks := .later }
def ConfTextsCardSaid : Prop := Claim7.holds Tryz.pinned (.plain (OpenSpec.ofChange confTextsSpec)) confTextsCard

/-- THE TIED CARD OF 'fretworklaw05.LoadBytes'. -/
def loadBytesCard : Claim7 := { stood := { row := loadBytesRow, standIns := [], harness := (true, "372edc0244f6a4cb50f0acc2df979fcded721098dbd3b6dacdf9171c6d6fb430"), looks := true }, kinds := [], alts := [], laidByText := true, laidKinds := [.data, .handle, .pinned], laidTests := true, laidLooks := .later }
def LoadBytesCardSaid : Prop := Claim7.holds Tryz.pinned (.plain (OpenSpec.ofChange loadBytesSpec)) loadBytesCard

/-- THE TIED CARD OF 'fretworklaw05.LoadSpoilt'. -/
def loadSpoiltCard : Claim7 := { stood := { row := loadSpoiltRow, standIns := [], harness := (true, "372edc0244f6a4cb50f0acc2df979fcded721098dbd3b6dacdf9171c6d6fb430"), looks := true }, kinds := [], alts := [], laidByText := true, laidKinds := [.data, .data, .data, .data, .handle, .pinned], laidTests := true, laidLooks := .later }
def LoadSpoiltCardSaid : Prop := Claim7.holds Tryz.pinned (.plain (OpenSpec.ofChange loadSpoiltSpec)) loadSpoiltCard

/-- THE TIED CARD OF 'fretworklaw05.LoadBack'. -/
def loadBackCard : Claim7 := { stood := { row := loadBackRow, standIns := [], harness := (true, "372edc0244f6a4cb50f0acc2df979fcded721098dbd3b6dacdf9171c6d6fb430"), looks := true }, kinds := [], alts := [], laidByText := true, laidKinds := [.data, .data, .data, .data, .handle, .pinned], laidTests := true, laidLooks := .later }
def LoadBackCardSaid : Prop := Claim7.holds Tryz.pinned (.plain (OpenSpec.ofChange loadBackSpec)) loadBackCard

/-- THE TIED CARD OF 'fretworklaw17.ProgTexts'. -/
def progTextsCard : Claim7 := { stood := { row := progTextsRow, standIns := [], harness := (true, "372edc0244f6a4cb50f0acc2df979fcded721098dbd3b6dacdf9171c6d6fb430"), looks := true }, kinds := [], alts := [], laidByText := true, laidKinds := [.data, .data, .data, .data, .handle, .sentinel, .sentinel, .pinned], laidTests := true, laidLooks := .later }
def ProgTextsCardSaid : Prop := Claim7.holds Tryz.pinned (.plain (OpenSpec.ofChange progTextsSpec)) progTextsCard

/-- THE TIED CARD OF 'fretworklaw17.ProgNumbers'. -/
def progNumbersCard : Claim7 := { stood := { row := progNumbersRow, standIns := [], harness := (true, "372edc0244f6a4cb50f0acc2df979fcded721098dbd3b6dacdf9171c6d6fb430"), looks := true }, kinds := [], alts := [], laidByText := true, laidKinds := [.data, .data, .data, .data, .handle, .sentinel, .sentinel, .pinned], laidTests := true, laidLooks := .later }
def ProgNumbersCardSaid : Prop := Claim7.holds Tryz.pinned (.plain (OpenSpec.ofChange progNumbersSpec)) progNumbersCard

/-- THE SECOND FORM's CARD OF 'fretworklaw08.PatTexts'. -/
def patTextsUptoCard : Claim7 := { stood := { row := patTextsUptoRow, standIns := [], harness := (true, "372edc0244f6a4cb50f0acc2df979fcded721098dbd3b6dacdf9171c6d6fb430"), looks := true }, kinds := [], alts := [], laidByText := true, laidKinds := [.data, .data, .data, .handle], laidTests := true, laidLooks := .later }
def PatTextsUptoCardSaid : Prop := Claim7.holds Tryz.pinned (.plain (OpenSpec.upto patTextsSpec)) patTextsUptoCard

/-- THE SECOND FORM's CARD OF 'fretworklaw08.PatBack'. -/
def patBackUptoCard : Claim7 := { stood := { row := patBackUptoRow, standIns := [], harness := (true, "372edc0244f6a4cb50f0acc2df979fcded721098dbd3b6dacdf9171c6d6fb430"), looks := true }, kinds := [], alts := [], laidByText := true, laidKinds := [.data, .data, .data, .handle], laidTests := true, laidLooks := .later }
def PatBackUptoCardSaid : Prop := Claim7.holds Tryz.pinned (.plain (OpenSpec.upto patBackSpec)) patBackUptoCard

/-- THE SECOND FORM's CARD OF 'fretworklaw05.LoadMore'. -/
def loadMoreUptoCard : Claim7 := { stood := { row := loadMoreUptoRow, standIns := [], harness := (true, "372edc0244f6a4cb50f0acc2df979fcded721098dbd3b6dacdf9171c6d6fb430"), looks := true }, kinds := [], alts := [], laidByText := true, laidKinds := [.data, .handle, .pinned], laidTests := true, laidLooks := .later }
def LoadMoreUptoCardSaid : Prop := Claim7.holds Tryz.pinned (.plain (OpenSpec.upto loadMoreSpec)) loadMoreUptoCard

/-- THE SECOND FORM's CARD OF 'fretworklaw22.ConfLines'. -/
def confLinesUptoCard : Claim7 := { stood := { row := confLinesUptoRow, standIns := [], harness := (true, "372edc0244f6a4cb50f0acc2df979fcded721098dbd3b6dacdf9171c6d6fb430"), looks := true }, kinds := [], alts := [], laidByText := true, laidKinds := [.data, .data, .data, .data, .handle, .sentinel, .sentinel, .pinned], laidTests := true, laidLooks := .later }
def ConfLinesUptoCardSaid : Prop := Claim7.holds Tryz.pinned (.plain (OpenSpec.upto confLinesSpec)) confLinesUptoCard

/-- THE SECOND FORM's CARD OF 'fretworklaw22.ConfParses'. -/
def confParsesUptoCard : Claim7 := { stood := { row := confParsesUptoRow, standIns := [], harness := (true, "372edc0244f6a4cb50f0acc2df979fcded721098dbd3b6dacdf9171c6d6fb430"), looks := true }, kinds := [], alts := [], laidByText := true, laidKinds := [.data, .data, .data, .data, .handle, .sentinel, .sentinel, .pinned], laidTests := true, laidLooks := .later }
def ConfParsesUptoCardSaid : Prop := Claim7.holds Tryz.pinned (.plain (OpenSpec.upto confParsesSpec)) confParsesUptoCard

/-- THE SECOND FORM's CARD OF 'fretworklaw22.ConfTexts'. -/
def confTextsUptoCard : Claim7 := { stood := { row := confTextsUptoRow, standIns := [], harness := (true, "372edc0244f6a4cb50f0acc2df979fcded721098dbd3b6dacdf9171c6d6fb430"), looks := true }, kinds := [], alts := [], laidByText := true, laidKinds := [.data, .data, .data, .data, .handle, .sentinel, .sentinel, .pinned], laidTests := true, laidLooks := .later }
def ConfTextsUptoCardSaid : Prop := Claim7.holds Tryz.pinned (.plain (OpenSpec.upto confTextsSpec)) confTextsUptoCard

/-- THE SECOND FORM's CARD OF 'fretworklaw05.LoadBytes'. -/
def loadBytesUptoCard : Claim7 := { stood := { row := loadBytesUptoRow, standIns := [], harness := (true, "372edc0244f6a4cb50f0acc2df979fcded721098dbd3b6dacdf9171c6d6fb430"), looks := true }, kinds := [], alts := [], laidByText := true, laidKinds := [.data, .handle, .pinned], laidTests := true, laidLooks := .later }
def LoadBytesUptoCardSaid : Prop := Claim7.holds Tryz.pinned (.plain (OpenSpec.upto loadBytesSpec)) loadBytesUptoCard

/-- THE SECOND FORM's CARD OF 'fretworklaw05.LoadSpoilt'. -/
def loadSpoiltUptoCard : Claim7 := { stood := { row := loadSpoiltUptoRow, standIns := [], harness := (true, "372edc0244f6a4cb50f0acc2df979fcded721098dbd3b6dacdf9171c6d6fb430"), looks := true }, kinds := [], alts := [], laidByText := true, laidKinds := [.data, .data, .data, .data, .handle, .pinned], laidTests := true, laidLooks := .later }
def LoadSpoiltUptoCardSaid : Prop := Claim7.holds Tryz.pinned (.plain (OpenSpec.upto loadSpoiltSpec)) loadSpoiltUptoCard

/-- THE SECOND FORM's CARD OF 'fretworklaw05.LoadBack'. -/
def loadBackUptoCard : Claim7 := { stood := { row := loadBackUptoRow, standIns := [], harness := (true, "372edc0244f6a4cb50f0acc2df979fcded721098dbd3b6dacdf9171c6d6fb430"), looks := true }, kinds := [], alts := [], laidByText := true, laidKinds := [.data, .data, .data, .data, .handle, .pinned], laidTests := true, laidLooks := .later }
def LoadBackUptoCardSaid : Prop := Claim7.holds Tryz.pinned (.plain (OpenSpec.upto loadBackSpec)) loadBackUptoCard

/-- THE SECOND FORM's CARD OF 'fretworklaw17.ProgTexts'. -/
def progTextsUptoCard : Claim7 := { stood := { row := progTextsUptoRow, standIns := [], harness := (true, "372edc0244f6a4cb50f0acc2df979fcded721098dbd3b6dacdf9171c6d6fb430"), looks := true }, kinds := [], alts := [], laidByText := true, laidKinds := [.data, .data, .data, .data, .handle, .sentinel, .sentinel, .pinned], laidTests := true, laidLooks := .later }
def ProgTextsUptoCardSaid : Prop := Claim7.holds Tryz.pinned (.plain (OpenSpec.upto progTextsSpec)) progTextsUptoCard

/-- THE SECOND FORM's CARD OF 'fretworklaw17.ProgNumbers'. -/
def progNumbersUptoCard : Claim7 := { stood := { row := progNumbersUptoRow, standIns := [], harness := (true, "372edc0244f6a4cb50f0acc2df979fcded721098dbd3b6dacdf9171c6d6fb430"), looks := true }, kinds := [], alts := [], laidByText := true, laidKinds := [.data, .data, .data, .data, .handle, .sentinel, .sentinel, .pinned], laidTests := true, laidLooks := .later }
def ProgNumbersUptoCardSaid : Prop := Claim7.holds Tryz.pinned (.plain (OpenSpec.upto progNumbersSpec)) progNumbersUptoCard
end Rows
end Go.Proofs.YtddedghnnkcnhaaGreatDoor
