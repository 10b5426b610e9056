/-
  DERIVED. GIVEN WITH THE SEED: THE CARDS: each row of YtbbmgcdocolakaaGreatDoorRows.lean that lists a variable, with what it lists TIED to the program's text (the seventh form; the later family's looks); each row that meets fmt, with fmt's text TOLD by the authors' own Lean function (tested against real Go, not proved from fmt's source: count such statements apart). THE CARD IS WHAT COUNTS. Prove the row's statement (the work); the ties are given (YtbbmgcdocolakaaGreatDoorTie.lean); close each card by the builder's one call (the guide's Derived/Test/ToyasCard.lean, 'card_holds'). Laid BY PROGRAM, IN A SANDBOX (cutbox-door.mjs). By AI agents, Wed Nov 11 2026. No macro, syntax, notation, axiom, sorry.
-/
import Derived.Test.YtbbmgcdocolakaaGreatDoorRows
import GoSem.ClaimSeven
namespace Go.Proofs.YtbbmgcdocolakaaGreatDoor
namespace Rows

/-- THE TIED CARD OF 'fretworklaw05.LoadMore'. -/
def loadMoreCard : Claim7 := { stood := { row := loadMoreRow, standIns := [], harness := (true, "1e31682b20994f14e2f641a43a794ffba445bb4ad5066537717bc175ca5e3678"), looks := true }, kinds := [], alts := [], laidByText := true, laidKinds := [.data, .handle, .pinned], laidTests := true, laidLooks := .later }
def LoadMoreCardSaid : Prop := Claim7.holds Tryz.pinned (.plain (OpenSpec.ofChange loadMoreSpec)) loadMoreCard

/-- THE TIED CARD OF 'fretworklaw05.LoadBytes'. -/
def loadBytesCard : Claim7 := { stood := { row := loadBytesRow, standIns := [], harness := (true, "1e31682b20994f14e2f641a43a794ffba445bb4ad5066537717bc175ca5e3678"), looks := true }, kinds := [], alts := [], laidByText := true, laidKinds := [.data, .handle, .pinned], laidTests := true, laidLooks := .later }
def LoadBytesCardSaid : Prop := Claim7.holds Tryz.pinned (.plain (OpenSpec.ofChange loadBytesSpec)) loadBytesCard

/-- THE TIED CARD OF 'fretworklaw05.LoadSpoilt'. -/
def loadSpoiltCard : Claim7 := { stood := { row := loadSpoiltRow, standIns := [], harness := (true, "1e31682b20994f14e2f641a43a794ffba445bb4ad5066537717bc175ca5e3678"), looks := true }, kinds := [], alts := [], laidByText := true, laidKinds := [.data, .data, .data, .data, .handle, .pinned], laidTests := true, laidLooks := .later }
def LoadSpoiltCardSaid : Prop := Claim7.holds Tryz.pinned (.plain (OpenSpec.ofChange loadSpoiltSpec)) loadSpoiltCard

/-- THE TIED CARD OF 'fretworklaw05.LoadBack'. -/
def loadBackCard : Claim7 := { stood := { row := loadBackRow, standIns := [], harness := (true, "1e31682b20994f14e2f641a43a794ffba445bb4ad5066537717bc175ca5e3678"), looks := true }, kinds := [], alts := [], laidByText := true, laidKinds := [.data, .data, .data, .data, .handle, .pinned], laidTests := true, laidLooks := .later }
def LoadBackCardSaid : Prop := Claim7.holds Tryz.pinned (.plain (OpenSpec.ofChange loadBackSpec)) loadBackCard

/-- THE SECOND FORM's CARD OF 'fretworklaw05.LoadMore'. -/
def loadMoreUptoCard : Claim7 := { stood := { row := loadMoreUptoRow, standIns := [], harness := (true, "1e31682b20994f14e2f641a43a794ffba445bb4ad5066537717bc175ca5e3678"), looks := true }, kinds := [], alts := [], laidByText := true, laidKinds := [.data, .handle, .pinned], laidTests := true, laidLooks := .later }
def LoadMoreUptoCardSaid : Prop := Claim7.holds Tryz.pinned (.plain (OpenSpec.upto loadMoreSpec)) loadMoreUptoCard

/-- THE SECOND FORM's CARD OF 'fretworklaw05.LoadBytes'. -/
def loadBytesUptoCard : Claim7 := { stood := { row := loadBytesUptoRow, standIns := [], harness := (true, "1e31682b20994f14e2f641a43a794ffba445bb4ad5066537717bc175ca5e3678"), looks := true }, kinds := [], alts := [], laidByText := true, laidKinds := [.data, .handle, .pinned], laidTests := true, laidLooks := .later }
def LoadBytesUptoCardSaid : Prop := Claim7.holds Tryz.pinned (.plain (OpenSpec.upto loadBytesSpec)) loadBytesUptoCard

/-- THE SECOND FORM's CARD OF 'fretworklaw05.LoadSpoilt'. -/
def loadSpoiltUptoCard : Claim7 := { stood := { row := loadSpoiltUptoRow, standIns := [], harness := (true, "1e31682b20994f14e2f641a43a794ffba445bb4ad5066537717bc175ca5e3678"), looks := true }, kinds := [], alts := [], laidByText := true, laidKinds := [.data, .data, .data, .data, .handle, .pinned], laidTests := true, laidLooks := .later }
def LoadSpoiltUptoCardSaid : Prop := Claim7.holds Tryz.pinned (.plain (OpenSpec.upto loadSpoiltSpec)) loadSpoiltUptoCard

/-- THE SECOND FORM's CARD OF 'fretworklaw05.LoadBack'. -/
def loadBackUptoCard : Claim7 := { stood := { row := loadBackUptoRow, standIns := [], harness := (true, "1e31682b20994f14e2f641a43a794ffba445bb4ad5066537717bc175ca5e3678"), looks := true }, kinds := [], alts := [], laidByText := true, laidKinds := [.data, .data, .data, .data, .handle, .pinned], laidTests := true, laidLooks := .later }
def LoadBackUptoCardSaid : Prop := Claim7.holds Tryz.pinned (.plain (OpenSpec.upto loadBackSpec)) loadBackUptoCard
end Rows
end Go.Proofs.YtbbmgcdocolakaaGreatDoor
