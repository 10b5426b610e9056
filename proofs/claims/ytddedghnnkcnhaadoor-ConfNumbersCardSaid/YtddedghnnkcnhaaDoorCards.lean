/-
  DERIVED. GIVEN WITH THE SEED: THE CARDS: each row of YtddedghnnkcnhaaDoorRows.lean that lists a variable, with what it lists TIED to the program's text (the seventh form; the later family's looks); each row that meets fmt, with fmt's text TOLD by the authors' own Lean function (tested against real Go, not proved from fmt's source: count such statements apart). THE CARD IS WHAT COUNTS. Prove the row's statement (the work); the ties are given (YtddedghnnkcnhaaDoorTie.lean); close each card by the builder's one call (the guide's Derived/Test/ToyasCard.lean, 'card_holds'). Laid BY PROGRAM, IN A SANDBOX (cutbox-door.mjs). By AI agents, Wed Nov 11 2026. No macro, syntax, notation, axiom, sorry.
-/
import Derived.Test.YtddedghnnkcnhaaDoorRows
import GoSem.ClaimSeven
namespace Go.Proofs.YtddedghnnkcnhaaDoor
namespace Rows

/-- THE TIED CARD OF 'fretworklaw22.ConfNumbers'. -/
def confNumbersCard : Claim7 := { stood := { row := confNumbersRow, standIns := [], harness := (true, "9a092d2f3298bbcc0a354bdcc3371059a1c4e612b09a8ba45fa01ca2dac3d05e"), looks := true }, kinds := [], alts := [], laidByText := true, laidKinds := [.data, .data, .data, .data, .handle, .sentinel, .sentinel, .pinned], laidTests := true, laidLooks := .later }
def ConfNumbersCardSaid : Prop := Claim7.holds Tryd.pinned (.plain (OpenSpec.ofChange confNumbersSpec)) confNumbersCard

/-- THE SECOND FORM's CARD OF 'fretworklaw22.ConfNumbers'. -/
def confNumbersUptoCard : Claim7 := { stood := { row := confNumbersUptoRow, standIns := [], harness := (true, "9a092d2f3298bbcc0a354bdcc3371059a1c4e612b09a8ba45fa01ca2dac3d05e"), looks := true }, kinds := [], alts := [], laidByText := true, laidKinds := [.data, .data, .data, .data, .handle, .sentinel, .sentinel, .pinned], laidTests := true, laidLooks := .later }
def ConfNumbersUptoCardSaid : Prop := Claim7.holds Tryd.pinned (.plain (OpenSpec.upto confNumbersSpec)) confNumbersUptoCard
end Rows
end Go.Proofs.YtddedghnnkcnhaaDoor
