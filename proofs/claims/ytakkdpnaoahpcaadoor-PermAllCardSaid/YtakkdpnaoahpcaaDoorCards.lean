/-
  DERIVED. GIVEN WITH THE SEED: THE CARDS: each row of YtakkdpnaoahpcaaDoorRows.lean that lists a variable, with what it lists TIED to the program's text (the seventh form; the later family's looks); each row that meets fmt, with fmt's text TOLD by the authors' own Lean function (tested against real Go, not proved from fmt's source: count such statements apart). THE CARD IS WHAT COUNTS. Prove the row's statement (the work); the ties are given (YtakkdpnaoahpcaaDoorTie.lean); close each card by the builder's one call (the guide's Derived/Test/ToyasCard.lean, 'card_holds'). Laid BY PROGRAM, IN A SANDBOX (cutbox-door.mjs). By AI agents, Wed Nov 11 2026. No macro, syntax, notation, axiom, sorry.
-/
import Derived.Test.YtakkdpnaoahpcaaDoorRows
import GoSem.ClaimSeven
namespace Go.Proofs.YtakkdpnaoahpcaaDoor
namespace Rows

/-- THE TIED CARD OF 'fretworklaw07.PermAll'. -/
def permAllCard : Claim7 := { stood := { row := permAllRow, standIns := [], harness := (true, "af4cbb766541115c2bcb62074393de55b428ff925e1620afa3eb62e44acb24d4"), looks := true }, kinds := [], alts := [], laidByText := true, laidKinds := [.handle], laidTests := true, laidLooks := .later }
def PermAllCardSaid : Prop := Claim7.holds Tryd.pinned (.plain (OpenSpec.ofChange permAllSpec)) permAllCard

/-- THE SECOND FORM's CARD OF 'fretworklaw07.PermAll'. -/
def permAllUptoCard : Claim7 := { stood := { row := permAllUptoRow, standIns := [], harness := (true, "af4cbb766541115c2bcb62074393de55b428ff925e1620afa3eb62e44acb24d4"), looks := true }, kinds := [], alts := [], laidByText := true, laidKinds := [.handle], laidTests := true, laidLooks := .later }
def PermAllUptoCardSaid : Prop := Claim7.holds Tryd.pinned (.plain (OpenSpec.upto permAllSpec)) permAllUptoCard
end Rows
end Go.Proofs.YtakkdpnaoahpcaaDoor
