/-
  DERIVED. GIVEN WITH THE SEED: THE CARDS: each row of YtclbbchljiagpaaDoorRows.lean that lists a variable, with what it lists TIED to the program's text (the seventh form; the later family's looks); each row that meets fmt, with fmt's text TOLD by the authors' own Lean function (tested against real Go, not proved from fmt's source: count such statements apart). THE CARD IS WHAT COUNTS. Prove the row's statement (the work); the ties are given (YtclbbchljiagpaaDoorTie.lean); close each card by the builder's one call (the guide's Derived/Test/ToyasCard.lean, 'card_holds'). Laid BY PROGRAM, IN A SANDBOX (cutbox-door.mjs). By AI agents, Wed Nov 11 2026. No macro, syntax, notation, axiom, sorry.
-/
import Derived.Test.YtclbbchljiagpaaDoorRows
import GoSem.ClaimSeven
namespace Go.Proofs.YtclbbchljiagpaaDoor
namespace Rows

/-- THE TIED CARD OF 'fretworklaw03.WireParcels'. -/
def wireParcelsCard : Claim7 := { stood := { row := wireParcelsRow, standIns := [], harness := (true, "ff4aec0cd90021772111e05481821703b6930ef04ba685c46395cc716f5830ed"), looks := true }, kinds := [], alts := [], laidByText := true, laidKinds := [.handle], laidTests := true, laidLooks := .later }
def WireParcelsCardSaid : Prop := Claim7.holds Tryd.pinned (.plain (OpenSpec.ofChange wireParcelsSpec)) wireParcelsCard

/-- THE TIED CARD OF 'fretworklaw03.WirePuts'. -/
def wirePutsCard : Claim7 := { stood := { row := wirePutsRow, standIns := [], harness := (true, "ff4aec0cd90021772111e05481821703b6930ef04ba685c46395cc716f5830ed"), looks := true }, kinds := [], alts := [], laidByText := true, laidKinds := [.handle], laidTests := true, laidLooks := .later }
def WirePutsCardSaid : Prop := Claim7.holds Tryd.pinned (.plain (OpenSpec.ofChange wirePutsSpec)) wirePutsCard

/-- THE TIED CARD OF 'fretworklaw03.WireMarks'. -/
def wireMarksCard : Claim7 := { stood := { row := wireMarksRow, standIns := [], harness := (true, "ff4aec0cd90021772111e05481821703b6930ef04ba685c46395cc716f5830ed"), looks := true }, kinds := [], alts := [], laidByText := true, laidKinds := [.handle], laidTests := true, laidLooks := .later }
def WireMarksCardSaid : Prop := Claim7.holds Tryd.pinned (.plain (OpenSpec.ofChange wireMarksSpec)) wireMarksCard

/-- THE TIED CARD OF 'fretworklaw03.WireLens'. -/
def wireLensCard : Claim7 := { stood := { row := wireLensRow, standIns := [], harness := (true, "ff4aec0cd90021772111e05481821703b6930ef04ba685c46395cc716f5830ed"), looks := true }, kinds := [], alts := [], laidByText := true, laidKinds := [.handle], laidTests := true, laidLooks := .later }
def WireLensCardSaid : Prop := Claim7.holds Tryd.pinned (.plain (OpenSpec.ofChange wireLensSpec)) wireLensCard

/-- THE TIED CARD OF 'fretworklaw03.WireBack'. -/
def wireBackCard : Claim7 := { stood := { row := wireBackRow, standIns := [], harness := (true, "ff4aec0cd90021772111e05481821703b6930ef04ba685c46395cc716f5830ed"), looks := true }, kinds := [], alts := [], laidByText := true, laidKinds := [.handle], laidTests := true, laidLooks := .later }
def WireBackCardSaid : Prop := Claim7.holds Tryd.pinned (.plain (OpenSpec.ofChange wireBackSpec)) wireBackCard

/-- THE TIED CARD OF 'fretworklaw02.NumsTwo'. -/
def numsTwoCard : Claim7 := { stood := { row := numsTwoRow, standIns := [], harness := (true, "ff4aec0cd90021772111e05481821703b6930ef04ba685c46395cc716f5830ed"), looks := true }, kinds := [], alts := [], laidByText := true, laidKinds := [.handle], laidTests := true, laidLooks := .later }
def NumsTwoCardSaid : Prop := Claim7.holds Tryd.pinned (.plain (OpenSpec.ofChange numsTwoSpec)) numsTwoCard

/-- THE TIED CARD OF 'fretworklaw02.NumsTotal'. -/
def numsTotalCard : Claim7 := { stood := { row := numsTotalRow, standIns := [], harness := (true, "ff4aec0cd90021772111e05481821703b6930ef04ba685c46395cc716f5830ed"), looks := true }, kinds := [], alts := [], laidByText := true, laidKinds := [.handle], laidTests := true, laidLooks := .later }
def NumsTotalCardSaid : Prop := Claim7.holds Tryd.pinned (.plain (OpenSpec.ofChange numsTotalSpec)) numsTotalCard

/-- THE TIED CARD OF 'fretworklaw02.NumsOrder'. -/
def numsOrderCard : Claim7 := { stood := { row := numsOrderRow, standIns := [], harness := (true, "ff4aec0cd90021772111e05481821703b6930ef04ba685c46395cc716f5830ed"), looks := true }, kinds := [], alts := [], laidByText := true, laidKinds := [.handle], laidTests := true, laidLooks := .later }
def NumsOrderCardSaid : Prop := Claim7.holds Tryd.pinned (.plain (OpenSpec.ofChange numsOrderSpec)) numsOrderCard

/-- THE TIED CARD OF 'fretworklaw02.NumsPow'. -/
def numsPowCard : Claim7 := { stood := { row := numsPowRow, standIns := [], harness := (true, "ff4aec0cd90021772111e05481821703b6930ef04ba685c46395cc716f5830ed"), looks := true }, kinds := [], alts := [], laidByText := true, laidKinds := [.handle], laidTests := true, laidLooks := .later }
def NumsPowCardSaid : Prop := Claim7.holds Tryd.pinned (.plain (OpenSpec.ofChange numsPowSpec)) numsPowCard

/-- THE TIED CARD OF 'fretworklaw02.NumsRules'. -/
def numsRulesCard : Claim7 := { stood := { row := numsRulesRow, standIns := [], harness := (true, "ff4aec0cd90021772111e05481821703b6930ef04ba685c46395cc716f5830ed"), looks := true }, kinds := [], alts := [], laidByText := true, laidKinds := [.handle], laidTests := true, laidLooks := .later }
def NumsRulesCardSaid : Prop := Claim7.holds Tryd.pinned (.plain (OpenSpec.ofChange numsRulesSpec)) numsRulesCard

/-- THE TIED CARD OF 'fretworklaw02.NumsChoose'. -/
def numsChooseCard : Claim7 := { stood := { row := numsChooseRow, standIns := [], harness := (true, "ff4aec0cd90021772111e05481821703b6930ef04ba685c46395cc716f5830ed"), looks := true }, kinds := [], alts := [], laidByText := true, laidKinds := [.handle], laidTests := true, laidLooks := .later }
def NumsChooseCardSaid : Prop := Claim7.holds Tryd.pinned (.plain (OpenSpec.ofChange numsChooseSpec)) numsChooseCard

/-- THE TIED CARD OF 'fretworklaw07.PermMoves'. -/
def permMovesCard : Claim7 := { stood := { row := permMovesRow, standIns := [], harness := (true, "ff4aec0cd90021772111e05481821703b6930ef04ba685c46395cc716f5830ed"), looks := true }, kinds := [], alts := [], laidByText := true, laidKinds := [.handle], laidTests := true, laidLooks := .later }
def PermMovesCardSaid : Prop := Claim7.holds Tryd.pinned (.plain (OpenSpec.ofChange permMovesSpec)) permMovesCard

/-- THE SECOND FORM's CARD OF 'fretworklaw03.WireParcels'. -/
def wireParcelsUptoCard : Claim7 := { stood := { row := wireParcelsUptoRow, standIns := [], harness := (true, "ff4aec0cd90021772111e05481821703b6930ef04ba685c46395cc716f5830ed"), looks := true }, kinds := [], alts := [], laidByText := true, laidKinds := [.handle], laidTests := true, laidLooks := .later }
def WireParcelsUptoCardSaid : Prop := Claim7.holds Tryd.pinned (.plain (OpenSpec.upto wireParcelsSpec)) wireParcelsUptoCard

/-- THE SECOND FORM's CARD OF 'fretworklaw03.WirePuts'. -/
def wirePutsUptoCard : Claim7 := { stood := { row := wirePutsUptoRow, standIns := [], harness := (true, "ff4aec0cd90021772111e05481821703b6930ef04ba685c46395cc716f5830ed"), looks := true }, kinds := [], alts := [], laidByText := true, laidKinds := [.handle], laidTests := true, laidLooks := .later }
def WirePutsUptoCardSaid : Prop := Claim7.holds Tryd.pinned (.plain (OpenSpec.upto wirePutsSpec)) wirePutsUptoCard

/-- THE SECOND FORM's CARD OF 'fretworklaw03.WireMarks'. -/
def wireMarksUptoCard : Claim7 := { stood := { row := wireMarksUptoRow, standIns := [], harness := (true, "ff4aec0cd90021772111e05481821703b6930ef04ba685c46395cc716f5830ed"), looks := true }, kinds := [], alts := [], laidByText := true, laidKinds := [.handle], laidTests := true, laidLooks := .later }
def WireMarksUptoCardSaid : Prop := Claim7.holds Tryd.pinned (.plain (OpenSpec.upto wireMarksSpec)) wireMarksUptoCard

/-- THE SECOND FORM's CARD OF 'fretworklaw03.WireLens'. -/
def wireLensUptoCard : Claim7 := { stood := { row := wireLensUptoRow, standIns := [], harness := (true, "ff4aec0cd90021772111e05481821703b6930ef04ba685c46395cc716f5830ed"), looks := true }, kinds := [], alts := [], laidByText := true, laidKinds := [.handle], laidTests := true, laidLooks := .later }
def WireLensUptoCardSaid : Prop := Claim7.holds Tryd.pinned (.plain (OpenSpec.upto wireLensSpec)) wireLensUptoCard

/-- THE SECOND FORM's CARD OF 'fretworklaw03.WireBack'. -/
def wireBackUptoCard : Claim7 := { stood := { row := wireBackUptoRow, standIns := [], harness := (true, "ff4aec0cd90021772111e05481821703b6930ef04ba685c46395cc716f5830ed"), looks := true }, kinds := [], alts := [], laidByText := true, laidKinds := [.handle], laidTests := true, laidLooks := .later }
def WireBackUptoCardSaid : Prop := Claim7.holds Tryd.pinned (.plain (OpenSpec.upto wireBackSpec)) wireBackUptoCard

/-- THE SECOND FORM's CARD OF 'fretworklaw02.NumsTwo'. -/
def numsTwoUptoCard : Claim7 := { stood := { row := numsTwoUptoRow, standIns := [], harness := (true, "ff4aec0cd90021772111e05481821703b6930ef04ba685c46395cc716f5830ed"), looks := true }, kinds := [], alts := [], laidByText := true, laidKinds := [.handle], laidTests := true, laidLooks := .later }
def NumsTwoUptoCardSaid : Prop := Claim7.holds Tryd.pinned (.plain (OpenSpec.upto numsTwoSpec)) numsTwoUptoCard

/-- THE SECOND FORM's CARD OF 'fretworklaw02.NumsTotal'. -/
def numsTotalUptoCard : Claim7 := { stood := { row := numsTotalUptoRow, standIns := [], harness := (true, "ff4aec0cd90021772111e05481821703b6930ef04ba685c46395cc716f5830ed"), looks := true }, kinds := [], alts := [], laidByText := true, laidKinds := [.handle], laidTests := true, laidLooks := .later }
def NumsTotalUptoCardSaid : Prop := Claim7.holds Tryd.pinned (.plain (OpenSpec.upto numsTotalSpec)) numsTotalUptoCard

/-- THE SECOND FORM's CARD OF 'fretworklaw02.NumsOrder'. -/
def numsOrderUptoCard : Claim7 := { stood := { row := numsOrderUptoRow, standIns := [], harness := (true, "ff4aec0cd90021772111e05481821703b6930ef04ba685c46395cc716f5830ed"), looks := true }, kinds := [], alts := [], laidByText := true, laidKinds := [.handle], laidTests := true, laidLooks := .later }
def NumsOrderUptoCardSaid : Prop := Claim7.holds Tryd.pinned (.plain (OpenSpec.upto numsOrderSpec)) numsOrderUptoCard

/-- THE SECOND FORM's CARD OF 'fretworklaw02.NumsPow'. -/
def numsPowUptoCard : Claim7 := { stood := { row := numsPowUptoRow, standIns := [], harness := (true, "ff4aec0cd90021772111e05481821703b6930ef04ba685c46395cc716f5830ed"), looks := true }, kinds := [], alts := [], laidByText := true, laidKinds := [.handle], laidTests := true, laidLooks := .later }
def NumsPowUptoCardSaid : Prop := Claim7.holds Tryd.pinned (.plain (OpenSpec.upto numsPowSpec)) numsPowUptoCard

/-- THE SECOND FORM's CARD OF 'fretworklaw02.NumsRules'. -/
def numsRulesUptoCard : Claim7 := { stood := { row := numsRulesUptoRow, standIns := [], harness := (true, "ff4aec0cd90021772111e05481821703b6930ef04ba685c46395cc716f5830ed"), looks := true }, kinds := [], alts := [], laidByText := true, laidKinds := [.handle], laidTests := true, laidLooks := .later }
def NumsRulesUptoCardSaid : Prop := Claim7.holds Tryd.pinned (.plain (OpenSpec.upto numsRulesSpec)) numsRulesUptoCard

/-- THE SECOND FORM's CARD OF 'fretworklaw02.NumsChoose'. -/
def numsChooseUptoCard : Claim7 := { stood := { row := numsChooseUptoRow, standIns := [], harness := (true, "ff4aec0cd90021772111e05481821703b6930ef04ba685c46395cc716f5830ed"), looks := true }, kinds := [], alts := [], laidByText := true, laidKinds := [.handle], laidTests := true, laidLooks := .later }
def NumsChooseUptoCardSaid : Prop := Claim7.holds Tryd.pinned (.plain (OpenSpec.upto numsChooseSpec)) numsChooseUptoCard

/-- THE SECOND FORM's CARD OF 'fretworklaw07.PermMoves'. -/
def permMovesUptoCard : Claim7 := { stood := { row := permMovesUptoRow, standIns := [], harness := (true, "ff4aec0cd90021772111e05481821703b6930ef04ba685c46395cc716f5830ed"), looks := true }, kinds := [], alts := [], laidByText := true, laidKinds := [.handle], laidTests := true, laidLooks := .later }
def PermMovesUptoCardSaid : Prop := Claim7.holds Tryd.pinned (.plain (OpenSpec.upto permMovesSpec)) permMovesUptoCard
end Rows
end Go.Proofs.YtclbbchljiagpaaDoor
