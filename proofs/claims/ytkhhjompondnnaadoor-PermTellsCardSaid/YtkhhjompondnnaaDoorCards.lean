/-
  DERIVED. GIVEN WITH THE SEED: THE CARDS: each row of YtkhhjompondnnaaDoorRows.lean that lists a variable, with what it lists TIED to the program's text (the seventh form; the later family's looks); each row that meets fmt, with fmt's text TOLD by the authors' own Lean function (tested against real Go, not proved from fmt's source: count such statements apart). THE CARD IS WHAT COUNTS. Prove the row's statement (the work); the ties are given (YtkhhjompondnnaaDoorTie.lean); close each card by the builder's one call (the guide's Derived/Test/ToyasCard.lean, 'card_holds'). Laid BY PROGRAM, IN A SANDBOX (cutbox-door.mjs). By AI agents, Wed Nov 11 2026. No macro, syntax, notation, axiom, sorry.
-/
import Derived.Test.YtkhhjompondnnaaDoorRows
import GoSem.ClaimSeven
namespace Go.Proofs.YtkhhjompondnnaaDoor
namespace Rows

/-- THE TIED CARD OF 'fretworklaw14.RankSplit'. -/
def rankSplitCard : Claim7 := { stood := { row := rankSplitRow, standIns := [], harness := (true, "1b1fe6b2f15e435afcca95450d3fca42067ddd6268435839f561de8283b0e5aa"), looks := true }, kinds := [], alts := [], laidByText := true, laidKinds := [.handle], laidTests := true, laidLooks := .later }
def RankSplitCardSaid : Prop := Claim7.holds Tryd.pinned (.plain (OpenSpec.ofChange rankSplitSpec)) rankSplitCard

/-- THE TIED CARD OF 'fretworklaw03.WireParcels'. -/
def wireParcelsCard : Claim7 := { stood := { row := wireParcelsRow, standIns := [], harness := (true, "1b1fe6b2f15e435afcca95450d3fca42067ddd6268435839f561de8283b0e5aa"), looks := true }, kinds := [], alts := [], laidByText := true, laidKinds := [.handle], laidTests := true, laidLooks := .later }
def WireParcelsCardSaid : Prop := Claim7.holds Tryd.pinned (.plain (OpenSpec.ofChange wireParcelsSpec)) wireParcelsCard

/-- THE TIED CARD OF 'fretworklaw07.PermTells'. -/
def permTellsCard : Claim7 := { stood := { row := permTellsRow, standIns := [], harness := (true, "1b1fe6b2f15e435afcca95450d3fca42067ddd6268435839f561de8283b0e5aa"), looks := true }, kinds := [], alts := [], laidByText := true, laidKinds := [.handle], laidTests := true, laidLooks := .later }
def PermTellsCardSaid : Prop := Claim7.holds Tryd.pinned (.plain (OpenSpec.ofChange permTellsSpec)) permTellsCard

/-- THE TIED CARD OF 'fretworklaw03.WirePuts'. -/
def wirePutsCard : Claim7 := { stood := { row := wirePutsRow, standIns := [], harness := (true, "1b1fe6b2f15e435afcca95450d3fca42067ddd6268435839f561de8283b0e5aa"), looks := true }, kinds := [], alts := [], laidByText := true, laidKinds := [.handle], laidTests := true, laidLooks := .later }
def WirePutsCardSaid : Prop := Claim7.holds Tryd.pinned (.plain (OpenSpec.ofChange wirePutsSpec)) wirePutsCard

/-- THE TIED CARD OF 'fretworklaw07.PermLists'. -/
def permListsCard : Claim7 := { stood := { row := permListsRow, standIns := [], harness := (true, "1b1fe6b2f15e435afcca95450d3fca42067ddd6268435839f561de8283b0e5aa"), looks := true }, kinds := [], alts := [], laidByText := true, laidKinds := [.handle], laidTests := true, laidLooks := .later }
def PermListsCardSaid : Prop := Claim7.holds Tryd.pinned (.plain (OpenSpec.ofChange permListsSpec)) permListsCard

/-- THE TIED CARD OF 'fretworklaw01.FaultTells'. -/
def faultTellsCard : Claim7 := { stood := { row := faultTellsRow, standIns := [], harness := (true, "1b1fe6b2f15e435afcca95450d3fca42067ddd6268435839f561de8283b0e5aa"), looks := true }, kinds := [], alts := [], laidByText := true, laidKinds := [.handle], laidTests := true, laidLooks := .later }
def FaultTellsCardSaid : Prop := Claim7.holds Tryd.pinned (.plain (OpenSpec.ofChange faultTellsSpec)) faultTellsCard

/-- THE TIED CARD OF 'fretworklaw01.FaultDeep'. -/
def faultDeepCard : Claim7 := { stood := { row := faultDeepRow, standIns := [], harness := (true, "1b1fe6b2f15e435afcca95450d3fca42067ddd6268435839f561de8283b0e5aa"), looks := true }, kinds := [], alts := [], laidByText := true, laidKinds := [.handle], laidTests := true, laidLooks := .later }
def FaultDeepCardSaid : Prop := Claim7.holds Tryd.pinned (.plain (OpenSpec.ofChange faultDeepSpec)) faultDeepCard

/-- THE TIED CARD OF 'fretworklaw01.FaultApart'. -/
def faultApartCard : Claim7 := { stood := { row := faultApartRow, standIns := [], harness := (true, "1b1fe6b2f15e435afcca95450d3fca42067ddd6268435839f561de8283b0e5aa"), looks := true }, kinds := [], alts := [], laidByText := true, laidKinds := [.handle], laidTests := true, laidLooks := .later }
def FaultApartCardSaid : Prop := Claim7.holds Tryd.pinned (.plain (OpenSpec.ofChange faultApartSpec)) faultApartCard

/-- THE TIED CARD OF 'fretworklaw01.FaultFirst'. -/
def faultFirstCard : Claim7 := { stood := { row := faultFirstRow, standIns := [], harness := (true, "1b1fe6b2f15e435afcca95450d3fca42067ddd6268435839f561de8283b0e5aa"), looks := true }, kinds := [], alts := [], laidByText := true, laidKinds := [.handle], laidTests := true, laidLooks := .later }
def FaultFirstCardSaid : Prop := Claim7.holds Tryd.pinned (.plain (OpenSpec.ofChange faultFirstSpec)) faultFirstCard

/-- THE TIED CARD OF 'fretworklaw07.PermRules'. -/
def permRulesCard : Claim7 := { stood := { row := permRulesRow, standIns := [], harness := (true, "1b1fe6b2f15e435afcca95450d3fca42067ddd6268435839f561de8283b0e5aa"), looks := true }, kinds := [], alts := [], laidByText := true, laidKinds := [.handle], laidTests := true, laidLooks := .later }
def PermRulesCardSaid : Prop := Claim7.holds Tryd.pinned (.plain (OpenSpec.ofChange permRulesSpec)) permRulesCard

/-- THE TIED CARD OF 'fretworklaw01.FaultNil'. -/
def faultNilCard : Claim7 := { stood := { row := faultNilRow, standIns := [], harness := (true, "1b1fe6b2f15e435afcca95450d3fca42067ddd6268435839f561de8283b0e5aa"), looks := true }, kinds := [], alts := [], laidByText := true, laidKinds := [.handle], laidTests := true, laidLooks := .later }
def FaultNilCardSaid : Prop := Claim7.holds Tryd.pinned (.plain (OpenSpec.ofChange faultNilSpec)) faultNilCard

/-- THE TIED CARD OF 'fretworklaw03.WireMarks'. -/
def wireMarksCard : Claim7 := { stood := { row := wireMarksRow, standIns := [], harness := (true, "1b1fe6b2f15e435afcca95450d3fca42067ddd6268435839f561de8283b0e5aa"), looks := true }, kinds := [], alts := [], laidByText := true, laidKinds := [.handle], laidTests := true, laidLooks := .later }
def WireMarksCardSaid : Prop := Claim7.holds Tryd.pinned (.plain (OpenSpec.ofChange wireMarksSpec)) wireMarksCard

/-- THE SECOND FORM's CARD OF 'fretworklaw14.RankSplit'. -/
def rankSplitUptoCard : Claim7 := { stood := { row := rankSplitUptoRow, standIns := [], harness := (true, "1b1fe6b2f15e435afcca95450d3fca42067ddd6268435839f561de8283b0e5aa"), looks := true }, kinds := [], alts := [], laidByText := true, laidKinds := [.handle], laidTests := true, laidLooks := .later }
def RankSplitUptoCardSaid : Prop := Claim7.holds Tryd.pinned (.plain (OpenSpec.upto rankSplitSpec)) rankSplitUptoCard

/-- THE SECOND FORM's CARD OF 'fretworklaw03.WireParcels'. -/
def wireParcelsUptoCard : Claim7 := { stood := { row := wireParcelsUptoRow, standIns := [], harness := (true, "1b1fe6b2f15e435afcca95450d3fca42067ddd6268435839f561de8283b0e5aa"), looks := true }, kinds := [], alts := [], laidByText := true, laidKinds := [.handle], laidTests := true, laidLooks := .later }
def WireParcelsUptoCardSaid : Prop := Claim7.holds Tryd.pinned (.plain (OpenSpec.upto wireParcelsSpec)) wireParcelsUptoCard

/-- THE SECOND FORM's CARD OF 'fretworklaw07.PermTells'. -/
def permTellsUptoCard : Claim7 := { stood := { row := permTellsUptoRow, standIns := [], harness := (true, "1b1fe6b2f15e435afcca95450d3fca42067ddd6268435839f561de8283b0e5aa"), looks := true }, kinds := [], alts := [], laidByText := true, laidKinds := [.handle], laidTests := true, laidLooks := .later }
def PermTellsUptoCardSaid : Prop := Claim7.holds Tryd.pinned (.plain (OpenSpec.upto permTellsSpec)) permTellsUptoCard

/-- THE SECOND FORM's CARD OF 'fretworklaw03.WirePuts'. -/
def wirePutsUptoCard : Claim7 := { stood := { row := wirePutsUptoRow, standIns := [], harness := (true, "1b1fe6b2f15e435afcca95450d3fca42067ddd6268435839f561de8283b0e5aa"), looks := true }, kinds := [], alts := [], laidByText := true, laidKinds := [.handle], laidTests := true, laidLooks := .later }
def WirePutsUptoCardSaid : Prop := Claim7.holds Tryd.pinned (.plain (OpenSpec.upto wirePutsSpec)) wirePutsUptoCard

/-- THE SECOND FORM's CARD OF 'fretworklaw07.PermLists'. -/
def permListsUptoCard : Claim7 := { stood := { row := permListsUptoRow, standIns := [], harness := (true, "1b1fe6b2f15e435afcca95450d3fca42067ddd6268435839f561de8283b0e5aa"), looks := true }, kinds := [], alts := [], laidByText := true, laidKinds := [.handle], laidTests := true, laidLooks := .later }
def PermListsUptoCardSaid : Prop := Claim7.holds Tryd.pinned (.plain (OpenSpec.upto permListsSpec)) permListsUptoCard

/-- THE SECOND FORM's CARD OF 'fretworklaw01.FaultTells'. -/
def faultTellsUptoCard : Claim7 := { stood := { row := faultTellsUptoRow, standIns := [], harness := (true, "1b1fe6b2f15e435afcca95450d3fca42067ddd6268435839f561de8283b0e5aa"), looks := true }, kinds := [], alts := [], laidByText := true, laidKinds := [.handle], laidTests := true, laidLooks := .later }
def FaultTellsUptoCardSaid : Prop := Claim7.holds Tryd.pinned (.plain (OpenSpec.upto faultTellsSpec)) faultTellsUptoCard

/-- THE SECOND FORM's CARD OF 'fretworklaw01.FaultDeep'. -/
def faultDeepUptoCard : Claim7 := { stood := { row := faultDeepUptoRow, standIns := [], harness := (true, "1b1fe6b2f15e435afcca95450d3fca42067ddd6268435839f561de8283b0e5aa"), looks := true }, kinds := [], alts := [], laidByText := true, laidKinds := [.handle], laidTests := true, laidLooks := .later }
def FaultDeepUptoCardSaid : Prop := Claim7.holds Tryd.pinned (.plain (OpenSpec.upto faultDeepSpec)) faultDeepUptoCard

/-- THE SECOND FORM's CARD OF 'fretworklaw01.FaultApart'. -/
def faultApartUptoCard : Claim7 := { stood := { row := faultApartUptoRow, standIns := [], harness := (true, "1b1fe6b2f15e435afcca95450d3fca42067ddd6268435839f561de8283b0e5aa"), looks := true }, kinds := [], alts := [], laidByText := true, laidKinds := [.handle], laidTests := true, laidLooks := .later }
def FaultApartUptoCardSaid : Prop := Claim7.holds Tryd.pinned (.plain (OpenSpec.upto faultApartSpec)) faultApartUptoCard

/-- THE SECOND FORM's CARD OF 'fretworklaw01.FaultFirst'. -/
def faultFirstUptoCard : Claim7 := { stood := { row := faultFirstUptoRow, standIns := [], harness := (true, "1b1fe6b2f15e435afcca95450d3fca42067ddd6268435839f561de8283b0e5aa"), looks := true }, kinds := [], alts := [], laidByText := true, laidKinds := [.handle], laidTests := true, laidLooks := .later }
def FaultFirstUptoCardSaid : Prop := Claim7.holds Tryd.pinned (.plain (OpenSpec.upto faultFirstSpec)) faultFirstUptoCard

/-- THE SECOND FORM's CARD OF 'fretworklaw07.PermRules'. -/
def permRulesUptoCard : Claim7 := { stood := { row := permRulesUptoRow, standIns := [], harness := (true, "1b1fe6b2f15e435afcca95450d3fca42067ddd6268435839f561de8283b0e5aa"), looks := true }, kinds := [], alts := [], laidByText := true, laidKinds := [.handle], laidTests := true, laidLooks := .later }
def PermRulesUptoCardSaid : Prop := Claim7.holds Tryd.pinned (.plain (OpenSpec.upto permRulesSpec)) permRulesUptoCard

/-- THE SECOND FORM's CARD OF 'fretworklaw01.FaultNil'. -/
def faultNilUptoCard : Claim7 := { stood := { row := faultNilUptoRow, standIns := [], harness := (true, "1b1fe6b2f15e435afcca95450d3fca42067ddd6268435839f561de8283b0e5aa"), looks := true }, kinds := [], alts := [], laidByText := true, laidKinds := [.handle], laidTests := true, laidLooks := .later }
def FaultNilUptoCardSaid : Prop := Claim7.holds Tryd.pinned (.plain (OpenSpec.upto faultNilSpec)) faultNilUptoCard

/-- THE SECOND FORM's CARD OF 'fretworklaw03.WireMarks'. -/
def wireMarksUptoCard : Claim7 := { stood := { row := wireMarksUptoRow, standIns := [], harness := (true, "1b1fe6b2f15e435afcca95450d3fca42067ddd6268435839f561de8283b0e5aa"), looks := true }, kinds := [], alts := [], laidByText := true, laidKinds := [.handle], laidTests := true, laidLooks := .later }
def WireMarksUptoCardSaid : Prop := Claim7.holds Tryd.pinned (.plain (OpenSpec.upto wireMarksSpec)) wireMarksUptoCard
end Rows
end Go.Proofs.YtkhhjompondnnaaDoor
