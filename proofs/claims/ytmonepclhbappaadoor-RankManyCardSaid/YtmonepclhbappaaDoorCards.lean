/-
  DERIVED. GIVEN WITH THE SEED: THE CARDS: each row of YtmonepclhbappaaDoorRows.lean that lists a variable, with what it lists TIED to the program's text (the seventh form; the later family's looks); each row that meets fmt, with fmt's text TOLD by the authors' own Lean function (tested against real Go, not proved from fmt's source: count such statements apart). THE CARD IS WHAT COUNTS. Prove the row's statement (the work); the ties are given (YtmonepclhbappaaDoorTie.lean); close each card by the builder's one call (the guide's Derived/Test/ToyasCard.lean, 'card_holds'). Laid BY PROGRAM, IN A SANDBOX (cutbox-door.mjs). By AI agents, Wed Nov 11 2026. No macro, syntax, notation, axiom, sorry.
-/
import Derived.Test.YtmonepclhbappaaDoorRows
import GoSem.ClaimSeven
namespace Go.Proofs.YtmonepclhbappaaDoor
namespace Rows

/-- THE TIED CARD OF 'fretworklaw08.PatOrder'. -/
def patOrderCard : Claim7 := { stood := { row := patOrderRow, standIns := [], harness := (true, "5faf5390cfc4d53b0322b04b5880cb02f7a152a43f00a308a5ecd509bd407907"), looks := true }, kinds := [], alts := [], laidByText := true, laidKinds := [.data, .data, .data, .handle], laidTests := true, laidLooks := .later }
def PatOrderCardSaid : Prop := Claim7.holds Tryd.pinned (.plain (OpenSpec.ofChange patOrderSpec)) patOrderCard

/-- THE TIED CARD OF 'fretworklaw13.OdagLengths'. -/
def odagLengthsCard : Claim7 := { stood := { row := odagLengthsRow, standIns := [], harness := (true, "5faf5390cfc4d53b0322b04b5880cb02f7a152a43f00a308a5ecd509bd407907"), looks := true }, kinds := [], alts := [], laidByText := true, laidKinds := [.handle], laidTests := true, laidLooks := .later }
def OdagLengthsCardSaid : Prop := Claim7.holds Tryd.pinned (.plain (OpenSpec.ofChange odagLengthsSpec)) odagLengthsCard

/-- THE TIED CARD OF 'fretworklaw13.OdagPaths'. -/
def odagPathsCard : Claim7 := { stood := { row := odagPathsRow, standIns := [], harness := (true, "5faf5390cfc4d53b0322b04b5880cb02f7a152a43f00a308a5ecd509bd407907"), looks := true }, kinds := [], alts := [], laidByText := true, laidKinds := [.handle], laidTests := true, laidLooks := .later }
def OdagPathsCardSaid : Prop := Claim7.holds Tryd.pinned (.plain (OpenSpec.ofChange odagPathsSpec)) odagPathsCard

/-- THE TIED CARD OF 'fretworklaw14.RankParts'. -/
def rankPartsCard : Claim7 := { stood := { row := rankPartsRow, standIns := [], harness := (true, "5faf5390cfc4d53b0322b04b5880cb02f7a152a43f00a308a5ecd509bd407907"), looks := true }, kinds := [], alts := [], laidByText := true, laidKinds := [.handle], laidTests := true, laidLooks := .later }
def RankPartsCardSaid : Prop := Claim7.holds Tryd.pinned (.plain (OpenSpec.ofChange rankPartsSpec)) rankPartsCard

/-- THE TIED CARD OF 'fretworklaw14.RankBounds'. -/
def rankBoundsCard : Claim7 := { stood := { row := rankBoundsRow, standIns := [], harness := (true, "5faf5390cfc4d53b0322b04b5880cb02f7a152a43f00a308a5ecd509bd407907"), looks := true }, kinds := [], alts := [], laidByText := true, laidKinds := [.handle], laidTests := true, laidLooks := .later }
def RankBoundsCardSaid : Prop := Claim7.holds Tryd.pinned (.plain (OpenSpec.ofChange rankBoundsSpec)) rankBoundsCard

/-- THE TIED CARD OF 'fretworklaw13.OdagAdds'. -/
def odagAddsCard : Claim7 := { stood := { row := odagAddsRow, standIns := [], harness := (true, "5faf5390cfc4d53b0322b04b5880cb02f7a152a43f00a308a5ecd509bd407907"), looks := true }, kinds := [], alts := [], laidByText := true, laidKinds := [.handle], laidTests := true, laidLooks := .later }
def OdagAddsCardSaid : Prop := Claim7.holds Tryd.pinned (.plain (OpenSpec.ofChange odagAddsSpec)) odagAddsCard

/-- THE TIED CARD OF 'fretworklaw14.RankAt'. -/
def rankAtCard : Claim7 := { stood := { row := rankAtRow, standIns := [], harness := (true, "5faf5390cfc4d53b0322b04b5880cb02f7a152a43f00a308a5ecd509bd407907"), looks := true }, kinds := [], alts := [], laidByText := true, laidKinds := [.handle], laidTests := true, laidLooks := .later }
def RankAtCardSaid : Prop := Claim7.holds Tryd.pinned (.plain (OpenSpec.ofChange rankAtSpec)) rankAtCard

/-- THE TIED CARD OF 'fretworklaw14.RankSteps'. -/
def rankStepsCard : Claim7 := { stood := { row := rankStepsRow, standIns := [], harness := (true, "5faf5390cfc4d53b0322b04b5880cb02f7a152a43f00a308a5ecd509bd407907"), looks := true }, kinds := [], alts := [], laidByText := true, laidKinds := [.handle], laidTests := true, laidLooks := .later }
def RankStepsCardSaid : Prop := Claim7.holds Tryd.pinned (.plain (OpenSpec.ofChange rankStepsSpec)) rankStepsCard

/-- THE TIED CARD OF 'fretworklaw14.RankMany'. -/
def rankManyCard : Claim7 := { stood := { row := rankManyRow, standIns := [], harness := (true, "5faf5390cfc4d53b0322b04b5880cb02f7a152a43f00a308a5ecd509bd407907"), looks := true }, kinds := [], alts := [], laidByText := true, laidKinds := [.handle], laidTests := true, laidLooks := .later }
def RankManyCardSaid : Prop := Claim7.holds Tryd.pinned (.plain (OpenSpec.ofChange rankManySpec)) rankManyCard

/-- THE SECOND FORM's CARD OF 'fretworklaw08.PatOrder'. -/
def patOrderUptoCard : Claim7 := { stood := { row := patOrderUptoRow, standIns := [], harness := (true, "5faf5390cfc4d53b0322b04b5880cb02f7a152a43f00a308a5ecd509bd407907"), looks := true }, kinds := [], alts := [], laidByText := true, laidKinds := [.data, .data, .data, .handle], laidTests := true, laidLooks := .later }
def PatOrderUptoCardSaid : Prop := Claim7.holds Tryd.pinned (.plain (OpenSpec.upto patOrderSpec)) patOrderUptoCard

/-- THE SECOND FORM's CARD OF 'fretworklaw13.OdagLengths'. -/
def odagLengthsUptoCard : Claim7 := { stood := { row := odagLengthsUptoRow, standIns := [], harness := (true, "5faf5390cfc4d53b0322b04b5880cb02f7a152a43f00a308a5ecd509bd407907"), looks := true }, kinds := [], alts := [], laidByText := true, laidKinds := [.handle], laidTests := true, laidLooks := .later }
def OdagLengthsUptoCardSaid : Prop := Claim7.holds Tryd.pinned (.plain (OpenSpec.upto odagLengthsSpec)) odagLengthsUptoCard

/-- THE SECOND FORM's CARD OF 'fretworklaw13.OdagPaths'. -/
def odagPathsUptoCard : Claim7 := { stood := { row := odagPathsUptoRow, standIns := [], harness := (true, "5faf5390cfc4d53b0322b04b5880cb02f7a152a43f00a308a5ecd509bd407907"), looks := true }, kinds := [], alts := [], laidByText := true, laidKinds := [.handle], laidTests := true, laidLooks := .later }
def OdagPathsUptoCardSaid : Prop := Claim7.holds Tryd.pinned (.plain (OpenSpec.upto odagPathsSpec)) odagPathsUptoCard

/-- THE SECOND FORM's CARD OF 'fretworklaw14.RankParts'. -/
def rankPartsUptoCard : Claim7 := { stood := { row := rankPartsUptoRow, standIns := [], harness := (true, "5faf5390cfc4d53b0322b04b5880cb02f7a152a43f00a308a5ecd509bd407907"), looks := true }, kinds := [], alts := [], laidByText := true, laidKinds := [.handle], laidTests := true, laidLooks := .later }
def RankPartsUptoCardSaid : Prop := Claim7.holds Tryd.pinned (.plain (OpenSpec.upto rankPartsSpec)) rankPartsUptoCard

/-- THE SECOND FORM's CARD OF 'fretworklaw14.RankBounds'. -/
def rankBoundsUptoCard : Claim7 := { stood := { row := rankBoundsUptoRow, standIns := [], harness := (true, "5faf5390cfc4d53b0322b04b5880cb02f7a152a43f00a308a5ecd509bd407907"), looks := true }, kinds := [], alts := [], laidByText := true, laidKinds := [.handle], laidTests := true, laidLooks := .later }
def RankBoundsUptoCardSaid : Prop := Claim7.holds Tryd.pinned (.plain (OpenSpec.upto rankBoundsSpec)) rankBoundsUptoCard

/-- THE SECOND FORM's CARD OF 'fretworklaw13.OdagAdds'. -/
def odagAddsUptoCard : Claim7 := { stood := { row := odagAddsUptoRow, standIns := [], harness := (true, "5faf5390cfc4d53b0322b04b5880cb02f7a152a43f00a308a5ecd509bd407907"), looks := true }, kinds := [], alts := [], laidByText := true, laidKinds := [.handle], laidTests := true, laidLooks := .later }
def OdagAddsUptoCardSaid : Prop := Claim7.holds Tryd.pinned (.plain (OpenSpec.upto odagAddsSpec)) odagAddsUptoCard

/-- THE SECOND FORM's CARD OF 'fretworklaw14.RankAt'. -/
def rankAtUptoCard : Claim7 := { stood := { row := rankAtUptoRow, standIns := [], harness := (true, "5faf5390cfc4d53b0322b04b5880cb02f7a152a43f00a308a5ecd509bd407907"), looks := true }, kinds := [], alts := [], laidByText := true, laidKinds := [.handle], laidTests := true, laidLooks := .later }
def RankAtUptoCardSaid : Prop := Claim7.holds Tryd.pinned (.plain (OpenSpec.upto rankAtSpec)) rankAtUptoCard

/-- THE SECOND FORM's CARD OF 'fretworklaw14.RankSteps'. -/
def rankStepsUptoCard : Claim7 := { stood := { row := rankStepsUptoRow, standIns := [], harness := (true, "5faf5390cfc4d53b0322b04b5880cb02f7a152a43f00a308a5ecd509bd407907"), looks := true }, kinds := [], alts := [], laidByText := true, laidKinds := [.handle], laidTests := true, laidLooks := .later }
def RankStepsUptoCardSaid : Prop := Claim7.holds Tryd.pinned (.plain (OpenSpec.upto rankStepsSpec)) rankStepsUptoCard

/-- THE SECOND FORM's CARD OF 'fretworklaw14.RankMany'. -/
def rankManyUptoCard : Claim7 := { stood := { row := rankManyUptoRow, standIns := [], harness := (true, "5faf5390cfc4d53b0322b04b5880cb02f7a152a43f00a308a5ecd509bd407907"), looks := true }, kinds := [], alts := [], laidByText := true, laidKinds := [.handle], laidTests := true, laidLooks := .later }
def RankManyUptoCardSaid : Prop := Claim7.holds Tryd.pinned (.plain (OpenSpec.upto rankManySpec)) rankManyUptoCard
end Rows
end Go.Proofs.YtmonepclhbappaaDoor
