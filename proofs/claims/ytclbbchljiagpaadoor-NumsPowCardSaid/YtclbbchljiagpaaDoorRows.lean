/-
  NARROWER THAN 'FOR EVERY INPUT', by the rows' own cells (each row's printed sentence says how): WireParcels: laid · WirePuts: laid · WireMarks: laid · WireLens: laid · WireBack: laid · NumsTwo: laid · NumsTotal: laid · NumsOrder: laid · NumsPow: laid · NumsRules: laid · NumsChoose: laid · PermMoves: laid.
  DERIVED. THE GIVEN ROWS OF THIS SEAT. 12 by the template 'for every input the law returns true; each argument reads behind the call as it read before'; 0 by the template 'total and deterministic' (their statements: YtclbbchljiagpaaDoorTotals.lean).
  GIVEN WITH THE SEED: the statements are not yours to turn. If you find one false, say at which input.
  Laid BY PROGRAM, IN A SANDBOX (cutbox-rows.mjs): the forced cells as the released guide's own fill.sh prints them over the translation d7975a2bef4d6c45… (all of the seat's roots in one cut). By AI agents, Wed Nov 11 2026. No macro, syntax, notation, axiom, sorry.
-/
import Derived.Test.YtclbbchljiagpaaDoorChecked
import GoSem.Claim
import GoSem.ClaimJoined
import GoSem.ClaimMapViews
import Derived.JoinedTies
import Derived.KernelRfl
namespace Go.Proofs.YtclbbchljiagpaaDoor
/- THE CELL 'sum', in the pinned program and in every row, IS THE sha256 OF THE DUMP (.gsa) THAT YtclbbchljiagpaaDoorProg.lean LOADS. Nothing in Lean hashes anything: it is a label: what it is worth is what the hold of that sum in a sandbox is worth. -/
noncomputable def Tryd.pinned : Pinned := { name := "ytclbbchljiagpaadoor", sum := "d7975a2bef4d6c450f52f671694c86a688f390d797b7b4d9e04b054bd08e35bf", checked := Tryd.checked }
namespace Rows
def none {H : Type} : Left H := { results := [], args := [] }

/- WHAT THE LISTED PACKAGE-LEVEL VARIABLES READ AS WHEN THE CALL BEGINS. Each datum BY PROGRAM (the guide's laid-datum.mjs) off the statement by which the dump's own 'gosem.cut.vars' lays the variable. In a bare row this is a premise. The card (YtclbbchljiagpaaDoorCards.lean) ties it to the program's text. -/
def laid_errors_errorType {H : Type} : DataW H := .iface "internal/reflectlite.rtype" (.agg [.ptr (.lit (.string [101, 114, 114, 111, 114]))])

/-- 'fretworklaw03.WireParcels': WHATEVER THE INPUT: true; the input reads as it did. -/
def wireParcelsSpec : ChangeSpec := { name := "wireParcels", fn := fun _ => fun
  | [d1, d2, d3, d4, d5] => { results := [.lit (.bool true)], args := [d1, d2, d3, d4, d5] }
  | _ => none }
def wireParcelsRow : OpenClaim := { program := "ytclbbchljiagpaadoor", sum := "d7975a2bef4d6c450f52f671694c86a688f390d797b7b4d9e04b054bd08e35bf", func := "fretwork/fretworklaw03.WireParcels", spec := "wireParcels", inPlace := ["internal/reflectlite.ValueOf", "(internal/reflectlite.Value).Type", "(internal/reflectlite.Value).IsNil", "internal/reflectlite.TypeOf", "(internal/reflectlite.Value).Elem", "(internal/reflectlite.Value).Set"], unfollowed := true, recurses := true, named := ["errors.errorType"], apart := false, laid := [("errors.errorType", laid_errors_errorType)] }
def WireParcelsSaid : Prop := wireParcelsRow.holds Tryd.pinned (OpenSpec.ofChange wireParcelsSpec)

/-- ITS FALSE NEIGHBOUR: 'it returns false'. Refute it at one input. -/
def wireParcelsWrong : ChangeSpec := { name := "wireParcels", fn := fun _ => fun
  | [d1, d2, d3, d4, d5] => { results := [.lit (.bool false)], args := [d1, d2, d3, d4, d5] }
  | _ => none }
def WireParcelsWrongFalsely : Prop := wireParcelsRow.holds Tryd.pinned (OpenSpec.ofChange wireParcelsWrong)

/-- 'fretworklaw03.WirePuts': WHATEVER THE INPUT: true; the input reads as it did. -/
def wirePutsSpec : ChangeSpec := { name := "wirePuts", fn := fun _ => fun
  | [d] => { results := [.lit (.bool true)], args := [d] }
  | _ => none }
def wirePutsRow : OpenClaim := { program := "ytclbbchljiagpaadoor", sum := "d7975a2bef4d6c450f52f671694c86a688f390d797b7b4d9e04b054bd08e35bf", func := "fretwork/fretworklaw03.WirePuts", spec := "wirePuts", inPlace := ["internal/reflectlite.ValueOf", "(internal/reflectlite.Value).Type", "(internal/reflectlite.Value).IsNil", "internal/reflectlite.TypeOf", "(internal/reflectlite.Value).Elem", "(internal/reflectlite.Value).Set"], unfollowed := true, recurses := true, named := ["errors.errorType"], apart := false, laid := [("errors.errorType", laid_errors_errorType)] }
def WirePutsSaid : Prop := wirePutsRow.holds Tryd.pinned (OpenSpec.ofChange wirePutsSpec)

/-- ITS FALSE NEIGHBOUR: 'it returns false'. Refute it at one input. -/
def wirePutsWrong : ChangeSpec := { name := "wirePuts", fn := fun _ => fun
  | [d] => { results := [.lit (.bool false)], args := [d] }
  | _ => none }
def WirePutsWrongFalsely : Prop := wirePutsRow.holds Tryd.pinned (OpenSpec.ofChange wirePutsWrong)

/-- 'fretworklaw03.WireMarks': WHATEVER THE INPUT: true; the input reads as it did. -/
def wireMarksSpec : ChangeSpec := { name := "wireMarks", fn := fun _ => fun
  | [d1, d2, d3] => { results := [.lit (.bool true)], args := [d1, d2, d3] }
  | _ => none }
def wireMarksRow : OpenClaim := { program := "ytclbbchljiagpaadoor", sum := "d7975a2bef4d6c450f52f671694c86a688f390d797b7b4d9e04b054bd08e35bf", func := "fretwork/fretworklaw03.WireMarks", spec := "wireMarks", inPlace := ["internal/reflectlite.ValueOf", "(internal/reflectlite.Value).Type", "(internal/reflectlite.Value).IsNil", "internal/reflectlite.TypeOf", "(internal/reflectlite.Value).Elem", "(internal/reflectlite.Value).Set"], unfollowed := true, recurses := true, named := ["errors.errorType"], apart := false, laid := [("errors.errorType", laid_errors_errorType)] }
def WireMarksSaid : Prop := wireMarksRow.holds Tryd.pinned (OpenSpec.ofChange wireMarksSpec)

/-- ITS FALSE NEIGHBOUR: 'it returns false'. Refute it at one input. -/
def wireMarksWrong : ChangeSpec := { name := "wireMarks", fn := fun _ => fun
  | [d1, d2, d3] => { results := [.lit (.bool false)], args := [d1, d2, d3] }
  | _ => none }
def WireMarksWrongFalsely : Prop := wireMarksRow.holds Tryd.pinned (OpenSpec.ofChange wireMarksWrong)

/-- 'fretworklaw03.WireLens': WHATEVER THE INPUT: true; the input reads as it did. -/
def wireLensSpec : ChangeSpec := { name := "wireLens", fn := fun _ => fun
  | [d1, d2, d3, d4] => { results := [.lit (.bool true)], args := [d1, d2, d3, d4] }
  | _ => none }
def wireLensRow : OpenClaim := { program := "ytclbbchljiagpaadoor", sum := "d7975a2bef4d6c450f52f671694c86a688f390d797b7b4d9e04b054bd08e35bf", func := "fretwork/fretworklaw03.WireLens", spec := "wireLens", inPlace := ["internal/reflectlite.ValueOf", "(internal/reflectlite.Value).Type", "(internal/reflectlite.Value).IsNil", "internal/reflectlite.TypeOf", "(internal/reflectlite.Value).Elem", "(internal/reflectlite.Value).Set"], unfollowed := true, recurses := true, named := ["errors.errorType"], apart := false, laid := [("errors.errorType", laid_errors_errorType)] }
def WireLensSaid : Prop := wireLensRow.holds Tryd.pinned (OpenSpec.ofChange wireLensSpec)

/-- ITS FALSE NEIGHBOUR: 'it returns false'. Refute it at one input. -/
def wireLensWrong : ChangeSpec := { name := "wireLens", fn := fun _ => fun
  | [d1, d2, d3, d4] => { results := [.lit (.bool false)], args := [d1, d2, d3, d4] }
  | _ => none }
def WireLensWrongFalsely : Prop := wireLensRow.holds Tryd.pinned (OpenSpec.ofChange wireLensWrong)

/-- 'fretworklaw03.WireBack': WHATEVER THE INPUT: true; the input reads as it did. -/
def wireBackSpec : ChangeSpec := { name := "wireBack", fn := fun _ => fun
  | [d] => { results := [.lit (.bool true)], args := [d] }
  | _ => none }
def wireBackRow : OpenClaim := { program := "ytclbbchljiagpaadoor", sum := "d7975a2bef4d6c450f52f671694c86a688f390d797b7b4d9e04b054bd08e35bf", func := "fretwork/fretworklaw03.WireBack", spec := "wireBack", inPlace := ["internal/reflectlite.ValueOf", "(internal/reflectlite.Value).Type", "(internal/reflectlite.Value).IsNil", "internal/reflectlite.TypeOf", "(internal/reflectlite.Value).Elem", "(internal/reflectlite.Value).Set"], unfollowed := true, recurses := true, named := ["errors.errorType"], apart := false, laid := [("errors.errorType", laid_errors_errorType)] }
def WireBackSaid : Prop := wireBackRow.holds Tryd.pinned (OpenSpec.ofChange wireBackSpec)

/-- ITS FALSE NEIGHBOUR: 'it returns false'. Refute it at one input. -/
def wireBackWrong : ChangeSpec := { name := "wireBack", fn := fun _ => fun
  | [d] => { results := [.lit (.bool false)], args := [d] }
  | _ => none }
def WireBackWrongFalsely : Prop := wireBackRow.holds Tryd.pinned (OpenSpec.ofChange wireBackWrong)

/-- 'fretworklaw02.NumsTwo': WHATEVER THE INPUT: true; the input reads as it did. -/
def numsTwoSpec : ChangeSpec := { name := "numsTwo", fn := fun _ => fun
  | [d1, d2] => { results := [.lit (.bool true)], args := [d1, d2] }
  | _ => none }
def numsTwoRow : OpenClaim := { program := "ytclbbchljiagpaadoor", sum := "d7975a2bef4d6c450f52f671694c86a688f390d797b7b4d9e04b054bd08e35bf", func := "fretwork/fretworklaw02.NumsTwo", spec := "numsTwo", inPlace := ["internal/reflectlite.ValueOf", "(internal/reflectlite.Value).Type", "(internal/reflectlite.Value).IsNil", "internal/reflectlite.TypeOf", "(internal/reflectlite.Value).Elem", "(internal/reflectlite.Value).Set"], unfollowed := true, recurses := true, named := ["math/bits.divideError", "math/bits.overflowError", "errors.errorType"], apart := false, laid := [("errors.errorType", laid_errors_errorType)] }
def NumsTwoSaid : Prop := numsTwoRow.holds Tryd.pinned (OpenSpec.ofChange numsTwoSpec)

/-- ITS FALSE NEIGHBOUR: 'it returns false'. Refute it at one input. -/
def numsTwoWrong : ChangeSpec := { name := "numsTwo", fn := fun _ => fun
  | [d1, d2] => { results := [.lit (.bool false)], args := [d1, d2] }
  | _ => none }
def NumsTwoWrongFalsely : Prop := numsTwoRow.holds Tryd.pinned (OpenSpec.ofChange numsTwoWrong)

/-- 'fretworklaw02.NumsTotal': WHATEVER THE INPUT: true; the input reads as it did. -/
def numsTotalSpec : ChangeSpec := { name := "numsTotal", fn := fun _ => fun
  | [d] => { results := [.lit (.bool true)], args := [d] }
  | _ => none }
def numsTotalRow : OpenClaim := { program := "ytclbbchljiagpaadoor", sum := "d7975a2bef4d6c450f52f671694c86a688f390d797b7b4d9e04b054bd08e35bf", func := "fretwork/fretworklaw02.NumsTotal", spec := "numsTotal", inPlace := ["internal/reflectlite.ValueOf", "(internal/reflectlite.Value).Type", "(internal/reflectlite.Value).IsNil", "internal/reflectlite.TypeOf", "(internal/reflectlite.Value).Elem", "(internal/reflectlite.Value).Set", "math/bits.Add64"], unfollowed := true, recurses := true, named := ["math/bits.divideError", "math/bits.overflowError", "errors.errorType"], apart := false, laid := [("errors.errorType", laid_errors_errorType)] }
def NumsTotalSaid : Prop := numsTotalRow.holds Tryd.pinned (OpenSpec.ofChange numsTotalSpec)

/-- ITS FALSE NEIGHBOUR: 'it returns false'. Refute it at one input. -/
def numsTotalWrong : ChangeSpec := { name := "numsTotal", fn := fun _ => fun
  | [d] => { results := [.lit (.bool false)], args := [d] }
  | _ => none }
def NumsTotalWrongFalsely : Prop := numsTotalRow.holds Tryd.pinned (OpenSpec.ofChange numsTotalWrong)

/-- 'fretworklaw02.NumsOrder': WHATEVER THE INPUT: true; the input reads as it did. -/
def numsOrderSpec : ChangeSpec := { name := "numsOrder", fn := fun _ => fun
  | [d1, d2, d3, d4] => { results := [.lit (.bool true)], args := [d1, d2, d3, d4] }
  | _ => none }
def numsOrderRow : OpenClaim := { program := "ytclbbchljiagpaadoor", sum := "d7975a2bef4d6c450f52f671694c86a688f390d797b7b4d9e04b054bd08e35bf", func := "fretwork/fretworklaw02.NumsOrder", spec := "numsOrder", inPlace := ["internal/reflectlite.ValueOf", "(internal/reflectlite.Value).Type", "(internal/reflectlite.Value).IsNil", "internal/reflectlite.TypeOf", "(internal/reflectlite.Value).Elem", "(internal/reflectlite.Value).Set", "math/bits.Add64"], unfollowed := true, recurses := true, named := ["math/bits.divideError", "math/bits.overflowError", "errors.errorType"], apart := false, laid := [("errors.errorType", laid_errors_errorType)] }
def NumsOrderSaid : Prop := numsOrderRow.holds Tryd.pinned (OpenSpec.ofChange numsOrderSpec)

/-- ITS FALSE NEIGHBOUR: 'it returns false'. Refute it at one input. -/
def numsOrderWrong : ChangeSpec := { name := "numsOrder", fn := fun _ => fun
  | [d1, d2, d3, d4] => { results := [.lit (.bool false)], args := [d1, d2, d3, d4] }
  | _ => none }
def NumsOrderWrongFalsely : Prop := numsOrderRow.holds Tryd.pinned (OpenSpec.ofChange numsOrderWrong)

/-- 'fretworklaw02.NumsPow': WHATEVER THE INPUT: true; the input reads as it did. -/
def numsPowSpec : ChangeSpec := { name := "numsPow", fn := fun _ => fun
  | [d1, d2, d3, d4] => { results := [.lit (.bool true)], args := [d1, d2, d3, d4] }
  | _ => none }
def numsPowRow : OpenClaim := { program := "ytclbbchljiagpaadoor", sum := "d7975a2bef4d6c450f52f671694c86a688f390d797b7b4d9e04b054bd08e35bf", func := "fretwork/fretworklaw02.NumsPow", spec := "numsPow", inPlace := ["internal/reflectlite.ValueOf", "(internal/reflectlite.Value).Type", "(internal/reflectlite.Value).IsNil", "internal/reflectlite.TypeOf", "(internal/reflectlite.Value).Elem", "(internal/reflectlite.Value).Set"], unfollowed := true, recurses := true, named := ["math/bits.divideError", "math/bits.overflowError", "errors.errorType"], apart := false, laid := [("errors.errorType", laid_errors_errorType)] }
def NumsPowSaid : Prop := numsPowRow.holds Tryd.pinned (OpenSpec.ofChange numsPowSpec)

/-- ITS FALSE NEIGHBOUR: 'it returns false'. Refute it at one input. -/
def numsPowWrong : ChangeSpec := { name := "numsPow", fn := fun _ => fun
  | [d1, d2, d3, d4] => { results := [.lit (.bool false)], args := [d1, d2, d3, d4] }
  | _ => none }
def NumsPowWrongFalsely : Prop := numsPowRow.holds Tryd.pinned (OpenSpec.ofChange numsPowWrong)

/-- 'fretworklaw02.NumsRules': WHATEVER THE INPUT: true; the input reads as it did. -/
def numsRulesSpec : ChangeSpec := { name := "numsRules", fn := fun _ => fun
  | [d1, d2, d3, d4, d5] => { results := [.lit (.bool true)], args := [d1, d2, d3, d4, d5] }
  | _ => none }
def numsRulesRow : OpenClaim := { program := "ytclbbchljiagpaadoor", sum := "d7975a2bef4d6c450f52f671694c86a688f390d797b7b4d9e04b054bd08e35bf", func := "fretwork/fretworklaw02.NumsRules", spec := "numsRules", inPlace := ["internal/reflectlite.ValueOf", "(internal/reflectlite.Value).Type", "(internal/reflectlite.Value).IsNil", "internal/reflectlite.TypeOf", "(internal/reflectlite.Value).Elem", "(internal/reflectlite.Value).Set"], unfollowed := true, recurses := true, named := ["math/bits.divideError", "math/bits.overflowError", "errors.errorType"], apart := false, laid := [("errors.errorType", laid_errors_errorType)] }
def NumsRulesSaid : Prop := numsRulesRow.holds Tryd.pinned (OpenSpec.ofChange numsRulesSpec)

/-- ITS FALSE NEIGHBOUR: 'it returns false'. Refute it at one input. -/
def numsRulesWrong : ChangeSpec := { name := "numsRules", fn := fun _ => fun
  | [d1, d2, d3, d4, d5] => { results := [.lit (.bool false)], args := [d1, d2, d3, d4, d5] }
  | _ => none }
def NumsRulesWrongFalsely : Prop := numsRulesRow.holds Tryd.pinned (OpenSpec.ofChange numsRulesWrong)

/-- 'fretworklaw02.NumsChoose': WHATEVER THE INPUT: true; the input reads as it did. -/
def numsChooseSpec : ChangeSpec := { name := "numsChoose", fn := fun _ => fun
  | [d1, d2] => { results := [.lit (.bool true)], args := [d1, d2] }
  | _ => none }
def numsChooseRow : OpenClaim := { program := "ytclbbchljiagpaadoor", sum := "d7975a2bef4d6c450f52f671694c86a688f390d797b7b4d9e04b054bd08e35bf", func := "fretwork/fretworklaw02.NumsChoose", spec := "numsChoose", inPlace := ["internal/reflectlite.ValueOf", "(internal/reflectlite.Value).Type", "(internal/reflectlite.Value).IsNil", "internal/reflectlite.TypeOf", "(internal/reflectlite.Value).Elem", "(internal/reflectlite.Value).Set", "math/bits.Add64"], unfollowed := true, recurses := true, named := ["math/bits.divideError", "math/bits.overflowError", "errors.errorType"], apart := false, laid := [("errors.errorType", laid_errors_errorType)] }
def NumsChooseSaid : Prop := numsChooseRow.holds Tryd.pinned (OpenSpec.ofChange numsChooseSpec)

/-- ITS FALSE NEIGHBOUR: 'it returns false'. Refute it at one input. -/
def numsChooseWrong : ChangeSpec := { name := "numsChoose", fn := fun _ => fun
  | [d1, d2] => { results := [.lit (.bool false)], args := [d1, d2] }
  | _ => none }
def NumsChooseWrongFalsely : Prop := numsChooseRow.holds Tryd.pinned (OpenSpec.ofChange numsChooseWrong)

/-- 'fretworklaw07.PermMoves': WHATEVER THE INPUT: true; the input reads as it did. -/
def permMovesSpec : ChangeSpec := { name := "permMoves", fn := fun _ => fun
  | [d1, d2, d3, d4] => { results := [.lit (.bool true)], args := [d1, d2, d3, d4] }
  | _ => none }
def permMovesRow : OpenClaim := { program := "ytclbbchljiagpaadoor", sum := "d7975a2bef4d6c450f52f671694c86a688f390d797b7b4d9e04b054bd08e35bf", func := "fretwork/fretworklaw07.PermMoves", spec := "permMoves", inPlace := ["internal/reflectlite.ValueOf", "(internal/reflectlite.Value).Type", "(internal/reflectlite.Value).IsNil", "internal/reflectlite.TypeOf", "(internal/reflectlite.Value).Elem", "(internal/reflectlite.Value).Set"], unfollowed := true, recurses := true, named := ["errors.errorType"], apart := false, laid := [("errors.errorType", laid_errors_errorType)] }
def PermMovesSaid : Prop := permMovesRow.holds Tryd.pinned (OpenSpec.ofChange permMovesSpec)

/-- ITS FALSE NEIGHBOUR: 'it returns false'. Refute it at one input. -/
def permMovesWrong : ChangeSpec := { name := "permMoves", fn := fun _ => fun
  | [d1, d2, d3, d4] => { results := [.lit (.bool false)], args := [d1, d2, d3, d4] }
  | _ => none }
def PermMovesWrongFalsely : Prop := permMovesRow.holds Tryd.pinned (OpenSpec.ofChange permMovesWrong)

/- THE SECOND FORM. 'bulk': how many values and letters a reading holds, each counted each time it is reached (what is shared counts as often as it is met; a slice's spare places count too). A statement '..UptoSaid' is the law's where the arguments, and the package variables that the reading takes, are together of bulk at most 1048576: NARROWER than '..Said'. Prove '..Said' where nothing that the law and all that it calls make is longer than what came in: it says more and counts as full. Else prove '..UptoSaid'. A law counts once. -/
mutual
def uptoBulk {H : Type} : DataW H → Nat
  | .lit (.string bytes) => bytes.length + 1
  | .lit _ => 1
  | .nil => 1
  | .ptr d => uptoBulk d + 1
  | .slice elems spare => uptoBulkAll elems + uptoBulkAll spare + 1
  | .agg parts => uptoBulkAll parts + 1
  | .iface _ d => uptoBulk d + 1
  | .map entries => uptoBulkEntries entries + 1
  | .held _ => 1
def uptoBulkAll {H : Type} : List (DataW H) → Nat
  | [] => 0
  | d :: r => uptoBulk d + uptoBulkAll r
def uptoBulkEntries {H : Type} : List (Lit × DataW H) → Nat
  | [] => 0
  | x :: r => uptoBulkEntry x + uptoBulkEntries r
def uptoBulkEntry {H : Type} : Lit × DataW H → Nat
  | (.string bytes, d) => bytes.length + uptoBulk d + 1
  | (_, d) => uptoBulk d + 1
 end
def uptoSmall : (H : Type) → List (DataW H) → Bool := fun _ ds => decide (uptoBulkAll ds ≤ 1048576)
def OpenSpec.upto (s : _root_.Go.ChangeSpec) : _root_.Go.OpenSpec := { _root_.Go.OpenSpec.ofChange s with cond := some uptoSmall }

/-- 'fretworklaw03.WireParcels', WHERE WHAT IT READS IS OF BULK AT MOST 1048576: true; the input reads as it did. -/
def wireParcelsUptoRow : OpenClaim := { program := "ytclbbchljiagpaadoor", sum := "d7975a2bef4d6c450f52f671694c86a688f390d797b7b4d9e04b054bd08e35bf", func := "fretwork/fretworklaw03.WireParcels", spec := "wireParcels", inPlace := ["internal/reflectlite.ValueOf", "(internal/reflectlite.Value).Type", "(internal/reflectlite.Value).IsNil", "internal/reflectlite.TypeOf", "(internal/reflectlite.Value).Elem", "(internal/reflectlite.Value).Set"], unfollowed := true, recurses := true, named := ["errors.errorType"], apart := false, laid := [("errors.errorType", laid_errors_errorType)], narrowed := true }
def WireParcelsUptoSaid : Prop := wireParcelsUptoRow.holds Tryd.pinned (OpenSpec.upto wireParcelsSpec)

/-- 'fretworklaw03.WirePuts', WHERE WHAT IT READS IS OF BULK AT MOST 1048576: true; the input reads as it did. -/
def wirePutsUptoRow : OpenClaim := { program := "ytclbbchljiagpaadoor", sum := "d7975a2bef4d6c450f52f671694c86a688f390d797b7b4d9e04b054bd08e35bf", func := "fretwork/fretworklaw03.WirePuts", spec := "wirePuts", inPlace := ["internal/reflectlite.ValueOf", "(internal/reflectlite.Value).Type", "(internal/reflectlite.Value).IsNil", "internal/reflectlite.TypeOf", "(internal/reflectlite.Value).Elem", "(internal/reflectlite.Value).Set"], unfollowed := true, recurses := true, named := ["errors.errorType"], apart := false, laid := [("errors.errorType", laid_errors_errorType)], narrowed := true }
def WirePutsUptoSaid : Prop := wirePutsUptoRow.holds Tryd.pinned (OpenSpec.upto wirePutsSpec)

/-- 'fretworklaw03.WireMarks', WHERE WHAT IT READS IS OF BULK AT MOST 1048576: true; the input reads as it did. -/
def wireMarksUptoRow : OpenClaim := { program := "ytclbbchljiagpaadoor", sum := "d7975a2bef4d6c450f52f671694c86a688f390d797b7b4d9e04b054bd08e35bf", func := "fretwork/fretworklaw03.WireMarks", spec := "wireMarks", inPlace := ["internal/reflectlite.ValueOf", "(internal/reflectlite.Value).Type", "(internal/reflectlite.Value).IsNil", "internal/reflectlite.TypeOf", "(internal/reflectlite.Value).Elem", "(internal/reflectlite.Value).Set"], unfollowed := true, recurses := true, named := ["errors.errorType"], apart := false, laid := [("errors.errorType", laid_errors_errorType)], narrowed := true }
def WireMarksUptoSaid : Prop := wireMarksUptoRow.holds Tryd.pinned (OpenSpec.upto wireMarksSpec)

/-- 'fretworklaw03.WireLens', WHERE WHAT IT READS IS OF BULK AT MOST 1048576: true; the input reads as it did. -/
def wireLensUptoRow : OpenClaim := { program := "ytclbbchljiagpaadoor", sum := "d7975a2bef4d6c450f52f671694c86a688f390d797b7b4d9e04b054bd08e35bf", func := "fretwork/fretworklaw03.WireLens", spec := "wireLens", inPlace := ["internal/reflectlite.ValueOf", "(internal/reflectlite.Value).Type", "(internal/reflectlite.Value).IsNil", "internal/reflectlite.TypeOf", "(internal/reflectlite.Value).Elem", "(internal/reflectlite.Value).Set"], unfollowed := true, recurses := true, named := ["errors.errorType"], apart := false, laid := [("errors.errorType", laid_errors_errorType)], narrowed := true }
def WireLensUptoSaid : Prop := wireLensUptoRow.holds Tryd.pinned (OpenSpec.upto wireLensSpec)

/-- 'fretworklaw03.WireBack', WHERE WHAT IT READS IS OF BULK AT MOST 1048576: true; the input reads as it did. -/
def wireBackUptoRow : OpenClaim := { program := "ytclbbchljiagpaadoor", sum := "d7975a2bef4d6c450f52f671694c86a688f390d797b7b4d9e04b054bd08e35bf", func := "fretwork/fretworklaw03.WireBack", spec := "wireBack", inPlace := ["internal/reflectlite.ValueOf", "(internal/reflectlite.Value).Type", "(internal/reflectlite.Value).IsNil", "internal/reflectlite.TypeOf", "(internal/reflectlite.Value).Elem", "(internal/reflectlite.Value).Set"], unfollowed := true, recurses := true, named := ["errors.errorType"], apart := false, laid := [("errors.errorType", laid_errors_errorType)], narrowed := true }
def WireBackUptoSaid : Prop := wireBackUptoRow.holds Tryd.pinned (OpenSpec.upto wireBackSpec)

/-- 'fretworklaw02.NumsTwo', WHERE WHAT IT READS IS OF BULK AT MOST 1048576: true; the input reads as it did. -/
def numsTwoUptoRow : OpenClaim := { program := "ytclbbchljiagpaadoor", sum := "d7975a2bef4d6c450f52f671694c86a688f390d797b7b4d9e04b054bd08e35bf", func := "fretwork/fretworklaw02.NumsTwo", spec := "numsTwo", inPlace := ["internal/reflectlite.ValueOf", "(internal/reflectlite.Value).Type", "(internal/reflectlite.Value).IsNil", "internal/reflectlite.TypeOf", "(internal/reflectlite.Value).Elem", "(internal/reflectlite.Value).Set"], unfollowed := true, recurses := true, named := ["math/bits.divideError", "math/bits.overflowError", "errors.errorType"], apart := false, laid := [("errors.errorType", laid_errors_errorType)], narrowed := true }
def NumsTwoUptoSaid : Prop := numsTwoUptoRow.holds Tryd.pinned (OpenSpec.upto numsTwoSpec)

/-- 'fretworklaw02.NumsTotal', WHERE WHAT IT READS IS OF BULK AT MOST 1048576: true; the input reads as it did. -/
def numsTotalUptoRow : OpenClaim := { program := "ytclbbchljiagpaadoor", sum := "d7975a2bef4d6c450f52f671694c86a688f390d797b7b4d9e04b054bd08e35bf", func := "fretwork/fretworklaw02.NumsTotal", spec := "numsTotal", inPlace := ["internal/reflectlite.ValueOf", "(internal/reflectlite.Value).Type", "(internal/reflectlite.Value).IsNil", "internal/reflectlite.TypeOf", "(internal/reflectlite.Value).Elem", "(internal/reflectlite.Value).Set", "math/bits.Add64"], unfollowed := true, recurses := true, named := ["math/bits.divideError", "math/bits.overflowError", "errors.errorType"], apart := false, laid := [("errors.errorType", laid_errors_errorType)], narrowed := true }
def NumsTotalUptoSaid : Prop := numsTotalUptoRow.holds Tryd.pinned (OpenSpec.upto numsTotalSpec)

/-- 'fretworklaw02.NumsOrder', WHERE WHAT IT READS IS OF BULK AT MOST 1048576: true; the input reads as it did. -/
def numsOrderUptoRow : OpenClaim := { program := "ytclbbchljiagpaadoor", sum := "d7975a2bef4d6c450f52f671694c86a688f390d797b7b4d9e04b054bd08e35bf", func := "fretwork/fretworklaw02.NumsOrder", spec := "numsOrder", inPlace := ["internal/reflectlite.ValueOf", "(internal/reflectlite.Value).Type", "(internal/reflectlite.Value).IsNil", "internal/reflectlite.TypeOf", "(internal/reflectlite.Value).Elem", "(internal/reflectlite.Value).Set", "math/bits.Add64"], unfollowed := true, recurses := true, named := ["math/bits.divideError", "math/bits.overflowError", "errors.errorType"], apart := false, laid := [("errors.errorType", laid_errors_errorType)], narrowed := true }
def NumsOrderUptoSaid : Prop := numsOrderUptoRow.holds Tryd.pinned (OpenSpec.upto numsOrderSpec)

/-- 'fretworklaw02.NumsPow', WHERE WHAT IT READS IS OF BULK AT MOST 1048576: true; the input reads as it did. -/
def numsPowUptoRow : OpenClaim := { program := "ytclbbchljiagpaadoor", sum := "d7975a2bef4d6c450f52f671694c86a688f390d797b7b4d9e04b054bd08e35bf", func := "fretwork/fretworklaw02.NumsPow", spec := "numsPow", inPlace := ["internal/reflectlite.ValueOf", "(internal/reflectlite.Value).Type", "(internal/reflectlite.Value).IsNil", "internal/reflectlite.TypeOf", "(internal/reflectlite.Value).Elem", "(internal/reflectlite.Value).Set"], unfollowed := true, recurses := true, named := ["math/bits.divideError", "math/bits.overflowError", "errors.errorType"], apart := false, laid := [("errors.errorType", laid_errors_errorType)], narrowed := true }
def NumsPowUptoSaid : Prop := numsPowUptoRow.holds Tryd.pinned (OpenSpec.upto numsPowSpec)

/-- 'fretworklaw02.NumsRules', WHERE WHAT IT READS IS OF BULK AT MOST 1048576: true; the input reads as it did. -/
def numsRulesUptoRow : OpenClaim := { program := "ytclbbchljiagpaadoor", sum := "d7975a2bef4d6c450f52f671694c86a688f390d797b7b4d9e04b054bd08e35bf", func := "fretwork/fretworklaw02.NumsRules", spec := "numsRules", inPlace := ["internal/reflectlite.ValueOf", "(internal/reflectlite.Value).Type", "(internal/reflectlite.Value).IsNil", "internal/reflectlite.TypeOf", "(internal/reflectlite.Value).Elem", "(internal/reflectlite.Value).Set"], unfollowed := true, recurses := true, named := ["math/bits.divideError", "math/bits.overflowError", "errors.errorType"], apart := false, laid := [("errors.errorType", laid_errors_errorType)], narrowed := true }
def NumsRulesUptoSaid : Prop := numsRulesUptoRow.holds Tryd.pinned (OpenSpec.upto numsRulesSpec)

/-- 'fretworklaw02.NumsChoose', WHERE WHAT IT READS IS OF BULK AT MOST 1048576: true; the input reads as it did. -/
def numsChooseUptoRow : OpenClaim := { program := "ytclbbchljiagpaadoor", sum := "d7975a2bef4d6c450f52f671694c86a688f390d797b7b4d9e04b054bd08e35bf", func := "fretwork/fretworklaw02.NumsChoose", spec := "numsChoose", inPlace := ["internal/reflectlite.ValueOf", "(internal/reflectlite.Value).Type", "(internal/reflectlite.Value).IsNil", "internal/reflectlite.TypeOf", "(internal/reflectlite.Value).Elem", "(internal/reflectlite.Value).Set", "math/bits.Add64"], unfollowed := true, recurses := true, named := ["math/bits.divideError", "math/bits.overflowError", "errors.errorType"], apart := false, laid := [("errors.errorType", laid_errors_errorType)], narrowed := true }
def NumsChooseUptoSaid : Prop := numsChooseUptoRow.holds Tryd.pinned (OpenSpec.upto numsChooseSpec)

/-- 'fretworklaw07.PermMoves', WHERE WHAT IT READS IS OF BULK AT MOST 1048576: true; the input reads as it did. -/
def permMovesUptoRow : OpenClaim := { program := "ytclbbchljiagpaadoor", sum := "d7975a2bef4d6c450f52f671694c86a688f390d797b7b4d9e04b054bd08e35bf", func := "fretwork/fretworklaw07.PermMoves", spec := "permMoves", inPlace := ["internal/reflectlite.ValueOf", "(internal/reflectlite.Value).Type", "(internal/reflectlite.Value).IsNil", "internal/reflectlite.TypeOf", "(internal/reflectlite.Value).Elem", "(internal/reflectlite.Value).Set"], unfollowed := true, recurses := true, named := ["errors.errorType"], apart := false, laid := [("errors.errorType", laid_errors_errorType)], narrowed := true }
def PermMovesUptoSaid : Prop := permMovesUptoRow.holds Tryd.pinned (OpenSpec.upto permMovesSpec)

end Rows
end Go.Proofs.YtclbbchljiagpaaDoor
