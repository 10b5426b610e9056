/-
  NARROWER THAN 'FOR EVERY INPUT', by the rows' own cells (each row's printed sentence says how): RankSplit: laid · WireParcels: laid · PermTells: laid · WirePuts: laid · PermLists: laid · FaultTells: laid · FaultDeep: laid · FaultApart: laid · FaultFirst: laid · PermRules: laid · FaultNil: laid · WireMarks: laid.
  DERIVED. THE GIVEN ROWS OF THIS SEAT. 12 by the template 'for every input the law returns true; each argument reads behind the call as it read before'; 0 by the template 'total and deterministic' (their statements: YtkhhjompondnnaaDoorTotals.lean).
  GIVEN WITH THE SEED: the statements are not yours to turn. If you find one false, say at which input.
  Laid BY PROGRAM, IN A SANDBOX (cutbox-rows.mjs): the forced cells as the released guide's own fill.sh prints them over the translation 5a77a74ac050b3a7… (all of the seat's roots in one cut). By AI agents, Wed Nov 11 2026. No macro, syntax, notation, axiom, sorry.
-/
import Derived.Test.YtkhhjompondnnaaDoorChecked
import GoSem.Claim
import GoSem.ClaimJoined
import GoSem.ClaimMapViews
import Derived.JoinedTies
import Derived.KernelRfl
namespace Go.Proofs.YtkhhjompondnnaaDoor
/- THE CELL 'sum', in the pinned program and in every row, IS THE sha256 OF THE DUMP (.gsa) THAT YtkhhjompondnnaaDoorProg.lean LOADS. Nothing in Lean hashes anything: it is a label: what it is worth is what the hold of that sum in a sandbox is worth. -/
noncomputable def Tryd.pinned : Pinned := { name := "ytkhhjompondnnaadoor", sum := "5a77a74ac050b3a7de415634769942a21282684d0b4488e4d44b49493f898798", checked := Tryd.checked }
namespace Rows
def none {H : Type} : Left H := { results := [], args := [] }

/- WHAT THE LISTED PACKAGE-LEVEL VARIABLES READ AS WHEN THE CALL BEGINS. Each datum BY PROGRAM (the guide's laid-datum.mjs) off the statement by which the dump's own 'gosem.cut.vars' lays the variable. In a bare row this is a premise. The card (YtkhhjompondnnaaDoorCards.lean) ties it to the program's text. -/
def laid_errors_errorType {H : Type} : DataW H := .iface "internal/reflectlite.rtype" (.agg [.ptr (.lit (.string [101, 114, 114, 111, 114]))])

/-- 'fretworklaw14.RankSplit': WHATEVER THE INPUT: true; the input reads as it did. -/
def rankSplitSpec : ChangeSpec := { name := "rankSplit", fn := fun _ => fun
  | [d1, d2, d3] => { results := [.lit (.bool true)], args := [d1, d2, d3] }
  | _ => none }
def rankSplitRow : OpenClaim := { program := "ytkhhjompondnnaadoor", sum := "5a77a74ac050b3a7de415634769942a21282684d0b4488e4d44b49493f898798", func := "fretwork/fretworklaw14.RankSplit", spec := "rankSplit", inPlace := ["internal/reflectlite.ValueOf", "(internal/reflectlite.Value).Type", "(internal/reflectlite.Value).IsNil", "internal/reflectlite.TypeOf", "(internal/reflectlite.Value).Elem", "(internal/reflectlite.Value).Set"], unfollowed := true, recurses := true, named := ["errors.errorType"], apart := false, laid := [("errors.errorType", laid_errors_errorType)] }
def RankSplitSaid : Prop := rankSplitRow.holds Tryd.pinned (OpenSpec.ofChange rankSplitSpec)

/-- ITS FALSE NEIGHBOUR: 'it returns false'. Refute it at one input. -/
def rankSplitWrong : ChangeSpec := { name := "rankSplit", fn := fun _ => fun
  | [d1, d2, d3] => { results := [.lit (.bool false)], args := [d1, d2, d3] }
  | _ => none }
def RankSplitWrongFalsely : Prop := rankSplitRow.holds Tryd.pinned (OpenSpec.ofChange rankSplitWrong)

/-- 'fretworklaw03.WireParcels': WHATEVER THE INPUT: true; the input reads as it did. -/
def wireParcelsSpec : ChangeSpec := { name := "wireParcels", fn := fun _ => fun
  | [d1, d2, d3, d4, d5] => { results := [.lit (.bool true)], args := [d1, d2, d3, d4, d5] }
  | _ => none }
def wireParcelsRow : OpenClaim := { program := "ytkhhjompondnnaadoor", sum := "5a77a74ac050b3a7de415634769942a21282684d0b4488e4d44b49493f898798", func := "fretwork/fretworklaw03.WireParcels", spec := "wireParcels", inPlace := ["internal/reflectlite.ValueOf", "(internal/reflectlite.Value).Type", "(internal/reflectlite.Value).IsNil", "internal/reflectlite.TypeOf", "(internal/reflectlite.Value).Elem", "(internal/reflectlite.Value).Set"], unfollowed := true, recurses := true, named := ["errors.errorType"], apart := false, laid := [("errors.errorType", laid_errors_errorType)] }
def WireParcelsSaid : Prop := wireParcelsRow.holds Tryd.pinned (OpenSpec.ofChange wireParcelsSpec)

/-- ITS FALSE NEIGHBOUR: 'it returns false'. Refute it at one input. -/
def wireParcelsWrong : ChangeSpec := { name := "wireParcels", fn := fun _ => fun
  | [d1, d2, d3, d4, d5] => { results := [.lit (.bool false)], args := [d1, d2, d3, d4, d5] }
  | _ => none }
def WireParcelsWrongFalsely : Prop := wireParcelsRow.holds Tryd.pinned (OpenSpec.ofChange wireParcelsWrong)

/-- 'fretworklaw07.PermTells': WHATEVER THE INPUT: true; the input reads as it did. -/
def permTellsSpec : ChangeSpec := { name := "permTells", fn := fun _ => fun
  | [d1, d2, d3] => { results := [.lit (.bool true)], args := [d1, d2, d3] }
  | _ => none }
def permTellsRow : OpenClaim := { program := "ytkhhjompondnnaadoor", sum := "5a77a74ac050b3a7de415634769942a21282684d0b4488e4d44b49493f898798", func := "fretwork/fretworklaw07.PermTells", spec := "permTells", inPlace := ["internal/reflectlite.ValueOf", "(internal/reflectlite.Value).Type", "(internal/reflectlite.Value).IsNil", "internal/reflectlite.TypeOf", "(internal/reflectlite.Value).Elem", "(internal/reflectlite.Value).Set"], unfollowed := true, recurses := true, named := ["errors.errorType"], apart := false, laid := [("errors.errorType", laid_errors_errorType)] }
def PermTellsSaid : Prop := permTellsRow.holds Tryd.pinned (OpenSpec.ofChange permTellsSpec)

/-- ITS FALSE NEIGHBOUR: 'it returns false'. Refute it at one input. -/
def permTellsWrong : ChangeSpec := { name := "permTells", fn := fun _ => fun
  | [d1, d2, d3] => { results := [.lit (.bool false)], args := [d1, d2, d3] }
  | _ => none }
def PermTellsWrongFalsely : Prop := permTellsRow.holds Tryd.pinned (OpenSpec.ofChange permTellsWrong)

/-- 'fretworklaw03.WirePuts': WHATEVER THE INPUT: true; the input reads as it did. -/
def wirePutsSpec : ChangeSpec := { name := "wirePuts", fn := fun _ => fun
  | [d] => { results := [.lit (.bool true)], args := [d] }
  | _ => none }
def wirePutsRow : OpenClaim := { program := "ytkhhjompondnnaadoor", sum := "5a77a74ac050b3a7de415634769942a21282684d0b4488e4d44b49493f898798", func := "fretwork/fretworklaw03.WirePuts", spec := "wirePuts", inPlace := ["internal/reflectlite.ValueOf", "(internal/reflectlite.Value).Type", "(internal/reflectlite.Value).IsNil", "internal/reflectlite.TypeOf", "(internal/reflectlite.Value).Elem", "(internal/reflectlite.Value).Set"], unfollowed := true, recurses := true, named := ["errors.errorType"], apart := false, laid := [("errors.errorType", laid_errors_errorType)] }
def WirePutsSaid : Prop := wirePutsRow.holds Tryd.pinned (OpenSpec.ofChange wirePutsSpec)

/-- ITS FALSE NEIGHBOUR: 'it returns false'. Refute it at one input. -/
def wirePutsWrong : ChangeSpec := { name := "wirePuts", fn := fun _ => fun
  | [d] => { results := [.lit (.bool false)], args := [d] }
  | _ => none }
def WirePutsWrongFalsely : Prop := wirePutsRow.holds Tryd.pinned (OpenSpec.ofChange wirePutsWrong)

/-- 'fretworklaw07.PermLists': WHATEVER THE INPUT: true; the input reads as it did. -/
def permListsSpec : ChangeSpec := { name := "permLists", fn := fun _ => fun
  | [d1, d2, d3, d4] => { results := [.lit (.bool true)], args := [d1, d2, d3, d4] }
  | _ => none }
def permListsRow : OpenClaim := { program := "ytkhhjompondnnaadoor", sum := "5a77a74ac050b3a7de415634769942a21282684d0b4488e4d44b49493f898798", func := "fretwork/fretworklaw07.PermLists", spec := "permLists", inPlace := ["internal/reflectlite.ValueOf", "(internal/reflectlite.Value).Type", "(internal/reflectlite.Value).IsNil", "internal/reflectlite.TypeOf", "(internal/reflectlite.Value).Elem", "(internal/reflectlite.Value).Set"], unfollowed := true, recurses := true, named := ["errors.errorType"], apart := false, laid := [("errors.errorType", laid_errors_errorType)] }
def PermListsSaid : Prop := permListsRow.holds Tryd.pinned (OpenSpec.ofChange permListsSpec)

/-- ITS FALSE NEIGHBOUR: 'it returns false'. Refute it at one input. -/
def permListsWrong : ChangeSpec := { name := "permLists", fn := fun _ => fun
  | [d1, d2, d3, d4] => { results := [.lit (.bool false)], args := [d1, d2, d3, d4] }
  | _ => none }
def PermListsWrongFalsely : Prop := permListsRow.holds Tryd.pinned (OpenSpec.ofChange permListsWrong)

/-- 'fretworklaw01.FaultTells': WHATEVER THE INPUT: true; the input reads as it did. -/
def faultTellsSpec : ChangeSpec := { name := "faultTells", fn := fun _ => fun
  | [d1, d2, d3, d4] => { results := [.lit (.bool true)], args := [d1, d2, d3, d4] }
  | _ => none }
def faultTellsRow : OpenClaim := { program := "ytkhhjompondnnaadoor", sum := "5a77a74ac050b3a7de415634769942a21282684d0b4488e4d44b49493f898798", func := "fretwork/fretworklaw01.FaultTells", spec := "faultTells", inPlace := ["internal/abi.NoEscape", "internal/reflectlite.ValueOf", "(internal/reflectlite.Value).Type", "(internal/reflectlite.Value).IsNil", "internal/reflectlite.TypeOf", "(internal/reflectlite.Value).Elem", "(internal/reflectlite.Value).Set"], unfollowed := true, recurses := true, named := ["errors.errorType"], apart := false, laid := [("errors.errorType", laid_errors_errorType)] }
def FaultTellsSaid : Prop := faultTellsRow.holds Tryd.pinned (OpenSpec.ofChange faultTellsSpec)

/-- ITS FALSE NEIGHBOUR: 'it returns false'. Refute it at one input. -/
def faultTellsWrong : ChangeSpec := { name := "faultTells", fn := fun _ => fun
  | [d1, d2, d3, d4] => { results := [.lit (.bool false)], args := [d1, d2, d3, d4] }
  | _ => none }
def FaultTellsWrongFalsely : Prop := faultTellsRow.holds Tryd.pinned (OpenSpec.ofChange faultTellsWrong)

/-- 'fretworklaw01.FaultDeep': WHATEVER THE INPUT: true; the input reads as it did. -/
def faultDeepSpec : ChangeSpec := { name := "faultDeep", fn := fun _ => fun
  | [d1, d2, d3] => { results := [.lit (.bool true)], args := [d1, d2, d3] }
  | _ => none }
def faultDeepRow : OpenClaim := { program := "ytkhhjompondnnaadoor", sum := "5a77a74ac050b3a7de415634769942a21282684d0b4488e4d44b49493f898798", func := "fretwork/fretworklaw01.FaultDeep", spec := "faultDeep", inPlace := ["internal/abi.NoEscape", "internal/reflectlite.ValueOf", "(internal/reflectlite.Value).Type", "(internal/reflectlite.Value).IsNil", "internal/reflectlite.TypeOf", "(internal/reflectlite.Value).Elem", "(internal/reflectlite.Value).Set"], unfollowed := true, recurses := true, named := ["errors.errorType"], apart := false, laid := [("errors.errorType", laid_errors_errorType)] }
def FaultDeepSaid : Prop := faultDeepRow.holds Tryd.pinned (OpenSpec.ofChange faultDeepSpec)

/-- ITS FALSE NEIGHBOUR: 'it returns false'. Refute it at one input. -/
def faultDeepWrong : ChangeSpec := { name := "faultDeep", fn := fun _ => fun
  | [d1, d2, d3] => { results := [.lit (.bool false)], args := [d1, d2, d3] }
  | _ => none }
def FaultDeepWrongFalsely : Prop := faultDeepRow.holds Tryd.pinned (OpenSpec.ofChange faultDeepWrong)

/-- 'fretworklaw01.FaultApart': WHATEVER THE INPUT: true; the input reads as it did. -/
def faultApartSpec : ChangeSpec := { name := "faultApart", fn := fun _ => fun
  | [d1, d2, d3] => { results := [.lit (.bool true)], args := [d1, d2, d3] }
  | _ => none }
def faultApartRow : OpenClaim := { program := "ytkhhjompondnnaadoor", sum := "5a77a74ac050b3a7de415634769942a21282684d0b4488e4d44b49493f898798", func := "fretwork/fretworklaw01.FaultApart", spec := "faultApart", inPlace := ["internal/abi.NoEscape", "internal/reflectlite.ValueOf", "(internal/reflectlite.Value).Type", "(internal/reflectlite.Value).IsNil", "internal/reflectlite.TypeOf", "(internal/reflectlite.Value).Elem", "(internal/reflectlite.Value).Set"], unfollowed := true, recurses := true, named := ["errors.errorType"], apart := false, laid := [("errors.errorType", laid_errors_errorType)] }
def FaultApartSaid : Prop := faultApartRow.holds Tryd.pinned (OpenSpec.ofChange faultApartSpec)

/-- ITS FALSE NEIGHBOUR: 'it returns false'. Refute it at one input. -/
def faultApartWrong : ChangeSpec := { name := "faultApart", fn := fun _ => fun
  | [d1, d2, d3] => { results := [.lit (.bool false)], args := [d1, d2, d3] }
  | _ => none }
def FaultApartWrongFalsely : Prop := faultApartRow.holds Tryd.pinned (OpenSpec.ofChange faultApartWrong)

/-- 'fretworklaw01.FaultFirst': WHATEVER THE INPUT: true; the input reads as it did. -/
def faultFirstSpec : ChangeSpec := { name := "faultFirst", fn := fun _ => fun
  | [d1, d2, d3] => { results := [.lit (.bool true)], args := [d1, d2, d3] }
  | _ => none }
def faultFirstRow : OpenClaim := { program := "ytkhhjompondnnaadoor", sum := "5a77a74ac050b3a7de415634769942a21282684d0b4488e4d44b49493f898798", func := "fretwork/fretworklaw01.FaultFirst", spec := "faultFirst", inPlace := ["internal/abi.NoEscape", "internal/reflectlite.ValueOf", "(internal/reflectlite.Value).Type", "(internal/reflectlite.Value).IsNil", "internal/reflectlite.TypeOf", "(internal/reflectlite.Value).Elem", "(internal/reflectlite.Value).Set"], unfollowed := true, recurses := true, named := ["errors.errorType"], apart := false, laid := [("errors.errorType", laid_errors_errorType)] }
def FaultFirstSaid : Prop := faultFirstRow.holds Tryd.pinned (OpenSpec.ofChange faultFirstSpec)

/-- ITS FALSE NEIGHBOUR: 'it returns false'. Refute it at one input. -/
def faultFirstWrong : ChangeSpec := { name := "faultFirst", fn := fun _ => fun
  | [d1, d2, d3] => { results := [.lit (.bool false)], args := [d1, d2, d3] }
  | _ => none }
def FaultFirstWrongFalsely : Prop := faultFirstRow.holds Tryd.pinned (OpenSpec.ofChange faultFirstWrong)

/-- 'fretworklaw07.PermRules': WHATEVER THE INPUT: true; the input reads as it did. -/
def permRulesSpec : ChangeSpec := { name := "permRules", fn := fun _ => fun
  | [d1, d2, d3, d4, d5] => { results := [.lit (.bool true)], args := [d1, d2, d3, d4, d5] }
  | _ => none }
def permRulesRow : OpenClaim := { program := "ytkhhjompondnnaadoor", sum := "5a77a74ac050b3a7de415634769942a21282684d0b4488e4d44b49493f898798", func := "fretwork/fretworklaw07.PermRules", spec := "permRules", inPlace := ["internal/reflectlite.ValueOf", "(internal/reflectlite.Value).Type", "(internal/reflectlite.Value).IsNil", "internal/reflectlite.TypeOf", "(internal/reflectlite.Value).Elem", "(internal/reflectlite.Value).Set"], unfollowed := true, recurses := true, named := ["errors.errorType"], apart := false, laid := [("errors.errorType", laid_errors_errorType)] }
def PermRulesSaid : Prop := permRulesRow.holds Tryd.pinned (OpenSpec.ofChange permRulesSpec)

/-- ITS FALSE NEIGHBOUR: 'it returns false'. Refute it at one input. -/
def permRulesWrong : ChangeSpec := { name := "permRules", fn := fun _ => fun
  | [d1, d2, d3, d4, d5] => { results := [.lit (.bool false)], args := [d1, d2, d3, d4, d5] }
  | _ => none }
def PermRulesWrongFalsely : Prop := permRulesRow.holds Tryd.pinned (OpenSpec.ofChange permRulesWrong)

/-- 'fretworklaw01.FaultNil': WHATEVER THE INPUT: true; the input reads as it did. -/
def faultNilSpec : ChangeSpec := { name := "faultNil", fn := fun _ => fun
  | [d1, d2] => { results := [.lit (.bool true)], args := [d1, d2] }
  | _ => none }
def faultNilRow : OpenClaim := { program := "ytkhhjompondnnaadoor", sum := "5a77a74ac050b3a7de415634769942a21282684d0b4488e4d44b49493f898798", func := "fretwork/fretworklaw01.FaultNil", spec := "faultNil", inPlace := ["internal/abi.NoEscape", "internal/reflectlite.ValueOf", "(internal/reflectlite.Value).Type", "(internal/reflectlite.Value).IsNil", "internal/reflectlite.TypeOf", "(internal/reflectlite.Value).Elem", "(internal/reflectlite.Value).Set"], unfollowed := true, recurses := true, named := ["errors.errorType"], apart := false, laid := [("errors.errorType", laid_errors_errorType)] }
def FaultNilSaid : Prop := faultNilRow.holds Tryd.pinned (OpenSpec.ofChange faultNilSpec)

/-- ITS FALSE NEIGHBOUR: 'it returns false'. Refute it at one input. -/
def faultNilWrong : ChangeSpec := { name := "faultNil", fn := fun _ => fun
  | [d1, d2] => { results := [.lit (.bool false)], args := [d1, d2] }
  | _ => none }
def FaultNilWrongFalsely : Prop := faultNilRow.holds Tryd.pinned (OpenSpec.ofChange faultNilWrong)

/-- 'fretworklaw03.WireMarks': WHATEVER THE INPUT: true; the input reads as it did. -/
def wireMarksSpec : ChangeSpec := { name := "wireMarks", fn := fun _ => fun
  | [d1, d2, d3] => { results := [.lit (.bool true)], args := [d1, d2, d3] }
  | _ => none }
def wireMarksRow : OpenClaim := { program := "ytkhhjompondnnaadoor", sum := "5a77a74ac050b3a7de415634769942a21282684d0b4488e4d44b49493f898798", func := "fretwork/fretworklaw03.WireMarks", spec := "wireMarks", inPlace := ["internal/reflectlite.ValueOf", "(internal/reflectlite.Value).Type", "(internal/reflectlite.Value).IsNil", "internal/reflectlite.TypeOf", "(internal/reflectlite.Value).Elem", "(internal/reflectlite.Value).Set"], unfollowed := true, recurses := true, named := ["errors.errorType"], apart := false, laid := [("errors.errorType", laid_errors_errorType)] }
def WireMarksSaid : Prop := wireMarksRow.holds Tryd.pinned (OpenSpec.ofChange wireMarksSpec)

/-- ITS FALSE NEIGHBOUR: 'it returns false'. Refute it at one input. -/
def wireMarksWrong : ChangeSpec := { name := "wireMarks", fn := fun _ => fun
  | [d1, d2, d3] => { results := [.lit (.bool false)], args := [d1, d2, d3] }
  | _ => none }
def WireMarksWrongFalsely : Prop := wireMarksRow.holds Tryd.pinned (OpenSpec.ofChange wireMarksWrong)

/- THE SECOND FORM. 'bulk': how many values and letters a reading holds, each counted each time it is reached (what is shared counts as often as it is met; a slice's spare places count too). A statement '..UptoSaid' is the law's where the arguments, and the package variables that the reading takes, are together of bulk at most 1048576: NARROWER than '..Said'. Prove '..Said' where nothing that the law and all that it calls make is longer than what came in: it says more and counts as full. Else prove '..UptoSaid'. A law counts once. -/
mutual
def uptoBulk {H : Type} : DataW H → Nat
  | .lit (.string bytes) => bytes.length + 1
  | .lit _ => 1
  | .nil => 1
  | .ptr d => uptoBulk d + 1
  | .slice elems spare => uptoBulkAll elems + uptoBulkAll spare + 1
  | .agg parts => uptoBulkAll parts + 1
  | .iface _ d => uptoBulk d + 1
  | .map entries => uptoBulkEntries entries + 1
  | .held _ => 1
def uptoBulkAll {H : Type} : List (DataW H) → Nat
  | [] => 0
  | d :: r => uptoBulk d + uptoBulkAll r
def uptoBulkEntries {H : Type} : List (Lit × DataW H) → Nat
  | [] => 0
  | x :: r => uptoBulkEntry x + uptoBulkEntries r
def uptoBulkEntry {H : Type} : Lit × DataW H → Nat
  | (.string bytes, d) => bytes.length + uptoBulk d + 1
  | (_, d) => uptoBulk d + 1
 end
def uptoSmall : (H : Type) → List (DataW H) → Bool := fun _ ds => decide (uptoBulkAll ds ≤ 1048576)
def OpenSpec.upto (s : _root_.Go.ChangeSpec) : _root_.Go.OpenSpec := { _root_.Go.OpenSpec.ofChange s with cond := some uptoSmall }

/-- 'fretworklaw14.RankSplit', WHERE WHAT IT READS IS OF BULK AT MOST 1048576: true; the input reads as it did. -/
def rankSplitUptoRow : OpenClaim := { program := "ytkhhjompondnnaadoor", sum := "5a77a74ac050b3a7de415634769942a21282684d0b4488e4d44b49493f898798", func := "fretwork/fretworklaw14.RankSplit", spec := "rankSplit", inPlace := ["internal/reflectlite.ValueOf", "(internal/reflectlite.Value).Type", "(internal/reflectlite.Value).IsNil", "internal/reflectlite.TypeOf", "(internal/reflectlite.Value).Elem", "(internal/reflectlite.Value).Set"], unfollowed := true, recurses := true, named := ["errors.errorType"], apart := false, laid := [("errors.errorType", laid_errors_errorType)], narrowed := true }
def RankSplitUptoSaid : Prop := rankSplitUptoRow.holds Tryd.pinned (OpenSpec.upto rankSplitSpec)

/-- 'fretworklaw03.WireParcels', WHERE WHAT IT READS IS OF BULK AT MOST 1048576: true; the input reads as it did. -/
def wireParcelsUptoRow : OpenClaim := { program := "ytkhhjompondnnaadoor", sum := "5a77a74ac050b3a7de415634769942a21282684d0b4488e4d44b49493f898798", func := "fretwork/fretworklaw03.WireParcels", spec := "wireParcels", inPlace := ["internal/reflectlite.ValueOf", "(internal/reflectlite.Value).Type", "(internal/reflectlite.Value).IsNil", "internal/reflectlite.TypeOf", "(internal/reflectlite.Value).Elem", "(internal/reflectlite.Value).Set"], unfollowed := true, recurses := true, named := ["errors.errorType"], apart := false, laid := [("errors.errorType", laid_errors_errorType)], narrowed := true }
def WireParcelsUptoSaid : Prop := wireParcelsUptoRow.holds Tryd.pinned (OpenSpec.upto wireParcelsSpec)

/-- 'fretworklaw07.PermTells', WHERE WHAT IT READS IS OF BULK AT MOST 1048576: true; the input reads as it did. -/
def permTellsUptoRow : OpenClaim := { program := "ytkhhjompondnnaadoor", sum := "5a77a74ac050b3a7de415634769942a21282684d0b4488e4d44b49493f898798", func := "fretwork/fretworklaw07.PermTells", spec := "permTells", inPlace := ["internal/reflectlite.ValueOf", "(internal/reflectlite.Value).Type", "(internal/reflectlite.Value).IsNil", "internal/reflectlite.TypeOf", "(internal/reflectlite.Value).Elem", "(internal/reflectlite.Value).Set"], unfollowed := true, recurses := true, named := ["errors.errorType"], apart := false, laid := [("errors.errorType", laid_errors_errorType)], narrowed := true }
def PermTellsUptoSaid : Prop := permTellsUptoRow.holds Tryd.pinned (OpenSpec.upto permTellsSpec)

/-- 'fretworklaw03.WirePuts', WHERE WHAT IT READS IS OF BULK AT MOST 1048576: true; the input reads as it did. -/
def wirePutsUptoRow : OpenClaim := { program := "ytkhhjompondnnaadoor", sum := "5a77a74ac050b3a7de415634769942a21282684d0b4488e4d44b49493f898798", func := "fretwork/fretworklaw03.WirePuts", spec := "wirePuts", inPlace := ["internal/reflectlite.ValueOf", "(internal/reflectlite.Value).Type", "(internal/reflectlite.Value).IsNil", "internal/reflectlite.TypeOf", "(internal/reflectlite.Value).Elem", "(internal/reflectlite.Value).Set"], unfollowed := true, recurses := true, named := ["errors.errorType"], apart := false, laid := [("errors.errorType", laid_errors_errorType)], narrowed := true }
def WirePutsUptoSaid : Prop := wirePutsUptoRow.holds Tryd.pinned (OpenSpec.upto wirePutsSpec)

/-- 'fretworklaw07.PermLists', WHERE WHAT IT READS IS OF BULK AT MOST 1048576: true; the input reads as it did. -/
def permListsUptoRow : OpenClaim := { program := "ytkhhjompondnnaadoor", sum := "5a77a74ac050b3a7de415634769942a21282684d0b4488e4d44b49493f898798", func := "fretwork/fretworklaw07.PermLists", spec := "permLists", inPlace := ["internal/reflectlite.ValueOf", "(internal/reflectlite.Value).Type", "(internal/reflectlite.Value).IsNil", "internal/reflectlite.TypeOf", "(internal/reflectlite.Value).Elem", "(internal/reflectlite.Value).Set"], unfollowed := true, recurses := true, named := ["errors.errorType"], apart := false, laid := [("errors.errorType", laid_errors_errorType)], narrowed := true }
def PermListsUptoSaid : Prop := permListsUptoRow.holds Tryd.pinned (OpenSpec.upto permListsSpec)

/-- 'fretworklaw01.FaultTells', WHERE WHAT IT READS IS OF BULK AT MOST 1048576: true; the input reads as it did. -/
def faultTellsUptoRow : OpenClaim := { program := "ytkhhjompondnnaadoor", sum := "5a77a74ac050b3a7de415634769942a21282684d0b4488e4d44b49493f898798", func := "fretwork/fretworklaw01.FaultTells", spec := "faultTells", inPlace := ["internal/abi.NoEscape", "internal/reflectlite.ValueOf", "(internal/reflectlite.Value).Type", "(internal/reflectlite.Value).IsNil", "internal/reflectlite.TypeOf", "(internal/reflectlite.Value).Elem", "(internal/reflectlite.Value).Set"], unfollowed := true, recurses := true, named := ["errors.errorType"], apart := false, laid := [("errors.errorType", laid_errors_errorType)], narrowed := true }
def FaultTellsUptoSaid : Prop := faultTellsUptoRow.holds Tryd.pinned (OpenSpec.upto faultTellsSpec)

/-- 'fretworklaw01.FaultDeep', WHERE WHAT IT READS IS OF BULK AT MOST 1048576: true; the input reads as it did. -/
def faultDeepUptoRow : OpenClaim := { program := "ytkhhjompondnnaadoor", sum := "5a77a74ac050b3a7de415634769942a21282684d0b4488e4d44b49493f898798", func := "fretwork/fretworklaw01.FaultDeep", spec := "faultDeep", inPlace := ["internal/abi.NoEscape", "internal/reflectlite.ValueOf", "(internal/reflectlite.Value).Type", "(internal/reflectlite.Value).IsNil", "internal/reflectlite.TypeOf", "(internal/reflectlite.Value).Elem", "(internal/reflectlite.Value).Set"], unfollowed := true, recurses := true, named := ["errors.errorType"], apart := false, laid := [("errors.errorType", laid_errors_errorType)], narrowed := true }
def FaultDeepUptoSaid : Prop := faultDeepUptoRow.holds Tryd.pinned (OpenSpec.upto faultDeepSpec)

/-- 'fretworklaw01.FaultApart', WHERE WHAT IT READS IS OF BULK AT MOST 1048576: true; the input reads as it did. -/
def faultApartUptoRow : OpenClaim := { program := "ytkhhjompondnnaadoor", sum := "5a77a74ac050b3a7de415634769942a21282684d0b4488e4d44b49493f898798", func := "fretwork/fretworklaw01.FaultApart", spec := "faultApart", inPlace := ["internal/abi.NoEscape", "internal/reflectlite.ValueOf", "(internal/reflectlite.Value).Type", "(internal/reflectlite.Value).IsNil", "internal/reflectlite.TypeOf", "(internal/reflectlite.Value).Elem", "(internal/reflectlite.Value).Set"], unfollowed := true, recurses := true, named := ["errors.errorType"], apart := false, laid := [("errors.errorType", laid_errors_errorType)], narrowed := true }
def FaultApartUptoSaid : Prop := faultApartUptoRow.holds Tryd.pinned (OpenSpec.upto faultApartSpec)

/-- 'fretworklaw01.FaultFirst', WHERE WHAT IT READS IS OF BULK AT MOST 1048576: true; the input reads as it did. -/
def faultFirstUptoRow : OpenClaim := { program := "ytkhhjompondnnaadoor", sum := "5a77a74ac050b3a7de415634769942a21282684d0b4488e4d44b49493f898798", func := "fretwork/fretworklaw01.FaultFirst", spec := "faultFirst", inPlace := ["internal/abi.NoEscape", "internal/reflectlite.ValueOf", "(internal/reflectlite.Value).Type", "(internal/reflectlite.Value).IsNil", "internal/reflectlite.TypeOf", "(internal/reflectlite.Value).Elem", "(internal/reflectlite.Value).Set"], unfollowed := true, recurses := true, named := ["errors.errorType"], apart := false, laid := [("errors.errorType", laid_errors_errorType)], narrowed := true }
def FaultFirstUptoSaid : Prop := faultFirstUptoRow.holds Tryd.pinned (OpenSpec.upto faultFirstSpec)

/-- 'fretworklaw07.PermRules', WHERE WHAT IT READS IS OF BULK AT MOST 1048576: true; the input reads as it did. -/
def permRulesUptoRow : OpenClaim := { program := "ytkhhjompondnnaadoor", sum := "5a77a74ac050b3a7de415634769942a21282684d0b4488e4d44b49493f898798", func := "fretwork/fretworklaw07.PermRules", spec := "permRules", inPlace := ["internal/reflectlite.ValueOf", "(internal/reflectlite.Value).Type", "(internal/reflectlite.Value).IsNil", "internal/reflectlite.TypeOf", "(internal/reflectlite.Value).Elem", "(internal/reflectlite.Value).Set"], unfollowed := true, recurses := true, named := ["errors.errorType"], apart := false, laid := [("errors.errorType", laid_errors_errorType)], narrowed := true }
def PermRulesUptoSaid : Prop := permRulesUptoRow.holds Tryd.pinned (OpenSpec.upto permRulesSpec)

/-- 'fretworklaw01.FaultNil', WHERE WHAT IT READS IS OF BULK AT MOST 1048576: true; the input reads as it did. -/
def faultNilUptoRow : OpenClaim := { program := "ytkhhjompondnnaadoor", sum := "5a77a74ac050b3a7de415634769942a21282684d0b4488e4d44b49493f898798", func := "fretwork/fretworklaw01.FaultNil", spec := "faultNil", inPlace := ["internal/abi.NoEscape", "internal/reflectlite.ValueOf", "(internal/reflectlite.Value).Type", "(internal/reflectlite.Value).IsNil", "internal/reflectlite.TypeOf", "(internal/reflectlite.Value).Elem", "(internal/reflectlite.Value).Set"], unfollowed := true, recurses := true, named := ["errors.errorType"], apart := false, laid := [("errors.errorType", laid_errors_errorType)], narrowed := true }
def FaultNilUptoSaid : Prop := faultNilUptoRow.holds Tryd.pinned (OpenSpec.upto faultNilSpec)

/-- 'fretworklaw03.WireMarks', WHERE WHAT IT READS IS OF BULK AT MOST 1048576: true; the input reads as it did. -/
def wireMarksUptoRow : OpenClaim := { program := "ytkhhjompondnnaadoor", sum := "5a77a74ac050b3a7de415634769942a21282684d0b4488e4d44b49493f898798", func := "fretwork/fretworklaw03.WireMarks", spec := "wireMarks", inPlace := ["internal/reflectlite.ValueOf", "(internal/reflectlite.Value).Type", "(internal/reflectlite.Value).IsNil", "internal/reflectlite.TypeOf", "(internal/reflectlite.Value).Elem", "(internal/reflectlite.Value).Set"], unfollowed := true, recurses := true, named := ["errors.errorType"], apart := false, laid := [("errors.errorType", laid_errors_errorType)], narrowed := true }
def WireMarksUptoSaid : Prop := wireMarksUptoRow.holds Tryd.pinned (OpenSpec.upto wireMarksSpec)

end Rows
end Go.Proofs.YtkhhjompondnnaaDoor
