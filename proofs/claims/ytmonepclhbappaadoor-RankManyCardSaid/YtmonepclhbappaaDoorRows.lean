/-
  NARROWER THAN 'FOR EVERY INPUT', by the rows' own cells (each row's printed sentence says how): PatOrder: laid · OdagLengths: laid · OdagPaths: laid · RankParts: laid · RankBounds: laid · OdagAdds: laid · RankAt: laid · RankSteps: laid · RankMany: laid.
  DERIVED. THE GIVEN ROWS OF THIS SEAT. 9 by the template 'for every input the law returns true; each argument reads behind the call as it read before'; 0 by the template 'total and deterministic' (their statements: YtmonepclhbappaaDoorTotals.lean).
  GIVEN WITH THE SEED: the statements are not yours to turn. If you find one false, say at which input.
  Laid BY PROGRAM, IN A SANDBOX (cutbox-rows.mjs): the forced cells as the released guide's own fill.sh prints them over the translation 8ab0da13bcbcbf6a… (all of the seat's roots in one cut). By AI agents, Wed Nov 11 2026. No macro, syntax, notation, axiom, sorry.
-/
import Derived.Test.YtmonepclhbappaaDoorChecked
import GoSem.Claim
import GoSem.ClaimJoined
import GoSem.ClaimMapViews
import Derived.JoinedTies
import Derived.KernelRfl
namespace Go.Proofs.YtmonepclhbappaaDoor
/- THE CELL 'sum', in the pinned program and in every row, IS THE sha256 OF THE DUMP (.gsa) THAT YtmonepclhbappaaDoorProg.lean LOADS. Nothing in Lean hashes anything: it is a label: what it is worth is what the hold of that sum in a sandbox is worth. -/
noncomputable def Tryd.pinned : Pinned := { name := "ytmonepclhbappaadoor", sum := "8ab0da13bcbcbf6a64441be837ead3637812069881106dd471e21a898a740b71", checked := Tryd.checked }
namespace Rows
def none {H : Type} : Left H := { results := [], args := [] }

/- WHAT THE LISTED PACKAGE-LEVEL VARIABLES READ AS WHEN THE CALL BEGINS. Each datum BY PROGRAM (the guide's laid-datum.mjs) off the statement by which the dump's own 'gosem.cut.vars' lays the variable. In a bare row this is a premise. The card (YtmonepclhbappaaDoorCards.lean) ties it to the program's text. -/
def laid_math_bits_deBruijn32tab {H : Type} : DataW H := .agg [.lit (.int .u8 0), .lit (.int .u8 1), .lit (.int .u8 28), .lit (.int .u8 2), .lit (.int .u8 29), .lit (.int .u8 14), .lit (.int .u8 24), .lit (.int .u8 3), .lit (.int .u8 30), .lit (.int .u8 22), .lit (.int .u8 20), .lit (.int .u8 15), .lit (.int .u8 25), .lit (.int .u8 17), .lit (.int .u8 4), .lit (.int .u8 8), .lit (.int .u8 31), .lit (.int .u8 27), .lit (.int .u8 13), .lit (.int .u8 23), .lit (.int .u8 21), .lit (.int .u8 19), .lit (.int .u8 16), .lit (.int .u8 7), .lit (.int .u8 26), .lit (.int .u8 12), .lit (.int .u8 18), .lit (.int .u8 6), .lit (.int .u8 11), .lit (.int .u8 5), .lit (.int .u8 10), .lit (.int .u8 9)]
def laid_math_bits_deBruijn64tab {H : Type} : DataW H := .agg [.lit (.int .u8 0), .lit (.int .u8 1), .lit (.int .u8 56), .lit (.int .u8 2), .lit (.int .u8 57), .lit (.int .u8 49), .lit (.int .u8 28), .lit (.int .u8 3), .lit (.int .u8 61), .lit (.int .u8 58), .lit (.int .u8 42), .lit (.int .u8 50), .lit (.int .u8 38), .lit (.int .u8 29), .lit (.int .u8 17), .lit (.int .u8 4), .lit (.int .u8 62), .lit (.int .u8 47), .lit (.int .u8 59), .lit (.int .u8 36), .lit (.int .u8 45), .lit (.int .u8 43), .lit (.int .u8 51), .lit (.int .u8 22), .lit (.int .u8 53), .lit (.int .u8 39), .lit (.int .u8 33), .lit (.int .u8 30), .lit (.int .u8 24), .lit (.int .u8 18), .lit (.int .u8 12), .lit (.int .u8 5), .lit (.int .u8 63), .lit (.int .u8 55), .lit (.int .u8 48), .lit (.int .u8 27), .lit (.int .u8 60), .lit (.int .u8 41), .lit (.int .u8 37), .lit (.int .u8 16), .lit (.int .u8 46), .lit (.int .u8 35), .lit (.int .u8 44), .lit (.int .u8 21), .lit (.int .u8 52), .lit (.int .u8 32), .lit (.int .u8 23), .lit (.int .u8 11), .lit (.int .u8 54), .lit (.int .u8 26), .lit (.int .u8 40), .lit (.int .u8 15), .lit (.int .u8 34), .lit (.int .u8 20), .lit (.int .u8 31), .lit (.int .u8 10), .lit (.int .u8 25), .lit (.int .u8 14), .lit (.int .u8 19), .lit (.int .u8 9), .lit (.int .u8 13), .lit (.int .u8 8), .lit (.int .u8 7), .lit (.int .u8 6)]
def laid_internal_strconv_uint64pow10 {H : Type} : DataW H := .agg [.lit (.int .u64 1), .lit (.int .u64 10), .lit (.int .u64 100), .lit (.int .u64 1000), .lit (.int .u64 10000), .lit (.int .u64 100000), .lit (.int .u64 1000000), .lit (.int .u64 10000000), .lit (.int .u64 100000000), .lit (.int .u64 1000000000), .lit (.int .u64 10000000000), .lit (.int .u64 100000000000), .lit (.int .u64 1000000000000), .lit (.int .u64 10000000000000), .lit (.int .u64 100000000000000), .lit (.int .u64 1000000000000000), .lit (.int .u64 10000000000000000), .lit (.int .u64 100000000000000000), .lit (.int .u64 1000000000000000000), .lit (.int .u64 10000000000000000000)]
def laid_errors_errorType {H : Type} : DataW H := .iface "internal/reflectlite.rtype" (.agg [.ptr (.lit (.string [101, 114, 114, 111, 114]))])

/-- 'fretworklaw08.PatOrder': WHATEVER THE INPUT: true; the input reads as it did. -/
def patOrderSpec : ChangeSpec := { name := "patOrder", fn := fun _ => fun
  | [d1, d2, d3] => { results := [.lit (.bool true)], args := [d1, d2, d3] }
  | _ => none }
def patOrderRow : OpenClaim := { program := "ytmonepclhbappaadoor", sum := "8ab0da13bcbcbf6a64441be837ead3637812069881106dd471e21a898a740b71", func := "fretwork/fretworklaw08.PatOrder", spec := "patOrder", inPlace := ["slices.overlaps[fretwork/api.Edge]", "internal/abi.NoEscape", "internal/bytealg.MakeNoZero", "internal/reflectlite.ValueOf", "(internal/reflectlite.Value).Type", "(internal/reflectlite.Value).IsNil", "internal/reflectlite.TypeOf", "(internal/reflectlite.Value).Elem", "(internal/reflectlite.Value).Set"], unfollowed := true, recurses := true, named := ["internal/strconv.uint64pow10", "math/bits.deBruijn32tab", "math/bits.deBruijn64tab", "errors.errorType"], plainKeys := false, apart := false, laid := [("math/bits.deBruijn32tab", laid_math_bits_deBruijn32tab), ("math/bits.deBruijn64tab", laid_math_bits_deBruijn64tab), ("internal/strconv.uint64pow10", laid_internal_strconv_uint64pow10), ("errors.errorType", laid_errors_errorType)] }
def PatOrderSaid : Prop := patOrderRow.holds Tryd.pinned (OpenSpec.ofChange patOrderSpec)

/-- ITS FALSE NEIGHBOUR: 'it returns false'. Refute it at one input. -/
def patOrderWrong : ChangeSpec := { name := "patOrder", fn := fun _ => fun
  | [d1, d2, d3] => { results := [.lit (.bool false)], args := [d1, d2, d3] }
  | _ => none }
def PatOrderWrongFalsely : Prop := patOrderRow.holds Tryd.pinned (OpenSpec.ofChange patOrderWrong)

/-- 'fretworklaw13.OdagLengths': WHATEVER THE INPUT: true; the input reads as it did. -/
def odagLengthsSpec : ChangeSpec := { name := "odagLengths", fn := fun _ => fun
  | [d1, d2] => { results := [.lit (.bool true)], args := [d1, d2] }
  | _ => none }
def odagLengthsRow : OpenClaim := { program := "ytmonepclhbappaadoor", sum := "8ab0da13bcbcbf6a64441be837ead3637812069881106dd471e21a898a740b71", func := "fretwork/fretworklaw13.OdagLengths", spec := "odagLengths", inPlace := ["math/bits.Add64", "internal/reflectlite.ValueOf", "(internal/reflectlite.Value).Type", "(internal/reflectlite.Value).IsNil", "internal/reflectlite.TypeOf", "(internal/reflectlite.Value).Elem", "(internal/reflectlite.Value).Set"], unfollowed := true, recurses := true, named := ["errors.errorType"], plainKeys := false, apart := false, laid := [("errors.errorType", laid_errors_errorType)] }
def OdagLengthsSaid : Prop := odagLengthsRow.holds Tryd.pinned (OpenSpec.ofChange odagLengthsSpec)

/-- ITS FALSE NEIGHBOUR: 'it returns false'. Refute it at one input. -/
def odagLengthsWrong : ChangeSpec := { name := "odagLengths", fn := fun _ => fun
  | [d1, d2] => { results := [.lit (.bool false)], args := [d1, d2] }
  | _ => none }
def OdagLengthsWrongFalsely : Prop := odagLengthsRow.holds Tryd.pinned (OpenSpec.ofChange odagLengthsWrong)

/-- 'fretworklaw13.OdagPaths': WHATEVER THE INPUT: true; the input reads as it did. -/
def odagPathsSpec : ChangeSpec := { name := "odagPaths", fn := fun _ => fun
  | [d1, d2, d3] => { results := [.lit (.bool true)], args := [d1, d2, d3] }
  | _ => none }
def odagPathsRow : OpenClaim := { program := "ytmonepclhbappaadoor", sum := "8ab0da13bcbcbf6a64441be837ead3637812069881106dd471e21a898a740b71", func := "fretwork/fretworklaw13.OdagPaths", spec := "odagPaths", inPlace := ["math/bits.Add64", "internal/reflectlite.ValueOf", "(internal/reflectlite.Value).Type", "(internal/reflectlite.Value).IsNil", "internal/reflectlite.TypeOf", "(internal/reflectlite.Value).Elem", "(internal/reflectlite.Value).Set"], unfollowed := true, recurses := true, named := ["errors.errorType"], plainKeys := false, apart := false, laid := [("errors.errorType", laid_errors_errorType)] }
def OdagPathsSaid : Prop := odagPathsRow.holds Tryd.pinned (OpenSpec.ofChange odagPathsSpec)

/-- ITS FALSE NEIGHBOUR: 'it returns false'. Refute it at one input. -/
def odagPathsWrong : ChangeSpec := { name := "odagPaths", fn := fun _ => fun
  | [d1, d2, d3] => { results := [.lit (.bool false)], args := [d1, d2, d3] }
  | _ => none }
def OdagPathsWrongFalsely : Prop := odagPathsRow.holds Tryd.pinned (OpenSpec.ofChange odagPathsWrong)

/-- 'fretworklaw14.RankParts': WHATEVER THE INPUT: true; the input reads as it did. -/
def rankPartsSpec : ChangeSpec := { name := "rankParts", fn := fun _ => fun
  | [d1, d2, d3, d4, d5] => { results := [.lit (.bool true)], args := [d1, d2, d3, d4, d5] }
  | _ => none }
def rankPartsRow : OpenClaim := { program := "ytmonepclhbappaadoor", sum := "8ab0da13bcbcbf6a64441be837ead3637812069881106dd471e21a898a740b71", func := "fretwork/fretworklaw14.RankParts", spec := "rankParts", inPlace := ["internal/reflectlite.ValueOf", "(internal/reflectlite.Value).Type", "(internal/reflectlite.Value).IsNil", "internal/reflectlite.TypeOf", "(internal/reflectlite.Value).Elem", "(internal/reflectlite.Value).Set", "math/bits.Add64"], unfollowed := true, recurses := true, named := ["errors.errorType"], plainKeys := false, apart := false, laid := [("errors.errorType", laid_errors_errorType)] }
def RankPartsSaid : Prop := rankPartsRow.holds Tryd.pinned (OpenSpec.ofChange rankPartsSpec)

/-- ITS FALSE NEIGHBOUR: 'it returns false'. Refute it at one input. -/
def rankPartsWrong : ChangeSpec := { name := "rankParts", fn := fun _ => fun
  | [d1, d2, d3, d4, d5] => { results := [.lit (.bool false)], args := [d1, d2, d3, d4, d5] }
  | _ => none }
def RankPartsWrongFalsely : Prop := rankPartsRow.holds Tryd.pinned (OpenSpec.ofChange rankPartsWrong)

/-- 'fretworklaw14.RankBounds': WHATEVER THE INPUT: true; the input reads as it did. -/
def rankBoundsSpec : ChangeSpec := { name := "rankBounds", fn := fun _ => fun
  | [d1, d2, d3, d4] => { results := [.lit (.bool true)], args := [d1, d2, d3, d4] }
  | _ => none }
def rankBoundsRow : OpenClaim := { program := "ytmonepclhbappaadoor", sum := "8ab0da13bcbcbf6a64441be837ead3637812069881106dd471e21a898a740b71", func := "fretwork/fretworklaw14.RankBounds", spec := "rankBounds", inPlace := ["internal/reflectlite.ValueOf", "(internal/reflectlite.Value).Type", "(internal/reflectlite.Value).IsNil", "internal/reflectlite.TypeOf", "(internal/reflectlite.Value).Elem", "(internal/reflectlite.Value).Set", "math/bits.Add64"], unfollowed := true, recurses := true, named := ["errors.errorType"], plainKeys := false, apart := false, laid := [("errors.errorType", laid_errors_errorType)] }
def RankBoundsSaid : Prop := rankBoundsRow.holds Tryd.pinned (OpenSpec.ofChange rankBoundsSpec)

/-- ITS FALSE NEIGHBOUR: 'it returns false'. Refute it at one input. -/
def rankBoundsWrong : ChangeSpec := { name := "rankBounds", fn := fun _ => fun
  | [d1, d2, d3, d4] => { results := [.lit (.bool false)], args := [d1, d2, d3, d4] }
  | _ => none }
def RankBoundsWrongFalsely : Prop := rankBoundsRow.holds Tryd.pinned (OpenSpec.ofChange rankBoundsWrong)

/-- 'fretworklaw13.OdagAdds': WHATEVER THE INPUT: true; the input reads as it did. -/
def odagAddsSpec : ChangeSpec := { name := "odagAdds", fn := fun _ => fun
  | [d1, d2, d3] => { results := [.lit (.bool true)], args := [d1, d2, d3] }
  | _ => none }
def odagAddsRow : OpenClaim := { program := "ytmonepclhbappaadoor", sum := "8ab0da13bcbcbf6a64441be837ead3637812069881106dd471e21a898a740b71", func := "fretwork/fretworklaw13.OdagAdds", spec := "odagAdds", inPlace := ["math/bits.Add64", "internal/reflectlite.ValueOf", "(internal/reflectlite.Value).Type", "(internal/reflectlite.Value).IsNil", "internal/reflectlite.TypeOf", "(internal/reflectlite.Value).Elem", "(internal/reflectlite.Value).Set"], unfollowed := true, recurses := true, named := ["errors.errorType"], plainKeys := false, apart := false, laid := [("errors.errorType", laid_errors_errorType)] }
def OdagAddsSaid : Prop := odagAddsRow.holds Tryd.pinned (OpenSpec.ofChange odagAddsSpec)

/-- ITS FALSE NEIGHBOUR: 'it returns false'. Refute it at one input. -/
def odagAddsWrong : ChangeSpec := { name := "odagAdds", fn := fun _ => fun
  | [d1, d2, d3] => { results := [.lit (.bool false)], args := [d1, d2, d3] }
  | _ => none }
def OdagAddsWrongFalsely : Prop := odagAddsRow.holds Tryd.pinned (OpenSpec.ofChange odagAddsWrong)

/-- 'fretworklaw14.RankAt': WHATEVER THE INPUT: true; the input reads as it did. -/
def rankAtSpec : ChangeSpec := { name := "rankAt", fn := fun _ => fun
  | [d1, d2, d3, d4] => { results := [.lit (.bool true)], args := [d1, d2, d3, d4] }
  | _ => none }
def rankAtRow : OpenClaim := { program := "ytmonepclhbappaadoor", sum := "8ab0da13bcbcbf6a64441be837ead3637812069881106dd471e21a898a740b71", func := "fretwork/fretworklaw14.RankAt", spec := "rankAt", inPlace := ["internal/reflectlite.ValueOf", "(internal/reflectlite.Value).Type", "(internal/reflectlite.Value).IsNil", "internal/reflectlite.TypeOf", "(internal/reflectlite.Value).Elem", "(internal/reflectlite.Value).Set", "math/bits.Add64"], unfollowed := true, recurses := true, named := ["errors.errorType"], plainKeys := false, apart := false, laid := [("errors.errorType", laid_errors_errorType)] }
def RankAtSaid : Prop := rankAtRow.holds Tryd.pinned (OpenSpec.ofChange rankAtSpec)

/-- ITS FALSE NEIGHBOUR: 'it returns false'. Refute it at one input. -/
def rankAtWrong : ChangeSpec := { name := "rankAt", fn := fun _ => fun
  | [d1, d2, d3, d4] => { results := [.lit (.bool false)], args := [d1, d2, d3, d4] }
  | _ => none }
def RankAtWrongFalsely : Prop := rankAtRow.holds Tryd.pinned (OpenSpec.ofChange rankAtWrong)

/-- 'fretworklaw14.RankSteps': WHATEVER THE INPUT: true; the input reads as it did. -/
def rankStepsSpec : ChangeSpec := { name := "rankSteps", fn := fun _ => fun
  | [d1, d2, d3, d4] => { results := [.lit (.bool true)], args := [d1, d2, d3, d4] }
  | _ => none }
def rankStepsRow : OpenClaim := { program := "ytmonepclhbappaadoor", sum := "8ab0da13bcbcbf6a64441be837ead3637812069881106dd471e21a898a740b71", func := "fretwork/fretworklaw14.RankSteps", spec := "rankSteps", inPlace := ["internal/reflectlite.ValueOf", "(internal/reflectlite.Value).Type", "(internal/reflectlite.Value).IsNil", "internal/reflectlite.TypeOf", "(internal/reflectlite.Value).Elem", "(internal/reflectlite.Value).Set", "math/bits.Add64"], unfollowed := true, recurses := true, named := ["errors.errorType"], plainKeys := false, apart := false, laid := [("errors.errorType", laid_errors_errorType)] }
def RankStepsSaid : Prop := rankStepsRow.holds Tryd.pinned (OpenSpec.ofChange rankStepsSpec)

/-- ITS FALSE NEIGHBOUR: 'it returns false'. Refute it at one input. -/
def rankStepsWrong : ChangeSpec := { name := "rankSteps", fn := fun _ => fun
  | [d1, d2, d3, d4] => { results := [.lit (.bool false)], args := [d1, d2, d3, d4] }
  | _ => none }
def RankStepsWrongFalsely : Prop := rankStepsRow.holds Tryd.pinned (OpenSpec.ofChange rankStepsWrong)

/-- 'fretworklaw14.RankMany': WHATEVER THE INPUT: true; the input reads as it did. -/
def rankManySpec : ChangeSpec := { name := "rankMany", fn := fun _ => fun
  | [d1, d2, d3] => { results := [.lit (.bool true)], args := [d1, d2, d3] }
  | _ => none }
def rankManyRow : OpenClaim := { program := "ytmonepclhbappaadoor", sum := "8ab0da13bcbcbf6a64441be837ead3637812069881106dd471e21a898a740b71", func := "fretwork/fretworklaw14.RankMany", spec := "rankMany", inPlace := ["internal/reflectlite.ValueOf", "(internal/reflectlite.Value).Type", "(internal/reflectlite.Value).IsNil", "internal/reflectlite.TypeOf", "(internal/reflectlite.Value).Elem", "(internal/reflectlite.Value).Set", "math/bits.Add64"], unfollowed := true, recurses := true, named := ["errors.errorType"], plainKeys := false, apart := false, laid := [("errors.errorType", laid_errors_errorType)] }
def RankManySaid : Prop := rankManyRow.holds Tryd.pinned (OpenSpec.ofChange rankManySpec)

/-- ITS FALSE NEIGHBOUR: 'it returns false'. Refute it at one input. -/
def rankManyWrong : ChangeSpec := { name := "rankMany", fn := fun _ => fun
  | [d1, d2, d3] => { results := [.lit (.bool false)], args := [d1, d2, d3] }
  | _ => none }
def RankManyWrongFalsely : Prop := rankManyRow.holds Tryd.pinned (OpenSpec.ofChange rankManyWrong)

/- THE SECOND FORM. 'bulk': how many values and letters a reading holds, each counted each time it is reached (what is shared counts as often as it is met; a slice's spare places count too). A statement '..UptoSaid' is the law's where the arguments, and the package variables that the reading takes, are together of bulk at most 1048576: NARROWER than '..Said'. Prove '..Said' where nothing that the law and all that it calls make is longer than what came in: it says more and counts as full. Else prove '..UptoSaid'. A law counts once. -/
mutual
def uptoBulk {H : Type} : DataW H → Nat
  | .lit (.string bytes) => bytes.length + 1
  | .lit _ => 1
  | .nil => 1
  | .ptr d => uptoBulk d + 1
  | .slice elems spare => uptoBulkAll elems + uptoBulkAll spare + 1
  | .agg parts => uptoBulkAll parts + 1
  | .iface _ d => uptoBulk d + 1
  | .map entries => uptoBulkEntries entries + 1
  | .held _ => 1
def uptoBulkAll {H : Type} : List (DataW H) → Nat
  | [] => 0
  | d :: r => uptoBulk d + uptoBulkAll r
def uptoBulkEntries {H : Type} : List (Lit × DataW H) → Nat
  | [] => 0
  | x :: r => uptoBulkEntry x + uptoBulkEntries r
def uptoBulkEntry {H : Type} : Lit × DataW H → Nat
  | (.string bytes, d) => bytes.length + uptoBulk d + 1
  | (_, d) => uptoBulk d + 1
 end
def uptoSmall : (H : Type) → List (DataW H) → Bool := fun _ ds => decide (uptoBulkAll ds ≤ 1048576)
def OpenSpec.upto (s : _root_.Go.ChangeSpec) : _root_.Go.OpenSpec := { _root_.Go.OpenSpec.ofChange s with cond := some uptoSmall }

/-- 'fretworklaw08.PatOrder', WHERE WHAT IT READS IS OF BULK AT MOST 1048576: true; the input reads as it did. -/
def patOrderUptoRow : OpenClaim := { program := "ytmonepclhbappaadoor", sum := "8ab0da13bcbcbf6a64441be837ead3637812069881106dd471e21a898a740b71", func := "fretwork/fretworklaw08.PatOrder", spec := "patOrder", inPlace := ["slices.overlaps[fretwork/api.Edge]", "internal/abi.NoEscape", "internal/bytealg.MakeNoZero", "internal/reflectlite.ValueOf", "(internal/reflectlite.Value).Type", "(internal/reflectlite.Value).IsNil", "internal/reflectlite.TypeOf", "(internal/reflectlite.Value).Elem", "(internal/reflectlite.Value).Set"], unfollowed := true, recurses := true, named := ["internal/strconv.uint64pow10", "math/bits.deBruijn32tab", "math/bits.deBruijn64tab", "errors.errorType"], plainKeys := false, apart := false, laid := [("math/bits.deBruijn32tab", laid_math_bits_deBruijn32tab), ("math/bits.deBruijn64tab", laid_math_bits_deBruijn64tab), ("internal/strconv.uint64pow10", laid_internal_strconv_uint64pow10), ("errors.errorType", laid_errors_errorType)], narrowed := true }
def PatOrderUptoSaid : Prop := patOrderUptoRow.holds Tryd.pinned (OpenSpec.upto patOrderSpec)

/-- 'fretworklaw13.OdagLengths', WHERE WHAT IT READS IS OF BULK AT MOST 1048576: true; the input reads as it did. -/
def odagLengthsUptoRow : OpenClaim := { program := "ytmonepclhbappaadoor", sum := "8ab0da13bcbcbf6a64441be837ead3637812069881106dd471e21a898a740b71", func := "fretwork/fretworklaw13.OdagLengths", spec := "odagLengths", inPlace := ["math/bits.Add64", "internal/reflectlite.ValueOf", "(internal/reflectlite.Value).Type", "(internal/reflectlite.Value).IsNil", "internal/reflectlite.TypeOf", "(internal/reflectlite.Value).Elem", "(internal/reflectlite.Value).Set"], unfollowed := true, recurses := true, named := ["errors.errorType"], plainKeys := false, apart := false, laid := [("errors.errorType", laid_errors_errorType)], narrowed := true }
def OdagLengthsUptoSaid : Prop := odagLengthsUptoRow.holds Tryd.pinned (OpenSpec.upto odagLengthsSpec)

/-- 'fretworklaw13.OdagPaths', WHERE WHAT IT READS IS OF BULK AT MOST 1048576: true; the input reads as it did. -/
def odagPathsUptoRow : OpenClaim := { program := "ytmonepclhbappaadoor", sum := "8ab0da13bcbcbf6a64441be837ead3637812069881106dd471e21a898a740b71", func := "fretwork/fretworklaw13.OdagPaths", spec := "odagPaths", inPlace := ["math/bits.Add64", "internal/reflectlite.ValueOf", "(internal/reflectlite.Value).Type", "(internal/reflectlite.Value).IsNil", "internal/reflectlite.TypeOf", "(internal/reflectlite.Value).Elem", "(internal/reflectlite.Value).Set"], unfollowed := true, recurses := true, named := ["errors.errorType"], plainKeys := false, apart := false, laid := [("errors.errorType", laid_errors_errorType)], narrowed := true }
def OdagPathsUptoSaid : Prop := odagPathsUptoRow.holds Tryd.pinned (OpenSpec.upto odagPathsSpec)

/-- 'fretworklaw14.RankParts', WHERE WHAT IT READS IS OF BULK AT MOST 1048576: true; the input reads as it did. -/
def rankPartsUptoRow : OpenClaim := { program := "ytmonepclhbappaadoor", sum := "8ab0da13bcbcbf6a64441be837ead3637812069881106dd471e21a898a740b71", func := "fretwork/fretworklaw14.RankParts", spec := "rankParts", inPlace := ["internal/reflectlite.ValueOf", "(internal/reflectlite.Value).Type", "(internal/reflectlite.Value).IsNil", "internal/reflectlite.TypeOf", "(internal/reflectlite.Value).Elem", "(internal/reflectlite.Value).Set", "math/bits.Add64"], unfollowed := true, recurses := true, named := ["errors.errorType"], plainKeys := false, apart := false, laid := [("errors.errorType", laid_errors_errorType)], narrowed := true }
def RankPartsUptoSaid : Prop := rankPartsUptoRow.holds Tryd.pinned (OpenSpec.upto rankPartsSpec)

/-- 'fretworklaw14.RankBounds', WHERE WHAT IT READS IS OF BULK AT MOST 1048576: true; the input reads as it did. -/
def rankBoundsUptoRow : OpenClaim := { program := "ytmonepclhbappaadoor", sum := "8ab0da13bcbcbf6a64441be837ead3637812069881106dd471e21a898a740b71", func := "fretwork/fretworklaw14.RankBounds", spec := "rankBounds", inPlace := ["internal/reflectlite.ValueOf", "(internal/reflectlite.Value).Type", "(internal/reflectlite.Value).IsNil", "internal/reflectlite.TypeOf", "(internal/reflectlite.Value).Elem", "(internal/reflectlite.Value).Set", "math/bits.Add64"], unfollowed := true, recurses := true, named := ["errors.errorType"], plainKeys := false, apart := false, laid := [("errors.errorType", laid_errors_errorType)], narrowed := true }
def RankBoundsUptoSaid : Prop := rankBoundsUptoRow.holds Tryd.pinned (OpenSpec.upto rankBoundsSpec)

/-- 'fretworklaw13.OdagAdds', WHERE WHAT IT READS IS OF BULK AT MOST 1048576: true; the input reads as it did. -/
def odagAddsUptoRow : OpenClaim := { program := "ytmonepclhbappaadoor", sum := "8ab0da13bcbcbf6a64441be837ead3637812069881106dd471e21a898a740b71", func := "fretwork/fretworklaw13.OdagAdds", spec := "odagAdds", inPlace := ["math/bits.Add64", "internal/reflectlite.ValueOf", "(internal/reflectlite.Value).Type", "(internal/reflectlite.Value).IsNil", "internal/reflectlite.TypeOf", "(internal/reflectlite.Value).Elem", "(internal/reflectlite.Value).Set"], unfollowed := true, recurses := true, named := ["errors.errorType"], plainKeys := false, apart := false, laid := [("errors.errorType", laid_errors_errorType)], narrowed := true }
def OdagAddsUptoSaid : Prop := odagAddsUptoRow.holds Tryd.pinned (OpenSpec.upto odagAddsSpec)

/-- 'fretworklaw14.RankAt', WHERE WHAT IT READS IS OF BULK AT MOST 1048576: true; the input reads as it did. -/
def rankAtUptoRow : OpenClaim := { program := "ytmonepclhbappaadoor", sum := "8ab0da13bcbcbf6a64441be837ead3637812069881106dd471e21a898a740b71", func := "fretwork/fretworklaw14.RankAt", spec := "rankAt", inPlace := ["internal/reflectlite.ValueOf", "(internal/reflectlite.Value).Type", "(internal/reflectlite.Value).IsNil", "internal/reflectlite.TypeOf", "(internal/reflectlite.Value).Elem", "(internal/reflectlite.Value).Set", "math/bits.Add64"], unfollowed := true, recurses := true, named := ["errors.errorType"], plainKeys := false, apart := false, laid := [("errors.errorType", laid_errors_errorType)], narrowed := true }
def RankAtUptoSaid : Prop := rankAtUptoRow.holds Tryd.pinned (OpenSpec.upto rankAtSpec)

/-- 'fretworklaw14.RankSteps', WHERE WHAT IT READS IS OF BULK AT MOST 1048576: true; the input reads as it did. -/
def rankStepsUptoRow : OpenClaim := { program := "ytmonepclhbappaadoor", sum := "8ab0da13bcbcbf6a64441be837ead3637812069881106dd471e21a898a740b71", func := "fretwork/fretworklaw14.RankSteps", spec := "rankSteps", inPlace := ["internal/reflectlite.ValueOf", "(internal/reflectlite.Value).Type", "(internal/reflectlite.Value).IsNil", "internal/reflectlite.TypeOf", "(internal/reflectlite.Value).Elem", "(internal/reflectlite.Value).Set", "math/bits.Add64"], unfollowed := true, recurses := true, named := ["errors.errorType"], plainKeys := false, apart := false, laid := [("errors.errorType", laid_errors_errorType)], narrowed := true }
def RankStepsUptoSaid : Prop := rankStepsUptoRow.holds Tryd.pinned (OpenSpec.upto rankStepsSpec)

/-- 'fretworklaw14.RankMany', WHERE WHAT IT READS IS OF BULK AT MOST 1048576: true; the input reads as it did. -/
def rankManyUptoRow : OpenClaim := { program := "ytmonepclhbappaadoor", sum := "8ab0da13bcbcbf6a64441be837ead3637812069881106dd471e21a898a740b71", func := "fretwork/fretworklaw14.RankMany", spec := "rankMany", inPlace := ["internal/reflectlite.ValueOf", "(internal/reflectlite.Value).Type", "(internal/reflectlite.Value).IsNil", "internal/reflectlite.TypeOf", "(internal/reflectlite.Value).Elem", "(internal/reflectlite.Value).Set", "math/bits.Add64"], unfollowed := true, recurses := true, named := ["errors.errorType"], plainKeys := false, apart := false, laid := [("errors.errorType", laid_errors_errorType)], narrowed := true }
def RankManyUptoSaid : Prop := rankManyUptoRow.holds Tryd.pinned (OpenSpec.upto rankManySpec)

end Rows
end Go.Proofs.YtmonepclhbappaaDoor
