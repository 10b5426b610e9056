/-
  No cell of these rows narrows 'for every input' (looked for: loops, veiled, ifaces, maps, wideKeys, modest, calm, conditions, laid).
  DERIVED. THE GIVEN ROWS OF THIS SEAT. 5 by the template 'for every input the law returns true; each argument reads behind the call as it read before'; 0 by the template 'total and deterministic' (their statements: YtakkdpnaoahpcaaTotals.lean).
  GIVEN WITH THE SEED: the statements are not yours to turn. If you find one false, say at which input.
  Laid BY PROGRAM, IN A SANDBOX (cutbox-rows.mjs): the forced cells as the released guide's own fill.sh prints them over the translation f66c675dd21dbfd0… (all of the seat's roots in one cut). By AI agents, Wed Nov 11 2026. No macro, syntax, notation, axiom, sorry.
-/
import Derived.Test.YtakkdpnaoahpcaaChecked
import GoSem.Claim
import GoSem.ClaimJoined
import GoSem.ClaimMapViews
import Derived.JoinedTies
import Derived.KernelRfl
namespace Go.Proofs.Ytakkdpnaoahpcaa
/- THE CELL 'sum', in the pinned program and in every row, IS THE sha256 OF THE DUMP (.gsa) THAT YtakkdpnaoahpcaaProg.lean LOADS. Nothing in Lean hashes anything: it is a label: what it is worth is what the hold of that sum in a sandbox is worth. -/
noncomputable def Try.pinned : Pinned := { name := "ytakkdpnaoahpcaa", sum := "f66c675dd21dbfd0463bfac44341a8ecf2ee145f5ddfc31d7c721a7c5b286c00", checked := Try.checked }
namespace Rows
def none {H : Type} : Left H := { results := [], args := [] }

/-- 'fretworklaw06.SetsMake': WHATEVER THE INPUT: true; the input reads as it did. -/
def setsMakeSpec : ChangeSpec := { name := "setsMake", fn := fun _ => fun
  | [d1, d2] => { results := [.lit (.bool true)], args := [d1, d2] }
  | _ => none }
def setsMakeRow : OpenClaim := { program := "ytakkdpnaoahpcaa", sum := "f66c675dd21dbfd0463bfac44341a8ecf2ee145f5ddfc31d7c721a7c5b286c00", func := "fretwork/fretworklaw06.SetsMake", spec := "setsMake", unfollowed := true, recurses := true, apart := false }
def SetsMakeSaid : Prop := setsMakeRow.holds Try.pinned (OpenSpec.ofChange setsMakeSpec)

/-- ITS FALSE NEIGHBOUR: 'it returns false'. Refute it at one input. -/
def setsMakeWrong : ChangeSpec := { name := "setsMake", fn := fun _ => fun
  | [d1, d2] => { results := [.lit (.bool false)], args := [d1, d2] }
  | _ => none }
def SetsMakeWrongFalsely : Prop := setsMakeRow.holds Try.pinned (OpenSpec.ofChange setsMakeWrong)

/-- 'fretworklaw06.SetsTwo': WHATEVER THE INPUT: true; the input reads as it did. -/
def setsTwoSpec : ChangeSpec := { name := "setsTwo", fn := fun _ => fun
  | [d1, d2, d3] => { results := [.lit (.bool true)], args := [d1, d2, d3] }
  | _ => none }
def setsTwoRow : OpenClaim := { program := "ytakkdpnaoahpcaa", sum := "f66c675dd21dbfd0463bfac44341a8ecf2ee145f5ddfc31d7c721a7c5b286c00", func := "fretwork/fretworklaw06.SetsTwo", spec := "setsTwo", unfollowed := true, recurses := true, apart := false }
def SetsTwoSaid : Prop := setsTwoRow.holds Try.pinned (OpenSpec.ofChange setsTwoSpec)

/-- ITS FALSE NEIGHBOUR: 'it returns false'. Refute it at one input. -/
def setsTwoWrong : ChangeSpec := { name := "setsTwo", fn := fun _ => fun
  | [d1, d2, d3] => { results := [.lit (.bool false)], args := [d1, d2, d3] }
  | _ => none }
def SetsTwoWrongFalsely : Prop := setsTwoRow.holds Try.pinned (OpenSpec.ofChange setsTwoWrong)

/-- 'fretworklaw06.SetsOrder': WHATEVER THE INPUT: true; the input reads as it did. -/
def setsOrderSpec : ChangeSpec := { name := "setsOrder", fn := fun _ => fun
  | [d1, d2, d3, d4, d5] => { results := [.lit (.bool true)], args := [d1, d2, d3, d4, d5] }
  | _ => none }
def setsOrderRow : OpenClaim := { program := "ytakkdpnaoahpcaa", sum := "f66c675dd21dbfd0463bfac44341a8ecf2ee145f5ddfc31d7c721a7c5b286c00", func := "fretwork/fretworklaw06.SetsOrder", spec := "setsOrder", unfollowed := true, recurses := true, apart := false }
def SetsOrderSaid : Prop := setsOrderRow.holds Try.pinned (OpenSpec.ofChange setsOrderSpec)

/-- ITS FALSE NEIGHBOUR: 'it returns false'. Refute it at one input. -/
def setsOrderWrong : ChangeSpec := { name := "setsOrder", fn := fun _ => fun
  | [d1, d2, d3, d4, d5] => { results := [.lit (.bool false)], args := [d1, d2, d3, d4, d5] }
  | _ => none }
def SetsOrderWrongFalsely : Prop := setsOrderRow.holds Try.pinned (OpenSpec.ofChange setsOrderWrong)

/-- 'fretworklaw06.SetsPicks': WHATEVER THE INPUT: true; the input reads as it did. -/
def setsPicksSpec : ChangeSpec := { name := "setsPicks", fn := fun _ => fun
  | [d1, d2, d3] => { results := [.lit (.bool true)], args := [d1, d2, d3] }
  | _ => none }
def setsPicksRow : OpenClaim := { program := "ytakkdpnaoahpcaa", sum := "f66c675dd21dbfd0463bfac44341a8ecf2ee145f5ddfc31d7c721a7c5b286c00", func := "fretwork/fretworklaw06.SetsPicks", spec := "setsPicks", unfollowed := true, recurses := true, named := ["math/bits.divideError", "math/bits.overflowError"], apart := false }
def SetsPicksSaid : Prop := setsPicksRow.holds Try.pinned (OpenSpec.ofChange setsPicksSpec)

/-- ITS FALSE NEIGHBOUR: 'it returns false'. Refute it at one input. -/
def setsPicksWrong : ChangeSpec := { name := "setsPicks", fn := fun _ => fun
  | [d1, d2, d3] => { results := [.lit (.bool false)], args := [d1, d2, d3] }
  | _ => none }
def SetsPicksWrongFalsely : Prop := setsPicksRow.holds Try.pinned (OpenSpec.ofChange setsPicksWrong)

/-- 'fretworklaw06.SetsRules': WHATEVER THE INPUT: true; the input reads as it did. -/
def setsRulesSpec : ChangeSpec := { name := "setsRules", fn := fun _ => fun
  | [d1, d2, d3, d4] => { results := [.lit (.bool true)], args := [d1, d2, d3, d4] }
  | _ => none }
def setsRulesRow : OpenClaim := { program := "ytakkdpnaoahpcaa", sum := "f66c675dd21dbfd0463bfac44341a8ecf2ee145f5ddfc31d7c721a7c5b286c00", func := "fretwork/fretworklaw06.SetsRules", spec := "setsRules", unfollowed := true, recurses := true, apart := false }
def SetsRulesSaid : Prop := setsRulesRow.holds Try.pinned (OpenSpec.ofChange setsRulesSpec)

/-- ITS FALSE NEIGHBOUR: 'it returns false'. Refute it at one input. -/
def setsRulesWrong : ChangeSpec := { name := "setsRules", fn := fun _ => fun
  | [d1, d2, d3, d4] => { results := [.lit (.bool false)], args := [d1, d2, d3, d4] }
  | _ => none }
def SetsRulesWrongFalsely : Prop := setsRulesRow.holds Try.pinned (OpenSpec.ofChange setsRulesWrong)

/- THE SECOND FORM. 'bulk': how many values and letters a reading holds, each counted each time it is reached (what is shared counts as often as it is met; a slice's spare places count too). A statement '..UptoSaid' is the law's where the arguments, and the package variables that the reading takes, are together of bulk at most 1048576: NARROWER than '..Said'. Prove '..Said' where nothing that the law and all that it calls make is longer than what came in: it says more and counts as full. Else prove '..UptoSaid'. A law counts once. -/
mutual
def uptoBulk {H : Type} : DataW H → Nat
  | .lit (.string bytes) => bytes.length + 1
  | .lit _ => 1
  | .nil => 1
  | .ptr d => uptoBulk d + 1
  | .slice elems spare => uptoBulkAll elems + uptoBulkAll spare + 1
  | .agg parts => uptoBulkAll parts + 1
  | .iface _ d => uptoBulk d + 1
  | .map entries => uptoBulkEntries entries + 1
  | .held _ => 1
def uptoBulkAll {H : Type} : List (DataW H) → Nat
  | [] => 0
  | d :: r => uptoBulk d + uptoBulkAll r
def uptoBulkEntries {H : Type} : List (Lit × DataW H) → Nat
  | [] => 0
  | x :: r => uptoBulkEntry x + uptoBulkEntries r
def uptoBulkEntry {H : Type} : Lit × DataW H → Nat
  | (.string bytes, d) => bytes.length + uptoBulk d + 1
  | (_, d) => uptoBulk d + 1
 end
def uptoSmall : (H : Type) → List (DataW H) → Bool := fun _ ds => decide (uptoBulkAll ds ≤ 1048576)
def OpenSpec.upto (s : _root_.Go.ChangeSpec) : _root_.Go.OpenSpec := { _root_.Go.OpenSpec.ofChange s with cond := some uptoSmall }

/-- 'fretworklaw06.SetsMake', WHERE WHAT IT READS IS OF BULK AT MOST 1048576: true; the input reads as it did. -/
def setsMakeUptoRow : OpenClaim := { program := "ytakkdpnaoahpcaa", sum := "f66c675dd21dbfd0463bfac44341a8ecf2ee145f5ddfc31d7c721a7c5b286c00", func := "fretwork/fretworklaw06.SetsMake", spec := "setsMake", unfollowed := true, recurses := true, apart := false, narrowed := true }
def SetsMakeUptoSaid : Prop := setsMakeUptoRow.holds Try.pinned (OpenSpec.upto setsMakeSpec)

/-- 'fretworklaw06.SetsTwo', WHERE WHAT IT READS IS OF BULK AT MOST 1048576: true; the input reads as it did. -/
def setsTwoUptoRow : OpenClaim := { program := "ytakkdpnaoahpcaa", sum := "f66c675dd21dbfd0463bfac44341a8ecf2ee145f5ddfc31d7c721a7c5b286c00", func := "fretwork/fretworklaw06.SetsTwo", spec := "setsTwo", unfollowed := true, recurses := true, apart := false, narrowed := true }
def SetsTwoUptoSaid : Prop := setsTwoUptoRow.holds Try.pinned (OpenSpec.upto setsTwoSpec)

/-- 'fretworklaw06.SetsOrder', WHERE WHAT IT READS IS OF BULK AT MOST 1048576: true; the input reads as it did. -/
def setsOrderUptoRow : OpenClaim := { program := "ytakkdpnaoahpcaa", sum := "f66c675dd21dbfd0463bfac44341a8ecf2ee145f5ddfc31d7c721a7c5b286c00", func := "fretwork/fretworklaw06.SetsOrder", spec := "setsOrder", unfollowed := true, recurses := true, apart := false, narrowed := true }
def SetsOrderUptoSaid : Prop := setsOrderUptoRow.holds Try.pinned (OpenSpec.upto setsOrderSpec)

/-- 'fretworklaw06.SetsPicks', WHERE WHAT IT READS IS OF BULK AT MOST 1048576: true; the input reads as it did. -/
def setsPicksUptoRow : OpenClaim := { program := "ytakkdpnaoahpcaa", sum := "f66c675dd21dbfd0463bfac44341a8ecf2ee145f5ddfc31d7c721a7c5b286c00", func := "fretwork/fretworklaw06.SetsPicks", spec := "setsPicks", unfollowed := true, recurses := true, named := ["math/bits.divideError", "math/bits.overflowError"], apart := false, narrowed := true }
def SetsPicksUptoSaid : Prop := setsPicksUptoRow.holds Try.pinned (OpenSpec.upto setsPicksSpec)

/-- 'fretworklaw06.SetsRules', WHERE WHAT IT READS IS OF BULK AT MOST 1048576: true; the input reads as it did. -/
def setsRulesUptoRow : OpenClaim := { program := "ytakkdpnaoahpcaa", sum := "f66c675dd21dbfd0463bfac44341a8ecf2ee145f5ddfc31d7c721a7c5b286c00", func := "fretwork/fretworklaw06.SetsRules", spec := "setsRules", unfollowed := true, recurses := true, apart := false, narrowed := true }
def SetsRulesUptoSaid : Prop := setsRulesUptoRow.holds Try.pinned (OpenSpec.upto setsRulesSpec)

end Rows
end Go.Proofs.Ytakkdpnaoahpcaa
