/-
  The frame where the tables of math/bits and strconv are listed beside errors.errorType; a pattern that came in.
-/
import Derived.Test.YtmonepclhbappaaDoorUpto
import Derived.Test.YtmonepclhbappaaDoorPatX
import Derived.Lib.SmallJoins
import Derived.Lib.LaidTab
import Derived.LaidSub
import Derived.Deep.DeepLaidRun
namespace Go.Proofs.YtmonepclhbappaaDoor
open Go.ChangeShapes Go.WideShapes Go.ChangeAt Go.RowKit Go.Joins
set_option linter.unusedVariables false
set_option maxRecDepth 100000

def tabLaid : List (String × DataW Unit) := [("math/bits.deBruijn32tab", Rows.laid_math_bits_deBruijn32tab), ("math/bits.deBruijn64tab", Rows.laid_math_bits_deBruijn64tab), ("internal/strconv.uint64pow10", Rows.laid_internal_strconv_uint64pow10), ("errors.errorType", Rows.laid_errors_errorType)]
theorem tab_err : (tabLaid.filter fun x => x.1 == "errors.errorType") = errLaid := by kernel_rfl
theorem tab_pow : (tabLaid.filter fun x => x.1 == "internal/strconv.uint64pow10") = [("internal/strconv.uint64pow10", Rows.laid_internal_strconv_uint64pow10)] := by kernel_rfl
theorem pow_data : (Rows.laid_internal_strconv_uint64pow10 : DataW Unit) = Lib.tabData .u64 Lib.pow10Tab := by kernel_rfl
theorem pow_none : ([("internal/strconv.uint64pow10", (Rows.laid_internal_strconv_uint64pow10 : DataW Unit))].filter fun x => x.2.handleName?.isNone) = [("internal/strconv.uint64pow10", Rows.laid_internal_strconv_uint64pow10)] := by kernel_rfl
theorem errT_of_tab {W : World} (h : laidMetH Tryd.prog tabLaid W) : ErrT W := by
  have h1 := laidMetH.filter (fun x => x.1 == "errors.errorType") h
  rw [tab_err] at h1
  exact errT_of_laid h1
theorem tabW_of_tab {W : World} (h : laidMetH Tryd.prog tabLaid W) : TabW W := by
  have h1 := laidMetH.filter (fun x => x.1 == "internal/strconv.uint64pow10") h
  rw [tab_pow] at h1
  have h2 := (laidMetH_iff.1 h1).1
  rw [pow_none, pow_data] at h2
  exact Lib.tabIs_of_head (g := 1) (by kernel_rfl) (by kernel_rfl) Tryd.underlying211 Tryd.underlying79 (by kernel_rfl) (by kernel_rfl) h2

/-- A table's values. -/
def litsOf : DataW Unit → List Value
  | .agg ps => ps.map fun | .lit (.int k x) => .int k x | _ => .bool false
  | _ => []
/-- A world that meets the condition: the settled one, the variables' cells laid. -/
noncomputable def tabWorld (os : Os) : World :=
  { laidWorld os with heap := (((laidWorld os).heap.modify 3 fun
      | .cells _ t frozen => .cells (litsOf Rows.laid_math_bits_deBruijn32tab).toArray t frozen
      | o => o).modify 4 fun
      | .cells _ t frozen => .cells (litsOf Rows.laid_math_bits_deBruijn64tab).toArray t frozen
      | o => o).modify 1 fun
      | .cells _ t frozen => .cells (litsOf Rows.laid_internal_strconv_uint64pow10).toArray t frozen
      | o => o }
theorem tab_met (os : Os) (args : Array Value) : laidMetH Tryd.prog tabLaid ((tabWorld os).forCall (fun _ _ => 0) ⟨#[], args, []⟩).memory :=
  laidMetH_of_parts (laidMet_of_run3 30 (by kernel_rfl) (by kernel_rfl) (by kernel_rfl)) (by kernel_rfl)

section
variable {H : Type} {enc : TypeId × Value → H} {P : Program} {w : World} {base : Nat} {spare : Nat → Bool} {held : Bool}
/-- A slice of ints that came in, with the bulk. -/
theorem open_sl_ints_upto {t e : TypeId} {k : IntKind} {fuel n c B : Nat} {A : Option Addr} {x : DataW H × List MemPlace} (ht : P.underlying t = some (.slice e)) (he : P.underlying e = some (.int k)) (hs : P.cellsOf e = 1)
    (h : DataW.trod enc P w base spare held fuel t [.slice A n c] = some x) (hB : Rows.uptoBulk x.1 ≤ B) :
    n ≤ B ∧ ∃ zs : List Int, zs.length = n ∧ Sl w 1 A n (zs.map (Value.int k)) ∧ ∀ z ∈ zs, (Lit.int k z).wf = true := by
  obtain ⟨hm, _⟩ := open_sl_upto hs (by omega) ht h hB
  exact ⟨hm, (open_sl_ints ht he hs h).2⟩
/-- The shape of a slice's value. -/
theorem slice_shape {t e : TypeId} {fuel : Nat} {v : Value} {y : DataW H × List MemPlace} (ht : P.underlying t = some (.slice e)) (h : DataW.trod enc P w base spare held fuel t [v] = some y) : ∃ A n c, v = .slice A n c := by
  rcases DataW.trod_slice ht h with ⟨h4, _⟩ | ⟨A, n, c, _, _, _, _, h4, _⟩
  · injection h4 with h4 _
    exact ⟨_, _, _, h4⟩
  · injection h4 with h4 _
    exact ⟨_, _, _, h4⟩
end

section
variable {H : Type} {enc : TypeId × Value → H} {w : World} {base b0 : Nat} {spare : Nat → Bool} {held : Bool} {r : Reach}
theorem pat_fields : ∃ f0 f1 : Field, Tryd.prog.underlying 25 = some (.struct #[f0, f1]) ∧ f0.type = 22 ∧ f1.type = 23 :=
  ⟨_, _, Tryd.underlying25, rfl, rfl⟩
theorem edge_fields : ∃ f0 f1 : Field, Tryd.prog.underlying 93 = some (.struct #[f0, f1]) ∧ (f0.offset = 0 ∧ f1.offset = 1) ∧ f0.type = 3 ∧ f1.type = 3 :=
  ⟨_, _, Tryd.underlying93, ⟨rfl, rfl⟩, rfl, rfl⟩
theorem pat_one : ∀ f0 f1 : Field, f0.type = 22 → f1.type = 23 → True := fun _ _ _ _ => trivial
/-- A pattern that came in, with the bulk. -/
theorem open_pat_upto {v : Value} {d : DataW H} {p : List MemPlace} {B : Nat} (hv : Value.okWide Tryd.prog w r b0 25 v) (h : DataW.Trod enc Tryd.prog w base spare held 25 v d p) (hB : Rows.uptoBulk d ≤ B) :
    ∃ (A : Option Addr) (n c : Nat) (B' : Option Addr) (m e : Nat) (L : List Int) (E : List (Int × Int)), v = pv A n c B' m e ∧ L.length = n ∧ n ≤ B ∧ m ≤ B ∧ Sl w 1 A n (L.map (Value.int .i64)) ∧ Sl w 2 B' m (Rk.cells E) := by
  obtain ⟨c0, c1, y0, y1, fu, rfl, rfl, rfl, hy0, hy1⟩ := open_agg2 Tryd.underlying25 (by kernel_rfl) (by kernel_rfl) hv h
  have hB' : Rows.uptoBulk y0.1 ≤ B ∧ Rows.uptoBulk y1.1 ≤ B := by
    simp only [Rows.uptoBulk, Rows.uptoBulkAll] at hB
    omega
  obtain ⟨A, n, c, rfl⟩ := slice_shape Tryd.underlying22 hy0
  obtain ⟨B', m, e, rfl⟩ := slice_shape Tryd.underlying23 hy1
  obtain ⟨hn, L, hL, hs, _⟩ := open_sl_ints_upto Tryd.underlying22 Tryd.underlying3 (by kernel_rfl) hy0 hB'.1
  obtain ⟨hm, _⟩ := open_sl_upto (s := 2) (by kernel_rfl) (by omega) Tryd.underlying23 hy1 hB'.2
  obtain ⟨_, E, hE, ht, _⟩ := open_sl_pairs Tryd.underlying23 Tryd.underlying93 (by kernel_rfl) rfl rfl (by kernel_rfl) (by kernel_rfl) Tryd.underlying3 Tryd.underlying3 hy1
  exact ⟨A, n, c, B', m, e, L, E, rfl, hL, hn, hm, hs, ht⟩
end
end Go.Proofs.YtmonepclhbappaaDoor
