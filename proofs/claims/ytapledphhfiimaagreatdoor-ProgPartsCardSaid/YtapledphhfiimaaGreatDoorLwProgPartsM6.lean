/-
  Part 6 of the proof of LwProgParts: FrameL, ProgP, PgA.
-/
import Derived.Test.YtapledphhfiimaaGreatDoorLwProgPartsM5
import Derived.Stop.LaidErr
import Derived.Shelf.Vars
import Derived.Lib.SlicesS
import Derived.BigQuiet
import Derived.Test.YtapledphhfiimaaGreatDoorLwProgPartsM3
/-
  The frame where the library's tables and its two errors are listed: what that gives a walk; a world that meets it.
-/
namespace Go.Proofs.YtapledphhfiimaaGreatDoor
open Go.ChangeShapes Go.WideShapes Go.ChangeAt Go.RowKit Go.Joins
set_option linter.unusedVariables false
set_option maxRecDepth 100000

def libLaid : List (String × DataW Unit) := [("math/bits.deBruijn32tab", Rows.laid_math_bits_deBruijn32tab), ("math/bits.deBruijn64tab", Rows.laid_math_bits_deBruijn64tab), ("internal/strconv.uint64pow10", Rows.laid_internal_strconv_uint64pow10), ("unicode/utf8.acceptRanges", Rows.laid_unicode_utf8_acceptRanges), ("errors.errorType", Rows.laid_errors_errorType), ("strconv.ErrRange", Rows.laid_strconv_ErrRange), ("strconv.ErrSyntax", Rows.laid_strconv_ErrSyntax), ("unicode/utf8.first", Rows.laid_unicode_utf8_first)]
theorem lib_err : (libLaid.filter fun x => x.1 == "errors.errorType") = errLaid := by kernel_rfl
theorem lib_pow : (libLaid.filter fun x => x.1 == "internal/strconv.uint64pow10") = [("internal/strconv.uint64pow10", Rows.laid_internal_strconv_uint64pow10)] := by kernel_rfl
theorem errT_of_lib {W : World} (h : laidMetH Tryz.prog libLaid W) : ErrT W := by
  have h1 := laidMetH.filter (fun x => x.1 == "errors.errorType") h
  rw [lib_err] at h1
  exact errT_of_laid h1
theorem tabW_of_lib {W : World} (h : laidMetH Tryz.prog libLaid W) : TabW W := by
  have h1 := laidMetH.filter (fun x => x.1 == "internal/strconv.uint64pow10") h
  rw [lib_pow] at h1
  have h2 := (laidMetH_iff.1 h1).1
  rw [pow_none, pow_data] at h2
  exact Lib.tabIs_of_head (g := 2) (by kernel_rfl) (by kernel_rfl) Tryz.underlying237 Tryz.underlying173 (by kernel_rfl) (by kernel_rfl) h2
theorem lib_syn : ((libLaid.filter fun x => x.1 == "strconv.ErrSyntax").filter fun x => x.2.handleName?.isNone) = [("strconv.ErrSyntax", .iface "*errors.errorString" (.ptr (.agg [.lit (.string [105, 110, 118, 97, 108, 105, 100, 32, 115, 121, 110, 116, 97, 120])])))] := by kernel_rfl
theorem lib_rng : ((libLaid.filter fun x => x.1 == "strconv.ErrRange").filter fun x => x.2.handleName?.isNone) = [("strconv.ErrRange", .iface "*errors.errorString" (.ptr (.agg [.lit (.string [118, 97, 108, 117, 101, 32, 111, 117, 116, 32, 111, 102, 32, 114, 97, 110, 103, 101])])))] := by kernel_rfl
theorem star_es : "*" ++ "errors.errorString" = "*errors.errorString" := by decide
theorem row_es (u : TypeId) (h : Tryz.prog.typeName? 3 u = some "*errors.errorString") : u = 260 :=
  typeName_ptr_named (nm := "errors.errorString") (by rw [star_es]; kernel_rfl) (by kernel_rfl) (by decide) u (by rw [star_es]; exact h)
theorem gSyn : Tryz.prog.globalNamed "strconv.ErrSyntax" = some 5 := by kernel_rfl
theorem gSynT : (Tryz.prog.globals[5]?).map (·.type) = some 36 := by kernel_rfl
theorem gRng : Tryz.prog.globalNamed "strconv.ErrRange" = some 6 := by kernel_rfl
theorem gRngT : (Tryz.prog.globals[6]?).map (·.type) = some 36 := by kernel_rfl
theorem cells_es : Tryz.prog.cellsOf 262 = 1 := by kernel_rfl
theorem cells_st : Tryz.prog.cellsOf 9 = 1 := by kernel_rfl
theorem libW_of_lib {W : World} (h : laidMetH Tryz.prog libLaid W) (hS : W.ShapedOpen Tryz.prog) : LibW W := by
  refine ⟨?_, ?_, ?_⟩
  · exact cell_of_shapedOpen_int (g := 1) (t := 3) (zero := #[.int .i64 0]) hS (of_decide_eq_true (by kernel_rfl)) (by kernel_rfl) rfl (by kernel_rfl) (by kernel_rfl) Tryz.underlying3
  · have h1 := (laidMetH_iff.1 (laidMetH.filter (fun x => x.1 == "strconv.ErrSyntax") h)).1
    rw [lib_syn] at h1
    obtain ⟨a0, s0, hv0, -, -, -⟩ := laid_sentinel h1 gSyn gSynT Tryz.underlying36 row_es Tryz.underlying260 Tryz.underlying262 rfl rfl Tryz.underlying9 cells_es cells_st
    have h0 := World.var?_cell gSyn hv0 0
    simp at h0
    exact ⟨_, h0, .inr ⟨_, _, rfl⟩⟩
  · have h1 := (laidMetH_iff.1 (laidMetH.filter (fun x => x.1 == "strconv.ErrRange") h)).1
    rw [lib_rng] at h1
    obtain ⟨a0, s0, hv0, -, -, -⟩ := laid_sentinel h1 gRng gRngT Tryz.underlying36 row_es Tryz.underlying260 Tryz.underlying262 rfl rfl Tryz.underlying9 cells_es cells_st
    have h0 := World.var?_cell gRng hv0 0
    simp at h0
    exact ⟨_, h0, .inr ⟨_, _, rfl⟩⟩

/-- A table of rows: its values. -/
def litsDeep : DataW Unit → List Value
  | .agg ps => ps.flatMap litsOf
  | _ => []
def synS : ByteArray := { data := #[105, 110, 118, 97, 108, 105, 100, 32, 115, 121, 110, 116, 97, 120] }
def rngS : ByteArray := { data := #[118, 97, 108, 117, 101, 32, 111, 117, 116, 32, 111, 102, 32, 114, 97, 110, 103, 101] }
noncomputable def lowB : Nat := (World.holding Tryz.prog default ⟨#[], #[], []⟩).heap.size
/-- A world that meets the condition: the settled one with two blocks more, the variables' cells laid. -/
noncomputable def libWorld (os : Os) : World :=
  let w0 := World.holding Tryz.prog os ⟨#[.cells #[.string synS] 262, .cells #[.string rngS] 262], #[], []⟩
  { w0 with heap := (((((((w0.heap.modify 0 fun
      | .cells _ t frozen => .cells #[.iface 211 (.agg #[.pointer (some ⟨9, 36, none⟩)])] t frozen
      | o => o).modify 7 fun
      | .cells _ t frozen => .cells (litsOf Rows.laid_math_bits_deBruijn32tab).toArray t frozen
      | o => o).modify 8 fun
      | .cells _ t frozen => .cells (litsOf Rows.laid_math_bits_deBruijn64tab).toArray t frozen
      | o => o).modify 2 fun
      | .cells _ t frozen => .cells (litsOf Rows.laid_internal_strconv_uint64pow10).toArray t frozen
      | o => o).modify 4 fun
      | .cells _ t frozen => .cells (litsDeep Rows.laid_unicode_utf8_acceptRanges).toArray t frozen
      | o => o).modify 3 fun
      | .cells _ t frozen => .cells (litsOf Rows.laid_unicode_utf8_first).toArray t frozen
      | o => o).modify 5 fun
      | .cells _ t frozen => .cells #[.iface 260 (.pointer (some ⟨lowB, 0, none⟩))] t frozen
      | o => o).modify 6 fun
      | .cells _ t frozen => .cells #[.iface 260 (.pointer (some ⟨lowB + 1, 0, none⟩))] t frozen
      | o => o }
theorem lib_met (os : Os) (args : Array Value) : laidMetH Tryz.prog libLaid ((libWorld os).forCall (fun _ _ => 0) ⟨#[], args, []⟩).memory :=
  laidMetH_of_parts (laidMet_of_run3 300 (by kernel_rfl) (by kernel_rfl) (by kernel_rfl)) (by kernel_rfl)
end Go.Proofs.YtapledphhfiimaaGreatDoor
/-
  Programs of tests plainly: their texts, there and back.
-/
namespace Go.Proofs.YtapledphhfiimaaGreatDoor.Pg
open Go Go.Proofs.YtapledphhfiimaaGreatDoor.Tx
set_option linter.unusedVariables false

def namesL : List (List UInt8) := [[99, 108, 105, 113, 117, 101], [108, 97, 98, 101, 108, 115], [100, 101, 103, 114, 101, 101], [115, 105, 122, 101], [101, 100, 103, 101, 115], [117, 110, 108, 105, 107, 101], [111, 110, 108, 121], [102, 114, 101, 101]]
def namesB : List ByteArray := namesL.map fun l => ⟨l.toArray⟩
/-- The name of a kind. -/
def nameL (k : Int) : List UInt8 := if 1 ≤ k ∧ k ≤ 8 then namesL.getD (k.toNat - 1) [] else []
/-- The kind of a name. -/
def idxL (l : List UInt8) : List (List UInt8) → Nat → Int
  | [], _ => 0
  | x :: r, i => if x = l then ((i + 1 : Nat) : Int) else idxL l r (i + 1)
def kindZ (l : List UInt8) : Int := idxL l namesL 0
theorem ba_eq {l m : List UInt8} : (⟨l.toArray⟩ : ByteArray) = ⟨m.toArray⟩ ↔ l = m := by
  constructor
  · intro h
    have := congrArg (·.data.toList) h
    simpa using this
  · intro h; rw [h]
theorem idx_eq (l : List UInt8) : ∀ (r : List (List UInt8)) (i : Nat), (∀ x ∈ r, x ≠ l) → idxL l r i = 0
  | [], _, _ => rfl
  | x :: r, i, h => by
    rw [idxL, if_neg (h x (List.mem_cons_self ..)), idx_eq l r (i + 1) fun y hy => h y (List.mem_cons_of_mem _ hy)]
theorem idxFromS_idxL (l : List UInt8) : ∀ (r : List (List UInt8)) (i : Nat), Lib.idxFromS (r.map fun l => ⟨l.toArray⟩) ⟨l.toArray⟩ i + 1 = idxL l r i
  | [], _ => rfl
  | x :: r, i => by
    have ih := idxFromS_idxL l r (i + 1)
    rw [List.map_cons, idxL]
    unfold Lib.idxFromS
    by_cases h : x = l
    · rw [if_pos (by rw [h]), if_pos h]
      omega
    · rw [if_neg (fun e => h (ba_eq.1 e)), if_neg h, ih]
theorem kind_idx (l : List UInt8) : Lib.idxOfS namesB ⟨l.toArray⟩ + 1 = kindZ l := idxFromS_idxL l namesL 0
theorem idxL_some (l : List UInt8) : ∀ (r : List (List UInt8)) (i : Nat), idxL l r i = 0 ∨ ∃ j, j < r.length ∧ idxL l r i = ((i + j + 1 : Nat) : Int) ∧ r.getD j [] = l
  | [], _ => .inl rfl
  | x :: r, i => by
    rw [idxL]
    by_cases h : x = l
    · rw [if_pos h]
      exact .inr ⟨0, by simp, rfl, h⟩
    · rw [if_neg h]
      rcases idxL_some l r (i + 1) with h1 | ⟨j, h1, h2, h3⟩
      · exact .inl h1
      · exact .inr ⟨j + 1, by simpa using h1, by rw [h2]; congr 1; omega, by simpa using h3⟩
theorem kind_cases (l : List UInt8) : kindZ l = 0 ∨ (1 ≤ kindZ l ∧ kindZ l ≤ 8 ∧ nameL (kindZ l) = l) := by
  rcases idxL_some l namesL 0 with h | ⟨j, h1, h2, h3⟩
  · exact .inl h
  · right
    have hl : namesL.length = 8 := rfl
    have e : kindZ l = ((0 + j + 1 : Nat) : Int) := h2
    refine ⟨by omega, by omega, ?_⟩
    unfold nameL
    rw [if_pos (by omega), e, show ((0 + j + 1 : Nat) : Int).toNat - 1 = j by omega, h3]
theorem nat8 {P : Int → Prop} (h : P 1 ∧ P 2 ∧ P 3 ∧ P 4 ∧ P 5 ∧ P 6 ∧ P 7 ∧ P 8) {k : Int} (h1 : 1 ≤ k) (h8 : k ≤ 8) : P k := by
  obtain ⟨p1, p2, p3, p4, p5, p6, p7, p8⟩ := h
  rcases (show k = 1 ∨ k = 2 ∨ k = 3 ∨ k = 4 ∨ k = 5 ∨ k = 6 ∨ k = 7 ∨ k = 8 by omega) with rfl | rfl | rfl | rfl | rfl | rfl | rfl | rfl <;> assumption
theorem kind_name {k : Int} (h1 : 1 ≤ k) (h8 : k ≤ 8) : kindZ (nameL k) = k :=
  nat8 (P := fun k => kindZ (nameL k) = k) ⟨by decide, by decide, by decide, by decide, by decide, by decide, by decide, by decide⟩ h1 h8
theorem name_ne {k : Int} (h1 : 1 ≤ k) (h8 : k ≤ 8) : nameL k ≠ [] ∧ 32 ∉ nameL k ∧ 59 ∉ nameL k ∧ 10 ∉ nameL k ∧ (nameL k).length ≤ 6 :=
  nat8 (P := fun k => nameL k ≠ [] ∧ 32 ∉ nameL k ∧ 59 ∉ nameL k ∧ 10 ∉ nameL k ∧ (nameL k).length ≤ 6) ⟨by decide, by decide, by decide, by decide, by decide, by decide, by decide, by decide⟩ h1 h8
theorem name_out {k : Int} (h : ¬ (1 ≤ k ∧ k ≤ 8)) : nameL k = [] := if_neg h
/-- Does a kind take a number? -/
def takesZ (k : Int) : Bool := !(decide (k = 1) || decide (k = 6) || decide (k = 8))
/-- A test that may be. -/
def opOK (o : Int × Int) : Prop := (1 ≤ o.1 ∧ o.1 ≤ 8) ∧ (0 ≤ o.2 ∧ o.2 ≤ 255) ∧ (takesZ o.1 = false → o.2 = 0)
instance (o : Int × Int) : Decidable (opOK o) := by unfold opOK; exact inferInstance
def rightG (p : List (Int × Int)) : Prop := p.length ≤ 16 ∧ ∀ o ∈ p, opOK o
instance (p : List (Int × Int)) : Decidable (rightG p) := by unfold rightG; exact inferInstance
/-- A test's text. -/
def opL (o : Int × Int) : List UInt8 := nameL o.1 ++ if takesZ o.1 = true then 32 :: Lib.itoa o.2 else []
def textG (p : List (Int × Int)) : List UInt8 := Lib.join (p.map opL) [59]
/-- A number's digits, at most so many, and no others than the number's own. -/
def numP (d : Nat) (s : List UInt8) : Option Int :=
  match Lib.atoiAll s with
  | .ok v => if s.length ≤ d ∧ Lib.itoa v = s ∧ 0 ≤ v then some v else none
  | _ => none
def testP (x : List UInt8) : Option (Int × Int) :=
  if kindZ (cut1 32 x).1 = 0 ∨ (cut1 32 x).2.2 ≠ takesZ (kindZ (cut1 32 x).1) then none
  else if (cut1 32 x).2.2 = true then (numP 6 (cut1 32 x).2.1).map fun v => (kindZ (cut1 32 x).1, v) else some (kindZ (cut1 32 x).1, 0)
def testsP : List (List UInt8) → Option (List (Int × Int))
  | [] => some []
  | x :: r => match testP x with
    | none => none
    | some o => (testsP r).map (o :: ·)
def parseG (s : List UInt8) : Option (List (Int × Int)) :=
  if s = [] then some [] else match testsP (split1 59 s) with
    | none => none
    | some p => if rightG p then some p else none
theorem numP_dec {d u : Nat} (hu : u ≤ 9223372036854775807) (hd : (Lib.decDigits u).length ≤ d) : numP d (Lib.decDigits u) = some (u : Int) := by
  unfold numP
  rw [atoi_dec hu]
  simp only
  rw [if_pos ⟨hd, itoa_nat u, by omega⟩]
theorem numP_some {d : Nat} {s : List UInt8} {v : Int} (h : numP d s = some v) : 0 ≤ v ∧ s = Lib.decDigits v.toNat ∧ s.length ≤ d := by
  unfold numP at h
  split at h
  · split at h
    · rename_i h1
      injection h with h
      subst h
      obtain ⟨h1, h2, h3⟩ := h1
      refine ⟨h3, ?_, h1⟩
      rw [← h2]
      unfold Lib.itoa
      rw [if_neg (by omega)]
    · cases h
  · cases h
theorem testP_of {x nm n : List UInt8} {has : Bool} (h : cut1 32 x = (nm, n, has)) : testP x = if kindZ nm = 0 ∨ has ≠ takesZ (kindZ nm) then none else if has = true then (numP 6 n).map fun v => (kindZ nm, v) else some (kindZ nm, 0) := by
  unfold testP
  rw [h]
theorem testP_opL {o : Int × Int} (h : opOK o) : testP (opL o) = some o := by
  obtain ⟨⟨h1, h8⟩, ⟨h0, h255⟩, hz⟩ := h
  obtain ⟨n1, n2, n3, n4, n5⟩ := name_ne h1 h8
  have hk := kind_name h1 h8
  cases ht : takesZ o.1 with
  | true =>
    have hc : cut1 32 (opL o) = (nameL o.1, Lib.itoa o.2, true) := by
      unfold opL
      rw [if_pos ht]
      exact cut1_app _ n2
    have hi : Lib.itoa o.2 = Lib.decDigits o.2.toNat := by unfold Lib.itoa; rw [if_neg (by omega)]
    rw [testP_of hc, hk, ht, if_neg (fun e => e.elim (fun e => by omega) (fun e => e rfl)), if_pos rfl, hi, numP_dec (by omega) ((dec_len_lt 6 _ (by omega)).2 (by omega))]
    show some (o.1, ((o.2.toNat : Nat) : Int)) = some o
    congr 1
    exact Prod.ext rfl (by simp only; omega)
  | false =>
    have hc : cut1 32 (opL o) = (nameL o.1, [], false) := by
      unfold opL
      rw [if_neg (by rw [ht]; decide), List.append_nil]
      exact cut1_none n2
    rw [testP_of hc, hk, ht, if_neg (fun e => e.elim (fun e => by omega) (fun e => e rfl)), if_neg (by decide)]
    congr 1
    exact Prod.ext rfl (hz ht).symm
theorem testP_some {x : List UInt8} {o : Int × Int} (h : testP x = some o) : opL o = x ∧ (1 ≤ o.1 ∧ o.1 ≤ 8) ∧ 0 ≤ o.2 ∧ o.2 < 1000000 ∧ (takesZ o.1 = false → o.2 = 0) := by
  obtain ⟨nm, n, has, hc⟩ : ∃ nm n has, cut1 32 x = (nm, n, has) := ⟨_, _, _, rfl⟩
  rw [testP_of hc] at h
  split at h
  · cases h
  · rename_i hn
    have hk : kindZ nm ≠ 0 := fun e => hn (.inl e)
    have ht : has = takesZ (kindZ nm) := Decidable.byContradiction fun e => hn (.inr e)
    obtain ⟨k1, k8, knm⟩ := (kind_cases nm).resolve_left hk
    clear hn hk
    rcases cut1_cases 32 x with ⟨hx, hc2⟩ | ⟨a, b, hx, ha, hc2⟩
    · rw [hc] at hc2
      obtain ⟨rfl, rfl, rfl⟩ : nm = x ∧ n = [] ∧ has = false := by simpa using hc2
      rw [if_neg (by decide)] at h
      injection h with h
      subst h
      refine ⟨?_, ⟨k1, k8⟩, Int.le_refl _, (by simp only; omega), fun _ => rfl⟩
      unfold opL
      simp only
      rw [← ht, if_neg (by decide), List.append_nil, knm]
    · rw [hc] at hc2
      obtain ⟨rfl, rfl, rfl⟩ : nm = a ∧ n = b ∧ has = true := by simpa using hc2
      rw [if_pos rfl] at h
      cases hv : numP 6 n with
      | none => rw [hv] at h; cases h
      | some v =>
        rw [hv] at h
        simp only [Option.map_some] at h
        injection h with h
        subst h
        obtain ⟨v0, hb, hl⟩ := numP_some hv
        rw [hb] at hl
        have hlt := (dec_len_lt 6 v.toNat (by omega)).1 hl
        refine ⟨?_, ⟨k1, k8⟩, v0, by simp only; omega, fun e => by simp only at e; rw [← ht] at e; cases e⟩
        unfold opL
        simp only
        rw [← ht, if_pos rfl, knm, hx]
        congr 2
        unfold Lib.itoa
        rw [if_neg (by omega), hb]
theorem testsP_map : ∀ {p : List (Int × Int)}, (∀ o ∈ p, opOK o) → testsP (p.map opL) = some p
  | [], _ => rfl
  | o :: p, h => by
    rw [List.map_cons, testsP, testP_opL (h o (List.mem_cons_self ..)), testsP_map fun x hx => h x (List.mem_cons_of_mem _ hx)]
    rfl
theorem testsP_some : ∀ {l : List (List UInt8)} {p : List (Int × Int)}, testsP l = some p → p.map opL = l
  | [], p, h => by
    injection h with h
    rw [← h]; rfl
  | x :: r, p, h => by
    rw [testsP] at h
    cases ht : testP x with
    | none => rw [ht] at h; cases h
    | some o =>
      rw [ht] at h
      simp only at h
      cases hr : testsP r with
      | none => rw [hr] at h; cases h
      | some q =>
        rw [hr] at h
        injection h with h
        rw [← h, List.map_cons, (testP_some ht).1, testsP_some hr]
theorem dec_no {b : UInt8} (hb : b.toNat < 48 ∨ 57 < b.toNat) (u : Nat) : b ∉ Lib.decDigits u := fun h => by have := dec_digit u b h; omega
theorem opL_no {o : Int × Int} (h1 : 1 ≤ o.1 ∧ o.1 ≤ 8) (h0 : 0 ≤ o.2) : 59 ∉ opL o ∧ 10 ∉ opL o ∧ opL o ≠ [] := by
  obtain ⟨n1, n2, n3, n4, n5⟩ := name_ne h1.1 h1.2
  have hi : Lib.itoa o.2 = Lib.decDigits o.2.toNat := by unfold Lib.itoa; rw [if_neg (by omega)]
  unfold opL
  rw [hi]
  refine ⟨fun h => ?_, fun h => ?_, fun h => n1 (List.append_eq_nil_iff.1 h).1⟩
  · rcases List.mem_append.1 h with h | h
    · exact n3 h
    · split at h
      · rcases List.mem_cons.1 h with h | h
        · cases h
        · exact dec_no (.inr (by decide)) _ h
      · cases h
  · rcases List.mem_append.1 h with h | h
    · exact n4 h
    · split at h
      · rcases List.mem_cons.1 h with h | h
        · cases h
        · exact dec_no (.inl (by decide)) _ h
      · cases h
/-- The text of a program that is right is parsed as it. -/
theorem parse_text {p : List (Int × Int)} (h : rightG p) : parseG (textG p) = some p := by
  rcases p with _ | ⟨o, p⟩
  · rfl
  · have hno : ∀ y ∈ (o :: p).map opL, (59 : UInt8) ∉ y := fun y hy => by
      obtain ⟨z, hz, rfl⟩ := List.mem_map.1 hy
      have := h.2 z hz
      exact (opL_no this.1 this.2.1.1).1
    have hs : split1 59 (textG (o :: p)) = (o :: p).map opL := by
      unfold textG
      rw [List.map_cons] at hno ⊢
      exact split_join 59 _ _ (hno _ (List.mem_cons_self ..)) fun y hy => hno y (List.mem_cons_of_mem _ hy)
    have hne : textG (o :: p) ≠ [] := fun e => by
      rw [e] at hs
      have h2 := (opL_no (h.2 o (List.mem_cons_self ..)).1 (h.2 o (List.mem_cons_self ..)).2.1.1).2.2
      rw [List.map_cons] at hs
      injection hs with hs _
      exact h2 hs.symm
    unfold parseG
    rw [if_neg hne, hs, testsP_map h.2]
    simp only
    rw [if_pos h]
/-- What is parsed is right, and has just the text. -/
theorem parse_some {s : List UInt8} {p : List (Int × Int)} (h : parseG s = some p) : textG p = s ∧ rightG p := by
  unfold parseG at h
  split at h
  · rename_i hs
    injection h with h
    rw [← h, hs]
    exact ⟨rfl, by decide, fun o ho => by cases ho⟩
  · split at h
    · cases h
    · rename_i q hq
      split at h
      · rename_i hr
        injection h with h
        subst h
        refine ⟨?_, hr⟩
        unfold textG
        rw [testsP_some hq, join_split]
      · cases h
end Go.Proofs.YtapledphhfiimaaGreatDoor.Pg
/-
  Programs of tests: walks of names, Name, Kind, takes, right, Right.
-/
namespace Go.Proofs.YtapledphhfiimaaGreatDoor
open Go.RowKit Go.Proofs.YtapledphhfiimaaGreatDoor.Pg
attribute [local go_sem ↓] Go.wp_at_zero Go.wp_at_succ
set_option maxRecDepth 100000
set_option linter.unusedVariables false

theorem elemOp : Elem Tryz.prog 33 40 (.agg #[.int .i64 0, .int .i64 0]) 2 16 := ⟨Tryz.underlying33, by kernel_rfl, rfl, by decide⟩
theorem names_any (w : World) : Calls Tryz.prog 90 #[] w fun e w' => e = .returned (.slice (some ⟨w.heap.size, 0, none⟩) 8 8) ∧ w.alloc (.cells (namesB.map Value.string).toArray 9) = w' := by
  go_enter Tryz.func90, Tryz.ntmps90
  go_wp2
  go_ret
  exact ⟨rfl, rfl⟩
theorem takes_any (k : Int) (w : World) : Calls Tryz.prog 68 #[.int .i64 k] w fun e w' => e = .returned (.bool (takesZ k)) ∧ w = w' := by
  by_cases h1 : k = 1
  · subst h1
    go_enter Tryz.func68, Tryz.ntmps68
    go_wp2
    go_ret
    exact ⟨rfl, rfl⟩
  · by_cases h6 : k = 6
    · subst h6
      go_enter Tryz.func68, Tryz.ntmps68
      go_wp2
      go_ret
      exact ⟨rfl, rfl⟩
    · by_cases h8 : k = 8
      · subst h8
        go_enter Tryz.func68, Tryz.ntmps68
        go_wp2
        go_ret
        exact ⟨rfl, rfl⟩
      · have e1 : (k == 1) = false := by simpa using h1
        have e6 : (k == 6) = false := by simpa using h6
        have e8 : (k == 8) = false := by simpa using h8
        have HT := Lib.hid (show true = takesZ k from by unfold takesZ; simp [h1, h6, h8])
        clear h1 h6 h8
        go_enter Tryz.func68, Tryz.ntmps68
        go_wp2
        go_ret
        exact ⟨ret_bool HT.out, rfl⟩
theorem Name_any (k : Int) (w : World) : Calls Tryz.prog 67 #[.int .i64 k] w fun e w' => e = .returned (.string (bz (nameL k))) ∧ Below w.heap.size w w' := by
  by_cases h1 : k < 1
  · have HN := Lib.hid (show (⟨#[]⟩ : ByteArray) = bz (nameL k) from by rw [name_out (by omega)])
    go_enter Tryz.func67, Tryz.ntmps67
    go_wp2_with fail
    go_ret
    exact ⟨ret_eq (congrArg Value.string HN.out), Below.refl _ _⟩
  · by_cases h8 : 8 < k
    · have HN := Lib.hid (show (⟨#[]⟩ : ByteArray) = bz (nameL k) from by rw [name_out (by omega)])
      go_enter Tryz.func67, Tryz.ntmps67
      go_wp2_with fail
      go_ret
      exact ⟨ret_eq (congrArg Value.string HN.out), Below.refl _ _⟩
    · rcases (show k = 1 ∨ k = 2 ∨ k = 3 ∨ k = 4 ∨ k = 5 ∨ k = 6 ∨ k = 7 ∨ k = 8 by omega) with rfl | rfl | rfl | rfl | rfl | rfl | rfl | rfl
      all_goals (
        clear h1 h8
        go_enter Tryz.func67, Tryz.ntmps67
        go_wp2_with go_in
        go_ret
        exact ⟨rfl, bel_al (Below.refl _ _) _⟩)
theorem kind_bounds (l : List UInt8) : 0 ≤ kindZ l ∧ kindZ l ≤ 8 := by
  rcases kind_cases l with h | ⟨h1, h2, _⟩ <;> omega
theorem Kind_any (l : List UInt8) (w : World) : Calls Tryz.prog 88 #[.string (bz l)] w fun e w' => e = .returned (.int .i64 (kindZ l)) ∧ Below w.heap.size w w' := by
  have HI := Lib.hid (Any.slices_Index_string lay109 w.heap.size 0 8 8 namesB (bz l) (w.alloc (.cells (namesB.map Value.string).toArray 9)) (Nat.le_refl 8) (by omega) (fun j hj => by
    rw [Nat.zero_add, World.cell?_alloc_new, List.getElem?_toArray, List.getElem?_map, List.getElem?_eq_getElem hj, List.getD_eq_getElem?_getD, List.getElem?_eq_getElem hj]
    rfl))
  have hk := kind_idx l
  have hb := kind_bounds l
  rw [List.take_of_length_le (Nat.le_refl 8)] at HI
  obtain ⟨z, hz⟩ : ∃ z, z = Lib.idxOfS namesB (bz l) := ⟨_, rfl⟩
  have hk' : z + 1 = kindZ l := by rw [hz]; exact hk
  rw [← hz] at HI
  have hw : IntKind.i64.wrap (z + 1) = z + 1 := by rw [IntKind.wrap_i64]; omega
  have HK := Lib.hid hk'
  clear hk hb hz hk'
  go_enter Tryz.func88, Tryz.ntmps88
  go_wp2_with (first
    | (go_at_call 90; refine (names_any w).mono ?_; rintro e w1 ⟨rfl, rfl⟩)
    | (go_at_call 105; refine HI.out.mono ?_; rintro e w1 ⟨rfl, rfl⟩))
  go_ret
  exact ⟨ret_int HK.out, bel_al (Below.refl _ _) _⟩
/-- What right answers. -/
def OpRes (o : Int × Int) (w : World) (e : Ending) (w' : World) : Prop :=
  (opOK o ∧ e = .returned .nilIface ∧ Below w.heap.size w w') ∨ (¬ opOK o ∧ ∃ (c a : Int) (s : ByteArray) (g : Nat), e = .returned (.iface 111 (.pointer (some ⟨g, 0, none⟩))) ∧ (Err.flt c a s).At w' (.iface 111 (.pointer (some ⟨g, 0, none⟩))) ∧ Below w.heap.size w w' ∧ (c = 1 ∨ c = 3 ∨ c = 6))
theorem bz_empty (l : List UInt8) : (bz l).toList.isEmpty = l.isEmpty := by rw [Lib.toList_data]
theorem bz_toList (l : List UInt8) : (bz l).toList = l := by rw [Lib.toList_data]
set_option maxHeartbeats 4000000 in
theorem right_any (k n at_ : Int) (w : World) : Calls Tryz.prog 34 #[.agg #[.int .i64 k, .int .i64 n], .int .i64 at_] w (OpRes (k, n) w) := by
  have HB := Lib.hid (bel_al (Below.refl w.heap.size w) (.cells #[.int .i64 k, .int .i64 n] 40))
  have HK := Lib.hid (Blk.new w 40 #[.int .i64 k, .int .i64 n])
  have HNm := Lib.hid (fun W => Name_any k W)
  have HTk := Lib.hid (fun W => takes_any k W)
  by_cases hk : 1 ≤ k ∧ k ≤ 8
  · have he : (bz (nameL k)).toList.isEmpty = false := by
      rw [bz_empty]
      have := (name_ne hk.1 hk.2).1
      cases h : nameL k with
      | nil => exact absurd h this
      | cons a l => rfl
    obtain ⟨nm, hnm⟩ : ∃ nm, nm = bz (nameL k) := ⟨_, rfl⟩
    rw [← hnm] at he HNm
    have HKk := Lib.hid hk
    clear hk hnm
    go_enter Tryz.func34, Tryz.ntmps34
    by_cases h0 : n < 0
    · go_wp2_with (first
        | (go_at_call 67; refine (HNm.out _).mono ?_; rintro e w1 ⟨rfl, hb1⟩; have HB1 := Lib.hid (HB.out.andThen hb1); have k0 := (HK.out.keep hb1).cell 0; have k1 := (HK.out.keep hb1).cell 1; simp at k0 k1; clear hb1)
        | (go_at_call 33; refine (New_err _ _ _ _).mono ?_; rintro e w2 ⟨v, rfl, ⟨g, rfl, hv⟩, hb2⟩))
      go_ret
      exact .inr ⟨fun h => by have := h.2.1.1; omega, _, _, _, g, rfl, ⟨g, rfl, hv⟩, HB1.out.andThen hb2, .inr (.inl rfl)⟩
    · by_cases h255 : 255 < n
      · go_wp2_with (first
          | (go_at_call 67; refine (HNm.out _).mono ?_; rintro e w1 ⟨rfl, hb1⟩; have HB1 := Lib.hid (HB.out.andThen hb1); have k0 := (HK.out.keep hb1).cell 0; have k1 := (HK.out.keep hb1).cell 1; simp at k0 k1; clear hb1)
          | (go_at_call 33; refine (New_err _ _ _ _).mono ?_; rintro e w2 ⟨v, rfl, ⟨g, rfl, hv⟩, hb2⟩))
        go_ret
        exact .inr ⟨fun h => by have := h.2.1.2; omega, _, _, _, g, rfl, ⟨g, rfl, hv⟩, HB1.out.andThen hb2, .inr (.inl rfl)⟩
      · by_cases hn0 : 0 < n
        · cases ht : takesZ k with
          | true =>
            rw [ht] at HTk
            have HOk := Lib.hid (show opOK (k, n) from ⟨HKk.out, ⟨by simp only; omega, by simp only; omega⟩, fun e => by simp only at e; rw [ht] at e; cases e⟩)
            clear ht
            go_wp2_with (first
              | (go_at_call 67; refine (HNm.out _).mono ?_; rintro e w1 ⟨rfl, hb1⟩; have HB1 := Lib.hid (HB.out.andThen hb1); have k0 := (HK.out.keep hb1).cell 0; have k1 := (HK.out.keep hb1).cell 1; simp at k0 k1; clear hb1)
              | (go_at_call 68; refine (HTk.out _).mono ?_; rintro e w2 ⟨rfl, rfl⟩))
            go_ret
            exact .inl ⟨HOk.out, rfl, HB1.out⟩
          | false =>
            rw [ht] at HTk
            have HNo := Lib.hid (show ¬ opOK (k, n) from fun h => by have := h.2.2 ht; simp only at this; omega)
            clear ht
            go_wp2_with (first
              | (go_at_call 67; refine (HNm.out _).mono ?_; rintro e w1 ⟨rfl, hb1⟩; have HB1 := Lib.hid (HB.out.andThen hb1); have k0 := (HK.out.keep hb1).cell 0; have k1 := (HK.out.keep hb1).cell 1; simp at k0 k1; clear hb1)
              | (go_at_call 68; refine (HTk.out _).mono ?_; rintro e w2 ⟨rfl, rfl⟩)
              | (go_at_call 33; refine (New_err _ _ _ _).mono ?_; rintro e w2 ⟨v, rfl, ⟨g, rfl, hv⟩, hb2⟩))
            go_ret
            exact .inr ⟨HNo.out, _, _, _, g, rfl, ⟨g, rfl, hv⟩, HB1.out.andThen hb2, .inr (.inl rfl)⟩
        · have hn00 : n = 0 := by omega
          subst hn00
          have HOk := Lib.hid (show opOK (k, 0) from ⟨HKk.out, ⟨by simp only; omega, by simp only; omega⟩, fun _ => rfl⟩)
          go_wp2_with (go_at_call 67; refine (HNm.out _).mono ?_; rintro e w1 ⟨rfl, hb1⟩; have HB1 := Lib.hid (HB.out.andThen hb1); have k0 := (HK.out.keep hb1).cell 0; have k1 := (HK.out.keep hb1).cell 1; simp at k0 k1; clear hb1)
          go_ret
          exact .inl ⟨HOk.out, rfl, HB1.out⟩
  · have he : (bz (nameL k)).toList.isEmpty = true := by rw [bz_empty, name_out hk]; rfl
    obtain ⟨nm, hnm⟩ : ∃ nm, nm = bz (nameL k) := ⟨_, rfl⟩
    rw [← hnm] at he HNm
    have HNo := Lib.hid (show ¬ opOK (k, n) from fun h => hk h.1)
    clear hk hnm
    go_enter Tryz.func34, Tryz.ntmps34
    go_wp2_with (first
      | (go_at_call 67; refine (HNm.out _).mono ?_; rintro e w1 ⟨rfl, hb1⟩; have HB1 := Lib.hid (HB.out.andThen hb1); clear hb1)
      | (go_at_call 33; refine (New_err _ _ _ _).mono ?_; rintro e w2 ⟨v, rfl, ⟨g, rfl, hv⟩, hb2⟩))
    go_ret
    exact .inr ⟨HNo.out, _, _, _, g, rfl, ⟨g, rfl, hv⟩, HB1.out.andThen hb2, .inl rfl⟩
/-- What Right answers. -/
def ProgRes (p : List (Int × Int)) (w : World) (e : Ending) (w' : World) : Prop :=
  (rightG p ∧ e = .returned .nilIface ∧ Below w.heap.size w w') ∨ (¬ rightG p ∧ ∃ (c a : Int) (s : ByteArray) (g : Nat), e = .returned (.iface 111 (.pointer (some ⟨g, 0, none⟩))) ∧ (Err.flt c a s).At w' (.iface 111 (.pointer (some ⟨g, 0, none⟩))) ∧ Below w.heap.size w w' ∧ (c = 1 ∨ c = 3 ∨ c = 6))
set_option maxHeartbeats 4000000 in
theorem ProgRight_any (p : List (Int × Int)) (A : Option Addr) (n c : Nat) (w : World) (hn : n ≤ 1000000) (hs : Sl w 2 A n (Rk.cells p)) :
    Calls Tryz.prog 9 #[.slice A n c] w (ProgRes p w) := by
  have HS := Lib.hid hs
  have HM := Lib.hid hs.len2
  clear hs
  go_enter Tryz.func9, Tryz.ntmps9
  by_cases h16 : 16 < n
  · have h16' : (16 : Int) < (n : Int) := by omega
    go_wp2_with (go_at_call 33; refine (New_err _ _ _ _).mono ?_; rintro e w2 ⟨v, rfl, ⟨g, rfl, hv⟩, hb2⟩)
    go_ret
    exact .inr ⟨fun h => by have := h.1; rw [HM.out] at this; omega, _, _, _, g, rfl, ⟨g, rfl, hv⟩, hb2, .inr (.inr rfl)⟩
  · have h16' : ¬ (16 : Int) < (n : Int) := by omega
    go_wp2_with fail
    go_loopw [12] (fun iv wr => ∃ k : Nat, k ≤ n ∧ iv = .int .i64 (k : Int) ∧ Hid (∀ o ∈ p.take k, opOK o) ∧ Hid (Below w.heap.size w wr)) (fun iv _ => n - (intOf iv).toNat)
    case atStart => exact ⟨0, Nat.zero_le _, rfl, Lib.hid (fun o ho => by simp at ho), Lib.hid (Below.refl _ _)⟩
    case round =>
      obtain ⟨k, hk, rfl, HD, HB⟩ := hrel
      by_cases hlt : k < n
      · have hlt' : (k : Int) < (n : Int) := by omega
        have hk0 : (0 : Int) ≤ (k : Int) := by omega
        obtain ⟨⟨x, y⟩, he⟩ : ∃ e, p[k]? = some e := ⟨_, List.getElem?_eq_getElem (by rw [HM.out]; exact hlt)⟩
        obtain ⟨b1, off1, rfl, c0, c1⟩ := (HS.out.keep HB.out).edge hlt he
        simp only at c0 c1
        have HE := Lib.hid he
        have HR := Lib.hid (right_any x y (k : Int) (wr.alloc (.cells #[.int .i64 x, .int .i64 y] 40)))
        have HB1 := Lib.hid (bel_alloc HB.out (Nat.le_refl _) (.cells #[.int .i64 x, .int .i64 y] 40))
        clear he
        go_upto_region 7 with (go_at_call 34; refine HR.out.mono ?_; clear HR; intro e w2 hp; obtain ⟨ev, hev⟩ : ∃ ev, e = .returned ev := (by rcases hp with ⟨_, h, _⟩ | ⟨_, _, _, _, _, h, _⟩ <;> exact ⟨_, h⟩); subst hev; have HP := Lib.hid hp; clear hp)
        rcases HP.out with ⟨hok, he, hb⟩ | ⟨hno, cc, a, s, g, he, hv, hb, hc⟩
        · injection he with he
          subst he
          have HN := Lib.hid (show ∀ o ∈ p.take (k + 1), opOK o from fun o ho => by
            obtain ⟨h3, h4⟩ := List.getElem?_eq_some_iff.1 HE.out
            rw [List.take_succ_eq_append_getElem h3, h4] at ho
            rcases List.mem_append.1 ho with h | h
            · exact HD.out o h
            · rw [List.mem_singleton.1 h]; exact hok)
          have HB2 := Lib.hid (HB1.out.andThen hb)
          clear hok hb HP
          go_wp2_with fail
          go_roundw
          case rel => exact ⟨k + 1, by omega, by go_num, HN, HB2⟩
          case measure => simp [intOf]; omega
        · injection he with he
          subst he
          have HV := Lib.hid hv
          have HB2 := Lib.hid (HB1.out.andThen hb)
          have HC := Lib.hid hc
          have HNo := Lib.hid (show ¬ rightG p from fun h => hno (h.2 _ (List.mem_of_getElem? HE.out)))
          clear hno hb HP hv hc
          go_wp2_with fail
          go_ret
          exact .inr ⟨HNo.out, cc, a, s, g, rfl, HV.out, HB2.out, HC.out⟩
      · obtain rfl : k = n := by omega
        have hlt' : ¬ (k : Int) < (k : Int) := by omega
        rw [List.take_of_length_le (by rw [HM.out]; exact Nat.le_refl _)] at HD
        go_wp2_with fail
        go_ret
        exact .inl ⟨⟨by rw [HM.out]; omega, HD.out⟩, rfl, HB.out⟩
end Go.Proofs.YtapledphhfiimaaGreatDoor
