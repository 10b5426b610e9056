/-
  Part 5 of the proof of LwProgParts: FrameT, FrameV, FrameG, TxtP, LibC.
-/
import Derived.Test.YtapledphhfiimaaGreatDoorLwProgPartsM2
import Derived.Test.YtapledphhfiimaaGreatDoorLwProgPartsM4
import Derived.Lib.SmallJoins
import Derived.Lib.LaidTab
import Derived.LaidSub
import Derived.Deep.DeepLaidRun
import Derived.Test.YtapledphhfiimaaGreatDoorLwProgPartsM1
import Derived.Lib.SplitLaws
import Derived.Lib.CutLaws
import Derived.Lib.IndexBytes
import Derived.Lib.Join
import Derived.Lib.ItoaNum
import Derived.Lib.AtoiAll
import Derived.RowKit
import Derived.Shelf.Strings.Cut
import Derived.Shelf.Strings.Split
import Derived.Shelf.Strconv.AtoiAll
import Derived.Shelf.Slices.Turned
import Derived.Shelf.LaysM
import Derived.Shelf.LaysC
/-
  The frame where the tables of math/bits and strconv are listed beside errors.errorType; a pattern that came in.
-/
namespace Go.Proofs.YtapledphhfiimaaGreatDoor
open Go.ChangeShapes Go.WideShapes Go.ChangeAt Go.RowKit Go.Joins
set_option linter.unusedVariables false
set_option maxRecDepth 100000

def tabLaid : List (String × DataW Unit) := [("math/bits.deBruijn32tab", Rows.laid_math_bits_deBruijn32tab), ("math/bits.deBruijn64tab", Rows.laid_math_bits_deBruijn64tab), ("internal/strconv.uint64pow10", Rows.laid_internal_strconv_uint64pow10), ("errors.errorType", Rows.laid_errors_errorType)]
theorem tab_err : (tabLaid.filter fun x => x.1 == "errors.errorType") = errLaid := by kernel_rfl
theorem tab_pow : (tabLaid.filter fun x => x.1 == "internal/strconv.uint64pow10") = [("internal/strconv.uint64pow10", Rows.laid_internal_strconv_uint64pow10)] := by kernel_rfl
theorem pow_data : (Rows.laid_internal_strconv_uint64pow10 : DataW Unit) = Lib.tabData .u64 Lib.pow10Tab := by kernel_rfl
theorem pow_none : ([("internal/strconv.uint64pow10", (Rows.laid_internal_strconv_uint64pow10 : DataW Unit))].filter fun x => x.2.handleName?.isNone) = [("internal/strconv.uint64pow10", Rows.laid_internal_strconv_uint64pow10)] := by kernel_rfl
theorem errT_of_tab {W : World} (h : laidMetH Tryz.prog tabLaid W) : ErrT W := by
  have h1 := laidMetH.filter (fun x => x.1 == "errors.errorType") h
  rw [tab_err] at h1
  exact errT_of_laid h1
theorem tabW_of_tab {W : World} (h : laidMetH Tryz.prog tabLaid W) : TabW W := by
  have h1 := laidMetH.filter (fun x => x.1 == "internal/strconv.uint64pow10") h
  rw [tab_pow] at h1
  have h2 := (laidMetH_iff.1 h1).1
  rw [pow_none, pow_data] at h2
  exact Lib.tabIs_of_head (g := 2) (by kernel_rfl) (by kernel_rfl) Tryz.underlying237 Tryz.underlying173 (by kernel_rfl) (by kernel_rfl) h2

/-- A table's values. -/
def litsOf : DataW Unit → List Value
  | .agg ps => ps.map fun | .lit (.int k x) => .int k x | _ => .bool false
  | _ => []
/-- A world that meets the condition: the settled one, the variables' cells laid. -/
noncomputable def tabWorld (os : Os) : World :=
  { laidWorld os with heap := (((laidWorld os).heap.modify 7 fun
      | .cells _ t frozen => .cells (litsOf Rows.laid_math_bits_deBruijn32tab).toArray t frozen
      | o => o).modify 8 fun
      | .cells _ t frozen => .cells (litsOf Rows.laid_math_bits_deBruijn64tab).toArray t frozen
      | o => o).modify 2 fun
      | .cells _ t frozen => .cells (litsOf Rows.laid_internal_strconv_uint64pow10).toArray t frozen
      | o => o }
theorem tab_met (os : Os) (args : Array Value) : laidMetH Tryz.prog tabLaid ((tabWorld os).forCall (fun _ _ => 0) ⟨#[], args, []⟩).memory :=
  laidMetH_of_parts (laidMet_of_run3 30 (by kernel_rfl) (by kernel_rfl) (by kernel_rfl)) (by kernel_rfl)

section
variable {H : Type} {enc : TypeId × Value → H} {P : Program} {w : World} {base : Nat} {spare : Nat → Bool} {held : Bool}
/-- A slice of ints that came in, with the bulk. -/
theorem open_sl_ints_upto {t e : TypeId} {k : IntKind} {fuel n c B : Nat} {A : Option Addr} {x : DataW H × List MemPlace} (ht : P.underlying t = some (.slice e)) (he : P.underlying e = some (.int k)) (hs : P.cellsOf e = 1)
    (h : DataW.trod enc P w base spare held fuel t [.slice A n c] = some x) (hB : Rows.uptoBulk x.1 ≤ B) :
    n ≤ B ∧ ∃ zs : List Int, zs.length = n ∧ Sl w 1 A n (zs.map (Value.int k)) ∧ ∀ z ∈ zs, (Lit.int k z).wf = true := by
  obtain ⟨hm, _⟩ := open_sl_upto hs (by omega) ht h hB
  exact ⟨hm, (open_sl_ints ht he hs h).2⟩
/-- The shape of a slice's value. -/
theorem slice_shape {t e : TypeId} {fuel : Nat} {v : Value} {y : DataW H × List MemPlace} (ht : P.underlying t = some (.slice e)) (h : DataW.trod enc P w base spare held fuel t [v] = some y) : ∃ A n c, v = .slice A n c := by
  rcases DataW.trod_slice ht h with ⟨h4, _⟩ | ⟨A, n, c, _, _, _, _, h4, _⟩
  · injection h4 with h4 _
    exact ⟨_, _, _, h4⟩
  · injection h4 with h4 _
    exact ⟨_, _, _, h4⟩
end

section
variable {H : Type} {enc : TypeId × Value → H} {w : World} {base b0 : Nat} {spare : Nat → Bool} {held : Bool} {r : Reach}
theorem pat_fields : ∃ f0 f1 : Field, Tryz.prog.underlying 26 = some (.struct #[f0, f1]) ∧ f0.type = 23 ∧ f1.type = 24 :=
  ⟨_, _, Tryz.underlying26, rfl, rfl⟩
theorem edge_fields : ∃ f0 f1 : Field, Tryz.prog.underlying 115 = some (.struct #[f0, f1]) ∧ (f0.offset = 0 ∧ f1.offset = 1) ∧ f0.type = 3 ∧ f1.type = 3 :=
  ⟨_, _, Tryz.underlying115, ⟨rfl, rfl⟩, rfl, rfl⟩
theorem pat_one : ∀ f0 f1 : Field, f0.type = 23 → f1.type = 24 → True := fun _ _ _ _ => trivial
/-- A pattern that came in, with the bulk. -/
theorem open_pat_upto {v : Value} {d : DataW H} {p : List MemPlace} {B : Nat} (hv : Value.okWide Tryz.prog w r b0 26 v) (h : DataW.Trod enc Tryz.prog w base spare held 26 v d p) (hB : Rows.uptoBulk d ≤ B) :
    ∃ (A : Option Addr) (n c : Nat) (B' : Option Addr) (m e : Nat) (L : List Int) (E : List (Int × Int)), v = pv A n c B' m e ∧ L.length = n ∧ n ≤ B ∧ m ≤ B ∧ Sl w 1 A n (L.map (Value.int .i64)) ∧ Sl w 2 B' m (Rk.cells E) := by
  obtain ⟨c0, c1, y0, y1, fu, rfl, rfl, rfl, hy0, hy1⟩ := open_agg2 Tryz.underlying26 (by kernel_rfl) (by kernel_rfl) hv h
  have hB' : Rows.uptoBulk y0.1 ≤ B ∧ Rows.uptoBulk y1.1 ≤ B := by
    simp only [Rows.uptoBulk, Rows.uptoBulkAll] at hB
    omega
  obtain ⟨A, n, c, rfl⟩ := slice_shape Tryz.underlying23 hy0
  obtain ⟨B', m, e, rfl⟩ := slice_shape Tryz.underlying24 hy1
  obtain ⟨hn, L, hL, hs, _⟩ := open_sl_ints_upto Tryz.underlying23 Tryz.underlying3 (by kernel_rfl) hy0 hB'.1
  obtain ⟨hm, _⟩ := open_sl_upto (s := 2) (by kernel_rfl) (by omega) Tryz.underlying24 hy1 hB'.2
  obtain ⟨_, E, hE, ht, _⟩ := open_sl_pairs Tryz.underlying24 Tryz.underlying115 (by kernel_rfl) rfl rfl (by kernel_rfl) (by kernel_rfl) Tryz.underlying3 Tryz.underlying3 hy1
  exact ⟨A, n, c, B', m, e, L, E, rfl, hL, hn, hm, hs, ht⟩
end
end Go.Proofs.YtapledphhfiimaaGreatDoor
/-
  A pattern that came in, the first form: with its capacities and its numbers' bounds.
-/
namespace Go.Proofs.YtapledphhfiimaaGreatDoor
open Go.ChangeShapes Go.WideShapes Go.ChangeAt Go.RowKit Go.Joins
set_option linter.unusedVariables false
set_option maxRecDepth 100000

theorem wf_i64P {z : Int} (h : (Lit.int .i64 z).wf = true) : i64P z := wf_i64 h
/-- A slice that stands in a struct: its capacity. -/
theorem cap_field {P : Program} {w : World} {r : Reach} {base : Nat} {t e : TypeId} (ht : P.underlying t = some (.slice e)) {a : Option Addr} {n c : Nat} (h : Cell.okWide P w r base t (.slice a n c)) : n ≤ c ∧ c ≤ 9223372036854775807 :=
  cap_ok (r := r) (base := base) (w := w) ht (by simp only [Value.okWide, ht]; exact h)
section
variable {H : Type} {enc : TypeId × Value → H} {w : World} {base b0 : Nat} {spare : Nat → Bool} {held : Bool} {r : Reach}
theorem pat_cells : Tryz.prog.cellTypes Tryz.prog.depth 26 = some [23, 24] := by kernel_rfl
theorem pat_cap {A B : Option Addr} {n c m e : Nat} (hv : Value.okWide Tryz.prog w r b0 26 (pv A n c B m e)) : (n ≤ c ∧ c ≤ 9223372036854775807) ∧ (m ≤ e ∧ e ≤ 9223372036854775807) := by
  simp only [Value.okWide, Tryz.underlying26] at hv
  obtain ⟨cs, h1, _, ts, hts, _, hc⟩ := hv
  injection h1 with h1
  subst h1
  rw [pat_cells] at hts
  injection hts with hts
  subst hts
  obtain ⟨u0, hu0, k0⟩ := hc 0 (.slice A n c) rfl
  obtain ⟨u1, hu1, k1⟩ := hc 1 (.slice B m e) rfl
  cases hu0
  cases hu1
  exact ⟨cap_field Tryz.underlying23 k0, cap_field Tryz.underlying24 k1⟩
/-- A pattern that came in. -/
theorem open_pat {v : Value} {d : DataW H} {p : List MemPlace} (hv : Value.okWide Tryz.prog w r b0 26 v) (h : DataW.Trod enc Tryz.prog w base spare held 26 v d p) :
    ∃ (A : Option Addr) (n c : Nat) (B' : Option Addr) (m e : Nat) (L : List Int) (E : List (Int × Int)), v = pv A n c B' m e ∧ L.length = n ∧ Sl w 1 A n (L.map (Value.int .i64)) ∧ Sl w 2 B' m (Rk.cells E) ∧ (n ≤ c ∧ c ≤ 9223372036854775807) ∧ (∀ x ∈ L, i64P x) ∧ (∀ e ∈ E, i64P e.1 ∧ i64P e.2) := by
  have hv' := hv
  obtain ⟨c0, c1, y0, y1, fu, rfl, rfl, rfl, hy0, hy1⟩ := open_agg2 Tryz.underlying26 (by kernel_rfl) (by kernel_rfl) hv h
  obtain ⟨A, n, c, rfl⟩ := slice_shape Tryz.underlying23 hy0
  obtain ⟨B', m, e, rfl⟩ := slice_shape Tryz.underlying24 hy1
  obtain ⟨_, L, hL, hs, wL⟩ := open_sl_ints Tryz.underlying23 Tryz.underlying3 (by kernel_rfl) hy0
  obtain ⟨_, E, hE, ht, wE⟩ := open_sl_pairs Tryz.underlying24 Tryz.underlying115 (by kernel_rfl) rfl rfl (by kernel_rfl) (by kernel_rfl) Tryz.underlying3 Tryz.underlying3 hy1
  exact ⟨A, n, c, B', m, e, L, E, rfl, hL, hs, ht, (pat_cap hv').1, fun x hx => wf_i64P (wL x hx), fun x hx => ⟨wf_i64P (wE x hx).1, wf_i64P (wE x hx).2⟩⟩
end
end Go.Proofs.YtapledphhfiimaaGreatDoor
/-
  The closed facts of a row over a great program, in parts (each by the kernel apart).
-/
namespace Go.Proofs.YtapledphhfiimaaGreatDoor
open Go.ChangeShapes Go.WideShapes Go.ChangeAt Go.RowKit
set_option linter.unusedVariables false

section
variable {P : Program} {f : FuncId} {fn : Func} {s : ChangeSpec} {c : OpenClaim}
theorem joined_of (h0 : (c.wf (OpenSpec.ofChange s) && laidOutB P && mapsRowed P && fn.params.all (P.readableRec ·) && namedTie P c.named s.vars && (c.stops == []) && (P.stops == []) && (c.knobs == []) && (P.stopKnobs == [])) = true)
    (h1 : (c.inPlace == P.inPlace f) = true) (h2 : (c.unfollowed == P.unfollowed f) = true) (h3 : (c.recurses == P.recurses f) = true) (h4 : (c.named == P.varsNamed f) = true)
    (h5 : ((c.maps == (fn.params.toList ++ s.plain.varTypes P).any (P.mapsRec ·)) && (c.ifaces == (fn.params.toList ++ s.plain.varTypes P).any (P.ifacesRec ·)) && (c.mapsOut == P.mapsAmong fn.resultTypes.toList) &&
      (c.loops == (fn.params.toList ++ s.plain.varTypes P).any (P.loopsFrom ·)) && (c.wideKeys == (fn.params.toList ++ s.plain.varTypes P ++ fn.resultTypes.toList).any (P.wideKeysFrom ·)) &&
      s.vars.all (P.varReadable ·) && fn.resultTypes.all (fun t => P.readableRec t && decide (t < P.types.size)) && (c.ifacesOut == fn.resultTypes.toList.any (P.ifacesRec ·)) && (c.loopsOut == fn.resultTypes.toList.any (P.loopsFrom ·))) = true)
    (h6 : ((c.plainKeys == P.plainKeys) && c.shortTexts.isNone && P.stopsHeard && P.mayEnter && (c.lifted == P.liftsFinal) && (P.make == some c.make)) = true)
    (h7 : ((c.kinds == (if c.domain.isEmpty then [] else fn.params.toList.map fun t => match P.underlying t with | some (.int k) => some k | _ => none)) && (c.pinned == c.pinnedBy) &&
      (c.veiled == (fn.params.toList ++ s.plain.varTypes P ++ fn.resultTypes.toList).any (P.veiledRec ·)) && c.veiledFits P fn.params.toList (fn.params.toList ++ s.plain.varTypes P ++ fn.resultTypes.toList)) = true) :
    joinedFacts P f fn s c = true := by
  unfold joinedFacts
  simp only [Bool.and_eq_true] at h0 h5 h6 h7 ⊢
  obtain ⟨⟨⟨⟨⟨⟨⟨⟨a1, a2⟩, a3⟩, a4⟩, a5⟩, a6⟩, a7⟩, a8⟩, a9⟩ := h0
  obtain ⟨⟨⟨⟨⟨⟨⟨⟨b1, b2⟩, b3⟩, b4⟩, b5⟩, b6⟩, b7⟩, b8⟩, b9⟩ := h5
  obtain ⟨⟨⟨⟨⟨d1, d2⟩, d3⟩, d4⟩, d5⟩, d6⟩ := h6
  obtain ⟨⟨⟨e1, e2⟩, e3⟩, e4⟩ := h7
  exact ⟨⟨⟨⟨⟨⟨⟨⟨⟨⟨⟨⟨⟨⟨⟨⟨⟨⟨⟨⟨⟨⟨⟨⟨⟨⟨⟨⟨⟨⟨⟨a1, a2⟩, a3⟩, a4⟩, a5⟩, a6⟩, a7⟩, a8⟩, a9⟩, h1⟩, h2⟩, h3⟩, h4⟩, b1⟩, b2⟩, b3⟩, b4⟩, b5⟩, b6⟩, b7⟩, b8⟩, b9⟩, d1⟩, d2⟩, d3⟩, d4⟩, d5⟩, d6⟩, e1⟩, e2⟩, e3⟩, e4⟩
end
end Go.Proofs.YtapledphhfiimaaGreatDoor
/-
  Texts plainly: cut and split at one byte, joined again; numbers as digits, there and back.
-/
namespace Go.Proofs.YtapledphhfiimaaGreatDoor.Tx
open Go
set_option linter.unusedVariables false

def cut1 (c : UInt8) : List UInt8 → List UInt8 × List UInt8 × Bool
  | [] => ([], [], false)
  | b :: l => if b = c then ([], l, true) else (b :: (cut1 c l).1, (cut1 c l).2.1, (cut1 c l).2.2)
theorem indexByte_split (c : UInt8) : ∀ s, Lib.indexByte s c = -1 ∨ ∃ i : Nat, Lib.indexByte s c = i := fun s => by
  have h := Lib.indexByte_ge s c
  by_cases h1 : Lib.indexByte s c = -1
  · exact .inl h1
  · exact .inr ⟨(Lib.indexByte s c).toNat, by omega⟩
theorem cut1_eq (c : UInt8) : ∀ s : List UInt8, Lib.cut s [c] = cut1 c s
  | [] => by
    unfold Lib.cut
    rw [Lib.index_one]
    rfl
  | b :: l => by
    have ih := cut1_eq c l
    unfold Lib.cut at ih ⊢
    rw [Lib.index_one] at ih ⊢
    unfold cut1
    by_cases hb : b = c
    · rw [if_pos hb]
      have e : Lib.indexByte (b :: l) c = 0 := by
        unfold Lib.indexByte
        rw [if_pos (beq_iff_eq.2 hb)]
      rw [e]
      simp
    · rw [if_neg hb, ← ih]
      have hbn : ¬ (b == c) = true := fun h => hb (beq_iff_eq.1 h)
      rcases indexByte_split c l with h | ⟨i, h⟩
      · have e : Lib.indexByte (b :: l) c = -1 := by
          unfold Lib.indexByte
          rw [if_neg hbn, h]
          rfl
        rw [e, h]
        simp
      · have e : Lib.indexByte (b :: l) c = ((i + 1 : Nat) : Int) := by
          unfold Lib.indexByte
          rw [if_neg hbn, h, if_neg (by rw [beq_iff_eq]; omega)]
          omega
        rw [e, h]
        have h0 : (0 : Int) ≤ (i : Int) + 1 := by omega
        simp [h0]
theorem cut1_none {c : UInt8} : ∀ {s : List UInt8}, c ∉ s → cut1 c s = (s, [], false)
  | [], _ => rfl
  | b :: l, h => by
    have h1 : ¬ b = c := fun e => h (by rw [e]; exact List.mem_cons_self ..)
    have h2 := cut1_none (c := c) (s := l) fun hm => h (List.mem_cons_of_mem _ hm)
    rw [cut1, if_neg h1, h2]
theorem cut1_app {c : UInt8} : ∀ {s : List UInt8} (t : List UInt8), c ∉ s → cut1 c (s ++ c :: t) = (s, t, true)
  | [], t, _ => by rw [List.nil_append, cut1, if_pos rfl]
  | b :: l, t, h => by
    have h1 : ¬ b = c := fun e => h (by rw [e]; exact List.mem_cons_self ..)
    have h2 := cut1_app (c := c) (s := l) t fun hm => h (List.mem_cons_of_mem _ hm)
    rw [List.cons_append, cut1, if_neg h1, h2]
theorem app_of_mem {c : UInt8} : ∀ {s : List UInt8}, c ∈ s → ∃ a b, s = a ++ c :: b ∧ c ∉ a
  | [], h => by cases h
  | x :: l, h => by
    by_cases hx : x = c
    · subst hx
      exact ⟨[], l, rfl, by simp⟩
    · rcases List.mem_cons.1 h with h1 | h1
      · exact absurd h1.symm hx
      · obtain ⟨a, b, e, hn⟩ := app_of_mem h1
        refine ⟨x :: a, b, by rw [e, List.cons_append], fun hm => ?_⟩
        rcases List.mem_cons.1 hm with h2 | h2
        · exact hx h2.symm
        · exact hn h2
theorem cut1_cases (c : UInt8) (s : List UInt8) : (c ∉ s ∧ cut1 c s = (s, [], false)) ∨ (∃ a b, s = a ++ c :: b ∧ c ∉ a ∧ cut1 c s = (a, b, true)) := by
  by_cases h : c ∈ s
  · right
    obtain ⟨a, b, rfl, ha⟩ := app_of_mem h
    exact ⟨a, b, rfl, ha, cut1_app b ha⟩
  · exact .inl ⟨h, cut1_none h⟩
def split1 (c : UInt8) : List UInt8 → List (List UInt8)
  | [] => [[]]
  | b :: l => if b = c then [] :: split1 c l else match split1 c l with
    | [] => [[b]]
    | x :: r => (b :: x) :: r
theorem split1_ne (c : UInt8) : ∀ s, split1 c s ≠ []
  | [] => by simp [split1]
  | b :: l => by
    unfold split1
    split
    · simp
    · split <;> simp
theorem split1_none {c : UInt8} : ∀ {s : List UInt8}, c ∉ s → split1 c s = [s]
  | [], _ => rfl
  | b :: l, h => by
    have h1 : ¬ b = c := fun e => h (by rw [e]; exact List.mem_cons_self ..)
    have h2 := split1_none (c := c) (s := l) fun hm => h (List.mem_cons_of_mem _ hm)
    rw [split1, if_neg h1, h2]
theorem split1_app {c : UInt8} : ∀ {s : List UInt8} (t : List UInt8), c ∉ s → split1 c (s ++ c :: t) = s :: split1 c t
  | [], t, _ => by rw [List.nil_append, split1, if_pos rfl]
  | b :: l, t, h => by
    have h1 : ¬ b = c := fun e => h (by rw [e]; exact List.mem_cons_self ..)
    have h2 := split1_app (c := c) (s := l) t fun hm => h (List.mem_cons_of_mem _ hm)
    rw [List.cons_append, split1, if_neg h1, h2]
theorem splitK_eq (c : UInt8) : ∀ (k : Nat) (s : List UInt8), s.count c = k → Lib.splitK [c] 0 k s = split1 c s
  | 0, s, h => by
    rw [split1_none (List.count_eq_zero.1 h)]
    rfl
  | k + 1, s, h => by
    have hc := cut1_eq c s
    rcases cut1_cases c s with ⟨h1, _⟩ | ⟨a, b, rfl, ha, hcut⟩
    · rw [List.count_eq_zero.2 h1] at h
      omega
    · rw [hcut] at hc
      unfold Lib.cut at hc
      unfold Lib.splitK
      have ih := splitK_eq c k b (by
        rw [List.count_append, List.count_eq_zero.2 ha, List.count_cons_self] at h
        omega)
      by_cases h0 : 0 ≤ Lib.index (a ++ c :: b) [c]
      · rw [if_pos h0] at hc
        rw [if_neg (by rw [beq_iff_eq]; omega), split1_app b ha]
        simp only [Prod.mk.injEq] at hc
        rw [Nat.add_zero, hc.1, hc.2.1, ih]
      · rw [if_neg h0] at hc
        simp at hc
theorem split_eq (c : UInt8) (s : ByteArray) : (Lib.splitB ⟨#[c]⟩ 0 (Lib.countB s ⟨#[c]⟩) s).map (·.data.toList) = split1 c s.data.toList := by
  rw [Lib.splitB_data]
  refine splitK_eq c _ _ ?_
  have h := Lib.count_one c s.data.toList
  exact h.symm
theorem join_split (c : UInt8) : ∀ s : List UInt8, Lib.join (split1 c s) [c] = s
  | [] => by rw [split1, Lib.join_one]
  | b :: l => by
    have ih := join_split c l
    unfold split1
    by_cases hb : b = c
    · rw [if_pos hb]
      cases hs : split1 c l with
      | nil => exact absurd hs (split1_ne c l)
      | cons x r =>
        rw [hs, Lib.join_cons] at ih
        rw [Lib.join_cons, List.nil_append, Lib.joinTail, List.map_cons, List.flatten_cons, hb]
        unfold Lib.joinTail at ih
        rw [List.append_assoc, ih]
        rfl
    · rw [if_neg hb]
      cases hs : split1 c l with
      | nil => exact absurd hs (split1_ne c l)
      | cons x r =>
        rw [hs, Lib.join_cons] at ih
        show Lib.join ((b :: x) :: r) [c] = b :: l
        rw [Lib.join_cons, List.cons_append, ih]
theorem split_join (c : UInt8) : ∀ (x : List UInt8) (r : List (List UInt8)), c ∉ x → (∀ y ∈ r, c ∉ y) → split1 c (Lib.join (x :: r) [c]) = x :: r
  | x, [], hx, _ => by rw [Lib.join_one, split1_none hx]
  | x, y :: r, hx, hr => by
    have ih := split_join c y r (hr y (List.mem_cons_self ..)) fun z hz => hr z (List.mem_cons_of_mem _ hz)
    rw [Lib.join_cons] at ih ⊢
    rw [Lib.joinTail, List.map_cons, List.flatten_cons, List.append_assoc]
    unfold Lib.joinTail at ih
    show split1 c (x ++ c :: (y ++ _)) = _
    rw [split1_app _ hx, ih]

theorem parse_app : ∀ (l r : List UInt8) (acc : Nat), Lib.parseUint10 acc (l ++ r) = match Lib.parseUint10 acc l with
    | .ok a => Lib.parseUint10 a r
    | e => e
  | [], r, acc => rfl
  | b :: l, r, acc => by
    rw [List.cons_append]
    simp only [Lib.parseUint10]
    split
    · split
      · rfl
      · split
        · rfl
        · exact parse_app l r _
    · rfl
theorem digit_nat {d : Nat} (h : d < 10) : (UInt8.ofNat (48 + d)).toNat = 48 + d := by
  rw [UInt8.toNat_ofNat']
  omega
theorem parse_dec : ∀ u : Nat, u < 18446744073709551616 → Lib.parseUint10 0 (Lib.decDigits u) = .ok u := by
  intro u
  induction u using Nat.strongRecOn with
  | ind u ih =>
    intro hu
    by_cases h : u < 10
    · rw [Lib.decDigits, dif_pos h]
      unfold Lib.parseUint10 Lib.parseUint10
      rw [digit_nat h, if_pos (by omega), if_neg (by omega), if_neg (by omega)]
      congr 1
      omega
    · have h2 := ih (u / 10) (by omega) (by omega)
      rw [Lib.decDigits, dif_neg h, parse_app, h2]
      show Lib.parseUint10 (u / 10) [UInt8.ofNat (48 + u % 10)] = _
      unfold Lib.parseUint10 Lib.parseUint10
      rw [digit_nat (Nat.mod_lt _ (by omega)), if_pos (by omega), if_neg (by omega), if_neg (by omega)]
      congr 1
      omega
theorem dec_ne (u : Nat) : Lib.decDigits u ≠ [] := by
  by_cases h : u < 10
  · rw [Lib.decDigits, dif_pos h]; simp
  · rw [Lib.decDigits, dif_neg h]; simp
theorem dec_digit : ∀ (u : Nat), ∀ b ∈ Lib.decDigits u, 48 ≤ b.toNat ∧ b.toNat ≤ 57 := by
  intro u
  induction u using Nat.strongRecOn with
  | ind u ih =>
    intro b hb
    by_cases h : u < 10
    · rw [Lib.decDigits, dif_pos h] at hb
      rw [List.mem_singleton.1 hb, digit_nat h]
      omega
    · rw [Lib.decDigits, dif_neg h] at hb
      rcases List.mem_append.1 hb with hb | hb
      · exact ih _ (by omega) b hb
      · rw [List.mem_singleton.1 hb, digit_nat (Nat.mod_lt _ (by omega))]
        omega
/-- The digits of a number are parsed as it. -/
theorem atoi_dec {u : Nat} (h : u ≤ 9223372036854775807) : Lib.atoiAll (Lib.decDigits u) = .ok (u : Int) := by
  have hp := parse_dec u (by omega)
  have hd := dec_digit u
  cases he : Lib.decDigits u with
  | nil => exact absurd he (dec_ne u)
  | cons c r =>
    rw [he] at hp hd
    have hc := hd c (List.mem_cons_self ..)
    unfold Lib.atoiAll
    simp only
    rw [if_neg (show ¬ (c.toNat = 43 ∨ c.toNat = 45) by omega)]
    unfold Lib.parseMag
    rw [if_neg (by simp), hp]
    simp only
    rw [if_neg (by omega), if_neg (by omega), if_neg (by omega)]
/-- The digits that a number's text is, no more than so many of them. -/
theorem itoa_nat (u : Nat) : Lib.itoa (u : Int) = Lib.decDigits u := by
  unfold Lib.itoa
  rw [if_neg (by omega), Int.toNat_natCast]
theorem dec_inj {u v : Nat} (hu : u ≤ 9223372036854775807) (hv : v ≤ 9223372036854775807) (h : Lib.decDigits u = Lib.decDigits v) : u = v := by
  have h1 := atoi_dec hu
  rw [h, atoi_dec hv] at h1
  injection h1 with h1
  omega
theorem dec_len_lt : ∀ (k u : Nat), 1 ≤ k → ((Lib.decDigits u).length ≤ k ↔ u < 10 ^ k)
  | 0, u, h => by omega
  | k + 1, u, _ => by
    by_cases h : u < 10
    · rw [Lib.decDigits, dif_pos h]
      have : 10 ^ 1 ≤ 10 ^ (k + 1) := Nat.pow_le_pow_right (by omega) (by omega)
      simp
      omega
    · rw [Lib.decDigits, dif_neg h, List.length_append, List.length_singleton]
      rcases Nat.eq_zero_or_pos k with hk | hk
      · subst hk
        have := List.length_pos_iff.2 (dec_ne (u / 10))
        omega
      · have ih := dec_len_lt k (u / 10) hk
        rw [Nat.pow_succ]
        omega
end Go.Proofs.YtapledphhfiimaaGreatDoor.Tx
/-
  strings.Cut, strings.Split, strconv.Atoi, slices.Index at strings, out of the library's shelf, laid over this seat's translation; the variables that they read.
-/
namespace Go.Proofs.YtapledphhfiimaaGreatDoor
open Go.Shelf Go.RowKit
set_option linter.unusedVariables false
def lay145_ren : Go.Shelf.Ren := ⟨fun | 145 => 73 | 217 => 164 | 219 => 140 | 220 => 104 | 224 => 166 | 225 => 165 | 266 => 189 | 267 => 167 | 314 => 190 | n => n, fun | 3 => 3 | 4 => 4 | 5 => 5 | 9 => 9 | 46 => 134 | 51 => 171 | 59 => 117 | 146 => 244 | n => n, fun | 1 => 1 | n => n⟩
theorem lay145 : Go.Proofs.Lays.n145 Tryz.prog lay145_ren := {
  mixed := by kernel_rfl
  f145 := Tryz.func73.trans (congrArg some (by kernel_rfl))
  f217 := Tryz.func164.trans (congrArg some (by kernel_rfl))
  f219 := Tryz.func140.trans (congrArg some (by kernel_rfl))
  f220 := Tryz.func104.trans (congrArg some (by kernel_rfl))
  f224 := Tryz.func166.trans (congrArg some (by kernel_rfl))
  f225 := Tryz.func165.trans (congrArg some (by kernel_rfl))
  f266 := Tryz.func189.trans (congrArg some (by kernel_rfl))
  f267 := Tryz.func167.trans (congrArg some (by kernel_rfl))
  f314 := Tryz.func190.trans (congrArg some (by kernel_rfl))
  t3 := Tryz.underlying3
  a3 := Tryz.isAgg3
  z3 := Tryz.sizeOf3
  v3 := Tryz.zeroValue3
  t4 := Tryz.underlying4
  a4 := Tryz.isAgg4
  z4 := Tryz.sizeOf4
  v4 := Tryz.zeroValue4
  t5 := Tryz.underlying5
  a5 := Tryz.isAgg5
  z5 := Tryz.sizeOf5
  v5 := Tryz.zeroValue5
  t9 := Tryz.underlying9
  a9 := Tryz.isAgg9
  z9 := Tryz.sizeOf9
  v9 := Tryz.zeroValue9
  t46 := Tryz.underlying134
  a46 := Tryz.isAgg134
  z46 := Tryz.sizeOf134
  v46 := Tryz.zeroValue134
  t51 := Tryz.underlying171
  a51 := Tryz.isAgg171
  z51 := Tryz.sizeOf171
  v51 := Tryz.zeroValue171
  t59 := Tryz.underlying117
  a59 := Tryz.isAgg117
  z59 := Tryz.sizeOf117
  v59 := Tryz.zeroValue117
  t146 := Tryz.underlying244
  a146 := Tryz.isAgg244
  z146 := Tryz.sizeOf244
  v146 := Tryz.zeroValue244
  g1 := by kernel_rfl }
def lay146_ren : Go.Shelf.Ren := ⟨fun | 138 => 124 | 143 => 125 | 146 => 65 | 195 => 147 | 197 => 148 | 217 => 164 | 218 => 149 | 219 => 140 | 221 => 87 | 224 => 166 | 225 => 165 | 260 => 170 | 266 => 189 | 267 => 167 | 268 => 123 | 314 => 190 | n => n, fun | 0 => 0 | 3 => 3 | 4 => 4 | 5 => 5 | 9 => 9 | 21 => 21 | 31 => 104 | 46 => 134 | 51 => 171 | 105 => 200 | 119 => 246 | 138 => 248 | 139 => 249 | 146 => 244 | n => n, fun | 1 => 1 | 3 => 3 | 4 => 4 | n => n⟩
theorem lay146 : Go.Proofs.Lays.n146 Tryz.prog lay146_ren := {
  mixed := by kernel_rfl
  f138 := Tryz.func124.trans (congrArg some (by kernel_rfl))
  f143 := Tryz.func125.trans (congrArg some (by kernel_rfl))
  f146 := Tryz.func65.trans (congrArg some (by kernel_rfl))
  f195 := Tryz.func147.trans (congrArg some (by kernel_rfl))
  f197 := Tryz.func148.trans (congrArg some (by kernel_rfl))
  f217 := Tryz.func164.trans (congrArg some (by kernel_rfl))
  f218 := Tryz.func149.trans (congrArg some (by kernel_rfl))
  f219 := Tryz.func140.trans (congrArg some (by kernel_rfl))
  f221 := Tryz.func87.trans (congrArg some (by kernel_rfl))
  f224 := Tryz.func166.trans (congrArg some (by kernel_rfl))
  f225 := Tryz.func165.trans (congrArg some (by kernel_rfl))
  f260 := Tryz.func170.trans (congrArg some (by kernel_rfl))
  f266 := Tryz.func189.trans (congrArg some (by kernel_rfl))
  f267 := Tryz.func167.trans (congrArg some (by kernel_rfl))
  f268 := Tryz.func123.trans (congrArg some (by kernel_rfl))
  f314 := Tryz.func190.trans (congrArg some (by kernel_rfl))
  t0 := Tryz.underlying0
  a0 := Tryz.isAgg0
  z0 := Tryz.sizeOf0
  v0 := Tryz.zeroValue0
  t3 := Tryz.underlying3
  a3 := Tryz.isAgg3
  z3 := Tryz.sizeOf3
  v3 := Tryz.zeroValue3
  t4 := Tryz.underlying4
  a4 := Tryz.isAgg4
  z4 := Tryz.sizeOf4
  v4 := Tryz.zeroValue4
  t5 := Tryz.underlying5
  a5 := Tryz.isAgg5
  z5 := Tryz.sizeOf5
  v5 := Tryz.zeroValue5
  t9 := Tryz.underlying9
  a9 := Tryz.isAgg9
  z9 := Tryz.sizeOf9
  v9 := Tryz.zeroValue9
  t21 := Tryz.underlying21
  a21 := Tryz.isAgg21
  z21 := Tryz.sizeOf21
  v21 := Tryz.zeroValue21
  t31 := Tryz.underlying104
  a31 := Tryz.isAgg104
  z31 := Tryz.sizeOf104
  v31 := Tryz.zeroValue104
  t46 := Tryz.underlying134
  a46 := Tryz.isAgg134
  z46 := Tryz.sizeOf134
  v46 := Tryz.zeroValue134
  t51 := Tryz.underlying171
  a51 := Tryz.isAgg171
  z51 := Tryz.sizeOf171
  v51 := Tryz.zeroValue171
  t105 := Tryz.underlying200
  a105 := Tryz.isAgg200
  z105 := Tryz.sizeOf200
  v105 := Tryz.zeroValue200
  t119 := Tryz.underlying246
  a119 := Tryz.isAgg246
  z119 := Tryz.sizeOf246
  t138 := Tryz.underlying248
  a138 := Tryz.isAgg248
  z138 := Tryz.sizeOf248
  v138 := Tryz.zeroValue248
  t139 := Tryz.underlying249
  a139 := Tryz.isAgg249
  z139 := Tryz.sizeOf249
  v139 := Tryz.zeroValue249
  t146 := Tryz.underlying244
  a146 := Tryz.isAgg244
  z146 := Tryz.sizeOf244
  v146 := Tryz.zeroValue244
  g1 := by kernel_rfl
  g3 := by kernel_rfl
  g4 := by kernel_rfl }
def lay172_ren : Go.Shelf.Ren := ⟨fun | 129 => 121 | 171 => 69 | 172 => 126 | 205 => 193 | 243 => 91 | 244 => 150 | 245 => 151 | 246 => 127 | 247 => 171 | 279 => 172 | 280 => 173 | 281 => 174 | 282 => 175 | 283 => 152 | 284 => 153 | 285 => 154 | 286 => 155 | 287 => 191 | 316 => 192 | 317 => 176 | 318 => 177 | 319 => 178 | 320 => 179 | 321 => 199 | 322 => 200 | 337 => 194 | 338 => 195 | n => n, fun | 0 => 0 | 2 => 2 | 3 => 3 | 4 => 4 | 5 => 5 | 9 => 9 | 20 => 20 | 21 => 21 | 37 => 142 | 46 => 134 | 51 => 171 | 53 => 173 | 75 => 36 | 76 => 146 | 80 => 148 | 85 => 231 | 127 => 178 | 143 => 260 | 145 => 262 | 167 => 230 | 168 => 233 | 171 => 204 | 173 => 206 | 175 => 250 | 210 => 254 | 212 => 237 | 213 => 238 | 232 => 263 | 233 => 264 | n => n, fun | 15 => 5 | 16 => 6 | 17 => 2 | 18 => 7 | 19 => 8 | n => n⟩
theorem lay172 : Go.Proofs.LaysC.n172 Tryz.prog lay172_ren := {
  mixed := by kernel_rfl
  f129 := Tryz.func121.trans (congrArg some (by kernel_rfl))
  f171 := Tryz.func69.trans (congrArg some (by kernel_rfl))
  f172 := Tryz.func126.trans (congrArg some (by kernel_rfl))
  f205 := Tryz.func193.trans (congrArg some (by kernel_rfl))
  f243 := Tryz.func91.trans (congrArg some (by kernel_rfl))
  f244 := Tryz.func150.trans (congrArg some (by kernel_rfl))
  f245 := Tryz.func151.trans (congrArg some (by kernel_rfl))
  f246 := Tryz.func127.trans (congrArg some (by kernel_rfl))
  f247 := Tryz.func171.trans (congrArg some (by kernel_rfl))
  f279 := Tryz.func172.trans (congrArg some (by kernel_rfl))
  f280 := Tryz.func173.trans (congrArg some (by kernel_rfl))
  f281 := Tryz.func174.trans (congrArg some (by kernel_rfl))
  f282 := Tryz.func175.trans (congrArg some (by kernel_rfl))
  f283 := Tryz.func152.trans (congrArg some (by kernel_rfl))
  f284 := Tryz.func153.trans (congrArg some (by kernel_rfl))
  f285 := Tryz.func154.trans (congrArg some (by kernel_rfl))
  f286 := Tryz.func155.trans (congrArg some (by kernel_rfl))
  f287 := Tryz.func191.trans (congrArg some (by kernel_rfl))
  f316 := Tryz.func192.trans (congrArg some (by kernel_rfl))
  f317 := Tryz.func176.trans (congrArg some (by kernel_rfl))
  f318 := Tryz.func177.trans (congrArg some (by kernel_rfl))
  f319 := Tryz.func178.trans (congrArg some (by kernel_rfl))
  f320 := Tryz.func179.trans (congrArg some (by kernel_rfl))
  f321 := Tryz.func199.trans (congrArg some (by kernel_rfl))
  f322 := Tryz.func200.trans (congrArg some (by kernel_rfl))
  f337 := Tryz.func194.trans (congrArg some (by kernel_rfl))
  f338 := Tryz.func195.trans (congrArg some (by kernel_rfl))
  t0 := Tryz.underlying0
  a0 := Tryz.isAgg0
  z0 := Tryz.sizeOf0
  v0 := Tryz.zeroValue0
  t2 := Tryz.underlying2
  a2 := Tryz.isAgg2
  z2 := Tryz.sizeOf2
  v2 := Tryz.zeroValue2
  t3 := Tryz.underlying3
  a3 := Tryz.isAgg3
  z3 := Tryz.sizeOf3
  v3 := Tryz.zeroValue3
  t4 := Tryz.underlying4
  a4 := Tryz.isAgg4
  z4 := Tryz.sizeOf4
  v4 := Tryz.zeroValue4
  t5 := Tryz.underlying5
  a5 := Tryz.isAgg5
  z5 := Tryz.sizeOf5
  v5 := Tryz.zeroValue5
  t9 := Tryz.underlying9
  a9 := Tryz.isAgg9
  z9 := Tryz.sizeOf9
  v9 := Tryz.zeroValue9
  t20 := Tryz.underlying20
  a20 := Tryz.isAgg20
  z20 := Tryz.sizeOf20
  v20 := Tryz.zeroValue20
  t21 := Tryz.underlying21
  a21 := Tryz.isAgg21
  z21 := Tryz.sizeOf21
  v21 := Tryz.zeroValue21
  t37 := Tryz.underlying142
  a37 := Tryz.isAgg142
  z37 := Tryz.sizeOf142
  v37 := Tryz.zeroValue142
  t46 := Tryz.underlying134
  a46 := Tryz.isAgg134
  z46 := Tryz.sizeOf134
  v46 := Tryz.zeroValue134
  t51 := Tryz.underlying171
  a51 := Tryz.isAgg171
  z51 := Tryz.sizeOf171
  v51 := Tryz.zeroValue171
  t53 := Tryz.underlying173
  a53 := Tryz.isAgg173
  z53 := Tryz.sizeOf173
  v53 := Tryz.zeroValue173
  t75 := Tryz.underlying36
  a75 := Tryz.isAgg36
  z75 := Tryz.sizeOf36
  v75 := Tryz.zeroValue36
  t76 := Tryz.underlying146
  a76 := Tryz.isAgg146
  z76 := Tryz.sizeOf146
  v76 := Tryz.zeroValue146
  t85 := Tryz.underlying231
  a85 := Tryz.isAgg231
  z85 := Tryz.sizeOf231
  v85 := Tryz.zeroValue231
  t127 := Tryz.underlying178
  a127 := Tryz.isAgg178
  z127 := Tryz.sizeOf178
  v127 := Tryz.zeroValue178
  t143 := Tryz.underlying260
  a143 := Tryz.isAgg260
  z143 := Tryz.sizeOf260
  v143 := Tryz.zeroValue260
  t145 := Tryz.underlying262
  a145 := Tryz.isAgg262
  z145 := Tryz.sizeOf262
  v145 := Tryz.zeroValue262
  t167 := Tryz.underlying230
  a167 := Tryz.isAgg230
  z167 := Tryz.sizeOf230
  v167 := Tryz.zeroValue230
  t168 := Tryz.underlying233
  a168 := Tryz.isAgg233
  z168 := Tryz.sizeOf233
  v168 := Tryz.zeroValue233
  t171 := Tryz.underlying204
  a171 := Tryz.isAgg204
  z171 := Tryz.sizeOf204
  v171 := Tryz.zeroValue204
  t173 := Tryz.underlying206
  a173 := Tryz.isAgg206
  z173 := Tryz.sizeOf206
  v173 := Tryz.zeroValue206
  t175 := Tryz.underlying250
  a175 := Tryz.isAgg250
  z175 := Tryz.sizeOf250
  v175 := Tryz.zeroValue250
  t210 := Tryz.underlying254
  a210 := Tryz.isAgg254
  z210 := Tryz.sizeOf254
  v210 := Tryz.zeroValue254
  t212 := Tryz.underlying237
  a212 := Tryz.isAgg237
  z212 := Tryz.sizeOf237
  v212 := Tryz.zeroValue237
  t213 := Tryz.underlying238
  a213 := Tryz.isAgg238
  z213 := Tryz.sizeOf238
  t232 := Tryz.underlying263
  a232 := Tryz.isAgg263
  z232 := Tryz.sizeOf263
  v232 := Tryz.zeroValue263
  t233 := Tryz.underlying264
  a233 := Tryz.isAgg264
  z233 := Tryz.sizeOf264
  v233 := Tryz.zeroValue264
  g15 := by kernel_rfl
  g16 := by kernel_rfl
  g17 := by kernel_rfl
  g18 := by kernel_rfl
  g19 := by kernel_rfl
  t80 := Tryz.underlying148
  a80 := Tryz.isAgg148
  z80 := Tryz.sizeOf148
  v80 := Tryz.zeroValue148
  i0 := by kernel_rfl
  i2 := by kernel_rfl
  i3 := by kernel_rfl
  i4 := by kernel_rfl
  i5 := by kernel_rfl
  i9 := by kernel_rfl
  i20 := by kernel_rfl
  i21 := by kernel_rfl
  i37 := by kernel_rfl
  i46 := by kernel_rfl
  i51 := by kernel_rfl
  i53 := by kernel_rfl
  i75 := by kernel_rfl
  i76 := by kernel_rfl
  i80 := by kernel_rfl
  i85 := by kernel_rfl
  i127 := by kernel_rfl
  i143 := by kernel_rfl
  i145 := by kernel_rfl
  i167 := by kernel_rfl
  i168 := by kernel_rfl
  i171 := by kernel_rfl
  i173 := by kernel_rfl
  i175 := by kernel_rfl
  i210 := by kernel_rfl
  i212 := by kernel_rfl
  i232 := by kernel_rfl
  i233 := by kernel_rfl
  m15 := by kernel_rfl
  m16 := by kernel_rfl
  m17 := by kernel_rfl
  m18 := by kernel_rfl
  m19 := by kernel_rfl
  c0 := by kernel_rfl
  c2 := by kernel_rfl
  c3 := by kernel_rfl
  c4 := by kernel_rfl
  c5 := by kernel_rfl
  c9 := by kernel_rfl
  c20 := by kernel_rfl
  c21 := by kernel_rfl
  c37 := by kernel_rfl
  c46 := by kernel_rfl
  c51 := by kernel_rfl
  c53 := by kernel_rfl
  c75 := by kernel_rfl
  c76 := by kernel_rfl
  c80 := by kernel_rfl
  c85 := by kernel_rfl
  c127 := by kernel_rfl
  c143 := by kernel_rfl
  c145 := by kernel_rfl
  c167 := by kernel_rfl
  c168 := by kernel_rfl
  c171 := by kernel_rfl
  c173 := by kernel_rfl
  c175 := by kernel_rfl
  c210 := by kernel_rfl
  c212 := by kernel_rfl
  c213 := by kernel_rfl
  c232 := by kernel_rfl
  c233 := by kernel_rfl }
def lay109_ren : Go.Shelf.Ren := ⟨fun | 109 => 105 | n => n, fun | 0 => 0 | 3 => 3 | 4 => 4 | 9 => 9 | 31 => 104 | n => n, fun n => n⟩
theorem lay109 : Go.Proofs.Lays.n109 Tryz.prog lay109_ren := {
  mixed := by kernel_rfl
  f109 := Tryz.func105.trans (congrArg some (by kernel_rfl))
  t0 := Tryz.underlying0
  a0 := Tryz.isAgg0
  z0 := Tryz.sizeOf0
  v0 := Tryz.zeroValue0
  t3 := Tryz.underlying3
  a3 := Tryz.isAgg3
  z3 := Tryz.sizeOf3
  v3 := Tryz.zeroValue3
  t4 := Tryz.underlying4
  a4 := Tryz.isAgg4
  z4 := Tryz.sizeOf4
  v4 := Tryz.zeroValue4
  t9 := Tryz.underlying9
  a9 := Tryz.isAgg9
  z9 := Tryz.sizeOf9
  v9 := Tryz.zeroValue9
  t31 := Tryz.underlying104
  a31 := Tryz.isAgg104
  z31 := Tryz.sizeOf104
  v31 := Tryz.zeroValue104 }

/-- The variables of the library that are read: whatever they hold, it is of their types. -/
structure LibW (w : World) : Prop where
  max : ∃ m, w.cell? ⟨1, 0, none⟩ = some (.int .i64 m)
  syn : ∃ ev, w.cell? ⟨5, 0, none⟩ = some ev ∧ (ev = .nilIface ∨ ∃ te pe, ev = .iface te pe)
  rng : ∃ ev, w.cell? ⟨6, 0, none⟩ = some ev ∧ (ev = .nilIface ∨ ∃ te pe, ev = .iface te pe)
theorem LibW.keep {w w' : World} (h : LibW w) (hb : Below w.heap.size w w') : LibW w' := by
  obtain ⟨⟨m, hm⟩, ⟨e1, h1, k1⟩, ⟨e2, h2, k2⟩⟩ := h
  exact ⟨⟨m, (hb.cell (World.block_lt_of_cell? _ _ hm)).trans hm⟩, ⟨e1, (hb.cell (World.block_lt_of_cell? _ _ h1)).trans h1, k1⟩, ⟨e2, (hb.cell (World.block_lt_of_cell? _ _ h2)).trans h2, k2⟩⟩
/-- Bytes as a string. -/
abbrev bz (l : List UInt8) : ByteArray := ⟨l.toArray⟩
theorem bz_data (s : ByteArray) : bz s.data.toList = s := rfl
theorem data_bz (l : List UInt8) : (bz l).data.toList = l := by simp
theorem bz_size (l : List UInt8) : (bz l).size = l.length := by
  show l.toArray.size = _
  simp
/-- strings.Cut at one byte. -/
theorem Cut_any (l : List UInt8) (c : UInt8) (w : World) (hs : l.length ≤ 1000000) (hL : LibW w) :
    Calls Tryz.prog 73 #[.string (bz l), .string ⟨#[c]⟩] w fun e w' => e = .returned (.tuple #[.string (bz (Tx.cut1 c l).1), .string (bz (Tx.cut1 c l).2.1), .bool (Tx.cut1 c l).2.2]) ∧ Below w.heap.size w w' := by
  obtain ⟨m, hm⟩ := hL.max
  refine (Any.strings_Cut lay145 (bz l) ⟨#[c]⟩ m w (by rw [bz_size]; omega) hm).mono fun e w' ⟨h1, n, h2⟩ => ⟨?_, by rw [h2]; exact bel_drewN (Below.refl _ _) n⟩
  rw [h1, data_bz]
  have e : (⟨#[c]⟩ : ByteArray).data.toList = [c] := rfl
  rw [e, Tx.cut1_eq]
/-- strings.Split at one byte. -/
theorem Split_any (l : List UInt8) (c : UInt8) (w : World) (hs : l.length ≤ 1000000) (hL : LibW w) :
    Calls Tryz.prog 65 #[.string (bz l), .string ⟨#[c]⟩] w fun e w' => e = .returned (.slice (some ⟨w.heap.size, 0, none⟩) (Tx.split1 c l).length (Tx.split1 c l).length) ∧ Sl w' 1 (some ⟨w.heap.size, 0, none⟩) (Tx.split1 c l).length ((Tx.split1 c l).map fun x => Value.string (bz x)) ∧ Below w.heap.size w w' := by
  obtain ⟨m, hm⟩ := hL.max
  have hsp := Tx.split_eq c (bz l)
  rw [data_bz] at hsp
  have hlen : (Lib.splitB ⟨#[c]⟩ 0 (Lib.countB (bz l) ⟨#[c]⟩) (bz l)).length = Lib.countB (bz l) ⟨#[c]⟩ + 1 := Lib.splitB_all ⟨#[c]⟩ (Nat.le_refl 1) 0 _ _ rfl
  have hln : (Tx.split1 c l).length = Lib.countB (bz l) ⟨#[c]⟩ + 1 := by rw [← hsp, List.length_map, hlen]
  have hvs : (Lib.splitB ⟨#[c]⟩ 0 (Lib.countB (bz l) ⟨#[c]⟩) (bz l)).map Value.string = (Tx.split1 c l).map fun x => Value.string (bz x) := by
    rw [← hsp, List.map_map]
    rfl
  refine (Any.strings_Split lay146 (by kernel_rfl) (bz l) ⟨#[c]⟩ m w (by rw [bz_size]; omega) hm (Nat.le_refl 1)).mono fun e w' ⟨h1, h2⟩ => ?_
  rw [hln]
  refine ⟨h1, ?_, by rw [h2]; exact bel_al (Below.refl _ _) _⟩
  rw [h2, hvs]
  exact Sl.newAt w _ _ _ (by rw [List.length_map, hln])
/-- strconv.Atoi. -/
theorem Atoi_any (l : List UInt8) (w : World) (hs : l.length ≤ 1000000) (hL : LibW w) :
    Calls Tryz.prog 126 #[.string (bz l)] w fun e w' => Below w.heap.size w w' ∧ ((∃ v, Lib.atoiAll l = .ok v ∧ e = .returned (.tuple #[.int .i64 v, .nilIface])) ∨ ((∀ v, Lib.atoiAll l ≠ .ok v) ∧ ∃ (z : Int) (T : TypeId) (x : Value), e = .returned (.tuple #[.int .i64 z, .iface T x]))) := by
  have hd : (bz l).data.toList = l := data_bz l
  rcases h : Lib.atoiAll l with v | _ | _
  · refine (Any.strconv_Atoi_ok lay172 (bz l) (by rw [bz_size]; omega) v (by rw [hd]; exact h) w).mono fun e w' ⟨h1, h2⟩ => ⟨?_, .inl ⟨v, rfl, h1⟩⟩
    rcases h2 with rfl | ⟨t, rfl⟩
    · exact Below.refl _ _
    · exact Lib.bytesWorld_below _ _ _
  · obtain ⟨ev, he, hk⟩ := hL.syn
    exact (Any.strconv_Atoi_syntax lay172 (bz l) (by rw [bz_size]; omega) (by rw [hd]; exact h) ev w he hk).mono fun e w' ⟨N, h1, _, _, h4⟩ => ⟨h4, .inr ⟨fun v e => (by cases e), _, _, _, h1⟩⟩
  · obtain ⟨ev, he, hk⟩ := hL.rng
    exact (Any.strconv_Atoi_range lay172 (bz l) (by rw [bz_size]; omega) (by rw [hd]; exact h) ev w he hk).mono fun e w' ⟨N, h1, _, _, h4⟩ => ⟨h4, .inr ⟨fun v e => (by cases e), _, _, _, h1⟩⟩
end Go.Proofs.YtapledphhfiimaaGreatDoor
