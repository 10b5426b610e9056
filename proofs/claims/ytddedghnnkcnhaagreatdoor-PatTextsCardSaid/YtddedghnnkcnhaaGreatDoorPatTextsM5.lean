/-
  Part 5 of the proof of PatTexts: FrameT, FrameV, PatF, RegI, PatT, PatCol, RegQ.
-/
import Derived.Test.YtddedghnnkcnhaaGreatDoorPatTextsM2
import Derived.Test.YtddedghnnkcnhaaGreatDoorPatTextsM4
import Derived.Lib.SmallJoins
import Derived.Lib.LaidTab
import Derived.LaidSub
import Derived.Deep.DeepLaidRun
import Derived.WalkKit
import Derived.Lib.Hide
import Derived.Deep.RegionWith
import Derived.Deep.QuietTactic
import Derived.Test.YtddedghnnkcnhaaGreatDoorPatTextsM3
/-
  The frame where the tables of math/bits and strconv are listed beside errors.errorType; a pattern that came in.
-/
namespace Go.Proofs.YtddedghnnkcnhaaGreatDoor
open Go.ChangeShapes Go.WideShapes Go.ChangeAt Go.RowKit Go.Joins
set_option linter.unusedVariables false
set_option maxRecDepth 100000

def tabLaid : List (String × DataW Unit) := [("math/bits.deBruijn32tab", Rows.laid_math_bits_deBruijn32tab), ("math/bits.deBruijn64tab", Rows.laid_math_bits_deBruijn64tab), ("internal/strconv.uint64pow10", Rows.laid_internal_strconv_uint64pow10), ("errors.errorType", Rows.laid_errors_errorType)]
theorem tab_err : (tabLaid.filter fun x => x.1 == "errors.errorType") = errLaid := by kernel_rfl
theorem tab_pow : (tabLaid.filter fun x => x.1 == "internal/strconv.uint64pow10") = [("internal/strconv.uint64pow10", Rows.laid_internal_strconv_uint64pow10)] := by kernel_rfl
theorem pow_data : (Rows.laid_internal_strconv_uint64pow10 : DataW Unit) = Lib.tabData .u64 Lib.pow10Tab := by kernel_rfl
theorem pow_none : ([("internal/strconv.uint64pow10", (Rows.laid_internal_strconv_uint64pow10 : DataW Unit))].filter fun x => x.2.handleName?.isNone) = [("internal/strconv.uint64pow10", Rows.laid_internal_strconv_uint64pow10)] := by kernel_rfl
theorem errT_of_tab {W : World} (h : laidMetH Tryz.prog tabLaid W) : ErrT W := by
  have h1 := laidMetH.filter (fun x => x.1 == "errors.errorType") h
  rw [tab_err] at h1
  exact errT_of_laid h1
theorem tabW_of_tab {W : World} (h : laidMetH Tryz.prog tabLaid W) : TabW W := by
  have h1 := laidMetH.filter (fun x => x.1 == "internal/strconv.uint64pow10") h
  rw [tab_pow] at h1
  have h2 := (laidMetH_iff.1 h1).1
  rw [pow_none, pow_data] at h2
  exact Lib.tabIs_of_head (g := 2) (by kernel_rfl) (by kernel_rfl) Tryz.underlying315 Tryz.underlying190 (by kernel_rfl) (by kernel_rfl) h2

/-- A table's values. -/
def litsOf : DataW Unit → List Value
  | .agg ps => ps.map fun | .lit (.int k x) => .int k x | _ => .bool false
  | _ => []
/-- A world that meets the condition: the settled one, the variables' cells laid. -/
noncomputable def tabWorld (os : Os) : World :=
  { laidWorld os with heap := (((laidWorld os).heap.modify 7 fun
      | .cells _ t frozen => .cells (litsOf Rows.laid_math_bits_deBruijn32tab).toArray t frozen
      | o => o).modify 8 fun
      | .cells _ t frozen => .cells (litsOf Rows.laid_math_bits_deBruijn64tab).toArray t frozen
      | o => o).modify 2 fun
      | .cells _ t frozen => .cells (litsOf Rows.laid_internal_strconv_uint64pow10).toArray t frozen
      | o => o }
theorem tab_met (os : Os) (args : Array Value) : laidMetH Tryz.prog tabLaid ((tabWorld os).forCall (fun _ _ => 0) ⟨#[], args, []⟩).memory :=
  laidMetH_of_parts (laidMet_of_run3 30 (by kernel_rfl) (by kernel_rfl) (by kernel_rfl)) (by kernel_rfl)

section
variable {H : Type} {enc : TypeId × Value → H} {P : Program} {w : World} {base : Nat} {spare : Nat → Bool} {held : Bool}
/-- A slice of ints that came in, with the bulk. -/
theorem open_sl_ints_upto {t e : TypeId} {k : IntKind} {fuel n c B : Nat} {A : Option Addr} {x : DataW H × List MemPlace} (ht : P.underlying t = some (.slice e)) (he : P.underlying e = some (.int k)) (hs : P.cellsOf e = 1)
    (h : DataW.trod enc P w base spare held fuel t [.slice A n c] = some x) (hB : Rows.uptoBulk x.1 ≤ B) :
    n ≤ B ∧ ∃ zs : List Int, zs.length = n ∧ Sl w 1 A n (zs.map (Value.int k)) ∧ ∀ z ∈ zs, (Lit.int k z).wf = true := by
  obtain ⟨hm, _⟩ := open_sl_upto hs (by omega) ht h hB
  exact ⟨hm, (open_sl_ints ht he hs h).2⟩
/-- The shape of a slice's value. -/
theorem slice_shape {t e : TypeId} {fuel : Nat} {v : Value} {y : DataW H × List MemPlace} (ht : P.underlying t = some (.slice e)) (h : DataW.trod enc P w base spare held fuel t [v] = some y) : ∃ A n c, v = .slice A n c := by
  rcases DataW.trod_slice ht h with ⟨h4, _⟩ | ⟨A, n, c, _, _, _, _, h4, _⟩
  · injection h4 with h4 _
    exact ⟨_, _, _, h4⟩
  · injection h4 with h4 _
    exact ⟨_, _, _, h4⟩
end

section
variable {H : Type} {enc : TypeId × Value → H} {w : World} {base b0 : Nat} {spare : Nat → Bool} {held : Bool} {r : Reach}
theorem pat_fields : ∃ f0 f1 : Field, Tryz.prog.underlying 25 = some (.struct #[f0, f1]) ∧ f0.type = 22 ∧ f1.type = 23 :=
  ⟨_, _, Tryz.underlying25, rfl, rfl⟩
theorem edge_fields : ∃ f0 f1 : Field, Tryz.prog.underlying 66 = some (.struct #[f0, f1]) ∧ (f0.offset = 0 ∧ f1.offset = 1) ∧ f0.type = 3 ∧ f1.type = 3 :=
  ⟨_, _, Tryz.underlying66, ⟨rfl, rfl⟩, rfl, rfl⟩
theorem pat_one : ∀ f0 f1 : Field, f0.type = 22 → f1.type = 23 → True := fun _ _ _ _ => trivial
/-- A pattern that came in, with the bulk. -/
theorem open_pat_upto {v : Value} {d : DataW H} {p : List MemPlace} {B : Nat} (hv : Value.okWide Tryz.prog w r b0 25 v) (h : DataW.Trod enc Tryz.prog w base spare held 25 v d p) (hB : Rows.uptoBulk d ≤ B) :
    ∃ (A : Option Addr) (n c : Nat) (B' : Option Addr) (m e : Nat) (L : List Int) (E : List (Int × Int)), v = pv A n c B' m e ∧ L.length = n ∧ n ≤ B ∧ m ≤ B ∧ Sl w 1 A n (L.map (Value.int .i64)) ∧ Sl w 2 B' m (Rk.cells E) := by
  obtain ⟨c0, c1, y0, y1, fu, rfl, rfl, rfl, hy0, hy1⟩ := open_agg2 Tryz.underlying25 (by kernel_rfl) (by kernel_rfl) hv h
  have hB' : Rows.uptoBulk y0.1 ≤ B ∧ Rows.uptoBulk y1.1 ≤ B := by
    simp only [Rows.uptoBulk, Rows.uptoBulkAll] at hB
    omega
  obtain ⟨A, n, c, rfl⟩ := slice_shape Tryz.underlying22 hy0
  obtain ⟨B', m, e, rfl⟩ := slice_shape Tryz.underlying23 hy1
  obtain ⟨hn, L, hL, hs, _⟩ := open_sl_ints_upto Tryz.underlying22 Tryz.underlying3 (by kernel_rfl) hy0 hB'.1
  obtain ⟨hm, _⟩ := open_sl_upto (s := 2) (by kernel_rfl) (by omega) Tryz.underlying23 hy1 hB'.2
  obtain ⟨_, E, hE, ht, _⟩ := open_sl_pairs Tryz.underlying23 Tryz.underlying66 (by kernel_rfl) rfl rfl (by kernel_rfl) (by kernel_rfl) Tryz.underlying3 Tryz.underlying3 hy1
  exact ⟨A, n, c, B', m, e, L, E, rfl, hL, hn, hm, hs, ht⟩
end
end Go.Proofs.YtddedghnnkcnhaaGreatDoor
/-
  A pattern that came in, the first form: with its capacities and its numbers' bounds.
-/
namespace Go.Proofs.YtddedghnnkcnhaaGreatDoor
open Go.ChangeShapes Go.WideShapes Go.ChangeAt Go.RowKit Go.Joins
set_option linter.unusedVariables false
set_option maxRecDepth 100000

theorem wf_i64P {z : Int} (h : (Lit.int .i64 z).wf = true) : i64P z := wf_i64 h
/-- A slice that stands in a struct: its capacity. -/
theorem cap_field {P : Program} {w : World} {r : Reach} {base : Nat} {t e : TypeId} (ht : P.underlying t = some (.slice e)) {a : Option Addr} {n c : Nat} (h : Cell.okWide P w r base t (.slice a n c)) : n ≤ c ∧ c ≤ 9223372036854775807 :=
  cap_ok (r := r) (base := base) (w := w) ht (by simp only [Value.okWide, ht]; exact h)
section
variable {H : Type} {enc : TypeId × Value → H} {w : World} {base b0 : Nat} {spare : Nat → Bool} {held : Bool} {r : Reach}
theorem pat_cells : Tryz.prog.cellTypes Tryz.prog.depth 25 = some [22, 23] := by kernel_rfl
theorem pat_cap {A B : Option Addr} {n c m e : Nat} (hv : Value.okWide Tryz.prog w r b0 25 (pv A n c B m e)) : (n ≤ c ∧ c ≤ 9223372036854775807) ∧ (m ≤ e ∧ e ≤ 9223372036854775807) := by
  simp only [Value.okWide, Tryz.underlying25] at hv
  obtain ⟨cs, h1, _, ts, hts, _, hc⟩ := hv
  injection h1 with h1
  subst h1
  rw [pat_cells] at hts
  injection hts with hts
  subst hts
  obtain ⟨u0, hu0, k0⟩ := hc 0 (.slice A n c) rfl
  obtain ⟨u1, hu1, k1⟩ := hc 1 (.slice B m e) rfl
  cases hu0
  cases hu1
  exact ⟨cap_field Tryz.underlying22 k0, cap_field Tryz.underlying23 k1⟩
/-- A pattern that came in. -/
theorem open_pat {v : Value} {d : DataW H} {p : List MemPlace} (hv : Value.okWide Tryz.prog w r b0 25 v) (h : DataW.Trod enc Tryz.prog w base spare held 25 v d p) :
    ∃ (A : Option Addr) (n c : Nat) (B' : Option Addr) (m e : Nat) (L : List Int) (E : List (Int × Int)), v = pv A n c B' m e ∧ L.length = n ∧ Sl w 1 A n (L.map (Value.int .i64)) ∧ Sl w 2 B' m (Rk.cells E) ∧ (n ≤ c ∧ c ≤ 9223372036854775807) ∧ (∀ x ∈ L, i64P x) ∧ (∀ e ∈ E, i64P e.1 ∧ i64P e.2) := by
  have hv' := hv
  obtain ⟨c0, c1, y0, y1, fu, rfl, rfl, rfl, hy0, hy1⟩ := open_agg2 Tryz.underlying25 (by kernel_rfl) (by kernel_rfl) hv h
  obtain ⟨A, n, c, rfl⟩ := slice_shape Tryz.underlying22 hy0
  obtain ⟨B', m, e, rfl⟩ := slice_shape Tryz.underlying23 hy1
  obtain ⟨_, L, hL, hs, wL⟩ := open_sl_ints Tryz.underlying22 Tryz.underlying3 (by kernel_rfl) hy0
  obtain ⟨_, E, hE, ht, wE⟩ := open_sl_pairs Tryz.underlying23 Tryz.underlying66 (by kernel_rfl) rfl rfl (by kernel_rfl) (by kernel_rfl) Tryz.underlying3 Tryz.underlying3 hy1
  exact ⟨A, n, c, B', m, e, L, E, rfl, hL, hs, ht, (pat_cap hv').1, fun x hx => wf_i64P (wL x hx), fun x hx => ⟨wf_i64P (wE x hx).1, wf_i64P (wE x hx).2⟩⟩
end
end Go.Proofs.YtddedghnnkcnhaaGreatDoor
/-
  Patterns: the statements' Same.
-/
namespace Go.Proofs.YtddedghnnkcnhaaGreatDoor
open Go.RowKit
attribute [local go_sem ↓] Go.wp_at_zero Go.wp_at_succ
set_option maxRecDepth 100000
set_option linter.unusedVariables false

set_option maxHeartbeats 8000000 in
theorem Same08_any (L L' : List Int) (E E' : List (Int × Int)) (A A' B B' : Option Addr) (n n' m m' c c' d d' : Nat) (w : World)
    (hl : L.length = n) (hl' : L'.length = n') (hn : n ≤ 1048576) (hm : m ≤ 1048576) (hs : Sl w 1 A n (L.map (Value.int .i64))) (hs' : Sl w 1 A' n' (L'.map (Value.int .i64))) (ht : Sl w 2 B m (Rk.cells E)) (ht' : Sl w 2 B' m' (Rk.cells E')) :
    Calls Tryz.prog 26 #[pv A n c B m d, pv A' n' c' B' m' d'] w fun e w' => e = .returned (.bool (decide (L = L' ∧ E = E'))) ∧ Below w.heap.size w w' := by
  have hb0 := bel_al (bel_al (Below.refl w.heap.size w) (.cells #[.slice A n c, .slice B m d] 31)) (.cells #[.slice A' n' c', .slice B' m' d'] 25)
  have HB0 := Lib.hid hb0
  have HCI := Lib.hid (SameInts_any L L' A A' n n' c c' _ hl hl' (hs.keep hb0) (hs'.keep hb0) (by omega))
  have HK1 := Lib.hid (((Blk.new w 31 #[.slice A n c, .slice B m d]).alloc (.cells #[.slice A' n' c', .slice B' m' d'] 25)))
  have HK2 := Lib.hid (Blk.new (w.alloc (.cells #[.slice A n c, .slice B m d] 31)) 25 #[.slice A' n' c', .slice B' m' d'])
  rw [World.size_alloc] at HK2
  have HT := Lib.hid (ht.keep hb0)
  have HT' := Lib.hid (ht'.keep hb0)
  have HM := Lib.hid ht.len2
  have HM' := Lib.hid ht'.len2
  clear hl hl' hs hs' ht ht' hb0
  by_cases hLL : L = L'
  · rw [decide_eq_true hLL] at HCI
    by_cases hmm : m = m'
    · rw [show decide (L = L' ∧ E = E') = decide (E = E') from decide_eq_decide.2 ⟨fun h => h.2, fun h => ⟨hLL, h⟩⟩]
      clear hLL
      subst hmm
      go_enter Tryz.func26, Tryz.ntmps26
      go_wp2_with (go_at_call 99; refine HCI.out.mono ?_; rintro e w1 ⟨rfl, hb1⟩; have k1 := HK1.out.keep hb1; have k2 := HK2.out.keep hb1; have k11 := k1.cell 1; have k21 := k2.cell 1; have HB1 := Lib.hid (HB0.out.andThen hb1); have HKa := Lib.hid k1; have HKb := Lib.hid k2; have HTa := Lib.hid (HT.out.keep hb1); have HTb := Lib.hid (HT'.out.keep hb1); simp at k11 k21; clear hb1 k1 k2)
      clear k11 k21
      go_loopw [5] (fun i wr => ∃ k : Nat, k ≤ m ∧ i = .int .i64 k ∧ Hid (E.take k = E'.take k) ∧ Below w1.heap.size w1 wr) (fun i _ => m - (intOf i).toNat)
      case atStart => exact ⟨0, Nat.zero_le _, rfl, rfl, Below.refl _ _⟩
      case round =>
        obtain ⟨k, hk, rfl, HD, hb⟩ := hrel
        have HBk := Lib.hid hb
        have k11 := (HKa.out.keep hb).cell 1
        have k21 := (HKb.out.keep hb).cell 1
        have hta := HTa.out.keep hb
        have htb := HTb.out.keep hb
        simp at k11 k21
        clear hb
        by_cases hlt : k < m
        · have hlt' : (k : Int) < (m : Int) := by omega
          obtain ⟨⟨x, y⟩, he⟩ : ∃ e, E[k]? = some e := ⟨_, List.getElem?_eq_getElem (by rw [HM.out]; exact hlt)⟩
          obtain ⟨⟨u, v⟩, hf⟩ : ∃ e, E'[k]? = some e := ⟨_, List.getElem?_eq_getElem (by rw [HM'.out]; exact hlt)⟩
          obtain ⟨b1, off1, rfl, c0, c1⟩ := hta.edge hlt he
          obtain ⟨b2, off2, rfl, d0, d1⟩ := htb.edge hlt hf
          simp only at c0 c1 d0 d1
          have HE := Lib.hid he
          have HF := Lib.hid hf
          clear he hf hta htb
          have hk0 : (0 : Int) ≤ (k : Int) := by omega
          by_cases hxy : x = u ∧ y = v
          · obtain ⟨rfl, rfl⟩ := hxy
            have HN := Lib.hid (show E.take (k + 1) = E'.take (k + 1) by
              obtain ⟨h1, h2⟩ := List.getElem?_eq_some_iff.1 HE.out
              obtain ⟨h3, h4⟩ := List.getElem?_eq_some_iff.1 HF.out
              rw [List.take_succ_eq_append_getElem h1, List.take_succ_eq_append_getElem h3, h2, h4, HD.out])
            go_wp2_with fail
            go_quiet (fail)
            go_wp2_with fail
            go_roundw
            case rel => exact ⟨k + 1, by omega, by go_num, HN.out, bel_drewN HBk.out _⟩
            case measure => simp [intOf]; omega
          · have HNo := Lib.hid (show false = decide (E = E') by
              refine (decide_eq_false fun h => hxy ?_).symm
              have h1 := HE.out
              rw [h, HF.out] at h1
              have h2 := Option.some.inj h1
              exact ⟨(Prod.ext_iff.1 h2).1.symm, (Prod.ext_iff.1 h2).2.symm⟩)
            by_cases hx : x = u
            · subst hx
              have hy : ¬ y = v := fun h => hxy ⟨rfl, h⟩
              have hy' : (y == v) = false := by simpa using hy
              clear hxy
              go_wp2_with fail
              go_quiet (fail)
              go_wp2_with fail
              go_ret
              exact ⟨ret_bool HNo.out, bel_drewN (HB1.out.andThen HBk.out) _⟩
            · have hx' : (x == u) = false := by simpa using hx
              clear hxy
              go_wp2_with fail
              go_quiet (fail)
              go_wp2_with fail
              go_ret
              exact ⟨ret_bool HNo.out, bel_drewN (HB1.out.andThen HBk.out) _⟩
        · obtain rfl : k = m := by omega
          have hlt' : ¬ (k : Int) < (k : Int) := by omega
          have HE := Lib.hid (show true = decide (E = E') by
            refine (decide_eq_true ?_).symm
            have h := HD.out
            rw [List.take_of_length_le (by rw [HM.out]; exact Nat.le_refl _), List.take_of_length_le (by rw [HM'.out]; exact Nat.le_refl _)] at h
            exact h)
          go_wp2_with fail
          go_ret
          exact ⟨ret_bool HE.out, HB1.out.andThen HBk.out⟩
    · have hmm' : ((m : Int) != (m' : Int)) = true := by simp; omega
      rw [show decide (L = L' ∧ E = E') = false from decide_eq_false (fun h => hmm (by rw [← HM.out, ← HM'.out, h.2]))]
      clear hLL
      go_enter Tryz.func26, Tryz.ntmps26
      go_wp2_with (go_at_call 99; refine HCI.out.mono ?_; rintro e w1 ⟨rfl, hb1⟩; have k1 := HK1.out.keep hb1; have k2 := HK2.out.keep hb1; have k11 := k1.cell 1; have k21 := k2.cell 1; have HB1 := Lib.hid (HB0.out.andThen hb1); simp at k11 k21; clear hb1 k1 k2)
      go_ret
      exact ⟨rfl, HB1.out⟩
  · rw [decide_eq_false hLL] at HCI
    rw [show decide (L = L' ∧ E = E') = false from decide_eq_false (fun h => hLL h.1)]
    clear hLL
    go_enter Tryz.func26, Tryz.ntmps26
    go_wp2_with (go_at_call 99; refine HCI.out.mono ?_; rintro e w1 ⟨rfl, hb1⟩; have HB1 := Lib.hid (HB0.out.andThen hb1); clear hb1)
    go_ret
    exact ⟨rfl, HB1.out⟩
end Go.Proofs.YtddedghnnkcnhaaGreatDoor
/-
  A region that draws its order, by an invariant: whatever may come up keeps it; so no order is gone through by itself.
-/
namespace Go.Proofs.YtddedghnnkcnhaaGreatDoor
open Go.RowKit
set_option linter.unusedVariables false

theorem set_fewer : ∀ (l : List Bool) (i : Nat), l[i]? = some false → ((l.set i true).filter (! ·)).length + 1 = (l.filter (! ·)).length
  | [], i, h => by simp at h
  | b :: l, 0, h => by
    obtain rfl : b = false := by simpa using h
    simp
  | b :: l, i + 1, h => by
    have ih := set_fewer l i (by simpa using h)
    rw [List.set_cons_succ]
    cases b
    · simp only [List.filter_cons, Bool.not_false, if_true, List.length_cons]
      omega
    · simp only [List.filter_cons, Bool.not_true, Bool.false_eq_true, if_false]
      exact ih
section
variable {P : Program} {md : Region.Mode} {ops : Array Oper} {Q : Exit → Act → World → Prop}
theorem ready_open {listed : Array Bool} {i : Nat} (hi : i ∈ Region.ready md ops listed) : listed.toList[i]? = some false := by
  have h := (mem_ready.1 hi).1
  rw [Array.getElem?_toList]
  rw [Array.getD_eq_getD_getElem?] at h
  cases hx : listed[i]? with
  | none => rw [hx] at h; simp at h
  | some b => rw [hx] at h; simp at h; rw [h]
theorem wpAny_inv {I : Array Bool → Act → World → Prop}
    (hstep : ∀ (i : Nat) (listed : Array Bool) (a : Act) (w : World), i ∈ Region.ready md ops listed → I listed a w → wpOp P ops Q i (fun a' w' => I (listed.setIfInBounds i true) a' w') a w)
    (hend : ∀ (listed : Array Bool) (a : Act) (w : World), Region.ready md ops listed = [] → I listed a w → Q .normal a w) :
    ∀ (fuel : Nat) (listed : Array Bool) (a : Act) (w : World), (listed.toList.filter (! ·)).length ≤ fuel → I listed a w → wpAny P md ops Q fuel listed a w
  | 0, listed, a, w, hf, h => by
    have hnil : Region.ready md ops listed = [] := by
      refine List.eq_nil_iff_forall_not_mem.2 fun i hi => ?_
      have := set_fewer _ _ (ready_open hi)
      omega
    exact ⟨hnil, hend listed a w hnil h⟩
  | fuel + 1, listed, a, w, hf, h =>
    ⟨fun h0 => hend listed a w h0 h, fun i hi => wpOp_mono (fun a' w' h' => wpAny_inv hstep hend fuel _ a' w' (by
      have := set_fewer _ _ (ready_open hi)
      rw [Array.toList_setIfInBounds]
      omega) h') (hstep i listed a w hi h)⟩
/-- A region by an invariant. -/
theorem wp_region_inv {id : Nat} {a : Act} {w : World} (I : Array Bool → Act → World → Prop) (hm : P.follows .mixedOrders = true) (h0 : I (Array.replicate ops.size false) a w.drew)
    (hstep : ∀ (i : Nat) (listed : Array Bool) (a : Act) (w : World), i ∈ Region.ready .any ops listed → I listed a w → wpOp P ops Q i (fun a' w' => I (listed.setIfInBounds i true) a' w') a w)
    (hend : ∀ (listed : Array Bool) (a : Act) (w : World), Region.ready .any ops listed = [] → I listed a w → Q .normal a w) : (Code.region id ops true).wp P Q a w :=
  wp_region_any hm (wpAny_inv hstep hend _ _ _ _ (by simp) h0)
end
section
variable {P : Program} {ops : Array Oper} {C : World → Prop}
/-- A region whose operations leave the world in a class: one walk in the order of the text serves every order. -/
theorem wp_region_cls {id : Nat} {Q : Exit → Act → World → Prop} {a : Act} {w : World} {l : List Oper} (C : World → Prop) (hm : P.follows .mixedOrders = true) (hB : Region.lexB .any l.toArray = true) (hC : C w.drew)
    (h : wpQuiet P l.toArray C (fun a' => ∀ w', C w' → Q .normal a' w') l a) : (Code.region id l.toArray true).wp P Q a w :=
  wp_region_quiet hm hB hC (by simpa using h)
theorem wpQ_want {Q : Act → Prop} {a : Act} {o : Oper} {rest : List Oper} {v : Value} (hw : Region.wanted o (yielded ops a.tmps) = true) (h1 : ∀ W, C W → o.quietAt P a C W v) (h2 : wpQuiet P ops C Q rest (a.put o.dst v)) : wpQuiet P ops C Q (o :: rest) a := by
  unfold wpQuiet
  rw [if_pos hw]
  exact ⟨v, h1, h2⟩
theorem wpQ_pass {Q : Act → Prop} {a : Act} {o : Oper} {rest : List Oper} (hw : Region.wanted o (yielded ops a.tmps) = false) (h2 : wpQuiet P ops C Q rest (a.put o.dst undef)) : wpQuiet P ops C Q (o :: rest) a := by
  unfold wpQuiet
  rw [if_neg (by rw [hw]; decide)]
  exact h2
theorem if_wanted {c : Bool} {p q : Prop} (hc : c = true) (h : p) : if c = true then p else q := by rw [if_pos hc]; exact h
theorem if_passed {c : Bool} {p q : Prop} (hc : c = false) (h : q) : if c = true then p else q := by rw [if_neg (by rw [hc]; decide)]; exact h
end
end Go.Proofs.YtddedghnnkcnhaaGreatDoor
/-
  A pattern's text tells the pattern (plain).
-/
namespace Go.Proofs.YtddedghnnkcnhaaGreatDoor.Pt
set_option linter.unusedVariables false

def val (l : List UInt8) : Nat := l.foldl (fun a d => a * 10 + (d.toNat - 48)) 0
theorem val_snoc (l : List UInt8) (d : UInt8) : val (l ++ [d]) = val l * 10 + (d.toNat - 48) := by simp [val]
theorem dig_nat {u : Nat} (h : u < 10) : (UInt8.ofNat (48 + u)).toNat = 48 + u := by
  rw [UInt8.toNat_ofNat']
  omega
theorem val_dec (u : Nat) : val (Lib.decDigits u) = u := by
  rw [Lib.decDigits]
  split
  · rename_i h
    show 0 * 10 + ((UInt8.ofNat (48 + u)).toNat - 48) = u
    rw [dig_nat h]
    omega
  · rw [val_snoc, val_dec (u / 10), dig_nat (Nat.mod_lt _ (by omega))]
    omega
termination_by u
decreasing_by omega
theorem dec_dig (u : Nat) : ∀ d ∈ Lib.decDigits u, 48 ≤ d.toNat ∧ d.toNat ≤ 57 := by
  rw [Lib.decDigits]
  split
  · rename_i h
    intro d hd
    obtain rfl := List.mem_singleton.1 hd
    rw [dig_nat h]
    omega
  · intro d hd
    rcases List.mem_append.1 hd with hd | hd
    · exact dec_dig (u / 10) d hd
    · obtain rfl := List.mem_singleton.1 hd
      rw [dig_nat (Nat.mod_lt _ (by omega))]
      omega
termination_by u
decreasing_by omega
theorem dec_ne (u : Nat) : Lib.decDigits u ≠ [] := by
  rw [Lib.decDigits]
  split <;> simp
theorem itoa_pos {x : Int} (h : 0 ≤ x) : Lib.itoa x = Lib.decDigits x.toNat := by unfold Lib.itoa; rw [if_neg (by omega)]
theorem itoa_inj {x y : Int} (hx : 0 ≤ x) (hy : 0 ≤ y) (h : Lib.itoa x = Lib.itoa y) : x = y := by
  rw [itoa_pos hx, itoa_pos hy] at h
  have := congrArg val h
  rw [val_dec, val_dec] at this
  omega
theorem itoa_dig {x : Int} (h : 0 ≤ x) : ∀ d ∈ Lib.itoa x, 48 ≤ d.toNat ∧ d.toNat ≤ 57 := by rw [itoa_pos h]; exact dec_dig _
theorem itoa_ne {x : Int} (h : 0 ≤ x) : Lib.itoa x ≠ [] := by rw [itoa_pos h]; exact dec_ne _

theorem split_at {s : UInt8} : ∀ {a b c d : List UInt8}, s ∉ a → s ∉ c → a ++ s :: b = c ++ s :: d → a = c ∧ b = d
  | [], b, [], d, _, _, h => ⟨rfl, by simpa using h⟩
  | [], b, x :: c, d, _, hc, h => by
    simp only [List.nil_append, List.cons_append, List.cons.injEq] at h
    exact absurd (List.mem_cons.2 (.inl h.1)) hc
  | x :: a, b, [], d, ha, _, h => by
    simp only [List.nil_append, List.cons_append, List.cons.injEq] at h
    exact absurd (List.mem_cons.2 (.inl h.1.symm)) ha
  | x :: a, b, y :: c, d, ha, hc, h => by
    simp only [List.cons_append, List.cons.injEq] at h
    obtain ⟨h1, h2⟩ := split_at (fun hm => ha (List.mem_cons_of_mem _ hm)) (fun hm => hc (List.mem_cons_of_mem _ hm)) h.2
    exact ⟨by rw [h.1, h1], h2⟩
theorem tail_inj {s : UInt8} : ∀ (r t : List (List UInt8)) (x y : List UInt8), (∀ b ∈ x :: r, s ∉ b) → (∀ b ∈ y :: t, s ∉ b) → x ++ Lib.joinTail [s] r = y ++ Lib.joinTail [s] t → x = y ∧ r = t
  | [], [], x, y, _, _, h => ⟨by simpa [Lib.joinTail] using h, rfl⟩
  | [], z :: t, x, y, hx, _, h => by
    exfalso
    refine hx x (List.mem_cons_self ..) ?_
    have : x = y ++ (s :: (z ++ Lib.joinTail [s] t)) := by simpa [Lib.joinTail] using h
    rw [this]
    simp
  | w :: r, [], x, y, _, hy, h => by
    exfalso
    refine hy y (List.mem_cons_self ..) ?_
    have : x ++ (s :: (w ++ Lib.joinTail [s] r)) = y := by simpa [Lib.joinTail] using h
    rw [← this]
    simp
  | w :: r, z :: t, x, y, hx, hy, h => by
    have h' : x ++ s :: (w ++ Lib.joinTail [s] r) = y ++ s :: (z ++ Lib.joinTail [s] t) := by simpa [Lib.joinTail] using h
    obtain ⟨h1, h2⟩ := split_at (hx x (List.mem_cons_self ..)) (hy y (List.mem_cons_self ..)) h'
    obtain ⟨h3, h4⟩ := tail_inj r t w z (fun b hb => hx b (List.mem_cons_of_mem _ hb)) (fun b hb => hy b (List.mem_cons_of_mem _ hb)) h2
    exact ⟨h1, by rw [h3, h4]⟩
theorem join_inj {s : UInt8} : ∀ (r t : List (List UInt8)), (∀ b ∈ r, b ≠ [] ∧ s ∉ b) → (∀ b ∈ t, b ≠ [] ∧ s ∉ b) → Lib.join r [s] = Lib.join t [s] → r = t
  | [], [], _, _, _ => rfl
  | [], y :: t, _, hy, h => by
    rw [Lib.join_nil, Lib.join_cons] at h
    exact absurd (List.append_eq_nil_iff.1 h.symm).1 (hy y (List.mem_cons_self ..)).1
  | x :: r, [], hx, _, h => by
    rw [Lib.join_nil, Lib.join_cons] at h
    exact absurd (List.append_eq_nil_iff.1 h).1 (hx x (List.mem_cons_self ..)).1
  | x :: r, y :: t, hx, hy, h => by
    rw [Lib.join_cons, Lib.join_cons] at h
    obtain ⟨h1, h2⟩ := tail_inj r t x y (fun b hb => (hx b hb).2) (fun b hb => (hy b hb).2) h
    rw [h1, h2]
theorem join_not {s t : UInt8} (hst : s ≠ t) : ∀ (r : List (List UInt8)), (∀ b ∈ r, t ∉ b) → t ∉ Lib.join r [s]
  | [], _ => by simp [Lib.join_nil]
  | x :: r, h => by
    rw [Lib.join_cons]
    intro hm
    rcases List.mem_append.1 hm with hm | hm
    · exact h x (List.mem_cons_self ..) hm
    · unfold Lib.joinTail at hm
      obtain ⟨l, hl, hm⟩ := List.mem_flatten.1 hm
      obtain ⟨b, hb, rfl⟩ := List.mem_map.1 hl
      rcases List.mem_append.1 hm with hm | hm
      · exact hst (List.mem_singleton.1 hm).symm
      · exact h b (List.mem_cons_of_mem _ hb) hm
theorem map_inj {α β : Type} {f : α → β} : ∀ (l m : List α), (∀ x ∈ l, ∀ y ∈ m, f x = f y → x = y) → l.map f = m.map f → l = m
  | [], [], _, _ => rfl
  | [], y :: m, _, h => by simp at h
  | x :: l, [], _, h => by simp at h
  | x :: l, y :: m, hf, h => by
    simp only [List.map_cons, List.cons.injEq] at h
    rw [hf x (List.mem_cons_self ..) y (List.mem_cons_self ..) h.1, map_inj l m (fun a ha b hb => hf a (List.mem_cons_of_mem _ ha) b (List.mem_cons_of_mem _ hb)) h.2]

def edgeL (e : Int × Int) : List UInt8 := Lib.itoa e.1 ++ 45 :: Lib.itoa e.2
theorem not_dig {x : Int} (h : 0 ≤ x) {s : UInt8} (hs : s.toNat < 48 ∨ 57 < s.toNat) : s ∉ Lib.itoa x := fun hm => by
  have := itoa_dig h s hm
  omega
theorem edgeL_not {e : Int × Int} (h1 : 0 ≤ e.1) (h2 : 0 ≤ e.2) {s : UInt8} (hs : s.toNat < 45 ∨ 57 < s.toNat) : s ∉ edgeL e := fun hm => by
  rcases List.mem_append.1 hm with hm | hm
  · exact not_dig h1 (by omega) hm
  · rcases List.mem_cons.1 hm with hm | hm
    · subst hm
      have : (45 : UInt8).toNat = 45 := rfl
      omega
    · exact not_dig h2 (by omega) hm
theorem edgeL_inj {e f : Int × Int} (h1 : 0 ≤ e.1) (h2 : 0 ≤ e.2) (h3 : 0 ≤ f.1) (h4 : 0 ≤ f.2) (h : edgeL e = edgeL f) : e = f := by
  obtain ⟨g1, g2⟩ := split_at (not_dig h1 (.inl (by decide))) (not_dig h3 (.inl (by decide))) h
  exact Prod.ext (itoa_inj h1 h3 g1) (itoa_inj h2 h4 g2)
/-- A pattern's text, as a list of bytes. -/
def textL (L : List Int) (E : List (Int × Int)) : List UInt8 := Lib.join (L.map Lib.itoa) [44] ++ 124 :: Lib.join (E.map edgeL) [44]
theorem textL_inj {L L' : List Int} {E E' : List (Int × Int)} (hL : ∀ x ∈ L, 0 ≤ x) (hL' : ∀ x ∈ L', 0 ≤ x) (hE : ∀ e ∈ E, 0 ≤ e.1 ∧ 0 ≤ e.2) (hE' : ∀ e ∈ E', 0 ≤ e.1 ∧ 0 ≤ e.2)
    (h : textL L E = textL L' E') : L = L' ∧ E = E' := by
  have n1 : ∀ (M : List Int), (∀ x ∈ M, 0 ≤ x) → (124 : UInt8) ∉ Lib.join (M.map Lib.itoa) [44] := fun M hM => join_not (by decide) _ fun b hb => by
    obtain ⟨x, hx, rfl⟩ := List.mem_map.1 hb
    exact not_dig (hM x hx) (.inr (by decide))
  obtain ⟨h1, h2⟩ := split_at (n1 L hL) (n1 L' hL') h
  have n2 : ∀ (M : List Int), (∀ x ∈ M, 0 ≤ x) → ∀ b ∈ M.map Lib.itoa, b ≠ [] ∧ (44 : UInt8) ∉ b := fun M hM b hb => by
    obtain ⟨x, hx, rfl⟩ := List.mem_map.1 hb
    exact ⟨itoa_ne (hM x hx), not_dig (hM x hx) (.inl (by decide))⟩
  have n3 : ∀ (M : List (Int × Int)), (∀ e ∈ M, 0 ≤ e.1 ∧ 0 ≤ e.2) → ∀ b ∈ M.map edgeL, b ≠ [] ∧ (44 : UInt8) ∉ b := fun M hM b hb => by
    obtain ⟨x, hx, rfl⟩ := List.mem_map.1 hb
    exact ⟨by unfold edgeL; simp, edgeL_not (hM x hx).1 (hM x hx).2 (.inl (by decide))⟩
  exact ⟨map_inj _ _ (fun x hx y hy => itoa_inj (hL x hx) (hL' y hy)) (join_inj _ _ (n2 L hL) (n2 L' hL') h1), map_inj _ _ (fun e he f hf => edgeL_inj (hE e he).1 (hE e he).2 (hE' f hf).1 (hE' f hf).2) (join_inj _ _ (n3 E hE) (n3 E' hE') h2)⟩
theorem textB_list (L : List Int) (E : List (Int × Int)) : (textB L E).data.toList = textL L E := by
  have e1 : (L.map itoaB).map (·.data.toList) = L.map Lib.itoa := by
    rw [List.map_map]
    exact List.map_congr_left fun x _ => by simp
  have e2 : (E.map edgeB).map (·.data.toList) = E.map edgeL := by
    rw [List.map_map]
    exact List.map_congr_left fun e _ => by simp [edgeB, edgeL]
  unfold textB joinB textL
  rw [e1, e2]
  simp
theorem textB_inj {L L' : List Int} {E E' : List (Int × Int)} (hL : ∀ x ∈ L, 0 ≤ x) (hL' : ∀ x ∈ L', 0 ≤ x) (hE : ∀ e ∈ E, 0 ≤ e.1 ∧ 0 ≤ e.2) (hE' : ∀ e ∈ E', 0 ≤ e.1 ∧ 0 ≤ e.2) :
    textB L E = textB L' E' ↔ L = L' ∧ E = E' := by
  constructor
  · intro h
    refine textL_inj hL hL' hE hE' ?_
    rw [← textB_list, ← textB_list, h]
  · rintro ⟨rfl, rfl⟩
    rfl
end Go.Proofs.YtddedghnnkcnhaaGreatDoor.Pt
/-
  Patterns made side by side in a region that draws its order: columns of what has been listed; cells of a block.
-/
namespace Go.Proofs.YtddedghnnkcnhaaGreatDoor
open Go.RowKit
set_option maxRecDepth 100000
set_option linter.unusedVariables false

/-- The region's columns: what has been listed, what is known of it. -/
def ColL (l : Bool) (v : Value) (p : Value) : Prop := l = true → v = p
def ColC (l : Bool) (v : Value) (w : World) (A : Option Addr) (n c m : Nat) (E : List (Int × Int)) : Prop := l = true → ∃ D e, v = pv A n c D m e ∧ Sl w 2 D m (Rk.cells E)
def ColA (l s : Bool) (x v : Value) (B : Nat) (w : World) : Prop := l = true → ∃ (g : Nat) (A1 A2 : Option Addr) (n1 n2 c1 c2 : Nat), x = .pointer (some ⟨g, 0, none⟩) ∧ B ≤ g ∧ Blk w g 31 #[.slice A1 n1 c1, .slice A2 n2 c2] ∧ (s = true → v = .agg #[.slice A1 n1 c1, .slice A2 n2 c2])
def Apart (l l' : Bool) (x x' : Value) : Prop := l = true → l' = true → x ≠ x'
theorem ColC.keep {l : Bool} {v : Value} {w w' : World} {A : Option Addr} {n c m : Nat} {E : List (Int × Int)} (h : ColC l v w A n c m E) (hb : Below w.heap.size w w') : ColC l v w' A n c m E := fun hl => by
  obtain ⟨D, e, h1, h2⟩ := h hl
  exact ⟨D, e, h1, h2.keep hb⟩
theorem ColA.keep {l s : Bool} {x v : Value} {B : Nat} {w w' : World} (h : ColA l s x v B w) (hb : Below w.heap.size w w') : ColA l s x v B w' := fun hl => by
  obtain ⟨g, A1, A2, n1, n2, c1, c2, h1, h2, h3, h4⟩ := h hl
  exact ⟨g, A1, A2, n1, n2, c1, c2, h1, h2, h3.keep hb, h4⟩
/-- A store of a slice into a block of slices touches no row of ints. -/
theorem Sl.asideP {w : World} {A : Option Addr} {n g : Nat} {E : List (Int × Int)} {cs : Array Value} {t : TypeId} (h : Sl w 2 A n (Rk.cells E)) (hb : Blk w g t cs) (hcs : ∀ (i : Nat) (v : Value), cs[i]? = some v → ∃ A n c, v = Value.slice A n c) (i : Nat) (u : Value) : Sl (w.setCell ⟨g, i, none⟩ u) 2 A n (Rk.cells E) :=
  ⟨h.1, fun hn => by
    obtain ⟨b, off, hA, hc⟩ := h.2 hn
    refine ⟨b, off, hA, fun j v hv => ?_⟩
    have h1 := hc j v hv
    by_cases hbg : b = g
    · subst hbg
      have h2 := hb.cell (off + j)
      rw [h1] at h2
      obtain ⟨_, _, _, rfl⟩ := hcs _ _ h2.symm
      have : ∀ v ∈ Rk.cells E, ∃ z, v = Value.int .i64 z := fun v hv => by
        unfold Rk.cells at hv
        obtain ⟨e, _, he⟩ := List.mem_flatMap.1 hv
        rcases List.mem_cons.1 he with rfl | he
        · exact ⟨_, rfl⟩
        · obtain rfl := List.mem_singleton.1 he
          exact ⟨_, rfl⟩
      obtain ⟨z, hz⟩ := this _ (List.mem_of_getElem? hv)
      cases hz
    · have hne : (⟨g, i, none⟩ : Addr) ≠ ⟨b, off + j, none⟩ := fun e => hbg (by cases e; rfl)
      exact (World.cell?_setCell_other (h := hne) ..).trans h1⟩
theorem slices2 {A1 A2 : Option Addr} {n1 n2 c1 c2 : Nat} : ∀ (i : Nat) (v : Value), (#[.slice A1 n1 c1, .slice A2 n2 c2] : Array Value)[i]? = some v → ∃ A n c, v = Value.slice A n c
  | 0, v, h => by cases h; exact ⟨_, _, _, rfl⟩
  | 1, v, h => by cases h; exact ⟨_, _, _, rfl⟩
  | i + 2, v, h => by simp at h
theorem ColC.store {l : Bool} {v : Value} {w : World} {A : Option Addr} {n c m g : Nat} {E : List (Int × Int)} {A1 A2 : Option Addr} {n1 n2 c1 c2 : Nat} (h : ColC l v w A n c m E) (hb : Blk w g 31 #[.slice A1 n1 c1, .slice A2 n2 c2]) (B1 B2 : Option Addr) (k1 k2 d1 d2 : Nat) :
    ColC l v ((w.setCell ⟨g, 0, none⟩ (.slice B1 k1 d1)).setCell ⟨g, 1, none⟩ (.slice B2 k2 d2)) A n c m E := fun hl => by
  obtain ⟨D, e, h1, h2⟩ := h hl
  exact ⟨D, e, h1, (h2.asideP hb slices2 0 _).asideP (hb.set_ 0 (.slice B1 k1 d1)) slices2 1 _⟩
theorem ColA.store {l s : Bool} {x v : Value} {B : Nat} {w : World} {g : Nat} (h : ColA l s x v B w) (hx : l = true → x ≠ .pointer (some ⟨g, 0, none⟩)) (u u' : Value) : ColA l s x v B ((w.setCell ⟨g, 0, none⟩ u).setCell ⟨g, 1, none⟩ u') := fun hl => by
  obtain ⟨g', A1, A2, n1, n2, c1, c2, rfl, h2, h3, h4⟩ := h hl
  have hne : g' ≠ g := fun e => hx hl (by rw [e])
  exact ⟨g', A1, A2, n1, n2, c1, c2, rfl, h2, (h3.far hne _).far hne _, h4⟩
theorem ColA.new {s : Bool} {v : Value} {B : Nat} (w : World) (hB : B ≤ w.heap.size) (hs : s = false) : ColA true s (.pointer (some ⟨w.heap.size, 0, none⟩)) v B (w.alloc (.cells #[.slice none 0 0, .slice none 0 0] 31)) := fun _ =>
  ⟨_, none, none, 0, 0, 0, 0, rfl, hB, Blk.new _ _ _, fun h => by rw [hs] at h; cases h⟩
theorem ColA.fresh {l s : Bool} {x v v' : Value} {B : Nat} {w w' : World} (h : ColA l s x v B w) (hs : s = false) (hb : Below w.heap.size w w') : ColA l s x v' B w' := fun hl => by
  obtain ⟨g, A1, A2, n1, n2, c1, c2, h1, h2, h3, h4⟩ := h hl
  exact ⟨g, A1, A2, n1, n2, c1, c2, h1, h2, h3.keep hb, fun h => by rw [hs] at h; cases h⟩
theorem text_ne {s t : ByteArray} (h : s ≠ t) : (s.toList == t.toList) = false := by
  rw [beq_eq_false_iff_ne]
  intro e
  rw [Lib.toList_data, Lib.toList_data] at e
  exact h (ByteArray.ext (Array.toList_inj.1 e))
theorem ColA.ne_new {l s : Bool} {x v : Value} {B : Nat} {w : World} (h : ColA l s x v B w) (hl : l = true) : x ≠ .pointer (some ⟨w.heap.size, 0, none⟩) := by
  obtain ⟨g, _, _, _, _, _, _, rfl, _, h3, _⟩ := h hl
  have := h3.lt
  intro e
  cases e
  omega

/-- A block's two cells. -/
def Two (w : World) (g : Nat) (u v : Value) : Prop := w.cell? ⟨g, 0, none⟩ = some u ∧ w.cell? ⟨g, 1, none⟩ = some v
theorem ck0 {w : World} {a : Addr} {v : Value} (h : w.cell? a = some v) : w.drew.cell? a = some v := h
theorem ck1 {w : World} {a : Addr} {v : Value} {o : Obj} (h : w.cell? a = some v) : (w.alloc o).cell? a = some v := (((Below.refl _ _).alloc (Nat.le_refl _) o).cell (World.block_lt_of_cell? _ _ h)).trans h
theorem ck2 {w : World} {a : Addr} {v : Value} {o o' : Obj} (h : w.cell? a = some v) : ((w.alloc o).alloc o').cell? a = some v := ck1 (ck1 h)
theorem ck3 {w : World} {a : Addr} {v : Value} {o o' o'' : Obj} (h : w.cell? a = some v) : (((w.alloc o).alloc o').alloc o'').cell? a = some v := ck1 (ck2 h)
end Go.Proofs.YtddedghnnkcnhaaGreatDoor
/-
  A region that draws its order, its values fixed, step by step in a closed word (so that no step evaluates what comes behind it).
-/
namespace Go.Proofs.YtddedghnnkcnhaaGreatDoor
open Go.RowKit
set_option linter.unusedVariables false

/-- What wpQuiet says, closed. -/
structure QQ (P : Program) (ops : Array Oper) (C : World → Prop) (Q : Act → Prop) (l : List Oper) (a : Act) : Prop where
  out : wpQuiet P ops C Q l a
section
variable {P : Program} {ops : Array Oper} {C : World → Prop}
theorem wp_region_qq {id : Nat} {Q : Exit → Act → World → Prop} {a : Act} {w : World} {l : List Oper} (C : World → Prop) (hm : P.follows .mixedOrders = true) (hB : Region.lexB .any l.toArray = true) (hC : C w.drew)
    (h : QQ P l.toArray C (fun a' => ∀ w', C w' → Q .normal a' w') l a) : (Code.region id l.toArray true).wp P Q a w := wp_region_cls C hm hB hC h.out
theorem qq_want {Q : Act → Prop} {a : Act} {o : Oper} {rest : List Oper} {v : Value} (hw : Region.wanted o (yielded ops a.tmps) = true) (h1 : ∀ W, C W → o.quietAt P a C W v) (h2 : QQ P ops C Q rest (a.put o.dst v)) : QQ P ops C Q (o :: rest) a := ⟨wpQ_want hw h1 h2.out⟩
theorem qq_pass {Q : Act → Prop} {a : Act} {o : Oper} {rest : List Oper} (hw : Region.wanted o (yielded ops a.tmps) = false) (h2 : QQ P ops C Q rest (a.put o.dst undef)) : QQ P ops C Q (o :: rest) a := ⟨wpQ_pass hw h2.out⟩
theorem qq_nil {Q : Act → Prop} {a : Act} (h : Q a) : QQ P ops C Q [] a := ⟨wpQuiet_nil h⟩
end
end Go.Proofs.YtddedghnnkcnhaaGreatDoor
