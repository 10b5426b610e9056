/-
  Part 5 of the proof of PatBack: FrameT, PatI, SrtE.
-/
import Derived.Test.YtapledphhfiimaaGreatDoorPatBackM2
import Derived.Test.YtapledphhfiimaaGreatDoorPatBackM4
import Derived.Lib.SmallJoins
import Derived.Lib.LaidTab
import Derived.LaidSub
import Derived.Deep.DeepLaidRun
import Derived.Shelf.Spec.SlicesInsert
import Derived.Lib.AppendZerosOnto
import Derived.Lib.AppendZeros
import Derived.Lib.Overlaps
import Derived.Laws.CopyRow
import Derived.Deep.RegionLaw
import Derived.Shelf.SlSortCmp.WholeK
import Derived.Sort.OwnSortedInts
set_option linter.unusedVariables false
/-
  The frame where the tables of math/bits and strconv are listed beside errors.errorType; a pattern that came in.
-/
namespace Go.Proofs.YtapledphhfiimaaGreatDoor
open Go.ChangeShapes Go.WideShapes Go.ChangeAt Go.RowKit Go.Joins
set_option linter.unusedVariables false
set_option maxRecDepth 100000

def tabLaid : List (String × DataW Unit) := [("math/bits.deBruijn32tab", Rows.laid_math_bits_deBruijn32tab), ("math/bits.deBruijn64tab", Rows.laid_math_bits_deBruijn64tab), ("internal/strconv.uint64pow10", Rows.laid_internal_strconv_uint64pow10), ("errors.errorType", Rows.laid_errors_errorType)]
theorem tab_err : (tabLaid.filter fun x => x.1 == "errors.errorType") = errLaid := by kernel_rfl
theorem tab_pow : (tabLaid.filter fun x => x.1 == "internal/strconv.uint64pow10") = [("internal/strconv.uint64pow10", Rows.laid_internal_strconv_uint64pow10)] := by kernel_rfl
theorem pow_data : (Rows.laid_internal_strconv_uint64pow10 : DataW Unit) = Lib.tabData .u64 Lib.pow10Tab := by kernel_rfl
theorem pow_none : ([("internal/strconv.uint64pow10", (Rows.laid_internal_strconv_uint64pow10 : DataW Unit))].filter fun x => x.2.handleName?.isNone) = [("internal/strconv.uint64pow10", Rows.laid_internal_strconv_uint64pow10)] := by kernel_rfl
theorem errT_of_tab {W : World} (h : laidMetH Tryz.prog tabLaid W) : ErrT W := by
  have h1 := laidMetH.filter (fun x => x.1 == "errors.errorType") h
  rw [tab_err] at h1
  exact errT_of_laid h1
theorem tabW_of_tab {W : World} (h : laidMetH Tryz.prog tabLaid W) : TabW W := by
  have h1 := laidMetH.filter (fun x => x.1 == "internal/strconv.uint64pow10") h
  rw [tab_pow] at h1
  have h2 := (laidMetH_iff.1 h1).1
  rw [pow_none, pow_data] at h2
  exact Lib.tabIs_of_head (g := 2) (by kernel_rfl) (by kernel_rfl) Tryz.underlying237 Tryz.underlying173 (by kernel_rfl) (by kernel_rfl) h2

/-- A table's values. -/
def litsOf : DataW Unit → List Value
  | .agg ps => ps.map fun | .lit (.int k x) => .int k x | _ => .bool false
  | _ => []
/-- A world that meets the condition: the settled one, the variables' cells laid. -/
noncomputable def tabWorld (os : Os) : World :=
  { laidWorld os with heap := (((laidWorld os).heap.modify 7 fun
      | .cells _ t frozen => .cells (litsOf Rows.laid_math_bits_deBruijn32tab).toArray t frozen
      | o => o).modify 8 fun
      | .cells _ t frozen => .cells (litsOf Rows.laid_math_bits_deBruijn64tab).toArray t frozen
      | o => o).modify 2 fun
      | .cells _ t frozen => .cells (litsOf Rows.laid_internal_strconv_uint64pow10).toArray t frozen
      | o => o }
theorem tab_met (os : Os) (args : Array Value) : laidMetH Tryz.prog tabLaid ((tabWorld os).forCall (fun _ _ => 0) ⟨#[], args, []⟩).memory :=
  laidMetH_of_parts (laidMet_of_run3 30 (by kernel_rfl) (by kernel_rfl) (by kernel_rfl)) (by kernel_rfl)

section
variable {H : Type} {enc : TypeId × Value → H} {P : Program} {w : World} {base : Nat} {spare : Nat → Bool} {held : Bool}
/-- A slice of ints that came in, with the bulk. -/
theorem open_sl_ints_upto {t e : TypeId} {k : IntKind} {fuel n c B : Nat} {A : Option Addr} {x : DataW H × List MemPlace} (ht : P.underlying t = some (.slice e)) (he : P.underlying e = some (.int k)) (hs : P.cellsOf e = 1)
    (h : DataW.trod enc P w base spare held fuel t [.slice A n c] = some x) (hB : Rows.uptoBulk x.1 ≤ B) :
    n ≤ B ∧ ∃ zs : List Int, zs.length = n ∧ Sl w 1 A n (zs.map (Value.int k)) ∧ ∀ z ∈ zs, (Lit.int k z).wf = true := by
  obtain ⟨hm, _⟩ := open_sl_upto hs (by omega) ht h hB
  exact ⟨hm, (open_sl_ints ht he hs h).2⟩
/-- The shape of a slice's value. -/
theorem slice_shape {t e : TypeId} {fuel : Nat} {v : Value} {y : DataW H × List MemPlace} (ht : P.underlying t = some (.slice e)) (h : DataW.trod enc P w base spare held fuel t [v] = some y) : ∃ A n c, v = .slice A n c := by
  rcases DataW.trod_slice ht h with ⟨h4, _⟩ | ⟨A, n, c, _, _, _, _, h4, _⟩
  · injection h4 with h4 _
    exact ⟨_, _, _, h4⟩
  · injection h4 with h4 _
    exact ⟨_, _, _, h4⟩
end

section
variable {H : Type} {enc : TypeId × Value → H} {w : World} {base b0 : Nat} {spare : Nat → Bool} {held : Bool} {r : Reach}
theorem pat_fields : ∃ f0 f1 : Field, Tryz.prog.underlying 26 = some (.struct #[f0, f1]) ∧ f0.type = 23 ∧ f1.type = 24 :=
  ⟨_, _, Tryz.underlying26, rfl, rfl⟩
theorem edge_fields : ∃ f0 f1 : Field, Tryz.prog.underlying 115 = some (.struct #[f0, f1]) ∧ (f0.offset = 0 ∧ f1.offset = 1) ∧ f0.type = 3 ∧ f1.type = 3 :=
  ⟨_, _, Tryz.underlying115, ⟨rfl, rfl⟩, rfl, rfl⟩
theorem pat_one : ∀ f0 f1 : Field, f0.type = 23 → f1.type = 24 → True := fun _ _ _ _ => trivial
/-- A pattern that came in, with the bulk. -/
theorem open_pat_upto {v : Value} {d : DataW H} {p : List MemPlace} {B : Nat} (hv : Value.okWide Tryz.prog w r b0 26 v) (h : DataW.Trod enc Tryz.prog w base spare held 26 v d p) (hB : Rows.uptoBulk d ≤ B) :
    ∃ (A : Option Addr) (n c : Nat) (B' : Option Addr) (m e : Nat) (L : List Int) (E : List (Int × Int)), v = pv A n c B' m e ∧ L.length = n ∧ n ≤ B ∧ m ≤ B ∧ Sl w 1 A n (L.map (Value.int .i64)) ∧ Sl w 2 B' m (Rk.cells E) := by
  obtain ⟨c0, c1, y0, y1, fu, rfl, rfl, rfl, hy0, hy1⟩ := open_agg2 Tryz.underlying26 (by kernel_rfl) (by kernel_rfl) hv h
  have hB' : Rows.uptoBulk y0.1 ≤ B ∧ Rows.uptoBulk y1.1 ≤ B := by
    simp only [Rows.uptoBulk, Rows.uptoBulkAll] at hB
    omega
  obtain ⟨A, n, c, rfl⟩ := slice_shape Tryz.underlying23 hy0
  obtain ⟨B', m, e, rfl⟩ := slice_shape Tryz.underlying24 hy1
  obtain ⟨hn, L, hL, hs, _⟩ := open_sl_ints_upto Tryz.underlying23 Tryz.underlying3 (by kernel_rfl) hy0 hB'.1
  obtain ⟨hm, _⟩ := open_sl_upto (s := 2) (by kernel_rfl) (by omega) Tryz.underlying24 hy1 hB'.2
  obtain ⟨_, E, hE, ht, _⟩ := open_sl_pairs Tryz.underlying24 Tryz.underlying115 (by kernel_rfl) rfl rfl (by kernel_rfl) (by kernel_rfl) Tryz.underlying3 Tryz.underlying3 hy1
  exact ⟨A, n, c, B', m, e, L, E, rfl, hL, hn, hm, hs, ht⟩
end
end Go.Proofs.YtapledphhfiimaaGreatDoor
/-
  slices.Insert of one edge into a row that the call owns.
-/
namespace Go.Proofs.YtapledphhfiimaaGreatDoor
open Go.RowKit Go.Proofs
attribute [local go_sem ↓] Go.wp_at_zero Go.wp_at_succ
set_option maxRecDepth 100000
set_option linter.unusedVariables false

/-- copy of elements of s cells each. -/
theorem run_copy_rowS {P : Program} (s : Nat) (w : World) (dT sT ty elem : TypeId) (g o dLen dCap : Nat) (a : Addr) (sLen sCap : Nat) (cur : Array Value) (t : TypeId) (cs : List Value)
    (hu : P.underlying dT = some (.slice elem)) (hs : (P.info? elem).map (·.size) = some s)
    (hg : w.heap[g]? = some (.cells cur t (0, 0))) (hn : cs.length = Nat.min sLen dLen * s)
    (hsrc : ∀ j v, cs[j]? = some v → w.cell? (a.add j) = some v) (hfit : o + cs.length ≤ cur.size) (h1 : ∀ v ∈ cs, v.oneCell' = true) :
    (Builtin.copy_ #[dT, sT] ty #[.slice (some ⟨g, o, none⟩) dLen dCap, .slice (some a) sLen sCap]).run P w =
      .ok (goInt (Nat.min sLen dLen)) (w.setRow g (cur.toList.take o ++ cs ++ cur.toList.drop (o + cs.length)).toArray) := by
  have hl := run_loadCells_list (P := P) w a cs hsrc
  have hst := run_storeCells_at P g o t cs 0 cur w hg (by simpa using hfit) h1
  cases hq : P.info? elem with
  | none => simp [hq] at hs
  | some i =>
    have hi : i.size = s := by simpa [hq] using hs
    simp [Builtin.copy_, run_underlying hu, Builtin.lenOf, Builtin.firstCells, sizeOf, typeInfo, hq, hi, ← hn, hl, hst]

theorem splice_shift {α : Type} (X E Y Z : List α) (hZ : E.length ≤ Z.length) :
    ∃ T, (((X ++ Y ++ Z).take (X.length + E.length) ++ Y ++ (X ++ Y ++ Z).drop (X.length + E.length + Y.length)).take X.length ++ E ++ ((X ++ Y ++ Z).take (X.length + E.length) ++ Y ++ (X ++ Y ++ Z).drop (X.length + E.length + Y.length)).drop (X.length + E.length)) = X ++ E ++ Y ++ T := by
  obtain ⟨D, hD⟩ : ∃ D, D = (X ++ Y ++ Z).drop (X.length + E.length + Y.length) := ⟨_, rfl⟩
  rw [← hD]
  have h1 : ((X ++ Y ++ Z).take (X.length + E.length)).length = X.length + E.length := by
    rw [List.length_take, List.length_append, List.length_append]; omega
  have h2 : ((X ++ Y ++ Z).take (X.length + E.length)).take X.length = X := by
    rw [List.take_take, Nat.min_eq_left (by omega), List.append_assoc, List.take_left']
    rfl
  obtain ⟨Q, hQ⟩ : ∃ Q, Q = (X ++ Y ++ Z).take (X.length + E.length) := ⟨_, rfl⟩
  rw [← hQ] at h1 h2 ⊢
  have f1 : (Q ++ Y ++ D).take X.length = X := by rw [List.append_assoc, List.take_append_of_le_length (by omega), h2]
  have f2 : (Q ++ Y ++ D).drop (X.length + E.length) = Y ++ D := by rw [List.append_assoc]; exact List.drop_left' h1
  refine ⟨D, ?_⟩
  rw [f1, f2]
  simp
theorem splice_fresh {α : Type} (X E Y R : List α) (hR : E.length + Y.length ≤ R.length) :
    ∃ T, (((X ++ R).take X.length ++ E ++ (X ++ R).drop (X.length + E.length)).take (X.length + E.length) ++ Y ++ ((X ++ R).take X.length ++ E ++ (X ++ R).drop (X.length + E.length)).drop (X.length + E.length + Y.length)) = X ++ E ++ Y ++ T := by
  have h1 : (X ++ R).take X.length = X := List.take_left' rfl
  rw [h1]
  refine ⟨(X ++ E ++ (X ++ R).drop (X.length + E.length)).drop (X.length + E.length + Y.length), ?_⟩
  have h2 : (X ++ E ++ (X ++ R).drop (X.length + E.length)).take (X.length + E.length) = X ++ E := List.take_left' (by simp)
  rw [h2]
theorem cells_take (R : List (Int × Int)) (i : Nat) : (Rk.cells R).take (i * 2) = Rk.cells (R.take i) := by
  induction R generalizing i with
  | nil => simp [Rk.cells]
  | cons a R ih =>
    cases i with
    | zero => simp [Rk.cells]
    | succ i =>
      rw [show (i + 1) * 2 = i * 2 + 1 + 1 by omega]
      have := ih i
      simp only [Rk.cells, List.take_succ_cons, List.flatMap_cons] at this ⊢
      simp only [List.cons_append, List.nil_append, List.take_succ_cons, this]
theorem cells_append (R S : List (Int × Int)) : Rk.cells (R ++ S) = Rk.cells R ++ Rk.cells S := by simp [Rk.cells]
theorem cells_one (R : List (Int × Int)) : ∀ v ∈ Rk.cells R, v.oneCell' = true := by
  intro v hv
  unfold Rk.cells at hv
  obtain ⟨e, _, h⟩ := List.mem_flatMap.1 hv
  simp at h
  rcases h with rfl | rfl <;> rfl

theorem cells_drop (R : List (Int × Int)) (i : Nat) : Rk.cells R = (Rk.cells R).take (i * 2) ++ Rk.cells (R.drop i) := by
  conv => lhs; rw [← List.take_append_drop i R, cells_append]
  rw [cells_take]
/-- A row with an edge put in. -/
def insE (R : List (Int × Int)) (i : Nat) (e : Int × Int) : List (Int × Int) := R.take i ++ e :: R.drop i
theorem cells_ins (R : List (Int × Int)) (i : Nat) (e : Int × Int) : Rk.cells (insE R i e) = Rk.cells (R.take i) ++ [.int .i64 e.1, .int .i64 e.2] ++ Rk.cells (R.drop i) := by
  unfold insE
  rw [cells_append]
  simp [Rk.cells]
theorem ins_len (R : List (Int × Int)) (i : Nat) (e : Int × Int) : (insE R i e).length = R.length + 1 := by
  unfold insE
  rw [List.length_append, List.length_cons, List.length_take, List.length_drop]
  omega
theorem grownBy_setRow (w : World) (g : Nat) (cs : Array Value) : w.grownBy (w.setRow g cs) (some g) :=
  ⟨rfl, rfl, rfl, by simp [World.setRow], fun k _ hk => setRow_other w g k cs (fun e => hk (by rw [e]))⟩

theorem Gr.like {w w' : World} {v u v' : Value} (h : Gr w w' v v') (hu : u.ownBlock = v.ownBlock) : Gr w w' u v' := ⟨by rw [hu]; exact h.g, by rw [hu]; exact h.at_⟩
set_option maxHeartbeats 8000000 in
theorem Insert_any (R : List (Int × Int)) (e : Int × Int) (B n i vb : Nat) (v : Value) (W : World) (hn : R.length = n) (hn9 : n ≤ 1000) (hi : i ≤ n) (hown : W.ownsRow B 53 2 v n (Rk.cells R)) (hBW : B ≤ W.heap.size)
    (hvb : Blk W vb 53 #[.int .i64 e.1, .int .i64 e.2]) (hne : v.ownBlock ≠ some vb) :
    Calls Tryz.prog 80 #[v, .int .i64 (i : Int), .slice (some ⟨vb, 0, none⟩) 1 1] W fun e' w' => ∃ v', e' = .returned v' ∧ w'.ownsRow B 53 2 v' (n + 1) (Rk.cells (insE R i e)) ∧ Gr W w' v v' := by
  obtain ⟨e1, e2⟩ := e
  by_cases hin : i = n
  · subst hin
    have HO := Lib.hid hown
    have HV := Lib.hid hvb
    have HE := Lib.hid (show Rk.cells (insE R i (e1, e2)) = Rk.cells R ++ [.int .i64 e1, .int .i64 e2] by
      rw [cells_ins, List.take_of_length_le (by omega), List.drop_of_length_le (by omega)]
      simp [Rk.cells])
    have HSv := Lib.hid (show Sl W 2 (some ⟨vb, 0, none⟩) 1 [.int .i64 e1, .int .i64 e2] from ⟨rfl, fun _ => ⟨vb, 0, rfl, fun j u hj => by
      rw [Nat.zero_add, hvb.cell]
      match j, hj with
      | 0, hj => exact hj
      | 1, hj => exact hj⟩⟩)
    rcases hown.2 with ⟨rfl, h0⟩ | ⟨g, cap, cur, rfl, hBg, hg, hnc, hcm, hcs, htk⟩
    · subst h0
      clear hown hvb
      go_enter Tryz.func80, Tryz.ntmps80
      go_wp2_with (at_builtin; refine wpList_cat_at elemEdge _ _ rfl rfl HO.out hBW HSv.out rfl rfl (by simp [Value.oneCell']) (by unfold lim; omega) (by unfold lim; omega) ?_; intro v' w' hown' hgr)
      go_ret
      exact ⟨_, rfl, by rw [HE.out]; exact hown', hgr⟩
    · have hci : (i : Int) ≤ (cap : Int) := by omega
      clear hown hvb hg hcs htk
      go_enter Tryz.func80, Tryz.ntmps80
      go_wp2_with (at_builtin; refine wpList_cat_at elemEdge _ _ rfl rfl HO.out hBW HSv.out rfl rfl (by simp [Value.oneCell']) (by unfold lim; omega) (by unfold lim; omega) ?_; intro v' w' hown' hgr)
      all_goals (
        go_ret
        exact ⟨_, rfl, by rw [HE.out]; exact hown', hgr.like rfl⟩)
  · have hin' : i < n := by omega
    have hn1 : ¬ ((i : Int) = (n : Int)) := by omega
    have hown2 := hown
    rcases hown.2 with ⟨rfl, h0⟩ | ⟨g, cap, cur, rfl, hBg, hg, hnc, hcm, hcs, htk⟩
    · omega
    have hgv : vb ≠ g := fun e => hne (by rw [e]; rfl)
    have hX : (Rk.cells (R.take i)).length = i * 2 := by rw [Rk.cells_length, List.length_take]; omega
    have hY : (Rk.cells (R.drop i)).length = (n - i) * 2 := by rw [Rk.cells_length, List.length_drop]; omega
    have hcl : cur.toList = Rk.cells (R.take i) ++ Rk.cells (R.drop i) ++ cur.toList.drop (n * 2) := by
      rw [← cells_append, List.take_append_drop, ← htk, List.take_append_drop]
    have hsl := Sl.of_own hown
    have hsY : ∀ j u, (Rk.cells (R.drop i))[j]? = some u → W.cell? ⟨g, i * 2 + j, none⟩ = some u := fun j u hj => by
      obtain ⟨b, off, hb, hc⟩ := hsl.2 (by omega)
      cases hb
      have := hc (i * 2 + j) u (by rw [cells_drop R i, List.getElem?_append_right (by rw [cells_take, hX]; omega), cells_take, hX, Nat.add_sub_cancel_left]; exact hj)
      rw [Nat.zero_add] at this
      exact this
    have hsz : (Tryz.prog.info? 53).map (·.size) = some 2 := by kernel_rfl
    have hg63 : cap ≤ 9223372036854775807 := by unfold maxLen at hcm; exact hcm
    by_cases hroom : n + 1 ≤ cap
    · have hroom' : ¬ (cap : Int) < (n : Int) + 1 := by omega
      have hov : ∀ lb cb, (callFunc 110 #[.slice (some ⟨vb, 0, none⟩) 1 1, .slice (some ⟨g, (i + 1) * 2, none⟩) lb cb]).run Tryz.prog W = .ok (.value (.bool false)) W := fun lb cb => by
        rw [run_callFunc_extern Tryz.func110 (by kernel_rfl) (by kernel_rfl) (by kernel_rfl) (e := Extern.SlicesOverlaps.overlaps #[28, 28] #[4]) (by kernel_rfl),
          Lib.run_overlaps_apart W 28 4 53 Tryz.underlying28 2 Tryz.sizeOf53 ⟨vb, 0, none⟩ ⟨g, (i + 1) * 2, none⟩ 1 1 lb cb hgv 53 53 2 cur.size (by simp [World.shape?, show W.heap[vb]? = _ from hvb]) (by simp [World.shape?, hg]) (by omega) (hvb.frozen 0) (hvb.frozen 2)]
        rfl
      have hw1 : IntKind.i64.wrap ((i : Int) + 1) = (i : Int) + 1 := by rw [IntKind.wrap_i64]; omega
      have hw2 : IntKind.i64.wrap ((n : Int) + 1) = (n : Int) + 1 := by rw [IntKind.wrap_i64]; omega
      have htn : ((i : Int) + 1).toNat = i + 1 := by omega
      have hb1 : (0 : Int) ≤ (i : Int) + 1 := by omega
      have hb2 : ¬ (cap = i + 1) := by omega
      have hb3 : (i : Int) ≤ (n : Int) + 1 := by omega
      have hb4 : ¬ (cap = i) := by omega
      have hb5 : (n : Int) + 1 ≤ (cap : Int) := by omega
      have hb6 : (i : Int) + 1 ≤ (n : Int) + 1 := by omega
      obtain ⟨Y, hYe⟩ : ∃ Y, Y = Rk.cells (R.drop i) := ⟨_, rfl⟩
      obtain ⟨X, hXe⟩ : ∃ X, X = Rk.cells (R.take i) := ⟨_, rfl⟩
      obtain ⟨Z, hZe⟩ : ∃ Z, Z = cur.toList.drop (n * 2) := ⟨_, rfl⟩
      have hZl : 2 ≤ Z.length := by rw [hZe, List.length_drop, Array.length_toList, hcs]; omega
      have hY1 : ∀ u ∈ Y, u.oneCell' = true := by rw [hYe]; exact cells_one _
      rw [← hYe] at hsY hY hcl
      rw [← hXe] at hX hcl
      rw [← hZe] at hcl
      have hcurl : cur.size = X.length + Y.length + Z.length := by rw [← Array.length_toList, hcl, List.length_append, List.length_append]
      obtain ⟨cur1, hc1⟩ : ∃ cur1 : Array Value, cur1 = (cur.toList.take ((i + 1) * 2) ++ Y ++ cur.toList.drop ((i + 1) * 2 + Y.length)).toArray := ⟨_, rfl⟩
      obtain ⟨W1, hW1⟩ : ∃ W1, W1 = W.drew.setRow g cur1 := ⟨_, rfl⟩
      have hgW1 : W1.heap[g]? = some (.cells cur1 53 (0, 0)) := by rw [hW1]; exact setRow_heap W.drew g cur cur1 _ _ hg
      have hgb1 : W.grownBy W1 (some g) := by rw [hW1]; exact ⟨rfl, rfl, rfl, (grownBy_setRow W.drew g cur1).size, (grownBy_setRow W.drew g cur1).block⟩
      have hcp1 : ∀ ty dc sc, (Builtin.copy_ #[28, 28] ty #[.slice (some ⟨g, (i + 1) * 2, none⟩) (n - i) dc, .slice (some ⟨g, i * 2, none⟩) (n + 1 - i) sc]).run Tryz.prog W.drew = .ok (goInt (Nat.min (n + 1 - i) (n - i))) W1 := fun ty dc sc => by
        rw [hW1, hc1]
        exact run_copy_rowS 2 W.drew _ _ ty 53 g ((i + 1) * 2) _ dc ⟨g, i * 2, none⟩ _ sc cur _ Y Tryz.underlying28 hsz hg (by rw [hY]; congr 1; simp only [Nat.min_def]; split <;> omega) (fun j u hj => by rw [Addr.add_lit]; exact hsY j u hj) (by rw [hcurl, hX]; omega) hY1
      obtain ⟨cur2, hc2⟩ : ∃ cur2 : Array Value, cur2 = (cur1.toList.take (i * 2) ++ [Value.int .i64 e1, Value.int .i64 e2] ++ cur1.toList.drop (i * 2 + 2)).toArray := ⟨_, rfl⟩
      obtain ⟨W2, hW2⟩ : ∃ W2, W2 = W1.setRow g cur2 := ⟨_, rfl⟩
      have hgW2 : W2.heap[g]? = some (.cells cur2 53 (0, 0)) := by rw [hW2]; exact setRow_heap W1 g cur1 cur2 _ _ hgW1
      have hgb2 : W1.grownBy W2 (some g) := by rw [hW2]; exact grownBy_setRow W1 g cur2
      obtain ⟨Tl, hTl⟩ := splice_shift X [Value.int .i64 e1, Value.int .i64 e2] Y Z hZl
      have hi2 : (i + 1) * 2 = X.length + 2 := by omega
      have hf2 : cur2.toList = X ++ [.int .i64 e1, .int .i64 e2] ++ Y ++ Tl := by
        rw [hc2, hc1, List.toList_toArray, List.toList_toArray, hcl, hi2, ← hX]
        exact hTl
      have hs2 : cur2.size = cap * 2 := by
        rw [hc2, List.size_toArray, hc1, List.toList_toArray]
        simp only [List.length_append, List.length_take, List.length_drop, List.length_cons, List.length_nil, Array.length_toList]
        omega
      have hvW1 : ∀ j u, [Value.int .i64 e1, .int .i64 e2][j]? = some u → W1.cell? ⟨vb, j, none⟩ = some u := fun j u hj => by
        rw [(hvb.grown hgb1 (fun e => hgv (Option.some.inj e))).cell]
        match j, hj with
        | 0, hj => exact hj
        | 1, hj => exact hj
      have hcp2 : ∀ ty dc, (Builtin.copy_ #[28, 28] ty #[.slice (some ⟨g, i * 2, none⟩) (n + 1 - i) dc, .slice (some ⟨vb, 0, none⟩) 1 1]).run Tryz.prog W1 = .ok (goInt (Nat.min 1 (n + 1 - i))) W2 := fun ty dc => by
        rw [hW2, hc2]
        refine run_copy_rowS 2 W1 _ _ ty 53 g (i * 2) _ dc ⟨vb, 0, none⟩ _ 1 cur1 _ [.int .i64 e1, .int .i64 e2] Tryz.underlying28 hsz hgW1 (by rw [show Nat.min 1 (n + 1 - i) = 1 from Nat.min_eq_left (by omega)]; rfl) (fun j u hj => by rw [Addr.add_lit, Nat.zero_add]; exact hvW1 j u hj) ?_ (by simp [Value.oneCell'])
        rw [hc1]
        simp only [List.size_toArray, List.length_append, List.length_take, List.length_drop, List.length_cons, List.length_nil, Array.length_toList]
        omega
      have HFin := Lib.hid (show W2.ownsRow B 53 2 (.slice (some ⟨g, 0, none⟩) (n + 1) cap) (n + 1) (Rk.cells (insE R i (e1, e2))) ∧ Gr W W2 (.slice (some ⟨g, 0, none⟩) n cap) (.slice (some ⟨g, 0, none⟩) (n + 1) cap) from by
        refine ⟨⟨by rw [Rk.cells_length, ins_len, hn], .inr ⟨g, cap, cur2, rfl, hBg, hgW2, hroom, hcm, hs2, ?_⟩⟩, ?_, fun k hk => .inl hk⟩
        · rw [hf2, cells_ins, ← hXe, ← hYe]
          exact List.take_left' (by simp only [List.length_append, List.length_cons, List.length_nil, hX, hY]; omega)
        · exact ⟨hgb2.os.trans hgb1.os, hgb2.tape.trans hgb1.tape, hgb2.output.trans hgb1.output, Nat.le_trans hgb1.size hgb2.size, fun k hk hne => (hgb2.block k (Nat.lt_of_lt_of_le hk hgb1.size) hne).trans (hgb1.block k hk hne)⟩)
      clear hown hvb hg hcs htk hown2 hsl hsY hcl hX hY hYe hXe hZe hZl hY1 hcurl hc1 hW1 hgW1 hgb1 hc2 hW2 hgW2 hgb2 hTl hf2 hs2 hvW1 hi2
      go_enter Tryz.func80, Tryz.ntmps80
      go_wp2_with (simp only [hov])
      go_region_law (refine step_copy_runI rfl (.tmp 73) (.tmp 76) 28 28 rfl _ _ (by simp [Act.eval, Act.put]) (by simp [Act.eval, Act.put]) (hcp1 _ _ _) ?_)
      all_goals go_wp2_with (at_builtin; refine wpList_copy_runI _ rfl (.tmp 80) (.tmp 81) 28 28 rfl _ _ rfl rfl (hcp2 _ _) ?_)
      all_goals go_ret
      all_goals exact ⟨_, rfl, HFin.out.1, HFin.out.2.like rfl⟩
    · have hcn : cap = n := by omega
      subst hcn
      have hroom' : (cap : Int) < (cap : Int) + 1 := by omega
      obtain ⟨Y, hYe⟩ : ∃ Y, Y = Rk.cells (R.drop i) := ⟨_, rfl⟩
      obtain ⟨X, hXe⟩ : ∃ X, X = Rk.cells (R.take i) := ⟨_, rfl⟩
      have hY1 : ∀ u ∈ Y, u.oneCell' = true := by rw [hYe]; exact cells_one _
      have hXs : ∀ j u, X[j]? = some u → W.cell? ⟨g, j, none⟩ = some u := fun j u hj => by
        obtain ⟨b, off, hb, hc⟩ := hsl.2 (by omega)
        cases hb
        have := hc j u (by rw [cells_drop R i, cells_take, List.getElem?_append_left (by rw [← hXe]; exact (List.getElem?_eq_some_iff.1 hj).1), ← hXe]; exact hj)
        rw [Nat.zero_add] at this
        exact this
      rw [← hYe] at hsY hY
      rw [← hXe] at hX
      obtain ⟨i0, hi0, hz0, hzs, hzb⟩ := info_parts elemEdge.hi
      have hgw : g < W.heap.size := (Array.getElem?_eq_some_iff.1 hg).1
      obtain ⟨k, hk⟩ : ∃ k, k = cap + 1 - i := ⟨_, rfl⟩
      have hik : i + k = cap + 1 := by omega
      obtain ⟨G, hG⟩ : ∃ G, G = grownCap W (cap + 1) cap 53 := ⟨_, rfl⟩
      have hGn : cap + 1 ≤ G := by rw [hG]; exact grownCap_ge W _ _ _
      have hGm : G ≤ maxLen := by rw [hG]; exact grownCap_le_maxLen W _ _ _ (by unfold maxLen; omega)
      have hG63 : G ≤ 9223372036854775807 := by unfold maxLen at hGm; exact hGm
      obtain ⟨ROW, hROW⟩ : ∃ ROW : Array Value, ROW = X.toArray ++ Builtin.zeroCells (Value.agg #[.int .i64 0, .int .i64 0]).cells k ++ Builtin.zeroCells (Value.agg #[.int .i64 0, .int .i64 0]).cells (G - (cap + 1)) := ⟨_, rfl⟩
      obtain ⟨Wa, hWa⟩ : ∃ Wa, Wa = W.drew.alloc (.cells ROW 53) := ⟨_, rfl⟩
      have hold : (Builtin.firstCells i0.size i (.slice (some ⟨g, 0, none⟩) i cap)).run Tryz.prog W.drew = .ok X.toArray W.drew := by
        rw [hzs]
        exact run_firstCells_some (P := Tryz.prog) W.drew 2 i ⟨g, 0, none⟩ i cap X hX (fun j u hj => by rw [Addr.add_lit, Nat.zero_add]; exact hXs j u hj)
      have hrz : ∀ ty, (Builtin.append_ #[28, 3] ty #[.slice (some ⟨g, 0, none⟩) i cap, .int .i64 ((cap : Int) + 1 - (i : Int))]).run Tryz.prog W = .ok (.slice (some ⟨W.heap.size, 0, none⟩) (cap + 1) G) Wa := fun ty => by
        have h := Lib.run_append_grow_zeros (P := Tryz.prog) W 28 3 ty 53 i0 _ .i64 .i64 Tryz.underlying28 Tryz.underlying3 hi0 hz0 (some ⟨g, 0, none⟩) i cap X hold k (by omega) (by omega) (by omega) (by omega) (by rw [hzb]; omega) (by rw [hzb, hik]; exact growslice_fits (by omega) (by omega))
        rw [hik, ← hG, ← hROW, ← hWa] at h
        rw [show (cap : Int) + 1 - (i : Int) = (k : Int) by omega]
        exact h
      have hRs : ROW.size = G * 2 := by
        rw [hROW]
        simp [Builtin.zeroCells, Value.cells, hX]
        omega
      obtain ⟨RR, hRR⟩ : ∃ RR, ROW.toList = X ++ RR := ⟨_, by rw [hROW, Array.toList_append, Array.toList_append, List.append_assoc]⟩
      have hRRl : RR.length = G * 2 - i * 2 := by
        have h := congrArg List.length hRR
        rw [Array.length_toList, hRs, List.length_append, hX] at h
        omega
      have hgWa : Wa.heap[W.heap.size]? = some (.cells ROW 53 (0, 0)) := by rw [hWa]; exact heap_alloc_new W.drew _
      have hbWa : Below W.heap.size W Wa := by rw [hWa]; exact bel_al (bel_drewN (Below.refl _ _) 1) _
      have hvWa : ∀ j u, [Value.int .i64 e1, Value.int .i64 e2][j]? = some u → Wa.cell? ⟨vb, j, none⟩ = some u := fun j u hj => by
        rw [(hvb.keep hbWa).cell]
        match j, hj with
        | 0, hj => exact hj
        | 1, hj => exact hj
      obtain ⟨curA, hcA⟩ : ∃ curA : Array Value, curA = (ROW.toList.take (i * 2) ++ [Value.int .i64 e1, Value.int .i64 e2] ++ ROW.toList.drop (i * 2 + 2)).toArray := ⟨_, rfl⟩
      obtain ⟨W1, hW1⟩ : ∃ W1, W1 = Wa.setRow W.heap.size curA := ⟨_, rfl⟩
      have hgW1 : W1.heap[W.heap.size]? = some (.cells curA 53 (0, 0)) := by rw [hW1]; exact setRow_heap Wa _ ROW curA _ _ hgWa
      have hbW1 : Below W.heap.size W W1 := by rw [hW1]; exact hbWa.trans ⟨rfl, rfl, rfl, (grownBy_setRow Wa W.heap.size curA).size, fun q hq => setRow_other Wa W.heap.size q curA (by omega)⟩
      have hcpA : ∀ ty dc, (Builtin.copy_ #[28, 28] ty #[.slice (some ⟨W.heap.size, i * 2, none⟩) (cap + 1 - i) dc, .slice (some ⟨vb, 0, none⟩) 1 1]).run Tryz.prog Wa = .ok (goInt (Nat.min 1 (cap + 1 - i))) W1 := fun ty dc => by
        rw [hW1, hcA]
        exact run_copy_rowS 2 Wa _ _ ty 53 W.heap.size (i * 2) _ dc ⟨vb, 0, none⟩ _ 1 ROW _ [Value.int .i64 e1, Value.int .i64 e2] Tryz.underlying28 hsz hgWa (by rw [show Nat.min 1 (cap + 1 - i) = 1 from Nat.min_eq_left (by omega)]; rfl) (fun j u hj => by rw [Addr.add_lit, Nat.zero_add]; exact hvWa j u hj) (by rw [hRs]; simp only [List.length_cons, List.length_nil]; omega) (by simp [Value.oneCell'])
      have hsA : curA.size = G * 2 := by
        rw [hcA, List.size_toArray]
        simp only [List.length_append, List.length_take, List.length_drop, List.length_cons, List.length_nil, Array.length_toList, hRs]
        omega
      obtain ⟨curB, hcB⟩ : ∃ curB : Array Value, curB = (curA.toList.take ((i + 1) * 2) ++ Y ++ curA.toList.drop ((i + 1) * 2 + Y.length)).toArray := ⟨_, rfl⟩
      obtain ⟨W2, hW2⟩ : ∃ W2, W2 = W1.drew.setRow W.heap.size curB := ⟨_, rfl⟩
      have hgW2 : W2.heap[W.heap.size]? = some (.cells curB 53 (0, 0)) := by rw [hW2]; exact setRow_heap W1.drew _ curA curB _ _ hgW1
      have hbW2 : Below W.heap.size W W2 := by rw [hW2]; exact hbW1.trans ⟨rfl, rfl, rfl, (grownBy_setRow W1.drew W.heap.size curB).size, fun q hq => setRow_other W1.drew W.heap.size q curB (by omega)⟩
      have hcpB : ∀ ty dc sc, (Builtin.copy_ #[28, 28] ty #[.slice (some ⟨W.heap.size, (i + 1) * 2, none⟩) (cap - i) dc, .slice (some ⟨g, i * 2, none⟩) (cap - i) sc]).run Tryz.prog W1.drew = .ok (goInt (Nat.min (cap - i) (cap - i))) W2 := fun ty dc sc => by
        rw [hW2, hcB]
        exact run_copy_rowS 2 W1.drew _ _ ty 53 W.heap.size ((i + 1) * 2) _ dc ⟨g, i * 2, none⟩ _ sc curA _ Y Tryz.underlying28 hsz hgW1 (by rw [hY, show Nat.min (cap - i) (cap - i) = cap - i from Nat.min_self _]) (fun j u hj => by rw [Addr.add_lit]; exact (hbW1.cell (p := ⟨g, i * 2 + j, none⟩) hgw).trans (hsY j u hj)) (by rw [hsA, hY]; omega) hY1
      have hsB : curB.size = G * 2 := by
        rw [hcB, List.size_toArray]
        simp only [List.length_append, List.length_take, List.length_drop, Array.length_toList, hsA, hY]
        omega
      obtain ⟨Tl, hTl⟩ := splice_fresh X [Value.int .i64 e1, Value.int .i64 e2] Y RR (by simp only [List.length_cons, List.length_nil, hY, hRRl]; omega)
      have hi2 : (i + 1) * 2 = X.length + 2 := by omega
      have hfB : curB.toList = X ++ [Value.int .i64 e1, Value.int .i64 e2] ++ Y ++ Tl := by
        rw [hcB, hcA, List.toList_toArray, List.toList_toArray, hRR, hi2, ← hX]
        exact hTl
      have HFin := Lib.hid (show W2.ownsRow B 53 2 (.slice (some ⟨W.heap.size, 0, none⟩) (cap + 1) G) (cap + 1) (Rk.cells (insE R i (e1, e2))) ∧ Gr W W2 (.slice (some ⟨g, 0, none⟩) cap cap) (.slice (some ⟨W.heap.size, 0, none⟩) (cap + 1) G) from by
        refine ⟨⟨by rw [Rk.cells_length, ins_len, hn], .inr ⟨W.heap.size, G, curB, rfl, hBW, hgW2, hGn, hGm, hsB, ?_⟩⟩, Gr.of_new hbW2 _ (fun q hq => Nat.le_of_eq (show W.heap.size = q by simpa [Value.ownBlock] using hq))⟩
        rw [hfB, cells_ins, ← hXe, ← hYe]
        exact List.take_left' (by simp only [List.length_append, List.length_cons, List.length_nil, hX, hY]; omega))
      have hw1 : IntKind.i64.wrap ((i : Int) + 1) = (i : Int) + 1 := by rw [IntKind.wrap_i64]; omega
      have hw2 : IntKind.i64.wrap ((cap : Int) + 1) = (cap : Int) + 1 := by rw [IntKind.wrap_i64]; omega
      have hw3 : IntKind.i64.wrap ((cap : Int) + 1 - (i : Int)) = (cap : Int) + 1 - (i : Int) := by rw [IntKind.wrap_i64]; omega
      have htn : ((i : Int) + 1).toNat = i + 1 := by omega
      have hb1 : (0 : Int) ≤ (i : Int) + 1 := by omega
      have hb2 : ¬ (G = i + 1) := by omega
      have hb3 : (i : Int) ≤ (cap : Int) + 1 := by omega
      have hb4 : ¬ (G = i) := by omega
      have hb5 : ¬ (cap = i) := by omega
      have hb6 : (i : Int) + 1 ≤ (cap : Int) + 1 := by omega
      have hb7 : (i : Int) ≤ (cap : Int) := by omega
      have hb8 : ¬ (i = cap) := by omega
      have hb9 : (cap : Int) + 1 ≤ (G : Int) := by omega
      clear hown hvb hg hcs htk hown2 hsl hsY hcl hX hY hYe hXe hY1 hXs hi0 hz0 hzs hzb hik hk hG hROW hWa hold hRs hRR hRRl hgWa hbWa hvWa hcA hW1 hgW1 hbW1 hsA hcB hW2 hgW2 hbW2 hsB hTl hi2 hfB
      go_enter Tryz.func80, Tryz.ntmps80
      go_wp2_with (first
        | (at_builtin; refine Lib.wpList_append_run _ rfl _ _ _ _ rfl _ _ rfl rfl _ _ (hrz _) ?_)
        | (at_builtin; refine wpList_copy_runI _ rfl _ _ 28 28 rfl _ _ rfl rfl (hcpA _ _) ?_))
      go_region_law (refine step_copy_runI rfl (.tmp 50) (.tmp 53) 28 28 rfl _ _ (by simp [Act.eval, Act.put]) (by simp [Act.eval, Act.put]) (hcpB _ _ _) ?_)
      all_goals go_wp2_with fail
      all_goals go_ret
      all_goals exact ⟨_, rfl, HFin.out.1, HFin.out.2.like rfl⟩
end Go.Proofs.YtapledphhfiimaaGreatDoor
/-
  slices.SortFunc of edges, by their order.
-/
namespace Go.Proofs.YtapledphhfiimaaGreatDoor
open Go.RowKit Go.Lib Go.Proofs
open Go.Sort hiding Below
attribute [local go_sem ↓] Go.wp_at_zero Go.wp_at_succ
set_option maxRecDepth 100000
set_option linter.unusedVariables false

def sortE_ren : Go.Shelf.Ren := ⟨fun | 6 => 58 | 14 => 82 | 15 => 83 | 20 => 112 | 21 => 113 | 22 => 114 | 23 => 115 | 24 => 116 | 25 => 117 | 26 => 118 | 27 => 119 | 28 => 120 | 29 => 121 | 46 => 142 | 47 => 143 | 48 => 144 | 49 => 145 | 50 => 146 | 57 => 169 | n => n, fun | 0 => 0 | 3 => 3 | 4 => 4 | 5 => 5 | 9 => 9 | 22 => 28 | 24 => 53 | 25 => 77 | 39 => 134 | 45 => 164 | 46 => 165 | 50 => 125 | 53 => 171 | 55 => 173 | 66 => 195 | 70 => 158 | 76 => 228 | 77 => 84 | n => n, fun | n => n⟩
theorem sortE_lays : Go.Proofs.SlLaysF0.n6 Tryz.prog sortE_ren := {
  mixed := by kernel_rfl
  f6 := ⟨Tryz.f58.name, by kernel_rfl, Tryz.func58.trans (congrArg some (by kernel_rfl))⟩
  f14 := ⟨Tryz.f82.name, by kernel_rfl, Tryz.func82.trans (congrArg some (by kernel_rfl))⟩
  f15 := Tryz.func83.trans (congrArg some (by kernel_rfl))
  f20 := ⟨Tryz.f112.name, by kernel_rfl, Tryz.func112.trans (congrArg some (by kernel_rfl))⟩
  f21 := ⟨Tryz.f113.name, by kernel_rfl, Tryz.func113.trans (congrArg some (by kernel_rfl))⟩
  f22 := ⟨Tryz.f114.name, by kernel_rfl, Tryz.func114.trans (congrArg some (by kernel_rfl))⟩
  f23 := ⟨Tryz.f115.name, by kernel_rfl, Tryz.func115.trans (congrArg some (by kernel_rfl))⟩
  f24 := ⟨Tryz.f116.name, by kernel_rfl, Tryz.func116.trans (congrArg some (by kernel_rfl))⟩
  f25 := ⟨Tryz.f117.name, by kernel_rfl, Tryz.func117.trans (congrArg some (by kernel_rfl))⟩
  f26 := ⟨Tryz.f118.name, by kernel_rfl, Tryz.func118.trans (congrArg some (by kernel_rfl))⟩
  f27 := ⟨Tryz.f119.name, by kernel_rfl, Tryz.func119.trans (congrArg some (by kernel_rfl))⟩
  f28 := Tryz.func120.trans (congrArg some (by kernel_rfl))
  f29 := Tryz.func121.trans (congrArg some (by kernel_rfl))
  f46 := ⟨Tryz.f142.name, by kernel_rfl, Tryz.func142.trans (congrArg some (by kernel_rfl))⟩
  f47 := Tryz.func143.trans (congrArg some (by kernel_rfl))
  f48 := Tryz.func144.trans (congrArg some (by kernel_rfl))
  f49 := ⟨Tryz.f145.name, by kernel_rfl, Tryz.func145.trans (congrArg some (by kernel_rfl))⟩
  f50 := ⟨Tryz.f146.name, by kernel_rfl, Tryz.func146.trans (congrArg some (by kernel_rfl))⟩
  f57 := ⟨Tryz.f169.name, by kernel_rfl, Tryz.func169.trans (congrArg some (by kernel_rfl))⟩
  t0 := Tryz.underlying0
  a0 := Tryz.isAgg0
  z0 := Tryz.sizeOf0
  v0 := Tryz.zeroValue0
  t3 := Tryz.underlying3
  a3 := Tryz.isAgg3
  z3 := Tryz.sizeOf3
  v3 := Tryz.zeroValue3
  t4 := Tryz.underlying4
  a4 := Tryz.isAgg4
  z4 := Tryz.sizeOf4
  v4 := Tryz.zeroValue4
  t5 := Tryz.underlying5
  a5 := Tryz.isAgg5
  z5 := Tryz.sizeOf5
  v5 := Tryz.zeroValue5
  t9 := Tryz.underlying9
  a9 := Tryz.isAgg9
  z9 := Tryz.sizeOf9
  v9 := Tryz.zeroValue9
  t22 := Tryz.underlying28
  a22 := Tryz.isAgg28
  z22 := Tryz.sizeOf28
  v22 := Tryz.zeroValue28
  t25 := Tryz.underlying77
  a25 := Tryz.isAgg77
  z25 := Tryz.sizeOf77
  v25 := Tryz.zeroValue77
  t39 := Tryz.underlying134
  a39 := Tryz.isAgg134
  z39 := Tryz.sizeOf134
  v39 := Tryz.zeroValue134
  t45 := Tryz.underlying164
  a45 := Tryz.isAgg164
  z45 := Tryz.sizeOf164
  v45 := Tryz.zeroValue164
  t46 := Tryz.underlying165
  a46 := Tryz.isAgg165
  z46 := Tryz.sizeOf165
  v46 := Tryz.zeroValue165
  t50 := Tryz.underlying125
  a50 := Tryz.isAgg125
  z50 := Tryz.sizeOf125
  v50 := Tryz.zeroValue125
  t53 := Tryz.underlying171
  a53 := Tryz.isAgg171
  z53 := Tryz.sizeOf171
  v53 := Tryz.zeroValue171
  t55 := Tryz.underlying173
  a55 := Tryz.isAgg173
  z55 := Tryz.sizeOf173
  v55 := Tryz.zeroValue173
  t66 := Tryz.underlying195
  a66 := Tryz.isAgg195
  z66 := Tryz.sizeOf195
  v66 := Tryz.zeroValue195
  t70 := Tryz.underlying158
  a70 := Tryz.isAgg158
  z70 := Tryz.sizeOf158
  v70 := Tryz.zeroValue158
  t76 := Tryz.underlying228
  a76 := Tryz.isAgg228
  z76 := Tryz.sizeOf228
  v76 := Tryz.zeroValue228
  t77 := Tryz.underlying84
  a77 := Tryz.isAgg84
  z77 := Tryz.sizeOf84
  v77 := Tryz.zeroValue84 }
/-- An edge's two cells. -/
def encE (e : Int × Int) : List Value := [.int .i64 e.1, .int .i64 e.2]
theorem cells_get : ∀ (E : List (Int × Int)) (j : Nat) (e : Int × Int), E[j]? = some e → (Rk.cells E)[j * 2]? = some (.int .i64 e.1) ∧ (Rk.cells E)[j * 2 + 1]? = some (.int .i64 e.2)
  | [], j, e, h => by simp at h
  | x :: r, 0, e, h => by
    simp only [List.getElem?_cons_zero, Option.some.injEq] at h
    subst h
    exact ⟨rfl, rfl⟩
  | x :: r, j + 1, e, h => by
    have ih := cells_get r j e (by simpa using h)
    have e1 : Rk.cells (x :: r) = .int .i64 x.1 :: .int .i64 x.2 :: Rk.cells r := rfl
    rw [e1, show (j + 1) * 2 = j * 2 + 1 + 1 by omega, List.getElem?_cons_succ, List.getElem?_cons_succ, List.getElem?_cons_succ, List.getElem?_cons_succ]
    exact ih
theorem cells_size : ∀ E : List (Int × Int), (Rk.cells E).length = E.length * 2
  | [] => rfl
  | x :: r => by
    have e1 : Rk.cells (x :: r) = .int .i64 x.1 :: .int .i64 x.2 :: Rk.cells r := rfl
    rw [e1, List.length_cons, List.length_cons, cells_size r, List.length_cons]
    omega
theorem flat_cells (E : List (Int × Int)) : flatK encE 2 E.toArray = (Rk.cells E).toArray := by
  refine ext_get! (by rw [size_flatK]; simp [cells_size]) fun t ht => ?_
  have ht' : t < E.length * 2 := by simpa using ht
  rw [get_flatK _ _ _ t (by simpa using ht')]
  obtain ⟨e, he⟩ : ∃ e, E[t / 2]? = some e := ⟨_, List.getElem?_eq_getElem (by omega)⟩
  obtain ⟨h1, h2⟩ := cells_get E (t / 2) e he
  have ea : E.toArray[t / 2]! = e := by
    rw [getElem!_def]
    simp [he]
  rw [ea]
  have hz := cells_size E
  rcases (show t % 2 = 0 ∨ t % 2 = 1 by omega) with h0 | h0
  · rw [show t / 2 * 2 = t by omega] at h1
    rw [h0, getElem!_def (Rk.cells E).toArray, List.getElem?_toArray, h1]
    rfl
  · rw [show t / 2 * 2 + 1 = t by omega] at h2
    rw [h0, getElem!_def (Rk.cells E).toArray, List.getElem?_toArray, h2]
    rfl
theorem holds_of_blockK {w : World} {g : Nat} {cur : Array Value} {e : TypeId} {xs : List Value} (hb : w.heap[g]? = some (.cells cur e (0, 0))) (ht : cur.toList.take xs.length = xs) : Holds id w g 0 xs.toArray := by
  intro j hj
  have hj' : j < xs.length := by simpa using hj
  refine ⟨?_, by simp [World.frozen?, hb]⟩
  have h1 : (cur.toList.take xs.length)[j]? = xs[j]? := by rw [ht]
  rw [List.getElem?_take_of_lt hj'] at h1
  simp only [World.cell?, hb, Nat.zero_add]
  simp only [Option.isSome_none, Bool.false_eq_true, if_false]
  rw [← Array.getElem?_toList, h1]
  simp [hj']
theorem heap_sortedK {w : World} {g n : Nat} {os : Array Obj} {cur : Array Value} {e : TypeId} {fr : Nat × Nat} (d : Array Value) (hb : w.heap[g]? = some (.cells cur e fr)) :
    (grow (putRow id (Sort.ahead w n) g 0 d) os).heap[g]? = some (.cells (putCells id 0 d cur) e fr) := by
  have hg : g < w.heap.size := (Array.getElem?_eq_some_iff.1 hb).1
  rw [heap_grow_old _ _ (by simpa using hg)]
  simp [putRow, mapBlock, Sort.ahead, Array.getElem?_modify, hb, onCells]
theorem grownBy_sortedK {w : World} {g n : Nat} {os : Array Obj} (d : Array Value) : w.grownBy (grow (putRow id (Sort.ahead w n) g 0 d) os) (some g) := by
  refine ⟨rfl, rfl, rfl, by simp, fun k hk hne => ?_⟩
  rw [heap_grow_old _ _ (by simpa using hk)]
  have : g ≠ k := fun e => hne (by rw [e])
  simp [putRow, mapBlock, Sort.ahead, Array.getElem?_modify, this]
theorem take_putCellsK (cur : Array Value) (ts : List Value) (h : ts.length ≤ cur.size) : (putCells id 0 ts.toArray cur).toList.take ts.length = ts := by
  apply List.ext_getElem?
  intro j
  by_cases hj : j < ts.length
  · rw [List.getElem?_take_of_lt hj, Array.getElem?_toList]
    simp [putCells, hj, show j < cur.size by omega]
  · rw [List.getElem?_take_eq_none (by omega), List.getElem?_eq_none (by omega)]
theorem ltE_swo : SWO (ltOf Pt.ordE) where
  irrefl x := by
    unfold ltOf
    rw [Pt.cp_edge.self x]
    decide
  trans x y z h1 h2 := by
    unfold ltOf at *
    simp only [decide_eq_true_eq] at *
    exact Pt.cp_edge.lt h1 (by omega)
  ntrans x y z h1 h2 := by
    unfold ltOf at *
    simp only [decide_eq_false_iff_not] at *
    have e1 := Pt.cp_edge.anti x y
    have e2 := Pt.cp_edge.anti y z
    have e3 := Pt.cp_edge.anti x z
    have := Pt.cp_edge.trans z y x (by omega) (by omega)
    omega
set_option maxHeartbeats 4000000 in
theorem order_exact (a b : Int × Int) (w : World) : Calls Tryz.prog 37 #[ev a, ev b] w fun e w' => e = .returned (.int .i64 (Pt.ordE a b)) ∧ ∃ q os', w' = grow (w.drewN q) os' := by
  obtain ⟨a1, a2⟩ := a
  obtain ⟨b1, b2⟩ := b
  have HO := Lib.hid (ordE_or (a1, a2) (b1, b2))
  simp only at HO
  unfold ev
  simp only
  go_enter Tryz.func37, Tryz.ntmps37
  go_wp2_with fail
  go_region_held3 (fun w' => w'.cell? ⟨w.heap.size, 0, none⟩ = some (.int .i64 a1) ∧ w'.cell? ⟨w.heap.size, 1, none⟩ = some (.int .i64 a2) ∧ w'.cell? ⟨w.heap.size + 1, 0, none⟩ = some (.int .i64 b1) ∧ w'.cell? ⟨w.heap.size + 1, 1, none⟩ = some (.int .i64 b2)) (go_keep)
    (first
      | (go_at_call 62; refine (CmpI_any _ _ _).mono ?_; rintro e w' ⟨rfl, rfl⟩)
      | (go_at_call 61; refine (Or_two (cmpI a1 b1) (cmpI a2 b2) (w.heap.size + 1 + 1) 2 _ (by rw [cell_drew, cell_new _ _ _ _ _ (by simp)]; rfl) (by rw [cell_drew, cell_new _ _ _ _ _ (by simp)]; rfl)).mono ?_; rintro e w' ⟨rfl, rfl⟩))
  all_goals go_wp2_with fail
  all_goals go_ret
  all_goals exact ⟨ret_int HO.out, 1, _, by rw [alloc_eq_grow, alloc_eq_grow, alloc_eq_grow, grow_grow, grow_grow]; rfl⟩
theorem order_lays (blk off size : Nat) (w : World) : CmpLays Tryz.prog 37 #[] encE 2 Pt.ordE blk off size w := fun _ _ _ _ x y => order_exact x y _
/-- slices.SortFunc of a row of edges of the call's own: a row that rises, of the same edges. -/
theorem SortE_any (E : List (Int × Int)) (g n c Bs : Nat) (w : World) (hn : n ≤ 1000000) (hl : E.length = n) (hrow : w.ownsRow Bs 53 2 (.slice (some ⟨g, 0, none⟩) n c) n (Rk.cells E)) (hB : Bs ≤ w.heap.size) :
    Calls Tryz.prog 58 #[.slice (some ⟨g, 0, none⟩) n c, .func (.func 37) #[] #[]] w fun e w' => e = .returned (.tuple #[]) ∧ ∃ d' : Array (Int × Int), PermIn 0 n E.toArray d' ∧ SortedIn (ltOf Pt.ordE) 0 n d' ∧ w'.ownsRow Bs 53 2 (.slice (some ⟨g, 0, none⟩) n c) n (Rk.cells d'.toList) ∧ Below Bs w w' := by
  rcases hrow.2 with ⟨h0, _⟩ | ⟨g', cap', cur, hv, hbase, hgb, r1, r2, r3, r4⟩
  · cases h0
  cases hv
  have hz : E.toArray.size = n := by simpa using hl
  have hH : HoldsK encE 2 w g 0 E.toArray := by
    unfold HoldsK
    rw [flat_cells]
    exact holds_of_blockK hgb (by rw [cells_size, hl]; exact r4)
  have hglt : g < w.heap.size := (Array.getElem?_eq_some_iff.1 hgb).1
  have hs := AnyQ.slices_SortFunc sortE_lays 2 Tryz.isAgg53 Tryz.sizeOf53 encE (fun _ => rfl) (fun x v hv => by simp [encE] at hv; rcases hv with rfl | rfl <;> rfl) Pt.ordE ltE_swo 37 #[] g 0 c E.toArray w (enters_of Tryz.func37 (by kernel_rfl) rfl) (order_lays g 0 E.toArray.size w) hH hglt (by rw [hz]; omega)
  rw [hz] at hs
  refine hs.mono ?_
  rintro e w' ⟨rfl, d', q, os, hp, hso, rfl⟩
  have hd : d'.size = n := by rw [← hz]; exact hp.1
  have hd2 : d'.toList.length = n := by simpa using hd
  have hf : flatK encE 2 d' = (Rk.cells d'.toList).toArray := by
    have := flat_cells d'.toList
    simpa using this
  have hcz := cells_size d'.toList
  rw [hd2] at hcz
  unfold sortWorldK putRowK
  rw [hf]
  refine ⟨rfl, d', hp, hso, ⟨hcz, .inr ⟨g, c, _, rfl, hbase, heap_sortedK _ hgb, r1, r2, by simp [putCells, r3], ?_⟩⟩, (Below.refl Bs w).grown (grownBy_sortedK _) hB (fun j hj => by cases hj; exact hbase)⟩
  have := take_putCellsK cur (Rk.cells d'.toList) (by rw [hcz, r3]; exact Nat.mul_le_mul_right _ r1)
  rw [hcz] at this
  exact this
end Go.Proofs.YtapledphhfiimaaGreatDoor
