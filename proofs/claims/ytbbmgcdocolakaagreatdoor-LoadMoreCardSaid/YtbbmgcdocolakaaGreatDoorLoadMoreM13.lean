/-
  Part 13 of the proof of LoadMore: RdU, PatU, PtD, SrtF, GrA, GrP, GrN.
-/
import Derived.Test.YtbbmgcdocolakaaGreatDoorLoadMoreM12
import Derived.BigQuiet
import Derived.Deep.RegionHeld3
import Derived.Deep.DeepCutAuto
import Derived.Shelf.SlSortCmp.NoneTotal
import Derived.Deep.RegionHeldLaw
import Derived.Test.YtbbmgcdocolakaaGreatDoorLoadMoreM8
import Derived.Test.YtbbmgcdocolakaaGreatDoorLoadMoreM9
import Derived.Test.YtbbmgcdocolakaaGreatDoorLoadMoreM10
set_option linter.unusedVariables false
/-
  The reader's List in one word; numbers by twos.
-/
namespace Go.Proofs.YtbbmgcdocolakaaGreatDoor
open Go.RowKit
set_option maxRecDepth 100000
set_option linter.unusedVariables false

/-- List, whatever the bytes are, in one word. -/
theorem List_uni (g B : Nat) (A : Option Addr) (n c a most : Nat) (E : Err) (l : List Int) (w : World) (hR : Rd w B g A n c a E) (hE : E = .nil ∨ rdBad E) (hn : n ≤ 1099511627776) (hnc : n ≤ c) (hc9 : c ≤ 9223372036854775807) (hl : l.length = n) (hb : Bys l) (hB : ∀ w', Below B w w' → Sl w' 1 A n (l.map (Value.int .u8))) :
    Calls Tryz.prog 71 #[.pointer (some ⟨g, 0, none⟩), .int .i64 (most : Int)] w fun e w' => ∃ v xs a' E', e = .returned v ∧ w'.ownsRow w.heap.size 3 1 v xs.length (xs.map (Value.int .i64)) ∧ Below B w w' ∧ Asd g w w' ∧ Rd w' B g A n c a' E' ∧ (E' = .nil ∨ rdBad E') ∧ (E' = .nil → E = .nil ∧ okAt l a most ∧ xs = lst l a ∧ a' = nxtA l a) ∧ (E = .nil → okAt l a most → E' = .nil) := by
  refine (List_rd g B A n c a most E l w hR hE hn hnc hc9 hl hb hB).mono fun e w' ⟨v, xs, h1, h2, h3, h4, h5⟩ => ?_
  rcases h5 with ⟨k1, k2, k3, k4⟩ | ⟨k1, k2, a', E', k3, k4⟩
  · exact ⟨v, xs, _, .nil, h1, h2, h3, h4, k4, .inl rfl, fun _ => ⟨k1, k2, k3, rfl⟩, fun _ _ => rfl⟩
  · exact ⟨v, xs, a', E', h1, h2, h3, h4, k4, .inr k3, fun e => absurd e k3.ne, fun e1 e2 => absurd e2 (k2 e1)⟩
theorem lst_fits {l : List Int} (hb : Bys l) (a : Nat) : ∀ x ∈ lst l a, fits x := by
  unfold lst
  generalize wordN (l.drop a) = N
  have hb2 := hb.drop (a + 4)
  generalize l.drop (a + 4) = r at hb2 ⊢
  induction N with
  | zero => intro x hx; simp [wordsL] at hx
  | succ N ih =>
    intro x hx
    rw [wordsL] at hx
    rcases List.mem_append.1 hx with h | h
    · exact ih x h
    · rw [List.mem_singleton.1 h]
      have := wordN_lt (hb2.drop (4 * N))
      unfold fits
      omega
theorem pairs_take {xs : List Int} {j : Nat} {x y : Int} (hx : xs[2 * j]? = some x) (hy : xs[2 * j + 1]? = some y) : (pairsL xs)[j]? = some (x, y) := by
  induction j generalizing xs with
  | zero =>
    match xs, hx, hy with
    | a :: b :: r, hx, hy =>
      cases hx
      cases hy
      rfl
  | succ j ih =>
    match xs, hx, hy with
    | a :: b :: r, hx, hy =>
      rw [pairsL, List.getElem?_cons_succ]
      refine ih ?_ ?_
      · rw [show 2 * (j + 1) = 2 * j + 1 + 1 by omega] at hx
        simpa using hx
      · rw [show 2 * (j + 1) + 1 = 2 * j + 1 + 1 + 1 by omega] at hy
        simpa using hy
theorem Sl.newE (w : World) (x y : Value) (e : TypeId) : Sl (w.alloc (.cells #[x, y] e)) 2 (some ⟨w.heap.size, 0, none⟩) 1 [x, y] :=
  ⟨rfl, fun _ => ⟨_, _, rfl, fun j u hu => by rw [Nat.zero_add, World.cell?_alloc_new]; simpa using hu⟩⟩
end Go.Proofs.YtbbmgcdocolakaaGreatDoor
/-
  pat.Of: of any bytes.
-/
namespace Go.Proofs.YtbbmgcdocolakaaGreatDoor
open Go.RowKit
set_option maxRecDepth 100000
set_option linter.unusedVariables false

section
variable {w w' : World} {R : Nat} {cs : Array Value}
end
/-- What Of answers. -/
def OfRes (l : List Int) (w : World) (e : Ending) (w' : World) : Prop :=
  Below w.heap.size w w' ∧ ((∃ (A : Option Addr) (n c : Nat) (B : Option Addr) (m d : Nat) (L : List Int) (E : List (Int × Int)), e = .returned (.tuple #[pv A n c B m d, .nilIface]) ∧ rightP L E ∧ L.length = n ∧ Sl w' 1 A n (L.map (Value.int .i64)) ∧ Sl w' 2 B m (Rk.cells E) ∧ bytesP L E = l ∧ n ≤ c ∧ c ≤ 9223372036854775807) ∨
    (∃ (Er : Err) (T : TypeId) (x : Value), e = .returned (.tuple #[pv none 0 0 none 0 0, .iface T x]) ∧ Er.At w' (.iface T x) ∧ 0 < Er.code ∧ ∀ L E, rightP L E → bytesP L E ≠ l))

end Go.Proofs.YtbbmgcdocolakaaGreatDoor
/-
  pat.Turn: a right pattern, turned by an order.
-/
namespace Go.Proofs.YtbbmgcdocolakaaGreatDoor
open Go.RowKit Go.Lib Go.Proofs
open Go.Sort hiding Below
attribute [local go_sem ↓] Go.wp_at_zero Go.wp_at_succ
set_option maxRecDepth 100000
set_option linter.unusedVariables false

/-- Two rows of which one is the other in some order. -/
theorem perm_of_permIn {n : Nat} {E : List (Int × Int)} {d : Array (Int × Int)} (hn : E.length = n) (h : PermIn 0 n E.toArray d) : d.toList.Perm E := by
  obtain ⟨hsz, _, hp⟩ := h
  have hs : d.size = n := by rw [hsz]; simpa using hn
  rw [show d.extract 0 n = d from by rw [← hs]; exact Array.extract_size, show E.toArray.extract 0 n = E.toArray from by rw [← hn, ← List.size_toArray]; exact Array.extract_size] at hp
  exact hp
theorem rise_of_sorted {n : Nat} {d : Array (Int × Int)} (hn : d.size = n) (hd : d.toList.Nodup) (h : SortedIn (ltOf Pt.ordE) 0 n d) : Pt.Rise d.toList := by
  rw [Pt.Rise, List.pairwise_iff_getElem]
  intro i j hi hj hij
  have hi' : i < d.size := by simpa using hi
  have hj' : j < d.size := by simpa using hj
  have h1 := h i j (Nat.zero_le _) hij (by omega)
  have ea : d[i]! = d.toList[i] := by rw [getElem!_pos d i hi']; simp
  have eb : d[j]! = d.toList[j] := by rw [getElem!_pos d j hj']; simp
  rw [ea, eb] at h1
  unfold ltOf at h1
  simp only [decide_eq_false_iff_not] at h1
  have h2 := Pt.cp_edge.anti d.toList[i] d.toList[j]
  have h3 : Pt.ordE d.toList[i] d.toList[j] ≠ 0 := fun e => by
    have e2 := Pt.ordE_zero e
    exact List.pairwise_iff_getElem.1 hd i j hi hj hij e2
  omega
theorem map_take_succE {α β : Type} (f : α → β) (l : List α) (k : Nat) (x : α) (h : l[k]? = some x) : (l.take (k + 1)).map f = (l.take k).map f ++ [f x] := by
  obtain ⟨h1, h2⟩ := List.getElem?_eq_some_iff.1 h
  rw [List.take_succ_eq_append_getElem h1, List.map_append, h2]
  rfl
theorem nodup_map {u : List Int} {E : List (Int × Int)} (hu : Ord u) (hE : ∀ e ∈ E, Pt.EdgeOK u.length e) (hd : E.Nodup) : (E.map (Pt.mapE u)).Nodup := by
  rw [List.Nodup, List.pairwise_map]
  exact List.Pairwise.imp_of_mem (fun ha hb hne h => hne (Pt.mapE_inj hu (hE _ ha) (hE _ hb) h)) hd
theorem rise_nodup {E : List (Int × Int)} (h : Pt.Rise E) : E.Nodup :=
  List.Pairwise.imp (fun {a b} hab e => by subst e; have := Pt.cp_edge.self a; omega) h

end Go.Proofs.YtbbmgcdocolakaaGreatDoor
/-
  slices.SortFunc of edges: what it leaves as it is.
-/
namespace Go.Proofs.YtbbmgcdocolakaaGreatDoor
open Go.RowKit Go.Lib Go.Proofs
open Go.Sort hiding Below
set_option maxRecDepth 100000
set_option linter.unusedVariables false

end Go.Proofs.YtbbmgcdocolakaaGreatDoor
/-
  Graphs: turned, order, and slices.SortFunc of edges by it.
-/
namespace Go.Proofs.YtbbmgcdocolakaaGreatDoor
open Go.RowKit Go.Lib Go.Proofs
open Go.Sort hiding Below
attribute [local go_sem ↓] Go.wp_at_zero Go.wp_at_succ
set_option maxRecDepth 100000
set_option linter.unusedVariables false

theorem gturned_any (a b : Int) (w : World) : Calls Tryz.prog 59 #[.agg #[.int .i64 a, .int .i64 b]] w fun e w' => e = .returned (ev (turnE (a, b))) ∧ Below w.heap.size w w' := by
  rcases Int.lt_trichotomy a b with h | h | h
  · have h1 : ¬ b < a := by omega
    have h2 : ¬ b ≤ a := by omega
    have h3 : a ≤ b := by omega
    have hmn : min a b = a := by omega
    have hmx : max a b = b := by omega
    have HT := Lib.hid (show turnE (a, b) = (a, b) by unfold turnE; rw [if_pos (by simp only; omega)])
    have HB := Lib.hid (bel_al (bel_al (Below.refl w.heap.size w) (.cells #[.int .i64 a, .int .i64 b] 76)) (.cells #[.int .i64 a, .int .i64 b] 76))
    go_enter Tryz.func59, Tryz.ntmps59
    go_wp2_with fail
    refine bodyPost_ret (v := .agg #[.int .i64 a, .int .i64 b]) (by simp [results, Tryz.results59, go_sem]) rfl ?_
    exact ⟨by rw [HT.out]; rfl, HB.out⟩
  · subst h
    have h1 : ¬ a < a := by omega
    have h2 : a ≤ a := by omega
    have HT := Lib.hid (show turnE (a, a) = (a, a) by unfold turnE; rw [if_pos (by simp only; omega)])
    have HB := Lib.hid (bel_al (bel_al (Below.refl w.heap.size w) (.cells #[.int .i64 a, .int .i64 a] 76)) (.cells #[.int .i64 a, .int .i64 a] 76))
    go_enter Tryz.func59, Tryz.ntmps59
    go_wp2_with fail
    refine bodyPost_ret (v := .agg #[.int .i64 a, .int .i64 a]) (by simp [results, Tryz.results59, go_sem]) rfl ?_
    exact ⟨by rw [HT.out]; rfl, HB.out⟩
  · have h1 : ¬ a < b := by omega
    have h2 : ¬ a ≤ b := by omega
    have h3 : b ≤ a := by omega
    have hmn : min a b = b := by omega
    have hmx : max a b = a := by omega
    have HT := Lib.hid (show turnE (a, b) = (b, a) by unfold turnE; rw [if_neg (by simp only; omega)])
    have HB := Lib.hid (bel_al (bel_al (Below.refl w.heap.size w) (.cells #[.int .i64 a, .int .i64 b] 76)) (.cells #[.int .i64 b, .int .i64 a] 76))
    go_enter Tryz.func59, Tryz.ntmps59
    go_wp2_with fail
    refine bodyPost_ret (v := .agg #[.int .i64 b, .int .i64 a]) (by simp [results, Tryz.results59, go_sem]) rfl ?_
    exact ⟨by rw [HT.out]; rfl, HB.out⟩

set_option maxHeartbeats 4000000 in
theorem gorder_exact (a b : Int × Int) (w : World) : Calls Tryz.prog 61 #[ev a, ev b] w fun e w' => e = .returned (.int .i64 (Pt.ordE a b)) ∧ ∃ q os', w' = grow (w.drewN q) os' := by
  obtain ⟨a1, a2⟩ := a
  obtain ⟨b1, b2⟩ := b
  have HO := Lib.hid (ordE_or (a1, a2) (b1, b2))
  simp only at HO
  unfold ev
  simp only
  go_enter Tryz.func61, Tryz.ntmps61
  go_wp2_with fail
  go_region_held3 (fun w' => w'.cell? ⟨w.heap.size, 0, none⟩ = some (.int .i64 a1) ∧ w'.cell? ⟨w.heap.size, 1, none⟩ = some (.int .i64 a2) ∧ w'.cell? ⟨w.heap.size + 1, 0, none⟩ = some (.int .i64 b1) ∧ w'.cell? ⟨w.heap.size + 1, 1, none⟩ = some (.int .i64 b2)) (go_keep)
    (first
      | (go_at_call 85; refine (CmpI_any _ _ _).mono ?_; rintro e w' ⟨rfl, rfl⟩)
      | (go_at_call 84; refine (Or_two (cmpI a1 b1) (cmpI a2 b2) (w.heap.size + 1 + 1) 2 _ (by rw [cell_drew, cell_new _ _ _ _ _ (by simp)]; rfl) (by rw [cell_drew, cell_new _ _ _ _ _ (by simp)]; rfl)).mono ?_; rintro e w' ⟨rfl, rfl⟩))
  all_goals go_wp2_with fail
  all_goals go_ret
  all_goals exact ⟨ret_int HO.out, 1, _, by rw [alloc_eq_grow, alloc_eq_grow, alloc_eq_grow, grow_grow, grow_grow]; rfl⟩
theorem gorder_lays (blk off size : Nat) (w : World) : CmpLays Tryz.prog 61 #[] encE 2 Pt.ordE blk off size w := fun _ _ _ _ x y => gorder_exact x y _
theorem SortG_gr (E : List (Int × Int)) (v : Value) (n Bs : Nat) (w : World) (hn : n ≤ 1000000) (hl : E.length = n) (hd : E.Nodup) (hrow : w.ownsRow Bs 76 2 v n (Rk.cells E)) (hB : Bs ≤ w.heap.size) :
    Calls Tryz.prog 60 #[v, .func (.func 61) #[] #[]] w fun e w' => e = .returned (.tuple #[]) ∧ ∃ E', E'.Perm E ∧ Pt.Rise E' ∧ w'.ownsRow Bs 76 2 v n (Rk.cells E') ∧ w.grownBy w' v.ownBlock := by
  obtain ⟨A, c, rfl, _⟩ := Sl.own hrow
  by_cases h0 : n = 0
  · subst h0
    obtain rfl : E = [] := List.length_eq_zero_iff.1 hl
    refine (AnyF.slices_SortFunc_none sortE_lays A c _ w).mono ?_
    rintro e w' ⟨rfl, rfl⟩
    exact ⟨rfl, [], .refl _, List.Pairwise.nil, hrow, gb_refl _ _⟩
  · rcases hrow.2 with ⟨h1, _⟩ | ⟨g, cap', cur, hv, hbase, hgb, r1, r2, r3, r4⟩
    · injection h1 with _ h2
      exact absurd h2 h0
    cases hv
    have hz : E.toArray.size = n := by simpa using hl
    have hH : HoldsK encE 2 w g 0 E.toArray := by
      unfold HoldsK
      rw [flat_cells]
      exact holds_of_blockK hgb (by rw [cells_size, hl]; exact r4)
    have hglt : g < w.heap.size := (Array.getElem?_eq_some_iff.1 hgb).1
    have hs := AnyQ.slices_SortFunc sortE_lays 2 Tryz.isAgg76 Tryz.sizeOf76 encE (fun _ => rfl) (fun x v hv => by simp [encE] at hv; rcases hv with rfl | rfl <;> rfl) Pt.ordE ltE_swo 61 #[] g 0 c E.toArray w (enters_of Tryz.func61 (by kernel_rfl) rfl) (gorder_lays g 0 E.toArray.size w) hH hglt (by rw [hz]; omega)
    rw [hz] at hs
    refine hs.mono ?_
    rintro e w' ⟨rfl, d', q, os, hp, hso, rfl⟩
    have hd0 : d'.size = n := by rw [← hz]; exact hp.1
    have hd2 : d'.toList.length = n := by simpa using hd0
    have hf : flatK encE 2 d' = (Rk.cells d'.toList).toArray := by
      have := flat_cells d'.toList
      simpa using this
    have hcz := cells_size d'.toList
    rw [hd2] at hcz
    have hpm := perm_of_permIn hl hp
    unfold sortWorldK putRowK
    rw [hf]
    refine ⟨rfl, d'.toList, hpm, rise_of_sorted hd0 (hpm.nodup_iff.2 hd) hso, ⟨hcz, .inr ⟨g, c, _, rfl, hbase, heap_sortedK _ hgb, r1, r2, by simp [putCells, r3], ?_⟩⟩, grownBy_sortedK _⟩
    have := take_putCellsK cur (Rk.cells d'.toList) (by rw [hcz, r3]; exact Nat.mul_le_mul_right _ r1)
    rw [hcz] at this
    exact this
end Go.Proofs.YtbbmgcdocolakaaGreatDoor
/-
  Graphs, plainly: tables by number; the rows of what is beside each vertex, counted.
-/
namespace Go.Proofs.YtbbmgcdocolakaaGreatDoor
open Go.RowKit
set_option linter.unusedVariables false
namespace Gh
/-- A table of N numbers. -/
def tab (N : Nat) (f : Nat → Int) : List Int := (List.range N).map f
theorem tab_len (N : Nat) (f : Nat → Int) : (tab N f).length = N := by simp [tab]
theorem tab_get {N : Nat} (f : Nat → Int) {i : Nat} (h : i < N) : (tab N f)[i]? = some (f i) := by simp [tab, h]
theorem tab_congr {N : Nat} {f g : Nat → Int} (h : ∀ i, i < N → f i = g i) : tab N f = tab N g := by
  unfold tab
  exact List.map_congr_left fun i hi => h i (List.mem_range.1 hi)
theorem tab_set {N : Nat} (f : Nat → Int) (i : Nat) (x : Int) : (tab N f).set i x = tab N (fun j => if j = i then x else f j) := by
  apply List.ext_getElem?
  intro j
  rw [List.getElem?_set]
  by_cases hj : j < N
  · rw [tab_get _ hj, tab_get _ hj, tab_len]
    by_cases hij : i = j
    · subst hij
      simp [hj]
    · rw [if_neg hij]
      simp [show ¬ j = i from fun h => hij h.symm]
  · have h1 : (tab N f)[j]? = none := List.getElem?_eq_none (by rw [tab_len]; omega)
    have h2 : (tab N (fun j => if j = i then x else f j))[j]? = none := List.getElem?_eq_none (by rw [tab_len]; omega)
    rw [h1, h2, tab_len]
    by_cases hij : i = j
    · subst hij
      simp [hj]
    · rw [if_neg hij]
theorem tab_zero (N : Nat) : tab N (fun _ => 0) = List.replicate N 0 := by
  apply List.ext_getElem?
  intro j
  by_cases hj : j < N
  · rw [tab_get _ hj, List.getElem?_replicate, if_pos hj]
  · rw [List.getElem?_eq_none (by rw [tab_len]; omega), List.getElem?_eq_none (by rw [List.length_replicate]; omega)]

theorem deg_snoc (G : List (Int × Int)) (e : Int × Int) (v : Int) : Pt.deg (G ++ [e]) v = Pt.deg G v + if e.1 = v ∨ e.2 = v then 1 else 0 := by
  unfold Pt.deg
  rw [List.filter_append, List.length_append]
  by_cases h : e.1 = v ∨ e.2 = v
  · rw [List.filter_cons_of_pos (by simpa using h), if_pos h]; rfl
  · rw [List.filter_cons_of_neg (by simpa using h), if_neg h]; rfl
/-- How often each vertex stands in some edges, one place on. -/
def cntF (G : List (Int × Int)) (i : Nat) : Int := if i = 0 then 0 else (Pt.deg G ((i - 1 : Nat) : Int) : Nat)
theorem cnt_nil (n : Nat) : tab (n + 1) (cntF []) = List.replicate (n + 1) 0 := by
  rw [← tab_zero]
  refine tab_congr fun i _ => ?_
  unfold cntF
  split <;> rfl
theorem cnt_step (G : List (Int × Int)) (n a b : Nat) (hab : a < b) :
    ((tab (n + 1) (cntF G)).set (a + 1) (cntF G (a + 1) + 1)).set (b + 1) (cntF G (b + 1) + 1) = tab (n + 1) (cntF (G ++ [(((a : Nat) : Int), ((b : Nat) : Int))])) := by
  rw [tab_set, tab_set]
  refine tab_congr fun i _ => ?_
  rcases i with _ | i
  · rfl
  · unfold cntF
    simp only [Nat.add_sub_cancel, Nat.succ_ne_zero, if_false, Nat.add_right_cancel_iff]
    rw [deg_snoc]
    by_cases h1 : i = b
    · subst h1
      simp
    · by_cases h2 : i = a
      · subst h2
        simp [h1]
      · rw [if_neg h1, if_neg h2, if_neg (by simp only; omega)]
        simp
/-- The sums so far. -/
def psF (G : List (Int × Int)) (v i : Nat) : Int := if i ≤ v then (Pt.degs G i : Nat) else (Pt.deg G ((i - 1 : Nat) : Int) : Nat)
theorem ps_zero (G : List (Int × Int)) (n : Nat) : tab (n + 1) (cntF G) = tab (n + 1) (psF G 0) := by
  refine tab_congr fun i _ => ?_
  unfold cntF psF
  rcases i with _ | i
  · rfl
  · simp
theorem ps_step (G : List (Int × Int)) (n v : Nat) : (tab (n + 1) (psF G v)).set (v + 1) (psF G v (v + 1) + psF G v v) = tab (n + 1) (psF G (v + 1)) := by
  rw [tab_set]
  refine tab_congr fun i _ => ?_
  by_cases h : i = v + 1
  · subst h
    rw [if_pos rfl]
    unfold psF
    rw [if_neg (by omega), if_pos (Nat.le_refl _), if_pos (Nat.le_refl _), Nat.add_sub_cancel, Pt.degs]
    omega
  · rw [if_neg h]
    unfold psF
    by_cases h2 : i ≤ v
    · rw [if_pos h2, if_pos (by omega)]
    · rw [if_neg h2, if_neg (by omega)]
def sumF (G : List (Int × Int)) (i : Nat) : Int := (Pt.degs G i : Nat)
theorem ps_all (G : List (Int × Int)) (n : Nat) : tab (n + 1) (psF G n) = tab (n + 1) (sumF G) := by
  refine tab_congr fun i hi => ?_
  unfold psF sumF
  rw [if_pos (by omega)]

/-- How many edges of some end at a vertex; begin there. -/
def endsN (G : List (Int × Int)) (v : Int) : Nat := (G.filter fun e => decide (e.2 = v)).length
def begsN (G : List (Int × Int)) (v : Int) : Nat := (G.filter fun e => decide (e.1 = v)).length
theorem deg_split : ∀ {G : List (Int × Int)} (v : Int), (∀ e ∈ G, e.1 ≠ e.2) → Pt.deg G v = endsN G v + begsN G v
  | [], v, _ => rfl
  | e :: G, v, h => by
    have ih := deg_split (G := G) v fun e he => h e (List.mem_cons_of_mem _ he)
    have hne := h e (List.mem_cons_self ..)
    unfold Pt.deg endsN begsN at ih ⊢
    by_cases h1 : e.1 = v
    · have h2 : e.2 ≠ v := fun h2 => hne (h1.trans h2.symm)
      rw [List.filter_cons_of_pos (by simp [h1]), List.filter_cons_of_neg (by simp [h2]), List.filter_cons_of_pos (by simp [h1]), List.length_cons, List.length_cons, ih]
      omega
    · by_cases h2 : e.2 = v
      · rw [List.filter_cons_of_pos (by simp [h2]), List.filter_cons_of_pos (by simp [h2]), List.filter_cons_of_neg (by simp [h1]), List.length_cons, List.length_cons, ih]
        omega
      · rw [List.filter_cons_of_neg (by simp [h1, h2]), List.filter_cons_of_neg (by simp [h2]), List.filter_cons_of_neg (by simp [h1]), ih]
theorem endsN_snoc (G : List (Int × Int)) (e : Int × Int) (v : Int) : endsN (G ++ [e]) v = endsN G v + if e.2 = v then 1 else 0 := by
  unfold endsN
  rw [List.filter_append, List.length_append]
  by_cases h : e.2 = v
  · rw [List.filter_cons_of_pos (by simpa using h), if_pos h]; rfl
  · rw [List.filter_cons_of_neg (by simpa using h), if_neg h]; rfl
theorem begsN_snoc (G : List (Int × Int)) (e : Int × Int) (v : Int) : begsN (G ++ [e]) v = begsN G v + if e.1 = v then 1 else 0 := by
  unfold begsN
  rw [List.filter_append, List.length_append]
  by_cases h : e.1 = v
  · rw [List.filter_cons_of_pos (by simpa using h), if_pos h]; rfl
  · rw [List.filter_cons_of_neg (by simpa using h), if_neg h]; rfl
theorem take_room {G : List (Int × Int)} {p : Int × Int → Bool} {k : Nat} {e : Int × Int} (h : G[k]? = some e) (hp : p e = true) : ((G.take k).filter p).length < (G.filter p).length := by
  obtain ⟨hk, he⟩ := List.getElem?_eq_some_iff.1 h
  have h1 : G = G.take k ++ e :: G.drop (k + 1) := by rw [← he, List.getElem_cons_drop, List.take_append_drop]
  have h2 : (G.filter p).length = ((G.take k).filter p).length + ((e :: G.drop (k + 1)).filter p).length := by
    conv => lhs; rw [h1]
    rw [List.filter_append, List.length_append]
  rw [List.filter_cons_of_pos hp, List.length_cons] at h2
  omega
theorem degs_mono (G : List (Int × Int)) {i j : Nat} (h : i ≤ j) : Pt.degs G i ≤ Pt.degs G j := by
  induction j with
  | zero =>
    obtain rfl : i = 0 := by omega
    exact Nat.le_refl _
  | succ j ih =>
    rcases Nat.lt_or_ge i (j + 1) with h1 | h1
    · have := ih (by omega)
      rw [Pt.degs]
      omega
    · obtain rfl : i = j + 1 := by omega
      exact Nat.le_refl _
/-- Where the next one beside a vertex goes, in the first round. -/
def nx1 (F : List (Int × Int)) (k i : Nat) : Int := ((Pt.degs F i + endsN (F.take k) ((i : Nat) : Int) : Nat) : Int)
/-- .. in the second one. -/
def nx2 (F : List (Int × Int)) (k i : Nat) : Int := ((Pt.degs F i + endsN F ((i : Nat) : Int) + begsN (F.take k) ((i : Nat) : Int) : Nat) : Int)
section
variable {F : List (Int × Int)} {n : Nat}
theorem nx1_zero : tab (n + 1) (sumF F) = tab (n + 1) (nx1 F 0) := tab_congr fun i _ => by unfold sumF nx1; rfl
theorem nx1_all (k : Nat) (hk : F.length ≤ k) : tab (n + 1) (nx1 F k) = tab (n + 1) (nx2 F 0) := tab_congr fun i _ => by
  unfold nx1 nx2
  rw [List.take_of_length_le hk]
  rfl
theorem nx1_room (hF : ∀ e ∈ F, Pt.EdgeOK n e) {k a b : Nat} (h : F[k]? = some (((a : Nat) : Int), ((b : Nat) : Int))) : Pt.degs F b + endsN (F.take k) ((b : Nat) : Int) < 2 * F.length := by
  have ho := hF _ (List.mem_of_getElem? h)
  have hb : b < n := by have := ho.2.2; simp only at this; omega
  have h1 : endsN (F.take k) ((b : Nat) : Int) < endsN F ((b : Nat) : Int) := take_room h (by simp)
  have h2 := deg_split (G := F) ((b : Nat) : Int) fun e he => by have := (hF e he).2.1; omega
  have h3 := degs_mono F (i := b + 1) (j := n) (by omega)
  rw [Pt.degs_all F hF, Pt.degs] at h3
  omega
theorem nx2_room (hF : ∀ e ∈ F, Pt.EdgeOK n e) {k a b : Nat} (h : F[k]? = some (((a : Nat) : Int), ((b : Nat) : Int))) : Pt.degs F a + endsN F ((a : Nat) : Int) + begsN (F.take k) ((a : Nat) : Int) < 2 * F.length := by
  have ho := hF _ (List.mem_of_getElem? h)
  have ha : a < n := by have h1 := ho.2.1; have h2 := ho.2.2; simp only at h1 h2; omega
  have h1 : begsN (F.take k) ((a : Nat) : Int) < begsN F ((a : Nat) : Int) := take_room h (by simp)
  have h2 := deg_split (G := F) ((a : Nat) : Int) fun e he => by have := (hF e he).2.1; omega
  have h3 := degs_mono F (i := a + 1) (j := n) (by omega)
  rw [Pt.degs_all F hF, Pt.degs] at h3
  omega
theorem nx1_step {k a b : Nat} (h : F[k]? = some (((a : Nat) : Int), ((b : Nat) : Int))) : (tab (n + 1) (nx1 F k)).set b (nx1 F k b + 1) = tab (n + 1) (nx1 F (k + 1)) := by
  obtain ⟨hk, he⟩ := List.getElem?_eq_some_iff.1 h
  rw [tab_set]
  refine tab_congr fun i _ => ?_
  have ht : F.take (k + 1) = F.take k ++ [(((a : Nat) : Int), ((b : Nat) : Int))] := by rw [List.take_succ_eq_append_getElem hk, he]
  unfold nx1
  rw [ht, endsN_snoc]
  by_cases hi : i = b
  · subst hi
    rw [if_pos rfl, if_pos rfl]
    omega
  · rw [if_neg hi, if_neg (by simp only; omega)]
    rfl
theorem nx2_step {k a b : Nat} (h : F[k]? = some (((a : Nat) : Int), ((b : Nat) : Int))) : (tab (n + 1) (nx2 F k)).set a (nx2 F k a + 1) = tab (n + 1) (nx2 F (k + 1)) := by
  obtain ⟨hk, he⟩ := List.getElem?_eq_some_iff.1 h
  rw [tab_set]
  refine tab_congr fun i _ => ?_
  have ht : F.take (k + 1) = F.take k ++ [(((a : Nat) : Int), ((b : Nat) : Int))] := by rw [List.take_succ_eq_append_getElem hk, he]
  unfold nx2
  rw [ht, begsN_snoc]
  by_cases hi : i = a
  · subst hi
    rw [if_pos rfl, if_pos rfl]
    omega
  · rw [if_neg hi, if_neg (by simp only; omega)]
    rfl
end
end Gh
end Go.Proofs.YtbbmgcdocolakaaGreatDoor
/-
  Graphs, plainly: which labels and edges make one, and its edges in their order.
-/
namespace Go.Proofs.YtbbmgcdocolakaaGreatDoor
open Go.RowKit
set_option linter.unusedVariables false
namespace Gh
/-- What is wrong with an edge, ahead of which some are; 0: nothing. -/
def badE (n : Nat) (seen : List (Int × Int)) (e : Int × Int) : Int :=
  if (turnE e).1 < 0 ∨ (n : Int) ≤ (turnE e).2 then 3 else if e.1 = e.2 then 1 else if turnE e ∈ seen then 4 else 0
inductive NewR
  | ok (F : List (Int × Int))
  | big
  | lab (i : Nat)
  | edge (c : Int) (i : Nat)
/-- Edge by edge. -/
def goE (n : Nat) : List (Int × Int) → List (Int × Int) → NewR
  | acc, [] => .ok acc
  | acc, e :: r => if badE n acc e = 0 then goE n (acc ++ [turnE e]) r else .edge (badE n acc e) acc.length
def labBad (x : Int) : Bool := decide (x < 0) || decide (255 < x)
def newR (L : List Int) (E : List (Int × Int)) : NewR :=
  if 4096 < L.length ∨ 16384 < E.length then .big
  else match L.findIdx? labBad with
    | some i => .lab i
    | none => goE L.length [] E

theorem bad_zero {n : Nat} {seen : List (Int × Int)} {e : Int × Int} (h : badE n seen e = 0) : Pt.EdgeOK n (turnE e) ∧ turnE e ∉ seen := by
  unfold badE at h
  split at h
  · cases h
  · rename_i h1
    split at h
    · cases h
    · rename_i h2
      split at h
      · cases h
      · rename_i h3
        refine ⟨?_, h3⟩
        have h4 : 0 ≤ (turnE e).1 ∧ (turnE e).2 < (n : Int) := by omega
        refine ⟨h4.1, ?_, h4.2⟩
        obtain ⟨a, b⟩ := e
        unfold turnE
        simp only at h2 ⊢
        split
        · simp only; omega
        · simp only; omega
theorem bad_of {n : Nat} {seen : List (Int × Int)} {e : Int × Int} (h : Pt.EdgeOK n (turnE e)) (hs : turnE e ∉ seen) : badE n seen e = 0 := by
  unfold badE
  have h1 := h.1
  have h2 := h.2.1
  have h3 := h.2.2
  rw [if_neg (by omega), if_neg ?_, if_neg hs]
  intro he
  obtain ⟨a, b⟩ := e
  simp only at he
  subst he
  unfold turnE at h2
  simp only at h2
  split at h2 <;> simp only at h2 <;> omega
theorem bad_pos {n : Nat} {seen : List (Int × Int)} {e : Int × Int} (h : badE n seen e ≠ 0) : badE n seen e = 3 ∨ badE n seen e = 1 ∨ badE n seen e = 4 := by
  unfold badE at h ⊢
  split
  · exact .inl rfl
  · split
    · exact .inr (.inl rfl)
    · split
      · exact .inr (.inr rfl)
      · rename_i h1 h2 h3
        rw [if_neg h1, if_neg h2, if_neg h3] at h
        exact absurd rfl h
/-- What is had so far. -/
structure Has (n : Nat) (acc : List (Int × Int)) : Prop where
  ok : ∀ e ∈ acc, Pt.EdgeOK n e
  nd : acc.Nodup
theorem Has.nil (n : Nat) : Has n [] := ⟨fun e h => absurd h (List.not_mem_nil), List.nodup_nil⟩
theorem Has.snoc {n : Nat} {acc : List (Int × Int)} {e : Int × Int} (h : Has n acc) (hb : badE n acc e = 0) : Has n (acc ++ [turnE e]) := by
  obtain ⟨h1, h2⟩ := bad_zero hb
  refine ⟨fun x hx => ?_, ?_⟩
  · rcases List.mem_append.1 hx with hx | hx
    · exact h.ok x hx
    · obtain rfl := List.mem_singleton.1 hx
      exact h1
  · refine List.nodup_append.2 ⟨h.nd, by simp, ?_⟩
    rintro a ha b hb rfl
    obtain rfl := List.mem_singleton.1 hb
    exact h2 ha
theorem goE_ok {n : Nat} : ∀ {E acc F : List (Int × Int)}, Has n acc → goE n acc E = .ok F → Has n F ∧ F = acc ++ E.map turnE
  | [], acc, F, h, he => by
    injection he with he
    subst he
    exact ⟨h, by simp⟩
  | e :: E, acc, F, h, he => by
    unfold goE at he
    split at he
    · rename_i hb
      obtain ⟨h1, h2⟩ := goE_ok (h.snoc hb) he
      exact ⟨h1, by rw [h2]; simp⟩
    · cases he
theorem new_ok {L : List Int} {E F : List (Int × Int)} (h : newR L E = .ok F) : L.length ≤ 4096 ∧ E.length ≤ 16384 ∧ (∀ x ∈ L, 0 ≤ x ∧ x ≤ 255) ∧ Has L.length F ∧ F = E.map turnE := by
  unfold newR at h
  split at h
  · cases h
  · rename_i hz
    split at h
    · cases h
    · rename_i hl
      obtain ⟨h1, h2⟩ := goE_ok (Has.nil _) h
      refine ⟨by omega, by omega, fun x hx => ?_, h1, by simpa using h2⟩
      have := List.findIdx?_eq_none_iff.1 hl x hx
      unfold labBad at this
      simp at this
      omega
/-- Put into its place. -/
def insE (e : Int × Int) : List (Int × Int) → List (Int × Int)
  | [] => [e]
  | x :: r => if Pt.ordE x e < 0 then x :: insE e r else e :: x :: r
theorem insE_perm (e : Int × Int) : ∀ F, (insE e F).Perm (e :: F)
  | [] => .refl _
  | x :: r => by
    unfold insE
    split
    · exact ((insE_perm e r).cons x).trans (.swap ..)
    · exact .refl _
theorem insE_rise {e : Int × Int} : ∀ {F : List (Int × Int)}, Pt.Rise F → e ∉ F → Pt.Rise (insE e F)
  | [], _, _ => by unfold insE; exact List.pairwise_singleton ..
  | x :: r, h, hn => by
    obtain ⟨h1, h2⟩ := List.pairwise_cons.1 h
    unfold insE
    split
    · rename_i hx
      refine List.pairwise_cons.2 ⟨fun y hy => ?_, insE_rise h2 fun he => hn (List.mem_cons_of_mem _ he)⟩
      rcases List.mem_cons.1 ((insE_perm e r).subset hy) with rfl | hy
      · exact hx
      · exact h1 y hy
    · rename_i hx
      have hlt : Pt.ordE e x < 0 := by
        have ha := Pt.cp_edge.anti x e
        have hz : Pt.ordE x e ≠ 0 := fun hz => hn (by rw [Pt.ordE_zero hz]; exact List.mem_cons_self ..)
        omega
      refine List.pairwise_cons.2 ⟨fun y hy => ?_, h⟩
      rcases List.mem_cons.1 hy with rfl | hy
      · exact hlt
      · have := h1 y hy
        have ht := Pt.cp_edge.trans e x y
        have ha := Pt.cp_edge.anti e y
        have hle := ht (by omega) (by omega)
        rcases Int.lt_or_lt_of_ne (a := Pt.ordE e y) (b := 0) (fun hz => hn (by rw [Pt.ordE_zero hz]; exact List.mem_cons_of_mem _ hy)) with h | h
        · exact h
        · omega
/-- All edges in their order. -/
def sortG (F : List (Int × Int)) : List (Int × Int) := F.foldl (fun acc e => insE e acc) []
theorem sort_snoc (F : List (Int × Int)) (e : Int × Int) : sortG (F ++ [e]) = insE e (sortG F) := by simp [sortG]
theorem sort_all : ∀ (k : Nat) {F : List (Int × Int)}, F.length = k → F.Nodup → (sortG F).Perm F ∧ Pt.Rise (sortG F)
  | 0, F, hk, _ => by
    obtain rfl := List.eq_nil_of_length_eq_zero hk
    exact ⟨.refl _, List.Pairwise.nil⟩
  | k + 1, F, hk, hd => by
    rcases List.eq_nil_or_concat F with rfl | ⟨G, e, rfl⟩
    · cases hk
    · rw [List.concat_eq_append] at hd hk ⊢
      obtain ⟨h1, _, h3⟩ := List.nodup_append.1 hd
      rw [List.length_append] at hk
      obtain ⟨h4, h5⟩ := sort_all k (F := G) (by simpa using hk) h1
      rw [sort_snoc]
      refine ⟨(insE_perm e _).trans ((h4.cons e).trans (List.perm_append_comm (l₁ := [e]))), insE_rise h5 fun he => ?_⟩
      exact h3 e (h4.subset he) e (List.mem_singleton.2 rfl) rfl
theorem sort_perm {F : List (Int × Int)} (h : F.Nodup) : (sortG F).Perm F := (sort_all _ rfl h).1
theorem sort_rise {F : List (Int × Int)} (h : F.Nodup) : Pt.Rise (sortG F) := (sort_all _ rfl h).2
theorem sort_is {F G : List (Int × Int)} (h : F.Nodup) (hp : G.Perm F) (hr : Pt.Rise G) : G = sortG F := Pt.rise_uniq hr (sort_rise h) (hp.trans (sort_perm h).symm)
/-- Where it goes. -/
def posE (e : Int × Int) : List (Int × Int) → Nat
  | [] => 0
  | x :: r => if Pt.ordE x e < 0 then posE e r + 1 else 0
theorem pos_le (e : Int × Int) : ∀ G, posE e G ≤ G.length
  | [] => Nat.le_refl _
  | x :: r => by
    unfold posE
    have := pos_le e r
    split
    · rw [List.length_cons]; omega
    · omega
theorem insE_take (e : Int × Int) : ∀ G, insE e G = G.take (posE e G) ++ e :: G.drop (posE e G)
  | [] => rfl
  | x :: r => by
    unfold insE posE
    split
    · rw [insE_take e r]; rfl
    · rfl
theorem pos_less (e : Int × Int) : ∀ (G : List (Int × Int)) (j : Nat) (x : Int × Int), j < posE e G → G[j]? = some x → Pt.ordE x e < 0
  | [], j, x, h, _ => by unfold posE at h; omega
  | y :: r, j, x, h, hx => by
    unfold posE at h
    split at h
    · rename_i hy
      rcases j with _ | j
      · obtain rfl := Option.some.inj hx
        exact hy
      · exact pos_less e r j x (by omega) hx
    · omega
theorem pos_stop (e : Int × Int) : ∀ (G : List (Int × Int)) (x : Int × Int), G[posE e G]? = some x → ¬ Pt.ordE x e < 0
  | [], x, h => by cases h
  | y :: r, x, h => by
    unfold posE at h
    split at h
    · exact pos_stop e r x h
    · rename_i hy
      obtain rfl := Option.some.inj h
      exact hy
theorem ord_less (a b : Int × Int) : Pt.ordE a b < 0 ↔ a.1 < b.1 ∨ (a.1 = b.1 ∧ a.2 < b.2) := by
  unfold Pt.ordE Pt.or2 Pt.cmpI
  split <;> split <;> (try split) <;> (try split) <;> (try split) <;> omega
theorem mem_sort {F : List (Int × Int)} (h : F.Nodup) (e : Int × Int) : e ∈ sortG F ↔ e ∈ F := (sort_perm h).mem_iff
theorem goE_step {n : Nat} {acc : List (Int × Int)} {e : Int × Int} {r : List (Int × Int)} (h : badE n acc e = 0) : goE n acc (e :: r) = goE n (acc ++ [turnE e]) r := by rw [goE, if_pos h]
theorem goE_bad {n : Nat} {acc : List (Int × Int)} {e : Int × Int} {r : List (Int × Int)} (h : badE n acc e ≠ 0) : goE n acc (e :: r) = .edge (badE n acc e) acc.length := by rw [goE, if_neg h]
end Gh
end Go.Proofs.YtbbmgcdocolakaaGreatDoor
