/-
  Part 9 of the proof of OdagMerge: OdQ, RankAt0, RankD, RankU, OdR.
-/
import Derived.Test.YtmonepclhbappaaGreatDoorOdagMergeM6
import Derived.Test.YtmonepclhbappaaGreatDoorOdagMergeM8
import Derived.Test.YtmonepclhbappaaGreatDoorOdagMergeM5
/-
  Odags plainly: what the rows of the odag of lists hold: numbers, links, in order; they are closed and few.
-/
namespace Go.Proofs.YtmonepclhbappaaGreatDoor
open Go.RowKit
set_option linter.unusedVariables false

theorem lkR_putR (r : Rw) (a : Int) (l : List Int) (b : Int) : lkR (putR r a l) b = if b = a then l else lkR r b := by
  unfold lkR putR
  rw [List.find?_append, List.find?_cons, List.find?_filter, List.find?_filter]
  by_cases h : b = a
  · subst h
    have e1 : (fun q : Int × List Int => decide (q.1 < b ∧ q.1 = b)) = fun _ => false := by funext q; simp; omega
    have e2 : (r.find? fun q => decide (q.1 < b) && decide (q.1 = b)) = none := List.find?_eq_none.2 fun q _ => by simp; omega
    simp [e2]
  · rw [if_neg h]
    have hba : decide (a = b) = false := by simp; omega
    rcases Int.lt_or_gt_of_ne h with h1 | h1
    · have e1 : (r.find? fun q => decide (q.1 < a) && decide (q.1 = b)) = r.find? fun q => decide (q.1 = b) := by congr 1; funext q; by_cases hq : q.1 = b <;> simp [hq, h1]
      have e2 : (r.find? fun q => decide (a < q.1) && decide (q.1 = b)) = none := List.find?_eq_none.2 fun q _ => by simp; omega
      simp [e1, e2, hba]
    · have e1 : (r.find? fun q => decide (a < q.1) && decide (q.1 = b)) = r.find? fun q => decide (q.1 = b) := by congr 1; funext q; by_cases hq : q.1 = b <;> simp [hq, h1]
      have e2 : (r.find? fun q => decide (q.1 < a) && decide (q.1 = b)) = none := List.find?_eq_none.2 fun q _ => by simp; omega
      simp [e1, e2, hba]
theorem keys_putR (r : Rw) (a : Int) (l : List Int) (b : Int) : b ∈ (putR r a l).map (·.1) ↔ b = a ∨ b ∈ r.map (·.1) := by
  unfold putR
  simp only [List.map_append, List.map_cons, List.mem_append, List.mem_cons, List.mem_map, List.mem_filter]
  constructor
  · rintro (⟨q, ⟨hq, _⟩, rfl⟩ | rfl | ⟨q, ⟨hq, _⟩, rfl⟩)
    · exact Or.inr ⟨q, hq, rfl⟩
    · exact Or.inl rfl
    · exact Or.inr ⟨q, hq, rfl⟩
  · rintro (rfl | ⟨q, hq, rfl⟩)
    · exact Or.inr (Or.inl rfl)
    · rcases Int.lt_trichotomy q.1 a with h | h | h
      · exact Or.inl ⟨q, ⟨hq, by simpa using h⟩, rfl⟩
      · exact Or.inr (Or.inl h)
      · exact Or.inr (Or.inr ⟨q, ⟨hq, by simpa using h⟩, rfl⟩)
def IncR (r : Rw) : Prop := r.Pairwise fun p q => p.1 < q.1
theorem IncR.put {r : Rw} (h : IncR r) (a : Int) (l : List Int) : IncR (putR r a l) := by
  unfold IncR putR
  rw [List.pairwise_append]
  refine ⟨h.filter _, List.pairwise_cons.2 ⟨fun q hq => by simpa using (List.mem_filter.1 hq).2, h.filter _⟩, fun p hp q hq => ?_⟩
  have h1 : p.1 < a := by simpa using (List.mem_filter.1 hp).2
  rcases List.mem_cons.1 hq with rfl | hq
  · exact h1
  · have h2 : a < q.1 := by simpa using (List.mem_filter.1 hq).2
    omega
/-- A row that rises holds each number's links. -/
theorem IncR.lk {r : Rw} (h : IncR r) {q : Int × List Int} (hq : q ∈ r) : lkR r q.1 = q.2 := by
  unfold lkR
  cases hf : r.find? fun p => decide (p.1 = q.1) with
  | none => exact absurd (show decide (q.1 = q.1) = true by simp) (List.find?_eq_none.1 hf q hq)
  | some p =>
    have h1 := List.mem_of_find?_eq_some hf
    have h2 : p.1 = q.1 := by simpa using List.find?_some hf
    obtain ⟨i, hi, e1⟩ := List.mem_iff_getElem.1 h1
    obtain ⟨j, hj, e2⟩ := List.mem_iff_getElem.1 hq
    have hI := List.pairwise_iff_getElem.1 h
    have hij : i = j := by
      rcases Nat.lt_trichotomy i j with h3 | h3 | h3
      · have := hI i j hi hj h3
        rw [e1, e2] at this
        omega
      · exact h3
      · have := hI j i hj hi h3
        rw [e1, e2] at this
        omega
    subst hij
    rw [e1] at e2
    rw [e2]
    rfl
theorem lkR_nokey {r : Rw} {a : Int} (h : a ∉ r.map (·.1)) : lkR r a = [] := by
  unfold lkR
  rw [List.find?_eq_none.2 fun q hq => by
    have : q.1 ≠ a := fun e => h (List.mem_map.2 ⟨q, hq, e⟩)
    simpa using this]
  rfl
/-- The links of a number of column i. -/
def lnks (ls : List (List Int)) (i : Nat) (a : Int) : List Int := setL ((ls.filter fun x => decide (x.getD i 0 = a)).flatMap fun x => nxt x i)
def col (ls : List (List Int)) (i : Nat) : List Int := setL (ls.map fun x => x.getD i 0)
/-- The row i of the odag of lists. -/
theorem odOf_row (n : Nat) (i : Nat) (hi : i < n) (ls : List (List Int)) : (∀ x ∈ ls, x.length = n) →
    IncR ((odOf n ls).getD i []) ∧ (∀ a, a ∈ ((odOf n ls).getD i []).map (·.1) ↔ ∃ x ∈ ls, x.getD i 0 = a) ∧ ∀ a, lkR ((odOf n ls).getD i []) a = lnks ls i a := by
  obtain ⟨rs, rfl⟩ : ∃ rs, ls = rs.reverse := ⟨ls.reverse, by simp⟩
  induction rs with
  | nil =>
    intro _
    rw [List.reverse_nil]
    have e : (odOf n []).getD i [] = [] := by
      unfold odOf
      rw [List.foldl_nil, List.getD_eq_getElem?_getD, List.getElem?_replicate]
      simp [hi]
    rw [e]
    exact ⟨List.Pairwise.nil, fun a => by simp, fun a => rfl⟩
  | cons x rs ih =>
    rw [List.reverse_cons]
    generalize rs.reverse = ls at *
    intro h
    obtain ⟨h1, h2, h3⟩ := ih fun y hy => h y (List.mem_append_left _ hy)
    have hx := h x (List.mem_append_right _ (List.mem_singleton_self x))
    have hl := odOf_len n ls
    have e : (odOf n (ls ++ [x])).getD i [] = stepR ((odOf n ls).getD i []) (x.getD i 0) (nxt x i) := by
      rw [odOf_snoc, putO, List.getD_eq_getElem?_getD, putTo_at, hx]
      have h5 : (odOf n ls)[i]? = some ((odOf n ls).getD i []) := by rw [List.getD_eq_getElem?_getD, List.getElem?_eq_getElem (by omega)]; rfl
      rw [h5, Option.map_some, if_pos hi]
      rfl
    rw [e]
    unfold stepR
    refine ⟨h1.put _ _, fun a => ?_, fun a => ?_⟩
    · rw [keys_putR, h2]
      simp only [List.mem_append, List.mem_singleton]
      constructor
      · rintro (rfl | ⟨y, hy, hya⟩)
        · exact ⟨x, Or.inr rfl, rfl⟩
        · exact ⟨y, Or.inl hy, hya⟩
      · rintro ⟨y, hy | rfl, hya⟩
        · exact Or.inr ⟨y, hy, hya⟩
        · exact Or.inl hya.symm
    · rw [lkR_putR]
      by_cases ha : a = x.getD i 0
      · rw [if_pos ha, h3, ← ha]
        unfold lnks
        refine setL_same fun y => ?_
        have e2 : ([x].filter fun x => decide (x.getD i 0 = a)) = [x] := by rw [List.filter_cons_of_pos (by simpa using ha.symm)]; rfl
        rw [List.mem_append, setL_mem, List.filter_append, e2, List.flatMap_append, List.mem_append]
        simp
      · rw [if_neg ha, h3]
        unfold lnks
        have e2 : ([x].filter fun x => decide (x.getD i 0 = a)) = [] := by rw [List.filter_cons_of_neg (by simpa using fun e => ha e.symm)]; rfl
        rw [List.filter_append, e2, List.append_nil]
theorem odOf_closed (n : Nat) (ls : List (List Int)) (h : ∀ x ∈ ls, x.length = n) : Closed (odOf n ls) := fun i hi q hq b hb => by
  rw [odOf_len] at hi
  obtain ⟨h1, _, h3⟩ := odOf_row n i (by omega) ls h
  obtain ⟨_, h2, _⟩ := odOf_row n (i + 1) hi ls h
  rw [← h1.lk hq, h3] at hb
  unfold lnks at hb
  rw [setL_mem] at hb
  obtain ⟨x, hx, hbx⟩ := List.mem_flatMap.1 hb
  rw [List.mem_filter] at hx
  refine (h2 b).2 ⟨x, hx.1, ?_⟩
  have hl := h x hx.1
  unfold nxt at hbx
  rw [List.drop_eq_getElem_cons (by omega)] at hbx
  rw [List.take_succ_cons, List.take_zero, List.mem_singleton] at hbx
  rw [List.getD_eq_getElem?_getD, List.getElem?_eq_getElem (by omega), hbx]
  rfl
theorem odOf_nums (n : Nat) (ls : List (List Int)) (h : ∀ x ∈ ls, x.length = n) (hx : ∀ x ∈ ls, ∀ y ∈ x, numOK y) : Nums (odOf n ls) := fun r hr q hq => by
  obtain ⟨i, hi, rfl⟩ := List.mem_iff_getElem.1 hr
  have hl := odOf_len n ls
  have e : (odOf n ls).getD i [] = (odOf n ls)[i] := by rw [List.getD_eq_getElem?_getD, List.getElem?_eq_getElem hi]; rfl
  obtain ⟨h1, h2, h3⟩ := odOf_row n i (by omega) ls h
  rw [e] at h1 h2 h3
  refine ⟨?_, fun b hb => ?_⟩
  · obtain ⟨x, hxm, hxa⟩ := (h2 q.1).1 (List.mem_map.2 ⟨q, hq, rfl⟩)
    have := h x hxm
    rw [List.getD_eq_getElem?_getD, List.getElem?_eq_getElem (by omega)] at hxa
    rw [← hxa]
    exact hx x hxm _ (List.getElem_mem _)
  · rw [← h1.lk hq, h3] at hb
    unfold lnks at hb
    rw [setL_mem] at hb
    obtain ⟨x, hxm, hbx⟩ := List.mem_flatMap.1 hb
    exact hx x (List.mem_filter.1 hxm).1 b (List.mem_of_mem_drop (List.mem_of_mem_take hbx))
theorem sumZ_le {l : List Int} {K : Int} (h : ∀ x ∈ l, x ≤ K) : sumZ l ≤ l.length * K := by
  induction l with
  | nil => simp [sumZ]
  | cons x l ih =>
    have h1 := h x (List.mem_cons_self ..)
    have h2 := ih fun y hy => h y (List.mem_cons_of_mem _ hy)
    rw [sumZ, List.length_cons]
    have : ((l.length + 1 : Nat) : Int) * K = (l.length : Int) * K + K := by rw [Int.natCast_add, Int.add_mul]; simp
    omega
/-- Rows of at most K numbers, each with at most K links. -/
theorem cnt_le {od : List Rw} {K : Nat} (hB : OdB K od) : ∀ (d i : Nat) (a : Int), i + d + 1 = od.length → cnt od i a ≤ ((K ^ d : Nat) : Int)
  | 0, i, a, h => by rw [cnt_last (by omega)]; simp
  | d + 1, i, a, h => by
    rw [cnt_step (by omega)]
    have h1 := sumZ_le (l := (lkR (od.getD i []) a).map (cnt od (i + 1))) (K := ((K ^ d : Nat) : Int)) fun x hx => by
      obtain ⟨b, _, rfl⟩ := List.mem_map.1 hx
      exact cnt_le hB d (i + 1) b (by omega)
    rw [List.length_map] at h1
    have h2 := lkR_B (hB _ (getD_memO (show i < od.length by omega))) a
    refine Int.le_trans h1 ?_
    rw [← Int.natCast_mul, Nat.pow_succ, Nat.mul_comm (K ^ d)]
    exact Int.ofNat_le.2 (Nat.mul_le_mul_right _ h2)
theorem fits_of {od : List Rw} {K : Nat} (hB : OdB K od) (hK : 1 ≤ K) (h1 : 1 ≤ od.length) (h : K ^ od.length ≤ 4611686018427387904) : Fits od := by
  refine ⟨fun i a hi => ?_, ?_⟩
  · have h2 := cnt_le hB (od.length - 1 - i) i a (by omega)
    have h3 : K ^ (od.length - 1 - i) ≤ K ^ od.length := Nat.pow_le_pow_right hK (by omega)
    omega
  · rw [totP_sum]
    have h2 := sumZ_le (l := ((od.getD 0 []).map (·.1)).map (cnt od 0)) (K := ((K ^ (od.length - 1) : Nat) : Int)) fun x hx => by
      obtain ⟨b, _, rfl⟩ := List.mem_map.1 hx
      exact cnt_le hB _ 0 b (by omega)
    rw [List.length_map, List.length_map] at h2
    have h3 := (hB _ (getD_memO (show 0 < od.length by omega))).1
    have h4 : (od.getD 0 []).length * K ^ (od.length - 1) ≤ K ^ od.length := by
      have e : K ^ od.length = K * K ^ (od.length - 1) := by
        obtain ⟨m, hm⟩ : ∃ m, od.length = m + 1 := ⟨od.length - 1, by omega⟩
        rw [hm, Nat.add_sub_cancel, Nat.pow_succ, Nat.mul_comm]
      rw [e]
      exact Nat.mul_le_mul_right _ h3
    have h5 : (((od.getD 0 []).length : Int) * ((K ^ (od.length - 1) : Nat) : Int)) = (((od.getD 0 []).length * K ^ (od.length - 1) : Nat) : Int) := (Int.natCast_mul _ _).symm
    omega
/-- Few short lists: few paths. -/
theorem odOf_fits (n : Nat) (ls : List (List Int)) (h1 : 1 ≤ n) (h5 : n ≤ 5) (hl : ls.length ≤ 13) : Fits (odOf n ls) := by
  have hB : OdB 13 (odOf n ls) := fun r hr => (odOf_B n ls r hr).mono hl
  refine fits_of hB (by decide) (by rw [odOf_len]; exact h1) ?_
  rw [odOf_len]
  exact Nat.le_trans (Nat.pow_le_pow_right (by decide) h5) (by decide)
end Go.Proofs.YtmonepclhbappaaGreatDoor
/-
  Ranks: the contract of At. (In work.)
-/
namespace Go.Proofs.YtmonepclhbappaaGreatDoor
open Go.RowKit Go.Maps
set_option maxRecDepth 100000
set_option linter.unusedVariables false

theorem next_keys {od : List Rw} {l : List Int} (hC : Closed od) (hl : l.length < od.length) : ∀ x ∈ nextL od l, x ∈ (od.getD l.length []).map (·.1) := fun x hx => by
  unfold nextL at hx
  by_cases h : l = []
  · rw [if_pos h, show (0 : Int) = ((0 : Nat) : Int) from rfl, keysAt_in (by omega)] at hx
    rw [h]
    exact hx
  · rw [if_neg h] at hx
    have hp : 0 < l.length := List.length_pos_iff.2 h
    have e : ((l.length : Int) - 1) = ((l.length - 1 : Nat) : Int) := by omega
    rw [e, linksAt_in (by omega)] at hx
    have := hC.link (i := l.length - 1) (by omega) hx
    rw [show l.length - 1 + 1 = l.length by omega] at this
    exact this

end Go.Proofs.YtmonepclhbappaaGreatDoor
/-
  Odags plainly: all paths, length by length, as the document makes them.
-/
namespace Go.Proofs.YtmonepclhbappaaGreatDoor
open Go.RowKit
set_option linter.unusedVariables false

/-- The beginnings of a length. -/
def prefs (od : List Rw) : Nat → List (List Int)
  | 0 => [[]]
  | i + 1 => (prefs od i).flatMap fun p => (nextL od p).map fun a => p ++ [a]
theorem prefs_el (od : List Rw) : ∀ i, ∀ p ∈ prefs od i, p.length = i
  | 0, p, h => by rw [List.mem_singleton.1 h]; rfl
  | i + 1, p, h => by
    obtain ⟨q, hq, hp⟩ := List.mem_flatMap.1 h
    obtain ⟨a, _, rfl⟩ := List.mem_map.1 hp
    rw [List.length_append, prefs_el od i q hq]
    rfl
theorem flatMap_congr' {α β : Type} {f g : α → List β} : ∀ {l : List α}, (∀ x ∈ l, f x = g x) → l.flatMap f = l.flatMap g
  | [], _ => rfl
  | x :: l, h => by rw [List.flatMap_cons, List.flatMap_cons, h x (List.mem_cons_self ..), flatMap_congr' fun y hy => h y (List.mem_cons_of_mem _ hy)]
theorem sfx_step {od : List Rw} {p : List Int} (h : p.length + 1 < od.length) : (sfx od p).map (p ++ ·) = (nextL od p).flatMap fun a => (sfx od (p ++ [a])).map ((p ++ [a]) ++ ·) := by
  conv => lhs; unfold sfx
  rw [List.map_flatMap]
  refine flatMap_congr' fun a _ => ?_
  rw [sfx_snoc h, List.map_map]
  refine List.map_congr_left fun s _ => ?_
  simp
theorem sfx_end {od : List Rw} {p : List Int} (h : p.length + 1 = od.length) : (sfx od p).map (p ++ ·) = (nextL od p).map fun a => p ++ [a] := by
  unfold sfx
  rw [List.map_flatMap, List.map_eq_flatMap]
  refine flatMap_congr' fun a _ => ?_
  rw [tls_last h]
  rfl
theorem prefs_all {od : List Rw} : ∀ i, i < od.length → (prefs od i).flatMap (fun p => (sfx od p).map (p ++ ·)) = allP od
  | 0, h => by
    show ([[]] : List (List Int)).flatMap _ = _
    rw [List.flatMap_cons, List.flatMap_nil, List.append_nil, sfx_nil (by omega)]
    simp
  | i + 1, h => by
    rw [← prefs_all i (by omega), prefs, List.flatMap_assoc]
    refine flatMap_congr' fun p hp => ?_
    rw [sfx_step (by rw [prefs_el od i p hp]; exact h), List.flatMap_map]
theorem prefs_end {od : List Rw} (h : 1 ≤ od.length) : prefs od od.length = allP od := by
  obtain ⟨m, hm⟩ : ∃ m, od.length = m + 1 := ⟨od.length - 1, by omega⟩
  rw [← prefs_all m (by omega), hm, prefs]
  refine flatMap_congr' fun p hp => ?_
  exact (sfx_end (by rw [prefs_el od m p hp, hm])).symm
theorem allP_el {od : List Rw} (h : 1 ≤ od.length) {p : List Int} (hp : p ∈ allP od) : p.length = od.length := by
  rw [← prefs_end h] at hp
  exact prefs_el od _ p hp

/-- Are two numbers one behind the other in some list? -/
def linkedB (ls : List (List Int)) (i : Nat) (a b : Int) : Bool := ls.any fun x => decide (i + 1 < x.length ∧ x.getD i 0 = a ∧ x.getD (i + 1) 0 = b)
theorem nxt_mem {x : List Int} {i : Nat} {b : Int} : b ∈ nxt x i ↔ i + 1 < x.length ∧ x.getD (i + 1) 0 = b := by
  unfold nxt
  by_cases h : i + 1 < x.length
  · rw [List.drop_eq_getElem_cons h, List.take_succ_cons, List.take_zero, List.mem_singleton, List.getD_eq_getElem?_getD, List.getElem?_eq_getElem h]
    exact ⟨fun e => ⟨h, e.symm⟩, fun e => e.2.symm⟩
  · rw [List.drop_eq_nil_of_le (by omega)]
    exact ⟨fun e => (by cases e), fun e => absurd e.1 h⟩
theorem lnks_mem {ls : List (List Int)} {i : Nat} {a b : Int} : b ∈ lnks ls i a ↔ linkedB ls i a b = true := by
  unfold lnks linkedB
  rw [setL_mem, List.mem_flatMap, List.any_eq_true]
  constructor
  · rintro ⟨x, hx, hb⟩
    obtain ⟨h1, h2⟩ := List.mem_filter.1 hx
    obtain ⟨h3, h4⟩ := nxt_mem.1 hb
    exact ⟨x, h1, decide_eq_true ⟨h3, of_decide_eq_true h2, h4⟩⟩
  · rintro ⟨x, hx, hb⟩
    obtain ⟨h1, h2, h3⟩ := of_decide_eq_true hb
    exact ⟨x, List.mem_filter.2 ⟨hx, decide_eq_true h2⟩, nxt_mem.2 ⟨h1, h3⟩⟩
/-- Links are those numbers of the next row that are linked. -/
theorem lnks_filter {ls : List (List Int)} {i : Nat} {a : Int} : (col ls (i + 1)).filter (linkedB ls i a) = lnks ls i a := by
  refine inc_ext ((setL_inc _).filter _) (setL_inc _) fun b => ?_
  rw [List.mem_filter, lnks_mem]
  refine ⟨fun h => h.2, fun h => ⟨?_, h⟩⟩
  unfold linkedB at h
  obtain ⟨x, hx, hb⟩ := List.any_eq_true.1 h
  obtain ⟨h1, h2, h3⟩ := of_decide_eq_true hb
  unfold col
  rw [setL_mem]
  exact List.mem_map.2 ⟨x, hx, h3⟩
theorem keys_col {n i : Nat} (hi : i < n) {ls : List (List Int)} (h : ∀ x ∈ ls, x.length = n) : ((odOf n ls).getD i []).map (·.1) = col ls i := by
  obtain ⟨h1, h2, _⟩ := odOf_row n i hi ls h
  refine inc_ext (List.pairwise_map.2 h1) (setL_inc _) fun y => ?_
  unfold col
  rw [h2, setL_mem, List.mem_map]
/-- What may come behind a beginning, as the document says it. -/
def nextD (ls : List (List Int)) (p : List Int) : List Int := if p = [] then col ls 0 else (col ls p.length).filter (linkedB ls (p.length - 1) (p.getD (p.length - 1) 0))
theorem nextD_eq {n : Nat} {ls : List (List Int)} (h : ∀ x ∈ ls, x.length = n) {p : List Int} (hp : p.length < n) : nextL (odOf n ls) p = nextD ls p := by
  unfold nextL nextD
  by_cases h0 : p = []
  · rw [if_pos h0, if_pos h0, show (0 : Int) = ((0 : Nat) : Int) from rfl, keysAt_in (by rw [odOf_len]; omega), keys_col (by omega) h]
  · have hpos : 0 < p.length := List.length_pos_iff.2 h0
    obtain ⟨m, hm⟩ : ∃ m, p.length = m + 1 := ⟨p.length - 1, by omega⟩
    rw [if_neg h0, if_neg h0, hm, show (((m + 1 : Nat) : Int) - 1) = (m : Int) by omega, linksAt_in (by rw [odOf_len]; omega), Nat.add_sub_cancel, lnks_filter]
    exact (odOf_row n m (by omega) ls h).2.2 _
end Go.Proofs.YtmonepclhbappaaGreatDoor
/-
  Ranks plainly: the rank of a path; which paths there are.
-/
namespace Go.Proofs.YtmonepclhbappaaGreatDoor
open Go.RowKit
set_option linter.unusedVariables false

theorem sumZ_nn {l : List Int} (h : ∀ x ∈ l, 0 ≤ x) : 0 ≤ sumZ l := by
  induction l with
  | nil => simp [sumZ]
  | cons x l ih =>
    have h1 := h x (List.mem_cons_self ..)
    have h2 := ih fun y hy => h y (List.mem_cons_of_mem _ hy)
    rw [sumZ]
    omega
theorem tls_head {od : List Rw} {i : Nat} (h : i < od.length) {a : Int} {s : List Int} (hs : s ∈ tls (od.drop i) a) : ∃ s', s = a :: s' := by
  by_cases h1 : i + 1 < od.length
  · rw [tls_step h1] at hs
    obtain ⟨s', _, rfl⟩ := List.mem_map.1 hs
    exact ⟨s', rfl⟩
  · rw [tls_last (by omega), List.mem_singleton] at hs
    exact ⟨[], hs⟩
/-- Where the paths begin that go on with a number. -/
theorem flat_find {T : Int → List (List Int)} {a : Int} {s : List Int} (hT : ∀ c s, s ∈ T c → ∃ s', s = c :: s') : ∀ {left : List Int} {k : Nat}, left.Nodup → (left.flatMap T)[k]? = some (a :: s) →
    ∃ j, left[j]? = some a ∧ sumZ ((left.take j).map fun c => ((T c).length : Int)) ≤ (k : Int) ∧ (T a)[k - (sumZ ((left.take j).map fun c => ((T c).length : Int))).toNat]? = some (a :: s)
  | [], k, _, h => by cases h
  | c :: left, k, hn, h => by
    obtain ⟨h1, h2⟩ := List.nodup_cons.1 hn
    rw [List.flatMap_cons] at h
    by_cases hk : k < (T c).length
    · rw [List.getElem?_append_left hk] at h
      obtain ⟨s', e⟩ := hT c _ (List.mem_of_getElem? h)
      obtain ⟨rfl, _⟩ := List.cons.inj e
      exact ⟨0, rfl, by simp [sumZ], by simpa [sumZ] using h⟩
    · rw [List.getElem?_append_right (by omega)] at h
      obtain ⟨j, h3, h4, h5⟩ := flat_find hT h2 h
      have hs : sumZ (((c :: left).take (j + 1)).map fun c => ((T c).length : Int)) = ((T c).length : Int) + sumZ ((left.take j).map fun c => ((T c).length : Int)) := by rw [List.take_succ_cons, List.map_cons, sumZ]
      have hnn : 0 ≤ sumZ ((left.take j).map fun c => ((T c).length : Int)) := sumZ_nn fun x hx => by
        obtain ⟨y, _, rfl⟩ := List.mem_map.1 hx
        exact Int.natCast_nonneg _
      refine ⟨j + 1, h3, by rw [hs]; omega, ?_⟩
      rw [hs]
      have e : k - (((T c).length : Int) + sumZ ((left.take j).map fun c => ((T c).length : Int))).toNat = k - (T c).length - (sumZ ((left.take j).map fun c => ((T c).length : Int))).toNat := by omega
      rw [e]
      exact h5
/-- How many paths come ahead of the one that begins so. -/
def RkAt (od : List Rw) (k0 : Nat) (P : List Int) (i : Nat) (z : Int) : Prop := (i < od.length ∧ ∃ k, Leads od k0 P (P.take i) k ∧ z + (k : Int) = (k0 : Int)) ∨ (i = od.length ∧ z = (k0 : Int))
theorem Leads.step {od : List Rw} {k0 : Nat} {P : List Int} {i k : Nat} {a : Int} (h : Leads od k0 P (P.take i) k) (hi : i < od.length) (ha : P[i]? = some a) (hn : (nextL od (P.take i)).Nodup) :
    ∃ j, (nextL od (P.take i))[j]? = some a ∧ sumZ (((nextL od (P.take i)).take j).map (cnt od i)) ≤ (k : Int) ∧ ∀ z : Int, z + (k : Int) = (k0 : Int) → RkAt od k0 P (i + 1) (z + sumZ (((nextL od (P.take i)).take j).map (cnt od i))) := by
  obtain ⟨s, h1, h2⟩ := h
  obtain ⟨hil, hia⟩ := List.getElem?_eq_some_iff.1 ha
  have hlen : (P.take i).length = i := by rw [List.length_take]; omega
  have hs : s = a :: P.drop (i + 1) := by
    have h3 : P.drop i = s := by
      conv => lhs; rw [h2]
      rw [List.drop_append_of_le_length (by omega), List.drop_eq_nil_of_le (by omega), List.nil_append]
    rw [← h3, List.drop_eq_getElem_cons hil, hia]
  have hT : P.take (i + 1) = P.take i ++ [a] := by rw [List.take_succ_eq_append_getElem hil, hia]
  subst hs
  unfold sfx at h1
  rw [hlen] at h1
  obtain ⟨j, h3, h4, h5⟩ := flat_find (T := tls (od.drop i)) (fun c s hs => tls_head hi hs) hn h1
  have e : ((nextL od (P.take i)).take j).map (fun c => ((tls (od.drop i) c).length : Int)) = ((nextL od (P.take i)).take j).map (cnt od i) := rfl
  rw [e] at h4 h5
  have hnn : 0 ≤ sumZ (((nextL od (P.take i)).take j).map (cnt od i)) := sumZ_nn fun x hx => by
    obtain ⟨y, _, rfl⟩ := List.mem_map.1 hx
    exact cnt_nn _ _ _
  refine ⟨j, h3, h4, fun z hz => ?_⟩
  generalize sumZ (((nextL od (P.take i)).take j).map (cnt od i)) = S at *
  by_cases hi1 : i + 1 < od.length
  · refine .inl ⟨hi1, k - S.toNat, ⟨P.drop (i + 1), ?_, ?_⟩, by omega⟩
    · have hl2 : (P.take i).length + 1 < od.length := by omega
      have h6 := sfx_snoc hl2 a
      rw [hlen] at h6
      rw [h6, ← hT, List.getElem?_map] at h5
      obtain ⟨s', h7, h8⟩ := Option.map_eq_some_iff.1 h5
      obtain ⟨_, rfl⟩ := List.cons.inj h8
      exact h7
    · exact (List.take_append_drop (i + 1) P).symm
  · refine .inr ⟨by omega, ?_⟩
    rw [tls_last (by omega)] at h5
    have := (List.getElem?_eq_some_iff.1 h5).1
    simp at this
    omega
theorem RkAt.begin {od : List Rw} {k0 : Nat} {P : List Int} (h1 : 1 ≤ od.length) (h : (allP od)[k0]? = some P) : RkAt od k0 P 0 0 := .inl ⟨by omega, k0, ⟨P, by rw [List.take_zero, sfx_nil h1]; exact h, by rw [List.take_zero]; rfl⟩, by omega⟩
/-- A beginning of a path is a beginning. -/
theorem prefs_take {od : List Rw} : ∀ (m : Nat) (p : List Int), p ∈ prefs od m → ∀ i, i ≤ m → p.take i ∈ prefs od i
  | 0, p, h, i, hi => by
    obtain rfl : i = 0 := by omega
    rw [List.take_zero]
    exact List.mem_singleton_self _
  | m + 1, p, h, i, hi => by
    by_cases e : i = m + 1
    · subst e
      rw [List.take_of_length_le (by rw [prefs_el od _ p h]; exact Nat.le_refl _)]
      exact h
    · obtain ⟨q, hq, hp⟩ := List.mem_flatMap.1 h
      obtain ⟨a, _, rfl⟩ := List.mem_map.1 hp
      rw [List.take_append_of_le_length (by rw [prefs_el od _ q hq]; omega)]
      exact prefs_take m q hq i (by omega)
theorem prefs_next {od : List Rw} {P : List Int} {i : Nat} {a : Int} (ha : P[i]? = some a) : P.take (i + 1) ∈ prefs od (i + 1) ↔ P.take i ∈ prefs od i ∧ a ∈ nextL od (P.take i) := by
  obtain ⟨hil, hia⟩ := List.getElem?_eq_some_iff.1 ha
  have hT : P.take (i + 1) = P.take i ++ [a] := by rw [List.take_succ_eq_append_getElem hil, hia]
  rw [hT, prefs, List.mem_flatMap]
  constructor
  · rintro ⟨q, hq, hp⟩
    obtain ⟨b, hb, e⟩ := List.mem_map.1 hp
    obtain ⟨rfl, e2⟩ := List.append_inj e (by rw [prefs_el od _ q hq, List.length_take]; omega)
    obtain ⟨rfl, _⟩ := List.cons.inj e2
    exact ⟨hq, hb⟩
  · rintro ⟨h1, h2⟩
    exact ⟨_, h1, List.mem_map.2 ⟨a, h2, rfl⟩⟩
end Go.Proofs.YtmonepclhbappaaGreatDoor
/-
  Odags plainly: paths rise; each list is a path; the odag of all paths is the odag.
-/
namespace Go.Proofs.YtmonepclhbappaaGreatDoor
open Go.RowKit
set_option linter.unusedVariables false

/-- Numbers and links rise. -/
def Rising (od : List Rw) : Prop := ∀ i, i < od.length → IncR (od.getD i []) ∧ ∀ a, Inc (lkR (od.getD i []) a)
theorem odOf_rising (n : Nat) (ls : List (List Int)) (h : ∀ x ∈ ls, x.length = n) : Rising (odOf n ls) := fun i hi => by
  rw [odOf_len] at hi
  obtain ⟨h1, _, h3⟩ := odOf_row n i hi ls h
  exact ⟨h1, fun a => by rw [h3]; exact setL_inc _⟩
theorem Rising.next {od : List Rw} (h : Rising od) {l : List Int} (hl : l.length < od.length) : Inc (nextL od l) := by
  unfold nextL
  by_cases h0 : l = []
  · rw [if_pos h0, show (0 : Int) = ((0 : Nat) : Int) from rfl, keysAt_in (by omega)]
    exact List.pairwise_map.2 (h 0 (by omega)).1
  · have hp : 0 < l.length := List.length_pos_iff.2 h0
    rw [if_neg h0, show ((l.length : Int) - 1) = ((l.length - 1 : Nat) : Int) by omega, linksAt_in (by omega)]
    exact (h _ (by omega)).2 _
theorem inc_nodup {l : List Int} (h : Inc l) : l.Nodup := h.imp fun {a b} hab e => by omega
theorem tls_rise {od : List Rw} (h : Rising od) : ∀ (d i : Nat), i + d + 1 = od.length → ∀ L : List Int, Inc L → (L.flatMap (tls (od.drop i))).Pairwise fun p q => cmpL p q = -1
  | d, i, hi, L, hL => by
    refine List.pairwise_flatMap.2 ⟨fun a _ => ?_, hL.imp fun {a b} hab x hx y hy => ?_⟩
    · match d, hi with
      | 0, hi => rw [tls_last (by omega)]; exact List.pairwise_singleton _ _
      | d + 1, hi =>
        rw [tls_step (by omega)]
        refine List.pairwise_map.2 ((tls_rise h d (i + 1) (by omega) _ ((h i (by omega)).2 a)).imp fun {p q} hpq => ?_)
        rw [cmpL, if_neg (by omega), if_neg (by omega)]
        exact hpq
    · obtain ⟨x', rfl⟩ := tls_head (by omega) hx
      obtain ⟨y', rfl⟩ := tls_head (by omega) hy
      rw [cmpL, if_pos hab]
theorem allP_rise {od : List Rw} (h : Rising od) (h1 : 1 ≤ od.length) : (allP od).Pairwise fun p q => cmpL p q = -1 := by
  have := tls_rise h (od.length - 1) 0 (by omega) ((od.getD 0 []).map fun q : Int × List Int => q.1) (List.pairwise_map.2 (h 0 (by omega)).1)
  rw [List.drop_zero] at this
  exact this
theorem allP_nodup {od : List Rw} (h : Rising od) (h1 : 1 ≤ od.length) : (allP od).Nodup := (allP_rise h h1).imp fun {p q} hpq e => by
  subst e
  rw [cmpL_zero.2 rfl] at hpq
  cases hpq
/-- Each list is a path. -/
theorem ls_path {n : Nat} {ls : List (List Int)} (h1 : 1 ≤ n) (h : ∀ x ∈ ls, x.length = n) {x : List Int} (hx : x ∈ ls) : x ∈ allP (odOf n ls) := by
  have hl := odOf_len n ls
  have hxl := h x hx
  have key : ∀ i, i ≤ n → x.take i ∈ prefs (odOf n ls) i := by
    intro i
    induction i with
    | zero => intro _; rw [List.take_zero]; exact List.mem_singleton_self _
    | succ i ih =>
      intro hi
      have hlt : i < x.length := by omega
      refine (prefs_next (a := x[i]) (List.getElem?_eq_getElem hlt)).2 ⟨ih (by omega), ?_⟩
      have hti : (x.take i).length = i := by rw [List.length_take]; omega
      rw [nextD_eq h (by omega)]
      unfold nextD
      by_cases h0 : x.take i = []
      · rw [if_pos h0]
        obtain rfl : i = 0 := by rw [h0] at hti; exact hti.symm
        unfold col
        rw [setL_mem]
        exact List.mem_map.2 ⟨x, hx, by rw [List.getD_eq_getElem?_getD, List.getElem?_eq_getElem hlt]; rfl⟩
      · rw [if_neg h0, hti]
        obtain ⟨m, rfl⟩ : ∃ m, i = m + 1 := ⟨i - 1, by
          rcases i with _ | i
          · exact absurd (List.take_zero) h0
          · rfl⟩
        refine List.mem_filter.2 ⟨?_, ?_⟩
        · unfold col
          rw [setL_mem]
          exact List.mem_map.2 ⟨x, hx, by rw [List.getD_eq_getElem?_getD, List.getElem?_eq_getElem hlt]; rfl⟩
        · unfold linkedB
          refine List.any_eq_true.2 ⟨x, hx, decide_eq_true ⟨by simp; omega, ?_, ?_⟩⟩
          · rw [Nat.add_sub_cancel, List.getD_eq_getElem?_getD, List.getD_eq_getElem?_getD, List.getElem?_take, if_pos (by omega)]
          · rw [Nat.add_sub_cancel, List.getD_eq_getElem?_getD, List.getElem?_eq_getElem hlt]; rfl
  have := key n (Nat.le_refl _)
  rw [List.take_of_length_le (by omega)] at this
  have h2 := prefs_end (od := odOf n ls) (by rw [hl]; exact h1)
  rw [hl] at h2
  rwa [h2] at this
/-- What stands behind one another in a path is linked. -/
theorem path_link {od : List Rw} {p : List Int} (h1 : 1 ≤ od.length) (hp : p ∈ allP od) {i : Nat} {a : Int} (ha : p[i]? = some a) : a ∈ nextL od (p.take i) := by
  have hl := allP_el h1 hp
  rw [← prefs_end h1] at hp
  have hi := (List.getElem?_eq_some_iff.1 ha).1
  have := prefs_take _ p hp (i + 1) (by omega)
  exact ((prefs_next ha).1 this).2
theorem rw_ext : ∀ {r r' : Rw}, IncR r → IncR r' → (∀ a, a ∈ r.map (·.1) ↔ a ∈ r'.map (·.1)) → (∀ a, lkR r a = lkR r' a) → r = r' := by
  intro r r' h h' hk hl
  have e : r.map (·.1) = r'.map (·.1) := inc_ext (List.pairwise_map.2 h) (List.pairwise_map.2 h') hk
  have e1 : ∀ {s : Rw}, IncR s → s = (s.map (·.1)).map fun a => (a, lkR s a) := fun {s} hs => by
    rw [List.map_map]
    conv => lhs; rw [← List.map_id s]
    refine List.map_congr_left fun q hq => ?_
    have := hs.lk hq
    simp [this]
  rw [e1 h, e1 h', e]
  refine List.map_congr_left fun a _ => ?_
  rw [hl a]
theorem odOf_ext {n : Nat} {ls ls' : List (List Int)} (h : ∀ x ∈ ls, x.length = n) (h' : ∀ x ∈ ls', x.length = n) (hc : ∀ i, i < n → ∀ a, a ∈ col ls i ↔ a ∈ col ls' i) (hk : ∀ i, i < n → ∀ a b, b ∈ lnks ls i a ↔ b ∈ lnks ls' i a) : odOf n ls = odOf n ls' := by
  refine List.ext_getElem (by rw [odOf_len, odOf_len]) fun i h1 h2 => ?_
  rw [odOf_len] at h1
  obtain ⟨g1, g2, g3⟩ := odOf_row n i h1 ls h
  obtain ⟨k1, k2, k3⟩ := odOf_row n i h1 ls' h'
  have e : ∀ {l : List (List Int)} (hh : i < (odOf n l).length), (odOf n l).getD i [] = (odOf n l)[i] := fun hh => by rw [List.getD_eq_getElem?_getD, List.getElem?_eq_getElem hh]; rfl
  rw [← e, ← e]
  refine rw_ext g1 k1 (fun a => ?_) fun a => ?_
  · rw [g2, k2]
    have := hc i h1 a
    unfold col at this
    rw [setL_mem, setL_mem, List.mem_map, List.mem_map] at this
    exact this
  · rw [g3, k3]
    exact inc_ext (setL_inc _) (setL_inc _) fun b => hk i h1 a b
/-- The odag of all paths is the odag. -/
theorem odOf_paths {n : Nat} {ls : List (List Int)} (h1 : 1 ≤ n) (h : ∀ x ∈ ls, x.length = n) : odOf n (allP (odOf n ls)) = odOf n ls := by
  have hl := odOf_len n ls
  have hE : ∀ x ∈ allP (odOf n ls), x.length = n := fun x hx => by rw [allP_el (by omega) hx, hl]
  have hN : ∀ p ∈ allP (odOf n ls), ∀ i a, p[i]? = some a → a ∈ nextD ls (p.take i) := fun p hp i a ha => by
    have h2 := path_link (by omega) hp ha
    have h3 := (List.getElem?_eq_some_iff.1 ha).1
    rw [nextD_eq h (by rw [List.length_take, hE p hp]; have := hE p hp; omega)] at h2
    exact h2
  refine odOf_ext hE h (fun i hi a => ?_) fun i hi a b => ?_
  · unfold col
    rw [setL_mem, setL_mem, List.mem_map, List.mem_map]
    constructor
    · rintro ⟨p, hp, rfl⟩
      have hpl := hE p hp
      have h2 := hN p hp i p[i] (List.getElem?_eq_getElem (by omega))
      have e : p.getD i 0 = p[i] := by rw [List.getD_eq_getElem?_getD, List.getElem?_eq_getElem (by omega)]; rfl
      rw [e]
      have hti : (p.take i).length = i := by rw [List.length_take]; omega
      unfold nextD at h2
      rw [hti] at h2
      have h4 : p[i] ∈ col ls i := by
        split at h2
        · rename_i h0
          obtain rfl : i = 0 := by rw [h0] at hti; exact hti.symm
          exact h2
        · exact (List.mem_filter.1 h2).1
      unfold col at h4
      rw [setL_mem, List.mem_map] at h4
      exact h4
    · rintro ⟨x, hx, hxa⟩
      exact ⟨x, ls_path h1 h hx, hxa⟩
  · constructor
    · intro hb
      obtain ⟨p, hp, hpb⟩ := List.any_eq_true.1 (lnks_mem.1 hb)
      obtain ⟨g1, g2, g3⟩ := of_decide_eq_true hpb
      have h2 := hN p hp (i + 1) p[i + 1] (List.getElem?_eq_getElem g1)
      have e : p.getD (i + 1) 0 = p[i + 1] := by rw [List.getD_eq_getElem?_getD, List.getElem?_eq_getElem g1]; rfl
      have hti : (p.take (i + 1)).length = i + 1 := by rw [List.length_take]; omega
      unfold nextD at h2
      rw [if_neg (fun e => by rw [e] at hti; cases hti), hti, Nat.add_sub_cancel, ← e, g3, List.getD_eq_getElem?_getD, List.getElem?_take, if_pos (by omega), ← List.getD_eq_getElem?_getD, g2] at h2
      exact lnks_mem.2 (List.mem_filter.1 h2).2
    · intro hb
      obtain ⟨x, hx, hxb⟩ := List.any_eq_true.1 (lnks_mem.1 hb)
      exact lnks_mem.2 (List.any_eq_true.2 ⟨x, ls_path h1 h hx, hxb⟩)
theorem nextL_B {K : Nat} {od : List Rw} (h : OdB K od) (l : List Int) : (nextL od l).length ≤ K := by
  unfold nextL
  split
  · unfold keysAt
    split
    · rw [List.length_map]
      exact (h _ (getD_memO (by omega))).1
    · simp
  · unfold linksAt
    split
    · exact lkR_B (h _ (getD_memO (by omega))) _
    · simp
/-- What an odag is asked. -/
structure OdOK (od : List Rw) (N : Nat) : Prop where
  B : OdB 60000 od
  len : od.length = N
  h1 : 1 ≤ N
  h8 : N ≤ 8
  Nu : Nums od
  C : Closed od
  F : Fits od
  P : ∀ p ∈ allP od, p.length = N
  S : Rising od
theorem odOf_ok (n : Nat) (ls : List (List Int)) (h1 : 1 ≤ n) (h5 : n ≤ 5) (hl : ls.length ≤ 13) (h : ∀ x ∈ ls, x.length = n) (hx : ∀ x ∈ ls, ∀ y ∈ x, numOK y) : OdOK (odOf n ls) n where
  B := fun r hr => (odOf_B n _ r hr).mono (by omega)
  len := odOf_len n _
  h1 := h1
  h8 := by omega
  Nu := odOf_nums n _ h hx
  C := odOf_closed n _ h
  F := odOf_fits n _ h1 h5 hl
  P := fun p hp => by rw [allP_el (by rw [odOf_len]; exact h1) hp, odOf_len]
  S := odOf_rising n ls h
theorem allP_ok {od : List Rw} {N : Nat} (h : OdOK od N) {p : List Int} (hp : p ∈ allP od) : ∀ x ∈ p, i64ok x := fun x hx => by
  obtain ⟨i, hi, rfl⟩ := List.mem_iff_getElem.1 hx
  have hl := h.P p hp
  have h1 := path_link (by rw [h.len]; exact h.h1) hp (List.getElem?_eq_getElem hi)
  have hti : (p.take i).length = i := by rw [List.length_take]; omega
  have h2 := next_keys h.C (by rw [hti, h.len]; omega) _ h1
  rw [hti] at h2
  exact h.Nu.key (by rw [h.len]; omega) h2
end Go.Proofs.YtmonepclhbappaaGreatDoor
