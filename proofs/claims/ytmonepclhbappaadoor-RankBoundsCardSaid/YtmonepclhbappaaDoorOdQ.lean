/-
  Odags plainly: what the rows of the odag of lists hold: numbers, links, in order; they are closed and few.
-/
import Derived.Test.YtmonepclhbappaaDoorOdP
import Derived.Test.YtmonepclhbappaaDoorRankO
namespace Go.Proofs.YtmonepclhbappaaDoor
open Go.RowKit
set_option linter.unusedVariables false

theorem lkR_putR (r : Rw) (a : Int) (l : List Int) (b : Int) : lkR (putR r a l) b = if b = a then l else lkR r b := by
  unfold lkR putR
  rw [List.find?_append, List.find?_cons, List.find?_filter, List.find?_filter]
  by_cases h : b = a
  · subst h
    have e1 : (fun q : Int × List Int => decide (q.1 < b ∧ q.1 = b)) = fun _ => false := by funext q; simp; omega
    have e2 : (r.find? fun q => decide (q.1 < b) && decide (q.1 = b)) = none := List.find?_eq_none.2 fun q _ => by simp; omega
    simp [e2]
  · rw [if_neg h]
    have hba : decide (a = b) = false := by simp; omega
    rcases Int.lt_or_gt_of_ne h with h1 | h1
    · have e1 : (r.find? fun q => decide (q.1 < a) && decide (q.1 = b)) = r.find? fun q => decide (q.1 = b) := by congr 1; funext q; by_cases hq : q.1 = b <;> simp [hq, h1]
      have e2 : (r.find? fun q => decide (a < q.1) && decide (q.1 = b)) = none := List.find?_eq_none.2 fun q _ => by simp; omega
      simp [e1, e2, hba]
    · have e1 : (r.find? fun q => decide (a < q.1) && decide (q.1 = b)) = r.find? fun q => decide (q.1 = b) := by congr 1; funext q; by_cases hq : q.1 = b <;> simp [hq, h1]
      have e2 : (r.find? fun q => decide (q.1 < a) && decide (q.1 = b)) = none := List.find?_eq_none.2 fun q _ => by simp; omega
      simp [e1, e2, hba]
theorem keys_putR (r : Rw) (a : Int) (l : List Int) (b : Int) : b ∈ (putR r a l).map (·.1) ↔ b = a ∨ b ∈ r.map (·.1) := by
  unfold putR
  simp only [List.map_append, List.map_cons, List.mem_append, List.mem_cons, List.mem_map, List.mem_filter]
  constructor
  · rintro (⟨q, ⟨hq, _⟩, rfl⟩ | rfl | ⟨q, ⟨hq, _⟩, rfl⟩)
    · exact Or.inr ⟨q, hq, rfl⟩
    · exact Or.inl rfl
    · exact Or.inr ⟨q, hq, rfl⟩
  · rintro (rfl | ⟨q, hq, rfl⟩)
    · exact Or.inr (Or.inl rfl)
    · rcases Int.lt_trichotomy q.1 a with h | h | h
      · exact Or.inl ⟨q, ⟨hq, by simpa using h⟩, rfl⟩
      · exact Or.inr (Or.inl h)
      · exact Or.inr (Or.inr ⟨q, ⟨hq, by simpa using h⟩, rfl⟩)
def IncR (r : Rw) : Prop := r.Pairwise fun p q => p.1 < q.1
theorem IncR.put {r : Rw} (h : IncR r) (a : Int) (l : List Int) : IncR (putR r a l) := by
  unfold IncR putR
  rw [List.pairwise_append]
  refine ⟨h.filter _, List.pairwise_cons.2 ⟨fun q hq => by simpa using (List.mem_filter.1 hq).2, h.filter _⟩, fun p hp q hq => ?_⟩
  have h1 : p.1 < a := by simpa using (List.mem_filter.1 hp).2
  rcases List.mem_cons.1 hq with rfl | hq
  · exact h1
  · have h2 : a < q.1 := by simpa using (List.mem_filter.1 hq).2
    omega
/-- A row that rises holds each number's links. -/
theorem IncR.lk {r : Rw} (h : IncR r) {q : Int × List Int} (hq : q ∈ r) : lkR r q.1 = q.2 := by
  unfold lkR
  cases hf : r.find? fun p => decide (p.1 = q.1) with
  | none => exact absurd (show decide (q.1 = q.1) = true by simp) (List.find?_eq_none.1 hf q hq)
  | some p =>
    have h1 := List.mem_of_find?_eq_some hf
    have h2 : p.1 = q.1 := by simpa using List.find?_some hf
    obtain ⟨i, hi, e1⟩ := List.mem_iff_getElem.1 h1
    obtain ⟨j, hj, e2⟩ := List.mem_iff_getElem.1 hq
    have hI := List.pairwise_iff_getElem.1 h
    have hij : i = j := by
      rcases Nat.lt_trichotomy i j with h3 | h3 | h3
      · have := hI i j hi hj h3
        rw [e1, e2] at this
        omega
      · exact h3
      · have := hI j i hj hi h3
        rw [e1, e2] at this
        omega
    subst hij
    rw [e1] at e2
    rw [e2]
    rfl
theorem lkR_nokey {r : Rw} {a : Int} (h : a ∉ r.map (·.1)) : lkR r a = [] := by
  unfold lkR
  rw [List.find?_eq_none.2 fun q hq => by
    have : q.1 ≠ a := fun e => h (List.mem_map.2 ⟨q, hq, e⟩)
    simpa using this]
  rfl
/-- The links of a number of column i. -/
def lnks (ls : List (List Int)) (i : Nat) (a : Int) : List Int := setL ((ls.filter fun x => decide (x.getD i 0 = a)).flatMap fun x => nxt x i)
def col (ls : List (List Int)) (i : Nat) : List Int := setL (ls.map fun x => x.getD i 0)
/-- The row i of the odag of lists. -/
theorem odOf_row (n : Nat) (i : Nat) (hi : i < n) (ls : List (List Int)) : (∀ x ∈ ls, x.length = n) →
    IncR ((odOf n ls).getD i []) ∧ (∀ a, a ∈ ((odOf n ls).getD i []).map (·.1) ↔ ∃ x ∈ ls, x.getD i 0 = a) ∧ ∀ a, lkR ((odOf n ls).getD i []) a = lnks ls i a := by
  obtain ⟨rs, rfl⟩ : ∃ rs, ls = rs.reverse := ⟨ls.reverse, by simp⟩
  induction rs with
  | nil =>
    intro _
    rw [List.reverse_nil]
    have e : (odOf n []).getD i [] = [] := by
      unfold odOf
      rw [List.foldl_nil, List.getD_eq_getElem?_getD, List.getElem?_replicate]
      simp [hi]
    rw [e]
    exact ⟨List.Pairwise.nil, fun a => by simp, fun a => rfl⟩
  | cons x rs ih =>
    rw [List.reverse_cons]
    generalize rs.reverse = ls at *
    intro h
    obtain ⟨h1, h2, h3⟩ := ih fun y hy => h y (List.mem_append_left _ hy)
    have hx := h x (List.mem_append_right _ (List.mem_singleton_self x))
    have hl := odOf_len n ls
    have e : (odOf n (ls ++ [x])).getD i [] = stepR ((odOf n ls).getD i []) (x.getD i 0) (nxt x i) := by
      rw [odOf_snoc, putO, List.getD_eq_getElem?_getD, putTo_at, hx]
      have h5 : (odOf n ls)[i]? = some ((odOf n ls).getD i []) := by rw [List.getD_eq_getElem?_getD, List.getElem?_eq_getElem (by omega)]; rfl
      rw [h5, Option.map_some, if_pos hi]
      rfl
    rw [e]
    unfold stepR
    refine ⟨h1.put _ _, fun a => ?_, fun a => ?_⟩
    · rw [keys_putR, h2]
      simp only [List.mem_append, List.mem_singleton]
      constructor
      · rintro (rfl | ⟨y, hy, hya⟩)
        · exact ⟨x, Or.inr rfl, rfl⟩
        · exact ⟨y, Or.inl hy, hya⟩
      · rintro ⟨y, hy | rfl, hya⟩
        · exact Or.inr ⟨y, hy, hya⟩
        · exact Or.inl hya.symm
    · rw [lkR_putR]
      by_cases ha : a = x.getD i 0
      · rw [if_pos ha, h3, ← ha]
        unfold lnks
        refine setL_same fun y => ?_
        have e2 : ([x].filter fun x => decide (x.getD i 0 = a)) = [x] := by rw [List.filter_cons_of_pos (by simpa using ha.symm)]; rfl
        rw [List.mem_append, setL_mem, List.filter_append, e2, List.flatMap_append, List.mem_append]
        simp
      · rw [if_neg ha, h3]
        unfold lnks
        have e2 : ([x].filter fun x => decide (x.getD i 0 = a)) = [] := by rw [List.filter_cons_of_neg (by simpa using fun e => ha e.symm)]; rfl
        rw [List.filter_append, e2, List.append_nil]
theorem odOf_closed (n : Nat) (ls : List (List Int)) (h : ∀ x ∈ ls, x.length = n) : Closed (odOf n ls) := fun i hi q hq b hb => by
  rw [odOf_len] at hi
  obtain ⟨h1, _, h3⟩ := odOf_row n i (by omega) ls h
  obtain ⟨_, h2, _⟩ := odOf_row n (i + 1) hi ls h
  rw [← h1.lk hq, h3] at hb
  unfold lnks at hb
  rw [setL_mem] at hb
  obtain ⟨x, hx, hbx⟩ := List.mem_flatMap.1 hb
  rw [List.mem_filter] at hx
  refine (h2 b).2 ⟨x, hx.1, ?_⟩
  have hl := h x hx.1
  unfold nxt at hbx
  rw [List.drop_eq_getElem_cons (by omega)] at hbx
  rw [List.take_succ_cons, List.take_zero, List.mem_singleton] at hbx
  rw [List.getD_eq_getElem?_getD, List.getElem?_eq_getElem (by omega), hbx]
  rfl
theorem odOf_nums (n : Nat) (ls : List (List Int)) (h : ∀ x ∈ ls, x.length = n) (hx : ∀ x ∈ ls, ∀ y ∈ x, numOK y) : Nums (odOf n ls) := fun r hr q hq => by
  obtain ⟨i, hi, rfl⟩ := List.mem_iff_getElem.1 hr
  have hl := odOf_len n ls
  have e : (odOf n ls).getD i [] = (odOf n ls)[i] := by rw [List.getD_eq_getElem?_getD, List.getElem?_eq_getElem hi]; rfl
  obtain ⟨h1, h2, h3⟩ := odOf_row n i (by omega) ls h
  rw [e] at h1 h2 h3
  refine ⟨?_, fun b hb => ?_⟩
  · obtain ⟨x, hxm, hxa⟩ := (h2 q.1).1 (List.mem_map.2 ⟨q, hq, rfl⟩)
    have := h x hxm
    rw [List.getD_eq_getElem?_getD, List.getElem?_eq_getElem (by omega)] at hxa
    rw [← hxa]
    exact hx x hxm _ (List.getElem_mem _)
  · rw [← h1.lk hq, h3] at hb
    unfold lnks at hb
    rw [setL_mem] at hb
    obtain ⟨x, hxm, hbx⟩ := List.mem_flatMap.1 hb
    exact hx x (List.mem_filter.1 hxm).1 b (List.mem_of_mem_drop (List.mem_of_mem_take hbx))
theorem sumZ_le {l : List Int} {K : Int} (h : ∀ x ∈ l, x ≤ K) : sumZ l ≤ l.length * K := by
  induction l with
  | nil => simp [sumZ]
  | cons x l ih =>
    have h1 := h x (List.mem_cons_self ..)
    have h2 := ih fun y hy => h y (List.mem_cons_of_mem _ hy)
    rw [sumZ, List.length_cons]
    have : ((l.length + 1 : Nat) : Int) * K = (l.length : Int) * K + K := by rw [Int.natCast_add, Int.add_mul]; simp
    omega
/-- Rows of at most K numbers, each with at most K links. -/
theorem cnt_le {od : List Rw} {K : Nat} (hB : OdB K od) : ∀ (d i : Nat) (a : Int), i + d + 1 = od.length → cnt od i a ≤ ((K ^ d : Nat) : Int)
  | 0, i, a, h => by rw [cnt_last (by omega)]; simp
  | d + 1, i, a, h => by
    rw [cnt_step (by omega)]
    have h1 := sumZ_le (l := (lkR (od.getD i []) a).map (cnt od (i + 1))) (K := ((K ^ d : Nat) : Int)) fun x hx => by
      obtain ⟨b, _, rfl⟩ := List.mem_map.1 hx
      exact cnt_le hB d (i + 1) b (by omega)
    rw [List.length_map] at h1
    have h2 := lkR_B (hB _ (getD_memO (show i < od.length by omega))) a
    refine Int.le_trans h1 ?_
    rw [← Int.natCast_mul, Nat.pow_succ, Nat.mul_comm (K ^ d)]
    exact Int.ofNat_le.2 (Nat.mul_le_mul_right _ h2)
theorem fits_of {od : List Rw} {K : Nat} (hB : OdB K od) (hK : 1 ≤ K) (h1 : 1 ≤ od.length) (h : K ^ od.length ≤ 4611686018427387904) : Fits od := by
  refine ⟨fun i a hi => ?_, ?_⟩
  · have h2 := cnt_le hB (od.length - 1 - i) i a (by omega)
    have h3 : K ^ (od.length - 1 - i) ≤ K ^ od.length := Nat.pow_le_pow_right hK (by omega)
    omega
  · rw [totP_sum]
    have h2 := sumZ_le (l := ((od.getD 0 []).map (·.1)).map (cnt od 0)) (K := ((K ^ (od.length - 1) : Nat) : Int)) fun x hx => by
      obtain ⟨b, _, rfl⟩ := List.mem_map.1 hx
      exact cnt_le hB _ 0 b (by omega)
    rw [List.length_map, List.length_map] at h2
    have h3 := (hB _ (getD_memO (show 0 < od.length by omega))).1
    have h4 : (od.getD 0 []).length * K ^ (od.length - 1) ≤ K ^ od.length := by
      have e : K ^ od.length = K * K ^ (od.length - 1) := by
        obtain ⟨m, hm⟩ : ∃ m, od.length = m + 1 := ⟨od.length - 1, by omega⟩
        rw [hm, Nat.add_sub_cancel, Nat.pow_succ, Nat.mul_comm]
      rw [e]
      exact Nat.mul_le_mul_right _ h3
    have h5 : (((od.getD 0 []).length : Int) * ((K ^ (od.length - 1) : Nat) : Int)) = (((od.getD 0 []).length * K ^ (od.length - 1) : Nat) : Int) := (Int.natCast_mul _ _).symm
    omega
/-- Few short lists: few paths. -/
theorem odOf_fits (n : Nat) (ls : List (List Int)) (h1 : 1 ≤ n) (h5 : n ≤ 5) (hl : ls.length ≤ 13) : Fits (odOf n ls) := by
  have hB : OdB 13 (odOf n ls) := fun r hr => (odOf_B n ls r hr).mono hl
  refine fits_of hB (by decide) (by rw [odOf_len]; exact h1) ?_
  rw [odOf_len]
  exact Nat.le_trans (Nat.pow_le_pow_right (by decide) h5) (by decide)
end Go.Proofs.YtmonepclhbappaaDoor
