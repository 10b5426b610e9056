/-
  Plainly: choices (Pascal's row), powers that are too great, sums of lists.
-/
import Derived.Test.YtmonepclhbappaaDoorWords
namespace Go.Proofs.YtmonepclhbappaaDoor
set_option linter.unusedVariables false

/-- How many sets of k of n. -/
def ch : Nat → Nat → Nat
  | _, 0 => 1
  | 0, _ + 1 => 0
  | n + 1, k + 1 => ch n k + ch n (k + 1)
theorem ch_zero (n : Nat) : ch n 0 = 1 := by cases n <;> rfl
theorem ch_succ (n k : Nat) : ch (n + 1) (k + 1) = ch n k + ch n (k + 1) := rfl
theorem ch_out : ∀ {n k : Nat}, n < k → ch n k = 0
  | 0, k + 1, _ => rfl
  | n + 1, k + 1, h => by rw [ch_succ, ch_out (show n < k by omega), ch_out (show n < k + 1 by omega)]
theorem ch_self (n : Nat) : ch n n = 1 := by
  induction n with
  | zero => rfl
  | succ n ih => rw [ch_succ, ih, ch_out (Nat.lt_succ_self n)]
theorem ch_pos : ∀ {n k : Nat}, k ≤ n → 1 ≤ ch n k
  | n, 0, _ => by rw [ch_zero]; omega
  | n + 1, k + 1, h => by rw [ch_succ]; have := ch_pos (show k ≤ n by omega); omega
theorem ch_step : ∀ (n k : Nat), (k + 1) * ch (n + 1) (k + 1) = (n + 1) * ch n k
  | 0, 0 => rfl
  | 0, k + 1 => by
    rw [ch_succ, show ch 0 (k + 1) = 0 from rfl, show ch 0 (k + 1 + 1) = 0 from rfl]; simp
  | n + 1, 0 => by
    have := ch_step n 0
    rw [ch_zero] at this ⊢
    rw [ch_succ (n + 1) 0, ch_zero]
    omega
  | n + 1, k + 1 => by
    have h1 := ch_step n (k + 1)
    have h2 := ch_step n k
    have e1 : (k + 1 + 1) * ch (n + 1 + 1) (k + 1 + 1) = (k + 1) * ch (n + 1) (k + 1) + ch (n + 1) (k + 1) + (k + 1 + 1) * ch (n + 1) (k + 1 + 1) := by
      rw [ch_succ (n + 1) (k + 1), Nat.mul_add, Nat.add_mul (k + 1) 1]; omega
    have e2 : (n + 1 + 1) * ch (n + 1) (k + 1) = (n + 1) * ch (n + 1) (k + 1) + ch (n + 1) (k + 1) := by rw [Nat.add_mul (n + 1) 1]; omega
    have e3 : (n + 1) * ch (n + 1) (k + 1) = (n + 1) * ch n k + (n + 1) * ch n (k + 1) := by rw [ch_succ n k, Nat.mul_add]
    rw [e1, h1, h2, e2, e3]; omega
theorem ch_symm : ∀ (a b : Nat), ch (a + b) a = ch (a + b) b
  | 0, b => by rw [Nat.zero_add, ch_zero, ch_self]
  | a + 1, 0 => by rw [Nat.add_zero, ch_zero, ch_self]
  | a + 1, b + 1 => by
    have h1 := ch_symm a (b + 1)
    have h2 := ch_symm (a + 1) b
    rw [show a + 1 + (b + 1) = (a + b + 1) + 1 by omega, ch_succ (a + b + 1) a, ch_succ (a + b + 1) b]
    rw [show a + (b + 1) = a + b + 1 by omega] at h1
    rw [show a + 1 + b = a + b + 1 by omega] at h2
    omega
theorem ch_symm' {n k : Nat} (h : k ≤ n) : ch n (n - k) = ch n k := by
  have := ch_symm (n - k) k
  rwa [Nat.sub_add_cancel h] at this
theorem ch_min {n k : Nat} (h : k ≤ n) : ch n (min k (n - k)) = ch n k := by
  rcases Nat.le_total k (n - k) with h1 | h1
  · rw [Nat.min_eq_left h1]
  · rw [Nat.min_eq_right h1, ch_symm' h]
theorem ch_mono (m : Nat) {i k : Nat} (h : i ≤ k) : ch (m + i) i ≤ ch (m + k) k := by
  induction k with
  | zero => obtain rfl : i = 0 := by omega
            exact Nat.le_refl _
  | succ k ih =>
    rcases Nat.eq_or_lt_of_le h with rfl | h1
    · exact Nat.le_refl _
    · refine Nat.le_trans (ih (by omega)) ?_
      rw [← Nat.add_assoc, ch_succ]; omega
theorem ch_ge (m : Nat) : ∀ {i : Nat}, i ≤ m → 2 ^ i ≤ ch (m + i) i
  | 0, _ => by rw [ch_zero]; exact Nat.le_refl _
  | i + 1, h => by
    have h1 := ch_ge m (i := i) (by omega)
    have h2 := ch_step (m + i) i
    rw [show m + (i + 1) = m + i + 1 by omega]
    have h3 : 2 * (i + 1) * ch (m + i) i ≤ (m + i + 1) * ch (m + i) i := Nat.mul_le_mul_right _ (by omega)
    rw [← h2, Nat.mul_comm 2 (i + 1), Nat.mul_assoc] at h3
    have h4 := Nat.le_of_mul_le_mul_left h3 (by omega)
    rw [Nat.pow_succ]; omega
/-- From one choice to the next: no rest. -/
theorem ch_next (m i : Nat) : ch (m + i) i * (m + (i + 1)) / (i + 1) = ch (m + (i + 1)) (i + 1) := by
  have h := ch_step (m + i) i
  rw [show m + (i + 1) = m + i + 1 by omega, Nat.mul_comm, ← h, Nat.mul_div_cancel_left _ (by omega)]
/-- A row's first choices, added up. -/
def rowS (n : Nat) : Nat → Nat
  | 0 => 0
  | k + 1 => rowS n k + ch n k
theorem rowS_succ (n : Nat) : ∀ k, rowS (n + 1) (k + 1) = rowS n (k + 1) + rowS n k
  | 0 => by simp [rowS, ch_zero]
  | k + 1 => by
    have h := rowS_succ n k
    have e1 : rowS (n + 1) (k + 1 + 1) = rowS (n + 1) (k + 1) + ch (n + 1) (k + 1) := rfl
    have e2 : rowS n (k + 1 + 1) = rowS n (k + 1) + ch n (k + 1) := rfl
    have e3 : rowS n (k + 1) = rowS n k + ch n k := rfl
    rw [e1, e2, h, ch_succ]; omega
theorem rowS_all : ∀ n, rowS n (n + 1) = 2 ^ n
  | 0 => rfl
  | n + 1 => by
    have h := rowS_all n
    rw [rowS_succ, show rowS n (n + 1 + 1) = rowS n (n + 1) + ch n (n + 1) from rfl, ch_out (Nat.lt_succ_self n), h, Nat.pow_succ]; omega
theorem rowS_le (n : Nat) {a b : Nat} (h : a ≤ b) : rowS n a ≤ rowS n b := by
  induction b with
  | zero => obtain rfl : a = 0 := by omega
            exact Nat.le_refl _
  | succ b ih =>
    rcases Nat.eq_or_lt_of_le h with rfl | h1
    · exact Nat.le_refl _
    · exact Nat.le_trans (ih (by omega)) (Nat.le_add_right _ _)
theorem ch_le (n : Nat) (k : Nat) : ch n k ≤ 2 ^ n := by
  by_cases h : k ≤ n
  · rw [← rowS_all]
    exact Nat.le_trans (Nat.le_add_left _ (rowS n k)) (rowS_le n (show k + 1 ≤ n + 1 by omega))
  · rw [ch_out (by omega)]; exact Nat.zero_le _

/-- A number and its powers. -/
theorem pow_abs (a : Int) (n : Nat) : (a ^ n).natAbs = a.natAbs ^ n := Int.natAbs_pow a n
theorem two_pow_le {a : Int} (h : 2 ≤ a.natAbs) (n : Nat) : 2 ^ n ≤ (a ^ n).natAbs := by
  rw [pow_abs]; exact Nat.pow_le_pow_left h n

/-- The sum of a list. -/
def sumZ : List Int → Int
  | [] => 0
  | x :: l => x + sumZ l
theorem sumZ_append : ∀ (a b : List Int), sumZ (a ++ b) = sumZ a + sumZ b
  | [], b => by simp [sumZ]
  | x :: a, b => by rw [List.cons_append, sumZ, sumZ, sumZ_append a b]; omega
theorem sumZ_take_succ {l : List Int} {k : Nat} (h : k < l.length) : sumZ (l.take (k + 1)) = sumZ (l.take k) + l[k] := by
  rw [List.take_succ_eq_append_getElem h, sumZ_append]; simp [sumZ]
theorem sumZ_reverse (l : List Int) : sumZ l.reverse = sumZ l := by
  induction l with
  | nil => rfl
  | cons x l ih => rw [List.reverse_cons, sumZ_append, ih]; simp [sumZ]; omega
theorem sumZ_split (l : List Int) (k : Nat) : sumZ (l.take k) + sumZ (l.drop k) = sumZ l := by
  rw [← sumZ_append, List.take_append_drop]
/-- The least of some, at most 2^63 - 1. -/
def minZ : List Int → Int := fun l => l.foldl min 9223372036854775807
theorem minZ_take_succ {l : List Int} {k : Nat} (h : k < l.length) : minZ (l.take (k + 1)) = min (minZ (l.take k)) l[k] := by
  unfold minZ
  rw [List.take_succ_eq_append_getElem h, List.foldl_append]; rfl
theorem foldl_min_le (l : List Int) : ∀ (a : Int), l.foldl min a ≤ a ∧ ∀ x ∈ l, l.foldl min a ≤ x := by
  induction l with
  | nil => intro a; exact ⟨Int.le_refl _, fun x h => by cases h⟩
  | cons y l ih =>
    intro a
    have := ih (min a y)
    refine ⟨?_, fun x hx => ?_⟩
    · rw [List.foldl_cons]; have := this.1; omega
    · rw [List.foldl_cons]
      rcases List.mem_cons.1 hx with rfl | hx
      · have := this.1; omega
      · exact this.2 x hx
theorem foldl_min_mem (l : List Int) : ∀ (a : Int), l.foldl min a = a ∨ l.foldl min a ∈ l := by
  induction l with
  | nil => intro a; exact .inl rfl
  | cons y l ih =>
    intro a
    rw [List.foldl_cons]
    rcases ih (min a y) with h | h
    · rcases Int.le_total a y with h2 | h2
      · left; rw [h]; omega
      · right; rw [h, Int.min_eq_right h2]; simp
    · right; exact List.mem_cons_of_mem _ h
theorem minZ_le {l : List Int} {x : Int} (h : x ∈ l) : minZ l ≤ x := (foldl_min_le l _).2 x h
theorem minZ_mem {l : List Int} (h : l ≠ []) (hr : ∀ x ∈ l, x ≤ 9223372036854775807) : minZ l ∈ l := by
  rcases foldl_min_mem l 9223372036854775807 with h1 | h1
  · cases l with
    | nil => exact absurd rfl h
    | cons y l =>
      have h2 := (foldl_min_le (y :: l) 9223372036854775807).2 y (by simp)
      have h3 := hr y (by simp)
      rw [h1] at h2
      have : minZ (y :: l) = y := by unfold minZ; rw [h1]; omega
      rw [this]; simp
  · exact h1
end Go.Proofs.YtmonepclhbappaaDoor
