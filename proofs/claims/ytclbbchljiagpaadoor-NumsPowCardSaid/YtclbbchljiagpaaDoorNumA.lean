/-
  Digits of base 32768, plainly: no program in sight.
-/
import Derived.Test.YtclbbchljiagpaaDoorWords
namespace Go.Proofs.YtclbbchljiagpaaDoor

/-- The digits of a number, the lowest first, without noughts at the end. -/
def digs (n : Nat) : List Nat := if h : n = 0 then [] else (n % 32768) :: digs (n / 32768)
termination_by n
decreasing_by omega
/-- What digits say. -/
def valD : List Nat → Nat
  | [] => 0
  | d :: l => d + 32768 * valD l
def Dig (l : List Nat) : Prop := ∀ d ∈ l, d < 32768
/-- Digits without noughts at the end. -/
def Nrm : List Nat → Prop
  | [] => True
  | [d] => d < 32768 ∧ d ≠ 0
  | d :: e :: l => d < 32768 ∧ Nrm (e :: l)
theorem digs_zero : digs 0 = [] := by rw [digs]; simp
theorem digs_pos {n : Nat} (h : n ≠ 0) : digs n = (n % 32768) :: digs (n / 32768) := by rw [digs]; simp [h]
theorem digs_nrm (n : Nat) : Nrm (digs n) := by
  induction n using Nat.strongRecOn with
  | ind n ih =>
    by_cases h : n = 0
    · rw [h, digs_zero]; trivial
    · rw [digs_pos h]
      by_cases h2 : n / 32768 = 0
      · rw [h2, digs_zero]
        exact ⟨Nat.mod_lt _ (by omega), by omega⟩
      · have := ih (n / 32768) (by omega)
        rw [digs_pos h2] at this ⊢
        exact ⟨Nat.mod_lt _ (by omega), this⟩
theorem Nrm.tail : ∀ {d : Nat} {l : List Nat}, Nrm (d :: l) → Nrm l
  | _, [], _ => trivial
  | _, _ :: _, h => h.2
theorem Nrm.dig : ∀ {l : List Nat}, Nrm l → Dig l
  | [], _, _, hd => absurd hd (by simp)
  | [d], h, x, hx => by
    obtain rfl : x = d := by simpa using hx
    exact h.1
  | d :: e :: l, h, x, hx => by
    rcases List.mem_cons.1 hx with rfl | hx
    · exact h.1
    · exact Nrm.dig h.2 x hx
theorem valD_digs (n : Nat) : valD (digs n) = n := by
  induction n using Nat.strongRecOn with
  | ind n ih =>
    by_cases h : n = 0
    · rw [h, digs_zero]; rfl
    · rw [digs_pos h, valD, ih (n / 32768) (by omega)]; omega
theorem Nrm.pos : ∀ {d : Nat} {l : List Nat}, Nrm (d :: l) → valD (d :: l) ≠ 0
  | d, [], h => by have := h.2; simp only [valD]; omega
  | d, e :: l, h => by have := Nrm.pos h.2; rw [valD]; omega
theorem digs_valD : ∀ {l : List Nat}, Nrm l → digs (valD l) = l
  | [], _ => digs_zero
  | d :: l, h => by
    have hp := h.pos
    have hd := h.dig d (by simp)
    rw [digs_pos hp]
    rw [valD]
    rw [show (d + 32768 * valD l) % 32768 = d by omega, show (d + 32768 * valD l) / 32768 = valD l by omega, digs_valD h.tail]
theorem Dig.nil : Dig [] := fun _ h => absurd h (by simp)
theorem Dig.snoc {l : List Nat} {d : Nat} (h : Dig l) (hd : d < 32768) : Dig (l ++ [d]) := by
  intro x hx
  rcases List.mem_append.1 hx with hx | hx
  · exact h x hx
  · obtain rfl : x = d := by simpa using hx
    exact hd
theorem Dig.take {l : List Nat} (h : Dig l) (k : Nat) : Dig (l.take k) := fun x hx => h x (List.mem_of_mem_take hx)
theorem Dig.tail {d : Nat} {l : List Nat} (h : Dig (d :: l)) : Dig l := fun x hx => h x (List.mem_cons_of_mem _ hx)
theorem Dig.set {l : List Nat} (h : Dig l) (k : Nat) {d : Nat} (hd : d < 32768) : Dig (l.set k d) := fun y hy => by
  rcases List.mem_or_eq_of_mem_set hy with hy | rfl
  · exact h y hy
  · exact hd
theorem nrm_of : ∀ {l : List Nat}, Dig l → (∀ d, l.getLast? = some d → d ≠ 0) → Nrm l
  | [], _, _ => trivial
  | [d], h, hl => ⟨h d (by simp), hl d (by simp)⟩
  | d :: e :: l, h, hl => ⟨h d (by simp), nrm_of h.tail (fun x hx => hl x (by rw [List.getLast?_cons_cons]; exact hx))⟩
theorem valD_append : ∀ (a b : List Nat), valD (a ++ b) = valD a + 32768 ^ a.length * valD b
  | [], b => by simp [valD]
  | d :: a, b => by
    rw [List.cons_append, valD, valD_append a b, valD, List.length_cons, Nat.pow_succ, Nat.mul_add, ← Nat.mul_assoc, Nat.mul_comm 32768 (32768 ^ a.length)]
    omega
theorem valD_snoc (a : List Nat) (d : Nat) : valD (a ++ [d]) = valD a + 32768 ^ a.length * d := by
  rw [valD_append]; simp [valD]
theorem valD_lt : ∀ {l : List Nat}, Dig l → valD l < 32768 ^ l.length
  | [], _ => by simp [valD]
  | d :: l, h => by
    have h1 := valD_lt h.tail
    have h2 := h d (by simp)
    rw [valD, List.length_cons, Nat.pow_succ]
    omega
theorem valD_zeros (n : Nat) : valD (List.replicate n 0) = 0 := by
  induction n with
  | zero => rfl
  | succ n ih => rw [List.replicate_succ, valD, ih]
theorem valD_ge : ∀ {l : List Nat}, Nrm l → l ≠ [] → 32768 ^ (l.length - 1) ≤ valD l
  | [d], h, _ => by have := h.2; simp only [List.length_cons, List.length_nil, Nat.zero_add, Nat.sub_self, Nat.pow_zero, valD]; omega
  | d :: e :: l, h, _ => by
    have := valD_ge h.2 (by simp)
    rw [valD]
    simp only [List.length_cons, Nat.add_sub_cancel, Nat.pow_succ] at this ⊢
    omega
  | [], _, h => absurd rfl h
theorem pow_mono {a b : Nat} (h : a ≤ b) : (32768 : Nat) ^ a ≤ 32768 ^ b := Nat.pow_le_pow_right (by omega) h
theorem len_lt {a b : List Nat} (ha : Dig a) (hb : Nrm b) (h : a.length < b.length) : valD a < valD b := by
  have h1 := valD_lt ha
  have h2 := valD_ge hb (fun e => by rw [e] at h; simp at h)
  exact Nat.lt_of_lt_of_le h1 (Nat.le_trans (pow_mono (by omega)) h2)
/-- A number's digits are few. -/
theorem digs_len {n k : Nat} (h : n < 32768 ^ k) : (digs n).length ≤ k := by
  refine Nat.le_of_not_lt fun hk => ?_
  have h1 := valD_ge (digs_nrm n) (fun e => by rw [e] at hk; simp at hk)
  rw [valD_digs] at h1
  exact absurd (Nat.lt_of_le_of_lt (Nat.le_trans (pow_mono (by omega)) h1) h) (Nat.lt_irrefl _)
theorem digs_len_mono {a b : Nat} (h : a ≤ b) : (digs a).length ≤ (digs b).length := by
  refine digs_len (Nat.lt_of_le_of_lt h ?_)
  have := valD_lt (digs_nrm b).dig
  rwa [valD_digs] at this
/-- A digit, or 0. -/
def atD (l : List Nat) (i : Nat) : Nat := l.getD i 0
theorem atD_lt {l : List Nat} (h : Dig l) (i : Nat) : atD l i < 32768 := by
  unfold atD
  rw [List.getD_eq_getElem?_getD]
  by_cases hi : i < l.length
  · rw [List.getElem?_eq_getElem hi]; exact h _ (List.getElem_mem hi)
  · rw [List.getElem?_eq_none (by omega)]; simp
theorem valD_take_succ (l : List Nat) (i : Nat) : valD (l.take (i + 1)) = valD (l.take i) + 32768 ^ i * atD l i := by
  unfold atD
  by_cases hi : i < l.length
  · rw [List.take_succ_eq_append_getElem hi, valD_snoc, List.getD_eq_getElem?_getD, List.getElem?_eq_getElem hi, List.length_take, Nat.min_eq_left (by omega)]
    rfl
  · rw [List.take_of_length_le (by omega), List.take_of_length_le (by omega), List.getD_eq_getElem?_getD, List.getElem?_eq_none (by omega)]
    simp
/-- Two of one length that part at one digit, the higher ones being alike. -/
theorem top_lt {a b : List Nat} {i : Nat} (ha : Dig a) (h : a.drop (i + 1) = b.drop (i + 1)) (hia : i < a.length) (hib : i < b.length) (hlt : a[i] < b[i]) : valD a < valD b := by
  have e1 : valD a = valD (a.take i) + 32768 ^ i * (a[i] + 32768 * valD (a.drop (i + 1))) := by
    conv => lhs; rw [← List.take_append_drop i a, valD_append, List.drop_eq_getElem_cons hia, valD, List.length_take, Nat.min_eq_left (by omega)]
  have e2 : valD b = valD (b.take i) + 32768 ^ i * (b[i] + 32768 * valD (b.drop (i + 1))) := by
    conv => lhs; rw [← List.take_append_drop i b, valD_append, List.drop_eq_getElem_cons hib, valD, List.length_take, Nat.min_eq_left (by omega)]
  rw [e1, e2, h]
  have h1 := valD_lt (ha.take i)
  rw [List.length_take, Nat.min_eq_left (by omega)] at h1
  have h2 : 32768 ^ i * (a[i] + 32768 * valD (b.drop (i + 1)) + 1) ≤ 32768 ^ i * (b[i] + 32768 * valD (b.drop (i + 1))) := Nat.mul_le_mul_left _ (by omega)
  rw [Nat.mul_add _ _ 1] at h2
  omega
theorem valD_set : ∀ (l : List Nat) (j x : Nat) (h : j < l.length), valD (l.set j x) + 32768 ^ j * l[j] = valD l + 32768 ^ j * x
  | d :: l, 0, x, _ => by simp [valD]; omega
  | d :: l, j + 1, x, h => by
    have := valD_set l j x (by simpa using h)
    simp only [List.set_cons_succ, valD, List.getElem_cons_succ, Nat.pow_succ]
    have e1 : 32768 ^ j * 32768 * l[j]'(by simpa using h) = 32768 * (32768 ^ j * l[j]'(by simpa using h)) := by rw [Nat.mul_comm (32768 ^ j) 32768, Nat.mul_assoc]
    have e2 : 32768 ^ j * 32768 * x = 32768 * (32768 ^ j * x) := by rw [Nat.mul_comm (32768 ^ j) 32768, Nat.mul_assoc]
    rw [e1, e2]
    omega
end Go.Proofs.YtclbbchljiagpaaDoor
