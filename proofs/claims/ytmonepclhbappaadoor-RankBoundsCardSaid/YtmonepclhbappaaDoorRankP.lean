/-
  The plain law of chapter 14's parts: no program in sight.
-/
import Derived.Test.YtmonepclhbappaaDoorWords
namespace Go.Proofs.YtmonepclhbappaaDoor
namespace Rk

/-- The parts' cells. -/
def cells (l : List (Int × Int)) : List Value := l.flatMap fun p => [.int .i64 p.1, .int .i64 p.2]
theorem cells_nil : cells [] = [] := rfl
theorem cells_snoc (l : List (Int × Int)) (a b : Int) : cells (l ++ [(a, b)]) = cells l ++ [.int .i64 a, .int .i64 b] := by simp [cells]
theorem cells_length (l : List (Int × Int)) : (cells l).length = l.length * 2 := by
  induction l with
  | nil => rfl
  | cons p l ih => simp only [cells, List.flatMap_cons, List.length_append, List.length_cons, List.length_nil] at ih ⊢; omega
theorem cells_at : ∀ (l : List (Int × Int)) (k : Nat) (h : k < l.length), (cells l)[k * 2 + 0]? = some (.int .i64 l[k].1) ∧ (cells l)[k * 2 + 1]? = some (.int .i64 l[k].2)
  | p :: l, 0, _ => by simp [cells]
  | p :: l, k + 1, h => by
    have ih := cells_at l k (by simpa using h)
    have e0 : (k + 1) * 2 + 0 = (k * 2 + 0) + 2 := by omega
    have e1 : (k + 1) * 2 + 1 = (k * 2 + 1) + 2 := by omega
    rw [e0, e1]
    simp only [cells, List.flatMap_cons, List.cons_append, List.nil_append, List.getElem?_cons_succ, List.getElem_cons_succ] at ih ⊢
    exact ih

/-- Whole: where the parts end, if they go one behind the other. -/
def whole : Int → List (Int × Int) → Option Int
  | at_, [] => some at_
  | at_, p :: l => if p.1 = at_ ∧ p.1 ≤ p.2 then whole p.2 l else none
def wholeV : Option Int → Value
  | some n => .tuple #[.int .i64 n, .bool true]
  | none => .tuple #[.int .i64 0, .bool false]

/-- Where part i of a split begins. -/
def start (total n i : Int) : Int := i * (total / n) + min i (total % n)
def parts (total : Int) (n : Nat) : List (Int × Int) := (List.range n).map fun (i : Nat) => (start total n (i : Int), start total n ((i : Int) + 1))
theorem start_zero (total n : Int) (h0 : 0 ≤ total) (hn : 0 < n) : start total n 0 = 0 := by
  have := Int.emod_nonneg total (Int.ne_of_gt hn)
  unfold start; omega
theorem start_end (total n : Int) (hn : 0 < n) : start total n n = total := by
  have h1 := Int.emod_lt_of_pos total hn
  have h2 := Int.mul_ediv_add_emod total n
  unfold start
  rw [Int.min_eq_right (by omega)]
  exact h2
theorem start_succ (total n i : Int) : start total n (i + 1) = start total n i + total / n + (if i < total % n then 1 else 0) := by
  unfold start
  have : (i + 1) * (total / n) = i * (total / n) + total / n := by rw [Int.add_mul]; omega
  split <;> omega
theorem start_le (total n i : Int) (h0 : 0 ≤ total) (hn : 0 < n) (hi : 0 ≤ i) (hin : i ≤ n) : 0 ≤ start total n i ∧ start total n i ≤ total := by
  have h1 := Int.emod_lt_of_pos total hn
  have h2 := Int.mul_ediv_add_emod total n
  have h3 := Int.emod_nonneg total (Int.ne_of_gt hn)
  have h4 : 0 ≤ total / n := Int.ediv_nonneg h0 (by omega)
  have h5 : i * (total / n) ≤ n * (total / n) := Int.mul_le_mul_of_nonneg_right hin h4
  have h6 : 0 ≤ i * (total / n) := Int.mul_nonneg hi h4
  unfold start
  constructor
  · omega
  · by_cases h : i ≤ total % n
    · have h7 : (n - i) * (total / n) ≥ 0 := Int.mul_nonneg (by omega) h4
      rw [Int.sub_mul] at h7
      omega
    · rw [Int.min_eq_right (by omega)]; omega
/-- What is left, shared among who is left: the size of part i, as the document has it. -/
theorem left_div (total n i : Int) (h0 : 0 ≤ total) (hn : 0 < n) (hi : 0 ≤ i) (hin : i < n) :
    start total n (i + 1) = start total n i + ((total - start total n i) / (n - i) + if (total - start total n i) % (n - i) = 0 then 0 else 1) := by
  have h1 := Int.emod_lt_of_pos total hn
  have h2 := Int.mul_ediv_add_emod total n
  have h3 := Int.emod_nonneg total (Int.ne_of_gt hn)
  rw [start_succ, Int.add_assoc]
  congr 1
  generalize hq : total / n = q at *
  generalize hr : total % n = r at *
  have hs : start total n i = i * q + min i r := by unfold start; rw [hq, hr]
  rw [hs]
  have hd : 0 < n - i := by omega
  by_cases hir : i < r
  · have e : total - (i * q + min i r) = (n - i) * q + (r - i) := by
      rw [Int.min_eq_left (by omega), Int.sub_mul]; omega
    rw [e, Int.add_comm ((n - i) * q), Int.add_mul_ediv_left _ _ (Int.ne_of_gt hd), Int.add_mul_emod_self_left, Int.ediv_eq_zero_of_lt (by omega) (by omega), Int.emod_eq_of_lt (by omega) (by omega)]
    rw [if_pos hir, if_neg (by omega)]
    omega
  · have e : total - (i * q + min i r) = (n - i) * q := by
      rw [Int.min_eq_right (by omega), Int.sub_mul]; omega
    rw [e, Int.mul_ediv_cancel_left _ (Int.ne_of_gt hd), Int.mul_emod_right, if_neg hir, if_pos rfl]

theorem whole_from (total : Int) (n : Nat) (h0 : 0 ≤ total) (hn : 0 < n) : ∀ k, k ≤ n → whole (start total n (n - k : Nat)) ((parts total n).drop (n - k)) = some total
  | 0, _ => by
    have : (parts total n).drop n = [] := by simp [parts]
    simp only [Nat.sub_zero, this, whole]
    rw [start_end total n (by omega)]
  | k + 1, hk => by
    have ih := whole_from total n h0 hn k (by omega)
    have hlt : n - (k + 1) < (parts total n).length := by simp [parts]; omega
    rw [List.drop_eq_getElem_cons hlt]
    have e : (parts total n)[n - (k + 1)] = (start total n (n - (k + 1) : Nat), start total n ((n - (k + 1) : Nat) + 1)) := by simp [parts]
    have hle : start total n (n - (k + 1) : Nat) ≤ start total n ((n - (k + 1) : Nat) + 1) := by
      rw [start_succ]
      have h4 : 0 ≤ total / (n : Int) := Int.ediv_nonneg h0 (by omega)
      split <;> omega
    have en : n - (k + 1) + 1 = n - k := by omega
    have ec : ((n - (k + 1) : Nat) : Int) + 1 = ((n - k : Nat) : Int) := by omega
    simp only [whole]
    rw [e, if_pos ⟨rfl, hle⟩, en]
    simp only [ec]
    exact ih
theorem whole_parts (total : Int) (n : Nat) (h0 : 0 ≤ total) (hn : 0 < n) : whole 0 (parts total n) = some total := by
  have h := whole_from total n h0 hn n (Nat.le_refl _)
  have e : ((n - n : Nat) : Int) = 0 := by omega
  rw [e, start_zero total n h0 (by omega)] at h
  simpa using h
theorem parts_take_succ (total : Int) (n k : Nat) (hk : k < n) : (parts total n).take (k + 1) = (parts total n).take k ++ [(start total n k, start total n (k + 1))] := by
  rw [List.take_succ_eq_append_getElem (by simp [parts]; omega)]
  simp [parts]
theorem parts_length (total : Int) (n : Nat) : (parts total n).length = n := by simp [parts]
end Rk
end Go.Proofs.YtmonepclhbappaaDoor
