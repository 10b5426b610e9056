/-
  SetsOrder, plainly: choices rise, are sets within, and are as many as with and without one.
-/
import Derived.Test.YtakkdpnaoahpcaaSetsTwo
namespace Go.Proofs.Ytakkdpnaoahpcaa
open Go.RowKit
set_option linter.unusedVariables false

theorem cmpL_trans : ∀ {a b c : List Int}, cmpL a b ≤ 0 → cmpL b c ≤ 0 → cmpL a c ≤ 0
  | [], _, [], _, _ => by simp [cmpL]
  | [], _, _ :: _, _, _ => by simp [cmpL]
  | _ :: _, [], _, h, _ => by simp [cmpL] at h
  | _ :: _, _ :: _, [], _, h => by simp [cmpL] at h
  | x :: a, y :: b, z :: c, h, k => by
    rw [cmpL] at h k ⊢
    by_cases h1 : x < y
    · by_cases h2 : y < z
      · rw [if_pos (by omega)]; omega
      · rw [if_neg h2] at k
        by_cases h3 : z < y
        · rw [if_pos h3] at k; omega
        · rw [if_pos (by omega)]; omega
    · rw [if_neg h1] at h
      by_cases h2 : y < x
      · rw [if_pos h2] at h; omega
      · rw [if_neg h2] at h
        by_cases h3 : y < z
        · rw [if_pos (by omega)]; omega
        · rw [if_neg h3] at k
          by_cases h4 : z < y
          · rw [if_pos h4] at k; omega
          · rw [if_neg h4] at k
            rw [if_neg (by omega), if_neg (by omega)]
            exact cmpL_trans h k
theorem combos_mem : ∀ (k : Nat) (S : List Int), ∀ q ∈ combos k S, ∀ y ∈ q, y ∈ S
  | 0, S, q, h, y, hy => by rw [combos_zero] at h; obtain rfl : q = [] := by simpa using h
                            cases hy
  | k + 1, [], q, h, y, hy => by simp [combos] at h
  | k + 1, x :: S, q, h, y, hy => by
    rw [combos] at h
    rcases List.mem_append.1 h with h | h
    · obtain ⟨r, hr, rfl⟩ := List.mem_map.1 h
      rcases List.mem_cons.1 hy with rfl | hy
      · exact List.mem_cons_self ..
      · exact List.mem_cons_of_mem _ (combos_mem k S r hr y hy)
    · exact List.mem_cons_of_mem _ (combos_mem (k + 1) S q h y hy)
theorem combos_inc : ∀ (k : Nat) (S : List Int), Inc S → ∀ q ∈ combos k S, Inc q
  | 0, S, _, q, h => by rw [combos_zero] at h; obtain rfl : q = [] := by simpa using h
                        exact List.Pairwise.nil
  | k + 1, [], _, q, h => by simp [combos] at h
  | k + 1, x :: S, hS, q, h => by
    have h1 := List.pairwise_cons.1 hS
    rw [combos] at h
    rcases List.mem_append.1 h with h | h
    · obtain ⟨r, hr, rfl⟩ := List.mem_map.1 h
      exact List.pairwise_cons.2 ⟨fun y hy => h1.1 y (combos_mem k S r hr y hy), combos_inc k S h1.2 r hr⟩
    · exact combos_inc (k + 1) S h1.2 q h
theorem combos_rise : ∀ (k : Nat) (S : List Int), Inc S → (combos k S).Pairwise fun p q => cmpL p q = -1
  | 0, S, _ => by rw [combos_zero]; exact List.pairwise_singleton _ _
  | k + 1, [], _ => by rw [combos]; exact List.Pairwise.nil
  | k + 1, x :: S, hS => by
    have h1 := List.pairwise_cons.1 hS
    rw [combos]
    refine List.pairwise_append.2 ⟨?_, combos_rise (k + 1) S h1.2, ?_⟩
    · rw [List.pairwise_map]
      refine (combos_rise k S h1.2).imp fun {p q} h => ?_
      rw [cmpL, if_neg (by omega), if_neg (by omega)]
      exact h
    · intro p hp q hq
      obtain ⟨r, hr, rfl⟩ := List.mem_map.1 hp
      have hl := combos_el (k + 1) S q hq
      cases q with
      | nil => simp at hl
      | cons y q =>
        have := h1.1 y (combos_mem (k + 1) S _ hq y (List.mem_cons_self ..))
        rw [cmpL, if_pos this]
/-- Choices of a number of things: whatever the number. -/
theorem choices_any (S : List Int) (k : Nat) : choices S (k : Int) = combos k S := by
  by_cases h : k ≤ S.length
  · exact choices_nat h
  · rw [choices_none (.inr (by omega)), combos_short S k (by omega)]
theorem choices_zero (S : List Int) : choices S 0 = [[]] := by
  have := choices_any S 0
  rw [combos_zero] at this
  exact this
theorem choices_cons (x : Int) (S : List Int) (k : Nat) : (choices (x :: S) ((k : Int) + 1)).length = (choices S (k : Int)).length + (choices S ((k : Int) + 1)).length := by
  have h1 := choices_any (x :: S) (k + 1)
  have h2 := choices_any S (k + 1)
  rw [show ((k + 1 : Nat) : Int) = (k : Int) + 1 from by omega] at h1 h2
  rw [h1, h2, choices_any, combos, List.length_append, List.length_map]
theorem rise_at2 {G : List (List Int)} (h : G.Pairwise fun p q => cmpL p q = -1) {i : Nat} {p q : List Int} (hp : G[i]? = some p) (hq : G[i + 1]? = some q) : cmpL p q = -1 := by
  obtain ⟨h1, h2⟩ := List.getElem?_eq_some_iff.1 hp
  obtain ⟨h3, h4⟩ := List.getElem?_eq_some_iff.1 hq
  have := List.pairwise_iff_getElem.1 h i (i + 1) h1 h3 (by omega)
  rw [h2, h4] at this
  exact this
end Go.Proofs.Ytakkdpnaoahpcaa
