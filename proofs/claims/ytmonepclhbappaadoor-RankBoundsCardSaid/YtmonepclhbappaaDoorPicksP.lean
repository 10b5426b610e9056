/-
  All choices of k of a list, plainly.
-/
import Derived.Test.YtmonepclhbappaaDoorWords
namespace Go.Proofs.YtmonepclhbappaaDoor
set_option linter.unusedVariables false

def combos : Nat → List Int → List (List Int)
  | 0, _ => [[]]
  | _ + 1, [] => []
  | k + 1, x :: S => (combos k S).map (x :: ·) ++ combos (k + 1) S
theorem combos_zero (S : List Int) : combos 0 S = [[]] := by cases S <;> rfl
theorem combos_short : ∀ (S : List Int) (k : Nat), S.length < k → combos k S = []
  | [], k + 1, _ => rfl
  | x :: S, k + 1, h => by
    rw [combos, combos_short S (k + 1) (by simp at h; omega), List.append_nil]
    rw [combos_short S k (by simp at h; omega)]; rfl
  | _, 0, h => by omega
theorem combos_at {S : List Int} {i : Nat} {x : Int} (k : Nat) (h : S[i]? = some x) : combos (k + 1) (S.drop i) = (combos k (S.drop (i + 1))).map (x :: ·) ++ combos (k + 1) (S.drop (i + 1)) := by
  obtain ⟨hi, he⟩ := List.getElem?_eq_some_iff.1 h
  rw [List.drop_eq_getElem_cons hi, he, combos]
theorem combos_el : ∀ (k : Nat) (S : List Int), ∀ q ∈ combos k S, q.length = k
  | 0, S, q, h => by rw [combos_zero] at h; obtain rfl : q = [] := by simpa using h
                     rfl
  | k + 1, [], q, h => by simp [combos] at h
  | k + 1, x :: S, q, h => by
    rw [combos] at h
    rcases List.mem_append.1 h with h | h
    · obtain ⟨r, hr, rfl⟩ := List.mem_map.1 h
      rw [List.length_cons, combos_el k S r hr]
    · exact combos_el (k + 1) S q h
/-- The choices of k; none where there are none. -/
def choices (S : List Int) (k : Int) : List (List Int) := if 0 ≤ k ∧ k ≤ S.length then combos k.toNat S else []
end Go.Proofs.YtmonepclhbappaaDoor
