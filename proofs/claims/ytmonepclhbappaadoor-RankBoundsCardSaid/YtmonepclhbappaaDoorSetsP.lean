/-
  Sets of numbers, plainly: the sorted list without its doubles is the document's set.
-/
import Derived.Test.YtmonepclhbappaaDoorSetsRef
import Derived.Lib.SlicesCompact
namespace Go.Proofs.YtmonepclhbappaaDoor
open Go.Lib
set_option linter.unusedVariables false

theorem compact_upto (zs : List Int) (hs : zs.Pairwise (· ≤ ·)) : ∀ m, m ≤ zs.length → (compactUpTo zs.toArray m).Pairwise (· < ·) ∧ ∀ y, y ∈ compactUpTo zs.toArray m ↔ y ∈ zs.take m
  | 0, _ => ⟨by simp [compactUpTo], by simp [compactUpTo]⟩
  | m + 1, h => by
    obtain ⟨ih1, ih2⟩ := compact_upto zs hs m (by omega)
    have hm : m < zs.length := by omega
    have hd : ∀ j, j < zs.length → zs.toArray[j]! = zs.getD j 0 := fun j hj => by
      rw [getElem!_pos _ _ (by simpa using hj)]
      simp [List.getD_eq_getElem?_getD, List.getElem?_eq_getElem hj]
    have hT := List.take_succ_eq_append_getElem hm
    have hg : zs.getD m 0 = zs[m] := by simp [List.getD_eq_getElem?_getD, List.getElem?_eq_getElem hm]
    rw [compactUpTo_succ, hT]
    by_cases hk : keeps zs.toArray m = true
    · rw [if_pos hk, hd m hm, hg]
      refine ⟨List.pairwise_append.2 ⟨ih1, List.pairwise_singleton _ _, fun a ha b hb => ?_⟩, fun y => ?_⟩
      · obtain rfl : b = zs[m] := by simpa using hb
        have ha' := (ih2 a).1 ha
        unfold keeps at hk
        have hk' := of_decide_eq_true hk
        obtain ⟨i, hi, rfl⟩ := List.getElem_of_mem ha'
        rw [List.length_take] at hi
        have him : i < m := by omega
        rw [List.getElem_take]
        rcases hk' with h0 | hne
        · omega
        · have h1 : zs[m - 1]'(by omega) ≤ zs[m] := (List.pairwise_iff_getElem.1 hs) (m - 1) m (by omega) hm (by omega)
          have h2 : zs[i]'(by omega) ≤ zs[m - 1]'(by omega) := by
            by_cases e : i = m - 1
            · subst e; exact Int.le_refl _
            · exact (List.pairwise_iff_getElem.1 hs) i (m - 1) (by omega) (by omega) (by omega)
          rw [hd m hm, hd (m - 1) (by omega), hg] at hne
          have hg2 : zs.getD (m - 1) 0 = zs[m - 1]'(by omega) := by simp [List.getD_eq_getElem?_getD, List.getElem?_eq_getElem (show m - 1 < zs.length by omega)]
          rw [hg2] at hne
          have : zs[m - 1]'(by omega) < zs[m] := by omega
          omega
      · rw [List.mem_append, List.mem_append, ih2]
    · rw [if_neg hk, List.append_nil]
      refine ⟨ih1, fun y => ?_⟩
      rw [ih2, List.mem_append]
      refine ⟨.inl, fun h => h.elim id fun h => ?_⟩
      obtain rfl : y = zs[m] := by simpa using h
      unfold keeps at hk
      have hk' := of_decide_eq_false (Bool.eq_false_iff.2 hk)
      have h0 : ¬ m = 0 := fun e => hk' (.inl e)
      have h1 : zs.toArray[m]! = zs.toArray[m - 1]! := Classical.not_not.1 fun e => hk' (.inr e)
      rw [hd m hm, hd (m - 1) (by omega), hg] at h1
      rw [h1, List.getD_eq_getElem?_getD, List.getElem?_eq_getElem (show m - 1 < zs.length by omega)]
      exact List.mem_take_iff_getElem.2 ⟨m - 1, by omega, rfl⟩

theorem compact_sorted (l : List Int) : compact (l.mergeSort fun x y => decide (x ≤ y)) = setL l := by
  have hs : (l.mergeSort fun x y => decide (x ≤ y)).Pairwise (· ≤ ·) := by
    have := List.pairwise_mergeSort (le := fun (x y : Int) => decide (x ≤ y)) (fun a b c h1 h2 => by simp at *; omega) (fun a b => by simp; omega) l
    exact this.imp fun h => by simpa using h
  obtain ⟨h1, h2⟩ := compact_upto _ hs _ (Nat.le_refl _)
  refine inc_ext h1 (setL_inc l) (fun y => ?_)
  refine Iff.trans (h2 y) ?_
  rw [List.take_of_length_le (Nat.le_refl _), setL_mem]
  exact (List.mergeSort_perm l _).mem_iff
theorem setL_le (l : List Int) : (setL l).length ≤ l.length := by have := setL_len l []; simpa [setL] using this
end Go.Proofs.YtmonepclhbappaaDoor
