/-
  Rows of ints that came in.
-/
import Derived.Test.YtmonepclhbappaaDoorFrame
import Derived.Test.YtmonepclhbappaaDoorRowsL
namespace Go.Proofs.YtmonepclhbappaaDoor
open Go.ChangeShapes Go.WideShapes Go.ChangeAt Go.RowKit
set_option linter.unusedVariables false
section
variable {H : Type} {enc : TypeId × Value → H} {w : World} {base : Nat} {spare : Nat → Bool} {held : Bool}
theorem open_row {fuel : Nat} {v : Value} {y : DataW H × List MemPlace} (h : DataW.trod enc Tryd.prog w base spare held fuel 22 [v] = some y) : ∃ t : Option Addr × Nat × List Int, v = rv t ∧ RowOK w t := by
  rcases Deep.open_slice Tryd.underlying22 h with ⟨h0, _⟩ | ⟨a, len, cap, m, f', D, Pl, hv, _, hl, hm, hmm, _, hx⟩
  · injection h0 with h0 _
    exact ⟨(none, 0, []), h0, Sl.nil _ _ _, Nat.le_refl _, Nat.zero_le _⟩
  · injection hv with hv _
    subst hv
    obtain ⟨_, zs, h1, h2, _⟩ := open_sl_ints Tryd.underlying22 Tryd.underlying3 (by kernel_rfl) h
    subst h1
    exact ⟨(some a, cap, zs), rfl, h2, hl, Nat.le_trans hm (by decide)⟩
theorem rows_of {w : World} : ∀ css : List (List Value), (∀ cs ∈ css, ∃ t, cs = [rv t] ∧ RowOK w t) → ∃ its : List (Option Addr × Nat × List Int), css.flatten = its.map rv ∧ its.length = css.length ∧ AllRows w its
  | [], _ => ⟨[], rfl, rfl, fun t ht => by cases ht⟩
  | cs :: css, h => by
    obtain ⟨t, rfl, ht⟩ := h cs (List.mem_cons_self ..)
    obtain ⟨its, h1, h2, h3⟩ := rows_of css fun c hc => h c (List.mem_cons_of_mem _ hc)
    refine ⟨t :: its, by rw [List.flatten_cons, h1]; rfl, by simp [h2], fun u hu => ?_⟩
    rcases List.mem_cons.1 hu with rfl | hu
    · exact ht
    · exact h3 u hu
theorem open_sl_rows {fuel n c : Nat} {A : Option Addr} {x : DataW H × List MemPlace} (h : DataW.trod enc Tryd.prog w base spare held fuel 40 [.slice A n c] = some x) :
    n ≤ maxLen ∧ ∃ its : List (Option Addr × Nat × List Int), its.length = n ∧ Sl w 1 A n (its.map rv) ∧ AllRows w its := by
  obtain ⟨hm, css, h1, h2, h3⟩ := open_sl (s := 1) (by kernel_rfl) (by omega) Tryd.underlying40 h
  obtain ⟨its, h4, h5, h6⟩ := rows_of (w := w) css fun cs hc => by
    obtain ⟨hl, fu, y, hy⟩ := h3 cs hc
    obtain ⟨v, rfl⟩ : ∃ v, cs = [v] := List.length_eq_one_iff.1 hl
    obtain ⟨t, rfl, ht⟩ := open_row hy
    exact ⟨t, rfl, ht⟩
  rw [h4] at h2
  exact ⟨hm, its, by omega, h2, h6⟩
end
end Go.Proofs.YtmonepclhbappaaDoor
