/-
  The walk of PatOrder.
-/
import Derived.Test.YtmonepclhbappaaDoorLaw08
import Derived.Test.YtmonepclhbappaaDoorPatF
import Derived.Test.YtmonepclhbappaaDoorPatT
namespace Go.Proofs.YtmonepclhbappaaDoor
open Go.RowKit
attribute [local go_sem ↓] Go.wp_at_zero Go.wp_at_succ
set_option maxRecDepth 100000
set_option linter.unusedVariables false

theorem Pt.cmpI_range (a b : Int) : Pt.cmpI a b = -1 ∨ Pt.cmpI a b = 0 ∨ Pt.cmpI a b = 1 := by unfold Pt.cmpI; split <;> (try split) <;> omega
theorem Pt.or2_range {a b : Int} (ha : a = -1 ∨ a = 0 ∨ a = 1) (hb : b = -1 ∨ b = 0 ∨ b = 1) : Pt.or2 a b = -1 ∨ Pt.or2 a b = 0 ∨ Pt.or2 a b = 1 := by unfold Pt.or2; split <;> assumption
theorem Pt.cmpBy_range {α : Type} {f : α → α → Int} (hf : ∀ x y, f x y = -1 ∨ f x y = 0 ∨ f x y = 1) : ∀ l m, Pt.cmpBy f l m = -1 ∨ Pt.cmpBy f l m = 0 ∨ Pt.cmpBy f l m = 1
  | [], [] => .inr (.inl rfl)
  | [], _ :: _ => .inl rfl
  | _ :: _, [] => .inr (.inr rfl)
  | a :: l, b :: m => by
    unfold Pt.cmpBy
    split
    · exact Pt.cmpBy_range hf l m
    · exact hf a b
theorem Pt.cmpP_range (L : List Int) (E : List (Int × Int)) (L' : List Int) (E' : List (Int × Int)) : Pt.cmpP L E L' E' = -1 ∨ Pt.cmpP L E L' E' = 0 ∨ Pt.cmpP L E L' E' = 1 :=
  Pt.or2_range (Pt.cmpI_range _ _) (Pt.or2_range (Pt.cmpBy_range Pt.cmpI_range _ _) (Pt.or2_range (Pt.cmpI_range _ _) (Pt.cmpBy_range (fun _ _ => Pt.or2_range (Pt.cmpI_range _ _) (Pt.cmpI_range _ _)) _ _)))
theorem degs_le (E : List (Int × Int)) : ∀ k, Pt.degs E k ≤ k * E.length
  | 0 => by simp [Pt.degs]
  | k + 1 => by
    rw [Pt.degs, Nat.add_mul]
    have := degs_le E k
    have := deg_le E k
    omega

/-- What a pattern that is right is, plainly. -/
theorem right_facts {L : List Int} {E : List (Int × Int)} (h : rightP L E) : L.length ≤ 8 ∧ (∀ x ∈ L, 0 ≤ x ∧ x ≤ 255) ∧ (∀ e ∈ E, Pt.EdgeOK L.length e) :=
  ⟨h.1.1, h.1.2, fun e he => by
    obtain ⟨i, hi, rfl⟩ := List.mem_iff_getElem.1 he
    exact (h.2 i _ (List.getElem?_eq_getElem hi)).1⟩
theorem right_i64 {L : List Int} {E : List (Int × Int)} (h : rightP L E) : (∀ x ∈ L, i64P x) ∧ ∀ e ∈ E, i64P e.1 ∧ i64P e.2 := by
  obtain ⟨h1, h2, h3⟩ := right_facts h
  refine ⟨fun x hx => ?_, fun e he => ?_⟩
  · have := h2 x hx
    unfold i64P
    omega
  · obtain ⟨g1, g2, g3⟩ := h3 e he
    unfold i64P
    omega
theorem right_text {L L' : List Int} {E E' : List (Int × Int)} (h : rightP L E) (h' : rightP L' E') : textB L E = textB L' E' ↔ L = L' ∧ E = E' := by
  obtain ⟨h1, h2, h3⟩ := right_facts h
  obtain ⟨h1', h2', h3'⟩ := right_facts h'
  exact Pt.textB_inj (fun x hx => (h2 x hx).1) (fun x hx => (h2' x hx).1) (fun e he => ⟨(h3 e he).1, by have := h3 e he; unfold Pt.EdgeOK at this; omega⟩) (fun e he => ⟨(h3' e he).1, by have := h3' e he; unfold Pt.EdgeOK at this; omega⟩)
end Go.Proofs.YtmonepclhbappaaDoor
