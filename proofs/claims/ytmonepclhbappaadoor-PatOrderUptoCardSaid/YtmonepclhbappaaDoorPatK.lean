/-
  Patterns: slices.Clone, Make of the chapter's example.
-/
import Derived.Test.YtmonepclhbappaaDoorPatM
namespace Go.Proofs.YtmonepclhbappaaDoor
open Go.RowKit
attribute [local go_sem ↓] Go.wp_at_zero Go.wp_at_succ
set_option maxRecDepth 100000
set_option linter.unusedVariables false

theorem CloneI_own (l : List Int) (A : Option Addr) (n c : Nat) (w : World) (hl : l.length = n) (hn : n ≤ 1099511627776) (hs : Sl w 1 A n (l.map (Value.int .i64))) :
    Calls Tryd.prog 76 #[.slice A n c] w fun e w' => ∃ v, e = .returned v ∧ w'.ownsRow w.heap.size 3 1 v n (l.map (Value.int .i64)) ∧ Below w.heap.size w w' := by
  have nn := fun (w : World) (a : Option Addr) (n c : Nat) => Lib.run_eql_slice_nil (P := Tryd.prog) w 22 3 a n c 0 0 Tryd.underlying22
  have HS := Lib.hid hs
  go_enter Tryd.func76, Tryd.ntmps76
  rcases A with _ | A
  · have hn0 : n = 0 := by
      rcases Nat.eq_zero_or_pos n with h | h
      · exact h
      · obtain ⟨_, _, h, _⟩ := hs.2 h; cases h
    subst hn0
    clear hs
    go_wp2_with fail
    go_ret
    obtain rfl := List.eq_nil_of_length_eq_zero hl
    exact ⟨_, rfl, World.ownsRow_nil _ _ _ _, Below.refl _ _⟩
  · have hbA := bel_al (Below.refl w.heap.size w) (.cells #[] 3)
    have HOE := Lib.hid (World.ownsRow_made (e := 3) (size := 1) w #[] 0 (Nat.le_refl _) (Nat.zero_le _) rfl)
    have HBA := Lib.hid hbA
    have SPA := Lib.hid (HS.out.keep hbA)
    clear hs hbA
    go_wp2_with (at_builtin; refine wpList_cat_at elemInt _ _ rfl rfl HOE.out HBA.out.size SPA.out rfl rfl (one_i64 _) (by unfold lim; omega) (by unfold lim; omega) ?_; intro v8 w8 hown8 hg8; have HO8 := Lib.hid hown8; have HB8 := Lib.hid (HBA.out.trans (hg8.belowOwn HBA.out.size HOE.out)); clear hown8 hg8 HOE HBA SPA)
    go_ret
    have hown := HO8.out
    rw [List.nil_append, Nat.zero_add] at hown
    exact ⟨_, rfl, hown, HB8.out⟩

def exE : List (Int × Int) := [(2, 1), (0, 1), (0, 2)]
def rk : Nat → List (Int × Int)
  | 0 => []
  | 1 => [(1, 2)]
  | 2 => [(0, 1), (1, 2)]
  | _ => [(0, 1), (0, 2), (1, 2)]
theorem rise0 : riseE [] := fun i j e f hij he hf => absurd he (by simp)
theorem rise1 (a : Int × Int) : riseE [a] := by
  intro i j e f hij he hf
  have h1 := (List.getElem?_eq_some_iff.1 hf).1
  simp at h1
  omega
theorem rise2 {a b : Int × Int} (h : Pt.ordE a b < 0) : riseE [a, b] := by
  intro i j e f hij he hf
  have h1 := (List.getElem?_eq_some_iff.1 hf).1
  simp at h1
  obtain rfl : i = 0 := by omega
  obtain rfl : j = 1 := by omega
  cases he
  cases hf
  exact h
structure ExF (k : Nat) (x y : Int) (t : Int × Int) (p : Nat) : Prop where
  at_ : exE[k]? = some (x, y)
  in_ : 0 ≤ x ∧ 0 ≤ y ∧ x < 3 ∧ y < 3
  ne : x ≠ y
  turn : turnE (x, y) = t
  rise : riseE (rk k)
  len : (rk k).length = k
  spot : ∀ q, spotE (rk k) t q → q = p
  le : p ≤ k
  new : ¬ ∃ f, (rk k)[p]? = some f ∧ Pt.ordE f t = 0
  ins : insE (rk k) p t = rk (k + 1)
theorem exF0 : ExF 0 2 1 (1, 2) 0 := { at_ := rfl, in_ := by omega, ne := by omega, turn := by decide, rise := rise0, len := rfl, spot := fun q h => (by have := h.1; simp [rk] at this; exact this), le := Nat.le_refl _, new := fun h => (by obtain ⟨f, hf, _⟩ := h; cases hf), ins := rfl }
theorem spot1 : ∀ q, spotE (rk 1) (0, 1) q → q = 0 := fun q h => by
  rcases Nat.eq_zero_or_pos q with h0 | h0
  · exact h0
  · have := h.2.1 0 (1, 2) h0 rfl
    exact absurd this (by decide)
theorem new1 : ¬ ∃ f, (rk 1)[0]? = some f ∧ Pt.ordE f (0, 1) = 0 := fun h => by
  obtain ⟨f, hf, h⟩ := h
  cases hf
  exact absurd h (by decide)
theorem exF1 : ExF 1 0 1 (0, 1) 0 := { at_ := rfl, in_ := by omega, ne := by omega, turn := by decide, rise := rise1 _, len := rfl, spot := spot1, le := by omega, new := new1, ins := rfl }
theorem spot2 : ∀ q, spotE (rk 2) (0, 2) q → q = 1 := fun q h => by
  rcases Nat.lt_trichotomy q 1 with h0 | h0 | h0
  · have := h.2.2 0 (0, 1) (by omega) rfl
    exact absurd this (by decide)
  · exact h0
  · have := h.2.1 1 (1, 2) h0 rfl
    exact absurd this (by decide)
theorem new2 : ¬ ∃ f, (rk 2)[1]? = some f ∧ Pt.ordE f (0, 2) = 0 := fun h => by
  obtain ⟨f, hf, h⟩ := h
  cases hf
  exact absurd h (by decide)
theorem exF2 : ExF 2 0 2 (0, 2) 1 := { at_ := rfl, in_ := by omega, ne := by omega, turn := by decide, rise := rise2 (by decide), len := rfl, spot := spot2, le := by omega, new := new2, ins := rfl }
theorem ex_facts (k : Nat) (hk : k < 3) : ∃ x y t p, ExF k x y t p := by
  rcases k with _ | k
  · exact ⟨_, _, _, _, exF0⟩
  · rcases k with _ | k
    · exact ⟨_, _, _, _, exF1⟩
    · rcases k with _ | k
      · exact ⟨_, _, _, _, exF2⟩
      · omega
end Go.Proofs.YtmonepclhbappaaDoor
