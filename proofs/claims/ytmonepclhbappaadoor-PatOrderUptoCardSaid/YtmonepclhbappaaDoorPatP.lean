/-
  Patterns plainly: how two are held against each other, degrees.
-/
import Derived.RowKit
set_option linter.unusedVariables false
namespace Go.Proofs.YtmonepclhbappaaDoor.Pt

def cmpI (a b : Int) : Int := if a < b then -1 else if b < a then 1 else 0
/-- A comparison: turned round it is the other way; it goes on; only the same are alike. -/
structure Cp {α : Type} (f : α → α → Int) : Prop where
  anti : ∀ x y, f x y = - f y x
  trans : ∀ x y z, f x y ≤ 0 → f y z ≤ 0 → f x z ≤ 0
theorem Cp.self {α : Type} {f : α → α → Int} (h : Cp f) (x : α) : f x x = 0 := by have := h.anti x x; omega
theorem Cp.lt {α : Type} {f : α → α → Int} (h : Cp f) {x y z : α} (h1 : f x y < 0) (h2 : f y z ≤ 0) : f x z < 0 := by
  by_cases h3 : f x z < 0
  · exact h3
  · have h4 := h.anti z x
    have h5 := h.trans y z x h2 (by omega)
    have h6 := h.anti x y
    omega
theorem Cp.lt' {α : Type} {f : α → α → Int} (h : Cp f) {x y z : α} (h1 : f x y ≤ 0) (h2 : f y z < 0) : f x z < 0 := by
  by_cases h3 : f x z < 0
  · exact h3
  · have h4 := h.anti z x
    have h5 := h.trans z x y (by omega) h1
    have h6 := h.anti y z
    omega
theorem Cp.zero {α : Type} {f : α → α → Int} (h : Cp f) {x y z : α} (h1 : f x y = 0) (h2 : f y z = 0) : f x z = 0 := by
  have h3 := h.trans x y z (by omega) (by omega)
  have h4 := h.anti z y
  have h5 := h.anti y x
  have h6 := h.trans z y x (by have := h.anti y z; omega) (by omega)
  have h7 := h.anti x z
  omega
/-- The first that parts them. -/
def or2 (a b : Int) : Int := if a = 0 then b else a
theorem Cp.or {α : Type} {f g : α → α → Int} (hf : Cp f) (hg : Cp g) : Cp (fun x y => or2 (f x y) (g x y)) where
  anti x y := by
    have h1 := hf.anti x y
    have h2 := hg.anti x y
    unfold or2
    by_cases h : f x y = 0
    · rw [if_pos h, if_pos (by omega)]
      exact h2
    · rw [if_neg h, if_neg (by omega)]
      exact h1
  trans x y z h1 h2 := by
    unfold or2 at h1 h2 ⊢
    by_cases h3 : f x y = 0
    · rw [if_pos h3] at h1
      by_cases h4 : f y z = 0
      · rw [if_pos h4] at h2
        rw [if_pos (hf.zero h3 h4)]
        exact hg.trans x y z h1 h2
      · rw [if_neg h4] at h2
        have := hf.lt' (x := x) (by omega) (show f y z < 0 by omega)
        rw [if_neg (by omega)]
        omega
    · rw [if_neg h3] at h1
      have h6 : f y z ≤ 0 := by
        by_cases h4 : f y z = 0
        · omega
        · rw [if_neg h4] at h2
          exact h2
      have := hf.lt (show f x y < 0 by omega) h6
      rw [if_neg (by omega)]
      omega
theorem Cp.on {α β : Type} {f : α → α → Int} (h : Cp f) (k : β → α) : Cp (fun x y => f (k x) (k y)) := ⟨fun x y => h.anti _ _, fun x y z => h.trans _ _ _⟩
theorem cp_int : Cp cmpI where
  anti x y := by unfold cmpI; split <;> split <;> (try split) <;> omega
  trans x y z := by unfold cmpI; intro h1 h2; split at h1 <;> split at h2 <;> (try split at h1) <;> (try split at h2) <;> (try split) <;> (try split) <;> omega
theorem cmpI_zero {a b : Int} : cmpI a b = 0 ↔ a = b := by unfold cmpI; split <;> (try split) <;> constructor <;> intro h <;> omega
theorem or2_zero {a b : Int} : or2 a b = 0 ↔ a = 0 ∧ b = 0 := by unfold or2; split <;> constructor <;> intro h <;> simp_all

/-- One list by another. -/
def cmpBy {α : Type} (f : α → α → Int) : List α → List α → Int
  | [], [] => 0
  | [], _ :: _ => -1
  | _ :: _, [] => 1
  | a :: l, b :: m => if f a b = 0 then cmpBy f l m else f a b
theorem cmpBy_anti {α : Type} {f : α → α → Int} (h : Cp f) : ∀ l m, cmpBy f l m = - cmpBy f m l
  | [], [] => rfl
  | [], _ :: _ => rfl
  | _ :: _, [] => rfl
  | a :: l, b :: m => by
    have h1 := h.anti a b
    have h2 := cmpBy_anti h l m
    unfold cmpBy
    by_cases h3 : f a b = 0
    · rw [if_pos h3, if_pos (by omega)]
      exact h2
    · rw [if_neg h3, if_neg (by omega)]
      exact h1
theorem cmpBy_trans {α : Type} {f : α → α → Int} (h : Cp f) : ∀ l m n, cmpBy f l m ≤ 0 → cmpBy f m n ≤ 0 → cmpBy f l n ≤ 0
  | [], m, [], _, _ => Int.le_refl 0
  | [], m, c :: n, _, _ => by show (-1 : Int) ≤ 0; omega
  | a :: l, [], n, h1, _ => by have h' : (1 : Int) ≤ 0 := h1; omega
  | a :: l, b :: m, [], _, h2 => by have h' : (1 : Int) ≤ 0 := h2; omega
  | a :: l, b :: m, c :: n, h1, h2 => by
    have ih := cmpBy_trans h l m n
    rw [cmpBy] at h1 h2 ⊢
    by_cases h3 : f a b = 0
    · rw [if_pos h3] at h1
      by_cases h4 : f b c = 0
      · rw [if_pos h4] at h2
        rw [if_pos (h.zero h3 h4)]
        exact ih h1 h2
      · rw [if_neg h4] at h2
        have := h.lt' (x := a) (by omega) (show f b c < 0 by omega)
        rw [if_neg (by omega)]
        omega
    · rw [if_neg h3] at h1
      have h6 : f b c ≤ 0 := by
        by_cases h4 : f b c = 0
        · omega
        · rw [if_neg h4] at h2
          exact h2
      have := h.lt (show f a b < 0 by omega) h6
      rw [if_neg (by omega)]
      omega
theorem Cp.list {α : Type} {f : α → α → Int} (h : Cp f) : Cp (cmpBy f) := ⟨cmpBy_anti h, cmpBy_trans h⟩
theorem cmpBy_zero {α : Type} {f : α → α → Int} (h : Cp f) (h0 : ∀ x y, f x y = 0 → x = y) : ∀ l m, cmpBy f l m = 0 ↔ l = m
  | [], [] => by simp [cmpBy]
  | [], b :: m => by simp [cmpBy]
  | a :: l, [] => by simp [cmpBy]
  | a :: l, b :: m => by
    rw [cmpBy]
    by_cases h3 : f a b = 0
    · obtain rfl := h0 a b h3
      rw [if_pos h3, cmpBy_zero h h0 l m]
      simp
    · rw [if_neg h3]
      constructor
      · intro h4; exact absurd h4 h3
      · intro h4
        cases h4
        exact absurd (h.self a) h3

def ordE (a b : Int × Int) : Int := or2 (cmpI a.1 b.1) (cmpI a.2 b.2)
theorem cp_edge : Cp ordE := (cp_int.on Prod.fst).or (cp_int.on Prod.snd)
theorem ordE_zero {a b : Int × Int} (h : ordE a b = 0) : a = b := by
  have h' := or2_zero.1 h
  exact Prod.ext (cmpI_zero.1 h'.1) (cmpI_zero.1 h'.2)
/-- Two patterns: how many labels, the labels, how many edges, the edges. -/
def cmpP (L : List Int) (E : List (Int × Int)) (L' : List Int) (E' : List (Int × Int)) : Int :=
  or2 (cmpI L.length L'.length) (or2 (cmpBy cmpI L L') (or2 (cmpI E.length E'.length) (cmpBy ordE E E')))
theorem cp_pat : Cp (fun (p q : List Int × List (Int × Int)) => cmpP p.1 p.2 q.1 q.2) :=
  (cp_int.on (fun p : List Int × List (Int × Int) => (p.1.length : Int))).or ((cp_int.list.on Prod.fst).or ((cp_int.on (fun p : List Int × List (Int × Int) => (p.2.length : Int))).or (cp_edge.list.on Prod.snd)))
theorem cmpP_zero {L : List Int} {E : List (Int × Int)} {L' : List Int} {E' : List (Int × Int)} : cmpP L E L' E' = 0 ↔ L = L' ∧ E = E' := by
  unfold cmpP
  rw [or2_zero, or2_zero, or2_zero, cmpBy_zero cp_int (fun _ _ => cmpI_zero.1), cmpBy_zero cp_edge (fun _ _ => ordE_zero)]
  constructor
  · rintro ⟨_, h1, _, h2⟩
    exact ⟨h1, h2⟩
  · rintro ⟨rfl, rfl⟩
    exact ⟨cmpI_zero.2 rfl, rfl, cmpI_zero.2 rfl, rfl⟩
theorem cmpP_fewer {L : List Int} {E : List (Int × Int)} {L' : List Int} {E' : List (Int × Int)} (h : L.length < L'.length) : cmpP L E L' E' < 0 := by
  have h1 : cmpI (L.length : Int) (L'.length : Int) = -1 := if_pos (by omega)
  unfold cmpP or2
  rw [h1, if_neg (by omega)]
  omega

/-- An edge that may be: its ends among n vertices, the lesser first. -/
def EdgeOK (n : Nat) (e : Int × Int) : Prop := 0 ≤ e.1 ∧ e.1 < e.2 ∧ e.2 < (n : Int)
def deg (E : List (Int × Int)) (v : Int) : Nat := (E.filter fun e => decide (e.1 = v) || decide (e.2 = v)).length
def degs (E : List (Int × Int)) : Nat → Nat
  | 0 => 0
  | n + 1 => degs E n + deg E n
theorem degs_nil : ∀ n, degs [] n = 0
  | 0 => rfl
  | n + 1 => by rw [degs, degs_nil n]; rfl
theorem degs_cons (e : Int × Int) (E : List (Int × Int)) (h0 : 0 ≤ e.1) (h1 : e.1 < e.2) : ∀ n : Nat, degs (e :: E) n = degs E n + (if e.1 < n then 1 else 0) + (if e.2 < n then 1 else 0)
  | 0 => by rw [degs, degs, if_neg (by simp; omega), if_neg (by simp; omega)]
  | n + 1 => by
    rw [degs, degs, degs_cons e E h0 h1 n]
    have hd : deg (e :: E) n = deg E n + (if e.1 = n then 1 else 0) + (if e.2 = n then 1 else 0) := by
      unfold deg
      rw [List.filter_cons]
      by_cases ha : e.1 = (n : Int)
      · have hb : ¬ e.2 = (n : Int) := by omega
        simp [ha, hb]
      · by_cases hb : e.2 = (n : Int)
        · simp [ha, hb]
        · simp [ha, hb]
    rw [hd]
    have e1 : (if e.1 < ((n + 1 : Nat) : Int) then 1 else 0) = (if e.1 < (n : Int) then 1 else 0) + (if e.1 = (n : Int) then 1 else 0) := by
      split <;> split <;> (try split) <;> omega
    have e2 : (if e.2 < ((n + 1 : Nat) : Int) then 1 else 0) = (if e.2 < (n : Int) then 1 else 0) + (if e.2 = (n : Int) then 1 else 0) := by
      split <;> split <;> (try split) <;> omega
    rw [e1, e2]
    omega
theorem degs_all {n : Nat} : ∀ (E : List (Int × Int)), (∀ e ∈ E, EdgeOK n e) → degs E n = 2 * E.length
  | [], _ => by rw [degs_nil]; rfl
  | e :: E, h => by
    have h1 := h e (List.mem_cons_self ..)
    rw [degs_cons e E h1.1 h1.2.1, degs_all E (fun e he => h e (List.mem_cons_of_mem _ he)), if_pos (by have := h1.2; omega), if_pos h1.2.2, List.length_cons]
    omega
end Go.Proofs.YtmonepclhbappaaDoor.Pt
