/-
  Part 14 of the proof of PatBack: PgD, TsP, PtE, NumS, NumP, NumT, CoI, PgE.
-/
import Derived.Test.YtapledphhfiimaaGreatDoorPatBackM13
import Derived.Test.YtapledphhfiimaaGreatDoorPatBackM4
import Derived.Lib.SlicesCompact
import Derived.Test.YtapledphhfiimaaGreatDoorPatBackM7
import Derived.Test.YtapledphhfiimaaGreatDoorPatBackM6
import Derived.Lib.Mul64
import Derived.Shelf.Bits.Mul64
import Derived.Test.YtapledphhfiimaaGreatDoorPatBackM1
import Derived.Laws.Externs
import Derived.Test.YtapledphhfiimaaGreatDoorPatBackM2
set_option linter.unusedVariables false
/-
  The document's words for programs of tests: takes, Fault, Right, Of, Text.
-/
namespace Go.Proofs.YtapledphhfiimaaGreatDoor
open Go.RowKit Go.Proofs.YtapledphhfiimaaGreatDoor.Pg
attribute [local go_sem ↓] Go.wp_at_zero Go.wp_at_succ
set_option maxRecDepth 100000
set_option linter.unusedVariables false

theorem RefTakes_any (k : Int) (w : World) : Calls Tryz.prog 109 #[.int .i64 k] w fun e w' => e = .returned (.bool (takesZ k)) ∧ w = w' := by
  have HT := Lib.hid (show (k != 1 && k != 6 && k != 8) = takesZ k from by
    unfold takesZ
    by_cases h1 : k = 1
    · subst h1; rfl
    by_cases h6 : k = 6
    · subst h6; rfl
    by_cases h8 : k = 8
    · subst h8; rfl
    simp [h1, h6, h8])
  go_enter Tryz.func109, Tryz.ntmps109
  go_wp2
  all_goals (
    go_ret
    first
      | exact ⟨ret_bool HT.out, rfl⟩
      | (have e1 : (k == 1) = false := by simpa using (by assumption : ¬ k = 1)
         exact ⟨ret_bool (by rw [← HT.out]; simp [*]), rfl⟩)
      | exact ⟨ret_bool (by rw [← HT.out]; simp [*]), rfl⟩)
def faultZ (o : Int × Int) : Int :=
  if ¬ (1 ≤ o.1 ∧ o.1 ≤ 8) then 1 else if o.2 < 0 ∨ 255 < o.2 ∨ (takesZ o.1 = false ∧ o.2 ≠ 0) then 3 else 0
theorem faultZ_ok {o : Int × Int} : faultZ o = 0 ↔ opOK o := by
  unfold faultZ opOK
  constructor
  · intro h
    split at h
    · cases h
    · rename_i h1
      split at h
      · cases h
      · rename_i h2
        refine ⟨by omega, by omega, fun ht => ?_⟩
        have := mt (fun h => Or.inr (Or.inr h)) h2
        by_cases h0 : o.2 = 0
        · exact h0
        · exact absurd ⟨ht, h0⟩ this
  · rintro ⟨h1, h2, h3⟩
    rw [if_neg (by omega), if_neg]
    rintro (h | h | ⟨h, h'⟩)
    · omega
    · omega
    · exact h' (h3 h)
set_option maxHeartbeats 4000000 in
theorem RefFault_any (k n : Int) (w : World) : Calls Tryz.prog 76 #[.agg #[.int .i64 k, .int .i64 n]] w fun e w' => e = .returned (.int .i64 (faultZ (k, n))) ∧ Below w.heap.size w w' := by
  have HB := Lib.hid (bel_al (Below.refl w.heap.size w) (.cells #[.int .i64 k, .int .i64 n] 72))
  have HTk := Lib.hid (fun W => RefTakes_any k W)
  by_cases h1 : k < 1
  · have HF := Lib.hid (show (1 : Int) = faultZ (k, n) from by unfold faultZ; rw [if_pos (by simp only; omega)])
    go_enter Tryz.func76, Tryz.ntmps76
    go_wp2_with go_in
    go_ret
    exact ⟨ret_int HF.out, HB.out⟩
  by_cases h8 : 8 < k
  · have HF := Lib.hid (show (1 : Int) = faultZ (k, n) from by unfold faultZ; rw [if_pos (by simp only; omega)])
    go_enter Tryz.func76, Tryz.ntmps76
    go_wp2_with go_in
    go_ret
    exact ⟨ret_int HF.out, HB.out⟩
  by_cases h0 : n < 0
  · have HF := Lib.hid (show (3 : Int) = faultZ (k, n) from by unfold faultZ; rw [if_neg (by simp only; omega), if_pos (.inl h0)])
    go_enter Tryz.func76, Tryz.ntmps76
    go_wp2_with go_in
    go_ret
    exact ⟨ret_int HF.out, HB.out⟩
  by_cases h9 : 255 < n
  · have HF := Lib.hid (show (3 : Int) = faultZ (k, n) from by unfold faultZ; rw [if_neg (by simp only; omega), if_pos (.inr (.inl h9))])
    go_enter Tryz.func76, Tryz.ntmps76
    go_wp2_with go_in
    go_ret
    exact ⟨ret_int HF.out, HB.out⟩
  cases ht : takesZ k with
  | true =>
    rw [ht] at HTk
    have HF := Lib.hid (show (0 : Int) = faultZ (k, n) from by unfold faultZ; rw [if_neg (by simp only; omega), if_neg]; rintro (h | h | ⟨h, _⟩) <;> simp only at h; omega; omega; rw [ht] at h; cases h)
    clear ht
    go_enter Tryz.func76, Tryz.ntmps76
    go_wp2_with (first | (go_at_call 109; refine (HTk.out _).mono ?_; rintro e w3 ⟨rfl, rfl⟩) | go_in)
    go_ret
    exact ⟨ret_int HF.out, HB.out⟩
  | false =>
    rw [ht] at HTk
    by_cases hn : n = 0
    · subst hn
      have HF := Lib.hid (show (0 : Int) = faultZ (k, 0) from by unfold faultZ; rw [if_neg (by simp only; omega), if_neg]; rintro (h | h | ⟨_, h⟩) <;> simp at h)
      clear ht
      go_enter Tryz.func76, Tryz.ntmps76
      go_wp2_with (first | (go_at_call 109; refine (HTk.out _).mono ?_; rintro e w3 ⟨rfl, rfl⟩) | go_in)
      go_ret
      exact ⟨ret_int HF.out, HB.out⟩
    · have HF := Lib.hid (show (3 : Int) = faultZ (k, n) from by unfold faultZ; rw [if_neg (by simp only; omega), if_pos (.inr (.inr ⟨ht, hn⟩))])
      have e0 : (n == 0) = false := by simpa using hn
      clear ht hn
      go_enter Tryz.func76, Tryz.ntmps76
      go_wp2_with (first | (go_at_call 109; refine (HTk.out _).mono ?_; rintro e w3 ⟨rfl, rfl⟩) | go_in)
      go_ret
      exact ⟨ret_int HF.out, HB.out⟩
def Right17Res (p : List (Int × Int)) (w : World) (e : Ending) (w' : World) : Prop :=
  ∃ (cc a : Int), e = .returned (.tuple #[.int .i64 cc, .int .i64 a]) ∧ (cc = 0 ↔ rightG p) ∧ Below w.heap.size w w'
set_option maxHeartbeats 4000000 in
theorem RefRight17_any (p : List (Int × Int)) (A : Option Addr) (n c : Nat) (w : World) (hn : n ≤ 1000000) (hs : Sl w 2 A n (Rk.cells p)) :
    Calls Tryz.prog 45 #[.slice A n c] w (Right17Res p w) := by
  have HS := Lib.hid hs
  have HM := Lib.hid hs.len2
  clear hs
  go_enter Tryz.func45, Tryz.ntmps45
  by_cases h16 : 16 < n
  · have h16' : (16 : Int) < (n : Int) := by omega
    go_wp2_with fail
    go_ret2
    exact ⟨6, 0, rfl, ⟨fun h => by omega, fun h => by have := h.1; rw [HM.out] at this; omega⟩, Below.refl _ _⟩
  · have h16' : ¬ (16 : Int) < (n : Int) := by omega
    go_wp2_with fail
    go_loopw [4] (fun iv wr => ∃ k : Nat, k ≤ n ∧ iv = .int .i64 (k : Int) ∧ Hid (∀ o ∈ p.take k, opOK o) ∧ Hid (Below w.heap.size w wr)) (fun iv _ => n - (intOf iv).toNat)
    case atStart => exact ⟨0, Nat.zero_le _, rfl, Lib.hid (fun o ho => by simp at ho), Lib.hid (Below.refl _ _)⟩
    case round =>
      obtain ⟨k, hk, rfl, HD, HB⟩ := hrel
      by_cases hlt : k < n
      · have hlt' : (k : Int) < (n : Int) := by omega
        have hk0 : (0 : Int) ≤ (k : Int) := by omega
        obtain ⟨⟨x, y⟩, he⟩ : ∃ e, p[k]? = some e := ⟨_, List.getElem?_eq_getElem (by rw [HM.out]; exact hlt)⟩
        obtain ⟨b1, off1, rfl, c0, c1⟩ := (HS.out.keep HB.out).edge hlt he
        simp only at c0 c1
        have HE := Lib.hid he
        have HF1 := Lib.hid (RefFault_any x y wr)
        have HF2 := Lib.hid (fun W => RefFault_any x y W)
        have HOk := Lib.hid (faultZ_ok (o := (x, y)))
        obtain ⟨f, hf⟩ : ∃ f, f = faultZ (x, y) := ⟨_, rfl⟩
        rw [← hf] at HF1 HF2 HOk
        have HSl := Lib.hid ((HS.out.keep HB.out))
        clear he hf
        by_cases hf0 : f = 0
        · subst hf0
          have HN := Lib.hid (show ∀ o ∈ p.take (k + 1), opOK o from fun o ho => by
            obtain ⟨h3, h4⟩ := List.getElem?_eq_some_iff.1 HE.out
            rw [List.take_succ_eq_append_getElem h3, h4] at ho
            rcases List.mem_append.1 ho with h | h
            · exact HD.out o h
            · rw [List.mem_singleton.1 h]; exact HOk.out.1 rfl)
          go_wp2_with (go_at_call 76; refine HF1.out.mono ?_; clear HF1; rintro e w2 ⟨rfl, hb2⟩; have HB2 := Lib.hid (HB.out.andThen hb2); clear hb2)
          go_roundw
          case rel => exact ⟨k + 1, by omega, by go_num, HN, HB2⟩
          case measure => simp [intOf]; omega
        · have hf0' : (f == 0) = false := by simpa using hf0
          have HNo := Lib.hid (show f = 0 ↔ rightG p from ⟨fun h => absurd h hf0, fun h => HOk.out.2 (h.2 _ (List.mem_of_getElem? HE.out))⟩)
          go_wp2_with (first
            | (go_at_call 76; refine HF1.out.mono ?_; clear HF1; rintro e w2 ⟨rfl, hb2⟩; have HB2 := Lib.hid (HB.out.andThen hb2); obtain ⟨b9, off9, h9, d0, d1⟩ := (HSl.out.keep hb2).edge hlt HE.out; cases h9; simp only at d0 d1; clear hb2)
            | (go_at_call 76; refine (HF2.out _).mono ?_; clear HF2; rintro e w3 ⟨rfl, hb3⟩; have HB3 := Lib.hid (HB2.out.andThen hb3); clear hb3))
          go_ret2
          exact ⟨f, _, rfl, HNo.out, HB3.out⟩
      · obtain rfl : k = n := by omega
        have hlt' : ¬ (k : Int) < (k : Int) := by omega
        rw [List.take_of_length_le (by rw [HM.out]; exact Nat.le_refl _)] at HD
        go_wp2_with fail
        go_ret2
        exact ⟨0, 0, rfl, ⟨fun _ => ⟨by rw [HM.out]; omega, HD.out⟩, fun _ => rfl⟩, HB.out⟩
set_option maxHeartbeats 4000000 in
theorem Of17_any (p : List (Int × Int)) (A : Option Addr) (n c : Nat) (w : World) (hn : n ≤ 100000) (hs : Sl w 2 A n (Rk.cells p)) :
    Calls Tryz.prog 8 #[.slice A n c] w fun e w' => ∃ (D : Option Addr) (d : Nat), e = .returned (.slice D n d) ∧ w'.ownsRow w.heap.size 40 2 (.slice D n d) n (Rk.cells p) ∧ Below w.heap.size w w' := by
  have HS := Lib.hid hs
  have HM := Lib.hid hs.len2
  clear hs
  go_enter Tryz.func8, Tryz.ntmps8
  go_wp2_with fail
  go_loopw [3, 4] (fun ov iv wr => ∃ k : Nat, k ≤ n ∧ iv = .int .i64 (k : Int) ∧ Hid (wr.ownsRow w.heap.size 40 2 ov k (Rk.cells (p.take k))) ∧ Hid (Below w.heap.size w wr)) (fun _ iv _ => n - (intOf iv).toNat)
  case atStart => exact ⟨0, Nat.zero_le _, rfl, Lib.hid (World.ownsRow_nil _ _ _ _), Lib.hid (Below.refl _ _)⟩
  case round =>
    obtain ⟨k, hk, rfl, HO, HB⟩ := hrel
    by_cases hlt : k < n
    · have hlt' : (k : Int) < (n : Int) := by omega
      have hk0 : (0 : Int) ≤ (k : Int) := by omega
      obtain ⟨⟨x, y⟩, he⟩ : ∃ e, p[k]? = some e := ⟨_, List.getElem?_eq_getElem (by rw [HM.out]; exact hlt)⟩
      obtain ⟨b1, off1, rfl, c0, c1⟩ := (HS.out.keep HB.out).edge hlt he
      simp only at c0 c1
      have HE := Lib.hid (show p.take (k + 1) = p.take k ++ [(x, y)] from by
        obtain ⟨h3, h4⟩ := List.getElem?_eq_some_iff.1 he
        rw [List.take_succ_eq_append_getElem h3, h4])
      clear he
      go_wp2_with (at_builtin; refine wpList_push elemOp (w0 := w) _ _ rfl rfl HO.out HB.out (Nat.le_refl _) rfl rfl rfl (by simp [Value.oneCell']) (by unfold lim; omega) (by unfold lim; omega) ?_; intro v4 w4 hown4 hb4; have HO4 := Lib.hid hown4; have HB4 := Lib.hid hb4; clear hown4 hb4)
      go_roundw
      case rel => exact ⟨k + 1, by omega, by go_num, Lib.hid (by rw [HE.out, Rk.cells_snoc]; exact HO4.out), HB4⟩
      case measure => simp [intOf]; omega
    · obtain rfl : k = n := by omega
      have hlt' : ¬ (k : Int) < (k : Int) := by omega
      rw [List.take_of_length_le (by rw [HM.out]; exact Nat.le_refl _)] at HO
      obtain ⟨D, dc, rfl, hsl⟩ := Sl.own HO.out
      clear hsl
      go_wp2_with fail
      go_ret
      exact ⟨D, dc, rfl, HO.out, HB.out⟩
end Go.Proofs.YtapledphhfiimaaGreatDoor
/-
  Tests of patterns, plainly: what a test says, the first one that doesn't hold, what a program keeps.
-/
namespace Go.Proofs.YtapledphhfiimaaGreatDoor
open Go.RowKit Go.Proofs.YtapledphhfiimaaGreatDoor.Pg
set_option linter.unusedVariables false

namespace Ts
def hasE (E : List (Int × Int)) (a b : Int) : Bool := E.any fun e => decide (e = turnE (a, b))
def triE (n : Nat) (E : List (Int × Int)) (e : Int × Int) : Bool := (List.range n).any fun v => hasE E e.1 (v : Nat) && hasE E e.2 (v : Nat)
/-- What a test says of a pattern, both of which are right. -/
def holdsB (o : Int × Int) (L : List Int) (E : List (Int × Int)) : Bool :=
  if o.1 = 1 then decide (E.length = L.length * (L.length - 1) / 2)
  else if o.1 = 2 then !(L.any fun x => decide (o.2 < x))
  else if o.1 = 3 then (List.range L.length).all fun v => decide ((Pt.deg E (v : Nat) : Int) ≤ o.2)
  else if o.1 = 4 then decide ((L.length : Int) ≤ o.2)
  else if o.1 = 5 then decide ((E.length : Int) ≤ o.2)
  else if o.1 = 6 then decide ((Go.Lib.compact (L.mergeSort fun x y => decide (x ≤ y))).length = L.length)
  else if o.1 = 7 then !(L.any fun x => !decide (x = o.2))
  else !(E.any (triE L.length E))
open Classical in
/-- What Test answers. -/
noncomputable def testB (L : List Int) (E : List (Int × Int)) (o : Int × Int) : Bool := if opOK o ∧ rightP L E then holdsB o L E else false
open Classical in
/-- What Keeps answers. -/
noncomputable def keepsB (p : List (Int × Int)) (L : List Int) (E : List (Int × Int)) : Bool := if rightG p ∧ rightP L E then p.all (testB L E) else false
/-- Where the first one stands. -/
def firstZ {α : Type} (q : α → Bool) : List α → Nat → Int
  | [], _ => -1
  | o :: r, k => if q o = true then (k : Int) else firstZ q r (k + 1)
theorem firstZ_none {α : Type} {q : α → Bool} : ∀ {p : List α} {k : Nat}, (∀ o ∈ p, q o = false) → firstZ q p k = -1
  | [], k, _ => rfl
  | o :: r, k, h => by
    rw [firstZ, if_neg (by rw [h o (List.mem_cons_self ..)]; decide)]
    exact firstZ_none fun x hx => h x (List.mem_cons_of_mem _ hx)
theorem firstZ_at {α : Type} {q : α → Bool} : ∀ {p : List α} {i j : Nat} {o : α}, (∀ x ∈ p.take j, q x = false) → p[j]? = some o → q o = true → firstZ q p i = ((i + j : Nat) : Int)
  | [], i, j, o, _, h, _ => by simp at h
  | x :: r, i, 0, o, _, h, hq => by
    simp only [List.getElem?_cons_zero, Option.some.injEq] at h
    subst h
    rw [firstZ, if_pos hq, Nat.add_zero]
  | x :: r, i, j + 1, o, hn, h, hq => by
    rw [firstZ, if_neg (by rw [hn x (by simp)]; decide)]
    have := firstZ_at (p := r) (i := i + 1) (j := j) (o := o) (fun y hy => hn y (by rw [List.take_succ_cons]; exact List.mem_cons_of_mem _ hy)) (by simpa using h) hq
    rw [this]
    congr 1
    omega
theorem firstZ_neg {α : Type} {q : α → Bool} : ∀ {p : List α} {k : Nat}, firstZ q p k < 0 ↔ ∀ o ∈ p, q o = false
  | [], k => by
    rw [firstZ]
    exact ⟨fun _ o ho => (by cases ho), fun _ => (by omega)⟩
  | x :: r, k => by
    rw [firstZ]
    by_cases h : q x = true
    · rw [if_pos h]
      constructor
      · intro h2; omega
      · intro h2
        have := h2 x (List.mem_cons_self ..)
        rw [h] at this
        cases this
    · rw [if_neg h, firstZ_neg (p := r)]
      constructor
      · intro h2 o ho
        rcases List.mem_cons.1 ho with rfl | ho
        · cases hq : q o with
          | true => exact absurd hq h
          | false => rfl
        · exact h2 o ho
      · intro h2 o ho
        exact h2 o (List.mem_cons_of_mem _ ho)
theorem testB_of {L : List Int} {E : List (Int × Int)} {o : Int × Int} (h1 : opOK o) (h2 : rightP L E) : testB L E o = holdsB o L E := by
  unfold testB
  rw [if_pos ⟨h1, h2⟩]
theorem keepsB_of {p : List (Int × Int)} {L : List Int} {E : List (Int × Int)} (h1 : rightG p) (h2 : rightP L E) : keepsB p L E = p.all fun o => holdsB o L E := by
  unfold keepsB
  rw [if_pos ⟨h1, h2⟩]
  have : ∀ q : List (Int × Int), (∀ o ∈ q, opOK o) → q.all (testB L E) = q.all fun o => holdsB o L E := by
    intro q
    induction q with
    | nil => intro _; rfl
    | cons o r ih =>
      intro h
      rw [List.all_cons, List.all_cons, ih (fun x hx => h x (List.mem_cons_of_mem _ hx)), testB_of (h o (List.mem_cons_self ..)) h2]
  exact this p h1.2
theorem first_keeps {p : List (Int × Int)} {L : List Int} {E : List (Int × Int)} {k : Nat} : firstZ (fun o => !testB L E o) p k < 0 ↔ p.all (testB L E) = true := by
  rw [firstZ_neg, List.all_eq_true]
  constructor
  · intro h o ho
    have := h o ho
    simpa using this
  · intro h o ho
    rw [h o ho]
    rfl
/-- Degrees of a pattern that is right. -/
theorem deg_right {L : List Int} {E : List (Int × Int)} (h : rightP L E) (v : Int) : Pt.deg E v ≤ E.length := by
  unfold Pt.deg
  exact List.length_filter_le _ _
/-- A greater number keeps no less. -/
theorem holds_more {k a : Int} {L : List Int} {E : List (Int × Int)} (h2 : 2 ≤ k) (h5 : k ≤ 5) (h : holdsB (k, a) L E = true) : holdsB (k, a + 1) L E = true := by
  unfold holdsB at h ⊢
  simp only at h ⊢
  rw [if_neg (by omega)] at h ⊢
  rcases (show k = 2 ∨ k = 3 ∨ k = 4 ∨ k = 5 by omega) with rfl | rfl | rfl | rfl
  · rw [if_pos rfl] at h ⊢
    simp only [Bool.not_eq_true', List.any_eq_false, decide_eq_true_eq] at h ⊢
    intro x hx
    have := h x hx
    omega
  · rw [if_neg (by omega), if_pos rfl] at h ⊢
    simp only [List.all_eq_true, decide_eq_true_eq] at h ⊢
    intro x hx
    have := h x hx
    omega
  · rw [if_neg (by omega), if_neg (by omega), if_pos rfl] at h ⊢
    simp only [decide_eq_true_eq] at h ⊢
    omega
  · rw [if_neg (by omega), if_neg (by omega), if_neg (by omega), if_pos rfl] at h ⊢
    simp only [decide_eq_true_eq] at h ⊢
    omega
end Ts
end Go.Proofs.YtapledphhfiimaaGreatDoor
/-
  All vertices of a pattern are the pattern: the edges that Sub of all its vertices finds, plainly.
-/
namespace Go.Proofs.YtapledphhfiimaaGreatDoor
open Go.RowKit Go.Proofs.YtapledphhfiimaaGreatDoor.Pg
set_option linter.unusedVariables false
namespace Pt
/-- The edges from the first k vertices to vertex i. -/
def rowE (E : List (Int × Int)) (i k : Nat) : List (Int × Int) := ((List.range k).filter fun u => Ts.hasE E (u : Nat) (i : Nat)).map fun u => (((u : Nat) : Int), ((i : Nat) : Int))
/-- The edges among the first i vertices, row after row. -/
def subE (E : List (Int × Int)) : Nat → List (Int × Int)
  | 0 => []
  | i + 1 => subE E i ++ rowE E i i
theorem rowE_t {E : List (Int × Int)} {i k : Nat} (h : Ts.hasE E (k : Nat) (i : Nat) = true) : rowE E i (k + 1) = rowE E i k ++ [(((k : Nat) : Int), ((i : Nat) : Int))] := by
  unfold rowE
  rw [List.range_succ, List.filter_append, List.map_append, List.filter_cons_of_pos (by simpa using h)]
  rfl
theorem rowE_f {E : List (Int × Int)} {i k : Nat} (h : Ts.hasE E (k : Nat) (i : Nat) = false) : rowE E i (k + 1) = rowE E i k := by
  unfold rowE
  rw [List.range_succ, List.filter_append, List.map_append, List.filter_cons_of_neg (by simp [h])]
  simp
theorem rowE_len (E : List (Int × Int)) (i k : Nat) : (rowE E i k).length ≤ k := by
  unfold rowE
  rw [List.length_map]
  exact Nat.le_trans (List.length_filter_le _ _) (by rw [List.length_range]; exact Nat.le_refl _)
theorem subE_len (E : List (Int × Int)) : ∀ i, (subE E i).length ≤ i * i
  | 0 => Nat.le_refl _
  | i + 1 => by
    have h1 := subE_len E i
    have h2 := rowE_len E i i
    have h3 : (i + 1) * (i + 1) = i * i + i + i + 1 := by rw [Nat.add_mul, Nat.mul_add]; omega
    show (subE E i ++ rowE E i i).length ≤ _
    rw [List.length_append]
    omega
theorem has_in {E : List (Int × Int)} {u i : Nat} (h : u < i) : Ts.hasE E (u : Nat) (i : Nat) = true ↔ (((u : Nat) : Int), ((i : Nat) : Int)) ∈ E := by
  have ht : turnE (((u : Nat) : Int), ((i : Nat) : Int)) = (((u : Nat) : Int), ((i : Nat) : Int)) := by
    unfold turnE
    rw [if_pos (show ((u : Nat) : Int) ≤ ((i : Nat) : Int) by omega)]
  unfold Ts.hasE
  rw [ht, List.any_eq_true]
  constructor
  · rintro ⟨e, he, hd⟩
    rw [← of_decide_eq_true hd]
    exact he
  · intro he
    exact ⟨_, he, decide_eq_true rfl⟩
theorem mem_rowE {E : List (Int × Int)} {i k : Nat} (hk : k ≤ i) {e : Int × Int} : e ∈ rowE E i k ↔ e ∈ E ∧ e.2 = (i : Nat) ∧ 0 ≤ e.1 ∧ e.1 < (k : Nat) := by
  unfold rowE
  simp only [List.mem_map, List.mem_filter, List.mem_range]
  constructor
  · rintro ⟨u, ⟨hu, hh⟩, rfl⟩
    exact ⟨(has_in (by omega)).1 hh, rfl, by simp, by show ((u : Nat) : Int) < (k : Nat); omega⟩
  · rintro ⟨he, h2, h0, h1⟩
    obtain ⟨a, b⟩ := e
    simp only at h2 h0 h1
    obtain ⟨u, rfl⟩ := Int.eq_ofNat_of_zero_le h0
    subst h2
    exact ⟨u, ⟨by omega, (has_in (by omega)).2 he⟩, rfl⟩
theorem mem_subE {E : List (Int × Int)} {n : Nat} (hE : ∀ e ∈ E, 0 ≤ e.1 ∧ e.1 < e.2) : ∀ i, ∀ e : Int × Int, e ∈ subE E i ↔ e ∈ E ∧ e.2 < (i : Nat)
  | 0, e => by
    constructor
    · intro h; cases h
    · rintro ⟨h, h2⟩
      have := hE e h
      omega
  | i + 1, e => by
    show e ∈ subE E i ++ rowE E i i ↔ _
    rw [List.mem_append, mem_subE (n := n) hE i e, mem_rowE (Nat.le_refl _)]
    constructor
    · rintro (⟨h, h2⟩ | ⟨h, h2, _, _⟩)
      · exact ⟨h, by omega⟩
      · exact ⟨h, by omega⟩
    · rintro ⟨h, h2⟩
      have := hE e h
      rcases Int.lt_or_le e.2 (i : Nat) with h3 | h3
      · exact .inl ⟨h, h3⟩
      · exact .inr ⟨h, by omega, by omega, by omega⟩
theorem nodup_rowE (E : List (Int × Int)) (i k : Nat) : (rowE E i k).Nodup := by
  unfold rowE
  refine List.Pairwise.map (S := fun a b => a ≠ b) (R := fun a b : Nat => a ≠ b) _ ?_ ((List.nodup_range).sublist List.filter_sublist)
  intro a b hab h
  injection h with h1 _
  exact hab (by omega)
theorem nodup_subE {E : List (Int × Int)} (hE : ∀ e ∈ E, 0 ≤ e.1 ∧ e.1 < e.2) : ∀ i, (subE E i).Nodup
  | 0 => List.nodup_nil
  | i + 1 => by
    show (subE E i ++ rowE E i i).Nodup
    refine List.nodup_append.2 ⟨nodup_subE hE i, nodup_rowE E i i, ?_⟩
    rintro a ha b hb rfl
    have h1 := ((mem_subE (n := i) hE i a).1 ha).2
    have h2 := ((mem_rowE (Nat.le_refl _)).1 hb).2.1
    omega
theorem subE_perm {L : List Int} {E : List (Int × Int)} (h : rightP L E) : (subE E L.length).Perm E := by
  have hE : ∀ e ∈ E, 0 ≤ e.1 ∧ e.1 < e.2 := fun e he => ⟨(right_edge h he).1, (right_edge h he).2.1⟩
  have hd : E.Nodup := List.Pairwise.imp (fun {a b} hab e => by subst e; have := cp_edge.self a; omega) (right_rise h)
  refine (List.perm_ext_iff_of_nodup (nodup_subE hE _) hd).2 fun e => ?_
  rw [mem_subE (n := L.length) hE]
  exact ⟨fun h => h.1, fun he => ⟨he, (right_edge h he).2.2⟩⟩
/-- What rises and holds the same edges is the same. -/
theorem subE_same {L : List Int} {E E' : List (Int × Int)} (h : rightP L E) (hp : E'.Perm (subE E L.length)) (hr : Rise E') : E' = E :=
  rise_uniq hr (right_rise h) (hp.trans (subE_perm h))
end Pt
end Go.Proofs.YtapledphhfiimaaGreatDoor
/-
  Contracts: nums.Add, size, signed, over, Mul, small, Pow; bits.Mul64.
-/
namespace Go.Proofs.YtapledphhfiimaaGreatDoor
open Go.RowKit Go.Lib
set_option maxRecDepth 100000
set_option linter.unusedVariables false

/-- Does it lie from -2^63 to 2^63 - 1? -/
def fitB (z : Int) : Bool := decide (-9223372036854775808 ≤ z ∧ z ≤ 9223372036854775807)
/-- What is told of a number: itself, or nothing. -/
def tn (z : Int) : Int := if fitB z then z else 0
def te (t : ByteArray) (z : Int) : Err := if fitB z then .nil else .flt 7 0 t
theorem fitB_true {z : Int} (h : -9223372036854775808 ≤ z ∧ z ≤ 9223372036854775807) : fitB z = true := decide_eq_true h
theorem fitB_false {z : Int} (h : ¬ (-9223372036854775808 ≤ z ∧ z ≤ 9223372036854775807)) : fitB z = false := decide_eq_false h
theorem fitB_iff {z : Int} : fitB z = true ↔ -9223372036854775808 ≤ z ∧ z ≤ 9223372036854775807 := by unfold fitB; simp
theorem tn_fit {z : Int} (h : fitB z = true) : tn z = z := by rw [tn, h]; rfl
theorem tn_not {z : Int} (h : fitB z = false) : tn z = 0 := by rw [tn, h]; rfl
theorem te_fit {t : ByteArray} {z : Int} (h : fitB z = true) : te t z = .nil := by rw [te, h]; rfl
theorem te_not {t : ByteArray} {z : Int} (h : fitB z = false) : te t z = .flt 7 0 t := by rw [te, h]; rfl
theorem tn_in (z : Int) : -9223372036854775808 ≤ tn z ∧ tn z ≤ 9223372036854775807 := by
  unfold tn
  split
  · rename_i h; exact fitB_iff.1 h
  · omega
theorem te_code (t : ByteArray) (z : Int) : (te t z).code = if fitB z then 0 else 7 := by
  unfold te; split <;> rfl
def txtSum : ByteArray := ⟨#[115, 117, 109]⟩
def txtProduct : ByteArray := ⟨#[112, 114, 111, 100, 117, 99, 116]⟩
def txtPower : ByteArray := ⟨#[112, 111, 119, 101, 114]⟩
def txtChoice : ByteArray := ⟨#[99, 104, 111, 105, 99, 101]⟩

/-- Of a size and a sign: the number, and whether it fits. -/
def SgP (z : Int) (w : World) (e : Ending) (w' : World) : Prop := ∃ p : Int, e = .returned (.tuple #[.int .i64 p, .bool (fitB z)]) ∧ (fitB z = true → p = z) ∧ w' = w
theorem prod_abs (a b : Int) : (if (decide (a < 0) != decide (b < 0)) = true then -((a.natAbs * b.natAbs : Nat) : Int) else ((a.natAbs * b.natAbs : Nat) : Int)) = a * b := by
  rw [← Int.natAbs_mul]
  by_cases h1 : a < 0 <;> by_cases h2 : b < 0
  · have := Int.mul_pos_of_neg_of_neg h1 h2
    simp [h1, h2]; omega
  · have := Int.mul_nonpos_of_nonpos_of_nonneg (a := a) (b := b) (by omega) (by omega)
    simp [h1, h2]; omega
  · have := Int.mul_nonpos_of_nonneg_of_nonpos (a := a) (b := b) (by omega) (by omega)
    simp [h1, h2]; omega
  · have := Int.mul_nonneg (a := a) (b := b) (by omega) (by omega)
    simp [h1, h2]; omega

end Go.Proofs.YtapledphhfiimaaGreatDoor
/-
  Plainly: choices (Pascal's row), powers that are too great, sums of lists.
-/
namespace Go.Proofs.YtapledphhfiimaaGreatDoor
set_option linter.unusedVariables false

/-- How many sets of k of n. -/
def ch : Nat → Nat → Nat
  | _, 0 => 1
  | 0, _ + 1 => 0
  | n + 1, k + 1 => ch n k + ch n (k + 1)
theorem ch_zero (n : Nat) : ch n 0 = 1 := by cases n <;> rfl
theorem ch_succ (n k : Nat) : ch (n + 1) (k + 1) = ch n k + ch n (k + 1) := rfl
theorem ch_out : ∀ {n k : Nat}, n < k → ch n k = 0
  | 0, k + 1, _ => rfl
  | n + 1, k + 1, h => by rw [ch_succ, ch_out (show n < k by omega), ch_out (show n < k + 1 by omega)]
theorem ch_self (n : Nat) : ch n n = 1 := by
  induction n with
  | zero => rfl
  | succ n ih => rw [ch_succ, ih, ch_out (Nat.lt_succ_self n)]
theorem ch_pos : ∀ {n k : Nat}, k ≤ n → 1 ≤ ch n k
  | n, 0, _ => by rw [ch_zero]; omega
  | n + 1, k + 1, h => by rw [ch_succ]; have := ch_pos (show k ≤ n by omega); omega
theorem ch_step : ∀ (n k : Nat), (k + 1) * ch (n + 1) (k + 1) = (n + 1) * ch n k
  | 0, 0 => rfl
  | 0, k + 1 => by
    rw [ch_succ, show ch 0 (k + 1) = 0 from rfl, show ch 0 (k + 1 + 1) = 0 from rfl]; simp
  | n + 1, 0 => by
    have := ch_step n 0
    rw [ch_zero] at this ⊢
    rw [ch_succ (n + 1) 0, ch_zero]
    omega
  | n + 1, k + 1 => by
    have h1 := ch_step n (k + 1)
    have h2 := ch_step n k
    have e1 : (k + 1 + 1) * ch (n + 1 + 1) (k + 1 + 1) = (k + 1) * ch (n + 1) (k + 1) + ch (n + 1) (k + 1) + (k + 1 + 1) * ch (n + 1) (k + 1 + 1) := by
      rw [ch_succ (n + 1) (k + 1), Nat.mul_add, Nat.add_mul (k + 1) 1]; omega
    have e2 : (n + 1 + 1) * ch (n + 1) (k + 1) = (n + 1) * ch (n + 1) (k + 1) + ch (n + 1) (k + 1) := by rw [Nat.add_mul (n + 1) 1]; omega
    have e3 : (n + 1) * ch (n + 1) (k + 1) = (n + 1) * ch n k + (n + 1) * ch n (k + 1) := by rw [ch_succ n k, Nat.mul_add]
    rw [e1, h1, h2, e2, e3]; omega
theorem ch_symm : ∀ (a b : Nat), ch (a + b) a = ch (a + b) b
  | 0, b => by rw [Nat.zero_add, ch_zero, ch_self]
  | a + 1, 0 => by rw [Nat.add_zero, ch_zero, ch_self]
  | a + 1, b + 1 => by
    have h1 := ch_symm a (b + 1)
    have h2 := ch_symm (a + 1) b
    rw [show a + 1 + (b + 1) = (a + b + 1) + 1 by omega, ch_succ (a + b + 1) a, ch_succ (a + b + 1) b]
    rw [show a + (b + 1) = a + b + 1 by omega] at h1
    rw [show a + 1 + b = a + b + 1 by omega] at h2
    omega
theorem ch_symm' {n k : Nat} (h : k ≤ n) : ch n (n - k) = ch n k := by
  have := ch_symm (n - k) k
  rwa [Nat.sub_add_cancel h] at this
theorem ch_min {n k : Nat} (h : k ≤ n) : ch n (min k (n - k)) = ch n k := by
  rcases Nat.le_total k (n - k) with h1 | h1
  · rw [Nat.min_eq_left h1]
  · rw [Nat.min_eq_right h1, ch_symm' h]
theorem ch_mono (m : Nat) {i k : Nat} (h : i ≤ k) : ch (m + i) i ≤ ch (m + k) k := by
  induction k with
  | zero => obtain rfl : i = 0 := by omega
            exact Nat.le_refl _
  | succ k ih =>
    rcases Nat.eq_or_lt_of_le h with rfl | h1
    · exact Nat.le_refl _
    · refine Nat.le_trans (ih (by omega)) ?_
      rw [← Nat.add_assoc, ch_succ]; omega
theorem ch_ge (m : Nat) : ∀ {i : Nat}, i ≤ m → 2 ^ i ≤ ch (m + i) i
  | 0, _ => by rw [ch_zero]; exact Nat.le_refl _
  | i + 1, h => by
    have h1 := ch_ge m (i := i) (by omega)
    have h2 := ch_step (m + i) i
    rw [show m + (i + 1) = m + i + 1 by omega]
    have h3 : 2 * (i + 1) * ch (m + i) i ≤ (m + i + 1) * ch (m + i) i := Nat.mul_le_mul_right _ (by omega)
    rw [← h2, Nat.mul_comm 2 (i + 1), Nat.mul_assoc] at h3
    have h4 := Nat.le_of_mul_le_mul_left h3 (by omega)
    rw [Nat.pow_succ]; omega
/-- From one choice to the next: no rest. -/
theorem ch_next (m i : Nat) : ch (m + i) i * (m + (i + 1)) / (i + 1) = ch (m + (i + 1)) (i + 1) := by
  have h := ch_step (m + i) i
  rw [show m + (i + 1) = m + i + 1 by omega, Nat.mul_comm, ← h, Nat.mul_div_cancel_left _ (by omega)]
/-- A row's first choices, added up. -/
def rowS (n : Nat) : Nat → Nat
  | 0 => 0
  | k + 1 => rowS n k + ch n k
theorem rowS_succ (n : Nat) : ∀ k, rowS (n + 1) (k + 1) = rowS n (k + 1) + rowS n k
  | 0 => by simp [rowS, ch_zero]
  | k + 1 => by
    have h := rowS_succ n k
    have e1 : rowS (n + 1) (k + 1 + 1) = rowS (n + 1) (k + 1) + ch (n + 1) (k + 1) := rfl
    have e2 : rowS n (k + 1 + 1) = rowS n (k + 1) + ch n (k + 1) := rfl
    have e3 : rowS n (k + 1) = rowS n k + ch n k := rfl
    rw [e1, e2, h, ch_succ]; omega
theorem rowS_all : ∀ n, rowS n (n + 1) = 2 ^ n
  | 0 => rfl
  | n + 1 => by
    have h := rowS_all n
    rw [rowS_succ, show rowS n (n + 1 + 1) = rowS n (n + 1) + ch n (n + 1) from rfl, ch_out (Nat.lt_succ_self n), h, Nat.pow_succ]; omega
theorem rowS_le (n : Nat) {a b : Nat} (h : a ≤ b) : rowS n a ≤ rowS n b := by
  induction b with
  | zero => obtain rfl : a = 0 := by omega
            exact Nat.le_refl _
  | succ b ih =>
    rcases Nat.eq_or_lt_of_le h with rfl | h1
    · exact Nat.le_refl _
    · exact Nat.le_trans (ih (by omega)) (Nat.le_add_right _ _)
theorem ch_le (n : Nat) (k : Nat) : ch n k ≤ 2 ^ n := by
  by_cases h : k ≤ n
  · rw [← rowS_all]
    exact Nat.le_trans (Nat.le_add_left _ (rowS n k)) (rowS_le n (show k + 1 ≤ n + 1 by omega))
  · rw [ch_out (by omega)]; exact Nat.zero_le _

/-- A number and its powers. -/
theorem pow_abs (a : Int) (n : Nat) : (a ^ n).natAbs = a.natAbs ^ n := Int.natAbs_pow a n
theorem two_pow_le {a : Int} (h : 2 ≤ a.natAbs) (n : Nat) : 2 ^ n ≤ (a ^ n).natAbs := by
  rw [pow_abs]; exact Nat.pow_le_pow_left h n

/-- The sum of a list. -/
def sumZ : List Int → Int
  | [] => 0
  | x :: l => x + sumZ l
theorem sumZ_append : ∀ (a b : List Int), sumZ (a ++ b) = sumZ a + sumZ b
  | [], b => by simp [sumZ]
  | x :: a, b => by rw [List.cons_append, sumZ, sumZ, sumZ_append a b]; omega
theorem sumZ_take_succ {l : List Int} {k : Nat} (h : k < l.length) : sumZ (l.take (k + 1)) = sumZ (l.take k) + l[k] := by
  rw [List.take_succ_eq_append_getElem h, sumZ_append]; simp [sumZ]
theorem sumZ_reverse (l : List Int) : sumZ l.reverse = sumZ l := by
  induction l with
  | nil => rfl
  | cons x l ih => rw [List.reverse_cons, sumZ_append, ih]; simp [sumZ]; omega
theorem sumZ_split (l : List Int) (k : Nat) : sumZ (l.take k) + sumZ (l.drop k) = sumZ l := by
  rw [← sumZ_append, List.take_append_drop]
/-- The least of some, at most 2^63 - 1. -/
def minZ : List Int → Int := fun l => l.foldl min 9223372036854775807
theorem minZ_take_succ {l : List Int} {k : Nat} (h : k < l.length) : minZ (l.take (k + 1)) = min (minZ (l.take k)) l[k] := by
  unfold minZ
  rw [List.take_succ_eq_append_getElem h, List.foldl_append]; rfl
theorem foldl_min_le (l : List Int) : ∀ (a : Int), l.foldl min a ≤ a ∧ ∀ x ∈ l, l.foldl min a ≤ x := by
  induction l with
  | nil => intro a; exact ⟨Int.le_refl _, fun x h => by cases h⟩
  | cons y l ih =>
    intro a
    have := ih (min a y)
    refine ⟨?_, fun x hx => ?_⟩
    · rw [List.foldl_cons]; have := this.1; omega
    · rw [List.foldl_cons]
      rcases List.mem_cons.1 hx with rfl | hx
      · have := this.1; omega
      · exact this.2 x hx
theorem foldl_min_mem (l : List Int) : ∀ (a : Int), l.foldl min a = a ∨ l.foldl min a ∈ l := by
  induction l with
  | nil => intro a; exact .inl rfl
  | cons y l ih =>
    intro a
    rw [List.foldl_cons]
    rcases ih (min a y) with h | h
    · rcases Int.le_total a y with h2 | h2
      · left; rw [h]; omega
      · right; rw [h, Int.min_eq_right h2]; simp
    · right; exact List.mem_cons_of_mem _ h
theorem minZ_le {l : List Int} {x : Int} (h : x ∈ l) : minZ l ≤ x := (foldl_min_le l _).2 x h
theorem minZ_mem {l : List Int} (h : l ≠ []) (hr : ∀ x ∈ l, x ≤ 9223372036854775807) : minZ l ∈ l := by
  rcases foldl_min_mem l 9223372036854775807 with h1 | h1
  · cases l with
    | nil => exact absurd rfl h
    | cons y l =>
      have h2 := (foldl_min_le (y :: l) 9223372036854775807).2 y (by simp)
      have h3 := hr y (by simp)
      rw [h1] at h2
      have : minZ (y :: l) = y := by unfold minZ; rw [h1]; omega
      rw [this]; simp
  · exact h1
end Go.Proofs.YtapledphhfiimaaGreatDoor
/-
  Contracts: nums.small, Pow, Total, Least; bits.Add64.
-/
namespace Go.Proofs.YtapledphhfiimaaGreatDoor
open Go.RowKit
set_option maxRecDepth 100000
set_option linter.unusedVariables false

theorem neg_one_pow (n : Nat) : (-1 : Int) ^ n = if n % 2 = 0 then 1 else -1 := by
  induction n with
  | zero => rfl
  | succ n ih =>
    rw [Int.pow_succ, ih]
    rcases Nat.mod_two_eq_zero_or_one n with h | h
    · rw [if_pos h, if_neg (by omega)]; rfl
    · rw [if_neg (by omega), if_pos (by omega)]; rfl

theorem pow_not_fit {a : Int} (h2 : 2 ≤ a.natAbs) {i n : Nat} (hin : i + 1 ≤ n) (hnf : fitB (a ^ (i + 1)) = false) : fitB (a ^ n) = false := by
  rcases Nat.eq_or_lt_of_le hin with rfl | hlt
  · exact hnf
  · obtain ⟨k, rfl⟩ : ∃ k, n = (i + 1) + (k + 1) := ⟨n - i - 2, by omega⟩
    have h1 : 9223372036854775808 ≤ (a ^ (i + 1)).natAbs := by
      have : ¬ (-9223372036854775808 ≤ a ^ (i + 1) ∧ a ^ (i + 1) ≤ 9223372036854775807) := fun h => by rw [fitB_true h] at hnf; cases hnf
      omega
    have h3 : (a ^ (i + 1 + (k + 1))).natAbs = (a ^ (i + 1)).natAbs * (a ^ (k + 1)).natAbs := by rw [Int.pow_add, Int.natAbs_mul]
    have h4 := two_pow_le h2 (k + 1)
    have h5 : 2 ≤ (a ^ (k + 1)).natAbs := Nat.le_trans (by rw [Nat.pow_succ]; have := Nat.two_pow_pos k; omega) h4
    have h6 := Nat.mul_le_mul h1 h5
    rw [← h3] at h6
    exact fitB_false (by omega)

theorem i64_cell {l : List Int} {i : Nat} (h : i < l.length) : (l.map (Value.int .i64))[i]? = some (.int .i64 l[i]) := by
  rw [List.getElem?_map, List.getElem?_eq_getElem h]; rfl
theorem Sl.i64 {w : World} {A : Option Addr} {n i : Nat} {l : List Int} (h : Sl w 1 A n (l.map (Value.int .i64))) (hl : l.length = n) (hi : i < n) : ∃ b off, A = some ⟨b, off, none⟩ ∧ w.cell? ⟨b, off + i, none⟩ = some (.int .i64 (l[i]'(by omega))) := by
  obtain ⟨b, off, u, hA, h1, h2⟩ := h.one hi
  rw [i64_cell (by omega)] at h1
  cases h1
  exact ⟨b, off, hA, h2⟩

end Go.Proofs.YtapledphhfiimaaGreatDoor
/-
  slices.Index and slices.Contains at ints, where the number is not there.
-/
namespace Go.Proofs.YtapledphhfiimaaGreatDoor
open Go.RowKit
set_option maxRecDepth 100000
set_option linter.unusedVariables false

set_option maxHeartbeats 2000000 in
theorem IndexI_no (l : List Int) (x : Int) (A : Option Addr) (n c : Nat) (w : World) (hl : l.length = n) (hn : n ≤ 1000000) (hs : Sl w 1 A n (l.map (Value.int .i64))) (hx : x ∉ l) :
    Calls Tryz.prog 84 #[.slice A n c, .int .i64 x] w fun e w' => e = .returned (.int .i64 (-1)) ∧ w = w' := by
  have HS := Lib.hid hs
  have HX := Lib.hid hx
  have HL := Lib.hid hl
  clear hs hx hl
  go_enter Tryz.func84, Tryz.ntmps84
  go_wp2_with fail
  go_loop [8] (fun iv => ∃ k : Nat, k ≤ n ∧ iv = .int .i64 (k : Int)) (fun iv => n - (intOf iv).toNat)
  case atStart => exact ⟨0, Nat.zero_le _, rfl⟩
  case round =>
    obtain ⟨k, hk, rfl⟩ := hrel
    by_cases hlt : k < n
    · have hkn : (k : Int) < (n : Int) := by omega
      have hkz : k < l.length := by rw [HL.out]; omega
      obtain ⟨y, hy⟩ : ∃ y, l[k] = y := ⟨_, rfl⟩
      obtain ⟨b, off, rfl, hc⟩ := HS.out.i64 HL.out (show k < n by omega)
      rw [hy] at hc
      have he : (x == y) = false := by
        simp only [beq_eq_false_iff_ne]
        intro e
        exact HX.out (by rw [e, ← hy]; exact List.getElem_mem hkz)
      clear hy
      go_wp2_with fail
      go_round
      case rel => exact ⟨k + 1, by omega, by go_num⟩
      case measure => simp [intOf]; omega
    · obtain rfl : k = n := by omega
      have hkn : ¬ (k : Int) < (k : Int) := by omega
      go_wp2_with fail
      go_ret
      exact ⟨rfl, rfl⟩
theorem ContainsI_no (l : List Int) (x : Int) (A : Option Addr) (n c : Nat) (w : World) (hl : l.length = n) (hn : n ≤ 1000000) (hs : Sl w 1 A n (l.map (Value.int .i64))) (hx : x ∉ l) :
    Calls Tryz.prog 59 #[.slice A n c, .int .i64 x] w fun e w' => e = .returned (.bool false) ∧ w = w' := by
  have HI := Lib.hid (IndexI_no l x A n c w hl hn hs hx)
  clear hs hl hx
  go_enter Tryz.func59, Tryz.ntmps59
  go_wp2_with (go_at_call 84; refine HI.out.mono ?_; clear HI; rintro e w2 ⟨rfl, rfl⟩)
  go_ret
  exact ⟨rfl, rfl⟩
end Go.Proofs.YtapledphhfiimaaGreatDoor
/-
  The document's text of a program of tests.
-/
namespace Go.Proofs.YtapledphhfiimaaGreatDoor
open Go.RowKit Go.Proofs.YtapledphhfiimaaGreatDoor.Pg
attribute [local go_sem ↓] Go.wp_at_zero Go.wp_at_succ
set_option maxRecDepth 100000
set_option linter.unusedVariables false

theorem join_snoc (c : List UInt8) : ∀ (r : List (List UInt8)) (x : List UInt8), Lib.join (r ++ [x]) c = Lib.join r c ++ (if r = [] then [] else c) ++ x
  | [], x => by
    rw [List.nil_append, Lib.join_cons]
    show x ++ Lib.joinTail c [] = _
    unfold Lib.joinTail
    simp [Lib.join]
  | y :: r, x => by
    rw [List.cons_append, Lib.join_cons, Lib.join_cons, if_neg (by simp)]
    unfold Lib.joinTail
    simp
theorem textG_snoc (q : List (Int × Int)) (o : Int × Int) : textG (q ++ [o]) = textG q ++ (if q = [] then [] else [59]) ++ opL o := by
  unfold textG
  rw [List.map_append]
  show Lib.join (q.map opL ++ [opL o]) [59] = _
  rw [join_snoc]
  cases q <;> simp
theorem textG_len (q : List (Int × Int)) (h : ∀ o ∈ q, opOK o) : (textG q).length ≤ q.length * 31 := by
  unfold textG
  have := joinC_len 59 (q.map opL) 30 (fun b hb => by
    obtain ⟨o, ho, rfl⟩ := List.mem_map.1 hb
    exact opL_len (h o ho).1 ⟨by have := (h o ho).2.1; omega, by have := (h o ho).2.1; omega⟩)
  rwa [List.length_map] at this
def names9 : List ByteArray := ⟨#[]⟩ :: namesB
theorem names9_at : ∀ {k : Int}, 1 ≤ k → k ≤ 8 → names9[k.toNat]? = some (bz (nameL k)) :=
  fun {k} h1 h8 => nat8 (P := fun k => names9[k.toNat]? = some (bz (nameL k))) ⟨rfl, rfl, rfl, rfl, rfl, rfl, rfl, rfl⟩ h1 h8
end Go.Proofs.YtapledphhfiimaaGreatDoor
