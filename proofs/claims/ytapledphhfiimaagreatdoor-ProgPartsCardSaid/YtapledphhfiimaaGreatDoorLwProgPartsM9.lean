/-
  Part 9 of the proof of LwProgParts: PgD, TsP, PgE, PgF, PgG.
-/
import Derived.Test.YtapledphhfiimaaGreatDoorLwProgPartsM8
import Derived.Test.YtapledphhfiimaaGreatDoorLwProgPartsM4
import Derived.Lib.SlicesCompact
/-
  The document's words for programs of tests: takes, Fault, Right, Of, Text.
-/
namespace Go.Proofs.YtapledphhfiimaaGreatDoor
open Go.RowKit Go.Proofs.YtapledphhfiimaaGreatDoor.Pg
attribute [local go_sem ↓] Go.wp_at_zero Go.wp_at_succ
set_option maxRecDepth 100000
set_option linter.unusedVariables false

theorem RefTakes_any (k : Int) (w : World) : Calls Tryz.prog 109 #[.int .i64 k] w fun e w' => e = .returned (.bool (takesZ k)) ∧ w = w' := by
  have HT := Lib.hid (show (k != 1 && k != 6 && k != 8) = takesZ k from by
    unfold takesZ
    by_cases h1 : k = 1
    · subst h1; rfl
    by_cases h6 : k = 6
    · subst h6; rfl
    by_cases h8 : k = 8
    · subst h8; rfl
    simp [h1, h6, h8])
  go_enter Tryz.func109, Tryz.ntmps109
  go_wp2
  all_goals (
    go_ret
    first
      | exact ⟨ret_bool HT.out, rfl⟩
      | (have e1 : (k == 1) = false := by simpa using (by assumption : ¬ k = 1)
         exact ⟨ret_bool (by rw [← HT.out]; simp [*]), rfl⟩)
      | exact ⟨ret_bool (by rw [← HT.out]; simp [*]), rfl⟩)
def faultZ (o : Int × Int) : Int :=
  if ¬ (1 ≤ o.1 ∧ o.1 ≤ 8) then 1 else if o.2 < 0 ∨ 255 < o.2 ∨ (takesZ o.1 = false ∧ o.2 ≠ 0) then 3 else 0
theorem faultZ_ok {o : Int × Int} : faultZ o = 0 ↔ opOK o := by
  unfold faultZ opOK
  constructor
  · intro h
    split at h
    · cases h
    · rename_i h1
      split at h
      · cases h
      · rename_i h2
        refine ⟨by omega, by omega, fun ht => ?_⟩
        have := mt (fun h => Or.inr (Or.inr h)) h2
        by_cases h0 : o.2 = 0
        · exact h0
        · exact absurd ⟨ht, h0⟩ this
  · rintro ⟨h1, h2, h3⟩
    rw [if_neg (by omega), if_neg]
    rintro (h | h | ⟨h, h'⟩)
    · omega
    · omega
    · exact h' (h3 h)
set_option maxHeartbeats 4000000 in
theorem RefFault_any (k n : Int) (w : World) : Calls Tryz.prog 76 #[.agg #[.int .i64 k, .int .i64 n]] w fun e w' => e = .returned (.int .i64 (faultZ (k, n))) ∧ Below w.heap.size w w' := by
  have HB := Lib.hid (bel_al (Below.refl w.heap.size w) (.cells #[.int .i64 k, .int .i64 n] 72))
  have HTk := Lib.hid (fun W => RefTakes_any k W)
  by_cases h1 : k < 1
  · have HF := Lib.hid (show (1 : Int) = faultZ (k, n) from by unfold faultZ; rw [if_pos (by simp only; omega)])
    go_enter Tryz.func76, Tryz.ntmps76
    go_wp2_with go_in
    go_ret
    exact ⟨ret_int HF.out, HB.out⟩
  by_cases h8 : 8 < k
  · have HF := Lib.hid (show (1 : Int) = faultZ (k, n) from by unfold faultZ; rw [if_pos (by simp only; omega)])
    go_enter Tryz.func76, Tryz.ntmps76
    go_wp2_with go_in
    go_ret
    exact ⟨ret_int HF.out, HB.out⟩
  by_cases h0 : n < 0
  · have HF := Lib.hid (show (3 : Int) = faultZ (k, n) from by unfold faultZ; rw [if_neg (by simp only; omega), if_pos (.inl h0)])
    go_enter Tryz.func76, Tryz.ntmps76
    go_wp2_with go_in
    go_ret
    exact ⟨ret_int HF.out, HB.out⟩
  by_cases h9 : 255 < n
  · have HF := Lib.hid (show (3 : Int) = faultZ (k, n) from by unfold faultZ; rw [if_neg (by simp only; omega), if_pos (.inr (.inl h9))])
    go_enter Tryz.func76, Tryz.ntmps76
    go_wp2_with go_in
    go_ret
    exact ⟨ret_int HF.out, HB.out⟩
  cases ht : takesZ k with
  | true =>
    rw [ht] at HTk
    have HF := Lib.hid (show (0 : Int) = faultZ (k, n) from by unfold faultZ; rw [if_neg (by simp only; omega), if_neg]; rintro (h | h | ⟨h, _⟩) <;> simp only at h; omega; omega; rw [ht] at h; cases h)
    clear ht
    go_enter Tryz.func76, Tryz.ntmps76
    go_wp2_with (first | (go_at_call 109; refine (HTk.out _).mono ?_; rintro e w3 ⟨rfl, rfl⟩) | go_in)
    go_ret
    exact ⟨ret_int HF.out, HB.out⟩
  | false =>
    rw [ht] at HTk
    by_cases hn : n = 0
    · subst hn
      have HF := Lib.hid (show (0 : Int) = faultZ (k, 0) from by unfold faultZ; rw [if_neg (by simp only; omega), if_neg]; rintro (h | h | ⟨_, h⟩) <;> simp at h)
      clear ht
      go_enter Tryz.func76, Tryz.ntmps76
      go_wp2_with (first | (go_at_call 109; refine (HTk.out _).mono ?_; rintro e w3 ⟨rfl, rfl⟩) | go_in)
      go_ret
      exact ⟨ret_int HF.out, HB.out⟩
    · have HF := Lib.hid (show (3 : Int) = faultZ (k, n) from by unfold faultZ; rw [if_neg (by simp only; omega), if_pos (.inr (.inr ⟨ht, hn⟩))])
      have e0 : (n == 0) = false := by simpa using hn
      clear ht hn
      go_enter Tryz.func76, Tryz.ntmps76
      go_wp2_with (first | (go_at_call 109; refine (HTk.out _).mono ?_; rintro e w3 ⟨rfl, rfl⟩) | go_in)
      go_ret
      exact ⟨ret_int HF.out, HB.out⟩
def Right17Res (p : List (Int × Int)) (w : World) (e : Ending) (w' : World) : Prop :=
  ∃ (cc a : Int), e = .returned (.tuple #[.int .i64 cc, .int .i64 a]) ∧ (cc = 0 ↔ rightG p) ∧ Below w.heap.size w w'
set_option maxHeartbeats 4000000 in
theorem RefRight17_any (p : List (Int × Int)) (A : Option Addr) (n c : Nat) (w : World) (hn : n ≤ 1000000) (hs : Sl w 2 A n (Rk.cells p)) :
    Calls Tryz.prog 45 #[.slice A n c] w (Right17Res p w) := by
  have HS := Lib.hid hs
  have HM := Lib.hid hs.len2
  clear hs
  go_enter Tryz.func45, Tryz.ntmps45
  by_cases h16 : 16 < n
  · have h16' : (16 : Int) < (n : Int) := by omega
    go_wp2_with fail
    go_ret2
    exact ⟨6, 0, rfl, ⟨fun h => by omega, fun h => by have := h.1; rw [HM.out] at this; omega⟩, Below.refl _ _⟩
  · have h16' : ¬ (16 : Int) < (n : Int) := by omega
    go_wp2_with fail
    go_loopw [4] (fun iv wr => ∃ k : Nat, k ≤ n ∧ iv = .int .i64 (k : Int) ∧ Hid (∀ o ∈ p.take k, opOK o) ∧ Hid (Below w.heap.size w wr)) (fun iv _ => n - (intOf iv).toNat)
    case atStart => exact ⟨0, Nat.zero_le _, rfl, Lib.hid (fun o ho => by simp at ho), Lib.hid (Below.refl _ _)⟩
    case round =>
      obtain ⟨k, hk, rfl, HD, HB⟩ := hrel
      by_cases hlt : k < n
      · have hlt' : (k : Int) < (n : Int) := by omega
        have hk0 : (0 : Int) ≤ (k : Int) := by omega
        obtain ⟨⟨x, y⟩, he⟩ : ∃ e, p[k]? = some e := ⟨_, List.getElem?_eq_getElem (by rw [HM.out]; exact hlt)⟩
        obtain ⟨b1, off1, rfl, c0, c1⟩ := (HS.out.keep HB.out).edge hlt he
        simp only at c0 c1
        have HE := Lib.hid he
        have HF1 := Lib.hid (RefFault_any x y wr)
        have HF2 := Lib.hid (fun W => RefFault_any x y W)
        have HOk := Lib.hid (faultZ_ok (o := (x, y)))
        obtain ⟨f, hf⟩ : ∃ f, f = faultZ (x, y) := ⟨_, rfl⟩
        rw [← hf] at HF1 HF2 HOk
        have HSl := Lib.hid ((HS.out.keep HB.out))
        clear he hf
        by_cases hf0 : f = 0
        · subst hf0
          have HN := Lib.hid (show ∀ o ∈ p.take (k + 1), opOK o from fun o ho => by
            obtain ⟨h3, h4⟩ := List.getElem?_eq_some_iff.1 HE.out
            rw [List.take_succ_eq_append_getElem h3, h4] at ho
            rcases List.mem_append.1 ho with h | h
            · exact HD.out o h
            · rw [List.mem_singleton.1 h]; exact HOk.out.1 rfl)
          go_wp2_with (go_at_call 76; refine HF1.out.mono ?_; clear HF1; rintro e w2 ⟨rfl, hb2⟩; have HB2 := Lib.hid (HB.out.andThen hb2); clear hb2)
          go_roundw
          case rel => exact ⟨k + 1, by omega, by go_num, HN, HB2⟩
          case measure => simp [intOf]; omega
        · have hf0' : (f == 0) = false := by simpa using hf0
          have HNo := Lib.hid (show f = 0 ↔ rightG p from ⟨fun h => absurd h hf0, fun h => HOk.out.2 (h.2 _ (List.mem_of_getElem? HE.out))⟩)
          go_wp2_with (first
            | (go_at_call 76; refine HF1.out.mono ?_; clear HF1; rintro e w2 ⟨rfl, hb2⟩; have HB2 := Lib.hid (HB.out.andThen hb2); obtain ⟨b9, off9, h9, d0, d1⟩ := (HSl.out.keep hb2).edge hlt HE.out; cases h9; simp only at d0 d1; clear hb2)
            | (go_at_call 76; refine (HF2.out _).mono ?_; clear HF2; rintro e w3 ⟨rfl, hb3⟩; have HB3 := Lib.hid (HB2.out.andThen hb3); clear hb3))
          go_ret2
          exact ⟨f, _, rfl, HNo.out, HB3.out⟩
      · obtain rfl : k = n := by omega
        have hlt' : ¬ (k : Int) < (k : Int) := by omega
        rw [List.take_of_length_le (by rw [HM.out]; exact Nat.le_refl _)] at HD
        go_wp2_with fail
        go_ret2
        exact ⟨0, 0, rfl, ⟨fun _ => ⟨by rw [HM.out]; omega, HD.out⟩, fun _ => rfl⟩, HB.out⟩
set_option maxHeartbeats 4000000 in
theorem Of17_any (p : List (Int × Int)) (A : Option Addr) (n c : Nat) (w : World) (hn : n ≤ 100000) (hs : Sl w 2 A n (Rk.cells p)) :
    Calls Tryz.prog 8 #[.slice A n c] w fun e w' => ∃ (D : Option Addr) (d : Nat), e = .returned (.slice D n d) ∧ w'.ownsRow w.heap.size 40 2 (.slice D n d) n (Rk.cells p) ∧ Below w.heap.size w w' := by
  have HS := Lib.hid hs
  have HM := Lib.hid hs.len2
  clear hs
  go_enter Tryz.func8, Tryz.ntmps8
  go_wp2_with fail
  go_loopw [3, 4] (fun ov iv wr => ∃ k : Nat, k ≤ n ∧ iv = .int .i64 (k : Int) ∧ Hid (wr.ownsRow w.heap.size 40 2 ov k (Rk.cells (p.take k))) ∧ Hid (Below w.heap.size w wr)) (fun _ iv _ => n - (intOf iv).toNat)
  case atStart => exact ⟨0, Nat.zero_le _, rfl, Lib.hid (World.ownsRow_nil _ _ _ _), Lib.hid (Below.refl _ _)⟩
  case round =>
    obtain ⟨k, hk, rfl, HO, HB⟩ := hrel
    by_cases hlt : k < n
    · have hlt' : (k : Int) < (n : Int) := by omega
      have hk0 : (0 : Int) ≤ (k : Int) := by omega
      obtain ⟨⟨x, y⟩, he⟩ : ∃ e, p[k]? = some e := ⟨_, List.getElem?_eq_getElem (by rw [HM.out]; exact hlt)⟩
      obtain ⟨b1, off1, rfl, c0, c1⟩ := (HS.out.keep HB.out).edge hlt he
      simp only at c0 c1
      have HE := Lib.hid (show p.take (k + 1) = p.take k ++ [(x, y)] from by
        obtain ⟨h3, h4⟩ := List.getElem?_eq_some_iff.1 he
        rw [List.take_succ_eq_append_getElem h3, h4])
      clear he
      go_wp2_with (at_builtin; refine wpList_push elemOp (w0 := w) _ _ rfl rfl HO.out HB.out (Nat.le_refl _) rfl rfl rfl (by simp [Value.oneCell']) (by unfold lim; omega) (by unfold lim; omega) ?_; intro v4 w4 hown4 hb4; have HO4 := Lib.hid hown4; have HB4 := Lib.hid hb4; clear hown4 hb4)
      go_roundw
      case rel => exact ⟨k + 1, by omega, by go_num, Lib.hid (by rw [HE.out, Rk.cells_snoc]; exact HO4.out), HB4⟩
      case measure => simp [intOf]; omega
    · obtain rfl : k = n := by omega
      have hlt' : ¬ (k : Int) < (k : Int) := by omega
      rw [List.take_of_length_le (by rw [HM.out]; exact Nat.le_refl _)] at HO
      obtain ⟨D, dc, rfl, hsl⟩ := Sl.own HO.out
      clear hsl
      go_wp2_with fail
      go_ret
      exact ⟨D, dc, rfl, HO.out, HB.out⟩
end Go.Proofs.YtapledphhfiimaaGreatDoor
/-
  Tests of patterns, plainly: what a test says, the first one that doesn't hold, what a program keeps.
-/
namespace Go.Proofs.YtapledphhfiimaaGreatDoor
open Go.RowKit Go.Proofs.YtapledphhfiimaaGreatDoor.Pg
set_option linter.unusedVariables false

namespace Ts
def hasE (E : List (Int × Int)) (a b : Int) : Bool := E.any fun e => decide (e = turnE (a, b))
def triE (n : Nat) (E : List (Int × Int)) (e : Int × Int) : Bool := (List.range n).any fun v => hasE E e.1 (v : Nat) && hasE E e.2 (v : Nat)
/-- What a test says of a pattern, both of which are right. -/
def holdsB (o : Int × Int) (L : List Int) (E : List (Int × Int)) : Bool :=
  if o.1 = 1 then decide (E.length = L.length * (L.length - 1) / 2)
  else if o.1 = 2 then !(L.any fun x => decide (o.2 < x))
  else if o.1 = 3 then (List.range L.length).all fun v => decide ((Pt.deg E (v : Nat) : Int) ≤ o.2)
  else if o.1 = 4 then decide ((L.length : Int) ≤ o.2)
  else if o.1 = 5 then decide ((E.length : Int) ≤ o.2)
  else if o.1 = 6 then decide ((Go.Lib.compact (L.mergeSort fun x y => decide (x ≤ y))).length = L.length)
  else if o.1 = 7 then !(L.any fun x => !decide (x = o.2))
  else !(E.any (triE L.length E))
open Classical in
/-- What Test answers. -/
noncomputable def testB (L : List Int) (E : List (Int × Int)) (o : Int × Int) : Bool := if opOK o ∧ rightP L E then holdsB o L E else false
open Classical in
/-- What Keeps answers. -/
noncomputable def keepsB (p : List (Int × Int)) (L : List Int) (E : List (Int × Int)) : Bool := if rightG p ∧ rightP L E then p.all (testB L E) else false
/-- Where the first one stands. -/
def firstZ {α : Type} (q : α → Bool) : List α → Nat → Int
  | [], _ => -1
  | o :: r, k => if q o = true then (k : Int) else firstZ q r (k + 1)
theorem firstZ_none {α : Type} {q : α → Bool} : ∀ {p : List α} {k : Nat}, (∀ o ∈ p, q o = false) → firstZ q p k = -1
  | [], k, _ => rfl
  | o :: r, k, h => by
    rw [firstZ, if_neg (by rw [h o (List.mem_cons_self ..)]; decide)]
    exact firstZ_none fun x hx => h x (List.mem_cons_of_mem _ hx)
theorem firstZ_at {α : Type} {q : α → Bool} : ∀ {p : List α} {i j : Nat} {o : α}, (∀ x ∈ p.take j, q x = false) → p[j]? = some o → q o = true → firstZ q p i = ((i + j : Nat) : Int)
  | [], i, j, o, _, h, _ => by simp at h
  | x :: r, i, 0, o, _, h, hq => by
    simp only [List.getElem?_cons_zero, Option.some.injEq] at h
    subst h
    rw [firstZ, if_pos hq, Nat.add_zero]
  | x :: r, i, j + 1, o, hn, h, hq => by
    rw [firstZ, if_neg (by rw [hn x (by simp)]; decide)]
    have := firstZ_at (p := r) (i := i + 1) (j := j) (o := o) (fun y hy => hn y (by rw [List.take_succ_cons]; exact List.mem_cons_of_mem _ hy)) (by simpa using h) hq
    rw [this]
    congr 1
    omega
theorem firstZ_neg {α : Type} {q : α → Bool} : ∀ {p : List α} {k : Nat}, firstZ q p k < 0 ↔ ∀ o ∈ p, q o = false
  | [], k => by
    rw [firstZ]
    exact ⟨fun _ o ho => (by cases ho), fun _ => (by omega)⟩
  | x :: r, k => by
    rw [firstZ]
    by_cases h : q x = true
    · rw [if_pos h]
      constructor
      · intro h2; omega
      · intro h2
        have := h2 x (List.mem_cons_self ..)
        rw [h] at this
        cases this
    · rw [if_neg h, firstZ_neg (p := r)]
      constructor
      · intro h2 o ho
        rcases List.mem_cons.1 ho with rfl | ho
        · cases hq : q o with
          | true => exact absurd hq h
          | false => rfl
        · exact h2 o ho
      · intro h2 o ho
        exact h2 o (List.mem_cons_of_mem _ ho)
theorem testB_of {L : List Int} {E : List (Int × Int)} {o : Int × Int} (h1 : opOK o) (h2 : rightP L E) : testB L E o = holdsB o L E := by
  unfold testB
  rw [if_pos ⟨h1, h2⟩]
theorem keepsB_of {p : List (Int × Int)} {L : List Int} {E : List (Int × Int)} (h1 : rightG p) (h2 : rightP L E) : keepsB p L E = p.all fun o => holdsB o L E := by
  unfold keepsB
  rw [if_pos ⟨h1, h2⟩]
  have : ∀ q : List (Int × Int), (∀ o ∈ q, opOK o) → q.all (testB L E) = q.all fun o => holdsB o L E := by
    intro q
    induction q with
    | nil => intro _; rfl
    | cons o r ih =>
      intro h
      rw [List.all_cons, List.all_cons, ih (fun x hx => h x (List.mem_cons_of_mem _ hx)), testB_of (h o (List.mem_cons_self ..)) h2]
  exact this p h1.2
theorem first_keeps {p : List (Int × Int)} {L : List Int} {E : List (Int × Int)} {k : Nat} : firstZ (fun o => !testB L E o) p k < 0 ↔ p.all (testB L E) = true := by
  rw [firstZ_neg, List.all_eq_true]
  constructor
  · intro h o ho
    have := h o ho
    simpa using this
  · intro h o ho
    rw [h o ho]
    rfl
/-- Degrees of a pattern that is right. -/
theorem deg_right {L : List Int} {E : List (Int × Int)} (h : rightP L E) (v : Int) : Pt.deg E v ≤ E.length := by
  unfold Pt.deg
  exact List.length_filter_le _ _
/-- A greater number keeps no less. -/
theorem holds_more {k a : Int} {L : List Int} {E : List (Int × Int)} (h2 : 2 ≤ k) (h5 : k ≤ 5) (h : holdsB (k, a) L E = true) : holdsB (k, a + 1) L E = true := by
  unfold holdsB at h ⊢
  simp only at h ⊢
  rw [if_neg (by omega)] at h ⊢
  rcases (show k = 2 ∨ k = 3 ∨ k = 4 ∨ k = 5 by omega) with rfl | rfl | rfl | rfl
  · rw [if_pos rfl] at h ⊢
    simp only [Bool.not_eq_true', List.any_eq_false, decide_eq_true_eq] at h ⊢
    intro x hx
    have := h x hx
    omega
  · rw [if_neg (by omega), if_pos rfl] at h ⊢
    simp only [List.all_eq_true, decide_eq_true_eq] at h ⊢
    intro x hx
    have := h x hx
    omega
  · rw [if_neg (by omega), if_neg (by omega), if_pos rfl] at h ⊢
    simp only [decide_eq_true_eq] at h ⊢
    omega
  · rw [if_neg (by omega), if_neg (by omega), if_neg (by omega), if_pos rfl] at h ⊢
    simp only [decide_eq_true_eq] at h ⊢
    omega
end Ts
end Go.Proofs.YtapledphhfiimaaGreatDoor
/-
  The document's text of a program of tests.
-/
namespace Go.Proofs.YtapledphhfiimaaGreatDoor
open Go.RowKit Go.Proofs.YtapledphhfiimaaGreatDoor.Pg
attribute [local go_sem ↓] Go.wp_at_zero Go.wp_at_succ
set_option maxRecDepth 100000
set_option linter.unusedVariables false

theorem join_snoc (c : List UInt8) : ∀ (r : List (List UInt8)) (x : List UInt8), Lib.join (r ++ [x]) c = Lib.join r c ++ (if r = [] then [] else c) ++ x
  | [], x => by
    rw [List.nil_append, Lib.join_cons]
    show x ++ Lib.joinTail c [] = _
    unfold Lib.joinTail
    simp [Lib.join]
  | y :: r, x => by
    rw [List.cons_append, Lib.join_cons, Lib.join_cons, if_neg (by simp)]
    unfold Lib.joinTail
    simp
theorem textG_snoc (q : List (Int × Int)) (o : Int × Int) : textG (q ++ [o]) = textG q ++ (if q = [] then [] else [59]) ++ opL o := by
  unfold textG
  rw [List.map_append]
  show Lib.join (q.map opL ++ [opL o]) [59] = _
  rw [join_snoc]
  cases q <;> simp
theorem textG_len (q : List (Int × Int)) (h : ∀ o ∈ q, opOK o) : (textG q).length ≤ q.length * 31 := by
  unfold textG
  have := joinC_len 59 (q.map opL) 30 (fun b hb => by
    obtain ⟨o, ho, rfl⟩ := List.mem_map.1 hb
    exact opL_len (h o ho).1 ⟨by have := (h o ho).2.1; omega, by have := (h o ho).2.1; omega⟩)
  rwa [List.length_map] at this
def names9 : List ByteArray := ⟨#[]⟩ :: namesB
theorem names9_at : ∀ {k : Int}, 1 ≤ k → k ≤ 8 → names9[k.toNat]? = some (bz (nameL k)) :=
  fun {k} h1 h8 => nat8 (P := fun k => names9[k.toNat]? = some (bz (nameL k))) ⟨rfl, rfl, rfl, rfl, rfl, rfl, rfl, rfl⟩ h1 h8
end Go.Proofs.YtapledphhfiimaaGreatDoor
/-
  The walk of the example of chapter 17: a program that keeps a pattern of one vertex.
-/
namespace Go.Proofs.YtapledphhfiimaaGreatDoor
open Go.RowKit Go.Proofs.YtapledphhfiimaaGreatDoor.Pg
attribute [local go_sem ↓] Go.wp_at_zero Go.wp_at_succ
set_option maxRecDepth 100000
set_option linter.unusedVariables false

theorem one_sl {b : Nat} {w : World} (h : w.cell? ⟨b, 0, none⟩ = some (.int .i64 3)) : Sl w 1 (some ⟨b, 0, none⟩) 1 (([3] : List Int).map (Value.int .i64)) :=
  ⟨rfl, fun _ => ⟨_, _, rfl, fun j u hu => by
    rcases j with _ | j
    · rw [show some u = some (Value.int .i64 3) from hu.symm]; exact h
    · simp at hu⟩⟩
theorem Over_17 (g : Nat) (w : World) (hK : Blk w g 40 #[.int .i64 2, .int .i64 3]) : Calls Tryz.prog 97 #[.int .i64 3, .pointer (some ⟨g, 0, none⟩)] w fun e w' => e = .returned (.bool false) ∧ w = w' := by
  have c0 := hK.cell 0
  have c1 := hK.cell 1
  simp at c0 c1
  clear hK
  go_enter Tryz.func97, Tryz.ntmps97
  go_wp2_with fail
  go_ret
  exact ⟨rfl, rfl⟩
theorem Index_17 (b g : Nat) (w : World) (hc : w.cell? ⟨b, 0, none⟩ = some (.int .i64 3)) (hK : Blk w g 40 #[.int .i64 2, .int .i64 3]) :
    Calls Tryz.prog 134 #[.slice (some ⟨b, 0, none⟩) 1 1, .func (.func 97) #[] #[.pointer (some ⟨g, 0, none⟩)]] w fun e w' => e = .returned (.int .i64 (-1)) ∧ w = w' := by
  have HC := Lib.hid (Over_17 g w hK)
  clear hK
  go_enter Tryz.func134, Tryz.ntmps134
  go_wp2_with fail
  go_loop [8] (fun i => ∃ k : Nat, k ≤ 1 ∧ i = .int .i64 k) (fun i => 1 - (intOf i).toNat)
  case atStart => exact ⟨0, Nat.zero_le _, rfl⟩
  case round =>
    obtain ⟨k, hk, rfl⟩ := hrel
    by_cases hlt : k < 1
    · obtain rfl : k = 0 := by omega
      go_wp2_with (go_at_call 97; refine HC.out.mono ?_; rintro e w' ⟨rfl, rfl⟩)
      go_round
      case rel => exact ⟨1, by omega, by go_num⟩
      case measure => simp [intOf]
    · obtain rfl : k = 1 := by omega
      go_wp2_with fail
      go_ret
      exact ⟨rfl, rfl⟩
theorem Contains_17 (b g : Nat) (w : World) (hc : w.cell? ⟨b, 0, none⟩ = some (.int .i64 3)) (hK : Blk w g 40 #[.int .i64 2, .int .i64 3]) :
    Calls Tryz.prog 96 #[.slice (some ⟨b, 0, none⟩) 1 1, .func (.func 97) #[] #[.pointer (some ⟨g, 0, none⟩)]] w fun e w' => e = .returned (.bool false) ∧ w = w' := by
  have HC := Lib.hid (Index_17 b g w hc hK)
  clear hc hK
  go_enter Tryz.func96, Tryz.ntmps96
  go_wp2_with (go_at_call 134; refine HC.out.mono ?_; rintro e w' ⟨rfl, rfl⟩)
  go_ret
  exact ⟨rfl, rfl⟩
/-- The program's two tests. -/
def two17 (o : Int × Int) : Prop := o = (1, 0) ∨ o = (2, 3)
set_option maxHeartbeats 4000000 in
theorem Holds_17 (o : Int × Int) (ho : two17 o) (b : Nat) (w : World) (hc : w.cell? ⟨b, 0, none⟩ = some (.int .i64 3)) :
    Calls Tryz.prog 72 #[.agg #[.int .i64 o.1, .int .i64 o.2], pv (some ⟨b, 0, none⟩) 1 1 none 0 0] w fun e w' => e = .returned (.bool true) ∧ Below w.heap.size w w' := by
  obtain ⟨W, hW⟩ : ∃ W, W = (w.alloc (.cells #[.int .i64 o.1, .int .i64 o.2] 40)).alloc (.cells #[.slice (some ⟨b, 0, none⟩) 1 1, .slice none 0 0] 30) := ⟨_, rfl⟩
  have HB := Lib.hid (show Below w.heap.size w W from by rw [hW]; exact bel_al (bel_al (Below.refl _ _) _) _)
  have hcW := (HB.out.cell (World.block_lt_of_cell? w _ hc)).trans hc
  rcases ho with rfl | rfl
  · clear hc
    go_enter Tryz.func72, Tryz.ntmps72
    go_wp2_with fail
    go_ret
    exact ⟨rfl, by rw [← hW]; exact HB.out⟩
  · have HC := Lib.hid (Contains_17 b w.heap.size W hcW (by rw [hW]; exact (Blk.new w _ _).alloc _))
    clear hcW
    go_enter Tryz.func72, Tryz.ntmps72
    rw [hW] at HC HB
    go_wp2_with (go_at_call 96; refine HC.out.mono ?_; rintro e w' ⟨rfl, rfl⟩)
    go_ret
    exact ⟨rfl, HB.out⟩
theorem two17_ok {o : Int × Int} (h : two17 o) : opOK o := by
  rcases h with rfl | rfl
  · exact ⟨⟨by decide, by decide⟩, ⟨by decide, by decide⟩, fun _ => rfl⟩
  · exact ⟨⟨by decide, by decide⟩, ⟨by decide, by decide⟩, fun h => absurd h (by decide)⟩
theorem right17p : rightP [3] [] := ⟨⟨by decide, by decide⟩, fun i e h => by simp at h⟩
theorem PatRight_17 (b : Nat) (w : World) (hc : w.cell? ⟨b, 0, none⟩ = some (.int .i64 3)) : Calls Tryz.prog 10 #[pv (some ⟨b, 0, none⟩) 1 1 none 0 0] w fun e w' => e = .returned .nilIface ∧ Below w.heap.size w w' :=
  (PatRight_any [3] [] _ none 1 1 0 0 _ rfl (by omega) (by omega) (one_sl hc) (Sl.nil _ _ _)).mono fun e w' h => by
    rcases h with ⟨_, h1, h2⟩ | ⟨h, _⟩
    · exact ⟨h1, h2⟩
    · exact absurd right17p h
theorem right_17 (o : Int × Int) (ho : two17 o) (w : World) : Calls Tryz.prog 34 #[.agg #[.int .i64 o.1, .int .i64 o.2], .int .i64 0] w fun e w' => e = .returned .nilIface ∧ Below w.heap.size w w' :=
  (right_any o.1 o.2 0 w).mono fun e w' h => by
    rcases h with ⟨_, h1, h2⟩ | ⟨h, _⟩
    · exact ⟨h1, h2⟩
    · exact absurd (two17_ok ho) h
set_option maxHeartbeats 4000000 in
theorem Test_17 (o : Int × Int) (ho : two17 o) (b : Nat) (w : World) (hc : w.cell? ⟨b, 0, none⟩ = some (.int .i64 3)) :
    Calls Tryz.prog 40 #[.agg #[.int .i64 o.1, .int .i64 o.2], pv (some ⟨b, 0, none⟩) 1 1 none 0 0] w fun e w' => e = .returned (.bool true) ∧ Below w.heap.size w w' := by
  have HB := Lib.hid (show Below w.heap.size w ((w.alloc (.cells #[.int .i64 o.1, .int .i64 o.2] 40)).alloc (.cells #[.slice (some ⟨b, 0, none⟩) 1 1, .slice none 0 0] 30)) from bel_al (bel_al (Below.refl _ _) _) _)
  have HC := Lib.hid hc
  have HO := Lib.hid ho
  have HR := Lib.hid (fun W => right_17 o ho W)
  have HK1 := Lib.hid ((Blk.new w 40 #[.int .i64 o.1, .int .i64 o.2]).alloc (.cells #[.slice (some ⟨b, 0, none⟩) 1 1, .slice none 0 0] 30))
  have HK2 := Lib.hid (Blk.new (w.alloc (.cells #[.int .i64 o.1, .int .i64 o.2] 40)) 30 #[.slice (some ⟨b, 0, none⟩) 1 1, .slice none 0 0])
  obtain ⟨x, y⟩ := o
  simp only at HB HR HK1 HK2 ⊢
  clear hc ho
  go_enter Tryz.func40, Tryz.ntmps40
  go_wp2_with (first
    | (go_at_call 34; refine (HR.out _).mono ?_; clear HR; rintro e w2 ⟨rfl, hb2⟩; have HB2 := Lib.hid (HB.out.andThen hb2); have k0 := (HK1.out.keep hb2).cell 0; have k1 := (HK1.out.keep hb2).cell 1; have k2 := (HK2.out.keep hb2).cell 0; have k3 := (HK2.out.keep hb2).cell 1; simp at k0 k1 k2 k3; have HKa := Lib.hid (HK1.out.keep hb2); have HKb := Lib.hid (HK2.out.keep hb2); have HP := Lib.hid (PatRight_17 b w2 ((HB2.out.cell (World.block_lt_of_cell? w _ HC.out)).trans HC.out)); clear hb2)
    | (go_at_call 10; refine HP.out.mono ?_; clear HP; rintro e w3 ⟨rfl, hb3⟩; have HB3 := Lib.hid (HB2.out.andThen hb3); clear k0 k1 k2 k3; have k0 := (HKa.out.keep hb3).cell 0; have k1 := (HKa.out.keep hb3).cell 1; have k2 := (HKb.out.keep hb3).cell 0; have k3 := (HKb.out.keep hb3).cell 1; simp at k0 k1 k2 k3; have HH := Lib.hid (Holds_17 (x, y) HO.out b w3 ((HB3.out.cell (World.block_lt_of_cell? w _ HC.out)).trans HC.out)); clear hb3)
    | (go_at_call 72; refine HH.out.mono ?_; clear HH; rintro e w4 ⟨rfl, hb4⟩; have HB4 := Lib.hid (HB3.out.andThen hb4); clear hb4))
  go_ret
  exact ⟨rfl, HB4.out⟩
theorem First1_17 (o : Int × Int) (ho : two17 o) (b g : Nat) (w : World) (hc : w.cell? ⟨b, 0, none⟩ = some (.int .i64 3)) (hK : Blk w g 30 #[.slice (some ⟨b, 0, none⟩) 1 1, .slice none 0 0]) :
    Calls Tryz.prog 39 #[.agg #[.int .i64 o.1, .int .i64 o.2], .pointer (some ⟨g, 0, none⟩)] w fun e w' => e = .returned (.bool false) ∧ Below w.heap.size w w' := by
  have HB := Lib.hid (bel_al (Below.refl w.heap.size w) (.cells #[.int .i64 o.1, .int .i64 o.2] 40))
  have HT := Lib.hid (Test_17 o ho b (w.alloc (.cells #[.int .i64 o.1, .int .i64 o.2] 40)) ((HB.out.cell (World.block_lt_of_cell? w _ hc)).trans hc))
  have hk0 := (hK.alloc (.cells #[.int .i64 o.1, .int .i64 o.2] 40)).cell 0
  have hk1 := (hK.alloc (.cells #[.int .i64 o.1, .int .i64 o.2] 40)).cell 1
  have hkl := hK.lt
  simp at hk0 hk1
  clear hc ho hK
  go_enter Tryz.func39, Tryz.ntmps39
  go_wp2_with (go_at_call 40; refine HT.out.mono ?_; clear HT; rintro e w4 ⟨rfl, hb4⟩; have HB4 := Lib.hid (HB.out.andThen hb4); clear hb4)
  go_ret
  exact ⟨rfl, HB4.out⟩
theorem IndexP_17 (A : Option Addr) (c b g : Nat) (w : World) (hs : Sl w 2 A 2 (Rk.cells [(1, 0), (2, 3)])) (hc : w.cell? ⟨b, 0, none⟩ = some (.int .i64 3)) (hK : Blk w g 30 #[.slice (some ⟨b, 0, none⟩) 1 1, .slice none 0 0]) :
    Calls Tryz.prog 38 #[.slice A 2 c, .func (.func 39) #[] #[.pointer (some ⟨g, 0, none⟩)]] w fun e w' => e = .returned (.int .i64 (-1)) ∧ Below w.heap.size w w' := by
  have HS := Lib.hid hs
  have HC := Lib.hid hc
  have HK := Lib.hid hK
  clear hs hc hK
  go_enter Tryz.func38, Tryz.ntmps38
  go_wp2_with fail
  go_loopw [8] (fun i wr => ∃ k : Nat, k ≤ 2 ∧ i = .int .i64 k ∧ Hid (Below w.heap.size w wr)) (fun i _ => 2 - (intOf i).toNat)
  case atStart => exact ⟨0, Nat.zero_le _, rfl, Lib.hid (Below.refl _ _)⟩
  case round =>
    obtain ⟨k, hk, rfl, HB⟩ := hrel
    by_cases hlt : k < 2
    · have hlt' : (k : Int) < 2 := by omega
      have hk0 : (0 : Int) ≤ (k : Int) := by omega
      obtain ⟨⟨x, y⟩, he⟩ : ∃ e, [((1 : Int), (0 : Int)), (2, 3)][k]? = some e := ⟨_, List.getElem?_eq_getElem hlt⟩
      have ho : two17 (x, y) := by
        have := List.mem_of_getElem? he
        simp only [List.mem_cons, List.not_mem_nil, or_false] at this
        exact this
      obtain ⟨b1, off1, rfl, c0, c1⟩ := (HS.out.keep HB.out).edge hlt he
      simp only at c0 c1
      have HF := Lib.hid (First1_17 (x, y) ho b g wr ((HB.out.cell (World.block_lt_of_cell? w _ HC.out)).trans HC.out) (HK.out.keep HB.out))
      simp only at HF
      clear he ho
      go_wp2_with (go_at_call 39; refine HF.out.mono ?_; rintro e w' ⟨rfl, hb2⟩; have HB2 := Lib.hid (HB.out.andThen hb2); clear hb2)
      go_roundw
      case rel => exact ⟨k + 1, by omega, by go_num, HB2⟩
      case measure => simp [intOf]; omega
    · obtain rfl : k = 2 := by omega
      go_wp2_with fail
      go_ret
      exact ⟨rfl, HB.out⟩
theorem First_17 (A : Option Addr) (c b : Nat) (w : World) (hs : Sl w 2 A 2 (Rk.cells [(1, 0), (2, 3)])) (hc : w.cell? ⟨b, 0, none⟩ = some (.int .i64 3)) :
    Calls Tryz.prog 12 #[.slice A 2 c, pv (some ⟨b, 0, none⟩) 1 1 none 0 0] w fun e w' => e = .returned (.int .i64 (-1)) ∧ Below w.heap.size w w' := by
  have HB := Lib.hid (bel_al (Below.refl w.heap.size w) (.cells #[.slice (some ⟨b, 0, none⟩) 1 1, .slice none 0 0] 30))
  have HI := Lib.hid (IndexP_17 A c b w.heap.size _ (hs.keep HB.out) ((HB.out.cell (World.block_lt_of_cell? w _ hc)).trans hc) (Blk.new w 30 #[.slice (some ⟨b, 0, none⟩) 1 1, .slice none 0 0]))
  clear hs hc
  go_enter Tryz.func12, Tryz.ntmps12
  go_wp2_with (go_at_call 38; refine HI.out.mono ?_; clear HI; rintro e w4 ⟨rfl, hb4⟩; have HB4 := Lib.hid (HB.out.andThen hb4); clear hb4)
  go_ret
  exact ⟨rfl, HB4.out⟩
theorem ProgRight_17 (A : Option Addr) (c : Nat) (w : World) (hs : Sl w 2 A 2 (Rk.cells [(1, 0), (2, 3)])) : Calls Tryz.prog 9 #[.slice A 2 c] w fun e w' => e = .returned .nilIface ∧ Below w.heap.size w w' :=
  (ProgRight_any [(1, 0), (2, 3)] A 2 c w (by omega) hs).mono fun e w' h => by
    rcases h with ⟨_, h1, h2⟩ | ⟨h, _⟩
    · exact ⟨h1, h2⟩
    · exact absurd ⟨by decide, fun o ho => two17_ok (by simp only [List.mem_cons, List.not_mem_nil, or_false] at ho; exact ho)⟩ h
set_option maxHeartbeats 4000000 in
theorem Keeps_17 (A : Option Addr) (c b : Nat) (w : World) (hs : Sl w 2 A 2 (Rk.cells [(1, 0), (2, 3)])) (hc : w.cell? ⟨b, 0, none⟩ = some (.int .i64 3)) :
    Calls Tryz.prog 11 #[.slice A 2 c, pv (some ⟨b, 0, none⟩) 1 1 none 0 0] w fun e w' => e = .returned (.bool true) ∧ Below w.heap.size w w' := by
  have HB := Lib.hid (bel_al (Below.refl w.heap.size w) (.cells #[.slice (some ⟨b, 0, none⟩) 1 1, .slice none 0 0] 30))
  have HK2 := Lib.hid (Blk.new w 30 #[.slice (some ⟨b, 0, none⟩) 1 1, .slice none 0 0])
  have HR := Lib.hid (ProgRight_17 A c _ (hs.keep HB.out))
  have HS := Lib.hid hs
  have HC := Lib.hid hc
  clear hs hc
  go_enter Tryz.func11, Tryz.ntmps11
  go_wp2_with (first
    | (go_at_call 9; refine HR.out.mono ?_; clear HR; rintro e w2 ⟨rfl, hb2⟩; have HB2 := Lib.hid (HB.out.andThen hb2); have k2 := (HK2.out.keep hb2).cell 0; have k3 := (HK2.out.keep hb2).cell 1; simp at k2 k3; have HKb := Lib.hid (HK2.out.keep hb2); have HP := Lib.hid (PatRight_17 b w2 ((HB2.out.cell (World.block_lt_of_cell? w _ HC.out)).trans HC.out)); clear hb2)
    | (go_at_call 10; refine HP.out.mono ?_; clear HP; rintro e w3 ⟨rfl, hb3⟩; have HB3 := Lib.hid (HB2.out.andThen hb3); clear k2 k3; have k2 := (HKb.out.keep hb3).cell 0; have k3 := (HKb.out.keep hb3).cell 1; simp at k2 k3; have HF := Lib.hid (First_17 A c b w3 (HS.out.keep HB3.out) ((HB3.out.cell (World.block_lt_of_cell? w _ HC.out)).trans HC.out)); clear hb3)
    | (go_at_call 12; refine HF.out.mono ?_; clear HF; rintro e w4 ⟨rfl, hb4⟩; have HB4 := Lib.hid (HB3.out.andThen hb4); clear hb4))
  go_ret
  exact ⟨rfl, HB4.out⟩
end Go.Proofs.YtapledphhfiimaaGreatDoor
/-
  Chapter 17's statements: alive.
-/
namespace Go.Proofs.YtapledphhfiimaaGreatDoor
open Go.RowKit Go.Proofs.YtapledphhfiimaaGreatDoor.Pg
attribute [local go_sem ↓] Go.wp_at_zero Go.wp_at_succ
set_option maxRecDepth 100000
set_option linter.unusedVariables false

def t17 : List UInt8 := [99, 108, 105, 113, 117, 101, 59, 108, 97, 98, 101, 108, 115, 32, 51]
def b17 : List UInt8 := [99, 108, 105, 113, 117, 101, 32, 49]
theorem right17 : rightG [(1, 0), (2, 3)] := ⟨by decide, fun o ho => two17_ok (by simp only [List.mem_cons, List.not_mem_nil, or_false] at ho; exact ho)⟩
theorem itoa3 : Lib.itoa 3 = [51] := by
  rw [show (3 : Int) = ((3 : Nat) : Int) from rfl]
  unfold Lib.itoa
  rw [if_neg (by omega), Int.toNat_natCast, Lib.decDigits, dif_pos (by omega)]
  rfl
theorem text17 : textG [(1, 0), (2, 3)] = t17 := by
  unfold textG
  simp only [List.map_cons, List.map_nil, opL, itoa3]
  rfl
theorem parse17 : parseG t17 = some [(1, 0), (2, 3)] := by rw [← text17]; exact parse_text right17
theorem tests17 : testsP (Tx.split1 59 b17) = none := by rfl
theorem bad17 : parseG b17 = none := by unfold parseG; rw [tests17]; rfl
theorem Parse_t17 (w : World) (hT : TabW w) (hL : LibW w) : Calls Tryz.prog 29 #[.string ⟨#[99, 108, 105, 113, 117, 101, 59, 108, 97, 98, 101, 108, 115, 32, 51]⟩] w fun e w' => ∃ D dc, e = .returned (.tuple #[.slice D 2 dc, .nilIface]) ∧ w'.ownsRow w.heap.size 40 2 (.slice D 2 dc) 2 (Rk.cells [(1, 0), (2, 3)]) ∧ Below w.heap.size w w' :=
  (PgParse_any t17 w (by decide) hL hT).mono fun e w' h => by
    rcases h with ⟨hb1, ⟨p, D, dc, hp, h1, hown⟩ | ⟨hp, _⟩⟩
    · rw [parse17] at hp
      injection hp with hp
      subst hp
      exact ⟨D, dc, h1, hown, hb1⟩
    · rw [parse17] at hp
      cases hp
theorem Parse_b17 (w : World) (hT : TabW w) (hL : LibW w) : Calls Tryz.prog 29 #[.string ⟨#[99, 108, 105, 113, 117, 101, 32, 49]⟩] w fun e w' => ∃ a s g, e = .returned (.tuple #[.slice none 0 0, .iface 111 (.pointer (some ⟨g, 0, none⟩))]) ∧ Blk w' g 114 #[.int .i64 2, .int .i64 a, .string s] ∧ Below w.heap.size w w' :=
  (PgParse_any b17 w (by decide) hL hT).mono fun e w' h => by
    rcases h with ⟨hb1, ⟨p, D, dc, hp, h1, hown⟩ | ⟨hp, c, a, s, g, he, ⟨g', hg', hv⟩, _, hc⟩⟩
    · rw [bad17] at hp
      cases hp
    · cases hg'
      have hc2 := hc tests17
      subst hc2
      exact ⟨a, s, g, he, hv, hb1⟩
theorem Text_t17 (D : Option Addr) (dc : Nat) (w : World) (hT : TabW w) (hs : Sl w 2 D 2 (Rk.cells [(1, 0), (2, 3)])) : Calls Tryz.prog 30 #[.slice D 2 dc] w fun e w' => e = .returned (.string ⟨#[99, 108, 105, 113, 117, 101, 59, 108, 97, 98, 101, 108, 115, 32, 51]⟩) ∧ Below w.heap.size w w' :=
  (PgText_any [(1, 0), (2, 3)] D 2 dc w (by omega) hs (fun o ho => ⟨(right17.2 o ho).1, by have := (right17.2 o ho).2.1; omega, by have := (right17.2 o ho).2.1; omega⟩) hT).mono fun e w' h => ⟨by rw [h.1, text17]; rfl, h.2⟩
set_option maxHeartbeats 1000000 in
theorem alive17 (w : World) (hg : ErrT w) (hT : TabW w) (hL : LibW w) : Calls Tryz.prog 6 #[] w fun e w' => e = .returned (.bool true) ∧ Below w.heap.size w w' := by
  have HP1 := Lib.hid (Parse_t17 w hT hL)
  have HP2 := Lib.hid (fun W (hW : Below w.heap.size w W) => Parse_b17 W (hT.keep hW) (hL.keep hW))
  have HG := Lib.hid hg
  have HT := Lib.hid hT
  clear hg hT hL
  go_enter Tryz.func6, Tryz.ntmps6
  go_upto_region 2 with (go_at_call 29; refine HP1.out.mono ?_; clear HP1; rintro e w1 ⟨D, dc, rfl, hown, hb1⟩; have HB1 := Lib.hid hb1; have HO1 := Lib.hid hown; clear hb1 hown)
  go_upto_region 3 with (go_at_call 29; refine (HP2.out w1 HB1.out).mono ?_; clear HP2; rintro e w2 ⟨a, s, g, rfl, hv, hb2⟩; have HB2 := Lib.hid (HB1.out.andThen hb2); have HV2 := Lib.hid hv; have HO2 := Lib.hid (own_block HO1.out fun g hg => hb2.block g (HO1.out.lt g hg).2); clear hb2 hv)
  have HS2 := Lib.hid (show Sl w2 2 D 2 (Rk.cells [(1, 0), (2, 3)]) from by obtain ⟨D1, dc1, h1, h2⟩ := Sl.own HO2.out; cases h1; exact h2)
  have HTx := Lib.hid (Text_t17 D dc w2 (HT.out.keep HB2.out) HS2.out)
  clear HO1 HO2
  go_wp2_with (first
    | (go_at_call 30; refine HTx.out.mono ?_; clear HTx; rintro e w3 ⟨rfl, hb3⟩; have HB3 := Lib.hid (HB2.out.andThen hb3); have HS3 := Lib.hid (HS2.out.keep hb3); have HC := Lib.hid (Code_flt g 2 a s w3 (HG.out.keep HB3.out) (HV2.out.keep hb3)); clear hb3)
    | (go_at_call 31; refine HC.out.mono ?_; clear HC; rintro e w4 ⟨rfl, hb4⟩; have HB4 := Lib.hid (bel_al (HB3.out.andThen hb4) (.cells #[.int .i64 3] 3)); have HK := Lib.hid (Keeps_17 D dc w4.heap.size (w4.alloc (.cells #[.int .i64 3] 3)) ((HS3.out.keep hb4).alloc _) (by rw [World.cell?_alloc_new]; rfl)); clear hb4)
    | (go_at_call 11; refine HK.out.mono ?_; clear HK; rintro e w5 ⟨rfl, hb5⟩; have HB5 := Lib.hid (HB4.out.andThen hb5); clear hb5))
  go_ret
  exact ⟨rfl, HB5.out⟩
end Go.Proofs.YtapledphhfiimaaGreatDoor
