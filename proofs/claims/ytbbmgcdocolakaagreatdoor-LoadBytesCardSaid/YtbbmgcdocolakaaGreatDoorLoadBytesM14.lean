/-
  Part 14 of the proof of LoadBytes: ConfQ, PgB, PgC, ConfR, CfA, CfB, WireK, WireL, WireN, WireO.
-/
import Derived.Test.YtbbmgcdocolakaaGreatDoorLoadBytesM13
import Derived.Test.YtbbmgcdocolakaaGreatDoorLoadBytesM6
import Derived.Test.YtbbmgcdocolakaaGreatDoorLoadBytesM10
import Derived.Test.YtbbmgcdocolakaaGreatDoorLoadBytesM7
set_option linter.unusedVariables false
/-
  Jobs' texts plainly: each is parsed as it was; lines more, lines in another order, numbers.
-/
namespace Go.Proofs.YtbbmgcdocolakaaGreatDoor.Cf
open Go Go.Proofs.YtbbmgcdocolakaaGreatDoor.Tx Go.Proofs.YtbbmgcdocolakaaGreatDoor.Pg
set_option linter.unusedVariables false
set_option linter.unusedSimpArgs false

theorem mem_join {b c : UInt8} (hbc : b ≠ c) : ∀ {l : List (List UInt8)}, (∀ x ∈ l, b ∉ x) → b ∉ Lib.join l [c]
  | [], _ => by rw [Lib.join_nil]; simp
  | [x], h => by rw [Lib.join_one]; exact h x (List.mem_cons_self ..)
  | x :: y :: r, h => by
    have ih := mem_join hbc (l := y :: r) fun z hz => h z (List.mem_cons_of_mem _ hz)
    rw [Lib.join_cons] at ih ⊢
    rw [Lib.joinTail, List.map_cons, List.flatten_cons]
    unfold Lib.joinTail at ih
    intro hm
    rcases List.mem_append.1 hm with hm | hm
    · exact h x (List.mem_cons_self ..) hm
    · rcases List.mem_append.1 hm with hm | hm
      · rcases List.mem_cons.1 hm with hm | hm
        · exact hbc hm
        · exact ih (List.mem_append.2 (.inl hm))
      · exact ih (List.mem_append.2 (.inr hm))
theorem text_no {p : List (Int × Int)} (h : rightG p) : (10 : UInt8) ∉ textG p := by
  refine mem_join (by decide) fun x hx => ?_
  obtain ⟨o, ho, rfl⟩ := List.mem_map.1 hx
  have := h.2 o ho
  exact (opL_no this.1 this.2.1.1).2.1
theorem itoa_no {v : Int} (h : 0 ≤ v) : (10 : UInt8) ∉ Lib.itoa v := by
  have e : v = ((v.toNat : Nat) : Int) := by omega
  rw [e, itoa_nat]
  exact dec_no (.inl (by decide)) _
theorem line_no {w t : List UInt8} (hw : (10 : UInt8) ∉ w) (ht : (10 : UInt8) ∉ t) : (10 : UInt8) ∉ lineW w t := fun h => by
  unfold lineW at h
  rcases List.mem_append.1 h with h | h
  · exact hw h
  · rcases List.mem_cons.1 h with h | h
    · cases h
    · exact ht h
theorem lines_no {c : CF} (h : rightC c) : ∀ l ∈ linesC c, (10 : UInt8) ∉ l := by
  obtain ⟨h1, h2, h3, h4, h5, h6, h7⟩ := h
  intro l hl
  unfold linesC at hl
  rw [List.mem_append, List.mem_append, List.mem_append] at hl
  rcases hl with ((hl | hl) | hl) | hl
  · rcases List.mem_cons.1 hl with rfl | hl
    · exact line_no (by decide) (job_name h3.1 h3.2).2.1
    · rw [List.mem_singleton.1 hl]
      exact line_no (by decide) (itoa_no (by omega))
  · split at hl
    · rename_i hk
      rw [if_pos hk] at h7
      rw [List.mem_singleton.1 hl]
      exact line_no (by decide) (itoa_no (by omega))
    · cases hl
  · split at hl
    · cases hl
    · rw [List.mem_singleton.1 hl]
      exact line_no (by decide) (text_no h1)
  · rcases List.mem_cons.1 hl with rfl | hl
    · exact line_no (by decide) (itoa_no (by omega))
    · rw [List.mem_singleton.1 hl]
      exact line_no (by decide) (itoa_no (by omega))
/-- The words of the lines, the last one first. -/
def wordsC (c : CF) : List (List UInt8) := [wCap, wWorkers] ++ (if c.keep = [] then [] else [wKeep]) ++ (if c.kind = 3 then [wSupport] else []) ++ [wSize, wJob]
theorem goC_lines {c : CF} (h : rightC c) {r : List (List UInt8)} (hr : r ≠ []) : goC (linesC c ++ r) .start [] 0 = goC r c (wordsC c) (linesC c).length := by
  obtain ⟨h1, h2, h3, h4, h5, h6, h7⟩ := h
  obtain ⟨kind, size, sup, wk, cap, keep⟩ := c
  simp only at h1 h2 h3 h4 h5 h6 h7
  unfold linesC wordsC
  simp only
  by_cases hk : kind = 3
  · rw [if_pos hk] at h7
    rw [if_pos hk, if_pos hk]
    by_cases he : keep = []
    · subst he
      rw [if_pos rfl, if_pos rfl]
      simp only [List.append_nil, List.cons_append, List.nil_append, List.length_cons, List.length_nil]
      rw [goC_line (by simp) (by decide) (by decide) (by decide) (set_job h3.1 h3.2)]
      rw [goC_line (by simp) (by decide) (by decide) (by decide) (set_size h4.1 h4.2)]
      rw [goC_line (by simp) (by decide) (by decide) (by decide) (set_support hk h7.1 h7.2)]
      rw [goC_line (by simp) (by decide) (by decide) (by decide) (set_workers h5.1 h5.2)]
      rw [goC_line hr (by decide) (by decide) (by decide) (set_cap h6.1 h6.2)]
      rfl
    · rw [if_neg he, if_neg he]
      simp only [List.append_nil, List.cons_append, List.nil_append, List.length_cons, List.length_nil]
      rw [goC_line (by simp) (by decide) (by decide) (by decide) (set_job h3.1 h3.2)]
      rw [goC_line (by simp) (by decide) (by decide) (by decide) (set_size h4.1 h4.2)]
      rw [goC_line (by simp) (by decide) (by decide) (by decide) (set_support hk h7.1 h7.2)]
      rw [goC_line (by simp) (by decide) (by decide) (by decide) (set_keep h1 he h2)]
      rw [goC_line (by simp) (by decide) (by decide) (by decide) (set_workers h5.1 h5.2)]
      rw [goC_line hr (by decide) (by decide) (by decide) (set_cap h6.1 h6.2)]
  · rw [if_neg hk] at h7
    rw [if_neg hk, if_neg hk]
    subst h7
    by_cases he : keep = []
    · subst he
      rw [if_pos rfl, if_pos rfl]
      simp only [List.append_nil, List.cons_append, List.nil_append, List.length_cons, List.length_nil]
      rw [goC_line (by simp) (by decide) (by decide) (by decide) (set_job h3.1 h3.2)]
      rw [goC_line (by simp) (by decide) (by decide) (by decide) (set_size h4.1 h4.2)]
      rw [goC_line (by simp) (by decide) (by decide) (by decide) (set_workers h5.1 h5.2)]
      rw [goC_line hr (by decide) (by decide) (by decide) (set_cap h6.1 h6.2)]
      rfl
    · rw [if_neg he, if_neg he]
      simp only [List.append_nil, List.cons_append, List.nil_append, List.length_cons, List.length_nil]
      rw [goC_line (by simp) (by decide) (by decide) (by decide) (set_job h3.1 h3.2)]
      rw [goC_line (by simp) (by decide) (by decide) (by decide) (set_size h4.1 h4.2)]
      rw [goC_line (by simp) (by decide) (by decide) (by decide) (set_keep h1 he h2)]
      rw [goC_line (by simp) (by decide) (by decide) (by decide) (set_workers h5.1 h5.2)]
      rw [goC_line hr (by decide) (by decide) (by decide) (set_cap h6.1 h6.2)]
      rfl
theorem words_has (c : CF) : wSize ∈ wordsC c ∧ wJob ∈ wordsC c ∧ wCap ∈ wordsC c ∧ wWorkers ∈ wordsC c ∧ (c.kind = 3 → wSupport ∈ wordsC c) := by
  unfold wordsC
  refine ⟨by simp, by simp, by simp, by simp, fun h => ?_⟩
  rw [if_pos h]
  simp
theorem end_lines (c : CF) (n : Nat) : endC c (wordsC c) n = .ok c := by
  unfold endC
  obtain ⟨h1, _, _, _, h2⟩ := words_has c
  rw [if_neg]
  rintro (h | ⟨h3, h⟩)
  · exact h h1
  · exact h (h2 h3)
theorem tell_nil (ls : List (List UInt8)) (h : ∀ l ∈ ls, (10 : UInt8) ∉ l) : split1 10 (tellL ls) = ls ++ [[]] := by
  have := split_tell ls [] h
  rw [List.append_nil] at this
  exact this
/-- Each is parsed as it was. -/
theorem parse_lines {c : CF} (h : rightC c) : parseC (tellL (linesC c)) = .ok c := by
  unfold parseC
  rw [tell_nil _ (lines_no h), goC_lines h (by simp), goC, if_pos rfl, end_lines]
/-- A line more that can't be. -/
theorem more_line {c : CF} (h : rightC c) (t : List UInt8) (ht : ∃ x r, split1 10 t = x :: r ∧ ((r = [] ∧ x ≠ []) ∨ (r ≠ [] ∧ lineC c (wordsC c) (linesC c).length x = none))) : ∃ w, parseC (tellL (linesC c) ++ t) = .bad (linesC c).length w := by
  obtain ⟨x, r, hs, hh⟩ := ht
  unfold parseC
  rw [split_tell _ _ (lines_no h), hs, goC_lines h (by simp)]
  rcases hh with ⟨rfl, hx⟩ | ⟨hr, hx⟩
  · rw [goC, if_neg hx]
    exact ⟨_, rfl⟩
  · rw [goC_fail hr hx]
    exact ⟨_, rfl⟩
theorem line_seen {c : CF} {seen : List (List UInt8)} {n : Nat} {w t : List UInt8} (hw : (32 : UInt8) ∉ w) (hs : w ∈ seen) : lineC c seen n (lineW w t) = none := by
  unfold lineC lineW
  rw [cut1_app t hw, if_pos (.inr (.inl hs))]
theorem line_bare {c : CF} {seen : List (List UInt8)} {n : Nat} {w : List UInt8} (hw : (32 : UInt8) ∉ w) : lineC c seen n w = none := by
  unfold lineC
  rw [cut1_none hw, if_pos (.inl rfl)]
theorem line_other {c : CF} {seen : List (List UInt8)} {n : Nat} {w t : List UInt8} (hw : (32 : UInt8) ∉ w) (ho : w ∉ [wJob, wKeep, wSupport, wSize, wWorkers, wCap]) : lineC c seen n (lineW w t) = none := by
  unfold lineC lineW
  rw [cut1_app t hw]
  split
  · rfl
  · simp only [List.mem_cons, List.not_mem_nil, or_false, not_or] at ho
    obtain ⟨h1, h2, h3, h4, h5, h6⟩ := ho
    unfold setC
    simp only
    rw [if_neg h1, if_neg h2, if_neg h3, if_neg h4, if_neg h5, if_neg h6]
/-- The last line right behind the first one. -/
def turnC (c : CF) : List (List UInt8) :=
  [lineW wJob (jobL c.kind), lineW wCap (Lib.itoa c.cap)] ++ ([lineW wSize (Lib.itoa c.size)] ++ (if c.kind = 3 then [lineW wSupport (Lib.itoa c.sup)] else []) ++ (if c.keep = [] then [] else [lineW wKeep (textG c.keep)]) ++ [lineW wWorkers (Lib.itoa c.wk)])
theorem parse_turn {c : CF} (h : rightC c) : parseC (tellL (turnC c)) = .ok c := by
  have hno : ∀ l ∈ turnC c, (10 : UInt8) ∉ l := fun l hl => lines_no h l (by
    unfold turnC at hl
    unfold linesC
    simp only [List.mem_append, List.mem_cons, List.not_mem_nil, or_false] at hl ⊢
    rcases hl with (hl | hl) | ((hl | hl) | hl) | hl
    · exact .inl (.inl (.inl (.inl hl)))
    · exact .inr (.inr hl)
    · exact .inl (.inl (.inl (.inr hl)))
    · exact .inl (.inl (.inr hl))
    · exact .inl (.inr hl)
    · exact .inr (.inl hl))
  unfold parseC
  rw [tell_nil _ hno]
  clear hno
  obtain ⟨h1, h2, h3, h4, h5, h6, h7⟩ := h
  obtain ⟨kind, size, sup, wk, cap, keep⟩ := c
  simp only at h1 h2 h3 h4 h5 h6 h7
  unfold turnC
  simp only
  by_cases hk : kind = 3
  · rw [if_pos hk] at h7
    rw [if_pos hk]
    subst hk
    by_cases he : keep = []
    · subst he
      rw [if_pos rfl]
      simp only [List.append_nil, List.cons_append, List.nil_append]
      rw [goC_line (by simp) (by decide) (by decide) (by decide) (set_job h3.1 h3.2)]
      rw [goC_line (by simp) (by decide) (by decide) (by decide) (set_cap h6.1 h6.2)]
      rw [goC_line (by simp) (by decide) (by decide) (by decide) (set_size h4.1 h4.2)]
      rw [goC_line (by simp) (by decide) (by decide) (by decide) (set_support rfl h7.1 h7.2)]
      rw [goC_line (by simp) (by decide) (by decide) (by decide) (set_workers h5.1 h5.2)]
      rw [goC, if_pos rfl]
      unfold endC
      rw [if_neg (by simp only; decide)]
      rfl
    · rw [if_neg he]
      simp only [List.append_nil, List.cons_append, List.nil_append]
      rw [goC_line (by simp) (by decide) (by decide) (by decide) (set_job h3.1 h3.2)]
      rw [goC_line (by simp) (by decide) (by decide) (by decide) (set_cap h6.1 h6.2)]
      rw [goC_line (by simp) (by decide) (by decide) (by decide) (set_size h4.1 h4.2)]
      rw [goC_line (by simp) (by decide) (by decide) (by decide) (set_support rfl h7.1 h7.2)]
      rw [goC_line (by simp) (by decide) (by decide) (by decide) (set_keep h1 he h2)]
      rw [goC_line (by simp) (by decide) (by decide) (by decide) (set_workers h5.1 h5.2)]
      rw [goC, if_pos rfl]
      unfold endC
      rw [if_neg (by simp only; decide)]
  · rw [if_neg hk] at h7
    rw [if_neg hk]
    subst h7
    by_cases he : keep = []
    · subst he
      rw [if_pos rfl]
      simp only [List.append_nil, List.cons_append, List.nil_append]
      rw [goC_line (by simp) (by decide) (by decide) (by decide) (set_job h3.1 h3.2)]
      rw [goC_line (by simp) (by decide) (by decide) (by decide) (set_cap h6.1 h6.2)]
      rw [goC_line (by simp) (by decide) (by decide) (by decide) (set_size h4.1 h4.2)]
      rw [goC_line (by simp) (by decide) (by decide) (by decide) (set_workers h5.1 h5.2)]
      rw [goC, if_pos rfl]
      unfold endC
      rw [if_neg (fun e => e.elim (fun e => e (by decide)) fun e => hk e.1)]
      rfl
    · rw [if_neg he]
      simp only [List.append_nil, List.cons_append, List.nil_append]
      rw [goC_line (by simp) (by decide) (by decide) (by decide) (set_job h3.1 h3.2)]
      rw [goC_line (by simp) (by decide) (by decide) (by decide) (set_cap h6.1 h6.2)]
      rw [goC_line (by simp) (by decide) (by decide) (by decide) (set_size h4.1 h4.2)]
      rw [goC_line (by simp) (by decide) (by decide) (by decide) (set_keep h1 he h2)]
      rw [goC_line (by simp) (by decide) (by decide) (by decide) (set_workers h5.1 h5.2)]
      rw [goC, if_pos rfl]
      unfold endC
      rw [if_neg (fun e => e.elim (fun e => e (by decide)) fun e => hk e.1)]
      rfl
/-- The first line alone. -/
theorem parse_first {c : CF} (h : rightC c) : ∃ w, parseC (tellL [lineW wJob (jobL c.kind)]) = .bad 1 w := by
  have h3 := h.2.2.1
  unfold parseC
  rw [tell_nil _ (fun l hl => by rw [List.mem_singleton.1 hl]; exact line_no (by decide) (job_name h3.1 h3.2).2.1), List.cons_append, List.nil_append, goC_line (by simp) (by decide) (by decide) (by decide) (set_job h3.1 h3.2), goC, if_pos rfl]
  unfold endC
  rw [if_pos (.inl (by decide))]
  exact ⟨_, rfl⟩
/-- How many lines a text has. -/
theorem split_len (c : UInt8) : ∀ s : List UInt8, (split1 c s).length = s.count c + 1
  | [] => rfl
  | b :: l => by
    have ih := split_len c l
    unfold split1
    by_cases hb : b = c
    · rw [if_pos hb, List.length_cons, ih, hb, List.count_cons_self]
    · rw [if_neg hb, List.count_cons_of_ne hb]
      cases hs : split1 c l with
      | nil => exact absurd hs (split1_ne c l)
      | cons x r =>
        rw [hs] at ih
        exact ih
end Go.Proofs.YtbbmgcdocolakaaGreatDoor.Cf
/-
  Programs of tests: walks of number, test, Parse.
-/
namespace Go.Proofs.YtbbmgcdocolakaaGreatDoor
open Go.RowKit Go.Proofs.YtbbmgcdocolakaaGreatDoor.Pg
attribute [local go_sem ↓] Go.wp_at_zero Go.wp_at_succ
set_option maxRecDepth 100000
set_option linter.unusedVariables false

theorem split_len_le (c : UInt8) : ∀ (s x : List UInt8), x ∈ Tx.split1 c s → x.length ≤ s.length
  | [], x, h => by
    rw [Tx.split1] at h
    rw [List.mem_singleton.1 h]
    exact Nat.le_refl _
  | b :: l, x, h => by
    have ih := split_len_le c l
    unfold Tx.split1 at h
    split at h
    · rcases List.mem_cons.1 h with rfl | h
      · exact Nat.zero_le _
      · have := ih x h
        rw [List.length_cons]
        omega
    · split at h
      · rw [List.mem_singleton.1 h]
        simp
      · rename_i y r hy
        rcases List.mem_cons.1 h with rfl | h
        · have := ih y (by rw [hy]; exact List.mem_cons_self ..)
          simp only [List.length_cons]
          omega
        · have := ih x (by rw [hy]; exact List.mem_cons_of_mem _ h)
          rw [List.length_cons]
          omega
theorem cut_len_le (c : UInt8) (s : List UInt8) : (Tx.cut1 c s).1.length ≤ s.length ∧ (Tx.cut1 c s).2.1.length ≤ s.length := by
  rcases Tx.cut1_cases c s with ⟨_, h⟩ | ⟨a, b, rfl, _, h⟩
  · rw [h]; simp
  · rw [h]; simp; omega
theorem itoaB_bz (v : Int) : itoaB v = bz (Lib.itoa v) := rfl
theorem bz_beq (l m : List UInt8) : ((bz l).toList == (bz m).toList) = decide (l = m) := by
  rw [bz_toList, bz_toList]
  by_cases h : l = m
  · simp [h]
  · rw [decide_eq_false h]
    simpa using h
/-- What a number's walk answers. -/
def NumRes (o : Option Int) (w : World) (e : Ending) (w' : World) : Prop :=
  ∃ (z : Int) (b : Bool), e = .returned (.tuple #[.int .i64 z, .bool b]) ∧ Below w.heap.size w w' ∧ ((o = some z ∧ b = true) ∨ (o = none ∧ b = false))
/-- What a test's text answers. -/
def TestRes (x : List UInt8) (w : World) (e : Ending) (w' : World) : Prop :=
  ∃ (k n : Int) (b : Bool), e = .returned (.tuple #[.agg #[.int .i64 k, .int .i64 n], .bool b]) ∧ Below w.heap.size w w' ∧ ((testP x = some (k, n) ∧ b = true) ∨ (testP x = none ∧ b = false))
end Go.Proofs.YtbbmgcdocolakaaGreatDoor
/-
  Texts joined at any byte; the walk of prog.Text.
-/
namespace Go.Proofs.YtbbmgcdocolakaaGreatDoor
open Go.RowKit Go.Proofs.YtbbmgcdocolakaaGreatDoor.Pg
attribute [local go_sem ↓] Go.wp_at_zero Go.wp_at_succ
set_option maxRecDepth 100000
set_option linter.unusedVariables false

theorem tailC_len (c : UInt8) : ∀ (r : List (List UInt8)) (M : Nat), (∀ b ∈ r, b.length ≤ M) → (Lib.joinTail [c] r).length ≤ r.length * (M + 1)
  | [], M, _ => Nat.zero_le _
  | x :: r, M, h => by
    have h1 := tailC_len c r M (fun b hb => h b (List.mem_cons_of_mem _ hb))
    have h2 := h x (List.mem_cons_self ..)
    unfold Lib.joinTail at h1 ⊢
    rw [List.map_cons, List.flatten_cons, List.length_append, List.length_cons, List.length_append]
    simp only [List.length_cons, List.length_nil]
    rw [Nat.add_mul (r.length) 1 (M + 1)]
    omega
theorem joinC_len (c : UInt8) (r : List (List UInt8)) (M : Nat) (h : ∀ b ∈ r, b.length ≤ M) : (Lib.join r [c]).length ≤ r.length * (M + 1) := by
  rcases r with _ | ⟨x, r⟩
  · exact Nat.zero_le _
  · have h1 := tailC_len c r M (fun b hb => h b (List.mem_cons_of_mem _ hb))
    have h2 := h x (List.mem_cons_self ..)
    rw [Lib.join_cons, List.length_append, List.length_cons, Nat.add_mul r.length 1 (M + 1)]
    omega
theorem bz_app (l m : List UInt8) : bz l ++ bz m = bz (l ++ m) := by
  apply ByteArray.ext
  simp
theorem opL_len {o : Int × Int} (h1 : 1 ≤ o.1 ∧ o.1 ≤ 8) (h2 : i64P o.2) : (opL o).length ≤ 30 := by
  have h3 := (name_ne h1.1 h1.2).2.2.2.2
  have h4 := Lib.itoa_length_le o.2 h2.1 h2.2
  unfold opL
  rw [List.length_append]
  split
  · rw [List.length_cons]; omega
  · simp; omega
theorem own_lt {w : World} {g : Nat} {t : TypeId} {k n c m : Nat} {A : Option Addr} {xs : List Value} (h : w.ownsRow g t k (.slice A n c) m xs) {x : Addr} (hx : A = some x) : x.block < w.heap.size := by
  subst hx
  exact (h.lt x.block rfl).2
end Go.Proofs.YtbbmgcdocolakaaGreatDoor
/-
  Jobs' texts plainly: which numbers each word takes.
-/
namespace Go.Proofs.YtbbmgcdocolakaaGreatDoor.Cf
open Go Go.Proofs.YtbbmgcdocolakaaGreatDoor.Tx Go.Proofs.YtbbmgcdocolakaaGreatDoor.Pg
set_option linter.unusedVariables false

/-- A number's text, as the statement writes it. -/
def sgnL (n : Int) : List UInt8 := if n < 0 then [45, 48] else Lib.itoa n
theorem numP_neg (d : Nat) : numP d [45, 48] = none := by
  unfold numP
  split
  · rename_i v hv
    rw [if_neg]
    rintro ⟨_, h2, h3⟩
    have e : v = ((v.toNat : Nat) : Int) := by omega
    rw [e, itoa_nat] at h2
    have := dec_digit v.toNat 45 (by rw [h2]; simp)
    revert this
    decide
  · rfl
theorem numC_sgn {m n : Int} (hm : m ≤ 1000000) (h9 : n ≤ 9223372036854775807) : numC m (sgnL n) = if 1 ≤ n ∧ n ≤ m then some n else none := by
  unfold sgnL
  by_cases hn : n < 0
  · rw [if_pos hn, if_neg (by omega)]
    unfold numC
    rw [numP_neg]
  · rw [if_neg hn]
    by_cases hc : 1 ≤ n ∧ n ≤ m
    · rw [if_pos hc, numC_itoa hc.1 hc.2 hm]
    · rw [if_neg hc]
      have e : n = ((n.toNat : Nat) : Int) := by omega
      unfold numC
      rw [e, itoa_nat]
      by_cases hl : (Lib.decDigits n.toNat).length ≤ 7
      · rw [numP_dec (by omega) hl]
        simp only
        rw [if_neg (by omega)]
      · have : numP 7 (Lib.decDigits n.toNat) = none := by
          unfold numP
          rw [atoi_dec (by omega)]
          simp only
          rw [if_neg (fun h => hl h.1)]
        rw [this]
theorem sgn_no {n : Int} : (10 : UInt8) ∉ sgnL n := by
  unfold sgnL
  split
  · decide
  · exact itoa_no (by omega)
def mostK (k : Nat) : Int := if k = 0 then 8 else if k = 2 then 64 else 1000000
def wordK (k : Nat) : List UInt8 := if k = 0 then wSize else if k = 1 then wSupport else if k = 2 then wWorkers else wCap
def fieldK (k : Nat) (c : CF) : Int := if k = 0 then c.size else if k = 1 then c.sup else if k = 2 then c.wk else c.cap
/-- The lines of the statement. -/
def linesK (k : Nat) (n : Int) : List (List UInt8) :=
  [lineW wJob (jobL 3), lineW (wordK k) (sgnL n)] ++ (if k = 0 then [] else [lineW wSize [49]]) ++ (if k = 1 then [] else [lineW wSupport [49]])
theorem one_itoa : ([49] : List UInt8) = Lib.itoa 1 := by
  rw [show (1 : Int) = ((1 : Nat) : Int) from rfl, itoa_nat, Lib.decDigits_one (by omega)]
  rfl
theorem set_k {c : CF} {k : Nat} {n : Int} (hk : k < 4) (h3 : c.kind = 3) (h9 : n ≤ 9223372036854775807) (h1 : 1 ≤ n) (hm : n ≤ mostK k) : ∃ c', setC c (wordK k) (sgnL n) = some c' ∧ c'.kind = 3 ∧ fieldK k c' = n ∧ (∀ j, j < 4 → j ≠ k → fieldK j c' = fieldK j c) := by
  have hs : sgnL n = Lib.itoa n := by unfold sgnL; rw [if_neg (by omega)]
  rw [hs]
  rcases (show k = 0 ∨ k = 1 ∨ k = 2 ∨ k = 3 by omega) with rfl | rfl | rfl | rfl
  · exact ⟨_, set_size h1 hm, h3, rfl, fun j hj hne => by rcases (show j = 1 ∨ j = 2 ∨ j = 3 by omega) with rfl | rfl | rfl <;> rfl⟩
  · exact ⟨_, set_support h3 h1 hm, h3, rfl, fun j hj hne => by rcases (show j = 0 ∨ j = 2 ∨ j = 3 by omega) with rfl | rfl | rfl <;> rfl⟩
  · exact ⟨_, set_workers h1 hm, h3, rfl, fun j hj hne => by rcases (show j = 0 ∨ j = 1 ∨ j = 3 by omega) with rfl | rfl | rfl <;> rfl⟩
  · exact ⟨_, set_cap h1 hm, h3, rfl, fun j hj hne => by rcases (show j = 0 ∨ j = 1 ∨ j = 2 by omega) with rfl | rfl | rfl <;> rfl⟩
theorem set_k_no {c : CF} {k : Nat} {n : Int} (hk : k < 4) (h9 : n ≤ 9223372036854775807) (h : ¬ (1 ≤ n ∧ n ≤ mostK k)) : setC c (wordK k) (sgnL n) = none := by
  have hm : mostK k ≤ 1000000 := by unfold mostK; split <;> (try split) <;> omega
  have hn := numC_sgn (n := n) hm h9
  rw [if_neg h] at hn
  rcases (show k = 0 ∨ k = 1 ∨ k = 2 ∨ k = 3 by omega) with rfl | rfl | rfl | rfl
  · have hn : numC 8 (sgnL n) = none := hn
    show setC c wSize (sgnL n) = none
    unfold setC
    rw [if_neg (by decide), if_neg (by decide), if_neg (by decide), if_pos rfl, hn]
    rfl
  · have hn : numC 1000000 (sgnL n) = none := hn
    show setC c wSupport (sgnL n) = none
    unfold setC
    rw [if_neg (by decide), if_neg (by decide), if_pos rfl, hn]
    split <;> rfl
  · have hn : numC 64 (sgnL n) = none := hn
    show setC c wWorkers (sgnL n) = none
    unfold setC
    rw [if_neg (by decide), if_neg (by decide), if_neg (by decide), if_neg (by decide), if_pos rfl, hn]
    rfl
  · have hn : numC 1000000 (sgnL n) = none := hn
    show setC c wCap (sgnL n) = none
    unfold setC
    rw [if_neg (by decide), if_neg (by decide), if_neg (by decide), if_neg (by decide), if_neg (by decide), if_pos rfl, hn]
    rfl
theorem wordK_no {k : Nat} (hk : k < 4) : (32 : UInt8) ∉ wordK k ∧ (10 : UInt8) ∉ wordK k ∧ wordK k ∉ [wJob] ∧ wordK k ≠ wJob ∧ (k ≠ 0 → wSize ≠ wordK k) ∧ (k ≠ 1 → wSupport ≠ wordK k) := by
  rcases (show k = 0 ∨ k = 1 ∨ k = 2 ∨ k = 3 by omega) with rfl | rfl | rfl | rfl <;> decide
/-- Which numbers each word takes, and where one that it doesn't is told. -/
theorem parse_numbers {k : Nat} {n : Int} (hk : k < 4) (h9 : n ≤ 9223372036854775807) :
    (1 ≤ n ∧ n ≤ mostK k → ∃ c, parseC (tellL (linesK k n)) = .ok c ∧ fieldK k c = n) ∧ (¬ (1 ≤ n ∧ n ≤ mostK k) → ∃ w, parseC (tellL (linesK k n)) = .bad 1 w) := by
  obtain ⟨w1, w2, w3, w4, w5, w6⟩ := wordK_no hk
  have hno : ∀ l ∈ linesK k n, (10 : UInt8) ∉ l := by
    intro l hl
    unfold linesK at hl
    rw [List.mem_append, List.mem_append] at hl
    rcases hl with (hl | hl) | hl
    · rcases List.mem_cons.1 hl with rfl | hl
      · decide
      · rw [List.mem_singleton.1 hl]
        exact line_no w2 sgn_no
    · split at hl
      · cases hl
      · rw [List.mem_singleton.1 hl]; decide
    · split at hl
      · cases hl
      · rw [List.mem_singleton.1 hl]; decide
  unfold parseC
  rw [tell_nil _ hno]
  clear hno
  unfold linesK
  simp only [List.cons_append, List.nil_append]
  rw [goC_line (by simp) (by decide) (by decide) (by decide) (set_job (k := 3) (by omega) (by omega))]
  have hn1 : ¬ ((0 + 1 : Nat) ≠ 0 ↔ wordK k = wJob) := fun e => w4 (e.1 (by omega))
  constructor
  · rintro ⟨h1, hm⟩
    obtain ⟨c', hset, hk3, hf, hot⟩ := set_k (c := { CF.start with kind := 3 }) hk rfl h9 h1 hm
    rw [goC_line (by simp) w1 w3 hn1 hset]
    by_cases k0 : k = 0
    · subst k0
      rw [if_pos rfl, if_neg (by decide), List.nil_append, List.cons_append, List.nil_append, one_itoa, goC_line (by simp) (by decide) (by decide) (by decide) (set_support hk3 (by omega) (by omega)), goC, if_pos rfl]
      unfold endC
      rw [if_neg (fun e => e.elim (fun e => e (by decide)) fun e => e.2 (by decide))]
      exact ⟨_, rfl, hf⟩
    · rw [if_neg k0, List.cons_append, List.nil_append, one_itoa, List.cons_append, goC_line (by simp) (by decide) (fun e => by
        rcases List.mem_cons.1 e with e | e
        · exact w5 k0 e
        · revert e; decide) (by decide) (set_size (by omega) (by omega))]
      by_cases k1 : k = 1
      · subst k1
        rw [if_pos rfl, List.nil_append, goC, if_pos rfl]
        unfold endC
        rw [if_neg (fun e => e.elim (fun e => e (by decide)) fun e => e.2 (by decide))]
        exact ⟨_, rfl, hf⟩
      · rw [if_neg k1, List.cons_append, List.nil_append, goC_line (by simp) (by decide) (fun e => by
          rcases List.mem_cons.1 e with e | e
          · revert e; decide
          · rcases List.mem_cons.1 e with e | e
            · exact w6 k1 e
            · revert e; decide) (by decide) (set_support (c := { c' with size := 1 }) hk3 (by omega) (by omega)), goC, if_pos rfl]
        unfold endC
        rw [if_neg (fun e => e.elim (fun e => e (List.mem_cons_of_mem _ (List.mem_cons_self ..))) fun e => e.2 (List.mem_cons_self ..))]
        refine ⟨_, rfl, ?_⟩
        rcases (show k = 2 ∨ k = 3 by omega) with rfl | rfl <;> exact hf
  · intro hb
    rw [goC_fail (by split <;> split <;> simp) (show lineC _ _ _ (lineW (wordK k) (sgnL n)) = none by
      unfold lineC lineW
      rw [cut1_app _ w1]
      simp only
      rw [if_neg (fun e => e.elim (fun e => by cases e) fun e => e.elim w3 hn1)]
      exact set_k_no hk h9 hb)]
    exact ⟨_, rfl⟩
end Go.Proofs.YtbbmgcdocolakaaGreatDoor.Cf
/-
  conf: walks of names, Name, within, wrong, number, Edges.
-/
namespace Go.Proofs.YtbbmgcdocolakaaGreatDoor
open Go.RowKit Go.Proofs.YtbbmgcdocolakaaGreatDoor.Pg
attribute [local go_sem ↓] Go.wp_at_zero Go.wp_at_succ
set_option maxRecDepth 100000
set_option linter.unusedVariables false

def jobsB : List ByteArray := Cf.jobsL.map fun l => ⟨l.toArray⟩
end Go.Proofs.YtbbmgcdocolakaaGreatDoor
/-
  conf: the walk of set.
-/
namespace Go.Proofs.YtbbmgcdocolakaaGreatDoor
open Go.RowKit Go.Proofs.YtbbmgcdocolakaaGreatDoor.Pg
attribute [local go_sem ↓] Go.wp_at_zero Go.wp_at_succ
set_option maxRecDepth 100000
set_option linter.unusedVariables false

theorem Sl.asd {w w' : World} {g s n : Nat} {A : Option Addr} {xs : List Value} (h : Sl w s A n xs) (ha : Asd g w w') (hA : ∀ x, A = some x → x.block ≠ g) : Sl w' s A n xs :=
  ⟨h.1, fun hn => by
    obtain ⟨b, off, rfl, hc⟩ := h.2 hn
    exact ⟨b, off, rfl, fun j u hu => ha.cell (hc j u hu) (show b ≠ g from hA ⟨b, off, none⟩ rfl)⟩⟩
theorem bz_beqL (l m : List UInt8) : ((bz l).toList == m) = decide (l = m) := by
  have := bz_beq l m
  rwa [bz_toList m] at this
theorem jobs_idx (l : List UInt8) : Lib.idxOfS jobsB (bz l) + 1 = Cf.jobZ l := idxFromS_idxL l Cf.jobsL 0
theorem jobs_bounds (l : List UInt8) : 0 ≤ Cf.jobZ l ∧ Cf.jobZ l ≤ 3 := by
  rcases idxL_some l Cf.jobsL 0 with h | ⟨j, hj, h, _⟩
  · exact ⟨by unfold Cf.jobZ; omega, by unfold Cf.jobZ; omega⟩
  · have : Cf.jobsL.length = 3 := rfl
    exact ⟨by unfold Cf.jobZ; omega, by unfold Cf.jobZ; omega⟩
end Go.Proofs.YtbbmgcdocolakaaGreatDoor
/-
  Contracts of wire.Reader where the bytes suffice: Long, Text, List.
-/
namespace Go.Proofs.YtbbmgcdocolakaaGreatDoor
open Go.RowKit
set_option maxRecDepth 100000
set_option linter.unusedVariables false

theorem bits_or_u64 (a b : Nat) (ha : a < 18446744073709551616) (hb : b < 18446744073709551616) : bits .or .u64 (a : Int) (b : Int) = ((a ||| b : Nat) : Int) := by
  have h1 : (BitVec.ofInt 64 (a : Int) ||| BitVec.ofInt 64 (b : Int)).toNat = a ||| b := by
    rw [BitVec.toNat_or, BitVec.ofInt_natCast, BitVec.ofInt_natCast, BitVec.toNat_ofNat, BitVec.toNat_ofNat, Nat.mod_eq_of_lt (by omega), Nat.mod_eq_of_lt (by omega)]
  have h2 : a ||| b < 2 ^ 64 := Nat.or_lt_two_pow (by omega) (by omega)
  show IntKind.u64.wrap (((BitVec.ofInt 64 (a : Int) ||| BitVec.ofInt 64 (b : Int)).toNat : Nat) : Int) = _
  rw [h1]
  exact IntWalk.u64_in _ (by omega)
theorem or_long (a b : Nat) (ha : a < 4294967296) (hb : b < 4294967296) : bits .or .u64 ((a : Int) * 4294967296) (b : Int) = ((a * 4294967296 + b : Nat) : Int) := by
  have := bits_or_u64 (a * 4294967296) b (by omega) (by omega)
  rw [or_join a b 32 (by omega)] at this
  rw [show (a : Int) * 4294967296 = ((a * 4294967296 : Nat) : Int) by omega]
  exact this
/-- A long one, out of two words. -/
def longZ (l : List Int) : Int := wrap64 ((wordN l * 4294967296 + wordN (l.drop 4) : Nat) : Int)

end Go.Proofs.YtbbmgcdocolakaaGreatDoor
/-
  Contracts of wire.Reader where the bytes suffice: Text.
-/
namespace Go.Proofs.YtbbmgcdocolakaaGreatDoor
open Go.RowKit
set_option maxRecDepth 100000
set_option linter.unusedVariables false

set_option maxHeartbeats 4000000 in
theorem take_zero (g B : Nat) (b0 off n c a : Nat) (from_ : Int) (w : World) (hR : Rd w B g (some ⟨b0, off, none⟩) n c a .nil) (hn : n ≤ 1099511627776) (hnc : n ≤ c) (hc9 : c ≤ 9223372036854775807) :
    Calls Tryz.prog 95 #[.pointer (some ⟨g, 0, none⟩), .int .i64 0, .int .i64 from_] w fun e w' => ∃ o k, e = .returned (.slice (some ⟨b0, o, none⟩) 0 k) ∧ Rd w' B g (some ⟨b0, off, none⟩) n c a .nil ∧ Below B w w' ∧ Asd g w w' := by
  obtain ⟨hBg, hf, han, ev, hb, he⟩ := hR
  obtain rfl : ev = .nilIface := he
  have hc0 := hb.cell 0
  have hc1 := hb.cell 1
  have hc2 := hb.cell 2
  simp at hc0 hc1 hc2
  have hfr1 := hb.frozen 1
  have HBk := Lib.hid hb
  have hBw : B ≤ w.heap.size := Nat.le_trans hBg (Nat.le_of_lt hb.lt)
  clear hb
  have hd : decide ((n : Int) - (a : Int) < 0) = false := decide_eq_false (by omega)
  have e1 : (0 : Int) ≤ a := by omega
  have e3 : (a : Int) ≤ (c : Int) := by omega
  have e6 : a - a = 0 := by omega
  by_cases e5 : c = a
  · subst e5
    go_enter Tryz.func95, Tryz.ntmps95
    go_wp2_with fail
    go_quiet (fail)
    go_wp2_with fail
    go_quiet (fail)
    go_wp2_with fail
    go_ret
    refine ⟨off, _, rfl, ⟨hBg, trivial, han, .nilIface, ?_, rfl⟩, ?_, ?_⟩
    · have := fun q => (HBk.out.drewN q).set_ 1 (.int .i64 (c : Int))
      simpa using this _
    · exact ((bel_drewN (Below.refl _ _) _).mono hBw).setCell (p := ⟨g, 1, none⟩) hBg _
    · exact (Asd.of (bel_drewN (Below.refl _ _) _)).setCell _ _
  · go_enter Tryz.func95, Tryz.ntmps95
    go_wp2_with fail
    go_quiet (fail)
    go_wp2_with fail
    go_quiet (fail)
    go_wp2_with fail
    go_ret
    refine ⟨off + a, _, rfl, ⟨hBg, trivial, han, .nilIface, ?_, rfl⟩, ?_, ?_⟩
    · have := fun q => (HBk.out.drewN q).set_ 1 (.int .i64 (a : Int))
      simpa using this _
    · exact ((bel_drewN (Below.refl _ _) _).mono hBw).setCell (p := ⟨g, 1, none⟩) hBg _
    · exact (Asd.of (bel_drewN (Below.refl _ _) _)).setCell _ _

theorem conv_bytes (w : World) (b off n k : Nat) (l : List Int) (hl : l.length = n) (hs : Sl w 1 (some ⟨b, off, none⟩) n (l.map (Value.int .u8))) : (convert 42 9 (.slice (some ⟨b, off, none⟩) n k)).run Tryz.prog w = .ok (.string (strOfNums l)) w := by
  refine run_convert_bytes_arg (P := Tryz.prog) w 42 5 Tryz.underlying42 Tryz.underlying5 b off n k l hl (fun i hi => ?_) 9 Tryz.underlying9
  refine hs.again hi ?_
  rw [List.getElem?_map, List.getD_eq_getElem?_getD, List.getElem?_eq_getElem (by omega)]; rfl

end Go.Proofs.YtbbmgcdocolakaaGreatDoor
/-
  What is put is taken: the plain law; what nobody answers.
-/
namespace Go.Proofs.YtbbmgcdocolakaaGreatDoor
open Go.RowKit
set_option maxRecDepth 100000
set_option linter.unusedVariables false

theorem strOf_sB' (s : ByteArray) : strOfNums (sB s) = s := by
  have h : (strOfNums (sB s)).data.toList = s.data.toList := by
    rw [strOfNums_data, sB, List.map_map]
    refine (List.map_congr_left (fun b _ => ?_)).trans (List.map_id _)
    show UInt8.ofNat ((b.toNat : Int)).toNat = b
    rw [Int.toNat_natCast]
    exact UInt8.ofNat_toNat
  cases hs : strOfNums (sB s) with | mk d =>
  cases s with | mk e =>
  rw [hs] at h
  have : d = e := by
    have h' : d.toList = e.toList := h
    exact Array.toList_inj.1 h'
  rw [this]
/-- Numbers' bytes. -/
def encL : List Int → List Int
  | [] => []
  | z :: l => wordL z.toNat ++ encL l
theorem encL_len : ∀ l, (encL l).length = 4 * l.length
  | [] => rfl
  | z :: l => by rw [encL, List.length_append, encL_len l, wordL_len, List.length_cons]; omega
def enc (x : Item) : List Int := if x.kind = 0 then wordL x.n.toNat else if x.kind = 1 then wordL (hiN x.n) ++ wordL (loN x.n) else if x.kind = 2 then wordL x.s.size ++ sB x.s else wordL x.l.length ++ encL x.l
def fitI (x : Item) : Prop := (x.kind = 0 → fits x.n) ∧ (x.kind ≠ 0 → x.kind ≠ 1 → x.kind ≠ 2 → ∀ z ∈ x.l, fits z)
theorem pNum_nil {z : Int} {st : St} (h : (pNum z st).2 = .nil) : fits z ∧ st.2 = .nil ∧ (pNum z st).1 = st.1 ++ wordL z.toNat := by
  unfold pNum at h ⊢
  split
  · rw [if_pos ‹_›] at h; exact ⟨‹_›, h, rfl⟩
  · rw [if_neg ‹_›] at h; exact absurd h Err.first2_ne
theorem pNums_nil : ∀ {l : List Int} {st : St}, (pNums l st).2 = .nil → (∀ z ∈ l, fits z) ∧ st.2 = .nil ∧ (pNums l st).1 = st.1 ++ encL l
  | [], st, h => ⟨fun _ h => (by cases h), h, by simp [pNums, encL]⟩
  | z :: l, st, h => by
    rw [pNums] at h ⊢
    obtain ⟨h1, h2, h3⟩ := pNums_nil h
    obtain ⟨h4, h5, h6⟩ := pNum_nil h2
    refine ⟨fun y hy => ?_, h5, by rw [h3, h6, encL, List.append_assoc]⟩
    rcases List.mem_cons.1 hy with rfl | hy
    · exact h4
    · exact h1 y hy
theorem pItem_nil {x : Item} {st : St} (h : (pItem x st).2 = .nil) (hn : near x) : fitI x ∧ st.2 = .nil ∧ (pItem x st).1 = st.1 ++ enc x := by
  obtain ⟨n1, n2, _⟩ := hn
  unfold pItem at h ⊢
  unfold enc fitI
  by_cases e0 : x.kind = 0
  · rw [if_pos e0] at h ⊢
    obtain ⟨h1, h2, h3⟩ := pNum_nil h
    exact ⟨⟨fun _ => h1, fun h => absurd e0 h⟩, h2, by rw [if_pos e0]; exact h3⟩
  · rw [if_neg e0] at h ⊢
    by_cases e1 : x.kind = 1
    · rw [if_pos e1] at h ⊢
      exact ⟨⟨fun h => absurd h e0, fun _ h => absurd e1 h⟩, h, by rw [if_neg e0, if_pos e1, pLong, List.append_assoc]⟩
    · rw [if_neg e1] at h ⊢
      by_cases e2 : x.kind = 2
      · rw [if_pos e2] at h ⊢
        obtain ⟨h1, h2, h3⟩ := pNum_nil (z := x.s.size) (st := st) h
        refine ⟨⟨fun h => absurd h e0, fun _ _ h => absurd e2 h⟩, h2, ?_⟩
        rw [if_neg e0, if_neg e1, if_pos e2, pText, h3, Int.toNat_natCast, List.append_assoc]
      · rw [if_neg e2] at h ⊢
        rw [pList] at h ⊢
        obtain ⟨h1, h2, h3⟩ := pNums_nil h
        obtain ⟨h4, h5, h6⟩ := pNum_nil h2
        exact ⟨⟨fun h => absurd h e0, fun _ _ _ => h1⟩, h5, by rw [if_neg e0, if_neg e1, if_neg e2, h3, h6, Int.toNat_natCast, List.append_assoc]⟩
def encs : List Item → List Int
  | [] => []
  | x :: l => enc x ++ encs l
theorem encs_append : ∀ a b, encs (a ++ b) = encs a ++ encs b
  | [], b => rfl
  | x :: a, b => by rw [List.cons_append, encs, encs_append a b, encs, List.append_assoc]
theorem pItems_nil : ∀ {l : List Item} {st : St}, (pItems l st).2 = .nil → (∀ x ∈ l, near x) → (∀ x ∈ l, fitI x) ∧ st.2 = .nil ∧ (pItems l st).1 = st.1 ++ encs l
  | [], st, h, _ => ⟨fun _ h => (by cases h), h, by simp [pItems, encs]⟩
  | x :: l, st, h, hn => by
    rw [pItems] at h ⊢
    obtain ⟨h1, h2, h3⟩ := pItems_nil h (fun y hy => hn y (List.mem_cons_of_mem _ hy))
    obtain ⟨h4, h5, h6⟩ := pItem_nil h2 (hn x (List.mem_cons_self ..))
    refine ⟨fun y hy => ?_, h5, by rw [h3, h6, encs, List.append_assoc]⟩
    rcases List.mem_cons.1 hy with rfl | hy
    · exact h4
    · exact h1 y hy
theorem encs_drop {xs : List Item} {i : Nat} {x : Item} (h : xs[i]? = some x) : (encs xs).drop (encs (xs.take i)).length = enc x ++ encs (xs.drop (i + 1)) ∧ (encs (xs.take (i + 1))).length = (encs (xs.take i)).length + (enc x).length ∧ (encs (xs.take i)).length + (enc x).length ≤ (encs xs).length := by
  obtain ⟨hi, e⟩ := List.getElem?_eq_some_iff.1 h
  have d : xs = xs.take i ++ x :: xs.drop (i + 1) := by rw [← e, ← List.drop_eq_getElem_cons hi, List.take_append_drop]
  have e1 : encs xs = encs (xs.take i) ++ (enc x ++ encs (xs.drop (i + 1))) := by conv => lhs; rw [d, encs_append, encs]
  refine ⟨by rw [e1, List.drop_left], ?_, by rw [e1, List.length_append, List.length_append]; omega⟩
  rw [List.take_succ_eq_append_getElem hi, e, encs_append, List.length_append, encs, encs, List.append_nil]
theorem fits_cast {z : Int} (h : fits z) : ((z.toNat : Nat) : Int) = z ∧ z.toNat < 4294967296 := by obtain ⟨h1, h2⟩ := h; omega
theorem wordsL_enc : ∀ (k : Nat) (l : List Int) (r : List Int), k ≤ l.length → (∀ z ∈ l, fits z) → wordsL (encL l ++ r) k = l.take k
  | 0, l, r, _, _ => by simp [wordsL]
  | k + 1, l, r, hk, hf => by
    have hkl : k < l.length := by omega
    rw [wordsL, wordsL_enc k l r (by omega) hf, List.take_succ_eq_append_getElem hkl]
    congr 2
    have d : l = l.take k ++ l[k] :: l.drop (k + 1) := by rw [← List.drop_eq_getElem_cons hkl, List.take_append_drop]
    have eapp : ∀ a b : List Int, encL (a ++ b) = encL a ++ encL b := by
      intro a b
      induction a with
      | nil => rfl
      | cons z a ih => rw [List.cons_append, encL, ih, encL, List.append_assoc]
    have hz := fits_cast (hf _ (List.getElem_mem hkl))
    conv => lhs; rw [d, eapp, encL, List.append_assoc, List.append_assoc]
    rw [List.drop_left' (by rw [encL_len, List.length_take]; omega), wordN_of hz.2, hz.1]
theorem long_back (z : Int) (hz : -9223372036854775808 ≤ z ∧ z ≤ 9223372036854775807) (r : List Int) : longZ (wordL (hiN z) ++ wordL (loN z) ++ r) = z := by
  have h1 := hiN_lt z
  have h2 := loN_lt z
  rw [longZ, List.append_assoc, wordN_of h1, List.drop_left' (wordL_len _), wordN_of h2]
  have h3 : ((hiN z * 4294967296 + loN z : Nat) : Int) = z % 18446744073709551616 := by unfold hiN loN; omega
  rw [h3]
  by_cases h0 : 0 ≤ z
  · rw [show z % 18446744073709551616 = z by omega]
    exact IntWalk.wrap64_in _ (by omega)
  · rw [show z % 18446744073709551616 = z + 18446744073709551616 by omega]
    have := IntKind.wrap_i64 (z + 18446744073709551616)
    unfold wrap64
    omega

theorem Num_nil (z : Int) (w : World) : Calls Tryz.prog 76 #[.pointer none, .int .i64 z] w fun e w' => e = .returned (.tuple #[]) ∧ w = w' := by
  go_enter Tryz.func76, Tryz.ntmps76
  go_wp2_with fail
  refine bodyPost_ret (v := .tuple #[]) (by simp [results, Tryz.results76, go_sem]) rfl ⟨rfl, rfl⟩
theorem List_nil (w : World) : Calls Tryz.prog 44 #[.pointer none, .slice none 0 0] w fun e w' => e = .returned (.tuple #[]) ∧ w = w' := by
  go_enter Tryz.func44, Tryz.ntmps44
  go_wp2_with fail
  refine (Num_nil 0 w).mono ?_
  rintro e w1 ⟨rfl, rfl⟩
  go_wp2_with fail
  go_loop [12] (fun iv => iv = .int .i64 0) (fun _ => 0)
  case atStart => rfl
  case round =>
    obtain rfl := hrel
    go_wp2_with fail
    go_end0
    exact ⟨rfl, rfl⟩
theorem Bytes_nil (w : World) : Calls Tryz.prog 46 #[.pointer none] w fun e w' => e = .returned (.slice none 0 0) ∧ w = w' := by
  go_enter Tryz.func46, Tryz.ntmps46
  go_wp2_with fail
  go_ret
  exact ⟨rfl, rfl⟩
theorem RList_nil (m : Int) (w : World) : Calls Tryz.prog 71 #[.pointer none, .int .i64 m] w fun e w' => e = .returned (.slice none 0 0) ∧ w = w' := by
  go_enter Tryz.func71, Tryz.ntmps71
  go_wp2_with fail
  go_ret
  exact ⟨rfl, rfl⟩
theorem RLeft_nil (w : World) : Calls Tryz.prog 96 #[.pointer none] w fun e w' => e = .returned (.int .i64 0) ∧ w = w' := by
  go_enter Tryz.func96, Tryz.ntmps96
  go_wp2_with fail
  go_ret
  exact ⟨rfl, rfl⟩
theorem REnd_nil (w : World) : Calls Tryz.prog 72 #[.pointer none] w fun e w' => ∃ v, e = .returned v ∧ (∃ t, (Err.flt 10 0 t).At w' v) ∧ Below w.heap.size w w' := by
  go_enter Tryz.func72, Tryz.ntmps72
  go_wp2_with fail
  refine (New_err 10 0 ⟨#[114, 101, 97, 100, 101, 114]⟩ w).mono ?_
  rintro e w1 ⟨v, rfl, hv, hb⟩
  go_wp2_with fail
  go_ret
  exact ⟨v, rfl, ⟨_, hv⟩, hb⟩
end Go.Proofs.YtbbmgcdocolakaaGreatDoor
/-
  An item taken by a living reader (printed by gen_wireo.py).
-/
namespace Go.Proofs.YtbbmgcdocolakaaGreatDoor
open Go.RowKit
set_option maxRecDepth 100000
set_option linter.unusedVariables false

theorem Asd.blk {g : Nat} {w w' : World} (h : Asd g w w') {k : Nat} {t : TypeId} {cs : Array Value} (hk : Blk w k t cs) (hne : k ≠ g) : Blk w' k t cs := (h.2 k hne hk.lt).trans hk
theorem Rd.lt {w : World} {B g : Nat} {A : Option Addr} {n c a : Nat} {E : Err} (h : Rd w B g A n c a E) : g < w.heap.size ∧ B ≤ w.heap.size := by
  obtain ⟨h1, _, _, _, h, _⟩ := h
  exact ⟨h.lt, Nat.le_trans h1 (Nat.le_of_lt h.lt)⟩
theorem Sl.off {w : World} {s n : Nat} {A : Option Addr} {xs : List Value} (h : Sl w s A n xs) {b i : Nat} (hb : ∀ x, A = some x → x.block ≠ b) {u : Value} : Sl (w.setCell ⟨b, i, none⟩ u) s A n xs := by
  refine ⟨h.1, fun hn => ?_⟩
  obtain ⟨b0, off, rfl, h2⟩ := h.2 hn
  refine ⟨b0, off, rfl, fun j v hj => ?_⟩
  exact (World.cell?_of_block (w := w) (a := ⟨b0, off + j, none⟩) (Below.heap_setCell w ⟨b, i, none⟩ u b0 (hb _ rfl))).trans (h2 j v hj)

end Go.Proofs.YtbbmgcdocolakaaGreatDoor
