/-
  Part 8 of the proof of ConfProgs: ConfQ, PgB.
-/
import Derived.Test.YtapledphhfiimaaGreatDoorConfProgsM7
/-
  Jobs' texts plainly: each is parsed as it was; lines more, lines in another order, numbers.
-/
namespace Go.Proofs.YtapledphhfiimaaGreatDoor.Cf
open Go Go.Proofs.YtapledphhfiimaaGreatDoor.Tx Go.Proofs.YtapledphhfiimaaGreatDoor.Pg
set_option linter.unusedVariables false
set_option linter.unusedSimpArgs false

theorem mem_join {b c : UInt8} (hbc : b ≠ c) : ∀ {l : List (List UInt8)}, (∀ x ∈ l, b ∉ x) → b ∉ Lib.join l [c]
  | [], _ => by rw [Lib.join_nil]; simp
  | [x], h => by rw [Lib.join_one]; exact h x (List.mem_cons_self ..)
  | x :: y :: r, h => by
    have ih := mem_join hbc (l := y :: r) fun z hz => h z (List.mem_cons_of_mem _ hz)
    rw [Lib.join_cons] at ih ⊢
    rw [Lib.joinTail, List.map_cons, List.flatten_cons]
    unfold Lib.joinTail at ih
    intro hm
    rcases List.mem_append.1 hm with hm | hm
    · exact h x (List.mem_cons_self ..) hm
    · rcases List.mem_append.1 hm with hm | hm
      · rcases List.mem_cons.1 hm with hm | hm
        · exact hbc hm
        · exact ih (List.mem_append.2 (.inl hm))
      · exact ih (List.mem_append.2 (.inr hm))
theorem text_no {p : List (Int × Int)} (h : rightG p) : (10 : UInt8) ∉ textG p := by
  refine mem_join (by decide) fun x hx => ?_
  obtain ⟨o, ho, rfl⟩ := List.mem_map.1 hx
  have := h.2 o ho
  exact (opL_no this.1 this.2.1.1).2.1
theorem itoa_no {v : Int} (h : 0 ≤ v) : (10 : UInt8) ∉ Lib.itoa v := by
  have e : v = ((v.toNat : Nat) : Int) := by omega
  rw [e, itoa_nat]
  exact dec_no (.inl (by decide)) _
theorem line_no {w t : List UInt8} (hw : (10 : UInt8) ∉ w) (ht : (10 : UInt8) ∉ t) : (10 : UInt8) ∉ lineW w t := fun h => by
  unfold lineW at h
  rcases List.mem_append.1 h with h | h
  · exact hw h
  · rcases List.mem_cons.1 h with h | h
    · cases h
    · exact ht h
theorem lines_no {c : CF} (h : rightC c) : ∀ l ∈ linesC c, (10 : UInt8) ∉ l := by
  obtain ⟨h1, h2, h3, h4, h5, h6, h7⟩ := h
  intro l hl
  unfold linesC at hl
  rw [List.mem_append, List.mem_append, List.mem_append] at hl
  rcases hl with ((hl | hl) | hl) | hl
  · rcases List.mem_cons.1 hl with rfl | hl
    · exact line_no (by decide) (job_name h3.1 h3.2).2.1
    · rw [List.mem_singleton.1 hl]
      exact line_no (by decide) (itoa_no (by omega))
  · split at hl
    · rename_i hk
      rw [if_pos hk] at h7
      rw [List.mem_singleton.1 hl]
      exact line_no (by decide) (itoa_no (by omega))
    · cases hl
  · split at hl
    · cases hl
    · rw [List.mem_singleton.1 hl]
      exact line_no (by decide) (text_no h1)
  · rcases List.mem_cons.1 hl with rfl | hl
    · exact line_no (by decide) (itoa_no (by omega))
    · rw [List.mem_singleton.1 hl]
      exact line_no (by decide) (itoa_no (by omega))
/-- The words of the lines, the last one first. -/
def wordsC (c : CF) : List (List UInt8) := [wCap, wWorkers] ++ (if c.keep = [] then [] else [wKeep]) ++ (if c.kind = 3 then [wSupport] else []) ++ [wSize, wJob]
theorem goC_lines {c : CF} (h : rightC c) {r : List (List UInt8)} (hr : r ≠ []) : goC (linesC c ++ r) .start [] 0 = goC r c (wordsC c) (linesC c).length := by
  obtain ⟨h1, h2, h3, h4, h5, h6, h7⟩ := h
  obtain ⟨kind, size, sup, wk, cap, keep⟩ := c
  simp only at h1 h2 h3 h4 h5 h6 h7
  unfold linesC wordsC
  simp only
  by_cases hk : kind = 3
  · rw [if_pos hk] at h7
    rw [if_pos hk, if_pos hk]
    by_cases he : keep = []
    · subst he
      rw [if_pos rfl, if_pos rfl]
      simp only [List.append_nil, List.cons_append, List.nil_append, List.length_cons, List.length_nil]
      rw [goC_line (by simp) (by decide) (by decide) (by decide) (set_job h3.1 h3.2)]
      rw [goC_line (by simp) (by decide) (by decide) (by decide) (set_size h4.1 h4.2)]
      rw [goC_line (by simp) (by decide) (by decide) (by decide) (set_support hk h7.1 h7.2)]
      rw [goC_line (by simp) (by decide) (by decide) (by decide) (set_workers h5.1 h5.2)]
      rw [goC_line hr (by decide) (by decide) (by decide) (set_cap h6.1 h6.2)]
      rfl
    · rw [if_neg he, if_neg he]
      simp only [List.append_nil, List.cons_append, List.nil_append, List.length_cons, List.length_nil]
      rw [goC_line (by simp) (by decide) (by decide) (by decide) (set_job h3.1 h3.2)]
      rw [goC_line (by simp) (by decide) (by decide) (by decide) (set_size h4.1 h4.2)]
      rw [goC_line (by simp) (by decide) (by decide) (by decide) (set_support hk h7.1 h7.2)]
      rw [goC_line (by simp) (by decide) (by decide) (by decide) (set_keep h1 he h2)]
      rw [goC_line (by simp) (by decide) (by decide) (by decide) (set_workers h5.1 h5.2)]
      rw [goC_line hr (by decide) (by decide) (by decide) (set_cap h6.1 h6.2)]
  · rw [if_neg hk] at h7
    rw [if_neg hk, if_neg hk]
    subst h7
    by_cases he : keep = []
    · subst he
      rw [if_pos rfl, if_pos rfl]
      simp only [List.append_nil, List.cons_append, List.nil_append, List.length_cons, List.length_nil]
      rw [goC_line (by simp) (by decide) (by decide) (by decide) (set_job h3.1 h3.2)]
      rw [goC_line (by simp) (by decide) (by decide) (by decide) (set_size h4.1 h4.2)]
      rw [goC_line (by simp) (by decide) (by decide) (by decide) (set_workers h5.1 h5.2)]
      rw [goC_line hr (by decide) (by decide) (by decide) (set_cap h6.1 h6.2)]
      rfl
    · rw [if_neg he, if_neg he]
      simp only [List.append_nil, List.cons_append, List.nil_append, List.length_cons, List.length_nil]
      rw [goC_line (by simp) (by decide) (by decide) (by decide) (set_job h3.1 h3.2)]
      rw [goC_line (by simp) (by decide) (by decide) (by decide) (set_size h4.1 h4.2)]
      rw [goC_line (by simp) (by decide) (by decide) (by decide) (set_keep h1 he h2)]
      rw [goC_line (by simp) (by decide) (by decide) (by decide) (set_workers h5.1 h5.2)]
      rw [goC_line hr (by decide) (by decide) (by decide) (set_cap h6.1 h6.2)]
      rfl
theorem words_has (c : CF) : wSize ∈ wordsC c ∧ wJob ∈ wordsC c ∧ wCap ∈ wordsC c ∧ wWorkers ∈ wordsC c ∧ (c.kind = 3 → wSupport ∈ wordsC c) := by
  unfold wordsC
  refine ⟨by simp, by simp, by simp, by simp, fun h => ?_⟩
  rw [if_pos h]
  simp
theorem end_lines (c : CF) (n : Nat) : endC c (wordsC c) n = .ok c := by
  unfold endC
  obtain ⟨h1, _, _, _, h2⟩ := words_has c
  rw [if_neg]
  rintro (h | ⟨h3, h⟩)
  · exact h h1
  · exact h (h2 h3)
theorem tell_nil (ls : List (List UInt8)) (h : ∀ l ∈ ls, (10 : UInt8) ∉ l) : split1 10 (tellL ls) = ls ++ [[]] := by
  have := split_tell ls [] h
  rw [List.append_nil] at this
  exact this
/-- Each is parsed as it was. -/
theorem parse_lines {c : CF} (h : rightC c) : parseC (tellL (linesC c)) = .ok c := by
  unfold parseC
  rw [tell_nil _ (lines_no h), goC_lines h (by simp), goC, if_pos rfl, end_lines]
/-- A line more that can't be. -/
theorem more_line {c : CF} (h : rightC c) (t : List UInt8) (ht : ∃ x r, split1 10 t = x :: r ∧ ((r = [] ∧ x ≠ []) ∨ (r ≠ [] ∧ lineC c (wordsC c) (linesC c).length x = none))) : ∃ w, parseC (tellL (linesC c) ++ t) = .bad (linesC c).length w := by
  obtain ⟨x, r, hs, hh⟩ := ht
  unfold parseC
  rw [split_tell _ _ (lines_no h), hs, goC_lines h (by simp)]
  rcases hh with ⟨rfl, hx⟩ | ⟨hr, hx⟩
  · rw [goC, if_neg hx]
    exact ⟨_, rfl⟩
  · rw [goC_fail hr hx]
    exact ⟨_, rfl⟩
theorem line_seen {c : CF} {seen : List (List UInt8)} {n : Nat} {w t : List UInt8} (hw : (32 : UInt8) ∉ w) (hs : w ∈ seen) : lineC c seen n (lineW w t) = none := by
  unfold lineC lineW
  rw [cut1_app t hw, if_pos (.inr (.inl hs))]
theorem line_bare {c : CF} {seen : List (List UInt8)} {n : Nat} {w : List UInt8} (hw : (32 : UInt8) ∉ w) : lineC c seen n w = none := by
  unfold lineC
  rw [cut1_none hw, if_pos (.inl rfl)]
theorem line_other {c : CF} {seen : List (List UInt8)} {n : Nat} {w t : List UInt8} (hw : (32 : UInt8) ∉ w) (ho : w ∉ [wJob, wKeep, wSupport, wSize, wWorkers, wCap]) : lineC c seen n (lineW w t) = none := by
  unfold lineC lineW
  rw [cut1_app t hw]
  split
  · rfl
  · simp only [List.mem_cons, List.not_mem_nil, or_false, not_or] at ho
    obtain ⟨h1, h2, h3, h4, h5, h6⟩ := ho
    unfold setC
    simp only
    rw [if_neg h1, if_neg h2, if_neg h3, if_neg h4, if_neg h5, if_neg h6]
/-- The last line right behind the first one. -/
def turnC (c : CF) : List (List UInt8) :=
  [lineW wJob (jobL c.kind), lineW wCap (Lib.itoa c.cap)] ++ ([lineW wSize (Lib.itoa c.size)] ++ (if c.kind = 3 then [lineW wSupport (Lib.itoa c.sup)] else []) ++ (if c.keep = [] then [] else [lineW wKeep (textG c.keep)]) ++ [lineW wWorkers (Lib.itoa c.wk)])
theorem parse_turn {c : CF} (h : rightC c) : parseC (tellL (turnC c)) = .ok c := by
  have hno : ∀ l ∈ turnC c, (10 : UInt8) ∉ l := fun l hl => lines_no h l (by
    unfold turnC at hl
    unfold linesC
    simp only [List.mem_append, List.mem_cons, List.not_mem_nil, or_false] at hl ⊢
    rcases hl with (hl | hl) | ((hl | hl) | hl) | hl
    · exact .inl (.inl (.inl (.inl hl)))
    · exact .inr (.inr hl)
    · exact .inl (.inl (.inl (.inr hl)))
    · exact .inl (.inl (.inr hl))
    · exact .inl (.inr hl)
    · exact .inr (.inl hl))
  unfold parseC
  rw [tell_nil _ hno]
  clear hno
  obtain ⟨h1, h2, h3, h4, h5, h6, h7⟩ := h
  obtain ⟨kind, size, sup, wk, cap, keep⟩ := c
  simp only at h1 h2 h3 h4 h5 h6 h7
  unfold turnC
  simp only
  by_cases hk : kind = 3
  · rw [if_pos hk] at h7
    rw [if_pos hk]
    subst hk
    by_cases he : keep = []
    · subst he
      rw [if_pos rfl]
      simp only [List.append_nil, List.cons_append, List.nil_append]
      rw [goC_line (by simp) (by decide) (by decide) (by decide) (set_job h3.1 h3.2)]
      rw [goC_line (by simp) (by decide) (by decide) (by decide) (set_cap h6.1 h6.2)]
      rw [goC_line (by simp) (by decide) (by decide) (by decide) (set_size h4.1 h4.2)]
      rw [goC_line (by simp) (by decide) (by decide) (by decide) (set_support rfl h7.1 h7.2)]
      rw [goC_line (by simp) (by decide) (by decide) (by decide) (set_workers h5.1 h5.2)]
      rw [goC, if_pos rfl]
      unfold endC
      rw [if_neg (by simp only; decide)]
      rfl
    · rw [if_neg he]
      simp only [List.append_nil, List.cons_append, List.nil_append]
      rw [goC_line (by simp) (by decide) (by decide) (by decide) (set_job h3.1 h3.2)]
      rw [goC_line (by simp) (by decide) (by decide) (by decide) (set_cap h6.1 h6.2)]
      rw [goC_line (by simp) (by decide) (by decide) (by decide) (set_size h4.1 h4.2)]
      rw [goC_line (by simp) (by decide) (by decide) (by decide) (set_support rfl h7.1 h7.2)]
      rw [goC_line (by simp) (by decide) (by decide) (by decide) (set_keep h1 he h2)]
      rw [goC_line (by simp) (by decide) (by decide) (by decide) (set_workers h5.1 h5.2)]
      rw [goC, if_pos rfl]
      unfold endC
      rw [if_neg (by simp only; decide)]
  · rw [if_neg hk] at h7
    rw [if_neg hk]
    subst h7
    by_cases he : keep = []
    · subst he
      rw [if_pos rfl]
      simp only [List.append_nil, List.cons_append, List.nil_append]
      rw [goC_line (by simp) (by decide) (by decide) (by decide) (set_job h3.1 h3.2)]
      rw [goC_line (by simp) (by decide) (by decide) (by decide) (set_cap h6.1 h6.2)]
      rw [goC_line (by simp) (by decide) (by decide) (by decide) (set_size h4.1 h4.2)]
      rw [goC_line (by simp) (by decide) (by decide) (by decide) (set_workers h5.1 h5.2)]
      rw [goC, if_pos rfl]
      unfold endC
      rw [if_neg (fun e => e.elim (fun e => e (by decide)) fun e => hk e.1)]
      rfl
    · rw [if_neg he]
      simp only [List.append_nil, List.cons_append, List.nil_append]
      rw [goC_line (by simp) (by decide) (by decide) (by decide) (set_job h3.1 h3.2)]
      rw [goC_line (by simp) (by decide) (by decide) (by decide) (set_cap h6.1 h6.2)]
      rw [goC_line (by simp) (by decide) (by decide) (by decide) (set_size h4.1 h4.2)]
      rw [goC_line (by simp) (by decide) (by decide) (by decide) (set_keep h1 he h2)]
      rw [goC_line (by simp) (by decide) (by decide) (by decide) (set_workers h5.1 h5.2)]
      rw [goC, if_pos rfl]
      unfold endC
      rw [if_neg (fun e => e.elim (fun e => e (by decide)) fun e => hk e.1)]
      rfl
/-- The first line alone. -/
theorem parse_first {c : CF} (h : rightC c) : ∃ w, parseC (tellL [lineW wJob (jobL c.kind)]) = .bad 1 w := by
  have h3 := h.2.2.1
  unfold parseC
  rw [tell_nil _ (fun l hl => by rw [List.mem_singleton.1 hl]; exact line_no (by decide) (job_name h3.1 h3.2).2.1), List.cons_append, List.nil_append, goC_line (by simp) (by decide) (by decide) (by decide) (set_job h3.1 h3.2), goC, if_pos rfl]
  unfold endC
  rw [if_pos (.inl (by decide))]
  exact ⟨_, rfl⟩
/-- How many lines a text has. -/
theorem split_len (c : UInt8) : ∀ s : List UInt8, (split1 c s).length = s.count c + 1
  | [] => rfl
  | b :: l => by
    have ih := split_len c l
    unfold split1
    by_cases hb : b = c
    · rw [if_pos hb, List.length_cons, ih, hb, List.count_cons_self]
    · rw [if_neg hb, List.count_cons_of_ne hb]
      cases hs : split1 c l with
      | nil => exact absurd hs (split1_ne c l)
      | cons x r =>
        rw [hs] at ih
        exact ih
end Go.Proofs.YtapledphhfiimaaGreatDoor.Cf
/-
  Programs of tests: walks of number, test, Parse.
-/
namespace Go.Proofs.YtapledphhfiimaaGreatDoor
open Go.RowKit Go.Proofs.YtapledphhfiimaaGreatDoor.Pg
attribute [local go_sem ↓] Go.wp_at_zero Go.wp_at_succ
set_option maxRecDepth 100000
set_option linter.unusedVariables false

theorem split_len_le (c : UInt8) : ∀ (s x : List UInt8), x ∈ Tx.split1 c s → x.length ≤ s.length
  | [], x, h => by
    rw [Tx.split1] at h
    rw [List.mem_singleton.1 h]
    exact Nat.le_refl _
  | b :: l, x, h => by
    have ih := split_len_le c l
    unfold Tx.split1 at h
    split at h
    · rcases List.mem_cons.1 h with rfl | h
      · exact Nat.zero_le _
      · have := ih x h
        rw [List.length_cons]
        omega
    · split at h
      · rw [List.mem_singleton.1 h]
        simp
      · rename_i y r hy
        rcases List.mem_cons.1 h with rfl | h
        · have := ih y (by rw [hy]; exact List.mem_cons_self ..)
          simp only [List.length_cons]
          omega
        · have := ih x (by rw [hy]; exact List.mem_cons_of_mem _ h)
          rw [List.length_cons]
          omega
theorem cut_len_le (c : UInt8) (s : List UInt8) : (Tx.cut1 c s).1.length ≤ s.length ∧ (Tx.cut1 c s).2.1.length ≤ s.length := by
  rcases Tx.cut1_cases c s with ⟨_, h⟩ | ⟨a, b, rfl, _, h⟩
  · rw [h]; simp
  · rw [h]; simp; omega
theorem itoaB_bz (v : Int) : itoaB v = bz (Lib.itoa v) := rfl
theorem bz_beq (l m : List UInt8) : ((bz l).toList == (bz m).toList) = decide (l = m) := by
  rw [bz_toList, bz_toList]
  by_cases h : l = m
  · simp [h]
  · rw [decide_eq_false h]
    simpa using h
/-- What a number's walk answers. -/
def NumRes (o : Option Int) (w : World) (e : Ending) (w' : World) : Prop :=
  ∃ (z : Int) (b : Bool), e = .returned (.tuple #[.int .i64 z, .bool b]) ∧ Below w.heap.size w w' ∧ ((o = some z ∧ b = true) ∨ (o = none ∧ b = false))
set_option maxHeartbeats 4000000 in
theorem PgNumber_any (l : List UInt8) (w : World) (hs : l.length ≤ 1000000) (hL : LibW w) (hT : TabW w) :
    Calls Tryz.prog 89 #[.string (bz l)] w (NumRes (numP 6 l) w) := by
  have HA := Lib.hid (Atoi_any l w hs hL)
  have HT := Lib.hid hT
  obtain ⟨m, hm⟩ : ∃ m, m = l.length := ⟨_, rfl⟩
  have hsz : (bz l).size = m := by rw [bz_size, hm]
  have HNum := Lib.hid (show ∀ v, Lib.atoiAll l = .ok v → numP 6 l = if m ≤ 6 ∧ Lib.itoa v = l ∧ 0 ≤ v then some v else none from fun v h => by
    unfold numP
    rw [h, hm])
  have HNone := Lib.hid (show (∀ v, Lib.atoiAll l ≠ .ok v) → numP 6 l = none from fun h => by
    unfold numP
    split
    · rename_i v hv
      exact absurd hv (h v)
    · rfl)
  have HBd := Lib.hid (fun v (h : Lib.atoiAll l = .ok v) => Lib.atoiAll_bounds h)
  have HBq := Lib.hid (fun v => bz_beq (Lib.itoa v) l)
  obtain ⟨S, hS⟩ : ∃ S, S = bz l := ⟨_, rfl⟩
  rw [← hS] at HA hsz HBq ⊢
  clear hL hT hm hS hs
  go_enter Tryz.func89, Tryz.ntmps89
  go_upto_region 2 with (go_at_call 126; refine HA.out.mono ?_; clear HA; rintro e w1 ⟨hb1, hp⟩; obtain ⟨z, x, hev⟩ : ∃ z x, e = .returned (.tuple #[.int .i64 z, x]) := (by rcases hp with ⟨_, _, h⟩ | ⟨_, _, _, _, h⟩ <;> exact ⟨_, _, h⟩); subst hev; have HB1 := Lib.hid hb1; have HP := Lib.hid hp; clear hb1 hp)
  rcases HP.out with ⟨v, hv, he⟩ | ⟨hno, z', T, y, he⟩
  · obtain ⟨rfl, rfl⟩ : z = v ∧ x = .nilIface := by simpa using he
    have hn := HNum.out z hv
    have hbd := HBd.out z hv
    have HI := Lib.hid (Itoa_any z w1 (by unfold i64P; omega) (HT.out.keep HB1.out))
    have hbq := HBq.out z
    rw [← itoaB_bz] at hbq
    clear he HP HNum HNone HBd HBq hv hbd
    by_cases h6 : m ≤ 6
    · have h6' : (m : Int) ≤ 6 := by omega
      by_cases hi : Lib.itoa z = l
      · rw [decide_eq_true hi] at hbq
        obtain ⟨t, ht⟩ : ∃ t, t = itoaB z := ⟨_, rfl⟩
        rw [← ht] at HI hbq
        by_cases h0 : 0 ≤ z
        · have HR := Lib.hid (show numP 6 l = some z from by rw [hn, if_pos ⟨h6, hi, h0⟩])
          clear hn hi ht
          go_wp2_with (go_at_call 69; refine HI.out.mono ?_; rintro e w2 ⟨rfl, hb2⟩; have HB2 := Lib.hid (HB1.out.andThen hb2); clear hb2)
          go_ret2
          exact ⟨z, true, rfl, HB2.out, .inl ⟨HR.out, rfl⟩⟩
        · have HR := Lib.hid (show numP 6 l = none from by rw [hn, if_neg (fun h => h0 h.2.2)])
          have h0' : decide (0 ≤ z) = false := decide_eq_false h0
          clear hn hi ht
          go_wp2_with (go_at_call 69; refine HI.out.mono ?_; rintro e w2 ⟨rfl, hb2⟩; have HB2 := Lib.hid (HB1.out.andThen hb2); clear hb2)
          go_ret2
          exact ⟨z, false, rfl, HB2.out, .inr ⟨HR.out, rfl⟩⟩
      · rw [decide_eq_false hi] at hbq
        obtain ⟨t, ht⟩ : ∃ t, t = itoaB z := ⟨_, rfl⟩
        rw [← ht] at HI hbq
        have HR := Lib.hid (show numP 6 l = none from by rw [hn, if_neg (fun h => hi h.2.1)])
        clear hn hi ht
        go_wp2_with (go_at_call 69; refine HI.out.mono ?_; rintro e w2 ⟨rfl, hb2⟩; have HB2 := Lib.hid (HB1.out.andThen hb2); clear hb2)
        go_ret2
        exact ⟨z, false, rfl, HB2.out, .inr ⟨HR.out, rfl⟩⟩
    · have h6' : ¬ (m : Int) ≤ 6 := by omega
      have HR := Lib.hid (show numP 6 l = none from by rw [hn, if_neg (fun h => h6 h.1)])
      clear hn hbq HI
      go_wp2_with fail
      go_ret2
      exact ⟨z, false, rfl, HB1.out, .inr ⟨HR.out, rfl⟩⟩
  · obtain ⟨rfl, rfl⟩ : z = z' ∧ x = .iface T y := by simpa using he
    have HR := Lib.hid (HNone.out hno)
    clear he HP HNum HNone HBd HBq hno
    go_wp2_with fail
    go_ret2
    exact ⟨z, false, rfl, HB1.out, .inr ⟨HR.out, rfl⟩⟩
/-- What a test's text answers. -/
def TestRes (x : List UInt8) (w : World) (e : Ending) (w' : World) : Prop :=
  ∃ (k n : Int) (b : Bool), e = .returned (.tuple #[.agg #[.int .i64 k, .int .i64 n], .bool b]) ∧ Below w.heap.size w w' ∧ ((testP x = some (k, n) ∧ b = true) ∨ (testP x = none ∧ b = false))
set_option maxHeartbeats 8000000 in
theorem test_any (x : List UInt8) (w : World) (hs : x.length ≤ 1000000) (hL : LibW w) (hT : TabW w) :
    Calls Tryz.prog 66 #[.string (bz x)] w (TestRes x w) := by
  obtain ⟨nm, nn, has, hc⟩ : ∃ nm n has, Tx.cut1 32 x = (nm, n, has) := ⟨_, _, _, rfl⟩
  have hlen := cut_len_le 32 x
  have htp := testP_of hc
  have hb0 := bel_al (Below.refl w.heap.size w) (.cells #[.int .i64 0, .int .i64 0] 40)
  have HCut := Lib.hid (Cut_any x 32 (w.alloc (.cells #[.int .i64 0, .int .i64 0] 40)) hs (hL.keep hb0))
  rw [hc] at hlen HCut
  simp only at hlen HCut
  have HB0 := Lib.hid hb0
  have HKR := Lib.hid (Blk.new w 40 #[.int .i64 0, .int .i64 0])
  have HL0 := Lib.hid (hL.keep hb0)
  have HT0 := Lib.hid (hT.keep hb0)
  have HLen := Lib.hid hlen
  have HXs := Lib.hid hs
  have HTp := Lib.hid htp
  have hkb := kind_bounds nm
  clear hb0 hlen htp hc hL hT hs
  go_enter Tryz.func66, Tryz.ntmps66
  go_upto_region 2 with (go_at_call 73; refine HCut.out.mono ?_; clear HCut; rintro e w1 ⟨rfl, hb1⟩; have HB1 := Lib.hid hb1; clear hb1)
  have HKd := Lib.hid (Kind_any nm w1)
  obtain ⟨k, hk⟩ : ∃ k, k = kindZ nm := ⟨_, rfl⟩
  rw [← hk] at HKd HTp hkb
  clear hk
  go_upto_region 3 with (go_at_call 88; refine HKd.out.mono ?_; clear HKd; rintro e w2 ⟨rfl, hb2⟩; have HB2 := Lib.hid (HB1.out.andThen hb2); clear hb2)
  have HKo := Lib.hid (Blk.new w2 40 #[.int .i64 k, .int .i64 0])
  have HB2' := Lib.hid (bel_al HB2.out (.cells #[.int .i64 k, .int .i64 0] 40))
  have HTk := Lib.hid (fun W => takes_any k W)
  have hne : w.heap.size ≠ w2.heap.size := by have h := HB2.out.size; simp at h; omega
  obtain ⟨w3, hw3⟩ : ∃ w3, w3 = w2.alloc (.cells #[.int .i64 k, .int .i64 0] 40) := ⟨_, rfl⟩
  rw [← hw3] at HKo HB2' ⊢
  clear hw3
  have hkr := (HKR.out.keep HB2'.out)
  have HKr := Lib.hid hkr
  have r0 := hkr.cell 0
  have r1 := hkr.cell 1
  have f0 := hkr.frozen 0
  have f1 := hkr.frozen 1
  have o0 := HKo.out.cell 0
  have o1 := HKo.out.cell 1
  have g1 := HKo.out.frozen 1
  simp at r0 r1 o0 o1
  have HNe := Lib.hid hne
  have HW3 := Lib.hid (And.intro (HL0.out.keep HB2'.out) (HT0.out.keep HB2'.out))
  clear hkr hne
  have HEnd := Lib.hid (show ∀ (V : World) (a b : Int), Blk V w.heap.size 40 #[.int .i64 0, .int .i64 0] → (((V.setCell ⟨w.heap.size, 0, none⟩ (.int .i64 a)).setCell ⟨w.heap.size, 1, none⟩ (.int .i64 b)).cell? ⟨w.heap.size, 0, none⟩ = some (.int .i64 a)) ∧ (((V.setCell ⟨w.heap.size, 0, none⟩ (.int .i64 a)).setCell ⟨w.heap.size, 1, none⟩ (.int .i64 b)).cell? ⟨w.heap.size, 1, none⟩ = some (.int .i64 b)) from fun V a b h => by
    have hx := (h.set_ 0 (.int .i64 a)).set_ 1 (.int .i64 b)
    have x0 := hx.cell 0
    have x1 := hx.cell 1
    simp at x0 x1
    exact ⟨x0, x1⟩)
  by_cases hk0 : k = 0
  · subst hk0
    have HR := Lib.hid (show testP x = none from by rw [HTp.out, if_pos (.inl rfl)])
    obtain ⟨x00, x01⟩ := HEnd.out _ 0 0 HKr.out
    go_wp2_with fail
    refine bodyPost_ret (v := .tuple #[.agg #[.int .i64 0, .int .i64 0], .bool false]) (by simp [results, Tryz.results66, go_sem, x00, x01]) rfl ?_
    exact ⟨0, 0, false, rfl, ((HB0.out.andThen HB2'.out).setCell (p := ⟨w.heap.size, 0, none⟩) (Nat.le_refl _) _).setCell (p := ⟨w.heap.size, 1, none⟩) (Nat.le_refl _) _, .inr ⟨HR.out, rfl⟩⟩
  · have hk0' : (k == 0) = false := by simpa using hk0
    by_cases hht : has = takesZ k
    · have HTe := Lib.hid hht
      rw [← hht] at HTk
      cases has with
      | true =>
        have HR := Lib.hid (show testP x = (numP 6 nn).map fun v => (k, v) from by rw [HTp.out, if_neg (fun h => h.elim hk0 fun h => h HTe.out), if_pos rfl])
        have HNm := Lib.hid (PgNumber_any nn w3 (by have := HLen.out.2; have := HXs.out; omega) HW3.out.1 HW3.out.2)
        clear hht hk0 HTp HTe
        go_upto_region 8 with (first
          | (go_at_call 68; refine (HTk.out _).mono ?_; rintro e w4 ⟨rfl, rfl⟩)
          | (go_at_call 89; refine HNm.out.mono ?_; clear HNm; rintro e w5 ⟨z, b, rfl, hb5, hz⟩; have HB5 := Lib.hid hb5; have HZ := Lib.hid hz; have HKo5 := Lib.hid (HKo.out.keep hb5); have HKr5 := Lib.hid (HKr.out.keep hb5); have p0 := HKo5.out.cell 0; have p1 := HKo5.out.cell 1; have p2 := HKo5.out.frozen 1; simp at p0 p1; clear hb5 hz))
        have hko := HKo5.out.set_ 1 (.int .i64 z)
        have q0 := hko.cell 0
        have q1 := hko.cell 1
        simp at q0 q1
        have hkr := HKr5.out.far (p := ⟨w2.heap.size, 1, none⟩) HNe.out (.int .i64 z)
        have HKr6 := Lib.hid hkr
        have r0 := hkr.cell 0
        have r1 := hkr.cell 1
        have f0 := hkr.frozen 0
        have f1 := hkr.frozen 1
        simp at r0 r1
        obtain ⟨x00, x01⟩ := HEnd.out _ k z hkr
        have HB6 := Lib.hid (show Below w.heap.size w (w5.setCell ⟨w2.heap.size, 1, none⟩ (.int .i64 z)) from ((HB0.out.andThen HB2'.out).andThen HB5.out).setCell (p := ⟨w2.heap.size, 1, none⟩) (by have h1 := HB0.out.size; have h2 := HB2.out.size; exact Nat.le_trans h1 h2) _)
        clear hko hkr
        go_wp2_with fail
        refine bodyPost_ret (v := .tuple #[.agg #[.int .i64 k, .int .i64 z], .bool b]) (by simp [results, Tryz.results66, go_sem, x00, x01]) rfl ?_
        refine ⟨k, z, b, rfl, (HB6.out.setCell (p := ⟨w.heap.size, 0, none⟩) (Nat.le_refl _) _).setCell (p := ⟨w.heap.size, 1, none⟩) (Nat.le_refl _) _, ?_⟩
        rcases HZ.out with ⟨h1, h2⟩ | ⟨h1, h2⟩
        · exact .inl ⟨by rw [HR.out, h1]; rfl, h2⟩
        · exact .inr ⟨by rw [HR.out, h1]; rfl, h2⟩
      | false =>
        have HR := Lib.hid (show testP x = some (k, 0) from by rw [HTp.out, if_neg (fun h => h.elim hk0 fun h => h HTe.out), if_neg (by decide)])
        obtain ⟨x00, x01⟩ := HEnd.out _ k 0 HKr.out
        clear hht hk0 HTp HTe
        go_wp2_with (go_at_call 68; refine (HTk.out _).mono ?_; rintro e w4 ⟨rfl, rfl⟩)
        refine bodyPost_ret (v := .tuple #[.agg #[.int .i64 k, .int .i64 0], .bool true]) (by simp [results, Tryz.results66, go_sem, x00, x01]) rfl ?_
        exact ⟨k, 0, true, rfl, ((HB0.out.andThen HB2'.out).setCell (p := ⟨w.heap.size, 0, none⟩) (Nat.le_refl _) _).setCell (p := ⟨w.heap.size, 1, none⟩) (Nat.le_refl _) _, .inl ⟨HR.out, rfl⟩⟩
    · have HR := Lib.hid (show testP x = none from by rw [HTp.out, if_pos (.inr hht)])
      have hx : (has == takesZ k) = false := by simpa using hht
      obtain ⟨x00, x01⟩ := HEnd.out _ 0 0 HKr.out
      obtain ⟨tk, htk⟩ : ∃ tk, tk = takesZ k := ⟨_, rfl⟩
      rw [← htk] at HTk hx
      clear hht hk0 HTp htk
      go_wp2_with (go_at_call 68; refine (HTk.out _).mono ?_; rintro e w4 ⟨rfl, rfl⟩)
      refine bodyPost_ret (v := .tuple #[.agg #[.int .i64 0, .int .i64 0], .bool false]) (by simp [results, Tryz.results66, go_sem, x00, x01]) rfl ?_
      exact ⟨0, 0, false, rfl, ((HB0.out.andThen HB2'.out).setCell (p := ⟨w.heap.size, 0, none⟩) (Nat.le_refl _) _).setCell (p := ⟨w.heap.size, 1, none⟩) (Nat.le_refl _) _, .inr ⟨HR.out, rfl⟩⟩
/-- What Parse answers. -/
def ParseRes (l : List UInt8) (w : World) (e : Ending) (w' : World) : Prop :=
  Below w.heap.size w w' ∧ ((∃ (p : List (Int × Int)) (A : Option Addr) (c : Nat), parseG l = some p ∧ e = .returned (.tuple #[.slice A p.length c, .nilIface]) ∧ w'.ownsRow w.heap.size 40 2 (.slice A p.length c) p.length (Rk.cells p)) ∨
    (parseG l = none ∧ ∃ (c a : Int) (s : ByteArray) (g : Nat), e = .returned (.tuple #[.slice none 0 0, .iface 111 (.pointer (some ⟨g, 0, none⟩))]) ∧ (Err.flt c a s).At w' (.iface 111 (.pointer (some ⟨g, 0, none⟩))) ∧ (c = 1 ∨ c = 2 ∨ c = 3 ∨ c = 6) ∧ (testsP (Tx.split1 59 l) = none → c = 2)))
set_option maxHeartbeats 8000000 in
theorem PgParse_any (l : List UInt8) (w : World) (hs : l.length ≤ 900000) (hL : LibW w) (hT : TabW w) :
    Calls Tryz.prog 29 #[.string (bz l)] w (ParseRes l w) := by
  by_cases h0 : l = []
  · subst h0
    have hpg : parseG [] = some [] := rfl
    have HP := Lib.hid hpg
    clear hpg hL hT
    rw [show bz [] = (⟨#[]⟩ : ByteArray) from rfl]
    go_enter Tryz.func29, Tryz.ntmps29
    go_wp2_with fail
    go_ret2
    exact ⟨Below.refl _ _, .inl ⟨[], none, 0, HP.out, rfl, World.ownsRow_nil _ _ _ _⟩⟩
  · have he : (bz l).toList.isEmpty = false := by
      rw [bz_empty]
      cases l with
      | nil => exact absurd rfl h0
      | cons a l => rfl
    have HSp := Lib.hid (Split_any l 59 w (by omega) hL)
    have HGd := Lib.hid (show (testsP (Tx.split1 59 l) = none → parseG l = none) ∧ ∀ p, testsP (Tx.split1 59 l) = some p → parseG l = if rightG p then some p else none from ⟨fun h => by unfold parseG; rw [if_neg h0, h], fun p h => by unfold parseG; rw [if_neg h0, h]⟩)
    have HLe := Lib.hid (fun x (hx : x ∈ Tx.split1 59 l) => (by have := split_len_le 59 l x hx; omega : x.length ≤ 1000000))
    obtain ⟨ps, hps⟩ : ∃ ps, ps = Tx.split1 59 l := ⟨_, rfl⟩
    rw [← hps] at HSp HGd HLe
    have HPs := Lib.hid hps
    obtain ⟨N, hN⟩ : ∃ N, N = ps.length := ⟨_, rfl⟩
    have hN9 : N ≤ 900001 := by
      rw [hN, hps]
      have h := Cf.split_len 59 l
      have h2 := List.count_le_length (a := (59 : UInt8)) (l := l)
      omega
    have HN := Lib.hid hN.symm
    rw [← hN] at HSp
    have HL0 := Lib.hid hL
    have HT0 := Lib.hid hT
    obtain ⟨S, hS⟩ : ∃ S, S = bz l := ⟨_, rfl⟩
    rw [← hS] at he HSp ⊢
    clear hS hN hps hL hT h0 hs
    go_enter Tryz.func29, Tryz.ntmps29
    go_wp2_with (go_at_call 65; refine HSp.out.mono ?_; clear HSp; rintro e w1 ⟨rfl, hs1, hb1⟩; have HS1 := Lib.hid hs1; have HB1 := Lib.hid hb1; clear hs1 hb1)
    go_loopw [4, 15] (fun pv iv wr => ∃ (k : Nat) (q : List (Int × Int)), k ≤ N ∧ iv = .int .i64 (k : Int) ∧ Hid (q.length = k) ∧ Hid (testsP ps = (testsP (ps.drop k)).map (q ++ ·)) ∧ Hid (wr.ownsRow w1.heap.size 40 2 pv k (Rk.cells q)) ∧ Hid (Below w1.heap.size w1 wr)) (fun _ iv _ => N - (intOf iv).toNat)
    case atStart => exact ⟨0, [], Nat.zero_le _, rfl, Lib.hid rfl, Lib.hid (by rw [List.drop_zero]; cases testsP ps <;> rfl), Lib.hid (World.ownsRow_nil _ _ _ _), Lib.hid (Below.refl _ _)⟩
    case round =>
      obtain ⟨k, q, hk, rfl, HQl, HTs, HO, HB⟩ := hrel
      by_cases hlt : k < N
      · have hlt' : (k : Int) < (N : Int) := by omega
        have hk0 : (0 : Int) ≤ (k : Int) := by omega
        obtain ⟨x, hx⟩ : ∃ x, ps[k]? = some x := ⟨_, List.getElem?_eq_getElem (by rw [HN.out]; exact hlt)⟩
        have c1 := (HS1.out.keep HB.out).again hlt (show (ps.map fun x => Value.string (bz x))[k]? = some (.string (bz x)) by rw [List.getElem?_map, hx]; rfl)
        rw [Nat.zero_add] at c1
        have hdr : ps.drop k = x :: ps.drop (k + 1) := by
          obtain ⟨h1, h2⟩ := List.getElem?_eq_some_iff.1 hx
          rw [List.drop_eq_getElem_cons h1, h2]
        have HTst := Lib.hid (test_any x wr (HLe.out x (List.mem_of_getElem? hx)) (HL0.out.keep (HB1.out.andThen HB.out)) (HT0.out.keep (HB1.out.andThen HB.out)))
        have HSt := Lib.hid (show (testP x = none → testsP (ps.drop k) = none) ∧ ∀ o, testP x = some o → testsP (ps.drop k) = (testsP (ps.drop (k + 1))).map (o :: ·) from ⟨fun h => by rw [hdr, testsP, h], fun o h => by rw [hdr, testsP, h]⟩)
        obtain ⟨X, hX⟩ : ∃ X, X = bz x := ⟨_, rfl⟩
        rw [← hX] at c1 HTst
        clear hx hdr hX
        go_upto_region 8 with (go_at_call 66; refine HTst.out.mono ?_; clear HTst; rintro e w2 ⟨tk, tn, b, rfl, hb2, ht2⟩; have HB2 := Lib.hid (HB.out.andThen hb2); have HT2 := Lib.hid ht2; have HO2 := Lib.hid (own_block HO.out fun g hg => hb2.block g (HO.out.lt g hg).2); clear hb2 ht2)
        rcases HT2.out with ⟨ht, rfl⟩ | ⟨ht, rfl⟩
        · have HNx := Lib.hid (show testsP ps = (testsP (ps.drop (k + 1))).map ((q ++ [(tk, tn)]) ++ ·) from by
            rw [HTs.out, HSt.out.2 _ ht]
            cases testsP (ps.drop (k + 1)) with
            | none => rfl
            | some r => simp)
          have HOa := Lib.hid (HO2.out.alloc (.cells #[.int .i64 tk, .int .i64 tn] 40))
          have HBa := Lib.hid (bel_alloc HB2.out (Nat.le_refl _) (.cells #[.int .i64 tk, .int .i64 tn] 40))
          clear ht HT2
          go_wp2_with (at_builtin; refine wpList_push elemOp (w0 := w1) _ _ rfl rfl HOa.out HBa.out (Nat.le_refl _) rfl (congrArg (fun z => Value.slice (some ⟨z, 0, none⟩) 1 1) (World.size_alloc w2 (.cells #[.int .i64 tk, .int .i64 tn] 40)).symm) rfl (by simp [Value.oneCell']) (by unfold lim; omega) (by unfold lim; omega) ?_; intro v4 w4 hown4 hb4; have HO4 := Lib.hid hown4; have HB4 := Lib.hid hb4; clear hown4 hb4)
          go_roundw
          case rel => exact ⟨k + 1, q ++ [(tk, tn)], by omega, by go_num, Lib.hid (by rw [List.length_append, HQl.out]; rfl), HNx, Lib.hid (by rw [Rk.cells_snoc]; exact HO4.out), HB4⟩
          case measure => simp [intOf]; omega
        · have HNo := Lib.hid (show parseG l = none from by
            exact HGd.out.1 (by rw [HTs.out, HSt.out.1 ht]; rfl))
          clear ht HT2
          go_wp2_with (go_at_call 33; refine (New_err _ _ _ _).mono ?_; rintro e w3 ⟨v3, rfl, ⟨g3, rfl, hv3⟩, hb3⟩; have HB3 := Lib.hid hb3; have HV3 := Lib.hid hv3; clear hb3 hv3)
          go_ret2
          exact ⟨HB1.out.andThen ((bel_alloc HB2.out (Nat.le_refl _) _).andThen HB3.out), .inr ⟨HNo.out, 2, _, _, g3, rfl, ⟨g3, rfl, HV3.out⟩, .inr (.inl rfl), fun _ => rfl⟩⟩
      · obtain rfl : k = N := by omega
        have hlt' : ¬ (k : Int) < (k : Int) := by omega
        have HTq := Lib.hid (show testsP ps = some q from by
          rw [HTs.out, List.drop_of_length_le (by rw [HN.out]; exact Nat.le_refl _)]
          simp [testsP])
        obtain ⟨D, dc, rfl, hsl⟩ := Sl.own HO.out
        have HRt := Lib.hid (ProgRight_any q D k dc wr (by omega) hsl)
        clear hsl
        go_upto_region 13 with (go_at_call 9; refine HRt.out.mono ?_; clear HRt; intro e w2 hp; obtain ⟨ev, hev⟩ : ∃ ev, e = .returned ev := (by rcases hp with ⟨_, h, _⟩ | ⟨_, _, _, _, _, h, _⟩ <;> exact ⟨_, h⟩); subst hev; have HP := Lib.hid hp; clear hp)
        rcases HP.out with ⟨hok, he, hb⟩ | ⟨hno, cc, a, s, g, he, hv, hb, hc⟩
        · injection he with he
          subst he
          have HR := Lib.hid (show parseG l = some q from by rw [HGd.out.2 q HTq.out, if_pos hok])
          have HB2 := Lib.hid hb
          clear hok hb HP
          go_wp2_with fail
          go_ret2
          refine ⟨HB1.out.andThen (HB.out.andThen HB2.out), .inl ⟨q, D, dc, HR.out, ?_, ?_⟩⟩
          · rw [HQl.out]; rfl
          · rw [HQl.out]; exact own_mono (own_block HO.out fun g hg => HB2.out.block g (HO.out.lt g hg).2) HB1.out.size
        · injection he with he
          subst he
          have HR := Lib.hid (show parseG l = none from by rw [HGd.out.2 q HTq.out, if_neg hno])
          have HB2 := Lib.hid hb
          have HV := Lib.hid hv
          have HC := Lib.hid hc
          clear hno hb HP hv hc
          go_wp2_with fail
          go_ret2
          refine ⟨HB1.out.andThen (HB.out.andThen HB2.out), .inr ⟨HR.out, cc, a, s, g, rfl, HV.out, ?_, fun h => by rw [← HPs.out, HTq.out] at h; cases h⟩⟩
          rcases HC.out with h | h | h
          · exact .inl h
          · exact .inr (.inr (.inl h))
          · exact .inr (.inr (.inr h))
end Go.Proofs.YtapledphhfiimaaGreatDoor
