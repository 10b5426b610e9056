/-
  Part 5 of the proof of LoadMore: ConfP, LdP, PgA, ConfQ.
-/
import Derived.Test.YtbbmgcdocolakaaGreatDoorLoadMoreM4
import Derived.BigQuiet
import Derived.Test.YtbbmgcdocolakaaGreatDoorLoadMoreM3
set_option linter.unusedVariables false
/-
  Jobs' texts plainly: line by line, there and back.
-/
namespace Go.Proofs.YtbbmgcdocolakaaGreatDoor.Cf
open Go Go.Proofs.YtbbmgcdocolakaaGreatDoor.Tx Go.Proofs.YtbbmgcdocolakaaGreatDoor.Pg
set_option linter.unusedVariables false

abbrev wJob : List UInt8 := [106, 111, 98]
abbrev wKeep : List UInt8 := [107, 101, 101, 112]
abbrev wSupport : List UInt8 := [115, 117, 112, 112, 111, 114, 116]
abbrev wSize : List UInt8 := [115, 105, 122, 101]
abbrev wWorkers : List UInt8 := [119, 111, 114, 107, 101, 114, 115]
abbrev wCap : List UInt8 := [99, 97, 112]
abbrev wMissing : List UInt8 := [109, 105, 115, 115, 105, 110, 103]
def jobsL : List (List UInt8) := [[109, 111, 116, 105, 102, 115], [99, 108, 105, 113, 117, 101, 115], [102, 115, 109]]
/-- What is asked. -/
structure CF where
  kind : Int
  size : Int
  sup : Int
  wk : Int
  cap : Int
  keep : List (Int × Int)
def CF.start : CF := ⟨0, 0, 0, 1, 1000000, []⟩
def jobZ (l : List UInt8) : Int := idxL l jobsL 0
def jobL (k : Int) : List UInt8 := if 1 ≤ k ∧ k ≤ 3 then jobsL.getD (k.toNat - 1) [] else []
/-- A number from 1 to some. -/
def numC (most : Int) (s : List UInt8) : Option Int := match numP 7 s with
  | none => none
  | some v => if 1 ≤ v ∧ v ≤ most then some v else none
def setC (c : CF) (word text : List UInt8) : Option CF :=
  if word = wJob then (if 0 < jobZ text then some { c with kind := jobZ text } else none)
  else if word = wKeep then match parseG text with
    | none => none
    | some p => if 1 ≤ p.length ∧ p.length ≤ 15 then some { c with keep := p } else none
  else if word = wSupport then (if c.kind = 3 then (numC 1000000 text).map fun v => { c with sup := v } else none)
  else if word = wSize then (numC 8 text).map fun v => { c with size := v }
  else if word = wWorkers then (numC 64 text).map fun v => { c with wk := v }
  else if word = wCap then (numC 1000000 text).map fun v => { c with cap := v }
  else none
inductive Res where
  | ok (c : CF)
  | bad (n : Nat) (w : List UInt8)
/-- A line that can be: the word, and what is asked behind it. -/
def lineC (c : CF) (seen : List (List UInt8)) (n : Nat) (x : List UInt8) : Option CF :=
  if (cut1 32 x).2.2 = false ∨ (cut1 32 x).1 ∈ seen ∨ (n ≠ 0 ↔ (cut1 32 x).1 = wJob) then none else setC c (cut1 32 x).1 (cut1 32 x).2.1
def endC (c : CF) (seen : List (List UInt8)) (n : Nat) : Res := if wSize ∉ seen ∨ (c.kind = 3 ∧ wSupport ∉ seen) then .bad n wMissing else .ok c
def goC : List (List UInt8) → CF → List (List UInt8) → Nat → Res
  | [], _, _, n => .bad n []
  | [x], c, seen, n => if x = [] then endC c seen n else .bad n (cut1 32 x).1
  | x :: y :: r, c, seen, n => match lineC c seen n x with
    | none => .bad n (cut1 32 x).1
    | some c' => goC (y :: r) c' ((cut1 32 x).1 :: seen) (n + 1)
def parseC (s : List UInt8) : Res := goC (split1 10 s) .start [] 0
/-- May it be? -/
def rightC (c : CF) : Prop := rightG c.keep ∧ c.keep.length ≤ 15 ∧ (1 ≤ c.kind ∧ c.kind ≤ 3) ∧ (1 ≤ c.size ∧ c.size ≤ 8) ∧ (1 ≤ c.wk ∧ c.wk ≤ 64) ∧ (1 ≤ c.cap ∧ c.cap ≤ 1000000) ∧ (if c.kind = 3 then 1 ≤ c.sup ∧ c.sup ≤ 1000000 else c.sup = 0)
instance (c : CF) : Decidable (rightC c) := by unfold rightC; exact inferInstance
theorem goC_step {x : List UInt8} {r : List (List UInt8)} {c c' : CF} {seen : List (List UInt8)} {n : Nat} (hr : r ≠ []) (h : lineC c seen n x = some c') : goC (x :: r) c seen n = goC r c' ((cut1 32 x).1 :: seen) (n + 1) := by
  cases r with
  | nil => exact absurd rfl hr
  | cons y r => rw [goC, h]
theorem goC_fail {x : List UInt8} {r : List (List UInt8)} {c : CF} {seen : List (List UInt8)} {n : Nat} (hr : r ≠ []) (h : lineC c seen n x = none) : goC (x :: r) c seen n = .bad n (cut1 32 x).1 := by
  cases r with
  | nil => exact absurd rfl hr
  | cons y r => rw [goC, h]
theorem numC_some {m : Int} {s : List UInt8} {v : Int} (h : numC m s = some v) : 1 ≤ v ∧ v ≤ m ∧ s = Lib.decDigits v.toNat := by
  unfold numC at h
  cases hv : numP 7 s with
  | none => rw [hv] at h; cases h
  | some u =>
    rw [hv] at h
    simp only at h
    split at h
    · rename_i h1
      injection h with h
      subst h
      exact ⟨h1.1, h1.2, (numP_some hv).2.1⟩
    · cases h
theorem numC_dec {m : Int} {v : Nat} (h1 : 1 ≤ v) (hm : (v : Int) ≤ m) (h7 : m ≤ 1000000) : numC m (Lib.decDigits v) = some (v : Int) := by
  unfold numC
  rw [numP_dec (by omega) ((dec_len_lt 7 v (by omega)).2 (by omega))]
  simp only
  rw [if_pos ⟨by omega, hm⟩]
theorem numC_itoa {m v : Int} (h1 : 1 ≤ v) (hm : v ≤ m) (h7 : m ≤ 1000000) : numC m (Lib.itoa v) = some v := by
  have e : v = ((v.toNat : Nat) : Int) := by omega
  rw [e, itoa_nat]
  exact numC_dec (by omega) (by omega) h7
/-- What is so far. -/
structure Inv (c : CF) (seen : List (List UInt8)) (n : Nat) : Prop where
  first : n = 0 → seen = [] ∧ c = .start
  kind : 0 < n → 1 ≤ c.kind ∧ c.kind ≤ 3
  size : wSize ∈ seen → 1 ≤ c.size ∧ c.size ≤ 8
  sup : wSupport ∈ seen → c.kind = 3 ∧ 1 ≤ c.sup ∧ c.sup ≤ 1000000
  nosup : wSupport ∉ seen → c.sup = 0
  job : 0 < n → wJob ∈ seen
  wk : 1 ≤ c.wk ∧ c.wk ≤ 64
  cap : 1 ≤ c.cap ∧ c.cap ≤ 1000000
  keep : rightG c.keep ∧ c.keep.length ≤ 15
theorem Inv.start : Inv .start [] 0 :=
  ⟨fun _ => ⟨rfl, rfl⟩, fun h => by omega, fun h => by simp at h, fun h => by simp at h, fun _ => rfl, fun h => by omega, by decide, by decide, ⟨by decide, fun o ho => by simp [CF.start] at ho⟩, by decide⟩
theorem job_cases (l : List UInt8) : jobZ l = 0 ∨ (1 ≤ jobZ l ∧ jobZ l ≤ 3 ∧ jobL (jobZ l) = l) := by
  rcases idxL_some l jobsL 0 with h | ⟨j, h1, h2, h3⟩
  · exact .inl h
  · right
    have hl : jobsL.length = 3 := rfl
    have e : jobZ l = ((0 + j + 1 : Nat) : Int) := h2
    refine ⟨by omega, by omega, ?_⟩
    unfold jobL
    rw [if_pos (by omega), e, show ((0 + j + 1 : Nat) : Int).toNat - 1 = j by omega, h3]
theorem lineC_inv {c c' : CF} {seen : List (List UInt8)} {n : Nat} {x : List UInt8} (hi : Inv c seen n) (h : lineC c seen n x = some c') : Inv c' ((cut1 32 x).1 :: seen) (n + 1) := by
  unfold lineC at h
  split at h
  · cases h
  · rename_i hn
    have hns : (cut1 32 x).1 ∉ seen := fun e => hn (.inr (.inl e))
    have hj : ¬ (n ≠ 0 ↔ (cut1 32 x).1 = wJob) := fun e => hn (.inr (.inr e))
    generalize (cut1 32 x).1 = w at h hns hj ⊢
    generalize (cut1 32 x).2.1 = t at h
    clear hn
    unfold setC at h
    have hmem : ∀ (u : List UInt8), w ≠ u → (u ∈ w :: seen ↔ u ∈ seen) := fun u hu => by
      rw [List.mem_cons]
      exact ⟨fun h => h.resolve_left fun e => hu e.symm, .inr⟩
    by_cases h1 : w = wJob
    · rw [if_pos h1] at h
      split at h
      · rename_i hp
        injection h with h
        subst h
        subst h1
        have hn0 : n = 0 := Decidable.byContradiction fun e => hj ⟨fun _ => rfl, fun _ => e⟩
        obtain ⟨rfl, rfl⟩ := hi.first hn0
        obtain ⟨j1, j2, _⟩ := (job_cases t).resolve_left (by omega)
        exact ⟨fun e => by omega, fun _ => ⟨j1, j2⟩, fun e => by simp at e, fun e => by simp at e, fun _ => rfl, fun _ => List.mem_cons_self .., (show (1 : Int) ≤ 1 ∧ (1 : Int) ≤ 64 by decide), (show (1 : Int) ≤ 1000000 ∧ (1000000 : Int) ≤ 1000000 by decide), hi.keep⟩
      · cases h
    · rw [if_neg h1] at h
      have hn0 : 0 < n := Nat.pos_of_ne_zero fun e => hj ⟨fun k => absurd e k, fun k => absurd k h1⟩
      have hjb : 0 < n + 1 → wJob ∈ w :: seen := fun _ => List.mem_cons_of_mem _ (hi.job hn0)
      by_cases h2 : w = wKeep
      · rw [if_pos h2] at h
        subst h2
        have m1 := hmem wSize (by decide)
        have m2 := hmem wSupport (by decide)
        cases hp : parseG t with
        | none => rw [hp] at h; cases h
        | some p =>
          rw [hp] at h
          simp only at h
          split at h
          · rename_i hl
            injection h with h
            subst h
            exact ⟨fun e => absurd e (Nat.succ_ne_zero n), fun _ => hi.kind hn0, fun e => hi.size (m1.1 e), fun e => hi.sup (m2.1 e), fun e => hi.nosup fun k => e (m2.2 k), hjb, hi.wk, hi.cap, (parse_some hp).2, hl.2⟩
          · cases h
      · rw [if_neg h2] at h
        by_cases h3 : w = wSupport
        · rw [if_pos h3] at h
          subst h3
          have m1 := hmem wSize (by decide)
          split at h
          · rename_i hk
            cases hv : numC 1000000 t with
            | none => rw [hv] at h; cases h
            | some v =>
              rw [hv] at h
              injection h with h
              subst h
              obtain ⟨v1, v2, _⟩ := numC_some hv
              exact ⟨fun e => absurd e (Nat.succ_ne_zero n), fun _ => hi.kind hn0, fun e => hi.size (m1.1 e), fun _ => ⟨hk, v1, v2⟩, fun e => absurd (List.mem_cons_self ..) e, hjb, hi.wk, hi.cap, hi.keep⟩
          · cases h
        · rw [if_neg h3] at h
          have m2 := hmem wSupport h3
          by_cases h4 : w = wSize
          · rw [if_pos h4] at h
            cases hv : numC 8 t with
            | none => rw [hv] at h; cases h
            | some v =>
              rw [hv] at h
              injection h with h
              subst h
              obtain ⟨v1, v2, _⟩ := numC_some hv
              exact ⟨fun e => absurd e (Nat.succ_ne_zero n), fun _ => hi.kind hn0, fun _ => ⟨v1, v2⟩, fun e => hi.sup (m2.1 e), fun e => hi.nosup fun k => e (m2.2 k), hjb, hi.wk, hi.cap, hi.keep⟩
          · rw [if_neg h4] at h
            have m1 := hmem wSize h4
            by_cases h5 : w = wWorkers
            · rw [if_pos h5] at h
              cases hv : numC 64 t with
              | none => rw [hv] at h; cases h
              | some v =>
                rw [hv] at h
                injection h with h
                subst h
                obtain ⟨v1, v2, _⟩ := numC_some hv
                exact ⟨fun e => absurd e (Nat.succ_ne_zero n), fun _ => hi.kind hn0, fun e => hi.size (m1.1 e), fun e => hi.sup (m2.1 e), fun e => hi.nosup fun k => e (m2.2 k), hjb, ⟨v1, v2⟩, hi.cap, hi.keep⟩
            · rw [if_neg h5] at h
              by_cases h6 : w = wCap
              · rw [if_pos h6] at h
                cases hv : numC 1000000 t with
                | none => rw [hv] at h; cases h
                | some v =>
                  rw [hv] at h
                  injection h with h
                  subst h
                  obtain ⟨v1, v2, _⟩ := numC_some hv
                  exact ⟨fun e => absurd e (Nat.succ_ne_zero n), fun _ => hi.kind hn0, fun e => hi.size (m1.1 e), fun e => hi.sup (m2.1 e), fun e => hi.nosup fun k => e (m2.2 k), hjb, hi.wk, ⟨v1, v2⟩, hi.keep⟩
              · rw [if_neg h6] at h
                cases h
theorem goC_ok : ∀ (ls : List (List UInt8)) {c d : CF} {seen : List (List UInt8)} {n : Nat}, Inv c seen n → goC ls c seen n = .ok d → rightC d
  | [], c, d, seen, n, hi, h => by cases h
  | [x], c, d, seen, n, hi, h => by
    rw [goC] at h
    split at h
    · unfold endC at h
      split at h
      · cases h
      · rename_i hn
        injection h with h
        subst h
        have hs : wSize ∈ seen := Decidable.byContradiction fun e => hn (.inl e)
        have hp : 0 < n := Nat.pos_of_ne_zero fun e => by
          obtain ⟨e1, _⟩ := hi.first e
          rw [e1] at hs
          simp at hs
        refine ⟨hi.keep.1, hi.keep.2, hi.kind hp, hi.size hs, hi.wk, hi.cap, ?_⟩
        by_cases h3 : c.kind = 3
        · rw [if_pos h3]
          exact (hi.sup (Decidable.byContradiction fun e => hn (.inr ⟨h3, e⟩))).2
        · rw [if_neg h3]
          exact hi.nosup fun e => h3 (hi.sup e).1
    · cases h
  | x :: y :: r, c, d, seen, n, hi, h => by
    rw [goC] at h
    cases hl : lineC c seen n x with
    | none => rw [hl] at h; cases h
    | some c' =>
      rw [hl] at h
      exact goC_ok (y :: r) (lineC_inv hi hl) h
/-- What is parsed is right. -/
theorem parseC_right {s : List UInt8} {c : CF} (h : parseC s = .ok c) : rightC c := goC_ok _ Inv.start h
/-- Where a fault is told: at a line that there is, or behind the last one; and what stands ahead of it has no fault but that it may end too soon. -/
theorem goC_bad : ∀ (ls : List (List UInt8)) {c : CF} {seen : List (List UInt8)} {n m : Nat} {w : List UInt8}, ls ≠ [] → goC ls c seen n = .bad m w → n ≤ m ∧ m - n + 1 ≤ ls.length ∧ ((∃ d, goC (ls.take (m - n) ++ [[]]) c seen n = .ok d) ∨ ∃ w', goC (ls.take (m - n) ++ [[]]) c seen n = .bad m w')
  | [], c, seen, n, m, w, hne, h => absurd rfl hne
  | [x], c, seen, n, m, w, _, h => by
    have hm : m = n := by
      rw [goC] at h
      split at h
      · unfold endC at h
        split at h
        · injection h with h _
          exact h.symm
        · cases h
      · injection h with h _
        exact h.symm
    subst hm
    rw [Nat.sub_self, List.take_zero, List.nil_append]
    refine ⟨Nat.le_refl _, by simp, ?_⟩
    rw [goC, if_pos rfl]
    unfold endC
    split
    · exact .inr ⟨_, rfl⟩
    · exact .inl ⟨_, rfl⟩
  | x :: y :: r, c, seen, n, m, w, _, h => by
    rw [goC] at h
    cases hl : lineC c seen n x with
    | none =>
      rw [hl] at h
      injection h with h _
      subst h
      rw [Nat.sub_self, List.take_zero, List.nil_append]
      refine ⟨Nat.le_refl _, by simp, ?_⟩
      rw [goC, if_pos rfl]
      unfold endC
      split
      · exact .inr ⟨_, rfl⟩
      · exact .inl ⟨_, rfl⟩
    | some c' =>
      rw [hl] at h
      obtain ⟨h1, h2, h3⟩ := goC_bad (y :: r) (by simp) h
      refine ⟨by omega, by simp only [List.length_cons] at h2 ⊢; omega, ?_⟩
      have e : m - n = (m - (n + 1)) + 1 := by omega
      rw [e, List.take_succ_cons, List.cons_append, goC_step (by simp) hl]
      exact h3
/-- A line: a word, and what stands behind it. -/
def lineW (w t : List UInt8) : List UInt8 := w ++ 32 :: t
/-- The lines of what is asked. -/
def linesC (c : CF) : List (List UInt8) :=
  [lineW wJob (jobL c.kind), lineW wSize (Lib.itoa c.size)] ++ (if c.kind = 3 then [lineW wSupport (Lib.itoa c.sup)] else []) ++ (if c.keep = [] then [] else [lineW wKeep (textG c.keep)]) ++ [lineW wWorkers (Lib.itoa c.wk), lineW wCap (Lib.itoa c.cap)]
/-- Lines, each with its end. -/
def tellL (ls : List (List UInt8)) : List UInt8 := ls.flatMap fun l => l ++ [10]
theorem split_tell : ∀ (ls : List (List UInt8)) (t : List UInt8), (∀ l ∈ ls, (10 : UInt8) ∉ l) → split1 10 (tellL ls ++ t) = ls ++ split1 10 t
  | [], t, _ => rfl
  | l :: ls, t, h => by
    have ih := split_tell ls t fun x hx => h x (List.mem_cons_of_mem _ hx)
    have e : tellL (l :: ls) ++ t = l ++ 10 :: (tellL ls ++ t) := by
      unfold tellL
      rw [List.flatMap_cons]
      simp
    rw [e, split1_app _ (h l (List.mem_cons_self ..)), ih, List.cons_append]
theorem lineC_of {c c' : CF} {seen : List (List UInt8)} {n : Nat} {w t : List UInt8} (hw : (32 : UInt8) ∉ w) (hs : w ∉ seen) (hn : ¬ (n ≠ 0 ↔ w = wJob)) (h : setC c w t = some c') : lineC c seen n (lineW w t) = some c' := by
  unfold lineC lineW
  rw [cut1_app t hw]
  simp only
  rw [if_neg (fun e => e.elim (fun e => by cases e) fun e => e.elim hs hn)]
  exact h
theorem word_of {w t : List UInt8} (hw : (32 : UInt8) ∉ w) : (cut1 32 (lineW w t)).1 = w := by unfold lineW; rw [cut1_app t hw]
theorem goC_line {c c' : CF} {seen : List (List UInt8)} {n : Nat} {w t : List UInt8} {r : List (List UInt8)} (hr : r ≠ []) (hw : (32 : UInt8) ∉ w) (hs : w ∉ seen) (hn : ¬ (n ≠ 0 ↔ w = wJob)) (h : setC c w t = some c') :
    goC (lineW w t :: r) c seen n = goC r c' (w :: seen) (n + 1) := by
  rw [goC_step hr (lineC_of hw hs hn h), word_of hw]
theorem job_name {k : Int} (h1 : 1 ≤ k) (h3 : k ≤ 3) : jobZ (jobL k) = k ∧ (10 : UInt8) ∉ jobL k ∧ jobL k ≠ [] ∧ (jobL k).length ≤ 7 := by
  rcases (show k = 1 ∨ k = 2 ∨ k = 3 by omega) with rfl | rfl | rfl <;> decide
theorem set_job {c : CF} {k : Int} (h1 : 1 ≤ k) (h3 : k ≤ 3) : setC c wJob (jobL k) = some { c with kind := k } := by
  unfold setC
  rw [if_pos rfl, (job_name h1 h3).1, if_pos (by omega)]
theorem set_size {c : CF} {v : Int} (h1 : 1 ≤ v) (h8 : v ≤ 8) : setC c wSize (Lib.itoa v) = some { c with size := v } := by
  unfold setC
  rw [if_neg (by decide), if_neg (by decide), if_neg (by decide), if_pos rfl, numC_itoa h1 h8 (by omega)]
  rfl
theorem set_workers {c : CF} {v : Int} (h1 : 1 ≤ v) (h8 : v ≤ 64) : setC c wWorkers (Lib.itoa v) = some { c with wk := v } := by
  unfold setC
  rw [if_neg (by decide), if_neg (by decide), if_neg (by decide), if_neg (by decide), if_pos rfl, numC_itoa h1 h8 (by omega)]
  rfl
theorem set_cap {c : CF} {v : Int} (h1 : 1 ≤ v) (h8 : v ≤ 1000000) : setC c wCap (Lib.itoa v) = some { c with cap := v } := by
  unfold setC
  rw [if_neg (by decide), if_neg (by decide), if_neg (by decide), if_neg (by decide), if_neg (by decide), if_pos rfl, numC_itoa h1 h8 (by omega)]
  rfl
theorem set_support {c : CF} {v : Int} (hk : c.kind = 3) (h1 : 1 ≤ v) (h8 : v ≤ 1000000) : setC c wSupport (Lib.itoa v) = some { c with sup := v } := by
  unfold setC
  rw [if_neg (by decide), if_neg (by decide), if_pos rfl, if_pos hk, numC_itoa h1 h8 (by omega)]
  rfl
theorem set_keep {c : CF} {p : List (Int × Int)} (hp : rightG p) (h1 : p ≠ []) (h15 : p.length ≤ 15) : setC c wKeep (textG p) = some { c with keep := p } := by
  unfold setC
  rw [if_neg (by decide), if_pos rfl, parse_text hp]
  simp only
  rw [if_pos ⟨List.length_pos_iff.2 h1, h15⟩]
end Go.Proofs.YtbbmgcdocolakaaGreatDoor.Cf
/-
  Texts of graphs, plainly: line by line, there and back.
-/
namespace Go.Proofs.YtbbmgcdocolakaaGreatDoor.Ld
open Go Go.Proofs.YtbbmgcdocolakaaGreatDoor.Tx Go.Proofs.YtbbmgcdocolakaaGreatDoor.Cf
set_option linter.unusedVariables false

def valL (l : List UInt8) : Nat := l.foldl (fun a d => a * 10 + (d.toNat - 48)) 0
theorem valL_snoc (l : List UInt8) (d : UInt8) : valL (l ++ [d]) = valL l * 10 + (d.toNat - 48) := by simp [valL]
theorem valL_dec (u : Nat) : valL (Lib.decDigits u) = u := by
  induction u using Nat.strongRecOn with
  | ind u ih =>
    by_cases h : u < 10
    · rw [Lib.decDigits, dif_pos h]
      show 0 * 10 + ((UInt8.ofNat (48 + u)).toNat - 48) = u
      rw [digit_nat h]
      omega
    · rw [Lib.decDigits, dif_neg h, valL_snoc, ih (u / 10) (by omega), digit_nat (Nat.mod_lt _ (by omega))]
      omega
theorem valL_take (l : List UInt8) (k : Nat) (b : UInt8) (h : l[k]? = some b) : valL (l.take (k + 1)) = 10 * valL (l.take k) + (b.toNat - 48) := by
  obtain ⟨hk, hb⟩ := List.getElem?_eq_some_iff.1 h
  rw [List.take_succ_eq_append_getElem hk, hb, valL_snoc]
  omega
theorem valL_lt : ∀ (k : Nat) (l : List UInt8), l.length = k → (∀ b ∈ l, b.toNat ≤ 57) → valL l < 10 ^ k
  | 0, l, hk, _ => by
    obtain rfl := List.eq_nil_of_length_eq_zero hk
    decide
  | k + 1, l, hk, hb => by
    rcases List.eq_nil_or_concat l with rfl | ⟨m, b, rfl⟩
    · cases hk
    · rw [List.concat_eq_append] at hb hk ⊢
      have h1 := valL_lt k m (by simpa using hk) fun x hx => hb x (List.mem_append_left _ hx)
      have h2 := hb b (by simp)
      rw [valL_snoc, Nat.pow_succ]
      omega
/-- Only digits. -/
def digB (b : UInt8) : Bool := decide (48 ≤ b.toNat) && decide (b.toNat ≤ 57)
/-- A number of digits. -/
def numL (s : List UInt8) : Option Nat :=
  if s = [] ∨ 6 < s.length ∨ (1 < s.length ∧ s.head? = some 48) then none else if s.all digB then some (valL s) else none
theorem dec_head (u : Nat) : 0 < u → (Lib.decDigits u).head? ≠ some 48 := by
  induction u using Nat.strongRecOn with
  | ind u ih =>
    intro h0
    by_cases h : u < 10
    · rw [Lib.decDigits, dif_pos h]
      intro he
      have h1 : UInt8.ofNat (48 + u) = 48 := Option.some.inj he
      have h2 := digit_nat h
      rw [h1] at h2
      have : (48 : UInt8).toNat = 48 := rfl
      omega
    · rw [Lib.decDigits, dif_neg h]
      have h1 := ih (u / 10) (by omega) (by omega)
      have h2 := dec_ne (u / 10)
      cases hd : Lib.decDigits (u / 10) with
      | nil => exact absurd hd h2
      | cons c r => rw [hd] at h1; exact h1
theorem numL_dec {u : Nat} (h : u < 1000000) : numL (Lib.decDigits u) = some u := by
  have hl := (dec_len_lt 6 u (by omega)).2 (by omega)
  unfold numL
  rw [if_neg, if_pos, valL_dec]
  · rw [List.all_eq_true]
    intro b hb
    have := dec_digit u b hb
    unfold digB
    simp [this.1, this.2]
  · rintro (h1 | h1 | ⟨h1, h2⟩)
    · exact dec_ne u h1
    · omega
    · rcases Nat.eq_zero_or_pos u with rfl | h0
      · rw [Lib.decDigits, dif_pos (by omega)] at h1
        simp at h1
      · exact dec_head u h0 h2
theorem numL_lt {s : List UInt8} {v : Nat} (h : numL s = some v) : v < 1000000 := by
  unfold numL at h
  split at h
  · cases h
  · rename_i h1
    split at h
    · rename_i h2
      obtain rfl := Option.some.inj h
      have h3 := valL_lt _ s rfl fun b hb => by have := List.all_eq_true.1 h2 b hb; unfold digB at this; simp at this; exact this.2
      have h4 : 10 ^ s.length ≤ 10 ^ 6 := Nat.pow_le_pow_right (by omega) (by omega)
      omega
    · cases h
/-- One line, behind some labels and edges. -/
def lineL (L : List Int) (E : List (Int × Int)) (s : List UInt8) : Option (List Int × List (Int × Int)) :=
  match split1 32 s with
  | [k, x, y] => match numL x, numL y with
    | some a, some b => if k = [118] then (if a = L.length ∧ E = [] then some (L ++ [(b : Int)], E) else none) else if k = [101] then some (L, E ++ [((a : Int), (b : Int))]) else none
    | _, _ => none
  | _ => none
inductive TR
  | bad (n : Nat)
  | ok (L : List Int) (E : List (Int × Int))
/-- Line by line. -/
def goL : List (List UInt8) → List Int → List (Int × Int) → Nat → TR
  | [], L, E, n => .ok L E
  | [x], L, E, n => if x = [] then .ok L E else .bad n
  | x :: y :: r, L, E, n => match lineL L E x with
    | none => .bad n
    | some s => goL (y :: r) s.1 s.2 (n + 1)
def textL (s : List UInt8) : TR := goL (split1 10 s) [] [] 0
theorem goL_some {x : List UInt8} {r : List (List UInt8)} {L : List Int} {E : List (Int × Int)} {n : Nat} {s : List Int × List (Int × Int)} (hr : r ≠ []) (h : lineL L E x = some s) : goL (x :: r) L E n = goL r s.1 s.2 (n + 1) := by
  cases r with
  | nil => exact absurd rfl hr
  | cons y r => rw [goL, h]
theorem goL_none {x : List UInt8} {r : List (List UInt8)} {L : List Int} {E : List (Int × Int)} {n : Nat} (hr : r ≠ []) (h : lineL L E x = none) : goL (x :: r) L E n = .bad n := by
  cases r with
  | nil => exact absurd rfl hr
  | cons y r => rw [goL, h]
/-- A line of three words. -/
def row3 (k : UInt8) (a b : Nat) : List UInt8 := k :: 32 :: (Lib.decDigits a ++ 32 :: Lib.decDigits b)
theorem dec_no {c : UInt8} (hc : c.toNat < 48) (u : Nat) : c ∉ Lib.decDigits u := fun h => by have := dec_digit u c h; omega
theorem row3_split {k : UInt8} (hk : k ≠ 32) (a b : Nat) : split1 32 (row3 k a b) = [[k], Lib.decDigits a, Lib.decDigits b] := by
  have h1 : row3 k a b = [k] ++ 32 :: (Lib.decDigits a ++ 32 :: Lib.decDigits b) := rfl
  rw [h1, split1_app _ (by simp; exact fun h => hk h.symm), split1_app _ (dec_no (by decide) a), split1_none (dec_no (by decide) b)]
theorem row3_no {k : UInt8} (hk : k ≠ 10) (a b : Nat) : (10 : UInt8) ∉ row3 k a b := by
  unfold row3
  simp only [List.mem_cons, List.mem_append, not_or]
  exact ⟨fun h => hk h.symm, by decide, dec_no (by decide) a, by decide, dec_no (by decide) b⟩
theorem line_v {L : List Int} {b : Nat} (hl : L.length < 1000000) (hb : b < 1000000) : lineL L [] (row3 118 L.length b) = some (L ++ [(b : Int)], []) := by
  unfold lineL
  rw [row3_split (by decide)]
  simp only [numL_dec hl, numL_dec hb]
  simp
theorem line_e (L : List Int) (E : List (Int × Int)) {a b : Nat} (ha : a < 1000000) (hb : b < 1000000) : lineL L E (row3 101 a b) = some (L, E ++ [((a : Int), (b : Int))]) := by
  unfold lineL
  rw [row3_split (by decide)]
  simp only [numL_dec ha, numL_dec hb]
  simp
/-- The lines of labels, from a number on; of edges. -/
def vRows : Nat → List Int → List (List UInt8)
  | _, [] => []
  | i, x :: r => row3 118 i x.toNat :: vRows (i + 1) r
def eRows (E : List (Int × Int)) : List (List UInt8) := E.map fun e => row3 101 e.1.toNat e.2.toNat
theorem vRows_snoc : ∀ (L : List Int) (i : Nat) (x : Int), vRows i (L ++ [x]) = vRows i L ++ [row3 118 (i + L.length) x.toNat]
  | [], i, x => rfl
  | y :: L, i, x => by
    show row3 118 i y.toNat :: vRows (i + 1) (L ++ [x]) = _
    rw [vRows_snoc L (i + 1) x, List.length_cons, show i + 1 + L.length = i + (L.length + 1) by omega]
    rfl
theorem vRows_no : ∀ (L : List Int) (i : Nat), ∀ l ∈ vRows i L, (10 : UInt8) ∉ l
  | [], i, l, h => absurd h List.not_mem_nil
  | y :: L, i, l, h => by
    rcases List.mem_cons.1 h with rfl | h
    · exact row3_no (by decide) _ _
    · exact vRows_no L (i + 1) l h
theorem eRows_no (E : List (Int × Int)) : ∀ l ∈ eRows E, (10 : UInt8) ∉ l := by
  intro l h
  obtain ⟨e, _, rfl⟩ := List.mem_map.1 h
  exact row3_no (by decide) _ _
theorem vRows_len : ∀ (L : List Int) (i : Nat), (vRows i L).length = L.length
  | [], _ => rfl
  | y :: L, i => by simp [vRows, vRows_len L]
def lab6 (x : Int) : Prop := 0 ≤ x ∧ x < 1000000
theorem goL_v : ∀ (M L : List Int) (n : Nat) (r : List (List UInt8)), r ≠ [] → (∀ x ∈ M, lab6 x) → L.length + M.length < 1000000 → goL (vRows L.length M ++ r) L [] n = goL r (L ++ M) [] (n + M.length)
  | [], L, n, r, _, _, _ => by simp [vRows]
  | x :: M, L, n, r, hr, hx, hl => by
    have h1 := hx x (List.mem_cons_self ..)
    obtain ⟨b, rfl⟩ := Int.eq_ofNat_of_zero_le h1.1
    have h2 := h1.2
    rw [List.length_cons] at hl
    show goL (row3 118 L.length _ :: (vRows (L.length + 1) M ++ r)) L [] n = _
    rw [Int.toNat_natCast, goL_some (by simp [hr]) (line_v (by omega) (by omega))]
    have ih := goL_v M (L ++ [(b : Int)]) (n + 1) r hr (fun x hx' => hx x (List.mem_cons_of_mem _ hx')) (by rw [List.length_append, List.length_singleton]; omega)
    rw [List.length_append, List.length_singleton] at ih
    simp only
    rw [ih, List.append_assoc, List.length_cons]
    congr 1
    omega
theorem goL_e : ∀ (G : List (Int × Int)) (L : List Int) (E : List (Int × Int)) (n : Nat) (r : List (List UInt8)), r ≠ [] → (∀ e ∈ G, lab6 e.1 ∧ lab6 e.2) → goL (eRows G ++ r) L E n = goL r L (E ++ G) (n + G.length)
  | [], L, E, n, r, _, _ => by simp [eRows]
  | (x, y) :: G, L, E, n, r, hr, hx => by
    have h1 := hx (x, y) (List.mem_cons_self ..)
    obtain ⟨a, rfl⟩ := Int.eq_ofNat_of_zero_le h1.1.1
    obtain ⟨b, rfl⟩ := Int.eq_ofNat_of_zero_le h1.2.1
    have h2 := h1.1.2
    have h3 := h1.2.2
    simp only at h2 h3
    show goL (row3 101 _ _ :: (eRows G ++ r)) L E n = _
    simp only [Int.toNat_natCast]
    rw [goL_some (by simp [hr]) (line_e L E (by omega) (by omega))]
    have ih := goL_e G L (E ++ [((a : Int), (b : Int))]) (n + 1) r hr fun e he => hx e (List.mem_cons_of_mem _ he)
    simp only
    rw [ih, List.append_assoc, List.length_cons]
    congr 1
    omega
/-- What is printed, read. -/
def printL (L : List Int) (F : List (Int × Int)) : List UInt8 := tellL (vRows 0 L) ++ tellL (eRows F)
theorem tell_app (a b : List (List UInt8)) : tellL (a ++ b) = tellL a ++ tellL b := by unfold tellL; rw [List.flatMap_append]
theorem split_print (L : List Int) (F : List (Int × Int)) (t : List UInt8) : split1 10 (printL L F ++ t) = vRows 0 L ++ (eRows F ++ split1 10 t) := by
  unfold printL
  rw [← tell_app, split_tell _ _ (fun l hl => by
    rcases List.mem_append.1 hl with h | h
    · exact vRows_no _ _ l h
    · exact eRows_no _ l h), List.append_assoc]
theorem text_more {L : List Int} {F : List (Int × Int)} (t : List UInt8) (hL : ∀ x ∈ L, lab6 x) (hF : ∀ e ∈ F, lab6 e.1 ∧ lab6 e.2) (hl : L.length < 1000000) : textL (printL L F ++ t) = goL (split1 10 t) L F (L.length + F.length) := by
  unfold textL
  rw [split_print]
  have h1 := goL_v L [] 0 (eRows F ++ split1 10 t) (by simp [split1_ne]) hL (by simpa using hl)
  simp only [List.length_nil, List.nil_append, Nat.zero_add] at h1
  rw [h1, goL_e F L [] _ _ (split1_ne _ _) hF, List.nil_append]
theorem text_print {L : List Int} {F : List (Int × Int)} (hL : ∀ x ∈ L, lab6 x) (hF : ∀ e ∈ F, lab6 e.1 ∧ lab6 e.2) (hl : L.length < 1000000) : textL (printL L F) = .ok L F := by
  have h := text_more [] hL hF hl
  rw [List.append_nil] at h
  rw [h]
  rfl
/-- All that is read is a number of a few digits. -/
theorem lineL_lab {L L' : List Int} {E E' : List (Int × Int)} {s : List UInt8} (h : lineL L E s = some (L', E')) (hL : ∀ x ∈ L, lab6 x) (hE : ∀ e ∈ E, lab6 e.1 ∧ lab6 e.2) : (∀ x ∈ L', lab6 x) ∧ (∀ e ∈ E', lab6 e.1 ∧ lab6 e.2) ∧ L'.length + E'.length = L.length + E.length + 1 := by
  unfold lineL at h
  split at h
  · rename_i k x y hs
    split at h
    · rename_i a b ha hb
      have h1 := numL_lt ha
      have h2 := numL_lt hb
      split at h
      · split at h
        · rename_i h3
          obtain ⟨rfl, rfl⟩ := Prod.mk.inj (Option.some.inj h)
          refine ⟨fun z hz => ?_, hE, by simp; omega⟩
          rcases List.mem_append.1 hz with hz | hz
          · exact hL z hz
          · obtain rfl := List.mem_singleton.1 hz
            exact ⟨by omega, by omega⟩
        · cases h
      · split at h
        · obtain ⟨rfl, rfl⟩ := Prod.mk.inj (Option.some.inj h)
          refine ⟨hL, fun z hz => ?_, by simp; omega⟩
          rcases List.mem_append.1 hz with hz | hz
          · exact hE z hz
          · obtain rfl := List.mem_singleton.1 hz
            exact ⟨⟨by simp, by simp only; omega⟩, ⟨by simp, by simp only; omega⟩⟩
        · cases h
    · cases h
  · cases h
end Go.Proofs.YtbbmgcdocolakaaGreatDoor.Ld
/-
  Programs of tests: walks of names, Name, Kind, takes, right, Right.
-/
namespace Go.Proofs.YtbbmgcdocolakaaGreatDoor
open Go.RowKit Go.Proofs.YtbbmgcdocolakaaGreatDoor.Pg
attribute [local go_sem ↓] Go.wp_at_zero Go.wp_at_succ
set_option maxRecDepth 100000
set_option linter.unusedVariables false

theorem kind_bounds (l : List UInt8) : 0 ≤ kindZ l ∧ kindZ l ≤ 8 := by
  rcases kind_cases l with h | ⟨h1, h2, _⟩ <;> omega
/-- What right answers. -/
def OpRes (o : Int × Int) (w : World) (e : Ending) (w' : World) : Prop :=
  (opOK o ∧ e = .returned .nilIface ∧ Below w.heap.size w w') ∨ (¬ opOK o ∧ ∃ (c a : Int) (s : ByteArray) (g : Nat), e = .returned (.iface 78 (.pointer (some ⟨g, 0, none⟩))) ∧ (Err.flt c a s).At w' (.iface 78 (.pointer (some ⟨g, 0, none⟩))) ∧ Below w.heap.size w w' ∧ (c = 1 ∨ c = 3 ∨ c = 6))
theorem bz_empty (l : List UInt8) : (bz l).toList.isEmpty = l.isEmpty := by rw [Lib.toList_data]
theorem bz_toList (l : List UInt8) : (bz l).toList = l := by rw [Lib.toList_data]
/-- What Right answers. -/
def ProgRes (p : List (Int × Int)) (w : World) (e : Ending) (w' : World) : Prop :=
  (rightG p ∧ e = .returned .nilIface ∧ Below w.heap.size w w') ∨ (¬ rightG p ∧ ∃ (c a : Int) (s : ByteArray) (g : Nat), e = .returned (.iface 78 (.pointer (some ⟨g, 0, none⟩))) ∧ (Err.flt c a s).At w' (.iface 78 (.pointer (some ⟨g, 0, none⟩))) ∧ Below w.heap.size w w' ∧ (c = 1 ∨ c = 3 ∨ c = 6))
end Go.Proofs.YtbbmgcdocolakaaGreatDoor
/-
  Jobs' texts plainly: each is parsed as it was; lines more, lines in another order, numbers.
-/
namespace Go.Proofs.YtbbmgcdocolakaaGreatDoor.Cf
open Go Go.Proofs.YtbbmgcdocolakaaGreatDoor.Tx Go.Proofs.YtbbmgcdocolakaaGreatDoor.Pg
set_option linter.unusedVariables false
set_option linter.unusedSimpArgs false

theorem mem_join {b c : UInt8} (hbc : b ≠ c) : ∀ {l : List (List UInt8)}, (∀ x ∈ l, b ∉ x) → b ∉ Lib.join l [c]
  | [], _ => by rw [Lib.join_nil]; simp
  | [x], h => by rw [Lib.join_one]; exact h x (List.mem_cons_self ..)
  | x :: y :: r, h => by
    have ih := mem_join hbc (l := y :: r) fun z hz => h z (List.mem_cons_of_mem _ hz)
    rw [Lib.join_cons] at ih ⊢
    rw [Lib.joinTail, List.map_cons, List.flatten_cons]
    unfold Lib.joinTail at ih
    intro hm
    rcases List.mem_append.1 hm with hm | hm
    · exact h x (List.mem_cons_self ..) hm
    · rcases List.mem_append.1 hm with hm | hm
      · rcases List.mem_cons.1 hm with hm | hm
        · exact hbc hm
        · exact ih (List.mem_append.2 (.inl hm))
      · exact ih (List.mem_append.2 (.inr hm))
theorem text_no {p : List (Int × Int)} (h : rightG p) : (10 : UInt8) ∉ textG p := by
  refine mem_join (by decide) fun x hx => ?_
  obtain ⟨o, ho, rfl⟩ := List.mem_map.1 hx
  have := h.2 o ho
  exact (opL_no this.1 this.2.1.1).2.1
theorem itoa_no {v : Int} (h : 0 ≤ v) : (10 : UInt8) ∉ Lib.itoa v := by
  have e : v = ((v.toNat : Nat) : Int) := by omega
  rw [e, itoa_nat]
  exact dec_no (.inl (by decide)) _
theorem line_no {w t : List UInt8} (hw : (10 : UInt8) ∉ w) (ht : (10 : UInt8) ∉ t) : (10 : UInt8) ∉ lineW w t := fun h => by
  unfold lineW at h
  rcases List.mem_append.1 h with h | h
  · exact hw h
  · rcases List.mem_cons.1 h with h | h
    · cases h
    · exact ht h
theorem lines_no {c : CF} (h : rightC c) : ∀ l ∈ linesC c, (10 : UInt8) ∉ l := by
  obtain ⟨h1, h2, h3, h4, h5, h6, h7⟩ := h
  intro l hl
  unfold linesC at hl
  rw [List.mem_append, List.mem_append, List.mem_append] at hl
  rcases hl with ((hl | hl) | hl) | hl
  · rcases List.mem_cons.1 hl with rfl | hl
    · exact line_no (by decide) (job_name h3.1 h3.2).2.1
    · rw [List.mem_singleton.1 hl]
      exact line_no (by decide) (itoa_no (by omega))
  · split at hl
    · rename_i hk
      rw [if_pos hk] at h7
      rw [List.mem_singleton.1 hl]
      exact line_no (by decide) (itoa_no (by omega))
    · cases hl
  · split at hl
    · cases hl
    · rw [List.mem_singleton.1 hl]
      exact line_no (by decide) (text_no h1)
  · rcases List.mem_cons.1 hl with rfl | hl
    · exact line_no (by decide) (itoa_no (by omega))
    · rw [List.mem_singleton.1 hl]
      exact line_no (by decide) (itoa_no (by omega))
/-- The words of the lines, the last one first. -/
def wordsC (c : CF) : List (List UInt8) := [wCap, wWorkers] ++ (if c.keep = [] then [] else [wKeep]) ++ (if c.kind = 3 then [wSupport] else []) ++ [wSize, wJob]
theorem goC_lines {c : CF} (h : rightC c) {r : List (List UInt8)} (hr : r ≠ []) : goC (linesC c ++ r) .start [] 0 = goC r c (wordsC c) (linesC c).length := by
  obtain ⟨h1, h2, h3, h4, h5, h6, h7⟩ := h
  obtain ⟨kind, size, sup, wk, cap, keep⟩ := c
  simp only at h1 h2 h3 h4 h5 h6 h7
  unfold linesC wordsC
  simp only
  by_cases hk : kind = 3
  · rw [if_pos hk] at h7
    rw [if_pos hk, if_pos hk]
    by_cases he : keep = []
    · subst he
      rw [if_pos rfl, if_pos rfl]
      simp only [List.append_nil, List.cons_append, List.nil_append, List.length_cons, List.length_nil]
      rw [goC_line (by simp) (by decide) (by decide) (by decide) (set_job h3.1 h3.2)]
      rw [goC_line (by simp) (by decide) (by decide) (by decide) (set_size h4.1 h4.2)]
      rw [goC_line (by simp) (by decide) (by decide) (by decide) (set_support hk h7.1 h7.2)]
      rw [goC_line (by simp) (by decide) (by decide) (by decide) (set_workers h5.1 h5.2)]
      rw [goC_line hr (by decide) (by decide) (by decide) (set_cap h6.1 h6.2)]
      rfl
    · rw [if_neg he, if_neg he]
      simp only [List.append_nil, List.cons_append, List.nil_append, List.length_cons, List.length_nil]
      rw [goC_line (by simp) (by decide) (by decide) (by decide) (set_job h3.1 h3.2)]
      rw [goC_line (by simp) (by decide) (by decide) (by decide) (set_size h4.1 h4.2)]
      rw [goC_line (by simp) (by decide) (by decide) (by decide) (set_support hk h7.1 h7.2)]
      rw [goC_line (by simp) (by decide) (by decide) (by decide) (set_keep h1 he h2)]
      rw [goC_line (by simp) (by decide) (by decide) (by decide) (set_workers h5.1 h5.2)]
      rw [goC_line hr (by decide) (by decide) (by decide) (set_cap h6.1 h6.2)]
  · rw [if_neg hk] at h7
    rw [if_neg hk, if_neg hk]
    subst h7
    by_cases he : keep = []
    · subst he
      rw [if_pos rfl, if_pos rfl]
      simp only [List.append_nil, List.cons_append, List.nil_append, List.length_cons, List.length_nil]
      rw [goC_line (by simp) (by decide) (by decide) (by decide) (set_job h3.1 h3.2)]
      rw [goC_line (by simp) (by decide) (by decide) (by decide) (set_size h4.1 h4.2)]
      rw [goC_line (by simp) (by decide) (by decide) (by decide) (set_workers h5.1 h5.2)]
      rw [goC_line hr (by decide) (by decide) (by decide) (set_cap h6.1 h6.2)]
      rfl
    · rw [if_neg he, if_neg he]
      simp only [List.append_nil, List.cons_append, List.nil_append, List.length_cons, List.length_nil]
      rw [goC_line (by simp) (by decide) (by decide) (by decide) (set_job h3.1 h3.2)]
      rw [goC_line (by simp) (by decide) (by decide) (by decide) (set_size h4.1 h4.2)]
      rw [goC_line (by simp) (by decide) (by decide) (by decide) (set_keep h1 he h2)]
      rw [goC_line (by simp) (by decide) (by decide) (by decide) (set_workers h5.1 h5.2)]
      rw [goC_line hr (by decide) (by decide) (by decide) (set_cap h6.1 h6.2)]
      rfl
theorem words_has (c : CF) : wSize ∈ wordsC c ∧ wJob ∈ wordsC c ∧ wCap ∈ wordsC c ∧ wWorkers ∈ wordsC c ∧ (c.kind = 3 → wSupport ∈ wordsC c) := by
  unfold wordsC
  refine ⟨by simp, by simp, by simp, by simp, fun h => ?_⟩
  rw [if_pos h]
  simp
theorem end_lines (c : CF) (n : Nat) : endC c (wordsC c) n = .ok c := by
  unfold endC
  obtain ⟨h1, _, _, _, h2⟩ := words_has c
  rw [if_neg]
  rintro (h | ⟨h3, h⟩)
  · exact h h1
  · exact h (h2 h3)
theorem tell_nil (ls : List (List UInt8)) (h : ∀ l ∈ ls, (10 : UInt8) ∉ l) : split1 10 (tellL ls) = ls ++ [[]] := by
  have := split_tell ls [] h
  rw [List.append_nil] at this
  exact this
/-- Each is parsed as it was. -/
theorem parse_lines {c : CF} (h : rightC c) : parseC (tellL (linesC c)) = .ok c := by
  unfold parseC
  rw [tell_nil _ (lines_no h), goC_lines h (by simp), goC, if_pos rfl, end_lines]
/-- A line more that can't be. -/
theorem more_line {c : CF} (h : rightC c) (t : List UInt8) (ht : ∃ x r, split1 10 t = x :: r ∧ ((r = [] ∧ x ≠ []) ∨ (r ≠ [] ∧ lineC c (wordsC c) (linesC c).length x = none))) : ∃ w, parseC (tellL (linesC c) ++ t) = .bad (linesC c).length w := by
  obtain ⟨x, r, hs, hh⟩ := ht
  unfold parseC
  rw [split_tell _ _ (lines_no h), hs, goC_lines h (by simp)]
  rcases hh with ⟨rfl, hx⟩ | ⟨hr, hx⟩
  · rw [goC, if_neg hx]
    exact ⟨_, rfl⟩
  · rw [goC_fail hr hx]
    exact ⟨_, rfl⟩
theorem line_seen {c : CF} {seen : List (List UInt8)} {n : Nat} {w t : List UInt8} (hw : (32 : UInt8) ∉ w) (hs : w ∈ seen) : lineC c seen n (lineW w t) = none := by
  unfold lineC lineW
  rw [cut1_app t hw, if_pos (.inr (.inl hs))]
theorem line_bare {c : CF} {seen : List (List UInt8)} {n : Nat} {w : List UInt8} (hw : (32 : UInt8) ∉ w) : lineC c seen n w = none := by
  unfold lineC
  rw [cut1_none hw, if_pos (.inl rfl)]
theorem line_other {c : CF} {seen : List (List UInt8)} {n : Nat} {w t : List UInt8} (hw : (32 : UInt8) ∉ w) (ho : w ∉ [wJob, wKeep, wSupport, wSize, wWorkers, wCap]) : lineC c seen n (lineW w t) = none := by
  unfold lineC lineW
  rw [cut1_app t hw]
  split
  · rfl
  · simp only [List.mem_cons, List.not_mem_nil, or_false, not_or] at ho
    obtain ⟨h1, h2, h3, h4, h5, h6⟩ := ho
    unfold setC
    simp only
    rw [if_neg h1, if_neg h2, if_neg h3, if_neg h4, if_neg h5, if_neg h6]
/-- The last line right behind the first one. -/
def turnC (c : CF) : List (List UInt8) :=
  [lineW wJob (jobL c.kind), lineW wCap (Lib.itoa c.cap)] ++ ([lineW wSize (Lib.itoa c.size)] ++ (if c.kind = 3 then [lineW wSupport (Lib.itoa c.sup)] else []) ++ (if c.keep = [] then [] else [lineW wKeep (textG c.keep)]) ++ [lineW wWorkers (Lib.itoa c.wk)])
theorem parse_turn {c : CF} (h : rightC c) : parseC (tellL (turnC c)) = .ok c := by
  have hno : ∀ l ∈ turnC c, (10 : UInt8) ∉ l := fun l hl => lines_no h l (by
    unfold turnC at hl
    unfold linesC
    simp only [List.mem_append, List.mem_cons, List.not_mem_nil, or_false] at hl ⊢
    rcases hl with (hl | hl) | ((hl | hl) | hl) | hl
    · exact .inl (.inl (.inl (.inl hl)))
    · exact .inr (.inr hl)
    · exact .inl (.inl (.inl (.inr hl)))
    · exact .inl (.inl (.inr hl))
    · exact .inl (.inr hl)
    · exact .inr (.inl hl))
  unfold parseC
  rw [tell_nil _ hno]
  clear hno
  obtain ⟨h1, h2, h3, h4, h5, h6, h7⟩ := h
  obtain ⟨kind, size, sup, wk, cap, keep⟩ := c
  simp only at h1 h2 h3 h4 h5 h6 h7
  unfold turnC
  simp only
  by_cases hk : kind = 3
  · rw [if_pos hk] at h7
    rw [if_pos hk]
    subst hk
    by_cases he : keep = []
    · subst he
      rw [if_pos rfl]
      simp only [List.append_nil, List.cons_append, List.nil_append]
      rw [goC_line (by simp) (by decide) (by decide) (by decide) (set_job h3.1 h3.2)]
      rw [goC_line (by simp) (by decide) (by decide) (by decide) (set_cap h6.1 h6.2)]
      rw [goC_line (by simp) (by decide) (by decide) (by decide) (set_size h4.1 h4.2)]
      rw [goC_line (by simp) (by decide) (by decide) (by decide) (set_support rfl h7.1 h7.2)]
      rw [goC_line (by simp) (by decide) (by decide) (by decide) (set_workers h5.1 h5.2)]
      rw [goC, if_pos rfl]
      unfold endC
      rw [if_neg (by simp only; decide)]
      rfl
    · rw [if_neg he]
      simp only [List.append_nil, List.cons_append, List.nil_append]
      rw [goC_line (by simp) (by decide) (by decide) (by decide) (set_job h3.1 h3.2)]
      rw [goC_line (by simp) (by decide) (by decide) (by decide) (set_cap h6.1 h6.2)]
      rw [goC_line (by simp) (by decide) (by decide) (by decide) (set_size h4.1 h4.2)]
      rw [goC_line (by simp) (by decide) (by decide) (by decide) (set_support rfl h7.1 h7.2)]
      rw [goC_line (by simp) (by decide) (by decide) (by decide) (set_keep h1 he h2)]
      rw [goC_line (by simp) (by decide) (by decide) (by decide) (set_workers h5.1 h5.2)]
      rw [goC, if_pos rfl]
      unfold endC
      rw [if_neg (by simp only; decide)]
  · rw [if_neg hk] at h7
    rw [if_neg hk]
    subst h7
    by_cases he : keep = []
    · subst he
      rw [if_pos rfl]
      simp only [List.append_nil, List.cons_append, List.nil_append]
      rw [goC_line (by simp) (by decide) (by decide) (by decide) (set_job h3.1 h3.2)]
      rw [goC_line (by simp) (by decide) (by decide) (by decide) (set_cap h6.1 h6.2)]
      rw [goC_line (by simp) (by decide) (by decide) (by decide) (set_size h4.1 h4.2)]
      rw [goC_line (by simp) (by decide) (by decide) (by decide) (set_workers h5.1 h5.2)]
      rw [goC, if_pos rfl]
      unfold endC
      rw [if_neg (fun e => e.elim (fun e => e (by decide)) fun e => hk e.1)]
      rfl
    · rw [if_neg he]
      simp only [List.append_nil, List.cons_append, List.nil_append]
      rw [goC_line (by simp) (by decide) (by decide) (by decide) (set_job h3.1 h3.2)]
      rw [goC_line (by simp) (by decide) (by decide) (by decide) (set_cap h6.1 h6.2)]
      rw [goC_line (by simp) (by decide) (by decide) (by decide) (set_size h4.1 h4.2)]
      rw [goC_line (by simp) (by decide) (by decide) (by decide) (set_keep h1 he h2)]
      rw [goC_line (by simp) (by decide) (by decide) (by decide) (set_workers h5.1 h5.2)]
      rw [goC, if_pos rfl]
      unfold endC
      rw [if_neg (fun e => e.elim (fun e => e (by decide)) fun e => hk e.1)]
      rfl
/-- The first line alone. -/
theorem parse_first {c : CF} (h : rightC c) : ∃ w, parseC (tellL [lineW wJob (jobL c.kind)]) = .bad 1 w := by
  have h3 := h.2.2.1
  unfold parseC
  rw [tell_nil _ (fun l hl => by rw [List.mem_singleton.1 hl]; exact line_no (by decide) (job_name h3.1 h3.2).2.1), List.cons_append, List.nil_append, goC_line (by simp) (by decide) (by decide) (by decide) (set_job h3.1 h3.2), goC, if_pos rfl]
  unfold endC
  rw [if_pos (.inl (by decide))]
  exact ⟨_, rfl⟩
/-- How many lines a text has. -/
theorem split_len (c : UInt8) : ∀ s : List UInt8, (split1 c s).length = s.count c + 1
  | [] => rfl
  | b :: l => by
    have ih := split_len c l
    unfold split1
    by_cases hb : b = c
    · rw [if_pos hb, List.length_cons, ih, hb, List.count_cons_self]
    · rw [if_neg hb, List.count_cons_of_ne hb]
      cases hs : split1 c l with
      | nil => exact absurd hs (split1_ne c l)
      | cons x r =>
        rw [hs] at ih
        exact ih
end Go.Proofs.YtbbmgcdocolakaaGreatDoor.Cf
