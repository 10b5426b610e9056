/-
  Part 13 of the proof of LoadBytes: ProgP, PgA, ConfP.
-/
import Derived.Test.YtbbmgcdocolakaaGreatDoorLoadBytesM4
import Derived.Lib.SlicesS
import Derived.BigQuiet
import Derived.Test.YtbbmgcdocolakaaGreatDoorLoadBytesM3
set_option linter.unusedVariables false
/-
  Programs of tests plainly: their texts, there and back.
-/
namespace Go.Proofs.YtbbmgcdocolakaaGreatDoor.Pg
open Go Go.Proofs.YtbbmgcdocolakaaGreatDoor.Tx
set_option linter.unusedVariables false

def namesL : List (List UInt8) := [[99, 108, 105, 113, 117, 101], [108, 97, 98, 101, 108, 115], [100, 101, 103, 114, 101, 101], [115, 105, 122, 101], [101, 100, 103, 101, 115], [117, 110, 108, 105, 107, 101], [111, 110, 108, 121], [102, 114, 101, 101]]
def namesB : List ByteArray := namesL.map fun l => ⟨l.toArray⟩
/-- The name of a kind. -/
def nameL (k : Int) : List UInt8 := if 1 ≤ k ∧ k ≤ 8 then namesL.getD (k.toNat - 1) [] else []
/-- The kind of a name. -/
def idxL (l : List UInt8) : List (List UInt8) → Nat → Int
  | [], _ => 0
  | x :: r, i => if x = l then ((i + 1 : Nat) : Int) else idxL l r (i + 1)
def kindZ (l : List UInt8) : Int := idxL l namesL 0
theorem ba_eq {l m : List UInt8} : (⟨l.toArray⟩ : ByteArray) = ⟨m.toArray⟩ ↔ l = m := by
  constructor
  · intro h
    have := congrArg (·.data.toList) h
    simpa using this
  · intro h; rw [h]
theorem idx_eq (l : List UInt8) : ∀ (r : List (List UInt8)) (i : Nat), (∀ x ∈ r, x ≠ l) → idxL l r i = 0
  | [], _, _ => rfl
  | x :: r, i, h => by
    rw [idxL, if_neg (h x (List.mem_cons_self ..)), idx_eq l r (i + 1) fun y hy => h y (List.mem_cons_of_mem _ hy)]
theorem idxFromS_idxL (l : List UInt8) : ∀ (r : List (List UInt8)) (i : Nat), Lib.idxFromS (r.map fun l => ⟨l.toArray⟩) ⟨l.toArray⟩ i + 1 = idxL l r i
  | [], _ => rfl
  | x :: r, i => by
    have ih := idxFromS_idxL l r (i + 1)
    rw [List.map_cons, idxL]
    unfold Lib.idxFromS
    by_cases h : x = l
    · rw [if_pos (by rw [h]), if_pos h]
      omega
    · rw [if_neg (fun e => h (ba_eq.1 e)), if_neg h, ih]
theorem kind_idx (l : List UInt8) : Lib.idxOfS namesB ⟨l.toArray⟩ + 1 = kindZ l := idxFromS_idxL l namesL 0
theorem idxL_some (l : List UInt8) : ∀ (r : List (List UInt8)) (i : Nat), idxL l r i = 0 ∨ ∃ j, j < r.length ∧ idxL l r i = ((i + j + 1 : Nat) : Int) ∧ r.getD j [] = l
  | [], _ => .inl rfl
  | x :: r, i => by
    rw [idxL]
    by_cases h : x = l
    · rw [if_pos h]
      exact .inr ⟨0, by simp, rfl, h⟩
    · rw [if_neg h]
      rcases idxL_some l r (i + 1) with h1 | ⟨j, h1, h2, h3⟩
      · exact .inl h1
      · exact .inr ⟨j + 1, by simpa using h1, by rw [h2]; congr 1; omega, by simpa using h3⟩
theorem kind_cases (l : List UInt8) : kindZ l = 0 ∨ (1 ≤ kindZ l ∧ kindZ l ≤ 8 ∧ nameL (kindZ l) = l) := by
  rcases idxL_some l namesL 0 with h | ⟨j, h1, h2, h3⟩
  · exact .inl h
  · right
    have hl : namesL.length = 8 := rfl
    have e : kindZ l = ((0 + j + 1 : Nat) : Int) := h2
    refine ⟨by omega, by omega, ?_⟩
    unfold nameL
    rw [if_pos (by omega), e, show ((0 + j + 1 : Nat) : Int).toNat - 1 = j by omega, h3]
theorem nat8 {P : Int → Prop} (h : P 1 ∧ P 2 ∧ P 3 ∧ P 4 ∧ P 5 ∧ P 6 ∧ P 7 ∧ P 8) {k : Int} (h1 : 1 ≤ k) (h8 : k ≤ 8) : P k := by
  obtain ⟨p1, p2, p3, p4, p5, p6, p7, p8⟩ := h
  rcases (show k = 1 ∨ k = 2 ∨ k = 3 ∨ k = 4 ∨ k = 5 ∨ k = 6 ∨ k = 7 ∨ k = 8 by omega) with rfl | rfl | rfl | rfl | rfl | rfl | rfl | rfl <;> assumption
theorem kind_name {k : Int} (h1 : 1 ≤ k) (h8 : k ≤ 8) : kindZ (nameL k) = k :=
  nat8 (P := fun k => kindZ (nameL k) = k) ⟨by decide, by decide, by decide, by decide, by decide, by decide, by decide, by decide⟩ h1 h8
theorem name_ne {k : Int} (h1 : 1 ≤ k) (h8 : k ≤ 8) : nameL k ≠ [] ∧ 32 ∉ nameL k ∧ 59 ∉ nameL k ∧ 10 ∉ nameL k ∧ (nameL k).length ≤ 6 :=
  nat8 (P := fun k => nameL k ≠ [] ∧ 32 ∉ nameL k ∧ 59 ∉ nameL k ∧ 10 ∉ nameL k ∧ (nameL k).length ≤ 6) ⟨by decide, by decide, by decide, by decide, by decide, by decide, by decide, by decide⟩ h1 h8
theorem name_out {k : Int} (h : ¬ (1 ≤ k ∧ k ≤ 8)) : nameL k = [] := if_neg h
/-- Does a kind take a number? -/
def takesZ (k : Int) : Bool := !(decide (k = 1) || decide (k = 6) || decide (k = 8))
/-- A test that may be. -/
def opOK (o : Int × Int) : Prop := (1 ≤ o.1 ∧ o.1 ≤ 8) ∧ (0 ≤ o.2 ∧ o.2 ≤ 255) ∧ (takesZ o.1 = false → o.2 = 0)
instance (o : Int × Int) : Decidable (opOK o) := by unfold opOK; exact inferInstance
def rightG (p : List (Int × Int)) : Prop := p.length ≤ 16 ∧ ∀ o ∈ p, opOK o
instance (p : List (Int × Int)) : Decidable (rightG p) := by unfold rightG; exact inferInstance
/-- A test's text. -/
def opL (o : Int × Int) : List UInt8 := nameL o.1 ++ if takesZ o.1 = true then 32 :: Lib.itoa o.2 else []
def textG (p : List (Int × Int)) : List UInt8 := Lib.join (p.map opL) [59]
/-- A number's digits, at most so many, and no others than the number's own. -/
def numP (d : Nat) (s : List UInt8) : Option Int :=
  match Lib.atoiAll s with
  | .ok v => if s.length ≤ d ∧ Lib.itoa v = s ∧ 0 ≤ v then some v else none
  | _ => none
def testP (x : List UInt8) : Option (Int × Int) :=
  if kindZ (cut1 32 x).1 = 0 ∨ (cut1 32 x).2.2 ≠ takesZ (kindZ (cut1 32 x).1) then none
  else if (cut1 32 x).2.2 = true then (numP 6 (cut1 32 x).2.1).map fun v => (kindZ (cut1 32 x).1, v) else some (kindZ (cut1 32 x).1, 0)
def testsP : List (List UInt8) → Option (List (Int × Int))
  | [] => some []
  | x :: r => match testP x with
    | none => none
    | some o => (testsP r).map (o :: ·)
def parseG (s : List UInt8) : Option (List (Int × Int)) :=
  if s = [] then some [] else match testsP (split1 59 s) with
    | none => none
    | some p => if rightG p then some p else none
theorem numP_dec {d u : Nat} (hu : u ≤ 9223372036854775807) (hd : (Lib.decDigits u).length ≤ d) : numP d (Lib.decDigits u) = some (u : Int) := by
  unfold numP
  rw [atoi_dec hu]
  simp only
  rw [if_pos ⟨hd, itoa_nat u, by omega⟩]
theorem numP_some {d : Nat} {s : List UInt8} {v : Int} (h : numP d s = some v) : 0 ≤ v ∧ s = Lib.decDigits v.toNat ∧ s.length ≤ d := by
  unfold numP at h
  split at h
  · split at h
    · rename_i h1
      injection h with h
      subst h
      obtain ⟨h1, h2, h3⟩ := h1
      refine ⟨h3, ?_, h1⟩
      rw [← h2]
      unfold Lib.itoa
      rw [if_neg (by omega)]
    · cases h
  · cases h
theorem testP_of {x nm n : List UInt8} {has : Bool} (h : cut1 32 x = (nm, n, has)) : testP x = if kindZ nm = 0 ∨ has ≠ takesZ (kindZ nm) then none else if has = true then (numP 6 n).map fun v => (kindZ nm, v) else some (kindZ nm, 0) := by
  unfold testP
  rw [h]
theorem testP_opL {o : Int × Int} (h : opOK o) : testP (opL o) = some o := by
  obtain ⟨⟨h1, h8⟩, ⟨h0, h255⟩, hz⟩ := h
  obtain ⟨n1, n2, n3, n4, n5⟩ := name_ne h1 h8
  have hk := kind_name h1 h8
  cases ht : takesZ o.1 with
  | true =>
    have hc : cut1 32 (opL o) = (nameL o.1, Lib.itoa o.2, true) := by
      unfold opL
      rw [if_pos ht]
      exact cut1_app _ n2
    have hi : Lib.itoa o.2 = Lib.decDigits o.2.toNat := by unfold Lib.itoa; rw [if_neg (by omega)]
    rw [testP_of hc, hk, ht, if_neg (fun e => e.elim (fun e => by omega) (fun e => e rfl)), if_pos rfl, hi, numP_dec (by omega) ((dec_len_lt 6 _ (by omega)).2 (by omega))]
    show some (o.1, ((o.2.toNat : Nat) : Int)) = some o
    congr 1
    exact Prod.ext rfl (by simp only; omega)
  | false =>
    have hc : cut1 32 (opL o) = (nameL o.1, [], false) := by
      unfold opL
      rw [if_neg (by rw [ht]; decide), List.append_nil]
      exact cut1_none n2
    rw [testP_of hc, hk, ht, if_neg (fun e => e.elim (fun e => by omega) (fun e => e rfl)), if_neg (by decide)]
    congr 1
    exact Prod.ext rfl (hz ht).symm
theorem testP_some {x : List UInt8} {o : Int × Int} (h : testP x = some o) : opL o = x ∧ (1 ≤ o.1 ∧ o.1 ≤ 8) ∧ 0 ≤ o.2 ∧ o.2 < 1000000 ∧ (takesZ o.1 = false → o.2 = 0) := by
  obtain ⟨nm, n, has, hc⟩ : ∃ nm n has, cut1 32 x = (nm, n, has) := ⟨_, _, _, rfl⟩
  rw [testP_of hc] at h
  split at h
  · cases h
  · rename_i hn
    have hk : kindZ nm ≠ 0 := fun e => hn (.inl e)
    have ht : has = takesZ (kindZ nm) := Decidable.byContradiction fun e => hn (.inr e)
    obtain ⟨k1, k8, knm⟩ := (kind_cases nm).resolve_left hk
    clear hn hk
    rcases cut1_cases 32 x with ⟨hx, hc2⟩ | ⟨a, b, hx, ha, hc2⟩
    · rw [hc] at hc2
      obtain ⟨rfl, rfl, rfl⟩ : nm = x ∧ n = [] ∧ has = false := by simpa using hc2
      rw [if_neg (by decide)] at h
      injection h with h
      subst h
      refine ⟨?_, ⟨k1, k8⟩, Int.le_refl _, (by simp only; omega), fun _ => rfl⟩
      unfold opL
      simp only
      rw [← ht, if_neg (by decide), List.append_nil, knm]
    · rw [hc] at hc2
      obtain ⟨rfl, rfl, rfl⟩ : nm = a ∧ n = b ∧ has = true := by simpa using hc2
      rw [if_pos rfl] at h
      cases hv : numP 6 n with
      | none => rw [hv] at h; cases h
      | some v =>
        rw [hv] at h
        simp only [Option.map_some] at h
        injection h with h
        subst h
        obtain ⟨v0, hb, hl⟩ := numP_some hv
        rw [hb] at hl
        have hlt := (dec_len_lt 6 v.toNat (by omega)).1 hl
        refine ⟨?_, ⟨k1, k8⟩, v0, by simp only; omega, fun e => by simp only at e; rw [← ht] at e; cases e⟩
        unfold opL
        simp only
        rw [← ht, if_pos rfl, knm, hx]
        congr 2
        unfold Lib.itoa
        rw [if_neg (by omega), hb]
theorem testsP_map : ∀ {p : List (Int × Int)}, (∀ o ∈ p, opOK o) → testsP (p.map opL) = some p
  | [], _ => rfl
  | o :: p, h => by
    rw [List.map_cons, testsP, testP_opL (h o (List.mem_cons_self ..)), testsP_map fun x hx => h x (List.mem_cons_of_mem _ hx)]
    rfl
theorem testsP_some : ∀ {l : List (List UInt8)} {p : List (Int × Int)}, testsP l = some p → p.map opL = l
  | [], p, h => by
    injection h with h
    rw [← h]; rfl
  | x :: r, p, h => by
    rw [testsP] at h
    cases ht : testP x with
    | none => rw [ht] at h; cases h
    | some o =>
      rw [ht] at h
      simp only at h
      cases hr : testsP r with
      | none => rw [hr] at h; cases h
      | some q =>
        rw [hr] at h
        injection h with h
        rw [← h, List.map_cons, (testP_some ht).1, testsP_some hr]
theorem dec_no {b : UInt8} (hb : b.toNat < 48 ∨ 57 < b.toNat) (u : Nat) : b ∉ Lib.decDigits u := fun h => by have := dec_digit u b h; omega
theorem opL_no {o : Int × Int} (h1 : 1 ≤ o.1 ∧ o.1 ≤ 8) (h0 : 0 ≤ o.2) : 59 ∉ opL o ∧ 10 ∉ opL o ∧ opL o ≠ [] := by
  obtain ⟨n1, n2, n3, n4, n5⟩ := name_ne h1.1 h1.2
  have hi : Lib.itoa o.2 = Lib.decDigits o.2.toNat := by unfold Lib.itoa; rw [if_neg (by omega)]
  unfold opL
  rw [hi]
  refine ⟨fun h => ?_, fun h => ?_, fun h => n1 (List.append_eq_nil_iff.1 h).1⟩
  · rcases List.mem_append.1 h with h | h
    · exact n3 h
    · split at h
      · rcases List.mem_cons.1 h with h | h
        · cases h
        · exact dec_no (.inr (by decide)) _ h
      · cases h
  · rcases List.mem_append.1 h with h | h
    · exact n4 h
    · split at h
      · rcases List.mem_cons.1 h with h | h
        · cases h
        · exact dec_no (.inl (by decide)) _ h
      · cases h
/-- The text of a program that is right is parsed as it. -/
theorem parse_text {p : List (Int × Int)} (h : rightG p) : parseG (textG p) = some p := by
  rcases p with _ | ⟨o, p⟩
  · rfl
  · have hno : ∀ y ∈ (o :: p).map opL, (59 : UInt8) ∉ y := fun y hy => by
      obtain ⟨z, hz, rfl⟩ := List.mem_map.1 hy
      have := h.2 z hz
      exact (opL_no this.1 this.2.1.1).1
    have hs : split1 59 (textG (o :: p)) = (o :: p).map opL := by
      unfold textG
      rw [List.map_cons] at hno ⊢
      exact split_join 59 _ _ (hno _ (List.mem_cons_self ..)) fun y hy => hno y (List.mem_cons_of_mem _ hy)
    have hne : textG (o :: p) ≠ [] := fun e => by
      rw [e] at hs
      have h2 := (opL_no (h.2 o (List.mem_cons_self ..)).1 (h.2 o (List.mem_cons_self ..)).2.1.1).2.2
      rw [List.map_cons] at hs
      injection hs with hs _
      exact h2 hs.symm
    unfold parseG
    rw [if_neg hne, hs, testsP_map h.2]
    simp only
    rw [if_pos h]
/-- What is parsed is right, and has just the text. -/
theorem parse_some {s : List UInt8} {p : List (Int × Int)} (h : parseG s = some p) : textG p = s ∧ rightG p := by
  unfold parseG at h
  split at h
  · rename_i hs
    injection h with h
    rw [← h, hs]
    exact ⟨rfl, by decide, fun o ho => by cases ho⟩
  · split at h
    · cases h
    · rename_i q hq
      split at h
      · rename_i hr
        injection h with h
        subst h
        refine ⟨?_, hr⟩
        unfold textG
        rw [testsP_some hq, join_split]
      · cases h
end Go.Proofs.YtbbmgcdocolakaaGreatDoor.Pg
/-
  Programs of tests: walks of names, Name, Kind, takes, right, Right.
-/
namespace Go.Proofs.YtbbmgcdocolakaaGreatDoor
open Go.RowKit Go.Proofs.YtbbmgcdocolakaaGreatDoor.Pg
attribute [local go_sem ↓] Go.wp_at_zero Go.wp_at_succ
set_option maxRecDepth 100000
set_option linter.unusedVariables false

theorem kind_bounds (l : List UInt8) : 0 ≤ kindZ l ∧ kindZ l ≤ 8 := by
  rcases kind_cases l with h | ⟨h1, h2, _⟩ <;> omega
/-- What right answers. -/
def OpRes (o : Int × Int) (w : World) (e : Ending) (w' : World) : Prop :=
  (opOK o ∧ e = .returned .nilIface ∧ Below w.heap.size w w') ∨ (¬ opOK o ∧ ∃ (c a : Int) (s : ByteArray) (g : Nat), e = .returned (.iface 78 (.pointer (some ⟨g, 0, none⟩))) ∧ (Err.flt c a s).At w' (.iface 78 (.pointer (some ⟨g, 0, none⟩))) ∧ Below w.heap.size w w' ∧ (c = 1 ∨ c = 3 ∨ c = 6))
theorem bz_empty (l : List UInt8) : (bz l).toList.isEmpty = l.isEmpty := by rw [Lib.toList_data]
theorem bz_toList (l : List UInt8) : (bz l).toList = l := by rw [Lib.toList_data]
/-- What Right answers. -/
def ProgRes (p : List (Int × Int)) (w : World) (e : Ending) (w' : World) : Prop :=
  (rightG p ∧ e = .returned .nilIface ∧ Below w.heap.size w w') ∨ (¬ rightG p ∧ ∃ (c a : Int) (s : ByteArray) (g : Nat), e = .returned (.iface 78 (.pointer (some ⟨g, 0, none⟩))) ∧ (Err.flt c a s).At w' (.iface 78 (.pointer (some ⟨g, 0, none⟩))) ∧ Below w.heap.size w w' ∧ (c = 1 ∨ c = 3 ∨ c = 6))
end Go.Proofs.YtbbmgcdocolakaaGreatDoor
/-
  Jobs' texts plainly: line by line, there and back.
-/
namespace Go.Proofs.YtbbmgcdocolakaaGreatDoor.Cf
open Go Go.Proofs.YtbbmgcdocolakaaGreatDoor.Tx Go.Proofs.YtbbmgcdocolakaaGreatDoor.Pg
set_option linter.unusedVariables false

abbrev wJob : List UInt8 := [106, 111, 98]
abbrev wKeep : List UInt8 := [107, 101, 101, 112]
abbrev wSupport : List UInt8 := [115, 117, 112, 112, 111, 114, 116]
abbrev wSize : List UInt8 := [115, 105, 122, 101]
abbrev wWorkers : List UInt8 := [119, 111, 114, 107, 101, 114, 115]
abbrev wCap : List UInt8 := [99, 97, 112]
abbrev wMissing : List UInt8 := [109, 105, 115, 115, 105, 110, 103]
def jobsL : List (List UInt8) := [[109, 111, 116, 105, 102, 115], [99, 108, 105, 113, 117, 101, 115], [102, 115, 109]]
/-- What is asked. -/
structure CF where
  kind : Int
  size : Int
  sup : Int
  wk : Int
  cap : Int
  keep : List (Int × Int)
def CF.start : CF := ⟨0, 0, 0, 1, 1000000, []⟩
def jobZ (l : List UInt8) : Int := idxL l jobsL 0
def jobL (k : Int) : List UInt8 := if 1 ≤ k ∧ k ≤ 3 then jobsL.getD (k.toNat - 1) [] else []
/-- A number from 1 to some. -/
def numC (most : Int) (s : List UInt8) : Option Int := match numP 7 s with
  | none => none
  | some v => if 1 ≤ v ∧ v ≤ most then some v else none
def setC (c : CF) (word text : List UInt8) : Option CF :=
  if word = wJob then (if 0 < jobZ text then some { c with kind := jobZ text } else none)
  else if word = wKeep then match parseG text with
    | none => none
    | some p => if 1 ≤ p.length ∧ p.length ≤ 15 then some { c with keep := p } else none
  else if word = wSupport then (if c.kind = 3 then (numC 1000000 text).map fun v => { c with sup := v } else none)
  else if word = wSize then (numC 8 text).map fun v => { c with size := v }
  else if word = wWorkers then (numC 64 text).map fun v => { c with wk := v }
  else if word = wCap then (numC 1000000 text).map fun v => { c with cap := v }
  else none
inductive Res where
  | ok (c : CF)
  | bad (n : Nat) (w : List UInt8)
/-- A line that can be: the word, and what is asked behind it. -/
def lineC (c : CF) (seen : List (List UInt8)) (n : Nat) (x : List UInt8) : Option CF :=
  if (cut1 32 x).2.2 = false ∨ (cut1 32 x).1 ∈ seen ∨ (n ≠ 0 ↔ (cut1 32 x).1 = wJob) then none else setC c (cut1 32 x).1 (cut1 32 x).2.1
def endC (c : CF) (seen : List (List UInt8)) (n : Nat) : Res := if wSize ∉ seen ∨ (c.kind = 3 ∧ wSupport ∉ seen) then .bad n wMissing else .ok c
def goC : List (List UInt8) → CF → List (List UInt8) → Nat → Res
  | [], _, _, n => .bad n []
  | [x], c, seen, n => if x = [] then endC c seen n else .bad n (cut1 32 x).1
  | x :: y :: r, c, seen, n => match lineC c seen n x with
    | none => .bad n (cut1 32 x).1
    | some c' => goC (y :: r) c' ((cut1 32 x).1 :: seen) (n + 1)
def parseC (s : List UInt8) : Res := goC (split1 10 s) .start [] 0
/-- May it be? -/
def rightC (c : CF) : Prop := rightG c.keep ∧ c.keep.length ≤ 15 ∧ (1 ≤ c.kind ∧ c.kind ≤ 3) ∧ (1 ≤ c.size ∧ c.size ≤ 8) ∧ (1 ≤ c.wk ∧ c.wk ≤ 64) ∧ (1 ≤ c.cap ∧ c.cap ≤ 1000000) ∧ (if c.kind = 3 then 1 ≤ c.sup ∧ c.sup ≤ 1000000 else c.sup = 0)
instance (c : CF) : Decidable (rightC c) := by unfold rightC; exact inferInstance
theorem goC_step {x : List UInt8} {r : List (List UInt8)} {c c' : CF} {seen : List (List UInt8)} {n : Nat} (hr : r ≠ []) (h : lineC c seen n x = some c') : goC (x :: r) c seen n = goC r c' ((cut1 32 x).1 :: seen) (n + 1) := by
  cases r with
  | nil => exact absurd rfl hr
  | cons y r => rw [goC, h]
theorem goC_fail {x : List UInt8} {r : List (List UInt8)} {c : CF} {seen : List (List UInt8)} {n : Nat} (hr : r ≠ []) (h : lineC c seen n x = none) : goC (x :: r) c seen n = .bad n (cut1 32 x).1 := by
  cases r with
  | nil => exact absurd rfl hr
  | cons y r => rw [goC, h]
theorem numC_some {m : Int} {s : List UInt8} {v : Int} (h : numC m s = some v) : 1 ≤ v ∧ v ≤ m ∧ s = Lib.decDigits v.toNat := by
  unfold numC at h
  cases hv : numP 7 s with
  | none => rw [hv] at h; cases h
  | some u =>
    rw [hv] at h
    simp only at h
    split at h
    · rename_i h1
      injection h with h
      subst h
      exact ⟨h1.1, h1.2, (numP_some hv).2.1⟩
    · cases h
theorem numC_dec {m : Int} {v : Nat} (h1 : 1 ≤ v) (hm : (v : Int) ≤ m) (h7 : m ≤ 1000000) : numC m (Lib.decDigits v) = some (v : Int) := by
  unfold numC
  rw [numP_dec (by omega) ((dec_len_lt 7 v (by omega)).2 (by omega))]
  simp only
  rw [if_pos ⟨by omega, hm⟩]
theorem numC_itoa {m v : Int} (h1 : 1 ≤ v) (hm : v ≤ m) (h7 : m ≤ 1000000) : numC m (Lib.itoa v) = some v := by
  have e : v = ((v.toNat : Nat) : Int) := by omega
  rw [e, itoa_nat]
  exact numC_dec (by omega) (by omega) h7
/-- What is so far. -/
structure Inv (c : CF) (seen : List (List UInt8)) (n : Nat) : Prop where
  first : n = 0 → seen = [] ∧ c = .start
  kind : 0 < n → 1 ≤ c.kind ∧ c.kind ≤ 3
  size : wSize ∈ seen → 1 ≤ c.size ∧ c.size ≤ 8
  sup : wSupport ∈ seen → c.kind = 3 ∧ 1 ≤ c.sup ∧ c.sup ≤ 1000000
  nosup : wSupport ∉ seen → c.sup = 0
  job : 0 < n → wJob ∈ seen
  wk : 1 ≤ c.wk ∧ c.wk ≤ 64
  cap : 1 ≤ c.cap ∧ c.cap ≤ 1000000
  keep : rightG c.keep ∧ c.keep.length ≤ 15
theorem Inv.start : Inv .start [] 0 :=
  ⟨fun _ => ⟨rfl, rfl⟩, fun h => by omega, fun h => by simp at h, fun h => by simp at h, fun _ => rfl, fun h => by omega, by decide, by decide, ⟨by decide, fun o ho => by simp [CF.start] at ho⟩, by decide⟩
theorem job_cases (l : List UInt8) : jobZ l = 0 ∨ (1 ≤ jobZ l ∧ jobZ l ≤ 3 ∧ jobL (jobZ l) = l) := by
  rcases idxL_some l jobsL 0 with h | ⟨j, h1, h2, h3⟩
  · exact .inl h
  · right
    have hl : jobsL.length = 3 := rfl
    have e : jobZ l = ((0 + j + 1 : Nat) : Int) := h2
    refine ⟨by omega, by omega, ?_⟩
    unfold jobL
    rw [if_pos (by omega), e, show ((0 + j + 1 : Nat) : Int).toNat - 1 = j by omega, h3]
theorem lineC_inv {c c' : CF} {seen : List (List UInt8)} {n : Nat} {x : List UInt8} (hi : Inv c seen n) (h : lineC c seen n x = some c') : Inv c' ((cut1 32 x).1 :: seen) (n + 1) := by
  unfold lineC at h
  split at h
  · cases h
  · rename_i hn
    have hns : (cut1 32 x).1 ∉ seen := fun e => hn (.inr (.inl e))
    have hj : ¬ (n ≠ 0 ↔ (cut1 32 x).1 = wJob) := fun e => hn (.inr (.inr e))
    generalize (cut1 32 x).1 = w at h hns hj ⊢
    generalize (cut1 32 x).2.1 = t at h
    clear hn
    unfold setC at h
    have hmem : ∀ (u : List UInt8), w ≠ u → (u ∈ w :: seen ↔ u ∈ seen) := fun u hu => by
      rw [List.mem_cons]
      exact ⟨fun h => h.resolve_left fun e => hu e.symm, .inr⟩
    by_cases h1 : w = wJob
    · rw [if_pos h1] at h
      split at h
      · rename_i hp
        injection h with h
        subst h
        subst h1
        have hn0 : n = 0 := Decidable.byContradiction fun e => hj ⟨fun _ => rfl, fun _ => e⟩
        obtain ⟨rfl, rfl⟩ := hi.first hn0
        obtain ⟨j1, j2, _⟩ := (job_cases t).resolve_left (by omega)
        exact ⟨fun e => by omega, fun _ => ⟨j1, j2⟩, fun e => by simp at e, fun e => by simp at e, fun _ => rfl, fun _ => List.mem_cons_self .., (show (1 : Int) ≤ 1 ∧ (1 : Int) ≤ 64 by decide), (show (1 : Int) ≤ 1000000 ∧ (1000000 : Int) ≤ 1000000 by decide), hi.keep⟩
      · cases h
    · rw [if_neg h1] at h
      have hn0 : 0 < n := Nat.pos_of_ne_zero fun e => hj ⟨fun k => absurd e k, fun k => absurd k h1⟩
      have hjb : 0 < n + 1 → wJob ∈ w :: seen := fun _ => List.mem_cons_of_mem _ (hi.job hn0)
      by_cases h2 : w = wKeep
      · rw [if_pos h2] at h
        subst h2
        have m1 := hmem wSize (by decide)
        have m2 := hmem wSupport (by decide)
        cases hp : parseG t with
        | none => rw [hp] at h; cases h
        | some p =>
          rw [hp] at h
          simp only at h
          split at h
          · rename_i hl
            injection h with h
            subst h
            exact ⟨fun e => absurd e (Nat.succ_ne_zero n), fun _ => hi.kind hn0, fun e => hi.size (m1.1 e), fun e => hi.sup (m2.1 e), fun e => hi.nosup fun k => e (m2.2 k), hjb, hi.wk, hi.cap, (parse_some hp).2, hl.2⟩
          · cases h
      · rw [if_neg h2] at h
        by_cases h3 : w = wSupport
        · rw [if_pos h3] at h
          subst h3
          have m1 := hmem wSize (by decide)
          split at h
          · rename_i hk
            cases hv : numC 1000000 t with
            | none => rw [hv] at h; cases h
            | some v =>
              rw [hv] at h
              injection h with h
              subst h
              obtain ⟨v1, v2, _⟩ := numC_some hv
              exact ⟨fun e => absurd e (Nat.succ_ne_zero n), fun _ => hi.kind hn0, fun e => hi.size (m1.1 e), fun _ => ⟨hk, v1, v2⟩, fun e => absurd (List.mem_cons_self ..) e, hjb, hi.wk, hi.cap, hi.keep⟩
          · cases h
        · rw [if_neg h3] at h
          have m2 := hmem wSupport h3
          by_cases h4 : w = wSize
          · rw [if_pos h4] at h
            cases hv : numC 8 t with
            | none => rw [hv] at h; cases h
            | some v =>
              rw [hv] at h
              injection h with h
              subst h
              obtain ⟨v1, v2, _⟩ := numC_some hv
              exact ⟨fun e => absurd e (Nat.succ_ne_zero n), fun _ => hi.kind hn0, fun _ => ⟨v1, v2⟩, fun e => hi.sup (m2.1 e), fun e => hi.nosup fun k => e (m2.2 k), hjb, hi.wk, hi.cap, hi.keep⟩
          · rw [if_neg h4] at h
            have m1 := hmem wSize h4
            by_cases h5 : w = wWorkers
            · rw [if_pos h5] at h
              cases hv : numC 64 t with
              | none => rw [hv] at h; cases h
              | some v =>
                rw [hv] at h
                injection h with h
                subst h
                obtain ⟨v1, v2, _⟩ := numC_some hv
                exact ⟨fun e => absurd e (Nat.succ_ne_zero n), fun _ => hi.kind hn0, fun e => hi.size (m1.1 e), fun e => hi.sup (m2.1 e), fun e => hi.nosup fun k => e (m2.2 k), hjb, ⟨v1, v2⟩, hi.cap, hi.keep⟩
            · rw [if_neg h5] at h
              by_cases h6 : w = wCap
              · rw [if_pos h6] at h
                cases hv : numC 1000000 t with
                | none => rw [hv] at h; cases h
                | some v =>
                  rw [hv] at h
                  injection h with h
                  subst h
                  obtain ⟨v1, v2, _⟩ := numC_some hv
                  exact ⟨fun e => absurd e (Nat.succ_ne_zero n), fun _ => hi.kind hn0, fun e => hi.size (m1.1 e), fun e => hi.sup (m2.1 e), fun e => hi.nosup fun k => e (m2.2 k), hjb, hi.wk, ⟨v1, v2⟩, hi.keep⟩
              · rw [if_neg h6] at h
                cases h
theorem goC_ok : ∀ (ls : List (List UInt8)) {c d : CF} {seen : List (List UInt8)} {n : Nat}, Inv c seen n → goC ls c seen n = .ok d → rightC d
  | [], c, d, seen, n, hi, h => by cases h
  | [x], c, d, seen, n, hi, h => by
    rw [goC] at h
    split at h
    · unfold endC at h
      split at h
      · cases h
      · rename_i hn
        injection h with h
        subst h
        have hs : wSize ∈ seen := Decidable.byContradiction fun e => hn (.inl e)
        have hp : 0 < n := Nat.pos_of_ne_zero fun e => by
          obtain ⟨e1, _⟩ := hi.first e
          rw [e1] at hs
          simp at hs
        refine ⟨hi.keep.1, hi.keep.2, hi.kind hp, hi.size hs, hi.wk, hi.cap, ?_⟩
        by_cases h3 : c.kind = 3
        · rw [if_pos h3]
          exact (hi.sup (Decidable.byContradiction fun e => hn (.inr ⟨h3, e⟩))).2
        · rw [if_neg h3]
          exact hi.nosup fun e => h3 (hi.sup e).1
    · cases h
  | x :: y :: r, c, d, seen, n, hi, h => by
    rw [goC] at h
    cases hl : lineC c seen n x with
    | none => rw [hl] at h; cases h
    | some c' =>
      rw [hl] at h
      exact goC_ok (y :: r) (lineC_inv hi hl) h
/-- What is parsed is right. -/
theorem parseC_right {s : List UInt8} {c : CF} (h : parseC s = .ok c) : rightC c := goC_ok _ Inv.start h
/-- Where a fault is told: at a line that there is, or behind the last one; and what stands ahead of it has no fault but that it may end too soon. -/
theorem goC_bad : ∀ (ls : List (List UInt8)) {c : CF} {seen : List (List UInt8)} {n m : Nat} {w : List UInt8}, ls ≠ [] → goC ls c seen n = .bad m w → n ≤ m ∧ m - n + 1 ≤ ls.length ∧ ((∃ d, goC (ls.take (m - n) ++ [[]]) c seen n = .ok d) ∨ ∃ w', goC (ls.take (m - n) ++ [[]]) c seen n = .bad m w')
  | [], c, seen, n, m, w, hne, h => absurd rfl hne
  | [x], c, seen, n, m, w, _, h => by
    have hm : m = n := by
      rw [goC] at h
      split at h
      · unfold endC at h
        split at h
        · injection h with h _
          exact h.symm
        · cases h
      · injection h with h _
        exact h.symm
    subst hm
    rw [Nat.sub_self, List.take_zero, List.nil_append]
    refine ⟨Nat.le_refl _, by simp, ?_⟩
    rw [goC, if_pos rfl]
    unfold endC
    split
    · exact .inr ⟨_, rfl⟩
    · exact .inl ⟨_, rfl⟩
  | x :: y :: r, c, seen, n, m, w, _, h => by
    rw [goC] at h
    cases hl : lineC c seen n x with
    | none =>
      rw [hl] at h
      injection h with h _
      subst h
      rw [Nat.sub_self, List.take_zero, List.nil_append]
      refine ⟨Nat.le_refl _, by simp, ?_⟩
      rw [goC, if_pos rfl]
      unfold endC
      split
      · exact .inr ⟨_, rfl⟩
      · exact .inl ⟨_, rfl⟩
    | some c' =>
      rw [hl] at h
      obtain ⟨h1, h2, h3⟩ := goC_bad (y :: r) (by simp) h
      refine ⟨by omega, by simp only [List.length_cons] at h2 ⊢; omega, ?_⟩
      have e : m - n = (m - (n + 1)) + 1 := by omega
      rw [e, List.take_succ_cons, List.cons_append, goC_step (by simp) hl]
      exact h3
/-- A line: a word, and what stands behind it. -/
def lineW (w t : List UInt8) : List UInt8 := w ++ 32 :: t
/-- The lines of what is asked. -/
def linesC (c : CF) : List (List UInt8) :=
  [lineW wJob (jobL c.kind), lineW wSize (Lib.itoa c.size)] ++ (if c.kind = 3 then [lineW wSupport (Lib.itoa c.sup)] else []) ++ (if c.keep = [] then [] else [lineW wKeep (textG c.keep)]) ++ [lineW wWorkers (Lib.itoa c.wk), lineW wCap (Lib.itoa c.cap)]
/-- Lines, each with its end. -/
def tellL (ls : List (List UInt8)) : List UInt8 := ls.flatMap fun l => l ++ [10]
theorem split_tell : ∀ (ls : List (List UInt8)) (t : List UInt8), (∀ l ∈ ls, (10 : UInt8) ∉ l) → split1 10 (tellL ls ++ t) = ls ++ split1 10 t
  | [], t, _ => rfl
  | l :: ls, t, h => by
    have ih := split_tell ls t fun x hx => h x (List.mem_cons_of_mem _ hx)
    have e : tellL (l :: ls) ++ t = l ++ 10 :: (tellL ls ++ t) := by
      unfold tellL
      rw [List.flatMap_cons]
      simp
    rw [e, split1_app _ (h l (List.mem_cons_self ..)), ih, List.cons_append]
theorem lineC_of {c c' : CF} {seen : List (List UInt8)} {n : Nat} {w t : List UInt8} (hw : (32 : UInt8) ∉ w) (hs : w ∉ seen) (hn : ¬ (n ≠ 0 ↔ w = wJob)) (h : setC c w t = some c') : lineC c seen n (lineW w t) = some c' := by
  unfold lineC lineW
  rw [cut1_app t hw]
  simp only
  rw [if_neg (fun e => e.elim (fun e => by cases e) fun e => e.elim hs hn)]
  exact h
theorem word_of {w t : List UInt8} (hw : (32 : UInt8) ∉ w) : (cut1 32 (lineW w t)).1 = w := by unfold lineW; rw [cut1_app t hw]
theorem goC_line {c c' : CF} {seen : List (List UInt8)} {n : Nat} {w t : List UInt8} {r : List (List UInt8)} (hr : r ≠ []) (hw : (32 : UInt8) ∉ w) (hs : w ∉ seen) (hn : ¬ (n ≠ 0 ↔ w = wJob)) (h : setC c w t = some c') :
    goC (lineW w t :: r) c seen n = goC r c' (w :: seen) (n + 1) := by
  rw [goC_step hr (lineC_of hw hs hn h), word_of hw]
theorem job_name {k : Int} (h1 : 1 ≤ k) (h3 : k ≤ 3) : jobZ (jobL k) = k ∧ (10 : UInt8) ∉ jobL k ∧ jobL k ≠ [] ∧ (jobL k).length ≤ 7 := by
  rcases (show k = 1 ∨ k = 2 ∨ k = 3 by omega) with rfl | rfl | rfl <;> decide
theorem set_job {c : CF} {k : Int} (h1 : 1 ≤ k) (h3 : k ≤ 3) : setC c wJob (jobL k) = some { c with kind := k } := by
  unfold setC
  rw [if_pos rfl, (job_name h1 h3).1, if_pos (by omega)]
theorem set_size {c : CF} {v : Int} (h1 : 1 ≤ v) (h8 : v ≤ 8) : setC c wSize (Lib.itoa v) = some { c with size := v } := by
  unfold setC
  rw [if_neg (by decide), if_neg (by decide), if_neg (by decide), if_pos rfl, numC_itoa h1 h8 (by omega)]
  rfl
theorem set_workers {c : CF} {v : Int} (h1 : 1 ≤ v) (h8 : v ≤ 64) : setC c wWorkers (Lib.itoa v) = some { c with wk := v } := by
  unfold setC
  rw [if_neg (by decide), if_neg (by decide), if_neg (by decide), if_neg (by decide), if_pos rfl, numC_itoa h1 h8 (by omega)]
  rfl
theorem set_cap {c : CF} {v : Int} (h1 : 1 ≤ v) (h8 : v ≤ 1000000) : setC c wCap (Lib.itoa v) = some { c with cap := v } := by
  unfold setC
  rw [if_neg (by decide), if_neg (by decide), if_neg (by decide), if_neg (by decide), if_neg (by decide), if_pos rfl, numC_itoa h1 h8 (by omega)]
  rfl
theorem set_support {c : CF} {v : Int} (hk : c.kind = 3) (h1 : 1 ≤ v) (h8 : v ≤ 1000000) : setC c wSupport (Lib.itoa v) = some { c with sup := v } := by
  unfold setC
  rw [if_neg (by decide), if_neg (by decide), if_pos rfl, if_pos hk, numC_itoa h1 h8 (by omega)]
  rfl
theorem set_keep {c : CF} {p : List (Int × Int)} (hp : rightG p) (h1 : p ≠ []) (h15 : p.length ≤ 15) : setC c wKeep (textG p) = some { c with keep := p } := by
  unfold setC
  rw [if_neg (by decide), if_pos rfl, parse_text hp]
  simp only
  rw [if_pos ⟨List.length_pos_iff.2 h1, h15⟩]
end Go.Proofs.YtbbmgcdocolakaaGreatDoor.Cf
