/-
  Part 21 of the proof of ConfProgs: PatW, ConP, PatQ, TsQ.
-/
import Derived.Test.YtapledphhfiimaaGreatDoorConfProgsM20
import Derived.Test.YtapledphhfiimaaGreatDoorConfProgsM4
import Derived.BigQuiet
import Derived.Deep.RegionHeld3
import Derived.Test.YtapledphhfiimaaGreatDoorConfProgsM11
import Derived.Test.YtapledphhfiimaaGreatDoorConfProgsM18
/-
  Patterns plainly: the document's tests of an edge and the program's.
-/
namespace Go.Proofs.YtapledphhfiimaaGreatDoor
open Go.RowKit
set_option linter.unusedVariables false

theorem ordE_less (a b c d : Int) : Pt.ordE (a, b) (c, d) < 0 ↔ lessP a b c d := by
  unfold Pt.ordE Pt.or2 Pt.cmpI lessP
  simp only
  by_cases h1 : a < c
  · simp [h1]
  · by_cases h2 : c < a
    · simp [h1, h2]
      omega
    · have h3 : a = c := by omega
      by_cases h4 : b < d
      · simp [h1, h2, h3, h4]
      · by_cases h5 : d < b
        · simp [h1, h2, h3, h4, h5]
        · simp [h1, h2, h3, h4, h5]
theorem edge_out (n : Nat) (x y : Int) : Pt.EdgeOK n (x, y) ↔ ¬ outP x y n ∧ x < y := by
  unfold Pt.EdgeOK outP
  simp only
  omega
end Go.Proofs.YtapledphhfiimaaGreatDoor
/-
  Connectedness plainly: what can be come to from the first vertex; breadth first, and by bit masks.
-/
namespace Go.Proofs.YtapledphhfiimaaGreatDoor
open Go.RowKit
set_option linter.unusedVariables false

/-- What can be come to from vertex 0. -/
inductive Rch (E : List (Int × Int)) : Int → Prop
  | zero : Rch E 0
  | fwd {a b : Int} : (a, b) ∈ E → Rch E a → Rch E b
  | bwd {a b : Int} : (a, b) ∈ E → Rch E b → Rch E a
def AdjE (E : List (Int × Int)) (a b : Int) : Prop := (a, b) ∈ E ∨ (b, a) ∈ E
instance (E : List (Int × Int)) (a b : Int) : Decidable (AdjE E a b) := by unfold AdjE; exact inferInstance
theorem Rch.adj {E : List (Int × Int)} {a b : Int} (h : Rch E a) (k : AdjE E a b) : Rch E b := by
  rcases k with k | k
  · exact .fwd k h
  · exact .bwd k h
def allR (n : Nat) (E : List (Int × Int)) : Prop := ∀ v : Nat, v < n → Rch E (v : Int)
/-- A pattern is connected. -/
def connP (L : List Int) (E : List (Int × Int)) : Prop := rightP L E ∧ 0 < L.length ∧ allR L.length E
theorem sub_lenP {α : Type} : ∀ (a b : List α), a.Nodup → (∀ x ∈ a, x ∈ b) → a.length ≤ b.length
  | [], _, _, _ => Nat.zero_le _
  | x :: a, b, hn, hs => by
    obtain ⟨s, t, rfl⟩ := List.append_of_mem (hs x (List.mem_cons_self ..))
    have h1 := List.nodup_cons.1 hn
    have h2 := sub_lenP a (s ++ t) h1.2 fun y hy => by
      have h3 := hs y (List.mem_cons_of_mem _ hy)
      rcases List.mem_append.1 h3 with h | h
      · exact List.mem_append.2 (.inl h)
      · rcases List.mem_cons.1 h with h | h
        · subst h; exact absurd hy h1.1
        · exact List.mem_append.2 (.inr h)
    simp only [List.length_append, List.length_cons] at h2 ⊢
    omega
/-- Numbers below n. -/
def uptoN (n : Nat) : List Int := (List.range n).map fun i : Nat => (i : Int)
theorem uptoN_len (n : Nat) : (uptoN n).length = n := by unfold uptoN; simp
theorem uptoN_mem {n : Nat} {x : Int} : x ∈ uptoN n ↔ 0 ≤ x ∧ x < n := by
  unfold uptoN
  rw [List.mem_map]
  constructor
  · rintro ⟨i, hi, rfl⟩
    have := List.mem_range.1 hi
    omega
  · intro h
    exact ⟨x.toNat, List.mem_range.2 (by omega), by omega⟩
theorem uptoN_nodup (n : Nat) : (uptoN n).Nodup := by
  unfold uptoN
  refine List.Pairwise.map (R := fun a b => a ≠ b) _ (fun a b h e => h (by omega)) List.nodup_range
/-- What has been seen so far, breadth first: i of it have been looked at, and of the next one what stands below v. -/
structure Bfs (n : Nat) (E : List (Int × Int)) (S : List Int) (i v : Nat) : Prop where
  nd : S.Nodup
  z : (0 : Int) ∈ S
  inn : ∀ x ∈ S, 0 ≤ x ∧ x < n ∧ Rch E x
  le : i ≤ S.length
  done : ∀ k x, k < i → S[k]? = some x → ∀ u : Nat, u < n → AdjE E x u → (u : Int) ∈ S
  part : ∀ x, S[i]? = some x → ∀ u : Nat, u < v → AdjE E x u → (u : Int) ∈ S
section
variable {n i v : Nat} {E : List (Int × Int)} {S : List Int}
theorem Bfs.start (hn : 0 < n) : Bfs n E [0] 0 0 :=
  ⟨by simp, by simp, fun x hx => by obtain rfl := List.mem_singleton.1 hx; exact ⟨by omega, by omega, .zero⟩, Nat.zero_le _, fun k x h => by omega, fun x _ u h => by omega⟩
theorem Bfs.len (h : Bfs n E S i v) : S.length ≤ n := by
  have := sub_lenP S (uptoN n) h.nd fun x hx => uptoN_mem.2 ⟨(h.inn x hx).1, (h.inn x hx).2.1⟩
  rwa [uptoN_len] at this
theorem Bfs.skip (h : Bfs n E S i v) {x : Int} (hx : S[i]? = some x) (hs : AdjE E x v → (v : Int) ∈ S) : Bfs n E S i (v + 1) :=
  ⟨h.nd, h.z, h.inn, h.le, h.done, fun y hy u hu ha => by
    rw [hx] at hy; cases hy
    by_cases hv : u < v
    · exact h.part x hx u hv ha
    · obtain rfl : u = v := by omega
      exact hs ha⟩
theorem Bfs.take (h : Bfs n E S i v) {x : Int} (hx : S[i]? = some x) (ha : AdjE E x v) (hv : v < n) (hn : ¬ (v : Int) ∈ S) : Bfs n E (S ++ [(v : Int)]) i (v + 1) := by
  have hi := (List.getElem?_eq_some_iff.1 hx).1
  have hap : ∀ k, k < S.length → (S ++ [(v : Int)])[k]? = S[k]? := fun k hk => List.getElem?_append_left hk
  refine ⟨?_, List.mem_append.2 (.inl h.z), fun y hy => ?_, by rw [List.length_append]; have := h.le; omega, fun k y hk hy u hu hau => ?_, fun y hy u hu hau => ?_⟩
  · rw [List.nodup_append]
    exact ⟨h.nd, by simp, fun a ha b hb e => by obtain rfl := List.mem_singleton.1 hb; subst e; exact hn ha⟩
  · rcases List.mem_append.1 hy with hy | hy
    · exact h.inn y hy
    · obtain rfl := List.mem_singleton.1 hy
      exact ⟨by omega, by omega, (h.inn x (List.mem_of_getElem? hx)).2.2.adj ha⟩
  · rw [hap k (by have := h.le; omega)] at hy
    exact List.mem_append.2 (.inl (h.done k y hk hy u hu hau))
  · rw [hap i hi, hx] at hy; cases hy
    by_cases hv2 : u < v
    · exact List.mem_append.2 (.inl (h.part x hx u hv2 hau))
    · obtain rfl : u = v := by omega
      exact List.mem_append.2 (.inr (List.mem_singleton.2 rfl))
theorem Bfs.next (h : Bfs n E S i n) (hi : i < S.length) : Bfs n E S (i + 1) 0 :=
  ⟨h.nd, h.z, h.inn, hi, fun k y hk hy u hu ha => by
    by_cases hk2 : k < i
    · exact h.done k y hk2 hy u hu ha
    · obtain rfl : k = i := by omega
      exact h.part y hy u hu ha, fun x _ u h => by omega⟩
theorem Bfs.all (h : Bfs n E S S.length 0) (hE : ∀ e ∈ E, 0 ≤ e.1 ∧ e.1 < n ∧ 0 ≤ e.2 ∧ e.2 < n) : S.length = n ↔ allR n E := by
  have hcl : ∀ x, Rch E x → x ∈ S := fun x hx => by
    have step : ∀ a b, a ∈ S → AdjE E a b → 0 ≤ b → b < n → b ∈ S := fun a b ha hab h0 h1 => by
      obtain ⟨k, hk, hk2⟩ := List.mem_iff_getElem.1 ha
      have := h.done k a hk (by rw [List.getElem?_eq_getElem hk, hk2]) b.toNat (by omega) (by rw [Int.toNat_of_nonneg h0]; exact hab)
      rwa [Int.toNat_of_nonneg h0] at this
    induction hx with
    | zero => exact h.z
    | fwd he _ ih => exact step _ _ ih (.inl he) (hE _ he).2.2.1 (hE _ he).2.2.2
    | bwd he _ ih => exact step _ _ ih (.inr he) (hE _ he).1 (hE _ he).2.1
  constructor
  · intro hl u hu
    refine Classical.byContradiction fun hno => ?_
    have hnm : ¬ (u : Int) ∈ S := fun hm => hno (h.inn _ hm).2.2
    have := sub_lenP ((u : Int) :: S) (uptoN n) (List.nodup_cons.2 ⟨hnm, h.nd⟩) fun x hx => by
      rcases List.mem_cons.1 hx with rfl | hx
      · exact uptoN_mem.2 ⟨by omega, by omega⟩
      · exact uptoN_mem.2 ⟨(h.inn x hx).1, (h.inn x hx).2.1⟩
    rw [uptoN_len, List.length_cons] at this
    omega
  · intro ha
    have h1 := h.len
    have h2 := sub_lenP (uptoN n) S (uptoN_nodup n) fun x hx => hcl x (by
      have := uptoN_mem.1 hx
      have h3 := ha x.toNat (by omega)
      rwa [Int.toNat_of_nonneg this.1] at h3)
    rw [uptoN_len] at h2
    omega
end

/-- One edge, by bit masks. -/
def stepM (s : Nat) (e : Int × Int) : Nat := if s.testBit e.1.toNat || s.testBit e.2.toNat then s ||| (1 <<< e.1.toNat ||| 1 <<< e.2.toNat) else s
def passM (E : List (Int × Int)) (s : Nat) : Nat := E.foldl stepM s
def iterM (E : List (Int × Int)) : Nat → Nat
  | 0 => 1
  | k + 1 => passM E (iterM E k)
theorem bit_one (a i : Nat) : (1 <<< a).testBit i = decide (i = a) := by
  rw [Nat.one_shiftLeft, Nat.testBit_two_pow]
  exact decide_eq_decide.2 ⟨fun h => h.symm, fun h => h.symm⟩
theorem stepM_bit (s : Nat) (e : Int × Int) (i : Nat) : (stepM s e).testBit i = (s.testBit i || ((s.testBit e.1.toNat || s.testBit e.2.toNat) && (decide (i = e.1.toNat) || decide (i = e.2.toNat)))) := by
  unfold stepM
  split
  · rename_i h
    rw [Nat.testBit_or, Nat.testBit_or, bit_one, bit_one, h, Bool.true_and]
  · rename_i h
    rw [Bool.not_eq_true] at h
    rw [h, Bool.false_and, Bool.or_false]
theorem stepM_mono {s : Nat} {e : Int × Int} {i : Nat} (h : s.testBit i = true) : (stepM s e).testBit i = true := by rw [stepM_bit, h, Bool.true_or]
theorem passM_mono {i : Nat} : ∀ (E : List (Int × Int)) {s : Nat}, s.testBit i = true → (passM E s).testBit i = true
  | [], _, h => h
  | e :: E, _, h => passM_mono E (stepM_mono h)
theorem stepM_lt {n s : Nat} {e : Int × Int} (hs : s < 2 ^ n) (h1 : e.1.toNat < n) (h2 : e.2.toNat < n) : stepM s e < 2 ^ n := by
  unfold stepM
  split
  · refine Nat.or_lt_two_pow hs (Nat.or_lt_two_pow ?_ ?_)
    · rw [Nat.one_shiftLeft]; exact Nat.pow_lt_pow_right (by omega) h1
    · rw [Nat.one_shiftLeft]; exact Nat.pow_lt_pow_right (by omega) h2
  · exact hs
theorem passM_lt {n : Nat} : ∀ (E : List (Int × Int)) {s : Nat}, s < 2 ^ n → (∀ e ∈ E, e.1.toNat < n ∧ e.2.toNat < n) → passM E s < 2 ^ n
  | [], _, h, _ => h
  | e :: E, _, h, hE => passM_lt E (stepM_lt h (hE e (List.mem_cons_self ..)).1 (hE e (List.mem_cons_self ..)).2) fun x hx => hE x (List.mem_cons_of_mem _ hx)
theorem passM_snd {E0 : List (Int × Int)} (h0 : ∀ e ∈ E0, 0 ≤ e.1 ∧ 0 ≤ e.2) : ∀ (E : List (Int × Int)) {s : Nat}, (∀ e ∈ E, e ∈ E0) → (∀ i, s.testBit i = true → Rch E0 (i : Int)) → ∀ i, (passM E s).testBit i = true → Rch E0 (i : Int)
  | [], _, _, h => h
  | e :: E, s, hE, h => passM_snd h0 E (fun x hx => hE x (List.mem_cons_of_mem _ hx)) fun i hi => by
    rw [stepM_bit] at hi
    have he := hE e (List.mem_cons_self ..)
    have hz := h0 e he
    have e1 : ((e.1.toNat : Nat) : Int) = e.1 := Int.toNat_of_nonneg hz.1
    have e2 : ((e.2.toNat : Nat) : Int) = e.2 := Int.toNat_of_nonneg hz.2
    have hm : (e.1, e.2) ∈ E0 := he
    simp only [Bool.or_eq_true, Bool.and_eq_true, decide_eq_true_eq] at hi
    rcases hi with hi | ⟨h1, h2⟩
    · exact h i hi
    · rcases h1 with h1 | h1
      · have hr := h _ h1
        rw [e1] at hr
        rcases h2 with rfl | rfl
        · rw [e1]; exact hr
        · rw [e2]; exact .fwd hm hr
      · have hr := h _ h1
        rw [e2] at hr
        rcases h2 with rfl | rfl
        · rw [e1]; exact .bwd hm hr
        · rw [e2]; exact hr
theorem bits_eq {s t : Nat} (h : ∀ i, s.testBit i = true → t.testBit i = true) (k : ∀ i, t.testBit i = true → s.testBit i = true) : s = t :=
  Nat.eq_of_testBit_eq fun i => by
    cases h1 : s.testBit i with
    | true => exact (h i h1).symm
    | false =>
      cases h2 : t.testBit i with
      | false => rfl
      | true => rw [k i h2] at h1; cases h1
theorem passM_fix : ∀ (E : List (Int × Int)) {s : Nat}, passM E s = s → ∀ e ∈ E, (s.testBit e.1.toNat = true ∨ s.testBit e.2.toNat = true) → s.testBit e.1.toNat = true ∧ s.testBit e.2.toNat = true
  | [], _, _, e, he, _ => by cases he
  | f :: E, s, h, e, he, hb => by
    have h1 : stepM s f = s := bits_eq (fun i hi => by
      have := passM_mono (i := i) E hi
      have e0 : passM (f :: E) s = passM E (stepM s f) := rfl
      rwa [← e0, h] at this) fun i hi => stepM_mono hi
    have h2 : passM E s = s := by
      have e0 : passM (f :: E) s = passM E (stepM s f) := rfl
      rwa [e0, h1] at h
    rcases List.mem_cons.1 he with rfl | he
    · have h3 := stepM_bit s e e.1.toNat
      have h4 := stepM_bit s e e.2.toNat
      rw [h1] at h3 h4
      rcases hb with hb | hb
      · rw [hb] at h4
        simp at h4
        exact ⟨hb, h4⟩
      · rw [hb] at h3
        simp at h3
        exact ⟨h3, hb⟩
    · exact passM_fix E h2 e he hb
def cardM (n s : Nat) : Nat := ((List.range n).filter fun i => s.testBit i).length
theorem cardM_le (n s : Nat) : cardM n s ≤ n := by
  have := List.length_filter_le (fun i => s.testBit i) (List.range n)
  rwa [List.length_range] at this
theorem filter_less {α : Type} {p q : α → Bool} : ∀ (l : List α), (∀ x ∈ l, p x = true → q x = true) → (∃ x ∈ l, p x = false ∧ q x = true) → (l.filter p).length < (l.filter q).length
  | [], _, ⟨_, h, _⟩ => by cases h
  | x :: l, h, ⟨y, hy, h1, h2⟩ => by
    have hle : (l.filter p).length ≤ (l.filter q).length := by
      clear hy h1 h2
      have h' : ∀ x ∈ l, p x = true → q x = true := fun z hz => h z (List.mem_cons_of_mem _ hz)
      clear h
      induction l with
      | nil => exact Nat.le_refl _
      | cons z l ih =>
        have i1 := ih fun u hu => h' u (List.mem_cons_of_mem _ hu)
        have i2 := h' z (List.mem_cons_self ..)
        cases hp : p z with
        | true => rw [List.filter_cons_of_pos hp, List.filter_cons_of_pos (i2 hp)]; simpa using i1
        | false =>
          cases hq : q z with
          | true => rw [List.filter_cons_of_neg (by rw [hp]; decide), List.filter_cons_of_pos hq, List.length_cons]; omega
          | false => rw [List.filter_cons_of_neg (by rw [hp]; decide), List.filter_cons_of_neg (by rw [hq]; decide)]; exact i1
    rcases List.mem_cons.1 hy with rfl | hy
    · rw [List.filter_cons_of_neg (by rw [h1]; decide), List.filter_cons_of_pos h2, List.length_cons]
      omega
    · have ih := filter_less l (fun z hz => h z (List.mem_cons_of_mem _ hz)) ⟨y, hy, h1, h2⟩
      have i2 := h x (List.mem_cons_self ..)
      cases hp : p x with
      | true => rw [List.filter_cons_of_pos hp, List.filter_cons_of_pos (i2 hp)]; simpa using ih
      | false =>
        cases hq : q x with
        | true => rw [List.filter_cons_of_neg (by rw [hp]; decide), List.filter_cons_of_pos hq, List.length_cons]; omega
        | false => rw [List.filter_cons_of_neg (by rw [hp]; decide), List.filter_cons_of_neg (by rw [hq]; decide)]; exact ih
theorem big_bit {n s i : Nat} (h : s < 2 ^ n) (hi : s.testBit i = true) : i < n := by
  rcases Nat.lt_or_ge i n with h1 | h1
  · exact h1
  · rw [Nat.testBit_lt_two_pow (Nat.lt_of_lt_of_le h (Nat.pow_le_pow_right (by omega) h1))] at hi
    cases hi
section
variable {n : Nat} {E : List (Int × Int)}
theorem iterM_lt (hn : 0 < n) (hE : ∀ e ∈ E, e.1.toNat < n ∧ e.2.toNat < n) : ∀ k, iterM E k < 2 ^ n
  | 0 => by
    have h : 2 ^ 1 ≤ 2 ^ n := Nat.pow_le_pow_right (by omega) hn
    show 1 < 2 ^ n
    omega
  | k + 1 => passM_lt E (iterM_lt hn hE k) hE
theorem iterM_grows (hn : 0 < n) (hE : ∀ e ∈ E, e.1.toNat < n ∧ e.2.toNat < n) : ∀ k, passM E (iterM E k) = iterM E k ∨ k + 1 ≤ cardM n (iterM E k)
  | 0 => by
    right
    show 1 ≤ cardM n 1
    have h0 : 0 ∈ (List.range n).filter fun i => (1 : Nat).testBit i := List.mem_filter.2 ⟨List.mem_range.2 hn, by decide⟩
    exact List.length_pos_of_mem h0
  | k + 1 => by
    rcases iterM_grows hn hE k with h | h
    · left
      have e : iterM E (k + 1) = iterM E k := h
      rw [e]
      exact h
    · by_cases he : passM E (iterM E k) = iterM E k
      · left
        have e : iterM E (k + 1) = iterM E k := he
        rw [e]
        exact he
      · right
        have hlt := iterM_lt hn hE (k + 1)
        have hg : cardM n (iterM E k) < cardM n (iterM E (k + 1)) := by
          refine filter_less _ (fun i _ hi => passM_mono E hi) ?_
          refine Classical.byContradiction fun hno => he ?_
          refine (bits_eq (fun i hi => passM_mono E hi) fun i hi => ?_).symm
          have hin := big_bit hlt hi
          cases hb : (iterM E k).testBit i with
          | true => rfl
          | false => exact absurd ⟨i, List.mem_range.2 hin, hb, hi⟩ hno
        omega
theorem iterM_fix (hn : 0 < n) (hE : ∀ e ∈ E, e.1.toNat < n ∧ e.2.toNat < n) : passM E (iterM E n) = iterM E n := by
  rcases iterM_grows hn hE n with h | h
  · exact h
  · have := cardM_le n (iterM E n)
    omega
theorem iterM_zero : ∀ k, (iterM E k).testBit 0 = true
  | 0 => (by decide : (1 : Nat).testBit 0 = true)
  | k + 1 => passM_mono E (iterM_zero k)
theorem iterM_snd (h0 : ∀ e ∈ E, 0 ≤ e.1 ∧ 0 ≤ e.2) : ∀ k i, (iterM E k).testBit i = true → Rch E (i : Int)
  | 0, i, h => by
    have h1 : (1 : Nat).testBit i = true := h
    have h2 := bit_one 0 i
    rw [show (1 : Nat) <<< 0 = 1 from rfl, h1] at h2
    have := of_decide_eq_true h2.symm
    subst this
    exact .zero
  | k + 1, i, h => passM_snd h0 E (fun _ h => h) (iterM_snd h0 k) i h
theorem all_bits {n s : Nat} (hs : s < 2 ^ n) : s = 2 ^ n - 1 ↔ ∀ i, i < n → s.testBit i = true := by
  constructor
  · rintro rfl i hi
    rw [Nat.testBit_two_pow_sub_one]
    exact decide_eq_true hi
  · intro h
    refine bits_eq (fun i hi => ?_) fun i hi => ?_
    · rw [Nat.testBit_two_pow_sub_one]
      exact decide_eq_true (big_bit hs hi)
    · rw [Nat.testBit_two_pow_sub_one] at hi
      exact h i (of_decide_eq_true hi)
/-- By bit masks: as many rounds as there are vertices, and all bits are set just if each vertex can be come to. -/
theorem mask_all (hn : 0 < n) (hE : ∀ e ∈ E, 0 ≤ e.1 ∧ e.1 < n ∧ 0 ≤ e.2 ∧ e.2 < n) : iterM E n = 2 ^ n - 1 ↔ allR n E := by
  have hE1 : ∀ e ∈ E, e.1.toNat < n ∧ e.2.toNat < n := fun e he => by have := hE e he; omega
  have h0 : ∀ e ∈ E, 0 ≤ e.1 ∧ 0 ≤ e.2 := fun e he => by have := hE e he; omega
  rw [all_bits (iterM_lt hn hE1 n)]
  constructor
  · intro h v hv
    exact iterM_snd h0 n v (h v hv)
  · intro h i hi
    have hfx := passM_fix E (iterM_fix hn hE1)
    have hcl : ∀ x, Rch E x → (iterM E n).testBit x.toNat = true := fun x hx => by
      induction hx with
      | zero => exact iterM_zero n
      | fwd he _ ih => exact (hfx _ he (.inl ih)).2
      | bwd he _ ih => exact (hfx _ he (.inr ih)).1
    have := hcl _ (h i hi)
    rwa [Int.toNat_natCast] at this
end
theorem right_edges {L : List Int} {E : List (Int × Int)} (h : rightP L E) : ∀ e ∈ E, 0 ≤ e.1 ∧ e.1 < L.length ∧ 0 ≤ e.2 ∧ e.2 < L.length := fun e he => by
  obtain ⟨i, hi, he2⟩ := List.mem_iff_getElem.1 he
  have h1 := (h.2 i e (by rw [List.getElem?_eq_getElem hi, he2])).1
  unfold Pt.EdgeOK at h1
  omega
/-- What Connected answers. -/
def ConRes (L : List Int) (E : List (Int × Int)) (w : World) (e : Ending) (w' : World) : Prop := ∃ b : Bool, e = .returned (.bool b) ∧ (b = true ↔ connP L E) ∧ Below w.heap.size w w'
end Go.Proofs.YtapledphhfiimaaGreatDoor
/-
  The document's bytes of a pattern.
-/
namespace Go.Proofs.YtapledphhfiimaaGreatDoor
open Go.RowKit
set_option maxRecDepth 100000
set_option linter.unusedVariables false

theorem pNums_enc : ∀ (l : List Int) (st : St), (∀ x ∈ l, fits x) → pNums l st = (st.1 ++ l.flatMap fun x => wordL x.toNat, st.2)
  | [], st, _ => by rw [pNums]; simp
  | z :: l, st, h => by
    rw [pNums, pNums_enc l _ fun x hx => h x (List.mem_cons_of_mem _ hx)]
    unfold pNum
    rw [if_pos (h z (List.mem_cons_self ..)), List.flatMap_cons, List.append_assoc]
theorem pList_enc {l : List Int} (st : St) (h : ∀ x ∈ l, fits x) (hl : l.length ≤ 1000000) : pList l st = (st.1 ++ encW l, st.2) := by
  unfold pList
  rw [pNums_enc l _ h]
  unfold pNum encW
  rw [if_pos (show fits ((l.length : Nat) : Int) from ⟨by omega, by omega⟩), Int.toNat_natCast, List.append_assoc]
/-- Two lists, as the document puts them. -/
theorem put_two {L M : List Int} (hL : ∀ x ∈ L, fits x) (hM : ∀ x ∈ M, fits x) (h1 : L.length ≤ 60) (h2 : M.length ≤ 60) : (pItems [⟨3, 0, ⟨#[]⟩, L⟩, ⟨3, 0, ⟨#[]⟩, M⟩] ([], .nil)).1 = encW L ++ encW M := by
  rw [pItems, pItems, pItems]
  unfold pItem
  simp only
  rw [if_neg (by decide), if_neg (by decide), if_neg (by decide), if_neg (by decide), if_neg (by decide), if_neg (by decide), pList_enc _ hL (by omega), pList_enc _ hM (by omega), List.nil_append]
/-- All edges that eight vertices can have. -/
def allE : List (Int × Int) := (List.range 8).flatMap fun a : Nat => ((List.range 8).filter fun b : Nat => decide (a < b)).map fun b : Nat => ((a : Int), (b : Int))
theorem allE_len : allE.length = 28 := by decide
theorem allE_mem {e : Int × Int} (h0 : 0 ≤ e.1) (h1 : e.1 < e.2) (h2 : e.2 < 8) : e ∈ allE := by
  unfold allE
  refine List.mem_flatMap.2 ⟨e.1.toNat, List.mem_range.2 (by omega), List.mem_map.2 ⟨e.2.toNat, List.mem_filter.2 ⟨List.mem_range.2 (by omega), by simp; omega⟩, ?_⟩⟩
  exact Prod.ext (by simp only; omega) (by simp only; omega)
theorem lessP_trans {a b c d e f : Int} (h1 : lessP a b c d) (h2 : lessP c d e f) : lessP a b e f := by unfold lessP at *; omega
/-- A pattern that is right has at most 28 edges. -/
theorem right_few {L : List Int} {E : List (Int × Int)} (h : rightP L E) : E.length ≤ 28 := by
  have hlt : ∀ j i (hi : i < j) (hj : j < E.length), lessP (E[i]'(by omega)).1 (E[i]'(by omega)).2 E[j].1 E[j].2 := by
    intro j
    induction j with
    | zero => intro i hi; omega
    | succ j ih =>
      intro i hi hj
      have h1 := (h.2 (j + 1) E[j + 1] (List.getElem?_eq_getElem hj)).2 E[j] (Nat.succ_pos _) (by rw [show j + 1 - 1 = j from rfl]; exact List.getElem?_eq_getElem (by omega))
      have h2 := (ordE_less _ _ _ _).1 h1
      by_cases he : i = j
      · subst he; exact h2
      · exact lessP_trans (ih i (by omega) (by omega)) h2
  have hnd : E.Nodup := by
    refine List.pairwise_iff_getElem.2 fun i j hi hj hij e => ?_
    have := hlt j i hij hj
    rw [e] at this
    unfold lessP at this
    omega
  have h8 := h.1.1
  have := sub_lenP E allE hnd fun e he => by
    obtain ⟨i, hi, he2⟩ := List.mem_iff_getElem.1 he
    have h1 := (h.2 i e (by rw [List.getElem?_eq_getElem hi, he2])).1
    unfold Pt.EdgeOK at h1
    exact allE_mem h1.1 h1.2.1 (by omega)
  rwa [allE_len] at this
theorem right_fits {L : List Int} {E : List (Int × Int)} (h : rightP L E) : (∀ x ∈ L, fits x) ∧ (∀ e ∈ E, fits e.1 ∧ fits e.2) ∧ (∀ x ∈ endsL E, fits x) := by
  have h1 : ∀ x ∈ L, fits x := fun x hx => by have := h.1.2 x hx; unfold fits; omega
  have h2 : ∀ e ∈ E, fits e.1 ∧ fits e.2 := fun e he => by have := right_edges h e he; have := h.1.1; unfold fits; omega
  refine ⟨h1, h2, fun z hz => ?_⟩
  obtain ⟨e, he, h⟩ := List.mem_flatMap.1 hz
  rcases List.mem_cons.1 h with rfl | h
  · exact (h2 e he).1
  · rw [List.mem_singleton.1 h]
    exact (h2 e he).2

end Go.Proofs.YtapledphhfiimaaGreatDoor
/-
  Programs in a row, plainly; a mild program; degrees of patterns that are right; cliques.
-/
namespace Go.Proofs.YtapledphhfiimaaGreatDoor
open Go.RowKit Go.Proofs.YtapledphhfiimaaGreatDoor.Pg
set_option linter.unusedVariables false

namespace Ts
/-- The other end of an edge at a vertex. -/
def oth (v : Int) (e : Int × Int) : Int := if e.1 = v then e.2 else e.1
theorem deg_seven {L : List Int} {E : List (Int × Int)} (h : rightP L E) {v : Int} (h0 : 0 ≤ v) (h1 : v < L.length) : Pt.deg E v ≤ 7 := by
  have hnd : E.Nodup := by
    rw [List.Nodup, List.pairwise_iff_getElem]
    have hlt : ∀ k i (hk : i + k + 1 < E.length), Pt.ordE E[i] E[i + k + 1] < 0 := by
      intro k
      induction k with
      | zero =>
        intro i hk
        exact (h.2 (i + 1) _ (List.getElem?_eq_getElem hk)).2 _ (by omega) (by rw [Nat.add_sub_cancel]; exact List.getElem?_eq_getElem (by omega))
      | succ k ih =>
        intro i hk
        have h1 := ih i (by omega)
        have h2 := (h.2 (i + (k + 1) + 1) _ (List.getElem?_eq_getElem hk)).2 E[i + k + 1] (by omega) (by rw [show i + (k + 1) + 1 - 1 = i + k + 1 by omega]; exact List.getElem?_eq_getElem (by omega))
        exact Pt.cp_edge.lt h1 (by omega)
    intro i j hi hj hij e
    have := hlt (j - i - 1) i (by omega)
    rw [getElem_congr_idx (show i + (j - i - 1) + 1 = j by omega), ← e, Pt.cp_edge.self] at this
    omega
  have hok : ∀ e ∈ E, Pt.EdgeOK L.length e := fun e he => by
    obtain ⟨i, hi⟩ := List.getElem?_of_mem he
    exact (h.2 i e hi).1
  unfold Pt.deg
  have hF : ∀ e ∈ E.filter (fun e => decide (e.1 = v) || decide (e.2 = v)), Pt.EdgeOK L.length e ∧ (e.1 = v ∨ e.2 = v) := fun e he => by
    obtain ⟨h1, h2⟩ := List.mem_filter.1 he
    simp only [Bool.or_eq_true, decide_eq_true_eq] at h2
    exact ⟨hok e h1, h2⟩
  have hn2 : (E.filter fun e => decide (e.1 = v) || decide (e.2 = v)).Nodup := hnd.filter _
  generalize (E.filter fun e => decide (e.1 = v) || decide (e.2 = v)) = F at hF hn2
  have hm : (F.map (oth v)).Nodup := by
    rw [List.Nodup, List.pairwise_map]
    refine List.Pairwise.imp_of_mem (fun {a b} ha hb hne he => hne ?_) hn2
    obtain ⟨⟨a0, a1, a2⟩, a3⟩ := hF a ha
    obtain ⟨⟨b0, b1, b2⟩, b3⟩ := hF b hb
    unfold oth at he
    by_cases ea : a.1 = v <;> by_cases eb : b.1 = v
    · rw [if_pos ea, if_pos eb] at he
      exact Prod.ext (by omega) he
    · rw [if_pos ea, if_neg eb] at he
      omega
    · rw [if_neg ea, if_pos eb] at he
      omega
    · rw [if_neg ea, if_neg eb] at he
      exact Prod.ext he (by omega)
  have hnv : v ∉ F.map (oth v) := fun hx => by
    obtain ⟨e, he, hq⟩ := List.mem_map.1 hx
    obtain ⟨⟨e0, e1, e2⟩, e3⟩ := hF e he
    unfold oth at hq
    by_cases ea : e.1 = v
    · rw [if_pos ea] at hq; omega
    · rw [if_neg ea] at hq; exact ea hq
  have hp := pig L.length (v :: F.map (oth v)) (List.nodup_cons.2 ⟨hnv, hm⟩) (fun x hx => by
    rcases List.mem_cons.1 hx with rfl | hx
    · exact ⟨h0, h1⟩
    · obtain ⟨e, he, hq⟩ := List.mem_map.1 hx
      obtain ⟨⟨e0, e1, e2⟩, e3⟩ := hF e he
      unfold oth at hq
      by_cases ea : e.1 = v
      · rw [if_pos ea] at hq; omega
      · rw [if_neg ea] at hq; omega)
  have := h.1.1
  simp at hp
  omega
def mildP : List (Int × Int) := [(2, 255), (3, 7), (4, 8), (5, 28)]
theorem mild_right : rightG mildP := by decide
theorem mild_keeps {L : List Int} {E : List (Int × Int)} (h : rightP L E) : keepsB mildP L E = true := by
  rw [keepsB_of mild_right h, List.all_eq_true]
  intro o ho
  simp only [mildP, List.mem_cons, List.not_mem_nil, or_false] at ho
  rcases ho with rfl | rfl | rfl | rfl
  · unfold holdsB
    rw [if_neg (by decide), if_pos rfl]
    simp only [Bool.not_eq_true', List.any_eq_false, decide_eq_true_eq]
    intro x hx
    have := h.1.2 x hx
    omega
  · unfold holdsB
    rw [if_neg (by decide), if_neg (by decide), if_pos rfl]
    simp only [List.all_eq_true, decide_eq_true_eq]
    intro v hv
    have := deg_seven h (v := (v : Int)) (by omega) (by have := List.mem_range.1 hv; omega)
    omega
  · unfold holdsB
    rw [if_neg (by decide), if_neg (by decide), if_neg (by decide), if_pos rfl]
    simp only [decide_eq_true_eq]
    have := h.1.1
    omega
  · unfold holdsB
    rw [if_neg (by decide), if_neg (by decide), if_neg (by decide), if_neg (by decide), if_pos rfl]
    simp only [decide_eq_true_eq]
    have := right_few h
    omega
theorem nil_keeps {L : List Int} {E : List (Int × Int)} (h : rightP L E) : keepsB [] L E = true := by
  rw [keepsB_of ⟨by simp, fun o ho => by simp at ho⟩ h]
  rfl
theorem app_right {p q : List (Int × Int)} (hp : rightG p) (hq : rightG q) (h1 : p.length ≤ 8) (h2 : q.length ≤ 8) : rightG (p ++ q) :=
  ⟨by rw [List.length_append]; omega, fun o ho => by
    rcases List.mem_append.1 ho with h | h
    · exact hp.2 o h
    · exact hq.2 o h⟩
theorem app_keeps {p q : List (Int × Int)} {L : List Int} {E : List (Int × Int)} (hp : rightG p) (hq : rightG q) (h1 : p.length ≤ 8) (h2 : q.length ≤ 8) (h : rightP L E) : keepsB (p ++ q) L E = (keepsB p L E && keepsB q L E) := by
  rw [keepsB_of (app_right hp hq h1 h2) h, keepsB_of hp h, keepsB_of hq h, List.all_append]
theorem first_keepsB {p : List (Int × Int)} {L : List Int} {E : List (Int × Int)} (hp : rightG p) (h : rightP L E) : decide (firstZ (fun o => !testB L E o) p 0 < 0) = keepsB p L E := by
  unfold keepsB
  rw [if_pos ⟨hp, h⟩]
  cases ha : p.all (testB L E) with
  | true => exact decide_eq_true (first_keeps.2 ha)
  | false => exact decide_eq_false fun h => by rw [first_keeps.1 h] at ha; cases ha
theorem clique_right {p : List (Int × Int)} (hp : rightG p) (h1 : p.length ≤ 15) : rightG ((1, 0) :: p) :=
  ⟨by rw [List.length_cons]; omega, fun o ho => by
    rcases List.mem_cons.1 ho with rfl | h
    · decide
    · exact hp.2 o h⟩
/-- A clique job's program, of a pattern with all edges. -/
theorem clique_all {p : List (Int × Int)} {L : List Int} {E : List (Int × Int)} (hp : rightG p) (h1 : p.length ≤ 15) (he : E.length = L.length * (L.length - 1) / 2) : keepsB ((1, 0) :: p) L E = keepsB p L E := by
  by_cases h : rightP L E
  · rw [keepsB_of (clique_right hp h1) h, keepsB_of hp h, List.all_cons]
    have : holdsB (1, 0) L E = true := by
      unfold holdsB
      rw [if_pos rfl]
      exact decide_eq_true he
    rw [this, Bool.true_and]
  · unfold keepsB
    rw [if_neg (fun k => h k.2), if_neg (fun k => h k.2)]
/-- .. of a pattern without edges. -/
theorem clique_none {p : List (Int × Int)} {L : List Int} (hp : rightG p) (h1 : p.length ≤ 15) (h8 : L.length ≤ 8) : keepsB ((1, 0) :: p) L [] = (decide (L.length < 2) && keepsB p L []) := by
  by_cases h : rightP L []
  · rw [keepsB_of (clique_right hp h1) h, keepsB_of hp h, List.all_cons]
    have : holdsB (1, 0) L [] = decide (L.length < 2) := by
      unfold holdsB
      rw [if_pos rfl]
      refine decide_eq_decide.2 ?_
      have : ∀ n : Nat, n ≤ 8 → ((0 = n * (n - 1) / 2) ↔ n < 2) := by decide
      exact this _ h8
    rw [this]
  · unfold keepsB
    rw [if_neg (fun k => h k.2), if_neg (fun k => h k.2), Bool.and_false]
end Ts
end Go.Proofs.YtapledphhfiimaaGreatDoor
