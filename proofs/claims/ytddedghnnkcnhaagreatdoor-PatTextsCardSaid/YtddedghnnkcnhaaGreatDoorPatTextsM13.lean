/-
  Part 13 of the proof of PatTexts: ConP, PatQ, BitQ, ConC.
-/
import Derived.Test.YtddedghnnkcnhaaGreatDoorPatTextsM12
import Derived.BigQuiet
import Derived.Deep.RegionHeld3
import Derived.Test.YtddedghnnkcnhaaGreatDoorPatTextsM10
import Derived.WalkKit
import Derived.Lib.Hide
/-
  Connectedness plainly: what can be come to from the first vertex; breadth first, and by bit masks.
-/
namespace Go.Proofs.YtddedghnnkcnhaaGreatDoor
open Go.RowKit
set_option linter.unusedVariables false

/-- What can be come to from vertex 0. -/
inductive Rch (E : List (Int × Int)) : Int → Prop
  | zero : Rch E 0
  | fwd {a b : Int} : (a, b) ∈ E → Rch E a → Rch E b
  | bwd {a b : Int} : (a, b) ∈ E → Rch E b → Rch E a
def AdjE (E : List (Int × Int)) (a b : Int) : Prop := (a, b) ∈ E ∨ (b, a) ∈ E
instance (E : List (Int × Int)) (a b : Int) : Decidable (AdjE E a b) := by unfold AdjE; exact inferInstance
theorem Rch.adj {E : List (Int × Int)} {a b : Int} (h : Rch E a) (k : AdjE E a b) : Rch E b := by
  rcases k with k | k
  · exact .fwd k h
  · exact .bwd k h
def allR (n : Nat) (E : List (Int × Int)) : Prop := ∀ v : Nat, v < n → Rch E (v : Int)
/-- A pattern is connected. -/
def connP (L : List Int) (E : List (Int × Int)) : Prop := rightP L E ∧ 0 < L.length ∧ allR L.length E
theorem sub_lenP {α : Type} : ∀ (a b : List α), a.Nodup → (∀ x ∈ a, x ∈ b) → a.length ≤ b.length
  | [], _, _, _ => Nat.zero_le _
  | x :: a, b, hn, hs => by
    obtain ⟨s, t, rfl⟩ := List.append_of_mem (hs x (List.mem_cons_self ..))
    have h1 := List.nodup_cons.1 hn
    have h2 := sub_lenP a (s ++ t) h1.2 fun y hy => by
      have h3 := hs y (List.mem_cons_of_mem _ hy)
      rcases List.mem_append.1 h3 with h | h
      · exact List.mem_append.2 (.inl h)
      · rcases List.mem_cons.1 h with h | h
        · subst h; exact absurd hy h1.1
        · exact List.mem_append.2 (.inr h)
    simp only [List.length_append, List.length_cons] at h2 ⊢
    omega
/-- Numbers below n. -/
def uptoN (n : Nat) : List Int := (List.range n).map fun i : Nat => (i : Int)
theorem uptoN_len (n : Nat) : (uptoN n).length = n := by unfold uptoN; simp
theorem uptoN_mem {n : Nat} {x : Int} : x ∈ uptoN n ↔ 0 ≤ x ∧ x < n := by
  unfold uptoN
  rw [List.mem_map]
  constructor
  · rintro ⟨i, hi, rfl⟩
    have := List.mem_range.1 hi
    omega
  · intro h
    exact ⟨x.toNat, List.mem_range.2 (by omega), by omega⟩
theorem uptoN_nodup (n : Nat) : (uptoN n).Nodup := by
  unfold uptoN
  refine List.Pairwise.map (R := fun a b => a ≠ b) _ (fun a b h e => h (by omega)) List.nodup_range
/-- What has been seen so far, breadth first: i of it have been looked at, and of the next one what stands below v. -/
structure Bfs (n : Nat) (E : List (Int × Int)) (S : List Int) (i v : Nat) : Prop where
  nd : S.Nodup
  z : (0 : Int) ∈ S
  inn : ∀ x ∈ S, 0 ≤ x ∧ x < n ∧ Rch E x
  le : i ≤ S.length
  done : ∀ k x, k < i → S[k]? = some x → ∀ u : Nat, u < n → AdjE E x u → (u : Int) ∈ S
  part : ∀ x, S[i]? = some x → ∀ u : Nat, u < v → AdjE E x u → (u : Int) ∈ S
section
variable {n i v : Nat} {E : List (Int × Int)} {S : List Int}
theorem Bfs.start (hn : 0 < n) : Bfs n E [0] 0 0 :=
  ⟨by simp, by simp, fun x hx => by obtain rfl := List.mem_singleton.1 hx; exact ⟨by omega, by omega, .zero⟩, Nat.zero_le _, fun k x h => by omega, fun x _ u h => by omega⟩
theorem Bfs.len (h : Bfs n E S i v) : S.length ≤ n := by
  have := sub_lenP S (uptoN n) h.nd fun x hx => uptoN_mem.2 ⟨(h.inn x hx).1, (h.inn x hx).2.1⟩
  rwa [uptoN_len] at this
theorem Bfs.skip (h : Bfs n E S i v) {x : Int} (hx : S[i]? = some x) (hs : AdjE E x v → (v : Int) ∈ S) : Bfs n E S i (v + 1) :=
  ⟨h.nd, h.z, h.inn, h.le, h.done, fun y hy u hu ha => by
    rw [hx] at hy; cases hy
    by_cases hv : u < v
    · exact h.part x hx u hv ha
    · obtain rfl : u = v := by omega
      exact hs ha⟩
theorem Bfs.take (h : Bfs n E S i v) {x : Int} (hx : S[i]? = some x) (ha : AdjE E x v) (hv : v < n) (hn : ¬ (v : Int) ∈ S) : Bfs n E (S ++ [(v : Int)]) i (v + 1) := by
  have hi := (List.getElem?_eq_some_iff.1 hx).1
  have hap : ∀ k, k < S.length → (S ++ [(v : Int)])[k]? = S[k]? := fun k hk => List.getElem?_append_left hk
  refine ⟨?_, List.mem_append.2 (.inl h.z), fun y hy => ?_, by rw [List.length_append]; have := h.le; omega, fun k y hk hy u hu hau => ?_, fun y hy u hu hau => ?_⟩
  · rw [List.nodup_append]
    exact ⟨h.nd, by simp, fun a ha b hb e => by obtain rfl := List.mem_singleton.1 hb; subst e; exact hn ha⟩
  · rcases List.mem_append.1 hy with hy | hy
    · exact h.inn y hy
    · obtain rfl := List.mem_singleton.1 hy
      exact ⟨by omega, by omega, (h.inn x (List.mem_of_getElem? hx)).2.2.adj ha⟩
  · rw [hap k (by have := h.le; omega)] at hy
    exact List.mem_append.2 (.inl (h.done k y hk hy u hu hau))
  · rw [hap i hi, hx] at hy; cases hy
    by_cases hv2 : u < v
    · exact List.mem_append.2 (.inl (h.part x hx u hv2 hau))
    · obtain rfl : u = v := by omega
      exact List.mem_append.2 (.inr (List.mem_singleton.2 rfl))
theorem Bfs.next (h : Bfs n E S i n) (hi : i < S.length) : Bfs n E S (i + 1) 0 :=
  ⟨h.nd, h.z, h.inn, hi, fun k y hk hy u hu ha => by
    by_cases hk2 : k < i
    · exact h.done k y hk2 hy u hu ha
    · obtain rfl : k = i := by omega
      exact h.part y hy u hu ha, fun x _ u h => by omega⟩
theorem Bfs.all (h : Bfs n E S S.length 0) (hE : ∀ e ∈ E, 0 ≤ e.1 ∧ e.1 < n ∧ 0 ≤ e.2 ∧ e.2 < n) : S.length = n ↔ allR n E := by
  have hcl : ∀ x, Rch E x → x ∈ S := fun x hx => by
    have step : ∀ a b, a ∈ S → AdjE E a b → 0 ≤ b → b < n → b ∈ S := fun a b ha hab h0 h1 => by
      obtain ⟨k, hk, hk2⟩ := List.mem_iff_getElem.1 ha
      have := h.done k a hk (by rw [List.getElem?_eq_getElem hk, hk2]) b.toNat (by omega) (by rw [Int.toNat_of_nonneg h0]; exact hab)
      rwa [Int.toNat_of_nonneg h0] at this
    induction hx with
    | zero => exact h.z
    | fwd he _ ih => exact step _ _ ih (.inl he) (hE _ he).2.2.1 (hE _ he).2.2.2
    | bwd he _ ih => exact step _ _ ih (.inr he) (hE _ he).1 (hE _ he).2.1
  constructor
  · intro hl u hu
    refine Classical.byContradiction fun hno => ?_
    have hnm : ¬ (u : Int) ∈ S := fun hm => hno (h.inn _ hm).2.2
    have := sub_lenP ((u : Int) :: S) (uptoN n) (List.nodup_cons.2 ⟨hnm, h.nd⟩) fun x hx => by
      rcases List.mem_cons.1 hx with rfl | hx
      · exact uptoN_mem.2 ⟨by omega, by omega⟩
      · exact uptoN_mem.2 ⟨(h.inn x hx).1, (h.inn x hx).2.1⟩
    rw [uptoN_len, List.length_cons] at this
    omega
  · intro ha
    have h1 := h.len
    have h2 := sub_lenP (uptoN n) S (uptoN_nodup n) fun x hx => hcl x (by
      have := uptoN_mem.1 hx
      have h3 := ha x.toNat (by omega)
      rwa [Int.toNat_of_nonneg this.1] at h3)
    rw [uptoN_len] at h2
    omega
end

/-- One edge, by bit masks. -/
def stepM (s : Nat) (e : Int × Int) : Nat := if s.testBit e.1.toNat || s.testBit e.2.toNat then s ||| (1 <<< e.1.toNat ||| 1 <<< e.2.toNat) else s
def passM (E : List (Int × Int)) (s : Nat) : Nat := E.foldl stepM s
def iterM (E : List (Int × Int)) : Nat → Nat
  | 0 => 1
  | k + 1 => passM E (iterM E k)
theorem bit_one (a i : Nat) : (1 <<< a).testBit i = decide (i = a) := by
  rw [Nat.one_shiftLeft, Nat.testBit_two_pow]
  exact decide_eq_decide.2 ⟨fun h => h.symm, fun h => h.symm⟩
theorem stepM_bit (s : Nat) (e : Int × Int) (i : Nat) : (stepM s e).testBit i = (s.testBit i || ((s.testBit e.1.toNat || s.testBit e.2.toNat) && (decide (i = e.1.toNat) || decide (i = e.2.toNat)))) := by
  unfold stepM
  split
  · rename_i h
    rw [Nat.testBit_or, Nat.testBit_or, bit_one, bit_one, h, Bool.true_and]
  · rename_i h
    rw [Bool.not_eq_true] at h
    rw [h, Bool.false_and, Bool.or_false]
theorem stepM_mono {s : Nat} {e : Int × Int} {i : Nat} (h : s.testBit i = true) : (stepM s e).testBit i = true := by rw [stepM_bit, h, Bool.true_or]
theorem passM_mono {i : Nat} : ∀ (E : List (Int × Int)) {s : Nat}, s.testBit i = true → (passM E s).testBit i = true
  | [], _, h => h
  | e :: E, _, h => passM_mono E (stepM_mono h)
theorem stepM_lt {n s : Nat} {e : Int × Int} (hs : s < 2 ^ n) (h1 : e.1.toNat < n) (h2 : e.2.toNat < n) : stepM s e < 2 ^ n := by
  unfold stepM
  split
  · refine Nat.or_lt_two_pow hs (Nat.or_lt_two_pow ?_ ?_)
    · rw [Nat.one_shiftLeft]; exact Nat.pow_lt_pow_right (by omega) h1
    · rw [Nat.one_shiftLeft]; exact Nat.pow_lt_pow_right (by omega) h2
  · exact hs
theorem passM_lt {n : Nat} : ∀ (E : List (Int × Int)) {s : Nat}, s < 2 ^ n → (∀ e ∈ E, e.1.toNat < n ∧ e.2.toNat < n) → passM E s < 2 ^ n
  | [], _, h, _ => h
  | e :: E, _, h, hE => passM_lt E (stepM_lt h (hE e (List.mem_cons_self ..)).1 (hE e (List.mem_cons_self ..)).2) fun x hx => hE x (List.mem_cons_of_mem _ hx)
theorem passM_snd {E0 : List (Int × Int)} (h0 : ∀ e ∈ E0, 0 ≤ e.1 ∧ 0 ≤ e.2) : ∀ (E : List (Int × Int)) {s : Nat}, (∀ e ∈ E, e ∈ E0) → (∀ i, s.testBit i = true → Rch E0 (i : Int)) → ∀ i, (passM E s).testBit i = true → Rch E0 (i : Int)
  | [], _, _, h => h
  | e :: E, s, hE, h => passM_snd h0 E (fun x hx => hE x (List.mem_cons_of_mem _ hx)) fun i hi => by
    rw [stepM_bit] at hi
    have he := hE e (List.mem_cons_self ..)
    have hz := h0 e he
    have e1 : ((e.1.toNat : Nat) : Int) = e.1 := Int.toNat_of_nonneg hz.1
    have e2 : ((e.2.toNat : Nat) : Int) = e.2 := Int.toNat_of_nonneg hz.2
    have hm : (e.1, e.2) ∈ E0 := he
    simp only [Bool.or_eq_true, Bool.and_eq_true, decide_eq_true_eq] at hi
    rcases hi with hi | ⟨h1, h2⟩
    · exact h i hi
    · rcases h1 with h1 | h1
      · have hr := h _ h1
        rw [e1] at hr
        rcases h2 with rfl | rfl
        · rw [e1]; exact hr
        · rw [e2]; exact .fwd hm hr
      · have hr := h _ h1
        rw [e2] at hr
        rcases h2 with rfl | rfl
        · rw [e1]; exact .bwd hm hr
        · rw [e2]; exact hr
theorem bits_eq {s t : Nat} (h : ∀ i, s.testBit i = true → t.testBit i = true) (k : ∀ i, t.testBit i = true → s.testBit i = true) : s = t :=
  Nat.eq_of_testBit_eq fun i => by
    cases h1 : s.testBit i with
    | true => exact (h i h1).symm
    | false =>
      cases h2 : t.testBit i with
      | false => rfl
      | true => rw [k i h2] at h1; cases h1
theorem passM_fix : ∀ (E : List (Int × Int)) {s : Nat}, passM E s = s → ∀ e ∈ E, (s.testBit e.1.toNat = true ∨ s.testBit e.2.toNat = true) → s.testBit e.1.toNat = true ∧ s.testBit e.2.toNat = true
  | [], _, _, e, he, _ => by cases he
  | f :: E, s, h, e, he, hb => by
    have h1 : stepM s f = s := bits_eq (fun i hi => by
      have := passM_mono (i := i) E hi
      have e0 : passM (f :: E) s = passM E (stepM s f) := rfl
      rwa [← e0, h] at this) fun i hi => stepM_mono hi
    have h2 : passM E s = s := by
      have e0 : passM (f :: E) s = passM E (stepM s f) := rfl
      rwa [e0, h1] at h
    rcases List.mem_cons.1 he with rfl | he
    · have h3 := stepM_bit s e e.1.toNat
      have h4 := stepM_bit s e e.2.toNat
      rw [h1] at h3 h4
      rcases hb with hb | hb
      · rw [hb] at h4
        simp at h4
        exact ⟨hb, h4⟩
      · rw [hb] at h3
        simp at h3
        exact ⟨h3, hb⟩
    · exact passM_fix E h2 e he hb
def cardM (n s : Nat) : Nat := ((List.range n).filter fun i => s.testBit i).length
theorem cardM_le (n s : Nat) : cardM n s ≤ n := by
  have := List.length_filter_le (fun i => s.testBit i) (List.range n)
  rwa [List.length_range] at this
theorem filter_less {α : Type} {p q : α → Bool} : ∀ (l : List α), (∀ x ∈ l, p x = true → q x = true) → (∃ x ∈ l, p x = false ∧ q x = true) → (l.filter p).length < (l.filter q).length
  | [], _, ⟨_, h, _⟩ => by cases h
  | x :: l, h, ⟨y, hy, h1, h2⟩ => by
    have hle : (l.filter p).length ≤ (l.filter q).length := by
      clear hy h1 h2
      have h' : ∀ x ∈ l, p x = true → q x = true := fun z hz => h z (List.mem_cons_of_mem _ hz)
      clear h
      induction l with
      | nil => exact Nat.le_refl _
      | cons z l ih =>
        have i1 := ih fun u hu => h' u (List.mem_cons_of_mem _ hu)
        have i2 := h' z (List.mem_cons_self ..)
        cases hp : p z with
        | true => rw [List.filter_cons_of_pos hp, List.filter_cons_of_pos (i2 hp)]; simpa using i1
        | false =>
          cases hq : q z with
          | true => rw [List.filter_cons_of_neg (by rw [hp]; decide), List.filter_cons_of_pos hq, List.length_cons]; omega
          | false => rw [List.filter_cons_of_neg (by rw [hp]; decide), List.filter_cons_of_neg (by rw [hq]; decide)]; exact i1
    rcases List.mem_cons.1 hy with rfl | hy
    · rw [List.filter_cons_of_neg (by rw [h1]; decide), List.filter_cons_of_pos h2, List.length_cons]
      omega
    · have ih := filter_less l (fun z hz => h z (List.mem_cons_of_mem _ hz)) ⟨y, hy, h1, h2⟩
      have i2 := h x (List.mem_cons_self ..)
      cases hp : p x with
      | true => rw [List.filter_cons_of_pos hp, List.filter_cons_of_pos (i2 hp)]; simpa using ih
      | false =>
        cases hq : q x with
        | true => rw [List.filter_cons_of_neg (by rw [hp]; decide), List.filter_cons_of_pos hq, List.length_cons]; omega
        | false => rw [List.filter_cons_of_neg (by rw [hp]; decide), List.filter_cons_of_neg (by rw [hq]; decide)]; exact ih
theorem big_bit {n s i : Nat} (h : s < 2 ^ n) (hi : s.testBit i = true) : i < n := by
  rcases Nat.lt_or_ge i n with h1 | h1
  · exact h1
  · rw [Nat.testBit_lt_two_pow (Nat.lt_of_lt_of_le h (Nat.pow_le_pow_right (by omega) h1))] at hi
    cases hi
section
variable {n : Nat} {E : List (Int × Int)}
theorem iterM_lt (hn : 0 < n) (hE : ∀ e ∈ E, e.1.toNat < n ∧ e.2.toNat < n) : ∀ k, iterM E k < 2 ^ n
  | 0 => by
    have h : 2 ^ 1 ≤ 2 ^ n := Nat.pow_le_pow_right (by omega) hn
    show 1 < 2 ^ n
    omega
  | k + 1 => passM_lt E (iterM_lt hn hE k) hE
theorem iterM_grows (hn : 0 < n) (hE : ∀ e ∈ E, e.1.toNat < n ∧ e.2.toNat < n) : ∀ k, passM E (iterM E k) = iterM E k ∨ k + 1 ≤ cardM n (iterM E k)
  | 0 => by
    right
    show 1 ≤ cardM n 1
    have h0 : 0 ∈ (List.range n).filter fun i => (1 : Nat).testBit i := List.mem_filter.2 ⟨List.mem_range.2 hn, by decide⟩
    exact List.length_pos_of_mem h0
  | k + 1 => by
    rcases iterM_grows hn hE k with h | h
    · left
      have e : iterM E (k + 1) = iterM E k := h
      rw [e]
      exact h
    · by_cases he : passM E (iterM E k) = iterM E k
      · left
        have e : iterM E (k + 1) = iterM E k := he
        rw [e]
        exact he
      · right
        have hlt := iterM_lt hn hE (k + 1)
        have hg : cardM n (iterM E k) < cardM n (iterM E (k + 1)) := by
          refine filter_less _ (fun i _ hi => passM_mono E hi) ?_
          refine Classical.byContradiction fun hno => he ?_
          refine (bits_eq (fun i hi => passM_mono E hi) fun i hi => ?_).symm
          have hin := big_bit hlt hi
          cases hb : (iterM E k).testBit i with
          | true => rfl
          | false => exact absurd ⟨i, List.mem_range.2 hin, hb, hi⟩ hno
        omega
theorem iterM_fix (hn : 0 < n) (hE : ∀ e ∈ E, e.1.toNat < n ∧ e.2.toNat < n) : passM E (iterM E n) = iterM E n := by
  rcases iterM_grows hn hE n with h | h
  · exact h
  · have := cardM_le n (iterM E n)
    omega
theorem iterM_zero : ∀ k, (iterM E k).testBit 0 = true
  | 0 => (by decide : (1 : Nat).testBit 0 = true)
  | k + 1 => passM_mono E (iterM_zero k)
theorem iterM_snd (h0 : ∀ e ∈ E, 0 ≤ e.1 ∧ 0 ≤ e.2) : ∀ k i, (iterM E k).testBit i = true → Rch E (i : Int)
  | 0, i, h => by
    have h1 : (1 : Nat).testBit i = true := h
    have h2 := bit_one 0 i
    rw [show (1 : Nat) <<< 0 = 1 from rfl, h1] at h2
    have := of_decide_eq_true h2.symm
    subst this
    exact .zero
  | k + 1, i, h => passM_snd h0 E (fun _ h => h) (iterM_snd h0 k) i h
theorem all_bits {n s : Nat} (hs : s < 2 ^ n) : s = 2 ^ n - 1 ↔ ∀ i, i < n → s.testBit i = true := by
  constructor
  · rintro rfl i hi
    rw [Nat.testBit_two_pow_sub_one]
    exact decide_eq_true hi
  · intro h
    refine bits_eq (fun i hi => ?_) fun i hi => ?_
    · rw [Nat.testBit_two_pow_sub_one]
      exact decide_eq_true (big_bit hs hi)
    · rw [Nat.testBit_two_pow_sub_one] at hi
      exact h i (of_decide_eq_true hi)
/-- By bit masks: as many rounds as there are vertices, and all bits are set just if each vertex can be come to. -/
theorem mask_all (hn : 0 < n) (hE : ∀ e ∈ E, 0 ≤ e.1 ∧ e.1 < n ∧ 0 ≤ e.2 ∧ e.2 < n) : iterM E n = 2 ^ n - 1 ↔ allR n E := by
  have hE1 : ∀ e ∈ E, e.1.toNat < n ∧ e.2.toNat < n := fun e he => by have := hE e he; omega
  have h0 : ∀ e ∈ E, 0 ≤ e.1 ∧ 0 ≤ e.2 := fun e he => by have := hE e he; omega
  rw [all_bits (iterM_lt hn hE1 n)]
  constructor
  · intro h v hv
    exact iterM_snd h0 n v (h v hv)
  · intro h i hi
    have hfx := passM_fix E (iterM_fix hn hE1)
    have hcl : ∀ x, Rch E x → (iterM E n).testBit x.toNat = true := fun x hx => by
      induction hx with
      | zero => exact iterM_zero n
      | fwd he _ ih => exact (hfx _ he (.inl ih)).2
      | bwd he _ ih => exact (hfx _ he (.inr ih)).1
    have := hcl _ (h i hi)
    rwa [Int.toNat_natCast] at this
end
theorem right_edges {L : List Int} {E : List (Int × Int)} (h : rightP L E) : ∀ e ∈ E, 0 ≤ e.1 ∧ e.1 < L.length ∧ 0 ≤ e.2 ∧ e.2 < L.length := fun e he => by
  obtain ⟨i, hi, he2⟩ := List.mem_iff_getElem.1 he
  have h1 := (h.2 i e (by rw [List.getElem?_eq_getElem hi, he2])).1
  unfold Pt.EdgeOK at h1
  omega
/-- What Connected answers. -/
def ConRes (L : List Int) (E : List (Int × Int)) (w : World) (e : Ending) (w' : World) : Prop := ∃ b : Bool, e = .returned (.bool b) ∧ (b = true ↔ connP L E) ∧ Below w.heap.size w w'
end Go.Proofs.YtddedghnnkcnhaaGreatDoor
/-
  The document's bytes of a pattern.
-/
namespace Go.Proofs.YtddedghnnkcnhaaGreatDoor
open Go.RowKit
set_option maxRecDepth 100000
set_option linter.unusedVariables false

theorem pNums_enc : ∀ (l : List Int) (st : St), (∀ x ∈ l, fits x) → pNums l st = (st.1 ++ l.flatMap fun x => wordL x.toNat, st.2)
  | [], st, _ => by rw [pNums]; simp
  | z :: l, st, h => by
    rw [pNums, pNums_enc l _ fun x hx => h x (List.mem_cons_of_mem _ hx)]
    unfold pNum
    rw [if_pos (h z (List.mem_cons_self ..)), List.flatMap_cons, List.append_assoc]
theorem pList_enc {l : List Int} (st : St) (h : ∀ x ∈ l, fits x) (hl : l.length ≤ 1000000) : pList l st = (st.1 ++ encW l, st.2) := by
  unfold pList
  rw [pNums_enc l _ h]
  unfold pNum encW
  rw [if_pos (show fits ((l.length : Nat) : Int) from ⟨by omega, by omega⟩), Int.toNat_natCast, List.append_assoc]
/-- Two lists, as the document puts them. -/
theorem put_two {L M : List Int} (hL : ∀ x ∈ L, fits x) (hM : ∀ x ∈ M, fits x) (h1 : L.length ≤ 60) (h2 : M.length ≤ 60) : (pItems [⟨3, 0, ⟨#[]⟩, L⟩, ⟨3, 0, ⟨#[]⟩, M⟩] ([], .nil)).1 = encW L ++ encW M := by
  rw [pItems, pItems, pItems]
  unfold pItem
  simp only
  rw [if_neg (by decide), if_neg (by decide), if_neg (by decide), if_neg (by decide), if_neg (by decide), if_neg (by decide), pList_enc _ hL (by omega), pList_enc _ hM (by omega), List.nil_append]
/-- All edges that eight vertices can have. -/
def allE : List (Int × Int) := (List.range 8).flatMap fun a : Nat => ((List.range 8).filter fun b : Nat => decide (a < b)).map fun b : Nat => ((a : Int), (b : Int))
theorem allE_len : allE.length = 28 := by decide
theorem allE_mem {e : Int × Int} (h0 : 0 ≤ e.1) (h1 : e.1 < e.2) (h2 : e.2 < 8) : e ∈ allE := by
  unfold allE
  refine List.mem_flatMap.2 ⟨e.1.toNat, List.mem_range.2 (by omega), List.mem_map.2 ⟨e.2.toNat, List.mem_filter.2 ⟨List.mem_range.2 (by omega), by simp; omega⟩, ?_⟩⟩
  exact Prod.ext (by simp only; omega) (by simp only; omega)
theorem lessP_trans {a b c d e f : Int} (h1 : lessP a b c d) (h2 : lessP c d e f) : lessP a b e f := by unfold lessP at *; omega
/-- A pattern that is right has at most 28 edges. -/
theorem right_few {L : List Int} {E : List (Int × Int)} (h : rightP L E) : E.length ≤ 28 := by
  have hlt : ∀ j i (hi : i < j) (hj : j < E.length), lessP (E[i]'(by omega)).1 (E[i]'(by omega)).2 E[j].1 E[j].2 := by
    intro j
    induction j with
    | zero => intro i hi; omega
    | succ j ih =>
      intro i hi hj
      have h1 := (h.2 (j + 1) E[j + 1] (List.getElem?_eq_getElem hj)).2 E[j] (Nat.succ_pos _) (by rw [show j + 1 - 1 = j from rfl]; exact List.getElem?_eq_getElem (by omega))
      have h2 := (ordE_less _ _ _ _).1 h1
      by_cases he : i = j
      · subst he; exact h2
      · exact lessP_trans (ih i (by omega) (by omega)) h2
  have hnd : E.Nodup := by
    refine List.pairwise_iff_getElem.2 fun i j hi hj hij e => ?_
    have := hlt j i hij hj
    rw [e] at this
    unfold lessP at this
    omega
  have h8 := h.1.1
  have := sub_lenP E allE hnd fun e he => by
    obtain ⟨i, hi, he2⟩ := List.mem_iff_getElem.1 he
    have h1 := (h.2 i e (by rw [List.getElem?_eq_getElem hi, he2])).1
    unfold Pt.EdgeOK at h1
    exact allE_mem h1.1 h1.2.1 (by omega)
  rwa [allE_len] at this
theorem right_fits {L : List Int} {E : List (Int × Int)} (h : rightP L E) : (∀ x ∈ L, fits x) ∧ (∀ e ∈ E, fits e.1 ∧ fits e.2) ∧ (∀ x ∈ endsL E, fits x) := by
  have h1 : ∀ x ∈ L, fits x := fun x hx => by have := h.1.2 x hx; unfold fits; omega
  have h2 : ∀ e ∈ E, fits e.1 ∧ fits e.2 := fun e he => by have := right_edges h e he; have := h.1.1; unfold fits; omega
  refine ⟨h1, h2, fun z hz => ?_⟩
  obtain ⟨e, he, h⟩ := List.mem_flatMap.1 hz
  rcases List.mem_cons.1 h with rfl | h
  · exact (h2 e he).1
  · rw [List.mem_singleton.1 h]
    exact (h2 e he).2

set_option maxHeartbeats 8000000 in
theorem RefBytes_any (L : List Int) (E : List (Int × Int)) (A B : Option Addr) (n c m d : Nat) (w : World) (hR : rightP L E) (hl : L.length = n) (hc : n ≤ c ∧ c ≤ 9223372036854775807) (hs : Sl w 1 A n (L.map (Value.int .i64))) (ht : Sl w 2 B m (Rk.cells E)) (hm28 : m ≤ 28) (hi64 : ∀ x ∈ endsL E, -9223372036854775808 ≤ x ∧ x ≤ 9223372036854775807) :
    Calls Tryz.prog 28 #[pv A n c B m d] w fun e w' => ∃ C k, e = .returned (.slice C (bytesP L E).length k) ∧ Sl w' 1 C (bytesP L E).length ((bytesP L E).map (Value.int .u8)) ∧ Below w.heap.size w w' := by
  have hb0 := bel_al (Below.refl w.heap.size w) (.cells #[.slice A n c, .slice B m d] 25)
  have HB0 := Lib.hid hb0
  have HK := Lib.hid (Blk.new w 25 #[.slice A n c, .slice B m d])
  have HS := Lib.hid (hs.keep hb0)
  have HTt := Lib.hid (ht.keep hb0)
  have HM := Lib.hid ht.len2
  have HL := Lib.hid hl
  have HR := Lib.hid hR
  have hn8 : n ≤ 8 := by rw [← hl]; exact hR.1.1
  have HCc := Lib.hid hc
  clear hb0 hs ht hl hR
  go_enter Tryz.func28, Tryz.ntmps28
  go_wp2_with fail
  obtain ⟨w0, hw0⟩ : ∃ w0, w0 = w.alloc (.cells #[.slice A n c, .slice B m d] 25) := ⟨_, rfl⟩
  rw [← hw0] at HB0 HK HS HTt ⊢
  clear hw0
  have HCe := Lib.hid (show ∀ V, Below w0.heap.size w0 V → V.cell? ⟨w.heap.size, 0, none⟩ = some (.slice A n c) ∧ V.cell? ⟨w.heap.size, 1, none⟩ = some (.slice B m d) from fun V hV => by
    have k0 := (HK.out.keep hV).cell 0
    have k1 := (HK.out.keep hV).cell 1
    simp at k0 k1
    exact ⟨k0, k1⟩)
  go_loopw [3, 4] (fun v iv wr => ∃ k : Nat, k ≤ m ∧ iv = .int .i64 (k : Int) ∧ Hid (wr.ownsRow w0.heap.size 3 1 v (2 * k) ((endsL (E.take k)).map (Value.int .i64))) ∧ Hid (Below w0.heap.size w0 wr)) (fun _ iv _ => m - (intOf iv).toNat)
  case atStart => exact ⟨0, Nat.zero_le _, rfl, Lib.hid (by simpa [endsL] using World.ownsRow_nil _ _ _ _), Lib.hid (Below.refl _ _)⟩
  case round =>
    obtain ⟨k, hk, rfl, HO, HB⟩ := hrel
    obtain ⟨k0, k1⟩ := HCe.out wr HB.out
    by_cases hlt : k < m
    · have hlt' : (k : Int) < (m : Int) := by omega
      have hk0 : (0 : Int) ≤ (k : Int) := by omega
      obtain ⟨⟨x, y⟩, he⟩ : ∃ e, E[k]? = some e := ⟨_, List.getElem?_eq_getElem (by rw [HM.out]; exact hlt)⟩
      obtain ⟨b2, off2, rfl, c0, c1⟩ := (HTt.out.keep HB.out).edge hlt he
      simp only at c0 c1
      have HE := Lib.hid (show endsL (E.take (k + 1)) = endsL (E.take k) ++ [x, y] from by
        obtain ⟨h1, h2⟩ := List.getElem?_eq_some_iff.1 he
        rw [List.take_succ_eq_append_getElem h1, h2, endsL_snoc])
      have hbd := bel_drewN (Below.refl wr.heap.size wr) 1
      have HOd := Lib.hid (own_block HO.out (w' := wr.drewN 1) fun g hg => hbd.block g (HO.out.lt g hg).2)
      have HBd := Lib.hid (HB.out.andThen hbd)
      have HBs := Lib.hid (show w0.heap.size ≤ (wr.drewN 1).heap.size from (HB.out.andThen hbd).size)
      have HAll := Lib.hid (show ∀ V, Below w0.heap.size w0 V → V.cell? ⟨w.heap.size, 1, none⟩ = some (.slice (some ⟨b2, off2, none⟩) m d) ∧ V.cell? ⟨b2, off2 + k * 2, none⟩ = some (.int .i64 x) ∧ V.cell? ⟨b2, off2 + k * 2 + 1, none⟩ = some (.int .i64 y) from fun V hV => by
        obtain ⟨b3, off3, hA, e0, e1⟩ := (HTt.out.keep hV).edge hlt he
        cases hA
        exact ⟨(HCe.out V hV).2, e0, e1⟩)
      clear he hbd
      go_wp2_with fail
      go_region_held3 (fun w' => w'.cell? ⟨w.heap.size, 1, none⟩ = some (.slice (some ⟨b2, off2, none⟩) m d) ∧ w'.cell? ⟨b2, off2 + k * 2, none⟩ = some (.int .i64 x) ∧ w'.cell? ⟨b2, off2 + k * 2 + 1, none⟩ = some (.int .i64 y)) (go_keep)
        ((refine step_cat_at elemInt (.tmp 14) (.tmp 27) (by rfl) (by rfl) (HOd.out.alloc _) (by have := HBs.out; simp at this ⊢; omega) (Sl.newAt _ [_, _] _ 2 rfl) (by rfl) (by rfl) (by simp [Value.oneCell']) (by unfold lim; omega) (by unfold lim; omega) ?_; intro v6 w6 hown6 hgr; have HO6 := Lib.hid hown6; have HB6 := Lib.hid ((HBd.out.alloc HBs.out _).trans (hgr.belowOwn (by have := HBs.out; simp at this ⊢; omega) (HOd.out.alloc _))); obtain ⟨q1, q2, q3⟩ := HAll.out _ HB6.out; clear hown6 hgr))
      all_goals (
        go_wp2_with fail
        go_roundw
        case rel => exact ⟨k + 1, by omega, by go_num, Lib.hid (by have h := HO6.out; rw [HE.out, List.map_append, show 2 * (k + 1) = 2 * k + 2 by omega]; simpa using h), HB6⟩
        case measure => simp [intOf]; omega)
    · obtain rfl : k = m := by omega
      have hlt' : ¬ (k : Int) < (k : Int) := by omega
      rw [List.take_of_length_le (by rw [HM.out]; exact Nat.le_refl _)] at HO
      obtain ⟨X, xc, rfl, hX⟩ := Sl.own HO.out
      have hcap := own_cap HO.out
      have HX := Lib.hid hX
      have HCap := Lib.hid hcap
      have HPt := Lib.hid (fun V (hV : Its V (some ⟨wr.heap.size, 0, none⟩) 2 [⟨3, 0, ⟨#[]⟩, L⟩, ⟨3, 0, ⟨#[]⟩, endsL E⟩]) => Put_ref [⟨3, 0, ⟨#[]⟩, L⟩, ⟨3, 0, ⟨#[]⟩, endsL E⟩] (some ⟨wr.heap.size, 0, none⟩) 2 2 V hV ⟨show (2 : Nat) ≤ 40 by decide, fun x hx => by
        have e2 : (endsL E).length = 2 * k := by rw [endsL_len, HM.out]
        rcases List.mem_cons.1 hx with rfl | hx
        · refine ⟨(show (0 : Nat) ≤ 200 by decide), ?_, (show (0 : Int) ≤ 3 by decide), (show (3 : Int) ≤ 3 by decide)⟩
          simp only
          rw [HL.out]
          omega
        · obtain rfl := List.mem_singleton.1 hx
          refine ⟨(show (0 : Nat) ≤ 200 by decide), ?_, (show (0 : Int) ≤ 3 by decide), (show (3 : Int) ≤ 3 by decide)⟩
          simp only
          rw [e2]
          omega⟩)
      have HIt := Lib.hid (show Its (wr.alloc (.cells #[.int .i64 3, .int .i64 0, .string ⟨#[]⟩, .slice A n c, .int .i64 3, .int .i64 0, .string ⟨#[]⟩, .slice X (2 * k) xc] 103)) (some ⟨wr.heap.size, 0, none⟩) 2 [⟨3, 0, ⟨#[]⟩, L⟩, ⟨3, 0, ⟨#[]⟩, endsL E⟩] from by
        have e2 : (endsL E).length = 2 * k := by rw [endsL_len, HM.out]
        have hk := Blk.new wr 103 #[.int .i64 3, .int .i64 0, .string ⟨#[]⟩, .slice A n c, .int .i64 3, .int .i64 0, .string ⟨#[]⟩, .slice X (2 * k) xc]
        have hal := bel_al (Below.refl wr.heap.size wr) (.cells #[.int .i64 3, .int .i64 0, .string ⟨#[]⟩, .slice A n c, .int .i64 3, .int .i64 0, .string ⟨#[]⟩, .slice X (2 * k) xc] 103)
        refine ⟨rfl, fun i x hx => ?_⟩
        match i, hx with
        | 0, hx =>
          cases hx
          refine ⟨⟨(show (-9223372036854775808 : Int) ≤ 3 ∧ (3 : Int) ≤ 9223372036854775807 by decide), (show (-9223372036854775808 : Int) ≤ 0 ∧ (0 : Int) ≤ 9223372036854775807 by decide), (show (0 : Nat) ≤ 9223372036854775807 by decide), by rw [HL.out]; omega, fun z hz => by have := (right_fits HR.out).1 z hz; unfold fits at this; omega⟩, wr.heap.size, 0, A, c, rfl, ?_, ?_, ?_, ?_, ?_, ?_⟩
          · exact hk.cell 0
          · exact hk.cell 1
          · exact hk.cell 2
          · simp only; rw [HL.out]; exact hk.cell 3
          · simp only; rw [HL.out]; exact (HS.out.keep HB.out).keep hal
          · simp only; rw [HL.out]; exact HCc.out
        | 1, hx =>
          cases hx
          refine ⟨⟨(show (-9223372036854775808 : Int) ≤ 3 ∧ (3 : Int) ≤ 9223372036854775807 by decide), (show (-9223372036854775808 : Int) ≤ 0 ∧ (0 : Int) ≤ 9223372036854775807 by decide), (show (0 : Nat) ≤ 9223372036854775807 by decide), by rw [e2]; omega, fun z hz => hi64 z hz⟩, wr.heap.size, 0, X, xc, rfl, ?_, ?_, ?_, ?_, ?_, ?_⟩
          · exact hk.cell 4
          · exact hk.cell 5
          · exact hk.cell 6
          · simp only; rw [e2]; exact hk.cell 7
          · simp only; rw [e2]; exact HX.out.keep hal
          · simp only; rw [e2]; exact HCap.out
        | i + 2, hx => simp at hx)
      have HEq := Lib.hid (show (pItems [⟨3, 0, ⟨#[]⟩, L⟩, ⟨3, 0, ⟨#[]⟩, endsL E⟩] ([], .nil)).1 = bytesP L E from put_two (right_fits HR.out).1 (right_fits HR.out).2.2 (by rw [HL.out]; omega) (by rw [endsL_len, HM.out]; omega))
      clear hX hcap hi64
      go_wp2_with (go_at_call 62; refine (HPt.out _ HIt.out).mono ?_; clear HPt HIt; rintro e w4 ⟨C, kk, rfl, hs4, hb4⟩; rw [HEq.out] at hs4 ⊢; have HS4 := Lib.hid hs4; have HB4 := Lib.hid ((bel_al (Below.refl _ _) _).andThen hb4); clear hs4 hb4)
      go_ret
      exact ⟨C, kk, rfl, HS4.out, HB0.out.andThen (HB.out.andThen HB4.out)⟩
end Go.Proofs.YtddedghnnkcnhaaGreatDoor
/-
  Bits of an int, plainly: tested, set, by small numbers.
-/
namespace Go.Proofs.YtddedghnnkcnhaaGreatDoor
open Go.RowKit
set_option linter.unusedVariables false

theorem bq_and (a b : Nat) (ha : a < 2^63) (hb : b < 2^63) : bits .and .i64 a b = ((a &&& b : Nat) : Int) := by
  have h1 : (BitVec.ofInt 64 (a : Int) &&& BitVec.ofInt 64 (b : Int)).toNat = a &&& b := by
    rw [BitVec.toNat_and, BitVec.ofInt_natCast, BitVec.ofInt_natCast, BitVec.toNat_ofNat, BitVec.toNat_ofNat, Nat.mod_eq_of_lt (by omega), Nat.mod_eq_of_lt (by omega)]
  have h2 : a &&& b < 2^63 := Nat.lt_of_le_of_lt Nat.and_le_left ha
  show IntKind.i64.wrap (((BitVec.ofInt 64 (a : Int) &&& BitVec.ofInt 64 (b : Int)).toNat : Nat) : Int) = _
  rw [h1]
  exact IntWalk.i64_in _ (by omega)
theorem bq_or (a b : Nat) (ha : a < 2^63) (hb : b < 2^63) : bits .or .i64 a b = ((a ||| b : Nat) : Int) := by
  have h1 : (BitVec.ofInt 64 (a : Int) ||| BitVec.ofInt 64 (b : Int)).toNat = a ||| b := by
    rw [BitVec.toNat_or, BitVec.ofInt_natCast, BitVec.ofInt_natCast, BitVec.toNat_ofNat, BitVec.toNat_ofNat, Nat.mod_eq_of_lt (by omega), Nat.mod_eq_of_lt (by omega)]
  have h2 : a ||| b < 2^63 := Nat.or_lt_two_pow ha hb
  show IntKind.i64.wrap (((BitVec.ofInt 64 (a : Int) ||| BitVec.ofInt 64 (b : Int)).toNat : Nat) : Int) = _
  rw [h1]
  exact IntWalk.i64_in _ (by omega)
theorem bq_test (m y : Nat) (hm : m < 256) : (bits .and .i64 ((m : Int) / 2 ^ y) 1 == 1) = m.testBit y := by
  have h0 : ((m : Int) / 2 ^ y) = ((m >>> y : Nat) : Int) := by rw [Nat.shiftRight_eq_div_pow]; push_cast; rfl
  have h1 : m >>> y ≤ m := by rw [Nat.shiftRight_eq_div_pow]; exact Nat.div_le_self _ _
  rw [h0, show (1 : Int) = ((1 : Nat) : Int) from rfl, bq_and _ _ (by omega) (by omega), Nat.testBit, Nat.and_comm]
  generalize hq : (1 &&& m >>> y) = q
  have hq2 : q < 2 := by rw [← hq, Nat.one_and_eq_mod_two]; omega
  match q, hq2 with
  | 0, _ => rfl
  | 1, _ => rfl
theorem bq_pow {y : Nat} (hy : y ≤ 8) : 2 ^ y ≤ 256 := by
  have : 2 ^ y ≤ 2 ^ 8 := Nat.pow_le_pow_right (by omega) hy
  omega
theorem bq_shl {y : Nat} (hy : y ≤ 8) : wrap64 (2 ^ y) = ((2 ^ y : Nat) : Int) := by
  have hp := bq_pow hy
  have : ((2 : Int) ^ y) = ((2 ^ y : Nat) : Int) := by push_cast; rfl
  rw [this]
  generalize 2 ^ y = q at hp
  exact IntWalk.wrap64_in (q : Int) (by omega)
theorem bq_set2 {m a b : Nat} (hm : m < 256) (ha : a < 8) (hb : b < 8) : bits .or .i64 (m : Int) (bits .or .i64 (wrap64 (2 ^ a)) (wrap64 (2 ^ b))) = ((m ||| (1 <<< a ||| 1 <<< b) : Nat) : Int) := by
  have h1 : 2 ^ a < 2 ^ 8 := Nat.pow_lt_pow_right (by omega) ha
  have h2 : 2 ^ b < 2 ^ 8 := Nat.pow_lt_pow_right (by omega) hb
  have h3 : 2 ^ a ||| 2 ^ b < 2 ^ 8 := Nat.or_lt_two_pow h1 h2
  rw [bq_shl (by omega), bq_shl (by omega), bq_or _ _ (by omega) (by omega), bq_or _ _ (by omega) (by omega), Nat.one_shiftLeft, Nat.one_shiftLeft]
end Go.Proofs.YtddedghnnkcnhaaGreatDoor
/-
  pat.Connected: by bit masks.
-/
namespace Go.Proofs.YtddedghnnkcnhaaGreatDoor
open Go.RowKit
set_option maxRecDepth 100000
set_option linter.unusedVariables false

theorem passM_take {E : List (Int × Int)} {j s : Nat} {e : Int × Int} (h : E[j]? = some e) : passM (E.take (j + 1)) s = stepM (passM (E.take j) s) e := by
  obtain ⟨h1, h2⟩ := List.getElem?_eq_some_iff.1 h
  unfold passM
  rw [List.take_succ_eq_append_getElem h1, h2, List.foldl_append]
  rfl
theorem right_nil {L : List Int} {E : List (Int × Int)} {P : Program} {f : FuncId} {args : Array Value} {w : World} (h : rightP L E) (hc : Calls P f args w (RightRes L E w)) : Calls P f args w fun e w' => e = .returned .nilIface ∧ Below w.heap.size w w' :=
  hc.mono fun e w' hr => by
    rcases hr with ⟨_, h1, h2⟩ | ⟨hn, _⟩
    · exact ⟨h1, h2⟩
    · exact absurd h hn
theorem right_bad {L : List Int} {E : List (Int × Int)} {P : Program} {f : FuncId} {args : Array Value} {w : World} (h : ¬ rightP L E) (hc : Calls P f args w (RightRes L E w)) : Calls P f args w fun e w' => ∃ (g : Nat) (c a : Int) (s : ByteArray), e = .returned (.iface 145 (.pointer (some ⟨g, 0, none⟩))) ∧ (Err.flt c a s).At w' (.iface 145 (.pointer (some ⟨g, 0, none⟩))) ∧ Below w.heap.size w w' ∧ 0 < c :=
  hc.mono fun e w' hr => by
    rcases hr with ⟨hn, _⟩ | ⟨_, c, a, s, v, rfl, ⟨g, rfl, hk⟩, hb, hc, _⟩
    · exact absurd hn h
    · exact ⟨g, c, a, s, rfl, ⟨g, rfl, hk⟩, hb, hc⟩

set_option maxHeartbeats 8000000 in
theorem Connected_any (L : List Int) (E : List (Int × Int)) (A B : Option Addr) (n c m d : Nat) (w : World) (hl : L.length = n) (hn : n ≤ 1000000) (hm : m ≤ 1000000) (hs : Sl w 1 A n (L.map (Value.int .i64))) (ht : Sl w 2 B m (Rk.cells E)) :
    Calls Tryz.prog 18 #[pv A n c B m d] w (ConRes L E w) := by
  have hb0 := bel_al (Below.refl w.heap.size w) (.cells #[.slice A n c, .slice B m d] 31)
  have HB0 := Lib.hid hb0
  have HK := Lib.hid (Blk.new w 31 #[.slice A n c, .slice B m d])
  have HRt := Lib.hid (PatRight_any L E A B n c m d _ hl hn hm (hs.keep hb0) (ht.keep hb0))
  have HT := Lib.hid (ht.keep hb0)
  have HM := Lib.hid ht.len2
  have HL := Lib.hid hl
  clear hb0 hs ht hl
  rcases Nat.eq_zero_or_pos n with h0 | h0
  · subst h0
    go_enter Tryz.func18, Tryz.ntmps18
    go_wp2_with fail
    go_ret
    exact ⟨false, rfl, ⟨fun h => (by cases h), fun h => by have := h.2.1; rw [HL.out] at this; omega⟩, HB0.out⟩
  · have hn0 : ((n : Int) == 0) = false := by simp; omega
    have HN0 := Lib.hid h0
    by_cases hR : rightP L E
    · have HRn := Lib.hid (right_nil hR HRt.out)
      have h8 := hR.1.1
      rw [HL.out] at h8
      have hed := right_edges hR
      rw [HL.out] at hed
      have HEd := Lib.hid hed
      have HR := Lib.hid hR
      have HLt := Lib.hid (fun k => iterM_lt (E := E) h0 (fun e he => by have := hed e he; omega) k)
      have HPl := Lib.hid (fun j k => passM_lt (n := n) (E.take j) (s := iterM E k) (iterM_lt (E := E) h0 (fun e he => by have := hed e he; omega) k) fun e he => by have := hed e (List.mem_of_mem_take he); omega)
      have HMk := Lib.hid (mask_all (E := E) h0 hed)
      have hsh := bq_shl (y := n) h8
      have hpw := bq_pow (y := n) h8
      have hmn : min n 64 = n := by omega
      have HPw := Lib.hid hpw
      have hp1 : 1 ≤ 2 ^ n := Nat.one_le_two_pow
      obtain ⟨q, hq⟩ : ∃ q, q = 2 ^ n := ⟨_, rfl⟩
      rw [← hq] at hsh hpw hp1 HPw
      have HQ := Lib.hid hq
      have hsub : IntKind.i64.wrap ((q : Int) - 1) = (q : Int) - 1 := by rw [IntKind.wrap_i64]; omega
      clear hR hed HRt hq
      go_enter Tryz.func18, Tryz.ntmps18
      obtain ⟨w0, hw0⟩ : ∃ w0, w0 = w.alloc (.cells #[.slice A n c, .slice B m d] 31) := ⟨_, rfl⟩
      have HW0 := Lib.hid hw0
      rw [← hw0] at HRn HB0 HK HT
      clear hw0
      have HCe := Lib.hid (show ∀ V, Below w0.heap.size w0 V → V.cell? ⟨w.heap.size, 0, none⟩ = some (.slice A n c) ∧ V.cell? ⟨w.heap.size, 1, none⟩ = some (.slice B m d) from fun V hV => by
        have k0 := (HK.out.keep hV).cell 0
        have k1 := (HK.out.keep hV).cell 1
        simp at k0 k1
        exact ⟨k0, k1⟩)
      go_wp2_with (rw [← HW0.out]; go_at_call 30; refine HRn.out.mono ?_; clear HRn; rintro e w1 ⟨rfl, hb1⟩; have HB1 := Lib.hid hb1; obtain ⟨k0, k1⟩ := HCe.out w1 hb1; clear hb1)
      go_loopw [3, 18] (fun sv iv wr => ∃ k : Nat, k ≤ n ∧ iv = .int .i64 (k : Int) ∧ sv = .int .i64 (iterM E k : Nat) ∧ Hid (Below w0.heap.size w0 wr)) (fun _ iv _ => n - (intOf iv).toNat)
      case atStart => exact ⟨0, Nat.zero_le _, rfl, rfl, HB1⟩
      case round =>
        clear HB1 k0 k1
        obtain ⟨k, hk, rfl, rfl, HB⟩ := hrel
        obtain ⟨k0, k1⟩ := HCe.out wr HB.out
        by_cases hlt : k < n
        · have hlt' : (k : Int) < (n : Int) := by omega
          have HS0 := Lib.hid (show iterM E (k + 1) = passM (E.take m) (iterM E k) from by rw [List.take_of_length_le (by rw [HM.out]; exact Nat.le_refl _)]; rfl)
          have HPk := Lib.hid (fun j => HPl.out j k)
          obtain ⟨s0, hs0⟩ : ∃ s0, s0 = iterM E k := ⟨_, rfl⟩
          rw [← hs0] at HS0 HPk ⊢
          clear hs0
          go_wp2_with fail
          have HBo := Lib.hid HB.out
          go_loopw [3, 23] (fun sv jv wx => ∃ j : Nat, j ≤ m ∧ jv = .int .i64 (j : Int) ∧ sv = .int .i64 (passM (E.take j) s0 : Nat) ∧ Hid (Below w0.heap.size w0 wx)) (fun _ jv _ => m - (intOf jv).toNat)
          case atStart => exact ⟨0, Nat.zero_le _, rfl, rfl, HBo⟩
          case round =>
            clear HBo HB k0 k1
            obtain ⟨j, hj, rfl, rfl, HB⟩ := hrel
            obtain ⟨k0, k1⟩ := HCe.out wr HB.out
            have hlt8 := HPk.out j
            rw [← HQ.out] at hlt8
            have hlt8 := Nat.lt_of_lt_of_le hlt8 HPw.out
            by_cases hjm : j < m
            · have hjm' : (j : Int) < (m : Int) := by omega
              have hj0 : (0 : Int) ≤ (j : Int) := by omega
              obtain ⟨⟨x, y⟩, he⟩ : ∃ e, E[j]? = some e := ⟨_, List.getElem?_eq_getElem (by rw [HM.out]; exact hjm)⟩
              obtain ⟨b1, off1, rfl, c0, c1⟩ := (HT.out.keep HB.out).edge hjm he
              simp only at c0 c1
              have hxy := HEd.out _ (List.mem_of_getElem? he)
              simp only at hxy
              obtain ⟨x1, x2, y1, y2⟩ := hxy
              obtain ⟨a, rfl⟩ := Int.eq_ofNat_of_zero_le x1
              obtain ⟨b, rfl⟩ := Int.eq_ofNat_of_zero_le y1
              have HSt := Lib.hid (passM_take (s := s0) he)
              have ha8 : a < 8 := by omega
              have hb8 : b < 8 := by omega
              obtain ⟨s, hs⟩ : ∃ s, s = passM (E.take j) s0 := ⟨_, rfl⟩
              rw [← hs] at HSt hlt8 ⊢
              have hma : min a 64 = a := by omega
              have hmb : min b 64 = b := by omega
              have ta := bq_test s a hlt8
              have tb := bq_test s b hlt8
              have HSet := Lib.hid (bq_set2 hlt8 ha8 hb8)
              have HSM := Lib.hid (show stepM s ((a : Int), (b : Int)) = if s.testBit a || s.testBit b then s ||| (1 <<< a ||| 1 <<< b) else s from rfl)
              clear he hs x1 y1 x2 y2 ha8 hb8 hlt8
              cases hta : s.testBit a with
              | true =>
                rw [hta] at ta HSM
                have HFin := Lib.hid (show (passM (E.take (j + 1)) s0 : Nat) = s ||| (1 <<< a ||| 1 <<< b) from by rw [HSt.out, HSM.out]; simp)
                clear hta
                go_wp2_with fail
                go_quiet (fail)
                go_wp2_with fail
                go_roundw
                case rel => exact ⟨j + 1, by omega, by go_num, by rw [HFin.out, ← HSet.out], Lib.hid (bel_drewN (bel_alloc HB.out (Nat.le_refl _) _) _)⟩
                case measure => simp [intOf]; omega
              | false =>
                rw [hta] at ta HSM
                cases htb : s.testBit b with
                | true =>
                  rw [htb] at tb HSM
                  have HFin := Lib.hid (show (passM (E.take (j + 1)) s0 : Nat) = s ||| (1 <<< a ||| 1 <<< b) from by rw [HSt.out, HSM.out]; simp)
                  clear hta htb
                  go_wp2_with fail
                  go_quiet (fail)
                  go_wp2_with fail
                  go_roundw
                  case rel => exact ⟨j + 1, by omega, by go_num, by rw [HFin.out, ← HSet.out], Lib.hid (bel_drewN (bel_alloc HB.out (Nat.le_refl _) _) _)⟩
                  case measure => simp [intOf]; omega
                | false =>
                  rw [htb] at tb HSM
                  have HFin := Lib.hid (show (passM (E.take (j + 1)) s0 : Nat) = s from by rw [HSt.out, HSM.out]; simp)
                  clear hta htb
                  go_wp2_with fail
                  go_roundw
                  case rel => exact ⟨j + 1, by omega, by go_num, by rw [HFin.out], Lib.hid (bel_alloc HB.out (Nat.le_refl _) _)⟩
                  case measure => simp [intOf]; omega
            · obtain rfl : j = m := by omega
              have hjm' : ¬ (j : Int) < (j : Int) := by omega
              rw [← HS0.out]
              go_wp2_with fail
              go_roundw
              case rel => exact ⟨k + 1, by omega, by go_num, rfl, HB⟩
              case measure => simp [intOf]; omega
        · obtain rfl : k = n := by omega
          have hlt' : ¬ (k : Int) < (k : Int) := by omega
          obtain ⟨s, hs⟩ : ∃ s, s = iterM E k := ⟨_, rfl⟩
          have HS := Lib.hid hs
          rw [← hs]
          clear hs
          go_wp2_with fail
          go_ret
          refine ⟨_, rfl, ?_, HB0.out.andThen HB.out⟩
          rw [beq_iff_eq]
          have h1 := HMk.out
          rw [← HS.out, ← HQ.out] at h1
          constructor
          · intro h
            exact ⟨HR.out, by rw [HL.out]; exact HN0.out, by rw [HL.out]; exact h1.1 (by omega)⟩
          · intro h
            have := h1.2 (by have := h.2.2; rwa [HL.out] at this)
            omega
    · have HRn := Lib.hid (right_bad hR HRt.out)
      clear HRt
      go_enter Tryz.func18, Tryz.ntmps18
      go_wp2_with (go_at_call 30; refine HRn.out.mono ?_; clear HRn; rintro e w1 ⟨g, cc, at0, s, rfl, _, hb1, _⟩; have HB1 := Lib.hid (HB0.out.andThen hb1); clear hb1)
      go_ret
      exact ⟨false, rfl, ⟨fun h => (by cases h), fun h => absurd h.1 hR⟩, HB1.out⟩
end Go.Proofs.YtddedghnnkcnhaaGreatDoor
