/-
  The document's choices, plainly: the bits of all numbers up to 2^n, put in order, are all choices of k.
-/
import Derived.Test.YtakkdpnaoahpcaaSetsO
namespace Go.Proofs.Ytakkdpnaoahpcaa
set_option linter.unusedVariables false

/-- Those of a list that a number's bits name. -/
def bitsL : Nat → List Int → List Int
  | _, [] => []
  | m, x :: X => if m % 2 = 1 then x :: bitsL (m / 2) X else bitsL (m / 2) X
theorem bitsL_nil (m : Nat) : bitsL m [] = [] := by unfold bitsL; rfl
theorem bitsL_take : ∀ (X : List Int) (m i : Nat) (x : Int), X[i]? = some x → bitsL m (X.take (i + 1)) = bitsL m (X.take i) ++ (if m / 2 ^ i % 2 = 1 then [x] else [])
  | [], m, i, x, h => by simp at h
  | y :: X, m, 0, x, h => by
    obtain rfl : y = x := by simpa using h
    simp [bitsL, bitsL_nil]
  | y :: X, m, i + 1, x, h => by
    have ih := bitsL_take X (m / 2) i x (by simpa using h)
    have e : m / 2 ^ (i + 1) = m / 2 / 2 ^ i := by rw [Nat.pow_succ', Nat.div_div_eq_div_mul]
    rw [e, List.take_succ_cons, List.take_succ_cons, bitsL, bitsL, ih]
    split <;> simp
theorem bitsL_len : ∀ (X : List Int) (m : Nat), (bitsL m X).length ≤ X.length
  | [], m => by simp [bitsL_nil]
  | y :: X, m => by
    have ih := bitsL_len X (m / 2)
    rw [bitsL]
    split <;> simp <;> omega
theorem bitsL_mem : ∀ (X : List Int) (m : Nat) (y : Int), y ∈ bitsL m X → y ∈ X
  | [], m, y, h => by simp [bitsL_nil] at h
  | z :: X, m, y, h => by
    rw [bitsL] at h
    split at h
    · rcases List.mem_cons.1 h with rfl | h
      · exact List.mem_cons_self ..
      · exact List.mem_cons_of_mem _ (bitsL_mem X (m / 2) y h)
    · exact List.mem_cons_of_mem _ (bitsL_mem X (m / 2) y h)
theorem bitsL_inj : ∀ (X : List Int) (m m' : Nat), X.Nodup → m < 2 ^ X.length → m' < 2 ^ X.length → bitsL m X = bitsL m' X → m = m'
  | [], m, m', _, h, h', _ => by simp at h h'; omega
  | x :: X, m, m', hX, h, h', e => by
    obtain ⟨hx, hX'⟩ := List.nodup_cons.1 hX
    rw [List.length_cons, Nat.pow_succ] at h h'
    rw [bitsL, bitsL] at e
    have key : bitsL (m / 2) X = bitsL (m' / 2) X → m / 2 = m' / 2 := bitsL_inj X (m / 2) (m' / 2) hX' (by omega) (by omega)
    by_cases h1 : m % 2 = 1
    · by_cases h2 : m' % 2 = 1
      · rw [if_pos h1, if_pos h2] at e
        have := key (List.cons.inj e).2
        omega
      · rw [if_pos h1, if_neg h2] at e
        exact absurd (bitsL_mem X _ x (by rw [← e]; exact List.mem_cons_self ..)) hx
    · by_cases h2 : m' % 2 = 1
      · rw [if_neg h1, if_pos h2] at e
        exact absurd (bitsL_mem X _ x (by rw [e]; exact List.mem_cons_self ..)) hx
      · rw [if_neg h1, if_neg h2] at e
        have := key e
        omega
theorem bitsL_combos : ∀ (X : List Int) (m k : Nat), (bitsL m X).length = k → bitsL m X ∈ combos k X
  | [], m, k, h => by
    rw [bitsL_nil] at h ⊢
    obtain rfl : k = 0 := by simpa using h.symm
    rw [combos_zero]; exact List.mem_cons_self ..
  | x :: X, m, 0, h => by
    rw [List.eq_nil_of_length_eq_zero h, combos_zero]; exact List.mem_cons_self ..
  | x :: X, m, k + 1, h => by
    rw [bitsL] at h ⊢
    rw [combos]
    split at h <;> rename_i h1
    · rw [if_pos h1]
      exact List.mem_append_left _ (List.mem_map.2 ⟨_, bitsL_combos X (m / 2) k (by simpa using h), rfl⟩)
    · rw [if_neg h1]
      exact List.mem_append_right _ (bitsL_combos X (m / 2) (k + 1) h)
theorem bitsL_zero : ∀ X : List Int, bitsL 0 X = []
  | [] => bitsL_nil 0
  | x :: X => by rw [bitsL, if_neg (by omega)]; exact bitsL_zero X
theorem combos_bitsL : ∀ (X : List Int) (k : Nat) (p : List Int), p ∈ combos k X → ∃ m, m < 2 ^ X.length ∧ bitsL m X = p
  | X, 0, p, h => by
    rw [combos_zero] at h
    obtain rfl : p = [] := by simpa using h
    exact ⟨0, Nat.one_le_two_pow, bitsL_zero X⟩
  | [], k + 1, p, h => by simp [combos] at h
  | x :: X, k + 1, p, h => by
    rw [combos] at h
    rcases List.mem_append.1 h with h | h
    · obtain ⟨q, hq, rfl⟩ := List.mem_map.1 h
      obtain ⟨m, hm, hb⟩ := combos_bitsL X k q hq
      refine ⟨2 * m + 1, by rw [List.length_cons, Nat.pow_succ]; omega, ?_⟩
      rw [bitsL, if_pos (by omega), show (2 * m + 1) / 2 = m by omega, hb]
    · obtain ⟨m, hm, hb⟩ := combos_bitsL X (k + 1) p h
      refine ⟨2 * m, by rw [List.length_cons, Nat.pow_succ]; omega, ?_⟩
      rw [bitsL, if_neg (by omega), show 2 * m / 2 = m by omega, hb]

abbrev Rise (L : List (List Int)) : Prop := L.Pairwise fun p q => cmpL p q = -1
theorem cmpL_self (p : List Int) : cmpL p p = 0 := cmpL_zero.2 rfl
theorem cmpL_lt_trans {a b c : List Int} (h1 : cmpL a b = -1) (h2 : cmpL b c = -1) : cmpL a c = -1 := by
  have h := cmpL_trans (show cmpL a b ≤ 0 by omega) (show cmpL b c ≤ 0 by omega)
  rcases cmpL_range a c with h3 | h3 | h3
  · exact h3
  · obtain rfl := cmpL_zero.1 h3
    have h4 := cmpL_neg a b
    omega
  · omega
/-- Two rising lists of the same are the same. -/
theorem rise_eq : ∀ (L M : List (List Int)), Rise L → Rise M → (∀ p, p ∈ L ↔ p ∈ M) → L = M
  | [], [], _, _, _ => rfl
  | [], b :: M, _, _, h => by have := (h b).2 (List.mem_cons_self ..); cases this
  | a :: L, [], _, _, h => by have := (h a).1 (List.mem_cons_self ..); cases this
  | a :: L, b :: M, hL, hM, h => by
    obtain ⟨hL1, hL2⟩ := List.pairwise_cons.1 hL
    obtain ⟨hM1, hM2⟩ := List.pairwise_cons.1 hM
    have e : a = b := by
      rcases List.mem_cons.1 ((h a).1 (List.mem_cons_self ..)) with e | h1
      · exact e
      · rcases List.mem_cons.1 ((h b).2 (List.mem_cons_self ..)) with e | h2
        · exact e.symm
        · have h3 := hM1 a h1
          have h4 := hL1 b h2
          have h5 := cmpL_neg a b
          omega
    subst e
    rw [rise_eq L M hL2 hM2 (fun p => ?_)]
    have hne : ∀ K : List (List Int), (∀ q ∈ K, cmpL a q = -1) → p ∈ K → p ≠ a := fun K hK hp e => by
      have := hK p hp
      rw [e, cmpL_self] at this
      omega
    constructor
    · intro hp
      rcases List.mem_cons.1 ((h p).1 (List.mem_cons_of_mem _ hp)) with e | h1
      · exact absurd e (hne L hL1 hp)
      · exact h1
    · intro hp
      rcases List.mem_cons.1 ((h p).2 (List.mem_cons_of_mem _ hp)) with e | h1
      · exact absurd e (hne M hM1 hp)
      · exact h1

/-- What the numbers below m have put in order. -/
def Rf (X : List Int) (k : Int) (m : Nat) (out : List (List Int)) : Prop := Rise out ∧ ∀ p, p ∈ out ↔ ∃ m', m' < m ∧ bitsL m' X = p ∧ (p.length : Int) = k
theorem Rf.none (X : List Int) (k : Int) : Rf X k 0 [] := ⟨List.Pairwise.nil, fun p => ⟨fun h => (by cases h), fun ⟨m', h, _⟩ => by omega⟩⟩
theorem Rf.skip {X : List Int} {k : Int} {m : Nat} {out : List (List Int)} (h : Rf X k m out) (hk : ((bitsL m X).length : Int) ≠ k) : Rf X k (m + 1) out := by
  refine ⟨h.1, fun p => (h.2 p).trans ?_⟩
  constructor
  · rintro ⟨m', h1, h2⟩
    exact ⟨m', by omega, h2⟩
  · rintro ⟨m', h1, h2, h3⟩
    by_cases e : m' = m
    · subst e
      rw [← h2] at h3
      exact absurd h3 hk
    · exact ⟨m', by omega, h2, h3⟩
theorem Rf.ins {X : List Int} {k : Int} {m at_ : Nat} {out : List (List Int)} (h : Rf X k m out) (hX : X.Nodup) (hm : m < 2 ^ X.length) (hk : ((bitsL m X).length : Int) = k) (hat : at_ ≤ out.length)
    (hlo : ∀ q, 0 < at_ → out[at_ - 1]? = some q → ¬ cmpL (bitsL m X) q < 0) (hhi : ∀ j q, at_ ≤ j → out[j]? = some q → cmpL (bitsL m X) q < 0) :
    Rf X k (m + 1) (out.take at_ ++ bitsL m X :: out.drop at_) := by
  have hnew : bitsL m X ∉ out := fun hp => by
    obtain ⟨m', h1, h2, _⟩ := (h.2 _).1 hp
    have := bitsL_inj X m' m hX (by omega) hm h2
    omega
  have hsplit := h.1
  rw [← List.take_append_drop at_ out] at hsplit
  obtain ⟨s1, s2, s3⟩ := List.pairwise_append.1 hsplit
  have hdrop : ∀ q ∈ out.drop at_, cmpL (bitsL m X) q = -1 := fun q hq => by
    obtain ⟨j, hj⟩ := List.mem_iff_getElem?.1 hq
    rw [List.getElem?_drop] at hj
    have h1 := hhi (at_ + j) q (by omega) hj
    rcases cmpL_range (bitsL m X) q with h2 | h2 | h2 <;> omega
  have htake : ∀ q ∈ out.take at_, cmpL q (bitsL m X) = -1 := fun q hq => by
    obtain ⟨j, hj⟩ := List.mem_iff_getElem?.1 hq
    have hj1 : j < at_ := by
      refine Nat.lt_of_not_le fun h0 => ?_
      rw [List.getElem?_eq_none (by rw [List.length_take]; omega)] at hj
      cases hj
    rw [List.getElem?_take_of_lt hj1] at hj
    obtain ⟨z, hz⟩ : ∃ z, out[at_ - 1]? = some z := ⟨_, List.getElem?_eq_getElem (by omega)⟩
    have h1 := hlo z (by omega) hz
    have hzne : cmpL z (bitsL m X) = -1 := by
      have h2 := cmpL_neg (bitsL m X) z
      rcases cmpL_range (bitsL m X) z with h3 | h3 | h3
      · omega
      · exact absurd (by rw [cmpL_zero.1 h3]; exact List.mem_of_getElem? hz) hnew
      · omega
    by_cases e : j = at_ - 1
    · subst e
      rw [hz] at hj
      cases hj
      exact hzne
    · have h4 : cmpL q z = -1 := by
        obtain ⟨a1, a2⟩ := List.getElem?_eq_some_iff.1 hj
        obtain ⟨b1, b2⟩ := List.getElem?_eq_some_iff.1 hz
        have := List.pairwise_iff_getElem.1 h.1 j (at_ - 1) a1 b1 (by omega)
        rw [a2, b2] at this
        exact this
      exact cmpL_lt_trans h4 hzne
  refine ⟨?_, fun p => ?_⟩
  · refine List.pairwise_append.2 ⟨s1, List.pairwise_cons.2 ⟨hdrop, s2⟩, fun a ha b hb => ?_⟩
    rcases List.mem_cons.1 hb with rfl | hb
    · exact htake a ha
    · exact s3 a ha b hb
  · have hmem : p ∈ out.take at_ ++ bitsL m X :: out.drop at_ ↔ p = bitsL m X ∨ p ∈ out := by
      have : p ∈ out ↔ p ∈ out.take at_ ∨ p ∈ out.drop at_ := by rw [← List.mem_append, List.take_append_drop]
      rw [this, List.mem_append, List.mem_cons]
      constructor
      · rintro (h | h | h)
        · exact .inr (.inl h)
        · exact .inl h
        · exact .inr (.inr h)
      · rintro (h | h | h)
        · exact .inr (.inl h)
        · exact .inl h
        · exact .inr (.inr h)
    rw [hmem, h.2]
    constructor
    · rintro (rfl | ⟨m', h1, h2, h3⟩)
      · exact ⟨m, Nat.lt_succ_self m, rfl, hk⟩
      · exact ⟨m', by omega, h2, h3⟩
    · rintro ⟨m', h1, h2, h3⟩
      by_cases e : m' = m
      · subst e; exact .inl h2.symm
      · exact .inr ⟨m', by omega, h2, h3⟩
theorem inc_nodup {X : List Int} (h : Inc X) : X.Nodup := List.Pairwise.imp (fun h => by omega) h
/-- When all numbers have been: all choices of k. -/
theorem Rf.done {X : List Int} {k : Int} {out : List (List Int)} (h : Rf X k (2 ^ X.length) out) (hX : Inc X) : out = choices X k := by
  have hno : ¬ (0 ≤ k ∧ k ≤ X.length) → out = [] := fun h0 => by
    rcases List.eq_nil_or_concat out with e | ⟨o', p, e⟩
    · exact e
    · obtain ⟨m', _, h2, h3⟩ := (h.2 p).1 (by rw [e]; simp)
      have := bitsL_len X m'
      rw [h2] at this
      omega
  unfold choices
  split
  · rename_i hk
    refine rise_eq _ _ h.1 (combos_rise _ X hX) (fun p => ?_)
    rw [h.2]
    constructor
    · rintro ⟨m', h1, rfl, h3⟩
      exact bitsL_combos X m' k.toNat (by omega)
    · intro hp
      obtain ⟨m, hm, rfl⟩ := combos_bitsL X _ p hp
      exact ⟨m, hm, rfl, by have := combos_el _ X _ hp; omega⟩
  · rename_i hk
    exact hno hk
end Go.Proofs.Ytakkdpnaoahpcaa
