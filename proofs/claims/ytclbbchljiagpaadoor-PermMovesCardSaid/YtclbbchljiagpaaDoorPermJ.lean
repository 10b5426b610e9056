/-
  Circles, plainly: how many they are and whether an order is even.
-/
import Derived.Test.YtclbbchljiagpaaDoorPermI
namespace Go.Proofs.YtclbbchljiagpaaDoor
set_option linter.unusedVariables false
set_option linter.unusedSectionVars false

/-- Where a thing goes. -/
def nx (p : List Int) (j : Nat) : Nat := (p.getD j 0).toNat
theorem nx_at {p : List Int} (h : Ord p) {j : Nat} (hj : j < p.length) : p[j]? = some (nx p j : Int) ∧ nx p j < p.length := by
  obtain ⟨m, hm, e⟩ := h.get hj
  have : nx p j = m := by rw [nx, List.getD_eq_getElem?_getD, e]; simp
  rw [this]; exact ⟨e, hm⟩
theorem nx_of {p : List Int} {j m : Nat} (e : p[j]? = some (m : Int)) : nx p j = m := by rw [nx, List.getD_eq_getElem?_getD, e]; simp
def it (f : Nat → Nat) : Nat → Nat → Nat
  | 0, x => x
  | k + 1, x => f (it f k x)
/-- None on its way is less. -/
def IsMin (p : List Int) (i : Nat) : Prop := ∀ k, i ≤ it (nx p) k i
open Classical in
noncomputable def cnt (p : List Int) : Nat := (List.range p.length).countP fun i => decide (IsMin p i)

theorem it_lt {p : List Int} (h : Ord p) {x : Nat} (hx : x < p.length) : ∀ k, it (nx p) k x < p.length
  | 0 => hx
  | k + 1 => (nx_at h (it_lt h hx k)).2
theorem it_fixed {f : Nat → Nat} {x : Nat} (h : f x = x) : ∀ k, it f k x = x
  | 0 => rfl
  | k + 1 => by rw [it, it_fixed h k, h]

theorem countP_one {P Q : Nat → Bool} (k : Nat) (hk : P k = false) (hk' : Q k = true) : ∀ l : List Nat, l.Nodup → (∀ x ∈ l, x ≠ k → P x = Q x) → k ∈ l → l.countP Q = l.countP P + 1
  | x :: l, hn, he, hm => by
    obtain ⟨hx, hn'⟩ := List.nodup_cons.1 hn
    rw [List.countP_cons, List.countP_cons]
    by_cases e : x = k
    · subst e
      have : l.countP Q = l.countP P := by
        apply List.countP_congr
        intro y hy
        rw [he y (List.mem_cons_of_mem _ hy) (fun e => hx (e ▸ hy))]
      rw [this, hk, hk']
      simp
    · rw [he x (List.mem_cons_self ..) e, countP_one k hk hk' l hn' (fun y hy => he y (List.mem_cons_of_mem _ hy)) (by rcases List.mem_cons.1 hm with h | h; exact absurd h.symm e; exact h)]
      omega

section
variable {p : List Int} {a k m : Nat} (ho : Ord p) (hak : a < k) (hk : k < p.length) (hpa : p[a]? = some (k : Int)) (hpk : p[k]? = some (m : Int)) (hmk : m < k) (hf : Fix (k + 1) p)
include ho hak hk hpa hpk hmk
theorem swp_nx_k : nx (swp p a k) k = k := nx_of (by rw [swp_at p a k hak hk, if_pos rfl, hpa])
theorem swp_nx {y : Nat} (hy : y < p.length) (hyk : y ≠ k) : nx (swp p a k) y = if nx p y = k then nx p k else nx p y := by
  by_cases hya : y = a
  · subst hya
    rw [nx_of hpa, if_pos rfl, nx_of hpk]
    exact nx_of (by rw [swp_at p y k hak hk, if_neg hyk, if_pos rfl, hpk])
  · have h1 := nx_at ho hy
    have h2 : nx p y ≠ k := fun e => by
      rw [e] at h1
      exact hya (ho.inj h1.1 hpa)
    rw [if_neg h2]
    exact nx_of (by rw [swp_at p a k hak hk, if_neg hyk, if_neg hya]; exact h1.1)
theorem it_swp {x : Nat} (hx : x < p.length) (hxk : x ≠ k) : ∀ j, (∃ i, it (nx (swp p a k)) j x = it (nx p) i x) ∧ it (nx (swp p a k)) j x ≠ k
  | 0 => ⟨⟨0, rfl⟩, hxk⟩
  | j + 1 => by
    obtain ⟨⟨i, hi⟩, hne⟩ := it_swp hx hxk j
    have hlt : it (nx p) i x < p.length := it_lt ho hx i
    have hs := swp_nx ho hak hk hpa hpk hmk (y := it (nx p) i x) hlt (by rw [← hi]; exact hne)
    show (∃ i, nx (swp p a k) (it (nx (swp p a k)) j x) = it (nx p) i x) ∧ nx (swp p a k) (it (nx (swp p a k)) j x) ≠ k
    rw [hi, hs]
    by_cases h : nx p (it (nx p) i x) = k
    · rw [if_pos h]
      refine ⟨⟨i + 2, ?_⟩, by rw [nx_of hpk]; omega⟩
      show _ = nx p (nx p (it (nx p) i x))
      rw [h]
    · rw [if_neg h]
      exact ⟨⟨i + 1, rfl⟩, h⟩
theorem it_swp' {x : Nat} (hx : x < p.length) (hxk : x ≠ k) : ∀ i, (∃ j, it (nx p) i x = it (nx (swp p a k)) j x) ∨ (it (nx p) i x = k ∧ ∃ j, it (nx p) (i + 1) x = it (nx (swp p a k)) j x)
  | 0 => .inl ⟨0, rfl⟩
  | i + 1 => by
    rcases it_swp' hx hxk i with ⟨j, hj⟩ | ⟨_, j, hj⟩
    · have hne := (it_swp ho hak hk hpa hpk hmk hx hxk j).2
      have hlt : it (nx p) i x < p.length := it_lt ho hx i
      have hs := swp_nx ho hak hk hpa hpk hmk (y := it (nx p) i x) hlt (by rw [hj]; exact hne)
      by_cases h : nx p (it (nx p) i x) = k
      · rw [if_pos h] at hs
        refine .inr ⟨h, j + 1, ?_⟩
        show nx p (nx p (it (nx p) i x)) = nx (swp p a k) (it (nx (swp p a k)) j x)
        rw [h, ← hj, hs]
      · rw [if_neg h] at hs
        refine .inl ⟨j + 1, ?_⟩
        show nx p (it (nx p) i x) = nx (swp p a k) (it (nx (swp p a k)) j x)
        rw [← hj, hs]
    · exact .inl ⟨j, hj⟩
include hf
theorem isMin_swp {x : Nat} (hx : x < p.length) (hxk : x ≠ k) : IsMin p x ↔ IsMin (swp p a k) x := by
  constructor
  · intro h j
    obtain ⟨⟨i, hi⟩, _⟩ := it_swp ho hak hk hpa hpk hmk hx hxk j
    rw [hi]; exact h i
  · intro h i
    rcases it_swp' ho hak hk hpa hpk hmk hx hxk i with ⟨j, hj⟩ | ⟨hj, _⟩
    · rw [hj]; exact h j
    · rw [hj]
      by_cases hxk2 : x < k
      · omega
      · have := it_fixed (nx_of (hf x (by omega) hx)) i
        omega
theorem cnt_swp : cnt (swp p a k) = cnt p + 1 := by
  classical
  unfold cnt
  rw [swp_len]
  refine countP_one k ?_ ?_ _ List.nodup_range (fun x hx hxk => ?_) (List.mem_range.2 hk)
  · refine decide_eq_false (fun h => ?_)
    have := h 1
    rw [show it (nx p) 1 k = nx p k from rfl, nx_of hpk] at this
    omega
  · exact decide_eq_true (fun j => Nat.le_of_eq (it_fixed (swp_nx_k ho hak hk hpa hpk hmk) j).symm)
  · have := isMin_swp ho hak hk hpa hpk hmk hf (List.mem_range.1 hx) hxk
    by_cases h : IsMin p x
    · rw [decide_eq_true h, decide_eq_true (this.1 h)]
    · rw [decide_eq_false h, decide_eq_false (fun h' => h (this.2 h'))]
end
theorem cnt_ids (n : Nat) : cnt (ids n) = n := by
  classical
  unfold cnt
  rw [ids_len]
  have : (List.range n).countP (fun i => decide (IsMin (ids n) i)) = (List.range n).length := by
    rw [List.countP_eq_length]
    intro x hx
    exact decide_eq_true (fun j => Nat.le_of_eq (it_fixed (nx_of (ids_get n x (List.mem_range.1 hx))) j).symm)
  rw [this, List.length_range]
/-- As many less circles as changes. -/
theorem cnt_inv {p : List Int} (h : Ord p) : (p.length + cnt p + inv p) % 2 = 0 := by
  refine ord_induct (Q := fun p => (p.length + cnt p + inv p) % 2 = 0) ?_ ?_ p.length p h (fix_all p)
  · intro n hn
    show ((ids n).length + cnt (ids n) + inv (ids n)) % 2 = 0
    rw [ids_len, cnt_ids, inv_ids]; omega
  · intro p a k m ho hak hk hpa hpk hmk hf ih
    have h1 := cnt_swp ho hak hk hpa hpk hmk hf
    have h2 := swp_inv ho.2.2 a k hak hk
    have ih' : ((swp p a k).length + cnt (swp p a k) + inv (swp p a k)) % 2 = 0 := ih
    rw [swp_len] at ih'
    show (p.length + cnt p + inv p) % 2 = 0
    omega

/-- A circle, told from its least. -/
def Circ (p c : List Int) : Prop := c ≠ [] ∧ (∀ x ∈ c, 0 ≤ x ∧ x < p.length ∧ c.headD 0 ≤ x) ∧ ∀ j, j < c.length → p[(c.getD j 0).toNat]? = c[(j + 1) % c.length]?
/-- The circles so far: all things below i are in them. -/
structure CI (p : List Int) (i : Nat) (outs : List (List Int)) : Prop where
  circ : ∀ c ∈ outs, Circ p c
  nod : outs.flatten.Nodup
  all : ∀ x : Nat, x < i → (x : Int) ∈ outs.flatten
  heads : (outs.map fun c => c.headD 0).Pairwise (· < ·)
  less : ∀ c ∈ outs, c.headD 0 < i
theorem CI.zero (p : List Int) : CI p 0 [] := ⟨by simp, by simp, fun x h => absurd h (by omega), by simp, by simp⟩
/-- A circle under way: x is next. -/
structure CJ (p : List Int) (i : Nat) (outs : List (List Int)) (c : List Int) (x : Nat) : Prop where
  nod : (outs.flatten ++ c).Nodup
  rng : ∀ y ∈ c, 0 ≤ y ∧ y < p.length
  none_ : c = [] → x = i
  head : c ≠ [] → c[0]? = some (i : Int)
  chain : ∀ j, j + 1 < c.length → p[(c.getD j 0).toNat]? = c[j + 1]?
  last : c ≠ [] → p[(c.getD (c.length - 1) 0).toNat]? = some (x : Int)
  lt : x < p.length
theorem CJ.start {p : List Int} {i : Nat} {outs : List (List Int)} (h : CI p i outs) (hi : i < p.length) : CJ p i outs [] i :=
  ⟨by simpa using h.nod, by simp, fun _ => rfl, fun h => absurd rfl h, fun j hj => by simp at hj, fun h => absurd rfl h, hi⟩
theorem CJ.step {p : List Int} {i : Nat} {outs : List (List Int)} {c : List Int} {x : Nat} (ho : Ord p) (h : CJ p i outs c x) (hx : (x : Int) ∉ outs.flatten ++ c) : CJ p i outs (c ++ [(x : Int)]) (nx p x) := by
  refine ⟨?_, ?_, fun h => by simp at h, fun _ => ?_, fun j hj => ?_, fun _ => ?_, (nx_at ho h.lt).2⟩
  · rw [← List.append_assoc, List.nodup_append]
    exact ⟨h.nod, by simp, fun a ha b hb e => hx (by rw [List.mem_singleton.1 hb] at e; exact e ▸ ha)⟩
  · intro y hy
    rcases List.mem_append.1 hy with hy | hy
    · exact h.rng y hy
    · rw [List.mem_singleton.1 hy]; have := h.lt; omega
  · by_cases hc : c = []
    · rw [hc, h.none_ hc]; rfl
    · rw [List.getElem?_append_left (List.length_pos_iff.2 hc)]; exact h.head hc
  · rw [List.length_append, List.length_singleton] at hj
    have hg : (c ++ [(x : Int)]).getD j 0 = c.getD j 0 := by rw [List.getD_eq_getElem?_getD, List.getElem?_append_left (by omega), List.getD_eq_getElem?_getD]
    rw [hg]
    by_cases hl : j + 1 < c.length
    · rw [List.getElem?_append_left hl]; exact h.chain j hl
    · have e : j = c.length - 1 := by omega
      have hc : c ≠ [] := fun e => by rw [e] at hj; simp at hj
      rw [List.getElem?_append_right (by omega), show j + 1 - c.length = 0 by omega, e]
      exact h.last hc
  · rw [List.length_append, List.length_singleton]
    have hg : (c ++ [(x : Int)]).getD (c.length + 1 - 1) 0 = (x : Int) := by rw [List.getD_eq_getElem?_getD, List.getElem?_append_right (by omega), show c.length + 1 - 1 - c.length = 0 by omega]; rfl
    rw [hg, Int.toNat_natCast]
    exact (nx_at ho h.lt).1
theorem CJ.length_le {p : List Int} {i : Nat} {outs : List (List Int)} {c : List Int} {x : Nat} (h : CJ p i outs c x) : c.length ≤ p.length :=
  pig p.length c (List.nodup_append.1 h.nod).2.1 (fun y hy => h.rng y hy)
theorem inj_getD {p c d : List Int} {j k : Nat} {x : Int} (ho : Ord p) (hc : ∀ y ∈ c, 0 ≤ y ∧ y < p.length) (hd : ∀ y ∈ d, 0 ≤ y ∧ y < p.length) (hj : j < c.length) (hk : k < d.length) (h1 : p[(c.getD j 0).toNat]? = some x) (h2 : p[(d.getD k 0).toNat]? = some x) : c[j] = d[k] := by
  have e1 : c.getD j 0 = c[j] := by rw [List.getD_eq_getElem?_getD, List.getElem?_eq_getElem hj]; rfl
  have e2 : d.getD k 0 = d[k] := by rw [List.getD_eq_getElem?_getD, List.getElem?_eq_getElem hk]; rfl
  rw [e1] at h1
  rw [e2] at h2
  have := ho.inj h1 h2
  have := hc _ (List.getElem_mem hj)
  have := hd _ (List.getElem_mem hk)
  omega
theorem CJ.home {p : List Int} {i : Nat} {outs : List (List Int)} {c : List Int} {x : Nat} (ho : Ord p) (h : CJ p i outs c x) (ho' : ∀ c ∈ outs, Circ p c) (hc : c ≠ []) (hx : (x : Int) ∈ outs.flatten ++ c) : x = i := by
  have hl := h.last hc
  have hlen : 0 < c.length := List.length_pos_iff.2 hc
  rcases List.mem_append.1 hx with hm | hm
  · obtain ⟨d, hd, hxd⟩ := List.mem_flatten.1 hm
    obtain ⟨b, hb, e⟩ := List.getElem_of_mem hxd
    obtain ⟨hdn, hdr, hdc⟩ := ho' d hd
    have hb' : (b + d.length - 1) % d.length < d.length := Nat.mod_lt _ (by omega)
    have hbb : ((b + d.length - 1) % d.length + 1) % d.length = b := by
      rcases Nat.eq_zero_or_pos b with h0 | h0
      · subst h0
        rw [show 0 + d.length - 1 = d.length - 1 by omega, Nat.mod_eq_of_lt (by omega : d.length - 1 < d.length), show d.length - 1 + 1 = d.length by omega, Nat.mod_self]
      · rw [show b + d.length - 1 = b - 1 + d.length by omega, Nat.add_mod_right, Nat.mod_eq_of_lt (by omega : b - 1 < d.length), show b - 1 + 1 = b by omega, Nat.mod_eq_of_lt hb]
    have h1 := hdc _ hb'
    rw [hbb, List.getElem?_eq_getElem hb, e] at h1
    have h2 := inj_getD ho h.rng (fun y hy => ⟨(hdr y hy).1, (hdr y hy).2.1⟩) (by omega) hb' hl h1
    have h3 := (List.nodup_append.1 h.nod).2.2 _ (List.mem_flatten.2 ⟨d, hd, List.getElem_mem hb'⟩) _ (List.getElem_mem (show c.length - 1 < c.length by omega))
    exact absurd h2.symm h3
  · obtain ⟨b, hb, e⟩ := List.getElem_of_mem hm
    rcases b with _ | j
    · have := h.head hc
      rw [List.getElem?_eq_getElem hb, e] at this
      have : (x : Int) = i := by simpa using this
      omega
    · have h1 := h.chain j hb
      rw [List.getElem?_eq_getElem hb, e] at h1
      have h2 := inj_getD ho h.rng h.rng (by omega) (by omega) hl h1
      have h3 : c[c.length - 1]? = c[j]? := by rw [List.getElem?_eq_getElem (by omega), List.getElem?_eq_getElem (by omega), h2]
      have := (List.getElem?_inj (by omega) (List.nodup_append.1 h.nod).2.1).1 h3
      omega
theorem CJ.done {p : List Int} {i : Nat} {outs : List (List Int)} {c : List Int} {x : Nat} (ho : Ord p) (h : CJ p i outs c x) (hci : CI p i outs) (hc : c ≠ []) (hx : (x : Int) ∈ outs.flatten ++ c) : CI p (i + 1) (outs ++ [c]) := by
  have hxi := h.home ho hci.circ hc hx
  subst hxi
  have hlen : 0 < c.length := List.length_pos_iff.2 hc
  have hh : c.headD 0 = (x : Int) := by
    have := h.head hc
    cases c with
    | nil => exact absurd rfl hc
    | cons y l => simpa using this
  have hfl : (outs ++ [c]).flatten = outs.flatten ++ c := by simp
  refine ⟨?_, by rw [hfl]; exact h.nod, ?_, ?_, ?_⟩
  · intro d hd
    rcases List.mem_append.1 hd with hd | hd
    · exact hci.circ d hd
    · rw [List.mem_singleton.1 hd]
      refine ⟨hc, fun y hy => ⟨(h.rng y hy).1, (h.rng y hy).2, ?_⟩, fun j hj => ?_⟩
      · rw [hh]
        refine Decidable.byContradiction fun hlt => ?_
        have h0 := h.rng y hy
        have h1 := hci.all y.toNat (by omega)
        rw [show ((y.toNat : Nat) : Int) = y by omega] at h1
        exact (List.nodup_append.1 h.nod).2.2 y h1 y hy rfl
      · by_cases hl : j + 1 < c.length
        · rw [Nat.mod_eq_of_lt hl]; exact h.chain j hl
        · have e : j = c.length - 1 := by omega
          rw [show j + 1 = c.length by omega, Nat.mod_self, e, h.last hc, h.head hc]
  · intro y hy
    rw [hfl]
    by_cases e : y < x
    · exact List.mem_append_left _ (hci.all y e)
    · have : y = x := by omega
      rw [this]
      refine List.mem_append_right _ ?_
      have := h.head hc
      exact List.mem_of_getElem? this
  · rw [List.map_append, List.pairwise_append]
    refine ⟨hci.heads, by simp, fun a ha b hb => ?_⟩
    obtain ⟨d, hd, rfl⟩ := List.mem_map.1 ha
    have hb' : b = c.headD 0 := by simpa using hb
    rw [hb', hh]
    exact hci.less d hd
  · intro d hd
    rcases List.mem_append.1 hd with hd | hd
    · have := hci.less d hd; omega
    · rw [List.mem_singleton.1 hd, hh]; omega
theorem CI.skip {p : List Int} {i : Nat} {outs : List (List Int)} (h : CI p i outs) (hx : (i : Int) ∈ outs.flatten) : CI p (i + 1) outs :=
  ⟨h.circ, h.nod, fun y hy => by
    by_cases e : y < i
    · exact h.all y e
    · rw [show y = i by omega]; exact hx, h.heads, fun c hc => by have := h.less c hc; omega⟩

theorem CI.few {p : List Int} {i : Nat} {outs : List (List Int)} (h : CI p i outs) : outs.length ≤ p.length := by
  have hp := pig p.length (outs.map fun c => c.headD 0) (by
    rw [List.nodup_iff_pairwise_ne]
    exact List.Pairwise.imp (fun h => by omega) h.heads) (fun x hx => by
    obtain ⟨c, hc, rfl⟩ := List.mem_map.1 hx
    obtain ⟨hcn, hcr, _⟩ := h.circ c hc
    have e1 : c.headD 0 ∈ c := by cases c with | nil => exact absurd rfl hcn | cons y l => simp
    exact ⟨(hcr _ e1).1, (hcr _ e1).2.1⟩)
  rwa [List.length_map] at hp

/-- All circles: as many as there are things that are the least of theirs. -/
theorem CI.count {p : List Int} {outs : List (List Int)} (ho : Ord p) (h : CI p p.length outs) : outs.length = cnt p := by
  classical
  have hgo : ∀ c ∈ outs, ∀ k b, b < c.length → it (nx p) k (c.getD b 0).toNat = (c.getD ((b + k) % c.length) 0).toNat := by
    intro c hc k
    induction k with
    | zero => intro b hb; rw [Nat.add_zero, Nat.mod_eq_of_lt hb]; rfl
    | succ k ih =>
      intro b hb
      obtain ⟨hcn, hcr, hcc⟩ := h.circ c hc
      have hlt : (b + k) % c.length < c.length := Nat.mod_lt _ (by omega)
      have h1 := hcc _ hlt
      have hlt2 : ((b + k) % c.length + 1) % c.length < c.length := Nat.mod_lt _ (by omega)
      rw [List.getElem?_eq_getElem hlt2] at h1
      have h0 := hcr _ (List.getElem_mem hlt2)
      show nx p (it (nx p) k (c.getD b 0).toNat) = _
      rw [ih b hb, nx, List.getD_eq_getElem?_getD (l := p), h1]
      rw [show (b + (k + 1)) % c.length = ((b + k) % c.length + 1) % c.length by rw [Nat.mod_add_mod]; rfl]
      rw [List.getD_eq_getElem?_getD (l := c) , List.getElem?_eq_getElem hlt2]
  have hp : List.Perm (outs.map fun c => (c.headD 0).toNat) ((List.range p.length).filter fun i => decide (IsMin p i)) := by
    refine (List.perm_ext_iff_of_nodup ?_ (List.nodup_range.filter _)).2 (fun x => ?_)
    · rw [List.nodup_iff_pairwise_ne]
      have h1 := h.heads
      rw [List.pairwise_map] at h1 ⊢
      refine List.Pairwise.imp_of_mem ?_ h1
      intro c d hc hd hlt
      obtain ⟨hcn, hcr, _⟩ := h.circ c hc
      obtain ⟨hdn, hdr, _⟩ := h.circ d hd
      have e1 : c.headD 0 ∈ c := by cases c with | nil => exact absurd rfl hcn | cons y l => simp
      have e2 : d.headD 0 ∈ d := by cases d with | nil => exact absurd rfl hdn | cons y l => simp
      have := hcr _ e1
      have := hdr _ e2
      omega
    · rw [List.mem_map, List.mem_filter, List.mem_range]
      constructor
      · rintro ⟨c, hc, rfl⟩
        obtain ⟨hcn, hcr, hcc⟩ := h.circ c hc
        have hlen : 0 < c.length := List.length_pos_iff.2 hcn
        have e1 : c.headD 0 ∈ c := by cases c with | nil => exact absurd rfl hcn | cons y l => simp
        have e2 : c.headD 0 = c.getD 0 0 := by cases c with | nil => rfl | cons y l => simp
        have h0 := hcr _ e1
        refine ⟨by omega, decide_eq_true (fun k => ?_)⟩
        rw [e2, hgo c hc k 0 hlen, ← e2]
        have hlt : (0 + k) % c.length < c.length := Nat.mod_lt _ hlen
        have e3 : c.getD ((0 + k) % c.length) 0 = c[(0 + k) % c.length] := by rw [List.getD_eq_getElem?_getD, List.getElem?_eq_getElem hlt]; rfl
        have := hcr _ (List.getElem_mem hlt)
        rw [e3]
        omega
      · rintro ⟨hx, hm⟩
        have hm := of_decide_eq_true hm
        obtain ⟨c, hc, hxc⟩ := List.mem_flatten.1 (h.all x hx)
        obtain ⟨b, hb, e⟩ := List.getElem_of_mem hxc
        obtain ⟨hcn, hcr, hcc⟩ := h.circ c hc
        refine ⟨c, hc, ?_⟩
        have e4 : c.getD b 0 = (x : Int) := by rw [List.getD_eq_getElem?_getD, List.getElem?_eq_getElem hb, e]; rfl
        have h1 := hm (c.length - b)
        have h2 := hgo c hc (c.length - b) b hb
        rw [e4, Int.toNat_natCast, show b + (c.length - b) = c.length by omega, Nat.mod_self] at h2
        rw [h2] at h1
        have h3 := (hcr _ hxc).2.2
        have e2 : c.headD 0 = c.getD 0 0 := by cases c with | nil => rfl | cons y l => simp
        have e1 : c.headD 0 ∈ c := by cases c with | nil => exact absurd rfl hcn | cons y l => simp
        have h5 := (hcr _ e1).1
        rw [e2] at h3 h5 ⊢
        omega
  have := hp.length_eq
  rw [List.length_map] at this
  rw [this, cnt, List.countP_eq_length_filter]
theorem CI.even {p : List Int} {outs : List (List Int)} (ho : Ord p) (h : CI p p.length outs) : (p.length + outs.length + inv p) % 2 = 0 := by rw [h.count ho]; exact cnt_inv ho
theorem CI.len_le {p : List Int} {outs : List (List Int)} (ho : Ord p) (h : CI p p.length outs) : outs.length ≤ p.length := by
  classical
  rw [h.count ho, cnt]
  exact Nat.le_trans List.countP_le_length (by rw [List.length_range]; exact Nat.le_refl _)
end Go.Proofs.YtclbbchljiagpaaDoor
