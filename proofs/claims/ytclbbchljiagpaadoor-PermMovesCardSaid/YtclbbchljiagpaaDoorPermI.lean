/-
  Pairs that stand the wrong way round, plainly: what a swap does to their number, and what going on does.
-/
import Derived.Test.YtclbbchljiagpaaDoorPermA
namespace Go.Proofs.YtclbbchljiagpaaDoor
set_option linter.unusedVariables false
set_option linter.unusedSectionVars false

/-- Pairs that stand the wrong way round. -/
def inv : List Int → Nat
  | [] => 0
  | x :: l => (l.filter fun y => decide (y < x)).length + inv l
theorem inv_adj (x y : Int) (h : x ≠ y) (l2 : List Int) : ∀ l1 : List Int, (inv (l1 ++ x :: y :: l2) + inv (l1 ++ y :: x :: l2)) % 2 = 1
  | [] => by
    simp only [List.nil_append, inv, List.filter_cons]
    by_cases h1 : y < x
    · have h2 : ¬ x < y := by omega
      simp [h1, h2]; omega
    · have h2 : x < y := by omega
      simp [h1, h2]; omega
  | z :: l1 => by
    have ih := inv_adj x y h l2 l1
    have hf : ((l1 ++ x :: y :: l2).filter fun t => decide (t < z)).length = ((l1 ++ y :: x :: l2).filter fun t => decide (t < z)).length := by
      simp only [List.filter_append, List.length_append, List.filter_cons]
      split <;> split <;> simp
    simp only [List.cons_append, inv, hf]
    omega
theorem inv_move (x : Int) (l2 : List Int) : ∀ (m l1 : List Int), (∀ y ∈ m, x ≠ y) → (inv (l1 ++ x :: (m ++ l2)) + inv (l1 ++ (m ++ x :: l2))) % 2 = m.length % 2
  | [], l1, _ => by simp; omega
  | y :: m, l1, h => by
    have h1 := inv_adj x y (h y (List.mem_cons_self ..)) (m ++ l2) l1
    have h2 := inv_move x l2 m (l1 ++ [y]) (fun z hz => h z (List.mem_cons_of_mem _ hz))
    simp only [List.append_assoc, List.cons_append, List.nil_append, List.length_cons] at h1 h2 ⊢
    omega
theorem inv_swap (x y : Int) (l1 m l2 : List Int) (hxy : x ≠ y) (hx : ∀ z ∈ m, x ≠ z) (hy : ∀ z ∈ m, y ≠ z) : (inv (l1 ++ x :: (m ++ y :: l2)) + inv (l1 ++ y :: (m ++ x :: l2))) % 2 = 1 := by
  have h1 := inv_move x (y :: l2) m l1 hx
  have h2 := inv_adj x y hxy l2 (l1 ++ m)
  have h3 := inv_move y (x :: l2) m l1 hy
  simp only [List.append_assoc] at h1 h2 h3
  omega

/-- Two places' things swapped. -/
def swp (p : List Int) (a b : Nat) : List Int := (p.set a (p.getD b 0)).set b (p.getD a 0)
theorem swp_len (p : List Int) (a b : Nat) : (swp p a b).length = p.length := by simp [swp]
theorem swp_cut (p : List Int) (a b : Nat) (hab : a < b) (hb : b < p.length) : ∃ l1 m l2 x y, p = l1 ++ x :: (m ++ y :: l2) ∧ swp p a b = l1 ++ y :: (m ++ x :: l2) ∧ p[a]? = some x ∧ p[b]? = some y := by
  have h1 : p = p.take a ++ p[a] :: p.drop (a + 1) := by rw [← List.drop_eq_getElem_cons (by omega), List.take_append_drop]
  obtain ⟨c, rfl⟩ : ∃ c, b = a + 1 + c := ⟨b - a - 1, by omega⟩
  have hc : c < (p.drop (a + 1)).length := by simp; omega
  have h2 : p.drop (a + 1) = (p.drop (a + 1)).take c ++ (p.drop (a + 1))[c] :: (p.drop (a + 1)).drop (c + 1) := by rw [← List.drop_eq_getElem_cons hc, List.take_append_drop]
  have ha : (p.take a).length = a := by rw [List.length_take]; omega
  have hm : ((p.drop (a + 1)).take c).length = c := by rw [List.length_take]; omega
  have hy : (p.drop (a + 1))[c] = p[a + 1 + c] := by rw [List.getElem_drop]
  rw [hy] at h2
  refine ⟨p.take a, (p.drop (a + 1)).take c, (p.drop (a + 1)).drop (c + 1), p[a], p[a + 1 + c], by rw [← h2, ← h1], ?_, List.getElem?_eq_getElem _, List.getElem?_eq_getElem _⟩
  have hga : p.getD a 0 = p[a] := by rw [List.getD_eq_getElem?_getD, List.getElem?_eq_getElem (by omega)]; rfl
  have hgb : p.getD (a + 1 + c) 0 = p[a + 1 + c] := by rw [List.getD_eq_getElem?_getD, List.getElem?_eq_getElem hb]; rfl
  rw [swp, hga, hgb]
  generalize p[a] = x at *
  generalize p[a + 1 + c] = y at *
  generalize p.take a = l1 at *
  generalize (p.drop (a + 1)).take c = m at *
  generalize (p.drop (a + 1)).drop (c + 1) = l2 at *
  rw [h2] at h1
  rw [h1, List.set_append_right _ _ (by omega), List.set_append_right _ _ (by omega), ha]
  congr 1
  rw [show a - a = 0 by omega, show a + 1 + c - a = c + 1 by omega, List.set_cons_zero, List.set_cons_succ, List.set_append_right _ _ (by omega), hm, show c - c = 0 by omega, List.set_cons_zero]
theorem swp_perm (p : List Int) (a b : Nat) (hab : a < b) (hb : b < p.length) : List.Perm (swp p a b) p := by
  obtain ⟨l1, m, l2, x, y, h1, h2, _, _⟩ := swp_cut p a b hab hb
  rw [h2]
  conv => rhs; rw [h1]
  refine List.Perm.append_left l1 ?_
  refine (List.Perm.cons y List.perm_middle).trans ((List.Perm.swap x y _).trans (List.Perm.cons x List.perm_middle.symm))
theorem swp_inv {p : List Int} (hn : p.Nodup) (a b : Nat) (hab : a < b) (hb : b < p.length) : (inv p + inv (swp p a b)) % 2 = 1 := by
  obtain ⟨l1, m, l2, x, y, h1, h2, _, _⟩ := swp_cut p a b hab hb
  rw [h1] at hn
  rw [h2]
  conv => lhs; lhs; lhs; rw [h1]
  have hn1 := (List.nodup_append.1 hn).2.1
  have hx := (List.nodup_cons.1 hn1).1
  have hn2 := List.nodup_append.1 (List.nodup_cons.1 hn1).2
  have hxy : x ≠ y := fun e => hx (by rw [e]; simp)
  exact inv_swap x y l1 m l2 hxy (fun z hz e => hx (by rw [e]; simp [hz])) (fun z hz e => hn2.2.2 z hz y (by simp) e.symm)
theorem swp_at (p : List Int) (a b : Nat) (hab : a < b) (hb : b < p.length) (j : Nat) : (swp p a b)[j]? = if j = b then p[a]? else if j = a then p[b]? else p[j]? := by
  have hga : p[a]? = some (p.getD a 0) := by rw [List.getD_eq_getElem?_getD, List.getElem?_eq_getElem (by omega)]; rfl
  have hgb : p[b]? = some (p.getD b 0) := by rw [List.getD_eq_getElem?_getD, List.getElem?_eq_getElem hb]; rfl
  rw [swp, List.getElem?_set, List.getElem?_set, hga, hgb]
  by_cases h1 : b = j
  · subst h1; simp [hb]
  · by_cases h2 : a = j
    · subst h2
      have : ¬ a = b := by omega
      simp [this, h1]; omega
    · simp [h1, h2, Ne.symm h1, Ne.symm h2]
theorem swp_ord {p : List Int} (h : Ord p) (a b : Nat) (hab : a < b) (hb : b < p.length) : Ord (swp p a b) := by
  have hp := swp_perm p a b hab hb
  refine ⟨by rw [swp_len]; exact h.1, fun x hx => ?_, hp.nodup_iff.2 h.2.2⟩
  rw [swp_len]
  exact h.2.1 x (hp.mem_iff.1 hx)

/-- From k on each thing stands at its place. -/
def Fix (k : Nat) (p : List Int) : Prop := ∀ i : Nat, k ≤ i → i < p.length → p[i]? = some (i : Int)
theorem fix_zero {p : List Int} (h : Fix 0 p) : p = ids p.length := by
  apply List.ext_getElem?
  intro i
  by_cases hi : i < p.length
  · rw [h i (Nat.zero_le _) hi, ids_get _ _ hi]
  · rw [List.getElem?_eq_none (by omega), List.getElem?_eq_none (by rw [ids_len]; omega)]
theorem ord_induct {Q : List Int → Prop} (hid : ∀ n, n ≤ 8 → Q (ids n))
    (hsw : ∀ (p : List Int) (a k m : Nat), Ord p → a < k → k < p.length → p[a]? = some (k : Int) → p[k]? = some (m : Int) → m < k → Fix (k + 1) p → Q (swp p a k) → Q p) : ∀ (k : Nat) (p : List Int), Ord p → Fix k p → Q p
  | 0, p, h, hf => by rw [fix_zero hf]; exact hid _ h.1
  | k + 1, p, h, hf => by
    by_cases hk : k < p.length
    · obtain ⟨m, hm, hpm⟩ := h.get hk
      by_cases hmk : m = k
      · refine ord_induct hid hsw k p h (fun i hi hil => ?_)
        by_cases e : i = k
        · rw [e, hpm, hmk]
        · exact hf i (by omega) hil
      · obtain ⟨a, ha, hpa⟩ := h.at_ hk
        have hak : a < k := by
          rcases Nat.lt_trichotomy a k with h1 | h1 | h1
          · exact h1
          · rw [h1, hpm] at hpa
            have : (m : Int) = k := by simpa using hpa
            omega
          · have := hf a (by omega) ha
            rw [hpa] at this
            have : (k : Int) = a := by simpa using this
            omega
        have hml : m < k := by
          rcases Nat.lt_trichotomy m k with h1 | h1 | h1
          · exact h1
          · exact absurd h1 hmk
          · have h2 := hf m (by omega) hm
            have := h.inj h2 hpm
            omega
        refine hsw p a k m h hak hk hpa hpm hml hf (ord_induct hid hsw k _ (swp_ord h a k hak hk) (fun i hi hil => ?_))
        rw [swp_len] at hil
        rw [swp_at p a k hak hk]
        by_cases e : i = k
        · rw [if_pos e, hpa, e]
        · rw [if_neg e, if_neg (by omega)]
          exact hf i (by omega) hil
    · exact ord_induct hid hsw k p h (fun i hi hil => absurd hil (by omega))
theorem fix_all (p : List Int) : Fix p.length p := fun _ h1 h2 => absurd h2 (by omega)

theorem inv_ids : ∀ n, inv (ids n) = 0 := by
  have h : ∀ l : List Int, l.Pairwise (· < ·) → inv l = 0 := by
    intro l
    induction l with
    | nil => intro _; rfl
    | cons x l ih =>
      intro hp
      obtain ⟨h1, h2⟩ := List.pairwise_cons.1 hp
      rw [inv, ih h2, List.length_eq_zero_iff.2 (List.filter_eq_nil_iff.2 (fun y hy => by have := h1 y hy; simp; omega))]
  intro n
  refine h _ ?_
  unfold ids
  rw [List.pairwise_map]
  exact List.Pairwise.imp (fun h => by omega) List.pairwise_lt_range

theorem map_swp (f : Int → Int) (p : List Int) (a b : Nat) (hab : a < b) (hb : b < p.length) : (swp p a b).map f = swp (p.map f) a b := by
  apply List.ext_getElem?
  intro j
  rw [List.getElem?_map, swp_at p a b hab hb, swp_at (p.map f) a b hab (by simpa using hb)]
  simp only [List.getElem?_map]
  split
  · rfl
  · split <;> rfl
theorem thenL_ids {q : List Int} (h : Ord q) : (ids q.length).map (fun x => q.getD x.toNat 0) = q := by
  apply List.ext_getElem?
  intro j
  rw [List.getElem?_map]
  by_cases hj : j < q.length
  · rw [ids_get _ _ hj, List.getElem?_eq_getElem hj]
    simp [List.getElem?_eq_getElem hj]
  · rw [List.getElem?_eq_none (by rw [ids_len]; omega), List.getElem?_eq_none (by omega)]; rfl
theorem then_get {p q : List Int} (hp : Ord p) (hq : Ord q) (hl : p.length = q.length) : thenL p q = p.map fun x => q.getD x.toNat 0 := by rw [thenL, if_pos ⟨hp, hq, hl⟩]
theorem then_nodup {p q : List Int} (hp : Ord p) (hq : Ord q) (hl : p.length = q.length) : (p.map fun x => q.getD x.toNat 0).Nodup := by
  rw [List.nodup_iff_pairwise_ne, List.pairwise_map]
  refine List.Pairwise.imp_of_mem ?_ (List.nodup_iff_pairwise_ne.1 hp.2.2)
  intro x y hx hy hne e
  have h1 := hp.2.1 x hx
  have h2 := hp.2.1 y hy
  have hx' : q[x.toNat]? = some (q.getD x.toNat 0) := by rw [List.getD_eq_getElem?_getD, List.getElem?_eq_getElem (by omega)]; rfl
  have hy' : q[y.toNat]? = some (q.getD y.toNat 0) := by rw [List.getD_eq_getElem?_getD, List.getElem?_eq_getElem (by omega)]; rfl
  rw [e] at hx'
  have := hq.inj hx' hy'
  omega
theorem then_ord {p q : List Int} (hp : Ord p) (hq : Ord q) (hl : p.length = q.length) : Ord (thenL p q) := by
  rw [then_get hp hq hl]
  refine ⟨by rw [List.length_map]; exact hp.1, fun x hx => ?_, then_nodup hp hq hl⟩
  obtain ⟨y, hy, rfl⟩ := List.mem_map.1 hx
  have h1 := hp.2.1 y hy
  rw [List.length_map, hl]
  refine hq.2.1 _ ?_
  rw [List.getD_eq_getElem?_getD, List.getElem?_eq_getElem (by omega)]
  exact List.getElem_mem _
/-- Evenness goes along. -/
theorem then_inv {p q : List Int} (hp : Ord p) (hq : Ord q) (hl : p.length = q.length) : (inv (thenL p q) + inv p + inv q) % 2 = 0 := by
  have key : ∀ p : List Int, Ord p → p.length = q.length → (inv (p.map fun x => q.getD x.toNat 0) + inv p + inv q) % 2 = 0 := by
    intro p hp
    refine ord_induct (Q := fun p => p.length = q.length → (inv (p.map fun x => q.getD x.toNat 0) + inv p + inv q) % 2 = 0) ?_ ?_ p.length p hp (fix_all p)
    · intro n hn hl
      rw [ids_len] at hl
      subst hl
      rw [thenL_ids hq, inv_ids]
      omega
    · intro p a k m ho hak hk hpa hpk hmk hf ih hl
      have h1 := ih (by rw [swp_len]; exact hl)
      rw [map_swp _ p a k hak hk] at h1
      have h2 := swp_inv ho.2.2 a k hak hk
      have h3 := swp_inv (then_nodup ho hq hl) a k hak (by rw [List.length_map]; exact hk)
      omega
  rw [then_get hp hq hl]
  exact key p hp hl
end Go.Proofs.YtclbbchljiagpaaDoor
