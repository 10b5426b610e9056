/-
  Part 10 of the proof of LoadMore: PermI, PtC, WireF, WrB, WireG, WireH.
-/
import Derived.Test.YtbbmgcdocolakaaGreatDoorLoadMoreM9
import Derived.Test.YtbbmgcdocolakaaGreatDoorLoadMoreM8
import Derived.WalkSpells
set_option linter.unusedVariables false
/-
  Pairs that stand the wrong way round, plainly: what a swap does to their number, and what going on does.
-/
namespace Go.Proofs.YtbbmgcdocolakaaGreatDoor
set_option linter.unusedVariables false
set_option linter.unusedSectionVars false

/-- Pairs that stand the wrong way round. -/
def inv : List Int → Nat
  | [] => 0
  | x :: l => (l.filter fun y => decide (y < x)).length + inv l
theorem inv_adj (x y : Int) (h : x ≠ y) (l2 : List Int) : ∀ l1 : List Int, (inv (l1 ++ x :: y :: l2) + inv (l1 ++ y :: x :: l2)) % 2 = 1
  | [] => by
    simp only [List.nil_append, inv, List.filter_cons]
    by_cases h1 : y < x
    · have h2 : ¬ x < y := by omega
      simp [h1, h2]; omega
    · have h2 : x < y := by omega
      simp [h1, h2]; omega
  | z :: l1 => by
    have ih := inv_adj x y h l2 l1
    have hf : ((l1 ++ x :: y :: l2).filter fun t => decide (t < z)).length = ((l1 ++ y :: x :: l2).filter fun t => decide (t < z)).length := by
      simp only [List.filter_append, List.length_append, List.filter_cons]
      split <;> split <;> simp
    simp only [List.cons_append, inv, hf]
    omega
theorem inv_move (x : Int) (l2 : List Int) : ∀ (m l1 : List Int), (∀ y ∈ m, x ≠ y) → (inv (l1 ++ x :: (m ++ l2)) + inv (l1 ++ (m ++ x :: l2))) % 2 = m.length % 2
  | [], l1, _ => by simp; omega
  | y :: m, l1, h => by
    have h1 := inv_adj x y (h y (List.mem_cons_self ..)) (m ++ l2) l1
    have h2 := inv_move x l2 m (l1 ++ [y]) (fun z hz => h z (List.mem_cons_of_mem _ hz))
    simp only [List.append_assoc, List.cons_append, List.nil_append, List.length_cons] at h1 h2 ⊢
    omega
theorem inv_swap (x y : Int) (l1 m l2 : List Int) (hxy : x ≠ y) (hx : ∀ z ∈ m, x ≠ z) (hy : ∀ z ∈ m, y ≠ z) : (inv (l1 ++ x :: (m ++ y :: l2)) + inv (l1 ++ y :: (m ++ x :: l2))) % 2 = 1 := by
  have h1 := inv_move x (y :: l2) m l1 hx
  have h2 := inv_adj x y hxy l2 (l1 ++ m)
  have h3 := inv_move y (x :: l2) m l1 hy
  simp only [List.append_assoc] at h1 h2 h3
  omega

/-- Two places' things swapped. -/
def swp (p : List Int) (a b : Nat) : List Int := (p.set a (p.getD b 0)).set b (p.getD a 0)
theorem swp_len (p : List Int) (a b : Nat) : (swp p a b).length = p.length := by simp [swp]
theorem swp_cut (p : List Int) (a b : Nat) (hab : a < b) (hb : b < p.length) : ∃ l1 m l2 x y, p = l1 ++ x :: (m ++ y :: l2) ∧ swp p a b = l1 ++ y :: (m ++ x :: l2) ∧ p[a]? = some x ∧ p[b]? = some y := by
  have h1 : p = p.take a ++ p[a] :: p.drop (a + 1) := by rw [← List.drop_eq_getElem_cons (by omega), List.take_append_drop]
  obtain ⟨c, rfl⟩ : ∃ c, b = a + 1 + c := ⟨b - a - 1, by omega⟩
  have hc : c < (p.drop (a + 1)).length := by simp; omega
  have h2 : p.drop (a + 1) = (p.drop (a + 1)).take c ++ (p.drop (a + 1))[c] :: (p.drop (a + 1)).drop (c + 1) := by rw [← List.drop_eq_getElem_cons hc, List.take_append_drop]
  have ha : (p.take a).length = a := by rw [List.length_take]; omega
  have hm : ((p.drop (a + 1)).take c).length = c := by rw [List.length_take]; omega
  have hy : (p.drop (a + 1))[c] = p[a + 1 + c] := by rw [List.getElem_drop]
  rw [hy] at h2
  refine ⟨p.take a, (p.drop (a + 1)).take c, (p.drop (a + 1)).drop (c + 1), p[a], p[a + 1 + c], by rw [← h2, ← h1], ?_, List.getElem?_eq_getElem _, List.getElem?_eq_getElem _⟩
  have hga : p.getD a 0 = p[a] := by rw [List.getD_eq_getElem?_getD, List.getElem?_eq_getElem (by omega)]; rfl
  have hgb : p.getD (a + 1 + c) 0 = p[a + 1 + c] := by rw [List.getD_eq_getElem?_getD, List.getElem?_eq_getElem hb]; rfl
  rw [swp, hga, hgb]
  generalize p[a] = x at *
  generalize p[a + 1 + c] = y at *
  generalize p.take a = l1 at *
  generalize (p.drop (a + 1)).take c = m at *
  generalize (p.drop (a + 1)).drop (c + 1) = l2 at *
  rw [h2] at h1
  rw [h1, List.set_append_right _ _ (by omega), List.set_append_right _ _ (by omega), ha]
  congr 1
  rw [show a - a = 0 by omega, show a + 1 + c - a = c + 1 by omega, List.set_cons_zero, List.set_cons_succ, List.set_append_right _ _ (by omega), hm, show c - c = 0 by omega, List.set_cons_zero]
theorem swp_perm (p : List Int) (a b : Nat) (hab : a < b) (hb : b < p.length) : List.Perm (swp p a b) p := by
  obtain ⟨l1, m, l2, x, y, h1, h2, _, _⟩ := swp_cut p a b hab hb
  rw [h2]
  conv => rhs; rw [h1]
  refine List.Perm.append_left l1 ?_
  refine (List.Perm.cons y List.perm_middle).trans ((List.Perm.swap x y _).trans (List.Perm.cons x List.perm_middle.symm))
theorem swp_inv {p : List Int} (hn : p.Nodup) (a b : Nat) (hab : a < b) (hb : b < p.length) : (inv p + inv (swp p a b)) % 2 = 1 := by
  obtain ⟨l1, m, l2, x, y, h1, h2, _, _⟩ := swp_cut p a b hab hb
  rw [h1] at hn
  rw [h2]
  conv => lhs; lhs; lhs; rw [h1]
  have hn1 := (List.nodup_append.1 hn).2.1
  have hx := (List.nodup_cons.1 hn1).1
  have hn2 := List.nodup_append.1 (List.nodup_cons.1 hn1).2
  have hxy : x ≠ y := fun e => hx (by rw [e]; simp)
  exact inv_swap x y l1 m l2 hxy (fun z hz e => hx (by rw [e]; simp [hz])) (fun z hz e => hn2.2.2 z hz y (by simp) e.symm)
theorem swp_at (p : List Int) (a b : Nat) (hab : a < b) (hb : b < p.length) (j : Nat) : (swp p a b)[j]? = if j = b then p[a]? else if j = a then p[b]? else p[j]? := by
  have hga : p[a]? = some (p.getD a 0) := by rw [List.getD_eq_getElem?_getD, List.getElem?_eq_getElem (by omega)]; rfl
  have hgb : p[b]? = some (p.getD b 0) := by rw [List.getD_eq_getElem?_getD, List.getElem?_eq_getElem hb]; rfl
  rw [swp, List.getElem?_set, List.getElem?_set, hga, hgb]
  by_cases h1 : b = j
  · subst h1; simp [hb]
  · by_cases h2 : a = j
    · subst h2
      have : ¬ a = b := by omega
      simp [this, h1]; omega
    · simp [h1, h2, Ne.symm h1, Ne.symm h2]
theorem swp_ord {p : List Int} (h : Ord p) (a b : Nat) (hab : a < b) (hb : b < p.length) : Ord (swp p a b) := by
  have hp := swp_perm p a b hab hb
  refine ⟨by rw [swp_len]; exact h.1, fun x hx => ?_, hp.nodup_iff.2 h.2.2⟩
  rw [swp_len]
  exact h.2.1 x (hp.mem_iff.1 hx)

/-- From k on each thing stands at its place. -/
def Fix (k : Nat) (p : List Int) : Prop := ∀ i : Nat, k ≤ i → i < p.length → p[i]? = some (i : Int)
theorem fix_zero {p : List Int} (h : Fix 0 p) : p = ids p.length := by
  apply List.ext_getElem?
  intro i
  by_cases hi : i < p.length
  · rw [h i (Nat.zero_le _) hi, ids_get _ _ hi]
  · rw [List.getElem?_eq_none (by omega), List.getElem?_eq_none (by rw [ids_len]; omega)]
theorem ord_induct {Q : List Int → Prop} (hid : ∀ n, n ≤ 8 → Q (ids n))
    (hsw : ∀ (p : List Int) (a k m : Nat), Ord p → a < k → k < p.length → p[a]? = some (k : Int) → p[k]? = some (m : Int) → m < k → Fix (k + 1) p → Q (swp p a k) → Q p) : ∀ (k : Nat) (p : List Int), Ord p → Fix k p → Q p
  | 0, p, h, hf => by rw [fix_zero hf]; exact hid _ h.1
  | k + 1, p, h, hf => by
    by_cases hk : k < p.length
    · obtain ⟨m, hm, hpm⟩ := h.get hk
      by_cases hmk : m = k
      · refine ord_induct hid hsw k p h (fun i hi hil => ?_)
        by_cases e : i = k
        · rw [e, hpm, hmk]
        · exact hf i (by omega) hil
      · obtain ⟨a, ha, hpa⟩ := h.at_ hk
        have hak : a < k := by
          rcases Nat.lt_trichotomy a k with h1 | h1 | h1
          · exact h1
          · rw [h1, hpm] at hpa
            have : (m : Int) = k := by simpa using hpa
            omega
          · have := hf a (by omega) ha
            rw [hpa] at this
            have : (k : Int) = a := by simpa using this
            omega
        have hml : m < k := by
          rcases Nat.lt_trichotomy m k with h1 | h1 | h1
          · exact h1
          · exact absurd h1 hmk
          · have h2 := hf m (by omega) hm
            have := h.inj h2 hpm
            omega
        refine hsw p a k m h hak hk hpa hpm hml hf (ord_induct hid hsw k _ (swp_ord h a k hak hk) (fun i hi hil => ?_))
        rw [swp_len] at hil
        rw [swp_at p a k hak hk]
        by_cases e : i = k
        · rw [if_pos e, hpa, e]
        · rw [if_neg e, if_neg (by omega)]
          exact hf i (by omega) hil
    · exact ord_induct hid hsw k p h (fun i hi hil => absurd hil (by omega))
theorem fix_all (p : List Int) : Fix p.length p := fun _ h1 h2 => absurd h2 (by omega)

theorem inv_ids : ∀ n, inv (ids n) = 0 := by
  have h : ∀ l : List Int, l.Pairwise (· < ·) → inv l = 0 := by
    intro l
    induction l with
    | nil => intro _; rfl
    | cons x l ih =>
      intro hp
      obtain ⟨h1, h2⟩ := List.pairwise_cons.1 hp
      rw [inv, ih h2, List.length_eq_zero_iff.2 (List.filter_eq_nil_iff.2 (fun y hy => by have := h1 y hy; simp; omega))]
  intro n
  refine h _ ?_
  unfold ids
  rw [List.pairwise_map]
  exact List.Pairwise.imp (fun h => by omega) List.pairwise_lt_range

theorem map_swp (f : Int → Int) (p : List Int) (a b : Nat) (hab : a < b) (hb : b < p.length) : (swp p a b).map f = swp (p.map f) a b := by
  apply List.ext_getElem?
  intro j
  rw [List.getElem?_map, swp_at p a b hab hb, swp_at (p.map f) a b hab (by simpa using hb)]
  simp only [List.getElem?_map]
  split
  · rfl
  · split <;> rfl
theorem thenL_ids {q : List Int} (h : Ord q) : (ids q.length).map (fun x => q.getD x.toNat 0) = q := by
  apply List.ext_getElem?
  intro j
  rw [List.getElem?_map]
  by_cases hj : j < q.length
  · rw [ids_get _ _ hj, List.getElem?_eq_getElem hj]
    simp [List.getElem?_eq_getElem hj]
  · rw [List.getElem?_eq_none (by rw [ids_len]; omega), List.getElem?_eq_none (by omega)]; rfl
theorem then_get {p q : List Int} (hp : Ord p) (hq : Ord q) (hl : p.length = q.length) : thenL p q = p.map fun x => q.getD x.toNat 0 := by rw [thenL, if_pos ⟨hp, hq, hl⟩]
theorem then_nodup {p q : List Int} (hp : Ord p) (hq : Ord q) (hl : p.length = q.length) : (p.map fun x => q.getD x.toNat 0).Nodup := by
  rw [List.nodup_iff_pairwise_ne, List.pairwise_map]
  refine List.Pairwise.imp_of_mem ?_ (List.nodup_iff_pairwise_ne.1 hp.2.2)
  intro x y hx hy hne e
  have h1 := hp.2.1 x hx
  have h2 := hp.2.1 y hy
  have hx' : q[x.toNat]? = some (q.getD x.toNat 0) := by rw [List.getD_eq_getElem?_getD, List.getElem?_eq_getElem (by omega)]; rfl
  have hy' : q[y.toNat]? = some (q.getD y.toNat 0) := by rw [List.getD_eq_getElem?_getD, List.getElem?_eq_getElem (by omega)]; rfl
  rw [e] at hx'
  have := hq.inj hx' hy'
  omega
theorem then_ord {p q : List Int} (hp : Ord p) (hq : Ord q) (hl : p.length = q.length) : Ord (thenL p q) := by
  rw [then_get hp hq hl]
  refine ⟨by rw [List.length_map]; exact hp.1, fun x hx => ?_, then_nodup hp hq hl⟩
  obtain ⟨y, hy, rfl⟩ := List.mem_map.1 hx
  have h1 := hp.2.1 y hy
  rw [List.length_map, hl]
  refine hq.2.1 _ ?_
  rw [List.getD_eq_getElem?_getD, List.getElem?_eq_getElem (by omega)]
  exact List.getElem_mem _
/-- Evenness goes along. -/
theorem then_inv {p q : List Int} (hp : Ord p) (hq : Ord q) (hl : p.length = q.length) : (inv (thenL p q) + inv p + inv q) % 2 = 0 := by
  have key : ∀ p : List Int, Ord p → p.length = q.length → (inv (p.map fun x => q.getD x.toNat 0) + inv p + inv q) % 2 = 0 := by
    intro p hp
    refine ord_induct (Q := fun p => p.length = q.length → (inv (p.map fun x => q.getD x.toNat 0) + inv p + inv q) % 2 = 0) ?_ ?_ p.length p hp (fix_all p)
    · intro n hn hl
      rw [ids_len] at hl
      subst hl
      rw [thenL_ids hq, inv_ids]
      omega
    · intro p a k m ho hak hk hpa hpk hmk hf ih hl
      have h1 := ih (by rw [swp_len]; exact hl)
      rw [map_swp _ p a k hak hk] at h1
      have h2 := swp_inv ho.2.2 a k hak hk
      have h3 := swp_inv (then_nodup ho hq hl) a k hak (by rw [List.length_map]; exact hk)
      omega
  rw [then_get hp hq hl]
  exact key p hp hl
end Go.Proofs.YtbbmgcdocolakaaGreatDoor
/-
  Patterns turned, plainly: one turning behind another; connectedness; degrees.
-/
namespace Go.Proofs.YtbbmgcdocolakaaGreatDoor
open Go.RowKit
set_option linter.unusedVariables false

namespace Pt
section
variable {u v L L' L1 L2 L3 : List Int} {E E' E1 E2 E3 : List (Int × Int)}
theorem vtx_then (hu : Ord u) (hv : Ord v) (h : u.length = v.length) {a : Int} (h0 : 0 ≤ a) (h1 : a < u.length) : vtx v (vtx u a) = vtx (thenL u v) a := by
  have g1 := vtx_get hu h0 h1
  have ht := then_get hu hv h
  show vtx v (vtx u a) = (thenL u v).getD a.toNat 0
  rw [ht, List.getD_eq_getElem?_getD, List.getElem?_map, g1]
  rfl
theorem put_twice (hu : Ord u) (hv : Ord v) (h : u.length = v.length) (hl : u.length = L.length) : putL v (putL u L) = putL (thenL u v) L := by
  have ho := then_ord hu hv h
  have htl : (thenL u v).length = u.length := by rw [then_get hu hv h, List.length_map]
  have hpl := putL_len hu hl
  have ha := putL_len hv (l := putL u L) (by rw [hpl]; exact h.symm)
  have hb := putL_len ho (l := L) (by rw [htl]; exact hl)
  apply List.ext_getElem?
  intro k
  by_cases hk : k < u.length
  · obtain ⟨j, hj, hvj⟩ := hv.at_ (j := k) (by omega)
    obtain ⟨i, hi, hui⟩ := hu.at_ (j := j) (by omega)
    have hy : L[i]? = some (L[i]'(by omega)) := List.getElem?_eq_getElem (by omega)
    have e1 := putL_at hu hl hui hy
    rw [Int.toNat_natCast] at e1
    have e2 := putL_at hv (l := putL u L) (by rw [hpl]; exact h.symm) hvj e1
    have e3 : (thenL u v)[i]? = some (k : Int) := by
      rw [then_get hu hv h, List.getElem?_map, hui]
      simp only [Option.map_some, Int.toNat_natCast]
      rw [List.getD_eq_getElem?_getD, hvj]
      rfl
    have e4 := putL_at ho (l := L) (by rw [htl]; exact hl) e3 hy
    rw [Int.toNat_natCast] at e2 e4
    rw [e2, e4]
  · rw [List.getElem?_eq_none (by omega), List.getElem?_eq_none (by omega)]
theorem turn_two (hu : Ord u) (hv : Ord v) (huv : u.length = v.length) (hl : u.length = L.length) (hR : rightP L E) (h1 : IsTurn u L E L1 E1) (h2 : IsTurn v L1 E1 L2 E2) (h3 : IsTurn (thenL u v) L E L3 E3) : L2 = L3 ∧ E2 = E3 := by
  refine ⟨by rw [h2.lab, h1.lab, h3.lab, put_twice hu hv huv hl], rise_uniq h2.rise h3.rise ?_⟩
  refine h2.perm.trans ((h1.perm.map _).trans (List.Perm.trans ?_ h3.perm.symm))
  rw [List.map_map]
  have : E.map (mapE v ∘ mapE u) = E.map (mapE (thenL u v)) := by
    refine List.map_congr_left fun e he => ?_
    obtain ⟨g0, g1, g2⟩ := right_edge hR he
    exact mapE_two fun a ha => vtx_then hu hv huv (by rcases ha with rfl | rfl <;> omega) (by rcases ha with rfl | rfl <;> omega)
  rw [this]
/-- A way from one vertex to another. -/
inductive Wk (E : List (Int × Int)) (a : Int) : Int → Prop
  | refl : Wk E a a
  | step {b c : Int} : Wk E a b → AdjE E b c → Wk E a c
theorem Wk.trans {E : List (Int × Int)} {a b c : Int} (h : Wk E a b) (k : Wk E b c) : Wk E a c := by
  induction k with
  | refl => exact h
  | step _ k2 ih => exact .step ih k2
theorem adj_sym {E : List (Int × Int)} {a b : Int} (h : AdjE E a b) : AdjE E b a := Or.symm h
theorem Wk.symm {E : List (Int × Int)} {a b : Int} (h : Wk E a b) : Wk E b a := by
  induction h with
  | refl => exact .refl
  | step _ k ih => exact Wk.trans (.step .refl (adj_sym k)) ih
theorem wk_of {E : List (Int × Int)} {a : Int} (h : Rch E a) : Wk E 0 a := by
  induction h with
  | zero => exact .refl
  | fwd he _ ih => exact .step ih (.inl he)
  | bwd he _ ih => exact .step ih (.inr he)
theorem rch_of {E : List (Int × Int)} {a b : Int} (h : Wk E a b) (ha : Rch E a) : Rch E b := by
  induction h with
  | refl => exact ha
  | step _ k ih => exact ih.adj k
theorem adj_map (hE : E'.Perm (E.map (mapE u))) {a b : Int} (h : AdjE E a b) : AdjE E' (vtx u a) (vtx u b) := by
  have key : ∀ x y, (x, y) ∈ E → AdjE E' (vtx u x) (vtx u y) := fun x y hm => by
    have h1 : mapE u (x, y) ∈ E' := hE.symm.subset (List.mem_map.2 ⟨_, hm, rfl⟩)
    unfold mapE at h1
    simp only at h1
    rcases turnE_cases (vtx u x) (vtx u y) with ⟨h3, _⟩ | ⟨h3, _⟩
    · rw [h3] at h1; exact .inl h1
    · rw [h3] at h1; exact .inr h1
  rcases h with h | h
  · exact key a b h
  · exact adj_sym (key b a h)
theorem wk_map (hE : E'.Perm (E.map (mapE u))) {a b : Int} (h : Wk E a b) : Wk E' (vtx u a) (vtx u b) := by
  induction h with
  | refl => exact .refl
  | step _ k ih => exact .step ih (adj_map hE k)
theorem conn_fwd (hu : Ord u) (hl : u.length = L.length) (hR : rightP L E) (h : IsTurn u L E L' E') (hc : connP L E) : connP L' E' := by
  obtain ⟨r1, r2⟩ := h.right hu hl hR
  refine ⟨r1, by rw [r2]; exact hc.2.1, fun k hk => ?_⟩
  rw [r2] at hk
  have h0 := hc.2.1
  obtain ⟨i, hi, hui⟩ := hu.at_ (j := k) (by omega)
  obtain ⟨z, hz, huz⟩ := hu.at_ (j := 0) (by omega)
  have e1 : vtx u (i : Int) = (k : Int) := by
    have := vtx_get hu (a := (i : Int)) (by omega) (by omega)
    rw [Int.toNat_natCast, hui] at this
    injection this with this
    exact this.symm
  have e2 : vtx u (z : Int) = 0 := by
    have := vtx_get hu (a := (z : Int)) (by omega) (by omega)
    rw [Int.toNat_natCast, huz] at this
    injection this with this
    exact this.symm
  have w1 := wk_of (hc.2.2 i (by omega))
  have w2 := wk_of (hc.2.2 z (by omega))
  have w3 := wk_map h.perm (w2.symm.trans w1)
  rw [e1, e2] at w3
  exact rch_of w3 .zero
theorem turn_conn (hu : Ord u) (hl : u.length = L.length) (hR : rightP L E) (h : IsTurn u L E L' E') {L'' : List Int} {E'' : List (Int × Int)} (k : IsTurn (backL u) L' E' L'' E'') : connP L' E' ↔ connP L E := by
  obtain ⟨r1, r2⟩ := h.right hu hl hR
  refine ⟨fun hc => ?_, conn_fwd hu hl hR h⟩
  have := conn_fwd (backL_ord hu) (by rw [backL_len hu, hl, r2]) r1 k hc
  obtain ⟨e1, e2⟩ := turn_back hu hl hR h k
  rw [e1, e2] at this
  exact this
theorem deg_perm {A B : List (Int × Int)} (h : A.Perm B) (x : Int) : deg A x = deg B x := (h.filter _).length_eq
theorem turn_deg (hu : Ord u) (hl : u.length = L.length) (hR : rightP L E) (h : IsTurn u L E L' E') {a : Int} (a0 : 0 ≤ a) (a1 : a < u.length) : deg E' (vtx u a) = deg E a := by
  rw [deg_perm h.perm]
  unfold deg
  rw [List.filter_map, List.length_map]
  congr 1
  refine List.filter_congr fun e he => ?_
  obtain ⟨g0, g1, g2⟩ := right_edge hR he
  have i1 : vtx u e.1 = vtx u a ↔ e.1 = a := ⟨fun x => vtx_inj hu g0 (by omega) a0 a1 x, fun x => by rw [x]⟩
  have i2 : vtx u e.2 = vtx u a ↔ e.2 = a := ⟨fun x => vtx_inj hu (by omega) (by omega) a0 a1 x, fun x => by rw [x]⟩
  show (decide ((mapE u e).1 = vtx u a) || decide ((mapE u e).2 = vtx u a)) = _
  unfold mapE
  rcases turnE_cases (vtx u e.1) (vtx u e.2) with ⟨h3, _⟩ | ⟨h3, _⟩
  · rw [h3]
    simp only [i1, i2]
  · rw [h3]
    simp only [i1, i2]
    rw [Bool.or_comm]
theorem turn_lab (hu : Ord u) (hl : u.length = L.length) (h : IsTurn u L E L' E') {i : Nat} {x : Int} (hx : L[i]? = some x) : L'[(vtx u (i : Int)).toNat]? = some x := by
  obtain ⟨hi, _⟩ := List.getElem?_eq_some_iff.1 hx
  have := vtx_get hu (a := (i : Int)) (by omega) (by omega)
  rw [Int.toNat_natCast] at this
  rw [h.lab]
  exact putL_at hu hl this hx
end
end Pt
end Go.Proofs.YtbbmgcdocolakaaGreatDoor
/-
  Contract of wire.Writer.Num, whatever number.
-/
namespace Go.Proofs.YtbbmgcdocolakaaGreatDoor
open Go.RowKit
set_option maxRecDepth 100000
set_option linter.unusedVariables false

set_option maxHeartbeats 4000000 in
theorem Num_bad (z : Int) (hz : ¬ fits z) (g B : Nat) (bs : List Int) (E : Err) (w : World) (hW : Wr w B g bs E) (hl : bs.length ≤ 1099511627776) :
    Calls Tryz.prog 76 #[.pointer (some ⟨g, 0, none⟩), .int .i64 z] w fun e w' => e = .returned (.tuple #[]) ∧ Wr w' B g (bs ++ wordL 0) (Err.first [E, .flt 3 bs.length txtNumber]) ∧ Below B w w' := by
  obtain ⟨hBg, hE, bv, ev, hb, hown, he⟩ := hW
  have hBw : B ≤ w.heap.size := Nat.le_trans hBg (Nat.le_of_lt hb.lt)
  obtain ⟨A0, n0, rfl, hsl0⟩ := Sl.own hown
  have hc0 := hb.cell 0
  have hc1 := hb.cell 1
  simp at hc0 hc1
  have HBk := Lib.hid hb
  have HO := Lib.hid hown
  have HE := Lib.hid he
  clear hb hown he hsl0
  go_enter Tryz.func76, Tryz.ntmps76
  have HF := Lib.hid (fun (w1 : World) (hb1 : Below w.heap.size w w1) (v1 : Value) (h1 : (Err.flt 3 bs.length txtNumber).At w1 v1) (a : Addr) (ha : a = ⟨w1.heap.size, 0, none⟩) =>
    (by
      have hbA := bel_al (Below.refl w1.heap.size w1) (.cells #[ev, v1] 34)
      subst ha
      exact First_any [E, .flt 3 bs.length txtNumber] [ev, v1] _ 2 2 _ (by omega) rfl ⟨_, _, rfl, (HE.out.keep hb1).keep hbA, _, _, rfl, h1.keep hbA, rfl⟩ (Sl.newAt w1 [ev, v1] 34 2 rfl) :
      Calls Tryz.prog 97 #[.slice (some a) 2 2] (w1.alloc (.cells #[ev, v1] 34)) fun e w' => ∃ v', e = .returned v' ∧ (Err.first [E, .flt 3 bs.length txtNumber]).At (w1.alloc (.cells #[ev, v1] 34)) v' ∧ w1.alloc (.cells #[ev, v1] 34) = w'))
  have HR := Lib.hid (fun (w1 : World) (hb1 : Below w.heap.size w w1) (v1 v2 : Value) (h2 : (Err.first [E, .flt 3 bs.length txtNumber]).At (w1.alloc (.cells #[ev, v1] 34)) v2) =>
    (by
      have hbA := hb1.andThen (bel_al (Below.refl w1.heap.size w1) (.cells #[ev, v1] 34))
      have hb' := HBk.out.keep hbA
      have := hb'.set_ 1 v2
      refine ⟨⟨hBg, Err.first2_flat hE, _, v2, by simpa using this, own_farBlk (own_below HO.out (fun g' hg' => (HO.out.lt g' hg').2) hbA) hb' (by decide) _, h2.far (Err.first2_flat hE) fun g' cs h => blk_farBlk h hb' (by decide) _⟩, (hbA.mono hBw).setCell (p := ⟨g, 1, none⟩) hBg _⟩ :
      Wr ((w1.alloc (.cells #[ev, v1] 34)).setCell ⟨g, 1, none⟩ v2) B g bs (Err.first [E, .flt 3 bs.length txtNumber]) ∧ Below B w ((w1.alloc (.cells #[ev, v1] 34)).setCell ⟨g, 1, none⟩ v2)))
  have hsh : ev = .nilIface ∨ ∃ T x, ev = .iface T x := by
    by_cases hn : E = .nil
    · left; have := HE.out; rw [hn] at this; exact this
    · right; exact Err.At.iface_ HE.out hn
  have hz' : z < 0 ∨ 4294967295 < z := by unfold fits at hz; omega
  clear hz
  rcases hsh with rfl | ⟨T, x, rfl⟩ <;> rcases hz' with hz0 | hz0
  all_goals
    go_wp2_with fail
    go_cut [] from 12 to 26 (fun wx => Wr wx B g bs (Err.first [E, .flt 3 bs.length txtNumber]) ∧ Below B w wx)
    case first =>
      go_region_with (first
        | (go_at_call 29; refine (New_err 3 bs.length txtNumber _).mono ?_; rintro e w1 ⟨v1, rfl, hv1, hb1⟩; have hbw : Below w.heap.size w w1 := (bel_drewN (Below.refl _ _) 1).andThen hb1; have hc1' := (HBk.out.keep hbw).cell 1; simp at hc1'; obtain ⟨g1, rfl, hv1b⟩ := hv1)
        | (go_at_call 97; refine (HF.out w1 hbw _ ⟨g1, rfl, hv1b⟩ _ rfl).mono ?_; rintro e w2 ⟨v2, rfl, hv2, rfl⟩; obtain ⟨T2, x2, rfl⟩ := Err.At.iface_ hv2 Err.first2_ne; have hbk2 := fun o => (HBk.out.keep hbw).alloc o; have hcs := fun o => (hbk2 o).cell 1; simp only [List.getElem?_toArray] at hcs; have hfs := fun o => (hbk2 o).frozen 1; clear hbk2))
      all_goals
        go_wp2_with fail
        go_meet
        exact HR.out w1 hbw _ _ hv2
    case rest =>
      obtain ⟨hwr, hbx⟩ := hcut
      clear HBk HO HE HF HR hc0 hc1
      obtain ⟨_, hE2, bv, ev2, hb, hown, he⟩ := hwr
      have hBw2 : B ≤ wc.heap.size := Nat.le_trans hBg (Nat.le_of_lt hb.lt)
      have hc0 := hb.cell 0
      simp at hc0
      have HW := Lib.hid (word_own 0 (by omega) bs bv bs.length B wc rfl hown hBw2 hl)
      have HBk := Lib.hid hb
      have HO := Lib.hid hown
      have HE := Lib.hid he
      clear hb hown he
      go_wp2_with fail
      refine HW.out.mono ?_
      rintro e w1 ⟨v', rfl, hown1, hgr⟩
      obtain ⟨g1, c1, rfl, _⟩ := own_form hown1 (by omega)
      have hb1 := hgr.blkOwn HBk.out HO.out (by decide)
      have hcell := hb1.cell 0
      simp at hcell
      have hfr := hb1.frozen 0
      have HT := Lib.hid (Wr.turn (bs' := bs ++ wordL 0) hBg hE2 HBk.out HO.out HE.out hgr.g (by rw [List.length_append, wordL_len]; exact hown1))
      have HB1 := Lib.hid (hgr.belowOwn hBw2 HO.out)
      clear hown1 hgr hb1 HW
      go_wp2_with fail
      go_end0
      exact ⟨rfl, HT.out, (hbx.trans HB1.out).setCell (p := ⟨g, 0, none⟩) hBg _⟩

theorem Num_any (z : Int) (hz : -9223372036854775808 ≤ z ∧ z ≤ 9223372036854775807) (g B : Nat) (st : St) (w : World) (hW : Wr w B g st.1 st.2) (hl : st.1.length ≤ 1099511627776) :
    Calls Tryz.prog 76 #[.pointer (some ⟨g, 0, none⟩), .int .i64 z] w fun e w' => e = .returned (.tuple #[]) ∧ Wr w' B g (pNum z st).1 (pNum z st).2 ∧ Below B w w' := by
  by_cases h : fits z
  · obtain ⟨k, rfl⟩ := Int.eq_ofNat_of_zero_le h.1
    have := Num_fits k (by have := h.2; omega) g B st.1 st.2 w hW hl
    rw [pNum, if_pos h]
    exact this
  · have := Num_bad z h g B st.1 st.2 w hW hl
    rw [pNum, if_neg h]
    exact this
end Go.Proofs.YtbbmgcdocolakaaGreatDoor
/-
  Contracts of wire.Writer: Bytes; bytes.Clone.
-/
namespace Go.Proofs.YtbbmgcdocolakaaGreatDoor
open Go.RowKit
set_option maxRecDepth 100000
set_option linter.unusedVariables false

set_option maxHeartbeats 2000000 in
theorem Clone_any (l : List Int) (A : Option Addr) (n c : Nat) (w : World) (hl : l.length = n) (hn : n ≤ 1099511627776) (hs : Sl w 1 A n (l.map (Value.int .u8))) :
    Calls Tryz.prog 79 #[.slice A n c] w fun e w' => ∃ C k, e = .returned (.slice C n k) ∧ Sl w' 1 C n (l.map (Value.int .u8)) ∧ (n ≤ k ∧ k ≤ 9223372036854775807) ∧ Below w.heap.size w w' := by
  have nn := fun (w : World) (a : Option Addr) (n c : Nat) => Lib.run_eql_slice_nil (P := Tryz.prog) w 42 5 a n c 0 0 Tryz.underlying42
  have HS := Lib.hid hs
  go_enter Tryz.func79, Tryz.ntmps79
  rcases A with _ | A
  · have hn0 : n = 0 := by
      rcases Nat.eq_zero_or_pos n with h | h
      · exact h
      · obtain ⟨_, _, h, _⟩ := hs.2 h; cases h
    subst hn0
    clear hs
    go_wp2_with fail
    go_ret
    exact ⟨none, 0, rfl, HS.out, by omega, Below.refl _ _⟩
  · have hbA := bel_al (Below.refl w.heap.size w) (.cells #[] 5)
    have HOE := Lib.hid (World.ownsRow_made (e := 5) (size := 1) w #[] 0 (Nat.le_refl _) (Nat.zero_le _) rfl)
    have HBA := Lib.hid hbA
    have SPA := Lib.hid (HS.out.keep hbA)
    clear hs hbA
    go_wp2_with (at_builtin; refine wpList_cat_at elemByte _ _ rfl rfl HOE.out HBA.out.size SPA.out rfl rfl (one_u8 _) (by unfold lim; omega) (by unfold lim; omega) ?_; intro v8 w8 hown8 hg8; have HO8 := Lib.hid hown8; have HB8 := Lib.hid (HBA.out.trans (hg8.belowOwn HBA.out.size HOE.out)); clear hown8 hg8 HOE HBA SPA)
    go_ret
    have hown := HO8.out
    rw [List.nil_append, Nat.zero_add] at hown
    obtain ⟨C, k, rfl, hsl⟩ := Sl.own hown
    exact ⟨C, k, rfl, hsl, own_cap hown, HB8.out⟩

theorem Bytes_any (g B : Nat) (st : St) (w : World) (hW : Wr w B g st.1 st.2) (hl : st.1.length ≤ 1099511627776) :
    Calls Tryz.prog 46 #[.pointer (some ⟨g, 0, none⟩)] w fun e w' => ∃ C k, e = .returned (.slice C st.1.length k) ∧ Sl w' 1 C st.1.length (st.1.map (Value.int .u8)) ∧ (st.1.length ≤ k ∧ k ≤ 9223372036854775807) ∧ Below w.heap.size w w' := by
  obtain ⟨hBg, hE, bv, ev, hb, hown, he⟩ := hW
  have hc0 := hb.cell 0
  simp at hc0
  obtain ⟨A0, n0, rfl, hsl0⟩ := Sl.own hown
  have HC := Lib.hid (Clone_any st.1 A0 st.1.length n0 w rfl hl hsl0)
  clear hb hown he hsl0
  go_enter Tryz.func46, Tryz.ntmps46
  go_wp2_with fail
  refine HC.out.mono ?_
  rintro e w1 ⟨C, k, rfl, hs1, hk1, hb1⟩
  have HS1 := Lib.hid hs1
  clear hs1 HC
  go_wp2_with fail
  go_ret
  exact ⟨_, _, rfl, HS1.out, hk1, hb1⟩
end Go.Proofs.YtbbmgcdocolakaaGreatDoor
/-
  Contracts of wire.Writer: Long, Text, List, Bytes, Err; bytes.Clone.
-/
namespace Go.Proofs.YtbbmgcdocolakaaGreatDoor
open Go.RowKit
set_option maxRecDepth 100000
set_option linter.unusedVariables false

/-- A text's bytes. -/
def sB (s : ByteArray) : List Int := s.data.toList.map fun b : UInt8 => (b.toNat : Int)
theorem sB_len (s : ByteArray) : (sB s).length = s.size := by rw [sB, List.length_map, Array.length_toList]; rfl
theorem sB_cells (s : ByteArray) : Lib.strCells s = (sB s).map (Value.int .u8) := by rw [sB, List.map_map]; rfl
theorem sB_bys (s : ByteArray) : Bys (sB s) := by
  intro x hx
  obtain ⟨b, _, rfl⟩ := List.mem_map.1 hx
  have := b.toNat_lt
  omega
def hiN (z : Int) : Nat := (z % 18446744073709551616 / 4294967296).toNat
def loN (z : Int) : Nat := (z % 4294967296).toNat
theorem hiN_lt (z : Int) : hiN z < 4294967296 := by unfold hiN; omega
theorem loN_lt (z : Int) : loN z < 4294967296 := by unfold loN; omega
def pLong (z : Int) (st : St) : St := (st.1 ++ wordL (hiN z) ++ wordL (loN z), st.2)
def pText (s : ByteArray) (st : St) : St := ((pNum s.size st).1 ++ sB s, (pNum s.size st).2)
def pNums : List Int → St → St
  | [], st => st
  | z :: l, st => pNums l (pNum z st)
def pList (l : List Int) (st : St) : St := pNums l (pNum l.length st)
theorem pNums_snoc : ∀ (l : List Int) (z : Int) (st : St), pNums (l ++ [z]) st = pNum z (pNums l st)
  | [], _, _ => rfl
  | x :: l, z, st => by rw [List.cons_append, pNums, pNums_snoc l, pNums]
theorem pNums_len : ∀ (l : List Int) (st : St), (pNums l st).1.length = st.1.length + 4 * l.length
  | [], st => by simp [pNums]
  | x :: l, st => by rw [pNums, pNums_len l, pNum_len, List.length_cons]; omega

section
variable {P : Program} {ops : Array Oper} {rest : List Oper} {o : Oper} {a : Act} {Q : Exit → Act → World → Prop}
/-- append(b, s...) of a string. -/
theorem wpList_str_lies {t u e : TypeId} (E : Elem P t e (.int .u8 0) 1 1) (hu : P.underlying u = some .string) {B : Nat} {W : World} (y x : Operand)
    (hgd : o.guard = none) (ho : o.op = .call { callee := .builtin .append, args := #[y, x], argTypes := #[t, u] })
    {v : Value} {n : Nat} {l : List Int} (hown : W.ownsRow B e 1 v n (l.map (Value.int .u8))) (hB : B ≤ W.heap.size) {s : ByteArray} (h0 : 0 < n + s.size)
    (hs : a.eval y = v) (hx : a.eval x = .string s) (hlim : n + s.size ≤ lim)
    (h : ∀ g cap w', w'.ownsRow B e 1 (.slice (some ⟨g, 0, none⟩) (n + s.size) cap) (n + s.size) ((l ++ sB s).map (Value.int .u8)) → W.grownBy w' v.ownBlock → wpList P ops Q rest (a.put o.dst (.slice (some ⟨g, 0, none⟩) (n + s.size) cap)) w') : wpList P ops Q (o :: rest) a W := by
  obtain ⟨i, hi, hz, hsize, hby⟩ := info_parts E.hi
  unfold lim at hlim
  refine Lib.wpList_append_own_string W hgd y x t u ho B e i E.ht hu hi hz hsize hby v n _ hs hown s hx (by unfold maxLen; omega) hlim hB ?_
  intro v' w' h2 h3 _
  rw [sB_cells, ← List.map_append] at h2
  rcases h2.2 with ⟨_, h4⟩ | ⟨g, cap, cur, rfl, _⟩
  · omega
  · exact h g cap w' h2 h3
end

set_option maxHeartbeats 2000000 in
theorem List_any (l : List Int) (hr : ∀ x ∈ l, -9223372036854775808 ≤ x ∧ x ≤ 9223372036854775807) (A : Option Addr) (n c : Nat) (hn : n ≤ 268435456) (hln : l.length = n) (g B : Nat) (st : St) (w : World)
    (hsB : ∀ w', Below B w w' → Sl w' 1 A n (l.map (Value.int .i64))) (hW : Wr w B g st.1 st.2) (hl : st.1.length ≤ 1099511627) :
    Calls Tryz.prog 44 #[.pointer (some ⟨g, 0, none⟩), .slice A n c] w fun e w' => e = .returned (.tuple #[]) ∧ Wr w' B g (pList l st).1 (pList l st).2 ∧ Below B w w' := by
  have HN := Lib.hid (Num_any n (by omega) g B st w hW (by omega))
  have HSB := Lib.hid hsB
  have HR := Lib.hid hr
  clear hW hsB hr
  go_enter Tryz.func44, Tryz.ntmps44
  go_wp2_with fail
  refine HN.out.mono ?_
  rintro e w1 ⟨rfl, hW1, hb1⟩
  have HW1 := Lib.hid hW1
  have HB1 := Lib.hid hb1
  have hpl := pNum_len n st
  have HPL := Lib.hid hpl
  clear hW1 hb1 HN hpl
  generalize hst : pNum n st = st1 at *
  go_wp2_with fail
  go_loopw [12] (fun iv wr => ∃ i : Nat, i ≤ n ∧ iv = .int .i64 i ∧ Wr wr B g (pNums (l.take i) st1).1 (pNums (l.take i) st1).2 ∧ Below B w wr) (fun iv _ => n - (intOf iv).toNat)
  case atStart => exact ⟨0, Nat.zero_le _, rfl, HW1.out, HB1.out⟩
  case round =>
    obtain ⟨i, hi, rfl, hWr, hb⟩ := hrel
    by_cases hlt : i < n
    · have hj : i < l.length := by omega
      obtain ⟨b, off, u, rfl, e1, c1⟩ := (HSB.out wr hb).one hlt
      rw [List.getElem?_map, List.getElem?_eq_getElem hj] at e1
      obtain rfl := Option.some.inj e1
      have HT := Lib.hid (List.take_succ_eq_append_getElem hj)
      have hz := HR.out _ (List.getElem_mem hj)
      have hlen := pNums_len (l.take i) st1
      rw [List.length_take, Nat.min_eq_left (by omega)] at hlen
      generalize l[i] = z at *
      have HZ := Lib.hid (Num_any z hz g B (pNums (l.take i) st1) wr hWr (by have := HPL.out; omega))
      have HBw := Lib.hid hb
      clear e1 hWr hb hlen
      go_wp2_with fail
      refine HZ.out.mono ?_
      rintro e w2 ⟨rfl, hW2, hb2⟩
      have HW2 := Lib.hid hW2
      have HB2 := Lib.hid (HBw.out.trans hb2)
      clear hW2 hb2 HZ
      go_wp2_with fail
      go_roundw
      case rel => exact ⟨i + 1, by omega, by go_num, by rw [HT.out, pNums_snoc]; exact HW2.out, HB2.out⟩
      case measure => simp [intOf]; omega
    · obtain rfl : i = n := by omega
      rw [List.take_of_length_le (by omega)] at hWr
      have HWr := Lib.hid hWr
      clear hWr
      go_wp2_with fail
      go_end0
      exact ⟨rfl, by rw [pList, hln, hst]; exact HWr.out, hb⟩

end Go.Proofs.YtbbmgcdocolakaaGreatDoor
/-
  Items; contracts of the statements' far and put, and of the document's Put.
-/
namespace Go.Proofs.YtbbmgcdocolakaaGreatDoor
open Go.RowKit
set_option maxRecDepth 100000
set_option linter.unusedVariables false

structure Item where
  kind : Int
  n : Int
  s : ByteArray
  l : List Int
def Item.ok (x : Item) : Prop := (-9223372036854775808 ≤ x.kind ∧ x.kind ≤ 9223372036854775807) ∧ (-9223372036854775808 ≤ x.n ∧ x.n ≤ 9223372036854775807) ∧ x.s.size ≤ 9223372036854775807 ∧ x.l.length ≤ 9223372036854775807 ∧ ∀ z ∈ x.l, -9223372036854775808 ≤ z ∧ z ≤ 9223372036854775807
/-- Items in memory. -/
def Its (w : World) (A : Option Addr) (n : Nat) (xs : List Item) : Prop :=
  xs.length = n ∧ ∀ (i : Nat) (x : Item), xs[i]? = some x → x.ok ∧ ∃ b off LA lc, A = some ⟨b, off, none⟩ ∧ w.cell? ⟨b, off + i * 4, none⟩ = some (.int .i64 x.kind) ∧ w.cell? ⟨b, off + i * 4 + 1, none⟩ = some (.int .i64 x.n) ∧
    w.cell? ⟨b, off + i * 4 + 2, none⟩ = some (.string x.s) ∧ w.cell? ⟨b, off + i * 4 + 3, none⟩ = some (.slice LA x.l.length lc) ∧ Sl w 1 LA x.l.length (x.l.map (Value.int .i64)) ∧ x.l.length ≤ lc ∧ lc ≤ 9223372036854775807
theorem Its.keep {w w' : World} {A : Option Addr} {n : Nat} {xs : List Item} (h : Its w A n xs) (hb : Below w.heap.size w w') : Its w' A n xs := by
  refine ⟨h.1, fun i x hx => ?_⟩
  obtain ⟨h0, b, off, LA, lc, hA, h1, h2, h3, h4, h5, h6⟩ := h.2 i x hx
  have hk : ∀ {p : Addr} {v : Value}, w.cell? p = some v → w'.cell? p = some v := fun hp => (hb.cell (World.block_lt_of_cell? w _ hp)).trans hp
  exact ⟨h0, b, off, LA, lc, hA, hk h1, hk h2, hk h3, hk h4, h5.keep hb, h6⟩
def near (x : Item) : Prop := x.s.size ≤ 200 ∧ x.l.length ≤ 60 ∧ 0 ≤ x.kind ∧ x.kind ≤ 3
def Near (xs : List Item) : Prop := xs.length ≤ 40 ∧ ∀ x ∈ xs, near x
instance (x : Item) : Decidable (near x) := by unfold near; exact inferInstance
instance (xs : List Item) : Decidable (Near xs) := by unfold Near; exact inferInstance

def pItem (x : Item) (st : St) : St := if x.kind = 0 then pNum x.n st else if x.kind = 1 then pLong x.n st else if x.kind = 2 then pText x.s st else pList x.l st
def pItems : List Item → St → St
  | [], st => st
  | x :: l, st => pItems l (pItem x st)
theorem pItems_snoc : ∀ (l : List Item) (x : Item) (st : St), pItems (l ++ [x]) st = pItem x (pItems l st)
  | [], _, _ => rfl
  | y :: l, x, st => by rw [List.cons_append, pItems, pItems_snoc l, pItems]
theorem pItem_len {x : Item} (h : near x) (st : St) : (pItem x st).1.length ≤ st.1.length + 500 := by
  obtain ⟨h1, h2, _⟩ := h
  unfold pItem
  split
  · rw [pNum_len]; omega
  split
  · simp only [pLong, List.length_append, wordL_len]; omega
  split
  · simp only [pText, List.length_append, pNum_len, sB_len]; omega
  · rw [pList, pNums_len, pNum_len]; omega
theorem pItems_len : ∀ {l : List Item} (h : ∀ x ∈ l, near x) (st : St), (pItems l st).1.length ≤ st.1.length + 500 * l.length
  | [], _, st => by simp [pItems]
  | x :: l, h, st => by
    have h1 := pItem_len (h x (List.mem_cons_self ..)) st
    have h2 := pItems_len (fun y hy => h y (List.mem_cons_of_mem _ hy)) (pItem x st)
    rw [pItems, List.length_cons]
    omega

end Go.Proofs.YtbbmgcdocolakaaGreatDoor
