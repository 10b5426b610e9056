/-
  Part 8 of the proof of PatBack: PermI, PtC, WireA, WireB, WireC, WireD, First, WireE, WireF, WrB, WireG.
-/
import Derived.Test.YtapledphhfiimaaGreatDoorPatBackM6
import Derived.Test.YtapledphhfiimaaGreatDoorPatBackM7
import Derived.Test.YtapledphhfiimaaGreatDoorPatBackM1
import Derived.Test.YtapledphhfiimaaGreatDoorPatBackM2
import Derived.Deep.DeepCutAuto
import Derived.BigQuiet
import Derived.Deep.QuietTactic
import Derived.ArgAppend
import Derived.Lib.SmallJoins
import Derived.Laws.BytesArg
import Derived.Lib.Strings
import Derived.Deep.RegionLaw
import Derived.Lib.AppendStr
import Derived.Deep.RegionWith
import Derived.WalkSpells
set_option linter.unusedVariables false
/-
  Pairs that stand the wrong way round, plainly: what a swap does to their number, and what going on does.
-/
namespace Go.Proofs.YtapledphhfiimaaGreatDoor
set_option linter.unusedVariables false
set_option linter.unusedSectionVars false

/-- Pairs that stand the wrong way round. -/
def inv : List Int → Nat
  | [] => 0
  | x :: l => (l.filter fun y => decide (y < x)).length + inv l
theorem inv_adj (x y : Int) (h : x ≠ y) (l2 : List Int) : ∀ l1 : List Int, (inv (l1 ++ x :: y :: l2) + inv (l1 ++ y :: x :: l2)) % 2 = 1
  | [] => by
    simp only [List.nil_append, inv, List.filter_cons]
    by_cases h1 : y < x
    · have h2 : ¬ x < y := by omega
      simp [h1, h2]; omega
    · have h2 : x < y := by omega
      simp [h1, h2]; omega
  | z :: l1 => by
    have ih := inv_adj x y h l2 l1
    have hf : ((l1 ++ x :: y :: l2).filter fun t => decide (t < z)).length = ((l1 ++ y :: x :: l2).filter fun t => decide (t < z)).length := by
      simp only [List.filter_append, List.length_append, List.filter_cons]
      split <;> split <;> simp
    simp only [List.cons_append, inv, hf]
    omega
theorem inv_move (x : Int) (l2 : List Int) : ∀ (m l1 : List Int), (∀ y ∈ m, x ≠ y) → (inv (l1 ++ x :: (m ++ l2)) + inv (l1 ++ (m ++ x :: l2))) % 2 = m.length % 2
  | [], l1, _ => by simp; omega
  | y :: m, l1, h => by
    have h1 := inv_adj x y (h y (List.mem_cons_self ..)) (m ++ l2) l1
    have h2 := inv_move x l2 m (l1 ++ [y]) (fun z hz => h z (List.mem_cons_of_mem _ hz))
    simp only [List.append_assoc, List.cons_append, List.nil_append, List.length_cons] at h1 h2 ⊢
    omega
theorem inv_swap (x y : Int) (l1 m l2 : List Int) (hxy : x ≠ y) (hx : ∀ z ∈ m, x ≠ z) (hy : ∀ z ∈ m, y ≠ z) : (inv (l1 ++ x :: (m ++ y :: l2)) + inv (l1 ++ y :: (m ++ x :: l2))) % 2 = 1 := by
  have h1 := inv_move x (y :: l2) m l1 hx
  have h2 := inv_adj x y hxy l2 (l1 ++ m)
  have h3 := inv_move y (x :: l2) m l1 hy
  simp only [List.append_assoc] at h1 h2 h3
  omega

/-- Two places' things swapped. -/
def swp (p : List Int) (a b : Nat) : List Int := (p.set a (p.getD b 0)).set b (p.getD a 0)
theorem swp_len (p : List Int) (a b : Nat) : (swp p a b).length = p.length := by simp [swp]
theorem swp_cut (p : List Int) (a b : Nat) (hab : a < b) (hb : b < p.length) : ∃ l1 m l2 x y, p = l1 ++ x :: (m ++ y :: l2) ∧ swp p a b = l1 ++ y :: (m ++ x :: l2) ∧ p[a]? = some x ∧ p[b]? = some y := by
  have h1 : p = p.take a ++ p[a] :: p.drop (a + 1) := by rw [← List.drop_eq_getElem_cons (by omega), List.take_append_drop]
  obtain ⟨c, rfl⟩ : ∃ c, b = a + 1 + c := ⟨b - a - 1, by omega⟩
  have hc : c < (p.drop (a + 1)).length := by simp; omega
  have h2 : p.drop (a + 1) = (p.drop (a + 1)).take c ++ (p.drop (a + 1))[c] :: (p.drop (a + 1)).drop (c + 1) := by rw [← List.drop_eq_getElem_cons hc, List.take_append_drop]
  have ha : (p.take a).length = a := by rw [List.length_take]; omega
  have hm : ((p.drop (a + 1)).take c).length = c := by rw [List.length_take]; omega
  have hy : (p.drop (a + 1))[c] = p[a + 1 + c] := by rw [List.getElem_drop]
  rw [hy] at h2
  refine ⟨p.take a, (p.drop (a + 1)).take c, (p.drop (a + 1)).drop (c + 1), p[a], p[a + 1 + c], by rw [← h2, ← h1], ?_, List.getElem?_eq_getElem _, List.getElem?_eq_getElem _⟩
  have hga : p.getD a 0 = p[a] := by rw [List.getD_eq_getElem?_getD, List.getElem?_eq_getElem (by omega)]; rfl
  have hgb : p.getD (a + 1 + c) 0 = p[a + 1 + c] := by rw [List.getD_eq_getElem?_getD, List.getElem?_eq_getElem hb]; rfl
  rw [swp, hga, hgb]
  generalize p[a] = x at *
  generalize p[a + 1 + c] = y at *
  generalize p.take a = l1 at *
  generalize (p.drop (a + 1)).take c = m at *
  generalize (p.drop (a + 1)).drop (c + 1) = l2 at *
  rw [h2] at h1
  rw [h1, List.set_append_right _ _ (by omega), List.set_append_right _ _ (by omega), ha]
  congr 1
  rw [show a - a = 0 by omega, show a + 1 + c - a = c + 1 by omega, List.set_cons_zero, List.set_cons_succ, List.set_append_right _ _ (by omega), hm, show c - c = 0 by omega, List.set_cons_zero]
theorem swp_perm (p : List Int) (a b : Nat) (hab : a < b) (hb : b < p.length) : List.Perm (swp p a b) p := by
  obtain ⟨l1, m, l2, x, y, h1, h2, _, _⟩ := swp_cut p a b hab hb
  rw [h2]
  conv => rhs; rw [h1]
  refine List.Perm.append_left l1 ?_
  refine (List.Perm.cons y List.perm_middle).trans ((List.Perm.swap x y _).trans (List.Perm.cons x List.perm_middle.symm))
theorem swp_inv {p : List Int} (hn : p.Nodup) (a b : Nat) (hab : a < b) (hb : b < p.length) : (inv p + inv (swp p a b)) % 2 = 1 := by
  obtain ⟨l1, m, l2, x, y, h1, h2, _, _⟩ := swp_cut p a b hab hb
  rw [h1] at hn
  rw [h2]
  conv => lhs; lhs; lhs; rw [h1]
  have hn1 := (List.nodup_append.1 hn).2.1
  have hx := (List.nodup_cons.1 hn1).1
  have hn2 := List.nodup_append.1 (List.nodup_cons.1 hn1).2
  have hxy : x ≠ y := fun e => hx (by rw [e]; simp)
  exact inv_swap x y l1 m l2 hxy (fun z hz e => hx (by rw [e]; simp [hz])) (fun z hz e => hn2.2.2 z hz y (by simp) e.symm)
theorem swp_at (p : List Int) (a b : Nat) (hab : a < b) (hb : b < p.length) (j : Nat) : (swp p a b)[j]? = if j = b then p[a]? else if j = a then p[b]? else p[j]? := by
  have hga : p[a]? = some (p.getD a 0) := by rw [List.getD_eq_getElem?_getD, List.getElem?_eq_getElem (by omega)]; rfl
  have hgb : p[b]? = some (p.getD b 0) := by rw [List.getD_eq_getElem?_getD, List.getElem?_eq_getElem hb]; rfl
  rw [swp, List.getElem?_set, List.getElem?_set, hga, hgb]
  by_cases h1 : b = j
  · subst h1; simp [hb]
  · by_cases h2 : a = j
    · subst h2
      have : ¬ a = b := by omega
      simp [this, h1]; omega
    · simp [h1, h2, Ne.symm h1, Ne.symm h2]
theorem swp_ord {p : List Int} (h : Ord p) (a b : Nat) (hab : a < b) (hb : b < p.length) : Ord (swp p a b) := by
  have hp := swp_perm p a b hab hb
  refine ⟨by rw [swp_len]; exact h.1, fun x hx => ?_, hp.nodup_iff.2 h.2.2⟩
  rw [swp_len]
  exact h.2.1 x (hp.mem_iff.1 hx)

/-- From k on each thing stands at its place. -/
def Fix (k : Nat) (p : List Int) : Prop := ∀ i : Nat, k ≤ i → i < p.length → p[i]? = some (i : Int)
theorem fix_zero {p : List Int} (h : Fix 0 p) : p = ids p.length := by
  apply List.ext_getElem?
  intro i
  by_cases hi : i < p.length
  · rw [h i (Nat.zero_le _) hi, ids_get _ _ hi]
  · rw [List.getElem?_eq_none (by omega), List.getElem?_eq_none (by rw [ids_len]; omega)]
theorem ord_induct {Q : List Int → Prop} (hid : ∀ n, n ≤ 8 → Q (ids n))
    (hsw : ∀ (p : List Int) (a k m : Nat), Ord p → a < k → k < p.length → p[a]? = some (k : Int) → p[k]? = some (m : Int) → m < k → Fix (k + 1) p → Q (swp p a k) → Q p) : ∀ (k : Nat) (p : List Int), Ord p → Fix k p → Q p
  | 0, p, h, hf => by rw [fix_zero hf]; exact hid _ h.1
  | k + 1, p, h, hf => by
    by_cases hk : k < p.length
    · obtain ⟨m, hm, hpm⟩ := h.get hk
      by_cases hmk : m = k
      · refine ord_induct hid hsw k p h (fun i hi hil => ?_)
        by_cases e : i = k
        · rw [e, hpm, hmk]
        · exact hf i (by omega) hil
      · obtain ⟨a, ha, hpa⟩ := h.at_ hk
        have hak : a < k := by
          rcases Nat.lt_trichotomy a k with h1 | h1 | h1
          · exact h1
          · rw [h1, hpm] at hpa
            have : (m : Int) = k := by simpa using hpa
            omega
          · have := hf a (by omega) ha
            rw [hpa] at this
            have : (k : Int) = a := by simpa using this
            omega
        have hml : m < k := by
          rcases Nat.lt_trichotomy m k with h1 | h1 | h1
          · exact h1
          · exact absurd h1 hmk
          · have h2 := hf m (by omega) hm
            have := h.inj h2 hpm
            omega
        refine hsw p a k m h hak hk hpa hpm hml hf (ord_induct hid hsw k _ (swp_ord h a k hak hk) (fun i hi hil => ?_))
        rw [swp_len] at hil
        rw [swp_at p a k hak hk]
        by_cases e : i = k
        · rw [if_pos e, hpa, e]
        · rw [if_neg e, if_neg (by omega)]
          exact hf i (by omega) hil
    · exact ord_induct hid hsw k p h (fun i hi hil => absurd hil (by omega))
theorem fix_all (p : List Int) : Fix p.length p := fun _ h1 h2 => absurd h2 (by omega)

theorem inv_ids : ∀ n, inv (ids n) = 0 := by
  have h : ∀ l : List Int, l.Pairwise (· < ·) → inv l = 0 := by
    intro l
    induction l with
    | nil => intro _; rfl
    | cons x l ih =>
      intro hp
      obtain ⟨h1, h2⟩ := List.pairwise_cons.1 hp
      rw [inv, ih h2, List.length_eq_zero_iff.2 (List.filter_eq_nil_iff.2 (fun y hy => by have := h1 y hy; simp; omega))]
  intro n
  refine h _ ?_
  unfold ids
  rw [List.pairwise_map]
  exact List.Pairwise.imp (fun h => by omega) List.pairwise_lt_range

theorem map_swp (f : Int → Int) (p : List Int) (a b : Nat) (hab : a < b) (hb : b < p.length) : (swp p a b).map f = swp (p.map f) a b := by
  apply List.ext_getElem?
  intro j
  rw [List.getElem?_map, swp_at p a b hab hb, swp_at (p.map f) a b hab (by simpa using hb)]
  simp only [List.getElem?_map]
  split
  · rfl
  · split <;> rfl
theorem thenL_ids {q : List Int} (h : Ord q) : (ids q.length).map (fun x => q.getD x.toNat 0) = q := by
  apply List.ext_getElem?
  intro j
  rw [List.getElem?_map]
  by_cases hj : j < q.length
  · rw [ids_get _ _ hj, List.getElem?_eq_getElem hj]
    simp [List.getElem?_eq_getElem hj]
  · rw [List.getElem?_eq_none (by rw [ids_len]; omega), List.getElem?_eq_none (by omega)]; rfl
theorem then_get {p q : List Int} (hp : Ord p) (hq : Ord q) (hl : p.length = q.length) : thenL p q = p.map fun x => q.getD x.toNat 0 := by rw [thenL, if_pos ⟨hp, hq, hl⟩]
theorem then_nodup {p q : List Int} (hp : Ord p) (hq : Ord q) (hl : p.length = q.length) : (p.map fun x => q.getD x.toNat 0).Nodup := by
  rw [List.nodup_iff_pairwise_ne, List.pairwise_map]
  refine List.Pairwise.imp_of_mem ?_ (List.nodup_iff_pairwise_ne.1 hp.2.2)
  intro x y hx hy hne e
  have h1 := hp.2.1 x hx
  have h2 := hp.2.1 y hy
  have hx' : q[x.toNat]? = some (q.getD x.toNat 0) := by rw [List.getD_eq_getElem?_getD, List.getElem?_eq_getElem (by omega)]; rfl
  have hy' : q[y.toNat]? = some (q.getD y.toNat 0) := by rw [List.getD_eq_getElem?_getD, List.getElem?_eq_getElem (by omega)]; rfl
  rw [e] at hx'
  have := hq.inj hx' hy'
  omega
theorem then_ord {p q : List Int} (hp : Ord p) (hq : Ord q) (hl : p.length = q.length) : Ord (thenL p q) := by
  rw [then_get hp hq hl]
  refine ⟨by rw [List.length_map]; exact hp.1, fun x hx => ?_, then_nodup hp hq hl⟩
  obtain ⟨y, hy, rfl⟩ := List.mem_map.1 hx
  have h1 := hp.2.1 y hy
  rw [List.length_map, hl]
  refine hq.2.1 _ ?_
  rw [List.getD_eq_getElem?_getD, List.getElem?_eq_getElem (by omega)]
  exact List.getElem_mem _
/-- Evenness goes along. -/
theorem then_inv {p q : List Int} (hp : Ord p) (hq : Ord q) (hl : p.length = q.length) : (inv (thenL p q) + inv p + inv q) % 2 = 0 := by
  have key : ∀ p : List Int, Ord p → p.length = q.length → (inv (p.map fun x => q.getD x.toNat 0) + inv p + inv q) % 2 = 0 := by
    intro p hp
    refine ord_induct (Q := fun p => p.length = q.length → (inv (p.map fun x => q.getD x.toNat 0) + inv p + inv q) % 2 = 0) ?_ ?_ p.length p hp (fix_all p)
    · intro n hn hl
      rw [ids_len] at hl
      subst hl
      rw [thenL_ids hq, inv_ids]
      omega
    · intro p a k m ho hak hk hpa hpk hmk hf ih hl
      have h1 := ih (by rw [swp_len]; exact hl)
      rw [map_swp _ p a k hak hk] at h1
      have h2 := swp_inv ho.2.2 a k hak hk
      have h3 := swp_inv (then_nodup ho hq hl) a k hak (by rw [List.length_map]; exact hk)
      omega
  rw [then_get hp hq hl]
  exact key p hp hl
end Go.Proofs.YtapledphhfiimaaGreatDoor
/-
  Patterns turned, plainly: one turning behind another; connectedness; degrees.
-/
namespace Go.Proofs.YtapledphhfiimaaGreatDoor
open Go.RowKit
set_option linter.unusedVariables false

namespace Pt
section
variable {u v L L' L1 L2 L3 : List Int} {E E' E1 E2 E3 : List (Int × Int)}
theorem vtx_then (hu : Ord u) (hv : Ord v) (h : u.length = v.length) {a : Int} (h0 : 0 ≤ a) (h1 : a < u.length) : vtx v (vtx u a) = vtx (thenL u v) a := by
  have g1 := vtx_get hu h0 h1
  have ht := then_get hu hv h
  show vtx v (vtx u a) = (thenL u v).getD a.toNat 0
  rw [ht, List.getD_eq_getElem?_getD, List.getElem?_map, g1]
  rfl
theorem put_twice (hu : Ord u) (hv : Ord v) (h : u.length = v.length) (hl : u.length = L.length) : putL v (putL u L) = putL (thenL u v) L := by
  have ho := then_ord hu hv h
  have htl : (thenL u v).length = u.length := by rw [then_get hu hv h, List.length_map]
  have hpl := putL_len hu hl
  have ha := putL_len hv (l := putL u L) (by rw [hpl]; exact h.symm)
  have hb := putL_len ho (l := L) (by rw [htl]; exact hl)
  apply List.ext_getElem?
  intro k
  by_cases hk : k < u.length
  · obtain ⟨j, hj, hvj⟩ := hv.at_ (j := k) (by omega)
    obtain ⟨i, hi, hui⟩ := hu.at_ (j := j) (by omega)
    have hy : L[i]? = some (L[i]'(by omega)) := List.getElem?_eq_getElem (by omega)
    have e1 := putL_at hu hl hui hy
    rw [Int.toNat_natCast] at e1
    have e2 := putL_at hv (l := putL u L) (by rw [hpl]; exact h.symm) hvj e1
    have e3 : (thenL u v)[i]? = some (k : Int) := by
      rw [then_get hu hv h, List.getElem?_map, hui]
      simp only [Option.map_some, Int.toNat_natCast]
      rw [List.getD_eq_getElem?_getD, hvj]
      rfl
    have e4 := putL_at ho (l := L) (by rw [htl]; exact hl) e3 hy
    rw [Int.toNat_natCast] at e2 e4
    rw [e2, e4]
  · rw [List.getElem?_eq_none (by omega), List.getElem?_eq_none (by omega)]
theorem turn_two (hu : Ord u) (hv : Ord v) (huv : u.length = v.length) (hl : u.length = L.length) (hR : rightP L E) (h1 : IsTurn u L E L1 E1) (h2 : IsTurn v L1 E1 L2 E2) (h3 : IsTurn (thenL u v) L E L3 E3) : L2 = L3 ∧ E2 = E3 := by
  refine ⟨by rw [h2.lab, h1.lab, h3.lab, put_twice hu hv huv hl], rise_uniq h2.rise h3.rise ?_⟩
  refine h2.perm.trans ((h1.perm.map _).trans (List.Perm.trans ?_ h3.perm.symm))
  rw [List.map_map]
  have : E.map (mapE v ∘ mapE u) = E.map (mapE (thenL u v)) := by
    refine List.map_congr_left fun e he => ?_
    obtain ⟨g0, g1, g2⟩ := right_edge hR he
    exact mapE_two fun a ha => vtx_then hu hv huv (by rcases ha with rfl | rfl <;> omega) (by rcases ha with rfl | rfl <;> omega)
  rw [this]
/-- A way from one vertex to another. -/
inductive Wk (E : List (Int × Int)) (a : Int) : Int → Prop
  | refl : Wk E a a
  | step {b c : Int} : Wk E a b → AdjE E b c → Wk E a c
theorem Wk.trans {E : List (Int × Int)} {a b c : Int} (h : Wk E a b) (k : Wk E b c) : Wk E a c := by
  induction k with
  | refl => exact h
  | step _ k2 ih => exact .step ih k2
theorem adj_sym {E : List (Int × Int)} {a b : Int} (h : AdjE E a b) : AdjE E b a := Or.symm h
theorem Wk.symm {E : List (Int × Int)} {a b : Int} (h : Wk E a b) : Wk E b a := by
  induction h with
  | refl => exact .refl
  | step _ k ih => exact Wk.trans (.step .refl (adj_sym k)) ih
theorem wk_of {E : List (Int × Int)} {a : Int} (h : Rch E a) : Wk E 0 a := by
  induction h with
  | zero => exact .refl
  | fwd he _ ih => exact .step ih (.inl he)
  | bwd he _ ih => exact .step ih (.inr he)
theorem rch_of {E : List (Int × Int)} {a b : Int} (h : Wk E a b) (ha : Rch E a) : Rch E b := by
  induction h with
  | refl => exact ha
  | step _ k ih => exact ih.adj k
theorem adj_map (hE : E'.Perm (E.map (mapE u))) {a b : Int} (h : AdjE E a b) : AdjE E' (vtx u a) (vtx u b) := by
  have key : ∀ x y, (x, y) ∈ E → AdjE E' (vtx u x) (vtx u y) := fun x y hm => by
    have h1 : mapE u (x, y) ∈ E' := hE.symm.subset (List.mem_map.2 ⟨_, hm, rfl⟩)
    unfold mapE at h1
    simp only at h1
    rcases turnE_cases (vtx u x) (vtx u y) with ⟨h3, _⟩ | ⟨h3, _⟩
    · rw [h3] at h1; exact .inl h1
    · rw [h3] at h1; exact .inr h1
  rcases h with h | h
  · exact key a b h
  · exact adj_sym (key b a h)
theorem wk_map (hE : E'.Perm (E.map (mapE u))) {a b : Int} (h : Wk E a b) : Wk E' (vtx u a) (vtx u b) := by
  induction h with
  | refl => exact .refl
  | step _ k ih => exact .step ih (adj_map hE k)
theorem conn_fwd (hu : Ord u) (hl : u.length = L.length) (hR : rightP L E) (h : IsTurn u L E L' E') (hc : connP L E) : connP L' E' := by
  obtain ⟨r1, r2⟩ := h.right hu hl hR
  refine ⟨r1, by rw [r2]; exact hc.2.1, fun k hk => ?_⟩
  rw [r2] at hk
  have h0 := hc.2.1
  obtain ⟨i, hi, hui⟩ := hu.at_ (j := k) (by omega)
  obtain ⟨z, hz, huz⟩ := hu.at_ (j := 0) (by omega)
  have e1 : vtx u (i : Int) = (k : Int) := by
    have := vtx_get hu (a := (i : Int)) (by omega) (by omega)
    rw [Int.toNat_natCast, hui] at this
    injection this with this
    exact this.symm
  have e2 : vtx u (z : Int) = 0 := by
    have := vtx_get hu (a := (z : Int)) (by omega) (by omega)
    rw [Int.toNat_natCast, huz] at this
    injection this with this
    exact this.symm
  have w1 := wk_of (hc.2.2 i (by omega))
  have w2 := wk_of (hc.2.2 z (by omega))
  have w3 := wk_map h.perm (w2.symm.trans w1)
  rw [e1, e2] at w3
  exact rch_of w3 .zero
theorem turn_conn (hu : Ord u) (hl : u.length = L.length) (hR : rightP L E) (h : IsTurn u L E L' E') {L'' : List Int} {E'' : List (Int × Int)} (k : IsTurn (backL u) L' E' L'' E'') : connP L' E' ↔ connP L E := by
  obtain ⟨r1, r2⟩ := h.right hu hl hR
  refine ⟨fun hc => ?_, conn_fwd hu hl hR h⟩
  have := conn_fwd (backL_ord hu) (by rw [backL_len hu, hl, r2]) r1 k hc
  obtain ⟨e1, e2⟩ := turn_back hu hl hR h k
  rw [e1, e2] at this
  exact this
theorem deg_perm {A B : List (Int × Int)} (h : A.Perm B) (x : Int) : deg A x = deg B x := (h.filter _).length_eq
theorem turn_deg (hu : Ord u) (hl : u.length = L.length) (hR : rightP L E) (h : IsTurn u L E L' E') {a : Int} (a0 : 0 ≤ a) (a1 : a < u.length) : deg E' (vtx u a) = deg E a := by
  rw [deg_perm h.perm]
  unfold deg
  rw [List.filter_map, List.length_map]
  congr 1
  refine List.filter_congr fun e he => ?_
  obtain ⟨g0, g1, g2⟩ := right_edge hR he
  have i1 : vtx u e.1 = vtx u a ↔ e.1 = a := ⟨fun x => vtx_inj hu g0 (by omega) a0 a1 x, fun x => by rw [x]⟩
  have i2 : vtx u e.2 = vtx u a ↔ e.2 = a := ⟨fun x => vtx_inj hu (by omega) (by omega) a0 a1 x, fun x => by rw [x]⟩
  show (decide ((mapE u e).1 = vtx u a) || decide ((mapE u e).2 = vtx u a)) = _
  unfold mapE
  rcases turnE_cases (vtx u e.1) (vtx u e.2) with ⟨h3, _⟩ | ⟨h3, _⟩
  · rw [h3]
    simp only [i1, i2]
  · rw [h3]
    simp only [i1, i2]
    rw [Bool.or_comm]
theorem turn_lab (hu : Ord u) (hl : u.length = L.length) (h : IsTurn u L E L' E') {i : Nat} {x : Int} (hx : L[i]? = some x) : L'[(vtx u (i : Int)).toNat]? = some x := by
  obtain ⟨hi, _⟩ := List.getElem?_eq_some_iff.1 hx
  have := vtx_get hu (a := (i : Int)) (by omega) (by omega)
  rw [Int.toNat_natCast] at this
  rw [h.lab]
  exact putL_at hu hl this hx
end
end Pt
end Go.Proofs.YtapledphhfiimaaGreatDoor
/-
  Bytes, words, sums and parcels, plainly: no program in sight.
-/
namespace Go.Proofs.YtapledphhfiimaaGreatDoor

/-- A list of bytes. -/
def Bys (l : List Int) : Prop := ∀ x ∈ l, 0 ≤ x ∧ x ≤ 255
theorem Bys.nil : Bys [] := fun _ h => absurd h (by simp)
theorem Bys.append {a b : List Int} (ha : Bys a) (hb : Bys b) : Bys (a ++ b) := fun x hx => (List.mem_append.1 hx).elim (ha x) (hb x)
theorem Bys.left {a b : List Int} (h : Bys (a ++ b)) : Bys a := fun x hx => h x (List.mem_append_left _ hx)
theorem Bys.right {a b : List Int} (h : Bys (a ++ b)) : Bys b := fun x hx => h x (List.mem_append_right _ hx)
theorem Bys.take {a : List Int} (h : Bys a) (k : Nat) : Bys (a.take k) := fun x hx => h x (List.mem_of_mem_take hx)
theorem Bys.drop {a : List Int} (h : Bys a) (k : Nat) : Bys (a.drop k) := fun x hx => h x (List.mem_of_mem_drop hx)
theorem Bys.cons {x : Int} {a : List Int} (h0 : 0 ≤ x) (h1 : x ≤ 255) (h : Bys a) : Bys (x :: a) := fun y hy => by
  rcases List.mem_cons.1 hy with rfl | hy
  · exact ⟨h0, h1⟩
  · exact h y hy
theorem Bys.set {a : List Int} (h : Bys a) (k : Nat) {x : Int} (h0 : 0 ≤ x) (h1 : x ≤ 255) : Bys (a.set k x) := fun y hy => by
  rcases List.mem_or_eq_of_mem_set hy with hy | rfl
  · exact h y hy
  · exact ⟨h0, h1⟩

/-- A number's 4 bytes, the highest first. -/
def wordL (n : Nat) : List Int := [((n / 16777216 % 256 : Nat) : Int), ((n / 65536 % 256 : Nat) : Int), ((n / 256 % 256 : Nat) : Int), ((n % 256 : Nat) : Int)]
theorem wordL_len (n : Nat) : (wordL n).length = 4 := rfl
theorem wordL_bys (n : Nat) : Bys (wordL n) := by
  intro x hx
  simp only [wordL, List.mem_cons, List.not_mem_nil, or_false] at hx
  rcases hx with rfl | rfl | rfl | rfl <;> omega
/-- 4 bytes as a number. -/
def wordN : List Int → Nat
  | a :: b :: c :: d :: _ => a.toNat * 16777216 + b.toNat * 65536 + c.toNat * 256 + d.toNat
  | _ => 0
theorem wordN_of {n : Nat} (h : n < 4294967296) (r : List Int) : wordN (wordL n ++ r) = n := by
  simp only [wordL, List.cons_append, List.nil_append, wordN, Int.toNat_natCast]
  omega
theorem wordN_lt : ∀ {l : List Int}, Bys l → wordN l < 4294967296
  | a :: b :: c :: d :: _, h => by
    have h1 := h a (by simp)
    have h2 := h b (by simp)
    have h3 := h c (by simp)
    have h4 := h d (by simp)
    simp only [wordN]
    omega
  | [], _ => by simp [wordN]
  | [_], _ => by simp [wordN]
  | [_, _], _ => by simp [wordN]
  | [_, _, _], _ => by simp [wordN]
theorem four : ∀ {l : List Int}, 4 ≤ l.length → ∃ a b c d, l.take 4 = [a, b, c, d] ∧ l = a :: b :: c :: d :: l.drop 4
  | a :: b :: c :: d :: r, _ => ⟨a, b, c, d, rfl, rfl⟩
  | [], h => by simp at h
  | [_], h => by simp at h
  | [_, _], h => by simp at h
  | [_, _, _], h => by simp at h
theorem wordL_of {l : List Int} (h : Bys l) (hl : 4 ≤ l.length) : wordL (wordN l) = l.take 4 := by
  obtain ⟨a, b, c, d, h4, he⟩ := four hl
  rw [he] at h
  have h1 := h a (by simp)
  have h2 := h b (by simp)
  have h3 := h c (by simp)
  have h5 := h d (by simp)
  rw [h4, he]
  simp only [wordN, wordL]
  congr 1
  · omega
  · congr 1
    · omega
    · congr 1
      · omega
      · congr 1; omega
theorem wordN_take {l : List Int} (hl : 4 ≤ l.length) : wordN (l.take 4) = wordN l := by
  obtain ⟨a, b, c, d, h4, he⟩ := four hl
  rw [h4]
  conv => rhs; rw [he]
  rfl
theorem wordN_inj {l r : List Int} (h : Bys l) (hr : Bys r) (hl : 4 ≤ l.length) (hlr : 4 ≤ r.length) (e : wordN l = wordN r) : l.take 4 = r.take 4 := by
  rw [← wordL_of h hl, ← wordL_of hr hlr, e]

/-- A byte more in a sum. -/
def sstep (s : Nat × Nat) (c : Int) : Nat × Nat := ((s.1 + c.toNat) % 65521, (s.2 + (s.1 + c.toNat) % 65521) % 65521)
def sumS (l : List Int) : Nat × Nat := l.foldl sstep (1, 0)
theorem sumS_snoc (l : List Int) (c : Int) : sumS (l ++ [c]) = sstep (sumS l) c := by simp [sumS, List.foldl_append]
theorem sumS_lt (l : List Int) : (sumS l).1 < 65521 ∧ (sumS l).2 < 65521 := by
  have : ∀ (l : List Int) (s : Nat × Nat), s.1 < 65521 → s.2 < 65521 → (l.foldl sstep s).1 < 65521 ∧ (l.foldl sstep s).2 < 65521 := by
    intro l
    induction l with
    | nil => intro s h1 h2; exact ⟨h1, h2⟩
    | cons c l ih => intro s h1 h2; exact ih _ (Nat.mod_lt _ (by omega)) (Nat.mod_lt _ (by omega))
  exact this l (1, 0) (by decide) (by decide)
/-- The sum of bytes. -/
def sumL (l : List Int) : Nat := (sumS l).2 * 65536 + (sumS l).1
theorem sumL_lt (l : List Int) : sumL l < 4294967296 := by
  have := sumS_lt l
  unfold sumL; omega
def tot : List Int → Nat
  | [] => 0
  | c :: l => c.toNat + tot l
theorem tot_append : ∀ a b, tot (a ++ b) = tot a + tot b
  | [], b => by simp [tot]
  | c :: a, b => by rw [List.cons_append, tot, tot, tot_append a b]; omega
theorem sumS_fst (l : List Int) : (sumS l).1 = (1 + tot l) % 65521 := by
  have : ∀ (l : List Int) (s : Nat × Nat), s.1 < 65521 → (l.foldl sstep s).1 = (s.1 + tot l) % 65521 := by
    intro l
    induction l with
    | nil => intro s h1; simp only [List.foldl_nil, tot]; omega
    | cons c l ih =>
      intro s h1
      rw [List.foldl_cons, ih _ (Nat.mod_lt _ (by omega)), tot]
      simp only [sstep]
      omega
  exact this l (1, 0) (by decide)
theorem sumL_fst {a b : List Int} (h : sumL a = sumL b) : (sumS a).1 = (sumS b).1 := by
  have h1 := sumS_lt a
  have h2 := sumS_lt b
  unfold sumL at h
  omega
/-- One byte turned: another sum. -/
theorem sumL_turn (a b : List Int) (x y : Int) (hx : 0 ≤ x ∧ x ≤ 255) (hy : 0 ≤ y ∧ y ≤ 255) (hne : x ≠ y) : sumL (a ++ x :: b) ≠ sumL (a ++ y :: b) := by
  intro h
  have := sumL_fst h
  rw [sumS_fst, sumS_fst, tot_append, tot_append, tot, tot] at this
  omega

/-- FWRK. -/
def fwrk : List Int := [70, 87, 82, 75]
/-- What the sum is of. -/
def preL (kind : Int) (body : List Int) : List Int := fwrk ++ kind :: (wordL body.length ++ body)
/-- A parcel. -/
def packL (kind : Int) (body : List Int) : List Int := preL kind body ++ wordL (sumL (preL kind body))
theorem preL_len (kind : Int) (body : List Int) : (preL kind body).length = body.length + 9 := by simp [preL, fwrk, wordL]
theorem packL_len (kind : Int) (body : List Int) : (packL kind body).length = body.length + 13 := by rw [packL, List.length_append, preL_len, wordL_len]
theorem preL_bys {kind : Int} {body : List Int} (hk : 0 ≤ kind ∧ kind ≤ 255) (hb : Bys body) : Bys (preL kind body) :=
  Bys.append (by unfold fwrk Bys; intro x hx; simp only [List.mem_cons, List.not_mem_nil, or_false] at hx; rcases hx with rfl | rfl | rfl | rfl <;> omega) (Bys.cons hk.1 hk.2 ((wordL_bys _).append hb))
theorem packL_bys {kind : Int} {body : List Int} (hk : 0 ≤ kind ∧ kind ≤ 255) (hb : Bys body) : Bys (packL kind body) := (preL_bys hk hb).append (wordL_bys _)

/-- What is wrong with a parcel: nothing (0), its beginning (1), its end (2), its length: too long (3), too short (4), its sum (5). -/
def unW (b : List Int) : Nat :=
  if 4 ≤ b.length ∧ b.take 4 ≠ fwrk then 1
  else if b.length < 13 then 2
  else if b.length - 13 < wordN (b.drop 5) then 3
  else if wordN (b.drop 5) < b.length - 13 then 4
  else if wordN (b.drop (9 + wordN (b.drop 5))) ≠ sumL (b.take (9 + wordN (b.drop 5))) then 5
  else 0
theorem unW_ok {b : List Int} (hb : Bys b) (h : unW b = 0) : ∃ kind body, b = packL kind body ∧ body.length = wordN (b.drop 5) ∧ b[4]? = some kind ∧ (b.drop 9).take body.length = body ∧ 0 ≤ kind ∧ kind ≤ 255 ∧ Bys body := by
  unfold unW at h
  split at h
  · omega
  split at h
  · omega
  split at h
  · omega
  split at h
  · omega
  split at h
  · omega
  rename_i h1 h2 h3 h4 h5
  have hm : b.take 4 = fwrk := Decidable.byContradiction fun e => h1 ⟨by omega, e⟩
  have hn : wordN (b.drop 5) = b.length - 13 := by omega
  have h5 : wordN (b.drop (9 + wordN (b.drop 5))) = sumL (b.take (9 + wordN (b.drop 5))) := Decidable.byContradiction h5
  have hk : b[4]? = some b[4] := List.getElem?_eq_getElem (by omega)
  have hbl : ((b.drop 9).take (b.length - 13)).length = b.length - 13 := by rw [List.length_take, List.length_drop]; omega
  have hpre : b.take (9 + wordN (b.drop 5)) = preL b[4] ((b.drop 9).take (b.length - 13)) := by
    have hw := wordL_of (hb.drop 5) (by rw [List.length_drop]; omega)
    unfold preL
    rw [hbl, ← hm, ← hn, hw, hn]
    have e1 : b.take (9 + (b.length - 13)) = b.take 9 ++ (b.drop 9).take (b.length - 13) := List.take_add ..
    have e2 : b.take 9 = b.take 5 ++ (b.drop 5).take 4 := List.take_add (i := 5) (j := 4) ..
    have e3 : b.take 5 = b.take 4 ++ [b[4]] := List.take_succ_eq_append_getElem (by omega)
    rw [e1, e2, e3]
    simp only [List.append_assoc, List.cons_append, List.nil_append]
  refine ⟨b[4], (b.drop 9).take (b.length - 13), ?_, by rw [hbl, hn], hk, by rw [hbl], (hb _ (List.getElem_mem (by omega))).1, (hb _ (List.getElem_mem (by omega))).2, (hb.drop 9).take _⟩
  unfold packL
  rw [← hpre, ← h5, wordL_of (hb.drop _) (by rw [List.length_drop]; omega)]
  have e1 : (b.drop (9 + wordN (b.drop 5))).take 4 = b.drop (9 + wordN (b.drop 5)) := List.take_of_length_le (by rw [List.length_drop]; omega)
  rw [e1, List.take_append_drop]
theorem packL_parts (kind : Int) (body : List Int) : (packL kind body).take 4 = fwrk ∧ (packL kind body).drop 5 = wordL body.length ++ (body ++ wordL (sumL (preL kind body))) ∧ (packL kind body).take (9 + body.length) = preL kind body ∧ (packL kind body).drop (9 + body.length) = wordL (sumL (preL kind body)) ∧ (packL kind body)[4]? = some kind ∧ ((packL kind body).drop 9).take body.length = body := by
  have hl := preL_len kind body
  refine ⟨rfl, ?_, ?_, ?_, rfl, ?_⟩
  · show (fwrk ++ kind :: (wordL body.length ++ body) ++ wordL (sumL (preL kind body))).drop 5 = _
    rw [List.append_assoc, List.cons_append, List.append_assoc]
    rfl
  · exact List.take_left' (by omega)
  · exact List.drop_left' (by omega)
  · show ((fwrk ++ kind :: (wordL body.length ++ body) ++ wordL (sumL (preL kind body))).drop 9).take body.length = _
    rw [List.append_assoc, List.cons_append, List.append_assoc]
    show ((body ++ wordL (sumL (preL kind body)))).take body.length = _
    exact List.take_left
theorem unW_pack (kind : Int) (body : List Int) (h : body.length < 4294967296) : unW (packL kind body) = 0 := by
  obtain ⟨h1, h2, h3, h4, _, _⟩ := packL_parts kind body
  have hl := packL_len kind body
  have hw : wordN ((packL kind body).drop 5) = body.length := by rw [h2, wordN_of h]
  unfold unW
  rw [hw, h1, h3, h4, hl]
  have hs : wordN (wordL (sumL (preL kind body))) = sumL (preL kind body) := by
    have := wordN_of (sumL_lt (preL kind body)) []
    rwa [List.append_nil] at this
  rw [hs, if_neg (by simp), if_neg (by omega), if_neg (by omega), if_neg (by omega), if_neg (by simp)]
end Go.Proofs.YtapledphhfiimaaGreatDoor
/-
  Contracts: wire.word, wordAt, Sum; the document's Word, Sum, Same (bytes).
-/
namespace Go.Proofs.YtapledphhfiimaaGreatDoor
open Go.RowKit
set_option maxRecDepth 100000

theorem elemByte : Elem Tryz.prog 142 5 (.int .u8 0) 1 1 := ⟨Tryz.underlying142, by kernel_rfl, rfl, by decide⟩
theorem wordL_map (k : Nat) : (wordL k).map (Value.int .u8) = [.int .u8 ((k / 16777216 % 256 : Nat) : Int), .int .u8 ((k / 65536 % 256 : Nat) : Int), .int .u8 ((k / 256 % 256 : Nat) : Int), .int .u8 ((k % 256 : Nat) : Int)] := rfl

theorem or_join (a b s : Nat) (hb : b < 2 ^ s) : (a * 2 ^ s ||| b) = a * 2 ^ s + b := by
  rw [← Nat.shiftLeft_eq, Nat.shiftLeft_add_eq_or_of_lt hb]
theorem bits_or_u32 (a b : Nat) (ha : a < 4294967296) (hb : b < 4294967296) : bits .or .u32 (a : Int) (b : Int) = ((a ||| b : Nat) : Int) := by
  have h1 : (BitVec.ofInt 32 (a : Int) ||| BitVec.ofInt 32 (b : Int)).toNat = a ||| b := by
    rw [BitVec.toNat_or, BitVec.ofInt_natCast, BitVec.ofInt_natCast, BitVec.toNat_ofNat, BitVec.toNat_ofNat, Nat.mod_eq_of_lt (by omega), Nat.mod_eq_of_lt (by omega)]
  have h2 : a ||| b < 2 ^ 32 := Nat.or_lt_two_pow (by omega) (by omega)
  show IntKind.u32.wrap (((BitVec.ofInt 32 (a : Int) ||| BitVec.ofInt 32 (b : Int)).toNat : Nat) : Int) = _
  rw [h1]
  exact IntWalk.u32_in _ (by omega)
theorem or_sum (y x : Nat) (hy : y < 65521) (hx : x < 65521) : bits .or .u32 ((y : Int) * 65536) (x : Int) = ((y * 65536 + x : Nat) : Int) := by
  have := bits_or_u32 (y * 65536) x (by omega) (by omega)
  rw [or_join y x 16 (by omega)] at this
  rw [show (y : Int) * 65536 = ((y * 65536 : Nat) : Int) by omega]
  exact this
theorem or_word (a b c d : Nat) (ha : a < 256) (hb : b < 256) (hc : c < 256) (hd : d < 256) :
    bits .or .u32 (bits .or .u32 (bits .or .u32 ((a : Int) * 16777216) ((b : Int) * 65536)) ((c : Int) * 256)) (d : Int) = ((a * 16777216 + b * 65536 + c * 256 + d : Nat) : Int) := by
  have e1 := bits_or_u32 (a * 16777216) (b * 65536) (by omega) (by omega)
  have o1 := or_join a (b * 65536) 24 (by omega)
  rw [show (2 : Nat) ^ 24 = 16777216 from rfl] at o1
  rw [o1] at e1
  have e2 := bits_or_u32 (a * 16777216 + b * 65536) (c * 256) (by omega) (by omega)
  have o2 := or_join (a * 256 + b) (c * 256) 16 (by omega)
  rw [show (2 : Nat) ^ 16 = 65536 from rfl, show (a * 256 + b) * 65536 = a * 16777216 + b * 65536 by omega] at o2
  rw [o2] at e2
  have e3 := bits_or_u32 (a * 16777216 + b * 65536 + c * 256) d (by omega) (by omega)
  have o3 := or_join (a * 65536 + b * 256 + c) d 8 (by omega)
  rw [show (2 : Nat) ^ 8 = 256 from rfl, show (a * 65536 + b * 256 + c) * 256 = a * 16777216 + b * 65536 + c * 256 by omega] at o3
  rw [o3] at e3
  rw [show (a : Int) * 16777216 = ((a * 16777216 : Nat) : Int) by omega, show (b : Int) * 65536 = ((b * 65536 : Nat) : Int) by omega, show (c : Int) * 256 = ((c * 256 : Nat) : Int) by omega, e1, e2, e3]

end Go.Proofs.YtapledphhfiimaaGreatDoor
/-
  Contracts: wire.Pack, Unpack; the document's Parcel.
-/
namespace Go.Proofs.YtapledphhfiimaaGreatDoor
open Go.RowKit
set_option maxRecDepth 100000

def txtMark : ByteArray := ⟨#[109, 97, 114, 107]⟩
def txtParcel : ByteArray := ⟨#[112, 97, 114, 99, 101, 108]⟩
/-- The error that a parcel's fault makes. -/
def unE (l : List Int) : Err := match unW l with
  | 0 => .nil
  | 1 => .flt 2 0 txtMark
  | 4 => .flt 2 0 txtParcel
  | 5 => .flt 8 0 txtParcel
  | _ => .flt 9 0 txtParcel
def unK (l : List Int) : Int := if unW l = 0 then l.getD 4 0 else 0
def unB (l : List Int) : List Int := if unW l = 0 then (l.drop 9).take (wordN (l.drop 5)) else []

theorem mark_test {l : List Int} (hb : Bys l) (h4 : 4 ≤ l.length) : ((strOfNums (l.take 4)).toList == [70, 87, 82, 75]) = decide (l.take 4 = fwrk) := by
  obtain ⟨a, b, c, d, e, he⟩ := four h4
  have h1 := hb a (by rw [he]; simp)
  have h2 := hb b (by rw [he]; simp)
  have h3 := hb c (by rw [he]; simp)
  have h5 := hb d (by rw [he]; simp)
  rw [Lib.toList_data, strOfNums_data, e]
  have hu : ∀ (x : Int) (k : Nat), 0 ≤ x ∧ x ≤ 255 → k < 256 → ((UInt8.ofNat x.toNat = UInt8.ofNat k) ↔ x = k) := by
    intro x k hx hk
    rw [← UInt8.toNat_inj, UInt8.toNat_ofNat', UInt8.toNat_ofNat', Nat.mod_eq_of_lt (by omega), Nat.mod_eq_of_lt (by omega)]
    omega
  have e1 := hu a 70 h1 (by omega)
  have e2 := hu b 87 h2 (by omega)
  have e3 := hu c 82 h3 (by omega)
  have e4 := hu d 75 h5 (by omega)
  rw [show ([70, 87, 82, 75] : List UInt8) = [UInt8.ofNat 70, UInt8.ofNat 87, UInt8.ofNat 82, UInt8.ofNat 75] from rfl]
  rw [Bool.eq_iff_iff, decide_eq_true_iff, beq_iff_eq]
  simp only [List.map_cons, List.map_nil, fwrk, List.cons.injEq, and_true, e1, e2, e3, e4]
  omega

def UnPost (l : List Int) (w : World) (e : Ending) (w' : World) : Prop :=
  ∃ C k ev, e = .returned (.tuple #[.int .u8 (unK l), .slice C (unB l).length k, ev]) ∧ (unE l).At w' ev ∧ Sl w' 1 C (unB l).length ((unB l).map (Value.int .u8)) ∧ ((unB l).length ≤ k ∧ k ≤ 9223372036854775807) ∧ Below w.heap.size w w'
theorem un_bad {l : List Int} {w w' : World} {c : Int} {t : ByteArray} {ev : Value} (h : unW l ≠ 0) (hE : unE l = .flt c 0 t) (hev : (Err.flt c 0 t).At w' ev) (hb : Below w.heap.size w w') : UnPost l w (.returned (.tuple #[.int .u8 0, .slice none 0 0, ev])) w' := by
  have hk : unK l = 0 := by rw [unK, if_neg h]
  have hB : unB l = [] := by rw [unB, if_neg h]
  refine ⟨none, 0, ev, by rw [hk, hB]; rfl, by rw [hE]; exact hev, by rw [hB]; exact Sl.nil _ _ _, by rw [hB]; exact ⟨Nat.le_refl _, by omega⟩, hb⟩

end Go.Proofs.YtapledphhfiimaaGreatDoor
/-
  The document's Parcel; chapter 03's alive.
-/
namespace Go.Proofs.YtapledphhfiimaaGreatDoor
open Go.RowKit
set_option maxRecDepth 100000

theorem unK_pack (kd : Int) (l : List Int) (h : l.length < 4294967296) : unK (packL kd l) = kd := by
  rw [unK, if_pos (unW_pack kd l h), List.getD_eq_getElem?_getD, (packL_parts kd l).2.2.2.2.1]; rfl
theorem unB_pack (kd : Int) (l : List Int) (h : l.length < 4294967296) : unB (packL kd l) = l := by
  rw [unB, if_pos (unW_pack kd l h), (packL_parts kd l).2.1, wordN_of h, (packL_parts kd l).2.2.2.2.2]
theorem unE_pack (kd : Int) (l : List Int) (h : l.length < 4294967296) : unE (packL kd l) = .nil := by rw [unE, unW_pack kd l h]; rfl
theorem unE_nil {l : List Int} (h : unE l = .nil) : unW l = 0 := by
  unfold unE at h
  split at h
  · assumption
  all_goals cases h
theorem unE_bad {l : List Int} (h : unW l ≠ 0) : unE l ≠ .nil := fun e => h (unE_nil e)

end Go.Proofs.YtapledphhfiimaaGreatDoor
/-
  Errors and their values, one by one; contract of fault.First.
-/
namespace Go.Proofs.YtapledphhfiimaaGreatDoor
open Go.RowKit

def Err.first : List Err → Err
  | [] => .nil
  | .nil :: l => Err.first l
  | e :: _ => e
theorem Err.first_cons {E : Err} (h : E ≠ .nil) (l : List Err) : Err.first (E :: l) = E := by cases E <;> first | exact absurd rfl h | rfl

/-- Errors and their values, one by one. -/
def Err.AtAll (w : World) : List Err → List Value → Prop
  | [], vs => vs = []
  | E :: Es, vs => ∃ v vs', vs = v :: vs' ∧ E.At w v ∧ Err.AtAll w Es vs'
theorem Err.AtAll.len {w : World} : ∀ {Es : List Err} {vs : List Value}, Err.AtAll w Es vs → vs.length = Es.length
  | [], _, h => by rw [show _ = [] from h]; rfl
  | _ :: _, _, ⟨_, _, h1, _, h3⟩ => by rw [h1, List.length_cons, List.length_cons, h3.len]
theorem Err.AtAll.at_ {w : World} : ∀ {Es : List Err} {vs : List Value}, Err.AtAll w Es vs → ∀ (k : Nat) (E : Err), Es[k]? = some E → ∃ v, vs[k]? = some v ∧ E.At w v
  | [], _, _, k, E, h => by simp at h
  | _ :: _, _, ⟨v, _, h1, h2, _⟩, 0, E, h => by
    simp at h
    subst h
    exact ⟨v, by rw [h1]; rfl, h2⟩
  | _ :: _, _, ⟨_, _, h1, _, h3⟩, k + 1, E, h => by
    obtain ⟨v, hv, hE⟩ := h3.at_ k E (by simpa using h)
    exact ⟨v, by rw [h1]; simpa using hv, hE⟩
theorem Err.AtAll.keep {w w' : World} (hb : Below w.heap.size w w') : ∀ {Es : List Err} {vs : List Value}, Err.AtAll w Es vs → Err.AtAll w' Es vs
  | [], _, h => h
  | _ :: _, _, ⟨v, vs', h1, h2, h3⟩ => ⟨v, vs', h1, h2.keep hb, h3.keep hb⟩

end Go.Proofs.YtapledphhfiimaaGreatDoor
/-
  Contracts of wire.Writer: Num, Long, Text, List, Bytes, Err.
-/
namespace Go.Proofs.YtapledphhfiimaaGreatDoor
open Go.RowKit
set_option maxRecDepth 100000
set_option linter.unusedVariables false

/-- An error without steps. -/
def Err.flat : Err → Prop
  | .nil => True
  | .flt _ _ _ => True
  | _ => False
theorem Err.At.far {w w' : World} : ∀ {E : Err} {v : Value}, E.flat → E.At w v → (∀ g cs, Blk w g 114 cs → Blk w' g 114 cs) → E.At w' v
  | .nil, _, _, h, _ => h
  | .flt _ _ _, _, _, ⟨g, h1, h2⟩, hk => ⟨g, h1, hk g _ h2⟩
  | .step _ _, _, hf, _, _ => hf.elim
  | .txt _, _, hf, _, _ => hf.elim
theorem Err.first2_flat {c a : Int} {s : ByteArray} : ∀ {E : Err}, E.flat → (Err.first [E, .flt c a s]).flat
  | .nil, _ => trivial
  | .flt _ _ _, _ => trivial
  | .step _ _, h => h.elim
  | .txt _, h => h.elim

theorem Err.first2_ne {c a : Int} {s : ByteArray} : ∀ {E : Err}, Err.first [E, .flt c a s] ≠ .nil
  | .nil => fun h => by cases h
  | .flt _ _ _ => fun h => by cases h
  | .step _ _ => fun h => by cases h
  | .txt _ => fun h => by cases h

def txtNumber : ByteArray := ⟨#[110, 117, 109, 98, 101, 114]⟩
theorem own_farBlk {w : World} {B g size n i : Nat} {t e : TypeId} {cs : Array Value} {v : Value} {xs : List Value} (h : w.ownsRow B e size v n xs) (hb : Blk w g t cs) (hne : t ≠ e) (u : Value) : (w.setCell ⟨g, i, none⟩ u).ownsRow B e size v n xs :=
  own_block h fun g' hg' => heap_setCell_other w ⟨g, i, none⟩ g' u (fun e' => own_notBlk h hb hne (by rw [hg', e']))
theorem blk_farBlk {w : World} {g g' i : Nat} {t t' : TypeId} {cs cs' : Array Value} (h : Blk w g' t' cs') (hb : Blk w g t cs) (hne : t ≠ t') (u : Value) : Blk (w.setCell ⟨g, i, none⟩ u) g' t' cs' :=
  h.far (p := ⟨g, i, none⟩) (fun e => by
    have e : g' = g := e
    subst e
    unfold Blk at h hb
    rw [h] at hb
    injection hb with hb
    injection hb with _ h3
    exact hne h3.symm) u
/-- What is put, and the first error. -/
abbrev St := List Int × Err
def fits (z : Int) : Prop := 0 ≤ z ∧ z ≤ 4294967295
instance (z : Int) : Decidable (fits z) := by unfold fits; exact inferInstance
def pNum (z : Int) (st : St) : St := if fits z then (st.1 ++ wordL z.toNat, st.2) else (st.1 ++ wordL 0, Err.first [st.2, .flt 3 st.1.length txtNumber])
theorem pNum_len (z : Int) (st : St) : (pNum z st).1.length = st.1.length + 4 := by unfold pNum; split <;> simp [wordL]
theorem pNum_flat (z : Int) {st : St} (h : st.2.flat) : (pNum z st).2.flat := by
  unfold pNum; split
  · exact h
  · exact Err.first2_flat h

end Go.Proofs.YtapledphhfiimaaGreatDoor
/-
  Contract of wire.Writer.Num, whatever number.
-/
namespace Go.Proofs.YtapledphhfiimaaGreatDoor
open Go.RowKit
set_option maxRecDepth 100000
set_option linter.unusedVariables false

end Go.Proofs.YtapledphhfiimaaGreatDoor
/-
  Contracts of wire.Writer: Bytes; bytes.Clone.
-/
namespace Go.Proofs.YtapledphhfiimaaGreatDoor
open Go.RowKit
set_option maxRecDepth 100000
set_option linter.unusedVariables false

end Go.Proofs.YtapledphhfiimaaGreatDoor
/-
  Contracts of wire.Writer: Long, Text, List, Bytes, Err; bytes.Clone.
-/
namespace Go.Proofs.YtapledphhfiimaaGreatDoor
open Go.RowKit
set_option maxRecDepth 100000
set_option linter.unusedVariables false

/-- A text's bytes. -/
def sB (s : ByteArray) : List Int := s.data.toList.map fun b : UInt8 => (b.toNat : Int)
theorem sB_len (s : ByteArray) : (sB s).length = s.size := by rw [sB, List.length_map, Array.length_toList]; rfl
theorem sB_cells (s : ByteArray) : Lib.strCells s = (sB s).map (Value.int .u8) := by rw [sB, List.map_map]; rfl
theorem sB_bys (s : ByteArray) : Bys (sB s) := by
  intro x hx
  obtain ⟨b, _, rfl⟩ := List.mem_map.1 hx
  have := b.toNat_lt
  omega
def hiN (z : Int) : Nat := (z % 18446744073709551616 / 4294967296).toNat
def loN (z : Int) : Nat := (z % 4294967296).toNat
theorem hiN_lt (z : Int) : hiN z < 4294967296 := by unfold hiN; omega
theorem loN_lt (z : Int) : loN z < 4294967296 := by unfold loN; omega
def pLong (z : Int) (st : St) : St := (st.1 ++ wordL (hiN z) ++ wordL (loN z), st.2)
def pText (s : ByteArray) (st : St) : St := ((pNum s.size st).1 ++ sB s, (pNum s.size st).2)
def pNums : List Int → St → St
  | [], st => st
  | z :: l, st => pNums l (pNum z st)
def pList (l : List Int) (st : St) : St := pNums l (pNum l.length st)
theorem pNums_snoc : ∀ (l : List Int) (z : Int) (st : St), pNums (l ++ [z]) st = pNum z (pNums l st)
  | [], _, _ => rfl
  | x :: l, z, st => by rw [List.cons_append, pNums, pNums_snoc l, pNums]
theorem pNums_len : ∀ (l : List Int) (st : St), (pNums l st).1.length = st.1.length + 4 * l.length
  | [], st => by simp [pNums]
  | x :: l, st => by rw [pNums, pNums_len l, pNum_len, List.length_cons]; omega

section
variable {P : Program} {ops : Array Oper} {rest : List Oper} {o : Oper} {a : Act} {Q : Exit → Act → World → Prop}
/-- append(b, s...) of a string. -/
theorem wpList_str_lies {t u e : TypeId} (E : Elem P t e (.int .u8 0) 1 1) (hu : P.underlying u = some .string) {B : Nat} {W : World} (y x : Operand)
    (hgd : o.guard = none) (ho : o.op = .call { callee := .builtin .append, args := #[y, x], argTypes := #[t, u] })
    {v : Value} {n : Nat} {l : List Int} (hown : W.ownsRow B e 1 v n (l.map (Value.int .u8))) (hB : B ≤ W.heap.size) {s : ByteArray} (h0 : 0 < n + s.size)
    (hs : a.eval y = v) (hx : a.eval x = .string s) (hlim : n + s.size ≤ lim)
    (h : ∀ g cap w', w'.ownsRow B e 1 (.slice (some ⟨g, 0, none⟩) (n + s.size) cap) (n + s.size) ((l ++ sB s).map (Value.int .u8)) → W.grownBy w' v.ownBlock → wpList P ops Q rest (a.put o.dst (.slice (some ⟨g, 0, none⟩) (n + s.size) cap)) w') : wpList P ops Q (o :: rest) a W := by
  obtain ⟨i, hi, hz, hsize, hby⟩ := info_parts E.hi
  unfold lim at hlim
  refine Lib.wpList_append_own_string W hgd y x t u ho B e i E.ht hu hi hz hsize hby v n _ hs hown s hx (by unfold maxLen; omega) hlim hB ?_
  intro v' w' h2 h3 _
  rw [sB_cells, ← List.map_append] at h2
  rcases h2.2 with ⟨_, h4⟩ | ⟨g, cap, cur, rfl, _⟩
  · omega
  · exact h g cap w' h2 h3
end

end Go.Proofs.YtapledphhfiimaaGreatDoor
