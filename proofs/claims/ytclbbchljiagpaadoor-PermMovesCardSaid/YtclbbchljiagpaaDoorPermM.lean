/-
  Orders, plainly: going round as often as all circles' lengths multiplied leads home; two changed.
-/
import Derived.Test.YtclbbchljiagpaaDoorPermJ
namespace Go.Proofs.YtclbbchljiagpaaDoor
set_option linter.unusedVariables false
set_option linter.unusedSectionVars false

/-- An order, as often as so. -/
def pw (p : List Int) : Nat → List Int
  | 0 => ids p.length
  | t + 1 => thenL (pw p t) p
theorem pw_ord {p : List Int} (h : Ord p) : ∀ t, Ord (pw p t) ∧ (pw p t).length = p.length
  | 0 => ⟨ids_ord h.1, ids_len _⟩
  | t + 1 => by
    have ih := pw_ord h t
    refine ⟨then_ord ih.1 h ih.2, ?_⟩
    rw [pw, then_get ih.1 h ih.2, List.length_map, ih.2]
theorem pw_at {p : List Int} (h : Ord p) {j : Nat} (hj : j < p.length) : ∀ t, (pw p t)[j]? = some ((it (nx p) t j : Nat) : Int)
  | 0 => ids_get _ _ hj
  | t + 1 => by
    have ih := pw_ord h t
    rw [pw, then_get ih.1 h ih.2, List.getElem?_map, pw_at h hj t]
    have h1 := nx_at h (it_lt h hj t)
    show some (p.getD ((it (nx p) t j : Nat) : Int).toNat 0) = some ((nx p (it (nx p) t j) : Nat) : Int)
    rw [Int.toNat_natCast, List.getD_eq_getElem?_getD, h1.1]; rfl
theorem circ_it {p c : List Int} (h : Ord p) (hc : Circ p c) {i : Nat} (hi : i < c.length) : ∀ t, ((it (nx p) t (c.getD i 0).toNat : Nat) : Int) = c.getD ((i + t) % c.length) 0
  | 0 => by
    have h1 := (hc.2.1 (c.getD i 0) (by rw [List.getD_eq_getElem?_getD, List.getElem?_eq_getElem hi]; exact List.getElem_mem hi)).1
    rw [Nat.add_zero, Nat.mod_eq_of_lt hi]
    show (((c.getD i 0).toNat : Nat) : Int) = c.getD i 0
    omega
  | t + 1 => by
    have ih := circ_it h hc hi t
    have hm : (i + t) % c.length < c.length := Nat.mod_lt _ (by omega)
    have hm2 : (i + (t + 1)) % c.length < c.length := Nat.mod_lt _ (by omega)
    have h2 := hc.2.2 _ hm
    have e1 : ((i + t) % c.length + 1) % c.length = (i + (t + 1)) % c.length := by rw [Nat.mod_add_mod]; rfl
    rw [e1, List.getElem?_eq_getElem hm2] at h2
    have h3 := (hc.2.1 _ (List.getElem_mem hm2)).1
    have e2 : (c.getD ((i + t) % c.length) 0).toNat = it (nx p) t (c.getD i 0).toNat := by rw [← ih]; simp
    rw [e2] at h2
    have h4 : nx p (it (nx p) t (c.getD i 0).toNat) = (c[(i + (t + 1)) % c.length]).toNat := nx_of (by rw [h2]; congr 1; omega)
    show ((nx p (it (nx p) t (c.getD i 0).toNat) : Nat) : Int) = _
    rw [h4, List.getD_eq_getElem?_getD, List.getElem?_eq_getElem hm2]
    show ((c[(i + (t + 1)) % c.length].toNat : Nat) : Int) = c[(i + (t + 1)) % c.length]
    omega
theorem pw_home {p : List Int} {outs : List (List Int)} {T : Nat} (h : Ord p) (hci : CI p p.length outs) (hT : ∀ c ∈ outs, c.length ∣ T) : pw p T = ids p.length := by
  apply List.ext_getElem?
  intro j
  by_cases hj : j < p.length
  · rw [pw_at h hj, ids_get _ _ hj]
    obtain ⟨c, hc, hjc⟩ := List.mem_flatten.1 (hci.all j hj)
    obtain ⟨i, hi, he⟩ := List.getElem_of_mem hjc
    have h1 := circ_it h (hci.circ c hc) hi T
    have e1 : c.getD i 0 = (j : Int) := by rw [List.getD_eq_getElem?_getD, List.getElem?_eq_getElem hi]; exact he
    obtain ⟨q, hq⟩ := hT c hc
    rw [hq, Nat.add_mul_mod_self_left, Nat.mod_eq_of_lt hi, e1, Int.toNat_natCast] at h1
    rw [hq]
    exact congrArg some h1
  · rw [List.getElem?_eq_none (by rw [(pw_ord h T).2]; omega), List.getElem?_eq_none (by rw [ids_len]; omega)]
/-- All lengths multiplied. -/
def prL : List (List Int) → Nat
  | [] => 1
  | c :: o => c.length * prL o
theorem prL_snoc (c : List Int) : ∀ o, prL (o ++ [c]) = prL o * c.length
  | [] => by simp [prL]
  | d :: o => by rw [List.cons_append, prL, prL_snoc c o, prL, Nat.mul_assoc]
theorem prL_take_succ {o : List (List Int)} {k : Nat} (h : k < o.length) : prL (o.take (k + 1)) = prL (o.take k) * o[k].length := by
  rw [List.take_succ_eq_append_getElem h, prL_snoc]
theorem prL_dvd {c : List Int} : ∀ {o : List (List Int)}, c ∈ o → c.length ∣ prL o
  | d :: o, h => by
    rcases List.mem_cons.1 h with rfl | h
    · exact Nat.dvd_mul_right _ _
    · exact Nat.dvd_trans (prL_dvd h) (Nat.dvd_mul_left _ _)
theorem prL_le : ∀ {o : List (List Int)}, (∀ c ∈ o, c.length ≤ 8) → prL o ≤ 8 ^ o.length
  | [], _ => Nat.le_refl _
  | c :: o, h => by
    rw [prL, List.length_cons, Nat.pow_succ, Nat.mul_comm]
    exact Nat.mul_le_mul (prL_le fun d hd => h d (List.mem_cons_of_mem _ hd)) (h c (by simp))
theorem CI.short {p : List Int} {outs : List (List Int)} {i : Nat} (h : CI p i outs) (hp : p.length ≤ 8) {c : List Int} (hc : c ∈ outs) : c.length ≤ 8 := by
  have hn : c.Nodup := List.Nodup.sublist (List.sublist_flatten_of_mem hc) h.nod
  have := pig p.length c hn (fun x hx => ⟨((h.circ c hc).2.1 x hx).1, ((h.circ c hc).2.1 x hx).2.1⟩)
  omega
/-- Two changed: evenness turns just where they are two. -/
theorem two_even {p : List Int} (h : Ord p) {x y : Nat} (hx : x < p.length) (hy : y < p.length) : Ord ((p.set x (p.getD y 0)).set y (p.getD x 0)) ∧ ((decide (inv p % 2 = 0) == decide (inv ((p.set x (p.getD y 0)).set y (p.getD x 0)) % 2 = 0)) = decide (x = y)) := by
  rcases Nat.lt_trichotomy x y with hxy | hxy | hxy
  · have h1 := swp_ord h x y hxy hy
    have h2 := swp_inv h.2.2 x y hxy hy
    refine ⟨h1, ?_⟩
    rw [decide_eq_false (show ¬ x = y by omega)]
    show (decide (inv p % 2 = 0) == decide (inv (swp p x y) % 2 = 0)) = false
    by_cases he : inv p % 2 = 0
    · rw [decide_eq_true he, decide_eq_false (by omega)]; rfl
    · rw [decide_eq_false he, decide_eq_true (by omega)]; rfl
  · subst hxy
    have e : (p.set x (p.getD x 0)).set x (p.getD x 0) = p := by
      rw [List.set_set, List.getD_eq_getElem?_getD, List.getElem?_eq_getElem hx]
      exact List.set_getElem_self hx
    rw [e]
    exact ⟨h, by simp⟩
  · have e : (p.set x (p.getD y 0)).set y (p.getD x 0) = swp p y x := by
      rw [swp, List.set_comm _ _ (by omega)]
    rw [e]
    have h1 := swp_ord h y x hxy hx
    have h2 := swp_inv h.2.2 y x hxy hx
    refine ⟨h1, ?_⟩
    rw [decide_eq_false (show ¬ x = y by omega)]
    by_cases he : inv p % 2 = 0
    · rw [decide_eq_true he, decide_eq_false (by omega)]; rfl
    · rw [decide_eq_false he, decide_eq_true (by omega)]; rfl
end Go.Proofs.YtclbbchljiagpaaDoor
