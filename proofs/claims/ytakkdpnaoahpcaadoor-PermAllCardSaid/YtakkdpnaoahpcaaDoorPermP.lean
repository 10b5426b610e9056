/-
  All orders, plainly: those that perm.All gives, one by one, are those of the ranks 0, 1, ..; the document's list of all is the same.
-/
import Derived.Test.YtakkdpnaoahpcaaDoorPermA
namespace Go.Proofs.YtakkdpnaoahpcaaDoor
set_option linter.unusedVariables false

/-- All orders of what is left, in order. -/
def fills : Nat → List Int → List (List Int)
  | 0, _ => [[]]
  | m + 1, L => (List.range (m + 1)).flatMap fun i => (fills m (L.eraseIdx i)).map fun q => L.getD i 0 :: q
theorem range_mul (a b : Nat) : List.range (a * b) = (List.range a).flatMap fun i => (List.range b).map fun r => i * b + r := by
  induction a with
  | zero => simp
  | succ a ih =>
    rw [Nat.succ_mul, List.range_add, ih, List.range_succ, List.flatMap_append]
    simp
theorem flatMap_same {α β : Type} {l : List α} {f g : α → List β} (h : ∀ x ∈ l, f x = g x) : l.flatMap f = l.flatMap g := by
  induction l with
  | nil => rfl
  | cons x l ih => rw [List.flatMap_cons, List.flatMap_cons, h x (by simp), ih fun y hy => h y (List.mem_cons_of_mem _ hy)]
theorem fills_ofR : ∀ (m : Nat) (L : List Int), fills m L = (List.range (fac m)).map fun r => ofR m r L
  | 0, L => rfl
  | m + 1, L => by
    have hF := fac_pos m
    rw [fills, fac, range_mul, List.map_flatMap]
    refine flatMap_same fun i hi => ?_
    rw [fills_ofR m (L.eraseIdx i), List.map_map, List.map_map]
    refine List.map_congr_left fun r hr => ?_
    have hr' := List.mem_range.1 hr
    have e1 : (i * fac m + r) / fac m = i := by rw [Nat.mul_comm, Nat.mul_add_div hF, Nat.div_eq_of_lt hr']; rfl
    have e2 : (i * fac m + r) % fac m = r := by rw [Nat.mul_comm, Nat.mul_add_mod, Nat.mod_eq_of_lt hr']
    show L.getD i 0 :: ofR m r (L.eraseIdx i) = ofR (m + 1) (i * fac m + r) L
    rw [ofR, e1, e2]
theorem fills_len (m : Nat) (L : List Int) : (fills m L).length = fac m := by rw [fills_ofR]; simp
theorem fills_get {m r : Nat} (L : List Int) (h : r < fac m) : (fills m L)[r]? = some (ofR m r L) := by
  rw [fills_ofR, List.getElem?_map, List.getElem?_range h]; rfl

/-- A list with each number more that is not in it. -/
def ext (n : Nat) (l : List Int) : List (List Int) := ((ids n).filter fun x => decide (x ∉ l)).map fun x => l ++ [x]
/-- The document's lists of i numbers. -/
def lev (n : Nat) : Nat → List (List Int)
  | 0 => [[]]
  | i + 1 => (lev n i).flatMap (ext n)
theorem flatMap_range {α β : Type} (d : α) (g : α → List β) : ∀ L : List α, L.flatMap g = (List.range L.length).flatMap fun i => g (L.getD i d)
  | [] => rfl
  | x :: L => by
    rw [List.flatMap_cons, flatMap_range d g L, List.length_cons, List.range_succ_eq_map, List.flatMap_cons, List.flatMap_map]
    rfl
theorem erase_filter : ∀ (L : List Int) (i : Nat) (h : i < L.length), L.Nodup → L.eraseIdx i = L.filter fun y => decide (y ≠ L[i])
  | a :: t, 0, _, hn => by
    have h1 := (List.nodup_cons.1 hn).1
    have h2 : t.filter (fun y => decide (y ≠ a)) = t := List.filter_eq_self.2 fun y hy => decide_eq_true (fun e : y = a => h1 (e ▸ hy))
    show t = (a :: t).filter fun y => decide (y ≠ a)
    rw [List.filter_cons_of_neg (by simp), h2]
  | a :: t, i + 1, h, hn => by
    have h1 := List.nodup_cons.1 hn
    have hi : i < t.length := by simpa using h
    have h2 : a ≠ t[i] := fun e => h1.1 (by rw [e]; exact List.getElem_mem hi)
    show a :: t.eraseIdx i = (a :: t).filter fun y => decide (y ≠ t[i])
    rw [List.filter_cons_of_pos (by simpa using h2), erase_filter t i hi h1.2]
/-- What is left of all, some being taken. -/
def rest (n : Nat) (l : List Int) : List Int := (ids n).filter fun x => decide (x ∉ l)
theorem rest_nodup (n : Nat) (l : List Int) : (rest n l).Nodup := (ids_nodup n).sublist List.filter_sublist
theorem rest_more (n : Nat) (l : List Int) (i : Nat) (h : i < (rest n l).length) : rest n (l ++ [(rest n l)[i]]) = (rest n l).eraseIdx i := by
  rw [erase_filter _ i h (rest_nodup n l)]
  show (ids n).filter _ = ((ids n).filter _).filter _
  rw [List.filter_filter]
  refine List.filter_congr fun x _ => ?_
  rw [Bool.eq_iff_iff]
  simp only [decide_eq_true_eq, Bool.and_eq_true, List.mem_append, List.mem_singleton, not_or]
  exact ⟨fun h => ⟨h.2, h.1⟩, fun h => ⟨h.2, h.1⟩⟩
/-- All that begin so. -/
def tree (n m : Nat) (l : List Int) : List (List Int) := (fills m (rest n l)).map fun q => l ++ q
theorem tree_zero (n : Nat) (l : List Int) : tree n 0 l = [l] := by simp [tree, fills]
theorem tree_step (n m : Nat) (l : List Int) (h : (rest n l).length = m + 1) : tree n (m + 1) l = (ext n l).flatMap (tree n m) := by
  rw [tree, fills, List.map_flatMap]
  show _ = ((rest n l).map fun x => l ++ [x]).flatMap (tree n m)
  rw [List.flatMap_map, flatMap_range 0 _ (rest n l), h]
  refine flatMap_same fun i hi => ?_
  have hi' : i < (rest n l).length := by rw [h]; exact List.mem_range.1 hi
  have e : (rest n l).getD i 0 = (rest n l)[i] := by rw [List.getD_eq_getElem?_getD, List.getElem?_eq_getElem hi']; rfl
  rw [List.map_map, e, tree, rest_more n l i hi']
  refine List.map_congr_left fun q _ => ?_
  show l ++ (rest n l)[i] :: q = l ++ [(rest n l)[i]] ++ q
  simp
theorem lev_rest (n : Nat) : ∀ i, i ≤ n → ∀ l ∈ lev n i, (rest n l).length = n - i
  | 0, _, l, hl => by
    obtain rfl : l = [] := by simpa [lev] using hl
    have : rest n [] = ids n := List.filter_eq_self.2 fun x _ => by simp
    rw [this, ids_len]; rfl
  | i + 1, hi, l, hl => by
    obtain ⟨l0, h0, h1⟩ := List.mem_flatMap.1 hl
    have ih := lev_rest n i (by omega) l0 h0
    obtain ⟨x, hx, rfl⟩ := List.mem_map.1 h1
    obtain ⟨j, hj, he⟩ := List.getElem_of_mem (show x ∈ rest n l0 from hx)
    rw [← he, rest_more n l0 j hj, List.length_eraseIdx, if_pos hj, ih]
    omega
theorem lev_tree (n : Nat) : ∀ i, i ≤ n → (lev n i).flatMap (tree n (n - i)) = tree n n []
  | 0, _ => by simp [lev]
  | i + 1, hi => by
    rw [lev, List.flatMap_assoc, ← lev_tree n i (by omega)]
    refine flatMap_same fun l hl => ?_
    have h := lev_rest n i (by omega) l hl
    rw [show n - i = n - (i + 1) + 1 by omega] at h ⊢
    exact (tree_step n (n - (i + 1)) l h).symm
/-- The document's list of all orders. -/
theorem lev_all (n : Nat) : lev n n = fills n (ids n) := by
  have h := lev_tree n n (Nat.le_refl _)
  rw [Nat.sub_self, flatMap_same (fun l _ => tree_zero n l), tree] at h
  have e : rest n [] = ids n := List.filter_eq_self.2 fun x _ => by simp
  rw [e] at h
  simpa using h
end Go.Proofs.YtakkdpnaoahpcaaDoor
