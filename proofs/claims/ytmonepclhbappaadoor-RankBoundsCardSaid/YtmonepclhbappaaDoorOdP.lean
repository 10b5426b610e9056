/-
  Odags plainly: a list laid in, lists laid in; what a row then holds.
-/
import Derived.Test.YtmonepclhbappaaDoorOdM
import Derived.Test.YtmonepclhbappaaDoorSetsP
namespace Go.Proofs.YtmonepclhbappaaDoor
open Go.RowKit
set_option linter.unusedVariables false

def stepR (r : Rw) (a : Int) (nx : List Int) : Rw := putR r a (setL (lkR r a ++ nx))
def nxt (x : List Int) (i : Nat) : List Int := (x.drop (i + 1)).take 1
/-- A list laid in, up to place j. -/
def putTo (od : List Rw) (x : List Int) : Nat → List Rw
  | 0 => od
  | j + 1 => (putTo od x j).set j (stepR ((putTo od x j).getD j []) (x.getD j 0) (nxt x j))
def putO (od : List Rw) (x : List Int) : List Rw := putTo od x x.length
/-- The odag of lists of length n. -/
def odOf (n : Nat) (ls : List (List Int)) : List Rw := ls.foldl putO (List.replicate n [])
theorem odOf_snoc (n : Nat) (ls : List (List Int)) (x : List Int) : odOf n (ls ++ [x]) = putO (odOf n ls) x := by unfold odOf; rw [List.foldl_append]; rfl
theorem putTo_len (od : List Rw) (x : List Int) : ∀ j, (putTo od x j).length = od.length
  | 0 => rfl
  | j + 1 => by rw [putTo, List.length_set, putTo_len od x j]
theorem putO_len (od : List Rw) (x : List Int) : (putO od x).length = od.length := putTo_len od x _
theorem fold_len (ls : List (List Int)) : ∀ od : List Rw, (ls.foldl putO od).length = od.length := by
  induction ls with
  | nil => intro od; rfl
  | cons x ls ih => intro od; rw [List.foldl_cons, ih, putO_len]
theorem odOf_len (n : Nat) (ls : List (List Int)) : (odOf n ls).length = n := by unfold odOf; rw [fold_len, List.length_replicate]
theorem putTo_at (od : List Rw) (x : List Int) (i : Nat) : ∀ j, (putTo od x j)[i]? = od[i]?.map fun r => if i < j then stepR r (x.getD i 0) (nxt x i) else r
  | 0 => by simp [putTo]
  | j + 1 => by
    have ih := putTo_at od x i j
    rw [putTo, List.getElem?_set]
    by_cases hji : j = i
    · subst hji
      rw [if_pos rfl]
      have hg : (putTo od x j).getD j [] = od.getD j [] := by
        rw [List.getD_eq_getElem?_getD, List.getD_eq_getElem?_getD, ih]
        cases od[j]? with
        | none => rfl
        | some r => simp
      rw [hg, putTo_len]
      by_cases hlt : j < od.length
      · rw [if_pos hlt, List.getElem?_eq_getElem hlt, List.getD_eq_getElem?_getD, List.getElem?_eq_getElem hlt]
        simp
      · rw [if_neg hlt, List.getElem?_eq_none (by omega)]
        rfl
    · rw [if_neg hji, ih]
      cases od[i]? with
      | none => rfl
      | some r =>
        simp only [Option.map_some]
        by_cases h : i < j
        · rw [if_pos h, if_pos (by omega)]
        · rw [if_neg h, if_neg (by omega)]

/-- No row is longer than K, no links are more than K. -/
def RwB (K : Nat) (r : Rw) : Prop := r.length ≤ K ∧ ∀ q ∈ r, q.2.length ≤ K
def OdB (K : Nat) (od : List Rw) : Prop := ∀ r ∈ od, RwB K r
theorem nxt_len (x : List Int) (i : Nat) : (nxt x i).length ≤ 1 := by unfold nxt; rw [List.length_take]; omega
theorem lkR_B {K : Nat} {r : Rw} (h : RwB K r) (a : Int) : (lkR r a).length ≤ K := by
  unfold lkR
  cases hf : r.find? fun p => decide (p.1 = a) with
  | none => simp
  | some p => exact h.2 p (List.mem_of_find?_eq_some hf)
theorem RwB.mono {K K' : Nat} {r : Rw} (h : RwB K r) (hk : K ≤ K') : RwB K' r := ⟨Nat.le_trans h.1 hk, fun q hq => Nat.le_trans (h.2 q hq) hk⟩
theorem stepR_B {K : Nat} {r : Rw} (h : RwB K r) (a : Int) (nx : List Int) (hn : nx.length ≤ 1) : RwB (K + 1) (stepR r a nx) := by
  refine ⟨Nat.le_trans (putR_len _ _ _) (by have := h.1; omega), fun q hq => ?_⟩
  unfold stepR putR at hq
  rcases List.mem_append.1 hq with hq | hq
  · have := h.2 q (List.mem_filter.1 hq).1
    omega
  · rcases List.mem_cons.1 hq with rfl | hq
    · have h1 := setL_le (lkR r a ++ nx)
      rw [List.length_append] at h1
      have h2 := lkR_B h a
      show (setL (lkR r a ++ nx)).length ≤ K + 1
      omega
    · have := h.2 q (List.mem_filter.1 hq).1
      omega
theorem putTo_B {K : Nat} {od : List Rw} (h : OdB K od) (x : List Int) (j : Nat) : OdB (K + 1) (putTo od x j) := fun r hr => by
  obtain ⟨i, hi, rfl⟩ := List.mem_iff_getElem.1 hr
  have h1 := putTo_at od x i j
  rw [List.getElem?_eq_getElem hi] at h1
  obtain ⟨r0, h2, h3⟩ := Option.map_eq_some_iff.1 h1.symm
  have h4 := h r0 (List.mem_of_getElem? h2)
  rw [← h3]
  split
  · exact stepR_B h4 _ _ (nxt_len _ _)
  · exact h4.mono (by omega)
theorem odOf_B (n : Nat) (ls : List (List Int)) : OdB ls.length (odOf n ls) := by
  have key : ∀ (ls : List (List Int)) (od : List Rw) (K : Nat), OdB K od → OdB (K + ls.length) (ls.foldl putO od) := by
    intro ls
    induction ls with
    | nil => intro od K h; exact h
    | cons x ls ih =>
      intro od K h
      rw [List.foldl_cons, List.length_cons, show K + (ls.length + 1) = K + 1 + ls.length by omega]
      exact ih _ _ (putTo_B h x _)
  have := key ls (List.replicate n []) 0 (fun r hr => by
    rw [(List.mem_replicate.1 hr).2]
    exact ⟨Nat.zero_le _, fun q hq => by cases hq⟩)
  rw [Nat.zero_add] at this
  exact this
end Go.Proofs.YtmonepclhbappaaDoor
