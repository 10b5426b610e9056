/-
  Orders, plainly: no program in sight.
-/
import Derived.Test.YtakkdpnaoahpcaaDoorWords
namespace Go.Proofs.YtakkdpnaoahpcaaDoor

/-- A list that is an order. -/
def Ord (p : List Int) : Prop := p.length ≤ 8 ∧ (∀ x ∈ p, 0 ≤ x ∧ x < p.length) ∧ p.Nodup
instance (p : List Int) : Decidable (Ord p) := by unfold Ord; exact inferInstance
/-- 0, 1, .. -/
def ids (n : Nat) : List Int := (List.range n).map fun i : Nat => (i : Int)
theorem ids_len (n : Nat) : (ids n).length = n := by simp [ids]
theorem ids_succ (n : Nat) : ids (n + 1) = ids n ++ [(n : Int)] := by simp [ids, List.range_succ]
theorem ids_mem {n : Nat} {x : Int} : x ∈ ids n ↔ 0 ≤ x ∧ x < n := by
  simp only [ids, List.mem_map, List.mem_range]
  constructor
  · rintro ⟨i, hi, rfl⟩; omega
  · rintro ⟨h1, h2⟩; exact ⟨x.toNat, by omega, by omega⟩
theorem ids_nodup (n : Nat) : (ids n).Nodup := by
  unfold ids
  rw [List.nodup_iff_pairwise_ne, List.pairwise_map]
  exact List.Pairwise.imp (fun h => by omega) (List.pairwise_lt_range)
theorem ids_get (n i : Nat) (h : i < n) : (ids n)[i]? = some (i : Int) := by simp [ids, h]
theorem ids_ord {n : Nat} (h : n ≤ 8) : Ord (ids n) := ⟨by rw [ids_len]; exact h, fun x hx => by rw [ids_len]; exact ids_mem.1 hx, ids_nodup n⟩

/-- l's things at p's places, one by one. -/
def scat : List Int → List Int → List Int → List Int
  | x :: p, y :: l, out => scat p l (out.set x.toNat y)
  | _, _, out => out
theorem scat_len : ∀ p l out, (scat p l out).length = out.length
  | x :: p, y :: l, out => by rw [scat, scat_len p l]; simp
  | [], _, _ => rfl
  | _ :: _, [], _ => rfl
theorem scat_snoc (x y : Int) : ∀ (p l out : List Int), p.length = l.length → scat (p ++ [x]) (l ++ [y]) out = (scat p l out).set x.toNat y
  | [], [], _, _ => rfl
  | a :: p, b :: l, out, h => by
    rw [List.cons_append, List.cons_append, scat, scat_snoc x y p l _ (by simpa using h), scat]
theorem scat_other : ∀ (p l out : List Int) (j : Nat), (∀ x ∈ p, x.toNat ≠ j) → (scat p l out)[j]? = out[j]?
  | x :: p, y :: l, out, j, h => by
    rw [scat, scat_other p l _ j (fun z hz => h z (List.mem_cons_of_mem _ hz)), List.getElem?_set_ne (h x (List.mem_cons_self ..))]
  | [], _, _, _, _ => by simp [scat]
  | _ :: _, [], _, _, _ => by simp [scat]
theorem scat_at : ∀ (p l out : List Int) (i : Nat) (x y : Int), p.Nodup → (∀ z ∈ p, 0 ≤ z ∧ z < out.length) → p[i]? = some x → l[i]? = some y → (scat p l out)[x.toNat]? = some y
  | a :: p, b :: l, out, 0, x, y, hn, hr, hx, hy => by
    simp only [List.getElem?_cons_zero, Option.some.injEq] at hx hy
    subst hx hy
    have hna := (List.nodup_cons.1 hn).1
    have hra := hr a (List.mem_cons_self ..)
    rw [scat, scat_other]
    · rw [List.getElem?_set_self (by omega)]
    · intro z hz e
      have := hr z (List.mem_cons_of_mem _ hz)
      exact hna (by rwa [show a = z by omega])
  | a :: p, b :: l, out, i + 1, x, y, hn, hr, hx, hy => by
    rw [scat]
    exact scat_at p l _ i x y (List.nodup_cons.1 hn).2 (fun z hz => by rw [List.length_set]; exact hr z (List.mem_cons_of_mem _ hz)) (by simpa using hx) (by simpa using hy)
  | [], _, _, _, _, _, _, _, hx, _ => by simp at hx
  | _ :: _, [], _, _, _, _, _, _, _, hy => by simp at hy

/-- No more things than places. -/
theorem pig : ∀ (n : Nat) (l : List Int), l.Nodup → (∀ x ∈ l, 0 ≤ x ∧ x < n) → l.length ≤ n
  | 0, [], _, _ => Nat.le_refl _
  | 0, x :: _, _, h => by have := h x (List.mem_cons_self ..); omega
  | n + 1, l, hn, h => by
    have h1 := pig n (l.erase (n : Int)) (hn.erase _) (fun x hx => by
      have hm := List.mem_of_mem_erase hx
      have := h x hm
      have hne : x ≠ (n : Int) := fun e => (hn.not_mem_erase (a := (n : Int))) (e ▸ hx)
      omega)
    rw [List.length_erase] at h1
    split at h1 <;> omega
theorem Ord.mem {p : List Int} (h : Ord p) {j : Int} (h0 : 0 ≤ j) (h1 : j < p.length) : j ∈ p := by
  refine Decidable.byContradiction fun hn => ?_
  have := pig p.length (j :: p) (List.nodup_cons.2 ⟨hn, h.2.2⟩) (fun x hx => by
    rcases List.mem_cons.1 hx with rfl | hx
    · exact ⟨h0, h1⟩
    · exact h.2.1 x hx)
  rw [List.length_cons] at this
  omega
theorem Ord.at_ {p : List Int} (h : Ord p) {j : Nat} (h1 : j < p.length) : ∃ i, i < p.length ∧ p[i]? = some (j : Int) := by
  obtain ⟨i, hi, e⟩ := List.getElem_of_mem (h.mem (j := j) (by omega) (by omega))
  exact ⟨i, hi, by rw [List.getElem?_eq_getElem hi, e]⟩
theorem Ord.get {p : List Int} (h : Ord p) {i : Nat} (hi : i < p.length) : ∃ j : Nat, j < p.length ∧ p[i]? = some (j : Int) := by
  have hm := h.2.1 _ (List.getElem_mem hi)
  exact ⟨p[i].toNat, by omega, by rw [List.getElem?_eq_getElem hi]; congr 1; omega⟩
theorem Ord.inj {p : List Int} (h : Ord p) {i j : Nat} {x : Int} (hi : p[i]? = some x) (hj : p[j]? = some x) : i = j := by
  have h1 : i < p.length := (List.getElem?_eq_some_iff.1 hi).1
  exact (List.getElem?_inj h1 h.2.2).1 (hi.trans hj.symm)

/-- The list put. -/
def putL (p l : List Int) : List Int := if Ord p ∧ p.length = l.length then scat p l (List.replicate p.length 0) else []
/-- The order that leads back. -/
def backL (p : List Int) : List Int := if Ord p then scat p (ids p.length) (List.replicate p.length 0) else []
/-- One, then the other. -/
def thenL (p q : List Int) : List Int := if Ord p ∧ Ord q ∧ p.length = q.length then p.map fun x => q.getD x.toNat 0 else []
theorem putL_len {p l : List Int} (h : Ord p) (hl : p.length = l.length) : (putL p l).length = p.length := by rw [putL, if_pos ⟨h, hl⟩, scat_len]; simp
theorem putL_at {p l : List Int} (h : Ord p) (hl : p.length = l.length) {i : Nat} {x y : Int} (hx : p[i]? = some x) (hy : l[i]? = some y) : (putL p l)[x.toNat]? = some y := by
  rw [putL, if_pos ⟨h, hl⟩]
  exact scat_at _ _ _ i x y h.2.2 (by simpa using h.2.1) hx hy
theorem backL_eq {p : List Int} (h : Ord p) : backL p = putL p (ids p.length) := by rw [backL, putL, if_pos h, if_pos ⟨h, by rw [ids_len]⟩]
theorem backL_len {p : List Int} (h : Ord p) : (backL p).length = p.length := by rw [backL_eq h, putL_len h (by rw [ids_len])]
theorem backL_at {p : List Int} (h : Ord p) {i : Nat} {x : Int} (hx : p[i]? = some x) : (backL p)[x.toNat]? = some (i : Int) := by
  rw [backL_eq h]
  exact putL_at h (by rw [ids_len]) hx (ids_get _ _ (List.getElem?_eq_some_iff.1 hx).1)
/-- Back the other way. -/
theorem backL_of {p : List Int} (h : Ord p) {j : Nat} {y : Int} (hy : (backL p)[j]? = some y) : ∃ i : Nat, y = i ∧ p[i]? = some (j : Int) := by
  have hj : j < p.length := by rw [← backL_len h]; exact (List.getElem?_eq_some_iff.1 hy).1
  obtain ⟨i, _, hi⟩ := h.at_ hj
  have := backL_at h hi
  rw [Int.toNat_natCast, hy] at this
  exact ⟨i, by simpa using this, hi⟩
theorem backL_ord {p : List Int} (h : Ord p) : Ord (backL p) := by
  refine ⟨by rw [backL_len h]; exact h.1, fun x hx => ?_, ?_⟩
  · obtain ⟨j, hj, e⟩ := List.getElem_of_mem hx
    obtain ⟨i, rfl, hi⟩ := backL_of h (by rw [List.getElem?_eq_getElem hj, e])
    rw [backL_len h]
    have := (List.getElem?_eq_some_iff.1 hi).1
    omega
  · rw [List.nodup_iff_pairwise_ne, List.pairwise_iff_getElem]
    intro i j hi hj hlt e
    obtain ⟨a, ha, pa⟩ := backL_of h (List.getElem?_eq_getElem hi)
    obtain ⟨b, hb, pb⟩ := backL_of h (List.getElem?_eq_getElem hj)
    have hab : a = b := by have : (a : Int) = b := by rw [← ha, ← hb, e]
                           omega
    rw [hab, pb] at pa
    have : (j : Int) = i := by simpa using pa
    omega

/-- Put and put back. -/
theorem put_back {p l : List Int} (h : Ord p) (hl : p.length = l.length) : putL (backL p) (putL p l) = l := by
  have hb := backL_ord h
  have e1 := putL_len h hl
  have e2 := backL_len h
  have e3 := putL_len hb (e2.trans e1.symm)
  apply List.ext_getElem?
  intro i
  by_cases hi : i < p.length
  · obtain ⟨j, hj, hx⟩ := h.get hi
    have hi' : i < l.length := by omega
    have h1 := putL_at h hl hx (List.getElem?_eq_getElem hi')
    have h2 := backL_at h hx
    have h3 := putL_at hb (e2.trans e1.symm) h2 h1
    rw [Int.toNat_natCast] at h3
    rw [h3, List.getElem?_eq_getElem hi']
  · rw [List.getElem?_eq_none (by omega), List.getElem?_eq_none (by omega)]

/-- n times all below. -/
def fac : Nat → Nat
  | 0 => 1
  | n + 1 => (n + 1) * fac n
theorem fac_pos : ∀ n, 0 < fac n
  | 0 => by decide
  | n + 1 => Nat.mul_pos (by omega) (fac_pos n)
theorem fac_le {n : Nat} (h : n ≤ 8) : fac n ≤ 40320 := by
  have : ∀ n : Fin 9, fac n ≤ 40320 := by decide
  exact this ⟨n, by omega⟩
/-- What is picked of what is left, by a rank. -/
def ofR : Nat → Nat → List Int → List Int
  | 0, _, _ => []
  | k + 1, r, left => left.getD (r / fac k) 0 :: ofR k (r % fac k) (left.eraseIdx (r / fac k))
theorem ofR_perm : ∀ (k r : Nat) (left : List Int), left.length = k → r < fac k → List.Perm (ofR k r left) left
  | 0, _, left, h, _ => by rw [List.eq_nil_of_length_eq_zero h]; exact List.Perm.refl _
  | k + 1, r, left, h, hr => by
    have hp := fac_pos k
    have hlt : r / fac k < left.length := by rw [h]; exact Nat.div_lt_of_lt_mul (by rw [Nat.mul_comm]; exact hr)
    have h1 := ofR_perm k (r % fac k) (left.eraseIdx (r / fac k)) (by rw [List.length_eraseIdx, if_pos hlt, h]; rfl) (Nat.mod_lt _ hp)
    rw [ofR, List.getD_eq_getElem?_getD, List.getElem?_eq_getElem hlt]
    refine (h1.cons _).trans ?_
    rw [List.eraseIdx_eq_take_drop_succ]
    refine List.perm_middle.symm.trans ?_
    show List.Perm (left.take (r / fac k) ++ left[r / fac k] :: left.drop (r / fac k + 1)) left
    rw [← List.drop_eq_getElem_cons hlt, List.take_append_drop]
theorem ord_of_perm {n : Nat} {p : List Int} (hn : n ≤ 8) (h : List.Perm p (ids n)) : Ord p := by
  have hl : p.length = n := by rw [h.length_eq, ids_len]
  refine ⟨by omega, fun x hx => ?_, h.nodup_iff.2 (ids_nodup n)⟩
  rw [hl]
  exact ids_mem.1 (h.mem_iff.1 hx)
theorem ofR_ord {n r : Nat} (hn : n ≤ 8) (hr : r < fac n) : Ord (ofR n r (ids n)) := ord_of_perm hn (ofR_perm n r _ (ids_len n) hr)
theorem ofR_len {n r : Nat} (hr : r < fac n) : (ofR n r (ids n)).length = n := by rw [(ofR_perm n r _ (ids_len n) hr).length_eq, ids_len]
end Go.Proofs.YtakkdpnaoahpcaaDoor
