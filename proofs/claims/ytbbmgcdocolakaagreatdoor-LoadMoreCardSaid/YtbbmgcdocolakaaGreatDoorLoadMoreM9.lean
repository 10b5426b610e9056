/-
  Part 9 of the proof of LoadMore: PermA, PermB, PermC, PatG, PatW, ConP, PtB.
-/
import Derived.Test.YtbbmgcdocolakaaGreatDoorLoadMoreM1
import Derived.Test.YtbbmgcdocolakaaGreatDoorLoadMoreM6
import Derived.Test.YtbbmgcdocolakaaGreatDoorLoadMoreM2
import Derived.Deep.DeepCutAuto
import Derived.BigQuiet
import Derived.Deep.QuietTactic
import Derived.Test.YtbbmgcdocolakaaGreatDoorLoadMoreM3
set_option linter.unusedVariables false
/-
  Orders, plainly: no program in sight.
-/
namespace Go.Proofs.YtbbmgcdocolakaaGreatDoor

/-- A list that is an order. -/
def Ord (p : List Int) : Prop := p.length ≤ 8 ∧ (∀ x ∈ p, 0 ≤ x ∧ x < p.length) ∧ p.Nodup
instance (p : List Int) : Decidable (Ord p) := by unfold Ord; exact inferInstance
/-- 0, 1, .. -/
def ids (n : Nat) : List Int := (List.range n).map fun i : Nat => (i : Int)
theorem ids_len (n : Nat) : (ids n).length = n := by simp [ids]
theorem ids_succ (n : Nat) : ids (n + 1) = ids n ++ [(n : Int)] := by simp [ids, List.range_succ]
theorem ids_mem {n : Nat} {x : Int} : x ∈ ids n ↔ 0 ≤ x ∧ x < n := by
  simp only [ids, List.mem_map, List.mem_range]
  constructor
  · rintro ⟨i, hi, rfl⟩; omega
  · rintro ⟨h1, h2⟩; exact ⟨x.toNat, by omega, by omega⟩
theorem ids_nodup (n : Nat) : (ids n).Nodup := by
  unfold ids
  rw [List.nodup_iff_pairwise_ne, List.pairwise_map]
  exact List.Pairwise.imp (fun h => by omega) (List.pairwise_lt_range)
theorem ids_get (n i : Nat) (h : i < n) : (ids n)[i]? = some (i : Int) := by simp [ids, h]
theorem ids_ord {n : Nat} (h : n ≤ 8) : Ord (ids n) := ⟨by rw [ids_len]; exact h, fun x hx => by rw [ids_len]; exact ids_mem.1 hx, ids_nodup n⟩

/-- l's things at p's places, one by one. -/
def scat : List Int → List Int → List Int → List Int
  | x :: p, y :: l, out => scat p l (out.set x.toNat y)
  | _, _, out => out
theorem scat_len : ∀ p l out, (scat p l out).length = out.length
  | x :: p, y :: l, out => by rw [scat, scat_len p l]; simp
  | [], _, _ => rfl
  | _ :: _, [], _ => rfl
theorem scat_snoc (x y : Int) : ∀ (p l out : List Int), p.length = l.length → scat (p ++ [x]) (l ++ [y]) out = (scat p l out).set x.toNat y
  | [], [], _, _ => rfl
  | a :: p, b :: l, out, h => by
    rw [List.cons_append, List.cons_append, scat, scat_snoc x y p l _ (by simpa using h), scat]
theorem scat_other : ∀ (p l out : List Int) (j : Nat), (∀ x ∈ p, x.toNat ≠ j) → (scat p l out)[j]? = out[j]?
  | x :: p, y :: l, out, j, h => by
    rw [scat, scat_other p l _ j (fun z hz => h z (List.mem_cons_of_mem _ hz)), List.getElem?_set_ne (h x (List.mem_cons_self ..))]
  | [], _, _, _, _ => by simp [scat]
  | _ :: _, [], _, _, _ => by simp [scat]
theorem scat_at : ∀ (p l out : List Int) (i : Nat) (x y : Int), p.Nodup → (∀ z ∈ p, 0 ≤ z ∧ z < out.length) → p[i]? = some x → l[i]? = some y → (scat p l out)[x.toNat]? = some y
  | a :: p, b :: l, out, 0, x, y, hn, hr, hx, hy => by
    simp only [List.getElem?_cons_zero, Option.some.injEq] at hx hy
    subst hx hy
    have hna := (List.nodup_cons.1 hn).1
    have hra := hr a (List.mem_cons_self ..)
    rw [scat, scat_other]
    · rw [List.getElem?_set_self (by omega)]
    · intro z hz e
      have := hr z (List.mem_cons_of_mem _ hz)
      exact hna (by rwa [show a = z by omega])
  | a :: p, b :: l, out, i + 1, x, y, hn, hr, hx, hy => by
    rw [scat]
    exact scat_at p l _ i x y (List.nodup_cons.1 hn).2 (fun z hz => by rw [List.length_set]; exact hr z (List.mem_cons_of_mem _ hz)) (by simpa using hx) (by simpa using hy)
  | [], _, _, _, _, _, _, _, hx, _ => by simp at hx
  | _ :: _, [], _, _, _, _, _, _, _, hy => by simp at hy

/-- No more things than places. -/
theorem pig : ∀ (n : Nat) (l : List Int), l.Nodup → (∀ x ∈ l, 0 ≤ x ∧ x < n) → l.length ≤ n
  | 0, [], _, _ => Nat.le_refl _
  | 0, x :: _, _, h => by have := h x (List.mem_cons_self ..); omega
  | n + 1, l, hn, h => by
    have h1 := pig n (l.erase (n : Int)) (hn.erase _) (fun x hx => by
      have hm := List.mem_of_mem_erase hx
      have := h x hm
      have hne : x ≠ (n : Int) := fun e => (hn.not_mem_erase (a := (n : Int))) (e ▸ hx)
      omega)
    rw [List.length_erase] at h1
    split at h1 <;> omega
theorem Ord.mem {p : List Int} (h : Ord p) {j : Int} (h0 : 0 ≤ j) (h1 : j < p.length) : j ∈ p := by
  refine Decidable.byContradiction fun hn => ?_
  have := pig p.length (j :: p) (List.nodup_cons.2 ⟨hn, h.2.2⟩) (fun x hx => by
    rcases List.mem_cons.1 hx with rfl | hx
    · exact ⟨h0, h1⟩
    · exact h.2.1 x hx)
  rw [List.length_cons] at this
  omega
theorem Ord.at_ {p : List Int} (h : Ord p) {j : Nat} (h1 : j < p.length) : ∃ i, i < p.length ∧ p[i]? = some (j : Int) := by
  obtain ⟨i, hi, e⟩ := List.getElem_of_mem (h.mem (j := j) (by omega) (by omega))
  exact ⟨i, hi, by rw [List.getElem?_eq_getElem hi, e]⟩
theorem Ord.get {p : List Int} (h : Ord p) {i : Nat} (hi : i < p.length) : ∃ j : Nat, j < p.length ∧ p[i]? = some (j : Int) := by
  have hm := h.2.1 _ (List.getElem_mem hi)
  exact ⟨p[i].toNat, by omega, by rw [List.getElem?_eq_getElem hi]; congr 1; omega⟩
theorem Ord.inj {p : List Int} (h : Ord p) {i j : Nat} {x : Int} (hi : p[i]? = some x) (hj : p[j]? = some x) : i = j := by
  have h1 : i < p.length := (List.getElem?_eq_some_iff.1 hi).1
  exact (List.getElem?_inj h1 h.2.2).1 (hi.trans hj.symm)

/-- The list put. -/
def putL (p l : List Int) : List Int := if Ord p ∧ p.length = l.length then scat p l (List.replicate p.length 0) else []
/-- The order that leads back. -/
def backL (p : List Int) : List Int := if Ord p then scat p (ids p.length) (List.replicate p.length 0) else []
/-- One, then the other. -/
def thenL (p q : List Int) : List Int := if Ord p ∧ Ord q ∧ p.length = q.length then p.map fun x => q.getD x.toNat 0 else []
theorem putL_len {p l : List Int} (h : Ord p) (hl : p.length = l.length) : (putL p l).length = p.length := by rw [putL, if_pos ⟨h, hl⟩, scat_len]; simp
theorem putL_at {p l : List Int} (h : Ord p) (hl : p.length = l.length) {i : Nat} {x y : Int} (hx : p[i]? = some x) (hy : l[i]? = some y) : (putL p l)[x.toNat]? = some y := by
  rw [putL, if_pos ⟨h, hl⟩]
  exact scat_at _ _ _ i x y h.2.2 (by simpa using h.2.1) hx hy
theorem backL_eq {p : List Int} (h : Ord p) : backL p = putL p (ids p.length) := by rw [backL, putL, if_pos h, if_pos ⟨h, by rw [ids_len]⟩]
theorem backL_len {p : List Int} (h : Ord p) : (backL p).length = p.length := by rw [backL_eq h, putL_len h (by rw [ids_len])]
theorem backL_at {p : List Int} (h : Ord p) {i : Nat} {x : Int} (hx : p[i]? = some x) : (backL p)[x.toNat]? = some (i : Int) := by
  rw [backL_eq h]
  exact putL_at h (by rw [ids_len]) hx (ids_get _ _ (List.getElem?_eq_some_iff.1 hx).1)
/-- Back the other way. -/
theorem backL_of {p : List Int} (h : Ord p) {j : Nat} {y : Int} (hy : (backL p)[j]? = some y) : ∃ i : Nat, y = i ∧ p[i]? = some (j : Int) := by
  have hj : j < p.length := by rw [← backL_len h]; exact (List.getElem?_eq_some_iff.1 hy).1
  obtain ⟨i, _, hi⟩ := h.at_ hj
  have := backL_at h hi
  rw [Int.toNat_natCast, hy] at this
  exact ⟨i, by simpa using this, hi⟩
theorem backL_ord {p : List Int} (h : Ord p) : Ord (backL p) := by
  refine ⟨by rw [backL_len h]; exact h.1, fun x hx => ?_, ?_⟩
  · obtain ⟨j, hj, e⟩ := List.getElem_of_mem hx
    obtain ⟨i, rfl, hi⟩ := backL_of h (by rw [List.getElem?_eq_getElem hj, e])
    rw [backL_len h]
    have := (List.getElem?_eq_some_iff.1 hi).1
    omega
  · rw [List.nodup_iff_pairwise_ne, List.pairwise_iff_getElem]
    intro i j hi hj hlt e
    obtain ⟨a, ha, pa⟩ := backL_of h (List.getElem?_eq_getElem hi)
    obtain ⟨b, hb, pb⟩ := backL_of h (List.getElem?_eq_getElem hj)
    have hab : a = b := by have : (a : Int) = b := by rw [← ha, ← hb, e]
                           omega
    rw [hab, pb] at pa
    have : (j : Int) = i := by simpa using pa
    omega

/-- Put and put back. -/
theorem put_back {p l : List Int} (h : Ord p) (hl : p.length = l.length) : putL (backL p) (putL p l) = l := by
  have hb := backL_ord h
  have e1 := putL_len h hl
  have e2 := backL_len h
  have e3 := putL_len hb (e2.trans e1.symm)
  apply List.ext_getElem?
  intro i
  by_cases hi : i < p.length
  · obtain ⟨j, hj, hx⟩ := h.get hi
    have hi' : i < l.length := by omega
    have h1 := putL_at h hl hx (List.getElem?_eq_getElem hi')
    have h2 := backL_at h hx
    have h3 := putL_at hb (e2.trans e1.symm) h2 h1
    rw [Int.toNat_natCast] at h3
    rw [h3, List.getElem?_eq_getElem hi']
  · rw [List.getElem?_eq_none (by omega), List.getElem?_eq_none (by omega)]

/-- n times all below. -/
def fac : Nat → Nat
  | 0 => 1
  | n + 1 => (n + 1) * fac n
theorem fac_pos : ∀ n, 0 < fac n
  | 0 => by decide
  | n + 1 => Nat.mul_pos (by omega) (fac_pos n)
theorem fac_le {n : Nat} (h : n ≤ 8) : fac n ≤ 40320 := by
  have : ∀ n : Fin 9, fac n ≤ 40320 := by decide
  exact this ⟨n, by omega⟩
/-- What is picked of what is left, by a rank. -/
def ofR : Nat → Nat → List Int → List Int
  | 0, _, _ => []
  | k + 1, r, left => left.getD (r / fac k) 0 :: ofR k (r % fac k) (left.eraseIdx (r / fac k))
theorem ofR_perm : ∀ (k r : Nat) (left : List Int), left.length = k → r < fac k → List.Perm (ofR k r left) left
  | 0, _, left, h, _ => by rw [List.eq_nil_of_length_eq_zero h]; exact List.Perm.refl _
  | k + 1, r, left, h, hr => by
    have hp := fac_pos k
    have hlt : r / fac k < left.length := by rw [h]; exact Nat.div_lt_of_lt_mul (by rw [Nat.mul_comm]; exact hr)
    have h1 := ofR_perm k (r % fac k) (left.eraseIdx (r / fac k)) (by rw [List.length_eraseIdx, if_pos hlt, h]; rfl) (Nat.mod_lt _ hp)
    rw [ofR, List.getD_eq_getElem?_getD, List.getElem?_eq_getElem hlt]
    refine (h1.cons _).trans ?_
    rw [List.eraseIdx_eq_take_drop_succ]
    refine List.perm_middle.symm.trans ?_
    show List.Perm (left.take (r / fac k) ++ left[r / fac k] :: left.drop (r / fac k + 1)) left
    rw [← List.drop_eq_getElem_cons hlt, List.take_append_drop]
theorem ord_of_perm {n : Nat} {p : List Int} (hn : n ≤ 8) (h : List.Perm p (ids n)) : Ord p := by
  have hl : p.length = n := by rw [h.length_eq, ids_len]
  refine ⟨by omega, fun x hx => ?_, h.nodup_iff.2 (ids_nodup n)⟩
  rw [hl]
  exact ids_mem.1 (h.mem_iff.1 hx)
theorem ofR_ord {n r : Nat} (hn : n ≤ 8) (hr : r < fac n) : Ord (ofR n r (ids n)) := ord_of_perm hn (ofR_perm n r _ (ids_len n) hr)
theorem ofR_len {n r : Nat} (hr : r < fac n) : (ofR n r (ids n)).length = n := by rw [(ofR_perm n r _ (ids_len n) hr).length_eq, ids_len]
end Go.Proofs.YtbbmgcdocolakaaGreatDoor
/-
  Contracts: perm.Right, perm.Id, perm.with, perm.Put, perm.Back, perm.Then, perm.times; the document's SameInts.
-/
namespace Go.Proofs.YtbbmgcdocolakaaGreatDoor
open Go.RowKit
set_option maxRecDepth 100000

theorem bits_and_nat (a b : Nat) (ha : a < 2^63) (hb : b < 2^63) : bits .and .i64 a b = ((a &&& b : Nat) : Int) := by
  have h1 : (BitVec.ofInt 64 (a : Int) &&& BitVec.ofInt 64 (b : Int)).toNat = a &&& b := by
    rw [BitVec.toNat_and, BitVec.ofInt_natCast, BitVec.ofInt_natCast, BitVec.toNat_ofNat, BitVec.toNat_ofNat, Nat.mod_eq_of_lt (by omega), Nat.mod_eq_of_lt (by omega)]
  have h2 : a &&& b < 2^63 := Nat.lt_of_le_of_lt Nat.and_le_left ha
  show IntKind.i64.wrap (((BitVec.ofInt 64 (a : Int) &&& BitVec.ofInt 64 (b : Int)).toNat : Nat) : Int) = _
  rw [h1]
  exact IntWalk.i64_in _ (by omega)
theorem bits_or_nat (a b : Nat) (ha : a < 2^63) (hb : b < 2^63) : bits .or .i64 a b = ((a ||| b : Nat) : Int) := by
  have h1 : (BitVec.ofInt 64 (a : Int) ||| BitVec.ofInt 64 (b : Int)).toNat = a ||| b := by
    rw [BitVec.toNat_or, BitVec.ofInt_natCast, BitVec.ofInt_natCast, BitVec.toNat_ofNat, BitVec.toNat_ofNat, Nat.mod_eq_of_lt (by omega), Nat.mod_eq_of_lt (by omega)]
  have h2 : a ||| b < 2^63 := Nat.or_lt_two_pow ha hb
  show IntKind.i64.wrap (((BitVec.ofInt 64 (a : Int) ||| BitVec.ofInt 64 (b : Int)).toNat : Nat) : Int) = _
  rw [h1]
  exact IntWalk.i64_in _ (by omega)
theorem bit_test (m y : Nat) (hm : m < 256) : (bits .and .i64 ((m : Int) / 2 ^ y) 1 == 1) = m.testBit y := by
  have h0 : ((m : Int) / 2 ^ y) = ((m >>> y : Nat) : Int) := by rw [Nat.shiftRight_eq_div_pow]; push_cast; rfl
  have h1 : m >>> y ≤ m := by rw [Nat.shiftRight_eq_div_pow]; exact Nat.div_le_self _ _
  rw [h0, show (1 : Int) = ((1 : Nat) : Int) from rfl, bits_and_nat _ _ (by omega) (by omega), Nat.testBit, Nat.and_comm]
  generalize hq : (1 &&& m >>> y) = q
  have hq2 : q < 2 := by rw [← hq, Nat.one_and_eq_mod_two]; omega
  match q, hq2 with
  | 0, _ => rfl
  | 1, _ => rfl
theorem bit_set (m y : Nat) (hm : m < 256) (hy : y < 8) : bits .or .i64 (m : Int) (wrap64 (2 ^ y)) = ((m ||| 2 ^ y : Nat) : Int) ∧ (m ||| 2 ^ y) < 256 ∧ ∀ x, (m ||| 2 ^ y).testBit x = (m.testBit x || decide (y = x)) := by
  have hp : 2 ^ y < 256 := by
    have : 2 ^ y < 2 ^ 8 := Nat.pow_lt_pow_right (by omega) hy
    omega
  have hw : wrap64 (2 ^ y) = ((2 ^ y : Nat) : Int) := by
    have : ((2 : Int) ^ y) = ((2 ^ y : Nat) : Int) := by push_cast; rfl
    rw [this]
    generalize 2 ^ y = q at hp
    exact IntWalk.wrap64_in (q : Int) (by omega)
  refine ⟨by rw [hw]; exact bits_or_nat _ _ (by omega) (by omega), Nat.or_lt_two_pow (n := 8) hm hp, fun x => ?_⟩
  rw [Nat.testBit_or, Nat.testBit_two_pow]

def order : ByteArray := ⟨#[111, 114, 100, 101, 114]⟩
def putE (p l : List Int) : Err := if Ord p then if p.length = l.length then .nil else .flt 1 1 order else .flt 1 0 order
end Go.Proofs.YtbbmgcdocolakaaGreatDoor
/-
  Contracts: perm.Put, perm.Back, perm.Then.
-/
namespace Go.Proofs.YtbbmgcdocolakaaGreatDoor
open Go.RowKit
set_option maxRecDepth 100000

theorem putE_ok {p l : List Int} (h : Ord p) (hl : p.length = l.length) : putE p l = .nil := by rw [putE, if_pos h, if_pos hl]

def thenE (p q : List Int) : Err := if Ord p ∧ Ord q then if p.length = q.length then .nil else .flt 1 1 order else .flt 1 0 order
theorem map_take_succ {α β : Type} (f : α → β) (l : List α) (k : Nat) (hk : k < l.length) : (l.take (k + 1)).map f = (l.take k).map f ++ [f l[k]] := by
  rw [List.take_succ_eq_append_getElem hk, List.map_append]; rfl

end Go.Proofs.YtbbmgcdocolakaaGreatDoor
/-
  The document's labels, out, less of patterns.
-/
namespace Go.Proofs.YtbbmgcdocolakaaGreatDoor
open Go.RowKit
set_option maxRecDepth 100000
set_option linter.unusedVariables false

/-- The document's out: a vertex that there isn't. -/
def outP (x y n : Int) : Prop := x < 0 ∨ y < 0 ∨ n ≤ x ∨ n ≤ y
instance (x y n : Int) : Decidable (outP x y n) := by unfold outP; exact inferInstance
/-- The document's less. -/
def lessP (x y x' y' : Int) : Prop := x < x' ∨ (x = x' ∧ y < y')
instance (x y x' y' : Int) : Decidable (lessP x y x' y') := by unfold lessP; exact inferInstance
end Go.Proofs.YtbbmgcdocolakaaGreatDoor
/-
  Patterns plainly: the document's tests of an edge and the program's.
-/
namespace Go.Proofs.YtbbmgcdocolakaaGreatDoor
open Go.RowKit
set_option linter.unusedVariables false

theorem ordE_less (a b c d : Int) : Pt.ordE (a, b) (c, d) < 0 ↔ lessP a b c d := by
  unfold Pt.ordE Pt.or2 Pt.cmpI lessP
  simp only
  by_cases h1 : a < c
  · simp [h1]
  · by_cases h2 : c < a
    · simp [h1, h2]
      omega
    · have h3 : a = c := by omega
      by_cases h4 : b < d
      · simp [h3, h4]
      · by_cases h5 : d < b
        · simp [h3, h4, h5]
        · simp [h3, h4, h5]
theorem edge_out (n : Nat) (x y : Int) : Pt.EdgeOK n (x, y) ↔ ¬ outP x y n ∧ x < y := by
  unfold Pt.EdgeOK outP
  simp only
  omega
end Go.Proofs.YtbbmgcdocolakaaGreatDoor
/-
  Connectedness plainly: what can be come to from the first vertex; breadth first, and by bit masks.
-/
namespace Go.Proofs.YtbbmgcdocolakaaGreatDoor
open Go.RowKit
set_option linter.unusedVariables false

/-- What can be come to from vertex 0. -/
inductive Rch (E : List (Int × Int)) : Int → Prop
  | zero : Rch E 0
  | fwd {a b : Int} : (a, b) ∈ E → Rch E a → Rch E b
  | bwd {a b : Int} : (a, b) ∈ E → Rch E b → Rch E a
def AdjE (E : List (Int × Int)) (a b : Int) : Prop := (a, b) ∈ E ∨ (b, a) ∈ E
instance (E : List (Int × Int)) (a b : Int) : Decidable (AdjE E a b) := by unfold AdjE; exact inferInstance
theorem Rch.adj {E : List (Int × Int)} {a b : Int} (h : Rch E a) (k : AdjE E a b) : Rch E b := by
  rcases k with k | k
  · exact .fwd k h
  · exact .bwd k h
def allR (n : Nat) (E : List (Int × Int)) : Prop := ∀ v : Nat, v < n → Rch E (v : Int)
/-- A pattern is connected. -/
def connP (L : List Int) (E : List (Int × Int)) : Prop := rightP L E ∧ 0 < L.length ∧ allR L.length E
theorem sub_lenP {α : Type} : ∀ (a b : List α), a.Nodup → (∀ x ∈ a, x ∈ b) → a.length ≤ b.length
  | [], _, _, _ => Nat.zero_le _
  | x :: a, b, hn, hs => by
    obtain ⟨s, t, rfl⟩ := List.append_of_mem (hs x (List.mem_cons_self ..))
    have h1 := List.nodup_cons.1 hn
    have h2 := sub_lenP a (s ++ t) h1.2 fun y hy => by
      have h3 := hs y (List.mem_cons_of_mem _ hy)
      rcases List.mem_append.1 h3 with h | h
      · exact List.mem_append.2 (.inl h)
      · rcases List.mem_cons.1 h with h | h
        · subst h; exact absurd hy h1.1
        · exact List.mem_append.2 (.inr h)
    simp only [List.length_append, List.length_cons] at h2 ⊢
    omega
/-- Numbers below n. -/
def uptoN (n : Nat) : List Int := (List.range n).map fun i : Nat => (i : Int)
theorem uptoN_len (n : Nat) : (uptoN n).length = n := by unfold uptoN; simp
theorem uptoN_mem {n : Nat} {x : Int} : x ∈ uptoN n ↔ 0 ≤ x ∧ x < n := by
  unfold uptoN
  rw [List.mem_map]
  constructor
  · rintro ⟨i, hi, rfl⟩
    have := List.mem_range.1 hi
    omega
  · intro h
    exact ⟨x.toNat, List.mem_range.2 (by omega), by omega⟩
theorem uptoN_nodup (n : Nat) : (uptoN n).Nodup := by
  unfold uptoN
  refine List.Pairwise.map (R := fun a b => a ≠ b) _ (fun a b h e => h (by omega)) List.nodup_range
/-- What has been seen so far, breadth first: i of it have been looked at, and of the next one what stands below v. -/
structure Bfs (n : Nat) (E : List (Int × Int)) (S : List Int) (i v : Nat) : Prop where
  nd : S.Nodup
  z : (0 : Int) ∈ S
  inn : ∀ x ∈ S, 0 ≤ x ∧ x < n ∧ Rch E x
  le : i ≤ S.length
  done : ∀ k x, k < i → S[k]? = some x → ∀ u : Nat, u < n → AdjE E x u → (u : Int) ∈ S
  part : ∀ x, S[i]? = some x → ∀ u : Nat, u < v → AdjE E x u → (u : Int) ∈ S
section
variable {n i v : Nat} {E : List (Int × Int)} {S : List Int}
theorem Bfs.start (hn : 0 < n) : Bfs n E [0] 0 0 :=
  ⟨by simp, by simp, fun x hx => by obtain rfl := List.mem_singleton.1 hx; exact ⟨by omega, by omega, .zero⟩, Nat.zero_le _, fun k x h => by omega, fun x _ u h => by omega⟩
theorem Bfs.len (h : Bfs n E S i v) : S.length ≤ n := by
  have := sub_lenP S (uptoN n) h.nd fun x hx => uptoN_mem.2 ⟨(h.inn x hx).1, (h.inn x hx).2.1⟩
  rwa [uptoN_len] at this
theorem Bfs.skip (h : Bfs n E S i v) {x : Int} (hx : S[i]? = some x) (hs : AdjE E x v → (v : Int) ∈ S) : Bfs n E S i (v + 1) :=
  ⟨h.nd, h.z, h.inn, h.le, h.done, fun y hy u hu ha => by
    rw [hx] at hy; cases hy
    by_cases hv : u < v
    · exact h.part x hx u hv ha
    · obtain rfl : u = v := by omega
      exact hs ha⟩
theorem Bfs.take (h : Bfs n E S i v) {x : Int} (hx : S[i]? = some x) (ha : AdjE E x v) (hv : v < n) (hn : ¬ (v : Int) ∈ S) : Bfs n E (S ++ [(v : Int)]) i (v + 1) := by
  have hi := (List.getElem?_eq_some_iff.1 hx).1
  have hap : ∀ k, k < S.length → (S ++ [(v : Int)])[k]? = S[k]? := fun k hk => List.getElem?_append_left hk
  refine ⟨?_, List.mem_append.2 (.inl h.z), fun y hy => ?_, by rw [List.length_append]; have := h.le; omega, fun k y hk hy u hu hau => ?_, fun y hy u hu hau => ?_⟩
  · rw [List.nodup_append]
    exact ⟨h.nd, by simp, fun a ha b hb e => by obtain rfl := List.mem_singleton.1 hb; subst e; exact hn ha⟩
  · rcases List.mem_append.1 hy with hy | hy
    · exact h.inn y hy
    · obtain rfl := List.mem_singleton.1 hy
      exact ⟨by omega, by omega, (h.inn x (List.mem_of_getElem? hx)).2.2.adj ha⟩
  · rw [hap k (by have := h.le; omega)] at hy
    exact List.mem_append.2 (.inl (h.done k y hk hy u hu hau))
  · rw [hap i hi, hx] at hy; cases hy
    by_cases hv2 : u < v
    · exact List.mem_append.2 (.inl (h.part x hx u hv2 hau))
    · obtain rfl : u = v := by omega
      exact List.mem_append.2 (.inr (List.mem_singleton.2 rfl))
theorem Bfs.next (h : Bfs n E S i n) (hi : i < S.length) : Bfs n E S (i + 1) 0 :=
  ⟨h.nd, h.z, h.inn, hi, fun k y hk hy u hu ha => by
    by_cases hk2 : k < i
    · exact h.done k y hk2 hy u hu ha
    · obtain rfl : k = i := by omega
      exact h.part y hy u hu ha, fun x _ u h => by omega⟩
theorem Bfs.all (h : Bfs n E S S.length 0) (hE : ∀ e ∈ E, 0 ≤ e.1 ∧ e.1 < n ∧ 0 ≤ e.2 ∧ e.2 < n) : S.length = n ↔ allR n E := by
  have hcl : ∀ x, Rch E x → x ∈ S := fun x hx => by
    have step : ∀ a b, a ∈ S → AdjE E a b → 0 ≤ b → b < n → b ∈ S := fun a b ha hab h0 h1 => by
      obtain ⟨k, hk, hk2⟩ := List.mem_iff_getElem.1 ha
      have := h.done k a hk (by rw [List.getElem?_eq_getElem hk, hk2]) b.toNat (by omega) (by rw [Int.toNat_of_nonneg h0]; exact hab)
      rwa [Int.toNat_of_nonneg h0] at this
    induction hx with
    | zero => exact h.z
    | fwd he _ ih => exact step _ _ ih (.inl he) (hE _ he).2.2.1 (hE _ he).2.2.2
    | bwd he _ ih => exact step _ _ ih (.inr he) (hE _ he).1 (hE _ he).2.1
  constructor
  · intro hl u hu
    refine Classical.byContradiction fun hno => ?_
    have hnm : ¬ (u : Int) ∈ S := fun hm => hno (h.inn _ hm).2.2
    have := sub_lenP ((u : Int) :: S) (uptoN n) (List.nodup_cons.2 ⟨hnm, h.nd⟩) fun x hx => by
      rcases List.mem_cons.1 hx with rfl | hx
      · exact uptoN_mem.2 ⟨by omega, by omega⟩
      · exact uptoN_mem.2 ⟨(h.inn x hx).1, (h.inn x hx).2.1⟩
    rw [uptoN_len, List.length_cons] at this
    omega
  · intro ha
    have h1 := h.len
    have h2 := sub_lenP (uptoN n) S (uptoN_nodup n) fun x hx => hcl x (by
      have := uptoN_mem.1 hx
      have h3 := ha x.toNat (by omega)
      rwa [Int.toNat_of_nonneg this.1] at h3)
    rw [uptoN_len] at h2
    omega
end

/-- One edge, by bit masks. -/
def stepM (s : Nat) (e : Int × Int) : Nat := if s.testBit e.1.toNat || s.testBit e.2.toNat then s ||| (1 <<< e.1.toNat ||| 1 <<< e.2.toNat) else s
def passM (E : List (Int × Int)) (s : Nat) : Nat := E.foldl stepM s
def iterM (E : List (Int × Int)) : Nat → Nat
  | 0 => 1
  | k + 1 => passM E (iterM E k)
theorem bit_one (a i : Nat) : (1 <<< a).testBit i = decide (i = a) := by
  rw [Nat.one_shiftLeft, Nat.testBit_two_pow]
  exact decide_eq_decide.2 ⟨fun h => h.symm, fun h => h.symm⟩
theorem stepM_bit (s : Nat) (e : Int × Int) (i : Nat) : (stepM s e).testBit i = (s.testBit i || ((s.testBit e.1.toNat || s.testBit e.2.toNat) && (decide (i = e.1.toNat) || decide (i = e.2.toNat)))) := by
  unfold stepM
  split
  · rename_i h
    rw [Nat.testBit_or, Nat.testBit_or, bit_one, bit_one, h, Bool.true_and]
  · rename_i h
    rw [Bool.not_eq_true] at h
    rw [h, Bool.false_and, Bool.or_false]
theorem stepM_mono {s : Nat} {e : Int × Int} {i : Nat} (h : s.testBit i = true) : (stepM s e).testBit i = true := by rw [stepM_bit, h, Bool.true_or]
theorem passM_mono {i : Nat} : ∀ (E : List (Int × Int)) {s : Nat}, s.testBit i = true → (passM E s).testBit i = true
  | [], _, h => h
  | e :: E, _, h => passM_mono E (stepM_mono h)
theorem stepM_lt {n s : Nat} {e : Int × Int} (hs : s < 2 ^ n) (h1 : e.1.toNat < n) (h2 : e.2.toNat < n) : stepM s e < 2 ^ n := by
  unfold stepM
  split
  · refine Nat.or_lt_two_pow hs (Nat.or_lt_two_pow ?_ ?_)
    · rw [Nat.one_shiftLeft]; exact Nat.pow_lt_pow_right (by omega) h1
    · rw [Nat.one_shiftLeft]; exact Nat.pow_lt_pow_right (by omega) h2
  · exact hs
theorem passM_lt {n : Nat} : ∀ (E : List (Int × Int)) {s : Nat}, s < 2 ^ n → (∀ e ∈ E, e.1.toNat < n ∧ e.2.toNat < n) → passM E s < 2 ^ n
  | [], _, h, _ => h
  | e :: E, _, h, hE => passM_lt E (stepM_lt h (hE e (List.mem_cons_self ..)).1 (hE e (List.mem_cons_self ..)).2) fun x hx => hE x (List.mem_cons_of_mem _ hx)
theorem passM_snd {E0 : List (Int × Int)} (h0 : ∀ e ∈ E0, 0 ≤ e.1 ∧ 0 ≤ e.2) : ∀ (E : List (Int × Int)) {s : Nat}, (∀ e ∈ E, e ∈ E0) → (∀ i, s.testBit i = true → Rch E0 (i : Int)) → ∀ i, (passM E s).testBit i = true → Rch E0 (i : Int)
  | [], _, _, h => h
  | e :: E, s, hE, h => passM_snd h0 E (fun x hx => hE x (List.mem_cons_of_mem _ hx)) fun i hi => by
    rw [stepM_bit] at hi
    have he := hE e (List.mem_cons_self ..)
    have hz := h0 e he
    have e1 : ((e.1.toNat : Nat) : Int) = e.1 := Int.toNat_of_nonneg hz.1
    have e2 : ((e.2.toNat : Nat) : Int) = e.2 := Int.toNat_of_nonneg hz.2
    have hm : (e.1, e.2) ∈ E0 := he
    simp only [Bool.or_eq_true, Bool.and_eq_true, decide_eq_true_eq] at hi
    rcases hi with hi | ⟨h1, h2⟩
    · exact h i hi
    · rcases h1 with h1 | h1
      · have hr := h _ h1
        rw [e1] at hr
        rcases h2 with rfl | rfl
        · rw [e1]; exact hr
        · rw [e2]; exact .fwd hm hr
      · have hr := h _ h1
        rw [e2] at hr
        rcases h2 with rfl | rfl
        · rw [e1]; exact .bwd hm hr
        · rw [e2]; exact hr
theorem bits_eq {s t : Nat} (h : ∀ i, s.testBit i = true → t.testBit i = true) (k : ∀ i, t.testBit i = true → s.testBit i = true) : s = t :=
  Nat.eq_of_testBit_eq fun i => by
    cases h1 : s.testBit i with
    | true => exact (h i h1).symm
    | false =>
      cases h2 : t.testBit i with
      | false => rfl
      | true => rw [k i h2] at h1; cases h1
theorem passM_fix : ∀ (E : List (Int × Int)) {s : Nat}, passM E s = s → ∀ e ∈ E, (s.testBit e.1.toNat = true ∨ s.testBit e.2.toNat = true) → s.testBit e.1.toNat = true ∧ s.testBit e.2.toNat = true
  | [], _, _, e, he, _ => by cases he
  | f :: E, s, h, e, he, hb => by
    have h1 : stepM s f = s := bits_eq (fun i hi => by
      have := passM_mono (i := i) E hi
      have e0 : passM (f :: E) s = passM E (stepM s f) := rfl
      rwa [← e0, h] at this) fun i hi => stepM_mono hi
    have h2 : passM E s = s := by
      have e0 : passM (f :: E) s = passM E (stepM s f) := rfl
      rwa [e0, h1] at h
    rcases List.mem_cons.1 he with rfl | he
    · have h3 := stepM_bit s e e.1.toNat
      have h4 := stepM_bit s e e.2.toNat
      rw [h1] at h3 h4
      rcases hb with hb | hb
      · rw [hb] at h4
        simp at h4
        exact ⟨hb, h4⟩
      · rw [hb] at h3
        simp at h3
        exact ⟨h3, hb⟩
    · exact passM_fix E h2 e he hb
def cardM (n s : Nat) : Nat := ((List.range n).filter fun i => s.testBit i).length
theorem cardM_le (n s : Nat) : cardM n s ≤ n := by
  have := List.length_filter_le (fun i => s.testBit i) (List.range n)
  rwa [List.length_range] at this
theorem filter_less {α : Type} {p q : α → Bool} : ∀ (l : List α), (∀ x ∈ l, p x = true → q x = true) → (∃ x ∈ l, p x = false ∧ q x = true) → (l.filter p).length < (l.filter q).length
  | [], _, ⟨_, h, _⟩ => by cases h
  | x :: l, h, ⟨y, hy, h1, h2⟩ => by
    have hle : (l.filter p).length ≤ (l.filter q).length := by
      clear hy h1 h2
      have h' : ∀ x ∈ l, p x = true → q x = true := fun z hz => h z (List.mem_cons_of_mem _ hz)
      clear h
      induction l with
      | nil => exact Nat.le_refl _
      | cons z l ih =>
        have i1 := ih fun u hu => h' u (List.mem_cons_of_mem _ hu)
        have i2 := h' z (List.mem_cons_self ..)
        cases hp : p z with
        | true => rw [List.filter_cons_of_pos hp, List.filter_cons_of_pos (i2 hp)]; simpa using i1
        | false =>
          cases hq : q z with
          | true => rw [List.filter_cons_of_neg (by rw [hp]; decide), List.filter_cons_of_pos hq, List.length_cons]; omega
          | false => rw [List.filter_cons_of_neg (by rw [hp]; decide), List.filter_cons_of_neg (by rw [hq]; decide)]; exact i1
    rcases List.mem_cons.1 hy with rfl | hy
    · rw [List.filter_cons_of_neg (by rw [h1]; decide), List.filter_cons_of_pos h2, List.length_cons]
      omega
    · have ih := filter_less l (fun z hz => h z (List.mem_cons_of_mem _ hz)) ⟨y, hy, h1, h2⟩
      have i2 := h x (List.mem_cons_self ..)
      cases hp : p x with
      | true => rw [List.filter_cons_of_pos hp, List.filter_cons_of_pos (i2 hp)]; simpa using ih
      | false =>
        cases hq : q x with
        | true => rw [List.filter_cons_of_neg (by rw [hp]; decide), List.filter_cons_of_pos hq, List.length_cons]; omega
        | false => rw [List.filter_cons_of_neg (by rw [hp]; decide), List.filter_cons_of_neg (by rw [hq]; decide)]; exact ih
theorem big_bit {n s i : Nat} (h : s < 2 ^ n) (hi : s.testBit i = true) : i < n := by
  rcases Nat.lt_or_ge i n with h1 | h1
  · exact h1
  · rw [Nat.testBit_lt_two_pow (Nat.lt_of_lt_of_le h (Nat.pow_le_pow_right (by omega) h1))] at hi
    cases hi
section
variable {n : Nat} {E : List (Int × Int)}
theorem iterM_lt (hn : 0 < n) (hE : ∀ e ∈ E, e.1.toNat < n ∧ e.2.toNat < n) : ∀ k, iterM E k < 2 ^ n
  | 0 => by
    have h : 2 ^ 1 ≤ 2 ^ n := Nat.pow_le_pow_right (by omega) hn
    show 1 < 2 ^ n
    omega
  | k + 1 => passM_lt E (iterM_lt hn hE k) hE
theorem iterM_grows (hn : 0 < n) (hE : ∀ e ∈ E, e.1.toNat < n ∧ e.2.toNat < n) : ∀ k, passM E (iterM E k) = iterM E k ∨ k + 1 ≤ cardM n (iterM E k)
  | 0 => by
    right
    show 1 ≤ cardM n 1
    have h0 : 0 ∈ (List.range n).filter fun i => (1 : Nat).testBit i := List.mem_filter.2 ⟨List.mem_range.2 hn, by decide⟩
    exact List.length_pos_of_mem h0
  | k + 1 => by
    rcases iterM_grows hn hE k with h | h
    · left
      have e : iterM E (k + 1) = iterM E k := h
      rw [e]
      exact h
    · by_cases he : passM E (iterM E k) = iterM E k
      · left
        have e : iterM E (k + 1) = iterM E k := he
        rw [e]
        exact he
      · right
        have hlt := iterM_lt hn hE (k + 1)
        have hg : cardM n (iterM E k) < cardM n (iterM E (k + 1)) := by
          refine filter_less _ (fun i _ hi => passM_mono E hi) ?_
          refine Classical.byContradiction fun hno => he ?_
          refine (bits_eq (fun i hi => passM_mono E hi) fun i hi => ?_).symm
          have hin := big_bit hlt hi
          cases hb : (iterM E k).testBit i with
          | true => rfl
          | false => exact absurd ⟨i, List.mem_range.2 hin, hb, hi⟩ hno
        omega
theorem iterM_fix (hn : 0 < n) (hE : ∀ e ∈ E, e.1.toNat < n ∧ e.2.toNat < n) : passM E (iterM E n) = iterM E n := by
  rcases iterM_grows hn hE n with h | h
  · exact h
  · have := cardM_le n (iterM E n)
    omega
theorem iterM_zero : ∀ k, (iterM E k).testBit 0 = true
  | 0 => (by decide : (1 : Nat).testBit 0 = true)
  | k + 1 => passM_mono E (iterM_zero k)
theorem iterM_snd (h0 : ∀ e ∈ E, 0 ≤ e.1 ∧ 0 ≤ e.2) : ∀ k i, (iterM E k).testBit i = true → Rch E (i : Int)
  | 0, i, h => by
    have h1 : (1 : Nat).testBit i = true := h
    have h2 := bit_one 0 i
    rw [show (1 : Nat) <<< 0 = 1 from rfl, h1] at h2
    have := of_decide_eq_true h2.symm
    subst this
    exact .zero
  | k + 1, i, h => passM_snd h0 E (fun _ h => h) (iterM_snd h0 k) i h
theorem all_bits {n s : Nat} (hs : s < 2 ^ n) : s = 2 ^ n - 1 ↔ ∀ i, i < n → s.testBit i = true := by
  constructor
  · rintro rfl i hi
    rw [Nat.testBit_two_pow_sub_one]
    exact decide_eq_true hi
  · intro h
    refine bits_eq (fun i hi => ?_) fun i hi => ?_
    · rw [Nat.testBit_two_pow_sub_one]
      exact decide_eq_true (big_bit hs hi)
    · rw [Nat.testBit_two_pow_sub_one] at hi
      exact h i (of_decide_eq_true hi)
/-- By bit masks: as many rounds as there are vertices, and all bits are set just if each vertex can be come to. -/
theorem mask_all (hn : 0 < n) (hE : ∀ e ∈ E, 0 ≤ e.1 ∧ e.1 < n ∧ 0 ≤ e.2 ∧ e.2 < n) : iterM E n = 2 ^ n - 1 ↔ allR n E := by
  have hE1 : ∀ e ∈ E, e.1.toNat < n ∧ e.2.toNat < n := fun e he => by have := hE e he; omega
  have h0 : ∀ e ∈ E, 0 ≤ e.1 ∧ 0 ≤ e.2 := fun e he => by have := hE e he; omega
  rw [all_bits (iterM_lt hn hE1 n)]
  constructor
  · intro h v hv
    exact iterM_snd h0 n v (h v hv)
  · intro h i hi
    have hfx := passM_fix E (iterM_fix hn hE1)
    have hcl : ∀ x, Rch E x → (iterM E n).testBit x.toNat = true := fun x hx => by
      induction hx with
      | zero => exact iterM_zero n
      | fwd he _ ih => exact (hfx _ he (.inl ih)).2
      | bwd he _ ih => exact (hfx _ he (.inr ih)).1
    have := hcl _ (h i hi)
    rwa [Int.toNat_natCast] at this
end
theorem right_edges {L : List Int} {E : List (Int × Int)} (h : rightP L E) : ∀ e ∈ E, 0 ≤ e.1 ∧ e.1 < L.length ∧ 0 ≤ e.2 ∧ e.2 < L.length := fun e he => by
  obtain ⟨i, hi, he2⟩ := List.mem_iff_getElem.1 he
  have h1 := (h.2 i e (by rw [List.getElem?_eq_getElem hi, he2])).1
  unfold Pt.EdgeOK at h1
  omega
/-- What Connected answers. -/
def ConRes (L : List Int) (E : List (Int × Int)) (w : World) (e : Ending) (w' : World) : Prop := ∃ b : Bool, e = .returned (.bool b) ∧ (b = true ↔ connP L E) ∧ Below w.heap.size w w'
end Go.Proofs.YtbbmgcdocolakaaGreatDoor
/-
  Patterns turned, plainly: labels put by an order, edges renamed and sorted; back again, on again; connectedness and degrees.
-/
namespace Go.Proofs.YtbbmgcdocolakaaGreatDoor
open Go.RowKit
set_option linter.unusedVariables false

namespace Pt
/-- A vertex' number behind an order. -/
def vtx (u : List Int) (a : Int) : Int := u.getD a.toNat 0
def mapE (u : List Int) (e : Int × Int) : Int × Int := turnE (vtx u e.1, vtx u e.2)
def Rise (E : List (Int × Int)) : Prop := E.Pairwise fun e f => ordE e f < 0
/-- A pattern turned by an order. -/
structure IsTurn (u L : List Int) (E : List (Int × Int)) (L' : List Int) (E' : List (Int × Int)) : Prop where
  lab : L' = putL u L
  perm : E'.Perm (E.map (mapE u))
  rise : Rise E'
theorem rise_uniq : ∀ {A B : List (Int × Int)}, Rise A → Rise B → A.Perm B → A = B
  | [], B, _, _, h => h.nil_eq
  | a :: A, [], _, _, h => absurd h.length_eq (by simp)
  | a :: A, b :: B, hA, hB, h => by
    obtain ⟨a1, a2⟩ := List.pairwise_cons.1 hA
    obtain ⟨b1, b2⟩ := List.pairwise_cons.1 hB
    have hab : a = b := by
      rcases List.mem_cons.1 (h.subset (List.mem_cons_self ..)) with e | e
      · exact e
      · rcases List.mem_cons.1 (h.symm.subset (List.mem_cons_self ..)) with e' | e'
        · exact e'.symm
        · have h1 := b1 a e
          have h2 := a1 b e'
          have := cp_edge.anti a b
          omega
    subst hab
    rw [rise_uniq a2 b2 h.cons_inv]
theorem rise_of {n : Nat} {E : List (Int × Int)} (h : ∀ i e, E[i]? = some e → atOK n E i e) : Rise E := by
  rw [Rise, List.pairwise_iff_getElem]
  intro i j hi hj hij
  have step : ∀ k, ∀ (hk : i + k + 1 < E.length), ordE E[i] E[i + k + 1] < 0 := by
    intro k
    induction k with
    | zero =>
      intro hk
      exact (h (i + 1) _ (List.getElem?_eq_getElem hk)).2 _ (by omega) (by rw [Nat.add_sub_cancel]; exact List.getElem?_eq_getElem hi)
    | succ k ih =>
      intro hk
      have h1 := ih (by omega)
      have h2 := (h (i + (k + 1) + 1) _ (List.getElem?_eq_getElem hk)).2 E[i + k + 1] (by omega) (by rw [show i + (k + 1) + 1 - 1 = i + k + 1 by omega]; exact List.getElem?_eq_getElem (by omega))
      exact cp_edge.lt h1 (by omega)
  have := step (j - i - 1) (by omega)
  rwa [getElem_congr_idx (show i + (j - i - 1) + 1 = j by omega)] at this
theorem right_of {L : List Int} {E : List (Int × Int)} (h1 : labOK L) (h2 : ∀ e ∈ E, EdgeOK L.length e) (h3 : Rise E) : rightP L E := by
  refine ⟨h1, fun i e he => ⟨h2 e (List.mem_of_getElem? he), fun f hi hf => ?_⟩⟩
  obtain ⟨a1, a2⟩ := List.getElem?_eq_some_iff.1 he
  obtain ⟨b1, b2⟩ := List.getElem?_eq_some_iff.1 hf
  rw [Rise, List.pairwise_iff_getElem] at h3
  have := h3 (i - 1) i b1 a1 (by omega)
  rw [a2, b2] at this
  exact this
theorem right_rise {L : List Int} {E : List (Int × Int)} (h : rightP L E) : Rise E := rise_of h.2
theorem right_edge {L : List Int} {E : List (Int × Int)} (h : rightP L E) {e : Int × Int} (he : e ∈ E) : EdgeOK L.length e := by
  obtain ⟨i, hi⟩ := List.getElem?_of_mem he
  exact (h.2 i e hi).1
section
variable {u : List Int} {n : Nat}
theorem vtx_get (h : Ord u) {a : Int} (h0 : 0 ≤ a) (h1 : a < u.length) : u[a.toNat]? = some (vtx u a) := by
  unfold vtx
  rw [List.getD_eq_getElem?_getD, List.getElem?_eq_getElem (by omega)]
  rfl
theorem vtx_lt (h : Ord u) {a : Int} (h0 : 0 ≤ a) (h1 : a < u.length) : 0 ≤ vtx u a ∧ vtx u a < u.length := h.2.1 _ (List.mem_of_getElem? (vtx_get h h0 h1))
theorem vtx_inj (h : Ord u) {a b : Int} (a0 : 0 ≤ a) (a1 : a < u.length) (b0 : 0 ≤ b) (b1 : b < u.length) (e : vtx u a = vtx u b) : a = b := by
  have h1 := vtx_get h a0 a1
  have h2 := vtx_get h b0 b1
  rw [e] at h1
  have := h.inj h1 h2
  omega
theorem turnE_cases (a b : Int) : turnE (a, b) = (a, b) ∧ a ≤ b ∨ turnE (a, b) = (b, a) ∧ b < a := by
  unfold turnE
  by_cases h : a ≤ b
  · rw [if_pos h]; exact .inl ⟨rfl, h⟩
  · rw [if_neg h]; exact .inr ⟨rfl, by omega⟩
theorem turnE_sym (a b : Int) : turnE (a, b) = turnE (b, a) := by
  rcases turnE_cases a b with ⟨h1, h2⟩ | ⟨h1, h2⟩ <;> rcases turnE_cases b a with ⟨h3, h4⟩ | ⟨h3, h4⟩
  · obtain rfl : a = b := by omega
    rfl
  · rw [h1, h3]
  · rw [h1, h3]
  · omega
theorem mapE_ok (h : Ord u) {e : Int × Int} (he : EdgeOK u.length e) : EdgeOK u.length (mapE u e) := by
  obtain ⟨h0, h1, h2⟩ := he
  have p := vtx_lt h (a := e.1) h0 (by omega)
  have q := vtx_lt h (a := e.2) (by omega) h2
  have hne : vtx u e.1 ≠ vtx u e.2 := fun x => by have := vtx_inj h h0 (by omega) (by omega) h2 x; omega
  unfold mapE
  rcases turnE_cases (vtx u e.1) (vtx u e.2) with ⟨h3, h4⟩ | ⟨h3, h4⟩
  · rw [h3]; exact ⟨p.1, by simp only; omega, q.2⟩
  · rw [h3]; exact ⟨q.1, h4, p.2⟩
theorem mapE_inj (h : Ord u) {e f : Int × Int} (he : EdgeOK u.length e) (hf : EdgeOK u.length f) (hm : mapE u e = mapE u f) : e = f := by
  obtain ⟨e0, e1, e2⟩ := he
  obtain ⟨f0, f1, f2⟩ := hf
  unfold mapE at hm
  have inj := fun (a b : Int) (a0 : 0 ≤ a) (a1 : a < u.length) (b0 : 0 ≤ b) (b1 : b < u.length) e => vtx_inj h (a := a) (b := b) a0 a1 b0 b1 e
  rcases turnE_cases (vtx u e.1) (vtx u e.2) with ⟨h3, h4⟩ | ⟨h3, h4⟩ <;> rcases turnE_cases (vtx u f.1) (vtx u f.2) with ⟨h5, h6⟩ | ⟨h5, h6⟩
  · rw [h3, h5] at hm
    injection hm with x y
    exact Prod.ext (inj _ _ e0 (by omega) f0 (by omega) x) (inj _ _ (by omega) e2 (by omega) f2 y)
  · rw [h3, h5] at hm
    injection hm with x y
    have := inj _ _ e0 (by omega) (by omega) f2 x
    have := inj _ _ (by omega) e2 f0 (by omega) y
    omega
  · rw [h3, h5] at hm
    injection hm with x y
    have := inj _ _ (by omega) e2 f0 (by omega) x
    have := inj _ _ e0 (by omega) (by omega) f2 y
    omega
  · rw [h3, h5] at hm
    injection hm with x y
    exact Prod.ext (inj _ _ e0 (by omega) f0 (by omega) y) (inj _ _ (by omega) e2 (by omega) f2 x)
theorem mapE_two {p q r : List Int} {e : Int × Int} (h : ∀ a, a = e.1 ∨ a = e.2 → vtx q (vtx p a) = vtx r a) : mapE q (mapE p e) = mapE r e := by
  unfold mapE
  have h1 := h e.1 (.inl rfl)
  have h2 := h e.2 (.inr rfl)
  rcases turnE_cases (vtx p e.1) (vtx p e.2) with ⟨h3, h4⟩ | ⟨h3, h4⟩
  · rw [h3]; simp only; rw [h1, h2]
  · rw [h3]; simp only; rw [h1, h2, turnE_sym]
theorem mapE_id {r : List Int} {e : Int × Int} (he : e.1 < e.2) (h : ∀ a, a = e.1 ∨ a = e.2 → vtx r a = a) : mapE r e = e := by
  unfold mapE
  rw [h e.1 (.inl rfl), h e.2 (.inr rfl)]
  unfold turnE
  rw [if_pos (by omega)]
end
section
variable {u L L' : List Int} {E E' : List (Int × Int)}
theorem IsTurn.right (h : IsTurn u L E L' E') (hu : Ord u) (hl : u.length = L.length) (hR : rightP L E) : rightP L' E' ∧ L'.length = L.length := by
  have hl' : L'.length = L.length := by rw [h.lab, putL_len hu hl, hl]
  refine ⟨right_of ⟨by rw [hl']; exact hR.1.1, fun x hx => ?_⟩ (fun e he => ?_) h.rise, hl'⟩
  · obtain ⟨j, hj⟩ := List.getElem?_of_mem hx
    obtain ⟨hj1, _⟩ := List.getElem?_eq_some_iff.1 hj
    obtain ⟨i, hi, hui⟩ := hu.at_ (j := j) (by omega)
    have hy : L[i]? = some (L[i]'(by omega)) := List.getElem?_eq_getElem (by omega)
    have := putL_at hu hl hui hy
    rw [Int.toNat_natCast, ← h.lab, hj] at this
    injection this with this
    rw [this]
    exact hR.1.2 _ (List.getElem_mem _)
  · obtain ⟨f, hf, rfl⟩ := List.mem_map.1 (h.perm.subset he)
    rw [hl', ← hl]
    exact mapE_ok hu (by rw [hl]; exact right_edge hR hf)
/-- The edges behind a turning are as good as sorted, once they rise weakly. -/
theorem turn_of (hu : Ord u) (hl : u.length = L.length) (hR : rightP L E) (hp : E'.Perm (E.map (mapE u))) (hs : E'.Pairwise fun e f => ¬ ordE f e < 0) : Rise E' := by
  have hnd : E'.Nodup := by
    rw [hp.nodup_iff, List.Nodup, List.pairwise_map]
    refine (right_rise hR).imp_of_mem fun {a b} ha hb hlt e => ?_
    have := mapE_inj hu (by rw [hl]; exact right_edge hR ha) (by rw [hl]; exact right_edge hR hb) e
    rw [this, cp_edge.self b] at hlt
    omega
  unfold Rise
  refine (hs.and hnd).imp fun {a b} hab => ?_
  have h1 := cp_edge.anti a b
  rcases Int.lt_trichotomy (ordE a b) 0 with h | h | h
  · exact h
  · exact absurd (ordE_zero h) hab.2
  · exact absurd (show ordE b a < 0 by omega) hab.1
theorem turn_back {L'' : List Int} {E'' : List (Int × Int)} (hu : Ord u) (hl : u.length = L.length) (hR : rightP L E) (h : IsTurn u L E L' E') (k : IsTurn (backL u) L' E' L'' E'') : L'' = L ∧ E'' = E := by
  refine ⟨by rw [k.lab, h.lab, put_back hu hl], rise_uniq k.rise (right_rise hR) ?_⟩
  refine k.perm.trans ((h.perm.map _).trans ?_)
  rw [List.map_map]
  have : E.map (mapE (backL u) ∘ mapE u) = E := by
    conv => rhs; rw [← List.map_id E]
    refine List.map_congr_left fun e he => ?_
    have ho := right_edge hR he
    rw [← hl] at ho
    obtain ⟨h0, h1, h2⟩ := ho
    have hv : ∀ a, a = e.1 ∨ a = e.2 → vtx (backL u) (vtx u a) = a := fun a ha => by
      have ha0 : 0 ≤ a ∧ a < u.length := by rcases ha with rfl | rfl <;> omega
      have g1 := vtx_get hu ha0.1 ha0.2
      have g2 := backL_at hu g1
      have g3 := vtx_lt hu ha0.1 ha0.2
      unfold vtx at g2 g3 ⊢
      rw [List.getD_eq_getElem?_getD (l := backL u), g2]
      simp only [Option.getD_some]
      omega
    show mapE (backL u) (mapE u e) = e
    have e1 : mapE (backL u) (mapE u e) = turnE (e.1, e.2) := by
      show turnE _ = _
      rcases turnE_cases (vtx u e.1) (vtx u e.2) with ⟨h3, h4⟩ | ⟨h3, h4⟩
      · unfold mapE; rw [h3]; simp only; rw [hv e.1 (.inl rfl), hv e.2 (.inr rfl)]
      · unfold mapE; rw [h3]; simp only; rw [hv e.1 (.inl rfl), hv e.2 (.inr rfl), turnE_sym]
    rw [e1]
    unfold turnE
    rw [if_pos (show e.1 ≤ e.2 by omega)]
  rw [this]
end
end Pt
end Go.Proofs.YtbbmgcdocolakaaGreatDoor
