/-
  Part 12 of the proof of ConfProgs: PermA, PermB, WireK, WireL, WireM, WireN, WireO.
-/
import Derived.Test.YtapledphhfiimaaGreatDoorConfProgsM1
import Derived.Test.YtapledphhfiimaaGreatDoorConfProgsM9
import Derived.Test.YtapledphhfiimaaGreatDoorConfProgsM2
import Derived.Deep.DeepCutAuto
import Derived.BigQuiet
import Derived.Deep.QuietTactic
import Derived.Test.YtapledphhfiimaaGreatDoorConfProgsM10
import Derived.Test.YtapledphhfiimaaGreatDoorConfProgsM11
/-
  Orders, plainly: no program in sight.
-/
namespace Go.Proofs.YtapledphhfiimaaGreatDoor

/-- A list that is an order. -/
def Ord (p : List Int) : Prop := p.length ≤ 8 ∧ (∀ x ∈ p, 0 ≤ x ∧ x < p.length) ∧ p.Nodup
instance (p : List Int) : Decidable (Ord p) := by unfold Ord; exact inferInstance
/-- 0, 1, .. -/
def ids (n : Nat) : List Int := (List.range n).map fun i : Nat => (i : Int)
theorem ids_len (n : Nat) : (ids n).length = n := by simp [ids]
theorem ids_succ (n : Nat) : ids (n + 1) = ids n ++ [(n : Int)] := by simp [ids, List.range_succ]
theorem ids_mem {n : Nat} {x : Int} : x ∈ ids n ↔ 0 ≤ x ∧ x < n := by
  simp only [ids, List.mem_map, List.mem_range]
  constructor
  · rintro ⟨i, hi, rfl⟩; omega
  · rintro ⟨h1, h2⟩; exact ⟨x.toNat, by omega, by omega⟩
theorem ids_nodup (n : Nat) : (ids n).Nodup := by
  unfold ids
  rw [List.nodup_iff_pairwise_ne, List.pairwise_map]
  exact List.Pairwise.imp (fun h => by omega) (List.pairwise_lt_range)
theorem ids_get (n i : Nat) (h : i < n) : (ids n)[i]? = some (i : Int) := by simp [ids, h]
theorem ids_ord {n : Nat} (h : n ≤ 8) : Ord (ids n) := ⟨by rw [ids_len]; exact h, fun x hx => by rw [ids_len]; exact ids_mem.1 hx, ids_nodup n⟩

/-- l's things at p's places, one by one. -/
def scat : List Int → List Int → List Int → List Int
  | x :: p, y :: l, out => scat p l (out.set x.toNat y)
  | _, _, out => out
theorem scat_len : ∀ p l out, (scat p l out).length = out.length
  | x :: p, y :: l, out => by rw [scat, scat_len p l]; simp
  | [], _, _ => rfl
  | _ :: _, [], _ => rfl
theorem scat_snoc (x y : Int) : ∀ (p l out : List Int), p.length = l.length → scat (p ++ [x]) (l ++ [y]) out = (scat p l out).set x.toNat y
  | [], [], _, _ => rfl
  | a :: p, b :: l, out, h => by
    rw [List.cons_append, List.cons_append, scat, scat_snoc x y p l _ (by simpa using h), scat]
theorem scat_other : ∀ (p l out : List Int) (j : Nat), (∀ x ∈ p, x.toNat ≠ j) → (scat p l out)[j]? = out[j]?
  | x :: p, y :: l, out, j, h => by
    rw [scat, scat_other p l _ j (fun z hz => h z (List.mem_cons_of_mem _ hz)), List.getElem?_set_ne (h x (List.mem_cons_self ..))]
  | [], _, _, _, _ => by simp [scat]
  | _ :: _, [], _, _, _ => by simp [scat]
theorem scat_at : ∀ (p l out : List Int) (i : Nat) (x y : Int), p.Nodup → (∀ z ∈ p, 0 ≤ z ∧ z < out.length) → p[i]? = some x → l[i]? = some y → (scat p l out)[x.toNat]? = some y
  | a :: p, b :: l, out, 0, x, y, hn, hr, hx, hy => by
    simp only [List.getElem?_cons_zero, Option.some.injEq] at hx hy
    subst hx hy
    have hna := (List.nodup_cons.1 hn).1
    have hra := hr a (List.mem_cons_self ..)
    rw [scat, scat_other]
    · rw [List.getElem?_set_self (by omega)]
    · intro z hz e
      have := hr z (List.mem_cons_of_mem _ hz)
      exact hna (by rwa [show a = z by omega])
  | a :: p, b :: l, out, i + 1, x, y, hn, hr, hx, hy => by
    rw [scat]
    exact scat_at p l _ i x y (List.nodup_cons.1 hn).2 (fun z hz => by rw [List.length_set]; exact hr z (List.mem_cons_of_mem _ hz)) (by simpa using hx) (by simpa using hy)
  | [], _, _, _, _, _, _, _, hx, _ => by simp at hx
  | _ :: _, [], _, _, _, _, _, _, _, hy => by simp at hy

/-- No more things than places. -/
theorem pig : ∀ (n : Nat) (l : List Int), l.Nodup → (∀ x ∈ l, 0 ≤ x ∧ x < n) → l.length ≤ n
  | 0, [], _, _ => Nat.le_refl _
  | 0, x :: _, _, h => by have := h x (List.mem_cons_self ..); omega
  | n + 1, l, hn, h => by
    have h1 := pig n (l.erase (n : Int)) (hn.erase _) (fun x hx => by
      have hm := List.mem_of_mem_erase hx
      have := h x hm
      have hne : x ≠ (n : Int) := fun e => (hn.not_mem_erase (a := (n : Int))) (e ▸ hx)
      omega)
    rw [List.length_erase] at h1
    split at h1 <;> omega
theorem Ord.mem {p : List Int} (h : Ord p) {j : Int} (h0 : 0 ≤ j) (h1 : j < p.length) : j ∈ p := by
  refine Decidable.byContradiction fun hn => ?_
  have := pig p.length (j :: p) (List.nodup_cons.2 ⟨hn, h.2.2⟩) (fun x hx => by
    rcases List.mem_cons.1 hx with rfl | hx
    · exact ⟨h0, h1⟩
    · exact h.2.1 x hx)
  rw [List.length_cons] at this
  omega
theorem Ord.at_ {p : List Int} (h : Ord p) {j : Nat} (h1 : j < p.length) : ∃ i, i < p.length ∧ p[i]? = some (j : Int) := by
  obtain ⟨i, hi, e⟩ := List.getElem_of_mem (h.mem (j := j) (by omega) (by omega))
  exact ⟨i, hi, by rw [List.getElem?_eq_getElem hi, e]⟩
theorem Ord.get {p : List Int} (h : Ord p) {i : Nat} (hi : i < p.length) : ∃ j : Nat, j < p.length ∧ p[i]? = some (j : Int) := by
  have hm := h.2.1 _ (List.getElem_mem hi)
  exact ⟨p[i].toNat, by omega, by rw [List.getElem?_eq_getElem hi]; congr 1; omega⟩
theorem Ord.inj {p : List Int} (h : Ord p) {i j : Nat} {x : Int} (hi : p[i]? = some x) (hj : p[j]? = some x) : i = j := by
  have h1 : i < p.length := (List.getElem?_eq_some_iff.1 hi).1
  exact (List.getElem?_inj h1 h.2.2).1 (hi.trans hj.symm)

/-- The list put. -/
def putL (p l : List Int) : List Int := if Ord p ∧ p.length = l.length then scat p l (List.replicate p.length 0) else []
/-- The order that leads back. -/
def backL (p : List Int) : List Int := if Ord p then scat p (ids p.length) (List.replicate p.length 0) else []
/-- One, then the other. -/
def thenL (p q : List Int) : List Int := if Ord p ∧ Ord q ∧ p.length = q.length then p.map fun x => q.getD x.toNat 0 else []
theorem putL_len {p l : List Int} (h : Ord p) (hl : p.length = l.length) : (putL p l).length = p.length := by rw [putL, if_pos ⟨h, hl⟩, scat_len]; simp
theorem putL_at {p l : List Int} (h : Ord p) (hl : p.length = l.length) {i : Nat} {x y : Int} (hx : p[i]? = some x) (hy : l[i]? = some y) : (putL p l)[x.toNat]? = some y := by
  rw [putL, if_pos ⟨h, hl⟩]
  exact scat_at _ _ _ i x y h.2.2 (by simpa using h.2.1) hx hy
theorem backL_eq {p : List Int} (h : Ord p) : backL p = putL p (ids p.length) := by rw [backL, putL, if_pos h, if_pos ⟨h, by rw [ids_len]⟩]
theorem backL_len {p : List Int} (h : Ord p) : (backL p).length = p.length := by rw [backL_eq h, putL_len h (by rw [ids_len])]
theorem backL_at {p : List Int} (h : Ord p) {i : Nat} {x : Int} (hx : p[i]? = some x) : (backL p)[x.toNat]? = some (i : Int) := by
  rw [backL_eq h]
  exact putL_at h (by rw [ids_len]) hx (ids_get _ _ (List.getElem?_eq_some_iff.1 hx).1)
/-- Back the other way. -/
theorem backL_of {p : List Int} (h : Ord p) {j : Nat} {y : Int} (hy : (backL p)[j]? = some y) : ∃ i : Nat, y = i ∧ p[i]? = some (j : Int) := by
  have hj : j < p.length := by rw [← backL_len h]; exact (List.getElem?_eq_some_iff.1 hy).1
  obtain ⟨i, _, hi⟩ := h.at_ hj
  have := backL_at h hi
  rw [Int.toNat_natCast, hy] at this
  exact ⟨i, by simpa using this, hi⟩
theorem backL_ord {p : List Int} (h : Ord p) : Ord (backL p) := by
  refine ⟨by rw [backL_len h]; exact h.1, fun x hx => ?_, ?_⟩
  · obtain ⟨j, hj, e⟩ := List.getElem_of_mem hx
    obtain ⟨i, rfl, hi⟩ := backL_of h (by rw [List.getElem?_eq_getElem hj, e])
    rw [backL_len h]
    have := (List.getElem?_eq_some_iff.1 hi).1
    omega
  · rw [List.nodup_iff_pairwise_ne, List.pairwise_iff_getElem]
    intro i j hi hj hlt e
    obtain ⟨a, ha, pa⟩ := backL_of h (List.getElem?_eq_getElem hi)
    obtain ⟨b, hb, pb⟩ := backL_of h (List.getElem?_eq_getElem hj)
    have hab : a = b := by have : (a : Int) = b := by rw [← ha, ← hb, e]
                           omega
    rw [hab, pb] at pa
    have : (j : Int) = i := by simpa using pa
    omega

/-- Put and put back. -/
theorem put_back {p l : List Int} (h : Ord p) (hl : p.length = l.length) : putL (backL p) (putL p l) = l := by
  have hb := backL_ord h
  have e1 := putL_len h hl
  have e2 := backL_len h
  have e3 := putL_len hb (e2.trans e1.symm)
  apply List.ext_getElem?
  intro i
  by_cases hi : i < p.length
  · obtain ⟨j, hj, hx⟩ := h.get hi
    have hi' : i < l.length := by omega
    have h1 := putL_at h hl hx (List.getElem?_eq_getElem hi')
    have h2 := backL_at h hx
    have h3 := putL_at hb (e2.trans e1.symm) h2 h1
    rw [Int.toNat_natCast] at h3
    rw [h3, List.getElem?_eq_getElem hi']
  · rw [List.getElem?_eq_none (by omega), List.getElem?_eq_none (by omega)]

/-- n times all below. -/
def fac : Nat → Nat
  | 0 => 1
  | n + 1 => (n + 1) * fac n
theorem fac_pos : ∀ n, 0 < fac n
  | 0 => by decide
  | n + 1 => Nat.mul_pos (by omega) (fac_pos n)
theorem fac_le {n : Nat} (h : n ≤ 8) : fac n ≤ 40320 := by
  have : ∀ n : Fin 9, fac n ≤ 40320 := by decide
  exact this ⟨n, by omega⟩
/-- What is picked of what is left, by a rank. -/
def ofR : Nat → Nat → List Int → List Int
  | 0, _, _ => []
  | k + 1, r, left => left.getD (r / fac k) 0 :: ofR k (r % fac k) (left.eraseIdx (r / fac k))
theorem ofR_perm : ∀ (k r : Nat) (left : List Int), left.length = k → r < fac k → List.Perm (ofR k r left) left
  | 0, _, left, h, _ => by rw [List.eq_nil_of_length_eq_zero h]; exact List.Perm.refl _
  | k + 1, r, left, h, hr => by
    have hp := fac_pos k
    have hlt : r / fac k < left.length := by rw [h]; exact Nat.div_lt_of_lt_mul (by rw [Nat.mul_comm]; exact hr)
    have h1 := ofR_perm k (r % fac k) (left.eraseIdx (r / fac k)) (by rw [List.length_eraseIdx, if_pos hlt, h]; rfl) (Nat.mod_lt _ hp)
    rw [ofR, List.getD_eq_getElem?_getD, List.getElem?_eq_getElem hlt]
    refine (h1.cons _).trans ?_
    rw [List.eraseIdx_eq_take_drop_succ]
    refine List.perm_middle.symm.trans ?_
    show List.Perm (left.take (r / fac k) ++ left[r / fac k] :: left.drop (r / fac k + 1)) left
    rw [← List.drop_eq_getElem_cons hlt, List.take_append_drop]
theorem ord_of_perm {n : Nat} {p : List Int} (hn : n ≤ 8) (h : List.Perm p (ids n)) : Ord p := by
  have hl : p.length = n := by rw [h.length_eq, ids_len]
  refine ⟨by omega, fun x hx => ?_, h.nodup_iff.2 (ids_nodup n)⟩
  rw [hl]
  exact ids_mem.1 (h.mem_iff.1 hx)
theorem ofR_ord {n r : Nat} (hn : n ≤ 8) (hr : r < fac n) : Ord (ofR n r (ids n)) := ord_of_perm hn (ofR_perm n r _ (ids_len n) hr)
theorem ofR_len {n r : Nat} (hr : r < fac n) : (ofR n r (ids n)).length = n := by rw [(ofR_perm n r _ (ids_len n) hr).length_eq, ids_len]
end Go.Proofs.YtapledphhfiimaaGreatDoor
/-
  Contracts: perm.Right, perm.Id, perm.with, perm.Put, perm.Back, perm.Then, perm.times; the document's SameInts.
-/
namespace Go.Proofs.YtapledphhfiimaaGreatDoor
open Go.RowKit
set_option maxRecDepth 100000

theorem bits_and_nat (a b : Nat) (ha : a < 2^63) (hb : b < 2^63) : bits .and .i64 a b = ((a &&& b : Nat) : Int) := by
  have h1 : (BitVec.ofInt 64 (a : Int) &&& BitVec.ofInt 64 (b : Int)).toNat = a &&& b := by
    rw [BitVec.toNat_and, BitVec.ofInt_natCast, BitVec.ofInt_natCast, BitVec.toNat_ofNat, BitVec.toNat_ofNat, Nat.mod_eq_of_lt (by omega), Nat.mod_eq_of_lt (by omega)]
  have h2 : a &&& b < 2^63 := Nat.lt_of_le_of_lt Nat.and_le_left ha
  show IntKind.i64.wrap (((BitVec.ofInt 64 (a : Int) &&& BitVec.ofInt 64 (b : Int)).toNat : Nat) : Int) = _
  rw [h1]
  exact IntWalk.i64_in _ (by omega)
theorem bits_or_nat (a b : Nat) (ha : a < 2^63) (hb : b < 2^63) : bits .or .i64 a b = ((a ||| b : Nat) : Int) := by
  have h1 : (BitVec.ofInt 64 (a : Int) ||| BitVec.ofInt 64 (b : Int)).toNat = a ||| b := by
    rw [BitVec.toNat_or, BitVec.ofInt_natCast, BitVec.ofInt_natCast, BitVec.toNat_ofNat, BitVec.toNat_ofNat, Nat.mod_eq_of_lt (by omega), Nat.mod_eq_of_lt (by omega)]
  have h2 : a ||| b < 2^63 := Nat.or_lt_two_pow ha hb
  show IntKind.i64.wrap (((BitVec.ofInt 64 (a : Int) ||| BitVec.ofInt 64 (b : Int)).toNat : Nat) : Int) = _
  rw [h1]
  exact IntWalk.i64_in _ (by omega)
theorem bit_test (m y : Nat) (hm : m < 256) : (bits .and .i64 ((m : Int) / 2 ^ y) 1 == 1) = m.testBit y := by
  have h0 : ((m : Int) / 2 ^ y) = ((m >>> y : Nat) : Int) := by rw [Nat.shiftRight_eq_div_pow]; push_cast; rfl
  have h1 : m >>> y ≤ m := by rw [Nat.shiftRight_eq_div_pow]; exact Nat.div_le_self _ _
  rw [h0, show (1 : Int) = ((1 : Nat) : Int) from rfl, bits_and_nat _ _ (by omega) (by omega), Nat.testBit, Nat.and_comm]
  generalize hq : (1 &&& m >>> y) = q
  have hq2 : q < 2 := by rw [← hq, Nat.one_and_eq_mod_two]; omega
  match q, hq2 with
  | 0, _ => rfl
  | 1, _ => rfl
theorem bit_set (m y : Nat) (hm : m < 256) (hy : y < 8) : bits .or .i64 (m : Int) (wrap64 (2 ^ y)) = ((m ||| 2 ^ y : Nat) : Int) ∧ (m ||| 2 ^ y) < 256 ∧ ∀ x, (m ||| 2 ^ y).testBit x = (m.testBit x || decide (y = x)) := by
  have hp : 2 ^ y < 256 := by
    have : 2 ^ y < 2 ^ 8 := Nat.pow_lt_pow_right (by omega) hy
    omega
  have hw : wrap64 (2 ^ y) = ((2 ^ y : Nat) : Int) := by
    have : ((2 : Int) ^ y) = ((2 ^ y : Nat) : Int) := by push_cast; rfl
    rw [this]
    generalize 2 ^ y = q at hp
    exact IntWalk.wrap64_in (q : Int) (by omega)
  refine ⟨by rw [hw]; exact bits_or_nat _ _ (by omega) (by omega), Nat.or_lt_two_pow (n := 8) hm hp, fun x => ?_⟩
  rw [Nat.testBit_or, Nat.testBit_two_pow]

set_option maxHeartbeats 1000000 in
theorem Right_any (p : List Int) (A : Option Addr) (n c : Nat) (w : World) (hl : p.length = n) (hs : Sl w 1 A n (p.map (Value.int .i64))) :
    Calls Tryz.prog 54 #[.slice A n c] w fun e w' => e = .returned (.bool (decide (Ord p))) ∧ w = w' := by
  go_enter Tryz.func54, Tryz.ntmps54
  by_cases h8 : n ≤ 8
  · go_wp2
    go_loop [3, 11] (fun s i => ∃ k m : Nat, k ≤ n ∧ i = .int .i64 k ∧ s = .int .i64 m ∧ m < 256 ∧ (∀ x : Nat, x < 8 → m.testBit x = decide ((x : Int) ∈ p.take k)) ∧ (p.take k).Nodup ∧ ∀ x ∈ p.take k, 0 ≤ x ∧ x < n) (fun _ i => n - (intOf i).toNat)
    case atStart => exact ⟨0, 0, Nat.zero_le _, rfl, rfl, by omega, by simp, by simp, by simp⟩
    case round =>
      obtain ⟨k, m, hk, rfl, rfl, hm, hb, hnd, hr⟩ := hrel
      by_cases hlt : k < n
      · have hj : k < p.length := by omega
        obtain ⟨b, off, u, rfl, e1, c1⟩ := hs.one hlt
        rw [List.getElem?_map, List.getElem?_eq_getElem hj] at e1
        obtain rfl := Option.some.inj e1
        have HM := Lib.hid (List.getElem_mem hj)
        have HT := Lib.hid (List.take_succ_eq_append_getElem hj)
        generalize p[k] = x at *
        clear e1
        by_cases hx0 : x < 0
        · go_wp2
          go_ret
          exact ⟨ret_bool (decide_eq_false (fun h : Ord p => by have := h.2.1 x HM.out; omega)).symm, rfl⟩
        · by_cases hx1 : x < n
          · obtain ⟨y, rfl⟩ := Int.eq_ofNat_of_zero_le (by omega : 0 ≤ x)
            have hy := hb y (by omega)
            have HB := Lib.hid hb
            have HR := Lib.hid hr
            have HN := Lib.hid hnd
            have hbt := bit_test m y hm
            have HS := Lib.hid (bit_set m y hm (by omega))
            rw [hy] at hbt
            clear hb hr hnd hy
            by_cases hmem : (y : Int) ∈ p.take k
            · rw [decide_eq_true hmem] at hbt
              go_wp2
              go_ret
              refine ⟨ret_bool (decide_eq_false (fun h : Ord p => ?_)).symm, rfl⟩
              have h1 := HT.out ▸ (h.2.2.sublist (List.take_sublist (k + 1) p))
              rw [List.nodup_append] at h1
              exact h1.2.2 _ hmem _ (List.mem_singleton.2 rfl) rfl
            · rw [decide_eq_false hmem] at hbt
              go_wp2
              go_round
              case rel =>
                refine ⟨k + 1, _, by omega, by go_num, congrArg _ HS.out.1, HS.out.2.1, fun x hx => ?_, ?_, ?_⟩
                · rw [HS.out.2.2, HB.out x hx, HT.out]
                  simp only [List.mem_append, List.mem_singleton]
                  by_cases hxy : y = x
                  · subst hxy; simp
                  · have : ¬ (x : Int) = y := by omega
                    simp [hxy, this]
                · rw [HT.out, List.nodup_append]
                  exact ⟨HN.out, by simp, fun a ha b hb e => hmem (by rw [List.mem_singleton.1 hb] at e; exact e ▸ ha)⟩
                · intro x hx
                  rw [HT.out] at hx
                  rcases List.mem_append.1 hx with h | h
                  · exact HR.out x h
                  · rw [List.mem_singleton.1 h]; omega
              case measure => simp [intOf]; omega
          · go_wp2
            go_ret
            exact ⟨ret_bool (decide_eq_false (fun h : Ord p => by have := h.2.1 x HM.out; omega)).symm, rfl⟩
      · obtain rfl : k = n := by omega
        rw [List.take_of_length_le (by omega)] at hnd hr
        have HO := Lib.hid (show Ord p from ⟨by omega, by rw [hl]; exact hr, hnd⟩)
        clear hnd hr hb
        go_wp2
        go_ret
        exact ⟨ret_bool (decide_eq_true HO.out).symm, rfl⟩
  · go_wp2
    go_ret
    exact ⟨ret_bool (decide_eq_false (fun h : Ord p => h8 (by have := h.1; omega))).symm, rfl⟩

set_option maxHeartbeats 1000000 in
theorem Id_any (n : Nat) (w : World) (hn : n ≤ 8) :
    Calls Tryz.prog 25 #[.int .i64 n] w fun e w' => ∃ v, e = .returned v ∧ w'.ownsRow w.heap.size 3 1 v n ((ids n).map (Value.int .i64)) ∧ Below w.heap.size w w' := by
  go_enter Tryz.func25, Tryz.ntmps25
  go_wp2
  go_loopw [3, 4] (fun v i wr => ∃ k : Nat, k ≤ n ∧ i = .int .i64 k ∧ wr.ownsRow w.heap.size 3 1 v k ((ids k).map (Value.int .i64)) ∧ Below w.heap.size w wr) (fun _ i _ => n - (intOf i).toNat)
  case atStart => exact ⟨0, Nat.zero_le _, rfl, World.ownsRow_nil _ _ _ _, Below.refl _ _⟩
  case round =>
    obtain ⟨k, hk, rfl, hown, hb⟩ := hrel
    by_cases hlt : k < n
    · go_wp2_with (at_builtin; refine wpList_push elemInt _ _ rfl rfl hown hb (Nat.le_refl _) rfl rfl rfl (by simp [Value.oneCell']) (by unfold lim; omega) (by unfold lim; omega) ?_; intro v' w5 hown1 hb5)
      go_roundw
      case rel => exact ⟨k + 1, by omega, by go_num, by rw [ids_succ, List.map_append]; exact hown1, hb5⟩
      case measure => simp [intOf]; omega
    · obtain rfl : k = n := by omega
      go_wp2
      go_ret
      exact ⟨_, rfl, hown, hb⟩
theorem Id_big (n : Int) (w : World) (hn : 8 < n) : Calls Tryz.prog 25 #[.int .i64 n] w fun e w' => e = .returned (.slice none 0 0) ∧ w = w' := by
  go_enter Tryz.func25, Tryz.ntmps25
  go_wp2
  go_ret
  exact ⟨rfl, rfl⟩

def order : ByteArray := ⟨#[111, 114, 100, 101, 114]⟩
theorem wrong_any (a : Int) (w : World) : Calls Tryz.prog 52 #[.int .i64 a] w fun e w' => ∃ v, e = .returned v ∧ (Err.flt 1 a order).At w' v ∧ Below w.heap.size w w' := by
  go_enter Tryz.func52, Tryz.ntmps52
  go_wp2_with fail
  refine (New_err 1 a order w).mono ?_
  rintro e w1 ⟨v, rfl, hv, hb⟩
  go_wp2_with fail
  go_ret
  exact ⟨_, rfl, hv, hb⟩

def putE (p l : List Int) : Err := if Ord p then if p.length = l.length then .nil else .flt 1 1 order else .flt 1 0 order
set_option maxHeartbeats 1000000 in
theorem with_any (p l : List Int) (A B : Option Addr) (n m c d : Nat) (w : World) (hl : p.length = n) (hm : l.length = m) (hs : Sl w 1 A n (p.map (Value.int .i64))) :
    Calls Tryz.prog 81 #[.slice A n c, .slice B m d] w fun e w' => ∃ v, e = .returned v ∧ (putE p l).At w' v ∧ Below w.heap.size w w' := by
  go_enter Tryz.func81, Tryz.ntmps81
  by_cases hO : Ord p
  · have HR := Lib.hid (Right_any p A n c w hl hs)
    rw [decide_eq_true hO] at HR
    have HO := Lib.hid hO
    clear hO hs
    go_wp2_with fail
    refine HR.out.mono ?_
    rintro e w1 ⟨rfl, rfl⟩
    by_cases hnm : n = m
    · subst hnm
      go_wp2_with fail
      go_ret
      exact ⟨_, rfl, by rw [putE, if_pos HO.out, if_pos (hl.trans hm.symm)]; exact rfl, Below.refl _ _⟩
    · have hb1 : ((n : Int) == (m : Int)) = false := by simp; omega
      go_wp2_with fail
      refine (wrong_any 1 w).mono ?_
      rintro e w2 ⟨v, rfl, hv, hb⟩
      go_wp2_with fail
      go_ret
      exact ⟨_, rfl, by rw [putE, if_pos HO.out, if_neg (fun h => hnm (by rw [← hl, ← hm, h]))]; exact hv, hb⟩
  · have HR := Lib.hid (Right_any p A n c w hl hs)
    rw [decide_eq_false hO] at HR
    have HO := Lib.hid hO
    clear hO hs
    go_wp2_with fail
    refine HR.out.mono ?_
    rintro e w1 ⟨rfl, rfl⟩
    go_wp2_with fail
    refine (wrong_any 0 w).mono ?_
    rintro e w2 ⟨v, rfl, hv, hb⟩
    go_wp2_with fail
    go_ret
    exact ⟨_, rfl, by rw [putE, if_neg HO.out]; exact hv, hb⟩

set_option maxHeartbeats 1000000 in
theorem times_any (n : Nat) (w : World) (hn : n ≤ 8) : Calls Tryz.prog 51 #[.int .i64 n] w fun e w' => e = .returned (.int .i64 (fac n)) ∧ w = w' := by
  go_enter Tryz.func51, Tryz.ntmps51
  go_wp2
  go_loop [3, 4] (fun f i => ∃ k : Nat, k ≤ max n 1 ∧ 1 ≤ k ∧ i = .int .i64 (k + 1) ∧ f = .int .i64 (fac k)) (fun _ i => n + 1 - (intOf i).toNat)
  case atStart => exact ⟨1, by omega, by omega, rfl, rfl⟩
  case round =>
    obtain ⟨k, hk, hk1, rfl, rfl⟩ := hrel
    by_cases hlt : k + 1 ≤ n
    · have hf := fac_le (n := k) (by omega)
      have hf2 := fac_le (n := k + 1) (by omega)
      have hm : ((fac k : Nat) : Int) * ((k : Int) + 1) = (fac (k + 1) : Nat) := by rw [fac]; push_cast; rw [Int.mul_comm]
      have hw : IntKind.i64.wrap (((fac k : Nat) : Int) * ((k : Int) + 1)) = (fac (k + 1) : Nat) := by
        rw [hm]
        generalize fac (k + 1) = q at *
        exact IntWalk.i64_in _ (by omega)
      clear hm
      have HF := Lib.hid (show (fac (k + 1) : Int) = (fac (k + 1) : Int) from rfl)
      generalize hq : fac (k + 1) = q at hw hf2 HF
      go_wp2
      go_round
      case rel => exact ⟨k + 1, by omega, by omega, by go_num, by rw [hq]⟩
      case measure => simp [intOf]; omega
    · have hz : fac k = fac n := by
        by_cases h1 : k = n
        · rw [h1]
        · obtain rfl : k = 1 := by omega
          obtain rfl : n = 0 := by omega
          rfl
      have HZ := Lib.hid hz
      clear hz
      generalize fac k = q at *
      go_wp2
      go_ret
      exact ⟨ret_int (congrArg _ HZ.out), rfl⟩
end Go.Proofs.YtapledphhfiimaaGreatDoor
/-
  Contracts of wire.Reader where the bytes suffice: Long, Text, List.
-/
namespace Go.Proofs.YtapledphhfiimaaGreatDoor
open Go.RowKit
set_option maxRecDepth 100000
set_option linter.unusedVariables false

theorem bits_or_u64 (a b : Nat) (ha : a < 18446744073709551616) (hb : b < 18446744073709551616) : bits .or .u64 (a : Int) (b : Int) = ((a ||| b : Nat) : Int) := by
  have h1 : (BitVec.ofInt 64 (a : Int) ||| BitVec.ofInt 64 (b : Int)).toNat = a ||| b := by
    rw [BitVec.toNat_or, BitVec.ofInt_natCast, BitVec.ofInt_natCast, BitVec.toNat_ofNat, BitVec.toNat_ofNat, Nat.mod_eq_of_lt (by omega), Nat.mod_eq_of_lt (by omega)]
  have h2 : a ||| b < 2 ^ 64 := Nat.or_lt_two_pow (by omega) (by omega)
  show IntKind.u64.wrap (((BitVec.ofInt 64 (a : Int) ||| BitVec.ofInt 64 (b : Int)).toNat : Nat) : Int) = _
  rw [h1]
  exact IntWalk.u64_in _ (by omega)
theorem or_long (a b : Nat) (ha : a < 4294967296) (hb : b < 4294967296) : bits .or .u64 ((a : Int) * 4294967296) (b : Int) = ((a * 4294967296 + b : Nat) : Int) := by
  have := bits_or_u64 (a * 4294967296) b (by omega) (by omega)
  rw [or_join a b 32 (by omega)] at this
  rw [show (a : Int) * 4294967296 = ((a * 4294967296 : Nat) : Int) by omega]
  exact this
/-- A long one, out of two words. -/
def longZ (l : List Int) : Int := wrap64 ((wordN l * 4294967296 + wordN (l.drop 4) : Nat) : Int)

end Go.Proofs.YtapledphhfiimaaGreatDoor
/-
  Contracts of wire.Reader where the bytes suffice: Text.
-/
namespace Go.Proofs.YtapledphhfiimaaGreatDoor
open Go.RowKit
set_option maxRecDepth 100000
set_option linter.unusedVariables false

theorem conv_bytes (w : World) (b off n k : Nat) (l : List Int) (hl : l.length = n) (hs : Sl w 1 (some ⟨b, off, none⟩) n (l.map (Value.int .u8))) : (convert 142 9 (.slice (some ⟨b, off, none⟩) n k)).run Tryz.prog w = .ok (.string (strOfNums l)) w := by
  refine run_convert_bytes_arg (P := Tryz.prog) w 142 5 Tryz.underlying142 Tryz.underlying5 b off n k l hl (fun i hi => ?_) 9 Tryz.underlying9
  refine hs.again hi ?_
  rw [List.getElem?_map, List.getD_eq_getElem?_getD, List.getElem?_eq_getElem (by omega)]; rfl

end Go.Proofs.YtapledphhfiimaaGreatDoor
/-
  Contracts of wire.Reader where the bytes suffice: List.
-/
namespace Go.Proofs.YtapledphhfiimaaGreatDoor
open Go.RowKit
set_option maxRecDepth 100000
set_option linter.unusedVariables false

/-- So many words. -/
def wordsL (l : List Int) : Nat → List Int
  | 0 => []
  | j + 1 => wordsL l j ++ [(wordN (l.drop (4 * j)) : Int)]
theorem wordsL_len (l : List Int) : ∀ j, (wordsL l j).length = j
  | 0 => rfl
  | j + 1 => by rw [wordsL, List.length_append, wordsL_len l j]; rfl

end Go.Proofs.YtapledphhfiimaaGreatDoor
/-
  What is put is taken: the plain law; what nobody answers.
-/
namespace Go.Proofs.YtapledphhfiimaaGreatDoor
open Go.RowKit
set_option maxRecDepth 100000
set_option linter.unusedVariables false

theorem strOf_sB' (s : ByteArray) : strOfNums (sB s) = s := by
  have h : (strOfNums (sB s)).data.toList = s.data.toList := by
    rw [strOfNums_data, sB, List.map_map]
    refine (List.map_congr_left (fun b _ => ?_)).trans (List.map_id _)
    show UInt8.ofNat ((b.toNat : Int)).toNat = b
    rw [Int.toNat_natCast]
    exact UInt8.ofNat_toNat
  cases hs : strOfNums (sB s) with | mk d =>
  cases s with | mk e =>
  rw [hs] at h
  have : d = e := by
    have h' : d.toList = e.toList := h
    exact Array.toList_inj.1 h'
  rw [this]
/-- Numbers' bytes. -/
def encL : List Int → List Int
  | [] => []
  | z :: l => wordL z.toNat ++ encL l
theorem encL_len : ∀ l, (encL l).length = 4 * l.length
  | [] => rfl
  | z :: l => by rw [encL, List.length_append, encL_len l, wordL_len, List.length_cons]; omega
def enc (x : Item) : List Int := if x.kind = 0 then wordL x.n.toNat else if x.kind = 1 then wordL (hiN x.n) ++ wordL (loN x.n) else if x.kind = 2 then wordL x.s.size ++ sB x.s else wordL x.l.length ++ encL x.l
def fitI (x : Item) : Prop := (x.kind = 0 → fits x.n) ∧ (x.kind ≠ 0 → x.kind ≠ 1 → x.kind ≠ 2 → ∀ z ∈ x.l, fits z)
theorem pNum_nil {z : Int} {st : St} (h : (pNum z st).2 = .nil) : fits z ∧ st.2 = .nil ∧ (pNum z st).1 = st.1 ++ wordL z.toNat := by
  unfold pNum at h ⊢
  split
  · rw [if_pos ‹_›] at h; exact ⟨‹_›, h, rfl⟩
  · rw [if_neg ‹_›] at h; exact absurd h Err.first2_ne
theorem pNums_nil : ∀ {l : List Int} {st : St}, (pNums l st).2 = .nil → (∀ z ∈ l, fits z) ∧ st.2 = .nil ∧ (pNums l st).1 = st.1 ++ encL l
  | [], st, h => ⟨fun _ h => (by cases h), h, by simp [pNums, encL]⟩
  | z :: l, st, h => by
    rw [pNums] at h ⊢
    obtain ⟨h1, h2, h3⟩ := pNums_nil h
    obtain ⟨h4, h5, h6⟩ := pNum_nil h2
    refine ⟨fun y hy => ?_, h5, by rw [h3, h6, encL, List.append_assoc]⟩
    rcases List.mem_cons.1 hy with rfl | hy
    · exact h4
    · exact h1 y hy
theorem pItem_nil {x : Item} {st : St} (h : (pItem x st).2 = .nil) (hn : near x) : fitI x ∧ st.2 = .nil ∧ (pItem x st).1 = st.1 ++ enc x := by
  obtain ⟨n1, n2, _⟩ := hn
  unfold pItem at h ⊢
  unfold enc fitI
  by_cases e0 : x.kind = 0
  · rw [if_pos e0] at h ⊢
    obtain ⟨h1, h2, h3⟩ := pNum_nil h
    exact ⟨⟨fun _ => h1, fun h => absurd e0 h⟩, h2, by rw [if_pos e0]; exact h3⟩
  · rw [if_neg e0] at h ⊢
    by_cases e1 : x.kind = 1
    · rw [if_pos e1] at h ⊢
      exact ⟨⟨fun h => absurd h e0, fun _ h => absurd e1 h⟩, h, by rw [if_neg e0, if_pos e1, pLong, List.append_assoc]⟩
    · rw [if_neg e1] at h ⊢
      by_cases e2 : x.kind = 2
      · rw [if_pos e2] at h ⊢
        obtain ⟨h1, h2, h3⟩ := pNum_nil (z := x.s.size) (st := st) h
        refine ⟨⟨fun h => absurd h e0, fun _ _ h => absurd e2 h⟩, h2, ?_⟩
        rw [if_neg e0, if_neg e1, if_pos e2, pText, h3, Int.toNat_natCast, List.append_assoc]
      · rw [if_neg e2] at h ⊢
        rw [pList] at h ⊢
        obtain ⟨h1, h2, h3⟩ := pNums_nil h
        obtain ⟨h4, h5, h6⟩ := pNum_nil h2
        exact ⟨⟨fun h => absurd h e0, fun _ _ _ => h1⟩, h5, by rw [if_neg e0, if_neg e1, if_neg e2, h3, h6, Int.toNat_natCast, List.append_assoc]⟩
def encs : List Item → List Int
  | [] => []
  | x :: l => enc x ++ encs l
theorem encs_append : ∀ a b, encs (a ++ b) = encs a ++ encs b
  | [], b => rfl
  | x :: a, b => by rw [List.cons_append, encs, encs_append a b, encs, List.append_assoc]
theorem pItems_nil : ∀ {l : List Item} {st : St}, (pItems l st).2 = .nil → (∀ x ∈ l, near x) → (∀ x ∈ l, fitI x) ∧ st.2 = .nil ∧ (pItems l st).1 = st.1 ++ encs l
  | [], st, h, _ => ⟨fun _ h => (by cases h), h, by simp [pItems, encs]⟩
  | x :: l, st, h, hn => by
    rw [pItems] at h ⊢
    obtain ⟨h1, h2, h3⟩ := pItems_nil h (fun y hy => hn y (List.mem_cons_of_mem _ hy))
    obtain ⟨h4, h5, h6⟩ := pItem_nil h2 (hn x (List.mem_cons_self ..))
    refine ⟨fun y hy => ?_, h5, by rw [h3, h6, encs, List.append_assoc]⟩
    rcases List.mem_cons.1 hy with rfl | hy
    · exact h4
    · exact h1 y hy
theorem encs_drop {xs : List Item} {i : Nat} {x : Item} (h : xs[i]? = some x) : (encs xs).drop (encs (xs.take i)).length = enc x ++ encs (xs.drop (i + 1)) ∧ (encs (xs.take (i + 1))).length = (encs (xs.take i)).length + (enc x).length ∧ (encs (xs.take i)).length + (enc x).length ≤ (encs xs).length := by
  obtain ⟨hi, e⟩ := List.getElem?_eq_some_iff.1 h
  have d : xs = xs.take i ++ x :: xs.drop (i + 1) := by rw [← e, ← List.drop_eq_getElem_cons hi, List.take_append_drop]
  have e1 : encs xs = encs (xs.take i) ++ (enc x ++ encs (xs.drop (i + 1))) := by conv => lhs; rw [d, encs_append, encs]
  refine ⟨by rw [e1, List.drop_left], ?_, by rw [e1, List.length_append, List.length_append]; omega⟩
  rw [List.take_succ_eq_append_getElem hi, e, encs_append, List.length_append, encs, encs, List.append_nil]
theorem fits_cast {z : Int} (h : fits z) : ((z.toNat : Nat) : Int) = z ∧ z.toNat < 4294967296 := by obtain ⟨h1, h2⟩ := h; omega
theorem wordsL_enc : ∀ (k : Nat) (l : List Int) (r : List Int), k ≤ l.length → (∀ z ∈ l, fits z) → wordsL (encL l ++ r) k = l.take k
  | 0, l, r, _, _ => by simp [wordsL]
  | k + 1, l, r, hk, hf => by
    have hkl : k < l.length := by omega
    rw [wordsL, wordsL_enc k l r (by omega) hf, List.take_succ_eq_append_getElem hkl]
    congr 2
    have d : l = l.take k ++ l[k] :: l.drop (k + 1) := by rw [← List.drop_eq_getElem_cons hkl, List.take_append_drop]
    have eapp : ∀ a b : List Int, encL (a ++ b) = encL a ++ encL b := by
      intro a b
      induction a with
      | nil => rfl
      | cons z a ih => rw [List.cons_append, encL, ih, encL, List.append_assoc]
    have hz := fits_cast (hf _ (List.getElem_mem hkl))
    conv => lhs; rw [d, eapp, encL, List.append_assoc, List.append_assoc]
    rw [List.drop_left' (by rw [encL_len, List.length_take]; omega), wordN_of hz.2, hz.1]
theorem long_back (z : Int) (hz : -9223372036854775808 ≤ z ∧ z ≤ 9223372036854775807) (r : List Int) : longZ (wordL (hiN z) ++ wordL (loN z) ++ r) = z := by
  have h1 := hiN_lt z
  have h2 := loN_lt z
  rw [longZ, List.append_assoc, wordN_of h1, List.drop_left' (wordL_len _), wordN_of h2]
  have h3 : ((hiN z * 4294967296 + loN z : Nat) : Int) = z % 18446744073709551616 := by unfold hiN loN; omega
  rw [h3]
  by_cases h0 : 0 ≤ z
  · rw [show z % 18446744073709551616 = z by omega]
    exact IntWalk.wrap64_in _ (by omega)
  · rw [show z % 18446744073709551616 = z + 18446744073709551616 by omega]
    have := IntKind.wrap_i64 (z + 18446744073709551616)
    unfold wrap64
    omega

end Go.Proofs.YtapledphhfiimaaGreatDoor
/-
  An item taken by a living reader (printed by gen_wireo.py).
-/
namespace Go.Proofs.YtapledphhfiimaaGreatDoor
open Go.RowKit
set_option maxRecDepth 100000
set_option linter.unusedVariables false

theorem Asd.blk {g : Nat} {w w' : World} (h : Asd g w w') {k : Nat} {t : TypeId} {cs : Array Value} (hk : Blk w k t cs) (hne : k ≠ g) : Blk w' k t cs := (h.2 k hne hk.lt).trans hk
theorem Sl.off {w : World} {s n : Nat} {A : Option Addr} {xs : List Value} (h : Sl w s A n xs) {b i : Nat} (hb : ∀ x, A = some x → x.block ≠ b) {u : Value} : Sl (w.setCell ⟨b, i, none⟩ u) s A n xs := by
  refine ⟨h.1, fun hn => ?_⟩
  obtain ⟨b0, off, rfl, h2⟩ := h.2 hn
  refine ⟨b0, off, rfl, fun j v hj => ?_⟩
  exact (World.cell?_of_block (w := w) (a := ⟨b0, off + j, none⟩) (Below.heap_setCell w ⟨b, i, none⟩ u b0 (hb _ rfl))).trans (h2 j v hj)

end Go.Proofs.YtapledphhfiimaaGreatDoor
