/-
  Part 15 of the proof of LwProgParts: PermB, WireM, RdL, EncL, PatY, PatV, PatG, PatW, ConP, PatQ.
-/
import Derived.Test.YtapledphhfiimaaGreatDoorLwProgPartsM13
import Derived.Test.YtapledphhfiimaaGreatDoorLwProgPartsM14
import Derived.Test.YtapledphhfiimaaGreatDoorLwProgPartsM2
import Derived.Deep.DeepCutAuto
import Derived.BigQuiet
import Derived.Deep.QuietTactic
import Derived.Test.YtapledphhfiimaaGreatDoorLwProgPartsM4
import Derived.Test.YtapledphhfiimaaGreatDoorLwProgPartsM3
import Derived.Deep.RegionHeld3
/-
  Contracts: perm.Right, perm.Id, perm.with, perm.Put, perm.Back, perm.Then, perm.times; the document's SameInts.
-/
namespace Go.Proofs.YtapledphhfiimaaGreatDoor
open Go.RowKit
set_option maxRecDepth 100000

theorem bits_and_nat (a b : Nat) (ha : a < 2^63) (hb : b < 2^63) : bits .and .i64 a b = ((a &&& b : Nat) : Int) := by
  have h1 : (BitVec.ofInt 64 (a : Int) &&& BitVec.ofInt 64 (b : Int)).toNat = a &&& b := by
    rw [BitVec.toNat_and, BitVec.ofInt_natCast, BitVec.ofInt_natCast, BitVec.toNat_ofNat, BitVec.toNat_ofNat, Nat.mod_eq_of_lt (by omega), Nat.mod_eq_of_lt (by omega)]
  have h2 : a &&& b < 2^63 := Nat.lt_of_le_of_lt Nat.and_le_left ha
  show IntKind.i64.wrap (((BitVec.ofInt 64 (a : Int) &&& BitVec.ofInt 64 (b : Int)).toNat : Nat) : Int) = _
  rw [h1]
  exact IntWalk.i64_in _ (by omega)
theorem bits_or_nat (a b : Nat) (ha : a < 2^63) (hb : b < 2^63) : bits .or .i64 a b = ((a ||| b : Nat) : Int) := by
  have h1 : (BitVec.ofInt 64 (a : Int) ||| BitVec.ofInt 64 (b : Int)).toNat = a ||| b := by
    rw [BitVec.toNat_or, BitVec.ofInt_natCast, BitVec.ofInt_natCast, BitVec.toNat_ofNat, BitVec.toNat_ofNat, Nat.mod_eq_of_lt (by omega), Nat.mod_eq_of_lt (by omega)]
  have h2 : a ||| b < 2^63 := Nat.or_lt_two_pow ha hb
  show IntKind.i64.wrap (((BitVec.ofInt 64 (a : Int) ||| BitVec.ofInt 64 (b : Int)).toNat : Nat) : Int) = _
  rw [h1]
  exact IntWalk.i64_in _ (by omega)
theorem bit_test (m y : Nat) (hm : m < 256) : (bits .and .i64 ((m : Int) / 2 ^ y) 1 == 1) = m.testBit y := by
  have h0 : ((m : Int) / 2 ^ y) = ((m >>> y : Nat) : Int) := by rw [Nat.shiftRight_eq_div_pow]; push_cast; rfl
  have h1 : m >>> y ≤ m := by rw [Nat.shiftRight_eq_div_pow]; exact Nat.div_le_self _ _
  rw [h0, show (1 : Int) = ((1 : Nat) : Int) from rfl, bits_and_nat _ _ (by omega) (by omega), Nat.testBit, Nat.and_comm]
  generalize hq : (1 &&& m >>> y) = q
  have hq2 : q < 2 := by rw [← hq, Nat.one_and_eq_mod_two]; omega
  match q, hq2 with
  | 0, _ => rfl
  | 1, _ => rfl
theorem bit_set (m y : Nat) (hm : m < 256) (hy : y < 8) : bits .or .i64 (m : Int) (wrap64 (2 ^ y)) = ((m ||| 2 ^ y : Nat) : Int) ∧ (m ||| 2 ^ y) < 256 ∧ ∀ x, (m ||| 2 ^ y).testBit x = (m.testBit x || decide (y = x)) := by
  have hp : 2 ^ y < 256 := by
    have : 2 ^ y < 2 ^ 8 := Nat.pow_lt_pow_right (by omega) hy
    omega
  have hw : wrap64 (2 ^ y) = ((2 ^ y : Nat) : Int) := by
    have : ((2 : Int) ^ y) = ((2 ^ y : Nat) : Int) := by push_cast; rfl
    rw [this]
    generalize 2 ^ y = q at hp
    exact IntWalk.wrap64_in (q : Int) (by omega)
  refine ⟨by rw [hw]; exact bits_or_nat _ _ (by omega) (by omega), Nat.or_lt_two_pow (n := 8) hm hp, fun x => ?_⟩
  rw [Nat.testBit_or, Nat.testBit_two_pow]

set_option maxHeartbeats 1000000 in
theorem Right_any (p : List Int) (A : Option Addr) (n c : Nat) (w : World) (hl : p.length = n) (hs : Sl w 1 A n (p.map (Value.int .i64))) :
    Calls Tryz.prog 54 #[.slice A n c] w fun e w' => e = .returned (.bool (decide (Ord p))) ∧ w = w' := by
  go_enter Tryz.func54, Tryz.ntmps54
  by_cases h8 : n ≤ 8
  · go_wp2
    go_loop [3, 11] (fun s i => ∃ k m : Nat, k ≤ n ∧ i = .int .i64 k ∧ s = .int .i64 m ∧ m < 256 ∧ (∀ x : Nat, x < 8 → m.testBit x = decide ((x : Int) ∈ p.take k)) ∧ (p.take k).Nodup ∧ ∀ x ∈ p.take k, 0 ≤ x ∧ x < n) (fun _ i => n - (intOf i).toNat)
    case atStart => exact ⟨0, 0, Nat.zero_le _, rfl, rfl, by omega, by simp, by simp, by simp⟩
    case round =>
      obtain ⟨k, m, hk, rfl, rfl, hm, hb, hnd, hr⟩ := hrel
      by_cases hlt : k < n
      · have hj : k < p.length := by omega
        obtain ⟨b, off, u, rfl, e1, c1⟩ := hs.one hlt
        rw [List.getElem?_map, List.getElem?_eq_getElem hj] at e1
        obtain rfl := Option.some.inj e1
        have HM := Lib.hid (List.getElem_mem hj)
        have HT := Lib.hid (List.take_succ_eq_append_getElem hj)
        generalize p[k] = x at *
        clear e1
        by_cases hx0 : x < 0
        · go_wp2
          go_ret
          exact ⟨ret_bool (decide_eq_false (fun h : Ord p => by have := h.2.1 x HM.out; omega)).symm, rfl⟩
        · by_cases hx1 : x < n
          · obtain ⟨y, rfl⟩ := Int.eq_ofNat_of_zero_le (by omega : 0 ≤ x)
            have hy := hb y (by omega)
            have HB := Lib.hid hb
            have HR := Lib.hid hr
            have HN := Lib.hid hnd
            have hbt := bit_test m y hm
            have HS := Lib.hid (bit_set m y hm (by omega))
            rw [hy] at hbt
            clear hb hr hnd hy
            by_cases hmem : (y : Int) ∈ p.take k
            · rw [decide_eq_true hmem] at hbt
              go_wp2
              go_ret
              refine ⟨ret_bool (decide_eq_false (fun h : Ord p => ?_)).symm, rfl⟩
              have h1 := HT.out ▸ (h.2.2.sublist (List.take_sublist (k + 1) p))
              rw [List.nodup_append] at h1
              exact h1.2.2 _ hmem _ (List.mem_singleton.2 rfl) rfl
            · rw [decide_eq_false hmem] at hbt
              go_wp2
              go_round
              case rel =>
                refine ⟨k + 1, _, by omega, by go_num, congrArg _ HS.out.1, HS.out.2.1, fun x hx => ?_, ?_, ?_⟩
                · rw [HS.out.2.2, HB.out x hx, HT.out]
                  simp only [List.mem_append, List.mem_singleton]
                  by_cases hxy : y = x
                  · subst hxy; simp
                  · have : ¬ (x : Int) = y := by omega
                    simp [hxy, this]
                · rw [HT.out, List.nodup_append]
                  exact ⟨HN.out, by simp, fun a ha b hb e => hmem (by rw [List.mem_singleton.1 hb] at e; exact e ▸ ha)⟩
                · intro x hx
                  rw [HT.out] at hx
                  rcases List.mem_append.1 hx with h | h
                  · exact HR.out x h
                  · rw [List.mem_singleton.1 h]; omega
              case measure => simp [intOf]; omega
          · go_wp2
            go_ret
            exact ⟨ret_bool (decide_eq_false (fun h : Ord p => by have := h.2.1 x HM.out; omega)).symm, rfl⟩
      · obtain rfl : k = n := by omega
        rw [List.take_of_length_le (by omega)] at hnd hr
        have HO := Lib.hid (show Ord p from ⟨by omega, by rw [hl]; exact hr, hnd⟩)
        clear hnd hr hb
        go_wp2
        go_ret
        exact ⟨ret_bool (decide_eq_true HO.out).symm, rfl⟩
  · go_wp2
    go_ret
    exact ⟨ret_bool (decide_eq_false (fun h : Ord p => h8 (by have := h.1; omega))).symm, rfl⟩

set_option maxHeartbeats 1000000 in
theorem Id_any (n : Nat) (w : World) (hn : n ≤ 8) :
    Calls Tryz.prog 25 #[.int .i64 n] w fun e w' => ∃ v, e = .returned v ∧ w'.ownsRow w.heap.size 3 1 v n ((ids n).map (Value.int .i64)) ∧ Below w.heap.size w w' := by
  go_enter Tryz.func25, Tryz.ntmps25
  go_wp2
  go_loopw [3, 4] (fun v i wr => ∃ k : Nat, k ≤ n ∧ i = .int .i64 k ∧ wr.ownsRow w.heap.size 3 1 v k ((ids k).map (Value.int .i64)) ∧ Below w.heap.size w wr) (fun _ i _ => n - (intOf i).toNat)
  case atStart => exact ⟨0, Nat.zero_le _, rfl, World.ownsRow_nil _ _ _ _, Below.refl _ _⟩
  case round =>
    obtain ⟨k, hk, rfl, hown, hb⟩ := hrel
    by_cases hlt : k < n
    · go_wp2_with (at_builtin; refine wpList_push elemInt _ _ rfl rfl hown hb (Nat.le_refl _) rfl rfl rfl (by simp [Value.oneCell']) (by unfold lim; omega) (by unfold lim; omega) ?_; intro v' w5 hown1 hb5)
      go_roundw
      case rel => exact ⟨k + 1, by omega, by go_num, by rw [ids_succ, List.map_append]; exact hown1, hb5⟩
      case measure => simp [intOf]; omega
    · obtain rfl : k = n := by omega
      go_wp2
      go_ret
      exact ⟨_, rfl, hown, hb⟩
theorem Id_big (n : Int) (w : World) (hn : 8 < n) : Calls Tryz.prog 25 #[.int .i64 n] w fun e w' => e = .returned (.slice none 0 0) ∧ w = w' := by
  go_enter Tryz.func25, Tryz.ntmps25
  go_wp2
  go_ret
  exact ⟨rfl, rfl⟩

def order : ByteArray := ⟨#[111, 114, 100, 101, 114]⟩
theorem wrong_any (a : Int) (w : World) : Calls Tryz.prog 52 #[.int .i64 a] w fun e w' => ∃ v, e = .returned v ∧ (Err.flt 1 a order).At w' v ∧ Below w.heap.size w w' := by
  go_enter Tryz.func52, Tryz.ntmps52
  go_wp2_with fail
  refine (New_err 1 a order w).mono ?_
  rintro e w1 ⟨v, rfl, hv, hb⟩
  go_wp2_with fail
  go_ret
  exact ⟨_, rfl, hv, hb⟩

def putE (p l : List Int) : Err := if Ord p then if p.length = l.length then .nil else .flt 1 1 order else .flt 1 0 order
set_option maxHeartbeats 1000000 in
theorem with_any (p l : List Int) (A B : Option Addr) (n m c d : Nat) (w : World) (hl : p.length = n) (hm : l.length = m) (hs : Sl w 1 A n (p.map (Value.int .i64))) :
    Calls Tryz.prog 81 #[.slice A n c, .slice B m d] w fun e w' => ∃ v, e = .returned v ∧ (putE p l).At w' v ∧ Below w.heap.size w w' := by
  go_enter Tryz.func81, Tryz.ntmps81
  by_cases hO : Ord p
  · have HR := Lib.hid (Right_any p A n c w hl hs)
    rw [decide_eq_true hO] at HR
    have HO := Lib.hid hO
    clear hO hs
    go_wp2_with fail
    refine HR.out.mono ?_
    rintro e w1 ⟨rfl, rfl⟩
    by_cases hnm : n = m
    · subst hnm
      go_wp2_with fail
      go_ret
      exact ⟨_, rfl, by rw [putE, if_pos HO.out, if_pos (hl.trans hm.symm)]; exact rfl, Below.refl _ _⟩
    · have hb1 : ((n : Int) == (m : Int)) = false := by simp; omega
      go_wp2_with fail
      refine (wrong_any 1 w).mono ?_
      rintro e w2 ⟨v, rfl, hv, hb⟩
      go_wp2_with fail
      go_ret
      exact ⟨_, rfl, by rw [putE, if_pos HO.out, if_neg (fun h => hnm (by rw [← hl, ← hm, h]))]; exact hv, hb⟩
  · have HR := Lib.hid (Right_any p A n c w hl hs)
    rw [decide_eq_false hO] at HR
    have HO := Lib.hid hO
    clear hO hs
    go_wp2_with fail
    refine HR.out.mono ?_
    rintro e w1 ⟨rfl, rfl⟩
    go_wp2_with fail
    refine (wrong_any 0 w).mono ?_
    rintro e w2 ⟨v, rfl, hv, hb⟩
    go_wp2_with fail
    go_ret
    exact ⟨_, rfl, by rw [putE, if_neg HO.out]; exact hv, hb⟩

set_option maxHeartbeats 1000000 in
theorem times_any (n : Nat) (w : World) (hn : n ≤ 8) : Calls Tryz.prog 51 #[.int .i64 n] w fun e w' => e = .returned (.int .i64 (fac n)) ∧ w = w' := by
  go_enter Tryz.func51, Tryz.ntmps51
  go_wp2
  go_loop [3, 4] (fun f i => ∃ k : Nat, k ≤ max n 1 ∧ 1 ≤ k ∧ i = .int .i64 (k + 1) ∧ f = .int .i64 (fac k)) (fun _ i => n + 1 - (intOf i).toNat)
  case atStart => exact ⟨1, by omega, by omega, rfl, rfl⟩
  case round =>
    obtain ⟨k, hk, hk1, rfl, rfl⟩ := hrel
    by_cases hlt : k + 1 ≤ n
    · have hf := fac_le (n := k) (by omega)
      have hf2 := fac_le (n := k + 1) (by omega)
      have hm : ((fac k : Nat) : Int) * ((k : Int) + 1) = (fac (k + 1) : Nat) := by rw [fac]; push_cast; rw [Int.mul_comm]
      have hw : IntKind.i64.wrap (((fac k : Nat) : Int) * ((k : Int) + 1)) = (fac (k + 1) : Nat) := by
        rw [hm]
        generalize fac (k + 1) = q at *
        exact IntWalk.i64_in _ (by omega)
      clear hm
      have HF := Lib.hid (show (fac (k + 1) : Int) = (fac (k + 1) : Int) from rfl)
      generalize hq : fac (k + 1) = q at hw hf2 HF
      go_wp2
      go_round
      case rel => exact ⟨k + 1, by omega, by omega, by go_num, by rw [hq]⟩
      case measure => simp [intOf]; omega
    · have hz : fac k = fac n := by
        by_cases h1 : k = n
        · rw [h1]
        · obtain rfl : k = 1 := by omega
          obtain rfl : n = 0 := by omega
          rfl
      have HZ := Lib.hid hz
      clear hz
      generalize fac k = q at *
      go_wp2
      go_ret
      exact ⟨ret_int (congrArg _ HZ.out), rfl⟩
end Go.Proofs.YtapledphhfiimaaGreatDoor
/-
  Contracts of wire.Reader where the bytes suffice: List.
-/
namespace Go.Proofs.YtapledphhfiimaaGreatDoor
open Go.RowKit
set_option maxRecDepth 100000
set_option linter.unusedVariables false

/-- So many words. -/
def wordsL (l : List Int) : Nat → List Int
  | 0 => []
  | j + 1 => wordsL l j ++ [(wordN (l.drop (4 * j)) : Int)]
theorem wordsL_len (l : List Int) : ∀ j, (wordsL l j).length = j
  | 0 => rfl
  | j + 1 => by rw [wordsL, List.length_append, wordsL_len l j]; rfl

end Go.Proofs.YtapledphhfiimaaGreatDoor
/-
  Contracts of wire.Reader: List, of any length, and where it fails.
-/
namespace Go.Proofs.YtapledphhfiimaaGreatDoor
open Go.RowKit
set_option maxRecDepth 100000
set_option linter.unusedVariables false

/-- An error of a reader. -/
def rdBad (E : Err) : Prop := ∃ a s, E = .flt 9 a s ∨ E = .flt 6 a s
theorem rdBad.ne {E : Err} (h : rdBad E) : E ≠ .nil := by
  obtain ⟨a, s, rfl | rfl⟩ := h <;> exact fun e => by cases e
/-- Is there a list at a place, of at most so many numbers? -/
def okAt (l : List Int) (a most : Nat) : Prop := a + 4 ≤ l.length ∧ wordN (l.drop a) ≤ most ∧ a + 4 + 4 * wordN (l.drop a) ≤ l.length
end Go.Proofs.YtapledphhfiimaaGreatDoor
/-
  Lists in bytes, plainly: there and back.
-/
namespace Go.Proofs.YtapledphhfiimaaGreatDoor
open Go.RowKit
set_option linter.unusedVariables false

/-- A list at a place of bytes, and the place behind it. -/
def lst (l : List Int) (a : Nat) : List Int := wordsL (l.drop (a + 4)) (wordN (l.drop a))
def nxtA (l : List Int) (a : Nat) : Nat := a + 4 + 4 * wordN (l.drop a)
theorem words_take {l : List Int} (hb : Bys l) : ∀ j, 4 * j ≤ l.length → ((wordsL l j).flatMap fun x => wordL x.toNat) = l.take (4 * j)
  | 0, _ => by simp [wordsL]
  | j + 1, h => by
    rw [wordsL, List.flatMap_append, words_take hb j (by omega)]
    have e : ([((wordN (l.drop (4 * j)) : Nat) : Int)].flatMap fun x => wordL x.toNat) = (l.drop (4 * j)).take 4 := by
      rw [← wordL_of (hb.drop _) (by rw [List.length_drop]; omega)]
      simp
    rw [e, show 4 * (j + 1) = 4 * j + 4 by omega, List.take_add]
theorem enc_lst {l : List Int} (hb : Bys l) {a m : Nat} (h : okAt l a m) : l.take (nxtA l a) = l.take a ++ encW (lst l a) := by
  obtain ⟨h1, h2, h3⟩ := h
  unfold nxtA encW lst
  have hl : (wordsL (l.drop (a + 4)) (wordN (l.drop a))).length = wordN (l.drop a) := wordsL_len _ _
  rw [hl, words_take (hb.drop _) _ (by rw [List.length_drop]; omega), wordL_of (hb.drop a) (by rw [List.length_drop]; omega), Nat.add_assoc, List.take_add, List.take_add, List.drop_drop]
theorem nxtA_le {l : List Int} {a m : Nat} (h : okAt l a m) : nxtA l a ≤ l.length := h.2.2
theorem lst_len {l : List Int} {a m : Nat} (h : okAt l a m) : (lst l a).length ≤ m := by unfold lst; rw [wordsL_len]; exact h.2.1
theorem words_flat {xs : List Int} (hf : ∀ x ∈ xs, fits x) (rest : List Int) : ∀ j, j ≤ xs.length → wordsL ((xs.flatMap fun x => wordL x.toNat) ++ rest) j = xs.take j
  | 0, _ => by simp [wordsL]
  | j + 1, h => by
    have hj : j < xs.length := by omega
    rw [wordsL, words_flat hf rest j (by omega), List.take_succ_eq_append_getElem hj]
    congr 1
    have hx := hf _ (List.getElem_mem hj)
    have e : ((xs.flatMap fun x => wordL x.toNat) ++ rest).drop (4 * j) = wordL xs[j].toNat ++ (((xs.drop (j + 1)).flatMap fun x => wordL x.toNat) ++ rest) := by
      have e1 : xs.flatMap (fun x => wordL x.toNat) = ((xs.take j).flatMap fun x => wordL x.toNat) ++ (wordL xs[j].toNat ++ (xs.drop (j + 1)).flatMap fun x => wordL x.toNat) := by
        conv => lhs; rw [← List.take_append_drop j xs, List.drop_eq_getElem_cons hj]
        rw [List.flatMap_append, List.flatMap_cons]
      have e2 : ((xs.take j).flatMap fun x => wordL x.toNat).length = 4 * j := by rw [encF_len, List.length_take]; omega
      rw [e1, List.append_assoc, ← e2, List.drop_left, List.append_assoc]
    rw [e, wordN_of (by have := hx.1; have := hx.2; omega)]
    have := hx.1
    congr 1
    omega
theorem lst_enc {xs : List Int} (hf : ∀ x ∈ xs, fits x) (hn : xs.length < 4294967296) (pre rest : List Int) {l : List Int} (hl : l = pre ++ (encW xs ++ rest)) : wordN (l.drop pre.length) = xs.length ∧ lst l pre.length = xs ∧ nxtA l pre.length = (pre ++ encW xs).length := by
  have e1 : l.drop pre.length = wordL xs.length ++ ((xs.flatMap fun x => wordL x.toNat) ++ rest) := by rw [hl, List.drop_left, encW, List.append_assoc]
  have e2 : wordN (l.drop pre.length) = xs.length := by rw [e1, wordN_of hn]
  have e3 : l.drop (pre.length + 4) = (xs.flatMap fun x => wordL x.toNat) ++ rest := by
    rw [← List.drop_drop, e1]
    exact List.drop_left (l₁ := wordL xs.length)
  refine ⟨e2, ?_, ?_⟩
  · unfold lst
    rw [e2, e3, words_flat hf rest _ (Nat.le_refl _), List.take_of_length_le (Nat.le_refl _)]
  · unfold nxtA
    rw [e2, List.length_append, encW_len]
    omega
theorem ok_enc {xs : List Int} (hf : ∀ x ∈ xs, fits x) {m : Nat} (hm : xs.length ≤ m) (h32 : m < 4294967296) (pre rest : List Int) {l : List Int} (hl : l = pre ++ (encW xs ++ rest)) : okAt l pre.length m := by
  obtain ⟨h1, _, _⟩ := lst_enc hf (by omega) pre rest hl
  have h2 : l.length = pre.length + (4 + 4 * xs.length + rest.length) := by rw [hl, List.length_append, List.length_append, encW_len]
  unfold okAt
  omega
end Go.Proofs.YtapledphhfiimaaGreatDoor
/-
  A pattern's bytes.
-/
namespace Go.Proofs.YtapledphhfiimaaGreatDoor
open Go.RowKit
set_option maxRecDepth 100000
set_option linter.unusedVariables false

def endsL (E : List (Int × Int)) : List Int := E.flatMap fun e => [e.1, e.2]
theorem endsL_len (E : List (Int × Int)) : (endsL E).length = 2 * E.length := by
  unfold endsL
  induction E with
  | nil => rfl
  | cons e E ih => rw [List.flatMap_cons, List.length_append, ih, List.length_cons]; simp; omega
theorem endsL_snoc (E : List (Int × Int)) (e : Int × Int) : endsL (E ++ [e]) = endsL E ++ [e.1, e.2] := by unfold endsL; rw [List.flatMap_append]; rfl
/-- A pattern in bytes. -/
def bytesP (L : List Int) (E : List (Int × Int)) : List Int := encW L ++ encW (endsL E)

end Go.Proofs.YtapledphhfiimaaGreatDoor
/-
  A pattern's bytes plainly: there and back.
-/
namespace Go.Proofs.YtapledphhfiimaaGreatDoor
open Go.RowKit
set_option linter.unusedVariables false

/-- Numbers by twos. -/
def pairsL : List Int → List (Int × Int)
  | a :: b :: r => (a, b) :: pairsL r
  | _ => []
theorem ends_pairs : ∀ (l : List Int), l.length % 2 = 0 → endsL (pairsL l) = l
  | [], _ => rfl
  | [_], h => by simp at h
  | a :: b :: r, h => by
    have e : endsL (pairsL (a :: b :: r)) = a :: b :: endsL (pairsL r) := rfl
    rw [e, ends_pairs r (by simp only [List.length_cons] at h; omega)]
theorem pairs_ends : ∀ (E : List (Int × Int)), pairsL (endsL E) = E
  | [] => rfl
  | e :: E => by
    have h : endsL (e :: E) = e.1 :: e.2 :: endsL E := rfl
    rw [h, pairsL, pairs_ends E]
theorem pairs_len : ∀ (l : List Int), (pairsL l).length = l.length / 2
  | [] => rfl
  | [_] => by simp [pairsL]
  | a :: b :: r => by
    rw [pairsL, List.length_cons, pairs_len r, List.length_cons, List.length_cons]
    omega
/-- What has been read is the bytes. -/
theorem bytesP_read {l : List Int} (hb : Bys l) {m : Nat} (h1 : okAt l 0 m) (h2 : okAt l (nxtA l 0) m) (he : nxtA l (nxtA l 0) = l.length) (hev : (lst l (nxtA l 0)).length % 2 = 0) : bytesP (lst l 0) (pairsL (lst l (nxtA l 0))) = l := by
  have e1 := enc_lst hb h1
  have e2 := enc_lst hb h2
  rw [he, List.take_of_length_le (Nat.le_refl _), e1, List.take_zero, List.nil_append] at e2
  unfold bytesP
  rw [ends_pairs _ hev]
  exact e2.symm
/-- The bytes of a pattern are read as it. -/
theorem bytesP_back {L : List Int} {E : List (Int × Int)} {l : List Int} (hl : l = bytesP L E) (hL : ∀ x ∈ L, fits x) (hE : ∀ e ∈ E, fits e.1 ∧ fits e.2) (hn : L.length ≤ 100000) (hm : E.length ≤ 100000) :
    okAt l 0 l.length ∧ lst l 0 = L ∧ okAt l (nxtA l 0) l.length ∧ lst l (nxtA l 0) = endsL E ∧ nxtA l (nxtA l 0) = l.length := by
  have hef : ∀ z ∈ endsL E, fits z := fun z hz => by
    obtain ⟨e, he, h⟩ := List.mem_flatMap.1 hz
    rcases List.mem_cons.1 h with rfl | h
    · exact (hE e he).1
    · rw [List.mem_singleton.1 h]
      exact (hE e he).2
  have hel : (endsL E).length = 2 * E.length := endsL_len E
  have hlen : l.length = (4 + 4 * L.length) + (4 + 4 * (2 * E.length)) := by rw [hl, bytesP, List.length_append, encW_len, encW_len, hel]
  have r1 : l = [] ++ (encW L ++ encW (endsL E)) := by rw [hl, List.nil_append]; rfl
  have r2 : l = encW L ++ (encW (endsL E) ++ []) := by rw [hl, List.append_nil]; rfl
  obtain ⟨a1, a2, a3⟩ := lst_enc hL (by omega) [] _ r1
  have o1 := ok_enc hL (m := l.length) (by omega) (by omega) [] _ r1
  rw [List.nil_append] at a3
  have b0 : nxtA l 0 = (encW L).length := a3
  obtain ⟨b1, b2, b3⟩ := lst_enc hef (by omega) (encW L) _ r2
  have o2 := ok_enc hef (m := l.length) (by omega) (by omega) (encW L) _ r2
  rw [← b0] at b2 b3 o2
  exact ⟨o1, a2, o2, b2, by rw [b3, List.length_append, encW_len, encW_len, hel, hlen]⟩
end Go.Proofs.YtapledphhfiimaaGreatDoor
/-
  The document's labels, out, less of patterns.
-/
namespace Go.Proofs.YtapledphhfiimaaGreatDoor
open Go.RowKit
set_option maxRecDepth 100000
set_option linter.unusedVariables false

/-- The document's out: a vertex that there isn't. -/
def outP (x y n : Int) : Prop := x < 0 ∨ y < 0 ∨ n ≤ x ∨ n ≤ y
instance (x y n : Int) : Decidable (outP x y n) := by unfold outP; exact inferInstance
/-- The document's less. -/
def lessP (x y x' y' : Int) : Prop := x < x' ∨ (x = x' ∧ y < y')
instance (x y x' y' : Int) : Decidable (lessP x y x' y') := by unfold lessP; exact inferInstance
end Go.Proofs.YtapledphhfiimaaGreatDoor
/-
  Patterns plainly: the document's tests of an edge and the program's.
-/
namespace Go.Proofs.YtapledphhfiimaaGreatDoor
open Go.RowKit
set_option linter.unusedVariables false

theorem ordE_less (a b c d : Int) : Pt.ordE (a, b) (c, d) < 0 ↔ lessP a b c d := by
  unfold Pt.ordE Pt.or2 Pt.cmpI lessP
  simp only
  by_cases h1 : a < c
  · simp [h1]
  · by_cases h2 : c < a
    · simp [h1, h2]
      omega
    · have h3 : a = c := by omega
      by_cases h4 : b < d
      · simp [h1, h2, h3, h4]
      · by_cases h5 : d < b
        · simp [h1, h2, h3, h4, h5]
        · simp [h1, h2, h3, h4, h5]
theorem edge_out (n : Nat) (x y : Int) : Pt.EdgeOK n (x, y) ↔ ¬ outP x y n ∧ x < y := by
  unfold Pt.EdgeOK outP
  simp only
  omega
end Go.Proofs.YtapledphhfiimaaGreatDoor
/-
  Connectedness plainly: what can be come to from the first vertex; breadth first, and by bit masks.
-/
namespace Go.Proofs.YtapledphhfiimaaGreatDoor
open Go.RowKit
set_option linter.unusedVariables false

/-- What can be come to from vertex 0. -/
inductive Rch (E : List (Int × Int)) : Int → Prop
  | zero : Rch E 0
  | fwd {a b : Int} : (a, b) ∈ E → Rch E a → Rch E b
  | bwd {a b : Int} : (a, b) ∈ E → Rch E b → Rch E a
def AdjE (E : List (Int × Int)) (a b : Int) : Prop := (a, b) ∈ E ∨ (b, a) ∈ E
instance (E : List (Int × Int)) (a b : Int) : Decidable (AdjE E a b) := by unfold AdjE; exact inferInstance
theorem Rch.adj {E : List (Int × Int)} {a b : Int} (h : Rch E a) (k : AdjE E a b) : Rch E b := by
  rcases k with k | k
  · exact .fwd k h
  · exact .bwd k h
def allR (n : Nat) (E : List (Int × Int)) : Prop := ∀ v : Nat, v < n → Rch E (v : Int)
/-- A pattern is connected. -/
def connP (L : List Int) (E : List (Int × Int)) : Prop := rightP L E ∧ 0 < L.length ∧ allR L.length E
theorem sub_lenP {α : Type} : ∀ (a b : List α), a.Nodup → (∀ x ∈ a, x ∈ b) → a.length ≤ b.length
  | [], _, _, _ => Nat.zero_le _
  | x :: a, b, hn, hs => by
    obtain ⟨s, t, rfl⟩ := List.append_of_mem (hs x (List.mem_cons_self ..))
    have h1 := List.nodup_cons.1 hn
    have h2 := sub_lenP a (s ++ t) h1.2 fun y hy => by
      have h3 := hs y (List.mem_cons_of_mem _ hy)
      rcases List.mem_append.1 h3 with h | h
      · exact List.mem_append.2 (.inl h)
      · rcases List.mem_cons.1 h with h | h
        · subst h; exact absurd hy h1.1
        · exact List.mem_append.2 (.inr h)
    simp only [List.length_append, List.length_cons] at h2 ⊢
    omega
/-- Numbers below n. -/
def uptoN (n : Nat) : List Int := (List.range n).map fun i : Nat => (i : Int)
theorem uptoN_len (n : Nat) : (uptoN n).length = n := by unfold uptoN; simp
theorem uptoN_mem {n : Nat} {x : Int} : x ∈ uptoN n ↔ 0 ≤ x ∧ x < n := by
  unfold uptoN
  rw [List.mem_map]
  constructor
  · rintro ⟨i, hi, rfl⟩
    have := List.mem_range.1 hi
    omega
  · intro h
    exact ⟨x.toNat, List.mem_range.2 (by omega), by omega⟩
theorem uptoN_nodup (n : Nat) : (uptoN n).Nodup := by
  unfold uptoN
  refine List.Pairwise.map (R := fun a b => a ≠ b) _ (fun a b h e => h (by omega)) List.nodup_range
/-- What has been seen so far, breadth first: i of it have been looked at, and of the next one what stands below v. -/
structure Bfs (n : Nat) (E : List (Int × Int)) (S : List Int) (i v : Nat) : Prop where
  nd : S.Nodup
  z : (0 : Int) ∈ S
  inn : ∀ x ∈ S, 0 ≤ x ∧ x < n ∧ Rch E x
  le : i ≤ S.length
  done : ∀ k x, k < i → S[k]? = some x → ∀ u : Nat, u < n → AdjE E x u → (u : Int) ∈ S
  part : ∀ x, S[i]? = some x → ∀ u : Nat, u < v → AdjE E x u → (u : Int) ∈ S
section
variable {n i v : Nat} {E : List (Int × Int)} {S : List Int}
theorem Bfs.start (hn : 0 < n) : Bfs n E [0] 0 0 :=
  ⟨by simp, by simp, fun x hx => by obtain rfl := List.mem_singleton.1 hx; exact ⟨by omega, by omega, .zero⟩, Nat.zero_le _, fun k x h => by omega, fun x _ u h => by omega⟩
theorem Bfs.len (h : Bfs n E S i v) : S.length ≤ n := by
  have := sub_lenP S (uptoN n) h.nd fun x hx => uptoN_mem.2 ⟨(h.inn x hx).1, (h.inn x hx).2.1⟩
  rwa [uptoN_len] at this
theorem Bfs.skip (h : Bfs n E S i v) {x : Int} (hx : S[i]? = some x) (hs : AdjE E x v → (v : Int) ∈ S) : Bfs n E S i (v + 1) :=
  ⟨h.nd, h.z, h.inn, h.le, h.done, fun y hy u hu ha => by
    rw [hx] at hy; cases hy
    by_cases hv : u < v
    · exact h.part x hx u hv ha
    · obtain rfl : u = v := by omega
      exact hs ha⟩
theorem Bfs.take (h : Bfs n E S i v) {x : Int} (hx : S[i]? = some x) (ha : AdjE E x v) (hv : v < n) (hn : ¬ (v : Int) ∈ S) : Bfs n E (S ++ [(v : Int)]) i (v + 1) := by
  have hi := (List.getElem?_eq_some_iff.1 hx).1
  have hap : ∀ k, k < S.length → (S ++ [(v : Int)])[k]? = S[k]? := fun k hk => List.getElem?_append_left hk
  refine ⟨?_, List.mem_append.2 (.inl h.z), fun y hy => ?_, by rw [List.length_append]; have := h.le; omega, fun k y hk hy u hu hau => ?_, fun y hy u hu hau => ?_⟩
  · rw [List.nodup_append]
    exact ⟨h.nd, by simp, fun a ha b hb e => by obtain rfl := List.mem_singleton.1 hb; subst e; exact hn ha⟩
  · rcases List.mem_append.1 hy with hy | hy
    · exact h.inn y hy
    · obtain rfl := List.mem_singleton.1 hy
      exact ⟨by omega, by omega, (h.inn x (List.mem_of_getElem? hx)).2.2.adj ha⟩
  · rw [hap k (by have := h.le; omega)] at hy
    exact List.mem_append.2 (.inl (h.done k y hk hy u hu hau))
  · rw [hap i hi, hx] at hy; cases hy
    by_cases hv2 : u < v
    · exact List.mem_append.2 (.inl (h.part x hx u hv2 hau))
    · obtain rfl : u = v := by omega
      exact List.mem_append.2 (.inr (List.mem_singleton.2 rfl))
theorem Bfs.next (h : Bfs n E S i n) (hi : i < S.length) : Bfs n E S (i + 1) 0 :=
  ⟨h.nd, h.z, h.inn, hi, fun k y hk hy u hu ha => by
    by_cases hk2 : k < i
    · exact h.done k y hk2 hy u hu ha
    · obtain rfl : k = i := by omega
      exact h.part y hy u hu ha, fun x _ u h => by omega⟩
theorem Bfs.all (h : Bfs n E S S.length 0) (hE : ∀ e ∈ E, 0 ≤ e.1 ∧ e.1 < n ∧ 0 ≤ e.2 ∧ e.2 < n) : S.length = n ↔ allR n E := by
  have hcl : ∀ x, Rch E x → x ∈ S := fun x hx => by
    have step : ∀ a b, a ∈ S → AdjE E a b → 0 ≤ b → b < n → b ∈ S := fun a b ha hab h0 h1 => by
      obtain ⟨k, hk, hk2⟩ := List.mem_iff_getElem.1 ha
      have := h.done k a hk (by rw [List.getElem?_eq_getElem hk, hk2]) b.toNat (by omega) (by rw [Int.toNat_of_nonneg h0]; exact hab)
      rwa [Int.toNat_of_nonneg h0] at this
    induction hx with
    | zero => exact h.z
    | fwd he _ ih => exact step _ _ ih (.inl he) (hE _ he).2.2.1 (hE _ he).2.2.2
    | bwd he _ ih => exact step _ _ ih (.inr he) (hE _ he).1 (hE _ he).2.1
  constructor
  · intro hl u hu
    refine Classical.byContradiction fun hno => ?_
    have hnm : ¬ (u : Int) ∈ S := fun hm => hno (h.inn _ hm).2.2
    have := sub_lenP ((u : Int) :: S) (uptoN n) (List.nodup_cons.2 ⟨hnm, h.nd⟩) fun x hx => by
      rcases List.mem_cons.1 hx with rfl | hx
      · exact uptoN_mem.2 ⟨by omega, by omega⟩
      · exact uptoN_mem.2 ⟨(h.inn x hx).1, (h.inn x hx).2.1⟩
    rw [uptoN_len, List.length_cons] at this
    omega
  · intro ha
    have h1 := h.len
    have h2 := sub_lenP (uptoN n) S (uptoN_nodup n) fun x hx => hcl x (by
      have := uptoN_mem.1 hx
      have h3 := ha x.toNat (by omega)
      rwa [Int.toNat_of_nonneg this.1] at h3)
    rw [uptoN_len] at h2
    omega
end

/-- One edge, by bit masks. -/
def stepM (s : Nat) (e : Int × Int) : Nat := if s.testBit e.1.toNat || s.testBit e.2.toNat then s ||| (1 <<< e.1.toNat ||| 1 <<< e.2.toNat) else s
def passM (E : List (Int × Int)) (s : Nat) : Nat := E.foldl stepM s
def iterM (E : List (Int × Int)) : Nat → Nat
  | 0 => 1
  | k + 1 => passM E (iterM E k)
theorem bit_one (a i : Nat) : (1 <<< a).testBit i = decide (i = a) := by
  rw [Nat.one_shiftLeft, Nat.testBit_two_pow]
  exact decide_eq_decide.2 ⟨fun h => h.symm, fun h => h.symm⟩
theorem stepM_bit (s : Nat) (e : Int × Int) (i : Nat) : (stepM s e).testBit i = (s.testBit i || ((s.testBit e.1.toNat || s.testBit e.2.toNat) && (decide (i = e.1.toNat) || decide (i = e.2.toNat)))) := by
  unfold stepM
  split
  · rename_i h
    rw [Nat.testBit_or, Nat.testBit_or, bit_one, bit_one, h, Bool.true_and]
  · rename_i h
    rw [Bool.not_eq_true] at h
    rw [h, Bool.false_and, Bool.or_false]
theorem stepM_mono {s : Nat} {e : Int × Int} {i : Nat} (h : s.testBit i = true) : (stepM s e).testBit i = true := by rw [stepM_bit, h, Bool.true_or]
theorem passM_mono {i : Nat} : ∀ (E : List (Int × Int)) {s : Nat}, s.testBit i = true → (passM E s).testBit i = true
  | [], _, h => h
  | e :: E, _, h => passM_mono E (stepM_mono h)
theorem stepM_lt {n s : Nat} {e : Int × Int} (hs : s < 2 ^ n) (h1 : e.1.toNat < n) (h2 : e.2.toNat < n) : stepM s e < 2 ^ n := by
  unfold stepM
  split
  · refine Nat.or_lt_two_pow hs (Nat.or_lt_two_pow ?_ ?_)
    · rw [Nat.one_shiftLeft]; exact Nat.pow_lt_pow_right (by omega) h1
    · rw [Nat.one_shiftLeft]; exact Nat.pow_lt_pow_right (by omega) h2
  · exact hs
theorem passM_lt {n : Nat} : ∀ (E : List (Int × Int)) {s : Nat}, s < 2 ^ n → (∀ e ∈ E, e.1.toNat < n ∧ e.2.toNat < n) → passM E s < 2 ^ n
  | [], _, h, _ => h
  | e :: E, _, h, hE => passM_lt E (stepM_lt h (hE e (List.mem_cons_self ..)).1 (hE e (List.mem_cons_self ..)).2) fun x hx => hE x (List.mem_cons_of_mem _ hx)
theorem passM_snd {E0 : List (Int × Int)} (h0 : ∀ e ∈ E0, 0 ≤ e.1 ∧ 0 ≤ e.2) : ∀ (E : List (Int × Int)) {s : Nat}, (∀ e ∈ E, e ∈ E0) → (∀ i, s.testBit i = true → Rch E0 (i : Int)) → ∀ i, (passM E s).testBit i = true → Rch E0 (i : Int)
  | [], _, _, h => h
  | e :: E, s, hE, h => passM_snd h0 E (fun x hx => hE x (List.mem_cons_of_mem _ hx)) fun i hi => by
    rw [stepM_bit] at hi
    have he := hE e (List.mem_cons_self ..)
    have hz := h0 e he
    have e1 : ((e.1.toNat : Nat) : Int) = e.1 := Int.toNat_of_nonneg hz.1
    have e2 : ((e.2.toNat : Nat) : Int) = e.2 := Int.toNat_of_nonneg hz.2
    have hm : (e.1, e.2) ∈ E0 := he
    simp only [Bool.or_eq_true, Bool.and_eq_true, decide_eq_true_eq] at hi
    rcases hi with hi | ⟨h1, h2⟩
    · exact h i hi
    · rcases h1 with h1 | h1
      · have hr := h _ h1
        rw [e1] at hr
        rcases h2 with rfl | rfl
        · rw [e1]; exact hr
        · rw [e2]; exact .fwd hm hr
      · have hr := h _ h1
        rw [e2] at hr
        rcases h2 with rfl | rfl
        · rw [e1]; exact .bwd hm hr
        · rw [e2]; exact hr
theorem bits_eq {s t : Nat} (h : ∀ i, s.testBit i = true → t.testBit i = true) (k : ∀ i, t.testBit i = true → s.testBit i = true) : s = t :=
  Nat.eq_of_testBit_eq fun i => by
    cases h1 : s.testBit i with
    | true => exact (h i h1).symm
    | false =>
      cases h2 : t.testBit i with
      | false => rfl
      | true => rw [k i h2] at h1; cases h1
theorem passM_fix : ∀ (E : List (Int × Int)) {s : Nat}, passM E s = s → ∀ e ∈ E, (s.testBit e.1.toNat = true ∨ s.testBit e.2.toNat = true) → s.testBit e.1.toNat = true ∧ s.testBit e.2.toNat = true
  | [], _, _, e, he, _ => by cases he
  | f :: E, s, h, e, he, hb => by
    have h1 : stepM s f = s := bits_eq (fun i hi => by
      have := passM_mono (i := i) E hi
      have e0 : passM (f :: E) s = passM E (stepM s f) := rfl
      rwa [← e0, h] at this) fun i hi => stepM_mono hi
    have h2 : passM E s = s := by
      have e0 : passM (f :: E) s = passM E (stepM s f) := rfl
      rwa [e0, h1] at h
    rcases List.mem_cons.1 he with rfl | he
    · have h3 := stepM_bit s e e.1.toNat
      have h4 := stepM_bit s e e.2.toNat
      rw [h1] at h3 h4
      rcases hb with hb | hb
      · rw [hb] at h4
        simp at h4
        exact ⟨hb, h4⟩
      · rw [hb] at h3
        simp at h3
        exact ⟨h3, hb⟩
    · exact passM_fix E h2 e he hb
def cardM (n s : Nat) : Nat := ((List.range n).filter fun i => s.testBit i).length
theorem cardM_le (n s : Nat) : cardM n s ≤ n := by
  have := List.length_filter_le (fun i => s.testBit i) (List.range n)
  rwa [List.length_range] at this
theorem filter_less {α : Type} {p q : α → Bool} : ∀ (l : List α), (∀ x ∈ l, p x = true → q x = true) → (∃ x ∈ l, p x = false ∧ q x = true) → (l.filter p).length < (l.filter q).length
  | [], _, ⟨_, h, _⟩ => by cases h
  | x :: l, h, ⟨y, hy, h1, h2⟩ => by
    have hle : (l.filter p).length ≤ (l.filter q).length := by
      clear hy h1 h2
      have h' : ∀ x ∈ l, p x = true → q x = true := fun z hz => h z (List.mem_cons_of_mem _ hz)
      clear h
      induction l with
      | nil => exact Nat.le_refl _
      | cons z l ih =>
        have i1 := ih fun u hu => h' u (List.mem_cons_of_mem _ hu)
        have i2 := h' z (List.mem_cons_self ..)
        cases hp : p z with
        | true => rw [List.filter_cons_of_pos hp, List.filter_cons_of_pos (i2 hp)]; simpa using i1
        | false =>
          cases hq : q z with
          | true => rw [List.filter_cons_of_neg (by rw [hp]; decide), List.filter_cons_of_pos hq, List.length_cons]; omega
          | false => rw [List.filter_cons_of_neg (by rw [hp]; decide), List.filter_cons_of_neg (by rw [hq]; decide)]; exact i1
    rcases List.mem_cons.1 hy with rfl | hy
    · rw [List.filter_cons_of_neg (by rw [h1]; decide), List.filter_cons_of_pos h2, List.length_cons]
      omega
    · have ih := filter_less l (fun z hz => h z (List.mem_cons_of_mem _ hz)) ⟨y, hy, h1, h2⟩
      have i2 := h x (List.mem_cons_self ..)
      cases hp : p x with
      | true => rw [List.filter_cons_of_pos hp, List.filter_cons_of_pos (i2 hp)]; simpa using ih
      | false =>
        cases hq : q x with
        | true => rw [List.filter_cons_of_neg (by rw [hp]; decide), List.filter_cons_of_pos hq, List.length_cons]; omega
        | false => rw [List.filter_cons_of_neg (by rw [hp]; decide), List.filter_cons_of_neg (by rw [hq]; decide)]; exact ih
theorem big_bit {n s i : Nat} (h : s < 2 ^ n) (hi : s.testBit i = true) : i < n := by
  rcases Nat.lt_or_ge i n with h1 | h1
  · exact h1
  · rw [Nat.testBit_lt_two_pow (Nat.lt_of_lt_of_le h (Nat.pow_le_pow_right (by omega) h1))] at hi
    cases hi
section
variable {n : Nat} {E : List (Int × Int)}
theorem iterM_lt (hn : 0 < n) (hE : ∀ e ∈ E, e.1.toNat < n ∧ e.2.toNat < n) : ∀ k, iterM E k < 2 ^ n
  | 0 => by
    have h : 2 ^ 1 ≤ 2 ^ n := Nat.pow_le_pow_right (by omega) hn
    show 1 < 2 ^ n
    omega
  | k + 1 => passM_lt E (iterM_lt hn hE k) hE
theorem iterM_grows (hn : 0 < n) (hE : ∀ e ∈ E, e.1.toNat < n ∧ e.2.toNat < n) : ∀ k, passM E (iterM E k) = iterM E k ∨ k + 1 ≤ cardM n (iterM E k)
  | 0 => by
    right
    show 1 ≤ cardM n 1
    have h0 : 0 ∈ (List.range n).filter fun i => (1 : Nat).testBit i := List.mem_filter.2 ⟨List.mem_range.2 hn, by decide⟩
    exact List.length_pos_of_mem h0
  | k + 1 => by
    rcases iterM_grows hn hE k with h | h
    · left
      have e : iterM E (k + 1) = iterM E k := h
      rw [e]
      exact h
    · by_cases he : passM E (iterM E k) = iterM E k
      · left
        have e : iterM E (k + 1) = iterM E k := he
        rw [e]
        exact he
      · right
        have hlt := iterM_lt hn hE (k + 1)
        have hg : cardM n (iterM E k) < cardM n (iterM E (k + 1)) := by
          refine filter_less _ (fun i _ hi => passM_mono E hi) ?_
          refine Classical.byContradiction fun hno => he ?_
          refine (bits_eq (fun i hi => passM_mono E hi) fun i hi => ?_).symm
          have hin := big_bit hlt hi
          cases hb : (iterM E k).testBit i with
          | true => rfl
          | false => exact absurd ⟨i, List.mem_range.2 hin, hb, hi⟩ hno
        omega
theorem iterM_fix (hn : 0 < n) (hE : ∀ e ∈ E, e.1.toNat < n ∧ e.2.toNat < n) : passM E (iterM E n) = iterM E n := by
  rcases iterM_grows hn hE n with h | h
  · exact h
  · have := cardM_le n (iterM E n)
    omega
theorem iterM_zero : ∀ k, (iterM E k).testBit 0 = true
  | 0 => (by decide : (1 : Nat).testBit 0 = true)
  | k + 1 => passM_mono E (iterM_zero k)
theorem iterM_snd (h0 : ∀ e ∈ E, 0 ≤ e.1 ∧ 0 ≤ e.2) : ∀ k i, (iterM E k).testBit i = true → Rch E (i : Int)
  | 0, i, h => by
    have h1 : (1 : Nat).testBit i = true := h
    have h2 := bit_one 0 i
    rw [show (1 : Nat) <<< 0 = 1 from rfl, h1] at h2
    have := of_decide_eq_true h2.symm
    subst this
    exact .zero
  | k + 1, i, h => passM_snd h0 E (fun _ h => h) (iterM_snd h0 k) i h
theorem all_bits {n s : Nat} (hs : s < 2 ^ n) : s = 2 ^ n - 1 ↔ ∀ i, i < n → s.testBit i = true := by
  constructor
  · rintro rfl i hi
    rw [Nat.testBit_two_pow_sub_one]
    exact decide_eq_true hi
  · intro h
    refine bits_eq (fun i hi => ?_) fun i hi => ?_
    · rw [Nat.testBit_two_pow_sub_one]
      exact decide_eq_true (big_bit hs hi)
    · rw [Nat.testBit_two_pow_sub_one] at hi
      exact h i (of_decide_eq_true hi)
/-- By bit masks: as many rounds as there are vertices, and all bits are set just if each vertex can be come to. -/
theorem mask_all (hn : 0 < n) (hE : ∀ e ∈ E, 0 ≤ e.1 ∧ e.1 < n ∧ 0 ≤ e.2 ∧ e.2 < n) : iterM E n = 2 ^ n - 1 ↔ allR n E := by
  have hE1 : ∀ e ∈ E, e.1.toNat < n ∧ e.2.toNat < n := fun e he => by have := hE e he; omega
  have h0 : ∀ e ∈ E, 0 ≤ e.1 ∧ 0 ≤ e.2 := fun e he => by have := hE e he; omega
  rw [all_bits (iterM_lt hn hE1 n)]
  constructor
  · intro h v hv
    exact iterM_snd h0 n v (h v hv)
  · intro h i hi
    have hfx := passM_fix E (iterM_fix hn hE1)
    have hcl : ∀ x, Rch E x → (iterM E n).testBit x.toNat = true := fun x hx => by
      induction hx with
      | zero => exact iterM_zero n
      | fwd he _ ih => exact (hfx _ he (.inl ih)).2
      | bwd he _ ih => exact (hfx _ he (.inr ih)).1
    have := hcl _ (h i hi)
    rwa [Int.toNat_natCast] at this
end
theorem right_edges {L : List Int} {E : List (Int × Int)} (h : rightP L E) : ∀ e ∈ E, 0 ≤ e.1 ∧ e.1 < L.length ∧ 0 ≤ e.2 ∧ e.2 < L.length := fun e he => by
  obtain ⟨i, hi, he2⟩ := List.mem_iff_getElem.1 he
  have h1 := (h.2 i e (by rw [List.getElem?_eq_getElem hi, he2])).1
  unfold Pt.EdgeOK at h1
  omega
/-- What Connected answers. -/
def ConRes (L : List Int) (E : List (Int × Int)) (w : World) (e : Ending) (w' : World) : Prop := ∃ b : Bool, e = .returned (.bool b) ∧ (b = true ↔ connP L E) ∧ Below w.heap.size w w'
end Go.Proofs.YtapledphhfiimaaGreatDoor
/-
  The document's bytes of a pattern.
-/
namespace Go.Proofs.YtapledphhfiimaaGreatDoor
open Go.RowKit
set_option maxRecDepth 100000
set_option linter.unusedVariables false

theorem pNums_enc : ∀ (l : List Int) (st : St), (∀ x ∈ l, fits x) → pNums l st = (st.1 ++ l.flatMap fun x => wordL x.toNat, st.2)
  | [], st, _ => by rw [pNums]; simp
  | z :: l, st, h => by
    rw [pNums, pNums_enc l _ fun x hx => h x (List.mem_cons_of_mem _ hx)]
    unfold pNum
    rw [if_pos (h z (List.mem_cons_self ..)), List.flatMap_cons, List.append_assoc]
theorem pList_enc {l : List Int} (st : St) (h : ∀ x ∈ l, fits x) (hl : l.length ≤ 1000000) : pList l st = (st.1 ++ encW l, st.2) := by
  unfold pList
  rw [pNums_enc l _ h]
  unfold pNum encW
  rw [if_pos (show fits ((l.length : Nat) : Int) from ⟨by omega, by omega⟩), Int.toNat_natCast, List.append_assoc]
/-- Two lists, as the document puts them. -/
theorem put_two {L M : List Int} (hL : ∀ x ∈ L, fits x) (hM : ∀ x ∈ M, fits x) (h1 : L.length ≤ 60) (h2 : M.length ≤ 60) : (pItems [⟨3, 0, ⟨#[]⟩, L⟩, ⟨3, 0, ⟨#[]⟩, M⟩] ([], .nil)).1 = encW L ++ encW M := by
  rw [pItems, pItems, pItems]
  unfold pItem
  simp only
  rw [if_neg (by decide), if_neg (by decide), if_neg (by decide), if_neg (by decide), if_neg (by decide), if_neg (by decide), pList_enc _ hL (by omega), pList_enc _ hM (by omega), List.nil_append]
/-- All edges that eight vertices can have. -/
def allE : List (Int × Int) := (List.range 8).flatMap fun a : Nat => ((List.range 8).filter fun b : Nat => decide (a < b)).map fun b : Nat => ((a : Int), (b : Int))
theorem allE_len : allE.length = 28 := by decide
theorem allE_mem {e : Int × Int} (h0 : 0 ≤ e.1) (h1 : e.1 < e.2) (h2 : e.2 < 8) : e ∈ allE := by
  unfold allE
  refine List.mem_flatMap.2 ⟨e.1.toNat, List.mem_range.2 (by omega), List.mem_map.2 ⟨e.2.toNat, List.mem_filter.2 ⟨List.mem_range.2 (by omega), by simp; omega⟩, ?_⟩⟩
  exact Prod.ext (by simp only; omega) (by simp only; omega)
theorem lessP_trans {a b c d e f : Int} (h1 : lessP a b c d) (h2 : lessP c d e f) : lessP a b e f := by unfold lessP at *; omega
/-- A pattern that is right has at most 28 edges. -/
theorem right_few {L : List Int} {E : List (Int × Int)} (h : rightP L E) : E.length ≤ 28 := by
  have hlt : ∀ j i (hi : i < j) (hj : j < E.length), lessP (E[i]'(by omega)).1 (E[i]'(by omega)).2 E[j].1 E[j].2 := by
    intro j
    induction j with
    | zero => intro i hi; omega
    | succ j ih =>
      intro i hi hj
      have h1 := (h.2 (j + 1) E[j + 1] (List.getElem?_eq_getElem hj)).2 E[j] (Nat.succ_pos _) (by rw [show j + 1 - 1 = j from rfl]; exact List.getElem?_eq_getElem (by omega))
      have h2 := (ordE_less _ _ _ _).1 h1
      by_cases he : i = j
      · subst he; exact h2
      · exact lessP_trans (ih i (by omega) (by omega)) h2
  have hnd : E.Nodup := by
    refine List.pairwise_iff_getElem.2 fun i j hi hj hij e => ?_
    have := hlt j i hij hj
    rw [e] at this
    unfold lessP at this
    omega
  have h8 := h.1.1
  have := sub_lenP E allE hnd fun e he => by
    obtain ⟨i, hi, he2⟩ := List.mem_iff_getElem.1 he
    have h1 := (h.2 i e (by rw [List.getElem?_eq_getElem hi, he2])).1
    unfold Pt.EdgeOK at h1
    exact allE_mem h1.1 h1.2.1 (by omega)
  rwa [allE_len] at this
theorem right_fits {L : List Int} {E : List (Int × Int)} (h : rightP L E) : (∀ x ∈ L, fits x) ∧ (∀ e ∈ E, fits e.1 ∧ fits e.2) ∧ (∀ x ∈ endsL E, fits x) := by
  have h1 : ∀ x ∈ L, fits x := fun x hx => by have := h.1.2 x hx; unfold fits; omega
  have h2 : ∀ e ∈ E, fits e.1 ∧ fits e.2 := fun e he => by have := right_edges h e he; have := h.1.1; unfold fits; omega
  refine ⟨h1, h2, fun z hz => ?_⟩
  obtain ⟨e, he, h⟩ := List.mem_flatMap.1 hz
  rcases List.mem_cons.1 h with rfl | h
  · exact (h2 e he).1
  · rw [List.mem_singleton.1 h]
    exact (h2 e he).2

end Go.Proofs.YtapledphhfiimaaGreatDoor
