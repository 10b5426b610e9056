/-
  Contracts: perm.Right, perm.Id, perm.with, perm.Put, perm.Back, perm.Then, perm.times; the document's SameInts.
-/
import Derived.Test.YtakkdpnaoahpcaaDoorChain2
import Derived.Test.YtakkdpnaoahpcaaDoorPermA
import Derived.Test.YtakkdpnaoahpcaaDoorSame
import Derived.Deep.DeepCutAuto
import Derived.BigQuiet
import Derived.Deep.QuietTactic
namespace Go.Proofs.YtakkdpnaoahpcaaDoor
open Go.RowKit
set_option maxRecDepth 100000

theorem bits_and_nat (a b : Nat) (ha : a < 2^63) (hb : b < 2^63) : bits .and .i64 a b = ((a &&& b : Nat) : Int) := by
  have h1 : (BitVec.ofInt 64 (a : Int) &&& BitVec.ofInt 64 (b : Int)).toNat = a &&& b := by
    rw [BitVec.toNat_and, BitVec.ofInt_natCast, BitVec.ofInt_natCast, BitVec.toNat_ofNat, BitVec.toNat_ofNat, Nat.mod_eq_of_lt (by omega), Nat.mod_eq_of_lt (by omega)]
  have h2 : a &&& b < 2^63 := Nat.lt_of_le_of_lt Nat.and_le_left ha
  show IntKind.i64.wrap (((BitVec.ofInt 64 (a : Int) &&& BitVec.ofInt 64 (b : Int)).toNat : Nat) : Int) = _
  rw [h1]
  exact IntWalk.i64_in _ (by omega)
theorem bits_or_nat (a b : Nat) (ha : a < 2^63) (hb : b < 2^63) : bits .or .i64 a b = ((a ||| b : Nat) : Int) := by
  have h1 : (BitVec.ofInt 64 (a : Int) ||| BitVec.ofInt 64 (b : Int)).toNat = a ||| b := by
    rw [BitVec.toNat_or, BitVec.ofInt_natCast, BitVec.ofInt_natCast, BitVec.toNat_ofNat, BitVec.toNat_ofNat, Nat.mod_eq_of_lt (by omega), Nat.mod_eq_of_lt (by omega)]
  have h2 : a ||| b < 2^63 := Nat.or_lt_two_pow ha hb
  show IntKind.i64.wrap (((BitVec.ofInt 64 (a : Int) ||| BitVec.ofInt 64 (b : Int)).toNat : Nat) : Int) = _
  rw [h1]
  exact IntWalk.i64_in _ (by omega)
theorem bit_test (m y : Nat) (hm : m < 256) : (bits .and .i64 ((m : Int) / 2 ^ y) 1 == 1) = m.testBit y := by
  have h0 : ((m : Int) / 2 ^ y) = ((m >>> y : Nat) : Int) := by rw [Nat.shiftRight_eq_div_pow]; push_cast; rfl
  have h1 : m >>> y ≤ m := by rw [Nat.shiftRight_eq_div_pow]; exact Nat.div_le_self _ _
  rw [h0, show (1 : Int) = ((1 : Nat) : Int) from rfl, bits_and_nat _ _ (by omega) (by omega), Nat.testBit, Nat.and_comm]
  generalize hq : (1 &&& m >>> y) = q
  have hq2 : q < 2 := by rw [← hq, Nat.one_and_eq_mod_two]; omega
  match q, hq2 with
  | 0, _ => rfl
  | 1, _ => rfl
theorem bit_set (m y : Nat) (hm : m < 256) (hy : y < 8) : bits .or .i64 (m : Int) (wrap64 (2 ^ y)) = ((m ||| 2 ^ y : Nat) : Int) ∧ (m ||| 2 ^ y) < 256 ∧ ∀ x, (m ||| 2 ^ y).testBit x = (m.testBit x || decide (y = x)) := by
  have hp : 2 ^ y < 256 := by
    have : 2 ^ y < 2 ^ 8 := Nat.pow_lt_pow_right (by omega) hy
    omega
  have hw : wrap64 (2 ^ y) = ((2 ^ y : Nat) : Int) := by
    have : ((2 : Int) ^ y) = ((2 ^ y : Nat) : Int) := by push_cast; rfl
    rw [this]
    generalize 2 ^ y = q at hp
    exact IntWalk.wrap64_in (q : Int) (by omega)
  refine ⟨by rw [hw]; exact bits_or_nat _ _ (by omega) (by omega), Nat.or_lt_two_pow (n := 8) hm hp, fun x => ?_⟩
  rw [Nat.testBit_or, Nat.testBit_two_pow]

set_option maxHeartbeats 1000000 in
theorem Right_any (p : List Int) (A : Option Addr) (n c : Nat) (w : World) (hl : p.length = n) (hs : Sl w 1 A n (p.map (Value.int .i64))) :
    Calls Tryd.prog 21 #[.slice A n c] w fun e w' => e = .returned (.bool (decide (Ord p))) ∧ w = w' := by
  go_enter Tryd.func21, Tryd.ntmps21
  by_cases h8 : n ≤ 8
  · go_wp2
    go_loop [3, 11] (fun s i => ∃ k m : Nat, k ≤ n ∧ i = .int .i64 k ∧ s = .int .i64 m ∧ m < 256 ∧ (∀ x : Nat, x < 8 → m.testBit x = decide ((x : Int) ∈ p.take k)) ∧ (p.take k).Nodup ∧ ∀ x ∈ p.take k, 0 ≤ x ∧ x < n) (fun _ i => n - (intOf i).toNat)
    case atStart => exact ⟨0, 0, Nat.zero_le _, rfl, rfl, by omega, by simp, by simp, by simp⟩
    case round =>
      obtain ⟨k, m, hk, rfl, rfl, hm, hb, hnd, hr⟩ := hrel
      by_cases hlt : k < n
      · have hj : k < p.length := by omega
        obtain ⟨b, off, u, rfl, e1, c1⟩ := hs.one hlt
        rw [List.getElem?_map, List.getElem?_eq_getElem hj] at e1
        obtain rfl := Option.some.inj e1
        have HM := Lib.hid (List.getElem_mem hj)
        have HT := Lib.hid (List.take_succ_eq_append_getElem hj)
        generalize p[k] = x at *
        clear e1
        by_cases hx0 : x < 0
        · go_wp2
          go_ret
          exact ⟨ret_bool (decide_eq_false (fun h : Ord p => by have := h.2.1 x HM.out; omega)).symm, rfl⟩
        · by_cases hx1 : x < n
          · obtain ⟨y, rfl⟩ := Int.eq_ofNat_of_zero_le (by omega : 0 ≤ x)
            have hy := hb y (by omega)
            have HB := Lib.hid hb
            have HR := Lib.hid hr
            have HN := Lib.hid hnd
            have hbt := bit_test m y hm
            have HS := Lib.hid (bit_set m y hm (by omega))
            rw [hy] at hbt
            clear hb hr hnd hy
            by_cases hmem : (y : Int) ∈ p.take k
            · rw [decide_eq_true hmem] at hbt
              go_wp2
              go_ret
              refine ⟨ret_bool (decide_eq_false (fun h : Ord p => ?_)).symm, rfl⟩
              have h1 := HT.out ▸ (h.2.2.sublist (List.take_sublist (k + 1) p))
              rw [List.nodup_append] at h1
              exact h1.2.2 _ hmem _ (List.mem_singleton.2 rfl) rfl
            · rw [decide_eq_false hmem] at hbt
              go_wp2
              go_round
              case rel =>
                refine ⟨k + 1, _, by omega, by go_num, congrArg _ HS.out.1, HS.out.2.1, fun x hx => ?_, ?_, ?_⟩
                · rw [HS.out.2.2, HB.out x hx, HT.out]
                  simp only [List.mem_append, List.mem_singleton]
                  by_cases hxy : y = x
                  · subst hxy; simp
                  · have : ¬ (x : Int) = y := by omega
                    simp [hxy, this]
                · rw [HT.out, List.nodup_append]
                  exact ⟨HN.out, by simp, fun a ha b hb e => hmem (by rw [List.mem_singleton.1 hb] at e; exact e ▸ ha)⟩
                · intro x hx
                  rw [HT.out] at hx
                  rcases List.mem_append.1 hx with h | h
                  · exact HR.out x h
                  · rw [List.mem_singleton.1 h]; omega
              case measure => simp [intOf]; omega
          · go_wp2
            go_ret
            exact ⟨ret_bool (decide_eq_false (fun h : Ord p => by have := h.2.1 x HM.out; omega)).symm, rfl⟩
      · obtain rfl : k = n := by omega
        rw [List.take_of_length_le (by omega)] at hnd hr
        have HO := Lib.hid (show Ord p from ⟨by omega, by rw [hl]; exact hr, hnd⟩)
        clear hnd hr hb
        go_wp2
        go_ret
        exact ⟨ret_bool (decide_eq_true HO.out).symm, rfl⟩
  · go_wp2
    go_ret
    exact ⟨ret_bool (decide_eq_false (fun h : Ord p => h8 (by have := h.1; omega))).symm, rfl⟩

set_option maxHeartbeats 1000000 in
theorem Id_any (n : Nat) (w : World) (hn : n ≤ 8) :
    Calls Tryd.prog 5 #[.int .i64 n] w fun e w' => ∃ v, e = .returned v ∧ w'.ownsRow w.heap.size 3 1 v n ((ids n).map (Value.int .i64)) ∧ Below w.heap.size w w' := by
  go_enter Tryd.func5, Tryd.ntmps5
  go_wp2
  go_loopw [3, 4] (fun v i wr => ∃ k : Nat, k ≤ n ∧ i = .int .i64 k ∧ wr.ownsRow w.heap.size 3 1 v k ((ids k).map (Value.int .i64)) ∧ Below w.heap.size w wr) (fun _ i _ => n - (intOf i).toNat)
  case atStart => exact ⟨0, Nat.zero_le _, rfl, World.ownsRow_nil _ _ _ _, Below.refl _ _⟩
  case round =>
    obtain ⟨k, hk, rfl, hown, hb⟩ := hrel
    by_cases hlt : k < n
    · go_wp2_with (at_builtin; refine wpList_push elemInt _ _ rfl rfl hown hb (Nat.le_refl _) rfl rfl rfl (by simp [Value.oneCell']) (by unfold lim; omega) (by unfold lim; omega) ?_; intro v' w5 hown1 hb5)
      go_roundw
      case rel => exact ⟨k + 1, by omega, by go_num, by rw [ids_succ, List.map_append]; exact hown1, hb5⟩
      case measure => simp [intOf]; omega
    · obtain rfl : k = n := by omega
      go_wp2
      go_ret
      exact ⟨_, rfl, hown, hb⟩
theorem Id_big (n : Int) (w : World) (hn : 8 < n) : Calls Tryd.prog 5 #[.int .i64 n] w fun e w' => e = .returned (.slice none 0 0) ∧ w = w' := by
  go_enter Tryd.func5, Tryd.ntmps5
  go_wp2
  go_ret
  exact ⟨rfl, rfl⟩

def order : ByteArray := ⟨#[111, 114, 100, 101, 114]⟩
theorem wrong_any (a : Int) (w : World) : Calls Tryd.prog 17 #[.int .i64 a] w fun e w' => ∃ v, e = .returned v ∧ (Err.flt 1 a order).At w' v ∧ Below w.heap.size w w' := by
  go_enter Tryd.func17, Tryd.ntmps17
  go_wp2_with fail
  refine (New_err 1 a order w).mono ?_
  rintro e w1 ⟨v, rfl, hv, hb⟩
  go_wp2_with fail
  go_ret
  exact ⟨_, rfl, hv, hb⟩

def putE (p l : List Int) : Err := if Ord p then if p.length = l.length then .nil else .flt 1 1 order else .flt 1 0 order
set_option maxHeartbeats 1000000 in
theorem with_any (p l : List Int) (A B : Option Addr) (n m c d : Nat) (w : World) (hl : p.length = n) (hm : l.length = m) (hs : Sl w 1 A n (p.map (Value.int .i64))) :
    Calls Tryd.prog 29 #[.slice A n c, .slice B m d] w fun e w' => ∃ v, e = .returned v ∧ (putE p l).At w' v ∧ Below w.heap.size w w' := by
  go_enter Tryd.func29, Tryd.ntmps29
  by_cases hO : Ord p
  · have HR := Lib.hid (Right_any p A n c w hl hs)
    rw [decide_eq_true hO] at HR
    have HO := Lib.hid hO
    clear hO hs
    go_wp2_with fail
    refine HR.out.mono ?_
    rintro e w1 ⟨rfl, rfl⟩
    by_cases hnm : n = m
    · subst hnm
      go_wp2_with fail
      go_ret
      exact ⟨_, rfl, by rw [putE, if_pos HO.out, if_pos (hl.trans hm.symm)]; exact rfl, Below.refl _ _⟩
    · have hb1 : ((n : Int) == (m : Int)) = false := by simp; omega
      go_wp2_with fail
      refine (wrong_any 1 w).mono ?_
      rintro e w2 ⟨v, rfl, hv, hb⟩
      go_wp2_with fail
      go_ret
      exact ⟨_, rfl, by rw [putE, if_pos HO.out, if_neg (fun h => hnm (by rw [← hl, ← hm, h]))]; exact hv, hb⟩
  · have HR := Lib.hid (Right_any p A n c w hl hs)
    rw [decide_eq_false hO] at HR
    have HO := Lib.hid hO
    clear hO hs
    go_wp2_with fail
    refine HR.out.mono ?_
    rintro e w1 ⟨rfl, rfl⟩
    go_wp2_with fail
    refine (wrong_any 0 w).mono ?_
    rintro e w2 ⟨v, rfl, hv, hb⟩
    go_wp2_with fail
    go_ret
    exact ⟨_, rfl, by rw [putE, if_neg HO.out]; exact hv, hb⟩

set_option maxHeartbeats 1000000 in
theorem times_any (n : Nat) (w : World) (hn : n ≤ 8) : Calls Tryd.prog 16 #[.int .i64 n] w fun e w' => e = .returned (.int .i64 (fac n)) ∧ w = w' := by
  go_enter Tryd.func16, Tryd.ntmps16
  go_wp2
  go_loop [3, 4] (fun f i => ∃ k : Nat, k ≤ max n 1 ∧ 1 ≤ k ∧ i = .int .i64 (k + 1) ∧ f = .int .i64 (fac k)) (fun _ i => n + 1 - (intOf i).toNat)
  case atStart => exact ⟨1, by omega, by omega, rfl, rfl⟩
  case round =>
    obtain ⟨k, hk, hk1, rfl, rfl⟩ := hrel
    by_cases hlt : k + 1 ≤ n
    · have hf := fac_le (n := k) (by omega)
      have hf2 := fac_le (n := k + 1) (by omega)
      have hm : ((fac k : Nat) : Int) * ((k : Int) + 1) = (fac (k + 1) : Nat) := by rw [fac]; push_cast; rw [Int.mul_comm]
      have hw : IntKind.i64.wrap (((fac k : Nat) : Int) * ((k : Int) + 1)) = (fac (k + 1) : Nat) := by
        rw [hm]
        generalize fac (k + 1) = q at *
        exact IntWalk.i64_in _ (by omega)
      clear hm
      have HF := Lib.hid (show (fac (k + 1) : Int) = (fac (k + 1) : Int) from rfl)
      generalize hq : fac (k + 1) = q at hw hf2 HF
      go_wp2
      go_round
      case rel => exact ⟨k + 1, by omega, by omega, by go_num, by rw [hq]⟩
      case measure => simp [intOf]; omega
    · have hz : fac k = fac n := by
        by_cases h1 : k = n
        · rw [h1]
        · obtain rfl : k = 1 := by omega
          obtain rfl : n = 0 := by omega
          rfl
      have HZ := Lib.hid hz
      clear hz
      generalize fac k = q at *
      go_wp2
      go_ret
      exact ⟨ret_int (congrArg _ HZ.out), rfl⟩
end Go.Proofs.YtakkdpnaoahpcaaDoor
