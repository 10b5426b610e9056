/-
  SetsMake: the law's walk.
-/
import Derived.Test.YtakkdpnaoahpcaaLaw06
namespace Go.Proofs.Ytakkdpnaoahpcaa
open Go.RowKit
set_option maxRecDepth 100000
set_option linter.unusedVariables false

theorem sl_lt {w : World} {A : Option Addr} {n : Nat} {xs : List Value} (h : Sl w 1 A n xs) (hn : 0 < n) : ∀ x : Addr, A = some x → x.block < w.heap.size := by
  intro x hx
  obtain ⟨b, off, u, rfl, _, hc⟩ := h.one hn
  cases hx
  by_cases hb : b < w.heap.size
  · exact hb
  · exfalso
    have : w.heap[b]? = none := Array.getElem?_eq_none (by omega)
    simp [World.cell?, this] at hc

set_option maxHeartbeats 4000000 in
theorem SetsMake_main (A0 : Option Addr) (n0 c0 : Nat) (l0 : List Int) (A1 : Option Addr) (n1 c1 : Nat) (l1 : List Int) (w : World)
    (m0 : n0 ≤ maxLen) (e0 : l0.length = n0) (s0 : Sl w 1 A0 n0 (l0.map (Value.int .i64))) (w0 : ∀ x ∈ l0, (Lit.int .i64 x).wf = true)
    (m1 : n1 ≤ maxLen) (e1 : l1.length = n1) (s1 : Sl w 1 A1 n1 (l1.map (Value.int .i64))) (w1 : ∀ x ∈ l1, (Lit.int .i64 x).wf = true) :
    Calls Try.prog 3 #[.slice A0 n0 c0, .slice A1 n1 c1] w fun e w' => e = .returned (.bool true) ∧ Below w.heap.size w w' := by
  have HA := Lib.hid (alive06 w)
  have S0 := Lib.hid s0
  have S1 := Lib.hid s1
  have E0 := Lib.hid e0
  have E1 := Lib.hid e1
  clear s0 s1 e0 e1 w0 w1
  unfold maxLen at m0 m1
  by_cases h0 : n0 ≤ 100
  · by_cases h1 : n1 ≤ 100
    · have h0' : ¬ (100 : Int) < (n0 : Int) := by omega
      have h1' : ¬ (100 : Int) < (n1 : Int) := by omega
      go_enter Try.func3, Try.ntmps3
      go_wp2_with fail
      refine HA.out.mono ?_
      rintro e w1 ⟨rfl, hb1⟩
      have HO := Lib.hid (Of_any l0 A0 n0 c0 w1 E0.out (by omega) (S0.out.keep hb1) (fun h => sl_lt (S0.out.keep hb1) h))
      have HB1 := Lib.hid hb1
      clear hb1 HA
      go_wp2_with fail
      refine HO.out.mono ?_
      rintro e w2 ⟨v, rfl, hown, hb2⟩
      obtain ⟨C, k, rfl, hs2⟩ := Sl.own hown
      have HC := Lib.hid hs2
      have HB2 := Lib.hid (HB1.out.andThen hb2)
      clear hown hs2 hb2 HO HB1
      have hle := setL_le l0
      rw [E0.out] at hle
      go_wp2_with fail
      go_loopw [6, 7] (fun rv iv wr => ∃ k : Nat, (k + 1 ≤ n0 ∨ k = 0) ∧ iv = .int .i64 ((k : Int) + 1) ∧ rv = .bool (decide (Inc (l0.take (k + 1)))) ∧ Below w2.heap.size w2 wr) (fun _ iv _ => n0 - (intOf iv).toNat)
      case atStart => exact ⟨0, .inr rfl, rfl, by rw [decide_eq_true (inc_one l0)], Below.refl _ _⟩
      case round =>
        obtain ⟨k, hk, rfl, rfl, hb⟩ := hrel
        have HBr := Lib.hid hb
        clear hb
        by_cases hlt : k + 1 < n0
        · have hlt' : (k : Int) + 1 < (n0 : Int) := by omega
          obtain ⟨x, hx⟩ : ∃ x, l0[k]? = some x := ⟨_, List.getElem?_eq_getElem (by rw [E0.out]; omega)⟩
          obtain ⟨y, hy⟩ : ∃ y, l0[k + 1]? = some y := ⟨_, List.getElem?_eq_getElem (by rw [E0.out]; omega)⟩
          obtain ⟨b1, off1, rfl, _⟩ := S0.out.at_ (show 0 < n0 by omega)
          have c1 := ((S0.out.keep HB2.out).keep HBr.out).again (show k < n0 by omega) (show (l0.map (Value.int .i64))[k]? = some (.int .i64 x) by rw [List.getElem?_map, hx]; rfl)
          have c2 := ((S0.out.keep HB2.out).keep HBr.out).again hlt (show (l0.map (Value.int .i64))[k + 1]? = some (.int .i64 y) by rw [List.getElem?_map, hy]; rfl)
          have HX := Lib.hid (inc_take hx hy)
          clear hx hy hk
          have hw1 : IntKind.i64.wrap ((k : Int) + 1 - 1) = (k : Int) := by rw [IntKind.wrap_i64]; omega
          have hw1' : IntKind.i64.wrap (k : Int) = (k : Int) := by rw [IntKind.wrap_i64]; omega
          have hw2 : IntKind.i64.wrap ((k : Int) + 1 + 1) = ((k + 1 : Nat) : Int) + 1 := by rw [IntKind.wrap_i64]; omega
          have h0k : (0 : Int) ≤ (k : Int) := by omega
          have hkn : (k : Int) < (n0 : Int) := by omega
          have h0k1 : (0 : Int) ≤ (k : Int) + 1 := by omega
          have ht1 : ((k : Int) + 1).toNat = k + 1 := by omega
          by_cases hi : Inc (l0.take (k + 1))
          · rw [decide_eq_true hi]
            have HI := Lib.hid hi
            clear hi
            go_wp2_with fail
            go_quiet (fail)
            go_wp2_with fail
            go_roundw
            case rel => exact ⟨k + 1, .inl (by omega), by go_num, by
              by_cases hxy : x < y
              · rw [decide_eq_true (HX.out.2 ⟨HI.out, hxy⟩), decide_eq_true hxy]
              · rw [decide_eq_false (fun h => hxy (HX.out.1 h).2), decide_eq_false hxy], bel_drewN HBr.out _⟩
            case measure => simp [intOf]; omega
          · rw [decide_eq_false hi]
            have HI := Lib.hid hi
            clear hi
            go_wp2_with fail
            go_quiet (fail)
            go_wp2_with fail
            go_roundw
            case rel => exact ⟨k + 1, .inl (by omega), by go_num, by rw [decide_eq_false (fun h => HI.out (HX.out.1 h).1)], bel_drewN HBr.out _⟩
            case measure => simp [intOf]; omega
        · have hlt' : ¬ (k : Int) + 1 < (n0 : Int) := by omega
          have hT : l0.take (k + 1) = l0 := List.take_of_length_le (by rw [E0.out]; omega)
          rw [hT]
          clear hk hT
          have T0 := Lib.hid ((S0.out.keep HB2.out).keep HBr.out)
          have T1 := Lib.hid ((S1.out.keep HB2.out).keep HBr.out)
          have TC := Lib.hid (HC.out.keep HBr.out)
          have HBw := Lib.hid (HB2.out.andThen HBr.out)
          obtain ⟨z, hz⟩ : ∃ z, z = cmpL l0 l1 := ⟨_, rfl⟩
          have hzr : z = -1 ∨ z = 0 ∨ z = 1 := by rw [hz]; exact cmpL_range _ _
          have hzn : IntKind.i64.wrap (-z) = -z := by rw [IntKind.wrap_i64]; omega
          have hzn' : wrap64 (-z) = -z := by unfold wrap64; omega
          have HZ := Lib.hid hz
          have HZ2 := Lib.hid (show cmpL l1 l0 = -z by rw [hz]; exact cmpL_neg _ _)
          have HIS := Lib.hid (decide_eq_true (setL_inc l0))
          obtain ⟨q, hq⟩ : ∃ q, q = decide (Inc l0) := ⟨_, rfl⟩
          rw [← hq]
          have HQ := Lib.hid hq
          clear hz hq hzr
          go_wp2_with (first
            | (go_at_call 11; refine (SetOf_any l0 A0 n0 c0 wr (by omega) E0.out T0.out).mono ?_; rintro e w3 ⟨D, d, rfl, _, _, hs3, hb3⟩; have HS3 := Lib.hid hs3; have HB3 := Lib.hid hb3; clear hs3 hb3)
            | (go_at_call 10; refine (SameInts_same (setL l0) C D _ _ _ w3 rfl (TC.out.keep HB3.out) HS3.out (by omega)).mono ?_; rintro e w4 ⟨rfl, hb4⟩; have HB4 := Lib.hid (HB3.out.andThen hb4); clear hb4 HS3)
            | (go_at_call_of 12 (Value.slice A0 n0 c0); refine (Right_any l0 A0 n0 c0 w4 E0.out (T0.out.keep HB4.out) (by omega)).mono ?_; rw [← HQ.out]; rintro e w5 ⟨rfl, hb5⟩; have HB5 := Lib.hid (HB4.out.andThen hb5); clear hb5)
            | (go_at_call 12; refine (Right_any (setL l0) C _ _ w5 rfl (TC.out.keep HB5.out) (by omega)).mono ?_; rw [HIS.out]; rintro e w6 ⟨rfl, hb6⟩; have HB6 := Lib.hid (HB5.out.andThen hb6); clear hb6)
            | (go_at_call_of 13 (Value.slice A1 n1 c1); refine (Compare_any l1 l0 A1 A0 n1 n0 c1 c0 w7 E1.out E0.out (T1.out.keep HB7.out) (T0.out.keep HB7.out) (by omega)).mono ?_; rw [HZ2.out]; rintro e w8 ⟨rfl, rfl⟩)
            | (go_at_call 13; refine (Compare_any l0 l1 A0 A1 n0 n1 c0 c1 _ E0.out E1.out (T0.out.keep (by first | exact HB7.out | exact HB6.out)) (T1.out.keep (by first | exact HB7.out | exact HB6.out)) (by omega)).mono ?_; rw [← HZ.out]; rintro e w8 ⟨rfl, rfl⟩)
            | (go_at_call 14; refine (RefCompare_any l0 l1 A0 A1 n0 n1 c0 c1 w6 E0.out E1.out (T0.out.keep HB6.out) (T1.out.keep HB6.out) (by omega)).mono ?_; rw [← HZ.out]; rintro e w7 ⟨rfl, hb7⟩; have HB7 := Lib.hid (HB6.out.andThen hb7); clear hb7))
          go_ret
          exact ⟨ret_bool (by simp), HBw.out.andThen HB7.out⟩
    · have h0' : ¬ (100 : Int) < (n0 : Int) := by omega
      have h1' : (100 : Int) < (n1 : Int) := by omega
      go_enter Try.func3, Try.ntmps3
      go_wp2_with fail
      refine HA.out.mono ?_
      rintro e w1 ⟨rfl, hb1⟩
      go_wp2_with fail
      go_ret
      exact ⟨rfl, hb1⟩
  · have h0' : (100 : Int) < (n0 : Int) := by omega
    go_enter Try.func3, Try.ntmps3
    go_wp2_with fail
    refine HA.out.mono ?_
    rintro e w1 ⟨rfl, hb1⟩
    go_wp2_with fail
    go_ret
    exact ⟨rfl, hb1⟩
end Go.Proofs.Ytakkdpnaoahpcaa
