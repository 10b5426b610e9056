/-
  Contract: nums.Choose; chapter 02's alive.
-/
import Derived.Test.YtclbbchljiagpaaDoorNumT
import Derived.Test.YtclbbchljiagpaaDoorNumV
namespace Go.Proofs.YtclbbchljiagpaaDoor
open Go.RowKit
set_option maxRecDepth 100000
set_option linter.unusedVariables false

theorem NumsChoose_neg (n k : Int) (w : World) (h : n < 0 ∨ k < 0) :
    Calls Tryd.prog 53 #[.int .i64 n, .int .i64 k] w fun e w' => ∃ ev, e = .returned (.tuple #[.int .i64 0, ev]) ∧ (Err.flt 1 0 txtChoice).At w' ev ∧ Below w.heap.size w w' := by
  by_cases hn : n < 0
  · clear h
    go_enter Tryd.func53, Tryd.ntmps53
    go_wp2_with fail
    refine (New_err 1 0 txtChoice w).mono ?_
    rintro e w1 ⟨v, rfl, hv, hb1⟩
    have HV := Lib.hid hv
    clear hv
    go_wp2_with fail
    go_ret2
    exact ⟨v, rfl, HV.out, hb1⟩
  · have hk : k < 0 := by rcases h with h | h; exact absurd h hn; exact h
    clear h
    go_enter Tryd.func53, Tryd.ntmps53
    go_wp2_with fail
    refine (New_err 1 0 txtChoice w).mono ?_
    rintro e w1 ⟨v, rfl, hv, hb1⟩
    have HV := Lib.hid hv
    clear hv
    go_wp2_with fail
    go_ret2
    exact ⟨v, rfl, HV.out, hb1⟩

/-- A round of Choose: what comes of c = ch (m + i) i. -/
theorem choose_round {m i k n c P hi lo : Nat} (hc : c = ch (m + i) i) (hc9 : c < 9223372036854775808) (him : i + 1 ≤ m) (hik : i + 1 ≤ k) (hn : n = m + k) (hP : P = c * (m + (i + 1))) (hh : hi = P / 18446744073709551616) (hl : lo = P % 18446744073709551616) :
    i + 1 < 256 ∧ (hi * 18446744073709551616 + lo) / (i + 1) = ch (m + (i + 1)) (i + 1) ∧ (i + 1 ≤ hi → fitB (ch n k : Nat) = false) ∧ (hi < i + 1 → ch (m + (i + 1)) (i + 1) < 18446744073709551616) ∧ (9223372036854775807 < ch (m + (i + 1)) (i + 1) → fitB (ch n k : Nat) = false) := by
  have e1 : hi * 18446744073709551616 + lo = P := by omega
  have e2 : P / (i + 1) = ch (m + (i + 1)) (i + 1) := by rw [hP, hc]; exact ch_next m i
  have hle : ch (m + (i + 1)) (i + 1) ≤ ch n k := by rw [hn]; exact ch_mono m hik
  have hi63 : i < 63 := by
    refine Nat.lt_of_not_le fun h => ?_
    have h1 := ch_ge m (i := i) (by omega)
    have h2 : (2 : Nat) ^ 63 ≤ 2 ^ i := Nat.pow_le_pow_right (by omega) h
    have h3 : (2 : Nat) ^ 63 = 9223372036854775808 := rfl
    omega
  refine ⟨by omega, by rw [e1, e2], fun h => ?_, fun h => ?_, fun h => fitB_false (by omega)⟩
  · have h1 : 18446744073709551616 ≤ P / (i + 1) := by
      refine (Nat.le_div_iff_mul_le (by omega)).2 ?_
      have h2 : 18446744073709551616 * (i + 1) ≤ 18446744073709551616 * hi := Nat.mul_le_mul_left _ h
      omega
    rw [e2] at h1
    exact fitB_false (by omega)
  · rw [← e2]
    refine Nat.div_lt_of_lt_mul ?_
    have h2 : 18446744073709551616 * (hi + 1) ≤ 18446744073709551616 * (i + 1) := Nat.mul_le_mul_left _ h
    have h3 : (i + 1) * 18446744073709551616 = 18446744073709551616 * (i + 1) := Nat.mul_comm _ _
    omega

set_option maxHeartbeats 4000000 in
theorem NumsChoose_any (n k : Nat) (w : World) (hn : n ≤ 9223372036854775807) (hk : k ≤ 9223372036854775807) :
    Calls Tryd.prog 53 #[.int .i64 (n : Int), .int .i64 (k : Int)] w fun e w' => ∃ ev, e = .returned (.tuple #[.int .i64 (tn (ch n k : Nat)), ev]) ∧ (te txtChoice (ch n k : Nat)).At w' ev ∧ Below w.heap.size w w' := by
  have hn0 : ¬ (n : Int) < 0 := by omega
  have hk0 : ¬ (k : Int) < 0 := by omega
  by_cases hkn : n < k
  · rw [ch_out hkn]
    rw [show tn ((0 : Nat) : Int) = 0 from rfl, show te txtChoice ((0 : Nat) : Int) = .nil from rfl]
    have h1 : (n : Int) < (k : Int) := by omega
    go_enter Tryd.func53, Tryd.ntmps53
    go_wp2_with fail
    go_ret2
    exact ⟨.nilIface, rfl, rfl, Below.refl _ _⟩
  · have h1 : ¬ (n : Int) < (k : Int) := by omega
    obtain ⟨K, hK⟩ : ∃ K, K = min k (n - k) := ⟨_, rfl⟩
    have hch : ch n k = ch n K := by rw [hK, ch_min (by omega)]
    rw [hch]
    obtain ⟨m, hm⟩ : ∃ m, n = m + K := ⟨n - K, by omega⟩
    have hKm : K ≤ m := by omega
    have hKn : K ≤ n := by omega
    obtain ⟨d, hd⟩ : ∃ d : Nat, (n : Int) - (k : Int) = (d : Int) ∧ d = n - k := ⟨n - k, by omega, rfl⟩
    have hd1 := hd.1
    have hw1 : IntKind.i64.wrap ((n : Int) - (k : Int)) = (d : Int) := by rw [IntKind.wrap_i64]; omega
    have hmin : (if (d : Int) < (k : Int) then (d : Int) else (k : Int)) = (K : Int) := by split <;> omega
    have hmin2 : (if (k : Int) < (d : Int) then (k : Int) else (d : Int)) = (K : Int) := by split <;> omega
    have hmin3 : min (k : Int) (d : Int) = (K : Int) := by omega
    have hw2 : IntKind.u64.wrap (K : Int) = (K : Int) := by rw [IntKind.wrap_u64]; omega
    have hw3 : (n : Int) - (K : Int) = (m : Int) := by omega
    have hw4 : IntKind.u64.wrap (m : Int) = (m : Int) := by rw [IntKind.wrap_u64]; omega
    have HM := Lib.hid hm
    have hm9 : m ≤ 9223372036854775807 := by omega
    clear hch hK hm hd
    go_enter Tryd.func53, Tryd.ntmps53
    go_wp2_with fail
    clear hmin hmin2 hmin3 hw1 hd1 hkn h1 hn0 hk0
    go_loopw [6, 7] (fun cv iv wr => ∃ (i c : Nat), i ≤ K ∧ iv = .int .u64 ((i + 1 : Nat) : Int) ∧ cv = .int .u64 (c : Int) ∧ c = ch (m + i) i ∧ c < 9223372036854775808 ∧ Below w.heap.size w wr) (fun _ iv _ => K + 1 - (intOf iv).toNat)
    case atStart => exact ⟨0, 1, Nat.zero_le _, rfl, rfl, by rw [ch_zero], by omega, Below.refl _ _⟩
    case round =>
      obtain ⟨i, c, hi, rfl, rfl, hc, hc9, hb⟩ := hrel
      have HB := Lib.hid hb
      have HC := Lib.hid hc
      clear hb hc
      by_cases hlt : i < K
      · have hlt' : ((i + 1 : Nat) : Int) ≤ (K : Int) := by omega
        obtain ⟨P, hP⟩ : ∃ P, P = c * (m + (i + 1)) := ⟨_, rfl⟩
        obtain ⟨h2, hh2⟩ : ∃ h2, h2 = P / 18446744073709551616 := ⟨_, rfl⟩
        obtain ⟨lo, hlo⟩ : ∃ lo, lo = P % 18446744073709551616 := ⟨_, rfl⟩
        obtain ⟨hi6, hquo, hov, hfit, hov2⟩ := choose_round (n := n) (k := K) HC.out hc9 (show i + 1 ≤ m by omega) (show i + 1 ≤ K by omega) HM.out hP hh2 hlo
        have hMul := Mul64_any c (m + (i + 1)) (by omega) (by omega) wr
        rw [← hP, ← hh2, ← hlo] at hMul
        have HMul := Lib.hid hMul
        have hlo9 : lo < 18446744073709551616 := by omega
        clear hMul hh2 hlo hP
        obtain ⟨j, hj⟩ : ∃ j, j = i + 1 := ⟨_, rfl⟩
        rw [← hj] at hlt' hquo hov hfit hov2 HMul hi6 ⊢
        obtain ⟨q, hq⟩ : ∃ q, q = ch (m + j) j := ⟨_, rfl⟩
        rw [← hq] at hquo hfit hov2
        have HQ := Lib.hid hq
        have hw5 : IntKind.u64.wrap ((m : Int) + (j : Int)) = ((m + j : Nat) : Int) := by rw [IntKind.wrap_u64]; omega
        have hw5' : (m : Int) + (j : Int) = ((m + j : Nat) : Int) := by omega
        have HJ := Lib.hid hj
        clear hj hq
        generalize m + j = mj at *
        have HOV := Lib.hid hov
        have HOV2 := Lib.hid hov2
        have HDiv := Lib.hid (fun (h : h2 < j) W => Div64_any h2 lo j W h hlo9 hi6)
        rw [hquo] at HDiv
        have HFit := Lib.hid hfit
        clear hov hov2 hquo hfit
        go_wp2_with fail
        refine HMul.out.mono ?_
        rintro e w1 ⟨rfl, rfl⟩
        by_cases hge : j ≤ h2
        · have HF := Lib.hid (HOV.out hge)
          have hge' : (j : Int) ≤ (h2 : Int) := by omega
          clear HOV HDiv HMul HOV2
          go_wp2_with fail
          refine (Over_any txtChoice _).mono ?_
          rintro e w2 ⟨ev, rfl, hv, hb2⟩
          have HV := Lib.hid hv
          clear hv
          go_wp2_with fail
          go_ret2
          exact ⟨ev, by rw [tn_not HF.out]; rfl, by rw [te_not HF.out]; exact HV.out, HB.out.andThen hb2⟩
        · have hge' : ¬ (j : Int) ≤ (h2 : Int) := by omega
          have HDiv' := Lib.hid (HDiv.out (by omega) w1)
          have hq9 := HFit.out (by omega)
          clear HDiv HOV HMul
          go_wp2_with fail
          refine HDiv'.out.mono ?_
          rintro e w2 ⟨r, rfl, hbd⟩
          replace HB := Lib.hid (HB.out.andThen hbd)
          clear HDiv' hbd
          by_cases hq2 : 9223372036854775807 < q
          · have HF := Lib.hid (HOV2.out hq2)
            have hq2' : (9223372036854775807 : Int) < (q : Int) := by omega
            go_wp2_with fail
            refine (Over_any txtChoice _).mono ?_
            rintro e w3 ⟨ev, rfl, hv, hb2⟩
            have HV := Lib.hid hv
            clear hv
            go_wp2_with fail
            go_ret2
            exact ⟨ev, by rw [tn_not HF.out]; rfl, by rw [te_not HF.out]; exact HV.out, HB.out.andThen hb2⟩
          · have hq2' : ¬ (9223372036854775807 : Int) < (q : Int) := by omega
            have hw6 : IntKind.u64.wrap ((j : Int) + 1) = (j : Int) + 1 := by rw [IntKind.wrap_u64]; omega
            go_wp2_with fail
            go_roundw
            case rel => exact ⟨i + 1, q, by omega, by rw [HJ.out]; rfl, rfl, by rw [HQ.out, show mj = m + (i + 1) by have := HJ.out; omega, HJ.out], by omega, HB.out⟩
            case measure => simp [intOf]; omega
      · obtain rfl : i = K := by omega
        have hlt' : ¬ ((i + 1 : Nat) : Int) ≤ (i : Int) := by omega
        have hw6 : IntKind.i64.wrap (c : Int) = (c : Int) := by rw [IntKind.wrap_i64]; omega
        have HF := Lib.hid (show fitB (c : Int) = true from fitB_true (by omega))
        have HCn := Lib.hid (show c = ch n i by rw [HC.out, HM.out])
        generalize ((i + 1 : Nat) : Int) = j at *
        go_wp2_with fail
        go_ret2
        exact ⟨.nilIface, by rw [← HCn.out, tn_fit HF.out]; rfl, by rw [← HCn.out, te_fit HF.out]; rfl, HB.out⟩

theorem alive02 (w : World) (hg : ErrT w) : Calls Tryd.prog 42 #[] w fun e w' => e = .returned (.bool true) ∧ Below w.heap.size w w' := by
  have h1 := NumsChoose_any 5 2 w (by omega) (by omega)
  rw [show ch 5 2 = 10 from rfl, show tn ((10 : Nat) : Int) = 10 from rfl, show te txtChoice ((10 : Nat) : Int) = .nil from rfl] at h1
  have H1 := Lib.hid h1
  have H2 := Lib.hid (fun W => NumsAdd_any 9223372036854775807 1 W (by omega) (by omega))
  rw [show te txtSum (9223372036854775807 + 1) = .flt 7 0 txtSum from rfl] at H2
  clear h1
  go_enter Tryd.func42, Tryd.ntmps42
  go_wp2_with fail
  refine H1.out.mono ?_
  rintro e w1 ⟨ev, rfl, hev, hb1⟩
  obtain rfl : ev = .nilIface := hev
  clear H1
  have HB1 := Lib.hid hb1
  clear hb1
  go_wp2_with fail
  refine (H2.out w1).mono ?_
  rintro e w2 ⟨ev, rfl, hev, hb2⟩
  have HC := Lib.hid (Code_any _ ev w2 hev ((hg.keep HB1.out).keep hb2))
  have HB2 := Lib.hid (HB1.out.andThen hb2)
  clear H2 hev hb2
  go_wp2_with fail
  refine HC.out.mono ?_
  rintro e w3 ⟨rfl, hb3⟩
  rw [show (Err.flt 7 0 txtSum).code = 7 from rfl]
  have HB3 := Lib.hid (HB2.out.andThen hb3)
  clear HC hb3
  go_wp2_with fail
  go_ret
  exact ⟨rfl, HB3.out⟩
end Go.Proofs.YtclbbchljiagpaaDoor
