/-
  Contracts: nums.Choose for a first number of at most 9, sets.Count.
-/
import Derived.Test.YtakkdpnaoahpcaaNumP
import Derived.Test.YtakkdpnaoahpcaaSame
import Derived.Test.YtakkdpnaoahpcaaWords3
import Derived.Test.YtakkdpnaoahpcaaPicksP
import Derived.BigQuiet
import Derived.Lib.Mul64
import Derived.Shelf.Bits.Mul64
namespace Go.Proofs.Ytakkdpnaoahpcaa
open Go.RowKit Go.Lib
set_option maxRecDepth 100000
set_option linter.unusedVariables false

theorem NewS_any (c a : Int) (s : ByteArray) (w : World) :
    Calls Try.prog 50 #[.int .i64 c, .int .i64 a, .string s] w fun e w' => ∃ g, e = .returned (.iface 69 (.pointer (some ⟨g, 0, none⟩))) ∧ Below w.heap.size w w' := by
  go_enter Try.func50, Try.ntmps50
  go_wp2
  go_ret
  exact ⟨_, rfl, bel_al (Below.refl _ _) _⟩

set_option maxHeartbeats 1000000 in
theorem Mul64S_any (x y : Nat) (hx : x < 18446744073709551616) (hy : y < 18446744073709551616) (w : World) :
    Calls Try.prog 51 #[.int .u64 x, .int .u64 y] w fun e w' => e = .returned (.tuple #[.int .u64 ((x * y / 18446744073709551616 : Nat) : Int), .int .u64 ((x * y % 18446744073709551616 : Nat) : Int)]) ∧ w' = w := by
  obtain ⟨bd, bt, bw, hhi⟩ := Lib.mul64_hi x y hx hy
  have ba := Lib.half_mul_le (a := x / 4294967296) (b := y / 4294967296) (by omega) (by omega)
  have bb := Lib.half_mul_le (a := x / 4294967296) (b := y % 4294967296) (by omega) (by omega)
  have bc := Lib.half_mul_le (a := x % 4294967296) (b := y / 4294967296) (by omega) (by omega)
  have ba' : x / 4294967296 * (y / 4294967296) < 18446744073709551616 := by omega
  have bb' : x / 4294967296 * (y % 4294967296) < 18446744073709551616 := by omega
  have bc' : x % 4294967296 * (y / 4294967296) < 18446744073709551616 := by omega
  have bh1 : x / 4294967296 * (y / 4294967296) + (x / 4294967296 * (y % 4294967296) + x % 4294967296 * (y % 4294967296) / 4294967296) / 4294967296 < 18446744073709551616 := by omega
  have bh : x / 4294967296 * (y / 4294967296) + (x / 4294967296 * (y % 4294967296) + x % 4294967296 * (y % 4294967296) / 4294967296) / 4294967296 + ((x / 4294967296 * (y % 4294967296) + x % 4294967296 * (y % 4294967296) / 4294967296) % 4294967296 + x % 4294967296 * (y / 4294967296)) / 4294967296 < 18446744073709551616 := by omega
  go_enter Try.func51, Try.ntmps51
  go_wp2
  simp only [Mul64.maskN x hx, Mul64.maskN y hy, Mul64.divN, Mul64.mulN, Mul64.addN, Mul64.wrapN _ bd, Mul64.wrapN _ bb', Mul64.wrapN _ bt, Mul64.maskN _ bt, Mul64.wrapN _ bc', Mul64.wrapN _ bw, Mul64.wrapN _ ba', Mul64.wrapN _ bh1, Mul64.wrapN _ bh, Mul64.wrapM (x * y)]
  rw [hhi]
  go_ret2
  exact ⟨rfl, rfl⟩

theorem Div64S_any (lo y : Nat) (w : World) (hy : 0 < y) (hy9 : y < 18446744073709551616) (hlo : lo < 18446744073709551616) :
    Calls Try.prog 53 #[.int .u64 0, .int .u64 (lo : Int), .int .u64 (y : Int)] w fun e w' => ∃ r, e = .returned (.tuple #[.int .u64 (lo / y : Nat), r]) ∧ Below w.heap.size w w' := by
  have e1 : ((y : Int) == 0) = false := by simp; omega
  have e2 : ¬ (y : Int) ≤ 0 := by omega
  obtain ⟨q, hq⟩ : ∃ q, q = lo / y := ⟨_, rfl⟩
  rw [← hq]
  have hq2 : q ≤ lo := by rw [hq]; exact Nat.div_le_self _ _
  have f3 : IntKind.u64.wrap ((lo : Int).tdiv (y : Int)) = (q : Int) := by rw [← Int.ofNat_tdiv, ← hq, IntKind.wrap_u64]; omega
  have f3' : (lo : Int) / (y : Int) = (q : Int) := by rw [← Int.natCast_ediv, ← hq]
  clear hq
  go_enter Try.func53, Try.ntmps53
  go_wp2_with fail
  go_quiet (fail)
  go_wp2_with fail
  go_ret2
  exact ⟨_, rfl, drew_bel ⟨_, rfl⟩⟩

theorem ChooseS_neg (n k : Int) (w : World) (hn : ¬ n < 0) (hk : k < 0) :
    Calls Try.prog 41 #[.int .i64 n, .int .i64 k] w fun e w' => ∃ g, e = .returned (.tuple #[.int .i64 0, .iface 69 (.pointer (some ⟨g, 0, none⟩))]) ∧ Below w.heap.size w w' := by
  go_enter Try.func41, Try.ntmps41
  go_wp2_with fail
  refine (NewS_any 1 0 _ w).mono ?_
  rintro e w1 ⟨g, rfl, hb1⟩
  go_wp2_with fail
  go_ret2
  exact ⟨g, rfl, hb1⟩

theorem ch_few : ∀ n, n ≤ 9 → ∀ k, ch n k ≤ 512 := fun n hn k => Nat.le_trans (ch_le n k) (Nat.pow_le_pow_right (by omega) hn)

set_option maxHeartbeats 4000000 in
theorem ChooseS_any (n : Nat) (k : Nat) (w : World) (hn : n ≤ 9) (hk : k ≤ 9223372036854775807) :
    Calls Try.prog 41 #[.int .i64 (n : Int), .int .i64 (k : Int)] w fun e w' => e = .returned (.tuple #[.int .i64 (ch n k : Nat), .nilIface]) ∧ Below w.heap.size w w' := by
  have hn0 : ¬ (n : Int) < 0 := by omega
  have hk0 : ¬ (k : Int) < 0 := by omega
  by_cases hkn : n < k
  · rw [ch_out hkn]
    have h1 : (n : Int) < (k : Int) := by omega
    go_enter Try.func41, Try.ntmps41
    go_wp2_with fail
    go_ret2
    exact ⟨rfl, Below.refl _ _⟩
  · have h1 : ¬ (n : Int) < (k : Int) := by omega
    obtain ⟨K, hK⟩ : ∃ K, K = min k (n - k) := ⟨_, rfl⟩
    have hch : ch n k = ch n K := by rw [hK, ch_min (by omega)]
    rw [hch]
    obtain ⟨m, hm⟩ : ∃ m, n = m + K := ⟨n - K, by omega⟩
    have hKm : K ≤ m := by omega
    have hKn : K ≤ n := by omega
    obtain ⟨d, hd⟩ : ∃ d : Nat, (n : Int) - (k : Int) = (d : Int) ∧ d = n - k := ⟨n - k, by omega, rfl⟩
    have hd1 := hd.1
    have hw1 : IntKind.i64.wrap ((n : Int) - (k : Int)) = (d : Int) := by rw [IntKind.wrap_i64]; omega
    have hmin : (if (d : Int) < (k : Int) then (d : Int) else (k : Int)) = (K : Int) := by split <;> omega
    have hmin2 : (if (k : Int) < (d : Int) then (k : Int) else (d : Int)) = (K : Int) := by split <;> omega
    have hmin3 : min (k : Int) (d : Int) = (K : Int) := by omega
    have hw2 : IntKind.u64.wrap (K : Int) = (K : Int) := by rw [IntKind.wrap_u64]; omega
    have hw3 : (n : Int) - (K : Int) = (m : Int) := by omega
    have hw4 : IntKind.u64.wrap (m : Int) = (m : Int) := by rw [IntKind.wrap_u64]; omega
    have HM := Lib.hid hm
    have hm9 : m ≤ 9 := by omega
    have hdk := hd.2
    have hcase : (d < k ∧ K = d ∧ m = k) ∨ (¬ d < k ∧ K = k ∧ m = d) := by omega
    clear hch hK hm hd hmin hmin2 hmin3 hdk
    rcases hcase with ⟨hdk1, rfl, rfl⟩ | ⟨hdk1, rfl, rfl⟩
    all_goals (
      go_enter Try.func41, Try.ntmps41
      go_wp2_with fail
      clear hw1 hd1 hkn h1 hn0 hk0
      go_loopw [6, 7] (fun cv iv wr => ∃ (i c : Nat), i ≤ K ∧ iv = .int .u64 ((i + 1 : Nat) : Int) ∧ cv = .int .u64 (c : Int) ∧ c = ch (m + i) i ∧ Below w.heap.size w wr) (fun _ iv _ => K + 1 - (intOf iv).toNat)
      case atStart => exact ⟨0, 1, Nat.zero_le _, rfl, rfl, by rw [ch_zero], Below.refl _ _⟩
      case round =>
        obtain ⟨i, c, hi, rfl, rfl, hc, hb⟩ := hrel
        have hc5 : c ≤ 512 := by rw [hc]; exact ch_few _ (by have := HM.out; omega) _
        have HB := Lib.hid hb
        have HC := Lib.hid hc
        clear hb hc
        by_cases hlt : i < K
        · have hlt' : ((i + 1 : Nat) : Int) ≤ (K : Int) := by omega
          obtain ⟨P, hP⟩ : ∃ P, P = c * (m + (i + 1)) := ⟨_, rfl⟩
          have hP5 : P ≤ 512 * 9 := by rw [hP]; exact Nat.mul_le_mul hc5 (by have := HM.out; omega)
          have hquo : P / (i + 1) = ch (m + (i + 1)) (i + 1) := by rw [hP, HC.out]; exact ch_next m i
          have hMul := Mul64S_any c (m + (i + 1)) (by omega) (by omega) wr
          rw [← hP, show P / 18446744073709551616 = 0 by omega, show P % 18446744073709551616 = P by omega] at hMul
          have HMul := Lib.hid hMul
          clear hMul hP
          obtain ⟨j, hj⟩ : ∃ j, j = i + 1 := ⟨_, rfl⟩
          rw [← hj] at hlt' hquo HMul ⊢
          obtain ⟨q, hq⟩ : ∃ q, q = ch (m + j) j := ⟨_, rfl⟩
          rw [← hq] at hquo
          have hq5 : q ≤ 512 := by rw [hq]; exact ch_few _ (by have := HM.out; omega) _
          have hq6 : ¬ (9223372036854775807 : Int) < (q : Int) := by omega
          have hj0 : ¬ (j : Int) ≤ 0 := by omega
          have HQ := Lib.hid hq
          have hw5 : IntKind.u64.wrap ((m : Int) + (j : Int)) = ((m + j : Nat) : Int) := by rw [IntKind.wrap_u64]; omega
          have hw5' : (m : Int) + (j : Int) = ((m + j : Nat) : Int) := by omega
          have HJ := Lib.hid hj
          clear hj hq
          obtain ⟨mj, hmj⟩ : ∃ mj, mj = m + j := ⟨_, rfl⟩
          rw [← hmj] at hw5 hw5' HMul
          clear hmj
          have HDiv := Lib.hid (fun W => Div64S_any P j W (by omega) (by omega) (by omega))
          rw [hquo] at HDiv
          clear hquo
          go_wp2_with fail
          refine HMul.out.mono ?_
          rintro e w1 ⟨rfl, rfl⟩
          go_wp2_with fail
          refine (HDiv.out _).mono ?_
          rintro e w2 ⟨r, rfl, hb2⟩
          have HB2 := Lib.hid (HB.out.andThen hb2)
          clear hb2 HDiv HMul HB
          go_wp2_with fail
          go_roundw
          case rel => exact ⟨i + 1, q, by omega, by rw [HJ.out]; go_num, rfl, by rw [← HJ.out]; exact HQ.out, HB2.out⟩
          case measure => simp [intOf]; omega
        · have hiK : i = K := by omega
          subst hiK
          have hlt' : ¬ ((i + 1 : Nat) : Int) ≤ (i : Int) := by omega
          have hwc : IntKind.i64.wrap (c : Int) = (c : Int) := by rw [IntKind.wrap_i64]; omega
          go_wp2_with fail
          have HE := Lib.hid (show c = ch n i by rw [HC.out, HM.out])
          go_ret2
          exact ⟨by rw [← HE.out]; rfl, HB.out⟩)

/-- How many choices there are: -1 of fewer than none. -/
theorem Count_any (n : Nat) (k : Int) (w : World) (hn : n ≤ 9) (hk : k ≤ 9223372036854775807) :
    Calls Try.prog 27 #[.int .i64 (n : Int), .int .i64 k] w fun e w' => e = .returned (.int .i64 (if k < 0 then -1 else (ch n k.toNat : Nat))) ∧ Below w.heap.size w w' := by
  by_cases h : k < 0
  · rw [if_pos h]
    have HC := Lib.hid (ChooseS_neg (n : Int) k w (by omega) h)
    clear h
    go_enter Try.func27, Try.ntmps27
    go_wp2_with fail
    refine HC.out.mono ?_
    rintro e w1 ⟨g, rfl, hb⟩
    go_wp2_with fail
    go_ret
    exact ⟨rfl, hb⟩
  · rw [if_neg h]
    obtain ⟨j, rfl⟩ : ∃ j : Nat, k = (j : Int) := ⟨k.toNat, by omega⟩
    have HC := Lib.hid (ChooseS_any n j w hn (by omega))
    rw [Int.toNat_natCast]
    clear h
    go_enter Try.func27, Try.ntmps27
    go_wp2_with fail
    refine HC.out.mono ?_
    rintro e w1 ⟨rfl, hb⟩
    go_wp2_with fail
    go_ret
    exact ⟨rfl, hb⟩

theorem combos_count : ∀ (k : Nat) (S : List Int), (combos k S).length = ch S.length k
  | 0, S => by rw [combos_zero, ch_zero]; rfl
  | k + 1, [] => by rw [combos]; exact (ch_out (by simp)).symm
  | k + 1, x :: S => by
    rw [combos, List.length_append, List.length_map, combos_count k S, combos_count (k + 1) S, List.length_cons, ch_succ]
theorem choices_count (S : List Int) (k : Nat) : (choices S (k : Int)).length = ch S.length k := by
  unfold choices
  split
  · rw [Int.toNat_natCast, combos_count]
  · rw [ch_out (by omega)]; rfl
theorem choices_neg (S : List Int) (k : Int) (h : k < 0) : choices S k = [] := if_neg (by omega)
end Go.Proofs.Ytakkdpnaoahpcaa
