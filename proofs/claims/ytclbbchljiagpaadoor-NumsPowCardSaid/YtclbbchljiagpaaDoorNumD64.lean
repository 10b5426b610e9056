/-
  Contracts: bits.LeadingZeros64 (the library's shelf, laid over this seat's translation), Div64 for small divisors.
-/
import Derived.Test.YtclbbchljiagpaaDoorNumS
import Derived.Shelf.Small.Bits
import Derived.Deep.DeepCutAuto
import Derived.BigQuiet
namespace Go.Proofs.YtclbbchljiagpaaDoor
open Go.RowKit Go.Shelf
set_option maxRecDepth 100000
set_option linter.unusedVariables false

def lz_lays_ren : Go.Shelf.Ren := ⟨fun | 129 => 97 | 134 => 91 | n => n, fun | 3 => 3 | 4 => 4 | 5 => 5 | 9 => 9 | 46 => 99 | 53 => 105 | n => n, fun | n => n⟩
theorem lz_lays : Lays.n134 Tryd.prog lz_lays_ren := {
  mixed := by kernel_rfl
  f129 := Tryd.func97.trans (congrArg some (by kernel_rfl))
  f134 := Tryd.func91.trans (congrArg some (by kernel_rfl))
  t3 := Tryd.underlying3
  a3 := Tryd.isAgg3
  z3 := Tryd.sizeOf3
  v3 := Tryd.zeroValue3
  t4 := Tryd.underlying4
  a4 := Tryd.isAgg4
  z4 := Tryd.sizeOf4
  v4 := Tryd.zeroValue4
  t5 := Tryd.underlying5
  a5 := Tryd.isAgg5
  z5 := Tryd.sizeOf5
  v5 := Tryd.zeroValue5
  t9 := Tryd.underlying9
  a9 := Tryd.isAgg9
  z9 := Tryd.sizeOf9
  v9 := Tryd.zeroValue9
  t46 := Tryd.underlying99
  a46 := Tryd.isAgg99
  z46 := Tryd.sizeOf99
  v46 := Tryd.zeroValue99
  t53 := Tryd.underlying105
  a53 := Tryd.isAgg105
  z53 := Tryd.sizeOf105
  v53 := Tryd.zeroValue105 }

theorem Lead_any (y L : Nat) (w : World) (h : y < 256) (hL : Lib.bitLen y = L) :
    Calls Tryd.prog 91 #[.int .u64 (y : Int)] w fun e w' => e = .returned (.int .i64 (64 - (L : Int))) ∧ w' = w := by
  have h := Go.Proofs.Any.bits_LeadingZeros64 lz_lays (y : Int) w (by omega) (by omega)
  rw [Int.toNat_natCast, hL] at h
  exact h

/-- How many bits a small number has. -/
theorem bits_few (y : Nat) (h : y < 256) : ∀ k, k < 8 → 2 ^ k ≤ y → y < 2 ^ (k + 1) → Lib.bitLen y = k + 1 := by
  have H : ∀ y : Fin 256, ∀ k : Fin 8, 2 ^ k.val ≤ y.val → y.val < 2 ^ (k.val + 1) → Lib.bitLen y.val = k.val + 1 := by decide +kernel
  intro k hk h1 h2
  exact H ⟨y, h⟩ ⟨k, hk⟩ h1 h2
theorem longdiv {X y S U u N : Nat} (hS : 0 < S) (h1 : X * S = (U * 4294967296 + u) * 4294967296) (h2 : y * S = N * 4294967296) (hN : 0 < N) : X / y = U / N * 4294967296 + (U % N * 4294967296 + u) / N := by
  have e1 : X / y = X * S / (y * S) := (Nat.mul_div_mul_right X y hS).symm
  rw [e1, h1, h2, Nat.mul_div_mul_right _ _ (by omega)]
  have e2 : U * 4294967296 + u = (U % N * 4294967296 + u) + N * (U / N * 4294967296) := by
    have := Nat.div_add_mod U N
    have e3 : U * 4294967296 = N * (U / N) * 4294967296 + U % N * 4294967296 := by rw [← Nat.add_mul, this]
    rw [e3, Nat.mul_assoc]; omega
  rw [e2, Nat.add_mul_div_left _ _ hN]; omega

theorem divparts {U N u : Nat} (h1 : U < N * 4294967296) (h2 : u < 4294967296) (h3 : 0 < N) (h4 : N < 4294967296) : ∃ q1 R1 V q0 R0 P1 P0 : Nat, q1 = U / N ∧ R1 = U % N ∧ V = R1 * 4294967296 + u ∧ q0 = V / N ∧ R0 = V % N ∧ P1 = q1 * N ∧ P0 = q0 * N ∧ U = P1 + R1 ∧ V = P0 + R0 ∧ q1 < 4294967296 ∧ q0 < 4294967296 ∧ R1 < N ∧ R0 < N := by
  have hm := Nat.mod_lt U h3
  refine ⟨_, _, _, _, _, _, _, rfl, rfl, rfl, rfl, rfl, rfl, rfl, ?_, ?_, ?_, ?_, hm, Nat.mod_lt _ h3⟩
  · exact (Nat.div_add_mod' _ _).symm
  · exact (Nat.div_add_mod' _ _).symm
  · exact Nat.div_lt_of_lt_mul h1
  · refine Nat.div_lt_of_lt_mul ?_
    have : (U % N + 1) * 4294967296 ≤ N * 4294967296 := Nat.mul_le_mul_right _ hm
    omega

set_option maxRecDepth 1000000 in
set_option maxHeartbeats 4000000 in
theorem Div64_long1 (hi lo y : Nat) (w : World) (h0 : 0 < hi) (hh : hi < y) (hlo : lo < 18446744073709551616) (hb : Lib.bitLen y = 1 + 1) (hy1 : 2 ≤ y) (hy2 : y < 4) :
    Calls Tryd.prog 83 #[.int .u64 (hi : Int), .int .u64 (lo : Int), .int .u64 (y : Int)] w fun e w' => ∃ r, e = .returned (.tuple #[.int .u64 ((hi * 18446744073709551616 + lo) / y : Nat), r]) ∧ w' = w := by
  have HL := Lib.hid (Lead_any y (1 + 1) w (by omega) hb)
  clear hb
  obtain ⟨U, N, M, u, hU, hN, hM, hu⟩ : ∃ U N M u : Nat, U = hi * 4611686018427387904 + lo / 4 ∧ N = y * 1073741824 ∧ M = lo % 4 * 4611686018427387904 ∧ u = lo % 4 * 1073741824 := ⟨_, _, _, _, rfl, rfl, rfl, rfl⟩
  obtain ⟨q1, R1, V, q0, R0, P1, P0, hq1, hR1, hV, hq0, hR0, hP1, hP0, hs1, hs0, b1, b2, b3, b4⟩ := divparts (U := U) (N := N) (u := u) (by omega) (by omega) (by omega) (by omega)
  have hQ : (hi * 18446744073709551616 + lo) / y = q1 * 4294967296 + q0 := by
    rw [longdiv (X := hi * 18446744073709551616 + lo) (y := y) (S := 4611686018427387904) (U := U) (u := u) (N := N) (by omega) (by omega) (by omega) (by omega), ← hq1, ← hR1, ← hV, ← hq0]
  obtain ⟨Q, hQ2⟩ : ∃ Q, Q = (hi * 18446744073709551616 + lo) / y := ⟨_, rfl⟩
  rw [← hQ2] at hQ ⊢
  clear hQ2
  have e1 : ((y : Int) == 0) = false := by simp; omega
  have e2 : ¬ (y : Int) ≤ (hi : Int) := by omega
  have e3 : ((hi : Int) == 0) = false := by simp; omega
  have f1 : bits .or .u64 ((hi : Int) * 4611686018427387904) ((lo : Int) / 4) = (U : Int) := by
    have h := bits_or_u64_nat (hi * 4611686018427387904) (lo / 4) (by omega) (by omega)
    have h2 := Nat.two_pow_add_eq_or_of_lt (b := lo / 4) (i := 62) (by omega) hi
    rw [Nat.mul_comm] at h2
    have h3 : hi * 2 ^ 62 = hi * 4611686018427387904 := rfl
    rw [h3] at h2
    rw [← h2, ← hU] at h
    exact h
  have f2 : (y : Int) * 4611686018427387904 / 4294967296 = (N : Int) := by omega
  have f2' : ((N : Int) == 0) = false := by simp; omega
  have f3 : IntKind.u64.wrap ((U : Int).tdiv (N : Int)) = (q1 : Int) := by rw [← Int.ofNat_tdiv, ← hq1, IntKind.wrap_u64]; omega
  have f3' : (U : Int) / (N : Int) = (q1 : Int) := by rw [← Int.natCast_ediv, ← hq1]
  have f4 : IntKind.u64.wrap ((q1 : Int) * (N : Int)) = (P1 : Int) := by rw [← Int.natCast_mul, ← hP1, IntKind.wrap_u64]; omega
  have f5 : IntKind.u64.wrap ((U : Int) - (P1 : Int)) = (R1 : Int) := by rw [IntKind.wrap_u64]; omega
  have f6 : bits .and .u64 ((y : Int) * 4611686018427387904) 4294967295 = 0 := by
    have h := Mul64.maskN (y * 4611686018427387904) (by omega)
    rw [show y * 4611686018427387904 % 4294967296 = 0 by omega] at h
    exact h
  obtain ⟨T1, hT1⟩ : ∃ T1, T1 = 4294967296 * R1 := ⟨_, rfl⟩
  have f7 : IntKind.u64.wrap (4294967296 * (R1 : Int)) = (T1 : Int) := by rw [IntKind.wrap_u64]; omega
  have f8 : IntKind.u64.wrap ((lo : Int) * 4611686018427387904) = (M : Int) := by rw [IntKind.wrap_u64]; omega
  have f9 : (M : Int) / 4294967296 = (u : Int) := by omega
  have f10 : IntKind.u64.wrap ((T1 : Int) + (u : Int)) = (V : Int) := by rw [IntKind.wrap_u64]; omega
  have f11 : ¬ (V : Int) < 0 := by omega
  have f12 : bits .and .u64 (M : Int) 4294967295 = 0 := by
    have h := Mul64.maskN M (by omega)
    rw [show M % 4294967296 = 0 by omega] at h
    exact h
  obtain ⟨A, hA⟩ : ∃ A, A = U * 4294967296 % 18446744073709551616 := ⟨_, rfl⟩
  have f13 : IntKind.u64.wrap ((U : Int) * 4294967296) = (A : Int) := by rw [IntKind.wrap_u64]; omega
  obtain ⟨B, hB⟩ : ∃ B, B = (A + u) % 18446744073709551616 := ⟨_, rfl⟩
  have f14 : IntKind.u64.wrap ((A : Int) + (u : Int)) = (B : Int) := by rw [IntKind.wrap_u64]; omega
  obtain ⟨C, hC⟩ : ∃ C, C = P1 * 4294967296 % 18446744073709551616 := ⟨_, rfl⟩
  have f15 : IntKind.u64.wrap ((q1 : Int) * ((y : Int) * 4611686018427387904)) = (C : Int) := by
    have h : (q1 : Int) * ((y : Int) * 4611686018427387904) = (P1 : Int) * 4294967296 := by
      rw [show (y : Int) * 4611686018427387904 = (N : Int) * 4294967296 by omega, ← Int.mul_assoc, ← Int.natCast_mul, ← hP1]
    rw [h, IntKind.wrap_u64]; omega
  have f16 : IntKind.u64.wrap ((B : Int) - (C : Int)) = (V : Int) := by rw [IntKind.wrap_u64]; omega
  have f17 : IntKind.u64.wrap ((V : Int).tdiv (N : Int)) = (q0 : Int) := by rw [← Int.ofNat_tdiv, ← hq0, IntKind.wrap_u64]; omega
  have f17' : (V : Int) / (N : Int) = (q0 : Int) := by rw [← Int.natCast_ediv, ← hq0]
  have f18 : IntKind.u64.wrap ((q0 : Int) * (N : Int)) = (P0 : Int) := by rw [← Int.natCast_mul, ← hP0, IntKind.wrap_u64]; omega
  have f19 : IntKind.u64.wrap ((V : Int) - (P0 : Int)) = (R0 : Int) := by rw [IntKind.wrap_u64]; omega
  obtain ⟨T0, hT0⟩ : ∃ T0, T0 = 4294967296 * R0 := ⟨_, rfl⟩
  have f20 : IntKind.u64.wrap (4294967296 * (R0 : Int)) = (T0 : Int) := by rw [IntKind.wrap_u64]; omega
  have f20' : IntKind.u64.wrap (T0 : Int) = (T0 : Int) := by rw [IntKind.wrap_u64]; omega
  have f20'' : ¬ (T0 : Int) < 0 := by omega
  have f21 : ¬ (4294967296 : Int) ≤ (q1 : Int) := by omega
  have f22 : ¬ (4294967296 : Int) ≤ (q0 : Int) := by omega
  obtain ⟨E, hE⟩ : ∃ E, E = q1 * 4294967296 := ⟨_, rfl⟩
  have f23 : IntKind.u64.wrap ((q1 : Int) * 4294967296) = (E : Int) := by rw [IntKind.wrap_u64]; omega
  have f24 : IntKind.u64.wrap ((E : Int) + (q0 : Int)) = (Q : Int) := by rw [IntKind.wrap_u64]; omega
  have f29 : decide ((4294967296 : Int) ≤ (q1 : Int)) = false := decide_eq_false (by omega)
  have f30 : decide ((4294967296 : Int) ≤ (q0 : Int)) = false := decide_eq_false (by omega)
  have f31 : decide ((V : Int) < 0) = false := decide_eq_false (by omega)
  have f32 : decide ((T0 : Int) < 0) = false := decide_eq_false (by omega)
  have f27 : IntKind.u64.wrap (q1 : Int) = (q1 : Int) := by rw [IntKind.wrap_u64]; omega
  have f28 : IntKind.u64.wrap (q0 : Int) = (q0 : Int) := by rw [IntKind.wrap_u64]; omega
  clear f11 f20'' f21 f22
  clear hQ hE hT0 hC hB hA hT1 hU hN hM hu hq1 hR1 hV hq0 hR0 hP1 hP0 hs1 hs0 b1 b2 b3 b4
  go_enter Tryd.func83, Tryd.ntmps83
  go_wp2_with fail
  refine HL.out.mono ?_
  rintro e w1 ⟨rfl, rfl⟩
  clear HL
  go_wp2_with fail
  go_loopw [15, 16] (fun qv rv wr => qv = .int .u64 (q1 : Int) ∧ rv = .int .u64 (R1 : Int) ∧ wr = w1) (fun _ _ _ => 0)
  case atStart => exact ⟨rfl, rfl, rfl⟩
  case round =>
    obtain ⟨rfl, rfl, rfl⟩ := hrel
    go_wp2_with fail
    go_loopw [18, 16] (fun qv rv w2 => qv = .int .u64 (q0 : Int) ∧ rv = .int .u64 (R0 : Int) ∧ w2 = wr) (fun _ _ _ => 0)
    case atStart => exact ⟨rfl, rfl, rfl⟩
    case round =>
      obtain ⟨rfl, rfl, rfl⟩ := hrel
      go_wp2_with fail
      go_ret2
      exact ⟨_, rfl, rfl⟩

set_option maxRecDepth 1000000 in
set_option maxHeartbeats 4000000 in
theorem Div64_long2 (hi lo y : Nat) (w : World) (h0 : 0 < hi) (hh : hi < y) (hlo : lo < 18446744073709551616) (hb : Lib.bitLen y = 2 + 1) (hy1 : 4 ≤ y) (hy2 : y < 8) :
    Calls Tryd.prog 83 #[.int .u64 (hi : Int), .int .u64 (lo : Int), .int .u64 (y : Int)] w fun e w' => ∃ r, e = .returned (.tuple #[.int .u64 ((hi * 18446744073709551616 + lo) / y : Nat), r]) ∧ w' = w := by
  have HL := Lib.hid (Lead_any y (2 + 1) w (by omega) hb)
  clear hb
  obtain ⟨U, N, M, u, hU, hN, hM, hu⟩ : ∃ U N M u : Nat, U = hi * 2305843009213693952 + lo / 8 ∧ N = y * 536870912 ∧ M = lo % 8 * 2305843009213693952 ∧ u = lo % 8 * 536870912 := ⟨_, _, _, _, rfl, rfl, rfl, rfl⟩
  obtain ⟨q1, R1, V, q0, R0, P1, P0, hq1, hR1, hV, hq0, hR0, hP1, hP0, hs1, hs0, b1, b2, b3, b4⟩ := divparts (U := U) (N := N) (u := u) (by omega) (by omega) (by omega) (by omega)
  have hQ : (hi * 18446744073709551616 + lo) / y = q1 * 4294967296 + q0 := by
    rw [longdiv (X := hi * 18446744073709551616 + lo) (y := y) (S := 2305843009213693952) (U := U) (u := u) (N := N) (by omega) (by omega) (by omega) (by omega), ← hq1, ← hR1, ← hV, ← hq0]
  obtain ⟨Q, hQ2⟩ : ∃ Q, Q = (hi * 18446744073709551616 + lo) / y := ⟨_, rfl⟩
  rw [← hQ2] at hQ ⊢
  clear hQ2
  have e1 : ((y : Int) == 0) = false := by simp; omega
  have e2 : ¬ (y : Int) ≤ (hi : Int) := by omega
  have e3 : ((hi : Int) == 0) = false := by simp; omega
  have f1 : bits .or .u64 ((hi : Int) * 2305843009213693952) ((lo : Int) / 8) = (U : Int) := by
    have h := bits_or_u64_nat (hi * 2305843009213693952) (lo / 8) (by omega) (by omega)
    have h2 := Nat.two_pow_add_eq_or_of_lt (b := lo / 8) (i := 61) (by omega) hi
    rw [Nat.mul_comm] at h2
    have h3 : hi * 2 ^ 61 = hi * 2305843009213693952 := rfl
    rw [h3] at h2
    rw [← h2, ← hU] at h
    exact h
  have f2 : (y : Int) * 2305843009213693952 / 4294967296 = (N : Int) := by omega
  have f2' : ((N : Int) == 0) = false := by simp; omega
  have f3 : IntKind.u64.wrap ((U : Int).tdiv (N : Int)) = (q1 : Int) := by rw [← Int.ofNat_tdiv, ← hq1, IntKind.wrap_u64]; omega
  have f3' : (U : Int) / (N : Int) = (q1 : Int) := by rw [← Int.natCast_ediv, ← hq1]
  have f4 : IntKind.u64.wrap ((q1 : Int) * (N : Int)) = (P1 : Int) := by rw [← Int.natCast_mul, ← hP1, IntKind.wrap_u64]; omega
  have f5 : IntKind.u64.wrap ((U : Int) - (P1 : Int)) = (R1 : Int) := by rw [IntKind.wrap_u64]; omega
  have f6 : bits .and .u64 ((y : Int) * 2305843009213693952) 4294967295 = 0 := by
    have h := Mul64.maskN (y * 2305843009213693952) (by omega)
    rw [show y * 2305843009213693952 % 4294967296 = 0 by omega] at h
    exact h
  obtain ⟨T1, hT1⟩ : ∃ T1, T1 = 4294967296 * R1 := ⟨_, rfl⟩
  have f7 : IntKind.u64.wrap (4294967296 * (R1 : Int)) = (T1 : Int) := by rw [IntKind.wrap_u64]; omega
  have f8 : IntKind.u64.wrap ((lo : Int) * 2305843009213693952) = (M : Int) := by rw [IntKind.wrap_u64]; omega
  have f9 : (M : Int) / 4294967296 = (u : Int) := by omega
  have f10 : IntKind.u64.wrap ((T1 : Int) + (u : Int)) = (V : Int) := by rw [IntKind.wrap_u64]; omega
  have f11 : ¬ (V : Int) < 0 := by omega
  have f12 : bits .and .u64 (M : Int) 4294967295 = 0 := by
    have h := Mul64.maskN M (by omega)
    rw [show M % 4294967296 = 0 by omega] at h
    exact h
  obtain ⟨A, hA⟩ : ∃ A, A = U * 4294967296 % 18446744073709551616 := ⟨_, rfl⟩
  have f13 : IntKind.u64.wrap ((U : Int) * 4294967296) = (A : Int) := by rw [IntKind.wrap_u64]; omega
  obtain ⟨B, hB⟩ : ∃ B, B = (A + u) % 18446744073709551616 := ⟨_, rfl⟩
  have f14 : IntKind.u64.wrap ((A : Int) + (u : Int)) = (B : Int) := by rw [IntKind.wrap_u64]; omega
  obtain ⟨C, hC⟩ : ∃ C, C = P1 * 4294967296 % 18446744073709551616 := ⟨_, rfl⟩
  have f15 : IntKind.u64.wrap ((q1 : Int) * ((y : Int) * 2305843009213693952)) = (C : Int) := by
    have h : (q1 : Int) * ((y : Int) * 2305843009213693952) = (P1 : Int) * 4294967296 := by
      rw [show (y : Int) * 2305843009213693952 = (N : Int) * 4294967296 by omega, ← Int.mul_assoc, ← Int.natCast_mul, ← hP1]
    rw [h, IntKind.wrap_u64]; omega
  have f16 : IntKind.u64.wrap ((B : Int) - (C : Int)) = (V : Int) := by rw [IntKind.wrap_u64]; omega
  have f17 : IntKind.u64.wrap ((V : Int).tdiv (N : Int)) = (q0 : Int) := by rw [← Int.ofNat_tdiv, ← hq0, IntKind.wrap_u64]; omega
  have f17' : (V : Int) / (N : Int) = (q0 : Int) := by rw [← Int.natCast_ediv, ← hq0]
  have f18 : IntKind.u64.wrap ((q0 : Int) * (N : Int)) = (P0 : Int) := by rw [← Int.natCast_mul, ← hP0, IntKind.wrap_u64]; omega
  have f19 : IntKind.u64.wrap ((V : Int) - (P0 : Int)) = (R0 : Int) := by rw [IntKind.wrap_u64]; omega
  obtain ⟨T0, hT0⟩ : ∃ T0, T0 = 4294967296 * R0 := ⟨_, rfl⟩
  have f20 : IntKind.u64.wrap (4294967296 * (R0 : Int)) = (T0 : Int) := by rw [IntKind.wrap_u64]; omega
  have f20' : IntKind.u64.wrap (T0 : Int) = (T0 : Int) := by rw [IntKind.wrap_u64]; omega
  have f20'' : ¬ (T0 : Int) < 0 := by omega
  have f21 : ¬ (4294967296 : Int) ≤ (q1 : Int) := by omega
  have f22 : ¬ (4294967296 : Int) ≤ (q0 : Int) := by omega
  obtain ⟨E, hE⟩ : ∃ E, E = q1 * 4294967296 := ⟨_, rfl⟩
  have f23 : IntKind.u64.wrap ((q1 : Int) * 4294967296) = (E : Int) := by rw [IntKind.wrap_u64]; omega
  have f24 : IntKind.u64.wrap ((E : Int) + (q0 : Int)) = (Q : Int) := by rw [IntKind.wrap_u64]; omega
  have f29 : decide ((4294967296 : Int) ≤ (q1 : Int)) = false := decide_eq_false (by omega)
  have f30 : decide ((4294967296 : Int) ≤ (q0 : Int)) = false := decide_eq_false (by omega)
  have f31 : decide ((V : Int) < 0) = false := decide_eq_false (by omega)
  have f32 : decide ((T0 : Int) < 0) = false := decide_eq_false (by omega)
  have f27 : IntKind.u64.wrap (q1 : Int) = (q1 : Int) := by rw [IntKind.wrap_u64]; omega
  have f28 : IntKind.u64.wrap (q0 : Int) = (q0 : Int) := by rw [IntKind.wrap_u64]; omega
  clear f11 f20'' f21 f22
  clear hQ hE hT0 hC hB hA hT1 hU hN hM hu hq1 hR1 hV hq0 hR0 hP1 hP0 hs1 hs0 b1 b2 b3 b4
  go_enter Tryd.func83, Tryd.ntmps83
  go_wp2_with fail
  refine HL.out.mono ?_
  rintro e w1 ⟨rfl, rfl⟩
  clear HL
  go_wp2_with fail
  go_loopw [15, 16] (fun qv rv wr => qv = .int .u64 (q1 : Int) ∧ rv = .int .u64 (R1 : Int) ∧ wr = w1) (fun _ _ _ => 0)
  case atStart => exact ⟨rfl, rfl, rfl⟩
  case round =>
    obtain ⟨rfl, rfl, rfl⟩ := hrel
    go_wp2_with fail
    go_loopw [18, 16] (fun qv rv w2 => qv = .int .u64 (q0 : Int) ∧ rv = .int .u64 (R0 : Int) ∧ w2 = wr) (fun _ _ _ => 0)
    case atStart => exact ⟨rfl, rfl, rfl⟩
    case round =>
      obtain ⟨rfl, rfl, rfl⟩ := hrel
      go_wp2_with fail
      go_ret2
      exact ⟨_, rfl, rfl⟩

set_option maxRecDepth 1000000 in
set_option maxHeartbeats 4000000 in
theorem Div64_long3 (hi lo y : Nat) (w : World) (h0 : 0 < hi) (hh : hi < y) (hlo : lo < 18446744073709551616) (hb : Lib.bitLen y = 3 + 1) (hy1 : 8 ≤ y) (hy2 : y < 16) :
    Calls Tryd.prog 83 #[.int .u64 (hi : Int), .int .u64 (lo : Int), .int .u64 (y : Int)] w fun e w' => ∃ r, e = .returned (.tuple #[.int .u64 ((hi * 18446744073709551616 + lo) / y : Nat), r]) ∧ w' = w := by
  have HL := Lib.hid (Lead_any y (3 + 1) w (by omega) hb)
  clear hb
  obtain ⟨U, N, M, u, hU, hN, hM, hu⟩ : ∃ U N M u : Nat, U = hi * 1152921504606846976 + lo / 16 ∧ N = y * 268435456 ∧ M = lo % 16 * 1152921504606846976 ∧ u = lo % 16 * 268435456 := ⟨_, _, _, _, rfl, rfl, rfl, rfl⟩
  obtain ⟨q1, R1, V, q0, R0, P1, P0, hq1, hR1, hV, hq0, hR0, hP1, hP0, hs1, hs0, b1, b2, b3, b4⟩ := divparts (U := U) (N := N) (u := u) (by omega) (by omega) (by omega) (by omega)
  have hQ : (hi * 18446744073709551616 + lo) / y = q1 * 4294967296 + q0 := by
    rw [longdiv (X := hi * 18446744073709551616 + lo) (y := y) (S := 1152921504606846976) (U := U) (u := u) (N := N) (by omega) (by omega) (by omega) (by omega), ← hq1, ← hR1, ← hV, ← hq0]
  obtain ⟨Q, hQ2⟩ : ∃ Q, Q = (hi * 18446744073709551616 + lo) / y := ⟨_, rfl⟩
  rw [← hQ2] at hQ ⊢
  clear hQ2
  have e1 : ((y : Int) == 0) = false := by simp; omega
  have e2 : ¬ (y : Int) ≤ (hi : Int) := by omega
  have e3 : ((hi : Int) == 0) = false := by simp; omega
  have f1 : bits .or .u64 ((hi : Int) * 1152921504606846976) ((lo : Int) / 16) = (U : Int) := by
    have h := bits_or_u64_nat (hi * 1152921504606846976) (lo / 16) (by omega) (by omega)
    have h2 := Nat.two_pow_add_eq_or_of_lt (b := lo / 16) (i := 60) (by omega) hi
    rw [Nat.mul_comm] at h2
    have h3 : hi * 2 ^ 60 = hi * 1152921504606846976 := rfl
    rw [h3] at h2
    rw [← h2, ← hU] at h
    exact h
  have f2 : (y : Int) * 1152921504606846976 / 4294967296 = (N : Int) := by omega
  have f2' : ((N : Int) == 0) = false := by simp; omega
  have f3 : IntKind.u64.wrap ((U : Int).tdiv (N : Int)) = (q1 : Int) := by rw [← Int.ofNat_tdiv, ← hq1, IntKind.wrap_u64]; omega
  have f3' : (U : Int) / (N : Int) = (q1 : Int) := by rw [← Int.natCast_ediv, ← hq1]
  have f4 : IntKind.u64.wrap ((q1 : Int) * (N : Int)) = (P1 : Int) := by rw [← Int.natCast_mul, ← hP1, IntKind.wrap_u64]; omega
  have f5 : IntKind.u64.wrap ((U : Int) - (P1 : Int)) = (R1 : Int) := by rw [IntKind.wrap_u64]; omega
  have f6 : bits .and .u64 ((y : Int) * 1152921504606846976) 4294967295 = 0 := by
    have h := Mul64.maskN (y * 1152921504606846976) (by omega)
    rw [show y * 1152921504606846976 % 4294967296 = 0 by omega] at h
    exact h
  obtain ⟨T1, hT1⟩ : ∃ T1, T1 = 4294967296 * R1 := ⟨_, rfl⟩
  have f7 : IntKind.u64.wrap (4294967296 * (R1 : Int)) = (T1 : Int) := by rw [IntKind.wrap_u64]; omega
  have f8 : IntKind.u64.wrap ((lo : Int) * 1152921504606846976) = (M : Int) := by rw [IntKind.wrap_u64]; omega
  have f9 : (M : Int) / 4294967296 = (u : Int) := by omega
  have f10 : IntKind.u64.wrap ((T1 : Int) + (u : Int)) = (V : Int) := by rw [IntKind.wrap_u64]; omega
  have f11 : ¬ (V : Int) < 0 := by omega
  have f12 : bits .and .u64 (M : Int) 4294967295 = 0 := by
    have h := Mul64.maskN M (by omega)
    rw [show M % 4294967296 = 0 by omega] at h
    exact h
  obtain ⟨A, hA⟩ : ∃ A, A = U * 4294967296 % 18446744073709551616 := ⟨_, rfl⟩
  have f13 : IntKind.u64.wrap ((U : Int) * 4294967296) = (A : Int) := by rw [IntKind.wrap_u64]; omega
  obtain ⟨B, hB⟩ : ∃ B, B = (A + u) % 18446744073709551616 := ⟨_, rfl⟩
  have f14 : IntKind.u64.wrap ((A : Int) + (u : Int)) = (B : Int) := by rw [IntKind.wrap_u64]; omega
  obtain ⟨C, hC⟩ : ∃ C, C = P1 * 4294967296 % 18446744073709551616 := ⟨_, rfl⟩
  have f15 : IntKind.u64.wrap ((q1 : Int) * ((y : Int) * 1152921504606846976)) = (C : Int) := by
    have h : (q1 : Int) * ((y : Int) * 1152921504606846976) = (P1 : Int) * 4294967296 := by
      rw [show (y : Int) * 1152921504606846976 = (N : Int) * 4294967296 by omega, ← Int.mul_assoc, ← Int.natCast_mul, ← hP1]
    rw [h, IntKind.wrap_u64]; omega
  have f16 : IntKind.u64.wrap ((B : Int) - (C : Int)) = (V : Int) := by rw [IntKind.wrap_u64]; omega
  have f17 : IntKind.u64.wrap ((V : Int).tdiv (N : Int)) = (q0 : Int) := by rw [← Int.ofNat_tdiv, ← hq0, IntKind.wrap_u64]; omega
  have f17' : (V : Int) / (N : Int) = (q0 : Int) := by rw [← Int.natCast_ediv, ← hq0]
  have f18 : IntKind.u64.wrap ((q0 : Int) * (N : Int)) = (P0 : Int) := by rw [← Int.natCast_mul, ← hP0, IntKind.wrap_u64]; omega
  have f19 : IntKind.u64.wrap ((V : Int) - (P0 : Int)) = (R0 : Int) := by rw [IntKind.wrap_u64]; omega
  obtain ⟨T0, hT0⟩ : ∃ T0, T0 = 4294967296 * R0 := ⟨_, rfl⟩
  have f20 : IntKind.u64.wrap (4294967296 * (R0 : Int)) = (T0 : Int) := by rw [IntKind.wrap_u64]; omega
  have f20' : IntKind.u64.wrap (T0 : Int) = (T0 : Int) := by rw [IntKind.wrap_u64]; omega
  have f20'' : ¬ (T0 : Int) < 0 := by omega
  have f21 : ¬ (4294967296 : Int) ≤ (q1 : Int) := by omega
  have f22 : ¬ (4294967296 : Int) ≤ (q0 : Int) := by omega
  obtain ⟨E, hE⟩ : ∃ E, E = q1 * 4294967296 := ⟨_, rfl⟩
  have f23 : IntKind.u64.wrap ((q1 : Int) * 4294967296) = (E : Int) := by rw [IntKind.wrap_u64]; omega
  have f24 : IntKind.u64.wrap ((E : Int) + (q0 : Int)) = (Q : Int) := by rw [IntKind.wrap_u64]; omega
  have f29 : decide ((4294967296 : Int) ≤ (q1 : Int)) = false := decide_eq_false (by omega)
  have f30 : decide ((4294967296 : Int) ≤ (q0 : Int)) = false := decide_eq_false (by omega)
  have f31 : decide ((V : Int) < 0) = false := decide_eq_false (by omega)
  have f32 : decide ((T0 : Int) < 0) = false := decide_eq_false (by omega)
  have f27 : IntKind.u64.wrap (q1 : Int) = (q1 : Int) := by rw [IntKind.wrap_u64]; omega
  have f28 : IntKind.u64.wrap (q0 : Int) = (q0 : Int) := by rw [IntKind.wrap_u64]; omega
  clear f11 f20'' f21 f22
  clear hQ hE hT0 hC hB hA hT1 hU hN hM hu hq1 hR1 hV hq0 hR0 hP1 hP0 hs1 hs0 b1 b2 b3 b4
  go_enter Tryd.func83, Tryd.ntmps83
  go_wp2_with fail
  refine HL.out.mono ?_
  rintro e w1 ⟨rfl, rfl⟩
  clear HL
  go_wp2_with fail
  go_loopw [15, 16] (fun qv rv wr => qv = .int .u64 (q1 : Int) ∧ rv = .int .u64 (R1 : Int) ∧ wr = w1) (fun _ _ _ => 0)
  case atStart => exact ⟨rfl, rfl, rfl⟩
  case round =>
    obtain ⟨rfl, rfl, rfl⟩ := hrel
    go_wp2_with fail
    go_loopw [18, 16] (fun qv rv w2 => qv = .int .u64 (q0 : Int) ∧ rv = .int .u64 (R0 : Int) ∧ w2 = wr) (fun _ _ _ => 0)
    case atStart => exact ⟨rfl, rfl, rfl⟩
    case round =>
      obtain ⟨rfl, rfl, rfl⟩ := hrel
      go_wp2_with fail
      go_ret2
      exact ⟨_, rfl, rfl⟩

set_option maxRecDepth 1000000 in
set_option maxHeartbeats 4000000 in
theorem Div64_long4 (hi lo y : Nat) (w : World) (h0 : 0 < hi) (hh : hi < y) (hlo : lo < 18446744073709551616) (hb : Lib.bitLen y = 4 + 1) (hy1 : 16 ≤ y) (hy2 : y < 32) :
    Calls Tryd.prog 83 #[.int .u64 (hi : Int), .int .u64 (lo : Int), .int .u64 (y : Int)] w fun e w' => ∃ r, e = .returned (.tuple #[.int .u64 ((hi * 18446744073709551616 + lo) / y : Nat), r]) ∧ w' = w := by
  have HL := Lib.hid (Lead_any y (4 + 1) w (by omega) hb)
  clear hb
  obtain ⟨U, N, M, u, hU, hN, hM, hu⟩ : ∃ U N M u : Nat, U = hi * 576460752303423488 + lo / 32 ∧ N = y * 134217728 ∧ M = lo % 32 * 576460752303423488 ∧ u = lo % 32 * 134217728 := ⟨_, _, _, _, rfl, rfl, rfl, rfl⟩
  obtain ⟨q1, R1, V, q0, R0, P1, P0, hq1, hR1, hV, hq0, hR0, hP1, hP0, hs1, hs0, b1, b2, b3, b4⟩ := divparts (U := U) (N := N) (u := u) (by omega) (by omega) (by omega) (by omega)
  have hQ : (hi * 18446744073709551616 + lo) / y = q1 * 4294967296 + q0 := by
    rw [longdiv (X := hi * 18446744073709551616 + lo) (y := y) (S := 576460752303423488) (U := U) (u := u) (N := N) (by omega) (by omega) (by omega) (by omega), ← hq1, ← hR1, ← hV, ← hq0]
  obtain ⟨Q, hQ2⟩ : ∃ Q, Q = (hi * 18446744073709551616 + lo) / y := ⟨_, rfl⟩
  rw [← hQ2] at hQ ⊢
  clear hQ2
  have e1 : ((y : Int) == 0) = false := by simp; omega
  have e2 : ¬ (y : Int) ≤ (hi : Int) := by omega
  have e3 : ((hi : Int) == 0) = false := by simp; omega
  have f1 : bits .or .u64 ((hi : Int) * 576460752303423488) ((lo : Int) / 32) = (U : Int) := by
    have h := bits_or_u64_nat (hi * 576460752303423488) (lo / 32) (by omega) (by omega)
    have h2 := Nat.two_pow_add_eq_or_of_lt (b := lo / 32) (i := 59) (by omega) hi
    rw [Nat.mul_comm] at h2
    have h3 : hi * 2 ^ 59 = hi * 576460752303423488 := rfl
    rw [h3] at h2
    rw [← h2, ← hU] at h
    exact h
  have f2 : (y : Int) * 576460752303423488 / 4294967296 = (N : Int) := by omega
  have f2' : ((N : Int) == 0) = false := by simp; omega
  have f3 : IntKind.u64.wrap ((U : Int).tdiv (N : Int)) = (q1 : Int) := by rw [← Int.ofNat_tdiv, ← hq1, IntKind.wrap_u64]; omega
  have f3' : (U : Int) / (N : Int) = (q1 : Int) := by rw [← Int.natCast_ediv, ← hq1]
  have f4 : IntKind.u64.wrap ((q1 : Int) * (N : Int)) = (P1 : Int) := by rw [← Int.natCast_mul, ← hP1, IntKind.wrap_u64]; omega
  have f5 : IntKind.u64.wrap ((U : Int) - (P1 : Int)) = (R1 : Int) := by rw [IntKind.wrap_u64]; omega
  have f6 : bits .and .u64 ((y : Int) * 576460752303423488) 4294967295 = 0 := by
    have h := Mul64.maskN (y * 576460752303423488) (by omega)
    rw [show y * 576460752303423488 % 4294967296 = 0 by omega] at h
    exact h
  obtain ⟨T1, hT1⟩ : ∃ T1, T1 = 4294967296 * R1 := ⟨_, rfl⟩
  have f7 : IntKind.u64.wrap (4294967296 * (R1 : Int)) = (T1 : Int) := by rw [IntKind.wrap_u64]; omega
  have f8 : IntKind.u64.wrap ((lo : Int) * 576460752303423488) = (M : Int) := by rw [IntKind.wrap_u64]; omega
  have f9 : (M : Int) / 4294967296 = (u : Int) := by omega
  have f10 : IntKind.u64.wrap ((T1 : Int) + (u : Int)) = (V : Int) := by rw [IntKind.wrap_u64]; omega
  have f11 : ¬ (V : Int) < 0 := by omega
  have f12 : bits .and .u64 (M : Int) 4294967295 = 0 := by
    have h := Mul64.maskN M (by omega)
    rw [show M % 4294967296 = 0 by omega] at h
    exact h
  obtain ⟨A, hA⟩ : ∃ A, A = U * 4294967296 % 18446744073709551616 := ⟨_, rfl⟩
  have f13 : IntKind.u64.wrap ((U : Int) * 4294967296) = (A : Int) := by rw [IntKind.wrap_u64]; omega
  obtain ⟨B, hB⟩ : ∃ B, B = (A + u) % 18446744073709551616 := ⟨_, rfl⟩
  have f14 : IntKind.u64.wrap ((A : Int) + (u : Int)) = (B : Int) := by rw [IntKind.wrap_u64]; omega
  obtain ⟨C, hC⟩ : ∃ C, C = P1 * 4294967296 % 18446744073709551616 := ⟨_, rfl⟩
  have f15 : IntKind.u64.wrap ((q1 : Int) * ((y : Int) * 576460752303423488)) = (C : Int) := by
    have h : (q1 : Int) * ((y : Int) * 576460752303423488) = (P1 : Int) * 4294967296 := by
      rw [show (y : Int) * 576460752303423488 = (N : Int) * 4294967296 by omega, ← Int.mul_assoc, ← Int.natCast_mul, ← hP1]
    rw [h, IntKind.wrap_u64]; omega
  have f16 : IntKind.u64.wrap ((B : Int) - (C : Int)) = (V : Int) := by rw [IntKind.wrap_u64]; omega
  have f17 : IntKind.u64.wrap ((V : Int).tdiv (N : Int)) = (q0 : Int) := by rw [← Int.ofNat_tdiv, ← hq0, IntKind.wrap_u64]; omega
  have f17' : (V : Int) / (N : Int) = (q0 : Int) := by rw [← Int.natCast_ediv, ← hq0]
  have f18 : IntKind.u64.wrap ((q0 : Int) * (N : Int)) = (P0 : Int) := by rw [← Int.natCast_mul, ← hP0, IntKind.wrap_u64]; omega
  have f19 : IntKind.u64.wrap ((V : Int) - (P0 : Int)) = (R0 : Int) := by rw [IntKind.wrap_u64]; omega
  obtain ⟨T0, hT0⟩ : ∃ T0, T0 = 4294967296 * R0 := ⟨_, rfl⟩
  have f20 : IntKind.u64.wrap (4294967296 * (R0 : Int)) = (T0 : Int) := by rw [IntKind.wrap_u64]; omega
  have f20' : IntKind.u64.wrap (T0 : Int) = (T0 : Int) := by rw [IntKind.wrap_u64]; omega
  have f20'' : ¬ (T0 : Int) < 0 := by omega
  have f21 : ¬ (4294967296 : Int) ≤ (q1 : Int) := by omega
  have f22 : ¬ (4294967296 : Int) ≤ (q0 : Int) := by omega
  obtain ⟨E, hE⟩ : ∃ E, E = q1 * 4294967296 := ⟨_, rfl⟩
  have f23 : IntKind.u64.wrap ((q1 : Int) * 4294967296) = (E : Int) := by rw [IntKind.wrap_u64]; omega
  have f24 : IntKind.u64.wrap ((E : Int) + (q0 : Int)) = (Q : Int) := by rw [IntKind.wrap_u64]; omega
  have f29 : decide ((4294967296 : Int) ≤ (q1 : Int)) = false := decide_eq_false (by omega)
  have f30 : decide ((4294967296 : Int) ≤ (q0 : Int)) = false := decide_eq_false (by omega)
  have f31 : decide ((V : Int) < 0) = false := decide_eq_false (by omega)
  have f32 : decide ((T0 : Int) < 0) = false := decide_eq_false (by omega)
  have f27 : IntKind.u64.wrap (q1 : Int) = (q1 : Int) := by rw [IntKind.wrap_u64]; omega
  have f28 : IntKind.u64.wrap (q0 : Int) = (q0 : Int) := by rw [IntKind.wrap_u64]; omega
  clear f11 f20'' f21 f22
  clear hQ hE hT0 hC hB hA hT1 hU hN hM hu hq1 hR1 hV hq0 hR0 hP1 hP0 hs1 hs0 b1 b2 b3 b4
  go_enter Tryd.func83, Tryd.ntmps83
  go_wp2_with fail
  refine HL.out.mono ?_
  rintro e w1 ⟨rfl, rfl⟩
  clear HL
  go_wp2_with fail
  go_loopw [15, 16] (fun qv rv wr => qv = .int .u64 (q1 : Int) ∧ rv = .int .u64 (R1 : Int) ∧ wr = w1) (fun _ _ _ => 0)
  case atStart => exact ⟨rfl, rfl, rfl⟩
  case round =>
    obtain ⟨rfl, rfl, rfl⟩ := hrel
    go_wp2_with fail
    go_loopw [18, 16] (fun qv rv w2 => qv = .int .u64 (q0 : Int) ∧ rv = .int .u64 (R0 : Int) ∧ w2 = wr) (fun _ _ _ => 0)
    case atStart => exact ⟨rfl, rfl, rfl⟩
    case round =>
      obtain ⟨rfl, rfl, rfl⟩ := hrel
      go_wp2_with fail
      go_ret2
      exact ⟨_, rfl, rfl⟩

set_option maxRecDepth 1000000 in
set_option maxHeartbeats 4000000 in
theorem Div64_long5 (hi lo y : Nat) (w : World) (h0 : 0 < hi) (hh : hi < y) (hlo : lo < 18446744073709551616) (hb : Lib.bitLen y = 5 + 1) (hy1 : 32 ≤ y) (hy2 : y < 64) :
    Calls Tryd.prog 83 #[.int .u64 (hi : Int), .int .u64 (lo : Int), .int .u64 (y : Int)] w fun e w' => ∃ r, e = .returned (.tuple #[.int .u64 ((hi * 18446744073709551616 + lo) / y : Nat), r]) ∧ w' = w := by
  have HL := Lib.hid (Lead_any y (5 + 1) w (by omega) hb)
  clear hb
  obtain ⟨U, N, M, u, hU, hN, hM, hu⟩ : ∃ U N M u : Nat, U = hi * 288230376151711744 + lo / 64 ∧ N = y * 67108864 ∧ M = lo % 64 * 288230376151711744 ∧ u = lo % 64 * 67108864 := ⟨_, _, _, _, rfl, rfl, rfl, rfl⟩
  obtain ⟨q1, R1, V, q0, R0, P1, P0, hq1, hR1, hV, hq0, hR0, hP1, hP0, hs1, hs0, b1, b2, b3, b4⟩ := divparts (U := U) (N := N) (u := u) (by omega) (by omega) (by omega) (by omega)
  have hQ : (hi * 18446744073709551616 + lo) / y = q1 * 4294967296 + q0 := by
    rw [longdiv (X := hi * 18446744073709551616 + lo) (y := y) (S := 288230376151711744) (U := U) (u := u) (N := N) (by omega) (by omega) (by omega) (by omega), ← hq1, ← hR1, ← hV, ← hq0]
  obtain ⟨Q, hQ2⟩ : ∃ Q, Q = (hi * 18446744073709551616 + lo) / y := ⟨_, rfl⟩
  rw [← hQ2] at hQ ⊢
  clear hQ2
  have e1 : ((y : Int) == 0) = false := by simp; omega
  have e2 : ¬ (y : Int) ≤ (hi : Int) := by omega
  have e3 : ((hi : Int) == 0) = false := by simp; omega
  have f1 : bits .or .u64 ((hi : Int) * 288230376151711744) ((lo : Int) / 64) = (U : Int) := by
    have h := bits_or_u64_nat (hi * 288230376151711744) (lo / 64) (by omega) (by omega)
    have h2 := Nat.two_pow_add_eq_or_of_lt (b := lo / 64) (i := 58) (by omega) hi
    rw [Nat.mul_comm] at h2
    have h3 : hi * 2 ^ 58 = hi * 288230376151711744 := rfl
    rw [h3] at h2
    rw [← h2, ← hU] at h
    exact h
  have f2 : (y : Int) * 288230376151711744 / 4294967296 = (N : Int) := by omega
  have f2' : ((N : Int) == 0) = false := by simp; omega
  have f3 : IntKind.u64.wrap ((U : Int).tdiv (N : Int)) = (q1 : Int) := by rw [← Int.ofNat_tdiv, ← hq1, IntKind.wrap_u64]; omega
  have f3' : (U : Int) / (N : Int) = (q1 : Int) := by rw [← Int.natCast_ediv, ← hq1]
  have f4 : IntKind.u64.wrap ((q1 : Int) * (N : Int)) = (P1 : Int) := by rw [← Int.natCast_mul, ← hP1, IntKind.wrap_u64]; omega
  have f5 : IntKind.u64.wrap ((U : Int) - (P1 : Int)) = (R1 : Int) := by rw [IntKind.wrap_u64]; omega
  have f6 : bits .and .u64 ((y : Int) * 288230376151711744) 4294967295 = 0 := by
    have h := Mul64.maskN (y * 288230376151711744) (by omega)
    rw [show y * 288230376151711744 % 4294967296 = 0 by omega] at h
    exact h
  obtain ⟨T1, hT1⟩ : ∃ T1, T1 = 4294967296 * R1 := ⟨_, rfl⟩
  have f7 : IntKind.u64.wrap (4294967296 * (R1 : Int)) = (T1 : Int) := by rw [IntKind.wrap_u64]; omega
  have f8 : IntKind.u64.wrap ((lo : Int) * 288230376151711744) = (M : Int) := by rw [IntKind.wrap_u64]; omega
  have f9 : (M : Int) / 4294967296 = (u : Int) := by omega
  have f10 : IntKind.u64.wrap ((T1 : Int) + (u : Int)) = (V : Int) := by rw [IntKind.wrap_u64]; omega
  have f11 : ¬ (V : Int) < 0 := by omega
  have f12 : bits .and .u64 (M : Int) 4294967295 = 0 := by
    have h := Mul64.maskN M (by omega)
    rw [show M % 4294967296 = 0 by omega] at h
    exact h
  obtain ⟨A, hA⟩ : ∃ A, A = U * 4294967296 % 18446744073709551616 := ⟨_, rfl⟩
  have f13 : IntKind.u64.wrap ((U : Int) * 4294967296) = (A : Int) := by rw [IntKind.wrap_u64]; omega
  obtain ⟨B, hB⟩ : ∃ B, B = (A + u) % 18446744073709551616 := ⟨_, rfl⟩
  have f14 : IntKind.u64.wrap ((A : Int) + (u : Int)) = (B : Int) := by rw [IntKind.wrap_u64]; omega
  obtain ⟨C, hC⟩ : ∃ C, C = P1 * 4294967296 % 18446744073709551616 := ⟨_, rfl⟩
  have f15 : IntKind.u64.wrap ((q1 : Int) * ((y : Int) * 288230376151711744)) = (C : Int) := by
    have h : (q1 : Int) * ((y : Int) * 288230376151711744) = (P1 : Int) * 4294967296 := by
      rw [show (y : Int) * 288230376151711744 = (N : Int) * 4294967296 by omega, ← Int.mul_assoc, ← Int.natCast_mul, ← hP1]
    rw [h, IntKind.wrap_u64]; omega
  have f16 : IntKind.u64.wrap ((B : Int) - (C : Int)) = (V : Int) := by rw [IntKind.wrap_u64]; omega
  have f17 : IntKind.u64.wrap ((V : Int).tdiv (N : Int)) = (q0 : Int) := by rw [← Int.ofNat_tdiv, ← hq0, IntKind.wrap_u64]; omega
  have f17' : (V : Int) / (N : Int) = (q0 : Int) := by rw [← Int.natCast_ediv, ← hq0]
  have f18 : IntKind.u64.wrap ((q0 : Int) * (N : Int)) = (P0 : Int) := by rw [← Int.natCast_mul, ← hP0, IntKind.wrap_u64]; omega
  have f19 : IntKind.u64.wrap ((V : Int) - (P0 : Int)) = (R0 : Int) := by rw [IntKind.wrap_u64]; omega
  obtain ⟨T0, hT0⟩ : ∃ T0, T0 = 4294967296 * R0 := ⟨_, rfl⟩
  have f20 : IntKind.u64.wrap (4294967296 * (R0 : Int)) = (T0 : Int) := by rw [IntKind.wrap_u64]; omega
  have f20' : IntKind.u64.wrap (T0 : Int) = (T0 : Int) := by rw [IntKind.wrap_u64]; omega
  have f20'' : ¬ (T0 : Int) < 0 := by omega
  have f21 : ¬ (4294967296 : Int) ≤ (q1 : Int) := by omega
  have f22 : ¬ (4294967296 : Int) ≤ (q0 : Int) := by omega
  obtain ⟨E, hE⟩ : ∃ E, E = q1 * 4294967296 := ⟨_, rfl⟩
  have f23 : IntKind.u64.wrap ((q1 : Int) * 4294967296) = (E : Int) := by rw [IntKind.wrap_u64]; omega
  have f24 : IntKind.u64.wrap ((E : Int) + (q0 : Int)) = (Q : Int) := by rw [IntKind.wrap_u64]; omega
  have f29 : decide ((4294967296 : Int) ≤ (q1 : Int)) = false := decide_eq_false (by omega)
  have f30 : decide ((4294967296 : Int) ≤ (q0 : Int)) = false := decide_eq_false (by omega)
  have f31 : decide ((V : Int) < 0) = false := decide_eq_false (by omega)
  have f32 : decide ((T0 : Int) < 0) = false := decide_eq_false (by omega)
  have f27 : IntKind.u64.wrap (q1 : Int) = (q1 : Int) := by rw [IntKind.wrap_u64]; omega
  have f28 : IntKind.u64.wrap (q0 : Int) = (q0 : Int) := by rw [IntKind.wrap_u64]; omega
  clear f11 f20'' f21 f22
  clear hQ hE hT0 hC hB hA hT1 hU hN hM hu hq1 hR1 hV hq0 hR0 hP1 hP0 hs1 hs0 b1 b2 b3 b4
  go_enter Tryd.func83, Tryd.ntmps83
  go_wp2_with fail
  refine HL.out.mono ?_
  rintro e w1 ⟨rfl, rfl⟩
  clear HL
  go_wp2_with fail
  go_loopw [15, 16] (fun qv rv wr => qv = .int .u64 (q1 : Int) ∧ rv = .int .u64 (R1 : Int) ∧ wr = w1) (fun _ _ _ => 0)
  case atStart => exact ⟨rfl, rfl, rfl⟩
  case round =>
    obtain ⟨rfl, rfl, rfl⟩ := hrel
    go_wp2_with fail
    go_loopw [18, 16] (fun qv rv w2 => qv = .int .u64 (q0 : Int) ∧ rv = .int .u64 (R0 : Int) ∧ w2 = wr) (fun _ _ _ => 0)
    case atStart => exact ⟨rfl, rfl, rfl⟩
    case round =>
      obtain ⟨rfl, rfl, rfl⟩ := hrel
      go_wp2_with fail
      go_ret2
      exact ⟨_, rfl, rfl⟩

set_option maxRecDepth 1000000 in
set_option maxHeartbeats 4000000 in
theorem Div64_long6 (hi lo y : Nat) (w : World) (h0 : 0 < hi) (hh : hi < y) (hlo : lo < 18446744073709551616) (hb : Lib.bitLen y = 6 + 1) (hy1 : 64 ≤ y) (hy2 : y < 128) :
    Calls Tryd.prog 83 #[.int .u64 (hi : Int), .int .u64 (lo : Int), .int .u64 (y : Int)] w fun e w' => ∃ r, e = .returned (.tuple #[.int .u64 ((hi * 18446744073709551616 + lo) / y : Nat), r]) ∧ w' = w := by
  have HL := Lib.hid (Lead_any y (6 + 1) w (by omega) hb)
  clear hb
  obtain ⟨U, N, M, u, hU, hN, hM, hu⟩ : ∃ U N M u : Nat, U = hi * 144115188075855872 + lo / 128 ∧ N = y * 33554432 ∧ M = lo % 128 * 144115188075855872 ∧ u = lo % 128 * 33554432 := ⟨_, _, _, _, rfl, rfl, rfl, rfl⟩
  obtain ⟨q1, R1, V, q0, R0, P1, P0, hq1, hR1, hV, hq0, hR0, hP1, hP0, hs1, hs0, b1, b2, b3, b4⟩ := divparts (U := U) (N := N) (u := u) (by omega) (by omega) (by omega) (by omega)
  have hQ : (hi * 18446744073709551616 + lo) / y = q1 * 4294967296 + q0 := by
    rw [longdiv (X := hi * 18446744073709551616 + lo) (y := y) (S := 144115188075855872) (U := U) (u := u) (N := N) (by omega) (by omega) (by omega) (by omega), ← hq1, ← hR1, ← hV, ← hq0]
  obtain ⟨Q, hQ2⟩ : ∃ Q, Q = (hi * 18446744073709551616 + lo) / y := ⟨_, rfl⟩
  rw [← hQ2] at hQ ⊢
  clear hQ2
  have e1 : ((y : Int) == 0) = false := by simp; omega
  have e2 : ¬ (y : Int) ≤ (hi : Int) := by omega
  have e3 : ((hi : Int) == 0) = false := by simp; omega
  have f1 : bits .or .u64 ((hi : Int) * 144115188075855872) ((lo : Int) / 128) = (U : Int) := by
    have h := bits_or_u64_nat (hi * 144115188075855872) (lo / 128) (by omega) (by omega)
    have h2 := Nat.two_pow_add_eq_or_of_lt (b := lo / 128) (i := 57) (by omega) hi
    rw [Nat.mul_comm] at h2
    have h3 : hi * 2 ^ 57 = hi * 144115188075855872 := rfl
    rw [h3] at h2
    rw [← h2, ← hU] at h
    exact h
  have f2 : (y : Int) * 144115188075855872 / 4294967296 = (N : Int) := by omega
  have f2' : ((N : Int) == 0) = false := by simp; omega
  have f3 : IntKind.u64.wrap ((U : Int).tdiv (N : Int)) = (q1 : Int) := by rw [← Int.ofNat_tdiv, ← hq1, IntKind.wrap_u64]; omega
  have f3' : (U : Int) / (N : Int) = (q1 : Int) := by rw [← Int.natCast_ediv, ← hq1]
  have f4 : IntKind.u64.wrap ((q1 : Int) * (N : Int)) = (P1 : Int) := by rw [← Int.natCast_mul, ← hP1, IntKind.wrap_u64]; omega
  have f5 : IntKind.u64.wrap ((U : Int) - (P1 : Int)) = (R1 : Int) := by rw [IntKind.wrap_u64]; omega
  have f6 : bits .and .u64 ((y : Int) * 144115188075855872) 4294967295 = 0 := by
    have h := Mul64.maskN (y * 144115188075855872) (by omega)
    rw [show y * 144115188075855872 % 4294967296 = 0 by omega] at h
    exact h
  obtain ⟨T1, hT1⟩ : ∃ T1, T1 = 4294967296 * R1 := ⟨_, rfl⟩
  have f7 : IntKind.u64.wrap (4294967296 * (R1 : Int)) = (T1 : Int) := by rw [IntKind.wrap_u64]; omega
  have f8 : IntKind.u64.wrap ((lo : Int) * 144115188075855872) = (M : Int) := by rw [IntKind.wrap_u64]; omega
  have f9 : (M : Int) / 4294967296 = (u : Int) := by omega
  have f10 : IntKind.u64.wrap ((T1 : Int) + (u : Int)) = (V : Int) := by rw [IntKind.wrap_u64]; omega
  have f11 : ¬ (V : Int) < 0 := by omega
  have f12 : bits .and .u64 (M : Int) 4294967295 = 0 := by
    have h := Mul64.maskN M (by omega)
    rw [show M % 4294967296 = 0 by omega] at h
    exact h
  obtain ⟨A, hA⟩ : ∃ A, A = U * 4294967296 % 18446744073709551616 := ⟨_, rfl⟩
  have f13 : IntKind.u64.wrap ((U : Int) * 4294967296) = (A : Int) := by rw [IntKind.wrap_u64]; omega
  obtain ⟨B, hB⟩ : ∃ B, B = (A + u) % 18446744073709551616 := ⟨_, rfl⟩
  have f14 : IntKind.u64.wrap ((A : Int) + (u : Int)) = (B : Int) := by rw [IntKind.wrap_u64]; omega
  obtain ⟨C, hC⟩ : ∃ C, C = P1 * 4294967296 % 18446744073709551616 := ⟨_, rfl⟩
  have f15 : IntKind.u64.wrap ((q1 : Int) * ((y : Int) * 144115188075855872)) = (C : Int) := by
    have h : (q1 : Int) * ((y : Int) * 144115188075855872) = (P1 : Int) * 4294967296 := by
      rw [show (y : Int) * 144115188075855872 = (N : Int) * 4294967296 by omega, ← Int.mul_assoc, ← Int.natCast_mul, ← hP1]
    rw [h, IntKind.wrap_u64]; omega
  have f16 : IntKind.u64.wrap ((B : Int) - (C : Int)) = (V : Int) := by rw [IntKind.wrap_u64]; omega
  have f17 : IntKind.u64.wrap ((V : Int).tdiv (N : Int)) = (q0 : Int) := by rw [← Int.ofNat_tdiv, ← hq0, IntKind.wrap_u64]; omega
  have f17' : (V : Int) / (N : Int) = (q0 : Int) := by rw [← Int.natCast_ediv, ← hq0]
  have f18 : IntKind.u64.wrap ((q0 : Int) * (N : Int)) = (P0 : Int) := by rw [← Int.natCast_mul, ← hP0, IntKind.wrap_u64]; omega
  have f19 : IntKind.u64.wrap ((V : Int) - (P0 : Int)) = (R0 : Int) := by rw [IntKind.wrap_u64]; omega
  obtain ⟨T0, hT0⟩ : ∃ T0, T0 = 4294967296 * R0 := ⟨_, rfl⟩
  have f20 : IntKind.u64.wrap (4294967296 * (R0 : Int)) = (T0 : Int) := by rw [IntKind.wrap_u64]; omega
  have f20' : IntKind.u64.wrap (T0 : Int) = (T0 : Int) := by rw [IntKind.wrap_u64]; omega
  have f20'' : ¬ (T0 : Int) < 0 := by omega
  have f21 : ¬ (4294967296 : Int) ≤ (q1 : Int) := by omega
  have f22 : ¬ (4294967296 : Int) ≤ (q0 : Int) := by omega
  obtain ⟨E, hE⟩ : ∃ E, E = q1 * 4294967296 := ⟨_, rfl⟩
  have f23 : IntKind.u64.wrap ((q1 : Int) * 4294967296) = (E : Int) := by rw [IntKind.wrap_u64]; omega
  have f24 : IntKind.u64.wrap ((E : Int) + (q0 : Int)) = (Q : Int) := by rw [IntKind.wrap_u64]; omega
  have f29 : decide ((4294967296 : Int) ≤ (q1 : Int)) = false := decide_eq_false (by omega)
  have f30 : decide ((4294967296 : Int) ≤ (q0 : Int)) = false := decide_eq_false (by omega)
  have f31 : decide ((V : Int) < 0) = false := decide_eq_false (by omega)
  have f32 : decide ((T0 : Int) < 0) = false := decide_eq_false (by omega)
  have f27 : IntKind.u64.wrap (q1 : Int) = (q1 : Int) := by rw [IntKind.wrap_u64]; omega
  have f28 : IntKind.u64.wrap (q0 : Int) = (q0 : Int) := by rw [IntKind.wrap_u64]; omega
  clear f11 f20'' f21 f22
  clear hQ hE hT0 hC hB hA hT1 hU hN hM hu hq1 hR1 hV hq0 hR0 hP1 hP0 hs1 hs0 b1 b2 b3 b4
  go_enter Tryd.func83, Tryd.ntmps83
  go_wp2_with fail
  refine HL.out.mono ?_
  rintro e w1 ⟨rfl, rfl⟩
  clear HL
  go_wp2_with fail
  go_loopw [15, 16] (fun qv rv wr => qv = .int .u64 (q1 : Int) ∧ rv = .int .u64 (R1 : Int) ∧ wr = w1) (fun _ _ _ => 0)
  case atStart => exact ⟨rfl, rfl, rfl⟩
  case round =>
    obtain ⟨rfl, rfl, rfl⟩ := hrel
    go_wp2_with fail
    go_loopw [18, 16] (fun qv rv w2 => qv = .int .u64 (q0 : Int) ∧ rv = .int .u64 (R0 : Int) ∧ w2 = wr) (fun _ _ _ => 0)
    case atStart => exact ⟨rfl, rfl, rfl⟩
    case round =>
      obtain ⟨rfl, rfl, rfl⟩ := hrel
      go_wp2_with fail
      go_ret2
      exact ⟨_, rfl, rfl⟩

set_option maxRecDepth 1000000 in
set_option maxHeartbeats 4000000 in
theorem Div64_long7 (hi lo y : Nat) (w : World) (h0 : 0 < hi) (hh : hi < y) (hlo : lo < 18446744073709551616) (hb : Lib.bitLen y = 7 + 1) (hy1 : 128 ≤ y) (hy2 : y < 256) :
    Calls Tryd.prog 83 #[.int .u64 (hi : Int), .int .u64 (lo : Int), .int .u64 (y : Int)] w fun e w' => ∃ r, e = .returned (.tuple #[.int .u64 ((hi * 18446744073709551616 + lo) / y : Nat), r]) ∧ w' = w := by
  have HL := Lib.hid (Lead_any y (7 + 1) w (by omega) hb)
  clear hb
  obtain ⟨U, N, M, u, hU, hN, hM, hu⟩ : ∃ U N M u : Nat, U = hi * 72057594037927936 + lo / 256 ∧ N = y * 16777216 ∧ M = lo % 256 * 72057594037927936 ∧ u = lo % 256 * 16777216 := ⟨_, _, _, _, rfl, rfl, rfl, rfl⟩
  obtain ⟨q1, R1, V, q0, R0, P1, P0, hq1, hR1, hV, hq0, hR0, hP1, hP0, hs1, hs0, b1, b2, b3, b4⟩ := divparts (U := U) (N := N) (u := u) (by omega) (by omega) (by omega) (by omega)
  have hQ : (hi * 18446744073709551616 + lo) / y = q1 * 4294967296 + q0 := by
    rw [longdiv (X := hi * 18446744073709551616 + lo) (y := y) (S := 72057594037927936) (U := U) (u := u) (N := N) (by omega) (by omega) (by omega) (by omega), ← hq1, ← hR1, ← hV, ← hq0]
  obtain ⟨Q, hQ2⟩ : ∃ Q, Q = (hi * 18446744073709551616 + lo) / y := ⟨_, rfl⟩
  rw [← hQ2] at hQ ⊢
  clear hQ2
  have e1 : ((y : Int) == 0) = false := by simp; omega
  have e2 : ¬ (y : Int) ≤ (hi : Int) := by omega
  have e3 : ((hi : Int) == 0) = false := by simp; omega
  have f1 : bits .or .u64 ((hi : Int) * 72057594037927936) ((lo : Int) / 256) = (U : Int) := by
    have h := bits_or_u64_nat (hi * 72057594037927936) (lo / 256) (by omega) (by omega)
    have h2 := Nat.two_pow_add_eq_or_of_lt (b := lo / 256) (i := 56) (by omega) hi
    rw [Nat.mul_comm] at h2
    have h3 : hi * 2 ^ 56 = hi * 72057594037927936 := rfl
    rw [h3] at h2
    rw [← h2, ← hU] at h
    exact h
  have f2 : (y : Int) * 72057594037927936 / 4294967296 = (N : Int) := by omega
  have f2' : ((N : Int) == 0) = false := by simp; omega
  have f3 : IntKind.u64.wrap ((U : Int).tdiv (N : Int)) = (q1 : Int) := by rw [← Int.ofNat_tdiv, ← hq1, IntKind.wrap_u64]; omega
  have f3' : (U : Int) / (N : Int) = (q1 : Int) := by rw [← Int.natCast_ediv, ← hq1]
  have f4 : IntKind.u64.wrap ((q1 : Int) * (N : Int)) = (P1 : Int) := by rw [← Int.natCast_mul, ← hP1, IntKind.wrap_u64]; omega
  have f5 : IntKind.u64.wrap ((U : Int) - (P1 : Int)) = (R1 : Int) := by rw [IntKind.wrap_u64]; omega
  have f6 : bits .and .u64 ((y : Int) * 72057594037927936) 4294967295 = 0 := by
    have h := Mul64.maskN (y * 72057594037927936) (by omega)
    rw [show y * 72057594037927936 % 4294967296 = 0 by omega] at h
    exact h
  obtain ⟨T1, hT1⟩ : ∃ T1, T1 = 4294967296 * R1 := ⟨_, rfl⟩
  have f7 : IntKind.u64.wrap (4294967296 * (R1 : Int)) = (T1 : Int) := by rw [IntKind.wrap_u64]; omega
  have f8 : IntKind.u64.wrap ((lo : Int) * 72057594037927936) = (M : Int) := by rw [IntKind.wrap_u64]; omega
  have f9 : (M : Int) / 4294967296 = (u : Int) := by omega
  have f10 : IntKind.u64.wrap ((T1 : Int) + (u : Int)) = (V : Int) := by rw [IntKind.wrap_u64]; omega
  have f11 : ¬ (V : Int) < 0 := by omega
  have f12 : bits .and .u64 (M : Int) 4294967295 = 0 := by
    have h := Mul64.maskN M (by omega)
    rw [show M % 4294967296 = 0 by omega] at h
    exact h
  obtain ⟨A, hA⟩ : ∃ A, A = U * 4294967296 % 18446744073709551616 := ⟨_, rfl⟩
  have f13 : IntKind.u64.wrap ((U : Int) * 4294967296) = (A : Int) := by rw [IntKind.wrap_u64]; omega
  obtain ⟨B, hB⟩ : ∃ B, B = (A + u) % 18446744073709551616 := ⟨_, rfl⟩
  have f14 : IntKind.u64.wrap ((A : Int) + (u : Int)) = (B : Int) := by rw [IntKind.wrap_u64]; omega
  obtain ⟨C, hC⟩ : ∃ C, C = P1 * 4294967296 % 18446744073709551616 := ⟨_, rfl⟩
  have f15 : IntKind.u64.wrap ((q1 : Int) * ((y : Int) * 72057594037927936)) = (C : Int) := by
    have h : (q1 : Int) * ((y : Int) * 72057594037927936) = (P1 : Int) * 4294967296 := by
      rw [show (y : Int) * 72057594037927936 = (N : Int) * 4294967296 by omega, ← Int.mul_assoc, ← Int.natCast_mul, ← hP1]
    rw [h, IntKind.wrap_u64]; omega
  have f16 : IntKind.u64.wrap ((B : Int) - (C : Int)) = (V : Int) := by rw [IntKind.wrap_u64]; omega
  have f17 : IntKind.u64.wrap ((V : Int).tdiv (N : Int)) = (q0 : Int) := by rw [← Int.ofNat_tdiv, ← hq0, IntKind.wrap_u64]; omega
  have f17' : (V : Int) / (N : Int) = (q0 : Int) := by rw [← Int.natCast_ediv, ← hq0]
  have f18 : IntKind.u64.wrap ((q0 : Int) * (N : Int)) = (P0 : Int) := by rw [← Int.natCast_mul, ← hP0, IntKind.wrap_u64]; omega
  have f19 : IntKind.u64.wrap ((V : Int) - (P0 : Int)) = (R0 : Int) := by rw [IntKind.wrap_u64]; omega
  obtain ⟨T0, hT0⟩ : ∃ T0, T0 = 4294967296 * R0 := ⟨_, rfl⟩
  have f20 : IntKind.u64.wrap (4294967296 * (R0 : Int)) = (T0 : Int) := by rw [IntKind.wrap_u64]; omega
  have f20' : IntKind.u64.wrap (T0 : Int) = (T0 : Int) := by rw [IntKind.wrap_u64]; omega
  have f20'' : ¬ (T0 : Int) < 0 := by omega
  have f21 : ¬ (4294967296 : Int) ≤ (q1 : Int) := by omega
  have f22 : ¬ (4294967296 : Int) ≤ (q0 : Int) := by omega
  obtain ⟨E, hE⟩ : ∃ E, E = q1 * 4294967296 := ⟨_, rfl⟩
  have f23 : IntKind.u64.wrap ((q1 : Int) * 4294967296) = (E : Int) := by rw [IntKind.wrap_u64]; omega
  have f24 : IntKind.u64.wrap ((E : Int) + (q0 : Int)) = (Q : Int) := by rw [IntKind.wrap_u64]; omega
  have f29 : decide ((4294967296 : Int) ≤ (q1 : Int)) = false := decide_eq_false (by omega)
  have f30 : decide ((4294967296 : Int) ≤ (q0 : Int)) = false := decide_eq_false (by omega)
  have f31 : decide ((V : Int) < 0) = false := decide_eq_false (by omega)
  have f32 : decide ((T0 : Int) < 0) = false := decide_eq_false (by omega)
  have f27 : IntKind.u64.wrap (q1 : Int) = (q1 : Int) := by rw [IntKind.wrap_u64]; omega
  have f28 : IntKind.u64.wrap (q0 : Int) = (q0 : Int) := by rw [IntKind.wrap_u64]; omega
  clear f11 f20'' f21 f22
  clear hQ hE hT0 hC hB hA hT1 hU hN hM hu hq1 hR1 hV hq0 hR0 hP1 hP0 hs1 hs0 b1 b2 b3 b4
  go_enter Tryd.func83, Tryd.ntmps83
  go_wp2_with fail
  refine HL.out.mono ?_
  rintro e w1 ⟨rfl, rfl⟩
  clear HL
  go_wp2_with fail
  go_loopw [15, 16] (fun qv rv wr => qv = .int .u64 (q1 : Int) ∧ rv = .int .u64 (R1 : Int) ∧ wr = w1) (fun _ _ _ => 0)
  case atStart => exact ⟨rfl, rfl, rfl⟩
  case round =>
    obtain ⟨rfl, rfl, rfl⟩ := hrel
    go_wp2_with fail
    go_loopw [18, 16] (fun qv rv w2 => qv = .int .u64 (q0 : Int) ∧ rv = .int .u64 (R0 : Int) ∧ w2 = wr) (fun _ _ _ => 0)
    case atStart => exact ⟨rfl, rfl, rfl⟩
    case round =>
      obtain ⟨rfl, rfl, rfl⟩ := hrel
      go_wp2_with fail
      go_ret2
      exact ⟨_, rfl, rfl⟩

end Go.Proofs.YtclbbchljiagpaaDoor
