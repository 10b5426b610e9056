/-
  Contract: bits.Div64 for small divisors.
-/
import Derived.Test.YtclbbchljiagpaaDoorNumD64
import Derived.Test.YtclbbchljiagpaaDoorWords3
import Derived.BigQuiet
namespace Go.Proofs.YtclbbchljiagpaaDoor
open Go.RowKit
set_option maxRecDepth 100000
set_option linter.unusedVariables false

theorem Div64_any (hi lo y : Nat) (w : World) (hh : hi < y) (hlo : lo < 18446744073709551616) (h : y < 256) :
    Calls Tryd.prog 83 #[.int .u64 (hi : Int), .int .u64 (lo : Int), .int .u64 (y : Int)] w fun e w' => ∃ r, e = .returned (.tuple #[.int .u64 ((hi * 18446744073709551616 + lo) / y : Nat), r]) ∧ Below w.heap.size w w' := by
  by_cases h0 : hi = 0
  · subst h0
    rw [Nat.zero_mul, Nat.zero_add]
    have e1 : ((y : Int) == 0) = false := by simp; omega
    have e2 : ¬ (y : Int) ≤ 0 := by omega
    obtain ⟨q, hq⟩ : ∃ q, q = lo / y := ⟨_, rfl⟩
    rw [← hq]
    have hq2 : q ≤ lo := by rw [hq]; exact Nat.div_le_self _ _
    have f3 : IntKind.u64.wrap ((lo : Int).tdiv (y : Int)) = (q : Int) := by rw [← Int.ofNat_tdiv, ← hq, IntKind.wrap_u64]; omega
    have f3' : (lo : Int) / (y : Int) = (q : Int) := by rw [← Int.natCast_ediv, ← hq]
    clear hq
    go_enter Tryd.func83, Tryd.ntmps83
    go_wp2_with fail
    go_quiet (fail)
    go_wp2_with fail
    go_ret2
    exact ⟨_, rfl, drew_bel ⟨_, rfl⟩⟩
  · have hy : y < 2 ∨ (2 ≤ y ∧ y < 4) ∨ (4 ≤ y ∧ y < 8) ∨ (8 ≤ y ∧ y < 16) ∨ (16 ≤ y ∧ y < 32) ∨ (32 ≤ y ∧ y < 64) ∨ (64 ≤ y ∧ y < 128) ∨ 128 ≤ y := by omega
    rcases hy with hy | hy | hy | hy | hy | hy | hy | hy
    · omega
    · exact (Div64_long1 hi lo y w (by omega) hh hlo (bits_few y h 1 (by omega) (by omega) (by omega)) (by omega) (by omega)).mono fun _ _ ⟨r, h1, h2⟩ => ⟨r, h1, h2 ▸ Below.refl _ _⟩
    · exact (Div64_long2 hi lo y w (by omega) hh hlo (bits_few y h 2 (by omega) (by omega) (by omega)) (by omega) (by omega)).mono fun _ _ ⟨r, h1, h2⟩ => ⟨r, h1, h2 ▸ Below.refl _ _⟩
    · exact (Div64_long3 hi lo y w (by omega) hh hlo (bits_few y h 3 (by omega) (by omega) (by omega)) (by omega) (by omega)).mono fun _ _ ⟨r, h1, h2⟩ => ⟨r, h1, h2 ▸ Below.refl _ _⟩
    · exact (Div64_long4 hi lo y w (by omega) hh hlo (bits_few y h 4 (by omega) (by omega) (by omega)) (by omega) (by omega)).mono fun _ _ ⟨r, h1, h2⟩ => ⟨r, h1, h2 ▸ Below.refl _ _⟩
    · exact (Div64_long5 hi lo y w (by omega) hh hlo (bits_few y h 5 (by omega) (by omega) (by omega)) (by omega) (by omega)).mono fun _ _ ⟨r, h1, h2⟩ => ⟨r, h1, h2 ▸ Below.refl _ _⟩
    · exact (Div64_long6 hi lo y w (by omega) hh hlo (bits_few y h 6 (by omega) (by omega) (by omega)) (by omega) (by omega)).mono fun _ _ ⟨r, h1, h2⟩ => ⟨r, h1, h2 ▸ Below.refl _ _⟩
    · exact (Div64_long7 hi lo y w (by omega) hh hlo (bits_few y h 7 (by omega) (by omega) (by omega)) (by omega) (by omega)).mono fun _ _ ⟨r, h1, h2⟩ => ⟨r, h1, h2 ▸ Below.refl _ _⟩
end Go.Proofs.YtclbbchljiagpaaDoor
