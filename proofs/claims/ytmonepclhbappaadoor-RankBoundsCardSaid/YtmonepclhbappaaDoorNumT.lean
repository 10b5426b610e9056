/-
  Contracts: nums.small, Pow, Total, Least; bits.Add64.
-/
import Derived.Test.YtmonepclhbappaaDoorNumS
import Derived.Test.YtmonepclhbappaaDoorNumP
import Derived.Laws.Externs
namespace Go.Proofs.YtmonepclhbappaaDoor
open Go.RowKit
set_option maxRecDepth 100000
set_option linter.unusedVariables false

theorem Add64_any (x y : Nat) (w : World) :
    (callFunc 87 #[.int .u64 x, .int .u64 y, .int .u64 0]).run Tryd.prog w =
      .ok (.value (.tuple #[.int .u64 (((x + y) % 18446744073709551616 : Nat) : Int), .int .u64 (((x + y) / 18446744073709551616 : Nat) : Int)])) w := by
  rw [run_callFunc_extern Tryd.func87 (by kernel_rfl) (by kernel_rfl) (by kernel_rfl) (e := add64Entry) (by kernel_rfl), run_add64 x y 0 (by omega) (by omega) (by omega) (by omega)]
  simp only [Result.andThen]
  congr 5 <;> omega

theorem neg_one_pow (n : Nat) : (-1 : Int) ^ n = if n % 2 = 0 then 1 else -1 := by
  induction n with
  | zero => rfl
  | succ n ih =>
    rw [Int.pow_succ, ih]
    rcases Nat.mod_two_eq_zero_or_one n with h | h
    · rw [if_pos h, if_neg (by omega)]; rfl
    · rw [if_neg (by omega), if_pos (by omega)]; rfl

theorem pow_not_fit {a : Int} (h2 : 2 ≤ a.natAbs) {i n : Nat} (hin : i + 1 ≤ n) (hnf : fitB (a ^ (i + 1)) = false) : fitB (a ^ n) = false := by
  rcases Nat.eq_or_lt_of_le hin with rfl | hlt
  · exact hnf
  · obtain ⟨k, rfl⟩ : ∃ k, n = (i + 1) + (k + 1) := ⟨n - i - 2, by omega⟩
    have h1 : 9223372036854775808 ≤ (a ^ (i + 1)).natAbs := by
      have : ¬ (-9223372036854775808 ≤ a ^ (i + 1) ∧ a ^ (i + 1) ≤ 9223372036854775807) := fun h => by rw [fitB_true h] at hnf; cases hnf
      omega
    have h3 : (a ^ (i + 1 + (k + 1))).natAbs = (a ^ (i + 1)).natAbs * (a ^ (k + 1)).natAbs := by rw [Int.pow_add, Int.natAbs_mul]
    have h4 := two_pow_le h2 (k + 1)
    have h5 : 2 ≤ (a ^ (k + 1)).natAbs := Nat.le_trans (by rw [Nat.pow_succ]; have := Nat.two_pow_pos k; omega) h4
    have h6 := Nat.mul_le_mul h1 h5
    rw [← h3] at h6
    exact fitB_false (by omega)

theorem i64_cell {l : List Int} {i : Nat} (h : i < l.length) : (l.map (Value.int .i64))[i]? = some (.int .i64 l[i]) := by
  rw [List.getElem?_map, List.getElem?_eq_getElem h]; rfl
theorem Sl.i64 {w : World} {A : Option Addr} {n i : Nat} {l : List Int} (h : Sl w 1 A n (l.map (Value.int .i64))) (hl : l.length = n) (hi : i < n) : ∃ b off, A = some ⟨b, off, none⟩ ∧ w.cell? ⟨b, off + i, none⟩ = some (.int .i64 (l[i]'(by omega))) := by
  obtain ⟨b, off, u, hA, h1, h2⟩ := h.one hi
  rw [i64_cell (by omega)] at h1
  cases h1
  exact ⟨b, off, hA, h2⟩

set_option maxHeartbeats 2000000 in
theorem NumsTotal_any (l : List Int) (A : Option Addr) (n c : Nat) (w : World) (hl : l.length = n) (hn : n ≤ 1099511627776) (hr : ∀ x ∈ l, -9223372036854775808 ≤ x ∧ x ≤ 9223372036854775807) (hs : Sl w 1 A n (l.map (Value.int .i64))) :
    Calls Tryd.prog 57 #[.slice A n c] w fun e w' => ∃ ev, e = .returned (.tuple #[.int .i64 (tn (sumZ l)), ev]) ∧ (te txtSum (sumZ l)).At w' ev ∧ Below w.heap.size w w' := by
  have HS := Lib.hid hs
  have HR := Lib.hid hr
  clear hs hr
  go_enter Tryd.func57, Tryd.ntmps57
  go_wp2_with fail
  go_loopw [4, 5, 11] (fun hv lv iv wr => ∃ (k lo : Nat) (hi : Int), k ≤ n ∧ iv = .int .i64 (k : Int) ∧ lv = .int .u64 (lo : Int) ∧ hv = .int .i64 hi ∧ lo < 18446744073709551616 ∧ (-(k : Int) ≤ hi ∧ hi ≤ (k : Int)) ∧ hi * 18446744073709551616 + lo = sumZ (l.take k) ∧ wr = w) (fun _ _ iv _ => n - (intOf iv).toNat)
  case atStart => exact ⟨0, 0, 0, Nat.zero_le _, rfl, rfl, rfl, by omega, by omega, by simp [sumZ], rfl⟩
  case round =>
    obtain ⟨k, lo, hi, hk, rfl, rfl, rfl, hlo, hhi, hsum, rfl⟩ := hrel
    have HSum := Lib.hid hsum
    clear hsum
    by_cases hlt : k < n
    · have hkl : k < l.length := by omega
      obtain ⟨b, off, rfl, hc⟩ := HS.out.i64 hl hlt
      have HT := Lib.hid (sumZ_take_succ hkl)
      have hx := HR.out l[k] (List.getElem_mem hkl)
      generalize l[k] = x at *
      obtain ⟨X, hX, hX2⟩ : ∃ X : Nat, IntKind.u64.wrap x = (X : Int) ∧ X < 18446744073709551616 := ⟨(x % 18446744073709551616).toNat, by rw [IntKind.wrap_u64]; omega, by omega⟩
      have HX := Lib.hid (show (X : Int) = x - (x / 9223372036854775808) * 18446744073709551616 by rw [← hX, IntKind.wrap_u64]; omega)
      obtain ⟨lo', hlo'⟩ : ∃ lo', (lo + X) % 18446744073709551616 = lo' := ⟨_, rfl⟩
      obtain ⟨cy, hcy⟩ : ∃ cy, (lo + X) / 18446744073709551616 = cy := ⟨_, rfl⟩
      have hc1 : cy ≤ 1 := by omega
      have HC := Lib.hid (show lo + X = cy * 18446744073709551616 + lo' by omega)
      have hlo2 : lo' < 18446744073709551616 := by omega
      have hA64 := Add64_any lo X wr
      rw [hlo', hcy] at hA64
      clear hlo' hcy
      obtain ⟨s, hs⟩ : ∃ s, x / 9223372036854775808 = s := ⟨_, rfl⟩
      have hs2 : -1 ≤ s ∧ s ≤ 0 := by omega
      rw [hs] at HX
      have hlt' : (k : Int) < (n : Int) := by omega
      have hw1 : IntKind.i64.wrap (cy : Int) = (cy : Int) := by rw [IntKind.wrap_i64]; omega
      have hw2 : IntKind.i64.wrap (s + (cy : Int)) = s + (cy : Int) := by rw [IntKind.wrap_i64]; omega
      have hw3 : IntKind.i64.wrap (hi + (s + (cy : Int))) = hi + (s + (cy : Int)) := by rw [IntKind.wrap_i64]; omega
      go_wp2_with (simp only [hA64])
      go_roundw
      case rel => exact ⟨k + 1, lo', hi + (s + (cy : Int)), by omega, rfl, rfl, rfl, hlo2, by omega, by have h1 := HT.out; have h2 := HSum.out; have h3 := HC.out; have h4 := HX.out; rw [h1, ← h2]; omega, trivial⟩
      case measure => simp [intOf]; omega
    · obtain rfl : k = n := by omega
      have hlt' : ¬ (k : Int) < (k : Int) := by omega
      rw [List.take_of_length_le (by omega)] at HSum
      by_cases hz : lo < 9223372036854775808
      · have hw1 : IntKind.i64.wrap (lo : Int) = (lo : Int) := by rw [IntKind.wrap_i64]; omega
        have hd : (lo : Int) / 9223372036854775808 = 0 := by omega
        by_cases hh : hi = 0
        · subst hh
          have HF := Lib.hid (show fitB (sumZ l) = true from fitB_true (by have := HSum.out; omega))
          go_wp2_with fail
          go_ret2
          exact ⟨.nilIface, by rw [tn_fit HF.out, ← HSum.out]; simp, by rw [te_fit HF.out]; rfl, Below.refl _ _⟩
        · have hne : (hi == 0) = false := by simp; omega
          have HF := Lib.hid (show fitB (sumZ l) = false from fitB_false (by have := HSum.out; omega))
          go_wp2_with fail
          refine (Over_any txtSum _).mono ?_
          rintro e w2 ⟨ev, rfl, hv, hb2⟩
          have HV := Lib.hid hv
          clear hv
          go_wp2_with fail
          go_ret2
          exact ⟨ev, by rw [tn_not HF.out]; rfl, by rw [te_not HF.out]; exact HV.out, hb2⟩
      · obtain ⟨m, hm⟩ : ∃ m : Int, IntKind.i64.wrap (lo : Int) = m := ⟨_, rfl⟩
        have hm2 : m = (lo : Int) - 18446744073709551616 := by rw [← hm, IntKind.wrap_i64]; omega
        have hd : m / 9223372036854775808 = -1 := by omega
        by_cases hh : hi = -1
        · subst hh
          have HF := Lib.hid (show fitB (sumZ l) = true from fitB_true (by have := HSum.out; omega))
          have HM := Lib.hid hm2
          clear hm2
          go_wp2_with fail
          go_ret2
          exact ⟨.nilIface, by rw [tn_fit HF.out, ← HSum.out, show (-1 : Int) * 18446744073709551616 + (lo : Int) = m by rw [HM.out]; omega]; rfl, by rw [te_fit HF.out]; rfl, Below.refl _ _⟩
        · have hne : (hi == -1) = false := by simp; omega
          have HF := Lib.hid (show fitB (sumZ l) = false from fitB_false (by have := HSum.out; omega))
          clear hm2
          go_wp2_with fail
          refine (Over_any txtSum _).mono ?_
          rintro e w2 ⟨ev, rfl, hv, hb2⟩
          have HV := Lib.hid hv
          clear hv
          go_wp2_with fail
          go_ret2
          exact ⟨ev, by rw [tn_not HF.out]; rfl, by rw [te_not HF.out]; exact HV.out, hb2⟩

end Go.Proofs.YtmonepclhbappaaDoor
