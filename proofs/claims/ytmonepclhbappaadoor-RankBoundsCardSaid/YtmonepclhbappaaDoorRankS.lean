/-
  Walks of rank.Whole, rank.Split and the document's Split.
-/
import Derived.Test.YtmonepclhbappaaDoorErr
import Derived.Test.YtmonepclhbappaaDoorRankP
import Derived.BigQuiet
import Derived.Deep.QuietTactic
namespace Go.Proofs.YtmonepclhbappaaDoor
open Go.RowKit

theorem elemPart : Elem Tryd.prog 64 63 (.agg #[.int .i64 0, .int .i64 0]) 2 16 := ⟨Tryd.underlying64, by kernel_rfl, rfl, by decide⟩
theorem ti64 : -9223372036854775808 ≤ (0:Int) := by decide

set_option maxHeartbeats 1000000 in
theorem Split_bad (total n : Int) (w : World) (h : total < 0 ∨ n < 1 ∨ 64 < n) :
    Calls Tryd.prog 33 #[.int .i64 total, .int .i64 n] w fun e w' =>
      ∃ v, e = .returned (.tuple #[.slice none 0 0, v]) ∧ (Err.flt 1 0 ⟨#[115, 112, 108, 105, 116]⟩).At w' v ∧ Below w.heap.size w w' := by
  have key : ∀ (t : Bool), (decide (total < 0) || (decide (n < 1) || decide (64 < n))) = true := by
    intro _; simp; omega
  by_cases h1 : total < 0
  · go_enter Tryd.func33, Tryd.ntmps33
    go_wp2_with (go_at_call 44; refine (New_err _ _ _ _).mono ?_; rintro e w' ⟨v, rfl, hv, hb⟩)
    go_ret2
    exact ⟨_, rfl, hv, hb⟩
  · by_cases h2 : n < 1
    · go_enter Tryd.func33, Tryd.ntmps33
      go_wp2_with (go_at_call 44; refine (New_err _ _ _ _).mono ?_; rintro e w' ⟨v, rfl, hv, hb⟩)
      go_ret2
      exact ⟨_, rfl, hv, hb⟩
    · have h3 : 64 < n := by omega
      go_enter Tryd.func33, Tryd.ntmps33
      go_wp2_with (go_at_call 44; refine (New_err _ _ _ _).mono ?_; rintro e w' ⟨v, rfl, hv, hb⟩)
      go_ret2
      exact ⟨_, rfl, hv, hb⟩

set_option maxHeartbeats 1000000 in
theorem Split_good (total : Int) (n : Nat) (w : World) (h0 : 0 ≤ total) (h1 : total ≤ 9223372036854775807) (h2 : 1 ≤ n) (h3 : n ≤ 64) :
    Calls Tryd.prog 33 #[.int .i64 total, .int .i64 n] w fun e w' =>
      ∃ A c, e = .returned (.tuple #[.slice A n c, .nilIface]) ∧ Sl w' 2 A n (Rk.cells (Rk.parts total n)) ∧ Below w.heap.size w w' := by
  have hq : total.tdiv n = total / n := Int.tdiv_eq_ediv_of_nonneg h0
  have hr : total.tmod n = total % n := Int.tmod_eq_emod_of_nonneg h0
  have hn0 : ((n : Int) == 0) = false := by simp; omega
  have hq0 : 0 ≤ total / (n : Int) := Int.ediv_nonneg h0 (by omega)
  have hq1 : total / (n : Int) ≤ total := Int.ediv_le_self _ h0
  have hr0 := Int.emod_nonneg total (show (n : Int) ≠ 0 by omega)
  have hr1 := Int.emod_lt_of_pos total (show 0 < (n : Int) by omega)
  have hwq : IntKind.i64.wrap (total / n) = total / n := IntWalk.i64_in _ (by omega)
  have hwr : IntKind.i64.wrap (total % n) = total % n := IntWalk.i64_in _ (by omega)
  go_enter Tryd.func33, Tryd.ntmps33
  go_wp2
  go_quiet (fail)
  clear hwq hwr hq hr
  go_wp2
  go_loopw [8, 9, 11, 30] (fun l a _ i wr => ∃ (k : Nat), k ≤ n ∧ i = .int .i64 k ∧ a = .int .i64 (Rk.start total n k) ∧ wr.ownsRow w.heap.size 63 2 l k (Rk.cells ((Rk.parts total n).take k)) ∧ Below w.heap.size w wr) (fun _ _ _ i _ => n - (intOf i).toNat)
  case atStart => exact ⟨0, Nat.zero_le _, rfl, by rw [show ((0:Nat):Int) = 0 from rfl, Rk.start_zero total n h0 (by omega)], by simpa [Rk.cells] using World.ownsRow_nil _ _ _ _, bel_drewN (Below.refl _ _) _⟩
  case round =>
    obtain ⟨k, hk, rfl, rfl, hown, hb⟩ := hrel
    by_cases hlt : k < n
    · have hs := Rk.start_succ total n k
      have hl1 := Rk.start_le total n k h0 (by omega) (by omega) (by omega)
      have hl2 := Rk.start_le total n (k + 1) h0 (by omega) (by omega) (by omega)
      have hq0 : 0 ≤ total / (n : Int) := Int.ediv_nonneg h0 (by omega)
      have ht := Rk.parts_take_succ total n k hlt
      have HT := Lib.hid ht
      clear ht
      generalize Rk.start total n k = x at *
      generalize hy : Rk.start total n (k + 1) = y at *
      generalize total / (n : Int) = q at *
      generalize total % (n : Int) = r at *
      have HY := Lib.hid hy
      clear hy
      by_cases hkr : (k : Int) < r
      · rw [if_pos hkr] at hs
        have hs1 : x + q + 1 ≤ y := by omega
        have hs2 : y ≤ x + q + 1 := by omega
        have HS := Lib.hid hs
        clear hs
        go_wp2_with (at_builtin; go_loud (refine wpList_push elemPart _ _ rfl rfl hown hb (Nat.le_refl _) rfl rfl rfl (by simp [Value.oneCell']) (by unfold lim; omega) (by unfold lim; omega) ?_); intro v' w1 hown1 hb1)
        go_roundw
        case rel => exact ⟨k + 1, by omega, by go_num, by rw [show ((k + 1 : Nat) : Int) = (k : Int) + 1 from by omega, HY.out, HS.out], by rw [HT.out, Rk.cells_snoc, HS.out]; exact hown1, hb1⟩
        case measure => simp [intOf]; omega
      · rw [if_neg hkr] at hs
        have hs1 : x + q ≤ y := by omega
        have hs2 : y ≤ x + q := by omega
        have HS := Lib.hid hs
        clear hs
        go_wp2_with (at_builtin; go_loud (refine wpList_push elemPart _ _ rfl rfl hown hb (Nat.le_refl _) rfl rfl rfl (by simp [Value.oneCell']) (by unfold lim; omega) (by unfold lim; omega) ?_); intro v' w1 hown1 hb1)
        go_roundw
        case rel => exact ⟨k + 1, by omega, by go_num, by rw [show ((k + 1 : Nat) : Int) = (k : Int) + 1 from by omega, HY.out, HS.out]; simp, by rw [HT.out, Rk.cells_snoc, HS.out]; simpa using hown1, hb1⟩
        case measure => simp [intOf]; omega
    · obtain rfl : k = n := by omega
      obtain ⟨A, c, rfl, hsl⟩ := Sl.own hown
      rw [List.take_of_length_le (by rw [Rk.parts_length]; omega)] at hsl
      go_wp2
      go_ret2
      exact ⟨A, c, rfl, hsl, hb⟩

/-- rank.Split, whatever it is given. -/
theorem Split_any (total n : Int) (w : World) (h1 : total ≤ 9223372036854775807) :
    Calls Tryd.prog 33 #[.int .i64 total, .int .i64 n] w fun e w' =>
      ∃ A k c v, e = .returned (.tuple #[.slice A k c, v]) ∧ Below w.heap.size w w' ∧
        Hid ((total < 0 ∨ n < 1 ∨ 64 < n) → k = 0 ∧ ∃ g, v = .iface 128 (.pointer (some ⟨g, 0, none⟩)) ∧ Blk w' g 131 #[.int .i64 1, .int .i64 0, .string ⟨#[115, 112, 108, 105, 116]⟩]) ∧
        Hid (¬ (total < 0 ∨ n < 1 ∨ 64 < n) → (k : Int) = n ∧ v = .nilIface ∧ Sl w' 2 A k (Rk.cells (Rk.parts total k))) := by
  by_cases h : total < 0 ∨ n < 1 ∨ 64 < n
  · refine (Split_bad total n w h).mono ?_
    rintro e w' ⟨v, he, hv, hb⟩
    exact ⟨none, 0, 0, v, he, hb, fun _ => ⟨rfl, hv⟩, fun h' => absurd h h'⟩
  · obtain ⟨k, rfl⟩ := Int.eq_ofNat_of_zero_le (show 0 ≤ n by omega)
    refine (Split_good total k w (by omega) h1 (by omega) (by omega)).mono ?_
    rintro e w' ⟨A, c, he, hs, hb⟩
    exact ⟨A, k, c, .nilIface, he, hb, fun h' => absurd h' h, fun _ => ⟨rfl, rfl, hs⟩⟩
end Go.Proofs.YtmonepclhbappaaDoor
