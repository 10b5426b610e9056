/-
  Part 12 of the proof of RankMany: RankAt1, RankZ, RankP, RankS, RankA, RankI, RankR.
-/
import Derived.Test.YtmonepclhbappaaDoorRankManyM9
import Derived.BigQuiet
import Derived.Test.YtmonepclhbappaaDoorRankManyM11
import Derived.Test.YtmonepclhbappaaDoorRankManyM1
import Derived.Deep.QuietTactic
import Derived.Deep.DeepCutAuto
import Derived.Test.YtmonepclhbappaaDoorRankManyM7
import Derived.Test.YtmonepclhbappaaDoorRankManyM2
import Derived.Test.YtmonepclhbappaaDoorRankManyM6
/-
  Ranks: At where there is no such rank, At and Rank of nothing.
-/
namespace Go.Proofs.YtmonepclhbappaaDoor
open Go.RowKit Go.Maps
set_option maxRecDepth 100000
set_option linter.unusedVariables false

theorem At_nil (n : Int) (w : World) : Calls Tryd.prog 38 #[.pointer none, .int .i64 n] w fun e w' => ∃ ev, e = .returned (.tuple #[.slice none 0 0, ev]) ∧ (Err.flt 10 0 ⟨#[114, 97, 110, 107, 115]⟩).At w' ev ∧ Below w.heap.size w w' := by
  go_enter Tryd.func38, Tryd.ntmps38
  go_wp2_with (go_at_call 44; refine (New_err _ _ _ _).mono ?_; rintro e w' ⟨v, rfl, hv, hb⟩; have HV := Lib.hid hv; have HB := Lib.hid hb; clear hv hb)
  go_ret2
  exact ⟨_, rfl, HV.out, HB.out⟩
theorem At_out (q p : Nat) (od : List Rw) (n : Int) (w : World) (h : RkM w q p od) (hn : n < 0 ∨ totP od ≤ n) : Calls Tryd.prog 38 #[.pointer (some ⟨q, 0, none⟩), .int .i64 n] w fun e w' => ∃ ev, e = .returned (.tuple #[.slice none 0 0, ev]) ∧ (Err.flt 3 0 ⟨#[114, 97, 110, 107]⟩).At w' ev ∧ Below w.heap.size w w' := by
  obtain ⟨mb, m, f, hq, _⟩ := h
  have c2 := hq.cell 2
  simp at c2
  clear hq
  by_cases h0 : n < 0
  · go_enter Tryd.func38, Tryd.ntmps38
    go_wp2_with (go_at_call 44; refine (New_err _ _ _ _).mono ?_; rintro e w' ⟨v, rfl, hv, hb⟩; have HV := Lib.hid hv; have HB := Lib.hid hb; clear hv hb)
    go_ret2
    exact ⟨_, rfl, HV.out, HB.out⟩
  · have h1 : totP od ≤ n := by omega
    clear hn
    go_enter Tryd.func38, Tryd.ntmps38
    go_wp2_with (go_at_call 44; refine (New_err _ _ _ _).mono ?_; rintro e w' ⟨v, rfl, hv, hb⟩; have HV := Lib.hid hv; have HB := Lib.hid hb; clear hv hb)
    go_ret2
    exact ⟨_, rfl, HV.out, HB.out⟩
theorem Rank_nil (A : Option Addr) (n c : Nat) (w : World) : Calls Tryd.prog 39 #[.pointer none, .slice A n c] w fun e w' => ∃ ev, e = .returned (.tuple #[.int .i64 0, ev]) ∧ (Err.flt 10 0 ⟨#[114, 97, 110, 107, 115]⟩).At w' ev ∧ Below w.heap.size w w' := by
  go_enter Tryd.func39, Tryd.ntmps39
  go_wp2_with (go_at_call 44; refine (New_err _ _ _ _).mono ?_; rintro e w' ⟨v, rfl, hv, hb⟩; have HV := Lib.hid hv; have HB := Lib.hid hb; clear hv hb)
  go_ret2
  exact ⟨_, rfl, HV.out, HB.out⟩
end Go.Proofs.YtmonepclhbappaaDoor
/-
  Ranks: what nobody answers.
-/
namespace Go.Proofs.YtmonepclhbappaaDoor
open Go.RowKit Go.Maps
set_option maxRecDepth 100000
set_option linter.unusedVariables false

theorem Total_nil (w : World) : Calls Tryd.prog 34 #[.pointer none] w fun e w' => e = .returned (.int .i64 0) ∧ w = w' := by
  go_enter Tryd.func34, Tryd.ntmps34
  go_wp2_with fail
  go_ret
  exact ⟨rfl, rfl⟩
theorem RankOf_nil (w : World) : Calls Tryd.prog 30 #[.pointer none] w fun e w' => ∃ ev, e = .returned (.tuple #[.pointer none, ev]) ∧ (Err.flt 10 0 ⟨#[111, 100, 97, 103]⟩).At w' ev ∧ Below w.heap.size w w' := by
  go_enter Tryd.func30, Tryd.ntmps30
  go_wp2_with (go_at_call 44; refine (New_err _ _ _ _).mono ?_; rintro e w' ⟨v, rfl, hv, hb⟩; have HV := Lib.hid hv; have HB := Lib.hid hb; clear hv hb)
  go_ret2
  exact ⟨_, rfl, HV.out, HB.out⟩

set_option maxHeartbeats 4000000 in
theorem Each1_nil (y : Value) (Bp Br : Nat) (f t : Int) (w : World) (hp : Blk w Bp 63 #[.int .i64 f, .int .i64 t]) (hr : Blk w Br 57 #[.pointer none]) (hft : min t 0 ≤ max f 0) :
    Calls Tryd.prog 71 #[y, .pointer (some ⟨Bp, 0, none⟩), .pointer (some ⟨Br, 0, none⟩)] w fun e w' => (∃ v, e = .returned v) ∧ w.grownBy w' none := by
  have c0 := hp.cell 0
  have c1 := hp.cell 1
  have c2 := hr.cell 0
  simp at c0 c1 c2
  have hft' : ¬ max f 0 < min t 0 := by omega
  clear hp hr hft
  go_enter Tryd.func71, Tryd.ntmps71
  go_wp2_with fail
  go_region_held3 (fun w' => w'.cell? ⟨Bp, 0, none⟩ = some (.int .i64 f) ∧ w'.cell? ⟨Bp, 1, none⟩ = some (.int .i64 t) ∧ w'.cell? ⟨Br, 0, none⟩ = some (.pointer none)) (go_keep)
    ((go_at_call 34; refine (Total_nil _).mono ?_; rintro e' w3 ⟨rfl, rfl⟩))
  have hg : w.grownBy (w.drewN 1) none := gb_below (bel_drewN (Below.refl w.heap.size w) 1) none
  have d0 : (w.drewN 1).cell? ⟨Bp, 0, none⟩ = some (.int .i64 f) := c0
  have HG := Lib.hid hg
  clear hg c0 c1 c2
  obtain ⟨w1, hw1⟩ : ∃ w1, w1 = w.drewN 1 := ⟨_, rfl⟩
  rw [show w.drew = w.drewN 1 from rfl]
  rw [← hw1] at HG d0 ⊢
  clear hw1
  go_wp2_with fail
  go_loop [5] (fun iv => iv = .int .i64 (max f 0)) (fun iv => 0)
  case atStart => rfl
  case round =>
    subst hrel
    go_wp2_with fail
    go_end0
    exact ⟨⟨_, rfl⟩, HG.out⟩
theorem each_nil (k : Nat) (Bp Br : Nat) (f t : Int) (w : World) (hp : Blk w Bp 63 #[.int .i64 f, .int .i64 t]) (hr : Blk w Br 57 #[.pointer none]) (hft : min t 0 ≤ max f 0) :
    GivesKnown Fence.wide k Tryd.prog 71 #[.pointer (some ⟨Bp, 0, none⟩), .pointer (some ⟨Br, 0, none⟩)] (fun x : RowE => #[rv x]) (fun _ _ _ => False) (fun _ _ _ => True) (fun xs => xs = []) (fun _ => False) 0 w := by
  intro l J Jx W hW hJ hJx hY h0
  exact (callsIn_wide.2 (Each1_nil (.func (.yield l) #[] #[]) Bp Br f t W (hp.keep hW) (hr.keep hW) hft)).mono fun e W' ⟨hv, hg⟩ => ⟨hv, .inl ⟨[], rfl, hJ _ _ _ none h0 hg (fun r e => by cases e)⟩⟩
end Go.Proofs.YtmonepclhbappaaDoor
/-
  The plain law of chapter 14's parts: no program in sight.
-/
namespace Go.Proofs.YtmonepclhbappaaDoor
namespace Rk

/-- The parts' cells. -/
def cells (l : List (Int × Int)) : List Value := l.flatMap fun p => [.int .i64 p.1, .int .i64 p.2]
theorem cells_nil : cells [] = [] := rfl
theorem cells_snoc (l : List (Int × Int)) (a b : Int) : cells (l ++ [(a, b)]) = cells l ++ [.int .i64 a, .int .i64 b] := by simp [cells]
theorem cells_length (l : List (Int × Int)) : (cells l).length = l.length * 2 := by
  induction l with
  | nil => rfl
  | cons p l ih => simp only [cells, List.flatMap_cons, List.length_append, List.length_cons, List.length_nil] at ih ⊢; omega
theorem cells_at : ∀ (l : List (Int × Int)) (k : Nat) (h : k < l.length), (cells l)[k * 2 + 0]? = some (.int .i64 l[k].1) ∧ (cells l)[k * 2 + 1]? = some (.int .i64 l[k].2)
  | p :: l, 0, _ => by simp [cells]
  | p :: l, k + 1, h => by
    have ih := cells_at l k (by simpa using h)
    have e0 : (k + 1) * 2 + 0 = (k * 2 + 0) + 2 := by omega
    have e1 : (k + 1) * 2 + 1 = (k * 2 + 1) + 2 := by omega
    rw [e0, e1]
    simp only [cells, List.flatMap_cons, List.cons_append, List.nil_append, List.getElem?_cons_succ, List.getElem_cons_succ] at ih ⊢
    exact ih

/-- Whole: where the parts end, if they go one behind the other. -/
def whole : Int → List (Int × Int) → Option Int
  | at_, [] => some at_
  | at_, p :: l => if p.1 = at_ ∧ p.1 ≤ p.2 then whole p.2 l else none
def wholeV : Option Int → Value
  | some n => .tuple #[.int .i64 n, .bool true]
  | none => .tuple #[.int .i64 0, .bool false]

/-- Where part i of a split begins. -/
def start (total n i : Int) : Int := i * (total / n) + min i (total % n)
def parts (total : Int) (n : Nat) : List (Int × Int) := (List.range n).map fun (i : Nat) => (start total n (i : Int), start total n ((i : Int) + 1))
theorem start_zero (total n : Int) (h0 : 0 ≤ total) (hn : 0 < n) : start total n 0 = 0 := by
  have := Int.emod_nonneg total (Int.ne_of_gt hn)
  unfold start; omega
theorem start_end (total n : Int) (hn : 0 < n) : start total n n = total := by
  have h1 := Int.emod_lt_of_pos total hn
  have h2 := Int.mul_ediv_add_emod total n
  unfold start
  rw [Int.min_eq_right (by omega)]
  exact h2
theorem start_succ (total n i : Int) : start total n (i + 1) = start total n i + total / n + (if i < total % n then 1 else 0) := by
  unfold start
  have : (i + 1) * (total / n) = i * (total / n) + total / n := by rw [Int.add_mul]; omega
  split <;> omega
theorem start_le (total n i : Int) (h0 : 0 ≤ total) (hn : 0 < n) (hi : 0 ≤ i) (hin : i ≤ n) : 0 ≤ start total n i ∧ start total n i ≤ total := by
  have h1 := Int.emod_lt_of_pos total hn
  have h2 := Int.mul_ediv_add_emod total n
  have h3 := Int.emod_nonneg total (Int.ne_of_gt hn)
  have h4 : 0 ≤ total / n := Int.ediv_nonneg h0 (by omega)
  have h5 : i * (total / n) ≤ n * (total / n) := Int.mul_le_mul_of_nonneg_right hin h4
  have h6 : 0 ≤ i * (total / n) := Int.mul_nonneg hi h4
  unfold start
  constructor
  · omega
  · by_cases h : i ≤ total % n
    · have h7 : (n - i) * (total / n) ≥ 0 := Int.mul_nonneg (by omega) h4
      rw [Int.sub_mul] at h7
      omega
    · rw [Int.min_eq_right (by omega)]; omega
/-- What is left, shared among who is left: the size of part i, as the document has it. -/
theorem left_div (total n i : Int) (h0 : 0 ≤ total) (hn : 0 < n) (hi : 0 ≤ i) (hin : i < n) :
    start total n (i + 1) = start total n i + ((total - start total n i) / (n - i) + if (total - start total n i) % (n - i) = 0 then 0 else 1) := by
  have h1 := Int.emod_lt_of_pos total hn
  have h2 := Int.mul_ediv_add_emod total n
  have h3 := Int.emod_nonneg total (Int.ne_of_gt hn)
  rw [start_succ, Int.add_assoc]
  congr 1
  generalize hq : total / n = q at *
  generalize hr : total % n = r at *
  have hs : start total n i = i * q + min i r := by unfold start; rw [hq, hr]
  rw [hs]
  have hd : 0 < n - i := by omega
  by_cases hir : i < r
  · have e : total - (i * q + min i r) = (n - i) * q + (r - i) := by
      rw [Int.min_eq_left (by omega), Int.sub_mul]; omega
    rw [e, Int.add_comm ((n - i) * q), Int.add_mul_ediv_left _ _ (Int.ne_of_gt hd), Int.add_mul_emod_self_left, Int.ediv_eq_zero_of_lt (by omega) (by omega), Int.emod_eq_of_lt (by omega) (by omega)]
    rw [if_pos hir, if_neg (by omega)]
    omega
  · have e : total - (i * q + min i r) = (n - i) * q := by
      rw [Int.min_eq_right (by omega), Int.sub_mul]; omega
    rw [e, Int.mul_ediv_cancel_left _ (Int.ne_of_gt hd), Int.mul_emod_right, if_neg hir, if_pos rfl]

theorem whole_from (total : Int) (n : Nat) (h0 : 0 ≤ total) (hn : 0 < n) : ∀ k, k ≤ n → whole (start total n (n - k : Nat)) ((parts total n).drop (n - k)) = some total
  | 0, _ => by
    have : (parts total n).drop n = [] := by simp [parts]
    simp only [Nat.sub_zero, this, whole]
    rw [start_end total n (by omega)]
  | k + 1, hk => by
    have ih := whole_from total n h0 hn k (by omega)
    have hlt : n - (k + 1) < (parts total n).length := by simp [parts]; omega
    rw [List.drop_eq_getElem_cons hlt]
    have e : (parts total n)[n - (k + 1)] = (start total n (n - (k + 1) : Nat), start total n ((n - (k + 1) : Nat) + 1)) := by simp [parts]
    have hle : start total n (n - (k + 1) : Nat) ≤ start total n ((n - (k + 1) : Nat) + 1) := by
      rw [start_succ]
      have h4 : 0 ≤ total / (n : Int) := Int.ediv_nonneg h0 (by omega)
      split <;> omega
    have en : n - (k + 1) + 1 = n - k := by omega
    have ec : ((n - (k + 1) : Nat) : Int) + 1 = ((n - k : Nat) : Int) := by omega
    simp only [whole]
    rw [e, if_pos ⟨rfl, hle⟩, en]
    simp only [ec]
    exact ih
theorem whole_parts (total : Int) (n : Nat) (h0 : 0 ≤ total) (hn : 0 < n) : whole 0 (parts total n) = some total := by
  have h := whole_from total n h0 hn n (Nat.le_refl _)
  have e : ((n - n : Nat) : Int) = 0 := by omega
  rw [e, start_zero total n h0 (by omega)] at h
  simpa using h
theorem parts_take_succ (total : Int) (n k : Nat) (hk : k < n) : (parts total n).take (k + 1) = (parts total n).take k ++ [(start total n k, start total n (k + 1))] := by
  rw [List.take_succ_eq_append_getElem (by simp [parts]; omega)]
  simp [parts]
theorem parts_length (total : Int) (n : Nat) : (parts total n).length = n := by simp [parts]
end Rk
end Go.Proofs.YtmonepclhbappaaDoor
/-
  Walks of rank.Whole, rank.Split and the document's Split.
-/
namespace Go.Proofs.YtmonepclhbappaaDoor
open Go.RowKit

theorem elemPart : Elem Tryd.prog 64 63 (.agg #[.int .i64 0, .int .i64 0]) 2 16 := ⟨Tryd.underlying64, by kernel_rfl, rfl, by decide⟩
theorem ti64 : -9223372036854775808 ≤ (0:Int) := by decide

set_option maxHeartbeats 1000000 in
theorem Split_bad (total n : Int) (w : World) (h : total < 0 ∨ n < 1 ∨ 64 < n) :
    Calls Tryd.prog 33 #[.int .i64 total, .int .i64 n] w fun e w' =>
      ∃ v, e = .returned (.tuple #[.slice none 0 0, v]) ∧ (Err.flt 1 0 ⟨#[115, 112, 108, 105, 116]⟩).At w' v ∧ Below w.heap.size w w' := by
  have key : ∀ (t : Bool), (decide (total < 0) || (decide (n < 1) || decide (64 < n))) = true := by
    intro _; simp; omega
  by_cases h1 : total < 0
  · go_enter Tryd.func33, Tryd.ntmps33
    go_wp2_with (go_at_call 44; refine (New_err _ _ _ _).mono ?_; rintro e w' ⟨v, rfl, hv, hb⟩)
    go_ret2
    exact ⟨_, rfl, hv, hb⟩
  · by_cases h2 : n < 1
    · go_enter Tryd.func33, Tryd.ntmps33
      go_wp2_with (go_at_call 44; refine (New_err _ _ _ _).mono ?_; rintro e w' ⟨v, rfl, hv, hb⟩)
      go_ret2
      exact ⟨_, rfl, hv, hb⟩
    · have h3 : 64 < n := by omega
      go_enter Tryd.func33, Tryd.ntmps33
      go_wp2_with (go_at_call 44; refine (New_err _ _ _ _).mono ?_; rintro e w' ⟨v, rfl, hv, hb⟩)
      go_ret2
      exact ⟨_, rfl, hv, hb⟩

set_option maxHeartbeats 1000000 in
theorem Split_good (total : Int) (n : Nat) (w : World) (h0 : 0 ≤ total) (h1 : total ≤ 9223372036854775807) (h2 : 1 ≤ n) (h3 : n ≤ 64) :
    Calls Tryd.prog 33 #[.int .i64 total, .int .i64 n] w fun e w' =>
      ∃ A c, e = .returned (.tuple #[.slice A n c, .nilIface]) ∧ Sl w' 2 A n (Rk.cells (Rk.parts total n)) ∧ Below w.heap.size w w' := by
  have hq : total.tdiv n = total / n := Int.tdiv_eq_ediv_of_nonneg h0
  have hr : total.tmod n = total % n := Int.tmod_eq_emod_of_nonneg h0
  have hn0 : ((n : Int) == 0) = false := by simp; omega
  have hq0 : 0 ≤ total / (n : Int) := Int.ediv_nonneg h0 (by omega)
  have hq1 : total / (n : Int) ≤ total := Int.ediv_le_self _ h0
  have hr0 := Int.emod_nonneg total (show (n : Int) ≠ 0 by omega)
  have hr1 := Int.emod_lt_of_pos total (show 0 < (n : Int) by omega)
  have hwq : IntKind.i64.wrap (total / n) = total / n := IntWalk.i64_in _ (by omega)
  have hwr : IntKind.i64.wrap (total % n) = total % n := IntWalk.i64_in _ (by omega)
  go_enter Tryd.func33, Tryd.ntmps33
  go_wp2
  go_quiet (fail)
  clear hwq hwr hq hr
  go_wp2
  go_loopw [8, 9, 11, 30] (fun l a _ i wr => ∃ (k : Nat), k ≤ n ∧ i = .int .i64 k ∧ a = .int .i64 (Rk.start total n k) ∧ wr.ownsRow w.heap.size 63 2 l k (Rk.cells ((Rk.parts total n).take k)) ∧ Below w.heap.size w wr) (fun _ _ _ i _ => n - (intOf i).toNat)
  case atStart => exact ⟨0, Nat.zero_le _, rfl, by rw [show ((0:Nat):Int) = 0 from rfl, Rk.start_zero total n h0 (by omega)], by simpa [Rk.cells] using World.ownsRow_nil _ _ _ _, bel_drewN (Below.refl _ _) _⟩
  case round =>
    obtain ⟨k, hk, rfl, rfl, hown, hb⟩ := hrel
    by_cases hlt : k < n
    · have hs := Rk.start_succ total n k
      have hl1 := Rk.start_le total n k h0 (by omega) (by omega) (by omega)
      have hl2 := Rk.start_le total n (k + 1) h0 (by omega) (by omega) (by omega)
      have hq0 : 0 ≤ total / (n : Int) := Int.ediv_nonneg h0 (by omega)
      have ht := Rk.parts_take_succ total n k hlt
      have HT := Lib.hid ht
      clear ht
      generalize Rk.start total n k = x at *
      generalize hy : Rk.start total n (k + 1) = y at *
      generalize total / (n : Int) = q at *
      generalize total % (n : Int) = r at *
      have HY := Lib.hid hy
      clear hy
      by_cases hkr : (k : Int) < r
      · rw [if_pos hkr] at hs
        have hs1 : x + q + 1 ≤ y := by omega
        have hs2 : y ≤ x + q + 1 := by omega
        have HS := Lib.hid hs
        clear hs
        go_wp2_with (at_builtin; go_loud (refine wpList_push elemPart _ _ rfl rfl hown hb (Nat.le_refl _) rfl rfl rfl (by simp [Value.oneCell']) (by unfold lim; omega) (by unfold lim; omega) ?_); intro v' w1 hown1 hb1)
        go_roundw
        case rel => exact ⟨k + 1, by omega, by go_num, by rw [show ((k + 1 : Nat) : Int) = (k : Int) + 1 from by omega, HY.out, HS.out], by rw [HT.out, Rk.cells_snoc, HS.out]; exact hown1, hb1⟩
        case measure => simp [intOf]; omega
      · rw [if_neg hkr] at hs
        have hs1 : x + q ≤ y := by omega
        have hs2 : y ≤ x + q := by omega
        have HS := Lib.hid hs
        clear hs
        go_wp2_with (at_builtin; go_loud (refine wpList_push elemPart _ _ rfl rfl hown hb (Nat.le_refl _) rfl rfl rfl (by simp [Value.oneCell']) (by unfold lim; omega) (by unfold lim; omega) ?_); intro v' w1 hown1 hb1)
        go_roundw
        case rel => exact ⟨k + 1, by omega, by go_num, by rw [show ((k + 1 : Nat) : Int) = (k : Int) + 1 from by omega, HY.out, HS.out]; simp, by rw [HT.out, Rk.cells_snoc, HS.out]; simpa using hown1, hb1⟩
        case measure => simp [intOf]; omega
    · obtain rfl : k = n := by omega
      obtain ⟨A, c, rfl, hsl⟩ := Sl.own hown
      rw [List.take_of_length_le (by rw [Rk.parts_length]; omega)] at hsl
      go_wp2
      go_ret2
      exact ⟨A, c, rfl, hsl, hb⟩

/-- rank.Split, whatever it is given. -/
theorem Split_any (total n : Int) (w : World) (h1 : total ≤ 9223372036854775807) :
    Calls Tryd.prog 33 #[.int .i64 total, .int .i64 n] w fun e w' =>
      ∃ A k c v, e = .returned (.tuple #[.slice A k c, v]) ∧ Below w.heap.size w w' ∧
        Hid ((total < 0 ∨ n < 1 ∨ 64 < n) → k = 0 ∧ ∃ g, v = .iface 128 (.pointer (some ⟨g, 0, none⟩)) ∧ Blk w' g 131 #[.int .i64 1, .int .i64 0, .string ⟨#[115, 112, 108, 105, 116]⟩]) ∧
        Hid (¬ (total < 0 ∨ n < 1 ∨ 64 < n) → (k : Int) = n ∧ v = .nilIface ∧ Sl w' 2 A k (Rk.cells (Rk.parts total k))) := by
  by_cases h : total < 0 ∨ n < 1 ∨ 64 < n
  · refine (Split_bad total n w h).mono ?_
    rintro e w' ⟨v, he, hv, hb⟩
    exact ⟨none, 0, 0, v, he, hb, fun _ => ⟨rfl, hv⟩, fun h' => absurd h h'⟩
  · obtain ⟨k, rfl⟩ := Int.eq_ofNat_of_zero_le (show 0 ≤ n by omega)
    refine (Split_good total k w (by omega) h1 (by omega) (by omega)).mono ?_
    rintro e w' ⟨A, c, he, hs, hb⟩
    exact ⟨A, k, c, .nilIface, he, hb, fun h' => absurd h' h, fun _ => ⟨rfl, rfl, hs⟩⟩
end Go.Proofs.YtmonepclhbappaaDoor
/-
  The walk of RankSplit (and of its package's alive).
-/
namespace Go.Proofs.YtmonepclhbappaaDoor
open Go.RowKit

set_option maxHeartbeats 1000000 in
theorem alive14 (w : World) (hg : ErrT w) : Calls Tryd.prog 29 #[] w fun e w' => e = .returned (.bool true) ∧ Below w.heap.size w w' := by
  go_enter Tryd.func29, Tryd.ntmps29
  go_wp2_with fail
  refine (Split_good 7 3 w (by omega) (by omega) (by omega) (by omega)).mono ?_
  rintro e w1 ⟨A, c, rfl, hsl, hb1⟩
  obtain ⟨b, off, rfl, hc⟩ := hsl.2 (by omega)
  have c0 := hc 0 (.int .i64 0) rfl
  have c1 := hc 1 (.int .i64 3) rfl
  have c2 := hc 2 (.int .i64 3) rfl
  have c3 := hc 3 (.int .i64 5) rfl
  clear hc hsl
  go_wp2_with fail
  refine (Split_bad 1 65 w1 (by omega)).mono ?_
  rintro e w2 ⟨v, rfl, ⟨g, rfl, hbk⟩, hb2⟩
  have d0 := (hb2.cell (World.block_lt_of_cell? w1 _ c0)).trans c0
  rw [Nat.add_zero] at d0
  have d1 := (hb2.cell (World.block_lt_of_cell? w1 _ c1)).trans c1
  have d2 := (hb2.cell (World.block_lt_of_cell? w1 _ c2)).trans c2
  have d3 := (hb2.cell (World.block_lt_of_cell? w1 _ c3)).trans c3
  have hC := Code_flt g 1 0 _ w2 ((hg.keep hb1).keep (hb2.mono (Nat.le_refl _))) hbk
  have HC := Lib.hid hC
  clear hC c0 c1 c2 c3 hbk
  go_wp2_with (go_at_call 35; refine HC.out.mono ?_; rintro e w3 ⟨rfl, hb3⟩)
  go_ret
  exact ⟨rfl, (hb1.andThen hb2).andThen hb3⟩

theorem eq_part_ne (a b c d : Int) (h : (a, b) = (c, d)) : a = c ∧ b = d := by simpa using h

end Go.Proofs.YtmonepclhbappaaDoor
/-
  slices.Index at ints, where the number is there.
-/
namespace Go.Proofs.YtmonepclhbappaaDoor
open Go.RowKit
set_option maxRecDepth 100000
set_option linter.unusedVariables false

set_option maxHeartbeats 2000000 in
theorem IndexI_at (l : List Int) (x : Int) (A : Option Addr) (n c i : Nat) (w : World) (hl : l.length = n) (hn : n ≤ 1000000) (hs : Sl w 1 A n (l.map (Value.int .i64))) (hi : l[i]? = some x) (hnd : l.Nodup) :
    Calls Tryd.prog 75 #[.slice A n c, .int .i64 x] w fun e w' => e = .returned (.int .i64 (i : Int)) ∧ w = w' := by
  have HS := Lib.hid hs
  have HI := Lib.hid hi
  have HN := Lib.hid hnd
  have HL := Lib.hid hl
  have hil : i < n := by rw [← hl]; exact (List.getElem?_eq_some_iff.1 hi).1
  clear hs hi hnd hl
  go_enter Tryd.func75, Tryd.ntmps75
  go_wp2_with fail
  go_loop [8] (fun iv => ∃ k : Nat, k ≤ i ∧ iv = .int .i64 (k : Int)) (fun iv => i + 1 - (intOf iv).toNat)
  case atStart => exact ⟨0, Nat.zero_le _, rfl⟩
  case round =>
    obtain ⟨k, hk, rfl⟩ := hrel
    have hkn : (k : Int) < (n : Int) := by omega
    have hkz : k < l.length := by rw [HL.out]; omega
    obtain ⟨y, hy⟩ : ∃ y, l[k] = y := ⟨_, rfl⟩
    obtain ⟨b, off, rfl, hc⟩ := HS.out.i64 HL.out (show k < n by omega)
    rw [hy] at hc
    by_cases hki : k = i
    · subst hki
      obtain rfl : y = x := by
        have := HI.out
        rw [List.getElem?_eq_getElem hkz, hy] at this
        exact Option.some.inj this
      have he : (y == y) = true := by simp
      clear hy
      go_wp2_with fail
      go_ret
      exact ⟨rfl, rfl⟩
    · have hne : y ≠ x := fun e => hki ((List.getElem?_inj hkz HN.out).1 (by rw [HI.out, ← e, List.getElem?_eq_getElem hkz, hy]))
      have he : (x == y) = false := by simp; exact fun e => hne e.symm
      clear hne hy
      go_wp2_with fail
      go_round
      case rel => exact ⟨k + 1, by omega, by go_num⟩
      case measure => simp [intOf]; omega
end Go.Proofs.YtmonepclhbappaaDoor
/-
  Ranks: the contract of (*Ranks).Rank.
-/
namespace Go.Proofs.YtmonepclhbappaaDoor
open Go.RowKit Go.Maps
set_option maxRecDepth 100000
set_option linter.unusedVariables false

theorem sumZ_step {l : List Int} {f : Int → Int} {t : Nat} {b : Int} (h : l[t]? = some b) : sumZ ((l.take (t + 1)).map f) = sumZ ((l.take t).map f) + f b := by
  obtain ⟨h1, h2⟩ := List.getElem?_eq_some_iff.1 h
  rw [List.take_succ_eq_append_getElem h1, h2, List.map_append, sumZ_append]
  simp [sumZ]
theorem sumZ_part {l : List Int} {f : Int → Int} (hf : ∀ x, 0 ≤ f x) {t j : Nat} (h : t ≤ j) : sumZ ((l.take t).map f) ≤ sumZ ((l.take j).map f) := by
  have e : l.take j = l.take t ++ (l.take j).drop t := by
    conv => lhs; rw [← List.take_append_drop t (l.take j)]
    rw [List.take_take, Nat.min_eq_left h]
  rw [e, List.map_append, sumZ_append]
  have := sumZ_nn (l := ((l.take j).drop t).map f) fun x hx => by
    obtain ⟨y, _, rfl⟩ := List.mem_map.1 hx
    exact hf y
  omega

set_option maxHeartbeats 16000000 in
theorem RankRank_any (q p N : Nat) (od : List Rw) (P : List Int) (A : Option Addr) (n c : Nat) (w : World) (h : RkM w q p od) (hO : OdOK od N) (hl : P.length = n) (hn : n ≤ 1000000) (hc : n ≤ c ∧ c ≤ 9223372036854775807) (hs : Sl w 1 A n (P.map (Value.int .i64))) (hx : ∀ x ∈ P, i64ok x) :
    Calls Tryd.prog 39 #[.pointer (some ⟨q, 0, none⟩), .slice A n c] w fun e w' => ∃ z ev, e = .returned (.tuple #[.int .i64 z, ev]) ∧ Below w.heap.size w w' ∧ ((P ∈ allP od ∧ ev = .nilIface ∧ ∀ k0 : Nat, (allP od)[k0]? = some P → z = (k0 : Int)) ∨ (P ∉ allP od ∧ z = 0 ∧ (Err.flt 5 0 ⟨#[112, 97, 116, 104]⟩).At w' ev)) := by
  obtain ⟨mb, m, f, hq, hm, hod, hf⟩ := h
  have c0 := hq.cell 0
  have c1 := hq.cell 1
  simp at c0 c1
  have HQ := Lib.hid hq
  have HM := Lib.hid hm
  have HK := Lib.hid (show RkM w q p od from ⟨mb, m, f, hq, hm, hod, hf⟩)
  have HOd := Lib.hid hod
  have HFn := Lib.hid hf
  have HO := Lib.hid hO
  have HL := Lib.hid hl
  have HC := Lib.hid hc
  have HS := Lib.hid hs
  have HX := Lib.hid hx
  have HEnd := Lib.hid (prefs_end (od := od) (by rw [hO.len]; exact hO.h1))
  have HLn := Lib.hid (OdLen_any p od w hod)
  rw [hO.len] at HLn HEnd
  clear hq hm hod hf hO hc hs hx
  by_cases hnN : n = N
  · subst hnN
    go_enter Tryd.func39, Tryd.ntmps39
    go_wp2_with (go_at_call 52; refine HLn.out.mono ?_; rintro e w1 ⟨rfl, rfl⟩)
    go_loopw [6, 26] (fun zv iv wr => ∃ (i : Nat) (z : Int), i ≤ n ∧ iv = .int .i64 (i : Int) ∧ zv = .int .i64 z ∧ Hid (Below w.heap.size w wr) ∧ Hid (P.take i ∈ prefs od i) ∧ Hid (∀ k0 : Nat, (allP od)[k0]? = some P → 0 ≤ z ∧ RkAt od k0 P i z)) (fun _ iv _ => n - (intOf iv).toNat)
    case atStart => exact ⟨0, 0, Nat.zero_le _, rfl, rfl, Lib.hid (Below.refl _ _), Lib.hid (by rw [List.take_zero]; exact List.mem_singleton_self _), Lib.hid fun k0 h => ⟨Int.le_refl _, RkAt.begin (by rw [HO.out.len]; exact HO.out.h1) h⟩⟩
    case round =>
      obtain ⟨i, z, hi, rfl, rfl, HB, HPr, HR⟩ := hrel
      by_cases hlt : i < n
      · have hlt' : (i : Int) < (n : Int) := by omega
        have hil : i < P.length := by omega
        obtain ⟨a, ha⟩ : ∃ a, P[i]? = some a := ⟨_, List.getElem?_eq_getElem hil⟩
        have HA := Lib.hid ha
        have HAx := Lib.hid (HX.out a (List.mem_of_getElem? ha))
        obtain ⟨b, off, rfl, hcc⟩ := (HS.out.keep HB.out).i64 HL.out hlt
        rw [(List.getElem?_eq_some_iff.1 ha).2] at hcc
        have hti : (P.take i).length = i := by rw [List.length_take]; omega
        have HTi := Lib.hid hti
        have hic : (i : Int) ≤ (c : Int) := by have := HC.out; omega
        have hi0 : (0 : Int) ≤ (i : Int) := by omega
        have HNx := Lib.hid (Next_any q p od (P.take i) (some ⟨b, off, none⟩) i c wr (HK.out.keep HB.out) HO.out.B (by rw [HO.out.len]; have := HO.out.h8; omega) hti (by omega) (by rw [List.map_take]; exact (HS.out.keep HB.out).take (by omega)) (fun x hx => HX.out x (List.mem_of_mem_take hx)))
        obtain ⟨nx, hnx⟩ : ∃ nx, nx = nextL od (P.take i) := ⟨_, rfl⟩
        have HInc := Lib.hid (HO.out.S.next (l := P.take i) (by rw [hti, HO.out.len]; exact hlt))
        have HKy := Lib.hid (show ∀ x ∈ nx, i64ok x ∧ f (i : Int) x = cnt od i x from fun x hx => by
          rw [hnx] at hx
          have := next_keys HO.out.C (by rw [hti, HO.out.len]; exact hlt) x hx
          rw [hti] at this
          exact ⟨HO.out.Nu.key (by rw [HO.out.len]; exact hlt) this, HFn.out i x (by rw [HO.out.len]; exact hlt) this⟩)
        rw [← hnx] at HNx HInc
        have HNl := Lib.hid (show nx.length ≤ 1000000 from by rw [hnx]; exact Nat.le_trans (nextL_B HO.out.B _) (by omega))
        have HNe := Lib.hid hnx
        have HMw0 := Lib.hid (HM.out.keep HB.out)
        have HQw0 := Lib.hid (HQ.out.keep HB.out)
        clear hnx ha c0 c1 hti hil HLn
        go_upto_region 10 with (go_at_call 73; refine HNx.out.mono ?_; clear HNx; rintro e w1 ⟨v, rfl, hown, hb⟩; obtain ⟨A2, c2, rfl, hs2⟩ := Sl.own hown; have HCap := Lib.hid (own_cap hown); have HS2 := Lib.hid hs2; have HB1 := Lib.hid hb; clear hown hb hs2)
        have HHas := Lib.hid (HasS_any nx a A2 nx.length c2 w1 rfl HNl.out HInc.out HS2.out)
        by_cases hmem : a ∈ nx
        · obtain ⟨j, hj⟩ := List.getElem?_of_mem hmem
          have HIx := Lib.hid (fun W (hb : Below w1.heap.size w1 W) => IndexI_at nx a A2 nx.length c2 j W rfl HNl.out (HS2.out.keep hb) hj (inc_nodup HInc.out))
          rw [decide_eq_true hmem] at HHas
          have HNn := Lib.hid (inc_nodup HInc.out)
          have hjl : j < nx.length := (List.getElem?_eq_some_iff.1 hj).1
          have HStep := Lib.hid (show ∀ k0 : Nat, (allP od)[k0]? = some P → (k0 : Int) ≤ 4611686018427387904 ∧ (∀ t, t ≤ j → 0 ≤ z + sumZ ((nx.take t).map (cnt od i)) ∧ z + sumZ ((nx.take t).map (cnt od i)) ≤ (k0 : Int)) ∧ RkAt od k0 P (i + 1) (z + sumZ ((nx.take j).map (cnt od i))) from fun k0 hk0 => by
            obtain ⟨hz0, hr⟩ := HR.out k0 hk0
            rcases hr with ⟨hi1, k, hL, hzk⟩ | ⟨hi1, _⟩
            · obtain ⟨j', g1, g2, g3⟩ := hL.step hi1 HA.out (by rw [← HNe.out]; exact HNn.out)
              rw [← HNe.out] at g1 g2 g3
              obtain rfl : j' = j := (List.getElem?_inj (List.getElem?_eq_some_iff.1 g1).1 HNn.out).1 (g1.trans hj.symm)
              refine ⟨?_, fun t ht => ?_, g3 z hzk⟩
              · have h9 := (List.getElem?_eq_some_iff.1 hk0).1
                have h8 := HO.out.F.2
                unfold totP at h8
                omega
              · have h7 := sumZ_part (l := nx) (f := cnt od i) (cnt_nn od i) ht
                have h6 := sumZ_nn (l := (nx.take t).map (cnt od i)) fun x hx => by
                  obtain ⟨y, _, rfl⟩ := List.mem_map.1 hx
                  exact cnt_nn _ _ _
                omega
            · rw [HO.out.len] at hi1
              omega)
          have hAA := HS2.out.i64 rfl hjl
          obtain ⟨b2, o2, rfl, _⟩ := hAA
          have g1 : (j : Int) ≤ (c2 : Int) := by have := HCap.out; omega
          have g2 : (0 : Int) ≤ (j : Int) := by omega
          have HJ := Lib.hid hj
          have HMem := Lib.hid hmem
          clear hj HR hmem
          go_wp2_with (first
            | (go_at_call 74; refine HHas.out.mono ?_; clear HHas; rintro e w2 ⟨rfl, hb2⟩; have HB2 := Lib.hid hb2; clear hb2)
            | (go_at_call 75; refine (HIx.out _ HB2.out).mono ?_; clear HIx; rintro e w3 ⟨rfl, rfl⟩))
          have HBw := Lib.hid ((HB.out.andThen HB1.out).andThen HB2.out)
          have HMw := Lib.hid (HM.out.keep HBw.out)
          have e1 := (HQ.out.keep HBw.out).cell 1
          simp at e1
          have HS3 := Lib.hid (HS2.out.keep HB2.out)
          clear HQw0 HMw0 hcc
          go_loop [6, 47] (fun zv tv => ∃ (t : Nat) (z' : Int), t ≤ j ∧ tv = .int .i64 (t : Int) ∧ zv = .int .i64 z' ∧ Hid (∀ k0 : Nat, (allP od)[k0]? = some P → z' = z + sumZ ((nx.take t).map (cnt od i)))) (fun _ tv => j - (intOf tv).toNat)
          case atStart => exact ⟨0, z, Nat.zero_le _, rfl, rfl, Lib.hid fun k0 _ => by simp [sumZ]⟩
          case round =>
            obtain ⟨t, z', ht, rfl, rfl, HZ⟩ := hrel
            by_cases htj : t < j
            · have htj' : (t : Int) < (j : Int) := by omega
              have htl : t < nx.length := by omega
              have hjw : IntKind.i64.wrap ((t : Int) + 1) = (t : Int) + 1 := by rw [IntKind.wrap_i64]; have := HNl.out; omega
              obtain ⟨y, hy⟩ : ∃ y, nx[t]? = some y := ⟨_, List.getElem?_eq_getElem htl⟩
              obtain ⟨b3, o3, e3, hcy⟩ := HS3.out.i64 rfl htl
              cases e3
              rw [(List.getElem?_eq_some_iff.1 hy).2] at hcy
              have HYx := Lib.hid (HKy.out y (List.mem_of_getElem? hy))
              have HY := Lib.hid hy
              obtain ⟨cv, hcv⟩ : ∃ cv, cv = cnt od i y := ⟨_, rfl⟩
              have HCv := Lib.hid hcv
              have HFy := Lib.hid (show f (i : Int) y = cv from HYx.out.2.trans hcv.symm)
              obtain ⟨zz, hzz⟩ : ∃ zz, IntKind.i64.wrap (z' + cv) = zz := ⟨_, rfl⟩
              have HZz := Lib.hid hzz
              clear hy hcv
              go_wp2_with (refine wpList_lookS _ rfl _ _ rfl mb m f (by go_simp) HMw.out (i : Int) y (by go_simp) ⟨by omega, by omega⟩ HYx.out.1 ?_; rw [HFy.out])
              go_round
              case rel =>
                refine ⟨t + 1, zz, by omega, by go_num, rfl, Lib.hid fun k0 hk0 => ?_⟩
                have h1 := HZ.out k0 hk0
                obtain ⟨h2, h3, _⟩ := HStep.out k0 hk0
                have h4 := h3 (t + 1) (by omega)
                rw [sumZ_step HY.out, ← HCv.out] at h4 ⊢
                rw [← HZz.out, IntKind.wrap_i64]
                omega
              case measure => simp [intOf]; omega
            · obtain rfl : t = j := by omega
              have htj' : ¬ (t : Int) < (t : Int) := by omega
              go_wp2_with fail
              go_roundw
              case rel =>
                refine ⟨i + 1, z', by omega, by go_num, rfl, HBw, Lib.hid ((prefs_next HA.out).2 ⟨HPr.out, by rw [← HNe.out]; exact HMem.out⟩), Lib.hid fun k0 hk0 => ?_⟩
                obtain ⟨_, h3, h4⟩ := HStep.out k0 hk0
                rw [HZ.out k0 hk0]
                exact ⟨(h3 t (Nat.le_refl _)).1, h4⟩
              case measure => simp [intOf]; omega
        · rw [decide_eq_false hmem] at HHas
          go_wp2_with (first
            | (go_at_call 74; refine HHas.out.mono ?_; clear HHas; rintro e w2 ⟨rfl, hb2⟩; have HB2 := Lib.hid hb2; clear hb2)
            | (go_at_call 44; refine (New_err _ _ _ _).mono ?_; rintro e w' ⟨v, rfl, hv, hb⟩; have HV := Lib.hid hv; have HB3 := Lib.hid hb; clear hv hb))
          go_ret2
          refine ⟨_, _, rfl, ((HB.out.andThen HB1.out).andThen HB2.out).andThen HB3.out, .inr ⟨fun hP => ?_, rfl, HV.out⟩⟩
          rw [← HEnd.out] at hP
          have := prefs_take _ P hP (i + 1) (by omega)
          rw [prefs_next HA.out, ← HNe.out] at this
          exact hmem this.2
      · obtain rfl : i = n := by omega
        have hlt' : ¬ (i : Int) < (i : Int) := by omega
        go_wp2_with fail
        go_ret2
        refine ⟨_, _, rfl, HB.out, .inl ⟨?_, rfl, fun k0 hk0 => ?_⟩⟩
        · have := HPr.out
          rw [List.take_of_length_le (by omega), HEnd.out] at this
          exact this
        · rcases (HR.out k0 hk0).2 with ⟨h, _⟩ | ⟨_, h⟩
          · rw [HO.out.len] at h
            omega
          · exact h
  · have hne : ((n : Int) != (N : Int)) = true := by simp; omega
    go_enter Tryd.func39, Tryd.ntmps39
    go_wp2_with (first
      | (go_at_call 52; refine HLn.out.mono ?_; rintro e w1 ⟨rfl, rfl⟩)
      | (go_at_call 44; refine (New_err _ _ _ _).mono ?_; rintro e w' ⟨v, rfl, hv, hb⟩; have HV := Lib.hid hv; have HB := Lib.hid hb; clear hv hb))
    go_ret2
    refine ⟨_, _, rfl, HB.out, .inr ⟨fun hP => hnN ?_, rfl, HV.out⟩⟩
    rw [← HL.out]
    exact HO.out.P P hP
end Go.Proofs.YtmonepclhbappaaDoor
