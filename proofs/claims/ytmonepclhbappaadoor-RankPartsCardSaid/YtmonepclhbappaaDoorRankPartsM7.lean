/-
  Part 7 of the proof of RankParts: Made, RankP, RankS, RankA, RankM, OdK, OdL, Chain, Chain2.
-/
import Derived.BigQuiet
import Derived.Test.YtmonepclhbappaaDoorRankPartsM6
import Derived.Test.YtmonepclhbappaaDoorRankPartsM1
import Derived.Deep.QuietTactic
import Derived.Deep.DeepCutAuto
import Derived.DeepKeys4
import Derived.Test.YtmonepclhbappaaDoorRankPartsM2
import Derived.Test.YtmonepclhbappaaDoorRankPartsM3
import Derived.Shelf.SlIterI.Sorted
import Derived.Deep.LoopGhost
/-
  The laws' Made: the odag of lists that can be one.
-/
namespace Go.Proofs.YtmonepclhbappaaDoor
open Go.RowKit Go.Maps
set_option maxRecDepth 100000
set_option linter.unusedVariables false

set_option maxHeartbeats 4000000 in
theorem Made_any (a : Int) (its : List (Option Addr × Nat × List Int)) (Q : Option Addr) (m cq : Nat) (w : World) (hm : its.length = m) (hq : Sl w 1 Q m (its.map rv)) (hr : AllRows w its) :
    Calls Tryd.prog 26 #[.int .i64 a, .slice Q m cq] w fun e w' => (e = .returned (.tuple #[.pointer none, .bool false]) ∧ Below w.heap.size w w') ∨ ∃ (n p : Nat), a = n ∧ 1 ≤ n ∧ n ≤ 5 ∧ m ≤ 12 ∧ Good n its ∧ e = .returned (.tuple #[.pointer (some ⟨p, 0, none⟩), .bool true]) ∧ OdM w' p (odOf n (its.map (·.2.2))) ∧ Below w.heap.size w w' := by
  have HQ := Lib.hid hq
  have HR := Lib.hid hr
  have HM := Lib.hid hm
  clear hq hr hm
  by_cases h1 : a < 1
  · go_enter Tryd.func26, Tryd.ntmps26
    go_wp2_with fail
    go_ret2
    exact Or.inl ⟨rfl, Below.refl _ _⟩
  · by_cases h5 : 5 < a
    · go_enter Tryd.func26, Tryd.ntmps26
      go_wp2_with fail
      go_ret2
      exact Or.inl ⟨rfl, Below.refl _ _⟩
    · by_cases h12 : 12 < m
      · have h12' : (12 : Int) < (m : Int) := by omega
        go_enter Tryd.func26, Tryd.ntmps26
        go_wp2_with fail
        go_ret2
        exact Or.inl ⟨rfl, Below.refl _ _⟩
      · have h12' : ¬ (12 : Int) < (m : Int) := by omega
        obtain ⟨n, rfl⟩ : ∃ n : Nat, a = (n : Int) := ⟨a.toNat, by omega⟩
        go_enter Tryd.func26, Tryd.ntmps26
        go_wp2_with fail
        go_loop [6] (fun iv => ∃ k : Nat, k ≤ m ∧ iv = .int .i64 k ∧ Hid (Good n (its.take k))) (fun iv => m - (intOf iv).toNat)
        case atStart => exact ⟨0, Nat.zero_le _, rfl, Lib.hid fun t ht => by cases ht⟩
        case round =>
          obtain ⟨k, hk, rfl, HG⟩ := hrel
          by_cases hlt : k < m
          · have hlt' : (k : Int) < (m : Int) := by omega
            obtain ⟨t, ht⟩ : ∃ t, its[k]? = some t := ⟨_, List.getElem?_eq_getElem (by rw [HM.out]; exact hlt)⟩
            obtain ⟨A, c, x⟩ := t
            have HT := Lib.hid ht
            have HRow := Lib.hid (HR.out _ (List.mem_of_getElem? ht))
            obtain ⟨qb, qo, rfl, _⟩ := HQ.out.at_ (show 0 < m by omega)
            have c1 := HQ.out.again hlt (show (its.map rv)[k]? = some (.slice A x.length c) by rw [List.getElem?_map, ht]; rfl)
            clear ht
            by_cases hx : x.length = n
            · have HX := Lib.hid hx
              have hs1 := HRow.out.1
              simp only at hs1
              rw [hx] at c1 hs1
              have HS1 := Lib.hid hs1
              clear hx hs1
              go_wp2_with fail
              go_loop [7] (fun jv => ∃ j : Nat, j ≤ n ∧ jv = .int .i64 j ∧ Hid (∀ y ∈ x.take j, numOK y)) (fun jv => n - (intOf jv).toNat)
              case atStart => exact ⟨0, Nat.zero_le _, rfl, Lib.hid fun y hy => by cases hy⟩
              case round =>
                obtain ⟨j, hj, rfl, HN⟩ := hrel
                by_cases hjn : j < n
                · have hjn' : (j : Int) < (n : Int) := by omega
                  obtain ⟨y, hy⟩ : ∃ y, x[j]? = some y := ⟨_, List.getElem?_eq_getElem (by rw [HX.out]; exact hjn)⟩
                  obtain ⟨b1, off1, rfl, _⟩ := HS1.out.at_ (show 0 < n by omega)
                  have c2 := HS1.out.again hjn (show (x.map (Value.int .i64))[j]? = some (.int .i64 y) by rw [List.getElem?_map, hy]; rfl)
                  have HY := Lib.hid hy
                  clear hy
                  by_cases hy0 : y < 0
                  · go_wp2_with fail
                    go_ret2
                    exact Or.inl ⟨rfl, Below.refl _ _⟩
                  · by_cases hy1 : 2147483647 < y
                    · go_wp2_with fail
                      go_ret2
                      exact Or.inl ⟨rfl, Below.refl _ _⟩
                    · have HNy := Lib.hid (show numOK y from ⟨by omega, by omega⟩)
                      go_wp2_with fail
                      go_round
                      case rel =>
                        refine ⟨j + 1, by omega, by go_num, Lib.hid fun z hz => ?_⟩
                        obtain ⟨e1, e2⟩ := List.getElem?_eq_some_iff.1 HY.out
                        rw [List.take_succ_eq_append_getElem e1, e2] at hz
                        rcases List.mem_append.1 hz with hz | hz
                        · exact HN.out z hz
                        · rw [List.mem_singleton.1 hz]
                          exact HNy.out
                      case measure => simp [intOf]; omega
                · obtain rfl : j = n := by omega
                  have hlt2 : ¬ (j : Int) < (j : Int) := by omega
                  go_wp2_with fail
                  go_round
                  case rel =>
                    refine ⟨k + 1, by omega, by go_num, Lib.hid fun z hz => ?_⟩
                    obtain ⟨e1, e2⟩ := List.getElem?_eq_some_iff.1 HT.out
                    rw [List.take_succ_eq_append_getElem e1, e2] at hz
                    rcases List.mem_append.1 hz with hz | hz
                    · exact HG.out z hz
                    · rw [List.mem_singleton.1 hz]
                      refine ⟨HX.out, fun y hy => HN.out y ?_⟩
                      rw [List.take_of_length_le (by rw [HX.out]; exact Nat.le_refl _)]
                      exact hy
                  case measure => simp [intOf]; omega
            · have hx' : ((x.length : Int) != (n : Int)) = true := by simp; omega
              clear hx
              go_wp2_with fail
              go_ret2
              exact Or.inl ⟨rfl, Below.refl _ _⟩
          · obtain rfl : k = m := by omega
            have hlt2 : ¬ (k : Int) < (k : Int) := by omega
            have HGd := Lib.hid (show Good n its from by have := HG.out; rw [List.take_of_length_le (by rw [HM.out]; exact Nat.le_refl _)] at this; exact this)
            have HOf := Lib.hid (OfOd_any n its Q k cq w (by omega) (by omega) HM.out (by omega) HQ.out HR.out HGd.out)
            go_wp2_with (go_at_call 21; refine HOf.out.mono ?_; rintro e w1 ⟨p, rfl, ho, hb⟩; have HO1 := Lib.hid ho; have HB1 := Lib.hid hb; clear ho hb)
            go_quiet (fail)
            go_wp2_with fail
            go_ret2
            have hd := bel_drewN (Below.refl w1.heap.size w1) 1
            exact Or.inr ⟨n, p, rfl, by omega, by omega, by omega, HGd.out, rfl, HO1.out.keep (bel_drewN (Below.refl _ _) _), HB1.out.andThen (bel_drewN (Below.refl _ _) _)⟩
end Go.Proofs.YtmonepclhbappaaDoor
/-
  The plain law of chapter 14's parts: no program in sight.
-/
namespace Go.Proofs.YtmonepclhbappaaDoor
namespace Rk

/-- The parts' cells. -/
def cells (l : List (Int × Int)) : List Value := l.flatMap fun p => [.int .i64 p.1, .int .i64 p.2]
theorem cells_nil : cells [] = [] := rfl
theorem cells_snoc (l : List (Int × Int)) (a b : Int) : cells (l ++ [(a, b)]) = cells l ++ [.int .i64 a, .int .i64 b] := by simp [cells]
theorem cells_length (l : List (Int × Int)) : (cells l).length = l.length * 2 := by
  induction l with
  | nil => rfl
  | cons p l ih => simp only [cells, List.flatMap_cons, List.length_append, List.length_cons, List.length_nil] at ih ⊢; omega
theorem cells_at : ∀ (l : List (Int × Int)) (k : Nat) (h : k < l.length), (cells l)[k * 2 + 0]? = some (.int .i64 l[k].1) ∧ (cells l)[k * 2 + 1]? = some (.int .i64 l[k].2)
  | p :: l, 0, _ => by simp [cells]
  | p :: l, k + 1, h => by
    have ih := cells_at l k (by simpa using h)
    have e0 : (k + 1) * 2 + 0 = (k * 2 + 0) + 2 := by omega
    have e1 : (k + 1) * 2 + 1 = (k * 2 + 1) + 2 := by omega
    rw [e0, e1]
    simp only [cells, List.flatMap_cons, List.cons_append, List.nil_append, List.getElem?_cons_succ, List.getElem_cons_succ] at ih ⊢
    exact ih

/-- Whole: where the parts end, if they go one behind the other. -/
def whole : Int → List (Int × Int) → Option Int
  | at_, [] => some at_
  | at_, p :: l => if p.1 = at_ ∧ p.1 ≤ p.2 then whole p.2 l else none
def wholeV : Option Int → Value
  | some n => .tuple #[.int .i64 n, .bool true]
  | none => .tuple #[.int .i64 0, .bool false]

/-- Where part i of a split begins. -/
def start (total n i : Int) : Int := i * (total / n) + min i (total % n)
def parts (total : Int) (n : Nat) : List (Int × Int) := (List.range n).map fun (i : Nat) => (start total n (i : Int), start total n ((i : Int) + 1))
theorem start_zero (total n : Int) (h0 : 0 ≤ total) (hn : 0 < n) : start total n 0 = 0 := by
  have := Int.emod_nonneg total (Int.ne_of_gt hn)
  unfold start; omega
theorem start_end (total n : Int) (hn : 0 < n) : start total n n = total := by
  have h1 := Int.emod_lt_of_pos total hn
  have h2 := Int.mul_ediv_add_emod total n
  unfold start
  rw [Int.min_eq_right (by omega)]
  exact h2
theorem start_succ (total n i : Int) : start total n (i + 1) = start total n i + total / n + (if i < total % n then 1 else 0) := by
  unfold start
  have : (i + 1) * (total / n) = i * (total / n) + total / n := by rw [Int.add_mul]; omega
  split <;> omega
theorem start_le (total n i : Int) (h0 : 0 ≤ total) (hn : 0 < n) (hi : 0 ≤ i) (hin : i ≤ n) : 0 ≤ start total n i ∧ start total n i ≤ total := by
  have h1 := Int.emod_lt_of_pos total hn
  have h2 := Int.mul_ediv_add_emod total n
  have h3 := Int.emod_nonneg total (Int.ne_of_gt hn)
  have h4 : 0 ≤ total / n := Int.ediv_nonneg h0 (by omega)
  have h5 : i * (total / n) ≤ n * (total / n) := Int.mul_le_mul_of_nonneg_right hin h4
  have h6 : 0 ≤ i * (total / n) := Int.mul_nonneg hi h4
  unfold start
  constructor
  · omega
  · by_cases h : i ≤ total % n
    · have h7 : (n - i) * (total / n) ≥ 0 := Int.mul_nonneg (by omega) h4
      rw [Int.sub_mul] at h7
      omega
    · rw [Int.min_eq_right (by omega)]; omega
/-- What is left, shared among who is left: the size of part i, as the document has it. -/
theorem left_div (total n i : Int) (h0 : 0 ≤ total) (hn : 0 < n) (hi : 0 ≤ i) (hin : i < n) :
    start total n (i + 1) = start total n i + ((total - start total n i) / (n - i) + if (total - start total n i) % (n - i) = 0 then 0 else 1) := by
  have h1 := Int.emod_lt_of_pos total hn
  have h2 := Int.mul_ediv_add_emod total n
  have h3 := Int.emod_nonneg total (Int.ne_of_gt hn)
  rw [start_succ, Int.add_assoc]
  congr 1
  generalize hq : total / n = q at *
  generalize hr : total % n = r at *
  have hs : start total n i = i * q + min i r := by unfold start; rw [hq, hr]
  rw [hs]
  have hd : 0 < n - i := by omega
  by_cases hir : i < r
  · have e : total - (i * q + min i r) = (n - i) * q + (r - i) := by
      rw [Int.min_eq_left (by omega), Int.sub_mul]; omega
    rw [e, Int.add_comm ((n - i) * q), Int.add_mul_ediv_left _ _ (Int.ne_of_gt hd), Int.add_mul_emod_self_left, Int.ediv_eq_zero_of_lt (by omega) (by omega), Int.emod_eq_of_lt (by omega) (by omega)]
    rw [if_pos hir, if_neg (by omega)]
    omega
  · have e : total - (i * q + min i r) = (n - i) * q := by
      rw [Int.min_eq_right (by omega), Int.sub_mul]; omega
    rw [e, Int.mul_ediv_cancel_left _ (Int.ne_of_gt hd), Int.mul_emod_right, if_neg hir, if_pos rfl]

theorem whole_from (total : Int) (n : Nat) (h0 : 0 ≤ total) (hn : 0 < n) : ∀ k, k ≤ n → whole (start total n (n - k : Nat)) ((parts total n).drop (n - k)) = some total
  | 0, _ => by
    have : (parts total n).drop n = [] := by simp [parts]
    simp only [Nat.sub_zero, this, whole]
    rw [start_end total n (by omega)]
  | k + 1, hk => by
    have ih := whole_from total n h0 hn k (by omega)
    have hlt : n - (k + 1) < (parts total n).length := by simp [parts]; omega
    rw [List.drop_eq_getElem_cons hlt]
    have e : (parts total n)[n - (k + 1)] = (start total n (n - (k + 1) : Nat), start total n ((n - (k + 1) : Nat) + 1)) := by simp [parts]
    have hle : start total n (n - (k + 1) : Nat) ≤ start total n ((n - (k + 1) : Nat) + 1) := by
      rw [start_succ]
      have h4 : 0 ≤ total / (n : Int) := Int.ediv_nonneg h0 (by omega)
      split <;> omega
    have en : n - (k + 1) + 1 = n - k := by omega
    have ec : ((n - (k + 1) : Nat) : Int) + 1 = ((n - k : Nat) : Int) := by omega
    simp only [whole]
    rw [e, if_pos ⟨rfl, hle⟩, en]
    simp only [ec]
    exact ih
theorem whole_parts (total : Int) (n : Nat) (h0 : 0 ≤ total) (hn : 0 < n) : whole 0 (parts total n) = some total := by
  have h := whole_from total n h0 hn n (Nat.le_refl _)
  have e : ((n - n : Nat) : Int) = 0 := by omega
  rw [e, start_zero total n h0 (by omega)] at h
  simpa using h
theorem parts_take_succ (total : Int) (n k : Nat) (hk : k < n) : (parts total n).take (k + 1) = (parts total n).take k ++ [(start total n k, start total n (k + 1))] := by
  rw [List.take_succ_eq_append_getElem (by simp [parts]; omega)]
  simp [parts]
theorem parts_length (total : Int) (n : Nat) : (parts total n).length = n := by simp [parts]
end Rk
end Go.Proofs.YtmonepclhbappaaDoor
/-
  Walks of rank.Whole, rank.Split and the document's Split.
-/
namespace Go.Proofs.YtmonepclhbappaaDoor
open Go.RowKit

theorem elemPart : Elem Tryd.prog 64 63 (.agg #[.int .i64 0, .int .i64 0]) 2 16 := ⟨Tryd.underlying64, by kernel_rfl, rfl, by decide⟩
theorem ti64 : -9223372036854775808 ≤ (0:Int) := by decide

set_option maxHeartbeats 1000000 in
theorem Split_bad (total n : Int) (w : World) (h : total < 0 ∨ n < 1 ∨ 64 < n) :
    Calls Tryd.prog 33 #[.int .i64 total, .int .i64 n] w fun e w' =>
      ∃ v, e = .returned (.tuple #[.slice none 0 0, v]) ∧ (Err.flt 1 0 ⟨#[115, 112, 108, 105, 116]⟩).At w' v ∧ Below w.heap.size w w' := by
  have key : ∀ (t : Bool), (decide (total < 0) || (decide (n < 1) || decide (64 < n))) = true := by
    intro _; simp; omega
  by_cases h1 : total < 0
  · go_enter Tryd.func33, Tryd.ntmps33
    go_wp2_with (go_at_call 44; refine (New_err _ _ _ _).mono ?_; rintro e w' ⟨v, rfl, hv, hb⟩)
    go_ret2
    exact ⟨_, rfl, hv, hb⟩
  · by_cases h2 : n < 1
    · go_enter Tryd.func33, Tryd.ntmps33
      go_wp2_with (go_at_call 44; refine (New_err _ _ _ _).mono ?_; rintro e w' ⟨v, rfl, hv, hb⟩)
      go_ret2
      exact ⟨_, rfl, hv, hb⟩
    · have h3 : 64 < n := by omega
      go_enter Tryd.func33, Tryd.ntmps33
      go_wp2_with (go_at_call 44; refine (New_err _ _ _ _).mono ?_; rintro e w' ⟨v, rfl, hv, hb⟩)
      go_ret2
      exact ⟨_, rfl, hv, hb⟩

set_option maxHeartbeats 1000000 in
theorem Split_good (total : Int) (n : Nat) (w : World) (h0 : 0 ≤ total) (h1 : total ≤ 9223372036854775807) (h2 : 1 ≤ n) (h3 : n ≤ 64) :
    Calls Tryd.prog 33 #[.int .i64 total, .int .i64 n] w fun e w' =>
      ∃ A c, e = .returned (.tuple #[.slice A n c, .nilIface]) ∧ Sl w' 2 A n (Rk.cells (Rk.parts total n)) ∧ Below w.heap.size w w' := by
  have hq : total.tdiv n = total / n := Int.tdiv_eq_ediv_of_nonneg h0
  have hr : total.tmod n = total % n := Int.tmod_eq_emod_of_nonneg h0
  have hn0 : ((n : Int) == 0) = false := by simp; omega
  have hq0 : 0 ≤ total / (n : Int) := Int.ediv_nonneg h0 (by omega)
  have hq1 : total / (n : Int) ≤ total := Int.ediv_le_self _ h0
  have hr0 := Int.emod_nonneg total (show (n : Int) ≠ 0 by omega)
  have hr1 := Int.emod_lt_of_pos total (show 0 < (n : Int) by omega)
  have hwq : IntKind.i64.wrap (total / n) = total / n := IntWalk.i64_in _ (by omega)
  have hwr : IntKind.i64.wrap (total % n) = total % n := IntWalk.i64_in _ (by omega)
  go_enter Tryd.func33, Tryd.ntmps33
  go_wp2
  go_quiet (fail)
  clear hwq hwr hq hr
  go_wp2
  go_loopw [8, 9, 11, 30] (fun l a _ i wr => ∃ (k : Nat), k ≤ n ∧ i = .int .i64 k ∧ a = .int .i64 (Rk.start total n k) ∧ wr.ownsRow w.heap.size 63 2 l k (Rk.cells ((Rk.parts total n).take k)) ∧ Below w.heap.size w wr) (fun _ _ _ i _ => n - (intOf i).toNat)
  case atStart => exact ⟨0, Nat.zero_le _, rfl, by rw [show ((0:Nat):Int) = 0 from rfl, Rk.start_zero total n h0 (by omega)], by simpa [Rk.cells] using World.ownsRow_nil _ _ _ _, bel_drewN (Below.refl _ _) _⟩
  case round =>
    obtain ⟨k, hk, rfl, rfl, hown, hb⟩ := hrel
    by_cases hlt : k < n
    · have hs := Rk.start_succ total n k
      have hl1 := Rk.start_le total n k h0 (by omega) (by omega) (by omega)
      have hl2 := Rk.start_le total n (k + 1) h0 (by omega) (by omega) (by omega)
      have hq0 : 0 ≤ total / (n : Int) := Int.ediv_nonneg h0 (by omega)
      have ht := Rk.parts_take_succ total n k hlt
      have HT := Lib.hid ht
      clear ht
      generalize Rk.start total n k = x at *
      generalize hy : Rk.start total n (k + 1) = y at *
      generalize total / (n : Int) = q at *
      generalize total % (n : Int) = r at *
      have HY := Lib.hid hy
      clear hy
      by_cases hkr : (k : Int) < r
      · rw [if_pos hkr] at hs
        have hs1 : x + q + 1 ≤ y := by omega
        have hs2 : y ≤ x + q + 1 := by omega
        have HS := Lib.hid hs
        clear hs
        go_wp2_with (at_builtin; go_loud (refine wpList_push elemPart _ _ rfl rfl hown hb (Nat.le_refl _) rfl rfl rfl (by simp [Value.oneCell']) (by unfold lim; omega) (by unfold lim; omega) ?_); intro v' w1 hown1 hb1)
        go_roundw
        case rel => exact ⟨k + 1, by omega, by go_num, by rw [show ((k + 1 : Nat) : Int) = (k : Int) + 1 from by omega, HY.out, HS.out], by rw [HT.out, Rk.cells_snoc, HS.out]; exact hown1, hb1⟩
        case measure => simp [intOf]; omega
      · rw [if_neg hkr] at hs
        have hs1 : x + q ≤ y := by omega
        have hs2 : y ≤ x + q := by omega
        have HS := Lib.hid hs
        clear hs
        go_wp2_with (at_builtin; go_loud (refine wpList_push elemPart _ _ rfl rfl hown hb (Nat.le_refl _) rfl rfl rfl (by simp [Value.oneCell']) (by unfold lim; omega) (by unfold lim; omega) ?_); intro v' w1 hown1 hb1)
        go_roundw
        case rel => exact ⟨k + 1, by omega, by go_num, by rw [show ((k + 1 : Nat) : Int) = (k : Int) + 1 from by omega, HY.out, HS.out]; simp, by rw [HT.out, Rk.cells_snoc, HS.out]; simpa using hown1, hb1⟩
        case measure => simp [intOf]; omega
    · obtain rfl : k = n := by omega
      obtain ⟨A, c, rfl, hsl⟩ := Sl.own hown
      rw [List.take_of_length_le (by rw [Rk.parts_length]; omega)] at hsl
      go_wp2
      go_ret2
      exact ⟨A, c, rfl, hsl, hb⟩

/-- rank.Split, whatever it is given. -/
theorem Split_any (total n : Int) (w : World) (h1 : total ≤ 9223372036854775807) :
    Calls Tryd.prog 33 #[.int .i64 total, .int .i64 n] w fun e w' =>
      ∃ A k c v, e = .returned (.tuple #[.slice A k c, v]) ∧ Below w.heap.size w w' ∧
        Hid ((total < 0 ∨ n < 1 ∨ 64 < n) → k = 0 ∧ ∃ g, v = .iface 128 (.pointer (some ⟨g, 0, none⟩)) ∧ Blk w' g 131 #[.int .i64 1, .int .i64 0, .string ⟨#[115, 112, 108, 105, 116]⟩]) ∧
        Hid (¬ (total < 0 ∨ n < 1 ∨ 64 < n) → (k : Int) = n ∧ v = .nilIface ∧ Sl w' 2 A k (Rk.cells (Rk.parts total k))) := by
  by_cases h : total < 0 ∨ n < 1 ∨ 64 < n
  · refine (Split_bad total n w h).mono ?_
    rintro e w' ⟨v, he, hv, hb⟩
    exact ⟨none, 0, 0, v, he, hb, fun _ => ⟨rfl, hv⟩, fun h' => absurd h h'⟩
  · obtain ⟨k, rfl⟩ := Int.eq_ofNat_of_zero_le (show 0 ≤ n by omega)
    refine (Split_good total k w (by omega) h1 (by omega) (by omega)).mono ?_
    rintro e w' ⟨A, c, he, hs, hb⟩
    exact ⟨A, k, c, .nilIface, he, hb, fun h' => absurd h' h, fun _ => ⟨rfl, rfl, hs⟩⟩
end Go.Proofs.YtmonepclhbappaaDoor
/-
  The walk of RankSplit (and of its package's alive).
-/
namespace Go.Proofs.YtmonepclhbappaaDoor
open Go.RowKit

set_option maxHeartbeats 1000000 in
theorem alive14 (w : World) (hg : ErrT w) : Calls Tryd.prog 29 #[] w fun e w' => e = .returned (.bool true) ∧ Below w.heap.size w w' := by
  go_enter Tryd.func29, Tryd.ntmps29
  go_wp2_with fail
  refine (Split_good 7 3 w (by omega) (by omega) (by omega) (by omega)).mono ?_
  rintro e w1 ⟨A, c, rfl, hsl, hb1⟩
  obtain ⟨b, off, rfl, hc⟩ := hsl.2 (by omega)
  have c0 := hc 0 (.int .i64 0) rfl
  have c1 := hc 1 (.int .i64 3) rfl
  have c2 := hc 2 (.int .i64 3) rfl
  have c3 := hc 3 (.int .i64 5) rfl
  clear hc hsl
  go_wp2_with fail
  refine (Split_bad 1 65 w1 (by omega)).mono ?_
  rintro e w2 ⟨v, rfl, ⟨g, rfl, hbk⟩, hb2⟩
  have d0 := (hb2.cell (World.block_lt_of_cell? w1 _ c0)).trans c0
  rw [Nat.add_zero] at d0
  have d1 := (hb2.cell (World.block_lt_of_cell? w1 _ c1)).trans c1
  have d2 := (hb2.cell (World.block_lt_of_cell? w1 _ c2)).trans c2
  have d3 := (hb2.cell (World.block_lt_of_cell? w1 _ c3)).trans c3
  have hC := Code_flt g 1 0 _ w2 ((hg.keep hb1).keep (hb2.mono (Nat.le_refl _))) hbk
  have HC := Lib.hid hC
  clear hC c0 c1 c2 c3 hbk
  go_wp2_with (go_at_call 35; refine HC.out.mono ?_; rintro e w3 ⟨rfl, hb3⟩)
  go_ret
  exact ⟨rfl, (hb1.andThen hb2).andThen hb3⟩

theorem eq_part_ne (a b c d : Int) (h : (a, b) = (c, d)) : a = c ∧ b = d := by simpa using h

end Go.Proofs.YtmonepclhbappaaDoor
/-
  The counts of ranks in memory: a map whose keys are structs of two ints; words for it.
-/
namespace Go.Proofs.YtmonepclhbappaaDoor
open Go.RowKit Go.Maps Go.WideMaps
set_option maxRecDepth 100000
set_option linter.unusedVariables false

theorem spot_wide : (match Tryd.prog.underlying 125 with | some (.array _ _) | some (.struct _) => true | _ => false) = true := by kernel_rfl
theorem spot_row : (125 : TypeId) < Tryd.prog.types.size := of_decide_eq_true (by kernel_rfl)
theorem spot_law : KeyLaw Tryd.prog 125 := deep_law_laid fr_laidOut (m := 2) (by omega) spot_row (by kernel_rfl) spot_wide
theorem spot_keyed : Keyed Tryd.prog 125 := Keyed.of_law spot_law
theorem spot_keyType : Tryd.prog.keyType 125 = true := by kernel_rfl
def i64ok (x : Int) : Prop := -9223372036854775808 ≤ x ∧ x ≤ 9223372036854775807
def kS (i a : Int) : Lit := .string (keyBytes [.int .i64 i, .int .i64 a])
theorem spot_size : ∃ m, Tryd.prog.types.size = m + 1 := by
  have h := spot_row
  generalize Tryd.prog.types.size = m at h
  cases m with
  | zero => exact absurd h (Nat.not_lt_zero _)
  | succ m => exact ⟨m, rfl⟩
theorem keyOf_spot {i a : Int} (hi : i64ok i) (ha : i64ok a) : keyOf Tryd.prog 125 (.agg #[.int .i64 i, .int .i64 a]) = some (kS i a) := by
  have wi := lit_i64 hi.1 hi.2
  have wa := lit_i64 ha.1 ha.2
  have hkt := spot_keyType
  obtain ⟨m, hm⟩ := spot_size
  have hu := Tryd.underlying125
  have hc : Tryd.prog.cellsOf 125 = 2 := by kernel_rfl
  have hi2 : Tryd.prog.cellsOf 3 = 1 := by kernel_rfl
  unfold keyOf
  simp only [hu]
  rw [if_pos (by simp [hkt, Value.formed, hu, hc]), hm]
  unfold Program.keyLits
  simp only [hu, Value.cells]
  rw [if_pos ⟨by rw [hc]; rfl, by simp⟩, List.mapM_cons, List.mapM_cons, List.mapM_nil]
  simp [hi2, Program.keyLits, wi, wa, kS]
theorem kS_inj {i a j b : Int} (hi : i64ok i) (ha : i64ok a) (hj : i64ok j) (hb : i64ok b) (h : kS i a = kS j b) : i = j ∧ a = b := by
  have := spot_law.inj (keyOf_spot hi ha) (h ▸ keyOf_spot hj hb)
  simpa using this

/-- Block b is a map of counts: what it answers at each number of a row. -/
def OnMap (w : World) (b n : Nat) (f : Int → Int → Int) : Prop := ∃ D, w.ownsMap Tryd.prog 125 rawR b n D ∧ ∀ i a, i64ok i → i64ok a → D.atKey (kS i a) (.held (.int .i64 0)) = .held (.int .i64 (f i a))
def updF (f : Int → Int → Int) (i a v : Int) : Int → Int → Int := fun j b => if j = i ∧ b = a then v else f j b
section
variable {w w' : World} {b n : Nat} {f : Int → Int → Int}
theorem OnMap.made (w : World) : OnMap (w.alloc (.map #[] 0)) w.heap.size 0 fun _ _ => 0 := ⟨_, World.ownsMap_made w Tryd.prog _ rawR, fun i a _ _ => rfl⟩
theorem OnMap.lt (h : OnMap w b n f) : b < w.heap.size := by
  obtain ⟨D, h1, _⟩ := h
  exact World.ownsMap.lt h1
theorem OnMap.keep (h : OnMap w b n f) (hb : Below w.heap.size w w') : OnMap w' b n f := by
  obtain ⟨D, h1, h2⟩ := h
  have hlt := World.ownsMap.lt h1
  obtain ⟨es', clock, h3, F, hs, hD⟩ := h1
  exact ⟨D, ⟨es', clock, (hb.block b hlt).trans h3, F, hs, hD⟩, h2⟩
theorem OnMap.isMap (h : OnMap w b n f) : NC w b := by
  obtain ⟨D, ⟨es', clock, h3, _⟩, _⟩ := h
  exact NC.of_map h3
end
section
variable (w : World) {ops : Array Oper} {rest : List Oper} {o : Oper} {a : Act} {Q : Exit → Act → World → Prop}
theorem wpList_lookS (hg : o.guard = none) (m x : Operand) (hop : o.op = Op.lookup 119 m x false) (b n : Nat) (f : Int → Int → Int) (hm : a.eval m = .map (some b)) (hown : OnMap w b n f) (i y : Int) (hx : a.eval x = .agg #[.int .i64 i, .int .i64 y]) (hi : i64ok i) (hy : i64ok y)
    (hK : wpList Tryd.prog ops Q rest (a.put o.dst (.int .i64 (f i y))) w) :
    wpList Tryd.prog ops Q (o :: rest) a w := by
  refine wpList_plain hg fun K' hK' => ?_
  obtain ⟨D, h1, h2⟩ := hown
  obtain ⟨v, ps, hrun, hv⟩ := World.ownsMap.lookup h1 spot_keyed Tryd.underlying119 (show (zeroValue 2).run Tryd.prog w = .ok (.int .i64 0) w from by kernel_rfl) (zd := .held (.int .i64 0)) (zp := []) rfl (keyOf_spot hi hy)
  rw [h2 i y hi hy] at hv
  obtain rfl : v = .int .i64 (f i y) := by
    have := (Prod.mk.inj (Option.some.inj hv)).1
    exact DataW.held.inj this
  unfold Oper.wp
  simp [execOp, hop, hm, hx, hrun, Result.andThen]
  exact hK' _ _ hK
theorem wpList_putS (hg : o.guard = none) (m x v : Operand) (hop : o.op = Op.mapUpdate 119 m x v) (b n : Nat) (f : Int → Int → Int) (hm : a.eval m = .map (some b)) (hown : OnMap w b n f) (hn : n < maxLen) (i y z : Int) (hx : a.eval x = .agg #[.int .i64 i, .int .i64 y]) (hv : a.eval v = .int .i64 z) (hi : i64ok i) (hy : i64ok y)
    (hK : ∀ w', OnMap w' b (n + 1) (updF f i y z) → w.grownBy w' (some b) → wpList Tryd.prog ops Q rest (a.put o.dst undef) w') :
    wpList Tryd.prog ops Q (o :: rest) a w := by
  obtain ⟨D, h1, h2⟩ := hown
  refine wpList_mapUpdate_own w hg m x v _ hop 125 2 spot_keyed Tryd.underlying119 rawR b n D hm h1 hn _ _ _ hx hv (keyOf_spot hi hy) (.held (.int .i64 z)) [] rfl fun w' hw' hgr => hK w' ⟨_, hw', fun j c hj hc => ?_⟩ hgr
  unfold updF
  by_cases h : j = i ∧ c = y
  · obtain ⟨rfl, rfl⟩ := h
    rw [if_pos ⟨rfl, rfl⟩, atKey_put_same (World.ownsMap.isMap h1) (spot_keyed.key (keyOf_spot hi hy))]
  · rw [if_neg h, atKey_put_other (fun e => h (kS_inj hj hc hi hy e)), h2 j c hj hc]
end
end Go.Proofs.YtmonepclhbappaaDoor
/-
  Odags: the contracts of Row and Links.
-/
namespace Go.Proofs.YtmonepclhbappaaDoor
open Go.RowKit Go.Maps Go.Sort Go.Shelf
set_option maxRecDepth 100000
set_option linter.unusedVariables false

def keysR_ren : Go.Shelf.Ren := ⟨fun | 7 => 93 | 10 => 106 | n => n, fun | 0 => 0 | 3 => 22 | 4 => 4 | 23 => 101 | 26 => 3 | 27 => 156 | 28 => 157 | 33 => 99 | n => n, fun | n => n⟩
theorem keysR_lays : Go.Proofs.SlLaysZI.n7 Tryd.prog keysR_ren := {
  mixed := by kernel_rfl
  f7 := ⟨Tryd.f93.name, by kernel_rfl, Tryd.func93.trans (congrArg some (by kernel_rfl))⟩
  f10 := ⟨Tryd.f106.name, by kernel_rfl, Tryd.func106.trans (congrArg some (by kernel_rfl))⟩
  t0 := Tryd.underlying0
  a0 := Tryd.isAgg0
  z0 := Tryd.sizeOf0
  v0 := Tryd.zeroValue0
  t4 := Tryd.underlying4
  a4 := Tryd.isAgg4
  z4 := Tryd.sizeOf4
  v4 := Tryd.zeroValue4
  t23 := Tryd.underlying101
  a23 := Tryd.isAgg101
  z23 := Tryd.sizeOf101
  v23 := Tryd.zeroValue101
  t26 := Tryd.underlying3
  a26 := Tryd.isAgg3
  z26 := Tryd.sizeOf3
  v26 := Tryd.zeroValue3
  t27 := Tryd.underlying156
  a27 := Tryd.isAgg156
  z27 := Tryd.sizeOf156
  v27 := Tryd.zeroValue156
  t28 := Tryd.underlying157
  a28 := Tryd.isAgg157
  z28 := Tryd.sizeOf157
  v28 := Tryd.zeroValue157
  t33 := Tryd.underlying99
  a33 := Tryd.isAgg99
  z33 := Tryd.sizeOf99
  v33 := Tryd.zeroValue99 }

def sortedR_ren : Go.Shelf.Ren := ⟨fun | 6 => 92 | 8 => 104 | 9 => 105 | 11 => 124 | n => n, fun | 0 => 0 | 24 => 22 | 26 => 3 | 28 => 157 | 33 => 99 | n => n, fun | n => n⟩
theorem sortedR_lays : Go.Proofs.SlLaysZI.n6 Tryd.prog sortedR_ren := {
  mixed := by kernel_rfl
  f6 := ⟨Tryd.f92.name, by kernel_rfl, Tryd.func92.trans (congrArg some (by kernel_rfl))⟩
  f8 := ⟨Tryd.f104.name, by kernel_rfl, Tryd.func104.trans (congrArg some (by kernel_rfl))⟩
  f11 := ⟨Tryd.f124.name, by kernel_rfl, Tryd.func124.trans (congrArg some (by kernel_rfl))⟩
  t0 := Tryd.underlying0
  a0 := Tryd.isAgg0
  z0 := Tryd.sizeOf0
  v0 := Tryd.zeroValue0
  t24 := Tryd.underlying22
  a24 := Tryd.isAgg22
  z24 := Tryd.sizeOf22
  v24 := Tryd.zeroValue22
  t26 := Tryd.underlying3
  a26 := Tryd.isAgg3
  z26 := Tryd.sizeOf3
  v26 := Tryd.zeroValue3
  t28 := Tryd.underlying157
  a28 := Tryd.isAgg157
  z28 := Tryd.sizeOf157
  v28 := Tryd.zeroValue157
  i26 := by kernel_rfl }

theorem sorts_in (m : Nat) : AnyZI.SortsIn Tryd.prog sortedR_ren Fence.wide m :=
  ⟨fun blk off cap ss W hH hblk hsz => callsIn_wide.2 (Any.slices_Sort_int sort_lays blk off cap ss W hH hblk hsz),
   fun p cap W => callsIn_wide.2 ((Any.slices_Sort_int_none sort_lays p cap W).mono fun e w' h => ⟨h.1, h.2⟩)⟩
theorem keys_asD (es : List (Int × Value)) : intKeys (asD es) = es.map (·.1) := by
  show (es.map enK).map (fun p => Go.intOf p.1) = _
  rw [List.map_map]
  rfl
theorem sort_of_perm {ss l : List Int} (hp : ss.Perm l) (hl : l.Pairwise (· < ·)) : (ss.mergeSort fun x y => decide (x ≤ y)) = l := by
  have h1 : (ss.mergeSort fun x y => decide (x ≤ y)).Pairwise (fun x y => decide (x ≤ y) = true) := List.pairwise_mergeSort (fun a b c => by simp; omega) (fun a b => by simp; omega) ss
  have h2 : (ss.mergeSort fun x y => decide (x ≤ y)).Perm l := (List.mergeSort_perm ss _).trans hp
  have h3 : l.Nodup := hl.imp fun {a b} h e => by subst e; omega
  have h4 := h2.nodup_iff.2 h3
  refine inc_ext ?_ hl (fun y => h2.mem_iff)
  refine (h1.and h4).imp fun {a b} h => ?_
  have h5 : a ≤ b := of_decide_eq_true h.1
  have h6 : a ≠ b := h.2
  omega
set_option maxHeartbeats 1000000 in
theorem SortedKeys_any (b : Nat) (r : Rw) (w : World) (hr : MRow w b r) (hrl : r.length ≤ 1000000) :
    Calls Tryd.prog 92 #[.func (.func 106) #[] #[.pointer (some ⟨w.heap.size, 0, none⟩)]] (w.alloc (.cells #[.map (some b)] 101)) fun e w' => ∃ v, e = .returned v ∧ w'.ownsRow w.heap.size 3 1 v r.length ((r.map (·.1)).map (Value.int .i64)) ∧ Below w.heap.size w w' := by
  have hal := bel_al (Below.refl w.heap.size w) (.cells #[.map (some b)] 101)
  have hr1 := hr.keep hal
  have hinc := hr.incr
  obtain ⟨m, rfl, hM, _⟩ := hr1
  have hinc' : ((m.map pl).map (·.1)).Pairwise (· < ·) := List.pairwise_map.2 hinc
  have hkeys : intKeys (asD (m.map mv)) = (m.map pl).map (·.1) := by
    rw [keys_asD, List.map_map, List.map_map]
    rfl
  have hsz : Maps.size (asD (m.map mv)) = m.length := by unfold asD; rw [Maps.size_eq, List.length_map, List.length_map]
  rw [List.length_map] at hrl
  have hseq : SeqGives Fence.wide 2 Tryd.prog 106 #[.pointer (some ⟨w.heap.size, 0, none⟩)] encZ (fun ss => ss.Perm (intKeys (asD (m.map mv)))) (Maps.size (asD (m.map mv))) (w.alloc (.cells #[.map (some b)] 101)) :=
    AnyZI.keys_gives (ρ := keysR_ren) { keysR_lays with } Fence.wide _ trivial rfl (by omega) w.heap.size b _ _ _ (by simp) (by simp) hM
  have cS := AnyZI.sorted_in sortedR_lays Fence.wide 5 trivial trivial trivial trivial rfl (by omega) (sorts_in _) (enters_of Tryd.func105 (by kernel_rfl) rfl) 106 #[.pointer (some ⟨w.heap.size, 0, none⟩)] trivial (enters_of Tryd.func106 (by kernel_rfl) rfl) _ _ (by rw [hsz]; unfold maxLen; omega) (by rw [hsz]; omega) _ hseq
  refine ((callsIn_wide (n := 5)).1 cS).mono fun e w' ⟨v, ss, h1, h2, h3, _, h5⟩ => ⟨v, h1, ?_, hal.andThen h5⟩
  rw [hkeys] at h2
  rw [sort_of_perm h2 hinc', h2.length_eq, List.length_map] at h3
  exact own_mono h3 (by simp)
theorem Keys_any (b : Nat) (W : World) : Calls Tryd.prog 93 #[.map (some b)] W fun e w' => e = .returned (.func (.func 106) #[] #[.pointer (some ⟨W.heap.size, 0, none⟩)]) ∧ w' = W.alloc (.cells #[.map (some b)] 101) :=
  (callsIn_wide (n := 5)).1 (AnyZI.keys_in keysR_lays Fence.wide 5 trivial rfl (some b) W)

def keysAt (od : List Rw) (i : Int) : List Int := if 0 ≤ i ∧ i < (od.length : Int) then (od.getD i.toNat []).map (·.1) else []
def linksAt (od : List Rw) (i a : Int) : List Int := if 0 ≤ i ∧ i < (od.length : Int) then lkR (od.getD i.toNat []) a else []
theorem OdM.row {w : World} {p : Nat} {od : List Rw} (h : OdM w p od) {i : Nat} (hi : i < od.length) : ∃ (rb ro n c b : Nat), n = od.length ∧ w.cell? ⟨p, 0, none⟩ = some (.slice (some ⟨rb, ro, none⟩) n c) ∧ n ≤ c ∧ w.cell? ⟨rb, ro + i, none⟩ = some (.map (some b)) ∧ MRow w b (od.getD i []) := by
  obtain ⟨R, n, c, bs, h1, h2, h3, h4, h5, h6, h7⟩ := h
  obtain ⟨rb, ro, rfl, _⟩ := h5.at_ (show 0 < n by omega)
  obtain ⟨b, hb⟩ : ∃ b, bs[i]? = some b := ⟨_, List.getElem?_eq_getElem (by omega)⟩
  have c0 := h1.cell 0
  simp at c0
  refine ⟨rb, ro, n, c, b, h2.symm, c0, h4, h5.again (by omega) (show (bs.map fun b => Value.map (some b))[i]? = some (.map (some b)) by rw [List.getElem?_map, hb]; rfl), ?_⟩
  rw [List.getD_eq_getElem?_getD, List.getElem?_eq_getElem hi]
  exact h7 i b _ hb (List.getElem?_eq_getElem hi)

set_option maxHeartbeats 4000000 in
theorem OdRow_any (p : Nat) (od : List Rw) (i : Int) (w : World) (h : OdM w p od) (hB : OdB 1000000 od) (h8 : od.length ≤ 100) : Calls Tryd.prog 62 #[.pointer (some ⟨p, 0, none⟩), .int .i64 i] w fun e w' => ∃ v, e = .returned v ∧ w'.ownsRow w.heap.size 3 1 v (keysAt od i).length ((keysAt od i).map (Value.int .i64)) ∧ Below w.heap.size w w' := by
  have HLn := Lib.hid (OdLen_any p od w h)
  by_cases hi0 : i < 0
  · have HE := Lib.hid (show keysAt od i = [] from if_neg (by omega))
    rw [HE.out]
    clear h hB
    go_enter Tryd.func62, Tryd.ntmps62
    go_wp2_with fail
    go_ret
    exact ⟨_, rfl, World.ownsRow_nil _ _ _ _, Below.refl _ _⟩
  · by_cases hin : i < (od.length : Int)
    · obtain ⟨k, rfl⟩ : ∃ k : Nat, i = (k : Int) := ⟨i.toNat, by omega⟩
      have hk : k < od.length := by omega
      obtain ⟨rb, ro, n, c, b, hn, c0, hnc, c1, hrow⟩ := h.row hk
      have hE : keysAt od (k : Int) = (od.getD k []).map (·.1) := if_pos (by omega)
      have hrB : (od.getD k []).length ≤ 1000000 := (hB _ (by rw [List.getD_eq_getElem?_getD, List.getElem?_eq_getElem hk]; exact List.getElem_mem hk)).1
      rw [hE]
      have HSo := Lib.hid (SortedKeys_any b (od.getD k []) w hrow hrB)
      obtain ⟨ks, hks⟩ : ∃ ks, ks = (od.getD k []).map (·.1) := ⟨_, rfl⟩
      have hkl : ks.length = (od.getD k []).length := by rw [hks, List.length_map]
      rw [← hks, ← hkl] at HSo
      rw [← hks]
      rw [← hn] at HLn
      have hkn : (k : Int) < (n : Int) := by omega
      have hkn' : ¬ (n : Int) ≤ (k : Int) := by omega
      clear h hB hrow hE hrB hks hkl hn hin hi0 hk
      go_enter Tryd.func62, Tryd.ntmps62
      go_wp2_with (first
        | (go_at_call 52; refine HLn.out.mono ?_; rintro e w' ⟨rfl, rfl⟩)
        | (go_at_call 93; refine (Keys_any b _).mono ?_; rintro e w1 ⟨rfl, rfl⟩)
        | (go_at_call 92; refine HSo.out.mono ?_; rintro e w2 ⟨v, rfl, hown, hb⟩; have HO := Lib.hid hown; have HB := Lib.hid hb; clear hown hb))
      go_ret
      exact ⟨_, rfl, HO.out, HB.out⟩
    · have HE := Lib.hid (show keysAt od i = [] from if_neg (by omega))
      rw [HE.out]
      obtain ⟨n, hn⟩ : ∃ n, n = od.length := ⟨_, rfl⟩
      rw [← hn] at HLn hin
      have hin' : (n : Int) ≤ i := by omega
      clear h hB hn hin
      go_enter Tryd.func62, Tryd.ntmps62
      go_wp2_with (go_at_call 52; refine HLn.out.mono ?_; rintro e w' ⟨rfl, rfl⟩)
      go_ret
      exact ⟨_, rfl, World.ownsRow_nil _ _ _ _, Below.refl _ _⟩
end Go.Proofs.YtmonepclhbappaaDoor
/-
  Odags: the contract of Links; no odag at all.
-/
namespace Go.Proofs.YtmonepclhbappaaDoor
open Go.RowKit Go.Maps
set_option maxRecDepth 100000
set_option linter.unusedVariables false

set_option maxHeartbeats 4000000 in
theorem OdLinks_any (p : Nat) (od : List Rw) (i a : Int) (w : World) (h : OdM w p od) (hB : OdB 1000000 od) (h8 : od.length ≤ 100) (ha : -9223372036854775808 ≤ a ∧ a ≤ 9223372036854775807) : Calls Tryd.prog 68 #[.pointer (some ⟨p, 0, none⟩), .int .i64 i, .int .i64 a] w fun e w' => ∃ v, e = .returned v ∧ w'.ownsRow w.heap.size 3 1 v (linksAt od i a).length ((linksAt od i a).map (Value.int .i64)) ∧ Below w.heap.size w w' := by
  have HLn := Lib.hid (OdLen_any p od w h)
  by_cases hi0 : i < 0
  · have HE := Lib.hid (show linksAt od i a = [] from if_neg (by omega))
    rw [HE.out]
    clear h hB
    go_enter Tryd.func68, Tryd.ntmps68
    go_wp2_with fail
    go_ret
    exact ⟨_, rfl, World.ownsRow_nil _ _ _ _, Below.refl _ _⟩
  · by_cases hin : i < (od.length : Int)
    · obtain ⟨k, rfl⟩ : ∃ k : Nat, i = (k : Int) := ⟨i.toNat, by omega⟩
      have hk : k < od.length := by omega
      obtain ⟨rb, ro, n, c, b, hn, c0, hnc, c1, hrow⟩ := h.row hk
      have hE : linksAt od (k : Int) a = lkR (od.getD k []) a := if_pos (by omega)
      have hrB := hB _ (show od.getD k [] ∈ od by rw [List.getD_eq_getElem?_getD, List.getElem?_eq_getElem hk]; exact List.getElem_mem hk)
      rw [hE]
      have HLB := Lib.hid (lkR_B hrB a)
      have HRow := Lib.hid hrow
      have HA := Lib.hid ha
      rw [← hn] at HLn
      have hkn : (k : Int) < (n : Int) := by omega
      have hkn' : ¬ (n : Int) ≤ (k : Int) := by omega
      clear h hB hrow hE hrB hn hin hi0 hk ha
      go_enter Tryd.func68, Tryd.ntmps68
      go_wp2_with (first
        | (go_at_call 52; refine HLn.out.mono ?_; rintro e w' ⟨rfl, rfl⟩)
        | (go_at_call 76; refine HCl.out.mono ?_; rintro e w2 ⟨v, rfl, hown, hb⟩; have HO := Lib.hid hown; have HB := Lib.hid hb; clear hown hb)
        | (refine wpList_lookR _ rfl _ _ rfl b _ (by go_simp) HRow.out a (by go_simp) HA.out.1 HA.out.2 ?_; intro A c' l hrl hl; have HCl := Lib.hid (CloneI_own l A l.length c' _ rfl (by rw [hl]; exact Nat.le_trans HLB.out (by decide)) hrl.1); have HL := Lib.hid hl; clear hrl hl))
      go_ret
      rw [← HL.out]
      exact ⟨_, rfl, HO.out, HB.out⟩
    · have HE := Lib.hid (show linksAt od i a = [] from if_neg (by omega))
      rw [HE.out]
      obtain ⟨n, hn⟩ : ∃ n, n = od.length := ⟨_, rfl⟩
      rw [← hn] at HLn hin
      have hin' : (n : Int) ≤ i := by omega
      clear h hB hn hin
      go_enter Tryd.func68, Tryd.ntmps68
      go_wp2_with (go_at_call 52; refine HLn.out.mono ?_; rintro e w' ⟨rfl, rfl⟩)
      go_ret
      exact ⟨_, rfl, World.ownsRow_nil _ _ _ _, Below.refl _ _⟩
end Go.Proofs.YtmonepclhbappaaDoor
/-
  Chains of errors: errors.As at *api.Fault, errors.Is at a fault, errors.Unwrap, and the fault package's functions over whole chains.
-/
namespace Go.Proofs.YtmonepclhbappaaDoor
open Go.RowKit Go.Extern.Stop Go.Stop Go.Extern

def Err.depth : Err → Nat
  | .step _ e => e.depth + 1
  | _ => 0
def Err.flt? : Err → Option (Int × Int × ByteArray)
  | .flt c a s => some (c, a, s)
  | .step _ e => e.flt?
  | _ => none
theorem Err.code_of : ∀ (E : Err), E ≠ .nil → (∀ w v, E.At w v → E.code = match E.flt? with | some (c, _, _) => c | none => -1)
  | .nil, h, _, _, _ => absurd rfl h
  | .flt _ _ _, _, _, _, _ => rfl
  | .txt _, _, _, _, _ => rfl
theorem Err.at_of : ∀ (E : Err), E.at_ = match E.flt? with | some (_, a, _) => a | none => 0
  | .nil => rfl
  | .flt _ _ _ => rfl
  | .txt _ => rfl
  | .step _ e => Err.at_of e


/-- What errors.as leaves: the target is set to the chain's first fault; or the chain has none. -/
def AsPost (E : Err) (w0 w1 : World) (t : Addr) (ev : Ending) (w' : World) : Prop :=
  (∃ c a s g, E.flt? = some (c, a, s) ∧ ev = .returned (.bool true) ∧ Blk w0 g 131 #[.int .i64 c, .int .i64 a, .string s] ∧ (w1.alloc (.cells #[.pointer (some ⟨g, 0, none⟩)] 128)).setCell t (.pointer (some ⟨g, 0, none⟩)) = w') ∨
  (E.flt? = none ∧ ev = .returned (.bool false) ∧ w1 = w')

theorem Err.At.iface_ {w : World} {E : Err} {v : Value} (h : E.At w v) (hne : E ≠ .nil) : ∃ T x, v = .iface T x := by
  cases E with
  | nil => exact absurd rfl hne
  | flt c a s => obtain ⟨g, rfl, _⟩ := h; exact ⟨_, _, rfl⟩
  | step w e => exact h.elim
  | txt s => exact h.elim

end Go.Proofs.YtmonepclhbappaaDoor
/-
  The fault package over whole chains: errors.As, fault.fault, fault.Code, fault.At.
-/
namespace Go.Proofs.YtmonepclhbappaaDoor
open Go.RowKit Go.Extern.Stop Go.Stop Go.Extern

/-- What errors.As leaves, its target the one cell t. -/
def AsDone (E : Err) (w0 w : World) (t : Addr) (old : Value) (ev : Ending) (w' : World) : Prop :=
  Below t.block w w' ∧
  ((∃ c a s g, E.flt? = some (c, a, s) ∧ ev = .returned (.bool true) ∧ Blk w0 g 131 #[.int .i64 c, .int .i64 a, .string s] ∧ w'.cell? t = some (.pointer (some ⟨g, 0, none⟩))) ∨
   (E.flt? = none ∧ ev = .returned (.bool false) ∧ w'.cell? t = some old))

/-- fault.fault: a pointer to the chain's first fault, or none. -/
def FaultPost (E : Err) (w : World) (ev : Ending) (w' : World) : Prop :=
  Below w.heap.size w w' ∧
  ((∃ c a s g, E.flt? = some (c, a, s) ∧ ev = .returned (.pointer (some ⟨g, 0, none⟩)) ∧ Blk w' g 131 #[.int .i64 c, .int .i64 a, .string s]) ∨ (E.flt? = none ∧ ev = .returned (.pointer none)))

end Go.Proofs.YtmonepclhbappaaDoor
