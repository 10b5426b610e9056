/-
  The walk of RankSplit (and of its package's alive).
-/
import Derived.Test.YtkhhjompondnnaaDoorRankS
import Derived.Deep.DeepCutAuto
namespace Go.Proofs.YtkhhjompondnnaaDoor
open Go.RowKit

set_option maxHeartbeats 1000000 in
theorem alive14 (w : World) (hg : ErrT w) : Calls Tryd.prog 15 #[] w fun e w' => e = .returned (.bool true) ∧ Below w.heap.size w w' := by
  go_enter Tryd.func15, Tryd.ntmps15
  go_wp2_with fail
  refine (Split_good 7 3 w (by omega) (by omega) (by omega) (by omega)).mono ?_
  rintro e w1 ⟨A, c, rfl, hsl, hb1⟩
  obtain ⟨b, off, rfl, hc⟩ := hsl.2 (by omega)
  have c0 := hc 0 (.int .i64 0) rfl
  have c1 := hc 1 (.int .i64 3) rfl
  have c2 := hc 2 (.int .i64 3) rfl
  have c3 := hc 3 (.int .i64 5) rfl
  clear hc hsl
  go_wp2_with fail
  refine (Split_bad 1 65 w1 (by omega)).mono ?_
  rintro e w2 ⟨v, rfl, ⟨g, rfl, hbk⟩, hb2⟩
  have d0 := (hb2.cell (World.block_lt_of_cell? w1 _ c0)).trans c0
  rw [Nat.add_zero] at d0
  have d1 := (hb2.cell (World.block_lt_of_cell? w1 _ c1)).trans c1
  have d2 := (hb2.cell (World.block_lt_of_cell? w1 _ c2)).trans c2
  have d3 := (hb2.cell (World.block_lt_of_cell? w1 _ c3)).trans c3
  have hC := Code_flt g 1 0 _ w2 ((hg.keep hb1).keep (hb2.mono (Nat.le_refl _))) hbk
  have HC := Lib.hid hC
  clear hC c0 c1 c2 c3 hbk
  go_wp2_with (go_at_call 17; refine HC.out.mono ?_; rintro e w3 ⟨rfl, hb3⟩)
  go_ret
  exact ⟨rfl, (hb1.andThen hb2).andThen hb3⟩

theorem eq_part_ne (a b c d : Int) (h : (a, b) = (c, d)) : a = c ∧ b = d := by simpa using h

set_option maxHeartbeats 4000000 in
set_option maxRecDepth 100000 in
theorem RankSplit_walk (total n : Int) (A : Option Addr) (m c : Nat) (l : List (Int × Int)) (w : World) (hg : ErrT w)
    (ht : total ≤ 9223372036854775807) (hm : m ≤ 9223372036854775807) (hl : l.length = m) (hs : Sl w 2 A m (Rk.cells l)) :
    Calls Tryd.prog 3 #[.int .i64 total, .int .i64 n, .slice A m c] w fun e w' => e = .returned (.bool true) ∧ Below w.heap.size w w' := by
  go_enter Tryd.func3, Tryd.ntmps3
  go_wp2_with fail
  refine (alive14 w hg).mono ?_
  rintro e w1 ⟨rfl, hb1⟩
  have hg1 := hg.keep hb1
  clear hg
  by_cases hm60 : m ≤ 60
  · go_upto_region 6 with (first | (go_at_call 16; refine (Split_any total n w1 ht).mono ?_; rintro e w2 ⟨B, k, c2, v, rfl, hb2, HB, HG⟩))
    have hg2 := hg1.keep hb2
    go_cut [39] (fun s wx => s = .bool (decide (total < 0 ∨ n < 1 ∨ 64 < n)) ∧ w2 = wx)
    case first =>
      go_wp2
      all_goals go_meet
      all_goals exact ⟨by congr 1; rw [Bool.eq_iff_iff]; simp <;> omega, rfl⟩
    case rest =>
    obtain ⟨rfl, rfl⟩ := hcut
    go_upto_if 39 with (fail)
    go_cut [9, 10, 11, 12] (fun _ _ _ _ wx => Below w.heap.size w wx)
    case first =>
      by_cases hbad : total < 0 ∨ n < 1 ∨ 64 < n
      · obtain ⟨rfl, g, rfl, hbk⟩ := HB.out hbad
        have HC := Lib.hid (Code_flt g 1 0 _ w2 hg2 hbk)
        have hd : decide (total < 0 ∨ n < 1 ∨ 64 < n) = true := by simpa using hbad
        clear hbk HG HB
        go_wp2_with (go_at_call 17; refine HC.out.mono ?_; rintro e w3 ⟨rfl, hb3⟩)
        go_meet
        exact (hb1.andThen hb2).andThen hb3
      · obtain ⟨hk, rfl, hsl⟩ := HG.out hbad
        obtain rfl := hk
        have hd : decide (total < 0 ∨ (k : Int) < 1 ∨ 64 < (k : Int)) = false := by simpa using hbad
        go_wp2_with fail
        refine (RefSplit_good total k w2 (by omega) (by omega) (by omega) (by omega)).mono ?_
        rintro e w3 ⟨D, c3, rfl, hsd, hb3⟩
        go_wp2_with fail
        go_loopw [10] (fun i wr => ∃ j : Nat, j ≤ k ∧ i = .int .i64 j ∧ Below w3.heap.size w3 wr) (fun i _ => k - (intOf i).toNat)
        case atStart => exact ⟨0, Nat.zero_le _, rfl, Below.refl _ _⟩
        case round =>
          obtain ⟨j, hj, rfl, hb4⟩ := hrel
          by_cases hlt : j < k
          · have hl' : j < (Rk.parts total k).length := by rw [Rk.parts_length]; exact hlt
            obtain ⟨b1, o1, rfl, hc1⟩ := ((hsl.keep hb3).keep hb4).at_ hlt
            obtain ⟨b2, o2, rfl, hc2⟩ := (hsd.keep hb4).at_ hlt
            obtain ⟨g0, g1⟩ := Rk.cells_at _ j hl'
            obtain ⟨u0, e0, c0⟩ := hc1 0 (by omega)
            obtain ⟨u1, e1, c1⟩ := hc1 1 (by omega)
            obtain ⟨u2, e2, c20⟩ := hc2 0 (by omega)
            obtain ⟨u3, e3, c21⟩ := hc2 1 (by omega)
            rw [g0] at e0 e2; rw [g1] at e1 e3
            obtain rfl := Option.some.inj e0
            obtain rfl := Option.some.inj e1
            obtain rfl := Option.some.inj e2
            obtain rfl := Option.some.inj e3
            clear e0 e1 e2 e3 g0 g1 hc1 hc2 hsl hsd
            generalize (Rk.parts total k)[j] = p at *
            obtain ⟨f, t⟩ := p
            rw [Nat.add_zero] at c0 c20
            rw [← Nat.add_assoc] at c1 c21
            go_wp2
            go_quiet (fail)
            go_wp2
            go_roundw
            case rel => exact ⟨j + 1, by omega, by go_num, bel_drewN hb4 _⟩
            case measure => simp [intOf]; omega
          · have hW := Whole_calls B k c2 (Rk.parts total k) wr (by omega) (Rk.parts_length _ _) ((hsl.keep hb3).keep hb4)
            rw [Rk.whole_parts total k (by omega) (by omega)] at hW
            simp only [Rk.wholeV] at hW
            have HW := Lib.hid hW
            clear hW hsl hsd
            go_wp2_with (go_at_call 19; refine HW.out.mono ?_; rintro e w4 ⟨rfl, hb5⟩)
            go_meet
            exact (((hb1.andThen hb2).andThen hb3).andThen hb4).andThen hb5
    case rest =>
      have hs2 := hs.keep hcut
      clear hs HB HG hb2 hb1
      go_wp2_with fail
      go_loopw [13, 14, 15, 16] (fun t g x i wr => ∃ (k : Nat) (at_ : Int) (good : Bool), k ≤ m ∧ i = .int .i64 k ∧ t = .int .i64 at_ ∧ g = .bool good ∧
        Hid (Rk.whole 0 l = if good then Rk.whole at_ (l.drop k) else none) ∧ wr.ownsRow wc.heap.size 33 2 x k (Rk.cells (l.take k)) ∧ Below wc.heap.size wc wr) (fun _ _ _ i _ => m - (intOf i).toNat)
      case atStart => exact ⟨0, 0, true, Nat.zero_le _, rfl, rfl, rfl, rfl, by simpa [Rk.cells] using World.ownsRow_nil _ _ _ _, Below.refl _ _⟩
      case round =>
        obtain ⟨k, at_, good, hk, rfl, rfl, rfl, HW, hown, hb⟩ := hrel
        by_cases hlt : k < m
        · have hl' : k < l.length := by omega
          obtain ⟨b1, o1, rfl, hc1⟩ := (hs2.keep hb).at_ hlt
          obtain ⟨g0, g1⟩ := Rk.cells_at l k hl'
          obtain ⟨u0, e0, c0⟩ := hc1 0 (by omega)
          obtain ⟨u1, e1, c1⟩ := hc1 1 (by omega)
          rw [g0] at e0; rw [g1] at e1
          obtain rfl := Option.some.inj e0
          obtain rfl := Option.some.inj e1
          clear e0 e1 g0 g1 hc1 hs2
          have HD := Lib.hid (List.drop_eq_getElem_cons hl')
          have HT := Lib.hid (List.take_succ_eq_append_getElem hl')
          generalize l[k] = p at *
          obtain ⟨f, t⟩ := p
          rw [Nat.add_zero] at c0
          rw [← Nat.add_assoc] at c1
          simp only at c0 c1
          have hstep : ∀ good' : Bool, (if good' then Rk.whole t (l.drop (k + 1)) else none) = (if good then Rk.whole at_ (l.drop k) else none) →
              Hid (Rk.whole 0 l = if good' then Rk.whole t (l.drop (k + 1)) else none) := by
            intro good' h; show _ = _; rw [h]; exact HW.out
          have HS := Lib.hid hstep
          clear hstep
          cases good
          · go_wp2
            go_quiet (fail)
            have hown2 : (wr.drewN nq).ownsRow wc.heap.size 33 2 u15 k (Rk.cells (l.take k)) := hown
            have hb2 : Below wc.heap.size wc (wr.drewN nq) := bel_drewN hb nq
            clear hown
            go_wp2_with (at_builtin; go_loud (refine wpList_push elemPart _ _ rfl rfl hown2 hb2 (Nat.le_refl _) rfl rfl rfl (by simp [Value.oneCell']) (by unfold lim; omega) (by unfold lim; omega) ?_); intro v' w5 hown1 hb5)
            go_roundw
            case rel => exact ⟨k + 1, t, false, by omega, by go_num, rfl, rfl, HS.out false (by rfl), by rw [HT.out, Rk.cells_snoc]; exact hown1, hb5⟩
            case measure => simp [intOf]; omega
          · by_cases hf : f = at_
            · subst hf
              by_cases hft : f ≤ t
              · have hd : decide (f ≤ t) = true := by simpa using hft
                go_wp2
                go_quiet (fail)
                have hown2 : (wr.drewN nq).ownsRow wc.heap.size 33 2 u15 k (Rk.cells (l.take k)) := hown
                have hb2 : Below wc.heap.size wc (wr.drewN nq) := bel_drewN hb nq
                clear hown
                go_wp2_with (at_builtin; go_loud (refine wpList_push elemPart _ _ rfl rfl hown2 hb2 (Nat.le_refl _) rfl rfl rfl (by simp [Value.oneCell']) (by unfold lim; omega) (by unfold lim; omega) ?_); intro v' w5 hown1 hb5)
                go_roundw
                case rel => exact ⟨k + 1, t, true, by omega, by go_num, rfl, rfl, HS.out true (by rw [HD.out]; simp [Rk.whole, hft]), by rw [HT.out, Rk.cells_snoc]; exact hown1, hb5⟩
                case measure => simp [intOf]; omega
              · have hd : decide (f ≤ t) = false := by simpa using hft
                go_wp2
                go_quiet (fail)
                have hown2 : (wr.drewN nq).ownsRow wc.heap.size 33 2 u15 k (Rk.cells (l.take k)) := hown
                have hb2 : Below wc.heap.size wc (wr.drewN nq) := bel_drewN hb nq
                clear hown
                go_wp2_with (at_builtin; go_loud (refine wpList_push elemPart _ _ rfl rfl hown2 hb2 (Nat.le_refl _) rfl rfl rfl (by simp [Value.oneCell']) (by unfold lim; omega) (by unfold lim; omega) ?_); intro v' w5 hown1 hb5)
                go_roundw
                case rel => exact ⟨k + 1, t, false, by omega, by go_num, rfl, rfl, HS.out false (by rw [HD.out]; simp [Rk.whole]; omega), by rw [HT.out, Rk.cells_snoc]; exact hown1, hb5⟩
                case measure => simp [intOf]; omega
            · have hd : (f == at_) = false := by simpa using hf
              clear hf
              go_wp2
              go_quiet (fail)
              have hown2 : (wr.drewN nq).ownsRow wc.heap.size 33 2 u15 k (Rk.cells (l.take k)) := hown
              have hb2 : Below wc.heap.size wc (wr.drewN nq) := bel_drewN hb nq
              clear hown
              go_wp2_with (at_builtin; go_loud (refine wpList_push elemPart _ _ rfl rfl hown2 hb2 (Nat.le_refl _) rfl rfl rfl (by simp [Value.oneCell']) (by unfold lim; omega) (by unfold lim; omega) ?_); intro v' w5 hown1 hb5)
              go_roundw
              case rel => exact ⟨k + 1, t, false, by omega, by go_num, rfl, rfl, HS.out false (by rw [HD.out]; simp at hd; simp [Rk.whole, hd]), by rw [HT.out, Rk.cells_snoc]; exact hown1, hb5⟩
              case measure => simp [intOf]; omega
        · obtain rfl : k = m := by omega
          rw [List.take_of_length_le (by omega)] at hown
          have hd : l.drop k = [] := List.drop_eq_nil_of_le (by omega)
          obtain ⟨D, c3, rfl, hsl⟩ := Sl.own hown
          have hW := Whole_calls D k c3 l wr (by omega) hl hsl
          rw [HW.out, hd] at hW
          cases good
          · simp only [Rk.wholeV, Bool.false_eq_true, ↓reduceIte] at hW
            have HC := Lib.hid hW
            clear hW hd HW hown hsl
            go_wp2_with (go_at_call 19; refine HC.out.mono ?_; rintro e w5 ⟨rfl, hb5⟩)
            go_ret
            exact ⟨rfl, (hcut.andThen hb).andThen hb5⟩
          · simp only [Rk.wholeV, Rk.whole, ↓reduceIte] at hW
            have HC := Lib.hid hW
            clear hW hd HW hown hsl
            go_wp2_with (go_at_call 19; refine HC.out.mono ?_; rintro e w5 ⟨rfl, hb5⟩)
            go_ret
            exact ⟨rfl, (hcut.andThen hb).andThen hb5⟩
  · go_wp2_with fail
    go_ret
    exact ⟨rfl, hb1⟩

/-- RankSplit, as its frame asks it. -/
theorem RankSplit_main (a0 a1 : Int) (A2 : Option Addr) (n2 c2 : Nat) (l2 : List (Int × Int)) (w : World) (hg : ErrT w) (w0 : (Lit.int .i64 a0).wf = true) (_ : (Lit.int .i64 a1).wf = true)
    (m2 : n2 ≤ maxLen) (e2 : l2.length = n2) (s2 : Sl w 2 A2 n2 (l2.flatMap fun p => [.int .i64 p.1, .int .i64 p.2])) (_ : ∀ p ∈ l2, (Lit.int .i64 p.1).wf = true ∧ (Lit.int .i64 p.2).wf = true) :
    Calls Tryd.prog 3 #[.int .i64 a0, .int .i64 a1, .slice A2 n2 c2] w fun e w' => e = .returned (.bool true) ∧ Below w.heap.size w w' :=
  RankSplit_walk a0 a1 A2 n2 c2 l2 w hg (wf_i64 w0).2 (by simp only [maxLen] at m2; omega) e2 s2
end Go.Proofs.YtkhhjompondnnaaDoor
