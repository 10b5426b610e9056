/-
  Part 16 of the proof of ConfProgs: CfG, ConfS, CfH, TsP.
-/
import Derived.BigQuiet
import Derived.Deep.RegionHeld3
import Derived.Test.YtapledphhfiimaaGreatDoorConfProgsM14
import Derived.Test.YtapledphhfiimaaGreatDoorConfProgsM15
import Derived.Test.YtapledphhfiimaaGreatDoorConfProgsM9
import Derived.Test.YtapledphhfiimaaGreatDoorConfProgsM13
import Derived.Test.YtapledphhfiimaaGreatDoorConfProgsM4
import Derived.Lib.SlicesCompact
/-
  Chapter 22: the walks of the document's Right, and of the laws' Of.
-/
namespace Go.Proofs.YtapledphhfiimaaGreatDoor
open Go.RowKit Go.Proofs.YtapledphhfiimaaGreatDoor.Pg
attribute [local go_sem ↓] Go.wp_at_zero Go.wp_at_succ
set_option maxRecDepth 100000
set_option linter.unusedVariables false

theorem In_t (n m : Int) (h : 1 ≤ n ∧ n ≤ m) (w : World) : Calls Tryz.prog 46 #[.int .i64 n, .int .i64 m] w fun e w' => e = .returned (.bool true) ∧ w = w' := by
  have h1 := h.1
  have h2 := h.2
  have h3 : decide (n ≤ m) = true := decide_eq_true h2
  clear h
  go_enter Tryz.func46, Tryz.ntmps46
  go_wp2_with fail
  go_ret
  exact ⟨rfl, rfl⟩
theorem In_f (n m : Int) (h : ¬ (1 ≤ n ∧ n ≤ m)) (w : World) : Calls Tryz.prog 46 #[.int .i64 n, .int .i64 m] w fun e w' => e = .returned (.bool false) ∧ w = w' := by
  by_cases h1 : 1 ≤ n
  · have h2 : ¬ n ≤ m := fun h2 => h ⟨h1, h2⟩
    have h3 : decide (n ≤ m) = false := decide_eq_false h2
    clear h
    go_enter Tryz.func46, Tryz.ntmps46
    go_wp2_with fail
    go_ret
    exact ⟨rfl, rfl⟩
  · have h3 : decide (1 ≤ n) = false := decide_eq_false h1
    clear h
    go_enter Tryz.func46, Tryz.ntmps46
    go_wp2_with fail
    go_ret
    exact ⟨rfl, rfl⟩
set_option maxHeartbeats 600000 in
theorem RefRight22_three (c : Cf.CF) (A : Option Addr) (n d : Nat) (w : World) (h3 : c.kind = 3) (hn : c.keep.length = n) (h9 : n ≤ 1000000) (hs : Sl w 2 A n (Rk.cells c.keep)) :
    Calls Tryz.prog 15 #[confV c A n d] w fun e w' => e = .returned (.bool (decide (Cf.rightC c))) ∧ Below w.heap.size w w' := by
  have HBc := Lib.hid (bel_al (Below.refl w.heap.size w) (.cells #[.int .i64 c.kind, .int .i64 c.size, .int .i64 c.sup, .int .i64 c.wk, .int .i64 c.cap, .slice A n d] 46))
  have HKc := Lib.hid (Blk.new w 46 #[.int .i64 c.kind, .int .i64 c.size, .int .i64 c.sup, .int .i64 c.wk, .int .i64 c.cap, .slice A n d])
  have HPrT := Lib.hid (show rightG c.keep → ∀ W, Below w.heap.size w W → Calls Tryz.prog 45 #[.slice A n d] W fun e w' => ∃ a : Int, e = .returned (.tuple #[.int .i64 0, .int .i64 a]) ∧ Below W.heap.size W w' from fun hg W hW => (RefRight17_any c.keep A n d W h9 (hs.keep hW)).mono fun e w' h => by
    obtain ⟨cc, a, h1, h2, h3⟩ := h
    obtain rfl := h2.2 hg
    exact ⟨a, h1, h3⟩)
  have HPrF := Lib.hid (show ¬ rightG c.keep → ∀ W, Below w.heap.size w W → Calls Tryz.prog 45 #[.slice A n d] W fun e w' => ∃ cc a : Int, e = .returned (.tuple #[.int .i64 cc, .int .i64 a]) ∧ ¬ cc = 0 ∧ Below W.heap.size W w' from fun hg W hW => (RefRight17_any c.keep A n d W h9 (hs.keep hW)).mono fun e w' h => by
    obtain ⟨cc, a, h1, h2, h3⟩ := h
    exact ⟨cc, a, h1, fun e => hg (h2.1 e), h3⟩)
  have k0 := HKc.out.cell 0
  have k1 := HKc.out.cell 1
  have k2 := HKc.out.cell 2
  have k3 := HKc.out.cell 3
  have k4 := HKc.out.cell 4
  have k5 := HKc.out.cell 5
  simp at k0 k1 k2 k3 k4 k5
  have e3 : (c.kind == 3) = true := by simp [h3]
  have HN0 := Lib.hid hn
  have H3 := Lib.hid h3
  have H90 := Lib.hid h9
  clear hs hn h3 h9
  go_enter Tryz.func15, Tryz.ntmps15
  by_cases hG : rightG c.keep
  · have HPr := Lib.hid (HPrT.out hG)
    have QG := Lib.hid hG
    clear hG
    by_cases hL : n ≤ 15
    · have hL9 : ¬ (15 : Int) < (n : Int) := by omega
      have QL := Lib.hid hL
      clear hL
      by_cases hNm : 1 ≤ c.kind ∧ c.kind ≤ 3
      · have HNm := Lib.hid (fun W => In_t c.kind 3 hNm W)
        have QNm := Lib.hid hNm
        clear hNm
        by_cases hZ : 1 ≤ c.size ∧ c.size ≤ 8
        · have HZ := Lib.hid (fun W => In_t c.size 8 hZ W)
          have QZ := Lib.hid hZ
          clear hZ
          by_cases hW : 1 ≤ c.wk ∧ c.wk ≤ 64
          · have HW := Lib.hid (fun W => In_t c.wk 64 hW W)
            have QW := Lib.hid hW
            clear hW
            by_cases hC : 1 ≤ c.cap ∧ c.cap ≤ 1000000
            · have HC := Lib.hid (fun W => In_t c.cap 1000000 hC W)
              have QC := Lib.hid hC
              clear hC
              by_cases hS : 1 ≤ c.sup ∧ c.sup ≤ 1000000
              · have HS := Lib.hid (fun W => In_t c.sup 1000000 hS W)
                have QS := Lib.hid hS
                clear hS
                have HYes := Lib.hid (show Cf.rightC c from ⟨QG.out, by rw [HN0.out]; exact QL.out, QNm.out, QZ.out, QW.out, QC.out, by rw [if_pos H3.out]; exact QS.out⟩)
                go_wp2_with (first | (go_at_call 45; refine (HPr.out _ HBc.out).mono ?_; clear HPr; rintro e w1 ⟨aa, rfl, hb1⟩; replace HBc := Lib.hid (HBc.out.andThen hb1); replace HKc := Lib.hid (HKc.out.keep hb1); have k0 := HKc.out.cell 0; have k1 := HKc.out.cell 1; have k2 := HKc.out.cell 2; have k3 := HKc.out.cell 3; have k4 := HKc.out.cell 4; have k5 := HKc.out.cell 5; simp at k0 k1 k2 k3 k4 k5; clear hb1) | (go_at_call 46; refine (HNm.out _).mono ?_; clear HNm; rintro e w1 ⟨rfl, rfl⟩) | (go_at_call 46; refine (HZ.out _).mono ?_; clear HZ; rintro e w1 ⟨rfl, rfl⟩) | (go_at_call 46; refine (HW.out _).mono ?_; clear HW; rintro e w1 ⟨rfl, rfl⟩) | (go_at_call 46; refine (HC.out _).mono ?_; clear HC; rintro e w1 ⟨rfl, rfl⟩) | (go_at_call 46; refine (HS.out _).mono ?_; clear HS; rintro e w1 ⟨rfl, rfl⟩))
                go_ret
                exact ⟨ret_bool (decide_eq_true HYes.out).symm, HBc.out⟩
              · have HS := Lib.hid (fun W => In_f c.sup 1000000 hS W)
                have HNo := Lib.hid (show ¬ Cf.rightC c from fun h => by unfold Cf.rightC at h; have h9 := h.2.2.2.2.2.2; rw [if_pos H3.out] at h9; exact hS h9)
                clear hS
                go_wp2_with (first | (go_at_call 45; refine (HPr.out _ HBc.out).mono ?_; clear HPr; rintro e w1 ⟨aa, rfl, hb1⟩; replace HBc := Lib.hid (HBc.out.andThen hb1); replace HKc := Lib.hid (HKc.out.keep hb1); have k0 := HKc.out.cell 0; have k1 := HKc.out.cell 1; have k2 := HKc.out.cell 2; have k3 := HKc.out.cell 3; have k4 := HKc.out.cell 4; have k5 := HKc.out.cell 5; simp at k0 k1 k2 k3 k4 k5; clear hb1) | (go_at_call 46; refine (HNm.out _).mono ?_; clear HNm; rintro e w1 ⟨rfl, rfl⟩) | (go_at_call 46; refine (HZ.out _).mono ?_; clear HZ; rintro e w1 ⟨rfl, rfl⟩) | (go_at_call 46; refine (HW.out _).mono ?_; clear HW; rintro e w1 ⟨rfl, rfl⟩) | (go_at_call 46; refine (HC.out _).mono ?_; clear HC; rintro e w1 ⟨rfl, rfl⟩) | (go_at_call 46; refine (HS.out _).mono ?_; clear HS; rintro e w1 ⟨rfl, rfl⟩) | fail)
                go_ret
                exact ⟨ret_bool (decide_eq_false HNo.out).symm, HBc.out⟩
            · have HC := Lib.hid (fun W => In_f c.cap 1000000 hC W)
              have HNo := Lib.hid (show ¬ Cf.rightC c from fun h => by unfold Cf.rightC at h; exact hC h.2.2.2.2.2.1)
              clear hC
              go_wp2_with (first | (go_at_call 45; refine (HPr.out _ HBc.out).mono ?_; clear HPr; rintro e w1 ⟨aa, rfl, hb1⟩; replace HBc := Lib.hid (HBc.out.andThen hb1); replace HKc := Lib.hid (HKc.out.keep hb1); have k0 := HKc.out.cell 0; have k1 := HKc.out.cell 1; have k2 := HKc.out.cell 2; have k3 := HKc.out.cell 3; have k4 := HKc.out.cell 4; have k5 := HKc.out.cell 5; simp at k0 k1 k2 k3 k4 k5; clear hb1) | (go_at_call 46; refine (HNm.out _).mono ?_; clear HNm; rintro e w1 ⟨rfl, rfl⟩) | (go_at_call 46; refine (HZ.out _).mono ?_; clear HZ; rintro e w1 ⟨rfl, rfl⟩) | (go_at_call 46; refine (HW.out _).mono ?_; clear HW; rintro e w1 ⟨rfl, rfl⟩) | (go_at_call 46; refine (HC.out _).mono ?_; clear HC; rintro e w1 ⟨rfl, rfl⟩) | fail)
              go_ret
              exact ⟨ret_bool (decide_eq_false HNo.out).symm, HBc.out⟩
          · have HW := Lib.hid (fun W => In_f c.wk 64 hW W)
            have HNo := Lib.hid (show ¬ Cf.rightC c from fun h => by unfold Cf.rightC at h; exact hW h.2.2.2.2.1)
            clear hW
            go_wp2_with (first | (go_at_call 45; refine (HPr.out _ HBc.out).mono ?_; clear HPr; rintro e w1 ⟨aa, rfl, hb1⟩; replace HBc := Lib.hid (HBc.out.andThen hb1); replace HKc := Lib.hid (HKc.out.keep hb1); have k0 := HKc.out.cell 0; have k1 := HKc.out.cell 1; have k2 := HKc.out.cell 2; have k3 := HKc.out.cell 3; have k4 := HKc.out.cell 4; have k5 := HKc.out.cell 5; simp at k0 k1 k2 k3 k4 k5; clear hb1) | (go_at_call 46; refine (HNm.out _).mono ?_; clear HNm; rintro e w1 ⟨rfl, rfl⟩) | (go_at_call 46; refine (HZ.out _).mono ?_; clear HZ; rintro e w1 ⟨rfl, rfl⟩) | (go_at_call 46; refine (HW.out _).mono ?_; clear HW; rintro e w1 ⟨rfl, rfl⟩) | fail)
            go_ret
            exact ⟨ret_bool (decide_eq_false HNo.out).symm, HBc.out⟩
        · have HZ := Lib.hid (fun W => In_f c.size 8 hZ W)
          have HNo := Lib.hid (show ¬ Cf.rightC c from fun h => by unfold Cf.rightC at h; exact hZ h.2.2.2.1)
          clear hZ
          go_wp2_with (first | (go_at_call 45; refine (HPr.out _ HBc.out).mono ?_; clear HPr; rintro e w1 ⟨aa, rfl, hb1⟩; replace HBc := Lib.hid (HBc.out.andThen hb1); replace HKc := Lib.hid (HKc.out.keep hb1); have k0 := HKc.out.cell 0; have k1 := HKc.out.cell 1; have k2 := HKc.out.cell 2; have k3 := HKc.out.cell 3; have k4 := HKc.out.cell 4; have k5 := HKc.out.cell 5; simp at k0 k1 k2 k3 k4 k5; clear hb1) | (go_at_call 46; refine (HNm.out _).mono ?_; clear HNm; rintro e w1 ⟨rfl, rfl⟩) | (go_at_call 46; refine (HZ.out _).mono ?_; clear HZ; rintro e w1 ⟨rfl, rfl⟩) | fail)
          go_ret
          exact ⟨ret_bool (decide_eq_false HNo.out).symm, HBc.out⟩
      · have HNm := Lib.hid (fun W => In_f c.kind 3 hNm W)
        have HNo := Lib.hid (show ¬ Cf.rightC c from fun h => by unfold Cf.rightC at h; exact hNm h.2.2.1)
        clear hNm
        go_wp2_with (first | (go_at_call 45; refine (HPr.out _ HBc.out).mono ?_; clear HPr; rintro e w1 ⟨aa, rfl, hb1⟩; replace HBc := Lib.hid (HBc.out.andThen hb1); replace HKc := Lib.hid (HKc.out.keep hb1); have k0 := HKc.out.cell 0; have k1 := HKc.out.cell 1; have k2 := HKc.out.cell 2; have k3 := HKc.out.cell 3; have k4 := HKc.out.cell 4; have k5 := HKc.out.cell 5; simp at k0 k1 k2 k3 k4 k5; clear hb1) | (go_at_call 46; refine (HNm.out _).mono ?_; clear HNm; rintro e w1 ⟨rfl, rfl⟩) | fail)
        go_ret
        exact ⟨ret_bool (decide_eq_false HNo.out).symm, HBc.out⟩
    · have hL9 : (15 : Int) < (n : Int) := by omega
      have HNo := Lib.hid (show ¬ Cf.rightC c from fun h => by unfold Cf.rightC at h; exact hL (by rw [← HN0.out]; exact h.2.1))
      clear hL
      go_wp2_with (first | (go_at_call 45; refine (HPr.out _ HBc.out).mono ?_; clear HPr; rintro e w1 ⟨aa, rfl, hb1⟩; replace HBc := Lib.hid (HBc.out.andThen hb1); replace HKc := Lib.hid (HKc.out.keep hb1); have k0 := HKc.out.cell 0; have k1 := HKc.out.cell 1; have k2 := HKc.out.cell 2; have k3 := HKc.out.cell 3; have k4 := HKc.out.cell 4; have k5 := HKc.out.cell 5; simp at k0 k1 k2 k3 k4 k5; clear hb1) | fail)
      go_ret
      exact ⟨ret_bool (decide_eq_false HNo.out).symm, HBc.out⟩
  · have HPr := Lib.hid (HPrF.out hG)
    have HNo := Lib.hid (show ¬ Cf.rightC c from fun h => by unfold Cf.rightC at h; exact hG h.1)
    clear hG
    go_wp2_with (first | (go_at_call 45; refine (HPr.out _ HBc.out).mono ?_; clear HPr; rintro e w1 ⟨cc, aa, rfl, hcc, hb1⟩; have hcc2 : (cc == 0) = false := (by simpa using hcc); have hcc3 : (cc != 0) = true := (by simpa using hcc); replace HBc := Lib.hid (HBc.out.andThen hb1); replace HKc := Lib.hid (HKc.out.keep hb1); have k0 := HKc.out.cell 0; have k1 := HKc.out.cell 1; have k2 := HKc.out.cell 2; have k3 := HKc.out.cell 3; have k4 := HKc.out.cell 4; have k5 := HKc.out.cell 5; simp at k0 k1 k2 k3 k4 k5; clear hb1) | fail)
    go_ret
    exact ⟨ret_bool (decide_eq_false HNo.out).symm, HBc.out⟩
set_option maxHeartbeats 600000 in
theorem RefRight22_other (c : Cf.CF) (A : Option Addr) (n d : Nat) (w : World) (h3 : ¬ c.kind = 3) (hn : c.keep.length = n) (h9 : n ≤ 1000000) (hs : Sl w 2 A n (Rk.cells c.keep)) :
    Calls Tryz.prog 15 #[confV c A n d] w fun e w' => e = .returned (.bool (decide (Cf.rightC c))) ∧ Below w.heap.size w w' := by
  have HBc := Lib.hid (bel_al (Below.refl w.heap.size w) (.cells #[.int .i64 c.kind, .int .i64 c.size, .int .i64 c.sup, .int .i64 c.wk, .int .i64 c.cap, .slice A n d] 46))
  have HKc := Lib.hid (Blk.new w 46 #[.int .i64 c.kind, .int .i64 c.size, .int .i64 c.sup, .int .i64 c.wk, .int .i64 c.cap, .slice A n d])
  have HPrT := Lib.hid (show rightG c.keep → ∀ W, Below w.heap.size w W → Calls Tryz.prog 45 #[.slice A n d] W fun e w' => ∃ a : Int, e = .returned (.tuple #[.int .i64 0, .int .i64 a]) ∧ Below W.heap.size W w' from fun hg W hW => (RefRight17_any c.keep A n d W h9 (hs.keep hW)).mono fun e w' h => by
    obtain ⟨cc, a, h1, h2, h3⟩ := h
    obtain rfl := h2.2 hg
    exact ⟨a, h1, h3⟩)
  have HPrF := Lib.hid (show ¬ rightG c.keep → ∀ W, Below w.heap.size w W → Calls Tryz.prog 45 #[.slice A n d] W fun e w' => ∃ cc a : Int, e = .returned (.tuple #[.int .i64 cc, .int .i64 a]) ∧ ¬ cc = 0 ∧ Below W.heap.size W w' from fun hg W hW => (RefRight17_any c.keep A n d W h9 (hs.keep hW)).mono fun e w' h => by
    obtain ⟨cc, a, h1, h2, h3⟩ := h
    exact ⟨cc, a, h1, fun e => hg (h2.1 e), h3⟩)
  have k0 := HKc.out.cell 0
  have k1 := HKc.out.cell 1
  have k2 := HKc.out.cell 2
  have k3 := HKc.out.cell 3
  have k4 := HKc.out.cell 4
  have k5 := HKc.out.cell 5
  simp at k0 k1 k2 k3 k4 k5
  have e3 : (c.kind == 3) = false := by simp [h3]
  have HN0 := Lib.hid hn
  have H3 := Lib.hid h3
  have H90 := Lib.hid h9
  clear hs hn h3 h9
  go_enter Tryz.func15, Tryz.ntmps15
  by_cases hG : rightG c.keep
  · have HPr := Lib.hid (HPrT.out hG)
    have QG := Lib.hid hG
    clear hG
    by_cases hL : n ≤ 15
    · have hL9 : ¬ (15 : Int) < (n : Int) := by omega
      have QL := Lib.hid hL
      clear hL
      by_cases hNm : 1 ≤ c.kind ∧ c.kind ≤ 3
      · have HNm := Lib.hid (fun W => In_t c.kind 3 hNm W)
        have QNm := Lib.hid hNm
        clear hNm
        by_cases hZ : 1 ≤ c.size ∧ c.size ≤ 8
        · have HZ := Lib.hid (fun W => In_t c.size 8 hZ W)
          have QZ := Lib.hid hZ
          clear hZ
          by_cases hW : 1 ≤ c.wk ∧ c.wk ≤ 64
          · have HW := Lib.hid (fun W => In_t c.wk 64 hW W)
            have QW := Lib.hid hW
            clear hW
            by_cases hC : 1 ≤ c.cap ∧ c.cap ≤ 1000000
            · have HC := Lib.hid (fun W => In_t c.cap 1000000 hC W)
              have QC := Lib.hid hC
              clear hC
              by_cases hS : c.sup = 0
              · have hS9 : (c.sup == 0) = true := by simp [hS]
                have QS := Lib.hid hS
                clear hS
                have HYes := Lib.hid (show Cf.rightC c from ⟨QG.out, by rw [HN0.out]; exact QL.out, QNm.out, QZ.out, QW.out, QC.out, by rw [if_neg H3.out]; exact QS.out⟩)
                go_wp2_with (first | (go_at_call 45; refine (HPr.out _ HBc.out).mono ?_; clear HPr; rintro e w1 ⟨aa, rfl, hb1⟩; replace HBc := Lib.hid (HBc.out.andThen hb1); replace HKc := Lib.hid (HKc.out.keep hb1); have k0 := HKc.out.cell 0; have k1 := HKc.out.cell 1; have k2 := HKc.out.cell 2; have k3 := HKc.out.cell 3; have k4 := HKc.out.cell 4; have k5 := HKc.out.cell 5; simp at k0 k1 k2 k3 k4 k5; clear hb1) | (go_at_call 46; refine (HNm.out _).mono ?_; clear HNm; rintro e w1 ⟨rfl, rfl⟩) | (go_at_call 46; refine (HZ.out _).mono ?_; clear HZ; rintro e w1 ⟨rfl, rfl⟩) | (go_at_call 46; refine (HW.out _).mono ?_; clear HW; rintro e w1 ⟨rfl, rfl⟩) | (go_at_call 46; refine (HC.out _).mono ?_; clear HC; rintro e w1 ⟨rfl, rfl⟩))
                go_ret
                exact ⟨ret_bool (decide_eq_true HYes.out).symm, HBc.out⟩
              · have hS9 : (c.sup == 0) = false := by simp [hS]
                have HNo := Lib.hid (show ¬ Cf.rightC c from fun h => by unfold Cf.rightC at h; have h9 := h.2.2.2.2.2.2; rw [if_neg H3.out] at h9; exact hS h9)
                clear hS
                go_wp2_with (first | (go_at_call 45; refine (HPr.out _ HBc.out).mono ?_; clear HPr; rintro e w1 ⟨aa, rfl, hb1⟩; replace HBc := Lib.hid (HBc.out.andThen hb1); replace HKc := Lib.hid (HKc.out.keep hb1); have k0 := HKc.out.cell 0; have k1 := HKc.out.cell 1; have k2 := HKc.out.cell 2; have k3 := HKc.out.cell 3; have k4 := HKc.out.cell 4; have k5 := HKc.out.cell 5; simp at k0 k1 k2 k3 k4 k5; clear hb1) | (go_at_call 46; refine (HNm.out _).mono ?_; clear HNm; rintro e w1 ⟨rfl, rfl⟩) | (go_at_call 46; refine (HZ.out _).mono ?_; clear HZ; rintro e w1 ⟨rfl, rfl⟩) | (go_at_call 46; refine (HW.out _).mono ?_; clear HW; rintro e w1 ⟨rfl, rfl⟩) | (go_at_call 46; refine (HC.out _).mono ?_; clear HC; rintro e w1 ⟨rfl, rfl⟩) | fail)
                go_ret
                exact ⟨ret_bool (decide_eq_false HNo.out).symm, HBc.out⟩
            · have HC := Lib.hid (fun W => In_f c.cap 1000000 hC W)
              have HNo := Lib.hid (show ¬ Cf.rightC c from fun h => by unfold Cf.rightC at h; exact hC h.2.2.2.2.2.1)
              clear hC
              go_wp2_with (first | (go_at_call 45; refine (HPr.out _ HBc.out).mono ?_; clear HPr; rintro e w1 ⟨aa, rfl, hb1⟩; replace HBc := Lib.hid (HBc.out.andThen hb1); replace HKc := Lib.hid (HKc.out.keep hb1); have k0 := HKc.out.cell 0; have k1 := HKc.out.cell 1; have k2 := HKc.out.cell 2; have k3 := HKc.out.cell 3; have k4 := HKc.out.cell 4; have k5 := HKc.out.cell 5; simp at k0 k1 k2 k3 k4 k5; clear hb1) | (go_at_call 46; refine (HNm.out _).mono ?_; clear HNm; rintro e w1 ⟨rfl, rfl⟩) | (go_at_call 46; refine (HZ.out _).mono ?_; clear HZ; rintro e w1 ⟨rfl, rfl⟩) | (go_at_call 46; refine (HW.out _).mono ?_; clear HW; rintro e w1 ⟨rfl, rfl⟩) | (go_at_call 46; refine (HC.out _).mono ?_; clear HC; rintro e w1 ⟨rfl, rfl⟩) | fail)
              go_ret
              exact ⟨ret_bool (decide_eq_false HNo.out).symm, HBc.out⟩
          · have HW := Lib.hid (fun W => In_f c.wk 64 hW W)
            have HNo := Lib.hid (show ¬ Cf.rightC c from fun h => by unfold Cf.rightC at h; exact hW h.2.2.2.2.1)
            clear hW
            go_wp2_with (first | (go_at_call 45; refine (HPr.out _ HBc.out).mono ?_; clear HPr; rintro e w1 ⟨aa, rfl, hb1⟩; replace HBc := Lib.hid (HBc.out.andThen hb1); replace HKc := Lib.hid (HKc.out.keep hb1); have k0 := HKc.out.cell 0; have k1 := HKc.out.cell 1; have k2 := HKc.out.cell 2; have k3 := HKc.out.cell 3; have k4 := HKc.out.cell 4; have k5 := HKc.out.cell 5; simp at k0 k1 k2 k3 k4 k5; clear hb1) | (go_at_call 46; refine (HNm.out _).mono ?_; clear HNm; rintro e w1 ⟨rfl, rfl⟩) | (go_at_call 46; refine (HZ.out _).mono ?_; clear HZ; rintro e w1 ⟨rfl, rfl⟩) | (go_at_call 46; refine (HW.out _).mono ?_; clear HW; rintro e w1 ⟨rfl, rfl⟩) | fail)
            go_ret
            exact ⟨ret_bool (decide_eq_false HNo.out).symm, HBc.out⟩
        · have HZ := Lib.hid (fun W => In_f c.size 8 hZ W)
          have HNo := Lib.hid (show ¬ Cf.rightC c from fun h => by unfold Cf.rightC at h; exact hZ h.2.2.2.1)
          clear hZ
          go_wp2_with (first | (go_at_call 45; refine (HPr.out _ HBc.out).mono ?_; clear HPr; rintro e w1 ⟨aa, rfl, hb1⟩; replace HBc := Lib.hid (HBc.out.andThen hb1); replace HKc := Lib.hid (HKc.out.keep hb1); have k0 := HKc.out.cell 0; have k1 := HKc.out.cell 1; have k2 := HKc.out.cell 2; have k3 := HKc.out.cell 3; have k4 := HKc.out.cell 4; have k5 := HKc.out.cell 5; simp at k0 k1 k2 k3 k4 k5; clear hb1) | (go_at_call 46; refine (HNm.out _).mono ?_; clear HNm; rintro e w1 ⟨rfl, rfl⟩) | (go_at_call 46; refine (HZ.out _).mono ?_; clear HZ; rintro e w1 ⟨rfl, rfl⟩) | fail)
          go_ret
          exact ⟨ret_bool (decide_eq_false HNo.out).symm, HBc.out⟩
      · have HNm := Lib.hid (fun W => In_f c.kind 3 hNm W)
        have HNo := Lib.hid (show ¬ Cf.rightC c from fun h => by unfold Cf.rightC at h; exact hNm h.2.2.1)
        clear hNm
        go_wp2_with (first | (go_at_call 45; refine (HPr.out _ HBc.out).mono ?_; clear HPr; rintro e w1 ⟨aa, rfl, hb1⟩; replace HBc := Lib.hid (HBc.out.andThen hb1); replace HKc := Lib.hid (HKc.out.keep hb1); have k0 := HKc.out.cell 0; have k1 := HKc.out.cell 1; have k2 := HKc.out.cell 2; have k3 := HKc.out.cell 3; have k4 := HKc.out.cell 4; have k5 := HKc.out.cell 5; simp at k0 k1 k2 k3 k4 k5; clear hb1) | (go_at_call 46; refine (HNm.out _).mono ?_; clear HNm; rintro e w1 ⟨rfl, rfl⟩) | fail)
        go_ret
        exact ⟨ret_bool (decide_eq_false HNo.out).symm, HBc.out⟩
    · have hL9 : (15 : Int) < (n : Int) := by omega
      have HNo := Lib.hid (show ¬ Cf.rightC c from fun h => by unfold Cf.rightC at h; exact hL (by rw [← HN0.out]; exact h.2.1))
      clear hL
      go_wp2_with (first | (go_at_call 45; refine (HPr.out _ HBc.out).mono ?_; clear HPr; rintro e w1 ⟨aa, rfl, hb1⟩; replace HBc := Lib.hid (HBc.out.andThen hb1); replace HKc := Lib.hid (HKc.out.keep hb1); have k0 := HKc.out.cell 0; have k1 := HKc.out.cell 1; have k2 := HKc.out.cell 2; have k3 := HKc.out.cell 3; have k4 := HKc.out.cell 4; have k5 := HKc.out.cell 5; simp at k0 k1 k2 k3 k4 k5; clear hb1) | fail)
      go_ret
      exact ⟨ret_bool (decide_eq_false HNo.out).symm, HBc.out⟩
  · have HPr := Lib.hid (HPrF.out hG)
    have HNo := Lib.hid (show ¬ Cf.rightC c from fun h => by unfold Cf.rightC at h; exact hG h.1)
    clear hG
    go_wp2_with (first | (go_at_call 45; refine (HPr.out _ HBc.out).mono ?_; clear HPr; rintro e w1 ⟨cc, aa, rfl, hcc, hb1⟩; have hcc2 : (cc == 0) = false := (by simpa using hcc); have hcc3 : (cc != 0) = true := (by simpa using hcc); replace HBc := Lib.hid (HBc.out.andThen hb1); replace HKc := Lib.hid (HKc.out.keep hb1); have k0 := HKc.out.cell 0; have k1 := HKc.out.cell 1; have k2 := HKc.out.cell 2; have k3 := HKc.out.cell 3; have k4 := HKc.out.cell 4; have k5 := HKc.out.cell 5; simp at k0 k1 k2 k3 k4 k5; clear hb1) | fail)
    go_ret
    exact ⟨ret_bool (decide_eq_false HNo.out).symm, HBc.out⟩
theorem RefRight22_any (c : Cf.CF) (A : Option Addr) (n d : Nat) (w : World) (hn : c.keep.length = n) (h9 : n ≤ 1000000) (hs : Sl w 2 A n (Rk.cells c.keep)) :
    Calls Tryz.prog 15 #[confV c A n d] w fun e w' => e = .returned (.bool (decide (Cf.rightC c))) ∧ Below w.heap.size w w' := by
  by_cases h3 : c.kind = 3
  · exact RefRight22_three c A n d w h3 hn h9 hs
  · exact RefRight22_other c A n d w h3 hn h9 hs
set_option maxHeartbeats 1000000 in
theorem Of22_any (c : Cf.CF) (A : Option Addr) (n d : Nat) (w : World) (hn : n ≤ 100000) (hs : Sl w 2 A n (Rk.cells c.keep)) :
    Calls Tryz.prog 16 #[confV c A n d] w fun e w' => ∃ (D : Option Addr) (k : Nat), e = .returned (confV c D n k) ∧ Sl w' 2 D n (Rk.cells c.keep) ∧ Below w.heap.size w w' := by
  obtain ⟨kd, sz, sp, wk, cp, kp⟩ := c
  simp only at hs ⊢
  have hb0 := bel_al (bel_al (Below.refl w.heap.size w) (.cells #[.int .i64 kd, .int .i64 sz, .int .i64 sp, .int .i64 wk, .int .i64 cp, .slice A n d] 46)) (.cells #[.int .i64 0, .int .i64 0, .int .i64 0, .int .i64 0, .int .i64 0, .slice none 0 0] 49)
  have HB0 := Lib.hid hb0
  have HC := Lib.hid (fun (W : World) (hW : Below w.heap.size w W) => Of17_any kp A n d W hn (hs.keep hW))
  have HK1 := Lib.hid ((Blk.new w 46 #[.int .i64 kd, .int .i64 sz, .int .i64 sp, .int .i64 wk, .int .i64 cp, .slice A n d]).alloc (.cells #[.int .i64 0, .int .i64 0, .int .i64 0, .int .i64 0, .int .i64 0, .slice none 0 0] 49))
  have HK2 := Lib.hid (Blk.new (w.alloc (.cells #[.int .i64 kd, .int .i64 sz, .int .i64 sp, .int .i64 wk, .int .i64 cp, .slice A n d] 46)) 49 #[.int .i64 0, .int .i64 0, .int .i64 0, .int .i64 0, .int .i64 0, .slice none 0 0])
  rw [World.size_alloc] at HK2
  clear hb0 hs
  go_enter Tryz.func16, Tryz.ntmps16
  go_wp2_with fail
  go_region_held3 (fun w' => w'.cell? ⟨w.heap.size, 0, none⟩ = some (.int .i64 kd) ∧ w'.cell? ⟨w.heap.size, 1, none⟩ = some (.int .i64 sz) ∧ w'.cell? ⟨w.heap.size, 2, none⟩ = some (.int .i64 sp) ∧ w'.cell? ⟨w.heap.size, 3, none⟩ = some (.int .i64 wk) ∧ w'.cell? ⟨w.heap.size, 4, none⟩ = some (.int .i64 cp) ∧ w'.cell? ⟨w.heap.size, 5, none⟩ = some (.slice A n d)) (go_keep)
    ((go_at_call 8; refine (HC.out _ (bel_drewN HB0.out 1)).mono ?_; rintro e w3 ⟨D, k, rfl, hown, hb3⟩; have k1 := HK1.out.drew.keep hb3; have k2 := HK2.out.drew.keep hb3; have k10 := k1.cell 0; have k11 := k1.cell 1; have k12 := k1.cell 2; have k13 := k1.cell 3; have k14 := k1.cell 4; have k15 := k1.cell 5; have k20 := k2.cell 0; have k21 := k2.cell 1; have k22 := k2.cell 2; have k23 := k2.cell 3; have k24 := k2.cell 4; have k25 := k2.cell 5; have f20 := k2.frozen 0; have f21 := k2.frozen 1; have f22 := k2.frozen 2; have f23 := k2.frozen 3; have f24 := k2.frozen 4; have f25 := k2.frozen 5; have HOw := Lib.hid hown; have HB3 := Lib.hid ((bel_drewN HB0.out 1).andThen hb3); have HKx := Lib.hid k2; simp at k10 k11 k12 k13 k14 k15 k20 k21 k22 k23 k24 k25; clear hown hb3 k1 k2))
  all_goals (
    have x0 := six_blk HKx.out kd sz sp wk cp (.slice D n k)
    have x00 := x0.cell 0
    have x01 := x0.cell 1
    have x02 := x0.cell 2
    have x03 := x0.cell 3
    have x04 := x0.cell 4
    have x05 := x0.cell 5
    simp at x00 x01 x02 x03 x04 x05
    have HSx := Lib.hid (show Sl (six w3 (w.heap.size + 1) kd sz sp wk cp (.slice D n k)) 2 D n (Rk.cells kp) from Sl.of_own (own_block HOw.out fun g hg => (six_asd (w.heap.size + 1) kd sz sp wk cp (.slice D n k)).2 g (fun e => by have h1 := (HOw.out.lt g hg).1; simp at h1; omega) (HOw.out.lt g hg).2))
    have HBf := Lib.hid (six_below HB3.out (show w.heap.size ≤ w.heap.size + 1 by omega) kd sz sp wk cp (.slice D n k))
    go_wp2_with fail
    refine bodyPost_ret (v := .agg #[.int .i64 kd, .int .i64 sz, .int .i64 sp, .int .i64 wk, .int .i64 cp, .slice D n k]) (by simp [results, Tryz.results16, go_sem, x00, x01, x02, x03, x04, x05]) rfl ?_
    exact ⟨D, k, rfl, HSx.out, HBf.out⟩)
end Go.Proofs.YtapledphhfiimaaGreatDoor
/-
  Jobs' texts plainly: the example, what stands ahead of a line, lines more that can't be, the parts of a text.
-/
namespace Go.Proofs.YtapledphhfiimaaGreatDoor.Cf
open Go Go.Proofs.YtapledphhfiimaaGreatDoor.Tx Go.Proofs.YtapledphhfiimaaGreatDoor.Pg
set_option linter.unusedVariables false

theorem three_itoa : ([51] : List UInt8) = Lib.itoa 3 := by
  rw [show (3 : Int) = ((3 : Nat) : Int) from rfl, itoa_nat, Lib.decDigits_one (by omega)]
  rfl
/-- The chapter's example. -/
def exT : List UInt8 := [106, 111, 98, 32, 109, 111, 116, 105, 102, 115, 10, 115, 105, 122, 101, 32, 51, 10]
def exB : List UInt8 := [115, 105, 122, 101, 32, 51, 10, 106, 111, 98, 32, 109, 111, 116, 105, 102, 115, 10]
theorem ex_ok : parseC exT = .ok ⟨1, 3, 0, 1, 1000000, []⟩ := by
  have e : exT = tellL [lineW wJob (jobL 1), lineW wSize [51]] := by decide
  unfold parseC
  rw [e, tell_nil _ (by decide), three_itoa]
  simp only [List.cons_append, List.nil_append]
  rw [goC_line (by simp) (by decide) (by decide) (by decide) (set_job (k := 1) (by omega) (by omega))]
  rw [goC_line (by simp) (by decide) (by decide) (by decide) (set_size (v := 3) (by omega) (by omega))]
  rw [goC, if_pos rfl]
  unfold endC
  rw [if_neg (by decide)]
  rfl
theorem ex_bad : parseC exB = .bad 0 wSize := by
  have e : exB = tellL [lineW wSize [51], lineW wJob (jobL 1)] := by decide
  unfold parseC
  rw [e, tell_nil _ (by decide)]
  simp only [List.cons_append, List.nil_append]
  rw [goC_fail (by simp) (by
    unfold lineC lineW
    rw [cut1_app _ (by decide), if_pos (.inr (.inr (by decide)))])]
  rw [word_of (by decide)]

theorem split1_mid (c : UInt8) : ∀ (a b : List UInt8), split1 c (a ++ c :: b) = split1 c a ++ split1 c b
  | [], b => by
    show split1 c (c :: b) = [[]] ++ split1 c b
    conv => lhs; rw [split1, if_pos rfl]
    rfl
  | x :: a, b => by
    have ih := split1_mid c a b
    rw [List.cons_append, split1, split1]
    by_cases h : x = c
    · rw [if_pos h, if_pos h, ih, List.cons_append]
    · rw [if_neg h, if_neg h, ih]
      cases hs : split1 c a with
      | nil => exact absurd hs (split1_ne c a)
      | cons y r => rfl
/-- A fault stands at a line that there is, or behind the last one. -/
theorem bad_le {s : List UInt8} {m : Nat} {w : List UInt8} (h : parseC s = .bad m w) : m ≤ s.count 10 := by
  have := (goC_bad _ (split1_ne 10 s) h).2.1
  rw [split_len] at this
  omega
/-- What stands ahead of that line has no fault but that it may end too soon. -/
theorem ahead {s : List UInt8} {m k : Nat} {w : List UInt8} (h : parseC s = .bad m w) (hk : k ≤ s.length) (hc : (s.take k).count 10 = m) (he : k = 0 ∨ s[k - 1]? = some 10) :
    (∃ d, parseC (s.take k) = .ok d) ∨ ∃ w', parseC (s.take k) = .bad m w' := by
  have h3 := (goC_bad _ (split1_ne 10 s) h).2.2
  rw [Nat.sub_zero] at h3
  have e : (split1 10 s).take m ++ [[]] = split1 10 (s.take k) := by
    rcases Nat.eq_zero_or_pos k with rfl | h0
    · rw [List.take_zero] at hc ⊢
      rw [← hc]
      rfl
    · have he' : s[k - 1]? = some 10 := by
        rcases he with rfl | he
        · omega
        · exact he
      obtain ⟨h4, h5⟩ := List.getElem?_eq_some_iff.1 he'
      have e1 : s.take k = s.take (k - 1) ++ [10] := by
        have := List.take_succ_eq_append_getElem h4
        rw [h5, show k - 1 + 1 = k from by omega] at this
        exact this
      have e2 : s = s.take (k - 1) ++ 10 :: s.drop k := by
        have := (List.take_append_drop k s).symm
        rw [e1, List.append_assoc] at this
        exact this
      rw [e1, List.count_append] at hc
      have h6 : (split1 10 (s.take (k - 1))).length = m := by
        rw [split_len, ← hc]
        rfl
      have e3 : split1 10 s = split1 10 (s.take (k - 1)) ++ split1 10 (s.drop k) := by
        conv => lhs; rw [e2]
        exact split1_mid 10 _ _
      rw [e3, List.take_left' h6, e1]
      have := split1_mid 10 (s.take (k - 1)) []
      rw [this]
      rfl
  rw [e] at h3
  exact h3
/-- The lines of the statement that can't be. -/
def badsL : List (List UInt8) := [[115, 105, 122, 101, 32, 51, 10], [106, 111, 98, 32, 102, 115, 109, 10], [67, 97, 112, 32, 51, 10], [99, 97, 112, 32, 48, 10], [10], [119, 111, 114, 107, 101, 114, 115, 32, 54, 53, 10], [107, 101, 101, 112, 10], [115, 105, 122, 101, 32, 51]]
theorem bads_line {c : CF} (h : rightC c) {i : Nat} {b : List UInt8} (hb : badsL[i]? = some b) : ∃ w, parseC (tellL (linesC c) ++ b) = .bad (linesC c).length w := by
  obtain ⟨m1, m2, m3, m4, _⟩ := words_has c
  have hi : i < 8 := by
    obtain ⟨h1, _⟩ := List.getElem?_eq_some_iff.1 hb
    exact h1
  rcases (show i = 0 ∨ i = 1 ∨ i = 2 ∨ i = 3 ∨ i = 4 ∨ i = 5 ∨ i = 6 ∨ i = 7 by omega) with rfl | rfl | rfl | rfl | rfl | rfl | rfl | rfl
  · cases hb
    exact more_line h _ ⟨lineW wSize [51], [[]], rfl, .inr ⟨by simp, line_seen (by decide) m1⟩⟩
  · cases hb
    exact more_line h _ ⟨lineW wJob [102, 115, 109], [[]], rfl, .inr ⟨by simp, line_seen (by decide) m2⟩⟩
  · cases hb
    exact more_line h _ ⟨lineW [67, 97, 112] [51], [[]], rfl, .inr ⟨by simp, line_other (by decide) (by decide)⟩⟩
  · cases hb
    exact more_line h _ ⟨lineW wCap [48], [[]], rfl, .inr ⟨by simp, line_seen (by decide) m3⟩⟩
  · cases hb
    exact more_line h _ ⟨[], [[]], rfl, .inr ⟨by simp, line_bare (by decide)⟩⟩
  · cases hb
    exact more_line h _ ⟨lineW wWorkers [54, 53], [[]], rfl, .inr ⟨by simp, line_seen (by decide) m4⟩⟩
  · cases hb
    exact more_line h _ ⟨wKeep, [[]], rfl, .inr ⟨by simp, line_bare (by decide)⟩⟩
  · cases hb
    exact more_line h _ ⟨lineW wSize [51], [], rfl, .inl ⟨rfl, by decide⟩⟩
theorem lines_count {c : CF} (h : rightC c) : (tellL (linesC c)).count 10 = (linesC c).length := by
  have := split_len 10 (tellL (linesC c))
  rw [tell_nil _ (lines_no h), List.length_append] at this
  simp only [List.length_cons, List.length_nil] at this
  omega
theorem tell_app (a b : List (List UInt8)) : tellL (a ++ b) = tellL a ++ tellL b := by
  unfold tellL
  rw [List.flatMap_append]
theorem tell_one (a : List UInt8) : tellL [a] = a ++ [10] := by
  unfold tellL
  simp
/-- The lines between the first and the last. -/
def midC (c : CF) : List (List UInt8) := [lineW wSize (Lib.itoa c.size)] ++ (if c.kind = 3 then [lineW wSupport (Lib.itoa c.sup)] else []) ++ (if c.keep = [] then [] else [lineW wKeep (textG c.keep)]) ++ [lineW wWorkers (Lib.itoa c.wk)]
theorem lines_mid (c : CF) : linesC c = [lineW wJob (jobL c.kind)] ++ midC c ++ [lineW wCap (Lib.itoa c.cap)] := by
  unfold linesC midC
  simp
theorem turn_mid (c : CF) : turnC c = [lineW wJob (jobL c.kind)] ++ [lineW wCap (Lib.itoa c.cap)] ++ midC c := by
  unfold turnC midC
  simp
/-- The parts of a text: the first line, the last one, what lies between. -/
theorem parts {c : CF} (h : rightC c) : ∃ A Z M : List UInt8, (10 : UInt8) ∉ A ∧ (10 : UInt8) ∉ Z ∧ tellL (linesC c) = (A ++ [10]) ++ M ++ (Z ++ [10]) ∧ (∃ M', (A ++ [10]) ++ M = M' ++ [10]) ∧
    parseC ((A ++ [10]) ++ (Z ++ [10]) ++ M) = .ok c ∧ ∃ w, parseC (A ++ [10]) = .bad 1 w := by
  refine ⟨lineW wJob (jobL c.kind), lineW wCap (Lib.itoa c.cap), tellL (midC c), ?_, ?_, ?_, ?_, ?_, ?_⟩
  · exact lines_no h _ (by rw [lines_mid]; simp)
  · exact lines_no h _ (by rw [lines_mid]; simp)
  · rw [lines_mid, tell_app, tell_app, tell_one, tell_one]
  · refine ⟨lineW wJob (jobL c.kind) ++ [10] ++ (tellL ([lineW wSize (Lib.itoa c.size)] ++ (if c.kind = 3 then [lineW wSupport (Lib.itoa c.sup)] else []) ++ (if c.keep = [] then [] else [lineW wKeep (textG c.keep)])) ++ lineW wWorkers (Lib.itoa c.wk)), ?_⟩
    unfold midC
    rw [tell_app _ [lineW wWorkers (Lib.itoa c.wk)], tell_one]
    simp only [List.append_assoc]
  · have := parse_turn h
    rw [turn_mid, tell_app, tell_app, tell_one, tell_one] at this
    exact this
  · have := parse_first h
    rw [tell_one] at this
    exact this
end Go.Proofs.YtapledphhfiimaaGreatDoor.Cf
/-
  Chapter 22's statements: alive.
-/
namespace Go.Proofs.YtapledphhfiimaaGreatDoor
open Go.RowKit Go.Proofs.YtapledphhfiimaaGreatDoor.Pg
attribute [local go_sem ↓] Go.wp_at_zero Go.wp_at_succ
set_option maxRecDepth 100000
set_option linter.unusedVariables false

theorem Parse_x22 (w : World) (hT : TabW w) (hL : LibW w) : Calls Tryz.prog 43 #[.string ⟨#[106, 111, 98, 32, 109, 111, 116, 105, 102, 115, 10, 115, 105, 122, 101, 32, 51, 10]⟩] w fun e w' => ∃ (A : Option Addr) (d : Nat), e = .returned (.tuple #[.agg #[.int .i64 1, .int .i64 3, .int .i64 0, .int .i64 1, .int .i64 1000000, .slice A 0 d], .nilIface]) ∧ Below w.heap.size w w' :=
  (CfParse_any Cf.exT w (by decide) hL hT).mono fun e w' h => by
    obtain ⟨hb, ⟨c, A, n, d, hp, he, hn, _⟩ | ⟨k, wd, g, hp, _⟩⟩ := h
    · rw [Cf.ex_ok] at hp
      injection hp with hp
      subst hp
      obtain rfl : n = 0 := hn.symm
      exact ⟨A, d, he, hb⟩
    · rw [Cf.ex_ok] at hp
      cases hp
theorem Parse_y22 (w : World) (hT : TabW w) (hL : LibW w) : Calls Tryz.prog 43 #[.string ⟨#[115, 105, 122, 101, 32, 51, 10, 106, 111, 98, 32, 109, 111, 116, 105, 102, 115, 10]⟩] w fun e w' => ∃ g S, e = .returned (.tuple #[conf0, .iface 111 (.pointer (some ⟨g, 0, none⟩))]) ∧ Blk w' g 114 #[.int .i64 12, .int .i64 0, .string S] ∧ Below w.heap.size w w' :=
  (CfParse_any Cf.exB w (by decide) hL hT).mono fun e w' h => by
    obtain ⟨hb, ⟨c, A, n, d, hp, he, hn, _⟩ | ⟨k, wd, g, hp, he, hv⟩⟩ := h
    · rw [Cf.ex_bad] at hp
      cases hp
    · rw [Cf.ex_bad] at hp
      injection hp with h1 h2
      subst h1
      exact ⟨g, _, he, hv, hb⟩
set_option maxHeartbeats 1000000 in
theorem alive22 (w : World) (hg : ErrT w) (hT : TabW w) (hL : LibW w) : Calls Tryz.prog 14 #[] w fun e w' => e = .returned (.bool true) ∧ Below w.heap.size w w' := by
  have HP1 := Lib.hid (Parse_x22 w hT hL)
  have HP2 := Lib.hid (fun W (hW : Below w.heap.size w W) => Parse_y22 W (hT.keep hW) (hL.keep hW))
  have HG := Lib.hid hg
  clear hg hT hL
  go_enter Tryz.func14, Tryz.ntmps14
  go_upto_region 2 with (go_at_call 43; refine HP1.out.mono ?_; clear HP1; rintro e w1 ⟨A, d, rfl, hb1⟩; have HB1 := Lib.hid hb1; clear hb1)
  obtain ⟨wa, hwa⟩ : ∃ W, W = w1.alloc (.cells #[.int .i64 1, .int .i64 3, .int .i64 0, .int .i64 1, .int .i64 1000000, .slice A 0 d] 49) := ⟨_, rfl⟩
  have HBa := Lib.hid (show Below w.heap.size w wa from by rw [hwa]; exact bel_al HB1.out _)
  have HKa := Lib.hid (show Blk wa w1.heap.size 49 #[.int .i64 1, .int .i64 3, .int .i64 0, .int .i64 1, .int .i64 1000000, .slice A 0 d] from by rw [hwa]; exact Blk.new _ _ _)
  rw [← hwa]
  clear hwa
  go_upto_region 3 with (go_at_call 43; refine (HP2.out wa HBa.out).mono ?_; clear HP2; rintro e w2 ⟨g, S, rfl, hv, hb2⟩; have HB2 := Lib.hid (HBa.out.andThen hb2); have HV2 := Lib.hid hv; have HK2 := Lib.hid (HKa.out.keep hb2); clear hb2 hv)
  obtain ⟨wb, hwb⟩ : ∃ W, W = w2.alloc (.cells #[.int .i64 0, .int .i64 0, .int .i64 0, .int .i64 0, .int .i64 0, .slice none 0 0] 49) := ⟨_, rfl⟩
  have HBb := Lib.hid (show Below w.heap.size w wb from by rw [hwb]; exact bel_al HB2.out _)
  have HKb := Lib.hid (show Blk wb w1.heap.size 49 #[.int .i64 1, .int .i64 3, .int .i64 0, .int .i64 1, .int .i64 1000000, .slice A 0 d] from by rw [hwb]; exact HK2.out.alloc _)
  have HVb := Lib.hid (show Blk wb g 114 #[.int .i64 12, .int .i64 0, .string S] from by rw [hwb]; exact HV2.out.alloc _)
  rw [← hwb]
  clear hwb HKa HK2 HV2
  have k0 := HKb.out.cell 0
  have k1 := HKb.out.cell 1
  have k3 := HKb.out.cell 3
  simp at k0 k1 k3
  have HC := Lib.hid (Code_flt g 12 0 S wb (HG.out.keep HBb.out) HVb.out)
  have HA := Lib.hid (fun W (hW : Below wb.heap.size wb W) => At_flt g 12 0 S W (HG.out.keep (HBb.out.andThen hW)) (HVb.out.keep hW))
  go_wp2_with (first
    | (go_at_call 31; refine HC.out.mono ?_; clear HC; rintro e w3 ⟨rfl, hb3⟩; have HB3 := Lib.hid hb3; clear hb3)
    | (go_at_call 44; refine (HA.out _ HB3.out).mono ?_; clear HA; rintro e w4 ⟨rfl, hb4⟩; have HB4 := Lib.hid (HBb.out.andThen (HB3.out.andThen hb4)); clear hb4))
  go_ret
  exact ⟨rfl, HB4.out⟩
end Go.Proofs.YtapledphhfiimaaGreatDoor
/-
  Tests of patterns, plainly: what a test says, the first one that doesn't hold, what a program keeps.
-/
namespace Go.Proofs.YtapledphhfiimaaGreatDoor
open Go.RowKit Go.Proofs.YtapledphhfiimaaGreatDoor.Pg
set_option linter.unusedVariables false

namespace Ts
def hasE (E : List (Int × Int)) (a b : Int) : Bool := E.any fun e => decide (e = turnE (a, b))
def triE (n : Nat) (E : List (Int × Int)) (e : Int × Int) : Bool := (List.range n).any fun v => hasE E e.1 (v : Nat) && hasE E e.2 (v : Nat)
/-- What a test says of a pattern, both of which are right. -/
def holdsB (o : Int × Int) (L : List Int) (E : List (Int × Int)) : Bool :=
  if o.1 = 1 then decide (E.length = L.length * (L.length - 1) / 2)
  else if o.1 = 2 then !(L.any fun x => decide (o.2 < x))
  else if o.1 = 3 then (List.range L.length).all fun v => decide ((Pt.deg E (v : Nat) : Int) ≤ o.2)
  else if o.1 = 4 then decide ((L.length : Int) ≤ o.2)
  else if o.1 = 5 then decide ((E.length : Int) ≤ o.2)
  else if o.1 = 6 then decide ((Go.Lib.compact (L.mergeSort fun x y => decide (x ≤ y))).length = L.length)
  else if o.1 = 7 then !(L.any fun x => !decide (x = o.2))
  else !(E.any (triE L.length E))
open Classical in
/-- What Test answers. -/
noncomputable def testB (L : List Int) (E : List (Int × Int)) (o : Int × Int) : Bool := if opOK o ∧ rightP L E then holdsB o L E else false
open Classical in
/-- What Keeps answers. -/
noncomputable def keepsB (p : List (Int × Int)) (L : List Int) (E : List (Int × Int)) : Bool := if rightG p ∧ rightP L E then p.all (testB L E) else false
/-- Where the first one stands. -/
def firstZ {α : Type} (q : α → Bool) : List α → Nat → Int
  | [], _ => -1
  | o :: r, k => if q o = true then (k : Int) else firstZ q r (k + 1)
theorem firstZ_none {α : Type} {q : α → Bool} : ∀ {p : List α} {k : Nat}, (∀ o ∈ p, q o = false) → firstZ q p k = -1
  | [], k, _ => rfl
  | o :: r, k, h => by
    rw [firstZ, if_neg (by rw [h o (List.mem_cons_self ..)]; decide)]
    exact firstZ_none fun x hx => h x (List.mem_cons_of_mem _ hx)
theorem firstZ_at {α : Type} {q : α → Bool} : ∀ {p : List α} {i j : Nat} {o : α}, (∀ x ∈ p.take j, q x = false) → p[j]? = some o → q o = true → firstZ q p i = ((i + j : Nat) : Int)
  | [], i, j, o, _, h, _ => by simp at h
  | x :: r, i, 0, o, _, h, hq => by
    simp only [List.getElem?_cons_zero, Option.some.injEq] at h
    subst h
    rw [firstZ, if_pos hq, Nat.add_zero]
  | x :: r, i, j + 1, o, hn, h, hq => by
    rw [firstZ, if_neg (by rw [hn x (by simp)]; decide)]
    have := firstZ_at (p := r) (i := i + 1) (j := j) (o := o) (fun y hy => hn y (by rw [List.take_succ_cons]; exact List.mem_cons_of_mem _ hy)) (by simpa using h) hq
    rw [this]
    congr 1
    omega
theorem firstZ_neg {α : Type} {q : α → Bool} : ∀ {p : List α} {k : Nat}, firstZ q p k < 0 ↔ ∀ o ∈ p, q o = false
  | [], k => by
    rw [firstZ]
    exact ⟨fun _ o ho => (by cases ho), fun _ => (by omega)⟩
  | x :: r, k => by
    rw [firstZ]
    by_cases h : q x = true
    · rw [if_pos h]
      constructor
      · intro h2; omega
      · intro h2
        have := h2 x (List.mem_cons_self ..)
        rw [h] at this
        cases this
    · rw [if_neg h, firstZ_neg (p := r)]
      constructor
      · intro h2 o ho
        rcases List.mem_cons.1 ho with rfl | ho
        · cases hq : q o with
          | true => exact absurd hq h
          | false => rfl
        · exact h2 o ho
      · intro h2 o ho
        exact h2 o (List.mem_cons_of_mem _ ho)
theorem testB_of {L : List Int} {E : List (Int × Int)} {o : Int × Int} (h1 : opOK o) (h2 : rightP L E) : testB L E o = holdsB o L E := by
  unfold testB
  rw [if_pos ⟨h1, h2⟩]
theorem keepsB_of {p : List (Int × Int)} {L : List Int} {E : List (Int × Int)} (h1 : rightG p) (h2 : rightP L E) : keepsB p L E = p.all fun o => holdsB o L E := by
  unfold keepsB
  rw [if_pos ⟨h1, h2⟩]
  have : ∀ q : List (Int × Int), (∀ o ∈ q, opOK o) → q.all (testB L E) = q.all fun o => holdsB o L E := by
    intro q
    induction q with
    | nil => intro _; rfl
    | cons o r ih =>
      intro h
      rw [List.all_cons, List.all_cons, ih (fun x hx => h x (List.mem_cons_of_mem _ hx)), testB_of (h o (List.mem_cons_self ..)) h2]
  exact this p h1.2
theorem first_keeps {p : List (Int × Int)} {L : List Int} {E : List (Int × Int)} {k : Nat} : firstZ (fun o => !testB L E o) p k < 0 ↔ p.all (testB L E) = true := by
  rw [firstZ_neg, List.all_eq_true]
  constructor
  · intro h o ho
    have := h o ho
    simpa using this
  · intro h o ho
    rw [h o ho]
    rfl
/-- Degrees of a pattern that is right. -/
theorem deg_right {L : List Int} {E : List (Int × Int)} (h : rightP L E) (v : Int) : Pt.deg E v ≤ E.length := by
  unfold Pt.deg
  exact List.length_filter_le _ _
/-- A greater number keeps no less. -/
theorem holds_more {k a : Int} {L : List Int} {E : List (Int × Int)} (h2 : 2 ≤ k) (h5 : k ≤ 5) (h : holdsB (k, a) L E = true) : holdsB (k, a + 1) L E = true := by
  unfold holdsB at h ⊢
  simp only at h ⊢
  rw [if_neg (by omega)] at h ⊢
  rcases (show k = 2 ∨ k = 3 ∨ k = 4 ∨ k = 5 by omega) with rfl | rfl | rfl | rfl
  · rw [if_pos rfl] at h ⊢
    simp only [Bool.not_eq_true', List.any_eq_false, decide_eq_true_eq] at h ⊢
    intro x hx
    have := h x hx
    omega
  · rw [if_neg (by omega), if_pos rfl] at h ⊢
    simp only [List.all_eq_true, decide_eq_true_eq] at h ⊢
    intro x hx
    have := h x hx
    omega
  · rw [if_neg (by omega), if_neg (by omega), if_pos rfl] at h ⊢
    simp only [decide_eq_true_eq] at h ⊢
    omega
  · rw [if_neg (by omega), if_neg (by omega), if_neg (by omega), if_pos rfl] at h ⊢
    simp only [decide_eq_true_eq] at h ⊢
    omega
end Ts
end Go.Proofs.YtapledphhfiimaaGreatDoor
