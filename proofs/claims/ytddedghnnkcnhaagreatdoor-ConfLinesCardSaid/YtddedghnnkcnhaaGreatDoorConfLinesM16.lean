/-
  Part 16 of the proof of ConfLines: CfE, PatT.
-/
import Derived.BigQuiet
import Derived.Test.YtddedghnnkcnhaaGreatDoorConfLinesM15
import Derived.Test.YtddedghnnkcnhaaGreatDoorConfLinesM4
import Derived.Test.YtddedghnnkcnhaaGreatDoorConfLinesM3
/-
  conf: the walk of Right.
-/
namespace Go.Proofs.YtddedghnnkcnhaaGreatDoor
open Go.RowKit Go.Proofs.YtddedghnnkcnhaaGreatDoor.Pg
attribute [local go_sem ↓] Go.wp_at_zero Go.wp_at_succ
set_option maxRecDepth 100000
set_option linter.unusedVariables false

/-- What Right answers. -/
def CfRightRes (c : Cf.CF) (w : World) (e : Ending) (w' : World) : Prop :=
  (Cf.rightC c ∧ e = .returned .nilIface ∧ Below w.heap.size w w') ∨ (¬ Cf.rightC c ∧ ∃ g, e = .returned (.iface 145 (.pointer (some ⟨g, 0, none⟩))) ∧ Blk w' g 148 #[.int .i64 12, .int .i64 0, .string ⟨#[106, 111, 98]⟩] ∧ Below w.heap.size w w')
theorem Within_t (n m : Int) (h : 1 ≤ n ∧ n ≤ m) (w : World) : Calls Tryz.prog 125 #[.int .i64 n, .int .i64 m] w fun e w' => e = .returned (.bool true) ∧ w = w' :=
  (Within_any n m w).mono fun e w' h' => ⟨by rw [h'.1, decide_eq_true h.1, decide_eq_true h.2]; rfl, h'.2⟩
theorem Within_f (n m : Int) (h : ¬ (1 ≤ n ∧ n ≤ m)) (w : World) : Calls Tryz.prog 125 #[.int .i64 n, .int .i64 m] w fun e w' => e = .returned (.bool false) ∧ w = w' :=
  (Within_any n m w).mono fun e w' h' => ⟨by
    rw [h'.1, show (decide (1 ≤ n) && decide (n ≤ m)) = false from by
      by_cases h1 : 1 ≤ n
      · rw [decide_eq_false (fun h2 => h ⟨h1, h2⟩), Bool.and_false]
      · rw [decide_eq_false h1, Bool.false_and]], h'.2⟩
theorem CfName_t (k : Int) (h : 1 ≤ k ∧ k ≤ 3) : ∃ N : ByteArray, N.toList.isEmpty = false ∧ ∀ w, Calls Tryz.prog 122 #[.int .i64 k] w fun e w' => e = .returned (.string N) ∧ Below w.heap.size w w' := by
  refine ⟨bz (Cf.jobL k), ?_, fun w => CfName_any k w⟩
  rw [bz_empty]
  rcases (show k = 1 ∨ k = 2 ∨ k = 3 by omega) with rfl | rfl | rfl <;> rfl
theorem CfName_f (k : Int) (h : ¬ (1 ≤ k ∧ k ≤ 3)) (w : World) : Calls Tryz.prog 122 #[.int .i64 k] w fun e w' => e = .returned (.string ⟨#[]⟩) ∧ Below w.heap.size w w' :=
  (CfName_any k w).mono fun e w' h' => ⟨by rw [h'.1, Cf.jobL, if_neg h], h'.2⟩
set_option maxHeartbeats 600000 in
theorem CfRight_three (c : Cf.CF) (A : Option Addr) (n d : Nat) (w : World) (h3 : c.kind = 3) (hn : c.keep.length = n) (h9 : n ≤ 1000000) (hs : Sl w 2 A n (Rk.cells c.keep)) :
    Calls Tryz.prog 53 #[confV c A n d] w (CfRightRes c w) := by
  have HBc := Lib.hid (bel_al (Below.refl w.heap.size w) (.cells #[.int .i64 c.kind, .int .i64 c.size, .int .i64 c.sup, .int .i64 c.wk, .int .i64 c.cap, .slice A n d] 80))
  have HKc := Lib.hid (Blk.new w 80 #[.int .i64 c.kind, .int .i64 c.size, .int .i64 c.sup, .int .i64 c.wk, .int .i64 c.cap, .slice A n d])
  have HPrT := Lib.hid (show rightG c.keep → ∀ W, Below w.heap.size w W → Calls Tryz.prog 73 #[.slice A n d] W fun e w' => e = .returned .nilIface ∧ Below W.heap.size W w' from fun hg W hW => (ProgRight_any c.keep A n d W h9 (hs.keep hW)).mono fun e w' h => by
    rcases h with ⟨_, h1, h2⟩ | ⟨h, _⟩
    · exact ⟨h1, h2⟩
    · exact absurd hg h)
  have HPrF := Lib.hid (show ¬ rightG c.keep → ∀ W, Below w.heap.size w W → Calls Tryz.prog 73 #[.slice A n d] W fun e w' => ∃ g, e = .returned (.iface 145 (.pointer (some ⟨g, 0, none⟩))) ∧ Below W.heap.size W w' from fun hg W hW => (ProgRight_any c.keep A n d W h9 (hs.keep hW)).mono fun e w' h => by
    rcases h with ⟨h, _⟩ | ⟨_, _, _, _, g, h1, _, h2, _⟩
    · exact absurd h hg
    · exact ⟨g, h1, h2⟩)
  have k0 := HKc.out.cell 0
  simp at k0
  have e3 : (c.kind == 3) = true := by simp [h3]
  have HN0 := Lib.hid hn
  have H3 := Lib.hid h3
  have H90 := Lib.hid h9
  clear hs hn h3 h9
  go_enter Tryz.func53, Tryz.ntmps53
  by_cases hNm : 1 ≤ c.kind ∧ c.kind ≤ 3
  · obtain ⟨N, hN, hNm2⟩ := CfName_t c.kind hNm
    have HNm := Lib.hid hNm2
    clear hNm2
    have QNm := Lib.hid hNm
    clear hNm
    by_cases hZ : 1 ≤ c.size ∧ c.size ≤ 8
    · have HZ := Lib.hid (fun W => Within_t c.size 8 hZ W)
      have QZ := Lib.hid hZ
      clear hZ
      by_cases hW : 1 ≤ c.wk ∧ c.wk ≤ 64
      · have HW := Lib.hid (fun W => Within_t c.wk 64 hW W)
        have QW := Lib.hid hW
        clear hW
        by_cases hC : 1 ≤ c.cap ∧ c.cap ≤ 1000000
        · have HC := Lib.hid (fun W => Within_t c.cap 1000000 hC W)
          have QC := Lib.hid hC
          clear hC
          by_cases hG : rightG c.keep
          · have HPr := Lib.hid (HPrT.out hG)
            have QG := Lib.hid hG
            clear hG
            by_cases hL : n ≤ 15
            · have hL9 : (n : Int) ≤ 15 := by omega
              have QL := Lib.hid hL
              clear hL
              by_cases hS : 1 ≤ c.sup ∧ c.sup ≤ 1000000
              · have HS := Lib.hid (fun W => Within_t c.sup 1000000 hS W)
                have QS := Lib.hid hS
                clear hS
                have HYes := Lib.hid (show Cf.rightC c from ⟨QG.out, by rw [HN0.out]; exact QL.out, QNm.out, QZ.out, QW.out, QC.out, by rw [if_pos H3.out]; exact QS.out⟩)
                go_wp2_with (first | (go_at_call 122; refine (HNm.out _).mono ?_; clear HNm; rintro e w1 ⟨rfl, hb1⟩; replace HBc := Lib.hid (HBc.out.andThen hb1); replace HKc := Lib.hid (HKc.out.keep hb1); have k0 := HKc.out.cell 0; have k1 := HKc.out.cell 1; have k2 := HKc.out.cell 2; have k3 := HKc.out.cell 3; have k4 := HKc.out.cell 4; have k5 := HKc.out.cell 5; simp at k0 k1 k2 k3 k4 k5; clear hb1) | (go_at_call 125; refine (HZ.out _).mono ?_; clear HZ; rintro e w1 ⟨rfl, rfl⟩) | (go_at_call 125; refine (HW.out _).mono ?_; clear HW; rintro e w1 ⟨rfl, rfl⟩) | (go_at_call 125; refine (HC.out _).mono ?_; clear HC; rintro e w1 ⟨rfl, rfl⟩) | (go_at_call 73; refine (HPr.out _ HBc.out).mono ?_; clear HPr; rintro e w1 ⟨rfl, hb1⟩; replace HBc := Lib.hid (HBc.out.andThen hb1); replace HKc := Lib.hid (HKc.out.keep hb1); have k0 := HKc.out.cell 0; have k1 := HKc.out.cell 1; have k2 := HKc.out.cell 2; have k3 := HKc.out.cell 3; have k4 := HKc.out.cell 4; have k5 := HKc.out.cell 5; simp at k0 k1 k2 k3 k4 k5; clear hb1) | (go_at_call 125; refine (HS.out _).mono ?_; clear HS; rintro e w1 ⟨rfl, rfl⟩))
                go_ret
                exact .inl ⟨HYes.out, rfl, HBc.out⟩
              · have HS := Lib.hid (fun W => Within_f c.sup 1000000 hS W)
                have HNo := Lib.hid (show ¬ Cf.rightC c from fun h => by unfold Cf.rightC at h; have h9 := h.2.2.2.2.2.2; rw [if_pos H3.out] at h9; exact hS h9)
                clear hS
                go_wp2_with (first | (go_at_call 122; refine (HNm.out _).mono ?_; clear HNm; rintro e w1 ⟨rfl, hb1⟩; replace HBc := Lib.hid (HBc.out.andThen hb1); replace HKc := Lib.hid (HKc.out.keep hb1); have k0 := HKc.out.cell 0; have k1 := HKc.out.cell 1; have k2 := HKc.out.cell 2; have k3 := HKc.out.cell 3; have k4 := HKc.out.cell 4; have k5 := HKc.out.cell 5; simp at k0 k1 k2 k3 k4 k5; clear hb1) | (go_at_call 125; refine (HZ.out _).mono ?_; clear HZ; rintro e w1 ⟨rfl, rfl⟩) | (go_at_call 125; refine (HW.out _).mono ?_; clear HW; rintro e w1 ⟨rfl, rfl⟩) | (go_at_call 125; refine (HC.out _).mono ?_; clear HC; rintro e w1 ⟨rfl, rfl⟩) | (go_at_call 73; refine (HPr.out _ HBc.out).mono ?_; clear HPr; rintro e w1 ⟨rfl, hb1⟩; replace HBc := Lib.hid (HBc.out.andThen hb1); replace HKc := Lib.hid (HKc.out.keep hb1); have k0 := HKc.out.cell 0; have k1 := HKc.out.cell 1; have k2 := HKc.out.cell 2; have k3 := HKc.out.cell 3; have k4 := HKc.out.cell 4; have k5 := HKc.out.cell 5; simp at k0 k1 k2 k3 k4 k5; clear hb1) | (go_at_call 125; refine (HS.out _).mono ?_; clear HS; rintro e w1 ⟨rfl, rfl⟩) | (go_at_call 124; refine (Wrong_any _ _ _).mono ?_; rintro e w1 ⟨g1, rfl, hv1, hb1⟩; have HBe := Lib.hid (HBc.out.andThen hb1); have HV := Lib.hid hv1; clear hb1 hv1))
                go_ret
                exact .inr ⟨HNo.out, g1, rfl, HV.out, HBe.out⟩
            · have hL9 : ¬ (n : Int) ≤ 15 := by omega
              have HNo := Lib.hid (show ¬ Cf.rightC c from fun h => by unfold Cf.rightC at h; exact hL (by rw [← HN0.out]; exact h.2.1))
              clear hL
              go_wp2_with (first | (go_at_call 122; refine (HNm.out _).mono ?_; clear HNm; rintro e w1 ⟨rfl, hb1⟩; replace HBc := Lib.hid (HBc.out.andThen hb1); replace HKc := Lib.hid (HKc.out.keep hb1); have k0 := HKc.out.cell 0; have k1 := HKc.out.cell 1; have k2 := HKc.out.cell 2; have k3 := HKc.out.cell 3; have k4 := HKc.out.cell 4; have k5 := HKc.out.cell 5; simp at k0 k1 k2 k3 k4 k5; clear hb1) | (go_at_call 125; refine (HZ.out _).mono ?_; clear HZ; rintro e w1 ⟨rfl, rfl⟩) | (go_at_call 125; refine (HW.out _).mono ?_; clear HW; rintro e w1 ⟨rfl, rfl⟩) | (go_at_call 125; refine (HC.out _).mono ?_; clear HC; rintro e w1 ⟨rfl, rfl⟩) | (go_at_call 73; refine (HPr.out _ HBc.out).mono ?_; clear HPr; rintro e w1 ⟨rfl, hb1⟩; replace HBc := Lib.hid (HBc.out.andThen hb1); replace HKc := Lib.hid (HKc.out.keep hb1); have k0 := HKc.out.cell 0; have k1 := HKc.out.cell 1; have k2 := HKc.out.cell 2; have k3 := HKc.out.cell 3; have k4 := HKc.out.cell 4; have k5 := HKc.out.cell 5; simp at k0 k1 k2 k3 k4 k5; clear hb1) | (go_at_call 124; refine (Wrong_any _ _ _).mono ?_; rintro e w1 ⟨g1, rfl, hv1, hb1⟩; have HBe := Lib.hid (HBc.out.andThen hb1); have HV := Lib.hid hv1; clear hb1 hv1))
              go_ret
              exact .inr ⟨HNo.out, g1, rfl, HV.out, HBe.out⟩
          · have HPr := Lib.hid (HPrF.out hG)
            have HNo := Lib.hid (show ¬ Cf.rightC c from fun h => by unfold Cf.rightC at h; exact hG h.1)
            clear hG
            go_wp2_with (first | (go_at_call 122; refine (HNm.out _).mono ?_; clear HNm; rintro e w1 ⟨rfl, hb1⟩; replace HBc := Lib.hid (HBc.out.andThen hb1); replace HKc := Lib.hid (HKc.out.keep hb1); have k0 := HKc.out.cell 0; have k1 := HKc.out.cell 1; have k2 := HKc.out.cell 2; have k3 := HKc.out.cell 3; have k4 := HKc.out.cell 4; have k5 := HKc.out.cell 5; simp at k0 k1 k2 k3 k4 k5; clear hb1) | (go_at_call 125; refine (HZ.out _).mono ?_; clear HZ; rintro e w1 ⟨rfl, rfl⟩) | (go_at_call 125; refine (HW.out _).mono ?_; clear HW; rintro e w1 ⟨rfl, rfl⟩) | (go_at_call 125; refine (HC.out _).mono ?_; clear HC; rintro e w1 ⟨rfl, rfl⟩) | (go_at_call 73; refine (HPr.out _ HBc.out).mono ?_; clear HPr; rintro e w1 ⟨g0, rfl, hb1⟩; replace HBc := Lib.hid (HBc.out.andThen hb1); replace HKc := Lib.hid (HKc.out.keep hb1); have k0 := HKc.out.cell 0; have k1 := HKc.out.cell 1; have k2 := HKc.out.cell 2; have k3 := HKc.out.cell 3; have k4 := HKc.out.cell 4; have k5 := HKc.out.cell 5; simp at k0 k1 k2 k3 k4 k5; clear hb1) | (go_at_call 124; refine (Wrong_any _ _ _).mono ?_; rintro e w1 ⟨g1, rfl, hv1, hb1⟩; have HBe := Lib.hid (HBc.out.andThen hb1); have HV := Lib.hid hv1; clear hb1 hv1))
            go_ret
            exact .inr ⟨HNo.out, g1, rfl, HV.out, HBe.out⟩
        · have HC := Lib.hid (fun W => Within_f c.cap 1000000 hC W)
          have HNo := Lib.hid (show ¬ Cf.rightC c from fun h => by unfold Cf.rightC at h; exact hC h.2.2.2.2.2.1)
          clear hC
          go_wp2_with (first | (go_at_call 122; refine (HNm.out _).mono ?_; clear HNm; rintro e w1 ⟨rfl, hb1⟩; replace HBc := Lib.hid (HBc.out.andThen hb1); replace HKc := Lib.hid (HKc.out.keep hb1); have k0 := HKc.out.cell 0; have k1 := HKc.out.cell 1; have k2 := HKc.out.cell 2; have k3 := HKc.out.cell 3; have k4 := HKc.out.cell 4; have k5 := HKc.out.cell 5; simp at k0 k1 k2 k3 k4 k5; clear hb1) | (go_at_call 125; refine (HZ.out _).mono ?_; clear HZ; rintro e w1 ⟨rfl, rfl⟩) | (go_at_call 125; refine (HW.out _).mono ?_; clear HW; rintro e w1 ⟨rfl, rfl⟩) | (go_at_call 125; refine (HC.out _).mono ?_; clear HC; rintro e w1 ⟨rfl, rfl⟩) | (go_at_call 124; refine (Wrong_any _ _ _).mono ?_; rintro e w1 ⟨g1, rfl, hv1, hb1⟩; have HBe := Lib.hid (HBc.out.andThen hb1); have HV := Lib.hid hv1; clear hb1 hv1))
          go_ret
          exact .inr ⟨HNo.out, g1, rfl, HV.out, HBe.out⟩
      · have HW := Lib.hid (fun W => Within_f c.wk 64 hW W)
        have HNo := Lib.hid (show ¬ Cf.rightC c from fun h => by unfold Cf.rightC at h; exact hW h.2.2.2.2.1)
        clear hW
        go_wp2_with (first | (go_at_call 122; refine (HNm.out _).mono ?_; clear HNm; rintro e w1 ⟨rfl, hb1⟩; replace HBc := Lib.hid (HBc.out.andThen hb1); replace HKc := Lib.hid (HKc.out.keep hb1); have k0 := HKc.out.cell 0; have k1 := HKc.out.cell 1; have k2 := HKc.out.cell 2; have k3 := HKc.out.cell 3; have k4 := HKc.out.cell 4; have k5 := HKc.out.cell 5; simp at k0 k1 k2 k3 k4 k5; clear hb1) | (go_at_call 125; refine (HZ.out _).mono ?_; clear HZ; rintro e w1 ⟨rfl, rfl⟩) | (go_at_call 125; refine (HW.out _).mono ?_; clear HW; rintro e w1 ⟨rfl, rfl⟩) | (go_at_call 124; refine (Wrong_any _ _ _).mono ?_; rintro e w1 ⟨g1, rfl, hv1, hb1⟩; have HBe := Lib.hid (HBc.out.andThen hb1); have HV := Lib.hid hv1; clear hb1 hv1))
        go_ret
        exact .inr ⟨HNo.out, g1, rfl, HV.out, HBe.out⟩
    · have HZ := Lib.hid (fun W => Within_f c.size 8 hZ W)
      have HNo := Lib.hid (show ¬ Cf.rightC c from fun h => by unfold Cf.rightC at h; exact hZ h.2.2.2.1)
      clear hZ
      go_wp2_with (first | (go_at_call 122; refine (HNm.out _).mono ?_; clear HNm; rintro e w1 ⟨rfl, hb1⟩; replace HBc := Lib.hid (HBc.out.andThen hb1); replace HKc := Lib.hid (HKc.out.keep hb1); have k0 := HKc.out.cell 0; have k1 := HKc.out.cell 1; have k2 := HKc.out.cell 2; have k3 := HKc.out.cell 3; have k4 := HKc.out.cell 4; have k5 := HKc.out.cell 5; simp at k0 k1 k2 k3 k4 k5; clear hb1) | (go_at_call 125; refine (HZ.out _).mono ?_; clear HZ; rintro e w1 ⟨rfl, rfl⟩) | (go_at_call 124; refine (Wrong_any _ _ _).mono ?_; rintro e w1 ⟨g1, rfl, hv1, hb1⟩; have HBe := Lib.hid (HBc.out.andThen hb1); have HV := Lib.hid hv1; clear hb1 hv1))
      go_ret
      exact .inr ⟨HNo.out, g1, rfl, HV.out, HBe.out⟩
  · have HNm := Lib.hid (fun W => CfName_f c.kind hNm W)
    have HNo := Lib.hid (show ¬ Cf.rightC c from fun h => by unfold Cf.rightC at h; exact hNm h.2.2.1)
    clear hNm
    go_wp2_with (first | (go_at_call 122; refine (HNm.out _).mono ?_; clear HNm; rintro e w1 ⟨rfl, hb1⟩; replace HBc := Lib.hid (HBc.out.andThen hb1); replace HKc := Lib.hid (HKc.out.keep hb1); have k0 := HKc.out.cell 0; have k1 := HKc.out.cell 1; have k2 := HKc.out.cell 2; have k3 := HKc.out.cell 3; have k4 := HKc.out.cell 4; have k5 := HKc.out.cell 5; simp at k0 k1 k2 k3 k4 k5; clear hb1) | (go_at_call 124; refine (Wrong_any _ _ _).mono ?_; rintro e w1 ⟨g1, rfl, hv1, hb1⟩; have HBe := Lib.hid (HBc.out.andThen hb1); have HV := Lib.hid hv1; clear hb1 hv1))
    go_ret
    exact .inr ⟨HNo.out, g1, rfl, HV.out, HBe.out⟩
set_option maxHeartbeats 600000 in
theorem CfRight_other (c : Cf.CF) (A : Option Addr) (n d : Nat) (w : World) (h3 : ¬ c.kind = 3) (hn : c.keep.length = n) (h9 : n ≤ 1000000) (hs : Sl w 2 A n (Rk.cells c.keep)) :
    Calls Tryz.prog 53 #[confV c A n d] w (CfRightRes c w) := by
  have HBc := Lib.hid (bel_al (Below.refl w.heap.size w) (.cells #[.int .i64 c.kind, .int .i64 c.size, .int .i64 c.sup, .int .i64 c.wk, .int .i64 c.cap, .slice A n d] 80))
  have HKc := Lib.hid (Blk.new w 80 #[.int .i64 c.kind, .int .i64 c.size, .int .i64 c.sup, .int .i64 c.wk, .int .i64 c.cap, .slice A n d])
  have HPrT := Lib.hid (show rightG c.keep → ∀ W, Below w.heap.size w W → Calls Tryz.prog 73 #[.slice A n d] W fun e w' => e = .returned .nilIface ∧ Below W.heap.size W w' from fun hg W hW => (ProgRight_any c.keep A n d W h9 (hs.keep hW)).mono fun e w' h => by
    rcases h with ⟨_, h1, h2⟩ | ⟨h, _⟩
    · exact ⟨h1, h2⟩
    · exact absurd hg h)
  have HPrF := Lib.hid (show ¬ rightG c.keep → ∀ W, Below w.heap.size w W → Calls Tryz.prog 73 #[.slice A n d] W fun e w' => ∃ g, e = .returned (.iface 145 (.pointer (some ⟨g, 0, none⟩))) ∧ Below W.heap.size W w' from fun hg W hW => (ProgRight_any c.keep A n d W h9 (hs.keep hW)).mono fun e w' h => by
    rcases h with ⟨h, _⟩ | ⟨_, _, _, _, g, h1, _, h2, _⟩
    · exact absurd h hg
    · exact ⟨g, h1, h2⟩)
  have k0 := HKc.out.cell 0
  simp at k0
  have e3 : (c.kind == 3) = false := by simp [h3]
  have HN0 := Lib.hid hn
  have H3 := Lib.hid h3
  have H90 := Lib.hid h9
  clear hs hn h3 h9
  go_enter Tryz.func53, Tryz.ntmps53
  by_cases hNm : 1 ≤ c.kind ∧ c.kind ≤ 3
  · obtain ⟨N, hN, hNm2⟩ := CfName_t c.kind hNm
    have HNm := Lib.hid hNm2
    clear hNm2
    have QNm := Lib.hid hNm
    clear hNm
    by_cases hZ : 1 ≤ c.size ∧ c.size ≤ 8
    · have HZ := Lib.hid (fun W => Within_t c.size 8 hZ W)
      have QZ := Lib.hid hZ
      clear hZ
      by_cases hW : 1 ≤ c.wk ∧ c.wk ≤ 64
      · have HW := Lib.hid (fun W => Within_t c.wk 64 hW W)
        have QW := Lib.hid hW
        clear hW
        by_cases hC : 1 ≤ c.cap ∧ c.cap ≤ 1000000
        · have HC := Lib.hid (fun W => Within_t c.cap 1000000 hC W)
          have QC := Lib.hid hC
          clear hC
          by_cases hG : rightG c.keep
          · have HPr := Lib.hid (HPrT.out hG)
            have QG := Lib.hid hG
            clear hG
            by_cases hL : n ≤ 15
            · have hL9 : (n : Int) ≤ 15 := by omega
              have QL := Lib.hid hL
              clear hL
              by_cases hS : c.sup = 0
              · have hS9 : (c.sup == 0) = true := by simp [hS]
                have QS := Lib.hid hS
                clear hS
                have HYes := Lib.hid (show Cf.rightC c from ⟨QG.out, by rw [HN0.out]; exact QL.out, QNm.out, QZ.out, QW.out, QC.out, by rw [if_neg H3.out]; exact QS.out⟩)
                go_wp2_with (first | (go_at_call 122; refine (HNm.out _).mono ?_; clear HNm; rintro e w1 ⟨rfl, hb1⟩; replace HBc := Lib.hid (HBc.out.andThen hb1); replace HKc := Lib.hid (HKc.out.keep hb1); have k0 := HKc.out.cell 0; have k1 := HKc.out.cell 1; have k2 := HKc.out.cell 2; have k3 := HKc.out.cell 3; have k4 := HKc.out.cell 4; have k5 := HKc.out.cell 5; simp at k0 k1 k2 k3 k4 k5; clear hb1) | (go_at_call 125; refine (HZ.out _).mono ?_; clear HZ; rintro e w1 ⟨rfl, rfl⟩) | (go_at_call 125; refine (HW.out _).mono ?_; clear HW; rintro e w1 ⟨rfl, rfl⟩) | (go_at_call 125; refine (HC.out _).mono ?_; clear HC; rintro e w1 ⟨rfl, rfl⟩) | (go_at_call 73; refine (HPr.out _ HBc.out).mono ?_; clear HPr; rintro e w1 ⟨rfl, hb1⟩; replace HBc := Lib.hid (HBc.out.andThen hb1); replace HKc := Lib.hid (HKc.out.keep hb1); have k0 := HKc.out.cell 0; have k1 := HKc.out.cell 1; have k2 := HKc.out.cell 2; have k3 := HKc.out.cell 3; have k4 := HKc.out.cell 4; have k5 := HKc.out.cell 5; simp at k0 k1 k2 k3 k4 k5; clear hb1))
                go_ret
                exact .inl ⟨HYes.out, rfl, HBc.out⟩
              · have hS9 : (c.sup == 0) = false := by simp [hS]
                have HNo := Lib.hid (show ¬ Cf.rightC c from fun h => by unfold Cf.rightC at h; have h9 := h.2.2.2.2.2.2; rw [if_neg H3.out] at h9; exact hS h9)
                clear hS
                go_wp2_with (first | (go_at_call 122; refine (HNm.out _).mono ?_; clear HNm; rintro e w1 ⟨rfl, hb1⟩; replace HBc := Lib.hid (HBc.out.andThen hb1); replace HKc := Lib.hid (HKc.out.keep hb1); have k0 := HKc.out.cell 0; have k1 := HKc.out.cell 1; have k2 := HKc.out.cell 2; have k3 := HKc.out.cell 3; have k4 := HKc.out.cell 4; have k5 := HKc.out.cell 5; simp at k0 k1 k2 k3 k4 k5; clear hb1) | (go_at_call 125; refine (HZ.out _).mono ?_; clear HZ; rintro e w1 ⟨rfl, rfl⟩) | (go_at_call 125; refine (HW.out _).mono ?_; clear HW; rintro e w1 ⟨rfl, rfl⟩) | (go_at_call 125; refine (HC.out _).mono ?_; clear HC; rintro e w1 ⟨rfl, rfl⟩) | (go_at_call 73; refine (HPr.out _ HBc.out).mono ?_; clear HPr; rintro e w1 ⟨rfl, hb1⟩; replace HBc := Lib.hid (HBc.out.andThen hb1); replace HKc := Lib.hid (HKc.out.keep hb1); have k0 := HKc.out.cell 0; have k1 := HKc.out.cell 1; have k2 := HKc.out.cell 2; have k3 := HKc.out.cell 3; have k4 := HKc.out.cell 4; have k5 := HKc.out.cell 5; simp at k0 k1 k2 k3 k4 k5; clear hb1) | (go_at_call 124; refine (Wrong_any _ _ _).mono ?_; rintro e w1 ⟨g1, rfl, hv1, hb1⟩; have HBe := Lib.hid (HBc.out.andThen hb1); have HV := Lib.hid hv1; clear hb1 hv1))
                go_ret
                exact .inr ⟨HNo.out, g1, rfl, HV.out, HBe.out⟩
            · have hL9 : ¬ (n : Int) ≤ 15 := by omega
              have HNo := Lib.hid (show ¬ Cf.rightC c from fun h => by unfold Cf.rightC at h; exact hL (by rw [← HN0.out]; exact h.2.1))
              clear hL
              go_wp2_with (first | (go_at_call 122; refine (HNm.out _).mono ?_; clear HNm; rintro e w1 ⟨rfl, hb1⟩; replace HBc := Lib.hid (HBc.out.andThen hb1); replace HKc := Lib.hid (HKc.out.keep hb1); have k0 := HKc.out.cell 0; have k1 := HKc.out.cell 1; have k2 := HKc.out.cell 2; have k3 := HKc.out.cell 3; have k4 := HKc.out.cell 4; have k5 := HKc.out.cell 5; simp at k0 k1 k2 k3 k4 k5; clear hb1) | (go_at_call 125; refine (HZ.out _).mono ?_; clear HZ; rintro e w1 ⟨rfl, rfl⟩) | (go_at_call 125; refine (HW.out _).mono ?_; clear HW; rintro e w1 ⟨rfl, rfl⟩) | (go_at_call 125; refine (HC.out _).mono ?_; clear HC; rintro e w1 ⟨rfl, rfl⟩) | (go_at_call 73; refine (HPr.out _ HBc.out).mono ?_; clear HPr; rintro e w1 ⟨rfl, hb1⟩; replace HBc := Lib.hid (HBc.out.andThen hb1); replace HKc := Lib.hid (HKc.out.keep hb1); have k0 := HKc.out.cell 0; have k1 := HKc.out.cell 1; have k2 := HKc.out.cell 2; have k3 := HKc.out.cell 3; have k4 := HKc.out.cell 4; have k5 := HKc.out.cell 5; simp at k0 k1 k2 k3 k4 k5; clear hb1) | (go_at_call 124; refine (Wrong_any _ _ _).mono ?_; rintro e w1 ⟨g1, rfl, hv1, hb1⟩; have HBe := Lib.hid (HBc.out.andThen hb1); have HV := Lib.hid hv1; clear hb1 hv1))
              go_ret
              exact .inr ⟨HNo.out, g1, rfl, HV.out, HBe.out⟩
          · have HPr := Lib.hid (HPrF.out hG)
            have HNo := Lib.hid (show ¬ Cf.rightC c from fun h => by unfold Cf.rightC at h; exact hG h.1)
            clear hG
            go_wp2_with (first | (go_at_call 122; refine (HNm.out _).mono ?_; clear HNm; rintro e w1 ⟨rfl, hb1⟩; replace HBc := Lib.hid (HBc.out.andThen hb1); replace HKc := Lib.hid (HKc.out.keep hb1); have k0 := HKc.out.cell 0; have k1 := HKc.out.cell 1; have k2 := HKc.out.cell 2; have k3 := HKc.out.cell 3; have k4 := HKc.out.cell 4; have k5 := HKc.out.cell 5; simp at k0 k1 k2 k3 k4 k5; clear hb1) | (go_at_call 125; refine (HZ.out _).mono ?_; clear HZ; rintro e w1 ⟨rfl, rfl⟩) | (go_at_call 125; refine (HW.out _).mono ?_; clear HW; rintro e w1 ⟨rfl, rfl⟩) | (go_at_call 125; refine (HC.out _).mono ?_; clear HC; rintro e w1 ⟨rfl, rfl⟩) | (go_at_call 73; refine (HPr.out _ HBc.out).mono ?_; clear HPr; rintro e w1 ⟨g0, rfl, hb1⟩; replace HBc := Lib.hid (HBc.out.andThen hb1); replace HKc := Lib.hid (HKc.out.keep hb1); have k0 := HKc.out.cell 0; have k1 := HKc.out.cell 1; have k2 := HKc.out.cell 2; have k3 := HKc.out.cell 3; have k4 := HKc.out.cell 4; have k5 := HKc.out.cell 5; simp at k0 k1 k2 k3 k4 k5; clear hb1) | (go_at_call 124; refine (Wrong_any _ _ _).mono ?_; rintro e w1 ⟨g1, rfl, hv1, hb1⟩; have HBe := Lib.hid (HBc.out.andThen hb1); have HV := Lib.hid hv1; clear hb1 hv1))
            go_ret
            exact .inr ⟨HNo.out, g1, rfl, HV.out, HBe.out⟩
        · have HC := Lib.hid (fun W => Within_f c.cap 1000000 hC W)
          have HNo := Lib.hid (show ¬ Cf.rightC c from fun h => by unfold Cf.rightC at h; exact hC h.2.2.2.2.2.1)
          clear hC
          go_wp2_with (first | (go_at_call 122; refine (HNm.out _).mono ?_; clear HNm; rintro e w1 ⟨rfl, hb1⟩; replace HBc := Lib.hid (HBc.out.andThen hb1); replace HKc := Lib.hid (HKc.out.keep hb1); have k0 := HKc.out.cell 0; have k1 := HKc.out.cell 1; have k2 := HKc.out.cell 2; have k3 := HKc.out.cell 3; have k4 := HKc.out.cell 4; have k5 := HKc.out.cell 5; simp at k0 k1 k2 k3 k4 k5; clear hb1) | (go_at_call 125; refine (HZ.out _).mono ?_; clear HZ; rintro e w1 ⟨rfl, rfl⟩) | (go_at_call 125; refine (HW.out _).mono ?_; clear HW; rintro e w1 ⟨rfl, rfl⟩) | (go_at_call 125; refine (HC.out _).mono ?_; clear HC; rintro e w1 ⟨rfl, rfl⟩) | (go_at_call 124; refine (Wrong_any _ _ _).mono ?_; rintro e w1 ⟨g1, rfl, hv1, hb1⟩; have HBe := Lib.hid (HBc.out.andThen hb1); have HV := Lib.hid hv1; clear hb1 hv1))
          go_ret
          exact .inr ⟨HNo.out, g1, rfl, HV.out, HBe.out⟩
      · have HW := Lib.hid (fun W => Within_f c.wk 64 hW W)
        have HNo := Lib.hid (show ¬ Cf.rightC c from fun h => by unfold Cf.rightC at h; exact hW h.2.2.2.2.1)
        clear hW
        go_wp2_with (first | (go_at_call 122; refine (HNm.out _).mono ?_; clear HNm; rintro e w1 ⟨rfl, hb1⟩; replace HBc := Lib.hid (HBc.out.andThen hb1); replace HKc := Lib.hid (HKc.out.keep hb1); have k0 := HKc.out.cell 0; have k1 := HKc.out.cell 1; have k2 := HKc.out.cell 2; have k3 := HKc.out.cell 3; have k4 := HKc.out.cell 4; have k5 := HKc.out.cell 5; simp at k0 k1 k2 k3 k4 k5; clear hb1) | (go_at_call 125; refine (HZ.out _).mono ?_; clear HZ; rintro e w1 ⟨rfl, rfl⟩) | (go_at_call 125; refine (HW.out _).mono ?_; clear HW; rintro e w1 ⟨rfl, rfl⟩) | (go_at_call 124; refine (Wrong_any _ _ _).mono ?_; rintro e w1 ⟨g1, rfl, hv1, hb1⟩; have HBe := Lib.hid (HBc.out.andThen hb1); have HV := Lib.hid hv1; clear hb1 hv1))
        go_ret
        exact .inr ⟨HNo.out, g1, rfl, HV.out, HBe.out⟩
    · have HZ := Lib.hid (fun W => Within_f c.size 8 hZ W)
      have HNo := Lib.hid (show ¬ Cf.rightC c from fun h => by unfold Cf.rightC at h; exact hZ h.2.2.2.1)
      clear hZ
      go_wp2_with (first | (go_at_call 122; refine (HNm.out _).mono ?_; clear HNm; rintro e w1 ⟨rfl, hb1⟩; replace HBc := Lib.hid (HBc.out.andThen hb1); replace HKc := Lib.hid (HKc.out.keep hb1); have k0 := HKc.out.cell 0; have k1 := HKc.out.cell 1; have k2 := HKc.out.cell 2; have k3 := HKc.out.cell 3; have k4 := HKc.out.cell 4; have k5 := HKc.out.cell 5; simp at k0 k1 k2 k3 k4 k5; clear hb1) | (go_at_call 125; refine (HZ.out _).mono ?_; clear HZ; rintro e w1 ⟨rfl, rfl⟩) | (go_at_call 124; refine (Wrong_any _ _ _).mono ?_; rintro e w1 ⟨g1, rfl, hv1, hb1⟩; have HBe := Lib.hid (HBc.out.andThen hb1); have HV := Lib.hid hv1; clear hb1 hv1))
      go_ret
      exact .inr ⟨HNo.out, g1, rfl, HV.out, HBe.out⟩
  · have HNm := Lib.hid (fun W => CfName_f c.kind hNm W)
    have HNo := Lib.hid (show ¬ Cf.rightC c from fun h => by unfold Cf.rightC at h; exact hNm h.2.2.1)
    clear hNm
    go_wp2_with (first | (go_at_call 122; refine (HNm.out _).mono ?_; clear HNm; rintro e w1 ⟨rfl, hb1⟩; replace HBc := Lib.hid (HBc.out.andThen hb1); replace HKc := Lib.hid (HKc.out.keep hb1); have k0 := HKc.out.cell 0; have k1 := HKc.out.cell 1; have k2 := HKc.out.cell 2; have k3 := HKc.out.cell 3; have k4 := HKc.out.cell 4; have k5 := HKc.out.cell 5; simp at k0 k1 k2 k3 k4 k5; clear hb1) | (go_at_call 124; refine (Wrong_any _ _ _).mono ?_; rintro e w1 ⟨g1, rfl, hv1, hb1⟩; have HBe := Lib.hid (HBc.out.andThen hb1); have HV := Lib.hid hv1; clear hb1 hv1))
    go_ret
    exact .inr ⟨HNo.out, g1, rfl, HV.out, HBe.out⟩
theorem CfRight_any (c : Cf.CF) (A : Option Addr) (n d : Nat) (w : World) (hn : c.keep.length = n) (h9 : n ≤ 1000000) (hs : Sl w 2 A n (Rk.cells c.keep)) :
    Calls Tryz.prog 53 #[confV c A n d] w (CfRightRes c w) := by
  by_cases h3 : c.kind = 3
  · exact CfRight_three c A n d w h3 hn h9 hs
  · exact CfRight_other c A n d w h3 hn h9 hs
end Go.Proofs.YtddedghnnkcnhaaGreatDoor
/-
  A pattern's text tells the pattern (plain).
-/
namespace Go.Proofs.YtddedghnnkcnhaaGreatDoor.Pt
set_option linter.unusedVariables false

def val (l : List UInt8) : Nat := l.foldl (fun a d => a * 10 + (d.toNat - 48)) 0
theorem val_snoc (l : List UInt8) (d : UInt8) : val (l ++ [d]) = val l * 10 + (d.toNat - 48) := by simp [val]
theorem dig_nat {u : Nat} (h : u < 10) : (UInt8.ofNat (48 + u)).toNat = 48 + u := by
  rw [UInt8.toNat_ofNat']
  omega
theorem val_dec (u : Nat) : val (Lib.decDigits u) = u := by
  rw [Lib.decDigits]
  split
  · rename_i h
    show 0 * 10 + ((UInt8.ofNat (48 + u)).toNat - 48) = u
    rw [dig_nat h]
    omega
  · rw [val_snoc, val_dec (u / 10), dig_nat (Nat.mod_lt _ (by omega))]
    omega
termination_by u
decreasing_by omega
theorem dec_dig (u : Nat) : ∀ d ∈ Lib.decDigits u, 48 ≤ d.toNat ∧ d.toNat ≤ 57 := by
  rw [Lib.decDigits]
  split
  · rename_i h
    intro d hd
    obtain rfl := List.mem_singleton.1 hd
    rw [dig_nat h]
    omega
  · intro d hd
    rcases List.mem_append.1 hd with hd | hd
    · exact dec_dig (u / 10) d hd
    · obtain rfl := List.mem_singleton.1 hd
      rw [dig_nat (Nat.mod_lt _ (by omega))]
      omega
termination_by u
decreasing_by omega
theorem dec_ne (u : Nat) : Lib.decDigits u ≠ [] := by
  rw [Lib.decDigits]
  split <;> simp
theorem itoa_pos {x : Int} (h : 0 ≤ x) : Lib.itoa x = Lib.decDigits x.toNat := by unfold Lib.itoa; rw [if_neg (by omega)]
theorem itoa_inj {x y : Int} (hx : 0 ≤ x) (hy : 0 ≤ y) (h : Lib.itoa x = Lib.itoa y) : x = y := by
  rw [itoa_pos hx, itoa_pos hy] at h
  have := congrArg val h
  rw [val_dec, val_dec] at this
  omega
theorem itoa_dig {x : Int} (h : 0 ≤ x) : ∀ d ∈ Lib.itoa x, 48 ≤ d.toNat ∧ d.toNat ≤ 57 := by rw [itoa_pos h]; exact dec_dig _
theorem itoa_ne {x : Int} (h : 0 ≤ x) : Lib.itoa x ≠ [] := by rw [itoa_pos h]; exact dec_ne _

theorem split_at {s : UInt8} : ∀ {a b c d : List UInt8}, s ∉ a → s ∉ c → a ++ s :: b = c ++ s :: d → a = c ∧ b = d
  | [], b, [], d, _, _, h => ⟨rfl, by simpa using h⟩
  | [], b, x :: c, d, _, hc, h => by
    simp only [List.nil_append, List.cons_append, List.cons.injEq] at h
    exact absurd (List.mem_cons.2 (.inl h.1)) hc
  | x :: a, b, [], d, ha, _, h => by
    simp only [List.nil_append, List.cons_append, List.cons.injEq] at h
    exact absurd (List.mem_cons.2 (.inl h.1.symm)) ha
  | x :: a, b, y :: c, d, ha, hc, h => by
    simp only [List.cons_append, List.cons.injEq] at h
    obtain ⟨h1, h2⟩ := split_at (fun hm => ha (List.mem_cons_of_mem _ hm)) (fun hm => hc (List.mem_cons_of_mem _ hm)) h.2
    exact ⟨by rw [h.1, h1], h2⟩
theorem tail_inj {s : UInt8} : ∀ (r t : List (List UInt8)) (x y : List UInt8), (∀ b ∈ x :: r, s ∉ b) → (∀ b ∈ y :: t, s ∉ b) → x ++ Lib.joinTail [s] r = y ++ Lib.joinTail [s] t → x = y ∧ r = t
  | [], [], x, y, _, _, h => ⟨by simpa [Lib.joinTail] using h, rfl⟩
  | [], z :: t, x, y, hx, _, h => by
    exfalso
    refine hx x (List.mem_cons_self ..) ?_
    have : x = y ++ (s :: (z ++ Lib.joinTail [s] t)) := by simpa [Lib.joinTail] using h
    rw [this]
    simp
  | w :: r, [], x, y, _, hy, h => by
    exfalso
    refine hy y (List.mem_cons_self ..) ?_
    have : x ++ (s :: (w ++ Lib.joinTail [s] r)) = y := by simpa [Lib.joinTail] using h
    rw [← this]
    simp
  | w :: r, z :: t, x, y, hx, hy, h => by
    have h' : x ++ s :: (w ++ Lib.joinTail [s] r) = y ++ s :: (z ++ Lib.joinTail [s] t) := by simpa [Lib.joinTail] using h
    obtain ⟨h1, h2⟩ := split_at (hx x (List.mem_cons_self ..)) (hy y (List.mem_cons_self ..)) h'
    obtain ⟨h3, h4⟩ := tail_inj r t w z (fun b hb => hx b (List.mem_cons_of_mem _ hb)) (fun b hb => hy b (List.mem_cons_of_mem _ hb)) h2
    exact ⟨h1, by rw [h3, h4]⟩
theorem join_inj {s : UInt8} : ∀ (r t : List (List UInt8)), (∀ b ∈ r, b ≠ [] ∧ s ∉ b) → (∀ b ∈ t, b ≠ [] ∧ s ∉ b) → Lib.join r [s] = Lib.join t [s] → r = t
  | [], [], _, _, _ => rfl
  | [], y :: t, _, hy, h => by
    rw [Lib.join_nil, Lib.join_cons] at h
    exact absurd (List.append_eq_nil_iff.1 h.symm).1 (hy y (List.mem_cons_self ..)).1
  | x :: r, [], hx, _, h => by
    rw [Lib.join_nil, Lib.join_cons] at h
    exact absurd (List.append_eq_nil_iff.1 h).1 (hx x (List.mem_cons_self ..)).1
  | x :: r, y :: t, hx, hy, h => by
    rw [Lib.join_cons, Lib.join_cons] at h
    obtain ⟨h1, h2⟩ := tail_inj r t x y (fun b hb => (hx b hb).2) (fun b hb => (hy b hb).2) h
    rw [h1, h2]
theorem join_not {s t : UInt8} (hst : s ≠ t) : ∀ (r : List (List UInt8)), (∀ b ∈ r, t ∉ b) → t ∉ Lib.join r [s]
  | [], _ => by simp [Lib.join_nil]
  | x :: r, h => by
    rw [Lib.join_cons]
    intro hm
    rcases List.mem_append.1 hm with hm | hm
    · exact h x (List.mem_cons_self ..) hm
    · unfold Lib.joinTail at hm
      obtain ⟨l, hl, hm⟩ := List.mem_flatten.1 hm
      obtain ⟨b, hb, rfl⟩ := List.mem_map.1 hl
      rcases List.mem_append.1 hm with hm | hm
      · exact hst (List.mem_singleton.1 hm).symm
      · exact h b (List.mem_cons_of_mem _ hb) hm
theorem map_inj {α β : Type} {f : α → β} : ∀ (l m : List α), (∀ x ∈ l, ∀ y ∈ m, f x = f y → x = y) → l.map f = m.map f → l = m
  | [], [], _, _ => rfl
  | [], y :: m, _, h => by simp at h
  | x :: l, [], _, h => by simp at h
  | x :: l, y :: m, hf, h => by
    simp only [List.map_cons, List.cons.injEq] at h
    rw [hf x (List.mem_cons_self ..) y (List.mem_cons_self ..) h.1, map_inj l m (fun a ha b hb => hf a (List.mem_cons_of_mem _ ha) b (List.mem_cons_of_mem _ hb)) h.2]

def edgeL (e : Int × Int) : List UInt8 := Lib.itoa e.1 ++ 45 :: Lib.itoa e.2
theorem not_dig {x : Int} (h : 0 ≤ x) {s : UInt8} (hs : s.toNat < 48 ∨ 57 < s.toNat) : s ∉ Lib.itoa x := fun hm => by
  have := itoa_dig h s hm
  omega
theorem edgeL_not {e : Int × Int} (h1 : 0 ≤ e.1) (h2 : 0 ≤ e.2) {s : UInt8} (hs : s.toNat < 45 ∨ 57 < s.toNat) : s ∉ edgeL e := fun hm => by
  rcases List.mem_append.1 hm with hm | hm
  · exact not_dig h1 (by omega) hm
  · rcases List.mem_cons.1 hm with hm | hm
    · subst hm
      have : (45 : UInt8).toNat = 45 := rfl
      omega
    · exact not_dig h2 (by omega) hm
theorem edgeL_inj {e f : Int × Int} (h1 : 0 ≤ e.1) (h2 : 0 ≤ e.2) (h3 : 0 ≤ f.1) (h4 : 0 ≤ f.2) (h : edgeL e = edgeL f) : e = f := by
  obtain ⟨g1, g2⟩ := split_at (not_dig h1 (.inl (by decide))) (not_dig h3 (.inl (by decide))) h
  exact Prod.ext (itoa_inj h1 h3 g1) (itoa_inj h2 h4 g2)
/-- A pattern's text, as a list of bytes. -/
def textL (L : List Int) (E : List (Int × Int)) : List UInt8 := Lib.join (L.map Lib.itoa) [44] ++ 124 :: Lib.join (E.map edgeL) [44]
theorem textL_inj {L L' : List Int} {E E' : List (Int × Int)} (hL : ∀ x ∈ L, 0 ≤ x) (hL' : ∀ x ∈ L', 0 ≤ x) (hE : ∀ e ∈ E, 0 ≤ e.1 ∧ 0 ≤ e.2) (hE' : ∀ e ∈ E', 0 ≤ e.1 ∧ 0 ≤ e.2)
    (h : textL L E = textL L' E') : L = L' ∧ E = E' := by
  have n1 : ∀ (M : List Int), (∀ x ∈ M, 0 ≤ x) → (124 : UInt8) ∉ Lib.join (M.map Lib.itoa) [44] := fun M hM => join_not (by decide) _ fun b hb => by
    obtain ⟨x, hx, rfl⟩ := List.mem_map.1 hb
    exact not_dig (hM x hx) (.inr (by decide))
  obtain ⟨h1, h2⟩ := split_at (n1 L hL) (n1 L' hL') h
  have n2 : ∀ (M : List Int), (∀ x ∈ M, 0 ≤ x) → ∀ b ∈ M.map Lib.itoa, b ≠ [] ∧ (44 : UInt8) ∉ b := fun M hM b hb => by
    obtain ⟨x, hx, rfl⟩ := List.mem_map.1 hb
    exact ⟨itoa_ne (hM x hx), not_dig (hM x hx) (.inl (by decide))⟩
  have n3 : ∀ (M : List (Int × Int)), (∀ e ∈ M, 0 ≤ e.1 ∧ 0 ≤ e.2) → ∀ b ∈ M.map edgeL, b ≠ [] ∧ (44 : UInt8) ∉ b := fun M hM b hb => by
    obtain ⟨x, hx, rfl⟩ := List.mem_map.1 hb
    exact ⟨by unfold edgeL; simp, edgeL_not (hM x hx).1 (hM x hx).2 (.inl (by decide))⟩
  exact ⟨map_inj _ _ (fun x hx y hy => itoa_inj (hL x hx) (hL' y hy)) (join_inj _ _ (n2 L hL) (n2 L' hL') h1), map_inj _ _ (fun e he f hf => edgeL_inj (hE e he).1 (hE e he).2 (hE' f hf).1 (hE' f hf).2) (join_inj _ _ (n3 E hE) (n3 E' hE') h2)⟩
theorem textB_list (L : List Int) (E : List (Int × Int)) : (textB L E).data.toList = textL L E := by
  have e1 : (L.map itoaB).map (·.data.toList) = L.map Lib.itoa := by
    rw [List.map_map]
    exact List.map_congr_left fun x _ => by simp
  have e2 : (E.map edgeB).map (·.data.toList) = E.map edgeL := by
    rw [List.map_map]
    exact List.map_congr_left fun e _ => by simp [edgeB, edgeL]
  unfold textB joinB textL
  rw [e1, e2]
  simp
theorem textB_inj {L L' : List Int} {E E' : List (Int × Int)} (hL : ∀ x ∈ L, 0 ≤ x) (hL' : ∀ x ∈ L', 0 ≤ x) (hE : ∀ e ∈ E, 0 ≤ e.1 ∧ 0 ≤ e.2) (hE' : ∀ e ∈ E', 0 ≤ e.1 ∧ 0 ≤ e.2) :
    textB L E = textB L' E' ↔ L = L' ∧ E = E' := by
  constructor
  · intro h
    refine textL_inj hL hL' hE hE' ?_
    rw [← textB_list, ← textB_list, h]
  · rintro ⟨rfl, rfl⟩
    rfl
end Go.Proofs.YtddedghnnkcnhaaGreatDoor.Pt
