/-
  Part 23 of the proof of ConfLines: ConfTexts, ConfV, CfJ, CfK.
-/
import Derived.BigQuiet
import Derived.Test.YtddedghnnkcnhaaGreatDoorConfLinesM18
import Derived.Test.YtddedghnnkcnhaaGreatDoorConfLinesM19
import Derived.Test.YtddedghnnkcnhaaGreatDoorConfLinesM20
import Derived.Test.YtddedghnnkcnhaaGreatDoorConfLinesM22
/-
  ConfTexts: the walk.
-/
namespace Go.Proofs.YtddedghnnkcnhaaGreatDoor
open Go.RowKit Go.Proofs.YtddedghnnkcnhaaGreatDoor.Pg
attribute [local go_sem ↓] Go.wp_at_zero Go.wp_at_succ
set_option maxRecDepth 100000
set_option linter.unusedVariables false

theorem Right_y (c : Cf.CF) (A : Option Addr) (n d : Nat) (w : World) (hr : Cf.rightC c) (hn : c.keep.length = n) (h9 : n ≤ 1000000) (hs : Sl w 2 A n (Rk.cells c.keep)) :
    Calls Tryz.prog 53 #[confV c A n d] w fun e w' => e = .returned .nilIface ∧ Below w.heap.size w w' := (CfRight_any c A n d w hn h9 hs).mono fun e w' h => by
  rcases h with ⟨_, h1, h2⟩ | ⟨h, _⟩
  · exact ⟨h1, h2⟩
  · exact absurd hr h
theorem Right_n (c : Cf.CF) (A : Option Addr) (n d : Nat) (w : World) (hr : ¬ Cf.rightC c) (hn : c.keep.length = n) (h9 : n ≤ 1000000) (hs : Sl w 2 A n (Rk.cells c.keep)) :
    Calls Tryz.prog 53 #[confV c A n d] w fun e w' => ∃ g, e = .returned (.iface 145 (.pointer (some ⟨g, 0, none⟩))) ∧ Blk w' g 148 #[.int .i64 12, .int .i64 0, .string ⟨#[106, 111, 98]⟩] ∧ Below w.heap.size w w' := (CfRight_any c A n d w hn h9 hs).mono fun e w' h => by
  rcases h with ⟨h, _⟩ | ⟨_, g, h1, h2, h3⟩
  · exact absurd h hr
  · exact ⟨g, h1, h2, h3⟩
theorem RefRight_b (c : Cf.CF) (A : Option Addr) (n d : Nat) (w : World) (b : Bool) (hb : decide (Cf.rightC c) = b) (hn : c.keep.length = n) (h9 : n ≤ 1000000) (hs : Sl w 2 A n (Rk.cells c.keep)) :
    Calls Tryz.prog 48 #[confV c A n d] w fun e w' => e = .returned (.bool b) ∧ Below w.heap.size w w' := (RefRight22_any c A n d w hn h9 hs).mono fun e w' h => ⟨by rw [h.1, hb], h.2⟩
/-- A text of a job that is right, parsed. -/
theorem Parse_told (c : Cf.CF) (S : ByteArray) (n : Nat) (w : World) (hr : Cf.rightC c) (hn : c.keep.length = n) (hS : S = bz (Cf.tellL (Cf.linesC c))) (hL : LibW w) (hT : TabW w) :
    Calls Tryz.prog 51 #[.string S] w fun e w' => ∃ (D : Option Addr) (k : Nat), e = .returned (.tuple #[confV c D n k, .nilIface]) ∧ Sl w' 2 D n (Rk.cells c.keep) ∧ Below w.heap.size w w' := by
  subst hS
  refine (CfParse_any _ w (by have := Cf.text_len hr; omega) hL hT).mono fun e w' h => ?_
  obtain ⟨hb, ⟨c', A', m', d', hp, he, hm', hs'⟩ | ⟨k', wd', g', hp, _⟩⟩ := h
  · rw [Cf.parse_lines hr] at hp
    injection hp with hp
    subst hp
    obtain rfl : m' = n := by omega
    exact ⟨A', d', he, hs', hb⟩
  · rw [Cf.parse_lines hr] at hp; cases hp
set_option maxHeartbeats 1000000 in
theorem ConfTexts_walk (c : Cf.CF) (A : Option Addr) (n d : Nat) (w : World) (hn : c.keep.length = n) (hs : Sl w 2 A n (Rk.cells c.keep)) (hg : ErrT w) (hT : TabW w) (hL : LibW w) :
    Calls Tryz.prog 8 #[confV c A n d] w fun e w' => e = .returned (.bool true) ∧ Below w.heap.size w w' := by
  have HG := Lib.hid hg
  have HT := Lib.hid hT
  have HL := Lib.hid hL
  have HS := Lib.hid hs
  have HN := Lib.hid hn
  obtain ⟨cc, hcc⟩ : ∃ x, x = c := ⟨_, rfl⟩
  have HCC := Lib.hid hcc
  obtain ⟨kd, sz, sp, wk, cp, kp⟩ := c
  simp only at HN HS
  clear hg hT hL hs hn hcc
  obtain ⟨w0, hw0⟩ : ∃ W, W = w.alloc (.cells #[.int .i64 kd, .int .i64 sz, .int .i64 sp, .int .i64 wk, .int .i64 cp, .slice A n d] 75) := ⟨_, rfl⟩
  have HB0 := Lib.hid (show Below w.heap.size w w0 from by rw [hw0]; exact bel_al (Below.refl _ _) _)
  have HK0 := Lib.hid (show Blk w0 w.heap.size 75 #[.int .i64 kd, .int .i64 sz, .int .i64 sp, .int .i64 wk, .int .i64 cp, .slice A n d] from by rw [hw0]; exact Blk.new _ _ _)
  have HAl := Lib.hid (alive22 w0 (HG.out.keep HB0.out) (HT.out.keep HB0.out) (HL.out.keep HB0.out))
  go_enter Tryz.func8, Tryz.ntmps8
  go_upto_region 1 with (fail)
  rw [← hw0]
  clear hw0
  go_upto_region 3 with (go_at_call 47; refine HAl.out.mono ?_; clear HAl; rintro e w1 ⟨rfl, hb1⟩; have HB1 := Lib.hid (HB0.out.andThen hb1); have HK1 := Lib.hid (HK0.out.keep hb1); clear hb1)
  clear HK0 HB0
  have k0 := HK1.out.cell 0
  have k1 := HK1.out.cell 1
  have k2 := HK1.out.cell 2
  have k3 := HK1.out.cell 3
  have k4 := HK1.out.cell 4
  have k5 := HK1.out.cell 5
  simp at k0 k1 k2 k3 k4 k5
  by_cases h30 : 30 < n
  · have h30' : (30 : Int) < (n : Int) := by omega
    go_wp2_with fail
    go_ret
    exact ⟨rfl, HB1.out⟩
  have h30' : ¬ (30 : Int) < (n : Int) := by omega
  have HOf := Lib.hid (Of22_any ⟨kd, sz, sp, wk, cp, kp⟩ A n d w1 (by omega) (HS.out.keep HB1.out))
  go_upto_region 6 with (go_at_call 49; refine HOf.out.mono ?_; clear HOf; rintro e w2 ⟨D, dk, rfl, hsD, hb2⟩; have HB2 := Lib.hid (HB1.out.andThen hb2); have HK2 := Lib.hid (HK1.out.keep hb2); have HSD := Lib.hid hsD; clear hb2 hsD)
  obtain ⟨wa, hwa⟩ : ∃ W, W = w2.alloc (.cells #[.int .i64 kd, .int .i64 sz, .int .i64 sp, .int .i64 wk, .int .i64 cp, .slice D n dk] 80) := ⟨_, rfl⟩
  have HBa := Lib.hid (show Below w.heap.size w wa from by rw [hwa]; exact bel_al HB2.out _)
  have HKr := Lib.hid (show Blk wa w.heap.size 75 #[.int .i64 kd, .int .i64 sz, .int .i64 sp, .int .i64 wk, .int .i64 cp, .slice A n d] from by rw [hwa]; exact HK2.out.alloc _)
  have HKx := Lib.hid (show Blk wa w2.heap.size 80 #[.int .i64 kd, .int .i64 sz, .int .i64 sp, .int .i64 wk, .int .i64 cp, .slice D n dk] from by rw [hwa]; exact Blk.new _ _ _)
  have HSa := Lib.hid (show Sl wa 2 D n (Rk.cells kp) from by rw [hwa]; exact HSD.out.alloc _)
  rw [← hwa]
  clear hwa k0 k1 k2 k3 k4 k5 HK1 HK2 HSD
  have k0 := HKx.out.cell 0
  have k1 := HKx.out.cell 1
  have k2 := HKx.out.cell 2
  have k3 := HKx.out.cell 3
  have k4 := HKx.out.cell 4
  have k5 := HKx.out.cell 5
  simp at k0 k1 k2 k3 k4 k5
  by_cases hR : Cf.rightC ⟨kd, sz, sp, wk, cp, kp⟩
  · have HRy := Lib.hid (Right_y ⟨kd, sz, sp, wk, cp, kp⟩ D n dk wa hR HN.out (by omega) HSa.out)
    have HRf := Lib.hid (fun W (hW : Below w.heap.size w W) => RefRight_b ⟨kd, sz, sp, wk, cp, kp⟩ A n d W true (decide_eq_true hR) HN.out (by omega) (HS.out.keep hW))
    have HRt := Lib.hid hR
    clear hR
    go_upto_region 9 with (first
      | (go_at_call 53; refine HRy.out.mono ?_; clear HRy; rintro e w3 ⟨rfl, hb3⟩; have HB3a := Lib.hid hb3; have HB3 := Lib.hid (HBa.out.andThen hb3); have q0 := (HKr.out.keep hb3).cell 0; have q1 := (HKr.out.keep hb3).cell 1; have q2 := (HKr.out.keep hb3).cell 2; have q3 := (HKr.out.keep hb3).cell 3; have q4 := (HKr.out.keep hb3).cell 4; have q5 := (HKr.out.keep hb3).cell 5; simp at q0 q1 q2 q3 q4 q5; clear hb3)
      | (go_at_call 48; refine (HRf.out _ HB3.out).mono ?_; clear HRf; rintro e w4 ⟨rfl, hb4⟩; have HB4a := Lib.hid (HB3a.out.andThen hb4); have HB4 := Lib.hid (HB3.out.andThen hb4); clear hb4))
    clear k0 k1 k2 k3 k4 k5 q0 q1 q2 q3 q4 q5
    have HKr4 := Lib.hid (HKr.out.keep HB4a.out)
    have HKx4 := Lib.hid (HKx.out.keep HB4a.out)
    have HS4 := Lib.hid (HSa.out.keep HB4a.out)
    have k0 := HKx4.out.cell 0
    have k1 := HKx4.out.cell 1
    have k2 := HKx4.out.cell 2
    have k3 := HKx4.out.cell 3
    have k4 := HKx4.out.cell 4
    have k5 := HKx4.out.cell 5
    simp at k0 k1 k2 k3 k4 k5
    obtain ⟨TT, hTT⟩ : ∃ S, S = bz (Cf.tellL (Cf.linesC ⟨kd, sz, sp, wk, cp, kp⟩)) := ⟨_, rfl⟩
    have HTT := Lib.hid hTT
    clear hTT
    have HTx := Lib.hid (show Calls Tryz.prog 50 #[confV ⟨kd, sz, sp, wk, cp, kp⟩ D n dk] w4 fun e w' => e = .returned (.string TT) ∧ Below w4.heap.size w4 w' from by rw [HTT.out]; exact CfText_any _ D n dk w4 HRt.out HN.out HS4.out (HT.out.keep HB4.out))
    have HPt := Lib.hid (fun W (hW : Below w.heap.size w W) => Parse_told ⟨kd, sz, sp, wk, cp, kp⟩ TT n W HRt.out HN.out HTT.out (HL.out.keep hW) (HT.out.keep hW))
    go_upto_region 11 with (first
      | (go_at_call 50; refine HTx.out.mono ?_; clear HTx; rintro e w5 ⟨rfl, hb5⟩; have HB5a := Lib.hid hb5; have HB5 := Lib.hid (HB4.out.andThen hb5); clear hb5)
      | (go_at_call 51; refine (HPt.out _ HB5.out).mono ?_; clear HPt; rintro e w6 ⟨F, fk, rfl, hs6, hb6⟩; have HB6a := Lib.hid (HB5a.out.andThen hb6); have HB6 := Lib.hid (HB5.out.andThen hb6); have HS6 := Lib.hid hs6; clear hb6 hs6))
    obtain ⟨wb, hwb⟩ : ∃ W, W = w6.alloc (.cells #[.int .i64 kd, .int .i64 sz, .int .i64 sp, .int .i64 wk, .int .i64 cp, .slice F n fk] 80) := ⟨_, rfl⟩
    have HB4b := Lib.hid (show Below w4.heap.size w4 wb from by rw [hwb]; exact bel_al HB6a.out _)
    have HBb := Lib.hid (HB4.out.andThen HB4b.out)
    have HKrb := Lib.hid (HKr4.out.keep HB4b.out)
    have HKxb := Lib.hid (HKx4.out.keep HB4b.out)
    have HSb := Lib.hid (HS4.out.keep HB4b.out)
    have HKyb := Lib.hid (show Blk wb w6.heap.size 80 #[.int .i64 kd, .int .i64 sz, .int .i64 sp, .int .i64 wk, .int .i64 cp, .slice F n fk] from by rw [hwb]; exact Blk.new _ _ _)
    have HYb := Lib.hid (show Sl wb 2 F n (Rk.cells kp) from by rw [hwb]; exact HS6.out.alloc _)
    rw [← hwb]
    clear hwb k0 k1 k2 k3 k4 k5 HKr HKx HSa HKr4 HKx4 HS4 HS6
    have k0 := HKxb.out.cell 0
    have k1 := HKxb.out.cell 1
    have k2 := HKxb.out.cell 2
    have k3 := HKxb.out.cell 3
    have k4 := HKxb.out.cell 4
    have k5 := HKxb.out.cell 5
    simp at k0 k1 k2 k3 k4 k5
    have HPr := Lib.hid (CfProg_any ⟨kd, sz, sp, wk, cp, kp⟩ D n dk wb (by omega) HN.out HSb.out)
    go_upto_region 12 with (go_at_call 54; refine HPr.out.mono ?_; clear HPr; rintro e w7 ⟨pv7, rfl, hown, hb7⟩; have HB7b := Lib.hid hb7; have HB7 := Lib.hid (HBb.out.andThen hb7); have HO7 := Lib.hid hown; clear hb7 hown)
    have HKr7 := Lib.hid (HKrb.out.keep HB7b.out)
    have HKx7 := Lib.hid (HKxb.out.keep HB7b.out)
    have HKy7 := Lib.hid (HKyb.out.keep HB7b.out)
    have HX7 := Lib.hid (HSb.out.keep HB7b.out)
    have HY7 := Lib.hid (HYb.out.keep HB7b.out)
    clear k0 k1 k2 k3 k4 k5 HKrb HKxb HKyb HSb HYb
    have q0 := HKr7.out.cell 0
    have q5 := HKr7.out.cell 5
    simp at q0 q5
    have HK15 := Lib.hid HRt.out.2.1
    simp only at HK15
    have HRG := Lib.hid HRt.out.1
    simp only at HRG
    obtain ⟨TK, hTK⟩ : ∃ S, S = bz (textG kp) := ⟨_, rfl⟩
    have HTK := Lib.hid hTK
    clear hTK
    have HGi := Lib.hid (show ∀ o ∈ kp, (1 ≤ o.1 ∧ o.1 ≤ 8) ∧ i64P o.2 from fun o ho => ⟨(HRG.out.2 o ho).1, by have := (HRG.out.2 o ho).2.1; unfold i64P; omega⟩)
    have HCr := Lib.hid (show ∀ W, Below w7.heap.size w7 W → Calls Tryz.prog 55 #[confV ⟨kd, sz, sp, wk, cp, kp⟩ A n d] W fun e w' => e = .returned (.string TT) ∧ Below w7.heap.size w7 w' from fun W hW => by rw [HTT.out]; exact (RefText22_any ⟨kd, sz, sp, wk, cp, kp⟩ A n d W HRt.out HN.out (HS.out.keep (HB7.out.andThen hW))).mono fun e w' h => ⟨h.1, hW.andThen h.2⟩)
    have HCs := Lib.hid (show ∀ W, Below w7.heap.size w7 W → Calls Tryz.prog 52 #[confV ⟨kd, sz, sp, wk, cp, kp⟩ D n dk, confV ⟨kd, sz, sp, wk, cp, kp⟩ F n fk] W fun e w' => e = .returned (.bool true) ∧ Below w7.heap.size w7 w' from fun W hW => (Same22_any ⟨kd, sz, sp, wk, cp, kp⟩ D F n dk fk W (by omega) (HX7.out.keep hW) (HY7.out.keep hW) HRG.out (HT.out.keep (HB7.out.andThen hW))).mono fun e w' h => ⟨h.1, hW.andThen h.2⟩)
    have HCe := Lib.hid (show ∀ W, Below w7.heap.size w7 W → Calls Tryz.prog 56 #[confV ⟨kd, sz, sp, wk, cp, kp⟩ D n dk] W fun e w' => e = .returned (.bool (kd == 3)) ∧ Below w7.heap.size w7 w' from fun W hW => (CfEdges_any ⟨kd, sz, sp, wk, cp, kp⟩ D n dk W).mono fun e w' h => ⟨by
      rw [h.1]
      by_cases h3 : kd = 3
      · rw [decide_eq_true h3, h3]; rfl
      · rw [decide_eq_false h3]
        have : (kd == 3) = false := by simpa using h3
        rw [this], hW.andThen h.2⟩)
    have HCt := Lib.hid (show ∀ W, Below w7.heap.size w7 W → Calls Tryz.prog 57 #[.slice D n dk] W fun e w' => e = .returned (.string TK) ∧ Below w7.heap.size w7 w' from fun W hW => by rw [HTK.out]; exact (PgText_any kp D n dk W (by omega) (HX7.out.keep hW) HGi.out (HT.out.keep (HB7.out.andThen hW))).mono fun e w' h => ⟨h.1, hW.andThen h.2⟩)
    have HAll := Lib.hid (show ∀ W, Below w7.heap.size w7 W → (W.cell? ⟨w.heap.size, 0, none⟩ = some (.int .i64 kd) ∧ W.cell? ⟨w.heap.size, 1, none⟩ = some (.int .i64 sz) ∧ W.cell? ⟨w.heap.size, 2, none⟩ = some (.int .i64 sp) ∧ W.cell? ⟨w.heap.size, 3, none⟩ = some (.int .i64 wk) ∧ W.cell? ⟨w.heap.size, 4, none⟩ = some (.int .i64 cp) ∧ W.cell? ⟨w.heap.size, 5, none⟩ = some (.slice A n d)) ∧
      (W.cell? ⟨w2.heap.size, 0, none⟩ = some (.int .i64 kd) ∧ W.cell? ⟨w2.heap.size, 1, none⟩ = some (.int .i64 sz) ∧ W.cell? ⟨w2.heap.size, 2, none⟩ = some (.int .i64 sp) ∧ W.cell? ⟨w2.heap.size, 3, none⟩ = some (.int .i64 wk) ∧ W.cell? ⟨w2.heap.size, 4, none⟩ = some (.int .i64 cp) ∧ W.cell? ⟨w2.heap.size, 5, none⟩ = some (.slice D n dk)) ∧
      (W.cell? ⟨w6.heap.size, 0, none⟩ = some (.int .i64 kd) ∧ W.cell? ⟨w6.heap.size, 1, none⟩ = some (.int .i64 sz) ∧ W.cell? ⟨w6.heap.size, 2, none⟩ = some (.int .i64 sp) ∧ W.cell? ⟨w6.heap.size, 3, none⟩ = some (.int .i64 wk) ∧ W.cell? ⟨w6.heap.size, 4, none⟩ = some (.int .i64 cp) ∧ W.cell? ⟨w6.heap.size, 5, none⟩ = some (.slice F n fk)) from fun W hW => by
      have e1 := HKr7.out.keep hW
      have e2 := HKx7.out.keep hW
      have e3 := HKy7.out.keep hW
      exact ⟨⟨e1.cell 0, e1.cell 1, e1.cell 2, e1.cell 3, e1.cell 4, e1.cell 5⟩, ⟨e2.cell 0, e2.cell 1, e2.cell 2, e2.cell 3, e2.cell 4, e2.cell 5⟩, ⟨e3.cell 0, e3.cell 1, e3.cell 2, e3.cell 3, e3.cell 4, e3.cell 5⟩⟩)
    clear HKr7 HKx7 HKy7 HX7 HY7 HS
    by_cases h2 : kd = 2
    · have HPc := Lib.hid (show progC ⟨kd, sz, sp, wk, cp, kp⟩ = (1, 0) :: kp from by unfold progC; rw [if_pos h2])
      subst h2
      have ho := HO7.out
      rw [HPc.out, List.length_cons, HN.out] at ho
      obtain ⟨b, pc, rfl, _⟩ := own_form ho (by omega)
      have HPl := Lib.hid (own_cap ho)
      have HPs := Lib.hid (Sl.of_own ho)
      clear ho HO7
      have HP0 := Lib.hid (show ∀ W, Below w7.heap.size w7 W → W.cell? ⟨b, 0, none⟩ = some (.int .i64 1) from fun W hW => by
        obtain ⟨b', off', e1, hc⟩ := (HPs.out.keep hW).2 (by omega)
        cases e1
        have := hc 0 (.int .i64 1) rfl
        simpa using this)
      have HPu := Lib.hid (show ∀ W, Below w7.heap.size w7 W → Sl W 2 (if pc = 1 then some ⟨b, 0, none⟩ else some ⟨b, 2, none⟩) n (Rk.cells kp) from fun W hW => by
        have hpl := HPl.out.1
        by_cases hp1 : pc = 1
        · rw [if_pos hp1]
          obtain rfl : n = 0 := by omega
          have := HN.out
          obtain rfl := List.eq_nil_of_length_eq_zero this
          exact ⟨rfl, fun h => by omega⟩
        rw [if_neg hp1]
        refine ⟨?_, fun hn0 => ⟨b, 2, rfl, fun j u hu => ?_⟩⟩
        · have h1 := HPs.out.1
          rw [show Rk.cells ((1, 0) :: kp) = [.int .i64 1, .int .i64 0] ++ Rk.cells kp from rfl, List.length_append] at h1
          simp only [List.length_cons, List.length_nil] at h1
          omega
        · obtain ⟨b', off', e1, hc⟩ := (HPs.out.keep hW).2 (by omega)
          cases e1
          have := hc (j + 2) u (by rw [show Rk.cells ((1, 0) :: kp) = .int .i64 1 :: .int .i64 0 :: Rk.cells kp from rfl, List.getElem?_cons_succ, List.getElem?_cons_succ]; exact hu)
          rw [show 0 + (j + 2) = 2 + j by omega] at this
          exact this)
      have hpl1 := HPl.out.1
      have hw1 : IntKind.i64.wrap ((n : Int) + 1) = (n : Int) + 1 := by rw [IntKind.wrap_i64]; omega
      have hw2 : IntKind.i64.wrap ((n : Int) + 1 - (n : Int)) = 1 := by rw [IntKind.wrap_i64]; omega
      have hw3 : (n : Int) + 1 - (n : Int) = 1 := by omega
      have hw4 : IntKind.i64.wrap 1 = 1 := by decide
      have hw5 : (1 : Int) ≤ (n : Int) + 1 := by omega
      by_cases hp1 : pc = 1
      · subst hp1
        have hn00 : n = 0 := by omega
        clear hpl1 hw1 hw2 hw3 hw5
        subst hn00
        have hw1 : IntKind.i64.wrap (0 + 1) = 1 := by decide
        have hw2 : IntKind.i64.wrap (1 - 0) = 1 := by decide
        have HCu := Lib.hid (show ∀ W, Below w7.heap.size w7 W → ∀ q, Calls Tryz.prog 57 #[.slice (some ⟨b, 0, none⟩) 0 q] W fun e w' => e = .returned (.string TK) ∧ Below w7.heap.size w7 w' from fun W hW q => by rw [HTK.out]; exact (PgText_any kp (some ⟨b, 0, none⟩) 0 q W (by omega) (by have := HPu.out W hW; rw [if_pos rfl] at this; exact this) HGi.out (HT.out.keep (HB7.out.andThen hW))).mono fun e w' h => ⟨h.1, hW.andThen h.2⟩)
        go_upto_region 15 with (fail)
        go_cut [2] from 43 to 99 (fun s wx => s = .bool true ∧ Hid (Below w.heap.size w wx))
        case first =>
          clear q0 q5
          refine wp_region_qq (fun W => Below w7.heap.size w7 W) (by kernel_rfl) (by kernel_rfl) (bel_drewN (Below.refl _ _) 1) ?_
          repeat (
            first
              | (apply qq_want
                 · rfl
                 · intro W hW
                   have zz := HAll.out W hW
                   have z0 := HP0.out W hW
                   go_simp
                   first
                     | done
                     | exact rfl
                     | with_reducible exact HCr.out W hW
                     | with_reducible exact HCs.out W hW
                     | with_reducible exact HCe.out W hW
                     | with_reducible exact HCu.out W hW _
                     | with_reducible exact HCt.out W hW)
              | (refine qq_pass ?_ ?_
                 · rfl)
            try simp only [Act.put, List.setIfInBounds_toArray, List.set_cons_zero, List.set_cons_succ])
          refine qq_nil ?_
          intro wq hbq
          have HBq := Lib.hid (HB7.out.andThen hbq)
          clear hbq
          go_wp2_with fail
          go_meet
          exact ⟨rfl, HBq⟩
        case rest =>
          obtain ⟨rfl, HBq⟩ := hcut
          go_wp2_with fail
          go_ret
          exact ⟨rfl, HBq.out⟩
      · have HCu := Lib.hid (show ∀ W, Below w7.heap.size w7 W → ∀ q, Calls Tryz.prog 57 #[.slice (some ⟨b, 2, none⟩) n q] W fun e w' => e = .returned (.string TK) ∧ Below w7.heap.size w7 w' from fun W hW q => by rw [HTK.out]; exact (PgText_any kp (some ⟨b, 2, none⟩) n q W (by omega) (by have := HPu.out W hW; rw [if_neg hp1] at this; exact this) HGi.out (HT.out.keep (HB7.out.andThen hW))).mono fun e w' h => ⟨h.1, hW.andThen h.2⟩)
        go_upto_region 15 with (fail)
        go_cut [2] from 43 to 99 (fun s wx => s = .bool true ∧ Hid (Below w.heap.size w wx))
        case first =>
          clear q0 q5
          refine wp_region_qq (fun W => Below w7.heap.size w7 W) (by kernel_rfl) (by kernel_rfl) (bel_drewN (Below.refl _ _) 1) ?_
          repeat (
            first
              | (apply qq_want
                 · rfl
                 · intro W hW
                   have zz := HAll.out W hW
                   have z0 := HP0.out W hW
                   go_simp
                   first
                     | done
                     | exact rfl
                     | with_reducible exact HCr.out W hW
                     | with_reducible exact HCs.out W hW
                     | with_reducible exact HCe.out W hW
                     | with_reducible exact HCu.out W hW _
                     | with_reducible exact HCt.out W hW)
              | (refine qq_pass ?_ ?_
                 · rfl)
            try simp only [Act.put, List.setIfInBounds_toArray, List.set_cons_zero, List.set_cons_succ])
          refine qq_nil ?_
          intro wq hbq
          have HBq := Lib.hid (HB7.out.andThen hbq)
          clear hbq
          go_wp2_with fail
          go_meet
          exact ⟨rfl, HBq⟩
        case rest =>
          obtain ⟨rfl, HBq⟩ := hcut
          go_wp2_with fail
          go_ret
          exact ⟨rfl, HBq.out⟩
    · have HPc := Lib.hid (show progC ⟨kd, sz, sp, wk, cp, kp⟩ = kp from by unfold progC; rw [if_neg h2])
      have e2 : (kd == 2) = false := by simpa using h2
      have e2' : (kd != 2) = true := by simpa using h2
      have ho := HO7.out
      rw [HPc.out, HN.out] at ho
      clear HO7 h2
      have hw3 : (n : Int) - (n : Int) = 0 := by omega
      have hw4 : IntKind.i64.wrap 0 = 0 := by decide
      have hw5 : (0 : Int) ≤ (n : Int) := by omega
      have HOw := Lib.hid ho
      rcases ho.2 with ⟨rfl, hn0⟩ | ⟨b, pc, cur, rfl, _⟩
      · clear ho
        have hn00 : n = 0 := hn0
        clear hn0
        subst hn00
        have HCu := Lib.hid (show ∀ W, Below w7.heap.size w7 W → ∀ q, Calls Tryz.prog 57 #[.slice none 0 q] W fun e w' => e = .returned (.string TK) ∧ Below w7.heap.size w7 w' from fun W hW q => by rw [HTK.out]; exact (PgText_any kp none 0 q W (by omega) (by rw [List.eq_nil_of_length_eq_zero HN.out]; exact ⟨rfl, fun h => by omega⟩) HGi.out (HT.out.keep (HB7.out.andThen hW))).mono fun e w' h => ⟨h.1, hW.andThen h.2⟩)
        go_upto_region 15 with (fail)
        go_cut [2] from 43 to 99 (fun s wx => s = .bool true ∧ Hid (Below w.heap.size w wx))
        case first =>
          clear q0 q5
          refine wp_region_qq (fun W => Below w7.heap.size w7 W) (by kernel_rfl) (by kernel_rfl) (bel_drewN (Below.refl _ _) 1) ?_
          repeat (
            first
              | (apply qq_want
                 · rfl
                 · intro W hW
                   have zz := HAll.out W hW
                   go_simp
                   first
                     | done
                     | exact rfl
                     | with_reducible exact HCr.out W hW
                     | with_reducible exact HCs.out W hW
                     | with_reducible exact HCe.out W hW
                     | with_reducible exact HCu.out W hW _
                     | with_reducible exact HCt.out W hW)
              | (refine qq_pass ?_ ?_
                 · rfl)
            try simp only [Act.put, List.setIfInBounds_toArray, List.set_cons_zero, List.set_cons_succ])
          refine qq_nil ?_
          intro wq hbq
          have HBq := Lib.hid (HB7.out.andThen hbq)
          clear hbq
          go_wp2_with fail
          go_meet
          exact ⟨rfl, HBq⟩
        case rest =>
          obtain ⟨rfl, HBq⟩ := hcut
          go_wp2_with fail
          go_ret
          exact ⟨rfl, HBq.out⟩
      · have HPl := Lib.hid (own_cap ho)
        have HPs := Lib.hid (Sl.of_own ho)
        clear ho
        have HCu := Lib.hid (show ∀ W, Below w7.heap.size w7 W → ∀ q, Calls Tryz.prog 57 #[.slice (some ⟨b, 0, none⟩) n q] W fun e w' => e = .returned (.string TK) ∧ Below w7.heap.size w7 w' from fun W hW q => by rw [HTK.out]; exact (PgText_any kp (some ⟨b, 0, none⟩) n q W (by omega) (HPs.out.keep hW) HGi.out (HT.out.keep (HB7.out.andThen hW))).mono fun e w' h => ⟨h.1, hW.andThen h.2⟩)
        have hpl1 := HPl.out.1
        go_upto_region 15 with (fail)
        go_cut [2] from 43 to 99 (fun s wx => s = .bool true ∧ Hid (Below w.heap.size w wx))
        case first =>
          clear q0 q5
          refine wp_region_qq (fun W => Below w7.heap.size w7 W) (by kernel_rfl) (by kernel_rfl) (bel_drewN (Below.refl _ _) 1) ?_
          repeat (
            first
              | (apply qq_want
                 · rfl
                 · intro W hW
                   have zz := HAll.out W hW
                   go_simp
                   first
                     | done
                     | exact rfl
                     | with_reducible exact HCr.out W hW
                     | with_reducible exact HCs.out W hW
                     | with_reducible exact HCe.out W hW
                     | with_reducible exact HCu.out W hW _
                     | with_reducible exact HCt.out W hW)
              | (refine qq_pass ?_ ?_
                 · rfl)
            try simp only [Act.put, List.setIfInBounds_toArray, List.set_cons_zero, List.set_cons_succ])
          refine qq_nil ?_
          intro wq hbq
          have HBq := Lib.hid (HB7.out.andThen hbq)
          clear hbq
          go_wp2_with fail
          go_meet
          exact ⟨rfl, HBq⟩
        case rest =>
          obtain ⟨rfl, HBq⟩ := hcut
          go_wp2_with fail
          go_ret
          exact ⟨rfl, HBq.out⟩
  · have HRy := Lib.hid (Right_n ⟨kd, sz, sp, wk, cp, kp⟩ D n dk wa hR HN.out (by omega) HSa.out)
    have HRf := Lib.hid (fun W (hW : Below w.heap.size w W) => RefRight_b ⟨kd, sz, sp, wk, cp, kp⟩ A n d W false (decide_eq_false hR) HN.out (by omega) (HS.out.keep hW))
    clear hR
    go_wp2_with (first
      | (go_at_call 53; refine HRy.out.mono ?_; clear HRy; rintro e w3 ⟨g3, rfl, hv3, hb3⟩; have HB3a := Lib.hid hb3; have HV3 := Lib.hid hv3; have HB3 := Lib.hid (HBa.out.andThen hb3); have q0 := (HKr.out.keep hb3).cell 0; have q1 := (HKr.out.keep hb3).cell 1; have q2 := (HKr.out.keep hb3).cell 2; have q3 := (HKr.out.keep hb3).cell 3; have q4 := (HKr.out.keep hb3).cell 4; have q5 := (HKr.out.keep hb3).cell 5; simp at q0 q1 q2 q3 q4 q5; clear hb3 hv3)
      | (go_at_call 48; refine (HRf.out _ HB3.out).mono ?_; clear HRf; rintro e w4 ⟨rfl, hb4⟩; have HB4 := Lib.hid (HB3.out.andThen hb4); have HCd := Lib.hid (Code_flt g3 12 0 ⟨#[106, 111, 98]⟩ w4 (HG.out.keep HB4.out) (HV3.out.keep hb4)); clear hb4)
      | (go_at_call 29; refine HCd.out.mono ?_; clear HCd; rintro e w5 ⟨rfl, hb5⟩; have HB5 := Lib.hid (HB4.out.andThen hb5); clear hb5))
    go_ret
    exact ⟨rfl, HB5.out⟩
theorem ConfTexts_main (x0 x1 x2 x3 x4 : Int) (A : Option Addr) (n d : Nat) (K : List (Int × Int)) (w : World) (hg : ErrT w) (hT : TabW w) (hL : LibW w) (hn : K.length = n) (hm : n ≤ maxLen) (hs : Sl w 2 A n (Rk.cells K)) :
    Calls Tryz.prog 8 #[.agg #[.int .i64 x0, .int .i64 x1, .int .i64 x2, .int .i64 x3, .int .i64 x4, .slice A n d]] w fun e w' => e = .returned (.bool true) ∧ Below w.heap.size w w' :=
  ConfTexts_walk ⟨x0, x1, x2, x3, x4, K⟩ A n d w hn hs hg hT hL
end Go.Proofs.YtddedghnnkcnhaaGreatDoor
/-
  Jobs' texts plainly: the bytes of the parts of a text.
-/
namespace Go.Proofs.YtddedghnnkcnhaaGreatDoor.Cf
open Go Go.Proofs.YtddedghnnkcnhaaGreatDoor.Tx Go.Proofs.YtddedghnnkcnhaaGreatDoor.Pg
set_option linter.unusedVariables false

/-- A text, by its parts: the first line, what lies between, the last line. -/
structure Parts (t A M Z : List UInt8) (a am N : Nat) : Prop where
  text : t = (A ++ [10]) ++ M ++ (Z ++ [10])
  a_ : a = A.length
  am_ : am = A.length + 1 + M.length
  n_ : N = t.length
  nA : (10 : UInt8) ∉ A
  nZ : (10 : UInt8) ∉ Z
  last : ∃ M', (A ++ [10]) ++ M = M' ++ [10]
section
variable {t A M Z : List UInt8} {a am N : Nat}
theorem Parts.size (h : Parts t A M Z a am N) : N = am + Z.length + 1 ∧ a + 1 ≤ am := by
  rw [h.n_, h.text, h.am_, h.a_]
  simp only [List.length_append, List.length_cons, List.length_nil]
  omega
theorem Parts.at_first (h : Parts t A M Z a am N) {i : Nat} (hi : i < a) : ∃ b, t[i]? = some b ∧ b ≠ 10 := by
  have hi' : i < A.length := by rw [← h.a_]; exact hi
  refine ⟨A[i], ?_, fun e => h.nA (e ▸ List.getElem_mem hi')⟩
  rw [h.text, List.append_assoc, List.append_assoc, List.getElem?_append_left hi']
  exact List.getElem?_eq_getElem hi'
theorem Parts.at_a (h : Parts t A M Z a am N) : t[a]? = some 10 := by
  rw [h.text, h.a_, List.append_assoc, List.append_assoc, List.getElem?_append_right (Nat.le_refl _), Nat.sub_self]
  rfl
theorem Parts.at_last (h : Parts t A M Z a am N) {f : Nat} (h1 : am ≤ f) (h2 : f + 1 < N) : ∃ b, t[f]? = some b ∧ b ≠ 10 := by
  have hs := h.size.1
  have hl : ((A ++ [10]) ++ M).length = am := by
    rw [h.am_]
    simp only [List.length_append, List.length_cons, List.length_nil]
  have hf : f - am < Z.length := by omega
  refine ⟨Z[f - am], ?_, fun e => h.nZ (e ▸ List.getElem_mem hf)⟩
  rw [h.text, List.getElem?_append_right (by rw [hl]; exact h1), hl, List.getElem?_append_left hf]
  exact List.getElem?_eq_getElem hf
theorem Parts.at_am (h : Parts t A M Z a am N) {f : Nat} (h1 : f + 1 = am) : t[f]? = some 10 := by
  obtain ⟨M', hM⟩ := h.last
  have hl : (M' ++ [10]).length = am := by
    rw [← hM, h.am_]
    simp only [List.length_append, List.length_cons, List.length_nil]
  rw [List.length_append] at hl
  simp only [List.length_cons, List.length_nil] at hl
  rw [h.text, hM, List.append_assoc, List.getElem?_append_right (by omega), show f - M'.length = 0 by omega]
  rfl
theorem Parts.head (h : Parts t A M Z a am N) : t.take (a + 1) = A ++ [10] := by
  rw [h.text, List.append_assoc]
  exact List.take_left' (by rw [h.a_]; simp)
theorem Parts.tail (h : Parts t A M Z a am N) : t.drop am = Z ++ [10] := by
  rw [h.text]
  exact List.drop_left' (by rw [h.am_]; simp only [List.length_append, List.length_cons, List.length_nil])
theorem Parts.mid (h : Parts t A M Z a am N) : (t.take am).drop (a + 1) = M := by
  have e : t.take am = (A ++ [10]) ++ M := by
    rw [h.text]
    exact List.take_left' (by rw [h.am_]; simp only [List.length_append, List.length_cons, List.length_nil])
  rw [e]
  exact List.drop_left' (by rw [h.a_]; simp)
end
theorem parts_of {c : CF} (h : rightC c) : ∃ (A M Z : List UInt8) (a am N : Nat), Parts (tellL (linesC c)) A M Z a am N ∧ parseC ((A ++ [10]) ++ (Z ++ [10]) ++ M) = .ok c ∧ ∃ w, parseC (A ++ [10]) = .bad 1 w := by
  obtain ⟨A, Z, M, h1, h2, h3, h4, h5, h6⟩ := parts h
  exact ⟨A, M, Z, _, _, _, ⟨h3, rfl, rfl, rfl, h1, h2, h4⟩, h5, h6⟩
end Go.Proofs.YtddedghnnkcnhaaGreatDoor.Cf
/-
  Strings: indexed, cut; what is parsed, in one shape.
-/


namespace Go.Proofs.YtddedghnnkcnhaaGreatDoor
open Go.RowKit Go.Proofs.YtddedghnnkcnhaaGreatDoor.Pg
attribute [local go_sem ↓] Go.wp_at_zero Go.wp_at_succ
set_option maxRecDepth 100000
set_option linter.unusedVariables false

/-- What is parsed, in one shape. -/
def ParseOut (l : List UInt8) (c : Cf.CF) (A : Option Addr) (n d : Nat) (v : Value) (w' : World) : Prop :=
  (v = .nilIface ∧ Cf.parseC l = .ok c ∧ c.keep.length = n ∧ Sl w' 2 A n (Rk.cells c.keep)) ∨
    (c.kind = 0 ∧ ∃ k wd g, v = .iface 145 (.pointer (some ⟨g, 0, none⟩)) ∧ Cf.parseC l = .bad k wd ∧ Blk w' g 148 #[.int .i64 12, .int .i64 (k : Int), .string (bz wd)])
theorem Parse_out (l : List UInt8) (w : World) (hs : l.length ≤ 262144) (hL : LibW w) (hT : TabW w) :
    Calls Tryz.prog 51 #[.string (bz l)] w fun e w' => ∃ c A n d v, e = .returned (.tuple #[confV c A n d, v]) ∧ Below w.heap.size w w' ∧ ParseOut l c A n d v w' :=
  (CfParse_any l w hs hL hT).mono fun e w' h => by
    obtain ⟨hb, ⟨c, A, n, d, hp, he, hn, hs⟩ | ⟨k, wd, g, hp, he, hv⟩⟩ := h
    · exact ⟨c, A, n, d, _, he, hb, .inl ⟨rfl, hp, hn, hs⟩⟩
    · exact ⟨⟨0, 0, 0, 0, 0, []⟩, none, 0, 0, _, he, hb, .inr ⟨rfl, k, wd, g, rfl, hp, hv⟩⟩
theorem str_index {S : ByteArray} {l : List UInt8} (hS : S = bz l) {k : Nat} {b : UInt8} (hb : l[k]? = some b) : ∀ W, (Instr.index 9 (.string S) (.int .i64 (k : Int))).run Tryz.prog W = .ok (.int .u8 (b.toNat : Int)) W := fun W => by
  obtain ⟨h1, h2⟩ := List.getElem?_eq_some_iff.1 hb
  have hz : S.size = l.length := by rw [hS, bz_size]
  rw [run_index_string W 9 S .i64 (k : Int) Tryz.underlying9, dif_pos ⟨by omega, by omega⟩]
  subst hS
  congr 1
  congr 1
  congr 1
  congr 1
theorem str_to {S : ByteArray} {l : List UInt8} (hS : S = bz l) {k : Nat} (hk : k ≤ l.length) : ∀ W, (Instr.slice 9 (.string S) none (some (.int .i64 (k : Int))) none).run Tryz.prog W = .ok (.string (bz (l.take k))) W := fun W => by
  have hz : S.size = l.length := by rw [hS, bz_size]
  rw [run_slice_string_to_if W 9 S .i64 (k : Int) Tryz.underlying9, if_pos ⟨by omega, by omega⟩]
  congr 2
  apply ByteArray.ext
  subst hS
  rw [ByteArray.data_extract]
  simp
theorem ten_beq (b : UInt8) : (((b.toNat : Nat) : Int) == 10) = decide (b = 10) := by
  by_cases h : b = 10
  · subst h; rfl
  · rw [decide_eq_false h]
    simp only [beq_eq_false_iff_ne, ne_eq]
    intro h2
    exact h (UInt8.toNat_inj.1 (by show b.toNat = 10; omega))
theorem count_take {l : List UInt8} {k : Nat} {b : UInt8} (hb : l[k]? = some b) : (l.take (k + 1)).count 10 = (l.take k).count 10 + (if b = 10 then 1 else 0) := by
  obtain ⟨h1, h2⟩ := List.getElem?_eq_some_iff.1 hb
  rw [List.take_succ_eq_append_getElem h1, h2, List.count_append]
  by_cases h : b = 10
  · subst h; rfl
  · rw [if_neg h, List.count_cons_of_ne h]; rfl
end Go.Proofs.YtddedghnnkcnhaaGreatDoor
/-
  Strings cut from a place on, and between two places.
-/
namespace Go.Proofs.YtddedghnnkcnhaaGreatDoor
open Go.RowKit Go.Proofs.YtddedghnnkcnhaaGreatDoor.Pg
set_option linter.unusedVariables false

theorem str_from {S : ByteArray} {l : List UInt8} (hS : S = bz l) {k : Nat} (hk : k ≤ l.length) : ∀ W, (Instr.slice 9 (.string S) (some (.int .i64 (k : Int))) none none).run Tryz.prog W = .ok (.string (bz (l.drop k))) W := fun W => by
  have hz : S.size = l.length := by rw [hS, bz_size]
  rw [run_slice_string_from_if W 9 S .i64 (k : Int) Tryz.underlying9, if_pos ⟨by omega, by omega⟩]
  congr 2
  apply ByteArray.ext
  rw [ByteArray.data_extract, hz]
  subst hS
  simp
  exact List.take_of_length_le (by rw [List.length_drop]; omega)
theorem str_mid {S : ByteArray} {l : List UInt8} (hS : S = bz l) {i j : Nat} (hi : i ≤ j) (hj : j ≤ l.length) : ∀ W, (Instr.slice 9 (.string S) (some (.int .i64 (i : Int))) (some (.int .i64 (j : Int))) none).run Tryz.prog W = .ok (.string (bz ((l.take j).drop i))) W := fun W => by
  have hz : S.size = l.length := by rw [hS, bz_size]
  rw [run_slice_string_if W 9 S .i64 .i64 (i : Int) (j : Int) Tryz.underlying9, if_pos ⟨by omega, by omega⟩, if_pos ⟨by omega, by omega⟩]
  congr 2
  apply ByteArray.ext
  rw [ByteArray.data_extract]
  subst hS
  simp
  exact List.drop_take.symm
end Go.Proofs.YtddedghnnkcnhaaGreatDoor
