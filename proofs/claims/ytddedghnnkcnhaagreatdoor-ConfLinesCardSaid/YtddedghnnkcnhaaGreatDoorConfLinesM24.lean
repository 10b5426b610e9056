/-
  Part 24 of the proof of ConfLines: ConfLines, FrameC.
-/
import Derived.BigQuiet
import Derived.Deep.RegionHeld3
import Derived.Test.YtddedghnnkcnhaaGreatDoorConfLinesM23
import Derived.Test.YtddedghnnkcnhaaGreatDoorConfLinesM5
/-
  ConfLines: the walk.
-/
namespace Go.Proofs.YtddedghnnkcnhaaGreatDoor
open Go.RowKit Go.Proofs.YtddedghnnkcnhaaGreatDoor.Pg
attribute [local go_sem ↓] Go.wp_at_zero Go.wp_at_succ
set_option maxRecDepth 100000
set_option linter.unusedVariables false

theorem count_le' (l : List UInt8) (k : Nat) : (l.take k).count 10 ≤ l.length := by
  have h1 := List.count_le_length (a := (10 : UInt8)) (l := l.take k)
  rw [List.length_take] at h1
  omega
/-- A text that is parsed as a job. -/
theorem Parse_ok (l : List UInt8) (S : ByteArray) (c : Cf.CF) (n : Nat) (w : World) (hp : Cf.parseC l = .ok c) (hz : l.length ≤ 5000) (hn : c.keep.length = n) (hS : S = bz l) (hL : LibW w) (hT : TabW w) :
    Calls Tryz.prog 51 #[.string S] w fun e w' => ∃ (D : Option Addr) (k : Nat), e = .returned (.tuple #[confV c D n k, .nilIface]) ∧ Sl w' 2 D n (Rk.cells c.keep) ∧ Below w.heap.size w w' := by
  subst hS
  refine (CfParse_any _ w (by omega) hL hT).mono fun e w' h => ?_
  obtain ⟨hb, ⟨c', A', m', d', hp', he, hm', hs'⟩ | ⟨k', wd', g', hp', _⟩⟩ := h
  · rw [hp] at hp'
    injection hp' with hp'
    subst hp'
    obtain rfl : m' = n := by omega
    exact ⟨A', d', he, hs', hb⟩
  · rw [hp] at hp'; cases hp'
theorem Parse_no (l : List UInt8) (S : ByteArray) (m : Nat) (w : World) (hp : ∃ wd, Cf.parseC l = .bad m wd) (hz : l.length ≤ 5000) (hS : S = bz l) (hL : LibW w) (hT : TabW w) :
    Calls Tryz.prog 51 #[.string S] w fun e w' => ∃ (g : Nat) (X : ByteArray), e = .returned (.tuple #[conf0, .iface 145 (.pointer (some ⟨g, 0, none⟩))]) ∧ Blk w' g 148 #[.int .i64 12, .int .i64 (m : Int), .string X] ∧ Below w.heap.size w w' := by
  subst hS
  obtain ⟨wd, hp⟩ := hp
  refine (CfParse_any _ w (by omega) hL hT).mono fun e w' h => ?_
  obtain ⟨hb, ⟨c', A', m', d', hp', he, hm', hs'⟩ | ⟨k', wd', g', hp', he, hv⟩⟩ := h
  · rw [hp] at hp'; cases hp'
  · rw [hp] at hp'
    injection hp' with e1 e2
    subst e1
    exact ⟨g', _, he, hv, hb⟩
theorem RefRight17_big (A : Option Addr) (n d : Nat) (w : World) (h16 : 16 < n) : Calls Tryz.prog 67 #[.slice A n d] w fun e w' => e = .returned (.tuple #[.int .i64 6, .int .i64 0]) ∧ Below w.heap.size w w' := by
  have h16' : (16 : Int) < (n : Int) := by omega
  go_enter Tryz.func67, Tryz.ntmps67
  go_wp2_with fail
  go_ret2
  exact ⟨rfl, Below.refl _ _⟩
theorem RefRight22_big (c : Cf.CF) (A : Option Addr) (n d : Nat) (w : World) (h16 : 16 < n) : Calls Tryz.prog 48 #[confV c A n d] w fun e w' => e = .returned (.bool false) ∧ Below w.heap.size w w' := by
  have HBc := Lib.hid (bel_al (Below.refl w.heap.size w) (.cells #[.int .i64 c.kind, .int .i64 c.size, .int .i64 c.sup, .int .i64 c.wk, .int .i64 c.cap, .slice A n d] 75))
  have HPr := Lib.hid (fun W => RefRight17_big A n d W h16)
  clear h16
  go_enter Tryz.func48, Tryz.ntmps48
  go_wp2_with (go_at_call 67; refine (HPr.out _).mono ?_; clear HPr; rintro e w1 ⟨rfl, hb1⟩; have HB1 := Lib.hid (HBc.out.andThen hb1); clear hb1)
  go_ret
  exact ⟨rfl, HB1.out⟩
theorem RefRight_c (c : Cf.CF) (A : Option Addr) (n d : Nat) (w : World) (b : Bool) (hb : decide (Cf.rightC c) = b) (hn : c.keep.length = n) (hs : Sl w 2 A n (Rk.cells c.keep)) :
    Calls Tryz.prog 48 #[confV c A n d] w fun e w' => e = .returned (.bool b) ∧ Below w.heap.size w w' := by
  by_cases h9 : n ≤ 1000000
  · exact RefRight_b c A n d w b hb hn h9 hs
  · have hno : decide (Cf.rightC c) = false := decide_eq_false fun h => by have := h.2.1; omega
    rw [hno] at hb
    subst hb
    exact RefRight22_big c A n d w (by omega)
theorem zero_no {j : Nat} {k : Int} (hk : 1 ≤ k) : (#[.int .i64 0, .int .i64 0, .int .i64 0, .int .i64 0, .int .i64 0, .slice none 0 0] : Array Value)[j]? ≠ some (.int .i64 k) := by
  intro h
  rcases (show j = 0 ∨ j = 1 ∨ j = 2 ∨ j = 3 ∨ j = 4 ∨ j = 5 ∨ 6 ≤ j by omega) with rfl | rfl | rfl | rfl | rfl | rfl | h6
  · cases h; omega
  · cases h; omega
  · cases h; omega
  · cases h; omega
  · cases h; omega
  · cases h
  · rw [Array.getElem?_eq_none (by simpa using h6)] at h
    cases h
/-- What is kept lies in no block of a job that is all zero. -/
theorem sl_six {V : World} {R n : Nat} {E : Option Addr} {p : List (Int × Int)} (hg : rightG p) (h : Sl V 2 E n (Rk.cells p)) (hb : Blk V R 80 #[.int .i64 0, .int .i64 0, .int .i64 0, .int .i64 0, .int .i64 0, .slice none 0 0]) (x0 x1 x2 x3 x4 : Int) (s : Value) : Sl (six V R x0 x1 x2 x3 x4 s) 2 E n (Rk.cells p) := by
  rcases Nat.eq_zero_or_pos n with h0 | h0
  · exact ⟨h.1, fun hn => by omega⟩
  · refine h.asd (six_asd R x0 x1 x2 x3 x4 s) fun y hy e => ?_
    obtain ⟨b, off, hE, hc⟩ := h.2 h0
    rw [hE] at hy
    cases hy
    simp only at e
    subst e
    have hl := h.len2
    obtain ⟨o, r, rfl⟩ : ∃ o r, p = o :: r := by
      cases p with
      | nil => simp at hl; omega
      | cons o r => exact ⟨o, r, rfl⟩
    have h1 := hc 0 (.int .i64 o.1) rfl
    rw [Nat.add_zero, hb.cell off] at h1
    exact zero_no (hg.2 o (List.mem_cons_self ..)).1.1 h1
set_option maxHeartbeats 4000000 in
theorem ConfLines_walk (c : Cf.CF) (A : Option Addr) (n d k0 : Nat) (w : World) (hk0 : k0 < 256) (hn : c.keep.length = n) (hs : Sl w 2 A n (Rk.cells c.keep)) (hg : ErrT w) (hT : TabW w) (hL : LibW w) :
    Calls Tryz.prog 6 #[confV c A n d, .int .u8 (k0 : Int)] w fun e w' => e = .returned (.bool true) ∧ Below w.heap.size w w' := by
  have HG := Lib.hid hg
  have HT := Lib.hid hT
  have HL := Lib.hid hL
  have HS := Lib.hid hs
  have HN := Lib.hid hn
  obtain ⟨kd, sz, sp, wk, cp, kp⟩ := c
  simp only at HN HS
  clear hg hT hL hs hn
  obtain ⟨w0, hw0⟩ : ∃ W, W = w.alloc (.cells #[.int .i64 kd, .int .i64 sz, .int .i64 sp, .int .i64 wk, .int .i64 cp, .slice A n d] 75) := ⟨_, rfl⟩
  have HB0 := Lib.hid (show Below w.heap.size w w0 from by rw [hw0]; exact bel_al (Below.refl _ _) _)
  have HK0 := Lib.hid (show Blk w0 w.heap.size 75 #[.int .i64 kd, .int .i64 sz, .int .i64 sp, .int .i64 wk, .int .i64 cp, .slice A n d] from by rw [hw0]; exact Blk.new _ _ _)
  have HAl := Lib.hid (alive22 w0 (HG.out.keep HB0.out) (HT.out.keep HB0.out) (HL.out.keep HB0.out))
  go_enter Tryz.func6, Tryz.ntmps6
  go_upto_region 1 with (fail)
  rw [← hw0]
  clear hw0
  go_upto_region 3 with (go_at_call 47; refine HAl.out.mono ?_; clear HAl; rintro e w1 ⟨rfl, hb1⟩; have HB1 := Lib.hid (HB0.out.andThen hb1); have HK1 := Lib.hid (HK0.out.keep hb1); clear hb1)
  clear HK0 HB0
  have k0' := HK1.out.cell 0
  have k1 := HK1.out.cell 1
  have k2 := HK1.out.cell 2
  have k3 := HK1.out.cell 3
  have k4 := HK1.out.cell 4
  have k5 := HK1.out.cell 5
  simp at k0' k1 k2 k3 k4 k5
  by_cases hR : Cf.rightC ⟨kd, sz, sp, wk, cp, kp⟩
  · have HRf := Lib.hid (RefRight_c ⟨kd, sz, sp, wk, cp, kp⟩ A n d w1 true (decide_eq_true hR) HN.out (HS.out.keep HB1.out))
    have HRt := Lib.hid hR
    have hn15 : n ≤ 15 := by have h1 := hR.2.1; have h2 := HN.out; simp only at h1; omega
    clear hR
    have HOf := Lib.hid (fun W (hW : Below w.heap.size w W) => Of22_any ⟨kd, sz, sp, wk, cp, kp⟩ A n d W (by omega) (HS.out.keep hW))
    go_upto_region 6 with (first
      | (go_at_call 48; refine HRf.out.mono ?_; clear HRf; rintro e w4 ⟨rfl, hb4⟩; have HB4 := Lib.hid (HB1.out.andThen hb4); have HK4 := Lib.hid (HK1.out.keep hb4); have q0 := HK4.out.cell 0; have q1 := HK4.out.cell 1; have q2 := HK4.out.cell 2; have q3 := HK4.out.cell 3; have q4 := HK4.out.cell 4; have q5 := HK4.out.cell 5; simp at q0 q1 q2 q3 q4 q5; clear hb4)
      | (go_at_call 49; refine (HOf.out _ HB4.out).mono ?_; clear HOf; rintro e w2 ⟨D, dk, rfl, hsD, hb2⟩; have HB2 := Lib.hid (HB4.out.andThen hb2); have HSD := Lib.hid hsD; clear hb2 hsD))
    clear k0' k1 k2 k3 k4 k5 q0 q1 q2 q3 q4 q5
    obtain ⟨wa, hwa⟩ : ∃ W, W = w2.alloc (.cells #[.int .i64 kd, .int .i64 sz, .int .i64 sp, .int .i64 wk, .int .i64 cp, .slice D n dk] 80) := ⟨_, rfl⟩
    have HBa := Lib.hid (show Below w.heap.size w wa from by rw [hwa]; exact bel_al HB2.out _)
    have HKa := Lib.hid (show Blk wa w2.heap.size 80 #[.int .i64 kd, .int .i64 sz, .int .i64 sp, .int .i64 wk, .int .i64 cp, .slice D n dk] from by rw [hwa]; exact Blk.new _ _ _)
    have HSa := Lib.hid (show Sl wa 2 D n (Rk.cells kp) from by rw [hwa]; exact HSD.out.alloc _)
    rw [← hwa]
    clear hwa HK1 HK4 HSD
    have k0' := HKa.out.cell 0
    have k1 := HKa.out.cell 1
    have k2 := HKa.out.cell 2
    have k3 := HKa.out.cell 3
    have k4 := HKa.out.cell 4
    have k5 := HKa.out.cell 5
    simp at k0' k1 k2 k3 k4 k5
    obtain ⟨tl, htl⟩ : ∃ t, t = Cf.tellL (Cf.linesC ⟨kd, sz, sp, wk, cp, kp⟩) := ⟨_, rfl⟩
    obtain ⟨ln, hln⟩ : ∃ m, m = (Cf.linesC ⟨kd, sz, sp, wk, cp, kp⟩).length := ⟨_, rfl⟩
    obtain ⟨PA, PM, PZ, a, am, N, hpt, hpo, hpf⟩ := Cf.parts_of HRt.out
    have HCl := Lib.hid (show tl.count 10 = ln from by rw [htl, hln]; exact Cf.lines_count HRt.out)
    have HBd := Lib.hid (show ∀ (i : Nat) (b : List UInt8), Cf.badsL[i]? = some b → ∃ wd, Cf.parseC (tl ++ b) = .bad ln wd from fun i b hb => by rw [htl, hln]; exact Cf.bads_line HRt.out hb)
    have HZl := Lib.hid (show tl.length ≤ 1000 from by rw [htl]; exact Cf.text_len HRt.out)
    rw [← htl] at hpt
    have HPt := Lib.hid hpt
    have HPo := Lib.hid hpo
    have HPf := Lib.hid hpf
    have HSz := Lib.hid hpt.size
    have HNl := Lib.hid (show tl.length = N from hpt.n_.symm)
    have hN1 : N ≤ 1000 := by have := HZl.out; have := HNl.out; omega
    obtain ⟨TT, hTT⟩ : ∃ S, S = bz tl := ⟨_, rfl⟩
    have HTT := Lib.hid hTT
    have hz : TT.size = N := by rw [hTT, bz_size]; exact HNl.out
    have HTx := Lib.hid (show Calls Tryz.prog 50 #[confV ⟨kd, sz, sp, wk, cp, kp⟩ D n dk] wa fun e w' => e = .returned (.string TT) ∧ Below wa.heap.size wa w' from by rw [hTT, htl]; exact CfText_any _ D n dk wa HRt.out HN.out HSa.out (HT.out.keep HBa.out))
    clear htl hln hpt hpo hpf hTT
    go_upto_region 7 with (go_at_call 50; refine HTx.out.mono ?_; clear HTx; rintro e w5 ⟨rfl, hb5⟩; have HB5 := Lib.hid (HBa.out.andThen hb5); have HK5 := Lib.hid (HKa.out.keep hb5); have HS5 := Lib.hid (HSa.out.keep hb5); clear hb5)
    clear k0' k1 k2 k3 k4 k5 HKa HSa
    go_wp2_with fail
    go_loop [7, 8] (fun nv kv => ∃ k q : Nat, k ≤ N ∧ kv = .int .i64 (k : Int) ∧ nv = .int .i64 (q : Int) ∧ Hid (q = (tl.take k).count 10)) (fun _ kv => N - (intOf kv).toNat)
    case atStart => exact ⟨0, 0, Nat.zero_le _, rfl, rfl, Lib.hid rfl⟩
    case round =>
      obtain ⟨k, q, hk, rfl, rfl, HQ⟩ := hrel
      by_cases hlt : k < N
      · have hlt' : (k : Int) < (N : Int) := by omega
        have hk00 : (0 : Int) ≤ (k : Int) := by omega
        obtain ⟨b, hb⟩ : ∃ b, tl[k]? = some b := ⟨_, List.getElem?_eq_getElem (by rw [HNl.out]; exact hlt)⟩
        have hix := str_index HTT.out hb
        have HCt := Lib.hid (count_take hb)
        have hq6 : q ≤ 1000 := by have h1 := HQ.out; have h2 := count_le' tl k; have := HZl.out; omega
        have hwq : IntKind.i64.wrap ((q : Int) + 1) = (q : Int) + 1 := by rw [IntKind.wrap_i64]; omega
        have htb := ten_beq b
        by_cases hb10 : b = 10
        · subst hb10
          have HQ2 := Lib.hid (show q + 1 = (tl.take (k + 1)).count 10 from by rw [HCt.out, ← HQ.out]; rfl)
          rw [show (((10 : UInt8).toNat : Nat) : Int) = 10 from rfl] at hix
          clear hb htb
          go_wp2_with fail
          go_round
          case rel => exact ⟨k + 1, q + 1, by omega, by go_num, by go_num, HQ2⟩
          case measure => simp [intOf]; omega
        · rw [decide_eq_false hb10] at htb
          have HQ2 := Lib.hid (show q = (tl.take (k + 1)).count 10 from by rw [HCt.out, ← HQ.out, if_neg hb10]; rfl)
          obtain ⟨z, hzz⟩ : ∃ z : Int, z = ((b.toNat : Nat) : Int) := ⟨_, rfl⟩
          rw [← hzz] at hix htb
          clear hb hb10 hzz
          go_wp2_with fail
          go_round
          case rel => exact ⟨k + 1, q, by omega, by go_num, rfl, HQ2⟩
          case measure => simp [intOf]; omega
      · obtain rfl : k = N := by omega
        have hlt' : ¬ (k : Int) < (k : Int) := by omega
        obtain rfl : q = ln := by rw [HQ.out, List.take_of_length_le (by rw [HNl.out]; exact Nat.le_refl _)]; exact HCl.out
        clear HQ
        obtain ⟨j, hj⟩ : ∃ j, j = k0 % 8 := ⟨_, rfl⟩
        have hk00 : (0 : Int) ≤ (k0 : Int) := by omega
        have hkm : (k0 : Int) % 8 = (j : Int) := by omega
        have hj8 : j < 8 := by omega
        obtain ⟨bl, hbl⟩ : ∃ b, Cf.badsL[j]? = some b := ⟨_, List.getElem?_eq_getElem hj8⟩
        have HBl := Lib.hid (HBd.out j bl hbl)
        have hbz : bl.length ≤ 20 := by
          have : ∀ x ∈ Cf.badsL, x.length ≤ 20 := by decide
          exact this bl (List.mem_of_getElem? hbl)
        obtain ⟨BS, hBS⟩ : ∃ S, S = bz bl := ⟨_, rfl⟩
        have HBS := Lib.hid hBS
        have HJb := Lib.hid (show ∀ i, i = j → ∀ b, Cf.badsL[i]? = some b → bz b = BS from fun i hi b hb => by
          subst hi
          rw [hbl] at hb
          cases hb
          exact hBS.symm)
        clear hj hbl hBS
        go_upto_region 13 with (fail)
        go_cut [9] from 27 to 122 (fun s wx => s = .string BS ∧ Hid (Below w5.heap.size w5 wx))
        case first =>
          rcases (show j = 0 ∨ j = 1 ∨ j = 2 ∨ j = 3 ∨ j = 4 ∨ j = 5 ∨ j = 6 ∨ j = 7 by omega) with rfl | rfl | rfl | rfl | rfl | rfl | rfl | rfl
          all_goals (
            have HE := Lib.hid (HJb.out _ rfl _ rfl)
            go_wp2_with fail
            go_meet
            exact ⟨by rw [← HE.out], Lib.hid (bel_al (Below.refl _ _) _)⟩)
        case rest =>
        obtain ⟨rfl, HB6⟩ := hcut
        clear HJb hkm hj8
        have HB6w := Lib.hid (HB5.out.andThen HB6.out)
        obtain ⟨T2, hT2⟩ : ∃ S, S = bz (tl ++ bl) := ⟨_, rfl⟩
        have hadd : ∀ W, (Op.stringOp .add TT BS).run Tryz.prog W = .ok (.string T2) W := addS HTT.out HBS.out rfl (by have := HZl.out; rw [List.length_append]; omega) hT2
        have HP2 := Lib.hid (Parse_no (tl ++ bl) T2 q wc HBl.out (by have := HZl.out; rw [List.length_append]; omega) hT2 (HL.out.keep HB6w.out) (HT.out.keep HB6w.out))
        clear hT2 hbz
        go_upto_region 15 with (go_at_call 51; refine HP2.out.mono ?_; clear HP2; rintro e w7 ⟨g7, X7, rfl, hv7, hb7⟩; have HB7 := Lib.hid (HB6.out.andThen hb7); have HV7 := Lib.hid hv7; clear hb7 hv7)
        clear hadd
        obtain ⟨wd, hwd⟩ : ∃ W, W = w7.alloc (.cells #[.int .i64 0, .int .i64 0, .int .i64 0, .int .i64 0, .int .i64 0, .slice none 0 0] 80) := ⟨_, rfl⟩
        have HB5d := Lib.hid (show Below w5.heap.size w5 wd from by rw [hwd]; exact bel_al HB7.out _)
        have HVd := Lib.hid (show Blk wd g7 148 #[.int .i64 12, .int .i64 (q : Int), .string X7] from by rw [hwd]; exact HV7.out.alloc _)
        rw [← hwd]
        clear hwd HV7 HB7 HB6 HB6w
        have HBd' := Lib.hid (HB5.out.andThen HB5d.out)
        have HCo := Lib.hid (Code_flt g7 12 q X7 wd (HG.out.keep HBd'.out) HVd.out)
        have HAt := Lib.hid (fun W (hW : Below wd.heap.size wd W) => At_flt g7 12 q X7 W (HG.out.keep (HBd'.out.andThen hW)) (HVd.out.keep hW))
        go_upto_region 17 with (first
          | (go_at_call 29; refine HCo.out.mono ?_; clear HCo; rintro e w8 ⟨rfl, hb8⟩; have HB8 := Lib.hid hb8; clear hb8)
          | (go_at_call 46; refine (HAt.out _ HB8.out).mono ?_; clear HAt; rintro e w9 ⟨rfl, hb9⟩; have HB9 := Lib.hid (HB5d.out.andThen (HB8.out.andThen hb9)); clear hb9))
        have hwN : IntKind.i64.wrap ((k : Int) - 1) = ((k - 1 : Nat) : Int) := by rw [IntKind.wrap_i64]; have := HSz.out; omega
        have hwN2 : (k : Int) - 1 = ((k - 1 : Nat) : Int) := by have := HSz.out; omega
        obtain ⟨N1, hN1'⟩ : ∃ m, m = k - 1 := ⟨_, rfl⟩
        have HN1 := Lib.hid (show N1 + 1 = k from by have := HSz.out; omega)
        rw [← hN1'] at hwN hwN2
        clear hN1'
        go_wp2_with fail
        go_loop [12] (fun ev => ∃ e : Nat, am ≤ e ∧ e ≤ N1 ∧ ev = .int .i64 (e : Int)) (fun ev => (intOf ev).toNat)
        case atStart => exact ⟨N1, by have h1 := HSz.out.1; have h2 := HN1.out; omega, Nat.le_refl _, rfl⟩
        case round =>
          obtain ⟨e, he1, he2, rfl⟩ := hrel
          obtain ⟨f, hf⟩ : ∃ f, e = f + 1 := ⟨e - 1, by have := HSz.out.2; omega⟩
          have hep : (0 : Int) < (e : Int) := by omega
          have he9 : e ≤ 1000 := by have := HN1.out; omega
          have hwe : IntKind.i64.wrap ((e : Int) - 1) = (f : Int) := by rw [IntKind.wrap_i64]; omega
          have hwe2 : (e : Int) - 1 = (f : Int) := by omega
          by_cases hgt : am < e
          · obtain ⟨b, hb, hb10⟩ := HPt.out.at_last (f := f) (by omega) (by have := HN1.out; omega)
            have hix := str_index HTT.out hb
            have htb := ten_beq b
            rw [decide_eq_false hb10] at htb
            obtain ⟨z, hzz⟩ : ∃ z : Int, z = ((b.toNat : Nat) : Int) := ⟨_, rfl⟩
            rw [← hzz] at hix htb
            have htb2 : (z != 10) = true := by rw [bne, htb]; rfl
            have Hf := Lib.hid hf
            clear hb hb10 hzz hf
            go_wp2_with fail
            go_round
            case rel => exact ⟨f, by have := Hf.out; omega, by have := Hf.out; omega, by go_num⟩
            case measure => have := Hf.out; simp [intOf]; omega
          · obtain rfl : e = am := by omega
            have hix := str_index HTT.out (HPt.out.at_am hf.symm)
            rw [show (((10 : UInt8).toNat : Nat) : Int) = 10 from rfl] at hix
            have Hf := Lib.hid hf
            clear hf hgt he1 he2
            go_wp2_with fail
            clear hix hwe hwe2
            go_loop [13] (fun iv => ∃ i : Nat, i ≤ a ∧ iv = .int .i64 (i : Int)) (fun iv => a - (intOf iv).toNat)
            case atStart => exact ⟨0, Nat.zero_le _, rfl⟩
            case round =>
              obtain ⟨i, hi, rfl⟩ := hrel
              have hi0 : (0 : Int) ≤ (i : Int) := by omega
              have ha9 : a + 1 ≤ 1000 := by have h1 := HSz.out; omega
              by_cases hia : i < a
              · obtain ⟨b, hb, hb10⟩ := HPt.out.at_first hia
                have hix := str_index HTT.out hb
                have htb := ten_beq b
                rw [decide_eq_false hb10] at htb
                obtain ⟨z, hzz⟩ : ∃ z : Int, z = ((b.toNat : Nat) : Int) := ⟨_, rfl⟩
                rw [← hzz] at hix htb
                have htb2 : (z != 10) = true := by rw [bne, htb]; rfl
                clear hb hb10 hzz
                go_wp2_with fail
                go_round
                case rel => exact ⟨i + 1, by omega, by go_num⟩
                case measure => simp [intOf]; omega
              · obtain rfl : i = a := by omega
                have hix := str_index HTT.out HPt.out.at_a
                rw [show (((10 : UInt8).toNat : Nat) : Int) = 10 from rfl] at hix
                clear hia hi
                obtain ⟨a1, ha1⟩ : ∃ a1, a1 = i + 1 := ⟨_, rfl⟩
                have hwa : IntKind.i64.wrap ((i : Int) + 1) = (i : Int) + 1 := by rw [IntKind.wrap_i64]; omega
                have hai : ((i + 1 : Nat) : Int) = (i : Int) + 1 := by omega
                have hb1 : (0 : Int) ≤ (i : Int) + 1 := by omega
                have hb2 : (i : Int) + 1 ≤ (k : Int) := by have h2 := HSz.out; omega
                have hb3 : (i : Int) + 1 ≤ (e : Int) := by have h2 := HSz.out; omega
                have hb4 : (0 : Int) ≤ (e : Int) := by omega
                have hb5 : (e : Int) ≤ (k : Int) := by have h2 := HSz.out; omega
                obtain ⟨Q1, hQ1⟩ : ∃ S, S = bz (PA ++ [10]) := ⟨_, rfl⟩
                obtain ⟨Q2, hQ2⟩ : ∃ S, S = bz (PZ ++ [10]) := ⟨_, rfl⟩
                obtain ⟨Q3, hQ3⟩ : ∃ S, S = bz PM := ⟨_, rfl⟩
                obtain ⟨Q4, hQ4⟩ : ∃ S, S = bz ((PA ++ [10]) ++ (PZ ++ [10])) := ⟨_, rfl⟩
                obtain ⟨Q5, hQ5⟩ : ∃ S, S = bz ((PA ++ [10]) ++ (PZ ++ [10]) ++ PM) := ⟨_, rfl⟩
                have hall : (PA ++ [10]).length + PM.length + (PZ ++ [10]).length ≤ 1000 := by
                  have h1 := HPt.out.text
                  have h2 := congrArg List.length h1
                  rw [List.length_append, List.length_append] at h2
                  have h3 := HZl.out
                  omega
                have s1 : ∀ W, (Instr.slice 9 (.string TT) none (some (.int .i64 ((i : Int) + 1))) none).run Tryz.prog W = .ok (.string Q1) W := by
                  have h := str_to HTT.out (k := a1) (by have h1 := HNl.out; have h2 := HSz.out; omega)
                  rw [ha1, HPt.out.head, ← hQ1, hai] at h
                  exact h
                have s2 : ∀ W, (Instr.slice 9 (.string TT) (some (.int .i64 (e : Int))) none none).run Tryz.prog W = .ok (.string Q2) W := by
                  have h := str_from HTT.out (k := e) (by have h1 := HNl.out; have h2 := HSz.out; omega)
                  rw [HPt.out.tail, ← hQ2] at h
                  exact h
                have s3 : ∀ W, (Instr.slice 9 (.string TT) (some (.int .i64 ((i : Int) + 1))) (some (.int .i64 (e : Int))) none).run Tryz.prog W = .ok (.string Q3) W := by
                  have h := str_mid HTT.out (i := a1) (j := e) (by have h2 := HSz.out; omega) (by have h1 := HNl.out; have h2 := HSz.out; omega)
                  rw [ha1, HPt.out.mid, ← hQ3, hai] at h
                  exact h
                have HQ1s := Lib.hid s1
                have s4 : ∀ W, (Op.stringOp .add Q1 Q2).run Tryz.prog W = .ok (.string Q4) W := addS hQ1 hQ2 rfl (by rw [List.length_append]; omega) hQ4
                have s5 : ∀ W, (Op.stringOp .add Q4 Q3).run Tryz.prog W = .ok (.string Q5) W := addS hQ4 hQ3 rfl (by rw [List.length_append, List.length_append]; omega) hQ5
                have HPy := Lib.hid (fun W (hW : Below w.heap.size w W) => Parse_ok _ Q5 ⟨kd, sz, sp, wk, cp, kp⟩ n W HPo.out (by rw [List.length_append, List.length_append]; omega) HN.out hQ5 (HL.out.keep hW) (HT.out.keep hW))
                have HPz := Lib.hid (fun W (hW : Below w.heap.size w W) => Parse_no _ Q1 1 W HPf.out (by omega) hQ1 (HL.out.keep hW) (HT.out.keep hW))
                clear hQ1 hQ2 hQ3 hQ4 hQ5 hall ha1
                have HK9 := Lib.hid (HK5.out.keep HB9.out)
                have HS9 := Lib.hid (HS5.out.keep HB9.out)
                have HBw9 := Lib.hid (HB5.out.andThen HB9.out)
                go_upto_region 23 with (fail)
                clear hix
                go_cut [14, 15] from 80 to 122 (fun p v wx => ∃ (g : Nat) (E : Option Addr) (ek : Nat), p = .pointer (some ⟨g, 0, none⟩) ∧ v = .nilIface ∧ Hid (Blk wx g 80 #[.int .i64 kd, .int .i64 sz, .int .i64 sp, .int .i64 wk, .int .i64 cp, .slice E n ek]) ∧ Hid (Sl wx 2 E n (Rk.cells kp)) ∧ Hid (Below w9.heap.size w9 wx))
                case first =>
                  go_region_held3 (fun w' => True) (exact trivial)
                    (first
                      | (go_at_call 51; refine (HPy.out _ (HBw9.out.andThen (bel_drewN (Below.refl w9.heap.size w9) 1))).mono ?_; rintro e w6 ⟨E, ek, rfl, hs6, hb6⟩; have HBx := Lib.hid ((bel_drewN (Below.refl w9.heap.size w9) 1).andThen hb6); have HSx := Lib.hid hs6; clear hs6 hb6)
                      | (go_at_call 51; refine (HPy.out _ (HBw9.out.andThen (bel_drewN (bel_al (Below.refl w9.heap.size w9) (.cells #[.int .i64 0, .int .i64 0, .int .i64 0, .int .i64 0, .int .i64 0, .slice none 0 0] 80)) 1))).mono ?_; rintro e w6 ⟨E, ek, rfl, hs6, hb6⟩; have HZx := Lib.hid ((Blk.new w9 80 #[.int .i64 0, .int .i64 0, .int .i64 0, .int .i64 0, .int .i64 0, .slice none 0 0]).drew.keep hb6); have HBx := Lib.hid ((bel_drewN (bel_al (Below.refl w9.heap.size w9) (.cells #[.int .i64 0, .int .i64 0, .int .i64 0, .int .i64 0, .int .i64 0, .slice none 0 0] 80)) 1).andThen hb6); have HSx := Lib.hid hs6; have z0 := HZx.out.cell 0; have z1 := HZx.out.cell 1; have z2 := HZx.out.cell 2; have z3 := HZx.out.cell 3; have z4 := HZx.out.cell 4; have z5 := HZx.out.cell 5; have f0 := HZx.out.frozen 0; have f1 := HZx.out.frozen 1; have f2 := HZx.out.frozen 2; have f3 := HZx.out.frozen 3; have f4 := HZx.out.frozen 4; have f5 := HZx.out.frozen 5; simp at z0 z1 z2 z3 z4 z5; clear hs6 hb6))
                  all_goals (
                    go_wp2_with fail
                    go_meet
                    first
                      | exact ⟨w9.heap.size, E, ek, rfl, rfl, Lib.hid (six_blk HZx.out kd sz sp wk cp (.slice E n ek)), Lib.hid (sl_six HRt.out.1 HSx.out HZx.out kd sz sp wk cp (.slice E n ek)), Lib.hid (six_below HBx.out (Nat.le_refl _) kd sz sp wk cp (.slice E n ek))⟩
                      | exact ⟨_, E, ek, rfl, rfl, Lib.hid (Blk.new _ _ _), Lib.hid (HSx.out.alloc _), Lib.hid (bel_al HBx.out _)⟩)
                case rest =>
                clear s1 s2 s3 s4 s5
                have s1 := HQ1s.out
                obtain ⟨g, E, ek, rfl, rfl, HKc, HSc, HBc⟩ := hcut
                have HBwc := Lib.hid (HBw9.out.andThen HBc.out)
                go_upto_region 25 with (go_at_call 51; refine (HPz.out _ HBwc.out).mono ?_; clear HPz; rintro e wz ⟨gz, Xz, rfl, hvz, hbz⟩; have HBz := Lib.hid hbz; have HVz := Lib.hid hvz; clear hbz hvz)
                obtain ⟨we, hwe⟩ : ∃ W, W = wz.alloc (.cells #[.int .i64 0, .int .i64 0, .int .i64 0, .int .i64 0, .int .i64 0, .slice none 0 0] 80) := ⟨_, rfl⟩
                have HBe := Lib.hid (show Below wc.heap.size wc we from by rw [hwe]; exact bel_al HBz.out _)
                have HVe := Lib.hid (show Blk we gz 148 #[.int .i64 12, .int .i64 1, .string Xz] from by rw [hwe]; exact HVz.out.alloc _)
                rw [← hwe]
                clear hwe HVz s1
                have HBwe := Lib.hid (HBwc.out.andThen HBe.out)
                have HKxe := Lib.hid (HK9.out.keep (HBc.out.andThen HBe.out))
                have HSxe := Lib.hid (HS9.out.keep (HBc.out.andThen HBe.out))
                have HKye := Lib.hid (HKc.out.keep HBe.out)
                have HSye := Lib.hid (HSc.out.keep HBe.out)
                have q0 := HKxe.out.cell 0
                have q1 := HKxe.out.cell 1
                have q2 := HKxe.out.cell 2
                have q3 := HKxe.out.cell 3
                have q4 := HKxe.out.cell 4
                have q5 := HKxe.out.cell 5
                have p0 := HKye.out.cell 0
                have p1 := HKye.out.cell 1
                have p2 := HKye.out.cell 2
                have p3 := HKye.out.cell 3
                have p4 := HKye.out.cell 4
                have p5 := HKye.out.cell 5
                simp at q0 q1 q2 q3 q4 q5 p0 p1 p2 p3 p4 p5
                have HSm := Lib.hid (Same22_any ⟨kd, sz, sp, wk, cp, kp⟩ D E n dk ek we (by omega) HSxe.out HSye.out HRt.out.1 (HT.out.keep HBwe.out))
                have HCz := Lib.hid (fun W (hW : Below we.heap.size we W) => Code_flt gz 12 1 Xz W (HG.out.keep (HBwe.out.andThen hW)) (HVe.out.keep hW))
                have HAz := Lib.hid (fun W (hW : Below we.heap.size we W) => At_flt gz 12 1 Xz W (HG.out.keep (HBwe.out.andThen hW)) (HVe.out.keep hW))
                go_wp2_with (first
                  | (go_at_call 52; refine HSm.out.mono ?_; clear HSm; rintro e v1 ⟨rfl, hc1⟩; have HC1 := Lib.hid hc1; clear hc1)
                  | (go_at_call 29; refine (HCz.out _ HC1.out).mono ?_; clear HCz; rintro e v2 ⟨rfl, hc2⟩; have HC2 := Lib.hid (HC1.out.andThen hc2); clear hc2)
                  | (go_at_call 46; refine (HAz.out _ HC2.out).mono ?_; clear HAz; rintro e v3 ⟨rfl, hc3⟩; have HC3 := Lib.hid (HBwe.out.andThen (HC2.out.andThen hc3)); clear hc3))
                go_ret
                exact ⟨rfl, HC3.out⟩
  · have HRf := Lib.hid (RefRight_c ⟨kd, sz, sp, wk, cp, kp⟩ A n d w1 false (decide_eq_false hR) HN.out (HS.out.keep HB1.out))
    clear hR
    go_wp2_with (go_at_call 48; refine HRf.out.mono ?_; clear HRf; rintro e w4 ⟨rfl, hb4⟩; have HB4 := Lib.hid (HB1.out.andThen hb4); clear hb4)
    go_ret
    exact ⟨rfl, HB4.out⟩
theorem ConfLines_main (x0 x1 x2 x3 x4 : Int) (A : Option Addr) (n d : Nat) (K : List (Int × Int)) (k : Int) (w : World) (hg : ErrT w) (hT : TabW w) (hL : LibW w) (hn : K.length = n) (hm : n ≤ maxLen) (hs : Sl w 2 A n (Rk.cells K)) (hk : (Lit.int .u8 k).wf = true) :
    Calls Tryz.prog 6 #[.agg #[.int .i64 x0, .int .i64 x1, .int .i64 x2, .int .i64 x3, .int .i64 x4, .slice A n d], .int .u8 k] w fun e w' => e = .returned (.bool true) ∧ Below w.heap.size w w' := by
  obtain ⟨j, rfl, hj⟩ : ∃ j : Nat, k = (j : Int) ∧ j < 256 := by
    have := wf_u8 hk
    exact ⟨k.toNat, by omega, by omega⟩
  exact ConfLines_walk ⟨x0, x1, x2, x3, x4, K⟩ A n d j w hj hn hs hg hT hL
end Go.Proofs.YtddedghnnkcnhaaGreatDoor
/-
  What is asked of a job, as it came in (a struct of six one-cell fields), the first form.
-/
namespace Go.Proofs.YtddedghnnkcnhaaGreatDoor
open Go.ChangeShapes Go.WideShapes Go.ChangeAt Go.RowKit Go.Joins Go.Deep
set_option linter.unusedVariables false
set_option maxRecDepth 100000

theorem array6 {α : Type} {cs : Array α} (h : cs.size = 6) : ∃ c0 c1 c2 c3 c4 c5, cs = #[c0, c1, c2, c3, c4, c5] := by
  obtain ⟨l⟩ := cs
  match l, h with
  | [c0, c1, c2, c3, c4, c5], _ => exact ⟨c0, c1, c2, c3, c4, c5, rfl⟩
theorem list6 {α : Type} {l : List α} (h : l.length = 6) : ∃ c0 c1 c2 c3 c4 c5, l = [c0, c1, c2, c3, c4, c5] := by
  match l, h with
  | [c0, c1, c2, c3, c4, c5], _ => exact ⟨c0, c1, c2, c3, c4, c5, rfl⟩
section
variable {H : Type} {enc : TypeId × Value → H} {P : Program} {w : World} {base : Nat} {spare : Nat → Bool} {held : Bool}
theorem open_agg6 {r : Reach} {b0 : Nat} {t : TypeId} {f0 f1 f2 f3 f4 f5 : Field} {v : Value} {d : DataW H} {p : List MemPlace} (hs : P.underlying t = some (.struct #[f0, f1, f2, f3, f4, f5])) (hone : oneCellFields P #[f0, f1, f2, f3, f4, f5] = true) (hC : P.cellsOf t = 6)
    (hv : Value.okWide P w r b0 t v) (h : DataW.Trod enc P w base spare held t v d p) :
    ∃ (v0 v1 v2 v3 v4 v5 : Value) (y0 y1 y2 y3 y4 y5 : DataW H × List MemPlace) (n : Nat), v = .agg #[v0, v1, v2, v3, v4, v5] ∧
      DataW.trod enc P w base spare held n f0.type [v0] = some y0 ∧ DataW.trod enc P w base spare held n f1.type [v1] = some y1 ∧ DataW.trod enc P w base spare held n f2.type [v2] = some y2 ∧ DataW.trod enc P w base spare held n f3.type [v3] = some y3 ∧
      DataW.trod enc P w base spare held n f4.type [v4] = some y4 ∧ DataW.trod enc P w base spare held n f5.type [v5] = some y5 := by
  obtain ⟨cs, rfl, hsz⟩ := okWide_struct hs hv
  obtain ⟨c0, c1, c2, c3, c4, c5, rfl⟩ := array6 (hsz.trans hC)
  obtain ⟨fuel, hf⟩ := h
  obtain ⟨xs, n, _, hx, _, hlen, hg⟩ := DataW.trod_struct hs hf
  obtain ⟨y0, y1, y2, y3, y4, y5, rfl⟩ := list6 (show xs.length = 6 from hlen)
  obtain ⟨o0, k0⟩ := hone_of hone 0 f0 rfl
  obtain ⟨o1, k1⟩ := hone_of hone 1 f1 rfl
  obtain ⟨o2, k2⟩ := hone_of hone 2 f2 rfl
  obtain ⟨o3, k3⟩ := hone_of hone 3 f3 rfl
  obtain ⟨o4, k4⟩ := hone_of hone 4 f4 rfl
  obtain ⟨o5, k5⟩ := hone_of hone 5 f5 rfl
  have h0 := hg 0 f0 rfl
  have h1 := hg 1 f1 rfl
  have h2 := hg 2 f2 rfl
  have h3 := hg 3 f3 rfl
  have h4 := hg 4 f4 rfl
  have h5 := hg 5 f5 rfl
  exact ⟨c0, c1, c2, c3, c4, c5, y0, y1, y2, y3, y4, y5, n, rfl, by simpa [Value.cells, o0, k0] using h0, by simpa [Value.cells, o1, k1] using h1, by simpa [Value.cells, o2, k2] using h2, by simpa [Value.cells, o3, k3] using h3, by simpa [Value.cells, o4, k4] using h4, by simpa [Value.cells, o5, k5] using h5⟩
end
section
variable {H : Type} {enc : TypeId × Value → H} {w : World} {base b0 : Nat} {spare : Nat → Bool} {held : Bool} {r : Reach}
/-- What is asked, as it came in. -/
theorem open_conf {v : Value} {d : DataW H} {p : List MemPlace} (hv : Value.okWide Tryz.prog w r b0 75 v) (h : DataW.Trod enc Tryz.prog w base spare held 75 v d p) :
    ∃ (x0 x1 x2 x3 x4 : Int) (A : Option Addr) (n c : Nat) (K : List (Int × Int)), v = .agg #[.int .i64 x0, .int .i64 x1, .int .i64 x2, .int .i64 x3, .int .i64 x4, .slice A n c] ∧ K.length = n ∧ n ≤ maxLen ∧ Sl w 2 A n (Rk.cells K) := by
  obtain ⟨c0, c1, c2, c3, c4, c5, y0, y1, y2, y3, y4, y5, fu, rfl, hy0, hy1, hy2, hy3, hy4, hy5⟩ := open_agg6 Tryz.underlying75 (by kernel_rfl) (by kernel_rfl) hv h
  obtain ⟨x0, e0, _, _⟩ := DataW.trod_int Tryz.underlying3 hy0
  obtain ⟨x1, e1, _, _⟩ := DataW.trod_int Tryz.underlying3 hy1
  obtain ⟨x2, e2, _, _⟩ := DataW.trod_int Tryz.underlying3 hy2
  obtain ⟨x3, e3, _, _⟩ := DataW.trod_int Tryz.underlying3 hy3
  obtain ⟨x4, e4, _, _⟩ := DataW.trod_int Tryz.underlying3 hy4
  cases e0
  cases e1
  cases e2
  cases e3
  cases e4
  obtain ⟨A, n, c, rfl⟩ := slice_shape Tryz.underlying73 hy5
  obtain ⟨hm, K, hK, hs, _⟩ := open_sl_pairs Tryz.underlying73 Tryz.underlying193 (by kernel_rfl) rfl rfl (by kernel_rfl) (by kernel_rfl) Tryz.underlying3 Tryz.underlying3 hy5
  exact ⟨x0, x1, x2, x3, x4, A, n, c, K, rfl, hK, hm, hs⟩
end
end Go.Proofs.YtddedghnnkcnhaaGreatDoor
