/-
  Part 21 of the proof of ConfLines: CfF.
-/
import Derived.BigQuiet
import Derived.Deep.RegionHeld3
import Derived.Deep.RegionHeldLaw
import Derived.Laws.OwnMore
import Derived.Test.YtddedghnnkcnhaaGreatDoorConfLinesM16
import Derived.Test.YtddedghnnkcnhaaGreatDoorConfLinesM20
/-
  conf: walks of Text, Edges.
-/
namespace Go.Proofs.YtddedghnnkcnhaaGreatDoor
open Go.RowKit Go.Proofs.YtddedghnnkcnhaaGreatDoor.Pg
attribute [local go_sem ↓] Go.wp_at_zero Go.wp_at_succ
set_option maxRecDepth 100000
set_option linter.unusedVariables false

theorem joinTail_ten : ∀ r : List (List UInt8), Lib.joinTail [10] r ++ [10] = [10] ++ Cf.tellL r
  | [] => rfl
  | y :: r => by
    have ih := joinTail_ten r
    unfold Lib.joinTail at ih ⊢
    unfold Cf.tellL at ih ⊢
    rw [List.map_cons, List.flatten_cons, List.append_assoc, ih, List.flatMap_cons]
    simp
theorem join_tell : ∀ {r : List (List UInt8)}, r ≠ [] → Lib.join r [10] ++ [10] = Cf.tellL r
  | [], h => absurd rfl h
  | x :: r, _ => by
    rw [Lib.join_cons, List.append_assoc, joinTail_ten]
    unfold Cf.tellL
    rw [List.flatMap_cons]
    simp
theorem add_line (w t : List UInt8) (W : World) (h : w.length + 1 + t.length ≤ 100000) : (Op.stringOp .add (bz (w ++ [32])) (bz t)).run Tryz.prog W = .ok (.string (bz (Cf.lineW w t))) W := by
  rw [run_string_add_sum W _ _ (by rw [bz_size, bz_size, List.length_append]; simp only [List.length_cons, List.length_nil]; omega), bz_app]
  unfold Cf.lineW
  rw [List.append_assoc]
  rfl
theorem add_end (t : List UInt8) (W : World) (h : t.length ≤ 100000) : (Op.stringOp .add (bz t) ⟨#[10]⟩).run Tryz.prog W = .ok (.string (bz (t ++ [10]))) W := by
  rw [show (⟨#[10]⟩ : ByteArray) = bz [10] from rfl, run_string_add_sum W _ _ (by rw [bz_size, bz_size]; simp only [List.length_cons, List.length_nil]; omega), bz_app]
abbrev strV (x : List UInt8) : Value := .string (bz x)
theorem lines_len {c : Cf.CF} (h : Cf.rightC c) : ∀ l ∈ Cf.linesC c, l.length ≤ 1000 := by
  intro l hl
  have h1 := Cf.text_len h
  have : ∀ (ls : List (List UInt8)), l ∈ ls → l.length ≤ (Cf.tellL ls).length := by
    intro ls
    induction ls with
    | nil => intro h; cases h
    | cons x r ih =>
      intro h
      unfold Cf.tellL at ih ⊢
      rw [List.flatMap_cons, List.length_append]
      rcases List.mem_cons.1 h with rfl | h
      · rw [List.length_append]; omega
      · have := ih h
        omega
  have := this _ hl
  omega
set_option maxHeartbeats 2000000 in
theorem CfText_any (c : Cf.CF) (A : Option Addr) (n d : Nat) (w : World) (hr : Cf.rightC c) (hn : c.keep.length = n) (hs : Sl w 2 A n (Rk.cells c.keep)) (hT : TabW w) :
    Calls Tryz.prog 50 #[confV c A n d] w fun e w' => e = .returned (.string (bz (Cf.tellL (Cf.linesC c)))) ∧ Below w.heap.size w w' := by
  have HR := Lib.hid hr
  obtain ⟨r1, r2, r3, r4, r5, r6, r7⟩ := hr
  have HL := Lib.hid (lines_len HR.out)
  have HLen := Lib.hid (Cf.text_len HR.out)
  have hj7 := (Cf.job_name r3.1 r3.2).2.2.2
  have hi21 := fun v (h : -1000000 ≤ v ∧ v ≤ 1000000) => Lib.itoa_length_le v (by omega) (by omega)
  have hsup : -1000000 ≤ c.sup ∧ c.sup ≤ 1000000 := by split at r7 <;> omega
  have htl := textG_len c.keep r1.2
  have hk15 : c.keep.length * 31 ≤ 15 * 31 := Nat.mul_le_mul_right _ r2
  obtain ⟨l0, hl0⟩ : ∃ l, l = Cf.lineW Cf.wJob (Cf.jobL c.kind) := ⟨_, rfl⟩
  obtain ⟨l1, hl1⟩ : ∃ l, l = Cf.lineW Cf.wSize (Lib.itoa c.size) := ⟨_, rfl⟩
  obtain ⟨l2, hl2⟩ : ∃ l, l = Cf.lineW Cf.wSupport (Lib.itoa c.sup) := ⟨_, rfl⟩
  obtain ⟨l3, hl3⟩ : ∃ l, l = Cf.lineW Cf.wKeep (textG c.keep) := ⟨_, rfl⟩
  obtain ⟨l4, hl4⟩ : ∃ l, l = Cf.lineW Cf.wWorkers (Lib.itoa c.wk) := ⟨_, rfl⟩
  obtain ⟨l5, hl5⟩ : ∃ l, l = Cf.lineW Cf.wCap (Lib.itoa c.cap) := ⟨_, rfl⟩
  obtain ⟨S0, hS0⟩ : ∃ S, S = bz l0 := ⟨_, rfl⟩
  obtain ⟨S1, hS1⟩ : ∃ S, S = bz l1 := ⟨_, rfl⟩
  obtain ⟨S2, hS2⟩ : ∃ S, S = bz l2 := ⟨_, rfl⟩
  obtain ⟨S3, hS3⟩ : ∃ S, S = bz l3 := ⟨_, rfl⟩
  obtain ⟨S4, hS4⟩ : ∃ S, S = bz l4 := ⟨_, rfl⟩
  obtain ⟨S5, hS5⟩ : ∃ S, S = bz l5 := ⟨_, rfl⟩
  obtain ⟨J, hJ⟩ : ∃ S, S = bz (Cf.jobL c.kind) := ⟨_, rfl⟩
  obtain ⟨T, hTx⟩ : ∃ S, S = bz (textG c.keep) := ⟨_, rfl⟩
  obtain ⟨i1, hi1⟩ : ∃ S, S = itoaB c.size := ⟨_, rfl⟩
  obtain ⟨i2, hi2⟩ : ∃ S, S = itoaB c.sup := ⟨_, rfl⟩
  obtain ⟨i4, hi4⟩ : ∃ S, S = itoaB c.wk := ⟨_, rfl⟩
  obtain ⟨i5, hi5⟩ : ∃ S, S = itoaB c.cap := ⟨_, rfl⟩
  have a0 : ∀ W, (Op.stringOp .add ⟨#[106, 111, 98, 32]⟩ J).run Tryz.prog W = .ok (.string S0) W := fun W => by rw [hJ, hS0, hl0]; exact add_line Cf.wJob _ W (by simp only [List.length_cons, List.length_nil]; omega)
  have a1 : ∀ W, (Op.stringOp .add ⟨#[115, 105, 122, 101, 32]⟩ i1).run Tryz.prog W = .ok (.string S1) W := fun W => by rw [hi1, hS1, hl1, itoaB_bz]; exact add_line Cf.wSize _ W (by have := hi21 c.size (by omega); simp only [List.length_cons, List.length_nil]; omega)
  have a2 : ∀ W, (Op.stringOp .add ⟨#[115, 117, 112, 112, 111, 114, 116, 32]⟩ i2).run Tryz.prog W = .ok (.string S2) W := fun W => by rw [hi2, hS2, hl2, itoaB_bz]; exact add_line Cf.wSupport _ W (by have := hi21 c.sup (by omega); simp only [List.length_cons, List.length_nil]; omega)
  have a3 : ∀ W, (Op.stringOp .add ⟨#[107, 101, 101, 112, 32]⟩ T).run Tryz.prog W = .ok (.string S3) W := fun W => by rw [hTx, hS3, hl3]; exact add_line Cf.wKeep _ W (by simp only [List.length_cons, List.length_nil]; omega)
  have a4 : ∀ W, (Op.stringOp .add ⟨#[119, 111, 114, 107, 101, 114, 115, 32]⟩ i4).run Tryz.prog W = .ok (.string S4) W := fun W => by rw [hi4, hS4, hl4, itoaB_bz]; exact add_line Cf.wWorkers _ W (by have := hi21 c.wk (by omega); simp only [List.length_cons, List.length_nil]; omega)
  have a5 : ∀ W, (Op.stringOp .add ⟨#[99, 97, 112, 32]⟩ i5).run Tryz.prog W = .ok (.string S5) W := fun W => by rw [hi5, hS5, hl5, itoaB_bz]; exact add_line Cf.wCap _ W (by have := hi21 c.cap (by omega); simp only [List.length_cons, List.length_nil]; omega)
  have HNm := Lib.hid (show ∀ W, Calls Tryz.prog 122 #[.int .i64 c.kind] W fun e w' => e = .returned (.string J) ∧ Below W.heap.size W w' from fun W => by rw [hJ]; exact CfName_any c.kind W)
  have HT := Lib.hid hT
  have HI1 := Lib.hid (show ∀ W, Below w.heap.size w W → Calls Tryz.prog 83 #[.int .i64 c.size] W fun e w' => e = .returned (.string i1) ∧ Below W.heap.size W w' from fun W hW => by rw [hi1]; exact Itoa_any _ W (by unfold i64P; omega) (HT.out.keep hW))
  have HI2 := Lib.hid (show ∀ W, Below w.heap.size w W → Calls Tryz.prog 83 #[.int .i64 c.sup] W fun e w' => e = .returned (.string i2) ∧ Below W.heap.size W w' from fun W hW => by rw [hi2]; exact Itoa_any _ W (by unfold i64P; omega) (HT.out.keep hW))
  have HI4 := Lib.hid (show ∀ W, Below w.heap.size w W → Calls Tryz.prog 83 #[.int .i64 c.wk] W fun e w' => e = .returned (.string i4) ∧ Below W.heap.size W w' from fun W hW => by rw [hi4]; exact Itoa_any _ W (by unfold i64P; omega) (HT.out.keep hW))
  have HI5 := Lib.hid (show ∀ W, Below w.heap.size w W → Calls Tryz.prog 83 #[.int .i64 c.cap] W fun e w' => e = .returned (.string i5) ∧ Below W.heap.size W w' from fun W hW => by rw [hi5]; exact Itoa_any _ W (by unfold i64P; omega) (HT.out.keep hW))
  have HTx := Lib.hid (show ∀ W, Below w.heap.size w W → Calls Tryz.prog 57 #[.slice A n d] W fun e w' => e = .returned (.string T) ∧ Below W.heap.size W w' from fun W hW => by rw [hTx]; exact PgText_any c.keep A n d W (by omega) (hs.keep hW) (fun o ho => ⟨(r1.2 o ho).1, by have := (r1.2 o ho).2.1; unfold i64P; omega⟩) (HT.out.keep hW))
  have HLs := Lib.hid (show Cf.linesC c = [l0, l1] ++ (if c.kind = 3 then [l2] else []) ++ (if n = 0 then [] else [l3]) ++ [l4, l5] from by
    unfold Cf.linesC
    rw [hl0, hl1, hl2, hl3, hl4, hl5]
    rcases Nat.eq_zero_or_pos n with h | h
    · rw [if_pos h, if_pos (show c.keep = [] from List.eq_nil_of_length_eq_zero (by omega))]
    · rw [if_neg (show ¬ n = 0 by omega), if_neg (show ¬ c.keep = [] from fun e => by rw [e] at hn; simp at hn; omega)])
  have HS := Lib.hid (show S0 = bz l0 ∧ S1 = bz l1 ∧ S2 = bz l2 ∧ S3 = bz l3 ∧ S4 = bz l4 ∧ S5 = bz l5 from ⟨hS0, hS1, hS2, hS3, hS4, hS5⟩)
  have HB0 := Lib.hid (bel_al (Below.refl w.heap.size w) (.cells #[.int .i64 c.kind, .int .i64 c.size, .int .i64 c.sup, .int .i64 c.wk, .int .i64 c.cap, .slice A n d] 80))
  have HK0 := Lib.hid (Blk.new w 80 #[.int .i64 c.kind, .int .i64 c.size, .int .i64 c.sup, .int .i64 c.wk, .int .i64 c.cap, .slice A n d])
  have hnn : n ≤ 15 := by omega
  have H3 : c.kind = 3 ∨ (c.kind == 3) = false := by
    by_cases h : c.kind = 3
    · exact .inl h
    · exact .inr (by simpa using h)
  clear hs hT hj7 hi21 hsup htl hk15 hl0 hl1 hl2 hl3 hl4 hl5 hS0 hS1 hS2 hS3 hS4 hS5 hJ hTx hi1 hi2 hi4 hi5 r1 r2 r3 r4 r5 r6 r7 hn
  obtain ⟨kd, sz, sp, wk, cp, kp⟩ := c
  simp only at HNm HI1 HI2 HI4 HI5 HLs HB0 HK0 H3 a0 a1 a2 a3 a4 a5 ⊢
  obtain ⟨LL, hLL⟩ : ∃ LL, LL = Cf.linesC ⟨kd, sz, sp, wk, cp, kp⟩ := ⟨_, rfl⟩
  rw [← hLL] at HL HLen HLs ⊢
  obtain ⟨TT, hTT⟩ : ∃ T, T = bz (Cf.tellL LL) := ⟨_, rfl⟩
  rw [← hTT]
  have HTT := Lib.hid hTT
  clear hTT hLL
  go_enter Tryz.func50, Tryz.ntmps50
  go_upto_region 1 with (fail)
  go_cut [3] from 4 to 47 (fun s wx => ∃ lv, s = lv ∧ Hid (wx.ownsRow w.heap.size 9 1 lv 2 [.string S0, .string S1]) ∧ Hid (Below w.heap.size w wx) ∧ Hid (Blk wx w.heap.size 80 #[.int .i64 kd, .int .i64 sz, .int .i64 sp, .int .i64 wk, .int .i64 cp, .slice A n d]))
  case first =>
    have HB6 := Lib.hid (bel_drewN HB0.out 1)
    have HK6 := Lib.hid HK0.out.drew
    have k0 := HK0.out.cell 0
    have k1 := HK0.out.cell 1
    simp at k0 k1
    go_region_held3 (fun w' => w'.cell? ⟨w.heap.size, 0, none⟩ = some (.int .i64 kd) ∧ w'.cell? ⟨w.heap.size, 1, none⟩ = some (.int .i64 sz)) (go_keep)
      (first
        | (go_at_call 122; refine (HNm.out _).mono ?_; rintro e w2 ⟨rfl, hb2⟩; replace HB6 := Lib.hid (HB6.out.andThen hb2); replace HK6 := Lib.hid (HK6.out.keep hb2); clear hb2; have k0 := HK6.out.cell 0; have k1 := HK6.out.cell 1; simp at k0 k1)
        | (go_at_call 83; refine (HI1.out _ HB6.out).mono ?_; rintro e w2 ⟨rfl, hb2⟩; replace HB6 := Lib.hid (HB6.out.andThen hb2); replace HK6 := Lib.hid (HK6.out.keep hb2); clear hb2; have k0 := HK6.out.cell 0; have k1 := HK6.out.cell 1; simp at k0 k1))
    all_goals (
      go_wp2_with fail
      go_meet
      exact ⟨_, rfl, Lib.hid (World.ownsRow_lit (e := 9) (size := 1) _ #[.string S0, .string S1] 2 HB6.out.size (by unfold maxLen; omega) rfl), Lib.hid (bel_al HB6.out _), Lib.hid (HK6.out.alloc _)⟩)
  case rest =>
  obtain ⟨lv, rfl, HO, HB, HK⟩ := hcut
  obtain ⟨X2, hX2⟩ : ∃ X : List Value, X = [.string S0, .string S1] ++ (if kd = 3 then [.string S2] else []) := ⟨_, rfl⟩
  have HX2 := Lib.hid hX2
  have k0 := HK.out.cell 0
  have k2 := HK.out.cell 2
  simp at k0 k2
  clear hX2
  go_upto_if 15 with (fail)
  go_cut [3] from 15 to 47 (fun s wx => ∃ (lv : Value) (m : Nat), s = lv ∧ Hid (m ≤ 3) ∧ Hid (wx.ownsRow w.heap.size 9 1 lv m X2) ∧ Hid (Below w.heap.size w wx) ∧ Hid (Blk wx w.heap.size 80 #[.int .i64 kd, .int .i64 sz, .int .i64 sp, .int .i64 wk, .int .i64 cp, .slice A n d]))
  case first =>
    rcases H3 with rfl | h3
    · rw [if_pos rfl] at HX2
      go_wp2_with (first
        | (go_at_call 83; refine (HI2.out _ HB.out).mono ?_; rintro e w2 ⟨rfl, hb2⟩; have HB2 := Lib.hid (HB.out.andThen hb2); have HK2 := Lib.hid (HK.out.keep hb2); have HO2 := Lib.hid (own_block HO.out fun g hg => hb2.block g (HO.out.lt g hg).2); clear hb2)
        | (at_builtin; refine wpList_push_g elemStr (w0 := w) _ _ rfl rfl HO2.out HB2.out (Nat.le_refl _) rfl rfl rfl (by simp [Value.oneCell']) (by unfold lim; omega) (by unfold lim; omega) ?_; intro v6 w6 hown6 hb6 hg6; have HO7 := Lib.hid hown6; have HB7 := Lib.hid hb6; have HK7 := Lib.hid (HK2.out.others HO2.out hg6 (by decide)); clear hown6 hb6 hg6))
      go_meet
      exact ⟨_, 3, rfl, Lib.hid (by omega), Lib.hid (by rw [HX2.out]; exact HO7.out), HB7, HK7⟩
    · have hx : (if kd = 3 then [Value.string S2] else []) = [] := if_neg (by simpa using h3)
      rw [hx] at HX2
      clear hx
      go_wp2_with fail
      go_meet
      exact ⟨_, 2, rfl, Lib.hid (by omega), Lib.hid (by rw [HX2.out]; exact HO.out), HB, HK⟩
  case rest =>
  clear HO HB HK k0 k2
  obtain ⟨lv, m, rfl, hm, HO, HB, HK⟩ := hcut
  obtain ⟨X3, hX3⟩ : ∃ X : List Value, X = X2 ++ (if n = 0 then [] else [.string S3]) := ⟨_, rfl⟩
  have HX3 := Lib.hid hX3
  have hm3 := hm.out
  have k5 := HK.out.cell 5
  simp at k5
  clear hX3
  go_upto_if 26 with (fail)
  go_cut [3] from 26 to 47 (fun s wx => ∃ (lv : Value) (m : Nat), s = lv ∧ Hid (m ≤ 4) ∧ Hid (wx.ownsRow w.heap.size 9 1 lv m X3) ∧ Hid (Below w.heap.size w wx) ∧ Hid (Blk wx w.heap.size 80 #[.int .i64 kd, .int .i64 sz, .int .i64 sp, .int .i64 wk, .int .i64 cp, .slice A n d]))
  case first =>
    by_cases hn0 : n = 0
    · have hnn' : ¬ (0 : Int) < (n : Int) := by omega
      rw [if_pos hn0, List.append_nil] at HX3
      clear hn0
      go_wp2_with fail
      go_meet
      exact ⟨_, m, rfl, Lib.hid (by omega), Lib.hid (by rw [HX3.out]; exact HO.out), HB, HK⟩
    · have hnn' : (0 : Int) < (n : Int) := by omega
      rw [if_neg hn0] at HX3
      clear hn0
      go_wp2_with (first
        | (go_at_call 57; refine (HTx.out _ HB.out).mono ?_; rintro e w2 ⟨rfl, hb2⟩; have HB2 := Lib.hid (HB.out.andThen hb2); have HK2 := Lib.hid (HK.out.keep hb2); have HO2 := Lib.hid (own_block HO.out fun g hg => hb2.block g (HO.out.lt g hg).2); clear hb2)
        | (at_builtin; refine wpList_push_g elemStr (w0 := w) _ _ rfl rfl HO2.out HB2.out (Nat.le_refl _) rfl rfl rfl (by simp [Value.oneCell']) (by unfold lim; omega) (by unfold lim; omega) ?_; intro v6 w6 hown6 hb6 hg6; have HO7 := Lib.hid hown6; have HB7 := Lib.hid hb6; have HK7 := Lib.hid (HK2.out.others HO2.out hg6 (by decide)); clear hown6 hb6 hg6))
      go_meet
      exact ⟨_, m + 1, rfl, Lib.hid (by omega), Lib.hid (by rw [HX3.out]; exact HO7.out), HB7, HK7⟩
  case rest =>
  clear HO HB HK k5 hm hm3
  obtain ⟨lv, m', rfl, hm, HO, HB, HK⟩ := hcut
  have hm4 := hm.out
  go_upto_region 6 with (fail)
  have HB6 := Lib.hid (bel_drewN HB.out 1)
  have HK6 := Lib.hid HK.out.drew
  have HO6 := Lib.hid HO.out.drew
  have k3 := HK.out.cell 3
  have k4 := HK.out.cell 4
  simp at k3 k4
  go_region_held_law (fun w' => w'.cell? ⟨w.heap.size, 3, none⟩ = some (.int .i64 wk) ∧ w'.cell? ⟨w.heap.size, 4, none⟩ = some (.int .i64 cp)) (go_keep) (first
    | (go_simp; go_at_call 83; refine (HI4.out _ HB6.out).mono ?_; rintro e w2 ⟨rfl, hb2⟩; replace HB6 := Lib.hid (HB6.out.andThen hb2); replace HK6 := Lib.hid (HK6.out.keep hb2); replace HO6 := Lib.hid (own_block HO6.out fun g hg => hb2.block g (HO6.out.lt g hg).2); clear hb2; have k3 := HK6.out.cell 3; have k4 := HK6.out.cell 4; simp at k3 k4)
    | (go_simp; go_at_call 83; refine (HI5.out _ HB6.out).mono ?_; rintro e w2 ⟨rfl, hb2⟩; replace HB6 := Lib.hid (HB6.out.andThen hb2); replace HK6 := Lib.hid (HK6.out.keep hb2); replace HO6 := Lib.hid (own_block HO6.out fun g hg => hb2.block g (HO6.out.lt g hg).2); clear hb2; have k3 := HK6.out.cell 3; have k4 := HK6.out.cell 4; simp at k3 k4)
    | (refine step_cat_at elemStr (.tmp 34) (.tmp 43) rfl rfl (HO6.out.alloc (.cells #[.string S4, .string S5] 9)) (by have := HB6.out.size; simp; omega) (Sl.newAt w2 [.string S4, .string S5] 9 2 rfl) rfl rfl (by simp [Value.oneCell']) (by unfold lim; omega) (by unfold lim; omega) ?_
       intro v8 w8 hown8 hg8
       have HO8 := Lib.hid hown8
       have HB8 := Lib.hid ((bel_al HB6.out _).trans (hg8.belowOwn (by have := HB6.out.size; simp; omega) (HO6.out.alloc _)))
       have HK8 := Lib.hid (hg8.blkOwn (HK6.out.alloc _) (HO6.out.alloc _) (by decide))
       have k3 := HK8.out.cell 3
       have k4 := HK8.out.cell 4
       simp at k3 k4
       clear hown8 hg8))
  all_goals (
    obtain ⟨D, dc, rfl, hsl⟩ := Sl.own HO8.out
    have hcs : X3 ++ [.string S4, .string S5] = LL.map fun x => Value.string (bz x) := by
      obtain ⟨e0, e1, e2, e3, e4, e5⟩ := HS.out
      rw [HLs.out, HX3.out, HX2.out, e0, e1, e2, e3, e4, e5]
      split <;> split <;> rfl
    rw [hcs] at hsl
    have hln : LL.length = m' + 2 := by
      have := hsl.1
      rw [List.length_map] at this
      omega
    have HJn := Lib.hid (JoinC_any LL 10 D (m' + 2) dc _ hln (by omega) (own_cap HO8.out).1 hsl (fun x hx => own_lt HO8.out hx) (fun b hb => by have := HL.out b hb; omega))
    have hne : LL ≠ [] := fun e => by rw [e] at hln; simp at hln
    have hjt := join_tell hne
    have hal : ∀ W, (Op.stringOp .add (bz (Lib.join LL [10])) ⟨#[10]⟩).run Tryz.prog W = .ok (.string (bz (Cf.tellL LL))) W := fun W => by
      have := add_end (Lib.join LL [10]) W (by have := HLen.out; rw [← hjt, List.length_append] at this; omega)
      rw [hjt] at this
      exact this
    obtain ⟨TJ, hTJ⟩ : ∃ T, T = bz (Lib.join LL [10]) := ⟨_, rfl⟩
    rw [← hTJ] at HJn hal
    rw [← HTT.out] at hal
    clear hsl hcs hln hne hjt hTJ k3 k4 a0 a1 a2 a3 a4 a5
    go_wp2_with (go_at_call 84; refine HJn.out.mono ?_; clear HJn; rintro e w9 ⟨rfl, hb9⟩; have HB9 := Lib.hid (HB8.out.andThen hb9); clear hb9)
    go_ret
    exact ⟨rfl, HB9.out⟩)
theorem CfEdges_any (c : Cf.CF) (A : Option Addr) (n d : Nat) (w : World) : Calls Tryz.prog 56 #[confV c A n d] w fun e w' => e = .returned (.bool (decide (c.kind = 3))) ∧ Below w.heap.size w w' := by
  have HB := Lib.hid (bel_al (Below.refl w.heap.size w) (.cells #[.int .i64 c.kind, .int .i64 c.size, .int .i64 c.sup, .int .i64 c.wk, .int .i64 c.cap, .slice A n d] 80))
  have HE := Lib.hid (show (c.kind == 3) = decide (c.kind = 3) from by
    by_cases h : c.kind = 3
    · rw [decide_eq_true h, h]; rfl
    · rw [decide_eq_false h]; simpa using h)
  obtain ⟨kd, sz, sp, wk, cp, kp⟩ := c
  simp only at HB HE ⊢
  go_enter Tryz.func56, Tryz.ntmps56
  go_wp2_with fail
  go_ret
  exact ⟨ret_bool HE.out, HB.out⟩
end Go.Proofs.YtddedghnnkcnhaaGreatDoor
