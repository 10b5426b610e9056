/-
  Part 22 of the proof of ConfLines: CfR.
-/
import Derived.BigQuiet
import Derived.Deep.RegionHeld3
import Derived.Test.YtddedghnnkcnhaaGreatDoorConfLinesM21
import Derived.Test.YtddedghnnkcnhaaGreatDoorConfLinesM17
import Derived.Test.YtddedghnnkcnhaaGreatDoorConfLinesM18
/-
  Chapter 22: the walk of the document's Text of a job.
-/
namespace Go.Proofs.YtddedghnnkcnhaaGreatDoor
open Go.RowKit Go.Proofs.YtddedghnnkcnhaaGreatDoor.Pg Go.Proofs.YtddedghnnkcnhaaGreatDoor.Tx
attribute [local go_sem ↓] Go.wp_at_zero Go.wp_at_succ
set_option maxRecDepth 100000
set_option linter.unusedVariables false

theorem addS {S T : ByteArray} {l m r : List UInt8} (hS : S = bz l) (hT : T = bz m) (hr : l ++ m = r) (h : r.length ≤ 100000) {R : ByteArray} (hR : R = bz r) (W : World) : (Op.stringOp .add S T).run Tryz.prog W = .ok (.string R) W := by
  subst hS hT hR hr
  rw [List.length_append] at h
  rw [run_string_add_sum W _ _ (by rw [bz_size, bz_size]; omega), bz_app]
theorem RefNum_int (v : Int) (w : World) (h : 0 ≤ v ∧ v ≤ 1000000) : Calls Tryz.prog 40 #[.int .i64 v] w fun e w' => e = .returned (.string (bz (Lib.itoa v))) ∧ Below w.heap.size w w' := by
  obtain ⟨u, rfl⟩ : ∃ u : Nat, v = (u : Int) := ⟨v.toNat, by omega⟩
  refine (RefNum_any u w (by omega)).mono fun e w' h' => ⟨?_, h'.2⟩
  rw [h'.1, itoa_nat]
  rfl
def jobs4 : Array Value := #[.string ⟨#[]⟩, .string ⟨#[109, 111, 116, 105, 102, 115]⟩, .string ⟨#[99, 108, 105, 113, 117, 101, 115]⟩, .string ⟨#[102, 115, 109]⟩]
set_option maxHeartbeats 2000000 in
theorem RefText22_any (c : Cf.CF) (A : Option Addr) (n d : Nat) (w : World) (hr : Cf.rightC c) (hn : c.keep.length = n) (hs : Sl w 2 A n (Rk.cells c.keep)) :
    Calls Tryz.prog 55 #[confV c A n d] w fun e w' => e = .returned (.string (bz (Cf.tellL (Cf.linesC c)))) ∧ Below w.heap.size w w' := by
  have HLen := Lib.hid (Cf.text_len hr)
  obtain ⟨r1, r2, r3, r4, r5, r6, r7⟩ := hr
  have hsup : 0 ≤ c.sup ∧ c.sup ≤ 1000000 := by split at r7 <;> omega
  obtain ⟨kd, sz, sp, wk, cp, kp⟩ := c
  simp only at r1 r2 r3 r4 r5 r6 r7 hsup hn hs ⊢
  have HLs := Lib.hid (show Cf.tellL (Cf.linesC ⟨kd, sz, sp, wk, cp, kp⟩) = (((((([106, 111, 98, 32] ++ Cf.jobL kd) ++ [10, 115, 105, 122, 101, 32]) ++ Lib.itoa sz) ++ [10]) ++ (if kd = 3 then ([115, 117, 112, 112, 111, 114, 116, 32] ++ Lib.itoa sp) ++ [10] else [])) ++ (if n = 0 then [] else ([107, 101, 101, 112, 32] ++ textG kp) ++ [10])) ++ [119, 111, 114, 107, 101, 114, 115, 32] ++ Lib.itoa wk ++ [10, 99, 97, 112, 32] ++ Lib.itoa cp ++ [10] from by
    unfold Cf.linesC
    rw [Cf.tell_app, Cf.tell_app, Cf.tell_app]
    have e1 : Cf.tellL [Cf.lineW Cf.wJob (Cf.jobL kd), Cf.lineW Cf.wSize (Lib.itoa sz)] = (((([106, 111, 98, 32] ++ Cf.jobL kd) ++ [10, 115, 105, 122, 101, 32]) ++ Lib.itoa sz) ++ [10]) := by
      show Cf.tellL ([Cf.lineW Cf.wJob (Cf.jobL kd)] ++ [Cf.lineW Cf.wSize (Lib.itoa sz)]) = _
      rw [Cf.tell_app, Cf.tell_one, Cf.tell_one]
      unfold Cf.lineW
      simp
    have e2 : Cf.tellL (if kd = 3 then [Cf.lineW Cf.wSupport (Lib.itoa sp)] else []) = if kd = 3 then ([115, 117, 112, 112, 111, 114, 116, 32] ++ Lib.itoa sp) ++ [10] else [] := by
      split
      · rw [Cf.tell_one]
        unfold Cf.lineW
        simp
      · rfl
    have e3 : Cf.tellL (if kp = [] then [] else [Cf.lineW Cf.wKeep (textG kp)]) = if n = 0 then [] else ([107, 101, 101, 112, 32] ++ textG kp) ++ [10] := by
      rcases Nat.eq_zero_or_pos n with h | h
      · rw [if_pos h, if_pos (show kp = [] from List.eq_nil_of_length_eq_zero (by omega))]
        rfl
      · rw [if_neg (show ¬ n = 0 by omega), if_neg (show ¬ kp = [] from fun e => by rw [e] at hn; simp at hn; omega), Cf.tell_one]
        unfold Cf.lineW
        simp
    have e4 : Cf.tellL [Cf.lineW Cf.wWorkers (Lib.itoa wk), Cf.lineW Cf.wCap (Lib.itoa cp)] = [119, 111, 114, 107, 101, 114, 115, 32] ++ Lib.itoa wk ++ [10, 99, 97, 112, 32] ++ Lib.itoa cp ++ [10] := by
      show Cf.tellL ([Cf.lineW Cf.wWorkers (Lib.itoa wk)] ++ [Cf.lineW Cf.wCap (Lib.itoa cp)]) = _
      rw [Cf.tell_app, Cf.tell_one, Cf.tell_one]
      unfold Cf.lineW
      simp
    simp only
    rw [e1, e2, e3, e4]
    simp only [List.append_assoc])
  obtain ⟨p1, hp1⟩ : ∃ l, l = [106, 111, 98, 32] ++ Cf.jobL kd := ⟨_, rfl⟩
  obtain ⟨p2, hp2⟩ : ∃ l, l = p1 ++ [10, 115, 105, 122, 101, 32] := ⟨_, rfl⟩
  obtain ⟨p3, hp3⟩ : ∃ l, l = p2 ++ Lib.itoa sz := ⟨_, rfl⟩
  obtain ⟨p4, hp4⟩ : ∃ l, l = p3 ++ [10] := ⟨_, rfl⟩
  obtain ⟨p5, hp5⟩ : ∃ l, l = p4 ++ (if kd = 3 then ([115, 117, 112, 112, 111, 114, 116, 32] ++ Lib.itoa sp) ++ [10] else []) := ⟨_, rfl⟩
  obtain ⟨p6, hp6⟩ : ∃ l, l = p5 ++ (if n = 0 then [] else ([107, 101, 101, 112, 32] ++ textG kp) ++ [10]) := ⟨_, rfl⟩
  obtain ⟨p7, hp7⟩ : ∃ l, l = p6 ++ [119, 111, 114, 107, 101, 114, 115, 32] := ⟨_, rfl⟩
  obtain ⟨p8, hp8⟩ : ∃ l, l = p7 ++ Lib.itoa wk := ⟨_, rfl⟩
  obtain ⟨p9, hp9⟩ : ∃ l, l = p8 ++ [10, 99, 97, 112, 32] := ⟨_, rfl⟩
  obtain ⟨pa, hpa⟩ : ∃ l, l = p9 ++ Lib.itoa cp := ⟨_, rfl⟩
  have hfin : Cf.tellL (Cf.linesC ⟨kd, sz, sp, wk, cp, kp⟩) = pa ++ [10] := by
    rw [HLs.out, hpa, hp9, hp8, hp7, hp6, hp5, hp4, hp3, hp2, hp1]
  obtain ⟨pz, hpz⟩ : ∃ l, l = Cf.tellL (Cf.linesC ⟨kd, sz, sp, wk, cp, kp⟩) := ⟨_, rfl⟩
  have hlz : pz.length ≤ 1000 := by rw [hpz]; exact HLen.out
  rw [← hpz] at hfin ⊢
  have hla : pa.length + 1 = pz.length := by rw [hfin, List.length_append]; rfl
  have hl9 : p9.length ≤ pa.length := by rw [hpa, List.length_append]; omega
  have hl8 : p8.length ≤ p9.length := by rw [hp9, List.length_append]; omega
  have hl7 : p7.length ≤ p8.length := by rw [hp8, List.length_append]; omega
  have hl6 : p6.length ≤ p7.length := by rw [hp7, List.length_append]; omega
  have hl5 : p5.length ≤ p6.length := by rw [hp6, List.length_append]; omega
  have hl4 : p4.length ≤ p5.length := by rw [hp5, List.length_append]; omega
  have hl3 : p3.length ≤ p4.length := by rw [hp4, List.length_append]; omega
  have hl2 : p2.length ≤ p3.length := by rw [hp3, List.length_append]; omega
  have hl1 : p1.length ≤ p2.length := by rw [hp2, List.length_append]; omega
  obtain ⟨S1, hS1⟩ : ∃ S, S = bz p1 := ⟨_, rfl⟩
  obtain ⟨S2, hS2⟩ : ∃ S, S = bz p2 := ⟨_, rfl⟩
  obtain ⟨S3, hS3⟩ : ∃ S, S = bz p3 := ⟨_, rfl⟩
  obtain ⟨S4, hS4⟩ : ∃ S, S = bz p4 := ⟨_, rfl⟩
  obtain ⟨S5, hS5⟩ : ∃ S, S = bz p5 := ⟨_, rfl⟩
  obtain ⟨S6, hS6⟩ : ∃ S, S = bz p6 := ⟨_, rfl⟩
  obtain ⟨S7, hS7⟩ : ∃ S, S = bz p7 := ⟨_, rfl⟩
  obtain ⟨S8, hS8⟩ : ∃ S, S = bz p8 := ⟨_, rfl⟩
  obtain ⟨S9, hS9⟩ : ∃ S, S = bz p9 := ⟨_, rfl⟩
  obtain ⟨Sa, hSa⟩ : ∃ S, S = bz pa := ⟨_, rfl⟩
  obtain ⟨Sz, hSz⟩ : ∃ S, S = bz pz := ⟨_, rfl⟩
  obtain ⟨J, hJ⟩ : ∃ S, S = bz (Cf.jobL kd) := ⟨_, rfl⟩
  obtain ⟨T, hTx⟩ : ∃ S, S = bz (textG kp) := ⟨_, rfl⟩
  obtain ⟨i1, hi1⟩ : ∃ S, S = bz (Lib.itoa sz) := ⟨_, rfl⟩
  obtain ⟨i2, hi2⟩ : ∃ S, S = bz (Lib.itoa sp) := ⟨_, rfl⟩
  obtain ⟨i4, hi4⟩ : ∃ S, S = bz (Lib.itoa wk) := ⟨_, rfl⟩
  obtain ⟨i5, hi5⟩ : ∃ S, S = bz (Lib.itoa cp) := ⟨_, rfl⟩
  have b1 : ∀ W, (Op.stringOp .add ⟨#[106, 111, 98, 32]⟩ J).run Tryz.prog W = .ok (.string S1) W := addS (l := [106, 111, 98, 32]) rfl hJ hp1.symm (by omega) hS1
  have b2 : ∀ W, (Op.stringOp .add S1 ⟨#[10, 115, 105, 122, 101, 32]⟩).run Tryz.prog W = .ok (.string S2) W := addS (m := [10, 115, 105, 122, 101, 32]) hS1 rfl hp2.symm (by omega) hS2
  have b3 : ∀ W, (Op.stringOp .add S2 i1).run Tryz.prog W = .ok (.string S3) W := addS hS2 hi1 hp3.symm (by omega) hS3
  have b4 : ∀ W, (Op.stringOp .add S3 ⟨#[10]⟩).run Tryz.prog W = .ok (.string S4) W := addS (m := [10]) hS3 rfl hp4.symm (by omega) hS4
  have H5 := Lib.hid (show (kd = 3 → ∃ X Y : ByteArray, (∀ W, (Op.stringOp .add S4 ⟨#[115, 117, 112, 112, 111, 114, 116, 32]⟩).run Tryz.prog W = .ok (.string X) W) ∧ (∀ W, (Op.stringOp .add X i2).run Tryz.prog W = .ok (.string Y) W) ∧ (∀ W, (Op.stringOp .add Y ⟨#[10]⟩).run Tryz.prog W = .ok (.string S5) W)) ∧ (¬ kd = 3 → S4 = S5) from ⟨fun h => by
    rw [if_pos h] at hp5
    have hl5' : p5.length = p4.length + (8 + (Lib.itoa sp).length + 1) := by rw [hp5]; simp only [List.length_append, List.length_cons, List.length_nil]
    exact ⟨bz (p4 ++ [115, 117, 112, 112, 111, 114, 116, 32]), bz ((p4 ++ [115, 117, 112, 112, 111, 114, 116, 32]) ++ Lib.itoa sp), addS (m := [115, 117, 112, 112, 111, 114, 116, 32]) hS4 rfl rfl (by simp only [List.length_append, List.length_cons, List.length_nil]; omega) rfl, addS rfl hi2 rfl (by simp only [List.length_append, List.length_cons, List.length_nil]; omega) rfl, addS (m := [10]) rfl rfl (by rw [hp5]; simp only [List.append_assoc]) (by omega) hS5⟩, fun h => by
    rw [if_neg h, List.append_nil] at hp5
    rw [hS4, hS5, hp5]⟩)
  have H6 := Lib.hid (show (¬ n = 0 → ∃ X Y : ByteArray, (∀ W, (Op.stringOp .add S5 ⟨#[107, 101, 101, 112, 32]⟩).run Tryz.prog W = .ok (.string X) W) ∧ (∀ W, (Op.stringOp .add X T).run Tryz.prog W = .ok (.string Y) W) ∧ (∀ W, (Op.stringOp .add Y ⟨#[10]⟩).run Tryz.prog W = .ok (.string S6) W)) ∧ (n = 0 → S5 = S6) from ⟨fun h => by
    rw [if_neg h] at hp6
    have hl6' : p6.length = p5.length + (5 + (textG kp).length + 1) := by rw [hp6]; simp only [List.length_append, List.length_cons, List.length_nil]
    exact ⟨bz (p5 ++ [107, 101, 101, 112, 32]), bz ((p5 ++ [107, 101, 101, 112, 32]) ++ textG kp), addS (m := [107, 101, 101, 112, 32]) hS5 rfl rfl (by simp only [List.length_append, List.length_cons, List.length_nil]; omega) rfl, addS rfl hTx rfl (by simp only [List.length_append, List.length_cons, List.length_nil]; omega) rfl, addS (m := [10]) rfl rfl (by rw [hp6]; simp only [List.append_assoc]) (by omega) hS6⟩, fun h => by
    rw [if_pos h, List.append_nil] at hp6
    rw [hS5, hS6, hp6]⟩)
  have b7 : ∀ W, (Op.stringOp .add S6 ⟨#[119, 111, 114, 107, 101, 114, 115, 32]⟩).run Tryz.prog W = .ok (.string S7) W := addS (m := [119, 111, 114, 107, 101, 114, 115, 32]) hS6 rfl hp7.symm (by omega) hS7
  have b8 : ∀ W, (Op.stringOp .add S7 i4).run Tryz.prog W = .ok (.string S8) W := addS hS7 hi4 hp8.symm (by omega) hS8
  have b9 : ∀ W, (Op.stringOp .add S8 ⟨#[10, 99, 97, 112, 32]⟩).run Tryz.prog W = .ok (.string S9) W := addS (m := [10, 99, 97, 112, 32]) hS8 rfl hp9.symm (by omega) hS9
  have ba : ∀ W, (Op.stringOp .add S9 i5).run Tryz.prog W = .ok (.string Sa) W := addS hS9 hi5 hpa.symm (by omega) hSa
  have bb : ∀ W, (Op.stringOp .add Sa ⟨#[10]⟩).run Tryz.prog W = .ok (.string Sz) W := addS (m := [10]) hSa rfl hfin.symm (by omega) hSz
  have HI1 := Lib.hid (show ∀ W, Calls Tryz.prog 40 #[.int .i64 sz] W fun e w' => e = .returned (.string i1) ∧ Below W.heap.size W w' from fun W => by rw [hi1]; exact RefNum_int _ W (by omega))
  have HI2 := Lib.hid (show ∀ W, Calls Tryz.prog 40 #[.int .i64 sp] W fun e w' => e = .returned (.string i2) ∧ Below W.heap.size W w' from fun W => by rw [hi2]; exact RefNum_int _ W (by omega))
  have HI4 := Lib.hid (show ∀ W, Calls Tryz.prog 40 #[.int .i64 wk] W fun e w' => e = .returned (.string i4) ∧ Below W.heap.size W w' from fun W => by rw [hi4]; exact RefNum_int _ W (by omega))
  have HI5 := Lib.hid (show ∀ W, Calls Tryz.prog 40 #[.int .i64 cp] W fun e w' => e = .returned (.string i5) ∧ Below W.heap.size W w' from fun W => by rw [hi5]; exact RefNum_int _ W (by omega))
  have HTx := Lib.hid (show ∀ W, Below w.heap.size w W → Calls Tryz.prog 70 #[.slice A n d] W fun e w' => e = .returned (.string T) ∧ Below W.heap.size W w' from fun W hW => by rw [hTx]; exact RefText17_any kp A n d W (by omega) (hs.keep hW) r1.2)
  have HB0 := Lib.hid (bel_al (Below.refl w.heap.size w) (.cells #[.int .i64 kd, .int .i64 sz, .int .i64 sp, .int .i64 wk, .int .i64 cp, .slice A n d] 75))
  have HK0 := Lib.hid (Blk.new w 75 #[.int .i64 kd, .int .i64 sz, .int .i64 sp, .int .i64 wk, .int .i64 cp, .slice A n d])
  have HJ := Lib.hid (show (kd = 1 ∧ J = ⟨#[109, 111, 116, 105, 102, 115]⟩) ∨ (kd = 2 ∧ J = ⟨#[99, 108, 105, 113, 117, 101, 115]⟩) ∨ (kd = 3 ∧ J = ⟨#[102, 115, 109]⟩) from by
    rw [hJ]
    rcases (show kd = 1 ∨ kd = 2 ∨ kd = 3 by omega) with rfl | rfl | rfl
    · exact .inl ⟨rfl, rfl⟩
    · exact .inr (.inl ⟨rfl, rfl⟩)
    · exact .inr (.inr ⟨rfl, rfl⟩))
  have hnn : n ≤ 15 := by omega
  rw [← hSz]
  clear hs hsup r1 r2 r3 r4 r5 r6 r7 hp1 hp2 hp3 hp4 hp5 hp6 hp7 hp8 hp9 hpa hfin hpz hlz hla hl9 hl8 hl7 hl6 hl5 hl4 hl3 hl2 hl1 hS1 hS2 hS3 hS4 hS5 hS6 hS7 hS8 hS9 hSa hSz hJ hTx hi1 hi2 hi4 hi5 hn HLs HLen
  go_enter Tryz.func55, Tryz.ntmps55
  go_upto_region 1 with (fail)
  go_cut [3] from 4 to 48 (fun s wx => s = .string S4 ∧ Hid (Below w.heap.size w wx) ∧ Hid (Blk wx w.heap.size 75 #[.int .i64 kd, .int .i64 sz, .int .i64 sp, .int .i64 wk, .int .i64 cp, .slice A n d]))
  case first =>
    clear b7 b8 b9 ba bb
    obtain ⟨w0, hw0⟩ : ∃ W, W = w.alloc (.cells #[.int .i64 kd, .int .i64 sz, .int .i64 sp, .int .i64 wk, .int .i64 cp, .slice A n d] 75) := ⟨_, rfl⟩
    have HB1 := Lib.hid (show Below w.heap.size w w0 from by rw [hw0]; exact HB0.out)
    have HK1 := Lib.hid (show Blk w0 w.heap.size 75 #[.int .i64 kd, .int .i64 sz, .int .i64 sp, .int .i64 wk, .int .i64 cp, .slice A n d] from by rw [hw0]; exact HK0.out)
    rw [← hw0]
    clear hw0
    obtain ⟨kn, rfl⟩ : ∃ k : Nat, kd = (k : Int) := ⟨kd.toNat, by rcases HJ.out with h | h | h <;> omega⟩
    have hk4 : (kn : Int) < 4 := by rcases HJ.out with h | h | h <;> omega
    have hk0 : (0 : Int) ≤ (kn : Int) := by omega
    have HJn := Lib.hid (show jobs4[kn]? = some (.string J) from by
      rcases HJ.out with ⟨h, hj⟩ | ⟨h, hj⟩ | ⟨h, hj⟩
      · obtain rfl : kn = 1 := by omega
        rw [hj]; rfl
      · obtain rfl : kn = 2 := by omega
        rw [hj]; rfl
      · obtain rfl : kn = 3 := by omega
        rw [hj]; rfl)
    have HAll := Lib.hid (show ∀ W, Below w0.heap.size w0 W → W.cell? ⟨w.heap.size, 0, none⟩ = some (.int .i64 (kn : Int)) ∧ W.cell? ⟨w.heap.size, 1, none⟩ = some (.int .i64 sz) from fun W hW => ⟨(HK1.out.keep hW).cell 0, (HK1.out.keep hW).cell 1⟩)
    refine wp_region_inv (fun listed a W => ∃ (l0 l1 l2 l3 l4 l5 l6 l7 l8 l9 l10 l11 l12 : Bool) (v4 v5 v6 v7 v8 v9 v10 v11 v12 v13 v14 v15 v3 : Value), listed = #[l0, l1, l2, l3, l4, l5, l6, l7, l8, l9, l10, l11, l12] ∧ a = { tmps := #[confV ⟨(kn : Int), sz, sp, wk, cp, kp⟩ A n d, .pointer (some ⟨w.heap.size, 0, none⟩), .string ⟨#[]⟩, v3, v4, v5, v6, v7, v8, v9, v10, v11, v12, v13, v14, v15, undef, undef, undef, undef, undef, undef, undef, undef, undef, undef, undef, undef, undef, undef, undef, undef, undef, undef, undef, undef, undef, undef, undef, undef, undef, undef, undef, undef, undef, undef, undef, undef, undef], defers := [] } ∧ Hid (Below w0.heap.size w0 W) ∧ Hid (l0 = true → ∃ g, v4 = .slice (some ⟨g, 0, none⟩) 4 4 ∧ Blk W g 9 jobs4) ∧ Hid (l1 = true → v5 = .pointer (some ⟨w.heap.size, 0, none⟩)) ∧ Hid (l2 = true → v6 = .int .i64 (kn : Int)) ∧ Hid (l3 = true → ∃ g, v7 = .pointer (some ⟨g, kn, none⟩) ∧ Blk W g 9 jobs4) ∧ Hid (l4 = true → v8 = .string J) ∧ Hid (l5 = true → v9 = .string S1) ∧ Hid (l6 = true → v10 = .string S2) ∧ Hid (l7 = true → v11 = .pointer (some ⟨w.heap.size, 1, none⟩)) ∧ Hid (l8 = true → v12 = .int .i64 sz) ∧ Hid (l9 = true → v13 = .string i1) ∧ Hid (l10 = true → v14 = .string S3) ∧ Hid (l11 = true → v15 = .string S4) ∧ Hid (l12 = true → v3 = .string S4)) (by kernel_rfl) ?_ ?_ ?_
    · exact ⟨false, false, false, false, false, false, false, false, false, false, false, false, false, undef, undef, undef, undef, undef, undef, undef, undef, undef, undef, undef, undef, undef, rfl, rfl, Lib.hid (bel_drewN (Below.refl _ _) 1), Lib.hid (fun h => by cases h), Lib.hid (fun h => by cases h), Lib.hid (fun h => by cases h), Lib.hid (fun h => by cases h), Lib.hid (fun h => by cases h), Lib.hid (fun h => by cases h), Lib.hid (fun h => by cases h), Lib.hid (fun h => by cases h), Lib.hid (fun h => by cases h), Lib.hid (fun h => by cases h), Lib.hid (fun h => by cases h), Lib.hid (fun h => by cases h), Lib.hid (fun h => by cases h)⟩
    · rintro i listed a W hi ⟨l0, l1, l2, l3, l4, l5, l6, l7, l8, l9, l10, l11, l12, v4, v5, v6, v7, v8, v9, v10, v11, v12, v13, v14, v15, v3, rfl, rfl, HB, h4, h5, h6, h7, h8, h9, h10, h11, h12, h13, h14, h15, h3⟩
      match i, hi with
      | 0, hi =>
        refine wpOp_step rfl fun K' hK => ?_
        go_simp
        have hal := (Below.refl W.heap.size W).alloc (Nat.le_refl _) (.cells jobs4 9)
        exact hK _ _ ⟨true, l1, l2, l3, l4, l5, l6, l7, l8, l9, l10, l11, l12, _, v5, v6, v7, v8, v9, v10, v11, v12, v13, v14, v15, v3, rfl, rfl, Lib.hid (bel_al HB.out _), Lib.hid (fun _ => ⟨_, rfl, Blk.new W 9 jobs4⟩), h5, h6, Lib.hid (fun h => let ⟨g, e1, e2⟩ := (h7.out h); ⟨g, e1, e2.keep hal⟩), h8, h9, h10, h11, h12, h13, h14, h15, h3⟩
      | 1, hi =>
        refine wpOp_step rfl fun K' hK => ?_
        go_simp
        exact hK _ _ ⟨l0, true, l2, l3, l4, l5, l6, l7, l8, l9, l10, l11, l12, v4, _, v6, v7, v8, v9, v10, v11, v12, v13, v14, v15, v3, rfl, rfl, HB, h4, Lib.hid (fun _ => rfl), h6, h7, h8, h9, h10, h11, h12, h13, h14, h15, h3⟩
      | 2, hi =>
        simp [Region.ready, Region.binds] at hi
        have t1 : l1 = true := by grind
        refine wpOp_step rfl fun K' hK => ?_
        obtain rfl := h5.out t1
        have hcl := HAll.out W HB.out
        obtain ⟨z0, z1⟩ := hcl
        go_simp
        exact hK _ _ ⟨l0, l1, true, l3, l4, l5, l6, l7, l8, l9, l10, l11, l12, v4, _, _, v7, v8, v9, v10, v11, v12, v13, v14, v15, v3, rfl, rfl, HB, h4, h5, Lib.hid (fun _ => rfl), h7, h8, h9, h10, h11, h12, h13, h14, h15, h3⟩
      | 3, hi =>
        simp [Region.ready, Region.binds] at hi
        have t0 : l0 = true := by grind
        have t2 : l2 = true := by grind
        refine wpOp_step rfl fun K' hK => ?_
        obtain ⟨g, rfl, hbk⟩ := h4.out t0
        obtain rfl := h6.out t2
        go_simp
        exact hK _ _ ⟨l0, l1, l2, true, l4, l5, l6, l7, l8, l9, l10, l11, l12, _, v5, _, _, v8, v9, v10, v11, v12, v13, v14, v15, v3, rfl, rfl, HB, h4, h5, h6, Lib.hid (fun _ => ⟨g, rfl, hbk⟩), h8, h9, h10, h11, h12, h13, h14, h15, h3⟩
      | 4, hi =>
        simp [Region.ready, Region.binds] at hi
        have t3 : l3 = true := by grind
        refine wpOp_step rfl fun K' hK => ?_
        obtain ⟨g, rfl, hbk⟩ := h7.out t3
        have c0 := hbk.cell kn
        rw [HJn.out] at c0
        go_simp
        exact hK _ _ ⟨l0, l1, l2, l3, true, l5, l6, l7, l8, l9, l10, l11, l12, v4, v5, v6, _, _, v9, v10, v11, v12, v13, v14, v15, v3, rfl, rfl, HB, h4, h5, h6, h7, Lib.hid (fun _ => rfl), h9, h10, h11, h12, h13, h14, h15, h3⟩
      | 5, hi =>
        simp [Region.ready, Region.binds] at hi
        have t4 : l4 = true := by grind
        refine wpOp_step rfl fun K' hK => ?_
        obtain rfl := h8.out t4
        go_simp
        exact hK _ _ ⟨l0, l1, l2, l3, l4, true, l6, l7, l8, l9, l10, l11, l12, v4, v5, v6, v7, _, _, v10, v11, v12, v13, v14, v15, v3, rfl, rfl, HB, h4, h5, h6, h7, h8, Lib.hid (fun _ => rfl), h10, h11, h12, h13, h14, h15, h3⟩
      | 6, hi =>
        simp [Region.ready, Region.binds] at hi
        have t5 : l5 = true := by grind
        refine wpOp_step rfl fun K' hK => ?_
        obtain rfl := h9.out t5
        go_simp
        exact hK _ _ ⟨l0, l1, l2, l3, l4, l5, true, l7, l8, l9, l10, l11, l12, v4, v5, v6, v7, v8, _, _, v11, v12, v13, v14, v15, v3, rfl, rfl, HB, h4, h5, h6, h7, h8, h9, Lib.hid (fun _ => rfl), h11, h12, h13, h14, h15, h3⟩
      | 7, hi =>
        refine wpOp_step rfl fun K' hK => ?_
        go_simp
        exact hK _ _ ⟨l0, l1, l2, l3, l4, l5, l6, true, l8, l9, l10, l11, l12, v4, v5, v6, v7, v8, v9, v10, _, v12, v13, v14, v15, v3, rfl, rfl, HB, h4, h5, h6, h7, h8, h9, h10, Lib.hid (fun _ => rfl), h12, h13, h14, h15, h3⟩
      | 8, hi =>
        simp [Region.ready, Region.binds] at hi
        have t7 : l7 = true := by grind
        refine wpOp_step rfl fun K' hK => ?_
        obtain rfl := h11.out t7
        have hcl := HAll.out W HB.out
        obtain ⟨z0, z1⟩ := hcl
        go_simp
        exact hK _ _ ⟨l0, l1, l2, l3, l4, l5, l6, l7, true, l9, l10, l11, l12, v4, v5, v6, v7, v8, v9, v10, _, _, v13, v14, v15, v3, rfl, rfl, HB, h4, h5, h6, h7, h8, h9, h10, h11, Lib.hid (fun _ => rfl), h13, h14, h15, h3⟩
      | 9, hi =>
        simp [Region.ready, Region.binds] at hi
        have t8 : l8 = true := by grind
        refine wpOp_step rfl fun K' hK => ?_
        obtain rfl := h12.out t8
        have HC := Lib.hid (HI1.out W)
        go_simp
        refine HC.out.mono ?_
        rintro e' w2 ⟨rfl, hb⟩
        exact hK _ _ ⟨l0, l1, l2, l3, l4, l5, l6, l7, l8, true, l10, l11, l12, v4, v5, v6, v7, v8, v9, v10, v11, _, _, v14, v15, v3, rfl, rfl, Lib.hid (HB.out.andThen hb), Lib.hid (fun h => let ⟨g, e1, e2⟩ := (h4.out h); ⟨g, e1, e2.keep hb⟩), h5, h6, Lib.hid (fun h => let ⟨g, e1, e2⟩ := (h7.out h); ⟨g, e1, e2.keep hb⟩), h8, h9, h10, h11, h12, Lib.hid (fun _ => rfl), h14, h15, h3⟩
      | 10, hi =>
        simp [Region.ready, Region.binds] at hi
        have t6 : l6 = true := by grind
        have t9 : l9 = true := by grind
        refine wpOp_step rfl fun K' hK => ?_
        obtain rfl := h10.out t6
        obtain rfl := h13.out t9
        go_simp
        exact hK _ _ ⟨l0, l1, l2, l3, l4, l5, l6, l7, l8, l9, true, l11, l12, v4, v5, v6, v7, v8, v9, _, v11, v12, _, _, v15, v3, rfl, rfl, HB, h4, h5, h6, h7, h8, h9, h10, h11, h12, h13, Lib.hid (fun _ => rfl), h15, h3⟩
      | 11, hi =>
        simp [Region.ready, Region.binds] at hi
        have t10 : l10 = true := by grind
        refine wpOp_step rfl fun K' hK => ?_
        obtain rfl := h14.out t10
        go_simp
        exact hK _ _ ⟨l0, l1, l2, l3, l4, l5, l6, l7, l8, l9, l10, true, l12, v4, v5, v6, v7, v8, v9, v10, v11, v12, v13, _, _, v3, rfl, rfl, HB, h4, h5, h6, h7, h8, h9, h10, h11, h12, h13, h14, Lib.hid (fun _ => rfl), h3⟩
      | 12, hi =>
        simp [Region.ready, Region.binds] at hi
        have t11 : l11 = true := by grind
        refine wpOp_step rfl fun K' hK => ?_
        obtain rfl := h15.out t11
        go_simp
        exact hK _ _ ⟨l0, l1, l2, l3, l4, l5, l6, l7, l8, l9, l10, l11, true, v4, v5, v6, v7, v8, v9, v10, v11, v12, v13, v14, _, _, rfl, rfl, HB, h4, h5, h6, h7, h8, h9, h10, h11, h12, h13, h14, h15, Lib.hid (fun _ => rfl)⟩
      | k + 13, hi => exact absurd (ready_open hi) (by simp)
    · rintro listed a W hnil ⟨l0, l1, l2, l3, l4, l5, l6, l7, l8, l9, l10, l11, l12, v4, v5, v6, v7, v8, v9, v10, v11, v12, v13, v14, v15, v3, rfl, rfl, HB, h4, h5, h6, h7, h8, h9, h10, h11, h12, h13, h14, h15, h3⟩
      have hno := fun i => List.eq_nil_iff_forall_not_mem.1 hnil i
      have e0 := hno 0
      have e1 := hno 1
      have e2 := hno 2
      have e3 := hno 3
      have e4 := hno 4
      have e5 := hno 5
      have e6 := hno 6
      have e7 := hno 7
      have e8 := hno 8
      have e9 := hno 9
      have e10 := hno 10
      have e11 := hno 11
      have e12 := hno 12
      clear hno hnil
      simp [Region.ready, Region.binds] at e0 e1 e2 e3 e4 e5 e6 e7 e8 e9 e10 e11 e12
      have t0 : l0 = true := by grind
      have t1 : l1 = true := by grind
      have t2 : l2 = true := by grind
      have t3 : l3 = true := by grind
      have t4 : l4 = true := by grind
      have t5 : l5 = true := by grind
      have t6 : l6 = true := by grind
      have t7 : l7 = true := by grind
      have t8 : l8 = true := by grind
      have t9 : l9 = true := by grind
      have t10 : l10 = true := by grind
      have t11 : l11 = true := by grind
      have t12 : l12 = true := by grind
      obtain rfl := h3.out t12
      clear h4 h5 h6 h7 h8 h9 h10 h11 h12 h13 h14 h15
      go_wp2_with fail
      go_meet
      exact ⟨rfl, Lib.hid (HB1.out.andThen HB.out), Lib.hid (HK1.out.keep HB.out)⟩
  case rest =>
  clear b1 b2 b3 b4 HB0 HK0 HJ
  obtain ⟨rfl, HB, HK⟩ := hcut
  have k0 := HK.out.cell 0
  have k2 := HK.out.cell 2
  simp at k0 k2
  go_upto_if 18 with (fail)
  go_cut [3] from 18 to 48 (fun s wx => s = .string S5 ∧ Hid (Below w.heap.size w wx) ∧ Hid (Blk wx w.heap.size 75 #[.int .i64 kd, .int .i64 sz, .int .i64 sp, .int .i64 wk, .int .i64 cp, .slice A n d]))
  case first =>
    clear b7 b8 b9 ba bb
    by_cases h3 : kd = 3
    · obtain ⟨X, Y, c1, c2, c3⟩ := H5.out.1 h3
      subst h3
      go_wp2_with (go_at_call 40; refine (HI2.out _).mono ?_; rintro e w2 ⟨rfl, hb2⟩; have HB2 := Lib.hid (HB.out.andThen hb2); have HK2 := Lib.hid (HK.out.keep hb2); clear hb2)
      go_meet
      exact ⟨rfl, HB2, HK2⟩
    · have HE := Lib.hid (H5.out.2 h3)
      have e3 : (kd == 3) = false := by simpa using h3
      clear h3
      go_wp2_with fail
      go_meet
      exact ⟨by rw [HE.out], HB, HK⟩
  case rest =>
  clear HB HK k0 k2 H5
  obtain ⟨rfl, HB, HK⟩ := hcut
  have k5 := HK.out.cell 5
  simp at k5
  go_upto_if 29 with (fail)
  go_cut [3] from 18 to 48 (fun s wx => s = .string S6 ∧ Hid (Below w.heap.size w wx) ∧ Hid (Blk wx w.heap.size 75 #[.int .i64 kd, .int .i64 sz, .int .i64 sp, .int .i64 wk, .int .i64 cp, .slice A n d]))
  case first =>
    clear b7 b8 b9 ba bb
    by_cases hn0 : n = 0
    · have HE := Lib.hid (H6.out.2 hn0)
      have hnn' : ¬ (0 : Int) < (n : Int) := by omega
      clear hn0
      go_wp2_with fail
      go_meet
      exact ⟨by rw [HE.out], HB, HK⟩
    · obtain ⟨X, Y, c1, c2, c3⟩ := H6.out.1 hn0
      have hnn' : (0 : Int) < (n : Int) := by omega
      clear hn0
      go_wp2_with (go_at_call 70; refine (HTx.out _ HB.out).mono ?_; rintro e w2 ⟨rfl, hb2⟩; have HB2 := Lib.hid (HB.out.andThen hb2); have HK2 := Lib.hid (HK.out.keep hb2); clear hb2)
      go_meet
      exact ⟨rfl, HB2, HK2⟩
  case rest =>
  clear HB HK k5 H6
  obtain ⟨rfl, HB, HK⟩ := hcut
  go_upto_region 6 with (fail)
  have HAll := Lib.hid (show ∀ W, Below wc.heap.size wc W → W.cell? ⟨w.heap.size, 3, none⟩ = some (.int .i64 wk) ∧ W.cell? ⟨w.heap.size, 4, none⟩ = some (.int .i64 cp) from fun W hW => ⟨(HK.out.keep hW).cell 3, (HK.out.keep hW).cell 4⟩)
  have HN4 := Lib.hid (show ∀ W, Below wc.heap.size wc W → Calls Tryz.prog 40 #[.int .i64 wk] W fun e w' => e = .returned (.string i4) ∧ Below wc.heap.size wc w' from fun W hW => (HI4.out W).mono fun e w' h => ⟨h.1, hW.andThen h.2⟩)
  have HN5 := Lib.hid (show ∀ W, Below wc.heap.size wc W → Calls Tryz.prog 40 #[.int .i64 cp] W fun e w' => e = .returned (.string i5) ∧ Below wc.heap.size wc w' from fun W hW => (HI5.out W).mono fun e w' h => ⟨h.1, hW.andThen h.2⟩)
  refine wp_region_qq (fun W => Below wc.heap.size wc W) (by kernel_rfl) (by kernel_rfl) (bel_drewN (Below.refl _ _) 1) ?_
  repeat (
    first
      | (apply qq_want
         · rfl
         · intro W hW
           have zz := HAll.out W hW
           go_simp
           first
             | done
             | exact rfl
             | with_reducible exact HN4.out W hW
             | with_reducible exact HN5.out W hW)
      | (refine qq_pass ?_ ?_
         · rfl)
    try simp only [Act.put, List.setIfInBounds_toArray, List.set_cons_zero, List.set_cons_succ])
  refine qq_nil ?_
  intro wq hbq
  have HBq := Lib.hid (HB.out.andThen hbq)
  clear hbq
  go_wp2_with fail
  go_ret
  exact ⟨rfl, HBq.out⟩
end Go.Proofs.YtddedghnnkcnhaaGreatDoor
