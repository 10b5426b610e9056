/-
  Part 22 of the proof of ConfProgs: ConfProgs, FrameC.
-/
import Derived.BigQuiet
import Derived.Test.YtapledphhfiimaaGreatDoorConfProgsM14
import Derived.Test.YtapledphhfiimaaGreatDoorConfProgsM16
import Derived.Test.YtapledphhfiimaaGreatDoorConfProgsM21
import Derived.Test.YtapledphhfiimaaGreatDoorConfProgsM18
import Derived.Test.YtapledphhfiimaaGreatDoorConfProgsM4
import Derived.Test.YtapledphhfiimaaGreatDoorConfProgsM5
/-
  ConfProgs: the walk.
-/
namespace Go.Proofs.YtapledphhfiimaaGreatDoor
open Go.RowKit Go.Proofs.YtapledphhfiimaaGreatDoor.Pg
attribute [local go_sem ↓] Go.wp_at_zero Go.wp_at_succ
set_option maxRecDepth 100000
set_option linter.unusedVariables false

theorem RefRight17_far (A : Option Addr) (n d : Nat) (w : World) (h16 : 16 < n) : Calls Tryz.prog 45 #[.slice A n d] w fun e w' => e = .returned (.tuple #[.int .i64 6, .int .i64 0]) ∧ Below w.heap.size w w' := by
  have h16' : (16 : Int) < (n : Int) := by omega
  go_enter Tryz.func45, Tryz.ntmps45
  go_wp2_with fail
  go_ret2
  exact ⟨rfl, Below.refl _ _⟩
theorem RefRight22_far (c : Cf.CF) (A : Option Addr) (n d : Nat) (w : World) (h16 : 16 < n) : Calls Tryz.prog 15 #[confV c A n d] w fun e w' => e = .returned (.bool false) ∧ Below w.heap.size w w' := by
  have HBc := Lib.hid (bel_al (Below.refl w.heap.size w) (.cells #[.int .i64 c.kind, .int .i64 c.size, .int .i64 c.sup, .int .i64 c.wk, .int .i64 c.cap, .slice A n d] 46))
  have HPr := Lib.hid (fun W => RefRight17_far A n d W h16)
  clear h16
  go_enter Tryz.func15, Tryz.ntmps15
  go_wp2_with (go_at_call 45; refine (HPr.out _).mono ?_; clear HPr; rintro e w1 ⟨rfl, hb1⟩; have HB1 := Lib.hid (HBc.out.andThen hb1); clear hb1)
  go_ret
  exact ⟨rfl, HB1.out⟩
theorem RefRight22_c (c : Cf.CF) (A : Option Addr) (n d : Nat) (w : World) (b : Bool) (hb : decide (Cf.rightC c) = b) (hn : c.keep.length = n) (hs : Sl w 2 A n (Rk.cells c.keep)) :
    Calls Tryz.prog 15 #[confV c A n d] w fun e w' => e = .returned (.bool b) ∧ Below w.heap.size w w' := by
  by_cases h9 : n ≤ 1000000
  · exact (RefRight22_any c A n d w hn h9 hs).mono fun e w' h => ⟨by rw [h.1, hb], h.2⟩
  · have hno : decide (Cf.rightC c) = false := decide_eq_false fun h => by have := h.2.1; omega
    rw [hno] at hb
    subst hb
    exact RefRight22_far c A n d w (by omega)
theorem Sl.newEd (w : World) (x y : Value) (e : TypeId) : Sl (w.alloc (.cells #[x, y] e)) 2 (some ⟨w.heap.size, 0, none⟩) 1 [x, y] :=
  ⟨rfl, fun _ => ⟨_, _, rfl, fun j u hu => by rw [Nat.zero_add, World.cell?_alloc_new]; simpa using hu⟩⟩
/-- How many edges the first a vertices have ahead of them, of k. -/
def cntE (k : Nat) : Nat → Nat
  | 0 => 0
  | a + 1 => cntE k a + (k - (a + 1))
theorem cntE_all {k : Nat} (h : k ≤ 8) : cntE k k = k * (k - 1) / 2 := by
  have : ∀ k : Fin 9, cntE k k = k * (k - 1) / 2 := by decide
  exact this ⟨k, by omega⟩
theorem cntE_le {k a : Nat} (h : k ≤ 8) (ha : a ≤ k) : cntE k a ≤ 64 := by
  have : ∀ (k a : Fin 9), cntE k a ≤ 64 := by decide
  exact this ⟨k, by omega⟩ ⟨a, by omega⟩
theorem prog_all {c : Cf.CF} {L : List Int} {E : List (Int × Int)} (hp : rightG c.keep) (h1 : c.keep.length ≤ 15) (he : E.length = L.length * (L.length - 1) / 2) : Ts.keepsB (progC c) L E = Ts.keepsB c.keep L E := by
  unfold progC
  split
  · exact Ts.clique_all hp h1 he
  · rfl
theorem prog_two {c : Cf.CF} {L : List Int} (h2 : c.kind = 2) (hp : rightG c.keep) (h1 : c.keep.length ≤ 15) (h8 : L.length ≤ 8) : Ts.keepsB (progC c) L [] = (decide (L.length < 2) && Ts.keepsB c.keep L []) := by
  unfold progC
  rw [if_pos h2]
  exact Ts.clique_none hp h1 h8
theorem prog_else {c : Cf.CF} {L : List Int} (h2 : ¬ c.kind = 2) : Ts.keepsB (progC c) L [] = Ts.keepsB c.keep L [] := by
  unfold progC
  rw [if_neg h2]
theorem prog_few (c : Cf.CF) (h1 : c.keep.length ≤ 15) : (progC c).length ≤ 16 := by
  unfold progC
  split
  · rw [List.length_cons]; omega
  · omega
theorem cells_edge (E : List (Int × Int)) (a b : Int) : Rk.cells E ++ [.int .i64 a, .int .i64 b] = Rk.cells (E ++ [(a, b)]) := by simp [Rk.cells]

set_option maxHeartbeats 16000000 in
theorem ConfProgs_walk (c : Cf.CF) (L : List Int) (A C : Option Addr) (n d k q : Nat) (w : World) (hn : c.keep.length = n) (hs : Sl w 2 A n (Rk.cells c.keep)) (hl : L.length = k) (ht : Sl w 1 C k (L.map (Value.int .i64))) (hg : ErrT w) (hT : TabW w) (hL : LibW w) :
    Calls Tryz.prog 4 #[confV c A n d, .slice C k q] w fun e w' => e = .returned (.bool true) ∧ Below w.heap.size w w' := by
  have HG := Lib.hid hg
  have HT := Lib.hid hT
  have HLb := Lib.hid hL
  have HS := Lib.hid hs
  have HN := Lib.hid hn
  have HL := Lib.hid hl
  have HC := Lib.hid ht
  obtain ⟨kd, sz, sp, wk, cp, kp⟩ := c
  simp only at HN HS
  clear hg hT hL hs hn hl ht
  obtain ⟨w0, hw0⟩ : ∃ W, W = w.alloc (.cells #[.int .i64 kd, .int .i64 sz, .int .i64 sp, .int .i64 wk, .int .i64 cp, .slice A n d] 46) := ⟨_, rfl⟩
  have HB0 := Lib.hid (show Below w.heap.size w w0 from by rw [hw0]; exact bel_al (Below.refl _ _) _)
  have HK0 := Lib.hid (show Blk w0 w.heap.size 46 #[.int .i64 kd, .int .i64 sz, .int .i64 sp, .int .i64 wk, .int .i64 cp, .slice A n d] from by rw [hw0]; exact Blk.new _ _ _)
  have HAl := Lib.hid (alive22 w0 (HG.out.keep HB0.out) (HT.out.keep HB0.out) (HLb.out.keep HB0.out))
  go_enter Tryz.func4, Tryz.ntmps4
  go_upto_region 1 with (fail)
  rw [← hw0]
  clear hw0
  go_upto_region 3 with (go_at_call 14; refine HAl.out.mono ?_; clear HAl; rintro e w1 ⟨rfl, hb1⟩; have HB1 := Lib.hid (HB0.out.andThen hb1); have HK1 := Lib.hid (HK0.out.keep hb1); clear hb1)
  clear HK0 HB0
  have k0' := HK1.out.cell 0
  have k1 := HK1.out.cell 1
  have k2 := HK1.out.cell 2
  have k3 := HK1.out.cell 3
  have k4 := HK1.out.cell 4
  have k5 := HK1.out.cell 5
  simp at k0' k1 k2 k3 k4 k5
  by_cases hR : Cf.rightC ⟨kd, sz, sp, wk, cp, kp⟩
  case neg =>
    have HRf := Lib.hid (RefRight22_c ⟨kd, sz, sp, wk, cp, kp⟩ A n d w1 false (decide_eq_false hR) HN.out (HS.out.keep HB1.out))
    clear hR
    go_wp2_with (go_at_call 15; refine HRf.out.mono ?_; clear HRf; rintro e w4 ⟨rfl, hb4⟩; have HB4 := Lib.hid (HB1.out.andThen hb4); clear hb4)
    go_ret
    exact ⟨rfl, HB4.out⟩
  have HRf := Lib.hid (RefRight22_c ⟨kd, sz, sp, wk, cp, kp⟩ A n d w1 true (decide_eq_true hR) HN.out (HS.out.keep HB1.out))
  have HRt := Lib.hid hR
  have hn15 : n ≤ 15 := by have h1 := hR.2.1; have h2 := HN.out; simp only at h1; omega
  have HRg := Lib.hid (show rightG kp from hR.1)
  clear hR
  by_cases hk8 : 8 < k
  · have hk8' : (8 : Int) < (k : Int) := by omega
    go_wp2_with (go_at_call 15; refine HRf.out.mono ?_; clear HRf; rintro e w4 ⟨rfl, hb4⟩; have HB4 := Lib.hid (HB1.out.andThen hb4); clear hb4)
    go_ret
    exact ⟨rfl, HB4.out⟩
  have hk8' : ¬ (8 : Int) < (k : Int) := by omega
  have HOf := Lib.hid (fun W (hW : Below w.heap.size w W) => Of22_any ⟨kd, sz, sp, wk, cp, kp⟩ A n d W (by omega) (HS.out.keep hW))
  go_upto_region 6 with (first
    | (go_at_call 15; refine HRf.out.mono ?_; clear HRf; rintro e w4 ⟨rfl, hb4⟩; have HB4 := Lib.hid (HB1.out.andThen hb4); have HK4 := Lib.hid (HK1.out.keep hb4); have q0 := HK4.out.cell 0; have q1 := HK4.out.cell 1; have q2 := HK4.out.cell 2; have q3 := HK4.out.cell 3; have q4 := HK4.out.cell 4; have q5 := HK4.out.cell 5; simp at q0 q1 q2 q3 q4 q5; clear hb4)
    | (go_at_call 16; refine (HOf.out _ HB4.out).mono ?_; clear HOf; rintro e w2 ⟨D, dk, rfl, hsD, hb2⟩; have HB2 := Lib.hid (HB4.out.andThen hb2); have HSD := Lib.hid hsD; have HK2 := Lib.hid (HK4.out.keep hb2); clear hb2 hsD))
  clear k0' k1 k2 k3 k4 k5 q0 q1 q2 q3 q4 q5
  obtain ⟨wa, hwa⟩ : ∃ W, W = w2.alloc (.cells #[.int .i64 kd, .int .i64 sz, .int .i64 sp, .int .i64 wk, .int .i64 cp, .slice D n dk] 49) := ⟨_, rfl⟩
  have HBa := Lib.hid (show Below w.heap.size w wa from by rw [hwa]; exact bel_al HB2.out _)
  have HKa := Lib.hid (show Blk wa w2.heap.size 49 #[.int .i64 kd, .int .i64 sz, .int .i64 sp, .int .i64 wk, .int .i64 cp, .slice D n dk] from by rw [hwa]; exact Blk.new _ _ _)
  have HKp := Lib.hid (show Blk wa w.heap.size 46 #[.int .i64 kd, .int .i64 sz, .int .i64 sp, .int .i64 wk, .int .i64 cp, .slice A n d] from by rw [hwa]; exact HK2.out.alloc _)
  have HSa := Lib.hid (show Sl wa 2 D n (Rk.cells kp) from by rw [hwa]; exact HSD.out.alloc _)
  rw [← hwa]
  clear hwa HK1 HK4 HK2 HSD
  have k0' := HKa.out.cell 0
  have k1 := HKa.out.cell 1
  have k2 := HKa.out.cell 2
  have k3 := HKa.out.cell 3
  have k4 := HKa.out.cell 4
  have k5 := HKa.out.cell 5
  simp at k0' k1 k2 k3 k4 k5
  have HPr := Lib.hid (CfProg_any ⟨kd, sz, sp, wk, cp, kp⟩ D n dk wa (by omega) HN.out HSa.out)
  go_upto_region 7 with (go_at_call 17; refine HPr.out.mono ?_; clear HPr; rintro e w3 ⟨pv3, rfl, hown3, hb3⟩; obtain ⟨P, pc, rfl, hP⟩ := Sl.own hown3; have HP := Lib.hid hP; have HB3 := Lib.hid hb3; clear hP hown3 hb3)
  clear k0' k1 k2 k3 k4 k5
  have HFw := Lib.hid (prog_few ⟨kd, sz, sp, wk, cp, kp⟩ (by have h2 := HN.out; simp only; omega))
  obtain ⟨pr, hpr⟩ : ∃ p, p = progC ⟨kd, sz, sp, wk, cp, kp⟩ := ⟨_, rfl⟩
  have HPr := Lib.hid hpr
  rw [← hpr] at HP HFw ⊢
  clear hpr
  obtain ⟨np, hnp⟩ : ∃ m, m = pr.length := ⟨_, rfl⟩
  rw [← hnp] at HP HFw ⊢
  clear hnp
  have hnp16 : ¬ (16 : Int) < (np : Int) := by have := HFw.out; omega
  go_upto_region 8 with (fail)
  obtain ⟨w4, hw4⟩ : ∃ W, W = w3.alloc (.cells #[.slice C k q, .slice none 0 0] 30) := ⟨_, rfl⟩
  have HB4 := Lib.hid (show Below wa.heap.size wa w4 from by rw [hw4]; exact bel_al HB3.out _)
  have HP4 := Lib.hid (show Sl w4 2 P np (Rk.cells pr) from by rw [hw4]; exact HP.out.alloc _)
  have HKo := Lib.hid (show Blk w4 w3.heap.size 30 #[.slice C k q, .slice none 0 0] from by rw [hw4]; exact Blk.new _ _ _)
  have HZ4 := Lib.hid (show w4.heap.size = w3.heap.size + 1 from by rw [hw4]; simp)
  rw [← hw4]
  clear hw4 HP
  go_upto_region 9 with (fail)
  obtain ⟨w5, hw5⟩ : ∃ W, W = w4.alloc (.cells #[.slice C k q, .slice none 0 0] 30) := ⟨_, rfl⟩
  have HB5 := Lib.hid (show Below w4.heap.size w4 w5 from by rw [hw5]; exact bel_al (Below.refl _ _) _)
  have HKl := Lib.hid (show Blk w5 w4.heap.size 30 #[.slice C k q, .slice none 0 0] from by rw [hw5]; exact Blk.new _ _ _)
  have HZ5 := Lib.hid (show w5.heap.size = w4.heap.size + 1 from by rw [hw5]; simp)
  rw [← hw5]
  clear hw5
  go_wp2_with fail
  go_loopw [9] (fun iv wr => ∃ (a : Nat) (fv : Value) (E : List (Int × Int)), a ≤ k ∧ iv = .int .i64 (a : Int) ∧ Hid (E.length = cntE k a) ∧ Hid (wr.ownsRow w5.heap.size 53 2 fv E.length (Rk.cells E)) ∧ Hid (Blk wr w4.heap.size 30 #[.slice C k q, fv]) ∧ Hid (Below w4.heap.size w4 wr)) (fun iv _ => k - (intOf iv).toNat)
  case atStart => exact ⟨0, .slice none 0 0, [], Nat.zero_le _, rfl, Lib.hid rfl, Lib.hid (World.ownsRow_nil _ _ _ _), HKl, HB5⟩
  case round =>
    obtain ⟨a, fv, E, ha, rfl, HE, HOw, HKr, HBr⟩ := hrel
    obtain ⟨F, fq, rfl, _⟩ := Sl.own HOw.out
    by_cases hlt : a < k
    · have hlt' : (a : Int) < (k : Int) := by omega
      clear HKl
      go_wp2_with fail
      go_loopw [10] (fun bv wx => ∃ (b : Nat) (gv : Value) (G : List (Int × Int)), a + 1 ≤ b ∧ b ≤ k ∧ bv = .int .i64 (b : Int) ∧ Hid (G.length + (k - b) = cntE k (a + 1)) ∧ Hid (wx.ownsRow w5.heap.size 53 2 gv G.length (Rk.cells G)) ∧ Hid (Blk wx w4.heap.size 30 #[.slice C k q, gv]) ∧ Hid (Below w4.heap.size w4 wx)) (fun bv _ => k - (intOf bv).toNat)
      case atStart => exact ⟨a + 1, _, E, Nat.le_refl _, by omega, by go_num, Lib.hid (by have h := HE.out; show E.length + (k - (a + 1)) = cntE k a + (k - (a + 1)); omega), HOw, HKr, HBr⟩
      case round =>
        obtain ⟨b, gv, G, hb1, hbk, rfl, HGl, HOg, HKg, HBg⟩ := hrel
        clear HE HOw HKr HBr
        obtain ⟨G1, gq, rfl, _⟩ := Sl.own HOg.out
        have HSg := Lib.hid (show w5.heap.size ≤ wr.heap.size from by have h := HKg.out.lt; have h2 := HZ5.out; omega)
        by_cases hbt : b < k
        · have hbt' : (b : Int) < (k : Int) := by omega
          have hGl : G.length ≤ 64 := by have h := HGl.out; have h2 := cntE_le (k := k) (a := a + 1) (by omega) (by omega); omega
          have x1 := HKg.out.cell 1
          have f1 := HKg.out.frozen 1
          simp at x1
          have HNe := Lib.hid (show (Value.slice G1 G.length gq).ownBlock ≠ some w4.heap.size from fun e => by have h := (HOg.out.lt _ e).1; have h2 := HZ5.out; omega)
          generalize hgn : G.length = gn at *
          go_wp2_with (at_builtin; refine wpList_cat_at elemEdge _ _ rfl rfl (HOg.out.alloc _) (Nat.le_trans HSg.out (bel_al (Below.refl wr.heap.size wr) (.cells #[.int .i64 (a : Int), .int .i64 (b : Int)] 53)).size) (Sl.newEd _ _ _ _) rfl rfl (by simp [Value.oneCell']) (by unfold lim; omega) (by unfold lim; omega) ?_; intro v6 w6 hown6 hgr; obtain ⟨D6, d6, rfl, _⟩ := Sl.own hown6; have HO6 := Lib.hid hown6; have HB6 := Lib.hid ((bel_al (Below.refl wr.heap.size wr) (.cells #[.int .i64 (a : Int), .int .i64 (b : Int)] 53)).mono HSg.out |>.trans (hgr.belowOwn (Nat.le_trans HSg.out (bel_al (Below.refl wr.heap.size wr) (.cells #[.int .i64 (a : Int), .int .i64 (b : Int)] 53)).size) (HOg.out.alloc _))); have HK6 := Lib.hid (HKg.out.below HB6.out (by have h := HZ5.out; omega)); have y1 := HK6.out.cell 1; have g1 := HK6.out.frozen 1; simp at y1; clear hown6 hgr)
          have HKn := Lib.hid (show Blk (w6.setCell ⟨w4.heap.size, 1, none⟩ (.slice D6 (gn + 1) d6)) w4.heap.size 30 #[.slice C k q, .slice D6 (gn + 1) d6] from by have h := HK6.out.set_ 1 (.slice D6 (gn + 1) d6); simpa using h)
          have HOn := Lib.hid (show (w6.setCell ⟨w4.heap.size, 1, none⟩ (.slice D6 (gn + 1) d6)).ownsRow w5.heap.size 53 2 (.slice D6 (gn + 1) d6) (gn + 1) (Rk.cells (G ++ [((a : Int), (b : Int))])) from by
            rw [← cells_edge]
            exact own_far2 HO6.out (by have h := HZ5.out; omega) _)
          have HBn := Lib.hid (show Below w4.heap.size w4 (w6.setCell ⟨w4.heap.size, 1, none⟩ (.slice D6 (gn + 1) d6)) from (HBg.out.trans (HB6.out.mono (by have h := HZ5.out; omega))).setCell (p := ⟨w4.heap.size, 1, none⟩) (Nat.le_refl _) _)
          clear x1 f1 y1 g1
          go_wp2_with fail
          go_roundw
          case rel =>
            have hlg : (G ++ [((a : Int), (b : Int))]).length = gn + 1 := by rw [List.length_append, hgn]; rfl
            exact ⟨b + 1, .slice D6 (gn + 1) d6, G ++ [((a : Int), (b : Int))], by omega, by omega, by go_num, Lib.hid (by have h := HGl.out; omega), Lib.hid (by rw [hlg]; exact HOn.out), HKn, HBn⟩
          case measure => simp [intOf]; omega
        · obtain rfl : b = k := by omega
          go_wp2_with fail
          go_roundw
          case rel => exact ⟨a + 1, _, G, by omega, by go_num, Lib.hid (by have h := HGl.out; omega), HOg, HKg, HBg⟩
          case measure => simp [intOf]; omega
    · obtain rfl : a = k := by omega
      have hEl : E.length = a * (a - 1) / 2 := by have h := HE.out; rw [cntE_all (by omega)] at h; exact h
      have HEn := Lib.hid (show E.length ≤ 64 from by have h := HE.out; have h2 := cntE_le (k := a) (a := a) (by omega) (Nat.le_refl _); omega)
      have hE28 := HEn.out
      have h8l : L.length ≤ 8 := by have := HL.out; omega
      have HPa := Lib.hid (prog_all (c := ⟨kd, sz, sp, wk, cp, kp⟩) (L := L) (E := E) HRg.out (by have h2 := HN.out; simp only; omega) (by rw [HL.out]; exact hEl))
      simp only at HPa
      rw [← HPr.out] at HPa
      have HEd := Lib.hid (Sl.of_own HOw.out)
      have HBx := Lib.hid (show Below w.heap.size w wr from (HBa.out.andThen HB4.out).andThen HBr.out)
      have HCx := Lib.hid (HC.out.keep HBx.out)
      have HDx := Lib.hid (HSa.out.keep (HB4.out.andThen HBr.out))
      have HPx := Lib.hid (HP4.out.keep HBr.out)
      have HKox := Lib.hid (HKo.out.keep HBr.out)
      have HKax := Lib.hid (HKa.out.keep (HB4.out.andThen HBr.out))
      have HKpx := Lib.hid (HKp.out.keep (HB4.out.andThen HBr.out))
      generalize hen : E.length = en at *
      have HAll := Lib.hid (show ∀ W, Below wr.heap.size wr W → ((W.cell? ⟨w4.heap.size, 0, none⟩ = some (.slice C a q) ∧ W.cell? ⟨w4.heap.size, 1, none⟩ = some (.slice F en fq)) ∧ (W.cell? ⟨w3.heap.size, 0, none⟩ = some (.slice C a q) ∧ W.cell? ⟨w3.heap.size, 1, none⟩ = some (.slice none 0 0)) ∧ (W.cell? ⟨w2.heap.size, 5, none⟩ = some (.slice D n dk) ∧ W.cell? ⟨w.heap.size, 0, none⟩ = some (.int .i64 kd))) from fun W hW =>
        ⟨⟨(HKr.out.keep hW).cell 0, (HKr.out.keep hW).cell 1⟩, ⟨(HKox.out.keep hW).cell 0, (HKox.out.keep hW).cell 1⟩, (HKax.out.keep hW).cell 5, (HKpx.out.keep hW).cell 0⟩)
      have HK1 := Lib.hid (show ∀ W, Below wr.heap.size wr W → Calls Tryz.prog 11 #[.slice P np pc, pv C a q F en fq] W fun e w' => e = .returned (.bool (Ts.keepsB pr L E)) ∧ Below wr.heap.size wr w' from fun W hW => (Keeps_any pr P np pc W (fun o _ ho _ => holds_all ho h8l) (by have := HFw.out; omega) (HPx.out.keep hW) HL.out (by omega) (by omega) (HCx.out.keep hW) (HEd.out.keep hW)).mono fun e w' h => ⟨h.1, hW.andThen h.2⟩)
      have HK2 := Lib.hid (show ∀ W, Below wr.heap.size wr W → Calls Tryz.prog 11 #[.slice D n dk, pv C a q F en fq] W fun e w' => e = .returned (.bool (Ts.keepsB kp L E)) ∧ Below wr.heap.size wr w' from fun W hW => (Keeps_any kp D n dk W (fun o _ ho _ => holds_all ho h8l) (by omega) (HDx.out.keep hW) HL.out (by omega) (by omega) (HCx.out.keep hW) (HEd.out.keep hW)).mono fun e w' h => ⟨h.1, hW.andThen h.2⟩)
      have HK3 := Lib.hid (show ∀ W, Below wr.heap.size wr W → Calls Tryz.prog 11 #[.slice P np pc, pv C a q none 0 0] W fun e w' => e = .returned (.bool (Ts.keepsB pr L [])) ∧ Below wr.heap.size wr w' from fun W hW => (Keeps_any pr P np pc W (fun o _ ho _ => holds_all ho h8l) (by have := HFw.out; omega) (HPx.out.keep hW) HL.out (by omega) (by omega) (HCx.out.keep hW) ⟨rfl, fun h => absurd h (Nat.lt_irrefl _)⟩).mono fun e w' h => ⟨h.1, hW.andThen h.2⟩)
      have HK4 := Lib.hid (show ∀ W, Below wr.heap.size wr W → Calls Tryz.prog 11 #[.slice D n dk, pv C a q none 0 0] W fun e w' => e = .returned (.bool (Ts.keepsB kp L [])) ∧ Below wr.heap.size wr w' from fun W hW => (Keeps_any kp D n dk W (fun o _ ho _ => holds_all ho h8l) (by omega) (HDx.out.keep hW) HL.out (by omega) (by omega) (HCx.out.keep hW) ⟨rfl, fun h => absurd h (Nat.lt_irrefl _)⟩).mono fun e w' h => ⟨h.1, hW.andThen h.2⟩)
      have HO2 := Lib.hid (fun h2 : kd = 2 => prog_two (c := ⟨kd, sz, sp, wk, cp, kp⟩) (L := L) h2 HRg.out (by have h2 := HN.out; simp only; omega) h8l)
      have HO3 := Lib.hid (fun h2 : ¬ kd = 2 => prog_else (c := ⟨kd, sz, sp, wk, cp, kp⟩) (L := L) h2)
      simp only at HO2 HO3
      rw [← HPr.out, HL.out] at HO2
      rw [← HPr.out] at HO3
      rw [HPa.out] at HK1
      clear hEl HE HOw HKr HBr HKl HEd HCx HDx HPx HKox HKax HKpx hen HPa h8l HPr
      generalize Ts.keepsB kp L E = r1 at *
      generalize Ts.keepsB pr L [] = r2 at *
      generalize Ts.keepsB kp L [] = r3 at *
      have HE := Lib.hid HBx.out
      go_upto_region 18 with (fail)
      refine wp_region_qq (fun W => Below wr.heap.size wr W) (by kernel_rfl) (by kernel_rfl) (bel_drewN (Below.refl _ _) 1) ?_
      repeat (
        first
          | (apply qq_want
             · rfl
             · intro W hW
               obtain ⟨y0, y1, y2⟩ := HAll.out W hW
               go_simp
               first
                 | done
                 | exact rfl
                 | with_reducible exact HK1.out W hW
                 | with_reducible exact HK2.out W hW)
          | (refine qq_pass ?_ ?_
             · rfl)
        try simp only [Act.put, List.setIfInBounds_toArray, List.set_cons_zero, List.set_cons_succ])
      refine qq_nil ?_
      intro wq hbq
      have HBq := Lib.hid hbq
      clear hbq
      obtain ⟨⟨y0, y1⟩, ⟨y2, y3⟩, y4, y5⟩ := HAll.out wq HBq.out
      have hrr : (r1 == r1) = true := by simp
      by_cases h2 : kd = 2
      · subst h2
        have hr2 := HO2.out rfl
        by_cases hk2 : a < 2
        · have hk2' : (a : Int) < 2 := by omega
          rw [decide_eq_true hk2, Bool.true_and] at hr2
          subst hr2
          go_wp2_with (first
            | (go_at_call 11; refine (HK4.out _ HB6.out).mono ?_; clear HK4; rintro e w7 ⟨rfl, hb7⟩; have HB7 := Lib.hid hb7; clear hb7)
            | (go_at_call 11; refine (HK3.out _ HBq.out).mono ?_; clear HK3; rintro e w6 ⟨rfl, hb6⟩; have HB6 := Lib.hid hb6; clear y0 y1 y2 y3 y4 y5; obtain ⟨⟨y0, y1⟩, ⟨y2, y3⟩, y4, y5⟩ := HAll.out w6 hb6; clear hb6))
          go_ret
          exact ⟨ret_bool (by simp), HBx.out.andThen HB7.out⟩
        · have hk2' : ¬ (a : Int) < 2 := by omega
          rw [decide_eq_false hk2, Bool.false_and] at hr2
          subst hr2
          go_wp2_with (go_at_call 11; refine (HK3.out _ HBq.out).mono ?_; clear HK3; rintro e w6 ⟨rfl, hb6⟩; have HB6 := Lib.hid hb6; clear y0 y1 y2 y3 y4 y5; obtain ⟨⟨y0, y1⟩, ⟨y2, y3⟩, y4, y5⟩ := HAll.out w6 hb6; clear hb6)
          go_ret
          exact ⟨ret_bool (by simp), HBx.out.andThen HB6.out⟩
      · have hr2 := HO3.out h2
        subst hr2
        go_upto_region 22 with (fail)
        refine wp_region_qq (fun W => Below wr.heap.size wr W) (by kernel_rfl) (by kernel_rfl) (bel_drewN (HBq.out) 1) ?_
        repeat (
          first
            | (apply qq_want
               · rfl
               · intro W hW
                 obtain ⟨y0, y1, y2⟩ := HAll.out W hW
                 go_simp
                 first
                   | done
                   | exact rfl
                   | with_reducible exact HK3.out W hW
                   | with_reducible exact HK4.out W hW)
            | (refine qq_pass ?_ ?_
               · rfl)
          try simp only [Act.put, List.setIfInBounds_toArray, List.set_cons_zero, List.set_cons_succ])
        refine qq_nil ?_
        intro wz hbz
        have HBz := Lib.hid hbz
        clear hbz
        go_wp2_with fail
        go_ret
        exact ⟨ret_bool (by simp), HBx.out.andThen HBz.out⟩

theorem ConfProgs_main (x0 x1 x2 x3 x4 : Int) (A : Option Addr) (n d : Nat) (K : List (Int × Int)) (C : Option Addr) (k q : Nat) (l : List Int) (w : World) (hg : ErrT w) (hT : TabW w) (hL : LibW w) (hn : K.length = n) (hm : n ≤ maxLen) (hs : Sl w 2 A n (Rk.cells K)) (mk : k ≤ maxLen) (ek : l.length = k) (sk : Sl w 1 C k (l.map (Value.int .i64))) (wk : ∀ x ∈ l, (Lit.int .i64 x).wf = true) :
    Calls Tryz.prog 4 #[.agg #[.int .i64 x0, .int .i64 x1, .int .i64 x2, .int .i64 x3, .int .i64 x4, .slice A n d], .slice C k q] w fun e w' => e = .returned (.bool true) ∧ Below w.heap.size w w' :=
  ConfProgs_walk ⟨x0, x1, x2, x3, x4, K⟩ l A C n d k q w hn hs ek sk hg hT hL
end Go.Proofs.YtapledphhfiimaaGreatDoor
/-
  What is asked of a job, as it came in (a struct of six one-cell fields), the first form.
-/
namespace Go.Proofs.YtapledphhfiimaaGreatDoor
open Go.ChangeShapes Go.WideShapes Go.ChangeAt Go.RowKit Go.Joins Go.Deep
set_option linter.unusedVariables false
set_option maxRecDepth 100000

theorem array6 {α : Type} {cs : Array α} (h : cs.size = 6) : ∃ c0 c1 c2 c3 c4 c5, cs = #[c0, c1, c2, c3, c4, c5] := by
  obtain ⟨l⟩ := cs
  match l, h with
  | [c0, c1, c2, c3, c4, c5], _ => exact ⟨c0, c1, c2, c3, c4, c5, rfl⟩
theorem list6 {α : Type} {l : List α} (h : l.length = 6) : ∃ c0 c1 c2 c3 c4 c5, l = [c0, c1, c2, c3, c4, c5] := by
  match l, h with
  | [c0, c1, c2, c3, c4, c5], _ => exact ⟨c0, c1, c2, c3, c4, c5, rfl⟩
section
variable {H : Type} {enc : TypeId × Value → H} {P : Program} {w : World} {base : Nat} {spare : Nat → Bool} {held : Bool}
theorem open_agg6 {r : Reach} {b0 : Nat} {t : TypeId} {f0 f1 f2 f3 f4 f5 : Field} {v : Value} {d : DataW H} {p : List MemPlace} (hs : P.underlying t = some (.struct #[f0, f1, f2, f3, f4, f5])) (hone : oneCellFields P #[f0, f1, f2, f3, f4, f5] = true) (hC : P.cellsOf t = 6)
    (hv : Value.okWide P w r b0 t v) (h : DataW.Trod enc P w base spare held t v d p) :
    ∃ (v0 v1 v2 v3 v4 v5 : Value) (y0 y1 y2 y3 y4 y5 : DataW H × List MemPlace) (n : Nat), v = .agg #[v0, v1, v2, v3, v4, v5] ∧
      DataW.trod enc P w base spare held n f0.type [v0] = some y0 ∧ DataW.trod enc P w base spare held n f1.type [v1] = some y1 ∧ DataW.trod enc P w base spare held n f2.type [v2] = some y2 ∧ DataW.trod enc P w base spare held n f3.type [v3] = some y3 ∧
      DataW.trod enc P w base spare held n f4.type [v4] = some y4 ∧ DataW.trod enc P w base spare held n f5.type [v5] = some y5 := by
  obtain ⟨cs, rfl, hsz⟩ := okWide_struct hs hv
  obtain ⟨c0, c1, c2, c3, c4, c5, rfl⟩ := array6 (hsz.trans hC)
  obtain ⟨fuel, hf⟩ := h
  obtain ⟨xs, n, _, hx, _, hlen, hg⟩ := DataW.trod_struct hs hf
  obtain ⟨y0, y1, y2, y3, y4, y5, rfl⟩ := list6 (show xs.length = 6 from hlen)
  obtain ⟨o0, k0⟩ := hone_of hone 0 f0 rfl
  obtain ⟨o1, k1⟩ := hone_of hone 1 f1 rfl
  obtain ⟨o2, k2⟩ := hone_of hone 2 f2 rfl
  obtain ⟨o3, k3⟩ := hone_of hone 3 f3 rfl
  obtain ⟨o4, k4⟩ := hone_of hone 4 f4 rfl
  obtain ⟨o5, k5⟩ := hone_of hone 5 f5 rfl
  have h0 := hg 0 f0 rfl
  have h1 := hg 1 f1 rfl
  have h2 := hg 2 f2 rfl
  have h3 := hg 3 f3 rfl
  have h4 := hg 4 f4 rfl
  have h5 := hg 5 f5 rfl
  exact ⟨c0, c1, c2, c3, c4, c5, y0, y1, y2, y3, y4, y5, n, rfl, by simpa [Value.cells, o0, k0] using h0, by simpa [Value.cells, o1, k1] using h1, by simpa [Value.cells, o2, k2] using h2, by simpa [Value.cells, o3, k3] using h3, by simpa [Value.cells, o4, k4] using h4, by simpa [Value.cells, o5, k5] using h5⟩
end
section
variable {H : Type} {enc : TypeId × Value → H} {w : World} {base b0 : Nat} {spare : Nat → Bool} {held : Bool} {r : Reach}
/-- What is asked, as it came in. -/
theorem open_conf {v : Value} {d : DataW H} {p : List MemPlace} (hv : Value.okWide Tryz.prog w r b0 46 v) (h : DataW.Trod enc Tryz.prog w base spare held 46 v d p) :
    ∃ (x0 x1 x2 x3 x4 : Int) (A : Option Addr) (n c : Nat) (K : List (Int × Int)), v = .agg #[.int .i64 x0, .int .i64 x1, .int .i64 x2, .int .i64 x3, .int .i64 x4, .slice A n c] ∧ K.length = n ∧ n ≤ maxLen ∧ Sl w 2 A n (Rk.cells K) := by
  obtain ⟨c0, c1, c2, c3, c4, c5, y0, y1, y2, y3, y4, y5, fu, rfl, hy0, hy1, hy2, hy3, hy4, hy5⟩ := open_agg6 Tryz.underlying46 (by kernel_rfl) (by kernel_rfl) hv h
  obtain ⟨x0, e0, _, _⟩ := DataW.trod_int Tryz.underlying3 hy0
  obtain ⟨x1, e1, _, _⟩ := DataW.trod_int Tryz.underlying3 hy1
  obtain ⟨x2, e2, _, _⟩ := DataW.trod_int Tryz.underlying3 hy2
  obtain ⟨x3, e3, _, _⟩ := DataW.trod_int Tryz.underlying3 hy3
  obtain ⟨x4, e4, _, _⟩ := DataW.trod_int Tryz.underlying3 hy4
  cases e0
  cases e1
  cases e2
  cases e3
  cases e4
  obtain ⟨A, n, c, rfl⟩ := slice_shape Tryz.underlying22 hy5
  obtain ⟨hm, K, hK, hs, _⟩ := open_sl_pairs Tryz.underlying22 Tryz.underlying72 (by kernel_rfl) rfl rfl (by kernel_rfl) (by kernel_rfl) Tryz.underlying3 Tryz.underlying3 hy5
  exact ⟨x0, x1, x2, x3, x4, A, n, c, K, rfl, hK, hm, hs⟩
end
end Go.Proofs.YtapledphhfiimaaGreatDoor
