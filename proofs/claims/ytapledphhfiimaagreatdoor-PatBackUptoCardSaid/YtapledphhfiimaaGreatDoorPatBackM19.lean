/-
  Part 19 of the proof of PatBack: PatL, Law08, PatF, PatO.
-/
import Derived.Test.YtapledphhfiimaaGreatDoorPatBackM18
import Derived.Test.YtapledphhfiimaaGreatDoorPatBackM4
import Derived.Test.YtapledphhfiimaaGreatDoorPatBackM13
set_option linter.unusedVariables false
/-
  Patterns: Make of the chapter's example.
-/
namespace Go.Proofs.YtapledphhfiimaaGreatDoor
open Go.RowKit
attribute [local go_sem ↓] Go.wp_at_zero Go.wp_at_succ
set_option maxRecDepth 100000
set_option linter.unusedVariables false

set_option maxHeartbeats 16000000 in
theorem Make_ex (A B : Option Addr) (c d : Nat) (w : World) (hs : Sl w 1 A 3 ([1, 1, 1].map (Value.int .i64))) (ht : Sl w 2 B 3 (Rk.cells exE)) :
    Calls Tryz.prog 49 #[.slice A 3 c, .slice B 3 d] w fun e w' => ∃ A' c' B' d', e = .returned (.tuple #[pv A' 3 c' B' 3 d', .nilIface]) ∧ Sl w' 1 A' 3 ([1, 1, 1].map (Value.int .i64)) ∧ Sl w' 2 B' 3 (Rk.cells (rk 3)) ∧ Below w.heap.size w w' := by
  have hb0 := bel_al (Below.refl w.heap.size w) (.cells #[.slice none 0 0, .slice none 0 0] 30)
  have HB0 := Lib.hid hb0
  have HK4 := Lib.hid (Blk.new w 30 #[.slice none 0 0, .slice none 0 0])
  have HLab := Lib.hid ((labels_any [1, 1, 1] A 3 c _ rfl (hs.keep hb0)).mono (R' := fun e W => e = .returned .nilIface ∧ w.alloc (.cells #[.slice none 0 0, .slice none 0 0] 30) = W) fun e W h => by
    rcases h with ⟨_, h⟩ | ⟨h, _⟩
    · exact h
    · exact absurd ⟨by decide, by decide⟩ h)
  have HCl := Lib.hid (CloneI_ownK [1, 1, 1] A 3 c _ rfl (by omega) (hs.keep hb0))
  have HT := Lib.hid (ht.keep hb0)
  clear hb0 hs ht
  go_enter Tryz.func49, Tryz.ntmps49
  generalize hw0 : w.alloc (.cells #[.slice none 0 0, .slice none 0 0] 30) = w0 at *
  go_wp2_with (first
    | (go_at_call 35; refine HLab.out.mono ?_; rintro e w1 ⟨rfl, rfl⟩)
    | (go_at_call 78; refine HCl.out.mono ?_; rintro e w1 ⟨v, rfl, hown, hb1⟩; obtain ⟨A1, c1, rfl, hsl1⟩ := Sl.own hown; have HOc := Lib.hid hown; have HB1 := Lib.hid hb1; have HK1 := Lib.hid (HK4.out.keep hb1); have HT1 := Lib.hid (HT.out.keep hb1); clear hown hb1 hsl1))
  clear HT HLab HCl HK4
  go_loopw [23] (fun iv wr => ∃ k : Nat, k ≤ 3 ∧ iv = .int .i64 k ∧ ∃ v, Blk wr w1.heap.size 30 #[.slice A1 3 c1, v] ∧ wr.ownsRow (w1.heap.size + 1) 53 2 v k (Rk.cells (rk k)) ∧ Below w1.heap.size w1 wr) (fun iv _ => 3 - (intOf iv).toNat)
  case atStart => exact ⟨0, by omega, rfl, _, Blk.new _ _ _, World.ownsRow_nil _ _ _ _, bel_al (Below.refl _ _) _⟩
  case round =>
    obtain ⟨k, hk, rfl, v, hbk, hown, hb⟩ := hrel
    obtain ⟨D, q, rfl, _⟩ := Sl.own hown
    have HP := Lib.hid hbk
    have HO := Lib.hid hown
    have HB := Lib.hid hb
    have HTk := Lib.hid (HT1.out.keep hb)
    clear hbk hown hb
    by_cases hlt : k < 3
    · have hlt' : (k : Int) < 3 := by omega
      have hk0 : (0 : Int) ≤ (k : Int) := by omega
      obtain ⟨x, y, ⟨tx, ty⟩, p, hx⟩ := ex_facts k hlt
      obtain ⟨b1, off1, rfl, c0, c1'⟩ := HTk.out.edge hlt hx.at_
      simp only at c0 c1'
      have HX := Lib.hid hx
      have hxy : ¬ x = y := hx.ne
      have hxy' : (x == y) = false := by simpa using hxy
      clear hx
      have HTurn := Lib.hid (fun W => (turned_any x y W).mono (R' := fun e w' => e = .returned (.agg #[.int .i64 tx, .int .i64 ty]) ∧ Below W.heap.size W w') fun e w' h => ⟨by rw [h.1, HX.out.turn]; rfl, h.2⟩)
      have HWi := Lib.hid (fun W => (within_any x y 3 W).mono (R' := fun e w' => e = .returned (.bool true) ∧ Below W.heap.size W w') fun e w' h => ⟨by rw [h.1, decide_eq_true]; exact HX.out.in_, h.2⟩)
      have HBS := Lib.hid (fun W (hW : Below wr.heap.size wr W) => (BSE_any (rk k) (tx, ty) D k q W (by omega) ((Sl.of_own HO.out).keep hW) HX.out.rise).mono (R' := fun e w' => e = .returned (.tuple #[.int .i64 (p : Int), .bool false]) ∧ Below W.heap.size W w') fun e w' h => by
        obtain ⟨p', b, rfl, h1, h2, h3⟩ := h
        obtain rfl := HX.out.spot p' h1
        have hb : b = false := by
          cases b
          · rfl
          · exact absurd (h2.1 rfl) HX.out.new
        subst hb
        exact ⟨rfl, h3⟩)
      have HneE := Lib.hid (show (Value.slice D k q).ownBlock ≠ some wr.heap.size from fun h => by have h1 := (HO.out.lt _ h).2; omega)
      have HneP := Lib.hid (show (Value.slice D k q).ownBlock ≠ some w1.heap.size from fun h => by have h1 := (HO.out.lt _ h).1; omega)
      have HIns := Lib.hid (fun W6 (h6 : Below wr.heap.size wr W6) (hE : Blk W6 wr.heap.size 53 #[.int .i64 x, .int .i64 y]) (hP : Blk W6 w1.heap.size 30 #[.slice A1 3 c1, .slice D k q]) =>
        (Insert_any (rk k) (tx, ty) (w1.heap.size + 1) k p W6.heap.size (.slice D k q) (W6.alloc (.cells #[.int .i64 tx, .int .i64 ty] 53)) HX.out.len (by omega) HX.out.le ((own_below HO.out (fun g hg => (HO.out.lt g hg).2) h6).alloc _) (by have h1 := HB.out.size; have h2 := h6.size; have h3 := HP.out.lt; simp; omega) (Blk.new _ _ _) (fun h => by have h1 := (HO.out.lt _ h).2; have h2 := h6.size; omega)).mono
          (R' := fun e w7 => ∃ v', e = .returned v' ∧ Blk w7 wr.heap.size 53 #[.int .i64 x, .int .i64 y] ∧ Blk w7 w1.heap.size 30 #[.slice A1 3 c1, .slice D k q] ∧ w7.ownsRow (w1.heap.size + 1) 53 2 v' (k + 1) (Rk.cells (rk (k + 1))) ∧ Below w1.heap.size w1 w7) fun e w7 h => by
          obtain ⟨v', rfl, hown7, hgr⟩ := h
          rw [HX.out.ins] at hown7
          refine ⟨v', rfl, hgr.blk (hE.alloc _) HneE.out, hgr.blk (hP.alloc _) HneP.out, hown7, ?_⟩
          refine (HB.out.trans (h6.mono HB.out.size)).trans (hgr.after_alloc.below (Nat.le_trans HB.out.size h6.size) fun g hg => ?_)
          have := (HO.out.lt g hg).1
          omega)
      have HB2 := Lib.hid (bel_al (Below.refl wr.heap.size wr) (.cells #[.int .i64 x, .int .i64 y] 53))
      have HKe := Lib.hid (Blk.new wr 53 #[.int .i64 x, .int .i64 y])
      have HKp := Lib.hid (HP.out.alloc (.cells #[.int .i64 x, .int .i64 y] 53))
      have p1 := HKp.out.cell 1
      simp at p1
      go_wp2_with fail
      go_region_held3 (fun w' => w'.cell? ⟨w1.heap.size, 1, none⟩ = some (.slice D k q) ∧ w'.cell? ⟨wr.heap.size, 0, none⟩ = some (.int .i64 x) ∧ w'.cell? ⟨wr.heap.size, 1, none⟩ = some (.int .i64 y)) (go_keep)
        (first
          | (go_at_call 57; refine (HTurn.out _).mono ?_; rintro e w3 ⟨rfl, hb3⟩; have HB3 := Lib.hid ((bel_drewN HB2.out 1).andThen hb3); have HKe3 := Lib.hid (HKe.out.drew.keep hb3); have HKp3 := Lib.hid (HKp.out.drew.keep hb3); have q0 := HKe3.out.cell 0; have q1 := HKe3.out.cell 1; have q2 := HKp3.out.cell 1; simp at q0 q1 q2; clear hb3)
          | (go_at_call 79; refine (HBS.out _ HB3.out).mono ?_; rintro e w4 ⟨rfl, hb4⟩; have HB4 := Lib.hid (HB3.out.andThen hb4); have HKe4 := Lib.hid (HKe3.out.keep hb4); have HKp4 := Lib.hid (HKp3.out.keep hb4); have r0 := HKe4.out.cell 0; have r1 := HKe4.out.cell 1; have r2 := HKp4.out.cell 1; simp at r0 r1 r2; clear hb4 q0 q1 q2))
      go_wp2_with (go_at_call 36; refine (HWi.out _).mono ?_; rintro e w5 ⟨rfl, hb5⟩; have HB5 := Lib.hid (HB4.out.andThen hb5); have HKe5 := Lib.hid (HKe4.out.keep hb5); have HKp5 := Lib.hid (HKp4.out.keep hb5); have s0 := HKe5.out.cell 0; have s1 := HKe5.out.cell 1; have s2 := HKp5.out.cell 1; simp at s0 s1 s2; clear hb5 r0 r1 r2)
      have s2' : w5.drew.cell? ⟨w1.heap.size, 1, none⟩ = some (.slice D k q) := s2
      go_region_with
        (first
          | (go_at_call 57; refine (HTurn.out _).mono ?_; rintro e w6 ⟨rfl, hb6⟩; have HB6 := Lib.hid ((bel_drewN HB5.out 1).andThen hb6); have HKe6 := Lib.hid (HKe5.out.drew.keep hb6); have HKp6 := Lib.hid (HKp5.out.drew.keep hb6); have t0 := HKe6.out.cell 0; have t1 := HKe6.out.cell 1; have t2 := HKp6.out.cell 1; have t2a := (HKp6.out.alloc (.cells #[.int .i64 tx, .int .i64 ty] 53)).cell 1; simp at t0 t1 t2 t2a; clear hb6)
          | (go_at_call 80; refine (HIns.out _ HB6.out HKe6.out HKp6.out).mono ?_; rintro e w7 ⟨v', rfl, hE7, hP7, hO7, hb7⟩; obtain ⟨D', q', rfl, _⟩ := Sl.own hO7; have HP7 := Lib.hid hP7; have u0 := hE7.cell 0; have u1 := hE7.cell 1; have u2 := hP7.cell 1; have u3 := hP7.frozen 1; have HO7 := Lib.hid hO7; have HB7 := Lib.hid hb7; simp at u0 u1 u2; clear hE7 hP7 hO7 hb7))
      all_goals (
        have HPn := Lib.hid (HP7.out.set_ 1 (.slice D' (k + 1) q'))
        have HOn := Lib.hid (own_far2 HO7.out (b := w1.heap.size) (i := 1) (Nat.lt_succ_self _) (.slice D' (k + 1) q'))
        have HBn := Lib.hid (HB7.out.setCell (p := ⟨w1.heap.size, 1, none⟩) (Nat.le_refl _) (.slice D' (k + 1) q'))
        go_wp2_with fail
        go_roundw
        case rel => exact ⟨k + 1, by omega, by go_num, _, HPn.out, HOn.out, HBn.out⟩
        case measure => simp [intOf]; omega)
    · obtain rfl : k = 3 := by omega
      have hlt' : ¬ (3 : Int) < 3 := by omega
      have p0 := HP.out.cell 0
      have p1 := HP.out.cell 1
      simp at p0 p1
      have hk4 := HK1.out.keep HB.out
      have k40 := hk4.cell 0
      have k41 := hk4.cell 1
      have f40 := hk4.frozen 0
      have f41 := hk4.frozen 1
      simp at k40 k41
      have hw1 := HB1.out.size
      have hww : w.heap.size < w0.heap.size := by rw [← hw0]; simp
      have x0 := (hk4.set_ 0 (.slice A1 3 c1)).set_ 1 (.slice D 3 q)
      have x00 := x0.cell 0
      have x01 := x0.cell 1
      simp at x00 x01
      have HF1 := Lib.hid (Sl.of_own (own_far2 (own_far2 (own_below HOc.out (fun g hg => (HOc.out.lt g hg).2) HB.out) (b := w.heap.size) (i := 0) hww (.slice A1 3 c1)) (b := w.heap.size) (i := 1) hww (.slice D 3 q)))
      have HF2 := Lib.hid (Sl.of_own (own_far2 (own_far2 HO.out (b := w.heap.size) (i := 0) (by omega) (.slice A1 3 c1)) (b := w.heap.size) (i := 1) (by omega) (.slice D 3 q)))
      have HBf := Lib.hid (((HB0.out.andThen (HB1.out.andThen HB.out)).setCell (p := ⟨w.heap.size, 0, none⟩) (Nat.le_refl _) (.slice A1 3 c1)).setCell (p := ⟨w.heap.size, 1, none⟩) (Nat.le_refl _) (.slice D 3 q))
      clear hw1 hww x0 hk4 hw0
      go_wp2_with fail
      refine bodyPost_ret (v := .tuple #[pv A1 3 c1 D 3 q, .nilIface]) (by simp [results, Tryz.results49, go_sem, x00, x01]) rfl ?_
      first | exact ⟨A1, c1, D, q, rfl, HF1.out, HF2.out, HBf.out⟩ | exact ⟨A1, c1, D, ⟨q, rfl⟩, HF1.out, HF2.out, HBf.out⟩
end Go.Proofs.YtapledphhfiimaaGreatDoor
/-
  Chapter 08's statements: alive.
-/
namespace Go.Proofs.YtapledphhfiimaaGreatDoor
open Go.RowKit
attribute [local go_sem ↓] Go.wp_at_zero Go.wp_at_succ
set_option maxRecDepth 100000
set_option linter.unusedVariables false

theorem itoa_digit (u : Nat) (h : u < 10) : Lib.itoa (u : Int) = [UInt8.ofNat (48 + u)] := by
  unfold Lib.itoa
  rw [if_neg (by omega), Int.toNat_natCast, Lib.decDigits, dif_pos h]
theorem itoaB0 : itoaB 0 = ⟨#[48]⟩ := by unfold itoaB; rw [show (0 : Int) = ((0 : Nat) : Int) from rfl, itoa_digit 0 (by omega)]; rfl
theorem itoaB1 : itoaB 1 = ⟨#[49]⟩ := by unfold itoaB; rw [show (1 : Int) = ((1 : Nat) : Int) from rfl, itoa_digit 1 (by omega)]; rfl
theorem itoaB2 : itoaB 2 = ⟨#[50]⟩ := by unfold itoaB; rw [show (2 : Int) = ((2 : Nat) : Int) from rfl, itoa_digit 2 (by omega)]; rfl
theorem text_ex : textB [1, 1, 1] (rk 3) = ⟨#[49, 44, 49, 44, 49, 124, 48, 45, 49, 44, 48, 45, 50, 44, 49, 45, 50]⟩ := by
  unfold textB
  simp only [rk, List.map_cons, List.map_nil, edgeB, itoaB0, itoaB1, itoaB2]
  rfl
theorem right_ex : ¬ labOK [-1] := fun h => by
  have := h.2 (-1) (List.mem_singleton.2 rfl)
  omega

theorem right_at (w : World) : Calls Tryz.prog 10 #[pv (some ⟨w.heap.size, 0, none⟩) 1 1 none 0 0] (w.alloc (.cells #[.int .i64 (-1)] 3)) fun e w' => ∃ a s g, e = .returned (.iface 111 (.pointer (some ⟨g, 0, none⟩))) ∧ Blk w' g 114 #[.int .i64 3, .int .i64 a, .string s] ∧ Below w.heap.size w w' :=
  (PatRight_any [-1] [] _ none 1 1 0 0 _ rfl (by omega) (by omega) (Sl.newAt w [.int .i64 (-1)] 3 1 rfl) (Sl.nil _ _ _)).mono fun e w' h => by
    rcases h with ⟨h, _⟩ | ⟨_, c, a, s, v, rfl, ⟨g, rfl, hbk⟩, hb, _, hc⟩
    · exact absurd h.1 right_ex
    · have h3 := hc right_ex
      rw [show labC [-1] = 3 from rfl] at h3
      rw [h3] at hbk
      exact ⟨a, s, g, rfl, hbk, (bel_al (Below.refl _ _) _).andThen hb⟩
instance (x : Int) : Decidable (i64P x) := by unfold i64P; infer_instance

set_option maxHeartbeats 8000000 in
theorem alive08 (w : World) (hg : ErrT w) (hT : TabW w) : Calls Tryz.prog 18 #[] w fun e w' => e = .returned (.bool true) ∧ Below w.heap.size w w' := by
  obtain ⟨wb, hwb⟩ : ∃ wb, wb = (w.alloc (.cells #[.int .i64 1, .int .i64 1, .int .i64 1] 3)).alloc (.cells #[.int .i64 2, .int .i64 1, .int .i64 0, .int .i64 1, .int .i64 0, .int .i64 2] 53) := ⟨_, rfl⟩
  have HB0 := Lib.hid (show Below w.heap.size w wb by rw [hwb]; exact bel_al (bel_al (Below.refl _ _) _) _)
  have HM := Lib.hid (show Calls Tryz.prog 49 #[.slice (some ⟨w.heap.size, 0, none⟩) 3 3, .slice (some ⟨w.heap.size + 1, 0, none⟩) 3 3] wb fun e w' => ∃ A' c' B' d', e = .returned (.tuple #[pv A' 3 c' B' 3 d', .nilIface]) ∧ Sl w' 1 A' 3 ([1, 1, 1].map (Value.int .i64)) ∧ Sl w' 2 B' 3 (Rk.cells (rk 3)) ∧ Below wb.heap.size wb w' from by
    refine Make_ex _ _ 3 3 wb ?_ ?_
    · rw [hwb]
      exact (Sl.newAt w [.int .i64 1, .int .i64 1, .int .i64 1] 3 3 rfl).alloc _
    · rw [hwb]
      have := Blk.new (w.alloc (.cells #[.int .i64 1, .int .i64 1, .int .i64 1] 3)) 53 #[.int .i64 2, .int .i64 1, .int .i64 0, .int .i64 1, .int .i64 0, .int .i64 2]
      rw [World.size_alloc] at this
      exact ⟨rfl, fun _ => ⟨_, 0, rfl, fun j u hu => by rw [Nat.zero_add, this.cell, List.getElem?_toArray]; exact hu⟩⟩)
  have HG := Lib.hid hg
  have HTb := Lib.hid hT
  clear hg hT
  subst hwb
  go_enter Tryz.func18, Tryz.ntmps18
  go_wp2_with (first
    | (go_at_call 49; refine HM.out.mono ?_; clear HM; rintro e w1 ⟨A1, c1, B1, d1, rfl, hs1, ht1, hb1⟩; have HB1 := Lib.hid (bel_al (HB0.out.andThen hb1) (.cells #[.slice A1 3 c1, .slice B1 3 d1] 30)); have HTx := Lib.hid ((Text_any [1, 1, 1] (rk 3) A1 B1 3 c1 3 d1 _ rfl (by omega) (by omega) (hs1.alloc (.cells #[.slice A1 3 c1, .slice B1 3 d1] 30)) (ht1.alloc _) (by decide) (by decide) (HTb.out.keep HB1.out)).mono (R' := fun e w' => e = .returned (.string ⟨#[49, 44, 49, 44, 49, 124, 48, 45, 49, 44, 48, 45, 50, 44, 49, 45, 50]⟩) ∧ Below (w1.alloc (.cells #[.slice A1 3 c1, .slice B1 3 d1] 30)).heap.size (w1.alloc (.cells #[.slice A1 3 c1, .slice B1 3 d1] 30)) w') fun e w' h => ⟨by rw [h.1, text_ex], h.2⟩); clear hs1 ht1 hb1)
    | (go_at_call 50; refine HTx.out.mono ?_; clear HTx; rintro e w2 ⟨rfl, hb2⟩; have HB2 := Lib.hid (HB1.out.andThen hb2); have HR := Lib.hid (right_at w2); clear hb2)
    | (go_at_call 10; refine HR.out.mono ?_; clear HR; rintro e w3 ⟨a, s, g, rfl, hbk, hb3⟩; have HB3 := Lib.hid (HB2.out.andThen hb3); have HC := Lib.hid (Code_flt g 3 a s w3 (HG.out.keep HB3.out) hbk); clear hbk hb3)
    | (go_at_call 31; refine HC.out.mono ?_; clear HC; rintro e w4 ⟨rfl, hb4⟩; have HB4 := Lib.hid (HB3.out.andThen hb4); clear hb4))
  go_ret
  exact ⟨rfl, HB4.out⟩
end Go.Proofs.YtapledphhfiimaaGreatDoor
/-
  Patterns: the statements' Same.
-/
namespace Go.Proofs.YtapledphhfiimaaGreatDoor
open Go.RowKit
attribute [local go_sem ↓] Go.wp_at_zero Go.wp_at_succ
set_option maxRecDepth 100000
set_option linter.unusedVariables false

end Go.Proofs.YtapledphhfiimaaGreatDoor
/-
  The walk of PatOrder.
-/
namespace Go.Proofs.YtapledphhfiimaaGreatDoor
open Go.RowKit
attribute [local go_sem ↓] Go.wp_at_zero Go.wp_at_succ
set_option maxRecDepth 100000
set_option linter.unusedVariables false

theorem Pt.cmpI_range (a b : Int) : Pt.cmpI a b = -1 ∨ Pt.cmpI a b = 0 ∨ Pt.cmpI a b = 1 := by unfold Pt.cmpI; split <;> (try split) <;> omega
theorem Pt.or2_range {a b : Int} (ha : a = -1 ∨ a = 0 ∨ a = 1) (hb : b = -1 ∨ b = 0 ∨ b = 1) : Pt.or2 a b = -1 ∨ Pt.or2 a b = 0 ∨ Pt.or2 a b = 1 := by unfold Pt.or2; split <;> assumption
theorem Pt.cmpBy_range {α : Type} {f : α → α → Int} (hf : ∀ x y, f x y = -1 ∨ f x y = 0 ∨ f x y = 1) : ∀ l m, Pt.cmpBy f l m = -1 ∨ Pt.cmpBy f l m = 0 ∨ Pt.cmpBy f l m = 1
  | [], [] => .inr (.inl rfl)
  | [], _ :: _ => .inl rfl
  | _ :: _, [] => .inr (.inr rfl)
  | a :: l, b :: m => by
    unfold Pt.cmpBy
    split
    · exact Pt.cmpBy_range hf l m
    · exact hf a b
theorem Pt.cmpP_range (L : List Int) (E : List (Int × Int)) (L' : List Int) (E' : List (Int × Int)) : Pt.cmpP L E L' E' = -1 ∨ Pt.cmpP L E L' E' = 0 ∨ Pt.cmpP L E L' E' = 1 :=
  Pt.or2_range (Pt.cmpI_range _ _) (Pt.or2_range (Pt.cmpBy_range Pt.cmpI_range _ _) (Pt.or2_range (Pt.cmpI_range _ _) (Pt.cmpBy_range (fun _ _ => Pt.or2_range (Pt.cmpI_range _ _) (Pt.cmpI_range _ _)) _ _)))
theorem degs_le (E : List (Int × Int)) : ∀ k, Pt.degs E k ≤ k * E.length
  | 0 => by simp [Pt.degs]
  | k + 1 => by
    rw [Pt.degs, Nat.add_mul]
    have := degs_le E k
    have := deg_le E k
    omega

/-- What a pattern that is right is, plainly. -/
theorem right_facts {L : List Int} {E : List (Int × Int)} (h : rightP L E) : L.length ≤ 8 ∧ (∀ x ∈ L, 0 ≤ x ∧ x ≤ 255) ∧ (∀ e ∈ E, Pt.EdgeOK L.length e) :=
  ⟨h.1.1, h.1.2, fun e he => by
    obtain ⟨i, hi, rfl⟩ := List.mem_iff_getElem.1 he
    exact (h.2 i _ (List.getElem?_eq_getElem hi)).1⟩
theorem right_i64 {L : List Int} {E : List (Int × Int)} (h : rightP L E) : (∀ x ∈ L, i64P x) ∧ ∀ e ∈ E, i64P e.1 ∧ i64P e.2 := by
  obtain ⟨h1, h2, h3⟩ := right_facts h
  refine ⟨fun x hx => ?_, fun e he => ?_⟩
  · have := h2 x hx
    unfold i64P
    omega
  · obtain ⟨g1, g2, g3⟩ := h3 e he
    unfold i64P
    omega
theorem right_text {L L' : List Int} {E E' : List (Int × Int)} (h : rightP L E) (h' : rightP L' E') : textB L E = textB L' E' ↔ L = L' ∧ E = E' := by
  obtain ⟨h1, h2, h3⟩ := right_facts h
  obtain ⟨h1', h2', h3'⟩ := right_facts h'
  exact Pt.textB_inj (fun x hx => (h2 x hx).1) (fun x hx => (h2' x hx).1) (fun e he => ⟨(h3 e he).1, by have := h3 e he; unfold Pt.EdgeOK at this; omega⟩) (fun e he => ⟨(h3' e he).1, by have := h3' e he; unfold Pt.EdgeOK at this; omega⟩)
end Go.Proofs.YtapledphhfiimaaGreatDoor
