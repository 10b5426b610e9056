/-
  Chapter 08's statements: alive.
-/
import Derived.Test.YtmonepclhbappaaDoorPatL
import Derived.Test.YtmonepclhbappaaDoorPatX
namespace Go.Proofs.YtmonepclhbappaaDoor
open Go.RowKit
attribute [local go_sem ↓] Go.wp_at_zero Go.wp_at_succ
set_option maxRecDepth 100000
set_option linter.unusedVariables false

theorem itoa_digit (u : Nat) (h : u < 10) : Lib.itoa (u : Int) = [UInt8.ofNat (48 + u)] := by
  unfold Lib.itoa
  rw [if_neg (by omega), Int.toNat_natCast, Lib.decDigits, dif_pos h]
theorem itoaB0 : itoaB 0 = ⟨#[48]⟩ := by unfold itoaB; rw [show (0 : Int) = ((0 : Nat) : Int) from rfl, itoa_digit 0 (by omega)]; rfl
theorem itoaB1 : itoaB 1 = ⟨#[49]⟩ := by unfold itoaB; rw [show (1 : Int) = ((1 : Nat) : Int) from rfl, itoa_digit 1 (by omega)]; rfl
theorem itoaB2 : itoaB 2 = ⟨#[50]⟩ := by unfold itoaB; rw [show (2 : Int) = ((2 : Nat) : Int) from rfl, itoa_digit 2 (by omega)]; rfl
theorem text_ex : textB [1, 1, 1] (rk 3) = ⟨#[49, 44, 49, 44, 49, 124, 48, 45, 49, 44, 48, 45, 50, 44, 49, 45, 50]⟩ := by
  unfold textB
  simp only [rk, List.map_cons, List.map_nil, edgeB, itoaB0, itoaB1, itoaB2]
  rfl
theorem right_ex : ¬ labOK [-1] := fun h => by
  have := h.2 (-1) (List.mem_singleton.2 rfl)
  omega

theorem right_at (w : World) : Calls Tryd.prog 15 #[pv (some ⟨w.heap.size, 0, none⟩) 1 1 none 0 0] (w.alloc (.cells #[.int .i64 (-1)] 3)) fun e w' => ∃ a s g, e = .returned (.iface 128 (.pointer (some ⟨g, 0, none⟩))) ∧ Blk w' g 131 #[.int .i64 3, .int .i64 a, .string s] ∧ Below w.heap.size w w' :=
  (Right_any [-1] [] _ none 1 1 0 0 _ rfl (by omega) (by omega) (Sl.newAt w [.int .i64 (-1)] 3 1 rfl) (Sl.nil _ _ _)).mono fun e w' h => by
    rcases h with ⟨h, _⟩ | ⟨_, c, a, s, v, rfl, ⟨g, rfl, hbk⟩, hb, _, hc⟩
    · exact absurd h.1 right_ex
    · have h3 := hc right_ex
      rw [show labC [-1] = 3 from rfl] at h3
      rw [h3] at hbk
      exact ⟨a, s, g, rfl, hbk, (bel_al (Below.refl _ _) _).andThen hb⟩
instance (x : Int) : Decidable (i64P x) := by unfold i64P; infer_instance

set_option maxHeartbeats 8000000 in
theorem alive08 (w : World) (hg : ErrT w) (hT : TabW w) : Calls Tryd.prog 12 #[] w fun e w' => e = .returned (.bool true) ∧ Below w.heap.size w w' := by
  obtain ⟨wb, hwb⟩ : ∃ wb, wb = (w.alloc (.cells #[.int .i64 1, .int .i64 1, .int .i64 1] 3)).alloc (.cells #[.int .i64 2, .int .i64 1, .int .i64 0, .int .i64 1, .int .i64 0, .int .i64 2] 84) := ⟨_, rfl⟩
  have HB0 := Lib.hid (show Below w.heap.size w wb by rw [hwb]; exact bel_al (bel_al (Below.refl _ _) _) _)
  have HM := Lib.hid (show Calls Tryd.prog 40 #[.slice (some ⟨w.heap.size, 0, none⟩) 3 3, .slice (some ⟨w.heap.size + 1, 0, none⟩) 3 3] wb fun e w' => ∃ A' c' B' d', e = .returned (.tuple #[pv A' 3 c' B' 3 d', .nilIface]) ∧ Sl w' 1 A' 3 ([1, 1, 1].map (Value.int .i64)) ∧ Sl w' 2 B' 3 (Rk.cells (rk 3)) ∧ Below wb.heap.size wb w' from by
    refine Make_ex _ _ 3 3 wb ?_ ?_
    · rw [hwb]
      exact (Sl.newAt w [.int .i64 1, .int .i64 1, .int .i64 1] 3 3 rfl).alloc _
    · rw [hwb]
      have := Blk.new (w.alloc (.cells #[.int .i64 1, .int .i64 1, .int .i64 1] 3)) 84 #[.int .i64 2, .int .i64 1, .int .i64 0, .int .i64 1, .int .i64 0, .int .i64 2]
      rw [World.size_alloc] at this
      exact ⟨rfl, fun _ => ⟨_, 0, rfl, fun j u hu => by rw [Nat.zero_add, this.cell, List.getElem?_toArray]; exact hu⟩⟩)
  have HG := Lib.hid hg
  have HTb := Lib.hid hT
  clear hg hT
  subst hwb
  go_enter Tryd.func12, Tryd.ntmps12
  go_wp2_with (first
    | (go_at_call 40; refine HM.out.mono ?_; clear HM; rintro e w1 ⟨A1, c1, B1, d1, rfl, hs1, ht1, hb1⟩; have HB1 := Lib.hid (bel_al (HB0.out.andThen hb1) (.cells #[.slice A1 3 c1, .slice B1 3 d1] 29)); have HTx := Lib.hid ((Text_any [1, 1, 1] (rk 3) A1 B1 3 c1 3 d1 _ rfl (by omega) (by omega) (hs1.alloc (.cells #[.slice A1 3 c1, .slice B1 3 d1] 29)) (ht1.alloc _) (by decide) (by decide) (HTb.out.keep HB1.out)).mono (R' := fun e w' => e = .returned (.string ⟨#[49, 44, 49, 44, 49, 124, 48, 45, 49, 44, 48, 45, 50, 44, 49, 45, 50]⟩) ∧ Below (w1.alloc (.cells #[.slice A1 3 c1, .slice B1 3 d1] 29)).heap.size (w1.alloc (.cells #[.slice A1 3 c1, .slice B1 3 d1] 29)) w') fun e w' h => ⟨by rw [h.1, text_ex], h.2⟩); clear hs1 ht1 hb1)
    | (go_at_call 18; refine HTx.out.mono ?_; clear HTx; rintro e w2 ⟨rfl, hb2⟩; have HB2 := Lib.hid (HB1.out.andThen hb2); have HR := Lib.hid (right_at w2); clear hb2)
    | (go_at_call 15; refine HR.out.mono ?_; clear HR; rintro e w3 ⟨a, s, g, rfl, hbk, hb3⟩; have HB3 := Lib.hid (HB2.out.andThen hb3); have HC := Lib.hid (Code_flt g 3 a s w3 (HG.out.keep HB3.out) hbk); clear hbk hb3)
    | (go_at_call 35; refine HC.out.mono ?_; clear HC; rintro e w4 ⟨rfl, hb4⟩; have HB4 := Lib.hid (HB3.out.andThen hb4); clear hb4))
  go_ret
  exact ⟨rfl, HB4.out⟩
end Go.Proofs.YtmonepclhbappaaDoor
