/-
  Patterns: the walk of Right.
-/
import Derived.Test.YtmonepclhbappaaDoorPatC
namespace Go.Proofs.YtmonepclhbappaaDoor
open Go.RowKit
attribute [local go_sem ↓] Go.wp_at_zero Go.wp_at_succ
set_option maxRecDepth 100000
set_option linter.unusedVariables false

/-- An edge at its place: it may be, and comes behind the one ahead of it. -/
def atOK (n : Nat) (E : List (Int × Int)) (i : Nat) (e : Int × Int) : Prop := Pt.EdgeOK n e ∧ ∀ f, 0 < i → E[i - 1]? = some f → Pt.ordE f e < 0
def rightP (L : List Int) (E : List (Int × Int)) : Prop := labOK L ∧ ∀ i e, E[i]? = some e → atOK L.length E i e
/-- What Right answers. -/
def RightRes (L : List Int) (E : List (Int × Int)) (w : World) (e : Ending) (w' : World) : Prop :=
  (rightP L E ∧ e = .returned .nilIface ∧ Below w.heap.size w w') ∨ (¬ rightP L E ∧ ∃ c a s v, e = .returned v ∧ (Err.flt c a s).At w' v ∧ Below w.heap.size w w' ∧ c ≠ 0 ∧ (¬ labOK L → c = labC L))

set_option maxHeartbeats 8000000 in
theorem Right_any (L : List Int) (E : List (Int × Int)) (A B : Option Addr) (n c m d : Nat) (w : World) (hl : L.length = n) (hn : n ≤ 1000000) (hm : m ≤ 1000000) (hs : Sl w 1 A n (L.map (Value.int .i64))) (ht : Sl w 2 B m (Rk.cells E)) :
    Calls Tryd.prog 15 #[pv A n c B m d] w (RightRes L E w) := by
  have hb0 := bel_al (Below.refl w.heap.size w) (.cells #[.slice A n c, .slice B m d] 29)
  have HB0 := Lib.hid hb0
  have HK := Lib.hid (Blk.new w 29 #[.slice A n c, .slice B m d])
  have HLab := Lib.hid (labels_any L A n c _ hl (hs.keep hb0))
  have HT := Lib.hid (ht.keep hb0)
  have HM := Lib.hid ht.len2
  have HL := Lib.hid hl
  clear hb0 hs ht hl
  go_enter Tryd.func15, Tryd.ntmps15
  go_wp2_with fail
  refine HLab.out.mono ?_
  clear HLab
  rintro e w1 (⟨hlab, rfl, rfl⟩ | ⟨hlab, a, s, v, rfl, hv, hb1⟩)
  · have HLab := Lib.hid hlab
    clear hlab
    go_wp2_with fail
    go_loopw [15] (fun i wr => ∃ k : Nat, k ≤ m ∧ i = .int .i64 k ∧ Hid (∀ j e, j < k → E[j]? = some e → atOK n E j e) ∧ Below (w.alloc (.cells #[.slice A n c, .slice B m d] 29)).heap.size (w.alloc (.cells #[.slice A n c, .slice B m d] 29)) wr) (fun i _ => m - (intOf i).toNat)
    case atStart => exact ⟨0, Nat.zero_le _, rfl, fun j e hj => absurd hj (Nat.not_lt_zero _), Below.refl _ _⟩
    case round =>
      obtain ⟨k, hk, rfl, HD, hb⟩ := hrel
      have HBw := Lib.hid (HB0.out.andThen hb)
      have HBk := Lib.hid hb
      have hkr := HK.out.keep hb
      have HTk := Lib.hid (HT.out.keep hb)
      clear hb
      by_cases hlt : k < m
      · have hlt' : (k : Int) < (m : Int) := by omega
        obtain ⟨⟨x, y⟩, he⟩ : ∃ e, E[k]? = some e := ⟨_, List.getElem?_eq_getElem (by rw [HM.out]; exact hlt)⟩
        obtain ⟨b1, off1, rfl, c0, c1⟩ := HTk.out.edge hlt he
        simp only at c0 c1
        have HE := Lib.hid he
        have hb2 := bel_al (Below.refl wr.heap.size wr) (.cells #[.int .i64 x, .int .i64 y] 84)
        have HB2 := Lib.hid hb2
        have hk2 := hkr.alloc (.cells #[.int .i64 x, .int .i64 y] 84)
        have HK2 := Lib.hid hk2
        have k20 := hk2.cell 0
        have HKe := Lib.hid (Blk.new wr 84 #[.int .i64 x, .int .i64 y])
        simp at k20
        have HBad := Lib.hid (show ¬ atOK n E k (x, y) → ¬ rightP L E from fun h hr => h (by rw [← HL.out]; exact hr.2 k _ HE.out))
        have HNx := Lib.hid (show atOK n E k (x, y) → ∀ j e, j < k + 1 → E[j]? = some e → atOK n E j e from fun h j e hj hje => by
          by_cases h1 : j < k
          · exact HD.out j e h1 hje
          · obtain rfl : j = k := by omega
            rw [HE.out] at hje
            cases hje
            exact h)
        clear he hb2 hk2 hkr
        by_cases hin : 0 ≤ x ∧ 0 ≤ y ∧ x < (n : Int) ∧ y < (n : Int)
        · have HW := Lib.hid (fun W => within_any x y n W)
          rw [show decide (0 ≤ x ∧ 0 ≤ y ∧ x < (n : Int) ∧ y < (n : Int)) = true from decide_eq_true hin] at HW
          have HIn := Lib.hid hin
          clear hin
          go_wp2_with (go_at_call 43; refine (HW.out _).mono ?_; rintro e' w2 ⟨rfl, hb3⟩; have HB3 := Lib.hid (HB2.out.andThen hb3); have k3 := HK2.out.keep hb3; have k31 := k3.cell 1; have e3 := HKe.out.keep hb3; have e30 := e3.cell 0; have e31 := e3.cell 1; have HT3 := Lib.hid (HTk.out.keep HB3.out); simp at k31 e30 e31; clear hb3 k3 e3)
          by_cases hxy : y ≤ x
          · have hxd : decide (y ≤ x) = true := decide_eq_true hxy
            have HNo := Lib.hid (HBad.out (fun h => by have := h.1; unfold Pt.EdgeOK at this; simp only at this; omega))
            go_quiet (fail)
            all_goals go_wp2_with (go_at_call 44; refine (New_err _ _ _ _).mono ?_; rintro e' w3 ⟨v, rfl, hv, hb4⟩)
            all_goals go_ret
            all_goals exact .inr ⟨HNo.out, _, _, _, _, rfl, hv, (bel_drewN (HBw.out.andThen HB3.out) _).andThen hb4, by decide, fun h => absurd HLab.out h⟩
          · have hxy' : ¬ y ≤ x := hxy
            have hxd : decide (y ≤ x) = false := decide_eq_false hxy
            have HEd := Lib.hid (show Pt.EdgeOK n (x, y) from ⟨HIn.out.1, by simp only; omega, HIn.out.2.2.2⟩)
            rcases k with _ | k
            · have HN1 := Lib.hid (HNx.out ⟨HEd.out, fun f h => absurd h (Nat.lt_irrefl _)⟩)
              have h00 : ¬ (0 : Int) < ((0 : Nat) : Int) := by omega
              go_quiet (fail)
              all_goals go_wp2_with fail
              all_goals (
                go_roundw
                case rel => exact ⟨1, by omega, by go_num, HN1.out, bel_drewN (HBk.out.andThen HB3.out) _⟩
                case measure => simp [intOf]; omega)
            · obtain ⟨⟨fx, fy⟩, hf⟩ : ∃ f, E[k]? = some f := ⟨_, List.getElem?_eq_getElem (by rw [HM.out]; omega)⟩
              obtain ⟨_, _, hbo, f0, f1⟩ := HT3.out.edge (show k < m by omega) hf
              cases hbo
              simp only at f0 f1
              have h00 : (0 : Int) < ((k + 1 : Nat) : Int) := by omega
              have hk1 : ((k + 1 : Nat) : Int) - 1 = (k : Int) := by omega
              have hk2 : (0 : Int) ≤ (k : Int) := by omega
              have hk3 : (k : Int) < (m : Int) := by omega
              have hk4 : IntKind.i64.wrap (k : Int) = (k : Int) := by rw [IntKind.wrap_i64]; omega
              have HO := Lib.hid (fun W => order_any (fx, fy) (x, y) W)
              obtain ⟨z, hz⟩ : ∃ z, z = Pt.ordE (fx, fy) (x, y) := ⟨_, rfl⟩
              rw [← hz] at HO
              have HZ := Lib.hid hz
              have HF := Lib.hid hf
              clear hz hf
              by_cases hz0 : 0 ≤ z
              · have HNo := Lib.hid (HBad.out (fun h => by have := h.2 (fx, fy) (by omega) HF.out; rw [← HZ.out] at this; omega))
                go_region_held3 (fun w' => w'.cell? ⟨w.heap.size, 1, none⟩ = some (.slice (some ⟨b1, off1, none⟩) m d) ∧ w'.cell? ⟨wr.heap.size, 0, none⟩ = some (.int .i64 x) ∧ w'.cell? ⟨wr.heap.size, 1, none⟩ = some (.int .i64 y) ∧ w'.cell? ⟨b1, off1 + k * 2, none⟩ = some (.int .i64 fx) ∧ w'.cell? ⟨b1, off1 + k * 2 + 1, none⟩ = some (.int .i64 fy)) (go_keep) ((go_at_call 45; refine (HO.out _).mono ?_; rintro e' w3 ⟨rfl, hb4⟩; have q0 := (hb4.cell (p := ⟨w.heap.size, 1, none⟩) (World.block_lt_of_cell? _ _ k31)).trans k31; have q1 := (hb4.cell (p := ⟨wr.heap.size, 0, none⟩) (World.block_lt_of_cell? _ _ e30)).trans e30; have q2 := (hb4.cell (p := ⟨wr.heap.size, 1, none⟩) (World.block_lt_of_cell? _ _ e31)).trans e31; have q3 := (hb4.cell (p := ⟨b1, off1 + k * 2, none⟩) (World.block_lt_of_cell? _ _ f0)).trans f0; have q4 := (hb4.cell (p := ⟨b1, off1 + k * 2 + 1, none⟩) (World.block_lt_of_cell? _ _ f1)).trans f1; (first | have HB4 := Lib.hid (HB3.out.andThen hb4) | have HB4 := Lib.hid ((bel_drewN HB3.out 1).andThen hb4)); clear hb4))
                all_goals go_wp2_with (go_at_call 44; refine (New_err _ _ _ _).mono ?_; rintro e' w4 ⟨v, rfl, hv, hb5⟩)
                all_goals go_ret
                all_goals exact .inr ⟨HNo.out, _, _, _, _, rfl, hv, (HBw.out.andThen HB4.out).andThen hb5, by decide, fun h => absurd HLab.out h⟩
              · have HN1 := Lib.hid (HNx.out ⟨HEd.out, fun f h hf => by rw [show k + 1 - 1 = k from rfl, HF.out] at hf; cases hf; rw [← HZ.out]; omega⟩)
                go_region_held3 (fun w' => w'.cell? ⟨w.heap.size, 1, none⟩ = some (.slice (some ⟨b1, off1, none⟩) m d) ∧ w'.cell? ⟨wr.heap.size, 0, none⟩ = some (.int .i64 x) ∧ w'.cell? ⟨wr.heap.size, 1, none⟩ = some (.int .i64 y) ∧ w'.cell? ⟨b1, off1 + k * 2, none⟩ = some (.int .i64 fx) ∧ w'.cell? ⟨b1, off1 + k * 2 + 1, none⟩ = some (.int .i64 fy)) (go_keep) ((go_at_call 45; refine (HO.out _).mono ?_; rintro e' w3 ⟨rfl, hb4⟩; have q0 := (hb4.cell (p := ⟨w.heap.size, 1, none⟩) (World.block_lt_of_cell? _ _ k31)).trans k31; have q1 := (hb4.cell (p := ⟨wr.heap.size, 0, none⟩) (World.block_lt_of_cell? _ _ e30)).trans e30; have q2 := (hb4.cell (p := ⟨wr.heap.size, 1, none⟩) (World.block_lt_of_cell? _ _ e31)).trans e31; have q3 := (hb4.cell (p := ⟨b1, off1 + k * 2, none⟩) (World.block_lt_of_cell? _ _ f0)).trans f0; have q4 := (hb4.cell (p := ⟨b1, off1 + k * 2 + 1, none⟩) (World.block_lt_of_cell? _ _ f1)).trans f1; (first | have HB4 := Lib.hid (HB3.out.andThen hb4) | have HB4 := Lib.hid ((bel_drewN HB3.out 1).andThen hb4)); clear hb4))
                all_goals go_wp2_with fail
                all_goals (
                  go_roundw
                  case rel => exact ⟨k + 1 + 1, by omega, by go_num, HN1.out, HBk.out.andThen HB4.out⟩
                  case measure => simp [intOf]; omega)
        · have HW := Lib.hid (fun W => within_any x y n W)
          rw [show decide (0 ≤ x ∧ 0 ≤ y ∧ x < (n : Int) ∧ y < (n : Int)) = false from decide_eq_false hin] at HW
          have HNo := Lib.hid (HBad.out (fun h => hin (by have := h.1; unfold Pt.EdgeOK at this; simp only at this; omega)))
          clear hin
          go_wp2_with (first
            | (go_at_call 43; refine (HW.out _).mono ?_; rintro e' w2 ⟨rfl, hb3⟩; have HB3 := Lib.hid (HB2.out.andThen hb3); clear hb3)
            | (go_at_call 44; refine (New_err _ _ _ _).mono ?_; rintro e' w3 ⟨v, rfl, hv, hb4⟩))
          go_ret
          exact .inr ⟨HNo.out, _, _, _, _, rfl, hv, (HBw.out.andThen HB3.out).andThen hb4, by decide, fun h => absurd HLab.out h⟩
      · obtain rfl : k = m := by omega
        have hlt' : ¬ (k : Int) < (k : Int) := by omega
        go_wp2_with fail
        go_ret
        exact .inl ⟨⟨HLab.out, fun i e he => by rw [HL.out]; exact HD.out i e (by have := (List.getElem?_eq_some_iff.1 he).1; rw [HM.out] at this; exact this) he⟩, rfl, HBw.out⟩
  · obtain ⟨g, rfl, hbk⟩ := hv
    go_wp2_with fail
    go_ret
    refine .inr ⟨fun h => hlab h.1, _, _, _, _, rfl, ⟨g, rfl, hbk⟩, HB0.out.andThen hb1, ?_, fun _ => rfl⟩
    unfold labC
    split <;> decide
end Go.Proofs.YtmonepclhbappaaDoor
