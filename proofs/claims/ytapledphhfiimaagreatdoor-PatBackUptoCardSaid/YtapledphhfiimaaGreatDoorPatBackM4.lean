/-
  Part 4 of the proof of PatBack: PatD, PatE, PatS, PatX.
-/
import Derived.Test.YtapledphhfiimaaGreatDoorPatBackM3
import Derived.Test.YtapledphhfiimaaGreatDoorPatBackM1
import Derived.Test.YtapledphhfiimaaGreatDoorProg
import Derived.Shelf.Strings.Builder1
import Derived.Shelf.Strings.Builder2
import Derived.Shelf.Strings.OnBuilder
import Derived.Shelf.LaysM
import Derived.Shelf.Strconv.Itoa3
import Derived.Ground.Names2Prog
import Derived.Lib.AppendIntMem
import Derived.Lib.ItoaLen
set_option linter.unusedVariables false
/-
  Patterns: the walk of Right.
-/
namespace Go.Proofs.YtapledphhfiimaaGreatDoor
open Go.RowKit
attribute [local go_sem ↓] Go.wp_at_zero Go.wp_at_succ
set_option maxRecDepth 100000
set_option linter.unusedVariables false

/-- An edge at its place: it may be, and comes behind the one ahead of it. -/
def atOK (n : Nat) (E : List (Int × Int)) (i : Nat) (e : Int × Int) : Prop := Pt.EdgeOK n e ∧ ∀ f, 0 < i → E[i - 1]? = some f → Pt.ordE f e < 0
def rightP (L : List Int) (E : List (Int × Int)) : Prop := labOK L ∧ ∀ i e, E[i]? = some e → atOK L.length E i e
/-- What Right answers. -/
def RightRes (L : List Int) (E : List (Int × Int)) (w : World) (e : Ending) (w' : World) : Prop :=
  (rightP L E ∧ e = .returned .nilIface ∧ Below w.heap.size w w') ∨ (¬ rightP L E ∧ ∃ c a s v, e = .returned v ∧ (Err.flt c a s).At w' v ∧ Below w.heap.size w w' ∧ 0 < c ∧ (¬ labOK L → c = labC L))

set_option maxHeartbeats 8000000 in
theorem PatRight_any (L : List Int) (E : List (Int × Int)) (A B : Option Addr) (n c m d : Nat) (w : World) (hl : L.length = n) (hn : n ≤ 1000000) (hm : m ≤ 1000000) (hs : Sl w 1 A n (L.map (Value.int .i64))) (ht : Sl w 2 B m (Rk.cells E)) :
    Calls Tryz.prog 10 #[pv A n c B m d] w (RightRes L E w) := by
  have hb0 := bel_al (Below.refl w.heap.size w) (.cells #[.slice A n c, .slice B m d] 30)
  have HB0 := Lib.hid hb0
  have HK := Lib.hid (Blk.new w 30 #[.slice A n c, .slice B m d])
  have HLab := Lib.hid (labels_any L A n c _ hl (hs.keep hb0))
  have HT := Lib.hid (ht.keep hb0)
  have HM := Lib.hid ht.len2
  have HL := Lib.hid hl
  clear hb0 hs ht hl
  go_enter Tryz.func10, Tryz.ntmps10
  go_wp2_with fail
  refine HLab.out.mono ?_
  clear HLab
  rintro e w1 (⟨hlab, rfl, rfl⟩ | ⟨hlab, a, s, v, rfl, hv, hb1⟩)
  · have HLab := Lib.hid hlab
    clear hlab
    go_wp2_with fail
    go_loopw [15] (fun i wr => ∃ k : Nat, k ≤ m ∧ i = .int .i64 k ∧ Hid (∀ j e, j < k → E[j]? = some e → atOK n E j e) ∧ Below (w.alloc (.cells #[.slice A n c, .slice B m d] 30)).heap.size (w.alloc (.cells #[.slice A n c, .slice B m d] 30)) wr) (fun i _ => m - (intOf i).toNat)
    case atStart => exact ⟨0, Nat.zero_le _, rfl, fun j e hj => absurd hj (Nat.not_lt_zero _), Below.refl _ _⟩
    case round =>
      obtain ⟨k, hk, rfl, HD, hb⟩ := hrel
      have HBw := Lib.hid (HB0.out.andThen hb)
      have HBk := Lib.hid hb
      have hkr := HK.out.keep hb
      have HTk := Lib.hid (HT.out.keep hb)
      clear hb
      by_cases hlt : k < m
      · have hlt' : (k : Int) < (m : Int) := by omega
        obtain ⟨⟨x, y⟩, he⟩ : ∃ e, E[k]? = some e := ⟨_, List.getElem?_eq_getElem (by rw [HM.out]; exact hlt)⟩
        obtain ⟨b1, off1, rfl, c0, c1⟩ := HTk.out.edge hlt he
        simp only at c0 c1
        have HE := Lib.hid he
        have hb2 := bel_al (Below.refl wr.heap.size wr) (.cells #[.int .i64 x, .int .i64 y] 53)
        have HB2 := Lib.hid hb2
        have hk2 := hkr.alloc (.cells #[.int .i64 x, .int .i64 y] 53)
        have HK2 := Lib.hid hk2
        have k20 := hk2.cell 0
        have HKe := Lib.hid (Blk.new wr 53 #[.int .i64 x, .int .i64 y])
        simp at k20
        have HBad := Lib.hid (show ¬ atOK n E k (x, y) → ¬ rightP L E from fun h hr => h (by rw [← HL.out]; exact hr.2 k _ HE.out))
        have HNx := Lib.hid (show atOK n E k (x, y) → ∀ j e, j < k + 1 → E[j]? = some e → atOK n E j e from fun h j e hj hje => by
          by_cases h1 : j < k
          · exact HD.out j e h1 hje
          · obtain rfl : j = k := by omega
            rw [HE.out] at hje
            cases hje
            exact h)
        clear he hb2 hk2 hkr
        by_cases hin : 0 ≤ x ∧ 0 ≤ y ∧ x < (n : Int) ∧ y < (n : Int)
        · have HW := Lib.hid (fun W => within_any x y n W)
          rw [show decide (0 ≤ x ∧ 0 ≤ y ∧ x < (n : Int) ∧ y < (n : Int)) = true from decide_eq_true hin] at HW
          have HIn := Lib.hid hin
          clear hin
          go_wp2_with (go_at_call 36; refine (HW.out _).mono ?_; rintro e' w2 ⟨rfl, hb3⟩; have HB3 := Lib.hid (HB2.out.andThen hb3); have k3 := HK2.out.keep hb3; have k31 := k3.cell 1; have e3 := HKe.out.keep hb3; have e30 := e3.cell 0; have e31 := e3.cell 1; have HT3 := Lib.hid (HTk.out.keep HB3.out); simp at k31 e30 e31; clear hb3 k3 e3)
          by_cases hxy : y ≤ x
          · have hxd : decide (y ≤ x) = true := decide_eq_true hxy
            have HNo := Lib.hid (HBad.out (fun h => by have := h.1; unfold Pt.EdgeOK at this; simp only at this; omega))
            go_quiet (fail)
            all_goals go_wp2_with (go_at_call 33; refine (New_err _ _ _ _).mono ?_; rintro e' w3 ⟨v, rfl, hv, hb4⟩)
            all_goals go_ret
            all_goals exact .inr ⟨HNo.out, _, _, _, _, rfl, hv, (bel_drewN (HBw.out.andThen HB3.out) _).andThen hb4, by decide, fun h => absurd HLab.out h⟩
          · have hxy' : ¬ y ≤ x := hxy
            have hxd : decide (y ≤ x) = false := decide_eq_false hxy
            have HEd := Lib.hid (show Pt.EdgeOK n (x, y) from ⟨HIn.out.1, by simp only; omega, HIn.out.2.2.2⟩)
            rcases k with _ | k
            · have HN1 := Lib.hid (HNx.out ⟨HEd.out, fun f h => absurd h (Nat.lt_irrefl _)⟩)
              have h00 : ¬ (0 : Int) < ((0 : Nat) : Int) := by omega
              go_quiet (fail)
              all_goals go_wp2_with fail
              all_goals (
                go_roundw
                case rel => exact ⟨1, by omega, by go_num, HN1.out, bel_drewN (HBk.out.andThen HB3.out) _⟩
                case measure => simp [intOf]; omega)
            · obtain ⟨⟨fx, fy⟩, hf⟩ : ∃ f, E[k]? = some f := ⟨_, List.getElem?_eq_getElem (by rw [HM.out]; omega)⟩
              obtain ⟨_, _, hbo, f0, f1⟩ := HT3.out.edge (show k < m by omega) hf
              cases hbo
              simp only at f0 f1
              have h00 : (0 : Int) < ((k + 1 : Nat) : Int) := by omega
              have hk1 : ((k + 1 : Nat) : Int) - 1 = (k : Int) := by omega
              have hk2 : (0 : Int) ≤ (k : Int) := by omega
              have hk3 : (k : Int) < (m : Int) := by omega
              have hk4 : IntKind.i64.wrap (k : Int) = (k : Int) := by rw [IntKind.wrap_i64]; omega
              have HO := Lib.hid (fun W => order_any (fx, fy) (x, y) W)
              obtain ⟨z, hz⟩ : ∃ z, z = Pt.ordE (fx, fy) (x, y) := ⟨_, rfl⟩
              rw [← hz] at HO
              have HZ := Lib.hid hz
              have HF := Lib.hid hf
              clear hz hf
              by_cases hz0 : 0 ≤ z
              · have HNo := Lib.hid (HBad.out (fun h => by have := h.2 (fx, fy) (by omega) HF.out; rw [← HZ.out] at this; omega))
                go_region_held3 (fun w' => w'.cell? ⟨w.heap.size, 1, none⟩ = some (.slice (some ⟨b1, off1, none⟩) m d) ∧ w'.cell? ⟨wr.heap.size, 0, none⟩ = some (.int .i64 x) ∧ w'.cell? ⟨wr.heap.size, 1, none⟩ = some (.int .i64 y) ∧ w'.cell? ⟨b1, off1 + k * 2, none⟩ = some (.int .i64 fx) ∧ w'.cell? ⟨b1, off1 + k * 2 + 1, none⟩ = some (.int .i64 fy)) (go_keep) ((go_at_call 37; refine (HO.out _).mono ?_; rintro e' w3 ⟨rfl, hb4⟩; have q0 := (hb4.cell (p := ⟨w.heap.size, 1, none⟩) (World.block_lt_of_cell? _ _ k31)).trans k31; have q1 := (hb4.cell (p := ⟨wr.heap.size, 0, none⟩) (World.block_lt_of_cell? _ _ e30)).trans e30; have q2 := (hb4.cell (p := ⟨wr.heap.size, 1, none⟩) (World.block_lt_of_cell? _ _ e31)).trans e31; have q3 := (hb4.cell (p := ⟨b1, off1 + k * 2, none⟩) (World.block_lt_of_cell? _ _ f0)).trans f0; have q4 := (hb4.cell (p := ⟨b1, off1 + k * 2 + 1, none⟩) (World.block_lt_of_cell? _ _ f1)).trans f1; (first | have HB4 := Lib.hid (HB3.out.andThen hb4) | have HB4 := Lib.hid ((bel_drewN HB3.out 1).andThen hb4)); clear hb4))
                all_goals go_wp2_with (go_at_call 33; refine (New_err _ _ _ _).mono ?_; rintro e' w4 ⟨v, rfl, hv, hb5⟩)
                all_goals go_ret
                all_goals exact .inr ⟨HNo.out, _, _, _, _, rfl, hv, (HBw.out.andThen HB4.out).andThen hb5, by decide, fun h => absurd HLab.out h⟩
              · have HN1 := Lib.hid (HNx.out ⟨HEd.out, fun f h hf => by rw [show k + 1 - 1 = k from rfl, HF.out] at hf; cases hf; rw [← HZ.out]; omega⟩)
                go_region_held3 (fun w' => w'.cell? ⟨w.heap.size, 1, none⟩ = some (.slice (some ⟨b1, off1, none⟩) m d) ∧ w'.cell? ⟨wr.heap.size, 0, none⟩ = some (.int .i64 x) ∧ w'.cell? ⟨wr.heap.size, 1, none⟩ = some (.int .i64 y) ∧ w'.cell? ⟨b1, off1 + k * 2, none⟩ = some (.int .i64 fx) ∧ w'.cell? ⟨b1, off1 + k * 2 + 1, none⟩ = some (.int .i64 fy)) (go_keep) ((go_at_call 37; refine (HO.out _).mono ?_; rintro e' w3 ⟨rfl, hb4⟩; have q0 := (hb4.cell (p := ⟨w.heap.size, 1, none⟩) (World.block_lt_of_cell? _ _ k31)).trans k31; have q1 := (hb4.cell (p := ⟨wr.heap.size, 0, none⟩) (World.block_lt_of_cell? _ _ e30)).trans e30; have q2 := (hb4.cell (p := ⟨wr.heap.size, 1, none⟩) (World.block_lt_of_cell? _ _ e31)).trans e31; have q3 := (hb4.cell (p := ⟨b1, off1 + k * 2, none⟩) (World.block_lt_of_cell? _ _ f0)).trans f0; have q4 := (hb4.cell (p := ⟨b1, off1 + k * 2 + 1, none⟩) (World.block_lt_of_cell? _ _ f1)).trans f1; (first | have HB4 := Lib.hid (HB3.out.andThen hb4) | have HB4 := Lib.hid ((bel_drewN HB3.out 1).andThen hb4)); clear hb4))
                all_goals go_wp2_with fail
                all_goals (
                  go_roundw
                  case rel => exact ⟨k + 1 + 1, by omega, by go_num, HN1.out, HBk.out.andThen HB4.out⟩
                  case measure => simp [intOf]; omega)
        · have HW := Lib.hid (fun W => within_any x y n W)
          rw [show decide (0 ≤ x ∧ 0 ≤ y ∧ x < (n : Int) ∧ y < (n : Int)) = false from decide_eq_false hin] at HW
          have HNo := Lib.hid (HBad.out (fun h => hin (by have := h.1; unfold Pt.EdgeOK at this; simp only at this; omega)))
          clear hin
          go_wp2_with (first
            | (go_at_call 36; refine (HW.out _).mono ?_; rintro e' w2 ⟨rfl, hb3⟩; have HB3 := Lib.hid (HB2.out.andThen hb3); clear hb3)
            | (go_at_call 33; refine (New_err _ _ _ _).mono ?_; rintro e' w3 ⟨v, rfl, hv, hb4⟩))
          go_ret
          exact .inr ⟨HNo.out, _, _, _, _, rfl, hv, (HBw.out.andThen HB3.out).andThen hb4, by decide, fun h => absurd HLab.out h⟩
      · obtain rfl : k = m := by omega
        have hlt' : ¬ (k : Int) < (k : Int) := by omega
        go_wp2_with fail
        go_ret
        exact .inl ⟨⟨HLab.out, fun i e he => by rw [HL.out]; exact HD.out i e (by have := (List.getElem?_eq_some_iff.1 he).1; rw [HM.out] at this; exact this) he⟩, rfl, HBw.out⟩
  · obtain ⟨g, rfl, hbk⟩ := hv
    go_wp2_with fail
    go_ret
    refine .inr ⟨fun h => hlab h.1, _, _, _, _, rfl, ⟨g, rfl, hbk⟩, HB0.out.andThen hb1, ?_, fun _ => rfl⟩
    unfold labC
    split <;> decide
end Go.Proofs.YtapledphhfiimaaGreatDoor
/-
  Patterns: walks of the statements' Of and Same.
-/
namespace Go.Proofs.YtapledphhfiimaaGreatDoor
open Go.RowKit
attribute [local go_sem ↓] Go.wp_at_zero Go.wp_at_succ
set_option maxRecDepth 100000
set_option linter.unusedVariables false

set_option maxHeartbeats 4000000 in
theorem Of04_any (E : List (Int × Int)) (B : Option Addr) (m d : Nat) (w : World) (hm : m ≤ 1048576) (ht : Sl w 2 B m (Rk.cells E)) :
    Calls Tryz.prog 32 #[.slice B m d] w fun e w' => ∃ v, e = .returned v ∧ w'.ownsRow w.heap.size 53 2 v m (Rk.cells E) ∧ Below w.heap.size w w' := by
  have HT := Lib.hid ht
  have HM := Lib.hid ht.len2
  clear ht
  go_enter Tryz.func32, Tryz.ntmps32
  go_wp2_with fail
  go_loopw [3, 4] (fun l i wr => ∃ k : Nat, k ≤ m ∧ i = .int .i64 k ∧ wr.ownsRow w.heap.size 53 2 l k (Rk.cells (E.take k)) ∧ Below w.heap.size w wr) (fun _ i _ => m - (intOf i).toNat)
  case atStart => exact ⟨0, Nat.zero_le _, rfl, by simpa [Rk.cells] using World.ownsRow_nil _ _ _ _, Below.refl _ _⟩
  case round =>
    obtain ⟨k, hk, rfl, hown, hb⟩ := hrel
    by_cases hlt : k < m
    · have hlt' : (k : Int) < (m : Int) := by omega
      obtain ⟨⟨x, y⟩, he⟩ : ∃ e, E[k]? = some e := ⟨_, List.getElem?_eq_getElem (by rw [HM.out]; exact hlt)⟩
      obtain ⟨b1, off1, rfl, c0, c1⟩ := (HT.out.keep hb).edge hlt he
      simp only at c0 c1
      have HE := Lib.hid (show Rk.cells (E.take (k + 1)) = Rk.cells (E.take k) ++ [.int .i64 x, .int .i64 y] by
        obtain ⟨h1, h2⟩ := List.getElem?_eq_some_iff.1 he
        rw [List.take_succ_eq_append_getElem h1, h2, Rk.cells_snoc])
      clear he
      go_wp2_with (at_builtin; refine wpList_push elemEdge _ _ rfl rfl hown hb (Nat.le_refl _) rfl rfl rfl (by simp [Value.oneCell']) (by unfold lim; omega) (by unfold lim; omega) ?_; intro v' w1 hown1 hb1)
      go_roundw
      case rel => exact ⟨k + 1, by omega, by go_num, by rw [HE.out]; exact hown1, hb1⟩
      case measure => simp [intOf]; omega
    · obtain rfl : k = m := by omega
      have hlt' : ¬ (k : Int) < (k : Int) := by omega
      have HE := Lib.hid (show E.take k = E from List.take_of_length_le (by rw [HM.out]; exact Nat.le_refl _))
      go_wp2_with fail
      go_ret
      exact ⟨_, rfl, by rw [HE.out] at hown; exact hown, hb⟩

theorem own_far2 {w : World} {B b i size n : Nat} {e : TypeId} {v : Value} {xs : List Value} (h : w.ownsRow B e size v n xs) (hb : b < B) (u : Value) : (w.setCell ⟨b, i, none⟩ u).ownsRow B e size v n xs :=
  own_block h fun g hg => Below.heap_setCell _ _ _ _ (fun e => by have h1 := (h.lt g hg).1; have h2 : g = b := e; omega)
set_option maxHeartbeats 4000000 in
theorem Of08_any (E : List (Int × Int)) (A B : Option Addr) (n c m d : Nat) (w : World) (hm : m ≤ 1048576) (ht : Sl w 2 B m (Rk.cells E)) :
    Calls Tryz.prog 7 #[pv A n c B m d] w fun e w' => ∃ D k, e = .returned (pv A n c D m k) ∧ Sl w' 2 D m (Rk.cells E) ∧ Below w.heap.size w w' := by
  have hb0 := bel_al (bel_al (Below.refl w.heap.size w) (.cells #[.slice A n c, .slice B m d] 26)) (.cells #[.slice none 0 0, .slice none 0 0] 30)
  have HB0 := Lib.hid hb0
  have HC := Lib.hid (fun (W : World) (hW : Below w.heap.size w W) => Of04_any E B m d W hm (ht.keep hW))
  have HK1 := Lib.hid ((Blk.new w 26 #[.slice A n c, .slice B m d]).alloc (.cells #[.slice none 0 0, .slice none 0 0] 30))
  have HK2 := Lib.hid (Blk.new (w.alloc (.cells #[.slice A n c, .slice B m d] 26)) 30 #[.slice none 0 0, .slice none 0 0])
  rw [World.size_alloc] at HK2
  clear hb0 ht
  go_enter Tryz.func7, Tryz.ntmps7
  go_wp2_with fail
  go_region_held3 (fun w' => w'.cell? ⟨w.heap.size, 0, none⟩ = some (.slice A n c) ∧ w'.cell? ⟨w.heap.size, 1, none⟩ = some (.slice B m d)) (go_keep)
    ((go_at_call 32; refine (HC.out _ (bel_drewN HB0.out 1)).mono ?_; rintro e w3 ⟨v, rfl, hown, hb3⟩; have k1 := HK1.out.drew.keep hb3; have k2 := HK2.out.drew.keep hb3; have k10 := k1.cell 0; have k11 := k1.cell 1; have k20 := k2.cell 0; have k21 := k2.cell 1; have f20 := k2.frozen 0; have f21 := k2.frozen 1; have hshape := Sl.own hown; have HOw := Lib.hid hown; obtain ⟨D, k, rfl, _⟩ := hshape; have HB3 := Lib.hid ((bel_drewN HB0.out 1).andThen hb3); have HKx := Lib.hid k2; simp at k10 k11 k20 k21; clear hown hb3 k1 k2))
  all_goals (
    have x0 := (HKx.out.set_ 0 (.slice A n c)).set_ 1 (.slice D m k)
    have x00 := x0.cell 0
    have x01 := x0.cell 1
    simp at x00 x01
    have HFin := Lib.hid (Sl.of_own (own_far2 (own_far2 HOw.out (b := w.heap.size + 1) (i := 0) (by simp) (.slice A n c)) (b := w.heap.size + 1) (i := 1) (by simp) (.slice D m k)))
    have HBf := Lib.hid ((HB3.out.setCell (p := ⟨w.heap.size + 1, 0, none⟩) (show w.heap.size ≤ w.heap.size + 1 by omega) (.slice A n c)).setCell (p := ⟨w.heap.size + 1, 1, none⟩) (show w.heap.size ≤ w.heap.size + 1 by omega) (.slice D m k))
    go_wp2_with fail
    refine bodyPost_ret (v := pv A n c D m k) (by simp [results, Tryz.results7, go_sem, x00, x01]) rfl ?_
    exact ⟨D, k, rfl, HFin.out, HBf.out⟩)
end Go.Proofs.YtapledphhfiimaaGreatDoor
/-
  strconv.Itoa and strings.Join, out of the library's shelf, laid over this seat's translation.
-/
namespace Go.Proofs.YtapledphhfiimaaGreatDoor
open Go.Shelf Go.RowKit
set_option linter.unusedVariables false
def lays156_ren : Go.Shelf.Ren := ⟨fun | 156 => 70 | 165 => 92 | 166 => 93 | 169 => 94 | 240 => 128 | 241 => 129 | 276 => 156 | 277 => 157 | n => n, fun | 31 => 104 | 9 => 9 | 3 => 3 | 4 => 4 | 0 => 0 | 20 => 20 | 72 => 144 | 76 => 146 | 70 => 141 | 37 => 142 | 75 => 36 | 127 => 178 | 164 => 179 | 5 => 5 | 80 => 148 | n => n, fun | n => n⟩
theorem lays156 : Go.Proofs.Lays.n156 Tryz.prog lays156_ren := {
  mixed := by kernel_rfl
  f156 := Tryz.func70.trans (congrArg some (by kernel_rfl))
  f165 := Tryz.func92.trans (congrArg some (by kernel_rfl))
  f166 := Tryz.func93.trans (congrArg some (by kernel_rfl))
  f169 := Tryz.func94.trans (congrArg some (by kernel_rfl))
  f240 := Tryz.func128.trans (congrArg some (by kernel_rfl))
  f241 := Tryz.func129.trans (congrArg some (by kernel_rfl))
  f276 := Tryz.func156.trans (congrArg some (by kernel_rfl))
  f277 := Tryz.func157.trans (congrArg some (by kernel_rfl))
  t0 := Tryz.underlying0
  a0 := Tryz.isAgg0
  z0 := Tryz.sizeOf0
  v0 := Tryz.zeroValue0
  t3 := Tryz.underlying3
  a3 := Tryz.isAgg3
  z3 := Tryz.sizeOf3
  v3 := Tryz.zeroValue3
  t4 := Tryz.underlying4
  a4 := Tryz.isAgg4
  z4 := Tryz.sizeOf4
  v4 := Tryz.zeroValue4
  t9 := Tryz.underlying9
  a9 := Tryz.isAgg9
  z9 := Tryz.sizeOf9
  v9 := Tryz.zeroValue9
  t20 := Tryz.underlying20
  a20 := Tryz.isAgg20
  z20 := Tryz.sizeOf20
  v20 := Tryz.zeroValue20
  t31 := Tryz.underlying104
  a31 := Tryz.isAgg104
  z31 := Tryz.sizeOf104
  v31 := Tryz.zeroValue104
  t37 := Tryz.underlying142
  a37 := Tryz.isAgg142
  z37 := Tryz.sizeOf142
  v37 := Tryz.zeroValue142
  t70 := Tryz.underlying141
  a70 := Tryz.isAgg141
  z70 := Tryz.sizeOf141
  v70 := Tryz.zeroValue141
  t72 := Tryz.underlying144
  a72 := Tryz.isAgg144
  z72 := Tryz.sizeOf144
  v72 := Tryz.zeroValue144
  t75 := Tryz.underlying36
  a75 := Tryz.isAgg36
  z75 := Tryz.sizeOf36
  v75 := Tryz.zeroValue36
  t76 := Tryz.underlying146
  a76 := Tryz.isAgg146
  z76 := Tryz.sizeOf146
  v76 := Tryz.zeroValue146
  t127 := Tryz.underlying178
  a127 := Tryz.isAgg178
  z127 := Tryz.sizeOf178
  v127 := Tryz.zeroValue178
  t164 := Tryz.underlying179
  a164 := Tryz.isAgg179
  z164 := Tryz.sizeOf179
  v164 := Tryz.zeroValue179 }
theorem Builder_Extra_156 : Builder.Extra Tryz.prog lays156_ren := {
  sizeBuilder := by kernel_rfl
  liesBuilder := by kernel_rfl
  t5 := Tryz.underlying5
  a5 := Tryz.isAgg5
  z5 := Tryz.sizeOf5
  v5 := Tryz.zeroValue5
  infoByte := by kernel_rfl
  cellsByte := by kernel_rfl
  sizeByte := by kernel_rfl
  neB5 := by decide }
open Go.RowKit in
theorem strings_Join_none (a : Option Addr) (c : Nat) (sep : ByteArray) (w : World) :
    Calls Tryz.prog 70 #[.slice a 0 c, .string sep] w fun e w' => e = .returned (.string ⟨#[]⟩) ∧ w' = w := Any.strings_Join_none lays156 Builder_Extra_156 a c sep w
open Go.RowKit in
theorem strings_Join (bk o c : Nat) (xs : List ByteArray) (sep : ByteArray) (w : World) (hcells : ∀ (j : Nat) x, xs[j]? = some x → w.cell? ⟨bk, o + j, none⟩ = some (.string x)) (hbk : bk < w.heap.size) (hN : xs.length ≤ 140737488355328) (hcap : xs.length ≤ c) (hlen : (Lib.join (xs.map (·.data.toList)) sep.data.toList).length ≤ 140737488355328) :
    Calls Tryz.prog 70 #[.slice (some ⟨bk, o, none⟩) xs.length c, .string sep] w fun e w' => e = .returned (.string ⟨(Lib.join (xs.map (·.data.toList)) sep.data.toList).toArray⟩) ∧ Below w.heap.size w w' := Any.strings_Join lays156 Builder_Extra_156 bk o c xs sep w hcells hbk hN hcap hlen
def laysM171_ren : Go.Shelf.Ren := ⟨fun | 171 => 69 | 243 => 91 | 246 => 127 | 283 => 152 | 284 => 153 | 285 => 154 | 286 => 155 | 129 => 121 | 317 => 176 | 318 => 177 | 319 => 178 | 320 => 179 | 337 => 194 | 338 => 195 | n => n, fun | 3 => 3 | 9 => 9 | 2 => 2 | 4 => 4 | 171 => 204 | 0 => 0 | 53 => 173 | 37 => 142 | 5 => 5 | 173 => 206 | 212 => 237 | 51 => 171 | 20 => 20 | 213 => 238 | 46 => 134 | 232 => 263 | 233 => 264 | n => n, fun | 17 => 2 | 18 => 7 | 19 => 8 | n => n⟩
theorem laysM171 : Go.Proofs.LaysM.n171 Tryz.prog laysM171_ren := {
  mixed := by kernel_rfl
  f129 := Tryz.func121.trans (congrArg some (by kernel_rfl))
  f171 := Tryz.func69.trans (congrArg some (by kernel_rfl))
  f243 := Tryz.func91.trans (congrArg some (by kernel_rfl))
  f246 := Tryz.func127.trans (congrArg some (by kernel_rfl))
  f283 := Tryz.func152.trans (congrArg some (by kernel_rfl))
  f284 := Tryz.func153.trans (congrArg some (by kernel_rfl))
  f285 := Tryz.func154.trans (congrArg some (by kernel_rfl))
  f286 := Tryz.func155.trans (congrArg some (by kernel_rfl))
  f317 := Tryz.func176.trans (congrArg some (by kernel_rfl))
  f318 := Tryz.func177.trans (congrArg some (by kernel_rfl))
  f319 := Tryz.func178.trans (congrArg some (by kernel_rfl))
  f320 := Tryz.func179.trans (congrArg some (by kernel_rfl))
  f337 := Tryz.func194.trans (congrArg some (by kernel_rfl))
  f338 := Tryz.func195.trans (congrArg some (by kernel_rfl))
  t0 := Tryz.underlying0
  a0 := Tryz.isAgg0
  z0 := Tryz.sizeOf0
  v0 := Tryz.zeroValue0
  t2 := Tryz.underlying2
  a2 := Tryz.isAgg2
  z2 := Tryz.sizeOf2
  v2 := Tryz.zeroValue2
  t3 := Tryz.underlying3
  a3 := Tryz.isAgg3
  z3 := Tryz.sizeOf3
  v3 := Tryz.zeroValue3
  t4 := Tryz.underlying4
  a4 := Tryz.isAgg4
  z4 := Tryz.sizeOf4
  v4 := Tryz.zeroValue4
  t5 := Tryz.underlying5
  a5 := Tryz.isAgg5
  z5 := Tryz.sizeOf5
  v5 := Tryz.zeroValue5
  t9 := Tryz.underlying9
  a9 := Tryz.isAgg9
  z9 := Tryz.sizeOf9
  v9 := Tryz.zeroValue9
  t20 := Tryz.underlying20
  a20 := Tryz.isAgg20
  z20 := Tryz.sizeOf20
  v20 := Tryz.zeroValue20
  t37 := Tryz.underlying142
  a37 := Tryz.isAgg142
  z37 := Tryz.sizeOf142
  v37 := Tryz.zeroValue142
  t46 := Tryz.underlying134
  a46 := Tryz.isAgg134
  z46 := Tryz.sizeOf134
  v46 := Tryz.zeroValue134
  t51 := Tryz.underlying171
  a51 := Tryz.isAgg171
  z51 := Tryz.sizeOf171
  v51 := Tryz.zeroValue171
  t53 := Tryz.underlying173
  a53 := Tryz.isAgg173
  z53 := Tryz.sizeOf173
  v53 := Tryz.zeroValue173
  t171 := Tryz.underlying204
  a171 := Tryz.isAgg204
  z171 := Tryz.sizeOf204
  v171 := Tryz.zeroValue204
  t173 := Tryz.underlying206
  a173 := Tryz.isAgg206
  z173 := Tryz.sizeOf206
  v173 := Tryz.zeroValue206
  t212 := Tryz.underlying237
  a212 := Tryz.isAgg237
  z212 := Tryz.sizeOf237
  v212 := Tryz.zeroValue237
  t213 := Tryz.underlying238
  a213 := Tryz.isAgg238
  z213 := Tryz.sizeOf238
  t232 := Tryz.underlying263
  a232 := Tryz.isAgg263
  z232 := Tryz.sizeOf263
  v232 := Tryz.zeroValue263
  t233 := Tryz.underlying264
  a233 := Tryz.isAgg264
  z233 := Tryz.sizeOf264
  v233 := Tryz.zeroValue264
  g17 := by kernel_rfl
  g18 := by kernel_rfl
  g19 := by kernel_rfl
  i0 := by kernel_rfl
  i2 := by kernel_rfl
  i3 := by kernel_rfl
  i4 := by kernel_rfl
  i5 := by kernel_rfl
  i9 := by kernel_rfl
  i20 := by kernel_rfl
  i37 := by kernel_rfl
  i46 := by kernel_rfl
  i51 := by kernel_rfl
  i53 := by kernel_rfl
  i171 := by kernel_rfl
  i173 := by kernel_rfl
  i212 := by kernel_rfl
  i232 := by kernel_rfl
  i233 := by kernel_rfl
  m17 := by kernel_rfl
  m18 := by kernel_rfl
  m19 := by kernel_rfl }
open Go.RowKit Go.Sort Go.Lib in
theorem strconv_Itoa (n : Int) (h0 : -9223372036854775808 ≤ n) (h1 : n ≤ 9223372036854775807) (w : World) (htab : Lib.TabIs Tryz.prog w "internal/strconv.uint64pow10" .u64 Lib.pow10Tab) :
    Calls Tryz.prog 69 #[.int .i64 n] w fun e w' => e = .returned (.string ⟨(Lib.itoa n).toArray⟩) ∧ ∃ k os, w' = grow (w.drewN k) os := Any.strconv_Itoa laysM171 n h0 h1 w htab
end Go.Proofs.YtapledphhfiimaaGreatDoor
/-
  Patterns: the walk of Text.
-/
namespace Go.Proofs.YtapledphhfiimaaGreatDoor
open Go.RowKit
attribute [local go_sem ↓] Go.wp_at_zero Go.wp_at_succ
set_option maxRecDepth 100000
set_option linter.unusedVariables false

theorem elemStr : Elem Tryz.prog 104 9 (.string ⟨#[]⟩) 1 16 := ⟨Tryz.underlying104, by kernel_rfl, rfl, by decide⟩
/-- The table that Itoa reads. -/
def TabW (w : World) : Prop := Lib.TabIs Tryz.prog w "internal/strconv.uint64pow10" .u64 Lib.pow10Tab
theorem TabW.keep {w w' : World} (h : TabW w) (hb : Below w.heap.size w w') : TabW w' := Lib.tabBelow_of_tabIs h w' hb
def i64P (x : Int) : Prop := -9223372036854775808 ≤ x ∧ x ≤ 9223372036854775807
abbrev itoaB (x : Int) : ByteArray := ⟨(Lib.itoa x).toArray⟩
theorem Itoa_any (x : Int) (w : World) (hx : i64P x) (hT : TabW w) : Calls Tryz.prog 69 #[.int .i64 x] w fun e w' => e = .returned (.string (itoaB x)) ∧ Below w.heap.size w w' :=
  (strconv_Itoa x hx.1 hx.2 w hT).mono fun e w' ⟨h1, k, os, h2⟩ => ⟨h1, by rw [h2]; exact Lib.below_grow _ w (Nat.le_refl _) k os⟩
theorem itoaB_size (x : Int) (h : i64P x) : (itoaB x).size ≤ 21 := by
  show (Lib.itoa x).toArray.size ≤ 21
  rw [List.size_toArray]
  exact Lib.itoa_length_le x h.1 h.2
def edgeB (e : Int × Int) : ByteArray := itoaB e.1 ++ ⟨#[45]⟩ ++ itoaB e.2
def strs (l : List ByteArray) : List Value := l.map Value.string

theorem edgeB_size (e : Int × Int) (h1 : i64P e.1) (h2 : i64P e.2) : (edgeB e).size ≤ 100 := by
  have a := itoaB_size _ h1
  have b := itoaB_size _ h2
  have c : (⟨#[45]⟩ : ByteArray).size = 1 := rfl
  unfold edgeB
  rw [ByteArray.size_append, ByteArray.size_append]
  omega
def joinB (S : List ByteArray) : ByteArray := ⟨(Lib.join (S.map (·.data.toList)) [44]).toArray⟩
theorem tail_len : ∀ (r : List (List UInt8)), (∀ b ∈ r, b.length ≤ 100) → (Lib.joinTail [44] r).length ≤ r.length * 101
  | [], _ => Nat.le_refl _
  | x :: r, h => by
    have h1 := tail_len r (fun b hb => h b (List.mem_cons_of_mem _ hb))
    have h2 := h x (List.mem_cons_self ..)
    unfold Lib.joinTail at h1 ⊢
    rw [List.map_cons, List.flatten_cons, List.length_append, List.length_cons, List.length_append]
    simp only [List.length_cons, List.length_nil]
    omega
theorem join_len (r : List (List UInt8)) (h : ∀ b ∈ r, b.length ≤ 100) : (Lib.join r [44]).length ≤ r.length * 101 := by
  rcases r with _ | ⟨x, r⟩
  · exact Nat.le_refl _
  · have h1 := tail_len r (fun b hb => h b (List.mem_cons_of_mem _ hb))
    have h2 := h x (List.mem_cons_self ..)
    rw [Lib.join_cons, List.length_append, List.length_cons]
    omega
theorem dataLen (b : ByteArray) : b.data.toList.length = b.size := Array.length_toList
theorem joinB_len (S : List ByteArray) (h : ∀ b ∈ S, b.size ≤ 100) : (Lib.join (S.map (·.data.toList)) [44]).length ≤ S.length * 101 := by
  have := join_len (S.map (·.data.toList)) (fun b hb => by
    obtain ⟨x, hx, rfl⟩ := List.mem_map.1 hb
    show x.data.toList.length ≤ 100
    rw [dataLen]
    exact h x hx)
  rw [List.length_map] at this
  exact this
theorem joinB_size (S : List ByteArray) (h : ∀ b ∈ S, b.size ≤ 100) : (joinB S).size ≤ S.length * 101 := by
  show (Lib.join (S.map (·.data.toList)) [44]).toArray.size ≤ _
  rw [List.size_toArray]
  exact joinB_len S h
theorem Join_any (S : List ByteArray) (A : Option Addr) (n c : Nat) (w : World) (hl : S.length = n) (hn : n ≤ 1048576) (hnc : n ≤ c) (hs : Sl w 1 A n (strs S)) (hlt : ∀ x : Addr, A = some x → x.block < w.heap.size) (hsz : ∀ b ∈ S, b.size ≤ 100) :
    Calls Tryz.prog 70 #[.slice A n c, .string ⟨#[44]⟩] w fun e w' => e = .returned (.string (joinB S)) ∧ Below w.heap.size w w' := by
  rcases Nat.eq_zero_or_pos n with h0 | h0
  · subst h0
    obtain rfl := List.eq_nil_of_length_eq_zero hl
    exact (strings_Join_none A c ⟨#[44]⟩ w).mono fun e w' ⟨h1, h2⟩ => ⟨h1, by rw [h2]; exact Below.refl _ _⟩
  · obtain ⟨b, off, rfl, hc⟩ := hs.2 h0
    subst hl
    exact strings_Join b off c S ⟨#[44]⟩ w (fun j x hx => hc j _ (by unfold strs; rw [List.getElem?_map, hx]; rfl)) (hlt _ rfl) (by omega) hnc (by
      have := joinB_len S hsz
      show (Lib.join (S.map (·.data.toList)) [44]).length ≤ _
      omega)
/-- A pattern's text. -/
def textB (L : List Int) (E : List (Int × Int)) : ByteArray := joinB (L.map itoaB) ++ ⟨#[124]⟩ ++ joinB (E.map edgeB)

set_option maxHeartbeats 8000000 in
theorem Text_any (L : List Int) (E : List (Int × Int)) (A B : Option Addr) (n c m d : Nat) (w : World) (hl : L.length = n) (hn : n ≤ 1048576) (hm : m ≤ 1048576) (hs : Sl w 1 A n (L.map (Value.int .i64))) (ht : Sl w 2 B m (Rk.cells E))
    (hL : ∀ x ∈ L, i64P x) (hE : ∀ e ∈ E, i64P e.1 ∧ i64P e.2) (hT : TabW w) :
    Calls Tryz.prog 50 #[pv A n c B m d] w fun e w' => e = .returned (.string (textB L E)) ∧ Below w.heap.size w w' := by
  have hb0 := bel_al (Below.refl w.heap.size w) (.cells #[.slice A n c, .slice B m d] 30)
  have HB0 := Lib.hid hb0
  have HK := Lib.hid (Blk.new w 30 #[.slice A n c, .slice B m d])
  have HS := Lib.hid (hs.keep hb0)
  have HTt := Lib.hid (ht.keep hb0)
  have HTb := Lib.hid (hT.keep hb0)
  have HM := Lib.hid ht.len2
  have HL := Lib.hid hl
  have HiL := Lib.hid hL
  have HiE := Lib.hid hE
  clear hb0 hs ht hl hT hL hE
  go_enter Tryz.func50, Tryz.ntmps50
  go_wp2_with fail
  generalize hw0 : w.alloc (.cells #[.slice A n c, .slice B m d] 30) = w0 at *
  clear hw0
  go_loopw [3, 12] (fun l i wr => ∃ k : Nat, k ≤ n ∧ i = .int .i64 k ∧ wr.ownsRow w0.heap.size 9 1 l k (strs ((L.take k).map itoaB)) ∧ Below w0.heap.size w0 wr) (fun _ i _ => n - (intOf i).toNat)
  case atStart => exact ⟨0, Nat.zero_le _, rfl, by simpa [strs] using World.ownsRow_nil _ _ _ _, Below.refl _ _⟩
  case round =>
    obtain ⟨k, hk, rfl, hown, hb⟩ := hrel
    have HO := Lib.hid hown
    have HB := Lib.hid hb
    have HSk := Lib.hid (HS.out.keep hb)
    clear hown hb
    by_cases hlt : k < n
    · have hlt' : (k : Int) < (n : Int) := by omega
      obtain ⟨x, hx⟩ : ∃ x, L[k]? = some x := ⟨_, List.getElem?_eq_getElem (by rw [HL.out]; exact hlt)⟩
      obtain ⟨b1, off1, rfl, _⟩ := HSk.out.at_ (show 0 < n by omega)
      have c1 := HSk.out.again hlt (show (L.map (Value.int .i64))[k]? = some (.int .i64 x) by rw [List.getElem?_map, hx]; rfl)
      have HE := Lib.hid (show strs ((L.take (k + 1)).map itoaB) = strs ((L.take k).map itoaB) ++ [.string (itoaB x)] by
        obtain ⟨h1, h2⟩ := List.getElem?_eq_some_iff.1 hx
        rw [List.take_succ_eq_append_getElem h1, h2, strs, List.map_append, List.map_append]; rfl)
      have HI := Lib.hid (Itoa_any x wr (HiL.out x (List.mem_of_getElem? hx)) (HTb.out.keep HB.out))
      clear hx
      go_wp2_with (first
        | (go_at_call 69; refine HI.out.mono ?_; rintro e w2 ⟨rfl, hb2⟩; have HB2 := Lib.hid (HB.out.trans (hb2.mono HB.out.size)); have HO2 := Lib.hid (own_below HO.out (fun g hg => (HO.out.lt g hg).2) hb2); clear hb2)
        | (at_builtin; refine wpList_push elemStr _ _ rfl rfl HO2.out HB2.out (Nat.le_refl _) rfl rfl rfl (by simp [Value.oneCell']) (by unfold lim; omega) (by unfold lim; omega) ?_; intro v' w3 hown3 hb3))
      go_roundw
      case rel => exact ⟨k + 1, by omega, by go_num, by rw [HE.out]; exact hown3, hb3⟩
      case measure => simp [intOf]; omega
    · obtain rfl : k = n := by omega
      have hlt' : ¬ (k : Int) < (k : Int) := by omega
      rw [List.take_of_length_le (by rw [HL.out]; exact Nat.le_refl _)] at HO
      have k1 := (HK.out.keep HB.out).cell 1
      simp at k1
      go_wp2_with fail
      obtain ⟨A1, q1, rfl, _⟩ := Sl.own HO.out
      have HCap := Lib.hid (own_cap HO.out)
      have HLt := Lib.hid HO.out.lt
      have HTt1 := Lib.hid (HTt.out.keep HB.out)
      have HTb1 := Lib.hid (HTb.out.keep HB.out)
      clear HTt HTb HS HSk
      obtain ⟨wo, rfl⟩ : ∃ wo, wo = wr := ⟨_, rfl⟩
      go_loopw [4, 25] (fun l i wx => ∃ j : Nat, j ≤ m ∧ i = .int .i64 j ∧ wx.ownsRow wo.heap.size 9 1 l j (strs ((E.take j).map edgeB)) ∧ Below wo.heap.size wo wx) (fun _ i _ => m - (intOf i).toNat)
      case atStart => exact ⟨0, Nat.zero_le _, rfl, by simpa [strs] using World.ownsRow_nil _ _ _ _, Below.refl _ _⟩
      case round =>
        obtain ⟨j, hj, rfl, hown, hb⟩ := hrel
        have HO2 := Lib.hid hown
        have HB2 := Lib.hid hb
        have HTx := Lib.hid (HTt1.out.keep hb)
        clear hown hb
        by_cases hlt2 : j < m
        · have hlt2' : (j : Int) < (m : Int) := by omega
          obtain ⟨⟨x, y⟩, he⟩ : ∃ e, E[j]? = some e := ⟨_, List.getElem?_eq_getElem (by rw [HM.out]; exact hlt2)⟩
          obtain ⟨b2, off2, rfl, c0, c1⟩ := HTx.out.edge hlt2 he
          simp only at c0 c1
          have HE := Lib.hid (show strs ((E.take (j + 1)).map edgeB) = strs ((E.take j).map edgeB) ++ [.string (edgeB (x, y))] by
            obtain ⟨h1, h2⟩ := List.getElem?_eq_some_iff.1 he
            rw [List.take_succ_eq_append_getElem h1, h2, strs, List.map_append, List.map_append]; rfl)
          have hxy := HiE.out _ (List.mem_of_getElem? he)
          have HIx := Lib.hid (fun W (hW : Below wr.heap.size wr W) => Itoa_any x W hxy.1 ((HTb1.out.keep HB2.out).keep hW))
          have HIy := Lib.hid (fun W (hW : Below wr.heap.size wr W) => Itoa_any y W hxy.2 ((HTb1.out.keep HB2.out).keep hW))
          have hz1 := itoaB_size x hxy.1
          have hz2 := itoaB_size y hxy.2
          have hz3 : (⟨#[45]⟩ : ByteArray).size = 1 := rfl
          have hadd1 : ∀ W, (Op.stringOp .add (itoaB x) ⟨#[45]⟩).run Tryz.prog W = .ok (.string (itoaB x ++ ⟨#[45]⟩)) W := fun W => run_string_add_sum W _ _ (by omega)
          have hadd2 : ∀ W, (Op.stringOp .add (itoaB x ++ ⟨#[45]⟩) (itoaB y)).run Tryz.prog W = .ok (.string (itoaB x ++ ⟨#[45]⟩ ++ itoaB y)) W := fun W => run_string_add_sum W _ _ (by rw [ByteArray.size_append]; omega)
          clear hz1 hz2 hz3
          have HBc := Lib.hid (bel_drewN (bel_al (Below.refl wr.heap.size wr) (.cells #[.int .i64 x, .int .i64 y] 53)) 1)
          have HKe := Lib.hid (Blk.new wr 53 #[.int .i64 x, .int .i64 y]).drew
          clear he hxy
          go_wp2_with fail
          go_region_held3 (fun w' => w'.cell? ⟨wr.heap.size, 0, none⟩ = some (.int .i64 x) ∧ w'.cell? ⟨wr.heap.size, 1, none⟩ = some (.int .i64 y)) (go_keep)
            (first
              | (go_at_call_of 69 (Value.int .i64 x); refine (HIx.out _ HBc.out).mono ?_; rintro e w2 ⟨rfl, hb2⟩; replace HKe := Lib.hid (HKe.out.keep hb2); have k0 := HKe.out.cell 0; have k1 := HKe.out.cell 1; replace HBc := Lib.hid (HBc.out.andThen hb2); simp at k0 k1; clear hb2)
              | (go_at_call_of 69 (Value.int .i64 y); refine (HIy.out _ HBc.out).mono ?_; rintro e w3 ⟨rfl, hb3⟩; replace HKe := Lib.hid (HKe.out.keep hb3); have k0 := HKe.out.cell 0; have k1 := HKe.out.cell 1; replace HBc := Lib.hid (HBc.out.andThen hb3); simp at k0 k1; clear hb3)
              | (refine step_cat_at elemStr (.tmp 29) (.tmp 38) (by rfl) (by rfl) ((own_below HO2.out (fun g hg => (HO2.out.lt g hg).2) HBc.out).alloc _) (by have := HBc.out.size; have := HB2.out.size; simp; omega) (Sl.newAt _ [_] _ 1 rfl) (by rfl) (by rfl) (by simp [Value.oneCell']) (by unfold lim; omega) (by unfold lim; omega) ?_; intro v6 w6 hown6 hgr; have k6 := hgr.blkOwn (HKe.out.alloc _) ((own_below HO2.out (fun g hg => (HO2.out.lt g hg).2) HBc.out).alloc _) (by decide); have k60 := k6.cell 0; have k61 := k6.cell 1; simp at k60 k61; clear k6))
          all_goals (
            go_wp2_with fail
            go_roundw
            case rel => exact ⟨j + 1, by omega, by go_num, by rw [HE.out]; exact hown6, (HB2.out.trans (HBc.out.mono HB2.out.size)).trans (hgr.after_alloc.belowOwn (Nat.le_trans HB2.out.size HBc.out.size) (own_below HO2.out (fun g hg => (HO2.out.lt g hg).2) HBc.out))⟩
            case measure => simp [intOf]; omega)
        · obtain rfl : j = m := by omega
          have hlt2' : ¬ (j : Int) < (j : Int) := by omega
          rw [List.take_of_length_le (by rw [HM.out]; exact Nat.le_refl _)] at HO2
          obtain ⟨A2, q2, rfl, hsl2⟩ := Sl.own HO2.out
          have HCap2 := Lib.hid (own_cap HO2.out)
          have hz1 := joinB_size (L.map itoaB) (fun b hb => by
            obtain ⟨x, hx, rfl⟩ := List.mem_map.1 hb
            have := itoaB_size x (HiL.out x hx)
            omega)
          have hz2 := joinB_size (E.map edgeB) (fun b hb => by
            obtain ⟨x, hx, rfl⟩ := List.mem_map.1 hb
            exact edgeB_size x (HiE.out x hx).1 (HiE.out x hx).2)
          rw [List.length_map, HL.out] at hz1
          rw [List.length_map, HM.out] at hz2
          have hz3 : (⟨#[124]⟩ : ByteArray).size = 1 := rfl
          have hadd1 : ∀ W, (Op.stringOp .add (joinB (L.map itoaB)) ⟨#[124]⟩).run Tryz.prog W = .ok (.string (joinB (L.map itoaB) ++ ⟨#[124]⟩)) W := fun W => run_string_add_sum W _ _ (by omega)
          have hadd2 : ∀ W, (Op.stringOp .add (joinB (L.map itoaB) ++ ⟨#[124]⟩) (joinB (E.map edgeB))).run Tryz.prog W = .ok (.string (textB L E)) W := fun W => run_string_add_sum W _ _ (by rw [ByteArray.size_append]; omega)
          have HJ1 := Lib.hid (Join_any (L.map itoaB) A1 k q1 wr (by rw [List.length_map, HL.out]) hn HCap.out.1 ((Sl.of_own HO.out).keep HB2.out) (fun x hx => by have := (HLt.out x.block (by rw [hx]; rfl)).2; have := HB2.out.size; omega) (fun b hb => by
            obtain ⟨x, hx, rfl⟩ := List.mem_map.1 hb
            have := itoaB_size x (HiL.out x hx)
            omega))
          have HJ2 := Lib.hid (fun W (hW : Below wr.heap.size wr W) => Join_any (E.map edgeB) A2 j q2 W (by rw [List.length_map, HM.out]) hm HCap2.out.1 (hsl2.keep hW) (fun x hx => by have := (HO2.out.lt x.block (by rw [hx]; rfl)).2; have := hW.size; omega) (fun b hb => by
            obtain ⟨x, hx, rfl⟩ := List.mem_map.1 hb
            exact edgeB_size x (HiE.out x hx).1 (HiE.out x hx).2))
          have HBw := Lib.hid (HB0.out.andThen (HB.out.andThen HB2.out))
          clear hz1 hz2 hz3 hsl2
          go_wp2_with (first
            | (go_at_call_of 70 (Value.slice A1 k q1); refine HJ1.out.mono ?_; rintro e w2 ⟨rfl, hb2⟩; have HBj := Lib.hid hb2; clear hb2)
            | (go_at_call_of 70 (Value.slice A2 j q2); refine (HJ2.out _ HBj.out).mono ?_; rintro e w3 ⟨rfl, hb3⟩; have HBk := Lib.hid hb3; clear hb3))
          go_ret
          exact ⟨rfl, HBw.out.andThen (HBj.out.andThen HBk.out)⟩
end Go.Proofs.YtapledphhfiimaaGreatDoor
