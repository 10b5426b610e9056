/-
  Patterns: walks of the statements' Of and Same.
-/
import Derived.Test.YtmonepclhbappaaDoorPatD
namespace Go.Proofs.YtmonepclhbappaaDoor
open Go.RowKit
attribute [local go_sem ↓] Go.wp_at_zero Go.wp_at_succ
set_option maxRecDepth 100000
set_option linter.unusedVariables false

set_option maxHeartbeats 4000000 in
theorem Of04_any (E : List (Int × Int)) (B : Option Addr) (m d : Nat) (w : World) (hm : m ≤ 1048576) (ht : Sl w 2 B m (Rk.cells E)) :
    Calls Tryd.prog 41 #[.slice B m d] w fun e w' => ∃ v, e = .returned v ∧ w'.ownsRow w.heap.size 84 2 v m (Rk.cells E) ∧ Below w.heap.size w w' := by
  have HT := Lib.hid ht
  have HM := Lib.hid ht.len2
  clear ht
  go_enter Tryd.func41, Tryd.ntmps41
  go_wp2_with fail
  go_loopw [3, 4] (fun l i wr => ∃ k : Nat, k ≤ m ∧ i = .int .i64 k ∧ wr.ownsRow w.heap.size 84 2 l k (Rk.cells (E.take k)) ∧ Below w.heap.size w wr) (fun _ i _ => m - (intOf i).toNat)
  case atStart => exact ⟨0, Nat.zero_le _, rfl, by simpa [Rk.cells] using World.ownsRow_nil _ _ _ _, Below.refl _ _⟩
  case round =>
    obtain ⟨k, hk, rfl, hown, hb⟩ := hrel
    by_cases hlt : k < m
    · have hlt' : (k : Int) < (m : Int) := by omega
      obtain ⟨⟨x, y⟩, he⟩ : ∃ e, E[k]? = some e := ⟨_, List.getElem?_eq_getElem (by rw [HM.out]; exact hlt)⟩
      obtain ⟨b1, off1, rfl, c0, c1⟩ := (HT.out.keep hb).edge hlt he
      simp only at c0 c1
      have HE := Lib.hid (show Rk.cells (E.take (k + 1)) = Rk.cells (E.take k) ++ [.int .i64 x, .int .i64 y] by
        obtain ⟨h1, h2⟩ := List.getElem?_eq_some_iff.1 he
        rw [List.take_succ_eq_append_getElem h1, h2, Rk.cells_snoc])
      clear he
      go_wp2_with (at_builtin; refine wpList_push elemEdge _ _ rfl rfl hown hb (Nat.le_refl _) rfl rfl rfl (by simp [Value.oneCell']) (by unfold lim; omega) (by unfold lim; omega) ?_; intro v' w1 hown1 hb1)
      go_roundw
      case rel => exact ⟨k + 1, by omega, by go_num, by rw [HE.out]; exact hown1, hb1⟩
      case measure => simp [intOf]; omega
    · obtain rfl : k = m := by omega
      have hlt' : ¬ (k : Int) < (k : Int) := by omega
      have HE := Lib.hid (show E.take k = E from List.take_of_length_le (by rw [HM.out]; exact Nat.le_refl _))
      go_wp2_with fail
      go_ret
      exact ⟨_, rfl, by rw [HE.out] at hown; exact hown, hb⟩

theorem own_far2 {w : World} {B b i size n : Nat} {e : TypeId} {v : Value} {xs : List Value} (h : w.ownsRow B e size v n xs) (hb : b < B) (u : Value) : (w.setCell ⟨b, i, none⟩ u).ownsRow B e size v n xs :=
  own_block h fun g hg => Below.heap_setCell _ _ _ _ (fun e => by have h1 := (h.lt g hg).1; have h2 : g = b := e; omega)
set_option maxHeartbeats 4000000 in
theorem Of08_any (E : List (Int × Int)) (A B : Option Addr) (n c m d : Nat) (w : World) (hm : m ≤ 1048576) (ht : Sl w 2 B m (Rk.cells E)) :
    Calls Tryd.prog 13 #[pv A n c B m d] w fun e w' => ∃ D k, e = .returned (pv A n c D m k) ∧ Sl w' 2 D m (Rk.cells E) ∧ Below w.heap.size w w' := by
  have hb0 := bel_al (bel_al (Below.refl w.heap.size w) (.cells #[.slice A n c, .slice B m d] 25)) (.cells #[.slice none 0 0, .slice none 0 0] 29)
  have HB0 := Lib.hid hb0
  have HC := Lib.hid (fun (W : World) (hW : Below w.heap.size w W) => Of04_any E B m d W hm (ht.keep hW))
  have HK1 := Lib.hid ((Blk.new w 25 #[.slice A n c, .slice B m d]).alloc (.cells #[.slice none 0 0, .slice none 0 0] 29))
  have HK2 := Lib.hid (Blk.new (w.alloc (.cells #[.slice A n c, .slice B m d] 25)) 29 #[.slice none 0 0, .slice none 0 0])
  rw [World.size_alloc] at HK2
  clear hb0 ht
  go_enter Tryd.func13, Tryd.ntmps13
  go_wp2_with fail
  go_region_held3 (fun w' => w'.cell? ⟨w.heap.size, 0, none⟩ = some (.slice A n c) ∧ w'.cell? ⟨w.heap.size, 1, none⟩ = some (.slice B m d)) (go_keep)
    ((go_at_call 41; refine (HC.out _ (bel_drewN HB0.out 1)).mono ?_; rintro e w3 ⟨v, rfl, hown, hb3⟩; have k1 := HK1.out.drew.keep hb3; have k2 := HK2.out.drew.keep hb3; have k10 := k1.cell 0; have k11 := k1.cell 1; have k20 := k2.cell 0; have k21 := k2.cell 1; have f20 := k2.frozen 0; have f21 := k2.frozen 1; have hshape := Sl.own hown; have HOw := Lib.hid hown; obtain ⟨D, k, rfl, _⟩ := hshape; have HB3 := Lib.hid ((bel_drewN HB0.out 1).andThen hb3); have HKx := Lib.hid k2; simp at k10 k11 k20 k21; clear hown hb3 k1 k2))
  all_goals (
    have x0 := (HKx.out.set_ 0 (.slice A n c)).set_ 1 (.slice D m k)
    have x00 := x0.cell 0
    have x01 := x0.cell 1
    simp at x00 x01
    have HFin := Lib.hid (Sl.of_own (own_far2 (own_far2 HOw.out (b := w.heap.size + 1) (i := 0) (by simp) (.slice A n c)) (b := w.heap.size + 1) (i := 1) (by simp) (.slice D m k)))
    have HBf := Lib.hid ((HB3.out.setCell (p := ⟨w.heap.size + 1, 0, none⟩) (show w.heap.size ≤ w.heap.size + 1 by omega) (.slice A n c)).setCell (p := ⟨w.heap.size + 1, 1, none⟩) (show w.heap.size ≤ w.heap.size + 1 by omega) (.slice D m k))
    go_wp2_with fail
    refine bodyPost_ret (v := pv A n c D m k) (by simp [results, Tryd.results13, go_sem, x00, x01]) rfl ?_
    exact ⟨D, k, rfl, HFin.out, HBf.out⟩)
end Go.Proofs.YtmonepclhbappaaDoor
