/-
  slices.BinarySearchFunc over edges.
-/
import Derived.Test.YtmonepclhbappaaDoorPatI
namespace Go.Proofs.YtmonepclhbappaaDoor
open Go.RowKit
attribute [local go_sem ↓] Go.wp_at_zero Go.wp_at_succ
set_option maxRecDepth 100000
set_option linter.unusedVariables false

/-- A row of edges that rises. -/
def riseE (E : List (Int × Int)) : Prop := ∀ (i j : Nat) e f, i < j → E[i]? = some e → E[j]? = some f → Pt.ordE e f < 0
/-- Where an edge lies, or would. -/
def spotE (E : List (Int × Int)) (t : Int × Int) (p : Nat) : Prop := p ≤ E.length ∧ (∀ (k : Nat) e, k < p → E[k]? = some e → Pt.ordE e t < 0) ∧ (∀ (k : Nat) e, p ≤ k → E[k]? = some e → 0 ≤ Pt.ordE e t)

set_option maxHeartbeats 8000000 in
theorem BSE_any (E : List (Int × Int)) (t : Int × Int) (A : Option Addr) (n c : Nat) (w : World) (hn : n ≤ 1000) (hs : Sl w 2 A n (Rk.cells E)) (hr : riseE E) :
    Calls Tryd.prog 77 #[.slice A n c, ev t, .func (.func 45) #[] #[]] w fun e w' => ∃ (p : Nat) (b : Bool), e = .returned (.tuple #[.int .i64 (p : Int), .bool b]) ∧ spotE E t p ∧ (b = true ↔ ∃ f, E[p]? = some f ∧ Pt.ordE f t = 0) ∧ Below w.heap.size w w' := by
  obtain ⟨tx, ty⟩ := t
  have hb0 := bel_al (Below.refl w.heap.size w) (.cells #[.int .i64 tx, .int .i64 ty] 84)
  have HB0 := Lib.hid hb0
  have HK := Lib.hid (Blk.new w 84 #[.int .i64 tx, .int .i64 ty])
  have HS := Lib.hid (hs.keep hb0)
  have HM := Lib.hid hs.len2
  have HR := Lib.hid hr
  clear hb0 hs hr
  unfold ev
  simp only
  go_enter Tryd.func77, Tryd.ntmps77
  go_wp2_with fail
  generalize hw0 : w.alloc (.cells #[.int .i64 tx, .int .i64 ty] 84) = w0 at *
  clear hw0
  go_loopw [9, 10] (fun a b wr => ∃ lo hi : Nat, a = .int .i64 lo ∧ b = .int .i64 hi ∧ lo ≤ hi ∧ hi ≤ n ∧ Hid ((∀ k e, k < lo → E[k]? = some e → Pt.ordE e (tx, ty) < 0) ∧ (∀ k e, hi ≤ k → E[k]? = some e → 0 ≤ Pt.ordE e (tx, ty))) ∧ Below w0.heap.size w0 wr) (fun a b _ => (intOf b).toNat - (intOf a).toNat)
  case atStart => exact ⟨0, n, rfl, rfl, Nat.zero_le _, Nat.le_refl _, ⟨fun k e hk => absurd hk (Nat.not_lt_zero _), fun k e hk he => absurd (List.getElem?_eq_some_iff.1 he).1 (by rw [HM.out]; omega)⟩, Below.refl _ _⟩
  case round =>
    obtain ⟨lo, hi, rfl, rfl, hlh, hhn, HI, hb⟩ := hrel
    have HB := Lib.hid hb
    have HSk := Lib.hid (HS.out.keep hb)
    have k0 := (HK.out.keep hb).cell 0
    have k1 := (HK.out.keep hb).cell 1
    simp at k0 k1
    have HKb := Lib.hid (HK.out.keep hb)
    clear hb
    by_cases hlt : lo < hi
    · have hlt' : (lo : Int) < (hi : Int) := by omega
      obtain ⟨h, hh⟩ : ∃ h, h = (lo + hi) / 2 := ⟨_, rfl⟩
      have hhi : ((lo : Int) + (hi : Int)) / 2 = (h : Int) := by omega
      have hhn2 : (h : Int) < (n : Int) := by omega
      have hh0 : (0 : Int) ≤ (h : Int) := by omega
      have hwh : wrap64 (h : Int) = (h : Int) := by unfold wrap64; omega
      have hwh2 : IntKind.i64.wrap (h : Int) = (h : Int) := by rw [IntKind.wrap_i64]; omega
      obtain ⟨⟨x, y⟩, he⟩ : ∃ e, E[h]? = some e := ⟨_, List.getElem?_eq_getElem (by rw [HM.out]; omega)⟩
      obtain ⟨b1, off1, rfl, c0, c1⟩ := HSk.out.edge (show h < n by omega) he
      simp only at c0 c1
      have HE := Lib.hid he
      have HO := Lib.hid (fun W => order_any (x, y) (tx, ty) W)
      obtain ⟨z, hz⟩ : ∃ z, z = Pt.ordE (x, y) (tx, ty) := ⟨_, rfl⟩
      rw [← hz] at HO
      have HZ := Lib.hid hz
      clear he hz
      have hlo2 : lo ≤ h := by omega
      have hhi2 : h < hi := by omega
      clear hh
      go_wp2_with fail
      by_cases hz0 : z < 0
      · have HN := Lib.hid (show (∀ (k : Nat) e, k < h + 1 → E[k]? = some e → Pt.ordE e (tx, ty) < 0) from fun k e hk hke => by
          by_cases hkh : k = h
          · subst hkh
            rw [HE.out] at hke
            cases hke
            rw [← HZ.out]
            exact hz0
          · have h1 := HR.out k h e (x, y) (by omega) hke HE.out
            exact Pt.cp_edge.lt h1 (by rw [← HZ.out]; omega))
        go_region_held3 (fun w' => w'.cell? ⟨w.heap.size, 0, none⟩ = some (.int .i64 tx) ∧ w'.cell? ⟨w.heap.size, 1, none⟩ = some (.int .i64 ty) ∧ w'.cell? ⟨b1, off1 + h * 2, none⟩ = some (.int .i64 x) ∧ w'.cell? ⟨b1, off1 + h * 2 + 1, none⟩ = some (.int .i64 y)) (go_keep) ((go_at_call 45; refine (HO.out _).mono ?_; rintro e' w3 ⟨rfl, hb4⟩; have q0 := (hb4.cell (p := ⟨w.heap.size, 0, none⟩) (World.block_lt_of_cell? _ _ k0)).trans k0; have q1 := (hb4.cell (p := ⟨w.heap.size, 1, none⟩) (World.block_lt_of_cell? _ _ k1)).trans k1; have q2 := (hb4.cell (p := ⟨b1, off1 + h * 2, none⟩) (World.block_lt_of_cell? _ _ c0)).trans c0; have q3 := (hb4.cell (p := ⟨b1, off1 + h * 2 + 1, none⟩) (World.block_lt_of_cell? _ _ c1)).trans c1; (first | have HB4 := Lib.hid (HB.out.trans (hb4.mono HB.out.size)) | have HB4 := Lib.hid ((bel_drewN HB.out 1).trans (hb4.mono HB.out.size))); clear hb4))
        all_goals go_wp2_with fail
        all_goals (
          go_roundw
          case rel => exact ⟨h + 1, hi, by go_num, rfl, by omega, hhn, ⟨HN.out, HI.out.2⟩, HB4.out⟩
          case measure => simp [intOf]; omega)
      · have HN := Lib.hid (show (∀ (k : Nat) e, h ≤ k → E[k]? = some e → 0 ≤ Pt.ordE e (tx, ty)) from fun k e hk hke => by
          by_cases hkh : k = h
          · subst hkh
            rw [HE.out] at hke
            cases hke
            rw [← HZ.out]
            omega
          · have h1 := HR.out h k (x, y) e (by omega) HE.out hke
            by_cases h2 : 0 ≤ Pt.ordE e (tx, ty)
            · exact h2
            · have h3 := Pt.cp_edge.lt h1 (show Pt.ordE e (tx, ty) ≤ 0 by omega)
              rw [← HZ.out] at h3
              omega)
        go_region_held3 (fun w' => w'.cell? ⟨w.heap.size, 0, none⟩ = some (.int .i64 tx) ∧ w'.cell? ⟨w.heap.size, 1, none⟩ = some (.int .i64 ty) ∧ w'.cell? ⟨b1, off1 + h * 2, none⟩ = some (.int .i64 x) ∧ w'.cell? ⟨b1, off1 + h * 2 + 1, none⟩ = some (.int .i64 y)) (go_keep) ((go_at_call 45; refine (HO.out _).mono ?_; rintro e' w3 ⟨rfl, hb4⟩; have q0 := (hb4.cell (p := ⟨w.heap.size, 0, none⟩) (World.block_lt_of_cell? _ _ k0)).trans k0; have q1 := (hb4.cell (p := ⟨w.heap.size, 1, none⟩) (World.block_lt_of_cell? _ _ k1)).trans k1; have q2 := (hb4.cell (p := ⟨b1, off1 + h * 2, none⟩) (World.block_lt_of_cell? _ _ c0)).trans c0; have q3 := (hb4.cell (p := ⟨b1, off1 + h * 2 + 1, none⟩) (World.block_lt_of_cell? _ _ c1)).trans c1; (first | have HB4 := Lib.hid (HB.out.trans (hb4.mono HB.out.size)) | have HB4 := Lib.hid ((bel_drewN HB.out 1).trans (hb4.mono HB.out.size))); clear hb4))
        all_goals go_wp2_with fail
        all_goals (
          go_roundw
          case rel => exact ⟨lo, h, rfl, rfl, by omega, by omega, ⟨HI.out.1, HN.out⟩, HB4.out⟩
          case measure => simp [intOf]; omega)
    · obtain rfl : hi = lo := by omega
      have hlt' : ¬ (hi : Int) < (hi : Int) := by omega
      have HSp := Lib.hid (show spotE E (tx, ty) hi from ⟨by rw [HM.out]; omega, HI.out.1, HI.out.2⟩)
      by_cases hn2 : hi < n
      · have hn2' : (hi : Int) < (n : Int) := by omega
        have hh0 : (0 : Int) ≤ (hi : Int) := by omega
        obtain ⟨⟨x, y⟩, he⟩ : ∃ e, E[hi]? = some e := ⟨_, List.getElem?_eq_getElem (by rw [HM.out]; omega)⟩
        obtain ⟨b1, off1, rfl, c0, c1⟩ := HSk.out.edge hn2 he
        simp only at c0 c1
        have HE := Lib.hid he
        have HO := Lib.hid (fun W => order_any (x, y) (tx, ty) W)
        obtain ⟨z, hz⟩ : ∃ z, z = Pt.ordE (x, y) (tx, ty) := ⟨_, rfl⟩
        rw [← hz] at HO
        have HRes := Lib.hid (show (z == 0) = true ↔ ∃ f, E[hi]? = some f ∧ Pt.ordE f (tx, ty) = 0 by
          rw [he]
          constructor
          · intro h
            exact ⟨_, rfl, by rw [← hz]; simpa using h⟩
          · rintro ⟨f, hf, h⟩
            cases hf
            rw [← hz] at h
            simpa using h)
        clear he hz
        go_wp2_with fail
        go_region_held3 (fun w' => w'.cell? ⟨w.heap.size, 0, none⟩ = some (.int .i64 tx) ∧ w'.cell? ⟨w.heap.size, 1, none⟩ = some (.int .i64 ty) ∧ w'.cell? ⟨b1, off1 + hi * 2, none⟩ = some (.int .i64 x) ∧ w'.cell? ⟨b1, off1 + hi * 2 + 1, none⟩ = some (.int .i64 y)) (go_keep) ((go_at_call 45; refine (HO.out _).mono ?_; rintro e' w3 ⟨rfl, hb4⟩; have q0 := (hb4.cell (p := ⟨w.heap.size, 0, none⟩) (World.block_lt_of_cell? _ _ k0)).trans k0; have q1 := (hb4.cell (p := ⟨w.heap.size, 1, none⟩) (World.block_lt_of_cell? _ _ k1)).trans k1; have q2 := (hb4.cell (p := ⟨b1, off1 + hi * 2, none⟩) (World.block_lt_of_cell? _ _ c0)).trans c0; have q3 := (hb4.cell (p := ⟨b1, off1 + hi * 2 + 1, none⟩) (World.block_lt_of_cell? _ _ c1)).trans c1; (first | have HB4 := Lib.hid (HB.out.trans (hb4.mono HB.out.size)) | have HB4 := Lib.hid ((bel_drewN HB.out 1).trans (hb4.mono HB.out.size))); clear hb4))
        all_goals go_wp2_with fail
        all_goals go_ret2
        all_goals exact ⟨hi, _, rfl, HSp.out, HRes.out, HB0.out.andThen HB4.out⟩
      · obtain rfl : hi = n := by omega
        have HRes := Lib.hid (show false = true ↔ ∃ f, E[hi]? = some f ∧ Pt.ordE f (tx, ty) = 0 from ⟨fun h => (by cases h), fun ⟨f, hf, _⟩ => absurd (List.getElem?_eq_some_iff.1 hf).1 (by rw [HM.out]; omega)⟩)
        go_wp2_with fail
        go_quiet (fail)
        go_wp2_with fail
        go_ret2
        exact ⟨hi, _, rfl, HSp.out, HRes.out, bel_drewN (HB0.out.andThen HB.out) _⟩
end Go.Proofs.YtmonepclhbappaaDoor
