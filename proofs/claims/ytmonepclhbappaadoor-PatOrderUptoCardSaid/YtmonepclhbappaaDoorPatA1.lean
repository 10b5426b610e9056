import Derived.Test.YtmonepclhbappaaDoorPatA0
namespace Go.Proofs.YtmonepclhbappaaDoor
open Go.RowKit
attribute [local go_sem ↓] Go.wp_at_zero Go.wp_at_succ
set_option maxRecDepth 100000
set_option linter.unusedVariables false
theorem ordE_or (a b : Int × Int) : orL [cmpI a.1 b.1, cmpI a.2 b.2] = Pt.ordE a b := by
  unfold orL orL orL Pt.ordE Pt.or2
  show (if Pt.cmpI a.1 b.1 = 0 then (if Pt.cmpI a.2 b.2 = 0 then 0 else Pt.cmpI a.2 b.2) else Pt.cmpI a.1 b.1) = _
  by_cases h : Pt.cmpI a.1 b.1 = 0
  · rw [if_pos h, if_pos h]
    split <;> omega
  · rw [if_neg h, if_neg h]

theorem cell_drew (W : World) (a : Addr) : W.drew.cell? a = W.cell? a := rfl
theorem cell_new (W : World) (cs : Array Value) (e : TypeId) (i g : Nat) (hg : W.heap.size = g) : (W.alloc (.cells cs e)).cell? ⟨g, i, none⟩ = cs[i]? := by subst hg; exact World.cell?_alloc_new _ _ _ _
theorem Or_two (x y : Int) (g c : Nat) (W : World) (h0 : W.cell? ⟨g, 0, none⟩ = some (.int .i64 x)) (h1 : W.cell? ⟨g, 1, none⟩ = some (.int .i64 y)) :
    Calls Tryd.prog 46 #[.slice (some ⟨g, 0, none⟩) 2 c] W fun e w' => e = .returned (.int .i64 (orL [x, y])) ∧ W = w' :=
  Or_any [x, y] _ 2 c W rfl (by omega) ⟨rfl, fun _ => ⟨g, 0, rfl, fun j u hu => by
    match j, hu with
    | 0, hu => cases hu; exact h0
    | 1, hu => cases hu; exact h1⟩⟩

set_option maxHeartbeats 4000000 in
theorem order_any (a b : Int × Int) (w : World) : Calls Tryd.prog 45 #[ev a, ev b] w fun e w' => e = .returned (.int .i64 (Pt.ordE a b)) ∧ Below w.heap.size w w' := by
  obtain ⟨a1, a2⟩ := a
  obtain ⟨b1, b2⟩ := b
  have HO := Lib.hid (ordE_or (a1, a2) (b1, b2))
  simp only at HO
  unfold ev
  simp only
  go_enter Tryd.func45, Tryd.ntmps45
  go_wp2_with fail
  go_region_held3 (fun w' => w'.cell? ⟨w.heap.size, 0, none⟩ = some (.int .i64 a1) ∧ w'.cell? ⟨w.heap.size, 1, none⟩ = some (.int .i64 a2) ∧ w'.cell? ⟨w.heap.size + 1, 0, none⟩ = some (.int .i64 b1) ∧ w'.cell? ⟨w.heap.size + 1, 1, none⟩ = some (.int .i64 b2)) (go_keep)
    (first
      | (go_at_call 47; refine (CmpI_any _ _ _).mono ?_; rintro e w' ⟨rfl, rfl⟩)
      | (go_at_call 46; refine (Or_two (cmpI a1 b1) (cmpI a2 b2) (w.heap.size + 1 + 1) 2 _ (by rw [cell_drew, cell_new _ _ _ _ _ (by simp)]; rfl) (by rw [cell_drew, cell_new _ _ _ _ _ (by simp)]; rfl)).mono ?_; rintro e w' ⟨rfl, rfl⟩))
  all_goals go_wp2_with fail
  all_goals go_ret
  all_goals exact ⟨ret_int HO.out, bel_drewN (bel_al (bel_al (bel_al (Below.refl w.heap.size w) _) _) _) 1⟩

/-- An edge of a row that reads as these. -/
theorem Sl.edge {w : World} {A : Option Addr} {n k : Nat} {E : List (Int × Int)} {e : Int × Int} (h : Sl w 2 A n (Rk.cells E)) (hk : k < n) (he : E[k]? = some e) :
    ∃ b off, A = some ⟨b, off, none⟩ ∧ w.cell? ⟨b, off + k * 2, none⟩ = some (.int .i64 e.1) ∧ w.cell? ⟨b, off + k * 2 + 1, none⟩ = some (.int .i64 e.2) := by
  obtain ⟨b, off, rfl, hc⟩ := h.at_ hk
  obtain ⟨u0, e0, c0⟩ := hc 0 (by omega)
  obtain ⟨u1, e1, c1⟩ := hc 1 (by omega)
  obtain ⟨hl, he⟩ := List.getElem?_eq_some_iff.1 he
  obtain ⟨g0, g1⟩ := Rk.cells_at E k hl
  rw [g0, he] at e0
  rw [g1, he] at e1
  obtain rfl := Option.some.inj e0
  obtain rfl := Option.some.inj e1
  exact ⟨b, off, rfl, by simpa using c0, by rw [Nat.add_assoc]; exact c1⟩
theorem Sl.len2 {w : World} {A : Option Addr} {n : Nat} {E : List (Int × Int)} (h : Sl w 2 A n (Rk.cells E)) : E.length = n := by
  have h1 := h.1
  rw [Rk.cells_length] at h1
  omega

set_option maxHeartbeats 4000000 in
theorem CompareE_any (E F : List (Int × Int)) (A B : Option Addr) (n m c d : Nat) (w : World) (hn : n ≤ 1000000) (hs : Sl w 2 A n (Rk.cells E)) (ht : Sl w 2 B m (Rk.cells F)) :
    Calls Tryd.prog 49 #[.slice A n c, .slice B m d, .func (.func 45) #[] #[]] w fun e w' => e = .returned (.int .i64 (Pt.cmpBy Pt.ordE E F)) ∧ Below w.heap.size w w' := by
  have HS := Lib.hid hs
  have HT := Lib.hid ht
  have HL := Lib.hid hs.len2
  have HM := Lib.hid ht.len2
  clear hs ht
  go_enter Tryd.func49, Tryd.ntmps49
  go_wp2_with fail
  go_loopw [13] (fun i wr => ∃ k : Nat, k ≤ n ∧ k ≤ m ∧ i = .int .i64 k ∧ Hid (Pt.cmpBy Pt.ordE (E.drop k) (F.drop k) = Pt.cmpBy Pt.ordE E F) ∧ Below w.heap.size w wr) (fun i _ => n - (intOf i).toNat)
  case atStart => exact ⟨0, Nat.zero_le _, Nat.zero_le _, rfl, rfl, Below.refl _ _⟩
  case round =>
    obtain ⟨k, hk, hkm, rfl, HD, hb⟩ := hrel
    have HB := Lib.hid hb
    have HSk := Lib.hid (HS.out.keep hb)
    have HTk := Lib.hid (HT.out.keep hb)
    clear hb
    by_cases hlt : k < n
    · have hlt' : (k : Int) < (n : Int) := by omega
      obtain ⟨e, he⟩ : ∃ e, E[k]? = some e := ⟨_, List.getElem?_eq_getElem (by rw [HL.out]; exact hlt)⟩
      obtain ⟨b1, off1, rfl, c0, c1⟩ := HSk.out.edge hlt he
      by_cases hlm : k < m
      · have hlm' : (k : Int) < (m : Int) := by omega
        have hlm2 : ¬ (m : Int) ≤ (k : Int) := by omega
        obtain ⟨f, hf⟩ : ∃ f, F[k]? = some f := ⟨_, List.getElem?_eq_getElem (by rw [HM.out]; exact hlm)⟩
        obtain ⟨b2, off2, rfl, d0, d1⟩ := (HTk.out.alloc (.cells #[.int .i64 e.1, .int .i64 e.2] 84)).edge hlm hf
        have HE := Lib.hid (show Pt.cmpBy Pt.ordE E F = if Pt.ordE e f = 0 then Pt.cmpBy Pt.ordE (E.drop (k + 1)) (F.drop (k + 1)) else Pt.ordE e f by
          obtain ⟨h1, h2⟩ := List.getElem?_eq_some_iff.1 he
          obtain ⟨h3, h4⟩ := List.getElem?_eq_some_iff.1 hf
          rw [← HD.out, List.drop_eq_getElem_cons h1, List.drop_eq_getElem_cons h3, h2, h4, Pt.cmpBy])
        clear he hf
        have HO := Lib.hid (fun W => order_any e f W)
        obtain ⟨z, hz⟩ : ∃ z, z = Pt.ordE e f := ⟨_, rfl⟩
        rw [← hz] at HE HO
        have hb2 := bel_al (bel_al HB.out (.cells #[.int .i64 e.1, .int .i64 e.2] 84)) (.cells #[.int .i64 f.1, .int .i64 f.2] 84)
        have HB2 := Lib.hid hb2
        clear hz hb2
        by_cases hz0 : z = 0
        · rw [if_pos hz0] at HE
          subst hz0
          go_wp2_with (go_at_call 45; refine (HO.out _).mono ?_; rintro e' w' ⟨rfl, hb3⟩; have HB3 := Lib.hid (HB2.out.andThen hb3); clear hb3)
          go_roundw
          case rel => exact ⟨k + 1, by omega, by omega, by go_num, HE.out.symm, HB3.out⟩
          case measure => simp [intOf]; omega
        · rw [if_neg hz0] at HE
          have hzz : (z != 0) = true := by simpa using hz0
          go_wp2_with (go_at_call 45; refine (HO.out _).mono ?_; rintro e' w' ⟨rfl, hb3⟩; have HB3 := Lib.hid (HB2.out.andThen hb3); clear hb3)
          go_ret
          exact ⟨ret_int HE.out.symm, HB3.out⟩
      · obtain rfl : k = m := by omega
        have hlm2 : (k : Int) ≤ (k : Int) := by omega
        have HE := Lib.hid (show 1 = Pt.cmpBy Pt.ordE E F by
          obtain ⟨h1, h2⟩ := List.getElem?_eq_some_iff.1 he
          rw [← HD.out, List.drop_eq_getElem_cons h1, List.drop_of_length_le (l := F) (by rw [HM.out]; exact Nat.le_refl _)]; rfl)
        have HB2 := Lib.hid (bel_al HB.out (.cells #[.int .i64 e.1, .int .i64 e.2] 84))
        clear he
        go_wp2_with fail
        go_ret
        exact ⟨ret_int HE.out, HB2.out⟩
    · obtain rfl : k = n := by omega
      have hlt' : ¬ (k : Int) < (k : Int) := by omega
      by_cases hkm' : k < m
      · have hkm2 : (k : Int) < (m : Int) := by omega
        have HE := Lib.hid (show -1 = Pt.cmpBy Pt.ordE E F by
          rw [← HD.out, List.drop_of_length_le (l := E) (by rw [HL.out]; exact Nat.le_refl _), List.drop_eq_getElem_cons (l := F) (by rw [HM.out]; exact hkm')]; rfl)
        go_wp2_with fail
        go_ret
        exact ⟨ret_int HE.out, HB.out⟩
      · obtain rfl : k = m := by omega
        have HE := Lib.hid (show 0 = Pt.cmpBy Pt.ordE E F by
          rw [← HD.out, List.drop_of_length_le (l := E) (by rw [HL.out]; exact Nat.le_refl _), List.drop_of_length_le (l := F) (by rw [HM.out]; exact Nat.le_refl _)]; rfl)
        go_wp2_with fail
        go_ret
        exact ⟨ret_int HE.out, HB.out⟩
end Go.Proofs.YtmonepclhbappaaDoor
