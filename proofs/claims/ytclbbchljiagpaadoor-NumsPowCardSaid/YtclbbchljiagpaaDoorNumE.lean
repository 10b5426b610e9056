/-
  The document's numbers: Same, Fits.
-/
import Derived.Test.YtclbbchljiagpaaDoorNumD
namespace Go.Proofs.YtclbbchljiagpaaDoor
open Go.RowKit
set_option maxRecDepth 100000
set_option linter.unusedVariables false

/-- Few digits. -/
def Few (z : Int) : Prop := (digs z.natAbs).length ≤ 1000000
theorem Few.of {z : Int} {k : Nat} (h : z.natAbs < 32768 ^ k) (hk : k ≤ 1000000) : Few z := Nat.le_trans (digs_len h) hk
theorem lessAbs (x y : Nat) (A : Option Addr) (c : Nat) (B : Option Addr) (d : Nat) (w : World) (hx : (digs x).length ≤ 1000000) (hy : (digs y).length ≤ 1000000)
    (hsa : Sl w 1 A (digs x).length (cD (digs x))) (hsb : Sl w 1 B (digs y).length (cD (digs y))) :
    Calls Tryd.prog 78 #[.slice A (digs x).length c, .slice B (digs y).length d] w fun e w' => e = .returned (.bool (decide (x < y))) ∧ ∃ q, w' = w.drewN q := by
  have h := less_any (digs x) (digs y) A _ c B _ d w (digs_nrm x) (digs_nrm y) rfl rfl (by omega) (by omega) hsa hsb
  rw [valD_digs, valD_digs] at h
  exact h

set_option maxHeartbeats 4000000 in
theorem NumSame_any (v1 v2 : Value) (z1 z2 : Int) (w : World) (h1 : NumAt w v1 z1) (h2 : NumAt w v2 z2) (f1 : Few z1) (f2 : Few z2) :
    Calls Tryd.prog 77 #[v1, v2] w fun e w' => e = .returned (.bool (decide (z1 = z2))) ∧ Below w.heap.size w w' := by
  obtain ⟨A1, c1, rfl, s1, _⟩ := h1
  obtain ⟨A2, c2, rfl, s2, _⟩ := h2
  have HL := Lib.hid (fun W (h : Below w.heap.size w W) => lessAbs z1.natAbs z2.natAbs A1 c1 A2 c2 W f1 f2 (s1.keep h) (s2.keep h))
  have HM := Lib.hid (fun W (h : Below w.heap.size w W) => lessAbs z2.natAbs z1.natAbs A2 c2 A1 c1 W f2 f1 (s2.keep h) (s1.keep h))
  have HBB := Lib.hid (fun x1 x2 : Value => bel_al (bel_al (Below.refl w.heap.size w) (.cells #[.bool (decide (z1 < 0)), x1] 67)) (.cells #[.bool (decide (z2 < 0)), x2] 67))
  clear s1 s2
  have hcase : decide (z1 < 0) ≠ decide (z2 < 0) ∨ decide (z1 < 0) = decide (z2 < 0) := by by_cases h : decide (z1 < 0) = decide (z2 < 0) <;> simp [h]
  rcases hcase with hs | hs
  · have hne : decide (z1 = z2) = false := decide_eq_false (fun e => hs (by rw [e]))
    rw [hne]
    have hq : (decide (z1 < 0) == decide (z2 < 0)) = false := by simpa using hs
    clear hne
    generalize decide (z1 < 0) = b1 at *
    generalize decide (z2 < 0) = b2 at *
    have HBB' := Lib.hid (HBB.out (.slice A1 (digs z1.natAbs).length c1) (.slice A2 (digs z2.natAbs).length c2))
    generalize (digs z1.natAbs).length = n1 at *
    generalize (digs z2.natAbs).length = n2 at *
    clear HL HM HBB
    cases b1 <;> cases b2 <;> simp at hs
    all_goals
      go_enter Tryd.func77, Tryd.ntmps77
      go_wp2_with fail
      go_ret
      exact ⟨rfl, HBB'.out⟩
  · have heq : decide (z1 = z2) = (!decide (z1.natAbs < z2.natAbs) && !decide (z2.natAbs < z1.natAbs)) := by
      by_cases hz1 : z1 < 0
      · have hz2 : z2 < 0 := by simpa [hz1] using hs
        rw [Bool.eq_iff_iff]; simp; omega
      · have hz2 : ¬ z2 < 0 := by simpa [hz1] using hs
        rw [Bool.eq_iff_iff]; simp; omega
    rw [heq]
    rw [← hs] at HBB
    clear heq
    have HBB' := Lib.hid (HBB.out (.slice A1 (digs z1.natAbs).length c1) (.slice A2 (digs z2.natAbs).length c2))
    rw [← hs]
    clear hs HBB
    generalize decide (z1 < 0) = b1 at *
    generalize (digs z1.natAbs).length = n1 at *
    generalize (digs z2.natAbs).length = n2 at *
    generalize decide (z1.natAbs < z2.natAbs) = l1 at *
    generalize decide (z2.natAbs < z1.natAbs) = l2 at *
    have hbb : (b1 == b1) = true := by simp
    go_enter Tryd.func77, Tryd.ntmps77
    go_wp2_with fail
    refine (HL.out _ HBB'.out).mono ?_
    rintro e w1 ⟨rfl, hq⟩
    have HB1 := Lib.hid (HBB'.out.andThen (drew_bel hq))
    clear HL
    obtain ⟨q, hq⟩ := hq
    have k1 : w1.cell? ⟨w.heap.size, 1, none⟩ = some (.slice A1 n1 c1) := by rw [hq]; simp [go_sem]
    have k2 : w1.cell? ⟨w.heap.size + 1, 1, none⟩ = some (.slice A2 n2 c2) := by rw [hq]; simp [go_sem]
    clear hq
    cases l1
    · go_wp2_with fail
      refine (HM.out _ HB1.out).mono ?_
      rintro e w2 ⟨rfl, hq⟩
      have HB2 := Lib.hid (HB1.out.andThen (drew_bel hq))
      clear HM hq k1 k2
      go_wp2_with fail
      go_ret
      exact ⟨by simp, HB2.out⟩
    · clear HM
      go_wp2_with fail
      go_ret
      exact ⟨by simp, HB1.out⟩

set_option maxHeartbeats 4000000 in
theorem NumFits_any (v : Value) (z : Int) (w : World) (h : NumAt w v z) (f : Few z) :
    Calls Tryd.prog 52 #[v] w fun e w' => e = .returned (.bool (decide (-9223372036854775808 ≤ z ∧ z ≤ 9223372036854775807))) ∧ Below w.heap.size w w' := by
  obtain ⟨A, c, rfl, s, _⟩ := h
  have HS := Lib.hid s
  clear s
  have hbx := bel_al (Below.refl w.heap.size w) (.cells #[.bool (decide (z < 0)), .slice A (digs z.natAbs).length c] 67)
  have HBX := Lib.hid hbx
  clear hbx
  go_enter Tryd.func52, Tryd.ntmps52
  go_wp2_with fail
  refine (Of_any (-9223372036854775808) _ (by omega)).mono ?_
  rintro e w1 ⟨v1, rfl, hv1, hb1⟩
  have HV1 := Lib.hid hv1
  have hk1 := (Blk.new w 67 #[.bool (decide (z < 0)), .slice A (digs z.natAbs).length c]).keep hb1
  have HB1 := Lib.hid (HBX.out.andThen hb1)
  clear hv1 hb1
  go_wp2_with fail
  refine (Of_any 9223372036854775807 _ (by omega)).mono ?_
  rintro e w2 ⟨v2, rfl, hv2, hb2⟩
  replace HV1 := Lib.hid (HV1.out.keep hb2)
  have hk2 := hk1.keep hb2
  have HB2 := Lib.hid (HB1.out.andThen hb2)
  obtain ⟨A1, c1, rfl, s1, _⟩ := HV1.out
  obtain ⟨A2, c2, rfl, s2, _⟩ := hv2
  rw [show (-9223372036854775808 : Int).natAbs = 9223372036854775808 from rfl] at s1
  rw [show (9223372036854775807 : Int).natAbs = 9223372036854775807 from rfl] at s2
  have HS1 := Lib.hid s1
  have HS2 := Lib.hid s2
  clear hb2 s1 s2 hk1 HV1
  have hbl := bel_al (bel_al (Below.refl w2.heap.size w2) (.cells #[.bool true, .slice A1 (digs 9223372036854775808).length c1] 67)) (.cells #[.bool false, .slice A2 (digs 9223372036854775807).length c2] 67)
  have hk3 := hk2.keep hbl
  have k0 := (hk3.cell 0).trans (show _ = some (Value.bool (decide (z < 0))) from rfl)
  have k1 := (hk3.cell 1).trans (show _ = some (Value.slice A (digs z.natAbs).length c) from rfl)
  have l1 : (digs 9223372036854775808).length ≤ 1000000 := Nat.le_trans (digs_len (k := 5) (by decide)) (by omega)
  have l2 : (digs 9223372036854775807).length ≤ 1000000 := Nat.le_trans (digs_len (k := 5) (by decide)) (by omega)
  have HL := Lib.hid (lessAbs 9223372036854775808 z.natAbs A1 c1 A c _ l1 f (HS1.out.keep hbl) (HS.out.keep (HB2.out.andThen hbl)))
  have HM := Lib.hid (lessAbs 9223372036854775807 z.natAbs A2 c2 A c _ l2 f (HS2.out.keep hbl) (HS.out.keep (HB2.out.andThen hbl)))
  have HB3 := Lib.hid (HB2.out.andThen hbl)
  clear hk2 hk3 hbl
  by_cases hz : z < 0
  · rw [decide_eq_true hz] at k0
    have HR := Lib.hid (show (!decide (9223372036854775808 < z.natAbs)) = decide (-9223372036854775808 ≤ z ∧ z ≤ 9223372036854775807) by rw [Bool.eq_iff_iff]; simp; omega)
    generalize decide (9223372036854775808 < z.natAbs) = r1 at *
    clear HM
    go_wp2_with fail
    refine HL.out.mono ?_
    rintro e w3 ⟨rfl, hq⟩
    have HB4 := Lib.hid (HB3.out.andThen (drew_bel hq))
    clear hq k0 k1
    go_wp2_with fail
    go_ret
    exact ⟨ret_bool HR.out, HB4.out⟩
  · rw [decide_eq_false hz] at k0
    have HR := Lib.hid (show (!decide (9223372036854775807 < z.natAbs)) = decide (-9223372036854775808 ≤ z ∧ z ≤ 9223372036854775807) by rw [Bool.eq_iff_iff]; simp; omega)
    generalize decide (9223372036854775807 < z.natAbs) = r1 at *
    clear HL
    go_wp2_with fail
    refine HM.out.mono ?_
    rintro e w3 ⟨rfl, hq⟩
    have HB4 := Lib.hid (HB3.out.andThen (drew_bel hq))
    clear hq k0 k1
    go_wp2_with fail
    go_ret
    exact ⟨ret_bool HR.out, HB4.out⟩
end Go.Proofs.YtclbbchljiagpaaDoor
