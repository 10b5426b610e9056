/-
  What is told (chapter 02's told).
-/
import Derived.Test.YtclbbchljiagpaaDoorNumE
import Derived.Test.YtclbbchljiagpaaDoorNumU
import Derived.Deep.DeepCutAuto
import Derived.Deep.RegionWith
namespace Go.Proofs.YtclbbchljiagpaaDoor
open Go.RowKit
set_option maxRecDepth 100000
set_option linter.unusedVariables false

set_option maxHeartbeats 4000000 in
/-- told: of what is told of z: true, if z is the document's number. -/
theorem told_any (z : Int) (t : ByteArray) (ev v : Value) (w : World) (hg : ErrT w) (hev : (te t z).At w ev) (hv : NumAt w v z) (hf : Few z) :
    Calls Tryd.prog 45 #[.int .i64 (tn z), ev, v] w fun e w' => e = .returned (.bool true) ∧ Below w.heap.size w w' := by
  obtain ⟨A, c, rfl, s, q⟩ := hv
  have HV := Lib.hid (fun W (h : Below w.heap.size w W) => (⟨A, c, rfl, s.keep h, q⟩ : NumAt W (.agg #[.bool (decide (z < 0)), .slice A (digs z.natAbs).length c]) z))
  have HFit := Lib.hid (fun W (h : Below w.heap.size w W) => NumFits_any _ z W (HV.out W h) hf)
  have hbx := bel_al (Below.refl w.heap.size w) (.cells #[.bool (decide (z < 0)), .slice A (digs z.natAbs).length c] 67)
  have HBX := Lib.hid hbx
  have HE := Lib.hid hev
  have HG := Lib.hid hg
  have hk := Blk.new w 67 #[.bool (decide (z < 0)), .slice A (digs z.natAbs).length c]
  have HK := Lib.hid hk
  clear s q hbx hev hk hg
  rw [show decide (-9223372036854775808 ≤ z ∧ z ≤ 9223372036854775807) = fitB z from rfl] at HFit
  by_cases hfz : fitB z = true
  · rw [te_fit hfz] at HE
    obtain rfl : ev = .nilIface := HE.out
    have HT := Lib.hid (tn_fit hfz)
    have hr := fitB_iff.1 hfz
    rw [hfz] at HFit
    rw [HT.out]
    clear hfz HE HT
    have HSame := Lib.hid (fun W (v1 : Value) (h : Below w.heap.size w W) (h1 : NumAt W v1 z) => NumSame_any v1 _ z z W h1 (HV.out W h) hf hf)
    rw [show decide (z = z) = true by simp] at HSame
    obtain ⟨n, hn⟩ : ∃ n, n = (digs z.natAbs).length := ⟨_, rfl⟩
    rw [← hn] at HFit HK HBX HSame ⊢
    obtain ⟨b, hb⟩ : ∃ b, b = decide (z < 0) := ⟨_, rfl⟩
    rw [← hb] at HFit HK HBX HSame ⊢
    clear hn hb HV
    go_enter Tryd.func45, Tryd.ntmps45
    go_wp2_with fail
    refine (HFit.out _ HBX.out).mono ?_
    rintro e w1 ⟨rfl, hb1⟩
    have hk1 := HK.out.keep hb1
    have c0 := hk1.cell 0
    have c1 := hk1.cell 1
    simp at c0 c1
    have HB1 := Lib.hid (HBX.out.andThen hb1)
    have HK1 := Lib.hid hk1
    clear HFit hb1 HBX hk1 HK
    go_upto_region 3 with (fail)
    go_cut [6] from 17 to 24 (fun s wx => s = .bool true ∧ Below w1.heap.size w1 wx)
    case first =>
      go_region_with (first
        | (go_at_call 47; refine (Of_any z _ hr).mono ?_; rintro e w2 ⟨v2, rfl, hv2, hb2⟩; have HV2 := Lib.hid hv2; have hb3 := (bel_drewN (Below.refl w1.heap.size w1) 1).andThen hb2; have hk2 := HK1.out.keep hb3; have c0' := hk2.cell 0; have c1' := hk2.cell 1; simp at c0' c1'; have HB2 := Lib.hid hb3; clear hv2 hk2 hb2 hb3)
        | (go_at_call 77; refine (HSame.out _ _ (HB1.out.andThen HB2.out) HV2.out).mono ?_; rintro e w3 ⟨rfl, hb3⟩))
      all_goals (go_wp2_with fail; go_meet)
      all_goals exact ⟨rfl, HB2.out.andThen hb3⟩
    case rest =>
    obtain ⟨rfl, hb2⟩ := hcut
    go_wp2_with fail
    go_ret
    exact ⟨rfl, HB1.out.andThen hb2⟩
  · have hfz' : fitB z = false := by simpa using hfz
    rw [te_not hfz'] at HE
    have HT := Lib.hid (tn_not hfz')
    rw [hfz'] at HFit
    rw [HT.out]
    clear hfz hfz' HT HV HK
    generalize (digs z.natAbs).length = n at *
    generalize decide (z < 0) = b at *
    go_enter Tryd.func45, Tryd.ntmps45
    go_wp2_with fail
    refine (HFit.out _ HBX.out).mono ?_
    rintro e w1 ⟨rfl, hb1⟩
    have HB1 := Lib.hid (HBX.out.andThen hb1)
    clear HFit hb1 HBX
    go_wp2_with fail
    refine (Code_any _ ev w1 (HE.out.keep HB1.out) (HG.out.keep HB1.out)).mono ?_
    rintro e w2 ⟨rfl, hb2⟩
    rw [show (Err.flt 7 0 t).code = 7 from rfl]
    have HB2 := Lib.hid (HB1.out.andThen hb2)
    clear hb2
    go_wp2_with fail
    go_ret
    exact ⟨rfl, HB2.out⟩
end Go.Proofs.YtclbbchljiagpaaDoor
