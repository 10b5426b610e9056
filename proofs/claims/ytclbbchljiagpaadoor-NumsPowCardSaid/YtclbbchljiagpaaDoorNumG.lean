/-
  The document's numbers: Add of one sign; Add (printed by gen_numg.py).
-/
import Derived.Test.YtclbbchljiagpaaDoorNumF
import Derived.Deep.RegionWith
namespace Go.Proofs.YtclbbchljiagpaaDoor
open Go.RowKit
set_option maxRecDepth 100000
set_option linter.unusedVariables false

set_option maxHeartbeats 8000000 in
theorem RefAdd_add (v1 v2 : Value) (z1 z2 : Int) (w : World) (h1 : NumAt w v1 z1) (h2 : NumAt w v2 z2) (f1 : Few z1) (f2 : Few z2) (hs : decide (z1 < 0) = decide (z2 < 0)) :
    Calls Tryd.prog 46 #[v1, v2] w fun e w' => ∃ v, e = .returned v ∧ NumAt w' v (z1 + z2) ∧ NewNum w w' v ∧ Below w.heap.size w w' := by
  obtain ⟨A1, c1, rfl, s1, q1⟩ := h1
  obtain ⟨A2, c2, rfl, s2, q2⟩ := h2
  have HSX := Lib.hid s1
  have HSY := Lib.hid s2
  have hfx : (digs z1.natAbs).length ≤ 1000000 := f1
  have hfy : (digs z2.natAbs).length ≤ 1000000 := f2
  have HDX := Lib.hid (digs_nrm z1.natAbs).dig
  have HDY := Lib.hid (digs_nrm z2.natAbs).dig
  have HVX := Lib.hid (valD_digs z1.natAbs)
  have HVY := Lib.hid (valD_digs z2.natAbs)
  have HSg := Lib.hid (show ∀ d : Nat, d = z1.natAbs + z2.natAbs → decide (z1 + z2 < 0) = (decide (z1 < 0) && decide (d ≠ 0)) ∧ (z1 + z2).natAbs = d from fun d hd => by
    by_cases p1 : z1 < 0
    · have p2 : z2 < 0 := by have := hs; rw [decide_eq_true p1] at this; exact of_decide_eq_true this.symm
      refine ⟨?_, by omega⟩
      rw [Bool.eq_iff_iff]; simp; omega
    · have p2 : ¬ z2 < 0 := by have := hs; rw [decide_eq_false p1] at this; exact of_decide_eq_false this.symm
      refine ⟨?_, by omega⟩
      rw [Bool.eq_iff_iff]; simp; omega)
  rw [← hs]
  clear s1 s2 q1 q2 f1 f2 hs
  obtain ⟨bx, hbx⟩ : ∃ bx, bx = decide (z1 < 0) := ⟨_, rfl⟩
  rw [← hbx] at HSg ⊢
  clear hbx
  obtain ⟨nx, hnx⟩ : ∃ nx, nx = (digs z1.natAbs).length := ⟨_, rfl⟩
  obtain ⟨ny, hny⟩ : ∃ ny, ny = (digs z2.natAbs).length := ⟨_, rfl⟩
  rw [← hnx] at hfx HSX ⊢
  rw [← hny] at hfy HSY ⊢
  have HNX := Lib.hid hnx.symm
  have HNY := Lib.hid hny.symm
  clear hnx hny
  generalize digs z1.natAbs = lx at *
  generalize digs z2.natAbs = ly at *
  have hbb : (bx == bx) = true := by simp
  have k0 := ((Blk.new w 67 #[.bool bx, .slice A1 nx c1]).alloc (.cells #[.bool bx, .slice A2 ny c2] 67)).alloc (.cells #[.bool false, .slice none 0 0] 67)
  have k1 := (Blk.new (w.alloc (.cells #[.bool bx, .slice A1 nx c1] 67)) 67 #[.bool bx, .slice A2 ny c2]).alloc (.cells #[.bool false, .slice none 0 0] 67)
  have k2 := Blk.new ((w.alloc (.cells #[.bool bx, .slice A1 nx c1] 67)).alloc (.cells #[.bool bx, .slice A2 ny c2] 67)) 67 #[.bool false, .slice none 0 0]
  have hbb4 := bel_al (bel_al (bel_al (bel_al (Below.refl w.heap.size w) (.cells #[.bool bx, .slice A1 nx c1] 67)) (.cells #[.bool bx, .slice A2 ny c2] 67)) (.cells #[.bool false, .slice none 0 0] 67)) (.cells #[.bool bx, .slice none 0 0] 67)
  simp only [World.size_alloc] at k1 k2
  have K0 := Lib.hid k0
  have K1 := Lib.hid k1
  have K2 := Lib.hid k2
  have HB4 := Lib.hid hbb4
  clear k0 k1 k2 hbb4
  go_enter Tryd.func46, Tryd.ntmps46
  go_wp2_with fail
  go_loopw [11, 12] (fun cv iv wr => ∃ (i ca : Nat) (l : List Nat) (lv : Value), cv = .int .i64 (ca : Int) ∧ iv = .int .i64 (i : Int) ∧ i ≤ nx + ny + 1 ∧ l.length = i ∧ Dig l ∧ ca ≤ 1 ∧ valD (lx.take i) + valD (ly.take i) = valD l + 32768 ^ i * ca ∧ Blk wr w.heap.size 67 #[.bool bx, .slice A1 nx c1] ∧ Blk wr (w.heap.size + 1) 67 #[.bool bx, .slice A2 ny c2] ∧ Blk wr (w.heap.size + 1 + 1) 67 #[.bool false, .slice none 0 0] ∧ Blk wr (w.heap.size + 1 + 1 + 1) 67 #[.bool bx, lv] ∧ wr.ownsRow (w.heap.size + 1 + 1 + 1 + 1) 3 1 lv i (cD l) ∧ Below w.heap.size w wr) (fun _ iv _ => nx + ny + 2 - (intOf iv).toNat)
  case atStart =>
    refine ⟨0, 0, [], .slice none 0 0, rfl, rfl, Nat.zero_le _, rfl, Dig.nil, Nat.zero_le _, by simp [valD], K0.out.alloc _, K1.out.alloc _, K2.out.alloc _, ?_, World.ownsRow_nil _ _ _ _, HB4.out⟩
    have := Blk.new (((w.alloc (.cells #[.bool bx, .slice A1 nx c1] 67)).alloc (.cells #[.bool bx, .slice A2 ny c2] 67)).alloc (.cells #[.bool false, .slice none 0 0] 67)) 67 #[.bool bx, .slice none 0 0]
    simpa using this
  case round =>
    obtain ⟨i, ca, l, lv, rfl, rfl, hi, hl, hd, hca, heq, hk0, hk1, hk2, hkO, hown, hb⟩ := hrel
    have HDl := Lib.hid hd
    have HE := Lib.hid heq
    have HLl := Lib.hid hl
    have HSXr := Lib.hid (HSX.out.keep hb)
    have HSYr := Lib.hid (HSY.out.keep hb)
    have c01 := hk0.cell 1
    have c11 := hk1.cell 1
    have d0 := hkO.cell 0
    have d1 := hkO.cell 1
    have g1 := hkO.frozen 1
    simp at c01 c11 d0 d1
    have J0 := Lib.hid hk0
    have J1 := Lib.hid hk1
    have J2 := Lib.hid hk2
    have JO := Lib.hid hkO
    have HO := Lib.hid hown
    have HBr := Lib.hid hb
    have hszr := hkO.lt
    clear hd heq hl hb hk0 hk1 hk2 hkO hown
    by_cases hgo : i < nx ∨ i < ny ∨ 0 < ca
    · have hi2 : i ≤ nx + ny := by
        rcases Nat.lt_or_ge i nx with h | h
        · omega
        · rcases Nat.lt_or_ge i ny with h' | h'
          · omega
          · have := carry_far HDX.out HDY.out HE.out (by omega) (by rw [HNX.out]; exact h) (by rw [HNY.out]; exact h')
            rw [HNX.out, HNY.out] at this
            exact this
      have hy9 := atD_lt HDY.out i
      have hx9 := atD_lt HDX.out i
      have HAT1 := Lib.hid (fun W (h : Below wr.heap.size wr W) => at_any lx A1 nx c1 i W HNX.out (by omega) (by omega) (HSXr.out.keep h))
      have HAT2 := Lib.hid (fun W (h : Below wr.heap.size wr W) => at_any ly A2 ny c2 i W HNY.out (by omega) (by omega) (HSYr.out.keep h))
      obtain ⟨xi, hxi⟩ : ∃ xi, atD lx i = xi := ⟨_, rfl⟩
      obtain ⟨yi, hyi⟩ : ∃ yi, atD ly i = yi := ⟨_, rfl⟩
      rw [hxi] at HAT1 hx9
      rw [hyi] at HAT2 hy9
      have HXe := Lib.hid hxi
      have HYe := Lib.hid hyi
      clear hxi hyi
      obtain ⟨d, hd⟩ : ∃ d : Nat, (xi : Int) + (yi : Int) + (ca : Int) = (d : Int) := ⟨xi + yi + ca, by omega⟩
      obtain ⟨r, hr⟩ : ∃ r : Nat, (d : Int) % 32768 = (r : Int) ∧ r = d % 32768 := ⟨d % 32768, by omega, rfl⟩
      obtain ⟨q, hq⟩ : ∃ q : Nat, (d : Int) / 32768 = (q : Int) ∧ q = d / 32768 := ⟨d / 32768, by omega, rfl⟩
      have hr1 := hr.1
      have hq1 := hq.1
      have hr9 : r < 32768 := by omega
      have hq9 : q ≤ 1 := by omega
      have HdE := Lib.hid (show xi + yi + ca = r + 32768 * q by omega)
      clear hr hq
      have hcs : ((i : Int) < (nx : Int)) ∨ (¬ (i : Int) < (nx : Int) ∧ (i : Int) < (ny : Int)) ∨ (¬ (i : Int) < (nx : Int) ∧ ¬ (i : Int) < (ny : Int) ∧ (0 : Int) < (ca : Int)) := by omega
      clear hgo
      rcases hcs with t1 | ⟨t1, t2⟩ | ⟨t1, t2, t3⟩
      · go_wp2_with fail
        go_quiet (first | (go_at_call_of 79 (Value.slice A1 nx c1); exact Calls.quiet_of (HAT1.out _ (drew_bel ⟨_, rfl⟩))) | (go_at_call_of 79 (Value.slice A2 ny c2); exact Calls.quiet_of (HAT2.out _ (drew_bel ⟨_, rfl⟩))))
        obtain ⟨w2, hw2⟩ : ∃ w2, w2 = wr.drewN nq := ⟨_, rfl⟩
        rw [← hw2]
        have hbd := drew_bel ⟨nq, hw2⟩
        have HBd := Lib.hid hbd
        replace J0 := Lib.hid (J0.out.keep HBd.out)
        replace J1 := Lib.hid (J1.out.keep HBd.out)
        replace J2 := Lib.hid (J2.out.keep HBd.out)
        replace JO := Lib.hid (JO.out.keep HBd.out)
        replace HO := Lib.hid (own_below HO.out (fun g hg => (HO.out.lt g hg).2) HBd.out)
        replace HBr := Lib.hid (HBr.out.andThen HBd.out)
        clear hw2 hbd HBd d0 d1 c01 c11 g1 HAT1 HAT2 hszr HSXr HSYr
        have d0 := JO.out.cell 0
        have d1 := JO.out.cell 1
        have g1 := JO.out.frozen 1
        simp at d0 d1
        have hsz2 := JO.out.lt
        go_wp2_with (at_builtin; refine wpList_cat_lies elemInt _ _ rfl rfl (HO.out.alloc _) (by simp; omega) (Sl.newAt w2 _ _ 1 rfl) (by omega) rfl rfl (by simp [Value.oneCell']) (by unfold lim; omega) (by unfold lim; omega) ?_; intro g5 k5 w5 hown5 hgr; have hb5 := hgr.after_alloc.blkOwn JO.out HO.out (by decide); have hj0 := hgr.after_alloc.blkOwn J0.out HO.out (by decide); have hj1 := hgr.after_alloc.blkOwn J1.out HO.out (by decide); have hj2 := hgr.after_alloc.blkOwn J2.out HO.out (by decide); have e1 := hb5.cell 1; have h1 := hb5.frozen 1; simp at e1; have JO5 := Lib.hid hb5; have J05 := Lib.hid hj0; have J15 := Lib.hid hj1; have J25 := Lib.hid hj2; have HO5 := Lib.hid hown5; have HG5 := Lib.hid hgr.after_alloc; clear hb5 hj0 hj1 hj2 hown5 hgr)
        go_roundw
        case rel =>
          refine ⟨i + 1, q, l ++ [r], .slice (some ⟨g5, 0, none⟩) (i + 1) k5, rfl, rfl, by omega, by rw [List.length_append, HLl.out]; rfl, HDl.out.snoc hr9, hq9, ?_, ?_, ?_, ?_, ?_, ?_, ?_⟩
          · rw [valD_take_succ, valD_take_succ, valD_snoc, HLl.out, HXe.out, HYe.out, Nat.pow_succ]
            exact add_step HE.out HdE.out
          · exact J05.out.far (p := ⟨w.heap.size + 1 + 1 + 1, 1, none⟩) (by show w.heap.size ≠ w.heap.size + 1 + 1 + 1; omega) _
          · exact J15.out.far (p := ⟨w.heap.size + 1 + 1 + 1, 1, none⟩) (by show w.heap.size + 1 ≠ w.heap.size + 1 + 1 + 1; omega) _
          · exact J25.out.far (p := ⟨w.heap.size + 1 + 1 + 1, 1, none⟩) (by show w.heap.size + 1 + 1 ≠ w.heap.size + 1 + 1 + 1; omega) _
          · have := JO5.out.set_ 1 (.slice (some ⟨g5, 0, none⟩) (i + 1) k5)
            simpa using this
          · have := ownsRow_setCell_below HO5.out (a := ⟨w.heap.size + 1 + 1 + 1, 1, none⟩) (by simp) (.slice (some ⟨g5, 0, none⟩) (i + 1) k5)
            rw [cD_append]
            exact this
          · exact (HBr.out.trans (HG5.out.belowOwn HBr.out.size (own_mono HO.out (by omega)))).setCell (p := ⟨w.heap.size + 1 + 1 + 1, 1, none⟩) (by show w.heap.size ≤ w.heap.size + 1 + 1 + 1; omega) _
        case measure => simp [intOf]; omega
      · go_wp2_with fail
        go_quiet (first | (go_at_call_of 79 (Value.slice A1 nx c1); exact Calls.quiet_of (HAT1.out _ (drew_bel ⟨_, rfl⟩))) | (go_at_call_of 79 (Value.slice A2 ny c2); exact Calls.quiet_of (HAT2.out _ (drew_bel ⟨_, rfl⟩))))
        obtain ⟨w2, hw2⟩ : ∃ w2, w2 = wr.drewN nq := ⟨_, rfl⟩
        rw [← hw2]
        have hbd := drew_bel ⟨nq, hw2⟩
        have HBd := Lib.hid hbd
        replace J0 := Lib.hid (J0.out.keep HBd.out)
        replace J1 := Lib.hid (J1.out.keep HBd.out)
        replace J2 := Lib.hid (J2.out.keep HBd.out)
        replace JO := Lib.hid (JO.out.keep HBd.out)
        replace HO := Lib.hid (own_below HO.out (fun g hg => (HO.out.lt g hg).2) HBd.out)
        replace HBr := Lib.hid (HBr.out.andThen HBd.out)
        clear hw2 hbd HBd d0 d1 c01 c11 g1 HAT1 HAT2 hszr HSXr HSYr
        have d0 := JO.out.cell 0
        have d1 := JO.out.cell 1
        have g1 := JO.out.frozen 1
        simp at d0 d1
        have hsz2 := JO.out.lt
        go_wp2_with (at_builtin; refine wpList_cat_lies elemInt _ _ rfl rfl (HO.out.alloc _) (by simp; omega) (Sl.newAt w2 _ _ 1 rfl) (by omega) rfl rfl (by simp [Value.oneCell']) (by unfold lim; omega) (by unfold lim; omega) ?_; intro g5 k5 w5 hown5 hgr; have hb5 := hgr.after_alloc.blkOwn JO.out HO.out (by decide); have hj0 := hgr.after_alloc.blkOwn J0.out HO.out (by decide); have hj1 := hgr.after_alloc.blkOwn J1.out HO.out (by decide); have hj2 := hgr.after_alloc.blkOwn J2.out HO.out (by decide); have e1 := hb5.cell 1; have h1 := hb5.frozen 1; simp at e1; have JO5 := Lib.hid hb5; have J05 := Lib.hid hj0; have J15 := Lib.hid hj1; have J25 := Lib.hid hj2; have HO5 := Lib.hid hown5; have HG5 := Lib.hid hgr.after_alloc; clear hb5 hj0 hj1 hj2 hown5 hgr)
        go_roundw
        case rel =>
          refine ⟨i + 1, q, l ++ [r], .slice (some ⟨g5, 0, none⟩) (i + 1) k5, rfl, rfl, by omega, by rw [List.length_append, HLl.out]; rfl, HDl.out.snoc hr9, hq9, ?_, ?_, ?_, ?_, ?_, ?_, ?_⟩
          · rw [valD_take_succ, valD_take_succ, valD_snoc, HLl.out, HXe.out, HYe.out, Nat.pow_succ]
            exact add_step HE.out HdE.out
          · exact J05.out.far (p := ⟨w.heap.size + 1 + 1 + 1, 1, none⟩) (by show w.heap.size ≠ w.heap.size + 1 + 1 + 1; omega) _
          · exact J15.out.far (p := ⟨w.heap.size + 1 + 1 + 1, 1, none⟩) (by show w.heap.size + 1 ≠ w.heap.size + 1 + 1 + 1; omega) _
          · exact J25.out.far (p := ⟨w.heap.size + 1 + 1 + 1, 1, none⟩) (by show w.heap.size + 1 + 1 ≠ w.heap.size + 1 + 1 + 1; omega) _
          · have := JO5.out.set_ 1 (.slice (some ⟨g5, 0, none⟩) (i + 1) k5)
            simpa using this
          · have := ownsRow_setCell_below HO5.out (a := ⟨w.heap.size + 1 + 1 + 1, 1, none⟩) (by simp) (.slice (some ⟨g5, 0, none⟩) (i + 1) k5)
            rw [cD_append]
            exact this
          · exact (HBr.out.trans (HG5.out.belowOwn HBr.out.size (own_mono HO.out (by omega)))).setCell (p := ⟨w.heap.size + 1 + 1 + 1, 1, none⟩) (by show w.heap.size ≤ w.heap.size + 1 + 1 + 1; omega) _
        case measure => simp [intOf]; omega
      · go_wp2_with fail
        go_quiet (first | (go_at_call_of 79 (Value.slice A1 nx c1); exact Calls.quiet_of (HAT1.out _ (drew_bel ⟨_, rfl⟩))) | (go_at_call_of 79 (Value.slice A2 ny c2); exact Calls.quiet_of (HAT2.out _ (drew_bel ⟨_, rfl⟩))))
        obtain ⟨w2, hw2⟩ : ∃ w2, w2 = wr.drewN nq := ⟨_, rfl⟩
        rw [← hw2]
        have hbd := drew_bel ⟨nq, hw2⟩
        have HBd := Lib.hid hbd
        replace J0 := Lib.hid (J0.out.keep HBd.out)
        replace J1 := Lib.hid (J1.out.keep HBd.out)
        replace J2 := Lib.hid (J2.out.keep HBd.out)
        replace JO := Lib.hid (JO.out.keep HBd.out)
        replace HO := Lib.hid (own_below HO.out (fun g hg => (HO.out.lt g hg).2) HBd.out)
        replace HBr := Lib.hid (HBr.out.andThen HBd.out)
        clear hw2 hbd HBd d0 d1 c01 c11 g1 HAT1 HAT2 hszr HSXr HSYr
        have d0 := JO.out.cell 0
        have d1 := JO.out.cell 1
        have g1 := JO.out.frozen 1
        simp at d0 d1
        have hsz2 := JO.out.lt
        go_wp2_with (at_builtin; refine wpList_cat_lies elemInt _ _ rfl rfl (HO.out.alloc _) (by simp; omega) (Sl.newAt w2 _ _ 1 rfl) (by omega) rfl rfl (by simp [Value.oneCell']) (by unfold lim; omega) (by unfold lim; omega) ?_; intro g5 k5 w5 hown5 hgr; have hb5 := hgr.after_alloc.blkOwn JO.out HO.out (by decide); have hj0 := hgr.after_alloc.blkOwn J0.out HO.out (by decide); have hj1 := hgr.after_alloc.blkOwn J1.out HO.out (by decide); have hj2 := hgr.after_alloc.blkOwn J2.out HO.out (by decide); have e1 := hb5.cell 1; have h1 := hb5.frozen 1; simp at e1; have JO5 := Lib.hid hb5; have J05 := Lib.hid hj0; have J15 := Lib.hid hj1; have J25 := Lib.hid hj2; have HO5 := Lib.hid hown5; have HG5 := Lib.hid hgr.after_alloc; clear hb5 hj0 hj1 hj2 hown5 hgr)
        go_roundw
        case rel =>
          refine ⟨i + 1, q, l ++ [r], .slice (some ⟨g5, 0, none⟩) (i + 1) k5, rfl, rfl, by omega, by rw [List.length_append, HLl.out]; rfl, HDl.out.snoc hr9, hq9, ?_, ?_, ?_, ?_, ?_, ?_, ?_⟩
          · rw [valD_take_succ, valD_take_succ, valD_snoc, HLl.out, HXe.out, HYe.out, Nat.pow_succ]
            exact add_step HE.out HdE.out
          · exact J05.out.far (p := ⟨w.heap.size + 1 + 1 + 1, 1, none⟩) (by show w.heap.size ≠ w.heap.size + 1 + 1 + 1; omega) _
          · exact J15.out.far (p := ⟨w.heap.size + 1 + 1 + 1, 1, none⟩) (by show w.heap.size + 1 ≠ w.heap.size + 1 + 1 + 1; omega) _
          · exact J25.out.far (p := ⟨w.heap.size + 1 + 1 + 1, 1, none⟩) (by show w.heap.size + 1 + 1 ≠ w.heap.size + 1 + 1 + 1; omega) _
          · have := JO5.out.set_ 1 (.slice (some ⟨g5, 0, none⟩) (i + 1) k5)
            simpa using this
          · have := ownsRow_setCell_below HO5.out (a := ⟨w.heap.size + 1 + 1 + 1, 1, none⟩) (by simp) (.slice (some ⟨g5, 0, none⟩) (i + 1) k5)
            rw [cD_append]
            exact this
          · exact (HBr.out.trans (HG5.out.belowOwn HBr.out.size (own_mono HO.out (by omega)))).setCell (p := ⟨w.heap.size + 1 + 1 + 1, 1, none⟩) (by show w.heap.size ≤ w.heap.size + 1 + 1 + 1; omega) _
        case measure => simp [intOf]; omega
    · have t1 : ¬ (i : Int) < (nx : Int) := by omega
      have t2 : ¬ (i : Int) < (ny : Int) := by omega
      have hc0 : ca = 0 := by omega
      subst hc0
      obtain ⟨C, k, rfl, hsl⟩ := Sl.own HO.out
      have hcap := own_cap HO.out
      have HCap := Lib.hid hcap
      have HCn : ∀ x, C = some x → x.block ≠ w.heap.size + 1 + 1 := fun x hx => by subst hx; have := (HO.out.lt x.block rfl).1; omega
      have HCN := Lib.hid HCn
      have HCN2 := Lib.hid (show ∀ x : Addr, C = some x → w.heap.size ≤ x.block ∧ x.block < wr.heap.size from fun x hx => by subst hx; have := HO.out.lt x.block rfl; omega)
      have hEq := HE.out
      rw [take_all (by rw [HNX.out]; omega), take_all (by rw [HNY.out]; omega), HVX.out, HVY.out, Nat.mul_zero, Nat.add_zero] at hEq
      have HSgn := Lib.hid (HSg.out (valD l) hEq.symm)
      have HT := Lib.hid (trim_any bx l C i k wr HDl.out HLl.out (by omega) hcap hsl)
      have m0 := J2.out.cell 0
      have m1 := J2.out.cell 1
      have u0 := J2.out.frozen 0
      have u1 := J2.out.frozen 1
      simp at m0 m1
      clear hsl hcap HCn hEq hgo HSXr HSYr
      go_wp2_with fail
      refine HT.out.mono ?_
      rintro e w3 ⟨rfl, hs3, hk3, hb3⟩
      have HS3 := Lib.hid hs3
      have HK3 := Lib.hid hk3
      have HB3 := Lib.hid (HBr.out.andThen hb3)
      have HSz := Lib.hid hb3.size
      have j2 := J2.out.keep hb3
      have m0' := j2.cell 0
      have m1' := j2.cell 1
      have t0' := j2.frozen 0
      have t1' := j2.frozen 1
      simp at m0' m1'
      have HF3 := Lib.hid (fun (u2 u3 : Value) => ((Below.refl w.heap.size w3).setCell (p := ⟨w.heap.size + 1 + 1, 0, none⟩) (by show w.heap.size ≤ w.heap.size + 1 + 1; omega) u2).setCell (p := ⟨w.heap.size + 1 + 1, 1, none⟩) (by show w.heap.size ≤ w.heap.size + 1 + 1; omega) u3)
      clear hs3 hk3 hb3 HT m0 m1 u0 u1 j2 d0 d1 g1
      go_wp2_with fail
      refine bodyPost_ret (v := .agg #[.bool (bx && decide (valD l ≠ 0)), .slice C (digs (valD l)).length k]) (by simp [results, Tryd.results46, go_sem, m0', m1']) rfl ?_
      refine ⟨_, rfl, ⟨C, k, ?_, ?_, ?_, HCap.out.2⟩, ?_, HB3.out.trans (HF3.out _ _)⟩
      · rw [HSgn.out.1, HSgn.out.2]
      · rw [HSgn.out.2]; exact (HS3.out.aside HCN.out).aside HCN.out
      · rw [HSgn.out.2]; exact HK3.out
      · intro b A n c hv x hx
        cases hv
        have h1 := HCN2.out x hx
        have h2 := HSz.out
        refine ⟨h1.1, ?_⟩
        simp only [World.size_setCell]
        omega

theorem RefAdd_new (v1 v2 : Value) (z1 z2 : Int) (w : World) (h1 : NumAt w v1 z1) (h2 : NumAt w v2 z2) (f1 : Few z1) (f2 : Few z2) :
    Calls Tryd.prog 46 #[v1, v2] w fun e w' => ∃ v, e = .returned v ∧ NumAt w' v (z1 + z2) ∧ NewNum w w' v ∧ Below w.heap.size w w' := by
  by_cases hs : decide (z1 < 0) = decide (z2 < 0)
  · exact RefAdd_add v1 v2 z1 z2 w h1 h2 f1 f2 hs
  · exact RefAdd_sub v1 v2 z1 z2 w h1 h2 f1 f2 hs
theorem RefAdd_any (v1 v2 : Value) (z1 z2 : Int) (w : World) (h1 : NumAt w v1 z1) (h2 : NumAt w v2 z2) (f1 : Few z1) (f2 : Few z2) :
    Calls Tryd.prog 46 #[v1, v2] w fun e w' => ∃ v, e = .returned v ∧ NumAt w' v (z1 + z2) ∧ Below w.heap.size w w' :=
  (RefAdd_new v1 v2 z1 z2 w h1 h2 f1 f2).mono fun _ _ ⟨v, h1, h2, _, h3⟩ => ⟨v, h1, h2, h3⟩
end Go.Proofs.YtclbbchljiagpaaDoor
