/-
  The document's numbers: Add (printed by gen_numf.py).
-/
import Derived.Test.YtclbbchljiagpaaDoorNumE
import Derived.Deep.DeepCutAuto
namespace Go.Proofs.YtclbbchljiagpaaDoor
open Go.RowKit
set_option maxRecDepth 100000
set_option linter.unusedVariables false

theorem sub_step {X Y L P xi yi bo bo' d : Nat} (h : X + P * bo = L + Y) (e : xi + 32768 * bo' = d + yi + bo) : X + P * xi + P * 32768 * bo' = L + P * d + (Y + P * yi) := by
  have h1 : P * (xi + 32768 * bo') = P * (d + yi + bo) := by rw [e]
  rw [Nat.mul_add, Nat.mul_add, Nat.mul_add, ← Nat.mul_assoc] at h1
  omega
theorem add_step {X Y L P xi yi ca ca' d : Nat} (h : X + Y = L + P * ca) (e : xi + yi + ca = d + 32768 * ca') : X + P * xi + (Y + P * yi) = L + P * d + P * 32768 * ca' := by
  have h1 : P * (xi + yi + ca) = P * (d + 32768 * ca') := by rw [e]
  rw [Nat.mul_add, Nat.mul_add, Nat.mul_add, ← Nat.mul_assoc] at h1
  omega
theorem take_all {l : List Nat} {k : Nat} (h : l.length ≤ k) : l.take k = l := List.take_of_length_le h
/-- How far a carry goes. -/
theorem carry_far {x y l : List Nat} {i ca : Nat} (hx : Dig x) (hy : Dig y) (h : valD (x.take i) + valD (y.take i) = valD l + 32768 ^ i * ca) (hc : 0 < ca) (h1 : x.length ≤ i) (h2 : y.length ≤ i) : i ≤ x.length + y.length := by
  rw [take_all h1, take_all h2] at h
  have e1 := valD_lt hx
  have e2 := valD_lt hy
  refine Nat.le_of_not_lt fun hlt => ?_
  have p1 : (32768 : Nat) ^ x.length ≤ 32768 ^ (x.length + y.length) := pow_mono (by omega)
  have p2 : (32768 : Nat) ^ y.length ≤ 32768 ^ (x.length + y.length) := pow_mono (by omega)
  have p3 : (32768 : Nat) ^ (x.length + y.length + 1) ≤ 32768 ^ i := pow_mono (by omega)
  rw [Nat.pow_succ] at p3
  have p4 : 32768 ^ i * 1 ≤ 32768 ^ i * ca := Nat.mul_le_mul_left _ hc
  omega


set_option maxHeartbeats 8000000 in
theorem RefAdd_sub (v1 v2 : Value) (z1 z2 : Int) (w : World) (h1 : NumAt w v1 z1) (h2 : NumAt w v2 z2) (f1 : Few z1) (f2 : Few z2) (hs : decide (z1 < 0) ≠ decide (z2 < 0)) :
    Calls Tryd.prog 46 #[v1, v2] w fun e w' => ∃ v, e = .returned v ∧ NumAt w' v (z1 + z2) ∧ NewNum w w' v ∧ Below w.heap.size w w' := by
  obtain ⟨A1, c1, rfl, s1, q1⟩ := h1
  obtain ⟨A2, c2, rfl, s2, q2⟩ := h2
  have HL := Lib.hid (fun W (h : Below w.heap.size w W) => lessAbs z1.natAbs z2.natAbs A1 c1 A2 c2 W f1 f2 (s1.keep h) (s2.keep h))
  have HS1 := Lib.hid s1
  have HS2 := Lib.hid s2
  have HQ1 := Lib.hid q1
  have HQ2 := Lib.hid q2
  have HF1 := Lib.hid f1
  have HF2 := Lib.hid f2
  have HSg := Lib.hid hs
  have hsb : (decide (z1 < 0) == decide (z2 < 0)) = false := by simpa using hs
  clear s1 s2 f1 f2 hs q1 q2
  obtain ⟨B1, hB1⟩ : ∃ B1, B1 = decide (z1 < 0) := ⟨_, rfl⟩
  obtain ⟨B2, hB2⟩ : ∃ B2, B2 = decide (z2 < 0) := ⟨_, rfl⟩
  obtain ⟨n1, hn1⟩ : ∃ n1, n1 = (digs z1.natAbs).length := ⟨_, rfl⟩
  obtain ⟨n2, hn2⟩ : ∃ n2, n2 = (digs z2.natAbs).length := ⟨_, rfl⟩
  rw [← hn1] at HS1 HL HQ1 ⊢
  rw [← hn2] at HS2 HL HQ2 ⊢
  rw [← hB1, ← hB2] at hsb
  rw [← hB1, ← hB2]
  have HN1 := Lib.hid hn1
  have HN2 := Lib.hid hn2
  have HB1 := Lib.hid hB1
  have HB2 := Lib.hid hB2
  clear hn1 hn2 hB1 hB2
  obtain ⟨lt, hlt⟩ : ∃ lt, lt = decide (z1.natAbs < z2.natAbs) := ⟨_, rfl⟩
  rw [← hlt] at HL
  have HLt := Lib.hid hlt
  clear hlt
  have hbb := bel_al (bel_al (bel_al (Below.refl w.heap.size w) (.cells #[.bool B1, .slice A1 n1 c1] 67)) (.cells #[.bool B2, .slice A2 n2 c2] 67)) (.cells #[.bool false, .slice none 0 0] 67)
  have HBB := Lib.hid hbb
  clear hbb
  go_enter Tryd.func46, Tryd.ntmps46
  go_wp2_with fail
  refine (HL.out _ HBB.out).mono ?_
  rintro e w1 ⟨rfl, hq⟩
  have hbq := drew_bel hq
  have k0 := (((Blk.new w 67 #[.bool B1, .slice A1 n1 c1]).alloc (.cells #[.bool B2, .slice A2 n2 c2] 67)).alloc (.cells #[.bool false, .slice none 0 0] 67)).keep hbq
  have k1 := ((Blk.new (w.alloc (.cells #[.bool B1, .slice A1 n1 c1] 67)) 67 #[.bool B2, .slice A2 n2 c2]).alloc (.cells #[.bool false, .slice none 0 0] 67)).keep hbq
  have k2 := (Blk.new ((w.alloc (.cells #[.bool B1, .slice A1 n1 c1] 67)).alloc (.cells #[.bool B2, .slice A2 n2 c2] 67)) 67 #[.bool false, .slice none 0 0]).keep hbq
  have hsz1 : w1.heap.size = w.heap.size + 3 := by obtain ⟨q, rfl⟩ := hq; simp
  simp only [World.size_alloc] at k1 k2
  have HW1 := Lib.hid (HBB.out.andThen hbq)
  have K0 := Lib.hid k0
  have K1 := Lib.hid k1
  have K2 := Lib.hid k2
  have HZ1 := Lib.hid hsz1
  clear hbq hq k0 k1 k2 HL hsz1 HBB
  go_upto_if 23 with (fail)
  go_cut [5] from 24 to 26 (fun _ wx => ∃ (zx zy : Int) (AX AY : Option Addr) (cx cy : Nat), zx + zy = z1 + z2 ∧ zy.natAbs ≤ zx.natAbs ∧ decide (zx < 0) ≠ decide (zy < 0) ∧ Few zx ∧ Few zy ∧ Blk wx w.heap.size 67 #[.bool (decide (zx < 0)), .slice AX (digs zx.natAbs).length cx] ∧ Blk wx (w.heap.size + 1) 67 #[.bool (decide (zy < 0)), .slice AY (digs zy.natAbs).length cy] ∧ Sl w 1 AX (digs zx.natAbs).length (cD (digs zx.natAbs)) ∧ Sl w 1 AY (digs zy.natAbs).length (cD (digs zy.natAbs)) ∧ Blk wx (w.heap.size + 1 + 1) 67 #[.bool false, .slice none 0 0] ∧ Below w.heap.size w wx)
  case first =>
    have hlc : lt = true ∨ lt = false := by cases lt <;> simp
    rcases hlc with rfl | rfl
    · have q00 := K0.out.cell 0
      have q01 := K0.out.cell 1
      have q10 := K1.out.cell 0
      have q11 := K1.out.cell 1
      have r00 := K0.out.frozen 0
      have r01 := K0.out.frozen 1
      have r10 := K1.out.frozen 0
      have r11 := K1.out.frozen 1
      have hsz1 := HZ1.out
      simp at q00 q01 q10 q11
      go_wp2_with fail
      go_meet
      have hle : z1.natAbs ≤ z2.natAbs := by have := HLt.out; have := of_decide_eq_true this.symm; omega
      have e0 := ((((K0.out.set_ 0 (.bool B2)).set_ 1 (.slice A2 n2 c2)).far (p := ⟨w.heap.size + 1, 0, none⟩) (by simp) (.bool B1)).far (p := ⟨w.heap.size + 1, 1, none⟩) (by simp) (.slice A1 n1 c1)).alloc (.cells #[.bool B1, .slice A1 n1 c1] 67)
      have e1 := ((((K1.out.far (p := ⟨w.heap.size, 0, none⟩) (by simp) (.bool B2)).far (p := ⟨w.heap.size, 1, none⟩) (by simp) (.slice A2 n2 c2)).set_ 0 (.bool B1)).set_ 1 (.slice A1 n1 c1)).alloc (.cells #[.bool B1, .slice A1 n1 c1] 67)
      have e2 := ((((K2.out.far (p := ⟨w.heap.size, 0, none⟩) (by simp; omega) (.bool B2)).far (p := ⟨w.heap.size, 1, none⟩) (by simp; omega) (.slice A2 n2 c2)).far (p := ⟨w.heap.size + 1, 0, none⟩) (by simp) (.bool B1)).far (p := ⟨w.heap.size + 1, 1, none⟩) (by simp) (.slice A1 n1 c1)).alloc (.cells #[.bool B1, .slice A1 n1 c1] 67)
      have e3 := bel_al ((((HW1.out.setCell (p := ⟨w.heap.size, 0, none⟩) (by simp) (.bool B2)).setCell (p := ⟨w.heap.size, 1, none⟩) (by simp) (.slice A2 n2 c2)).setCell (p := ⟨w.heap.size + 1, 0, none⟩) (by simp) (.bool B1)).setCell (p := ⟨w.heap.size + 1, 1, none⟩) (by simp) (.slice A1 n1 c1)) (.cells #[.bool B1, .slice A1 n1 c1] 67)
      simp at e0 e1
      refine ⟨z2, z1, A2, A1, c2, c1, Int.add_comm _ _, hle, fun h => HSg.out h.symm, HF2.out, HF1.out, ?_, ?_, ?_, ?_, e2, e3⟩
      · rw [← HB2.out, ← HN2.out]; exact e0
      · rw [← HB1.out, ← HN1.out]; exact e1
      · rw [← HN2.out]; exact HS2.out
      · rw [← HN1.out]; exact HS1.out
    · go_wp2_with fail
      go_meet
      have hle : z2.natAbs ≤ z1.natAbs := by have := HLt.out; have := of_decide_eq_false this.symm; omega
      refine ⟨z1, z2, A1, A2, c1, c2, rfl, hle, HSg.out, HF1.out, HF2.out, ?_, ?_, ?_, ?_, K2.out, HW1.out⟩
      · rw [← HB1.out, ← HN1.out]; exact K0.out
      · rw [← HB2.out, ← HN2.out]; exact K1.out
      · rw [← HN1.out]; exact HS1.out
      · rw [← HN2.out]; exact HS2.out
  case rest =>
  obtain ⟨zx, zy, AX, AY, cx, cy, hz, hle, hsg, fx, fy, hk0, hk1, hsx, hsy, hk2, hb⟩ := hcut
  have HZ := Lib.hid hz
  have HSX := Lib.hid hsx
  have HSY := Lib.hid hsy
  have HLE := Lib.hid hle
  clear HS1 HS2 HQ1 HQ2 HF1 HF2 HSg HN1 HN2 HB1 HB2 HLt HW1 K0 K1 K2 HZ1 hz hsx hsy hsb
  have hlen := digs_len_mono hle
  have hfx : (digs zx.natAbs).length ≤ 1000000 := fx
  have hfy : (digs zy.natAbs).length ≤ 1000000 := fy
  have HDX := Lib.hid (digs_nrm zx.natAbs).dig
  have HDY := Lib.hid (digs_nrm zy.natAbs).dig
  have HVX := Lib.hid (valD_digs zx.natAbs)
  have HVY := Lib.hid (valD_digs zy.natAbs)
  have HSg := Lib.hid (show ∀ d : Nat, d + zy.natAbs = zx.natAbs → decide (z1 + z2 < 0) = (decide (zx < 0) && decide (d ≠ 0)) ∧ (z1 + z2).natAbs = d from fun d hd => by
    rw [← HZ.out]
    by_cases p1 : zx < 0
    · have p2 : ¬ zy < 0 := fun p2 => hsg (by rw [decide_eq_true p1, decide_eq_true p2])
      refine ⟨?_, by omega⟩
      rw [Bool.eq_iff_iff]; simp; omega
    · have p2 : zy < 0 := by refine Classical.byContradiction fun p2 => hsg (by rw [decide_eq_false p1, decide_eq_false p2])
      refine ⟨?_, by omega⟩
      rw [Bool.eq_iff_iff]; simp; omega)
  clear hsg fx fy hle
  obtain ⟨nx, hnx⟩ : ∃ nx, nx = (digs zx.natAbs).length := ⟨_, rfl⟩
  obtain ⟨ny, hny⟩ : ∃ ny, ny = (digs zy.natAbs).length := ⟨_, rfl⟩
  rw [← hnx] at hfx HSX hk0 hlen
  rw [← hny] at hfy HSY hk1 hlen
  have HNX := Lib.hid hnx.symm
  have HNY := Lib.hid hny.symm
  clear hnx hny
  generalize digs zx.natAbs = lx at *
  generalize digs zy.natAbs = ly at *
  generalize hbx : decide (zx < 0) = bx at *
  generalize hby : decide (zy < 0) = by_ at *
  clear hby hbx
  have q00 := hk0.cell 0
  have q01 := hk0.cell 1
  simp at q00 q01
  obtain ⟨G, hG⟩ : ∃ G, G = wc.heap.size := ⟨_, rfl⟩
  have hlt0 := hk2.lt
  have K0 := Lib.hid hk0
  have K1 := Lib.hid hk1
  have K2 := Lib.hid hk2
  have HW := Lib.hid hb
  have HG := Lib.hid hG
  clear hk0 hk1 hk2 hb hG
  go_wp2_with fail
  go_loopw [7, 8] (fun bv iv wr => ∃ (i bo : Nat) (l : List Nat) (lv : Value), bv = .int .i64 (bo : Int) ∧ iv = .int .i64 (i : Int) ∧ i ≤ nx ∧ l.length = i ∧ Dig l ∧ bo ≤ 1 ∧ valD (lx.take i) + 32768 ^ i * bo = valD l + valD (ly.take i) ∧ Blk wr w.heap.size 67 #[.bool bx, .slice AX nx cx] ∧ Blk wr (w.heap.size + 1) 67 #[.bool by_, .slice AY ny cy] ∧ Blk wr (w.heap.size + 1 + 1) 67 #[.bool false, .slice none 0 0] ∧ Blk wr wc.heap.size 67 #[.bool bx, lv] ∧ wr.ownsRow (wc.heap.size + 1) 3 1 lv i (cD l) ∧ Below w.heap.size w wr) (fun _ iv _ => nx - (intOf iv).toNat)
  case atStart => exact ⟨0, 0, [], .slice none 0 0, rfl, rfl, Nat.zero_le _, rfl, Dig.nil, Nat.zero_le _, by simp [valD], K0.out.alloc _, K1.out.alloc _, K2.out.alloc _, Blk.new _ _ _, World.ownsRow_nil _ _ _ _, bel_al HW.out _⟩
  case round =>
    obtain ⟨i, bo, l, lv, rfl, rfl, hi, hl, hd, hbo, heq, hk0, hk1, hk2, hkO, hown, hb⟩ := hrel
    have HDl := Lib.hid hd
    have HE := Lib.hid heq
    have HLl := Lib.hid hl
    have HSXr := Lib.hid (HSX.out.keep hb)
    have HSYr := Lib.hid (HSY.out.keep hb)
    have c01 := hk0.cell 1
    have c11 := hk1.cell 1
    have d0 := hkO.cell 0
    have d1 := hkO.cell 1
    have g1 := hkO.frozen 1
    simp at c01 c11 d0 d1
    have J0 := Lib.hid hk0
    have J1 := Lib.hid hk1
    have J2 := Lib.hid hk2
    have JO := Lib.hid hkO
    have HO := Lib.hid hown
    have HBr := Lib.hid hb
    have hszr := hkO.lt
    clear hd heq hl hb hk0 hk1 hk2 hkO hown
    by_cases hlt : i < nx
    · obtain ⟨bb, ox, rfl, cxi⟩ := HSXr.out.dig HNX.out (i := i) hlt
      have hxl : i < lx.length := by rw [HNX.out]; exact hlt
      have hx9 : lx[i] < 32768 := HDX.out _ (List.getElem_mem hxl)
      have hy9 := atD_lt HDY.out i
      have HXe := Lib.hid (atD_get hxl)
      have HAT := Lib.hid (fun W (h : Below wr.heap.size wr W) => at_any ly AY ny cy i W HNY.out (by omega) (by omega) (HSYr.out.keep h))
      obtain ⟨yi, hyi⟩ : ∃ yi, atD ly i = yi := ⟨_, rfl⟩
      rw [hyi] at HAT hy9
      have HYe := Lib.hid hyi
      clear hyi
      generalize lx[i] = xi at *
      have hi0 : (0 : Int) ≤ (i : Int) := by omega
      have hin : (i : Int) < (nx : Int) := by omega
      by_cases hge : yi + bo ≤ xi
      · obtain ⟨d, hd⟩ : ∃ d : Nat, (xi : Int) - (yi : Int) - (bo : Int) = (d : Int) := ⟨xi - yi - bo, by omega⟩
        have hd9 : d < 32768 := by omega
        have hd0 : ¬ (d : Int) < 0 := by omega
        have HdE := Lib.hid (show xi + 32768 * 0 = d + yi + bo by omega)
        clear hge
        go_wp2_with fail
        go_quiet (first | (go_at_call 79; exact Calls.quiet_of (HAT.out _ (drew_bel ⟨_, rfl⟩))))
        obtain ⟨w2, hw2⟩ : ∃ w2, w2 = wr.drewN nq := ⟨_, rfl⟩
        rw [← hw2]
        have hbd := drew_bel ⟨nq, hw2⟩
        have HBd := Lib.hid hbd
        replace J0 := Lib.hid (J0.out.keep HBd.out)
        replace J1 := Lib.hid (J1.out.keep HBd.out)
        replace J2 := Lib.hid (J2.out.keep HBd.out)
        replace JO := Lib.hid (JO.out.keep HBd.out)
        replace HO := Lib.hid (own_below HO.out (fun g hg => (HO.out.lt g hg).2) HBd.out)
        replace HBr := Lib.hid (HBr.out.andThen HBd.out)
        clear hw2 hbd HBd d0 d1 c01 c11 g1 cxi HAT hszr HSXr HSYr
        have d0 := JO.out.cell 0
        have d1 := JO.out.cell 1
        have g1 := JO.out.frozen 1
        simp at d0 d1
        have hsz2 := JO.out.lt
        go_wp2_with (at_builtin; refine wpList_cat_lies elemInt _ _ rfl rfl (HO.out.alloc _) (by simp; omega) (Sl.newAt w2 _ _ 1 rfl) (by omega) rfl rfl (by simp [Value.oneCell']) (by unfold lim; omega) (by unfold lim; omega) ?_; intro g5 k5 w5 hown5 hgr; have hb5 := hgr.after_alloc.blkOwn JO.out HO.out (by decide); have hj0 := hgr.after_alloc.blkOwn J0.out HO.out (by decide); have hj1 := hgr.after_alloc.blkOwn J1.out HO.out (by decide); have hj2 := hgr.after_alloc.blkOwn J2.out HO.out (by decide); have e1 := hb5.cell 1; have h1 := hb5.frozen 1; simp at e1; have JO5 := Lib.hid hb5; have J05 := Lib.hid hj0; have J15 := Lib.hid hj1; have J25 := Lib.hid hj2; have HO5 := Lib.hid hown5; have HG5 := Lib.hid hgr.after_alloc; clear hb5 hj0 hj1 hj2 hown5 hgr)
        go_roundw
        case rel =>
          refine ⟨i + 1, 0, l ++ [d], .slice (some ⟨g5, 0, none⟩) (i + 1) k5, rfl, rfl, by omega, by rw [List.length_append, HLl.out]; rfl, HDl.out.snoc hd9, by omega, ?_, ?_, ?_, ?_, ?_, ?_, ?_⟩
          · rw [valD_take_succ, valD_take_succ, valD_snoc, HLl.out, HXe.out, HYe.out, Nat.pow_succ]
            exact sub_step HE.out HdE.out
          · exact J05.out.far (p := ⟨wc.heap.size, 1, none⟩) (by simp; omega) _
          · exact J15.out.far (p := ⟨wc.heap.size, 1, none⟩) (by simp; omega) _
          · exact J25.out.far (p := ⟨wc.heap.size, 1, none⟩) (by simp; omega) _
          · have := JO5.out.set_ 1 (.slice (some ⟨g5, 0, none⟩) (i + 1) k5)
            simpa using this
          · have := ownsRow_setCell_below HO5.out (a := ⟨wc.heap.size, 1, none⟩) (by simp) (.slice (some ⟨g5, 0, none⟩) (i + 1) k5)
            rw [cD_append]
            exact this
          · exact (HBr.out.trans (HG5.out.belowOwn HBr.out.size (own_mono HO.out (by omega)))).setCell (p := ⟨wc.heap.size, 1, none⟩) (by simp; omega) _
        case measure => simp [intOf]; omega
      · obtain ⟨d, hd⟩ : ∃ d : Nat, (xi : Int) - (yi : Int) - (bo : Int) + 32768 = (d : Int) := ⟨xi + 32768 - yi - bo, by omega⟩
        have hd9 : d < 32768 := by omega
        have hd0 : (xi : Int) - (yi : Int) - (bo : Int) < 0 := by omega
        have HdE := Lib.hid (show xi + 32768 * 1 = d + yi + bo by omega)
        clear hge
        go_wp2_with fail
        go_quiet (first | (go_at_call 79; exact Calls.quiet_of (HAT.out _ (drew_bel ⟨_, rfl⟩))))
        obtain ⟨w2, hw2⟩ : ∃ w2, w2 = wr.drewN nq := ⟨_, rfl⟩
        rw [← hw2]
        have hbd := drew_bel ⟨nq, hw2⟩
        have HBd := Lib.hid hbd
        replace J0 := Lib.hid (J0.out.keep HBd.out)
        replace J1 := Lib.hid (J1.out.keep HBd.out)
        replace J2 := Lib.hid (J2.out.keep HBd.out)
        replace JO := Lib.hid (JO.out.keep HBd.out)
        replace HO := Lib.hid (own_below HO.out (fun g hg => (HO.out.lt g hg).2) HBd.out)
        replace HBr := Lib.hid (HBr.out.andThen HBd.out)
        clear hw2 hbd HBd d0 d1 c01 c11 g1 cxi HAT hszr HSXr HSYr
        have d0 := JO.out.cell 0
        have d1 := JO.out.cell 1
        have g1 := JO.out.frozen 1
        simp at d0 d1
        have hsz2 := JO.out.lt
        go_wp2_with (at_builtin; refine wpList_cat_lies elemInt _ _ rfl rfl (HO.out.alloc _) (by simp; omega) (Sl.newAt w2 _ _ 1 rfl) (by omega) rfl rfl (by simp [Value.oneCell']) (by unfold lim; omega) (by unfold lim; omega) ?_; intro g5 k5 w5 hown5 hgr; have hb5 := hgr.after_alloc.blkOwn JO.out HO.out (by decide); have hj0 := hgr.after_alloc.blkOwn J0.out HO.out (by decide); have hj1 := hgr.after_alloc.blkOwn J1.out HO.out (by decide); have hj2 := hgr.after_alloc.blkOwn J2.out HO.out (by decide); have e1 := hb5.cell 1; have h1 := hb5.frozen 1; simp at e1; have JO5 := Lib.hid hb5; have J05 := Lib.hid hj0; have J15 := Lib.hid hj1; have J25 := Lib.hid hj2; have HO5 := Lib.hid hown5; have HG5 := Lib.hid hgr.after_alloc; clear hb5 hj0 hj1 hj2 hown5 hgr)
        go_roundw
        case rel =>
          refine ⟨i + 1, 1, l ++ [d], .slice (some ⟨g5, 0, none⟩) (i + 1) k5, rfl, rfl, by omega, by rw [List.length_append, HLl.out]; rfl, HDl.out.snoc hd9, by omega, ?_, ?_, ?_, ?_, ?_, ?_, ?_⟩
          · rw [valD_take_succ, valD_take_succ, valD_snoc, HLl.out, HXe.out, HYe.out, Nat.pow_succ]
            exact sub_step HE.out HdE.out
          · exact J05.out.far (p := ⟨wc.heap.size, 1, none⟩) (by simp; omega) _
          · exact J15.out.far (p := ⟨wc.heap.size, 1, none⟩) (by simp; omega) _
          · exact J25.out.far (p := ⟨wc.heap.size, 1, none⟩) (by simp; omega) _
          · have := JO5.out.set_ 1 (.slice (some ⟨g5, 0, none⟩) (i + 1) k5)
            simpa using this
          · have := ownsRow_setCell_below HO5.out (a := ⟨wc.heap.size, 1, none⟩) (by simp) (.slice (some ⟨g5, 0, none⟩) (i + 1) k5)
            rw [cD_append]
            exact this
          · exact (HBr.out.trans (HG5.out.belowOwn HBr.out.size (own_mono HO.out (by omega)))).setCell (p := ⟨wc.heap.size, 1, none⟩) (by simp; omega) _
        case measure => simp [intOf]; omega
    · obtain rfl : i = nx := by omega
      have hin : ¬ (i : Int) < (i : Int) := by omega
      obtain ⟨C, k, rfl, hsl⟩ := Sl.own HO.out
      have hcap := own_cap HO.out
      have HCap := Lib.hid hcap
      have HCn : ∀ x, C = some x → x.block ≠ w.heap.size + 1 + 1 := fun x hx => by subst hx; have := (HO.out.lt x.block rfl).1; omega
      have HCN := Lib.hid HCn
      have HCN2 := Lib.hid (show ∀ x : Addr, C = some x → w.heap.size ≤ x.block ∧ x.block < wr.heap.size from fun x hx => by subst hx; have := HO.out.lt x.block rfl; omega)
      have hEq := HE.out
      rw [take_all (Nat.le_of_eq HNX.out), take_all (by rw [HNY.out]; exact hlen), HVX.out, HVY.out] at hEq
      have hlv := valD_lt HDl.out
      rw [HLl.out] at hlv
      have hle := HLE.out
      have hb0 : bo = 0 := by
        rcases Nat.eq_zero_or_pos bo with h | h
        · exact h
        · have : 32768 ^ i * 1 ≤ 32768 ^ i * bo := Nat.mul_le_mul_left _ h
          omega
      rw [hb0, Nat.mul_zero] at hEq
      have hsgn := HSg.out (valD l) (by omega)
      have HSgn := Lib.hid hsgn
      have HT := Lib.hid (trim_any bx l C i k wr HDl.out HLl.out (by omega) hcap hsl)
      have m0 := J2.out.cell 0
      have m1 := J2.out.cell 1
      have t0 := J2.out.frozen 0
      have t1 := J2.out.frozen 1
      simp at m0 m1
      clear hsl hcap HCn hEq hlv hle hb0 hsgn HSXr HSYr
      go_wp2_with fail
      refine HT.out.mono ?_
      rintro e w3 ⟨rfl, hs3, hk3, hb3⟩
      have HS3 := Lib.hid hs3
      have HK3 := Lib.hid hk3
      have HB3 := Lib.hid (HBr.out.andThen hb3)
      have HSz := Lib.hid hb3.size
      have j2 := J2.out.keep hb3
      have m0' := j2.cell 0
      have m1' := j2.cell 1
      have t0' := j2.frozen 0
      have t1' := j2.frozen 1
      simp at m0' m1'
      have HF3 := Lib.hid (fun (u2 u3 : Value) => ((Below.refl w.heap.size w3).setCell (p := ⟨w.heap.size + 1 + 1, 0, none⟩) (by simp; omega) u2).setCell (p := ⟨w.heap.size + 1 + 1, 1, none⟩) (by simp; omega) u3)
      clear hs3 hk3 hb3 HT m0 m1 t0 t1 j2 d0 d1 g1
      go_wp2_with fail
      refine bodyPost_ret (v := .agg #[.bool (bx && decide (valD l ≠ 0)), .slice C (digs (valD l)).length k]) (by simp [results, Tryd.results46, go_sem, m0', m1']) rfl ?_
      refine ⟨_, rfl, ⟨C, k, ?_, ?_, ?_, HCap.out.2⟩, ?_, HB3.out.trans (HF3.out _ _)⟩
      · rw [HSgn.out.1, HSgn.out.2]
      · rw [HSgn.out.2]; exact (HS3.out.aside HCN.out).aside HCN.out
      · rw [HSgn.out.2]; exact HK3.out
      · intro b A n c hv x hx
        cases hv
        have h1 := HCN2.out x hx
        have h2 := HSz.out
        refine ⟨h1.1, ?_⟩
        simp only [World.size_setCell]
        omega

end Go.Proofs.YtclbbchljiagpaaDoor
