/-
  The document's numbers: Mul.
-/
import Derived.Test.YtclbbchljiagpaaDoorNumG
import Derived.Test.YtclbbchljiagpaaDoorWords2
import Derived.Test.YtclbbchljiagpaaDoorNumS
namespace Go.Proofs.YtclbbchljiagpaaDoor
open Go.RowKit
set_option maxRecDepth 100000
set_option linter.unusedVariables false

/-- One digit more of one row of the product. -/
theorem mul_step {V V' X T P Q a b ca r q o : Nat} (h : V + P * ca = X + a * Q * T) (hset : V' + P * o = V + P * r) (hd : o + a * b + ca = r + 32768 * q) {K : Nat} (hP : P = Q * K) : V' + P * 32768 * q = X + a * Q * (T + K * b) := by
  have h1 : P * (o + a * b + ca) = P * (r + 32768 * q) := by rw [hd]
  have h2 : P * (o + a * b + ca) = P * o + P * (a * b) + P * ca := by rw [Nat.mul_add, Nat.mul_add]
  have h3 : P * (r + 32768 * q) = P * r + P * 32768 * q := by rw [Nat.mul_add, ← Nat.mul_assoc]
  have h4 : a * Q * (T + K * b) = a * Q * T + P * (a * b) := by
    rw [Nat.mul_add, hP]
    congr 1
    rw [Nat.mul_assoc, Nat.mul_left_comm a Q, Nat.mul_assoc Q K, Nat.mul_left_comm a K b]
  rw [h4]
  omega
theorem mul_row {X P a b : Nat} : X * b + a * P * b = (X + P * a) * b := by
  rw [Nat.add_mul, Nat.mul_comm P a]
theorem mul_lt_pow {x y i m : Nat} (h1 : x < 32768 ^ (i + 1)) (h2 : y < 32768 ^ m) : x * y < 32768 ^ (i + m + 1) := by
  have h3 : x * y ≤ x * 32768 ^ m := Nat.mul_le_mul_left _ (Nat.le_of_lt h2)
  have h4 : x * 32768 ^ m < 32768 ^ (i + 1) * 32768 ^ m := Nat.mul_lt_mul_of_pos_right h1 (Nat.pow_pos (by omega))
  rw [← Nat.pow_add, show i + 1 + m = i + m + 1 by omega] at h4
  omega
theorem cD_zeros (n : Nat) : List.replicate n (Value.int .i64 0) = cD (List.replicate n 0) := by
  rw [cD, List.map_replicate]; rfl
theorem dig_zeros (n : Nat) : Dig (List.replicate n 0) := fun d hd => by
  have := (List.mem_replicate.1 hd).2
  omega
theorem cD_set (l : List Nat) (j x : Nat) : cD (l.set j x) = (cD l).set j (.int .i64 (x : Int)) := by
  rw [cD, cD, List.map_set]

set_option maxHeartbeats 8000000 in
theorem RefMul_any (v1 v2 : Value) (z1 z2 : Int) (w : World) (h1 : NumAt w v1 z1) (h2 : NumAt w v2 z2) (f1 : Few z1) (f2 : Few z2) :
    Calls Tryd.prog 48 #[v1, v2] w fun e w' => ∃ v, e = .returned v ∧ NumAt w' v (z1 * z2) ∧ Below w.heap.size w w' := by
  obtain ⟨A1, c1, rfl, s1, q1⟩ := h1
  obtain ⟨A2, c2, rfl, s2, q2⟩ := h2
  have HSX := Lib.hid s1
  have HSY := Lib.hid s2
  have hfx : (digs z1.natAbs).length ≤ 1000000 := f1
  have hfy : (digs z2.natAbs).length ≤ 1000000 := f2
  have HDX := Lib.hid (digs_nrm z1.natAbs).dig
  have HDY := Lib.hid (digs_nrm z2.natAbs).dig
  have HVX := Lib.hid (valD_digs z1.natAbs)
  have HVY := Lib.hid (valD_digs z2.natAbs)
  have HSg := Lib.hid (show decide (z1 * z2 < 0) = ((decide (z1 < 0) != decide (z2 < 0)) && decide (z1.natAbs * z2.natAbs ≠ 0)) ∧ (z1 * z2).natAbs = z1.natAbs * z2.natAbs from ⟨by
    have hp := prod_abs z1 z2
    have hz := Nat.zero_le (z1.natAbs * z2.natAbs)
    rw [← hp]
    generalize z1.natAbs * z2.natAbs = p at *
    cases hb : (decide (z1 < 0) != decide (z2 < 0))
    · simp
    · rw [Bool.eq_iff_iff]; simp; omega, Int.natAbs_mul _ _⟩)
  clear s1 s2 q1 q2 f1 f2
  obtain ⟨b1, hb1⟩ : ∃ b1, b1 = decide (z1 < 0) := ⟨_, rfl⟩
  obtain ⟨b2, hb2⟩ : ∃ b2, b2 = decide (z2 < 0) := ⟨_, rfl⟩
  rw [← hb1, ← hb2] at HSg ⊢
  clear hb1 hb2
  obtain ⟨nx, hnx⟩ : ∃ nx, nx = (digs z1.natAbs).length := ⟨_, rfl⟩
  obtain ⟨ny, hny⟩ : ∃ ny, ny = (digs z2.natAbs).length := ⟨_, rfl⟩
  rw [← hnx] at hfx HSX ⊢
  rw [← hny] at hfy HSY ⊢
  have HNX := Lib.hid hnx.symm
  have HNY := Lib.hid hny.symm
  clear hnx hny
  generalize digs z1.natAbs = lx at *
  generalize digs z2.natAbs = ly at *
  obtain ⟨N, hN⟩ : ∃ N : Nat, (nx : Int) + (ny : Int) + 1 = (N : Int) ∧ N = nx + ny + 1 := ⟨nx + ny + 1, by omega, rfl⟩
  have hN1 := hN.1
  have hN2 := hN.2
  have hmk := fun W => make_elem (P := Tryd.prog) elemInt rfl N (by omega) (by omega) W
  rw [← hN1] at hmk
  have k0 := ((Blk.new w 67 #[.bool b1, .slice A1 nx c1]).alloc (.cells #[.bool b2, .slice A2 ny c2] 67)).alloc (.cells #[.bool false, .slice none 0 0] 67)
  have k1 := (Blk.new (w.alloc (.cells #[.bool b1, .slice A1 nx c1] 67)) 67 #[.bool b2, .slice A2 ny c2]).alloc (.cells #[.bool false, .slice none 0 0] 67)
  have k2 := Blk.new ((w.alloc (.cells #[.bool b1, .slice A1 nx c1] 67)).alloc (.cells #[.bool b2, .slice A2 ny c2] 67)) 67 #[.bool false, .slice none 0 0]
  have hbb3 := bel_al (bel_al (bel_al (Below.refl w.heap.size w) (.cells #[.bool b1, .slice A1 nx c1] 67)) (.cells #[.bool b2, .slice A2 ny c2] 67)) (.cells #[.bool false, .slice none 0 0] 67)
  simp only [World.size_alloc] at k1 k2
  have K0 := Lib.hid k0
  have K1 := Lib.hid k1
  have K2 := Lib.hid k2
  have HB3 := Lib.hid hbb3
  have HN2 := Lib.hid hN2
  clear k0 k1 k2 hbb3 hN hN1 hN2
  go_enter Tryd.func48, Tryd.ntmps48
  go_upto_region 1 with (fail)
  go_cut [5] from 10 to 24 (fun p wx => ∃ g gb : Nat, p = .pointer (some ⟨g, 0, none⟩) ∧ g ≠ gb ∧ w.heap.size + 3 ≤ g ∧ w.heap.size + 3 ≤ gb ∧ Blk wx g 67 #[.bool (b1 != b2), .slice (some ⟨gb, 0, none⟩) N N] ∧ wx.ownsRow (w.heap.size + 3) 3 1 (.slice (some ⟨gb, 0, none⟩) N N) N (cD (List.replicate N 0)) ∧ Blk wx w.heap.size 67 #[.bool b1, .slice A1 nx c1] ∧ Blk wx (w.heap.size + 1) 67 #[.bool b2, .slice A2 ny c2] ∧ Blk wx (w.heap.size + 1 + 1) 67 #[.bool false, .slice none 0 0] ∧ Below w.heap.size w wx)
  case first =>
    go_region
    all_goals (go_wp2_with fail; go_meet)
    · refine ⟨w.heap.size + 1 + 1 + 1 + 1, w.heap.size + 1 + 1 + 1, rfl, by omega, by omega, by omega, ?_, ?_, (K0.out.alloc _).alloc _, (K1.out.alloc _).alloc _, (K2.out.alloc _).alloc _, bel_drewN (bel_al (bel_al HB3.out _) _) 1⟩
      · have := Blk.new ((((w.alloc (.cells #[.bool b1, .slice A1 nx c1] 67)).alloc (.cells #[.bool b2, .slice A2 ny c2] 67)).alloc (.cells #[.bool false, .slice none 0 0] 67)).alloc (.cells (Array.replicate N (.int .i64 0)) 3)) 67 #[.bool (b1 != b2), .slice (some ⟨w.heap.size + 1 + 1 + 1, 0, none⟩) N N]
        simp only [World.size_alloc] at this
        exact this
      · have := own_replicate (B := w.heap.size + 3) (e := 3) (((w.alloc (.cells #[.bool b1, .slice A1 nx c1] 67)).alloc (.cells #[.bool b2, .slice A2 ny c2] 67)).alloc (.cells #[.bool false, .slice none 0 0] 67)) N (.int .i64 0) (by simp) (by have := HN2.out; omega)
        simp only [World.size_alloc] at this
        rw [← cD_zeros]
        exact own_block (this.alloc _) (fun g hg => rfl)
    · refine ⟨w.heap.size + 1 + 1 + 1, w.heap.size + 1 + 1 + 1 + 1, rfl, by omega, by omega, by omega, ?_, ?_, (K0.out.alloc _).alloc _, (K1.out.alloc _).alloc _, (K2.out.alloc _).alloc _, bel_drewN (bel_al (bel_al HB3.out _) _) 1⟩
      · have := (Blk.new (((w.alloc (.cells #[.bool b1, .slice A1 nx c1] 67)).alloc (.cells #[.bool b2, .slice A2 ny c2] 67)).alloc (.cells #[.bool false, .slice none 0 0] 67)) 67 #[.bool (b1 != b2), .slice (some ⟨w.heap.size + 1 + 1 + 1 + 1, 0, none⟩) N N]).alloc (.cells (Array.replicate N (.int .i64 0)) 3)
        simp only [World.size_alloc] at this
        exact this
      · have := own_replicate (B := w.heap.size + 3) (e := 3) ((((w.alloc (.cells #[.bool b1, .slice A1 nx c1] 67)).alloc (.cells #[.bool b2, .slice A2 ny c2] 67)).alloc (.cells #[.bool false, .slice none 0 0] 67)).alloc (.cells #[.bool (b1 != b2), .slice (some ⟨w.heap.size + 1 + 1 + 1 + 1, 0, none⟩) N N] 67)) N (.int .i64 0) (by simp) (by have := HN2.out; omega)
        simp only [World.size_alloc] at this
        rw [← cD_zeros]
        exact own_block this (fun g hg => rfl)
  case rest =>
  obtain ⟨g, gb, rfl, hne, hg3, hgb3, hbO, hown, hb0, hb1, hb2, hb⟩ := hcut
  generalize hss : (b1 != b2) = s at *
  clear hss
  have KO := Lib.hid hbO
  have HOw := Lib.hid hown
  have Q0 := Lib.hid hb0
  have Q1 := Lib.hid hb1
  have Q2 := Lib.hid hb2
  have HW := Lib.hid hb
  have hN9 := HN2.out
  have HN9 := Lib.hid hN9
  have hNle : nx + ny + 1 ≤ N := by omega
  have hNle2 : N ≤ 2000001 := by omega
  clear hbO hown hb0 hb1 hb2 hb K0 K1 K2 HB3 hmk hN9
  go_wp2_with fail
  go_loopw [6] (fun iv wr => ∃ (i : Nat) (o : List Nat), iv = .int .i64 (i : Int) ∧ i ≤ nx ∧ o.length = N ∧ Dig o ∧ valD o = valD (lx.take i) * valD ly ∧ Blk wr g 67 #[.bool s, .slice (some ⟨gb, 0, none⟩) N N] ∧ wr.ownsRow (w.heap.size + 3) 3 1 (.slice (some ⟨gb, 0, none⟩) N N) N (cD o) ∧ Blk wr w.heap.size 67 #[.bool b1, .slice A1 nx c1] ∧ Blk wr (w.heap.size + 1) 67 #[.bool b2, .slice A2 ny c2] ∧ Blk wr (w.heap.size + 1 + 1) 67 #[.bool false, .slice none 0 0] ∧ Below w.heap.size w wr) (fun iv _ => nx - (intOf iv).toNat)
  case atStart => exact ⟨0, List.replicate N 0, rfl, Nat.zero_le _, List.length_replicate, dig_zeros N, by rw [valD_zeros]; simp [valD], KO.out, HOw.out, Q0.out, Q1.out, Q2.out, HW.out⟩
  case round =>
    obtain ⟨i, o, rfl, hi, hol, hod, hov, hbO, hown, hb0, hb1, hb2, hb⟩ := hrel
    clear KO HOw Q0 Q1 Q2 HW
    obtain ⟨wo, rfl⟩ : ∃ wo, wr = wo := ⟨_, rfl⟩
    have c01 := hb0.cell 1
    have d0 := hbO.cell 0
    have d1 := hbO.cell 1
    simp at c01 d0 d1
    have HOl := Lib.hid hol
    have HOd := Lib.hid hod
    have HOv := Lib.hid hov
    have JO := Lib.hid hbO
    have HO := Lib.hid hown
    have J0 := Lib.hid hb0
    have J1 := Lib.hid hb1
    have J2 := Lib.hid hb2
    have HBr := Lib.hid hb
    clear hol hod hov hbO hown hb0 hb1 hb2
    by_cases hlt : i < nx
    · obtain ⟨bb, ox, rfl, cx0⟩ := (HSX.out.keep HBr.out).dig HNX.out (i := i) hlt
      clear cx0 hb
      have hxl : i < lx.length := by rw [HNX.out]; exact hlt
      have hx9 : lx[i] < 32768 := HDX.out _ (List.getElem_mem hxl)
      have HXe := Lib.hid (atD_get hxl)
      have HCX := Lib.hid (cD_get (List.getElem?_eq_getElem hxl))
      generalize lx[i] = xi at *
      have hi0 : (0 : Int) ≤ (i : Int) := by omega
      have hin : (i : Int) < (nx : Int) := by omega
      have HLtX := Lib.hid (show ∀ (V ca : Nat), V + 32768 ^ (i + (ny + 1)) * ca = valD (lx.take i) * valD ly + xi * 32768 ^ i * valD (ly.take (ny + 1)) → ca = 0 from fun V ca h => by
        rw [take_all (l := ly) (by rw [HNY.out]; omega), mul_row, ← HXe.out, ← valD_take_succ] at h
        have h1 := valD_lt (HDX.out.take (i + 1))
        rw [List.length_take, HNX.out, Nat.min_eq_left (by omega)] at h1
        have h2 := valD_lt HDY.out
        rw [HNY.out] at h2
        have h3 := mul_lt_pow h1 h2
        rcases Nat.eq_zero_or_pos ca with h4 | h4
        · exact h4
        · have h5 : 32768 ^ (i + (ny + 1)) * 1 ≤ 32768 ^ (i + (ny + 1)) * ca := Nat.mul_le_mul_left _ h4
          rw [show i + (ny + 1) = i + ny + 1 by omega] at h h5
          omega)
      go_wp2_with fail
      go_loopw [7, 8] (fun cv kv wr => ∃ (k ca : Nat) (o' : List Nat), cv = .int .i64 (ca : Int) ∧ kv = .int .i64 (k : Int) ∧ k ≤ ny + 1 ∧ o'.length = N ∧ Dig o' ∧ ca ≤ 32767 ∧ valD o' + 32768 ^ (i + k) * ca = valD (lx.take i) * valD ly + xi * 32768 ^ i * valD (ly.take k) ∧ Blk wr g 67 #[.bool s, .slice (some ⟨gb, 0, none⟩) N N] ∧ wr.ownsRow (w.heap.size + 3) 3 1 (.slice (some ⟨gb, 0, none⟩) N N) N (cD o') ∧ Blk wr w.heap.size 67 #[.bool b1, .slice (some ⟨bb, ox, none⟩) nx c1] ∧ Blk wr (w.heap.size + 1) 67 #[.bool b2, .slice A2 ny c2] ∧ Blk wr (w.heap.size + 1 + 1) 67 #[.bool false, .slice none 0 0] ∧ Below w.heap.size w wr) (fun _ kv _ => ny + 2 - (intOf kv).toNat)
      case atStart => exact ⟨0, 0, o, rfl, rfl, Nat.zero_le _, HOl.out, HOd.out, Nat.zero_le _, by rw [HOv.out]; simp [valD], JO.out, HO.out, J0.out, J1.out, J2.out, HBr.out⟩
      case round =>
        obtain ⟨k, ca, o', rfl, rfl, hk, hol, hod, hca, heq, hbO, hown, hb0, hb1, hb2, hb⟩ := hrel
        clear JO HO J0 J1 J2 HBr HOl HOd HOv c01 d0 d1
        have HOl := Lib.hid hol
        have HOd := Lib.hid hod
        have HE := Lib.hid heq
        have c01 := hb0.cell 1
        have c11 := hb1.cell 1
        have d1 := hbO.cell 1
        simp at c01 c11 d1
        have JO := Lib.hid hbO
        have HO := Lib.hid hown
        have J0 := Lib.hid hb0
        have J1 := Lib.hid hb1
        have J2 := Lib.hid hb2
        have HBr := Lib.hid hb
        have cxi := (HSX.out.keep hb).again hlt HCX.out
        clear hol hod heq hbO hown hb0 hb1 hb2 hb
        by_cases hgo : k < ny ∨ 0 < ca
        · have hk2 : k ≤ ny := by
            rcases Nat.eq_or_lt_of_le hk with rfl | h
            · have := HLtX.out _ _ HE.out; omega
            · omega
          obtain ⟨j, hj⟩ : ∃ j, j = i + k := ⟨_, rfl⟩
          have hij : (i : Int) + (k : Int) = (j : Int) := by omega
          have hjN : j < N := by omega
          have hjN' : (j : Int) < (N : Int) := by omega
          have hj0 : (0 : Int) ≤ (j : Int) := by omega
          have hjo : j < o'.length := by rw [HOl.out]; exact hjN
          have oc := HO.out.cellAt j (by omega)
          rw [cD_get (List.getElem?_eq_getElem hjo)] at oc
          have ho9 : o'[j] < 32768 := HOd.out _ (List.getElem_mem hjo)
          obtain ⟨oj, hoj⟩ : ∃ oj, o'[j] = oj := ⟨_, rfl⟩
          rw [hoj] at oc ho9
          have HOj := Lib.hid hoj
          have hy9 := atD_lt HDY.out k
          have HAT := Lib.hid (fun W (h : Below wr.heap.size wr W) => at_any ly A2 ny c2 k W HNY.out (by omega) (by omega) ((HSY.out.keep HBr.out).keep h))
          obtain ⟨yi, hyi⟩ : ∃ yi, atD ly k = yi := ⟨_, rfl⟩
          rw [hyi] at HAT hy9
          have HYe := Lib.hid hyi
          obtain ⟨pr, hpr⟩ : ∃ pr : Nat, pr = xi * yi := ⟨_, rfl⟩
          have hp9 : pr ≤ 32767 * 32767 := by rw [hpr]; exact Nat.mul_le_mul (by omega) (by omega)
          have hprI : (xi : Int) * (yi : Int) = (pr : Int) := by rw [hpr, Int.natCast_mul]
          obtain ⟨d, hd⟩ : ∃ d : Nat, (oj : Int) + (pr : Int) + (ca : Int) = (d : Int) := ⟨oj + pr + ca, by omega⟩
          obtain ⟨r, hr⟩ : ∃ r : Nat, (d : Int) % 32768 = (r : Int) ∧ r = d % 32768 := ⟨d % 32768, by omega, rfl⟩
          obtain ⟨q, hq⟩ : ∃ q : Nat, (d : Int) / 32768 = (q : Int) ∧ q = d / 32768 := ⟨d / 32768, by omega, rfl⟩
          have hr1 := hr.1
          have hq1 := hq.1
          have hr9 : r < 32768 := by omega
          have hq9 : q ≤ 32767 := by omega
          have HdE := Lib.hid (show oj + xi * yi + ca = r + 32768 * q by rw [← hpr]; omega)
          have HJ := Lib.hid hj
          rw [show i + k = j from hj.symm] at HE
          have hjik : i + (k + 1) = j + 1 := by omega
          have HJK := Lib.hid hjik
          have hcs : ((k : Int) < (ny : Int)) ∨ (¬ (k : Int) < (ny : Int) ∧ (0 : Int) < (ca : Int)) := by omega
          clear hr hq hyi hoj hgo hpr hjik hj
          rcases hcs with t1 | ⟨t1, t2⟩
          · go_wp2_with fail
            go_quiet (first | (go_at_call 79; exact Calls.quiet_of (HAT.out _ (drew_bel ⟨_, rfl⟩))))
            obtain ⟨w2, hw2⟩ : ∃ w2, w2 = wr.drewN nq := ⟨_, rfl⟩
            rw [← hw2]
            have hbd := drew_bel ⟨nq, hw2⟩
            have HBd := Lib.hid hbd
            replace J0 := Lib.hid (J0.out.keep HBd.out)
            replace J1 := Lib.hid (J1.out.keep HBd.out)
            replace J2 := Lib.hid (J2.out.keep HBd.out)
            replace JO := Lib.hid (JO.out.keep HBd.out)
            replace HO := Lib.hid (own_below HO.out (fun g hg => (HO.out.lt g hg).2) HBd.out)
            replace HBr := Lib.hid (HBr.out.andThen HBd.out)
            clear hw2 hbd HBd c01 c11 d1 oc cxi HAT
            have d1 := JO.out.cell 1
            simp at d1
            have oc := HO.out.cellAt j (by omega)
            rw [cD_get (List.getElem?_eq_getElem hjo)] at oc
            have of_ := HO.out.frozenAt j
            have HSt := Lib.hid (HO.out.stored j (.int .i64 (r : Int)))
            have HBs := Lib.hid (HBr.out.setCell (p := ⟨gb, j, none⟩) (by show w.heap.size ≤ gb; omega) (.int .i64 (r : Int)))
            go_wp2_with fail
            go_roundw
            case rel =>
              refine ⟨k + 1, q, o'.set j r, rfl, rfl, by omega, by rw [List.length_set]; exact HOl.out, HOd.out.set j hr9, hq9, ?_, ?_, ?_, ?_, ?_, ?_, HBs.out⟩
              · rw [valD_take_succ, HYe.out, show i + (k + 1) = j + 1 by omega, Nat.pow_succ]
                exact mul_step HE.out (by have := valD_set o' j r hjo; rw [HOj.out] at this; exact this) HdE.out (by rw [HJ.out, Nat.pow_add])
              · exact JO.out.far (p := ⟨gb, j, none⟩) hne _
              · rw [cD_set]; exact HSt.out.1
              · exact J0.out.far (p := ⟨gb, j, none⟩) (by show w.heap.size ≠ gb; omega) _
              · exact J1.out.far (p := ⟨gb, j, none⟩) (by show w.heap.size + 1 ≠ gb; omega) _
              · exact J2.out.far (p := ⟨gb, j, none⟩) (by show w.heap.size + 1 + 1 ≠ gb; omega) _
            case measure => simp [intOf]; omega
          · go_wp2_with fail
            go_quiet (first | (go_at_call 79; exact Calls.quiet_of (HAT.out _ (drew_bel ⟨_, rfl⟩))))
            obtain ⟨w2, hw2⟩ : ∃ w2, w2 = wr.drewN nq := ⟨_, rfl⟩
            rw [← hw2]
            have hbd := drew_bel ⟨nq, hw2⟩
            have HBd := Lib.hid hbd
            replace J0 := Lib.hid (J0.out.keep HBd.out)
            replace J1 := Lib.hid (J1.out.keep HBd.out)
            replace J2 := Lib.hid (J2.out.keep HBd.out)
            replace JO := Lib.hid (JO.out.keep HBd.out)
            replace HO := Lib.hid (own_below HO.out (fun g hg => (HO.out.lt g hg).2) HBd.out)
            replace HBr := Lib.hid (HBr.out.andThen HBd.out)
            clear hw2 hbd HBd c01 c11 d1 oc cxi HAT
            have d1 := JO.out.cell 1
            simp at d1
            have oc := HO.out.cellAt j (by omega)
            rw [cD_get (List.getElem?_eq_getElem hjo)] at oc
            have of_ := HO.out.frozenAt j
            have HSt := Lib.hid (HO.out.stored j (.int .i64 (r : Int)))
            have HBs := Lib.hid (HBr.out.setCell (p := ⟨gb, j, none⟩) (by show w.heap.size ≤ gb; omega) (.int .i64 (r : Int)))
            go_wp2_with fail
            go_roundw
            case rel =>
              refine ⟨k + 1, q, o'.set j r, rfl, rfl, by omega, by rw [List.length_set]; exact HOl.out, HOd.out.set j hr9, hq9, ?_, ?_, ?_, ?_, ?_, ?_, HBs.out⟩
              · rw [valD_take_succ, HYe.out, show i + (k + 1) = j + 1 by omega, Nat.pow_succ]
                exact mul_step HE.out (by have := valD_set o' j r hjo; rw [HOj.out] at this; exact this) HdE.out (by rw [HJ.out, Nat.pow_add])
              · exact JO.out.far (p := ⟨gb, j, none⟩) hne _
              · rw [cD_set]; exact HSt.out.1
              · exact J0.out.far (p := ⟨gb, j, none⟩) (by show w.heap.size ≠ gb; omega) _
              · exact J1.out.far (p := ⟨gb, j, none⟩) (by show w.heap.size + 1 ≠ gb; omega) _
              · exact J2.out.far (p := ⟨gb, j, none⟩) (by show w.heap.size + 1 + 1 ≠ gb; omega) _
            case measure => simp [intOf]; omega
        · have t1 : ¬ (k : Int) < (ny : Int) := by omega
          have hc0 : ca = 0 := by omega
          subst hc0
          have HV := Lib.hid (show valD o' = valD (lx.take (i + 1)) * valD ly by
            have h := HE.out
            rw [Nat.mul_zero, Nat.add_zero, take_all (l := ly) (by rw [HNY.out]; omega), mul_row, ← HXe.out, ← valD_take_succ] at h
            exact h)
          clear hgo cxi
          go_wp2_with fail
          go_roundw
          case rel => exact ⟨i + 1, o', rfl, by omega, HOl.out, HOd.out, HV.out, JO.out, HO.out, J0.out, J1.out, J2.out, HBr.out⟩
          case measure => simp [intOf]; omega
    · obtain rfl : i = nx := by omega
      have hin : ¬ (i : Int) < (i : Int) := by omega
      have hcap := own_cap HO.out
      have HCap := Lib.hid hcap
      have hEq := HOv.out
      rw [take_all (Nat.le_of_eq HNX.out), HVX.out, HVY.out] at hEq
      have hsg := HSg.out
      rw [← hEq] at hsg
      have HSgn := Lib.hid hsg
      have HT := Lib.hid (trim_any s o (some ⟨gb, 0, none⟩) N N wr HOd.out HOl.out (by omega) hcap (Sl.of_own HO.out))
      have HCN := Lib.hid (show ∀ x : Addr, (some ⟨gb, 0, none⟩ : Option Addr) = some x → x.block ≠ w.heap.size + 1 + 1 from fun x hx => by cases hx; show gb ≠ w.heap.size + 1 + 1; omega)
      clear hcap hEq hsg hb
      go_wp2_with fail
      refine HT.out.mono ?_
      rintro e w3 ⟨rfl, hs3, hk3, hb3⟩
      have HS3 := Lib.hid hs3
      have HK3 := Lib.hid hk3
      have HB3 := Lib.hid (HBr.out.andThen hb3)
      have j2 := J2.out.keep hb3
      have m0' := j2.cell 0
      have m1' := j2.cell 1
      have t0' := j2.frozen 0
      have t1' := j2.frozen 1
      simp at m0' m1'
      have HF3 := Lib.hid (fun (u2 u3 : Value) => ((Below.refl w.heap.size w3).setCell (p := ⟨w.heap.size + 1 + 1, 0, none⟩) (by show w.heap.size ≤ w.heap.size + 1 + 1; omega) u2).setCell (p := ⟨w.heap.size + 1 + 1, 1, none⟩) (by show w.heap.size ≤ w.heap.size + 1 + 1; omega) u3)
      clear hs3 hk3 hb3 HT j2 d0 d1 c01
      go_wp2_with fail
      refine bodyPost_ret (v := .agg #[.bool (s && decide (valD o ≠ 0)), .slice (some ⟨gb, 0, none⟩) (digs (valD o)).length N]) (by simp [results, Tryd.results48, go_sem, m0', m1']) rfl ?_
      refine ⟨_, rfl, ⟨some ⟨gb, 0, none⟩, N, ?_, ?_, ?_, HCap.out.2⟩, HB3.out.trans (HF3.out _ _)⟩
      · rw [HSgn.out.1, HSgn.out.2]
      · rw [HSgn.out.2]; exact (HS3.out.aside HCN.out).aside HCN.out
      · rw [HSgn.out.2]; exact HK3.out
end Go.Proofs.YtclbbchljiagpaaDoor
