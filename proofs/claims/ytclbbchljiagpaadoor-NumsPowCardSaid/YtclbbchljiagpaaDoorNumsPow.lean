/-
  NumsPow: the walk (printed by gen_numspow.py).
-/
import Derived.Test.YtclbbchljiagpaaDoorNumQ
import Derived.Deep.DeepCutAuto
namespace Go.Proofs.YtclbbchljiagpaaDoor
open Go.RowKit
set_option maxRecDepth 100000
set_option linter.unusedVariables false

theorem fit_small {a : Int} (h : a = 0 ∨ a = 1 ∨ a = -1) (n : Nat) : fitB (a ^ n) = true := by
  refine fitB_true ?_
  rcases h with rfl | rfl | rfl
  · rcases n with _ | n
    · simp
    · rw [Int.zero_pow (by omega)]; omega
  · rw [Int.one_pow]; omega
  · rw [neg_one_pow]; split <;> omega
theorem fit_great {a : Int} (h : 2 ≤ a.natAbs) {n : Nat} (hn : 64 ≤ n) : fitB (a ^ n) = false := by
  have h1 := two_pow_le h n
  have h2 : (2 : Nat) ^ 64 ≤ 2 ^ n := Nat.pow_le_pow_right (by omega) hn
  have h3 : (2 : Nat) ^ 64 = 18446744073709551616 := rfl
  exact fitB_false (by omega)
theorem pow_par {a : Int} (h : a = 0 ∨ a = 1 ∨ a = -1) {n m : Nat} (hp : n % 2 = m % 2) (hn : 0 < n) (hm : 0 < m) : a ^ n = a ^ m := by
  rcases h with rfl | rfl | rfl
  · rw [Int.zero_pow (by omega), Int.zero_pow (by omega)]
  · rw [Int.one_pow, Int.one_pow]
  · rw [neg_one_pow, neg_one_pow, hp]
/-- What is told of a power is told of what the document's loop ends with. -/
theorem pow_end {a : Int} {n T t : Nat} (hT : (n ≤ 70 ∧ T = n) ∨ (70 < n ∧ T = 70 + n % 2)) (ht : t ≤ T) (he : t = T ∨ fitB (a ^ t) = false) : tn (a ^ n) = tn (a ^ t) ∧ te txtPower (a ^ n) = te txtPower (a ^ t) := by
  have key : a ^ n = a ^ t ∨ (fitB (a ^ n) = false ∧ fitB (a ^ t) = false) := by
    by_cases hs : a = 0 ∨ a = 1 ∨ a = -1
    · left
      rcases he with rfl | he
      · rcases hT with ⟨_, rfl⟩ | ⟨h, rfl⟩
        · rfl
        · exact pow_par hs (by omega) (by omega) (by omega)
      · rw [fit_small hs] at he; cases he
    · have h2 : 2 ≤ a.natAbs := by omega
      rcases he with rfl | he
      · rcases hT with ⟨_, rfl⟩ | ⟨h, rfl⟩
        · exact .inl rfl
        · exact .inr ⟨fit_great h2 (by omega), fit_great h2 (by omega)⟩
      · rcases t with _ | t
        · rw [Int.pow_zero] at he; cases he
        · exact .inr ⟨pow_not_fit h2 (by omega) he, he⟩
  rcases key with h | ⟨h1, h2⟩
  · rw [h]; exact ⟨rfl, rfl⟩
  · rw [tn_not h1, tn_not h2, te_not h1, te_not h2]; exact ⟨rfl, rfl⟩
theorem few_step {a : Int} {t : Nat} (ha : -9223372036854775808 ≤ a ∧ a ≤ 9223372036854775807) (hf : fitB (a ^ t) = true) : Few (a ^ (t + 1)) := by
  have h32 : (32768 : Nat) ^ 9 = 43556142965880123323311949751266331066368 := by decide
  have h1 := fitB_iff.1 hf
  refine Few.of (k := 9) ?_ (by omega)
  rw [h32, Int.pow_succ, Int.natAbs_mul]
  have h := Nat.mul_le_mul (show (a ^ t).natAbs ≤ 9223372036854775808 by omega) (show a.natAbs ≤ 9223372036854775808 by omega)
  omega

set_option maxHeartbeats 16000000 in
theorem NumsPow_walkN (a n m k : Int) (w : World) (hg : ErrT w) (hn : n < 0) (hmr : -9223372036854775808 ≤ m ∧ m ≤ 9223372036854775807) (hkr : -9223372036854775808 ≤ k ∧ k ≤ 9223372036854775807) :
    Calls Tryd.prog 11 #[.int .i64 a, .int .i64 n, .int .i64 m, .int .i64 k] w fun e w' => e = .returned (.bool true) ∧ Below w.heap.size w w' := by
  go_enter Tryd.func11, Tryd.ntmps11
  go_wp2_with fail
  refine (alive02 w hg).mono ?_
  rintro e w1 ⟨rfl, hb1⟩
  have HB := Lib.hid hb1
  clear hb1
  go_wp2_with fail
  refine (NumsPow_neg a n w1 hn).mono ?_
  rintro e w2 ⟨ev, rfl, hev, hb1⟩
  have HE1 := Lib.hid hev
  replace HB := Lib.hid (HB.out.andThen hb1)
  clear hb1 hev
  go_wp2_with fail
  refine (Code_any _ ev w2 HE1.out (hg.keep HB.out)).mono ?_
  rintro e w3 ⟨rfl, hb1⟩
  rw [show (Err.flt 1 0 txtPower).code = 1 from rfl]
  replace HB := Lib.hid (HB.out.andThen hb1)
  clear hb1 HE1
  by_cases hneg : m < 0 ∨ k < 0
  · have HCh := Lib.hid (fun W => NumsChoose_neg m k W hneg)
    by_cases hm0 : m < 0
    · go_wp2_with fail
      refine (HCh.out _).mono ?_
      rintro e wa ⟨ev, rfl, hev, hb1⟩
      have HE2 := Lib.hid hev
      replace HB := Lib.hid (HB.out.andThen hb1)
      clear hev hb1 HCh hneg
      go_wp2_with fail
      refine (Code_any _ ev wa HE2.out (hg.keep HB.out)).mono ?_
      rintro e wb ⟨rfl, hb1⟩
      rw [show (Err.flt 1 0 txtChoice).code = 1 from rfl]
      replace HB := Lib.hid (HB.out.andThen hb1)
      clear hb1
      go_wp2_with fail
      go_ret
      exact ⟨rfl, HB.out⟩
    · have hk0 : k < 0 := by rcases hneg with h | h; exact absurd h hm0; exact h
      go_wp2_with fail
      refine (HCh.out _).mono ?_
      rintro e wa ⟨ev, rfl, hev, hb1⟩
      have HE2 := Lib.hid hev
      replace HB := Lib.hid (HB.out.andThen hb1)
      clear hev hb1 HCh hneg
      go_wp2_with fail
      refine (Code_any _ ev wa HE2.out (hg.keep HB.out)).mono ?_
      rintro e wb ⟨rfl, hb1⟩
      rw [show (Err.flt 1 0 txtChoice).code = 1 from rfl]
      replace HB := Lib.hid (HB.out.andThen hb1)
      clear hb1
      go_wp2_with fail
      go_ret
      exact ⟨rfl, HB.out⟩
  · obtain ⟨m', rfl⟩ := Int.eq_ofNat_of_zero_le (show 0 ≤ m by omega)
    obtain ⟨k', rfl⟩ := Int.eq_ofNat_of_zero_le (show 0 ≤ k by omega)
    have hm0 : ¬ (m' : Int) < 0 := by omega
    have hk0 : ¬ (k' : Int) < 0 := by omega
    have HCh := Lib.hid (fun W => NumsChoose_any m' k' W (by omega) (by omega))
    clear hneg
    by_cases hkm : m' < k'
    · rw [ch_out hkm, show tn ((0 : Nat) : Int) = 0 from rfl, show te txtChoice ((0 : Nat) : Int) = .nil from rfl] at HCh
      have hkm' : (m' : Int) < (k' : Int) := by omega
      go_wp2_with fail
      refine (HCh.out _).mono ?_
      rintro e wa ⟨ev, rfl, hev, hb1⟩
      obtain rfl : ev = .nilIface := hev
      replace HB := Lib.hid (HB.out.andThen hb1)
      clear hb1 HCh
      go_wp2_with fail
      go_ret
      exact ⟨rfl, HB.out⟩
    · have hkm' : ¬ (m' : Int) < (k' : Int) := by omega
      by_cases hm130 : 130 < m'
      · have hm130' : (130 : Int) < (m' : Int) := by omega
        go_wp2_with fail
        refine (HCh.out _).mono ?_
        rintro e wa ⟨ev, rfl, hev, hb1⟩
        replace HB := Lib.hid (HB.out.andThen hb1)
        clear hb1 hev HCh
        go_wp2_with fail
        go_ret
        exact ⟨rfl, HB.out⟩
      · have hm130' : ¬ (130 : Int) < (m' : Int) := by omega
        have HRef := Lib.hid (fun W => RefChoose_any m' k' W (by omega) (by omega))
        have HFw := Lib.hid (few_ch (n := m') (k := k') (by omega))
        generalize ((ch m' k' : Nat) : Int) = C at *
        go_wp2_with fail
        refine (HCh.out _).mono ?_
        rintro e wa ⟨ev, rfl, hev, hb1⟩
        have HE2 := Lib.hid hev
        replace HB := Lib.hid (HB.out.andThen hb1)
        clear hb1 hev HCh
        go_wp2_with fail
        refine (HRef.out _).mono ?_
        rintro e wb ⟨v, rfl, hv, hb1⟩
        have HV := Lib.hid hv
        replace HE2 := Lib.hid (HE2.out.keep hb1)
        replace HB := Lib.hid (HB.out.andThen hb1)
        clear hb1 hv HRef
        go_wp2_with fail
        refine (told_any C txtChoice ev v wb (hg.keep HB.out) HE2.out HV.out HFw.out).mono ?_
        rintro e wd ⟨rfl, hb1⟩
        replace HB := Lib.hid (HB.out.andThen hb1)
        clear hb1
        go_wp2_with fail
        go_ret
        exact ⟨rfl, HB.out⟩
set_option maxHeartbeats 16000000 in
theorem NumsPow_walkP (a : Int) (n T : Nat) (m k : Int) (w : World) (hg : ErrT w) (hn : n ≤ 9223372036854775807) (ha : -9223372036854775808 ≤ a ∧ a ≤ 9223372036854775807) (hmr : -9223372036854775808 ≤ m ∧ m ≤ 9223372036854775807) (hkr : -9223372036854775808 ≤ k ∧ k ≤ 9223372036854775807)
    (hT : (n ≤ 70 ∧ T = n) ∨ (70 < n ∧ T = 70 + n % 2)) :
    Calls Tryd.prog 11 #[.int .i64 a, .int .i64 (n : Int), .int .i64 m, .int .i64 k] w fun e w' => e = .returned (.bool true) ∧ Below w.heap.size w w' := by
  have HT := Lib.hid hT
  have hT9 : T ≤ 71 := by omega
  have HPw := Lib.hid (fun W => NumsPow_any a n W hn ha)
  clear hT
  go_enter Tryd.func11, Tryd.ntmps11
  go_wp2_with fail
  refine (alive02 w hg).mono ?_
  rintro e w1 ⟨rfl, hb1⟩
  have HB := Lib.hid hb1
  clear hb1
  go_wp2_with fail
  refine (HPw.out w1).mono ?_
  rintro e w2 ⟨ev, rfl, hev, hb1⟩
  have HE1 := Lib.hid hev
  replace HB := Lib.hid (HB.out.andThen hb1)
  clear hb1 hev HPw
  go_upto_if 35 with (fail)
  go_cut [11] from 36 to 38 (fun s wx => s = .int .i64 (T : Int) ∧ wx = w2)
  case first =>
    rcases HT.out with ⟨h1, h2⟩ | ⟨h1, h2⟩
    · have h1' : ¬ (70 : Int) < (n : Int) := by omega
      have H2 := Lib.hid h2
      clear h2
      go_wp2_with fail
      go_meet
      exact ⟨by rw [H2.out], rfl⟩
    · have h1' : (70 : Int) < (n : Int) := by omega
      obtain ⟨r, hr⟩ : ∃ r : Nat, (n : Int) % 2 = (r : Int) ∧ (70 : Int) + (r : Int) = (T : Int) := ⟨n % 2, by omega, by omega⟩
      have hr1 := hr.1
      have hr2 := hr.2
      have hr3 : r < 2 := by omega
      clear hr h2
      go_wp2_with fail
      go_meet
      exact ⟨rfl, rfl⟩
  case rest =>
  obtain ⟨rfl, rfl⟩ := hcut
  go_wp2_with fail
  refine (Of_any 1 _ (by omega)).mono ?_
  rintro e w3 ⟨v, rfl, hv, hb1⟩
  obtain ⟨D, d, rfl, hs, hq⟩ := hv
  have HIt := Lib.hid (show ItOK w3 (1, D, d) from ⟨hs, hq⟩)
  replace HE1 := Lib.hid (HE1.out.keep hb1)
  replace HB := Lib.hid (HB.out.andThen hb1)
  clear hs hq hb1
  go_wp2_with fail
  go_loopw [13] (fun iv wr => ∃ (t : Nat) (D : Option Addr) (d : Nat), t ≤ T ∧ iv = .int .i64 (t : Int) ∧ Blk wr w3.heap.size 67 #[.bool (decide (a ^ t < 0)), .slice D (digs (a ^ t).natAbs).length d] ∧ ItOK wr (a ^ t, D, d) ∧ Few (a ^ t) ∧ Below w3.heap.size w3 wr) (fun iv _ => T - (intOf iv).toNat)
  case atStart =>
    refine ⟨0, D, d, Nat.zero_le _, rfl, ?_, ?_, by rw [Int.pow_zero]; exact few_i64 (by omega), bel_al (Below.refl _ _) _⟩
    · rw [Int.pow_zero]; exact Blk.new _ _ _
    · rw [Int.pow_zero]; exact HIt.out.keep (bel_al (Below.refl _ _) _)
  case round =>
    obtain ⟨t, D, d, ht, rfl, hbk, hit, hfew, hb⟩ := hrel
    have HNxt := Lib.hid (fun hf : fitB (a ^ t) = true => few_step (t := t) ha hf)
    have HEnd := Lib.hid (fun he : t = T ∨ fitB (a ^ t) = false => pow_end HT.out ht he)
    have HSucc := Lib.hid (Int.pow_succ a t)
    obtain ⟨z, hz⟩ : ∃ z, z = a ^ t := ⟨_, rfl⟩
    rw [← hz] at hbk hit hfew HNxt HEnd HSucc
    have JG := Lib.hid hbk
    have HIt := Lib.hid hit
    have HFw := Lib.hid hfew
    have HBr := Lib.hid hb
    clear hbk hit hfew hb hz
    have HFit := Lib.hid (fun W (h : Below wr.heap.size wr W) => NumFits_any _ z W ((HIt.out.keep h).num) HFw.out)
    have HNum := Lib.hid (fun W (h : Below wr.heap.size wr W) => (HIt.out.keep h).num)
    simp only at HFit HNum
    rw [show decide (-9223372036854775808 ≤ z ∧ z ≤ 9223372036854775807) = fitB z from rfl] at HFit
    obtain ⟨nz, hnz⟩ : ∃ nz, nz = (digs z.natAbs).length := ⟨_, rfl⟩
    obtain ⟨bz, hbz⟩ : ∃ bz, bz = decide (z < 0) := ⟨_, rfl⟩
    rw [← hnz, ← hbz] at JG HFit HNum
    clear hnz hbz HIt
    have c0 := JG.out.cell 0
    have c1 := JG.out.cell 1
    simp at c0 c1
    go_upto_region 12 with (fail)
    go_cut [46] from 40 to 52 (fun s wx => s = .bool (decide (t < T) && fitB z) ∧ Below wr.heap.size wr wx)
    case first =>
      by_cases htT : t < T
      · have htT' : (t : Int) < (T : Int) := by omega
        go_wp2_with fail
        refine (HFit.out wr (Below.refl _ _)).mono ?_
        rintro e w4 ⟨rfl, hb4⟩
        go_wp2_with fail
        go_meet
        exact ⟨by rw [decide_eq_true htT, Bool.true_and], hb4⟩
      · have htT' : ¬ (t : Int) < (T : Int) := by omega
        go_wp2_with fail
        go_meet
        exact ⟨by rw [decide_eq_false htT]; rfl, Below.refl _ _⟩
    case rest =>
    obtain ⟨rfl, hb4⟩ := hcut
    replace JG := Lib.hid (JG.out.keep hb4)
    have HNc := Lib.hid (HNum.out wc hb4)
    replace HBr := Lib.hid (HBr.out.andThen hb4)
    replace HE1 := Lib.hid (HE1.out.keep HBr.out)
    replace HB := Lib.hid (HB.out.andThen HBr.out)
    clear hb4 HFit HNum c0 c1
    have c0 := JG.out.cell 0
    have c1 := JG.out.cell 1
    simp at c0 c1
    by_cases hgo : (decide (t < T) && fitB z) = true
    · rw [hgo]
      have htT : t < T := by simp at hgo; exact hgo.1
      have hfz : fitB z = true := by simp at hgo; exact hgo.2
      have HF2 := Lib.hid (HNxt.out hfz)
      clear hgo hfz HNxt HEnd
      rw [HSucc.out] at HF2
      go_wp2_with fail
      go_region_with (first
        | (go_at_call 47; refine (Of_any a _ ha).mono ?_; rintro e w5 ⟨v5, rfl, hv5, hb5⟩; have HV5 := Lib.hid hv5; have hb6 := (bel_drewN (Below.refl wc.heap.size wc) 1).andThen hb5; have hk5 := JG.out.keep hb6; have c0' := hk5.cell 0; have c1' := hk5.cell 1; simp at c0' c1'; have HB5 := Lib.hid hb6; clear hv5 hk5 hb5 hb6)
        | (go_at_call 48; refine (RefMul_any _ v5 z a w5 (HNc.out.keep HB5.out) HV5.out HFw.out (few_i64 ha)).mono ?_; rintro e w6 ⟨v6, rfl, hv6, hb6⟩; have hb7 := HB5.out.andThen hb6; have hk6 := JG.out.keep hb7; have e0' := hk6.cell 0; have e1' := hk6.cell 1; have f0' := hk6.frozen 0; have f1' := hk6.frozen 1; simp at e0' e1'; obtain ⟨D6, d6, rfl, hs6, hq6⟩ := hv6; have HB6 := Lib.hid hb7; have HK6 := Lib.hid hk6; have HS6 := Lib.hid hs6; have HQ6 := Lib.hid hq6; clear hb6 hb7 hk6 hs6 hq6))
      all_goals
        go_wp2_with fail
        go_roundw
        case rel =>
          have hk2 := (HK6.out.set_ 0 (.bool (decide (z * a < 0)))).set_ 1 (.slice D6 (digs (z * a).natAbs).length d6)
          simp at hk2
          have h1 := HK6.out.set_ 0 (.bool (decide (z * a < 0)))
          refine ⟨t + 1, D6, d6, by omega, rfl, ?_, ⟨?_, ?_⟩, ?_, ((HBr.out.andThen HB6.out).setCell (p := ⟨w3.heap.size, 0, none⟩) (Nat.le_refl _) _).setCell (p := ⟨w3.heap.size, 1, none⟩) (Nat.le_refl _) _⟩
          · rw [HSucc.out]; exact hk2
          · show Sl _ 1 D6 (digs (a ^ (t + 1)).natAbs).length (cD (digs (a ^ (t + 1)).natAbs))
            rw [HSucc.out]
            refine (HS6.out.asideD rfl HK6.out ?_ _).asideD rfl h1 ?_ _
            · intro j z h
              rcases j with _ | _ | j <;> simp at h
            · intro j z h
              rcases j with _ | _ | j <;> simp at h
          · show (digs (a ^ (t + 1)).natAbs).length ≤ d6 ∧ d6 ≤ 9223372036854775807
            rw [HSucc.out]; exact HQ6.out
          · rw [HSucc.out]; exact HF2.out
        case measure => simp [intOf]; omega
    · have hgo' : (decide (t < T) && fitB z) = false := by simpa using hgo
      rw [hgo']
      have hend := HEnd.out (by
        rcases Nat.lt_or_ge t T with h | h
        · right; rw [decide_eq_true h, Bool.true_and] at hgo'; exact hgo'
        · left; omega)
      have HEq := Lib.hid hend
      clear hgo hgo' hend HNxt HEnd
      have HTd := Lib.hid (told_any z txtPower ev _ wc (hg.keep HB.out) (by rw [← HEq.out.2]; exact HE1.out) HNc.out HFw.out)
      rw [← HEq.out.1] at HTd
      go_wp2_with fail
      refine HTd.out.mono ?_
      rintro e w5 ⟨rfl, hb5⟩
      replace HB := Lib.hid (HB.out.andThen hb5)
      clear hb5 HTd
      by_cases hneg : m < 0 ∨ k < 0
      · have HCh := Lib.hid (fun W => NumsChoose_neg m k W hneg)
        by_cases hm0 : m < 0
        · go_wp2_with fail
          refine (HCh.out _).mono ?_
          rintro e wa ⟨ev, rfl, hev, hb1⟩
          have HE2 := Lib.hid hev
          replace HB := Lib.hid (HB.out.andThen hb1)
          clear hev hb1 HCh hneg
          go_wp2_with fail
          refine (Code_any _ ev wa HE2.out (hg.keep HB.out)).mono ?_
          rintro e wb ⟨rfl, hb1⟩
          rw [show (Err.flt 1 0 txtChoice).code = 1 from rfl]
          replace HB := Lib.hid (HB.out.andThen hb1)
          clear hb1
          go_wp2_with fail
          go_ret
          exact ⟨rfl, HB.out⟩
        · have hk0 : k < 0 := by rcases hneg with h | h; exact absurd h hm0; exact h
          go_wp2_with fail
          refine (HCh.out _).mono ?_
          rintro e wa ⟨ev, rfl, hev, hb1⟩
          have HE2 := Lib.hid hev
          replace HB := Lib.hid (HB.out.andThen hb1)
          clear hev hb1 HCh hneg
          go_wp2_with fail
          refine (Code_any _ ev wa HE2.out (hg.keep HB.out)).mono ?_
          rintro e wb ⟨rfl, hb1⟩
          rw [show (Err.flt 1 0 txtChoice).code = 1 from rfl]
          replace HB := Lib.hid (HB.out.andThen hb1)
          clear hb1
          go_wp2_with fail
          go_ret
          exact ⟨rfl, HB.out⟩
      · obtain ⟨m', rfl⟩ := Int.eq_ofNat_of_zero_le (show 0 ≤ m by omega)
        obtain ⟨k', rfl⟩ := Int.eq_ofNat_of_zero_le (show 0 ≤ k by omega)
        have hm0 : ¬ (m' : Int) < 0 := by omega
        have hk0 : ¬ (k' : Int) < 0 := by omega
        have HCh := Lib.hid (fun W => NumsChoose_any m' k' W (by omega) (by omega))
        clear hneg
        by_cases hkm : m' < k'
        · rw [ch_out hkm, show tn ((0 : Nat) : Int) = 0 from rfl, show te txtChoice ((0 : Nat) : Int) = .nil from rfl] at HCh
          have hkm' : (m' : Int) < (k' : Int) := by omega
          go_wp2_with fail
          refine (HCh.out _).mono ?_
          rintro e wa ⟨ev, rfl, hev, hb1⟩
          obtain rfl : ev = .nilIface := hev
          replace HB := Lib.hid (HB.out.andThen hb1)
          clear hb1 HCh
          go_wp2_with fail
          go_ret
          exact ⟨rfl, HB.out⟩
        · have hkm' : ¬ (m' : Int) < (k' : Int) := by omega
          by_cases hm130 : 130 < m'
          · have hm130' : (130 : Int) < (m' : Int) := by omega
            go_wp2_with fail
            refine (HCh.out _).mono ?_
            rintro e wa ⟨ev, rfl, hev, hb1⟩
            replace HB := Lib.hid (HB.out.andThen hb1)
            clear hb1 hev HCh
            go_wp2_with fail
            go_ret
            exact ⟨rfl, HB.out⟩
          · have hm130' : ¬ (130 : Int) < (m' : Int) := by omega
            have HRef := Lib.hid (fun W => RefChoose_any m' k' W (by omega) (by omega))
            have HFw := Lib.hid (few_ch (n := m') (k := k') (by omega))
            generalize ((ch m' k' : Nat) : Int) = C at *
            go_wp2_with fail
            refine (HCh.out _).mono ?_
            rintro e wa ⟨ev, rfl, hev, hb1⟩
            have HE2 := Lib.hid hev
            replace HB := Lib.hid (HB.out.andThen hb1)
            clear hb1 hev HCh
            go_wp2_with fail
            refine (HRef.out _).mono ?_
            rintro e wb ⟨v, rfl, hv, hb1⟩
            have HV := Lib.hid hv
            replace HE2 := Lib.hid (HE2.out.keep hb1)
            replace HB := Lib.hid (HB.out.andThen hb1)
            clear hb1 hv HRef
            go_wp2_with fail
            refine (told_any C txtChoice ev v wb (hg.keep HB.out) HE2.out HV.out HFw.out).mono ?_
            rintro e wd ⟨rfl, hb1⟩
            replace HB := Lib.hid (HB.out.andThen hb1)
            clear hb1
            go_wp2_with fail
            go_ret
            exact ⟨rfl, HB.out⟩
theorem NumsPow_main (a0 a1 a2 a3 : Int) (w : World) (hg : ErrT w) (h0 : (Lit.int .i64 a0).wf = true) (h1 : (Lit.int .i64 a1).wf = true) (h2 : (Lit.int .i64 a2).wf = true) (h3 : (Lit.int .i64 a3).wf = true) :
    Calls Tryd.prog 11 #[.int .i64 a0, .int .i64 a1, .int .i64 a2, .int .i64 a3] w fun e w' => e = .returned (.bool true) ∧ Below w.heap.size w w' := by
  have b0 := wf_i64 h0
  have b1 := wf_i64 h1
  have b2 := wf_i64 h2
  have b3 := wf_i64 h3
  by_cases hn : a1 < 0
  · exact NumsPow_walkN a0 a1 a2 a3 w hg hn b2 b3
  · obtain ⟨n, rfl⟩ := Int.eq_ofNat_of_zero_le (show 0 ≤ a1 by omega)
    by_cases h70 : n ≤ 70
    · exact NumsPow_walkP a0 n n a2 a3 w hg (by omega) b0 b2 b3 (.inl ⟨h70, rfl⟩)
    · exact NumsPow_walkP a0 n (70 + n % 2) a2 a3 w hg (by omega) b0 b2 b3 (.inr ⟨by omega, rfl⟩)
end Go.Proofs.YtclbbchljiagpaaDoor

