/-
  RankBounds.
-/
import Derived.BigQuiet
import Derived.Deep.DeepCutAuto
import Derived.Test.YtmonepclhbappaaDoorMade
import Derived.Test.YtmonepclhbappaaDoorOdQ
import Derived.Test.YtmonepclhbappaaDoorRankA
import Derived.Test.YtmonepclhbappaaDoorRankE
import Derived.Test.YtmonepclhbappaaDoorFrameR
import Derived.Test.YtmonepclhbappaaDoorMarks
namespace Go.Proofs.YtmonepclhbappaaDoor
open Go.RowKit Go.Maps
set_option maxRecDepth 100000
set_option linter.unusedVariables false

theorem part_at {w : World} {b off k t : Nat} {o : Option Addr} {tot : Int} (hs : Sl w 2 o k (Rk.cells (Rk.parts tot k))) (ho : o = some ⟨b, off, none⟩) (ht : t < k) :
    w.cell? ⟨b, off + t * 2, none⟩ = some (.int .i64 (Rk.start tot k (t : Int))) ∧ w.cell? ⟨b, off + t * 2 + 1, none⟩ = some (.int .i64 (Rk.start tot k ((t : Int) + 1))) := by
  subst ho
  obtain ⟨b', off', e, hc⟩ := hs.at_ ht
  cases e
  have hl : t < (Rk.parts tot k).length := by rw [Rk.parts_length]; exact ht
  obtain ⟨g0, g1⟩ := Rk.cells_at (Rk.parts tot k) t hl
  obtain ⟨u0, e0, c0⟩ := hc 0 (by omega)
  obtain ⟨u1, e1, c1⟩ := hc 1 (by omega)
  rw [g0] at e0
  rw [g1] at e1
  obtain rfl := Option.some.inj e0
  obtain rfl := Option.some.inj e1
  have e2 : (Rk.parts tot k)[t] = (Rk.start tot k (t : Int), Rk.start tot k ((t : Int) + 1)) := by
    have h9 := List.getElem?_eq_getElem hl
    have h8 : (Rk.parts tot k)[t]? = some (Rk.start tot k (t : Int), Rk.start tot k ((t : Int) + 1)) := by unfold Rk.parts; rw [List.getElem?_map, List.getElem?_range ht]; rfl
    exact Option.some.inj (h9.symm.trans h8)
  rw [e2] at c0 c1
  exact ⟨c0, by rw [Nat.add_assoc]; exact c1⟩
/-- Parts side by side. -/
theorem starts (tot : Int) (k : Nat) (h0 : 0 ≤ tot) (t : Nat) (ht : t < k) : 0 ≤ Rk.start tot k (t : Int) ∧ Rk.start tot k (t : Int) ≤ Rk.start tot k ((t : Int) + 1) ∧ Rk.start tot k ((t : Int) + 1) ≤ tot ∧
    ∃ e : Int, 0 ≤ e ∧ e ≤ 1 ∧ e = (if (t : Int) < tot % (k : Int) then 1 else 0) ∧ Rk.start tot k ((t : Int) + 1) = Rk.start tot k (t : Int) + tot / (k : Int) + e := by
  have h1 := Rk.start_le tot k (t : Int) h0 (by omega) (by omega) (by omega)
  have h2 := Rk.start_le tot k ((t : Int) + 1) h0 (by omega) (by omega) (by omega)
  have h3 := Rk.start_succ tot k (t : Int)
  have h4 : 0 ≤ tot / (k : Int) := Int.ediv_nonneg h0 (by omega)
  refine ⟨h1.1, ?_, h2.2, (if (t : Int) < tot % (k : Int) then 1 else 0), by split <;> omega, by split <;> omega, rfl, h3⟩
  rw [h3]
  split <;> omega
theorem starts2 (tot : Int) (k : Nat) (h0 : 0 ≤ tot) (t u : Nat) (htu : t ≤ u) (hu : u < k) : 
    0 ≤ (Rk.start tot k ((t : Int) + 1) - Rk.start tot k (t : Int)) - (Rk.start tot k ((u : Int) + 1) - Rk.start tot k (u : Int)) ∧ (Rk.start tot k ((t : Int) + 1) - Rk.start tot k (t : Int)) - (Rk.start tot k ((u : Int) + 1) - Rk.start tot k (u : Int)) ≤ 1 := by
  obtain ⟨_, _, _, e, h1, h2, h3, h4⟩ := starts tot k h0 t (by omega)
  obtain ⟨_, _, _, e', g1, g2, g3, g4⟩ := starts tot k h0 u hu
  have : e' ≤ e := by rw [g3, h3]; split <;> split <;> omega
  omega

set_option maxHeartbeats 16000000 in
theorem RankBounds_walk (a : Int) (its : List (Option Addr × Nat × List Int)) (Q : Option Addr) (m cq : Nat) (tot : Int) (b : Nat) (w : World) (hg : ErrT w) (hm : its.length = m) (hq : Sl w 1 Q m (its.map rv)) (hr : AllRows w its) (ht : i64ok tot) (hb : b < 256) :
    Calls Tryd.prog 7 #[.int .i64 a, .slice Q m cq, .int .i64 tot, .int .u8 (b : Int)] w fun e w' => e = .returned (.bool true) ∧ Below w.heap.size w w' := by
  have HQ := Lib.hid hq
  have HR := Lib.hid hr
  have HM := Lib.hid hm
  have HT := Lib.hid ht
  have HG := Lib.hid hg
  have hB0 := bel_al (Below.refl w.heap.size w) (.cells #[.bool false] 4)
  have HBx := Lib.hid (Blk.new w 4 #[.bool false])
  have HAl := Lib.hid ((alive14 (w.alloc (.cells #[.bool false] 4)) (hg.keep hB0)).mono (R' := fun e w1 => e = .returned (.bool true) ∧ Blk w1 w.heap.size 4 #[.bool false] ∧ Below w.heap.size w w1) (fun e w1 h => ⟨h.1, HBx.out.keep h.2, hB0.andThen h.2⟩))
  obtain ⟨k, hk⟩ : ∃ k : Nat, 1 + (b : Int) % 64 = (k : Int) ∧ 1 ≤ k ∧ k ≤ 64 := ⟨1 + b % 64, by omega⟩
  have hk2 : IntKind.i64.wrap (1 + (b : Int).tmod 64) = (k : Int) := by rw [Int.tmod_eq_emod_of_nonneg (by omega), hk.1, IntKind.wrap_i64]; omega
  have hk3 : IntKind.i64.wrap (b : Int) = (b : Int) := by rw [IntKind.wrap_i64]; omega
  have HK := Lib.hid hk
  clear hq hr hm ht hg hk hB0 HBx
  refine (callsIn_wide (n := 5)).1 ?_
  refine callsIn_of_wp_marks Tryd.func7 rfl trivial ?_ rfl
  simp only [Tryd.ntmps7, List.size_toArray, List.length_cons, List.length_nil, Nat.reduceAdd, Nat.reduceSub, Array.replicate_succ, Array.replicate_zero, List.push_toArray, List.append_toArray, List.nil_append, List.cons_append]
  refine wpIn_wide.2 ?_
  go_upto_if 28 with (go_at_call 29; refine HAl.out.mono ?_; clear HAl; rintro e w1 ⟨rfl, hx1, hb1⟩; have HX1 := Lib.hid hx1; have HB1 := Lib.hid hb1; clear hb1 hx1)
  rw [HK.out.1]
  clear hk2 hk3
  go_cut [10, 11, 12, 13, 14, 15, 16] from 28 to 153 (fun _ _ _ _ _ _ _ wx => Below w1.heap.size w1 wx)
  case first =>
    refine wp_thenF ?_
    clear HX1 HB1 HQ HR HM HG
    by_cases h0 : 0 ≤ tot
    · have HSp := Lib.hid (Split_good tot k w1 h0 HT.out.2 HK.out.2.1 HK.out.2.2)
      obtain ⟨j, hj⟩ : ∃ j : Nat, (k : Int) - 1 = (j : Int) ∧ k = j + 1 := ⟨k - 1, by have := HK.out.2; omega⟩
      have HJ := Lib.hid hj
      have hw : IntKind.i64.wrap ((k : Int) - 1) = (j : Int) := by rw [IntKind.wrap_i64]; have := HK.out.2; omega
      have HSt := Lib.hid (fun t ht => starts tot k h0 t ht)
      have HS0 := Lib.hid (show Rk.start tot k ((0 : Nat) : Int) = 0 from Rk.start_zero tot k h0 (by omega))
      have HSk := Lib.hid (show Rk.start tot k ((j : Int) + 1) = tot from by have := Rk.start_end tot k (by omega); rw [show ((j : Int) + 1) = (k : Int) by omega]; exact this)
      have hjk : (j : Int) < (k : Int) := by omega
      have hk0 : (0 : Int) < (k : Int) := by omega
      clear hj
      go_upto_region 8 with (go_at_call 33; refine HSp.out.mono ?_; clear HSp; rintro e w2 ⟨A, c, rfl, hs, hb2⟩; have hat := hs.at_ (show 0 < k by have := HK.out.2; omega); obtain ⟨b1, o1, rfl, _⟩ := hat; have p0 := (part_at hs rfl (show 0 < k by have := HK.out.2; omega)).1; have p1 := (part_at hs rfl (show j < k by have := HJ.out.2; omega)).2; rw [HS0.out, Nat.zero_mul, Nat.add_zero] at p0; rw [HSk.out] at p1; have HS := Lib.hid hs; have HB2 := Lib.hid hb2; clear hs hb2)
      go_wp2_with fail
      go_loopw [12] (fun iv wr => ∃ t : Nat, t ≤ j ∧ iv = .int .i64 ((t : Int) + 1) ∧ Hid (Below w2.heap.size w2 wr)) (fun iv _ => j + 1 - (intOf iv).toNat)
      case atStart => exact ⟨0, Nat.zero_le _, by simp, Lib.hid (Below.refl _ _)⟩
      case round =>
        clear p0 p1 hw hjk hk0
        obtain ⟨t, ht, rfl, HBr⟩ := hrel
        by_cases hlt : t < j
        · have hkj := HJ.out.2
          have g1 : (t : Int) + 1 < (k : Int) := by omega
          have g2 : (t : Int) < (k : Int) := by omega
          have g3 : (0 : Int) ≤ (t : Int) + 1 := by omega
          have g4 : ((t : Int) + 1).toNat = t + 1 := by omega
          have g5 : IntKind.i64.wrap (t : Int) = (t : Int) := by rw [IntKind.wrap_i64]; have := HK.out.2; omega
          have g6 : IntKind.i64.wrap ((t : Int) + 1 + 1) = (t : Int) + 1 + 1 := by rw [IntKind.wrap_i64]; have := HK.out.2; omega
          have hsl := HS.out.keep HBr.out
          obtain ⟨c0, c1⟩ := part_at hsl rfl (show t < k by omega)
          obtain ⟨c2, c3⟩ := part_at hsl rfl (show t + 1 < k by omega)
          have h1 := HSt.out t (by omega)
          have h2 := HSt.out (t + 1) (by omega)
          have h3 := starts2 tot k h0 t (t + 1) (by omega) (by omega)
          rw [show (((t + 1 : Nat)) : Int) = (t : Int) + 1 from by omega] at c2 c3 h2 h3
          obtain ⟨n0, n1, _, _⟩ := h1
          obtain ⟨_, n2, n3, _⟩ := h2
          have HTt := HT.out.2
          clear hsl
          generalize Rk.start tot k (t : Int) = s0 at *
          generalize Rk.start tot k ((t : Int) + 1) = s1 at *
          generalize Rk.start tot k ((t : Int) + 1 + 1) = s2 at *
          have e1 : IntKind.i64.wrap (s1 - s0) = s1 - s0 := by rw [IntKind.wrap_i64]; omega
          have e2 : IntKind.i64.wrap (s2 - s1) = s2 - s1 := by rw [IntKind.wrap_i64]; omega
          have e3 : IntKind.i64.wrap (s1 - s0 - (s2 - s1)) = s1 - s0 - (s2 - s1) := by rw [IntKind.wrap_i64]; omega
          have e4 : ¬ s1 - s0 < 0 := by omega
          have e5 : ¬ s2 - s1 < 0 := by omega
          have e6 : ¬ s1 - s0 < s2 - s1 := by omega
          have e7 : ¬ 1 < s1 - s0 - (s2 - s1) := by omega
          have d1 : decide (s1 - s0 < 0) = false := by simp; omega
          have d2 : decide (s2 - s1 < 0) = false := by simp; omega
          have d3 : decide (s1 - s0 < s2 - s1) = false := by simp; omega
          have d4 : decide (1 < s1 - s0 - (s2 - s1)) = false := by simp; omega
          have d5 : decide (s1 < s0) = false := by simp; omega
          have d6 : decide (s2 < s1) = false := by simp; omega
          clear hkj HTt n0 n1 n2 n3 h3
          go_wp2_with fail
          go_quiet (fail)
          go_wp2_with fail
          go_quiet (fail)
          go_wp2_with fail
          go_roundw
          case rel => exact ⟨t + 1, by omega, by go_num, Lib.hid (bel_drewN HBr.out _)⟩
          case measure => simp [intOf]; omega
        · obtain rfl : t = j := by omega
          have hkj := HJ.out.2
          have g1 : ¬ (t : Int) + 1 < (k : Int) := by omega
          have g2 : (t : Int) < (k : Int) := by omega
          have g3 : (0 : Int) < (k : Int) := by omega
          have g5 : IntKind.i64.wrap ((k : Int) - 1) = (t : Int) := by rw [IntKind.wrap_i64]; have := HK.out.2; omega
          have hsl := HS.out.keep HBr.out
          obtain ⟨c0, c1⟩ := part_at hsl rfl (show 0 < k by omega)
          obtain ⟨c2, c3⟩ := part_at hsl rfl (show t < k by omega)
          have h1 := HSt.out 0 (by omega)
          have h2 := HSt.out t (by omega)
          have h3 := starts2 tot k h0 0 t (by omega) (by omega)
          obtain ⟨n0, n1, m1, _⟩ := h1
          obtain ⟨m2, n2, n3, _⟩ := h2
          have HTt := HT.out.2
          rw [Nat.zero_mul, Nat.add_zero] at c0 c1
          clear hsl
          generalize Rk.start tot k ((0 : Nat) : Int) = s0 at *
          generalize Rk.start tot k (((0 : Nat) : Int) + 1) = s1 at *
          generalize Rk.start tot k (t : Int) = s2 at *
          generalize Rk.start tot k ((t : Int) + 1) = s3 at *
          have e1 : IntKind.i64.wrap (s1 - s0) = s1 - s0 := by rw [IntKind.wrap_i64]; omega
          have e2 : IntKind.i64.wrap (s3 - s2) = s3 - s2 := by rw [IntKind.wrap_i64]; omega
          have e3 : IntKind.i64.wrap (s1 - s0 - (s3 - s2)) = s1 - s0 - (s3 - s2) := by rw [IntKind.wrap_i64]; omega
          have e4 : ¬ s1 - s0 < 0 := by omega
          have e5 : ¬ s3 - s2 < 0 := by omega
          have e7 : ¬ 1 < s1 - s0 - (s3 - s2) := by omega
          have d1 : decide (s1 - s0 < 0) = false := by simp; omega
          have d2 : decide (s3 - s2 < 0) = false := by simp; omega
          have d4 : decide (1 < s1 - s0 - (s3 - s2)) = false := by simp; omega
          clear hkj HTt n0 n1 n2 n3 m1 m2 h3
          go_wp2_with fail
          go_quiet (fail)
          go_wp2_with fail
          go_meet
          exact HB2.out.andThen (bel_drewN HBr.out _)
    · go_wp2_with fail
      go_meet
      exact Below.refl _ _
  case rest =>
    have hX := HX1.out.keep hcut
    have hW := HB1.out.andThen hcut
    have HX := Lib.hid hX
    have HW := Lib.hid hW
    have HMd := Lib.hid ((Made_any a its Q m cq wc HM.out (HQ.out.keep hW) (HR.out.keep hW)).mono (R' := fun e w3 => ∃ (pv : Value) (bv : Bool), e = .returned (.tuple #[pv, .bool bv]) ∧ Blk w3 w.heap.size 4 #[.bool false] ∧ Below w.heap.size w w3 ∧ (bv = true → ∃ n p : Nat, a = n ∧ 1 ≤ n ∧ n ≤ 5 ∧ m ≤ 12 ∧ Good n its ∧ pv = .pointer (some ⟨p, 0, none⟩) ∧ OdM w3 p (odOf n (its.map (·.2.2))))) (fun e w3 h => by
      rcases h with ⟨rfl, hb⟩ | ⟨n, p, h1, h2, h3, h4, h5, rfl, h6, hb⟩
      · exact ⟨_, _, rfl, hX.keep hb, hW.andThen hb, fun h => by cases h⟩
      · exact ⟨_, _, rfl, hX.keep hb, hW.andThen hb, fun _ => ⟨n, p, h1, h2, h3, h4, h5, rfl, h6⟩⟩))
    clear hX hW HX1 HB1 hcut HQ HR HT
    go_upto_region 18 with (go_at_call 26; refine HMd.out.mono ?_; clear HMd HX HW; rintro e w3 ⟨pv, bv, rfl, hx, hb, hd⟩; have HX := Lib.hid hx; have HW := Lib.hid hb; have HD := Lib.hid hd; clear hx hb hd)
    cases bv with
    | false =>
      have cx := HX.out.cell 0
      have fx := HX.out.frozen 0
      simp at cx
      go_wp2_with fail
      have hE := (HX.out.set_ 0 (.bool true)).cell 0
      simp at hE
      exact mks0 rfl (v := .bool true) (by simp [results, Tryd.results7, go_sem, hE]) ⟨rfl, HW.out.setCell (p := ⟨w.heap.size, 0, none⟩) (Nat.le_refl _) _⟩
    | true =>
      obtain ⟨n, p, rfl, h1, h5, h12, hgd, rfl, hod⟩ := HD.out rfl
      have HOd := Lib.hid hod
      have HGd := Lib.hid hgd
      clear HD hod hgd
      have cx := HX.out.cell 0
      have fx := HX.out.frozen 0
      simp at cx
      by_cases h4 : 4 < n
      · have h4' : (4 : Int) < (n : Int) := by omega
        go_wp2_with fail
        have hE := (HX.out.set_ 0 (.bool true)).cell 0
        simp at hE
        exact mks0 rfl (v := .bool true) (by simp [results, Tryd.results7, go_sem, hE]) ⟨rfl, HW.out.setCell (p := ⟨w.heap.size, 0, none⟩) (Nat.le_refl _) _⟩
      · have h4' : ¬ (4 : Int) < (n : Int) := by omega
        have hll : (its.map (·.2.2)).length ≤ 13 := by rw [List.length_map, HM.out]; omega
        have hlen : ∀ x ∈ its.map (·.2.2), x.length = n := fun x hx => by
          obtain ⟨t, ht, rfl⟩ := List.mem_map.1 hx
          exact (HGd.out t ht).1
        have hnum : ∀ x ∈ its.map (·.2.2), ∀ y ∈ x, numOK y := fun x hx => by
          obtain ⟨t, ht, rfl⟩ := List.mem_map.1 hx
          exact (HGd.out t ht).2
        have HOf := Lib.hid (RankOf_any p n (odOf n (its.map (·.2.2))) w3 HOd.out (fun r hr => (odOf_B n _ r hr).mono (by omega)) (odOf_len n _) h1 (by omega) (odOf_nums n _ hlen hnum) (odOf_closed n _ hlen) (odOf_fits n _ h1 h5 hll))
        have HTn := Lib.hid (show 0 ≤ totP (odOf n (its.map (·.2.2))) ∧ totP (odOf n (its.map (·.2.2))) ≤ 4611686018427387904 from ⟨Int.natCast_nonneg _, (odOf_fits n _ h1 h5 hll).2⟩)
        obtain ⟨od, hod⟩ : ∃ od, od = odOf n (its.map (·.2.2)) := ⟨_, rfl⟩
        rw [← hod] at HOf HTn
        clear hod hlen hnum hll HOd HGd cx fx
        go_wp2_with (first
          | (go_at_call 30; refine HOf.out.mono ?_; clear HOf; rintro e w4 ⟨q, rfl, hrk, hb⟩; have HRk := Lib.hid hrk; have HX4 := Lib.hid (HX.out.keep hb); have HW4 := Lib.hid (HW.out.andThen hb); clear hrk hb)
          | (go_at_call 34; refine (RkTotal_any q p od _ HRk.out).mono ?_; rintro e w5 ⟨rfl, rfl⟩)
          | (go_at_call 32; refine (Each_any (some ⟨q, 0, none⟩) _ _ _).mono ?_; rintro e w5 ⟨rfl, rfl⟩))
        obtain ⟨W5, hW5⟩ : ∃ W5, (w4.alloc (.cells #[.pointer (some ⟨q, 0, none⟩)] 57)).alloc (.cells #[.int .i64 (totP od), .int .i64 9223372036854775807] 63) = W5 := ⟨_, rfl⟩
        have hb5 : Below w4.heap.size w4 W5 := by rw [← hW5]; exact bel_al (bel_al (Below.refl _ _) _) _
        have hr5 : Blk W5 w4.heap.size 57 #[.pointer (some ⟨q, 0, none⟩)] := by rw [← hW5]; exact (Blk.new w4 _ _).alloc _
        have hp5 : Blk W5 (w4.heap.size + 1) 63 #[.int .i64 (totP od), .int .i64 9223372036854775807] := by
          have := Blk.new (w4.alloc (.cells #[.pointer (some ⟨q, 0, none⟩)] 57)) 63 #[.int .i64 (totP od), .int .i64 9223372036854775807]
          rw [World.size_alloc, hW5] at this
          exact this
        rw [hW5]
        clear hW5
        have hk5 := HRk.out.keep hb5
        have HX5 := Lib.hid (HX4.out.keep hb5)
        have HW5 := Lib.hid (HW4.out.andThen hb5)
        have HK5 := Lib.hid hk5
        refine (wpIn_wide (n := 5)).1 ?_
        refine rangeFunc_one (fun _ b => b) rfl (by omega) (gf := 71) (lb := #[.pointer (some ⟨w4.heap.size + 1, 0, none⟩), .pointer (some ⟨w4.heap.size, 0, none⟩)]) rfl trivial (enters_of Tryd.func71 (by kernel_rfl) rfl)
          (each_none _ (w4.heap.size + 1) w4.heap.size q p od (totP od) 9223372036854775807 W5 hp5 hr5 hk5 (by have := HTn.out; omega)) (fun pre x W l o o' _ _ h => h) (fun _ _ => trivial) (fun _ _ _ _ _ _ _ _ _ => trivial) (Below.refl _ _)
          (fun _ W => Below W5.heap.size W5 W) (fun _ _ _ => False) (ownFrom_below (Nat.le_refl _) (Nat.le_refl _)) (fun c s A B row hs _ _ => hs.elim) (Below.refl _ _) ?assign ?body ?done ?stop
        case assign =>
          intro l x W K hK
          gi_wp2
          exact hK
        case body =>
          rintro l pre x W _ h
          exact h.elim
        case stop =>
          rintro D c pre W _ _ h _
          exact h.elim
        case done =>
          rintro D xs W6 hD _ hb6 hK6
          have HX6 := Lib.hid (HX5.out.keep hb6)
          have HW6 := Lib.hid (HW5.out.andThen hb6)
          have HRk6 := Lib.hid (HK5.out.keep hb6)
          have HD6 := Lib.hid hD
          have HK6 := Lib.hid hK6
          clear hp5 hr5 hk5 hb5 hb6 hK6 hD HX5 HX4 HW4 HX HW HRk
          go_wp2_with (go_at_call 32; refine (Each_any (some ⟨q, 0, none⟩) _ _ _).mono ?_; rintro e w5 ⟨rfl, rfl⟩)
          obtain ⟨W7, hW7⟩ : ∃ W7, (W6.alloc (.cells #[.pointer (some ⟨q, 0, none⟩)] 57)).alloc (.cells #[.int .i64 (-9), .int .i64 (-3)] 63) = W7 := ⟨_, rfl⟩
          have hb7 : Below W6.heap.size W6 W7 := by rw [← hW7]; exact bel_al (bel_al (Below.refl _ _) _) _
          have hr7 : Blk W7 W6.heap.size 57 #[.pointer (some ⟨q, 0, none⟩)] := by rw [← hW7]; exact (Blk.new W6 _ _).alloc _
          have hp7 : Blk W7 (W6.heap.size + 1) 63 #[.int .i64 (-9), .int .i64 (-3)] := by
            have := Blk.new (W6.alloc (.cells #[.pointer (some ⟨q, 0, none⟩)] 57)) 63 #[.int .i64 (-9), .int .i64 (-3)]
            rw [World.size_alloc, hW7] at this
            exact this
          rw [hW7]
          clear hW7
          have hk7 := HRk6.out.keep hb7
          have HX7 := Lib.hid (HX6.out.keep hb7)
          have HW7 := Lib.hid (HW6.out.andThen hb7)
          have HK7 := Lib.hid (show W7.heap[D]? = some (.deferred (some [])) from (hb7.block D (Array.getElem?_eq_some_iff.1 HK6.out).1).trans HK6.out)
          have HDl := Lib.hid (show D < W7.heap.size from (Array.getElem?_eq_some_iff.1 HK7.out).1)
          refine (wpIn_wide (n := 5)).1 ?_
          refine rangeFunc_one (fun _ b => b) rfl (by omega) (gf := 71) (lb := #[.pointer (some ⟨W6.heap.size + 1, 0, none⟩), .pointer (some ⟨W6.heap.size, 0, none⟩)]) rfl trivial (enters_of Tryd.func71 (by kernel_rfl) rfl)
            (each_none _ (W6.heap.size + 1) W6.heap.size q p od (-9) (-3) W7 hp7 hr7 hk7 (by omega)) (fun pre x W l o o' _ _ h => h) (fun _ _ => trivial) (fun _ _ _ _ _ _ _ _ _ => trivial) (Below.refl _ _)
            (fun _ W => Below W7.heap.size W7 W) (fun _ _ _ => False) (ownFrom_below (Nat.le_refl _) (Nat.le_refl _)) (fun c s A B row hs _ _ => hs.elim) (Below.refl _ _) ?assign2 ?body2 ?done2 ?stop2
          case assign2 =>
            intro l x W K hK
            gi_wp2
            exact hK
          case body2 =>
            rintro l pre x W _ h
            exact h.elim
          case stop2 =>
            rintro E c pre W _ _ h _
            exact h.elim
          case done2 =>
            rintro E xs W8 hE _ hb8 hK8
            have HX8 := Lib.hid (HX7.out.keep hb8)
            have HW8 := Lib.hid (HW7.out.andThen hb8)
            have HE8 := Lib.hid hE
            have HK8 := Lib.hid hK8
            have HKD := Lib.hid (show W8.heap[D]? = some (.deferred (some [])) from (hb8.block D HDl.out).trans HK7.out)
            have HDw := Lib.hid (show w.heap.size ≤ D from Nat.le_trans (Nat.le_trans HW5.out.size (Nat.le_refl _)) HD6.out)
            have HEw := Lib.hid (show w.heap.size ≤ E from Nat.le_trans HW7.out.size hE)
            have cx := HX8.out.cell 0
            have fx := HX8.out.frozen 0
            simp at cx
            clear hp7 hr7 hk7 hb7 hb8 hK8 hE HX7 HX6 HW6 HW7 HRk6
            go_wp2_with fail
            exact law_end [E, D] (fun V hV => by simp [results, Tryd.results7, go_sem, hV]) rfl (fun x hx => by
              rcases List.mem_cons.1 hx with rfl | hx
              · exact HK8.out
              · rw [List.mem_singleton.1 hx]; exact HKD.out) (by
              have h1 := HDl.out
              have h2 := HE8.out
              simp
              omega) HX8.out HW8.out (fun x hx => by
              rcases List.mem_cons.1 hx with rfl | hx
              · exact HEw.out
              · rw [List.mem_singleton.1 hx]; exact HDw.out)

/-- RankBounds, as its frame asks it. -/
theorem RankBounds_main (a0 : Int) (A1 : Option Addr) (n1 c1 : Nat) (its : List (Option Addr × Nat × List Int)) (a2 a3 : Int) (w : World) (hg : ErrT w) (w0 : (Lit.int .i64 a0).wf = true) (m1 : n1 ≤ maxLen) (e1 : its.length = n1) (s1 : Sl w 1 A1 n1 (its.map rv)) (r1 : AllRows w its) (w2 : (Lit.int .i64 a2).wf = true) (w3 : (Lit.int .u8 a3).wf = true) :
    Calls Tryd.prog 7 #[.int .i64 a0, .slice A1 n1 c1, .int .i64 a2, .int .u8 a3] w fun e w' => e = .returned (.bool true) ∧ Below w.heap.size w w' := by
  have h3 := wf_u8 w3
  obtain ⟨b, rfl⟩ : ∃ b : Nat, a3 = (b : Int) := ⟨a3.toNat, by omega⟩
  exact RankBounds_walk a0 its A1 n1 c1 a2 b w hg e1 s1 r1 (wf_i64 w2) (by omega)
end Go.Proofs.YtmonepclhbappaaDoor
