/-
  Part 13 of the proof of RankMany: RankMany.
-/
import Derived.BigQuiet
import Derived.Deep.DeepCutAuto
import Derived.Test.YtmonepclhbappaaDoorRankManyM11
import Derived.Test.YtmonepclhbappaaDoorRankManyM12
import Derived.Test.YtmonepclhbappaaDoorRankManyM9
import Derived.Test.YtmonepclhbappaaDoorRankManyM10
import Derived.Test.YtmonepclhbappaaDoorRankManyM8
/-
  RankMany.
-/
namespace Go.Proofs.YtmonepclhbappaaDoor
open Go.RowKit Go.Maps
attribute [local go_sem] Oper.semAt_some
set_option maxRecDepth 100000
set_option linter.unusedVariables false

def fillM (n : Nat) (a b : Int) (i : Nat) : List Int := (List.range n).map fun j => if j < i then (if j % 2 = 1 then b else a) else 0
theorem fillM_zero (n : Nat) (a b : Int) : fillM n a b 0 = List.replicate n 0 := by
  unfold fillM
  refine List.ext_getElem (by simp) fun i h1 h2 => by simp
theorem fillM_end (n : Nat) (a b : Int) : fillM n a b n = altL n a b := by
  unfold fillM altL
  refine List.map_congr_left fun j hj => ?_
  rw [if_pos (List.mem_range.1 hj)]
theorem fillM_len (n : Nat) (a b : Int) (i : Nat) : (fillM n a b i).length = n := by unfold fillM; simp
theorem fillM_step (n : Nat) (a b : Int) (i : Nat) : fillM n a b (i + 1) = (fillM n a b i).set i (if i % 2 = 1 then b else a) := by
  refine List.ext_getElem (by simp [fillM]) fun j h1 h2 => ?_
  rw [List.getElem_set]
  simp only [fillM, List.getElem_map, List.getElem_range]
  by_cases hij : i = j
  · subst hij
    rw [if_pos rfl, if_pos (by omega)]
  · rw [if_neg hij]
    by_cases h : j < i
    · rw [if_pos h, if_pos (by omega)]
    · rw [if_neg h, if_neg (by omega)]
/-- Rows put one behind the other into a row of rows. -/
def OutS (w0 W : World) (v : Value) (ys : List RowE) : Prop := Below w0.heap.size w0 W ∧ W.ownsRow w0.heap.size 22 1 v ys.length (ys.map rv) ∧ RowsOK W v ys
theorem OutS.push {w0 W X w6 : World} {v v6 : Value} {ys : List RowE} {g c : Nat} {l : List Int} {o : Obj} (h : OutS w0 W v ys) (hb : Below W.heap.size W X) (hit : RowOK (X.alloc o) (some ⟨g, 0, none⟩, c, l)) (hg : W.heap.size ≤ g) (hg5 : g < (X.alloc o).heap.size)
    (hown6 : w6.ownsRow w0.heap.size 22 1 v6 (ys.length + 1) (ys.map rv ++ [rv (some ⟨g, 0, none⟩, c, l)])) (hgr : Gr (X.alloc o) w6 v v6) : OutS w0 w6 v6 (ys ++ [((some ⟨g, 0, none⟩ : Option Addr), c, l)]) := by
  obtain ⟨h1, h2, h3⟩ := h
  have hba := bel_al hb o
  obtain ⟨k1, k2⟩ := rows_more h2 h3 hba hit hg hg5 hown6 hgr
  refine ⟨h1.trans ((hba.mono h1.size).trans (hgr.belowOwn (by have := h1.size; have := hba.size; omega) (own_block h2 fun g hg => hba.block g (h2.lt g hg).2))), ?_, k2⟩
  rw [List.length_append]
  exact k1

theorem wf_u64m {z : Int} (h : (Lit.int .u64 z).wf = true) : 0 ≤ z ∧ z ≤ 18446744073709551615 := by
  simpa [Lit.wf, IntKind.min, IntKind.max, IntKind.bits, IntKind.signed] using h
theorem wrap64_nn {k : Nat} (h : k ≤ 4611686018427387904) : wrap64 (k : Int) = (k : Int) := by
  unfold wrap64
  omega

set_option maxHeartbeats 32000000 in
theorem RankMany_walk (x y wh : Nat) (w : World) (hg : ErrT w) (hx : x < 256) (hy : y < 256) (hwh : wh < 18446744073709551616) :
    Calls Tryd.prog 11 #[.int .u8 (x : Int), .int .u8 (y : Int), .int .u64 (wh : Int)] w fun e w' => e = .returned (.bool true) ∧ Below w.heap.size w w' := by
  have HG := Lib.hid hg
  have HXY := Lib.hid (And.intro hx (And.intro hy hwh))
  have hx0 : (0 : Int) ≤ (x : Int) := by omega
  have hy0 : (0 : Int) ≤ (y : Int) := by omega
  have hx1 : (x : Int) < 256 := by omega
  have hy1 : (y : Int) < 256 := by omega
  clear hg hx hy hwh
  refine (callsIn_wide (n := 5)).1 ?_
  refine callsIn_of_wp_marks Tryd.func11 rfl trivial ?_ rfl
  simp only [Tryd.ntmps11, List.size_toArray, List.length_cons, List.length_nil, Nat.reduceAdd, Nat.reduceSub, Array.replicate_succ, Array.replicate_zero, List.push_toArray, List.append_toArray, List.nil_append, List.cons_append]
  refine wpIn_wide.2 ?_
  go_upto_region 1 with (fail)
  obtain ⟨W0, hW0⟩ : ∃ W0, w.alloc (.cells #[.bool false] 4) = W0 := ⟨_, rfl⟩
  have hb0 : Below w.heap.size w W0 := by rw [← hW0]; exact bel_al (Below.refl _ _) _
  have hx0' : Blk W0 w.heap.size 4 #[.bool false] := by rw [← hW0]; exact Blk.new w _ _
  rw [hW0]
  clear hW0
  have HB0 := Lib.hid hb0
  have HX0 := Lib.hid hx0'
  clear hb0 hx0'
  have HAl := Lib.hid (alive14 W0 (HG.out.keep HB0.out))
  go_upto_region 5 with (go_at_call 29; refine HAl.out.mono ?_; clear HAl; rintro e w1 ⟨rfl, hb1⟩; have HB1 := Lib.hid hb1; clear hb1)
  obtain ⟨u, hu⟩ : ∃ u : Nat, 2 + (x : Int) % 300 = (u : Int) := ⟨(2 + (x : Int) % 300).toNat, by omega⟩
  obtain ⟨n, hn⟩ : ∃ n : Nat, 1 + (y : Int) % 8 = (n : Int) := ⟨(1 + (y : Int) % 8).toNat, by omega⟩
  rw [hn, hu]
  have hn1 : 1 ≤ n := by omega
  have hn8 : n ≤ 8 := by omega
  have hu2 : 2 ≤ u := by omega
  have hu301 : u ≤ 301 := by omega
  generalize (x : Int) % 300 = sx at *
  generalize (y : Int) % 8 = sy at *
  clear hn hu
  have HX1 := Lib.hid (HX0.out.keep HB1.out)
  have HW1 := Lib.hid (HB0.out.andThen HB1.out)
  have HR1 := Lib.hid (show OutS w1 w1 (.slice none 0 0) [] from ⟨Below.refl _ _, World.ownsRow_nil _ _ _ _, fun t h => by cases h⟩)
  clear HX0 HB0 HB1
  have hmk := fun W => make_elem (P := Tryd.prog) elemInt rfl n (by omega) (by omega) W
  go_wp2_with fail
  go_loopw [9, 10] (fun lv av wr => ∃ (a : Nat) (ys : List RowE), a ≤ u ∧ av = .int .i64 (a : Int) ∧ Hid (OutS w1 wr lv ys) ∧ Hid (ys.map (·.2.2) = preM n u (min (a * u) 600))) (fun _ av _ => u - (intOf av).toNat)
  case atStart => exact ⟨0, [], Nat.zero_le _, rfl, HR1, Lib.hid (by rw [Nat.zero_mul]; rfl)⟩
  case round =>
    clear HR1
    obtain ⟨a, ys, ha, rfl, HRa, HYa⟩ := hrel
    by_cases hau : a < u
    · have hau' : (a : Int) < (u : Int) := by omega
      obtain ⟨T, hT⟩ : ∃ T, T = a * u := ⟨_, rfl⟩
      have hTi : (a : Int) * (u : Int) = (T : Int) := by rw [hT, Int.natCast_mul]
      have hTb : T ≤ 90601 := by rw [hT]; exact Nat.mul_le_mul (show a ≤ 301 by omega) hu301
      have hT2 : (a + 1) * u = T + u := by rw [hT, Nat.succ_mul]
      have hTw : IntKind.i64.wrap ((a : Int) * (u : Int)) = (T : Int) := by rw [hTi, IntKind.wrap_i64]; omega
      rw [← hT] at HYa
      have HT := Lib.hid (And.intro hT (And.intro hTb hT2))
      clear hT hTi hT2
      go_wp2_with fail
      go_loopw [9, 11] (fun lv bv wr => ∃ (b : Nat) (ys : List RowE), b ≤ u ∧ bv = .int .i64 (b : Int) ∧ Hid (OutS w1 wr lv ys) ∧ Hid (ys.map (·.2.2) = preM n u (min (T + b) 600))) (fun _ bv _ => u - (intOf bv).toNat)
      case atStart => exact ⟨0, ys, Nat.zero_le _, rfl, HRa, HYa⟩
      case round =>
        clear HRa HYa
        obtain ⟨b, ys, hb, rfl, HRb, HYb⟩ := hrel
        by_cases hbu : b < u
        · have hbu' : (b : Int) < (u : Int) := by omega
          have hTbw : IntKind.i64.wrap ((T : Int) + (b : Int)) = (T : Int) + (b : Int) := by rw [IntKind.wrap_i64]; omega
          by_cases h6 : T + b < 600
          · have h6' : ¬ (600 : Int) ≤ (T : Int) + (b : Int) := by omega
            have HOwn := Lib.hid (own_replicate (B := wr.heap.size) (e := 3) wr n (.int .i64 0) (Nat.le_refl _) (by omega))
            obtain ⟨w5, hw5⟩ : ∃ w5, w5 = wr := ⟨_, rfl⟩
            rw [← hw5] at HOwn HRb ⊢
            clear hw5
            go_wp2_with fail
            go_loopw [13] (fun iv wr => ∃ i : Nat, i ≤ n ∧ iv = .int .i64 (i : Int) ∧ Hid (wr.ownsRow w5.heap.size 3 1 (.slice (some ⟨w5.heap.size, 0, none⟩) n n) n ((fillM n (a : Int) (b : Int) i).map (Value.int .i64))) ∧ Hid (Below w5.heap.size w5 wr)) (fun iv _ => n - (intOf iv).toNat)
            case atStart => exact ⟨0, Nat.zero_le _, rfl, by rw [fillM_zero, List.map_replicate]; exact HOwn, Lib.hid (bel_al (Below.refl _ _) _)⟩
            case round =>
              clear HOwn
              obtain ⟨i, hi, rfl, HOi, HBi⟩ := hrel
              by_cases hin : i < n
              · have hin' : (i : Int) < (n : Int) := by omega
                have hi0 : (0 : Int) ≤ (i : Int) := by omega
                have hcell := HOi.out.cellAt i (by omega)
                obtain ⟨z0, hz0⟩ : ∃ z0, ((fillM n (a : Int) (b : Int) i).map (Value.int .i64))[i]? = some (.int .i64 z0) := by
                  rw [List.getElem?_map, List.getElem?_eq_getElem (by rw [fillM_len]; exact hin)]
                  exact ⟨_, rfl⟩
                rw [hz0] at hcell
                have hfr := HOi.out.frozenAt i
                have HSta := Lib.hid ((HOi.out.stored i (.int .i64 (a : Int))).1)
                have hcell2 := HSta.out.cellAt i (by omega)
                rw [List.getElem?_set_self (by rw [List.length_map, fillM_len]; exact hin)] at hcell2
                have hfr2 := HSta.out.frozenAt i
                clear hz0
                by_cases hpar : i % 2 = 1
                · have hp1 : (i : Int) % 2 = 1 := by omega
                  have hp2 : ((i : Int) % 2 == 1) = true := by simp [hp1]
                  have HStb := Lib.hid ((HSta.out.stored i (.int .i64 (b : Int))).1)
                  have HFl := Lib.hid (fillM_step n (a : Int) (b : Int) i)
                  rw [if_pos hpar] at HFl
                  clear hpar
                  go_wp2_with fail
                  go_roundw
                  case rel =>
                    refine ⟨i + 1, by omega, by go_num, Lib.hid ?_, Lib.hid ((HBi.out.setCell (p := ⟨w5.heap.size, i, none⟩) (Nat.le_refl _) _).setCell (p := ⟨w5.heap.size, i, none⟩) (Nat.le_refl _) _)⟩
                    rw [HFl.out, List.map_set]
                    have h := HStb.out
                    rw [List.set_set] at h
                    exact h
                  case measure => simp [intOf]; omega
                · have hp1 : ¬ (i : Int) % 2 = 1 := by omega
                  have hp2 : ((i : Int) % 2 == 1) = false := by simp [hp1]
                  have HFl := Lib.hid (fillM_step n (a : Int) (b : Int) i)
                  rw [if_neg hpar] at HFl
                  clear hpar
                  go_wp2_with fail
                  go_roundw
                  case rel =>
                    refine ⟨i + 1, by omega, by go_num, Lib.hid ?_, Lib.hid (HBi.out.setCell (p := ⟨w5.heap.size, i, none⟩) (Nat.le_refl _) _)⟩
                    rw [HFl.out, List.map_set]
                    exact HSta.out
                  case measure => simp [intOf]; omega
              · obtain rfl : i = n := by omega
                have hin' : ¬ (i : Int) < (i : Int) := by omega
                rw [fillM_end] at HOi
                have hlen : ys.length ≤ 600 := by
                  have h1 := congrArg List.length HYb.out
                  rw [List.length_map, preM_len] at h1
                  omega
                have H3 := Lib.hid (ownK HRb.out.2.1 HBi.out)
                obtain ⟨k, hk⟩ : ∃ k, k = ys.length := ⟨_, rfl⟩
                rw [← hk] at H3 hlen
                have HK := Lib.hid hk
                have HXs := Lib.hid (And.intro HRb.out.1.size HBi.out.size)
                clear hk
                go_wp2_with (at_builtin; refine wpList_cat_at elemIntsQ _ _ rfl rfl (H3.out.alloc _) (by have := HXs.out; simp; omega) (Sl.newAt wr _ _ 1 rfl) rfl rfl (by simp [Value.oneCell']) (by unfold lim; omega) (by unfold lim; omega) ?_; intro v6 w6 hown6 hgr6; obtain ⟨g6, c6, rfl, _⟩ := own_form hown6 (by omega); have HO6 := Lib.hid hown6; have HG6 := Lib.hid hgr6; clear hown6 hgr6)
                obtain ⟨v6, hv6⟩ : ∃ v6, v6 = Value.slice (some ⟨g6, 0, none⟩) (k + 1) c6 := ⟨_, rfl⟩
                rw [← hv6] at HO6 HG6 ⊢
                clear hv6
                have hl : (altL i (a : Int) (b : Int)).length = i := altL_len _ _ _
                have hrow : RowOK (wr.alloc (.cells #[.slice (some ⟨w5.heap.size, 0, none⟩) i i] 22)) (some ⟨w5.heap.size, 0, none⟩, i, altL i (a : Int) (b : Int)) := ⟨by rw [hl]; exact Sl.of_own (HOi.out.alloc _), by simp only; omega, by simp only; omega⟩
                have HP := Lib.hid (HRb.out.push HBi.out hrow (Nat.le_refl _) (by have h := (HOi.out.lt w5.heap.size rfl).2; simp; omega) (by have h := HO6.out; rw [← HK.out]; simp only [rv, hl]; exact h) HG6.out)
                go_roundw
                case rel => exact ⟨b + 1, _, by omega, by go_num, HP, Lib.hid (by rw [List.map_append, HYb.out, show min (T + b) 600 = T + b by omega, show min (T + (b + 1)) 600 = T + b + 1 by omega, HT.out.1, preM_next hbu]; rfl)⟩
                case measure => simp [intOf]; omega
          · have h6' : (600 : Int) ≤ (T : Int) + (b : Int) := by omega
            go_wp2_with fail
            go_roundw
            case rel => exact ⟨a + 1, ys, by omega, by go_num, HRb, Lib.hid (by rw [HYb.out, HT.out.2.2, show min (T + b) 600 = 600 by omega, show min (T + u) 600 = 600 by omega])⟩
            case measure => simp [intOf]; omega
        · obtain rfl : b = u := by omega
          have hbu' : ¬ (b : Int) < (b : Int) := by omega
          go_wp2_with fail
          go_roundw
          case rel => exact ⟨a + 1, ys, by omega, by go_num, HRb, Lib.hid (by rw [HYb.out, HT.out.2.2])⟩
          case measure => simp [intOf]; omega
    · obtain rfl : a = u := by omega
      have hau' : ¬ (a : Int) < (a : Int) := by omega
      obtain ⟨J, hJ⟩ : ∃ J, J = min (a * a) 600 := ⟨_, rfl⟩
      have haa : 2 * 2 ≤ a * a := Nat.mul_le_mul hu2 hu2
      rw [← hJ] at HYa
      have hJ1 : 1 ≤ J ∧ J ≤ 600 := by omega
      have hyl : ys.length = J := by
        have h1 := congrArg List.length HYa.out
        rw [List.length_map, preM_len] at h1
        exact h1
      obtain ⟨r1, r3, r4⟩ := HRa.out
      rw [hyl] at r3
      obtain ⟨g, c, rfl, _⟩ := own_form r3 (by omega)
      have hrows : AllRows wr ys := fun t ht => (r4 t ht).1
      have HOf1 := Lib.hid (OfOd_any n ys (some ⟨g, 0, none⟩) J c wr hn1 hn8 hyl (by omega) (Sl.of_own r3) hrows (fun t ht => by
        have hm : t.2.2 ∈ preM n a J := by rw [← HYa.out]; exact List.mem_map.2 ⟨t, ht, rfl⟩
        exact ⟨preM_el_len _ hm, preM_num hu2 hu301 hJ1.2 _ hm⟩))
      rw [HYa.out] at HOf1
      have HOk := Lib.hid (preM_ok hn1 hn8 hu2 hu301 hJ1.2)
      have HPos := Lib.hid (preM_pos (w := a) hn1 hJ1.1)
      obtain ⟨od, hod⟩ : ∃ od, od = odOf n (preM n a J) := ⟨_, rfl⟩
      rw [← hod] at HOf1 HOk HPos
      obtain ⟨T, hT⟩ : ∃ T, T = (allP od).length := ⟨_, rfl⟩
      rw [← hT] at HPos
      have HTot := Lib.hid (show totP od = (T : Int) from by unfold totP; rw [hT])
      have HTl := Lib.hid hT
      have HTb := Lib.hid (show T ≤ 4611686018427387904 from by have h := HOk.out.F.2; rw [HTot.out] at h; omega)
      have HX3 := Lib.hid (HX1.out.keep r1)
      have HW3 := Lib.hid (HW1.out.andThen r1)
      clear hJ haa hJ1 hyl r1 r3 r4 hrows hod hT HRa HYa HX1 HW1 hmk ha hau hau'
      go_upto_region 22 with (go_at_call 21; refine HOf1.out.mono ?_; clear HOf1; rintro e w5 ⟨p, rfl, ho, hb⟩; have HOd := Lib.hid ho; have HB5 := Lib.hid hb; clear ho hb)
      have HX5 := Lib.hid (HX3.out.keep HB5.out)
      have HW5 := Lib.hid (HW3.out.andThen HB5.out)
      clear HX3 HW3 HB5
      have HS1 := Lib.hid (RankOf_any p n od w5 HOd.out HOk.out.B HOk.out.len HOk.out.h1 HOk.out.h8 HOk.out.Nu HOk.out.C HOk.out.F)
      go_upto_region 28 with (first
        | (go_at_call 30; refine HS1.out.mono ?_; clear HS1; rintro e w6 ⟨q, rfl, ho, hb⟩; have HRk := Lib.hid ho; have HB6 := Lib.hid hb; have HS2 := Lib.hid (Count_any p n od w6 (HOd.out.keep hb) HOk.out); rw [HTot.out] at HS2; clear ho hb)
        | (go_at_call 22; refine HS2.out.mono ?_; clear HS2; rintro e w7 ⟨rfl, hb⟩; have HB7 := Lib.hid hb; have HS3 := Lib.hid (At_nil 0 w7); clear hb)
        | (go_at_call 38; refine HS3.out.mono ?_; clear HS3; rintro e w8 ⟨ev, rfl, hv, hb⟩; obtain ⟨g8, rfl, hk8⟩ := hv; have HE8 := Lib.hid hk8; have HB8 := Lib.hid hb; have HS4 := Lib.hid (Rank_nil none 0 0 w8); clear hk8 hb)
        | (go_at_call 39; refine HS4.out.mono ?_; clear HS4; rintro e w9 ⟨ev, rfl, hv, hb⟩; obtain ⟨g9, rfl, hk9⟩ := hv; have HE9 := Lib.hid hk9; have HB9 := Lib.hid hb; have HS5 := Lib.hid (RankOf_nil w9); clear hk9 hb)
        | (go_at_call 30; refine HS5.out.mono ?_; clear HS5; rintro e w10 ⟨ev, rfl, hv, hb⟩; obtain ⟨g10, rfl, hk10⟩ := hv; have HE10 := Lib.hid hk10; have HB10 := Lib.hid hb; clear hk10 hb)
        | fail)
      have HB810 := Lib.hid (HB9.out.andThen HB10.out)
      have HB510 := Lib.hid (HB6.out.andThen (HB7.out.andThen (HB8.out.andThen HB810.out)))
      have HX10 := Lib.hid (HX5.out.keep HB510.out)
      have HW10 := Lib.hid (HW5.out.andThen HB510.out)
      have HRk10 := Lib.hid (HRk.out.keep (HB7.out.andThen (HB8.out.andThen HB810.out)))
      have HE810 := Lib.hid (HE8.out.keep HB810.out)
      have HE910 := Lib.hid (HE9.out.keep HB10.out)
      clear HX5 HW5 HRk HE8 HE9 HB6 HB7 HB8 HB9 HB10 HB810 HB510 HOd
      go_wp2_with (go_at_call 32; refine (Each_any none _ _ _).mono ?_; rintro e wx ⟨rfl, rfl⟩)
      obtain ⟨W5, hW5⟩ : ∃ W5, (w10.alloc (.cells #[.pointer none] 57)).alloc (.cells #[.int .i64 0, .int .i64 9] 63) = W5 := ⟨_, rfl⟩
      have hb5 : Below w10.heap.size w10 W5 := by rw [← hW5]; exact bel_al (bel_al (Below.refl _ _) _) _
      have hr5 : Blk W5 w10.heap.size 57 #[.pointer none] := by rw [← hW5]; exact (Blk.new w10 _ _).alloc _
      have hp5 : Blk W5 (w10.heap.size + 1) 63 #[.int .i64 0, .int .i64 9] := by
        have := Blk.new (w10.alloc (.cells #[.pointer none] 57)) 63 #[.int .i64 0, .int .i64 9]
        rw [World.size_alloc, hW5] at this
        exact this
      rw [hW5]
      clear hW5
      refine (wpIn_wide (n := 5)).1 ?_
      refine rangeFunc_one (fun _ b => b) rfl (by omega) (gf := 71) (lb := #[.pointer (some ⟨w10.heap.size + 1, 0, none⟩), .pointer (some ⟨w10.heap.size, 0, none⟩)]) rfl trivial (enters_of Tryd.func71 (by kernel_rfl) rfl)
        (each_nil _ (w10.heap.size + 1) w10.heap.size 0 9 W5 hp5 hr5 (by decide)) (fun pre x W l o o' _ _ h => h) (fun _ _ => trivial) (fun _ _ _ _ _ _ _ _ _ => trivial) (Below.refl _ _)
        (fun _ W => Below w10.heap.size w10 W) (fun _ _ _ => False) (ownFrom_below (Nat.le_refl _) hb5.size) (fun c s A B row hs _ _ => hs.elim) hb5 ?assign ?body ?done ?stop
      case assign =>
        intro l x W K hK
        gi_wp2
        exact hK
      case body =>
        rintro l pre x W _ h
        exact h.elim
      case stop =>
        rintro D c pre W _ _ h _
        exact h.elim
      case done =>
        rintro D xs W6 hD _ hb6 hK6
        have HX6 := Lib.hid (HX10.out.keep hb6)
        have HW6 := Lib.hid (HW10.out.andThen hb6)
        have HRk6 := Lib.hid (HRk10.out.keep hb6)
        have HE8 := Lib.hid (HE810.out.keep hb6)
        have HE9 := Lib.hid (HE910.out.keep hb6)
        have HE0 := Lib.hid (HE10.out.keep hb6)
        have HD6 := Lib.hid (show w.heap.size ≤ D from Nat.le_trans HW10.out.size (Nat.le_trans hb5.size hD))
        have HK6 := Lib.hid hK6
        have HG6 := Lib.hid (HG.out.keep HW6.out)
        clear hp5 hr5 hb5 hb6 hK6 hD HX10 HW10 HRk10 HE810 HE910 HE10 HG
        have HS1 := Lib.hid (Code_nil W6)
        go_upto_region 34 with (first
          | (go_at_call 35; refine HS1.out.mono ?_; clear HS1; rintro e wx ⟨rfl, rfl⟩; have HS2 := Lib.hid (Code_nil W6))
          | (go_at_call 35; refine HS2.out.mono ?_; clear HS2; rintro e wx ⟨rfl, rfl⟩; have HS3 := Lib.hid (Code_flt g8 10 0 _ W6 HG6.out HE8.out))
          | (go_at_call 35; refine HS3.out.mono ?_; clear HS3; rintro e w11 ⟨rfl, hb⟩; have HB11 := Lib.hid hb; have HS4 := Lib.hid (Code_flt g9 10 0 _ w11 (HG6.out.keep hb) (HE9.out.keep hb)); clear hb)
          | (go_at_call 35; refine HS4.out.mono ?_; clear HS4; rintro e w12 ⟨rfl, hb⟩; have HB12 := Lib.hid (HB11.out.andThen hb); have HS5 := Lib.hid (Code_flt g10 10 0 _ w12 (HG6.out.keep HB12.out) (HE0.out.keep HB12.out)); clear hb)
          | (go_at_call 35; refine HS5.out.mono ?_; clear HS5; rintro e w13 ⟨rfl, hb⟩; have HB13 := Lib.hid (HB12.out.andThen hb); have HS6 := Lib.hid (Total_nil w13); clear hb)
          | (go_at_call 34; refine HS6.out.mono ?_; clear HS6; rintro e wx ⟨rfl, rfl⟩)
          | fail)
        have HX13 := Lib.hid (HX6.out.keep HB13.out)
        have HW13 := Lib.hid (HW6.out.andThen HB13.out)
        have HRk13 := Lib.hid (HRk6.out.keep HB13.out)
        have HK13 := Lib.hid (show w13.heap[D]? = some (.deferred (some [])) from (HB13.out.block D (Array.getElem?_eq_some_iff.1 HK6.out).1).trans HK6.out)
        clear HX6 HW6 HRk6 HE8 HE9 HE0 HK6 HG6 HB11 HB12 HB13
        have HS1 := Lib.hid (RkTotal_any q p od w13 HRk13.out)
        rw [HTot.out] at HS1
        have hu1 : IntKind.u64.wrap (T : Int) = (T : Int) := by
          have h := HTb.out
          have h2 : IntKind.u64.wrap (T : Int) = (T : Int) % 18446744073709551616 := by unfold IntKind.wrap; rfl
          rw [h2]
          omega
        have hT0 : ((T : Int) == 0) = false := by have := HPos.out; simp; omega
        have hT1 : ¬ (T : Int) = 0 := by have := HPos.out; omega
        have hwh0 : (0 : Int) ≤ (wh : Int) := by omega
        have hT3 : (0 : Int) ≤ (T : Int) := by omega
        go_upto_region 36 with (go_at_call 34; refine HS1.out.mono ?_; clear HS1; rintro e wx ⟨rfl, rfl⟩)
        go_upto_region 37 with (fail)
        obtain ⟨k0, hk0⟩ : ∃ k0, k0 = wh % T := ⟨_, rfl⟩
        have hkT : k0 < T := by rw [hk0]; exact Nat.mod_lt _ HPos.out
        have hke : wrap64 ((wh : Int) % (T : Int)) = (k0 : Int) := by
          have h1 : (wh : Int) % (T : Int) = ((wh % T : Nat) : Int) := rfl
          rw [h1, ← hk0]
          exact wrap64_nn (by have := HTb.out; omega)
        rw [hke]
        obtain ⟨P, hP⟩ : ∃ P, (allP od)[k0]? = some P := ⟨_, List.getElem?_eq_getElem (by rw [← HTl.out]; exact hkT)⟩
        have hPl := HOk.out.P P (List.mem_of_getElem? hP)
        have HP := Lib.hid (And.intro hP hPl)
        have HS1 := Lib.hid (At_ok q p n k0 P od w13 HRk13.out HOk.out.B HOk.out.len HOk.out.h1 HOk.out.h8 HOk.out.Nu HOk.out.C HOk.out.F hP hPl)
        clear hk0 hkT hke hP hPl hu1 hT0 hT1 hwh0 hT3
        go_upto_region 38 with (go_at_call 38; refine HS1.out.mono ?_; clear HS1; rintro e w14 ⟨v, rfl, hown, hb⟩; obtain ⟨g14, c14, rfl, _⟩ := own_form hown hn1; have HO14 := Lib.hid hown; have HB14 := Lib.hid hb; clear hown hb)
        have HS2 := Lib.hid ((RankRank_any q p n od P (some ⟨g14, 0, none⟩) n c14 w14 (HRk13.out.keep HB14.out) HOk.out HP.out.2 (by omega) (own_cap HO14.out) (Sl.of_own HO14.out) (allP_ok HOk.out (List.mem_of_getElem? HP.out.1))).mono (R' := fun e w15 => e = .returned (.tuple #[.int .i64 (k0 : Int), .nilIface]) ∧ Below w14.heap.size w14 w15) (fun e w15 h => by
          obtain ⟨z, ev, rfl, hb, h⟩ := h
          rcases h with ⟨_, rfl, hz⟩ | ⟨hn, _⟩
          · rw [hz k0 HP.out.1]
            exact ⟨rfl, hb⟩
          · exact absurd (List.mem_of_getElem? HP.out.1) hn))
        go_wp2_with (go_at_call 39; refine HS2.out.mono ?_; clear HS2; rintro e w15 ⟨rfl, hb⟩; have HB15 := Lib.hid (HB14.out.andThen hb); have cx := (HX13.out.keep HB15.out).cell 0; have fx := (HX13.out.keep HB15.out).frozen 0; simp at cx; clear hb)
        have HB := HB15.out
        exact law_endAt [D] w.heap.size (Nat.le_refl _) (fun V hV => by simp [results, Tryd.results11, go_sem, hV]) rfl (fun E h => by rw [List.mem_singleton.1 h]; exact (HB.block D (Array.getElem?_eq_some_iff.1 HK13.out).1).trans HK13.out) (by simp) (HX13.out.keep HB) (HW13.out.andThen HB) (fun E h => by rw [List.mem_singleton.1 h]; exact HD6.out)

/-- RankMany, as its frame asks it. -/
theorem RankMany_main (a0 a1 a2 : Int) (w : World) (hg : ErrT w) (w0 : (Lit.int .u8 a0).wf = true) (w1 : (Lit.int .u8 a1).wf = true) (w2 : (Lit.int .u64 a2).wf = true) :
    Calls Tryd.prog 11 #[.int .u8 a0, .int .u8 a1, .int .u64 a2] w fun e w' => e = .returned (.bool true) ∧ Below w.heap.size w w' := by
  have h0 := wf_u8 w0
  have h1 := wf_u8 w1
  have h2 := wf_u64m w2
  obtain ⟨x, rfl⟩ : ∃ x : Nat, a0 = (x : Int) := ⟨a0.toNat, by omega⟩
  obtain ⟨y, rfl⟩ : ∃ y : Nat, a1 = (y : Int) := ⟨a1.toNat, by omega⟩
  obtain ⟨z, rfl⟩ : ∃ z : Nat, a2 = (z : Int) := ⟨a2.toNat, by omega⟩
  exact RankMany_walk x y z w hg (by omega) (by omega) (by omega)
end Go.Proofs.YtmonepclhbappaaDoor
