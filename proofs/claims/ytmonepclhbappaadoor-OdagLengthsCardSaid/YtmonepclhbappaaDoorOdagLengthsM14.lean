/-
  Part 14 of the proof of OdagLengths: OdagLengths.
-/
import Derived.BigQuiet
import Derived.Deep.DeepCutAuto
import Derived.Test.YtmonepclhbappaaDoorOdagLengthsM11
import Derived.Test.YtmonepclhbappaaDoorOdagLengthsM12
import Derived.Test.YtmonepclhbappaaDoorOdagLengthsM13
import Derived.Test.YtmonepclhbappaaDoorOdagLengthsM2
/-
  OdagLengths.
-/
namespace Go.Proofs.YtmonepclhbappaaDoor
open Go.RowKit Go.Maps
attribute [local go_sem] Oper.semAt_some
set_option maxRecDepth 100000
set_option linter.unusedVariables false

def fill2 (n : Nat) (a b : Int) (i : Nat) : List Int := (List.range n).map fun j => if j < i then (if j % 2 = 1 then b else a) else 0
theorem fill2_zero (n : Nat) (a b : Int) : fill2 n a b 0 = List.replicate n 0 := by
  unfold fill2
  refine List.ext_getElem (by simp) fun i h1 h2 => by simp
theorem fill2_end (n : Nat) (a b : Int) : fill2 n a b n = altL n a b := by
  unfold fill2 altL
  refine List.map_congr_left fun j hj => ?_
  rw [if_pos (List.mem_range.1 hj)]
theorem fill2_len (n : Nat) (a b : Int) (i : Nat) : (fill2 n a b i).length = n := by unfold fill2; simp
theorem fill2_step (n : Nat) (a b : Int) (i : Nat) : fill2 n a b (i + 1) = (fill2 n a b i).set i (if i % 2 = 1 then b else a) := by
  refine List.ext_getElem (by simp [fill2]) fun j h1 h2 => ?_
  rw [List.getElem_set]
  simp only [fill2, List.getElem_map, List.getElem_range]
  by_cases hij : i = j
  · subst hij
    rw [if_pos rfl, if_pos (by omega)]
  · rw [if_neg hij]
    by_cases h : j < i
    · rw [if_pos h, if_pos (by omega)]
    · rw [if_neg h, if_neg (by omega)]

set_option maxHeartbeats 32000000 in
theorem OdagLengths_walk (x y : Nat) (w : World) (hg : ErrT w) (hx : x < 256) (hy : y < 256) :
    Calls Tryd.prog 4 #[.int .u8 (x : Int), .int .u8 (y : Int)] w fun e w' => e = .returned (.bool true) ∧ Below w.heap.size w w' := by
  have HG := Lib.hid hg
  have HXY := Lib.hid (And.intro hx hy)
  have hx0 : (0 : Int) ≤ (x : Int) := by omega
  have hy0 : (0 : Int) ≤ (y : Int) := by omega
  have hx1 : (x : Int) < 256 := by omega
  have hy1 : (y : Int) < 256 := by omega
  clear hg hx hy
  refine (callsIn_wide (n := 5)).1 ?_
  refine callsIn_of_wp_marks Tryd.func4 rfl trivial ?_ rfl
  simp only [Tryd.ntmps4, List.size_toArray, List.length_cons, List.length_nil, Nat.reduceAdd, Nat.reduceSub, Array.replicate_succ, Array.replicate_zero, List.push_toArray, List.append_toArray, List.nil_append, List.cons_append]
  refine wpIn_wide.2 ?_
  go_upto_region 1 with (fail)
  obtain ⟨W0, hW0⟩ : ∃ W0, w.alloc (.cells #[.bool false] 4) = W0 := ⟨_, rfl⟩
  have hb0 : Below w.heap.size w W0 := by rw [← hW0]; exact bel_al (Below.refl _ _) _
  have hx0' : Blk W0 w.heap.size 4 #[.bool false] := by rw [← hW0]; exact Blk.new w _ _
  rw [hW0]
  clear hW0
  have HB0 := Lib.hid hb0
  have HX0 := Lib.hid hx0'
  clear hb0 hx0'
  have HAl := Lib.hid (alive13 W0 (HG.out.keep HB0.out))
  go_upto_region 4 with (go_at_call 20; refine HAl.out.mono ?_; clear HAl; rintro e w1 ⟨rfl, hb1⟩; have HB1 := Lib.hid hb1; clear hb1)
  obtain ⟨n, hn⟩ : ∃ n : Nat, 1 + (x : Int) % 8 = (n : Int) := ⟨(1 + (x : Int) % 8).toNat, by omega⟩
  obtain ⟨u, hu⟩ : ∃ u : Nat, 1 + (y : Int) % 4 = (u : Int) := ⟨(1 + (y : Int) % 4).toNat, by omega⟩
  rw [hn, hu]
  have hn1 : 1 ≤ n := by omega
  have hn8 : n ≤ 8 := by omega
  have hu1 : 1 ≤ u := by omega
  have hu4 : u ≤ 4 := by omega
  generalize (x : Int) % 8 = sx at *
  generalize (y : Int) % 4 = sy at *
  clear hn hu
  go_upto_region 5 with (fail)
  obtain ⟨W2, hW2⟩ : ∃ W2, w1.alloc (.cells #[.slice none 0 0] 40) = W2 := ⟨_, rfl⟩
  have hb2 : Below w1.heap.size w1 W2 := by rw [← hW2]; exact bel_al (Below.refl _ _) _
  have ho2 : Blk W2 w1.heap.size 40 #[.slice none 0 0] := by rw [← hW2]; exact Blk.new w1 _ _
  have hs2 : W2.heap.size = w1.heap.size + 1 := by rw [← hW2]; simp
  rw [hW2]
  clear hW2
  have HX1 := Lib.hid (HX0.out.keep HB1.out)
  have HW1 := Lib.hid (HB0.out.andThen HB1.out)
  have HR2 := Lib.hid (OutR.new (n₀ := w1.heap.size) (B := w1.heap.size + 1) (Bo := w1.heap.size) (w0 := w1) hb2 ho2)
  have HS2 := Lib.hid hs2
  clear hb2 ho2 hs2 HX0 HB0 HB1
  have hmk := fun W => make_elem (P := Tryd.prog) elemInt rfl n (by omega) (by omega) W
  go_wp2_with fail
  go_loopw [8] (fun av wr => ∃ (a : Nat) (ys : List RowE), a ≤ u ∧ av = .int .i64 (a : Int) ∧ Hid (OutR w1.heap.size (w1.heap.size + 1) w1.heap.size w1 ys wr) ∧ Hid (ys.map (·.2.2) = pre2 n u a 0) ∧ Hid (w1.heap.size + 1 ≤ wr.heap.size)) (fun av _ => u - (intOf av).toNat)
  case atStart => exact ⟨0, [], Nat.zero_le _, rfl, HR2, Lib.hid rfl, Lib.hid (by have := HS2.out; omega)⟩
  case round =>
    obtain ⟨a, ys, ha, rfl, HRa, HYa, HSa⟩ := hrel
    by_cases hau : a < u
    · have hau' : (a : Int) < (u : Int) := by omega
      go_wp2_with fail
      go_loopw [9] (fun bv wr => ∃ (b : Nat) (ys : List RowE), b ≤ u ∧ bv = .int .i64 (b : Int) ∧ Hid (OutR w1.heap.size (w1.heap.size + 1) w1.heap.size w1 ys wr) ∧ Hid (ys.map (·.2.2) = pre2 n u a b) ∧ Hid (w1.heap.size + 1 ≤ wr.heap.size)) (fun bv _ => u - (intOf bv).toNat)
      case atStart => exact ⟨0, ys, Nat.zero_le _, rfl, HRa, HYa, HSa⟩
      case round =>
        clear HRa HYa HSa
        obtain ⟨b, ys, hb, rfl, HRb, HYb, HSb⟩ := hrel
        by_cases hbu : b < u
        · have hbu' : (b : Int) < (u : Int) := by omega
          have HOwn := Lib.hid (own_replicate (B := wr.heap.size) (e := 3) wr n (.int .i64 0) (Nat.le_refl _) (by omega))
          obtain ⟨w5, hw5⟩ : ∃ w5, w5 = wr := ⟨_, rfl⟩
          rw [← hw5] at HOwn HRb HSb ⊢
          clear hw5
          go_wp2_with fail
          go_loopw [11] (fun iv wr => ∃ i : Nat, i ≤ n ∧ iv = .int .i64 (i : Int) ∧ Hid (wr.ownsRow w5.heap.size 3 1 (.slice (some ⟨w5.heap.size, 0, none⟩) n n) n ((fill2 n (a : Int) (b : Int) i).map (Value.int .i64))) ∧ Hid (Below w5.heap.size w5 wr)) (fun iv _ => n - (intOf iv).toNat)
          case atStart => exact ⟨0, Nat.zero_le _, rfl, by rw [fill2_zero, List.map_replicate]; exact HOwn, Lib.hid (bel_al (Below.refl _ _) _)⟩
          case round =>
            clear HOwn
            obtain ⟨i, hi, rfl, HOi, HBi⟩ := hrel
            by_cases hin : i < n
            · have hin' : (i : Int) < (n : Int) := by omega
              have hi0 : (0 : Int) ≤ (i : Int) := by omega
              have hcell := HOi.out.cellAt i (by omega)
              obtain ⟨z0, hz0⟩ : ∃ z0, ((fill2 n (a : Int) (b : Int) i).map (Value.int .i64))[i]? = some (.int .i64 z0) := by
                rw [List.getElem?_map, List.getElem?_eq_getElem (by rw [fill2_len]; exact hin)]
                exact ⟨_, rfl⟩
              rw [hz0] at hcell
              have hfr := HOi.out.frozenAt i
              have HSt := Lib.hid (fun v => HOi.out.stored i v)
              have HSta := Lib.hid ((HOi.out.stored i (.int .i64 (a : Int))).1)
              have hcell2 := HSta.out.cellAt i (by omega)
              rw [List.getElem?_set_self (by rw [List.length_map, fill2_len]; exact hin)] at hcell2
              have hfr2 := HSta.out.frozenAt i
              clear hz0
              by_cases hpar : i % 2 = 1
              · have hp1 : (i : Int) % 2 = 1 := by omega
                have hp2 : ((i : Int) % 2 == 1) = true := by simp [hp1]
                have HStb := Lib.hid ((HSta.out.stored i (.int .i64 (b : Int))).1)
                have HFl := Lib.hid (fill2_step n (a : Int) (b : Int) i)
                rw [if_pos hpar] at HFl
                clear hpar
                go_wp2_with fail
                go_roundw
                case rel =>
                  refine ⟨i + 1, by omega, by go_num, Lib.hid ?_, Lib.hid ((HBi.out.setCell (p := ⟨w5.heap.size, i, none⟩) (Nat.le_refl _) _).setCell (p := ⟨w5.heap.size, i, none⟩) (Nat.le_refl _) _)⟩
                  rw [HFl.out, List.map_set]
                  have h := HStb.out
                  rw [List.set_set] at h
                  exact h
                case measure => simp [intOf]; omega
              · have hp1 : ¬ (i : Int) % 2 = 1 := by omega
                have hp2 : ((i : Int) % 2 == 1) = false := by simp [hp1]
                have HFl := Lib.hid (fill2_step n (a : Int) (b : Int) i)
                rw [if_neg hpar] at HFl
                clear hpar
                go_wp2_with fail
                go_roundw
                case rel =>
                  refine ⟨i + 1, by omega, by go_num, Lib.hid ?_, Lib.hid (HBi.out.setCell (p := ⟨w5.heap.size, i, none⟩) (Nat.le_refl _) _)⟩
                  rw [HFl.out, List.map_set]
                  exact HSta.out
                case measure => simp [intOf]; omega
            · obtain rfl : i = n := by omega
              have hin' : ¬ (i : Int) < (i : Int) := by omega
              rw [fill2_end] at HOi
              have HRx := Lib.hid (HRb.out.keep (by have := HSb.out; omega) HBi.out)
              have hlen : ys.length ≤ 1000 := by
                have h1 := congrArg List.length HYb.out
                rw [List.length_map, pre2_len] at h1
                have h2 : a * u ≤ 4 * 4 := Nat.mul_le_mul (by omega) (by omega)
                omega
              obtain ⟨r1, v, r2, r3, r4, r5⟩ := HRx.out
              obtain ⟨k, hk⟩ : ∃ k, k = ys.length := ⟨_, rfl⟩
              rw [← hk] at r3 hlen
              obtain ⟨A0, c0, rfl, _⟩ := Sl.own r3
              have cv := r2.cell 0
              simp at cv
              have H1 := Lib.hid r1
              have H2 := Lib.hid r2
              have H3 := Lib.hid r3
              have H4 := Lib.hid r4
              have H5 := Lib.hid r5
              have HK := Lib.hid hk
              have HXs := Lib.hid (show w5.heap.size ≤ wr.heap.size from HBi.out.size)
              clear r1 r2 r3 r4 r5 hk
              go_wp2_with (at_builtin; refine wpList_cat_at elemIntsQ _ _ rfl rfl (H3.out.alloc _) (by have := HSb.out; have := HXs.out; simp; omega) (Sl.newAt wr _ _ 1 rfl) rfl rfl (by simp [Value.oneCell']) (by unfold lim; omega) (by unfold lim; omega) ?_; intro v6 w6 hown6 hgr6; obtain ⟨g6, c6, rfl, _⟩ := own_form hown6 (by omega); have HO6 := Lib.hid hown6; have HG6 := Lib.hid hgr6; have fb := ((H2.out.alloc (.cells #[.slice (some ⟨w5.heap.size, 0, none⟩) i i] 22)).others (H3.out.alloc (.cells #[.slice (some ⟨w5.heap.size, 0, none⟩) i i] 22)) hgr6.g (by decide)).frozen 0; have cb := ((H2.out.alloc (.cells #[.slice (some ⟨w5.heap.size, 0, none⟩) i i] 22)).others (H3.out.alloc (.cells #[.slice (some ⟨w5.heap.size, 0, none⟩) i i] 22)) hgr6.g (by decide)).cell 0; simp at cb; clear hown6 hgr6)
              obtain ⟨v6, hv6⟩ : ∃ v6, v6 = Value.slice (some ⟨g6, 0, none⟩) (k + 1) c6 := ⟨_, rfl⟩
              rw [← hv6] at HO6 HG6 ⊢
              clear hv6
              have hl : (altL i (a : Int) (b : Int)).length = i := altL_len _ _ _
              have hrow : RowOK wr (some ⟨w5.heap.size, 0, none⟩, i, altL i (a : Int) (b : Int)) := ⟨by rw [hl]; exact Sl.of_own HOi.out, by simp only; omega, by simp only; omega⟩
              have HP := Lib.hid (OutR.push (y := (some ⟨w5.heap.size, 0, none⟩, i, altL i (a : Int) (b : Int))) H1.out H2.out H3.out H4.out H5.out hrow (fun x hx => by
                cases hx
                have hlt := (HOi.out.lt w5.heap.size rfl).2
                refine ⟨⟨hlt, fun e => ?_⟩, HSb.out⟩
                have hblk : ∃ cs, Blk wr w5.heap.size 3 cs := by
                  rcases HOi.out.2 with ⟨h7, _⟩ | ⟨g', cap, cur, h7, _, h8, _⟩
                  · cases h7
                  · cases h7
                    exact ⟨_, h8⟩
                obtain ⟨cs, hblk⟩ := hblk
                exact own_notBlk H3.out hblk (by decide) e.symm) (by omega) (Nat.le_refl _) (by have := HSb.out; have := HXs.out; omega) HK.out (by have h := HO6.out; simp only [rv, hl]; exact h) HG6.out)
              have HSz := Lib.hid (show wr.heap.size ≤ w6.heap.size from by have := HG6.out.g.size; simp at this; omega)
              go_roundw
              case rel => exact ⟨b + 1, _, by omega, by go_num, HP, Lib.hid (by rw [List.map_append, HYb.out, pre2_step]; rfl), Lib.hid (by have h1 := HSz.out; have h2 := HXs.out; have h3 := HSb.out; simp; omega)⟩
              case measure => simp [intOf]; omega
        · obtain rfl : b = u := by omega
          have hbu' : ¬ (b : Int) < (b : Int) := by omega
          go_wp2_with fail
          go_roundw
          case rel => exact ⟨a + 1, ys, by omega, by go_num, HRb, Lib.hid (by rw [HYb.out, pre2_row]), HSb⟩
          case measure => simp [intOf]; omega
    · obtain rfl : a = u := by omega
      have hau' : ¬ (a : Int) < (a : Int) := by omega
      have hlen : ∀ x ∈ pre2 n a a 0, x.length = n := fun x hx => by
        obtain ⟨c, d, _, rfl⟩ := pre2_el hx
        exact altL_len _ _ _
      have hnum : ∀ x ∈ pre2 n a a 0, ∀ t ∈ x, numOK t := fun x hx t ht => by
        obtain ⟨c, d, hcd, rfl⟩ := pre2_el hx
        exact altL_num (by unfold numOK; omega) (by unfold numOK; omega) ht
      have haa : a * a ≤ 16 := by
        have h2 : a * a ≤ 4 * 4 := Nat.mul_le_mul (by omega) (by omega)
        omega
      have haa1 : 1 ≤ a * a := Nat.mul_pos (by omega) (by omega)
      have hpl : (pre2 n a a 0).length = a * a := by rw [pre2_len]; rfl
      have hyl : ys.length = a * a := by
        have h1 := congrArg List.length HYa.out
        rw [List.length_map, hpl] at h1
        exact h1
      obtain ⟨y0, hy0⟩ : ∃ y0, ys[0]? = some y0 := ⟨_, List.getElem?_eq_getElem (by omega)⟩
      obtain ⟨D0, d0, l0⟩ := y0
      obtain rfl : l0 = altL n 0 0 := by
        have h1 : (ys.map (·.2.2))[0]? = some l0 := by rw [List.getElem?_map, hy0]; rfl
        rw [HYa.out, pre2_zero n a hu1] at h1
        exact (Option.some.inj h1).symm
      have ht1 : ys.take 1 = [(D0, d0, altL n 0 0)] := by
        obtain ⟨h1, h2⟩ := List.getElem?_eq_some_iff.1 hy0
        rw [List.take_succ_eq_append_getElem h1, h2]
        rfl
      obtain ⟨r1, v, r2, r3, r4, r5⟩ := HRa.out
      obtain ⟨z, hz⟩ : ∃ z, z = ys.length := ⟨_, rfl⟩
      rw [← hz] at r3 hyl
      obtain ⟨g, c, rfl, _⟩ := own_form r3 (by omega)
      have hcap := own_cap r3
      have hsl : Sl wr 1 (some ⟨g, 0, none⟩) z (ys.map rv) := Sl.of_own r3
      have hrows : AllRows wr ys := fun t ht => (r4 t ht).1
      have HSl := Lib.hid hsl
      have HRows := Lib.hid hrows
      have HBo := Lib.hid r2
      have HZ := Lib.hid hz.symm
      have HHy := Lib.hid (show (ys.map rv)[0]? = some (.slice D0 n d0) from by rw [List.getElem?_map, hy0]; simp [rv, altL_len])
      have HRow0 := Lib.hid (hrows _ (List.mem_of_getElem? hy0))
      have HOk1 := Lib.hid (odOf_ok8 n (pre2 n a a 0) hn1 hn8 (by rw [hpl]; exact haa) hlen hnum)
      have HOf1 := Lib.hid (OfOd_any n ys (some ⟨g, 0, none⟩) z c wr hn1 hn8 hz.symm (by omega) hsl hrows (fun t ht => by
        have hm : t.2.2 ∈ pre2 n a a 0 := by rw [← HYa.out]; exact List.mem_map.2 ⟨t, ht, rfl⟩
        exact ⟨hlen _ hm, hnum _ hm⟩))
      rw [HYa.out] at HOf1
      have HTot1 := Lib.hid (full_tot hn1 hn8 hu1 hu4)
      have HCost1 := Lib.hid (full_cost hn1 hn8 hu1 hu4)
      have HOk2 := Lib.hid (odOf_ok8 n [] hn1 hn8 (by simp) (fun x hx => by cases hx) (fun x hx => by cases hx))
      have HOf2 := Lib.hid (fun V => OfOd_any n [] none 0 0 V hn1 hn8 rfl (by omega) (Sl.nil _ _ _) (fun t ht => by cases ht) (fun t ht => by cases ht))
      have h3l : ∀ x ∈ [altL n 0 0], x.length = n := fun x hx => by rw [List.mem_singleton.1 hx]; exact altL_len _ _ _
      have h3n : ∀ x ∈ [altL n 0 0], ∀ t ∈ x, numOK t := fun x hx t ht => by rw [List.mem_singleton.1 hx] at ht; exact altL_num (by unfold numOK; omega) (by unfold numOK; omega) ht
      have HOk3 := Lib.hid (odOf_ok8 n [altL n 0 0] hn1 hn8 (by simp) h3l h3n)
      have HOf3 := Lib.hid (fun V (hb : Below wr.heap.size wr V) => by
        have h := OfOd_any n (ys.take 1) (some ⟨g, 0, none⟩) 1 c V hn1 hn8 (by rw [ht1]; rfl) (by omega) (by rw [List.map_take]; exact (hsl.keep hb).take (by omega)) (fun t ht => (hrows.keep hb) t (List.mem_of_mem_take ht)) (fun t ht => by
          rw [ht1] at ht
          rw [List.mem_singleton.1 ht]
          exact ⟨altL_len _ _ _, h3n _ (List.mem_singleton_self _)⟩)
        rw [ht1] at h
        exact h)
      have HOne := Lib.hid (ok1N_at hn1 hn8)
      have HX3 := Lib.hid (HX1.out.keep r1)
      have HW3 := Lib.hid (HW1.out.andThen r1)
      have cv := r2.cell 0
      simp at cv
      have HZ1 := Lib.hid (show 1 ≤ z ∧ z ≤ 16 from by omega)
      obtain ⟨od1, hod1⟩ : ∃ od1, od1 = odOf n (pre2 n a a 0) := ⟨_, rfl⟩
      obtain ⟨od2, hod2⟩ : ∃ od2, od2 = odOf n [] := ⟨_, rfl⟩
      obtain ⟨od3, hod3⟩ : ∃ od3, od3 = odOf n [altL n 0 0] := ⟨_, rfl⟩
      rw [← hod1] at HOk1 HOf1 HTot1 HCost1
      simp only [List.map_nil, List.map_cons] at HOf2 HOf3
      rw [← hod2] at HOk2 HOf2
      rw [← hod3] at HOk3 HOf3
      rw [← hod2, ← hod3] at HOne
      obtain ⟨T, hT⟩ : ∃ T : Nat, T = a ^ n := ⟨_, rfl⟩
      rw [← hT] at HTot1
      have HT := Lib.hid hT
      clear hod1 hod2 hod3 hT h3l h3n hlen hnum hpl hyl hy0 ht1 r1 r2 r3 r4 r5 hz hsl hrows HRa HYa HX1 HW1 haa haa1 hmk
      obtain ⟨w4, hw4⟩ : ∃ w4, w4 = wr := ⟨_, rfl⟩
      rw [← hw4] at HSl HRows HBo HRow0 HOf1 HOf3 HX3 HW3 cv HSa ⊢
      clear hw4
      go_upto_region 22 with (first
        | (go_at_call 21; refine HOf1.out.mono ?_; clear HOf1; rintro e w5 ⟨p1, rfl, ho, hb⟩; have HOd1 := Lib.hid ho; have HB5 := Lib.hid hb; clear ho hb)
        | (go_at_call 22; refine (Count_any p1 n od1 w5 HOd1.out HOk1.out).mono ?_; rw [HTot1.out]; rintro e w6 ⟨rfl, hb⟩; have HB6 := Lib.hid hb; clear hb))
      have HB46 := Lib.hid (HB5.out.andThen HB6.out)
      go_wp2_with fail
      go_loopw [16, 17] (fun pv iv wr => ∃ (i P : Nat), i ≤ n ∧ iv = .int .i64 (i : Int) ∧ pv = .int .i64 (P : Int) ∧ Hid (P = a ^ i) ∧ Hid (Below w6.heap.size w6 wr)) (fun _ iv _ => n - (intOf iv).toNat)
      case atStart => exact ⟨0, 1, Nat.zero_le _, rfl, rfl, Lib.hid rfl, Lib.hid (Below.refl _ _)⟩
      case round =>
        obtain ⟨i, P, hi, rfl, rfl, HP, HBi⟩ := hrel
        by_cases hin : i < n
        · have hin' : (i : Int) < (n : Int) := by omega
          obtain ⟨P2, hP2⟩ : ∃ P2 : Nat, P2 = P * a := ⟨_, rfl⟩
          have HP2 := Lib.hid (show P2 = a ^ (i + 1) from by rw [hP2, HP.out, Nat.pow_succ])
          have hP2b : P2 ≤ 65536 := by
            rw [HP2.out]
            have h1 : a ^ (i + 1) ≤ 4 ^ (i + 1) := Nat.pow_le_pow_left hu4 _
            have h2 : 4 ^ (i + 1) ≤ 4 ^ 8 := Nat.pow_le_pow_right (by omega) (by omega)
            have h3 : (4 : Nat) ^ 8 = 65536 := rfl
            omega
          have hPe : (P : Int) * (a : Int) = (P2 : Int) := by rw [hP2, Int.natCast_mul]
          have hPw : IntKind.i64.wrap ((P : Int) * (a : Int)) = (P2 : Int) := by rw [hPe, IntKind.wrap_i64]; omega
          clear hP2
          go_wp2_with fail
          go_roundw
          case rel => exact ⟨i + 1, P2, by omega, by go_num, rfl, HP2, HBi⟩
          case measure => simp [intOf]; omega
        · obtain rfl : i = n := by omega
          have hin' : ¬ (i : Int) < (i : Int) := by omega
          obtain rfl : P = T := by rw [HP.out, HT.out]
          have HB4 := Lib.hid (HB46.out.andThen HBi.out)
          obtain ⟨w7, hw7⟩ : ∃ w7, w7 = wr := ⟨_, rfl⟩
          have HOd17 := Lib.hid (HOd1.out.keep (HB6.out.andThen HBi.out))
          rw [← hw7] at HB4 HOd17 ⊢
          clear hw7 cv HOd1 HB5 HB6 HB46 HBi
          have cv7 := (HBo.out.keep HB4.out).cell 0
          simp at cv7
          have hz1 : (1 : Int) ≤ (c : Int) := by have := HZ1.out; omega
          have hz2 : 1 ≤ c := by omega
          go_upto_region 29 with (first
            | (go_at_call 21; refine (HOf2.out w7).mono ?_; clear HOf2; rintro e w8 ⟨p2, rfl, ho, hb⟩; have HOd2 := Lib.hid ho; have HB8 := Lib.hid hb; clear ho hb)
            | (go_at_call 22; refine (Count_any p2 i od2 w8 HOd2.out HOk2.out).mono ?_; rw [HOne.out.2.1]; rintro e w9 ⟨rfl, hb⟩; have cv9 := ((HBo.out.keep HB4.out).keep (HB8.out.andThen hb)).cell 0; simp at cv9; have HB9 := Lib.hid hb; clear hb)
            | (go_at_call 21; refine (HOf3.out w9 (HB4.out.andThen (HB8.out.andThen HB9.out))).mono ?_; clear HOf3; rintro e w10 ⟨p3, rfl, ho, hb⟩; have HOd3 := Lib.hid ho; have HB10 := Lib.hid hb; clear ho hb))
          have HB410 := Lib.hid (HB4.out.andThen ((HB8.out.andThen HB9.out).andThen HB10.out))
          have HX8 := Lib.hid (HX3.out.keep HB410.out)
          have HW8 := Lib.hid (HW3.out.andThen HB410.out)
          have HSl8 := Lib.hid (HSl.out.keep HB410.out)
          have HBo8 := Lib.hid (HBo.out.keep HB410.out)
          have HRow8 := Lib.hid (HRow0.out.keep HB410.out)
          have HO18 := Lib.hid (HOd17.out.keep ((HB8.out.andThen HB9.out).andThen HB10.out))
          have HO28 := Lib.hid (HOd2.out.keep (HB9.out.andThen HB10.out))
          clear cv7 cv9 HX3 HW3 HSl HBo HRow0 HOd17 HOd2 HB4 HB8 HB9 HB10 HB410 HRows
          go_upto_region 30 with (fail)
          obtain ⟨W8, hW8⟩ : ∃ W8, w10.alloc (.cells #[.int .i64 0] 3) = W8 := ⟨_, rfl⟩
          have hb8 : Below w10.heap.size w10 W8 := by rw [← hW8]; exact bel_al (Below.refl _ _) _
          have hn8' : Blk W8 w10.heap.size 3 #[.int .i64 0] := by rw [← hW8]; exact Blk.new w10 _ _
          have HS8 := Lib.hid (show W8.heap.size = w10.heap.size + 1 from by rw [← hW8]; simp)
          rw [hW8]
          clear hW8
          have HB8 := Lib.hid hb8
          have HN8 := Lib.hid hn8'
          clear hb8 hn8'
          go_wp2_with (go_at_call 23; refine (OdPaths_any (some ⟨p3, 0, none⟩) _).mono ?_; rintro e w5x ⟨rfl, rfl⟩)
          obtain ⟨V9, hV9⟩ : ∃ V9, W8.alloc (.cells #[.pointer (some ⟨p3, 0, none⟩)] 41) = V9 := ⟨_, rfl⟩
          have hb9 : Below W8.heap.size W8 V9 := by rw [← hV9]; exact bel_al (Below.refl _ _) _
          have hp9 : Blk V9 W8.heap.size 41 #[.pointer (some ⟨p3, 0, none⟩)] := by rw [← hV9]; exact Blk.new W8 _ _
          rw [hV9]
          clear hV9
          have HB9 := Lib.hid (HB8.out.andThen hb9)
          have hsz9 : w10.heap.size ≤ V9.heap.size := HB9.out.size
          have HL9 := Lib.hid hb9.size
          refine (wpIn_wide (n := 5)).1 ?_
          refine rangeFunc_one (fun x b => { b with tmps := b.tmps.setIfInBounds 25 (rv x) }) rfl (by omega) (gf := 60) (lb := #[.pointer (some ⟨W8.heap.size, 0, none⟩)]) rfl trivial (enters_of Tryd.func60 (by kernel_rfl) rfl)
            (paths_gives (5 - 1) w10.heap.size W8.heap.size W8.heap.size p3 i od3 w10 V9 HOd3.out HOk3.out rfl hsz9 HL9.out HB9.out hp9) knE_put KT.trans (fun _ W l o o' hl ho hc _ => KT.putObj o' (Nat.le_trans hsz9 hl) ho hc) (Below.refl _ _)
            (fun pre W => NtJ w10 pre.length W) (fun _ _ _ => False) (NtJ.own _ hsz9) (fun c s A B row hs _ _ => hs.elim)
            ⟨HB9.out, HN8.out.keep hb9⟩ ?assign2 ?body2 ?done2 ?stop2
          case assign2 =>
            intro l x W K hK
            gi_wp2
            exact hK
          case stop2 =>
            rintro D c pre W _ _ h _
            exact h.elim
          case body2 =>
            rintro l pre ⟨D, d, Q⟩ V ⟨i1, i2⟩ ⟨hown, hG⟩ hlt
            obtain ⟨k, hk⟩ : ∃ k, k = pre.length := ⟨_, rfl⟩
            rw [← hk] at hG hlt i2
            have hQ : Q = altL i 0 0 := by
              have h := List.mem_of_getElem? hG
              rw [HOne.out.1] at h
              exact List.mem_singleton.1 h
            subst hQ
            rw [HOne.out.1] at hlt
            have hk1 : k < 1 := hlt
            have hl : (altL i 0 0).length = i := altL_len _ _ _
            have hrow : RowOK V (D, d, altL i 0 0) := ⟨Sl.of_own hown, own_cap hown⟩
            have c2 := (HSl8.out.keep i1).again (show 0 < z by have := HZ1.out; omega) HHy.out
            simp only [Nat.zero_add] at c2
            have hr2 := HRow8.out.keep i1
            have hrw := hrow.1
            have hr2w := hr2.1
            simp only [hl] at hrw hr2w
            have HSm := Lib.hid (SameInts_same (altL i 0 0) D D0 i d d0 V hl hrw hr2w (by omega))
            have cA := (HBo8.out.keep i1).cell 0
            have cN := i2.cell 0
            simp at cA cN
            have hk0 : (0 : Int) ≤ (k : Int) := by omega
            have hk1' : (k : Int) < 1 := by omega
            have hz0 : (0 : Int) < (z : Int) := by have := HZ1.out; omega
            have hw1 : IntKind.i64.wrap ((k : Int) + 1) = (k : Int) + 1 := by rw [IntKind.wrap_i64]; omega
            have HNx := Lib.hid (show ∀ X, Below V.heap.size V X → X.cell? ⟨w10.heap.size, 0, none⟩ = some (.int .i64 (k : Int)) ∧ X.frozen? ⟨w10.heap.size, 0, none⟩ = false from fun X hX => by
              have h1 := (i2.keep hX).cell 0
              simp at h1
              exact ⟨h1, (i2.keep hX).frozen 0⟩)
            have HFn := Lib.hid (show ∀ X, Below V.heap.size V X → KeepsOthers V (X.setCell ⟨w10.heap.size, 0, none⟩ (.int .i64 ((k : Int) + 1))) ∧ KT w10.heap.size W8.heap.size V (X.setCell ⟨w10.heap.size, 0, none⟩ (.int .i64 ((k : Int) + 1))) ∧ NtJ w10 (pre ++ [(D, d, altL i 0 0)]).length (X.setCell ⟨w10.heap.size, 0, none⟩ (.int .i64 ((k : Int) + 1))) from fun X hX => by
              have h8 := HS8.out
              have h1 := i1.size
              refine ⟨(ko_belowE hX).trans (KeepsOthers.setCell _ _ _), (KT.of_below hX (by omega)).trans (KT.set _ (by omega) (by omega)), (i1.andThen hX).setCell (p := ⟨w10.heap.size, 0, none⟩) (by simp) _, ?_⟩
              rw [List.length_append, ← hk]
              exact (i2.keep hX).set_ 0 (.int .i64 ((k : Int) + 1)))
            clear i1 i2 hown hG hlt hrow hr2 hrw hr2w hk hk1
            simp only [rv, hl, List.setIfInBounds_toArray, List.set_cons_succ, List.set_cons_zero]
            clear hl
            gi_wp2_with (first
              | ((try refine ⟨trivial, ?_⟩); (try refine ⟨fun h => (by cases h), ?_⟩); gi_at_call 24; refine (CallsIn.inRound l (callsIn_wide.2 HSm.out)).mono ?_; clear HSm; rintro e X ⟨rfl, hb⟩; obtain ⟨c5, f5⟩ := HNx.out X hb; have HBX := Lib.hid hb; clear hb)
              | fail)
            exact HFn.out X HBX.out
          case done2 =>
            rintro D2 xs2 W9 hD2 hS2 ⟨i1, i2⟩ hK2
            have hx2 : xs2.length = 1 := by rw [hS2, HOne.out.1]; rfl
            rw [hx2] at i2
            have cN := i2.cell 0
            simp at cN
            have HX9 := Lib.hid (HX8.out.keep i1)
            have HW9 := Lib.hid (HW8.out.andThen i1)
            have HK2 := Lib.hid hK2
            have HD2 := Lib.hid (show w.heap.size ≤ D2 from Nat.le_trans HW8.out.size (Nat.le_trans hsz9 hD2))
            have HC2 := Lib.hid (by have h := Cost_any p2 i od2 W9 (HO28.out.keep i1) HOk2.out; rw [HOne.out.2.2] at h; exact h)
            obtain ⟨C, hC⟩ : ∃ C : Nat, C = i * a + (i - 1) * a * a := ⟨_, rfl⟩
            have HC1 := Lib.hid (fun V (hb : Below W9.heap.size W9 V) => by have h := Cost_any p1 i od1 V ((HO18.out.keep i1).keep hb) HOk1.out; rw [HCost1.out, ← hC] at h; exact h)
            obtain ⟨m, hm⟩ : ∃ m : Nat, m = i - 1 := ⟨_, rfl⟩
            obtain ⟨q1, hq1⟩ : ∃ q1 : Nat, q1 = i * a := ⟨_, rfl⟩
            obtain ⟨q2, hq2⟩ : ∃ q2 : Nat, q2 = m * a := ⟨_, rfl⟩
            obtain ⟨q3, hq3⟩ : ∃ q3 : Nat, q3 = q2 * a := ⟨_, rfl⟩
            have hb1 : q1 ≤ 8 * 4 := by rw [hq1]; exact Nat.mul_le_mul hn8 hu4
            have hb2 : q2 ≤ 8 * 4 := by rw [hq2]; exact Nat.mul_le_mul (by omega) hu4
            have hb3 : q3 ≤ 32 * 4 := by rw [hq3]; exact Nat.mul_le_mul (by omega) hu4
            have hCe : C = q1 + q3 := by rw [hC, hq3, hq2, hq1, hm]
            have e0 : (i : Int) - 1 = (m : Int) := by omega
            have e1 : (i : Int) * (a : Int) = (q1 : Int) := by rw [hq1, Int.natCast_mul]
            have e2 : (m : Int) * (a : Int) = (q2 : Int) := by rw [hq2, Int.natCast_mul]
            have e3 : (q2 : Int) * (a : Int) = (q3 : Int) := by rw [hq3, Int.natCast_mul]
            have e4 : (q1 : Int) + (q3 : Int) = (C : Int) := by omega
            have hCb : (C : Int) ≤ 1000 := by omega
            have e5 : ((C : Int) == (C : Int)) = true := by simp
            have e6 : ((P : Int) == (P : Int)) = true := by simp
            have HBd := Lib.hid (And.intro hb1 (And.intro hb2 hb3))
            clear i1 i2 hK2 hD2 hS2 hx2 hC hm hq1 hq2 hq3 hb1 hb2 hb3 hCe
            go_wp2_with (first
              | (go_at_call 25; refine HC2.out.mono ?_; clear HC2; rintro e w11 ⟨rfl, hb⟩; have HB11 := Lib.hid hb; clear hb)
              | (go_at_call 25; refine (HC1.out w11 HB11.out).mono ?_; clear HC1; rintro e w12 ⟨rfl, hb⟩; have cx := ((HX9.out.keep HB11.out).keep hb).cell 0; have fx := ((HX9.out.keep HB11.out).keep hb).frozen 0; simp at cx; have HB12 := Lib.hid hb; clear hb)
              | fail)
            have hbd := HBd.out
            have hv : ((C : Int) == wrap64 ((q1 : Int) + wrap64 (wrap64 (q2 : Int) * (a : Int)))) = true := by
              have v2 : wrap64 (q2 : Int) = (q2 : Int) := by unfold wrap64; omega
              have v3 : wrap64 (q3 : Int) = (q3 : Int) := by unfold wrap64; omega
              have v4 : wrap64 (C : Int) = (C : Int) := by unfold wrap64; omega
              rw [v2, e3, v3, e4, v4]
              exact e5
            rw [hv]
            have HB := HB11.out.andThen HB12.out
            exact law_endAt [D2] w.heap.size (Nat.le_refl _) (fun V hV => by simp [results, Tryd.results4, go_sem, hV]) rfl (fun D h => by rw [List.mem_singleton.1 h]; exact (HB.block D2 (Array.getElem?_eq_some_iff.1 HK2.out).1).trans HK2.out) (by simp) (HX9.out.keep HB) (HW9.out.andThen HB) (fun D h => by rw [List.mem_singleton.1 h]; exact HD2.out)

/-- OdagLengths, as its frame asks it. -/
theorem OdagLengths_main (a0 a1 : Int) (w : World) (hg : ErrT w) (w0 : (Lit.int .u8 a0).wf = true) (w1 : (Lit.int .u8 a1).wf = true) :
    Calls Tryd.prog 4 #[.int .u8 a0, .int .u8 a1] w fun e w' => e = .returned (.bool true) ∧ Below w.heap.size w w' := by
  have h0 := wf_u8 w0
  have h1 := wf_u8 w1
  obtain ⟨x, rfl⟩ : ∃ x : Nat, a0 = (x : Int) := ⟨a0.toNat, by omega⟩
  obtain ⟨y, rfl⟩ : ∃ y : Nat, a1 = (y : Int) := ⟨a1.toNat, by omega⟩
  exact OdagLengths_walk x y w hg (by omega) (by omega)
end Go.Proofs.YtmonepclhbappaaDoor
