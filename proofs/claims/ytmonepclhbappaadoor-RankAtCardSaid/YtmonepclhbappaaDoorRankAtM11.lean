/-
  Part 11 of the proof of RankAt: RankR, RefO.
-/
import Derived.Test.YtmonepclhbappaaDoorRankAtM9
import Derived.Test.YtmonepclhbappaaDoorRankAtM10
import Derived.Test.YtmonepclhbappaaDoorRankAtM6
import Derived.BigQuiet
/-
  Ranks: the contract of (*Ranks).Rank.
-/
namespace Go.Proofs.YtmonepclhbappaaDoor
open Go.RowKit Go.Maps
set_option maxRecDepth 100000
set_option linter.unusedVariables false

theorem sumZ_step {l : List Int} {f : Int → Int} {t : Nat} {b : Int} (h : l[t]? = some b) : sumZ ((l.take (t + 1)).map f) = sumZ ((l.take t).map f) + f b := by
  obtain ⟨h1, h2⟩ := List.getElem?_eq_some_iff.1 h
  rw [List.take_succ_eq_append_getElem h1, h2, List.map_append, sumZ_append]
  simp [sumZ]
theorem sumZ_part {l : List Int} {f : Int → Int} (hf : ∀ x, 0 ≤ f x) {t j : Nat} (h : t ≤ j) : sumZ ((l.take t).map f) ≤ sumZ ((l.take j).map f) := by
  have e : l.take j = l.take t ++ (l.take j).drop t := by
    conv => lhs; rw [← List.take_append_drop t (l.take j)]
    rw [List.take_take, Nat.min_eq_left h]
  rw [e, List.map_append, sumZ_append]
  have := sumZ_nn (l := ((l.take j).drop t).map f) fun x hx => by
    obtain ⟨y, _, rfl⟩ := List.mem_map.1 hx
    exact hf y
  omega

set_option maxHeartbeats 16000000 in
theorem RankRank_any (q p N : Nat) (od : List Rw) (P : List Int) (A : Option Addr) (n c : Nat) (w : World) (h : RkM w q p od) (hO : OdOK od N) (hl : P.length = n) (hn : n ≤ 1000000) (hc : n ≤ c ∧ c ≤ 9223372036854775807) (hs : Sl w 1 A n (P.map (Value.int .i64))) (hx : ∀ x ∈ P, i64ok x) :
    Calls Tryd.prog 39 #[.pointer (some ⟨q, 0, none⟩), .slice A n c] w fun e w' => ∃ z ev, e = .returned (.tuple #[.int .i64 z, ev]) ∧ Below w.heap.size w w' ∧ ((P ∈ allP od ∧ ev = .nilIface ∧ ∀ k0 : Nat, (allP od)[k0]? = some P → z = (k0 : Int)) ∨ (P ∉ allP od ∧ z = 0 ∧ (Err.flt 5 0 ⟨#[112, 97, 116, 104]⟩).At w' ev)) := by
  obtain ⟨mb, m, f, hq, hm, hod, hf⟩ := h
  have c0 := hq.cell 0
  have c1 := hq.cell 1
  simp at c0 c1
  have HQ := Lib.hid hq
  have HM := Lib.hid hm
  have HK := Lib.hid (show RkM w q p od from ⟨mb, m, f, hq, hm, hod, hf⟩)
  have HOd := Lib.hid hod
  have HFn := Lib.hid hf
  have HO := Lib.hid hO
  have HL := Lib.hid hl
  have HC := Lib.hid hc
  have HS := Lib.hid hs
  have HX := Lib.hid hx
  have HEnd := Lib.hid (prefs_end (od := od) (by rw [hO.len]; exact hO.h1))
  have HLn := Lib.hid (OdLen_any p od w hod)
  rw [hO.len] at HLn HEnd
  clear hq hm hod hf hO hc hs hx
  by_cases hnN : n = N
  · subst hnN
    go_enter Tryd.func39, Tryd.ntmps39
    go_wp2_with (go_at_call 52; refine HLn.out.mono ?_; rintro e w1 ⟨rfl, rfl⟩)
    go_loopw [6, 26] (fun zv iv wr => ∃ (i : Nat) (z : Int), i ≤ n ∧ iv = .int .i64 (i : Int) ∧ zv = .int .i64 z ∧ Hid (Below w.heap.size w wr) ∧ Hid (P.take i ∈ prefs od i) ∧ Hid (∀ k0 : Nat, (allP od)[k0]? = some P → 0 ≤ z ∧ RkAt od k0 P i z)) (fun _ iv _ => n - (intOf iv).toNat)
    case atStart => exact ⟨0, 0, Nat.zero_le _, rfl, rfl, Lib.hid (Below.refl _ _), Lib.hid (by rw [List.take_zero]; exact List.mem_singleton_self _), Lib.hid fun k0 h => ⟨Int.le_refl _, RkAt.begin (by rw [HO.out.len]; exact HO.out.h1) h⟩⟩
    case round =>
      obtain ⟨i, z, hi, rfl, rfl, HB, HPr, HR⟩ := hrel
      by_cases hlt : i < n
      · have hlt' : (i : Int) < (n : Int) := by omega
        have hil : i < P.length := by omega
        obtain ⟨a, ha⟩ : ∃ a, P[i]? = some a := ⟨_, List.getElem?_eq_getElem hil⟩
        have HA := Lib.hid ha
        have HAx := Lib.hid (HX.out a (List.mem_of_getElem? ha))
        obtain ⟨b, off, rfl, hcc⟩ := (HS.out.keep HB.out).i64 HL.out hlt
        rw [(List.getElem?_eq_some_iff.1 ha).2] at hcc
        have hti : (P.take i).length = i := by rw [List.length_take]; omega
        have HTi := Lib.hid hti
        have hic : (i : Int) ≤ (c : Int) := by have := HC.out; omega
        have hi0 : (0 : Int) ≤ (i : Int) := by omega
        have HNx := Lib.hid (Next_any q p od (P.take i) (some ⟨b, off, none⟩) i c wr (HK.out.keep HB.out) HO.out.B (by rw [HO.out.len]; have := HO.out.h8; omega) hti (by omega) (by rw [List.map_take]; exact (HS.out.keep HB.out).take (by omega)) (fun x hx => HX.out x (List.mem_of_mem_take hx)))
        obtain ⟨nx, hnx⟩ : ∃ nx, nx = nextL od (P.take i) := ⟨_, rfl⟩
        have HInc := Lib.hid (HO.out.S.next (l := P.take i) (by rw [hti, HO.out.len]; exact hlt))
        have HKy := Lib.hid (show ∀ x ∈ nx, i64ok x ∧ f (i : Int) x = cnt od i x from fun x hx => by
          rw [hnx] at hx
          have := next_keys HO.out.C (by rw [hti, HO.out.len]; exact hlt) x hx
          rw [hti] at this
          exact ⟨HO.out.Nu.key (by rw [HO.out.len]; exact hlt) this, HFn.out i x (by rw [HO.out.len]; exact hlt) this⟩)
        rw [← hnx] at HNx HInc
        have HNl := Lib.hid (show nx.length ≤ 1000000 from by rw [hnx]; exact Nat.le_trans (nextL_B HO.out.B _) (by omega))
        have HNe := Lib.hid hnx
        have HMw0 := Lib.hid (HM.out.keep HB.out)
        have HQw0 := Lib.hid (HQ.out.keep HB.out)
        clear hnx ha c0 c1 hti hil HLn
        go_upto_region 10 with (go_at_call 73; refine HNx.out.mono ?_; clear HNx; rintro e w1 ⟨v, rfl, hown, hb⟩; obtain ⟨A2, c2, rfl, hs2⟩ := Sl.own hown; have HCap := Lib.hid (own_cap hown); have HS2 := Lib.hid hs2; have HB1 := Lib.hid hb; clear hown hb hs2)
        have HHas := Lib.hid (HasS_any nx a A2 nx.length c2 w1 rfl HNl.out HInc.out HS2.out)
        by_cases hmem : a ∈ nx
        · obtain ⟨j, hj⟩ := List.getElem?_of_mem hmem
          have HIx := Lib.hid (fun W (hb : Below w1.heap.size w1 W) => IndexI_at nx a A2 nx.length c2 j W rfl HNl.out (HS2.out.keep hb) hj (inc_nodup HInc.out))
          rw [decide_eq_true hmem] at HHas
          have HNn := Lib.hid (inc_nodup HInc.out)
          have hjl : j < nx.length := (List.getElem?_eq_some_iff.1 hj).1
          have HStep := Lib.hid (show ∀ k0 : Nat, (allP od)[k0]? = some P → (k0 : Int) ≤ 4611686018427387904 ∧ (∀ t, t ≤ j → 0 ≤ z + sumZ ((nx.take t).map (cnt od i)) ∧ z + sumZ ((nx.take t).map (cnt od i)) ≤ (k0 : Int)) ∧ RkAt od k0 P (i + 1) (z + sumZ ((nx.take j).map (cnt od i))) from fun k0 hk0 => by
            obtain ⟨hz0, hr⟩ := HR.out k0 hk0
            rcases hr with ⟨hi1, k, hL, hzk⟩ | ⟨hi1, _⟩
            · obtain ⟨j', g1, g2, g3⟩ := hL.step hi1 HA.out (by rw [← HNe.out]; exact HNn.out)
              rw [← HNe.out] at g1 g2 g3
              obtain rfl : j' = j := (List.getElem?_inj (List.getElem?_eq_some_iff.1 g1).1 HNn.out).1 (g1.trans hj.symm)
              refine ⟨?_, fun t ht => ?_, g3 z hzk⟩
              · have h9 := (List.getElem?_eq_some_iff.1 hk0).1
                have h8 := HO.out.F.2
                unfold totP at h8
                omega
              · have h7 := sumZ_part (l := nx) (f := cnt od i) (cnt_nn od i) ht
                have h6 := sumZ_nn (l := (nx.take t).map (cnt od i)) fun x hx => by
                  obtain ⟨y, _, rfl⟩ := List.mem_map.1 hx
                  exact cnt_nn _ _ _
                omega
            · rw [HO.out.len] at hi1
              omega)
          have hAA := HS2.out.i64 rfl hjl
          obtain ⟨b2, o2, rfl, _⟩ := hAA
          have g1 : (j : Int) ≤ (c2 : Int) := by have := HCap.out; omega
          have g2 : (0 : Int) ≤ (j : Int) := by omega
          have HJ := Lib.hid hj
          have HMem := Lib.hid hmem
          clear hj HR hmem
          go_wp2_with (first
            | (go_at_call 74; refine HHas.out.mono ?_; clear HHas; rintro e w2 ⟨rfl, hb2⟩; have HB2 := Lib.hid hb2; clear hb2)
            | (go_at_call 75; refine (HIx.out _ HB2.out).mono ?_; clear HIx; rintro e w3 ⟨rfl, rfl⟩))
          have HBw := Lib.hid ((HB.out.andThen HB1.out).andThen HB2.out)
          have HMw := Lib.hid (HM.out.keep HBw.out)
          have e1 := (HQ.out.keep HBw.out).cell 1
          simp at e1
          have HS3 := Lib.hid (HS2.out.keep HB2.out)
          clear HQw0 HMw0 hcc
          go_loop [6, 47] (fun zv tv => ∃ (t : Nat) (z' : Int), t ≤ j ∧ tv = .int .i64 (t : Int) ∧ zv = .int .i64 z' ∧ Hid (∀ k0 : Nat, (allP od)[k0]? = some P → z' = z + sumZ ((nx.take t).map (cnt od i)))) (fun _ tv => j - (intOf tv).toNat)
          case atStart => exact ⟨0, z, Nat.zero_le _, rfl, rfl, Lib.hid fun k0 _ => by simp [sumZ]⟩
          case round =>
            obtain ⟨t, z', ht, rfl, rfl, HZ⟩ := hrel
            by_cases htj : t < j
            · have htj' : (t : Int) < (j : Int) := by omega
              have htl : t < nx.length := by omega
              have hjw : IntKind.i64.wrap ((t : Int) + 1) = (t : Int) + 1 := by rw [IntKind.wrap_i64]; have := HNl.out; omega
              obtain ⟨y, hy⟩ : ∃ y, nx[t]? = some y := ⟨_, List.getElem?_eq_getElem htl⟩
              obtain ⟨b3, o3, e3, hcy⟩ := HS3.out.i64 rfl htl
              cases e3
              rw [(List.getElem?_eq_some_iff.1 hy).2] at hcy
              have HYx := Lib.hid (HKy.out y (List.mem_of_getElem? hy))
              have HY := Lib.hid hy
              obtain ⟨cv, hcv⟩ : ∃ cv, cv = cnt od i y := ⟨_, rfl⟩
              have HCv := Lib.hid hcv
              have HFy := Lib.hid (show f (i : Int) y = cv from HYx.out.2.trans hcv.symm)
              obtain ⟨zz, hzz⟩ : ∃ zz, IntKind.i64.wrap (z' + cv) = zz := ⟨_, rfl⟩
              have HZz := Lib.hid hzz
              clear hy hcv
              go_wp2_with (refine wpList_lookS _ rfl _ _ rfl mb m f (by go_simp) HMw.out (i : Int) y (by go_simp) ⟨by omega, by omega⟩ HYx.out.1 ?_; rw [HFy.out])
              go_round
              case rel =>
                refine ⟨t + 1, zz, by omega, by go_num, rfl, Lib.hid fun k0 hk0 => ?_⟩
                have h1 := HZ.out k0 hk0
                obtain ⟨h2, h3, _⟩ := HStep.out k0 hk0
                have h4 := h3 (t + 1) (by omega)
                rw [sumZ_step HY.out, ← HCv.out] at h4 ⊢
                rw [← HZz.out, IntKind.wrap_i64]
                omega
              case measure => simp [intOf]; omega
            · obtain rfl : t = j := by omega
              have htj' : ¬ (t : Int) < (t : Int) := by omega
              go_wp2_with fail
              go_roundw
              case rel =>
                refine ⟨i + 1, z', by omega, by go_num, rfl, HBw, Lib.hid ((prefs_next HA.out).2 ⟨HPr.out, by rw [← HNe.out]; exact HMem.out⟩), Lib.hid fun k0 hk0 => ?_⟩
                obtain ⟨_, h3, h4⟩ := HStep.out k0 hk0
                rw [HZ.out k0 hk0]
                exact ⟨(h3 t (Nat.le_refl _)).1, h4⟩
              case measure => simp [intOf]; omega
        · rw [decide_eq_false hmem] at HHas
          go_wp2_with (first
            | (go_at_call 74; refine HHas.out.mono ?_; clear HHas; rintro e w2 ⟨rfl, hb2⟩; have HB2 := Lib.hid hb2; clear hb2)
            | (go_at_call 44; refine (New_err _ _ _ _).mono ?_; rintro e w' ⟨v, rfl, hv, hb⟩; have HV := Lib.hid hv; have HB3 := Lib.hid hb; clear hv hb))
          go_ret2
          refine ⟨_, _, rfl, ((HB.out.andThen HB1.out).andThen HB2.out).andThen HB3.out, .inr ⟨fun hP => ?_, rfl, HV.out⟩⟩
          rw [← HEnd.out] at hP
          have := prefs_take _ P hP (i + 1) (by omega)
          rw [prefs_next HA.out, ← HNe.out] at this
          exact hmem this.2
      · obtain rfl : i = n := by omega
        have hlt' : ¬ (i : Int) < (i : Int) := by omega
        go_wp2_with fail
        go_ret2
        refine ⟨_, _, rfl, HB.out, .inl ⟨?_, rfl, fun k0 hk0 => ?_⟩⟩
        · have := HPr.out
          rw [List.take_of_length_le (by omega), HEnd.out] at this
          exact this
        · rcases (HR.out k0 hk0).2 with ⟨h, _⟩ | ⟨_, h⟩
          · rw [HO.out.len] at h
            omega
          · exact h
  · have hne : ((n : Int) != (N : Int)) = true := by simp; omega
    go_enter Tryd.func39, Tryd.ntmps39
    go_wp2_with (first
      | (go_at_call 52; refine HLn.out.mono ?_; rintro e w1 ⟨rfl, rfl⟩)
      | (go_at_call 44; refine (New_err _ _ _ _).mono ?_; rintro e w' ⟨v, rfl, hv, hb⟩; have HV := Lib.hid hv; have HB := Lib.hid hb; clear hv hb))
    go_ret2
    refine ⟨_, _, rfl, HB.out, .inr ⟨fun hP => hnN ?_, rfl, HV.out⟩⟩
    rw [← HL.out]
    exact HO.out.P P hP
end Go.Proofs.YtmonepclhbappaaDoor
/-
  The document's odags: Row, Linked.
-/
namespace Go.Proofs.YtmonepclhbappaaDoor
open Go.RowKit
set_option maxRecDepth 100000
set_option linter.unusedVariables false

theorem col_snoc (ls : List (List Int)) (x : List Int) (i : Nat) : col (ls ++ [x]) i = addL (col ls i) (x.getD i 0) := by
  unfold col
  rw [List.map_append]
  exact setL_snoc _ _
theorem col_le (ls : List (List Int)) (i : Nat) : (col ls i).length ≤ ls.length := by
  unfold col
  have := setL_le (ls.map fun x => x.getD i 0)
  rwa [List.length_map] at this

set_option maxHeartbeats 4000000 in
theorem RefRow_any (its : List (Option Addr × Nat × List Int)) (Q : Option Addr) (m cq n i : Nat) (w : World) (hm : its.length = m) (hm2 : m ≤ 1000000) (hq : Sl w 1 Q m (its.map rv)) (hr : AllRows w its) (hlen : ∀ t ∈ its, t.2.2.length = n) (hi : i < n) :
    Calls Tryd.prog 69 #[.slice Q m cq, .int .i64 (i : Int)] w fun e w' => ∃ D k, e = .returned (.slice D (col (its.map (·.2.2)) i).length k) ∧ (col (its.map (·.2.2)) i).length ≤ k ∧ k ≤ 9223372036854775807 ∧ Sl w' 1 D (col (its.map (·.2.2)) i).length ((col (its.map (·.2.2)) i).map (Value.int .i64)) ∧ Below w.heap.size w w' := by
  have HQ := Lib.hid hq
  have HR := Lib.hid hr
  have HM := Lib.hid hm
  have HL := Lib.hid hlen
  clear hq hr hm hlen
  go_enter Tryd.func69, Tryd.ntmps69
  go_wp2_with fail
  go_loopw [5, 6] (fun v iv wr => ∃ (k : Nat) (D : Option Addr) (cap : Nat), k ≤ m ∧ iv = .int .i64 (k : Int) ∧ v = .slice D (col ((its.take k).map (·.2.2)) i).length cap ∧ (col ((its.take k).map (·.2.2)) i).length ≤ cap ∧ cap ≤ 9223372036854775807 ∧ Hid (Sl wr 1 D (col ((its.take k).map (·.2.2)) i).length ((col ((its.take k).map (·.2.2)) i).map (Value.int .i64))) ∧ Hid (Below w.heap.size w wr)) (fun _ iv _ => m - (intOf iv).toNat)
  case atStart => exact ⟨0, none, 0, Nat.zero_le _, rfl, rfl, Nat.le_refl _, Nat.zero_le _, Lib.hid (Sl.nil _ _ _), Lib.hid (Below.refl _ _)⟩
  case round =>
    obtain ⟨k, D, cap, hk, rfl, rfl, hc, hcm, HS, HB⟩ := hrel
    by_cases hlt : k < m
    · have hlt' : (k : Int) < (m : Int) := by omega
      obtain ⟨t, ht⟩ : ∃ t, its[k]? = some t := ⟨_, List.getElem?_eq_getElem (by rw [HM.out]; exact hlt)⟩
      obtain ⟨A, c, x⟩ := t
      have hxl : x.length = n := HL.out _ (List.mem_of_getElem? ht)
      have HRow := Lib.hid ((HR.out _ (List.mem_of_getElem? ht)).keep HB.out)
      obtain ⟨qb, qo, rfl, _⟩ := HQ.out.at_ (show 0 < m by omega)
      have c1 := (HQ.out.keep HB.out).again hlt (show (its.map rv)[k]? = some (.slice A x.length c) by rw [List.getElem?_map, ht]; rfl)
      have HT := Lib.hid (show col ((its.take (k + 1)).map (·.2.2)) i = addL (col ((its.take k).map (·.2.2)) i) (x.getD i 0) from by
        rw [← col_snoc]
        obtain ⟨h1, h2⟩ := List.getElem?_eq_some_iff.1 ht
        rw [List.take_succ_eq_append_getElem h1, h2, List.map_append]
        rfl)
      have hs1 := HRow.out.1
      simp only at hs1
      rw [hxl] at c1 hs1
      obtain ⟨b1, off1, rfl, c2⟩ := hs1.i64 hxl hi
      have hy : x[i] = x.getD i 0 := by rw [List.getD_eq_getElem?_getD, List.getElem?_eq_getElem (by omega)]; rfl
      rw [hy] at c2
      have hcl := col_le ((its.take k).map (·.2.2)) i
      rw [List.length_map, List.length_take] at hcl
      generalize x.getD i 0 = y at *
      generalize col ((its.take k).map (·.2.2)) i = S at *
      have hi' : (i : Int) < (n : Int) := by omega
      have hi0 : (0 : Int) ≤ (i : Int) := by omega
      have HAd := Lib.hid (Add_any S y D S.length cap wr (by omega) hc hcm rfl HS.out)
      clear hs1 ht hy hxl hcl
      go_wp2_with (go_at_call 94; refine HAd.out.mono ?_; rintro e w2 ⟨E, k2, rfl, h1, h2, h3, hb2⟩; have H3 := Lib.hid h3; have HB2 := Lib.hid hb2; clear h3 hb2)
      go_roundw
      case rel => exact ⟨k + 1, E, k2, by omega, by go_num, by rw [HT.out], by rw [HT.out]; exact h1, h2, Lib.hid (by rw [HT.out]; exact H3.out), Lib.hid (HB.out.andThen HB2.out)⟩
      case measure => simp [intOf]; omega
    · obtain rfl : k = m := by omega
      have hlt' : ¬ (k : Int) < (k : Int) := by omega
      have HE := Lib.hid (show its.take k = its from List.take_of_length_le (by rw [HM.out]; exact Nat.le_refl _))
      rw [HE.out] at hc HS
      rw [HE.out]
      go_wp2_with fail
      go_ret
      exact ⟨_, _, rfl, hc, hcm, HS.out, HB.out⟩

theorem linkedB_snoc (ls : List (List Int)) (x : List Int) (i : Nat) (a b : Int) : linkedB (ls ++ [x]) i a b = (linkedB ls i a b || decide (i + 1 < x.length ∧ x.getD i 0 = a ∧ x.getD (i + 1) 0 = b)) := by
  unfold linkedB
  rw [List.any_append]
  simp
theorem linkedB_hit {ls : List (List Int)} {x : List Int} {i : Nat} {a b : Int} (hx : x ∈ ls) (h1 : i + 1 < x.length) (h2 : x.getD i 0 = a) (h3 : x.getD (i + 1) 0 = b) : linkedB ls i a b = true := List.any_eq_true.2 ⟨x, hx, decide_eq_true ⟨h1, h2, h3⟩⟩

set_option maxHeartbeats 4000000 in
theorem RefLinked_any (its : List (Option Addr × Nat × List Int)) (Q : Option Addr) (m cq n i : Nat) (a b : Int) (w : World) (hm : its.length = m) (hm2 : m ≤ 1000000) (hq : Sl w 1 Q m (its.map rv)) (hr : AllRows w its) (hlen : ∀ t ∈ its, t.2.2.length = n) (hi : i + 1 < n) (hn : n ≤ 1000000) :
    Calls Tryd.prog 70 #[.slice Q m cq, .int .i64 (i : Int), .int .i64 a, .int .i64 b] w fun e w' => e = .returned (.bool (linkedB (its.map (·.2.2)) i a b)) ∧ w = w' := by
  have HQ := Lib.hid hq
  have HR := Lib.hid hr
  have HM := Lib.hid hm
  have HL := Lib.hid hlen
  clear hq hr hm hlen
  have hi' : (i : Int) < (n : Int) := by omega
  have hi1 : (i : Int) + 1 < (n : Int) := by omega
  have hi0 : (0 : Int) ≤ (i : Int) := by omega
  have hi2 : (0 : Int) ≤ (i : Int) + 1 := by omega
  have hw : IntKind.i64.wrap ((i : Int) + 1) = (i : Int) + 1 := by rw [IntKind.wrap_i64]; omega
  have htn : ((i : Int) + 1).toNat = i + 1 := by omega
  go_enter Tryd.func70, Tryd.ntmps70
  go_wp2_with fail
  go_loop [9] (fun iv => ∃ k : Nat, k ≤ m ∧ iv = .int .i64 (k : Int) ∧ Hid (linkedB ((its.take k).map (·.2.2)) i a b = false)) (fun iv => m - (intOf iv).toNat)
  case atStart => exact ⟨0, Nat.zero_le _, rfl, Lib.hid rfl⟩
  case round =>
    obtain ⟨k, hk, rfl, HF⟩ := hrel
    by_cases hlt : k < m
    · have hlt' : (k : Int) < (m : Int) := by omega
      obtain ⟨t, ht⟩ : ∃ t, its[k]? = some t := ⟨_, List.getElem?_eq_getElem (by rw [HM.out]; exact hlt)⟩
      obtain ⟨A, c, x⟩ := t
      have hmem := List.mem_of_getElem? ht
      have hxl : x.length = n := HL.out _ hmem
      have HRow := Lib.hid (HR.out _ hmem)
      have HXm := Lib.hid (show x ∈ its.map (·.2.2) from List.mem_map.2 ⟨_, hmem, rfl⟩)
      obtain ⟨qb, qo, rfl, _⟩ := HQ.out.at_ (show 0 < m by omega)
      have c1 := HQ.out.again hlt (show (its.map rv)[k]? = some (.slice A x.length c) by rw [List.getElem?_map, ht]; rfl)
      have HT := Lib.hid (show linkedB ((its.take (k + 1)).map (·.2.2)) i a b = (linkedB ((its.take k).map (·.2.2)) i a b || decide (i + 1 < x.length ∧ x.getD i 0 = a ∧ x.getD (i + 1) 0 = b)) from by
        rw [← linkedB_snoc]
        obtain ⟨h1, h2⟩ := List.getElem?_eq_some_iff.1 ht
        rw [List.take_succ_eq_append_getElem h1, h2, List.map_append]
        rfl)
      have hs1 := HRow.out.1
      simp only at hs1
      rw [hxl] at c1 hs1
      obtain ⟨b1, off1, rfl, c2⟩ := hs1.i64 hxl (show i < n by omega)
      obtain ⟨b1', off1', e1, c3⟩ := hs1.i64 hxl hi
      cases e1
      have hy : x[i] = x.getD i 0 := by rw [List.getD_eq_getElem?_getD, List.getElem?_eq_getElem (by omega)]; rfl
      have hz : x[i + 1] = x.getD (i + 1) 0 := by rw [List.getD_eq_getElem?_getD, List.getElem?_eq_getElem (by omega)]; rfl
      rw [hy] at c2
      rw [hz] at c3
      have HXl := Lib.hid hxl
      have HHit := Lib.hid (fun (g1 : x.getD i 0 = a) (g2 : x.getD (i + 1) 0 = b) => linkedB_hit (i := i) HXm.out (by rw [hxl]; exact hi) g1 g2)
      generalize x.getD i 0 = y at *
      generalize x.getD (i + 1) 0 = z at *
      clear hs1 ht hy hz hxl hmem
      by_cases hya : y = a
      · subst hya
        have hyy : (y == y) = true := by simp
        by_cases hzb : z = b
        · subst hzb
          have hzz : (z == z) = true := by simp
          have HE := Lib.hid (HHit.out rfl rfl)
          clear HT HF HHit
          go_wp2_with fail
          go_ret
          exact ⟨ret_bool HE.out.symm, rfl⟩
        · have hzz : (z == b) = false := by simpa using hzb
          have HZ := Lib.hid hzb
          clear hzb HHit
          go_wp2_with fail
          go_round
          case rel => exact ⟨k + 1, by omega, by go_num, Lib.hid (by rw [HT.out, HF.out, decide_eq_false (fun h => HZ.out h.2.2)]; rfl)⟩
          case measure => simp [intOf]; omega
      · have hyy : (y == a) = false := by simpa using hya
        have HY := Lib.hid hya
        clear hya HHit
        go_wp2_with fail
        go_round
        case rel => exact ⟨k + 1, by omega, by go_num, Lib.hid (by rw [HT.out, HF.out, decide_eq_false (fun h => HY.out h.2.1)]; rfl)⟩
        case measure => simp [intOf]; omega
    · obtain rfl : k = m := by omega
      have hlt' : ¬ (k : Int) < (k : Int) := by omega
      have HE := Lib.hid (show linkedB (its.map (·.2.2)) i a b = false from by
        have := HF.out
        rw [List.take_of_length_le (by rw [HM.out]; exact Nat.le_refl _)] at this
        exact this)
      clear HF
      go_wp2_with fail
      go_ret
      exact ⟨ret_bool HE.out.symm, rfl⟩
end Go.Proofs.YtmonepclhbappaaDoor
