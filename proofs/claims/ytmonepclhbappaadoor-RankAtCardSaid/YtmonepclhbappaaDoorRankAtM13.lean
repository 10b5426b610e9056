/-
  Part 13 of the proof of RankAt: RankAt.
-/
import Derived.BigQuiet
import Derived.Deep.DeepCutAuto
import Derived.Test.YtmonepclhbappaaDoorRankAtM7
import Derived.Test.YtmonepclhbappaaDoorRankAtM11
import Derived.Test.YtmonepclhbappaaDoorRankAtM12
/-
  RankAt.
-/
namespace Go.Proofs.YtmonepclhbappaaDoor
open Go.RowKit Go.Maps
set_option maxRecDepth 100000
set_option linter.unusedVariables false

theorem allP_ok {od : List Rw} {N : Nat} (h : OdOK od N) {p : List Int} (hp : p ∈ allP od) : ∀ x ∈ p, i64ok x := fun x hx => by
  obtain ⟨i, hi, rfl⟩ := List.mem_iff_getElem.1 hx
  have hl := h.P p hp
  have h1 := path_link (by rw [h.len]; exact h.h1) hp (List.getElem?_eq_getElem hi)
  have hti : (p.take i).length = i := by rw [List.length_take]; omega
  have h2 := next_keys h.C (by rw [hti, h.len]; omega) _ h1
  rw [hti] at h2
  exact h.Nu.key (by rw [h.len]; omega) h2

set_option maxHeartbeats 32000000 in
theorem RankAt_walk (a : Int) (its : List (Option Addr × Nat × List Int)) (Q : Option Addr) (m cq : Nat) (g : Int) (P : List Int) (A3 : Option Addr) (n3 c3 : Nat) (w : World) (hg : ErrT w) (hm : its.length = m) (hq : Sl w 1 Q m (its.map rv)) (hr : AllRows w its) (hgk : i64ok g) (hl3 : P.length = n3) (hc3 : n3 ≤ c3 ∧ c3 ≤ 9223372036854775807) (hs3 : Sl w 1 A3 n3 (P.map (Value.int .i64))) (hx3 : ∀ x ∈ P, i64ok x) :
    Calls Tryd.prog 9 #[.int .i64 a, .slice Q m cq, .int .i64 g, .slice A3 n3 c3] w fun e w' => e = .returned (.bool true) ∧ Below w.heap.size w w' := by
  have HQ := Lib.hid hq
  have HR := Lib.hid hr
  have HM := Lib.hid hm
  have HG := Lib.hid hg
  have HGk := Lib.hid hgk
  have HL3 := Lib.hid hl3
  have HC3 := Lib.hid hc3
  have HS3 := Lib.hid hs3
  have HX3 := Lib.hid hx3
  have HAl := Lib.hid (alive14 w hg)
  clear hq hr hm hg hgk hl3 hc3 hs3 hx3
  go_enter Tryd.func9, Tryd.ntmps9
  go_upto_region 3 with (go_at_call 29; refine HAl.out.mono ?_; clear HAl; rintro e w1 ⟨rfl, hb1⟩; have HB1 := Lib.hid hb1; clear hb1)
  have HMd := Lib.hid ((Made_any a its Q m cq w1 HM.out (HQ.out.keep HB1.out) (HR.out.keep HB1.out)).mono (R' := fun e w3 => ∃ (pv : Value) (bv : Bool), e = .returned (.tuple #[pv, .bool bv]) ∧ Below w.heap.size w w3 ∧ (bv = true → ∃ n p : Nat, a = n ∧ 1 ≤ n ∧ n ≤ 5 ∧ m ≤ 12 ∧ Good n its ∧ pv = .pointer (some ⟨p, 0, none⟩) ∧ OdM w3 p (odOf n (its.map (·.2.2))))) (fun e w3 h => by
    rcases h with ⟨rfl, hb⟩ | ⟨n, p, h1, h2, h3, h4, h5, rfl, h6, hb⟩
    · exact ⟨_, _, rfl, HB1.out.andThen hb, fun h => by cases h⟩
    · exact ⟨_, _, rfl, HB1.out.andThen hb, fun _ => ⟨n, p, h1, h2, h3, h4, h5, rfl, h6⟩⟩))
  clear HB1
  go_upto_region 4 with (go_at_call 26; refine HMd.out.mono ?_; clear HMd; rintro e w3 ⟨pv, bv, rfl, hb, hd⟩; have HW := Lib.hid hb; have HD := Lib.hid hd; clear hb hd)
  cases bv with
  | false =>
    go_wp2_with fail
    go_ret
    exact ⟨rfl, HW.out⟩
  | true =>
    obtain ⟨n, p, rfl, h1, h5, h12, hgd, rfl, hod⟩ := HD.out rfl
    have HOd := Lib.hid hod
    have HGd := Lib.hid hgd
    clear HD hod hgd
    by_cases h4 : 4 < n
    · have h4' : (4 : Int) < (n : Int) := by omega
      go_wp2_with fail
      go_ret
      exact ⟨rfl, HW.out⟩
    · have h4' : ¬ (4 : Int) < (n : Int) := by omega
      by_cases h20 : 20 < n3
      · have h20' : (20 : Int) < (n3 : Int) := by omega
        go_wp2_with fail
        go_ret
        exact ⟨rfl, HW.out⟩
      · have h20' : ¬ (20 : Int) < (n3 : Int) := by omega
        have hll : (its.map (·.2.2)).length ≤ 13 := by rw [List.length_map, HM.out]; omega
        have hlen : ∀ x ∈ its.map (·.2.2), x.length = n := fun x hx => by
          obtain ⟨t, ht, rfl⟩ := List.mem_map.1 hx
          exact (HGd.out t ht).1
        have hnum : ∀ x ∈ its.map (·.2.2), ∀ y ∈ x, numOK y := fun x hx => by
          obtain ⟨t, ht, rfl⟩ := List.mem_map.1 hx
          exact (HGd.out t ht).2
        have HOk := Lib.hid (odOf_ok n _ h1 h5 hll hlen hnum)
        have HOf := Lib.hid (RankOf_any p n (odOf n (its.map (·.2.2))) w3 HOd.out HOk.out.B HOk.out.len h1 (by omega) HOk.out.Nu HOk.out.C HOk.out.F)
        have HPt := Lib.hid (fun W (hb : Below w3.heap.size w3 W) => RefPaths_any its Q m cq n W HM.out (by omega) ((HQ.out.keep HW.out).keep hb) ((HR.out.keep HW.out).keep hb) (fun t ht => (HGd.out t ht).1) h1 h5)
        obtain ⟨od, hod⟩ : ∃ od, od = odOf n (its.map (·.2.2)) := ⟨_, rfl⟩
        rw [← hod] at HOf HOk HPt
        clear hod hlen hnum hll HOd HGd
        go_upto_region 8 with (first
          | (go_at_call 30; refine HOf.out.mono ?_; clear HOf; rintro e w4 ⟨q, rfl, hrk, hb⟩; have HRk := Lib.hid hrk; have HB4 := Lib.hid hb; clear hrk hb)
          | (go_at_call 31; refine (HPt.out _ HB4.out).mono ?_; clear HPt; rintro e w5 ⟨A, c, jts, rfl, hj, hsl, hok, hc1, hc2, hjl, hb⟩; have HJ := Lib.hid hj; have HSl := Lib.hid hsl; have HAok := Lib.hid hok; have HB5 := Lib.hid hb; clear hj hsl hok hb))
        obtain ⟨z, hz⟩ : ∃ z, z = jts.length := ⟨_, rfl⟩
        rw [← hz] at HSl hc1 hjl ⊢
        have HZ := Lib.hid hz
        have HTot := Lib.hid (show totP od = (z : Int) from by unfold totP; rw [← HJ.out, List.length_map, hz])
        have HRk5 := Lib.hid (HRk.out.keep HB5.out)
        have HTo := Lib.hid (RkTotal_any q p od w5 HRk5.out)
        rw [HTot.out] at HTo
        have hzz : ((z : Int) != (z : Int)) = false := by simp
        have HW5 := Lib.hid ((HW.out.andThen HB4.out).andThen HB5.out)
        have HAt := Lib.hid (fun (k : Nat) (x : List Int) W (hb : Below w5.heap.size w5 W) (hk : (allP od)[k]? = some x) => At_ok q p n k x od W (HRk5.out.keep hb) HOk.out.B HOk.out.len h1 (by omega) HOk.out.Nu HOk.out.C HOk.out.F hk (HOk.out.P _ (List.mem_of_getElem? hk)))
        clear hz HRk HB4 HB5 HW hc1 hc2
        go_upto_region 10 with (go_at_call 34; refine HTo.out.mono ?_; clear HTo; rintro e w6 ⟨rfl, rfl⟩)
        go_wp2_with fail
        go_loopw [14] (fun iv wr => ∃ i : Nat, i ≤ z ∧ iv = .int .i64 (i : Int) ∧ Hid (Below w5.heap.size w5 wr)) (fun iv _ => z - (intOf iv).toNat)
        case atStart => exact ⟨0, Nat.zero_le _, rfl, Lib.hid (Below.refl _ _)⟩
        case round =>
          obtain ⟨i, hi, rfl, HB⟩ := hrel
          by_cases hiz : i < z
          · have hiz' : (i : Int) < (z : Int) := by omega
            obtain ⟨D, d, l, ht, hl⟩ := its_row (its := jts) (k := i) (by rw [← HZ.out]; exact hiz)
            have hlm : l ∈ allP od := by rw [← HJ.out]; exact List.mem_of_getElem? hl
            have hla : (allP od)[i]? = some l := by rw [← HJ.out]; exact hl
            have HLa := Lib.hid hla
            have HAi := Lib.hid (HAt.out i l wr HB.out hla)
            have HLm := Lib.hid hlm
            have hll : l.length = n := HOk.out.P l hlm
            have HLl := Lib.hid hll
            have HRow := Lib.hid ((HAok.out _ (List.mem_of_getElem? ht)).keep HB.out)
            have hrow := HRow.out
            simp only [RowOK] at hrow
            rw [hll] at hrow
            have HRw := Lib.hid hrow
            obtain ⟨b, off, rfl, _⟩ := HSl.out.at_ (show 0 < z by omega)
            have c1 := (HSl.out.keep HB.out).again hiz (show (jts.map rv)[i]? = some (rv (D, d, l)) by rw [List.getElem?_map, ht]; rfl)
            simp only [rv] at c1
            rw [hll] at c1
            have HC1 := Lib.hid (show ∀ W, Below wr.heap.size wr W → W.cell? ⟨b, off + i, none⟩ = some (.slice D n d) from fun W hb => (hb.cell (p := ⟨b, off + i, none⟩) (World.block_lt_of_cell? wr _ c1)).trans c1)
            have HRa := Lib.hid (fun W (hb : Below wr.heap.size wr W) => RankRank_any q p n od l D n d W ((HRk5.out.keep HB.out).keep hb) HOk.out hll (by omega) HRw.out.2 (HRw.out.1.keep hb) (allP_ok HOk.out HLm.out))
            clear ht hl hlm hla hrow c1 hll
            go_upto_region 14 with (go_at_call 38; refine HAi.out.mono ?_; clear HAi; rintro e w7 ⟨v, rfl, hown, hb⟩; obtain ⟨A7, k7, rfl, hs7⟩ := Sl.own hown; have HS7 := Lib.hid hs7; have HB7 := Lib.hid hb; clear hown hs7 hb)
            have c7 := HC1.out w7 HB7.out
            go_upto_region 15 with (go_at_call 39; refine (HRa.out w7 HB7.out).mono ?_; rintro e w8 ⟨zr, ev, rfl, hb, hcase⟩; have HB8 := Lib.hid hb; have HCs := Lib.hid hcase; clear hb hcase)
            obtain ⟨_, rfl, hzr⟩ : l ∈ allP od ∧ ev = .nilIface ∧ zr = (i : Int) := by
              rcases HCs.out with ⟨g1, g2, g3⟩ | ⟨g1, _⟩
              · exact ⟨g1, g2, g3 i HLa.out⟩
              · exact absurd HLm.out g1
            subst hzr
            have c8 := HC1.out w8 (HB7.out.andThen HB8.out)
            have HSm := Lib.hid (SameInts_same l A7 D n k7 d w8 HLl.out (HS7.out.keep HB8.out) ((HRw.out.1.keep HB7.out).keep HB8.out) (by omega))
            have hii : ((i : Int) != (i : Int)) = false := by simp
            clear c7 HCs
            go_wp2_with (go_at_call 24; refine HSm.out.mono ?_; rintro e w9 ⟨rfl, hb⟩; have HB9 := Lib.hid hb; clear hb)
            go_roundw
            case rel => exact ⟨i + 1, by omega, by go_num, Lib.hid (((HB.out.andThen HB7.out).andThen HB8.out).andThen HB9.out)⟩
            case measure => simp [intOf]; omega
          · obtain rfl : i = z := by omega
            have hiz' : ¬ (i : Int) < (i : Int) := by omega
            have HBz := Lib.hid HB.out
            go_upto_region 17 with (fail)
            go_cut [19, 20] from 102 to 107 (fun pv ev wx => ∃ (D : Option Addr) (k c : Nat), pv = .slice D k c ∧ Hid (Below w5.heap.size w5 wx) ∧ Hid ((0 ≤ g ∧ g < (i : Int) ∧ ev = .nilIface) ∨ ((g < 0 ∨ (i : Int) ≤ g) ∧ k = 0 ∧ (Err.flt 3 0 ⟨#[114, 97, 110, 107]⟩).At wx ev)))
            case first =>
              by_cases hgi : 0 ≤ g ∧ g < (i : Int)
              · obtain ⟨k, rfl⟩ : ∃ k : Nat, g = (k : Int) := ⟨g.toNat, by omega⟩
                obtain ⟨x, hx⟩ : ∃ x, (allP od)[k]? = some x := ⟨_, List.getElem?_eq_getElem (by have := HTot.out; unfold totP at this; omega)⟩
                have HAi := Lib.hid (HAt.out k x wr HBz.out hx)
                go_wp2_with (go_at_call 38; refine HAi.out.mono ?_; clear HAi; rintro e w7 ⟨v, rfl, hown, hb⟩; obtain ⟨A7, k7, rfl, hs7⟩ := Sl.own hown; have HB7 := Lib.hid hb; clear hown hs7 hb)
                go_meet
                exact ⟨_, _, _, rfl, Lib.hid (HBz.out.andThen HB7.out), Lib.hid (Or.inl ⟨by omega, hgi.2, rfl⟩)⟩
              · have HAi := Lib.hid (At_out q p od g wr (HRk5.out.keep HBz.out) (by rw [HTot.out]; omega))
                go_wp2_with (go_at_call 38; refine HAi.out.mono ?_; clear HAi; rintro e w7 ⟨v, rfl, hv, hb⟩; have HV := Lib.hid hv; have HB7 := Lib.hid hb; clear hv hb)
                go_meet
                exact ⟨_, _, _, rfl, Lib.hid (HBz.out.andThen HB7.out), Lib.hid (Or.inr ⟨by omega, rfl, HV.out⟩)⟩
            case rest =>
              obtain ⟨D, k, c', rfl, HBc, HCs⟩ := hcut
              go_upto_region 18 with (fail)
              go_cut [128] from 108 to 128 (fun v wx => v = .bool false ∧ Hid (Below w5.heap.size w5 wx))
              case first =>
                have HGc := Lib.hid ((HG.out.keep HW5.out).keep HBc.out)
                rcases HCs.out with ⟨g0, g1, rfl⟩ | ⟨g0, rfl, ge, rfl, hbk⟩
                · have g0' : ¬ g < 0 := by omega
                  have g1' : ¬ (i : Int) ≤ g := by omega
                  go_wp2_with (go_at_call 35; refine (Code_nil _).mono ?_; rintro e w8 ⟨rfl, rfl⟩)
                  go_meet
                  exact ⟨rfl, HBc⟩
                · have HCo := Lib.hid (Code_flt ge 3 0 _ wc HGc.out hbk)
                  clear hbk HCs
                  by_cases hgn : g < 0
                  · clear g0
                    go_wp2_with (go_at_call 35; refine HCo.out.mono ?_; rintro e w8 ⟨rfl, hb⟩; have HB8 := Lib.hid hb; clear hb)
                    go_meet
                    exact ⟨rfl, Lib.hid (HBc.out.andThen HB8.out)⟩
                  · have g1 : (i : Int) ≤ g := by omega
                    clear g0
                    go_wp2_with (go_at_call 35; refine HCo.out.mono ?_; rintro e w8 ⟨rfl, hb⟩; have HB8 := Lib.hid hb; clear hb)
                    go_meet
                    exact ⟨rfl, Lib.hid (HBc.out.andThen HB8.out)⟩
              case rest =>
                obtain ⟨rfl, HBd⟩ := hcut
                clear HCs HBc HBz
                go_wp2_with fail
                go_loopw [21, 22] (fun av jv wr => ∃ (j : Nat) (av' : Int), j ≤ i ∧ jv = .int .i64 (j : Int) ∧ av = .int .i64 av' ∧ Hid (Below w5.heap.size w5 wr) ∧ Hid ((av' = -1 ∧ P ∉ (allP od).take j) ∨ ∃ t : Nat, t < j ∧ (allP od)[t]? = some P ∧ av' = (t : Int))) (fun _ jv _ => i - (intOf jv).toNat)
                case atStart => exact ⟨0, -1, Nat.zero_le _, rfl, rfl, HBd, Lib.hid (Or.inl ⟨rfl, by simp⟩)⟩
                case round =>
                  obtain ⟨j, av, hj, rfl, rfl, HBj, HAv⟩ := hrel
                  by_cases hji : j < i
                  · have hji' : (j : Int) < (i : Int) := by omega
                    obtain ⟨D2, d2, l, ht, hl⟩ := its_row (its := jts) (k := j) (by rw [← HZ.out]; exact hji)
                    have hla : (allP od)[j]? = some l := by rw [← HJ.out]; exact hl
                    have HLa := Lib.hid hla
                    have hlm : l ∈ allP od := List.mem_of_getElem? hla
                    have hll : l.length = n := HOk.out.P l hlm
                    have hrow := (HAok.out _ (List.mem_of_getElem? ht)).keep HBj.out
                    simp only [RowOK] at hrow
                    rw [hll] at hrow
                    obtain ⟨b, off, rfl, _⟩ := HSl.out.at_ (show 0 < i by omega)
                    have c1 := (HSl.out.keep HBj.out).again hji (show (jts.map rv)[j]? = some (rv (D2, d2, l)) by rw [List.getElem?_map, ht]; rfl)
                    simp only [rv] at c1
                    rw [hll] at c1
                    have HSm := Lib.hid (SameInts_any l P D2 A3 n n3 d2 c3 wr hll HL3.out hrow.1 ((HS3.out.keep HW5.out).keep HBj.out) (by omega))
                    have HT := Lib.hid (show (allP od).take (j + 1) = (allP od).take j ++ [l] from by
                      obtain ⟨h8, h9⟩ := List.getElem?_eq_some_iff.1 hla
                      rw [List.take_succ_eq_append_getElem h8, h9])
                    clear ht hl hla hlm hrow hll
                    by_cases he : l = P
                    · rw [decide_eq_true he] at HSm
                      have HE := Lib.hid he
                      clear he
                      go_wp2_with (go_at_call 24; refine HSm.out.mono ?_; clear HSm; rintro e w9 ⟨rfl, hb⟩; have HB9 := Lib.hid hb; clear hb)
                      go_roundw
                      case rel => exact ⟨j + 1, (j : Int), by omega, by go_num, rfl, Lib.hid (HBj.out.andThen HB9.out), Lib.hid (Or.inr ⟨j, by omega, by rw [HLa.out, HE.out], rfl⟩)⟩
                      case measure => simp [intOf]; omega
                    · rw [decide_eq_false he] at HSm
                      have HE := Lib.hid he
                      clear he
                      go_wp2_with (go_at_call 24; refine HSm.out.mono ?_; clear HSm; rintro e w9 ⟨rfl, hb⟩; have HB9 := Lib.hid hb; clear hb)
                      go_roundw
                      case rel =>
                        refine ⟨j + 1, av, by omega, by go_num, rfl, Lib.hid (HBj.out.andThen HB9.out), Lib.hid ?_⟩
                        rcases HAv.out with ⟨h1, h2⟩ | ⟨t, h1, h2, h3⟩
                        · refine Or.inl ⟨h1, ?_⟩
                          rw [HT.out, List.mem_append, List.mem_singleton]
                          rintro (h | h)
                          · exact h2 h
                          · exact HE.out h.symm
                        · exact Or.inr ⟨t, by omega, h2, h3⟩
                      case measure => simp [intOf]; omega
                  · obtain rfl : j = i := by omega
                    have hji' : ¬ (j : Int) < (j : Int) := by omega
                    have HRa := Lib.hid (RankRank_any q p n od P A3 n3 c3 wr (HRk5.out.keep HBj.out) HOk.out HL3.out (by omega) HC3.out ((HS3.out.keep HW5.out).keep HBj.out) HX3.out)
                    have HAll := Lib.hid (show (allP od).take j = allP od from List.take_of_length_le (by have := HTot.out; unfold totP at this; omega))
                    go_upto_region 27 with (go_at_call 39; refine HRa.out.mono ?_; clear HRa; rintro e w8 ⟨zr, ev, rfl, hb, hcase⟩; have HB8 := Lib.hid hb; have HCs := Lib.hid hcase; clear hb hcase)
                    have HBe := Lib.hid (HW5.out.andThen (HBj.out.andThen HB8.out))
                    have HGc := Lib.hid (HG.out.keep HBe.out)
                    rcases HCs.out with ⟨g1, rfl, g3⟩ | ⟨g1, rfl, ge, rfl, hbk⟩
                    · obtain ⟨t, ht, hta⟩ : ∃ t : Nat, zr = (t : Int) ∧ av = (t : Int) := by
                        rcases HAv.out with ⟨h1, h2⟩ | ⟨t, h1, h2, h3⟩
                        · rw [HAll.out] at h2
                          exact absurd g1 h2
                        · exact ⟨t, g3 t h2, h3⟩
                      subst ht hta
                      have k1 : ¬ (t : Int) < 0 := by omega
                      have k2 : (0 : Int) ≤ (t : Int) := by omega
                      have k3 : ((t : Int) == (t : Int)) = true := by simp
                      clear g1 g3 HCs HAv
                      go_wp2_with fail
                      go_ret
                      exact ⟨rfl, HBe.out⟩
                    · obtain rfl : av = -1 := by
                        rcases HAv.out with ⟨h1, h2⟩ | ⟨t, h1, h2, h3⟩
                        · exact h1
                        · exact absurd (List.mem_of_getElem? h2) g1
                      have HCo := Lib.hid (Code_flt ge 5 0 _ w8 HGc.out hbk)
                      clear hbk HCs HAv g1
                      go_wp2_with (go_at_call 35; refine HCo.out.mono ?_; rintro e w9 ⟨rfl, hb⟩; have HB9 := Lib.hid hb; clear hb)
                      go_ret
                      exact ⟨rfl, HBe.out.andThen HB9.out⟩
/-- RankAt, as its frame asks it. -/
theorem RankAt_main (a0 : Int) (A1 : Option Addr) (n1 c1 : Nat) (its : List (Option Addr × Nat × List Int)) (a2 : Int) (A3 : Option Addr) (n3 c3 : Nat) (l3 : List Int) (w : World) (hg : ErrT w) (w0 : (Lit.int .i64 a0).wf = true) (m1 : n1 ≤ maxLen) (e1 : its.length = n1) (s1 : Sl w 1 A1 n1 (its.map rv)) (r1 : AllRows w its) (q1 : n1 ≤ c1 ∧ c1 ≤ 9223372036854775807) (w2 : (Lit.int .i64 a2).wf = true)
    (m3 : n3 ≤ maxLen) (e3 : l3.length = n3) (s3 : Sl w 1 A3 n3 (l3.map (Value.int .i64))) (w3 : ∀ z ∈ l3, (Lit.int .i64 z).wf = true) (q3 : n3 ≤ c3 ∧ c3 ≤ 9223372036854775807) :
    Calls Tryd.prog 9 #[.int .i64 a0, .slice A1 n1 c1, .int .i64 a2, .slice A3 n3 c3] w fun e w' => e = .returned (.bool true) ∧ Below w.heap.size w w' :=
  RankAt_walk a0 its A1 n1 c1 a2 l3 A3 n3 c3 w hg e1 s1 r1 (wf_i64 w2) e3 q3 s3 fun x hx => wf_i64 (w3 x hx)
end Go.Proofs.YtmonepclhbappaaDoor
