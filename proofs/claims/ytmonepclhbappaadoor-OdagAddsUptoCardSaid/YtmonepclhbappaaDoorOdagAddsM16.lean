/-
  Part 16 of the proof of OdagAdds: OdagAdds, FrameR, FrameU.
-/
import Derived.BigQuiet
import Derived.Deep.DeepCutAuto
import Derived.Test.YtmonepclhbappaaDoorOdagAddsM7
import Derived.Test.YtmonepclhbappaaDoorOdagAddsM11
import Derived.Test.YtmonepclhbappaaDoorOdagAddsM12
import Derived.Test.YtmonepclhbappaaDoorOdagAddsM13
import Derived.Test.YtmonepclhbappaaDoorOdagAddsM14
import Derived.Test.YtmonepclhbappaaDoorOdagAddsM15
import Derived.Test.YtmonepclhbappaaDoorOdagAddsM1
import Derived.Test.YtmonepclhbappaaDoorOdagAddsM3
import Derived.Test.YtmonepclhbappaaDoorOdagAddsM2
/-
  OdagAdds.
-/
namespace Go.Proofs.YtmonepclhbappaaDoor
open Go.RowKit Go.Maps
attribute [local go_sem] Oper.semAt_some
set_option maxRecDepth 100000
set_option linter.unusedVariables false

theorem odOK_rw {od : List Rw} {N : Nat} (h : OdOK od N) : ∀ r ∈ od, RwOK r := fun r hr => ⟨(h.B r hr).1, fun q hq => ⟨⟨by have := (h.Nu r hr q hq).1; unfold numOK at this; omega, by have := (h.Nu r hr q hq).1; unfold numOK at this; omega⟩, (h.B r hr).2 q hq⟩⟩
def cellK (w : World) (b : Nat) : Nat := (intOf ((w.cell? ⟨b, 0, none⟩).getD undef)).toNat
theorem cellK_blk {w : World} {b : Nat} {t : TypeId} {k : Nat} (h : Blk w b t #[.int .i64 (k : Int)]) : cellK w b = k := by
  have c := h.cell 0
  simp at c
  unfold cellK
  rw [c]
  simp [intOf]

set_option maxHeartbeats 32000000 in
theorem OdagAdds_walk (a : Int) (its : List (Option Addr × Nat × List Int)) (Q : Option Addr) (m cq : Nat) (X : Option Addr) (xn xc : Nat) (xs : List Int) (w : World) (hg : ErrT w) (hm : its.length = m) (hm2 : m ≤ 1048576) (hq : Sl w 1 Q m (its.map rv)) (hr : AllRows w its) (hxl : xs.length = xn) (hx : RowOK w (X, xc, xs)) :
    Calls Tryd.prog 8 #[.int .i64 a, .slice Q m cq, .slice X xn xc] w fun e w' => e = .returned (.bool true) ∧ Below w.heap.size w w' := by
  have HQ := Lib.hid hq
  have HR := Lib.hid hr
  have HM := Lib.hid hm
  have HM2 := Lib.hid hm2
  have HG := Lib.hid hg
  have HXl := Lib.hid hxl
  have HXr := Lib.hid hx
  clear hq hr hm hm2 hg hxl hx
  refine (callsIn_wide (n := 5)).1 ?_
  refine callsIn_of_wp_marks Tryd.func8 rfl trivial ?_ rfl
  simp only [Tryd.ntmps8, List.size_toArray, List.length_cons, List.length_nil, Nat.reduceAdd, Nat.reduceSub, Array.replicate_succ, Array.replicate_zero, List.push_toArray, List.append_toArray, List.nil_append, List.cons_append]
  refine wpIn_wide.2 ?_
  go_upto_region 1 with (fail)
  obtain ⟨W0, hW0⟩ : ∃ W0, w.alloc (.cells #[.bool false] 4) = W0 := ⟨_, rfl⟩
  have hb0 : Below w.heap.size w W0 := by rw [← hW0]; exact bel_al (Below.refl _ _) _
  have hx0 : Blk W0 w.heap.size 4 #[.bool false] := by rw [← hW0]; exact Blk.new w _ _
  rw [hW0]
  clear hW0
  have HB0 := Lib.hid hb0
  have HX0 := Lib.hid hx0
  clear hb0 hx0
  have HAl := Lib.hid (alive13 W0 (HG.out.keep HB0.out))
  go_upto_region 3 with (go_at_call 20; refine HAl.out.mono ?_; clear HAl; rintro e w1 ⟨rfl, hb1⟩; have HB1 := Lib.hid hb1; clear hb1)
  have HMd := Lib.hid ((Made_any a its Q m cq w1 HM.out ((HQ.out.keep HB0.out).keep HB1.out) ((HR.out.keep HB0.out).keep HB1.out)).mono (R' := fun e w3 => ∃ (pv : Value) (bv : Bool), e = .returned (.tuple #[pv, .bool bv]) ∧ Below W0.heap.size W0 w3 ∧ (bv = true → ∃ n p : Nat, a = n ∧ 1 ≤ n ∧ n ≤ 5 ∧ m ≤ 12 ∧ Good n its ∧ pv = .pointer (some ⟨p, 0, none⟩) ∧ OdM w3 p (odOf n (its.map (·.2.2))))) (fun e w3 h => by
    rcases h with ⟨rfl, hb⟩ | ⟨n, p, h1, h2, h3, h4, h5, rfl, h6, hb⟩
    · exact ⟨_, _, rfl, HB1.out.andThen hb, fun h => by cases h⟩
    · exact ⟨_, _, rfl, HB1.out.andThen hb, fun _ => ⟨n, p, h1, h2, h3, h4, h5, rfl, h6⟩⟩))
  clear HB1
  go_upto_region 4 with (go_at_call 26; refine HMd.out.mono ?_; clear HMd; rintro e w3 ⟨pv, bv, rfl, hb, hd⟩; have HW := Lib.hid hb; have HD := Lib.hid hd; clear hb hd)
  have HX3 := Lib.hid (HX0.out.keep HW.out)
  have HW3 := Lib.hid (HB0.out.andThen HW.out)
  have HQ3 := Lib.hid (HQ.out.keep HW3.out)
  have HR3 := Lib.hid (HR.out.keep HW3.out)
  have HXr3 := Lib.hid (HXr.out.keep HW3.out)
  clear HQ HR HXr HX0 HB0 HW
  have HE0 := Lib.hid (show (w3.alloc (.cells #[] 22)).ownsRow w3.heap.size 22 1 (.slice (some ⟨w3.heap.size, 0, none⟩) 0 0) 0 [] from by
    have h := World.ownsRow_lit (base := w3.heap.size) (size := 1) (e := 22) w3 #[] 0 (Nat.le_refl _) (by unfold maxLen; omega) (by simp)
    simpa using h)
  have HM3 := Lib.hid (show (its ++ [(X, xc, xs)]).length = m + 1 from by rw [List.length_append, HM.out]; simp)
  have hm2' := HM2.out
  have HMdF := Lib.hid (show ∀ (V : World) (g7 c7 : Nat), Below w3.heap.size w3 V → Sl V 1 (some ⟨g7, 0, none⟩) (m + 1) ((its ++ [(X, xc, xs)]).map rv) → Calls Tryd.prog 26 #[.int .i64 a, .slice (some ⟨g7, 0, none⟩) (m + 1) c7] V (fun e w4 => ∃ (pv2 : Value) (bv2 : Bool), e = .returned (.tuple #[pv2, .bool bv2]) ∧ Below w3.heap.size w3 w4 ∧ (bv2 = true → ∃ n p : Nat, a = n ∧ 1 ≤ n ∧ n ≤ 5 ∧ m ≤ 11 ∧ Good n (its ++ [(X, xc, xs)]) ∧ pv2 = .pointer (some ⟨p, 0, none⟩) ∧ OdM w4 p (odOf n (its.map (·.2.2) ++ [xs])))) from fun V g7 c7 hb7 hs7 =>
    (Made_any a (its ++ [(X, xc, xs)]) (some ⟨g7, 0, none⟩) (m + 1) c7 V HM3.out hs7 (fun t ht => by
        rcases List.mem_append.1 ht with ht | ht
        · exact (HR3.out t ht).keep hb7
        · rw [List.mem_singleton.1 ht]; exact HXr3.out.keep hb7)).mono (fun e w4 h => by
        rcases h with ⟨rfl, hb⟩ | ⟨n, p, h1, h2, h3, h4, h5, rfl, h6, hb⟩
        · exact ⟨_, _, rfl, hb7.andThen hb, fun h => by cases h⟩
        · refine ⟨_, _, rfl, hb7.andThen hb, fun _ => ⟨n, p, h1, h2, h3, by omega, h5, rfl, ?_⟩⟩
          rw [List.map_append] at h6
          exact h6))
  go_upto_region 5 with (first
    | (at_builtin; refine wpList_cat_at elemIntsQ _ _ rfl rfl HE0.out (by simp) (HQ3.out.keep (bel_al (Below.refl _ _) _)) rfl rfl (fun u hu => by obtain ⟨t, _, rfl⟩ := List.mem_map.1 hu; rfl) (by unfold lim; omega) (by unfold lim; omega) ?_; intro v6 w6 hown6 hgr6; rw [Nat.zero_add] at hown6; have HO6 := Lib.hid hown6; have HG6 := Lib.hid hgr6; have HB6 := Lib.hid ((bel_al (Below.refl w3.heap.size w3) (.cells #[] 22)).trans (hgr6.belowOwn (by simp) HE0.out)); clear hown6 hgr6 HE0)
    | (at_builtin; refine wpList_cat_at elemIntsQ _ _ rfl rfl (HO6.out.alloc _) (by have := HG6.out.size; simp at this ⊢; omega) (Sl.newAt w6 _ _ 1 rfl) rfl rfl (by simp [Value.oneCell']) (by unfold lim; omega) (by unfold lim; omega) ?_; intro v7 w7 hown7 hgr7; obtain ⟨g7, c7, rfl, _⟩ := own_form hown7 (by omega); have HB7 := Lib.hid ((HB6.out.alloc (by have := HG6.out.size; simp at this ⊢; omega) (.cells #[.slice X xn xc] 22)).trans (hgr7.belowOwn (by have := HG6.out.size; simp at this ⊢; omega) (HO6.out.alloc _))); have HMd2 := Lib.hid (HMdF.out w7 g7 c7 HB7.out (by have h := Sl.of_own hown7; rw [List.map_append]; simp only [List.nil_append] at h; simp only [List.map_cons, List.map_nil, rv, HXl.out]; exact h)); clear HO6 HG6 HB6 HMdF hown7 hgr7)
    | (go_at_call 26; refine HMd2.out.mono ?_; clear HMd2; rintro e w4 ⟨pv2, bv2, rfl, hb, hd⟩; have HW4 := Lib.hid hb; have HD2 := Lib.hid hd; clear hb hd HB7)
    | fail)
  have HX4 := Lib.hid (HX3.out.keep HW4.out)
  have HWw4 := Lib.hid (HW3.out.andThen HW4.out)
  have HXr4 := Lib.hid (HXr3.out.keep HW4.out)
  have HEnd := Lib.hid (show ∀ V, Below w4.heap.size w4 V → V.cell? ⟨w.heap.size, 0, none⟩ = some (.bool false) ∧ V.frozen? ⟨w.heap.size, 0, none⟩ = false from fun V hV => by
    have h1 := (HX4.out.keep hV).cell 0
    simp at h1
    exact ⟨h1, (HX4.out.keep hV).frozen 0⟩)
  have hE4 := (HX4.out.set_ 0 (.bool true)).cell 0
  simp at hE4
  have HE4 := Lib.hid hE4
  obtain ⟨cx, fx⟩ := HEnd.out w4 (Below.refl _ _)
  clear hE4 HM3 HQ3 HR3 HXr3
  cases bv with
  | false =>
    go_wp2_with fail
    have hE := HE4.out
    exact mks0 rfl (v := .bool true) (by simp [results, Tryd.results8, go_sem, hE]) ⟨rfl, HWw4.out.setCell (p := ⟨w.heap.size, 0, none⟩) (by simp) _⟩
  | true =>
    cases bv2 with
    | false =>
      go_wp2_with fail
      have hE := HE4.out
      exact mks0 rfl (v := .bool true) (by simp [results, Tryd.results8, go_sem, hE]) ⟨rfl, HWw4.out.setCell (p := ⟨w.heap.size, 0, none⟩) (by simp) _⟩
    | true =>
      obtain ⟨n, p, rfl, h1, h5, h12, hgd, rfl, hod⟩ := HD.out rfl
      obtain ⟨n2, p2, hn2, _, _, h11, hgd2, rfl, hod2⟩ := HD2.out rfl
      obtain rfl : n = n2 := by omega
      have HOd := Lib.hid (hod.keep HW4.out)
      have HOdp := Lib.hid hod2
      have HGd := Lib.hid hgd2
      clear HD HD2 hod hod2 hgd hgd2 hn2
      by_cases h4 : 4 < n
      · have h4' : (4 : Int) < (n : Int) := by omega
        go_wp2_with fail
        have hE := HE4.out
        exact mks0 rfl (v := .bool true) (by simp [results, Tryd.results8, go_sem, hE]) ⟨rfl, HWw4.out.setCell (p := ⟨w.heap.size, 0, none⟩) (by simp) _⟩
      · have h4' : ¬ (4 : Int) < (n : Int) := by omega
        obtain ⟨ls, hls⟩ : ∃ ls, ls = its.map (·.2.2) := ⟨_, rfl⟩
        rw [← hls] at HOd HOdp
        have hlsl : ls.length ≤ 11 := by rw [hls, List.length_map, HM.out]; exact h11
        have hl2 : ∀ y ∈ ls ++ [xs], y.length = n ∧ ∀ z ∈ y, numOK z := fun y hy => by
          have e : ls ++ [xs] = (its ++ [(X, xc, xs)]).map (·.2.2) := by rw [List.map_append, hls]; rfl
          rw [e] at hy
          obtain ⟨t, ht, rfl⟩ := List.mem_map.1 hy
          exact HGd.out t ht
        have hxs := hl2 xs (List.mem_append_right _ (List.mem_singleton_self _))
        have hin : ∀ y ∈ ls, y ∈ ls ++ [xs] := fun y hy => List.mem_append_left _ hy
        have hone : ∀ y ∈ [xs], y.length = n ∧ ∀ z ∈ y, numOK z := fun y hy => by rw [List.mem_singleton.1 hy]; exact hxs
        have HOk := Lib.hid (odOf_ok n ls h1 h5 (by omega) (fun y hy => (hl2 y (hin y hy)).1) (fun y hy => (hl2 y (hin y hy)).2))
        have HOkp := Lib.hid (odOf_ok n (ls ++ [xs]) h1 h5 (by rw [List.length_append]; simp; omega) (fun y hy => (hl2 y hy).1) (fun y hy => (hl2 y hy).2))
        have HOk1 := Lib.hid (odOf_ok n [xs] h1 h5 (by simp) (fun y hy => (hone y hy).1) (fun y hy => (hone y hy).2))
        have HB3 := Lib.hid (And.intro (show OdB 100 (odOf n ls) from fun r hr => (odOf_B n _ r hr).mono (by omega)) (And.intro (show OdB 100 (odOf n (ls ++ [xs])) from fun r hr => (odOf_B n _ r hr).mono (by rw [List.length_append]; simp; omega)) (show OdB 100 (odOf n [xs]) from fun r hr => (odOf_B n _ r hr).mono (by simp))))
        have HB12 := Lib.hid (show OdB 12 (odOf n (ls ++ [xs])) from fun r hr => (odOf_B n _ r hr).mono (by rw [List.length_append]; simp; omega))
        have HMg1 := Lib.hid (merge_odOf (ls := ls) (ls' := [xs]) (fun y hy => (hl2 y (hin y hy)).1) (fun y hy => (hone y hy).1))
        have HMg2 := Lib.hid ((merge_odOf (ls := ls ++ [xs]) (ls' := [xs]) (fun y hy => (hl2 y hy).1) (fun y hy => (hone y hy).1)).trans (odOf_mem (ls := (ls ++ [xs]) ++ [xs]) (ls' := ls ++ [xs]) (fun y hy => (List.mem_append.1 hy).elim (fun h => (hl2 y h).1) fun h => (hone y h).1) (fun y hy => (hl2 y hy).1) (fun y => ⟨fun h => (List.mem_append.1 h).elim id fun h => List.mem_append_right _ h, fun h => List.mem_append_left _ h⟩)))
        have HOne := Lib.hid (And.intro (one_paths h1 hxs.1) (And.intro (one_cost h1 (by omega) hxs.1) (costO_mono (n := n) (ls := ls) (ls' := ls ++ [xs]) (fun y hy => (hl2 y (hin y hy)).1) (fun y hy => (hl2 y hy).1) hin)))
        have HPm := Lib.hid (fun (q : List Int) (hq : q ∈ allP (odOf n ls)) => paths_mono h1 (fun y hy => (hl2 y (hin y hy)).1) (fun y hy => (hl2 y hy).1) hin hq)
        have HOf := Lib.hid (OfOd_any n [(X, xc, xs)] (some ⟨w4.heap.size, 0, none⟩) 1 1 (w4.alloc (.cells #[.slice X xn xc] 22)) h1 (by omega) rfl (by omega) (by
            simp only [List.map_cons, List.map_nil, rv, HXl.out]
            exact Sl.newAt w4 _ _ 1 rfl) (fun t ht => by rw [List.mem_singleton.1 ht]; exact HXr4.out.keep (bel_al (Below.refl _ _) _)) (fun t ht => by rw [List.mem_singleton.1 ht]; exact hxs))
        rw [show ([(X, xc, xs)] : List (Option Addr × Nat × List Int)).map (·.2.2) = [xs] from rfl] at HOf
        obtain ⟨od, hod⟩ : ∃ od, od = odOf n ls := ⟨_, rfl⟩
        obtain ⟨odp, hodp⟩ : ∃ odp, odp = odOf n (ls ++ [xs]) := ⟨_, rfl⟩
        obtain ⟨od1, hod1⟩ : ∃ od1, od1 = odOf n [xs] := ⟨_, rfl⟩
        rw [← hodp, ← hod1] at HMg2
        rw [← hod, ← hodp, ← hod1] at HMg1 HB3 HOne
        rw [← hod] at HOk HOd
        rw [← hodp] at HOkp HOdp HB12
        rw [← hod1] at HOk1 HOf
        rw [← hod, ← hodp] at HPm
        clear hod hodp hod1 hls hlsl hl2 hxs hin hone cx fx HE4
        go_upto_region 9 with (first
          | (go_at_call 21; refine HOf.out.mono ?_; clear HOf; rintro e w5 ⟨p1, rfl, ho, hb⟩; have HOd1 := Lib.hid ho; have HB5 := Lib.hid ((bel_al (Below.refl w4.heap.size w4) _).andThen hb); clear ho hb)
          | (go_at_call 37; refine (Merge_any p p1 n 100 od od1 w5 (HOd.out.keep HB5.out) HOd1.out HOk.out.len HOk1.out.len (by omega) (by omega) HB3.out.1 HB3.out.2.2 HOk.out.Nu HOk1.out.Nu).mono ?_; rw [HMg1.out]; rintro e w6 ⟨p3, rfl, ho, hb⟩; have HOd3 := Lib.hid ho; have HB6 := Lib.hid hb; clear ho hb)
          | fail)
        have HX6 := Lib.hid (HX4.out.keep (HB5.out.andThen HB6.out))
        have HW6 := Lib.hid (HWw4.out.andThen (HB5.out.andThen HB6.out))
        have HOd6 := Lib.hid (HOd.out.keep (HB5.out.andThen HB6.out))
        have HOdp6 := Lib.hid (HOdp.out.keep (HB5.out.andThen HB6.out))
        have HOd16 := Lib.hid (HOd1.out.keep HB6.out)
        clear HX3 HW3 HW4 HX4 HWw4 HXr4 HEnd HOd HOdp HOd1 HB5 HB6 HMg1 HGd
        go_upto_region 12 with (first
          | (go_at_call 37; refine (Merge_any p3 p1 n 100 odp od1 w6 HOd3.out HOd16.out HOkp.out.len HOk1.out.len (by omega) (by omega) HB3.out.2.1 HB3.out.2.2 HOkp.out.Nu HOk1.out.Nu).mono ?_; rw [HMg2.out]; clear HMg2; rintro e w7 ⟨p4, rfl, ho, hb⟩; have HOd4 := Lib.hid ho; have HB7 := Lib.hid hb; have HS1 := Lib.hid (OdSame_any p3 p2 odp odp w7 (HOd3.out.keep hb) (HOdp6.out.keep hb) (by rw [HOkp.out.len]; omega) (odOK_rw HOkp.out) (odOK_rw HOkp.out)); rw [decide_eq_true rfl] at HS1; clear ho hb)
          | (go_at_call 28; refine HS1.out.mono ?_; clear HS1; rintro e w8 ⟨rfl, hb⟩; have HB8 := Lib.hid hb; have HS2 := Lib.hid (OdSame_any p4 p2 odp odp w8 (HOd4.out.keep hb) (HOdp6.out.keep (HB7.out.andThen hb)) (by rw [HOkp.out.len]; omega) (odOK_rw HOkp.out) (odOK_rw HOkp.out)); rw [decide_eq_true rfl] at HS2; clear hb)
          | (go_at_call 28; refine HS2.out.mono ?_; clear HS2; rintro e w9 ⟨rfl, hb⟩; have HB9 := Lib.hid (HB7.out.andThen (HB8.out.andThen hb)); clear hb)
          | fail)
        have HX9 := Lib.hid (HX6.out.keep HB9.out)
        have HW9 := Lib.hid (HW6.out.andThen HB9.out)
        have HOd9 := Lib.hid (HOd6.out.keep HB9.out)
        have HOdp9 := Lib.hid (HOdp6.out.keep HB9.out)
        have HOd19 := Lib.hid (HOd16.out.keep HB9.out)
        have HTl := Lib.hid (show (allP odp).length ≤ 20736 from by
          have h := allP_pow (od := odp) (K := 12) HB12.out (by rw [HOkp.out.len]; exact h1)
          rw [HOkp.out.len] at h
          have h6 : (12 : Nat) ^ n ≤ 12 ^ 4 := Nat.pow_le_pow_right (by omega) (by omega)
          have h7 : (12 : Nat) ^ 4 = 20736 := rfl
          omega)
        clear HX6 HW6 HOd6 HOdp6 HOd16 HB7 HB8 HB9 HOd3 HOd4 HB3
        go_upto_region 13 with (fail)
        obtain ⟨W6, hW6⟩ : ∃ W6, w9.alloc (.cells #[.slice none 0 0] 40) = W6 := ⟨_, rfl⟩
        have hb6 : Below w9.heap.size w9 W6 := by rw [← hW6]; exact bel_al (Below.refl _ _) _
        have ho6 : Blk W6 w9.heap.size 40 #[.slice none 0 0] := by rw [← hW6]; exact Blk.new w9 _ _
        have HS6 := Lib.hid (show W6.heap.size = w9.heap.size + 1 from by rw [← hW6]; simp)
        rw [hW6]
        clear hW6
        have HB6 := Lib.hid hb6
        have HO6 := Lib.hid ho6
        clear hb6 ho6
        go_wp2_with (go_at_call 23; refine (OdPaths_any (some ⟨p2, 0, none⟩) _).mono ?_; rintro e w5x ⟨rfl, rfl⟩)
        obtain ⟨V5, hV5⟩ : ∃ V5, W6.alloc (.cells #[.pointer (some ⟨p2, 0, none⟩)] 41) = V5 := ⟨_, rfl⟩
        have hb5 : Below W6.heap.size W6 V5 := by rw [← hV5]; exact bel_al (Below.refl _ _) _
        have hp5 : Blk V5 W6.heap.size 41 #[.pointer (some ⟨p2, 0, none⟩)] := by rw [← hV5]; exact Blk.new W6 _ _
        rw [hV5]
        clear hV5
        have HB5 := Lib.hid (HB6.out.andThen hb5)
        have hsz5 : w9.heap.size ≤ V5.heap.size := HB5.out.size
        have HL5 := Lib.hid hb5.size
        refine (wpIn_wide (n := 5)).1 ?_
        refine rangeFunc_one (fun x b => { b with tmps := b.tmps.setIfInBounds 18 (rv x) }) rfl (by omega) (gf := 60) (lb := #[.pointer (some ⟨W6.heap.size, 0, none⟩)]) rfl trivial (enters_of Tryd.func60 (by kernel_rfl) rfl)
          (paths_gives (5 - 1) w9.heap.size W6.heap.size W6.heap.size p2 n odp w9 V5 HOdp9.out HOkp.out rfl hsz5 HL5.out HB5.out hp5) knE_put KT.trans (fun _ W l o o' hl ho hc _ => KT.putObj o' (Nat.le_trans hsz5 hl) ho hc) (Below.refl _ _)
          (OutI w9.heap.size W6.heap.size w9.heap.size w9 (allP odp)) (fun _ _ _ => False) (OutI.own (Nat.le_refl _) hsz5) (fun c s A B row hs _ _ => hs.elim)
          ⟨HB5.out, ⟨_, HO6.out.keep hb5, World.ownsRow_nil _ _ _ _, (fun t h => by cases h), fun t h => by cases h⟩, fun i x hx => by cases hx⟩ ?assign ?body ?done ?stop
        case assign =>
          intro l x W K hK
          gi_wp2
          exact hK
        case stop =>
          rintro D c pre W _ _ h _
          exact h.elim
        case body =>
          rintro l pre ⟨D, d, P⟩ W ⟨i1, ⟨v, i2, i3, i4, i6⟩, i5⟩ ⟨hown, hG⟩ hlt
          have hP : P ∈ allP odp := List.mem_of_getElem? hG
          have hPl : P.length = n := HOkp.out.P P hP
          obtain ⟨gx, gc, hgx, hg5⟩ := own_form hown (by simp only; omega)
          have hDx : D = some ⟨gx, 0, none⟩ := by cases hgx; rfl
          have hgW : gx < W.heap.size := (hown.lt gx (by rw [hgx]; rfl)).2
          have hrow : RowOK W (D, d, P) := ⟨Sl.of_own hown, own_cap hown⟩
          have hnov : ∀ x : Addr, D = some x → x.block < W.heap.size ∧ some x.block ≠ v.ownBlock := fun x hx => by
            rw [hDx] at hx
            cases hx
            refine ⟨hgW, fun e => ?_⟩
            have e2 : v.ownBlock ≠ some gx := by
              rcases hown.2 with ⟨h7, _⟩ | ⟨g', cap, cur, h7, _, h8, _⟩
              · rw [hgx] at h7; cases h7
              · rw [hgx] at h7
                cases h7
                intro h9
                rcases i3.2 with ⟨rfl, _⟩ | ⟨g2, cap2, cur2, rfl, _, h10, _⟩
                · simp [Value.ownBlock] at h9
                · obtain rfl : g2 = gx := by simpa [Value.ownBlock] using h9
                  rw [h8] at h10
                  injection h10 with h10
                  injection h10 with _ h11
                  exact absurd h11 (by decide)
            exact e2 e.symm
          have HI1 := Lib.hid i1
          have HI2 := Lib.hid i2
          have HI3 := Lib.hid i3
          have HI4 := Lib.hid i4
          have HI5 := Lib.hid i5
          have HI6 := Lib.hid (show ∀ t ∈ pre ++ [(D, d, P)], ∀ x : Addr, t.1 = some x → W6.heap.size ≤ x.block from fun t ht x hx => by
            rcases List.mem_append.1 ht with ht | ht
            · exact i6 t ht x hx
            · rw [List.mem_singleton.1 ht] at hx
              have hx' : D = some x := hx
              rw [hDx] at hx'
              cases hx'
              exact Nat.le_trans HL5.out hg5)
          have HGp := Lib.hid hG
          have HRow := Lib.hid hrow
          have HNo := Lib.hid hnov
          have HPl := Lib.hid hPl
          have hWs : V5.heap.size ≤ W.heap.size := by omega
          have hl6 := HL5.out
          have hs6 := HS6.out
          have HSz := Lib.hid (show W6.heap.size ≤ W.heap.size ∧ w9.heap.size + 1 ≤ W6.heap.size from ⟨by omega, by omega⟩)
          have hpl : pre.length ≤ 100000000 := by have := HTl.out; omega
          obtain ⟨k, hk⟩ : ∃ k, k = pre.length := ⟨_, rfl⟩
          rw [← hk] at hpl HI3
          have HKk := Lib.hid hk
          clear i1 i2 i3 i4 i5 i6 hG hrow hnov hWs hl6 hs6 hown hgx hDx hgW hg5 hP hPl hlt hk
          simp only [rv, List.setIfInBounds_toArray, List.set_cons_succ, List.set_cons_zero]
          obtain ⟨A0, c0, rfl, _⟩ := Sl.own HI3.out
          have cv := HI2.out.cell 0
          have fb0 := HI2.out.frozen 0
          simp at cv
          gi_wp2_with (gi_at_builtin; refine wpListIn_cat_at elemIntsQ _ _ rfl rfl (HI3.out.alloc _) (by have := HSz.out; simp; omega) (Sl.newAt W _ _ 1 rfl) rfl rfl (by simp [Value.oneCell']) (by unfold lim; omega) (by unfold lim; omega) ?_; intro v6 w6 hown6 hgr6; obtain ⟨g6, c6, rfl, _⟩ := own_form hown6 (by omega); have HO6x := Lib.hid hown6; have HG6 := Lib.hid hgr6; have fb := ((HI2.out.alloc (.cells #[.slice D P.length d] 22)).others (HI3.out.alloc (.cells #[.slice D P.length d] 22)) hgr6.g (by decide)).frozen 0; have cb := ((HI2.out.alloc (.cells #[.slice D P.length d] 22)).others (HI3.out.alloc (.cells #[.slice D P.length d] 22)) hgr6.g (by decide)).cell 0; simp at cb; clear hown6 hgr6)
          obtain ⟨v6, hv6⟩ : ∃ v6, v6 = Value.slice (some ⟨g6, 0, none⟩) (k + 1) c6 := ⟨_, rfl⟩
          rw [← hv6] at HO6x HG6 ⊢
          clear hv6
          have hI3a := HI3.out.alloc (.cells #[.slice D P.length d] 22)
          have hI2a := (HI2.out.alloc (.cells #[.slice D P.length d] 22)).others hI3a HG6.out.g (by decide)
          have hgr := HG6.out.after_alloc
          have hsz := HSz.out
          have hbx : Below w9.heap.size W w6 := hgr.below (by omega) (fun k hk => by have := (HI3.out.lt k hk).1; omega)
          have hne6 : ∀ g, v6.ownBlock = some g → g ≠ w9.heap.size := fun g hg e => own_notBlk HO6x.out hI2a (by decide) (by rw [hg, e])
          have hset := Below.setCell hbx (p := ⟨w9.heap.size, 0, none⟩) (by simp) v6
          refine ⟨((KeepsOthers.alloc W _).trans (ko_cat hI3a HG6.out)).trans (KeepsOthers.setCell _ _ _), ?_, ?_⟩
          · exact ((KT.of_below (bel_al (Below.refl _ _) _) (by omega)).trans (KT.cat hI3a HG6.out (by simp; omega) (by omega))).trans (KT.set _ (by omega) (by omega))
          · refine ⟨HI1.out.trans hset, ⟨v6, hI2a.set_ 0 v6, ?_, ?_, HI6.out⟩, getI_snoc HI5.out HGp.out⟩
            · have h := own_block HO6x.out (w' := w6.setCell ⟨w9.heap.size, 0, none⟩ v6) fun g hg => Below.heap_setCell _ _ _ _ (hne6 g hg)
              rw [List.length_append, List.map_append, ← HKk.out]
              exact h
            · have h := RowsOK.grow (RowsOK.snoc HI4.out ⟨HRow.out, HNo.out⟩) hgr
              intro t ht
              obtain ⟨h1, h2⟩ := h t ht
              refine ⟨⟨?_, h1.2⟩, fun x hx => ⟨by rw [World.size_setCell]; exact (h2 x hx).1, (h2 x hx).2⟩⟩
              refine sl_far h1.1 (fun a ha e => ?_) _
              have h8 := HI6.out t ht a ha
              have e' : a.block = w9.heap.size := e
              omega
        case done =>
          rintro D1 ys W hD hS ⟨i1, ⟨v, i2, i3, i4, i6⟩, i5⟩ hK1
          have HJ := Lib.hid (getI_all i5 hS)
          obtain ⟨A, c, rfl, hsl⟩ := Sl.own i3
          obtain ⟨z, hz⟩ : ∃ z, z = ys.length := ⟨_, rfl⟩
          rw [← hz] at hsl i2 hS
          have HZ := Lib.hid hz
          have HZt := Lib.hid (show z = (allP odp).length from hS)
          have HZb := Lib.hid (show z ≤ 20736 from by have := HTl.out; omega)
          have HSl := Lib.hid hsl
          have HAok := Lib.hid (show AllRows W ys from fun t ht => (i4 t ht).1)
          have HO7 := Lib.hid i2
          have HK1 := Lib.hid hK1
          have HD1 := Lib.hid (show w.heap.size ≤ D1 from Nat.le_trans HW9.out.size (Nat.le_trans hsz5 hD))
          have HX7 := Lib.hid (HX9.out.keep i1)
          have HW7 := Lib.hid (HW9.out.andThen i1)
          have HOd7 := Lib.hid (HOd9.out.keep i1)
          have HOdp7 := Lib.hid (HOdp9.out.keep i1)
          have HOd17 := Lib.hid (HOd19.out.keep i1)
          have HD1s := Lib.hid (show D1 < W.heap.size from (Array.getElem?_eq_some_iff.1 HK1.out).1)
          clear hsl i1 i2 i3 i4 i5 i6 hK1 hD hS hz HX9 HW9 HOd9 HOdp9 HOd19 HB6 HO6 HB5 hb5 hp5 HS6 HL5 hsz5
          go_upto_region 17 with (fail)
          obtain ⟨W8, hW8⟩ : ∃ W8, W.alloc (.cells #[.int .i64 0] 3) = W8 := ⟨_, rfl⟩
          have hb8 : Below W.heap.size W W8 := by rw [← hW8]; exact bel_al (Below.refl _ _) _
          have hn8 : Blk W8 W.heap.size 3 #[.int .i64 0] := by rw [← hW8]; exact Blk.new W _ _
          have HS8 := Lib.hid (show W8.heap.size = W.heap.size + 1 from by rw [← hW8]; simp)
          rw [hW8]
          clear hW8
          have HB8 := Lib.hid hb8
          have HN8 := Lib.hid hn8
          clear hb8 hn8
          go_wp2_with (go_at_call 23; refine (OdPaths_any (some ⟨p, 0, none⟩) _).mono ?_; rintro e w5x ⟨rfl, rfl⟩)
          obtain ⟨V9, hV9⟩ : ∃ V9, W8.alloc (.cells #[.pointer (some ⟨p, 0, none⟩)] 41) = V9 := ⟨_, rfl⟩
          have hb9 : Below W8.heap.size W8 V9 := by rw [← hV9]; exact bel_al (Below.refl _ _) _
          have hp9 : Blk V9 W8.heap.size 41 #[.pointer (some ⟨p, 0, none⟩)] := by rw [← hV9]; exact Blk.new W8 _ _
          rw [hV9]
          clear hV9
          have HB9 := Lib.hid (HB8.out.andThen hb9)
          have hsz9 : W.heap.size ≤ V9.heap.size := HB9.out.size
          have HL9 := Lib.hid hb9.size
          refine (wpIn_wide (n := 5)).1 ?_
          refine rangeFunc_one (fun x b => { b with tmps := b.tmps.setIfInBounds 20 (rv x) }) rfl (by omega) (gf := 60) (lb := #[.pointer (some ⟨W8.heap.size, 0, none⟩)]) rfl trivial (enters_of Tryd.func60 (by kernel_rfl) rfl)
            (paths_gives (5 - 1) W.heap.size W8.heap.size W8.heap.size p n od W V9 HOd7.out HOk.out rfl hsz9 HL9.out HB9.out hp9) knE_put KT.trans (fun _ W l o o' hl ho hc _ => KT.putObj o' (Nat.le_trans hsz9 hl) ho hc) (Below.refl _ _)
            (fun pre V => NtJ W (atK (allP odp) (allP od) pre.length) V) (fun _ _ _ => False) (NtJ.own _ hsz9) (fun c s A B row hs _ _ => hs.elim)
            ⟨HB9.out, HN8.out.keep hb9⟩ ?assign2 ?body2 ?done2 ?stop2
          case assign2 =>
            intro l x W K hK
            gi_wp2
            exact hK
          case stop2 =>
            rintro D c pre W _ _ h _
            exact h.elim
          case body2 =>
            rintro l pre ⟨D, d, P⟩ V ⟨i1, i2⟩ ⟨hown, hG⟩ hlt
            obtain ⟨k, hk⟩ : ∃ k, k = pre.length := ⟨_, rfl⟩
            rw [← hk] at hG hlt i2
            have hPl : P.length = n := HOk.out.P P (List.mem_of_getElem? hG)
            obtain ⟨gx, gc, hgx, hg5⟩ := own_form hown (by simp only; omega)
            have hDx : D = some ⟨gx, 0, none⟩ := by cases hgx; rfl
            have hrow : RowOK V (D, d, P) := ⟨Sl.of_own hown, own_cap hown⟩
            obtain ⟨ha1, ha2, ha3, ha4⟩ := atK_ok (allP_rise HOkp.out.S (by rw [HOkp.out.len]; exact h1)) (allP_rise HOk.out.S (by rw [HOk.out.len]; exact h1)) HPm.out hG
            obtain ⟨s, hs⟩ : ∃ s, s = atK (allP odp) (allP od) k := ⟨_, rfl⟩
            obtain ⟨J, hJ⟩ : ∃ J, atK (allP odp) (allP od) (k + 1) = J + 1 := ⟨atK (allP odp) (allP od) (k + 1) - 1, by omega⟩
            rw [← hs] at ha1 i2
            rw [hJ] at ha1 ha2 ha3 ha4
            rw [Nat.add_sub_cancel] at ha3
            have HI1 := Lib.hid i1
            have HI2 := Lib.hid i2
            have HRow := Lib.hid hrow
            have HJn := Lib.hid hJ
            have HKk := Lib.hid hk
            have HPl := Lib.hid hPl
            have HGJ := Lib.hid ha3
            have HNe := Lib.hid ha4
            have HsJ := Lib.hid (show s ≤ J ∧ J < z from ⟨by omega, by have := HZt.out; omega⟩)
            have HDx := Lib.hid (show ∀ y : Addr, D = some y → W.heap.size + 1 ≤ y.block from fun y hy => by
              rw [hDx] at hy
              cases hy
              have h8 := HS8.out
              have h9 := HL9.out
              show W.heap.size + 1 ≤ gx
              omega)
            have HVs := Lib.hid (show W.heap.size ≤ V.heap.size from i1.size)
            clear i1 i2 hown hG hlt hPl hgx hg5 hDx hrow ha1 ha2 ha3 ha4 hs hJ hk
            simp only [rv, List.setIfInBounds_toArray, List.set_cons_succ, List.set_cons_zero]
            gi_wp2
            gi_loopw [] (fun wr => ∃ kk : Nat, kk ≤ J ∧ Hid (KeepsOthers V wr) ∧ Hid (KT W.heap.size W8.heap.size V wr) ∧ Hid (Blk wr W.heap.size 3 #[.int .i64 (kk : Int)]) ∧ Hid (RowOK wr (D, d, P))) (fun wr => J - cellK wr W.heap.size)
            case atStart => exact ⟨s, HsJ.out.1, Lib.hid (KeepsOthers.refl _), Lib.hid (KT.refl _ _ _), HI2, HRow⟩
            case round =>
              obtain ⟨kk, hkJ, HKo, HKt, HKb, HRw⟩ := hrel
              have hbw := HI1.out.trans HKt.out.1
              have HBw := Lib.hid hbw
              have hkz : kk < z := by have := HsJ.out.2; omega
              obtain ⟨b2, o2, rfl, _⟩ := HSl.out.at_ (show 0 < z by omega)
              obtain ⟨D2, d2, l2, ht2, hl2⟩ := its_row (its := ys) (k := kk) (by rw [← HZ.out]; exact hkz)
              rw [HJ.out] at hl2
              have c2 := (HSl.out.keep hbw).again hkz (show (ys.map rv)[kk]? = some (rv (D2, d2, l2)) by rw [List.getElem?_map, ht2]; rfl)
              simp only [rv] at c2
              have hr2 := (HAok.out _ (List.mem_of_getElem? ht2)).keep hbw
              have cw := (HO7.out.keep hbw).cell 0
              have ck := HKb.out.cell 0
              have fk := HKb.out.frozen 0
              simp at cw ck
              have HCw := Lib.hid (show ∀ X, Below wr.heap.size wr X → X.cell? ⟨w9.heap.size, 0, none⟩ = some (.slice (some ⟨b2, o2, none⟩) z c) ∧ X.cell? ⟨W.heap.size, 0, none⟩ = some (.int .i64 (kk : Int)) ∧ X.frozen? ⟨W.heap.size, 0, none⟩ = false from fun X hX => by
                have h1 := ((HO7.out.keep HBw.out).keep hX).cell 0
                have h2 := (HKb.out.keep hX).cell 0
                simp at h1 h2
                exact ⟨h1, h2, (HKb.out.keep hX).frozen 0⟩)
              have HSm := Lib.hid (SameInts_any l2 P D2 D l2.length P.length d2 d wr rfl rfl hr2.1 HRw.out.1 (by have h1 := hr2.2.1; have h2 := hr2.2.2; simp only at h1 h2; omega))
              have hk0 : (0 : Int) ≤ (kk : Int) := by omega
              have hkz1 : (kk : Int) < (z : Int) := by omega
              have hkz2 : ¬ (z : Int) ≤ (kk : Int) := by omega
              have hkz3 : ((kk : Int) == (z : Int)) = false := by simp; omega
              have hw1 : IntKind.i64.wrap ((kk : Int) + 1) = (kk : Int) + 1 := by rw [IntKind.wrap_i64]; have := HZb.out; omega
              have HFin := Lib.hid (show ∀ X, Below wr.heap.size wr X → KeepsOthers V (X.setCell ⟨W.heap.size, 0, none⟩ (.int .i64 ((kk : Int) + 1))) ∧ KT W.heap.size W8.heap.size V (X.setCell ⟨W.heap.size, 0, none⟩ (.int .i64 ((kk : Int) + 1))) ∧ Blk (X.setCell ⟨W.heap.size, 0, none⟩ (.int .i64 ((kk : Int) + 1))) W.heap.size 3 #[.int .i64 ((kk + 1 : Nat) : Int)] ∧ RowOK (X.setCell ⟨W.heap.size, 0, none⟩ (.int .i64 ((kk : Int) + 1))) (D, d, P) ∧ Below W.heap.size W (X.setCell ⟨W.heap.size, 0, none⟩ (.int .i64 ((kk : Int) + 1))) from fun X hX => by
                have h8 := HS8.out
                have hsw := HBw.out.size
                have h9 := HRw.out.keep hX
                refine ⟨(HKo.out.trans (ko_belowE hX)).trans (KeepsOthers.setCell _ _ _), (HKt.out.trans (KT.of_below hX hsw)).trans (KT.set _ (by omega) (by omega)), (HKb.out.keep hX).set_ 0 (.int .i64 ((kk : Int) + 1)), ⟨sl_far h9.1 (fun y hy e => by have := HDx.out y hy; have e' : y.block = W.heap.size := e; omega) _, h9.2⟩, ?_⟩
                exact (HBw.out.trans (hX.mono hsw)).setCell (p := ⟨W.heap.size, 0, none⟩) (by simp) _)
              by_cases hkJ2 : kk < J
              · rw [decide_eq_false (HNe.out kk (by omega) l2 hl2)] at HSm
                have HKJ := Lib.hid hkJ2
                clear hkJ hkJ2 hbw hkz ht2 hl2 hr2
                gi_wp2_with (first
                  | ((try refine ⟨trivial, ?_⟩); (try refine ⟨fun h => (by cases h), ?_⟩); gi_at_call 24; refine (CallsIn.inRound l (callsIn_wide.2 HSm.out)).mono ?_; clear HSm cw ck fk; rintro e X ⟨rfl, hb⟩; obtain ⟨cw, ck, fk⟩ := HCw.out X hb; have HBX := Lib.hid hb; clear hb)
                  | fail)
                obtain ⟨g1, g2, g3, g4, g5⟩ := HFin.out X HBX.out
                go_roundw
                case rel => exact ⟨kk + 1, HKJ.out, Lib.hid g1, Lib.hid g2, Lib.hid g3, Lib.hid g4⟩
                case measure =>
                  have e1 := cellK_blk HKb.out
                  have e2 := cellK_blk g3
                  rw [e1, e2]
                  have := HKJ.out
                  omega
              · obtain rfl : kk = J := by omega
                obtain rfl : l2 = P := by
                  rw [HGJ.out] at hl2
                  exact (Option.some.inj hl2).symm
                rw [decide_eq_true rfl] at HSm
                clear hkJ hkJ2 hbw hkz ht2 hl2 hr2
                gi_wp2_with (first
                  | ((try refine ⟨trivial, ?_⟩); (try refine ⟨fun h => (by cases h), ?_⟩); gi_at_call 24; refine (CallsIn.inRound l (callsIn_wide.2 HSm.out)).mono ?_; clear HSm cw ck fk; rintro e X ⟨rfl, hb⟩; obtain ⟨cw, ck, fk⟩ := HCw.out X hb; have HBX := Lib.hid hb; clear hb)
                  | fail)
                obtain ⟨g1, g2, g3, g4, g5⟩ := HFin.out X HBX.out
                refine ⟨g1, g2, g5, ?_⟩
                rw [List.length_append, ← HKk.out, show k + [((D, d, l2) : RowE)].length = k + 1 from rfl, HJn.out]
                exact g3
          case done2 =>
            rintro D2 zs W9 hD2 _ ⟨i1, i2⟩ hK2
            have HX9 := Lib.hid (HX7.out.keep i1)
            have HW9 := Lib.hid (HW7.out.andThen i1)
            have HOd9 := Lib.hid (HOd7.out.keep i1)
            have HOdp9 := Lib.hid (HOdp7.out.keep i1)
            have HOd19 := Lib.hid (HOd17.out.keep i1)
            have HO9 := Lib.hid (HO7.out.keep i1)
            have HKs := Lib.hid (show ∀ D ∈ [D2, D1], W9.heap[D]? = some (.deferred (some [])) from fun D h => by
              rcases List.mem_cons.1 h with rfl | h
              · exact hK2
              · rw [List.mem_singleton.1 h]
                exact (i1.block D1 HD1s.out).trans HK1.out)
            have HD12 := Lib.hid (show D1 < D2 from Nat.lt_of_lt_of_le HD1s.out (Nat.le_trans hsz9 hD2))
            have HTp := Lib.hid (show totP odp = (z : Int) from by unfold totP; rw [← HZt.out])
            have HT1 := Lib.hid (show totP od1 = 1 from by unfold totP; rw [HOne.out.1]; rfl)
            have HC1 := Lib.hid (show ((costO od1 : Nat) : Int) = 2 * (n : Int) - 1 from by have := HOne.out.2.1; omega)
            obtain ⟨C, hC⟩ : ∃ C, C = costO od := ⟨_, rfl⟩
            obtain ⟨Cp, hCp⟩ : ∃ Cp, Cp = costO odp := ⟨_, rfl⟩
            have hge : (C : Int) ≤ (Cp : Int) := by have := HOne.out.2.2; omega
            have HCq := Lib.hid (And.intro hC hCp)
            have hw2 : IntKind.i64.wrap (2 * (n : Int)) = 2 * (n : Int) := by rw [IntKind.wrap_i64]; omega
            have hw3 : IntKind.i64.wrap (2 * (n : Int) - 1) = 2 * (n : Int) - 1 := by rw [IntKind.wrap_i64]; omega
            clear i1 i2 hK2 hD2 HX7 HW7 HOd7 HOdp7 HOd17 HO7 HK1 HSl HAok HB8 HN8 HS8 HB9 HL9 hsz9 hb9 hp9 hC hCp
            have HN1 := Lib.hid (Count_any p2 n odp W9 HOdp9.out HOkp.out)
            rw [HTp.out] at HN1
            go_upto_region 26 with (first
              | (go_at_call 22; refine HN1.out.mono ?_; clear HN1; rintro e w10 ⟨rfl, hb⟩; have HB10 := Lib.hid hb; have HN2 := Lib.hid (Count_any p1 n od1 w10 (HOd19.out.keep hb) HOk1.out); rw [HT1.out] at HN2; clear hb)
              | (go_at_call 22; refine HN2.out.mono ?_; clear HN2; rintro e w11 ⟨rfl, hb⟩; have HB11 := Lib.hid (HB10.out.andThen hb); clear hb)
              | fail)
            have cO := (HO9.out.keep HB11.out).cell 0
            simp at cO
            have HS1 := Lib.hid (Cost_any p2 n odp w11 (HOdp9.out.keep HB11.out) HOkp.out)
            rw [← HCq.out.2] at HS1
            clear HB10
            go_wp2_with (first
              | (go_at_call 25; refine HS1.out.mono ?_; clear HS1 cO; rintro e w12 ⟨rfl, hb⟩; have HB12 := Lib.hid (HB11.out.andThen hb); have HS2 := Lib.hid (Cost_any p n od w12 (HOd9.out.keep HB12.out) HOk.out); rw [← HCq.out.1] at HS2; clear hb)
              | (go_at_call 25; refine HS2.out.mono ?_; clear HS2; rintro e w13 ⟨rfl, hb⟩; have HB13 := Lib.hid (HB12.out.andThen hb); have HS3 := Lib.hid (Cost_any p1 n od1 w13 (HOd19.out.keep HB13.out) HOk1.out); rw [HC1.out] at HS3; clear hb)
              | (go_at_call 25; refine HS3.out.mono ?_; clear HS3; rintro e w14 ⟨rfl, hb⟩; have HB14 := Lib.hid (HB13.out.andThen hb); have cx := (HX9.out.keep HB14.out).cell 0; have fx := (HX9.out.keep HB14.out).frozen 0; simp at cx; clear hb)
              | fail)
            have HB := HB14.out
            exact law_endAt [D2, D1] w.heap.size (Nat.le_refl _) (fun V hV => by simp [results, Tryd.results8, go_sem, hV]) rfl (fun D h => (HB.block D (Array.getElem?_eq_some_iff.1 (HKs.out D h)).1).trans (HKs.out D h)) (by have := HD12.out; simp; omega) (HX9.out.keep HB) (HW9.out.andThen HB) (fun D h => by
              have h0 := HD1.out
              have h1 := HD12.out
              simp at h
              omega)

/-- OdagAdds, as its frame asks it. -/
theorem OdagAdds_main (a0 : Int) (A1 : Option Addr) (n1 c1 : Nat) (its : List (Option Addr × Nat × List Int)) (A2 : Option Addr) (n2 c2 : Nat) (xs : List Int) (w : World) (hg : ErrT w) (w0 : (Lit.int .i64 a0).wf = true) (m1 : n1 ≤ 1048576) (e1 : its.length = n1) (s1 : Sl w 1 A1 n1 (its.map rv)) (r1 : AllRows w its) (q1 : n1 ≤ c1 ∧ c1 ≤ 9223372036854775807) (m2 : n2 ≤ 1048576) (e2 : xs.length = n2) (s2 : Sl w 1 A2 n2 (xs.map (Value.int .i64))) (r2 : ∀ z ∈ xs, (Lit.int .i64 z).wf = true) (q2 : n2 ≤ c2 ∧ c2 ≤ 9223372036854775807) :
    Calls Tryd.prog 8 #[.int .i64 a0, .slice A1 n1 c1, .slice A2 n2 c2] w fun e w' => e = .returned (.bool true) ∧ Below w.heap.size w w' :=
  OdagAdds_walk a0 its A1 n1 c1 A2 n2 c2 xs w hg e1 m1 s1 r1 e2 ⟨by simp only [e2]; exact s2, by simp only [e2]; exact q2.1, q2.2⟩
end Go.Proofs.YtmonepclhbappaaDoor
/-
  Rows of ints that came in.
-/
namespace Go.Proofs.YtmonepclhbappaaDoor
open Go.ChangeShapes Go.WideShapes Go.ChangeAt Go.RowKit
set_option linter.unusedVariables false
section
variable {H : Type} {enc : TypeId × Value → H} {w : World} {base : Nat} {spare : Nat → Bool} {held : Bool}
theorem open_row {fuel : Nat} {v : Value} {y : DataW H × List MemPlace} (h : DataW.trod enc Tryd.prog w base spare held fuel 22 [v] = some y) : ∃ t : Option Addr × Nat × List Int, v = rv t ∧ RowOK w t := by
  rcases Deep.open_slice Tryd.underlying22 h with ⟨h0, _⟩ | ⟨a, len, cap, m, f', D, Pl, hv, _, hl, hm, hmm, _, hx⟩
  · injection h0 with h0 _
    exact ⟨(none, 0, []), h0, Sl.nil _ _ _, Nat.le_refl _, Nat.zero_le _⟩
  · injection hv with hv _
    subst hv
    obtain ⟨_, zs, h1, h2, _⟩ := open_sl_ints Tryd.underlying22 Tryd.underlying3 (by kernel_rfl) h
    subst h1
    exact ⟨(some a, cap, zs), rfl, h2, hl, Nat.le_trans hm (by decide)⟩
theorem rows_of {w : World} : ∀ css : List (List Value), (∀ cs ∈ css, ∃ t, cs = [rv t] ∧ RowOK w t) → ∃ its : List (Option Addr × Nat × List Int), css.flatten = its.map rv ∧ its.length = css.length ∧ AllRows w its
  | [], _ => ⟨[], rfl, rfl, fun t ht => by cases ht⟩
  | cs :: css, h => by
    obtain ⟨t, rfl, ht⟩ := h cs (List.mem_cons_self ..)
    obtain ⟨its, h1, h2, h3⟩ := rows_of css fun c hc => h c (List.mem_cons_of_mem _ hc)
    refine ⟨t :: its, by rw [List.flatten_cons, h1]; rfl, by simp [h2], fun u hu => ?_⟩
    rcases List.mem_cons.1 hu with rfl | hu
    · exact ht
    · exact h3 u hu
theorem open_sl_rows {fuel n c : Nat} {A : Option Addr} {x : DataW H × List MemPlace} (h : DataW.trod enc Tryd.prog w base spare held fuel 40 [.slice A n c] = some x) :
    n ≤ maxLen ∧ ∃ its : List (Option Addr × Nat × List Int), its.length = n ∧ Sl w 1 A n (its.map rv) ∧ AllRows w its := by
  obtain ⟨hm, css, h1, h2, h3⟩ := open_sl (s := 1) (by kernel_rfl) (by omega) Tryd.underlying40 h
  obtain ⟨its, h4, h5, h6⟩ := rows_of (w := w) css fun cs hc => by
    obtain ⟨hl, fu, y, hy⟩ := h3 cs hc
    obtain ⟨v, rfl⟩ : ∃ v, cs = [v] := List.length_eq_one_iff.1 hl
    obtain ⟨t, rfl, ht⟩ := open_row hy
    exact ⟨t, rfl, ht⟩
  rw [h4] at h2
  exact ⟨hm, its, by omega, h2, h6⟩
end
end Go.Proofs.YtmonepclhbappaaDoor
/-
  Rows of ints and ints that came in, in the second form.
-/
namespace Go.Proofs.YtmonepclhbappaaDoor
open Go.ChangeShapes Go.WideShapes Go.ChangeAt Go.RowKit
set_option linter.unusedVariables false
section
variable {H : Type} {enc : TypeId × Value → H} {w : World} {base : Nat} {spare : Nat → Bool} {held : Bool}
theorem open_sl_ints_upto {t e : TypeId} {k : IntKind} {fuel n c B : Nat} {A : Option Addr} {x : DataW H × List MemPlace} (ht : Tryd.prog.underlying t = some (.slice e)) (he : Tryd.prog.underlying e = some (.int k)) (hs : Tryd.prog.cellsOf e = 1)
    (h : DataW.trod enc Tryd.prog w base spare held fuel t [.slice A n c] = some x) (hB : Rows.uptoBulk x.1 ≤ B) :
    n ≤ B ∧ ∃ zs : List Int, zs.length = n ∧ Sl w 1 A n (zs.map (Value.int k)) ∧ ∀ z ∈ zs, (Lit.int k z).wf = true := by
  obtain ⟨hm, _⟩ := open_sl_upto hs (by omega) ht h hB
  exact ⟨hm, (open_sl_ints ht he hs h).2⟩
theorem open_sl_rows_upto {fuel n c B : Nat} {A : Option Addr} {x : DataW H × List MemPlace} (h : DataW.trod enc Tryd.prog w base spare held fuel 40 [.slice A n c] = some x) (hB : Rows.uptoBulk x.1 ≤ B) :
    n ≤ B ∧ ∃ its : List (Option Addr × Nat × List Int), its.length = n ∧ Sl w 1 A n (its.map rv) ∧ AllRows w its := by
  obtain ⟨hm, _⟩ := open_sl_upto (s := 1) (by kernel_rfl) (by omega) Tryd.underlying40 h hB
  exact ⟨hm, (open_sl_rows h).2⟩
end
end Go.Proofs.YtmonepclhbappaaDoor
