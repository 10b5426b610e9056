/-
  Part 20 of the proof of OdagMerge: OdagMerge, FrameR.
-/
import Derived.BigQuiet
import Derived.Deep.DeepCutAuto
import Derived.Test.YtmonepclhbappaaGreatDoorOdagMergeM6
import Derived.Test.YtmonepclhbappaaGreatDoorOdagMergeM10
import Derived.Test.YtmonepclhbappaaGreatDoorOdagMergeM11
import Derived.Test.YtmonepclhbappaaGreatDoorOdagMergeM12
import Derived.Test.YtmonepclhbappaaGreatDoorOdagMergeM13
import Derived.Test.YtmonepclhbappaaGreatDoorOdagMergeM16
import Derived.Test.YtmonepclhbappaaGreatDoorOdagMergeM18
import Derived.Test.YtmonepclhbappaaGreatDoorOdagMergeM19
import Derived.Test.YtmonepclhbappaaGreatDoorOdagMergeM7
import Derived.Test.YtmonepclhbappaaGreatDoorOdagMergeM1
import Derived.Test.YtmonepclhbappaaGreatDoorOdagMergeM2
/-
  OdagMerge.
-/
namespace Go.Proofs.YtmonepclhbappaaGreatDoor
open Go.RowKit Go.Maps
attribute [local go_sem] Oper.semAt_some
set_option maxRecDepth 100000
set_option linter.unusedVariables false

theorem odOK_rw2 {od : List Rw} {N : Nat} (h : OdOK od N) : ∀ r ∈ od, RwOK r := fun r hr => ⟨(h.B r hr).1, fun q hq => ⟨⟨by have := (h.Nu r hr q hq).1; unfold numOK at this; omega, by have := (h.Nu r hr q hq).1; unfold numOK at this; omega⟩, (h.B r hr).2 q hq⟩⟩
/-- What Made gives, its results apart. -/
def MdR (a : Int) (its : List (Option Addr × Nat × List Int)) (m : Nat) (w0 : World) (e : Ending) (w3 : World) : Prop :=
  ∃ (pv : Value) (bv : Bool), e = .returned (.tuple #[pv, .bool bv]) ∧ Below w0.heap.size w0 w3 ∧ (bv = true → ∃ n p : Nat, a = n ∧ 1 ≤ n ∧ n ≤ 5 ∧ m ≤ 12 ∧ Good n its ∧ pv = .pointer (some ⟨p, 0, none⟩) ∧ OdM w3 p (odOf n (its.map (·.2.2))))
theorem Made_R (a : Int) (its : List (Option Addr × Nat × List Int)) (Q : Option Addr) (m cq : Nat) (w0 w : World) (hb : Below w0.heap.size w0 w) (hm : its.length = m) (hq : Sl w 1 Q m (its.map rv)) (hr : AllRows w its) : Calls Tryz.prog 26 #[.int .i64 a, .slice Q m cq] w (MdR a its m w0) :=
  (Made_any a its Q m cq w hm hq hr).mono fun e w3 h => by
    rcases h with ⟨rfl, hb3⟩ | ⟨n, p, h1, h2, h3, h4, h5, rfl, h6, hb3⟩
    · exact ⟨_, _, rfl, hb.andThen hb3, fun h => by cases h⟩
    · exact ⟨_, _, rfl, hb.andThen hb3, fun _ => ⟨n, p, h1, h2, h3, h4, h5, rfl, h6⟩⟩

set_option maxHeartbeats 32000000 in
theorem OdagMerge_walk (a : Int) (its1 : List (Option Addr × Nat × List Int)) (Q1 : Option Addr) (m1 c1 : Nat) (its2 : List (Option Addr × Nat × List Int)) (Q2 : Option Addr) (m2 c2 : Nat) (w : World) (hg : ErrT w) (hm1 : its1.length = m1) (hq1 : Sl w 1 Q1 m1 (its1.map rv)) (hr1 : AllRows w its1) (hm2 : its2.length = m2) (hq2 : Sl w 1 Q2 m2 (its2.map rv)) (hr2 : AllRows w its2) :
    Calls Tryz.prog 5 #[.int .i64 a, .slice Q1 m1 c1, .slice Q2 m2 c2] w fun e w' => e = .returned (.bool true) ∧ Below w.heap.size w w' := by
  have HIn := Lib.hid (show ∀ V, Below w.heap.size w V → Sl V 1 Q1 m1 (its1.map rv) ∧ AllRows V its1 ∧ Sl V 1 Q2 m2 (its2.map rv) ∧ AllRows V its2 ∧ ErrT V from fun V hV => ⟨hq1.keep hV, hr1.keep hV, hq2.keep hV, hr2.keep hV, hg.keep hV⟩)
  have HM := Lib.hid (And.intro hm1 hm2)
  clear hq1 hq2 hr1 hr2 hg hm1 hm2
  refine (callsIn_wide (n := 5)).1 ?_
  refine callsIn_of_wp_marks Tryz.func5 rfl trivial ?_ rfl
  simp only [Tryz.ntmps5, List.size_toArray, List.length_cons, List.length_nil, Nat.reduceAdd, Nat.reduceSub, Array.replicate_succ, Array.replicate_zero, List.push_toArray, List.append_toArray, List.nil_append, List.cons_append]
  refine wpIn_wide.2 ?_
  go_upto_region 1 with (fail)
  obtain ⟨W0, hW0⟩ : ∃ W0, w.alloc (.cells #[.bool false] 4) = W0 := ⟨_, rfl⟩
  have hb0 : Below w.heap.size w W0 := by rw [← hW0]; exact bel_al (Below.refl _ _) _
  have hx0 : Blk W0 w.heap.size 4 #[.bool false] := by rw [← hW0]; exact Blk.new w _ _
  rw [hW0]
  clear hW0
  have HB0 := Lib.hid hb0
  have HX0 := Lib.hid hx0
  clear hb0 hx0
  have HAl := Lib.hid (alive13 W0 (HIn.out W0 HB0.out).2.2.2.2)
  go_upto_region 3 with (go_at_call 23; refine HAl.out.mono ?_; clear HAl; rintro e w1 ⟨rfl, hb1⟩; have HB1 := Lib.hid hb1; clear hb1)
  have HS1 := Lib.hid (Made_R a its1 Q1 m1 c1 W0 w1 HB1.out HM.out.1 (HIn.out w1 (HB0.out.andThen HB1.out)).1 (HIn.out w1 (HB0.out.andThen HB1.out)).2.1)
  clear HB1
  go_upto_region 5 with (first
    | (go_at_call 26; refine HS1.out.mono ?_; clear HS1; rintro e w3 ⟨pv, bv, rfl, hb, hd⟩; have HW := Lib.hid hb; have HD := Lib.hid hd; have HS2 := Lib.hid (Made_R a its2 Q2 m2 c2 w3 w3 (Below.refl _ _) HM.out.2 (HIn.out w3 (HB0.out.andThen hb)).2.2.1 (HIn.out w3 (HB0.out.andThen hb)).2.2.2.1); clear hb hd)
    | (go_at_call 26; refine HS2.out.mono ?_; clear HS2; rintro e w4 ⟨pv2, bv2, rfl, hb, hd⟩; have HW2 := Lib.hid hb; have HD2 := Lib.hid hd; clear hb hd)
    | fail)
  have HX4 := Lib.hid (HX0.out.keep (HW.out.andThen HW2.out))
  have HW4 := Lib.hid (HB0.out.andThen (HW.out.andThen HW2.out))
  have HE4 := Lib.hid (show (w4.setCell ⟨w.heap.size, 0, none⟩ (.bool true)).cell? ⟨w.heap.size, 0, none⟩ = some (.bool true) from by
    have h := (HX4.out.set_ 0 (.bool true)).cell 0
    simp at h
    exact h)
  have cx := HX4.out.cell 0
  have fx := HX4.out.frozen 0
  simp at cx
  cases bv with
  | false =>
    go_wp2_with fail
    have hE := HE4.out
    exact mks0 rfl (v := .bool true) (by simp [results, Tryz.results5, go_sem, hE]) ⟨rfl, HW4.out.setCell (p := ⟨w.heap.size, 0, none⟩) (by simp) _⟩
  | true =>
    cases bv2 with
    | false =>
      go_wp2_with fail
      have hE := HE4.out
      exact mks0 rfl (v := .bool true) (by simp [results, Tryz.results5, go_sem, hE]) ⟨rfl, HW4.out.setCell (p := ⟨w.heap.size, 0, none⟩) (by simp) _⟩
    | true =>
      obtain ⟨n, p1, rfl, h1, h5, hm12, hgd1, rfl, hod1⟩ := HD.out rfl
      obtain ⟨n2, p2, hn2, _, _, hm22, hgd2, rfl, hod2⟩ := HD2.out rfl
      obtain rfl : n = n2 := by omega
      have HOd1 := Lib.hid (hod1.keep HW2.out)
      have HOd2 := Lib.hid hod2
      have HMb := Lib.hid (And.intro hm12 hm22)
      clear HD HD2 hod1 hod2 hn2 HW HW2 HX0 HB0 cx fx HE4
      obtain ⟨l1, hl1⟩ : ∃ l1, l1 = its1.map (·.2.2) := ⟨_, rfl⟩
      obtain ⟨l2, hl2⟩ : ∃ l2, l2 = its2.map (·.2.2) := ⟨_, rfl⟩
      have g1 : ∀ x ∈ l1, x.length = n ∧ ∀ z ∈ x, numOK z := fun x hx => by
        rw [hl1] at hx
        obtain ⟨t, ht, rfl⟩ := List.mem_map.1 hx
        exact hgd1 t ht
      have g2 : ∀ x ∈ l2, x.length = n ∧ ∀ z ∈ x, numOK z := fun x hx => by
        rw [hl2] at hx
        obtain ⟨t, ht, rfl⟩ := List.mem_map.1 hx
        exact hgd2 t ht
      have g12 : ∀ x ∈ l1 ++ l2, x.length = n ∧ ∀ z ∈ x, numOK z := fun x hx => (List.mem_append.1 hx).elim (g1 x) (g2 x)
      have k1 : l1.length ≤ 12 := by rw [hl1, List.length_map, HM.out.1]; exact hm12
      have k2 : l2.length ≤ 12 := by rw [hl2, List.length_map, HM.out.2]; exact hm22
      have HOk1 := Lib.hid (odOf_ok n l1 h1 h5 (by omega) (fun y hy => (g1 y hy).1) (fun y hy => (g1 y hy).2))
      have HOk2 := Lib.hid (odOf_ok n l2 h1 h5 (by omega) (fun y hy => (g2 y hy).1) (fun y hy => (g2 y hy).2))
      have hB1 : OdB 12 (odOf n l1) := fun r hr => (odOf_B n _ r hr).mono k1
      have hB2 : OdB 12 (odOf n l2) := fun r hr => (odOf_B n _ r hr).mono k2
      have HWf1 := Lib.hid (wf_odOf (fun y hy => (g1 y hy).1) HOk1.out)
      have HWf2 := Lib.hid (wf_odOf (fun y hy => (g2 y hy).1) HOk2.out)
      have HSz1 := Lib.hid (bytesO_size hB1 (by rw [odOf_len]; omega))
      have HSz2 := Lib.hid (bytesO_size hB2 (by rw [odOf_len]; omega))
      have HB3 := Lib.hid (And.intro (show OdB 100 (odOf n l1) from fun r hr => (hB1 r hr).mono (by omega)) (show OdB 100 (odOf n l2) from fun r hr => (hB2 r hr).mono (by omega)))
      have HMg1 := Lib.hid (merge_odOf (ls := l1) (ls' := l2) (fun y hy => (g1 y hy).1) (fun y hy => (g2 y hy).1))
      have HMg2 := Lib.hid ((merge_odOf (ls := l2) (ls' := l1) (fun y hy => (g2 y hy).1) (fun y hy => (g1 y hy).1)).trans (odOf_mem (ls := l2 ++ l1) (ls' := l1 ++ l2) (fun y hy => (List.mem_append.1 hy).elim (fun h => (g2 y h).1) fun h => (g1 y h).1) (fun y hy => (g12 y hy).1) (fun y => ⟨fun h => List.mem_append.2 (List.mem_append.1 h).symm, fun h => List.mem_append.2 (List.mem_append.1 h).symm⟩)))
      have HRm := Lib.hid (show ∀ r ∈ odOf n (l1 ++ l2), RwOK r from fun r hr => by
        have hB : OdB 24 (odOf n (l1 ++ l2)) := fun r hr => (odOf_B n _ r hr).mono (by rw [List.length_append]; omega)
        have hNu := odOf_nums n (l1 ++ l2) (fun y hy => (g12 y hy).1) (fun y hy => (g12 y hy).2)
        exact ⟨Nat.le_trans (hB r hr).1 (by omega), fun q hq => ⟨⟨by have := (hNu r hr q hq).1; unfold numOK at this; omega, by have := (hNu r hr q hq).1; unfold numOK at this; omega⟩, Nat.le_trans ((hB r hr).2 q hq) (by omega)⟩⟩)
      have HLm := Lib.hid (odOf_len n (l1 ++ l2))
      have HGd := Lib.hid (show Good n (its1 ++ its2) from fun t ht => (List.mem_append.1 ht).elim (hgd1 t) (hgd2 t))
      have HLe := Lib.hid (show (its1 ++ its2).map (·.2.2) = l1 ++ l2 from by rw [List.map_append, hl1, hl2])
      rw [← hl1] at HOd1
      rw [← hl2] at HOd2
      obtain ⟨od1, hod1⟩ : ∃ od1, od1 = odOf n l1 := ⟨_, rfl⟩
      obtain ⟨od2, hod2⟩ : ∃ od2, od2 = odOf n l2 := ⟨_, rfl⟩
      obtain ⟨odm, hodm⟩ : ∃ odm, odm = odOf n (l1 ++ l2) := ⟨_, rfl⟩
      rw [← hod1, ← hod2, ← hodm] at HMg1 HMg2
      rw [← hod1, ← hod2] at HB3
      rw [← hod1] at HOk1 HWf1 HSz1 HOd1
      rw [← hod2] at HOk2 HWf2 HSz2 HOd2
      rw [← hodm] at HRm HLm
      have HOdm := Lib.hid hodm
      clear hod1 hod2 hodm hl1 hl2 g1 g2 g12 k1 k2 hB1 hB2 hgd1 hgd2 hm12 hm22
      have HS1 := Lib.hid (Merge_any p1 p2 n 100 od1 od2 w4 HOd1.out HOd2.out HOk1.out.len HOk2.out.len (by omega) (by omega) HB3.out.1 HB3.out.2 HOk1.out.Nu HOk2.out.Nu)
      rw [HMg1.out] at HS1
      go_upto_region 9 with (first
        | (go_at_call 27; refine HS1.out.mono ?_; clear HS1; rintro e w5 ⟨pm, rfl, ho, hb⟩; have HOm := Lib.hid ho; have HB5 := Lib.hid hb; have HS2 := Lib.hid (Merge_any p2 p1 n 100 od2 od1 w5 (HOd2.out.keep hb) (HOd1.out.keep hb) HOk2.out.len HOk1.out.len (by omega) (by omega) HB3.out.2 HB3.out.1 HOk2.out.Nu HOk1.out.Nu); rw [HMg2.out] at HS2; clear ho hb)
        | (go_at_call 27; refine HS2.out.mono ?_; clear HS2; rintro e w6 ⟨pn, rfl, ho, hb⟩; have HOn := Lib.hid ho; have HB6 := Lib.hid (HB5.out.andThen hb); have HB56 := Lib.hid hb; clear ho hb)
        | fail)
      have HX6 := Lib.hid (HX4.out.keep HB6.out)
      have HW6 := Lib.hid (HW4.out.andThen HB6.out)
      have HOm6 := Lib.hid (HOm.out.keep HB56.out)
      have HOd16 := Lib.hid (HOd1.out.keep HB6.out)
      have HOd26 := Lib.hid (HOd2.out.keep HB6.out)
      clear HX4 HW4 HOm HOd1 HOd2 HB5 HB6 HB56 HMg1 HMg2 HB3
      have HE0 := Lib.hid (show (w6.alloc (.cells #[] 22)).ownsRow w6.heap.size 22 1 (.slice (some ⟨w6.heap.size, 0, none⟩) 0 0) 0 [] from by
        have h := World.ownsRow_lit (base := w6.heap.size) (size := 1) (e := 22) w6 #[] 0 (Nat.le_refl _) (by unfold maxLen; omega) (by simp)
        simpa using h)
      have hmb1 := HMb.out.1
      have hmb2 := HMb.out.2
      have HOfF := Lib.hid (show ∀ (V : World) (A : Option Addr) (c : Nat), Below w6.heap.size w6 V → Sl V 1 A (m1 + m2) ((its1 ++ its2).map rv) → Calls Tryz.prog 28 #[.int .i64 (n : Int), .slice A (m1 + m2) c] V (fun e w' => ∃ p, e = .returned (.tuple #[.pointer (some ⟨p, 0, none⟩), .nilIface]) ∧ OdM w' p odm ∧ Below w6.heap.size w6 w') from fun V A c hb hs => by
        have h := OfOd_any n (its1 ++ its2) A (m1 + m2) c V h1 (by omega) (by rw [List.length_append, HM.out.1, HM.out.2]) (by omega) hs (fun t ht => (List.mem_append.1 ht).elim ((HIn.out V (HW6.out.andThen hb)).2.1 t) ((HIn.out V (HW6.out.andThen hb)).2.2.2.1 t)) HGd.out
        rw [HLe.out, ← HOdm.out] at h
        exact h.mono fun e w' ⟨p, k1, k2, k3⟩ => ⟨p, k1, k2, hb.andThen k3⟩)
      have HQ1 := Lib.hid (HIn.out w6 HW6.out).1
      have HQ2 := Lib.hid (HIn.out w6 HW6.out).2.2.1
      go_upto_region 10 with (first
        | (at_builtin; refine wpList_cat_at elemIntsQ _ _ rfl rfl HE0.out (by simp) (HQ1.out.keep (bel_al (Below.refl _ _) _)) rfl rfl (fun u hu => by obtain ⟨t, _, rfl⟩ := List.mem_map.1 hu; rfl) (by unfold lim; omega) (by unfold lim; omega) ?_; intro v7 w7 hown7 hgr7; rw [Nat.zero_add] at hown7; have HO7 := Lib.hid hown7; have HG7 := Lib.hid hgr7; have HB7 := Lib.hid ((bel_al (Below.refl w6.heap.size w6) (.cells #[] 22)).trans (hgr7.belowOwn (by simp) HE0.out)); clear hown7 hgr7 HE0 HQ1)
        | (at_builtin; refine wpList_cat_at elemIntsQ _ _ rfl rfl HO7.out (by have := HG7.out.size; simp at this ⊢; omega) (HQ2.out.keep HB7.out) rfl rfl (fun u hu => by obtain ⟨t, _, rfl⟩ := List.mem_map.1 hu; rfl) (by unfold lim; omega) (by unfold lim; omega) ?_; intro v8 w8 hown8 hgr8; have HB8 := Lib.hid (HB7.out.trans (hgr8.belowOwn (by have := HG7.out.size; simp at this ⊢; omega) HO7.out)); obtain ⟨A8, c8, rfl, hs8⟩ := Sl.own hown8; have HOf := Lib.hid (HOfF.out w8 A8 c8 HB8.out (by rw [List.map_append]; simpa using hs8)); clear hown8 hgr8 hs8 HO7 HG7 HB7 HOfF HQ2)
        | (go_at_call 28; refine HOf.out.mono ?_; clear HOf; rintro e w9 ⟨pb, rfl, ho, hb⟩; have HOb := Lib.hid ho; have HB9 := Lib.hid hb; clear ho hb)
        | fail)
      have HX9 := Lib.hid (HX6.out.keep HB9.out)
      have HW9 := Lib.hid (HW6.out.andThen HB9.out)
      have HOm9 := Lib.hid (HOm6.out.keep HB9.out)
      have HOn9 := Lib.hid (HOn.out.keep HB9.out)
      have HOd19 := Lib.hid (HOd16.out.keep HB9.out)
      have HOd29 := Lib.hid (HOd26.out.keep HB9.out)
      clear HX6 HW6 HOm6 HOn HOd16 HOd26 HB8 HB9 HGd HLe HMb hmb1 hmb2
      have HS1 := Lib.hid (OfOd_any (n + 1) [] none 0 0 w9 (by omega) (by omega) rfl (by omega) (Sl.nil _ _ _) (fun t ht => by cases ht) (fun t ht => by cases ht))
      rw [show ((n + 1 : Nat) : Int) = (n : Int) + 1 from by omega] at HS1
      have hmod : (n : Int) % 8 = (n : Int) := by omega
      have hn0 : (0 : Int) ≤ (n : Int) := by omega
      have hnw : IntKind.i64.wrap ((n : Int) + 1) = (n : Int) + 1 := by rw [IntKind.wrap_i64]; omega
      go_upto_region 16 with (first
        | (go_at_call 28; refine HS1.out.mono ?_; clear HS1; rintro e w10 ⟨po, rfl, ho, hb⟩; have HB10 := Lib.hid hb; have HS2 := Lib.hid (Merge_len p1 po n (n + 1) od1 _ w10 (HOd19.out.keep hb) ho HOk1.out.len (odOf_len _ _) (by omega)); clear ho hb)
        | (go_at_call 27; refine HS2.out.mono ?_; clear HS2; rintro e w11 ⟨ev, rfl, hv, hb⟩; obtain ⟨g11, rfl, hk⟩ := hv; have HK11 := Lib.hid hk; have HB11 := Lib.hid hb; have HS3 := Lib.hid (Merge_nil2 ⟨p1, 0, none⟩ w11); clear hk hb)
        | (go_at_call 27; refine HS3.out.mono ?_; clear HS3; rintro e w12 ⟨ev, rfl, hv, hb⟩; obtain ⟨g12, rfl, hk⟩ := hv; have HK12 := Lib.hid hk; have HB12 := Lib.hid hb; have HS4 := Lib.hid (Merge_nil1 (.pointer (some ⟨p1, 0, none⟩)) w12); clear hk hb)
        | (go_at_call 27; refine HS4.out.mono ?_; clear HS4; rintro e w13 ⟨ev, rfl, hv, hb⟩; obtain ⟨g13, rfl, hk⟩ := hv; have HK13 := Lib.hid hk; have HB13 := Lib.hid hb; have HS5 := Lib.hid (Count_nil w13); clear hk hb)
        | (go_at_call 29; refine HS5.out.mono ?_; clear HS5; rintro e w14 ⟨rfl, hb⟩; have HB14 := Lib.hid hb; clear hb)
        | fail)
      have HB114 := Lib.hid (HB12.out.andThen (HB13.out.andThen HB14.out))
      have HB914 := Lib.hid (HB10.out.andThen (HB11.out.andThen HB114.out))
      have HX14 := Lib.hid (HX9.out.keep HB914.out)
      have HW14 := Lib.hid (HW9.out.andThen HB914.out)
      have HOds := Lib.hid (And.intro (HOm9.out.keep HB914.out) (And.intro (HOn9.out.keep HB914.out) (And.intro (HOb.out.keep HB914.out) (And.intro (HOd19.out.keep HB914.out) (HOd29.out.keep HB914.out)))))
      have HErs := Lib.hid (And.intro (HK11.out.keep HB114.out) (And.intro (HK12.out.keep (HB13.out.andThen HB14.out)) (HK13.out.keep HB14.out)))
      clear HX9 HW9 HOm9 HOn9 HOb HOd19 HOd29 HK11 HK12 HK13 HB10 HB11 HB12 HB13 HB14 HB114 HB914 hmod hn0 hnw
      go_wp2_with (go_at_call 30; refine (OdPaths_any none _).mono ?_; rintro e wx ⟨rfl, rfl⟩)
      obtain ⟨V5, hV5⟩ : ∃ V5, w14.alloc (.cells #[.pointer none] 51) = V5 := ⟨_, rfl⟩
      have hb5 : Below w14.heap.size w14 V5 := by rw [← hV5]; exact bel_al (Below.refl _ _) _
      have hp5 : Blk V5 w14.heap.size 51 #[.pointer none] := by rw [← hV5]; exact Blk.new w14 _ _
      rw [hV5]
      clear hV5
      refine (wpIn_wide (n := 5)).1 ?_
      refine rangeFunc_one (fun _ b => b) rfl (by omega) (gf := 73) (lb := #[.pointer (some ⟨w14.heap.size, 0, none⟩)]) rfl trivial (enters_of Tryz.func73 (by kernel_rfl) rfl)
        (paths_nil _ w14.heap.size V5 hp5) (fun pre x W l o o' _ _ h => h) (fun _ _ => trivial) (fun _ _ _ _ _ _ _ _ _ => trivial) (Below.refl _ _)
        (fun _ W => Below w14.heap.size w14 W) (fun _ _ _ => False) (ownFrom_below (Nat.le_refl _) hb5.size) (fun c s A B row hs _ _ => hs.elim) hb5 ?assign ?body ?done ?stop
      case assign =>
        intro l x W K hK
        gi_wp2
        exact hK
      case body =>
        rintro l pre x W _ h
        exact h.elim
      case stop =>
        rintro D c pre W _ _ h _
        exact h.elim
      case done =>
        rintro D xs W6 hD _ hb6 hK6
        have HX6 := Lib.hid (HX14.out.keep hb6)
        have HW6 := Lib.hid (HW14.out.andThen hb6)
        have HD6 := Lib.hid (show w.heap.size ≤ D from Nat.le_trans HW14.out.size (Nat.le_trans hb5.size hD))
        have HK6 := Lib.hid hK6
        have HO6 := Lib.hid (show ∀ V, Below W6.heap.size W6 V → OdM V pm odm ∧ OdM V pn odm ∧ OdM V pb odm ∧ OdM V p1 od1 ∧ OdM V p2 od2 from fun V hV => ⟨HOds.out.1.keep (hb6.andThen hV), HOds.out.2.1.keep (hb6.andThen hV), HOds.out.2.2.1.keep (hb6.andThen hV), HOds.out.2.2.2.1.keep (hb6.andThen hV), HOds.out.2.2.2.2.keep (hb6.andThen hV)⟩)
        have HE6 := Lib.hid (show ∀ V, Below W6.heap.size W6 V → ErrT V ∧ Blk V g11 107 #[.int .i64 1, .int .i64 0, .string ⟨#[108, 101, 110, 103, 116, 104]⟩] ∧ Blk V g12 107 #[.int .i64 10, .int .i64 0, .string ⟨#[111, 100, 97, 103]⟩] ∧ Blk V g13 107 #[.int .i64 10, .int .i64 0, .string ⟨#[111, 100, 97, 103]⟩] from fun V hV => ⟨(HIn.out V (HW6.out.andThen hV)).2.2.2.2, HErs.out.1.keep (hb6.andThen hV), HErs.out.2.1.keep (hb6.andThen hV), HErs.out.2.2.keep (hb6.andThen hV)⟩)
        clear hp5 hb5 hb6 hK6 hD HX14 HW14 HOds HErs
        have HReadF := Lib.hid (show ∀ (V : World) (C : Option Addr) (k : Nat), Below W6.heap.size W6 V → Sl V 1 C (bytesO od1).length ((bytesO od1).map (Value.int .u8)) → ((bytesO od1).length ≤ k ∧ k ≤ 9223372036854775807) → Calls Tryz.prog 24 #[.slice C (bytesO od1).length k] V (fun e w' => ∃ pk, e = .returned (.tuple #[.pointer (some ⟨pk, 0, none⟩), .nilIface]) ∧ OdM w' pk od1 ∧ Below V.heap.size V w') from fun V C k hV hs hc =>
          (ReadOd_any (bytesO od1) C (bytesO od1).length k V HSz1.out hc.1 hc.2 rfl (bytesO_bys od1) hs).mono fun e w' ⟨hb, h⟩ => by
            rcases h with ⟨pk, od, N, rfl, ho, hw, he⟩ | ⟨E, T, x, _, _, _, hno⟩
            · rw [bytesO_inj hw HWf1.out he] at ho
              exact ⟨pk, rfl, ho, hb⟩
            · exact absurd rfl (hno od1 n HWf1.out))
        have HSm := Lib.hid (show ∀ (p p' : Nat) (od od' : List Rw) (V : World), OdM V p od → OdM V p' od' → od.length ≤ 1000 → (∀ r ∈ od, RwOK r) → (∀ r ∈ od', RwOK r) → Calls Tryz.prog 31 #[.pointer (some ⟨p, 0, none⟩), .pointer (some ⟨p', 0, none⟩)] V (fun e w' => e = .returned (.bool (decide (od = od'))) ∧ Below V.heap.size V w') from fun p p' od od' V h h' hn ho ho' => OdSame_any p p' od od' V h h' hn ho ho')
        have HLmn := Lib.hid (show odm.length ≤ 1000 from by rw [HLm.out]; omega)
        have HLo1 := Lib.hid (show od1.length ≤ 1000 from by rw [HOk1.out.len]; omega)
        obtain ⟨bb, hbb⟩ : ∃ bb, decide (od1 = od2) = bb := ⟨_, rfl⟩
        have HBb := Lib.hid hbb
        have HBb2 := Lib.hid (show decide (bytesO od1 = bytesO od2) = bb from by
          rw [← hbb]
          by_cases h : od1 = od2
          · rw [decide_eq_true h, decide_eq_true (by rw [h])]
          · rw [decide_eq_false h, decide_eq_false fun e => h (bytesO_inj HWf1.out HWf2.out e)])
        have T1 := Lib.hid (OdBytes_any p1 n od1 W6 (HO6.out W6 (Below.refl _ _)).2.2.2.1 HWf1.out (by have := HSz1.out; omega))
        clear hbb
        go_wp2_with (first
          | (go_at_call 25; refine T1.out.mono ?_; clear T1; rintro e a1 ⟨C1, k1, rfl, hs, hc, hb⟩; have G1 := Lib.hid hb; have T2 := Lib.hid (HReadF.out a1 C1 k1 hb hs hc); clear hs hc hb)
          | (go_at_call 24; refine T2.out.mono ?_; clear T2; rintro e a2 ⟨pk, rfl, ho, hb⟩; have HOk := Lib.hid ho; have G2 := Lib.hid (G1.out.andThen hb); have T3 := Lib.hid (HSm.out pm pn odm odm a2 (HO6.out a2 G2.out).1 (HO6.out a2 G2.out).2.1 HLmn.out HRm.out HRm.out); rw [decide_eq_true rfl] at T3; clear ho hb)
          | (go_at_call 31; refine T3.out.mono ?_; clear T3; rintro e a3 ⟨rfl, hb⟩; have G3 := Lib.hid (G2.out.andThen hb); have K3 := Lib.hid hb; have T4 := Lib.hid (HSm.out pm pb odm odm a3 (HO6.out a3 G3.out).1 (HO6.out a3 G3.out).2.2.1 HLmn.out HRm.out HRm.out); rw [decide_eq_true rfl] at T4; clear hb)
          | (go_at_call 31; refine T4.out.mono ?_; clear T4; rintro e a4 ⟨rfl, hb⟩; have G4 := Lib.hid (G3.out.andThen hb); have K4 := Lib.hid (K3.out.andThen hb); have T5 := Lib.hid (HSm.out p1 p2 od1 od2 a4 (HO6.out a4 G4.out).2.2.2.1 (HO6.out a4 G4.out).2.2.2.2 HLo1.out (odOK_rw2 HOk1.out) (odOK_rw2 HOk2.out)); rw [HBb.out] at T5; clear hb)
          | (go_at_call 31; refine T5.out.mono ?_; clear T5; rintro e a5 ⟨rfl, hb⟩; have G5 := Lib.hid (G4.out.andThen hb); have K5 := Lib.hid (K4.out.andThen hb); have T6 := Lib.hid (OdBytes_any p1 n od1 a5 (HO6.out a5 G5.out).2.2.2.1 HWf1.out (by have := HSz1.out; omega)); clear hb)
          | (go_at_call 25; refine T6.out.mono ?_; clear T6; rintro e a6 ⟨C6, k6, rfl, hs, hc, hb⟩; have G6 := Lib.hid (G5.out.andThen hb); have K6 := Lib.hid (K5.out.andThen hb); have HS6b := Lib.hid hs; have T7 := Lib.hid (OdBytes_any p2 n od2 a6 (HO6.out a6 G6.out).2.2.2.2 HWf2.out (by have := HSz2.out; omega)); clear hs hc hb)
          | (go_at_call 25; refine T7.out.mono ?_; clear T7; rintro e a7 ⟨C7, k7, rfl, hs, hc, hb⟩; have G7 := Lib.hid (G6.out.andThen hb); have K7 := Lib.hid (K6.out.andThen hb); have T8 := Lib.hid (Same_any (bytesO od1) (bytesO od2) C6 C7 (bytesO od1).length (bytesO od2).length k6 k7 a7 rfl rfl (HS6b.out.keep hb) hs (by have := HSz1.out; omega)); rw [HBb2.out] at T8; clear hs hc hb)
          | (go_at_call 19; refine T8.out.mono ?_; clear T8; rintro e a8 ⟨rfl, hb⟩; have G8 := Lib.hid (G7.out.andThen hb); have K8 := Lib.hid (K7.out.andThen hb); have T9 := Lib.hid (Code_flt g11 1 0 _ a8 (HE6.out a8 G8.out).1 (HE6.out a8 G8.out).2.1); clear hb)
          | (go_at_call 21; refine T9.out.mono ?_; clear T9; rintro e a9 ⟨rfl, hb⟩; have G9 := Lib.hid (G8.out.andThen hb); have K9 := Lib.hid (K8.out.andThen hb); have T10 := Lib.hid (Code_flt g12 10 0 _ a9 (HE6.out a9 G9.out).1 (HE6.out a9 G9.out).2.2.1); clear hb)
          | (go_at_call 21; refine T10.out.mono ?_; clear T10; rintro e a10 ⟨rfl, hb⟩; have G10 := Lib.hid (G9.out.andThen hb); have K10 := Lib.hid (K9.out.andThen hb); have T11 := Lib.hid (Code_flt g13 10 0 _ a10 (HE6.out a10 G10.out).1 (HE6.out a10 G10.out).2.2.2); clear hb)
          | (go_at_call 21; refine T11.out.mono ?_; clear T11; rintro e a11 ⟨rfl, hb⟩; have G11 := Lib.hid (G10.out.andThen hb); have K11 := Lib.hid (K10.out.andThen hb); have T12 := Lib.hid (Same_nil a11); clear hb)
          | (go_at_call 31; refine T12.out.mono ?_; clear T12; rintro e ax ⟨rfl, rfl⟩; have T13 := Lib.hid (Same_nil2 ⟨p1, 0, none⟩ a11))
          | (go_at_call 31; refine T13.out.mono ?_; clear T13; rintro e ax ⟨rfl, rfl⟩; have T14 := Lib.hid (OdLen_nil a11))
          | (go_at_call 32; refine T14.out.mono ?_; clear T14; rintro e ax ⟨rfl, rfl⟩; have T15 := Lib.hid (Cost_nil a11))
          | (go_at_call 33; refine T15.out.mono ?_; clear T15; rintro e ax ⟨rfl, rfl⟩; have T16 := Lib.hid (Row_nil a11))
          | (go_at_call 34; refine T16.out.mono ?_; clear T16; rintro e ax ⟨rfl, rfl⟩; have T17 := Lib.hid (Links_nil a11))
          | (go_at_call 35; refine T17.out.mono ?_; clear T17; rintro e ax ⟨rfl, rfl⟩; have T18 := Lib.hid (HSm.out pk p1 od1 od1 a11 (HOk.out.keep K11.out) (HO6.out a11 G11.out).2.2.2.1 HLo1.out (odOK_rw2 HOk1.out) (odOK_rw2 HOk1.out)); rw [decide_eq_true rfl] at T18)
          | (go_at_call 31; refine T18.out.mono ?_; clear T18; rintro e a12 ⟨rfl, hb⟩; have G12 := Lib.hid (G11.out.andThen hb); have cx := (HX6.out.keep G12.out).cell 0; have fx := (HX6.out.keep G12.out).frozen 0; simp at cx; clear hb)
          | fail)
        have HB := G12.out
        exact law_endAt [D] w.heap.size (Nat.le_refl _) (fun V hV => by simp [results, Tryz.results5, go_sem, hV]) rfl (fun E h => by rw [List.mem_singleton.1 h]; exact (HB.block D (Array.getElem?_eq_some_iff.1 HK6.out).1).trans HK6.out) (by simp) (HX6.out.keep HB) (HW6.out.andThen HB) (fun E h => by rw [List.mem_singleton.1 h]; exact HD6.out)

/-- OdagMerge, as its frame asks it. -/
theorem OdagMerge_main (a0 : Int) (A1 : Option Addr) (n1 c1 : Nat) (its1 : List (Option Addr × Nat × List Int)) (A2 : Option Addr) (n2 c2 : Nat) (its2 : List (Option Addr × Nat × List Int)) (w : World) (hg : ErrT w) (w0 : (Lit.int .i64 a0).wf = true) (m1 : n1 ≤ maxLen) (e1 : its1.length = n1) (s1 : Sl w 1 A1 n1 (its1.map rv)) (r1 : AllRows w its1) (m2 : n2 ≤ maxLen) (e2 : its2.length = n2) (s2 : Sl w 1 A2 n2 (its2.map rv)) (r2 : AllRows w its2) :
    Calls Tryz.prog 5 #[.int .i64 a0, .slice A1 n1 c1, .slice A2 n2 c2] w fun e w' => e = .returned (.bool true) ∧ Below w.heap.size w w' :=
  OdagMerge_walk a0 its1 A1 n1 c1 its2 A2 n2 c2 w hg e1 s1 r1 e2 s2 r2
end Go.Proofs.YtmonepclhbappaaGreatDoor
/-
  Rows of ints that came in.
-/
namespace Go.Proofs.YtmonepclhbappaaGreatDoor
open Go.ChangeShapes Go.WideShapes Go.ChangeAt Go.RowKit
set_option linter.unusedVariables false
section
variable {H : Type} {enc : TypeId × Value → H} {w : World} {base : Nat} {spare : Nat → Bool} {held : Bool}
theorem open_row {fuel : Nat} {v : Value} {y : DataW H × List MemPlace} (h : DataW.trod enc Tryz.prog w base spare held fuel 22 [v] = some y) : ∃ t : Option Addr × Nat × List Int, v = rv t ∧ RowOK w t := by
  rcases Deep.open_slice Tryz.underlying22 h with ⟨h0, _⟩ | ⟨a, len, cap, m, f', D, Pl, hv, _, hl, hm, hmm, _, hx⟩
  · injection h0 with h0 _
    exact ⟨(none, 0, []), h0, Sl.nil _ _ _, Nat.le_refl _, Nat.zero_le _⟩
  · injection hv with hv _
    subst hv
    obtain ⟨_, zs, h1, h2, _⟩ := open_sl_ints Tryz.underlying22 Tryz.underlying3 (by kernel_rfl) h
    subst h1
    exact ⟨(some a, cap, zs), rfl, h2, hl, Nat.le_trans hm (by decide)⟩
theorem rows_of {w : World} : ∀ css : List (List Value), (∀ cs ∈ css, ∃ t, cs = [rv t] ∧ RowOK w t) → ∃ its : List (Option Addr × Nat × List Int), css.flatten = its.map rv ∧ its.length = css.length ∧ AllRows w its
  | [], _ => ⟨[], rfl, rfl, fun t ht => by cases ht⟩
  | cs :: css, h => by
    obtain ⟨t, rfl, ht⟩ := h cs (List.mem_cons_self ..)
    obtain ⟨its, h1, h2, h3⟩ := rows_of css fun c hc => h c (List.mem_cons_of_mem _ hc)
    refine ⟨t :: its, by rw [List.flatten_cons, h1]; rfl, by simp [h2], fun u hu => ?_⟩
    rcases List.mem_cons.1 hu with rfl | hu
    · exact ht
    · exact h3 u hu
theorem open_sl_rows {fuel n c : Nat} {A : Option Addr} {x : DataW H × List MemPlace} (h : DataW.trod enc Tryz.prog w base spare held fuel 56 [.slice A n c] = some x) :
    n ≤ maxLen ∧ ∃ its : List (Option Addr × Nat × List Int), its.length = n ∧ Sl w 1 A n (its.map rv) ∧ AllRows w its := by
  obtain ⟨hm, css, h1, h2, h3⟩ := open_sl (s := 1) (by kernel_rfl) (by omega) Tryz.underlying56 h
  obtain ⟨its, h4, h5, h6⟩ := rows_of (w := w) css fun cs hc => by
    obtain ⟨hl, fu, y, hy⟩ := h3 cs hc
    obtain ⟨v, rfl⟩ : ∃ v, cs = [v] := List.length_eq_one_iff.1 hl
    obtain ⟨t, rfl, ht⟩ := open_row hy
    exact ⟨t, rfl, ht⟩
  rw [h4] at h2
  exact ⟨hm, its, by omega, h2, h6⟩
end
end Go.Proofs.YtmonepclhbappaaGreatDoor
