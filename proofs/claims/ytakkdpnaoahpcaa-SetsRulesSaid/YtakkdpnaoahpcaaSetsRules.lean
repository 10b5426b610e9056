/-
  SetsRules: the law's walk.
-/
import Derived.Test.YtakkdpnaoahpcaaSetsTwo
namespace Go.Proofs.Ytakkdpnaoahpcaa
open Go.RowKit
set_option maxRecDepth 100000
set_option linter.unusedVariables false

theorem inc_nodup {l : List Int} (h : Inc l) : l.Nodup := h.imp fun h => by omega
theorem filt_sum (p : Int → Bool) : ∀ l : List Int, (l.filter p).length + (l.filter fun y => !p y).length = l.length
  | [] => rfl
  | x :: l => by
    have := filt_sum p l
    by_cases h : p x = true
    · rw [List.filter_cons_of_pos h, List.filter_cons_of_neg (by simp [h])]; simp; omega
    · rw [List.filter_cons_of_neg h, List.filter_cons_of_pos (by simp [h])]; simp; omega
theorem sum_sets (X Y : List Int) (hX : Inc X) (hY : Inc Y) : (setL (X ++ Y)).length + (X.filter fun y => decide (y ∈ Y)).length = X.length + Y.length := by
  have h1 : List.Perm (setL (X ++ Y)) ((X.filter fun y => !decide (y ∈ Y)) ++ Y) := by
    refine (List.perm_ext_iff_of_nodup (inc_nodup (setL_inc _)) ?_).2 fun z => ?_
    · refine List.nodup_append.2 ⟨(inc_nodup hX).sublist List.filter_sublist, inc_nodup hY, ?_⟩
      rintro a ha b hb rfl
      have := (List.mem_filter.1 ha).2
      simp at this
      exact this hb
    · rw [setL_mem, List.mem_append, List.mem_append, List.mem_filter]
      by_cases hz : z ∈ Y <;> simp [hz]
  have h2 := h1.length_eq
  have h3 : (X.filter fun y => decide (y ∈ Y)).length + (X.filter fun y => !decide (y ∈ Y)).length = X.length := by
    exact filt_sum (fun y => decide (y ∈ Y)) X
  rw [List.length_append] at h2
  omega
theorem back_sets (X Y : List Int) (hX : Inc X) : setL ((X.filter fun y => !decide (y ∈ Y)) ++ X.filter fun y => decide (y ∈ Y)) = X := by
  refine inc_ext (setL_inc _) hX fun z => ?_
  rw [setL_mem, List.mem_append, List.mem_filter, List.mem_filter]
  by_cases hz : z ∈ Y <;> simp [hz]
theorem off_sets (X : List Int) (n : Int) (hX : Inc X) : ((addL X n).filter fun y => y != n) = X.filter fun y => y != n := by
  refine inc_ext ((addL_inc X n hX).sublist List.filter_sublist) (hX.sublist List.filter_sublist) fun z => ?_
  rw [List.mem_filter, List.mem_filter, addL_mem]
  by_cases hz : z = n <;> simp [hz]

/-- What lies ready in SetsRules. -/
def Five (CX : Option Addr) (X : List Int) (CY : Option Addr) (Y : List Int) (CZ : Option Addr) (Z : List Int) (CU : Option Addr) (U : List Int) (CI : Option Addr) (I : List Int) (W : World) : Prop :=
  Sl W 1 CX X.length (X.map (Value.int .i64)) ∧ Sl W 1 CY Y.length (Y.map (Value.int .i64)) ∧ Sl W 1 CZ Z.length (Z.map (Value.int .i64)) ∧ Sl W 1 CU U.length (U.map (Value.int .i64)) ∧ Sl W 1 CI I.length (I.map (Value.int .i64))
theorem Five.keep {CX : Option Addr} {X : List Int} {CY : Option Addr} {Y : List Int} {CZ : Option Addr} {Z : List Int} {CU : Option Addr} {U : List Int} {CI : Option Addr} {I : List Int} {W W' : World}
    (h : Five CX X CY Y CZ Z CU U CI I W) (hb : Below W.heap.size W W') : Five CX X CY Y CZ Z CU U CI I W' := ⟨h.1.keep hb, h.2.1.keep hb, h.2.2.1.keep hb, h.2.2.2.1.keep hb, h.2.2.2.2.keep hb⟩

set_option maxHeartbeats 16000000 in
theorem SetsRules_n (A0 : Option Addr) (n0 c0 : Nat) (l0 : List Int) (A1 : Option Addr) (n1 c1 : Nat) (l1 : List Int) (A2 : Option Addr) (n2 c2 : Nat) (l2 : List Int) (z : Int) (w : World)
    (h0 : n0 ≤ 60) (e0 : l0.length = n0) (s0 : Sl w 1 A0 n0 (l0.map (Value.int .i64))) (h1 : n1 ≤ 60) (e1 : l1.length = n1) (s1 : Sl w 1 A1 n1 (l1.map (Value.int .i64))) (h2 : n2 ≤ 60) (e2 : l2.length = n2) (s2 : Sl w 1 A2 n2 (l2.map (Value.int .i64)))
    (hp1 : ¬ (∀ y ∈ setL l0, y ∈ setL l1)) :
    Calls Try.prog 7 #[.slice A0 n0 c0, .slice A1 n1 c1, .slice A2 n2 c2, .int .i64 z] w fun e w' => e = .returned (.bool true) ∧ Below w.heap.size w w' := by
  have HA := Lib.hid (alive06 w)
  have S0 := Lib.hid s0
  have S1 := Lib.hid s1
  have S2 := Lib.hid s2
  have E0 := Lib.hid e0
  have E1 := Lib.hid e1
  have E2 := Lib.hid e2
  clear s0 s1 s2 e0 e1 e2
  have h0' : ¬ (60 : Int) < (n0 : Int) := by omega
  have h1' : ¬ (60 : Int) < (n1 : Int) := by omega
  have h2' : ¬ (60 : Int) < (n2 : Int) := by omega
  have hl0 : (setL l0).length ≤ 60 := by have := setL_le l0; have := E0.out; omega
  have hl1 : (setL l1).length ≤ 60 := by have := setL_le l1; have := E1.out; omega
  have hl2 : (setL l2).length ≤ 60 := by have := setL_le l2; have := E2.out; omega
  have HXI := Lib.hid (setL_inc l0)
  have HYI := Lib.hid (setL_inc l1)
  have HZI := Lib.hid (setL_inc l2)
  have HOa := Lib.hid (fun W (hb : Below w.heap.size w W) => Of_any l0 A0 n0 c0 W E0.out (by omega) (S0.out.keep hb) (fun h => sl_lt (S0.out.keep hb) h))
  have HOb := Lib.hid (fun W (hb : Below w.heap.size w W) => Of_any l1 A1 n1 c1 W E1.out (by omega) (S1.out.keep hb) (fun h => sl_lt (S1.out.keep hb) h))
  have HOc := Lib.hid (fun W (hb : Below w.heap.size w W) => Of_any l2 A2 n2 c2 W E2.out (by omega) (S2.out.keep hb) (fun h => sl_lt (S2.out.keep hb) h))
  generalize setL l0 = X at *
  generalize setL l1 = Y at *
  generalize setL l2 = Z at *
  have P1 := Lib.hid (decide_eq_false hp1)
  clear hp1
  have hsum := sum_sets X Y HXI.out HYI.out
  have hUl := setL_le (X ++ Y)
  rw [List.length_append] at hUl
  have hIl := List.length_filter_le (fun y => decide (y ∈ Y)) X
  have hDl := List.length_filter_le (fun y => !decide (y ∈ Y)) X
  have hAl := addL_len X z
  have hLl := List.length_filter_le (fun y => y != z) X
  have hJl := setL_le (Y ++ Z)
  have hTl := setL_le (setL (X ++ Y) ++ Z)
  rw [List.length_append] at hJl hTl
  have W1 := Lib.hid (decide_eq_true (p := ∀ y ∈ X, y ∈ setL (X ++ Y)) (fun y hy => (setL_mem _ _).2 (List.mem_append_left _ hy)))
  have W2 := Lib.hid (decide_eq_true (p := ∀ y ∈ (X.filter fun y => decide (y ∈ Y)), y ∈ Y) (fun y hy => by simpa using (List.mem_filter.1 hy).2))
  have HUI := Lib.hid (setL_inc (X ++ Y))
  have HII := Lib.hid (show Inc (X.filter fun y => decide (y ∈ Y)) from HXI.out.sublist List.filter_sublist)
  have R1 := Lib.hid (decide_eq_true HUI.out)
  have R2 := Lib.hid (decide_eq_true HII.out)
  have hV0 := (back_sets X Y HXI.out)
  have hL0 := (off_sets X z HXI.out)
  have HAI := Lib.hid (addL_inc X z HXI.out)
  have HLI := Lib.hid (show Inc (X.filter fun y => y != z) from HXI.out.sublist List.filter_sublist)
  have M1 := Lib.hid (decide_eq_true (p := z ∈ addL X z) ((addL_mem X z z).2 (.inr rfl)))
  have M2 := Lib.hid (decide_eq_false (p := z ∈ X.filter fun y => y != z) (fun h => by simpa using (List.mem_filter.1 h).2))
  have hK0 := (show setL (X ++ setL (Y ++ Z)) = setL (setL (X ++ Y) ++ Z) from setL_same fun y => by simp only [List.mem_append, setL_mem]; exact or_assoc.symm)
  obtain ⟨T, hT⟩ : ∃ T, T = setL (setL (X ++ Y) ++ Z) := ⟨_, rfl⟩
  obtain ⟨U, hU⟩ : ∃ U, U = setL (X ++ Y) := ⟨_, rfl⟩
  obtain ⟨I, hI⟩ : ∃ I, I = X.filter fun y => decide (y ∈ Y) := ⟨_, rfl⟩
  obtain ⟨D, hD⟩ : ∃ D, D = X.filter fun y => !decide (y ∈ Y) := ⟨_, rfl⟩
  obtain ⟨AX, hAX⟩ : ∃ AX, AX = addL X z := ⟨_, rfl⟩
  obtain ⟨LX, hLX⟩ : ∃ LX, LX = X.filter fun y => y != z := ⟨_, rfl⟩
  obtain ⟨YZ, hYZ⟩ : ∃ YZ, YZ = setL (Y ++ Z) := ⟨_, rfl⟩
  have HTd := Lib.hid (show setL (U ++ Z) = T by rw [hU, hT])
  have HKd := Lib.hid (show setL (X ++ YZ) = T by rw [hYZ, hT]; exact hK0)
  have HVd := Lib.hid (show setL (D ++ I) = X by rw [hD, hI]; exact hV0)
  have HLd := Lib.hid (show (AX.filter fun y => y != z) = LX by rw [hAX, hLX]; exact hL0)
  have HAd := Lib.hid hAX.symm
  have HMd := Lib.hid hLX.symm
  have HDd := Lib.hid hD.symm
  have HUd := Lib.hid hU.symm
  have HJd := Lib.hid hYZ.symm
  have HId := Lib.hid hI.symm
  rw [← hT, ← hU] at hTl
  rw [← hU] at hsum hUl W1 HUI R1
  rw [← hI] at hsum hIl W2 HII R2
  rw [← hD] at hDl
  rw [← hAX] at hAl HAI M1
  rw [← hLX] at hLl HLI M2
  rw [← hYZ] at hJl
  have C2 := Lib.hid (cmpL_zero.2 (rfl : X = X))
  have C3 := Lib.hid (cmpL_zero.2 (rfl : LX = LX))
  have C4 := Lib.hid (cmpL_zero.2 (rfl : T = T))
  clear hU hT hI hD hAX hLX hYZ hV0 hL0 hK0
  have hs1 : IntKind.i64.wrap ((U.length : Int) + (I.length : Int)) = (X.length : Int) + (Y.length : Int) := by rw [IntKind.wrap_i64]; omega
  have hs2 : IntKind.i64.wrap ((X.length : Int) + (Y.length : Int)) = (X.length : Int) + (Y.length : Int) := by rw [IntKind.wrap_i64]; omega
  go_enter Try.func7, Try.ntmps7
  go_wp2_with fail
  refine HA.out.mono ?_
  rintro e w1 ⟨rfl, hb1⟩
  have HB1 := Lib.hid hb1
  clear hb1 HA
  go_wp2_with (first
    | (go_at_call_of 9 (Value.slice A0 n0 c0); refine (HOa.out w1 HB1.out).mono ?_; clear HOa; rintro e wa ⟨vX, rfl, hown, hb⟩; obtain ⟨CX, kX, rfl, hsx⟩ := Sl.own hown; have HSX := Lib.hid hsx; have HCX := Lib.hid (own_cap hown); have HShX := Lib.hid (own_shape hown); have HBa := Lib.hid (HB1.out.andThen hb); clear hown hsx hb HB1)
    | (go_at_call_of 9 (Value.slice A1 n1 c1); refine (HOb.out wa HBa.out).mono ?_; clear HOb; rintro e wb ⟨vY, rfl, hown, hb⟩; obtain ⟨CY, kY, rfl, hsy⟩ := Sl.own hown; have HSY := Lib.hid hsy; have HCY := Lib.hid (own_cap hown); have HBb := Lib.hid (HBa.out.andThen hb); replace HSX := Lib.hid (HSX.out.keep hb); clear hown hsy hb HBa)
    | (go_at_call 9; refine (HOc.out wb HBb.out).mono ?_; clear HOc; rintro e wc ⟨vZ, rfl, hown, hb⟩; obtain ⟨CZ, kZ, rfl, hsz⟩ := Sl.own hown; have HSZ := Lib.hid hsz; have HCZ := Lib.hid (own_cap hown); have HBc := Lib.hid (HBb.out.andThen hb); replace HSX := Lib.hid (HSX.out.keep hb); replace HSY := Lib.hid (HSY.out.keep hb); have TU := Lib.hid True.intro; clear hown hsz hb HBb)
    | (clear TU; go_at_call 21; refine (Union_any X Y CX CY _ kX _ kY wc rfl (by omega) HCX.out HSX.out rfl (by omega) HCY.out HSY.out).mono ?_; rw [HUd.out]; rintro e wd ⟨v, rfl, hown, hb⟩; obtain ⟨CU, kU, rfl, hs⟩ := Sl.own hown; have HSU := Lib.hid hs; have HCU := Lib.hid (own_cap hown); have HBd := Lib.hid (HBc.out.andThen hb); replace HSX := Lib.hid (HSX.out.keep hb); replace HSY := Lib.hid (HSY.out.keep hb); replace HSZ := Lib.hid (HSZ.out.keep hb); clear hown hs hb HBc)
    | (go_at_call 22; refine (Both_any X Y CX CY _ kX _ kY wd rfl (by omega) HSX.out rfl (by omega) HYI.out HSY.out).mono ?_; rw [HId.out]; rintro e w1 ⟨v, rfl, hown, hb⟩; obtain ⟨CI, kI, rfl, hs⟩ := Sl.own hown; have HCI := Lib.hid (own_cap hown); have HB := Lib.hid (HBd.out.andThen hb); have HR := Lib.hid (show Five CX X CY Y CZ Z CU U CI I w1 from ⟨HSX.out.keep hb, HSY.out.keep hb, HSZ.out.keep hb, HSU.out.keep hb, hs⟩); have T0 := Lib.hid True.intro; clear hown hs hb HBd HSX HSY HSZ HSU)
    | (clear T0; go_at_call 24; refine (Within_any X U CX CU _ kX _ kU w1 rfl (by omega) HR.out.1 rfl (by omega) HUI.out HR.out.2.2.2.1).mono ?_; rw [W1.out]; rintro e w2 ⟨rfl, hb⟩; replace HB := Lib.hid (HB.out.andThen hb); replace HR := Lib.hid (HR.out.keep hb); clear hb; have T1 := Lib.hid True.intro)
    | (clear T1; go_at_call 24; refine (Within_any I Y CI CY _ kI _ kY w2 rfl (by omega) HR.out.2.2.2.2 rfl (by omega) HYI.out HR.out.2.1).mono ?_; rw [W2.out]; rintro e w3 ⟨rfl, hb⟩; replace HB := Lib.hid (HB.out.andThen hb); replace HR := Lib.hid (HR.out.keep hb); clear hb; have T2 := Lib.hid True.intro)
    | (clear T2; go_at_call 12; refine (Right_any U CU _ kU w3 rfl HR.out.2.2.2.1 (by omega)).mono ?_; rw [R1.out]; rintro e w4 ⟨rfl, hb⟩; replace HB := Lib.hid (HB.out.andThen hb); replace HR := Lib.hid (HR.out.keep hb); clear hb; have T3 := Lib.hid True.intro)
    | (clear T3; go_at_call 12; refine (Right_any I CI _ kI w4 rfl HR.out.2.2.2.2 (by omega)).mono ?_; rw [R2.out]; rintro e w5 ⟨rfl, hb⟩; replace HB := Lib.hid (HB.out.andThen hb); replace HR := Lib.hid (HR.out.keep hb); clear hb; have T4 := Lib.hid True.intro)
    | (clear T4; go_at_call 24; refine (Within_any X Y CX CY _ kX _ kY w5 rfl (by omega) HR.out.1 rfl (by omega) HYI.out HR.out.2.1).mono ?_; rw [P1.out]; rintro e w6 ⟨rfl, hb⟩; replace HB := Lib.hid (HB.out.andThen hb); replace HR := Lib.hid (HR.out.keep hb); clear hb; have T5 := Lib.hid True.intro)
    | (clear T5; go_at_call 24; refine (Within_any X Y CX CY _ kX _ kY w6 rfl (by omega) HR.out.1 rfl (by omega) HYI.out HR.out.2.1).mono ?_; rw [P1.out]; rintro e w7 ⟨rfl, hb⟩; replace HB := Lib.hid (HB.out.andThen hb); replace HR := Lib.hid (HR.out.keep hb); clear hb; have T6 := Lib.hid True.intro)
    | (clear T6; go_at_call 23; refine (But_any X Y CX CY _ kX _ kY w7 rfl (by omega) HR.out.1 rfl (by omega) HYI.out HR.out.2.1).mono ?_; rw [HDd.out]; rintro e w8 ⟨v, rfl, hown, hb⟩; obtain ⟨CD, kD, rfl, hs⟩ := Sl.own hown; replace HB := Lib.hid (HB.out.andThen hb); replace HR := Lib.hid (HR.out.keep hb); have HSD := Lib.hid hs; have HCD := Lib.hid (own_cap hown); have HShD := Lib.hid (own_shape hown); clear hown hs hb; have T7 := Lib.hid True.intro)
    | (clear T7; go_at_call 21; refine (Union_any D I CD CI _ kD _ kI w8 rfl (by omega) HCD.out HSD.out rfl (by omega) HCI.out HR.out.2.2.2.2).mono ?_; rw [HVd.out]; rintro e w9 ⟨v, rfl, hown, hb⟩; obtain ⟨CV, kV, rfl, hs⟩ := Sl.own hown; replace HB := Lib.hid (HB.out.andThen hb); replace HR := Lib.hid (HR.out.keep hb); replace HSD := Lib.hid (HSD.out.keep hb); have HSV := Lib.hid hs; have HCV := Lib.hid (own_cap hown); have HShV := Lib.hid (own_shape hown); clear hown hs hb; have T8 := Lib.hid True.intro)
    | (clear T8; go_at_call 13; refine (Compare_any X X CV CX _ _ kV kX w9 rfl rfl HSV.out HR.out.1 (by omega)).mono ?_; rw [C2.out]; rintro e w10 ⟨rfl, rfl⟩; clear HSD; clear HSV; have T9 := Lib.hid True.intro)
    | (clear T9; go_at_call 18; refine (AddS_any X z CX _ kX w9 rfl (by omega) HCX.out HShX.out HXI.out HR.out.1).mono ?_; rw [HAd.out]; rintro e w10 ⟨v, rfl, hown, hb⟩; obtain ⟨CA, kA, rfl, hs⟩ := Sl.own hown; replace HB := Lib.hid (HB.out.andThen hb); replace HR := Lib.hid (HR.out.keep hb); have HSA := Lib.hid hs; have HCA := Lib.hid (own_cap hown); have HShA := Lib.hid (own_shape hown); clear hown hs hb; have T10 := Lib.hid True.intro)
    | (clear T10; go_at_call 20; refine (Less_any AX z CA _ kA w10 rfl (by omega) HSA.out).mono ?_; rw [HLd.out]; rintro e w11 ⟨v, rfl, hown, hb⟩; obtain ⟨CL, kL, rfl, hs⟩ := Sl.own hown; replace HB := Lib.hid (HB.out.andThen hb); replace HR := Lib.hid (HR.out.keep hb); replace HSA := Lib.hid (HSA.out.keep hb); have HSL := Lib.hid hs; have HCL := Lib.hid (own_cap hown); have HShL := Lib.hid (own_shape hown); clear hown hs hb; have T11 := Lib.hid True.intro)
    | (clear T11; go_at_call 20; refine (Less_any X z CX _ kX w11 rfl (by omega) HR.out.1).mono ?_; rw [HMd.out]; rintro e w12 ⟨v, rfl, hown, hb⟩; obtain ⟨CM, kM, rfl, hs⟩ := Sl.own hown; replace HB := Lib.hid (HB.out.andThen hb); replace HR := Lib.hid (HR.out.keep hb); replace HSA := Lib.hid (HSA.out.keep hb); replace HSL := Lib.hid (HSL.out.keep hb); have HSM := Lib.hid hs; have HCM := Lib.hid (own_cap hown); have HShM := Lib.hid (own_shape hown); clear hown hs hb; have T12 := Lib.hid True.intro)
    | (clear T12; go_at_call 13; refine (Compare_any LX LX CL CM _ _ kL kM w12 rfl rfl HSL.out HSM.out (by omega)).mono ?_; rw [C3.out]; rintro e w13 ⟨rfl, rfl⟩; clear HSA; clear HSL; clear HSM; have T13 := Lib.hid True.intro)
    | (clear T13; go_at_call 18; refine (AddS_any X z CX _ kX w12 rfl (by omega) HCX.out HShX.out HXI.out HR.out.1).mono ?_; rw [HAd.out]; rintro e w13 ⟨v, rfl, hown, hb⟩; obtain ⟨CA, kA, rfl, hs⟩ := Sl.own hown; replace HB := Lib.hid (HB.out.andThen hb); replace HR := Lib.hid (HR.out.keep hb); have HSA := Lib.hid hs; have HCA := Lib.hid (own_cap hown); have HShA := Lib.hid (own_shape hown); clear hown hs hb; have T14 := Lib.hid True.intro)
    | (clear T14; go_at_call 16; refine (HasS_any AX z CA _ kA w13 rfl (by omega) HAI.out HSA.out).mono ?_; rw [M1.out]; rintro e w14 ⟨rfl, hb⟩; replace HB := Lib.hid (HB.out.andThen hb); replace HR := Lib.hid (HR.out.keep hb); replace HSA := Lib.hid (HSA.out.keep hb); clear hb; clear HSA; have T15 := Lib.hid True.intro)
    | (clear T15; go_at_call 20; refine (Less_any X z CX _ kX w14 rfl (by omega) HR.out.1).mono ?_; rw [HMd.out]; rintro e w15 ⟨v, rfl, hown, hb⟩; obtain ⟨CM, kM, rfl, hs⟩ := Sl.own hown; replace HB := Lib.hid (HB.out.andThen hb); replace HR := Lib.hid (HR.out.keep hb); have HSM := Lib.hid hs; have HCM := Lib.hid (own_cap hown); have HShM := Lib.hid (own_shape hown); clear hown hs hb; have T16 := Lib.hid True.intro)
    | (clear T16; go_at_call 16; refine (HasS_any LX z CM _ kM w15 rfl (by omega) HLI.out HSM.out).mono ?_; rw [M2.out]; rintro e w16 ⟨rfl, hb⟩; replace HB := Lib.hid (HB.out.andThen hb); replace HR := Lib.hid (HR.out.keep hb); replace HSM := Lib.hid (HSM.out.keep hb); clear hb; clear HSM; have T17 := Lib.hid True.intro)
    | (clear T17; go_at_call 21; refine (Union_any X Y CX CY _ kX _ kY w16 rfl (by omega) HCX.out HR.out.1 rfl (by omega) HCY.out HR.out.2.1).mono ?_; rw [HUd.out]; rintro e w17 ⟨v, rfl, hown, hb⟩; obtain ⟨CG, kG, rfl, hs⟩ := Sl.own hown; replace HB := Lib.hid (HB.out.andThen hb); replace HR := Lib.hid (HR.out.keep hb); have HSG := Lib.hid hs; have HCG := Lib.hid (own_cap hown); have HShG := Lib.hid (own_shape hown); clear hown hs hb; have T18 := Lib.hid True.intro)
    | (clear T18; go_at_call 21; refine (Union_any U Z CG CZ _ kG _ kZ w17 rfl (by omega) HCG.out HSG.out rfl (by omega) HCZ.out HR.out.2.2.1).mono ?_; rw [HTd.out]; rintro e w18 ⟨v, rfl, hown, hb⟩; obtain ⟨CH, kH, rfl, hs⟩ := Sl.own hown; replace HB := Lib.hid (HB.out.andThen hb); replace HR := Lib.hid (HR.out.keep hb); replace HSG := Lib.hid (HSG.out.keep hb); have HSH := Lib.hid hs; have HCH := Lib.hid (own_cap hown); have HShH := Lib.hid (own_shape hown); clear hown hs hb; have T19 := Lib.hid True.intro)
    | (clear T19; go_at_call 21; refine (Union_any Y Z CY CZ _ kY _ kZ w18 rfl (by omega) HCY.out HR.out.2.1 rfl (by omega) HCZ.out HR.out.2.2.1).mono ?_; rw [HJd.out]; rintro e w19 ⟨v, rfl, hown, hb⟩; obtain ⟨CJ, kJ, rfl, hs⟩ := Sl.own hown; replace HB := Lib.hid (HB.out.andThen hb); replace HR := Lib.hid (HR.out.keep hb); replace HSG := Lib.hid (HSG.out.keep hb); replace HSH := Lib.hid (HSH.out.keep hb); have HSJ := Lib.hid hs; have HCJ := Lib.hid (own_cap hown); have HShJ := Lib.hid (own_shape hown); clear hown hs hb; have T20 := Lib.hid True.intro)
    | (clear T20; go_at_call 21; refine (Union_any X YZ CX CJ _ kX _ kJ w19 rfl (by omega) HCX.out HR.out.1 rfl (by omega) HCJ.out HSJ.out).mono ?_; rw [HKd.out]; rintro e w20 ⟨v, rfl, hown, hb⟩; obtain ⟨CK, kK, rfl, hs⟩ := Sl.own hown; replace HB := Lib.hid (HB.out.andThen hb); replace HR := Lib.hid (HR.out.keep hb); replace HSG := Lib.hid (HSG.out.keep hb); replace HSH := Lib.hid (HSH.out.keep hb); replace HSJ := Lib.hid (HSJ.out.keep hb); have HSK := Lib.hid hs; have HCK := Lib.hid (own_cap hown); have HShK := Lib.hid (own_shape hown); clear hown hs hb; have T21 := Lib.hid True.intro)
    | (clear T21; go_at_call 13; refine (Compare_any T T CH CK _ _ kH kK w20 rfl rfl HSH.out HSK.out (by omega)).mono ?_; rw [C4.out]; rintro e w21 ⟨rfl, rfl⟩; have T22 := Lib.hid True.intro)
    | fail)
  go_ret
  exact ⟨ret_bool (by simp), HB.out⟩

set_option maxHeartbeats 16000000 in
theorem SetsRules_ytt (A0 : Option Addr) (n0 c0 : Nat) (l0 : List Int) (A1 : Option Addr) (n1 c1 : Nat) (l1 : List Int) (A2 : Option Addr) (n2 c2 : Nat) (l2 : List Int) (z : Int) (w : World)
    (h0 : n0 ≤ 60) (e0 : l0.length = n0) (s0 : Sl w 1 A0 n0 (l0.map (Value.int .i64))) (h1 : n1 ≤ 60) (e1 : l1.length = n1) (s1 : Sl w 1 A1 n1 (l1.map (Value.int .i64))) (h2 : n2 ≤ 60) (e2 : l2.length = n2) (s2 : Sl w 1 A2 n2 (l2.map (Value.int .i64)))
    (hp1 :  (∀ y ∈ setL l0, y ∈ setL l1)) (hp2 :  (∀ y ∈ setL l1, y ∈ setL l2)) (hp3 :  (∀ y ∈ setL l1, y ∈ setL l0)) :
    Calls Try.prog 7 #[.slice A0 n0 c0, .slice A1 n1 c1, .slice A2 n2 c2, .int .i64 z] w fun e w' => e = .returned (.bool true) ∧ Below w.heap.size w w' := by
  have HA := Lib.hid (alive06 w)
  have S0 := Lib.hid s0
  have S1 := Lib.hid s1
  have S2 := Lib.hid s2
  have E0 := Lib.hid e0
  have E1 := Lib.hid e1
  have E2 := Lib.hid e2
  clear s0 s1 s2 e0 e1 e2
  have h0' : ¬ (60 : Int) < (n0 : Int) := by omega
  have h1' : ¬ (60 : Int) < (n1 : Int) := by omega
  have h2' : ¬ (60 : Int) < (n2 : Int) := by omega
  have hl0 : (setL l0).length ≤ 60 := by have := setL_le l0; have := E0.out; omega
  have hl1 : (setL l1).length ≤ 60 := by have := setL_le l1; have := E1.out; omega
  have hl2 : (setL l2).length ≤ 60 := by have := setL_le l2; have := E2.out; omega
  have HXI := Lib.hid (setL_inc l0)
  have HYI := Lib.hid (setL_inc l1)
  have HZI := Lib.hid (setL_inc l2)
  have HOa := Lib.hid (fun W (hb : Below w.heap.size w W) => Of_any l0 A0 n0 c0 W E0.out (by omega) (S0.out.keep hb) (fun h => sl_lt (S0.out.keep hb) h))
  have HOb := Lib.hid (fun W (hb : Below w.heap.size w W) => Of_any l1 A1 n1 c1 W E1.out (by omega) (S1.out.keep hb) (fun h => sl_lt (S1.out.keep hb) h))
  have HOc := Lib.hid (fun W (hb : Below w.heap.size w W) => Of_any l2 A2 n2 c2 W E2.out (by omega) (S2.out.keep hb) (fun h => sl_lt (S2.out.keep hb) h))
  generalize setL l0 = X at *
  generalize setL l1 = Y at *
  generalize setL l2 = Z at *
  have P1 := Lib.hid (decide_eq_true hp1)
  have P2 := Lib.hid (decide_eq_true hp2)
  have P3 := Lib.hid (decide_eq_true hp3)
  have P4 := Lib.hid (decide_eq_true (p := ∀ y ∈ X, y ∈ Z) (fun y hy => hp2 y (hp1 y hy)))
  have C1 := Lib.hid (show cmpL X Y = 0 from cmpL_zero.2 (inc_ext HXI.out HYI.out fun y => ⟨hp1 y, hp3 y⟩))
  clear hp1 hp2 hp3
  have hsum := sum_sets X Y HXI.out HYI.out
  have hUl := setL_le (X ++ Y)
  rw [List.length_append] at hUl
  have hIl := List.length_filter_le (fun y => decide (y ∈ Y)) X
  have hDl := List.length_filter_le (fun y => !decide (y ∈ Y)) X
  have hAl := addL_len X z
  have hLl := List.length_filter_le (fun y => y != z) X
  have hJl := setL_le (Y ++ Z)
  have hTl := setL_le (setL (X ++ Y) ++ Z)
  rw [List.length_append] at hJl hTl
  have W1 := Lib.hid (decide_eq_true (p := ∀ y ∈ X, y ∈ setL (X ++ Y)) (fun y hy => (setL_mem _ _).2 (List.mem_append_left _ hy)))
  have W2 := Lib.hid (decide_eq_true (p := ∀ y ∈ (X.filter fun y => decide (y ∈ Y)), y ∈ Y) (fun y hy => by simpa using (List.mem_filter.1 hy).2))
  have HUI := Lib.hid (setL_inc (X ++ Y))
  have HII := Lib.hid (show Inc (X.filter fun y => decide (y ∈ Y)) from HXI.out.sublist List.filter_sublist)
  have R1 := Lib.hid (decide_eq_true HUI.out)
  have R2 := Lib.hid (decide_eq_true HII.out)
  have hV0 := (back_sets X Y HXI.out)
  have hL0 := (off_sets X z HXI.out)
  have HAI := Lib.hid (addL_inc X z HXI.out)
  have HLI := Lib.hid (show Inc (X.filter fun y => y != z) from HXI.out.sublist List.filter_sublist)
  have M1 := Lib.hid (decide_eq_true (p := z ∈ addL X z) ((addL_mem X z z).2 (.inr rfl)))
  have M2 := Lib.hid (decide_eq_false (p := z ∈ X.filter fun y => y != z) (fun h => by simpa using (List.mem_filter.1 h).2))
  have hK0 := (show setL (X ++ setL (Y ++ Z)) = setL (setL (X ++ Y) ++ Z) from setL_same fun y => by simp only [List.mem_append, setL_mem]; exact or_assoc.symm)
  obtain ⟨T, hT⟩ : ∃ T, T = setL (setL (X ++ Y) ++ Z) := ⟨_, rfl⟩
  obtain ⟨U, hU⟩ : ∃ U, U = setL (X ++ Y) := ⟨_, rfl⟩
  obtain ⟨I, hI⟩ : ∃ I, I = X.filter fun y => decide (y ∈ Y) := ⟨_, rfl⟩
  obtain ⟨D, hD⟩ : ∃ D, D = X.filter fun y => !decide (y ∈ Y) := ⟨_, rfl⟩
  obtain ⟨AX, hAX⟩ : ∃ AX, AX = addL X z := ⟨_, rfl⟩
  obtain ⟨LX, hLX⟩ : ∃ LX, LX = X.filter fun y => y != z := ⟨_, rfl⟩
  obtain ⟨YZ, hYZ⟩ : ∃ YZ, YZ = setL (Y ++ Z) := ⟨_, rfl⟩
  have HTd := Lib.hid (show setL (U ++ Z) = T by rw [hU, hT])
  have HKd := Lib.hid (show setL (X ++ YZ) = T by rw [hYZ, hT]; exact hK0)
  have HVd := Lib.hid (show setL (D ++ I) = X by rw [hD, hI]; exact hV0)
  have HLd := Lib.hid (show (AX.filter fun y => y != z) = LX by rw [hAX, hLX]; exact hL0)
  have HAd := Lib.hid hAX.symm
  have HMd := Lib.hid hLX.symm
  have HDd := Lib.hid hD.symm
  have HUd := Lib.hid hU.symm
  have HJd := Lib.hid hYZ.symm
  have HId := Lib.hid hI.symm
  rw [← hT, ← hU] at hTl
  rw [← hU] at hsum hUl W1 HUI R1
  rw [← hI] at hsum hIl W2 HII R2
  rw [← hD] at hDl
  rw [← hAX] at hAl HAI M1
  rw [← hLX] at hLl HLI M2
  rw [← hYZ] at hJl
  have C2 := Lib.hid (cmpL_zero.2 (rfl : X = X))
  have C3 := Lib.hid (cmpL_zero.2 (rfl : LX = LX))
  have C4 := Lib.hid (cmpL_zero.2 (rfl : T = T))
  clear hU hT hI hD hAX hLX hYZ hV0 hL0 hK0
  have hs1 : IntKind.i64.wrap ((U.length : Int) + (I.length : Int)) = (X.length : Int) + (Y.length : Int) := by rw [IntKind.wrap_i64]; omega
  have hs2 : IntKind.i64.wrap ((X.length : Int) + (Y.length : Int)) = (X.length : Int) + (Y.length : Int) := by rw [IntKind.wrap_i64]; omega
  go_enter Try.func7, Try.ntmps7
  go_wp2_with fail
  refine HA.out.mono ?_
  rintro e w1 ⟨rfl, hb1⟩
  have HB1 := Lib.hid hb1
  clear hb1 HA
  go_wp2_with (first
    | (go_at_call_of 9 (Value.slice A0 n0 c0); refine (HOa.out w1 HB1.out).mono ?_; clear HOa; rintro e wa ⟨vX, rfl, hown, hb⟩; obtain ⟨CX, kX, rfl, hsx⟩ := Sl.own hown; have HSX := Lib.hid hsx; have HCX := Lib.hid (own_cap hown); have HShX := Lib.hid (own_shape hown); have HBa := Lib.hid (HB1.out.andThen hb); clear hown hsx hb HB1)
    | (go_at_call_of 9 (Value.slice A1 n1 c1); refine (HOb.out wa HBa.out).mono ?_; clear HOb; rintro e wb ⟨vY, rfl, hown, hb⟩; obtain ⟨CY, kY, rfl, hsy⟩ := Sl.own hown; have HSY := Lib.hid hsy; have HCY := Lib.hid (own_cap hown); have HBb := Lib.hid (HBa.out.andThen hb); replace HSX := Lib.hid (HSX.out.keep hb); clear hown hsy hb HBa)
    | (go_at_call 9; refine (HOc.out wb HBb.out).mono ?_; clear HOc; rintro e wc ⟨vZ, rfl, hown, hb⟩; obtain ⟨CZ, kZ, rfl, hsz⟩ := Sl.own hown; have HSZ := Lib.hid hsz; have HCZ := Lib.hid (own_cap hown); have HBc := Lib.hid (HBb.out.andThen hb); replace HSX := Lib.hid (HSX.out.keep hb); replace HSY := Lib.hid (HSY.out.keep hb); have TU := Lib.hid True.intro; clear hown hsz hb HBb)
    | (clear TU; go_at_call 21; refine (Union_any X Y CX CY _ kX _ kY wc rfl (by omega) HCX.out HSX.out rfl (by omega) HCY.out HSY.out).mono ?_; rw [HUd.out]; rintro e wd ⟨v, rfl, hown, hb⟩; obtain ⟨CU, kU, rfl, hs⟩ := Sl.own hown; have HSU := Lib.hid hs; have HCU := Lib.hid (own_cap hown); have HBd := Lib.hid (HBc.out.andThen hb); replace HSX := Lib.hid (HSX.out.keep hb); replace HSY := Lib.hid (HSY.out.keep hb); replace HSZ := Lib.hid (HSZ.out.keep hb); clear hown hs hb HBc)
    | (go_at_call 22; refine (Both_any X Y CX CY _ kX _ kY wd rfl (by omega) HSX.out rfl (by omega) HYI.out HSY.out).mono ?_; rw [HId.out]; rintro e w1 ⟨v, rfl, hown, hb⟩; obtain ⟨CI, kI, rfl, hs⟩ := Sl.own hown; have HCI := Lib.hid (own_cap hown); have HB := Lib.hid (HBd.out.andThen hb); have HR := Lib.hid (show Five CX X CY Y CZ Z CU U CI I w1 from ⟨HSX.out.keep hb, HSY.out.keep hb, HSZ.out.keep hb, HSU.out.keep hb, hs⟩); have T0 := Lib.hid True.intro; clear hown hs hb HBd HSX HSY HSZ HSU)
    | (clear T0; go_at_call 24; refine (Within_any X U CX CU _ kX _ kU w1 rfl (by omega) HR.out.1 rfl (by omega) HUI.out HR.out.2.2.2.1).mono ?_; rw [W1.out]; rintro e w2 ⟨rfl, hb⟩; replace HB := Lib.hid (HB.out.andThen hb); replace HR := Lib.hid (HR.out.keep hb); clear hb; have T1 := Lib.hid True.intro)
    | (clear T1; go_at_call 24; refine (Within_any I Y CI CY _ kI _ kY w2 rfl (by omega) HR.out.2.2.2.2 rfl (by omega) HYI.out HR.out.2.1).mono ?_; rw [W2.out]; rintro e w3 ⟨rfl, hb⟩; replace HB := Lib.hid (HB.out.andThen hb); replace HR := Lib.hid (HR.out.keep hb); clear hb; have T2 := Lib.hid True.intro)
    | (clear T2; go_at_call 12; refine (Right_any U CU _ kU w3 rfl HR.out.2.2.2.1 (by omega)).mono ?_; rw [R1.out]; rintro e w4 ⟨rfl, hb⟩; replace HB := Lib.hid (HB.out.andThen hb); replace HR := Lib.hid (HR.out.keep hb); clear hb; have T3 := Lib.hid True.intro)
    | (clear T3; go_at_call 12; refine (Right_any I CI _ kI w4 rfl HR.out.2.2.2.2 (by omega)).mono ?_; rw [R2.out]; rintro e w5 ⟨rfl, hb⟩; replace HB := Lib.hid (HB.out.andThen hb); replace HR := Lib.hid (HR.out.keep hb); clear hb; have T4 := Lib.hid True.intro)
    | (clear T4; go_at_call 24; refine (Within_any X Y CX CY _ kX _ kY w5 rfl (by omega) HR.out.1 rfl (by omega) HYI.out HR.out.2.1).mono ?_; rw [P1.out]; rintro e w6 ⟨rfl, hb⟩; replace HB := Lib.hid (HB.out.andThen hb); replace HR := Lib.hid (HR.out.keep hb); clear hb; have T5 := Lib.hid True.intro)
    | (clear T5; go_at_call 24; refine (Within_any Y Z CY CZ _ kY _ kZ w6 rfl (by omega) HR.out.2.1 rfl (by omega) HZI.out HR.out.2.2.1).mono ?_; rw [P2.out]; rintro e w7 ⟨rfl, hb⟩; replace HB := Lib.hid (HB.out.andThen hb); replace HR := Lib.hid (HR.out.keep hb); clear hb; have T6 := Lib.hid True.intro)
    | (clear T6; go_at_call 24; refine (Within_any X Z CX CZ _ kX _ kZ w7 rfl (by omega) HR.out.1 rfl (by omega) HZI.out HR.out.2.2.1).mono ?_; rw [P4.out]; rintro e w8 ⟨rfl, hb⟩; replace HB := Lib.hid (HB.out.andThen hb); replace HR := Lib.hid (HR.out.keep hb); clear hb; have T7 := Lib.hid True.intro)
    | (clear T7; go_at_call 24; refine (Within_any X Y CX CY _ kX _ kY w8 rfl (by omega) HR.out.1 rfl (by omega) HYI.out HR.out.2.1).mono ?_; rw [P1.out]; rintro e w9 ⟨rfl, hb⟩; replace HB := Lib.hid (HB.out.andThen hb); replace HR := Lib.hid (HR.out.keep hb); clear hb; have T8 := Lib.hid True.intro)
    | (clear T8; go_at_call 24; refine (Within_any Y X CY CX _ kY _ kX w9 rfl (by omega) HR.out.2.1 rfl (by omega) HXI.out HR.out.1).mono ?_; rw [P3.out]; rintro e w10 ⟨rfl, hb⟩; replace HB := Lib.hid (HB.out.andThen hb); replace HR := Lib.hid (HR.out.keep hb); clear hb; have T9 := Lib.hid True.intro)
    | (clear T9; go_at_call 13; refine (Compare_any X Y CX CY _ _ kX kY w10 rfl rfl HR.out.1 HR.out.2.1 (by omega)).mono ?_; rw [C1.out]; rintro e w11 ⟨rfl, rfl⟩; have T10 := Lib.hid True.intro)
    | (clear T10; go_at_call 23; refine (But_any X Y CX CY _ kX _ kY w10 rfl (by omega) HR.out.1 rfl (by omega) HYI.out HR.out.2.1).mono ?_; rw [HDd.out]; rintro e w11 ⟨v, rfl, hown, hb⟩; obtain ⟨CD, kD, rfl, hs⟩ := Sl.own hown; replace HB := Lib.hid (HB.out.andThen hb); replace HR := Lib.hid (HR.out.keep hb); have HSD := Lib.hid hs; have HCD := Lib.hid (own_cap hown); have HShD := Lib.hid (own_shape hown); clear hown hs hb; have T11 := Lib.hid True.intro)
    | (clear T11; go_at_call 21; refine (Union_any D I CD CI _ kD _ kI w11 rfl (by omega) HCD.out HSD.out rfl (by omega) HCI.out HR.out.2.2.2.2).mono ?_; rw [HVd.out]; rintro e w12 ⟨v, rfl, hown, hb⟩; obtain ⟨CV, kV, rfl, hs⟩ := Sl.own hown; replace HB := Lib.hid (HB.out.andThen hb); replace HR := Lib.hid (HR.out.keep hb); replace HSD := Lib.hid (HSD.out.keep hb); have HSV := Lib.hid hs; have HCV := Lib.hid (own_cap hown); have HShV := Lib.hid (own_shape hown); clear hown hs hb; have T12 := Lib.hid True.intro)
    | (clear T12; go_at_call 13; refine (Compare_any X X CV CX _ _ kV kX w12 rfl rfl HSV.out HR.out.1 (by omega)).mono ?_; rw [C2.out]; rintro e w13 ⟨rfl, rfl⟩; clear HSD; clear HSV; have T13 := Lib.hid True.intro)
    | (clear T13; go_at_call 18; refine (AddS_any X z CX _ kX w12 rfl (by omega) HCX.out HShX.out HXI.out HR.out.1).mono ?_; rw [HAd.out]; rintro e w13 ⟨v, rfl, hown, hb⟩; obtain ⟨CA, kA, rfl, hs⟩ := Sl.own hown; replace HB := Lib.hid (HB.out.andThen hb); replace HR := Lib.hid (HR.out.keep hb); have HSA := Lib.hid hs; have HCA := Lib.hid (own_cap hown); have HShA := Lib.hid (own_shape hown); clear hown hs hb; have T14 := Lib.hid True.intro)
    | (clear T14; go_at_call 20; refine (Less_any AX z CA _ kA w13 rfl (by omega) HSA.out).mono ?_; rw [HLd.out]; rintro e w14 ⟨v, rfl, hown, hb⟩; obtain ⟨CL, kL, rfl, hs⟩ := Sl.own hown; replace HB := Lib.hid (HB.out.andThen hb); replace HR := Lib.hid (HR.out.keep hb); replace HSA := Lib.hid (HSA.out.keep hb); have HSL := Lib.hid hs; have HCL := Lib.hid (own_cap hown); have HShL := Lib.hid (own_shape hown); clear hown hs hb; have T15 := Lib.hid True.intro)
    | (clear T15; go_at_call 20; refine (Less_any X z CX _ kX w14 rfl (by omega) HR.out.1).mono ?_; rw [HMd.out]; rintro e w15 ⟨v, rfl, hown, hb⟩; obtain ⟨CM, kM, rfl, hs⟩ := Sl.own hown; replace HB := Lib.hid (HB.out.andThen hb); replace HR := Lib.hid (HR.out.keep hb); replace HSA := Lib.hid (HSA.out.keep hb); replace HSL := Lib.hid (HSL.out.keep hb); have HSM := Lib.hid hs; have HCM := Lib.hid (own_cap hown); have HShM := Lib.hid (own_shape hown); clear hown hs hb; have T16 := Lib.hid True.intro)
    | (clear T16; go_at_call 13; refine (Compare_any LX LX CL CM _ _ kL kM w15 rfl rfl HSL.out HSM.out (by omega)).mono ?_; rw [C3.out]; rintro e w16 ⟨rfl, rfl⟩; clear HSA; clear HSL; clear HSM; have T17 := Lib.hid True.intro)
    | (clear T17; go_at_call 18; refine (AddS_any X z CX _ kX w15 rfl (by omega) HCX.out HShX.out HXI.out HR.out.1).mono ?_; rw [HAd.out]; rintro e w16 ⟨v, rfl, hown, hb⟩; obtain ⟨CA, kA, rfl, hs⟩ := Sl.own hown; replace HB := Lib.hid (HB.out.andThen hb); replace HR := Lib.hid (HR.out.keep hb); have HSA := Lib.hid hs; have HCA := Lib.hid (own_cap hown); have HShA := Lib.hid (own_shape hown); clear hown hs hb; have T18 := Lib.hid True.intro)
    | (clear T18; go_at_call 16; refine (HasS_any AX z CA _ kA w16 rfl (by omega) HAI.out HSA.out).mono ?_; rw [M1.out]; rintro e w17 ⟨rfl, hb⟩; replace HB := Lib.hid (HB.out.andThen hb); replace HR := Lib.hid (HR.out.keep hb); replace HSA := Lib.hid (HSA.out.keep hb); clear hb; clear HSA; have T19 := Lib.hid True.intro)
    | (clear T19; go_at_call 20; refine (Less_any X z CX _ kX w17 rfl (by omega) HR.out.1).mono ?_; rw [HMd.out]; rintro e w18 ⟨v, rfl, hown, hb⟩; obtain ⟨CM, kM, rfl, hs⟩ := Sl.own hown; replace HB := Lib.hid (HB.out.andThen hb); replace HR := Lib.hid (HR.out.keep hb); have HSM := Lib.hid hs; have HCM := Lib.hid (own_cap hown); have HShM := Lib.hid (own_shape hown); clear hown hs hb; have T20 := Lib.hid True.intro)
    | (clear T20; go_at_call 16; refine (HasS_any LX z CM _ kM w18 rfl (by omega) HLI.out HSM.out).mono ?_; rw [M2.out]; rintro e w19 ⟨rfl, hb⟩; replace HB := Lib.hid (HB.out.andThen hb); replace HR := Lib.hid (HR.out.keep hb); replace HSM := Lib.hid (HSM.out.keep hb); clear hb; clear HSM; have T21 := Lib.hid True.intro)
    | (clear T21; go_at_call 21; refine (Union_any X Y CX CY _ kX _ kY w19 rfl (by omega) HCX.out HR.out.1 rfl (by omega) HCY.out HR.out.2.1).mono ?_; rw [HUd.out]; rintro e w20 ⟨v, rfl, hown, hb⟩; obtain ⟨CG, kG, rfl, hs⟩ := Sl.own hown; replace HB := Lib.hid (HB.out.andThen hb); replace HR := Lib.hid (HR.out.keep hb); have HSG := Lib.hid hs; have HCG := Lib.hid (own_cap hown); have HShG := Lib.hid (own_shape hown); clear hown hs hb; have T22 := Lib.hid True.intro)
    | (clear T22; go_at_call 21; refine (Union_any U Z CG CZ _ kG _ kZ w20 rfl (by omega) HCG.out HSG.out rfl (by omega) HCZ.out HR.out.2.2.1).mono ?_; rw [HTd.out]; rintro e w21 ⟨v, rfl, hown, hb⟩; obtain ⟨CH, kH, rfl, hs⟩ := Sl.own hown; replace HB := Lib.hid (HB.out.andThen hb); replace HR := Lib.hid (HR.out.keep hb); replace HSG := Lib.hid (HSG.out.keep hb); have HSH := Lib.hid hs; have HCH := Lib.hid (own_cap hown); have HShH := Lib.hid (own_shape hown); clear hown hs hb; have T23 := Lib.hid True.intro)
    | (clear T23; go_at_call 21; refine (Union_any Y Z CY CZ _ kY _ kZ w21 rfl (by omega) HCY.out HR.out.2.1 rfl (by omega) HCZ.out HR.out.2.2.1).mono ?_; rw [HJd.out]; rintro e w22 ⟨v, rfl, hown, hb⟩; obtain ⟨CJ, kJ, rfl, hs⟩ := Sl.own hown; replace HB := Lib.hid (HB.out.andThen hb); replace HR := Lib.hid (HR.out.keep hb); replace HSG := Lib.hid (HSG.out.keep hb); replace HSH := Lib.hid (HSH.out.keep hb); have HSJ := Lib.hid hs; have HCJ := Lib.hid (own_cap hown); have HShJ := Lib.hid (own_shape hown); clear hown hs hb; have T24 := Lib.hid True.intro)
    | (clear T24; go_at_call 21; refine (Union_any X YZ CX CJ _ kX _ kJ w22 rfl (by omega) HCX.out HR.out.1 rfl (by omega) HCJ.out HSJ.out).mono ?_; rw [HKd.out]; rintro e w23 ⟨v, rfl, hown, hb⟩; obtain ⟨CK, kK, rfl, hs⟩ := Sl.own hown; replace HB := Lib.hid (HB.out.andThen hb); replace HR := Lib.hid (HR.out.keep hb); replace HSG := Lib.hid (HSG.out.keep hb); replace HSH := Lib.hid (HSH.out.keep hb); replace HSJ := Lib.hid (HSJ.out.keep hb); have HSK := Lib.hid hs; have HCK := Lib.hid (own_cap hown); have HShK := Lib.hid (own_shape hown); clear hown hs hb; have T25 := Lib.hid True.intro)
    | (clear T25; go_at_call 13; refine (Compare_any T T CH CK _ _ kH kK w23 rfl rfl HSH.out HSK.out (by omega)).mono ?_; rw [C4.out]; rintro e w24 ⟨rfl, rfl⟩; have T26 := Lib.hid True.intro)
    | fail)
  go_ret
  exact ⟨ret_bool (by simp), HB.out⟩

set_option maxHeartbeats 16000000 in
theorem SetsRules_ytf (A0 : Option Addr) (n0 c0 : Nat) (l0 : List Int) (A1 : Option Addr) (n1 c1 : Nat) (l1 : List Int) (A2 : Option Addr) (n2 c2 : Nat) (l2 : List Int) (z : Int) (w : World)
    (h0 : n0 ≤ 60) (e0 : l0.length = n0) (s0 : Sl w 1 A0 n0 (l0.map (Value.int .i64))) (h1 : n1 ≤ 60) (e1 : l1.length = n1) (s1 : Sl w 1 A1 n1 (l1.map (Value.int .i64))) (h2 : n2 ≤ 60) (e2 : l2.length = n2) (s2 : Sl w 1 A2 n2 (l2.map (Value.int .i64)))
    (hp1 :  (∀ y ∈ setL l0, y ∈ setL l1)) (hp2 :  (∀ y ∈ setL l1, y ∈ setL l2)) (hp3 : ¬ (∀ y ∈ setL l1, y ∈ setL l0)) :
    Calls Try.prog 7 #[.slice A0 n0 c0, .slice A1 n1 c1, .slice A2 n2 c2, .int .i64 z] w fun e w' => e = .returned (.bool true) ∧ Below w.heap.size w w' := by
  have HA := Lib.hid (alive06 w)
  have S0 := Lib.hid s0
  have S1 := Lib.hid s1
  have S2 := Lib.hid s2
  have E0 := Lib.hid e0
  have E1 := Lib.hid e1
  have E2 := Lib.hid e2
  clear s0 s1 s2 e0 e1 e2
  have h0' : ¬ (60 : Int) < (n0 : Int) := by omega
  have h1' : ¬ (60 : Int) < (n1 : Int) := by omega
  have h2' : ¬ (60 : Int) < (n2 : Int) := by omega
  have hl0 : (setL l0).length ≤ 60 := by have := setL_le l0; have := E0.out; omega
  have hl1 : (setL l1).length ≤ 60 := by have := setL_le l1; have := E1.out; omega
  have hl2 : (setL l2).length ≤ 60 := by have := setL_le l2; have := E2.out; omega
  have HXI := Lib.hid (setL_inc l0)
  have HYI := Lib.hid (setL_inc l1)
  have HZI := Lib.hid (setL_inc l2)
  have HOa := Lib.hid (fun W (hb : Below w.heap.size w W) => Of_any l0 A0 n0 c0 W E0.out (by omega) (S0.out.keep hb) (fun h => sl_lt (S0.out.keep hb) h))
  have HOb := Lib.hid (fun W (hb : Below w.heap.size w W) => Of_any l1 A1 n1 c1 W E1.out (by omega) (S1.out.keep hb) (fun h => sl_lt (S1.out.keep hb) h))
  have HOc := Lib.hid (fun W (hb : Below w.heap.size w W) => Of_any l2 A2 n2 c2 W E2.out (by omega) (S2.out.keep hb) (fun h => sl_lt (S2.out.keep hb) h))
  generalize setL l0 = X at *
  generalize setL l1 = Y at *
  generalize setL l2 = Z at *
  have P1 := Lib.hid (decide_eq_true hp1)
  have P2 := Lib.hid (decide_eq_true hp2)
  have P3 := Lib.hid (decide_eq_false hp3)
  have P4 := Lib.hid (decide_eq_true (p := ∀ y ∈ X, y ∈ Z) (fun y hy => hp2 y (hp1 y hy)))
  clear hp1 hp2 hp3
  have hsum := sum_sets X Y HXI.out HYI.out
  have hUl := setL_le (X ++ Y)
  rw [List.length_append] at hUl
  have hIl := List.length_filter_le (fun y => decide (y ∈ Y)) X
  have hDl := List.length_filter_le (fun y => !decide (y ∈ Y)) X
  have hAl := addL_len X z
  have hLl := List.length_filter_le (fun y => y != z) X
  have hJl := setL_le (Y ++ Z)
  have hTl := setL_le (setL (X ++ Y) ++ Z)
  rw [List.length_append] at hJl hTl
  have W1 := Lib.hid (decide_eq_true (p := ∀ y ∈ X, y ∈ setL (X ++ Y)) (fun y hy => (setL_mem _ _).2 (List.mem_append_left _ hy)))
  have W2 := Lib.hid (decide_eq_true (p := ∀ y ∈ (X.filter fun y => decide (y ∈ Y)), y ∈ Y) (fun y hy => by simpa using (List.mem_filter.1 hy).2))
  have HUI := Lib.hid (setL_inc (X ++ Y))
  have HII := Lib.hid (show Inc (X.filter fun y => decide (y ∈ Y)) from HXI.out.sublist List.filter_sublist)
  have R1 := Lib.hid (decide_eq_true HUI.out)
  have R2 := Lib.hid (decide_eq_true HII.out)
  have hV0 := (back_sets X Y HXI.out)
  have hL0 := (off_sets X z HXI.out)
  have HAI := Lib.hid (addL_inc X z HXI.out)
  have HLI := Lib.hid (show Inc (X.filter fun y => y != z) from HXI.out.sublist List.filter_sublist)
  have M1 := Lib.hid (decide_eq_true (p := z ∈ addL X z) ((addL_mem X z z).2 (.inr rfl)))
  have M2 := Lib.hid (decide_eq_false (p := z ∈ X.filter fun y => y != z) (fun h => by simpa using (List.mem_filter.1 h).2))
  have hK0 := (show setL (X ++ setL (Y ++ Z)) = setL (setL (X ++ Y) ++ Z) from setL_same fun y => by simp only [List.mem_append, setL_mem]; exact or_assoc.symm)
  obtain ⟨T, hT⟩ : ∃ T, T = setL (setL (X ++ Y) ++ Z) := ⟨_, rfl⟩
  obtain ⟨U, hU⟩ : ∃ U, U = setL (X ++ Y) := ⟨_, rfl⟩
  obtain ⟨I, hI⟩ : ∃ I, I = X.filter fun y => decide (y ∈ Y) := ⟨_, rfl⟩
  obtain ⟨D, hD⟩ : ∃ D, D = X.filter fun y => !decide (y ∈ Y) := ⟨_, rfl⟩
  obtain ⟨AX, hAX⟩ : ∃ AX, AX = addL X z := ⟨_, rfl⟩
  obtain ⟨LX, hLX⟩ : ∃ LX, LX = X.filter fun y => y != z := ⟨_, rfl⟩
  obtain ⟨YZ, hYZ⟩ : ∃ YZ, YZ = setL (Y ++ Z) := ⟨_, rfl⟩
  have HTd := Lib.hid (show setL (U ++ Z) = T by rw [hU, hT])
  have HKd := Lib.hid (show setL (X ++ YZ) = T by rw [hYZ, hT]; exact hK0)
  have HVd := Lib.hid (show setL (D ++ I) = X by rw [hD, hI]; exact hV0)
  have HLd := Lib.hid (show (AX.filter fun y => y != z) = LX by rw [hAX, hLX]; exact hL0)
  have HAd := Lib.hid hAX.symm
  have HMd := Lib.hid hLX.symm
  have HDd := Lib.hid hD.symm
  have HUd := Lib.hid hU.symm
  have HJd := Lib.hid hYZ.symm
  have HId := Lib.hid hI.symm
  rw [← hT, ← hU] at hTl
  rw [← hU] at hsum hUl W1 HUI R1
  rw [← hI] at hsum hIl W2 HII R2
  rw [← hD] at hDl
  rw [← hAX] at hAl HAI M1
  rw [← hLX] at hLl HLI M2
  rw [← hYZ] at hJl
  have C2 := Lib.hid (cmpL_zero.2 (rfl : X = X))
  have C3 := Lib.hid (cmpL_zero.2 (rfl : LX = LX))
  have C4 := Lib.hid (cmpL_zero.2 (rfl : T = T))
  clear hU hT hI hD hAX hLX hYZ hV0 hL0 hK0
  have hs1 : IntKind.i64.wrap ((U.length : Int) + (I.length : Int)) = (X.length : Int) + (Y.length : Int) := by rw [IntKind.wrap_i64]; omega
  have hs2 : IntKind.i64.wrap ((X.length : Int) + (Y.length : Int)) = (X.length : Int) + (Y.length : Int) := by rw [IntKind.wrap_i64]; omega
  go_enter Try.func7, Try.ntmps7
  go_wp2_with fail
  refine HA.out.mono ?_
  rintro e w1 ⟨rfl, hb1⟩
  have HB1 := Lib.hid hb1
  clear hb1 HA
  go_wp2_with (first
    | (go_at_call_of 9 (Value.slice A0 n0 c0); refine (HOa.out w1 HB1.out).mono ?_; clear HOa; rintro e wa ⟨vX, rfl, hown, hb⟩; obtain ⟨CX, kX, rfl, hsx⟩ := Sl.own hown; have HSX := Lib.hid hsx; have HCX := Lib.hid (own_cap hown); have HShX := Lib.hid (own_shape hown); have HBa := Lib.hid (HB1.out.andThen hb); clear hown hsx hb HB1)
    | (go_at_call_of 9 (Value.slice A1 n1 c1); refine (HOb.out wa HBa.out).mono ?_; clear HOb; rintro e wb ⟨vY, rfl, hown, hb⟩; obtain ⟨CY, kY, rfl, hsy⟩ := Sl.own hown; have HSY := Lib.hid hsy; have HCY := Lib.hid (own_cap hown); have HBb := Lib.hid (HBa.out.andThen hb); replace HSX := Lib.hid (HSX.out.keep hb); clear hown hsy hb HBa)
    | (go_at_call 9; refine (HOc.out wb HBb.out).mono ?_; clear HOc; rintro e wc ⟨vZ, rfl, hown, hb⟩; obtain ⟨CZ, kZ, rfl, hsz⟩ := Sl.own hown; have HSZ := Lib.hid hsz; have HCZ := Lib.hid (own_cap hown); have HBc := Lib.hid (HBb.out.andThen hb); replace HSX := Lib.hid (HSX.out.keep hb); replace HSY := Lib.hid (HSY.out.keep hb); have TU := Lib.hid True.intro; clear hown hsz hb HBb)
    | (clear TU; go_at_call 21; refine (Union_any X Y CX CY _ kX _ kY wc rfl (by omega) HCX.out HSX.out rfl (by omega) HCY.out HSY.out).mono ?_; rw [HUd.out]; rintro e wd ⟨v, rfl, hown, hb⟩; obtain ⟨CU, kU, rfl, hs⟩ := Sl.own hown; have HSU := Lib.hid hs; have HCU := Lib.hid (own_cap hown); have HBd := Lib.hid (HBc.out.andThen hb); replace HSX := Lib.hid (HSX.out.keep hb); replace HSY := Lib.hid (HSY.out.keep hb); replace HSZ := Lib.hid (HSZ.out.keep hb); clear hown hs hb HBc)
    | (go_at_call 22; refine (Both_any X Y CX CY _ kX _ kY wd rfl (by omega) HSX.out rfl (by omega) HYI.out HSY.out).mono ?_; rw [HId.out]; rintro e w1 ⟨v, rfl, hown, hb⟩; obtain ⟨CI, kI, rfl, hs⟩ := Sl.own hown; have HCI := Lib.hid (own_cap hown); have HB := Lib.hid (HBd.out.andThen hb); have HR := Lib.hid (show Five CX X CY Y CZ Z CU U CI I w1 from ⟨HSX.out.keep hb, HSY.out.keep hb, HSZ.out.keep hb, HSU.out.keep hb, hs⟩); have T0 := Lib.hid True.intro; clear hown hs hb HBd HSX HSY HSZ HSU)
    | (clear T0; go_at_call 24; refine (Within_any X U CX CU _ kX _ kU w1 rfl (by omega) HR.out.1 rfl (by omega) HUI.out HR.out.2.2.2.1).mono ?_; rw [W1.out]; rintro e w2 ⟨rfl, hb⟩; replace HB := Lib.hid (HB.out.andThen hb); replace HR := Lib.hid (HR.out.keep hb); clear hb; have T1 := Lib.hid True.intro)
    | (clear T1; go_at_call 24; refine (Within_any I Y CI CY _ kI _ kY w2 rfl (by omega) HR.out.2.2.2.2 rfl (by omega) HYI.out HR.out.2.1).mono ?_; rw [W2.out]; rintro e w3 ⟨rfl, hb⟩; replace HB := Lib.hid (HB.out.andThen hb); replace HR := Lib.hid (HR.out.keep hb); clear hb; have T2 := Lib.hid True.intro)
    | (clear T2; go_at_call 12; refine (Right_any U CU _ kU w3 rfl HR.out.2.2.2.1 (by omega)).mono ?_; rw [R1.out]; rintro e w4 ⟨rfl, hb⟩; replace HB := Lib.hid (HB.out.andThen hb); replace HR := Lib.hid (HR.out.keep hb); clear hb; have T3 := Lib.hid True.intro)
    | (clear T3; go_at_call 12; refine (Right_any I CI _ kI w4 rfl HR.out.2.2.2.2 (by omega)).mono ?_; rw [R2.out]; rintro e w5 ⟨rfl, hb⟩; replace HB := Lib.hid (HB.out.andThen hb); replace HR := Lib.hid (HR.out.keep hb); clear hb; have T4 := Lib.hid True.intro)
    | (clear T4; go_at_call 24; refine (Within_any X Y CX CY _ kX _ kY w5 rfl (by omega) HR.out.1 rfl (by omega) HYI.out HR.out.2.1).mono ?_; rw [P1.out]; rintro e w6 ⟨rfl, hb⟩; replace HB := Lib.hid (HB.out.andThen hb); replace HR := Lib.hid (HR.out.keep hb); clear hb; have T5 := Lib.hid True.intro)
    | (clear T5; go_at_call 24; refine (Within_any Y Z CY CZ _ kY _ kZ w6 rfl (by omega) HR.out.2.1 rfl (by omega) HZI.out HR.out.2.2.1).mono ?_; rw [P2.out]; rintro e w7 ⟨rfl, hb⟩; replace HB := Lib.hid (HB.out.andThen hb); replace HR := Lib.hid (HR.out.keep hb); clear hb; have T6 := Lib.hid True.intro)
    | (clear T6; go_at_call 24; refine (Within_any X Z CX CZ _ kX _ kZ w7 rfl (by omega) HR.out.1 rfl (by omega) HZI.out HR.out.2.2.1).mono ?_; rw [P4.out]; rintro e w8 ⟨rfl, hb⟩; replace HB := Lib.hid (HB.out.andThen hb); replace HR := Lib.hid (HR.out.keep hb); clear hb; have T7 := Lib.hid True.intro)
    | (clear T7; go_at_call 24; refine (Within_any X Y CX CY _ kX _ kY w8 rfl (by omega) HR.out.1 rfl (by omega) HYI.out HR.out.2.1).mono ?_; rw [P1.out]; rintro e w9 ⟨rfl, hb⟩; replace HB := Lib.hid (HB.out.andThen hb); replace HR := Lib.hid (HR.out.keep hb); clear hb; have T8 := Lib.hid True.intro)
    | (clear T8; go_at_call 24; refine (Within_any Y X CY CX _ kY _ kX w9 rfl (by omega) HR.out.2.1 rfl (by omega) HXI.out HR.out.1).mono ?_; rw [P3.out]; rintro e w10 ⟨rfl, hb⟩; replace HB := Lib.hid (HB.out.andThen hb); replace HR := Lib.hid (HR.out.keep hb); clear hb; have T9 := Lib.hid True.intro)
    | (clear T9; go_at_call 23; refine (But_any X Y CX CY _ kX _ kY w10 rfl (by omega) HR.out.1 rfl (by omega) HYI.out HR.out.2.1).mono ?_; rw [HDd.out]; rintro e w11 ⟨v, rfl, hown, hb⟩; obtain ⟨CD, kD, rfl, hs⟩ := Sl.own hown; replace HB := Lib.hid (HB.out.andThen hb); replace HR := Lib.hid (HR.out.keep hb); have HSD := Lib.hid hs; have HCD := Lib.hid (own_cap hown); have HShD := Lib.hid (own_shape hown); clear hown hs hb; have T10 := Lib.hid True.intro)
    | (clear T10; go_at_call 21; refine (Union_any D I CD CI _ kD _ kI w11 rfl (by omega) HCD.out HSD.out rfl (by omega) HCI.out HR.out.2.2.2.2).mono ?_; rw [HVd.out]; rintro e w12 ⟨v, rfl, hown, hb⟩; obtain ⟨CV, kV, rfl, hs⟩ := Sl.own hown; replace HB := Lib.hid (HB.out.andThen hb); replace HR := Lib.hid (HR.out.keep hb); replace HSD := Lib.hid (HSD.out.keep hb); have HSV := Lib.hid hs; have HCV := Lib.hid (own_cap hown); have HShV := Lib.hid (own_shape hown); clear hown hs hb; have T11 := Lib.hid True.intro)
    | (clear T11; go_at_call 13; refine (Compare_any X X CV CX _ _ kV kX w12 rfl rfl HSV.out HR.out.1 (by omega)).mono ?_; rw [C2.out]; rintro e w13 ⟨rfl, rfl⟩; clear HSD; clear HSV; have T12 := Lib.hid True.intro)
    | (clear T12; go_at_call 18; refine (AddS_any X z CX _ kX w12 rfl (by omega) HCX.out HShX.out HXI.out HR.out.1).mono ?_; rw [HAd.out]; rintro e w13 ⟨v, rfl, hown, hb⟩; obtain ⟨CA, kA, rfl, hs⟩ := Sl.own hown; replace HB := Lib.hid (HB.out.andThen hb); replace HR := Lib.hid (HR.out.keep hb); have HSA := Lib.hid hs; have HCA := Lib.hid (own_cap hown); have HShA := Lib.hid (own_shape hown); clear hown hs hb; have T13 := Lib.hid True.intro)
    | (clear T13; go_at_call 20; refine (Less_any AX z CA _ kA w13 rfl (by omega) HSA.out).mono ?_; rw [HLd.out]; rintro e w14 ⟨v, rfl, hown, hb⟩; obtain ⟨CL, kL, rfl, hs⟩ := Sl.own hown; replace HB := Lib.hid (HB.out.andThen hb); replace HR := Lib.hid (HR.out.keep hb); replace HSA := Lib.hid (HSA.out.keep hb); have HSL := Lib.hid hs; have HCL := Lib.hid (own_cap hown); have HShL := Lib.hid (own_shape hown); clear hown hs hb; have T14 := Lib.hid True.intro)
    | (clear T14; go_at_call 20; refine (Less_any X z CX _ kX w14 rfl (by omega) HR.out.1).mono ?_; rw [HMd.out]; rintro e w15 ⟨v, rfl, hown, hb⟩; obtain ⟨CM, kM, rfl, hs⟩ := Sl.own hown; replace HB := Lib.hid (HB.out.andThen hb); replace HR := Lib.hid (HR.out.keep hb); replace HSA := Lib.hid (HSA.out.keep hb); replace HSL := Lib.hid (HSL.out.keep hb); have HSM := Lib.hid hs; have HCM := Lib.hid (own_cap hown); have HShM := Lib.hid (own_shape hown); clear hown hs hb; have T15 := Lib.hid True.intro)
    | (clear T15; go_at_call 13; refine (Compare_any LX LX CL CM _ _ kL kM w15 rfl rfl HSL.out HSM.out (by omega)).mono ?_; rw [C3.out]; rintro e w16 ⟨rfl, rfl⟩; clear HSA; clear HSL; clear HSM; have T16 := Lib.hid True.intro)
    | (clear T16; go_at_call 18; refine (AddS_any X z CX _ kX w15 rfl (by omega) HCX.out HShX.out HXI.out HR.out.1).mono ?_; rw [HAd.out]; rintro e w16 ⟨v, rfl, hown, hb⟩; obtain ⟨CA, kA, rfl, hs⟩ := Sl.own hown; replace HB := Lib.hid (HB.out.andThen hb); replace HR := Lib.hid (HR.out.keep hb); have HSA := Lib.hid hs; have HCA := Lib.hid (own_cap hown); have HShA := Lib.hid (own_shape hown); clear hown hs hb; have T17 := Lib.hid True.intro)
    | (clear T17; go_at_call 16; refine (HasS_any AX z CA _ kA w16 rfl (by omega) HAI.out HSA.out).mono ?_; rw [M1.out]; rintro e w17 ⟨rfl, hb⟩; replace HB := Lib.hid (HB.out.andThen hb); replace HR := Lib.hid (HR.out.keep hb); replace HSA := Lib.hid (HSA.out.keep hb); clear hb; clear HSA; have T18 := Lib.hid True.intro)
    | (clear T18; go_at_call 20; refine (Less_any X z CX _ kX w17 rfl (by omega) HR.out.1).mono ?_; rw [HMd.out]; rintro e w18 ⟨v, rfl, hown, hb⟩; obtain ⟨CM, kM, rfl, hs⟩ := Sl.own hown; replace HB := Lib.hid (HB.out.andThen hb); replace HR := Lib.hid (HR.out.keep hb); have HSM := Lib.hid hs; have HCM := Lib.hid (own_cap hown); have HShM := Lib.hid (own_shape hown); clear hown hs hb; have T19 := Lib.hid True.intro)
    | (clear T19; go_at_call 16; refine (HasS_any LX z CM _ kM w18 rfl (by omega) HLI.out HSM.out).mono ?_; rw [M2.out]; rintro e w19 ⟨rfl, hb⟩; replace HB := Lib.hid (HB.out.andThen hb); replace HR := Lib.hid (HR.out.keep hb); replace HSM := Lib.hid (HSM.out.keep hb); clear hb; clear HSM; have T20 := Lib.hid True.intro)
    | (clear T20; go_at_call 21; refine (Union_any X Y CX CY _ kX _ kY w19 rfl (by omega) HCX.out HR.out.1 rfl (by omega) HCY.out HR.out.2.1).mono ?_; rw [HUd.out]; rintro e w20 ⟨v, rfl, hown, hb⟩; obtain ⟨CG, kG, rfl, hs⟩ := Sl.own hown; replace HB := Lib.hid (HB.out.andThen hb); replace HR := Lib.hid (HR.out.keep hb); have HSG := Lib.hid hs; have HCG := Lib.hid (own_cap hown); have HShG := Lib.hid (own_shape hown); clear hown hs hb; have T21 := Lib.hid True.intro)
    | (clear T21; go_at_call 21; refine (Union_any U Z CG CZ _ kG _ kZ w20 rfl (by omega) HCG.out HSG.out rfl (by omega) HCZ.out HR.out.2.2.1).mono ?_; rw [HTd.out]; rintro e w21 ⟨v, rfl, hown, hb⟩; obtain ⟨CH, kH, rfl, hs⟩ := Sl.own hown; replace HB := Lib.hid (HB.out.andThen hb); replace HR := Lib.hid (HR.out.keep hb); replace HSG := Lib.hid (HSG.out.keep hb); have HSH := Lib.hid hs; have HCH := Lib.hid (own_cap hown); have HShH := Lib.hid (own_shape hown); clear hown hs hb; have T22 := Lib.hid True.intro)
    | (clear T22; go_at_call 21; refine (Union_any Y Z CY CZ _ kY _ kZ w21 rfl (by omega) HCY.out HR.out.2.1 rfl (by omega) HCZ.out HR.out.2.2.1).mono ?_; rw [HJd.out]; rintro e w22 ⟨v, rfl, hown, hb⟩; obtain ⟨CJ, kJ, rfl, hs⟩ := Sl.own hown; replace HB := Lib.hid (HB.out.andThen hb); replace HR := Lib.hid (HR.out.keep hb); replace HSG := Lib.hid (HSG.out.keep hb); replace HSH := Lib.hid (HSH.out.keep hb); have HSJ := Lib.hid hs; have HCJ := Lib.hid (own_cap hown); have HShJ := Lib.hid (own_shape hown); clear hown hs hb; have T23 := Lib.hid True.intro)
    | (clear T23; go_at_call 21; refine (Union_any X YZ CX CJ _ kX _ kJ w22 rfl (by omega) HCX.out HR.out.1 rfl (by omega) HCJ.out HSJ.out).mono ?_; rw [HKd.out]; rintro e w23 ⟨v, rfl, hown, hb⟩; obtain ⟨CK, kK, rfl, hs⟩ := Sl.own hown; replace HB := Lib.hid (HB.out.andThen hb); replace HR := Lib.hid (HR.out.keep hb); replace HSG := Lib.hid (HSG.out.keep hb); replace HSH := Lib.hid (HSH.out.keep hb); replace HSJ := Lib.hid (HSJ.out.keep hb); have HSK := Lib.hid hs; have HCK := Lib.hid (own_cap hown); have HShK := Lib.hid (own_shape hown); clear hown hs hb; have T24 := Lib.hid True.intro)
    | (clear T24; go_at_call 13; refine (Compare_any T T CH CK _ _ kH kK w23 rfl rfl HSH.out HSK.out (by omega)).mono ?_; rw [C4.out]; rintro e w24 ⟨rfl, rfl⟩; have T25 := Lib.hid True.intro)
    | fail)
  go_ret
  exact ⟨ret_bool (by simp), HB.out⟩

set_option maxHeartbeats 16000000 in
theorem SetsRules_yft (A0 : Option Addr) (n0 c0 : Nat) (l0 : List Int) (A1 : Option Addr) (n1 c1 : Nat) (l1 : List Int) (A2 : Option Addr) (n2 c2 : Nat) (l2 : List Int) (z : Int) (w : World)
    (h0 : n0 ≤ 60) (e0 : l0.length = n0) (s0 : Sl w 1 A0 n0 (l0.map (Value.int .i64))) (h1 : n1 ≤ 60) (e1 : l1.length = n1) (s1 : Sl w 1 A1 n1 (l1.map (Value.int .i64))) (h2 : n2 ≤ 60) (e2 : l2.length = n2) (s2 : Sl w 1 A2 n2 (l2.map (Value.int .i64)))
    (hp1 :  (∀ y ∈ setL l0, y ∈ setL l1)) (hp2 : ¬ (∀ y ∈ setL l1, y ∈ setL l2)) (hp3 :  (∀ y ∈ setL l1, y ∈ setL l0)) :
    Calls Try.prog 7 #[.slice A0 n0 c0, .slice A1 n1 c1, .slice A2 n2 c2, .int .i64 z] w fun e w' => e = .returned (.bool true) ∧ Below w.heap.size w w' := by
  have HA := Lib.hid (alive06 w)
  have S0 := Lib.hid s0
  have S1 := Lib.hid s1
  have S2 := Lib.hid s2
  have E0 := Lib.hid e0
  have E1 := Lib.hid e1
  have E2 := Lib.hid e2
  clear s0 s1 s2 e0 e1 e2
  have h0' : ¬ (60 : Int) < (n0 : Int) := by omega
  have h1' : ¬ (60 : Int) < (n1 : Int) := by omega
  have h2' : ¬ (60 : Int) < (n2 : Int) := by omega
  have hl0 : (setL l0).length ≤ 60 := by have := setL_le l0; have := E0.out; omega
  have hl1 : (setL l1).length ≤ 60 := by have := setL_le l1; have := E1.out; omega
  have hl2 : (setL l2).length ≤ 60 := by have := setL_le l2; have := E2.out; omega
  have HXI := Lib.hid (setL_inc l0)
  have HYI := Lib.hid (setL_inc l1)
  have HZI := Lib.hid (setL_inc l2)
  have HOa := Lib.hid (fun W (hb : Below w.heap.size w W) => Of_any l0 A0 n0 c0 W E0.out (by omega) (S0.out.keep hb) (fun h => sl_lt (S0.out.keep hb) h))
  have HOb := Lib.hid (fun W (hb : Below w.heap.size w W) => Of_any l1 A1 n1 c1 W E1.out (by omega) (S1.out.keep hb) (fun h => sl_lt (S1.out.keep hb) h))
  have HOc := Lib.hid (fun W (hb : Below w.heap.size w W) => Of_any l2 A2 n2 c2 W E2.out (by omega) (S2.out.keep hb) (fun h => sl_lt (S2.out.keep hb) h))
  generalize setL l0 = X at *
  generalize setL l1 = Y at *
  generalize setL l2 = Z at *
  have P1 := Lib.hid (decide_eq_true hp1)
  have P2 := Lib.hid (decide_eq_false hp2)
  have P3 := Lib.hid (decide_eq_true hp3)
  have C1 := Lib.hid (show cmpL X Y = 0 from cmpL_zero.2 (inc_ext HXI.out HYI.out fun y => ⟨hp1 y, hp3 y⟩))
  clear hp1 hp2 hp3
  have hsum := sum_sets X Y HXI.out HYI.out
  have hUl := setL_le (X ++ Y)
  rw [List.length_append] at hUl
  have hIl := List.length_filter_le (fun y => decide (y ∈ Y)) X
  have hDl := List.length_filter_le (fun y => !decide (y ∈ Y)) X
  have hAl := addL_len X z
  have hLl := List.length_filter_le (fun y => y != z) X
  have hJl := setL_le (Y ++ Z)
  have hTl := setL_le (setL (X ++ Y) ++ Z)
  rw [List.length_append] at hJl hTl
  have W1 := Lib.hid (decide_eq_true (p := ∀ y ∈ X, y ∈ setL (X ++ Y)) (fun y hy => (setL_mem _ _).2 (List.mem_append_left _ hy)))
  have W2 := Lib.hid (decide_eq_true (p := ∀ y ∈ (X.filter fun y => decide (y ∈ Y)), y ∈ Y) (fun y hy => by simpa using (List.mem_filter.1 hy).2))
  have HUI := Lib.hid (setL_inc (X ++ Y))
  have HII := Lib.hid (show Inc (X.filter fun y => decide (y ∈ Y)) from HXI.out.sublist List.filter_sublist)
  have R1 := Lib.hid (decide_eq_true HUI.out)
  have R2 := Lib.hid (decide_eq_true HII.out)
  have hV0 := (back_sets X Y HXI.out)
  have hL0 := (off_sets X z HXI.out)
  have HAI := Lib.hid (addL_inc X z HXI.out)
  have HLI := Lib.hid (show Inc (X.filter fun y => y != z) from HXI.out.sublist List.filter_sublist)
  have M1 := Lib.hid (decide_eq_true (p := z ∈ addL X z) ((addL_mem X z z).2 (.inr rfl)))
  have M2 := Lib.hid (decide_eq_false (p := z ∈ X.filter fun y => y != z) (fun h => by simpa using (List.mem_filter.1 h).2))
  have hK0 := (show setL (X ++ setL (Y ++ Z)) = setL (setL (X ++ Y) ++ Z) from setL_same fun y => by simp only [List.mem_append, setL_mem]; exact or_assoc.symm)
  obtain ⟨T, hT⟩ : ∃ T, T = setL (setL (X ++ Y) ++ Z) := ⟨_, rfl⟩
  obtain ⟨U, hU⟩ : ∃ U, U = setL (X ++ Y) := ⟨_, rfl⟩
  obtain ⟨I, hI⟩ : ∃ I, I = X.filter fun y => decide (y ∈ Y) := ⟨_, rfl⟩
  obtain ⟨D, hD⟩ : ∃ D, D = X.filter fun y => !decide (y ∈ Y) := ⟨_, rfl⟩
  obtain ⟨AX, hAX⟩ : ∃ AX, AX = addL X z := ⟨_, rfl⟩
  obtain ⟨LX, hLX⟩ : ∃ LX, LX = X.filter fun y => y != z := ⟨_, rfl⟩
  obtain ⟨YZ, hYZ⟩ : ∃ YZ, YZ = setL (Y ++ Z) := ⟨_, rfl⟩
  have HTd := Lib.hid (show setL (U ++ Z) = T by rw [hU, hT])
  have HKd := Lib.hid (show setL (X ++ YZ) = T by rw [hYZ, hT]; exact hK0)
  have HVd := Lib.hid (show setL (D ++ I) = X by rw [hD, hI]; exact hV0)
  have HLd := Lib.hid (show (AX.filter fun y => y != z) = LX by rw [hAX, hLX]; exact hL0)
  have HAd := Lib.hid hAX.symm
  have HMd := Lib.hid hLX.symm
  have HDd := Lib.hid hD.symm
  have HUd := Lib.hid hU.symm
  have HJd := Lib.hid hYZ.symm
  have HId := Lib.hid hI.symm
  rw [← hT, ← hU] at hTl
  rw [← hU] at hsum hUl W1 HUI R1
  rw [← hI] at hsum hIl W2 HII R2
  rw [← hD] at hDl
  rw [← hAX] at hAl HAI M1
  rw [← hLX] at hLl HLI M2
  rw [← hYZ] at hJl
  have C2 := Lib.hid (cmpL_zero.2 (rfl : X = X))
  have C3 := Lib.hid (cmpL_zero.2 (rfl : LX = LX))
  have C4 := Lib.hid (cmpL_zero.2 (rfl : T = T))
  clear hU hT hI hD hAX hLX hYZ hV0 hL0 hK0
  have hs1 : IntKind.i64.wrap ((U.length : Int) + (I.length : Int)) = (X.length : Int) + (Y.length : Int) := by rw [IntKind.wrap_i64]; omega
  have hs2 : IntKind.i64.wrap ((X.length : Int) + (Y.length : Int)) = (X.length : Int) + (Y.length : Int) := by rw [IntKind.wrap_i64]; omega
  go_enter Try.func7, Try.ntmps7
  go_wp2_with fail
  refine HA.out.mono ?_
  rintro e w1 ⟨rfl, hb1⟩
  have HB1 := Lib.hid hb1
  clear hb1 HA
  go_wp2_with (first
    | (go_at_call_of 9 (Value.slice A0 n0 c0); refine (HOa.out w1 HB1.out).mono ?_; clear HOa; rintro e wa ⟨vX, rfl, hown, hb⟩; obtain ⟨CX, kX, rfl, hsx⟩ := Sl.own hown; have HSX := Lib.hid hsx; have HCX := Lib.hid (own_cap hown); have HShX := Lib.hid (own_shape hown); have HBa := Lib.hid (HB1.out.andThen hb); clear hown hsx hb HB1)
    | (go_at_call_of 9 (Value.slice A1 n1 c1); refine (HOb.out wa HBa.out).mono ?_; clear HOb; rintro e wb ⟨vY, rfl, hown, hb⟩; obtain ⟨CY, kY, rfl, hsy⟩ := Sl.own hown; have HSY := Lib.hid hsy; have HCY := Lib.hid (own_cap hown); have HBb := Lib.hid (HBa.out.andThen hb); replace HSX := Lib.hid (HSX.out.keep hb); clear hown hsy hb HBa)
    | (go_at_call 9; refine (HOc.out wb HBb.out).mono ?_; clear HOc; rintro e wc ⟨vZ, rfl, hown, hb⟩; obtain ⟨CZ, kZ, rfl, hsz⟩ := Sl.own hown; have HSZ := Lib.hid hsz; have HCZ := Lib.hid (own_cap hown); have HBc := Lib.hid (HBb.out.andThen hb); replace HSX := Lib.hid (HSX.out.keep hb); replace HSY := Lib.hid (HSY.out.keep hb); have TU := Lib.hid True.intro; clear hown hsz hb HBb)
    | (clear TU; go_at_call 21; refine (Union_any X Y CX CY _ kX _ kY wc rfl (by omega) HCX.out HSX.out rfl (by omega) HCY.out HSY.out).mono ?_; rw [HUd.out]; rintro e wd ⟨v, rfl, hown, hb⟩; obtain ⟨CU, kU, rfl, hs⟩ := Sl.own hown; have HSU := Lib.hid hs; have HCU := Lib.hid (own_cap hown); have HBd := Lib.hid (HBc.out.andThen hb); replace HSX := Lib.hid (HSX.out.keep hb); replace HSY := Lib.hid (HSY.out.keep hb); replace HSZ := Lib.hid (HSZ.out.keep hb); clear hown hs hb HBc)
    | (go_at_call 22; refine (Both_any X Y CX CY _ kX _ kY wd rfl (by omega) HSX.out rfl (by omega) HYI.out HSY.out).mono ?_; rw [HId.out]; rintro e w1 ⟨v, rfl, hown, hb⟩; obtain ⟨CI, kI, rfl, hs⟩ := Sl.own hown; have HCI := Lib.hid (own_cap hown); have HB := Lib.hid (HBd.out.andThen hb); have HR := Lib.hid (show Five CX X CY Y CZ Z CU U CI I w1 from ⟨HSX.out.keep hb, HSY.out.keep hb, HSZ.out.keep hb, HSU.out.keep hb, hs⟩); have T0 := Lib.hid True.intro; clear hown hs hb HBd HSX HSY HSZ HSU)
    | (clear T0; go_at_call 24; refine (Within_any X U CX CU _ kX _ kU w1 rfl (by omega) HR.out.1 rfl (by omega) HUI.out HR.out.2.2.2.1).mono ?_; rw [W1.out]; rintro e w2 ⟨rfl, hb⟩; replace HB := Lib.hid (HB.out.andThen hb); replace HR := Lib.hid (HR.out.keep hb); clear hb; have T1 := Lib.hid True.intro)
    | (clear T1; go_at_call 24; refine (Within_any I Y CI CY _ kI _ kY w2 rfl (by omega) HR.out.2.2.2.2 rfl (by omega) HYI.out HR.out.2.1).mono ?_; rw [W2.out]; rintro e w3 ⟨rfl, hb⟩; replace HB := Lib.hid (HB.out.andThen hb); replace HR := Lib.hid (HR.out.keep hb); clear hb; have T2 := Lib.hid True.intro)
    | (clear T2; go_at_call 12; refine (Right_any U CU _ kU w3 rfl HR.out.2.2.2.1 (by omega)).mono ?_; rw [R1.out]; rintro e w4 ⟨rfl, hb⟩; replace HB := Lib.hid (HB.out.andThen hb); replace HR := Lib.hid (HR.out.keep hb); clear hb; have T3 := Lib.hid True.intro)
    | (clear T3; go_at_call 12; refine (Right_any I CI _ kI w4 rfl HR.out.2.2.2.2 (by omega)).mono ?_; rw [R2.out]; rintro e w5 ⟨rfl, hb⟩; replace HB := Lib.hid (HB.out.andThen hb); replace HR := Lib.hid (HR.out.keep hb); clear hb; have T4 := Lib.hid True.intro)
    | (clear T4; go_at_call 24; refine (Within_any X Y CX CY _ kX _ kY w5 rfl (by omega) HR.out.1 rfl (by omega) HYI.out HR.out.2.1).mono ?_; rw [P1.out]; rintro e w6 ⟨rfl, hb⟩; replace HB := Lib.hid (HB.out.andThen hb); replace HR := Lib.hid (HR.out.keep hb); clear hb; have T5 := Lib.hid True.intro)
    | (clear T5; go_at_call 24; refine (Within_any Y Z CY CZ _ kY _ kZ w6 rfl (by omega) HR.out.2.1 rfl (by omega) HZI.out HR.out.2.2.1).mono ?_; rw [P2.out]; rintro e w7 ⟨rfl, hb⟩; replace HB := Lib.hid (HB.out.andThen hb); replace HR := Lib.hid (HR.out.keep hb); clear hb; have T6 := Lib.hid True.intro)
    | (clear T6; go_at_call 24; refine (Within_any X Y CX CY _ kX _ kY w7 rfl (by omega) HR.out.1 rfl (by omega) HYI.out HR.out.2.1).mono ?_; rw [P1.out]; rintro e w8 ⟨rfl, hb⟩; replace HB := Lib.hid (HB.out.andThen hb); replace HR := Lib.hid (HR.out.keep hb); clear hb; have T7 := Lib.hid True.intro)
    | (clear T7; go_at_call 24; refine (Within_any Y X CY CX _ kY _ kX w8 rfl (by omega) HR.out.2.1 rfl (by omega) HXI.out HR.out.1).mono ?_; rw [P3.out]; rintro e w9 ⟨rfl, hb⟩; replace HB := Lib.hid (HB.out.andThen hb); replace HR := Lib.hid (HR.out.keep hb); clear hb; have T8 := Lib.hid True.intro)
    | (clear T8; go_at_call 13; refine (Compare_any X Y CX CY _ _ kX kY w9 rfl rfl HR.out.1 HR.out.2.1 (by omega)).mono ?_; rw [C1.out]; rintro e w10 ⟨rfl, rfl⟩; have T9 := Lib.hid True.intro)
    | (clear T9; go_at_call 23; refine (But_any X Y CX CY _ kX _ kY w9 rfl (by omega) HR.out.1 rfl (by omega) HYI.out HR.out.2.1).mono ?_; rw [HDd.out]; rintro e w10 ⟨v, rfl, hown, hb⟩; obtain ⟨CD, kD, rfl, hs⟩ := Sl.own hown; replace HB := Lib.hid (HB.out.andThen hb); replace HR := Lib.hid (HR.out.keep hb); have HSD := Lib.hid hs; have HCD := Lib.hid (own_cap hown); have HShD := Lib.hid (own_shape hown); clear hown hs hb; have T10 := Lib.hid True.intro)
    | (clear T10; go_at_call 21; refine (Union_any D I CD CI _ kD _ kI w10 rfl (by omega) HCD.out HSD.out rfl (by omega) HCI.out HR.out.2.2.2.2).mono ?_; rw [HVd.out]; rintro e w11 ⟨v, rfl, hown, hb⟩; obtain ⟨CV, kV, rfl, hs⟩ := Sl.own hown; replace HB := Lib.hid (HB.out.andThen hb); replace HR := Lib.hid (HR.out.keep hb); replace HSD := Lib.hid (HSD.out.keep hb); have HSV := Lib.hid hs; have HCV := Lib.hid (own_cap hown); have HShV := Lib.hid (own_shape hown); clear hown hs hb; have T11 := Lib.hid True.intro)
    | (clear T11; go_at_call 13; refine (Compare_any X X CV CX _ _ kV kX w11 rfl rfl HSV.out HR.out.1 (by omega)).mono ?_; rw [C2.out]; rintro e w12 ⟨rfl, rfl⟩; clear HSD; clear HSV; have T12 := Lib.hid True.intro)
    | (clear T12; go_at_call 18; refine (AddS_any X z CX _ kX w11 rfl (by omega) HCX.out HShX.out HXI.out HR.out.1).mono ?_; rw [HAd.out]; rintro e w12 ⟨v, rfl, hown, hb⟩; obtain ⟨CA, kA, rfl, hs⟩ := Sl.own hown; replace HB := Lib.hid (HB.out.andThen hb); replace HR := Lib.hid (HR.out.keep hb); have HSA := Lib.hid hs; have HCA := Lib.hid (own_cap hown); have HShA := Lib.hid (own_shape hown); clear hown hs hb; have T13 := Lib.hid True.intro)
    | (clear T13; go_at_call 20; refine (Less_any AX z CA _ kA w12 rfl (by omega) HSA.out).mono ?_; rw [HLd.out]; rintro e w13 ⟨v, rfl, hown, hb⟩; obtain ⟨CL, kL, rfl, hs⟩ := Sl.own hown; replace HB := Lib.hid (HB.out.andThen hb); replace HR := Lib.hid (HR.out.keep hb); replace HSA := Lib.hid (HSA.out.keep hb); have HSL := Lib.hid hs; have HCL := Lib.hid (own_cap hown); have HShL := Lib.hid (own_shape hown); clear hown hs hb; have T14 := Lib.hid True.intro)
    | (clear T14; go_at_call 20; refine (Less_any X z CX _ kX w13 rfl (by omega) HR.out.1).mono ?_; rw [HMd.out]; rintro e w14 ⟨v, rfl, hown, hb⟩; obtain ⟨CM, kM, rfl, hs⟩ := Sl.own hown; replace HB := Lib.hid (HB.out.andThen hb); replace HR := Lib.hid (HR.out.keep hb); replace HSA := Lib.hid (HSA.out.keep hb); replace HSL := Lib.hid (HSL.out.keep hb); have HSM := Lib.hid hs; have HCM := Lib.hid (own_cap hown); have HShM := Lib.hid (own_shape hown); clear hown hs hb; have T15 := Lib.hid True.intro)
    | (clear T15; go_at_call 13; refine (Compare_any LX LX CL CM _ _ kL kM w14 rfl rfl HSL.out HSM.out (by omega)).mono ?_; rw [C3.out]; rintro e w15 ⟨rfl, rfl⟩; clear HSA; clear HSL; clear HSM; have T16 := Lib.hid True.intro)
    | (clear T16; go_at_call 18; refine (AddS_any X z CX _ kX w14 rfl (by omega) HCX.out HShX.out HXI.out HR.out.1).mono ?_; rw [HAd.out]; rintro e w15 ⟨v, rfl, hown, hb⟩; obtain ⟨CA, kA, rfl, hs⟩ := Sl.own hown; replace HB := Lib.hid (HB.out.andThen hb); replace HR := Lib.hid (HR.out.keep hb); have HSA := Lib.hid hs; have HCA := Lib.hid (own_cap hown); have HShA := Lib.hid (own_shape hown); clear hown hs hb; have T17 := Lib.hid True.intro)
    | (clear T17; go_at_call 16; refine (HasS_any AX z CA _ kA w15 rfl (by omega) HAI.out HSA.out).mono ?_; rw [M1.out]; rintro e w16 ⟨rfl, hb⟩; replace HB := Lib.hid (HB.out.andThen hb); replace HR := Lib.hid (HR.out.keep hb); replace HSA := Lib.hid (HSA.out.keep hb); clear hb; clear HSA; have T18 := Lib.hid True.intro)
    | (clear T18; go_at_call 20; refine (Less_any X z CX _ kX w16 rfl (by omega) HR.out.1).mono ?_; rw [HMd.out]; rintro e w17 ⟨v, rfl, hown, hb⟩; obtain ⟨CM, kM, rfl, hs⟩ := Sl.own hown; replace HB := Lib.hid (HB.out.andThen hb); replace HR := Lib.hid (HR.out.keep hb); have HSM := Lib.hid hs; have HCM := Lib.hid (own_cap hown); have HShM := Lib.hid (own_shape hown); clear hown hs hb; have T19 := Lib.hid True.intro)
    | (clear T19; go_at_call 16; refine (HasS_any LX z CM _ kM w17 rfl (by omega) HLI.out HSM.out).mono ?_; rw [M2.out]; rintro e w18 ⟨rfl, hb⟩; replace HB := Lib.hid (HB.out.andThen hb); replace HR := Lib.hid (HR.out.keep hb); replace HSM := Lib.hid (HSM.out.keep hb); clear hb; clear HSM; have T20 := Lib.hid True.intro)
    | (clear T20; go_at_call 21; refine (Union_any X Y CX CY _ kX _ kY w18 rfl (by omega) HCX.out HR.out.1 rfl (by omega) HCY.out HR.out.2.1).mono ?_; rw [HUd.out]; rintro e w19 ⟨v, rfl, hown, hb⟩; obtain ⟨CG, kG, rfl, hs⟩ := Sl.own hown; replace HB := Lib.hid (HB.out.andThen hb); replace HR := Lib.hid (HR.out.keep hb); have HSG := Lib.hid hs; have HCG := Lib.hid (own_cap hown); have HShG := Lib.hid (own_shape hown); clear hown hs hb; have T21 := Lib.hid True.intro)
    | (clear T21; go_at_call 21; refine (Union_any U Z CG CZ _ kG _ kZ w19 rfl (by omega) HCG.out HSG.out rfl (by omega) HCZ.out HR.out.2.2.1).mono ?_; rw [HTd.out]; rintro e w20 ⟨v, rfl, hown, hb⟩; obtain ⟨CH, kH, rfl, hs⟩ := Sl.own hown; replace HB := Lib.hid (HB.out.andThen hb); replace HR := Lib.hid (HR.out.keep hb); replace HSG := Lib.hid (HSG.out.keep hb); have HSH := Lib.hid hs; have HCH := Lib.hid (own_cap hown); have HShH := Lib.hid (own_shape hown); clear hown hs hb; have T22 := Lib.hid True.intro)
    | (clear T22; go_at_call 21; refine (Union_any Y Z CY CZ _ kY _ kZ w20 rfl (by omega) HCY.out HR.out.2.1 rfl (by omega) HCZ.out HR.out.2.2.1).mono ?_; rw [HJd.out]; rintro e w21 ⟨v, rfl, hown, hb⟩; obtain ⟨CJ, kJ, rfl, hs⟩ := Sl.own hown; replace HB := Lib.hid (HB.out.andThen hb); replace HR := Lib.hid (HR.out.keep hb); replace HSG := Lib.hid (HSG.out.keep hb); replace HSH := Lib.hid (HSH.out.keep hb); have HSJ := Lib.hid hs; have HCJ := Lib.hid (own_cap hown); have HShJ := Lib.hid (own_shape hown); clear hown hs hb; have T23 := Lib.hid True.intro)
    | (clear T23; go_at_call 21; refine (Union_any X YZ CX CJ _ kX _ kJ w21 rfl (by omega) HCX.out HR.out.1 rfl (by omega) HCJ.out HSJ.out).mono ?_; rw [HKd.out]; rintro e w22 ⟨v, rfl, hown, hb⟩; obtain ⟨CK, kK, rfl, hs⟩ := Sl.own hown; replace HB := Lib.hid (HB.out.andThen hb); replace HR := Lib.hid (HR.out.keep hb); replace HSG := Lib.hid (HSG.out.keep hb); replace HSH := Lib.hid (HSH.out.keep hb); replace HSJ := Lib.hid (HSJ.out.keep hb); have HSK := Lib.hid hs; have HCK := Lib.hid (own_cap hown); have HShK := Lib.hid (own_shape hown); clear hown hs hb; have T24 := Lib.hid True.intro)
    | (clear T24; go_at_call 13; refine (Compare_any T T CH CK _ _ kH kK w22 rfl rfl HSH.out HSK.out (by omega)).mono ?_; rw [C4.out]; rintro e w23 ⟨rfl, rfl⟩; have T25 := Lib.hid True.intro)
    | fail)
  go_ret
  exact ⟨ret_bool (by simp), HB.out⟩

set_option maxHeartbeats 16000000 in
theorem SetsRules_yff (A0 : Option Addr) (n0 c0 : Nat) (l0 : List Int) (A1 : Option Addr) (n1 c1 : Nat) (l1 : List Int) (A2 : Option Addr) (n2 c2 : Nat) (l2 : List Int) (z : Int) (w : World)
    (h0 : n0 ≤ 60) (e0 : l0.length = n0) (s0 : Sl w 1 A0 n0 (l0.map (Value.int .i64))) (h1 : n1 ≤ 60) (e1 : l1.length = n1) (s1 : Sl w 1 A1 n1 (l1.map (Value.int .i64))) (h2 : n2 ≤ 60) (e2 : l2.length = n2) (s2 : Sl w 1 A2 n2 (l2.map (Value.int .i64)))
    (hp1 :  (∀ y ∈ setL l0, y ∈ setL l1)) (hp2 : ¬ (∀ y ∈ setL l1, y ∈ setL l2)) (hp3 : ¬ (∀ y ∈ setL l1, y ∈ setL l0)) :
    Calls Try.prog 7 #[.slice A0 n0 c0, .slice A1 n1 c1, .slice A2 n2 c2, .int .i64 z] w fun e w' => e = .returned (.bool true) ∧ Below w.heap.size w w' := by
  have HA := Lib.hid (alive06 w)
  have S0 := Lib.hid s0
  have S1 := Lib.hid s1
  have S2 := Lib.hid s2
  have E0 := Lib.hid e0
  have E1 := Lib.hid e1
  have E2 := Lib.hid e2
  clear s0 s1 s2 e0 e1 e2
  have h0' : ¬ (60 : Int) < (n0 : Int) := by omega
  have h1' : ¬ (60 : Int) < (n1 : Int) := by omega
  have h2' : ¬ (60 : Int) < (n2 : Int) := by omega
  have hl0 : (setL l0).length ≤ 60 := by have := setL_le l0; have := E0.out; omega
  have hl1 : (setL l1).length ≤ 60 := by have := setL_le l1; have := E1.out; omega
  have hl2 : (setL l2).length ≤ 60 := by have := setL_le l2; have := E2.out; omega
  have HXI := Lib.hid (setL_inc l0)
  have HYI := Lib.hid (setL_inc l1)
  have HZI := Lib.hid (setL_inc l2)
  have HOa := Lib.hid (fun W (hb : Below w.heap.size w W) => Of_any l0 A0 n0 c0 W E0.out (by omega) (S0.out.keep hb) (fun h => sl_lt (S0.out.keep hb) h))
  have HOb := Lib.hid (fun W (hb : Below w.heap.size w W) => Of_any l1 A1 n1 c1 W E1.out (by omega) (S1.out.keep hb) (fun h => sl_lt (S1.out.keep hb) h))
  have HOc := Lib.hid (fun W (hb : Below w.heap.size w W) => Of_any l2 A2 n2 c2 W E2.out (by omega) (S2.out.keep hb) (fun h => sl_lt (S2.out.keep hb) h))
  generalize setL l0 = X at *
  generalize setL l1 = Y at *
  generalize setL l2 = Z at *
  have P1 := Lib.hid (decide_eq_true hp1)
  have P2 := Lib.hid (decide_eq_false hp2)
  have P3 := Lib.hid (decide_eq_false hp3)
  clear hp1 hp2 hp3
  have hsum := sum_sets X Y HXI.out HYI.out
  have hUl := setL_le (X ++ Y)
  rw [List.length_append] at hUl
  have hIl := List.length_filter_le (fun y => decide (y ∈ Y)) X
  have hDl := List.length_filter_le (fun y => !decide (y ∈ Y)) X
  have hAl := addL_len X z
  have hLl := List.length_filter_le (fun y => y != z) X
  have hJl := setL_le (Y ++ Z)
  have hTl := setL_le (setL (X ++ Y) ++ Z)
  rw [List.length_append] at hJl hTl
  have W1 := Lib.hid (decide_eq_true (p := ∀ y ∈ X, y ∈ setL (X ++ Y)) (fun y hy => (setL_mem _ _).2 (List.mem_append_left _ hy)))
  have W2 := Lib.hid (decide_eq_true (p := ∀ y ∈ (X.filter fun y => decide (y ∈ Y)), y ∈ Y) (fun y hy => by simpa using (List.mem_filter.1 hy).2))
  have HUI := Lib.hid (setL_inc (X ++ Y))
  have HII := Lib.hid (show Inc (X.filter fun y => decide (y ∈ Y)) from HXI.out.sublist List.filter_sublist)
  have R1 := Lib.hid (decide_eq_true HUI.out)
  have R2 := Lib.hid (decide_eq_true HII.out)
  have hV0 := (back_sets X Y HXI.out)
  have hL0 := (off_sets X z HXI.out)
  have HAI := Lib.hid (addL_inc X z HXI.out)
  have HLI := Lib.hid (show Inc (X.filter fun y => y != z) from HXI.out.sublist List.filter_sublist)
  have M1 := Lib.hid (decide_eq_true (p := z ∈ addL X z) ((addL_mem X z z).2 (.inr rfl)))
  have M2 := Lib.hid (decide_eq_false (p := z ∈ X.filter fun y => y != z) (fun h => by simpa using (List.mem_filter.1 h).2))
  have hK0 := (show setL (X ++ setL (Y ++ Z)) = setL (setL (X ++ Y) ++ Z) from setL_same fun y => by simp only [List.mem_append, setL_mem]; exact or_assoc.symm)
  obtain ⟨T, hT⟩ : ∃ T, T = setL (setL (X ++ Y) ++ Z) := ⟨_, rfl⟩
  obtain ⟨U, hU⟩ : ∃ U, U = setL (X ++ Y) := ⟨_, rfl⟩
  obtain ⟨I, hI⟩ : ∃ I, I = X.filter fun y => decide (y ∈ Y) := ⟨_, rfl⟩
  obtain ⟨D, hD⟩ : ∃ D, D = X.filter fun y => !decide (y ∈ Y) := ⟨_, rfl⟩
  obtain ⟨AX, hAX⟩ : ∃ AX, AX = addL X z := ⟨_, rfl⟩
  obtain ⟨LX, hLX⟩ : ∃ LX, LX = X.filter fun y => y != z := ⟨_, rfl⟩
  obtain ⟨YZ, hYZ⟩ : ∃ YZ, YZ = setL (Y ++ Z) := ⟨_, rfl⟩
  have HTd := Lib.hid (show setL (U ++ Z) = T by rw [hU, hT])
  have HKd := Lib.hid (show setL (X ++ YZ) = T by rw [hYZ, hT]; exact hK0)
  have HVd := Lib.hid (show setL (D ++ I) = X by rw [hD, hI]; exact hV0)
  have HLd := Lib.hid (show (AX.filter fun y => y != z) = LX by rw [hAX, hLX]; exact hL0)
  have HAd := Lib.hid hAX.symm
  have HMd := Lib.hid hLX.symm
  have HDd := Lib.hid hD.symm
  have HUd := Lib.hid hU.symm
  have HJd := Lib.hid hYZ.symm
  have HId := Lib.hid hI.symm
  rw [← hT, ← hU] at hTl
  rw [← hU] at hsum hUl W1 HUI R1
  rw [← hI] at hsum hIl W2 HII R2
  rw [← hD] at hDl
  rw [← hAX] at hAl HAI M1
  rw [← hLX] at hLl HLI M2
  rw [← hYZ] at hJl
  have C2 := Lib.hid (cmpL_zero.2 (rfl : X = X))
  have C3 := Lib.hid (cmpL_zero.2 (rfl : LX = LX))
  have C4 := Lib.hid (cmpL_zero.2 (rfl : T = T))
  clear hU hT hI hD hAX hLX hYZ hV0 hL0 hK0
  have hs1 : IntKind.i64.wrap ((U.length : Int) + (I.length : Int)) = (X.length : Int) + (Y.length : Int) := by rw [IntKind.wrap_i64]; omega
  have hs2 : IntKind.i64.wrap ((X.length : Int) + (Y.length : Int)) = (X.length : Int) + (Y.length : Int) := by rw [IntKind.wrap_i64]; omega
  go_enter Try.func7, Try.ntmps7
  go_wp2_with fail
  refine HA.out.mono ?_
  rintro e w1 ⟨rfl, hb1⟩
  have HB1 := Lib.hid hb1
  clear hb1 HA
  go_wp2_with (first
    | (go_at_call_of 9 (Value.slice A0 n0 c0); refine (HOa.out w1 HB1.out).mono ?_; clear HOa; rintro e wa ⟨vX, rfl, hown, hb⟩; obtain ⟨CX, kX, rfl, hsx⟩ := Sl.own hown; have HSX := Lib.hid hsx; have HCX := Lib.hid (own_cap hown); have HShX := Lib.hid (own_shape hown); have HBa := Lib.hid (HB1.out.andThen hb); clear hown hsx hb HB1)
    | (go_at_call_of 9 (Value.slice A1 n1 c1); refine (HOb.out wa HBa.out).mono ?_; clear HOb; rintro e wb ⟨vY, rfl, hown, hb⟩; obtain ⟨CY, kY, rfl, hsy⟩ := Sl.own hown; have HSY := Lib.hid hsy; have HCY := Lib.hid (own_cap hown); have HBb := Lib.hid (HBa.out.andThen hb); replace HSX := Lib.hid (HSX.out.keep hb); clear hown hsy hb HBa)
    | (go_at_call 9; refine (HOc.out wb HBb.out).mono ?_; clear HOc; rintro e wc ⟨vZ, rfl, hown, hb⟩; obtain ⟨CZ, kZ, rfl, hsz⟩ := Sl.own hown; have HSZ := Lib.hid hsz; have HCZ := Lib.hid (own_cap hown); have HBc := Lib.hid (HBb.out.andThen hb); replace HSX := Lib.hid (HSX.out.keep hb); replace HSY := Lib.hid (HSY.out.keep hb); have TU := Lib.hid True.intro; clear hown hsz hb HBb)
    | (clear TU; go_at_call 21; refine (Union_any X Y CX CY _ kX _ kY wc rfl (by omega) HCX.out HSX.out rfl (by omega) HCY.out HSY.out).mono ?_; rw [HUd.out]; rintro e wd ⟨v, rfl, hown, hb⟩; obtain ⟨CU, kU, rfl, hs⟩ := Sl.own hown; have HSU := Lib.hid hs; have HCU := Lib.hid (own_cap hown); have HBd := Lib.hid (HBc.out.andThen hb); replace HSX := Lib.hid (HSX.out.keep hb); replace HSY := Lib.hid (HSY.out.keep hb); replace HSZ := Lib.hid (HSZ.out.keep hb); clear hown hs hb HBc)
    | (go_at_call 22; refine (Both_any X Y CX CY _ kX _ kY wd rfl (by omega) HSX.out rfl (by omega) HYI.out HSY.out).mono ?_; rw [HId.out]; rintro e w1 ⟨v, rfl, hown, hb⟩; obtain ⟨CI, kI, rfl, hs⟩ := Sl.own hown; have HCI := Lib.hid (own_cap hown); have HB := Lib.hid (HBd.out.andThen hb); have HR := Lib.hid (show Five CX X CY Y CZ Z CU U CI I w1 from ⟨HSX.out.keep hb, HSY.out.keep hb, HSZ.out.keep hb, HSU.out.keep hb, hs⟩); have T0 := Lib.hid True.intro; clear hown hs hb HBd HSX HSY HSZ HSU)
    | (clear T0; go_at_call 24; refine (Within_any X U CX CU _ kX _ kU w1 rfl (by omega) HR.out.1 rfl (by omega) HUI.out HR.out.2.2.2.1).mono ?_; rw [W1.out]; rintro e w2 ⟨rfl, hb⟩; replace HB := Lib.hid (HB.out.andThen hb); replace HR := Lib.hid (HR.out.keep hb); clear hb; have T1 := Lib.hid True.intro)
    | (clear T1; go_at_call 24; refine (Within_any I Y CI CY _ kI _ kY w2 rfl (by omega) HR.out.2.2.2.2 rfl (by omega) HYI.out HR.out.2.1).mono ?_; rw [W2.out]; rintro e w3 ⟨rfl, hb⟩; replace HB := Lib.hid (HB.out.andThen hb); replace HR := Lib.hid (HR.out.keep hb); clear hb; have T2 := Lib.hid True.intro)
    | (clear T2; go_at_call 12; refine (Right_any U CU _ kU w3 rfl HR.out.2.2.2.1 (by omega)).mono ?_; rw [R1.out]; rintro e w4 ⟨rfl, hb⟩; replace HB := Lib.hid (HB.out.andThen hb); replace HR := Lib.hid (HR.out.keep hb); clear hb; have T3 := Lib.hid True.intro)
    | (clear T3; go_at_call 12; refine (Right_any I CI _ kI w4 rfl HR.out.2.2.2.2 (by omega)).mono ?_; rw [R2.out]; rintro e w5 ⟨rfl, hb⟩; replace HB := Lib.hid (HB.out.andThen hb); replace HR := Lib.hid (HR.out.keep hb); clear hb; have T4 := Lib.hid True.intro)
    | (clear T4; go_at_call 24; refine (Within_any X Y CX CY _ kX _ kY w5 rfl (by omega) HR.out.1 rfl (by omega) HYI.out HR.out.2.1).mono ?_; rw [P1.out]; rintro e w6 ⟨rfl, hb⟩; replace HB := Lib.hid (HB.out.andThen hb); replace HR := Lib.hid (HR.out.keep hb); clear hb; have T5 := Lib.hid True.intro)
    | (clear T5; go_at_call 24; refine (Within_any Y Z CY CZ _ kY _ kZ w6 rfl (by omega) HR.out.2.1 rfl (by omega) HZI.out HR.out.2.2.1).mono ?_; rw [P2.out]; rintro e w7 ⟨rfl, hb⟩; replace HB := Lib.hid (HB.out.andThen hb); replace HR := Lib.hid (HR.out.keep hb); clear hb; have T6 := Lib.hid True.intro)
    | (clear T6; go_at_call 24; refine (Within_any X Y CX CY _ kX _ kY w7 rfl (by omega) HR.out.1 rfl (by omega) HYI.out HR.out.2.1).mono ?_; rw [P1.out]; rintro e w8 ⟨rfl, hb⟩; replace HB := Lib.hid (HB.out.andThen hb); replace HR := Lib.hid (HR.out.keep hb); clear hb; have T7 := Lib.hid True.intro)
    | (clear T7; go_at_call 24; refine (Within_any Y X CY CX _ kY _ kX w8 rfl (by omega) HR.out.2.1 rfl (by omega) HXI.out HR.out.1).mono ?_; rw [P3.out]; rintro e w9 ⟨rfl, hb⟩; replace HB := Lib.hid (HB.out.andThen hb); replace HR := Lib.hid (HR.out.keep hb); clear hb; have T8 := Lib.hid True.intro)
    | (clear T8; go_at_call 23; refine (But_any X Y CX CY _ kX _ kY w9 rfl (by omega) HR.out.1 rfl (by omega) HYI.out HR.out.2.1).mono ?_; rw [HDd.out]; rintro e w10 ⟨v, rfl, hown, hb⟩; obtain ⟨CD, kD, rfl, hs⟩ := Sl.own hown; replace HB := Lib.hid (HB.out.andThen hb); replace HR := Lib.hid (HR.out.keep hb); have HSD := Lib.hid hs; have HCD := Lib.hid (own_cap hown); have HShD := Lib.hid (own_shape hown); clear hown hs hb; have T9 := Lib.hid True.intro)
    | (clear T9; go_at_call 21; refine (Union_any D I CD CI _ kD _ kI w10 rfl (by omega) HCD.out HSD.out rfl (by omega) HCI.out HR.out.2.2.2.2).mono ?_; rw [HVd.out]; rintro e w11 ⟨v, rfl, hown, hb⟩; obtain ⟨CV, kV, rfl, hs⟩ := Sl.own hown; replace HB := Lib.hid (HB.out.andThen hb); replace HR := Lib.hid (HR.out.keep hb); replace HSD := Lib.hid (HSD.out.keep hb); have HSV := Lib.hid hs; have HCV := Lib.hid (own_cap hown); have HShV := Lib.hid (own_shape hown); clear hown hs hb; have T10 := Lib.hid True.intro)
    | (clear T10; go_at_call 13; refine (Compare_any X X CV CX _ _ kV kX w11 rfl rfl HSV.out HR.out.1 (by omega)).mono ?_; rw [C2.out]; rintro e w12 ⟨rfl, rfl⟩; clear HSD; clear HSV; have T11 := Lib.hid True.intro)
    | (clear T11; go_at_call 18; refine (AddS_any X z CX _ kX w11 rfl (by omega) HCX.out HShX.out HXI.out HR.out.1).mono ?_; rw [HAd.out]; rintro e w12 ⟨v, rfl, hown, hb⟩; obtain ⟨CA, kA, rfl, hs⟩ := Sl.own hown; replace HB := Lib.hid (HB.out.andThen hb); replace HR := Lib.hid (HR.out.keep hb); have HSA := Lib.hid hs; have HCA := Lib.hid (own_cap hown); have HShA := Lib.hid (own_shape hown); clear hown hs hb; have T12 := Lib.hid True.intro)
    | (clear T12; go_at_call 20; refine (Less_any AX z CA _ kA w12 rfl (by omega) HSA.out).mono ?_; rw [HLd.out]; rintro e w13 ⟨v, rfl, hown, hb⟩; obtain ⟨CL, kL, rfl, hs⟩ := Sl.own hown; replace HB := Lib.hid (HB.out.andThen hb); replace HR := Lib.hid (HR.out.keep hb); replace HSA := Lib.hid (HSA.out.keep hb); have HSL := Lib.hid hs; have HCL := Lib.hid (own_cap hown); have HShL := Lib.hid (own_shape hown); clear hown hs hb; have T13 := Lib.hid True.intro)
    | (clear T13; go_at_call 20; refine (Less_any X z CX _ kX w13 rfl (by omega) HR.out.1).mono ?_; rw [HMd.out]; rintro e w14 ⟨v, rfl, hown, hb⟩; obtain ⟨CM, kM, rfl, hs⟩ := Sl.own hown; replace HB := Lib.hid (HB.out.andThen hb); replace HR := Lib.hid (HR.out.keep hb); replace HSA := Lib.hid (HSA.out.keep hb); replace HSL := Lib.hid (HSL.out.keep hb); have HSM := Lib.hid hs; have HCM := Lib.hid (own_cap hown); have HShM := Lib.hid (own_shape hown); clear hown hs hb; have T14 := Lib.hid True.intro)
    | (clear T14; go_at_call 13; refine (Compare_any LX LX CL CM _ _ kL kM w14 rfl rfl HSL.out HSM.out (by omega)).mono ?_; rw [C3.out]; rintro e w15 ⟨rfl, rfl⟩; clear HSA; clear HSL; clear HSM; have T15 := Lib.hid True.intro)
    | (clear T15; go_at_call 18; refine (AddS_any X z CX _ kX w14 rfl (by omega) HCX.out HShX.out HXI.out HR.out.1).mono ?_; rw [HAd.out]; rintro e w15 ⟨v, rfl, hown, hb⟩; obtain ⟨CA, kA, rfl, hs⟩ := Sl.own hown; replace HB := Lib.hid (HB.out.andThen hb); replace HR := Lib.hid (HR.out.keep hb); have HSA := Lib.hid hs; have HCA := Lib.hid (own_cap hown); have HShA := Lib.hid (own_shape hown); clear hown hs hb; have T16 := Lib.hid True.intro)
    | (clear T16; go_at_call 16; refine (HasS_any AX z CA _ kA w15 rfl (by omega) HAI.out HSA.out).mono ?_; rw [M1.out]; rintro e w16 ⟨rfl, hb⟩; replace HB := Lib.hid (HB.out.andThen hb); replace HR := Lib.hid (HR.out.keep hb); replace HSA := Lib.hid (HSA.out.keep hb); clear hb; clear HSA; have T17 := Lib.hid True.intro)
    | (clear T17; go_at_call 20; refine (Less_any X z CX _ kX w16 rfl (by omega) HR.out.1).mono ?_; rw [HMd.out]; rintro e w17 ⟨v, rfl, hown, hb⟩; obtain ⟨CM, kM, rfl, hs⟩ := Sl.own hown; replace HB := Lib.hid (HB.out.andThen hb); replace HR := Lib.hid (HR.out.keep hb); have HSM := Lib.hid hs; have HCM := Lib.hid (own_cap hown); have HShM := Lib.hid (own_shape hown); clear hown hs hb; have T18 := Lib.hid True.intro)
    | (clear T18; go_at_call 16; refine (HasS_any LX z CM _ kM w17 rfl (by omega) HLI.out HSM.out).mono ?_; rw [M2.out]; rintro e w18 ⟨rfl, hb⟩; replace HB := Lib.hid (HB.out.andThen hb); replace HR := Lib.hid (HR.out.keep hb); replace HSM := Lib.hid (HSM.out.keep hb); clear hb; clear HSM; have T19 := Lib.hid True.intro)
    | (clear T19; go_at_call 21; refine (Union_any X Y CX CY _ kX _ kY w18 rfl (by omega) HCX.out HR.out.1 rfl (by omega) HCY.out HR.out.2.1).mono ?_; rw [HUd.out]; rintro e w19 ⟨v, rfl, hown, hb⟩; obtain ⟨CG, kG, rfl, hs⟩ := Sl.own hown; replace HB := Lib.hid (HB.out.andThen hb); replace HR := Lib.hid (HR.out.keep hb); have HSG := Lib.hid hs; have HCG := Lib.hid (own_cap hown); have HShG := Lib.hid (own_shape hown); clear hown hs hb; have T20 := Lib.hid True.intro)
    | (clear T20; go_at_call 21; refine (Union_any U Z CG CZ _ kG _ kZ w19 rfl (by omega) HCG.out HSG.out rfl (by omega) HCZ.out HR.out.2.2.1).mono ?_; rw [HTd.out]; rintro e w20 ⟨v, rfl, hown, hb⟩; obtain ⟨CH, kH, rfl, hs⟩ := Sl.own hown; replace HB := Lib.hid (HB.out.andThen hb); replace HR := Lib.hid (HR.out.keep hb); replace HSG := Lib.hid (HSG.out.keep hb); have HSH := Lib.hid hs; have HCH := Lib.hid (own_cap hown); have HShH := Lib.hid (own_shape hown); clear hown hs hb; have T21 := Lib.hid True.intro)
    | (clear T21; go_at_call 21; refine (Union_any Y Z CY CZ _ kY _ kZ w20 rfl (by omega) HCY.out HR.out.2.1 rfl (by omega) HCZ.out HR.out.2.2.1).mono ?_; rw [HJd.out]; rintro e w21 ⟨v, rfl, hown, hb⟩; obtain ⟨CJ, kJ, rfl, hs⟩ := Sl.own hown; replace HB := Lib.hid (HB.out.andThen hb); replace HR := Lib.hid (HR.out.keep hb); replace HSG := Lib.hid (HSG.out.keep hb); replace HSH := Lib.hid (HSH.out.keep hb); have HSJ := Lib.hid hs; have HCJ := Lib.hid (own_cap hown); have HShJ := Lib.hid (own_shape hown); clear hown hs hb; have T22 := Lib.hid True.intro)
    | (clear T22; go_at_call 21; refine (Union_any X YZ CX CJ _ kX _ kJ w21 rfl (by omega) HCX.out HR.out.1 rfl (by omega) HCJ.out HSJ.out).mono ?_; rw [HKd.out]; rintro e w22 ⟨v, rfl, hown, hb⟩; obtain ⟨CK, kK, rfl, hs⟩ := Sl.own hown; replace HB := Lib.hid (HB.out.andThen hb); replace HR := Lib.hid (HR.out.keep hb); replace HSG := Lib.hid (HSG.out.keep hb); replace HSH := Lib.hid (HSH.out.keep hb); replace HSJ := Lib.hid (HSJ.out.keep hb); have HSK := Lib.hid hs; have HCK := Lib.hid (own_cap hown); have HShK := Lib.hid (own_shape hown); clear hown hs hb; have T23 := Lib.hid True.intro)
    | (clear T23; go_at_call 13; refine (Compare_any T T CH CK _ _ kH kK w22 rfl rfl HSH.out HSK.out (by omega)).mono ?_; rw [C4.out]; rintro e w23 ⟨rfl, rfl⟩; have T24 := Lib.hid True.intro)
    | fail)
  go_ret
  exact ⟨ret_bool (by simp), HB.out⟩

theorem SetsRules_walk (A0 : Option Addr) (n0 c0 : Nat) (l0 : List Int) (A1 : Option Addr) (n1 c1 : Nat) (l1 : List Int) (A2 : Option Addr) (n2 c2 : Nat) (l2 : List Int) (z : Int) (w : World)
    (h0 : n0 ≤ 60) (e0 : l0.length = n0) (s0 : Sl w 1 A0 n0 (l0.map (Value.int .i64))) (h1 : n1 ≤ 60) (e1 : l1.length = n1) (s1 : Sl w 1 A1 n1 (l1.map (Value.int .i64))) (h2 : n2 ≤ 60) (e2 : l2.length = n2) (s2 : Sl w 1 A2 n2 (l2.map (Value.int .i64))) :
    Calls Try.prog 7 #[.slice A0 n0 c0, .slice A1 n1 c1, .slice A2 n2 c2, .int .i64 z] w fun e w' => e = .returned (.bool true) ∧ Below w.heap.size w w' := by
  by_cases hp1 : ∀ y ∈ setL l0, y ∈ setL l1
  · by_cases hp2 : ∀ y ∈ setL l1, y ∈ setL l2
    · by_cases hp3 : ∀ y ∈ setL l1, y ∈ setL l0
      · exact SetsRules_ytt A0 n0 c0 l0 A1 n1 c1 l1 A2 n2 c2 l2 z w h0 e0 s0 h1 e1 s1 h2 e2 s2 hp1 hp2 hp3
      · exact SetsRules_ytf A0 n0 c0 l0 A1 n1 c1 l1 A2 n2 c2 l2 z w h0 e0 s0 h1 e1 s1 h2 e2 s2 hp1 hp2 hp3
    · by_cases hp3 : ∀ y ∈ setL l1, y ∈ setL l0
      · exact SetsRules_yft A0 n0 c0 l0 A1 n1 c1 l1 A2 n2 c2 l2 z w h0 e0 s0 h1 e1 s1 h2 e2 s2 hp1 hp2 hp3
      · exact SetsRules_yff A0 n0 c0 l0 A1 n1 c1 l1 A2 n2 c2 l2 z w h0 e0 s0 h1 e1 s1 h2 e2 s2 hp1 hp2 hp3
  · exact SetsRules_n A0 n0 c0 l0 A1 n1 c1 l1 A2 n2 c2 l2 z w h0 e0 s0 h1 e1 s1 h2 e2 s2 hp1

theorem SetsRules_main (A0 : Option Addr) (n0 c0 : Nat) (l0 : List Int) (A1 : Option Addr) (n1 c1 : Nat) (l1 : List Int) (A2 : Option Addr) (n2 c2 : Nat) (l2 : List Int) (a3 : Int) (w : World)
    (m0 : n0 ≤ maxLen) (e0 : l0.length = n0) (s0 : Sl w 1 A0 n0 (l0.map (Value.int .i64))) (w0 : ∀ x ∈ l0, (Lit.int .i64 x).wf = true)
    (m1 : n1 ≤ maxLen) (e1 : l1.length = n1) (s1 : Sl w 1 A1 n1 (l1.map (Value.int .i64))) (w1 : ∀ x ∈ l1, (Lit.int .i64 x).wf = true)
    (m2 : n2 ≤ maxLen) (e2 : l2.length = n2) (s2 : Sl w 1 A2 n2 (l2.map (Value.int .i64))) (w2 : ∀ x ∈ l2, (Lit.int .i64 x).wf = true) (w3 : (Lit.int .i64 a3).wf = true) :
    Calls Try.prog 7 #[.slice A0 n0 c0, .slice A1 n1 c1, .slice A2 n2 c2, .int .i64 a3] w fun e w' => e = .returned (.bool true) ∧ Below w.heap.size w w' := by
  have big : ∀ (hz : 60 < n0 ∨ (¬ 60 < n0 ∧ 60 < n1) ∨ (¬ 60 < n0 ∧ ¬ 60 < n1 ∧ 60 < n2)), Calls Try.prog 7 #[.slice A0 n0 c0, .slice A1 n1 c1, .slice A2 n2 c2, .int .i64 a3] w fun e w' => e = .returned (.bool true) ∧ Below w.heap.size w w' := by
    intro hz
    have HA := Lib.hid (alive06 w)
    clear s0 s1 s2 w0 w1 w2 e0 e1 e2
    rcases hz with h | ⟨ha, h⟩ | ⟨ha, hb, h⟩
    · have h' : (60 : Int) < (n0 : Int) := by omega
      go_enter Try.func7, Try.ntmps7
      go_wp2_with fail
      refine HA.out.mono ?_
      rintro e w1 ⟨rfl, hb1⟩
      go_wp2_with fail
      go_ret
      exact ⟨rfl, hb1⟩
    · have ha' : ¬ (60 : Int) < (n0 : Int) := by omega
      have h' : (60 : Int) < (n1 : Int) := by omega
      go_enter Try.func7, Try.ntmps7
      go_wp2_with fail
      refine HA.out.mono ?_
      rintro e w1 ⟨rfl, hb1⟩
      go_wp2_with fail
      go_ret
      exact ⟨rfl, hb1⟩
    · have ha' : ¬ (60 : Int) < (n0 : Int) := by omega
      have hb' : ¬ (60 : Int) < (n1 : Int) := by omega
      have h' : (60 : Int) < (n2 : Int) := by omega
      go_enter Try.func7, Try.ntmps7
      go_wp2_with fail
      refine HA.out.mono ?_
      rintro e w1 ⟨rfl, hb1⟩
      go_wp2_with fail
      go_ret
      exact ⟨rfl, hb1⟩
  by_cases h0 : n0 ≤ 60
  · by_cases h1 : n1 ≤ 60
    · by_cases h2 : n2 ≤ 60
      · exact SetsRules_walk A0 n0 c0 l0 A1 n1 c1 l1 A2 n2 c2 l2 a3 w h0 e0 s0 h1 e1 s1 h2 e2 s2
      · exact big (.inr (.inr ⟨by omega, by omega, by omega⟩))
    · exact big (.inr (.inl ⟨by omega, by omega⟩))
  · exact big (.inl (by omega))
end Go.Proofs.Ytakkdpnaoahpcaa
