/-
  SetsTwo: the law's walk.
-/
import Derived.Test.YtakkdpnaoahpcaaLaw06
import Derived.Test.YtakkdpnaoahpcaaSetsE
namespace Go.Proofs.Ytakkdpnaoahpcaa
open Go.RowKit
set_option maxRecDepth 100000
set_option linter.unusedVariables false

section
variable {P : Program} {ops : Array Oper} {rest : List Oper} {o : Oper} {a : Act} {Q : Exit → Act → World → Prop}
/-- append(s, x...) behind a guard that lets it. -/
theorem wpList_cat_w {t e : TypeId} {z : Value} {size bytes : Nat} (E : Elem P t e z size bytes) {B : Nat} {W : World} (s x : Operand)
    (hw : Region.wanted o (yielded ops a.tmps) = true) (ho : o.op = .call { callee := .builtin .append, args := #[s, x], argTypes := #[t, t] })
    {v : Value} {n : Nat} {xs : List Value} (hown : W.ownsRow B e size v n xs) (hB : B ≤ W.heap.size)
    {A : Option Addr} {m c : Nat} {ys : List Value} (hy : Sl W size A m ys)
    (hs : a.eval s = v) (hx : a.eval x = .slice A m c) (h1 : ∀ u ∈ ys, u.oneCell' = true)
    (hlim : (n + m) * bytes ≤ lim) (hlim' : n + m ≤ lim)
    (h : ∀ v' w', w'.ownsRow B e size v' (n + m) (xs ++ ys) → Gr W w' v v' → wpList P ops Q rest (a.put o.dst v') w') : wpList P ops Q (o :: rest) a W := by
  obtain ⟨v', w', hr, h2, h3⟩ := run_cat_at (P := P) (ty := o.type) (c := c) E hown hB hy h1 hlim hlim'
  refine wpList_step fun K hK => ?_
  rw [if_pos hw]
  unfold Oper.wp execOp
  simp only [ho, resolve, invoke, builtin, Sem.run_bind, Sem.run_pure, Result.andThen_ok, List.map_toArray, List.map_cons, List.map_nil, hs, hx, hr]
  exact hK _ _ (h v' w' h2 h3)
/-- An operation that is wanted. -/
theorem wpList_take {W : World} (hw : Region.wanted o (yielded ops a.tmps) = true) (h : ∀ K : Act → World → Prop, (∀ a w, wpList P ops Q rest a w → K a w) → o.wp P a W K Q) : wpList P ops Q (o :: rest) a W :=
  wpList_step fun K hK => by rw [if_pos hw]; exact h K hK
end

theorem own_shape {w : World} {B n c : Nat} {e : TypeId} {A : Option Addr} {xs : List Value} (h : w.ownsRow B e 1 (.slice A n c) n xs) : (A = none ∧ c = 0) ∨ ∃ b off, A = some (⟨b, off, none⟩ : Addr) := by
  rcases h.2 with ⟨h1, _⟩ | ⟨g, cap, cur, hv, _⟩
  · cases h1; exact .inl ⟨rfl, rfl⟩
  · cases hv; exact .inr ⟨_, _, rfl⟩

/-- What lies ready in SetsTwo. -/
def Six (A0 : Option Addr) (n0 : Nat) (l0 : List Int) (A1 : Option Addr) (n1 : Nat) (l1 : List Int) (CX : Option Addr) (X : List Int) (CY : Option Addr) (Y : List Int) (CW : Option Addr) (W : World) : Prop :=
  Sl W 1 A0 n0 (l0.map (Value.int .i64)) ∧ Sl W 1 A1 n1 (l1.map (Value.int .i64)) ∧ Sl W 1 CX X.length (X.map (Value.int .i64)) ∧ Sl W 1 CY Y.length (Y.map (Value.int .i64)) ∧ Sl W 1 CW X.length (X.map (Value.int .i64))
theorem Six.keep {A0 : Option Addr} {n0 : Nat} {l0 : List Int} {A1 : Option Addr} {n1 : Nat} {l1 : List Int} {CX : Option Addr} {X : List Int} {CY : Option Addr} {Y : List Int} {CW : Option Addr} {W W' : World}
    (h : Six A0 n0 l0 A1 n1 l1 CX X CY Y CW W) (hb : Below W.heap.size W W') : Six A0 n0 l0 A1 n1 l1 CX X CY Y CW W' := ⟨h.1.keep hb, h.2.1.keep hb, h.2.2.1.keep hb, h.2.2.2.1.keep hb, h.2.2.2.2.keep hb⟩

theorem those_less (X : List Int) (x : Int) : (X.filter fun y => decide (y ∈ [x]) == false) = X.filter fun y => y != x := by
  congr 1
  funext y
  by_cases h : y = x
  · subst h; simp
  · simp [h]
theorem those_both (X Y : List Int) : (X.filter fun y => decide (y ∈ Y) == true) = X.filter fun y => decide (y ∈ Y) := by
  congr 1
  funext y
  simp
theorem those_but (X Y : List Int) : (X.filter fun y => decide (y ∈ Y) == false) = X.filter fun y => !decide (y ∈ Y) := by
  congr 1
  funext y
  simp
theorem within_both (X Y : List Int) : (((X.filter fun y => decide (y ∈ Y)).length : Int) == (X.length : Int)) = decide (∀ y ∈ X, y ∈ Y) := by
  by_cases h : ∀ y ∈ X, y ∈ Y
  · rw [decide_eq_true h, List.filter_eq_self.2 (fun y hy => by simp [h y hy])]; simp
  · rw [decide_eq_false h, beq_eq_false_iff_ne]
    intro h0
    refine h fun y hy => ?_
    have h1 : (X.filter fun y => decide (y ∈ Y)).length = X.length := by omega
    have := List.length_filter_eq_length_iff.1 h1 y hy
    simpa using this

set_option maxHeartbeats 16000000 in
theorem SetsTwo_walk (A0 : Option Addr) (n0 c0 : Nat) (l0 : List Int) (A1 : Option Addr) (n1 c1 : Nat) (l1 : List Int) (z : Int) (w : World)
    (h0 : n0 ≤ 60) (e0 : l0.length = n0) (s0 : Sl w 1 A0 n0 (l0.map (Value.int .i64))) (h1 : n1 ≤ 60) (e1 : l1.length = n1) (s1 : Sl w 1 A1 n1 (l1.map (Value.int .i64))) :
    Calls Try.prog 4 #[.slice A0 n0 c0, .slice A1 n1 c1, .int .i64 z] w fun e w' => e = .returned (.bool true) ∧ Below w.heap.size w w' := by
  have HA := Lib.hid (alive06 w)
  have S0 := Lib.hid s0
  have S1 := Lib.hid s1
  have E0 := Lib.hid e0
  have E1 := Lib.hid e1
  clear s0 s1 e0 e1
  have h0' : ¬ (60 : Int) < (n0 : Int) := by omega
  have h1' : ¬ (60 : Int) < (n1 : Int) := by omega
  have hl0 := setL_le l0
  have hl1 := setL_le l1
  rw [E0.out] at hl0
  rw [E1.out] at hl1
  have HUn := Lib.hid (show setL (setL l0 ++ setL l1) = setL (l0 ++ l1) from setL_same fun y => by rw [List.mem_append, List.mem_append, setL_mem, setL_mem])
  have HMem := Lib.hid (show decide (z ∈ setL l0) = decide (z ∈ l0) from by rw [decide_eq_decide]; exact setL_mem l0 z)
  have HX := Lib.hid (setL_inc l0)
  have HY := Lib.hid (setL_inc l1)
  have HOa := Lib.hid (fun W (hb : Below w.heap.size w W) => Of_any l0 A0 n0 c0 W E0.out (by omega) (S0.out.keep hb) (fun h => sl_lt (S0.out.keep hb) h))
  have HOb := Lib.hid (fun W (hb : Below w.heap.size w W) => Of_any l1 A1 n1 c1 W E1.out (by omega) (S1.out.keep hb) (fun h => sl_lt (S1.out.keep hb) h))
  generalize setL l0 = X at *
  generalize setL l1 = Y at *
  go_enter Try.func4, Try.ntmps4
  go_wp2_with fail
  refine HA.out.mono ?_
  rintro e w1 ⟨rfl, hb1⟩
  have HB1 := Lib.hid hb1
  clear hb1 HA
  go_wp2_with (first
    | (go_at_call_of 9 (Value.slice A0 n0 c0); refine (HOa.out w1 HB1.out).mono ?_; clear HOa; rintro e w2 ⟨vX, rfl, hown, hb2⟩; obtain ⟨CX, kX, rfl, hsx⟩ := Sl.own hown; have HSX := Lib.hid hsx; have HCX := Lib.hid (own_cap hown); have HShX := Lib.hid (own_shape hown); have HB2 := Lib.hid (HB1.out.andThen hb2); clear hown hsx hb2)
    | (go_at_call 9; refine (HOb.out w2 HB2.out).mono ?_; clear HOb; rintro e w3 ⟨vY, rfl, hown, hb3⟩; obtain ⟨CY, kY, rfl, hsy⟩ := Sl.own hown; have HSY := Lib.hid hsy; have HCY := Lib.hid (own_cap hown); have HB3 := Lib.hid (HB2.out.andThen hb3); have HSX3 := Lib.hid (HSX.out.keep hb3); clear hown hsy hb3)
    | (at_builtin; refine wpList_cat_at elemInt _ _ rfl rfl (World.ownsRow_made (e := 3) (size := 1) w3 #[] 0 (Nat.le_refl _) (Nat.zero_le _) rfl) (by simp) (HSX3.out.alloc _) rfl rfl (one_i64 _) (by unfold lim; omega) (by unfold lim; omega) ?_; intro v9 w4 hown9 hg9; have hb4 := (bel_al (Below.refl w3.heap.size w3) (.cells #[] 3)).trans (hg9.belowOwn (by simp) (World.ownsRow_made (e := 3) (size := 1) w3 #[] 0 (Nat.le_refl _) (Nat.zero_le _) rfl)); have HB4 := Lib.hid (HB3.out.andThen hb4); rw [List.nil_append, Nat.zero_add] at hown9; obtain ⟨CW, kW, rfl, hsw⟩ := Sl.own hown9; have HSix := Lib.hid (show Six A0 n0 l0 A1 n1 l1 CX X CY Y CW w4 from ⟨S0.out.keep HB4.out, S1.out.keep HB4.out, HSX3.out.keep hb4, HSY.out.keep hb4, hsw⟩); clear hown9 hg9 hb4 hsw HSX HSX3 HSY)
    | (go_at_call_of 15 (Value.slice CX X.length kX); refine (Those_any X Y true CX CY _ kX _ kY w4 rfl (by omega) HSix.out.2.2.1 rfl (by omega) HSix.out.2.2.2.1).mono ?_; rw [those_both]; rintro e w5 ⟨v5, rfl, hown, hb5⟩; obtain ⟨CB, kB, rfl, hsb⟩ := Sl.own hown; have HSB := Lib.hid hsb; have HB5 := Lib.hid (HB4.out.andThen hb5); have HSix5 := Lib.hid (HSix.out.keep hb5); clear hown hsb hb5 HSix)
    | (go_at_call 16; refine (HasS_any X z CX _ kX w5 rfl (by omega) HX.out HSix5.out.2.2.1).mono ?_; rw [HMem.out]; rintro e w6 ⟨rfl, hb6⟩; have HB6 := Lib.hid (HB5.out.andThen hb6); have HS6 := Lib.hid (HSix5.out.keep hb6); have HSB6 := Lib.hid (HSB.out.keep hb6); clear hb6 HSix5 HSB)
    | (go_at_call 17; refine (Has_any l0 z A0 n0 c0 w6 (by omega) E0.out HS6.out.1).mono ?_; rintro e w7 ⟨rfl, rfl⟩)
    | (go_at_call 18; refine (AddS_any X z CX _ kX w6 rfl (by omega) HCX.out HShX.out HX.out HS6.out.2.2.1).mono ?_; rintro e w7 ⟨v7, rfl, hown, hb7⟩; obtain ⟨CU1, kU1, rfl, hs7⟩ := Sl.own hown; have HU1 := Lib.hid hs7; have HB7 := Lib.hid (HB6.out.andThen hb7); have HS7 := Lib.hid (HS6.out.keep hb7); have HSB7 := Lib.hid (HSB6.out.keep hb7); clear hown hs7 hb7 HS6 HSB6)
    | (go_at_call 19; refine (Add_any X z CX _ kX w7 (by omega) HCX.out.1 HCX.out.2 rfl HS7.out.2.2.1).mono ?_; rintro e w8 ⟨CU2, kU2, rfl, _, _, hs8, hb8⟩; have HU2 := Lib.hid hs8; have HU1b := Lib.hid (HU1.out.keep hb8); have HB8 := Lib.hid (HB7.out.andThen hb8); have HS8 := Lib.hid (HS7.out.keep hb8); have HSB8 := Lib.hid (HSB7.out.keep hb8); clear hs8 hb8 HU1 HS7 HSB7)
    | (go_at_call 10; refine (SameInts_same (addL X z) CU1 CU2 _ _ _ w8 rfl HU1b.out HU2.out (by have := addL_len X z; omega)).mono ?_; rintro e w9 ⟨rfl, hb9⟩; have HB9 := Lib.hid (HB8.out.andThen hb9); have HS9 := Lib.hid (HS8.out.keep hb9); have HSB9 := Lib.hid (HSB8.out.keep hb9); clear hb9 HS8 HSB8 HU1b HU2)
    | (go_at_call 20; refine (Less_any X z CX _ kX w9 rfl (by omega) HS9.out.2.2.1).mono ?_; rintro e w10 ⟨v10, rfl, hown, hb10⟩; obtain ⟨CL1, kL1, rfl, hs10⟩ := Sl.own hown; have HL1 := Lib.hid hs10; have HB10 := Lib.hid (HB9.out.andThen hb10); have HS10 := Lib.hid (HS9.out.keep hb10); have HSB10 := Lib.hid (HSB9.out.keep hb10); clear hown hs10 hb10 HS9 HSB9)
    | (go_at_call 15; refine (Those_any X [z] false CX (some ⟨w10.heap.size, 0, none⟩) _ kX _ 1 _ rfl (by omega) (HS10.out.2.2.1.alloc _) rfl (by simp) (Sl.newAt w10 [.int .i64 z] _ 1 rfl)).mono ?_; rw [those_less]; rintro e w11 ⟨v11, rfl, hown, hb⟩; have hb11 := (bel_al (Below.refl w10.heap.size w10) (.cells #[.int .i64 z] 3)).andThen hb; obtain ⟨CL2, kL2, rfl, hs11⟩ := Sl.own hown; have HL2 := Lib.hid hs11; have HL1b := Lib.hid (HL1.out.keep hb11); have HB11 := Lib.hid (HB10.out.andThen hb11); have HS11 := Lib.hid (HS10.out.keep hb11); have HSB11 := Lib.hid (HSB10.out.keep hb11); clear hown hs11 hb hb11 HL1 HS10 HSB10)
    | (go_at_call 10; refine (SameInts_same (X.filter fun y => y != z) CL1 CL2 _ _ _ w11 rfl HL1b.out HL2.out (by have := List.length_filter_le (fun y => y != z) X; omega)).mono ?_; rintro e w12 ⟨rfl, hb12⟩; have HB12 := Lib.hid (HB11.out.andThen hb12); have HS12 := Lib.hid (HS11.out.keep hb12); have HSB12 := Lib.hid (HSB11.out.keep hb12); clear hb12 HS11 HSB11 HL1b HL2)
    | (go_at_call 21; refine (Union_any X Y CX CY _ kX _ kY w12 rfl (by omega) HCX.out HS12.out.2.2.1 rfl (by omega) HCY.out HS12.out.2.2.2.1).mono ?_; rw [HUn.out]; rintro e w13 ⟨v13, rfl, hown, hb13⟩; obtain ⟨CN1, kN1, rfl, hs13⟩ := Sl.own hown; have HN1 := Lib.hid hs13; have HB13 := Lib.hid (HB12.out.andThen hb13); have HS13 := Lib.hid (HS12.out.keep hb13); have HSB13 := Lib.hid (HSB12.out.keep hb13); clear hown hs13 hb13 HS12 HSB12; refine ?roundEnd)
    | fail)
  simp only []
  rename_i XK hXK
  refine hXK _ _ ?_
  clear hXK XK
  refine wpList_take (by first | rfl | simp [Region.wanted, yielded]) fun K hK => ?_
  go_simp
  refine hK _ _ ?_
  clear K hK
  refine wpList_take (by first | rfl | simp [Region.wanted, yielded]) fun K hK => ?_
  go_simp
  refine hK _ _ ?_
  clear K hK
  (refine wpList_cat_w elemInt _ _ rfl rfl (World.ownsRow_made (e := 3) (size := 1) w13 #[] 0 (Nat.le_refl _) (Nat.zero_le _) rfl) (by simp) (HS13.out.1.alloc _) rfl rfl (one_i64 _) (by unfold lim; omega) (by unfold lim; omega) ?_; intro v14 w14 hown14 hg14; have hb14 := (bel_al (Below.refl w13.heap.size w13) (.cells #[] 3)).trans (hg14.belowOwn (by simp) (World.ownsRow_made (e := 3) (size := 1) w13 #[] 0 (Nat.le_refl _) (Nat.zero_le _) rfl)); have HS1b := Lib.hid (HS13.out.2.1.keep hb14); have HO14 := Lib.hid hown14; have HB14 := Lib.hid hb14; clear hown14 hg14 hb14)
  refine wpList_take (by first | rfl | simp [Region.wanted, yielded]) fun K hK => ?_
  go_simp
  refine hK _ _ ?_
  clear K hK
  (refine wpList_cat_w elemInt _ _ rfl rfl HO14.out HB14.out.size HS1b.out rfl rfl (one_i64 _) (by unfold lim; omega) (by unfold lim; omega) ?_; intro v15 w15 hown15 hg15; have hb15 := HB14.out.trans (hg15.belowOwn HB14.out.size HO14.out); rw [List.nil_append, Nat.zero_add, ← List.map_append] at hown15; obtain ⟨CT, kT, rfl, hs15⟩ := Sl.own hown15; have HT := Lib.hid hs15; have HN1b := Lib.hid (HN1.out.keep hb15); have HB15 := Lib.hid (HB13.out.andThen hb15); have HS15 := Lib.hid (HS13.out.keep hb15); have HSB15 := Lib.hid (HSB13.out.keep hb15); clear hown15 hg15 hb15 hs15 HO14 HB14 HS1b HN1 HS13 HSB13)
  simp only [List.append_eq, List.nil_append, List.cons_append, Act.put]
  refine ?going
  go_wp2_with (first
    | (go_at_call 11; refine (SetOf_any (l0 ++ l1) CT (n0 + n1) kT w15 (by omega) (by rw [List.length_append, E0.out, E1.out]) HT.out).mono ?_; rintro e w16 ⟨CN2, kN2, rfl, _, _, hs16, hb16⟩; have HN2 := Lib.hid hs16; have HN1c := Lib.hid (HN1b.out.keep hb16); have HB16 := Lib.hid (HB15.out.andThen hb16); have HS16 := Lib.hid (HS15.out.keep hb16); have HSB16 := Lib.hid (HSB15.out.keep hb16); clear hs16 hb16 HN1b HS15 HSB15)
    | (go_at_call 10; refine (SameInts_same (setL (l0 ++ l1)) CN1 CN2 _ _ _ w16 rfl HN1c.out HN2.out (by have := setL_le (l0 ++ l1); rw [List.length_append, E0.out, E1.out] at this; omega)).mono ?_; rintro e w17 ⟨rfl, hb17⟩; have HB17 := Lib.hid (HB16.out.andThen hb17); have HS17 := Lib.hid (HS16.out.keep hb17); have HSB17 := Lib.hid (HSB16.out.keep hb17); clear hb17 HS16 HSB16 HN1c HN2)
    | (go_at_call 22; refine (Both_any X Y CX CY _ kX _ kY w17 rfl (by omega) HS17.out.2.2.1 rfl (by omega) HY.out HS17.out.2.2.2.1).mono ?_; rintro e w18 ⟨v18, rfl, hown, hb18⟩; obtain ⟨CB1, kB1, rfl, hs18⟩ := Sl.own hown; have HB1 := Lib.hid hs18; have HB18 := Lib.hid (HB17.out.andThen hb18); have HS18 := Lib.hid (HS17.out.keep hb18); have HSB18 := Lib.hid (HSB17.out.keep hb18); clear hown hs18 hb18 HS17 HSB17)
    | (go_at_call 10; refine (SameInts_same (X.filter fun y => decide (y ∈ Y)) CB1 CB _ _ _ w18 rfl HB1.out HSB18.out (by have := List.length_filter_le (fun y => decide (y ∈ Y)) X; omega)).mono ?_; rintro e w19 ⟨rfl, hb19⟩; have HB19 := Lib.hid (HB18.out.andThen hb19); have HS19 := Lib.hid (HS18.out.keep hb19); have HSB19 := Lib.hid (HSB18.out.keep hb19); clear hb19 HS18 HSB18 HB1)
    | (go_at_call 23; refine (But_any X Y CX CY _ kX _ kY w19 rfl (by omega) HS19.out.2.2.1 rfl (by omega) HY.out HS19.out.2.2.2.1).mono ?_; rintro e w20 ⟨v20, rfl, hown, hb20⟩; obtain ⟨CD1, kD1, rfl, hs20⟩ := Sl.own hown; have HD1 := Lib.hid hs20; have HB20 := Lib.hid (HB19.out.andThen hb20); have HS20 := Lib.hid (HS19.out.keep hb20); have HSB20 := Lib.hid (HSB19.out.keep hb20); clear hown hs20 hb20 HS19 HSB19)
    | (go_at_call 15; refine (Those_any X Y false CX CY _ kX _ kY w20 rfl (by omega) HS20.out.2.2.1 rfl (by omega) HS20.out.2.2.2.1).mono ?_; rw [those_but]; rintro e w21 ⟨v21, rfl, hown, hb21⟩; obtain ⟨CD2, kD2, rfl, hs21⟩ := Sl.own hown; have HD2 := Lib.hid hs21; have HD1b := Lib.hid (HD1.out.keep hb21); have HB21 := Lib.hid (HB20.out.andThen hb21); have HS21 := Lib.hid (HS20.out.keep hb21); have HSB21 := Lib.hid (HSB20.out.keep hb21); clear hown hs21 hb21 HD1 HS20 HSB20)
    | (go_at_call 10; refine (SameInts_same (X.filter fun y => !decide (y ∈ Y)) CD1 CD2 _ _ _ w21 rfl HD1b.out HD2.out (by have := List.length_filter_le (fun y => !decide (y ∈ Y)) X; omega)).mono ?_; rintro e w22 ⟨rfl, hb22⟩; have HB22 := Lib.hid (HB21.out.andThen hb22); have HS22 := Lib.hid (HS21.out.keep hb22); have HSB22 := Lib.hid (HSB21.out.keep hb22); clear hb22 HS21 HSB21 HD1b HD2)
    | (go_at_call 24; refine (Within_any X Y CX CY _ kX _ kY w22 rfl (by omega) HS22.out.2.2.1 rfl (by omega) HY.out HS22.out.2.2.2.1).mono ?_; rintro e w23 ⟨rfl, hb23⟩; have HB23 := Lib.hid (HB22.out.andThen hb23); have HS23 := Lib.hid (HS22.out.keep hb23); have HSB23 := Lib.hid (HSB22.out.keep hb23); have hwi := within_both X Y; clear hb23 HS22 HSB22)
    | (go_at_call 10; refine (SameInts_same X CX CW _ _ _ w23 rfl HS23.out.2.2.1 HS23.out.2.2.2.2 (by omega)).mono ?_; rintro e w24 ⟨rfl, hb24⟩; have HB24 := Lib.hid (HB23.out.andThen hb24); clear hb24)
    | fail)
  go_ret
  exact ⟨ret_bool (by simp), HB24.out⟩

theorem SetsTwo_main (A0 : Option Addr) (n0 c0 : Nat) (l0 : List Int) (A1 : Option Addr) (n1 c1 : Nat) (l1 : List Int) (a2 : Int) (w : World)
    (m0 : n0 ≤ maxLen) (e0 : l0.length = n0) (s0 : Sl w 1 A0 n0 (l0.map (Value.int .i64))) (w0 : ∀ x ∈ l0, (Lit.int .i64 x).wf = true)
    (m1 : n1 ≤ maxLen) (e1 : l1.length = n1) (s1 : Sl w 1 A1 n1 (l1.map (Value.int .i64))) (w1 : ∀ x ∈ l1, (Lit.int .i64 x).wf = true) (w2 : (Lit.int .i64 a2).wf = true) :
    Calls Try.prog 4 #[.slice A0 n0 c0, .slice A1 n1 c1, .int .i64 a2] w fun e w' => e = .returned (.bool true) ∧ Below w.heap.size w w' := by
  by_cases h0 : n0 ≤ 60
  · by_cases h1 : n1 ≤ 60
    · exact SetsTwo_walk A0 n0 c0 l0 A1 n1 c1 l1 a2 w h0 e0 s0 h1 e1 s1
    · have HA := Lib.hid (alive06 w)
      have h0' : ¬ (60 : Int) < (n0 : Int) := by omega
      have h1' : (60 : Int) < (n1 : Int) := by omega
      clear s0 s1 w0 w1 e0 e1
      go_enter Try.func4, Try.ntmps4
      go_wp2_with fail
      refine HA.out.mono ?_
      rintro e w1 ⟨rfl, hb1⟩
      go_wp2_with fail
      go_ret
      exact ⟨rfl, hb1⟩
  · have HA := Lib.hid (alive06 w)
    have h0' : (60 : Int) < (n0 : Int) := by omega
    clear s0 s1 w0 w1 e0 e1
    go_enter Try.func4, Try.ntmps4
    go_wp2_with fail
    refine HA.out.mono ?_
    rintro e w1 ⟨rfl, hb1⟩
    go_wp2_with fail
    go_ret
    exact ⟨rfl, hb1⟩
end Go.Proofs.Ytakkdpnaoahpcaa
