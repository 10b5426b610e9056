/-
  The walk of WireParcels.
-/
import Derived.Test.YtclbbchljiagpaaDoorWireD
namespace Go.Proofs.YtclbbchljiagpaaDoor
open Go.RowKit
set_option maxRecDepth 100000
set_option linter.unusedVariables false

theorem wordN_takes {l : List Int} {j : Nat} (hj : 4 ≤ j) (hl : 4 ≤ l.length) : wordN (l.take j) = wordN l := by
  rw [← wordN_take (l := l.take j) (by rw [List.length_take]; omega), List.take_take, Nat.min_eq_left hj, wordN_take hl]
theorem pack_word (kd : Int) (l : List Int) (h : l.length < 4294967296) : wordN ((packL kd l).drop 5) = l.length := by rw [(packL_parts kd l).2.1, wordN_of h]
/-- Cut. -/
theorem unW_cut {kd : Int} {l : List Int} {m : Nat} (hk : 0 ≤ kd ∧ kd ≤ 255) (hb : Bys l) (hl : l.length < 4294967296) (hm : m < l.length + 13) : unW ((packL kd l).take m) ≠ 0 := by
  intro h
  obtain ⟨kd', b', e, hlen, _⟩ := unW_ok ((packL_bys hk hb).take m) h
  have hl1 := congrArg List.length e
  rw [List.length_take, packL_len, packL_len, Nat.min_eq_left (by omega)] at hl1
  rw [List.drop_take, wordN_takes (by omega) (by rw [List.length_drop, packL_len]; omega), pack_word kd l hl] at hlen
  omega
/-- A byte more. -/
theorem unE_more (kd by_ : Int) (l : List Int) (h : l.length < 4294967296) : unE (packL kd l ++ [by_]) = .flt 2 0 txtParcel := by
  have hp := packL_len kd l
  have h4 : (packL kd l ++ [by_]).take 4 = fwrk := by rw [List.take_append_of_le_length (by omega), (packL_parts kd l).1]
  have h5 : wordN ((packL kd l ++ [by_]).drop 5) = l.length := by
    rw [List.drop_append_of_le_length (by omega), (packL_parts kd l).2.1, List.append_assoc, wordN_of h]
  have h6 : unW (packL kd l ++ [by_]) = 4 := by
    have hlen : (packL kd l ++ [by_]).length = l.length + 14 := by rw [List.length_append, hp]; rfl
    unfold unW
    rw [h4, h5, hlen, if_neg (by simp), if_neg (by omega), if_neg (by omega), if_pos (by omega)]
  rw [unE, h6]; rfl
/-- A byte turned. -/
theorem unW_flip {kd x : Int} {l : List Int} {m : Nat} (hk : 0 ≤ kd ∧ kd ≤ 255) (hb : Bys l) (hl : l.length < 4294967296) (hm : m < (packL kd l).length) (hx : 0 ≤ x ∧ x ≤ 255) (hne : x ≠ (packL kd l)[m]) : unW ((packL kd l).set m x) ≠ 0 := by
  intro h
  have hbs := (packL_bys hk hb).set m hx.1 hx.2
  obtain ⟨kd', b', e, _⟩ := unW_ok hbs h
  have hl1 := congrArg List.length e
  rw [List.length_set, packL_len, packL_len] at hl1
  have hln : b'.length = l.length := by omega
  have p1 := packL_parts kd l
  have p2 := packL_parts kd' b'
  rw [hln, ← e] at p2
  by_cases hm9 : m < 9 + l.length
  · have e1 := p2.2.2.2.1
    rw [List.drop_set_of_lt hm9, p1.2.2.2.1] at e1
    have e2 := congrArg wordN e1
    have s1 := wordN_of (sumL_lt (preL kd l)) []
    have s2 := wordN_of (sumL_lt (preL kd' b')) []
    rw [List.append_nil] at s1 s2
    rw [s1, s2] at e2
    have e3 := p2.2.2.1
    rw [List.take_set, p1.2.2.1] at e3
    have hml : m < (preL kd l).length := by rw [preL_len]; omega
    have hpm : (preL kd l)[m] = (packL kd l)[m] := by
      have : (packL kd l)[m]? = (preL kd l)[m]? := by rw [← p1.2.2.1, List.getElem?_take, if_pos hm9]
      rw [List.getElem?_eq_getElem hm, List.getElem?_eq_getElem hml] at this
      exact (Option.some.inj this).symm
    have d1 : preL kd l = (preL kd l).take m ++ (preL kd l)[m] :: (preL kd l).drop (m + 1) := by
      rw [← List.drop_eq_getElem_cons hml, List.take_append_drop]
    have d2 : (preL kd l).set m x = (preL kd l).take m ++ x :: (preL kd l).drop (m + 1) := List.set_eq_take_append_cons_drop .. |>.trans (if_pos hml)
    rw [← e3, d2] at e2
    have hy := preL_bys hk hb _ (List.getElem_mem hml)
    refine sumL_turn ((preL kd l).take m) ((preL kd l).drop (m + 1)) (preL kd l)[m] x hy hx (fun h => hne (by rw [← h, hpm])) ?_
    rw [← d1]
    exact e2
  · have e3 := p2.2.2.1
    rw [List.take_set_of_le (by omega), p1.2.2.1] at e3
    have e4 : (packL kd l).set m x = packL kd l := by rw [e, packL, packL, e3]
    have := congrArg (fun q => q[m]?) e4
    simp only [List.getElem?_set_self hm, List.getElem?_eq_getElem hm] at this
    exact hne (Option.some.inj this)
theorem pack_of {l : List Int} (hb : Bys l) (h : unW l = 0) : packL (unK l) (unB l) = l ∧ 0 ≤ unK l ∧ unK l ≤ 255 ∧ Bys (unB l) := by
  obtain ⟨kd, b, e, h1, h2, h3, h4, h5, h6⟩ := unW_ok hb h
  have hK : unK l = kd := by rw [unK, if_pos h, List.getD_eq_getElem?_getD, h2]; rfl
  have hB : unB l = b := by rw [unB, if_pos h, ← h1, h3]
  rw [hK, hB]
  exact ⟨e.symm, h4, h5, h6⟩
theorem unB_le (l : List Int) : (unB l).length ≤ l.length := by
  unfold unB
  split
  · rw [List.length_take, List.length_drop]; omega
  · exact Nat.zero_le _

theorem xor_u8 (a b : Int) (ha : 0 ≤ a ∧ a ≤ 255) (hb : 0 ≤ b ∧ b ≤ 255) (hne : b ≠ 0) : (0 ≤ bits .xor .u8 a b ∧ bits .xor .u8 a b ≤ 255) ∧ bits .xor .u8 a b ≠ a := by
  obtain ⟨a, rfl⟩ := Int.eq_ofNat_of_zero_le ha.1
  obtain ⟨b, rfl⟩ := Int.eq_ofNat_of_zero_le hb.1
  have h1 : (BitVec.ofInt 8 (a : Int) ^^^ BitVec.ofInt 8 (b : Int)).toNat = a ^^^ b := by
    rw [BitVec.toNat_xor, BitVec.ofInt_natCast, BitVec.ofInt_natCast, BitVec.toNat_ofNat, BitVec.toNat_ofNat, Nat.mod_eq_of_lt (by omega), Nat.mod_eq_of_lt (by omega)]
  have h2 : a ^^^ b < 2 ^ 8 := Nat.xor_lt_two_pow (by omega) (by omega)
  have h3 : bits .xor .u8 (a : Int) (b : Int) = ((a ^^^ b : Nat) : Int) := by
    show IntKind.u8.wrap (((BitVec.ofInt 8 (a : Int) ^^^ BitVec.ofInt 8 (b : Int)).toNat : Nat) : Int) = _
    rw [h1]
    exact IntWalk.u8_in _ (by omega)
  rw [h3]
  refine ⟨by omega, fun e => hne ?_⟩
  have e' : a ^^^ b = a := by omega
  have : a ^^^ (a ^^^ b) = a ^^^ a := by rw [e']
  rw [← Nat.xor_assoc, Nat.xor_self, Nat.zero_xor] at this
  omega

theorem Unpack_err (l : List Int) (A : Option Addr) (n c : Nat) (w : World) (hnc : n ≤ c) (hc9 : c ≤ 9223372036854775807) (hn : n ≤ 1099511627776) (hl : l.length = n) (hb : Bys l) (hs : Sl w 1 A n (l.map (Value.int .u8))) (h : unW l ≠ 0) :
    Calls Tryd.prog 17 #[.slice A n c] w fun e w' => ∃ C k T x, e = .returned (.tuple #[.int .u8 0, .slice C 0 k, .iface T x]) ∧ (unE l).At w' (.iface T x) ∧ Below w.heap.size w w' := by
  refine (Unpack_any l A n c w hnc hc9 hn hl hb hs).mono ?_
  rintro e w' ⟨C, k, ev, rfl, hev, hs', hk, hb'⟩
  obtain ⟨T, x, rfl⟩ := Err.At.iface_ hev (unE_bad h)
  have hK : unK l = 0 := by rw [unK, if_neg h]
  have hB : unB l = [] := by rw [unB, if_neg h]
  exact ⟨C, k, T, x, by rw [hK, hB]; rfl, hev, hb'⟩

set_option maxHeartbeats 4000000 in
theorem WireParcels_yes (kd : Int) (A1 : Option Addr) (n1 c1 : Nat) (l1 : List Int) (A2 : Option Addr) (n2 c2 : Nat) (l2 : List Int) (at_ : Nat) (by_ : Int) (w : World) (hg : ErrT w) (hk : 0 ≤ kd ∧ kd ≤ 255)
    (e1 : l1.length = n1) (s1 : Sl w 1 A1 n1 (l1.map (Value.int .u8))) (b1 : Bys l1) (q1 : n1 ≤ c1 ∧ c1 ≤ 9223372036854775807)
    (e2 : l2.length = n2) (s2 : Sl w 1 A2 n2 (l2.map (Value.int .u8))) (b2 : Bys l2) (q2 : n2 ≤ c2 ∧ c2 ≤ 9223372036854775807) (hat : at_ ≤ 65535) (hby : 0 ≤ by_ ∧ by_ ≤ 255) (h1 : n1 ≤ 500) (h2 : n2 ≤ 500) :
    Calls Tryd.prog 3 #[.int .u8 kd, .slice A1 n1 c1, .slice A2 n2 c2, .int .u16 at_, .int .u8 by_] w fun e w' => e = .returned (.bool true) ∧ Below w.heap.size w w' := by
  have S1 := Lib.hid s1
  have S2 := Lib.hid s2
  have B1 := Lib.hid b1
  have B2 := Lib.hid b2
  have HG := Lib.hid hg
  clear s1 s2 b1 b2 hg
  go_enter Tryd.func3, Tryd.ntmps3
  go_wp2_with fail
  refine (alive03 w HG.out).mono ?_
  rintro e w1 ⟨rfl, hb⟩
  have HB := Lib.hid hb
  replace S1 := Lib.hid (S1.out.keep hb)
  replace S2 := Lib.hid (S2.out.keep hb)
  replace HG := Lib.hid (HG.out.keep hb)
  clear hb
  go_wp2_with fail
  refine (Pack_any kd l1 A1 n1 c1 w1 hk e1 (by omega) B1.out S1.out).mono ?_
  rintro e w2 ⟨C, k, rfl, hsP, hkP, hb⟩
  replace HB := Lib.hid (HB.out.andThen hb)
  replace S1 := Lib.hid (S1.out.keep hb)
  replace S2 := Lib.hid (S2.out.keep hb)
  replace HG := Lib.hid (HG.out.keep hb)
  have SP := Lib.hid hsP
  clear hb hsP
  have hpl : (packL kd l1).length = n1 + 13 := by rw [packL_len, e1]
  have HPB := Lib.hid (packL_bys hk B1.out)
  go_wp2_with fail
  refine (Unpack_pack kd l1 C n1 k w2 hk hkP.1 hkP.2 (by omega) e1 B1.out SP.out).mono ?_
  rintro e w3 ⟨D, kD, rfl, hsD, _, hb⟩
  replace HB := Lib.hid (HB.out.andThen hb)
  replace S1 := Lib.hid (S1.out.keep hb)
  replace S2 := Lib.hid (S2.out.keep hb)
  replace HG := Lib.hid (HG.out.keep hb)
  replace SP := Lib.hid (SP.out.keep hb)
  have SD := Lib.hid hsD
  clear hb hsD
  go_wp2_with fail
  refine (Parcel_any kd l1 A1 n1 c1 w3 hk e1 (by omega) B1.out S1.out).mono ?_
  rintro e w4 ⟨F, kF, rfl, hsF, hb⟩
  replace HB := Lib.hid (HB.out.andThen hb)
  replace S1 := Lib.hid (S1.out.keep hb)
  replace S2 := Lib.hid (S2.out.keep hb)
  replace HG := Lib.hid (HG.out.keep hb)
  replace SP := Lib.hid (SP.out.keep hb)
  replace SD := Lib.hid (SD.out.keep hb)
  have SF := Lib.hid hsF
  clear hb hsF
  go_wp2_with fail
  have hR := Same_any (packL kd l1) (packL kd l1) C F (n1 + 13) (n1 + 13) k kF w4 hpl hpl SP.out SF.out (by omega)
  rw [decide_eq_true rfl] at hR
  refine hR.mono ?_
  rintro e w5 ⟨rfl, hb⟩
  replace HB := Lib.hid (HB.out.andThen hb)
  replace S1 := Lib.hid (S1.out.keep hb)
  replace S2 := Lib.hid (S2.out.keep hb)
  replace HG := Lib.hid (HG.out.keep hb)
  replace SP := Lib.hid (SP.out.keep hb)
  replace SD := Lib.hid (SD.out.keep hb)
  clear hb hR SF
  have hsl := sumL_lt l1
  have HSum := Lib.hid (Sum_any l1 A1 n1 c1 w5 e1 (by omega) B1.out S1.out)
  have HSum2 := Lib.hid (RefSum_any l1 A1 n1 c1 w5 e1 (by omega) B1.out S1.out)
  generalize sumL l1 = SS at hsl HSum HSum2
  go_wp2_with fail
  refine HSum.out.mono ?_
  rintro e w0 ⟨rfl, rfl⟩
  go_wp2_with fail
  refine HSum2.out.mono ?_
  rintro e w0 ⟨rfl, rfl⟩
  clear HSum HSum2
  have hss : ((SS : Int) != (SS : Int)) = false := by simp
  have hkk : (kd != kd) = false := by simp
  go_wp2_with fail
  have hR := Same_any l1 l1 D A1 n1 n1 kD c1 w5 e1 e1 SD.out S1.out (by omega)
  rw [decide_eq_true rfl] at hR
  refine hR.mono ?_
  rintro e w6 ⟨rfl, hb⟩
  replace HB := Lib.hid (HB.out.andThen hb)
  replace S2 := Lib.hid (S2.out.keep hb)
  replace HG := Lib.hid (HG.out.keep hb)
  replace SP := Lib.hid (SP.out.keep hb)
  clear hb hR SD S1
  have hmod : ((at_ : Int) % ((n1 : Int) + 13)) = ((at_ % (n1 + 13) : Nat) : Int) := by push_cast; rfl
  have hmlt : at_ % (n1 + 13) < n1 + 13 := Nat.mod_lt _ (by omega)
  generalize at_ % (n1 + 13) = m at *
  go_wp2_with fail
  refine (Unpack_err ((packL kd l1).take m) C m k w6 (by omega) hkP.2 (by omega) (by rw [List.length_take]; omega) (HPB.out.take m) (by rw [List.map_take]; exact SP.out.take (by omega)) (unW_cut hk B1.out (by omega) (by omega))).mono ?_
  rintro e w7 ⟨C7, k7, T7, x7, rfl, _, hb⟩
  replace HB := Lib.hid (HB.out.andThen hb)
  replace S2 := Lib.hid (S2.out.keep hb)
  replace HG := Lib.hid (HG.out.keep hb)
  replace SP := Lib.hid (SP.out.keep hb)
  clear hb
  have hbA := bel_al (Below.refl w7.heap.size w7) (.cells #[] 5)
  have HOE := Lib.hid (World.ownsRow_made (e := 5) (size := 1) w7 #[] 0 (Nat.le_refl _) (Nat.zero_le _) rfl)
  have HBA := Lib.hid hbA
  have SPA := Lib.hid (SP.out.keep hbA)
  clear hbA
  go_wp2_with (first
    | (at_builtin; refine wpList_cat_at elemByte _ _ rfl rfl HOE.out HBA.out.size SPA.out rfl rfl (one_u8 _) (by unfold lim; omega) (by unfold lim; omega) ?_; intro v8 w8 hown8 hg8; have HO8 := Lib.hid hown8; have HB8 := Lib.hid (HBA.out.trans (hg8.belowOwn HBA.out.size HOE.out)); clear hown8 hg8 HOE HBA SPA)
    | (at_builtin; refine wpList_cat_at elemByte _ _ rfl rfl (HO8.out.alloc _) (Nat.le_trans HB8.out.size (by simp)) (Sl.newAt w8 [.int .u8 by_] 5 1 rfl) rfl rfl (by simp [Value.oneCell']) (by unfold lim; omega) (by unfold lim; omega) ?_; intro v9 w9 hown9 hg9; have HO9 := Lib.hid hown9; have HB9 := Lib.hid ((bel_al HB8.out _).trans (hg9.belowOwn (Nat.le_trans HB8.out.size (by simp)) (HO8.out.alloc _))); clear hown9 hg9 HO8 HB8))
  obtain ⟨g9, c9, rfl, _⟩ := own_form HO9.out (by omega)
  replace HO9 := Lib.hid (show w9.ownsRow w7.heap.size 5 1 (.slice (some ⟨g9, 0, none⟩) (n1 + 14) c9) (n1 + 14) ((packL kd l1 ++ [by_]).map (Value.int .u8)) by
    have h := HO9.out
    rw [List.nil_append, show 0 + (n1 + 13) + 1 = n1 + 14 by omega] at h
    rw [List.map_append]; exact h)
  rw [show 0 + (n1 + 13) + 1 = n1 + 14 by omega]
  have HC9 := Lib.hid (own_cap HO9.out)
  have HU9 := Lib.hid (Unpack_any (packL kd l1 ++ [by_]) _ (n1 + 14) c9 w9 HC9.out.1 HC9.out.2 (by omega) (by rw [List.length_append, hpl]; rfl) (HPB.out.append (Bys.cons hby.1 hby.2 Bys.nil)) (Sl.of_own HO9.out))
  have HB97 := Lib.hid HB9.out
  replace HB := Lib.hid (HB.out.andThen HB97.out)
  replace S2 := Lib.hid (S2.out.keep HB97.out)
  replace HG := Lib.hid (HG.out.keep HB97.out)
  replace SP := Lib.hid (SP.out.keep HB97.out)
  clear HB97 HB9
  refine HU9.out.mono ?_
  rintro e w10 ⟨C10, k10, ev10, rfl, hev10, _, _, hb⟩
  replace HB := Lib.hid (HB.out.andThen hb)
  replace S2 := Lib.hid (S2.out.keep hb)
  replace HG := Lib.hid (HG.out.keep hb)
  replace SP := Lib.hid (SP.out.keep hb)
  rw [unE_more kd by_ l1 (by omega)] at hev10
  have HE10 := Lib.hid hev10
  clear hev10 hb HU9 HO9 HC9
  generalize (unB (packL kd l1 ++ [by_])).length = d10
  generalize unK (packL kd l1 ++ [by_]) = d11
  go_wp2_with fail
  refine (Code_any _ ev10 w10 HE10.out HG.out).mono ?_
  rintro e w11 ⟨rfl, hb⟩
  replace HB := Lib.hid (HB.out.andThen hb)
  replace S2 := Lib.hid (S2.out.keep hb)
  replace HG := Lib.hid (HG.out.keep hb)
  replace SP := Lib.hid (SP.out.keep hb)
  clear hb HE10
  by_cases hb0 : by_ = 0
  · subst hb0
    go_wp2_with fail
    by_cases hr : unW l2 = 0
    · have HPO := Lib.hid (pack_of B2.out hr)
      have HUE := Lib.hid (show unE l2 = .nil by rw [unE, hr]; rfl)
      have hul := unB_le l2
      refine (Unpack_any l2 A2 n2 c2 _ q2.1 q2.2 (by omega) e2 B2.out S2.out).mono ?_
      rintro e w20 ⟨C20, k20, ev20, rfl, hev20, hs20, _, hb⟩
      rw [HUE.out] at hev20
      obtain rfl : ev20 = .nilIface := hev20
      replace HB := Lib.hid (HB.out.andThen hb)
      replace S2 := Lib.hid (S2.out.keep hb)
      replace HG := Lib.hid (HG.out.keep hb)
      have S20 := Lib.hid hs20
      clear hb hs20
      rw [e2] at hul
      generalize hub : unB l2 = ub at *
      generalize huk : unK l2 = uk at *
      have HK := Lib.hid (Pack_any uk ub C20 ub.length k20 w20 ⟨HPO.out.2.1, HPO.out.2.2.1⟩ rfl (by omega) HPO.out.2.2.2 S20.out)
      replace HK := Lib.hid (show Calls Tryd.prog 16 #[.int .u8 uk, .slice C20 ub.length k20] w20 fun e w' => ∃ C k, e = .returned (.slice C (ub.length + 13) k) ∧ Sl w' 1 C (ub.length + 13) ((packL uk ub).map (Value.int .u8)) ∧ (ub.length + 13 ≤ k ∧ k ≤ 9223372036854775807) ∧ Below w20.heap.size w20 w' from HK.out)
      clear hub huk
      go_wp2_with fail
      refine HK.out.mono ?_
      rintro e w21 ⟨C21, k21, rfl, hs21, _, hb⟩
      replace HB := Lib.hid (HB.out.andThen hb)
      replace S2 := Lib.hid (S2.out.keep hb)
      rw [HPO.out.1] at hs21
      have hlen : ub.length + 13 = n2 := by rw [← e2, ← HPO.out.1, packL_len]
      rw [hlen] at hs21
      rw [hlen]
      have S21 := Lib.hid hs21
      clear hb hs21 HK
      have hR := Same_any l2 l2 C21 A2 n2 n2 k21 c2 w21 e2 e2 S21.out S2.out (by omega)
      rw [decide_eq_true rfl] at hR
      have HR := Lib.hid hR
      clear hR hlen
      go_wp2_with fail
      refine HR.out.mono ?_
      rintro e w22 ⟨rfl, hb⟩
      replace HB := Lib.hid (HB.out.andThen hb)
      clear hb
      go_wp2_with fail
      go_ret
      exact ⟨rfl, HB.out⟩
    · refine (Unpack_err l2 A2 n2 c2 _ q2.1 q2.2 (by omega) e2 B2.out S2.out hr).mono ?_
      rintro e w20 ⟨C20, k20, T20, x20, rfl, _, hb⟩
      replace HB := Lib.hid (HB.out.andThen hb)
      clear hb
      go_wp2_with fail
      go_ret
      exact ⟨rfl, HB.out⟩
  · have hb0' : (by_ != 0) = true := by simpa using hb0
    have hbA := bel_al (Below.refl w11.heap.size w11) (.cells #[] 5)
    have HOE := Lib.hid (World.ownsRow_made (e := 5) (size := 1) w11 #[] 0 (Nat.le_refl _) (Nat.zero_le _) rfl)
    have HBA := Lib.hid hbA
    have SPA := Lib.hid (SP.out.keep hbA)
    have hmp : m < (packL kd l1).length := by omega
    have hpm := List.getElem?_eq_getElem hmp
    have hpr := HPB.out _ (List.getElem_mem hmp)
    have HXO := Lib.hid (xor_u8 _ by_ hpr hby hb0)
    have HFL := Lib.hid (fun x (hx : 0 ≤ x ∧ x ≤ 255) (hne : x ≠ (packL kd l1)[m]) => unW_flip hk B1.out (by omega) hmp hx hne)
    have HPM := Lib.hid hpm
    generalize (packL kd l1)[m] = pm at HXO HFL HPM
    clear hbA hpm hpr
    go_wp2_with (at_builtin; refine wpList_cat_lies elemByte _ _ rfl rfl HOE.out HBA.out.size SPA.out (by omega) rfl rfl (one_u8 _) (by unfold lim; omega) (by unfold lim; omega) ?_; intro g12 c12 w12 hown12 hg12; have HO12 := Lib.hid hown12; have HB12 := Lib.hid (HBA.out.trans (hg12.belowOwn HBA.out.size HOE.out)); have hc12 := own_cell (m := m) (x := pm) hown12 HPM.out; have hf12 := hown12.frozenAt m; clear hown12 hg12 HOE HBA SPA)
    replace HO12 := Lib.hid (show w12.ownsRow w11.heap.size 5 1 (.slice (some ⟨g12, 0, none⟩) (n1 + 13) c12) (n1 + 13) ((packL kd l1).map (Value.int .u8)) by
      have h := HO12.out
      rw [List.nil_append, show 0 + (n1 + 13) = n1 + 13 by omega] at h
      exact h)
    have HO13 := Lib.hid ((HO12.out.stored m (.int .u8 (bits .xor .u8 pm by_))).1)
    rw [← List.map_set] at HO13
    have hB13 : Below w11.heap.size w11 (w12.setCell ⟨g12, m, none⟩ (.int .u8 (bits .xor .u8 pm by_))) := HB12.out.setCell (p := ⟨g12, m, none⟩) (HO12.out.lt g12 rfl).1 _
    have HC13 := Lib.hid (own_cap HO13.out)
    have HU13 := Lib.hid (Unpack_err ((packL kd l1).set m (bits .xor .u8 pm by_)) _ (n1 + 13) c12 _ HC13.out.1 HC13.out.2 (by omega) (by rw [List.length_set]; exact hpl) (HPB.out.set m HXO.out.1.1 HXO.out.1.2) (Sl.of_own HO13.out) (HFL.out _ HXO.out.1 HXO.out.2))
    replace HB := Lib.hid (HB.out.andThen hB13)
    replace S2 := Lib.hid (S2.out.keep hB13)
    replace HG := Lib.hid (HG.out.keep hB13)
    clear hB13 HO13 HO12 HC13 HB12
    refine HU13.out.mono ?_
    rintro e w14 ⟨C14, k14, T14, x14, rfl, _, hb⟩
    replace HB := Lib.hid (HB.out.andThen hb)
    replace S2 := Lib.hid (S2.out.keep hb)
    replace HG := Lib.hid (HG.out.keep hb)
    clear hb HU13 hc12 hf12
    go_wp2_with fail
    by_cases hr : unW l2 = 0
    · have HPO := Lib.hid (pack_of B2.out hr)
      have HUE := Lib.hid (show unE l2 = .nil by rw [unE, hr]; rfl)
      have hul := unB_le l2
      refine (Unpack_any l2 A2 n2 c2 _ q2.1 q2.2 (by omega) e2 B2.out S2.out).mono ?_
      rintro e w20 ⟨C20, k20, ev20, rfl, hev20, hs20, _, hb⟩
      rw [HUE.out] at hev20
      obtain rfl : ev20 = .nilIface := hev20
      replace HB := Lib.hid (HB.out.andThen hb)
      replace S2 := Lib.hid (S2.out.keep hb)
      replace HG := Lib.hid (HG.out.keep hb)
      have S20 := Lib.hid hs20
      clear hb hs20
      rw [e2] at hul
      generalize hub : unB l2 = ub at *
      generalize huk : unK l2 = uk at *
      have HK := Lib.hid (Pack_any uk ub C20 ub.length k20 w20 ⟨HPO.out.2.1, HPO.out.2.2.1⟩ rfl (by omega) HPO.out.2.2.2 S20.out)
      replace HK := Lib.hid (show Calls Tryd.prog 16 #[.int .u8 uk, .slice C20 ub.length k20] w20 fun e w' => ∃ C k, e = .returned (.slice C (ub.length + 13) k) ∧ Sl w' 1 C (ub.length + 13) ((packL uk ub).map (Value.int .u8)) ∧ (ub.length + 13 ≤ k ∧ k ≤ 9223372036854775807) ∧ Below w20.heap.size w20 w' from HK.out)
      clear hub huk
      go_wp2_with fail
      refine HK.out.mono ?_
      rintro e w21 ⟨C21, k21, rfl, hs21, _, hb⟩
      replace HB := Lib.hid (HB.out.andThen hb)
      replace S2 := Lib.hid (S2.out.keep hb)
      rw [HPO.out.1] at hs21
      have hlen : ub.length + 13 = n2 := by rw [← e2, ← HPO.out.1, packL_len]
      rw [hlen] at hs21
      rw [hlen]
      have S21 := Lib.hid hs21
      clear hb hs21 HK
      have hR := Same_any l2 l2 C21 A2 n2 n2 k21 c2 w21 e2 e2 S21.out S2.out (by omega)
      rw [decide_eq_true rfl] at hR
      have HR := Lib.hid hR
      clear hR hlen
      go_wp2_with fail
      refine HR.out.mono ?_
      rintro e w22 ⟨rfl, hb⟩
      replace HB := Lib.hid (HB.out.andThen hb)
      clear hb
      go_wp2_with fail
      go_ret
      exact ⟨rfl, HB.out⟩
    · refine (Unpack_err l2 A2 n2 c2 _ q2.1 q2.2 (by omega) e2 B2.out S2.out hr).mono ?_
      rintro e w20 ⟨C20, k20, T20, x20, rfl, _, hb⟩
      replace HB := Lib.hid (HB.out.andThen hb)
      clear hb
      go_wp2_with fail
      go_ret
      exact ⟨rfl, HB.out⟩

theorem bys_of_wf {l : List Int} (h : ∀ z ∈ l, (Lit.int .u8 z).wf = true) : Bys l := fun x hx => wf_u8 (h x hx)
set_option maxHeartbeats 1000000 in
theorem WireParcels_main (a0 : Int) (A1 : Option Addr) (n1 c1 : Nat) (l1 : List Int) (A2 : Option Addr) (n2 c2 : Nat) (l2 : List Int) (a3 a4 : Int) (w : World) (hg : ErrT w) (w0 : (Lit.int .u8 a0).wf = true)
    (_ : n1 ≤ maxLen) (e1 : l1.length = n1) (s1 : Sl w 1 A1 n1 (l1.map (Value.int .u8))) (w1 : ∀ z ∈ l1, (Lit.int .u8 z).wf = true) (q1 : n1 ≤ c1 ∧ c1 ≤ 9223372036854775807)
    (_ : n2 ≤ maxLen) (e2 : l2.length = n2) (s2 : Sl w 1 A2 n2 (l2.map (Value.int .u8))) (w2 : ∀ z ∈ l2, (Lit.int .u8 z).wf = true) (q2 : n2 ≤ c2 ∧ c2 ≤ 9223372036854775807)
    (w3 : (Lit.int .u16 a3).wf = true) (w4 : (Lit.int .u8 a4).wf = true) :
    Calls Tryd.prog 3 #[.int .u8 a0, .slice A1 n1 c1, .slice A2 n2 c2, .int .u16 a3, .int .u8 a4] w fun e w' => e = .returned (.bool true) ∧ Below w.heap.size w w' := by
  by_cases h : n1 ≤ 500 ∧ n2 ≤ 500
  · have h3 := wf_u16 w3
    obtain ⟨at_, rfl⟩ := Int.eq_ofNat_of_zero_le h3.1
    exact WireParcels_yes a0 A1 n1 c1 l1 A2 n2 c2 l2 at_ a4 w hg (wf_u8 w0) e1 s1 (bys_of_wf w1) q1 e2 s2 (bys_of_wf w2) q2 (by omega) (wf_u8 w4) h.1 h.2
  · go_enter Tryd.func3, Tryd.ntmps3
    go_wp2_with fail
    refine (alive03 w hg).mono ?_
    rintro e w1 ⟨rfl, hb⟩
    have HB := Lib.hid hb
    clear hb s1 s2 hg
    by_cases h1 : n1 ≤ 500
    · have h2 : 500 < n2 := by omega
      clear h
      go_wp2_with fail
      go_ret
      exact ⟨rfl, HB.out⟩
    · clear h
      go_wp2_with fail
      go_ret
      exact ⟨rfl, HB.out⟩
end Go.Proofs.YtclbbchljiagpaaDoor
