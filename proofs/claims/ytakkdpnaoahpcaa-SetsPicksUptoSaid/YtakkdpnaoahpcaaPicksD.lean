/-
  The document's choices (fretworkref06.Picks).
-/
import Derived.Test.YtakkdpnaoahpcaaPicksR
import Derived.Test.YtakkdpnaoahpcaaRowsL
import Derived.Test.YtakkdpnaoahpcaaWords3
import Derived.Test.YtakkdpnaoahpcaaSetsD
namespace Go.Proofs.Ytakkdpnaoahpcaa
open Go.RowKit
set_option maxRecDepth 100000
set_option linter.unusedVariables false

theorem its_ins {α : Type} (its : List (Option Addr × Nat × List Int)) (n : Nat) (t : Option Addr × Nat × List Int) (f : Option Addr × Nat × List Int → α) : (its.take n ++ t :: its.drop n).map f = (its.map f).take n ++ f t :: (its.map f).drop n := by
  rw [List.map_append, List.map_cons, List.map_take, List.map_drop]
theorem one_take (its : List (Option Addr × Nat × List Int)) (n : Nat) : ∀ u ∈ (its.map rv).take n, u.oneCell' = true := fun u hu => by
  obtain ⟨t, _, rfl⟩ := List.mem_map.1 (List.mem_of_mem_take hu)
  simp [rv, Value.oneCell']
theorem one_drop (its : List (Option Addr × Nat × List Int)) (n : Nat) : ∀ u ∈ (its.map rv).drop n, u.oneCell' = true := fun u hu => by
  obtain ⟨t, _, rfl⟩ := List.mem_map.1 (List.mem_of_mem_drop hu)
  simp [rv, Value.oneCell']

set_option maxHeartbeats 16000000 in
theorem RefPicks_any (X : List Int) (A : Option Addr) (n c : Nat) (k : Int) (w : World) (hX : Inc X) (hl : X.length = n) (hn : n ≤ 9) (hs : Sl w 1 A n (X.map (Value.int .i64))) :
    Calls Try.prog 26 #[.slice A n c, .int .i64 k] w fun e w' => ∃ (C : Option Addr) (d : Nat) (its : List (Option Addr × Nat × List Int)), e = .returned (.slice C its.length d) ∧ its.map (·.2.2) = choices X k ∧ Sl w' 1 C its.length (its.map rv) ∧ AllRows w' its ∧ its.length ≤ d ∧ d ≤ 9223372036854775807 ∧ Below w.heap.size w w' := by
  have HX := Lib.hid hX
  have HL := Lib.hid hl
  have HS := Lib.hid hs
  obtain ⟨N, hN⟩ : ∃ N, N = 2 ^ n := ⟨_, rfl⟩
  have h512 : N ≤ 512 := by rw [hN]; exact Nat.pow_le_pow_right (by omega) hn
  have hpw : (2 : Int) ^ n = (N : Int) := by rw [hN]; simp
  have hw2n : wrap64 ((2 : Int) ^ n) = (N : Int) := by rw [hpw]; unfold wrap64; omega
  have HN := Lib.hid hN
  clear hX hl hs hN
  go_enter Try.func26, Try.ntmps26
  go_wp2_with fail
  go_loopw [5, 6] (fun ov mv wr => ∃ (m : Nat) (C : Option Addr) (d : Nat) (its : List (Option Addr × Nat × List Int)), m ≤ N ∧ mv = .int .i64 (m : Int) ∧ ov = .slice C its.length d ∧ its.length ≤ m ∧ Rf X k m (its.map (·.2.2)) ∧ Sl wr 1 C its.length (its.map rv) ∧ AllRows wr its ∧ (its.length ≤ d ∧ d ≤ 9223372036854775807) ∧ Below w.heap.size w wr) (fun _ mv _ => N - (intOf mv).toNat)
  case atStart => exact ⟨0, none, 0, [], Nat.zero_le _, rfl, rfl, Nat.le_refl _, Rf.none X k, Sl.nil _ _ _, (fun t h => by cases h), ⟨Nat.le_refl _, by omega⟩, Below.refl _ _⟩
  case round =>
    obtain ⟨m, C, d, its, hm, rfl, rfl, hlen, hrf, hsl, hok, hcap, hb⟩ := hrel
    have HRf := Lib.hid hrf
    have HSl := Lib.hid hsl
    have HOk := Lib.hid hok
    have HCap := Lib.hid hcap
    have HBr := Lib.hid hb
    have HSw := Lib.hid (HS.out.keep hb)
    have hz5 : its.length ≤ 512 := by omega
    obtain ⟨z, hz⟩ : ∃ z, z = its.length := ⟨_, rfl⟩
    rw [← hz] at hlen hz5 HSl HCap ⊢
    have HZ := Lib.hid hz
    clear hrf hsl hok hcap hb hz
    by_cases hmn : m < N
    · have hmn' : (m : Int) < (N : Int) := by omega
      obtain ⟨wo, rfl⟩ : ∃ wo, wo = wr := ⟨_, rfl⟩
      go_wp2_with fail
      go_loopw [7, 8] (fun nv iv wx => ∃ (i : Nat), i ≤ n ∧ iv = .int .i64 (i : Int) ∧ wx.ownsRow wo.heap.size 3 1 nv (bitsL m (X.take i)).length ((bitsL m (X.take i)).map (Value.int .i64)) ∧ Below wo.heap.size wo wx) (fun _ iv _ => n - (intOf iv).toNat)
      case atStart => exact ⟨0, Nat.zero_le _, rfl, (by rw [List.take_zero, bitsL_nil]; exact World.ownsRow_nil _ _ _ _), Below.refl _ _⟩
      case round =>
        obtain ⟨i, hi, rfl, hown, hb⟩ := hrel
        have HO := Lib.hid hown
        have HB := Lib.hid hb
        have hpl : (bitsL m (X.take i)).length ≤ 9 := by
          have h1 := bitsL_len (X.take i) m
          rw [List.length_take, HL.out] at h1
          omega
        clear hown hb
        by_cases hin : i < n
        · have hin' : (i : Int) < (n : Int) := by omega
          obtain ⟨x, hx⟩ : ∃ x, X[i]? = some x := ⟨_, List.getElem?_eq_getElem (by rw [HL.out]; exact hin)⟩
          have HT := Lib.hid (bitsL_take X m i x hx)
          obtain ⟨b, off, u, rfl, e1, c1⟩ := (HSw.out.keep HB.out).one hin
          rw [List.getElem?_map, hx] at e1
          obtain rfl := Option.some.inj e1
          clear e1 hx
          obtain ⟨q, hq⟩ : ∃ q, q = m / 2 ^ i := ⟨_, rfl⟩
          rw [← hq] at HT
          have hqi : (m : Int) / 2 ^ i = (q : Int) := by rw [hq]; simp
          have hqm : q ≤ m := by rw [hq]; exact Nat.div_le_self _ _
          clear hq
          by_cases hodd : q % 2 = 1
          · have ht : Int.tmod (q : Int) 2 = 1 := by rw [Int.tmod_eq_emod_of_nonneg (by omega)]; omega
            have ht2 : (q : Int) % 2 = 1 := by omega
            rw [if_pos hodd] at HT
            clear hodd
            go_wp2_with (at_builtin; refine wpList_push elemInt (w0 := wo) _ _ rfl rfl HO.out HB.out (Nat.le_refl _) rfl rfl rfl (by simp [Value.oneCell']) (by unfold lim; omega) (by unfold lim; omega) ?_; intro v2 w5 hown2 hb2)
            go_roundw
            case rel => exact ⟨i + 1, by omega, by go_num, by rw [HT.out, List.length_append, List.map_append]; exact hown2, hb2⟩
            case measure => simp [intOf]; omega
          · have ht : Int.tmod (q : Int) 2 = 0 := by rw [Int.tmod_eq_emod_of_nonneg (by omega)]; omega
            have ht2 : (q : Int) % 2 = 0 := by omega
            rw [if_neg hodd, List.append_nil] at HT
            clear hodd
            go_wp2_with fail
            go_roundw
            case rel => exact ⟨i + 1, by omega, by go_num, by rw [HT.out]; exact HO.out, HB.out⟩
            case measure => simp [intOf]; omega
        · obtain rfl : i = n := by omega
          have hin' : ¬ (i : Int) < (i : Int) := by omega
          rw [List.take_of_length_le (by rw [HL.out]; exact Nat.le_refl _)] at HO hpl
          obtain ⟨D, e, rfl, hp⟩ := Sl.own HO.out
          have HP := Lib.hid hp
          have HPc := Lib.hid (own_cap HO.out)
          have HSk := Lib.hid (fun h => HRf.out.skip h)
          have HIn := Lib.hid (fun at_ h1 h2 h3 h4 => HRf.out.ins (at_ := at_) (inc_nodup HX.out) (show m < 2 ^ X.length by rw [HL.out, ← HN.out]; exact hmn) h1 h2 h3 h4)
          obtain ⟨p, hp0⟩ : ∃ p, p = bitsL m X := ⟨_, rfl⟩
          rw [← hp0] at HO HP HPc HSk HIn hpl ⊢
          clear hp hp0
          by_cases hpk : (p.length : Int) = k
          · subst hpk
            have HBr2 := Lib.hid (HBr.out.andThen HB.out)
            have HOk2 := Lib.hid (HOk.out.keep HB.out)
            have HSl2 := Lib.hid (HSl.out.keep HB.out)
            obtain ⟨wp, rfl⟩ : ∃ wp, wp = wr := ⟨_, rfl⟩
            go_wp2_with fail
            go_loopw [9] (fun av wx => ∃ t : Nat, t ≤ z ∧ av = .int .i64 (t : Int) ∧ Hid (∀ j q, t ≤ j → (its.map (·.2.2))[j]? = some q → cmpL p q < 0) ∧ Below wp.heap.size wp wx) (fun av _ => (intOf av).toNat)
            case atStart => exact ⟨z, Nat.le_refl _, rfl, Lib.hid (fun j q h1 h2 => by rw [List.getElem?_eq_none (by rw [List.length_map, ← HZ.out]; exact h1)] at h2; cases h2), Below.refl _ _⟩
            case round =>
              obtain ⟨t, htz, rfl, HHi, hbp⟩ := hrel
              have HBp := Lib.hid hbp
              replace HP := Lib.hid (HP.out.keep hbp)
              replace HBr2 := Lib.hid (HBr2.out.andThen hbp)
              replace HOk2 := Lib.hid (HOk2.out.keep hbp)
              replace HSl2 := Lib.hid (HSl2.out.keep hbp)
              clear hbp
              rcases t with _ | t
              · have HLo := Lib.hid (show ∀ q, 0 < 0 → (its.map (·.2.2))[0 - 1]? = some q → ¬ cmpL p q < 0 from fun q h => by omega)
                have hTz : 0 ≤ z := by omega
                have hzd : (z : Int) ≤ (d : Int) := by have := HCap.out.1; omega
                have hTd : ((0 : Nat) : Int) ≤ (d : Int) := by omega
                have hTz' : ((0 : Nat) : Int) ≤ (z : Int) := by omega
                have hb0 := bel_al (Below.refl wr.heap.size wr) (.cells #[] 22)
                have hown0 : (wr.alloc (.cells #[] 22)).ownsRow wr.heap.size 22 1 (.slice (some ⟨wr.heap.size, 0, none⟩) 0 0) 0 [] := by
                  have := World.ownsRow_made (base := wr.heap.size) (size := 1) (e := 22) wr #[] 0 (Nat.le_refl _) (by unfold maxLen; omega) rfl
                  simpa using this
                have HY1 := Lib.hid ((HSl2.out.take hTz).keep hb0)
                have HO1 := Lib.hid (one_take its 0)
                have HLn := Lib.hid (show (its.take 0 ++ (D, e, p) :: its.drop 0).length = z + 1 by rw [List.length_append, List.length_cons, List.length_take, List.length_drop, ← HZ.out]; omega)
                have HRn := Lib.hid (show Rf X (p.length : Int) (m + 1) ((its.take 0 ++ (D, e, p) :: its.drop 0).map (·.2.2)) by
                  rw [its_ins]
                  exact HIn.out 0 (by first | exact trivial | rfl) (by rw [List.length_map, ← HZ.out]; exact hTz) (fun q h1 h2 => by have := HLo.out q h1 h2; omega) HHi.out)
                have HOk3 := Lib.hid (fun (W : World) (hW : Below wr.heap.size wr W) => (show AllRows W (its.take 0 ++ (D, e, p) :: its.drop 0) from fun t ht => by
                  rcases List.mem_append.1 ht with h | h
                  · exact (HOk2.out t (List.mem_of_mem_take h)).keep hW
                  · rcases List.mem_cons.1 h with rfl | h
                    · exact RowOK.keep ⟨HP.out, HPc.out⟩ hW
                    · exact (HOk2.out t (List.mem_of_mem_drop h)).keep hW))
                have HFin := Lib.hid (fun (v : Value) (W : World) (h : W.ownsRow wr.heap.size 22 1 v (0 + 1 + (z - 0)) ((its.map rv).take 0 ++ Value.slice D p.length e :: (its.map rv).drop 0)) => (show W.ownsRow wr.heap.size 22 1 v (z + 1) ((its.take 0 ++ (D, e, p) :: its.drop 0).map rv) by
                  rw [its_ins]
                  rw [show 0 + 1 + (z - 0) = z + 1 by omega] at h
                  exact h))
                by_cases hlt : 0 < z
                · obtain ⟨b2, off2, u2, rfl, _, _⟩ := HSl2.out.one hlt
                  have HY2 := Lib.hid (fun b off (h : (some ⟨b2, off2, none⟩ : Option Addr) = some ⟨b, off, none⟩) W (hW : Below wr.heap.size wr W) => (show Sl W 1 (some ⟨b, off + 0, none⟩) (z - 0) ((its.map rv).drop 0) by cases h; exact (HSl2.out.drop hTz).keep hW))
                  have HO2 := Lib.hid (one_drop its 0)
                  go_wp2_with (first
                    | (at_builtin; refine wpList_cat elemIntsQ (w0 := wr) _ _ rfl rfl hown0 hb0 (Nat.le_refl _) HY1.out rfl rfl HO1.out (by unfold lim; omega) (by unfold lim; omega) ?_; intro v1 w3 hown1 hb1 _)
                    | (at_builtin; refine wpList_push elemIntsQ (w0 := wr) _ _ rfl rfl hown1 hb1 (Nat.le_refl _) rfl rfl rfl (by simp [Value.oneCell']) (by unfold lim; omega) (by unfold lim; omega) ?_; intro v2 w5 hown2 hb2)
                    | (at_builtin; refine wpList_cat elemIntsQ (w0 := wr) _ _ rfl rfl hown2 hb2 (Nat.le_refl _) (HY2.out _ _ rfl w5 hb2) rfl rfl HO2.out (by unfold lim; omega) (by unfold lim; omega) ?_; intro v3 w6 hown3 hb3 _))
                  all_goals (
                    have hown4 := HFin.out v3 w6 (by simpa using hown3)
                    obtain ⟨C3, c3, rfl, hsl3⟩ := Sl.own hown4
                    have hcap3 := own_cap hown4
                    refine ⟨⟨m + 1, C3, c3, its.take 0 ++ (D, e, p) :: its.drop 0, by omega, by go_num, by rw [HLn.out], by rw [HLn.out]; omega, HRn.out, by rw [HLn.out]; exact hsl3, HOk3.out w6 hb3, by rw [HLn.out]; exact hcap3, HBr2.out.andThen hb3⟩, ?_⟩
                    simp [intOf]; omega)
                · have hz0 : z = 0 := by omega
                  subst hz0
                  have hi0 : its = [] := List.eq_nil_of_length_eq_zero HZ.out.symm
                  have HNil := Lib.hid hi0
                  clear hi0
                  rcases C with _ | C
                  · go_wp2_with (first
                      | (at_builtin; refine wpList_cat elemIntsQ (w0 := wr) _ _ rfl rfl hown0 hb0 (Nat.le_refl _) HY1.out rfl rfl HO1.out (by unfold lim; omega) (by unfold lim; omega) ?_; intro v1 w3 hown1 hb1 _)
                      | (at_builtin; refine wpList_push elemIntsQ (w0 := wr) _ _ rfl rfl hown1 hb1 (Nat.le_refl _) rfl rfl rfl (by simp [Value.oneCell']) (by unfold lim; omega) (by unfold lim; omega) ?_; intro v2 w5 hown2 hb2)
                      | (at_builtin; refine wpList_cat elemIntsQ (w0 := wr) _ _ rfl rfl hown2 hb2 (Nat.le_refl _) (Sl.nil _ _ _) rfl rfl (by simp) (by unfold lim; omega) (by unfold lim; omega) ?_; intro v3 w6 hown3 hb3 _))
                    all_goals (
                      have hown4 := HFin.out v3 w6 (by simpa [HNil.out] using hown3)
                      obtain ⟨C3, c3, rfl, hsl3⟩ := Sl.own hown4
                      have hcap3 := own_cap hown4
                      refine ⟨⟨m + 1, C3, c3, its.take 0 ++ (D, e, p) :: its.drop 0, by omega, by go_num, by rw [HLn.out], by rw [HLn.out]; omega, HRn.out, by rw [HLn.out]; exact hsl3, HOk3.out w6 hb3, by rw [HLn.out]; exact hcap3, HBr2.out.andThen hb3⟩, ?_⟩
                      simp [intOf]; omega)
                  · go_wp2_with (first
                      | (at_builtin; refine wpList_cat elemIntsQ (w0 := wr) _ _ rfl rfl hown0 hb0 (Nat.le_refl _) HY1.out rfl rfl HO1.out (by unfold lim; omega) (by unfold lim; omega) ?_; intro v1 w3 hown1 hb1 _)
                      | (at_builtin; refine wpList_push elemIntsQ (w0 := wr) _ _ rfl rfl hown1 hb1 (Nat.le_refl _) rfl rfl rfl (by simp [Value.oneCell']) (by unfold lim; omega) (by unfold lim; omega) ?_; intro v2 w5 hown2 hb2)
                      | (at_builtin; refine wpList_cat elemIntsQ (w0 := wr) _ _ rfl rfl hown2 hb2 (Nat.le_refl _) (Sl.nil _ _ _) rfl rfl (by simp) (by unfold lim; omega) (by unfold lim; omega) ?_; intro v3 w6 hown3 hb3 _))
                    all_goals (
                      have hown4 := HFin.out v3 w6 (by simpa [HNil.out] using hown3)
                      obtain ⟨C3, c3, rfl, hsl3⟩ := Sl.own hown4
                      have hcap3 := own_cap hown4
                      refine ⟨⟨m + 1, C3, c3, its.take 0 ++ (D, e, p) :: its.drop 0, by omega, by go_num, by rw [HLn.out], by rw [HLn.out]; omega, HRn.out, by rw [HLn.out]; exact hsl3, HOk3.out w6 hb3, by rw [HLn.out]; exact hcap3, HBr2.out.andThen hb3⟩, ?_⟩
                      simp [intOf]; omega)
              · have htz' : t < z := by omega
                obtain ⟨D2, d2, q, hit, hq⟩ := its_row (its := its) (k := t) (by rw [← HZ.out]; exact htz')
                obtain ⟨b2, off2, u2, rfl, e2, c2⟩ := HSl2.out.one htz'
                rw [List.getElem?_map, hit] at e2
                obtain rfl := Option.some.inj e2
                have hrow := HOk2.out _ (List.mem_of_getElem? hit)
                have HQ := Lib.hid hq
                have HCm := Lib.hid (RefCompare_any p q D D2 p.length q.length e d2 wr rfl rfl HP.out hrow.1 (by omega))
                simp only [rv] at c2
                have hpos : (0 : Int) < ((t + 1 : Nat) : Int) := by omega
                have hpos' : (0 : Int) < (t : Int) + 1 := by omega
                clear hit hq e2 hrow
                by_cases hcm : cmpL p q < 0
                · have HHi2 := Lib.hid (show ∀ j q', t ≤ j → (its.map (·.2.2))[j]? = some q' → cmpL p q' < 0 from fun j q' h1 h2 => by
                    by_cases e : j = t
                    · subst e
                      rw [HQ.out] at h2
                      cases h2
                      exact hcm
                    · exact HHi.out j q' (by omega) h2)
                  generalize cmpL p q = v at *
                  go_wp2_with fail
                  refine HCm.out.mono ?_
                  rintro e w2 ⟨rfl, hb2⟩
                  have HB2 := Lib.hid (HBp.out.andThen hb2)
                  clear hb2
                  go_wp2_with fail
                  go_roundw
                  case rel => exact ⟨t, by omega, by go_num, HHi2, HB2.out⟩
                  case measure => simp [intOf]
                · have HLo := Lib.hid (show ∀ q', 0 < t + 1 → (its.map (·.2.2))[t + 1 - 1]? = some q' → ¬ cmpL p q' < 0 from fun q' _ h2 => by
                    rw [Nat.add_sub_cancel, HQ.out] at h2
                    cases h2
                    exact hcm)
                  generalize cmpL p q = v at *
                  go_wp2_with fail
                  refine HCm.out.mono ?_
                  rintro e w2 ⟨rfl, hb2⟩
                  replace HP := Lib.hid (HP.out.keep hb2)
                  replace HBr2 := Lib.hid (HBr2.out.andThen hb2)
                  replace HOk2 := Lib.hid (HOk2.out.keep hb2)
                  replace HSl2 := Lib.hid (HSl2.out.keep hb2)
                  clear hb2 c2 HCm
                  obtain ⟨w9, rfl⟩ : ∃ w9, w9 = w2 := ⟨_, rfl⟩
                  have hTz : (t + 1) ≤ z := by omega
                  have hzd : (z : Int) ≤ (d : Int) := by have := HCap.out.1; omega
                  have hTd : (((t + 1) : Nat) : Int) ≤ (d : Int) := by omega
                  have hTz' : (((t + 1) : Nat) : Int) ≤ (z : Int) := by omega
                  have hb0 := bel_al (Below.refl w9.heap.size w9) (.cells #[] 22)
                  have hown0 : (w9.alloc (.cells #[] 22)).ownsRow w9.heap.size 22 1 (.slice (some ⟨w9.heap.size, 0, none⟩) 0 0) 0 [] := by
                    have := World.ownsRow_made (base := w9.heap.size) (size := 1) (e := 22) w9 #[] 0 (Nat.le_refl _) (by unfold maxLen; omega) rfl
                    simpa using this
                  have HY1 := Lib.hid ((HSl2.out.take hTz).keep hb0)
                  have HO1 := Lib.hid (one_take its (t + 1))
                  have HLn := Lib.hid (show (its.take (t + 1) ++ (D, e, p) :: its.drop (t + 1)).length = z + 1 by rw [List.length_append, List.length_cons, List.length_take, List.length_drop, ← HZ.out]; omega)
                  have HRn := Lib.hid (show Rf X (p.length : Int) (m + 1) ((its.take (t + 1) ++ (D, e, p) :: its.drop (t + 1)).map (·.2.2)) by
                    rw [its_ins]
                    exact HIn.out (t + 1) (by first | exact trivial | rfl) (by rw [List.length_map, ← HZ.out]; exact hTz) (fun q h1 h2 => by have := HLo.out q h1 h2; omega) HHi.out)
                  have HOk3 := Lib.hid (fun (W : World) (hW : Below w9.heap.size w9 W) => (show AllRows W (its.take (t + 1) ++ (D, e, p) :: its.drop (t + 1)) from fun t ht => by
                    rcases List.mem_append.1 ht with h | h
                    · exact (HOk2.out t (List.mem_of_mem_take h)).keep hW
                    · rcases List.mem_cons.1 h with rfl | h
                      · exact RowOK.keep ⟨HP.out, HPc.out⟩ hW
                      · exact (HOk2.out t (List.mem_of_mem_drop h)).keep hW))
                  have HFin := Lib.hid (fun (v : Value) (W : World) (h : W.ownsRow w9.heap.size 22 1 v ((t + 1) + 1 + (z - (t + 1))) ((its.map rv).take (t + 1) ++ Value.slice D p.length e :: (its.map rv).drop (t + 1))) => (show W.ownsRow w9.heap.size 22 1 v (z + 1) ((its.take (t + 1) ++ (D, e, p) :: its.drop (t + 1)).map rv) by
                    rw [its_ins]
                    rw [show (t + 1) + 1 + (z - (t + 1)) = z + 1 by omega] at h
                    exact h))
                  by_cases hlt : t + 1 < z
                  · have HY2 := Lib.hid (fun b off (h : (some ⟨b2, off2, none⟩ : Option Addr) = some ⟨b, off, none⟩) W (hW : Below w9.heap.size w9 W) => (show Sl W 1 (some ⟨b, off + (t + 1), none⟩) (z - (t + 1)) ((its.map rv).drop (t + 1)) by cases h; exact (HSl2.out.drop hTz).keep hW))
                    have HO2 := Lib.hid (one_drop its (t + 1))
                    go_wp2_with (first
                      | (at_builtin; refine wpList_cat elemIntsQ (w0 := w9) _ _ rfl rfl hown0 hb0 (Nat.le_refl _) HY1.out rfl rfl HO1.out (by unfold lim; omega) (by unfold lim; omega) ?_; intro v1 w3 hown1 hb1 _)
                      | (at_builtin; refine wpList_push elemIntsQ (w0 := w9) _ _ rfl rfl hown1 hb1 (Nat.le_refl _) rfl rfl rfl (by simp [Value.oneCell']) (by unfold lim; omega) (by unfold lim; omega) ?_; intro v2 w5 hown2 hb2)
                      | (at_builtin; refine wpList_cat elemIntsQ (w0 := w9) _ _ rfl rfl hown2 hb2 (Nat.le_refl _) (HY2.out _ _ rfl w5 hb2) rfl rfl HO2.out (by unfold lim; omega) (by unfold lim; omega) ?_; intro v3 w6 hown3 hb3 _))
                    all_goals (
                      have hown4 := HFin.out v3 w6 (by simpa using hown3)
                      obtain ⟨C3, c3, rfl, hsl3⟩ := Sl.own hown4
                      have hcap3 := own_cap hown4
                      refine ⟨⟨m + 1, C3, c3, its.take (t + 1) ++ (D, e, p) :: its.drop (t + 1), by omega, by go_num, by rw [HLn.out], by rw [HLn.out]; omega, HRn.out, by rw [HLn.out]; exact hsl3, HOk3.out w6 hb3, by rw [HLn.out]; exact hcap3, HBr2.out.andThen hb3⟩, ?_⟩
                      simp [intOf]; omega)
                  · have hz0 : z = t + 1 := by omega
                    subst hz0
                    have HNil := Lib.hid (show (its.map rv).drop (t + 1) = [] from List.drop_eq_nil_of_le (by rw [List.length_map, ← HZ.out]; exact Nat.le_refl _))
                    go_wp2_with (first
                      | (at_builtin; refine wpList_cat elemIntsQ (w0 := w9) _ _ rfl rfl hown0 hb0 (Nat.le_refl _) HY1.out rfl rfl HO1.out (by unfold lim; omega) (by unfold lim; omega) ?_; intro v1 w3 hown1 hb1 _)
                      | (at_builtin; refine wpList_push elemIntsQ (w0 := w9) _ _ rfl rfl hown1 hb1 (Nat.le_refl _) rfl rfl rfl (by simp [Value.oneCell']) (by unfold lim; omega) (by unfold lim; omega) ?_; intro v2 w5 hown2 hb2)
                      | (at_builtin; refine wpList_cat elemIntsQ (w0 := w9) _ _ rfl rfl hown2 hb2 (Nat.le_refl _) (Sl.nil _ _ _) rfl rfl (by simp) (by unfold lim; omega) (by unfold lim; omega) ?_; intro v3 w6 hown3 hb3 _))
                    all_goals (
                      have hown4 := HFin.out v3 w6 (by simpa [HNil.out] using hown3)
                      obtain ⟨C3, c3, rfl, hsl3⟩ := Sl.own hown4
                      have hcap3 := own_cap hown4
                      refine ⟨⟨m + 1, C3, c3, its.take (t + 1) ++ (D, e, p) :: its.drop (t + 1), by omega, by go_num, by rw [HLn.out], by rw [HLn.out]; omega, HRn.out, by rw [HLn.out]; exact hsl3, HOk3.out w6 hb3, by rw [HLn.out]; exact hcap3, HBr2.out.andThen hb3⟩, ?_⟩
                      simp [intOf]; omega)
          · go_wp2_with fail
            refine ⟨⟨m + 1, C, d, its, by omega, by go_num, by rw [← HZ.out], by rw [← HZ.out]; omega, HSk.out hpk, by rw [← HZ.out]; exact HSl.out.keep HB.out, HOk.out.keep HB.out, by rw [← HZ.out]; exact HCap.out, HBr.out.andThen HB.out⟩, ?_⟩
            simp [intOf]; omega
    · obtain rfl : m = N := by omega
      have hmn' : ¬ (m : Int) < (m : Int) := by omega
      go_wp2_with fail
      go_ret
      exact ⟨C, d, its, by rw [← HZ.out]; rfl, Rf.done (by rw [HL.out, ← HN.out]; exact HRf.out) HX.out, by rw [← HZ.out]; exact HSl.out, HOk.out, by rw [← HZ.out]; exact HCap.out.1, HCap.out.2, HBr.out⟩
end Go.Proofs.Ytakkdpnaoahpcaa
