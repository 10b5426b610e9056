/-
  The walk of WireLens.
-/
import Derived.Test.YtclbbchljiagpaaDoorWireG
import Derived.Test.YtclbbchljiagpaaDoorWireK
import Derived.Test.YtclbbchljiagpaaDoorWireL
import Derived.BigRegion
import Derived.Test.YtclbbchljiagpaaDoorWireParcels
namespace Go.Proofs.YtclbbchljiagpaaDoor
open Go.RowKit
set_option maxRecDepth 100000
set_option linter.unusedVariables false

theorem strOf_sB (s : ByteArray) : strOfNums (sB s) = s := by
  have h : (strOfNums (sB s)).data.toList = s.data.toList := by
    rw [strOfNums_data, sB, List.map_map]
    refine (List.map_congr_left (fun b _ => ?_)).trans (List.map_id _)
    show UInt8.ofNat ((b.toNat : Int)).toNat = b
    rw [Int.toNat_natCast]
    exact UInt8.ofNat_toNat
  cases hs : strOfNums (sB s) with | mk d =>
  cases s with | mk e =>
  rw [hs] at h
  have : d = e := by
    have h' : d.toList = e.toList := h
    exact Array.toList_inj.1 h'
  rw [this]

/-- What comes ahead. -/
def lensP : List Int := wordL 1 ++ wordL (hiN (-1)) ++ wordL (loN (-1))
theorem lensP_len : lensP.length = 12 := by simp [lensP, wordL]
def lensX (s : ByteArray) (l : List Int) : St := pList l (pText s (pLong (-1) (pNum 1 ([], .nil))))
theorem lens_12 : (pLong (-1) (pNum 1 ([], .nil))).1 = lensP := by
  have h1 : fits (1 : Int) := ⟨by omega, by omega⟩
  rw [pLong, pNum, if_pos h1]; rfl
theorem pNums_pre : ∀ (l : List Int) (st : St), ∃ r, (pNums l st).1 = st.1 ++ r
  | [], st => ⟨[], by simp [pNums]⟩
  | z :: l, st => by
    obtain ⟨r, h⟩ := pNums_pre l (pNum z st)
    rw [pNums, h, pNum]
    split
    · exact ⟨wordL z.toNat ++ r, by simp⟩
    · exact ⟨wordL 0 ++ r, by simp⟩
theorem lens_form (s : ByteArray) (l : List Int) (hs : s.size ≤ 300) : ∃ r, (lensX s l).1 = lensP ++ (wordL s.size ++ (sB s ++ r)) := by
  have hf : fits (s.size : Int) := ⟨by omega, by omega⟩
  obtain ⟨r, h⟩ := pNums_pre l (pNum l.length (pText s (pLong (-1) (pNum 1 ([], .nil)))))
  have h2 : ∃ r2, (pNum l.length (pText s (pLong (-1) (pNum 1 ([], .nil))))).1 = (pText s (pLong (-1) (pNum 1 ([], .nil)))).1 ++ r2 := by
    conv => rhs; ext r2; lhs; rw [pNum]
    split
    · exact ⟨_, rfl⟩
    · exact ⟨_, rfl⟩
  obtain ⟨r2, h2⟩ := h2
  refine ⟨r2 ++ r, ?_⟩
  rw [lensX, pList, h, h2, pText, pNum, if_pos hf, lens_12]
  simp
theorem lens_len (s : ByteArray) (l : List Int) : (lensX s l).1.length = 20 + s.size + 4 * l.length := by
  rw [lensX, pList, pNums_len, pNum_len, pText]
  simp only [List.length_append, pNum_len, sB_len, lens_12, lensP_len]
  omega
theorem lens_16 (s : ByteArray) (l : List Int) (hs : s.size ≤ 300) : ((lensX s l).1.drop 16).take s.size = sB s := by
  obtain ⟨r, h⟩ := lens_form s l hs
  rw [h, ← List.append_assoc, List.drop_left' (by rw [List.length_append, lensP_len, wordL_len]), List.take_left' (sB_len s)]
theorem lens_word (s : ByteArray) (l : List Int) (hs : s.size ≤ 300) : wordN ((lensX s l).1.drop 12) = s.size := by
  obtain ⟨r, h⟩ := lens_form s l hs
  rw [h, List.drop_left' lensP_len, wordN_of (by omega)]
theorem pNum_bys (z : Int) {st : St} (h : Bys st.1) : Bys (pNum z st).1 := by
  unfold pNum; split
  · exact h.append (wordL_bys _)
  · exact h.append (wordL_bys _)
theorem pNums_bys : ∀ (l : List Int) {st : St}, Bys st.1 → Bys (pNums l st).1
  | [], _, h => h
  | z :: l, _, h => by rw [pNums]; exact pNums_bys l (pNum_bys z h)
theorem lens_bys (s : ByteArray) (l : List Int) : Bys (lensX s l).1 := by
  rw [lensX, pList]
  refine pNums_bys _ (pNum_bys _ ?_)
  rw [pText]
  exact (pNum_bys _ ((pNum_bys 1 Bys.nil).append (wordL_bys _) |>.append (wordL_bys _))).append (sB_bys s)
theorem sum_turned {l : List Int} (hb : Bys l) {m : Nat} (hm : m < l.length) {x : Int} (hx : 0 ≤ x ∧ x ≤ 255) (hne : x ≠ l[m]) : sumL (l.set m x) ≠ sumL l := by
  have d1 : l = l.take m ++ l[m] :: l.drop (m + 1) := by rw [← List.drop_eq_getElem_cons hm, List.take_append_drop]
  have d2 : l.set m x = l.take m ++ x :: l.drop (m + 1) := List.set_eq_take_append_cons_drop .. |>.trans (if_pos hm)
  intro h
  rw [d2] at h
  refine sumL_turn (l.take m) (l.drop (m + 1)) x l[m] hx (hb _ (List.getElem_mem hm)) hne ?_
  rw [← d1]; exact h

set_option maxHeartbeats 8000000 in
theorem WireLens_yes (s : ByteArray) (A1 : Option Addr) (n1 c1 : Nat) (l1 : List Int) (A2 : Option Addr) (n2 c2 : Nat) (l2 : List Int) (at_ : Nat) (w : World) (hg : ErrT w)
    (e1 : l1.length = n1) (s1 : Sl w 1 A1 n1 (l1.map (Value.int .i64))) (r1 : ∀ x ∈ l1, -9223372036854775808 ≤ x ∧ x ≤ 9223372036854775807)
    (e2 : l2.length = n2) (s2 : Sl w 1 A2 n2 (l2.map (Value.int .u8))) (b2 : Bys l2) (hat : at_ ≤ 65535) (hs3 : s.size ≤ 300) (h1 : n1 ≤ 60) (h2 : n2 ≤ 300) :
    Calls Tryd.prog 6 #[.string s, .slice A1 n1 c1, .slice A2 n2 c2, .int .u16 at_] w fun e w' => e = .returned (.bool true) ∧ Below w.heap.size w w' := by
  have S1 := Lib.hid s1
  have S2 := Lib.hid s2
  have R1 := Lib.hid r1
  have B2 := Lib.hid b2
  have HG := Lib.hid hg
  clear s1 s2 b2 hg r1
  go_enter Tryd.func6, Tryd.ntmps6
  go_wp2_with fail
  refine (alive03 w HG.out).mono ?_
  rintro e w1 ⟨rfl, hb⟩
  have HB := Lib.hid hb
  replace S1 := Lib.hid (S1.out.keep hb)
  replace S2 := Lib.hid (S2.out.keep hb)
  clear hb HG
  have hW0 : Wr (w1.alloc (.cells #[.slice none 0 0, .nilIface] 54)) w1.heap.size w1.heap.size [] .nil :=
    ⟨Nat.le_refl _, trivial, _, _, Blk.new _ _ _, World.ownsRow_nil _ _ _ _, rfl⟩
  have HB1 := Lib.hid (bel_al (Below.refl w1.heap.size w1) (.cells #[.slice none 0 0, .nilIface] 54))
  have HN := Lib.hid (Num_any 1 (by omega) _ _ ([], .nil) _ hW0 (by simp))
  clear hW0
  go_wp2_with fail
  refine HN.out.mono ?_
  rintro e w2 ⟨rfl, hW, hb⟩
  have HB2 := Lib.hid (HB1.out.trans hb)
  have HL := Lib.hid (Long_any (-1) (by omega) _ _ (pNum 1 ([], .nil)) _ hW (by rw [pNum_len]; simp))
  clear hW hb HN HB1
  go_wp2_with fail
  refine HL.out.mono ?_
  rintro e w3 ⟨rfl, hW, hb⟩
  have HB3 := Lib.hid (HB2.out.trans hb)
  have HW := Lib.hid hW
  have h12 : (pLong (-1) (pNum 1 ([], .nil))).1.length = 12 := by rw [lens_12, lensP_len]
  have HBy := Lib.hid (Bytes_any _ _ (pLong (-1) (pNum 1 ([], .nil))) w3 hW (by rw [h12]; omega))
  rw [h12] at HBy
  have HLX := Lib.hid (show lensX s l1 = pList l1 (pText s (pLong (-1) (pNum 1 ([], .nil)))) from rfl)
  generalize pLong (-1) (pNum 1 ([], .nil)) = st0 at *
  clear hW hb HL HB2
  go_wp2_with fail
  refine HBy.out.mono ?_
  rintro e w4 ⟨C4, k4, rfl, _, _, hb⟩
  have HB4 := Lib.hid (HB3.out.andThen hb)
  have HT := Lib.hid (Text_any s (by omega) _ _ st0 w4 (HW.out.keep hb) (by omega))
  clear hb HBy HB3 HW
  go_wp2_with fail
  refine HT.out.mono ?_
  rintro e w5 ⟨rfl, hW, hb⟩
  have HB5 := Lib.hid (HB4.out.trans hb)
  have htl : (pText s st0).1.length ≤ 1000 := by simp only [pText, List.length_append, pNum_len, sB_len, h12]; omega
  have HLi := Lib.hid (List_any l1 R1.out A1 n1 c1 (by omega) e1 _ _ (pText s st0) w5 (fun W hW' => S1.out.keep (HB5.out.trans hW')) hW (by omega))
  clear hW hb HT HB4
  go_wp2_with fail
  refine HLi.out.mono ?_
  rintro e w6 ⟨rfl, hW, hb⟩
  have HB6 := Lib.hid (HB5.out.trans hb)
  rw [← HLX.out] at hW
  have hxl := lens_len s l1
  rw [e1] at hxl
  have HX16 := Lib.hid (lens_16 s l1 hs3)
  have HXW := Lib.hid (lens_word s l1 hs3)
  have HXB := Lib.hid (lens_bys s l1)
  generalize lensX s l1 = stx at *
  have HW := Lib.hid hW
  have HBy := Lib.hid (Bytes_any _ _ stx w6 hW (by omega))
  rw [hxl] at HBy
  clear hW hb HLi HB5 htl
  go_wp2_with fail
  refine HBy.out.mono ?_
  rintro e w7 ⟨C7, k7, rfl, hs7, hk7, hb⟩
  have HB7 := Lib.hid (HB6.out.andThen hb)
  replace HW := Lib.hid (HW.out.keep hb)
  obtain ⟨gx, ox, rfl, _⟩ := hs7.2 (by omega)
  have HS7 := Lib.hid hs7
  replace S2 := Lib.hid (S2.out.keep HB7.out)
  have hcvS : Sl w7 1 (some ⟨gx, ox + 16, none⟩) s.size ((sB s).map (Value.int .u8)) := by
    have h := (hs7.drop (k := 16) (by omega)).take (k := s.size) (by omega)
    rwa [← List.map_drop, ← List.map_take, HX16.out] at h
  have hcv := conv_bytes w7 gx (ox + 16) s.size (k7 - 16) (sB s) (sB_len s) hcvS
  rw [strOf_sB] at hcv
  replace HB := Lib.hid (HB.out.andThen HB7.out)
  clear hs7 hb HBy HB6 hcvS HB7 S1 R1 HLX h12
  have d1 : (16 : Int) ≤ 16 + (s.size : Int) := by omega
  have d2 : 16 + (s.size : Int) ≤ (k7 : Int) := by omega
  have d3 : (16 + (s.size : Int)).toNat = 16 + s.size := by omega
  have d4 : 16 + s.size - 16 = s.size := by omega
  have d5 : ¬ k7 = 16 := by omega
  have d6 : ((20 + s.size + 4 * n1 : Nat) : Int) = 16 + (s.size : Int) + 4 + 4 * (n1 : Int) := by omega
  have d7 : (s.toList == s.toList) = true := by simp
  have d8 : ((20 + s.size + 4 * n1 : Nat) : Int) - 12 = ((20 + s.size + 4 * n1 - 12 : Nat) : Int) := by omega
  have d9 : ((20 + s.size + 4 * n1 - (16 + s.size) : Nat) : Int) = 4 + 4 * (n1 : Int) := by omega
  have hnx1 : 20 + s.size + 4 * n1 ≤ 1000 := by omega
  have hnx2 : 16 + s.size ≤ 20 + s.size + 4 * n1 := by omega
  have hnx3 : 20 ≤ 20 + s.size + 4 * n1 := by omega
  generalize 20 + s.size + 4 * n1 = nx at *
  by_cases hn0 : n2 = 0
  · have hn0' : ¬ (0 : Int) < (n2 : Int) := by omega
    clear hn0
    go_wp2_with fail
    refine (NewReader_any _ nx k7 w7).mono ?_
    rintro e w20 ⟨gr, rfl, hR, hb⟩
    have HB20 := Lib.hid hb
    have HNum := Lib.hid (Num_ok gr _ _ nx k7 0 stx.1 w20 hR (by omega) (by omega) hk7.1 hk7.2 hxl HXB.out (fun W' h => HS7.out.keep (hb.trans h)))
    clear hR hb
    go_wp2_with fail
    refine HNum.out.mono ?_
    rintro e w21 ⟨rfl, hR, hb⟩
    have HB21 := Lib.hid (HB20.out.trans hb)
    have HLong := Lib.hid (Long_ok gr _ _ nx k7 4 stx.1 w21 hR (by omega) (by omega) hk7.1 hk7.2 hxl HXB.out (fun W' h => HS7.out.keep (HB21.out.trans h)))
    clear hR hb HNum HB20
    go_wp2_with fail
    refine HLong.out.mono ?_
    rintro e w22 ⟨rfl, hR, hb⟩
    have HB22 := Lib.hid (HB21.out.trans hb)
    have HR22 := Lib.hid hR
    clear hR hb HLong HB21
    go_wp2_with fail
    refine (Left_any gr _ _ nx k7 12 .nil w22 HR22.out (by omega)).mono ?_
    rintro e w23 ⟨rfl, hb⟩
    have HB23 := Lib.hid (HB22.out.andThen hb)
    have hT := Text_ok gr _ _ nx k7 12 stx.1 w23 (HR22.out.keep hb) (by rw [HXW.out]; omega) (by omega) hk7.1 hk7.2 hxl HXB.out (fun W' h => HS7.out.keep (HB23.out.trans h))
    rw [HXW.out, show 12 + 4 = 16 from rfl, HX16.out, strOf_sB] at hT
    have HT := Lib.hid hT
    clear hb hT HB22 HR22
    go_wp2_with fail
    refine HT.out.mono ?_
    rintro e w24 ⟨rfl, hR, hb⟩
    have HB24 := Lib.hid (HB23.out.trans hb)
    have HL := Lib.hid (Left_any gr _ _ nx k7 (16 + s.size) .nil w24 hR (by omega))
    clear hR hb HT HB23
    go_wp2_with fail
    refine HL.out.mono ?_
    rintro e w25 ⟨rfl, hb⟩
    have HB25 := Lib.hid (HB24.out.andThen hb)
    rw [d9]
    have HP := Lib.hid (Pack_any 9 l2 A2 n2 c2 w25 (by omega) e2 (by omega) B2.out (S2.out.keep HB25.out))
    clear hb HL HB24
    go_wp2_with fail
    refine HP.out.mono ?_
    rintro e w26 ⟨C26, k26, rfl, _, _, hb⟩
    have HB26 := Lib.hid (HB25.out.andThen hb)
    have HBy := Lib.hid (Bytes_any _ _ stx w26 (HW.out.keep HB26.out) (by omega))
    rw [hxl] at HBy
    clear hb HP HB25
    have d10 : ((n2 + 13 : Nat) : Int) = (n2 : Int) + 13 := by omega
    go_wp2_with fail
    refine HBy.out.mono ?_
    rintro e w27 ⟨C27, k27, rfl, _, _, hb⟩
    have HB27 := Lib.hid (HB26.out.andThen hb)
    clear hb HBy HB26
    go_wp2_with fail
    go_ret
    exact ⟨rfl, HB.out.andThen HB27.out⟩
  · have hn0' : (0 : Int) < (n2 : Int) := by omega
    have hmod : ((at_ : Int) % (n2 : Int)) = ((at_ % n2 : Nat) : Int) := rfl
    have hmlt : at_ % n2 < n2 := Nat.mod_lt _ (by omega)
    generalize at_ % n2 = m at *
    have hml : m < l2.length := by omega
    have hml2 : (m : Int) < (n2 : Int) := by omega
    have hpr := B2.out _ (List.getElem_mem hml)
    have HXO := Lib.hid (xor_u8 l2[m] 1 hpr (by omega) (by omega))
    have HFL := Lib.hid (fun x (hx : 0 ≤ x ∧ x ≤ 255) (hne : x ≠ l2[m]) => sum_turned B2.out hml hx hne)
    have HPM := Lib.hid (List.getElem?_eq_getElem hml)
    generalize l2[m] = pm at HXO HFL HPM
    have hbA := bel_al (Below.refl w7.heap.size w7) (.cells #[] 5)
    have HOE := Lib.hid (World.ownsRow_made (e := 5) (size := 1) w7 #[] 0 (Nat.le_refl _) (Nat.zero_le _) rfl)
    have HBA := Lib.hid hbA
    have SPA := Lib.hid (S2.out.keep hbA)
    clear hbA hpr
    go_wp2_with (at_builtin; refine wpList_cat_lies elemByte _ _ rfl rfl HOE.out HBA.out.size SPA.out (by omega) rfl rfl (one_u8 _) (by unfold lim; omega) (by unfold lim; omega) ?_; intro g12 c12 w12 hown12 hg12; have HO12 := Lib.hid hown12; have HB12 := Lib.hid (HBA.out.trans (hg12.belowOwn HBA.out.size HOE.out)); have hc12 := own_cell (m := m) (x := pm) hown12 HPM.out; have hf12 := hown12.frozenAt m; clear hown12 hg12 HOE HBA SPA)
    go_region
    replace HO12 := Lib.hid (show w12.ownsRow w7.heap.size 5 1 (.slice (some ⟨g12, 0, none⟩) n2 c12) n2 (l2.map (Value.int .u8)) by
      have h := HO12.out
      rw [List.nil_append, Nat.zero_add] at h
      exact h)
    have hO13 := (HO12.out.stored m (.int .u8 (bits .xor .u8 pm 1))).1
    rw [← List.map_set] at hO13
    have hB13 : Below w7.heap.size w7 (w12.setCell ⟨g12, m, none⟩ (.int .u8 (bits .xor .u8 pm 1))) := HB12.out.setCell (p := ⟨g12, m, none⟩) (HO12.out.lt g12 rfl).1 _
    obtain ⟨w13, hw13⟩ : ∃ w13, w13 = (w12.setCell ⟨g12, m, none⟩ (.int .u8 (bits .xor .u8 pm 1))).drew := ⟨_, rfl⟩
    rw [← hw13]
    have hb13 : Below w7.heap.size w7 w13 := by rw [hw13]; exact bel_drewN hB13 1
    have hS13 : Sl w13 1 (some ⟨g12, 0, none⟩) n2 ((l2.set m (bits .xor .u8 pm 1)).map (Value.int .u8)) := by rw [hw13]; exact (Sl.of_own hO13).drew
    have HSumC := Lib.hid (Sum_any _ _ n2 c12 w13 (by rw [List.length_set]; exact e2) (by omega) (B2.out.set m HXO.out.1.1 HXO.out.1.2) hS13)
    replace S2 := Lib.hid (S2.out.keep hb13)
    replace HW := Lib.hid (HW.out.keep hb13)
    replace HS7 := Lib.hid (HS7.out.keep hb13)
    replace HB := Lib.hid (HB.out.andThen hb13)
    have HSumB := Lib.hid (Sum_any l2 A2 n2 c2 w13 e2 (by omega) B2.out S2.out)
    have hne := HFL.out _ HXO.out.1 HXO.out.2
    have hsl1 := sumL_lt (l2.set m (bits .xor .u8 pm 1))
    have hsl2 := sumL_lt l2
    generalize sumL (l2.set m (bits .xor .u8 pm 1)) = SC at HSumC hne hsl1
    generalize sumL l2 = SB at HSumB hne hsl2
    have hne' : ((SC : Int) == (SB : Int)) = false := by simp; omega
    clear hw13 hb13 hS13 hO13 hB13 HO12 HB12 hc12 hf12 HXO HFL HPM hcv hne
    go_wp2_with fail
    refine HSumC.out.mono ?_
    rintro e w0 ⟨rfl, rfl⟩
    go_wp2_with fail
    refine HSumB.out.mono ?_
    rintro e w0 ⟨rfl, rfl⟩
    clear HSumC HSumB
    go_wp2_with fail
    refine (NewReader_any _ nx k7 w13).mono ?_
    rintro e w20 ⟨gr, rfl, hR, hb⟩
    have HB20 := Lib.hid hb
    have HNum := Lib.hid (Num_ok gr _ _ nx k7 0 stx.1 w20 hR (by omega) (by omega) hk7.1 hk7.2 hxl HXB.out (fun W' h => HS7.out.keep (hb.trans h)))
    clear hR hb
    go_wp2_with fail
    refine HNum.out.mono ?_
    rintro e w21 ⟨rfl, hR, hb⟩
    have HB21 := Lib.hid (HB20.out.trans hb)
    have HLong := Lib.hid (Long_ok gr _ _ nx k7 4 stx.1 w21 hR (by omega) (by omega) hk7.1 hk7.2 hxl HXB.out (fun W' h => HS7.out.keep (HB21.out.trans h)))
    clear hR hb HNum HB20
    go_wp2_with fail
    refine HLong.out.mono ?_
    rintro e w22 ⟨rfl, hR, hb⟩
    have HB22 := Lib.hid (HB21.out.trans hb)
    have HR22 := Lib.hid hR
    clear hR hb HLong HB21
    go_wp2_with fail
    refine (Left_any gr _ _ nx k7 12 .nil w22 HR22.out (by omega)).mono ?_
    rintro e w23 ⟨rfl, hb⟩
    have HB23 := Lib.hid (HB22.out.andThen hb)
    have hT := Text_ok gr _ _ nx k7 12 stx.1 w23 (HR22.out.keep hb) (by rw [HXW.out]; omega) (by omega) hk7.1 hk7.2 hxl HXB.out (fun W' h => HS7.out.keep (HB23.out.trans h))
    rw [HXW.out, show 12 + 4 = 16 from rfl, HX16.out, strOf_sB] at hT
    have HT := Lib.hid hT
    clear hb hT HB22 HR22
    go_wp2_with fail
    refine HT.out.mono ?_
    rintro e w24 ⟨rfl, hR, hb⟩
    have HB24 := Lib.hid (HB23.out.trans hb)
    have HL := Lib.hid (Left_any gr _ _ nx k7 (16 + s.size) .nil w24 hR (by omega))
    clear hR hb HT HB23
    go_wp2_with fail
    refine HL.out.mono ?_
    rintro e w25 ⟨rfl, hb⟩
    have HB25 := Lib.hid (HB24.out.andThen hb)
    rw [d9]
    have HP := Lib.hid (Pack_any 9 l2 A2 n2 c2 w25 (by omega) e2 (by omega) B2.out (S2.out.keep HB25.out))
    clear hb HL HB24
    go_wp2_with fail
    refine HP.out.mono ?_
    rintro e w26 ⟨C26, k26, rfl, _, _, hb⟩
    have HB26 := Lib.hid (HB25.out.andThen hb)
    have HBy := Lib.hid (Bytes_any _ _ stx w26 (HW.out.keep HB26.out) (by omega))
    rw [hxl] at HBy
    clear hb HP HB25
    have d10 : ((n2 + 13 : Nat) : Int) = (n2 : Int) + 13 := by omega
    go_wp2_with fail
    refine HBy.out.mono ?_
    rintro e w27 ⟨C27, k27, rfl, _, _, hb⟩
    have HB27 := Lib.hid (HB26.out.andThen hb)
    clear hb HBy HB26
    go_wp2_with fail
    go_ret
    exact ⟨rfl, HB.out.andThen HB27.out⟩

set_option maxHeartbeats 2000000 in
theorem WireLens_main (s : ByteArray) (A1 : Option Addr) (n1 c1 : Nat) (l1 : List Int) (A2 : Option Addr) (n2 c2 : Nat) (l2 : List Int) (a3 : Int) (w : World) (hg : ErrT w)
    (w0 : s.size ≤ maxLen) (m1 : n1 ≤ maxLen) (e1 : l1.length = n1) (s1 : Sl w 1 A1 n1 (l1.map (Value.int .i64))) (w1 : ∀ z ∈ l1, (Lit.int .i64 z).wf = true)
    (m2 : n2 ≤ maxLen) (e2 : l2.length = n2) (s2 : Sl w 1 A2 n2 (l2.map (Value.int .u8))) (w2 : ∀ z ∈ l2, (Lit.int .u8 z).wf = true) (w3 : (Lit.int .u16 a3).wf = true) :
    Calls Tryd.prog 6 #[.string s, .slice A1 n1 c1, .slice A2 n2 c2, .int .u16 a3] w fun e w' => e = .returned (.bool true) ∧ Below w.heap.size w w' := by
  by_cases h : s.size ≤ 300 ∧ n1 ≤ 60 ∧ n2 ≤ 300
  · have h3 := wf_u16 w3
    obtain ⟨at_, rfl⟩ := Int.eq_ofNat_of_zero_le h3.1
    exact WireLens_yes s A1 n1 c1 l1 A2 n2 c2 l2 at_ w hg e1 s1 (fun x hx => wf_i64 (w1 x hx)) e2 s2 (fun x hx => wf_u8 (w2 x hx)) (by omega) h.1 h.2.1 h.2.2
  · go_enter Tryd.func6, Tryd.ntmps6
    go_wp2_with fail
    refine (alive03 w hg).mono ?_
    rintro e w1 ⟨rfl, hb⟩
    have HB := Lib.hid hb
    clear hb s1 s2 hg
    by_cases h1 : s.size ≤ 300
    · by_cases h2 : n1 ≤ 60
      · have h3 : 300 < n2 := by omega
        clear h
        go_wp2_with fail
        go_ret
        exact ⟨rfl, HB.out⟩
      · clear h
        go_wp2_with fail
        go_ret
        exact ⟨rfl, HB.out⟩
    · clear h
      go_wp2_with fail
      go_ret
      exact ⟨rfl, HB.out⟩
end Go.Proofs.YtclbbchljiagpaaDoor
