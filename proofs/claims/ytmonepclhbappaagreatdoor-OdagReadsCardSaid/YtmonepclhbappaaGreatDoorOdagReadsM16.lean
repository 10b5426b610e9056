/-
  Part 16 of the proof of OdagReads: OdRd, WrB, OdBt, OdagReads.
-/
import Derived.BigQuiet
import Derived.Deep.DeepCutAuto
import Derived.Test.YtmonepclhbappaaGreatDoorOdagReadsM14
import Derived.Test.YtmonepclhbappaaGreatDoorOdagReadsM15
import Derived.Test.YtmonepclhbappaaGreatDoorOdagReadsM7
import Derived.WalkSpells
import Derived.Test.YtmonepclhbappaaGreatDoorOdagReadsM12
import Derived.Test.YtmonepclhbappaaGreatDoorOdagReadsM10
import Derived.Test.YtmonepclhbappaaGreatDoorOdagReadsM6
/-
  Odags: Read, of any bytes.
-/
namespace Go.Proofs.YtmonepclhbappaaGreatDoor
open Go.RowKit Go.Maps
set_option maxRecDepth 100000
set_option linter.unusedVariables false

set_option maxHeartbeats 2000000 in
theorem Num_short (g B : Nat) (A : Option Addr) (n c a : Nat) (w : World) (hR : Rd w B g A n c a .nil) (hm : n < a + 4) (hn : n ≤ 1099511627776) :
    Calls Tryz.prog 63 #[.pointer (some ⟨g, 0, none⟩)] w fun e w' => e = .returned (.int .i64 0) ∧ Rd w' B g A n c a (.flt 9 a txtBytes) ∧ Below B w w' ∧ Asd g w w' := by
  obtain ⟨hc0, hc1⟩ := rd_cells hR
  have HT := Lib.hid (num_short g B A n c a a w hR hm hn hR.2.2.1)
  clear hR
  go_enter Tryz.func63, Tryz.ntmps63
  go_wp2_with fail
  refine HT.out.mono ?_
  rintro e w1 ⟨rfl, h1, h2, h3⟩
  have H1 := Lib.hid h1
  have H2 := Lib.hid h2
  have H3 := Lib.hid h3
  clear h1 h2 h3 HT hc0 hc1
  go_wp2_with fail
  go_ret
  exact ⟨rfl, H1.out, H2.out, H3.out⟩
set_option maxHeartbeats 2000000 in
theorem End_left (g B : Nat) (A : Option Addr) (n c a : Nat) (w : World) (hR : Rd w B g A n c a .nil) (hn : n ≤ 1099511627776) (ha : a < n) :
    Calls Tryz.prog 55 #[.pointer (some ⟨g, 0, none⟩)] w fun e w' => ∃ ev, e = .returned ev ∧ (Err.flt 2 a txtBytes).At w' ev ∧ Below w.heap.size w w' := by
  have HL := Lib.hid (Left_any g B A n c a .nil w hR hn)
  have HRd := Lib.hid hR
  obtain ⟨_, hf, _, ev, hb, he⟩ := hR
  obtain rfl : ev = .nilIface := he
  have hc2 := hb.cell 2
  simp at hc2
  clear hb
  have hpos : (0 : Int) < ((n - a : Nat) : Int) := by omega
  generalize hd : n - a = dd at *
  clear hd
  go_enter Tryz.func55, Tryz.ntmps55
  go_wp2_with fail
  refine HL.out.mono ?_
  rintro e w1 ⟨rfl, hb⟩
  obtain ⟨hc0, hc1⟩ := rd_cells (HRd.out.keep hb)
  have HB := Lib.hid hb
  clear hb
  go_wp2_with fail
  refine (New_err 2 a txtBytes w1).mono ?_
  rintro e w2 ⟨v, rfl, hv, hb2⟩
  have HV := Lib.hid hv
  have HB2 := Lib.hid hb2
  clear hv hb2
  go_wp2_with fail
  go_ret
  exact ⟨_, rfl, HV.out, HB.out.andThen HB2.out⟩
/-- End, whatever there is. -/
theorem End_gen (g B : Nat) (A : Option Addr) (n c a : Nat) (E : Err) (w : World) (hR : Rd w B g A n c a E) (hE : E = .nil ∨ rdBad E) (hn : n ≤ 1099511627776) :
    Calls Tryz.prog 55 #[.pointer (some ⟨g, 0, none⟩)] w fun e w' => ∃ ev, e = .returned ev ∧ Below w.heap.size w w' ∧ ((E = .nil ∧ a = n ∧ ev = .nilIface) ∨ ∃ (E' : Err) (T : TypeId) (x : Value), E'.At w' ev ∧ ev = .iface T x ∧ E' ≠ .nil ∧ (E'.code = 2 ∨ E'.code = 6 ∨ E'.code = 9) ∧ (E = .nil → a < n)) := by
  have han := hR.2.2.1
  rcases hE with rfl | hE
  · by_cases h : a = n
    · subst h
      exact (End_ok g B A a c w hR hn).mono fun e w' ⟨h1, h2⟩ => ⟨_, h1, h2, .inl ⟨rfl, rfl, rfl⟩⟩
    · refine (End_left g B A n c a w hR hn (by omega)).mono fun e w' ⟨ev, h1, h2, h3⟩ => ⟨ev, h1, h3, .inr ?_⟩
      have hne : Err.flt 2 (a : Int) txtBytes ≠ .nil := fun e => by cases e
      obtain ⟨T, x, rfl⟩ := Err.At.iface_ h2 hne
      exact ⟨_, T, x, h2, rfl, hne, .inl rfl, fun _ => by omega⟩
  · refine (End_err g B A n c a E w hR hE.ne).mono fun e w' ⟨T, x, h1, h2, h3⟩ => ?_
    subst h3
    refine ⟨_, h1, Below.refl _ _, .inr ⟨E, T, x, h2, rfl, hE.ne, ?_, fun e => absurd e hE.ne⟩⟩
    obtain ⟨a', s, rfl | rfl⟩ := hE
    · exact .inr (.inr rfl)
    · exact .inr (.inl rfl)
theorem bytesO_head {od : List Rw} {N : Nat} (h : WfO od N) : 4 ≤ (bytesO od).length ∧ wordN (bytesO od) = N := by
  have h8 := h.h8
  have e : bytesO od = wordL od.length ++ ((od.map keysR).flatMap encW ++ (od.take (od.length - 1)).flatMap encLk) := by unfold bytesO; rw [List.append_assoc]
  rw [e]
  refine ⟨by rw [List.length_append, wordL_len]; omega, ?_⟩
  rw [wordN_of (by rw [h.len]; omega), h.len]
/-- What Read gives. -/
def RdPost (l : List Int) (w : World) (e : Ending) (w' : World) : Prop :=
  Below w.heap.size w w' ∧ ((∃ p od N, e = .returned (.tuple #[.pointer (some ⟨p, 0, none⟩), .nilIface]) ∧ OdM w' p od ∧ WfO od N ∧ bytesO od = l) ∨
    ∃ (E : Err) (T : TypeId) (x : Value), e = .returned (.tuple #[.pointer none, .iface T x]) ∧ E.At w' (.iface T x) ∧ (E.code = 1 ∨ E.code = 2 ∨ E.code = 3 ∨ E.code = 6 ∨ E.code = 9) ∧ ∀ od N, WfO od N → bytesO od ≠ l)
theorem in_code {E : Err} {s : ByteArray} : (E.in_ s).code = E.code := by cases E <;> rfl
theorem in_ne {E : Err} {s : ByteArray} (h : E ≠ .nil) : E.in_ s ≠ .nil := by rw [Err.in_of h]; intro e; cases e

set_option maxHeartbeats 16000000 in
theorem ReadOd_any (l : List Int) (A : Option Addr) (n c : Nat) (w : World) (hn : n ≤ 100000) (hnc : n ≤ c) (hc9 : c ≤ 9223372036854775807) (hl : l.length = n) (hb : Bys l) (hs : Sl w 1 A n (l.map (Value.int .u8))) :
    Calls Tryz.prog 24 #[.slice A n c] w (RdPost l w) := by
  have HS := Lib.hid hs
  have HBt := Lib.hid hb
  have HL := Lib.hid hl
  clear hs hb hl
  go_enter Tryz.func24, Tryz.ntmps24
  go_upto_region 2 with (go_at_call 53; refine (NewReader_any A n c w).mono ?_; rintro e w1 ⟨g, rfl, hr, hb1⟩; have HR1 := Lib.hid hr; have HB1 := Lib.hid hb1; clear hr hb1)
  by_cases h4 : n < 4
  · have h4' : (n : Int) < 4 := by omega
    have HNm := Lib.hid (Num_short g w.heap.size A n c 0 w1 HR1.out (by omega) (by omega))
    have HNo := Lib.hid (show ∀ od N, WfO od N → bytesO od ≠ l from fun od N hw e => by
      have h := (bytesO_head hw).1
      rw [e, HL.out] at h
      omega)
    go_upto_region 4 with (go_at_call 63; refine HNm.out.mono ?_; clear HNm; rintro e w2 ⟨rfl, hr, hb2, ha2⟩; have HR2 := Lib.hid hr; have HB2 := Lib.hid (HB1.out.trans hb2); clear hr hb2 ha2)
    have HEn := Lib.hid (End_err g w.heap.size A n c 0 _ w2 HR2.out (fun e => by cases e))
    go_wp2_with (first
      | (go_at_call 55; refine HEn.out.mono ?_; clear HEn; rintro e w3 ⟨T, x, rfl, he, rfl⟩; have HE3 := Lib.hid he; have HIn := Lib.hid (In_any ⟨#[111, 100, 97, 103]⟩ _ _ w2 he); clear he)
      | (go_at_call 56; refine HIn.out.mono ?_; clear HIn; rintro e w4 ⟨v', rfl, he, hb4⟩; have HE4 := Lib.hid he; have HB4 := Lib.hid hb4; clear he hb4)
      | fail)
    obtain ⟨T', x', rfl⟩ := Err.At.iface_ HE4.out (in_ne (fun e => by cases e))
    go_ret2
    refine ⟨HB2.out.andThen HB4.out, .inr ⟨_, _, _, rfl, HE4.out, ?_, HNo.out⟩⟩
    rw [in_code]
    exact .inr (.inr (.inr (.inr rfl)))
  · have h4' : ¬ (n : Int) < 4 := by omega
    have HNm := Lib.hid (Num_okA g w.heap.size A n c 0 l w1 HR1.out (by omega) (by omega) hnc hc9 HL.out HBt.out (fun W hW => HS.out.keep (HB1.out.trans hW)))
    rw [List.drop_zero] at HNm
    have HW4 := Lib.hid (wordL_of HBt.out (by rw [HL.out]; omega))
    have HWn := Lib.hid (show ∀ od N, WfO od N → bytesO od = l → N = wordN l from fun od N hw e => by rw [← e]; exact (bytesO_head hw).2.symm)
    obtain ⟨N, hN⟩ : ∃ N, N = wordN l := ⟨_, rfl⟩
    rw [← hN] at HNm HW4 HWn
    clear hN
    go_upto_region 5 with (go_at_call 63; refine HNm.out.mono ?_; clear HNm; rintro e w2 ⟨rfl, hr, hb2, ha2⟩; have HR2 := Lib.hid hr; have HB2 := Lib.hid (HB1.out.trans hb2); clear hr hb2 ha2)
    by_cases hbad : N < 1 ∨ 8 < N
    · have HFr := Lib.hid (fresh_bad (N : Int) w2 (by omega))
      have HNo := Lib.hid (show ∀ od N', WfO od N' → bytesO od ≠ l from fun od N' hw e => by
        have h := HWn.out od N' hw e
        have h1 := hw.h1
        have h8 := hw.h8
        omega)
      clear hbad
      go_upto_region 6 with (go_at_call 64; refine HFr.out.mono ?_; clear HFr; rintro e w3 ⟨ev, rfl, he, hb3⟩; have HE3 := Lib.hid he; have HB3 := Lib.hid hb3; clear he hb3)
      obtain ⟨T, x, rfl⟩ := Err.At.iface_ HE3.out (fun e => by cases e)
      go_wp2_with fail
      go_ret2
      exact ⟨HB2.out.andThen HB3.out, .inr ⟨_, _, _, rfl, HE3.out, .inl rfl, HNo.out⟩⟩
    · have hN1 : 1 ≤ N := by omega
      have hN8 : N ≤ 8 := by omega
      have HFr := Lib.hid (fresh_T N w2 hN1 hN8)
      clear hbad
      go_upto_region 8 with (go_at_call 64; refine HFr.out.mono ?_; clear HFr; rintro e w3 ⟨O, rfl, ⟨v, bs, ho, hbs⟩, hb3⟩; have HO3 := Lib.hid ho; have HBs := Lib.hid hbs; have HB3 := Lib.hid hb3; clear ho hbs hb3)
      have hsz : w.heap.size ≤ w2.heap.size := HB2.out.size
      have HM3 := Lib.hid (show Mem w w.heap.size g O v bs A n c 4 .nil (.slice none 0 0) [] (List.replicate N []) w3 from by
        have h := HO3.out
        refine ⟨HR2.out.keep HB3.out, World.ownsRow_nil _ _ _ _, (fun t ht => by cases ht), ⟨h.1, own_mono h.2.1 hsz, h.2.2.1, h.2.2.2.1, h.2.2.2.2⟩, HB2.out.andThen HB3.out⟩)
      have HRd := Lib.hid (read_any w w3 w.heap.size g O N v bs A n c l hn hnc hc9 HL.out HBt.out (fun W hW => HS.out.keep hW) hN1 hN8 HM3.out (fun b hb => Nat.le_trans hsz (HBs.out b hb)) ⟨rfl, (fun xs h => by cases h), (fun _ => ⟨by rw [HL.out]; omega, by rw [HW4.out, List.flatMap_nil, List.append_nil]⟩), fun od hw e => ⟨rfl, rfl⟩⟩)
      clear hsz
      go_upto_region 9 with (go_at_call 65; refine HRd.out.mono ?_; clear HRd; intro e w4 hp; obtain ⟨ev, hev⟩ : ∃ ev, e = .returned ev := (by rcases hp with ⟨_, _, _, _, _, h, _⟩ | ⟨_, _, _, _, _, h, _⟩ <;> exact ⟨_, h⟩); subst hev; have HP := Lib.hid hp; clear hp)
      rcases HP.out with ⟨a, E, rvv, its, od', he, hE, hM4, hW, hT, hG⟩ | ⟨gv, cc, t, a, hcc, he, hblk, hR4, hB4, hno⟩
      · injection he with he
        subst he
        have HM4 := Lib.hid hM4
        have HEn := Lib.hid (End_gen g w.heap.size A n c a E w4 hM4.1 hE (by omega))
        have HRs := Lib.hid (And.intro hW (And.intro hT hG))
        clear hE hM4 hW hT hG
        go_upto_region 10 with (go_at_call 55; refine HEn.out.mono ?_; clear HEn; rintro e w5 ⟨ev5, rfl, hb5, hd5⟩; have HB5 := Lib.hid hb5; have HD5 := Lib.hid hd5; clear hb5 hd5)
        rcases HD5.out with ⟨rfl, rfl, rfl⟩ | ⟨E', T, x, he5, rfl, hne5, hc5, hlt5⟩
        · have HTk := Lib.hid (HRs.out.2.1 rfl).2
          have HWf := Lib.hid HRs.out.1
          clear HRs
          go_wp2_with fail
          go_ret2
          refine ⟨HM4.out.2.2.2.2.andThen HB5.out, .inl ⟨O, od', N, rfl, (HM4.out.2.2.2.1.keep HB5.out).odM, HWf.out, ?_⟩⟩
          have h := HTk.out
          rw [List.take_of_length_le (by rw [HL.out]; exact Nat.le_refl _)] at h
          exact h.symm
        · have HIn := Lib.hid (In_any ⟨#[111, 100, 97, 103]⟩ E' _ w5 he5)
          have HNo := Lib.hid (show ∀ od N', WfO od N' → bytesO od ≠ l from fun od N' hw e => by
            obtain rfl := HWn.out od N' hw e
            obtain ⟨hEn, hod⟩ := HRs.out.2.2 od hw e
            have h1 := hlt5 hEn
            have h2 := (HRs.out.2.1 hEn).2
            rw [hod, e] at h2
            have h3 := congrArg List.length h2
            rw [List.length_take, HL.out] at h3
            omega)
          have HC5 := Lib.hid (And.intro hne5 hc5)
          clear he5 hne5 hc5 hlt5
          go_wp2_with (go_at_call 56; refine HIn.out.mono ?_; clear HIn; rintro e w6 ⟨v', rfl, he, hb6⟩; have HE6 := Lib.hid he; have HB6 := Lib.hid hb6; clear he hb6)
          obtain ⟨T', x', rfl⟩ := Err.At.iface_ HE6.out (in_ne HC5.out.1)
          go_ret2
          refine ⟨HM4.out.2.2.2.2.andThen (HB5.out.andThen HB6.out), .inr ⟨_, _, _, rfl, HE6.out, ?_, HNo.out⟩⟩
          rw [in_code]
          rcases HC5.out.2 with h | h | h
          · exact .inr (.inl h)
          · exact .inr (.inr (.inr (.inl h)))
          · exact .inr (.inr (.inr (.inr h)))
      · injection he with he
        subst he
        have HEn := Lib.hid (End_gen g w.heap.size A n c a .nil w4 hR4 (.inl rfl) (by omega))
        have HB4 := Lib.hid hB4
        have HBk := Lib.hid hblk
        have HNo := Lib.hid (show ∀ od N', WfO od N' → bytesO od ≠ l from fun od N' hw e => by
          obtain rfl := HWn.out od N' hw e
          exact hno od hw e)
        have HCc := Lib.hid hcc
        clear hR4 hB4 hblk hno hcc
        go_upto_region 10 with (go_at_call 55; refine HEn.out.mono ?_; clear HEn; rintro e w5 ⟨ev5, rfl, hb5, hd5⟩; have HB5 := Lib.hid hb5; have HD5 := Lib.hid hd5; clear hb5 hd5)
        have HF := Lib.hid (show RdPost l w (.returned (.tuple #[.pointer none, .iface 104 (.pointer (some ⟨gv, 0, none⟩))])) w5 from by
          refine ⟨HB4.out.andThen HB5.out, .inr ⟨.flt cc 0 t, _, _, rfl, ⟨gv, rfl, HBk.out.keep HB5.out⟩, ?_, HNo.out⟩⟩
          rcases HCc.out with h | h
          · exact .inr (.inl h)
          · exact .inr (.inr (.inl h)))
        rcases HD5.out with ⟨_, rfl, rfl⟩ | ⟨E', T, x, he5, rfl, hne5, hc5, hlt5⟩
        · go_wp2_with fail
          go_ret2
          exact HF.out
        · clear he5 hne5 hc5 hlt5
          go_wp2_with fail
          go_ret2
          exact HF.out
end Go.Proofs.YtmonepclhbappaaGreatDoor
/-
  Contracts of wire.Writer: Bytes; bytes.Clone.
-/
namespace Go.Proofs.YtmonepclhbappaaGreatDoor
open Go.RowKit
set_option maxRecDepth 100000
set_option linter.unusedVariables false

set_option maxHeartbeats 2000000 in
theorem Clone_any (l : List Int) (A : Option Addr) (n c : Nat) (w : World) (hl : l.length = n) (hn : n ≤ 1099511627776) (hs : Sl w 1 A n (l.map (Value.int .u8))) :
    Calls Tryz.prog 91 #[.slice A n c] w fun e w' => ∃ C k, e = .returned (.slice C n k) ∧ Sl w' 1 C n (l.map (Value.int .u8)) ∧ (n ≤ k ∧ k ≤ 9223372036854775807) ∧ Below w.heap.size w w' := by
  have nn := fun (w : World) (a : Option Addr) (n c : Nat) => Lib.run_eql_slice_nil (P := Tryz.prog) w 26 5 a n c 0 0 Tryz.underlying26
  have HS := Lib.hid hs
  go_enter Tryz.func91, Tryz.ntmps91
  rcases A with _ | A
  · have hn0 : n = 0 := by
      rcases Nat.eq_zero_or_pos n with h | h
      · exact h
      · obtain ⟨_, _, h, _⟩ := hs.2 h; cases h
    subst hn0
    clear hs
    go_wp2_with fail
    go_ret
    exact ⟨none, 0, rfl, HS.out, by omega, Below.refl _ _⟩
  · have hbA := bel_al (Below.refl w.heap.size w) (.cells #[] 5)
    have HOE := Lib.hid (World.ownsRow_made (e := 5) (size := 1) w #[] 0 (Nat.le_refl _) (Nat.zero_le _) rfl)
    have HBA := Lib.hid hbA
    have SPA := Lib.hid (HS.out.keep hbA)
    clear hs hbA
    go_wp2_with (at_builtin; refine wpList_cat_at elemByte _ _ rfl rfl HOE.out HBA.out.size SPA.out rfl rfl (one_u8 _) (by unfold lim; omega) (by unfold lim; omega) ?_; intro v8 w8 hown8 hg8; have HO8 := Lib.hid hown8; have HB8 := Lib.hid (HBA.out.trans (hg8.belowOwn HBA.out.size HOE.out)); clear hown8 hg8 HOE HBA SPA)
    go_ret
    have hown := HO8.out
    rw [List.nil_append, Nat.zero_add] at hown
    obtain ⟨C, k, rfl, hsl⟩ := Sl.own hown
    exact ⟨C, k, rfl, hsl, own_cap hown, HB8.out⟩

theorem Bytes_any (g B : Nat) (st : St) (w : World) (hW : Wr w B g st.1 st.2) (hl : st.1.length ≤ 1099511627776) :
    Calls Tryz.prog 52 #[.pointer (some ⟨g, 0, none⟩)] w fun e w' => ∃ C k, e = .returned (.slice C st.1.length k) ∧ Sl w' 1 C st.1.length (st.1.map (Value.int .u8)) ∧ (st.1.length ≤ k ∧ k ≤ 9223372036854775807) ∧ Below w.heap.size w w' := by
  obtain ⟨hBg, hE, bv, ev, hb, hown, he⟩ := hW
  have hc0 := hb.cell 0
  simp at hc0
  obtain ⟨A0, n0, rfl, hsl0⟩ := Sl.own hown
  have HC := Lib.hid (Clone_any st.1 A0 st.1.length n0 w rfl hl hsl0)
  clear hb hown he hsl0
  go_enter Tryz.func52, Tryz.ntmps52
  go_wp2_with fail
  refine HC.out.mono ?_
  rintro e w1 ⟨C, k, rfl, hs1, hk1, hb1⟩
  have HS1 := Lib.hid hs1
  clear hs1 HC
  go_wp2_with fail
  go_ret
  exact ⟨_, _, rfl, HS1.out, hk1, hb1⟩
end Go.Proofs.YtmonepclhbappaaGreatDoor
/-
  Odags: Bytes.
-/
namespace Go.Proofs.YtmonepclhbappaaGreatDoor
open Go.RowKit Go.Maps
set_option maxRecDepth 100000
set_option linter.unusedVariables false

section
variable (w : World) {ops : Array Oper} {rest : List Oper} {o : Oper} {a : Act} {Q : Exit → Act → World → Prop}
/-- 'r[a]' of a row that was there: its links stay. -/
theorem wpList_lookF {w0 : World} (hg : o.guard = none) (m x : Operand) (hop : o.op = Op.lookup 114 m x false) (b : Nat) (r : Rw) (hm : a.eval m = .map (some b)) (hb : Below w0.heap.size w0 w) (hown : MRow w0 b r) (y : Int) (hx : a.eval x = .int .i64 y) (h1 : -9223372036854775808 ≤ y) (h2 : y ≤ 9223372036854775807)
    (hK : ∀ (A : Option Addr) (c : Nat) (l : List Int), (∀ V, Below w0.heap.size w0 V → RowOK V (A, c, l)) → l = lkR r y → wpList Tryz.prog ops Q rest (a.put o.dst (.slice A l.length c)) w) :
    wpList Tryz.prog ops Q (o :: rest) a w := by
  obtain ⟨me, rfl, hM, hR⟩ := hown
  obtain ⟨A, c, l, h3, h4, h5⟩ := MRow.look hR y
  refine wpList_lookI w hg m x _ hop 22 kInt Tryz.underlying114 (.slice none 0 0) (by kernel_rfl) b _ hm (MapI.keep hM hb) y hx h1 h2 ?_
  rw [h5]
  exact hK A c l (fun V hV => h3.keep hV) h4
end
theorem flat_take_le {α : Type} (f : α → List Int) (L : List α) (i : Nat) : ((L.take i).flatMap f).length ≤ (L.flatMap f).length := by
  conv => rhs; rw [← List.take_append_drop i L]
  rw [List.flatMap_append, List.length_append]
  omega
def bytK (od : List Rw) (i : Nat) : List Int := wordL od.length ++ ((od.take i).map keysR).flatMap encW
def bytL (od : List Rw) (i k : Nat) : List Int := ((wordL od.length ++ (od.map keysR).flatMap encW) ++ (od.take i).flatMap encLk) ++ encLk ((od.getD i []).take k)
theorem bytK_le (od : List Rw) (i : Nat) : (bytK od i).length ≤ (bytesO od).length := by
  unfold bytK bytesO
  have := flat_take_le encW (od.map keysR) i
  rw [← List.map_take] at this
  simp only [List.length_append]
  omega
theorem bytK_step {od : List Rw} {i : Nat} (h : i < od.length) : bytK od (i + 1) = bytK od i ++ encW (keysR (od.getD i [])) := by
  unfold bytK
  rw [List.take_succ_eq_append_getElem h, List.map_append, List.flatMap_append, getD_in h, List.append_assoc]
  simp
theorem bytL_le {od : List Rw} {i : Nat} (h : i + 1 < od.length) (k : Nat) : (bytL od i k).length ≤ (bytesO od).length := by
  have h1 : (encLk ((od.getD i []).take k)).length ≤ (encLk (od.getD i [])).length := flat_take_le (fun q : Int × List Int => encW q.2) (od.getD i []) k
  have h2 := flat_take_le encLk (od.take (od.length - 1)) (i + 1)
  rw [List.take_take, Nat.min_eq_left (by omega), List.take_succ_eq_append_getElem (by omega), List.flatMap_append, List.length_append] at h2
  rw [getD_in (by omega)] at h1
  simp only [List.flatMap_cons, List.flatMap_nil, List.append_nil] at h2
  unfold bytL bytesO
  rw [getD_in (by omega)]
  simp only [List.length_append]
  omega
theorem bytL_step {od : List Rw} {i k : Nat} {q : Int × List Int} (h : (od.getD i [])[k]? = some q) : bytL od i (k + 1) = bytL od i k ++ encW q.2 := by
  obtain ⟨h1, h2⟩ := List.getElem?_eq_some_iff.1 h
  have e : encLk ((od.getD i []).take (k + 1)) = encLk ((od.getD i []).take k) ++ encW q.2 := by
    unfold encLk
    rw [List.take_succ_eq_append_getElem h1, h2, List.flatMap_append]
    simp
  unfold bytL
  rw [e]
  simp only [List.append_assoc]
theorem bytL_next {od : List Rw} {i : Nat} (h : i < od.length) : bytL od i (od.getD i []).length = bytL od (i + 1) 0 := by
  unfold bytL
  rw [List.take_of_length_le (Nat.le_refl _), List.take_zero, List.take_succ_eq_append_getElem h, List.flatMap_append, getD_in h]
  simp [encLk]
theorem wf_B {od : List Rw} {N : Nat} (h : WfO od N) : OdB 65536 od := fun r hr => by
  obtain ⟨i, hi, rfl⟩ := List.mem_iff_getElem.1 hr
  have hl := h.len
  have e := getD_in (x := []) hi
  have hk := (h.keys i (by omega)).2
  rw [e] at hk
  refine ⟨hk, fun q hq => ?_⟩
  by_cases h1 : i + 1 < N
  · have := (h.lnk i h1 q (by rw [e]; exact hq)).1.2
    exact this
  · have := h.last q (by rw [show N - 1 = i by omega, e]; exact hq)
    rw [this]
    simp

set_option maxHeartbeats 16000000 in
theorem OdBytes_any (p N : Nat) (od : List Rw) (w : World) (h : OdM w p od) (hW : WfO od N) (hsz : (bytesO od).length ≤ 1000000) :
    Calls Tryz.prog 25 #[.pointer (some ⟨p, 0, none⟩)] w fun e w' => ∃ C k, e = .returned (.slice C (bytesO od).length k) ∧ Sl w' 1 C (bytesO od).length ((bytesO od).map (Value.int .u8)) ∧ ((bytesO od).length ≤ k ∧ k ≤ 9223372036854775807) ∧ Below w.heap.size w w' := by
  have HOd := Lib.hid h
  have HW := Lib.hid hW
  have HSz := Lib.hid hsz
  have HLn := Lib.hid (show ∀ V, Below w.heap.size w V → Calls Tryz.prog 32 #[.pointer (some ⟨p, 0, none⟩)] V (fun e w' => e = .returned (.int .i64 (N : Int)) ∧ V = w') from fun V hV => by
    have h2 := OdLen_any p od V (h.keep hV)
    rw [hW.len] at h2
    exact h2)
  obtain ⟨R, n0, c0, bs, hc⟩ := h
  have hn0 : n0 = N := by rw [← hc.2.1]; exact hW.len
  subst hn0
  have h1 := hW.h1
  have h8 := hW.h8
  obtain ⟨rb, ro, rfl, _⟩ := hc.2.2.2.2.1.at_ (show 0 < n0 by omega)
  have HC := Lib.hid hc
  have HCe := Lib.hid (show ∀ V (i b : Nat), Below w.heap.size w V → i < n0 → bs[i]? = some b → V.cell? ⟨p, 0, none⟩ = some (.slice (some ⟨rb, ro, none⟩) n0 c0) ∧ V.cell? ⟨rb, ro + i, none⟩ = some (.map (some b)) from fun V i b hb hi hbi => by
    have d0 := (hc.1.keep hb).cell 0
    simp at d0
    exact ⟨d0, (hc.2.2.2.2.1.keep hb).again hi (by rw [List.getElem?_map, hbi]; rfl)⟩)
  clear hW hsz hc h1 h8
  have hN1 := HW.out.h1
  have hN8 := HW.out.h8
  go_enter Tryz.func25, Tryz.ntmps25
  go_upto_region 2 with (fail)
  obtain ⟨W1, hW1⟩ : ∃ W1, w.alloc (.cells #[.slice none 0 0, .nilIface] 91) = W1 := ⟨_, rfl⟩
  have hb1 : Below w.heap.size w W1 := by rw [← hW1]; exact bel_al (Below.refl _ _) _
  have hw1 : Wr W1 w.heap.size w.heap.size [] .nil := by
    rw [← hW1]
    exact ⟨Nat.le_refl _, trivial, _, _, Blk.new w _ _, World.ownsRow_nil _ _ _ _, rfl⟩
  rw [hW1]
  clear hW1
  have HB1 := Lib.hid hb1
  have HWr1 := Lib.hid hw1
  clear hb1 hw1
  have HL1 := Lib.hid (HLn.out W1 HB1.out)
  go_upto_region 3 with (first
    | (go_at_call 32; refine HL1.out.mono ?_; clear HL1; rintro e wx ⟨rfl, rfl⟩; have HNu := Lib.hid (Num_K n0 (by omega) w.heap.size w.heap.size [] .nil W1 HWr1.out (by simp)))
    | (go_at_call 66; refine HNu.out.mono ?_; clear HNu; rintro e w2 ⟨rfl, hw2, hb2, _⟩; have HWr2 := Lib.hid hw2; have HB2 := Lib.hid (HB1.out.trans hb2); clear hw2 hb2)
    | fail)
  have HL2 := Lib.hid (HLn.out w2 HB2.out)
  go_wp2_with (go_at_call 32; refine HL2.out.mono ?_; clear HL2; rintro e wx ⟨rfl, rfl⟩)
  go_loopw [16] (fun iv wr => ∃ i : Nat, i ≤ n0 ∧ iv = .int .i64 (i : Int) ∧ Hid (Wr wr w.heap.size w.heap.size (bytK od i) .nil) ∧ Hid (Below w.heap.size w wr)) (fun iv _ => n0 - (intOf iv).toNat)
  case atStart => exact ⟨0, Nat.zero_le _, rfl, Lib.hid (by have h := HWr2.out; unfold bytK; rw [HW.out.len]; simpa using h), HB2⟩
  case round =>
    clear HWr2 HB2 HWr1 HB1
    obtain ⟨i, hi, rfl, HWr, HB⟩ := hrel
    by_cases hin : i < n0
    · have hin' : (i : Int) < (n0 : Int) := by omega
      have hil : i < od.length := by rw [HW.out.len]; exact hin
      have hkr := HW.out.keys i hin
      have hR := OdRow_any p od (i : Int) wr (HOd.out.keep HB.out) (fun r hr => ((wf_B HW.out) r hr).mono (by omega)) (by rw [HW.out.len]; omega)
      rw [keysAt_in hil] at hR
      have hkl : (keysR (od.getD i [])).length ≤ 65536 := by unfold keysR; rw [List.length_map]; exact hkr.2
      have hst := bytK_step hil
      obtain ⟨ks, hks⟩ : ∃ ks, ks = keysR (od.getD i []) := ⟨_, rfl⟩
      change Calls Tryz.prog _ _ wr (fun e w' => ∃ v, e = .returned v ∧ w'.ownsRow wr.heap.size 3 1 v (keysR (od.getD i [])).length ((keysR (od.getD i [])).map (Value.int .i64)) ∧ Below wr.heap.size wr w') at hR
      rw [← hks] at hR hkl hst hkr
      have HRw := Lib.hid hR
      have HKr := Lib.hid (And.intro hkr.1 hkl)
      have HSt := Lib.hid hst
      have HPl := Lib.hid (Nat.le_trans (bytK_le od i) HSz.out)
      clear hil hkr hR hkl hst hks
      go_wp2_with (first
        | (go_at_call 34; refine HRw.out.mono ?_; clear HRw; rintro e w3 ⟨v, rfl, hown, hb3⟩; have HB3 := Lib.hid hb3; obtain ⟨X, xc, rfl, _⟩ := Sl.own hown; have HLi := Lib.hid (List_K ks HKr.out.1.fits X ks.length xc (by have := HKr.out.2; omega) rfl w.heap.size w.heap.size (bytK od i) .nil w3 (fun W hW hk => Sl.of_own (WkT.own hown hk (by decide) (by decide))) (HWr.out.keep hb3) (by have := HPl.out; omega)); clear hown hb3)
        | (go_at_call 51; refine HLi.out.mono ?_; clear HLi; rintro e w4 ⟨rfl, hw4, hb4, _⟩; have HWr4 := Lib.hid hw4; have HB4 := Lib.hid ((HB.out.andThen HB3.out).trans hb4); clear hw4 hb4)
        | fail)
      go_roundw
      case rel => exact ⟨i + 1, by omega, by go_num, Lib.hid (by rw [HSt.out]; exact HWr4.out), HB4⟩
      case measure => simp [intOf]; omega
    · obtain rfl : i = n0 := by omega
      have hin' : ¬ (i : Int) < (i : Int) := by omega
      obtain ⟨N1, hN1e⟩ : ∃ N1, i = N1 + 1 := ⟨i - 1, by omega⟩
      have hw1 : IntKind.i64.wrap ((i : Int) - 1) = (N1 : Int) := by rw [IntKind.wrap_i64]; omega
      have hmx : max (N1 : Int) 0 = (N1 : Int) := by omega
      have HN1 := Lib.hid hN1e
      have HL3 := Lib.hid (HLn.out wr HB.out)
      have HWr0 := Lib.hid (show Wr wr w.heap.size w.heap.size (bytL od 0 0) .nil from by
        have h := HWr.out
        have e : bytL od 0 0 = bytK od i := by
          unfold bytL bytK
          rw [show od.take i = od from List.take_of_length_le (by rw [HW.out.len]; exact Nat.le_refl _)]
          simp [encLk]
        rw [e]
        exact h)
      clear hN1e
      go_wp2_with (go_at_call 32; refine HL3.out.mono ?_; clear HL3; rintro e wx ⟨rfl, rfl⟩)
      go_loopw [29] (fun jv wr => ∃ j : Nat, j ≤ N1 ∧ jv = .int .i64 (j : Int) ∧ Hid (Wr wr w.heap.size w.heap.size (bytL od j 0) .nil) ∧ Hid (Below w.heap.size w wr)) (fun jv _ => N1 - (intOf jv).toNat)
      case atStart => exact ⟨0, Nat.zero_le _, rfl, HWr0, HB⟩
      case round =>
        clear HWr0 HB HWr
        obtain ⟨j, hj, rfl, HWr, HB⟩ := hrel
        by_cases hjn : j < N1
        · have hjn' : (j : Int) < (N1 : Int) := by omega
          have hj0 : (0 : Int) ≤ (j : Int) := by omega
          have hji : j + 1 < i := by have := HN1.out; omega
          have hji' : (j : Int) < (i : Int) := by omega
          have hjl : j < od.length := by rw [HW.out.len]; omega
          have hR := OdRow_any p od (j : Int) wr (HOd.out.keep HB.out) (fun r hr => ((wf_B HW.out) r hr).mono (by omega)) (by rw [HW.out.len]; omega)
          rw [keysAt_in hjl] at hR
          change Calls Tryz.prog _ _ wr (fun e w' => ∃ v, e = .returned v ∧ w'.ownsRow wr.heap.size 3 1 v (keysR (od.getD j [])).length ((keysR (od.getD j [])).map (Value.int .i64)) ∧ Below wr.heap.size wr w') at hR
          obtain ⟨ks, hks⟩ : ∃ ks, ks = keysR (od.getD j []) := ⟨_, rfl⟩
          rw [← hks] at hR
          have HRw := Lib.hid hR
          have hkr := HW.out.keys j (by omega)
          have HKr := Lib.hid hkr
          have HLk := Lib.hid (HW.out.lnk j hji)
          have HNx := Lib.hid (bytL_next hjl)
          have HPl := Lib.hid (fun k => Nat.le_trans (bytL_le (od := od) (i := j) (by rw [HW.out.len]; exact hji) k) HSz.out)
          obtain ⟨b, hb⟩ : ∃ b, bs[j]? = some b := ⟨_, List.getElem?_eq_getElem (by rw [HC.out.2.2.1]; omega)⟩
          have hrow : MRow w b (od.getD j []) := HC.out.2.2.2.2.2.2 j b _ hb (by rw [List.getElem?_eq_getElem hjl, getD_in hjl])
          have HRow := Lib.hid hrow
          have HBb := Lib.hid hb
          have hIr : IncR (od.getD j []) := by
            have h := hkr.1.1
            unfold keysR at h
            exact List.pairwise_map.1 h
          have HIr := Lib.hid hIr
          obtain ⟨r, hr⟩ : ∃ r, r = od.getD j [] := ⟨_, rfl⟩
          have HRe := Lib.hid hr
          rw [← hr] at HKr HLk HNx HRow HIr hks
          have HKs := Lib.hid hks
          clear hR hkr hb hrow hIr hjl hr hks
          go_wp2_with (go_at_call 34; refine HRw.out.mono ?_; clear HRw; rintro e w3 ⟨v, rfl, hown, hb3⟩; have HB3 := Lib.hid (HB.out.andThen hb3); have HWr3 := Lib.hid (HWr.out.keep hb3); obtain ⟨X, xc, rfl, _⟩ := Sl.own hown; have HO3 := Lib.hid hown; clear hown hb3)
          obtain ⟨m, hm⟩ : ∃ m, m = ks.length := ⟨_, rfl⟩
          rw [← hm] at HO3 ⊢
          have hml : m = r.length := by rw [hm, HKs.out, keysR, List.length_map]
          have hmb : m ≤ 65536 := by rw [hml]; exact HKr.out.2
          have HMl := Lib.hid hml
          clear hm hml
          go_loopw [36] (fun kv wx => ∃ k : Nat, k ≤ m ∧ kv = .int .i64 (k : Int) ∧ Hid (Wr wx w.heap.size w.heap.size (bytL od j k) .nil) ∧ Hid (Below w.heap.size w wx) ∧ Hid (WkT w3 wx)) (fun kv _ => m - (intOf kv).toNat)
          case atStart => exact ⟨0, Nat.zero_le _, rfl, HWr3, HB3, Lib.hid (WkT.refl _)⟩
          case round =>
            clear HWr3 HB3 HWr HB
            obtain ⟨k, hk, rfl, HWk, HBk, HKk⟩ := hrel
            by_cases hkm : k < m
            · have hkm' : (k : Int) < (m : Int) := by omega
              have hk0 : (0 : Int) ≤ (k : Int) := by omega
              obtain ⟨q, hq⟩ : ∃ q, r[k]? = some q := ⟨_, List.getElem?_eq_getElem (by rw [← HMl.out]; exact hkm)⟩
              have hsl : Sl wr 1 X m (ks.map (Value.int .i64)) := Sl.of_own (WkT.own HO3.out HKk.out (by decide) (by decide))
              obtain ⟨xb, xo, rfl, _⟩ := hsl.at_ (show 0 < m by omega)
              have cy := hsl.again hkm (show (ks.map (Value.int .i64))[k]? = some (.int .i64 q.1) by rw [List.getElem?_map, HKs.out, keysR, List.getElem?_map, hq]; rfl)
              obtain ⟨d0, d1⟩ := HCe.out wr j b HBk.out (by omega) HBb.out
              have hqm := List.mem_of_getElem? hq
              have hqn := HKr.out.1.2 q.1 (List.mem_map.2 ⟨q, hqm, rfl⟩)
              unfold numOK at hqn
              have HQn := Lib.hid hqn
              have HLq := Lib.hid (HIr.out.lk hqm)
              have HQl := Lib.hid (HLk.out q hqm).1
              have HSt := Lib.hid (bytL_step (od := od) (i := j) (k := k) (q := q) (by rw [← HRe.out]; exact hq))
              clear hq hsl hqm hqn
              go_wp2_with (first
                | (at_lookup; refine wpList_lookF _ rfl _ _ rfl b r rfl HBk.out HRow.out q.1 rfl (by have := HQn.out; omega) (by have := HQn.out; omega) ?_; intro A c l hrl hl; rw [HLq.out] at hl; subst hl; have HLi := Lib.hid (List_K q.2 HQl.out.1.fits A q.2.length c (by have := HQl.out.2; omega) rfl w.heap.size w.heap.size (bytL od j k) .nil wr (fun W hW hk => (hrl W (HBk.out.trans hW)).1) HWk.out (by have := HPl.out k; omega)); clear hrl)
                | (go_at_call 51; refine HLi.out.mono ?_; clear HLi; rintro e w4 ⟨rfl, hw4, hb4, hk4⟩; have HWr4 := Lib.hid hw4; have HB4 := Lib.hid (HBk.out.trans hb4); have HK4 := Lib.hid (HKk.out.trans hk4); clear hw4 hb4 hk4)
                | fail)
              go_roundw
              case rel => exact ⟨k + 1, by omega, by go_num, Lib.hid (by rw [HSt.out]; exact HWr4.out), HB4, HK4⟩
              case measure => simp [intOf]; omega
            · obtain rfl : k = m := by omega
              have hkm' : ¬ (k : Int) < (k : Int) := by omega
              have HWn := Lib.hid (show Wr wr w.heap.size w.heap.size (bytL od (j + 1) 0) .nil from by
                have h := HWk.out
                rw [HMl.out, HNx.out] at h
                exact h)
              go_wp2_with fail
              go_roundw
              case rel => exact ⟨j + 1, by omega, by go_num, HWn, HBk⟩
              case measure => simp [intOf]; omega
        · obtain rfl : j = N1 := by omega
          have hjn' : ¬ (j : Int) < (j : Int) := by omega
          have HWe := Lib.hid (show Wr wr w.heap.size w.heap.size (bytesO od) .nil from by
            have h := HWr.out
            have e : bytL od j 0 = bytesO od := by
              unfold bytL bytesO
              rw [HW.out.len, show i - 1 = j by have := HN1.out; omega]
              simp [encLk]
            rw [e] at h
            exact h)
          have HBy := Lib.hid (Bytes_any w.heap.size w.heap.size (bytesO od, .nil) wr HWe.out (by have := HSz.out; simp only; omega))
          go_wp2_with (go_at_call 52; refine HBy.out.mono ?_; clear HBy; rintro e w5 ⟨C, kk, rfl, hs5, hc5, hb5⟩; have HS5 := Lib.hid hs5; have HC5 := Lib.hid hc5; have HB5 := Lib.hid hb5; clear hs5 hc5 hb5)
          go_ret
          exact ⟨C, kk, rfl, HS5.out, HC5.out, HB.out.andThen HB5.out⟩
end Go.Proofs.YtmonepclhbappaaGreatDoor
/-
  OdagReads.
-/
namespace Go.Proofs.YtmonepclhbappaaGreatDoor
open Go.RowKit Go.Maps
set_option maxRecDepth 100000
set_option linter.unusedVariables false

set_option maxHeartbeats 16000000 in
theorem OdagReads_walk (l : List Int) (A : Option Addr) (n c : Nat) (w : World) (hg : ErrT w) (hl : l.length = n) (hm : n ≤ 9223372036854775807) (hb : Bys l) (hs : Sl w 1 A n (l.map (Value.int .u8))) (hc : n ≤ c ∧ c ≤ 9223372036854775807) :
    Calls Tryz.prog 4 #[.slice A n c] w fun e w' => e = .returned (.bool true) ∧ Below w.heap.size w w' := by
  have HG := Lib.hid hg
  have HL := Lib.hid hl
  have HBt := Lib.hid hb
  have HS := Lib.hid hs
  have HC := Lib.hid hc
  have HAl := Lib.hid (alive13 w hg)
  clear hg hl hb hs hc
  by_cases h6 : 600 < n
  · have h6' : (600 : Int) < (n : Int) := by omega
    go_enter Tryz.func4, Tryz.ntmps4
    go_wp2_with (go_at_call 23; refine HAl.out.mono ?_; clear HAl; rintro e w1 ⟨rfl, hb1⟩; have HB1 := Lib.hid hb1; clear hb1)
    go_ret
    exact ⟨rfl, HB1.out⟩
  · have h6' : ¬ (600 : Int) < (n : Int) := by omega
    go_enter Tryz.func4, Tryz.ntmps4
    go_upto_region 5 with (go_at_call 23; refine HAl.out.mono ?_; clear HAl; rintro e w1 ⟨rfl, hb1⟩; have HB1 := Lib.hid hb1; clear hb1)
    have HRd := Lib.hid (ReadOd_any l A n c w1 (by omega) HC.out.1 HC.out.2 HL.out HBt.out (HS.out.keep HB1.out))
    go_upto_region 6 with (go_at_call 24; refine HRd.out.mono ?_; clear HRd; intro e w2 hp; obtain ⟨v, ev, hev⟩ : ∃ v ev, e = .returned (.tuple #[v, ev]) := (by rcases hp.2 with ⟨_, _, _, h, _⟩ | ⟨_, _, _, h, _⟩ <;> exact ⟨_, _, h⟩); subst hev; have HB2 := Lib.hid (HB1.out.andThen hp.1); have HP := Lib.hid hp.2; clear hp)
    rcases HP.out with ⟨p, od, N, he, ho, hw, hby⟩ | ⟨E, T, x, he, hE, hcode, _⟩
    · injection he with he
      injection he with he
      have e1 : v = .pointer (some ⟨p, 0, none⟩) := by have := congrArg (·[0]?) he; simpa using this
      have e2 : ev = .nilIface := by have := congrArg (·[1]?) he; simpa using this
      subst e1 e2
      have hlen : (bytesO od).length = n := by rw [hby, HL.out]
      have HBy := Lib.hid (OdBytes_any p N od w2 ho hw (by omega))
      rw [hby, HL.out] at HBy
      clear he ho hw hby hlen HP
      go_wp2_with (first
        | (go_at_call 25; refine HBy.out.mono ?_; clear HBy; rintro e w3 ⟨C, k, rfl, hs3, _, hb3⟩; have HB3 := Lib.hid (HB2.out.andThen hb3); have HSm := Lib.hid (Same_any l l C A n n k c w3 HL.out HL.out hs3 (HS.out.keep (HB2.out.andThen hb3)) hm); rw [decide_eq_true rfl] at HSm; clear hs3 hb3)
        | (go_at_call 19; refine HSm.out.mono ?_; clear HSm; rintro e w4 ⟨rfl, hb4⟩; have HB4 := Lib.hid hb4; clear hb4)
        | fail)
      go_ret
      exact ⟨rfl, HB3.out.andThen HB4.out⟩
    · injection he with he
      injection he with he
      have e1 : v = .pointer none := by have := congrArg (·[0]?) he; simpa using this
      have e2 : ev = .iface T x := by have := congrArg (·[1]?) he; simpa using this
      subst e1 e2
      have HCd := Lib.hid (Code_any E (.iface T x) w2 hE (HG.out.keep HB2.out))
      clear he hE HP
      obtain ⟨cc, hcc⟩ : ∃ cc, cc = E.code := ⟨_, rfl⟩
      rw [← hcc] at HCd hcode
      clear hcc
      rcases hcode with rfl | rfl | rfl | rfl | rfl
      all_goals
        go_wp2_with (go_at_call 21; refine HCd.out.mono ?_; clear HCd; rintro e w3 ⟨rfl, hb3⟩; have HB3 := Lib.hid (HB2.out.andThen hb3); clear hb3)
        go_ret
        exact ⟨rfl, HB3.out⟩

/-- OdagReads, as its frame asks it. -/
theorem OdagReads_main (A0 : Option Addr) (n0 c0 : Nat) (l : List Int) (w : World) (hg : ErrT w) (m0 : n0 ≤ maxLen) (e0 : l.length = n0) (s0 : Sl w 1 A0 n0 (l.map (Value.int .u8))) (w0 : ∀ z ∈ l, (Lit.int .u8 z).wf = true) (q0 : n0 ≤ c0 ∧ c0 ≤ 9223372036854775807) :
    Calls Tryz.prog 4 #[.slice A0 n0 c0] w fun e w' => e = .returned (.bool true) ∧ Below w.heap.size w w' :=
  OdagReads_walk l A0 n0 c0 w hg e0 (by omega) (fun x hx => wf_u8 (w0 x hx)) s0 q0
end Go.Proofs.YtmonepclhbappaaGreatDoor
