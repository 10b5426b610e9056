/-
  Contract of wire.Writer.Num, whatever number.
-/
import Derived.Test.YtclbbchljiagpaaDoorWireE
namespace Go.Proofs.YtclbbchljiagpaaDoor
open Go.RowKit
set_option maxRecDepth 100000
set_option linter.unusedVariables false

set_option maxHeartbeats 4000000 in
theorem Num_bad (z : Int) (hz : ¬ fits z) (g B : Nat) (bs : List Int) (E : Err) (w : World) (hW : Wr w B g bs E) (hl : bs.length ≤ 1099511627776) :
    Calls Tryd.prog 35 #[.pointer (some ⟨g, 0, none⟩), .int .i64 z] w fun e w' => e = .returned (.tuple #[]) ∧ Wr w' B g (bs ++ wordL 0) (Err.first [E, .flt 3 bs.length txtNumber]) ∧ Below B w w' := by
  obtain ⟨hBg, hE, bv, ev, hb, hown, he⟩ := hW
  have hBw : B ≤ w.heap.size := Nat.le_trans hBg (Nat.le_of_lt hb.lt)
  obtain ⟨A0, n0, rfl, hsl0⟩ := Sl.own hown
  have hc0 := hb.cell 0
  have hc1 := hb.cell 1
  simp at hc0 hc1
  have HBk := Lib.hid hb
  have HO := Lib.hid hown
  have HE := Lib.hid he
  clear hb hown he hsl0
  go_enter Tryd.func35, Tryd.ntmps35
  have HF := Lib.hid (fun (w1 : World) (hb1 : Below w.heap.size w w1) (v1 : Value) (h1 : (Err.flt 3 bs.length txtNumber).At w1 v1) (a : Addr) (ha : a = ⟨w1.heap.size, 0, none⟩) =>
    (by
      have hbA := bel_al (Below.refl w1.heap.size w1) (.cells #[ev, v1] 27)
      subst ha
      exact First_any [E, .flt 3 bs.length txtNumber] [ev, v1] _ 2 2 _ (by omega) rfl ⟨_, _, rfl, (HE.out.keep hb1).keep hbA, _, _, rfl, h1.keep hbA, rfl⟩ (Sl.newAt w1 [ev, v1] 27 2 rfl) :
      Calls Tryd.prog 72 #[.slice (some a) 2 2] (w1.alloc (.cells #[ev, v1] 27)) fun e w' => ∃ v', e = .returned v' ∧ (Err.first [E, .flt 3 bs.length txtNumber]).At (w1.alloc (.cells #[ev, v1] 27)) v' ∧ w1.alloc (.cells #[ev, v1] 27) = w'))
  have HR := Lib.hid (fun (w1 : World) (hb1 : Below w.heap.size w w1) (v1 v2 : Value) (h2 : (Err.first [E, .flt 3 bs.length txtNumber]).At (w1.alloc (.cells #[ev, v1] 27)) v2) =>
    (by
      have hbA := hb1.andThen (bel_al (Below.refl w1.heap.size w1) (.cells #[ev, v1] 27))
      have hb' := HBk.out.keep hbA
      have := hb'.set_ 1 v2
      refine ⟨⟨hBg, Err.first2_flat hE, _, v2, by simpa using this, own_farBlk (own_below HO.out (fun g' hg' => (HO.out.lt g' hg').2) hbA) hb' (by decide) _, h2.far (Err.first2_flat hE) fun g' cs h => blk_farBlk h hb' (by decide) _⟩, (hbA.mono hBw).setCell (p := ⟨g, 1, none⟩) hBg _⟩ :
      Wr ((w1.alloc (.cells #[ev, v1] 27)).setCell ⟨g, 1, none⟩ v2) B g bs (Err.first [E, .flt 3 bs.length txtNumber]) ∧ Below B w ((w1.alloc (.cells #[ev, v1] 27)).setCell ⟨g, 1, none⟩ v2)))
  have hsh : ev = .nilIface ∨ ∃ T x, ev = .iface T x := by
    by_cases hn : E = .nil
    · left; have := HE.out; rw [hn] at this; exact this
    · right; exact Err.At.iface_ HE.out hn
  have hz' : z < 0 ∨ 4294967295 < z := by unfold fits at hz; omega
  clear hz
  rcases hsh with rfl | ⟨T, x, rfl⟩ <;> rcases hz' with hz0 | hz0
  all_goals
    go_wp2_with fail
    go_cut [] from 12 to 26 (fun wx => Wr wx B g bs (Err.first [E, .flt 3 bs.length txtNumber]) ∧ Below B w wx)
    case first =>
      go_region_with (first
        | (go_at_call 64; refine (New_err 3 bs.length txtNumber _).mono ?_; rintro e w1 ⟨v1, rfl, hv1, hb1⟩; have hbw : Below w.heap.size w w1 := (bel_drewN (Below.refl _ _) 1).andThen hb1; have hc1' := (HBk.out.keep hbw).cell 1; simp at hc1'; obtain ⟨g1, rfl, hv1b⟩ := hv1)
        | (go_at_call 72; refine (HF.out w1 hbw _ ⟨g1, rfl, hv1b⟩ _ rfl).mono ?_; rintro e w2 ⟨v2, rfl, hv2, rfl⟩; obtain ⟨T2, x2, rfl⟩ := Err.At.iface_ hv2 Err.first2_ne; have hbk2 := fun o => (HBk.out.keep hbw).alloc o; have hcs := fun o => (hbk2 o).cell 1; simp only [List.getElem?_toArray] at hcs; have hfs := fun o => (hbk2 o).frozen 1; clear hbk2))
      all_goals
        go_wp2_with fail
        go_meet
        exact HR.out w1 hbw _ _ hv2
    case rest =>
      obtain ⟨hwr, hbx⟩ := hcut
      clear HBk HO HE HF HR hc0 hc1
      obtain ⟨_, hE2, bv, ev2, hb, hown, he⟩ := hwr
      have hBw2 : B ≤ wc.heap.size := Nat.le_trans hBg (Nat.le_of_lt hb.lt)
      have hc0 := hb.cell 0
      simp at hc0
      have HW := Lib.hid (word_own 0 (by omega) bs bv bs.length B wc rfl hown hBw2 hl)
      have HBk := Lib.hid hb
      have HO := Lib.hid hown
      have HE := Lib.hid he
      clear hb hown he
      go_wp2_with fail
      refine HW.out.mono ?_
      rintro e w1 ⟨v', rfl, hown1, hgr⟩
      obtain ⟨g1, c1, rfl, _⟩ := own_form hown1 (by omega)
      have hb1 := hgr.blkOwn HBk.out HO.out (by decide)
      have hcell := hb1.cell 0
      simp at hcell
      have hfr := hb1.frozen 0
      have HT := Lib.hid (Wr.turn (bs' := bs ++ wordL 0) hBg hE2 HBk.out HO.out HE.out hgr.g (by rw [List.length_append, wordL_len]; exact hown1))
      have HB1 := Lib.hid (hgr.belowOwn hBw2 HO.out)
      clear hown1 hgr hb1 HW
      go_wp2_with fail
      go_end0
      exact ⟨rfl, HT.out, (hbx.trans HB1.out).setCell (p := ⟨g, 0, none⟩) hBg _⟩

theorem Num_any (z : Int) (hz : -9223372036854775808 ≤ z ∧ z ≤ 9223372036854775807) (g B : Nat) (st : St) (w : World) (hW : Wr w B g st.1 st.2) (hl : st.1.length ≤ 1099511627776) :
    Calls Tryd.prog 35 #[.pointer (some ⟨g, 0, none⟩), .int .i64 z] w fun e w' => e = .returned (.tuple #[]) ∧ Wr w' B g (pNum z st).1 (pNum z st).2 ∧ Below B w w' := by
  by_cases h : fits z
  · obtain ⟨k, rfl⟩ := Int.eq_ofNat_of_zero_le h.1
    have := Num_fits k (by have := h.2; omega) g B st.1 st.2 w hW hl
    rw [pNum, if_pos h]
    exact this
  · have := Num_bad z h g B st.1 st.2 w hW hl
    rw [pNum, if_neg h]
    exact this
end Go.Proofs.YtclbbchljiagpaaDoor
