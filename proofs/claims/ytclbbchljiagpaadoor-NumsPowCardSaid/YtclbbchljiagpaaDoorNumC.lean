/-
  The document's numbers: trim, Of.
-/
import Derived.Test.YtclbbchljiagpaaDoorNumB
namespace Go.Proofs.YtclbbchljiagpaaDoor
open Go.RowKit
set_option maxRecDepth 100000
set_option linter.unusedVariables false

/-- A number of the document's. -/
def NumAt (w : World) (v : Value) (z : Int) : Prop := ∃ A c, v = .agg #[.bool (decide (z < 0)), .slice A (digs z.natAbs).length c] ∧ Sl w 1 A (digs z.natAbs).length (cD (digs z.natAbs)) ∧ (digs z.natAbs).length ≤ c ∧ c ≤ 9223372036854775807
theorem NumAt.keep {w w' : World} {v : Value} {z : Int} (h : NumAt w v z) (hb : Below w.heap.size w w') : NumAt w' v z := by
  obtain ⟨A, c, h1, h2, h3⟩ := h
  exact ⟨A, c, h1, h2.keep hb, h3⟩
/-- The length of the slice in a block's second cell. -/
def lenAt (w : World) (g : Nat) : Nat := match w.cell? ⟨g, 1, none⟩ with | some v => lenV v | none => 0
theorem lenAt_of {w : World} {g : Nat} {v : Value} (h : w.cell? ⟨g, 1, none⟩ = some v) : lenAt w g = lenV v := by rw [lenAt, h]
theorem trim_end {l : List Nat} {k : Nat} (hd : Dig l) (hk : k ≤ l.length) (hv : valD (l.take k) = valD l) (hz : k = 0 ∨ ∃ d, l[k - 1]? = some d ∧ d ≠ 0) : digs (valD l) = l.take k := by
  rw [← hv]
  refine digs_valD (nrm_of (hd.take k) fun d hd' => ?_)
  rcases hz with rfl | ⟨x, hx, hx0⟩
  · simp at hd'
  · have h0 : 0 < k := by
      rcases Nat.eq_zero_or_pos k with rfl | h
      · simp at hd'
      · exact h
    rw [List.getLast?_eq_getElem?, List.length_take, Nat.min_eq_left hk, List.getElem?_take, if_pos (by omega), hx] at hd'
    cases hd'
    exact hx0

set_option maxHeartbeats 4000000 in
theorem trim_any (s : Bool) (l : List Nat) (A : Option Addr) (n c : Nat) (w : World) (hd : Dig l) (hl : l.length = n) (hn : n ≤ 1099511627776) (hc : n ≤ c ∧ c ≤ 9223372036854775807) (hs : Sl w 1 A n (cD l)) :
    Calls Tryd.prog 80 #[.agg #[.bool s, .slice A n c]] w fun e w' => e = .returned (.agg #[.bool (s && decide (valD l ≠ 0)), .slice A (digs (valD l)).length c]) ∧ Sl w' 1 A (digs (valD l)).length (cD (digs (valD l))) ∧ (digs (valD l)).length ≤ c ∧ Below w.heap.size w w' := by
  have HD := Lib.hid hd
  have HS := Lib.hid hs
  clear hd hs
  go_enter Tryd.func80, Tryd.ntmps80
  go_wp2_with fail
  go_loopw [] (fun wr => ∃ k : Nat, k ≤ n ∧ valD (l.take k) = valD l ∧ Blk wr w.heap.size 67 #[.bool s, .slice A k c] ∧ Blk wr (w.heap.size + 1) 67 #[.bool false, .slice none 0 0] ∧ Below w.heap.size w wr) (fun wr => lenAt wr w.heap.size)
  case atStart =>
    refine ⟨n, Nat.le_refl _, by rw [← hl, List.take_length], (Blk.new _ _ _).alloc _, ?_, bel_al (bel_al (Below.refl _ _) _) _⟩
    have := Blk.new (w.alloc (.cells #[.bool s, .slice A n c] 67)) 67 #[.bool false, .slice none 0 0]
    simpa using this
  case round =>
    obtain ⟨k, hk, hv, hb1, hb2, hb⟩ := hrel
    have c0 := hb1.cell 0
    have c1 := hb1.cell 1
    have f0 := hb1.frozen 0
    have f1 := hb1.frozen 1
    have d0 := hb2.cell 0
    have d1 := hb2.cell 1
    have g0 := hb2.frozen 0
    have g1 := hb2.frozen 1
    simp at c0 c1 d0 d1
    have HV := Lib.hid hv
    have HB1 := Lib.hid hb1
    have HB2 := Lib.hid hb2
    have HBr := Lib.hid hb
    have HSr := Lib.hid (HS.out.keep hb)
    clear hv hb1 hb2 hb
    have HF := Lib.hid (fun (u1 u2 u3 : Value) => (((Below.refl w.heap.size wr).setCell (p := ⟨w.heap.size, 0, none⟩) (by simp) u1).setCell (p := ⟨w.heap.size + 1, 0, none⟩) (by simp) u2).setCell (p := ⟨w.heap.size + 1, 1, none⟩) (by simp) u3)
    have HF2 := Lib.hid (fun (u2 u3 : Value) => ((Below.refl w.heap.size wr).setCell (p := ⟨w.heap.size + 1, 0, none⟩) (by simp) u2).setCell (p := ⟨w.heap.size + 1, 1, none⟩) (by simp) u3)
    by_cases h0 : k = 0
    · subst h0
      have hz : valD l = 0 := by have := HV.out; simpa [valD] using this.symm
      have HZ := Lib.hid hz
      clear hz
      go_wp2_with fail
      refine bodyPost_ret (v := .agg #[.bool false, .slice A 0 c]) (by simp [results, Tryd.results80, go_sem, d0, d1]) rfl ?_
      refine ⟨?_, ?_⟩
      · rw [HZ.out, digs_zero]; simp
      · rw [HZ.out, digs_zero]
        exact ⟨Sl.nil _ _ _, Nat.zero_le _, HBr.out.trans (HF.out _ _ _)⟩
    · obtain ⟨j, rfl⟩ : ∃ j, k = j + 1 := ⟨k - 1, by omega⟩
      have hj : j < l.length := by omega
      obtain ⟨b, off, rfl, hc1⟩ := HSr.out.dig hl (i := j) (by omega)
      have hcj : ((j + 1 : Nat) : Int) - 1 = (j : Int) := by omega
      have h0j : (0 : Int) ≤ (j : Int) := by omega
      have hjc : (j : Int) ≤ (c : Int) := by omega
      by_cases hx : l[j] = 0
      · rw [hx] at hc1
        have HX := Lib.hid hx
        clear hx
        go_wp2_with fail
        go_roundw
        case rel =>
          refine ⟨j, by omega, ?_, ?_, ?_, ?_⟩
          · rw [← HV.out, valD_take_succ, atD_get hj, HX.out, Nat.mul_zero, Nat.add_zero]
          · have := HB1.out.set_ 1 (.slice (some ⟨b, off, none⟩) j c)
            simpa using this
          · exact HB2.out.far (p := ⟨w.heap.size, 1, none⟩) (by simp) _
          · exact HBr.out.setCell (p := ⟨w.heap.size, 1, none⟩) (by simp) _
        case measure =>
          have h2 := (HB1.out.set_ 1 (.slice (some ⟨b, off, none⟩) j c)).cell 1
          simp at h2
          rw [lenAt_of c1, lenAt_of h2]
          simp only [lenV]
          omega
      · have hxx : ((l[j] : Nat) : Int) ≠ 0 := by omega
        have HX := Lib.hid (trim_end HD.out (k := j + 1) (by omega) HV.out (.inr ⟨l[j], by simp, hx⟩))
        have HP := Lib.hid (show valD l ≠ 0 from fun e => by have h1 := HX.out; rw [e, digs_zero] at h1; have := congrArg List.length h1; rw [List.length_take] at this; simp at this; omega)
        generalize l[j] = x at *
        go_wp2_with fail
        refine bodyPost_ret (v := .agg #[.bool s, .slice (some ⟨b, off, none⟩) (j + 1) c]) (by simp [results, Tryd.results80, go_sem, d0, d1]) rfl ?_
        refine ⟨?_, ?_⟩
        · rw [HX.out, decide_eq_true HP.out, List.length_take, Nat.min_eq_left (by omega), Bool.and_true]
        · rw [HX.out, List.length_take, Nat.min_eq_left (by omega), cD_take]
          exact ⟨(HS.out.take (by omega)).keep (HBr.out.trans (HF2.out _ _)), by omega, HBr.out.trans (HF2.out _ _)⟩
end Go.Proofs.YtclbbchljiagpaaDoor
