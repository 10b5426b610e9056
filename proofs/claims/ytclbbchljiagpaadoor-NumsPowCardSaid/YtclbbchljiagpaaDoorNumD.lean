/-
  The document's numbers: Of.
-/
import Derived.Test.YtclbbchljiagpaaDoorNumC
namespace Go.Proofs.YtclbbchljiagpaaDoor
open Go.RowKit
set_option maxRecDepth 100000
set_option linter.unusedVariables false

theorem Sl.aside {w : World} {s n : Nat} {A : Option Addr} {xs : List Value} (h : Sl w s A n xs) {b i : Nat} (hb : ∀ x, A = some x → x.block ≠ b) {u : Value} : Sl (w.setCell ⟨b, i, none⟩ u) s A n xs := by
  refine ⟨h.1, fun hn => ?_⟩
  obtain ⟨b0, off, rfl, h2⟩ := h.2 hn
  refine ⟨b0, off, rfl, fun j v hj => ?_⟩
  exact (World.cell?_of_block (w := w) (a := ⟨b0, off + j, none⟩) (Below.heap_setCell w ⟨b, i, none⟩ u b0 (hb _ rfl))).trans (h2 j v hj)
theorem tmod_nonneg {z : Int} (h : 0 ≤ z) : z.tmod 32768 = ((z.natAbs % 32768 : Nat) : Int) := by
  rw [Int.tmod_eq_emod_of_nonneg h]; omega
theorem tmod_neg {z : Int} (h : z < 0) : z.tmod 32768 = -((z.natAbs % 32768 : Nat) : Int) := by
  have h1 := Int.neg_tmod (-z) 32768
  rw [Int.tmod_eq_emod_of_nonneg (a := -z) (by omega), Int.neg_neg] at h1
  rw [h1]; omega
theorem tdiv_abs (z : Int) : (z.tdiv 32768).natAbs = z.natAbs / 32768 := by rw [Int.natAbs_tdiv]; rfl

/-- A number that is new: its digits lie in no block that was there. -/
def NewNum (w w' : World) (v : Value) : Prop := ∀ b A n c, v = .agg #[b, .slice A n c] → ∀ x : Addr, A = some x → w.heap.size ≤ x.block ∧ x.block < w'.heap.size
theorem NewNum.at_ {w w' : World} {b : Value} {A : Option Addr} {n c : Nat} (h : NewNum w w' (.agg #[b, .slice A n c])) : ∀ x : Addr, A = some x → w.heap.size ≤ x.block ∧ x.block < w'.heap.size := h b A n c rfl

set_option maxHeartbeats 4000000 in
theorem Of_new (a : Int) (w : World) (ha : -9223372036854775808 ≤ a ∧ a ≤ 9223372036854775807) :
    Calls Tryd.prog 47 #[.int .i64 a] w fun e w' => ∃ v, e = .returned v ∧ NumAt w' v a ∧ NewNum w w' v ∧ Below w.heap.size w w' := by
  have hlen : (digs a.natAbs).length ≤ 5 := digs_len (by have : (32768 : Nat) ^ 5 = 37778931862957161709568 := by decide
                                                         omega)
  go_enter Tryd.func47, Tryd.ntmps47
  go_wp2_with fail
  go_loopw [0, 4] (fun iv dv wr => ∃ (z : Int) (l : List Nat) (lv : Value), iv = .int .i64 z ∧ (-9223372036854775808 ≤ z ∧ z ≤ 9223372036854775807) ∧ l ++ digs z.natAbs = digs a.natAbs ∧ Blk wr w.heap.size 67 #[.bool false, .slice none 0 0] ∧ Blk wr (w.heap.size + 1) 67 #[.bool (decide (a < 0)), lv] ∧ wr.ownsRow (w.heap.size + 2) 3 1 lv l.length (cD l) ∧ Below w.heap.size w wr) (fun iv _ _ => (intOf iv).natAbs)
  case atStart =>
    refine ⟨a, [], .slice none 0 0, rfl, ha, by simp, (Blk.new _ _ _).alloc _, ?_, World.ownsRow_nil _ _ _ _, bel_al (bel_al (Below.refl _ _) _) _⟩
    have := Blk.new (w.alloc (.cells #[.bool false, .slice none 0 0] 67)) 67 #[.bool (decide (a < 0)), .slice none 0 0]
    simpa using this
  case round =>
    obtain ⟨z, l, lv, rfl, hz, hl, hb1, hb2, hown, hb⟩ := hrel
    have c0 := hb1.cell 0
    have c1 := hb1.cell 1
    have f0 := hb1.frozen 0
    have f1 := hb1.frozen 1
    have d0 := hb2.cell 0
    have d1 := hb2.cell 1
    have g1 := hb2.frozen 1
    simp at c0 c1 d0 d1
    have HL := Lib.hid hl
    have HB1 := Lib.hid hb1
    have HB2 := Lib.hid hb2
    have HBr := Lib.hid hb
    have HO := Lib.hid hown
    have hsz := hb2.lt
    clear hl hb1 hb2 hb hown
    by_cases h0 : z = 0
    · subst h0
      obtain ⟨C, k, rfl, hsl⟩ := Sl.own HO.out
      have HS := Lib.hid hsl
      have HCn : ∀ x, C = some x → x.block ≠ w.heap.size := fun x hx => by subst hx; have := (HO.out.lt x.block rfl).1; omega
      have HC := Lib.hid (own_cap HO.out)
      have HCN2 := Lib.hid (show ∀ x : Addr, C = some x → w.heap.size ≤ x.block ∧ x.block < wr.heap.size from fun x hx => by subst hx; have := HO.out.lt x.block rfl; omega)
      clear hsl
      have HF2 := Lib.hid (fun (u2 u3 : Value) => ((Below.refl w.heap.size wr).setCell (p := ⟨w.heap.size, 0, none⟩) (by simp) u2).setCell (p := ⟨w.heap.size, 1, none⟩) (by simp) u3)
      have HLL := Lib.hid (show l = digs a.natAbs by have := HL.out; rw [Int.natAbs_zero, digs_zero, List.append_nil] at this; exact this)
      go_wp2_with fail
      refine bodyPost_ret (v := .agg #[.bool (decide (a < 0)), .slice C l.length k]) (by simp [results, Tryd.results47, go_sem, c0, c1]) rfl ?_
      refine ⟨_, rfl, ⟨C, k, by rw [HLL.out], ?_, ?_⟩, ?_, HBr.out.trans (HF2.out _ _)⟩
      · rw [← HLL.out]; exact (HS.out.aside HCn).aside HCn
      · rw [← HLL.out]; exact HC.out
      · intro b A n c hv x hx
        cases hv
        have h1 := HCN2.out x hx
        refine ⟨h1.1, ?_⟩
        simp only [World.size_setCell]
        exact h1.2
    · have hp := digs_pos (n := z.natAbs) (by omega)
      have HP := Lib.hid hp
      have hm : z.natAbs % 32768 < 32768 := Nat.mod_lt _ (by omega)
      have HT := Lib.hid (tdiv_abs z)
      have hll : l.length < 5 := by
        have := congrArg List.length HL.out
        rw [hp, List.length_append, List.length_cons] at this
        omega
      have hq := Int.natAbs_tdiv z 32768
      clear hp
      have HQr := Lib.hid (show -9223372036854775808 ≤ z.tdiv 32768 ∧ z.tdiv 32768 ≤ 9223372036854775807 by have := HT.out; omega)
      have hcase : 0 ≤ z ∨ (z < 0 ∧ z.natAbs % 32768 = 0) ∨ (z < 0 ∧ z.natAbs % 32768 ≠ 0) := by omega
      clear hq
      rcases hcase with hzz | ⟨hzz, hmz⟩ | ⟨hzz, hmz⟩
      · have ht := tmod_nonneg hzz
        generalize z.natAbs % 32768 = m at *
        have hm0 : ¬ (m : Int) < 0 := by omega
        go_wp2_with (at_builtin; refine wpList_cat_lies elemInt _ _ rfl rfl (HO.out.alloc _) (by simp; omega) (Sl.newAt wr _ _ 1 rfl) (by omega) rfl rfl (by simp [Value.oneCell']) (by unfold lim; omega) (by unfold lim; omega) ?_; intro g5 k5 w5 hown5 hgr; have hb5 := hgr.after_alloc.blkOwn HB2.out HO.out (by decide); have hb6 := hgr.after_alloc.blkOwn HB1.out HO.out (by decide); have e1 := hb5.cell 1; have h1 := hb5.frozen 1; simp at e1; have HB5 := Lib.hid hb5; have HB6 := Lib.hid hb6; have HO5 := Lib.hid hown5; have HG5 := Lib.hid hgr.after_alloc; clear hb5 hb6 hown5 hgr)
        go_roundw
        case rel =>
          refine ⟨z.tdiv 32768, l ++ [m], .slice (some ⟨g5, 0, none⟩) (l.length + 1) k5, by first | rfl | (rw [Int.tdiv_eq_ediv_of_nonneg hzz]), HQr.out, ?_, ?_, ?_, ?_, ?_⟩
          · rw [← HL.out, HP.out, HT.out, List.append_assoc]; rfl
          · exact HB6.out.far (p := ⟨w.heap.size + 1, 1, none⟩) (by simp) _
          · have := HB5.out.set_ 1 (.slice (some ⟨g5, 0, none⟩) (l.length + 1) k5)
            simpa using this
          · have := ownsRow_setCell_below HO5.out (a := ⟨w.heap.size + 1, 1, none⟩) (by simp) (.slice (some ⟨g5, 0, none⟩) (l.length + 1) k5)
            rw [cD_append, List.length_append]
            exact this
          · exact (HBr.out.trans (HG5.out.belowOwn (Nat.le_trans HBr.out.size (Nat.le_refl _)) (own_mono HO.out (by omega)))).setCell (p := ⟨w.heap.size + 1, 1, none⟩) (by simp) _
        case measure =>
          have hT := HT.out
          first | (simp [intOf]; omega) | (simp only [intOf]; simp [-Int.natAbs_tdiv, hT]; omega)
      · have ht := tmod_neg hzz
        rw [hmz] at ht HP hm
        clear hmz
        obtain ⟨m, hmm⟩ : ∃ m : Nat, m = 0 := ⟨0, rfl⟩
        rw [← hmm] at HP
        have ht' : z.tmod 32768 = (m : Int) := by rw [ht, hmm]; rfl
        have hm0 : ¬ (m : Int) < 0 := by omega
        clear ht hmm
        go_wp2_with (at_builtin; refine wpList_cat_lies elemInt _ _ rfl rfl (HO.out.alloc _) (by simp; omega) (Sl.newAt wr _ _ 1 rfl) (by omega) rfl rfl (by simp [Value.oneCell']) (by unfold lim; omega) (by unfold lim; omega) ?_; intro g5 k5 w5 hown5 hgr; have hb5 := hgr.after_alloc.blkOwn HB2.out HO.out (by decide); have hb6 := hgr.after_alloc.blkOwn HB1.out HO.out (by decide); have e1 := hb5.cell 1; have h1 := hb5.frozen 1; simp at e1; have HB5 := Lib.hid hb5; have HB6 := Lib.hid hb6; have HO5 := Lib.hid hown5; have HG5 := Lib.hid hgr.after_alloc; clear hb5 hb6 hown5 hgr)
        go_roundw
        case rel =>
          refine ⟨z.tdiv 32768, l ++ [m], .slice (some ⟨g5, 0, none⟩) (l.length + 1) k5, by first | rfl | (rw [Int.tdiv_eq_ediv_of_nonneg hzz]), HQr.out, ?_, ?_, ?_, ?_, ?_⟩
          · rw [← HL.out, HP.out, HT.out, List.append_assoc]; rfl
          · exact HB6.out.far (p := ⟨w.heap.size + 1, 1, none⟩) (by simp) _
          · have := HB5.out.set_ 1 (.slice (some ⟨g5, 0, none⟩) (l.length + 1) k5)
            simpa using this
          · have := ownsRow_setCell_below HO5.out (a := ⟨w.heap.size + 1, 1, none⟩) (by simp) (.slice (some ⟨g5, 0, none⟩) (l.length + 1) k5)
            rw [cD_append, List.length_append]
            exact this
          · exact (HBr.out.trans (HG5.out.belowOwn (Nat.le_trans HBr.out.size (Nat.le_refl _)) (own_mono HO.out (by omega)))).setCell (p := ⟨w.heap.size + 1, 1, none⟩) (by simp) _
        case measure =>
          have hT := HT.out
          first | (simp [intOf]; omega) | (simp only [intOf]; simp [-Int.natAbs_tdiv, hT]; omega)
      · have ht := tmod_neg hzz
        generalize z.natAbs % 32768 = m at *
        have hm0 : -(m : Int) < 0 := by omega
        go_wp2_with (at_builtin; refine wpList_cat_lies elemInt _ _ rfl rfl (HO.out.alloc _) (by simp; omega) (Sl.newAt wr _ _ 1 rfl) (by omega) rfl rfl (by simp [Value.oneCell']) (by unfold lim; omega) (by unfold lim; omega) ?_; intro g5 k5 w5 hown5 hgr; have hb5 := hgr.after_alloc.blkOwn HB2.out HO.out (by decide); have hb6 := hgr.after_alloc.blkOwn HB1.out HO.out (by decide); have e1 := hb5.cell 1; have h1 := hb5.frozen 1; simp at e1; have HB5 := Lib.hid hb5; have HB6 := Lib.hid hb6; have HO5 := Lib.hid hown5; have HG5 := Lib.hid hgr.after_alloc; clear hb5 hb6 hown5 hgr)
        go_roundw
        case rel =>
          refine ⟨z.tdiv 32768, l ++ [m], .slice (some ⟨g5, 0, none⟩) (l.length + 1) k5, by first | rfl | (rw [Int.tdiv_eq_ediv_of_nonneg hzz]), HQr.out, ?_, ?_, ?_, ?_, ?_⟩
          · rw [← HL.out, HP.out, HT.out, List.append_assoc]; rfl
          · exact HB6.out.far (p := ⟨w.heap.size + 1, 1, none⟩) (by simp) _
          · have := HB5.out.set_ 1 (.slice (some ⟨g5, 0, none⟩) (l.length + 1) k5)
            simpa using this
          · have := ownsRow_setCell_below HO5.out (a := ⟨w.heap.size + 1, 1, none⟩) (by simp) (.slice (some ⟨g5, 0, none⟩) (l.length + 1) k5)
            rw [cD_append, List.length_append]
            exact this
          · exact (HBr.out.trans (HG5.out.belowOwn (Nat.le_trans HBr.out.size (Nat.le_refl _)) (own_mono HO.out (by omega)))).setCell (p := ⟨w.heap.size + 1, 1, none⟩) (by simp) _
        case measure =>
          have hT := HT.out
          first | (simp [intOf]; omega) | (simp only [intOf]; simp [-Int.natAbs_tdiv, hT]; omega)
theorem Of_any (a : Int) (w : World) (ha : -9223372036854775808 ≤ a ∧ a ≤ 9223372036854775807) :
    Calls Tryd.prog 47 #[.int .i64 a] w fun e w' => ∃ v, e = .returned v ∧ NumAt w' v a ∧ Below w.heap.size w w' :=
  (Of_new a w ha).mono fun _ _ ⟨v, h1, h2, _, h3⟩ => ⟨v, h1, h2, h3⟩
end Go.Proofs.YtclbbchljiagpaaDoor
