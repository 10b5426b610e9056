/-
  Part 20 of the proof of LoadMore: GrG, LdF.
-/
import Derived.BigQuiet
import Derived.Test.YtbbmgcdocolakaaGreatDoorLoadMoreM19
set_option linter.unusedVariables false
/-
  The document's New of a graph.
-/
namespace Go.Proofs.YtbbmgcdocolakaaGreatDoor
open Go.RowKit
attribute [local go_sem ↓] Go.wp_at_zero Go.wp_at_succ
set_option maxRecDepth 100000
set_option linter.unusedVariables false

/-- What the document's New answers. -/
def RNewRes (L : List Int) (E : List (Int × Int)) (A : Option Addr) (n c m : Nat) (w : World) (e : Ending) (w' : World) : Prop :=
  Below w.heap.size w w' ∧ ((∃ F D dk, Gh.newR L E = .ok F ∧ e = .returned (.tuple #[.agg #[.slice A n c, .slice D m dk], .int .i64 0, .int .i64 0]) ∧ Sl w' 2 D m (Rk.cells (Gh.sortG F))) ∨
    ((∀ F, Gh.newR L E ≠ .ok F) ∧ ∃ code place : Int, e = .returned (.tuple #[.agg #[.slice none 0 0, .slice none 0 0], .int .i64 code, .int .i64 place]) ∧ 0 < code))
set_option maxHeartbeats 16000000 in
theorem RNew_any (L : List Int) (E : List (Int × Int)) (A B : Option Addr) (n c m d : Nat) (w : World) (hl : L.length = n) (hn : n ≤ 4096) (hm : m ≤ 1000) (hs : Sl w 1 A n (L.map (Value.int .i64))) (ht : Sl w 2 B m (Rk.cells E)) :
    Calls Tryz.prog 26 #[.slice A n c, .slice B m d] w (RNewRes L E A n c m w) := by
  obtain ⟨w0, hw0⟩ : ∃ W, W = w.alloc (.cells #[.slice none 0 0, .slice none 0 0] 27) := ⟨_, rfl⟩
  have HB0 := Lib.hid (show Below w.heap.size w w0 from by rw [hw0]; exact bel_al (Below.refl _ _) _)
  have HKR := Lib.hid (show Blk w0 w.heap.size 27 #[.slice none 0 0, .slice none 0 0] from by rw [hw0]; exact Blk.new _ _ _)
  have HZ0 := Lib.hid (show w0.heap.size = w.heap.size + 1 from by rw [hw0]; simp)
  have HS := Lib.hid (hs.keep HB0.out)
  have HT := Lib.hid ht
  have HL := Lib.hid hl
  have HM := Lib.hid ht.len2
  have hn' : ¬ (4096 : Int) < (n : Int) := by omega
  have hm' : ¬ (16384 : Int) < (m : Int) := by omega
  have HNb := Lib.hid (show ¬ (4096 < L.length ∨ 16384 < E.length) from by rw [HL.out, HM.out]; omega)
  clear hs ht hl
  go_enter Tryz.func26, Tryz.ntmps26
  go_upto_region 1 with (fail)
  rw [← hw0]
  clear hw0
  go_wp2_with fail
  go_loop [7] (fun kv => ∃ k : Nat, k ≤ n ∧ kv = .int .i64 (k : Int) ∧ Hid (∀ j y, j < k → L[j]? = some y → Gh.labBad y = false)) (fun kv => n - (intOf kv).toNat)
  case atStart => exact ⟨0, Nat.zero_le _, rfl, Lib.hid (fun j y h => absurd h (Nat.not_lt_zero _))⟩
  case round =>
    obtain ⟨k, hk, rfl, HK⟩ := hrel
    by_cases hlt : k < n
    · have hlt' : (k : Int) < (n : Int) := by omega
      have hk0 : (0 : Int) ≤ (k : Int) := by omega
      obtain ⟨x, hx⟩ : ∃ x, L[k]? = some x := ⟨_, List.getElem?_eq_getElem (by rw [HL.out]; exact hlt)⟩
      obtain ⟨b1, o1, hAA, hAc⟩ := HS.out.at_ hlt
      subst hAA
      clear hAc
      have hc := HS.out.again hlt (by rw [List.getElem?_map, hx]; rfl)
      have HX := Lib.hid hx
      clear hx
      by_cases hbad : Gh.labBad x = true
      · have HR := Lib.hid (show ∀ F, Gh.newR L E ≠ .ok F from fun F h => by unfold Gh.newR at h; rw [if_neg HNb.out, lab_first HX.out hbad HK.out] at h; cases h)
        have h2 : x < 0 ∨ (¬ x < 0 ∧ 255 < x) := by unfold Gh.labBad at hbad; simp at hbad; omega
        have r0 := HKR.out.cell 0
        have r1 := HKR.out.cell 1
        have f0 := HKR.out.frozen 0
        have f1 := HKR.out.frozen 1
        simp at r0 r1
        clear hbad
        rcases h2 with h2 | ⟨h2, h3⟩
        · go_wp2_with fail
          have hx := (HKR.out.set_ 0 (.slice none 0 0)).set_ 1 (.slice none 0 0)
          have x00 := hx.cell 0
          have x01 := hx.cell 1
          simp at x00 x01
          refine bodyPost_ret (v := .tuple #[.agg #[.slice none 0 0, .slice none 0 0], .int .i64 3, .int .i64 (k : Int)]) (by simp [results, Tryz.results26, go_sem, x00, x01]) rfl ?_
          exact ⟨(HB0.out.setCell (p := ⟨w.heap.size, 0, none⟩) (Nat.le_refl _) _).setCell (p := ⟨w.heap.size, 1, none⟩) (Nat.le_refl _) _, .inr ⟨HR.out, _, _, rfl, by decide⟩⟩
        · go_wp2_with fail
          have hx := (HKR.out.set_ 0 (.slice none 0 0)).set_ 1 (.slice none 0 0)
          have x00 := hx.cell 0
          have x01 := hx.cell 1
          simp at x00 x01
          refine bodyPost_ret (v := .tuple #[.agg #[.slice none 0 0, .slice none 0 0], .int .i64 3, .int .i64 (k : Int)]) (by simp [results, Tryz.results26, go_sem, x00, x01]) rfl ?_
          exact ⟨(HB0.out.setCell (p := ⟨w.heap.size, 0, none⟩) (Nat.le_refl _) _).setCell (p := ⟨w.heap.size, 1, none⟩) (Nat.le_refl _) _, .inr ⟨HR.out, _, _, rfl, by decide⟩⟩
      · have HK2 := Lib.hid (show ∀ j y, j < k + 1 → L[j]? = some y → Gh.labBad y = false from fun j y hj hy => by
          rcases (show j < k ∨ j = k by omega) with h | rfl
          · exact HK.out j y h hy
          · rw [HX.out] at hy
            obtain rfl := Option.some.inj hy
            simpa using hbad)
        have h2 : ¬ x < 0 ∧ ¬ 255 < x := by unfold Gh.labBad at hbad; simp at hbad; omega
        obtain ⟨h2, h3⟩ := h2
        clear hbad
        go_wp2_with fail
        go_round
        case rel => exact ⟨k + 1, by omega, by go_num, HK2⟩
        case measure => simp [intOf]; omega
    obtain rfl : k = n := by omega
    have HG := Lib.hid (show Gh.newR L E = Gh.goE k [] E from by unfold Gh.newR; rw [if_neg HNb.out, lab_all (by rw [HL.out]; exact HK.out), HL.out])
    clear HK HNb
    obtain ⟨w1, hw1⟩ : ∃ W, W = w0.alloc (.cells #[.slice A k c, .slice none 0 0] 27) := ⟨_, rfl⟩
    obtain ⟨gB, hgB⟩ : ∃ q, q = w0.heap.size := ⟨_, rfl⟩
    have HB1 := Lib.hid (show Below w.heap.size w w1 from by rw [hw1]; exact bel_al HB0.out _)
    have HKR1 := Lib.hid (show Blk w1 w.heap.size 27 #[.slice none 0 0, .slice none 0 0] from by rw [hw1]; exact HKR.out.alloc _)
    have HKG1 := Lib.hid (show Blk w1 gB 27 #[.slice A k c, .slice none 0 0] from by rw [hw1, hgB]; exact Blk.new _ _ _)
    have hz1 : w1.heap.size = gB + 1 := by rw [hw1, hgB]; simp
    have hgw : w.heap.size < gB := by rw [hgB, HZ0.out]; exact Nat.lt_succ_self _
    have HZ1 := Lib.hid hz1
    go_upto_region 9 with (fail)
    rw [← hw1, ← hgB]
    clear hw1 hgB HB0 HKR hz1
    go_wp2_with fail
    go_loopw [9] (fun kv wr => ∃ (j : Nat) (fv : Value) (acc : List (Int × Int)), j ≤ m ∧ kv = .int .i64 (j : Int) ∧ Hid (acc = (E.take j).map turnE) ∧ Hid (Gh.Has k acc) ∧ Hid (Gh.goE k [] E = Gh.goE k acc (E.drop j)) ∧ Hid (wr.ownsRow w1.heap.size 32 2 fv j (Rk.cells (Gh.sortG acc))) ∧ Hid (Blk wr gB 27 #[.slice A k c, fv]) ∧ Hid (Blk wr w.heap.size 27 #[.slice none 0 0, .slice none 0 0]) ∧ Hid (Below gB w1 wr)) (fun kv _ => m - (intOf kv).toNat)
    case atStart => exact ⟨0, .slice none 0 0, [], Nat.zero_le _, rfl, Lib.hid rfl, Lib.hid (Gh.Has.nil _), Lib.hid rfl, Lib.hid (World.ownsRow_nil _ _ _ _), HKG1, HKR1, Lib.hid (Below.refl _ _)⟩
    case round =>
      obtain ⟨j, fv, acc, hj, rfl, HAc, HHs, HGo, HOw, HKG, HKRr, HBr⟩ := hrel
      clear HKG1 HKR1
      obtain ⟨D, dv, rfl, _⟩ := Sl.own HOw.out
      by_cases hlt2 : j < m
      · have hlt2' : (j : Int) < (m : Int) := by omega
        have hj0 : (0 : Int) ≤ (j : Int) := by omega
        obtain ⟨⟨x, y⟩, he⟩ : ∃ e, E[j]? = some e := ⟨_, List.getElem?_eq_getElem (by rw [HM.out]; exact hlt2)⟩
        have hTr : Sl wr 2 B m (Rk.cells E) := HT.out.keep (HB1.out.trans (HBr.out.mono (Nat.le_of_lt hgw)))
        obtain ⟨b1, o1, hBB, e0, e1⟩ := hTr.edge hlt2 he
        subst hBB
        simp only at e0 e1
        have HTk := Lib.hid (show E.take (j + 1) = E.take j ++ [(x, y)] ∧ E.drop j = (x, y) :: E.drop (j + 1) from by
          obtain ⟨h1, h2⟩ := List.getElem?_eq_some_iff.1 he
          refine ⟨by rw [List.take_succ_eq_append_getElem h1, h2], by rw [← h2, List.getElem_cons_drop]⟩)
        clear he hTr
        obtain ⟨⟨t1, t2⟩, htt⟩ : ∃ t, t = turnE (x, y) := ⟨_, rfl⟩
        have HTe := Lib.hid htt
        have HTc := Lib.hid (show (x = y ↔ t1 = t2) ∧ t1 ≤ t2 from by
          unfold turnE at htt
          split at htt
          · rename_i h
            injection htt with h3 h4
            subst h3 h4
            exact ⟨Iff.rfl, h⟩
          · rename_i h
            injection htt with h3 h4
            subst h3 h4
            exact ⟨eq_comm, by simp only at h; omega⟩)
        have HTu := Lib.hid (show Calls Tryz.prog 54 #[.agg #[.int .i64 x, .int .i64 y]] wr fun e w' => e = .returned (.agg #[.int .i64 t1, .int .i64 t2]) ∧ Below wr.heap.size wr w' from (RTurn_any x y wr).mono fun e w' h => ⟨by rw [h.1, ← htt]; rfl, h.2⟩)
        have HBad := Lib.hid (show Gh.badE k acc (x, y) ≠ 0 → ∀ F, Gh.newR L E ≠ .ok F from fun h F hF => by
          rw [HG.out, HGo.out, HTk.out.2, Gh.goE_bad h] at hF
          cases hF)
        have HBd := Lib.hid (show Gh.badE k acc (x, y) = if t1 < 0 ∨ (k : Int) ≤ t2 then 3 else if x = y then 1 else if (t1, t2) ∈ acc then 4 else 0 from by unfold Gh.badE; rw [← htt])
        clear htt
        go_upto_region 13 with (go_at_call 54; refine HTu.out.mono ?_; clear HTu; rintro e w2 ⟨rfl, hb2⟩; have HB2 := Lib.hid hb2; clear hb2)
        obtain ⟨w3, hw3⟩ : ∃ W, W = w2.alloc (.cells #[.int .i64 t1, .int .i64 t2] 32) := ⟨_, rfl⟩
        obtain ⟨q, hq⟩ : ∃ q, q = w2.heap.size := ⟨_, rfl⟩
        have HB3 := Lib.hid (show Below wr.heap.size wr w3 from by rw [hw3]; exact bel_al HB2.out _)
        have HKe := Lib.hid (show Blk w3 q 32 #[.int .i64 t1, .int .i64 t2] from by rw [hw3, hq]; exact Blk.new _ _ _)
        have HKG3 := Lib.hid (HKG.out.keep HB3.out)
        have HKR3 := Lib.hid (HKRr.out.keep HB3.out)
        have HOw3 := Lib.hid (own_block HOw.out (w' := w3) fun b hb => HB3.out.block b (HOw.out.lt b hb).2)
        have HBr3 := Lib.hid (HBr.out.trans (HB3.out.mono (show gB ≤ wr.heap.size from by have h1 := HBr.out.size; have h2 := HZ1.out; omega)))
        rw [← hw3, ← hq]
        clear hw3 hq e0 e1 HB2 HOw HKG HKRr HBr HB3
        have HBw3 := Lib.hid (HB1.out.trans (HBr3.out.mono (Nat.le_of_lt hgw)))
        have e0 := HKe.out.cell 0
        have e1 := HKe.out.cell 1
        have r0 := HKR3.out.cell 0
        have r1 := HKR3.out.cell 1
        have f0 := HKR3.out.frozen 0
        have f1 := HKR3.out.frozen 1
        simp at e0 e1 r0 r1
        by_cases ht0 : t1 < 0
        · have HR := Lib.hid (HBad.out (by rw [HBd.out, if_pos (.inl ht0)]; decide))
          go_wp2_with fail
          have hx := (HKR3.out.set_ 0 (.slice none 0 0)).set_ 1 (.slice none 0 0)
          have x00 := hx.cell 0
          have x01 := hx.cell 1
          simp at x00 x01
          refine bodyPost_ret (v := .tuple #[.agg #[.slice none 0 0, .slice none 0 0], .int .i64 3, .int .i64 (j : Int)]) (by simp [results, Tryz.results26, go_sem, x00, x01]) rfl ?_
          exact ⟨(HBw3.out.setCell (p := ⟨w.heap.size, 0, none⟩) (Nat.le_refl _) _).setCell (p := ⟨w.heap.size, 1, none⟩) (Nat.le_refl _) _, .inr ⟨HR.out, _, _, rfl, by decide⟩⟩
        by_cases htk : (k : Int) ≤ t2
        · have HR := Lib.hid (HBad.out (by rw [HBd.out, if_pos (.inr htk)]; decide))
          go_wp2_with fail
          have hx := (HKR3.out.set_ 0 (.slice none 0 0)).set_ 1 (.slice none 0 0)
          have x00 := hx.cell 0
          have x01 := hx.cell 1
          simp at x00 x01
          refine bodyPost_ret (v := .tuple #[.agg #[.slice none 0 0, .slice none 0 0], .int .i64 3, .int .i64 (j : Int)]) (by simp [results, Tryz.results26, go_sem, x00, x01]) rfl ?_
          exact ⟨(HBw3.out.setCell (p := ⟨w.heap.size, 0, none⟩) (Nat.le_refl _) _).setCell (p := ⟨w.heap.size, 1, none⟩) (Nat.le_refl _) _, .inr ⟨HR.out, _, _, rfl, by decide⟩⟩
        have HNr := Lib.hid (show ¬ (t1 < 0 ∨ (k : Int) ≤ t2) from by omega)
        by_cases hte : t1 = t2
        · have HR := Lib.hid (HBad.out (by rw [HBd.out, if_neg HNr.out, if_pos (HTc.out.1.2 hte)]; decide))
          subst hte
          go_wp2_with fail
          have hx := (HKR3.out.set_ 0 (.slice none 0 0)).set_ 1 (.slice none 0 0)
          have x00 := hx.cell 0
          have x01 := hx.cell 1
          simp at x00 x01
          refine bodyPost_ret (v := .tuple #[.agg #[.slice none 0 0, .slice none 0 0], .int .i64 1, .int .i64 (j : Int)]) (by simp [results, Tryz.results26, go_sem, x00, x01]) rfl ?_
          exact ⟨(HBw3.out.setCell (p := ⟨w.heap.size, 0, none⟩) (Nat.le_refl _) _).setCell (p := ⟨w.heap.size, 1, none⟩) (Nat.le_refl _) _, .inr ⟨HR.out, _, _, rfl, by decide⟩⟩
        have hteb : (t1 == t2) = false := by simpa using hte
        have HNe := Lib.hid (show ¬ x = y from fun h => hte (HTc.out.1.1 h))
        have g0 := HKG3.out.cell 0
        have g1 := HKG3.out.cell 1
        simp at g0 g1
        have HId := Lib.hid (show Calls Tryz.prog 55 #[.agg #[.slice A k c, .slice D j dv], .int .i64 t1, .int .i64 t2] w3 fun e w' => ∃ r : Int, e = .returned (.int .i64 r) ∧ (0 ≤ r ↔ (t1, t2) ∈ acc) ∧ Below w3.heap.size w3 w' from (RId_any L (Gh.sortG acc) A D k c j dv t1 t2 w3 (by omega) (Sl.of_own HOw3.out)).mono fun e w' ⟨r, h1, h2, h3⟩ => ⟨r, h1, by
          have ht : turnE (t1, t2) = (t1, t2) := by unfold turnE; rw [if_pos HTc.out.2]
          rw [ht] at h2
          rw [← Gh.mem_sort HHs.out.nd]
          constructor
          · intro h
            rw [decide_eq_true h] at h2
            obtain ⟨e, he, hq⟩ := List.any_eq_true.1 h2.symm
            rwa [← of_decide_eq_true hq]
          · intro h
            have : ((Gh.sortG acc).any fun e => decide (e = (t1, t2))) = true := List.any_eq_true.2 ⟨_, h, decide_eq_true rfl⟩
            rw [this] at h2
            exact of_decide_eq_true h2, h3⟩)
        by_cases hin : (t1, t2) ∈ acc
        · have HR := Lib.hid (HBad.out (by rw [HBd.out, if_neg HNr.out, if_neg HNe.out, if_pos hin]; decide))
          go_upto_region 18 with (go_at_call 55; refine HId.out.mono ?_; clear HId; rintro e w4 ⟨r, rfl, hr, hb4⟩; have HB4 := Lib.hid hb4; have hr0 := hr.2 hin; clear hr hb4)
          have HKR4 := Lib.hid (HKR3.out.keep HB4.out)
          have HBw4 := Lib.hid (HBw3.out.andThen HB4.out)
          clear r0 r1 f0 f1 g0 g1
          have r0 := HKR4.out.cell 0
          have r1 := HKR4.out.cell 1
          have f0 := HKR4.out.frozen 0
          have f1 := HKR4.out.frozen 1
          simp at r0 r1
          go_wp2_with fail
          have hx := (HKR4.out.set_ 0 (.slice none 0 0)).set_ 1 (.slice none 0 0)
          have x00 := hx.cell 0
          have x01 := hx.cell 1
          simp at x00 x01
          refine bodyPost_ret (v := .tuple #[.agg #[.slice none 0 0, .slice none 0 0], .int .i64 4, .int .i64 (j : Int)]) (by simp [results, Tryz.results26, go_sem, x00, x01]) rfl ?_
          exact ⟨(HBw4.out.setCell (p := ⟨w.heap.size, 0, none⟩) (Nat.le_refl _) _).setCell (p := ⟨w.heap.size, 1, none⟩) (Nat.le_refl _) _, .inr ⟨HR.out, _, _, rfl, by decide⟩⟩
        have HOkE := Lib.hid (show Gh.badE k acc (x, y) = 0 from by rw [HBd.out, if_neg HNr.out, if_neg HNe.out, if_neg hin])
        go_upto_region 19 with (go_at_call 55; refine HId.out.mono ?_; clear HId; rintro e w4 ⟨r, rfl, hr, hb4⟩; have HB4 := Lib.hid hb4; have hr0 : ¬ 0 ≤ r := (fun h => hin (hr.1 h)); clear hr hb4)
        have HKe4 := Lib.hid (HKe.out.keep HB4.out)
        have HKG4 := Lib.hid (HKG3.out.keep HB4.out)
        have HKR4 := Lib.hid (HKR3.out.keep HB4.out)
        have HOw4 := Lib.hid (own_block HOw3.out (w' := w4) fun b hb => HB4.out.block b (HOw3.out.lt b hb).2)
        have HBr4 := Lib.hid (HBr3.out.trans (HB4.out.mono (show gB ≤ w3.heap.size from by have h1 := HBr3.out.size; have h2 := HZ1.out; omega)))
        clear HKe HKG3 HKR3 HOw3 HBr3 HBw3 HB4 e0 e1 r0 r1 f0 f1 g0 g1 HBad HBd HNr HNe ht0 htk hteb hin hr0
        obtain ⟨G, hGG⟩ : ∃ G, G = Gh.sortG acc := ⟨_, rfl⟩
        obtain ⟨P, hPP⟩ : ∃ P, P = Gh.posE (t1, t2) G := ⟨_, rfl⟩
        have HGG := Lib.hid hGG
        have HIns := Lib.hid (show Gh.sortG (acc ++ [(t1, t2)]) = G.take P ++ (t1, t2) :: G.drop P from by rw [Gh.sort_snoc, Gh.insE_take, hPP, hGG])
        have HLs := Lib.hid (show ∀ (p : Nat) (z : Int × Int), p < P → G[p]? = some z → Pt.ordE z (t1, t2) < 0 from fun p z h1 h2 => Gh.pos_less _ G p z (by rw [← hPP]; exact h1) h2)
        have HSt := Lib.hid (show ∀ z : Int × Int, G[P]? = some z → ¬ Pt.ordE z (t1, t2) < 0 from fun z h => Gh.pos_stop _ G z (by rw [← hPP]; exact h))
        rw [← hGG] at HOw4
        have HGl := Lib.hid (show G.length = j from (Sl.of_own HOw4.out).len2)
        have hPj : P ≤ j := by rw [← HGl.out, hPP]; exact Gh.pos_le _ _
        clear hGG hPP
        go_wp2_with fail
        go_loopw [11] (fun kv wr => ∃ p : Nat, p ≤ P ∧ kv = .int .i64 (p : Int) ∧ Hid (Below w4.heap.size w4 wr)) (fun kv _ => P - (intOf kv).toNat)
        case atStart => exact ⟨0, Nat.zero_le _, rfl, Lib.hid (Below.refl _ _)⟩
        case round =>
          obtain ⟨p, hp, rfl, HBx⟩ := hrel
          have hp0 : (0 : Int) ≤ (p : Int) := by omega
          have HKex := Lib.hid (HKe4.out.keep HBx.out)
          have HKGx := Lib.hid (HKG4.out.keep HBx.out)
          have HOwx := Lib.hid (own_block HOw4.out (w' := wr) fun b hb => HBx.out.block b (HOw4.out.lt b hb).2)
          by_cases hpP : p < P
          · have hpj : (p : Int) < (j : Int) := by omega
            obtain ⟨⟨z1, z2⟩, hz⟩ : ∃ z, G[p]? = some z := ⟨_, List.getElem?_eq_getElem (by rw [HGl.out]; omega)⟩
            obtain ⟨b2, o2, hDD, _, _⟩ := (Sl.of_own HOwx.out).edge (show p < j by omega) hz
            subst hDD
            have HAll := Lib.hid (show ∀ W, Below wr.heap.size wr W → (W.cell? ⟨gB, 0, none⟩ = some (.slice A k c) ∧ W.cell? ⟨gB, 1, none⟩ = some (.slice (some ⟨b2, o2, none⟩) j dv)) ∧ (W.cell? ⟨q, 0, none⟩ = some (.int .i64 t1) ∧ W.cell? ⟨q, 1, none⟩ = some (.int .i64 t2)) ∧ (W.cell? ⟨b2, o2 + p * 2, none⟩ = some (.int .i64 z1) ∧ W.cell? ⟨b2, o2 + p * 2 + 1, none⟩ = some (.int .i64 z2)) from fun W hW => by
              obtain ⟨b3, o3, hD3, c0, c1⟩ := ((Sl.of_own HOwx.out).keep hW).edge (show p < j by omega) hz
              injection hD3 with hD3
              injection hD3 with h1 h2
              subst h1 h2
              simp only at c0 c1
              have h1 := (HKGx.out.keep hW).cell 0
              have h2 := (HKGx.out.keep hW).cell 1
              have h3 := (HKex.out.keep hW).cell 0
              have h4 := (HKex.out.keep hW).cell 1
              simp at h1 h2 h3 h4
              exact ⟨⟨h1, h2⟩, ⟨h3, h4⟩, c0, c1⟩)
            have HLe := Lib.hid (show ∀ W, Below wr.heap.size wr W → Calls Tryz.prog 56 #[.agg #[.int .i64 z1, .int .i64 z2], .agg #[.int .i64 t1, .int .i64 t2]] W fun e w' => e = .returned (.bool true) ∧ Below wr.heap.size wr w' from fun W hW => (RLess_any z1 z2 t1 t2 W).mono fun e w' h => ⟨by rw [h.1, decide_eq_true (HLs.out p (z1, z2) hpP hz)], hW.andThen h.2⟩)
            clear hz
            go_upto_region 20 with (fail)
            refine wp_region_qq (fun W => Below wr.heap.size wr W) (by kernel_rfl) (by kernel_rfl) (bel_drewN (Below.refl _ _) 1) ?_
            repeat (
              first
                | (apply qq_want
                   · rfl
                   · intro W hW
                     have zz := HAll.out W hW
                     go_simp
                     first
                       | done
                       | exact rfl
                       | with_reducible exact HLe.out W hW)
                | (refine qq_pass ?_ ?_
                   · rfl)
              try simp only [Act.put, List.setIfInBounds_toArray, List.set_cons_zero, List.set_cons_succ])
            refine qq_nil ?_
            intro wq hbq
            have HBq := Lib.hid (HBx.out.andThen hbq)
            clear hbq
            go_wp2_with fail
            go_roundw
            case rel => exact ⟨p + 1, by omega, by go_num, HBq⟩
            case measure => simp [intOf]; omega
          · obtain rfl : p = P := by omega
            have HFm := Lib.hid (show (D = none ∧ j = 0 ∧ dv = 0) ∨ ∃ g o, D = some ⟨g, o, none⟩ from by
              rcases HOwx.out.2 with ⟨h1, h2⟩ | ⟨g, cap, cur, h1, _⟩
              · injection h1 with h1 h3 h4
                exact .inl ⟨h1, h3, h4⟩
              · injection h1 with h1
                exact .inr ⟨g, 0, h1⟩)
            have HCap := Lib.hid (own_cap HOwx.out)
            by_cases hpj : p < j
            · skip
              have hpj' : (p : Int) < (j : Int) := by omega
              obtain ⟨⟨z1, z2⟩, hz⟩ : ∃ z, G[p]? = some z := ⟨_, List.getElem?_eq_getElem (by rw [HGl.out]; omega)⟩
              obtain ⟨b2, o2, rfl⟩ : ∃ g o, D = some ⟨g, o, none⟩ := by
                rcases HFm.out with ⟨_, h, _⟩ | h
                · omega
                · exact h
              have HAll := Lib.hid (show ∀ W, Below wr.heap.size wr W → (W.cell? ⟨gB, 0, none⟩ = some (.slice A k c) ∧ W.cell? ⟨gB, 1, none⟩ = some (.slice (some ⟨b2, o2, none⟩) j dv)) ∧ (W.cell? ⟨q, 0, none⟩ = some (.int .i64 t1) ∧ W.cell? ⟨q, 1, none⟩ = some (.int .i64 t2)) ∧ (W.cell? ⟨b2, o2 + p * 2, none⟩ = some (.int .i64 z1) ∧ W.cell? ⟨b2, o2 + p * 2 + 1, none⟩ = some (.int .i64 z2)) from fun W hW => by
                obtain ⟨b3, o3, hD3, c0, c1⟩ := ((Sl.of_own HOwx.out).keep hW).edge hpj hz
                injection hD3 with hD3
                injection hD3 with h1 h2
                subst h1 h2
                simp only at c0 c1
                have h1 := (HKGx.out.keep hW).cell 0
                have h2 := (HKGx.out.keep hW).cell 1
                have h3 := (HKex.out.keep hW).cell 0
                have h4 := (HKex.out.keep hW).cell 1
                simp at h1 h2 h3 h4
                exact ⟨⟨h1, h2⟩, ⟨h3, h4⟩, c0, c1⟩)
              have HLe := Lib.hid (show ∀ W, Below wr.heap.size wr W → Calls Tryz.prog 56 #[.agg #[.int .i64 z1, .int .i64 z2], .agg #[.int .i64 t1, .int .i64 t2]] W fun e w' => e = .returned (.bool false) ∧ Below wr.heap.size wr w' from fun W hW => (RLess_any z1 z2 t1 t2 W).mono fun e w' h => ⟨by rw [h.1, decide_eq_false (show ¬ Pt.ordE (z1, z2) (t1, t2) < 0 from by have h9 := HSt.out (z1, z2) hz; omega)], hW.andThen h.2⟩)
              have HG1 := Lib.hid (show ∀ W, Below wr.heap.size wr W → W.cell? ⟨gB, 1, none⟩ = some (.slice (some ⟨b2, o2, none⟩) j dv) from fun W hW => by
                have h2 := (HKGx.out.keep hW).cell 1
                simp at h2
                exact h2)
              have HTkw := Lib.hid (show ∀ W, Below wr.heap.size wr W → Sl W 2 (some ⟨b2, o2, none⟩) p (Rk.cells (G.take p)) from fun W hW => Sl.take2 ((Sl.of_own HOwx.out).keep hW) hPj)
              have HDrw := Lib.hid (show ∀ W, Below wr.heap.size wr W → Sl W 2 (some ⟨b2, o2 + p * 2, none⟩) (j - p) (Rk.cells (G.drop p)) from fun W hW => Sl.drop2 ((Sl.of_own HOwx.out).keep hW) hPj)
              clear hz
              go_upto_region 20 with (fail)
              refine wp_region_qq (fun W => Below wr.heap.size wr W) (by kernel_rfl) (by kernel_rfl) (bel_drewN (Below.refl _ _) 1) ?_
              repeat (
                first
                  | (apply qq_want
                     · rfl
                     · intro W hW
                       have zz := HAll.out W hW
                       go_simp
                       first
                         | done
                         | exact rfl
                         | with_reducible exact HLe.out W hW)
                  | (refine qq_pass ?_ ?_
                     · rfl)
                try simp only [Act.put, List.setIfInBounds_toArray, List.set_cons_zero, List.set_cons_succ])
              refine qq_nil ?_
              intro wq hbq
              have HBqw := Lib.hid hbq
              have HBq := Lib.hid (HBx.out.andThen hbq)
              have HKGq := Lib.hid (HKGx.out.keep hbq)
              have HKeq := Lib.hid (HKex.out.keep hbq)
              have HSz := Lib.hid (show gB < wq.heap.size ∧ w1.heap.size ≤ wq.heap.size ∧ gB ≤ w4.heap.size from by have h1 := HBr4.out.size; have h2 := HZ1.out; have h3 := HBx.out.size; have h4 := hbq.size; omega)
              have g1 := HG1.out (wq.alloc (.cells #[] 32)) (hbq.andThen (bel_al (Below.refl _ _) _))
              have hcap := HCap.out.1
              have hdv : ¬ dv = p := by omega
              clear hbq HAll
              go_upto_region 23 with (at_builtin; refine wpList_cat_at elemEdge32 _ _ rfl rfl (own0E wq wq.heap.size (Nat.le_refl _)) (by simp) (HTkw.out (wq.alloc (.cells #[] 32)) (HBqw.out.andThen (bel_al (Below.refl _ _) _))) rfl rfl (cells_oneG _) (by unfold lim; omega) (by unfold lim; omega) ?_; intro v6 w6 hown6 hgr6; have HO6 := Lib.hid hown6; have HB6 := Lib.hid (show Below wq.heap.size wq w6 from (bel_al (Below.refl _ _) _).trans (hgr6.belowOwn (by simp) (own0E wq wq.heap.size (Nat.le_refl _)))); clear hown6 hgr6)
              have HKe6 := Lib.hid (HKeq.out.keep HB6.out)
              have e0 := HKe6.out.cell 0
              have e1 := HKe6.out.cell 1
              simp at e0 e1
              clear g1
              go_upto_region 24 with (at_builtin; refine wpList_push elemEdge32 (w0 := wq) _ _ rfl rfl HO6.out HB6.out (Nat.le_refl _) rfl rfl rfl (by simp [Value.oneCell']) (by unfold lim; omega) (by unfold lim; omega) ?_; intro v7 w7 hown7 hb7; have HO7 := Lib.hid hown7; have HB7 := Lib.hid hb7; clear hown7 hb7)
              have g1 := HG1.out w7 (HBqw.out.andThen HB7.out)
              have HDr7 := Lib.hid (HDrw.out w7 (HBqw.out.andThen HB7.out))
              clear e0 e1
              go_wp2_with (at_builtin; refine wpList_cat_at elemEdge32 _ _ rfl rfl HO7.out HB7.out.size HDr7.out rfl rfl (cells_oneG _) (by unfold lim; omega) (by unfold lim; omega) ?_; intro v8 w8 hown8 hgr8; obtain ⟨D8, c8, rfl, _⟩ := Sl.own hown8; have HO8 := Lib.hid hown8; have HB8 := Lib.hid (HB7.out.trans (hgr8.belowOwn HB7.out.size HO7.out)); have HKG8 := Lib.hid (HKGq.out.keep (HB7.out.trans (hgr8.belowOwn HB7.out.size HO7.out))); have f8 := HKG8.out.frozen 1; have g8 := HG1.out w8 (HBqw.out.andThen HB8.out); clear hown8 hgr8)
              go_roundw
              case rel =>
                have hBf : ∀ u, Below gB w4 (w8.setCell ⟨gB, 1, none⟩ u) := fun u => ((HBq.out.mono HSz.out.2.2).trans (HB8.out.mono (Nat.le_of_lt HSz.out.1))).setCell (p := ⟨gB, 1, none⟩) (Nat.le_refl _) _
                have hK8 := fun u => HKG8.out.set_ 1 u
                have hHs := HHs.out.snoc HOkE.out
                rw [← HTe.out] at hHs
                refine ⟨j + 1, _, acc ++ [(t1, t2)], by omega, by go_num, Lib.hid (by rw [HTk.out.1, List.map_append, ← HAc.out, List.map_cons, List.map_nil, ← HTe.out]), Lib.hid hHs, Lib.hid (by rw [HGo.out, HTk.out.2, Gh.goE_step HOkE.out, ← HTe.out]), Lib.hid ?_, Lib.hid (by simpa using hK8 _), Lib.hid (((hBf _).block w.heap.size hgw).trans HKR4.out), Lib.hid (HBr4.out.trans (hBf _))⟩
                rw [HIns.out, cells_ins5]
                refine own_far2 (own_mono ?_ HSz.out.2.1) (by have := HZ1.out; omega) _
                exact own_eq5 HO8.out (by simp) (by omega) (by simp [Rk.cells, List.append_assoc])
              case measure => simp [intOf]; omega
            · skip
              obtain rfl : p = j := by omega
              have hpj' : ¬ (p : Int) < (p : Int) := by omega
              rcases HFm.out with ⟨rfl, rfl, rfl⟩ | ⟨b2, o2, rfl⟩
              · skip
                have HAll := Lib.hid (show ∀ W, Below wr.heap.size wr W → (W.cell? ⟨gB, 0, none⟩ = some (.slice A k c) ∧ W.cell? ⟨gB, 1, none⟩ = some (.slice none 0 0)) from fun W hW => by
                  have h1 := (HKGx.out.keep hW).cell 0
                  have h2 := (HKGx.out.keep hW).cell 1
                  simp at h1 h2
                  exact ⟨h1, h2⟩)
                obtain rfl : G = [] := List.eq_nil_of_length_eq_zero HGl.out
                have HG1 := Lib.hid (show ∀ W, Below wr.heap.size wr W → W.cell? ⟨gB, 1, none⟩ = some (.slice none 0 0) from fun W hW => by
                  have h2 := (HKGx.out.keep hW).cell 1
                  simp at h2
                  exact h2)
                have HTkw := Lib.hid (show ∀ W, Below wr.heap.size wr W → Sl W 2 none 0 (Rk.cells (([] : List (Int × Int)).take 0)) from fun W hW => (Sl.of_own HOwx.out).keep hW)
                have HDrw := Lib.hid (show ∀ W, Below wr.heap.size wr W → Sl W 2 none (0 - 0) (Rk.cells (([] : List (Int × Int)).drop 0)) from fun W hW => (Sl.of_own HOwx.out).keep hW)
                go_upto_region 20 with (fail)
                refine wp_region_qq (fun W => Below wr.heap.size wr W) (by kernel_rfl) (by kernel_rfl) (bel_drewN (Below.refl _ _) 1) ?_
                repeat (
                  first
                    | (apply qq_want
                       · rfl
                       · intro W hW
                         have zz := HAll.out W hW
                         go_simp
                         first
                           | done
                           | exact rfl)
                    | (refine qq_pass ?_ ?_
                       · rfl)
                  try simp only [Act.put, List.setIfInBounds_toArray, List.set_cons_zero, List.set_cons_succ])
                refine qq_nil ?_
                intro wq hbq
                have HBqw := Lib.hid hbq
                have HBq := Lib.hid (HBx.out.andThen hbq)
                have HKGq := Lib.hid (HKGx.out.keep hbq)
                have HKeq := Lib.hid (HKex.out.keep hbq)
                have HSz := Lib.hid (show gB < wq.heap.size ∧ w1.heap.size ≤ wq.heap.size ∧ gB ≤ w4.heap.size from by have h1 := HBr4.out.size; have h2 := HZ1.out; have h3 := HBx.out.size; have h4 := hbq.size; omega)
                have g1 := HG1.out (wq.alloc (.cells #[] 32)) (hbq.andThen (bel_al (Below.refl _ _) _))
                have hcap := HCap.out.1
                clear hbq HAll
                go_upto_region 23 with (at_builtin; refine wpList_cat_at elemEdge32 _ _ rfl rfl (own0E wq wq.heap.size (Nat.le_refl _)) (by simp) (HTkw.out (wq.alloc (.cells #[] 32)) (HBqw.out.andThen (bel_al (Below.refl _ _) _))) rfl rfl (cells_oneG _) (by unfold lim; omega) (by unfold lim; omega) ?_; intro v6 w6 hown6 hgr6; have HO6 := Lib.hid hown6; have HB6 := Lib.hid (show Below wq.heap.size wq w6 from (bel_al (Below.refl _ _) _).trans (hgr6.belowOwn (by simp) (own0E wq wq.heap.size (Nat.le_refl _)))); clear hown6 hgr6)
                have HKe6 := Lib.hid (HKeq.out.keep HB6.out)
                have e0 := HKe6.out.cell 0
                have e1 := HKe6.out.cell 1
                simp at e0 e1
                clear g1
                go_upto_region 24 with (at_builtin; refine wpList_push elemEdge32 (w0 := wq) _ _ rfl rfl HO6.out HB6.out (Nat.le_refl _) rfl rfl rfl (by simp [Value.oneCell']) (by unfold lim; omega) (by unfold lim; omega) ?_; intro v7 w7 hown7 hb7; have HO7 := Lib.hid hown7; have HB7 := Lib.hid hb7; clear hown7 hb7)
                have g1 := HG1.out w7 (HBqw.out.andThen HB7.out)
                have HDr7 := Lib.hid (HDrw.out w7 (HBqw.out.andThen HB7.out))
                clear e0 e1
                go_wp2_with (at_builtin; refine wpList_cat_at elemEdge32 _ _ rfl rfl HO7.out HB7.out.size HDr7.out rfl rfl (cells_oneG _) (by unfold lim; omega) (by unfold lim; omega) ?_; intro v8 w8 hown8 hgr8; obtain ⟨D8, c8, rfl, _⟩ := Sl.own hown8; have HO8 := Lib.hid hown8; have HB8 := Lib.hid (HB7.out.trans (hgr8.belowOwn HB7.out.size HO7.out)); have HKG8 := Lib.hid (HKGq.out.keep (HB7.out.trans (hgr8.belowOwn HB7.out.size HO7.out))); have f8 := HKG8.out.frozen 1; have g8 := HG1.out w8 (HBqw.out.andThen HB8.out); clear hown8 hgr8)
                go_roundw
                case rel =>
                  have hBf : ∀ u, Below gB w4 (w8.setCell ⟨gB, 1, none⟩ u) := fun u => ((HBq.out.mono HSz.out.2.2).trans (HB8.out.mono (Nat.le_of_lt HSz.out.1))).setCell (p := ⟨gB, 1, none⟩) (Nat.le_refl _) _
                  have hK8 := fun u => HKG8.out.set_ 1 u
                  have hHs := HHs.out.snoc HOkE.out
                  rw [← HTe.out] at hHs
                  refine ⟨0 + 1, _, acc ++ [(t1, t2)], by omega, by go_num, Lib.hid (by rw [HTk.out.1, List.map_append, ← HAc.out, List.map_cons, List.map_nil, ← HTe.out]), Lib.hid hHs, Lib.hid (by rw [HGo.out, HTk.out.2, Gh.goE_step HOkE.out, ← HTe.out]), Lib.hid ?_, Lib.hid (by simpa using hK8 _), Lib.hid (((hBf _).block w.heap.size hgw).trans HKR4.out), Lib.hid (HBr4.out.trans (hBf _))⟩
                  rw [HIns.out, cells_ins5]
                  refine own_far2 (own_mono ?_ HSz.out.2.1) (by have := HZ1.out; omega) _
                  exact own_eq5 HO8.out (by simp) (by omega) (by simp [Rk.cells])
                case measure => simp [intOf]; omega
              · skip
                have HAll := Lib.hid (show ∀ W, Below wr.heap.size wr W → (W.cell? ⟨gB, 0, none⟩ = some (.slice A k c) ∧ W.cell? ⟨gB, 1, none⟩ = some (.slice (some ⟨b2, o2, none⟩) p dv)) from fun W hW => by
                  have h1 := (HKGx.out.keep hW).cell 0
                  have h2 := (HKGx.out.keep hW).cell 1
                  simp at h1 h2
                  exact ⟨h1, h2⟩)
                have HG1 := Lib.hid (show ∀ W, Below wr.heap.size wr W → W.cell? ⟨gB, 1, none⟩ = some (.slice (some ⟨b2, o2, none⟩) p dv) from fun W hW => by
                  have h2 := (HKGx.out.keep hW).cell 1
                  simp at h2
                  exact h2)
                have HTkw := Lib.hid (show ∀ W, Below wr.heap.size wr W → Sl W 2 (some ⟨b2, o2, none⟩) p (Rk.cells (G.take p)) from fun W hW => Sl.take2 ((Sl.of_own HOwx.out).keep hW) (Nat.le_refl _))
                have HNil := Lib.hid (show G.drop p = [] from List.drop_of_length_le (Nat.le_of_eq HGl.out))
                go_upto_region 20 with (fail)
                refine wp_region_qq (fun W => Below wr.heap.size wr W) (by kernel_rfl) (by kernel_rfl) (bel_drewN (Below.refl _ _) 1) ?_
                repeat (
                  first
                    | (apply qq_want
                       · rfl
                       · intro W hW
                         have zz := HAll.out W hW
                         go_simp
                         first
                           | done
                           | exact rfl)
                    | (refine qq_pass ?_ ?_
                       · rfl)
                  try simp only [Act.put, List.setIfInBounds_toArray, List.set_cons_zero, List.set_cons_succ])
                refine qq_nil ?_
                intro wq hbq
                have HBqw := Lib.hid hbq
                have HBq := Lib.hid (HBx.out.andThen hbq)
                have HKGq := Lib.hid (HKGx.out.keep hbq)
                have HKeq := Lib.hid (HKex.out.keep hbq)
                have HSz := Lib.hid (show gB < wq.heap.size ∧ w1.heap.size ≤ wq.heap.size ∧ gB ≤ w4.heap.size from by have h1 := HBr4.out.size; have h2 := HZ1.out; have h3 := HBx.out.size; have h4 := hbq.size; omega)
                have g1 := HG1.out (wq.alloc (.cells #[] 32)) (hbq.andThen (bel_al (Below.refl _ _) _))
                have hcap := HCap.out.1
                clear hbq HAll
                go_upto_region 23 with (at_builtin; refine wpList_cat_at elemEdge32 _ _ rfl rfl (own0E wq wq.heap.size (Nat.le_refl _)) (by simp) (HTkw.out (wq.alloc (.cells #[] 32)) (HBqw.out.andThen (bel_al (Below.refl _ _) _))) rfl rfl (cells_oneG _) (by unfold lim; omega) (by unfold lim; omega) ?_; intro v6 w6 hown6 hgr6; have HO6 := Lib.hid hown6; have HB6 := Lib.hid (show Below wq.heap.size wq w6 from (bel_al (Below.refl _ _) _).trans (hgr6.belowOwn (by simp) (own0E wq wq.heap.size (Nat.le_refl _)))); clear hown6 hgr6)
                have HKe6 := Lib.hid (HKeq.out.keep HB6.out)
                have e0 := HKe6.out.cell 0
                have e1 := HKe6.out.cell 1
                simp at e0 e1
                clear g1
                go_upto_region 24 with (at_builtin; refine wpList_push elemEdge32 (w0 := wq) _ _ rfl rfl HO6.out HB6.out (Nat.le_refl _) rfl rfl rfl (by simp [Value.oneCell']) (by unfold lim; omega) (by unfold lim; omega) ?_; intro v7 w7 hown7 hb7; have HO7 := Lib.hid hown7; have HB7 := Lib.hid hb7; clear hown7 hb7)
                have g1 := HG1.out w7 (HBqw.out.andThen HB7.out)
                have HDr7 := Lib.hid (fun A5 => Sl.nil w7 2 A5)
                clear e0 e1
                go_wp2_with (at_builtin; refine wpList_cat_at elemEdge32 _ _ rfl rfl HO7.out HB7.out.size (HDr7.out _) rfl rfl (fun u hu => absurd hu (List.not_mem_nil)) (by unfold lim; omega) (by unfold lim; omega) ?_; intro v8 w8 hown8 hgr8; obtain ⟨D8, c8, rfl, _⟩ := Sl.own hown8; have HO8 := Lib.hid hown8; have HB8 := Lib.hid (HB7.out.trans (hgr8.belowOwn HB7.out.size HO7.out)); have HKG8 := Lib.hid (HKGq.out.keep (HB7.out.trans (hgr8.belowOwn HB7.out.size HO7.out))); have f8 := HKG8.out.frozen 1; have g8 := HG1.out w8 (HBqw.out.andThen HB8.out); clear hown8 hgr8)
                go_roundw
                case rel =>
                  have hBf : ∀ u, Below gB w4 (w8.setCell ⟨gB, 1, none⟩ u) := fun u => ((HBq.out.mono HSz.out.2.2).trans (HB8.out.mono (Nat.le_of_lt HSz.out.1))).setCell (p := ⟨gB, 1, none⟩) (Nat.le_refl _) _
                  have hK8 := fun u => HKG8.out.set_ 1 u
                  have hHs := HHs.out.snoc HOkE.out
                  rw [← HTe.out] at hHs
                  refine ⟨p + 1, _, acc ++ [(t1, t2)], by omega, by go_num, Lib.hid (by rw [HTk.out.1, List.map_append, ← HAc.out, List.map_cons, List.map_nil, ← HTe.out]), Lib.hid hHs, Lib.hid (by rw [HGo.out, HTk.out.2, Gh.goE_step HOkE.out, ← HTe.out]), Lib.hid ?_, Lib.hid (by simpa using hK8 _), Lib.hid (((hBf _).block w.heap.size hgw).trans HKR4.out), Lib.hid (HBr4.out.trans (hBf _))⟩
                  rw [HIns.out, HNil.out, cells_ins5]
                  refine own_far2 (own_mono ?_ HSz.out.2.1) (by have := HZ1.out; omega) _
                  exact own_eq5 HO8.out (by simp) (by omega) (by simp [Rk.cells])
                case measure => simp [intOf]; omega
      obtain rfl : j = m := by omega
      have hlt2' : ¬ (j : Int) < (j : Int) := by omega
      rw [List.take_of_length_le (Nat.le_of_eq HM.out)] at HAc
      rw [List.drop_of_length_le (Nat.le_of_eq HM.out)] at HGo
      have HOk := Lib.hid (show Gh.newR L E = .ok acc from by rw [HG.out, HGo.out]; rfl)
      have g0 := HKG.out.cell 0
      have g1 := HKG.out.cell 1
      have r0 := HKRr.out.cell 0
      have r1 := HKRr.out.cell 1
      have f0 := HKRr.out.frozen 0
      have f1 := HKRr.out.frozen 1
      simp at g0 g1 r0 r1
      go_wp2_with fail
      have hx := (HKRr.out.set_ 0 (.slice A k c)).set_ 1 (.slice D j dv)
      have x00 := hx.cell 0
      have x01 := hx.cell 1
      simp at x00 x01
      refine bodyPost_ret (v := .tuple #[.agg #[.slice A k c, .slice D j dv], .int .i64 0, .int .i64 0]) (by simp [results, Tryz.results26, go_sem, x00, x01]) rfl ?_
      exact ⟨((HB1.out.trans (HBr.out.mono (Nat.le_of_lt hgw))).setCell (p := ⟨w.heap.size, 0, none⟩) (Nat.le_refl _) _).setCell (p := ⟨w.heap.size, 1, none⟩) (Nat.le_refl _) _, .inl ⟨acc, D, dv, HOk.out, rfl, Sl.of_own (own_far2 (own_far2 HOw.out (by have := HZ1.out; omega) _) (by have := HZ1.out; omega) _)⟩⟩
end Go.Proofs.YtbbmgcdocolakaaGreatDoor
/-
  load.edges: a graph's edges, by numbers.
-/
namespace Go.Proofs.YtbbmgcdocolakaaGreatDoor
open Go.RowKit
attribute [local go_sem ↓] Go.wp_at_zero Go.wp_at_succ
set_option maxRecDepth 100000
set_option linter.unusedVariables false

set_option maxHeartbeats 2000000 in
theorem LEdges_own {w : World} {g : Nat} {L : List Int} {F : List (Int × Int)} (hG : GraphAt w g L F) (hf : F.length ≤ 16384) :
    Calls Tryz.prog 43 #[.pointer (some ⟨g, 0, none⟩)] w fun e w' => ∃ (D : Option Addr) (d : Nat), e = .returned (.slice D F.length d) ∧ w'.ownsRow w.heap.size 76 2 (.slice D F.length d) F.length (Rk.cells F) ∧ Below w.heap.size w w' := by
  have HGr := Lib.hid hG
  have HSz := Lib.hid (GSize_any hG)
  obtain ⟨m, hm⟩ : ∃ m, m = F.length := ⟨_, rfl⟩
  have HM := Lib.hid hm
  rw [← hm] at HSz hf ⊢
  clear hG hm
  go_enter Tryz.func43, Tryz.ntmps43
  go_upto_region 3 with (go_at_call 13; refine HSz.out.mono ?_; clear HSz; rintro e w1 ⟨rfl, rfl⟩)
  go_wp2_with fail
  go_loopw [3, 9] (fun ov iv wr => ∃ k : Nat, k ≤ m ∧ iv = .int .i64 (k : Int) ∧ Hid (wr.ownsRow w.heap.size 76 2 ov k (Rk.cells (F.take k))) ∧ Hid (Below w.heap.size w wr)) (fun _ iv _ => m - (intOf iv).toNat)
  case atStart => exact ⟨0, Nat.zero_le _, rfl, Lib.hid (World.ownsRow_nil _ _ _ _), Lib.hid (Below.refl _ _)⟩
  case round =>
    obtain ⟨k, hk, rfl, HO, HB⟩ := hrel
    by_cases hlt : k < m
    · have hlt' : (k : Int) < (m : Int) := by omega
      obtain ⟨⟨x, y⟩, he⟩ : ∃ e, F[k]? = some e := ⟨_, List.getElem?_eq_getElem (by rw [← HM.out]; exact hlt)⟩
      have HEd := Lib.hid (GEdge_any (HGr.out.keep HB.out) he)
      have HE := Lib.hid (show F.take (k + 1) = F.take k ++ [(x, y)] from by
        obtain ⟨h3, h4⟩ := List.getElem?_eq_some_iff.1 he
        rw [List.take_succ_eq_append_getElem h3, h4])
      clear he
      go_upto_region 6 with (go_at_call 75; refine HEd.out.mono ?_; clear HEd; rintro e w2 ⟨rfl, hb2⟩; have HB2 := Lib.hid hb2; clear hb2)
      obtain ⟨w3, hw3⟩ : ∃ W, W = w2.alloc (.cells #[.int .i64 x, .int .i64 y] 76) := ⟨_, rfl⟩
      obtain ⟨q, hq⟩ : ∃ q, q = w2.heap.size := ⟨_, rfl⟩
      have HB3 := Lib.hid (show Below wr.heap.size wr w3 from by rw [hw3]; exact bel_al HB2.out _)
      have HK3 := Lib.hid (show Blk w3 q 76 #[.int .i64 x, .int .i64 y] from by rw [hw3, hq]; exact Blk.new _ _ _)
      have HO3 := Lib.hid (own_block HO.out (w' := w3) fun b hb => HB3.out.block b (HO.out.lt b hb).2)
      have HBw := Lib.hid (HB.out.andThen HB3.out)
      rw [← hw3, ← hq]
      clear hw3 hq
      have q0 := HK3.out.cell 0
      have q1 := HK3.out.cell 1
      simp at q0 q1
      go_wp2_with (at_builtin; refine wpList_push elemEdge (w0 := w) _ _ rfl rfl HO3.out HBw.out (Nat.le_refl _) rfl rfl rfl (by simp [Value.oneCell']) (by unfold lim; omega) (by unfold lim; omega) ?_; intro v4 w4 hown4 hb4; have HO4 := Lib.hid hown4; have HB4 := Lib.hid hb4; clear hown4 hb4)
      go_roundw
      case rel => exact ⟨k + 1, by omega, by go_num, Lib.hid (by rw [HE.out, Rk.cells_snoc]; exact HO4.out), HB4⟩
      case measure => simp [intOf]; omega
    · obtain rfl : k = m := by omega
      have hlt' : ¬ (k : Int) < (k : Int) := by omega
      rw [List.take_of_length_le (by rw [← HM.out]; exact Nat.le_refl _)] at HO
      obtain ⟨D, dc, rfl, hsl⟩ := Sl.own HO.out
      clear hsl
      go_wp2_with fail
      go_ret
      exact ⟨D, dc, rfl, HO.out, HB.out⟩
theorem LEdges_any {w : World} {g : Nat} {L : List Int} {F : List (Int × Int)} (hG : GraphAt w g L F) (hf : F.length ≤ 16384) :
    Calls Tryz.prog 43 #[.pointer (some ⟨g, 0, none⟩)] w fun e w' => ∃ (D : Option Addr) (d : Nat), e = .returned (.slice D F.length d) ∧ Sl w' 2 D F.length (Rk.cells F) ∧ Below w.heap.size w w' :=
  (LEdges_own hG hf).mono fun e w' ⟨D, d, h1, h2, h3⟩ => ⟨D, d, h1, Sl.of_own h2, h3⟩
/-- .. of no graph. -/
theorem LEdges_nil (w : World) : Calls Tryz.prog 43 #[.pointer none] w fun e w' => e = .returned (.slice none 0 0) ∧ w = w' := by
  have HSz := Lib.hid (GSize_nil w)
  go_enter Tryz.func43, Tryz.ntmps43
  go_upto_region 3 with (go_at_call 13; refine HSz.out.mono ?_; clear HSz; rintro e w1 ⟨rfl, rfl⟩)
  go_wp2_with fail
  go_loopw [3, 9] (fun ov iv wr => ov = .slice none 0 0 ∧ iv = .int .i64 0 ∧ w = wr) (fun _ iv _ => 0)
  case atStart => exact ⟨rfl, rfl, rfl⟩
  case round =>
    obtain ⟨rfl, rfl, rfl⟩ := hrel
    go_wp2_with fail
    go_ret
    exact ⟨rfl, rfl⟩
end Go.Proofs.YtbbmgcdocolakaaGreatDoor
