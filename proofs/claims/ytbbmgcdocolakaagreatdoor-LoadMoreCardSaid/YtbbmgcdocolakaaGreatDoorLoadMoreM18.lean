/-
  Part 18 of the proof of LoadMore: GrW, LdD, RegI, RegQ.
-/
import Derived.BigQuiet
import Derived.Deep.RegionLaw
import Derived.Test.YtbbmgcdocolakaaGreatDoorLoadMoreM16
import Derived.Test.YtbbmgcdocolakaaGreatDoorLoadMoreM17
import Derived.WalkKit
import Derived.Lib.Hide
import Derived.Deep.RegionWith
import Derived.Deep.QuietTactic
set_option linter.unusedVariables false
/-
  graph.New.
-/
namespace Go.Proofs.YtbbmgcdocolakaaGreatDoor
open Go.RowKit
attribute [local go_sem ↓] Go.wp_at_zero Go.wp_at_succ
set_option maxRecDepth 100000
set_option linter.unusedVariables false

set_option maxHeartbeats 16000000 in
theorem GNew_any (L : List Int) (E : List (Int × Int)) (A B : Option Addr) (n c m d : Nat) (w : World) (hl : L.length = n) (hnn : n ≤ 9223372036854775807) (hmm9 : m ≤ 9223372036854775807) (hs : Sl w 1 A n (L.map (Value.int .i64))) (ht : Sl w 2 B m (Rk.cells E)) (hi : ∀ e ∈ E, i64e e.1 ∧ i64e e.2) :
    Calls Tryz.prog 27 #[.slice A n c, .slice B m d] w (NewRes L E w) := by
  have hmm := @run_makeMap Tryz.prog
  have HS := Lib.hid hs
  have HT := Lib.hid ht
  have HL := Lib.hid hl
  have HM := Lib.hid ht.len2
  have HI := Lib.hid hi
  clear hs ht hl hi
  go_enter Tryz.func27, Tryz.ntmps27
  by_cases hbig : 4096 < n ∨ 16384 < m
  · have HR := Lib.hid (show Gh.newR L E = .big by unfold Gh.newR; rw [if_pos (by rw [HL.out, HM.out]; exact hbig)])
    rcases (show 4096 < n ∨ (¬ 4096 < n ∧ 16384 < m) by omega) with h1 | ⟨h1, h2⟩
    · have h1' : (4096 : Int) < (n : Int) := by omega
      go_wp2_with (go_at_call 29; refine (New_err _ _ _ _).mono ?_; rintro e w4 ⟨v4, rfl, hv4, hb4⟩; have HV4 := Lib.hid hv4; have HB4 := Lib.hid hb4; clear hv4 hb4)
      go_ret2
      refine ⟨HB4.out, ?_⟩
      rw [HR.out]
      exact ⟨v4, rfl, HV4.out⟩
    · have h1' : ¬ (4096 : Int) < (n : Int) := by omega
      have h2' : (16384 : Int) < (m : Int) := by omega
      go_wp2_with (go_at_call 29; refine (New_err _ _ _ _).mono ?_; rintro e w4 ⟨v4, rfl, hv4, hb4⟩; have HV4 := Lib.hid hv4; have HB4 := Lib.hid hb4; clear hv4 hb4)
      go_ret2
      refine ⟨HB4.out, ?_⟩
      rw [HR.out]
      exact ⟨v4, rfl, HV4.out⟩
  have hn9 : n ≤ 4096 := by omega
  have hm9 : m ≤ 16384 := by omega
  have hn9' : ¬ (4096 : Int) < (n : Int) := by omega
  have hm9' : ¬ (16384 : Int) < (m : Int) := by omega
  have HNb := Lib.hid (show ¬ (4096 < L.length ∨ 16384 < E.length) from by rw [HL.out, HM.out]; exact hbig)
  clear hbig hnn hmm9
  go_wp2_with fail
  go_loop [24] (fun kv => ∃ k : Nat, k ≤ n ∧ kv = .int .i64 (k : Int) ∧ Hid (∀ j y, j < k → L[j]? = some y → Gh.labBad y = false)) (fun kv => n - (intOf kv).toNat)
  case atStart => exact ⟨0, Nat.zero_le _, rfl, Lib.hid (fun j y h => absurd h (Nat.not_lt_zero _))⟩
  case round =>
    obtain ⟨k, hk, rfl, HK⟩ := hrel
    by_cases hlt : k < n
    · have hlt' : (k : Int) < (n : Int) := by omega
      obtain ⟨x, hx⟩ : ∃ x, L[k]? = some x := ⟨_, List.getElem?_eq_getElem (by rw [HL.out]; exact hlt)⟩
      obtain ⟨b1, o1, hAA, hAc⟩ := HS.out.at_ hlt
      subst hAA
      clear hAc
      have hc := HS.out.again hlt (by rw [List.getElem?_map, hx]; rfl)
      have HX := Lib.hid hx
      clear hx
      by_cases hbad : Gh.labBad x = true
      · have HR := Lib.hid (show Gh.newR L E = .lab k by unfold Gh.newR; rw [if_neg HNb.out, lab_first HX.out hbad HK.out])
        have h2 : x < 0 ∨ (¬ x < 0 ∧ 255 < x) := by unfold Gh.labBad at hbad; simp at hbad; omega
        clear hbad
        rcases h2 with h2 | ⟨h2, h3⟩
        · go_wp2_with (go_at_call 29; refine (New_err _ _ _ _).mono ?_; rintro e w4 ⟨v4, rfl, hv4, hb4⟩; have HV4 := Lib.hid hv4; have HB4 := Lib.hid hb4; clear hv4 hb4)
          go_ret2
          refine ⟨HB4.out, ?_⟩
          rw [HR.out]
          exact ⟨v4, rfl, HV4.out⟩
        · go_wp2_with (go_at_call 29; refine (New_err _ _ _ _).mono ?_; rintro e w4 ⟨v4, rfl, hv4, hb4⟩; have HV4 := Lib.hid hv4; have HB4 := Lib.hid hb4; clear hv4 hb4)
          go_ret2
          refine ⟨HB4.out, ?_⟩
          rw [HR.out]
          exact ⟨v4, rfl, HV4.out⟩
      · have HK2 := Lib.hid (show ∀ j y, j < k + 1 → L[j]? = some y → Gh.labBad y = false from fun j y hj hy => by
          rcases (show j < k ∨ j = k by omega) with h | rfl
          · exact HK.out j y h hy
          · rw [HX.out] at hy
            obtain rfl := Option.some.inj hy
            simpa using hbad)
        have h2 : ¬ x < 0 ∧ ¬ 255 < x := by unfold Gh.labBad at hbad; simp at hbad; omega
        obtain ⟨h2, h3⟩ := h2
        clear hbad
        go_wp2_with fail
        go_round
        case rel => exact ⟨k + 1, by omega, by go_num, HK2⟩
        case measure => simp [intOf]; omega
    obtain rfl : k = n := by omega
    have HG := Lib.hid (show Gh.newR L E = Gh.goE k [] E from by unfold Gh.newR; rw [if_neg HNb.out, lab_all (by rw [HL.out]; exact HK.out), HL.out])
    clear HK HNb
    obtain ⟨wm, hwm⟩ : ∃ W, W = w.alloc (.map #[] 0) := ⟨_, rfl⟩
    have HBm := Lib.hid (show Below w.heap.size w wm from by rw [hwm]; exact bel_al (Below.refl _ _) _)
    have HOm := Lib.hid (show OnEd wm w.heap.size 0 (fun _ _ => false) from by rw [hwm]; exact OnEd.made w)
    have hzm : wm.heap.size = w.heap.size + 1 := by rw [hwm]; simp
    go_upto_region 10 with (fail)
    rw [← hwm]
    clear hwm
    have HCl := Lib.hid (CloneI_own L A k c wm HL.out (by omega) (HS.out.keep HBm.out))
    go_upto_region 11 with (go_at_call 57; refine HCl.out.mono ?_; clear HCl; rintro e w2 ⟨v2, rfl, hown2, hb2⟩; obtain ⟨D, dk, rfl, hsD⟩ := Sl.own hown2; have HD2 := Lib.hid hown2; have HB2 := Lib.hid hb2; clear hown2 hb2 hsD)
    obtain ⟨w3, hw3⟩ : ∃ W, W = w2.alloc (.cells #[.slice D k dk, .slice none 0 0, .slice none 0 0, .slice none 0 0, .slice none 0 0] 74) := ⟨_, rfl⟩
    obtain ⟨g, hg⟩ : ∃ q, q = w2.heap.size := ⟨_, rfl⟩
    have HB3 := Lib.hid (show Below w.heap.size w w3 from by rw [hw3]; exact bel_al (HBm.out.andThen HB2.out) _)
    have HO3 := Lib.hid (show OnEd w3 w.heap.size 0 (fun _ _ => false) from by rw [hw3]; exact (HOm.out.keep HB2.out).keep (bel_al (Below.refl _ _) _))
    have HK3 := Lib.hid (show Blk w3 g 74 #[.slice D k dk, .slice none 0 0, .slice none 0 0, .slice none 0 0, .slice none 0 0] from by rw [hw3, hg]; exact Blk.new _ _ _)
    have HD3 := Lib.hid (show w3.ownsRow wm.heap.size 3 1 (.slice D k dk) k (L.map (Value.int .i64)) from by rw [hw3]; exact own_block HD2.out fun b hb => (bel_al (Below.refl w2.heap.size w2) _).block b (HD2.out.lt b hb).2)
    have HDl := Lib.hid (show ∀ b, (Value.slice D k dk).ownBlock = some b → w.heap.size < b ∧ b < g from fun b hb => by have h := HD2.out.lt b hb; omega)
    have hz2 := HB2.out.size
    have hg3 : g < w3.heap.size := HK3.out.lt
    have hgm : w.heap.size < g := by omega
    have hgw : w.heap.size ≤ g := by omega
    rw [← hw3, ← hg]
    clear hw3 hg HBm HB2 HOm HD2 hzm hz2 hmm
    go_wp2_with fail
    go_loopw [45] (fun kv wr => ∃ (j : Nat) (fv : Value) (acc : List (Int × Int)) (f : Int → Int → Bool), j ≤ m ∧ kv = .int .i64 (j : Int) ∧ Hid (acc = (E.take j).map turnE) ∧ Hid (Gh.Has k acc) ∧ Hid (Gh.goE k [] E = Gh.goE k acc (E.drop j)) ∧ Hid (OnEd wr w.heap.size j f) ∧ Hid (∀ a b, f a b = decide ((a, b) ∈ acc)) ∧ Hid (wr.ownsRow w3.heap.size 76 2 fv j (Rk.cells acc)) ∧ Hid (Blk wr g 74 #[.slice D k dk, fv, .slice none 0 0, .slice none 0 0, .slice none 0 0]) ∧ Hid (Asd2 w.heap.size g w3 wr) ∧ Hid (Below w.heap.size w wr)) (fun kv _ => m - (intOf kv).toNat)
    case atStart => exact ⟨0, .slice none 0 0, [], fun _ _ => false, Nat.zero_le _, rfl, Lib.hid rfl, Lib.hid (Gh.Has.nil _), Lib.hid rfl, HO3, Lib.hid (fun a b => rfl), Lib.hid (World.ownsRow_nil _ _ _ _), HK3, Lib.hid (Asd2.refl _ _ _), HB3⟩
    case round =>
      obtain ⟨j, fv, acc, f, hj, rfl, HAc, HHs, HGo, HOn, HFf, HOw, HKg, HA2, HBr⟩ := hrel
      clear HO3 HK3
      obtain ⟨X, xq, rfl, _⟩ := Sl.own HOw.out
      have HSzr := Lib.hid HA2.out.1
      by_cases hlt2 : j < m
      · have hlt2' : (j : Int) < (m : Int) := by omega
        obtain ⟨⟨x, y⟩, he⟩ : ∃ e, E[j]? = some e := ⟨_, List.getElem?_eq_getElem (by rw [HM.out]; exact hlt2)⟩
        have HIx := Lib.hid (HI.out _ (List.mem_of_getElem? he))
        obtain ⟨b1, o1, hBB, e0, e1⟩ := (HT.out.keep HBr.out).edge hlt2 he
        subst hBB
        simp only at e0 e1
        have HTk := Lib.hid (show E.take (j + 1) = E.take j ++ [(x, y)] ∧ E.drop j = (x, y) :: E.drop (j + 1) from by
          obtain ⟨h1, h2⟩ := List.getElem?_eq_some_iff.1 he
          refine ⟨by rw [List.take_succ_eq_append_getElem h1, h2], by rw [← h2, List.getElem_cons_drop]⟩)
        have HAl := Lib.hid (show acc.length = j from by rw [HAc.out, List.length_map, List.length_take, HM.out]; omega)
        clear he
        go_upto_region 14 with (fail)
        obtain ⟨we, hwe⟩ : ∃ W, W = wr.alloc (.cells #[.int .i64 x, .int .i64 y] 76) := ⟨_, rfl⟩
        obtain ⟨qb, hqb⟩ : ∃ q, q = wr.heap.size := ⟨_, rfl⟩
        have HBe := Lib.hid (show Below wr.heap.size wr we from by rw [hwe]; exact bel_al (Below.refl _ _) _)
        have HKe := Lib.hid (show Blk we qb 76 #[.int .i64 x, .int .i64 y] from by rw [hwe, hqb]; exact Blk.new _ _ _)
        have HOe := Lib.hid (HOn.out.keep HBe.out)
        have hqb3 : w3.heap.size ≤ qb := by have := HSzr.out; omega
        rw [← hwe, ← hqb]
        clear hwe hqb e0 e1
        have q0 := HKe.out.cell 0
        have q1 := HKe.out.cell 1
        simp at q0 q1
        have HCk := Lib.hid (check_any x y (j : Int) k acc w.heap.size j f we HOe.out HFf.out HIx.out.1 HIx.out.2)
        by_cases hbad : Gh.badE k acc (x, y) = 0
        · have HC0 := Lib.hid (show Calls Tryz.prog 58 #[.agg #[.int .i64 x, .int .i64 y], .int .i64 (j : Int), .int .i64 (k : Int), .map (some w.heap.size)] we fun e w' => e = .returned .nilIface ∧ Below we.heap.size we w' from HCk.out.mono fun e w' h => by
            rcases h.2 with ⟨_, h2⟩ | ⟨h2, _⟩
            · exact ⟨h2, h.1⟩
            · exact absurd hbad h2)
          have HBad := Lib.hid hbad
          clear HCk hbad
          obtain ⟨⟨p, q⟩, hpq⟩ : ∃ t, t = turnE (x, y) := ⟨_, rfl⟩
          have HPq := Lib.hid hpq
          have HIp := Lib.hid (show i64e p ∧ i64e q from by
            have h := HIx.out
            unfold turnE at hpq
            split at hpq
            · obtain ⟨rfl, rfl⟩ := Prod.mk.inj hpq; exact h
            · obtain ⟨rfl, rfl⟩ := Prod.mk.inj hpq; exact ⟨h.2, h.1⟩)
          have HTn := Lib.hid (show ∀ W, Calls Tryz.prog 59 #[.agg #[.int .i64 x, .int .i64 y]] W fun e w' => e = .returned (.agg #[.int .i64 p, .int .i64 q]) ∧ Below W.heap.size W w' from fun W => (gturned_any x y W).mono fun e w' h => ⟨by rw [h.1, ← hpq]; rfl, h.2⟩)
          clear hpq
          go_upto_region 17 with (go_at_call 58; refine HC0.out.mono ?_; clear HC0; rintro e w5 ⟨rfl, hb5⟩; have HB5 := Lib.hid hb5; clear hb5 q0 q1)
          have HK5 := Lib.hid (HKe.out.keep HB5.out)
          have q0 := HK5.out.cell 0
          have q1 := HK5.out.cell 1
          simp at q0 q1
          go_upto_region 18 with (first
            | (at_mapUpdate; refine wpList_putE _ rfl _ _ _ rfl w.heap.size j f rfl HO6.out (by unfold maxLen; omega) p q true rfl rfl HIp.out.1 HIp.out.2 ?_; intro w7 hM hgr; have HM7 := Lib.hid hM; have HG7 := Lib.hid hgr; clear hM hgr)
            | (go_at_call 59; refine (HTn.out _).mono ?_; rintro e w6 ⟨rfl, hb6⟩; have HB6 := Lib.hid (HB5.out.andThen hb6); have HO6 := Lib.hid (HOe.out.keep HB6.out); clear hb6))
          have hwe3 : w3.heap.size ≤ we.heap.size := by have h1 := HSzr.out; have h2 := HBe.out.size; omega
          have HBw6 := Lib.hid (show Below wr.heap.size wr w6 from HBe.out.andThen HB6.out)
          have hwg : w.heap.size < g := hgm
          have HOw7 := Lib.hid (show w7.ownsRow w3.heap.size 76 2 (.slice X j xq) j (Rk.cells acc) from own_block HOw.out fun b hb => (HG7.out.block b (Nat.lt_of_lt_of_le (HOw.out.lt b hb).2 HBw6.out.size) (fun e => by have h := (HOw.out.lt b hb).1; have := Option.some.inj e; omega)).trans (HBw6.out.block b (HOw.out.lt b hb).2))
          have HKg7 := Lib.hid ((HKg.out.keep HBw6.out).grown HG7.out (fun e => by have := Option.some.inj e; omega))
          have HKe7 := Lib.hid ((HKe.out.keep HB6.out).grown HG7.out (fun e => by have := Option.some.inj e; omega))
          have HA7 := Lib.hid ((HA2.out.then HBw6.out).grown HG7.out)
          have HB7 := Lib.hid ((HBr.out.andThen HBw6.out).grown HG7.out (by have h1 := (HBr.out.andThen HBw6.out).size; omega) (fun b hb => by have := Option.some.inj hb; omega))
          have h73 : w3.heap.size ≤ w7.heap.size := HA7.out.1
          clear HB5 HB6 HO6 HK5 HG7 HBw6 HOw HKg HKe HA2 HBr HBe HOe q0 q1 hwe3
          have HFt := Lib.hid (show ∀ V, Below w7.heap.size w7 V → V.cell? ⟨g, 1, none⟩ = some (.slice X j xq) ∧ V.frozen? ⟨g, 1, none⟩ = false ∧ V.cell? ⟨qb, 0, none⟩ = some (.int .i64 x) ∧ V.cell? ⟨qb, 1, none⟩ = some (.int .i64 y) from fun V hV => ⟨(HKg7.out.keep hV).cell 1, (HKg7.out.keep hV).frozen 1, (HKe7.out.keep hV).cell 0, (HKe7.out.keep hV).cell 1⟩)
          obtain ⟨q0, q1, q2, q3⟩ := HFt.out w7 (Below.refl _ _)
          go_region_law
            (first
            | (go_simp; go_at_call 59; (refine (HTn.out _).mono ?_; rintro e w8 ⟨rfl, hb8⟩; have HB8 := Lib.hid ((bel_drewN (Below.refl w7.heap.size w7) 1).andThen hb8); obtain ⟨q0, q1, q2, q3⟩ := HFt.out w8 HB8.out; obtain ⟨r0, r1, r2, r3⟩ := HFt.out (w8.alloc (.cells #[.int .i64 p, .int .i64 q] 76)) (bel_al HB8.out _); have HO8 := Lib.hid (own_block HOw7.out (w' := w8) fun b hb => HB8.out.block b (HOw7.out.lt b hb).2); clear hb8))
            | (refine step_cat_at elemEdge (.tmp 66) (.tmp 69) (by rfl) (by rfl) (HO8.out.alloc _) (by have h1 := HB8.out.size; simp; omega) (Sl.newE _ _ _ _) (by rfl) (by rfl) (by simp [Value.oneCell']) (by unfold lim; omega) (by unfold lim; omega) ?_; intro v9 w9 hown9 hgr; obtain ⟨D6, d6, rfl, _⟩ := Sl.own hown9; have HO9 := Lib.hid hown9; have HB9 := Lib.hid (((bel_al HB8.out (.cells #[.int .i64 p, .int .i64 q] 76)).mono h73).trans (hgr.belowOwn (by have h1 := HB8.out.size; simp; omega) (HO8.out.alloc _))); have HK9 := Lib.hid (HKg7.out.below HB9.out hg3); have q0 := HK9.out.cell 1; have q1 := HK9.out.frozen 1; simp at q0; clear hown9 hgr))
          all_goals (
            have HTe := HPq.out
            have HOn9 := Lib.hid (show (w9.setCell ⟨g, 1, none⟩ (.slice D6 (j + 1) d6)).ownsRow w3.heap.size 76 2 (.slice D6 (j + 1) d6) (j + 1) (Rk.cells (acc ++ [(p, q)])) from by rw [Rk.cells_snoc]; exact own_far2 HO9.out hg3 _)
            have HKn9 := Lib.hid (show Blk (w9.setCell ⟨g, 1, none⟩ (.slice D6 (j + 1) d6)) g 74 #[.slice D k dk, .slice D6 (j + 1) d6, .slice none 0 0, .slice none 0 0, .slice none 0 0] from by have h := HK9.out.set_ 1 (.slice D6 (j + 1) d6); simpa using h)
            have HMn9 := Lib.hid (show OnEd (w9.setCell ⟨g, 1, none⟩ (.slice D6 (j + 1) d6)) w.heap.size (j + 1) (updE f p q true) from HM7.out.same ((Below.heap_setCell _ ⟨g, 1, none⟩ _ w.heap.size (by simp only; omega)).trans (HB9.out.block w.heap.size (by omega))))
            have HAn9 := Lib.hid ((HA7.out.low HB9.out).setq 1 (.slice D6 (j + 1) d6))
            have HBn9 := Lib.hid ((HB7.out.trans (HB9.out.mono (by omega))).setCell (p := ⟨g, 1, none⟩) hgw (.slice D6 (j + 1) d6))
            clear q0 q1 q2 q3 r0 r1 r2 r3
            go_wp2_with fail
            go_roundw
            case rel => exact ⟨j + 1, .slice D6 (j + 1) d6, acc ++ [(p, q)], updE f p q true, by omega, by go_num, Lib.hid (by rw [HTk.out.1, List.map_append, ← HAc.out, HTe]; rfl), Lib.hid (by rw [HTe]; exact HHs.out.snoc HBad.out), Lib.hid (by rw [HGo.out, HTk.out.2, Gh.goE_step HBad.out, HTe]), HMn9, Lib.hid (fun a b => by
              unfold updE
              rw [HFf.out]
              by_cases h : a = p ∧ b = q
              · rw [if_pos h, h.1, h.2]
                exact (decide_eq_true (by simp)).symm
              · rw [if_neg h]
                refine decide_eq_decide.2 ?_
                simp only [List.mem_append, List.mem_singleton, Prod.mk.injEq]
                exact ⟨fun h' => .inl h', fun h' => h'.elim id fun h2 => absurd h2 h⟩), HOn9, HKn9, HAn9, HBn9⟩
            case measure => simp [intOf]; omega)
        · have HBd := Lib.hid hbad
          have HC1 := Lib.hid (show Calls Tryz.prog 58 #[.agg #[.int .i64 x, .int .i64 y], .int .i64 (j : Int), .int .i64 (k : Int), .map (some w.heap.size)] we fun e w' => ∃ v, e = .returned v ∧ (Err.step tEdge (.flt (Gh.badE k acc (x, y)) (j : Int) tEdge)).At w' v ∧ Below we.heap.size we w' from HCk.out.mono fun e w' h => by
            rcases h.2 with ⟨h2, _⟩ | ⟨_, v, h2, h3⟩
            · exact absurd h2 hbad
            · exact ⟨v, h2, h3, h.1⟩)
          clear HCk hbad
          go_wp2_with (go_at_call 58; refine HC1.out.mono ?_; clear HC1; rintro e w5 ⟨v5, rfl, hv5, hb5⟩; have HV5 := Lib.hid hv5; obtain ⟨g5, u5, rfl, _, _, _⟩ := hv5; have HB5 := Lib.hid hb5; clear hb5)
          go_ret2
          refine ⟨HBr.out.andThen (HBe.out.andThen HB5.out), ?_⟩
          rw [HG.out, HGo.out, HTk.out.2, Gh.goE_bad HBd.out, HAl.out]
          exact ⟨_, rfl, HV5.out⟩
      obtain rfl : j = m := by omega
      rw [List.take_of_length_le (Nat.le_of_eq HM.out)] at HAc
      rw [List.drop_of_length_le (Nat.le_of_eq HM.out)] at HGo
      have HOk := Lib.hid (show Gh.newR L E = .ok acc from by rw [HG.out, HGo.out]; rfl)
      have HAl := Lib.hid (show acc.length = j from by rw [HAc.out, List.length_map, HM.out])
      have gc := HKg.out.cell 1
      simp at gc
      have HSo := Lib.hid (SortG_gr acc (.slice X j xq) j w3.heap.size wr (by omega) HAl.out HHs.out.nd HOw.out HSzr.out)
      go_upto_region 21 with (go_at_call 60; refine HSo.out.mono ?_; clear HSo gc; rintro e w5 ⟨rfl, F, hpm, hri, hown5, hgs⟩; have HPm := Lib.hid hpm; have HFs := Lib.hid (Gh.sort_is HHs.out.nd hpm hri); have HO5 := Lib.hid hown5; have HG5 := Lib.hid hgs; clear hpm hri hown5 hgs)
      have HFl := Lib.hid (show F.length = j from by rw [HPm.out.length_eq, HAl.out])
      have HXb := Lib.hid (show ∀ x, X = some x → x.block ≠ g from fun x hx => by
        have h1 : w3.heap.size ≤ x.block := by
          rcases HO5.out.2 with ⟨h, _⟩ | ⟨b, cap, cur, hv, hb, _⟩
          · injection h with h; rw [hx] at h; cases h
          · injection hv with hv; rw [hx] at hv; injection hv with hv; subst hv; exact hb
        omega)
      have HK5 := Lib.hid (HKg.out.grown HG5.out (fun e => by have h := (HOw.out.lt g e.symm).1; omega))
      have HRo := Lib.hid (rows_any F D X k dk j xq g w5 HFl.out hn9 hm9 (fun e he => HHs.out.ok e (HPm.out.subset he)) HK5.out (Sl.of_own HO5.out) HXb.out)
      have HD5 := Lib.hid (show Sl w5 1 D k (L.map (Value.int .i64)) from Sl.of_own (own_block (own_block HD3.out fun b hb => HA2.out.2 b (HD3.out.lt b hb).2 (by have := HDl.out b hb; omega) (by have := HDl.out b hb; omega)) fun b hb => HG5.out.block b (Nat.lt_of_lt_of_le (HD3.out.lt b hb).2 HSzr.out) (fun e => by have h1 := (HOw.out.lt b e.symm).1; have h2 := (HDl.out b hb).2; omega)))
      have HDb := Lib.hid (show ∀ x, D = some x → x.block ≠ g from fun x hx => by
        rcases HD3.out.2 with ⟨h, _⟩ | ⟨b, cap, cur, hv, hb, _⟩
        · injection h with h; rw [hx] at h; cases h
        · injection hv with hv
          rw [hx] at hv
          injection hv with hv
          have h3 := (HDl.out b (by rw [hx, hv]; rfl)).2
          subst hv
          simp only
          omega)
      have HB5 := Lib.hid (show Below w.heap.size w w5 from HBr.out.grown HG5.out HBr.out.size (fun b hb => by have h1 := (HOw.out.lt b hb).1; omega))
      go_wp2_with (go_at_call 62; refine HRo.out.mono ?_; clear HRo; rintro e w9 ⟨rfl, C, N, I, hk9, hc9, ⟨xs, hn_⟩, ⟨ys, hi_⟩, ha9, hb9⟩; have HK9 := Lib.hid hk9; have HC9 := Lib.hid hc9; have HN9 := Lib.hid hn_; have HI9 := Lib.hid hi_; have HA9 := Lib.hid ha9; have HB9 := Lib.hid hb9; clear hk9 hc9 hn_ hi_ ha9 hb9)
      go_ret2
      refine ⟨HB5.out.trans (HB9.out.mono hgw), ?_⟩
      rw [HOk.out]
      refine ⟨g, rfl, ?_⟩
      rw [← HFs.out]
      exact ⟨D, dk, X, xq, C, N, I, by rw [HL.out, HFl.out]; exact HK9.out, by rw [HL.out]; exact HD5.out.asd HA9.out HDb.out, by rw [HFl.out]; exact (Sl.of_own HO5.out).asd HA9.out HXb.out, by rw [HL.out]; exact HC9.out, ⟨xs, by rw [HFl.out]; exact HN9.out⟩, ⟨ys, by rw [HFl.out]; exact HI9.out⟩⟩
end Go.Proofs.YtbbmgcdocolakaaGreatDoor
/-
  load.Text.
-/
namespace Go.Proofs.YtbbmgcdocolakaaGreatDoor
open Go.RowKit Go.Proofs.YtbbmgcdocolakaaGreatDoor.Pg
attribute [local go_sem ↓] Go.wp_at_zero Go.wp_at_succ
set_option maxRecDepth 100000
set_option linter.unusedVariables false

def tLine : ByteArray := ⟨#[108, 105, 110, 101]⟩
def lenS : Value → Nat
  | .string s => s.size
  | _ => 0
/-- What a graph tells, at its line. -/
def placedE (n : Nat) : Gh.NewR → Err
  | .ok _ => .nil
  | .big => .step tGraph (.flt 11 0 tGraph)
  | .lab i => .step tGraph (.flt 11 (i : Nat) tLabel)
  | .edge c i => .step tGraph (.flt 11 ((n + i : Nat) : Int) tEdge)
/-- What Text answers. -/
def TextRes (s : List UInt8) (w : World) (e : Ending) (w' : World) : Prop :=
  Below w.heap.size w w' ∧ match Ld.textL s with
    | .bad n => ∃ v, e = .returned (.tuple #[.pointer none, v]) ∧ (Err.flt 11 (n : Nat) tLine).At w' v
    | .ok L E => (∃ F g, Gh.newR L E = .ok F ∧ e = .returned (.tuple #[.pointer (some ⟨g, 0, none⟩), .nilIface]) ∧ GraphAt w' g L (Gh.sortG F)) ∨ ((∀ F, Gh.newR L E ≠ .ok F) ∧ ∃ v, e = .returned (.tuple #[.pointer none, v]) ∧ (placedE L.length (Gh.newR L E)).At w' v)
theorem cut_some {c : UInt8} {rest x r : List UInt8} (h : Tx.cut1 c rest = (x, r, true)) : Tx.split1 c rest = x :: Tx.split1 c r ∧ r.length < rest.length ∧ x.length ≤ rest.length := by
  rcases Tx.cut1_cases c rest with ⟨_, h2⟩ | ⟨a, b, rfl, ha, h2⟩
  · rw [h] at h2; cases h2
  · rw [h] at h2
    injection h2 with e1 e2
    injection e2 with e2 e3
    subst e1 e2
    refine ⟨Tx.split1_app _ ha, ?_, ?_⟩ <;> simp <;> omega
theorem cut_none {c : UInt8} {rest x r : List UInt8} (h : Tx.cut1 c rest = (x, r, false)) : Tx.split1 c rest = [rest] := by
  rcases Tx.cut1_cases c rest with ⟨h1, _⟩ | ⟨a, b, rfl, ha, h2⟩
  · exact Tx.split1_none h1
  · rw [h] at h2; cases h2
theorem goE_at {n : Nat} : ∀ (E acc : List (Int × Int)) (c : Int) (i : Nat), Gh.goE n acc E = .edge c i → i < acc.length + E.length ∧ c ≠ 6
  | [], acc, c, i, h => by cases h
  | e :: E, acc, c, i, h => by
    unfold Gh.goE at h
    split at h
    · have := goE_at E (acc ++ [turnE e]) c i h
      rw [List.length_append, List.length_singleton] at this
      exact ⟨by rw [List.length_cons]; omega, this.2⟩
    · rename_i hb
      injection h with h1 h2
      subst h1 h2
      refine ⟨by rw [List.length_cons]; omega, ?_⟩
      rcases Gh.bad_pos hb with h | h | h <;> rw [h] <;> decide
theorem new_err {L : List Int} {E : List (Int × Int)} (hl : L.length ≤ 200000) (he : E.length ≤ 200000) (hno : ∀ F, Gh.newR L E ≠ .ok F) :
    ∃ (Er : Err) (c a : Int) (t : ByteArray), Er.flt? = some (c, a, t) ∧ Er.size ≤ 10 ∧ (0 ≤ a ∧ a ≤ 1000000) ∧ placedE L.length (Gh.newR L E) = .step tGraph (.flt 11 (placeZ L.length Er c a) t) ∧
      ∀ w e w', NewRes L E w e w' → Below w.heap.size w w' ∧ ∃ T x, e = .returned (.tuple #[.pointer none, .iface T x]) ∧ Er.At w' (.iface T x) := by
  cases hr : Gh.newR L E with
  | ok F => exact absurd hr (hno F)
  | big =>
    refine ⟨.flt 6 0 tGraph, 6, 0, tGraph, rfl, by decide, by omega, rfl, fun w e w' h => ?_⟩
    have h2 := h.2
    rw [hr] at h2
    obtain ⟨v, h3, q, rfl, h4⟩ := h2
    exact ⟨h.1, _, _, h3, q, rfl, h4⟩
  | lab i =>
    have hi : i < L.length := by
      unfold Gh.newR at hr
      split at hr
      · cases hr
      · split at hr
        · rename_i j hj
          injection hr with hr
          subst hr
          exact (List.findIdx?_eq_some_iff_getElem.1 hj).1
        · rename_i hz hj
          have : ∀ (E acc : List (Int × Int)), Gh.goE L.length acc E ≠ .lab i := by
            intro E
            induction E with
            | nil => intro acc h; cases h
            | cons e E ih =>
              intro acc h
              unfold Gh.goE at h
              split at h
              · exact ih _ h
              · cases h
          exact absurd hr (this E [])
    refine ⟨.flt 3 (i : Nat) tLabel, 3, (i : Nat), tLabel, rfl, by simp [Err.size], by omega, rfl, fun w e w' h => ?_⟩
    have h2 := h.2
    rw [hr] at h2
    obtain ⟨v, h3, q, rfl, h4⟩ := h2
    exact ⟨h.1, _, _, h3, q, rfl, h4⟩
  | edge c i =>
    have hi : i < E.length ∧ c ≠ 6 := by
      unfold Gh.newR at hr
      split at hr
      · cases hr
      · split at hr
        · cases hr
        · have := goE_at E [] c i hr
          simpa using this
    refine ⟨.step tEdge (.flt c (i : Nat) tEdge), c, (i : Nat), tEdge, rfl, by simp [Err.size], by omega, ?_, fun w e w' h => ?_⟩
    · show Err.step tGraph (.flt 11 ((L.length + i : Nat) : Int) tEdge) = _
      unfold placeZ
      rw [if_pos (show 0 < (Err.step tEdge (.flt c (i : Nat) tEdge)).words.length from by simp [Err.words]), Int.natCast_add]
    · have h2 := h.2
      rw [hr] at h2
      obtain ⟨v, h3, q, u, rfl, h4⟩ := h2
      exact ⟨h.1, _, _, h3, q, u, rfl, h4⟩
set_option maxHeartbeats 4000000 in
theorem LText_any (s : List UInt8) (S : ByteArray) (w : World) (hS : S = bz s) (hz : s.length ≤ 200000) (hg : ErrT w) (hL : LibW w) :
    Calls Tryz.prog 10 #[.string S] w (TextRes s w) := by
  have HS := Lib.hid hS
  have hsz : S.size = s.length := by rw [hS, bz_size]
  have HG := Lib.hid hg
  have HLb := Lib.hid hL
  obtain ⟨N, hN⟩ : ∃ N, N = s.length := ⟨_, rfl⟩
  have HN := Lib.hid hN
  rw [← hN] at hsz hz
  have hbig : ¬ (262144 : Int) < (N : Int) := by omega
  obtain ⟨w1, hw1⟩ : ∃ W, W = w.alloc (.cells #[.slice none 0 0, .slice none 0 0] 66) := ⟨_, rfl⟩
  have HB1 := Lib.hid (show Below w.heap.size w w1 from by rw [hw1]; exact bel_al (Below.refl _ _) _)
  have HR1 := Lib.hid (show RdAt w1 w.heap.size (w.heap.size + 1) [] [] from ⟨_, _, by rw [hw1]; exact Blk.new _ _ _, World.ownsRow_nil _ _ _ _, World.ownsRow_nil _ _ _ _⟩)
  have hz1 : w1.heap.size = w.heap.size + 1 := by rw [hw1]; simp
  have HZ1 := Lib.hid hz1
  clear hS hg hL hN hz1
  go_enter Tryz.func10, Tryz.ntmps10
  go_upto_region 4 with (fail)
  rw [← hw1]
  clear hw1
  go_wp2_with fail
  go_loopw [0, 5] (fun sv nv wr => ∃ (rest : List UInt8) (R : ByteArray) (k : Nat) (L : List Int) (E : List (Int × Int)), sv = .string R ∧ Hid (R = bz rest) ∧ nv = .int .i64 (k : Int) ∧ Hid (Ld.textL s = Ld.goL (Tx.split1 10 rest) L E k) ∧ Hid (RdAt wr w.heap.size (w.heap.size + 1) L E) ∧ Hid (Below w.heap.size w wr) ∧ Hid (rest.length + k ≤ N) ∧ Hid (L.length + E.length ≤ k) ∧ Hid (w.heap.size + 1 ≤ wr.heap.size) ∧ Hid ((∀ x ∈ L, Ld.lab6 x) ∧ (∀ e ∈ E, Ld.lab6 e.1 ∧ Ld.lab6 e.2))) (fun sv _ _ => lenS sv)
  case atStart => exact ⟨s, S, 0, [], [], rfl, HS, rfl, Lib.hid rfl, HR1, HB1, Lib.hid (by rw [HN.out]; exact Nat.le_refl _), Lib.hid (Nat.le_refl _), Lib.hid (Nat.le_of_eq HZ1.out.symm), Lib.hid ⟨fun x h => absurd h List.not_mem_nil, fun x h => absurd h List.not_mem_nil⟩⟩
  case round =>
    obtain ⟨rest, R, k, L, E, rfl, HRb, rfl, HGo, HRd, HBr, HLn, HLk, HSz, HLab⟩ := hrel
    clear HR1 HB1
    have he : (R.toList == []) = decide (rest = []) := by rw [HRb.out]; exact bz_beqL rest []
    have hk9 : k ≤ 200000 := by have := HLn.out; omega
    by_cases h0 : rest = []
    · have HOk := Lib.hid (show Ld.textL s = .ok L E from by rw [HGo.out, h0]; rfl)
      rw [decide_eq_true h0] at he
      clear h0
      obtain ⟨lv, ev, hk, hol, hoe⟩ := HRd.out
      obtain ⟨X, xc, rfl, _⟩ := Sl.own hol
      obtain ⟨Y, yc, rfl, _⟩ := Sl.own hoe
      have HK := Lib.hid hk
      have HNw := Lib.hid (show ∀ W, Below wr.heap.size wr W → Calls Tryz.prog 27 #[.slice X L.length xc, .slice Y E.length yc] W (NewRes L E W) from fun W hW => GNew_any L E X Y L.length xc E.length yc W rfl (by have := HLk.out; omega) (by have := HLk.out; omega) ((Sl.of_own hol).keep hW) ((Sl.of_own hoe).keep hW) (fun e he => by
        have h := HLab.out.2 e he
        exact ⟨⟨by have := h.1.1; omega, by have := h.1.2; omega⟩, ⟨by have := h.2.1; omega, by have := h.2.2; omega⟩⟩))
      have r0 := hk.cell 0
      have r1 := hk.cell 1
      simp at r0 r1
      have HLk9 := Lib.hid (show L.length ≤ 200000 ∧ E.length ≤ 200000 from by have := HLk.out; omega)
      clear hk hol hoe
      have HBn := Lib.hid (bel_drewN (Below.refl wr.heap.size wr) 1)
      by_cases hok : ∃ F, Gh.newR L E = .ok F
      · obtain ⟨F, hF⟩ := hok
        have HN2 := Lib.hid (show ∀ W, Below wr.heap.size wr W → Calls Tryz.prog 27 #[.slice X L.length xc, .slice Y E.length yc] W fun e w' => ∃ q, e = .returned (.tuple #[.pointer (some ⟨q, 0, none⟩), .nilIface]) ∧ GraphAt w' q L (Gh.sortG F) ∧ Below W.heap.size W w' from fun W hW => (HNw.out W hW).mono fun e w' h => by
          have h2 := h.2
          rw [hF] at h2
          obtain ⟨q, h3, h4⟩ := h2
          exact ⟨q, h3, h4, h.1⟩)
        have HF := Lib.hid hF
        clear hF HNw
        go_wp2_with fail
        go_region_law
          (go_simp; go_at_call 27; (refine (HN2.out _ HBn.out).mono ?_; rintro e w5 ⟨q, rfl, hq, hb5⟩; have HQ := Lib.hid hq; have HB5 := Lib.hid (HBr.out.andThen (HBn.out.andThen hb5)); clear hq hb5))
        all_goals (
          go_wp2_with fail
          go_ret2
          refine ⟨HB5.out, ?_⟩
          rw [HOk.out]
          exact .inl ⟨F, q, HF.out, rfl, HQ.out⟩)
      · have hno : ∀ F, Gh.newR L E ≠ .ok F := fun F h => hok ⟨F, h⟩
        obtain ⟨Er, c, a, t, hf, hd, ha, hp, hres⟩ := new_err HLk9.out.1 HLk9.out.2 hno
        have HN2 := Lib.hid (show ∀ W, Below wr.heap.size wr W → Calls Tryz.prog 27 #[.slice X L.length xc, .slice Y E.length yc] W fun e w' => ∃ T x, e = .returned (.tuple #[.pointer none, .iface T x]) ∧ Er.At w' (.iface T x) ∧ Below W.heap.size W w' from fun W hW => (HNw.out W hW).mono fun e w' h => by
          obtain ⟨h1, T, x, h2, h3⟩ := hres W e w' h
          exact ⟨T, x, h2, h3, h1⟩)
        have HF := Lib.hid hf
        have HD := Lib.hid hd
        have HAa := Lib.hid ha
        have HPp := Lib.hid hp
        have HNo := Lib.hid hno
        clear hf hd ha hp hres hno hok HNw
        go_wp2_with fail
        go_region_law
          (go_simp; go_at_call 27; (refine (HN2.out _ HBn.out).mono ?_; rintro e w5 ⟨T, x, rfl, hq, hb5⟩; have HQ := Lib.hid hq; have HB5 := Lib.hid (HBn.out.andThen hb5); clear hq hb5))
        all_goals (
          have HPl := Lib.hid (placed_any Er (.iface T x) c a t w.heap.size L.length xc X (.slice Y E.length yc) w5 HQ.out HF.out HD.out HAa.out (by have := HLk9.out; omega) (HK.out.keep HB5.out) (HG.out.keep (HBr.out.andThen HB5.out)))
          go_wp2_with (go_at_call 33; refine HPl.out.mono ?_; clear HPl; rintro e w6 ⟨v6, rfl, hv6, hb6⟩; have HV6 := Lib.hid hv6; have HB6 := Lib.hid (HBr.out.andThen (HB5.out.andThen hb6)); clear hv6 hb6)
          go_ret2
          refine ⟨HB6.out, ?_⟩
          rw [HOk.out]
          exact .inr ⟨HNo.out, v6, rfl, by rw [HPp.out]; exact HV6.out⟩)
    · rw [decide_eq_false h0] at he
      obtain ⟨x, r, has, hcut⟩ : ∃ x r has, Tx.cut1 10 rest = (x, r, has) := ⟨_, _, _, rfl⟩
      have HCu := Lib.hid (show Calls Tryz.prog 30 #[.string R, .string ⟨#[10]⟩] wr fun e w' => e = .returned (.tuple #[.string (bz x), .string (bz r), .bool has]) ∧ Below wr.heap.size wr w' from by
        have h := Cut_any rest 10 wr (by have := HLn.out; omega) (HLb.out.keep HBr.out)
        rw [hcut] at h
        rw [HRb.out]
        exact h)
      have HCt := Lib.hid hcut
      have H0 := Lib.hid h0
      clear hcut h0
      cases has with
      | false =>
        have HBd := Lib.hid (show Ld.textL s = .bad k from by
          rw [HGo.out, cut_none HCt.out, Ld.goL, if_neg H0.out])
        go_wp2_with (first
          | (go_at_call 30; refine HCu.out.mono ?_; clear HCu; rintro e w2 ⟨rfl, hb2⟩; have HB2 := Lib.hid (HBr.out.andThen hb2); clear hb2)
          | (go_at_call 32; refine (wrong5_any _ _ _).mono ?_; rintro e w4 ⟨v4, rfl, hv4, hb4⟩; have HV4 := Lib.hid hv4; have HB4 := Lib.hid (HB2.out.andThen hb4); clear hv4 hb4))
        go_ret2
        refine ⟨HB4.out, ?_⟩
        rw [HBd.out]
        exact ⟨v4, rfl, HV4.out⟩
      | true =>
        obtain ⟨hs1, hs2, hs3⟩ := cut_some HCt.out
        have HSp := Lib.hid hs1
        have HRl := Lib.hid hs2
        clear hs1 hs2
        have hx9 : x.length ≤ 1000000 := by have := HLn.out; omega
        clear hs3
        go_upto_region 8 with (go_at_call 30; refine HCu.out.mono ?_; clear HCu; rintro e w2 ⟨rfl, hb2⟩; have HB2 := Lib.hid hb2; clear hb2)
        have HBw2 := Lib.hid (HBr.out.andThen HB2.out)
        have hw2 : w.heap.size + 1 ≤ w2.heap.size := Nat.le_trans HSz.out HB2.out.size
        have HLi := Lib.hid (line_any L E x (bz x) w.heap.size (w.heap.size + 1) w2 rfl hx9 (HRd.out.keep HB2.out) (Nat.lt_succ_self _) hw2 (by have := HLk.out; omega) (by have := HLk.out; omega) (HLb.out.keep HBw2.out))
        cases hl : Ld.lineL L E x with
        | none =>
          have HLi2 := Lib.hid (show Calls Tryz.prog 31 #[.pointer (some ⟨w.heap.size, 0, none⟩), .string (bz x)] w2 fun e w' => e = .returned (.bool false) ∧ Below w.heap.size w2 w' from HLi.out.mono fun e w' h => by
            have h2 := h.2
            rw [hl] at h2
            exact ⟨h2.1, h.1⟩)
          have HBd := Lib.hid (show Ld.textL s = .bad k from by rw [HGo.out, HSp.out, Ld.goL_none (Tx.split1_ne _ _) hl])
          clear hl HLi
          go_wp2_with (first
            | (go_at_call 31; refine HLi2.out.mono ?_; clear HLi2; rintro e w3 ⟨rfl, hb3⟩; have HB3 := Lib.hid (HBw2.out.trans hb3); clear hb3)
            | (go_at_call 32; refine (wrong5_any _ _ _).mono ?_; rintro e w4 ⟨v4, rfl, hv4, hb4⟩; have HV4 := Lib.hid hv4; have HB4 := Lib.hid (HB3.out.andThen hb4); clear hv4 hb4))
          go_ret2
          refine ⟨HB4.out, ?_⟩
          rw [HBd.out]
          exact ⟨v4, rfl, HV4.out⟩
        | some q =>
          obtain ⟨L', E'⟩ := q
          have HLi2 := Lib.hid (show Calls Tryz.prog 31 #[.pointer (some ⟨w.heap.size, 0, none⟩), .string (bz x)] w2 fun e w' => e = .returned (.bool true) ∧ RdAt w' w.heap.size (w.heap.size + 1) L' E' ∧ Below w.heap.size w2 w' from HLi.out.mono fun e w' h => by
            have h2 := h.2
            rw [hl] at h2
            exact ⟨h2.1, h2.2, h.1⟩)
          have HNx := Lib.hid (show Ld.textL s = Ld.goL (Tx.split1 10 r) L' E' (k + 1) from by rw [HGo.out, HSp.out, Ld.goL_some (Tx.split1_ne _ _) hl])
          have HLb2 := Lib.hid (Ld.lineL_lab hl HLab.out.1 HLab.out.2)
          have hRz : R.size = rest.length := by rw [HRb.out, bz_size]
          have HRz := Lib.hid hRz
          clear hl HLi hRz
          go_wp2_with (go_at_call 31; refine HLi2.out.mono ?_; clear HLi2; rintro e w3 ⟨rfl, hr3, hb3⟩; have HR3 := Lib.hid hr3; have HBd3 := Lib.hid hb3; have HB3 := Lib.hid (HBw2.out.trans hb3); clear hb3 hr3)
          go_roundw
          case rel => exact ⟨r, bz r, k + 1, L', E', rfl, Lib.hid rfl, by go_num, HNx, HR3, HB3, Lib.hid (by have := HRl.out; have := HLn.out; omega), Lib.hid (by have := HLb2.out.2.2; have := HLk.out; omega), Lib.hid (Nat.le_trans hw2 HBd3.out.size), Lib.hid ⟨HLb2.out.1, HLb2.out.2.1⟩⟩
          case measure =>
            show (bz r).size < R.size
            rw [bz_size, HRz.out]
            exact HRl.out
end Go.Proofs.YtbbmgcdocolakaaGreatDoor
/-
  A region that draws its order, by an invariant: whatever may come up keeps it; so no order is gone through by itself.
-/
namespace Go.Proofs.YtbbmgcdocolakaaGreatDoor
open Go.RowKit
set_option linter.unusedVariables false

theorem set_fewer : ∀ (l : List Bool) (i : Nat), l[i]? = some false → ((l.set i true).filter (! ·)).length + 1 = (l.filter (! ·)).length
  | [], i, h => by simp at h
  | b :: l, 0, h => by
    obtain rfl : b = false := by simpa using h
    simp
  | b :: l, i + 1, h => by
    have ih := set_fewer l i (by simpa using h)
    rw [List.set_cons_succ]
    cases b
    · simp only [List.filter_cons, Bool.not_false, if_true, List.length_cons]
      omega
    · simp only [List.filter_cons, Bool.not_true, Bool.false_eq_true, if_false]
      exact ih
section
variable {P : Program} {md : Region.Mode} {ops : Array Oper} {Q : Exit → Act → World → Prop}
theorem ready_open {listed : Array Bool} {i : Nat} (hi : i ∈ Region.ready md ops listed) : listed.toList[i]? = some false := by
  have h := (mem_ready.1 hi).1
  rw [Array.getElem?_toList]
  rw [Array.getD_eq_getD_getElem?] at h
  cases hx : listed[i]? with
  | none => rw [hx] at h; simp at h
  | some b => rw [hx] at h; simp at h; rw [h]
theorem wpAny_inv {I : Array Bool → Act → World → Prop}
    (hstep : ∀ (i : Nat) (listed : Array Bool) (a : Act) (w : World), i ∈ Region.ready md ops listed → I listed a w → wpOp P ops Q i (fun a' w' => I (listed.setIfInBounds i true) a' w') a w)
    (hend : ∀ (listed : Array Bool) (a : Act) (w : World), Region.ready md ops listed = [] → I listed a w → Q .normal a w) :
    ∀ (fuel : Nat) (listed : Array Bool) (a : Act) (w : World), (listed.toList.filter (! ·)).length ≤ fuel → I listed a w → wpAny P md ops Q fuel listed a w
  | 0, listed, a, w, hf, h => by
    have hnil : Region.ready md ops listed = [] := by
      refine List.eq_nil_iff_forall_not_mem.2 fun i hi => ?_
      have := set_fewer _ _ (ready_open hi)
      omega
    exact ⟨hnil, hend listed a w hnil h⟩
  | fuel + 1, listed, a, w, hf, h =>
    ⟨fun h0 => hend listed a w h0 h, fun i hi => wpOp_mono (fun a' w' h' => wpAny_inv hstep hend fuel _ a' w' (by
      have := set_fewer _ _ (ready_open hi)
      rw [Array.toList_setIfInBounds]
      omega) h') (hstep i listed a w hi h)⟩
/-- A region by an invariant. -/
theorem wp_region_inv {id : Nat} {a : Act} {w : World} (I : Array Bool → Act → World → Prop) (hm : P.follows .mixedOrders = true) (h0 : I (Array.replicate ops.size false) a w.drew)
    (hstep : ∀ (i : Nat) (listed : Array Bool) (a : Act) (w : World), i ∈ Region.ready .any ops listed → I listed a w → wpOp P ops Q i (fun a' w' => I (listed.setIfInBounds i true) a' w') a w)
    (hend : ∀ (listed : Array Bool) (a : Act) (w : World), Region.ready .any ops listed = [] → I listed a w → Q .normal a w) : (Code.region id ops true).wp P Q a w :=
  wp_region_any hm (wpAny_inv hstep hend _ _ _ _ (by simp) h0)
end
section
variable {P : Program} {ops : Array Oper} {C : World → Prop}
/-- A region whose operations leave the world in a class: one walk in the order of the text serves every order. -/
theorem wp_region_cls {id : Nat} {Q : Exit → Act → World → Prop} {a : Act} {w : World} {l : List Oper} (C : World → Prop) (hm : P.follows .mixedOrders = true) (hB : Region.lexB .any l.toArray = true) (hC : C w.drew)
    (h : wpQuiet P l.toArray C (fun a' => ∀ w', C w' → Q .normal a' w') l a) : (Code.region id l.toArray true).wp P Q a w :=
  wp_region_quiet hm hB hC (by simpa using h)
theorem wpQ_want {Q : Act → Prop} {a : Act} {o : Oper} {rest : List Oper} {v : Value} (hw : Region.wanted o (yielded ops a.tmps) = true) (h1 : ∀ W, C W → o.quietAt P a C W v) (h2 : wpQuiet P ops C Q rest (a.put o.dst v)) : wpQuiet P ops C Q (o :: rest) a := by
  unfold wpQuiet
  rw [if_pos hw]
  exact ⟨v, h1, h2⟩
theorem wpQ_pass {Q : Act → Prop} {a : Act} {o : Oper} {rest : List Oper} (hw : Region.wanted o (yielded ops a.tmps) = false) (h2 : wpQuiet P ops C Q rest (a.put o.dst undef)) : wpQuiet P ops C Q (o :: rest) a := by
  unfold wpQuiet
  rw [if_neg (by rw [hw]; decide)]
  exact h2
theorem if_wanted {c : Bool} {p q : Prop} (hc : c = true) (h : p) : if c = true then p else q := by rw [if_pos hc]; exact h
theorem if_passed {c : Bool} {p q : Prop} (hc : c = false) (h : q) : if c = true then p else q := by rw [if_neg (by rw [hc]; decide)]; exact h
end
end Go.Proofs.YtbbmgcdocolakaaGreatDoor
/-
  A region that draws its order, its values fixed, step by step in a closed word (so that no step evaluates what comes behind it).
-/
namespace Go.Proofs.YtbbmgcdocolakaaGreatDoor
open Go.RowKit
set_option linter.unusedVariables false

/-- What wpQuiet says, closed. -/
structure QQ (P : Program) (ops : Array Oper) (C : World → Prop) (Q : Act → Prop) (l : List Oper) (a : Act) : Prop where
  out : wpQuiet P ops C Q l a
section
variable {P : Program} {ops : Array Oper} {C : World → Prop}
theorem wp_region_qq {id : Nat} {Q : Exit → Act → World → Prop} {a : Act} {w : World} {l : List Oper} (C : World → Prop) (hm : P.follows .mixedOrders = true) (hB : Region.lexB .any l.toArray = true) (hC : C w.drew)
    (h : QQ P l.toArray C (fun a' => ∀ w', C w' → Q .normal a' w') l a) : (Code.region id l.toArray true).wp P Q a w := wp_region_cls C hm hB hC h.out
theorem qq_want {Q : Act → Prop} {a : Act} {o : Oper} {rest : List Oper} {v : Value} (hw : Region.wanted o (yielded ops a.tmps) = true) (h1 : ∀ W, C W → o.quietAt P a C W v) (h2 : QQ P ops C Q rest (a.put o.dst v)) : QQ P ops C Q (o :: rest) a := ⟨wpQ_want hw h1 h2.out⟩
theorem qq_pass {Q : Act → Prop} {a : Act} {o : Oper} {rest : List Oper} (hw : Region.wanted o (yielded ops a.tmps) = false) (h2 : QQ P ops C Q rest (a.put o.dst undef)) : QQ P ops C Q (o :: rest) a := ⟨wpQ_pass hw h2.out⟩
theorem qq_nil {Q : Act → Prop} {a : Act} (h : Q a) : QQ P ops C Q [] a := ⟨wpQuiet_nil h⟩
end
end Go.Proofs.YtbbmgcdocolakaaGreatDoor
