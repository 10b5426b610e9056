/-
  SetsPicks: the law's walk, for a list of at most 2^20 numbers.
-/
import Derived.Test.YtakkdpnaoahpcaaPicksE
namespace Go.Proofs.Ytakkdpnaoahpcaa
open Go.RowKit Go.Shelf
attribute [local go_sem] Oper.semAt_some
set_option maxRecDepth 100000
set_option linter.unusedVariables false

set_option maxHeartbeats 16000000 in
theorem SetsPicks_walk (X : List Int) (A0 : Option Addr) (n0 c0 : Nat) (k : Int) (s t : Nat) (w : World) (hk : k ≤ 9223372036854775807) (hs : s ≤ 255) (ht : t < 20) (htm : Int.tmod (s : Int) 20 = (t : Int)) (h9 : X.length ≤ 9) (HXI : Hid (Inc X))
    (HA : Hid (Calls Try.prog 8 #[] ((w.alloc (.cells #[.int .u8 (s : Int)] 5)).alloc (.cells #[.bool false] 4)) fun e W1 => e = .returned (.bool true) ∧ (Boxed W1 w.heap.size 5 (.int .u8 (s : Int)) ∧ Boxed W1 (w.heap.size + 1) 4 (.bool false)) ∧ Below w.heap.size w W1))
    (HOf : Hid (∀ W, Below w.heap.size w W → Calls Try.prog 9 #[.slice A0 n0 c0] W fun e w' => ∃ v, e = .returned v ∧ w'.ownsRow W.heap.size 3 1 v X.length (X.map (Value.int .i64)) ∧ Below W.heap.size W w')) :
    Calls Try.prog 6 #[.slice A0 n0 c0, .int .i64 k, .int .u8 (s : Int)] w fun e w' => e = .returned (.bool true) ∧ Below w.heap.size w w' := by
  have h9' : ¬ (9 : Int) < (X.length : Int) := by omega
  have hw3 : wrap64 (s : Int) = (s : Int) := k_wrap s hs
  have HCt := Lib.hid (fun W => Count_any X.length k W h9 hk)
  have HL9 := Lib.hid (choices_few X k h9)
  have HK0 := Lib.hid hk
  refine (callsIn_wide (n := 5)).1 ?_
  refine callsIn_of_wp_marks Try.func6 rfl trivial ?_ rfl
  simp only [Try.ntmps6, List.size_toArray, List.length_cons, List.length_nil, Nat.reduceAdd, Nat.reduceSub, Array.replicate_succ, Array.replicate_zero, List.push_toArray, List.append_toArray, List.nil_append, List.cons_append]
  gi_wp2_with (first
    | ((try refine ⟨trivial, ?_⟩); (try refine ⟨fun h => (by cases h), ?_⟩); gi_at_call 8; refine (callsIn_wide.2 HA.out).mono ?_; clear HA; rintro e W1 ⟨rfl, ⟨h1, h2⟩, hb⟩; have HS1 := Lib.hid h1; have HR1 := Lib.hid h2; have HB := Lib.hid hb; clear h1 h2 hb; have T1 := Lib.hid True.intro)
    | (clear T1; (try refine ⟨trivial, ?_⟩); (try refine ⟨fun h => (by cases h), ?_⟩); gi_at_call 9; refine (callsIn_wide.2 (HOf.out W1 HB.out)).mono ?_; clear HOf; rintro e W2 ⟨v, rfl, hown, hb2⟩; obtain ⟨CS, kS, rfl, hs2⟩ := Sl.own hown; have hca := own_cap hown; have hcb : ∀ x : Addr, CS = some x → x.block < W2.heap.size := (fun x hx => (by subst hx; exact (hown.lt _ rfl).2)); have HCa := Lib.hid hca; have HCb := Lib.hid hcb; have HB2 := Lib.hid (HB.out.andThen hb2); have HS2 := Lib.hid (boxed_keep HS1.out hb2); have HR2 := Lib.hid (boxed_keep HR1.out hb2); have HSX := Lib.hid hs2; clear hown hb2 hs2 hca hcb; have T2 := Lib.hid True.intro)
    | (clear T2; (try refine ⟨trivial, ?_⟩); (try refine ⟨fun h => (by cases h), ?_⟩); gi_at_call 26; refine (callsIn_wide.2 (RefPicks_any X CS X.length kS k W2 HXI.out rfl h9 HSX.out)).mono ?_; rintro e W3 ⟨C, d, its, rfl, hits, hsl, hok, hd1, hd2, hb3⟩; have HIts := Lib.hid hits; have HW := Lib.hid hsl; have HOk := Lib.hid hok; have HB3 := Lib.hid (HB2.out.andThen hb3); have HS3 := Lib.hid (boxed_keep HS2.out hb3); have HR3 := Lib.hid (boxed_keep HR2.out hb3); have HSX3 := Lib.hid (HSX.out.keep hb3); have HLe3 := Lib.hid hb3.size; clear hits hsl hok hd1 hd2 hb3; have T3 := Lib.hid True.intro)
    | (clear T3; (try refine ⟨trivial, ?_⟩); (try refine ⟨fun h => (by cases h), ?_⟩); gi_at_call 25; refine (callsIn_wide.2 (Picks_any CS X.length kS _ _)).mono ?_; rintro e W6 ⟨rfl, rfl⟩; have T4 := Lib.hid True.intro)
    | fail)
  obtain ⟨L, hL⟩ : ∃ L, L = its.length := ⟨_, rfl⟩
  rw [← hL]
  rw [← hL] at HW
  have HLe := Lib.hid hL
  have HLk := Lib.hid (show (choices X k).length = L by rw [hL, ← HIts.out, List.length_map])
  have hL9 : L ≤ 512 := by have := HL9.out; have h := HLk.out; omega
  clear hL HSX HS1 HR1 HS2 HR2
  obtain ⟨w6, hw6⟩ : ∃ w6, ((((W3.alloc (.cells #[.slice C L d] 37)).alloc (.cells #[.int .i64 0] 3)).alloc (.cells #[.slice CS X.length kS] 22)).alloc (.cells #[.int .i64 k] 3)) = w6 := ⟨_, rfl⟩
  obtain ⟨hsz, hbw, hbn, hbs, hbk, hb6⟩ := picks_boxes W3 _ _ k w6 hw6
  rw [hw6]
  clear hw6
  have HSz := Lib.hid hsz
  have hnn₁ : W3.heap.size + 4 ≤ w6.heap.size := by omega
  have HQ : Hid (∀ x : Addr, CS = some x → x.block < W3.heap.size ∨ W3.heap.size + 4 ≤ x.block) := fun x hx => .inl (by have h1 := HCb.out x hx; have h2 := HLe3.out; omega)
  have hgv := picks_gives (5 - 1) (W3.heap.size + 4) (fun q => q < W3.heap.size ∨ W3.heap.size + 4 ≤ q) (fun _ h => .inr h) X k CS X.length kS (W3.heap.size + 3) (W3.heap.size + 2) w6 hbk.cell hbk.lt hbs.cell hbs.lt rfl (by omega) HCa.out.1 HCa.out.2 (HSX3.out.keep hb6) HQ.out hnn₁
  refine rangeFunc_one (fun x b => { b with tmps := b.tmps.setIfInBounds 10 (rv x) }) rfl (by omega) (gf := 39) (lb := #[.pointer (some ⟨W3.heap.size + 3, 0, none⟩), .pointer (some ⟨W3.heap.size + 2, 0, none⟩)]) rfl trivial (enters_of Try.func39 (by kernel_rfl) rfl)
    hgv kn_put Kq.trans (fun _ W l o o' _ hl ho _ => Kq.of_kept (Kept.putObj o' hl ho)) (Below.refl _ _)
    (fun pre W => (Boxed W (W3.heap.size + 1) 3 (.int .i64 (pre.length : Int)) ∧ Boxed W W3.heap.size 37 (.slice C L d)) ∧ Below W3.heap.size W3 W) (fun _ _ _ => False)
    (OwnFrom.and (Own.from (fun s A B row hs hg hr => ⟨boxed_own _ _ (fun pre : List Row => .int .i64 (pre.length : Int)) s A B row hs.1 hg hr, boxed_own _ _ (fun _ => _) s A B row hs.2 hg hr⟩) _) (ownFrom_below (Nat.le_refl _) (by omega)))
    (fun c s A B row hs _ _ => hs.elim) ⟨⟨hbn, hbw⟩, hb6⟩ ?assign ?body ?done ?stop
  all_goals clear hsz hnn₁ hgv
  case assign =>
    intro l x W K hK
    gi_wp2
    exact hK
  case body =>
    rintro l pre ⟨D, d', p⟩ W ⟨⟨hc, hw⟩, hb⟩ hkn hlt
    obtain ⟨q, hq⟩ : ∃ q, q = pre.length := ⟨_, rfl⟩
    have hG : (choices X k)[q]? = some p := by rw [hq]; exact hkn.2
    have hqL : q < L := by rw [HLk.out] at hlt; omega
    have hqL' : (q : Int) < (L : Int) := by omega
    have hqL2 : ¬ (L : Int) ≤ (q : Int) := by omega
    have hsp : Sl W 1 D p.length (p.map (Value.int .i64)) := Sl.of_own hkn.1
    have hpl : p.length ≤ 9 := by
      have h := List.mem_of_getElem? hG
      have h0 : 0 ≤ k := by
        by_cases h0 : 0 ≤ k
        · exact h0
        · rw [choices_neg X k (by omega)] at h
          cases h
      obtain ⟨j, rfl⟩ : ∃ j : Nat, k = (j : Int) := ⟨k.toNat, by omega⟩
      have h2 : (choices X (j : Int)).length ≠ 0 := fun e => by rw [List.eq_nil_of_length_eq_zero e] at h; cases h
      have h3 : j ≤ X.length := by
        by_cases h3 : j ≤ X.length
        · exact h3
        · rw [choices_none (.inr (by omega))] at h
          cases h
      rw [choices_any] at h
      have h4 : p.length = j := combos_el _ _ _ h
      omega
    obtain ⟨D2, d2, p2, hi2, hp2⟩ := its_row (its := its) (k := q) (by have := HLe.out; omega)
    rw [HIts.out, hG] at hp2
    obtain rfl : p = p2 := Option.some.inj hp2
    have hr2 := (HOk.out _ (List.mem_of_getElem? hi2)).keep hb
    obtain ⟨cb, co, rfl, _⟩ := HW.out.at_ (show 0 < L by omega)
    have cq := (HW.out.keep hb).again hqL (show (its.map rv)[q]? = some (.slice D2 p.length d2) by rw [List.getElem?_map, hi2]; rfl)
    rw [← hq] at hc
    have cn := hc.cell
    have cw := hw.cell
    have HSp := Lib.hid hsp
    have HS2 := Lib.hid hr2.1
    have HC := Lib.hid hc
    have HWb := Lib.hid hw
    have HBW := Lib.hid hb
    have HKn := Lib.hid hkn
    have HQq := Lib.hid hq
    have HPP := Lib.hid (show decide (p = p) = true from decide_eq_true rfl)
    have hwi : IntKind.i64.wrap ((q : Int) + 1) = ((q + 1 : Nat) : Int) := by rw [IntKind.wrap_i64]; omega
    clear hc hw hb hkn hq hG hlt hsp hr2 hi2 hp2 hbw hbn hbs hbk hb6
    simp only [rv]
    gi_wp2_with (first
      | ((try refine ⟨trivial, ?_⟩); (try refine ⟨fun h => (by cases h), ?_⟩); gi_at_call 10; refine (CallsIn.inRound l (callsIn_wide.2 (SameInts_any p p D D2 p.length p.length d' d2 W rfl rfl HSp.out HS2.out (by omega)))).mono ?_; rw [HPP.out]; rintro e W7 ⟨rfl, hb7⟩; have HB7 := Lib.hid hb7; clear hb7)
      | fail)
    gi_loopw [11] (fun iv wr => ∃ i : Nat, i ≤ p.length ∧ iv = .int .i64 (i : Int) ∧ KeepsOthers W wr ∧ Kq (fun q => q < W3.heap.size ∨ W3.heap.size + 4 ≤ q) (D, d', p) W wr ∧ (Boxed wr (W3.heap.size + 1) 3 (.int .i64 (q : Int)) ∧ Boxed wr W3.heap.size 37 (.slice (some ⟨cb, co, none⟩) L d)) ∧ Below W3.heap.size W3 wr ∧ ∃ cs, wr.ownsRow (W3.heap.size + 4) 3 1 (.slice D p.length d') p.length cs) (fun iv _ => p.length - (intOf iv).toNat)
    case atStart => exact ⟨0, Nat.zero_le _, rfl, ko_below HB7.out, Kq.of_kept (Kept.of_below HB7.out), ⟨boxed_keep HC.out HB7.out, boxed_keep HWb.out HB7.out⟩, HBW.out.andThen HB7.out, _, own_below HKn.out.1 (fun g hg => (HKn.out.1.lt g hg).2) HB7.out⟩
    case round =>
      obtain ⟨i, hi, rfl, hko, hkq, ⟨hcn, hcw⟩, hbw, cs, hown⟩ := hrel
      have HKO := Lib.hid hko
      have HKQ := Lib.hid hkq
      have HCN := Lib.hid hcn
      have HCW := Lib.hid hcw
      have HBw := Lib.hid hbw
      clear hko hkq hcw hbw
      by_cases hip : i < p.length
      · have hip' : (i : Int) < (p.length : Int) := by omega
        obtain ⟨g, rfl⟩ : ∃ g, D = some ⟨g, 0, none⟩ := by
          rcases hown.2 with ⟨_, h0⟩ | ⟨g, cap, cur, hv, _⟩
          · omega
          · cases hv
            exact ⟨g, rfl⟩
        have hcl : cs.length = p.length := by have := hown.1; omega
        obtain ⟨u, hu⟩ : ∃ u, cs[i]? = some u := ⟨_, List.getElem?_eq_getElem (by omega)⟩
        have ci := (hown.cellAt i (by omega)).trans hu
        have fi := hown.frozenAt i
        have hg := hown.lt g rfl
        have HO := Lib.hid hown
        clear hown hu hcl hcn
        gi_wp2
        go_roundw
        case rel => exact ⟨i + 1, by omega, by go_num, HKO.out.trans (KeepsOthers.setCell _ _ _), Kq.trans HKQ.out (kq_own _ _), ⟨boxed_off HCN.out (by omega) _, boxed_off HCW.out (by omega) _⟩, HBw.out.setCell (p := ⟨g, i, none⟩) (show W3.heap.size ≤ g by omega) _, _, (HO.out.stored i _).1⟩
        case measure => simp [intOf]; omega
      · obtain rfl : i = p.length := by omega
        have hip' : ¬ (p.length : Int) < (p.length : Int) := by omega
        have cn2 := hcn.cell
        have fn2 := hcn.frozen
        clear hcn hown
        gi_wp2
        refine ⟨HKO.out.trans (KeepsOthers.setCell _ _ _), Kq.trans HKQ.out (Kq.of_kept (Kept.set _ 0 _ (by omega))), ⟨?_, Boxed.other HCW.out (by omega) _⟩, HBw.out.setCell (p := ⟨W3.heap.size + 1, 0, none⟩) (show W3.heap.size ≤ W3.heap.size + 1 by omega) _⟩
        rw [List.length_append, ← HQq.out]
        exact HCN.out.set _
  case done =>
    rintro D1 xs W hD hS ⟨⟨hc, hw⟩, hb⟩ hK
    rw [hS, HLk.out] at hc
    have HN1 := Lib.hid hc
    have HWb := Lib.hid hw
    have HBW := Lib.hid hb
    have HK1 := Lib.hid hK
    have HD1 := Lib.hid hD
    have HSXW := Lib.hid (HSX3.out.keep hb)
    have HRW := Lib.hid (boxed_keep HR3.out hb)
    have HSW := Lib.hid (boxed_keep HS3.out hb)
    have HLeW := Lib.hid (hb.size)
    clear hc hw hb hK hD hS hbw hbn hbs hbk hb6
    gi_wp2_with ((try refine ⟨trivial, ?_⟩); (try refine ⟨fun h => (by cases h), ?_⟩); gi_at_call 25; refine (callsIn_wide.2 (Picks_any CS X.length kS _ _)).mono ?_; rintro e W6 ⟨rfl, rfl⟩)
    obtain ⟨v6, hv6⟩ : ∃ v6, ((W.alloc (.cells #[.int .i64 0] 3)).alloc (.cells #[.slice CS X.length kS] 22)).alloc (.cells #[.int .i64 k] 3) = v6 := ⟨_, rfl⟩
    obtain ⟨hsz, hbc, hbs, hbk, hb6⟩ := two_boxes W k _ v6 hv6
    rw [hv6]
    clear hv6
    have HQ2 : Hid (∀ x : Addr, CS = some x → x.block < W.heap.size ∨ W.heap.size + 3 ≤ x.block) := fun x hx => .inl (by have h1 := HCb.out x hx; have h2 := HLe3.out; have h3 := HLeW.out; omega)
    have hgv := picks_gives (5 - 1) (W.heap.size + 3) (fun q => q < W.heap.size ∨ W.heap.size + 3 ≤ q) (fun _ h => .inr h) X k CS X.length kS (W.heap.size + 2) (W.heap.size + 1) v6 hbk.cell hbk.lt hbs.cell hbs.lt rfl (by omega) HCa.out.1 HCa.out.2 (HSXW.out.keep hb6) HQ2.out (by omega)
    refine rangeFunc_one (fun x b => b) rfl (by omega) (gf := 39) (lb := #[.pointer (some ⟨W.heap.size + 2, 0, none⟩), .pointer (some ⟨W.heap.size + 1, 0, none⟩)]) rfl trivial (enters_of Try.func39 (by kernel_rfl) rfl)
      hgv kn_put Kq.trans (fun _ W l o o' _ hl ho _ => Kq.of_kept (Kept.putObj o' hl ho)) (Below.refl _ _)
      (fun pre W' => pre.length ≤ t ∧ Boxed W' W.heap.size 3 (.int .i64 (pre.length : Int)) ∧ Below W.heap.size W W')
      (fun c pre W' => (c = .exit 4 ∧ pre.length = t + 1) ∧ Boxed W' W.heap.size 3 (.int .i64 (pre.length : Int)) ∧ Below W.heap.size W W')
      (OwnFrom.and (fun s A B row hs _ _ => hs) (OwnFrom.and (Own.from (boxed_own _ _ (fun pre : List Row => .int .i64 (pre.length : Int))) _) (ownFrom_below (Nat.le_refl _) (by omega))))
      (fun c => OwnFrom.and (fun s A B row hs _ _ => hs) (OwnFrom.and (Own.from (boxed_own _ _ (fun pre : List Row => .int .i64 (pre.length : Int))) _) (ownFrom_below (Nat.le_refl _) (by omega))))
      ⟨Nat.zero_le _, hbc, hb6⟩ ?assign2 ?body2 ?done2 ?stop2
    all_goals have HSz2 := Lib.hid hsz
    all_goals clear hsz hgv
    case assign2 =>
      intro l x W K hK
      gi_wp2
      exact hK
    case body2 =>
      rintro l pre x W' ⟨hpt, hc, hb⟩ _ hlt
      obtain ⟨q, hq⟩ : ∃ q, q = pre.length := ⟨_, rfl⟩
      rw [← hq] at hc hpt
      have cn := hc.cell
      have fn := hc.frozen
      have hS' := boxed_keep HSW.out hb
      have cs := (hS'.set (.int .u8 (s : Int))).cell
      have HC := Lib.hid hc
      have hso : Boxed (W'.setCell ⟨W.heap.size, 0, none⟩ (.int .i64 ((q : Int) + 1))) w.heap.size 5 (.int .u8 (s : Int)) := Boxed.other hS' (by have h1 := HB3.out.size; have h2 := HS3.out.lt; have h3 := HLeW.out; omega) _
      have cso := hso.cell
      have cno := (hc.set (.int .i64 ((q : Int) + 1))).cell
      have HB2 := Lib.hid hb
      have HQq := Lib.hid hq
      have hwi : IntKind.i64.wrap ((q : Int) + 1) = (q : Int) + 1 := by rw [IntKind.wrap_i64]; omega
      clear hc hb hlt hq hS' hso cs
      by_cases hqt : q < t
      · have hqt' : ¬ (t : Int) < (q : Int) + 1 := by omega
        gi_wp2
        refine ⟨KeepsOthers.setCell _ _ _, Kq.of_kept (Kept.set W' 0 _ (by omega)), (by rw [List.length_append, ← HQq.out]; show q + 1 ≤ t; omega), ?_, HB2.out.setCell (p := ⟨W.heap.size, 0, none⟩) (Nat.le_refl _) _⟩
        rw [List.length_append, ← HQq.out]
        exact HC.out.set _
      · obtain rfl : q = t := by omega
        have hqt' : (q : Int) < (q : Int) + 1 := by omega
        gi_wp2
        refine ⟨KeepsOthers.setCell _ _ _, ⟨rfl, (by rw [List.length_append, ← HQq.out]; rfl)⟩, ?_, HB2.out.setCell (p := ⟨W.heap.size, 0, none⟩) (Nat.le_refl _) _⟩
        rw [List.length_append, ← HQq.out]
        exact HC.out.set _
    case done2 =>
      rintro D2 xs2 V hD2 hS2 ⟨hpt, hc2, hb2⟩ hK2
      have hlen : xs2.length = L := hS2.trans HLk.out
      rw [hlen] at hpt hc2
      have HKs := Lib.hid (show ∀ V2, Below V.heap.size V V2 → ∀ D ∈ [D2, D1], V2.heap[D]? = some (.deferred (some [])) from fun V2 h2 D h => by
        rcases List.mem_cons.1 h with rfl | h
        · exact (h2.block _ (Array.getElem?_eq_some_iff.1 hK2).1).trans hK2
        · obtain rfl := List.mem_singleton.1 h
          have h3 := (hb2.block D (Array.getElem?_eq_some_iff.1 HK1.out).1).trans HK1.out
          exact (h2.block D (Array.getElem?_eq_some_iff.1 h3).1).trans h3)
      have HNd := Lib.hid (show [D2, D1].Nodup from by
        have h1 := (Array.getElem?_eq_some_iff.1 HK1.out).1
        have h2 := HSz2.out
        simp
        omega)
      have HDs := Lib.hid (show ∀ D ∈ [D2, D1], w.heap.size ≤ D from fun D h => by
        have h1 := HB3.out.size
        have h2 := HD1.out
        have h3 := HSz.out
        have h4 := HLeW.out
        have h5 := HSz2.out
        rcases List.mem_cons.1 h with rfl | h
        · omega
        · obtain rfl := List.mem_singleton.1 h
          omega)
      have HRV := Lib.hid (boxed_keep HRW.out hb2)
      have hWV := boxed_keep HWb.out hb2
      have hNV := boxed_keep HN1.out hb2
      have hSV := boxed_keep HSW.out hb2
      have HBVw := Lib.hid (HB3.out.andThen (HBW.out.andThen hb2))
      have cW := hWV.cell
      have cN := hNV.cell
      have cS := hSV.cell
      have hwt : IntKind.i64.wrap ((t : Int) + 1) = (t : Int) + 1 := by rw [IntKind.wrap_i64]; omega
      clear hK2 hb2 hWV hNV hSV hbc hbs hbk hb6
      have cO := hc2.cell
      have hge : ¬ (t : Int) + 1 < (L : Int) := by omega
      clear hD2 hS2 hc2 hlen
      by_cases hk0 : k < 0
      · have hL0 : L = 0 := by have h := HLk.out; rw [choices_neg X k hk0] at h; exact h.symm
        gi_wp2_with (first
          | ((try refine ⟨trivial, ?_⟩); (try refine ⟨fun h => (by cases h), ?_⟩); gi_at_call 27; refine (callsIn_wide.2 (HCt.out _)).mono ?_; rw [count_many, HLk.out, if_pos hk0]; rintro e V2 ⟨rfl, hb3⟩; have HBV2 := Lib.hid hb3; have cR := (boxed_keep HRV.out hb3).cell; have fR := (boxed_keep HRV.out hb3).frozen; clear hb3)
          | fail)
        exact picks_end (Ds := [D2, D1]) rfl rfl (HKs.out V2 HBV2.out) HNd.out (boxed_keep HRV.out HBV2.out) (HBVw.out.andThen HBV2.out) HDs.out
      · gi_wp2_with (first
          | ((try refine ⟨trivial, ?_⟩); (try refine ⟨fun h => (by cases h), ?_⟩); gi_at_call 27; refine (callsIn_wide.2 (HCt.out _)).mono ?_; rw [count_many, HLk.out, if_neg hk0]; rintro e V2 ⟨rfl, hb3⟩; have HBV2 := Lib.hid hb3; have cR := (boxed_keep HRV.out hb3).cell; have fR := (boxed_keep HRV.out hb3).frozen; clear hb3)
          | fail)
        exact picks_end (Ds := [D2, D1]) rfl rfl (HKs.out V2 HBV2.out) HNd.out (boxed_keep HRV.out HBV2.out) (HBVw.out.andThen HBV2.out) HDs.out
    case stop2 =>
      rintro D2 c pre V hD2 ⟨_, hSp⟩ ⟨⟨rfl, hpt⟩, hc2, hb2⟩ hK2
      rw [HLk.out] at hSp
      have HKs := Lib.hid (show ∀ V2, Below V.heap.size V V2 → ∀ D ∈ [D2, D1], V2.heap[D]? = some (.deferred (some [])) from fun V2 h2 D h => by
        rcases List.mem_cons.1 h with rfl | h
        · exact (h2.block _ (Array.getElem?_eq_some_iff.1 hK2).1).trans hK2
        · obtain rfl := List.mem_singleton.1 h
          have h3 := (hb2.block D (Array.getElem?_eq_some_iff.1 HK1.out).1).trans HK1.out
          exact (h2.block D (Array.getElem?_eq_some_iff.1 h3).1).trans h3)
      have HNd := Lib.hid (show [D2, D1].Nodup from by
        have h1 := (Array.getElem?_eq_some_iff.1 HK1.out).1
        have h2 := HSz2.out
        simp
        omega)
      have HDs := Lib.hid (show ∀ D ∈ [D2, D1], w.heap.size ≤ D from fun D h => by
        have h1 := HB3.out.size
        have h2 := HD1.out
        have h3 := HSz.out
        have h4 := HLeW.out
        have h5 := HSz2.out
        rcases List.mem_cons.1 h with rfl | h
        · omega
        · obtain rfl := List.mem_singleton.1 h
          omega)
      have HRV := Lib.hid (boxed_keep HRW.out hb2)
      have hWV := boxed_keep HWb.out hb2
      have hNV := boxed_keep HN1.out hb2
      have hSV := boxed_keep HSW.out hb2
      have HBVw := Lib.hid (HB3.out.andThen (HBW.out.andThen hb2))
      have cW := hWV.cell
      have cN := hNV.cell
      have cS := hSV.cell
      have hwt : IntKind.i64.wrap ((t : Int) + 1) = (t : Int) + 1 := by rw [IntKind.wrap_i64]; omega
      clear hK2 hb2 hWV hNV hSV hbc hbs hbk hb6
      have hkp : ¬ k < 0 := fun hk0 => by
        have h := HLk.out
        rw [choices_neg X k hk0] at h
        have h' : 0 = L := h
        omega
      by_cases htl : t + 1 < L
      · have hgt : (t : Int) + 1 < (L : Int) := by omega
        rw [hpt, show ((t + 1 : Nat) : Int) = (t : Int) + 1 from rfl] at hc2
        have cO := hc2.cell
        clear hD2 hc2 hpt hSp
        have hk0 := hkp
        clear hkp
        gi_wp2_with (first
          | ((try refine ⟨trivial, ?_⟩); (try refine ⟨fun h => (by cases h), ?_⟩); gi_at_call 27; refine (callsIn_wide.2 (HCt.out _)).mono ?_; rw [count_many, HLk.out, if_neg hk0]; rintro e V2 ⟨rfl, hb3⟩; have HBV2 := Lib.hid hb3; have cR := (boxed_keep HRV.out hb3).cell; have fR := (boxed_keep HRV.out hb3).frozen; clear hb3)
          | fail)
        exact picks_end (Ds := [D2, D1]) rfl rfl (HKs.out V2 HBV2.out) HNd.out (boxed_keep HRV.out HBV2.out) (HBVw.out.andThen HBV2.out) HDs.out
      · have hle : pre.length = L := by omega
        have hge : ¬ (t : Int) + 1 < (L : Int) := by omega
        rw [hle] at hc2
        have cO := hc2.cell
        clear hD2 hc2 hpt hSp hle
        have hk0 := hkp
        clear hkp
        gi_wp2_with (first
          | ((try refine ⟨trivial, ?_⟩); (try refine ⟨fun h => (by cases h), ?_⟩); gi_at_call 27; refine (callsIn_wide.2 (HCt.out _)).mono ?_; rw [count_many, HLk.out, if_neg hk0]; rintro e V2 ⟨rfl, hb3⟩; have HBV2 := Lib.hid hb3; have cR := (boxed_keep HRV.out hb3).cell; have fR := (boxed_keep HRV.out hb3).frozen; clear hb3)
          | fail)
        exact picks_end (Ds := [D2, D1]) rfl rfl (HKs.out V2 HBV2.out) HNd.out (boxed_keep HRV.out HBV2.out) (HBVw.out.andThen HBV2.out) HDs.out
  case stop =>
    rintro D c pre W _ _ h _
    exact h.elim

set_option maxHeartbeats 8000000 in
theorem SetsPicks_big (X : List Int) (A0 : Option Addr) (n0 c0 : Nat) (k : Int) (s : Nat) (w : World) (h9 : ¬ X.length ≤ 9)
    (HOf : Hid (∀ W, Below w.heap.size w W → Calls Try.prog 9 #[.slice A0 n0 c0] W fun e w' => ∃ v, e = .returned v ∧ w'.ownsRow W.heap.size 3 1 v X.length (X.map (Value.int .i64)) ∧ Below W.heap.size W w')) :
    Calls Try.prog 6 #[.slice A0 n0 c0, .int .i64 k, .int .u8 (s : Int)] w fun e w' => e = .returned (.bool true) ∧ Below w.heap.size w w' := by
  have HA := Lib.hid (alive06_two s w)
  have h9' : (9 : Int) < (X.length : Int) := by omega
  refine (callsIn_wide (n := 5)).1 ?_
  refine callsIn_of_wp_marks Try.func6 rfl trivial ?_ rfl
  simp only [Try.ntmps6, List.size_toArray, List.length_cons, List.length_nil, Nat.reduceAdd, Nat.reduceSub, Array.replicate_succ, Array.replicate_zero, List.push_toArray, List.append_toArray, List.nil_append, List.cons_append]
  gi_wp2_with (first
    | ((try refine ⟨trivial, ?_⟩); (try refine ⟨fun h => (by cases h), ?_⟩); gi_at_call 8; refine (callsIn_wide.2 HA.out).mono ?_; clear HA; rintro e W1 ⟨rfl, ⟨h1, h2⟩, hb⟩; have HR1 := Lib.hid h2; have HB := Lib.hid hb; clear h1 h2 hb; have T1 := Lib.hid True.intro)
    | (clear T1; (try refine ⟨trivial, ?_⟩); (try refine ⟨fun h => (by cases h), ?_⟩); gi_at_call 9; refine (callsIn_wide.2 (HOf.out W1 HB.out)).mono ?_; clear HOf; rintro e W2 ⟨v, rfl, hown, hb2⟩; obtain ⟨CS, kS, rfl, hs2⟩ := Sl.own hown; have HB2 := Lib.hid (HB.out.andThen hb2); have hR2 := boxed_keep HR1.out hb2; have cR := hR2.cell; have fR := hR2.frozen; have HR2 := Lib.hid hR2; clear hown hb2 hs2 hR2; have T2 := Lib.hid True.intro)
    | fail)
  exact picks_end (Ds := []) rfl rfl (fun D h => by cases h) List.nodup_nil HR2.out HB2.out (fun D h => by cases h)

theorem SetsPicks_main (A0 : Option Addr) (n0 c0 : Nat) (l0 : List Int) (a1 a2 : Int) (w : World)
    (m0 : n0 ≤ 1048576) (e0 : l0.length = n0) (s0 : Sl w 1 A0 n0 (l0.map (Value.int .i64))) (w0 : ∀ x ∈ l0, (Lit.int .i64 x).wf = true) (w1 : (Lit.int .i64 a1).wf = true) (w2 : (Lit.int .u8 a2).wf = true) :
    Calls Try.prog 6 #[.slice A0 n0 c0, .int .i64 a1, .int .u8 a2] w fun e w' => e = .returned (.bool true) ∧ Below w.heap.size w w' := by
  obtain ⟨k, hk, rfl⟩ : ∃ k : Nat, k ≤ 255 ∧ a2 = (k : Int) := by
    have h := wf_u8 w2
    exact ⟨a2.toNat, by omega, by omega⟩
  have hw1 : a1 ≤ 9223372036854775807 := by
    have h := wf_i64 w1
    omega
  by_cases hs : (setL l0).length ≤ 9
  · exact SetsPicks_walk (setL l0) A0 n0 c0 a1 k (k % 20) w hw1 hk (Nat.mod_lt _ (by omega)) (by rw [Int.tmod_eq_emod_of_nonneg (by omega)]; omega) hs (Lib.hid (setL_inc l0)) (Lib.hid (alive06_two k w)) (Lib.hid (setsOf_at l0 A0 n0 c0 w m0 e0 s0))
  · exact SetsPicks_big (setL l0) A0 n0 c0 a1 k w hs (Lib.hid (setsOf_at l0 A0 n0 c0 w m0 e0 s0))
end Go.Proofs.Ytakkdpnaoahpcaa
