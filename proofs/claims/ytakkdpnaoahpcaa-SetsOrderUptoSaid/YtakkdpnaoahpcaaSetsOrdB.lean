/-
  SetsOrder: the walk, one of the three ways of its first test.
-/
import Derived.Test.YtakkdpnaoahpcaaSetsOrdH
namespace Go.Proofs.Ytakkdpnaoahpcaa
open Go.RowKit Go.Shelf
attribute [local go_sem] Oper.semAt_some
set_option maxRecDepth 100000
set_option linter.unusedVariables false

set_option maxHeartbeats 16000000 in
theorem SetsOrder_b (nn : Nat) (X : List Int) (z1 z2 z3 : Int) (hc1 : z1 ≤ 0) (hc2 : ¬ z2 ≤ 0) : SetsOrder_goal nn X z1 z2 z3 := by
  intro l0 A0 n0 c0 k A2 n2 c2 l2 A3 n3 c3 l3 A4 n4 c4 l4 w hk hn9 hkm hkt h9 h2 h3 h4 HXI HA HOf S2 S3 S4 E2 E3 E4 Z1 Z2 Z3 HEq
  have h9' : ¬ (9 : Int) < (X.length : Int) := by omega
  have h2' : ¬ (30 : Int) < (n2 : Int) := by omega
  have h3' : ¬ (30 : Int) < (n3 : Int) := by omega
  have h4' : ¬ (30 : Int) < (n4 : Int) := by omega
  have hw3 : wrap64 (k : Int) = (k : Int) := k_wrap k hk
  refine (callsIn_wide (n := 5)).1 ?_
  refine callsIn_of_wp_marks Try.func5 rfl trivial ?_ rfl
  simp only [Try.ntmps5, List.size_toArray, List.length_cons, List.length_nil, Nat.reduceAdd, Nat.reduceSub, Array.replicate_succ, Array.replicate_zero, List.push_toArray, List.append_toArray, List.nil_append, List.cons_append]
  gi_wp2_with (first
    | ((try refine ⟨trivial, ?_⟩); (try refine ⟨fun h => (by cases h), ?_⟩); gi_at_call 8; refine (callsIn_wide.2 HA.out).mono ?_; clear HA; rintro e W1 ⟨rfl, h1, hb⟩; have H1 := Lib.hid h1; have HB := Lib.hid hb; clear h1 hb; have T1 := Lib.hid True.intro)
    | (clear T1; (try refine ⟨trivial, ?_⟩); (try refine ⟨fun h => (by cases h), ?_⟩); gi_at_call 9; refine (callsIn_wide.2 (HOf.out W1 HB.out)).mono ?_; clear HOf; rintro e W2 ⟨v, rfl, hown, hb2⟩; obtain ⟨CS, kS, rfl, hs⟩ := Sl.own hown; have hca := own_cap hown; have hcb : ∀ x : Addr, CS = some x → x.block < W2.heap.size := (fun x hx => (by subst hx; exact (hown.lt _ rfl).2)); have HCa := Lib.hid hca; have HCb := Lib.hid hcb; have HBV := Lib.hid (show Below w.heap.size w (W2.alloc (.cells #[.slice CS X.length kS] 22)) from bel_al (HB.out.andThen hb2) _); have h11 := Boxed.new W2 22 (.slice CS X.length kS); have c11 := h11.cell; have H11 := Lib.hid h11; have H1V := Lib.hid ((boxed_keep H1.out hb2).alloc (.cells #[.slice CS X.length kS] 22)); have HSX := Lib.hid (hs.alloc (.cells #[.slice CS X.length kS] 22)); clear hown hb2 hs hca hcb h11; have T2 := Lib.hid True.intro)
    | (clear T2; (try refine ⟨trivial, ?_⟩); (try refine ⟨fun h => (by cases h), ?_⟩); gi_at_call 13; refine (callsIn_wide.2 (Compare_any l2 l3 A2 A3 n2 n3 c2 c3 _ E2.out E3.out (S2.out.keep HBV.out) (S3.out.keep HBV.out) (by omega))).mono ?_; rw [← Z1.out]; rintro e W3 ⟨rfl, rfl⟩; have T3 := Lib.hid True.intro)
    | (clear T3; (try refine ⟨trivial, ?_⟩); (try refine ⟨fun h => (by cases h), ?_⟩); gi_at_call 13; refine (callsIn_wide.2 (Compare_any l3 l4 A3 A4 n3 n4 c3 c4 _ E3.out E4.out (S3.out.keep HBV.out) (S4.out.keep HBV.out) (by omega))).mono ?_; rw [← Z2.out]; rintro e W3 ⟨rfl, rfl⟩; have T4 := Lib.hid True.intro)
    | (clear T4; (try refine ⟨trivial, ?_⟩); (try refine ⟨fun h => (by cases h), ?_⟩); gi_at_call 13; refine (callsIn_wide.2 (Compare_any l2 l3 A2 A3 n2 n3 c2 c3 _ E2.out E3.out (S2.out.keep HBV.out) (S3.out.keep HBV.out) (by omega))).mono ?_; rw [← Z1.out]; rintro e W3 ⟨rfl, rfl⟩; have T5 := Lib.hid True.intro)
    | (clear T5; (try refine ⟨trivial, ?_⟩); (try refine ⟨fun h => (by cases h), ?_⟩); gi_at_call 10; refine (callsIn_wide.2 (SameInts_any l2 l3 A2 A3 n2 n3 c2 c3 _ E2.out E3.out (S2.out.keep HBV.out) (S3.out.keep HBV.out) (by omega))).mono ?_; rw [HEq.out]; rintro e W5 ⟨rfl, hb5⟩; have HB5 := Lib.hid (HBV.out.andThen hb5); have H5 := Lib.hid (boxed_keep H1V.out hb5); have h115 := boxed_keep H11.out hb5; have c115 := (((h115.alloc (.cells #[.int .i64 (1 + (nn : Int))] 3)).alloc (.cells #[.int .i64 0] 3)).alloc (.cells #[.slice none 0 0] 22)).cell; have c125 := (((Boxed.new W5 3 (.int .i64 (1 + (nn : Int)))).alloc (.cells #[.int .i64 0] 3)).alloc (.cells #[.slice none 0 0] 22)).cell; have H115 := Lib.hid h115; have HSX5 := Lib.hid (HSX.out.keep hb5); have HZ5 := Lib.hid (show W2.heap.size + 1 ≤ W5.heap.size from (by have := hb5.size; simpa using this)); clear hb5 h115 c11 HSX H11 H1V hkm; have T6 := Lib.hid True.intro)
    | (clear T6; (try refine ⟨trivial, ?_⟩); (try refine ⟨fun h => (by cases h), ?_⟩); gi_at_call 25; refine (callsIn_wide.2 (Picks_any CS X.length kS _ _)).mono ?_; rintro e W6 ⟨rfl, rfl⟩; have T7 := Lib.hid True.intro)
    | fail)
  refine ⟨trivial, ?_⟩
  gi_wp2_with (first
    | (clear T4; (try refine ⟨trivial, ?_⟩); (try refine ⟨fun h => (by cases h), ?_⟩); gi_at_call 13; refine (callsIn_wide.2 (Compare_any l2 l3 A2 A3 n2 n3 c2 c3 _ E2.out E3.out (S2.out.keep HBV.out) (S3.out.keep HBV.out) (by omega))).mono ?_; rw [← Z1.out]; rintro e W3 ⟨rfl, rfl⟩; have T5 := Lib.hid True.intro)
    | (clear T5; (try refine ⟨trivial, ?_⟩); (try refine ⟨fun h => (by cases h), ?_⟩); gi_at_call 10; refine (callsIn_wide.2 (SameInts_any l2 l3 A2 A3 n2 n3 c2 c3 _ E2.out E3.out (S2.out.keep HBV.out) (S3.out.keep HBV.out) (by omega))).mono ?_; rw [HEq.out]; rintro e W5 ⟨rfl, hb5⟩; have HB5 := Lib.hid (HBV.out.andThen hb5); have H5 := Lib.hid (boxed_keep H1V.out hb5); have h115 := boxed_keep H11.out hb5; have c115 := (((h115.alloc (.cells #[.int .i64 (1 + (nn : Int))] 3)).alloc (.cells #[.int .i64 0] 3)).alloc (.cells #[.slice none 0 0] 22)).cell; have c125 := (((Boxed.new W5 3 (.int .i64 (1 + (nn : Int)))).alloc (.cells #[.int .i64 0] 3)).alloc (.cells #[.slice none 0 0] 22)).cell; have H115 := Lib.hid h115; have HSX5 := Lib.hid (HSX.out.keep hb5); have HZ5 := Lib.hid (show W2.heap.size + 1 ≤ W5.heap.size from (by have := hb5.size; simpa using this)); clear hb5 h115 c11 HSX H11 H1V hkm; have T6 := Lib.hid True.intro)
    | (clear T6; (try refine ⟨trivial, ?_⟩); (try refine ⟨fun h => (by cases h), ?_⟩); gi_at_call 25; refine (callsIn_wide.2 (Picks_any CS X.length kS _ _)).mono ?_; rintro e W6 ⟨rfl, rfl⟩; have T7 := Lib.hid True.intro)
    | fail)

  obtain ⟨w6, hw6⟩ : ∃ w6, (((((W5.alloc (.cells #[.int .i64 (1 + (nn : Int))] 3)).alloc (.cells #[.int .i64 0] 3)).alloc (.cells #[.slice none 0 0] 22)).alloc (.cells #[.slice CS X.length kS] 22)).alloc (.cells #[.int .i64 (1 + (nn : Int))] 3)) = w6 := ⟨_, rfl⟩
  obtain ⟨hsz, hbn, hbc, hbl, hbs, hbk, hb6⟩ := order_boxes W5 _ _ w6 hw6
  rw [hw6]
  clear hw6
  have HN := Lib.hid (show (1 + (nn : Int)) = ((nn + 1 : Nat) : Int) by omega)
  have HSz := Lib.hid hsz
  have hnn₁ : W5.heap.size + 5 ≤ w6.heap.size := by omega
  have HQ : Hid (∀ x : Addr, CS = some x → x.block < W5.heap.size ∨ W5.heap.size + 5 ≤ x.block) := fun x hx => .inl (by have h1 := HCb.out x hx; have h2 := HZ5.out; omega)
  have hgv := picks_gives (5 - 1) (W5.heap.size + 5) (fun q => q < W5.heap.size ∨ W5.heap.size + 5 ≤ q) (fun _ h => .inr h) X (1 + (nn : Int)) CS X.length kS (W5.heap.size + 4) (W5.heap.size + 3) w6 hbk.cell hbk.lt hbs.cell hbs.lt rfl (by omega) HCa.out.1 HCa.out.2 (HSX5.out.keep hb6) HQ.out hnn₁
  refine rangeFunc_one (fun x b => { b with tmps := b.tmps.setIfInBounds 15 (rv x) }) rfl (by omega) (gf := 39) (lb := #[.pointer (some ⟨W5.heap.size + 4, 0, none⟩), .pointer (some ⟨W5.heap.size + 3, 0, none⟩)]) rfl trivial (enters_of Try.func39 (by kernel_rfl) rfl)
    hgv kn_put Kq.trans (fun _ W l o o' _ hl ho _ => Kq.of_kept (Kept.putObj o' hl ho)) (Below.refl _ _)
    (fun pre W => ((Boxed W (W5.heap.size + 1) 3 (.int .i64 (pre.length : Int)) ∧ Boxed W (W5.heap.size + 2) 22 (lastV pre)) ∧ (Boxed W W5.heap.size 3 (.int .i64 (1 + (nn : Int))) ∧ LastOK (W5.heap.size + 5) (choices X (1 + (nn : Int))) pre W)) ∧ Below W5.heap.size W5 W) (fun _ _ _ => False)
    (OwnFrom.and (Own.from (fun s A B row hs hg hr => ⟨⟨boxed_own _ _ (fun pre : List Row => .int .i64 (pre.length : Int)) s A B row hs.1.1 hg hr, boxed_own _ _ lastV s A B row hs.1.2 hg hr⟩, boxed_own _ _ (fun _ => _) s A B row hs.2.1 hg hr, lastOK_own _ _ s A B row hs.2.2 hg hr⟩) _) (ownFrom_below (Nat.le_refl _) (by omega)))
    (fun c s A B row hs _ _ => hs.elim) ⟨⟨⟨hbc, hbl⟩, hbn, fun x hx => by cases hx⟩, hb6⟩ ?assign ?body ?done ?stop
  all_goals clear hsz hnn₁ hgv
  case assign =>
    intro l x W K hK
    gi_wp2
    exact hK
  case body =>
    rintro l pre ⟨D, d, p⟩ W ⟨⟨⟨hc, hla⟩, hbn', hlo⟩, hb⟩ hkn hlt
    have hrow := hkn.2
    rw [HN.out] at hrow
    obtain ⟨hi1, hi2, hi3, hi4⟩ := order_row HXI.out hrow
    simp only [] at hi1 hi2 hi3
    obtain ⟨q, hq⟩ : ∃ q, q = pre.length := ⟨_, rfl⟩
    have hsp : Sl W 1 D p.length (p.map (Value.int .i64)) := Sl.of_own hkn.1
    have hsx := (HSX5.out.keep hb)
    have hq0 : q < 1000000000 := by
      have h1 : pre.length < (choices X (1 + (nn : Int))).length := hlt
      rw [HN.out, choices_any] at h1
      have h2 := combos_many (nn + 1) X
      have h3 : 2 ^ X.length ≤ 2 ^ 9 := Nat.pow_le_pow_right (by omega) h9
      omega
    rw [← hq] at hc
    have H115W := boxed_keep H115.out hb
    have ck := hc.cell
    have cn := hbn'.cell
    have cl := hla.cell
    have cs := H115W.cell
    have HR1 := Lib.hid (decide_eq_true hi1)
    have HR2 := Lib.hid (decide_eq_true hi2)
    have HSp := Lib.hid hsp
    have HSx := Lib.hid hsx
    have HC := Lib.hid hc
    have HLa := Lib.hid hla
    have HLo := Lib.hid hlo
    have HBn := Lib.hid hbn'
    have HBW := Lib.hid hb
    have HKn := Lib.hid hkn
    have HQq := Lib.hid hq
    have HI4 := Lib.hid hi4
    have HS115 := Lib.hid H115W
    have hi3' : (p.length : Int) = (1 + (nn : Int)) := by have : p.length = nn + 1 := hi3; omega
    have hpl : p.length ≤ 9 := by have : p.length = nn + 1 := hi3; omega
    have hwi : IntKind.i64.wrap ((q : Int) + 1) = ((q + 1 : Nat) : Int) := by rw [IntKind.wrap_i64]; omega
    have hlt1 : (1 : Nat) ≤ 5 - 1 - 1 := by omega
    clear hc hla hlo hbn' hb hkn hq hi1 hi2 hi3 hi4 hrow hlt hsp hsx H115W hbn hbc hbl hbs hbk hb6
    have HSt := Lib.hid (show ∀ W8, Below W.heap.size W W8 → Boxed (W8.setCell ⟨W5.heap.size + 1 + 1, 0, none⟩ (.slice D p.length d)) (W5.heap.size + 1) 3 (.int .i64 (q : Int)) from fun W8 h8 => Boxed.other (boxed_keep HC.out h8) (by omega) _)
    have HFin := Lib.hid (show ∀ (W8 : World) (a : Act), Below W.heap.size W W8 → ownPostK (Kq (fun q => q < W5.heap.size ∨ W5.heap.size + 5 ≤ q) (D, d, p)) (fun pre W => ((Boxed W (W5.heap.size + 1) 3 (.int .i64 (pre.length : Int)) ∧ Boxed W (W5.heap.size + 2) 22 (lastV pre)) ∧ (Boxed W W5.heap.size 3 (.int .i64 (1 + (nn : Int))) ∧ LastOK (W5.heap.size + 5) (choices X (1 + (nn : Int))) pre W)) ∧ Below W5.heap.size W5 W) (fun _ _ _ => False) (pre ++ [(D, d, p)]) W .normal a ((W8.setCell ⟨W5.heap.size + 1 + 1, 0, none⟩ (.slice D p.length d)).setCell ⟨W5.heap.size + 1, 0, none⟩ (.int .i64 ((q + 1 : Nat) : Int))) from fun W8 a h8 => by
      refine ⟨((ko_below h8).trans (KeepsOthers.setCell _ _ _)).trans (KeepsOthers.setCell _ _ _), Kq.of_kept (((Kept.of_below h8).trans (Kept.set _ 0 _ (by omega))).trans (Kept.set _ 0 _ (by omega))), ⟨⟨?_, ?_⟩, ?_, ?_⟩, ((HBW.out.andThen h8).setCell (p := ⟨W5.heap.size + 1 + 1, 0, none⟩) (by show W5.heap.size ≤ W5.heap.size + 1 + 1; omega) _).setCell (p := ⟨W5.heap.size + 1, 0, none⟩) (by show W5.heap.size ≤ W5.heap.size + 1; omega) _⟩
      · rw [List.length_append, ← HQq.out]
        exact (Boxed.other (boxed_keep HC.out h8) (by omega) _).set _
      · rw [lastV_snoc]
        exact Boxed.other ((boxed_keep HLa.out h8).set _) (by omega) _
      · exact Boxed.other (Boxed.other (boxed_keep HBn.out h8) (by omega) _) (by omega) _
      · exact lastOK_snoc ⟨own_far (own_far (own_below HKn.out.1 (fun g hg => (HKn.out.1.lt g hg).2) h8) (by omega) _) (by omega) _, HKn.out.2⟩)
    simp only [rv]
    rcases List.eq_nil_or_concat pre with hpre | ⟨pre', x0, hpre⟩
    · have hq00 : ¬ (0 : Int) < (q : Int) := by rw [HQq.out, hpre]; simp
      clear hpre
      gi_wp2_with (first
      | ((try refine ⟨trivial, ?_⟩); (try refine ⟨fun h => (by cases h), ?_⟩); gi_at_call 12; refine (CallsIn.inRound l (callsIn_wide.2 (Right_any p D p.length d W rfl HSp.out (by omega)))).mono ?_; rw [HR1.out]; rintro e W7 ⟨rfl, hb7⟩; have HB7 := Lib.hid hb7; have c7s := (boxed_keep HS115.out hb7).cell; clear hb7)
      | ((try refine ⟨trivial, ?_⟩); (try refine ⟨fun h => (by cases h), ?_⟩); gi_at_call 24; refine (CallsIn.inRound l (callsIn_wide.2 (Within_any p X D CS _ d _ kS W7 rfl (by omega) (HSp.out.keep HB7.out) rfl (by omega) HXI.out (HSx.out.keep HB7.out)))).mono ?_; rw [HR2.out]; rintro e W8 ⟨rfl, hb8⟩; have HB8 := Lib.hid (HB7.out.andThen hb8); have c8n := (boxed_keep HBn.out HB8.out).cell; have c8c := (boxed_keep HC.out HB8.out).cell; have c8l : W8.cell? ⟨W5.heap.size + 1 + 1, 0, none⟩ = _ := (boxed_keep HLa.out HB8.out).cell; have f8l : W8.frozen? ⟨W5.heap.size + 1 + 1, 0, none⟩ = false := (boxed_keep HLa.out HB8.out).frozen; have c9c := (HSt.out W8 HB8.out).cell; have f9c := (HSt.out W8 HB8.out).frozen; clear hb8)
      | fail)
      refine ⟨trivial, ?_⟩
      gi_wp2
      exact HFin.out W8 _ HB8.out
    · have hq01 : (0 : Int) < (q : Int) := by rw [HQq.out, hpre]; simp
      obtain ⟨C0, k0, p0⟩ := x0
      have hl0 : lastV pre = .slice C0 p0.length k0 := by rw [hpre, List.concat_eq_append, lastV_snoc]; rfl
      have hk0 := HLo.out (C0, k0, p0) (by rw [hpre, List.concat_eq_append]; simp)
      rw [hl0] at HLa cl
      have HS0 := Lib.hid (show Sl W 1 C0 p0.length (p0.map (Value.int .i64)) from Sl.of_own hk0.1)
      have HCm := Lib.hid (HI4.out p0 (pre.length - 1) (by rw [hpre]; simp) (by rw [← HN.out]; have h := hk0.2; rw [List.length_take, Nat.min_eq_left (by omega)] at h; exact h))
      have hp09 : p0.length ≤ 9 := by
        have h := hk0.2
        rw [HN.out, choices_any] at h
        have := combos_el _ _ _ (List.mem_of_getElem? h)
        have h3 : p0.length = nn + 1 := this
        omega
      clear hpre hk0 hl0
      gi_wp2_with (first
      | ((try refine ⟨trivial, ?_⟩); (try refine ⟨fun h => (by cases h), ?_⟩); gi_at_call 12; refine (CallsIn.inRound l (callsIn_wide.2 (Right_any p D p.length d W rfl HSp.out (by omega)))).mono ?_; rw [HR1.out]; rintro e W7 ⟨rfl, hb7⟩; have HB7 := Lib.hid hb7; have c7s := (boxed_keep HS115.out hb7).cell; clear hb7)
      | ((try refine ⟨trivial, ?_⟩); (try refine ⟨fun h => (by cases h), ?_⟩); gi_at_call 24; refine (CallsIn.inRound l (callsIn_wide.2 (Within_any p X D CS _ d _ kS W7 rfl (by omega) (HSp.out.keep HB7.out) rfl (by omega) HXI.out (HSx.out.keep HB7.out)))).mono ?_; rw [HR2.out]; rintro e W8 ⟨rfl, hb8⟩; have HB8 := Lib.hid (HB7.out.andThen hb8); have c8n := (boxed_keep HBn.out HB8.out).cell; have c8c := (boxed_keep HC.out HB8.out).cell; have c8l : W8.cell? ⟨W5.heap.size + 1 + 1, 0, none⟩ = _ := (boxed_keep HLa.out HB8.out).cell; have f8l : W8.frozen? ⟨W5.heap.size + 1 + 1, 0, none⟩ = false := (boxed_keep HLa.out HB8.out).frozen; have c9c := (HSt.out W8 HB8.out).cell; have f9c := (HSt.out W8 HB8.out).frozen; clear hb8)
      | ((try refine ⟨trivial, ?_⟩); (try refine ⟨fun h => (by cases h), ?_⟩); gi_at_call 13; refine (CallsIn.inRound l (callsIn_wide.2 (Compare_any p0 p C0 D _ _ k0 d W8 rfl rfl (HS0.out.keep HB8.out) (HSp.out.keep HB8.out) (by omega)))).mono ?_; rw [HCm.out]; rintro e W9 ⟨rfl, rfl⟩)
      | fail)
      exact HFin.out W8 _ HB8.out
  case done =>
    rintro D1 xs W hD hS ⟨⟨⟨hc, _⟩, hn, _⟩, hb⟩ hK
    rw [hS] at hc
    have HN1 := Lib.hid hc
    have HNn := Lib.hid hn
    have HBW := Lib.hid hb
    have HK1 := Lib.hid hK
    have HD1 := Lib.hid hD
    have h11W := boxed_keep H115.out hb
    have HS11 := Lib.hid h11W
    have HSXW := Lib.hid (HSX5.out.keep hb)
    have HRW := Lib.hid (boxed_keep H5.out hb)
    have HLeW := Lib.hid (hb.size)
    have c11a := (h11W.alloc (.cells #[.int .i64 0] 3)).cell
    clear hc hn hb hK hD hS h11W hbn hbc hbl hbs hbk hb6 c115 c125
    gi_wp2_with ((try refine ⟨trivial, ?_⟩); (try refine ⟨fun h => (by cases h), ?_⟩); gi_at_call 25; refine (callsIn_wide.2 (Picks_any CS X.length kS _ _)).mono ?_; rintro e W6 ⟨rfl, rfl⟩)
    obtain ⟨v6, hv6⟩ : ∃ v6, ((W.alloc (.cells #[.int .i64 0] 3)).alloc (.cells #[.slice CS X.length kS] 22)).alloc (.cells #[.int .i64 0] 3) = v6 := ⟨_, rfl⟩
    obtain ⟨hsz, hbc, hbs, hbk, hb6⟩ := two_boxes W 0 _ v6 hv6
    rw [hv6]
    clear hv6
    have HQ2 : Hid (∀ x : Addr, CS = some x → x.block < W.heap.size ∨ W.heap.size + 3 ≤ x.block) := fun x hx => .inl (by have h1 := HCb.out x hx; have h2 := HZ5.out; have h3 := HLeW.out; omega)
    have hgv := picks_gives (5 - 1) (W.heap.size + 3) (fun q => q < W.heap.size ∨ W.heap.size + 3 ≤ q) (fun _ h => .inr h) X 0 CS X.length kS (W.heap.size + 2) (W.heap.size + 1) v6 hbk.cell hbk.lt hbs.cell hbs.lt rfl (by omega) HCa.out.1 HCa.out.2 (HSXW.out.keep hb6) HQ2.out (by omega)
    refine rangeFunc_one (fun x b => { b with tmps := b.tmps.setIfInBounds 17 (rv x) }) rfl (by omega) (gf := 39) (lb := #[.pointer (some ⟨W.heap.size + 2, 0, none⟩), .pointer (some ⟨W.heap.size + 1, 0, none⟩)]) rfl trivial (enters_of Try.func39 (by kernel_rfl) rfl)
      hgv kn_put Kq.trans (fun _ W l o o' _ hl ho _ => Kq.of_kept (Kept.putObj o' hl ho)) (Below.refl _ _)
      (fun pre W' => Boxed W' W.heap.size 3 (.int .i64 (pre.length : Int)) ∧ Below W.heap.size W W') (fun _ _ _ => False)
      (OwnFrom.and (Own.from (boxed_own _ _ (fun pre : List Row => .int .i64 (pre.length : Int))) _) (ownFrom_below (Nat.le_refl _) (by omega)))
      (fun c s A B row hs _ _ => hs.elim) ⟨hbc, hb6⟩ ?assign2 ?body2 ?done2 ?stop2
    all_goals have HSz2 := Lib.hid hsz
    all_goals clear hsz hgv
    case assign2 =>
      intro l x W K hK
      gi_wp2
      exact hK
    case body2 =>
      rintro l pre ⟨D, d, p⟩ W' ⟨hc, hb⟩ ⟨hown, hgp⟩ hlt
      rw [choices_zero] at hgp hlt
      have hp0 : pre.length = 0 := by have h : pre.length < 1 := hlt; omega
      rw [hp0] at hgp hc
      obtain rfl : p = [] := (Option.some.inj hgp).symm
      have ck := hc.cell
      have fk := hc.frozen
      have HC := Lib.hid hc
      have HB2 := Lib.hid hb
      have HP0 := Lib.hid hp0
      clear hc hb hown hgp hlt hp0
      rw [show rv ((D, d, []) : Row) = .slice D 0 d from rfl]
      gi_wp2
      refine ⟨KeepsOthers.setCell _ _ _, Kq.of_kept (Kept.set W' 0 _ (by omega)), ?_, HB2.out.setCell (p := ⟨W.heap.size, 0, none⟩) (Nat.le_refl _) _⟩
      rw [List.length_append, HP0.out]
      exact HC.out.set _
    case done2 =>
      rintro D2 xs2 V hD2 hS2 ⟨hc2, hb2⟩ hK2
      rw [choices_zero] at hS2
      rw [show xs2.length = 1 from hS2] at hc2
      have HKs := Lib.hid (show ∀ D ∈ [D2, D1], V.heap[D]? = some (.deferred (some [])) from fun D h => by
        rcases List.mem_cons.1 h with rfl | h
        · exact hK2
        · obtain rfl := List.mem_singleton.1 h
          exact (hb2.block D (Array.getElem?_eq_some_iff.1 HK1.out).1).trans HK1.out)
      have HNd := Lib.hid (show [D2, D1].Nodup from by
        have h1 := (Array.getElem?_eq_some_iff.1 HK1.out).1
        have h2 := HSz2.out
        simp
        omega)
      have HDs := Lib.hid (show ∀ D ∈ [D2, D1], w.heap.size ≤ D from fun D h => by
        have h1 := HB5.out.size
        have h2 := HD1.out
        have h3 := HSz.out
        have h4 := HLeW.out
        have h5 := HSz2.out
        rcases List.mem_cons.1 h with rfl | h
        · omega
        · obtain rfl := List.mem_singleton.1 h
          omega)
      have HRV := Lib.hid (boxed_keep HRW.out hb2)
      have hn1V := boxed_keep HN1.out hb2
      have hs11V := boxed_keep HS11.out hb2
      have HBVw := Lib.hid (HB5.out.andThen (HBW.out.andThen hb2))
      have HSXV := Lib.hid (HSXW.out.keep hb2)
      have HNV := Lib.hid (boxed_keep HNn.out hb2)
      have HN1V := Lib.hid hn1V
      have HS11V := Lib.hid hs11V
      have HC2 := Lib.hid hc2
      have HLeV := Lib.hid hb2.size
      have cN := hn1V.cell
      have cS := hs11V.cell
      have cO := hc2.cell
      have cR := HRV.out.cell
      have fR := HRV.out.frozen
      clear hD2 hS2 hc2 hb2 hK2 hn1V hs11V hbc hbs hbk hb6 c11a
      rcases X with _ | ⟨x, T⟩
      · have h0 : (choices ([] : List Int) (1 + (nn : Int))).length = 0 := by rw [HN.out, choices_any]; rfl
        rw [h0] at cN
        gi_wp2
        exact order_end (Ds := [D2, D1]) rfl rfl HKs.out HNd.out HRV.out HBVw.out HDs.out
      · obtain ⟨cb, co, rfl, _⟩ := HSXV.out.at_ (show 0 < (x :: T).length by simp)
        have hTl : T.length ≤ 8 := by simpa using h9
        have hca1 : T.length + 1 ≤ kS := by simpa using HCa.out.1
        have hca2 := HCa.out.2
        obtain ⟨A2', hA2⟩ : ∃ A2' : Option Addr, A2' = if kS = 1 then some ⟨cb, co, none⟩ else some ⟨cb, co + 1, none⟩ := ⟨_, rfl⟩
        have HA2 := Lib.hid hA2
        have hT0 : ¬ ((T.length : Int) + 1 = 0) := by omega
        have hT0' : (((T.length : Int) + 1) == 0) = false := by rw [beq_eq_false_iff_ne]; omega
        have hT1 : (1 : Int) ≤ (T.length : Int) + 1 := by omega
        have hTk : (T.length : Int) + 1 ≤ (kS : Int) := by omega
        have h1k : (1 : Int) ≤ (kS : Int) := by omega
        have hwn : IntKind.i64.wrap (1 + (nn : Int) - 1) = (nn : Int) := nn_wrap1 nn hn9
        have hs3 := (HS11V.out.alloc (.cells #[.int .i64 0] 3)).alloc (.cells #[.int .i64 0] 3)
        have hn3 := (HNV.out.alloc (.cells #[.int .i64 0] 3)).alloc (.cells #[.int .i64 0] 3)
        rw [List.length_cons] at hs3
        have cS3 := hs3.cell
        have cN3 := hn3.cell
        rw [List.length_cons] at cS
        have HS3 := Lib.hid hs3
        have HN3 := Lib.hid hn3
        clear hs3 hn3
        gi_wp2_with fail
        refine wpIn_onlyN ?_
        by_cases hk1 : kS = 1
        · have hT00 : T = [] := List.eq_nil_of_length_eq_zero (by omega)
          have HTl := Lib.hid (show Sl V 1 (some ⟨cb, co, none⟩) T.length (T.map (Value.int .i64)) by rw [hT00]; exact Sl.nil _ _ _)
          clear hT00
          gi_region_with (refine ⟨trivial, ?_⟩; gi_at_call 25; refine (callsIn_wide.2 (Picks_any _ _ _ _ _)).mono ?_; rintro e W6 ⟨rfl, rfl⟩)
          all_goals (
            refine onlyN_normal ?_
            gi_wp2_with fail
            obtain ⟨v8, hv8⟩ : ∃ v8, ((((V.alloc (.cells #[.int .i64 0] 3)).alloc (.cells #[.int .i64 0] 3)).alloc (.cells #[.slice (some ⟨cb, co, none⟩) T.length (0)] 22)).alloc (.cells #[.int .i64 (nn : Int)] 3)).drew = v8 := ⟨_, rfl⟩
            obtain ⟨hsz, hbc, hbd, hbs, hbk, hb8⟩ := four_boxes V _ _ v8 hv8
            rw [hv8]
            clear hv8
            have hTq : ∀ y : Addr, ((some ⟨cb, co, none⟩) : Option Addr) = some y → y.block < V.heap.size ∨ V.heap.size + 4 ≤ y.block := fun y hy => .inl (by cases hy; have h1 := HCb.out _ rfl; have h2 := HZ5.out; have h3 := HLeW.out; have h4 := HLeV.out; simp at h1 ⊢; omega)
            have hgv := picks_gives (5 - 1) (V.heap.size + 4) (fun q => q < V.heap.size ∨ V.heap.size + 4 ≤ q) (fun _ h => .inr h) T (nn : Int) (some ⟨cb, co, none⟩) T.length (0) (V.heap.size + 3) (V.heap.size + 2) v8 hbk.cell hbk.lt hbs.cell hbs.lt rfl (by omega) (by omega) (by omega) (HTl.out.keep hb8) hTq (by omega)
            refine rangeFunc_one (fun x b => b) rfl (by omega) (gf := 39) (lb := #[.pointer (some ⟨V.heap.size + 3, 0, none⟩), .pointer (some ⟨V.heap.size + 2, 0, none⟩)]) rfl trivial (enters_of Try.func39 (by kernel_rfl) rfl)
              hgv kn_put Kq.trans (fun _ W l o o' _ hl ho _ => Kq.of_kept (Kept.putObj o' hl ho)) (Below.refl _ _)
              (fun pre W' => (Boxed W' V.heap.size 3 (.int .i64 (pre.length : Int)) ∧ Boxed W' (V.heap.size + 1) 3 (.int .i64 0)) ∧ Below V.heap.size V W') (fun _ _ _ => False)
              (OwnFrom.and (Own.from (fun s A B row hs hg hr => ⟨boxed_own _ _ (fun pre : List Row => .int .i64 (pre.length : Int)) s A B row hs.1 hg hr, boxed_own _ _ (fun _ => _) s A B row hs.2 hg hr⟩) _) (ownFrom_below (Nat.le_refl _) (by omega)))
              (fun c s A B row hs _ _ => hs.elim) ⟨⟨hbc, hbd⟩, hb8⟩ ?_ ?_ ?_ ?_
            · intro l x W' K hK
              gi_wp2
              exact hK
            · rintro l pre x W' ⟨⟨hc, hd⟩, hb⟩ hkn hlt
              have hq0 : pre.length < 1000000000 := by
                rw [choices_any] at hlt
                have h2 := combos_many nn T
                have h3 : 2 ^ T.length ≤ 2 ^ 8 := Nat.pow_le_pow_right (by omega) hTl
                omega
              obtain ⟨q, hq⟩ : ∃ q, q = pre.length := ⟨_, rfl⟩
              rw [← hq] at hc hq0
              have ck := hc.cell
              have fk := hc.frozen
              have HC := Lib.hid hc
              have HD := Lib.hid hd
              have HBb := Lib.hid hb
              have HQ := Lib.hid hq
              have hwi : IntKind.i64.wrap ((q : Int) + 1) = ((q + 1 : Nat) : Int) := by rw [IntKind.wrap_i64]; omega
              clear hc hd hb hq hkn hlt hgv hbc hbd hbs hbk hb8
              gi_wp2
              refine ⟨KeepsOthers.setCell _ _ _, Kq.of_kept (Kept.set W' 0 _ (by omega)), ⟨?_, Boxed.other HD.out (by omega) _⟩, HBb.out.setCell (p := ⟨V.heap.size, 0, none⟩) (Nat.le_refl _) _⟩
              rw [List.length_append, ← HQ.out]
              exact HC.out.set _
            · rintro D3 xs3 U hD3 hS3 ⟨⟨hc3, hd3⟩, hb3⟩ hK3
              rw [hS3] at hc3
              have HU1 := Lib.hid hc3
              have HU2 := Lib.hid hd3
              have HBU := Lib.hid hb3
              have HK3 := Lib.hid hK3
              have HD3 := Lib.hid hD3
              have HSz3 := Lib.hid hsz
              have hsU := boxed_keep HS11V.out hb3
              rw [List.length_cons] at hsU
              have hnU := boxed_keep HNV.out hb3
              have cSU := hsU.cell
              have cNU := hnU.cell
              have HTU := Lib.hid (HTl.out.keep hb3)
              have HLeU := Lib.hid hb3.size
              clear hc3 hd3 hb3 hK3 hD3 hS3 hsz hgv hbc hbd hbs hbk hb8 hsU hnU cS cN cO cR fR cS3 cN3
              gi_wp2_with fail
              refine wpIn_onlyN ?_
              gi_region_with (refine ⟨trivial, ?_⟩; gi_at_call 25; refine (callsIn_wide.2 (Picks_any _ _ _ _ _)).mono ?_; rintro e W6 ⟨rfl, rfl⟩)
              all_goals (
                refine onlyN_normal ?_
                gi_wp2_with fail
                obtain ⟨v9, hv9⟩ : ∃ v9, ((U.alloc (.cells #[.slice (some ⟨cb, co, none⟩) T.length (0)] 22)).alloc (.cells #[.int .i64 (1 + (nn : Int))] 3)).drew = v9 := ⟨_, rfl⟩
                obtain ⟨hsz4, hbs4, hbk4, hb9⟩ := pair_boxes U _ _ v9 hv9
                rw [hv9]
                clear hv9
                have hTq4 : ∀ y : Addr, (some ⟨cb, co, none⟩ : Option Addr) = some y → y.block < V.heap.size + 1 ∨ V.heap.size + 2 ≤ y.block := fun y hy => .inl (by cases hy; have h1 := HCb.out _ rfl; have h2 := HZ5.out; have h3 := HLeW.out; have h4 := HLeV.out; simp at h1 ⊢; omega)
                have hU4 : V.heap.size + 4 ≤ U.heap.size := by have h1 := HSz3.out; have h2 := HD3.out; have h3 := (Array.getElem?_eq_some_iff.1 HK3.out).1; omega
                have hD3U : D3 < U.heap.size := (Array.getElem?_eq_some_iff.1 HK3.out).1
                have hgv4 := picks_gives (5 - 1) (U.heap.size + 2) (fun q => q < V.heap.size + 1 ∨ V.heap.size + 2 ≤ q) (fun _ h => .inr (by omega)) T (1 + (nn : Int)) (some ⟨cb, co, none⟩) T.length (0) (U.heap.size + 1) U.heap.size v9 hbk4.cell hbk4.lt hbs4.cell hbs4.lt rfl (by omega) (by omega) (by omega) (HTU.out.keep hb9) hTq4 (by omega)
                refine rangeFunc_one (fun x b => b) rfl (by omega) (gf := 39) (lb := #[.pointer (some ⟨U.heap.size + 1, 0, none⟩), .pointer (some ⟨U.heap.size, 0, none⟩)]) rfl trivial (enters_of Try.func39 (by kernel_rfl) rfl)
                  hgv4 kn_put Kq.trans (fun _ W l o o' _ hl ho _ => Kq.of_kept (Kept.putObj o' hl ho)) (Below.refl _ _)
                  (fun pre W' => (Boxed W' (V.heap.size + 1) 3 (.int .i64 (pre.length : Int)) ∧ W'.heap[D3]? = some (.deferred (some []))) ∧ Below (V.heap.size + 1) U W') (fun _ _ _ => False)
                  (OwnFrom.and (OwnFrom.and (Own.from (boxed_own _ _ (fun pre : List Row => .int .i64 (pre.length : Int))) _) (mark_own D3 _ (by omega))) (ownFrom_below (by omega) (by omega)))
                  (fun c s A B row hs _ _ => hs.elim) ⟨⟨boxed_keep HU2.out hb9, (hb9.block D3 hD3U).trans HK3.out⟩, hb9.mono (by omega)⟩ ?_ ?_ ?_ ?_
                · intro l x W' K hK
                  gi_wp2
                  exact hK
                · rintro l pre x W' ⟨⟨hc, hm⟩, hb⟩ hkn hlt
                  have hq0 : pre.length < 1000000000 := by
                    rw [HN.out, choices_any] at hlt
                    have h2 := combos_many (nn + 1) T
                    have h3 : 2 ^ T.length ≤ 2 ^ 8 := Nat.pow_le_pow_right (by omega) hTl
                    omega
                  obtain ⟨q, hq⟩ : ∃ q, q = pre.length := ⟨_, rfl⟩
                  rw [← hq] at hc hq0
                  have ck := hc.cell
                  have fk := hc.frozen
                  have HC := Lib.hid hc
                  have HM3 := Lib.hid hm
                  have HBb := Lib.hid hb
                  have HQ := Lib.hid hq
                  have hwi : IntKind.i64.wrap ((q : Int) + 1) = ((q + 1 : Nat) : Int) := by rw [IntKind.wrap_i64]; omega
                  clear hc hm hb hq hkn hlt hgv4 hbs4 hbk4 hb9
                  gi_wp2
                  refine ⟨KeepsOthers.setCell _ _ _, Kq.of_kept (Kept.set W' 0 _ (by omega)), ⟨?_, (KeepsOthers.setCell _ _ _).same D3 _ HM3.out rfl⟩, HBb.out.setCell (p := ⟨V.heap.size + 1, 0, none⟩) (Nat.le_refl _) _⟩
                  rw [List.length_append, ← HQ.out]
                  exact HC.out.set _
                · rintro D4 xs4 Y hD4 hS4 ⟨⟨hc4, hm3⟩, hb4⟩ hK4
                  rw [hS4] at hc4
                  have hsum : (choices (x :: T) (1 + (nn : Int))).length = (choices T (nn : Int)).length + (choices T (1 + (nn : Int))).length := by
                    have h := choices_cons x T nn
                    rw [show (nn : Int) + 1 = 1 + (nn : Int) from Int.add_comm _ _] at h
                    exact h
                  have hl1 : (choices T (nn : Int)).length ≤ 256 := by
                    rw [choices_any]
                    have h2 := combos_many nn T
                    have h3 : 2 ^ T.length ≤ 2 ^ 8 := Nat.pow_le_pow_right (by omega) hTl
                    omega
                  have hl2 : (choices T (1 + (nn : Int))).length ≤ 256 := by
                    rw [HN.out, choices_any]
                    have h2 := combos_many (nn + 1) T
                    have h3 : 2 ^ T.length ≤ 2 ^ 8 := Nat.pow_le_pow_right (by omega) hTl
                    omega
                  have hC := boxed_below (boxed_keep HN1V.out HBU.out) hb4 (by have := HN1V.out.lt; omega)
                  have hW := boxed_below HU1.out hb4 (Nat.lt_succ_self _)
                  have hO := boxed_below (boxed_keep HC2.out HBU.out) hb4 (by have := HC2.out.lt; omega)
                  have hR := boxed_below (boxed_keep HRV.out HBU.out) hb4 (by have := HRV.out.lt; omega)
                  generalize (choices (x :: T) (1 + (nn : Int))).length = N1 at hsum hC
                  generalize (choices T (nn : Int)).length = a at hsum hl1 hW
                  generalize (choices T (1 + (nn : Int))).length = b at hsum hl2 hc4
                  have hwr : IntKind.i64.wrap ((a : Int) + (b : Int)) = (N1 : Int) := by rw [IntKind.wrap_i64]; omega
                  have cC := hC.cell
                  have cW := hW.cell
                  have cO := hO.cell
                  have cX := hc4.cell
                  have cR := hR.cell
                  have fR := hR.frozen
                  have HRY := Lib.hid hR
                  have h1V : D2 < V.heap.size := (Array.getElem?_eq_some_iff.1 (HKs.out D2 (List.mem_cons_self ..))).1
                  have h2V : D1 < V.heap.size := (Array.getElem?_eq_some_iff.1 (HKs.out D1 (List.mem_cons_of_mem _ (List.mem_cons_self ..)))).1
                  have HKY := Lib.hid (show ∀ D ∈ [D4, D3, D2, D1], Y.heap[D]? = some (.deferred (some [])) from fun D h => by
                    rcases List.mem_cons.1 h with rfl | h
                    · exact hK4
                    · rcases List.mem_cons.1 h with rfl | h
                      · exact hm3
                      · have hlt : D < V.heap.size := by
                          rcases List.mem_cons.1 h with rfl | h
                          · exact h1V
                          · obtain rfl := List.mem_singleton.1 h
                            exact h2V
                        exact (hb4.block D (by omega)).trans ((HBU.out.block D hlt).trans (HKs.out D h)))
                  have HNdY := Lib.hid (show [D4, D3, D2, D1].Nodup from by
                    have h5 := HNd.out
                    have h6 := HD3.out
                    have h7 := HSz3.out
                    simp at h5 ⊢
                    omega)
                  have HDY := Lib.hid (show ∀ D ∈ [D4, D3, D2, D1], w.heap.size ≤ D from fun D h => by
                    have h5 := HBVw.out.size
                    have h6 := HD3.out
                    have h7 := HSz3.out
                    rcases List.mem_cons.1 h with rfl | h
                    · omega
                    · rcases List.mem_cons.1 h with rfl | h
                      · omega
                      · exact HDs.out D h)
                  have HBY := Lib.hid ((HBVw.out.andThen HBU.out).trans (hb4.mono (by have := HBVw.out.size; omega)))
                  clear hC hW hO hR hc4 hm3 hb4 hK4 hD4 hS4 hgv4 hbs4 hbk4 hb9 cSU cNU
                  gi_wp2
                  exact order_end (Ds := [D4, D3, D2, D1]) rfl rfl HKY.out HNdY.out HRY.out HBY.out HDY.out
                · rintro D c pre W _ _ h _
                  exact h.elim)
            · rintro D c pre W _ _ h _
              exact h.elim)
        · have HTl := Lib.hid (show Sl V 1 (some ⟨cb, co + 1, none⟩) T.length (T.map (Value.int .i64)) by have h := HSXV.out.drop (k := 1) (by simp); simpa using h)
          gi_region_with (refine ⟨trivial, ?_⟩; gi_at_call 25; refine (callsIn_wide.2 (Picks_any _ _ _ _ _)).mono ?_; rintro e W6 ⟨rfl, rfl⟩)
          all_goals (
            refine onlyN_normal ?_
            gi_wp2_with fail
            obtain ⟨v8, hv8⟩ : ∃ v8, ((((V.alloc (.cells #[.int .i64 0] 3)).alloc (.cells #[.int .i64 0] 3)).alloc (.cells #[.slice (some ⟨cb, co + 1, none⟩) T.length (kS - 1)] 22)).alloc (.cells #[.int .i64 (nn : Int)] 3)).drew = v8 := ⟨_, rfl⟩
            obtain ⟨hsz, hbc, hbd, hbs, hbk, hb8⟩ := four_boxes V _ _ v8 hv8
            rw [hv8]
            clear hv8
            have hTq : ∀ y : Addr, ((some ⟨cb, co + 1, none⟩) : Option Addr) = some y → y.block < V.heap.size ∨ V.heap.size + 4 ≤ y.block := fun y hy => .inl (by cases hy; have h1 := HCb.out _ rfl; have h2 := HZ5.out; have h3 := HLeW.out; have h4 := HLeV.out; simp at h1 ⊢; omega)
            have hgv := picks_gives (5 - 1) (V.heap.size + 4) (fun q => q < V.heap.size ∨ V.heap.size + 4 ≤ q) (fun _ h => .inr h) T (nn : Int) (some ⟨cb, co + 1, none⟩) T.length (kS - 1) (V.heap.size + 3) (V.heap.size + 2) v8 hbk.cell hbk.lt hbs.cell hbs.lt rfl (by omega) (by omega) (by omega) (HTl.out.keep hb8) hTq (by omega)
            refine rangeFunc_one (fun x b => b) rfl (by omega) (gf := 39) (lb := #[.pointer (some ⟨V.heap.size + 3, 0, none⟩), .pointer (some ⟨V.heap.size + 2, 0, none⟩)]) rfl trivial (enters_of Try.func39 (by kernel_rfl) rfl)
              hgv kn_put Kq.trans (fun _ W l o o' _ hl ho _ => Kq.of_kept (Kept.putObj o' hl ho)) (Below.refl _ _)
              (fun pre W' => (Boxed W' V.heap.size 3 (.int .i64 (pre.length : Int)) ∧ Boxed W' (V.heap.size + 1) 3 (.int .i64 0)) ∧ Below V.heap.size V W') (fun _ _ _ => False)
              (OwnFrom.and (Own.from (fun s A B row hs hg hr => ⟨boxed_own _ _ (fun pre : List Row => .int .i64 (pre.length : Int)) s A B row hs.1 hg hr, boxed_own _ _ (fun _ => _) s A B row hs.2 hg hr⟩) _) (ownFrom_below (Nat.le_refl _) (by omega)))
              (fun c s A B row hs _ _ => hs.elim) ⟨⟨hbc, hbd⟩, hb8⟩ ?_ ?_ ?_ ?_
            · intro l x W' K hK
              gi_wp2
              exact hK
            · rintro l pre x W' ⟨⟨hc, hd⟩, hb⟩ hkn hlt
              have hq0 : pre.length < 1000000000 := by
                rw [choices_any] at hlt
                have h2 := combos_many nn T
                have h3 : 2 ^ T.length ≤ 2 ^ 8 := Nat.pow_le_pow_right (by omega) hTl
                omega
              obtain ⟨q, hq⟩ : ∃ q, q = pre.length := ⟨_, rfl⟩
              rw [← hq] at hc hq0
              have ck := hc.cell
              have fk := hc.frozen
              have HC := Lib.hid hc
              have HD := Lib.hid hd
              have HBb := Lib.hid hb
              have HQ := Lib.hid hq
              have hwi : IntKind.i64.wrap ((q : Int) + 1) = ((q + 1 : Nat) : Int) := by rw [IntKind.wrap_i64]; omega
              clear hc hd hb hq hkn hlt hgv hbc hbd hbs hbk hb8
              gi_wp2
              refine ⟨KeepsOthers.setCell _ _ _, Kq.of_kept (Kept.set W' 0 _ (by omega)), ⟨?_, Boxed.other HD.out (by omega) _⟩, HBb.out.setCell (p := ⟨V.heap.size, 0, none⟩) (Nat.le_refl _) _⟩
              rw [List.length_append, ← HQ.out]
              exact HC.out.set _
            · rintro D3 xs3 U hD3 hS3 ⟨⟨hc3, hd3⟩, hb3⟩ hK3
              rw [hS3] at hc3
              have HU1 := Lib.hid hc3
              have HU2 := Lib.hid hd3
              have HBU := Lib.hid hb3
              have HK3 := Lib.hid hK3
              have HD3 := Lib.hid hD3
              have HSz3 := Lib.hid hsz
              have hsU := boxed_keep HS11V.out hb3
              rw [List.length_cons] at hsU
              have hnU := boxed_keep HNV.out hb3
              have cSU := hsU.cell
              have cNU := hnU.cell
              have HTU := Lib.hid (HTl.out.keep hb3)
              have HLeU := Lib.hid hb3.size
              clear hc3 hd3 hb3 hK3 hD3 hS3 hsz hgv hbc hbd hbs hbk hb8 hsU hnU cS cN cO cR fR cS3 cN3
              gi_wp2_with fail
              refine wpIn_onlyN ?_
              gi_region_with (refine ⟨trivial, ?_⟩; gi_at_call 25; refine (callsIn_wide.2 (Picks_any _ _ _ _ _)).mono ?_; rintro e W6 ⟨rfl, rfl⟩)
              all_goals (
                refine onlyN_normal ?_
                gi_wp2_with fail
                obtain ⟨v9, hv9⟩ : ∃ v9, ((U.alloc (.cells #[.slice (some ⟨cb, co + 1, none⟩) T.length (kS - 1)] 22)).alloc (.cells #[.int .i64 (1 + (nn : Int))] 3)).drew = v9 := ⟨_, rfl⟩
                obtain ⟨hsz4, hbs4, hbk4, hb9⟩ := pair_boxes U _ _ v9 hv9
                rw [hv9]
                clear hv9
                have hTq4 : ∀ y : Addr, (some ⟨cb, co + 1, none⟩ : Option Addr) = some y → y.block < V.heap.size + 1 ∨ V.heap.size + 2 ≤ y.block := fun y hy => .inl (by cases hy; have h1 := HCb.out _ rfl; have h2 := HZ5.out; have h3 := HLeW.out; have h4 := HLeV.out; simp at h1 ⊢; omega)
                have hU4 : V.heap.size + 4 ≤ U.heap.size := by have h1 := HSz3.out; have h2 := HD3.out; have h3 := (Array.getElem?_eq_some_iff.1 HK3.out).1; omega
                have hD3U : D3 < U.heap.size := (Array.getElem?_eq_some_iff.1 HK3.out).1
                have hgv4 := picks_gives (5 - 1) (U.heap.size + 2) (fun q => q < V.heap.size + 1 ∨ V.heap.size + 2 ≤ q) (fun _ h => .inr (by omega)) T (1 + (nn : Int)) (some ⟨cb, co + 1, none⟩) T.length (kS - 1) (U.heap.size + 1) U.heap.size v9 hbk4.cell hbk4.lt hbs4.cell hbs4.lt rfl (by omega) (by omega) (by omega) (HTU.out.keep hb9) hTq4 (by omega)
                refine rangeFunc_one (fun x b => b) rfl (by omega) (gf := 39) (lb := #[.pointer (some ⟨U.heap.size + 1, 0, none⟩), .pointer (some ⟨U.heap.size, 0, none⟩)]) rfl trivial (enters_of Try.func39 (by kernel_rfl) rfl)
                  hgv4 kn_put Kq.trans (fun _ W l o o' _ hl ho _ => Kq.of_kept (Kept.putObj o' hl ho)) (Below.refl _ _)
                  (fun pre W' => (Boxed W' (V.heap.size + 1) 3 (.int .i64 (pre.length : Int)) ∧ W'.heap[D3]? = some (.deferred (some []))) ∧ Below (V.heap.size + 1) U W') (fun _ _ _ => False)
                  (OwnFrom.and (OwnFrom.and (Own.from (boxed_own _ _ (fun pre : List Row => .int .i64 (pre.length : Int))) _) (mark_own D3 _ (by omega))) (ownFrom_below (by omega) (by omega)))
                  (fun c s A B row hs _ _ => hs.elim) ⟨⟨boxed_keep HU2.out hb9, (hb9.block D3 hD3U).trans HK3.out⟩, hb9.mono (by omega)⟩ ?_ ?_ ?_ ?_
                · intro l x W' K hK
                  gi_wp2
                  exact hK
                · rintro l pre x W' ⟨⟨hc, hm⟩, hb⟩ hkn hlt
                  have hq0 : pre.length < 1000000000 := by
                    rw [HN.out, choices_any] at hlt
                    have h2 := combos_many (nn + 1) T
                    have h3 : 2 ^ T.length ≤ 2 ^ 8 := Nat.pow_le_pow_right (by omega) hTl
                    omega
                  obtain ⟨q, hq⟩ : ∃ q, q = pre.length := ⟨_, rfl⟩
                  rw [← hq] at hc hq0
                  have ck := hc.cell
                  have fk := hc.frozen
                  have HC := Lib.hid hc
                  have HM3 := Lib.hid hm
                  have HBb := Lib.hid hb
                  have HQ := Lib.hid hq
                  have hwi : IntKind.i64.wrap ((q : Int) + 1) = ((q + 1 : Nat) : Int) := by rw [IntKind.wrap_i64]; omega
                  clear hc hm hb hq hkn hlt hgv4 hbs4 hbk4 hb9
                  gi_wp2
                  refine ⟨KeepsOthers.setCell _ _ _, Kq.of_kept (Kept.set W' 0 _ (by omega)), ⟨?_, (KeepsOthers.setCell _ _ _).same D3 _ HM3.out rfl⟩, HBb.out.setCell (p := ⟨V.heap.size + 1, 0, none⟩) (Nat.le_refl _) _⟩
                  rw [List.length_append, ← HQ.out]
                  exact HC.out.set _
                · rintro D4 xs4 Y hD4 hS4 ⟨⟨hc4, hm3⟩, hb4⟩ hK4
                  rw [hS4] at hc4
                  have hsum : (choices (x :: T) (1 + (nn : Int))).length = (choices T (nn : Int)).length + (choices T (1 + (nn : Int))).length := by
                    have h := choices_cons x T nn
                    rw [show (nn : Int) + 1 = 1 + (nn : Int) from Int.add_comm _ _] at h
                    exact h
                  have hl1 : (choices T (nn : Int)).length ≤ 256 := by
                    rw [choices_any]
                    have h2 := combos_many nn T
                    have h3 : 2 ^ T.length ≤ 2 ^ 8 := Nat.pow_le_pow_right (by omega) hTl
                    omega
                  have hl2 : (choices T (1 + (nn : Int))).length ≤ 256 := by
                    rw [HN.out, choices_any]
                    have h2 := combos_many (nn + 1) T
                    have h3 : 2 ^ T.length ≤ 2 ^ 8 := Nat.pow_le_pow_right (by omega) hTl
                    omega
                  have hC := boxed_below (boxed_keep HN1V.out HBU.out) hb4 (by have := HN1V.out.lt; omega)
                  have hW := boxed_below HU1.out hb4 (Nat.lt_succ_self _)
                  have hO := boxed_below (boxed_keep HC2.out HBU.out) hb4 (by have := HC2.out.lt; omega)
                  have hR := boxed_below (boxed_keep HRV.out HBU.out) hb4 (by have := HRV.out.lt; omega)
                  generalize (choices (x :: T) (1 + (nn : Int))).length = N1 at hsum hC
                  generalize (choices T (nn : Int)).length = a at hsum hl1 hW
                  generalize (choices T (1 + (nn : Int))).length = b at hsum hl2 hc4
                  have hwr : IntKind.i64.wrap ((a : Int) + (b : Int)) = (N1 : Int) := by rw [IntKind.wrap_i64]; omega
                  have cC := hC.cell
                  have cW := hW.cell
                  have cO := hO.cell
                  have cX := hc4.cell
                  have cR := hR.cell
                  have fR := hR.frozen
                  have HRY := Lib.hid hR
                  have h1V : D2 < V.heap.size := (Array.getElem?_eq_some_iff.1 (HKs.out D2 (List.mem_cons_self ..))).1
                  have h2V : D1 < V.heap.size := (Array.getElem?_eq_some_iff.1 (HKs.out D1 (List.mem_cons_of_mem _ (List.mem_cons_self ..)))).1
                  have HKY := Lib.hid (show ∀ D ∈ [D4, D3, D2, D1], Y.heap[D]? = some (.deferred (some [])) from fun D h => by
                    rcases List.mem_cons.1 h with rfl | h
                    · exact hK4
                    · rcases List.mem_cons.1 h with rfl | h
                      · exact hm3
                      · have hlt : D < V.heap.size := by
                          rcases List.mem_cons.1 h with rfl | h
                          · exact h1V
                          · obtain rfl := List.mem_singleton.1 h
                            exact h2V
                        exact (hb4.block D (by omega)).trans ((HBU.out.block D hlt).trans (HKs.out D h)))
                  have HNdY := Lib.hid (show [D4, D3, D2, D1].Nodup from by
                    have h5 := HNd.out
                    have h6 := HD3.out
                    have h7 := HSz3.out
                    simp at h5 ⊢
                    omega)
                  have HDY := Lib.hid (show ∀ D ∈ [D4, D3, D2, D1], w.heap.size ≤ D from fun D h => by
                    have h5 := HBVw.out.size
                    have h6 := HD3.out
                    have h7 := HSz3.out
                    rcases List.mem_cons.1 h with rfl | h
                    · omega
                    · rcases List.mem_cons.1 h with rfl | h
                      · omega
                      · exact HDs.out D h)
                  have HBY := Lib.hid ((HBVw.out.andThen HBU.out).trans (hb4.mono (by have := HBVw.out.size; omega)))
                  clear hC hW hO hR hc4 hm3 hb4 hK4 hD4 hS4 hgv4 hbs4 hbk4 hb9 cSU cNU
                  gi_wp2
                  exact order_end (Ds := [D4, D3, D2, D1]) rfl rfl HKY.out HNdY.out HRY.out HBY.out HDY.out
                · rintro D c pre W _ _ h _
                  exact h.elim)
            · rintro D c pre W _ _ h _
              exact h.elim)
    case stop2 =>
      rintro D c pre W _ _ h _
      exact h.elim
  case stop =>
    rintro D c pre W _ _ h _
    exact h.elim
end Go.Proofs.Ytakkdpnaoahpcaa
