/-
  Part 18 of the proof of PatTexts: PatTexts.
-/
import Derived.BigQuiet
import Derived.Deep.RegionHeld3
import Derived.Deep.DeepCutAuto
import Derived.Test.YtddedghnnkcnhaaGreatDoorPatTextsM5
import Derived.Test.YtddedghnnkcnhaaGreatDoorPatTextsM8
import Derived.Test.YtddedghnnkcnhaaGreatDoorPatTextsM9
import Derived.Test.YtddedghnnkcnhaaGreatDoorPatTextsM14
import Derived.Test.YtddedghnnkcnhaaGreatDoorPatTextsM15
import Derived.Test.YtddedghnnkcnhaaGreatDoorPatTextsM17
/-
  PatTexts: the walk.
-/
namespace Go.Proofs.YtddedghnnkcnhaaGreatDoor
open Go.RowKit
attribute [local go_sem ↓] Go.wp_at_zero Go.wp_at_succ
set_option maxRecDepth 100000
set_option linter.unusedVariables false

theorem con_bool (L : List Int) (E : List (Int × Int)) : ∃ b : Bool, b = true ↔ connP L E := by
  by_cases h : connP L E
  · exact ⟨true, fun _ => h, fun _ => rfl⟩
  · exact ⟨false, fun e => (by cases e), fun e => absurd e h⟩
theorem con_fix {L : List Int} {E : List (Int × Int)} {cb : Bool} (h : cb = true ↔ connP L E) {P : Program} {f : FuncId} {args : Array Value} {w : World} (hc : Calls P f args w (ConRes L E w)) : Calls P f args w fun e w' => e = .returned (.bool cb) ∧ Below w.heap.size w w' :=
  hc.mono fun e w' ⟨b, h1, h2, h3⟩ => ⟨by
    have : b = cb := Bool.eq_iff_iff.2 (h2.trans h.symm)
    rw [h1, this], h3⟩
theorem bytesP_same {L L' : List Int} {E E' : List (Int × Int)} (h : rightP L E) (h' : rightP L' E') (e : bytesP L E = bytesP L' E') : L = L' ∧ E = E' := by
  have f1 := right_fits h
  have f2 := right_fits h'
  obtain ⟨_, a2, _, a4, _⟩ := bytesP_back (l := bytesP L E) rfl f1.1 f1.2.1 (by have := h.1.1; omega) (by have := right_few h; omega)
  obtain ⟨_, b2, _, b4, _⟩ := bytesP_back (l := bytesP L E) e f2.1 f2.2.1 (by have := h'.1.1; omega) (by have := right_few h'; omega)
  refine ⟨a2.symm.trans b2, ?_⟩
  have h4 := a4.symm.trans b4
  rw [← pairs_ends E, h4, pairs_ends]
theorem bytesP_bys {L : List Int} {E : List (Int × Int)} : Bys (bytesP L E) := by
  intro x hx
  unfold bytesP encW at hx
  simp only [List.mem_append, List.mem_flatMap] at hx
  rcases hx with (hx | ⟨y, _, hx⟩) | (hx | ⟨y, _, hx⟩) <;> exact wordL_bys _ x hx
theorem PatOf_yes {l : List Int} {L : List Int} {E : List (Int × Int)} (hR : rightP L E) (hL : bytesP L E = l) {P : Program} {f : FuncId} {args : Array Value} {w : World} (hc : Calls P f args w (OfRes l w)) :
    Calls P f args w fun e w' => ∃ (A : Option Addr) (c : Nat) (B : Option Addr) (m d : Nat), e = .returned (.tuple #[pv A L.length c B m d, .nilIface]) ∧ Sl w' 1 A L.length (L.map (Value.int .i64)) ∧ Sl w' 2 B m (Rk.cells E) ∧ (L.length ≤ c ∧ c ≤ 9223372036854775807) ∧ Below w.heap.size w w' :=
  hc.mono fun e w' ⟨hb, h⟩ => by
    rcases h with ⟨A, n, c, B, m, d, L', E', h1, h2, h3, h4, h5, h6, h7, h8⟩ | ⟨_, _, _, _, _, _, h⟩
    · obtain ⟨rfl, rfl⟩ := bytesP_same h2 hR (h6.trans hL.symm)
      subst h3
      exact ⟨A, c, B, m, d, h1, h4, h5, ⟨h7, h8⟩, hb⟩
    · exact absurd hL (h L E hR)
theorem PatOf_no {l : List Int} (hN : ∀ L E, rightP L E → bytesP L E ≠ l) {P : Program} {f : FuncId} {args : Array Value} {w : World} (hc : Calls P f args w (OfRes l w)) :
    Calls P f args w fun e w' => ∃ (Er : Err) (T : TypeId) (x : Value), e = .returned (.tuple #[pv none 0 0 none 0 0, .iface T x]) ∧ Er.At w' (.iface T x) ∧ 0 < Er.code ∧ Below w.heap.size w w' :=
  hc.mono fun e w' ⟨hb, h⟩ => by
    rcases h with ⟨A, n, c, B, m, d, L', E', h1, h2, h3, h4, h5, h6, h7, h8⟩ | ⟨Er, T, x, h1, h2, h3, _⟩
    · exact absurd h6 (hN _ _ h2)
    · exact ⟨Er, T, x, h1, h2, h3, hb⟩
theorem bytesP_len {L : List Int} {E : List (Int × Int)} (h : rightP L E) : (bytesP L E).length ≤ 300 := by
  unfold bytesP
  rw [List.length_append, encW_len, encW_len, endsL_len]
  have := h.1.1
  have := right_few h
  omega

set_option maxHeartbeats 16000000 in
theorem PatTexts_walk (L1 L2 l : List Int) (E1 E2 : List (Int × Int)) (A1 B1 A2 B2 A3 : Option Addr) (n1 c1 m1 d1 n2 c2 m2 d2 n3 c3 : Nat) (w : World) (hg : ErrT w) (hT : TabW w)
    (hl1 : L1.length = n1) (hl2 : L2.length = n2) (hl3 : l.length = n3)
    (s1 : Sl w 1 A1 n1 (L1.map (Value.int .i64))) (s2 : Sl w 1 A2 n2 (L2.map (Value.int .i64))) (t1 : Sl w 2 B1 m1 (Rk.cells E1)) (t2 : Sl w 2 B2 m2 (Rk.cells E2)) (s3 : Sl w 1 A3 n3 (l.map (Value.int .u8))) (hby : Bys l) (hc3 : n3 ≤ c3 ∧ c3 ≤ 9223372036854775807) (hc1 : n1 ≤ c1 ∧ c1 ≤ 9223372036854775807)
    (iL1 : ∀ x ∈ L1, i64P x) (iE1 : ∀ e ∈ E1, i64P e.1 ∧ i64P e.2) :
    Calls Tryz.prog 3 #[pv A1 n1 c1 B1 m1 d1, pv A2 n2 c2 B2 m2 d2, .slice A3 n3 c3] w fun e w' => e = .returned (.bool true) ∧ Below w.heap.size w w' := by

  obtain ⟨w0, hw0⟩ : ∃ w0, w0 = (w.alloc (.cells #[.slice A1 n1 c1, .slice B1 m1 d1] 25)).alloc (.cells #[.slice A2 n2 c2, .slice B2 m2 d2] 25) := ⟨_, rfl⟩
  have hb0 : Below w.heap.size w w0 := by rw [hw0]; exact bel_al (bel_al (Below.refl _ _) _) _
  have HB0 := Lib.hid hb0
  have HK1 := Lib.hid (show Blk w0 w.heap.size 25 #[.slice A1 n1 c1, .slice B1 m1 d1] by rw [hw0]; exact (Blk.new _ _ _).alloc _)
  have HK2 := Lib.hid (show Blk w0 (w.heap.size + 1) 25 #[.slice A2 n2 c2, .slice B2 m2 d2] by
    rw [hw0]
    have := Blk.new (w.alloc (.cells #[.slice A1 n1 c1, .slice B1 m1 d1] 25)) 25 #[.slice A2 n2 c2, .slice B2 m2 d2]
    rw [World.size_alloc] at this
    exact this)
  have HA := Lib.hid (alive08 w0 (hg.keep hb0) (hT.keep hb0))
  have HT0 := Lib.hid (hT.keep hb0)
  have HG0 := Lib.hid (hg.keep hb0)
  have HS1 := Lib.hid (s1.keep hb0)
  have HS2 := Lib.hid (s2.keep hb0)
  have HS3 := Lib.hid (s3.keep hb0)
  have HT1 := Lib.hid (t1.keep hb0)
  have HT2 := Lib.hid (t2.keep hb0)
  have HL1 := Lib.hid hl1
  have HL2 := Lib.hid hl2
  have HL3 := Lib.hid hl3
  have HBy := Lib.hid hby
  have HC3 := Lib.hid hc3
  have HC1 := Lib.hid hc1
  have HI1 := Lib.hid (And.intro iL1 iE1)
  clear hb0 s1 s2 s3 t1 t2 hg hT hl1 hl2 hl3 hby hc3 hc1 iL1 iE1
  subst hw0
  go_enter Tryz.func3, Tryz.ntmps3
  go_wp2_with fail
  refine HA.out.mono ?_
  clear HA
  rintro e w1 ⟨rfl, hb1⟩
  have HW1 := Lib.hid (HB0.out.andThen hb1)
  have k1 := HK1.out.keep hb1
  have k2 := HK2.out.keep hb1
  have HK1' := Lib.hid k1
  have HK2' := Lib.hid k2
  have HTw := Lib.hid (HT0.out.keep hb1)
  have HGw := Lib.hid (HG0.out.keep hb1)
  have Z1 := Lib.hid (HS1.out.keep hb1)
  have Z2 := Lib.hid (HS2.out.keep hb1)
  have Z3 := Lib.hid (HS3.out.keep hb1)
  have Y1 := Lib.hid (HT1.out.keep hb1)
  have Y2 := Lib.hid (HT2.out.keep hb1)
  clear hb1 k1 k2 HK1 HK2 HB0 HT0 HG0 HS1 HS2 HS3 HT1 HT2
  have HK := Lib.hid (show ∀ W, Below w1.heap.size w1 W → W.cell? ⟨w.heap.size, 0, none⟩ = some (.slice A1 n1 c1) ∧ W.cell? ⟨w.heap.size, 1, none⟩ = some (.slice B1 m1 d1) ∧ W.cell? ⟨w.heap.size + 1, 0, none⟩ = some (.slice A2 n2 c2) ∧ W.cell? ⟨w.heap.size + 1, 1, none⟩ = some (.slice B2 m2 d2) from fun W hW => by
    have k0 := (HK1'.out.keep hW).cell 0
    have k1 := (HK1'.out.keep hW).cell 1
    have k2 := (HK2'.out.keep hW).cell 0
    have k3 := (HK2'.out.keep hW).cell 1
    simp at k0 k1 k2 k3
    exact ⟨k0, k1, k2, k3⟩)
  have zz := HK.out w1 (Below.refl _ _)
  have HB := Lib.hid (Below.refl w1.heap.size w1)
  by_cases hf1 : (decide (20 < n1) || decide (60 < m1)) = true
  · go_wp2_with (first
      | (go_at_call_of 15 (Value.agg #[Value.slice A1 n1 c1, Value.slice B1 m1 d1]); refine (far_any _ _ _ _ _ _ _).mono ?_; rintro e' w2 ⟨rfl, hb2⟩; have HB := Lib.hid (HB.out.andThen hb2); clear zz; have zz := HK.out _ HB.out; clear hb2)
      | (go_at_call_of 15 (Value.agg #[Value.slice A2 n2 c2, Value.slice B2 m2 d2]); refine (far_any _ _ _ _ _ _ _).mono ?_; rintro e' w3 ⟨rfl, hb2⟩; have HB := Lib.hid (HB.out.andThen hb2); clear zz; have zz := HK.out _ HB.out; clear hb2))
    go_ret
    exact ⟨rfl, HW1.out.andThen HB.out⟩
  have hg1 : (decide (20 < n1) || decide (60 < m1)) = false := by simpa using hf1
  by_cases hf2 : (decide (20 < n2) || decide (60 < m2)) = true
  · clear hf1
    go_wp2_with (first
      | (go_at_call_of 15 (Value.agg #[Value.slice A1 n1 c1, Value.slice B1 m1 d1]); refine (far_any _ _ _ _ _ _ _).mono ?_; rintro e' w2 ⟨rfl, hb2⟩; have HB := Lib.hid (HB.out.andThen hb2); clear zz; have zz := HK.out _ HB.out; clear hb2)
      | (go_at_call_of 15 (Value.agg #[Value.slice A2 n2 c2, Value.slice B2 m2 d2]); refine (far_any _ _ _ _ _ _ _).mono ?_; rintro e' w3 ⟨rfl, hb2⟩; have HB := Lib.hid (HB.out.andThen hb2); clear zz; have zz := HK.out _ HB.out; clear hb2))
    go_ret
    exact ⟨rfl, HW1.out.andThen HB.out⟩
  have hg2 : (decide (20 < n2) || decide (60 < m2)) = false := by simpa using hf2
  have hn1 : n1 ≤ 20 := by
    rw [Bool.or_eq_false_iff] at hg1
    have := of_decide_eq_false hg1.1
    omega
  have hm1 : m1 ≤ 60 := by
    rw [Bool.or_eq_false_iff] at hg1
    have := of_decide_eq_false hg1.2
    omega
  have hn2 : n2 ≤ 20 := by
    rw [Bool.or_eq_false_iff] at hg2
    have := of_decide_eq_false hg2.1
    omega
  have hm2 : m2 ≤ 60 := by
    rw [Bool.or_eq_false_iff] at hg2
    have := of_decide_eq_false hg2.2
    omega
  by_cases hn3 : 400 < n3
  · have hn3' : (400 : Int) < (n3 : Int) := by omega
    clear hf1 hf2
    go_wp2_with (first
      | (go_at_call_of 15 (Value.agg #[Value.slice A1 n1 c1, Value.slice B1 m1 d1]); refine (far_any _ _ _ _ _ _ _).mono ?_; rintro e' w2 ⟨rfl, hb2⟩; have HB := Lib.hid (HB.out.andThen hb2); clear zz; have zz := HK.out _ HB.out; clear hb2)
      | (go_at_call_of 15 (Value.agg #[Value.slice A2 n2 c2, Value.slice B2 m2 d2]); refine (far_any _ _ _ _ _ _ _).mono ?_; rintro e' w3 ⟨rfl, hb2⟩; have HB := Lib.hid (HB.out.andThen hb2); clear zz; have zz := HK.out _ HB.out; clear hb2))
    go_ret
    exact ⟨rfl, HW1.out.andThen HB.out⟩
  have hn3' : ¬ (400 : Int) < (n3 : Int) := by omega
  have hnd : decide ((400 : Int) < (n3 : Int)) = false := decide_eq_false hn3'
  clear hf1 hf2
  go_wp2_with (first
      | (go_at_call_of 15 (Value.agg #[Value.slice A1 n1 c1, Value.slice B1 m1 d1]); refine (far_any _ _ _ _ _ _ _).mono ?_; rintro e' w2 ⟨rfl, hb2⟩; have HB := Lib.hid (HB.out.andThen hb2); clear zz; have zz := HK.out _ HB.out; clear hb2)
      | (go_at_call_of 15 (Value.agg #[Value.slice A2 n2 c2, Value.slice B2 m2 d2]); refine (far_any _ _ _ _ _ _ _).mono ?_; rintro e' w3 ⟨rfl, hb2⟩; have HB := Lib.hid (HB.out.andThen hb2); clear zz; have zz := HK.out _ HB.out; clear hb2))
  clear zz
  obtain ⟨wb, hwb⟩ : ∃ wb, wb = w3 := ⟨_, rfl⟩
  rw [← hwb] at HB ⊢
  clear hwb
  have HBb := Lib.hid HB.out
  have HP1 := Lib.hid (fun (W : World) (hW : Below wb.heap.size wb W) => (Of08_any E1 A1 B1 n1 c1 m1 d1 W (by omega) (Y1.out.keep (HBb.out.andThen hW))).mono (R' := fun e w' => ∃ D k, e = .returned (pv A1 n1 c1 D m1 k) ∧ Sl w' 2 D m1 (Rk.cells E1) ∧ Below W.heap.size W w' ∧ Below wb.heap.size wb w') fun e w' ⟨D, k, h1, h2, h3⟩ => ⟨D, k, h1, h2, h3, hW.andThen h3⟩)
  have HP2 := Lib.hid (fun (W : World) (hW : Below wb.heap.size wb W) => (Of08_any E2 A2 B2 n2 c2 m2 d2 W (by omega) (Y2.out.keep (HBb.out.andThen hW))).mono (R' := fun e w' => ∃ D k, e = .returned (pv A2 n2 c2 D m2 k) ∧ Sl w' 2 D m2 (Rk.cells E2) ∧ Below W.heap.size W w' ∧ Below wb.heap.size wb w') fun e w' ⟨D, k, h1, h2, h3⟩ => ⟨D, k, h1, h2, h3, hW.andThen h3⟩)
  go_cut [7, 8] from 31 to 34 (fun x y wx => ∃ (D1 D2 : Option Addr) (e1 e2 g1 g2 : Nat), x = .pointer (some ⟨g1, 0, none⟩) ∧ y = .pointer (some ⟨g2, 0, none⟩) ∧ Hid (Two wx g1 (.slice A1 n1 c1) (.slice D1 m1 e1)) ∧ Hid (Two wx g2 (.slice A2 n2 c2) (.slice D2 m2 e2)) ∧ Hid (Sl wx 2 D1 m1 (Rk.cells E1)) ∧ Hid (Sl wx 2 D2 m2 (Rk.cells E2)) ∧ Hid (Below wb.heap.size wb wx))
  case first =>
    refine wp_region_inv (fun listed a W => ∃ (l0 l1 l2 l3 l4 l5 l6 l7 : Bool) (x7 x8 v31 v32 v33 v34 : Value), listed = #[l0, l1, l2, l3, l4, l5, l6, l7] ∧ a = { tmps := #[pv A1 n1 c1 B1 m1 d1, pv A2 n2 c2 B2 m2 d2, .slice A3 n3 c3, .pointer (some ⟨w.heap.size, 0, none⟩), .pointer (some ⟨w.heap.size + 1, 0, none⟩), undef, .bool false, x7, x8, undef, undef, undef, undef, undef, undef, undef, undef, undef, .bool true, .bool false, .agg #[.slice A1 n1 c1, .slice B1 m1 d1], .bool false, .bool false, .agg #[.slice A2 n2 c2, .slice B2 m2 d2], .bool false, .bool false, .bool false, .slice A3 n3 c3, .int .i64 (n3 : Int), .bool false, .bool false, v31, v32, v33, v34, undef, undef, undef, undef, undef, undef, undef, undef, undef, undef, undef, undef, undef, undef, undef, undef, undef, undef, undef, undef, undef, undef, undef, undef, undef, undef, undef, undef, undef, undef, undef, undef, undef, undef, undef, undef, undef, undef, undef, undef, undef, undef, undef, undef, undef, undef, undef, undef, undef, undef, undef, undef, undef, undef, undef, undef, undef, undef, undef, undef, undef, undef, undef, undef, undef, undef, undef, undef, undef, undef, undef, undef, undef, undef, undef, undef, undef, undef, undef, undef, undef, undef, undef, undef, undef, undef, undef, undef, undef, undef], defers := [] } ∧ Hid (Below wb.heap.size wb W) ∧ Hid (ColL l0 v31 (pv A1 n1 c1 B1 m1 d1)) ∧ Hid (ColL l2 v33 (pv A2 n2 c2 B2 m2 d2)) ∧ Hid (ColC l1 v32 W A1 n1 c1 m1 E1) ∧ Hid (ColC l3 v34 W A2 n2 c2 m2 E2) ∧ Hid (ColA l4 l6 x7 v32 wb.heap.size W) ∧ Hid (ColA l5 l7 x8 v34 wb.heap.size W) ∧ Hid (Apart l4 l5 x7 x8) ∧ Hid ((l6 = true → l4 = true ∧ l1 = true) ∧ (l7 = true → l5 = true ∧ l3 = true))) (by kernel_rfl) ?_ ?_ ?_
    · refine ⟨false, false, false, false, false, false, false, false, undef, undef, undef, undef, undef, undef, rfl, rfl, Lib.hid (bel_drewN (Below.refl _ _) 1), ?_⟩
      unfold ColL ColC ColA Apart
      simp [Hid]
    · rintro i listed a W hi ⟨l0, l1, l2, l3, l4, l5, l6, l7, x7, x8, v31, v32, v33, v34, rfl, rfl, HB, h31, h33, h32, h34, h7, h8, h78, hs⟩
      have hcl := Lib.hid (HK.out W (HBb.out.andThen HB.out))
      match i, hi with
      | 0, hi =>
        refine wpOp_step rfl fun K' hK => ?_
        obtain ⟨z0, z1, z2, z3⟩ := hcl.out
        clear HK HP1 HP2 Z1 Z2 Z3 Y1 Y2 HK1' HK2' HTw HGw
        go_simp
        refine hK _ _ ⟨true, l1, l2, l3, l4, l5, l6, l7, x7, x8, _, v32, v33, v34, rfl, rfl, HB, Lib.hid (fun _ => rfl), h33, h32, h34, h7, h8, h78, hs⟩
      | 2, hi =>
        refine wpOp_step rfl fun K' hK => ?_
        obtain ⟨z0, z1, z2, z3⟩ := hcl.out
        clear HK HP1 HP2 Z1 Z2 Z3 Y1 Y2 HK1' HK2' HTw HGw
        go_simp
        refine hK _ _ ⟨l0, l1, true, l3, l4, l5, l6, l7, x7, x8, v31, v32, _, v34, rfl, rfl, HB, h31, Lib.hid (fun _ => rfl), h32, h34, h7, h8, h78, hs⟩
      | 1, hi =>
        simp [Region.ready, Region.binds] at hi
        refine wpOp_step rfl fun K' hK => ?_
        obtain rfl := h31.out (by grind)
        have HC := Lib.hid (HP1.out W HB.out)
        clear HK HP1 HP2 Z1 Z2 Z3 Y1 Y2 HK1' HK2' HTw HGw
        go_simp
        refine HC.out.mono ?_
        rintro e' w2 ⟨D, e, rfl, hs2, hb, hbw⟩
        refine hK _ _ ⟨l0, true, l2, l3, l4, l5, l6, l7, x7, x8, _, _, v33, v34, rfl, rfl, Lib.hid hbw, h31, h33, Lib.hid (fun _ => ⟨D, e, rfl, hs2⟩), Lib.hid (h34.out.keep hb), Lib.hid (ColA.fresh h7.out (by have := hs.out; grind) hb), Lib.hid (h8.out.keep hb), h78, Lib.hid (by have := hs.out; grind)⟩
      | 3, hi =>
        simp [Region.ready, Region.binds] at hi
        refine wpOp_step rfl fun K' hK => ?_
        obtain rfl := h33.out (by grind)
        have HC := Lib.hid (HP2.out W HB.out)
        clear HK HP1 HP2 Z1 Z2 Z3 Y1 Y2 HK1' HK2' HTw HGw
        go_simp
        refine HC.out.mono ?_
        rintro e' w2 ⟨D, e, rfl, hs2, hb, hbw⟩
        refine hK _ _ ⟨l0, l1, l2, true, l4, l5, l6, l7, x7, x8, v31, v32, _, _, rfl, rfl, Lib.hid hbw, h31, h33, Lib.hid (h32.out.keep hb), Lib.hid (fun _ => ⟨D, e, rfl, hs2⟩), Lib.hid (h7.out.keep hb), Lib.hid (ColA.fresh h8.out (by have := hs.out; grind) hb), h78, Lib.hid (by have := hs.out; grind)⟩
      | 4, hi =>
        simp [Region.ready, Region.binds] at hi
        refine wpOp_step rfl fun K' hK => ?_
        have hal := (Below.refl W.heap.size W).alloc (Nat.le_refl _) (.cells #[.slice none 0 0, .slice none 0 0] 31)
        clear HK HP1 HP2 Z1 Z2 Z3 Y1 Y2 HK1' HK2' HTw HGw
        go_simp
        refine hK _ _ ⟨l0, l1, l2, l3, true, l5, l6, l7, _, x8, v31, v32, v33, v34, rfl, rfl, Lib.hid (bel_al HB.out _), h31, h33, Lib.hid (h32.out.keep hal), Lib.hid (h34.out.keep hal), Lib.hid (ColA.new W HB.out.size (by have := hs.out; grind)), Lib.hid (h8.out.keep hal), Lib.hid (fun _ h => (h8.out.ne_new h).symm), Lib.hid (by have := hs.out; grind)⟩
      | 5, hi =>
        simp [Region.ready, Region.binds] at hi
        refine wpOp_step rfl fun K' hK => ?_
        have hal := (Below.refl W.heap.size W).alloc (Nat.le_refl _) (.cells #[.slice none 0 0, .slice none 0 0] 31)
        clear HK HP1 HP2 Z1 Z2 Z3 Y1 Y2 HK1' HK2' HTw HGw
        go_simp
        refine hK _ _ ⟨l0, l1, l2, l3, l4, true, l6, l7, x7, _, v31, v32, v33, v34, rfl, rfl, Lib.hid (bel_al HB.out _), h31, h33, Lib.hid (h32.out.keep hal), Lib.hid (h34.out.keep hal), Lib.hid (h7.out.keep hal), Lib.hid (ColA.new W HB.out.size (by have := hs.out; grind)), Lib.hid (fun h _ => h7.out.ne_new h), Lib.hid (by have := hs.out; grind)⟩
      | 6, hi =>
        simp [Region.ready, Region.binds] at hi
        have hla : l4 = true := by grind
        have hlc : l1 = true := by grind
        refine wpOp_step rfl fun K' hK => ?_
        obtain ⟨D, e, rfl, hrow⟩ := h32.out hlc
        obtain ⟨g, F1, F2, q1, q2, r1, r2, rfl, hg, hbk, _⟩ := h7.out hla
        have b0 := hbk.cell 0
        have b1 := hbk.cell 1
        have f0 := hbk.frozen 0
        have f1 := hbk.frozen 1
        simp at b0 b1
        clear HK HP1 HP2 Z1 Z2 Z3 Y1 Y2 HK1' HK2' HTw HGw
        go_simp
        refine hK _ _ ⟨l0, l1, l2, l3, l4, l5, true, l7, _, x8, v31, _, v33, v34, rfl, rfl, Lib.hid ((HB.out.setCell (p := ⟨g, 0, none⟩) hg _).setCell (p := ⟨g, 1, none⟩) hg _), h31, h33, Lib.hid (h32.out.store hbk _ _ _ _ _ _), Lib.hid (h34.out.store hbk _ _ _ _ _ _), Lib.hid (fun _ => ⟨g, A1, D, n1, m1, c1, e, rfl, hg, (hbk.set_ 0 (.slice A1 n1 c1)).set_ 1 (.slice D m1 e), fun _ => rfl⟩), Lib.hid (h8.out.store (fun h e => h78.out hla h e.symm) _ _), h78, Lib.hid (by have := hs.out; grind)⟩
      | 7, hi =>
        simp [Region.ready, Region.binds] at hi
        have hla : l5 = true := by grind
        have hlc : l3 = true := by grind
        refine wpOp_step rfl fun K' hK => ?_
        obtain ⟨D, e, rfl, hrow⟩ := h34.out hlc
        obtain ⟨g, F1, F2, q1, q2, r1, r2, rfl, hg, hbk, _⟩ := h8.out hla
        have b0 := hbk.cell 0
        have b1 := hbk.cell 1
        have f0 := hbk.frozen 0
        have f1 := hbk.frozen 1
        simp at b0 b1
        clear HK HP1 HP2 Z1 Z2 Z3 Y1 Y2 HK1' HK2' HTw HGw
        go_simp
        refine hK _ _ ⟨l0, l1, l2, l3, l4, l5, l6, true, x7, _, v31, v32, v33, _, rfl, rfl, Lib.hid ((HB.out.setCell (p := ⟨g, 0, none⟩) hg _).setCell (p := ⟨g, 1, none⟩) hg _), h31, h33, Lib.hid (h32.out.store hbk _ _ _ _ _ _), Lib.hid (h34.out.store hbk _ _ _ _ _ _), Lib.hid (h7.out.store (fun h => h78.out h hla) _ _), Lib.hid (fun _ => ⟨g, A2, D, n2, m2, c2, e, rfl, hg, (hbk.set_ 0 (.slice A2 n2 c2)).set_ 1 (.slice D m2 e), fun _ => rfl⟩), h78, Lib.hid (by have := hs.out; grind)⟩
      | k + 8, hi => exact absurd (ready_open hi) (by simp)
    · rintro listed a W hnil ⟨l0, l1, l2, l3, l4, l5, l6, l7, x7, x8, v31, v32, v33, v34, rfl, rfl, HB, h31, h33, h32, h34, h7, h8, h78, hs⟩
      have hno := fun i => List.eq_nil_iff_forall_not_mem.1 hnil i
      have e0 := hno 0
      have e2 := hno 2
      have e4 := hno 4
      have e5 := hno 5
      have e1 := hno 1
      have e3 := hno 3
      have e6 := hno 6
      have e7 := hno 7
      clear hno hnil HK HP1 HP2 Z1 Z2 Z3 Y1 Y2 HK1' HK2' HTw HGw
      simp [Region.ready, Region.binds] at e0 e2 e4 e5 e1 e3 e6 e7
      have l6t : l6 = true := by grind
      have l7t : l7 = true := by grind
      obtain ⟨D1, e1', rfl, r1⟩ := h32.out (hs.out.1 l6t).2
      obtain ⟨D2, e2', rfl, r2⟩ := h34.out (hs.out.2 l7t).2
      obtain ⟨g1, _, _, _, _, _, _, rfl, hg1, hb1, q1⟩ := h7.out (hs.out.1 l6t).1
      obtain ⟨g2, _, _, _, _, _, _, rfl, hg2, hb2, q2⟩ := h8.out (hs.out.2 l7t).1
      cases q1 l6t
      cases q2 l7t
      clear h7 h8 h32 h34 h31 h33 q1 q2
      go_wp2_with fail
      go_meet
      exact ⟨D1, D2, e1', e2', g1, g2, rfl, rfl, Lib.hid ⟨hb1.cell 0, hb1.cell 1⟩, Lib.hid ⟨hb2.cell 0, hb2.cell 1⟩, Lib.hid r1, Lib.hid r2, HB⟩
  case rest =>
    obtain ⟨D1, D2, e1, e2, g1, g2, rfl, rfl, HQ1, HQ2, X1, X2, HBX⟩ := hcut
    have HAll := Lib.hid (show ∀ W, Below wc.heap.size wc W → (W.cell? ⟨w.heap.size, 0, none⟩ = some (.slice A1 n1 c1) ∧ W.cell? ⟨w.heap.size, 1, none⟩ = some (.slice B1 m1 d1) ∧ W.cell? ⟨w.heap.size + 1, 0, none⟩ = some (.slice A2 n2 c2) ∧ W.cell? ⟨w.heap.size + 1, 1, none⟩ = some (.slice B2 m2 d2)) ∧ (W.cell? ⟨g1, 0, none⟩ = some (.slice A1 n1 c1) ∧ W.cell? ⟨g1, 1, none⟩ = some (.slice D1 m1 e1) ∧ W.cell? ⟨g2, 0, none⟩ = some (.slice A2 n2 c2) ∧ W.cell? ⟨g2, 1, none⟩ = some (.slice D2 m2 e2)) from fun W hW =>
      ⟨HK.out W (HBb.out.andThen (HBX.out.andThen hW)), (hW.cell (World.block_lt_of_cell? _ _ HQ1.out.1)).trans HQ1.out.1, (hW.cell (World.block_lt_of_cell? _ _ HQ1.out.2)).trans HQ1.out.2, (hW.cell (World.block_lt_of_cell? _ _ HQ2.out.1)).trans HQ2.out.1, (hW.cell (World.block_lt_of_cell? _ _ HQ2.out.2)).trans HQ2.out.2⟩)
    have HBc := Lib.hid (HBb.out.andThen HBX.out)
    have HWc := Lib.hid (HW1.out.andThen HBc.out)
    have HB := Lib.hid (Below.refl wc.heap.size wc)
    have zz := HAll.out _ HB.out
    obtain ⟨cb, hcb⟩ := con_bool L1 E1
    have HR1 := Lib.hid (RefRight_any L1 E1 A1 B1 n1 c1 m1 d1 wc HL1.out (by omega) (by omega) (Z1.out.keep HBc.out) (Y1.out.keep HBc.out))
    have HR2 := Lib.hid (fun W (hW : Below wc.heap.size wc W) => RefRight_any L2 E2 A2 B2 n2 c2 m2 d2 W HL2.out (by omega) (by omega) (Z2.out.keep (HBc.out.andThen hW)) (Y2.out.keep (HBc.out.andThen hW)))
    obtain ⟨tx, htx⟩ : ∃ tx, tx = textB L1 E1 := ⟨_, rfl⟩
    obtain ⟨cv, hcv⟩ : ∃ cv, cv = Pt.cmpP L1 E1 L2 E2 := ⟨_, rfl⟩
    have HCx := Lib.hid (fun W (hW : Below wc.heap.size wc W) => (con_fix hcb (Connected_any L1 E1 A1 D1 n1 c1 m1 e1 W HL1.out (by omega) (by omega) (Z1.out.keep (HBc.out.andThen hW)) (X1.out.keep hW))).mono (R' := fun e w' => e = .returned (.bool cb) ∧ Below wc.heap.size wc w') fun e w' h => ⟨h.1, hW.andThen h.2⟩)
    have HCp := Lib.hid (fun W (hW : Below wc.heap.size wc W) => (con_fix hcb (RefConnected_any L1 E1 A1 B1 n1 c1 m1 d1 W HL1.out (by omega) (by omega) (Z1.out.keep (HBc.out.andThen hW)) (Y1.out.keep (HBc.out.andThen hW)))).mono (R' := fun e w' => e = .returned (.bool cb) ∧ Below wc.heap.size wc w') fun e w' h => ⟨h.1, hW.andThen h.2⟩)
    have HTx := Lib.hid (fun W (hW : Below wc.heap.size wc W) => (Text_any L1 E1 A1 D1 n1 c1 m1 e1 W HL1.out (by omega) (by omega) (Z1.out.keep (HBc.out.andThen hW)) (X1.out.keep hW) HI1.out.1 HI1.out.2 (HTw.out.keep (HBc.out.andThen hW))).mono (R' := fun e w' => e = .returned (.string tx) ∧ Below wc.heap.size wc w') fun e w' h => ⟨by rw [h.1, htx], hW.andThen h.2⟩)
    have HTp := Lib.hid (fun W (hW : Below wc.heap.size wc W) => (RefText_any L1 E1 A1 B1 n1 c1 m1 d1 W HL1.out (by omega) (by omega) (Z1.out.keep (HBc.out.andThen hW)) (Y1.out.keep (HBc.out.andThen hW)) HI1.out.1 HI1.out.2).mono (R' := fun e w' => e = .returned (.string tx) ∧ Below wc.heap.size wc w') fun e w' h => ⟨by rw [h.1, htx], hW.andThen h.2⟩)
    have HMx := Lib.hid (fun W (hW : Below wc.heap.size wc W) => (PatCompare_any L1 L2 E1 E2 A1 A2 D1 D2 n1 n2 m1 m2 c1 c2 e1 e2 W HL1.out HL2.out (by omega) (by omega) (Z1.out.keep (HBc.out.andThen hW)) (Z2.out.keep (HBc.out.andThen hW)) (X1.out.keep hW) (X2.out.keep hW)).mono (R' := fun e w' => e = .returned (.int .i64 cv) ∧ Below wc.heap.size wc w') fun e w' h => ⟨by rw [h.1, hcv], hW.andThen h.2⟩)
    have HMp := Lib.hid (fun W (hW : Below wc.heap.size wc W) => (RefPatCompare_any L1 L2 E1 E2 A1 A2 B1 B2 n1 n2 m1 m2 c1 c2 d1 d2 W HL1.out (by omega) (by omega) (Z1.out.keep (HBc.out.andThen hW)) (Y1.out.keep (HBc.out.andThen hW)) HL2.out (by omega) (by omega) (Z2.out.keep (HBc.out.andThen hW)) (Y2.out.keep (HBc.out.andThen hW))).mono (R' := fun e w' => e = .returned (.int .i64 cv) ∧ Below wc.heap.size wc w') fun e w' h => ⟨by rw [h.1, hcv], hW.andThen h.2⟩)
    have HOf := Lib.hid (fun W (hW : Below wc.heap.size wc W) => PatOf_any l A3 n3 c3 W (by omega) HC3.out.1 HC3.out.2 HL3.out HBy.out (Z3.out.keep (HBc.out.andThen hW)))
    clear hcb htx hcv HK HP1 HP2
    go_upto_region 7 with (go_at_call 17; refine HR1.out.mono ?_; clear HR1; rintro e' w2 ⟨k1, at1, rfl, hb2, hk1⟩; have HB := Lib.hid (HB.out.andThen hb2); have HK1 := Lib.hid hk1; clear zz; have zz := HAll.out _ HB.out; clear hb2 hk1)
    go_upto_region 8 with (go_at_call 17; refine (HR2.out _ HB.out).mono ?_; clear HR2; rintro e' w3 ⟨k2, at2, rfl, hb2, hk2⟩; have HB := Lib.hid (HB.out.andThen hb2); have HK2 := Lib.hid hk2; clear zz; have zz := HAll.out _ HB.out; clear hb2 hk2)

    have HX1len := Lib.hid X1.out.len2
    rcases HK1.out with ⟨hR1, rfl⟩ | ⟨hR1, k1a, k1b⟩
    · rcases HK2.out with ⟨hR2, rfl⟩ | ⟨hR2, k2a, k2b⟩
      · clear HK1 HK2
        refine wp_region_qq (fun W => Below wc.heap.size wc W) (by kernel_rfl) (by kernel_rfl) (bel_drewN HB.out 1) ?_
        repeat (
          first
            | (apply qq_want
               · rfl
               · intro W hW
                 have zz := HAll.out W hW
                 go_simp
                 first
                   | done
                   | exact rfl
                   | with_reducible exact HCx.out W hW
                   | with_reducible exact HCp.out W hW
                   | with_reducible exact HTx.out W hW
                   | with_reducible exact HTp.out W hW
                   | with_reducible exact HMx.out W hW
                   | with_reducible exact HMp.out W hW)
            | (refine qq_pass ?_ ?_
               · rfl)
          try simp only [Act.put, List.setIfInBounds_toArray, List.set_cons_zero, List.set_cons_succ])
        refine qq_nil ?_
        intro wq hbq
        have HB := Lib.hid hbq
        clear hbq zz
        have zz := HAll.out _ HB.out
        go_wp2_with fail
        have HF1 := Lib.hid (right_fits hR1)
        have hm128 := right_few hR1
        have hl300 := bytesP_len hR1
        have HRg := Lib.hid hR1
        rw [HX1len.out] at hm128
        have HBy1 := Lib.hid (fun W (hW : Below wc.heap.size wc W) => PatBytes_any L1 E1 A1 D1 n1 c1 m1 e1 W HL1.out (by omega) (by omega) (Z1.out.keep (HBc.out.andThen hW)) (X1.out.keep hW) HF1.out.1 HF1.out.2.1)
        have HRb := Lib.hid (fun W (hW : Below wc.heap.size wc W) => RefBytes_any L1 E1 A1 B1 n1 c1 m1 d1 W hR1 HL1.out HC1.out (Z1.out.keep (HBc.out.andThen hW)) (Y1.out.keep (HBc.out.andThen hW)) hm128 (fun x hx => by have := HF1.out.2.2 x hx; unfold fits at this; omega))
        obtain ⟨bs, hbs⟩ : ∃ bs, bs = bytesP L1 E1 := ⟨_, rfl⟩
        have HBs := Lib.hid hbs
        have HBq := Lib.hid (show Bys bs from by rw [hbs]; exact bytesP_bys)
        rw [← hbs] at HBy1 HRb hl300
        obtain ⟨bn, hbn⟩ : ∃ bn, bn = bs.length := ⟨_, rfl⟩
        have HBn := Lib.hid hbn.symm
        rw [← hbn] at HBy1 HRb hl300
        clear hbs hbn hR1
        go_upto_region 12 with (go_at_call 24; refine (HBy1.out _ HB.out).mono ?_; clear HBy1; rintro e' w4 ⟨C4, q4, rfl, hs4, hc4, hb4⟩; have HB := Lib.hid (HB.out.andThen hb4); have HS4 := Lib.hid hs4; have HC4 := Lib.hid hc4; clear zz; have zz := HAll.out _ HB.out; clear hs4 hc4 hb4)
        have HO4 := Lib.hid (PatOf_yes HRg.out HBs.out.symm (PatOf_any bs C4 bn q4 w4 (by omega) HC4.out.1 HC4.out.2 HBn.out HBq.out HS4.out))
        rw [HL1.out] at HO4
        go_upto_region 15 with (first
          | (go_at_call 25; refine HO4.out.mono ?_; clear HO4; rintro e' w5 ⟨A5, c5, B5, m5, d5, rfl, hs5, ht5, _, hb5⟩; have hal := bel_al (Below.refl w5.heap.size w5) (.cells #[.slice A5 n1 c5, .slice B5 m5 d5] 31); have hme := ht5.len2; rw [HX1len.out] at hme; subst hme; have HB := Lib.hid ((HB.out.andThen hb5).andThen hal); have HS5 := Lib.hid (HS4.out.keep (hb5.andThen hal)); clear zz; have zz := HAll.out _ HB.out; have HSm := Lib.hid (Same08_any L1 L1 E1 E1 A5 A1 B5 B1 n1 n1 m1 m1 c5 c1 d5 d1 _ HL1.out HL1.out (by omega) (by omega) (hs5.keep hal) (Z1.out.keep (HBc.out.andThen HB.out)) (ht5.keep hal) (Y1.out.keep (HBc.out.andThen HB.out))); rw [show decide (L1 = L1 ∧ E1 = E1) = true from decide_eq_true ⟨rfl, rfl⟩] at HSm; clear hs5 ht5 hb5 hal)
          | (go_at_call 26; refine HSm.out.mono ?_; clear HSm; rintro e' w6 ⟨rfl, hb6⟩; have HB := Lib.hid (HB.out.andThen hb6); have HS6 := Lib.hid (HS5.out.keep hb6); clear zz; have zz := HAll.out _ HB.out; clear hb6)
          | (go_at_call 28; refine (HRb.out _ HB.out).mono ?_; clear HRb; rintro e' w7 ⟨C7, q7, rfl, hs7, hb7⟩; have HB := Lib.hid (HB.out.andThen hb7); have HSn := Lib.hid (Same_any bs bs C4 C7 bn bn q4 q7 w7 HBn.out HBn.out (HS6.out.keep hb7) hs7 (by omega)); rw [show decide (bs = bs) = true from decide_eq_true rfl] at HSn; clear zz; have zz := HAll.out _ HB.out; clear hb7 hs7)
          | (go_at_call 27; refine HSn.out.mono ?_; clear HSn; rintro e' w8 ⟨rfl, hb8⟩; have HB := Lib.hid (HB.out.andThen hb8); clear zz; have zz := HAll.out _ HB.out; clear hb8)
          | fail)
        have HTail : True := trivial
        clear HCx HCp HTx HTp HMx HMp
        by_cases hP : ∃ L E, rightP L E ∧ bytesP L E = l
        · obtain ⟨L, E, hR, hLE⟩ := hP
          have HLE := Lib.hid hLE
          have HRz := Lib.hid hR
          have HOy := Lib.hid (fun W (hW : Below wc.heap.size wc W) => PatOf_yes hR hLE (HOf.out W hW))
          have hn8 := hR.1.1
          have HFt := Lib.hid (right_fits hR)
          have hm28 := right_few hR
          clear hR hLE HOf
          go_wp2_with (first
            | (go_at_call 25; refine (HOy.out _ HB.out).mono ?_; clear HOy; rintro e' w6 ⟨A6, c6, B6, m6, d6, rfl, hs6, ht6, hc6, hb6⟩; have hme := ht6.len2; have hbe := hb6; have hk6 := Blk.new w6 31 #[.slice A6 L.length c6, .slice B6 m6 d6]; have hal := bel_al (Below.refl w6.heap.size w6) (.cells #[.slice A6 L.length c6, .slice B6 m6 d6] 31); have HS6 := Lib.hid (hs6.keep hal); have HT6 := Lib.hid (ht6.keep hal); have HK6 := Lib.hid hk6; have HB6 := Lib.hid ((HB.out.andThen hb6).andThen hal); have HRt6 := Lib.hid (right_nil HRz.out (PatRight_any L E A6 B6 L.length c6 m6 d6 _ rfl (by omega) (by omega) (hs6.keep hal) (ht6.keep hal))); have HM6 := Lib.hid hme; have HC6 := Lib.hid hc6; clear hs6 ht6 hc6 hb6 hbe hk6 hal hme)
            | (go_at_call 30; refine HRt6.out.mono ?_; clear HRt6; rintro e' w7 ⟨rfl, hb7⟩; have HB7 := Lib.hid (HB6.out.andThen hb7); have hk7 := HK6.out.keep hb7; have y0 := hk7.cell 0; have y1 := hk7.cell 1; have HBy7 := Lib.hid (PatBytes_any L E A6 B6 L.length c6 m6 d6 w7 rfl (by omega) (by rw [← HM6.out]; omega) (HS6.out.keep hb7) (HT6.out.keep hb7) HFt.out.1 HFt.out.2.1); simp at y0 y1; clear hb7 hk7)
            | (go_at_call 24; refine HBy7.out.mono ?_; clear HBy7; rintro e' w8 ⟨C8, k8, rfl, hs8, hc8, hb8⟩; have HB8 := Lib.hid (HB7.out.andThen hb8); rw [HLE.out] at hs8 ⊢; have HSm8 := Lib.hid (Same_any l l C8 A3 l.length n3 k8 c3 w8 rfl HL3.out hs8 (Z3.out.keep (HBc.out.andThen HB8.out)) (by rw [HL3.out]; omega)); clear hs8 hc8 hb8)
            | (go_at_call 27; refine HSm8.out.mono ?_; clear HSm8; rintro e' w9 ⟨rfl, hb9⟩; have HB9 := Lib.hid (HB8.out.andThen hb9); clear hb9)
            | fail)
          go_ret
          exact ⟨by first | rfl | (simp), HWc.out.andThen HB9.out⟩
        · have HOn := Lib.hid (fun W (hW : Below wc.heap.size wc W) => PatOf_no (fun L E hr he => hP ⟨L, E, hr, he⟩) (HOf.out W hW))
          clear hP HOf
          go_wp2_with (first
            | (go_at_call 25; refine (HOn.out _ HB.out).mono ?_; clear HOn; rintro e' w6 ⟨Er, T6, x6, rfl, he6, hp6, hb6⟩; have hal := bel_al (Below.refl w6.heap.size w6) (.cells #[.slice none 0 0, .slice none 0 0] 31); have HB6 := Lib.hid ((HB.out.andThen hb6).andThen hal); have HCd := Lib.hid (Code_any Er _ _ (he6.keep hal) (HGw.out.keep (HBc.out.andThen HB6.out))); clear he6 hb6 hal)
            | (go_at_call 29; refine HCd.out.mono ?_; clear HCd; rintro e' w7 ⟨rfl, hb7⟩; have HB7 := Lib.hid (HB6.out.andThen hb7); clear hb7)
            | fail)
          go_ret
          exact ⟨rfl, HWc.out.andThen HB7.out⟩
      · have hk20 : (k2 == 0) = false := by simp; omega
        have hkw : IntKind.i64.wrap k2 = k2 := by rw [IntKind.wrap_i64]; omega
        clear HK1 HK2
        refine wp_region_qq (fun W => Below wc.heap.size wc W) (by kernel_rfl) (by kernel_rfl) (bel_drewN HB.out 1) ?_
        repeat (
          first
            | (apply qq_want
               · rfl
               · intro W hW
                 have zz := HAll.out W hW
                 go_simp
                 first
                   | done
                   | exact rfl
                   | with_reducible exact HCx.out W hW
                   | with_reducible exact HCp.out W hW
                   | with_reducible exact HTx.out W hW
                   | with_reducible exact HTp.out W hW
                   | with_reducible exact HMx.out W hW
                   | with_reducible exact HMp.out W hW)
            | (refine qq_pass ?_ ?_
               · rfl)
          try simp only [Act.put, List.setIfInBounds_toArray, List.set_cons_zero, List.set_cons_succ])
        refine qq_nil ?_
        intro wq hbq
        have HB := Lib.hid hbq
        clear hbq zz
        have zz := HAll.out _ HB.out
        go_wp2_with fail
        have HF1 := Lib.hid (right_fits hR1)
        have hm128 := right_few hR1
        have hl300 := bytesP_len hR1
        have HRg := Lib.hid hR1
        rw [HX1len.out] at hm128
        have HBy1 := Lib.hid (fun W (hW : Below wc.heap.size wc W) => PatBytes_any L1 E1 A1 D1 n1 c1 m1 e1 W HL1.out (by omega) (by omega) (Z1.out.keep (HBc.out.andThen hW)) (X1.out.keep hW) HF1.out.1 HF1.out.2.1)
        have HRb := Lib.hid (fun W (hW : Below wc.heap.size wc W) => RefBytes_any L1 E1 A1 B1 n1 c1 m1 d1 W hR1 HL1.out HC1.out (Z1.out.keep (HBc.out.andThen hW)) (Y1.out.keep (HBc.out.andThen hW)) hm128 (fun x hx => by have := HF1.out.2.2 x hx; unfold fits at this; omega))
        obtain ⟨bs, hbs⟩ : ∃ bs, bs = bytesP L1 E1 := ⟨_, rfl⟩
        have HBs := Lib.hid hbs
        have HBq := Lib.hid (show Bys bs from by rw [hbs]; exact bytesP_bys)
        rw [← hbs] at HBy1 HRb hl300
        obtain ⟨bn, hbn⟩ : ∃ bn, bn = bs.length := ⟨_, rfl⟩
        have HBn := Lib.hid hbn.symm
        rw [← hbn] at HBy1 HRb hl300
        clear hbs hbn hR1
        go_upto_region 12 with (go_at_call 24; refine (HBy1.out _ HB.out).mono ?_; clear HBy1; rintro e' w4 ⟨C4, q4, rfl, hs4, hc4, hb4⟩; have HB := Lib.hid (HB.out.andThen hb4); have HS4 := Lib.hid hs4; have HC4 := Lib.hid hc4; clear zz; have zz := HAll.out _ HB.out; clear hs4 hc4 hb4)
        have HO4 := Lib.hid (PatOf_yes HRg.out HBs.out.symm (PatOf_any bs C4 bn q4 w4 (by omega) HC4.out.1 HC4.out.2 HBn.out HBq.out HS4.out))
        rw [HL1.out] at HO4
        go_upto_region 15 with (first
          | (go_at_call 25; refine HO4.out.mono ?_; clear HO4; rintro e' w5 ⟨A5, c5, B5, m5, d5, rfl, hs5, ht5, _, hb5⟩; have hal := bel_al (Below.refl w5.heap.size w5) (.cells #[.slice A5 n1 c5, .slice B5 m5 d5] 31); have hme := ht5.len2; rw [HX1len.out] at hme; subst hme; have HB := Lib.hid ((HB.out.andThen hb5).andThen hal); have HS5 := Lib.hid (HS4.out.keep (hb5.andThen hal)); clear zz; have zz := HAll.out _ HB.out; have HSm := Lib.hid (Same08_any L1 L1 E1 E1 A5 A1 B5 B1 n1 n1 m1 m1 c5 c1 d5 d1 _ HL1.out HL1.out (by omega) (by omega) (hs5.keep hal) (Z1.out.keep (HBc.out.andThen HB.out)) (ht5.keep hal) (Y1.out.keep (HBc.out.andThen HB.out))); rw [show decide (L1 = L1 ∧ E1 = E1) = true from decide_eq_true ⟨rfl, rfl⟩] at HSm; clear hs5 ht5 hb5 hal)
          | (go_at_call 26; refine HSm.out.mono ?_; clear HSm; rintro e' w6 ⟨rfl, hb6⟩; have HB := Lib.hid (HB.out.andThen hb6); have HS6 := Lib.hid (HS5.out.keep hb6); clear zz; have zz := HAll.out _ HB.out; clear hb6)
          | (go_at_call 28; refine (HRb.out _ HB.out).mono ?_; clear HRb; rintro e' w7 ⟨C7, q7, rfl, hs7, hb7⟩; have HB := Lib.hid (HB.out.andThen hb7); have HSn := Lib.hid (Same_any bs bs C4 C7 bn bn q4 q7 w7 HBn.out HBn.out (HS6.out.keep hb7) hs7 (by omega)); rw [show decide (bs = bs) = true from decide_eq_true rfl] at HSn; clear zz; have zz := HAll.out _ HB.out; clear hb7 hs7)
          | (go_at_call 27; refine HSn.out.mono ?_; clear HSn; rintro e' w8 ⟨rfl, hb8⟩; have HB := Lib.hid (HB.out.andThen hb8); clear zz; have zz := HAll.out _ HB.out; clear hb8)
          | fail)
        have HTail : True := trivial
        clear HCx HCp HTx HTp HMx HMp
        by_cases hP : ∃ L E, rightP L E ∧ bytesP L E = l
        · obtain ⟨L, E, hR, hLE⟩ := hP
          have HLE := Lib.hid hLE
          have HRz := Lib.hid hR
          have HOy := Lib.hid (fun W (hW : Below wc.heap.size wc W) => PatOf_yes hR hLE (HOf.out W hW))
          have hn8 := hR.1.1
          have HFt := Lib.hid (right_fits hR)
          have hm28 := right_few hR
          clear hR hLE HOf
          go_wp2_with (first
            | (go_at_call 25; refine (HOy.out _ HB.out).mono ?_; clear HOy; rintro e' w6 ⟨A6, c6, B6, m6, d6, rfl, hs6, ht6, hc6, hb6⟩; have hme := ht6.len2; have hbe := hb6; have hk6 := Blk.new w6 31 #[.slice A6 L.length c6, .slice B6 m6 d6]; have hal := bel_al (Below.refl w6.heap.size w6) (.cells #[.slice A6 L.length c6, .slice B6 m6 d6] 31); have HS6 := Lib.hid (hs6.keep hal); have HT6 := Lib.hid (ht6.keep hal); have HK6 := Lib.hid hk6; have HB6 := Lib.hid ((HB.out.andThen hb6).andThen hal); have HRt6 := Lib.hid (right_nil HRz.out (PatRight_any L E A6 B6 L.length c6 m6 d6 _ rfl (by omega) (by omega) (hs6.keep hal) (ht6.keep hal))); have HM6 := Lib.hid hme; have HC6 := Lib.hid hc6; clear hs6 ht6 hc6 hb6 hbe hk6 hal hme)
            | (go_at_call 30; refine HRt6.out.mono ?_; clear HRt6; rintro e' w7 ⟨rfl, hb7⟩; have HB7 := Lib.hid (HB6.out.andThen hb7); have hk7 := HK6.out.keep hb7; have y0 := hk7.cell 0; have y1 := hk7.cell 1; have HBy7 := Lib.hid (PatBytes_any L E A6 B6 L.length c6 m6 d6 w7 rfl (by omega) (by rw [← HM6.out]; omega) (HS6.out.keep hb7) (HT6.out.keep hb7) HFt.out.1 HFt.out.2.1); simp at y0 y1; clear hb7 hk7)
            | (go_at_call 24; refine HBy7.out.mono ?_; clear HBy7; rintro e' w8 ⟨C8, k8, rfl, hs8, hc8, hb8⟩; have HB8 := Lib.hid (HB7.out.andThen hb8); rw [HLE.out] at hs8 ⊢; have HSm8 := Lib.hid (Same_any l l C8 A3 l.length n3 k8 c3 w8 rfl HL3.out hs8 (Z3.out.keep (HBc.out.andThen HB8.out)) (by rw [HL3.out]; omega)); clear hs8 hc8 hb8)
            | (go_at_call 27; refine HSm8.out.mono ?_; clear HSm8; rintro e' w9 ⟨rfl, hb9⟩; have HB9 := Lib.hid (HB8.out.andThen hb9); clear hb9)
            | fail)
          go_ret
          exact ⟨by first | rfl | (simp), HWc.out.andThen HB9.out⟩
        · have HOn := Lib.hid (fun W (hW : Below wc.heap.size wc W) => PatOf_no (fun L E hr he => hP ⟨L, E, hr, he⟩) (HOf.out W hW))
          clear hP HOf
          go_wp2_with (first
            | (go_at_call 25; refine (HOn.out _ HB.out).mono ?_; clear HOn; rintro e' w6 ⟨Er, T6, x6, rfl, he6, hp6, hb6⟩; have hal := bel_al (Below.refl w6.heap.size w6) (.cells #[.slice none 0 0, .slice none 0 0] 31); have HB6 := Lib.hid ((HB.out.andThen hb6).andThen hal); have HCd := Lib.hid (Code_any Er _ _ (he6.keep hal) (HGw.out.keep (HBc.out.andThen HB6.out))); clear he6 hb6 hal)
            | (go_at_call 29; refine HCd.out.mono ?_; clear HCd; rintro e' w7 ⟨rfl, hb7⟩; have HB7 := Lib.hid (HB6.out.andThen hb7); clear hb7)
            | fail)
          go_ret
          exact ⟨rfl, HWc.out.andThen HB7.out⟩
    · have hk10 : (k1 == 0) = false := by simp; omega
      have hk2r : 0 ≤ k2 ∧ k2 ≤ 6 := by rcases HK2.out with ⟨_, h⟩ | ⟨_, h, h'⟩ <;> omega
      obtain ⟨ks, hks⟩ : ∃ ks, k1 + k2 = ks := ⟨_, rfl⟩
      have hkw : IntKind.i64.wrap ks = ks := by rw [IntKind.wrap_i64]; omega
      have hk0 : (ks == 0) = false := by simp; omega
      clear HK1 HK2 k1a k1b hk2r
      refine wp_region_qq (fun W => Below wc.heap.size wc W) (by kernel_rfl) (by kernel_rfl) (bel_drewN HB.out 1) ?_
      repeat (
        first
          | (apply qq_want
             · rfl
             · intro W hW
               have zz := HAll.out W hW
               go_simp
               first
                 | done
                 | exact rfl
                 | with_reducible exact HCx.out W hW
                 | with_reducible exact HCp.out W hW
                 | with_reducible exact HTx.out W hW
                 | with_reducible exact HTp.out W hW
                 | with_reducible exact HMx.out W hW
                 | with_reducible exact HMp.out W hW)
          | (refine qq_pass ?_ ?_
             · rfl)
        try simp only [Act.put, List.setIfInBounds_toArray, List.set_cons_zero, List.set_cons_succ])
      refine qq_nil ?_
      intro wq hbq
      have HB := Lib.hid hbq
      clear hbq zz
      have zz := HAll.out _ HB.out
      go_wp2_with fail
      have HTail : True := trivial
      clear HCx HCp HTx HTp HMx HMp
      by_cases hP : ∃ L E, rightP L E ∧ bytesP L E = l
      · obtain ⟨L, E, hR, hLE⟩ := hP
        have HLE := Lib.hid hLE
        have HRz := Lib.hid hR
        have HOy := Lib.hid (fun W (hW : Below wc.heap.size wc W) => PatOf_yes hR hLE (HOf.out W hW))
        have hn8 := hR.1.1
        have HFt := Lib.hid (right_fits hR)
        have hm28 := right_few hR
        clear hR hLE HOf
        go_wp2_with (first
          | (go_at_call 25; refine (HOy.out _ HB.out).mono ?_; clear HOy; rintro e' w6 ⟨A6, c6, B6, m6, d6, rfl, hs6, ht6, hc6, hb6⟩; have hme := ht6.len2; have hbe := hb6; have hk6 := Blk.new w6 31 #[.slice A6 L.length c6, .slice B6 m6 d6]; have hal := bel_al (Below.refl w6.heap.size w6) (.cells #[.slice A6 L.length c6, .slice B6 m6 d6] 31); have HS6 := Lib.hid (hs6.keep hal); have HT6 := Lib.hid (ht6.keep hal); have HK6 := Lib.hid hk6; have HB6 := Lib.hid ((HB.out.andThen hb6).andThen hal); have HRt6 := Lib.hid (right_nil HRz.out (PatRight_any L E A6 B6 L.length c6 m6 d6 _ rfl (by omega) (by omega) (hs6.keep hal) (ht6.keep hal))); have HM6 := Lib.hid hme; have HC6 := Lib.hid hc6; clear hs6 ht6 hc6 hb6 hbe hk6 hal hme)
          | (go_at_call 30; refine HRt6.out.mono ?_; clear HRt6; rintro e' w7 ⟨rfl, hb7⟩; have HB7 := Lib.hid (HB6.out.andThen hb7); have hk7 := HK6.out.keep hb7; have y0 := hk7.cell 0; have y1 := hk7.cell 1; have HBy7 := Lib.hid (PatBytes_any L E A6 B6 L.length c6 m6 d6 w7 rfl (by omega) (by rw [← HM6.out]; omega) (HS6.out.keep hb7) (HT6.out.keep hb7) HFt.out.1 HFt.out.2.1); simp at y0 y1; clear hb7 hk7)
          | (go_at_call 24; refine HBy7.out.mono ?_; clear HBy7; rintro e' w8 ⟨C8, k8, rfl, hs8, hc8, hb8⟩; have HB8 := Lib.hid (HB7.out.andThen hb8); rw [HLE.out] at hs8 ⊢; have HSm8 := Lib.hid (Same_any l l C8 A3 l.length n3 k8 c3 w8 rfl HL3.out hs8 (Z3.out.keep (HBc.out.andThen HB8.out)) (by rw [HL3.out]; omega)); clear hs8 hc8 hb8)
          | (go_at_call 27; refine HSm8.out.mono ?_; clear HSm8; rintro e' w9 ⟨rfl, hb9⟩; have HB9 := Lib.hid (HB8.out.andThen hb9); clear hb9)
          | fail)
        go_ret
        exact ⟨by first | rfl | (simp), HWc.out.andThen HB9.out⟩
      · have HOn := Lib.hid (fun W (hW : Below wc.heap.size wc W) => PatOf_no (fun L E hr he => hP ⟨L, E, hr, he⟩) (HOf.out W hW))
        clear hP HOf
        go_wp2_with (first
          | (go_at_call 25; refine (HOn.out _ HB.out).mono ?_; clear HOn; rintro e' w6 ⟨Er, T6, x6, rfl, he6, hp6, hb6⟩; have hal := bel_al (Below.refl w6.heap.size w6) (.cells #[.slice none 0 0, .slice none 0 0] 31); have HB6 := Lib.hid ((HB.out.andThen hb6).andThen hal); have HCd := Lib.hid (Code_any Er _ _ (he6.keep hal) (HGw.out.keep (HBc.out.andThen HB6.out))); clear he6 hb6 hal)
          | (go_at_call 29; refine HCd.out.mono ?_; clear HCd; rintro e' w7 ⟨rfl, hb7⟩; have HB7 := Lib.hid (HB6.out.andThen hb7); clear hb7)
          | fail)
        go_ret
        exact ⟨rfl, HWc.out.andThen HB7.out⟩

theorem PatTexts_main (A1 : Option Addr) (n1 c1 : Nat) (B1 : Option Addr) (m1 d1 : Nat) (L1 : List Int) (E1 : List (Int × Int)) (A2 : Option Addr) (n2 c2 : Nat) (B2 : Option Addr) (m2 d2 : Nat) (L2 : List Int) (E2 : List (Int × Int)) (A3 : Option Addr) (n3 c3 : Nat) (l : List Int) (w : World) (hg : ErrT w) (hT : TabW w)
    (hl1 : L1.length = n1) (s1 : Sl w 1 A1 n1 (L1.map (Value.int .i64))) (t1 : Sl w 2 B1 m1 (Rk.cells E1)) (hc1 : n1 ≤ c1 ∧ c1 ≤ 9223372036854775807) (iL1 : ∀ x ∈ L1, i64P x) (iE1 : ∀ e ∈ E1, i64P e.1 ∧ i64P e.2)
    (hl2 : L2.length = n2) (s2 : Sl w 1 A2 n2 (L2.map (Value.int .i64))) (t2 : Sl w 2 B2 m2 (Rk.cells E2)) (hc2 : n2 ≤ c2 ∧ c2 ≤ 9223372036854775807) (iL2 : ∀ x ∈ L2, i64P x) (iE2 : ∀ e ∈ E2, i64P e.1 ∧ i64P e.2)
    (m3 : n3 ≤ maxLen) (hl3 : l.length = n3) (s3 : Sl w 1 A3 n3 (l.map (Value.int .u8))) (w3 : ∀ z ∈ l, (Lit.int .u8 z).wf = true) (hc3 : n3 ≤ c3 ∧ c3 ≤ 9223372036854775807) :
    Calls Tryz.prog 3 #[pv A1 n1 c1 B1 m1 d1, pv A2 n2 c2 B2 m2 d2, .slice A3 n3 c3] w fun e w' => e = .returned (.bool true) ∧ Below w.heap.size w w' :=
  PatTexts_walk L1 L2 l E1 E2 A1 B1 A2 B2 A3 n1 c1 m1 d1 n2 c2 m2 d2 n3 c3 w hg hT hl1 hl2 hl3 s1 s2 t1 t2 s3 (fun z hz => by have := wf_u8 (w3 z hz); omega) hc3 hc1 iL1 iE1
end Go.Proofs.YtddedghnnkcnhaaGreatDoor
