/-
  Part 13 of the proof of LwProgParts: TsC, TsD, Chain, Chain2.
-/
import Derived.BigQuiet
import Derived.Deep.QuietTactic
import Derived.Test.YtapledphhfiimaaGreatDoorLwProgPartsM10
import Derived.Test.YtapledphhfiimaaGreatDoorLwProgPartsM11
import Derived.Test.YtapledphhfiimaaGreatDoorLwProgPartsM12
import Derived.Test.YtapledphhfiimaaGreatDoorLwProgPartsM1
import Derived.Deep.LoopGhost
/-
  Tests of patterns: the walks of pat.Has, triangle, and of holds for the kinds 1, 6, 8.
-/
namespace Go.Proofs.YtapledphhfiimaaGreatDoor
open Go.RowKit Go.Proofs.YtapledphhfiimaaGreatDoor.Pg
attribute [local go_sem ↓] Go.wp_at_zero Go.wp_at_succ
set_option maxRecDepth 100000
set_option linter.unusedVariables false

set_option maxHeartbeats 1000000 in
theorem IndexE_any (E : List (Int × Int)) (B : Option Addr) (m d : Nat) (t1 t2 : Int) (w : World) (hm : m ≤ 1000000) (ht : Sl w 2 B m (Rk.cells E)) :
    Calls Tryz.prog 122 #[.slice B m d, .agg #[.int .i64 t1, .int .i64 t2]] w fun e w' => ∃ r : Int, e = .returned (.int .i64 r) ∧ decide (0 ≤ r) = (E.any fun e => decide (e = (t1, t2))) ∧ Below w.heap.size w w' := by
  have HB0 := Lib.hid (bel_al (Below.refl w.heap.size w) (.cells #[.int .i64 t1, .int .i64 t2] 53))
  have HK := Lib.hid (Blk.new w 53 #[.int .i64 t1, .int .i64 t2])
  have HT := Lib.hid ht
  have HL := Lib.hid ht.len2
  clear ht
  go_enter Tryz.func122, Tryz.ntmps122
  go_wp2_with fail
  go_loopw [8] (fun i wr => ∃ k : Nat, k ≤ m ∧ i = .int .i64 (k : Int) ∧ Hid (∀ e ∈ E.take k, decide (e = (t1, t2)) = false) ∧ Hid (Below w.heap.size w wr) ∧ Hid (Blk wr w.heap.size 53 #[.int .i64 t1, .int .i64 t2])) (fun i _ => m - (intOf i).toNat)
  case atStart => exact ⟨0, Nat.zero_le _, rfl, Lib.hid (fun e he => by simp at he), HB0, HK⟩
  case round =>
    obtain ⟨k, hk, rfl, HD, HB, HKr⟩ := hrel
    have b0 := HKr.out.cell 0
    have b1 := HKr.out.cell 1
    simp at b0 b1
    by_cases hlt : k < m
    · have hlt' : (k : Int) < (m : Int) := by omega
      have hk0 : (0 : Int) ≤ (k : Int) := by omega
      obtain ⟨⟨x, y⟩, he⟩ : ∃ e, E[k]? = some e := ⟨_, List.getElem?_eq_getElem (by rw [HL.out]; exact hlt)⟩
      obtain ⟨bb, off, rfl, c0, c1⟩ := (HT.out.keep HB.out).edge hlt he
      simp only at c0 c1
      have HX := Lib.hid he
      clear he
      have HNo := Lib.hid (show (x, y) ≠ (t1, t2) → ∀ e ∈ E.take (k + 1), decide (e = (t1, t2)) = false from fun h e he => by
        obtain ⟨h1, h2⟩ := List.getElem?_eq_some_iff.1 HX.out
        rw [List.take_succ_eq_append_getElem h1, h2] at he
        rcases List.mem_append.1 he with h3 | h3
        · exact HD.out e h3
        · rw [List.mem_singleton.1 h3]; exact decide_eq_false h)
      by_cases hx : x = t1
      · subst hx
        by_cases hy : y = t2
        · subst hy
          have HA := Lib.hid (show decide ((0 : Int) ≤ (k : Int)) = (E.any fun e => decide (e = (x, y))) from by
            rw [decide_eq_true hk0]
            exact (List.any_eq_true.2 ⟨(x, y), List.mem_of_getElem? HX.out, decide_eq_true rfl⟩).symm)
          clear HNo
          go_wp2_with fail
          go_quiet (fail)
          go_wp2_with fail
          go_ret
          exact ⟨(k : Int), rfl, HA.out, bel_drewN HB.out _⟩
        · have e2 : (t2 == y) = false := by simpa using fun h => hy h.symm
          have HN := Lib.hid (HNo.out (fun h => hy (Prod.ext_iff.1 h).2))
          clear hy HNo
          go_wp2_with fail
          go_quiet (fail)
          go_wp2_with fail
          go_roundw
          case rel => exact ⟨k + 1, by omega, by go_num, HN, Lib.hid (bel_drewN HB.out _), Lib.hid (HKr.out.keep (bel_drewN (Below.refl _ _) _))⟩
          case measure => simp [intOf]; omega
      · have e1 : (t1 == x) = false := by simpa using fun h => hx h.symm
        have HN := Lib.hid (HNo.out (fun h => hx (Prod.ext_iff.1 h).1))
        clear hx HNo
        go_wp2_with fail
        go_quiet (fail)
        go_wp2_with fail
        go_roundw
        case rel => exact ⟨k + 1, by omega, by go_num, HN, Lib.hid (bel_drewN HB.out _), Lib.hid (HKr.out.keep (bel_drewN (Below.refl _ _) _))⟩
        case measure => simp [intOf]; omega
    · obtain rfl : k = m := by omega
      have hlt' : ¬ (k : Int) < (k : Int) := by omega
      have HA := Lib.hid (show decide ((0 : Int) ≤ -1) = (E.any fun e => decide (e = (t1, t2))) from by
        have h := HD.out
        rw [List.take_of_length_le (by rw [HL.out]; exact Nat.le_refl _)] at h
        cases ha : E.any fun e => decide (e = (t1, t2)) with
        | false => rfl
        | true =>
          obtain ⟨x, hx, hq⟩ := List.any_eq_true.1 ha
          rw [h x hx] at hq
          cases hq)
      go_wp2_with fail
      go_ret
      exact ⟨-1, rfl, HA.out, HB.out⟩
theorem ContainsE_any (E : List (Int × Int)) (B : Option Addr) (m d : Nat) (t1 t2 : Int) (w : World) (hm : m ≤ 1000000) (ht : Sl w 2 B m (Rk.cells E)) :
    Calls Tryz.prog 85 #[.slice B m d, .agg #[.int .i64 t1, .int .i64 t2]] w fun e w' => e = .returned (.bool (E.any fun e => decide (e = (t1, t2)))) ∧ Below w.heap.size w w' := by
  have HB0 := Lib.hid (bel_al (Below.refl w.heap.size w) (.cells #[.int .i64 t1, .int .i64 t2] 53))
  have HI := Lib.hid (IndexE_any E B m d t1 t2 (w.alloc (.cells #[.int .i64 t1, .int .i64 t2] 53)) hm (ht.keep HB0.out))
  clear ht
  go_enter Tryz.func85, Tryz.ntmps85
  go_wp2_with (go_at_call 122; refine HI.out.mono ?_; clear HI; rintro e w2 ⟨r, rfl, hr, hb2⟩; have HR := Lib.hid hr; have HB2 := Lib.hid (HB0.out.andThen hb2); clear hr hb2)
  go_ret
  exact ⟨ret_bool HR.out, HB2.out⟩
set_option maxHeartbeats 1000000 in
theorem PatHas_any (E : List (Int × Int)) (A B : Option Addr) (n c m d : Nat) (a b : Int) (w : World) (hm : m ≤ 1000000) (ht : Sl w 2 B m (Rk.cells E)) :
    Calls Tryz.prog 60 #[pv A n c B m d, .int .i64 a, .int .i64 b] w fun e w' => e = .returned (.bool (Ts.hasE E a b)) ∧ Below w.heap.size w w' := by
  obtain ⟨w0, hw0⟩ : ∃ W, W = w.alloc (.cells #[.slice A n c, .slice B m d] 30) := ⟨_, rfl⟩
  have HB0 := Lib.hid (show Below w.heap.size w w0 from by rw [hw0]; exact bel_al (Below.refl _ _) _)
  have HK := Lib.hid (show Blk w0 w.heap.size 30 #[.slice A n c, .slice B m d] from by rw [hw0]; exact Blk.new _ _ _)
  obtain ⟨⟨t1, t2⟩, htt⟩ : ∃ t, t = turnE (a, b) := ⟨_, rfl⟩
  have HTu := Lib.hid (show ∀ W, Below w0.heap.size w0 W → Calls Tryz.prog 57 #[.agg #[.int .i64 a, .int .i64 b]] W fun e w' => e = .returned (.agg #[.int .i64 t1, .int .i64 t2]) ∧ Below w0.heap.size w0 w' from fun W hW => (turned_any a b W).mono fun e w' h => ⟨by rw [h.1, ← htt]; rfl, hW.andThen h.2⟩)
  obtain ⟨r, hr⟩ : ∃ r, r = Ts.hasE E a b := ⟨_, rfl⟩
  have HCo := Lib.hid (show ∀ W, Below w0.heap.size w0 W → Calls Tryz.prog 85 #[.slice B m d, .agg #[.int .i64 t1, .int .i64 t2]] W fun e w' => e = .returned (.bool r) ∧ Below w0.heap.size w0 w' from fun W hW => (ContainsE_any E B m d t1 t2 W hm (ht.keep (HB0.out.andThen hW))).mono fun e w' h => ⟨by rw [h.1, hr]; unfold Ts.hasE; rw [← htt], hW.andThen h.2⟩)
  have HAll := Lib.hid (show ∀ W, Below w0.heap.size w0 W → W.cell? ⟨w.heap.size, 1, none⟩ = some (.slice B m d) from fun W hW => (HK.out.keep hW).cell 1)
  rw [← hr]
  clear ht htt hr
  go_enter Tryz.func60, Tryz.ntmps60
  go_upto_region 1 with (fail)
  rw [← hw0]
  clear hw0
  refine wp_region_qq (fun W => Below w0.heap.size w0 W) (by kernel_rfl) (by kernel_rfl) (bel_drewN (Below.refl _ _) 1) ?_
  repeat (
    first
      | (apply qq_want
         · rfl
         · intro W hW
           have zz := HAll.out W hW
           go_simp
           first
             | done
             | exact rfl
             | with_reducible exact HTu.out W hW
             | with_reducible exact HCo.out W hW)
      | (refine qq_pass ?_ ?_
         · rfl)
    try simp only [Act.put, List.setIfInBounds_toArray, List.set_cons_zero, List.set_cons_succ])
  refine qq_nil ?_
  intro wq hbq
  have HBq := Lib.hid (HB0.out.andThen hbq)
  clear hbq
  go_wp2_with fail
  go_ret
  exact ⟨rfl, HBq.out⟩
set_option maxHeartbeats 1000000 in
theorem Tri1_any (E : List (Int × Int)) (A B : Option Addr) (n c m d g : Nat) (p q : Int) (w : World) (hn : n ≤ 1000000) (hm : m ≤ 1000000) (ht : Sl w 2 B m (Rk.cells E)) (hK : Blk w g 30 #[.slice A n c, .slice B m d]) :
    Calls Tryz.prog 139 #[.agg #[.int .i64 p, .int .i64 q], .pointer (some ⟨g, 0, none⟩)] w fun e w' => e = .returned (.bool (Ts.triE n E (p, q))) ∧ Below w.heap.size w w' := by
  have HB0 := Lib.hid (bel_al (Below.refl w.heap.size w) (.cells #[.int .i64 p, .int .i64 q] 53))
  have HKe := Lib.hid (Blk.new w 53 #[.int .i64 p, .int .i64 q])
  have HK0 := Lib.hid (hK.alloc (.cells #[.int .i64 p, .int .i64 q] 53))
  have HH := Lib.hid (fun (a v : Int) (W : World) (hW : Below w.heap.size w W) => PatHas_any E A B n c m d a v W hm (ht.keep hW))
  have k0 := HK0.out.cell 0
  have hgl := hK.lt
  simp at k0
  clear ht hK
  go_enter Tryz.func139, Tryz.ntmps139
  go_wp2_with fail
  go_loopw [8] (fun i wr => ∃ k : Nat, k ≤ n ∧ i = .int .i64 (k : Int) ∧ Hid (∀ v, v < k → (Ts.hasE E p (v : Nat) && Ts.hasE E q (v : Nat)) = false) ∧ Hid (Below w.heap.size w wr) ∧ Hid (Blk wr w.heap.size 53 #[.int .i64 p, .int .i64 q]) ∧ Hid (Blk wr g 30 #[.slice A n c, .slice B m d])) (fun i _ => n - (intOf i).toNat)
  case atStart => exact ⟨0, Nat.zero_le _, rfl, Lib.hid (fun v hv => by omega), HB0, HKe, HK0⟩
  case round =>
    clear k0
    obtain ⟨k, hk, rfl, HD, HB, HKr, HKg⟩ := hrel
    have b0 := HKr.out.cell 0
    have b1 := HKr.out.cell 1
    have g0 := HKg.out.cell 0
    have g1 := HKg.out.cell 1
    simp at b0 b1 g0 g1
    by_cases hlt : k < n
    · have hlt' : (k : Int) < (n : Int) := by omega
      have H1 := Lib.hid (HH.out p (k : Int) wr HB.out)
      have H2 := Lib.hid (HH.out q (k : Int))
      obtain ⟨x, hx⟩ : ∃ x, x = Ts.hasE E p (k : Int) := ⟨_, rfl⟩
      obtain ⟨y, hy⟩ : ∃ y, y = Ts.hasE E q (k : Int) := ⟨_, rfl⟩
      rw [← hx] at H1
      rw [← hy] at H2
      have HT := Lib.hid (show (x && y) = true → Ts.triE n E (p, q) = true from fun h => by
        unfold Ts.triE
        exact List.any_eq_true.2 ⟨k, List.mem_range.2 hlt, by show (Ts.hasE E p (k : Int) && Ts.hasE E q (k : Int)) = true; rw [← hx, ← hy]; exact h⟩)
      have HF := Lib.hid (show (x && y) = false → ∀ v, v < k + 1 → (Ts.hasE E p (v : Nat) && Ts.hasE E q (v : Nat)) = false from fun h v hv => by
        rcases Nat.lt_or_ge v k with h1 | h1
        · exact HD.out v h1
        · obtain rfl : v = k := by omega
          rw [← hx, ← hy]; exact h)
      clear hx hy
      cases x with
      | false =>
        have HN := Lib.hid (HF.out rfl)
        go_wp2_with (go_at_call 60; refine H1.out.mono ?_; clear H1; rintro e w2 ⟨rfl, hb2⟩; have HB2 := Lib.hid (HB.out.andThen hb2); have HK2 := Lib.hid (HKr.out.keep hb2); have HG2 := Lib.hid (HKg.out.keep hb2); clear hb2)
        go_roundw
        case rel => exact ⟨k + 1, by omega, by go_num, HN, HB2, HK2, HG2⟩
        case measure => simp [intOf]; omega
      | true =>
        cases y with
        | false =>
          have HN := Lib.hid (HF.out rfl)
          go_wp2_with (first
            | (go_at_call 60; refine H1.out.mono ?_; clear H1; rintro e w2 ⟨rfl, hb2⟩; have HB2 := Lib.hid (HB.out.andThen hb2); have HK2 := Lib.hid (HKr.out.keep hb2); have HG2 := Lib.hid (HKg.out.keep hb2); have q0 := HK2.out.cell 0; have q1 := HK2.out.cell 1; have r0 := HG2.out.cell 0; have r1 := HG2.out.cell 1; simp at q0 q1 r0 r1; clear hb2)
            | (go_at_call 60; refine (H2.out _ HB2.out).mono ?_; clear H2; rintro e w3 ⟨rfl, hb3⟩; have HB3 := Lib.hid (HB2.out.andThen hb3); have HK3 := Lib.hid (HK2.out.keep hb3); have HG3 := Lib.hid (HG2.out.keep hb3); clear hb3))
          go_roundw
          case rel => exact ⟨k + 1, by omega, by go_num, HN, HB3, HK3, HG3⟩
          case measure => simp [intOf]; omega
        | true =>
          have HN := Lib.hid (HT.out rfl)
          go_wp2_with (first
            | (go_at_call 60; refine H1.out.mono ?_; clear H1; rintro e w2 ⟨rfl, hb2⟩; have HB2 := Lib.hid (HB.out.andThen hb2); have HK2 := Lib.hid (HKr.out.keep hb2); have HG2 := Lib.hid (HKg.out.keep hb2); have q0 := HK2.out.cell 0; have q1 := HK2.out.cell 1; have r0 := HG2.out.cell 0; have r1 := HG2.out.cell 1; simp at q0 q1 r0 r1; clear hb2)
            | (go_at_call 60; refine (H2.out _ HB2.out).mono ?_; clear H2; rintro e w3 ⟨rfl, hb3⟩; have HB3 := Lib.hid (HB2.out.andThen hb3); clear hb3))
          go_ret
          exact ⟨ret_bool HN.out.symm, HB3.out⟩
    · obtain rfl : k = n := by omega
      have hlt' : ¬ (k : Int) < (k : Int) := by omega
      have HN := Lib.hid (show Ts.triE k E (p, q) = false from by
        unfold Ts.triE
        rw [List.any_eq_false]
        intro v hv
        have := HD.out v (List.mem_range.1 hv)
        simp only
        rw [this]
        decide)
      go_wp2_with fail
      go_ret
      exact ⟨ret_bool HN.out.symm, HB.out⟩
end Go.Proofs.YtapledphhfiimaaGreatDoor
/-
  Tests of patterns: the walks of triangle, and of holds for the kinds 1, 6, 8.
-/
namespace Go.Proofs.YtapledphhfiimaaGreatDoor
open Go.RowKit Go.Proofs.YtapledphhfiimaaGreatDoor.Pg
attribute [local go_sem ↓] Go.wp_at_zero Go.wp_at_succ
set_option maxRecDepth 100000
set_option linter.unusedVariables false

set_option maxHeartbeats 1000000 in
theorem IndexT_any (E : List (Int × Int)) (A B : Option Addr) (n c m d g : Nat) (w : World) (hn : n ≤ 1000000) (hm : m ≤ 1000000) (ht : Sl w 2 B m (Rk.cells E)) (hK : Blk w g 30 #[.slice A n c, .slice B m d]) :
    Calls Tryz.prog 163 #[.slice B m d, .func (.func 139) #[] #[.pointer (some ⟨g, 0, none⟩)]] w fun e w' => ∃ r : Int, e = .returned (.int .i64 r) ∧ decide (0 ≤ r) = (E.any (Ts.triE n E)) ∧ Below w.heap.size w w' := by
  have HC := Lib.hid (fun (p q : Int) (W : World) (hW : Below w.heap.size w W) => Tri1_any E A B n c m d g p q W hn hm (ht.keep hW) (hK.keep hW))
  have HT := Lib.hid ht
  have HL := Lib.hid ht.len2
  clear ht hK
  go_enter Tryz.func163, Tryz.ntmps163
  go_wp2_with fail
  go_loopw [8] (fun i wr => ∃ k : Nat, k ≤ m ∧ i = .int .i64 (k : Int) ∧ Hid (∀ e ∈ E.take k, Ts.triE n E e = false) ∧ Hid (Below w.heap.size w wr)) (fun i _ => m - (intOf i).toNat)
  case atStart => exact ⟨0, Nat.zero_le _, rfl, Lib.hid (fun e he => by simp at he), Lib.hid (Below.refl _ _)⟩
  case round =>
    obtain ⟨k, hk, rfl, HD, HB⟩ := hrel
    by_cases hlt : k < m
    · have hlt' : (k : Int) < (m : Int) := by omega
      have hk0 : (0 : Int) ≤ (k : Int) := by omega
      obtain ⟨⟨x, y⟩, he⟩ : ∃ e, E[k]? = some e := ⟨_, List.getElem?_eq_getElem (by rw [HL.out]; exact hlt)⟩
      obtain ⟨bb, off, rfl, c0, c1⟩ := (HT.out.keep HB.out).edge hlt he
      simp only at c0 c1
      have HX := Lib.hid he
      have HCx := Lib.hid (HC.out x y wr HB.out)
      clear he
      cases hq : Ts.triE n E (x, y) with
      | true =>
        rw [hq] at HCx
        have HA := Lib.hid (show decide ((0 : Int) ≤ (k : Int)) = (E.any (Ts.triE n E)) from by
          rw [decide_eq_true hk0]
          exact (List.any_eq_true.2 ⟨(x, y), List.mem_of_getElem? HX.out, hq⟩).symm)
        clear hq
        go_wp2_with (go_at_call 139; refine HCx.out.mono ?_; rintro e w' ⟨rfl, hb2⟩; have HB2 := Lib.hid (HB.out.andThen hb2); clear hb2)
        go_ret
        exact ⟨(k : Int), rfl, HA.out, HB2.out⟩
      | false =>
        rw [hq] at HCx
        have HD2 := Lib.hid (show ∀ e ∈ E.take (k + 1), Ts.triE n E e = false from fun e he => by
          obtain ⟨h1, h2⟩ := List.getElem?_eq_some_iff.1 HX.out
          rw [List.take_succ_eq_append_getElem h1, h2] at he
          rcases List.mem_append.1 he with h | h
          · exact HD.out e h
          · rw [List.mem_singleton.1 h]; exact hq)
        clear hq
        go_wp2_with (go_at_call 139; refine HCx.out.mono ?_; rintro e w' ⟨rfl, hb2⟩; have HB2 := Lib.hid (HB.out.andThen hb2); clear hb2)
        go_roundw
        case rel => exact ⟨k + 1, by omega, by go_num, HD2, HB2⟩
        case measure => simp [intOf]; omega
    · obtain rfl : k = m := by omega
      have hlt' : ¬ (k : Int) < (k : Int) := by omega
      have HA := Lib.hid (show decide ((0 : Int) ≤ -1) = (E.any (Ts.triE n E)) from by
        have h := HD.out
        rw [List.take_of_length_le (by rw [HL.out]; exact Nat.le_refl _)] at h
        cases ha : E.any (Ts.triE n E) with
        | false => rfl
        | true =>
          obtain ⟨x, hx, hq⟩ := List.any_eq_true.1 ha
          rw [h x hx] at hq
          cases hq)
      go_wp2_with fail
      go_ret
      exact ⟨-1, rfl, HA.out, HB.out⟩
theorem ContainsT_any (E : List (Int × Int)) (A B : Option Addr) (n c m d g : Nat) (w : World) (hn : n ≤ 1000000) (hm : m ≤ 1000000) (ht : Sl w 2 B m (Rk.cells E)) (hK : Blk w g 30 #[.slice A n c, .slice B m d]) :
    Calls Tryz.prog 138 #[.slice B m d, .func (.func 139) #[] #[.pointer (some ⟨g, 0, none⟩)]] w fun e w' => e = .returned (.bool (E.any (Ts.triE n E))) ∧ Below w.heap.size w w' := by
  have HC := Lib.hid (IndexT_any E A B n c m d g w hn hm ht hK)
  clear ht hK
  go_enter Tryz.func138, Tryz.ntmps138
  go_wp2_with (go_at_call 163; refine HC.out.mono ?_; clear HC; rintro e w2 ⟨r, rfl, hr, hb2⟩; have HR := Lib.hid hr; have HB2 := Lib.hid hb2; clear hr hb2)
  go_ret
  exact ⟨ret_bool HR.out, HB2.out⟩
theorem Triangle_any (E : List (Int × Int)) (A B : Option Addr) (n c m d : Nat) (w : World) (hn : n ≤ 1000000) (hm : m ≤ 1000000) (ht : Sl w 2 B m (Rk.cells E)) :
    Calls Tryz.prog 103 #[pv A n c B m d] w fun e w' => e = .returned (.bool (E.any (Ts.triE n E))) ∧ Below w.heap.size w w' := by
  have HB0 := Lib.hid (bel_al (Below.refl w.heap.size w) (.cells #[.slice A n c, .slice B m d] 30))
  have HC := Lib.hid (ContainsT_any E A B n c m d w.heap.size (w.alloc (.cells #[.slice A n c, .slice B m d] 30)) hn hm (ht.keep HB0.out) (Blk.new w 30 #[.slice A n c, .slice B m d]))
  clear ht
  go_enter Tryz.func103, Tryz.ntmps103
  go_wp2_with (go_at_call 138; refine HC.out.mono ?_; clear HC; rintro e w2 ⟨rfl, hb2⟩; have HB2 := Lib.hid (HB0.out.andThen hb2); clear hb2)
  go_ret
  exact ⟨rfl, HB2.out⟩
set_option maxHeartbeats 1000000 in
theorem holds_8 (N : Int) (L : List Int) (E : List (Int × Int)) (h8 : L.length ≤ 8) : HoldsOK (8, N) L E := by
  intro A B n c m d w hl hm hs ht
  have HB0 := Lib.hid (bel_al (bel_al (Below.refl w.heap.size w) (.cells #[.int .i64 8, .int .i64 N] 40)) (.cells #[.slice A n c, .slice B m d] 30))
  have HC := Lib.hid (Triangle_any E A B n c m d ((w.alloc (.cells #[.int .i64 8, .int .i64 N] 40)).alloc (.cells #[.slice A n c, .slice B m d] 30)) (by omega) hm (ht.keep HB0.out))
  have HR := Lib.hid (show Ts.holdsB (8, N) L E = !(E.any (Ts.triE n E)) from by rw [← hl]; rfl)
  clear hs ht
  go_enter Tryz.func72, Tryz.ntmps72
  go_wp2_with (go_at_call 103; refine HC.out.mono ?_; clear HC; rintro e w2 ⟨rfl, hb2⟩; have HB2 := Lib.hid (HB0.out.andThen hb2); clear hb2)
  go_ret
  exact ⟨ret_bool HR.out.symm, HB2.out⟩
set_option maxHeartbeats 1000000 in
theorem holds_1 (N : Int) (L : List Int) (E : List (Int × Int)) (h8 : L.length ≤ 8) : HoldsOK (1, N) L E := by
  intro A B n c m d w hl hm hs ht
  have HB0 := Lib.hid (bel_al (bel_al (Below.refl w.heap.size w) (.cells #[.int .i64 1, .int .i64 N] 40)) (.cells #[.slice A n c, .slice B m d] 30))
  have HMl := Lib.hid ht.len2
  obtain ⟨q, hq⟩ : ∃ q, q = n * (n - 1) / 2 := ⟨_, rfl⟩
  have HR := Lib.hid (show Ts.holdsB (1, N) L E = ((m : Int) == (q : Int)) from by
    show decide (E.length = L.length * (L.length - 1) / 2) = _
    rw [HMl.out, hl, ← hq]
    by_cases h : m = q
    · rw [decide_eq_true h, h]; simp
    · rw [decide_eq_false h]
      symm
      simp only [beq_eq_false_iff_ne, ne_eq]
      omega)
  have hn8 : n ≤ 8 := by omega
  clear hs ht hl
  rcases (show n = 0 ∨ n = 1 ∨ n = 2 ∨ n = 3 ∨ n = 4 ∨ n = 5 ∨ n = 6 ∨ n = 7 ∨ n = 8 by omega) with rfl | rfl | rfl | rfl | rfl | rfl | rfl | rfl | rfl
  all_goals (
    simp only [Nat.zero_mul, Nat.zero_div, Nat.reduceSub, Nat.reduceMul, Nat.reduceDiv] at hq
    subst hq
    go_enter Tryz.func72, Tryz.ntmps72
    go_wp2_with fail
    go_ret
    exact ⟨ret_bool HR.out.symm, HB0.out⟩)
set_option maxHeartbeats 1000000 in
theorem holds_6 (N : Int) (L : List Int) (E : List (Int × Int)) (h8 : L.length ≤ 8) : HoldsOK (6, N) L E := by
  intro A B n c m d w hl hm hs ht
  have hn8 : n ≤ 8 := by omega
  obtain ⟨w0, hw0⟩ : ∃ W, W = (w.alloc (.cells #[.int .i64 6, .int .i64 N] 40)).alloc (.cells #[.slice A n c, .slice B m d] 30) := ⟨_, rfl⟩
  have HB0 := Lib.hid (show Below w.heap.size w w0 from by rw [hw0]; exact bel_al (bel_al (Below.refl _ _) _) _)
  have hb1 := bel_al (Below.refl w0.heap.size w0) (.cells #[.slice A n c] 23)
  have hbx := Boxed.new w0 23 (.slice A n c)
  have HV := Lib.hid (Values_any A n c w0)
  have HSo := Lib.hid (Sorted_any L A n c w0.heap.size (w0.alloc (.cells #[.slice A n c] 23)) hbx.cell hbx.lt hl (by omega) ((hs.keep HB0.out).keep hb1) (fun h x hx => by
    obtain ⟨b, off, hE, hc⟩ := (hs.keep HB0.out).2 h
    rw [hE] at hx
    cases hx
    obtain ⟨u, hu⟩ : ∃ u, (L.map (Value.int .i64))[0]? = some u := ⟨_, List.getElem?_eq_getElem (by rw [List.length_map]; omega)⟩
    have := World.block_lt_of_cell? w0 _ (hc 0 u hu)
    simp only at this ⊢
    simp
    omega))
  have HB1 := Lib.hid (HB0.out.andThen hb1)
  have HB01 := Lib.hid hb1
  obtain ⟨S, hS⟩ : ∃ S, S = L.mergeSort fun x y => decide (x ≤ y) := ⟨_, rfl⟩
  have HSl := Lib.hid (show S.length = n from by rw [hS, List.length_mergeSort]; exact hl)
  obtain ⟨z, hz⟩ : ∃ z, z = (Go.Lib.compact S).length := ⟨_, rfl⟩
  have HR := Lib.hid (show Ts.holdsB (6, N) L E = ((z : Int) == (n : Int)) from by
    show decide ((Go.Lib.compact (L.mergeSort fun x y => decide (x ≤ y))).length = L.length) = _
    rw [← hS, ← hz, hl]
    by_cases h : z = n
    · rw [decide_eq_true h, h]; simp
    · rw [decide_eq_false h]
      symm
      simp only [beq_eq_false_iff_ne, ne_eq]
      omega)
  have HZ := Lib.hid hz
  rw [← hS] at HSo
  clear hs ht hl hbx hb1 hS hz
  go_enter Tryz.func72, Tryz.ntmps72
  go_upto_region 1 with (fail)
  rw [← hw0]
  have HK1 := Lib.hid (show Blk w0 w.heap.size 40 #[.int .i64 6, .int .i64 N] from by rw [hw0]; exact (Blk.new w _ _).alloc _)
  have HK2 := Lib.hid (show Blk w0 (w.heap.size + 1) 30 #[.slice A n c, .slice B m d] from by
    rw [hw0]
    have := Blk.new (w.alloc (.cells #[.int .i64 6, .int .i64 N] 40)) 30 #[.slice A n c, .slice B m d]
    rw [World.size_alloc] at this
    exact this)
  clear hw0
  have k0 := HK1.out.cell 0
  have p0 := HK2.out.cell 0
  simp at k0 p0
  go_wp2_with (first
    | (go_at_call 101; refine HV.out.mono ?_; clear HV; rintro e v1 ⟨rfl, rfl⟩)
    | (go_at_call 100; refine HSo.out.mono ?_; clear HSo; rintro e v2 ⟨vs, rfl, hrow, hb2⟩; have HB2 := Lib.hid (HB1.out.andThen hb2); have HCo := Lib.hid (CompactI_any S vs n w.heap.size v2 HSl.out (by omega) (own_mono hrow (show w.heap.size ≤ _ from by have := HB1.out.size; exact this)) HB2.out.size); clear hrow hb2)
    | (go_at_call 99; refine HCo.out.mono ?_; clear HCo; rintro e v3 ⟨vc, rfl, hrow3, hb3⟩; have HB3 := Lib.hid (HB2.out.trans hb3); rw [← HZ.out] at hrow3; obtain ⟨CA, cc, rfl, _⟩ := Sl.own hrow3; clear hrow3 hb3))
  go_ret
  exact ⟨ret_bool HR.out.symm, HB3.out⟩
/-- Every kind. -/
theorem holds_all {o : Int × Int} {L : List Int} {E : List (Int × Int)} (ho : opOK o) (h8 : L.length ≤ 8) : HoldsOK o L E := by
  obtain ⟨k, N⟩ := o
  have h1 := ho.1
  simp only at h1
  rcases (show k = 1 ∨ k = 2 ∨ k = 3 ∨ k = 4 ∨ k = 5 ∨ k = 6 ∨ k = 7 ∨ k = 8 by omega) with rfl | rfl | rfl | rfl | rfl | rfl | rfl | rfl
  · exact holds_1 N L E h8
  · exact holds_2 N L E h8
  · exact holds_3 N L E h8
  · exact holds_4 N L E h8
  · exact holds_5 N L E h8
  · exact holds_6 N L E h8
  · exact holds_7 N L E h8
  · exact holds_8 N L E h8
end Go.Proofs.YtapledphhfiimaaGreatDoor
/-
  Chains of errors: errors.As at *api.Fault, errors.Is at a fault, errors.Unwrap, and the fault package's functions over whole chains.
-/
namespace Go.Proofs.YtapledphhfiimaaGreatDoor
open Go.RowKit Go.Extern.Stop Go.Stop Go.Extern

def Err.depth : Err → Nat
  | .step _ e => e.depth + 1
  | _ => 0
def Err.flt? : Err → Option (Int × Int × ByteArray)
  | .flt c a s => some (c, a, s)
  | .step _ e => e.flt?
  | _ => none
theorem Err.code_of : ∀ (E : Err), E ≠ .nil → (∀ w v, E.At w v → E.code = match E.flt? with | some (c, _, _) => c | none => -1)
  | .nil, h, _, _, _ => absurd rfl h
  | .flt _ _ _, _, _, _, _ => rfl
  | .txt _, _, _, _, _ => rfl
  | .step _ e, _, w, _, ⟨_, v', _, _, h3, h4⟩ => Err.code_of e h4 w v' h3
theorem Err.at_of : ∀ (E : Err), E.at_ = match E.flt? with | some (_, a, _) => a | none => 0
  | .nil => rfl
  | .flt _ _ _ => rfl
  | .txt _ => rfl
  | .step _ e => Err.at_of e

theorem fs_typeOf (v : Value) (w : World) : (ReflectliteType.typeOf #[.iface 129 v]).run Tryz.prog w = .ok (.iface 211 (.agg #[.pointer (some ⟨9, 129, none⟩)])) w := by kernel_rfl
theorem fs_assignable (w : World) : (ReflectliteType.relation "AssignableTo" ReflectliteType.assignableTo #[.agg #[.pointer (some ⟨9, 129, none⟩)], .iface 211 (.agg #[.pointer (some ⟨9, 111, none⟩)])]).run Tryz.prog w = .ok (.bool false) w := by kernel_rfl
theorem fs_noAs (v : Value) (xT : TypeId) (w : World) : (Instr.typeAssert (.iface 129 v) xT 216 true).run Tryz.prog w = .ok (.tuple #[.nilIface, .bool false]) w := run_typeAssert_lacksB Tryz.underlying216 (by kernel_rfl) (by kernel_rfl) v xT w
theorem fs_hasUnwrap (v : Value) (xT : TypeId) (w : World) : (Instr.typeAssert (.iface 129 v) xT 219 true).run Tryz.prog w = .ok (.tuple #[.iface 129 v, .bool true]) w := run_typeAssert_hasB Tryz.underlying219 (by kernel_rfl) v xT w
theorem fs_methodUnwrap (v : Value) (w : World) : (Go.method 392 129 v "Unwrap").run Tryz.prog w = .ok (221, v) w := by kernel_rfl
theorem ft_typeOf (v : Value) (w : World) : (ReflectliteType.typeOf #[.iface 260 v]).run Tryz.prog w = .ok (.iface 211 (.agg #[.pointer (some ⟨9, 260, none⟩)])) w := by kernel_rfl
theorem ft_assignable (w : World) : (ReflectliteType.relation "AssignableTo" ReflectliteType.assignableTo #[.agg #[.pointer (some ⟨9, 260, none⟩)], .iface 211 (.agg #[.pointer (some ⟨9, 111, none⟩)])]).run Tryz.prog w = .ok (.bool false) w := by kernel_rfl
theorem ft_noAs (v : Value) (xT : TypeId) (w : World) : (Instr.typeAssert (.iface 260 v) xT 216 true).run Tryz.prog w = .ok (.tuple #[.nilIface, .bool false]) w := run_typeAssert_lacksB Tryz.underlying216 (by kernel_rfl) (by kernel_rfl) v xT w
theorem ft_noUnwrap (v : Value) (xT : TypeId) (w : World) : (Instr.typeAssert (.iface 260 v) xT 219 true).run Tryz.prog w = .ok (.tuple #[.nilIface, .bool false]) w := run_typeAssert_lacksB Tryz.underlying219 (by kernel_rfl) (by kernel_rfl) v xT w
theorem ft_noUnwraps (v : Value) (xT : TypeId) (w : World) : (Instr.typeAssert (.iface 260 v) xT 221 true).run Tryz.prog w = .ok (.tuple #[.nilIface, .bool false]) w := run_typeAssert_lacksB Tryz.underlying221 (by kernel_rfl) (by kernel_rfl) v xT w

theorem stepUnwrap (g : Nat) (v' : Value) (w : World) (hc : w.cell? ⟨g, 1, none⟩ = some v') :
    Calls Tryz.prog 221 #[.pointer (some ⟨g, 0, none⟩)] w fun e w' => e = .returned v' ∧ w = w' := by
  go_enter Tryz.func221, Tryz.ntmps221
  go_wp2
  go_ret
  exact ⟨rfl, rfl⟩

/-- What errors.as leaves: the target is set to the chain's first fault; or the chain has none. -/
def AsPost (E : Err) (w0 w1 : World) (t : Addr) (ev : Ending) (w' : World) : Prop :=
  (∃ c a s g, E.flt? = some (c, a, s) ∧ ev = .returned (.bool true) ∧ Blk w0 g 114 #[.int .i64 c, .int .i64 a, .string s] ∧ (w1.alloc (.cells #[.pointer (some ⟨g, 0, none⟩)] 111)).setCell t (.pointer (some ⟨g, 0, none⟩)) = w') ∨
  (E.flt? = none ∧ ev = .returned (.bool false) ∧ w1 = w')

theorem Err.At.iface_ {w : World} {E : Err} {v : Value} (h : E.At w v) (hne : E ≠ .nil) : ∃ T x, v = .iface T x := by
  cases E with
  | nil => exact absurd rfl hne
  | flt c a s => obtain ⟨g, rfl, _⟩ := h; exact ⟨_, _, rfl⟩
  | step w e => obtain ⟨g, _, rfl, _⟩ := h; exact ⟨_, _, rfl⟩
  | txt s => obtain ⟨g, rfl, _⟩ := h; exact ⟨_, _, rfl⟩

set_option maxHeartbeats 2000000 in
theorem as_any (E : Err) (v : Value) (w0 w : World) (hE : E.At w0 v) (hw : Below w0.heap.size w0 w) (hne : E ≠ .nil) (t b : Addr) (old : Value) (hb0 : w.cell? b = some (.pointer (some t))) (ht0 : w.cell? t = some old) (hf0 : w.frozen? t = false) :
    Calls Tryz.prog 133 #[v, .iface 150 (.pointer (some t)), .agg #[.pointer (some ⟨9, 150, none⟩), .pointer (some b), .int .u64 150], .iface 211 (.agg #[.pointer (some ⟨9, 111, none⟩)])] w
      (AsPost E w0 (w.alloc (.cells #[.pointer (some ⟨9, 150, none⟩), .pointer (some b), .int .u64 150] 182)) t) := by
  have h83 := @run_callFunc_extern Tryz.prog 130 _ (fun args => ReflectliteValue.unpack (args.getD 0 (.tuple #[]))) Tryz.func130 (by kernel_rfl) (by kernel_rfl) (by kernel_rfl) (by kernel_rfl)
  have h87 := @run_callFunc_extern Tryz.prog 158 _ ReflectliteType.typeOf Tryz.func158 (by kernel_rfl) (by kernel_rfl) (by kernel_rfl) (by kernel_rfl)
  have h125 := @run_callFunc_extern Tryz.prog 227 _ (ReflectliteType.relation "AssignableTo" ReflectliteType.assignableTo) Tryz.func227 (by kernel_rfl) (by kernel_rfl) (by kernel_rfl) (by kernel_rfl)
  have h95 := @run_callFunc_extern Tryz.prog 159 _ (ReflectliteValue.method (ReflectliteValue.valueError "reflectlite.Value.Elem" 0) ReflectliteValue.elem) Tryz.func159 (by kernel_rfl) (by kernel_rfl) (by kernel_rfl) (by kernel_rfl)
  have h96 := @run_callFunc_extern Tryz.prog 160 _ ReflectliteValue.set Tryz.func160 (by kernel_rfl) (by kernel_rfl) (by kernel_rfl) (by kernel_rfl)
  have tO := fx_typeOf
  have mA := fx_methodAssignableTo
  have aP := fx_assignable
  have vP := fx_valueOfP
  have tS := fs_typeOf
  have aS := fs_assignable
  have nS := fs_noAs
  have uS := fs_hasUnwrap
  have mS := fs_methodUnwrap
  have tT := ft_typeOf
  have aT := ft_assignable
  have nT := ft_noAs
  have uT := ft_noUnwrap
  have vT := ft_noUnwraps
  have htl := World.block_lt_of_cell? w t ht0
  have hbl := World.block_lt_of_cell? w b hb0
  have el := fx_elemV b t (w.alloc (.cells #[.pointer (some ⟨9, 150, none⟩), .pointer (some b), .int .u64 150] 182)) (by rw [World.cell?_alloc_lt _ _ b hbl]; exact hb0)
  have st := fun e => fx_set t ⟨w.heap.size + 1, 0, none⟩ e old ((w.alloc (.cells #[.pointer (some ⟨9, 150, none⟩), .pointer (some b), .int .u64 150] 182)).alloc (.cells #[.pointer (some e)] 111))
    (by rw [World.cell?_alloc_at _ _ _ _ (by simp)]; rfl)
    (by rw [World.cell?_alloc_lt _ _ t (by simp; omega), World.cell?_alloc_lt _ _ t htl]; exact ht0)
    (by rw [World.frozen?_alloc_old _ _ t (by simp; omega), World.frozen?_alloc_old _ _ t (Nat.ne_of_lt htl)]; exact hf0)
  have HB := Lib.hid (bel_al hw (.cells #[.pointer (some ⟨9, 150, none⟩), .pointer (some b), .int .u64 150] 182))
  clear hb0 ht0 hf0 hw
  go_enter Tryz.func133, Tryz.ntmps133
  go_wp2
  go_loopg [0] E.depth (fun k e wr => ∃ E' : Err, E'.At w0 e ∧ E'.depth = k ∧ Hid (E'.flt? = E.flt?) ∧ E' ≠ .nil ∧ wr = w.alloc (.cells #[.pointer (some ⟨9, 150, none⟩), .pointer (some b), .int .u64 150] 182))
  case atStart => exact ⟨E, hE, rfl, rfl, hne, rfl⟩
  case round =>
    obtain ⟨E', hE', hk, HE, hne', rfl⟩ := hrel
    clear hE hne
    cases E' with
    | nil => exact absurd rfl hne'
    | flt c a s =>
      obtain ⟨g, rfl, hblk⟩ := hE'
      have st' := st ⟨g, 0, none⟩
      have HK := Lib.hid hblk
      clear hblk st
      go_wp2
      go_ret
      exact .inl ⟨c, a, s, g, HE.out.symm, rfl, HK.out, rfl⟩
    | txt s =>
      obtain ⟨g, rfl, hblk⟩ := hE'
      clear hblk st
      go_wp2
      go_ret
      exact .inr ⟨HE.out.symm, rfl, rfl⟩
    | step word e =>
      obtain ⟨g, v', rfl, hblk, hv', hnn⟩ := hE'
      have hc1 := (hblk.keep HB.out).cell 1
      simp at hc1
      have HV := Lib.hid hv'
      have HU := Lib.hid (stepUnwrap g v' _ hc1)
      obtain ⟨T, x, rfl⟩ := Err.At.iface_ hv' hnn
      have HK := Lib.hid hk
      have HN := Lib.hid hnn
      clear hblk st hv' hk hc1 hnn hne'
      go_wp2_with (go_at_call 221; refine HU.out.mono ?_; rintro ev w' ⟨rfl, rfl⟩)
      go_roundg e.depth
      case measure => have := HK.out; simp only [Err.depth] at this; omega
      case rel => exact ⟨e, HV.out, rfl, HE.out, HN.out, rfl⟩
end Go.Proofs.YtapledphhfiimaaGreatDoor
/-
  The fault package over whole chains: errors.As, fault.fault, fault.Code, fault.At.
-/
namespace Go.Proofs.YtapledphhfiimaaGreatDoor
open Go.RowKit Go.Extern.Stop Go.Stop Go.Extern

set_option maxHeartbeats 2000000 in
theorem As_any (E : Err) (v : Value) (w0 w : World) (hE : E.At w0 v) (hw : Below w0.heap.size w0 w) (hne : E ≠ .nil) (t : Addr) (old : Value) (hg : w.cell? ⟨0, 0, none⟩ = some (.iface 211 (.agg #[.pointer (some ⟨9, 36, none⟩)]))) (ht0 : w.cell? t = some old) (hf0 : w.frozen? t = false) :
    Calls Tryz.prog 95 #[v, .iface 150 (.pointer (some t))] w fun ev w' => ∃ W W1, AsPost E w0 W1 t ev w' ∧ W = ((w.alloc (.cells #[.pointer (some t)] 150)).alloc (.cells #[.pointer (some ⟨9, 150, none⟩), .pointer (some ⟨w.heap.size, 0, none⟩), .int .u64 150] 182)) ∧ W1 = W.alloc (.cells #[.pointer (some ⟨9, 150, none⟩), .pointer (some ⟨w.heap.size, 0, none⟩), .int .u64 150] 182) := by
  have h83 := @run_callFunc_extern Tryz.prog 130 _ (fun args => ReflectliteValue.unpack (args.getD 0 (.tuple #[]))) Tryz.func130 (by kernel_rfl) (by kernel_rfl) (by kernel_rfl) (by kernel_rfl)
  have h84 := @run_callFunc_extern Tryz.prog 131 _ (ReflectliteValue.methodAny (ReflectliteValue.valueError "reflectlite.Value.Type" 0) (fun t _ _ _ => ReflectliteType.toType t)) Tryz.func131 (by kernel_rfl) (by kernel_rfl) (by kernel_rfl) (by kernel_rfl)
  have h85 := @run_callFunc_extern Tryz.prog 132 _ (ReflectliteValue.method (ReflectliteValue.valueError "reflectlite.Value.IsNil" 0) ReflectliteValue.isNil) Tryz.func132 (by kernel_rfl) (by kernel_rfl) (by kernel_rfl) (by kernel_rfl)
  have h112 := @run_callFunc_extern Tryz.prog 216 _ (ReflectliteType.abiMethod fun t => do pure (.int .u8 (← Rtype.kind t))) Tryz.func216 (by kernel_rfl) (by kernel_rfl) (by kernel_rfl) (by kernel_rfl)
  have h127 := @run_callFunc_extern Tryz.prog 229 _ (ReflectliteType.method ReflectliteType.elem) Tryz.func229 (by kernel_rfl) (by kernel_rfl) (by kernel_rfl) (by kernel_rfl)
  have h128 := @run_callFunc_extern Tryz.prog 230 _ (ReflectliteType.relation "Implements" ReflectliteType.implements_) Tryz.func230 (by kernel_rfl) (by kernel_rfl) (by kernel_rfl) (by kernel_rfl)
  have f83 := fx_valueOf
  have f84 := fx_type
  have mK := fx_methodKind
  have mE := fx_methodElem
  have mI := fx_methodImplements
  have kPP := fx_kindPP
  have kP := fx_kindP
  have eP := fx_elem
  have iP := fx_implements
  have hlt : 0 < w.heap.size := World.block_lt_of_cell? w _ hg
  have htl := World.block_lt_of_cell? w t ht0
  have n8 := fx_isNil ⟨w.heap.size, 0, none⟩ t ((w.alloc (.cells #[.pointer (some t)] 150)).alloc (.cells #[.pointer (some ⟨9, 150, none⟩), .pointer (some ⟨w.heap.size, 0, none⟩), .int .u64 150] 182)) (by simp)
  have hg2 : ((w.alloc (.cells #[.pointer (some t)] 150)).alloc (.cells #[.pointer (some ⟨9, 150, none⟩), .pointer (some ⟨w.heap.size, 0, none⟩), .int .u64 150] 182)).cell? ⟨0, 0, none⟩ = some (.iface 211 (.agg #[.pointer (some ⟨9, 36, none⟩)])) := by
    rw [World.cell?_alloc_lt _ _ ⟨0, 0, none⟩ (by simp <;> omega), World.cell?_alloc_lt _ _ ⟨0, 0, none⟩ hlt]; exact hg
  have hin := as_any E v w0 ((w.alloc (.cells #[.pointer (some t)] 150)).alloc (.cells #[.pointer (some ⟨9, 150, none⟩), .pointer (some ⟨w.heap.size, 0, none⟩), .int .u64 150] 182)) hE (bel_al (bel_al hw _) _) hne t ⟨w.heap.size, 0, none⟩ old
    (by rw [World.cell?_alloc_lt _ _ ⟨w.heap.size, 0, none⟩ (by simp)]; simp)
    (by rw [World.cell?_alloc_lt _ _ t (by simp; omega), World.cell?_alloc_lt _ _ t htl]; exact ht0)
    (by rw [World.frozen?_alloc_old _ _ t (by simp; omega), World.frozen?_alloc_old _ _ t (Nat.ne_of_lt htl)]; exact hf0)
  have HIN := Lib.hid hin
  obtain ⟨T, x, rfl⟩ := Err.At.iface_ hE hne
  clear hin hE hne ht0 hf0 hw
  go_enter Tryz.func95, Tryz.ntmps95
  go_wp2_with (go_at_call 133; refine HIN.out.mono ?_)
  intro ev w' hp
  have HP := Lib.hid hp
  rcases hp with ⟨c, a, s, g, h1, rfl, h2, rfl⟩ | ⟨h1, rfl, rfl⟩
  · clear h1 h2
    go_wp2
    go_ret
    exact ⟨_, _, HP.out, rfl, rfl⟩
  · clear h1
    go_wp2
    go_ret
    exact ⟨_, _, HP.out, rfl, rfl⟩

/-- What errors.As leaves, its target the one cell t. -/
def AsDone (E : Err) (w0 w : World) (t : Addr) (old : Value) (ev : Ending) (w' : World) : Prop :=
  Below t.block w w' ∧
  ((∃ c a s g, E.flt? = some (c, a, s) ∧ ev = .returned (.bool true) ∧ Blk w0 g 114 #[.int .i64 c, .int .i64 a, .string s] ∧ w'.cell? t = some (.pointer (some ⟨g, 0, none⟩))) ∨
   (E.flt? = none ∧ ev = .returned (.bool false) ∧ w'.cell? t = some old))

theorem As_done (E : Err) (v : Value) (w0 w : World) (hE : E.At w0 v) (hw : Below w0.heap.size w0 w) (t : Addr) (old : Value) (hg : ErrT w) (ht0 : w.cell? t = some old) (hf0 : w.frozen? t = false) :
    Calls Tryz.prog 95 #[v, .iface 150 (.pointer (some t))] w (AsDone E w0 w t old) := by
  have htl := World.block_lt_of_cell? w t ht0
  by_cases hne : E = .nil
  · subst hne
    obtain rfl : v = .nilIface := hE
    refine (as_nil _ _).mono ?_
    rintro ev w' ⟨rfl, rfl⟩
    exact ⟨Below.refl _ _, .inr ⟨rfl, rfl, ht0⟩⟩
  · refine (As_any E v w0 w hE hw hne t old hg ht0 hf0).mono ?_
    rintro ev w' ⟨W, W1, hp, hW, hW1⟩
    have hb : Below w.heap.size w W1 := by rw [hW1, hW]; exact bel_al (bel_al (bel_al (Below.refl _ _) _) _) _
    have hc : W1.cell? t = some old := (hb.cell htl).trans ht0
    rcases hp with ⟨c, a, s, g, h1, rfl, h2, rfl⟩ | ⟨h1, rfl, rfl⟩
    · refine ⟨((bel_al hb _).mono (Nat.le_of_lt htl)).setCell (Nat.le_refl _) _, .inl ⟨c, a, s, g, h1, rfl, h2, ?_⟩⟩
      exact World.cell?_setCell_same _ _ _ (((bel_al hb _).cell htl).trans ht0)
    · exact ⟨hb.mono (Nat.le_of_lt htl), .inr ⟨h1, rfl, hc⟩⟩

/-- fault.fault: a pointer to the chain's first fault, or none. -/
def FaultPost (E : Err) (w : World) (ev : Ending) (w' : World) : Prop :=
  Below w.heap.size w w' ∧
  ((∃ c a s g, E.flt? = some (c, a, s) ∧ ev = .returned (.pointer (some ⟨g, 0, none⟩)) ∧ Blk w' g 114 #[.int .i64 c, .int .i64 a, .string s]) ∨ (E.flt? = none ∧ ev = .returned (.pointer none)))

theorem fault_any (E : Err) (v : Value) (w : World) (hE : E.At w v) (hg : ErrT w) : Calls Tryz.prog 71 #[v] w (FaultPost E w) := by
  have hb0 := bel_al (Below.refl w.heap.size w) (.cells #[.pointer none] 111)
  have HA := Lib.hid (As_done E v w _ hE hb0 ⟨w.heap.size, 0, none⟩ (.pointer none) (hg.keep hb0) (by simp) (by simp))
  have HE := Lib.hid hE
  clear hE hb0
  go_enter Tryz.func71, Tryz.ntmps71
  go_wp2_with (go_at_call 95; refine HA.out.mono ?_)
  rintro ev w' ⟨hb, hp⟩
  have hb' : Below w.heap.size w w' := (bel_al (Below.refl _ _) _).trans hb
  rcases hp with ⟨c, a, s, g, h1, rfl, h2, h3⟩ | ⟨h1, rfl, h3⟩
  · have H1 := Lib.hid h1
    have H2 := Lib.hid h2
    clear h1 h2
    go_wp2
    go_ret
    exact ⟨hb', .inl ⟨c, a, s, g, H1.out, rfl, H2.out.keep hb'⟩⟩
  · have H1 := Lib.hid h1
    clear h1
    go_wp2
    go_ret
    exact ⟨hb', .inr ⟨H1.out, rfl⟩⟩

theorem Code_any (E : Err) (v : Value) (w : World) (hE : E.At w v) (hg : ErrT w) :
    Calls Tryz.prog 31 #[v] w fun e w' => e = .returned (.int .i64 E.code) ∧ Below w.heap.size w w' := by
  by_cases hne : E = .nil
  · subst hne
    obtain rfl : v = .nilIface := hE
    refine (Code_nil w).mono ?_
    rintro e w' ⟨rfl, rfl⟩
    exact ⟨rfl, Below.refl _ _⟩
  · have hcode := Err.code_of E hne w v hE
    have HC := Lib.hid hcode
    have HA := Lib.hid (fault_any E v w hE hg)
    obtain ⟨T, x, rfl⟩ := Err.At.iface_ hE hne
    clear hE hcode hne
    go_enter Tryz.func31, Tryz.ntmps31
    go_wp2_with (go_at_call 71; refine HA.out.mono ?_)
    rintro ev w' ⟨hb, hp⟩
    rcases hp with ⟨c, a, s, g, h1, rfl, h2⟩ | ⟨h1, rfl⟩
    · have H1 := Lib.hid h1
      have hc0 := h2.cell 0
      simp at hc0
      clear h1 h2
      go_wp2
      go_ret
      exact ⟨by rw [HC.out, H1.out]; rfl, hb⟩
    · have H1 := Lib.hid h1
      clear h1
      go_wp2
      go_ret
      exact ⟨by rw [HC.out, H1.out]; rfl, hb⟩

theorem At_any (E : Err) (v : Value) (w : World) (hE : E.At w v) (hg : ErrT w) :
    Calls Tryz.prog 44 #[v] w fun e w' => e = .returned (.int .i64 E.at_) ∧ Below w.heap.size w w' := by
  have HC := Lib.hid (Err.at_of E)
  have HA := Lib.hid (fault_any E v w hE hg)
  clear hE
  go_enter Tryz.func44, Tryz.ntmps44
  go_wp2_with (go_at_call 71; refine HA.out.mono ?_)
  rintro ev w' ⟨hb, hp⟩
  rcases hp with ⟨c, a, s, g, h1, rfl, h2⟩ | ⟨h1, rfl⟩
  · have H1 := Lib.hid h1
    have hc0 := h2.cell 1
    simp at hc0
    clear h1 h2
    go_wp2
    go_ret
    exact ⟨by rw [HC.out, H1.out]; rfl, hb⟩
  · have H1 := Lib.hid h1
    clear h1
    go_wp2
    go_ret
    exact ⟨by rw [HC.out, H1.out]; rfl, hb⟩
end Go.Proofs.YtapledphhfiimaaGreatDoor
