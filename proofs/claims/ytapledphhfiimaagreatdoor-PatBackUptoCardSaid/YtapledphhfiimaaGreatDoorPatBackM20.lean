/-
  Part 20 of the proof of PatBack: PatBack, FrameG.
-/
import Derived.BigQuiet
import Derived.Laws.OwnMore
import Derived.Deep.RegionHeldLaw
import Derived.Test.YtapledphhfiimaaGreatDoorPatBackM18
import Derived.Test.YtapledphhfiimaaGreatDoorPatBackM8
import Derived.Test.YtapledphhfiimaaGreatDoorPatBackM9
import Derived.Test.YtapledphhfiimaaGreatDoorPatBackM4
import Derived.Test.YtapledphhfiimaaGreatDoorPatBackM19
import Derived.Test.YtapledphhfiimaaGreatDoorPatBackM15
import Derived.Test.YtapledphhfiimaaGreatDoorPatBackM1
set_option linter.unusedVariables false
/-
  PatBack: the walk.
-/
namespace Go.Proofs.YtapledphhfiimaaGreatDoor
open Go.RowKit Go.Proofs.YtapledphhfiimaaGreatDoor.Pg
attribute [local go_sem ↓] Go.wp_at_zero Go.wp_at_succ
set_option maxRecDepth 100000
set_option linter.unusedVariables false

theorem con_fixB {L : List Int} {E : List (Int × Int)} {cb : Bool} (h : cb = true ↔ connP L E) {P : Program} {f : FuncId} {args : Array Value} {w : World} (hc : Calls P f args w (ConRes L E w)) : Calls P f args w fun e w' => e = .returned (.bool cb) ∧ Below w.heap.size w w' :=
  hc.mono fun e w' ⟨b, h1, h2, h3⟩ => by
    refine ⟨?_, h3⟩
    rw [h1]
    congr 2
    cases b <;> cases cb <;> simp_all
theorem right_falseB {L : List Int} {E : List (Int × Int)} {P : Program} {f : FuncId} {args : Array Value} {w : World} (h : ¬ rightP L E) (hc : Calls P f args w (RightRes L E w)) : Calls P f args w fun e w' => ∃ g, e = .returned (.iface 111 (.pointer (some ⟨g, 0, none⟩))) ∧ Below w.heap.size w w' :=
  hc.mono fun e w' hr => by
    rcases hr with ⟨hn, _⟩ | ⟨_, c, a, s, v, rfl, ⟨g, rfl, _⟩, hb, _⟩
    · exact absurd hn h
    · exact ⟨g, rfl, hb⟩
theorem IdC_any (n : Nat) (w : World) (hn : n ≤ 8) :
    Calls Tryz.prog 25 #[.int .i64 n] w fun e w' => ∃ V k, e = .returned (.slice V n k) ∧ Sl w' 1 V n ((ids n).map (Value.int .i64)) ∧ n ≤ k ∧ k ≤ 9223372036854775807 ∧ Below w.heap.size w w' :=
  (Id_any n w hn).mono fun e w' ⟨v, he, hown, hb⟩ => by
    have h0 := hown
    rcases hown.2 with ⟨rfl, rfl⟩ | ⟨g, cap, cur, rfl, _, _, r1, r2, _⟩
    · exact ⟨none, 0, he, Sl.of_own h0, by omega, by omega, hb⟩
    · exact ⟨_, cap, he, Sl.of_own h0, r1, by unfold maxLen at r2; omega, hb⟩
theorem cmp_three (L : List Int) (E : List (Int × Int)) (L' : List Int) (E' : List (Int × Int)) : Pt.cmpP L E L' E' = -Pt.cmpP L' E' L E ∧ (Pt.cmpP L E L' E' = -1 ∨ Pt.cmpP L E L' E' = 0 ∨ Pt.cmpP L E L' E' = 1) :=
  ⟨Pt.cp_pat.anti (L, E) (L', E'), Pt.cmpP_range L E L' E'⟩
/-- A row of edges stays while a pattern's block is written. -/
theorem Sl.off_patE {w : World} {B : Option Addr} {m G : Nat} {E : List (Int × Int)} {a b : Option Addr} {n1 c1 n2 c2 : Nat} (h : Sl w 2 B m (Rk.cells E)) (hR : Blk w G 30 #[.slice a n1 c1, .slice b n2 c2]) (i : Nat) (u : Value) : Sl (w.setCell ⟨G, i, none⟩ u) 2 B m (Rk.cells E) := by
  by_cases h0 : m = 0
  · exact ⟨h.1, fun h1 => absurd h1 (by omega)⟩
  · have hl := h.len2
    obtain ⟨b', off, rfl, hcc⟩ := h.2 (by omega)
    suffices hne : b' ≠ G by
      exact ⟨h.1, fun _ => ⟨b', off, rfl, fun j v hv => (World.cell?_of_block (w := w) (a := ⟨b', off + j, none⟩) (Below.heap_setCell w ⟨G, i, none⟩ u b' hne)).trans (hcc j v hv)⟩⟩
    rintro rfl
    obtain ⟨e, he⟩ : ∃ e, E[0]? = some e := ⟨_, List.getElem?_eq_getElem (by omega)⟩
    have h1 := hcc 0 (.int .i64 e.1) (by have := (cells_get E 0 e he).1; simpa using this)
    have h2 := hR.cell off
    rw [Nat.add_zero] at h1
    rw [h1] at h2
    match off, h2 with
    | 0, h2 => simp at h2
    | 1, h2 => simp at h2
    | k + 2, h2 => simp at h2

set_option maxHeartbeats 16000000 in
theorem PatBack_walk (L : List Int) (E : List (Int × Int)) (A B : Option Addr) (n c m d a b : Nat) (w : World) (ha : a ≤ 65535) (hb : b ≤ 65535) (hl : L.length = n) (hn : n ≤ 1048576) (hm : m ≤ 1048576) (hs : Sl w 1 A n (L.map (Value.int .i64))) (ht : Sl w 2 B m (Rk.cells E)) (hg : ErrT w) (hT : TabW w) :
    Calls Tryz.prog 5 #[pv A n c B m d, .int .u16 (a : Int), .int .u16 (b : Int)] w fun e w' => e = .returned (.bool true) ∧ Below w.heap.size w w' := by
  have HS := Lib.hid hs
  have HE := Lib.hid ht
  have HL := Lib.hid hl
  obtain ⟨w0, hw0⟩ : ∃ W, W = w.alloc (.cells #[.slice A n c, .slice B m d] 26) := ⟨_, rfl⟩
  have HB0 := Lib.hid (show Below w.heap.size w w0 from by rw [hw0]; exact bel_al (Below.refl _ _) _)
  have HK0 := Lib.hid (show Blk w0 w.heap.size 26 #[.slice A n c, .slice B m d] from by rw [hw0]; exact Blk.new _ _ _)
  have HAl := Lib.hid (alive08 w0 (hg.keep HB0.out) (hT.keep HB0.out))
  clear hg hT hs ht hl
  go_enter Tryz.func5, Tryz.ntmps5
  go_upto_region 1 with (fail)
  rw [← hw0]
  clear hw0
  go_upto_region 3 with (go_at_call 18; refine HAl.out.mono ?_; clear HAl; rintro e w1 ⟨rfl, hb1⟩; have HB1 := Lib.hid (HB0.out.andThen hb1); have HK1 := Lib.hid (HK0.out.keep hb1); clear hb1)
  clear HB0 HK0
  have k0 := HK1.out.cell 0
  have k1 := HK1.out.cell 1
  simp at k0 k1
  have HOf := Lib.hid (Of08_any E A B n c m d w1 hm (HE.out.keep HB1.out))
  go_upto_region 4 with (go_at_call 7; refine HOf.out.mono ?_; clear HOf; rintro e w2 ⟨D, dk, rfl, hsD, hb2⟩; have HB2 := Lib.hid (HB1.out.andThen hb2); have HD2 := Lib.hid hsD; have HK2 := Lib.hid (HK1.out.keep hb2); clear hb2 hsD)
  obtain ⟨wa, hwa⟩ : ∃ W, W = w2.alloc (.cells #[.slice A n c, .slice D m dk] 30) := ⟨_, rfl⟩
  obtain ⟨g0, hg0⟩ : ∃ g, g = w2.heap.size := ⟨_, rfl⟩
  have HBa := Lib.hid (show Below w.heap.size w wa from by rw [hwa]; exact bel_al HB2.out _)
  have HKp := Lib.hid (show Blk wa w.heap.size 26 #[.slice A n c, .slice B m d] from by rw [hwa]; exact HK2.out.alloc _)
  have HKx := Lib.hid (show Blk wa g0 30 #[.slice A n c, .slice D m dk] from by rw [hwa, hg0]; exact Blk.new _ _ _)
  have HDa := Lib.hid (show Sl wa 2 D m (Rk.cells E) from by rw [hwa]; exact HD2.out.alloc _)
  have HSa := Lib.hid (HS.out.keep HBa.out)
  rw [← hwa, ← hg0]
  clear hwa hg0 k0 k1 HK1 HD2 HK2 HB1 HB2 HS HE
  have k0 := HKp.out.cell 0
  have k1 := HKp.out.cell 1
  have x0 := HKx.out.cell 0
  have x1 := HKx.out.cell 1
  simp at k0 k1 x0 x1
  obtain ⟨fb, hfb⟩ : ∃ fb, fb = (decide (20 < n) || decide (60 < m)) := ⟨_, rfl⟩
  have HFa := Lib.hid (far_any A B n c m d wa)
  rw [← hfb] at HFa
  cases fb with
  | true =>
    clear hfb
    go_wp2_with (go_at_call 19; refine HFa.out.mono ?_; clear HFa; rintro e w3 ⟨rfl, hb3⟩; have HB3 := Lib.hid (HBa.out.andThen hb3); clear hb3)
    go_ret
    exact ⟨rfl, HB3.out⟩
  | false =>
    have hfar : n ≤ 20 ∧ m ≤ 60 := by
      have h := hfb.symm
      simp at h
      omega
    clear hfb hn hm
    have HRi := Lib.hid (show ∀ W, Below wa.heap.size wa W → Calls Tryz.prog 10 #[pv A n c D m dk] W (RightRes L E W) from fun W hW => PatRight_any L E A D n c m dk W HL.out (by omega) (by omega) (HSa.out.keep hW) (HDa.out.keep hW))
    by_cases hR : rightP L E
    case neg =>
      have HRf := Lib.hid (fun W (hW : Below wa.heap.size wa W) => right_falseB hR (HRi.out W hW))
      clear hR HRi
      go_wp2_with (first
        | (go_at_call 10; refine (HRf.out _ HB3.out).mono ?_; clear HRf; rintro e w4 ⟨ge, rfl, hb4⟩; have HB4 := Lib.hid (HB3.out.andThen hb4); clear hb4)
        | (go_at_call 19; refine HFa.out.mono ?_; clear HFa; rintro e w3 ⟨rfl, hb3⟩; have HB3 := Lib.hid hb3; clear x0 x1; have x0 := (HKx.out.keep hb3).cell 0; have x1 := (HKx.out.keep hb3).cell 1; simp at x0 x1; clear hb3))
      go_ret
      exact ⟨rfl, HBa.out.andThen HB4.out⟩
    have HRt := Lib.hid (fun W (hW : Below wa.heap.size wa W) => right_nil hR (HRi.out W hW))
    have hn8 : n ≤ 8 := by have h1 := hR.1.1; have h2 := HL.out; omega
    have hm28 : m ≤ 28 := by have h1 := right_few hR; have h2 := HDa.out.len2; omega
    have HR := Lib.hid hR
    clear hR HRi
    go_upto_region 6 with (first
      | (go_at_call 10; refine (HRt.out _ HB3.out).mono ?_; clear HRt; rintro e w4 ⟨rfl, hb4⟩; have HB4 := Lib.hid (HB3.out.andThen hb4); clear hb4)
      | (go_at_call 19; refine HFa.out.mono ?_; clear HFa; rintro e w3 ⟨rfl, hb3⟩; have HB3 := Lib.hid hb3; clear x0 x1; have x0 := (HKx.out.keep hb3).cell 0; have x1 := (HKx.out.keep hb3).cell 1; simp at x0 x1; clear hb3))
    clear k0 k1 x0 x1 HB3
    have HBx := Lib.hid (HBa.out.andThen HB4.out)
    have HKp4 := Lib.hid (HKp.out.keep HB4.out)
    have HK0 := Lib.hid (HKx.out.keep HB4.out)
    have HS0 := Lib.hid (HSa.out.keep HB4.out)
    have HE0 := Lib.hid (HDa.out.keep HB4.out)
    clear HBa HKp HKx HSa HDa HB4
    have k0 := HKp4.out.cell 0
    simp at k0
    go_wp2_with fail
    go_loop [9, 10] (fun fv iv => ∃ i : Nat, 1 ≤ i ∧ (i ≤ n ∨ i = 1) ∧ iv = .int .i64 ((i : Int) + 1) ∧ fv = .int .i64 ((fac i : Nat) : Int)) (fun _ iv => n + 1 - (intOf iv).toNat)
    case atStart => exact ⟨1, Nat.le_refl _, .inr rfl, rfl, rfl⟩
    case round =>
      obtain ⟨i, hi1, hin, rfl, rfl⟩ := hrel
      by_cases hlt : i + 1 ≤ n
      · have hlt' : (i : Int) + 1 ≤ (n : Int) := by omega
        have hf := fac_le (n := i + 1) (by omega)
        obtain ⟨F, hF⟩ : ∃ F, F = fac (i + 1) := ⟨_, rfl⟩
        have hmul : ((fac i : Nat) : Int) * ((i : Int) + 1) = (F : Int) := by
          rw [hF]
          show _ = (((i + 1) * fac i : Nat) : Int)
          rw [Int.natCast_mul, Int.mul_comm]
          rfl
        rw [← hF] at hf
        have HF := Lib.hid hF
        clear hF k0
        generalize ((fac i : Nat) : Int) = z at *
        go_wp2_with fail
        go_round
        case rel => exact ⟨i + 1, by omega, .inl (by omega), by go_num, by rw [← HF.out]⟩
        case measure => simp [intOf]; omega
      have hlt' : ¬ (i : Int) + 1 ≤ (n : Int) := by omega
      have hfn : fac i = fac n := by
        rcases hin with h | rfl
        · rw [show i = n by omega]
        · rcases (show n = 0 ∨ n = 1 by omega) with rfl | rfl
          · rfl
          · rfl
      rw [hfn]
      clear hfn
      obtain ⟨F, hF⟩ : ∃ F, F = fac n := ⟨_, rfl⟩
      have hF0 : 0 < F := by rw [hF]; exact fac_pos n
      have hF9 : F ≤ 40320 := by rw [hF]; exact fac_le hn8
      rw [← hF]
      obtain ⟨ra, hra⟩ : ∃ r, r = a % F := ⟨_, rfl⟩
      obtain ⟨rb, hrb⟩ : ∃ r, r = b % F := ⟨_, rfl⟩
      have HRa := Lib.hid (show ra < fac n from by rw [← hF, hra]; exact Nat.mod_lt _ hF0)
      have HRb := Lib.hid (show rb < fac n from by rw [← hF, hrb]; exact Nat.mod_lt _ hF0)
      have hA6 : (a : Int) < 65536 := by omega
      have hB6 : (b : Int) < 65536 := by omega
      have hA0 : (0 : Int) ≤ (a : Int) := by omega
      have hB0 : (0 : Int) ≤ (b : Int) := by omega
      have hma : ((a : Int) % (F : Int)) = (ra : Int) := by rw [hra]; rfl
      have hmb : ((b : Int) % (F : Int)) = (rb : Int) := by rw [hrb]; rfl
      clear hF hra hrb k0
      have HOa := Lib.hid (fun W => Of_ok n ra W hn8 HRa.out)
      have HOb := Lib.hid (fun W => Of_ok n rb W hn8 HRb.out)
      have HOu := Lib.hid (ofR_ord hn8 HRa.out)
      have HOv := Lib.hid (ofR_ord hn8 HRb.out)
      have Hlu := Lib.hid (ofR_len HRa.out)
      have Hlv := Lib.hid (ofR_len HRb.out)
      generalize ofR n ra (ids n) = u at *
      generalize ofR n rb (ids n) = v at *
      go_upto_region 13 with (go_at_call 20; refine (HOa.out _).mono ?_; clear HOa; rintro e w5 ⟨U, kU, rfl, hU, hb5⟩; have HU5 := Lib.hid hU; have HB5 := Lib.hid hb5; clear hU hb5)
      go_upto_region 14 with (go_at_call 20; refine (HOb.out _).mono ?_; clear HOb; rintro e w6 ⟨V, kV, rfl, hV, hb6⟩; have HV := Lib.hid hV; have HU6 := Lib.hid (HU5.out.keep hb6); have HB6 := Lib.hid (HB5.out.andThen hb6); clear hV hb6 HU5)
      have HU := HU6
      clear HU6 HB5 hma hmb HRa HRb
      have HBk := Lib.hid (Back_ok u U n kU w6 HOu.out Hlu.out HU.out)
      have HTh := Lib.hid (fun W (hW : Below w6.heap.size w6 W) => Then_ok u v U V n kU kV W HOu.out HOv.out Hlu.out Hlv.out (HU.out.keep hW) (HV.out.keep hW))
      go_upto_region 15 with (go_at_call 21; refine HBk.out.mono ?_; clear HBk; rintro e w7 ⟨K, kK, rfl, hK, hb7⟩; have HW7 := Lib.hid hK; have HB7 := Lib.hid hb7; clear hK hb7)
      go_upto_region 16 with (go_at_call 22; refine (HTh.out _ HB7.out).mono ?_; clear HTh; rintro e w8 ⟨T, kT, rfl, hT, hb8⟩; have HT := Lib.hid hT; have HW8 := Lib.hid (HW7.out.keep hb8); have HB8 := Lib.hid (HB7.out.andThen hb8); clear hT hb8 HW7)
      have HW := HW8
      have HBy := Lib.hid (HB6.out.andThen HB8.out)
      have HU8 := Lib.hid (HU.out.keep HB8.out)
      have HV8 := Lib.hid (HV.out.keep HB8.out)
      have HK8 := Lib.hid (HK0.out.keep HBy.out)
      have HS8 := Lib.hid (HS0.out.keep HBy.out)
      have HE8 := Lib.hid (HE0.out.keep HBy.out)
      replace HBx := Lib.hid (HBx.out.andThen HBy.out)
      clear HW8 HU HV HK0 HS0 HE0 HB6 HB7 HB8 HBy HKp4
      have HU := HU8
      have HV := HV8
      have HK0 := HK8
      have HS0 := HS8
      have HE0 := HE8
      clear HU8 HV8 HK8 HS8 HE8
      have HOk := Lib.hid (backL_ord HOu.out)
      have HOt := Lib.hid (then_ord HOu.out HOv.out (by rw [Hlu.out, Hlv.out]))
      have Hlk := Lib.hid (show (backL u).length = n from by have h := HW.out.1; simpa using h)
      have Hlt := Lib.hid (show (thenL u v).length = n from by have h := HT.out.1; simpa using h)
      have HTn := Lib.hid (Turn_ok u L E U A D n c m dk kU w8 HOu.out Hlu.out HL.out HR.out HU.out HS0.out HE0.out)
      have z0 := HK0.out.cell 0
      have z1 := HK0.out.cell 1
      simp at z0 z1
      go_upto_region 17 with (go_at_call 23; refine HTn.out.mono ?_; clear HTn; rintro e wq ⟨A1, c1, B1, d1, L1, E1, rfl, hI, hlq, hsq, htq, hbq⟩; have HI1 := Lib.hid hI; have HL1 := Lib.hid hlq; have HS1 := Lib.hid hsq; have HE1 := Lib.hid htq; have HBq := Lib.hid hbq; clear hI hlq hsq htq hbq)
      clear z0 z1
      obtain ⟨wt1, hwM⟩ : ∃ W, W = wq.alloc (.cells #[.slice A1 n c1, .slice B1 m d1] 30) := ⟨_, rfl⟩
      obtain ⟨g1, hg1⟩ : ∃ g, g = wq.heap.size := ⟨_, rfl⟩
      have HBm := Lib.hid (show Below w8.heap.size w8 wt1 from by rw [hwM]; exact bel_al HBq.out _)
      have HK1 := Lib.hid (show Blk wt1 g1 30 #[.slice A1 n c1, .slice B1 m d1] from by rw [hwM, hg1]; exact Blk.new _ _ _)
      have HS1' := Lib.hid (show Sl wt1 1 A1 n (L1.map (Value.int .i64)) from by rw [hwM]; exact HS1.out.alloc _)
      have HE1' := Lib.hid (show Sl wt1 2 B1 m (Rk.cells E1) from by rw [hwM]; exact HE1.out.alloc _)
      rw [← hwM, ← hg1]
      clear hwM hg1 HS1 HE1 HBq
      have HS1 := HS1'
      have HE1 := HE1'
      clear HS1' HE1'
      have HU' := Lib.hid (HU.out.keep HBm.out)
      clear HU
      have HU := HU'
      clear HU'
      have HV' := Lib.hid (HV.out.keep HBm.out)
      clear HV
      have HV := HV'
      clear HV'
      have HW' := Lib.hid (HW.out.keep HBm.out)
      clear HW
      have HW := HW'
      clear HW'
      have HT' := Lib.hid (HT.out.keep HBm.out)
      clear HT
      have HT := HT'
      clear HT'
      have HK0' := Lib.hid (HK0.out.keep HBm.out)
      clear HK0
      have HK0 := HK0'
      clear HK0'
      have HS0' := Lib.hid (HS0.out.keep HBm.out)
      clear HS0
      have HS0 := HS0'
      clear HS0'
      have HE0' := Lib.hid (HE0.out.keep HBm.out)
      clear HE0
      have HE0 := HE0'
      clear HE0'
      replace HBx := Lib.hid (HBx.out.andThen HBm.out)
      clear HBm
      have HR1 := Lib.hid (HI1.out.right HOu.out (by rw [Hlu.out, HL.out]) HR.out).1
      have HTn := Lib.hid (Turn_ok (backL u) L1 E1 K A1 B1 n c1 m d1 kK wt1 HOk.out Hlk.out HL1.out HR1.out HW.out HS1.out HE1.out)
      have z0 := HK1.out.cell 0
      have z1 := HK1.out.cell 1
      simp at z0 z1
      go_upto_region 18 with (go_at_call 23; refine HTn.out.mono ?_; clear HTn; rintro e wq ⟨A2, c2, B2, d2, L2, E2, rfl, hI, hlq, hsq, htq, hbq⟩; have HI2 := Lib.hid hI; have HL2 := Lib.hid hlq; have HS2 := Lib.hid hsq; have HE2 := Lib.hid htq; have HBq := Lib.hid hbq; clear hI hlq hsq htq hbq)
      clear z0 z1
      obtain ⟨wt2, hwM⟩ : ∃ W, W = wq.alloc (.cells #[.slice A2 n c2, .slice B2 m d2] 30) := ⟨_, rfl⟩
      obtain ⟨g2, hg2⟩ : ∃ g, g = wq.heap.size := ⟨_, rfl⟩
      have HBm := Lib.hid (show Below wt1.heap.size wt1 wt2 from by rw [hwM]; exact bel_al HBq.out _)
      have HK2 := Lib.hid (show Blk wt2 g2 30 #[.slice A2 n c2, .slice B2 m d2] from by rw [hwM, hg2]; exact Blk.new _ _ _)
      have HS2' := Lib.hid (show Sl wt2 1 A2 n (L2.map (Value.int .i64)) from by rw [hwM]; exact HS2.out.alloc _)
      have HE2' := Lib.hid (show Sl wt2 2 B2 m (Rk.cells E2) from by rw [hwM]; exact HE2.out.alloc _)
      rw [← hwM, ← hg2]
      clear hwM hg2 HS2 HE2 HBq
      have HS2 := HS2'
      have HE2 := HE2'
      clear HS2' HE2'
      have HU' := Lib.hid (HU.out.keep HBm.out)
      clear HU
      have HU := HU'
      clear HU'
      have HV' := Lib.hid (HV.out.keep HBm.out)
      clear HV
      have HV := HV'
      clear HV'
      have HW' := Lib.hid (HW.out.keep HBm.out)
      clear HW
      have HW := HW'
      clear HW'
      have HT' := Lib.hid (HT.out.keep HBm.out)
      clear HT
      have HT := HT'
      clear HT'
      have HK0' := Lib.hid (HK0.out.keep HBm.out)
      clear HK0
      have HK0 := HK0'
      clear HK0'
      have HS0' := Lib.hid (HS0.out.keep HBm.out)
      clear HS0
      have HS0 := HS0'
      clear HS0'
      have HE0' := Lib.hid (HE0.out.keep HBm.out)
      clear HE0
      have HE0 := HE0'
      clear HE0'
      have HS1' := Lib.hid (HS1.out.keep HBm.out)
      clear HS1
      have HS1 := HS1'
      clear HS1'
      have HE1' := Lib.hid (HE1.out.keep HBm.out)
      clear HE1
      have HE1 := HE1'
      clear HE1'
      have HK1' := Lib.hid (HK1.out.keep HBm.out)
      clear HK1
      have HK1 := HK1'
      clear HK1'
      replace HBx := Lib.hid (HBx.out.andThen HBm.out)
      clear HBm
      have HTn := Lib.hid (Turn_ok v L1 E1 V A1 B1 n c1 m d1 kV wt2 HOv.out Hlv.out HL1.out HR1.out HV.out HS1.out HE1.out)
      have z0 := HK1.out.cell 0
      have z1 := HK1.out.cell 1
      simp at z0 z1
      go_upto_region 19 with (go_at_call 23; refine HTn.out.mono ?_; clear HTn; rintro e wq ⟨A3, c3, B3, d3, L3, E3, rfl, hI, hlq, hsq, htq, hbq⟩; have HI3 := Lib.hid hI; have HL3 := Lib.hid hlq; have HS3 := Lib.hid hsq; have HE3 := Lib.hid htq; have HBq := Lib.hid hbq; clear hI hlq hsq htq hbq)
      clear z0 z1
      obtain ⟨wt3, hwM⟩ : ∃ W, W = wq.alloc (.cells #[.slice A3 n c3, .slice B3 m d3] 30) := ⟨_, rfl⟩
      obtain ⟨g3, hg3⟩ : ∃ g, g = wq.heap.size := ⟨_, rfl⟩
      have HBm := Lib.hid (show Below wt2.heap.size wt2 wt3 from by rw [hwM]; exact bel_al HBq.out _)
      have HK3 := Lib.hid (show Blk wt3 g3 30 #[.slice A3 n c3, .slice B3 m d3] from by rw [hwM, hg3]; exact Blk.new _ _ _)
      have HS3' := Lib.hid (show Sl wt3 1 A3 n (L3.map (Value.int .i64)) from by rw [hwM]; exact HS3.out.alloc _)
      have HE3' := Lib.hid (show Sl wt3 2 B3 m (Rk.cells E3) from by rw [hwM]; exact HE3.out.alloc _)
      rw [← hwM, ← hg3]
      clear hwM hg3 HS3 HE3 HBq
      have HS3 := HS3'
      have HE3 := HE3'
      clear HS3' HE3'
      have HU' := Lib.hid (HU.out.keep HBm.out)
      clear HU
      have HU := HU'
      clear HU'
      have HV' := Lib.hid (HV.out.keep HBm.out)
      clear HV
      have HV := HV'
      clear HV'
      have HW' := Lib.hid (HW.out.keep HBm.out)
      clear HW
      have HW := HW'
      clear HW'
      have HT' := Lib.hid (HT.out.keep HBm.out)
      clear HT
      have HT := HT'
      clear HT'
      have HK0' := Lib.hid (HK0.out.keep HBm.out)
      clear HK0
      have HK0 := HK0'
      clear HK0'
      have HS0' := Lib.hid (HS0.out.keep HBm.out)
      clear HS0
      have HS0 := HS0'
      clear HS0'
      have HE0' := Lib.hid (HE0.out.keep HBm.out)
      clear HE0
      have HE0 := HE0'
      clear HE0'
      have HS1' := Lib.hid (HS1.out.keep HBm.out)
      clear HS1
      have HS1 := HS1'
      clear HS1'
      have HE1' := Lib.hid (HE1.out.keep HBm.out)
      clear HE1
      have HE1 := HE1'
      clear HE1'
      have HK1' := Lib.hid (HK1.out.keep HBm.out)
      clear HK1
      have HK1 := HK1'
      clear HK1'
      have HS2' := Lib.hid (HS2.out.keep HBm.out)
      clear HS2
      have HS2 := HS2'
      clear HS2'
      have HE2' := Lib.hid (HE2.out.keep HBm.out)
      clear HE2
      have HE2 := HE2'
      clear HE2'
      have HK2' := Lib.hid (HK2.out.keep HBm.out)
      clear HK2
      have HK2 := HK2'
      clear HK2'
      replace HBx := Lib.hid (HBx.out.andThen HBm.out)
      clear HBm
      have HTn := Lib.hid (Turn_ok (thenL u v) L E T A D n c m dk kT wt3 HOt.out Hlt.out HL.out HR.out HT.out HS0.out HE0.out)
      have z0 := HK0.out.cell 0
      have z1 := HK0.out.cell 1
      simp at z0 z1
      go_upto_region 20 with (go_at_call 23; refine HTn.out.mono ?_; clear HTn; rintro e wq ⟨A4, c4, B4, d4, L4, E4, rfl, hI, hlq, hsq, htq, hbq⟩; have HI4 := Lib.hid hI; have HL4 := Lib.hid hlq; have HS4 := Lib.hid hsq; have HE4 := Lib.hid htq; have HBq := Lib.hid hbq; clear hI hlq hsq htq hbq)
      clear z0 z1
      obtain ⟨wt4, hwM⟩ : ∃ W, W = wq.alloc (.cells #[.slice A4 n c4, .slice B4 m d4] 30) := ⟨_, rfl⟩
      obtain ⟨g4, hg4⟩ : ∃ g, g = wq.heap.size := ⟨_, rfl⟩
      have HBm := Lib.hid (show Below wt3.heap.size wt3 wt4 from by rw [hwM]; exact bel_al HBq.out _)
      have HK4 := Lib.hid (show Blk wt4 g4 30 #[.slice A4 n c4, .slice B4 m d4] from by rw [hwM, hg4]; exact Blk.new _ _ _)
      have HS4' := Lib.hid (show Sl wt4 1 A4 n (L4.map (Value.int .i64)) from by rw [hwM]; exact HS4.out.alloc _)
      have HE4' := Lib.hid (show Sl wt4 2 B4 m (Rk.cells E4) from by rw [hwM]; exact HE4.out.alloc _)
      rw [← hwM, ← hg4]
      clear hwM hg4 HS4 HE4 HBq
      have HS4 := HS4'
      have HE4 := HE4'
      clear HS4' HE4'
      have HU' := Lib.hid (HU.out.keep HBm.out)
      clear HU
      have HU := HU'
      clear HU'
      have HV' := Lib.hid (HV.out.keep HBm.out)
      clear HV
      have HV := HV'
      clear HV'
      have HW' := Lib.hid (HW.out.keep HBm.out)
      clear HW
      have HW := HW'
      clear HW'
      have HT' := Lib.hid (HT.out.keep HBm.out)
      clear HT
      have HT := HT'
      clear HT'
      have HK0' := Lib.hid (HK0.out.keep HBm.out)
      clear HK0
      have HK0 := HK0'
      clear HK0'
      have HS0' := Lib.hid (HS0.out.keep HBm.out)
      clear HS0
      have HS0 := HS0'
      clear HS0'
      have HE0' := Lib.hid (HE0.out.keep HBm.out)
      clear HE0
      have HE0 := HE0'
      clear HE0'
      have HS1' := Lib.hid (HS1.out.keep HBm.out)
      clear HS1
      have HS1 := HS1'
      clear HS1'
      have HE1' := Lib.hid (HE1.out.keep HBm.out)
      clear HE1
      have HE1 := HE1'
      clear HE1'
      have HK1' := Lib.hid (HK1.out.keep HBm.out)
      clear HK1
      have HK1 := HK1'
      clear HK1'
      have HS2' := Lib.hid (HS2.out.keep HBm.out)
      clear HS2
      have HS2 := HS2'
      clear HS2'
      have HE2' := Lib.hid (HE2.out.keep HBm.out)
      clear HE2
      have HE2 := HE2'
      clear HE2'
      have HK2' := Lib.hid (HK2.out.keep HBm.out)
      clear HK2
      have HK2 := HK2'
      clear HK2'
      have HS3' := Lib.hid (HS3.out.keep HBm.out)
      clear HS3
      have HS3 := HS3'
      clear HS3'
      have HE3' := Lib.hid (HE3.out.keep HBm.out)
      clear HE3
      have HE3 := HE3'
      clear HE3'
      have HK3' := Lib.hid (HK3.out.keep HBm.out)
      clear HK3
      have HK3 := HK3'
      clear HK3'
      replace HBx := Lib.hid (HBx.out.andThen HBm.out)
      clear HBm
      have HQb := Lib.hid (Pt.turn_back HOu.out (by rw [Hlu.out, HL.out]) HR.out HI1.out HI2.out)
      have HQt := Lib.hid (Pt.turn_two HOu.out HOv.out (by rw [Hlu.out, Hlv.out]) (by rw [Hlu.out, HL.out]) HR.out HI1.out HI3.out HI4.out)
      have HQc := Lib.hid (Pt.turn_conn HOu.out (by rw [Hlu.out, HL.out]) HR.out HI1.out HI2.out)
      go_cut [27, 28] from 106 to 111 (fun pv5 ev5 wx => ∃ (g5 : Nat) (A5 : Option Addr) (c5 : Nat) (B5 : Option Addr) (d5 : Nat), pv5 = .pointer (some ⟨g5, 0, none⟩) ∧ ev5 = .nilIface ∧ Hid (Blk wx g5 30 #[.slice A5 n c5, .slice B5 m d5]) ∧ Hid (Sl wx 1 A5 n (L.map (Value.int .i64))) ∧ Hid (Sl wx 2 B5 m (Rk.cells E)) ∧ Hid (Below wt4.heap.size wt4 wx))
      case first =>
        have HSb := Lib.hid (show ∀ (V5 : Option Addr) (k5 : Nat) W, n ≤ k5 → k5 ≤ 9223372036854775807 → Sl W 1 V5 n ((ids n).map (Value.int .i64)) → Below wt4.heap.size wt4 W → Calls Tryz.prog 24 #[pv A n c D m dk, .slice V5 n k5] W fun e w' => ∃ A' c' B' d', e = .returned (.tuple #[pv A' n c' B' m d', .nilIface]) ∧ Sl w' 1 A' n (L.map (Value.int .i64)) ∧ Sl w' 2 B' m (Rk.cells E) ∧ Below W.heap.size W w' from fun V5 k5 W h1 h2 h3 hW => SubAll_ok L E V5 A D n c m dk k5 W HL.out HR.out h1 h2 h3 (HS0.out.keep hW) (HE0.out.keep hW))
        have z0 := HK0.out.cell 0
        have z1 := HK0.out.cell 1
        have ka := HK0.out.alloc (.cells #[.slice none 0 0, .slice none 0 0] 30)
        have y0 := ka.cell 0
        have y1 := ka.cell 1
        simp at z0 z1 y0 y1
        clear ka
        have HBn := Lib.hid (bel_drewN (Below.refl wt4.heap.size wt4) 1)
        have HBo := Lib.hid (bel_drewN (bel_al (Below.refl wt4.heap.size wt4) (.cells #[.slice none 0 0, .slice none 0 0] 30)) 1)
        go_region_law
          (first
          | (go_simp; go_at_call 24; refine (HSb.out _ _ _ HC5.out.1 HC5.out.2 (by first | exact HV5.out | exact HV5.out.alloc _) (by first | exact HBi.out | exact bel_al HBi.out _)).mono ?_; rintro e ws ⟨A5, c5, B5, d5, rfl, hs5, ht5, hb5⟩; have HS5 := Lib.hid hs5; have HE5 := Lib.hid ht5; (first | have HBs := Lib.hid (HBi.out.andThen hb5) | have HBs := Lib.hid ((bel_al HBi.out (.cells #[.slice none 0 0, .slice none 0 0] 30)).andThen hb5)); (first | (have HGs := Lib.hid (HGi.out.keep hb5); have q0 := HGs.out.cell 0; have q1 := HGs.out.cell 1; have q2 := HGs.out.frozen 0; have q3 := HGs.out.frozen 1; simp at q0 q1) | (have HGs := Lib.hid ((Blk.new wi 30 #[.slice none 0 0, .slice none 0 0]).keep hb5); have q0 := HGs.out.cell 0; have q1 := HGs.out.cell 1; have q2 := HGs.out.frozen 0; have q3 := HGs.out.frozen 1; simp at q0 q1) | skip); clear hs5 ht5 hb5)
          | (go_simp; go_at_call 25; refine (IdC_any n _ hn8).mono ?_; rintro e wi ⟨V5, k5, rfl, hV5, hc5, hc6, hbi⟩; have HV5 := Lib.hid hV5; have HC5 := Lib.hid (And.intro hc5 hc6); (first | have HBi := Lib.hid (HBn.out.andThen hbi) | (have HBi := Lib.hid (HBo.out.andThen hbi); have HGi := Lib.hid ((show Blk ((wt4.alloc (.cells #[.slice none 0 0, .slice none 0 0] 30)).drewN 1) wt4.heap.size 30 #[.slice none 0 0, .slice none 0 0] from Blk.new _ _ _).keep hbi))); (have i0 := (HK0.out.keep HBi.out).cell 0); (have i1 := (HK0.out.keep HBi.out).cell 1); (have j0 := ((HK0.out.keep HBi.out).alloc (.cells #[.slice none 0 0, .slice none 0 0] 30)).cell 0); (have j1 := ((HK0.out.keep HBi.out).alloc (.cells #[.slice none 0 0, .slice none 0 0] 30)).cell 1); simp at i0 i1 j0 j1; clear hV5 hc5 hc6 hbi))
        all_goals (
          go_wp2_with fail
          go_meet
          first
            | exact ⟨wt4.heap.size, A5, c5, B5, d5, rfl, rfl, Lib.hid ((HGs.out.set_ 0 _).set_ 1 _), Lib.hid ((HS5.out.off_pat HGs.out 0 _).off_pat (HGs.out.set_ 0 _) 1 _), Lib.hid ((HE5.out.off_patE HGs.out 0 _).off_patE (HGs.out.set_ 0 _) 1 _), Lib.hid ((HBs.out.setCell (p := ⟨wt4.heap.size, 0, none⟩) (Nat.le_refl _) _).setCell (p := ⟨wt4.heap.size, 1, none⟩) (Nat.le_refl _) _)⟩
            | exact ⟨wi.heap.size, A5, c5, B5, d5, rfl, rfl, Lib.hid ((HGs.out.set_ 0 _).set_ 1 _), Lib.hid ((HS5.out.off_pat HGs.out 0 _).off_pat (HGs.out.set_ 0 _) 1 _), Lib.hid ((HE5.out.off_patE HGs.out 0 _).off_patE (HGs.out.set_ 0 _) 1 _), Lib.hid ((HBs.out.setCell (p := ⟨wi.heap.size, 0, none⟩) HBi.out.size _).setCell (p := ⟨wi.heap.size, 1, none⟩) HBi.out.size _)⟩
            | exact ⟨ws.heap.size, A5, c5, B5, d5, rfl, rfl, Lib.hid (Blk.new _ _ _), Lib.hid (HS5.out.alloc _), Lib.hid (HE5.out.alloc _), Lib.hid (bel_al HBs.out _)⟩)
      case rest =>
      obtain ⟨g5, A5, c5, B5, d5, rfl, rfl, HK5, HS5, HE5, HB5⟩ := hcut
      have HU' := Lib.hid (HU.out.keep HB5.out)
      clear HU
      have HU := HU'
      clear HU'
      have HV' := Lib.hid (HV.out.keep HB5.out)
      clear HV
      have HV := HV'
      clear HV'
      have HW' := Lib.hid (HW.out.keep HB5.out)
      clear HW
      have HW := HW'
      clear HW'
      have HT' := Lib.hid (HT.out.keep HB5.out)
      clear HT
      have HT := HT'
      clear HT'
      have HK0' := Lib.hid (HK0.out.keep HB5.out)
      clear HK0
      have HK0 := HK0'
      clear HK0'
      have HS0' := Lib.hid (HS0.out.keep HB5.out)
      clear HS0
      have HS0 := HS0'
      clear HS0'
      have HE0' := Lib.hid (HE0.out.keep HB5.out)
      clear HE0
      have HE0 := HE0'
      clear HE0'
      have HS1' := Lib.hid (HS1.out.keep HB5.out)
      clear HS1
      have HS1 := HS1'
      clear HS1'
      have HE1' := Lib.hid (HE1.out.keep HB5.out)
      clear HE1
      have HE1 := HE1'
      clear HE1'
      have HK1' := Lib.hid (HK1.out.keep HB5.out)
      clear HK1
      have HK1 := HK1'
      clear HK1'
      have HS2' := Lib.hid (HS2.out.keep HB5.out)
      clear HS2
      have HS2 := HS2'
      clear HS2'
      have HE2' := Lib.hid (HE2.out.keep HB5.out)
      clear HE2
      have HE2 := HE2'
      clear HE2'
      have HK2' := Lib.hid (HK2.out.keep HB5.out)
      clear HK2
      have HK2 := HK2'
      clear HK2'
      have HS3' := Lib.hid (HS3.out.keep HB5.out)
      clear HS3
      have HS3 := HS3'
      clear HS3'
      have HE3' := Lib.hid (HE3.out.keep HB5.out)
      clear HE3
      have HE3 := HE3'
      clear HE3'
      have HK3' := Lib.hid (HK3.out.keep HB5.out)
      clear HK3
      have HK3 := HK3'
      clear HK3'
      have HS4' := Lib.hid (HS4.out.keep HB5.out)
      clear HS4
      have HS4 := HS4'
      clear HS4'
      have HE4' := Lib.hid (HE4.out.keep HB5.out)
      clear HE4
      have HE4 := HE4'
      clear HE4'
      have HK4' := Lib.hid (HK4.out.keep HB5.out)
      clear HK4
      have HK4 := HK4'
      clear HK4'
      replace HBx := Lib.hid (HBx.out.andThen HB5.out)
      clear HB5
      have hb0 := Below.refl wc.heap.size wc
      have H1 := Lib.hid (show ∀ W, Below wc.heap.size wc W → Calls Tryz.prog 26 #[pv A2 n c2 B2 m d2, pv A n c D m dk] W fun e w' => e = .returned (.int .i64 0) ∧ Below wc.heap.size wc w' from fun W hW => (PatCompare_any L2 L E2 E A2 A B2 D n n m m c2 c d2 dk W HL2.out HL.out (by omega) (by omega) (HS2.out.keep hW) (HS0.out.keep hW) (HE2.out.keep hW) (HE0.out.keep hW)).mono fun e w' h => ⟨by rw [h.1, Pt.cmpP_zero.2 HQb.out], hW.andThen h.2⟩)
      have H2 := Lib.hid (show ∀ W, Below wc.heap.size wc W → Calls Tryz.prog 26 #[pv A3 n c3 B3 m d3, pv A4 n c4 B4 m d4] W fun e w' => e = .returned (.int .i64 0) ∧ Below wc.heap.size wc w' from fun W hW => (PatCompare_any L3 L4 E3 E4 A3 A4 B3 B4 n n m m c3 c4 d3 d4 W HL3.out HL4.out (by omega) (by omega) (HS3.out.keep hW) (HS4.out.keep hW) (HE3.out.keep hW) (HE4.out.keep hW)).mono fun e w' h => ⟨by rw [h.1, Pt.cmpP_zero.2 HQt.out], hW.andThen h.2⟩)
      have H3 := Lib.hid (show ∀ W, Below wc.heap.size wc W → Calls Tryz.prog 26 #[pv A5 n c5 B5 m d5, pv A n c D m dk] W fun e w' => e = .returned (.int .i64 0) ∧ Below wc.heap.size wc w' from fun W hW => (PatCompare_any L L E E A5 A B5 D n n m m c5 c d5 dk W HL.out HL.out (by omega) (by omega) (HS5.out.keep hW) (HS0.out.keep hW) (HE5.out.keep hW) (HE0.out.keep hW)).mono fun e w' h => ⟨by rw [h.1, Pt.cmpP_zero.2 ⟨rfl, rfl⟩], hW.andThen h.2⟩)
      obtain ⟨cb, hcb⟩ : ∃ cb : Bool, (cb = true ↔ connP L E) := ⟨@decide (connP L E) (Classical.propDecidable _), @decide_eq_true_iff _ (Classical.propDecidable _)⟩
      have H4 := Lib.hid (show ∀ W, Below wc.heap.size wc W → Calls Tryz.prog 27 #[pv A1 n c1 B1 m d1] W fun e w' => e = .returned (.bool cb) ∧ Below wc.heap.size wc w' from fun W hW => (con_fixB (hcb.trans HQc.out.symm) (Connected_any L1 E1 A1 B1 n c1 m d1 W HL1.out (by omega) (by omega) (HS1.out.keep hW) (HE1.out.keep hW))).mono fun e w' h => ⟨h.1, hW.andThen h.2⟩)
      have H5 := Lib.hid (show ∀ W, Below wc.heap.size wc W → Calls Tryz.prog 27 #[pv A n c D m dk] W fun e w' => e = .returned (.bool cb) ∧ Below wc.heap.size wc w' from fun W hW => (con_fixB hcb (Connected_any L E A D n c m dk W HL.out (by omega) (by omega) (HS0.out.keep hW) (HE0.out.keep hW))).mono fun e w' h => ⟨h.1, hW.andThen h.2⟩)
      clear hcb
      have HAll := Lib.hid (show ∀ W, Below wc.heap.size wc W → (W.cell? ⟨g0, 0, none⟩ = some (.slice A n c) ∧ W.cell? ⟨g0, 1, none⟩ = some (.slice D m dk)) ∧ (W.cell? ⟨g1, 0, none⟩ = some (.slice A1 n c1) ∧ W.cell? ⟨g1, 1, none⟩ = some (.slice B1 m d1)) ∧ (W.cell? ⟨g2, 0, none⟩ = some (.slice A2 n c2) ∧ W.cell? ⟨g2, 1, none⟩ = some (.slice B2 m d2)) ∧ (W.cell? ⟨g3, 0, none⟩ = some (.slice A3 n c3) ∧ W.cell? ⟨g3, 1, none⟩ = some (.slice B3 m d3)) ∧ (W.cell? ⟨g4, 0, none⟩ = some (.slice A4 n c4) ∧ W.cell? ⟨g4, 1, none⟩ = some (.slice B4 m d4)) ∧ (W.cell? ⟨g5, 0, none⟩ = some (.slice A5 n c5) ∧ W.cell? ⟨g5, 1, none⟩ = some (.slice B5 m d5)) from fun W hW => ⟨⟨(HK0.out.keep hW).cell 0, (HK0.out.keep hW).cell 1⟩, ⟨(HK1.out.keep hW).cell 0, (HK1.out.keep hW).cell 1⟩, ⟨(HK2.out.keep hW).cell 0, (HK2.out.keep hW).cell 1⟩, ⟨(HK3.out.keep hW).cell 0, (HK3.out.keep hW).cell 1⟩, ⟨(HK4.out.keep hW).cell 0, (HK4.out.keep hW).cell 1⟩, ⟨(HK5.out.keep hW).cell 0, (HK5.out.keep hW).cell 1⟩⟩)
      go_upto_region 21 with (fail)
      refine wp_region_qq (fun W => Below wc.heap.size wc W) (by kernel_rfl) (by kernel_rfl) (bel_drewN (Below.refl _ _) 1) ?_
      repeat (
        first
          | (apply qq_want
             · rfl
             · intro W hW
               have zz := HAll.out W hW
               go_simp
               first
                 | done
                 | exact rfl
                 | with_reducible exact H1.out W hW
                 | with_reducible exact H2.out W hW
                 | with_reducible exact H3.out W hW
                 | with_reducible exact H4.out W hW
                 | with_reducible exact H5.out W hW)
          | (refine qq_pass ?_ ?_
             · rfl)
        try simp only [Act.put, List.setIfInBounds_toArray, List.set_cons_zero, List.set_cons_succ])
      refine qq_nil ?_
      intro wq hbq
      have HBq := Lib.hid hbq
      clear hbq hb0 H1 H2 H3 H4 H5
      go_wp2_with fail
      go_loopw [29] (fun iv wr => ∃ i : Nat, i ≤ n ∧ iv = .int .i64 (i : Int) ∧ Hid (Below wc.heap.size wc wr)) (fun iv _ => n - (intOf iv).toNat)
      case atStart => exact ⟨0, Nat.zero_le _, rfl, HBq⟩
      case round =>
        obtain ⟨i, hi, rfl, HBr⟩ := hrel
        clear HBq
        by_cases hlt : i < n
        · have hlt' : (i : Int) < (n : Int) := by omega
          have hi0 : (0 : Int) ≤ (i : Int) := by omega
          obtain ⟨x, hx⟩ : ∃ x, L[i]? = some x := ⟨_, List.getElem?_eq_getElem (by rw [HL.out]; exact hlt)⟩
          have hlab := Pt.turn_lab HOu.out (by rw [Hlu.out, HL.out]) HI1.out hx
          have hdeg := Pt.turn_deg HOu.out (by rw [Hlu.out, HL.out]) HR.out HI1.out (a := (i : Int)) (by omega) (by rw [Hlu.out]; omega)
          have hvl := Pt.vtx_lt HOu.out (a := (i : Int)) (by omega) (by rw [Hlu.out]; omega)
          have hvg := Pt.vtx_get HOu.out (a := (i : Int)) (by omega) (by rw [Hlu.out]; omega)
          rw [Hlu.out] at hvl
          rw [Int.toNat_natCast] at hvg
          generalize Pt.vtx u (i : Int) = z at *
          obtain ⟨k, rfl⟩ := Int.eq_ofNat_of_zero_le hvl.1
          rw [Int.toNat_natCast] at hlab
          have hk' : ((k : Nat) : Int) < (n : Int) := hvl.2
          have hk0 : (0 : Int) ≤ ((k : Nat) : Int) := hvl.1
          have hkn : k < n := by omega
          obtain ⟨bU, oU, hUU, hUc⟩ := HU.out.at_ (show 0 < n by omega)
          subst hUU
          obtain ⟨bA, oA, hAA, hAc⟩ := HS0.out.at_ (show 0 < n by omega)
          subst hAA
          obtain ⟨bY, oY, hYY, hYc⟩ := HS1.out.at_ (show 0 < n by omega)
          subst hYY
          have HCe := Lib.hid (show ∀ W, Below wc.heap.size wc W → W.cell? ⟨bU, oU + i, none⟩ = some (.int .i64 ((k : Nat) : Int)) ∧ W.cell? ⟨bA, oA + i, none⟩ = some (.int .i64 x) ∧ W.cell? ⟨bY, oY + k, none⟩ = some (.int .i64 x) from fun W hW => ⟨(HU.out.keep hW).again hlt (by rw [List.getElem?_map, hvg]; rfl), (HS0.out.keep hW).again hlt (by rw [List.getElem?_map, hx]; rfl), (HS1.out.keep hW).again hkn (by rw [List.getElem?_map, hlab]; rfl)⟩)
          have HD1 := Lib.hid (show ∀ W, Below wc.heap.size wc W → Calls Tryz.prog 28 #[pv (some ⟨bY, oY, none⟩) n c1 B1 m d1, .int .i64 ((k : Nat) : Int)] W fun e w' => e = .returned (.int .i64 (Pt.deg E (i : Int) : Nat)) ∧ Below wc.heap.size wc w' from fun W hW => (Degree_any E1 _ B1 n c1 m d1 ((k : Nat) : Int) W (by omega) (HE1.out.keep hW)).mono fun e w' h => ⟨by rw [h.1, hdeg], hW.andThen h.2⟩)
          have HD2 := Lib.hid (show ∀ W, Below wc.heap.size wc W → Calls Tryz.prog 28 #[pv (some ⟨bA, oA, none⟩) n c D m dk, .int .i64 (i : Int)] W fun e w' => e = .returned (.int .i64 (Pt.deg E (i : Int) : Nat)) ∧ Below wc.heap.size wc w' from fun W hW => (Degree_any E _ D n c m dk (i : Int) W (by omega) (HE0.out.keep hW)).mono fun e w' h => ⟨h.1, hW.andThen h.2⟩)
          clear hUc hAc hYc hlab hdeg hvl hvg hx
          generalize ((Pt.deg E (i : Int) : Nat) : Int) = dg at *
          go_upto_region 26 with (fail)
          refine wp_region_qq (fun W => Below wc.heap.size wc W) (by kernel_rfl) (by kernel_rfl) (bel_drewN (HBr.out) 1) ?_
          repeat (
            first
              | (apply qq_want
                 · rfl
                 · intro W hW
                   obtain ⟨y1, y2, y3⟩ := HCe.out W hW; have zz := HAll.out W hW
                   go_simp
                   first
                     | done
                     | exact rfl
                     | with_reducible exact HD1.out W hW
                     | with_reducible exact HD2.out W hW)
              | (refine qq_pass ?_ ?_
                 · rfl)
            try simp only [Act.put, List.setIfInBounds_toArray, List.set_cons_zero, List.set_cons_succ])
          refine qq_nil ?_
          intro wx hbx
          have HBX := Lib.hid hbx
          clear hbx HBr
          go_wp2_with fail
          go_roundw
          case rel => exact ⟨i + 1, by omega, by go_num, HBX⟩
          case measure => simp [intOf]; omega
        · obtain rfl : i = n := by omega
          have hlt' : ¬ (i : Int) < (i : Int) := by omega
          obtain ⟨h3, h4⟩ := cmp_three L E L1 E1
          obtain ⟨z1, hz1⟩ : ∃ z, z = Pt.cmpP L E L1 E1 := ⟨_, rfl⟩
          obtain ⟨z2, hz2⟩ : ∃ z, z = Pt.cmpP L1 E1 L E := ⟨_, rfl⟩
          have H8 := Lib.hid (show ∀ W, Below wc.heap.size wc W → Calls Tryz.prog 26 #[pv A i c D m dk, pv A1 i c1 B1 m d1] W fun e w' => e = .returned (.int .i64 z1) ∧ Below wc.heap.size wc w' from fun W hW => (PatCompare_any L L1 E E1 A A1 D B1 i i m m c c1 dk d1 W HL.out HL1.out (by omega) (by omega) (HS0.out.keep hW) (HS1.out.keep hW) (HE0.out.keep hW) (HE1.out.keep hW)).mono fun e w' h => ⟨by rw [h.1, hz1], hW.andThen h.2⟩)
          have H9 := Lib.hid (show ∀ W, Below wc.heap.size wc W → Calls Tryz.prog 26 #[pv A1 i c1 B1 m d1, pv A i c D m dk] W fun e w' => e = .returned (.int .i64 z2) ∧ Below wc.heap.size wc w' from fun W hW => (PatCompare_any L1 L E1 E A1 A B1 D i i m m c1 c d1 dk W HL1.out HL.out (by omega) (by omega) (HS1.out.keep hW) (HS0.out.keep hW) (HE1.out.keep hW) (HE0.out.keep hW)).mono fun e w' h => ⟨by rw [h.1, hz2], hW.andThen h.2⟩)
          rw [← hz1, ← hz2] at h3
          rw [← hz1] at h4
          clear hz1 hz2
          have h5 : z1 = -1 ∧ z2 = 1 ∨ z1 = 0 ∧ z2 = 0 ∨ z1 = 1 ∧ z2 = -1 := by omega
          clear h3 h4
          go_upto_region 28 with (fail)
          rcases h5 with ⟨rfl, rfl⟩ | ⟨rfl, rfl⟩ | ⟨rfl, rfl⟩
          all_goals (
            refine wp_region_qq (fun W => Below wc.heap.size wc W) (by kernel_rfl) (by kernel_rfl) (bel_drewN (HBr.out) 1) ?_
            repeat (
              first
                | (apply qq_want
                   · rfl
                   · intro W hW
                     have zz := HAll.out W hW
                     go_simp
                     first
                       | done
                       | exact rfl
                       | with_reducible exact H8.out W hW
                       | with_reducible exact H9.out W hW)
                | (refine qq_pass ?_ ?_
                   · rfl)
              try simp only [Act.put, List.setIfInBounds_toArray, List.set_cons_zero, List.set_cons_succ])
            refine qq_nil ?_
            intro wz hbz
            have HBz := Lib.hid hbz
            clear hbz
            go_wp2_with fail
            go_ret
            exact ⟨rfl, HBx.out.andThen HBz.out⟩)
theorem PatBack_main (A : Option Addr) (n c : Nat) (B : Option Addr) (m d : Nat) (L : List Int) (E : List (Int × Int)) (a b : Int) (w : World) (hg : ErrT w) (hT : TabW w)
    (hl : L.length = n) (hn : n ≤ 1048576) (hm : m ≤ 1048576) (hs : Sl w 1 A n (L.map (Value.int .i64))) (ht : Sl w 2 B m (Rk.cells E)) (ha : (Lit.int .u16 a).wf = true) (hb : (Lit.int .u16 b).wf = true) :
    Calls Tryz.prog 5 #[pv A n c B m d, .int .u16 a, .int .u16 b] w fun e w' => e = .returned (.bool true) ∧ Below w.heap.size w w' := by
  obtain ⟨h1, h2⟩ := wf_u16 ha
  obtain ⟨h3, h4⟩ := wf_u16 hb
  obtain ⟨i, rfl⟩ := Int.eq_ofNat_of_zero_le h1
  obtain ⟨j, rfl⟩ := Int.eq_ofNat_of_zero_le h3
  exact PatBack_walk L E A B n c m d i j w (by omega) (by omega) hl hn hm hs ht hg hT
end Go.Proofs.YtapledphhfiimaaGreatDoor
/-
  The closed facts of a row over a great program, in parts (each by the kernel apart).
-/
namespace Go.Proofs.YtapledphhfiimaaGreatDoor
open Go.ChangeShapes Go.WideShapes Go.ChangeAt Go.RowKit
set_option linter.unusedVariables false

section
variable {P : Program} {f : FuncId} {fn : Func} {s : ChangeSpec} {c : OpenClaim}
theorem joined_of (h0 : (c.wf (OpenSpec.ofChange s) && laidOutB P && mapsRowed P && fn.params.all (P.readableRec ·) && namedTie P c.named s.vars && (c.stops == []) && (P.stops == []) && (c.knobs == []) && (P.stopKnobs == [])) = true)
    (h1 : (c.inPlace == P.inPlace f) = true) (h2 : (c.unfollowed == P.unfollowed f) = true) (h3 : (c.recurses == P.recurses f) = true) (h4 : (c.named == P.varsNamed f) = true)
    (h5 : ((c.maps == (fn.params.toList ++ s.plain.varTypes P).any (P.mapsRec ·)) && (c.ifaces == (fn.params.toList ++ s.plain.varTypes P).any (P.ifacesRec ·)) && (c.mapsOut == P.mapsAmong fn.resultTypes.toList) &&
      (c.loops == (fn.params.toList ++ s.plain.varTypes P).any (P.loopsFrom ·)) && (c.wideKeys == (fn.params.toList ++ s.plain.varTypes P ++ fn.resultTypes.toList).any (P.wideKeysFrom ·)) &&
      s.vars.all (P.varReadable ·) && fn.resultTypes.all (fun t => P.readableRec t && decide (t < P.types.size)) && (c.ifacesOut == fn.resultTypes.toList.any (P.ifacesRec ·)) && (c.loopsOut == fn.resultTypes.toList.any (P.loopsFrom ·))) = true)
    (h6 : ((c.plainKeys == P.plainKeys) && c.shortTexts.isNone && P.stopsHeard && P.mayEnter && (c.lifted == P.liftsFinal) && (P.make == some c.make)) = true)
    (h7 : ((c.kinds == (if c.domain.isEmpty then [] else fn.params.toList.map fun t => match P.underlying t with | some (.int k) => some k | _ => none)) && (c.pinned == c.pinnedBy) &&
      (c.veiled == (fn.params.toList ++ s.plain.varTypes P ++ fn.resultTypes.toList).any (P.veiledRec ·)) && c.veiledFits P fn.params.toList (fn.params.toList ++ s.plain.varTypes P ++ fn.resultTypes.toList)) = true) :
    joinedFacts P f fn s c = true := by
  unfold joinedFacts
  simp only [Bool.and_eq_true] at h0 h5 h6 h7 ⊢
  obtain ⟨⟨⟨⟨⟨⟨⟨⟨a1, a2⟩, a3⟩, a4⟩, a5⟩, a6⟩, a7⟩, a8⟩, a9⟩ := h0
  obtain ⟨⟨⟨⟨⟨⟨⟨⟨b1, b2⟩, b3⟩, b4⟩, b5⟩, b6⟩, b7⟩, b8⟩, b9⟩ := h5
  obtain ⟨⟨⟨⟨⟨d1, d2⟩, d3⟩, d4⟩, d5⟩, d6⟩ := h6
  obtain ⟨⟨⟨e1, e2⟩, e3⟩, e4⟩ := h7
  exact ⟨⟨⟨⟨⟨⟨⟨⟨⟨⟨⟨⟨⟨⟨⟨⟨⟨⟨⟨⟨⟨⟨⟨⟨⟨⟨⟨⟨⟨⟨⟨a1, a2⟩, a3⟩, a4⟩, a5⟩, a6⟩, a7⟩, a8⟩, a9⟩, h1⟩, h2⟩, h3⟩, h4⟩, b1⟩, b2⟩, b3⟩, b4⟩, b5⟩, b6⟩, b7⟩, b8⟩, b9⟩, d1⟩, d2⟩, d3⟩, d4⟩, d5⟩, d6⟩, e1⟩, e2⟩, e3⟩, e4⟩
end
end Go.Proofs.YtapledphhfiimaaGreatDoor
