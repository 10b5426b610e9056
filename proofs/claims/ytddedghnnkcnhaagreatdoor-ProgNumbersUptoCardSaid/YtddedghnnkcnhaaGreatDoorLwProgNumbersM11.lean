/-
  Part 11 of the proof of LwProgNumbers: ProgNumbers, FrameV, FrameG, FrameL.
-/
import Derived.BigQuiet
import Derived.Laws.OwnMore
import Derived.Test.YtddedghnnkcnhaaGreatDoorLwProgNumbersM10
import Derived.Test.YtddedghnnkcnhaaGreatDoorLwProgNumbersM4
import Derived.Test.YtddedghnnkcnhaaGreatDoorLwProgNumbersM5
import Derived.Test.YtddedghnnkcnhaaGreatDoorLwProgNumbersM1
import Derived.Stop.LaidErr
import Derived.Shelf.Vars
/-
  ProgNumbers: the walk.
-/
namespace Go.Proofs.YtddedghnnkcnhaaGreatDoor
open Go.RowKit Go.Proofs.YtddedghnnkcnhaaGreatDoor.Pg
attribute [local go_sem ↓] Go.wp_at_zero Go.wp_at_succ
set_option maxRecDepth 100000
set_option linter.unusedVariables false

set_option maxHeartbeats 1600000 in
theorem ProgNumbers_walk (L : List Int) (E : List (Int × Int)) (A B : Option Addr) (n c m d kn nn : Nat) (w : World) (hkn : kn < 256) (hnn : nn < 256) (hl : L.length = n) (hn : n ≤ 1048576) (hm : m ≤ 1048576) (hs : Sl w 1 A n (L.map (Value.int .i64))) (ht : Sl w 2 B m (Rk.cells E)) (hg : ErrT w) (hT : TabW w) (hL : LibW w) :
    Calls Tryz.prog 13 #[pv A n c B m d, .int .u8 (kn : Int), .int .u8 (nn : Int)] w fun e w' => e = .returned (.bool true) ∧ Below w.heap.size w w' := by
  have HS := Lib.hid hs
  have HE := Lib.hid ht
  have HL := Lib.hid hl
  have HM := Lib.hid ht.len2
  obtain ⟨w0, hw0⟩ : ∃ W, W = w.alloc (.cells #[.slice A n c, .slice B m d] 25) := ⟨_, rfl⟩
  have HB0 := Lib.hid (show Below w.heap.size w w0 from by rw [hw0]; exact bel_al (Below.refl _ _) _)
  have HK0 := Lib.hid (show Blk w0 w.heap.size 25 #[.slice A n c, .slice B m d] from by rw [hw0]; exact Blk.new _ _ _)
  have HAl := Lib.hid (alive17 w0 (hg.keep HB0.out) (hT.keep HB0.out) (hL.keep HB0.out))
  clear hg hT hL hs ht hl
  go_enter Tryz.func13, Tryz.ntmps13
  go_upto_region 1 with (fail)
  rw [← hw0]
  clear hw0
  go_upto_region 3 with (go_at_call 66; refine HAl.out.mono ?_; clear HAl; rintro e w1 ⟨rfl, hb1⟩; have HB1 := Lib.hid (HB0.out.andThen hb1); have HK1 := Lib.hid (HK0.out.keep hb1); clear hb1)
  clear HB0 HK0
  have k0 := HK1.out.cell 0
  have k1 := HK1.out.cell 1
  simp at k0 k1
  have HOf := Lib.hid (Of08_any E A B n c m d w1 hm (HE.out.keep HB1.out))
  go_upto_region 4 with (go_at_call 16; refine HOf.out.mono ?_; clear HOf; rintro e w2 ⟨D, dk, rfl, hsD, hb2⟩; have HB2 := Lib.hid (HB1.out.andThen hb2); have HK2 := Lib.hid (HK1.out.keep hb2); have HD2 := Lib.hid hsD; clear hb2 hsD)
  obtain ⟨wa, hwa⟩ : ∃ W, W = w2.alloc (.cells #[.slice A n c, .slice D m dk] 31) := ⟨_, rfl⟩
  have HBa := Lib.hid (show Below w.heap.size w wa from by rw [hwa]; exact bel_al HB2.out _)
  have HKp := Lib.hid (show Blk wa w.heap.size 25 #[.slice A n c, .slice B m d] from by rw [hwa]; exact HK2.out.alloc _)
  have HKx := Lib.hid (show Blk wa w2.heap.size 31 #[.slice A n c, .slice D m dk] from by rw [hwa]; exact Blk.new _ _ _)
  have HDa := Lib.hid (show Sl wa 2 D m (Rk.cells E) from by rw [hwa]; exact HD2.out.alloc _)
  have HSa := Lib.hid (HS.out.keep HBa.out)
  rw [← hwa]
  clear hwa k0 k1 HK1 HK2 HD2
  have k0 := HKp.out.cell 0
  have k1 := HKp.out.cell 1
  have x0 := HKx.out.cell 0
  have x1 := HKx.out.cell 1
  simp at k0 k1 x0 x1
  by_cases h8 : 8 < n
  · have h8' : (8 : Int) < (n : Int) := by omega
    go_wp2_with fail
    go_ret
    exact ⟨rfl, HBa.out⟩
  have h8' : ¬ (8 : Int) < (n : Int) := by omega
  by_cases h40 : 40 < m
  · have h40' : (40 : Int) < (m : Int) := by omega
    go_wp2_with fail
    go_ret
    exact ⟨rfl, HBa.out⟩
  have h40' : ¬ (40 : Int) < (m : Int) := by omega
  by_cases hR : rightP L E
  · have HRt := Lib.hid hR
    have HRc := Lib.hid (PatR_t (A := A) (B := D) (n := n) (c := c) (m := m) (d := dk) hR wa HL.out (by omega) (by omega) HSa.out HDa.out)
    clear hR
    go_upto_region 6 with (go_at_call 30; refine HRc.out.mono ?_; clear HRc; rintro e w3 ⟨rfl, hb3⟩; have HB3a := Lib.hid hb3; clear hb3)
    clear k0 k1 x0 x1
    obtain ⟨j, hj⟩ : ∃ j, j = kn % 4 := ⟨_, rfl⟩
    obtain ⟨a, ha⟩ : ∃ a, a = nn % 255 := ⟨_, rfl⟩
    obtain ⟨a1, ha1⟩ : ∃ x, x = a + 1 := ⟨_, rfl⟩
    obtain ⟨kk, hkk⟩ : ∃ x, x = 2 + j := ⟨_, rfl⟩
    have hkn0 : (0 : Int) ≤ (kn : Int) := by omega
    have hnn0 : (0 : Int) ≤ (nn : Int) := by omega
    have hkm : (kn : Int) % 4 = (j : Int) := by omega
    have hnm : (nn : Int) % 255 = (a : Int) := by omega
    have hwk : IntKind.i64.wrap (2 + (j : Int)) = (kk : Int) := by rw [IntKind.wrap_i64]; omega
    have hwk2 : (2 : Int) + (j : Int) = (kk : Int) := by omega
    have hwa : IntKind.i64.wrap ((a : Int) + 1) = (a1 : Int) := by rw [IntKind.wrap_i64]; omega
    have hwa2 : (a : Int) + 1 = (a1 : Int) := by omega
    have HKA := Lib.hid (show 2 ≤ (kk : Int) ∧ (kk : Int) ≤ 5 ∧ 0 ≤ (a : Int) ∧ (a : Int) ≤ 254 ∧ (a1 : Int) = (a : Int) + 1 from by omega)
    clear hj ha ha1 hkk
    have HKp3 := Lib.hid (HKp.out.keep HB3a.out)
    have HKx3 := Lib.hid (HKx.out.keep HB3a.out)
    have x0 := HKx3.out.cell 0
    have x1 := HKx3.out.cell 1
    simp at x0 x1
    have HTs := Lib.hid (show ∀ (N : Int) W, Below wa.heap.size wa W → Calls Tryz.prog 74 #[.agg #[.int .i64 (kk : Int), .int .i64 N], pv A n c D m dk] W fun e w' => e = .returned (.bool (Ts.testB L E ((kk : Int), N))) ∧ Below W.heap.size W w' from fun N W hW => Test_any ((kk : Int), N) W (fun _ _ => holds_kind HKA.out.1 HKA.out.2.1 (by have := HL.out; omega)) HL.out (by omega) (by omega) (HSa.out.keep hW) (HDa.out.keep hW))
    obtain ⟨lo, hlo⟩ : ∃ x, x = Ts.testB L E ((kk : Int), (a : Int)) := ⟨_, rfl⟩
    obtain ⟨hi, hhi⟩ : ∃ x, x = Ts.testB L E ((kk : Int), (a1 : Int)) := ⟨_, rfl⟩
    have HLH := Lib.hid (show lo = true → hi = true from fun h => by
      obtain ⟨e1, e2, e3, e4, e5⟩ := HKA.out
      rw [hlo, Ts.testB_of (Ts.op_kind e1 e2 e3 (by omega)) HRt.out] at h
      rw [hhi, Ts.testB_of (Ts.op_kind e1 e2 (by omega) (by omega)) HRt.out, e5]
      exact Ts.holds_more e1 e2 h)
    have HT1 := Lib.hid (HTs.out (a : Int) w3 HB3a.out)
    have HT2 := Lib.hid (HTs.out (a1 : Int))
    rw [← hlo] at HT1
    rw [← hhi] at HT2
    clear hlo hhi HTs
    go_upto_region 8 with (go_at_call 74; refine HT1.out.mono ?_; clear HT1; rintro e w4 ⟨rfl, hb4⟩; have HB4a := Lib.hid (HB3a.out.andThen hb4); clear hb4)
    clear x0 x1
    have x0 := (HKx.out.keep HB4a.out).cell 0
    have x1 := (HKx.out.keep HB4a.out).cell 1
    simp at x0 x1
    go_upto_region 9 with (go_at_call 74; refine (HT2.out _ HB4a.out).mono ?_; clear HT2; rintro e w5 ⟨rfl, hb5⟩; have HB5a := Lib.hid (HB4a.out.andThen hb5); clear hb5)
    clear x0 x1 hkm hnm hwk hwk2 hwa hwa2 HKA
    have HDg := Lib.hid (fun (v : Int) W (hW : Below wa.heap.size wa W) => Degree_any E A D n c m dk v W (by omega) (HDa.out.keep hW))
    go_wp2_with fail
    go_loopw [11, 12, 13] (fun mv dv iv wr => ∃ (k : Nat) (M G : Int), k ≤ n ∧ iv = .int .i64 (k : Int) ∧ mv = .int .i64 M ∧ dv = .int .i64 G ∧ Hid ((0 ≤ M ∧ M ≤ 255) ∧ ∀ x ∈ L.take k, x ≤ M) ∧ Hid ((0 ≤ G ∧ G ≤ 40) ∧ ∀ v, v < k → (Pt.deg E (v : Nat) : Int) ≤ G) ∧ Hid (Below wa.heap.size wa wr)) (fun _ _ iv _ => n - (intOf iv).toNat)
    case atStart => exact ⟨0, 0, 0, Nat.zero_le _, rfl, rfl, rfl, Lib.hid ⟨by omega, fun x hx => by simp at hx⟩, Lib.hid ⟨by omega, fun v hv => by omega⟩, HB5a⟩
    case round =>
      obtain ⟨k, M, G, hk, rfl, rfl, rfl, HMx, HGx, HB⟩ := hrel
      have k0 := (HKp.out.keep HB.out).cell 0
      have k1 := (HKp.out.keep HB.out).cell 1
      have x0 := (HKx.out.keep HB.out).cell 0
      have x1 := (HKx.out.keep HB.out).cell 1
      simp at k0 k1 x0 x1
      by_cases hlt : k < n
      · have hlt' : (k : Int) < (n : Int) := by omega
        have hk0 : (0 : Int) ≤ (k : Int) := by omega
        obtain ⟨x, hx⟩ : ∃ x, L[k]? = some x := ⟨_, List.getElem?_eq_getElem (by rw [HL.out]; exact hlt)⟩
        obtain ⟨b, off, u, rfl, e1, c0⟩ := (HSa.out.keep HB.out).one hlt
        rw [List.getElem?_map, hx] at e1
        obtain rfl : Value.int .i64 x = u := Option.some.inj e1
        have HX := Lib.hid (show L.take (k + 1) = L.take k ++ [x] from by
          obtain ⟨h1, h2⟩ := List.getElem?_eq_some_iff.1 hx
          rw [List.take_succ_eq_append_getElem h1, h2])
        have HX9 := Lib.hid (HRt.out.1.2 x (List.mem_of_getElem? hx))
        clear hx e1
        obtain ⟨z, hz⟩ : ∃ z : Int, z = (Pt.deg E (k : Int) : Nat) := ⟨_, rfl⟩
        have HDk := Lib.hid (HDg.out (k : Int))
        rw [← hz] at HDk
        have HZ := Lib.hid hz
        have HZ9 := Lib.hid (show 0 ≤ z ∧ z ≤ 40 from by have h1 := Ts.deg_right HRt.out (k : Int); have h2 := HM.out; omega)
        clear hz
        have HBk := Lib.hid (show ∀ W, Below wa.heap.size wa W → W.cell? ⟨w2.heap.size, 0, none⟩ = some (.slice (some ⟨b, off, none⟩) n c) ∧ W.cell? ⟨w2.heap.size, 1, none⟩ = some (.slice D m dk) from fun W hW => ⟨(HKx.out.keep hW).cell 0, (HKx.out.keep hW).cell 1⟩)
        by_cases hM : M < x
        · have HMn := Lib.hid (show (0 ≤ x ∧ x ≤ 255) ∧ ∀ y ∈ L.take (k + 1), y ≤ x from ⟨HX9.out, fun y hy => by
            rw [HX.out] at hy
            rcases List.mem_append.1 hy with h | h
            · have := HMx.out.2 y h; omega
            · rw [List.mem_singleton.1 h]; omega⟩)
          by_cases hG : G < z
          · have HGn := Lib.hid (show (0 ≤ z ∧ z ≤ 40) ∧ ∀ v, v < k + 1 → (Pt.deg E (v : Nat) : Int) ≤ z from ⟨HZ9.out, fun v hv => by
              rcases Nat.lt_or_ge v k with h | h
              · have := HGx.out.2 v h; omega
              · obtain rfl : v = k := by omega
                exact Int.le_of_eq HZ.out.symm⟩)
            have HD1 := Lib.hid (HDk.out wr HB.out)
            go_wp2_with (first
              | (go_at_call 37; refine HD1.out.mono ?_; clear HD1; rintro e w6 ⟨rfl, hb6⟩; have HB6 := Lib.hid (HB.out.andThen hb6); obtain ⟨y0, y1⟩ := HBk.out _ HB6.out; have HD2 := Lib.hid (HDk.out w6 HB6.out); clear hb6)
              | (go_at_call 37; refine HD2.out.mono ?_; clear HD2; rintro e w7 ⟨rfl, hb7⟩; have HB7 := Lib.hid (HB6.out.andThen hb7); clear hb7))
            go_roundw
            case rel => exact ⟨k + 1, x, z, by omega, by go_num, rfl, rfl, HMn, HGn, HB7⟩
            case measure => simp [intOf]; omega
          · have HGn := Lib.hid (show (0 ≤ G ∧ G ≤ 40) ∧ ∀ v, v < k + 1 → (Pt.deg E (v : Nat) : Int) ≤ G from ⟨HGx.out.1, fun v hv => by
              rcases Nat.lt_or_ge v k with h | h
              · exact HGx.out.2 v h
              · obtain rfl : v = k := by omega
                have := HZ.out; omega⟩)
            have HD1 := Lib.hid (HDk.out wr HB.out)
            go_wp2_with (go_at_call 37; refine HD1.out.mono ?_; clear HD1; rintro e w6 ⟨rfl, hb6⟩; have HB6 := Lib.hid (HB.out.andThen hb6); clear hb6)
            go_roundw
            case rel => exact ⟨k + 1, x, G, by omega, by go_num, rfl, rfl, HMn, HGn, HB6⟩
            case measure => simp [intOf]; omega
        · have hMx : x ≤ M := by omega
          have HMn := Lib.hid (show (0 ≤ M ∧ M ≤ 255) ∧ ∀ y ∈ L.take (k + 1), y ≤ M from ⟨HMx.out.1, fun y hy => by
            rw [HX.out] at hy
            rcases List.mem_append.1 hy with h | h
            · exact HMx.out.2 y h
            · rw [List.mem_singleton.1 h]; exact hMx⟩)
          clear hMx
          by_cases hG : G < z
          · have HGn := Lib.hid (show (0 ≤ z ∧ z ≤ 40) ∧ ∀ v, v < k + 1 → (Pt.deg E (v : Nat) : Int) ≤ z from ⟨HZ9.out, fun v hv => by
              rcases Nat.lt_or_ge v k with h | h
              · have := HGx.out.2 v h; omega
              · obtain rfl : v = k := by omega
                exact Int.le_of_eq HZ.out.symm⟩)
            have HD1 := Lib.hid (HDk.out wr HB.out)
            go_wp2_with (first
              | (go_at_call 37; refine HD1.out.mono ?_; clear HD1; rintro e w6 ⟨rfl, hb6⟩; have HB6 := Lib.hid (HB.out.andThen hb6); obtain ⟨y0, y1⟩ := HBk.out _ HB6.out; have HD2 := Lib.hid (HDk.out w6 HB6.out); clear hb6)
              | (go_at_call 37; refine HD2.out.mono ?_; clear HD2; rintro e w7 ⟨rfl, hb7⟩; have HB7 := Lib.hid (HB6.out.andThen hb7); clear hb7))
            go_roundw
            case rel => exact ⟨k + 1, M, z, by omega, by go_num, rfl, rfl, HMn, HGn, HB7⟩
            case measure => simp [intOf]; omega
          · have HGn := Lib.hid (show (0 ≤ G ∧ G ≤ 40) ∧ ∀ v, v < k + 1 → (Pt.deg E (v : Nat) : Int) ≤ G from ⟨HGx.out.1, fun v hv => by
              rcases Nat.lt_or_ge v k with h | h
              · exact HGx.out.2 v h
              · obtain rfl : v = k := by omega
                have := HZ.out; omega⟩)
            have HD1 := Lib.hid (HDk.out wr HB.out)
            go_wp2_with (go_at_call 37; refine HD1.out.mono ?_; clear HD1; rintro e w6 ⟨rfl, hb6⟩; have HB6 := Lib.hid (HB.out.andThen hb6); clear hb6)
            go_roundw
            case rel => exact ⟨k + 1, M, G, by omega, by go_num, rfl, rfl, HMn, HGn, HB6⟩
            case measure => simp [intOf]; omega
      · obtain rfl : k = n := by omega
        have hlt' : ¬ (k : Int) < (k : Int) := by omega
        have HMa := Lib.hid (show (0 ≤ M ∧ M ≤ 255) ∧ ∀ x ∈ L, x ≤ M from ⟨HMx.out.1, fun x hx => HMx.out.2 x (by rw [List.take_of_length_le (by rw [HL.out]; exact Nat.le_refl _)]; exact hx)⟩)
        go_upto_region 18 with (fail)
        obtain ⟨wb, hwb⟩ : ∃ W, W = wr.alloc (.cells #[.int .i64 2, .int .i64 M, .int .i64 3, .int .i64 G, .int .i64 4, .int .i64 (k : Int), .int .i64 5, .int .i64 (m : Int)] 94) := ⟨_, rfl⟩
        have HBb := Lib.hid (show Below wa.heap.size wa wb from by rw [hwb]; exact bel_al HB.out _)
        have HKo := Lib.hid (show Blk wb wr.heap.size 94 #[.int .i64 2, .int .i64 M, .int .i64 3, .int .i64 G, .int .i64 4, .int .i64 (k : Int), .int .i64 5, .int .i64 (m : Int)] from by rw [hwb]; exact Blk.new _ _ _)
        obtain ⟨go, hgo⟩ : ∃ g, g = wr.heap.size := ⟨_, rfl⟩
        have HGo := Lib.hid (show wa.heap.size ≤ go from by rw [hgo]; exact HB.out.size)
        rw [← hgo] at HKo ⊢
        rw [← hwb]
        clear hwb hgo k0 k1 x0 x1
        have k0 := (HKp.out.keep HBb.out).cell 0
        have k1 := (HKp.out.keep HBb.out).cell 1
        have x0 := (HKx.out.keep HBb.out).cell 0
        have x1 := (HKx.out.keep HBb.out).cell 1
        simp at k0 k1 x0 x1
        have hh : ∀ (m' : Nat), ∀ o ∈ Ts.ownP M G k m', opOK o → rightP L E → HoldsOK o L E := fun m' o ho _ _ => by
          have h8l : L.length ≤ 8 := by have := HL.out; omega
          simp only [Ts.ownP, List.mem_cons, List.not_mem_nil, or_false] at ho
          rcases ho with rfl | rfl | rfl | rfl
          · exact holds_2 _ _ _ h8l
          · exact holds_3 _ _ _ h8l
          · exact holds_4 _ _ _ h8l
          · exact holds_5 _ _ _ h8l
        have HH := Lib.hid hh
        clear hh
        have HKe := Lib.hid (show Calls Tryz.prog 75 #[.slice (some ⟨go, 0, none⟩) 4 4, pv A k c D m dk] wb fun e w' => e = .returned (.bool true) ∧ Below wb.heap.size wb w' from by
          have h := Keeps_any (A := A) (B := D) (n := k) (c := c) (m := m) (d := dk) (Ts.ownP M G k m) (some ⟨go, 0, none⟩) 4 4 wb (HH.out m) (by omega) (sl_blk HKo.out rfl rfl) HL.out (by omega) (by omega) (HSa.out.keep HBb.out) (HDa.out.keep HBb.out)
          rw [Ts.own_keeps HRt.out HL.out HM.out (by omega) HMa.out.1 HGx.out.1 HMa.out.2 HGx.out.2] at h
          exact h)
        have hlh : lo = true ∧ hi = true ∨ lo = false := by
          cases hlo : lo with
          | true => exact .inl ⟨rfl, HLH.out hlo⟩
          | false => exact .inr rfl
        clear HLH
        go_cut [14, 103] from 80 to 124 (fun s t wx => s = .slice (some ⟨go, 0, none⟩) 4 4 ∧ t = .bool false ∧ Hid (Below wb.heap.size wb wx))
        case first =>
          rcases hlh with ⟨rfl, rfl⟩ | rfl
          · go_wp2_with (go_at_call 75; refine HKe.out.mono ?_; clear HKe; rintro e w6 ⟨rfl, hb6⟩; have HB6 := Lib.hid hb6; clear hb6)
            go_meet
            exact ⟨rfl, rfl, HB6⟩
          · go_wp2_with (go_at_call 75; refine HKe.out.mono ?_; clear HKe; rintro e w6 ⟨rfl, hb6⟩; have HB6 := Lib.hid hb6; clear hb6)
            go_meet
            exact ⟨rfl, rfl, HB6⟩
        case rest =>
        obtain ⟨rfl, rfl, HB6⟩ := hcut
        clear k0 k1 x0 x1 HKe hlh
        have HBc := Lib.hid (HBb.out.andThen HB6.out)
        have HKc := Lib.hid (HKo.out.keep HB6.out)
        have k0 := (HKp.out.keep HBc.out).cell 0
        have k1 := (HKp.out.keep HBc.out).cell 1
        simp at k0 k1
        by_cases hm0 : m = 0
        · have hm0' : ¬ (0 : Int) < (m : Int) := by omega
          go_wp2_with fail
          go_ret
          exact ⟨rfl, HBa.out.andThen HBc.out⟩
        · have hm0' : (0 : Int) < (m : Int) := by omega
          obtain ⟨m1, hm1⟩ : ∃ m1, m = m1 + 1 := ⟨m - 1, by omega⟩
          have hwm : IntKind.i64.wrap ((m : Int) - 1) = (m1 : Int) := by rw [IntKind.wrap_i64]; omega
          have hwm2 : (m : Int) - 1 = (m1 : Int) := by omega
          have HM1 := Lib.hid (show E.length = m1 + 1 ∧ m1 ≤ 40 from by have := HM.out; omega)
          clear hm0 hm1
          have o7 := HKc.out.cell 7
          have f7 := HKc.out.frozen 7
          simp at o7
          go_upto_region 22 with (fail)
          obtain ⟨wd, hwd⟩ : ∃ W, W = wc.setCell ⟨go, 7, none⟩ (.int .i64 (m1 : Int)) := ⟨_, rfl⟩
          have HBd := Lib.hid (show Below wa.heap.size wa wd from by rw [hwd]; exact HBc.out.setCell (p := ⟨go, 7, none⟩) HGo.out _)
          have HKd := Lib.hid (show Blk wd go 94 #[.int .i64 2, .int .i64 M, .int .i64 3, .int .i64 G, .int .i64 4, .int .i64 (k : Int), .int .i64 5, .int .i64 (m1 : Int)] from by rw [hwd]; exact HKc.out.set_ 7 (.int .i64 (m1 : Int)))
          rw [← hwd]
          clear hwd o7 f7 k0 k1 hwm hwm2
          have x0 := (HKx.out.keep HBd.out).cell 0
          have x1 := (HKx.out.keep HBd.out).cell 1
          simp at x0 x1
          obtain ⟨e1, e2⟩ := Ts.own_less HRt.out HL.out HM1.out.1 HM1.out.2 HMa.out.1 HGx.out.1 HMa.out.2 HGx.out.2
          have HKe := Lib.hid (show Calls Tryz.prog 75 #[.slice (some ⟨go, 0, none⟩) 4 4, pv A k c D m dk] wd fun e w' => e = .returned (.bool false) ∧ Below wd.heap.size wd w' from by
            have h := Keeps_any (A := A) (B := D) (n := k) (c := c) (m := m) (d := dk) (Ts.ownP M G k m1) (some ⟨go, 0, none⟩) 4 4 wd (HH.out m1) (by omega) (sl_blk HKd.out rfl rfl) HL.out (by omega) (by omega) (HSa.out.keep HBd.out) (HDa.out.keep HBd.out)
            rw [e1] at h
            exact h)
          have HFi := Lib.hid (show ∀ W, Below wd.heap.size wd W → Calls Tryz.prog 76 #[.slice (some ⟨go, 0, none⟩) 4 4, pv A k c D m dk] W fun e w' => e = .returned (.int .i64 3) ∧ Below W.heap.size W w' from fun W hW => by
            have h := First_any (A := A) (B := D) (n := k) (c := c) (m := m) (d := dk) (Ts.ownP M G k m1) (some ⟨go, 0, none⟩) 4 4 W (HH.out m1) (by omega) (sl_blk (HKd.out.keep hW) rfl rfl) HL.out (by omega) (by omega) (HSa.out.keep (HBd.out.andThen hW)) (HDa.out.keep (HBd.out.andThen hW))
            rw [e2] at h
            exact h)
          clear e1 e2
          go_wp2_with (first
            | (go_at_call 75; refine HKe.out.mono ?_; clear HKe; rintro e w7 ⟨rfl, hb7⟩; have HB7 := Lib.hid hb7; clear x0 x1; have x0 := (HKx.out.keep (HBd.out.andThen hb7)).cell 0; have x1 := (HKx.out.keep (HBd.out.andThen hb7)).cell 1; simp at x0 x1; clear hb7)
            | (go_at_call 76; refine (HFi.out _ HB7.out).mono ?_; clear HFi; rintro e w8 ⟨rfl, hb8⟩; have HB8 := Lib.hid (HBa.out.andThen (HBd.out.andThen (HB7.out.andThen hb8))); clear hb8))
          go_ret
          exact ⟨rfl, HB8.out⟩
  · have HRc := Lib.hid (PatR_f (A := A) (B := D) (n := n) (c := c) (m := m) (d := dk) hR wa HL.out (by omega) (by omega) HSa.out HDa.out)
    clear hR
    go_wp2_with (go_at_call 30; refine HRc.out.mono ?_; clear HRc; rintro e w3 ⟨g, rfl, hb3⟩; have HB3 := Lib.hid (HBa.out.andThen hb3); clear hb3)
    go_ret
    exact ⟨rfl, HB3.out⟩
theorem ProgNumbers_main (A : Option Addr) (n c : Nat) (B : Option Addr) (m d : Nat) (L : List Int) (E : List (Int × Int)) (k j : Int) (w : World) (hg : ErrT w) (hT : TabW w) (hL : LibW w) (hl : L.length = n) (hn : n ≤ 1048576) (hm : m ≤ 1048576) (hs : Sl w 1 A n (L.map (Value.int .i64))) (ht : Sl w 2 B m (Rk.cells E)) (hk : (Lit.int .u8 k).wf = true) (hj : (Lit.int .u8 j).wf = true) :
    Calls Tryz.prog 13 #[pv A n c B m d, .int .u8 k, .int .u8 j] w fun e w' => e = .returned (.bool true) ∧ Below w.heap.size w w' := by
  obtain ⟨k', rfl, hk'⟩ : ∃ x : Nat, k = (x : Int) ∧ x < 256 := by
    have := wf_u8 hk
    exact ⟨k.toNat, by omega, by omega⟩
  obtain ⟨j', rfl, hj'⟩ : ∃ x : Nat, j = (x : Int) ∧ x < 256 := by
    have := wf_u8 hj
    exact ⟨j.toNat, by omega, by omega⟩
  exact ProgNumbers_walk L E A B n c m d k' j' w hk' hj' hl hn hm hs ht hg hT hL
end Go.Proofs.YtddedghnnkcnhaaGreatDoor
/-
  A pattern that came in, the first form: with its capacities and its numbers' bounds.
-/
namespace Go.Proofs.YtddedghnnkcnhaaGreatDoor
open Go.ChangeShapes Go.WideShapes Go.ChangeAt Go.RowKit Go.Joins
set_option linter.unusedVariables false
set_option maxRecDepth 100000

theorem wf_i64P {z : Int} (h : (Lit.int .i64 z).wf = true) : i64P z := wf_i64 h
/-- A slice that stands in a struct: its capacity. -/
theorem cap_field {P : Program} {w : World} {r : Reach} {base : Nat} {t e : TypeId} (ht : P.underlying t = some (.slice e)) {a : Option Addr} {n c : Nat} (h : Cell.okWide P w r base t (.slice a n c)) : n ≤ c ∧ c ≤ 9223372036854775807 :=
  cap_ok (r := r) (base := base) (w := w) ht (by simp only [Value.okWide, ht]; exact h)
section
variable {H : Type} {enc : TypeId × Value → H} {w : World} {base b0 : Nat} {spare : Nat → Bool} {held : Bool} {r : Reach}
theorem pat_cells : Tryz.prog.cellTypes Tryz.prog.depth 25 = some [22, 23] := by kernel_rfl
theorem pat_cap {A B : Option Addr} {n c m e : Nat} (hv : Value.okWide Tryz.prog w r b0 25 (pv A n c B m e)) : (n ≤ c ∧ c ≤ 9223372036854775807) ∧ (m ≤ e ∧ e ≤ 9223372036854775807) := by
  simp only [Value.okWide, Tryz.underlying25] at hv
  obtain ⟨cs, h1, _, ts, hts, _, hc⟩ := hv
  injection h1 with h1
  subst h1
  rw [pat_cells] at hts
  injection hts with hts
  subst hts
  obtain ⟨u0, hu0, k0⟩ := hc 0 (.slice A n c) rfl
  obtain ⟨u1, hu1, k1⟩ := hc 1 (.slice B m e) rfl
  cases hu0
  cases hu1
  exact ⟨cap_field Tryz.underlying22 k0, cap_field Tryz.underlying23 k1⟩
/-- A pattern that came in. -/
theorem open_pat {v : Value} {d : DataW H} {p : List MemPlace} (hv : Value.okWide Tryz.prog w r b0 25 v) (h : DataW.Trod enc Tryz.prog w base spare held 25 v d p) :
    ∃ (A : Option Addr) (n c : Nat) (B' : Option Addr) (m e : Nat) (L : List Int) (E : List (Int × Int)), v = pv A n c B' m e ∧ L.length = n ∧ Sl w 1 A n (L.map (Value.int .i64)) ∧ Sl w 2 B' m (Rk.cells E) ∧ (n ≤ c ∧ c ≤ 9223372036854775807) ∧ (∀ x ∈ L, i64P x) ∧ (∀ e ∈ E, i64P e.1 ∧ i64P e.2) := by
  have hv' := hv
  obtain ⟨c0, c1, y0, y1, fu, rfl, rfl, rfl, hy0, hy1⟩ := open_agg2 Tryz.underlying25 (by kernel_rfl) (by kernel_rfl) hv h
  obtain ⟨A, n, c, rfl⟩ := slice_shape Tryz.underlying22 hy0
  obtain ⟨B', m, e, rfl⟩ := slice_shape Tryz.underlying23 hy1
  obtain ⟨_, L, hL, hs, wL⟩ := open_sl_ints Tryz.underlying22 Tryz.underlying3 (by kernel_rfl) hy0
  obtain ⟨_, E, hE, ht, wE⟩ := open_sl_pairs Tryz.underlying23 Tryz.underlying66 (by kernel_rfl) rfl rfl (by kernel_rfl) (by kernel_rfl) Tryz.underlying3 Tryz.underlying3 hy1
  exact ⟨A, n, c, B', m, e, L, E, rfl, hL, hs, ht, (pat_cap hv').1, fun x hx => wf_i64P (wL x hx), fun x hx => ⟨wf_i64P (wE x hx).1, wf_i64P (wE x hx).2⟩⟩
end
end Go.Proofs.YtddedghnnkcnhaaGreatDoor
/-
  The closed facts of a row over a great program, in parts (each by the kernel apart).
-/
namespace Go.Proofs.YtddedghnnkcnhaaGreatDoor
open Go.ChangeShapes Go.WideShapes Go.ChangeAt Go.RowKit
set_option linter.unusedVariables false

section
variable {P : Program} {f : FuncId} {fn : Func} {s : ChangeSpec} {c : OpenClaim}
theorem joined_of (h0 : (c.wf (OpenSpec.ofChange s) && laidOutB P && mapsRowed P && fn.params.all (P.readableRec ·) && namedTie P c.named s.vars && (c.stops == []) && (P.stops == []) && (c.knobs == []) && (P.stopKnobs == [])) = true)
    (h1 : (c.inPlace == P.inPlace f) = true) (h2 : (c.unfollowed == P.unfollowed f) = true) (h3 : (c.recurses == P.recurses f) = true) (h4 : (c.named == P.varsNamed f) = true)
    (h5 : ((c.maps == (fn.params.toList ++ s.plain.varTypes P).any (P.mapsRec ·)) && (c.ifaces == (fn.params.toList ++ s.plain.varTypes P).any (P.ifacesRec ·)) && (c.mapsOut == P.mapsAmong fn.resultTypes.toList) &&
      (c.loops == (fn.params.toList ++ s.plain.varTypes P).any (P.loopsFrom ·)) && (c.wideKeys == (fn.params.toList ++ s.plain.varTypes P ++ fn.resultTypes.toList).any (P.wideKeysFrom ·)) &&
      s.vars.all (P.varReadable ·) && fn.resultTypes.all (fun t => P.readableRec t && decide (t < P.types.size)) && (c.ifacesOut == fn.resultTypes.toList.any (P.ifacesRec ·)) && (c.loopsOut == fn.resultTypes.toList.any (P.loopsFrom ·))) = true)
    (h6 : ((c.plainKeys == P.plainKeys) && c.shortTexts.isNone && P.stopsHeard && P.mayEnter && (c.lifted == P.liftsFinal) && (P.make == some c.make)) = true)
    (h7 : ((c.kinds == (if c.domain.isEmpty then [] else fn.params.toList.map fun t => match P.underlying t with | some (.int k) => some k | _ => none)) && (c.pinned == c.pinnedBy) &&
      (c.veiled == (fn.params.toList ++ s.plain.varTypes P ++ fn.resultTypes.toList).any (P.veiledRec ·)) && c.veiledFits P fn.params.toList (fn.params.toList ++ s.plain.varTypes P ++ fn.resultTypes.toList)) = true) :
    joinedFacts P f fn s c = true := by
  unfold joinedFacts
  simp only [Bool.and_eq_true] at h0 h5 h6 h7 ⊢
  obtain ⟨⟨⟨⟨⟨⟨⟨⟨a1, a2⟩, a3⟩, a4⟩, a5⟩, a6⟩, a7⟩, a8⟩, a9⟩ := h0
  obtain ⟨⟨⟨⟨⟨⟨⟨⟨b1, b2⟩, b3⟩, b4⟩, b5⟩, b6⟩, b7⟩, b8⟩, b9⟩ := h5
  obtain ⟨⟨⟨⟨⟨d1, d2⟩, d3⟩, d4⟩, d5⟩, d6⟩ := h6
  obtain ⟨⟨⟨e1, e2⟩, e3⟩, e4⟩ := h7
  exact ⟨⟨⟨⟨⟨⟨⟨⟨⟨⟨⟨⟨⟨⟨⟨⟨⟨⟨⟨⟨⟨⟨⟨⟨⟨⟨⟨⟨⟨⟨⟨a1, a2⟩, a3⟩, a4⟩, a5⟩, a6⟩, a7⟩, a8⟩, a9⟩, h1⟩, h2⟩, h3⟩, h4⟩, b1⟩, b2⟩, b3⟩, b4⟩, b5⟩, b6⟩, b7⟩, b8⟩, b9⟩, d1⟩, d2⟩, d3⟩, d4⟩, d5⟩, d6⟩, e1⟩, e2⟩, e3⟩, e4⟩
end
end Go.Proofs.YtddedghnnkcnhaaGreatDoor
/-
  The frame where the library's tables and its two errors are listed: what that gives a walk; a world that meets it.
-/
namespace Go.Proofs.YtddedghnnkcnhaaGreatDoor
open Go.ChangeShapes Go.WideShapes Go.ChangeAt Go.RowKit Go.Joins
set_option linter.unusedVariables false
set_option maxRecDepth 100000

def libLaid : List (String × DataW Unit) := [("math/bits.deBruijn32tab", Rows.laid_math_bits_deBruijn32tab), ("math/bits.deBruijn64tab", Rows.laid_math_bits_deBruijn64tab), ("internal/strconv.uint64pow10", Rows.laid_internal_strconv_uint64pow10), ("unicode/utf8.acceptRanges", Rows.laid_unicode_utf8_acceptRanges), ("errors.errorType", Rows.laid_errors_errorType), ("strconv.ErrRange", Rows.laid_strconv_ErrRange), ("strconv.ErrSyntax", Rows.laid_strconv_ErrSyntax), ("unicode/utf8.first", Rows.laid_unicode_utf8_first)]
theorem lib_err : (libLaid.filter fun x => x.1 == "errors.errorType") = errLaid := by kernel_rfl
theorem lib_pow : (libLaid.filter fun x => x.1 == "internal/strconv.uint64pow10") = [("internal/strconv.uint64pow10", Rows.laid_internal_strconv_uint64pow10)] := by kernel_rfl
theorem errT_of_lib {W : World} (h : laidMetH Tryz.prog libLaid W) : ErrT W := by
  have h1 := laidMetH.filter (fun x => x.1 == "errors.errorType") h
  rw [lib_err] at h1
  exact errT_of_laid h1
theorem tabW_of_lib {W : World} (h : laidMetH Tryz.prog libLaid W) : TabW W := by
  have h1 := laidMetH.filter (fun x => x.1 == "internal/strconv.uint64pow10") h
  rw [lib_pow] at h1
  have h2 := (laidMetH_iff.1 h1).1
  rw [pow_none, pow_data] at h2
  exact Lib.tabIs_of_head (g := 2) (by kernel_rfl) (by kernel_rfl) Tryz.underlying315 Tryz.underlying190 (by kernel_rfl) (by kernel_rfl) h2
theorem lib_syn : ((libLaid.filter fun x => x.1 == "strconv.ErrSyntax").filter fun x => x.2.handleName?.isNone) = [("strconv.ErrSyntax", .iface "*errors.errorString" (.ptr (.agg [.lit (.string [105, 110, 118, 97, 108, 105, 100, 32, 115, 121, 110, 116, 97, 120])])))] := by kernel_rfl
theorem lib_rng : ((libLaid.filter fun x => x.1 == "strconv.ErrRange").filter fun x => x.2.handleName?.isNone) = [("strconv.ErrRange", .iface "*errors.errorString" (.ptr (.agg [.lit (.string [118, 97, 108, 117, 101, 32, 111, 117, 116, 32, 111, 102, 32, 114, 97, 110, 103, 101])])))] := by kernel_rfl
theorem star_es : "*" ++ "errors.errorString" = "*errors.errorString" := by decide
theorem row_es (u : TypeId) (h : Tryz.prog.typeName? 3 u = some "*errors.errorString") : u = 347 :=
  typeName_ptr_named (nm := "errors.errorString") (by rw [star_es]; kernel_rfl) (by kernel_rfl) (by decide) u (by rw [star_es]; exact h)
theorem gSyn : Tryz.prog.globalNamed "strconv.ErrSyntax" = some 3 := by kernel_rfl
theorem gSynT : (Tryz.prog.globals[3]?).map (·.type) = some 42 := by kernel_rfl
theorem gRng : Tryz.prog.globalNamed "strconv.ErrRange" = some 4 := by kernel_rfl
theorem gRngT : (Tryz.prog.globals[4]?).map (·.type) = some 42 := by kernel_rfl
theorem cells_es : Tryz.prog.cellsOf 349 = 1 := by kernel_rfl
theorem cells_st : Tryz.prog.cellsOf 9 = 1 := by kernel_rfl
theorem libW_of_lib {W : World} (h : laidMetH Tryz.prog libLaid W) (hS : W.ShapedOpen Tryz.prog) : LibW W := by
  refine ⟨?_, ?_, ?_⟩
  · exact cell_of_shapedOpen_int (g := 1) (t := 3) (zero := #[.int .i64 0]) hS (of_decide_eq_true (by kernel_rfl)) (by kernel_rfl) rfl (by kernel_rfl) (by kernel_rfl) Tryz.underlying3
  · have h1 := (laidMetH_iff.1 (laidMetH.filter (fun x => x.1 == "strconv.ErrSyntax") h)).1
    rw [lib_syn] at h1
    obtain ⟨a0, s0, hv0, -, -, -⟩ := laid_sentinel h1 gSyn gSynT Tryz.underlying42 row_es Tryz.underlying347 Tryz.underlying349 rfl rfl Tryz.underlying9 cells_es cells_st
    have h0 := World.var?_cell gSyn hv0 0
    simp at h0
    exact ⟨_, h0, .inr ⟨_, _, rfl⟩⟩
  · have h1 := (laidMetH_iff.1 (laidMetH.filter (fun x => x.1 == "strconv.ErrRange") h)).1
    rw [lib_rng] at h1
    obtain ⟨a0, s0, hv0, -, -, -⟩ := laid_sentinel h1 gRng gRngT Tryz.underlying42 row_es Tryz.underlying347 Tryz.underlying349 rfl rfl Tryz.underlying9 cells_es cells_st
    have h0 := World.var?_cell gRng hv0 0
    simp at h0
    exact ⟨_, h0, .inr ⟨_, _, rfl⟩⟩

/-- A table of rows: its values. -/
def litsDeep : DataW Unit → List Value
  | .agg ps => ps.flatMap litsOf
  | _ => []
def synS : ByteArray := { data := #[105, 110, 118, 97, 108, 105, 100, 32, 115, 121, 110, 116, 97, 120] }
def rngS : ByteArray := { data := #[118, 97, 108, 117, 101, 32, 111, 117, 116, 32, 111, 102, 32, 114, 97, 110, 103, 101] }
noncomputable def lowB : Nat := (World.holding Tryz.prog default ⟨#[], #[], []⟩).heap.size
/-- A world that meets the condition: the settled one with two blocks more, the variables' cells laid. -/
noncomputable def libWorld (os : Os) : World :=
  let w0 := World.holding Tryz.prog os ⟨#[.cells #[.string synS] 349, .cells #[.string rngS] 349], #[], []⟩
  { w0 with heap := (((((((w0.heap.modify 0 fun
      | .cells _ t frozen => .cells #[.iface 291 (.agg #[.pointer (some ⟨14, 42, none⟩)])] t frozen
      | o => o).modify 7 fun
      | .cells _ t frozen => .cells (litsOf Rows.laid_math_bits_deBruijn32tab).toArray t frozen
      | o => o).modify 8 fun
      | .cells _ t frozen => .cells (litsOf Rows.laid_math_bits_deBruijn64tab).toArray t frozen
      | o => o).modify 2 fun
      | .cells _ t frozen => .cells (litsOf Rows.laid_internal_strconv_uint64pow10).toArray t frozen
      | o => o).modify 6 fun
      | .cells _ t frozen => .cells (litsDeep Rows.laid_unicode_utf8_acceptRanges).toArray t frozen
      | o => o).modify 5 fun
      | .cells _ t frozen => .cells (litsOf Rows.laid_unicode_utf8_first).toArray t frozen
      | o => o).modify 3 fun
      | .cells _ t frozen => .cells #[.iface 347 (.pointer (some ⟨lowB, 0, none⟩))] t frozen
      | o => o).modify 4 fun
      | .cells _ t frozen => .cells #[.iface 347 (.pointer (some ⟨lowB + 1, 0, none⟩))] t frozen
      | o => o }
theorem lib_met (os : Os) (args : Array Value) : laidMetH Tryz.prog libLaid ((libWorld os).forCall (fun _ _ => 0) ⟨#[], args, []⟩).memory :=
  laidMetH_of_parts (laidMet_of_run3 300 (by kernel_rfl) (by kernel_rfl) (by kernel_rfl)) (by kernel_rfl)
end Go.Proofs.YtddedghnnkcnhaaGreatDoor
