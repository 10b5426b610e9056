/-
  Part 19 of the proof of ConfParses: ConfParses.
-/
import Derived.BigQuiet
import Derived.Test.YtddedghnnkcnhaaGreatDoorConfParsesM18
/-
  ConfParses: the walk.
-/
namespace Go.Proofs.YtddedghnnkcnhaaGreatDoor
open Go.RowKit Go.Proofs.YtddedghnnkcnhaaGreatDoor.Pg
attribute [local go_sem ↓] Go.wp_at_zero Go.wp_at_succ
set_option maxRecDepth 100000
set_option linter.unusedVariables false

theorem count_le (l : List UInt8) (k : Nat) : (l.take k).count 10 ≤ l.length := by
  have h1 := List.count_le_length (a := (10 : UInt8)) (l := l.take k)
  rw [List.length_take] at h1
  omega
set_option maxHeartbeats 1000000 in
theorem ConfParses_walk (l : List UInt8) (S : ByteArray) (w : World) (hS : S = bz l) (hg : ErrT w) (hT : TabW w) (hL : LibW w) :
    Calls Tryz.prog 7 #[.string S] w fun e w' => e = .returned (.bool true) ∧ Below w.heap.size w w' := by
  have HAl := Lib.hid (alive22 w hg hT hL)
  have HG := Lib.hid hg
  have HT := Lib.hid hT
  have HL := Lib.hid hL
  obtain ⟨N, hN⟩ : ∃ N, N = l.length := ⟨_, rfl⟩
  have hz : S.size = N := by rw [hS, bz_size, hN]
  have HS := Lib.hid hS
  have HN := Lib.hid hN.symm
  clear hg hT hL hS hN
  go_enter Tryz.func7, Tryz.ntmps7
  go_upto_region 3 with (go_at_call 47; refine HAl.out.mono ?_; clear HAl; rintro e w1 ⟨rfl, hb1⟩; have HB1 := Lib.hid hb1; clear hb1)
  by_cases h600 : 600 < N
  · have h600' : (600 : Int) < (N : Int) := by omega
    go_wp2_with fail
    go_ret
    exact ⟨rfl, HB1.out⟩
  have h600' : ¬ (600 : Int) < (N : Int) := by omega
  have HN6 := Lib.hid (show l.length ≤ 600 from by rw [HN.out]; omega)
  have HPs := Lib.hid (Parse_out l w1 (by have := HN6.out; omega) (HL.out.keep HB1.out) (HT.out.keep HB1.out))
  rw [← HS.out] at HPs
  go_upto_region 6 with (go_at_call 51; refine HPs.out.mono ?_; clear HPs; rintro e w2 ⟨⟨c0, c1, c2, c3, c4, kp⟩, A, m, d, v, rfl, hb2, hp2⟩; have HB2 := Lib.hid (HB1.out.andThen hb2); have HP2 := Lib.hid hp2; clear hb2 hp2)
  obtain ⟨wa, hwa⟩ : ∃ W, W = w2.alloc (.cells #[.int .i64 c0, .int .i64 c1, .int .i64 c2, .int .i64 c3, .int .i64 c4, .slice A m d] 80) := ⟨_, rfl⟩
  have HBa := Lib.hid (show Below w.heap.size w wa from by rw [hwa]; exact bel_al HB2.out _)
  have HB2a := Lib.hid (show Below w2.heap.size w2 wa from by rw [hwa]; exact bel_al (Below.refl _ _) _)
  have HKa := Lib.hid (show Blk wa w2.heap.size 80 #[.int .i64 c0, .int .i64 c1, .int .i64 c2, .int .i64 c3, .int .i64 c4, .slice A m d] from by rw [hwa]; exact Blk.new _ _ _)
  rw [← hwa]
  clear hwa
  obtain ⟨cn, hcn⟩ : ∃ cn, cn = l.count 10 := ⟨_, rfl⟩
  have HCn := Lib.hid hcn
  clear hcn
  go_wp2_with fail
  go_loop [5, 6] (fun nv kv => ∃ k q : Nat, k ≤ N ∧ kv = .int .i64 (k : Int) ∧ nv = .int .i64 (q : Int) ∧ Hid (q = (l.take k).count 10)) (fun _ kv => N - (intOf kv).toNat)
  case atStart => exact ⟨0, 0, Nat.zero_le _, rfl, rfl, Lib.hid rfl⟩
  case round =>
    obtain ⟨k, q, hk, rfl, rfl, HQ⟩ := hrel
    by_cases hlt : k < N
    · have hlt' : (k : Int) < (N : Int) := by omega
      have hk0 : (0 : Int) ≤ (k : Int) := by omega
      obtain ⟨b, hb⟩ : ∃ b, l[k]? = some b := ⟨_, List.getElem?_eq_getElem (by rw [HN.out]; exact hlt)⟩
      have hix := str_index HS.out hb
      have HCt := Lib.hid (count_take hb)
      have hq6 : q ≤ 600 := by have h1 := HQ.out; have h2 := count_le l k; have := HN6.out; omega
      have hwq : IntKind.i64.wrap ((q : Int) + 1) = (q : Int) + 1 := by rw [IntKind.wrap_i64]; omega
      have htb := ten_beq b
      by_cases hb10 : b = 10
      · subst hb10
        have HQ2 := Lib.hid (show q + 1 = (l.take (k + 1)).count 10 from by rw [HCt.out, ← HQ.out]; rfl)
        rw [show (((10 : UInt8).toNat : Nat) : Int) = 10 from rfl] at hix
        clear hb htb
        go_wp2_with fail
        go_round
        case rel => exact ⟨k + 1, q + 1, by omega, by go_num, by go_num, HQ2⟩
        case measure => simp [intOf]; omega
      · rw [decide_eq_false hb10] at htb
        have HQ2 := Lib.hid (show q = (l.take (k + 1)).count 10 from by rw [HCt.out, ← HQ.out, if_neg hb10]; rfl)
        obtain ⟨z, hzz⟩ : ∃ z : Int, z = ((b.toNat : Nat) : Int) := ⟨_, rfl⟩
        rw [← hzz] at hix htb
        clear hb hb10 hzz
        go_wp2_with fail
        go_round
        case rel => exact ⟨k + 1, q, by omega, by go_num, rfl, HQ2⟩
        case measure => simp [intOf]; omega
    · obtain rfl : k = N := by omega
      have hlt' : ¬ (k : Int) < (k : Int) := by omega
      have HQn := Lib.hid (show q = cn from by rw [HQ.out, HCn.out, List.take_of_length_le (by rw [HN.out]; exact Nat.le_refl _)])
      rcases HP2.out with ⟨rfl, hok, hm, hs⟩ | ⟨hc0, K, wd, g, rfl, hbad, hv⟩
      · have HR := Lib.hid (Cf.parseC_right hok)
        have HKr := Lib.hid HR.out.1
        have hm16 : m ≤ 1000 := by have h1 := HR.out.2.1; simp only at h1 hm; omega
        have HSa := Lib.hid (hs.keep HB2a.out)
        simp only at HSa
        have HM := Lib.hid hm
        simp only at HM
        clear hok hs hm HP2
        have k0 := HKa.out.cell 0
        have k1 := HKa.out.cell 1
        have k2 := HKa.out.cell 2
        have k3 := HKa.out.cell 3
        have k4 := HKa.out.cell 4
        have k5 := HKa.out.cell 5
        simp at k0 k1 k2 k3 k4 k5
        have HTx := Lib.hid (CfText_any ⟨c0, c1, c2, c3, c4, kp⟩ A m d wa HR.out HM.out HSa.out (HT.out.keep HBa.out))
        obtain ⟨tl, htl⟩ : ∃ t, t = Cf.tellL (Cf.linesC ⟨c0, c1, c2, c3, c4, kp⟩) := ⟨_, rfl⟩
        have HTl := Lib.hid (show Cf.parseC tl = .ok ⟨c0, c1, c2, c3, c4, kp⟩ ∧ tl.length ≤ 1000 from by rw [htl]; exact ⟨Cf.parse_lines HR.out, Cf.text_len HR.out⟩)
        rw [← htl] at HTx
        clear htl
        obtain ⟨TT, hTT⟩ : ∃ S, S = bz tl := ⟨_, rfl⟩
        have HTT := Lib.hid hTT
        rw [← hTT] at HTx
        clear hTT
        have HPt := Lib.hid (show ∀ W, Below w.heap.size w W → Calls Tryz.prog 51 #[.string TT] W fun e w' => ∃ (D : Option Addr) (e' : Nat), e = .returned (.tuple #[confV ⟨c0, c1, c2, c3, c4, kp⟩ D m e', .nilIface]) ∧ Sl w' 2 D m (Rk.cells kp) ∧ Below W.heap.size W w' from fun W hW => by
          rw [HTT.out]
          refine (Parse_out tl W (by have := HTl.out.2; omega) (HL.out.keep hW) (HT.out.keep hW)).mono fun e w' h => ?_
          obtain ⟨c, A', m', d', v', he, hb, ⟨hv', hp, hm', hs'⟩ | ⟨_, k', wd', g', _, hp, _⟩⟩ := h
          · rw [HTl.out.1] at hp
            injection hp with hp
            subst hp
            have e1 := HM.out
            simp only at hm' hs' e1
            obtain rfl : m' = m := by omega
            exact ⟨A', d', by rw [he, hv'], hs', hb⟩
          · rw [HTl.out.1] at hp; cases hp)
        go_upto_region 24 with (first
          | (go_at_call 50; refine HTx.out.mono ?_; clear HTx; rintro e w3 ⟨rfl, hb3⟩; have HB3 := Lib.hid (HBa.out.andThen hb3); have HK3 := Lib.hid (HKa.out.keep hb3); have HS3 := Lib.hid (HSa.out.keep hb3); clear hb3)
          | (go_at_call 51; refine (HPt.out _ HB3.out).mono ?_; clear HPt; rintro e w4 ⟨D, e4, rfl, hs4, hb4⟩; have HB4 := Lib.hid (HB3.out.andThen hb4); have HK4 := Lib.hid (HK3.out.keep hb4); have HS4 := Lib.hid (HS3.out.keep hb4); have HT4 := Lib.hid hs4; clear hb4 hs4))
        obtain ⟨wb, hwb⟩ : ∃ W, W = w4.alloc (.cells #[.int .i64 c0, .int .i64 c1, .int .i64 c2, .int .i64 c3, .int .i64 c4, .slice D m e4] 80) := ⟨_, rfl⟩
        have HBb := Lib.hid (show Below w.heap.size w wb from by rw [hwb]; exact bel_al HB4.out _)
        have HKb := Lib.hid (show Blk wb w2.heap.size 80 #[.int .i64 c0, .int .i64 c1, .int .i64 c2, .int .i64 c3, .int .i64 c4, .slice A m d] from by rw [hwb]; exact HK4.out.alloc _)
        have HKd := Lib.hid (show Blk wb w4.heap.size 80 #[.int .i64 c0, .int .i64 c1, .int .i64 c2, .int .i64 c3, .int .i64 c4, .slice D m e4] from by rw [hwb]; exact Blk.new _ _ _)
        have HSb := Lib.hid (show Sl wb 2 A m (Rk.cells kp) from by rw [hwb]; exact HS4.out.alloc _)
        have HTb := Lib.hid (show Sl wb 2 D m (Rk.cells kp) from by rw [hwb]; exact HT4.out.alloc _)
        rw [← hwb]
        clear hwb k0 k1 k2 k3 k4 k5 HKa HK3 HK4 HSa HS3 HS4 HT4
        have k0 := HKb.out.cell 0
        have k1 := HKb.out.cell 1
        have k2 := HKb.out.cell 2
        have k3 := HKb.out.cell 3
        have k4 := HKb.out.cell 4
        have k5 := HKb.out.cell 5
        simp at k0 k1 k2 k3 k4 k5
        have HRg := Lib.hid (show Calls Tryz.prog 53 #[confV ⟨c0, c1, c2, c3, c4, kp⟩ A m d] wb fun e w' => e = .returned .nilIface ∧ Below wb.heap.size wb w' from (CfRight_any ⟨c0, c1, c2, c3, c4, kp⟩ A m d wb HM.out (by omega) HSb.out).mono fun e w' h => by
          rcases h with ⟨_, h1, h2⟩ | ⟨h, _⟩
          · exact ⟨h1, h2⟩
          · exact absurd HR.out h)
        have HSm := Lib.hid (fun W (hW : Below wb.heap.size wb W) => Same22_any ⟨c0, c1, c2, c3, c4, kp⟩ A D m d e4 W hm16 (HSb.out.keep hW) (HTb.out.keep hW) HKr.out (HT.out.keep (HBb.out.andThen hW)))
        go_wp2_with (first
          | (go_at_call 53; refine HRg.out.mono ?_; clear HRg; rintro e w5 ⟨rfl, hb5⟩; have HB5 := Lib.hid hb5; have HK5 := Lib.hid (HKb.out.keep hb5); have HK5d := Lib.hid (HKd.out.keep hb5); have q0 := HK5.out.cell 0; have q1 := HK5.out.cell 1; have q2 := HK5.out.cell 2; have q3 := HK5.out.cell 3; have q4 := HK5.out.cell 4; have q5 := HK5.out.cell 5; have p0 := HK5d.out.cell 0; have p1 := HK5d.out.cell 1; have p2 := HK5d.out.cell 2; have p3 := HK5d.out.cell 3; have p4 := HK5d.out.cell 4; have p5 := HK5d.out.cell 5; simp at q0 q1 q2 q3 q4 q5 p0 p1 p2 p3 p4 p5; clear hb5)
          | (go_at_call 52; refine (HSm.out _ HB5.out).mono ?_; clear HSm; rintro e w6 ⟨rfl, hb6⟩; have HB6 := Lib.hid (HBb.out.andThen (HB5.out.andThen hb6)); clear hb6))
        go_ret
        exact ⟨rfl, HB6.out⟩
      · simp only at hc0
        subst hc0
        have HBad := Lib.hid hbad
        have HVa := Lib.hid (hv.keep HB2a.out)
        have hKn : (K : Int) ≤ (q : Int) := by have h1 := Cf.bad_le hbad; have h2 := HQn.out; have h3 := HCn.out; omega
        have hKn' : ¬ (q : Int) < (K : Int) := by omega
        have hK0 : ¬ (K : Int) < 0 := by omega
        have HKq := Lib.hid (show K ≤ cn from by have h2 := HQn.out; omega)
        clear hbad hv HP2 hKn
        have HAt := Lib.hid (At_flt g 12 K (bz wd) wa (HG.out.keep HBa.out) HVa.out)
        have HCo := Lib.hid (fun W (hW : Below wa.heap.size wa W) => Code_flt g 12 K (bz wd) W (HG.out.keep (HBa.out.andThen hW)) (HVa.out.keep hW))
        have k0 := HKa.out.cell 0
        simp at k0
        go_wp2_with (first
          | (go_at_call 46; refine HAt.out.mono ?_; clear HAt; rintro e w3 ⟨rfl, hb3⟩; have HB3 := Lib.hid hb3; have k0 := (HKa.out.keep hb3).cell 0; simp at k0; clear hb3)
          | (go_at_call 29; refine (HCo.out _ HB3.out).mono ?_; clear HCo; rintro e w4 ⟨rfl, hb4⟩; have HB4 := Lib.hid (HBa.out.andThen (HB3.out.andThen hb4)); have k0 := (HKa.out.keep (HB3.out.andThen hb4)).cell 0; simp at k0; clear hb4))
        clear hKn' hK0 k0
        go_loop [8, 9] (fun kv nv => ∃ i q : Nat, i ≤ k ∧ kv = .int .i64 (i : Int) ∧ nv = .int .i64 (q : Int) ∧ Hid (q = (l.take i).count 10) ∧ Hid (q ≤ K) ∧ Hid (i = 0 ∨ q < K ∨ l[i - 1]? = some 10)) (fun kv _ => k - (intOf kv).toNat)
        case atStart => exact ⟨0, 0, Nat.zero_le _, rfl, rfl, Lib.hid rfl, Lib.hid (Nat.zero_le _), Lib.hid (.inl rfl)⟩
        case round =>
          obtain ⟨i, q, hi, rfl, rfl, HQi, HQle, HEd0⟩ := hrel
          by_cases hlt : i < k
          · have hlt2 : (i : Int) < (k : Int) := by omega
            have hi0 : (0 : Int) ≤ (i : Int) := by omega
            by_cases hqK : q < K
            · have hqK' : (q : Int) < (K : Int) := by omega
              obtain ⟨b, hb⟩ : ∃ b, l[i]? = some b := ⟨_, List.getElem?_eq_getElem (by rw [HN.out]; exact hlt)⟩
              have hix := str_index HS.out hb
              have HCt := Lib.hid (count_take hb)
              have hq6 : q ≤ 600 := by have h1 := HQi.out; have h2 := count_le l i; have := HN6.out; omega
              have hwq : IntKind.i64.wrap ((q : Int) + 1) = (q : Int) + 1 := by rw [IntKind.wrap_i64]; omega
              have htb := ten_beq b
              by_cases hb10 : b = 10
              · subst hb10
                have HQ2 := Lib.hid (show q + 1 = (l.take (i + 1)).count 10 from by rw [HCt.out, ← HQi.out]; rfl)
                have HEd1 := Lib.hid (show i + 1 = 0 ∨ q + 1 < K ∨ l[i + 1 - 1]? = some 10 from .inr (.inr hb))
                rw [show (((10 : UInt8).toNat : Nat) : Int) = 10 from rfl] at hix
                have HQl2 := Lib.hid (show q + 1 ≤ K from hqK)
                clear hb htb hqK
                go_wp2_with fail
                go_round
                case rel => exact ⟨i + 1, q + 1, by omega, by go_num, by go_num, HQ2, HQl2, HEd1⟩
                case measure => simp [intOf]; omega
              · rw [decide_eq_false hb10] at htb
                have HQ2 := Lib.hid (show q = (l.take (i + 1)).count 10 from by rw [HCt.out, ← HQi.out, if_neg hb10]; rfl)
                have HEd1 := Lib.hid (show i + 1 = 0 ∨ q < K ∨ l[i + 1 - 1]? = some 10 from .inr (.inl hqK))
                obtain ⟨z, hzz⟩ : ∃ z : Int, z = ((b.toNat : Nat) : Int) := ⟨_, rfl⟩
                rw [← hzz] at hix htb
                clear hb hb10 hzz hqK
                go_wp2_with fail
                go_round
                case rel => exact ⟨i + 1, q, by omega, by go_num, rfl, HQ2, HQle, HEd1⟩
                case measure => simp [intOf]; omega
            · have hqK' : ¬ (q : Int) < (K : Int) := by omega
              have hqd : decide ((q : Int) < (K : Int)) = false := decide_eq_false hqK'
              have HQK := Lib.hid (show (l.take i).count 10 = K from by have h1 := HQi.out; have h2 := HQle.out; omega)
              have HEd := Lib.hid (show i = 0 ∨ l[i - 1]? = some 10 from by
                rcases HEd0.out with h | h | h
                · exact .inl h
                · exact absurd h hqK
                · exact .inr h)
              clear hqK HEd0
              have HPs2 := Lib.hid (show Calls Tryz.prog 51 #[.string (bz (l.take i))] w4 fun e w' => ∃ c A m d v, e = .returned (.tuple #[confV c A m d, v]) ∧ Below w4.heap.size w4 w' ∧ (v = .nilIface ∨ ∃ (g : Nat) (S : ByteArray), v = .iface 145 (.pointer (some ⟨g, 0, none⟩)) ∧ Blk w' g 148 #[.int .i64 12, .int .i64 (K : Int), .string S]) from (Parse_out (l.take i) w4 (by have := HN6.out; rw [List.length_take]; omega) (HL.out.keep HB4.out) (HT.out.keep HB4.out)).mono fun e w' h => by
                obtain ⟨c, A, m, d, v, he, hb, hp⟩ := h
                refine ⟨c, A, m, d, v, he, hb, ?_⟩
                rcases hp with ⟨h1, _⟩ | ⟨_, k', wd', g, hv, hp, hk⟩
                · exact .inl h1
                · rcases Cf.ahead HBad.out (by rw [HN.out]; exact hi) HQK.out HEd.out with ⟨d', hd⟩ | ⟨w', hd⟩
                  · rw [hd] at hp; cases hp
                  · rw [hd] at hp
                    injection hp with hp1 hp2
                    subst hp1
                    exact .inr ⟨g, _, hv, hk⟩)
              have hsl := str_to HS.out (k := i) (by rw [HN.out]; exact hi)
              obtain ⟨SK, hSK⟩ : ∃ S, S = bz (l.take i) := ⟨_, rfl⟩
              rw [← hSK] at hsl HPs2
              clear hSK
              go_upto_region 22 with (go_at_call 51; refine HPs2.out.mono ?_; clear HPs2; rintro e w5 ⟨⟨d0, d1, d2, d3, d4, dp⟩, A5, m5, d5, v5, rfl, hb5, hv5⟩; have HB5 := Lib.hid (HB4.out.andThen hb5); have HV5 := Lib.hid hv5; clear hb5 hv5)
              clear hsl
              rcases HV5.out with rfl | ⟨g5, S5, rfl, hv5⟩
              · have HBf := Lib.hid (bel_al HB5.out (.cells #[.int .i64 d0, .int .i64 d1, .int .i64 d2, .int .i64 d3, .int .i64 d4, .slice A5 m5 d5] 80))
                go_wp2_with fail
                go_ret
                exact ⟨rfl, HBf.out⟩
              · have HBf := Lib.hid (bel_al HB5.out (.cells #[.int .i64 d0, .int .i64 d1, .int .i64 d2, .int .i64 d3, .int .i64 d4, .slice A5 m5 d5] 80))
                have HA5 := Lib.hid (At_flt g5 12 K S5 (w5.alloc (.cells #[.int .i64 d0, .int .i64 d1, .int .i64 d2, .int .i64 d3, .int .i64 d4, .slice A5 m5 d5] 80)) (HG.out.keep HBf.out) (hv5.alloc _))
                clear hv5
                go_wp2_with (go_at_call 46; refine HA5.out.mono ?_; clear HA5; rintro e w6 ⟨rfl, hb6⟩; have HB6 := Lib.hid (HBf.out.andThen hb6); clear hb6)
                go_ret
                exact ⟨rfl, HB6.out⟩
          · have hlt2 : ¬ (i : Int) < (k : Int) := by omega
            have hld : decide ((i : Int) < (k : Int)) = false := decide_eq_false hlt2
            have hqc : q = cn := by
              have h1 := HQi.out
              rw [List.take_of_length_le (by rw [HN.out]; omega)] at h1
              rw [h1, HCn.out]
            have HQK := Lib.hid (show (l.take i).count 10 = K from by have h1 := HQi.out; have h2 := HQle.out; have h3 := HKq.out; omega)
            have HEd := Lib.hid (show i = 0 ∨ l[i - 1]? = some 10 from by
              rcases HEd0.out with h | h | h
              · exact .inl h
              · have h3 := HKq.out; omega
              · exact .inr h)
            clear hqc HEd0
            have HPs2 := Lib.hid (show Calls Tryz.prog 51 #[.string (bz (l.take i))] w4 fun e w' => ∃ c A m d v, e = .returned (.tuple #[confV c A m d, v]) ∧ Below w4.heap.size w4 w' ∧ (v = .nilIface ∨ ∃ (g : Nat) (S : ByteArray), v = .iface 145 (.pointer (some ⟨g, 0, none⟩)) ∧ Blk w' g 148 #[.int .i64 12, .int .i64 (K : Int), .string S]) from (Parse_out (l.take i) w4 (by have := HN6.out; rw [List.length_take]; omega) (HL.out.keep HB4.out) (HT.out.keep HB4.out)).mono fun e w' h => by
              obtain ⟨c, A, m, d, v, he, hb, hp⟩ := h
              refine ⟨c, A, m, d, v, he, hb, ?_⟩
              rcases hp with ⟨h1, _⟩ | ⟨_, k', wd', g, hv, hp, hk⟩
              · exact .inl h1
              · rcases Cf.ahead HBad.out (by rw [HN.out]; exact hi) HQK.out HEd.out with ⟨d', hd⟩ | ⟨w', hd⟩
                · rw [hd] at hp; cases hp
                · rw [hd] at hp
                  injection hp with hp1 hp2
                  subst hp1
                  exact .inr ⟨g, _, hv, hk⟩)
            have hsl := str_to HS.out (k := i) (by rw [HN.out]; exact hi)
            obtain ⟨SK, hSK⟩ : ∃ S, S = bz (l.take i) := ⟨_, rfl⟩
            rw [← hSK] at hsl HPs2
            clear hSK
            go_upto_region 22 with (go_at_call 51; refine HPs2.out.mono ?_; clear HPs2; rintro e w5 ⟨⟨d0, d1, d2, d3, d4, dp⟩, A5, m5, d5, v5, rfl, hb5, hv5⟩; have HB5 := Lib.hid (HB4.out.andThen hb5); have HV5 := Lib.hid hv5; clear hb5 hv5)
            clear hsl
            rcases HV5.out with rfl | ⟨g5, S5, rfl, hv5⟩
            · have HBf := Lib.hid (bel_al HB5.out (.cells #[.int .i64 d0, .int .i64 d1, .int .i64 d2, .int .i64 d3, .int .i64 d4, .slice A5 m5 d5] 80))
              go_wp2_with fail
              go_ret
              exact ⟨rfl, HBf.out⟩
            · have HBf := Lib.hid (bel_al HB5.out (.cells #[.int .i64 d0, .int .i64 d1, .int .i64 d2, .int .i64 d3, .int .i64 d4, .slice A5 m5 d5] 80))
              have HA5 := Lib.hid (At_flt g5 12 K S5 (w5.alloc (.cells #[.int .i64 d0, .int .i64 d1, .int .i64 d2, .int .i64 d3, .int .i64 d4, .slice A5 m5 d5] 80)) (HG.out.keep HBf.out) (hv5.alloc _))
              clear hv5
              go_wp2_with (go_at_call 46; refine HA5.out.mono ?_; clear HA5; rintro e w6 ⟨rfl, hb6⟩; have HB6 := Lib.hid (HBf.out.andThen hb6); clear hb6)
              go_ret
              exact ⟨rfl, HB6.out⟩
theorem ConfParses_main (s : ByteArray) (w : World) (hg : ErrT w) (hT : TabW w) (hL : LibW w) (hz : s.size ≤ maxLen) :
    Calls Tryz.prog 7 #[.string s] w fun e w' => e = .returned (.bool true) ∧ Below w.heap.size w w' :=
  ConfParses_walk s.data.toList s w rfl hg hT hL
end Go.Proofs.YtddedghnnkcnhaaGreatDoor
