/-
  Part 10 of the proof of LwProgTexts: PgG, ProgTexts.
-/
import Derived.Test.YtddedghnnkcnhaaGreatDoorLwProgTextsM9
import Derived.Test.YtddedghnnkcnhaaGreatDoorLwProgTextsM4
import Derived.BigQuiet
import Derived.Deep.QuietTactic
/-
  Chapter 17's statements: alive.
-/
namespace Go.Proofs.YtddedghnnkcnhaaGreatDoor
open Go.RowKit Go.Proofs.YtddedghnnkcnhaaGreatDoor.Pg
attribute [local go_sem ↓] Go.wp_at_zero Go.wp_at_succ
set_option maxRecDepth 100000
set_option linter.unusedVariables false

def t17 : List UInt8 := [99, 108, 105, 113, 117, 101, 59, 108, 97, 98, 101, 108, 115, 32, 51]
def b17 : List UInt8 := [99, 108, 105, 113, 117, 101, 32, 49]
theorem right17 : rightG [(1, 0), (2, 3)] := ⟨by decide, fun o ho => two17_ok (by simp only [List.mem_cons, List.not_mem_nil, or_false] at ho; exact ho)⟩
theorem itoa3 : Lib.itoa 3 = [51] := by
  rw [show (3 : Int) = ((3 : Nat) : Int) from rfl]
  unfold Lib.itoa
  rw [if_neg (by omega), Int.toNat_natCast, Lib.decDigits, dif_pos (by omega)]
  rfl
theorem text17 : textG [(1, 0), (2, 3)] = t17 := by
  unfold textG
  simp only [List.map_cons, List.map_nil, opL, itoa3]
  rfl
theorem parse17 : parseG t17 = some [(1, 0), (2, 3)] := by rw [← text17]; exact parse_text right17
theorem tests17 : testsP (Tx.split1 59 b17) = none := by rfl
theorem bad17 : parseG b17 = none := by unfold parseG; rw [tests17]; rfl
theorem Parse_t17 (w : World) (hT : TabW w) (hL : LibW w) : Calls Tryz.prog 69 #[.string ⟨#[99, 108, 105, 113, 117, 101, 59, 108, 97, 98, 101, 108, 115, 32, 51]⟩] w fun e w' => ∃ D dc, e = .returned (.tuple #[.slice D 2 dc, .nilIface]) ∧ w'.ownsRow w.heap.size 94 2 (.slice D 2 dc) 2 (Rk.cells [(1, 0), (2, 3)]) ∧ Below w.heap.size w w' :=
  (PgParse_any t17 w (by decide) hL hT).mono fun e w' h => by
    rcases h with ⟨hb1, ⟨p, D, dc, hp, h1, hown⟩ | ⟨hp, _⟩⟩
    · rw [parse17] at hp
      injection hp with hp
      subst hp
      exact ⟨D, dc, h1, hown, hb1⟩
    · rw [parse17] at hp
      cases hp
theorem Parse_b17 (w : World) (hT : TabW w) (hL : LibW w) : Calls Tryz.prog 69 #[.string ⟨#[99, 108, 105, 113, 117, 101, 32, 49]⟩] w fun e w' => ∃ a s g, e = .returned (.tuple #[.slice none 0 0, .iface 145 (.pointer (some ⟨g, 0, none⟩))]) ∧ Blk w' g 148 #[.int .i64 2, .int .i64 a, .string s] ∧ Below w.heap.size w w' :=
  (PgParse_any b17 w (by decide) hL hT).mono fun e w' h => by
    rcases h with ⟨hb1, ⟨p, D, dc, hp, h1, hown⟩ | ⟨hp, c, a, s, g, he, ⟨g', hg', hv⟩, _, hc⟩⟩
    · rw [bad17] at hp
      cases hp
    · cases hg'
      have hc2 := hc tests17
      subst hc2
      exact ⟨a, s, g, he, hv, hb1⟩
theorem Text_t17 (D : Option Addr) (dc : Nat) (w : World) (hT : TabW w) (hs : Sl w 2 D 2 (Rk.cells [(1, 0), (2, 3)])) : Calls Tryz.prog 57 #[.slice D 2 dc] w fun e w' => e = .returned (.string ⟨#[99, 108, 105, 113, 117, 101, 59, 108, 97, 98, 101, 108, 115, 32, 51]⟩) ∧ Below w.heap.size w w' :=
  (PgText_any [(1, 0), (2, 3)] D 2 dc w (by omega) hs (fun o ho => ⟨(right17.2 o ho).1, by have := (right17.2 o ho).2.1; omega, by have := (right17.2 o ho).2.1; omega⟩) hT).mono fun e w' h => ⟨by rw [h.1, text17]; rfl, h.2⟩
set_option maxHeartbeats 1000000 in
theorem alive17 (w : World) (hg : ErrT w) (hT : TabW w) (hL : LibW w) : Calls Tryz.prog 66 #[] w fun e w' => e = .returned (.bool true) ∧ Below w.heap.size w w' := by
  have HP1 := Lib.hid (Parse_t17 w hT hL)
  have HP2 := Lib.hid (fun W (hW : Below w.heap.size w W) => Parse_b17 W (hT.keep hW) (hL.keep hW))
  have HG := Lib.hid hg
  have HT := Lib.hid hT
  clear hg hT hL
  go_enter Tryz.func66, Tryz.ntmps66
  go_upto_region 2 with (go_at_call 69; refine HP1.out.mono ?_; clear HP1; rintro e w1 ⟨D, dc, rfl, hown, hb1⟩; have HB1 := Lib.hid hb1; have HO1 := Lib.hid hown; clear hb1 hown)
  go_upto_region 3 with (go_at_call 69; refine (HP2.out w1 HB1.out).mono ?_; clear HP2; rintro e w2 ⟨a, s, g, rfl, hv, hb2⟩; have HB2 := Lib.hid (HB1.out.andThen hb2); have HV2 := Lib.hid hv; have HO2 := Lib.hid (own_block HO1.out fun g hg => hb2.block g (HO1.out.lt g hg).2); clear hb2 hv)
  have HS2 := Lib.hid (show Sl w2 2 D 2 (Rk.cells [(1, 0), (2, 3)]) from by obtain ⟨D1, dc1, h1, h2⟩ := Sl.own HO2.out; cases h1; exact h2)
  have HTx := Lib.hid (Text_t17 D dc w2 (HT.out.keep HB2.out) HS2.out)
  clear HO1 HO2
  go_wp2_with (first
    | (go_at_call 57; refine HTx.out.mono ?_; clear HTx; rintro e w3 ⟨rfl, hb3⟩; have HB3 := Lib.hid (HB2.out.andThen hb3); have HS3 := Lib.hid (HS2.out.keep hb3); have HC := Lib.hid (Code_flt g 2 a s w3 (HG.out.keep HB3.out) (HV2.out.keep hb3)); clear hb3)
    | (go_at_call 29; refine HC.out.mono ?_; clear HC; rintro e w4 ⟨rfl, hb4⟩; have HB4 := Lib.hid (bel_al (HB3.out.andThen hb4) (.cells #[.int .i64 3] 3)); have HK := Lib.hid (Keeps_17 D dc w4.heap.size (w4.alloc (.cells #[.int .i64 3] 3)) ((HS3.out.keep hb4).alloc _) (by rw [World.cell?_alloc_new]; rfl)); clear hb4)
    | (go_at_call 75; refine HK.out.mono ?_; clear HK; rintro e w5 ⟨rfl, hb5⟩; have HB5 := Lib.hid (HB4.out.andThen hb5); clear hb5))
  go_ret
  exact ⟨rfl, HB5.out⟩
end Go.Proofs.YtddedghnnkcnhaaGreatDoor
/-
  ProgTexts: the walk.
-/
namespace Go.Proofs.YtddedghnnkcnhaaGreatDoor
open Go.RowKit Go.Proofs.YtddedghnnkcnhaaGreatDoor.Pg
attribute [local go_sem ↓] Go.wp_at_zero Go.wp_at_succ
set_option maxRecDepth 100000
set_option linter.unusedVariables false

theorem Name_out (k : Int) (w : World) (h : ¬ (1 ≤ k ∧ k ≤ 8)) : Calls Tryz.prog 71 #[.int .i64 k] w fun e w' => e = .returned (.string ⟨#[]⟩) ∧ Below w.heap.size w w' :=
  (Name_any k w).mono fun e w' h' => ⟨by rw [h'.1, name_out h], h'.2⟩
theorem Name_in (k : Int) (h : 1 ≤ k ∧ k ≤ 8) : ∃ N : ByteArray, N.toList.isEmpty = false ∧ (∀ w, Calls Tryz.prog 71 #[.int .i64 k] w fun e w' => e = .returned (.string N) ∧ Below w.heap.size w w') ∧
    ∀ w, Calls Tryz.prog 72 #[.string N] w fun e w' => e = .returned (.int .i64 k) ∧ Below w.heap.size w w' := by
  refine ⟨bz (nameL k), ?_, fun w => Name_any k w, fun w => (Kind_any (nameL k) w).mono fun e w' h' => ⟨by rw [h'.1, kind_name h.1 h.2], h'.2⟩⟩
  rw [bz_empty]
  have := (name_ne h.1 h.2).1
  cases hN : nameL k with
  | nil => exact absurd hN this
  | cons a l => rfl
theorem right_i64 {p : List (Int × Int)} (h : rightG p) : ∀ o ∈ p, (1 ≤ o.1 ∧ o.1 ≤ 8) ∧ i64P o.2 :=
  fun o ho => ⟨(h.2 o ho).1, by have := (h.2 o ho).2.1; omega, by have := (h.2 o ho).2.1; omega⟩
/-- What Parse says of any text. -/
def SaidOut (s : ByteArray) (D : Option Addr) (m d : Nat) (v : Value) (w' : World) : Prop :=
  (v = .nilIface ∧ ∃ q : List (Int × Int), q.length = m ∧ rightG q ∧ bz (textG q) = s ∧ Sl w' 2 D m (Rk.cells q)) ∨
    (D = none ∧ m = 0 ∧ d = 0 ∧ ∃ (c a : Int) (t : ByteArray) (g : Nat), v = .iface 145 (.pointer (some ⟨g, 0, none⟩)) ∧ Blk w' g 148 #[.int .i64 c, .int .i64 a, .string t] ∧ (c = 1 ∨ c = 2 ∨ c = 3 ∨ c = 6))
theorem Parse_said (s : ByteArray) (w : World) (hs : s.size ≤ 500) (hT : TabW w) (hL : LibW w) : Calls Tryz.prog 69 #[.string s] w fun e w' => ∃ D m d v, e = .returned (.tuple #[.slice D m d, v]) ∧ Below w.heap.size w w' ∧ SaidOut s D m d v w' :=
  (PgParse_any s.data.toList w (by have : s.data.toList.length = s.size := by rw [Array.length_toList]; rfl
                                   omega) hL hT).mono fun e w' h => by
    obtain ⟨hb, ⟨p, D, d, hp, he, ho⟩ | ⟨hp, c, a, t, g, he, ⟨g', hg', hv⟩, hc, _⟩⟩ := h
    · obtain ⟨h1, h2⟩ := parse_some hp
      exact ⟨D, _, d, _, he, hb, .inl ⟨rfl, p, rfl, h2, by rw [h1], by obtain ⟨D1, d1, e1, e2⟩ := Sl.own ho; cases e1; exact e2⟩⟩
    · cases hg'
      exact ⟨none, 0, 0, _, he, hb, .inr ⟨rfl, rfl, rfl, c, a, t, g, rfl, hv, hc⟩⟩
theorem Text_said (q : List (Int × Int)) (s : ByteArray) (D : Option Addr) (m d : Nat) (w : World) (hm : q.length = m) (hr : rightG q) (ht : bz (textG q) = s) (hs : Sl w 2 D m (Rk.cells q)) (hT : TabW w) : Calls Tryz.prog 57 #[.slice D m d] w fun e w' => e = .returned (.string s) ∧ Below w.heap.size w w' :=
  (PgText_any q D m d w (by have := hr.1; omega) hs (right_i64 hr) hT).mono fun e w' h => ⟨by rw [h.1, ht], h.2⟩
theorem Right_said (q : List (Int × Int)) (D : Option Addr) (m d : Nat) (w : World) (hm : q.length = m) (hr : rightG q) (hs : Sl w 2 D m (Rk.cells q)) : Calls Tryz.prog 73 #[.slice D m d] w fun e w' => e = .returned .nilIface ∧ Below w.heap.size w w' :=
  (ProgRight_any q D m d w (by have := hr.1; omega) hs).mono fun e w' h => by
    rcases h with ⟨_, h1, h2⟩ | ⟨h, _⟩
    · exact ⟨h1, h2⟩
    · exact absurd hr h
theorem Parse_right (q : List (Int × Int)) (w : World) (hr : rightG q) (hT : TabW w) (hL : LibW w) : Calls Tryz.prog 69 #[.string (bz (textG q))] w fun e w' => ∃ D d, e = .returned (.tuple #[.slice D q.length d, .nilIface]) ∧ Sl w' 2 D q.length (Rk.cells q) ∧ Below w.heap.size w w' :=
  (PgParse_any (textG q) w (by have h1 := textG_len q hr.2; have h2 := hr.1; have : q.length * 31 ≤ 16 * 31 := Nat.mul_le_mul_right _ h2; omega) hL hT).mono fun e w' h => by
    obtain ⟨hb, ⟨p, D, d, hp, he, ho⟩ | ⟨hp, _⟩⟩ := h
    · rw [parse_text hr] at hp
      injection hp with hp
      subst hp
      exact ⟨D, d, he, by obtain ⟨D1, d1, e1, e2⟩ := Sl.own ho; cases e1; exact e2, hb⟩
    · rw [parse_text hr] at hp
      cases hp
theorem Of17_sl (p : List (Int × Int)) (A : Option Addr) (n c : Nat) (w : World) (hn : n ≤ 100000) (hs : Sl w 2 A n (Rk.cells p)) :
    Calls Tryz.prog 68 #[.slice A n c] w fun e w' => ∃ (D : Option Addr) (d : Nat), e = .returned (.slice D n d) ∧ Sl w' 2 D n (Rk.cells p) ∧ Below w.heap.size w w' :=
  (Of17_any p A n c w hn hs).mono fun e w' ⟨D, d, h1, h2, h3⟩ => ⟨D, d, h1, by obtain ⟨D1, d1, e1, e2⟩ := Sl.own h2; cases e1; exact e2, h3⟩
set_option maxHeartbeats 2000000 in
theorem ProgTexts_walk (p : List (Int × Int)) (A : Option Addr) (n c : Nat) (s : ByteArray) (w : World) (hg : ErrT w) (hT : TabW w) (hL : LibW w) (hs : Sl w 2 A n (Rk.cells p)) :
    Calls Tryz.prog 12 #[.slice A n c, .string s] w fun e w' => e = .returned (.bool true) ∧ Below w.heap.size w w' := by
  have HAl := Lib.hid (alive17 w hg hT hL)
  have HG := Lib.hid hg
  have HT := Lib.hid hT
  have HL := Lib.hid hL
  have HS := Lib.hid hs
  have HM := Lib.hid hs.len2
  clear hg hT hL hs
  go_enter Tryz.func12, Tryz.ntmps12
  go_upto_region 3 with (go_at_call 66; refine HAl.out.mono ?_; clear HAl; rintro e w1 ⟨rfl, hb1⟩; have HB1 := Lib.hid hb1; clear hb1)
  by_cases h30 : 30 < n
  · have h30' : (30 : Int) < (n : Int) := by omega
    go_wp2_with fail
    go_ret
    exact ⟨rfl, HB1.out⟩
  have h30' : ¬ (30 : Int) < (n : Int) := by omega
  by_cases h500 : 500 < s.size
  · have h500' : (500 : Int) < (s.size : Int) := by omega
    go_wp2_with fail
    go_ret
    exact ⟨rfl, HB1.out⟩
  have h500' : ¬ (500 : Int) < (s.size : Int) := by omega
  have HS9 := Lib.hid (show s.size ≤ 500 from by omega)
  have HR := Lib.hid (RefRight17_any p A n c w1 (by omega) (HS.out.keep HB1.out))
  go_upto_region 6 with (go_at_call 67; refine HR.out.mono ?_; clear HR; rintro e w2 ⟨cc, aa, rfl, hcc, hb2⟩; have HB2 := Lib.hid (HB1.out.andThen hb2); have HCc := Lib.hid hcc; clear hb2 hcc)
  by_cases hc0 : cc = 0
  · subst hc0
    have hr := HCc.out.1 rfl
    have HRg := Lib.hid hr
    have HOf := Lib.hid (Of17_sl p A n c w2 (by omega) (HS.out.keep HB2.out))
    obtain ⟨T, hTd⟩ : ∃ T, T = bz (textG p) := ⟨_, rfl⟩
    have HTd := Lib.hid hTd
    clear hr hTd HCc
    go_upto_region 8 with (go_at_call 68; refine HOf.out.mono ?_; clear HOf; rintro e w3 ⟨D, d, rfl, hsl, hb3⟩; have HB3 := Lib.hid (HB2.out.andThen hb3); have HS3 := Lib.hid hsl; clear hsl hb3)
    have HTx := Lib.hid (show Calls Tryz.prog 57 #[.slice D n d] w3 fun e w' => e = .returned (.string T) ∧ Below w3.heap.size w3 w' from by rw [HTd.out]; exact PgText_any p D n d w3 (by omega) HS3.out (right_i64 HRg.out) (HT.out.keep HB3.out))
    go_upto_region 9 with (go_at_call 57; refine HTx.out.mono ?_; clear HTx; rintro e w4 ⟨rfl, hb4⟩; have HB4 := Lib.hid (HB3.out.andThen hb4); have HS4 := Lib.hid (HS3.out.keep hb4); clear hb4)
    have HPa := Lib.hid (show Calls Tryz.prog 69 #[.string T] w4 fun e w' => ∃ D d, e = .returned (.tuple #[.slice D n d, .nilIface]) ∧ Sl w' 2 D n (Rk.cells p) ∧ Below w4.heap.size w4 w' from by rw [HTd.out, ← HM.out]; exact Parse_right p w4 HRg.out (HT.out.keep HB4.out) (HL.out.keep HB4.out))
    go_upto_region 10 with (go_at_call 69; refine HPa.out.mono ?_; clear HPa; rintro e w5 ⟨D5, d5, rfl, hsl, hb5⟩; have HB5 := Lib.hid (HB4.out.andThen hb5); have HS5 := Lib.hid hsl; have HS5a := Lib.hid (HS4.out.keep hb5); clear hsl hb5)
    have HRx := Lib.hid (show Calls Tryz.prog 70 #[.slice A n c] w5 fun e w' => e = .returned (.string T) ∧ Below w5.heap.size w5 w' from by rw [HTd.out]; exact RefText17_any p A n c w5 (by omega) (HS.out.keep HB5.out) HRg.out.2)
    go_upto_region 12 with (go_at_call 70; refine HRx.out.mono ?_; clear HRx; rintro e w6 ⟨rfl, hb6⟩; have HB6 := Lib.hid (HB5.out.andThen hb6); have HS6 := Lib.hid (HS5.out.keep hb6); have HS6a := Lib.hid (HS5a.out.keep hb6); clear hb6)
    go_wp2_with fail
    go_loopw [11] (fun i wr => ∃ k : Nat, k ≤ n ∧ i = .int .i64 k ∧ Hid (Below w6.heap.size w6 wr)) (fun i _ => n - (intOf i).toNat)
    case atStart => exact ⟨0, Nat.zero_le _, rfl, Lib.hid (Below.refl _ _)⟩
    case round =>
      obtain ⟨k, hk, rfl, HB7⟩ := hrel
      by_cases hlt : k < n
      · have hlt' : (k : Int) < (n : Int) := by omega
        have hk0 : (0 : Int) ≤ (k : Int) := by omega
        obtain ⟨⟨x, y⟩, he⟩ : ∃ e, p[k]? = some e := ⟨_, List.getElem?_eq_getElem (by rw [HM.out]; exact hlt)⟩
        obtain ⟨b1, off1, rfl, c0, c1⟩ := (HS6.out.keep HB7.out).edge hlt he
        obtain ⟨b2, off2, rfl, e0, e1⟩ := (HS6a.out.keep HB7.out).edge hlt he
        simp only at c0 c1 e0 e1
        clear he
        go_wp2_with fail
        go_quiet (fail)
        go_wp2_with fail
        go_roundw
        case rel => exact ⟨k + 1, by omega, by go_num, Lib.hid (bel_drewN HB7.out _)⟩
        case measure => simp [intOf]; omega
      · obtain rfl : k = n := by omega
        have hlt' : ¬ (k : Int) < (k : Int) := by omega
        have HBT := Lib.hid (HB6.out.andThen HB7.out)
        go_wp2_with fail
        go_loopw [12] (fun iv wr => ∃ k : Int, -1 ≤ k ∧ k ≤ 11 ∧ iv = .int .i64 k ∧ Hid (Below w.heap.size w wr)) (fun iv _ => (11 - intOf iv).toNat)
        case atStart => exact ⟨-1, by decide, by decide, rfl, HBT⟩
        case round =>
          obtain ⟨k, hk0, hk1, rfl, HB⟩ := hrel
          by_cases h11 : k ≤ 10
          · have hw : IntKind.i64.wrap (k + 1) = k + 1 := by rw [IntKind.wrap_i64]; omega
            by_cases h1 : k < 1
            · have HNm := Lib.hid (Name_out k wr (by omega))
              go_wp2_with (go_at_call 71; refine HNm.out.mono ?_; clear HNm; rintro e w2 ⟨rfl, hb2⟩; have HB2 := Lib.hid (HB.out.andThen hb2); clear hb2)
              go_roundw
              case rel => exact ⟨k + 1, by omega, by omega, by go_num, HB2⟩
              case measure => simp [intOf]; omega
            · by_cases h8 : 8 < k
              · have HNm := Lib.hid (Name_out k wr (by omega))
                go_wp2_with (go_at_call 71; refine HNm.out.mono ?_; clear HNm; rintro e w2 ⟨rfl, hb2⟩; have HB2 := Lib.hid (HB.out.andThen hb2); clear hb2)
                go_roundw
                case rel => exact ⟨k + 1, by omega, by omega, by go_num, HB2⟩
                case measure => simp [intOf]; omega
              · obtain ⟨N, hN, hnm, hkd⟩ := Name_in k (by omega)
                have HNm := Lib.hid (hnm wr)
                have HKd := Lib.hid hkd
                clear hnm hkd
                go_wp2_with (first
                  | (go_at_call 71; refine HNm.out.mono ?_; clear HNm; rintro e w2 ⟨rfl, hb2⟩; have HB2 := Lib.hid (HB.out.andThen hb2); clear hb2)
                  | (go_at_call 72; refine (HKd.out _).mono ?_; clear HKd; rintro e w3 ⟨rfl, hb3⟩; have HB3 := Lib.hid (HB2.out.andThen hb3); clear hb3))
                go_roundw
                case rel => exact ⟨k + 1, by omega, by omega, by go_num, HB3⟩
                case measure => simp [intOf]; omega
          · obtain rfl : k = 11 := by omega
            have HPs := Lib.hid (Parse_said s wr HS9.out (HT.out.keep HB.out) (HL.out.keep HB.out))
            go_upto_region 24 with (go_at_call 69; refine HPs.out.mono ?_; clear HPs; rintro e w2 ⟨D, m, d, v, rfl, hb, hx⟩; have HB2 := Lib.hid (HB.out.andThen hb); have HX := Lib.hid hx; clear hb hx)
            rcases HX.out with ⟨rfl, q, hm, hr, ht, hs⟩ | ⟨rfl, rfl, rfl, cc, a, t, g, rfl, hv, hc⟩
            · clear HX
              have HTx := Lib.hid (Text_said q s D m d w2 hm hr ht hs (HT.out.keep HB2.out))
              have HRt := Lib.hid (fun W (hW : Below w2.heap.size w2 W) => Right_said q D m d W hm hr (hs.keep hW))
              clear hr ht hs hm
              go_wp2_with (first
                | (go_at_call 57; refine HTx.out.mono ?_; clear HTx; rintro e w3 ⟨rfl, hb3⟩; have HB3 := Lib.hid (HB2.out.andThen hb3); have HR3 := Lib.hid (HRt.out _ hb3); clear hb3)
                | (go_at_call 73; refine HR3.out.mono ?_; clear HR3; rintro e w4 ⟨rfl, hb4⟩; have HB4 := Lib.hid (HB3.out.andThen hb4); clear hb4))
              go_ret
              exact ⟨rfl, HB4.out⟩
            · clear HX
              have HC := Lib.hid (Code_flt g cc a t w2 (HG.out.keep HB2.out) hv)
              clear hv
              rcases hc with rfl | rfl | rfl | rfl
              all_goals (
                go_wp2_with (go_at_call 29; refine HC.out.mono ?_; clear HC; rintro e w3 ⟨rfl, hb3⟩; have HB3 := Lib.hid (HB2.out.andThen hb3); clear hb3)
                go_ret
                exact ⟨rfl, HB3.out⟩)
  · have hc0' : (cc == 0) = false := by simpa using hc0
    have HBT := HB2
    clear HCc hc0
    go_wp2_with fail
    go_loopw [12] (fun iv wr => ∃ k : Int, -1 ≤ k ∧ k ≤ 11 ∧ iv = .int .i64 k ∧ Hid (Below w.heap.size w wr)) (fun iv _ => (11 - intOf iv).toNat)
    case atStart => exact ⟨-1, by decide, by decide, rfl, HBT⟩
    case round =>
      obtain ⟨k, hk0, hk1, rfl, HB⟩ := hrel
      by_cases h11 : k ≤ 10
      · have hw : IntKind.i64.wrap (k + 1) = k + 1 := by rw [IntKind.wrap_i64]; omega
        by_cases h1 : k < 1
        · have HNm := Lib.hid (Name_out k wr (by omega))
          go_wp2_with (go_at_call 71; refine HNm.out.mono ?_; clear HNm; rintro e w2 ⟨rfl, hb2⟩; have HB2 := Lib.hid (HB.out.andThen hb2); clear hb2)
          go_roundw
          case rel => exact ⟨k + 1, by omega, by omega, by go_num, HB2⟩
          case measure => simp [intOf]; omega
        · by_cases h8 : 8 < k
          · have HNm := Lib.hid (Name_out k wr (by omega))
            go_wp2_with (go_at_call 71; refine HNm.out.mono ?_; clear HNm; rintro e w2 ⟨rfl, hb2⟩; have HB2 := Lib.hid (HB.out.andThen hb2); clear hb2)
            go_roundw
            case rel => exact ⟨k + 1, by omega, by omega, by go_num, HB2⟩
            case measure => simp [intOf]; omega
          · obtain ⟨N, hN, hnm, hkd⟩ := Name_in k (by omega)
            have HNm := Lib.hid (hnm wr)
            have HKd := Lib.hid hkd
            clear hnm hkd
            go_wp2_with (first
              | (go_at_call 71; refine HNm.out.mono ?_; clear HNm; rintro e w2 ⟨rfl, hb2⟩; have HB2 := Lib.hid (HB.out.andThen hb2); clear hb2)
              | (go_at_call 72; refine (HKd.out _).mono ?_; clear HKd; rintro e w3 ⟨rfl, hb3⟩; have HB3 := Lib.hid (HB2.out.andThen hb3); clear hb3))
            go_roundw
            case rel => exact ⟨k + 1, by omega, by omega, by go_num, HB3⟩
            case measure => simp [intOf]; omega
      · obtain rfl : k = 11 := by omega
        have HPs := Lib.hid (Parse_said s wr HS9.out (HT.out.keep HB.out) (HL.out.keep HB.out))
        go_upto_region 24 with (go_at_call 69; refine HPs.out.mono ?_; clear HPs; rintro e w2 ⟨D, m, d, v, rfl, hb, hx⟩; have HB2 := Lib.hid (HB.out.andThen hb); have HX := Lib.hid hx; clear hb hx)
        rcases HX.out with ⟨rfl, q, hm, hr, ht, hs⟩ | ⟨rfl, rfl, rfl, cc, a, t, g, rfl, hv, hc⟩
        · clear HX
          have HTx := Lib.hid (Text_said q s D m d w2 hm hr ht hs (HT.out.keep HB2.out))
          have HRt := Lib.hid (fun W (hW : Below w2.heap.size w2 W) => Right_said q D m d W hm hr (hs.keep hW))
          clear hr ht hs hm
          go_wp2_with (first
            | (go_at_call 57; refine HTx.out.mono ?_; clear HTx; rintro e w3 ⟨rfl, hb3⟩; have HB3 := Lib.hid (HB2.out.andThen hb3); have HR3 := Lib.hid (HRt.out _ hb3); clear hb3)
            | (go_at_call 73; refine HR3.out.mono ?_; clear HR3; rintro e w4 ⟨rfl, hb4⟩; have HB4 := Lib.hid (HB3.out.andThen hb4); clear hb4))
          go_ret
          exact ⟨rfl, HB4.out⟩
        · clear HX
          have HC := Lib.hid (Code_flt g cc a t w2 (HG.out.keep HB2.out) hv)
          clear hv
          rcases hc with rfl | rfl | rfl | rfl
          all_goals (
            go_wp2_with (go_at_call 29; refine HC.out.mono ?_; clear HC; rintro e w3 ⟨rfl, hb3⟩; have HB3 := Lib.hid (HB2.out.andThen hb3); clear hb3)
            go_ret
            exact ⟨rfl, HB3.out⟩)
theorem ProgTexts_main (A : Option Addr) (n c : Nat) (p : List (Int × Int)) (s : ByteArray) (w : World) (hg : ErrT w) (hT : TabW w) (hL : LibW w) (hn : n ≤ maxLen) (hl : p.length = n) (hs : Sl w 2 A n (Rk.cells p)) (hw : ∀ x ∈ p, (Lit.int .i64 x.1).wf = true ∧ (Lit.int .i64 x.2).wf = true) (hz : s.size ≤ maxLen) :
    Calls Tryz.prog 12 #[.slice A n c, .string s] w fun e w' => e = .returned (.bool true) ∧ Below w.heap.size w w' :=
  ProgTexts_walk p A n c s w hg hT hL hs
end Go.Proofs.YtddedghnnkcnhaaGreatDoor
