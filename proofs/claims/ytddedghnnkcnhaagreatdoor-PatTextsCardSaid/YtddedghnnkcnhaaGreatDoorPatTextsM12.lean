/-
  Part 12 of the proof of PatTexts: RdL, EncL, PatV, PatG, PatW.
-/
import Derived.Test.YtddedghnnkcnhaaGreatDoorPatTextsM11
import Derived.Test.YtddedghnnkcnhaaGreatDoorPatTextsM2
import Derived.Test.YtddedghnnkcnhaaGreatDoorPatTextsM7
import Derived.Test.YtddedghnnkcnhaaGreatDoorPatTextsM8
import Derived.BigQuiet
import Derived.Test.YtddedghnnkcnhaaGreatDoorPatTextsM3
import Derived.Test.YtddedghnnkcnhaaGreatDoorPatTextsM4
/-
  Contracts of wire.Reader: List, of any length, and where it fails.
-/
namespace Go.Proofs.YtddedghnnkcnhaaGreatDoor
open Go.RowKit
set_option maxRecDepth 100000
set_option linter.unusedVariables false

set_option maxHeartbeats 4000000 in
theorem take_shortA (g B : Nat) (A : Option Addr) (n c a m : Nat) (from_ : Nat) (w : World) (hR : Rd w B g A n c a .nil) (hm : n < a + m) (hn : n ≤ 1099511627776) (hm2 : m ≤ 1099511627776) (hfr : from_ ≤ n) :
    Calls Tryz.prog 160 #[.pointer (some ⟨g, 0, none⟩), .int .i64 m, .int .i64 from_] w fun e w' => e = .returned (.slice none 0 0) ∧ Rd w' B g A n c from_ (.flt 9 from_ txtBytes) ∧ Below B w w' ∧ Asd g w w' := by
  obtain ⟨hBg, hf, han, ev, hb, he⟩ := hR
  obtain rfl : ev = .nilIface := he
  have hc0 := hb.cell 0
  have hc1 := hb.cell 1
  have hc2 := hb.cell 2
  simp at hc0 hc1 hc2
  have HBk := Lib.hid hb
  have hBw : B ≤ w.heap.size := Nat.le_trans hBg (Nat.le_of_lt hb.lt)
  clear hb
  have hd : decide ((n : Int) - (a : Int) < (m : Int)) = true := decide_eq_true (by omega)
  go_enter Tryz.func160, Tryz.ntmps160
  go_wp2_with fail
  go_quiet (fail)
  obtain ⟨w1, hw1⟩ : ∃ w1, w1 = w.drewN nq := ⟨_, rfl⟩
  rw [← hw1]
  have hbw := drew_bel ⟨nq, hw1⟩
  have HBk1 := Lib.hid (HBk.out.keep hbw)
  have HBw := Lib.hid hbw
  clear hw1 hbw hc0 hc1 hc2
  go_wp2_with fail
  refine (New_err 9 from_ txtBytes w1).mono ?_
  rintro e w2 ⟨v, rfl, ⟨gv, rfl, hv⟩, hb2⟩
  have hbk2 := HBk1.out.keep hb2
  have hd1 := hbk2.cell 1
  have hd2 := hbk2.cell 2
  have hf1 := hbk2.frozen 1
  have hf2 := hbk2.frozen 2
  simp at hd1 hd2
  have hgne : gv ≠ g := fun e => by
    subst e
    unfold Blk at hv hbk2
    rw [hv] at hbk2
    injection hbk2 with hbk2
    injection hbk2 with _ h3
    exact absurd h3 (by decide)
  have HT := Lib.hid (show Rd ((w2.setCell ⟨g, 1, none⟩ (.int .i64 from_)).setCell ⟨g, 2, none⟩ (.iface 145 (.pointer (some ⟨gv, 0, none⟩)))) B g A n c from_ (.flt 9 from_ txtBytes) by
    refine ⟨hBg, trivial, hfr, _, ?_, ⟨gv, rfl, ?_⟩⟩
    · have := (hbk2.set_ 1 (.int .i64 from_)).set_ 2 (.iface 145 (.pointer (some ⟨gv, 0, none⟩)))
      simpa using this
    · exact ((hv.far (p := ⟨g, 1, none⟩) hgne _).far (p := ⟨g, 2, none⟩) hgne _))
  have HB2 := Lib.hid (HBw.out.andThen hb2)
  clear hv hbk2 hgne hb2
  go_wp2_with fail
  go_ret
  exact ⟨rfl, HT.out, ((HB2.out.mono hBw).setCell (p := ⟨g, 1, none⟩) hBg _).setCell (p := ⟨g, 2, none⟩) hBg _, ((Asd.of HB2.out).setCell 1 _).setCell 2 _⟩

set_option maxHeartbeats 8000000 in
theorem List_okR (g B : Nat) (A : Option Addr) (n c a most : Nat) (l : List Int) (w : World) (hR : Rd w B g A n c a .nil) (hm : a + 4 + 4 * wordN (l.drop a) ≤ n) (h60 : wordN (l.drop a) ≤ most) (hn : n ≤ 1099511627776) (hnc : n ≤ c) (hc9 : c ≤ 9223372036854775807) (hl : l.length = n) (hb : Bys l) (hB : ∀ w', Below B w w' → Sl w' 1 A n (l.map (Value.int .u8))) :
    Calls Tryz.prog 95 #[.pointer (some ⟨g, 0, none⟩), .int .i64 (most : Int)] w fun e w' => ∃ v, e = .returned v ∧ w'.ownsRow w.heap.size 3 1 v (wordN (l.drop a)) ((wordsL (l.drop (a + 4)) (wordN (l.drop a))).map (Value.int .i64)) ∧ Rd w' B g A n c (a + 4 + 4 * wordN (l.drop a)) .nil ∧ Below B w w' ∧ Asd g w w' := by
  obtain ⟨hc0, hc1⟩ := rd_cells hR
  have HT := Lib.hid (num_ok g B A n c a a l w hR (by omega) hn hnc hc9 hl hb hB)
  have HSB := Lib.hid hB
  have HBy := Lib.hid hb
  clear hR hB hb
  generalize hN : wordN (l.drop a) = N at *
  clear hN
  have hmx : max (most : Int) 0 = (most : Int) := by omega
  have hmx2 : ¬ (most : Int) < 0 := by omega
  have hmx3 : (if (most : Int) < 0 then (0 : Int) else (most : Int)) = (most : Int) := if_neg hmx2
  have hmx4 : (if (0 : Int) < (most : Int) then (most : Int) else (0 : Int)) = (most : Int) := by split <;> omega
  have hmx5 : ¬ (most : Int) < (N : Int) := by omega
  go_enter Tryz.func95, Tryz.ntmps95
  go_wp2_with fail
  refine HT.out.mono ?_
  rintro e w1 ⟨rfl, hR1, hb1, ha1⟩
  have HR1 := Lib.hid hR1
  have HB1 := Lib.hid hb1
  have HD1 := Lib.hid ha1
  obtain ⟨_, _, _, ev, hbk, he⟩ := hR1
  obtain rfl : ev = .nilIface := he
  have hc2 := hbk.cell 2
  simp at hc2
  clear hb1 ha1 HT hbk
  rcases Nat.eq_zero_or_pos N with h0 | h0
  · subst h0
    go_wp2_with fail
    go_ret
    exact ⟨_, rfl, World.ownsRow_nil _ _ _ _, HR1.out, HB1.out, HD1.out⟩
  · have hNz : ((N : Int) == 0) = false := by simp; omega
    have HZ := Lib.hid (take_ok g B A n c (a + 4) (4 * N) a l w1 HR1.out (by omega) (by omega) hn hnc hc9 (HSB.out w1 HB1.out) (fun W hW => HSB.out W (HB1.out.trans hW)))
    have h4N : ((4 * N : Nat) : Int) = 4 * (N : Int) := by omega
    rw [h4N] at HZ
    go_wp2_with fail
    refine HZ.out.mono ?_
    rintro e w2 ⟨C, k, rfl, hk, hs2, hR2, hb2, ha2⟩
    have hS := hs2 w2 hb2
    obtain ⟨b, off, hA, _⟩ := hS.2 (by omega)
    cases hA
    have HS := Lib.hid hS
    have HR2 := Lib.hid hR2
    have HB2 := Lib.hid (HB1.out.trans hb2)
    have HD2 := Lib.hid (HD1.out.trans ha2)
    have HBL := Lib.hid (((HBy.out.drop (a + 4)).take (4 * N)))
    have HLen := Lib.hid (show ((l.drop (a + 4)).take (4 * N)).length = 4 * N by rw [List.length_take, List.length_drop]; omega)
    have HWd := Lib.hid (fun j (hj : j < N) => (show wordN ((((l.drop (a + 4)).take (4 * N)).drop (4 * j))) = wordN ((l.drop (a + 4)).drop (4 * j)) by
      have hlen : (l.drop (a + 4)).length = n - (a + 4) := by rw [List.length_drop, hl]
      rw [List.drop_take]
      rw [← wordN_take (l := List.take (4 * N - 4 * j) _) (by rw [List.length_take, List.length_drop, hlen]; omega), List.take_take, Nat.min_eq_left (by omega), wordN_take (by rw [List.length_drop, hlen]; omega)]))
    have hBw2 : B ≤ w2.heap.size := Nat.le_trans HR2.out.1 (Nat.le_of_lt (by obtain ⟨_, _, _, _, h, _⟩ := HR2.out; exact h.lt))
    clear hs2 hR2 hb2 ha2 HZ hS hc0 hc1 hc2
    generalize (l.drop (a + 4)).take (4 * N) = bl at *
    generalize hrl : l.drop (a + 4) = rl at *
    have HRL := Lib.hid hrl
    clear hrl
    go_wp2_with fail
    go_loopw [7, 8] (fun bv lv wr => ∃ (j o k : Nat), j ≤ N ∧ bv = .slice (some ⟨b, o, none⟩) (4 * (N - j)) k ∧ (j < N → o = off + 4 * j) ∧ (4 * (N - j) ≤ k ∧ k ≤ 9223372036854775807) ∧ wr.ownsRow w2.heap.size 3 1 lv j ((wordsL rl j).map (Value.int .i64)) ∧ Below w2.heap.size w2 wr) (fun bv _ _ => lenV bv)
    case atStart => exact ⟨0, off, k, Nat.zero_le _, by rw [Nat.sub_zero], fun _ => rfl, by rw [Nat.sub_zero]; exact hk, World.ownsRow_nil _ _ _ _, Below.refl _ _⟩
    case round =>
      obtain ⟨j, o, k', hj, rfl, ho, hk', hown, hb⟩ := hrel
      have HO := Lib.hid hown
      have HBr := Lib.hid hb
      by_cases hlt : j < N
      · obtain rfl := ho hlt
        have hlw := wordN_lt (HBL.out.drop (4 * j))
        have HA := Lib.hid (wordAt_any (bl.drop (4 * j)) (some ⟨b, off + 4 * j, none⟩) (4 * (N - j)) k' wr (by rw [List.length_drop, HLen.out]; omega) (by omega) (HBL.out.drop _) (by
          have h1 := (HS.out.keep hb).drop (k := 4 * j) (by omega)
          rw [← List.map_drop, show 4 * N - 4 * j = 4 * (N - j) by omega] at h1
          exact h1))
        rw [HWd.out j hlt] at HA hlw
        have HWS := Lib.hid (show wordsL rl (j + 1) = wordsL rl j ++ [(wordN (rl.drop (4 * j)) : Int)] from rfl)
        generalize wordN (rl.drop (4 * j)) = Wj at *
        have hpos : (0 : Int) < ((4 * (N - j) : Nat) : Int) := by omega
        have hge4 : (4 : Int) ≤ ((4 * (N - j) : Nat) : Int) := by omega
        have hsub : 4 * (N - j) - 4 = 4 * (N - (j + 1)) := by omega
        generalize hm : 4 * (N - j) = mm at *
        have HM := Lib.hid hm
        clear hown hb hm
        by_cases hk4 : k' = 4
        · subst hk4
          go_wp2_with fail
          refine HA.out.mono ?_
          rintro e w3 ⟨rfl, hq⟩
          have HB3 := Lib.hid (HBr.out.andThen (drew_bel hq))
          have HO3 := Lib.hid (own_below HO.out (fun g hg => (HO.out.lt g hg).2) (drew_bel hq))
          clear hq HA
          go_wp2_with (at_builtin; refine wpList_push elemInt (w0 := w2) _ _ rfl rfl HO3.out HB3.out (Nat.le_refl _) rfl rfl rfl (by simp [Value.oneCell']) (by unfold lim; omega) (by unfold lim; omega) ?_; intro v4 w4 hown4 hb4; have HO4 := Lib.hid hown4; clear hown4)
          go_roundw
          case rel =>
            refine ⟨j + 1, _, _, by omega, rfl, fun h => by omega, by omega, ?_, hb4⟩
            rw [HWS.out, List.map_append]; exact HO4.out
          case measure => simp [lenV]; omega
        · go_wp2_with fail
          refine HA.out.mono ?_
          rintro e w3 ⟨rfl, hq⟩
          have HB3 := Lib.hid (HBr.out.andThen (drew_bel hq))
          have HO3 := Lib.hid (own_below HO.out (fun g hg => (HO.out.lt g hg).2) (drew_bel hq))
          clear hq HA
          go_wp2_with (at_builtin; refine wpList_push elemInt (w0 := w2) _ _ rfl rfl HO3.out HB3.out (Nat.le_refl _) rfl rfl rfl (by simp [Value.oneCell']) (by unfold lim; omega) (by unfold lim; omega) ?_; intro v4 w4 hown4 hb4; have HO4 := Lib.hid hown4; clear hown4)
          go_roundw
          case rel =>
            refine ⟨j + 1, _, _, by omega, rfl, fun h => by omega, by omega, ?_, hb4⟩
            rw [HWS.out, List.map_append]; exact HO4.out
          case measure => simp [lenV]; omega
      · obtain rfl : j = N := by omega
        obtain ⟨C, kk, rfl, hsl⟩ := Sl.own hown
        have HX := Lib.hid hsl
        have HOw := Lib.hid hown
        rw [Nat.sub_self]
        clear hown hsl hb
        go_wp2_with fail
        go_ret
        exact ⟨_, rfl, by rw [HRL.out]; exact own_mono HOw.out HD2.out.1, HR2.out.keep HBr.out, HB2.out.trans (HBr.out.mono hBw2), HD2.out.trans (Asd.of HBr.out)⟩

/-- An error of a reader. -/
def rdBad (E : Err) : Prop := ∃ a s, E = .flt 9 a s ∨ E = .flt 6 a s
theorem rdBad.ne {E : Err} (h : rdBad E) : E ≠ .nil := by
  obtain ⟨a, s, rfl | rfl⟩ := h <;> exact fun e => by cases e
/-- Is there a list at a place, of at most so many numbers? -/
def okAt (l : List Int) (a most : Nat) : Prop := a + 4 ≤ l.length ∧ wordN (l.drop a) ≤ most ∧ a + 4 + 4 * wordN (l.drop a) ≤ l.length
set_option maxHeartbeats 2000000 in
theorem num_short (g B : Nat) (A : Option Addr) (n c a from_ : Nat) (w : World) (hR : Rd w B g A n c a .nil) (hm : n < a + 4) (hn : n ≤ 1099511627776) (hfr : from_ ≤ n) :
    Calls Tryz.prog 159 #[.pointer (some ⟨g, 0, none⟩), .int .i64 (from_ : Int)] w fun e w' => e = .returned (.int .i64 0) ∧ Rd w' B g A n c from_ (.flt 9 from_ txtBytes) ∧ Below B w w' ∧ Asd g w w' := by
  have HT := Lib.hid (take_shortA g B A n c a 4 from_ w hR hm hn (by omega) hfr)
  have nn := fun w => nilEq w none 0 0
  clear hR
  go_enter Tryz.func159, Tryz.ntmps159
  go_wp2_with fail
  refine HT.out.mono ?_
  rintro e w1 ⟨rfl, h1, h2, h3⟩
  have H1 := Lib.hid h1
  have H2 := Lib.hid h2
  have H3 := Lib.hid h3
  clear h1 h2 h3 HT
  go_wp2_with fail
  go_ret
  exact ⟨rfl, H1.out, H2.out, H3.out⟩
set_option maxHeartbeats 8000000 in
theorem List_short (g B : Nat) (A : Option Addr) (n c a : Nat) (most : Int) (w : World) (hR : Rd w B g A n c a .nil) (hm : n < a + 4) (hn : n ≤ 1099511627776) :
    Calls Tryz.prog 95 #[.pointer (some ⟨g, 0, none⟩), .int .i64 most] w fun e w' => e = .returned (.slice none 0 0) ∧ Rd w' B g A n c a (.flt 9 a txtBytes) ∧ Below B w w' ∧ Asd g w w' := by
  obtain ⟨hc0, hc1⟩ := rd_cells hR
  have HT := Lib.hid (num_short g B A n c a a w hR hm hn hR.2.2.1)
  clear hR
  go_enter Tryz.func95, Tryz.ntmps95
  go_wp2_with fail
  refine HT.out.mono ?_
  rintro e w1 ⟨rfl, h1, h2, h3⟩
  have H1 := Lib.hid h1
  have H2 := Lib.hid h2
  have H3 := Lib.hid h3
  obtain ⟨_, _, _, ev, hb, gv, rfl, hv⟩ := h1
  have hc2 := hb.cell 2
  simp at hc2
  clear h2 h3 hb hv hc0 hc1 HT
  go_wp2_with fail
  go_ret
  exact ⟨rfl, H1.out, H2.out, H3.out⟩

set_option maxHeartbeats 8000000 in
theorem List_large (g B : Nat) (A : Option Addr) (n c a most : Nat) (l : List Int) (w : World) (hR : Rd w B g A n c a .nil) (hm : a + 4 ≤ n) (h60 : most < wordN (l.drop a)) (hn : n ≤ 1099511627776) (hnc : n ≤ c) (hc9 : c ≤ 9223372036854775807) (hl : l.length = n) (hb : Bys l) (hB : ∀ w', Below B w w' → Sl w' 1 A n (l.map (Value.int .u8))) :
    Calls Tryz.prog 95 #[.pointer (some ⟨g, 0, none⟩), .int .i64 (most : Int)] w fun e w' => e = .returned (.slice none 0 0) ∧ Rd w' B g A n c a (.flt 6 a txtList) ∧ Below B w w' ∧ Asd g w w' := by
  obtain ⟨hc0, hc1⟩ := rd_cells hR
  have han := hR.2.2.1
  have HT := Lib.hid (num_ok g B A n c a a l w hR hm hn hnc hc9 hl hb hB)
  have hmx : max (most : Int) 0 = (most : Int) := by omega
  have hmx2 : ¬ (most : Int) < 0 := by omega
  have hmx3 : (if (most : Int) < 0 then (0 : Int) else (most : Int)) = (most : Int) := if_neg hmx2
  have hmx4 : (if (0 : Int) < (most : Int) then (most : Int) else (0 : Int)) = (most : Int) := by split <;> omega
  have hlt := wordN_lt (hb.drop a)
  clear hR hB hb
  generalize wordN (l.drop a) = N at *
  have hmx5 : (most : Int) < (N : Int) := by omega
  go_enter Tryz.func95, Tryz.ntmps95
  go_wp2_with fail
  refine HT.out.mono ?_
  rintro e w1 ⟨rfl, hR1, hb1, ha1⟩
  have HB1 := Lib.hid hb1
  have HD1 := Lib.hid ha1
  obtain ⟨hBg, hf, _, ev, hbk, he⟩ := hR1
  obtain rfl : ev = .nilIface := he
  have HBk1 := Lib.hid hbk
  have hc2 := hbk.cell 2
  simp at hc2
  have hBw : B ≤ w1.heap.size := Nat.le_trans hBg (Nat.le_of_lt hbk.lt)
  clear hb1 ha1 HT hbk hc0 hc1
  go_wp2_with fail
  refine (New_err 6 a txtList w1).mono ?_
  rintro e w2 ⟨v, rfl, ⟨gv, rfl, hv⟩, hb2⟩
  have hbk2 := HBk1.out.keep hb2
  have hd1 := hbk2.cell 1
  have hd2 := hbk2.cell 2
  have hf1 := hbk2.frozen 1
  have hf2 := hbk2.frozen 2
  simp at hd1 hd2
  have hgne : gv ≠ g := fun e => by
    subst e
    unfold Blk at hv hbk2
    rw [hv] at hbk2
    injection hbk2 with hbk2
    injection hbk2 with _ h3
    exact absurd h3 (by decide)
  have hF := (hbk2.set_ 1 (.int .i64 a)).set_ 2 (.iface 145 (.pointer (some ⟨gv, 0, none⟩)))
  have hF2 := hF.cell 2
  simp at hF2
  have HT := Lib.hid (show Rd ((w2.setCell ⟨g, 1, none⟩ (.int .i64 a)).setCell ⟨g, 2, none⟩ (.iface 145 (.pointer (some ⟨gv, 0, none⟩)))) B g A n c a (.flt 6 a txtList) by
    refine ⟨hBg, trivial, han, _, ?_, ⟨gv, rfl, ?_⟩⟩
    · simpa using hF
    · exact ((hv.far (p := ⟨g, 1, none⟩) hgne _).far (p := ⟨g, 2, none⟩) hgne _))
  have HB2 := Lib.hid (HB1.out.trans (hb2.mono hBw))
  have HD2 := Lib.hid (HD1.out.trans (Asd.of hb2))
  clear hv hbk2 hgne hb2 hF
  go_wp2_with fail
  go_ret
  exact ⟨rfl, HT.out, (HB2.out.setCell (p := ⟨g, 1, none⟩) hBg _).setCell (p := ⟨g, 2, none⟩) hBg _, (HD2.out.setCell 1 _).setCell 2 _⟩
set_option maxHeartbeats 8000000 in
theorem List_cut (g B : Nat) (A : Option Addr) (n c a most : Nat) (l : List Int) (w : World) (hR : Rd w B g A n c a .nil) (hm : a + 4 ≤ n) (h60 : wordN (l.drop a) ≤ most) (hct : n < a + 4 + 4 * wordN (l.drop a)) (hn : n ≤ 1099511627776) (hnc : n ≤ c) (hc9 : c ≤ 9223372036854775807) (hl : l.length = n) (hb : Bys l) (hB : ∀ w', Below B w w' → Sl w' 1 A n (l.map (Value.int .u8))) :
    Calls Tryz.prog 95 #[.pointer (some ⟨g, 0, none⟩), .int .i64 (most : Int)] w fun e w' => e = .returned (.slice none 0 0) ∧ Rd w' B g A n c a (.flt 9 a txtBytes) ∧ Below B w w' ∧ Asd g w w' := by
  obtain ⟨hc0, hc1⟩ := rd_cells hR
  have han := hR.2.2.1
  have HT := Lib.hid (num_ok g B A n c a a l w hR hm hn hnc hc9 hl hb hB)
  have hmx : max (most : Int) 0 = (most : Int) := by omega
  have hmx2 : ¬ (most : Int) < 0 := by omega
  have hmx3 : (if (most : Int) < 0 then (0 : Int) else (most : Int)) = (most : Int) := if_neg hmx2
  have hmx4 : (if (0 : Int) < (most : Int) then (most : Int) else (0 : Int)) = (most : Int) := by split <;> omega
  have hlt := wordN_lt (hb.drop a)
  clear hR hB hb
  generalize wordN (l.drop a) = N at *
  have hmx5 : ¬ (most : Int) < (N : Int) := by omega
  have hNz : ((N : Int) == 0) = false := by simp; omega
  go_enter Tryz.func95, Tryz.ntmps95
  go_wp2_with fail
  refine HT.out.mono ?_
  rintro e w1 ⟨rfl, hR1, hb1, ha1⟩
  have HB1 := Lib.hid hb1
  have HD1 := Lib.hid ha1
  have HZ := Lib.hid (take_shortA g B A n c (a + 4) (4 * N) a w1 hR1 (by omega) hn (by omega) han)
  have h4N : ((4 * N : Nat) : Int) = 4 * (N : Int) := by omega
  rw [h4N] at HZ
  obtain ⟨hBg, hf, _, ev, hbk, he⟩ := hR1
  obtain rfl : ev = .nilIface := he
  have hc2 := hbk.cell 2
  simp at hc2
  have hBw : B ≤ w1.heap.size := Nat.le_trans hBg (Nat.le_of_lt hbk.lt)
  clear hb1 ha1 HT hbk hc0 hc1
  go_wp2_with fail
  refine HZ.out.mono ?_
  rintro e w2 ⟨rfl, h1, h2, h3⟩
  have H1 := Lib.hid h1
  have H2 := Lib.hid (HB1.out.trans h2)
  have H3 := Lib.hid (HD1.out.trans h3)
  clear h1 h2 h3 HZ hc2
  go_wp2_with fail
  go_loop [7, 8] (fun bv lv => bv = .slice none 0 0 ∧ lv = .slice none 0 0) (fun _ _ => 0)
  case atStart => exact ⟨rfl, rfl⟩
  case round =>
    obtain ⟨rfl, rfl⟩ := hrel
    go_wp2_with fail
    go_ret
    exact ⟨rfl, H1.out, H2.out, H3.out⟩
/-- List, whatever the bytes are. -/
theorem List_rd (g B : Nat) (A : Option Addr) (n c a most : Nat) (E : Err) (l : List Int) (w : World) (hR : Rd w B g A n c a E) (hE : E = .nil ∨ rdBad E) (hn : n ≤ 1099511627776) (hnc : n ≤ c) (hc9 : c ≤ 9223372036854775807) (hl : l.length = n) (hb : Bys l) (hB : ∀ w', Below B w w' → Sl w' 1 A n (l.map (Value.int .u8))) :
    Calls Tryz.prog 95 #[.pointer (some ⟨g, 0, none⟩), .int .i64 (most : Int)] w fun e w' => ∃ v xs, e = .returned v ∧ w'.ownsRow w.heap.size 3 1 v xs.length (xs.map (Value.int .i64)) ∧ Below B w w' ∧ Asd g w w' ∧
      ((E = .nil ∧ okAt l a most ∧ xs = wordsL (l.drop (a + 4)) (wordN (l.drop a)) ∧ Rd w' B g A n c (a + 4 + 4 * wordN (l.drop a)) .nil) ∨ (xs = [] ∧ (E = .nil → ¬ okAt l a most) ∧ ∃ a' E', rdBad E' ∧ Rd w' B g A n c a' E')) := by
  rcases hE with rfl | hE
  · have hbad : ∀ {e : Ending} {w' : World} {a' : Nat} {E' : Err}, rdBad E' → ¬ okAt l a most → e = .returned (.slice none 0 0) ∧ Rd w' B g A n c a' E' ∧ Below B w w' ∧ Asd g w w' → ∃ v xs, e = .returned v ∧ w'.ownsRow w.heap.size 3 1 v xs.length (xs.map (Value.int .i64)) ∧ Below B w w' ∧ Asd g w w' ∧
      (((Err.nil : Err) = .nil ∧ okAt l a most ∧ xs = wordsL (l.drop (a + 4)) (wordN (l.drop a)) ∧ Rd w' B g A n c (a + 4 + 4 * wordN (l.drop a)) .nil) ∨ (xs = [] ∧ ((Err.nil : Err) = .nil → ¬ okAt l a most) ∧ ∃ a' E', rdBad E' ∧ Rd w' B g A n c a' E')) :=
      fun hE' hno ⟨h1, h2, h3, h4⟩ => ⟨_, [], h1, World.ownsRow_nil _ _ _ _, h3, h4, .inr ⟨rfl, fun _ => hno, _, _, hE', h2⟩⟩
    by_cases h1 : a + 4 ≤ n
    · by_cases h2 : wordN (l.drop a) ≤ most
      · by_cases h3 : a + 4 + 4 * wordN (l.drop a) ≤ n
        · refine (List_okR g B A n c a most l w hR h3 h2 hn hnc hc9 hl hb hB).mono fun e w' ⟨v, k1, k2, k3, k4, k5⟩ => ?_
          refine ⟨v, _, k1, ?_, k4, k5, .inl ⟨rfl, ⟨by omega, h2, by omega⟩, rfl, k3⟩⟩
          rw [wordsL_len]
          exact k2
        · exact (List_cut g B A n c a most l w hR h1 h2 (by omega) hn hnc hc9 hl hb hB).mono fun e w' h => hbad ⟨_, _, .inl rfl⟩ (fun k => by have := k.2.2; omega) h
      · exact (List_large g B A n c a most l w hR h1 (by omega) hn hnc hc9 hl hb hB).mono fun e w' h => hbad ⟨_, _, .inr rfl⟩ (fun k => h2 k.2.1) h
    · exact (List_short g B A n c a most w hR (by omega) hn).mono fun e w' h => hbad ⟨_, _, .inl rfl⟩ (fun k => by have := k.1; omega) h
  · refine (List_err g B A n c a E most w hR hE.ne).mono fun e w' ⟨h1, h2⟩ => ?_
    subst h2
    exact ⟨_, [], h1, World.ownsRow_nil _ _ _ _, Below.refl _ _, Asd.of (Below.refl _ _), .inr ⟨rfl, fun e => absurd e hE.ne, _, _, hE, hR⟩⟩
end Go.Proofs.YtddedghnnkcnhaaGreatDoor
/-
  Lists in bytes, plainly: there and back.
-/
namespace Go.Proofs.YtddedghnnkcnhaaGreatDoor
open Go.RowKit
set_option linter.unusedVariables false

/-- A list at a place of bytes, and the place behind it. -/
def lst (l : List Int) (a : Nat) : List Int := wordsL (l.drop (a + 4)) (wordN (l.drop a))
def nxtA (l : List Int) (a : Nat) : Nat := a + 4 + 4 * wordN (l.drop a)
theorem words_take {l : List Int} (hb : Bys l) : ∀ j, 4 * j ≤ l.length → ((wordsL l j).flatMap fun x => wordL x.toNat) = l.take (4 * j)
  | 0, _ => by simp [wordsL]
  | j + 1, h => by
    rw [wordsL, List.flatMap_append, words_take hb j (by omega)]
    have e : ([((wordN (l.drop (4 * j)) : Nat) : Int)].flatMap fun x => wordL x.toNat) = (l.drop (4 * j)).take 4 := by
      rw [← wordL_of (hb.drop _) (by rw [List.length_drop]; omega)]
      simp
    rw [e, show 4 * (j + 1) = 4 * j + 4 by omega, List.take_add]
theorem enc_lst {l : List Int} (hb : Bys l) {a m : Nat} (h : okAt l a m) : l.take (nxtA l a) = l.take a ++ encW (lst l a) := by
  obtain ⟨h1, h2, h3⟩ := h
  unfold nxtA encW lst
  have hl : (wordsL (l.drop (a + 4)) (wordN (l.drop a))).length = wordN (l.drop a) := wordsL_len _ _
  rw [hl, words_take (hb.drop _) _ (by rw [List.length_drop]; omega), wordL_of (hb.drop a) (by rw [List.length_drop]; omega), Nat.add_assoc, List.take_add, List.take_add, List.drop_drop]
theorem nxtA_le {l : List Int} {a m : Nat} (h : okAt l a m) : nxtA l a ≤ l.length := h.2.2
theorem lst_len {l : List Int} {a m : Nat} (h : okAt l a m) : (lst l a).length ≤ m := by unfold lst; rw [wordsL_len]; exact h.2.1
theorem words_flat {xs : List Int} (hf : ∀ x ∈ xs, fits x) (rest : List Int) : ∀ j, j ≤ xs.length → wordsL ((xs.flatMap fun x => wordL x.toNat) ++ rest) j = xs.take j
  | 0, _ => by simp [wordsL]
  | j + 1, h => by
    have hj : j < xs.length := by omega
    rw [wordsL, words_flat hf rest j (by omega), List.take_succ_eq_append_getElem hj]
    congr 1
    have hx := hf _ (List.getElem_mem hj)
    have e : ((xs.flatMap fun x => wordL x.toNat) ++ rest).drop (4 * j) = wordL xs[j].toNat ++ (((xs.drop (j + 1)).flatMap fun x => wordL x.toNat) ++ rest) := by
      have e1 : xs.flatMap (fun x => wordL x.toNat) = ((xs.take j).flatMap fun x => wordL x.toNat) ++ (wordL xs[j].toNat ++ (xs.drop (j + 1)).flatMap fun x => wordL x.toNat) := by
        conv => lhs; rw [← List.take_append_drop j xs, List.drop_eq_getElem_cons hj]
        rw [List.flatMap_append, List.flatMap_cons]
      have e2 : ((xs.take j).flatMap fun x => wordL x.toNat).length = 4 * j := by rw [encF_len, List.length_take]; omega
      rw [e1, List.append_assoc, ← e2, List.drop_left, List.append_assoc]
    rw [e, wordN_of (by have := hx.1; have := hx.2; omega)]
    have := hx.1
    congr 1
    omega
theorem lst_enc {xs : List Int} (hf : ∀ x ∈ xs, fits x) (hn : xs.length < 4294967296) (pre rest : List Int) {l : List Int} (hl : l = pre ++ (encW xs ++ rest)) : wordN (l.drop pre.length) = xs.length ∧ lst l pre.length = xs ∧ nxtA l pre.length = (pre ++ encW xs).length := by
  have e1 : l.drop pre.length = wordL xs.length ++ ((xs.flatMap fun x => wordL x.toNat) ++ rest) := by rw [hl, List.drop_left, encW, List.append_assoc]
  have e2 : wordN (l.drop pre.length) = xs.length := by rw [e1, wordN_of hn]
  have e3 : l.drop (pre.length + 4) = (xs.flatMap fun x => wordL x.toNat) ++ rest := by
    rw [← List.drop_drop, e1]
    exact List.drop_left (l₁ := wordL xs.length)
  refine ⟨e2, ?_, ?_⟩
  · unfold lst
    rw [e2, e3, words_flat hf rest _ (Nat.le_refl _), List.take_of_length_le (Nat.le_refl _)]
  · unfold nxtA
    rw [e2, List.length_append, encW_len]
    omega
theorem ok_enc {xs : List Int} (hf : ∀ x ∈ xs, fits x) {m : Nat} (hm : xs.length ≤ m) (h32 : m < 4294967296) (pre rest : List Int) {l : List Int} (hl : l = pre ++ (encW xs ++ rest)) : okAt l pre.length m := by
  obtain ⟨h1, _, _⟩ := lst_enc hf (by omega) pre rest hl
  have h2 : l.length = pre.length + (4 + 4 * xs.length + rest.length) := by rw [hl, List.length_append, List.length_append, encW_len]
  unfold okAt
  omega
end Go.Proofs.YtddedghnnkcnhaaGreatDoor
/-
  A pattern's bytes plainly: there and back.
-/
namespace Go.Proofs.YtddedghnnkcnhaaGreatDoor
open Go.RowKit
set_option linter.unusedVariables false

/-- Numbers by twos. -/
def pairsL : List Int → List (Int × Int)
  | a :: b :: r => (a, b) :: pairsL r
  | _ => []
theorem ends_pairs : ∀ (l : List Int), l.length % 2 = 0 → endsL (pairsL l) = l
  | [], _ => rfl
  | [_], h => by simp at h
  | a :: b :: r, h => by
    have e : endsL (pairsL (a :: b :: r)) = a :: b :: endsL (pairsL r) := rfl
    rw [e, ends_pairs r (by simp only [List.length_cons] at h; omega)]
theorem pairs_ends : ∀ (E : List (Int × Int)), pairsL (endsL E) = E
  | [] => rfl
  | e :: E => by
    have h : endsL (e :: E) = e.1 :: e.2 :: endsL E := rfl
    rw [h, pairsL, pairs_ends E]
theorem pairs_len : ∀ (l : List Int), (pairsL l).length = l.length / 2
  | [] => rfl
  | [_] => by simp [pairsL]
  | a :: b :: r => by
    rw [pairsL, List.length_cons, pairs_len r, List.length_cons, List.length_cons]
    omega
/-- What has been read is the bytes. -/
theorem bytesP_read {l : List Int} (hb : Bys l) {m : Nat} (h1 : okAt l 0 m) (h2 : okAt l (nxtA l 0) m) (he : nxtA l (nxtA l 0) = l.length) (hev : (lst l (nxtA l 0)).length % 2 = 0) : bytesP (lst l 0) (pairsL (lst l (nxtA l 0))) = l := by
  have e1 := enc_lst hb h1
  have e2 := enc_lst hb h2
  rw [he, List.take_of_length_le (Nat.le_refl _), e1, List.take_zero, List.nil_append] at e2
  unfold bytesP
  rw [ends_pairs _ hev]
  exact e2.symm
/-- The bytes of a pattern are read as it. -/
theorem bytesP_back {L : List Int} {E : List (Int × Int)} {l : List Int} (hl : l = bytesP L E) (hL : ∀ x ∈ L, fits x) (hE : ∀ e ∈ E, fits e.1 ∧ fits e.2) (hn : L.length ≤ 100000) (hm : E.length ≤ 100000) :
    okAt l 0 l.length ∧ lst l 0 = L ∧ okAt l (nxtA l 0) l.length ∧ lst l (nxtA l 0) = endsL E ∧ nxtA l (nxtA l 0) = l.length := by
  have hef : ∀ z ∈ endsL E, fits z := fun z hz => by
    obtain ⟨e, he, h⟩ := List.mem_flatMap.1 hz
    rcases List.mem_cons.1 h with rfl | h
    · exact (hE e he).1
    · rw [List.mem_singleton.1 h]
      exact (hE e he).2
  have hel : (endsL E).length = 2 * E.length := endsL_len E
  have hlen : l.length = (4 + 4 * L.length) + (4 + 4 * (2 * E.length)) := by rw [hl, bytesP, List.length_append, encW_len, encW_len, hel]
  have r1 : l = [] ++ (encW L ++ encW (endsL E)) := by rw [hl, List.nil_append]; rfl
  have r2 : l = encW L ++ (encW (endsL E) ++ []) := by rw [hl, List.append_nil]; rfl
  obtain ⟨a1, a2, a3⟩ := lst_enc hL (by omega) [] _ r1
  have o1 := ok_enc hL (m := l.length) (by omega) (by omega) [] _ r1
  rw [List.nil_append] at a3
  have b0 : nxtA l 0 = (encW L).length := a3
  obtain ⟨b1, b2, b3⟩ := lst_enc hef (by omega) (encW L) _ r2
  have o2 := ok_enc hef (m := l.length) (by omega) (by omega) (encW L) _ r2
  rw [← b0] at b2 b3 o2
  exact ⟨o1, a2, o2, b2, by rw [b3, List.length_append, encW_len, encW_len, hel, hlen]⟩
end Go.Proofs.YtddedghnnkcnhaaGreatDoor
/-
  The document's labels, out, less of patterns.
-/
namespace Go.Proofs.YtddedghnnkcnhaaGreatDoor
open Go.RowKit
set_option maxRecDepth 100000
set_option linter.unusedVariables false

set_option maxHeartbeats 4000000 in
theorem RefLabels_any (L : List Int) (A : Option Addr) (n c : Nat) (w : World) (hl : L.length = n) (hs : Sl w 1 A n (L.map (Value.int .i64))) :
    Calls Tryz.prog 79 #[.slice A n c] w fun e w' => ∃ (cc at_ : Int), e = .returned (.tuple #[.int .i64 cc, .int .i64 at_]) ∧ w = w' ∧ ((labOK L ∧ cc = 0) ∨ (¬ labOK L ∧ (cc = 3 ∨ cc = 6))) := by
  have HS := Lib.hid hs
  have HL := Lib.hid hl
  clear hs hl
  go_enter Tryz.func79, Tryz.ntmps79
  by_cases h8 : 8 < n
  · have h8' : (8 : Int) < (n : Int) := by omega
    go_wp2_with fail
    go_ret2
    exact ⟨_, _, rfl, rfl, .inr ⟨fun h => by have := h.1; rw [HL.out] at this; omega, .inr rfl⟩⟩
  · have h8' : ¬ (8 : Int) < (n : Int) := by omega
    go_wp2_with fail
    go_loop [4] (fun i => ∃ k : Nat, k ≤ n ∧ i = .int .i64 k ∧ Hid (∀ x ∈ L.take k, 0 ≤ x ∧ x ≤ 255)) (fun i => n - (intOf i).toNat)
    case atStart => exact ⟨0, Nat.zero_le _, rfl, Lib.hid fun x hx => by cases hx⟩
    case round =>
      obtain ⟨k, hk, rfl, HD⟩ := hrel
      by_cases hlt : k < n
      · have hlt' : (k : Int) < (n : Int) := by omega
        have hk0 : (0 : Int) ≤ (k : Int) := by omega
        obtain ⟨x, hx⟩ : ∃ x, L[k]? = some x := ⟨_, List.getElem?_eq_getElem (by rw [HL.out]; exact hlt)⟩
        obtain ⟨b1, off1, rfl, _⟩ := HS.out.at_ (show 0 < n by omega)
        have c1 := HS.out.again hlt (show (L.map (Value.int .i64))[k]? = some (.int .i64 x) by rw [List.getElem?_map, hx]; rfl)
        have HX := Lib.hid hx
        clear hx
        by_cases h0 : x < 0
        · go_wp2_with fail
          go_ret2
          exact ⟨3, ⟨_, rfl⟩, rfl, .inr ⟨fun h => by have := h.2 x (List.mem_of_getElem? HX.out); omega, .inl rfl⟩⟩
        · by_cases h1 : 255 < x
          · go_wp2_with fail
            go_ret2
            exact ⟨3, ⟨_, rfl⟩, rfl, .inr ⟨fun h => by have := h.2 x (List.mem_of_getElem? HX.out); omega, .inl rfl⟩⟩
          · have HN := Lib.hid (show ∀ y ∈ L.take (k + 1), 0 ≤ y ∧ y ≤ 255 from fun y hy => by
              obtain ⟨h3, h4⟩ := List.getElem?_eq_some_iff.1 HX.out
              rw [List.take_succ_eq_append_getElem h3, h4] at hy
              rcases List.mem_append.1 hy with h | h
              · exact HD.out y h
              · obtain rfl := List.mem_singleton.1 h
                omega)
            go_wp2_with fail
            go_round
            case rel => exact ⟨k + 1, by omega, by go_num, HN⟩
            case measure => simp [intOf]; omega
      · obtain rfl : k = n := by omega
        have hlt' : ¬ (k : Int) < (k : Int) := by omega
        rw [List.take_of_length_le (by rw [HL.out]; exact Nat.le_refl _)] at HD
        go_wp2_with fail
        go_ret2
        exact ⟨0, ⟨_, rfl⟩, rfl, .inl ⟨⟨by rw [HL.out]; omega, HD.out⟩, rfl⟩⟩
/-- The document's out: a vertex that there isn't. -/
def outP (x y n : Int) : Prop := x < 0 ∨ y < 0 ∨ n ≤ x ∨ n ≤ y
instance (x y n : Int) : Decidable (outP x y n) := by unfold outP; exact inferInstance
set_option maxHeartbeats 4000000 in
theorem RefOut_any (x y n : Int) (w : World) : Calls Tryz.prog 80 #[.agg #[.int .i64 x, .int .i64 y], .int .i64 n] w fun e w' => e = .returned (.bool (decide (outP x y n))) ∧ Below w.heap.size w w' := by
  have hb := bel_al (Below.refl w.heap.size w) (.cells #[.int .i64 x, .int .i64 y] 66)
  have HB := Lib.hid hb
  clear hb
  by_cases h1 : x < 0
  · rw [decide_eq_true (show outP x y n from .inl h1)]
    go_enter Tryz.func80, Tryz.ntmps80
    go_wp2_with fail
    go_ret
    exact ⟨rfl, HB.out⟩
  · by_cases h2 : y < 0
    · rw [decide_eq_true (show outP x y n from .inr (.inl h2))]
      go_enter Tryz.func80, Tryz.ntmps80
      go_wp2_with fail
      go_ret
      exact ⟨rfl, HB.out⟩
    · by_cases h3 : n ≤ x
      · rw [decide_eq_true (show outP x y n from .inr (.inr (.inl h3)))]
        go_enter Tryz.func80, Tryz.ntmps80
        go_wp2_with fail
        go_ret
        exact ⟨rfl, HB.out⟩
      · by_cases h4 : n ≤ y
        · rw [decide_eq_true (show outP x y n from .inr (.inr (.inr h4)))]
          go_enter Tryz.func80, Tryz.ntmps80
          go_wp2_with fail
          go_ret
          exact ⟨rfl, HB.out⟩
        · rw [decide_eq_false (show ¬ outP x y n from fun h => by unfold outP at h; omega)]
          go_enter Tryz.func80, Tryz.ntmps80
          go_wp2_with fail
          go_ret
          exact ⟨rfl, HB.out⟩
/-- The document's less. -/
def lessP (x y x' y' : Int) : Prop := x < x' ∨ (x = x' ∧ y < y')
instance (x y x' y' : Int) : Decidable (lessP x y x' y') := by unfold lessP; exact inferInstance
set_option maxHeartbeats 4000000 in
theorem RefLess_any (x y x' y' : Int) (w : World) : Calls Tryz.prog 81 #[.agg #[.int .i64 x, .int .i64 y], .agg #[.int .i64 x', .int .i64 y']] w fun e w' => e = .returned (.bool (decide (lessP x y x' y'))) ∧ Below w.heap.size w w' := by
  have hb := bel_al (bel_al (Below.refl w.heap.size w) (.cells #[.int .i64 x, .int .i64 y] 66)) (.cells #[.int .i64 x', .int .i64 y'] 66)
  have HB := Lib.hid hb
  clear hb
  by_cases h1 : x < x'
  · rw [decide_eq_true (show lessP x y x' y' from .inl h1)]
    go_enter Tryz.func81, Tryz.ntmps81
    go_wp2_with fail
    go_ret
    exact ⟨rfl, HB.out⟩
  · by_cases h2 : x = x'
    · subst h2
      by_cases h3 : y < y'
      · rw [decide_eq_true (show lessP x y x y' from .inr ⟨rfl, h3⟩)]
        go_enter Tryz.func81, Tryz.ntmps81
        go_wp2_with fail
        go_ret
        exact ⟨rfl, HB.out⟩
      · rw [decide_eq_false (show ¬ lessP x y x y' from fun h => by unfold lessP at h; omega)]
        go_enter Tryz.func81, Tryz.ntmps81
        go_wp2_with fail
        go_ret
        exact ⟨rfl, HB.out⟩
    · have h2' : (x == x') = false := by simp [h2]
      rw [decide_eq_false (show ¬ lessP x y x' y' from fun h => by unfold lessP at h; omega)]
      go_enter Tryz.func81, Tryz.ntmps81
      go_wp2_with fail
      go_ret
      exact ⟨rfl, HB.out⟩
end Go.Proofs.YtddedghnnkcnhaaGreatDoor
/-
  Patterns plainly: the document's tests of an edge and the program's.
-/
namespace Go.Proofs.YtddedghnnkcnhaaGreatDoor
open Go.RowKit
set_option linter.unusedVariables false

theorem ordE_less (a b c d : Int) : Pt.ordE (a, b) (c, d) < 0 ↔ lessP a b c d := by
  unfold Pt.ordE Pt.or2 Pt.cmpI lessP
  simp only
  by_cases h1 : a < c
  · simp [h1]
  · by_cases h2 : c < a
    · simp [h1, h2]
      omega
    · have h3 : a = c := by omega
      by_cases h4 : b < d
      · simp [h1, h2, h3, h4]
      · by_cases h5 : d < b
        · simp [h1, h2, h3, h4, h5]
        · simp [h1, h2, h3, h4, h5]
theorem edge_out (n : Nat) (x y : Int) : Pt.EdgeOK n (x, y) ↔ ¬ outP x y n ∧ x < y := by
  unfold Pt.EdgeOK outP
  simp only
  omega
end Go.Proofs.YtddedghnnkcnhaaGreatDoor
