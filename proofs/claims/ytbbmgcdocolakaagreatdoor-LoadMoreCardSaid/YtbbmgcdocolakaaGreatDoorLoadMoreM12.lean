/-
  Part 12 of the proof of LoadMore: RdL, EncL, PatY, PatV, PatQ, BitQ, ConC, ErrIn, RdE.
-/
import Derived.Test.YtbbmgcdocolakaaGreatDoorLoadMoreM11
import Derived.Test.YtbbmgcdocolakaaGreatDoorLoadMoreM2
import Derived.BigQuiet
import Derived.Test.YtbbmgcdocolakaaGreatDoorLoadMoreM3
import Derived.Test.YtbbmgcdocolakaaGreatDoorLoadMoreM10
import Derived.Deep.RegionHeld3
import Derived.Test.YtbbmgcdocolakaaGreatDoorLoadMoreM9
import Derived.WalkKit
import Derived.Lib.Hide
import Derived.Test.YtbbmgcdocolakaaGreatDoorLoadMoreM7
import Derived.Test.YtbbmgcdocolakaaGreatDoorLoadMoreM6
set_option linter.unusedVariables false
/-
  Contracts of wire.Reader: List, of any length, and where it fails.
-/
namespace Go.Proofs.YtbbmgcdocolakaaGreatDoor
open Go.RowKit
set_option maxRecDepth 100000
set_option linter.unusedVariables false

set_option maxHeartbeats 4000000 in
theorem take_shortA (g B : Nat) (A : Option Addr) (n c a m : Nat) (from_ : Nat) (w : World) (hR : Rd w B g A n c a .nil) (hm : n < a + m) (hn : n ≤ 1099511627776) (hm2 : m ≤ 1099511627776) (hfr : from_ ≤ n) :
    Calls Tryz.prog 95 #[.pointer (some ⟨g, 0, none⟩), .int .i64 m, .int .i64 from_] w fun e w' => e = .returned (.slice none 0 0) ∧ Rd w' B g A n c from_ (.flt 9 from_ txtBytes) ∧ Below B w w' ∧ Asd g w w' := by
  obtain ⟨hBg, hf, han, ev, hb, he⟩ := hR
  obtain rfl : ev = .nilIface := he
  have hc0 := hb.cell 0
  have hc1 := hb.cell 1
  have hc2 := hb.cell 2
  simp at hc0 hc1 hc2
  have HBk := Lib.hid hb
  have hBw : B ≤ w.heap.size := Nat.le_trans hBg (Nat.le_of_lt hb.lt)
  clear hb
  have hd : decide ((n : Int) - (a : Int) < (m : Int)) = true := decide_eq_true (by omega)
  go_enter Tryz.func95, Tryz.ntmps95
  go_wp2_with fail
  go_quiet (fail)
  obtain ⟨w1, hw1⟩ : ∃ w1, w1 = w.drewN nq := ⟨_, rfl⟩
  rw [← hw1]
  have hbw := drew_bel ⟨nq, hw1⟩
  have HBk1 := Lib.hid (HBk.out.keep hbw)
  have HBw := Lib.hid hbw
  clear hw1 hbw hc0 hc1 hc2
  go_wp2_with fail
  refine (New_err 9 from_ txtBytes w1).mono ?_
  rintro e w2 ⟨v, rfl, ⟨gv, rfl, hv⟩, hb2⟩
  have hbk2 := HBk1.out.keep hb2
  have hd1 := hbk2.cell 1
  have hd2 := hbk2.cell 2
  have hf1 := hbk2.frozen 1
  have hf2 := hbk2.frozen 2
  simp at hd1 hd2
  have hgne : gv ≠ g := fun e => by
    subst e
    unfold Blk at hv hbk2
    rw [hv] at hbk2
    injection hbk2 with hbk2
    injection hbk2 with _ h3
    exact absurd h3 (by decide)
  have HT := Lib.hid (show Rd ((w2.setCell ⟨g, 1, none⟩ (.int .i64 from_)).setCell ⟨g, 2, none⟩ (.iface 78 (.pointer (some ⟨gv, 0, none⟩)))) B g A n c from_ (.flt 9 from_ txtBytes) by
    refine ⟨hBg, trivial, hfr, _, ?_, ⟨gv, rfl, ?_⟩⟩
    · have := (hbk2.set_ 1 (.int .i64 from_)).set_ 2 (.iface 78 (.pointer (some ⟨gv, 0, none⟩)))
      simpa using this
    · exact ((hv.far (p := ⟨g, 1, none⟩) hgne _).far (p := ⟨g, 2, none⟩) hgne _))
  have HB2 := Lib.hid (HBw.out.andThen hb2)
  clear hv hbk2 hgne hb2
  go_wp2_with fail
  go_ret
  exact ⟨rfl, HT.out, ((HB2.out.mono hBw).setCell (p := ⟨g, 1, none⟩) hBg _).setCell (p := ⟨g, 2, none⟩) hBg _, ((Asd.of HB2.out).setCell 1 _).setCell 2 _⟩

set_option maxHeartbeats 8000000 in
theorem List_okR (g B : Nat) (A : Option Addr) (n c a most : Nat) (l : List Int) (w : World) (hR : Rd w B g A n c a .nil) (hm : a + 4 + 4 * wordN (l.drop a) ≤ n) (h60 : wordN (l.drop a) ≤ most) (hn : n ≤ 1099511627776) (hnc : n ≤ c) (hc9 : c ≤ 9223372036854775807) (hl : l.length = n) (hb : Bys l) (hB : ∀ w', Below B w w' → Sl w' 1 A n (l.map (Value.int .u8))) :
    Calls Tryz.prog 71 #[.pointer (some ⟨g, 0, none⟩), .int .i64 (most : Int)] w fun e w' => ∃ v, e = .returned v ∧ w'.ownsRow w.heap.size 3 1 v (wordN (l.drop a)) ((wordsL (l.drop (a + 4)) (wordN (l.drop a))).map (Value.int .i64)) ∧ Rd w' B g A n c (a + 4 + 4 * wordN (l.drop a)) .nil ∧ Below B w w' ∧ Asd g w w' := by
  obtain ⟨hc0, hc1⟩ := rd_cells hR
  have HT := Lib.hid (num_ok g B A n c a a l w hR (by omega) hn hnc hc9 hl hb hB)
  have HSB := Lib.hid hB
  have HBy := Lib.hid hb
  clear hR hB hb
  generalize hN : wordN (l.drop a) = N at *
  clear hN
  have hmx : max (most : Int) 0 = (most : Int) := by omega
  have hmx2 : ¬ (most : Int) < 0 := by omega
  have hmx3 : (if (most : Int) < 0 then (0 : Int) else (most : Int)) = (most : Int) := if_neg hmx2
  have hmx4 : (if (0 : Int) < (most : Int) then (most : Int) else (0 : Int)) = (most : Int) := by split <;> omega
  have hmx5 : ¬ (most : Int) < (N : Int) := by omega
  go_enter Tryz.func71, Tryz.ntmps71
  go_wp2_with fail
  refine HT.out.mono ?_
  rintro e w1 ⟨rfl, hR1, hb1, ha1⟩
  have HR1 := Lib.hid hR1
  have HB1 := Lib.hid hb1
  have HD1 := Lib.hid ha1
  obtain ⟨_, _, _, ev, hbk, he⟩ := hR1
  obtain rfl : ev = .nilIface := he
  have hc2 := hbk.cell 2
  simp at hc2
  clear hb1 ha1 HT hbk
  rcases Nat.eq_zero_or_pos N with h0 | h0
  · subst h0
    go_wp2_with fail
    go_ret
    exact ⟨_, rfl, World.ownsRow_nil _ _ _ _, HR1.out, HB1.out, HD1.out⟩
  · have hNz : ((N : Int) == 0) = false := by simp; omega
    have HZ := Lib.hid (take_ok g B A n c (a + 4) (4 * N) a l w1 HR1.out (by omega) (by omega) hn hnc hc9 (HSB.out w1 HB1.out) (fun W hW => HSB.out W (HB1.out.trans hW)))
    have h4N : ((4 * N : Nat) : Int) = 4 * (N : Int) := by omega
    rw [h4N] at HZ
    go_wp2_with fail
    refine HZ.out.mono ?_
    rintro e w2 ⟨C, k, rfl, hk, hs2, hR2, hb2, ha2⟩
    have hS := hs2 w2 hb2
    obtain ⟨b, off, hA, _⟩ := hS.2 (by omega)
    cases hA
    have HS := Lib.hid hS
    have HR2 := Lib.hid hR2
    have HB2 := Lib.hid (HB1.out.trans hb2)
    have HD2 := Lib.hid (HD1.out.trans ha2)
    have HBL := Lib.hid (((HBy.out.drop (a + 4)).take (4 * N)))
    have HLen := Lib.hid (show ((l.drop (a + 4)).take (4 * N)).length = 4 * N by rw [List.length_take, List.length_drop]; omega)
    have HWd := Lib.hid (fun j (hj : j < N) => (show wordN ((((l.drop (a + 4)).take (4 * N)).drop (4 * j))) = wordN ((l.drop (a + 4)).drop (4 * j)) by
      have hlen : (l.drop (a + 4)).length = n - (a + 4) := by rw [List.length_drop, hl]
      rw [List.drop_take]
      rw [← wordN_take (l := List.take (4 * N - 4 * j) _) (by rw [List.length_take, List.length_drop, hlen]; omega), List.take_take, Nat.min_eq_left (by omega), wordN_take (by rw [List.length_drop, hlen]; omega)]))
    have hBw2 : B ≤ w2.heap.size := Nat.le_trans HR2.out.1 (Nat.le_of_lt (by obtain ⟨_, _, _, _, h, _⟩ := HR2.out; exact h.lt))
    clear hs2 hR2 hb2 ha2 HZ hS hc0 hc1 hc2
    generalize (l.drop (a + 4)).take (4 * N) = bl at *
    generalize hrl : l.drop (a + 4) = rl at *
    have HRL := Lib.hid hrl
    clear hrl
    go_wp2_with fail
    go_loopw [7, 8] (fun bv lv wr => ∃ (j o k : Nat), j ≤ N ∧ bv = .slice (some ⟨b, o, none⟩) (4 * (N - j)) k ∧ (j < N → o = off + 4 * j) ∧ (4 * (N - j) ≤ k ∧ k ≤ 9223372036854775807) ∧ wr.ownsRow w2.heap.size 3 1 lv j ((wordsL rl j).map (Value.int .i64)) ∧ Below w2.heap.size w2 wr) (fun bv _ _ => lenV bv)
    case atStart => exact ⟨0, off, k, Nat.zero_le _, by rw [Nat.sub_zero], fun _ => rfl, by rw [Nat.sub_zero]; exact hk, World.ownsRow_nil _ _ _ _, Below.refl _ _⟩
    case round =>
      obtain ⟨j, o, k', hj, rfl, ho, hk', hown, hb⟩ := hrel
      have HO := Lib.hid hown
      have HBr := Lib.hid hb
      by_cases hlt : j < N
      · obtain rfl := ho hlt
        have hlw := wordN_lt (HBL.out.drop (4 * j))
        have HA := Lib.hid (wordAt_any (bl.drop (4 * j)) (some ⟨b, off + 4 * j, none⟩) (4 * (N - j)) k' wr (by rw [List.length_drop, HLen.out]; omega) (by omega) (HBL.out.drop _) (by
          have h1 := (HS.out.keep hb).drop (k := 4 * j) (by omega)
          rw [← List.map_drop, show 4 * N - 4 * j = 4 * (N - j) by omega] at h1
          exact h1))
        rw [HWd.out j hlt] at HA hlw
        have HWS := Lib.hid (show wordsL rl (j + 1) = wordsL rl j ++ [(wordN (rl.drop (4 * j)) : Int)] from rfl)
        generalize wordN (rl.drop (4 * j)) = Wj at *
        have hpos : (0 : Int) < ((4 * (N - j) : Nat) : Int) := by omega
        have hge4 : (4 : Int) ≤ ((4 * (N - j) : Nat) : Int) := by omega
        have hsub : 4 * (N - j) - 4 = 4 * (N - (j + 1)) := by omega
        generalize hm : 4 * (N - j) = mm at *
        have HM := Lib.hid hm
        clear hown hb hm
        by_cases hk4 : k' = 4
        · subst hk4
          go_wp2_with fail
          refine HA.out.mono ?_
          rintro e w3 ⟨rfl, hq⟩
          have HB3 := Lib.hid (HBr.out.andThen (drew_bel hq))
          have HO3 := Lib.hid (own_below HO.out (fun g hg => (HO.out.lt g hg).2) (drew_bel hq))
          clear hq HA
          go_wp2_with (at_builtin; refine wpList_push elemInt (w0 := w2) _ _ rfl rfl HO3.out HB3.out (Nat.le_refl _) rfl rfl rfl (by simp [Value.oneCell']) (by unfold lim; omega) (by unfold lim; omega) ?_; intro v4 w4 hown4 hb4; have HO4 := Lib.hid hown4; clear hown4)
          go_roundw
          case rel =>
            refine ⟨j + 1, _, _, by omega, rfl, fun h => by omega, by omega, ?_, hb4⟩
            rw [HWS.out, List.map_append]; exact HO4.out
          case measure => simp [lenV]; omega
        · go_wp2_with fail
          refine HA.out.mono ?_
          rintro e w3 ⟨rfl, hq⟩
          have HB3 := Lib.hid (HBr.out.andThen (drew_bel hq))
          have HO3 := Lib.hid (own_below HO.out (fun g hg => (HO.out.lt g hg).2) (drew_bel hq))
          clear hq HA
          go_wp2_with (at_builtin; refine wpList_push elemInt (w0 := w2) _ _ rfl rfl HO3.out HB3.out (Nat.le_refl _) rfl rfl rfl (by simp [Value.oneCell']) (by unfold lim; omega) (by unfold lim; omega) ?_; intro v4 w4 hown4 hb4; have HO4 := Lib.hid hown4; clear hown4)
          go_roundw
          case rel =>
            refine ⟨j + 1, _, _, by omega, rfl, fun h => by omega, by omega, ?_, hb4⟩
            rw [HWS.out, List.map_append]; exact HO4.out
          case measure => simp [lenV]; omega
      · obtain rfl : j = N := by omega
        obtain ⟨C, kk, rfl, hsl⟩ := Sl.own hown
        have HX := Lib.hid hsl
        have HOw := Lib.hid hown
        rw [Nat.sub_self]
        clear hown hsl hb
        go_wp2_with fail
        go_ret
        exact ⟨_, rfl, by rw [HRL.out]; exact own_mono HOw.out HD2.out.1, HR2.out.keep HBr.out, HB2.out.trans (HBr.out.mono hBw2), HD2.out.trans (Asd.of HBr.out)⟩

/-- An error of a reader. -/
def rdBad (E : Err) : Prop := ∃ (a : Int) (s : ByteArray), s.size ≤ 100 ∧ (E = .flt 9 a s ∨ E = .flt 6 a s)
theorem rdBad.ne {E : Err} (h : rdBad E) : E ≠ .nil := by
  obtain ⟨a, s, _, rfl | rfl⟩ := h <;> exact fun e => by cases e
/-- Is there a list at a place, of at most so many numbers? -/
def okAt (l : List Int) (a most : Nat) : Prop := a + 4 ≤ l.length ∧ wordN (l.drop a) ≤ most ∧ a + 4 + 4 * wordN (l.drop a) ≤ l.length
set_option maxHeartbeats 2000000 in
theorem num_short (g B : Nat) (A : Option Addr) (n c a from_ : Nat) (w : World) (hR : Rd w B g A n c a .nil) (hm : n < a + 4) (hn : n ≤ 1099511627776) (hfr : from_ ≤ n) :
    Calls Tryz.prog 94 #[.pointer (some ⟨g, 0, none⟩), .int .i64 (from_ : Int)] w fun e w' => e = .returned (.int .i64 0) ∧ Rd w' B g A n c from_ (.flt 9 from_ txtBytes) ∧ Below B w w' ∧ Asd g w w' := by
  have HT := Lib.hid (take_shortA g B A n c a 4 from_ w hR hm hn (by omega) hfr)
  have nn := fun w => nilEq w none 0 0
  clear hR
  go_enter Tryz.func94, Tryz.ntmps94
  go_wp2_with fail
  refine HT.out.mono ?_
  rintro e w1 ⟨rfl, h1, h2, h3⟩
  have H1 := Lib.hid h1
  have H2 := Lib.hid h2
  have H3 := Lib.hid h3
  clear h1 h2 h3 HT
  go_wp2_with fail
  go_ret
  exact ⟨rfl, H1.out, H2.out, H3.out⟩
set_option maxHeartbeats 8000000 in
theorem List_short (g B : Nat) (A : Option Addr) (n c a : Nat) (most : Int) (w : World) (hR : Rd w B g A n c a .nil) (hm : n < a + 4) (hn : n ≤ 1099511627776) :
    Calls Tryz.prog 71 #[.pointer (some ⟨g, 0, none⟩), .int .i64 most] w fun e w' => e = .returned (.slice none 0 0) ∧ Rd w' B g A n c a (.flt 9 a txtBytes) ∧ Below B w w' ∧ Asd g w w' := by
  obtain ⟨hc0, hc1⟩ := rd_cells hR
  have HT := Lib.hid (num_short g B A n c a a w hR hm hn hR.2.2.1)
  clear hR
  go_enter Tryz.func71, Tryz.ntmps71
  go_wp2_with fail
  refine HT.out.mono ?_
  rintro e w1 ⟨rfl, h1, h2, h3⟩
  have H1 := Lib.hid h1
  have H2 := Lib.hid h2
  have H3 := Lib.hid h3
  obtain ⟨_, _, _, ev, hb, gv, rfl, hv⟩ := h1
  have hc2 := hb.cell 2
  simp at hc2
  clear h2 h3 hb hv hc0 hc1 HT
  go_wp2_with fail
  go_ret
  exact ⟨rfl, H1.out, H2.out, H3.out⟩

set_option maxHeartbeats 8000000 in
theorem List_large (g B : Nat) (A : Option Addr) (n c a most : Nat) (l : List Int) (w : World) (hR : Rd w B g A n c a .nil) (hm : a + 4 ≤ n) (h60 : most < wordN (l.drop a)) (hn : n ≤ 1099511627776) (hnc : n ≤ c) (hc9 : c ≤ 9223372036854775807) (hl : l.length = n) (hb : Bys l) (hB : ∀ w', Below B w w' → Sl w' 1 A n (l.map (Value.int .u8))) :
    Calls Tryz.prog 71 #[.pointer (some ⟨g, 0, none⟩), .int .i64 (most : Int)] w fun e w' => e = .returned (.slice none 0 0) ∧ Rd w' B g A n c a (.flt 6 a txtList) ∧ Below B w w' ∧ Asd g w w' := by
  obtain ⟨hc0, hc1⟩ := rd_cells hR
  have han := hR.2.2.1
  have HT := Lib.hid (num_ok g B A n c a a l w hR hm hn hnc hc9 hl hb hB)
  have hmx : max (most : Int) 0 = (most : Int) := by omega
  have hmx2 : ¬ (most : Int) < 0 := by omega
  have hmx3 : (if (most : Int) < 0 then (0 : Int) else (most : Int)) = (most : Int) := if_neg hmx2
  have hmx4 : (if (0 : Int) < (most : Int) then (most : Int) else (0 : Int)) = (most : Int) := by split <;> omega
  have hlt := wordN_lt (hb.drop a)
  clear hR hB hb
  generalize wordN (l.drop a) = N at *
  have hmx5 : (most : Int) < (N : Int) := by omega
  go_enter Tryz.func71, Tryz.ntmps71
  go_wp2_with fail
  refine HT.out.mono ?_
  rintro e w1 ⟨rfl, hR1, hb1, ha1⟩
  have HB1 := Lib.hid hb1
  have HD1 := Lib.hid ha1
  obtain ⟨hBg, hf, _, ev, hbk, he⟩ := hR1
  obtain rfl : ev = .nilIface := he
  have HBk1 := Lib.hid hbk
  have hc2 := hbk.cell 2
  simp at hc2
  have hBw : B ≤ w1.heap.size := Nat.le_trans hBg (Nat.le_of_lt hbk.lt)
  clear hb1 ha1 HT hbk hc0 hc1
  go_wp2_with fail
  refine (New_err 6 a txtList w1).mono ?_
  rintro e w2 ⟨v, rfl, ⟨gv, rfl, hv⟩, hb2⟩
  have hbk2 := HBk1.out.keep hb2
  have hd1 := hbk2.cell 1
  have hd2 := hbk2.cell 2
  have hf1 := hbk2.frozen 1
  have hf2 := hbk2.frozen 2
  simp at hd1 hd2
  have hgne : gv ≠ g := fun e => by
    subst e
    unfold Blk at hv hbk2
    rw [hv] at hbk2
    injection hbk2 with hbk2
    injection hbk2 with _ h3
    exact absurd h3 (by decide)
  have hF := (hbk2.set_ 1 (.int .i64 a)).set_ 2 (.iface 78 (.pointer (some ⟨gv, 0, none⟩)))
  have hF2 := hF.cell 2
  simp at hF2
  have HT := Lib.hid (show Rd ((w2.setCell ⟨g, 1, none⟩ (.int .i64 a)).setCell ⟨g, 2, none⟩ (.iface 78 (.pointer (some ⟨gv, 0, none⟩)))) B g A n c a (.flt 6 a txtList) by
    refine ⟨hBg, trivial, han, _, ?_, ⟨gv, rfl, ?_⟩⟩
    · simpa using hF
    · exact ((hv.far (p := ⟨g, 1, none⟩) hgne _).far (p := ⟨g, 2, none⟩) hgne _))
  have HB2 := Lib.hid (HB1.out.trans (hb2.mono hBw))
  have HD2 := Lib.hid (HD1.out.trans (Asd.of hb2))
  clear hv hbk2 hgne hb2 hF
  go_wp2_with fail
  go_ret
  exact ⟨rfl, HT.out, (HB2.out.setCell (p := ⟨g, 1, none⟩) hBg _).setCell (p := ⟨g, 2, none⟩) hBg _, (HD2.out.setCell 1 _).setCell 2 _⟩
set_option maxHeartbeats 8000000 in
theorem List_cut (g B : Nat) (A : Option Addr) (n c a most : Nat) (l : List Int) (w : World) (hR : Rd w B g A n c a .nil) (hm : a + 4 ≤ n) (h60 : wordN (l.drop a) ≤ most) (hct : n < a + 4 + 4 * wordN (l.drop a)) (hn : n ≤ 1099511627776) (hnc : n ≤ c) (hc9 : c ≤ 9223372036854775807) (hl : l.length = n) (hb : Bys l) (hB : ∀ w', Below B w w' → Sl w' 1 A n (l.map (Value.int .u8))) :
    Calls Tryz.prog 71 #[.pointer (some ⟨g, 0, none⟩), .int .i64 (most : Int)] w fun e w' => e = .returned (.slice none 0 0) ∧ Rd w' B g A n c a (.flt 9 a txtBytes) ∧ Below B w w' ∧ Asd g w w' := by
  obtain ⟨hc0, hc1⟩ := rd_cells hR
  have han := hR.2.2.1
  have HT := Lib.hid (num_ok g B A n c a a l w hR hm hn hnc hc9 hl hb hB)
  have hmx : max (most : Int) 0 = (most : Int) := by omega
  have hmx2 : ¬ (most : Int) < 0 := by omega
  have hmx3 : (if (most : Int) < 0 then (0 : Int) else (most : Int)) = (most : Int) := if_neg hmx2
  have hmx4 : (if (0 : Int) < (most : Int) then (most : Int) else (0 : Int)) = (most : Int) := by split <;> omega
  have hlt := wordN_lt (hb.drop a)
  clear hR hB hb
  generalize wordN (l.drop a) = N at *
  have hmx5 : ¬ (most : Int) < (N : Int) := by omega
  have hNz : ((N : Int) == 0) = false := by simp; omega
  go_enter Tryz.func71, Tryz.ntmps71
  go_wp2_with fail
  refine HT.out.mono ?_
  rintro e w1 ⟨rfl, hR1, hb1, ha1⟩
  have HB1 := Lib.hid hb1
  have HD1 := Lib.hid ha1
  have HZ := Lib.hid (take_shortA g B A n c (a + 4) (4 * N) a w1 hR1 (by omega) hn (by omega) han)
  have h4N : ((4 * N : Nat) : Int) = 4 * (N : Int) := by omega
  rw [h4N] at HZ
  obtain ⟨hBg, hf, _, ev, hbk, he⟩ := hR1
  obtain rfl : ev = .nilIface := he
  have hc2 := hbk.cell 2
  simp at hc2
  have hBw : B ≤ w1.heap.size := Nat.le_trans hBg (Nat.le_of_lt hbk.lt)
  clear hb1 ha1 HT hbk hc0 hc1
  go_wp2_with fail
  refine HZ.out.mono ?_
  rintro e w2 ⟨rfl, h1, h2, h3⟩
  have H1 := Lib.hid h1
  have H2 := Lib.hid (HB1.out.trans h2)
  have H3 := Lib.hid (HD1.out.trans h3)
  clear h1 h2 h3 HZ hc2
  go_wp2_with fail
  go_loop [7, 8] (fun bv lv => bv = .slice none 0 0 ∧ lv = .slice none 0 0) (fun _ _ => 0)
  case atStart => exact ⟨rfl, rfl⟩
  case round =>
    obtain ⟨rfl, rfl⟩ := hrel
    go_wp2_with fail
    go_ret
    exact ⟨rfl, H1.out, H2.out, H3.out⟩
/-- List, whatever the bytes are. -/
theorem List_rd (g B : Nat) (A : Option Addr) (n c a most : Nat) (E : Err) (l : List Int) (w : World) (hR : Rd w B g A n c a E) (hE : E = .nil ∨ rdBad E) (hn : n ≤ 1099511627776) (hnc : n ≤ c) (hc9 : c ≤ 9223372036854775807) (hl : l.length = n) (hb : Bys l) (hB : ∀ w', Below B w w' → Sl w' 1 A n (l.map (Value.int .u8))) :
    Calls Tryz.prog 71 #[.pointer (some ⟨g, 0, none⟩), .int .i64 (most : Int)] w fun e w' => ∃ v xs, e = .returned v ∧ w'.ownsRow w.heap.size 3 1 v xs.length (xs.map (Value.int .i64)) ∧ Below B w w' ∧ Asd g w w' ∧
      ((E = .nil ∧ okAt l a most ∧ xs = wordsL (l.drop (a + 4)) (wordN (l.drop a)) ∧ Rd w' B g A n c (a + 4 + 4 * wordN (l.drop a)) .nil) ∨ (xs = [] ∧ (E = .nil → ¬ okAt l a most) ∧ ∃ a' E', rdBad E' ∧ Rd w' B g A n c a' E')) := by
  rcases hE with rfl | hE
  · have hbad : ∀ {e : Ending} {w' : World} {a' : Nat} {E' : Err}, rdBad E' → ¬ okAt l a most → e = .returned (.slice none 0 0) ∧ Rd w' B g A n c a' E' ∧ Below B w w' ∧ Asd g w w' → ∃ v xs, e = .returned v ∧ w'.ownsRow w.heap.size 3 1 v xs.length (xs.map (Value.int .i64)) ∧ Below B w w' ∧ Asd g w w' ∧
      (((Err.nil : Err) = .nil ∧ okAt l a most ∧ xs = wordsL (l.drop (a + 4)) (wordN (l.drop a)) ∧ Rd w' B g A n c (a + 4 + 4 * wordN (l.drop a)) .nil) ∨ (xs = [] ∧ ((Err.nil : Err) = .nil → ¬ okAt l a most) ∧ ∃ a' E', rdBad E' ∧ Rd w' B g A n c a' E')) :=
      fun hE' hno ⟨h1, h2, h3, h4⟩ => ⟨_, [], h1, World.ownsRow_nil _ _ _ _, h3, h4, .inr ⟨rfl, fun _ => hno, _, _, hE', h2⟩⟩
    by_cases h1 : a + 4 ≤ n
    · by_cases h2 : wordN (l.drop a) ≤ most
      · by_cases h3 : a + 4 + 4 * wordN (l.drop a) ≤ n
        · refine (List_okR g B A n c a most l w hR h3 h2 hn hnc hc9 hl hb hB).mono fun e w' ⟨v, k1, k2, k3, k4, k5⟩ => ?_
          refine ⟨v, _, k1, ?_, k4, k5, .inl ⟨rfl, ⟨by omega, h2, by omega⟩, rfl, k3⟩⟩
          rw [wordsL_len]
          exact k2
        · exact (List_cut g B A n c a most l w hR h1 h2 (by omega) hn hnc hc9 hl hb hB).mono fun e w' h => hbad ⟨_, _, by decide, .inl rfl⟩ (fun k => by have := k.2.2; omega) h
      · exact (List_large g B A n c a most l w hR h1 (by omega) hn hnc hc9 hl hb hB).mono fun e w' h => hbad ⟨_, _, by decide, .inr rfl⟩ (fun k => h2 k.2.1) h
    · exact (List_short g B A n c a most w hR (by omega) hn).mono fun e w' h => hbad ⟨_, _, by decide, .inl rfl⟩ (fun k => by have := k.1; omega) h
  · refine (List_err g B A n c a E most w hR hE.ne).mono fun e w' ⟨h1, h2⟩ => ?_
    subst h2
    exact ⟨_, [], h1, World.ownsRow_nil _ _ _ _, Below.refl _ _, Asd.of (Below.refl _ _), .inr ⟨rfl, fun e => absurd e hE.ne, _, _, hE, hR⟩⟩
end Go.Proofs.YtbbmgcdocolakaaGreatDoor
/-
  Lists in bytes, plainly: there and back.
-/
namespace Go.Proofs.YtbbmgcdocolakaaGreatDoor
open Go.RowKit
set_option linter.unusedVariables false

/-- A list at a place of bytes, and the place behind it. -/
def lst (l : List Int) (a : Nat) : List Int := wordsL (l.drop (a + 4)) (wordN (l.drop a))
def nxtA (l : List Int) (a : Nat) : Nat := a + 4 + 4 * wordN (l.drop a)
theorem words_take {l : List Int} (hb : Bys l) : ∀ j, 4 * j ≤ l.length → ((wordsL l j).flatMap fun x => wordL x.toNat) = l.take (4 * j)
  | 0, _ => by simp [wordsL]
  | j + 1, h => by
    rw [wordsL, List.flatMap_append, words_take hb j (by omega)]
    have e : ([((wordN (l.drop (4 * j)) : Nat) : Int)].flatMap fun x => wordL x.toNat) = (l.drop (4 * j)).take 4 := by
      rw [← wordL_of (hb.drop _) (by rw [List.length_drop]; omega)]
      simp
    rw [e, show 4 * (j + 1) = 4 * j + 4 by omega, List.take_add]
theorem enc_lst {l : List Int} (hb : Bys l) {a m : Nat} (h : okAt l a m) : l.take (nxtA l a) = l.take a ++ encW (lst l a) := by
  obtain ⟨h1, h2, h3⟩ := h
  unfold nxtA encW lst
  have hl : (wordsL (l.drop (a + 4)) (wordN (l.drop a))).length = wordN (l.drop a) := wordsL_len _ _
  rw [hl, words_take (hb.drop _) _ (by rw [List.length_drop]; omega), wordL_of (hb.drop a) (by rw [List.length_drop]; omega), Nat.add_assoc, List.take_add, List.take_add, List.drop_drop]
theorem nxtA_le {l : List Int} {a m : Nat} (h : okAt l a m) : nxtA l a ≤ l.length := h.2.2
theorem lst_len {l : List Int} {a m : Nat} (h : okAt l a m) : (lst l a).length ≤ m := by unfold lst; rw [wordsL_len]; exact h.2.1
theorem words_flat {xs : List Int} (hf : ∀ x ∈ xs, fits x) (rest : List Int) : ∀ j, j ≤ xs.length → wordsL ((xs.flatMap fun x => wordL x.toNat) ++ rest) j = xs.take j
  | 0, _ => by simp [wordsL]
  | j + 1, h => by
    have hj : j < xs.length := by omega
    rw [wordsL, words_flat hf rest j (by omega), List.take_succ_eq_append_getElem hj]
    congr 1
    have hx := hf _ (List.getElem_mem hj)
    have e : ((xs.flatMap fun x => wordL x.toNat) ++ rest).drop (4 * j) = wordL xs[j].toNat ++ (((xs.drop (j + 1)).flatMap fun x => wordL x.toNat) ++ rest) := by
      have e1 : xs.flatMap (fun x => wordL x.toNat) = ((xs.take j).flatMap fun x => wordL x.toNat) ++ (wordL xs[j].toNat ++ (xs.drop (j + 1)).flatMap fun x => wordL x.toNat) := by
        conv => lhs; rw [← List.take_append_drop j xs, List.drop_eq_getElem_cons hj]
        rw [List.flatMap_append, List.flatMap_cons]
      have e2 : ((xs.take j).flatMap fun x => wordL x.toNat).length = 4 * j := by rw [encF_len, List.length_take]; omega
      rw [e1, List.append_assoc, ← e2, List.drop_left, List.append_assoc]
    rw [e, wordN_of (by have := hx.1; have := hx.2; omega)]
    have := hx.1
    congr 1
    omega
theorem lst_enc {xs : List Int} (hf : ∀ x ∈ xs, fits x) (hn : xs.length < 4294967296) (pre rest : List Int) {l : List Int} (hl : l = pre ++ (encW xs ++ rest)) : wordN (l.drop pre.length) = xs.length ∧ lst l pre.length = xs ∧ nxtA l pre.length = (pre ++ encW xs).length := by
  have e1 : l.drop pre.length = wordL xs.length ++ ((xs.flatMap fun x => wordL x.toNat) ++ rest) := by rw [hl, List.drop_left, encW, List.append_assoc]
  have e2 : wordN (l.drop pre.length) = xs.length := by rw [e1, wordN_of hn]
  have e3 : l.drop (pre.length + 4) = (xs.flatMap fun x => wordL x.toNat) ++ rest := by
    rw [← List.drop_drop, e1]
    exact List.drop_left (l₁ := wordL xs.length)
  refine ⟨e2, ?_, ?_⟩
  · unfold lst
    rw [e2, e3, words_flat hf rest _ (Nat.le_refl _), List.take_of_length_le (Nat.le_refl _)]
  · unfold nxtA
    rw [e2, List.length_append, encW_len]
    omega
theorem ok_enc {xs : List Int} (hf : ∀ x ∈ xs, fits x) {m : Nat} (hm : xs.length ≤ m) (h32 : m < 4294967296) (pre rest : List Int) {l : List Int} (hl : l = pre ++ (encW xs ++ rest)) : okAt l pre.length m := by
  obtain ⟨h1, _, _⟩ := lst_enc hf (by omega) pre rest hl
  have h2 : l.length = pre.length + (4 + 4 * xs.length + rest.length) := by rw [hl, List.length_append, List.length_append, encW_len]
  unfold okAt
  omega
end Go.Proofs.YtbbmgcdocolakaaGreatDoor
/-
  A pattern's bytes.
-/
namespace Go.Proofs.YtbbmgcdocolakaaGreatDoor
open Go.RowKit
set_option maxRecDepth 100000
set_option linter.unusedVariables false

def endsL (E : List (Int × Int)) : List Int := E.flatMap fun e => [e.1, e.2]
theorem endsL_len (E : List (Int × Int)) : (endsL E).length = 2 * E.length := by
  unfold endsL
  induction E with
  | nil => rfl
  | cons e E ih => rw [List.flatMap_cons, List.length_append, ih, List.length_cons]; simp; omega
theorem endsL_snoc (E : List (Int × Int)) (e : Int × Int) : endsL (E ++ [e]) = endsL E ++ [e.1, e.2] := by unfold endsL; rw [List.flatMap_append]; rfl
/-- A pattern in bytes. -/
def bytesP (L : List Int) (E : List (Int × Int)) : List Int := encW L ++ encW (endsL E)

end Go.Proofs.YtbbmgcdocolakaaGreatDoor
/-
  A pattern's bytes plainly: there and back.
-/
namespace Go.Proofs.YtbbmgcdocolakaaGreatDoor
open Go.RowKit
set_option linter.unusedVariables false

/-- Numbers by twos. -/
def pairsL : List Int → List (Int × Int)
  | a :: b :: r => (a, b) :: pairsL r
  | _ => []
theorem ends_pairs : ∀ (l : List Int), l.length % 2 = 0 → endsL (pairsL l) = l
  | [], _ => rfl
  | [_], h => by simp at h
  | a :: b :: r, h => by
    have e : endsL (pairsL (a :: b :: r)) = a :: b :: endsL (pairsL r) := rfl
    rw [e, ends_pairs r (by simp only [List.length_cons] at h; omega)]
theorem pairs_ends : ∀ (E : List (Int × Int)), pairsL (endsL E) = E
  | [] => rfl
  | e :: E => by
    have h : endsL (e :: E) = e.1 :: e.2 :: endsL E := rfl
    rw [h, pairsL, pairs_ends E]
theorem pairs_len : ∀ (l : List Int), (pairsL l).length = l.length / 2
  | [] => rfl
  | [_] => by simp [pairsL]
  | a :: b :: r => by
    rw [pairsL, List.length_cons, pairs_len r, List.length_cons, List.length_cons]
    omega
/-- What has been read is the bytes. -/
theorem bytesP_read {l : List Int} (hb : Bys l) {m : Nat} (h1 : okAt l 0 m) (h2 : okAt l (nxtA l 0) m) (he : nxtA l (nxtA l 0) = l.length) (hev : (lst l (nxtA l 0)).length % 2 = 0) : bytesP (lst l 0) (pairsL (lst l (nxtA l 0))) = l := by
  have e1 := enc_lst hb h1
  have e2 := enc_lst hb h2
  rw [he, List.take_of_length_le (Nat.le_refl _), e1, List.take_zero, List.nil_append] at e2
  unfold bytesP
  rw [ends_pairs _ hev]
  exact e2.symm
/-- The bytes of a pattern are read as it. -/
theorem bytesP_back {L : List Int} {E : List (Int × Int)} {l : List Int} (hl : l = bytesP L E) (hL : ∀ x ∈ L, fits x) (hE : ∀ e ∈ E, fits e.1 ∧ fits e.2) (hn : L.length ≤ 100000) (hm : E.length ≤ 100000) :
    okAt l 0 l.length ∧ lst l 0 = L ∧ okAt l (nxtA l 0) l.length ∧ lst l (nxtA l 0) = endsL E ∧ nxtA l (nxtA l 0) = l.length := by
  have hef : ∀ z ∈ endsL E, fits z := fun z hz => by
    obtain ⟨e, he, h⟩ := List.mem_flatMap.1 hz
    rcases List.mem_cons.1 h with rfl | h
    · exact (hE e he).1
    · rw [List.mem_singleton.1 h]
      exact (hE e he).2
  have hel : (endsL E).length = 2 * E.length := endsL_len E
  have hlen : l.length = (4 + 4 * L.length) + (4 + 4 * (2 * E.length)) := by rw [hl, bytesP, List.length_append, encW_len, encW_len, hel]
  have r1 : l = [] ++ (encW L ++ encW (endsL E)) := by rw [hl, List.nil_append]; rfl
  have r2 : l = encW L ++ (encW (endsL E) ++ []) := by rw [hl, List.append_nil]; rfl
  obtain ⟨a1, a2, a3⟩ := lst_enc hL (by omega) [] _ r1
  have o1 := ok_enc hL (m := l.length) (by omega) (by omega) [] _ r1
  rw [List.nil_append] at a3
  have b0 : nxtA l 0 = (encW L).length := a3
  obtain ⟨b1, b2, b3⟩ := lst_enc hef (by omega) (encW L) _ r2
  have o2 := ok_enc hef (m := l.length) (by omega) (by omega) (encW L) _ r2
  rw [← b0] at b2 b3 o2
  exact ⟨o1, a2, o2, b2, by rw [b3, List.length_append, encW_len, encW_len, hel, hlen]⟩
end Go.Proofs.YtbbmgcdocolakaaGreatDoor
/-
  The document's bytes of a pattern.
-/
namespace Go.Proofs.YtbbmgcdocolakaaGreatDoor
open Go.RowKit
set_option maxRecDepth 100000
set_option linter.unusedVariables false

theorem pNums_enc : ∀ (l : List Int) (st : St), (∀ x ∈ l, fits x) → pNums l st = (st.1 ++ l.flatMap fun x => wordL x.toNat, st.2)
  | [], st, _ => by rw [pNums]; simp
  | z :: l, st, h => by
    rw [pNums, pNums_enc l _ fun x hx => h x (List.mem_cons_of_mem _ hx)]
    unfold pNum
    rw [if_pos (h z (List.mem_cons_self ..)), List.flatMap_cons, List.append_assoc]
theorem pList_enc {l : List Int} (st : St) (h : ∀ x ∈ l, fits x) (hl : l.length ≤ 1000000) : pList l st = (st.1 ++ encW l, st.2) := by
  unfold pList
  rw [pNums_enc l _ h]
  unfold pNum encW
  rw [if_pos (show fits ((l.length : Nat) : Int) from ⟨by omega, by omega⟩), Int.toNat_natCast, List.append_assoc]
/-- Two lists, as the document puts them. -/
theorem put_two {L M : List Int} (hL : ∀ x ∈ L, fits x) (hM : ∀ x ∈ M, fits x) (h1 : L.length ≤ 60) (h2 : M.length ≤ 60) : (pItems [⟨3, 0, ⟨#[]⟩, L⟩, ⟨3, 0, ⟨#[]⟩, M⟩] ([], .nil)).1 = encW L ++ encW M := by
  rw [pItems, pItems, pItems]
  unfold pItem
  simp only
  rw [if_neg (by decide), if_neg (by decide), if_neg (by decide), if_neg (by decide), if_neg (by decide), if_neg (by decide), pList_enc _ hL (by omega), pList_enc _ hM (by omega), List.nil_append]
/-- All edges that eight vertices can have. -/
def allE : List (Int × Int) := (List.range 8).flatMap fun a : Nat => ((List.range 8).filter fun b : Nat => decide (a < b)).map fun b : Nat => ((a : Int), (b : Int))
theorem allE_len : allE.length = 28 := by decide
theorem allE_mem {e : Int × Int} (h0 : 0 ≤ e.1) (h1 : e.1 < e.2) (h2 : e.2 < 8) : e ∈ allE := by
  unfold allE
  refine List.mem_flatMap.2 ⟨e.1.toNat, List.mem_range.2 (by omega), List.mem_map.2 ⟨e.2.toNat, List.mem_filter.2 ⟨List.mem_range.2 (by omega), by simp; omega⟩, ?_⟩⟩
  exact Prod.ext (by simp only; omega) (by simp only; omega)
theorem lessP_trans {a b c d e f : Int} (h1 : lessP a b c d) (h2 : lessP c d e f) : lessP a b e f := by unfold lessP at *; omega
/-- A pattern that is right has at most 28 edges. -/
theorem right_few {L : List Int} {E : List (Int × Int)} (h : rightP L E) : E.length ≤ 28 := by
  have hlt : ∀ j i (hi : i < j) (hj : j < E.length), lessP (E[i]'(by omega)).1 (E[i]'(by omega)).2 E[j].1 E[j].2 := by
    intro j
    induction j with
    | zero => intro i hi; omega
    | succ j ih =>
      intro i hi hj
      have h1 := (h.2 (j + 1) E[j + 1] (List.getElem?_eq_getElem hj)).2 E[j] (Nat.succ_pos _) (by rw [show j + 1 - 1 = j from rfl]; exact List.getElem?_eq_getElem (by omega))
      have h2 := (ordE_less _ _ _ _).1 h1
      by_cases he : i = j
      · subst he; exact h2
      · exact lessP_trans (ih i (by omega) (by omega)) h2
  have hnd : E.Nodup := by
    refine List.pairwise_iff_getElem.2 fun i j hi hj hij e => ?_
    have := hlt j i hij hj
    rw [e] at this
    unfold lessP at this
    omega
  have h8 := h.1.1
  have := sub_lenP E allE hnd fun e he => by
    obtain ⟨i, hi, he2⟩ := List.mem_iff_getElem.1 he
    have h1 := (h.2 i e (by rw [List.getElem?_eq_getElem hi, he2])).1
    unfold Pt.EdgeOK at h1
    exact allE_mem h1.1 h1.2.1 (by omega)
  rwa [allE_len] at this
theorem right_fits {L : List Int} {E : List (Int × Int)} (h : rightP L E) : (∀ x ∈ L, fits x) ∧ (∀ e ∈ E, fits e.1 ∧ fits e.2) ∧ (∀ x ∈ endsL E, fits x) := by
  have h1 : ∀ x ∈ L, fits x := fun x hx => by have := h.1.2 x hx; unfold fits; omega
  have h2 : ∀ e ∈ E, fits e.1 ∧ fits e.2 := fun e he => by have := right_edges h e he; have := h.1.1; unfold fits; omega
  refine ⟨h1, h2, fun z hz => ?_⟩
  obtain ⟨e, he, h⟩ := List.mem_flatMap.1 hz
  rcases List.mem_cons.1 h with rfl | h
  · exact (h2 e he).1
  · rw [List.mem_singleton.1 h]
    exact (h2 e he).2

end Go.Proofs.YtbbmgcdocolakaaGreatDoor
/-
  Bits of an int, plainly: tested, set, by small numbers.
-/
namespace Go.Proofs.YtbbmgcdocolakaaGreatDoor
open Go.RowKit
set_option linter.unusedVariables false

theorem bq_and (a b : Nat) (ha : a < 2^63) (hb : b < 2^63) : bits .and .i64 a b = ((a &&& b : Nat) : Int) := by
  have h1 : (BitVec.ofInt 64 (a : Int) &&& BitVec.ofInt 64 (b : Int)).toNat = a &&& b := by
    rw [BitVec.toNat_and, BitVec.ofInt_natCast, BitVec.ofInt_natCast, BitVec.toNat_ofNat, BitVec.toNat_ofNat, Nat.mod_eq_of_lt (by omega), Nat.mod_eq_of_lt (by omega)]
  have h2 : a &&& b < 2^63 := Nat.lt_of_le_of_lt Nat.and_le_left ha
  show IntKind.i64.wrap (((BitVec.ofInt 64 (a : Int) &&& BitVec.ofInt 64 (b : Int)).toNat : Nat) : Int) = _
  rw [h1]
  exact IntWalk.i64_in _ (by omega)
theorem bq_or (a b : Nat) (ha : a < 2^63) (hb : b < 2^63) : bits .or .i64 a b = ((a ||| b : Nat) : Int) := by
  have h1 : (BitVec.ofInt 64 (a : Int) ||| BitVec.ofInt 64 (b : Int)).toNat = a ||| b := by
    rw [BitVec.toNat_or, BitVec.ofInt_natCast, BitVec.ofInt_natCast, BitVec.toNat_ofNat, BitVec.toNat_ofNat, Nat.mod_eq_of_lt (by omega), Nat.mod_eq_of_lt (by omega)]
  have h2 : a ||| b < 2^63 := Nat.or_lt_two_pow ha hb
  show IntKind.i64.wrap (((BitVec.ofInt 64 (a : Int) ||| BitVec.ofInt 64 (b : Int)).toNat : Nat) : Int) = _
  rw [h1]
  exact IntWalk.i64_in _ (by omega)
theorem bq_test (m y : Nat) (hm : m < 256) : (bits .and .i64 ((m : Int) / 2 ^ y) 1 == 1) = m.testBit y := by
  have h0 : ((m : Int) / 2 ^ y) = ((m >>> y : Nat) : Int) := by rw [Nat.shiftRight_eq_div_pow]; push_cast; rfl
  have h1 : m >>> y ≤ m := by rw [Nat.shiftRight_eq_div_pow]; exact Nat.div_le_self _ _
  rw [h0, show (1 : Int) = ((1 : Nat) : Int) from rfl, bq_and _ _ (by omega) (by omega), Nat.testBit, Nat.and_comm]
  generalize hq : (1 &&& m >>> y) = q
  have hq2 : q < 2 := by rw [← hq, Nat.one_and_eq_mod_two]; omega
  match q, hq2 with
  | 0, _ => rfl
  | 1, _ => rfl
theorem bq_pow {y : Nat} (hy : y ≤ 8) : 2 ^ y ≤ 256 := by
  have : 2 ^ y ≤ 2 ^ 8 := Nat.pow_le_pow_right (by omega) hy
  omega
theorem bq_shl {y : Nat} (hy : y ≤ 8) : wrap64 (2 ^ y) = ((2 ^ y : Nat) : Int) := by
  have hp := bq_pow hy
  have : ((2 : Int) ^ y) = ((2 ^ y : Nat) : Int) := by push_cast; rfl
  rw [this]
  generalize 2 ^ y = q at hp
  exact IntWalk.wrap64_in (q : Int) (by omega)
theorem bq_set2 {m a b : Nat} (hm : m < 256) (ha : a < 8) (hb : b < 8) : bits .or .i64 (m : Int) (bits .or .i64 (wrap64 (2 ^ a)) (wrap64 (2 ^ b))) = ((m ||| (1 <<< a ||| 1 <<< b) : Nat) : Int) := by
  have h1 : 2 ^ a < 2 ^ 8 := Nat.pow_lt_pow_right (by omega) ha
  have h2 : 2 ^ b < 2 ^ 8 := Nat.pow_lt_pow_right (by omega) hb
  have h3 : 2 ^ a ||| 2 ^ b < 2 ^ 8 := Nat.or_lt_two_pow h1 h2
  rw [bq_shl (by omega), bq_shl (by omega), bq_or _ _ (by omega) (by omega), bq_or _ _ (by omega) (by omega), Nat.one_shiftLeft, Nat.one_shiftLeft]
end Go.Proofs.YtbbmgcdocolakaaGreatDoor
/-
  pat.Connected: by bit masks.
-/
namespace Go.Proofs.YtbbmgcdocolakaaGreatDoor
open Go.RowKit
set_option maxRecDepth 100000
set_option linter.unusedVariables false

theorem passM_take {E : List (Int × Int)} {j s : Nat} {e : Int × Int} (h : E[j]? = some e) : passM (E.take (j + 1)) s = stepM (passM (E.take j) s) e := by
  obtain ⟨h1, h2⟩ := List.getElem?_eq_some_iff.1 h
  unfold passM
  rw [List.take_succ_eq_append_getElem h1, h2, List.foldl_append]
  rfl
theorem right_nil {L : List Int} {E : List (Int × Int)} {P : Program} {f : FuncId} {args : Array Value} {w : World} (h : rightP L E) (hc : Calls P f args w (RightRes L E w)) : Calls P f args w fun e w' => e = .returned .nilIface ∧ Below w.heap.size w w' :=
  hc.mono fun e w' hr => by
    rcases hr with ⟨_, h1, h2⟩ | ⟨hn, _⟩
    · exact ⟨h1, h2⟩
    · exact absurd h hn
theorem right_bad {L : List Int} {E : List (Int × Int)} {P : Program} {f : FuncId} {args : Array Value} {w : World} (h : ¬ rightP L E) (hc : Calls P f args w (RightRes L E w)) : Calls P f args w fun e w' => ∃ (g : Nat) (c a : Int) (s : ByteArray), e = .returned (.iface 78 (.pointer (some ⟨g, 0, none⟩))) ∧ (Err.flt c a s).At w' (.iface 78 (.pointer (some ⟨g, 0, none⟩))) ∧ Below w.heap.size w w' ∧ 0 < c :=
  hc.mono fun e w' hr => by
    rcases hr with ⟨hn, _⟩ | ⟨_, c, a, s, v, rfl, ⟨g, rfl, hk⟩, hb, hc, _⟩
    · exact absurd hn h
    · exact ⟨g, c, a, s, rfl, ⟨g, rfl, hk⟩, hb, hc⟩

end Go.Proofs.YtbbmgcdocolakaaGreatDoor
/-
  fault.In by its contract.
-/
namespace Go.Proofs.YtbbmgcdocolakaaGreatDoor
open Go.RowKit Go.Extern.Stop Go.Stop Go.Extern
set_option maxRecDepth 100000

def Err.in_ (word : ByteArray) : Err → Err
  | .nil => .nil
  | e => .step word e
theorem Err.in_of {E : Err} (h : E ≠ .nil) (word : ByteArray) : E.in_ word = .step word E := by cases E <;> first | exact absurd rfl h | rfl

theorem In_any (word : ByteArray) (E : Err) (v : Value) (w : World) (hE : E.At w v) :
    Calls Tryz.prog 39 #[.string word, v] w fun e w' => ∃ v', e = .returned v' ∧ (E.in_ word).At w' v' ∧ Below w.heap.size w w' := by
  by_cases hne : E = .nil
  · subst hne
    obtain rfl : v = .nilIface := hE
    go_enter Tryz.func39, Tryz.ntmps39
    go_wp2
    go_ret
    exact ⟨_, rfl, rfl, Below.refl _ _⟩
  · have HE := Lib.hid hE
    have HN := Lib.hid hne
    obtain ⟨T, x, rfl⟩ := Err.At.iface_ hE hne
    clear hE hne
    go_enter Tryz.func39, Tryz.ntmps39
    go_wp2
    go_ret
    have hb := bel_al (Below.refl w.heap.size w) (.cells #[.string word, .iface T x] 127)
    refine ⟨_, rfl, ?_, hb⟩
    rw [Err.in_of HN.out]
    exact ⟨_, _, rfl, Blk.new _ _ _, HE.out.keep hb, HN.out⟩
end Go.Proofs.YtbbmgcdocolakaaGreatDoor
/-
  Contracts of wire.Reader: Num where it fails, End whatever there is.
-/
namespace Go.Proofs.YtbbmgcdocolakaaGreatDoor
open Go.RowKit
set_option maxRecDepth 100000
set_option linter.unusedVariables false

set_option maxHeartbeats 2000000 in
theorem End_left (g B : Nat) (A : Option Addr) (n c a : Nat) (w : World) (hR : Rd w B g A n c a .nil) (hn : n ≤ 1099511627776) (ha : a < n) :
    Calls Tryz.prog 72 #[.pointer (some ⟨g, 0, none⟩)] w fun e w' => ∃ ev, e = .returned ev ∧ (Err.flt 2 a txtBytes).At w' ev ∧ Below w.heap.size w w' := by
  have HL := Lib.hid (Left_any g B A n c a .nil w hR hn)
  have HRd := Lib.hid hR
  obtain ⟨_, hf, _, ev, hb, he⟩ := hR
  obtain rfl : ev = .nilIface := he
  have hc2 := hb.cell 2
  simp at hc2
  clear hb
  have hpos : (0 : Int) < ((n - a : Nat) : Int) := by omega
  generalize hd : n - a = dd at *
  clear hd
  go_enter Tryz.func72, Tryz.ntmps72
  go_wp2_with fail
  refine HL.out.mono ?_
  rintro e w1 ⟨rfl, hb⟩
  obtain ⟨hc0, hc1⟩ := rd_cells (HRd.out.keep hb)
  have HB := Lib.hid hb
  clear hb
  go_wp2_with fail
  refine (New_err 2 a txtBytes w1).mono ?_
  rintro e w2 ⟨v, rfl, hv, hb2⟩
  have HV := Lib.hid hv
  have HB2 := Lib.hid hb2
  clear hv hb2
  go_wp2_with fail
  go_ret
  exact ⟨_, rfl, HV.out, HB.out.andThen HB2.out⟩
/-- End, whatever there is. -/
theorem End_flt (g B : Nat) (A : Option Addr) (n c a : Nat) (E : Err) (w : World) (hR : Rd w B g A n c a E) (hE : E = .nil ∨ rdBad E) (hn : n ≤ 1099511627776) :
    Calls Tryz.prog 72 #[.pointer (some ⟨g, 0, none⟩)] w fun e w' => ∃ ev, e = .returned ev ∧ Below w.heap.size w w' ∧ ((E = .nil ∧ a = n ∧ ev = .nilIface) ∨ ∃ (E' : Err) (T : TypeId) (x : Value), E'.At w' ev ∧ ev = .iface T x ∧ E' ≠ .nil ∧ (∃ (c' a' : Int) (s : ByteArray), E' = .flt c' a' s ∧ s.size ≤ 100 ∧ (c' = 2 ∨ c' = 6 ∨ c' = 9)) ∧ (E = .nil → a < n)) := by
  have han := hR.2.2.1
  rcases hE with rfl | hE
  · by_cases h : a = n
    · subst h
      exact (End_ok g B A a c w hR hn).mono fun e w' ⟨h1, h2⟩ => ⟨_, h1, h2, .inl ⟨rfl, rfl, rfl⟩⟩
    · refine (End_left g B A n c a w hR hn (by omega)).mono fun e w' ⟨ev, h1, h2, h3⟩ => ⟨ev, h1, h3, .inr ?_⟩
      have hne : Err.flt 2 (a : Int) txtBytes ≠ .nil := fun e => by cases e
      obtain ⟨T, x, rfl⟩ := Err.At.iface_ h2 hne
      exact ⟨_, T, x, h2, rfl, hne, ⟨_, _, _, rfl, by decide, .inl rfl⟩, fun _ => by omega⟩
  · refine (End_err g B A n c a E w hR hE.ne).mono fun e w' ⟨T, x, h1, h2, h3⟩ => ?_
    subst h3
    refine ⟨_, h1, Below.refl _ _, .inr ⟨E, T, x, h2, rfl, hE.ne, ?_, fun e => absurd e hE.ne⟩⟩
    obtain ⟨a', s, hs, rfl | rfl⟩ := hE
    · exact ⟨_, _, _, rfl, hs, .inr (.inr rfl)⟩
    · exact ⟨_, _, _, rfl, hs, .inr (.inl rfl)⟩
theorem End_gen (g B : Nat) (A : Option Addr) (n c a : Nat) (E : Err) (w : World) (hR : Rd w B g A n c a E) (hE : E = .nil ∨ rdBad E) (hn : n ≤ 1099511627776) :
    Calls Tryz.prog 72 #[.pointer (some ⟨g, 0, none⟩)] w fun e w' => ∃ ev, e = .returned ev ∧ Below w.heap.size w w' ∧ ((E = .nil ∧ a = n ∧ ev = .nilIface) ∨ ∃ (E' : Err) (T : TypeId) (x : Value), E'.At w' ev ∧ ev = .iface T x ∧ E' ≠ .nil ∧ (E'.code = 2 ∨ E'.code = 6 ∨ E'.code = 9) ∧ (E = .nil → a < n)) := by
  refine (End_flt g B A n c a E w hR hE hn).mono fun e w' ⟨ev, h1, h2, h3⟩ => ⟨ev, h1, h2, ?_⟩
  rcases h3 with h3 | ⟨E', T, x, k1, k2, k3, ⟨c', a', s, rfl, _, k4⟩, k5⟩
  · exact .inl h3
  · exact .inr ⟨_, T, x, k1, k2, k3, k4, k5⟩
theorem in_code {E : Err} {s : ByteArray} : (E.in_ s).code = E.code := by cases E <;> rfl
theorem in_ne {E : Err} {s : ByteArray} (h : E ≠ .nil) : E.in_ s ≠ .nil := by rw [Err.in_of h]; intro e; cases e
end Go.Proofs.YtbbmgcdocolakaaGreatDoor
