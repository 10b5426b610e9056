/-
  Part 7 of the proof of LoadBytes: WireM, RdL, ErrIn, RdE, WrK, EncL.
-/
import Derived.Test.YtbbmgcdocolakaaGreatDoorLoadBytesM6
import Derived.Test.YtbbmgcdocolakaaGreatDoorLoadBytesM2
import Derived.BigQuiet
import Derived.Test.YtbbmgcdocolakaaGreatDoorLoadBytesM4
set_option linter.unusedVariables false
/-
  Contracts of wire.Reader where the bytes suffice: List.
-/
namespace Go.Proofs.YtbbmgcdocolakaaGreatDoor
open Go.RowKit
set_option maxRecDepth 100000
set_option linter.unusedVariables false

/-- So many words. -/
def wordsL (l : List Int) : Nat → List Int
  | 0 => []
  | j + 1 => wordsL l j ++ [(wordN (l.drop (4 * j)) : Int)]
theorem wordsL_len (l : List Int) : ∀ j, (wordsL l j).length = j
  | 0 => rfl
  | j + 1 => by rw [wordsL, List.length_append, wordsL_len l j]; rfl

set_option maxHeartbeats 8000000 in
theorem List_okA (g B : Nat) (A : Option Addr) (n c a : Nat) (l : List Int) (w : World) (hR : Rd w B g A n c a .nil) (hm : a + 4 + 4 * wordN (l.drop a) ≤ n) (h60 : wordN (l.drop a) ≤ 60) (hn : n ≤ 1099511627776) (hnc : n ≤ c) (hc9 : c ≤ 9223372036854775807) (hl : l.length = n) (hb : Bys l) (hB : ∀ w', Below B w w' → Sl w' 1 A n (l.map (Value.int .u8))) :
    Calls Tryz.prog 71 #[.pointer (some ⟨g, 0, none⟩), .int .i64 60] w fun e w' => ∃ C k, e = .returned (.slice C (wordN (l.drop a)) k) ∧ Sl w' 1 C (wordN (l.drop a)) ((wordsL (l.drop (a + 4)) (wordN (l.drop a))).map (Value.int .i64)) ∧ Rd w' B g A n c (a + 4 + 4 * wordN (l.drop a)) .nil ∧ Below B w w' ∧ Asd g w w' ∧ (∀ x, C = some x → w.heap.size ≤ x.block) := by
  obtain ⟨hc0, hc1⟩ := rd_cells hR
  have HT := Lib.hid (num_ok g B A n c a a l w hR (by omega) hn hnc hc9 hl hb hB)
  have HSB := Lib.hid hB
  have HBy := Lib.hid hb
  clear hR hB hb
  generalize hN : wordN (l.drop a) = N at *
  clear hN
  go_enter Tryz.func71, Tryz.ntmps71
  go_wp2_with fail
  refine HT.out.mono ?_
  rintro e w1 ⟨rfl, hR1, hb1, ha1⟩
  have HR1 := Lib.hid hR1
  have HB1 := Lib.hid hb1
  have HD1 := Lib.hid ha1
  obtain ⟨_, _, _, ev, hbk, he⟩ := hR1
  obtain rfl : ev = .nilIface := he
  have hc2 := hbk.cell 2
  simp at hc2
  clear hb1 ha1 HT hbk
  rcases Nat.eq_zero_or_pos N with h0 | h0
  · subst h0
    go_wp2_with fail
    go_ret
    exact ⟨none, 0, rfl, Sl.nil _ _ _, HR1.out, HB1.out, HD1.out, fun x hx => by cases hx⟩
  · have hNz : ((N : Int) == 0) = false := by simp; omega
    have HZ := Lib.hid (take_ok g B A n c (a + 4) (4 * N) a l w1 HR1.out (by omega) (by omega) hn hnc hc9 (HSB.out w1 HB1.out) (fun W hW => HSB.out W (HB1.out.trans hW)))
    have h4N : ((4 * N : Nat) : Int) = 4 * (N : Int) := by omega
    rw [h4N] at HZ
    go_wp2_with fail
    refine HZ.out.mono ?_
    rintro e w2 ⟨C, k, rfl, hk, hs2, hR2, hb2, ha2⟩
    have hS := hs2 w2 hb2
    obtain ⟨b, off, hA, _⟩ := hS.2 (by omega)
    cases hA
    have HS := Lib.hid hS
    have HR2 := Lib.hid hR2
    have HB2 := Lib.hid (HB1.out.trans hb2)
    have HD2 := Lib.hid (HD1.out.trans ha2)
    have HBL := Lib.hid (((HBy.out.drop (a + 4)).take (4 * N)))
    have HLen := Lib.hid (show ((l.drop (a + 4)).take (4 * N)).length = 4 * N by rw [List.length_take, List.length_drop]; omega)
    have HWd := Lib.hid (fun j (hj : j < N) => (show wordN ((((l.drop (a + 4)).take (4 * N)).drop (4 * j))) = wordN ((l.drop (a + 4)).drop (4 * j)) by
      have hlen : (l.drop (a + 4)).length = n - (a + 4) := by rw [List.length_drop, hl]
      rw [List.drop_take]
      rw [← wordN_take (l := List.take (4 * N - 4 * j) _) (by rw [List.length_take, List.length_drop, hlen]; omega), List.take_take, Nat.min_eq_left (by omega), wordN_take (by rw [List.length_drop, hlen]; omega)]))
    have hBw2 : B ≤ w2.heap.size := Nat.le_trans HR2.out.1 (Nat.le_of_lt (by obtain ⟨_, _, _, _, h, _⟩ := HR2.out; exact h.lt))
    clear hs2 hR2 hb2 ha2 HZ hS hc0 hc1 hc2
    generalize (l.drop (a + 4)).take (4 * N) = bl at *
    generalize hrl : l.drop (a + 4) = rl at *
    have HRL := Lib.hid hrl
    clear hrl
    go_wp2_with fail
    go_loopw [7, 8] (fun bv lv wr => ∃ (j o k : Nat), j ≤ N ∧ bv = .slice (some ⟨b, o, none⟩) (4 * (N - j)) k ∧ (j < N → o = off + 4 * j) ∧ (4 * (N - j) ≤ k ∧ k ≤ 9223372036854775807) ∧ wr.ownsRow w2.heap.size 3 1 lv j ((wordsL rl j).map (Value.int .i64)) ∧ Below w2.heap.size w2 wr) (fun bv _ _ => lenV bv)
    case atStart => exact ⟨0, off, k, Nat.zero_le _, by rw [Nat.sub_zero], fun _ => rfl, by rw [Nat.sub_zero]; exact hk, World.ownsRow_nil _ _ _ _, Below.refl _ _⟩
    case round =>
      obtain ⟨j, o, k', hj, rfl, ho, hk', hown, hb⟩ := hrel
      have HO := Lib.hid hown
      have HBr := Lib.hid hb
      by_cases hlt : j < N
      · obtain rfl := ho hlt
        have hlw := wordN_lt (HBL.out.drop (4 * j))
        have HA := Lib.hid (wordAt_any (bl.drop (4 * j)) (some ⟨b, off + 4 * j, none⟩) (4 * (N - j)) k' wr (by rw [List.length_drop, HLen.out]; omega) (by omega) (HBL.out.drop _) (by
          have h1 := (HS.out.keep hb).drop (k := 4 * j) (by omega)
          rw [← List.map_drop, show 4 * N - 4 * j = 4 * (N - j) by omega] at h1
          exact h1))
        rw [HWd.out j hlt] at HA hlw
        have HWS := Lib.hid (show wordsL rl (j + 1) = wordsL rl j ++ [(wordN (rl.drop (4 * j)) : Int)] from rfl)
        generalize wordN (rl.drop (4 * j)) = Wj at *
        have hpos : (0 : Int) < ((4 * (N - j) : Nat) : Int) := by omega
        have hge4 : (4 : Int) ≤ ((4 * (N - j) : Nat) : Int) := by omega
        have hsub : 4 * (N - j) - 4 = 4 * (N - (j + 1)) := by omega
        generalize hm : 4 * (N - j) = mm at *
        have HM := Lib.hid hm
        clear hown hb hm
        by_cases hk4 : k' = 4
        · subst hk4
          go_wp2_with fail
          refine HA.out.mono ?_
          rintro e w3 ⟨rfl, hq⟩
          have HB3 := Lib.hid (HBr.out.andThen (drew_bel hq))
          have HO3 := Lib.hid (own_below HO.out (fun g hg => (HO.out.lt g hg).2) (drew_bel hq))
          clear hq HA
          go_wp2_with (at_builtin; refine wpList_push elemInt (w0 := w2) _ _ rfl rfl HO3.out HB3.out (Nat.le_refl _) rfl rfl rfl (by simp [Value.oneCell']) (by unfold lim; omega) (by unfold lim; omega) ?_; intro v4 w4 hown4 hb4; have HO4 := Lib.hid hown4; clear hown4)
          go_roundw
          case rel =>
            refine ⟨j + 1, _, _, by omega, rfl, fun h => by omega, by omega, ?_, hb4⟩
            rw [HWS.out, List.map_append]; exact HO4.out
          case measure => simp [lenV]; omega
        · go_wp2_with fail
          refine HA.out.mono ?_
          rintro e w3 ⟨rfl, hq⟩
          have HB3 := Lib.hid (HBr.out.andThen (drew_bel hq))
          have HO3 := Lib.hid (own_below HO.out (fun g hg => (HO.out.lt g hg).2) (drew_bel hq))
          clear hq HA
          go_wp2_with (at_builtin; refine wpList_push elemInt (w0 := w2) _ _ rfl rfl HO3.out HB3.out (Nat.le_refl _) rfl rfl rfl (by simp [Value.oneCell']) (by unfold lim; omega) (by unfold lim; omega) ?_; intro v4 w4 hown4 hb4; have HO4 := Lib.hid hown4; clear hown4)
          go_roundw
          case rel =>
            refine ⟨j + 1, _, _, by omega, rfl, fun h => by omega, by omega, ?_, hb4⟩
            rw [HWS.out, List.map_append]; exact HO4.out
          case measure => simp [lenV]; omega
      · obtain rfl : j = N := by omega
        obtain ⟨C, kk, rfl, hsl⟩ := Sl.own hown
        have HX := Lib.hid hsl
        have HOw := Lib.hid hown
        rw [Nat.sub_self]
        clear hown hsl hb
        go_wp2_with fail
        go_ret
        exact ⟨C, kk, rfl, by rw [HRL.out]; exact HX.out, HR2.out.keep HBr.out, HB2.out.trans (HBr.out.mono hBw2), HD2.out.trans (Asd.of HBr.out), fun x hx => by subst hx; exact Nat.le_trans HD2.out.1 (HOw.out.lt x.block rfl).1⟩
end Go.Proofs.YtbbmgcdocolakaaGreatDoor
/-
  Contracts of wire.Reader: List, of any length, and where it fails.
-/
namespace Go.Proofs.YtbbmgcdocolakaaGreatDoor
open Go.RowKit
set_option maxRecDepth 100000
set_option linter.unusedVariables false

set_option maxHeartbeats 4000000 in
theorem take_shortA (g B : Nat) (A : Option Addr) (n c a m : Nat) (from_ : Nat) (w : World) (hR : Rd w B g A n c a .nil) (hm : n < a + m) (hn : n ≤ 1099511627776) (hm2 : m ≤ 1099511627776) (hfr : from_ ≤ n) :
    Calls Tryz.prog 95 #[.pointer (some ⟨g, 0, none⟩), .int .i64 m, .int .i64 from_] w fun e w' => e = .returned (.slice none 0 0) ∧ Rd w' B g A n c from_ (.flt 9 from_ txtBytes) ∧ Below B w w' ∧ Asd g w w' := by
  obtain ⟨hBg, hf, han, ev, hb, he⟩ := hR
  obtain rfl : ev = .nilIface := he
  have hc0 := hb.cell 0
  have hc1 := hb.cell 1
  have hc2 := hb.cell 2
  simp at hc0 hc1 hc2
  have HBk := Lib.hid hb
  have hBw : B ≤ w.heap.size := Nat.le_trans hBg (Nat.le_of_lt hb.lt)
  clear hb
  have hd : decide ((n : Int) - (a : Int) < (m : Int)) = true := decide_eq_true (by omega)
  go_enter Tryz.func95, Tryz.ntmps95
  go_wp2_with fail
  go_quiet (fail)
  obtain ⟨w1, hw1⟩ : ∃ w1, w1 = w.drewN nq := ⟨_, rfl⟩
  rw [← hw1]
  have hbw := drew_bel ⟨nq, hw1⟩
  have HBk1 := Lib.hid (HBk.out.keep hbw)
  have HBw := Lib.hid hbw
  clear hw1 hbw hc0 hc1 hc2
  go_wp2_with fail
  refine (New_err 9 from_ txtBytes w1).mono ?_
  rintro e w2 ⟨v, rfl, ⟨gv, rfl, hv⟩, hb2⟩
  have hbk2 := HBk1.out.keep hb2
  have hd1 := hbk2.cell 1
  have hd2 := hbk2.cell 2
  have hf1 := hbk2.frozen 1
  have hf2 := hbk2.frozen 2
  simp at hd1 hd2
  have hgne : gv ≠ g := fun e => by
    subst e
    unfold Blk at hv hbk2
    rw [hv] at hbk2
    injection hbk2 with hbk2
    injection hbk2 with _ h3
    exact absurd h3 (by decide)
  have HT := Lib.hid (show Rd ((w2.setCell ⟨g, 1, none⟩ (.int .i64 from_)).setCell ⟨g, 2, none⟩ (.iface 78 (.pointer (some ⟨gv, 0, none⟩)))) B g A n c from_ (.flt 9 from_ txtBytes) by
    refine ⟨hBg, trivial, hfr, _, ?_, ⟨gv, rfl, ?_⟩⟩
    · have := (hbk2.set_ 1 (.int .i64 from_)).set_ 2 (.iface 78 (.pointer (some ⟨gv, 0, none⟩)))
      simpa using this
    · exact ((hv.far (p := ⟨g, 1, none⟩) hgne _).far (p := ⟨g, 2, none⟩) hgne _))
  have HB2 := Lib.hid (HBw.out.andThen hb2)
  clear hv hbk2 hgne hb2
  go_wp2_with fail
  go_ret
  exact ⟨rfl, HT.out, ((HB2.out.mono hBw).setCell (p := ⟨g, 1, none⟩) hBg _).setCell (p := ⟨g, 2, none⟩) hBg _, ((Asd.of HB2.out).setCell 1 _).setCell 2 _⟩

set_option maxHeartbeats 8000000 in
theorem List_okR (g B : Nat) (A : Option Addr) (n c a most : Nat) (l : List Int) (w : World) (hR : Rd w B g A n c a .nil) (hm : a + 4 + 4 * wordN (l.drop a) ≤ n) (h60 : wordN (l.drop a) ≤ most) (hn : n ≤ 1099511627776) (hnc : n ≤ c) (hc9 : c ≤ 9223372036854775807) (hl : l.length = n) (hb : Bys l) (hB : ∀ w', Below B w w' → Sl w' 1 A n (l.map (Value.int .u8))) :
    Calls Tryz.prog 71 #[.pointer (some ⟨g, 0, none⟩), .int .i64 (most : Int)] w fun e w' => ∃ v, e = .returned v ∧ w'.ownsRow w.heap.size 3 1 v (wordN (l.drop a)) ((wordsL (l.drop (a + 4)) (wordN (l.drop a))).map (Value.int .i64)) ∧ Rd w' B g A n c (a + 4 + 4 * wordN (l.drop a)) .nil ∧ Below B w w' ∧ Asd g w w' := by
  obtain ⟨hc0, hc1⟩ := rd_cells hR
  have HT := Lib.hid (num_ok g B A n c a a l w hR (by omega) hn hnc hc9 hl hb hB)
  have HSB := Lib.hid hB
  have HBy := Lib.hid hb
  clear hR hB hb
  generalize hN : wordN (l.drop a) = N at *
  clear hN
  have hmx : max (most : Int) 0 = (most : Int) := by omega
  have hmx2 : ¬ (most : Int) < 0 := by omega
  have hmx3 : (if (most : Int) < 0 then (0 : Int) else (most : Int)) = (most : Int) := if_neg hmx2
  have hmx4 : (if (0 : Int) < (most : Int) then (most : Int) else (0 : Int)) = (most : Int) := by split <;> omega
  have hmx5 : ¬ (most : Int) < (N : Int) := by omega
  go_enter Tryz.func71, Tryz.ntmps71
  go_wp2_with fail
  refine HT.out.mono ?_
  rintro e w1 ⟨rfl, hR1, hb1, ha1⟩
  have HR1 := Lib.hid hR1
  have HB1 := Lib.hid hb1
  have HD1 := Lib.hid ha1
  obtain ⟨_, _, _, ev, hbk, he⟩ := hR1
  obtain rfl : ev = .nilIface := he
  have hc2 := hbk.cell 2
  simp at hc2
  clear hb1 ha1 HT hbk
  rcases Nat.eq_zero_or_pos N with h0 | h0
  · subst h0
    go_wp2_with fail
    go_ret
    exact ⟨_, rfl, World.ownsRow_nil _ _ _ _, HR1.out, HB1.out, HD1.out⟩
  · have hNz : ((N : Int) == 0) = false := by simp; omega
    have HZ := Lib.hid (take_ok g B A n c (a + 4) (4 * N) a l w1 HR1.out (by omega) (by omega) hn hnc hc9 (HSB.out w1 HB1.out) (fun W hW => HSB.out W (HB1.out.trans hW)))
    have h4N : ((4 * N : Nat) : Int) = 4 * (N : Int) := by omega
    rw [h4N] at HZ
    go_wp2_with fail
    refine HZ.out.mono ?_
    rintro e w2 ⟨C, k, rfl, hk, hs2, hR2, hb2, ha2⟩
    have hS := hs2 w2 hb2
    obtain ⟨b, off, hA, _⟩ := hS.2 (by omega)
    cases hA
    have HS := Lib.hid hS
    have HR2 := Lib.hid hR2
    have HB2 := Lib.hid (HB1.out.trans hb2)
    have HD2 := Lib.hid (HD1.out.trans ha2)
    have HBL := Lib.hid (((HBy.out.drop (a + 4)).take (4 * N)))
    have HLen := Lib.hid (show ((l.drop (a + 4)).take (4 * N)).length = 4 * N by rw [List.length_take, List.length_drop]; omega)
    have HWd := Lib.hid (fun j (hj : j < N) => (show wordN ((((l.drop (a + 4)).take (4 * N)).drop (4 * j))) = wordN ((l.drop (a + 4)).drop (4 * j)) by
      have hlen : (l.drop (a + 4)).length = n - (a + 4) := by rw [List.length_drop, hl]
      rw [List.drop_take]
      rw [← wordN_take (l := List.take (4 * N - 4 * j) _) (by rw [List.length_take, List.length_drop, hlen]; omega), List.take_take, Nat.min_eq_left (by omega), wordN_take (by rw [List.length_drop, hlen]; omega)]))
    have hBw2 : B ≤ w2.heap.size := Nat.le_trans HR2.out.1 (Nat.le_of_lt (by obtain ⟨_, _, _, _, h, _⟩ := HR2.out; exact h.lt))
    clear hs2 hR2 hb2 ha2 HZ hS hc0 hc1 hc2
    generalize (l.drop (a + 4)).take (4 * N) = bl at *
    generalize hrl : l.drop (a + 4) = rl at *
    have HRL := Lib.hid hrl
    clear hrl
    go_wp2_with fail
    go_loopw [7, 8] (fun bv lv wr => ∃ (j o k : Nat), j ≤ N ∧ bv = .slice (some ⟨b, o, none⟩) (4 * (N - j)) k ∧ (j < N → o = off + 4 * j) ∧ (4 * (N - j) ≤ k ∧ k ≤ 9223372036854775807) ∧ wr.ownsRow w2.heap.size 3 1 lv j ((wordsL rl j).map (Value.int .i64)) ∧ Below w2.heap.size w2 wr) (fun bv _ _ => lenV bv)
    case atStart => exact ⟨0, off, k, Nat.zero_le _, by rw [Nat.sub_zero], fun _ => rfl, by rw [Nat.sub_zero]; exact hk, World.ownsRow_nil _ _ _ _, Below.refl _ _⟩
    case round =>
      obtain ⟨j, o, k', hj, rfl, ho, hk', hown, hb⟩ := hrel
      have HO := Lib.hid hown
      have HBr := Lib.hid hb
      by_cases hlt : j < N
      · obtain rfl := ho hlt
        have hlw := wordN_lt (HBL.out.drop (4 * j))
        have HA := Lib.hid (wordAt_any (bl.drop (4 * j)) (some ⟨b, off + 4 * j, none⟩) (4 * (N - j)) k' wr (by rw [List.length_drop, HLen.out]; omega) (by omega) (HBL.out.drop _) (by
          have h1 := (HS.out.keep hb).drop (k := 4 * j) (by omega)
          rw [← List.map_drop, show 4 * N - 4 * j = 4 * (N - j) by omega] at h1
          exact h1))
        rw [HWd.out j hlt] at HA hlw
        have HWS := Lib.hid (show wordsL rl (j + 1) = wordsL rl j ++ [(wordN (rl.drop (4 * j)) : Int)] from rfl)
        generalize wordN (rl.drop (4 * j)) = Wj at *
        have hpos : (0 : Int) < ((4 * (N - j) : Nat) : Int) := by omega
        have hge4 : (4 : Int) ≤ ((4 * (N - j) : Nat) : Int) := by omega
        have hsub : 4 * (N - j) - 4 = 4 * (N - (j + 1)) := by omega
        generalize hm : 4 * (N - j) = mm at *
        have HM := Lib.hid hm
        clear hown hb hm
        by_cases hk4 : k' = 4
        · subst hk4
          go_wp2_with fail
          refine HA.out.mono ?_
          rintro e w3 ⟨rfl, hq⟩
          have HB3 := Lib.hid (HBr.out.andThen (drew_bel hq))
          have HO3 := Lib.hid (own_below HO.out (fun g hg => (HO.out.lt g hg).2) (drew_bel hq))
          clear hq HA
          go_wp2_with (at_builtin; refine wpList_push elemInt (w0 := w2) _ _ rfl rfl HO3.out HB3.out (Nat.le_refl _) rfl rfl rfl (by simp [Value.oneCell']) (by unfold lim; omega) (by unfold lim; omega) ?_; intro v4 w4 hown4 hb4; have HO4 := Lib.hid hown4; clear hown4)
          go_roundw
          case rel =>
            refine ⟨j + 1, _, _, by omega, rfl, fun h => by omega, by omega, ?_, hb4⟩
            rw [HWS.out, List.map_append]; exact HO4.out
          case measure => simp [lenV]; omega
        · go_wp2_with fail
          refine HA.out.mono ?_
          rintro e w3 ⟨rfl, hq⟩
          have HB3 := Lib.hid (HBr.out.andThen (drew_bel hq))
          have HO3 := Lib.hid (own_below HO.out (fun g hg => (HO.out.lt g hg).2) (drew_bel hq))
          clear hq HA
          go_wp2_with (at_builtin; refine wpList_push elemInt (w0 := w2) _ _ rfl rfl HO3.out HB3.out (Nat.le_refl _) rfl rfl rfl (by simp [Value.oneCell']) (by unfold lim; omega) (by unfold lim; omega) ?_; intro v4 w4 hown4 hb4; have HO4 := Lib.hid hown4; clear hown4)
          go_roundw
          case rel =>
            refine ⟨j + 1, _, _, by omega, rfl, fun h => by omega, by omega, ?_, hb4⟩
            rw [HWS.out, List.map_append]; exact HO4.out
          case measure => simp [lenV]; omega
      · obtain rfl : j = N := by omega
        obtain ⟨C, kk, rfl, hsl⟩ := Sl.own hown
        have HX := Lib.hid hsl
        have HOw := Lib.hid hown
        rw [Nat.sub_self]
        clear hown hsl hb
        go_wp2_with fail
        go_ret
        exact ⟨_, rfl, by rw [HRL.out]; exact own_mono HOw.out HD2.out.1, HR2.out.keep HBr.out, HB2.out.trans (HBr.out.mono hBw2), HD2.out.trans (Asd.of HBr.out)⟩

/-- An error of a reader. -/
def rdBad (E : Err) : Prop := ∃ (a : Int) (s : ByteArray), s.size ≤ 100 ∧ (E = .flt 9 a s ∨ E = .flt 6 a s)
theorem rdBad.ne {E : Err} (h : rdBad E) : E ≠ .nil := by
  obtain ⟨a, s, _, rfl | rfl⟩ := h <;> exact fun e => by cases e
/-- Is there a list at a place, of at most so many numbers? -/
def okAt (l : List Int) (a most : Nat) : Prop := a + 4 ≤ l.length ∧ wordN (l.drop a) ≤ most ∧ a + 4 + 4 * wordN (l.drop a) ≤ l.length
set_option maxHeartbeats 2000000 in
theorem num_short (g B : Nat) (A : Option Addr) (n c a from_ : Nat) (w : World) (hR : Rd w B g A n c a .nil) (hm : n < a + 4) (hn : n ≤ 1099511627776) (hfr : from_ ≤ n) :
    Calls Tryz.prog 94 #[.pointer (some ⟨g, 0, none⟩), .int .i64 (from_ : Int)] w fun e w' => e = .returned (.int .i64 0) ∧ Rd w' B g A n c from_ (.flt 9 from_ txtBytes) ∧ Below B w w' ∧ Asd g w w' := by
  have HT := Lib.hid (take_shortA g B A n c a 4 from_ w hR hm hn (by omega) hfr)
  have nn := fun w => nilEq w none 0 0
  clear hR
  go_enter Tryz.func94, Tryz.ntmps94
  go_wp2_with fail
  refine HT.out.mono ?_
  rintro e w1 ⟨rfl, h1, h2, h3⟩
  have H1 := Lib.hid h1
  have H2 := Lib.hid h2
  have H3 := Lib.hid h3
  clear h1 h2 h3 HT
  go_wp2_with fail
  go_ret
  exact ⟨rfl, H1.out, H2.out, H3.out⟩
set_option maxHeartbeats 8000000 in
theorem List_short (g B : Nat) (A : Option Addr) (n c a : Nat) (most : Int) (w : World) (hR : Rd w B g A n c a .nil) (hm : n < a + 4) (hn : n ≤ 1099511627776) :
    Calls Tryz.prog 71 #[.pointer (some ⟨g, 0, none⟩), .int .i64 most] w fun e w' => e = .returned (.slice none 0 0) ∧ Rd w' B g A n c a (.flt 9 a txtBytes) ∧ Below B w w' ∧ Asd g w w' := by
  obtain ⟨hc0, hc1⟩ := rd_cells hR
  have HT := Lib.hid (num_short g B A n c a a w hR hm hn hR.2.2.1)
  clear hR
  go_enter Tryz.func71, Tryz.ntmps71
  go_wp2_with fail
  refine HT.out.mono ?_
  rintro e w1 ⟨rfl, h1, h2, h3⟩
  have H1 := Lib.hid h1
  have H2 := Lib.hid h2
  have H3 := Lib.hid h3
  obtain ⟨_, _, _, ev, hb, gv, rfl, hv⟩ := h1
  have hc2 := hb.cell 2
  simp at hc2
  clear h2 h3 hb hv hc0 hc1 HT
  go_wp2_with fail
  go_ret
  exact ⟨rfl, H1.out, H2.out, H3.out⟩

set_option maxHeartbeats 8000000 in
theorem List_large (g B : Nat) (A : Option Addr) (n c a most : Nat) (l : List Int) (w : World) (hR : Rd w B g A n c a .nil) (hm : a + 4 ≤ n) (h60 : most < wordN (l.drop a)) (hn : n ≤ 1099511627776) (hnc : n ≤ c) (hc9 : c ≤ 9223372036854775807) (hl : l.length = n) (hb : Bys l) (hB : ∀ w', Below B w w' → Sl w' 1 A n (l.map (Value.int .u8))) :
    Calls Tryz.prog 71 #[.pointer (some ⟨g, 0, none⟩), .int .i64 (most : Int)] w fun e w' => e = .returned (.slice none 0 0) ∧ Rd w' B g A n c a (.flt 6 a txtList) ∧ Below B w w' ∧ Asd g w w' := by
  obtain ⟨hc0, hc1⟩ := rd_cells hR
  have han := hR.2.2.1
  have HT := Lib.hid (num_ok g B A n c a a l w hR hm hn hnc hc9 hl hb hB)
  have hmx : max (most : Int) 0 = (most : Int) := by omega
  have hmx2 : ¬ (most : Int) < 0 := by omega
  have hmx3 : (if (most : Int) < 0 then (0 : Int) else (most : Int)) = (most : Int) := if_neg hmx2
  have hmx4 : (if (0 : Int) < (most : Int) then (most : Int) else (0 : Int)) = (most : Int) := by split <;> omega
  have hlt := wordN_lt (hb.drop a)
  clear hR hB hb
  generalize wordN (l.drop a) = N at *
  have hmx5 : (most : Int) < (N : Int) := by omega
  go_enter Tryz.func71, Tryz.ntmps71
  go_wp2_with fail
  refine HT.out.mono ?_
  rintro e w1 ⟨rfl, hR1, hb1, ha1⟩
  have HB1 := Lib.hid hb1
  have HD1 := Lib.hid ha1
  obtain ⟨hBg, hf, _, ev, hbk, he⟩ := hR1
  obtain rfl : ev = .nilIface := he
  have HBk1 := Lib.hid hbk
  have hc2 := hbk.cell 2
  simp at hc2
  have hBw : B ≤ w1.heap.size := Nat.le_trans hBg (Nat.le_of_lt hbk.lt)
  clear hb1 ha1 HT hbk hc0 hc1
  go_wp2_with fail
  refine (New_err 6 a txtList w1).mono ?_
  rintro e w2 ⟨v, rfl, ⟨gv, rfl, hv⟩, hb2⟩
  have hbk2 := HBk1.out.keep hb2
  have hd1 := hbk2.cell 1
  have hd2 := hbk2.cell 2
  have hf1 := hbk2.frozen 1
  have hf2 := hbk2.frozen 2
  simp at hd1 hd2
  have hgne : gv ≠ g := fun e => by
    subst e
    unfold Blk at hv hbk2
    rw [hv] at hbk2
    injection hbk2 with hbk2
    injection hbk2 with _ h3
    exact absurd h3 (by decide)
  have hF := (hbk2.set_ 1 (.int .i64 a)).set_ 2 (.iface 78 (.pointer (some ⟨gv, 0, none⟩)))
  have hF2 := hF.cell 2
  simp at hF2
  have HT := Lib.hid (show Rd ((w2.setCell ⟨g, 1, none⟩ (.int .i64 a)).setCell ⟨g, 2, none⟩ (.iface 78 (.pointer (some ⟨gv, 0, none⟩)))) B g A n c a (.flt 6 a txtList) by
    refine ⟨hBg, trivial, han, _, ?_, ⟨gv, rfl, ?_⟩⟩
    · simpa using hF
    · exact ((hv.far (p := ⟨g, 1, none⟩) hgne _).far (p := ⟨g, 2, none⟩) hgne _))
  have HB2 := Lib.hid (HB1.out.trans (hb2.mono hBw))
  have HD2 := Lib.hid (HD1.out.trans (Asd.of hb2))
  clear hv hbk2 hgne hb2 hF
  go_wp2_with fail
  go_ret
  exact ⟨rfl, HT.out, (HB2.out.setCell (p := ⟨g, 1, none⟩) hBg _).setCell (p := ⟨g, 2, none⟩) hBg _, (HD2.out.setCell 1 _).setCell 2 _⟩
set_option maxHeartbeats 8000000 in
theorem List_cut (g B : Nat) (A : Option Addr) (n c a most : Nat) (l : List Int) (w : World) (hR : Rd w B g A n c a .nil) (hm : a + 4 ≤ n) (h60 : wordN (l.drop a) ≤ most) (hct : n < a + 4 + 4 * wordN (l.drop a)) (hn : n ≤ 1099511627776) (hnc : n ≤ c) (hc9 : c ≤ 9223372036854775807) (hl : l.length = n) (hb : Bys l) (hB : ∀ w', Below B w w' → Sl w' 1 A n (l.map (Value.int .u8))) :
    Calls Tryz.prog 71 #[.pointer (some ⟨g, 0, none⟩), .int .i64 (most : Int)] w fun e w' => e = .returned (.slice none 0 0) ∧ Rd w' B g A n c a (.flt 9 a txtBytes) ∧ Below B w w' ∧ Asd g w w' := by
  obtain ⟨hc0, hc1⟩ := rd_cells hR
  have han := hR.2.2.1
  have HT := Lib.hid (num_ok g B A n c a a l w hR hm hn hnc hc9 hl hb hB)
  have hmx : max (most : Int) 0 = (most : Int) := by omega
  have hmx2 : ¬ (most : Int) < 0 := by omega
  have hmx3 : (if (most : Int) < 0 then (0 : Int) else (most : Int)) = (most : Int) := if_neg hmx2
  have hmx4 : (if (0 : Int) < (most : Int) then (most : Int) else (0 : Int)) = (most : Int) := by split <;> omega
  have hlt := wordN_lt (hb.drop a)
  clear hR hB hb
  generalize wordN (l.drop a) = N at *
  have hmx5 : ¬ (most : Int) < (N : Int) := by omega
  have hNz : ((N : Int) == 0) = false := by simp; omega
  go_enter Tryz.func71, Tryz.ntmps71
  go_wp2_with fail
  refine HT.out.mono ?_
  rintro e w1 ⟨rfl, hR1, hb1, ha1⟩
  have HB1 := Lib.hid hb1
  have HD1 := Lib.hid ha1
  have HZ := Lib.hid (take_shortA g B A n c (a + 4) (4 * N) a w1 hR1 (by omega) hn (by omega) han)
  have h4N : ((4 * N : Nat) : Int) = 4 * (N : Int) := by omega
  rw [h4N] at HZ
  obtain ⟨hBg, hf, _, ev, hbk, he⟩ := hR1
  obtain rfl : ev = .nilIface := he
  have hc2 := hbk.cell 2
  simp at hc2
  have hBw : B ≤ w1.heap.size := Nat.le_trans hBg (Nat.le_of_lt hbk.lt)
  clear hb1 ha1 HT hbk hc0 hc1
  go_wp2_with fail
  refine HZ.out.mono ?_
  rintro e w2 ⟨rfl, h1, h2, h3⟩
  have H1 := Lib.hid h1
  have H2 := Lib.hid (HB1.out.trans h2)
  have H3 := Lib.hid (HD1.out.trans h3)
  clear h1 h2 h3 HZ hc2
  go_wp2_with fail
  go_loop [7, 8] (fun bv lv => bv = .slice none 0 0 ∧ lv = .slice none 0 0) (fun _ _ => 0)
  case atStart => exact ⟨rfl, rfl⟩
  case round =>
    obtain ⟨rfl, rfl⟩ := hrel
    go_wp2_with fail
    go_ret
    exact ⟨rfl, H1.out, H2.out, H3.out⟩
/-- List, whatever the bytes are. -/
theorem List_rd (g B : Nat) (A : Option Addr) (n c a most : Nat) (E : Err) (l : List Int) (w : World) (hR : Rd w B g A n c a E) (hE : E = .nil ∨ rdBad E) (hn : n ≤ 1099511627776) (hnc : n ≤ c) (hc9 : c ≤ 9223372036854775807) (hl : l.length = n) (hb : Bys l) (hB : ∀ w', Below B w w' → Sl w' 1 A n (l.map (Value.int .u8))) :
    Calls Tryz.prog 71 #[.pointer (some ⟨g, 0, none⟩), .int .i64 (most : Int)] w fun e w' => ∃ v xs, e = .returned v ∧ w'.ownsRow w.heap.size 3 1 v xs.length (xs.map (Value.int .i64)) ∧ Below B w w' ∧ Asd g w w' ∧
      ((E = .nil ∧ okAt l a most ∧ xs = wordsL (l.drop (a + 4)) (wordN (l.drop a)) ∧ Rd w' B g A n c (a + 4 + 4 * wordN (l.drop a)) .nil) ∨ (xs = [] ∧ (E = .nil → ¬ okAt l a most) ∧ ∃ a' E', rdBad E' ∧ Rd w' B g A n c a' E')) := by
  rcases hE with rfl | hE
  · have hbad : ∀ {e : Ending} {w' : World} {a' : Nat} {E' : Err}, rdBad E' → ¬ okAt l a most → e = .returned (.slice none 0 0) ∧ Rd w' B g A n c a' E' ∧ Below B w w' ∧ Asd g w w' → ∃ v xs, e = .returned v ∧ w'.ownsRow w.heap.size 3 1 v xs.length (xs.map (Value.int .i64)) ∧ Below B w w' ∧ Asd g w w' ∧
      (((Err.nil : Err) = .nil ∧ okAt l a most ∧ xs = wordsL (l.drop (a + 4)) (wordN (l.drop a)) ∧ Rd w' B g A n c (a + 4 + 4 * wordN (l.drop a)) .nil) ∨ (xs = [] ∧ ((Err.nil : Err) = .nil → ¬ okAt l a most) ∧ ∃ a' E', rdBad E' ∧ Rd w' B g A n c a' E')) :=
      fun hE' hno ⟨h1, h2, h3, h4⟩ => ⟨_, [], h1, World.ownsRow_nil _ _ _ _, h3, h4, .inr ⟨rfl, fun _ => hno, _, _, hE', h2⟩⟩
    by_cases h1 : a + 4 ≤ n
    · by_cases h2 : wordN (l.drop a) ≤ most
      · by_cases h3 : a + 4 + 4 * wordN (l.drop a) ≤ n
        · refine (List_okR g B A n c a most l w hR h3 h2 hn hnc hc9 hl hb hB).mono fun e w' ⟨v, k1, k2, k3, k4, k5⟩ => ?_
          refine ⟨v, _, k1, ?_, k4, k5, .inl ⟨rfl, ⟨by omega, h2, by omega⟩, rfl, k3⟩⟩
          rw [wordsL_len]
          exact k2
        · exact (List_cut g B A n c a most l w hR h1 h2 (by omega) hn hnc hc9 hl hb hB).mono fun e w' h => hbad ⟨_, _, by decide, .inl rfl⟩ (fun k => by have := k.2.2; omega) h
      · exact (List_large g B A n c a most l w hR h1 (by omega) hn hnc hc9 hl hb hB).mono fun e w' h => hbad ⟨_, _, by decide, .inr rfl⟩ (fun k => h2 k.2.1) h
    · exact (List_short g B A n c a most w hR (by omega) hn).mono fun e w' h => hbad ⟨_, _, by decide, .inl rfl⟩ (fun k => by have := k.1; omega) h
  · refine (List_err g B A n c a E most w hR hE.ne).mono fun e w' ⟨h1, h2⟩ => ?_
    subst h2
    exact ⟨_, [], h1, World.ownsRow_nil _ _ _ _, Below.refl _ _, Asd.of (Below.refl _ _), .inr ⟨rfl, fun e => absurd e hE.ne, _, _, hE, hR⟩⟩
end Go.Proofs.YtbbmgcdocolakaaGreatDoor
/-
  fault.In by its contract.
-/
namespace Go.Proofs.YtbbmgcdocolakaaGreatDoor
open Go.RowKit Go.Extern.Stop Go.Stop Go.Extern
set_option maxRecDepth 100000

def Err.in_ (word : ByteArray) : Err → Err
  | .nil => .nil
  | e => .step word e
theorem Err.in_of {E : Err} (h : E ≠ .nil) (word : ByteArray) : E.in_ word = .step word E := by cases E <;> first | exact absurd rfl h | rfl

theorem In_any (word : ByteArray) (E : Err) (v : Value) (w : World) (hE : E.At w v) :
    Calls Tryz.prog 39 #[.string word, v] w fun e w' => ∃ v', e = .returned v' ∧ (E.in_ word).At w' v' ∧ Below w.heap.size w w' := by
  by_cases hne : E = .nil
  · subst hne
    obtain rfl : v = .nilIface := hE
    go_enter Tryz.func39, Tryz.ntmps39
    go_wp2
    go_ret
    exact ⟨_, rfl, rfl, Below.refl _ _⟩
  · have HE := Lib.hid hE
    have HN := Lib.hid hne
    obtain ⟨T, x, rfl⟩ := Err.At.iface_ hE hne
    clear hE hne
    go_enter Tryz.func39, Tryz.ntmps39
    go_wp2
    go_ret
    have hb := bel_al (Below.refl w.heap.size w) (.cells #[.string word, .iface T x] 127)
    refine ⟨_, rfl, ?_, hb⟩
    rw [Err.in_of HN.out]
    exact ⟨_, _, rfl, Blk.new _ _ _, HE.out.keep hb, HN.out⟩
end Go.Proofs.YtbbmgcdocolakaaGreatDoor
/-
  Contracts of wire.Reader: Num where it fails, End whatever there is.
-/
namespace Go.Proofs.YtbbmgcdocolakaaGreatDoor
open Go.RowKit
set_option maxRecDepth 100000
set_option linter.unusedVariables false

set_option maxHeartbeats 2000000 in
theorem End_left (g B : Nat) (A : Option Addr) (n c a : Nat) (w : World) (hR : Rd w B g A n c a .nil) (hn : n ≤ 1099511627776) (ha : a < n) :
    Calls Tryz.prog 72 #[.pointer (some ⟨g, 0, none⟩)] w fun e w' => ∃ ev, e = .returned ev ∧ (Err.flt 2 a txtBytes).At w' ev ∧ Below w.heap.size w w' := by
  have HL := Lib.hid (Left_any g B A n c a .nil w hR hn)
  have HRd := Lib.hid hR
  obtain ⟨_, hf, _, ev, hb, he⟩ := hR
  obtain rfl : ev = .nilIface := he
  have hc2 := hb.cell 2
  simp at hc2
  clear hb
  have hpos : (0 : Int) < ((n - a : Nat) : Int) := by omega
  generalize hd : n - a = dd at *
  clear hd
  go_enter Tryz.func72, Tryz.ntmps72
  go_wp2_with fail
  refine HL.out.mono ?_
  rintro e w1 ⟨rfl, hb⟩
  obtain ⟨hc0, hc1⟩ := rd_cells (HRd.out.keep hb)
  have HB := Lib.hid hb
  clear hb
  go_wp2_with fail
  refine (New_err 2 a txtBytes w1).mono ?_
  rintro e w2 ⟨v, rfl, hv, hb2⟩
  have HV := Lib.hid hv
  have HB2 := Lib.hid hb2
  clear hv hb2
  go_wp2_with fail
  go_ret
  exact ⟨_, rfl, HV.out, HB.out.andThen HB2.out⟩
/-- End, whatever there is. -/
theorem End_flt (g B : Nat) (A : Option Addr) (n c a : Nat) (E : Err) (w : World) (hR : Rd w B g A n c a E) (hE : E = .nil ∨ rdBad E) (hn : n ≤ 1099511627776) :
    Calls Tryz.prog 72 #[.pointer (some ⟨g, 0, none⟩)] w fun e w' => ∃ ev, e = .returned ev ∧ Below w.heap.size w w' ∧ ((E = .nil ∧ a = n ∧ ev = .nilIface) ∨ ∃ (E' : Err) (T : TypeId) (x : Value), E'.At w' ev ∧ ev = .iface T x ∧ E' ≠ .nil ∧ (∃ (c' a' : Int) (s : ByteArray), E' = .flt c' a' s ∧ s.size ≤ 100 ∧ (c' = 2 ∨ c' = 6 ∨ c' = 9)) ∧ (E = .nil → a < n)) := by
  have han := hR.2.2.1
  rcases hE with rfl | hE
  · by_cases h : a = n
    · subst h
      exact (End_ok g B A a c w hR hn).mono fun e w' ⟨h1, h2⟩ => ⟨_, h1, h2, .inl ⟨rfl, rfl, rfl⟩⟩
    · refine (End_left g B A n c a w hR hn (by omega)).mono fun e w' ⟨ev, h1, h2, h3⟩ => ⟨ev, h1, h3, .inr ?_⟩
      have hne : Err.flt 2 (a : Int) txtBytes ≠ .nil := fun e => by cases e
      obtain ⟨T, x, rfl⟩ := Err.At.iface_ h2 hne
      exact ⟨_, T, x, h2, rfl, hne, ⟨_, _, _, rfl, by decide, .inl rfl⟩, fun _ => by omega⟩
  · refine (End_err g B A n c a E w hR hE.ne).mono fun e w' ⟨T, x, h1, h2, h3⟩ => ?_
    subst h3
    refine ⟨_, h1, Below.refl _ _, .inr ⟨E, T, x, h2, rfl, hE.ne, ?_, fun e => absurd e hE.ne⟩⟩
    obtain ⟨a', s, hs, rfl | rfl⟩ := hE
    · exact ⟨_, _, _, rfl, hs, .inr (.inr rfl)⟩
    · exact ⟨_, _, _, rfl, hs, .inr (.inl rfl)⟩
theorem End_gen (g B : Nat) (A : Option Addr) (n c a : Nat) (E : Err) (w : World) (hR : Rd w B g A n c a E) (hE : E = .nil ∨ rdBad E) (hn : n ≤ 1099511627776) :
    Calls Tryz.prog 72 #[.pointer (some ⟨g, 0, none⟩)] w fun e w' => ∃ ev, e = .returned ev ∧ Below w.heap.size w w' ∧ ((E = .nil ∧ a = n ∧ ev = .nilIface) ∨ ∃ (E' : Err) (T : TypeId) (x : Value), E'.At w' ev ∧ ev = .iface T x ∧ E' ≠ .nil ∧ (E'.code = 2 ∨ E'.code = 6 ∨ E'.code = 9) ∧ (E = .nil → a < n)) := by
  refine (End_flt g B A n c a E w hR hE hn).mono fun e w' ⟨ev, h1, h2, h3⟩ => ⟨ev, h1, h2, ?_⟩
  rcases h3 with h3 | ⟨E', T, x, k1, k2, k3, ⟨c', a', s, rfl, _, k4⟩, k5⟩
  · exact .inl h3
  · exact .inr ⟨_, T, x, k1, k2, k3, k4, k5⟩
theorem in_code {E : Err} {s : ByteArray} : (E.in_ s).code = E.code := by cases E <;> rfl
theorem in_ne {E : Err} {s : ByteArray} (h : E ≠ .nil) : E.in_ s ≠ .nil := by rw [Err.in_of h]; intro e; cases e
end Go.Proofs.YtbbmgcdocolakaaGreatDoor
/-
  Contracts of wire.Writer: Num, List where all fits: rows of other cells are left be.
-/
namespace Go.Proofs.YtbbmgcdocolakaaGreatDoor
open Go.RowKit
set_option maxRecDepth 100000
set_option linter.unusedVariables false

/-- All is left be but cells of bytes and of writers. -/
def okO (o : Obj) : Prop := ∀ cs t fr, o = .cells cs t fr → t ≠ 5 ∧ t ≠ 90
def WkT (w w' : World) : Prop := w.heap.size ≤ w'.heap.size ∧ ∀ (k : Nat) (o : Obj), okO o → w.heap[k]? = some o → w'.heap[k]? = some o
theorem WkT.refl (w : World) : WkT w w := ⟨Nat.le_refl _, fun _ _ _ h => h⟩
theorem WkT.trans {a b c : World} (h : WkT a b) (k : WkT b c) : WkT a c := ⟨Nat.le_trans h.1 k.1, fun i o ho hi => k.2 i o ho (h.2 i o ho hi)⟩
theorem WkT.of {w w' : World} (h : Below w.heap.size w w') : WkT w w' := ⟨h.size, fun k o _ hk => (h.block k (Array.getElem?_eq_some_iff.1 hk).1).trans hk⟩
theorem WkT.grown {w w' : World} {B n : Nat} {v : Value} {xs : List Value} (hown : w.ownsRow B 5 1 v n xs) (hg : w.grownBy w' v.ownBlock) : WkT w w' := ⟨hg.size, fun k o ho hk => by
  refine (hg.block k (Array.getElem?_eq_some_iff.1 hk).1 fun e => ?_).trans hk
  rcases hown.2 with ⟨rfl, _⟩ | ⟨g, cap, cur, rfl, _, h2, _⟩
  · simp [Value.ownBlock] at e
  · obtain rfl : k = g := by simpa [Value.ownBlock] using e
    rw [h2] at hk
    cases hk
    exact (ho _ _ _ rfl).1 rfl⟩
theorem WkT.set {w : World} {g i : Nat} {cs : Array Value} (hb : Blk w g 90 cs) (u : Value) : WkT w (w.setCell ⟨g, i, none⟩ u) := ⟨by simp, fun k o ho hk => by
  refine (Below.heap_setCell w ⟨g, i, none⟩ u k fun e => ?_).trans hk
  have e' : k = g := e
  subst e'
  unfold Blk at hb
  rw [hb] at hk
  cases hk
  exact (ho _ _ _ rfl).2 rfl⟩
theorem WkT.own {w w' : World} {B size n : Nat} {e : TypeId} {v : Value} {xs : List Value} (h : w.ownsRow B e size v n xs) (hk : WkT w w') (h1 : e ≠ 5) (h2 : e ≠ 90) : w'.ownsRow B e size v n xs := by
  refine ⟨h.1, ?_⟩
  rcases h.2 with h' | ⟨g, cap, cur, rfl, k1, k2, k3⟩
  · exact .inl h'
  · exact .inr ⟨g, cap, cur, rfl, k1, hk.2 g _ (fun cs t fr e => by cases e; exact ⟨h1, h2⟩) k2, k3⟩

set_option maxHeartbeats 2000000 in
theorem Num_K (k : Nat) (hk : k < 4294967296) (g B : Nat) (bs : List Int) (E : Err) (w : World) (hW : Wr w B g bs E) (hl : bs.length ≤ 1099511627776) :
    Calls Tryz.prog 76 #[.pointer (some ⟨g, 0, none⟩), .int .i64 k] w fun e w' => e = .returned (.tuple #[]) ∧ Wr w' B g (bs ++ wordL k) E ∧ Below B w w' ∧ WkT w w' := by
  obtain ⟨hBg, hE, bv, ev, hb, hown, he⟩ := hW
  have hBw : B ≤ w.heap.size := Nat.le_trans hBg (Nat.le_of_lt hb.lt)
  have hc0 := hb.cell 0
  simp at hc0
  have HW := Lib.hid (word_own k hk bs bv bs.length B w rfl hown hBw hl)
  have HBk := Lib.hid hb
  have HO := Lib.hid hown
  have HE := Lib.hid he
  clear hb hown he
  go_enter Tryz.func76, Tryz.ntmps76
  go_wp2_with fail
  refine HW.out.mono ?_
  rintro e w1 ⟨v', rfl, hown1, hgr⟩
  obtain ⟨g1, c1, rfl, _⟩ := own_form hown1 (by omega)
  have hb1 := hgr.blkOwn HBk.out HO.out (by decide)
  have hcell := hb1.cell 0
  simp at hcell
  have hfr := hb1.frozen 0
  have HT := Lib.hid (Wr.turn (bs' := bs ++ wordL k) hBg hE HBk.out HO.out HE.out hgr.g (by rw [List.length_append, wordL_len]; exact hown1))
  have HB1 := Lib.hid (hgr.belowOwn hBw HO.out)
  have HK1 := Lib.hid ((WkT.grown HO.out hgr.g).trans (WkT.set (i := 0) hb1 (.slice (some ⟨g1, 0, none⟩) (bs.length + 4) c1)))
  clear hown1 hgr hb1 HW
  go_wp2_with fail
  go_end0
  exact ⟨rfl, HT.out, HB1.out.setCell (p := ⟨g, 0, none⟩) hBg _, HK1.out⟩
/-- A list in bytes. -/
def encW (l : List Int) : List Int := wordL l.length ++ l.flatMap fun x => wordL x.toNat
theorem encF_len (l : List Int) : (l.flatMap fun x => wordL x.toNat).length = 4 * l.length := by
  induction l with
  | nil => rfl
  | cons x l ih => rw [List.flatMap_cons, List.length_append, ih, wordL_len, List.length_cons]; omega
theorem encW_len (l : List Int) : (encW l).length = 4 + 4 * l.length := by unfold encW; rw [List.length_append, encF_len, wordL_len]
theorem fits_nat {z : Int} (h : fits z) : ∃ k : Nat, z = (k : Int) ∧ k < 4294967296 := ⟨z.toNat, by have := h.1; omega, by have := h.1; have := h.2; omega⟩

set_option maxHeartbeats 2000000 in
theorem List_K (l : List Int) (hr : ∀ x ∈ l, fits x) (A : Option Addr) (n c : Nat) (hn : n ≤ 268435456) (hln : l.length = n) (g B : Nat) (bs : List Int) (E : Err) (w : World)
    (hsB : ∀ w', Below B w w' → WkT w w' → Sl w' 1 A n (l.map (Value.int .i64))) (hW : Wr w B g bs E) (hl : bs.length ≤ 1099511627) :
    Calls Tryz.prog 44 #[.pointer (some ⟨g, 0, none⟩), .slice A n c] w fun e w' => e = .returned (.tuple #[]) ∧ Wr w' B g (bs ++ encW l) E ∧ Below B w w' ∧ WkT w w' := by
  have HN := Lib.hid (Num_K n (by omega) g B bs E w hW (by omega))
  have HSB := Lib.hid hsB
  have HR := Lib.hid hr
  have HL := Lib.hid hl
  clear hW hsB hr hl
  go_enter Tryz.func44, Tryz.ntmps44
  go_wp2_with fail
  refine HN.out.mono ?_
  rintro e w1 ⟨rfl, hW1, hb1, hk1⟩
  have HW1 := Lib.hid hW1
  have HB1 := Lib.hid hb1
  have HK1 := Lib.hid hk1
  clear hW1 hb1 hk1 HN
  go_wp2_with fail
  go_loopw [12] (fun iv wr => ∃ i : Nat, i ≤ n ∧ iv = .int .i64 i ∧ Hid (Wr wr B g (bs ++ wordL n ++ (l.take i).flatMap fun x => wordL x.toNat) E) ∧ Hid (Below B w wr) ∧ Hid (WkT w wr)) (fun iv _ => n - (intOf iv).toNat)
  case atStart => exact ⟨0, Nat.zero_le _, rfl, Lib.hid (by rw [List.take_zero, List.flatMap_nil, List.append_nil]; exact HW1.out), HB1, HK1⟩
  case round =>
    clear HW1 HB1 HK1
    obtain ⟨i, hi, rfl, HWr, HB, HK⟩ := hrel
    by_cases hlt : i < n
    · have hj : i < l.length := by omega
      obtain ⟨b, off, u, rfl, e1, c1⟩ := (HSB.out wr HB.out HK.out).one hlt
      rw [List.getElem?_map, List.getElem?_eq_getElem hj] at e1
      obtain rfl := Option.some.inj e1
      have HT := Lib.hid (List.take_succ_eq_append_getElem hj)
      have hz := HR.out _ (List.getElem_mem hj)
      generalize l[i] = z at *
      obtain ⟨k, rfl, hk⟩ := fits_nat hz
      have HZ := Lib.hid (Num_K k hk g B _ E wr HWr.out (by
        have h1 := encF_len (l.take i)
        rw [List.length_take] at h1
        rw [List.length_append, List.length_append, h1, wordL_len]
        have := HL.out
        omega))
      clear e1 hz
      go_wp2_with fail
      refine HZ.out.mono ?_
      rintro e w2 ⟨rfl, hW2, hb2, hk2⟩
      have HW2 := Lib.hid hW2
      have HB2 := Lib.hid (HB.out.trans hb2)
      have HK2 := Lib.hid (HK.out.trans hk2)
      clear hW2 hb2 hk2 HZ
      go_wp2_with fail
      go_roundw
      case rel => exact ⟨i + 1, by omega, by go_num, Lib.hid (by rw [HT.out, List.flatMap_append, ← List.append_assoc]; simpa using HW2.out), HB2, HK2⟩
      case measure => simp [intOf]; omega
    · obtain rfl : i = n := by omega
      rw [List.take_of_length_le (by omega)] at HWr
      go_wp2_with fail
      go_end0
      refine ⟨rfl, ?_, HB.out, HK.out⟩
      unfold encW
      rw [hln, ← List.append_assoc]
      exact HWr.out
end Go.Proofs.YtbbmgcdocolakaaGreatDoor
/-
  Lists in bytes, plainly: there and back.
-/
namespace Go.Proofs.YtbbmgcdocolakaaGreatDoor
open Go.RowKit
set_option linter.unusedVariables false

/-- A list at a place of bytes, and the place behind it. -/
def lst (l : List Int) (a : Nat) : List Int := wordsL (l.drop (a + 4)) (wordN (l.drop a))
def nxtA (l : List Int) (a : Nat) : Nat := a + 4 + 4 * wordN (l.drop a)
theorem words_take {l : List Int} (hb : Bys l) : ∀ j, 4 * j ≤ l.length → ((wordsL l j).flatMap fun x => wordL x.toNat) = l.take (4 * j)
  | 0, _ => by simp [wordsL]
  | j + 1, h => by
    rw [wordsL, List.flatMap_append, words_take hb j (by omega)]
    have e : ([((wordN (l.drop (4 * j)) : Nat) : Int)].flatMap fun x => wordL x.toNat) = (l.drop (4 * j)).take 4 := by
      rw [← wordL_of (hb.drop _) (by rw [List.length_drop]; omega)]
      simp
    rw [e, show 4 * (j + 1) = 4 * j + 4 by omega, List.take_add]
theorem enc_lst {l : List Int} (hb : Bys l) {a m : Nat} (h : okAt l a m) : l.take (nxtA l a) = l.take a ++ encW (lst l a) := by
  obtain ⟨h1, h2, h3⟩ := h
  unfold nxtA encW lst
  have hl : (wordsL (l.drop (a + 4)) (wordN (l.drop a))).length = wordN (l.drop a) := wordsL_len _ _
  rw [hl, words_take (hb.drop _) _ (by rw [List.length_drop]; omega), wordL_of (hb.drop a) (by rw [List.length_drop]; omega), Nat.add_assoc, List.take_add, List.take_add, List.drop_drop]
theorem nxtA_le {l : List Int} {a m : Nat} (h : okAt l a m) : nxtA l a ≤ l.length := h.2.2
theorem lst_len {l : List Int} {a m : Nat} (h : okAt l a m) : (lst l a).length ≤ m := by unfold lst; rw [wordsL_len]; exact h.2.1
theorem words_flat {xs : List Int} (hf : ∀ x ∈ xs, fits x) (rest : List Int) : ∀ j, j ≤ xs.length → wordsL ((xs.flatMap fun x => wordL x.toNat) ++ rest) j = xs.take j
  | 0, _ => by simp [wordsL]
  | j + 1, h => by
    have hj : j < xs.length := by omega
    rw [wordsL, words_flat hf rest j (by omega), List.take_succ_eq_append_getElem hj]
    congr 1
    have hx := hf _ (List.getElem_mem hj)
    have e : ((xs.flatMap fun x => wordL x.toNat) ++ rest).drop (4 * j) = wordL xs[j].toNat ++ (((xs.drop (j + 1)).flatMap fun x => wordL x.toNat) ++ rest) := by
      have e1 : xs.flatMap (fun x => wordL x.toNat) = ((xs.take j).flatMap fun x => wordL x.toNat) ++ (wordL xs[j].toNat ++ (xs.drop (j + 1)).flatMap fun x => wordL x.toNat) := by
        conv => lhs; rw [← List.take_append_drop j xs, List.drop_eq_getElem_cons hj]
        rw [List.flatMap_append, List.flatMap_cons]
      have e2 : ((xs.take j).flatMap fun x => wordL x.toNat).length = 4 * j := by rw [encF_len, List.length_take]; omega
      rw [e1, List.append_assoc, ← e2, List.drop_left, List.append_assoc]
    rw [e, wordN_of (by have := hx.1; have := hx.2; omega)]
    have := hx.1
    congr 1
    omega
theorem lst_enc {xs : List Int} (hf : ∀ x ∈ xs, fits x) (hn : xs.length < 4294967296) (pre rest : List Int) {l : List Int} (hl : l = pre ++ (encW xs ++ rest)) : wordN (l.drop pre.length) = xs.length ∧ lst l pre.length = xs ∧ nxtA l pre.length = (pre ++ encW xs).length := by
  have e1 : l.drop pre.length = wordL xs.length ++ ((xs.flatMap fun x => wordL x.toNat) ++ rest) := by rw [hl, List.drop_left, encW, List.append_assoc]
  have e2 : wordN (l.drop pre.length) = xs.length := by rw [e1, wordN_of hn]
  have e3 : l.drop (pre.length + 4) = (xs.flatMap fun x => wordL x.toNat) ++ rest := by
    rw [← List.drop_drop, e1]
    exact List.drop_left (l₁ := wordL xs.length)
  refine ⟨e2, ?_, ?_⟩
  · unfold lst
    rw [e2, e3, words_flat hf rest _ (Nat.le_refl _), List.take_of_length_le (Nat.le_refl _)]
  · unfold nxtA
    rw [e2, List.length_append, encW_len]
    omega
theorem ok_enc {xs : List Int} (hf : ∀ x ∈ xs, fits x) {m : Nat} (hm : xs.length ≤ m) (h32 : m < 4294967296) (pre rest : List Int) {l : List Int} (hl : l = pre ++ (encW xs ++ rest)) : okAt l pre.length m := by
  obtain ⟨h1, _, _⟩ := lst_enc hf (by omega) pre rest hl
  have h2 : l.length = pre.length + (4 + 4 * xs.length + rest.length) := by rw [hl, List.length_append, List.length_append, encW_len]
  unfold okAt
  omega
end Go.Proofs.YtbbmgcdocolakaaGreatDoor
