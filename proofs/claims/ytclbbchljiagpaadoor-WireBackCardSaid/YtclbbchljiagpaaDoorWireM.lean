/-
  Contracts of wire.Reader where the bytes suffice: List.
-/
import Derived.Test.YtclbbchljiagpaaDoorWireJ
import Derived.Test.YtclbbchljiagpaaDoorPermB
namespace Go.Proofs.YtclbbchljiagpaaDoor
open Go.RowKit
set_option maxRecDepth 100000
set_option linter.unusedVariables false

/-- So many words. -/
def wordsL (l : List Int) : Nat → List Int
  | 0 => []
  | j + 1 => wordsL l j ++ [(wordN (l.drop (4 * j)) : Int)]
theorem wordsL_len (l : List Int) : ∀ j, (wordsL l j).length = j
  | 0 => rfl
  | j + 1 => by rw [wordsL, List.length_append, wordsL_len l j]; rfl

set_option maxHeartbeats 8000000 in
theorem List_okA (g B : Nat) (A : Option Addr) (n c a : Nat) (l : List Int) (w : World) (hR : Rd w B g A n c a .nil) (hm : a + 4 + 4 * wordN (l.drop a) ≤ n) (h60 : wordN (l.drop a) ≤ 60) (hn : n ≤ 1099511627776) (hnc : n ≤ c) (hc9 : c ≤ 9223372036854775807) (hl : l.length = n) (hb : Bys l) (hB : ∀ w', Below B w w' → Sl w' 1 A n (l.map (Value.int .u8))) :
    Calls Tryd.prog 41 #[.pointer (some ⟨g, 0, none⟩), .int .i64 60] w fun e w' => ∃ C k, e = .returned (.slice C (wordN (l.drop a)) k) ∧ Sl w' 1 C (wordN (l.drop a)) ((wordsL (l.drop (a + 4)) (wordN (l.drop a))).map (Value.int .i64)) ∧ Rd w' B g A n c (a + 4 + 4 * wordN (l.drop a)) .nil ∧ Below B w w' ∧ Asd g w w' ∧ (∀ x, C = some x → w.heap.size ≤ x.block) := by
  obtain ⟨hc0, hc1⟩ := rd_cells hR
  have HT := Lib.hid (num_ok g B A n c a a l w hR (by omega) hn hnc hc9 hl hb hB)
  have HSB := Lib.hid hB
  have HBy := Lib.hid hb
  clear hR hB hb
  generalize hN : wordN (l.drop a) = N at *
  clear hN
  go_enter Tryd.func41, Tryd.ntmps41
  go_wp2_with fail
  refine HT.out.mono ?_
  rintro e w1 ⟨rfl, hR1, hb1, ha1⟩
  have HR1 := Lib.hid hR1
  have HB1 := Lib.hid hb1
  have HD1 := Lib.hid ha1
  obtain ⟨_, _, _, ev, hbk, he⟩ := hR1
  obtain rfl : ev = .nilIface := he
  have hc2 := hbk.cell 2
  simp at hc2
  clear hb1 ha1 HT hbk
  rcases Nat.eq_zero_or_pos N with h0 | h0
  · subst h0
    go_wp2_with fail
    go_ret
    exact ⟨none, 0, rfl, Sl.nil _ _ _, HR1.out, HB1.out, HD1.out, fun x hx => by cases hx⟩
  · have hNz : ((N : Int) == 0) = false := by simp; omega
    have HZ := Lib.hid (take_ok g B A n c (a + 4) (4 * N) a l w1 HR1.out (by omega) (by omega) hn hnc hc9 (HSB.out w1 HB1.out) (fun W hW => HSB.out W (HB1.out.trans hW)))
    have h4N : ((4 * N : Nat) : Int) = 4 * (N : Int) := by omega
    rw [h4N] at HZ
    go_wp2_with fail
    refine HZ.out.mono ?_
    rintro e w2 ⟨C, k, rfl, hk, hs2, hR2, hb2, ha2⟩
    have hS := hs2 w2 hb2
    obtain ⟨b, off, hA, _⟩ := hS.2 (by omega)
    cases hA
    have HS := Lib.hid hS
    have HR2 := Lib.hid hR2
    have HB2 := Lib.hid (HB1.out.trans hb2)
    have HD2 := Lib.hid (HD1.out.trans ha2)
    have HBL := Lib.hid (((HBy.out.drop (a + 4)).take (4 * N)))
    have HLen := Lib.hid (show ((l.drop (a + 4)).take (4 * N)).length = 4 * N by rw [List.length_take, List.length_drop]; omega)
    have HWd := Lib.hid (fun j (hj : j < N) => (show wordN ((((l.drop (a + 4)).take (4 * N)).drop (4 * j))) = wordN ((l.drop (a + 4)).drop (4 * j)) by
      have hlen : (l.drop (a + 4)).length = n - (a + 4) := by rw [List.length_drop, hl]
      rw [List.drop_take]
      rw [← wordN_take (l := List.take (4 * N - 4 * j) _) (by rw [List.length_take, List.length_drop, hlen]; omega), List.take_take, Nat.min_eq_left (by omega), wordN_take (by rw [List.length_drop, hlen]; omega)]))
    have hBw2 : B ≤ w2.heap.size := Nat.le_trans HR2.out.1 (Nat.le_of_lt (by obtain ⟨_, _, _, _, h, _⟩ := HR2.out; exact h.lt))
    clear hs2 hR2 hb2 ha2 HZ hS hc0 hc1 hc2
    generalize (l.drop (a + 4)).take (4 * N) = bl at *
    generalize hrl : l.drop (a + 4) = rl at *
    have HRL := Lib.hid hrl
    clear hrl
    go_wp2_with fail
    go_loopw [7, 8] (fun bv lv wr => ∃ (j o k : Nat), j ≤ N ∧ bv = .slice (some ⟨b, o, none⟩) (4 * (N - j)) k ∧ (j < N → o = off + 4 * j) ∧ (4 * (N - j) ≤ k ∧ k ≤ 9223372036854775807) ∧ wr.ownsRow w2.heap.size 3 1 lv j ((wordsL rl j).map (Value.int .i64)) ∧ Below w2.heap.size w2 wr) (fun bv _ _ => lenV bv)
    case atStart => exact ⟨0, off, k, Nat.zero_le _, by rw [Nat.sub_zero], fun _ => rfl, by rw [Nat.sub_zero]; exact hk, World.ownsRow_nil _ _ _ _, Below.refl _ _⟩
    case round =>
      obtain ⟨j, o, k', hj, rfl, ho, hk', hown, hb⟩ := hrel
      have HO := Lib.hid hown
      have HBr := Lib.hid hb
      by_cases hlt : j < N
      · obtain rfl := ho hlt
        have hlw := wordN_lt (HBL.out.drop (4 * j))
        have HA := Lib.hid (wordAt_any (bl.drop (4 * j)) (some ⟨b, off + 4 * j, none⟩) (4 * (N - j)) k' wr (by rw [List.length_drop, HLen.out]; omega) (by omega) (HBL.out.drop _) (by
          have h1 := (HS.out.keep hb).drop (k := 4 * j) (by omega)
          rw [← List.map_drop, show 4 * N - 4 * j = 4 * (N - j) by omega] at h1
          exact h1))
        rw [HWd.out j hlt] at HA hlw
        have HWS := Lib.hid (show wordsL rl (j + 1) = wordsL rl j ++ [(wordN (rl.drop (4 * j)) : Int)] from rfl)
        generalize wordN (rl.drop (4 * j)) = Wj at *
        have hpos : (0 : Int) < ((4 * (N - j) : Nat) : Int) := by omega
        have hge4 : (4 : Int) ≤ ((4 * (N - j) : Nat) : Int) := by omega
        have hsub : 4 * (N - j) - 4 = 4 * (N - (j + 1)) := by omega
        generalize hm : 4 * (N - j) = mm at *
        have HM := Lib.hid hm
        clear hown hb hm
        by_cases hk4 : k' = 4
        · subst hk4
          go_wp2_with fail
          refine HA.out.mono ?_
          rintro e w3 ⟨rfl, hq⟩
          have HB3 := Lib.hid (HBr.out.andThen (drew_bel hq))
          have HO3 := Lib.hid (own_below HO.out (fun g hg => (HO.out.lt g hg).2) (drew_bel hq))
          clear hq HA
          go_wp2_with (at_builtin; refine wpList_push elemInt (w0 := w2) _ _ rfl rfl HO3.out HB3.out (Nat.le_refl _) rfl rfl rfl (by simp [Value.oneCell']) (by unfold lim; omega) (by unfold lim; omega) ?_; intro v4 w4 hown4 hb4; have HO4 := Lib.hid hown4; clear hown4)
          go_roundw
          case rel =>
            refine ⟨j + 1, _, _, by omega, rfl, fun h => by omega, by omega, ?_, hb4⟩
            rw [HWS.out, List.map_append]; exact HO4.out
          case measure => simp [lenV]; omega
        · go_wp2_with fail
          refine HA.out.mono ?_
          rintro e w3 ⟨rfl, hq⟩
          have HB3 := Lib.hid (HBr.out.andThen (drew_bel hq))
          have HO3 := Lib.hid (own_below HO.out (fun g hg => (HO.out.lt g hg).2) (drew_bel hq))
          clear hq HA
          go_wp2_with (at_builtin; refine wpList_push elemInt (w0 := w2) _ _ rfl rfl HO3.out HB3.out (Nat.le_refl _) rfl rfl rfl (by simp [Value.oneCell']) (by unfold lim; omega) (by unfold lim; omega) ?_; intro v4 w4 hown4 hb4; have HO4 := Lib.hid hown4; clear hown4)
          go_roundw
          case rel =>
            refine ⟨j + 1, _, _, by omega, rfl, fun h => by omega, by omega, ?_, hb4⟩
            rw [HWS.out, List.map_append]; exact HO4.out
          case measure => simp [lenV]; omega
      · obtain rfl : j = N := by omega
        obtain ⟨C, kk, rfl, hsl⟩ := Sl.own hown
        have HX := Lib.hid hsl
        have HOw := Lib.hid hown
        rw [Nat.sub_self]
        clear hown hsl hb
        go_wp2_with fail
        go_ret
        exact ⟨C, kk, rfl, by rw [HRL.out]; exact HX.out, HR2.out.keep HBr.out, HB2.out.trans (HBr.out.mono hBw2), HD2.out.trans (Asd.of HBr.out), fun x hx => by subst hx; exact Nat.le_trans HD2.out.1 (HOw.out.lt x.block rfl).1⟩
end Go.Proofs.YtclbbchljiagpaaDoor
