/-
  Contracts of wire.Reader where the bytes suffice: Text.
-/
import Derived.Test.YtclbbchljiagpaaDoorWireJ
import Derived.Test.YtclbbchljiagpaaDoorPermB
namespace Go.Proofs.YtclbbchljiagpaaDoor
open Go.RowKit
set_option maxRecDepth 100000
set_option linter.unusedVariables false

set_option maxHeartbeats 4000000 in
theorem take_zero (g B : Nat) (b0 off n c a : Nat) (from_ : Int) (w : World) (hR : Rd w B g (some ⟨b0, off, none⟩) n c a .nil) (hn : n ≤ 1099511627776) (hnc : n ≤ c) (hc9 : c ≤ 9223372036854775807) :
    Calls Tryd.prog 71 #[.pointer (some ⟨g, 0, none⟩), .int .i64 0, .int .i64 from_] w fun e w' => ∃ o k, e = .returned (.slice (some ⟨b0, o, none⟩) 0 k) ∧ Rd w' B g (some ⟨b0, off, none⟩) n c a .nil ∧ Below B w w' ∧ Asd g w w' := by
  obtain ⟨hBg, hf, han, ev, hb, he⟩ := hR
  obtain rfl : ev = .nilIface := he
  have hc0 := hb.cell 0
  have hc1 := hb.cell 1
  have hc2 := hb.cell 2
  simp at hc0 hc1 hc2
  have hfr1 := hb.frozen 1
  have HBk := Lib.hid hb
  have hBw : B ≤ w.heap.size := Nat.le_trans hBg (Nat.le_of_lt hb.lt)
  clear hb
  have hd : decide ((n : Int) - (a : Int) < 0) = false := decide_eq_false (by omega)
  have e1 : (0 : Int) ≤ a := by omega
  have e3 : (a : Int) ≤ (c : Int) := by omega
  have e6 : a - a = 0 := by omega
  by_cases e5 : c = a
  · subst e5
    go_enter Tryd.func71, Tryd.ntmps71
    go_wp2_with fail
    go_quiet (fail)
    go_wp2_with fail
    go_quiet (fail)
    go_wp2_with fail
    go_ret
    refine ⟨off, _, rfl, ⟨hBg, trivial, han, .nilIface, ?_, rfl⟩, ?_, ?_⟩
    · have := fun q => (HBk.out.drewN q).set_ 1 (.int .i64 (c : Int))
      simpa using this _
    · exact ((bel_drewN (Below.refl _ _) _).mono hBw).setCell (p := ⟨g, 1, none⟩) hBg _
    · exact (Asd.of (bel_drewN (Below.refl _ _) _)).setCell _ _
  · go_enter Tryd.func71, Tryd.ntmps71
    go_wp2_with fail
    go_quiet (fail)
    go_wp2_with fail
    go_quiet (fail)
    go_wp2_with fail
    go_ret
    refine ⟨off + a, _, rfl, ⟨hBg, trivial, han, .nilIface, ?_, rfl⟩, ?_, ?_⟩
    · have := fun q => (HBk.out.drewN q).set_ 1 (.int .i64 (a : Int))
      simpa using this _
    · exact ((bel_drewN (Below.refl _ _) _).mono hBw).setCell (p := ⟨g, 1, none⟩) hBg _
    · exact (Asd.of (bel_drewN (Below.refl _ _) _)).setCell _ _

theorem conv_bytes (w : World) (b off n k : Nat) (l : List Int) (hl : l.length = n) (hs : Sl w 1 (some ⟨b, off, none⟩) n (l.map (Value.int .u8))) : (convert 22 9 (.slice (some ⟨b, off, none⟩) n k)).run Tryd.prog w = .ok (.string (strOfNums l)) w := by
  refine run_convert_bytes_arg (P := Tryd.prog) w 22 5 Tryd.underlying22 Tryd.underlying5 b off n k l hl (fun i hi => ?_) 9 Tryd.underlying9
  refine hs.again hi ?_
  rw [List.getElem?_map, List.getD_eq_getElem?_getD, List.getElem?_eq_getElem (by omega)]; rfl

set_option maxHeartbeats 4000000 in
theorem Text_okA (g B : Nat) (A : Option Addr) (n c a : Nat) (l : List Int) (w : World) (hR : Rd w B g A n c a .nil) (hm : a + 4 + wordN (l.drop a) ≤ n) (hn : n ≤ 1099511627776) (hnc : n ≤ c) (hc9 : c ≤ 9223372036854775807) (hl : l.length = n) (hb : Bys l) (hB : ∀ w', Below B w w' → Sl w' 1 A n (l.map (Value.int .u8))) :
    Calls Tryd.prog 39 #[.pointer (some ⟨g, 0, none⟩)] w fun e w' => e = .returned (.string (strOfNums ((l.drop (a + 4)).take (wordN (l.drop a))))) ∧ Rd w' B g A n c (a + 4 + wordN (l.drop a)) .nil ∧ Below B w w' ∧ Asd g w w' := by
  obtain ⟨hc0, hc1⟩ := rd_cells hR
  have HT := Lib.hid (num_ok g B A n c a a l w hR (by omega) hn hnc hc9 hl hb hB)
  obtain ⟨b, off, rfl, _⟩ := (hB w (Below.refl _ _)).2 (by omega)
  have HSB := Lib.hid hB
  clear hR hB
  generalize hN : wordN (l.drop a) = N at *
  clear hN hb
  go_enter Tryd.func39, Tryd.ntmps39
  go_wp2_with fail
  refine HT.out.mono ?_
  rintro e w1 ⟨rfl, hR1, hb1, ha1⟩
  have HR1 := Lib.hid hR1
  have HB1 := Lib.hid hb1
  have HD1 := Lib.hid ha1
  clear hR1 hb1 ha1 HT
  rcases Nat.eq_zero_or_pos N with h0 | h0
  · subst h0
    have HZ := Lib.hid (take_zero g B b off n c (a + 4) a w1 HR1.out hn hnc hc9)
    go_wp2_with fail
    refine HZ.out.mono ?_
    rintro e w2 ⟨o, k, rfl, hR2, hb2, ha2⟩
    have HR2 := Lib.hid hR2
    have HB2 := Lib.hid (HB1.out.trans hb2)
    have HD2 := Lib.hid (HD1.out.trans ha2)
    have hcv := conv_bytes w2 b o 0 k [] rfl (Sl.nil _ _ _)
    clear hR2 hb2 ha2 HZ
    go_wp2_with fail
    go_ret
    exact ⟨rfl, HR2.out, HB2.out, HD2.out⟩
  · have HZ := Lib.hid (take_ok g B _ n c (a + 4) N a l w1 HR1.out (by omega) h0 hn hnc hc9 (HSB.out w1 HB1.out) (fun W hW => HSB.out W (HB1.out.trans hW)))
    go_wp2_with fail
    refine HZ.out.mono ?_
    rintro e w2 ⟨C, k, rfl, hk, hs2, hR2, hb2, ha2⟩
    have HR2 := Lib.hid hR2
    have HB2 := Lib.hid (HB1.out.trans hb2)
    have HD2 := Lib.hid (HD1.out.trans ha2)
    have hS := hs2 w2 hb2
    obtain ⟨b2, o2, hA, _⟩ := hS.2 h0
    cases hA
    have hcv := conv_bytes w2 b2 o2 N k _ (by rw [List.length_take, List.length_drop]; omega) hS
    clear hR2 hb2 ha2 HZ hs2 hS
    go_wp2_with fail
    go_ret
    exact ⟨rfl, HR2.out, HB2.out, HD2.out⟩

theorem Text_ok (g B : Nat) (A : Option Addr) (n c a : Nat) (l : List Int) (w : World) (hR : Rd w B g A n c a .nil) (hm : a + 4 + wordN (l.drop a) ≤ n) (hn : n ≤ 1099511627776) (hnc : n ≤ c) (hc9 : c ≤ 9223372036854775807) (hl : l.length = n) (hb : Bys l) (hB : ∀ w', Below B w w' → Sl w' 1 A n (l.map (Value.int .u8))) :
    Calls Tryd.prog 39 #[.pointer (some ⟨g, 0, none⟩)] w fun e w' => e = .returned (.string (strOfNums ((l.drop (a + 4)).take (wordN (l.drop a))))) ∧ Rd w' B g A n c (a + 4 + wordN (l.drop a)) .nil ∧ Below B w w' :=
  (Text_okA g B A n c a l w hR hm hn hnc hc9 hl hb hB).mono fun e w' ⟨h1, h2, h3, _⟩ => ⟨h1, h2, h3⟩
end Go.Proofs.YtclbbchljiagpaaDoor
