/-
  Contracts of wire.Reader: NewReader, take, num, Num, Long, Left, End; what nobody answers.
-/
import Derived.Test.YtclbbchljiagpaaDoorWireE
import Derived.WalkSpells
namespace Go.Proofs.YtclbbchljiagpaaDoor
open Go.RowKit
set_option maxRecDepth 100000
set_option linter.unusedVariables false

def txtBytes : ByteArray := ⟨#[98, 121, 116, 101, 115]⟩
def txtList : ByteArray := ⟨#[108, 105, 115, 116]⟩
/-- A reader at block g, of the bytes at A; how many are taken; its first error. -/
def Rd (w : World) (B g : Nat) (A : Option Addr) (n c a : Nat) (E : Err) : Prop :=
  B ≤ g ∧ E.flat ∧ a ≤ n ∧ ∃ ev, Blk w g 108 #[.slice A n c, .int .i64 a, ev] ∧ E.At w ev
theorem Rd.keep {w w' : World} {B g : Nat} {A : Option Addr} {n c a : Nat} {E : Err} (h : Rd w B g A n c a E) (hb : Below w.heap.size w w') : Rd w' B g A n c a E := by
  obtain ⟨h1, h2, h3, ev, h4, h5⟩ := h
  exact ⟨h1, h2, h3, ev, h4.keep hb, h5.keep hb⟩

/-- Of what was there nothing but block g has turned. -/
def Asd (g : Nat) (w w' : World) : Prop := w.heap.size ≤ w'.heap.size ∧ ∀ k, k ≠ g → k < w.heap.size → w'.heap[k]? = w.heap[k]?
theorem Asd.of {g : Nat} {w w' : World} (h : Below w.heap.size w w') : Asd g w w' := ⟨h.size, fun k _ hk => h.block k hk⟩
theorem Asd.trans {g : Nat} {a b c : World} (h : Asd g a b) (k : Asd g b c) : Asd g a c := ⟨Nat.le_trans h.1 k.1, fun i hi hl => (k.2 i hi (Nat.lt_of_lt_of_le hl h.1)).trans (h.2 i hi hl)⟩
theorem Asd.setCell {g : Nat} {a w : World} (h : Asd g a w) (i : Nat) (u : Value) : Asd g a (w.setCell ⟨g, i, none⟩ u) :=
  h.trans ⟨by simp [World.setCell], fun k hk _ => Below.heap_setCell _ _ _ _ hk⟩
theorem Asd.cell {g : Nat} {w w' : World} (h : Asd g w w') {p : Addr} {v : Value} (hp : w.cell? p = some v) (hg : p.block ≠ g) : w'.cell? p = some v :=
  (World.cell?_of_block (w := w) (h.2 p.block hg (World.block_lt_of_cell? w _ hp))).trans hp
theorem Asd.froz {g : Nat} {w w' : World} (h : Asd g w w') {p : Addr} {b : Bool} (hl : p.block < w.heap.size) (hp : w.frozen? p = b) (hg : p.block ≠ g) : w'.frozen? p = b :=
  (World.frozen?_of_block (w := w) (h.2 p.block hg hl)).trans hp
theorem NewReader_any (A : Option Addr) (n c : Nat) (w : World) :
    Calls Tryd.prog 29 #[.slice A n c] w fun e w' => ∃ g, e = .returned (.pointer (some ⟨g, 0, none⟩)) ∧ Rd w' w.heap.size g A n c 0 .nil ∧ Below w.heap.size w w' := by
  go_enter Tryd.func29, Tryd.ntmps29
  go_wp2_with fail
  go_ret
  exact ⟨w.heap.size, rfl, ⟨Nat.le_refl _, trivial, Nat.zero_le _, _, Blk.new _ _ _, rfl⟩, bel_al (Below.refl _ _) _⟩

set_option maxHeartbeats 2000000 in
theorem take_err (g B : Nat) (A : Option Addr) (n c a : Nat) (E : Err) (m from_ : Int) (w : World) (hR : Rd w B g A n c a E) (hE : E ≠ .nil) :
    Calls Tryd.prog 71 #[.pointer (some ⟨g, 0, none⟩), .int .i64 m, .int .i64 from_] w fun e w' => e = .returned (.slice none 0 0) ∧ w = w' := by
  obtain ⟨_, hf, _, ev, hb, he⟩ := hR
  obtain ⟨T, x, rfl⟩ := Err.At.iface_ he hE
  have hc2 := hb.cell 2
  simp at hc2
  clear hb he hE
  go_enter Tryd.func71, Tryd.ntmps71
  go_wp2_with fail
  go_ret
  exact ⟨rfl, rfl⟩

set_option maxHeartbeats 4000000 in
theorem take_short (g B : Nat) (A : Option Addr) (n c a m : Nat) (from_ : Nat) (w : World) (hR : Rd w B g A n c a .nil) (hm : n < a + m) (hn : n ≤ 1099511627776) (hm2 : m ≤ 1099511627776) (hfr : from_ ≤ n) :
    Calls Tryd.prog 71 #[.pointer (some ⟨g, 0, none⟩), .int .i64 m, .int .i64 from_] w fun e w' => e = .returned (.slice none 0 0) ∧ Rd w' B g A n c from_ (.flt 9 from_ txtBytes) ∧ Below B w w' := by
  obtain ⟨hBg, hf, han, ev, hb, he⟩ := hR
  obtain rfl : ev = .nilIface := he
  have hc0 := hb.cell 0
  have hc1 := hb.cell 1
  have hc2 := hb.cell 2
  simp at hc0 hc1 hc2
  have HBk := Lib.hid hb
  have hBw : B ≤ w.heap.size := Nat.le_trans hBg (Nat.le_of_lt hb.lt)
  clear hb
  have hd : decide ((n : Int) - (a : Int) < (m : Int)) = true := decide_eq_true (by omega)
  go_enter Tryd.func71, Tryd.ntmps71
  go_wp2_with fail
  go_quiet (fail)
  obtain ⟨w1, hw1⟩ : ∃ w1, w1 = w.drewN nq := ⟨_, rfl⟩
  rw [← hw1]
  have hbw := drew_bel ⟨nq, hw1⟩
  have HBk1 := Lib.hid (HBk.out.keep hbw)
  have HBw := Lib.hid hbw
  clear hw1 hbw hc0 hc1 hc2
  go_wp2_with fail
  refine (New_err 9 from_ txtBytes w1).mono ?_
  rintro e w2 ⟨v, rfl, ⟨gv, rfl, hv⟩, hb2⟩
  have hbk2 := HBk1.out.keep hb2
  have hd1 := hbk2.cell 1
  have hd2 := hbk2.cell 2
  have hf1 := hbk2.frozen 1
  have hf2 := hbk2.frozen 2
  simp at hd1 hd2
  have hgne : gv ≠ g := fun e => by
    subst e
    unfold Blk at hv hbk2
    rw [hv] at hbk2
    injection hbk2 with hbk2
    injection hbk2 with _ h3
    exact absurd h3 (by decide)
  have HT := Lib.hid (show Rd ((w2.setCell ⟨g, 1, none⟩ (.int .i64 from_)).setCell ⟨g, 2, none⟩ (.iface 100 (.pointer (some ⟨gv, 0, none⟩)))) B g A n c from_ (.flt 9 from_ txtBytes) by
    refine ⟨hBg, trivial, hfr, _, ?_, ⟨gv, rfl, ?_⟩⟩
    · have := (hbk2.set_ 1 (.int .i64 from_)).set_ 2 (.iface 100 (.pointer (some ⟨gv, 0, none⟩)))
      simpa using this
    · exact ((hv.far (p := ⟨g, 1, none⟩) hgne _).far (p := ⟨g, 2, none⟩) hgne _))
  have HB2 := Lib.hid (HBw.out.andThen hb2)
  clear hv hbk2 hgne hb2
  go_wp2_with fail
  go_ret
  exact ⟨rfl, HT.out, ((HB2.out.mono hBw).setCell (p := ⟨g, 1, none⟩) hBg _).setCell (p := ⟨g, 2, none⟩) hBg _⟩

set_option maxHeartbeats 4000000 in
theorem take_ok (g B : Nat) (A : Option Addr) (n c a m : Nat) (from_ : Int) (l : List Int) (w : World) (hR : Rd w B g A n c a .nil) (hm : a + m ≤ n) (h0 : 0 < m) (hn : n ≤ 1099511627776) (hnc : n ≤ c) (hc9 : c ≤ 9223372036854775807) (hs : Sl w 1 A n (l.map (Value.int .u8))) (hB : ∀ w', Below B w w' → Sl w' 1 A n (l.map (Value.int .u8))) :
    Calls Tryd.prog 71 #[.pointer (some ⟨g, 0, none⟩), .int .i64 m, .int .i64 from_] w fun e w' => ∃ C k, e = .returned (.slice (some C) m k) ∧ (m ≤ k ∧ k ≤ 9223372036854775807) ∧ (∀ w2, Below B w w2 → Sl w2 1 (some C) m (((l.drop a).take m).map (Value.int .u8))) ∧ Rd w' B g A n c (a + m) .nil ∧ Below B w w' ∧ Asd g w w' := by
  obtain ⟨hBg, hf, han, ev, hb, he⟩ := hR
  obtain rfl : ev = .nilIface := he
  obtain ⟨b, off, rfl, _⟩ := hs.2 (by omega)
  have hc0 := hb.cell 0
  have hc1 := hb.cell 1
  have hc2 := hb.cell 2
  simp at hc0 hc1 hc2
  have HBk := Lib.hid hb
  have hBw : B ≤ w.heap.size := Nat.le_trans hBg (Nat.le_of_lt hb.lt)
  have HX := Lib.hid (fun w2 (h : Below B w w2) => (by
    have h1 := ((hB w2 h).drop (k := a) han).take (k := m) (by omega)
    rwa [← List.map_drop, ← List.map_take] at h1 : Sl w2 1 (some ⟨b, off + a, none⟩) m (((l.drop a).take m).map (Value.int .u8))))
  clear hb hs hB
  have hfr1 := HBk.out.frozen 1
  have hd : decide ((n : Int) - (a : Int) < (m : Int)) = false := decide_eq_false (by omega)
  go_enter Tryd.func71, Tryd.ntmps71
  go_wp2_with fail
  go_quiet (fail)
  have e1 : (0 : Int) ≤ a := by omega
  have e2 : (a : Int) ≤ (a : Int) + (m : Int) := by omega
  have e3 : (a : Int) + (m : Int) ≤ (c : Int) := by omega
  have e4 : ((a : Int) + (m : Int)).toNat = a + m := by omega
  have e5 : ¬ c = a := by omega
  have e6 : a + m - a = m := by omega
  go_wp2_with fail
  go_quiet (fail)
  go_wp2_with fail
  go_ret
  have hcast : ((a + m : Nat) : Int) = (a : Int) + (m : Int) := by omega
  refine ⟨⟨b, off + a, none⟩, c - a, rfl, ⟨by omega, by omega⟩, HX.out, ⟨hBg, trivial, hm, .nilIface, ?_, rfl⟩, ?_, ?_⟩
  · rw [hcast]
    have := fun q => (HBk.out.drewN q).set_ 1 (.int .i64 ((a : Int) + (m : Int)))
    simpa using this _
  · exact ((bel_drewN (Below.refl _ _) _).mono hBw).setCell (p := ⟨g, 1, none⟩) hBg _
  · exact (Asd.of (bel_drewN (Below.refl _ _) _)).setCell _ _

theorem rd_cells {w : World} {B g : Nat} {A : Option Addr} {n c a : Nat} {E : Err} (h : Rd w B g A n c a E) : w.cell? ⟨g, 0, none⟩ = some (.slice A n c) ∧ w.cell? ⟨g, 1, none⟩ = some (.int .i64 a) := by
  obtain ⟨_, _, _, ev, hb, _⟩ := h
  have hc0 := hb.cell 0
  have hc1 := hb.cell 1
  simp at hc0 hc1
  exact ⟨hc0, hc1⟩
theorem nilEq (w : World) (A : Option Addr) (n c : Nat) : (binOp .eql 22 (.slice A n c) (.slice none 0 0)).run Tryd.prog w = .ok (.bool A.isNone) w := Lib.run_eql_slice_nil w _ _ A n c 0 0 Tryd.underlying22

set_option maxHeartbeats 2000000 in
theorem num_err (g B : Nat) (A : Option Addr) (n c a : Nat) (E : Err) (from_ : Int) (w : World) (hR : Rd w B g A n c a E) (hE : E ≠ .nil) :
    Calls Tryd.prog 70 #[.pointer (some ⟨g, 0, none⟩), .int .i64 from_] w fun e w' => e = .returned (.int .i64 0) ∧ w = w' := by
  have HT := Lib.hid (take_err g B A n c a E 4 from_ w hR hE)
  have nn := fun w => nilEq w none 0 0
  clear hR hE
  go_enter Tryd.func70, Tryd.ntmps70
  go_wp2_with fail
  refine HT.out.mono ?_
  rintro e w1 ⟨rfl, rfl⟩
  go_wp2_with fail
  go_ret
  exact ⟨rfl, rfl⟩
theorem Num_err (g B : Nat) (A : Option Addr) (n c a : Nat) (E : Err) (w : World) (hR : Rd w B g A n c a E) (hE : E ≠ .nil) :
    Calls Tryd.prog 31 #[.pointer (some ⟨g, 0, none⟩)] w fun e w' => e = .returned (.int .i64 0) ∧ w = w' := by
  obtain ⟨hc0, hc1⟩ := rd_cells hR
  have HT := Lib.hid (num_err g B A n c a E a w hR hE)
  clear hR hE
  go_enter Tryd.func31, Tryd.ntmps31
  go_wp2_with fail
  refine HT.out.mono ?_
  rintro e w1 ⟨rfl, rfl⟩
  go_wp2_with fail
  go_ret
  exact ⟨rfl, rfl⟩
theorem Long_err (g B : Nat) (A : Option Addr) (n c a : Nat) (E : Err) (w : World) (hR : Rd w B g A n c a E) (hE : E ≠ .nil) :
    Calls Tryd.prog 32 #[.pointer (some ⟨g, 0, none⟩)] w fun e w' => e = .returned (.int .i64 0) ∧ w = w' := by
  obtain ⟨hc0, hc1⟩ := rd_cells hR
  have HT := Lib.hid (take_err g B A n c a E 8 a w hR hE)
  have nn := fun w => nilEq w none 0 0
  clear hR hE
  go_enter Tryd.func32, Tryd.ntmps32
  go_wp2_with fail
  refine HT.out.mono ?_
  rintro e w1 ⟨rfl, rfl⟩
  go_wp2_with fail
  go_ret
  exact ⟨rfl, rfl⟩
theorem Long_short (g B : Nat) (A : Option Addr) (n c a : Nat) (w : World) (hR : Rd w B g A n c a .nil) (hm : n < a + 8) (hn : n ≤ 1099511627776) :
    Calls Tryd.prog 32 #[.pointer (some ⟨g, 0, none⟩)] w fun e w' => e = .returned (.int .i64 0) ∧ Rd w' B g A n c a (.flt 9 a txtBytes) ∧ Below B w w' := by
  obtain ⟨hc0, hc1⟩ := rd_cells hR
  have HT := Lib.hid (take_short g B A n c a 8 a w hR hm hn (by omega) hR.2.2.1)
  have nn := fun w => nilEq w none 0 0
  clear hR
  go_enter Tryd.func32, Tryd.ntmps32
  go_wp2_with fail
  refine HT.out.mono ?_
  rintro e w1 ⟨rfl, h1, h2⟩
  have H1 := Lib.hid h1
  clear h1
  go_wp2_with fail
  go_ret
  exact ⟨rfl, H1.out, h2⟩
theorem Text_err (g B : Nat) (A : Option Addr) (n c a : Nat) (E : Err) (w : World) (hR : Rd w B g A n c a E) (hE : E ≠ .nil) :
    Calls Tryd.prog 39 #[.pointer (some ⟨g, 0, none⟩)] w fun e w' => e = .returned (.string ⟨#[]⟩) ∧ w = w' := by
  obtain ⟨hc0, hc1⟩ := rd_cells hR
  have HN := Lib.hid (num_err g B A n c a E a w hR hE)
  have HT := Lib.hid (take_err g B A n c a E 0 a w hR hE)
  have kc := fun (w : World) => run_convert_bytes_nil (P := Tryd.prog) w 22 5 Tryd.underlying22 Tryd.underlying5 0 0 9 Tryd.underlying9
  clear hR hE
  go_enter Tryd.func39, Tryd.ntmps39
  go_wp2_with fail
  refine HN.out.mono ?_
  rintro e w1 ⟨rfl, rfl⟩
  go_wp2_with fail
  refine HT.out.mono ?_
  rintro e w1 ⟨rfl, rfl⟩
  go_wp2_with fail
  go_ret
  exact ⟨rfl, rfl⟩
theorem List_err (g B : Nat) (A : Option Addr) (n c a : Nat) (E : Err) (most : Int) (w : World) (hR : Rd w B g A n c a E) (hE : E ≠ .nil) :
    Calls Tryd.prog 41 #[.pointer (some ⟨g, 0, none⟩), .int .i64 most] w fun e w' => e = .returned (.slice none 0 0) ∧ w = w' := by
  obtain ⟨hc0, hc1⟩ := rd_cells hR
  have HN := Lib.hid (num_err g B A n c a E a w hR hE)
  obtain ⟨_, hf, _, ev, hb, he⟩ := hR
  obtain ⟨T, x, rfl⟩ := Err.At.iface_ he hE
  have hc2 := hb.cell 2
  simp at hc2
  clear hb he hE
  go_enter Tryd.func41, Tryd.ntmps41
  go_wp2_with fail
  refine HN.out.mono ?_
  rintro e w1 ⟨rfl, rfl⟩
  go_wp2_with fail
  go_ret
  exact ⟨rfl, rfl⟩
theorem Left_any (g B : Nat) (A : Option Addr) (n c a : Nat) (E : Err) (w : World) (hR : Rd w B g A n c a E) (hn : n ≤ 1099511627776) :
    Calls Tryd.prog 30 #[.pointer (some ⟨g, 0, none⟩)] w fun e w' => e = .returned (.int .i64 ((n - a : Nat) : Int)) ∧ Below w.heap.size w w' := by
  obtain ⟨hc0, hc1⟩ := rd_cells hR
  have ha := hR.2.2.1
  have hd : (n : Int) - (a : Int) = ((n - a : Nat) : Int) := by omega
  clear hR
  go_enter Tryd.func30, Tryd.ntmps30
  go_wp2_with fail
  go_quiet (fail)
  go_wp2_with fail
  go_ret
  exact ⟨by first | rfl | (rw [hd]), bel_drewN (Below.refl _ _) _⟩
theorem End_err (g B : Nat) (A : Option Addr) (n c a : Nat) (E : Err) (w : World) (hR : Rd w B g A n c a E) (hE : E ≠ .nil) :
    Calls Tryd.prog 33 #[.pointer (some ⟨g, 0, none⟩)] w fun e w' => ∃ T x, e = .returned (.iface T x) ∧ E.At w (.iface T x) ∧ w = w' := by
  obtain ⟨_, hf, _, ev, hb, he⟩ := hR
  obtain ⟨T, x, rfl⟩ := Err.At.iface_ he hE
  have hc2 := hb.cell 2
  simp at hc2
  have HE := Lib.hid he
  clear hb he hE
  go_enter Tryd.func33, Tryd.ntmps33
  go_wp2_with fail
  go_ret
  exact ⟨T, x, rfl, HE.out, rfl⟩
theorem End_ok (g B : Nat) (A : Option Addr) (n c : Nat) (w : World) (hR : Rd w B g A n c n .nil) (hn : n ≤ 1099511627776) :
    Calls Tryd.prog 33 #[.pointer (some ⟨g, 0, none⟩)] w fun e w' => e = .returned .nilIface ∧ Below w.heap.size w w' := by
  have HL := Lib.hid (Left_any g B A n c n .nil w hR hn)
  obtain ⟨_, hf, _, ev, hb, he⟩ := hR
  obtain rfl : ev = .nilIface := he
  have hc2 := hb.cell 2
  simp at hc2
  clear hb
  go_enter Tryd.func33, Tryd.ntmps33
  go_wp2_with fail
  refine HL.out.mono ?_
  rintro e w1 ⟨rfl, hb⟩
  rw [Nat.sub_self]
  go_wp2_with fail
  go_ret
  exact ⟨rfl, hb⟩

set_option maxHeartbeats 2000000 in
theorem num_ok (g B : Nat) (A : Option Addr) (n c a : Nat) (from_ : Int) (l : List Int) (w : World) (hR : Rd w B g A n c a .nil) (hm : a + 4 ≤ n) (hn : n ≤ 1099511627776) (hnc : n ≤ c) (hc9 : c ≤ 9223372036854775807) (hl : l.length = n) (hb : Bys l) (hB : ∀ w', Below B w w' → Sl w' 1 A n (l.map (Value.int .u8))) :
    Calls Tryd.prog 70 #[.pointer (some ⟨g, 0, none⟩), .int .i64 from_] w fun e w' => e = .returned (.int .i64 (wordN (l.drop a) : Nat)) ∧ Rd w' B g A n c (a + 4) .nil ∧ Below B w w' ∧ Asd g w w' := by
  have HT := Lib.hid (take_ok g B A n c a 4 from_ l w hR hm (by omega) hn hnc hc9 (hB w (Below.refl _ _)) hB)
  have nn := fun w (C : Addr) k => nilEq w (some C) 4 k
  have hw : wordN ((l.drop a).take 4) = wordN (l.drop a) := wordN_take (by rw [List.length_drop]; omega)
  have hlt := wordN_lt (hb.drop a)
  have HWL := Lib.hid (fun W (C : Addr) k (h : Sl W 1 (some C) 4 (((l.drop a).take 4).map (Value.int .u8))) => wordAt_any ((l.drop a).take 4) (some C) 4 k W (by rw [List.length_take, List.length_drop]; omega) (by omega) ((hb.drop a).take 4) h)
  rw [hw] at HWL
  clear hR hB hb hw
  generalize wordN (l.drop a) = N at *
  go_enter Tryd.func70, Tryd.ntmps70
  go_wp2_with fail
  refine HT.out.mono ?_
  rintro e w1 ⟨C, k, rfl, hk, hs1, hR1, hb1, ha1⟩
  have HA := Lib.hid (HWL.out w1 C k (hs1 w1 hb1))
  have HR1 := Lib.hid hR1
  have HB1 := Lib.hid hb1
  have HA1 := Lib.hid ha1
  clear hs1 hR1 hb1 ha1 HT
  go_wp2_with fail
  refine HA.out.mono ?_
  rintro e w2 ⟨rfl, hq⟩
  have HQ := Lib.hid (drew_bel hq)
  clear hq
  go_wp2_with fail
  go_ret
  exact ⟨rfl, HR1.out.keep HQ.out, HB1.out.trans (HQ.out.mono (Nat.le_trans HR1.out.1 (Nat.le_of_lt (by obtain ⟨_, _, _, _, h, _⟩ := HR1.out; exact h.lt)))), HA1.out.trans (Asd.of HQ.out)⟩
theorem Num_okA (g B : Nat) (A : Option Addr) (n c a : Nat) (l : List Int) (w : World) (hR : Rd w B g A n c a .nil) (hm : a + 4 ≤ n) (hn : n ≤ 1099511627776) (hnc : n ≤ c) (hc9 : c ≤ 9223372036854775807) (hl : l.length = n) (hb : Bys l) (hB : ∀ w', Below B w w' → Sl w' 1 A n (l.map (Value.int .u8))) :
    Calls Tryd.prog 31 #[.pointer (some ⟨g, 0, none⟩)] w fun e w' => e = .returned (.int .i64 (wordN (l.drop a) : Nat)) ∧ Rd w' B g A n c (a + 4) .nil ∧ Below B w w' ∧ Asd g w w' := by
  obtain ⟨hc0, hc1⟩ := rd_cells hR
  have HT := Lib.hid (num_ok g B A n c a a l w hR hm hn hnc hc9 hl hb hB)
  clear hR hb hB
  generalize wordN (l.drop a) = N at *
  go_enter Tryd.func31, Tryd.ntmps31
  go_wp2_with fail
  refine HT.out.mono ?_
  rintro e w1 ⟨rfl, h1, h2⟩
  have H1 := Lib.hid h1
  clear h1
  go_wp2_with fail
  go_ret
  exact ⟨rfl, H1.out, h2⟩
theorem Num_ok (g B : Nat) (A : Option Addr) (n c a : Nat) (l : List Int) (w : World) (hR : Rd w B g A n c a .nil) (hm : a + 4 ≤ n) (hn : n ≤ 1099511627776) (hnc : n ≤ c) (hc9 : c ≤ 9223372036854775807) (hl : l.length = n) (hb : Bys l) (hB : ∀ w', Below B w w' → Sl w' 1 A n (l.map (Value.int .u8))) :
    Calls Tryd.prog 31 #[.pointer (some ⟨g, 0, none⟩)] w fun e w' => e = .returned (.int .i64 (wordN (l.drop a) : Nat)) ∧ Rd w' B g A n c (a + 4) .nil ∧ Below B w w' :=
  (Num_okA g B A n c a l w hR hm hn hnc hc9 hl hb hB).mono fun e w' ⟨h1, h2, h3, _⟩ => ⟨h1, h2, h3⟩
end Go.Proofs.YtclbbchljiagpaaDoor
