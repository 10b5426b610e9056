/-
  Part 8 of the proof of LoadMore: WireE, WireJ, CfB, LdA, PatI, SrtE.
-/
import Derived.Test.YtbbmgcdocolakaaGreatDoorLoadMoreM7
import Derived.Lib.AppendStr
import Derived.Deep.RegionWith
import Derived.WalkSpells
import Derived.Test.YtbbmgcdocolakaaGreatDoorLoadMoreM6
import Derived.Test.YtbbmgcdocolakaaGreatDoorLoadMoreM5
import Derived.Shelf.Spec.SlicesInsert
import Derived.Lib.AppendZerosOnto
import Derived.Lib.AppendZeros
import Derived.Lib.Overlaps
import Derived.Laws.CopyRow
import Derived.Deep.RegionLaw
import Derived.Test.YtbbmgcdocolakaaGreatDoorLoadMoreM3
import Derived.Shelf.SlSortCmp.WholeK
import Derived.Sort.OwnSortedInts
set_option linter.unusedVariables false
/-
  Contracts of wire.Writer: Num, Long, Text, List, Bytes, Err.
-/
namespace Go.Proofs.YtbbmgcdocolakaaGreatDoor
open Go.RowKit
set_option maxRecDepth 100000
set_option linter.unusedVariables false

/-- An error without steps. -/
def Err.flat : Err → Prop
  | .nil => True
  | .flt _ _ _ => True
  | _ => False
theorem Err.At.far {w w' : World} : ∀ {E : Err} {v : Value}, E.flat → E.At w v → (∀ g cs, Blk w g 81 cs → Blk w' g 81 cs) → E.At w' v
  | .nil, _, _, h, _ => h
  | .flt _ _ _, _, _, ⟨g, h1, h2⟩, hk => ⟨g, h1, hk g _ h2⟩
  | .step _ _, _, hf, _, _ => hf.elim
  | .txt _, _, hf, _, _ => hf.elim
theorem Err.first2_flat {c a : Int} {s : ByteArray} : ∀ {E : Err}, E.flat → (Err.first [E, .flt c a s]).flat
  | .nil, _ => trivial
  | .flt _ _ _, _ => trivial
  | .step _ _, h => h.elim
  | .txt _, h => h.elim

theorem Err.first2_ne {c a : Int} {s : ByteArray} : ∀ {E : Err}, Err.first [E, .flt c a s] ≠ .nil
  | .nil => fun h => by cases h
  | .flt _ _ _ => fun h => by cases h
  | .step _ _ => fun h => by cases h
  | .txt _ => fun h => by cases h

def txtNumber : ByteArray := ⟨#[110, 117, 109, 98, 101, 114]⟩
/-- A writer at block g: what it has put, and its first error; its bytes lie in a row of the caller's own. -/
def Wr (w : World) (B g : Nat) (bs : List Int) (E : Err) : Prop :=
  B ≤ g ∧ E.flat ∧ ∃ bv ev, Blk w g 90 #[bv, ev] ∧ w.ownsRow B 5 1 bv bs.length (bs.map (Value.int .u8)) ∧ E.At w ev
theorem own_farBlk {w : World} {B g size n i : Nat} {t e : TypeId} {cs : Array Value} {v : Value} {xs : List Value} (h : w.ownsRow B e size v n xs) (hb : Blk w g t cs) (hne : t ≠ e) (u : Value) : (w.setCell ⟨g, i, none⟩ u).ownsRow B e size v n xs :=
  own_block h fun g' hg' => heap_setCell_other w ⟨g, i, none⟩ g' u (fun e' => own_notBlk h hb hne (by rw [hg', e']))
theorem blk_farBlk {w : World} {g g' i : Nat} {t t' : TypeId} {cs cs' : Array Value} (h : Blk w g' t' cs') (hb : Blk w g t cs) (hne : t ≠ t') (u : Value) : Blk (w.setCell ⟨g, i, none⟩ u) g' t' cs' :=
  h.far (p := ⟨g, i, none⟩) (fun e => by
    have e : g' = g := e
    subst e
    unfold Blk at h hb
    rw [h] at hb
    injection hb with hb
    injection hb with _ h3
    exact hne h3.symm) u
/-- The row is turned into another one that grew out of it. -/
theorem Wr.turn {w w' : World} {B g : Nat} {bs bs' : List Int} {E : Err} {bv bv' ev : Value} (hB : B ≤ g) (hE : E.flat) (hb : Blk w g 90 #[bv, ev]) (hown : w.ownsRow B 5 1 bv bs.length (bs.map (Value.int .u8))) (he : E.At w ev)
    (hg : w.grownBy w' bv.ownBlock) (hown' : w'.ownsRow B 5 1 bv' bs'.length (bs'.map (Value.int .u8))) : Wr (w'.setCell ⟨g, 0, none⟩ bv') B g bs' E := by
  have hb' : Blk w' g 90 #[bv, ev] := hb.others hown hg (by decide)
  refine ⟨hB, hE, bv', ev, ?_, own_farBlk hown' hb' (by decide) _, he.far hE fun g' cs h => blk_farBlk (h.others hown hg (by decide)) hb' (by decide) _⟩
  have := hb'.set_ 0 bv'
  simpa using this
theorem Wr.keep {w w' : World} {B g : Nat} {bs : List Int} {E : Err} (h : Wr w B g bs E) (hb : Below w.heap.size w w') : Wr w' B g bs E := by
  obtain ⟨h1, h2, bv, ev, h3, h4, h5⟩ := h
  exact ⟨h1, h2, bv, ev, h3.keep hb, own_below h4 (fun g hg => (h4.lt g hg).2) hb, h5.keep hb⟩

/-- What is put, and the first error. -/
abbrev St := List Int × Err
def fits (z : Int) : Prop := 0 ≤ z ∧ z ≤ 4294967295
instance (z : Int) : Decidable (fits z) := by unfold fits; exact inferInstance
def pNum (z : Int) (st : St) : St := if fits z then (st.1 ++ wordL z.toNat, st.2) else (st.1 ++ wordL 0, Err.first [st.2, .flt 3 st.1.length txtNumber])
theorem pNum_len (z : Int) (st : St) : (pNum z st).1.length = st.1.length + 4 := by unfold pNum; split <;> simp [wordL]
theorem pNum_flat (z : Int) {st : St} (h : st.2.flat) : (pNum z st).2.flat := by
  unfold pNum; split
  · exact h
  · exact Err.first2_flat h

set_option maxHeartbeats 2000000 in
theorem Num_fits (k : Nat) (hk : k < 4294967296) (g B : Nat) (bs : List Int) (E : Err) (w : World) (hW : Wr w B g bs E) (hl : bs.length ≤ 1099511627776) :
    Calls Tryz.prog 76 #[.pointer (some ⟨g, 0, none⟩), .int .i64 k] w fun e w' => e = .returned (.tuple #[]) ∧ Wr w' B g (bs ++ wordL k) E ∧ Below B w w' := by
  obtain ⟨hBg, hE, bv, ev, hb, hown, he⟩ := hW
  have hBw : B ≤ w.heap.size := Nat.le_trans hBg (Nat.le_of_lt hb.lt)
  have hc0 := hb.cell 0
  simp at hc0
  have HW := Lib.hid (word_own k hk bs bv bs.length B w rfl hown hBw hl)
  have HBk := Lib.hid hb
  have HO := Lib.hid hown
  have HE := Lib.hid he
  clear hb hown he
  go_enter Tryz.func76, Tryz.ntmps76
  go_wp2_with fail
  refine HW.out.mono ?_
  rintro e w1 ⟨v', rfl, hown1, hgr⟩
  obtain ⟨g1, c1, rfl, _⟩ := own_form hown1 (by omega)
  have hb1 := hgr.blkOwn HBk.out HO.out (by decide)
  have hcell := hb1.cell 0
  simp at hcell
  have hfr := hb1.frozen 0
  have HT := Lib.hid (Wr.turn (bs' := bs ++ wordL k) hBg hE HBk.out HO.out HE.out hgr.g (by rw [List.length_append, wordL_len]; exact hown1))
  have HB1 := Lib.hid (hgr.belowOwn hBw HO.out)
  clear hown1 hgr hb1 HW
  go_wp2_with fail
  go_end0
  exact ⟨rfl, HT.out, HB1.out.setCell (p := ⟨g, 0, none⟩) hBg _⟩

end Go.Proofs.YtbbmgcdocolakaaGreatDoor
/-
  Contracts of wire.Reader: NewReader, take, num, Num, Long, Left, End; what nobody answers.
-/
namespace Go.Proofs.YtbbmgcdocolakaaGreatDoor
open Go.RowKit
set_option maxRecDepth 100000
set_option linter.unusedVariables false

def txtBytes : ByteArray := ⟨#[98, 121, 116, 101, 115]⟩
def txtList : ByteArray := ⟨#[108, 105, 115, 116]⟩
/-- A reader at block g, of the bytes at A; how many are taken; its first error. -/
def Rd (w : World) (B g : Nat) (A : Option Addr) (n c a : Nat) (E : Err) : Prop :=
  B ≤ g ∧ E.flat ∧ a ≤ n ∧ ∃ ev, Blk w g 159 #[.slice A n c, .int .i64 a, ev] ∧ E.At w ev
theorem Rd.keep {w w' : World} {B g : Nat} {A : Option Addr} {n c a : Nat} {E : Err} (h : Rd w B g A n c a E) (hb : Below w.heap.size w w') : Rd w' B g A n c a E := by
  obtain ⟨h1, h2, h3, ev, h4, h5⟩ := h
  exact ⟨h1, h2, h3, ev, h4.keep hb, h5.keep hb⟩

/-- Of what was there nothing but block g has turned. -/
def Asd (g : Nat) (w w' : World) : Prop := w.heap.size ≤ w'.heap.size ∧ ∀ k, k ≠ g → k < w.heap.size → w'.heap[k]? = w.heap[k]?
theorem Asd.of {g : Nat} {w w' : World} (h : Below w.heap.size w w') : Asd g w w' := ⟨h.size, fun k _ hk => h.block k hk⟩
theorem Asd.trans {g : Nat} {a b c : World} (h : Asd g a b) (k : Asd g b c) : Asd g a c := ⟨Nat.le_trans h.1 k.1, fun i hi hl => (k.2 i hi (Nat.lt_of_lt_of_le hl h.1)).trans (h.2 i hi hl)⟩
theorem Asd.setCell {g : Nat} {a w : World} (h : Asd g a w) (i : Nat) (u : Value) : Asd g a (w.setCell ⟨g, i, none⟩ u) :=
  h.trans ⟨by simp [World.setCell], fun k hk _ => Below.heap_setCell _ _ _ _ hk⟩
theorem Asd.cell {g : Nat} {w w' : World} (h : Asd g w w') {p : Addr} {v : Value} (hp : w.cell? p = some v) (hg : p.block ≠ g) : w'.cell? p = some v :=
  (World.cell?_of_block (w := w) (h.2 p.block hg (World.block_lt_of_cell? w _ hp))).trans hp
theorem Asd.froz {g : Nat} {w w' : World} (h : Asd g w w') {p : Addr} {b : Bool} (hl : p.block < w.heap.size) (hp : w.frozen? p = b) (hg : p.block ≠ g) : w'.frozen? p = b :=
  (World.frozen?_of_block (w := w) (h.2 p.block hg hl)).trans hp
theorem NewReader_any (A : Option Addr) (n c : Nat) (w : World) :
    Calls Tryz.prog 70 #[.slice A n c] w fun e w' => ∃ g, e = .returned (.pointer (some ⟨g, 0, none⟩)) ∧ Rd w' w.heap.size g A n c 0 .nil ∧ Below w.heap.size w w' := by
  go_enter Tryz.func70, Tryz.ntmps70
  go_wp2_with fail
  go_ret
  exact ⟨w.heap.size, rfl, ⟨Nat.le_refl _, trivial, Nat.zero_le _, _, Blk.new _ _ _, rfl⟩, bel_al (Below.refl _ _) _⟩

set_option maxHeartbeats 2000000 in
theorem take_err (g B : Nat) (A : Option Addr) (n c a : Nat) (E : Err) (m from_ : Int) (w : World) (hR : Rd w B g A n c a E) (hE : E ≠ .nil) :
    Calls Tryz.prog 95 #[.pointer (some ⟨g, 0, none⟩), .int .i64 m, .int .i64 from_] w fun e w' => e = .returned (.slice none 0 0) ∧ w = w' := by
  obtain ⟨_, hf, _, ev, hb, he⟩ := hR
  obtain ⟨T, x, rfl⟩ := Err.At.iface_ he hE
  have hc2 := hb.cell 2
  simp at hc2
  clear hb he hE
  go_enter Tryz.func95, Tryz.ntmps95
  go_wp2_with fail
  go_ret
  exact ⟨rfl, rfl⟩

set_option maxHeartbeats 4000000 in
theorem take_short (g B : Nat) (A : Option Addr) (n c a m : Nat) (from_ : Nat) (w : World) (hR : Rd w B g A n c a .nil) (hm : n < a + m) (hn : n ≤ 1099511627776) (hm2 : m ≤ 1099511627776) (hfr : from_ ≤ n) :
    Calls Tryz.prog 95 #[.pointer (some ⟨g, 0, none⟩), .int .i64 m, .int .i64 from_] w fun e w' => e = .returned (.slice none 0 0) ∧ Rd w' B g A n c from_ (.flt 9 from_ txtBytes) ∧ Below B w w' := by
  obtain ⟨hBg, hf, han, ev, hb, he⟩ := hR
  obtain rfl : ev = .nilIface := he
  have hc0 := hb.cell 0
  have hc1 := hb.cell 1
  have hc2 := hb.cell 2
  simp at hc0 hc1 hc2
  have HBk := Lib.hid hb
  have hBw : B ≤ w.heap.size := Nat.le_trans hBg (Nat.le_of_lt hb.lt)
  clear hb
  have hd : decide ((n : Int) - (a : Int) < (m : Int)) = true := decide_eq_true (by omega)
  go_enter Tryz.func95, Tryz.ntmps95
  go_wp2_with fail
  go_quiet (fail)
  obtain ⟨w1, hw1⟩ : ∃ w1, w1 = w.drewN nq := ⟨_, rfl⟩
  rw [← hw1]
  have hbw := drew_bel ⟨nq, hw1⟩
  have HBk1 := Lib.hid (HBk.out.keep hbw)
  have HBw := Lib.hid hbw
  clear hw1 hbw hc0 hc1 hc2
  go_wp2_with fail
  refine (New_err 9 from_ txtBytes w1).mono ?_
  rintro e w2 ⟨v, rfl, ⟨gv, rfl, hv⟩, hb2⟩
  have hbk2 := HBk1.out.keep hb2
  have hd1 := hbk2.cell 1
  have hd2 := hbk2.cell 2
  have hf1 := hbk2.frozen 1
  have hf2 := hbk2.frozen 2
  simp at hd1 hd2
  have hgne : gv ≠ g := fun e => by
    subst e
    unfold Blk at hv hbk2
    rw [hv] at hbk2
    injection hbk2 with hbk2
    injection hbk2 with _ h3
    exact absurd h3 (by decide)
  have HT := Lib.hid (show Rd ((w2.setCell ⟨g, 1, none⟩ (.int .i64 from_)).setCell ⟨g, 2, none⟩ (.iface 78 (.pointer (some ⟨gv, 0, none⟩)))) B g A n c from_ (.flt 9 from_ txtBytes) by
    refine ⟨hBg, trivial, hfr, _, ?_, ⟨gv, rfl, ?_⟩⟩
    · have := (hbk2.set_ 1 (.int .i64 from_)).set_ 2 (.iface 78 (.pointer (some ⟨gv, 0, none⟩)))
      simpa using this
    · exact ((hv.far (p := ⟨g, 1, none⟩) hgne _).far (p := ⟨g, 2, none⟩) hgne _))
  have HB2 := Lib.hid (HBw.out.andThen hb2)
  clear hv hbk2 hgne hb2
  go_wp2_with fail
  go_ret
  exact ⟨rfl, HT.out, ((HB2.out.mono hBw).setCell (p := ⟨g, 1, none⟩) hBg _).setCell (p := ⟨g, 2, none⟩) hBg _⟩

set_option maxHeartbeats 4000000 in
theorem take_ok (g B : Nat) (A : Option Addr) (n c a m : Nat) (from_ : Int) (l : List Int) (w : World) (hR : Rd w B g A n c a .nil) (hm : a + m ≤ n) (h0 : 0 < m) (hn : n ≤ 1099511627776) (hnc : n ≤ c) (hc9 : c ≤ 9223372036854775807) (hs : Sl w 1 A n (l.map (Value.int .u8))) (hB : ∀ w', Below B w w' → Sl w' 1 A n (l.map (Value.int .u8))) :
    Calls Tryz.prog 95 #[.pointer (some ⟨g, 0, none⟩), .int .i64 m, .int .i64 from_] w fun e w' => ∃ C k, e = .returned (.slice (some C) m k) ∧ (m ≤ k ∧ k ≤ 9223372036854775807) ∧ (∀ w2, Below B w w2 → Sl w2 1 (some C) m (((l.drop a).take m).map (Value.int .u8))) ∧ Rd w' B g A n c (a + m) .nil ∧ Below B w w' ∧ Asd g w w' := by
  obtain ⟨hBg, hf, han, ev, hb, he⟩ := hR
  obtain rfl : ev = .nilIface := he
  obtain ⟨b, off, rfl, _⟩ := hs.2 (by omega)
  have hc0 := hb.cell 0
  have hc1 := hb.cell 1
  have hc2 := hb.cell 2
  simp at hc0 hc1 hc2
  have HBk := Lib.hid hb
  have hBw : B ≤ w.heap.size := Nat.le_trans hBg (Nat.le_of_lt hb.lt)
  have HX := Lib.hid (fun w2 (h : Below B w w2) => (by
    have h1 := ((hB w2 h).drop (k := a) han).take (k := m) (by omega)
    rwa [← List.map_drop, ← List.map_take] at h1 : Sl w2 1 (some ⟨b, off + a, none⟩) m (((l.drop a).take m).map (Value.int .u8))))
  clear hb hs hB
  have hfr1 := HBk.out.frozen 1
  have hd : decide ((n : Int) - (a : Int) < (m : Int)) = false := decide_eq_false (by omega)
  go_enter Tryz.func95, Tryz.ntmps95
  go_wp2_with fail
  go_quiet (fail)
  have e1 : (0 : Int) ≤ a := by omega
  have e2 : (a : Int) ≤ (a : Int) + (m : Int) := by omega
  have e3 : (a : Int) + (m : Int) ≤ (c : Int) := by omega
  have e4 : ((a : Int) + (m : Int)).toNat = a + m := by omega
  have e5 : ¬ c = a := by omega
  have e6 : a + m - a = m := by omega
  go_wp2_with fail
  go_quiet (fail)
  go_wp2_with fail
  go_ret
  have hcast : ((a + m : Nat) : Int) = (a : Int) + (m : Int) := by omega
  refine ⟨⟨b, off + a, none⟩, c - a, rfl, ⟨by omega, by omega⟩, HX.out, ⟨hBg, trivial, hm, .nilIface, ?_, rfl⟩, ?_, ?_⟩
  · rw [hcast]
    have := fun q => (HBk.out.drewN q).set_ 1 (.int .i64 ((a : Int) + (m : Int)))
    simpa using this _
  · exact ((bel_drewN (Below.refl _ _) _).mono hBw).setCell (p := ⟨g, 1, none⟩) hBg _
  · exact (Asd.of (bel_drewN (Below.refl _ _) _)).setCell _ _

theorem rd_cells {w : World} {B g : Nat} {A : Option Addr} {n c a : Nat} {E : Err} (h : Rd w B g A n c a E) : w.cell? ⟨g, 0, none⟩ = some (.slice A n c) ∧ w.cell? ⟨g, 1, none⟩ = some (.int .i64 a) := by
  obtain ⟨_, _, _, ev, hb, _⟩ := h
  have hc0 := hb.cell 0
  have hc1 := hb.cell 1
  simp at hc0 hc1
  exact ⟨hc0, hc1⟩
theorem nilEq (w : World) (A : Option Addr) (n c : Nat) : (binOp .eql 42 (.slice A n c) (.slice none 0 0)).run Tryz.prog w = .ok (.bool A.isNone) w := Lib.run_eql_slice_nil w _ _ A n c 0 0 Tryz.underlying42

set_option maxHeartbeats 2000000 in
theorem num_err (g B : Nat) (A : Option Addr) (n c a : Nat) (E : Err) (from_ : Int) (w : World) (hR : Rd w B g A n c a E) (hE : E ≠ .nil) :
    Calls Tryz.prog 94 #[.pointer (some ⟨g, 0, none⟩), .int .i64 from_] w fun e w' => e = .returned (.int .i64 0) ∧ w = w' := by
  have HT := Lib.hid (take_err g B A n c a E 4 from_ w hR hE)
  have nn := fun w => nilEq w none 0 0
  clear hR hE
  go_enter Tryz.func94, Tryz.ntmps94
  go_wp2_with fail
  refine HT.out.mono ?_
  rintro e w1 ⟨rfl, rfl⟩
  go_wp2_with fail
  go_ret
  exact ⟨rfl, rfl⟩
theorem List_err (g B : Nat) (A : Option Addr) (n c a : Nat) (E : Err) (most : Int) (w : World) (hR : Rd w B g A n c a E) (hE : E ≠ .nil) :
    Calls Tryz.prog 71 #[.pointer (some ⟨g, 0, none⟩), .int .i64 most] w fun e w' => e = .returned (.slice none 0 0) ∧ w = w' := by
  obtain ⟨hc0, hc1⟩ := rd_cells hR
  have HN := Lib.hid (num_err g B A n c a E a w hR hE)
  obtain ⟨_, hf, _, ev, hb, he⟩ := hR
  obtain ⟨T, x, rfl⟩ := Err.At.iface_ he hE
  have hc2 := hb.cell 2
  simp at hc2
  clear hb he hE
  go_enter Tryz.func71, Tryz.ntmps71
  go_wp2_with fail
  refine HN.out.mono ?_
  rintro e w1 ⟨rfl, rfl⟩
  go_wp2_with fail
  go_ret
  exact ⟨rfl, rfl⟩
theorem Left_any (g B : Nat) (A : Option Addr) (n c a : Nat) (E : Err) (w : World) (hR : Rd w B g A n c a E) (hn : n ≤ 1099511627776) :
    Calls Tryz.prog 96 #[.pointer (some ⟨g, 0, none⟩)] w fun e w' => e = .returned (.int .i64 ((n - a : Nat) : Int)) ∧ Below w.heap.size w w' := by
  obtain ⟨hc0, hc1⟩ := rd_cells hR
  have ha := hR.2.2.1
  have hd : (n : Int) - (a : Int) = ((n - a : Nat) : Int) := by omega
  clear hR
  go_enter Tryz.func96, Tryz.ntmps96
  go_wp2_with fail
  go_quiet (fail)
  go_wp2_with fail
  go_ret
  exact ⟨by first | rfl | (rw [hd]), bel_drewN (Below.refl _ _) _⟩
theorem End_err (g B : Nat) (A : Option Addr) (n c a : Nat) (E : Err) (w : World) (hR : Rd w B g A n c a E) (hE : E ≠ .nil) :
    Calls Tryz.prog 72 #[.pointer (some ⟨g, 0, none⟩)] w fun e w' => ∃ T x, e = .returned (.iface T x) ∧ E.At w (.iface T x) ∧ w = w' := by
  obtain ⟨_, hf, _, ev, hb, he⟩ := hR
  obtain ⟨T, x, rfl⟩ := Err.At.iface_ he hE
  have hc2 := hb.cell 2
  simp at hc2
  have HE := Lib.hid he
  clear hb he hE
  go_enter Tryz.func72, Tryz.ntmps72
  go_wp2_with fail
  go_ret
  exact ⟨T, x, rfl, HE.out, rfl⟩
theorem End_ok (g B : Nat) (A : Option Addr) (n c : Nat) (w : World) (hR : Rd w B g A n c n .nil) (hn : n ≤ 1099511627776) :
    Calls Tryz.prog 72 #[.pointer (some ⟨g, 0, none⟩)] w fun e w' => e = .returned .nilIface ∧ Below w.heap.size w w' := by
  have HL := Lib.hid (Left_any g B A n c n .nil w hR hn)
  obtain ⟨_, hf, _, ev, hb, he⟩ := hR
  obtain rfl : ev = .nilIface := he
  have hc2 := hb.cell 2
  simp at hc2
  clear hb
  go_enter Tryz.func72, Tryz.ntmps72
  go_wp2_with fail
  refine HL.out.mono ?_
  rintro e w1 ⟨rfl, hb⟩
  rw [Nat.sub_self]
  go_wp2_with fail
  go_ret
  exact ⟨rfl, hb⟩

set_option maxHeartbeats 2000000 in
theorem num_ok (g B : Nat) (A : Option Addr) (n c a : Nat) (from_ : Int) (l : List Int) (w : World) (hR : Rd w B g A n c a .nil) (hm : a + 4 ≤ n) (hn : n ≤ 1099511627776) (hnc : n ≤ c) (hc9 : c ≤ 9223372036854775807) (hl : l.length = n) (hb : Bys l) (hB : ∀ w', Below B w w' → Sl w' 1 A n (l.map (Value.int .u8))) :
    Calls Tryz.prog 94 #[.pointer (some ⟨g, 0, none⟩), .int .i64 from_] w fun e w' => e = .returned (.int .i64 (wordN (l.drop a) : Nat)) ∧ Rd w' B g A n c (a + 4) .nil ∧ Below B w w' ∧ Asd g w w' := by
  have HT := Lib.hid (take_ok g B A n c a 4 from_ l w hR hm (by omega) hn hnc hc9 (hB w (Below.refl _ _)) hB)
  have nn := fun w (C : Addr) k => nilEq w (some C) 4 k
  have hw : wordN ((l.drop a).take 4) = wordN (l.drop a) := wordN_take (by rw [List.length_drop]; omega)
  have hlt := wordN_lt (hb.drop a)
  have HWL := Lib.hid (fun W (C : Addr) k (h : Sl W 1 (some C) 4 (((l.drop a).take 4).map (Value.int .u8))) => wordAt_any ((l.drop a).take 4) (some C) 4 k W (by rw [List.length_take, List.length_drop]; omega) (by omega) ((hb.drop a).take 4) h)
  rw [hw] at HWL
  clear hR hB hb hw
  generalize wordN (l.drop a) = N at *
  go_enter Tryz.func94, Tryz.ntmps94
  go_wp2_with fail
  refine HT.out.mono ?_
  rintro e w1 ⟨C, k, rfl, hk, hs1, hR1, hb1, ha1⟩
  have HA := Lib.hid (HWL.out w1 C k (hs1 w1 hb1))
  have HR1 := Lib.hid hR1
  have HB1 := Lib.hid hb1
  have HA1 := Lib.hid ha1
  clear hs1 hR1 hb1 ha1 HT
  go_wp2_with fail
  refine HA.out.mono ?_
  rintro e w2 ⟨rfl, hq⟩
  have HQ := Lib.hid (drew_bel hq)
  clear hq
  go_wp2_with fail
  go_ret
  exact ⟨rfl, HR1.out.keep HQ.out, HB1.out.trans (HQ.out.mono (Nat.le_trans HR1.out.1 (Nat.le_of_lt (by obtain ⟨_, _, _, _, h, _⟩ := HR1.out; exact h.lt)))), HA1.out.trans (Asd.of HQ.out)⟩
end Go.Proofs.YtbbmgcdocolakaaGreatDoor
/-
  conf: the walk of set.
-/
namespace Go.Proofs.YtbbmgcdocolakaaGreatDoor
open Go.RowKit Go.Proofs.YtbbmgcdocolakaaGreatDoor.Pg
attribute [local go_sem ↓] Go.wp_at_zero Go.wp_at_succ
set_option maxRecDepth 100000
set_option linter.unusedVariables false

theorem Sl.asd {w w' : World} {g s n : Nat} {A : Option Addr} {xs : List Value} (h : Sl w s A n xs) (ha : Asd g w w') (hA : ∀ x, A = some x → x.block ≠ g) : Sl w' s A n xs :=
  ⟨h.1, fun hn => by
    obtain ⟨b, off, rfl, hc⟩ := h.2 hn
    exact ⟨b, off, rfl, fun j u hu => ha.cell (hc j u hu) (show b ≠ g from hA ⟨b, off, none⟩ rfl)⟩⟩
theorem bz_beqL (l m : List UInt8) : ((bz l).toList == m) = decide (l = m) := by
  have := bz_beq l m
  rwa [bz_toList m] at this
theorem jobs_idx (l : List UInt8) : Lib.idxOfS jobsB (bz l) + 1 = Cf.jobZ l := idxFromS_idxL l Cf.jobsL 0
theorem jobs_bounds (l : List UInt8) : 0 ≤ Cf.jobZ l ∧ Cf.jobZ l ≤ 3 := by
  rcases idxL_some l Cf.jobsL 0 with h | ⟨j, hj, h, _⟩
  · exact ⟨by unfold Cf.jobZ; omega, by unfold Cf.jobZ; omega⟩
  · have : Cf.jobsL.length = 3 := rfl
    exact ⟨by unfold Cf.jobZ; omega, by unfold Cf.jobZ; omega⟩
end Go.Proofs.YtbbmgcdocolakaaGreatDoor
/-
  load.number: a number of digits.
-/
namespace Go.Proofs.YtbbmgcdocolakaaGreatDoor
open Go.RowKit Go.Proofs.YtbbmgcdocolakaaGreatDoor.Pg
attribute [local go_sem ↓] Go.wp_at_zero Go.wp_at_succ
set_option maxRecDepth 100000
set_option linter.unusedVariables false

theorem strI {S : ByteArray} {l : List UInt8} (hS : S = bz l) {k : Nat} {b : UInt8} (hb : l[k]? = some b) : ∀ W, (Instr.index 9 (.string S) (.int .i64 (k : Int))).run Tryz.prog W = .ok (.int .u8 (b.toNat : Int)) W := fun W => by
  obtain ⟨h1, h2⟩ := List.getElem?_eq_some_iff.1 hb
  have hz : S.size = l.length := by rw [hS, bz_size]
  rw [run_index_string W 9 S .i64 (k : Int) Tryz.underlying9, dif_pos ⟨by omega, by omega⟩]
  subst hS
  congr 1
  congr 1
  congr 1
  congr 1
theorem str_to {S : ByteArray} {l : List UInt8} (hS : S = bz l) {k : Nat} (hk : k ≤ l.length) : ∀ W, (Instr.slice 9 (.string S) none (some (.int .i64 (k : Int))) none).run Tryz.prog W = .ok (.string (bz (l.take k))) W := fun W => by
  have hz : S.size = l.length := by rw [hS, bz_size]
  rw [run_slice_string_to_if W 9 S .i64 (k : Int) Tryz.underlying9, if_pos ⟨by omega, by omega⟩]
  congr 2
  apply ByteArray.ext
  subst hS
  rw [ByteArray.data_extract]
  simp
set_option maxHeartbeats 2000000 in
theorem number_any (l : List UInt8) (S : ByteArray) (w : World) (hS : S = bz l) (hz9 : l.length ≤ 1000000) :
    Calls Tryz.prog 65 #[.string S] w fun e w' => e = .returned (.tuple #[.int .i64 ((Ld.numL l).getD 0 : Nat), .bool (Ld.numL l).isSome]) ∧ w = w' := by
  have HS := Lib.hid hS
  obtain ⟨n, hn⟩ : ∃ n, n = l.length := ⟨_, rfl⟩
  have hsz : S.size = n := by rw [hS, bz_size, hn]
  have HN := Lib.hid hn
  have he : (S.toList == []) = decide (l = []) := by rw [hS]; exact bz_beqL l []
  rw [← hn] at hz9
  clear hS hn
  by_cases h0 : l = []
  · have HR := Lib.hid (show Ld.numL l = none from by unfold Ld.numL; rw [if_pos (.inl h0)])
    rw [decide_eq_true h0] at he
    rw [HR.out]
    clear h0
    go_enter Tryz.func65, Tryz.ntmps65
    go_wp2_with fail
    go_ret2
    exact ⟨rfl, rfl⟩
  rw [decide_eq_false h0] at he
  by_cases h6 : 6 < n
  · have HR := Lib.hid (show Ld.numL l = none from by unfold Ld.numL; rw [if_pos (.inr (.inl (by rw [← HN.out]; exact h6)))])
    have h6' : (6 : Int) < (n : Int) := by omega
    rw [HR.out]
    clear h0
    go_enter Tryz.func65, Tryz.ntmps65
    go_wp2_with fail
    go_ret2
    exact ⟨rfl, rfl⟩
  have h6' : ¬ (6 : Int) < (n : Int) := by omega
  obtain ⟨b0, hb0⟩ : ∃ b, l[0]? = some b := by
    cases l with
    | nil => exact absurd rfl h0
    | cons b r => exact ⟨b, rfl⟩
  have HB0 := Lib.hid hb0
  have hix0 := strI HS.out hb0
  rw [show (((0 : Nat) : Int)) = 0 from rfl] at hix0
  obtain ⟨z0, hz0⟩ : ∃ z : Int, z = ((b0.toNat : Nat) : Int) := ⟨_, rfl⟩
  rw [← hz0] at hix0
  have HZ0 := Lib.hid hz0
  have HE0 := Lib.hid h0
  clear hb0 hz0 h0
  by_cases h1 : 1 < n ∧ z0 = 48
  · obtain ⟨h1, rfl⟩ := h1
    have HR := Lib.hid (show Ld.numL l = none from by
      unfold Ld.numL
      have h2 : b0 = 48 := UInt8.toNat_inj.1 (by have := HZ0.out; show b0.toNat = 48; omega)
      have h3 : l.head? = some 48 := by rw [List.head?_eq_getElem?, HB0.out, h2]
      rw [if_pos (.inr (.inr ⟨by rw [← HN.out]; exact h1, h3⟩))])
    have h1' : (1 : Int) < (n : Int) := by omega
    rw [HR.out]
    go_enter Tryz.func65, Tryz.ntmps65
    go_wp2_with fail
    go_ret2
    exact ⟨rfl, rfl⟩
  have HNu := Lib.hid (show Ld.numL l = if l.all Ld.digB then some (Ld.valL l) else none from by
    unfold Ld.numL
    rw [if_neg]
    rintro (h2 | h2 | ⟨h2, h3⟩)
    · exact HE0.out h2
    · have := HN.out; omega
    · refine h1 ⟨by have := HN.out; omega, ?_⟩
      rw [List.head?_eq_getElem?, HB0.out] at h3
      have h4 := Option.some.inj h3
      rw [HZ0.out, h4]
      try rfl)
  have hn0 : 0 < n := by have := (List.getElem?_eq_some_iff.1 HB0.out).1; have := HN.out; omega
  have hcs : (¬ (1 : Int) < (n : Int)) ∨ ((1 : Int) < (n : Int) ∧ (z0 == 48) = false) := by
    by_cases h2 : 1 < n
    · exact .inr ⟨by omega, by simpa using fun h => h1 ⟨h2, h⟩⟩
    · exact .inl (by omega)
  clear h1
  go_enter Tryz.func65, Tryz.ntmps65
  rcases hcs with hc1 | ⟨hc1, hc2⟩
  all_goals (
    go_wp2_with fail
    go_loop [4, 25] (fun vv kv => ∃ k v : Nat, k ≤ n ∧ kv = .int .i64 (k : Int) ∧ vv = .int .i64 (v : Int) ∧ Hid (v = Ld.valL (l.take k)) ∧ Hid (∀ j b, j < k → l[j]? = some b → Ld.digB b = true)) (fun _ kv => n - (intOf kv).toNat)
    case atStart => exact ⟨0, 0, Nat.zero_le _, rfl, rfl, Lib.hid rfl, Lib.hid (fun j b h => absurd h (Nat.not_lt_zero _))⟩
    case round =>
      obtain ⟨k, v, hk, rfl, rfl, HV, HD⟩ := hrel
      by_cases hlt : k < n
      · have hlt' : (k : Int) < (n : Int) := by omega
        have hk0 : (0 : Int) ≤ (k : Int) := by omega
        obtain ⟨b, hb⟩ : ∃ b, l[k]? = some b := ⟨_, List.getElem?_eq_getElem (by rw [← HN.out]; exact hlt)⟩
        have hix := strI HS.out hb
        have hv9 : v ≤ 1000000 := by
          have h2 := Ld.valL_lt k (l.take k) (by rw [List.length_take, ← HN.out]; omega) fun x hx => by
            obtain ⟨j, hj⟩ := List.mem_iff_getElem?.1 hx
            rw [List.getElem?_take] at hj
            split at hj
            · rename_i hjk
              have h3 := HD.out j x hjk hj
              unfold Ld.digB at h3
              simp at h3
              exact h3.2
            · cases hj
          have h4 : 10 ^ k ≤ 10 ^ 6 := Nat.pow_le_pow_right (by omega) (by omega)
          rw [← HV.out] at h2
          omega
        have HNx := Lib.hid (Ld.valL_take l k b hb)
        obtain ⟨z, hzz⟩ : ∃ z : Nat, z = b.toNat := ⟨_, rfl⟩
        have hz255 : z < 256 := by rw [hzz]; exact b.toNat_lt
        rw [← hzz] at hix HNx
        by_cases hdg : 48 ≤ z ∧ z ≤ 57
        · have HD2 := Lib.hid (show ∀ j b, j < k + 1 → l[j]? = some b → Ld.digB b = true from fun j x hj hx => by
            rcases (show j < k ∨ j = k by omega) with h | rfl
            · exact HD.out j x h hx
            · rw [hb] at hx
              obtain rfl := Option.some.inj hx
              unfold Ld.digB
              rw [← hzz]
              simp [hdg.1, hdg.2])
          obtain ⟨hd1, hd2⟩ := hdg
          have hd1' : ¬ (z : Int) < 48 := by omega
          have hd2' : ¬ (57 : Int) < (z : Int) := by omega
          clear hb hzz
          go_wp2_with fail
          go_round
          case rel => exact ⟨k + 1, 10 * v + (z - 48), by omega, by go_num, by go_num, Lib.hid (by rw [HNx.out, ← HV.out]), HD2⟩
          case measure => simp [intOf]; omega
        · have HR := Lib.hid (show Ld.numL l = none from by
            rw [HNu.out, if_neg]
            intro ha
            have h2 := List.all_eq_true.1 ha b (List.mem_of_getElem? hb)
            unfold Ld.digB at h2
            rw [← hzz] at h2
            simp at h2
            exact hdg h2)
          clear hb hzz
          rcases (show z < 48 ∨ (¬ z < 48 ∧ 57 < z) by omega) with h2 | ⟨h2, h3⟩
          · have h2' : (z : Int) < 48 := by omega
            clear hdg
            go_wp2_with fail
            go_ret2
            exact ⟨by rw [HR.out]; rfl, rfl⟩
          · have h2' : ¬ (z : Int) < 48 := by omega
            have h3' : (57 : Int) < (z : Int) := by omega
            clear hdg
            go_wp2_with fail
            go_ret2
            exact ⟨by rw [HR.out]; rfl, rfl⟩
      · obtain rfl : k = n := by omega
        have hlt' : ¬ (k : Int) < (k : Int) := by omega
        have HR := Lib.hid (show Ld.numL l = some v from by
          rw [HNu.out, if_pos, HV.out, List.take_of_length_le (Nat.le_of_eq HN.out.symm)]
          rw [List.all_eq_true]
          intro x hx
          obtain ⟨j, hj⟩ := List.mem_iff_getElem?.1 hx
          exact HD.out j x (by rw [HN.out]; exact (List.getElem?_eq_some_iff.1 hj).1) hj)
        go_wp2_with fail
        go_ret2
        exact ⟨by rw [HR.out]; rfl, rfl⟩)
end Go.Proofs.YtbbmgcdocolakaaGreatDoor
/-
  slices.Insert of one edge into a row that the call owns.
-/
namespace Go.Proofs.YtbbmgcdocolakaaGreatDoor
open Go.RowKit Go.Proofs
attribute [local go_sem ↓] Go.wp_at_zero Go.wp_at_succ
set_option maxRecDepth 100000
set_option linter.unusedVariables false

/-- copy of elements of s cells each. -/
theorem run_copy_rowS {P : Program} (s : Nat) (w : World) (dT sT ty elem : TypeId) (g o dLen dCap : Nat) (a : Addr) (sLen sCap : Nat) (cur : Array Value) (t : TypeId) (cs : List Value)
    (hu : P.underlying dT = some (.slice elem)) (hs : (P.info? elem).map (·.size) = some s)
    (hg : w.heap[g]? = some (.cells cur t (0, 0))) (hn : cs.length = Nat.min sLen dLen * s)
    (hsrc : ∀ j v, cs[j]? = some v → w.cell? (a.add j) = some v) (hfit : o + cs.length ≤ cur.size) (h1 : ∀ v ∈ cs, v.oneCell' = true) :
    (Builtin.copy_ #[dT, sT] ty #[.slice (some ⟨g, o, none⟩) dLen dCap, .slice (some a) sLen sCap]).run P w =
      .ok (goInt (Nat.min sLen dLen)) (w.setRow g (cur.toList.take o ++ cs ++ cur.toList.drop (o + cs.length)).toArray) := by
  have hl := run_loadCells_list (P := P) w a cs hsrc
  have hst := run_storeCells_at P g o t cs 0 cur w hg (by simpa using hfit) h1
  cases hq : P.info? elem with
  | none => simp [hq] at hs
  | some i =>
    have hi : i.size = s := by simpa [hq] using hs
    simp [Builtin.copy_, run_underlying hu, Builtin.lenOf, Builtin.firstCells, sizeOf, typeInfo, hq, hi, ← hn, hl, hst]

theorem splice_shift {α : Type} (X E Y Z : List α) (hZ : E.length ≤ Z.length) :
    ∃ T, (((X ++ Y ++ Z).take (X.length + E.length) ++ Y ++ (X ++ Y ++ Z).drop (X.length + E.length + Y.length)).take X.length ++ E ++ ((X ++ Y ++ Z).take (X.length + E.length) ++ Y ++ (X ++ Y ++ Z).drop (X.length + E.length + Y.length)).drop (X.length + E.length)) = X ++ E ++ Y ++ T := by
  obtain ⟨D, hD⟩ : ∃ D, D = (X ++ Y ++ Z).drop (X.length + E.length + Y.length) := ⟨_, rfl⟩
  rw [← hD]
  have h1 : ((X ++ Y ++ Z).take (X.length + E.length)).length = X.length + E.length := by
    rw [List.length_take, List.length_append, List.length_append]; omega
  have h2 : ((X ++ Y ++ Z).take (X.length + E.length)).take X.length = X := by
    rw [List.take_take, Nat.min_eq_left (by omega), List.append_assoc, List.take_left']
    rfl
  obtain ⟨Q, hQ⟩ : ∃ Q, Q = (X ++ Y ++ Z).take (X.length + E.length) := ⟨_, rfl⟩
  rw [← hQ] at h1 h2 ⊢
  have f1 : (Q ++ Y ++ D).take X.length = X := by rw [List.append_assoc, List.take_append_of_le_length (by omega), h2]
  have f2 : (Q ++ Y ++ D).drop (X.length + E.length) = Y ++ D := by rw [List.append_assoc]; exact List.drop_left' h1
  refine ⟨D, ?_⟩
  rw [f1, f2]
  simp
theorem splice_fresh {α : Type} (X E Y R : List α) (hR : E.length + Y.length ≤ R.length) :
    ∃ T, (((X ++ R).take X.length ++ E ++ (X ++ R).drop (X.length + E.length)).take (X.length + E.length) ++ Y ++ ((X ++ R).take X.length ++ E ++ (X ++ R).drop (X.length + E.length)).drop (X.length + E.length + Y.length)) = X ++ E ++ Y ++ T := by
  have h1 : (X ++ R).take X.length = X := List.take_left' rfl
  rw [h1]
  refine ⟨(X ++ E ++ (X ++ R).drop (X.length + E.length)).drop (X.length + E.length + Y.length), ?_⟩
  have h2 : (X ++ E ++ (X ++ R).drop (X.length + E.length)).take (X.length + E.length) = X ++ E := List.take_left' (by simp)
  rw [h2]
theorem cells_take (R : List (Int × Int)) (i : Nat) : (Rk.cells R).take (i * 2) = Rk.cells (R.take i) := by
  induction R generalizing i with
  | nil => simp [Rk.cells]
  | cons a R ih =>
    cases i with
    | zero => simp [Rk.cells]
    | succ i =>
      rw [show (i + 1) * 2 = i * 2 + 1 + 1 by omega]
      have := ih i
      simp only [Rk.cells, List.take_succ_cons, List.flatMap_cons] at this ⊢
      simp only [List.cons_append, List.nil_append, List.take_succ_cons, this]
theorem cells_append (R S : List (Int × Int)) : Rk.cells (R ++ S) = Rk.cells R ++ Rk.cells S := by simp [Rk.cells]
theorem cells_one (R : List (Int × Int)) : ∀ v ∈ Rk.cells R, v.oneCell' = true := by
  intro v hv
  unfold Rk.cells at hv
  obtain ⟨e, _, h⟩ := List.mem_flatMap.1 hv
  simp at h
  rcases h with rfl | rfl <;> rfl

theorem cells_drop (R : List (Int × Int)) (i : Nat) : Rk.cells R = (Rk.cells R).take (i * 2) ++ Rk.cells (R.drop i) := by
  conv => lhs; rw [← List.take_append_drop i R, cells_append]
  rw [cells_take]
/-- A row with an edge put in. -/
def insE (R : List (Int × Int)) (i : Nat) (e : Int × Int) : List (Int × Int) := R.take i ++ e :: R.drop i
theorem cells_ins (R : List (Int × Int)) (i : Nat) (e : Int × Int) : Rk.cells (insE R i e) = Rk.cells (R.take i) ++ [.int .i64 e.1, .int .i64 e.2] ++ Rk.cells (R.drop i) := by
  unfold insE
  rw [cells_append]
  simp [Rk.cells]
theorem ins_len (R : List (Int × Int)) (i : Nat) (e : Int × Int) : (insE R i e).length = R.length + 1 := by
  unfold insE
  rw [List.length_append, List.length_cons, List.length_take, List.length_drop]
  omega
theorem grownBy_setRow (w : World) (g : Nat) (cs : Array Value) : w.grownBy (w.setRow g cs) (some g) :=
  ⟨rfl, rfl, rfl, by simp [World.setRow], fun k _ hk => setRow_other w g k cs (fun e => hk (by rw [e]))⟩

theorem Gr.like {w w' : World} {v u v' : Value} (h : Gr w w' v v') (hu : u.ownBlock = v.ownBlock) : Gr w w' u v' := ⟨by rw [hu]; exact h.g, by rw [hu]; exact h.at_⟩
end Go.Proofs.YtbbmgcdocolakaaGreatDoor
/-
  slices.SortFunc of edges, by their order.
-/
namespace Go.Proofs.YtbbmgcdocolakaaGreatDoor
open Go.RowKit Go.Lib Go.Proofs
open Go.Sort hiding Below
attribute [local go_sem ↓] Go.wp_at_zero Go.wp_at_succ
set_option maxRecDepth 100000
set_option linter.unusedVariables false

def sortE_ren : Go.Shelf.Ren := ⟨fun | 6 => 60 | 14 => 82 | 15 => 83 | 20 => 100 | 21 => 101 | 22 => 102 | 23 => 103 | 24 => 104 | 25 => 105 | 26 => 106 | 27 => 107 | 28 => 108 | 29 => 109 | 46 => 125 | 47 => 126 | 48 => 127 | 49 => 128 | 50 => 129 | 57 => 139 | n => n, fun | 0 => 0 | 3 => 3 | 4 => 4 | 5 => 5 | 9 => 9 | 22 => 61 | 24 => 76 | 25 => 112 | 39 => 139 | 45 => 167 | 46 => 168 | 50 => 114 | 53 => 132 | 55 => 102 | 66 => 193 | 70 => 197 | 76 => 207 | 77 => 208 | n => n, fun | n => n⟩
theorem sortE_lays : Go.Proofs.SlLaysF0.n6 Tryz.prog sortE_ren := {
  mixed := by kernel_rfl
  f6 := ⟨Tryz.f60.name, by kernel_rfl, Tryz.func60.trans (congrArg some (by kernel_rfl))⟩
  f14 := ⟨Tryz.f82.name, by kernel_rfl, Tryz.func82.trans (congrArg some (by kernel_rfl))⟩
  f15 := Tryz.func83.trans (congrArg some (by kernel_rfl))
  f20 := ⟨Tryz.f100.name, by kernel_rfl, Tryz.func100.trans (congrArg some (by kernel_rfl))⟩
  f21 := ⟨Tryz.f101.name, by kernel_rfl, Tryz.func101.trans (congrArg some (by kernel_rfl))⟩
  f22 := ⟨Tryz.f102.name, by kernel_rfl, Tryz.func102.trans (congrArg some (by kernel_rfl))⟩
  f23 := ⟨Tryz.f103.name, by kernel_rfl, Tryz.func103.trans (congrArg some (by kernel_rfl))⟩
  f24 := ⟨Tryz.f104.name, by kernel_rfl, Tryz.func104.trans (congrArg some (by kernel_rfl))⟩
  f25 := ⟨Tryz.f105.name, by kernel_rfl, Tryz.func105.trans (congrArg some (by kernel_rfl))⟩
  f26 := ⟨Tryz.f106.name, by kernel_rfl, Tryz.func106.trans (congrArg some (by kernel_rfl))⟩
  f27 := ⟨Tryz.f107.name, by kernel_rfl, Tryz.func107.trans (congrArg some (by kernel_rfl))⟩
  f28 := Tryz.func108.trans (congrArg some (by kernel_rfl))
  f29 := Tryz.func109.trans (congrArg some (by kernel_rfl))
  f46 := ⟨Tryz.f125.name, by kernel_rfl, Tryz.func125.trans (congrArg some (by kernel_rfl))⟩
  f47 := Tryz.func126.trans (congrArg some (by kernel_rfl))
  f48 := Tryz.func127.trans (congrArg some (by kernel_rfl))
  f49 := ⟨Tryz.f128.name, by kernel_rfl, Tryz.func128.trans (congrArg some (by kernel_rfl))⟩
  f50 := ⟨Tryz.f129.name, by kernel_rfl, Tryz.func129.trans (congrArg some (by kernel_rfl))⟩
  f57 := ⟨Tryz.f139.name, by kernel_rfl, Tryz.func139.trans (congrArg some (by kernel_rfl))⟩
  t0 := Tryz.underlying0
  a0 := Tryz.isAgg0
  z0 := Tryz.sizeOf0
  v0 := Tryz.zeroValue0
  t3 := Tryz.underlying3
  a3 := Tryz.isAgg3
  z3 := Tryz.sizeOf3
  v3 := Tryz.zeroValue3
  t4 := Tryz.underlying4
  a4 := Tryz.isAgg4
  z4 := Tryz.sizeOf4
  v4 := Tryz.zeroValue4
  t5 := Tryz.underlying5
  a5 := Tryz.isAgg5
  z5 := Tryz.sizeOf5
  v5 := Tryz.zeroValue5
  t9 := Tryz.underlying9
  a9 := Tryz.isAgg9
  z9 := Tryz.sizeOf9
  v9 := Tryz.zeroValue9
  t22 := Tryz.underlying61
  a22 := Tryz.isAgg61
  z22 := Tryz.sizeOf61
  v22 := Tryz.zeroValue61
  t25 := Tryz.underlying112
  a25 := Tryz.isAgg112
  z25 := Tryz.sizeOf112
  v25 := Tryz.zeroValue112
  t39 := Tryz.underlying139
  a39 := Tryz.isAgg139
  z39 := Tryz.sizeOf139
  v39 := Tryz.zeroValue139
  t45 := Tryz.underlying167
  a45 := Tryz.isAgg167
  z45 := Tryz.sizeOf167
  v45 := Tryz.zeroValue167
  t46 := Tryz.underlying168
  a46 := Tryz.isAgg168
  z46 := Tryz.sizeOf168
  v46 := Tryz.zeroValue168
  t50 := Tryz.underlying114
  a50 := Tryz.isAgg114
  z50 := Tryz.sizeOf114
  v50 := Tryz.zeroValue114
  t53 := Tryz.underlying132
  a53 := Tryz.isAgg132
  z53 := Tryz.sizeOf132
  v53 := Tryz.zeroValue132
  t55 := Tryz.underlying102
  a55 := Tryz.isAgg102
  z55 := Tryz.sizeOf102
  v55 := Tryz.zeroValue102
  t66 := Tryz.underlying193
  a66 := Tryz.isAgg193
  z66 := Tryz.sizeOf193
  v66 := Tryz.zeroValue193
  t70 := Tryz.underlying197
  a70 := Tryz.isAgg197
  z70 := Tryz.sizeOf197
  v70 := Tryz.zeroValue197
  t76 := Tryz.underlying207
  a76 := Tryz.isAgg207
  z76 := Tryz.sizeOf207
  v76 := Tryz.zeroValue207
  t77 := Tryz.underlying208
  a77 := Tryz.isAgg208
  z77 := Tryz.sizeOf208
  v77 := Tryz.zeroValue208 }
/-- An edge's two cells. -/
def encE (e : Int × Int) : List Value := [.int .i64 e.1, .int .i64 e.2]
theorem cells_get : ∀ (E : List (Int × Int)) (j : Nat) (e : Int × Int), E[j]? = some e → (Rk.cells E)[j * 2]? = some (.int .i64 e.1) ∧ (Rk.cells E)[j * 2 + 1]? = some (.int .i64 e.2)
  | [], j, e, h => by simp at h
  | x :: r, 0, e, h => by
    simp only [List.getElem?_cons_zero, Option.some.injEq] at h
    subst h
    exact ⟨rfl, rfl⟩
  | x :: r, j + 1, e, h => by
    have ih := cells_get r j e (by simpa using h)
    have e1 : Rk.cells (x :: r) = .int .i64 x.1 :: .int .i64 x.2 :: Rk.cells r := rfl
    rw [e1, show (j + 1) * 2 = j * 2 + 1 + 1 by omega, List.getElem?_cons_succ, List.getElem?_cons_succ, List.getElem?_cons_succ, List.getElem?_cons_succ]
    exact ih
theorem cells_size : ∀ E : List (Int × Int), (Rk.cells E).length = E.length * 2
  | [] => rfl
  | x :: r => by
    have e1 : Rk.cells (x :: r) = .int .i64 x.1 :: .int .i64 x.2 :: Rk.cells r := rfl
    rw [e1, List.length_cons, List.length_cons, cells_size r, List.length_cons]
    omega
theorem flat_cells (E : List (Int × Int)) : flatK encE 2 E.toArray = (Rk.cells E).toArray := by
  refine ext_get! (by rw [size_flatK]; simp [cells_size]) fun t ht => ?_
  have ht' : t < E.length * 2 := by simpa using ht
  rw [get_flatK _ _ _ t (by simpa using ht')]
  obtain ⟨e, he⟩ : ∃ e, E[t / 2]? = some e := ⟨_, List.getElem?_eq_getElem (by omega)⟩
  obtain ⟨h1, h2⟩ := cells_get E (t / 2) e he
  have ea : E.toArray[t / 2]! = e := by
    rw [getElem!_def]
    simp [he]
  rw [ea]
  have hz := cells_size E
  rcases (show t % 2 = 0 ∨ t % 2 = 1 by omega) with h0 | h0
  · rw [show t / 2 * 2 = t by omega] at h1
    rw [h0, getElem!_def (Rk.cells E).toArray, List.getElem?_toArray, h1]
    rfl
  · rw [show t / 2 * 2 + 1 = t by omega] at h2
    rw [h0, getElem!_def (Rk.cells E).toArray, List.getElem?_toArray, h2]
    rfl
theorem holds_of_blockK {w : World} {g : Nat} {cur : Array Value} {e : TypeId} {xs : List Value} (hb : w.heap[g]? = some (.cells cur e (0, 0))) (ht : cur.toList.take xs.length = xs) : Holds id w g 0 xs.toArray := by
  intro j hj
  have hj' : j < xs.length := by simpa using hj
  refine ⟨?_, by simp [World.frozen?, hb]⟩
  have h1 : (cur.toList.take xs.length)[j]? = xs[j]? := by rw [ht]
  rw [List.getElem?_take_of_lt hj'] at h1
  simp only [World.cell?, hb, Nat.zero_add]
  simp only [Option.isSome_none, Bool.false_eq_true, if_false]
  rw [← Array.getElem?_toList, h1]
  simp [hj']
theorem heap_sortedK {w : World} {g n : Nat} {os : Array Obj} {cur : Array Value} {e : TypeId} {fr : Nat × Nat} (d : Array Value) (hb : w.heap[g]? = some (.cells cur e fr)) :
    (grow (putRow id (Sort.ahead w n) g 0 d) os).heap[g]? = some (.cells (putCells id 0 d cur) e fr) := by
  have hg : g < w.heap.size := (Array.getElem?_eq_some_iff.1 hb).1
  rw [heap_grow_old _ _ (by simpa using hg)]
  simp [putRow, mapBlock, Sort.ahead, Array.getElem?_modify, hb, onCells]
theorem grownBy_sortedK {w : World} {g n : Nat} {os : Array Obj} (d : Array Value) : w.grownBy (grow (putRow id (Sort.ahead w n) g 0 d) os) (some g) := by
  refine ⟨rfl, rfl, rfl, by simp, fun k hk hne => ?_⟩
  rw [heap_grow_old _ _ (by simpa using hk)]
  have : g ≠ k := fun e => hne (by rw [e])
  simp [putRow, mapBlock, Sort.ahead, Array.getElem?_modify, this]
theorem take_putCellsK (cur : Array Value) (ts : List Value) (h : ts.length ≤ cur.size) : (putCells id 0 ts.toArray cur).toList.take ts.length = ts := by
  apply List.ext_getElem?
  intro j
  by_cases hj : j < ts.length
  · rw [List.getElem?_take_of_lt hj, Array.getElem?_toList]
    simp [putCells, hj, show j < cur.size by omega]
  · rw [List.getElem?_take_eq_none (by omega), List.getElem?_eq_none (by omega)]
theorem ltE_swo : SWO (ltOf Pt.ordE) where
  irrefl x := by
    unfold ltOf
    rw [Pt.cp_edge.self x]
    decide
  trans x y z h1 h2 := by
    unfold ltOf at *
    simp only [decide_eq_true_eq] at *
    exact Pt.cp_edge.lt h1 (by omega)
  ntrans x y z h1 h2 := by
    unfold ltOf at *
    simp only [decide_eq_false_iff_not] at *
    have e1 := Pt.cp_edge.anti x y
    have e2 := Pt.cp_edge.anti y z
    have e3 := Pt.cp_edge.anti x z
    have := Pt.cp_edge.trans z y x (by omega) (by omega)
    omega
end Go.Proofs.YtbbmgcdocolakaaGreatDoor
