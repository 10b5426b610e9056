/-
  An item taken by a living reader (printed by gen_wireo.py).
-/
import Derived.Test.YtclbbchljiagpaaDoorWireN
namespace Go.Proofs.YtclbbchljiagpaaDoor
open Go.RowKit
set_option maxRecDepth 100000
set_option linter.unusedVariables false

theorem Asd.blk {g : Nat} {w w' : World} (h : Asd g w w') {k : Nat} {t : TypeId} {cs : Array Value} (hk : Blk w k t cs) (hne : k ≠ g) : Blk w' k t cs := (h.2 k hne hk.lt).trans hk
theorem Rd.lt {w : World} {B g : Nat} {A : Option Addr} {n c a : Nat} {E : Err} (h : Rd w B g A n c a E) : g < w.heap.size ∧ B ≤ w.heap.size := by
  obtain ⟨h1, _, _, _, h, _⟩ := h
  exact ⟨h.lt, Nat.le_trans h1 (Nat.le_of_lt h.lt)⟩
theorem Sl.off {w : World} {s n : Nat} {A : Option Addr} {xs : List Value} (h : Sl w s A n xs) {b i : Nat} (hb : ∀ x, A = some x → x.block ≠ b) {u : Value} : Sl (w.setCell ⟨b, i, none⟩ u) s A n xs := by
  refine ⟨h.1, fun hn => ?_⟩
  obtain ⟨b0, off, rfl, h2⟩ := h.2 hn
  refine ⟨b0, off, rfl, fun j v hj => ?_⟩
  exact (World.cell?_of_block (w := w) (a := ⟨b0, off + j, none⟩) (Below.heap_setCell w ⟨b, i, none⟩ u b0 (hb _ rfl))).trans (h2 j v hj)

set_option maxHeartbeats 4000000 in
theorem take_k0 (zn : Int) (s : ByteArray) (LA : Option Addr) (ln lc g B : Nat) (A : Option Addr) (n c a : Nat) (l : List Int) (w : World) (hR : Rd w B g A n c a .nil) (hm : a + 4 ≤ n) (hn : n ≤ 1099511627776) (hnc : n ≤ c) (hc9 : c ≤ 9223372036854775807) (hl : l.length = n) (hb : Bys l) (hB : ∀ w', Below B w w' → Sl w' 1 A n (l.map (Value.int .u8))) :
    Calls Tryd.prog 34 #[.pointer (some ⟨g, 0, none⟩), .agg #[.int .i64 0, .int .i64 zn, .string s, .slice LA ln lc]] w fun e w' => e = .returned (.agg #[.int .i64 0, .int .i64 (wordN (l.drop a) : Nat), .string ⟨#[]⟩, .slice none 0 0]) ∧ Rd w' B g A n c (a + 4) .nil ∧ Below B w w' := by
  have HR := Lib.hid (fun W (h : Below w.heap.size w W) => hR.keep h)
  have hlt := hR.lt
  have HT := Lib.hid (fun W (h : Below w.heap.size w W) => Num_okA g B A n c a l W (hR.keep h) hm hn hnc hc9 hl hb (fun w' h' => hB w' ((h.mono hlt.2).trans h')))
  clear hR hB hb
  generalize wordN (l.drop a) = N at *
  go_enter Tryd.func34, Tryd.ntmps34
  go_wp2_with fail
  have hbel := (bel_al (bel_al (bel_al (Below.refl w.heap.size w) (.cells #[.int .i64 0, .int .i64 zn, .string s, .slice LA ln lc] 50)) (.cells #[.int .i64 0, .int .i64 0, .string ⟨#[]⟩, .slice none 0 0] 50)) (.cells #[.int .i64 0, .int .i64 0, .string ⟨#[]⟩, .slice none 0 0] 50))
  have HBel := Lib.hid hbel
  refine (HT.out _ hbel).mono ?_
  clear hbel
  rintro e w1 ⟨rfl, hR1, hb1, ha1⟩
  have hk1 := ha1.blk (Blk.new _ _ _) (by simp only [World.size_alloc]; omega)
  have hk2 := ha1.blk ((Blk.new _ _ _).alloc _) (by simp only [World.size_alloc]; omega)
  have hd0 := hk1.cell 0
  have hd1 := hk1.cell 1
  have hd2 := hk1.cell 2
  have hd3 := hk1.cell 3
  have hf := hk1.frozen 1
  have he0 := hk2.cell 0
  have he1 := hk2.cell 1
  have he2 := hk2.cell 2
  have he3 := hk2.cell 3
  have hg0 := hk2.frozen 0
  have hg1 := hk2.frozen 1
  have hg2 := hk2.frozen 2
  have hg3 := hk2.frozen 3
  simp at hd0 hd1 hd2 hd3 hf he0 he1 he2 he3 hg0 hg1 hg2 hg3
  have HR1 := Lib.hid hR1
  have HB1 := Lib.hid ((HBel.out.mono hlt.2).trans hb1)
  clear hR1 hb1 ha1 hk1 hk2 HT HBel HR
  go_wp2_with fail
  have hbE : ∀ (u0 u1 u2 u3 u4 : Value), Below w.heap.size w1 (((((w1.setCell ⟨w.heap.size + 1 + 1, 1, none⟩ u4).setCell ⟨w.heap.size + 1, 0, none⟩ u0).setCell ⟨w.heap.size + 1, 1, none⟩ u1).setCell ⟨w.heap.size + 1, 2, none⟩ u2).setCell ⟨w.heap.size + 1, 3, none⟩ u3) := fun u0 u1 u2 u3 u4 =>
    (((((Below.refl _ _).setCell (p := ⟨w.heap.size + 1 + 1, 1, none⟩) (by simp <;> omega) _).setCell (p := ⟨w.heap.size + 1, 0, none⟩) (by simp <;> omega) _).setCell (p := ⟨w.heap.size + 1, 1, none⟩) (by simp <;> omega) _).setCell (p := ⟨w.heap.size + 1, 2, none⟩) (by simp <;> omega) _).setCell (p := ⟨w.heap.size + 1, 3, none⟩) (by simp <;> omega) _
  have hRk : ∀ {W : World}, Below w.heap.size w1 W → Rd W B g A n c (a + 4) .nil := by
    intro W hW
    obtain ⟨h1, h2, h3, ev, h4, h5⟩ := HR1.out
    obtain rfl : ev = .nilIface := h5
    exact ⟨h1, h2, h3, .nilIface, h4.below hW hlt.1, rfl⟩
  refine bodyPost_ret (v := .agg #[.int .i64 0, .int .i64 (N : Nat), .string ⟨#[]⟩, .slice none 0 0]) (by simp [results, Tryd.results34, go_sem, he0, he1, he2, he3]) rfl ?_
  exact ⟨rfl, hRk (hbE _ _ _ _ _), HB1.out.trans ((hbE _ _ _ _ _).mono hlt.2)⟩

set_option maxHeartbeats 4000000 in
theorem take_k1 (zn : Int) (s : ByteArray) (LA : Option Addr) (ln lc g B : Nat) (A : Option Addr) (n c a : Nat) (l : List Int) (w : World) (hR : Rd w B g A n c a .nil) (hm : a + 8 ≤ n) (hn : n ≤ 1099511627776) (hnc : n ≤ c) (hc9 : c ≤ 9223372036854775807) (hl : l.length = n) (hb : Bys l) (hB : ∀ w', Below B w w' → Sl w' 1 A n (l.map (Value.int .u8))) :
    Calls Tryd.prog 34 #[.pointer (some ⟨g, 0, none⟩), .agg #[.int .i64 1, .int .i64 zn, .string s, .slice LA ln lc]] w fun e w' => e = .returned (.agg #[.int .i64 1, .int .i64 (longZ (l.drop a)), .string ⟨#[]⟩, .slice none 0 0]) ∧ Rd w' B g A n c (a + 8) .nil ∧ Below B w w' := by
  have HR := Lib.hid (fun W (h : Below w.heap.size w W) => hR.keep h)
  have hlt := hR.lt
  have HT := Lib.hid (fun W (h : Below w.heap.size w W) => Long_okA g B A n c a l W (hR.keep h) hm hn hnc hc9 hl hb (fun w' h' => hB w' ((h.mono hlt.2).trans h')))
  clear hR hB hb
  generalize longZ (l.drop a) = N at *
  go_enter Tryd.func34, Tryd.ntmps34
  go_wp2_with fail
  have hbel := (bel_al (bel_al (bel_al (Below.refl w.heap.size w) (.cells #[.int .i64 1, .int .i64 zn, .string s, .slice LA ln lc] 50)) (.cells #[.int .i64 0, .int .i64 0, .string ⟨#[]⟩, .slice none 0 0] 50)) (.cells #[.int .i64 1, .int .i64 0, .string ⟨#[]⟩, .slice none 0 0] 50))
  have HBel := Lib.hid hbel
  refine (HT.out _ hbel).mono ?_
  clear hbel
  rintro e w1 ⟨rfl, hR1, hb1, ha1⟩
  have hk1 := ha1.blk (Blk.new _ _ _) (by simp only [World.size_alloc]; omega)
  have hk2 := ha1.blk ((Blk.new _ _ _).alloc _) (by simp only [World.size_alloc]; omega)
  have hd0 := hk1.cell 0
  have hd1 := hk1.cell 1
  have hd2 := hk1.cell 2
  have hd3 := hk1.cell 3
  have hf := hk1.frozen 1
  have he0 := hk2.cell 0
  have he1 := hk2.cell 1
  have he2 := hk2.cell 2
  have he3 := hk2.cell 3
  have hg0 := hk2.frozen 0
  have hg1 := hk2.frozen 1
  have hg2 := hk2.frozen 2
  have hg3 := hk2.frozen 3
  simp at hd0 hd1 hd2 hd3 hf he0 he1 he2 he3 hg0 hg1 hg2 hg3
  have HR1 := Lib.hid hR1
  have HB1 := Lib.hid ((HBel.out.mono hlt.2).trans hb1)
  clear hR1 hb1 ha1 hk1 hk2 HT HBel HR
  go_wp2_with fail
  have hbE : ∀ (u0 u1 u2 u3 u4 : Value), Below w.heap.size w1 (((((w1.setCell ⟨w.heap.size + 1 + 1, 1, none⟩ u4).setCell ⟨w.heap.size + 1, 0, none⟩ u0).setCell ⟨w.heap.size + 1, 1, none⟩ u1).setCell ⟨w.heap.size + 1, 2, none⟩ u2).setCell ⟨w.heap.size + 1, 3, none⟩ u3) := fun u0 u1 u2 u3 u4 =>
    (((((Below.refl _ _).setCell (p := ⟨w.heap.size + 1 + 1, 1, none⟩) (by simp <;> omega) _).setCell (p := ⟨w.heap.size + 1, 0, none⟩) (by simp <;> omega) _).setCell (p := ⟨w.heap.size + 1, 1, none⟩) (by simp <;> omega) _).setCell (p := ⟨w.heap.size + 1, 2, none⟩) (by simp <;> omega) _).setCell (p := ⟨w.heap.size + 1, 3, none⟩) (by simp <;> omega) _
  have hRk : ∀ {W : World}, Below w.heap.size w1 W → Rd W B g A n c (a + 8) .nil := by
    intro W hW
    obtain ⟨h1, h2, h3, ev, h4, h5⟩ := HR1.out
    obtain rfl : ev = .nilIface := h5
    exact ⟨h1, h2, h3, .nilIface, h4.below hW hlt.1, rfl⟩
  refine bodyPost_ret (v := .agg #[.int .i64 1, .int .i64 N, .string ⟨#[]⟩, .slice none 0 0]) (by simp [results, Tryd.results34, go_sem, he0, he1, he2, he3]) rfl ?_
  exact ⟨rfl, hRk (hbE _ _ _ _ _), HB1.out.trans ((hbE _ _ _ _ _).mono hlt.2)⟩

set_option maxHeartbeats 4000000 in
theorem take_k2 (zn : Int) (s : ByteArray) (LA : Option Addr) (ln lc g B : Nat) (A : Option Addr) (n c a : Nat) (l : List Int) (w : World) (hR : Rd w B g A n c a .nil) (hm : a + 4 + wordN (l.drop a) ≤ n) (hn : n ≤ 1099511627776) (hnc : n ≤ c) (hc9 : c ≤ 9223372036854775807) (hl : l.length = n) (hb : Bys l) (hB : ∀ w', Below B w w' → Sl w' 1 A n (l.map (Value.int .u8))) :
    Calls Tryd.prog 34 #[.pointer (some ⟨g, 0, none⟩), .agg #[.int .i64 2, .int .i64 zn, .string s, .slice LA ln lc]] w fun e w' => e = .returned (.agg #[.int .i64 2, .int .i64 0, .string (strOfNums ((l.drop (a + 4)).take (wordN (l.drop a)))), .slice none 0 0]) ∧ Rd w' B g A n c (a + 4 + wordN (l.drop a)) .nil ∧ Below B w w' := by
  have HR := Lib.hid (fun W (h : Below w.heap.size w W) => hR.keep h)
  have hlt := hR.lt
  have HT := Lib.hid (fun W (h : Below w.heap.size w W) => Text_okA g B A n c a l W (hR.keep h) hm hn hnc hc9 hl hb (fun w' h' => hB w' ((h.mono hlt.2).trans h')))
  clear hR hB hb
  generalize wordN (l.drop a) = N at *
  generalize strOfNums ((l.drop (a + 4)).take N) = R at *
  go_enter Tryd.func34, Tryd.ntmps34
  go_wp2_with fail
  have hbel := (bel_al (bel_al (bel_al (Below.refl w.heap.size w) (.cells #[.int .i64 2, .int .i64 zn, .string s, .slice LA ln lc] 50)) (.cells #[.int .i64 0, .int .i64 0, .string ⟨#[]⟩, .slice none 0 0] 50)) (.cells #[.int .i64 2, .int .i64 0, .string ⟨#[]⟩, .slice none 0 0] 50))
  have HBel := Lib.hid hbel
  refine (HT.out _ hbel).mono ?_
  clear hbel
  rintro e w1 ⟨rfl, hR1, hb1, ha1⟩
  have hk1 := ha1.blk (Blk.new _ _ _) (by simp only [World.size_alloc]; omega)
  have hk2 := ha1.blk ((Blk.new _ _ _).alloc _) (by simp only [World.size_alloc]; omega)
  have hd0 := hk1.cell 0
  have hd1 := hk1.cell 1
  have hd2 := hk1.cell 2
  have hd3 := hk1.cell 3
  have hf := hk1.frozen 2
  have he0 := hk2.cell 0
  have he1 := hk2.cell 1
  have he2 := hk2.cell 2
  have he3 := hk2.cell 3
  have hg0 := hk2.frozen 0
  have hg1 := hk2.frozen 1
  have hg2 := hk2.frozen 2
  have hg3 := hk2.frozen 3
  simp at hd0 hd1 hd2 hd3 hf he0 he1 he2 he3 hg0 hg1 hg2 hg3
  have HR1 := Lib.hid hR1
  have HB1 := Lib.hid ((HBel.out.mono hlt.2).trans hb1)
  clear hR1 hb1 ha1 hk1 hk2 HT HBel HR
  go_wp2_with fail
  have hbE : ∀ (u0 u1 u2 u3 u4 : Value), Below w.heap.size w1 (((((w1.setCell ⟨w.heap.size + 1 + 1, 2, none⟩ u4).setCell ⟨w.heap.size + 1, 0, none⟩ u0).setCell ⟨w.heap.size + 1, 1, none⟩ u1).setCell ⟨w.heap.size + 1, 2, none⟩ u2).setCell ⟨w.heap.size + 1, 3, none⟩ u3) := fun u0 u1 u2 u3 u4 =>
    (((((Below.refl _ _).setCell (p := ⟨w.heap.size + 1 + 1, 2, none⟩) (by simp <;> omega) _).setCell (p := ⟨w.heap.size + 1, 0, none⟩) (by simp <;> omega) _).setCell (p := ⟨w.heap.size + 1, 1, none⟩) (by simp <;> omega) _).setCell (p := ⟨w.heap.size + 1, 2, none⟩) (by simp <;> omega) _).setCell (p := ⟨w.heap.size + 1, 3, none⟩) (by simp <;> omega) _
  have hRk : ∀ {W : World}, Below w.heap.size w1 W → Rd W B g A n c (a + 4 + N) .nil := by
    intro W hW
    obtain ⟨h1, h2, h3, ev, h4, h5⟩ := HR1.out
    obtain rfl : ev = .nilIface := h5
    exact ⟨h1, h2, h3, .nilIface, h4.below hW hlt.1, rfl⟩
  refine bodyPost_ret (v := .agg #[.int .i64 2, .int .i64 0, .string R, .slice none 0 0]) (by simp [results, Tryd.results34, go_sem, he0, he1, he2, he3]) rfl ?_
  exact ⟨rfl, hRk (hbE _ _ _ _ _), HB1.out.trans ((hbE _ _ _ _ _).mono hlt.2)⟩

set_option maxHeartbeats 4000000 in
theorem take_k3 (zn : Int) (s : ByteArray) (LA : Option Addr) (ln lc g B : Nat) (A : Option Addr) (n c a : Nat) (l : List Int) (w : World) (hR : Rd w B g A n c a .nil) (hm : a + 4 + 4 * wordN (l.drop a) ≤ n) (h60 : wordN (l.drop a) ≤ 60) (hn : n ≤ 1099511627776) (hnc : n ≤ c) (hc9 : c ≤ 9223372036854775807) (hl : l.length = n) (hb : Bys l) (hB : ∀ w', Below B w w' → Sl w' 1 A n (l.map (Value.int .u8))) :
    Calls Tryd.prog 34 #[.pointer (some ⟨g, 0, none⟩), .agg #[.int .i64 3, .int .i64 60, .string s, .slice LA ln lc]] w fun e w' => ∃ C k, e = .returned (.agg #[.int .i64 3, .int .i64 0, .string ⟨#[]⟩, .slice C (wordN (l.drop a)) k]) ∧ Sl w' 1 C (wordN (l.drop a)) ((wordsL (l.drop (a + 4)) (wordN (l.drop a))).map (Value.int .i64)) ∧ Rd w' B g A n c (a + 4 + 4 * wordN (l.drop a)) .nil ∧ Below B w w' := by
  have HR := Lib.hid (fun W (h : Below w.heap.size w W) => hR.keep h)
  have hlt := hR.lt
  have HT := Lib.hid (fun W (h : Below w.heap.size w W) => List_okA g B A n c a l W (hR.keep h) hm h60 hn hnc hc9 hl hb (fun w' h' => hB w' ((h.mono hlt.2).trans h')))
  clear hR hB hb
  generalize wordN (l.drop a) = N at *
  generalize wordsL (l.drop (a + 4)) N = R at *
  go_enter Tryd.func34, Tryd.ntmps34
  go_wp2_with fail
  have hbel := (bel_al (bel_al (bel_al (Below.refl w.heap.size w) (.cells #[.int .i64 3, .int .i64 60, .string s, .slice LA ln lc] 50)) (.cells #[.int .i64 0, .int .i64 0, .string ⟨#[]⟩, .slice none 0 0] 50)) (.cells #[.int .i64 3, .int .i64 0, .string ⟨#[]⟩, .slice none 0 0] 50))
  have HBel := Lib.hid hbel
  refine (HT.out _ hbel).mono ?_
  clear hbel
  rintro e w1 ⟨C, k, rfl, hs, hR1, hb1, ha1, hcn⟩
  have hk1 := ha1.blk (Blk.new _ _ _) (by simp only [World.size_alloc]; omega)
  have hk2 := ha1.blk ((Blk.new _ _ _).alloc _) (by simp only [World.size_alloc]; omega)
  have hd0 := hk1.cell 0
  have hd1 := hk1.cell 1
  have hd2 := hk1.cell 2
  have hd3 := hk1.cell 3
  have hf := hk1.frozen 3
  have he0 := hk2.cell 0
  have he1 := hk2.cell 1
  have he2 := hk2.cell 2
  have he3 := hk2.cell 3
  have hg0 := hk2.frozen 0
  have hg1 := hk2.frozen 1
  have hg2 := hk2.frozen 2
  have hg3 := hk2.frozen 3
  simp at hd0 hd1 hd2 hd3 hf he0 he1 he2 he3 hg0 hg1 hg2 hg3
  have HR1 := Lib.hid hR1
  have HB1 := Lib.hid ((HBel.out.mono hlt.2).trans hb1)
  have HS := Lib.hid hs
  have HCn : ∀ i, i < 3 → ∀ x, C = some x → x.block ≠ w.heap.size + i := fun i hi x hx => by have h9 := hcn x hx; simp only [World.size_alloc] at h9; omega
  clear hR1 hb1 ha1 hk1 hk2 HT HBel HR hs hcn
  go_wp2_with fail
  have hbE : ∀ (u0 u1 u2 u3 u4 : Value), Below w.heap.size w1 (((((w1.setCell ⟨w.heap.size + 1 + 1, 3, none⟩ u4).setCell ⟨w.heap.size + 1, 0, none⟩ u0).setCell ⟨w.heap.size + 1, 1, none⟩ u1).setCell ⟨w.heap.size + 1, 2, none⟩ u2).setCell ⟨w.heap.size + 1, 3, none⟩ u3) := fun u0 u1 u2 u3 u4 =>
    (((((Below.refl _ _).setCell (p := ⟨w.heap.size + 1 + 1, 3, none⟩) (by simp <;> omega) _).setCell (p := ⟨w.heap.size + 1, 0, none⟩) (by simp <;> omega) _).setCell (p := ⟨w.heap.size + 1, 1, none⟩) (by simp <;> omega) _).setCell (p := ⟨w.heap.size + 1, 2, none⟩) (by simp <;> omega) _).setCell (p := ⟨w.heap.size + 1, 3, none⟩) (by simp <;> omega) _
  have hRk : ∀ {W : World}, Below w.heap.size w1 W → Rd W B g A n c (a + 4 + 4 * N) .nil := by
    intro W hW
    obtain ⟨h1, h2, h3, ev, h4, h5⟩ := HR1.out
    obtain rfl : ev = .nilIface := h5
    exact ⟨h1, h2, h3, .nilIface, h4.below hW hlt.1, rfl⟩
  refine bodyPost_ret (v := .agg #[.int .i64 3, .int .i64 0, .string ⟨#[]⟩, .slice C N k]) (by simp [results, Tryd.results34, go_sem, he0, he1, he2, he3]) rfl ?_
  exact ⟨C, k, rfl, (((((HS.out.off (HCn 2 (by omega))).off (HCn 1 (by omega))).off (HCn 1 (by omega))).off (HCn 1 (by omega))).off (HCn 1 (by omega))), hRk (hbE _ _ _ _ _), HB1.out.trans ((hbE _ _ _ _ _).mono hlt.2)⟩
end Go.Proofs.YtclbbchljiagpaaDoor
