/-
  The walk of PatOrder.
-/
import Derived.Deep.Cut
import Derived.Test.YtmonepclhbappaaDoorPatO
import Derived.Test.YtmonepclhbappaaDoorRegI
namespace Go.Proofs.YtmonepclhbappaaDoor
open Go.RowKit
attribute [local go_sem ↓] Go.wp_at_zero Go.wp_at_succ
set_option maxRecDepth 100000
set_option linter.unusedVariables false
/-- The region's columns: what has been listed, what is known of it. -/
def ColL (l : Bool) (v : Value) (p : Value) : Prop := l = true → v = p
def ColC (l : Bool) (v : Value) (w : World) (A : Option Addr) (n c m : Nat) (E : List (Int × Int)) : Prop := l = true → ∃ D e, v = pv A n c D m e ∧ Sl w 2 D m (Rk.cells E)
def ColA (l s : Bool) (x v : Value) (B : Nat) (w : World) : Prop := l = true → ∃ (g : Nat) (A1 A2 : Option Addr) (n1 n2 c1 c2 : Nat), x = .pointer (some ⟨g, 0, none⟩) ∧ B ≤ g ∧ Blk w g 29 #[.slice A1 n1 c1, .slice A2 n2 c2] ∧ (s = true → v = .agg #[.slice A1 n1 c1, .slice A2 n2 c2])
def Apart (l l' : Bool) (x x' : Value) : Prop := l = true → l' = true → x ≠ x'
theorem ColC.keep {l : Bool} {v : Value} {w w' : World} {A : Option Addr} {n c m : Nat} {E : List (Int × Int)} (h : ColC l v w A n c m E) (hb : Below w.heap.size w w') : ColC l v w' A n c m E := fun hl => by
  obtain ⟨D, e, h1, h2⟩ := h hl
  exact ⟨D, e, h1, h2.keep hb⟩
theorem ColA.keep {l s : Bool} {x v : Value} {B : Nat} {w w' : World} (h : ColA l s x v B w) (hb : Below w.heap.size w w') : ColA l s x v B w' := fun hl => by
  obtain ⟨g, A1, A2, n1, n2, c1, c2, h1, h2, h3, h4⟩ := h hl
  exact ⟨g, A1, A2, n1, n2, c1, c2, h1, h2, h3.keep hb, h4⟩
/-- A store of a slice into a block of slices touches no row of ints. -/
theorem Sl.asideP {w : World} {A : Option Addr} {n g : Nat} {E : List (Int × Int)} {cs : Array Value} {t : TypeId} (h : Sl w 2 A n (Rk.cells E)) (hb : Blk w g t cs) (hcs : ∀ (i : Nat) (v : Value), cs[i]? = some v → ∃ A n c, v = Value.slice A n c) (i : Nat) (u : Value) : Sl (w.setCell ⟨g, i, none⟩ u) 2 A n (Rk.cells E) :=
  ⟨h.1, fun hn => by
    obtain ⟨b, off, hA, hc⟩ := h.2 hn
    refine ⟨b, off, hA, fun j v hv => ?_⟩
    have h1 := hc j v hv
    by_cases hbg : b = g
    · subst hbg
      have h2 := hb.cell (off + j)
      rw [h1] at h2
      obtain ⟨_, _, _, rfl⟩ := hcs _ _ h2.symm
      have : ∀ v ∈ Rk.cells E, ∃ z, v = Value.int .i64 z := fun v hv => by
        unfold Rk.cells at hv
        obtain ⟨e, _, he⟩ := List.mem_flatMap.1 hv
        rcases List.mem_cons.1 he with rfl | he
        · exact ⟨_, rfl⟩
        · obtain rfl := List.mem_singleton.1 he
          exact ⟨_, rfl⟩
      obtain ⟨z, hz⟩ := this _ (List.mem_of_getElem? hv)
      cases hz
    · have hne : (⟨g, i, none⟩ : Addr) ≠ ⟨b, off + j, none⟩ := fun e => hbg (by cases e; rfl)
      exact (World.cell?_setCell_other (h := hne) ..).trans h1⟩
theorem slices2 {A1 A2 : Option Addr} {n1 n2 c1 c2 : Nat} : ∀ (i : Nat) (v : Value), (#[.slice A1 n1 c1, .slice A2 n2 c2] : Array Value)[i]? = some v → ∃ A n c, v = Value.slice A n c
  | 0, v, h => by cases h; exact ⟨_, _, _, rfl⟩
  | 1, v, h => by cases h; exact ⟨_, _, _, rfl⟩
  | i + 2, v, h => by simp at h
theorem ColC.store {l : Bool} {v : Value} {w : World} {A : Option Addr} {n c m g : Nat} {E : List (Int × Int)} {A1 A2 : Option Addr} {n1 n2 c1 c2 : Nat} (h : ColC l v w A n c m E) (hb : Blk w g 29 #[.slice A1 n1 c1, .slice A2 n2 c2]) (B1 B2 : Option Addr) (k1 k2 d1 d2 : Nat) :
    ColC l v ((w.setCell ⟨g, 0, none⟩ (.slice B1 k1 d1)).setCell ⟨g, 1, none⟩ (.slice B2 k2 d2)) A n c m E := fun hl => by
  obtain ⟨D, e, h1, h2⟩ := h hl
  exact ⟨D, e, h1, (h2.asideP hb slices2 0 _).asideP (hb.set_ 0 (.slice B1 k1 d1)) slices2 1 _⟩
theorem ColA.store {l s : Bool} {x v : Value} {B : Nat} {w : World} {g : Nat} (h : ColA l s x v B w) (hx : l = true → x ≠ .pointer (some ⟨g, 0, none⟩)) (u u' : Value) : ColA l s x v B ((w.setCell ⟨g, 0, none⟩ u).setCell ⟨g, 1, none⟩ u') := fun hl => by
  obtain ⟨g', A1, A2, n1, n2, c1, c2, rfl, h2, h3, h4⟩ := h hl
  have hne : g' ≠ g := fun e => hx hl (by rw [e])
  exact ⟨g', A1, A2, n1, n2, c1, c2, rfl, h2, (h3.far hne _).far hne _, h4⟩
theorem ColA.new {s : Bool} {v : Value} {B : Nat} (w : World) (hB : B ≤ w.heap.size) (hs : s = false) : ColA true s (.pointer (some ⟨w.heap.size, 0, none⟩)) v B (w.alloc (.cells #[.slice none 0 0, .slice none 0 0] 29)) := fun _ =>
  ⟨_, none, none, 0, 0, 0, 0, rfl, hB, Blk.new _ _ _, fun h => by rw [hs] at h; cases h⟩
theorem ColA.fresh {l s : Bool} {x v v' : Value} {B : Nat} {w w' : World} (h : ColA l s x v B w) (hs : s = false) (hb : Below w.heap.size w w') : ColA l s x v' B w' := fun hl => by
  obtain ⟨g, A1, A2, n1, n2, c1, c2, h1, h2, h3, h4⟩ := h hl
  exact ⟨g, A1, A2, n1, n2, c1, c2, h1, h2, h3.keep hb, fun h => by rw [hs] at h; cases h⟩
theorem right_yes {L : List Int} {E : List (Int × Int)} {P : Program} {f : FuncId} {args : Array Value} {w : World} (h : rightP L E) (hc : Calls P f args w (RightRes L E w)) : Calls P f args w fun e w' => e = .returned .nilIface ∧ Below w.heap.size w w' :=
  hc.mono fun e w' hr => by
    rcases hr with ⟨_, h1, h2⟩ | ⟨hn, _⟩
    · exact ⟨h1, h2⟩
    · exact absurd h hn
theorem right_no {L : List Int} {E : List (Int × Int)} {P : Program} {f : FuncId} {args : Array Value} {w : World} (h : ¬ rightP L E) (hc : Calls P f args w (RightRes L E w)) : Calls P f args w fun e w' => ∃ g, e = .returned (.iface 128 (.pointer (some ⟨g, 0, none⟩))) ∧ Below w.heap.size w w' :=
  hc.mono fun e w' hr => by
    rcases hr with ⟨hn, _⟩ | ⟨_, c, a, s, v, rfl, ⟨g, rfl, _⟩, hb, _⟩
    · exact absurd hn h
    · exact ⟨g, rfl, hb⟩
/-- What the statement's numbers and texts are. -/
structure OrdF (L1 L2 L3 : List Int) (E1 E2 E3 : List (Int × Int)) (a a' b c : Int) (t1 t2 : ByteArray) (sm : Bool) : Prop where
  a_ : a = Pt.cmpP L1 E1 L2 E2
  a'_ : a' = Pt.cmpP L2 E2 L1 E1
  b_ : b = Pt.cmpP L2 E2 L3 E3
  c_ : c = Pt.cmpP L1 E1 L3 E3
  t1_ : t1 = textB L1 E1
  t2_ : t2 = textB L2 E2
  sm_ : sm = decide (L1 = L2 ∧ E1 = E2)
theorem ord_facts {L1 L2 L3 : List Int} {E1 E2 E3 : List (Int × Int)} {a a' b c : Int} {t1 t2 : ByteArray} {sm : Bool} (h : OrdF L1 L2 L3 E1 E2 E3 a a' b c t1 t2 sm) (r1 : rightP L1 E1) (r2 : rightP L2 E2) :
    ((a = -1 ∧ a' = 1 ∧ sm = false ∧ t1 ≠ t2) ∨ (a = 0 ∧ a' = 0 ∧ sm = true ∧ t1 = t2 ∧ L1.length = L2.length) ∨ (a = 1 ∧ a' = -1 ∧ sm = false ∧ t1 ≠ t2 ∧ L2.length ≤ L1.length)) ∧ (a ≤ 0 → b ≤ 0 → c ≤ 0) := by
  have hanti : a = -a' := by rw [h.a_, h.a'_]; exact Pt.cp_pat.anti (L1, E1) (L2, E2)
  have htr : a ≤ 0 → b ≤ 0 → c ≤ 0 := by rw [h.a_, h.b_, h.c_]; exact Pt.cp_pat.trans (L1, E1) (L2, E2) (L3, E3)
  have hz : a = 0 ↔ L1 = L2 ∧ E1 = E2 := by rw [h.a_]; exact Pt.cmpP_zero
  have ht : t1 = t2 ↔ L1 = L2 ∧ E1 = E2 := by rw [h.t1_, h.t2_]; exact right_text r1 r2
  have hl : L1.length < L2.length → a < 0 := by rw [h.a_]; exact Pt.cmpP_fewer
  refine ⟨?_, htr⟩
  rcases Pt.cmpP_range L1 E1 L2 E2 with hr | hr | hr
  · rw [← h.a_] at hr
    refine .inl ⟨hr, by omega, ?_, fun e => ?_⟩
    · rw [h.sm_]
      refine decide_eq_false fun e => ?_
      have := hz.2 e
      omega
    · have := hz.2 (ht.1 e)
      omega
  · rw [← h.a_] at hr
    refine .inr (.inl ⟨hr, by omega, ?_, ht.2 (hz.1 hr), by rw [(hz.1 hr).1]⟩)
    rw [h.sm_]
    exact decide_eq_true (hz.1 hr)
  · rw [← h.a_] at hr
    refine .inr (.inr ⟨hr, by omega, ?_, fun e => ?_, ?_⟩)
    · rw [h.sm_]
      refine decide_eq_false fun e => ?_
      have := hz.2 e
      omega
    · have := hz.2 (ht.1 e)
      omega
    · rcases Nat.lt_or_ge L1.length L2.length with h1 | h1
      · have := hl h1
        omega
      · exact h1
theorem text_ne {s t : ByteArray} (h : s ≠ t) : (s.toList == t.toList) = false := by
  rw [beq_eq_false_iff_ne]
  intro e
  rw [Lib.toList_data, Lib.toList_data] at e
  exact h (ByteArray.ext (Array.toList_inj.1 e))
theorem ColA.ne_new {l s : Bool} {x v : Value} {B : Nat} {w : World} (h : ColA l s x v B w) (hl : l = true) : x ≠ .pointer (some ⟨w.heap.size, 0, none⟩) := by
  obtain ⟨g, _, _, _, _, _, _, rfl, _, h3, _⟩ := h hl
  have := h3.lt
  intro e
  cases e
  omega

/-- A block's two cells. -/
def Two (w : World) (g : Nat) (u v : Value) : Prop := w.cell? ⟨g, 0, none⟩ = some u ∧ w.cell? ⟨g, 1, none⟩ = some v
theorem ck0 {w : World} {a : Addr} {v : Value} (h : w.cell? a = some v) : w.drew.cell? a = some v := h
theorem ck1 {w : World} {a : Addr} {v : Value} {o : Obj} (h : w.cell? a = some v) : (w.alloc o).cell? a = some v := (((Below.refl _ _).alloc (Nat.le_refl _) o).cell (World.block_lt_of_cell? _ _ h)).trans h
theorem ck2 {w : World} {a : Addr} {v : Value} {o o' : Obj} (h : w.cell? a = some v) : ((w.alloc o).alloc o').cell? a = some v := ck1 (ck1 h)
theorem ck3 {w : World} {a : Addr} {v : Value} {o o' o'' : Obj} (h : w.cell? a = some v) : (((w.alloc o).alloc o').alloc o'').cell? a = some v := ck1 (ck2 h)

set_option maxHeartbeats 16000000 in
theorem PatOrder_walk (L1 L2 L3 : List Int) (E1 E2 E3 : List (Int × Int)) (A1 B1 A2 B2 A3 B3 : Option Addr) (n1 c1 m1 d1 n2 c2 m2 d2 n3 c3 m3 d3 : Nat) (w : World) (hg : ErrT w) (hT : TabW w)
    (hl1 : L1.length = n1) (hl2 : L2.length = n2) (hl3 : L3.length = n3) (hn1 : n1 ≤ 1048576) (hn2 : n2 ≤ 1048576) (hn3 : n3 ≤ 1048576) (hm1 : m1 ≤ 1048576) (hm2 : m2 ≤ 1048576) (hm3 : m3 ≤ 1048576)
    (s1 : Sl w 1 A1 n1 (L1.map (Value.int .i64))) (s2 : Sl w 1 A2 n2 (L2.map (Value.int .i64))) (s3 : Sl w 1 A3 n3 (L3.map (Value.int .i64))) (t1 : Sl w 2 B1 m1 (Rk.cells E1)) (t2 : Sl w 2 B2 m2 (Rk.cells E2)) (t3 : Sl w 2 B3 m3 (Rk.cells E3)) :
    Calls Tryd.prog 3 #[pv A1 n1 c1 B1 m1 d1, pv A2 n2 c2 B2 m2 d2, pv A3 n3 c3 B3 m3 d3] w fun e w' => e = .returned (.bool true) ∧ Below w.heap.size w w' := by
  obtain ⟨w0, hw0⟩ : ∃ w0, w0 = ((w.alloc (.cells #[.slice A1 n1 c1, .slice B1 m1 d1] 25)).alloc (.cells #[.slice A2 n2 c2, .slice B2 m2 d2] 25)).alloc (.cells #[.slice A3 n3 c3, .slice B3 m3 d3] 25) := ⟨_, rfl⟩
  have hb0 : Below w.heap.size w w0 := by rw [hw0]; exact bel_al (bel_al (bel_al (Below.refl _ _) _) _) _
  have HB0 := Lib.hid hb0
  have HK1 := Lib.hid (show Blk w0 w.heap.size 25 #[.slice A1 n1 c1, .slice B1 m1 d1] by rw [hw0]; exact ((Blk.new _ _ _).alloc _).alloc _)
  have HK2 := Lib.hid (show Blk w0 (w.heap.size + 1) 25 #[.slice A2 n2 c2, .slice B2 m2 d2] by
    rw [hw0]
    have := Blk.new (w.alloc (.cells #[.slice A1 n1 c1, .slice B1 m1 d1] 25)) 25 #[.slice A2 n2 c2, .slice B2 m2 d2]
    rw [World.size_alloc] at this
    exact this.alloc _)
  have HK3 := Lib.hid (show Blk w0 (w.heap.size + 1 + 1) 25 #[.slice A3 n3 c3, .slice B3 m3 d3] by
    rw [hw0]
    have := Blk.new ((w.alloc (.cells #[.slice A1 n1 c1, .slice B1 m1 d1] 25)).alloc (.cells #[.slice A2 n2 c2, .slice B2 m2 d2] 25)) 25 #[.slice A3 n3 c3, .slice B3 m3 d3]
    rw [World.size_alloc, World.size_alloc] at this
    exact this)
  have HA := Lib.hid (alive08 w0 (hg.keep hb0) (hT.keep hb0))
  have HT0 := Lib.hid (hT.keep hb0)
  have HO1 := Lib.hid (fun (W : World) (hW : Below w0.heap.size w0 W) => Of08_any E1 A1 B1 n1 c1 m1 d1 W hm1 ((t1.keep hb0).keep hW))
  have HO2 := Lib.hid (fun (W : World) (hW : Below w0.heap.size w0 W) => Of08_any E2 A2 B2 n2 c2 m2 d2 W hm2 ((t2.keep hb0).keep hW))
  have HO3 := Lib.hid (fun (W : World) (hW : Below w0.heap.size w0 W) => Of08_any E3 A3 B3 n3 c3 m3 d3 W hm3 ((t3.keep hb0).keep hW))
  have HS1 := Lib.hid (s1.keep hb0)
  have HS2 := Lib.hid (s2.keep hb0)
  have HS3 := Lib.hid (s3.keep hb0)
  have HT1 := Lib.hid (t1.keep hb0)
  have HT2 := Lib.hid (t2.keep hb0)
  have HT3 := Lib.hid (t3.keep hb0)
  have HL1 := Lib.hid hl1
  have HL2 := Lib.hid hl2
  have HL3 := Lib.hid hl3
  clear hb0 s1 s2 s3 t1 t2 t3 hg hT hl1 hl2 hl3
  subst hw0
  go_enter Tryd.func3, Tryd.ntmps3
  go_wp2_with fail
  refine HA.out.mono ?_
  clear HA
  rintro e w1 ⟨rfl, hb1⟩
  go_wp2_with fail
  have HW1 := Lib.hid (HB0.out.andThen hb1)
  have k1 := HK1.out.keep hb1
  have k2 := HK2.out.keep hb1
  have k3 := HK3.out.keep hb1
  have HK1' := Lib.hid k1
  have HK2' := Lib.hid k2
  have HK3' := Lib.hid k3
  have k10 := k1.cell 0
  have k11 := k1.cell 1
  have k20 := k2.cell 0
  have k21 := k2.cell 1
  have k30 := k3.cell 0
  have k31 := k3.cell 1
  simp at k10 k11 k20 k21 k30 k31
  have HTw := Lib.hid (HT0.out.keep hb1)
  have HP1 := Lib.hid (fun (W : World) (hW : Below w1.heap.size w1 W) => (HO1.out W (hb1.andThen hW)).mono (R' := fun e w' => ∃ D k, e = .returned (pv A1 n1 c1 D m1 k) ∧ Sl w' 2 D m1 (Rk.cells E1) ∧ Below W.heap.size W w' ∧ Below w1.heap.size w1 w') fun e w' ⟨D, k, h1, h2, h3⟩ => ⟨D, k, h1, h2, h3, hW.andThen h3⟩)
  have HP2 := Lib.hid (fun (W : World) (hW : Below w1.heap.size w1 W) => (HO2.out W (hb1.andThen hW)).mono (R' := fun e w' => ∃ D k, e = .returned (pv A2 n2 c2 D m2 k) ∧ Sl w' 2 D m2 (Rk.cells E2) ∧ Below W.heap.size W w' ∧ Below w1.heap.size w1 w') fun e w' ⟨D, k, h1, h2, h3⟩ => ⟨D, k, h1, h2, h3, hW.andThen h3⟩)
  have HP3 := Lib.hid (fun (W : World) (hW : Below w1.heap.size w1 W) => (HO3.out W (hb1.andThen hW)).mono (R' := fun e w' => ∃ D k, e = .returned (pv A3 n3 c3 D m3 k) ∧ Sl w' 2 D m3 (Rk.cells E3) ∧ Below W.heap.size W w' ∧ Below w1.heap.size w1 w') fun e w' ⟨D, k, h1, h2, h3⟩ => ⟨D, k, h1, h2, h3, hW.andThen h3⟩)
  have HTB2 := Lib.hid (HT2.out.keep hb1)
  have HZ1 := Lib.hid (HS1.out.keep hb1)
  have HZ2 := Lib.hid (HS2.out.keep hb1)
  have HZ3 := Lib.hid (HS3.out.keep hb1)
  clear hb1 k1 k2 k3 HK1 HK2 HK3 HB0 HT0 HO1 HO2 HO3 HS1 HS2 HS3 HT1 HT2 HT3
  go_cut [7, 8, 9] from 17 to 22 (fun x y z wx => ∃ (D1 D2 D3 : Option Addr) (e1 e2 e3 g1 g2 g3 : Nat), x = .pointer (some ⟨g1, 0, none⟩) ∧ y = .pointer (some ⟨g2, 0, none⟩) ∧ z = .pointer (some ⟨g3, 0, none⟩) ∧ Hid (Two wx g1 (.slice A1 n1 c1) (.slice D1 m1 e1)) ∧ Hid (Two wx g2 (.slice A2 n2 c2) (.slice D2 m2 e2)) ∧ Hid (Two wx g3 (.slice A3 n3 c3) (.slice D3 m3 e3)) ∧ Hid (Sl wx 2 D1 m1 (Rk.cells E1)) ∧ Hid (Sl wx 2 D2 m2 (Rk.cells E2)) ∧ Hid (Sl wx 2 D3 m3 (Rk.cells E3)) ∧ Hid (Below w1.heap.size w1 wx))
  case first =>
    have HK := Lib.hid (show ∀ W, Below w1.heap.size w1 W → W.cell? ⟨w.heap.size, 0, none⟩ = some (.slice A1 n1 c1) ∧ W.cell? ⟨w.heap.size, 1, none⟩ = some (.slice B1 m1 d1) ∧ W.cell? ⟨w.heap.size + 1, 0, none⟩ = some (.slice A2 n2 c2) ∧ W.cell? ⟨w.heap.size + 1, 1, none⟩ = some (.slice B2 m2 d2) ∧ W.cell? ⟨w.heap.size + 1 + 1, 0, none⟩ = some (.slice A3 n3 c3) ∧ W.cell? ⟨w.heap.size + 1 + 1, 1, none⟩ = some (.slice B3 m3 d3) from fun W hW => ⟨(hW.cell (World.block_lt_of_cell? _ _ k10)).trans k10, (hW.cell (World.block_lt_of_cell? _ _ k11)).trans k11, (hW.cell (World.block_lt_of_cell? _ _ k20)).trans k20, (hW.cell (World.block_lt_of_cell? _ _ k21)).trans k21, (hW.cell (World.block_lt_of_cell? _ _ k30)).trans k30, (hW.cell (World.block_lt_of_cell? _ _ k31)).trans k31⟩)
    refine wp_region_inv (fun listed a W => ∃ (l0 l1 l2 l3 l4 l5 l6 l7 l8 l9 l10 l11 : Bool) (x7 x8 x9 v17 v18 v19 v20 v21 v22 : Value), listed = #[l0, l1, l2, l3, l4, l5, l6, l7, l8, l9, l10, l11] ∧ a = { tmps := #[pv A1 n1 c1 B1 m1 d1, pv A2 n2 c2 B2 m2 d2, pv A3 n3 c3 B3 m3 d3, .pointer (some ⟨w.heap.size, 0, none⟩), .pointer (some ⟨w.heap.size + 1, 0, none⟩), .pointer (some ⟨w.heap.size + 1 + 1, 0, none⟩), .bool false, x7, x8, x9, undef, undef, undef, undef, undef, .bool true, .bool false, v17, v18, v19, v20, v21, v22, undef, undef, undef, undef, undef, undef, undef, undef, undef, undef, undef, undef, undef, undef, undef, undef, undef, undef, undef, undef, undef, undef, undef, undef, undef, undef, undef, undef, undef, undef, undef, undef, undef, undef, undef, undef, undef, undef, undef, undef, undef, undef, undef, undef, undef, undef, undef, undef, undef, undef, undef, undef, undef, undef, undef, undef, undef, undef, undef, undef, undef, undef, undef, undef, undef, undef, undef, undef, undef, undef, undef, undef, undef, undef, undef, undef, undef, undef, undef, undef, undef, undef, undef, undef, undef, undef, undef, undef, undef, undef, undef, undef, undef, undef, undef, undef, undef, undef, undef, undef, undef, undef, undef, undef, undef, undef, undef], defers := [] } ∧ Hid (Below w1.heap.size w1 W) ∧ Hid (ColL l0 v17 (pv A1 n1 c1 B1 m1 d1)) ∧ Hid (ColL l2 v19 (pv A2 n2 c2 B2 m2 d2)) ∧ Hid (ColL l4 v21 (pv A3 n3 c3 B3 m3 d3)) ∧ Hid (ColC l1 v18 W A1 n1 c1 m1 E1) ∧ Hid (ColC l3 v20 W A2 n2 c2 m2 E2) ∧ Hid (ColC l5 v22 W A3 n3 c3 m3 E3) ∧ Hid (ColA l6 l9 x7 v18 w1.heap.size W) ∧ Hid (ColA l7 l10 x8 v20 w1.heap.size W) ∧ Hid (ColA l8 l11 x9 v22 w1.heap.size W) ∧ Hid (Apart l6 l7 x7 x8) ∧ Hid (Apart l6 l8 x7 x9) ∧ Hid (Apart l7 l8 x8 x9) ∧ Hid ((l9 = true → l6 = true ∧ l1 = true) ∧ (l10 = true → l7 = true ∧ l3 = true) ∧ (l11 = true → l8 = true ∧ l5 = true))) (by kernel_rfl) ?_ ?_ ?_
    · refine ⟨false, false, false, false, false, false, false, false, false, false, false, false, undef, undef, undef, undef, undef, undef, undef, undef, undef, rfl, rfl, Lib.hid (bel_drewN (Below.refl _ _) 1), ?_⟩
      unfold ColL ColC ColA Apart
      simp [Hid]
    · rintro i listed a W hi ⟨l0, l1, l2, l3, l4, l5, l6, l7, l8, l9, l10, l11, x7, x8, x9, v17, v18, v19, v20, v21, v22, rfl, rfl, HB, h17, h19, h21, h18, h20, h22, h7, h8, h9, h78, h79, h89, hs⟩
      have hcl := Lib.hid (HK.out W HB.out)
      match i, hi with
      | 0, hi =>
        refine wpOp_step rfl fun K' hK => ?_
        obtain ⟨z0, z1, z2, z3, z4, z5⟩ := hcl.out
        clear HK HP1 HP2 HP3
        go_simp
        refine hK _ _ ⟨true, l1, l2, l3, l4, l5, l6, l7, l8, l9, l10, l11, x7, x8, x9, _, v18, v19, v20, v21, v22, rfl, rfl, HB, Lib.hid (fun _ => rfl), h19, h21, h18, h20, h22, h7, h8, h9, h78, h79, h89, hs⟩
      | 2, hi =>
        refine wpOp_step rfl fun K' hK => ?_
        obtain ⟨z0, z1, z2, z3, z4, z5⟩ := hcl.out
        clear HK HP1 HP2 HP3
        go_simp
        refine hK _ _ ⟨l0, l1, true, l3, l4, l5, l6, l7, l8, l9, l10, l11, x7, x8, x9, v17, v18, _, v20, v21, v22, rfl, rfl, HB, h17, Lib.hid (fun _ => rfl), h21, h18, h20, h22, h7, h8, h9, h78, h79, h89, hs⟩
      | 4, hi =>
        refine wpOp_step rfl fun K' hK => ?_
        obtain ⟨z0, z1, z2, z3, z4, z5⟩ := hcl.out
        clear HK HP1 HP2 HP3
        go_simp
        refine hK _ _ ⟨l0, l1, l2, l3, true, l5, l6, l7, l8, l9, l10, l11, x7, x8, x9, v17, v18, v19, v20, _, v22, rfl, rfl, HB, h17, h19, Lib.hid (fun _ => rfl), h18, h20, h22, h7, h8, h9, h78, h79, h89, hs⟩
      | 1, hi =>
        simp [Region.ready, Region.binds] at hi
        refine wpOp_step rfl fun K' hK => ?_
        obtain rfl := h17.out (by grind)
        have HC := Lib.hid (HP1.out W HB.out)
        clear HK HP1 HP2 HP3
        go_simp
        refine HC.out.mono ?_
        rintro e' w2 ⟨D, e, rfl, hs2, hb, hbw⟩
        refine hK _ _ ⟨l0, true, l2, l3, l4, l5, l6, l7, l8, l9, l10, l11, x7, x8, x9, _, _, v19, v20, v21, v22, rfl, rfl, Lib.hid hbw, h17, h19, h21, Lib.hid (fun _ => ⟨D, e, rfl, hs2⟩), Lib.hid (h20.out.keep hb), Lib.hid (h22.out.keep hb), Lib.hid (ColA.fresh h7.out (by have := hs.out; grind) hb), Lib.hid (h8.out.keep hb), Lib.hid (h9.out.keep hb), h78, h79, h89, Lib.hid (by have := hs.out; grind)⟩
      | 3, hi =>
        simp [Region.ready, Region.binds] at hi
        refine wpOp_step rfl fun K' hK => ?_
        obtain rfl := h19.out (by grind)
        have HC := Lib.hid (HP2.out W HB.out)
        clear HK HP1 HP2 HP3
        go_simp
        refine HC.out.mono ?_
        rintro e' w2 ⟨D, e, rfl, hs2, hb, hbw⟩
        refine hK _ _ ⟨l0, l1, l2, true, l4, l5, l6, l7, l8, l9, l10, l11, x7, x8, x9, v17, v18, _, _, v21, v22, rfl, rfl, Lib.hid hbw, h17, h19, h21, Lib.hid (h18.out.keep hb), Lib.hid (fun _ => ⟨D, e, rfl, hs2⟩), Lib.hid (h22.out.keep hb), Lib.hid (h7.out.keep hb), Lib.hid (ColA.fresh h8.out (by have := hs.out; grind) hb), Lib.hid (h9.out.keep hb), h78, h79, h89, Lib.hid (by have := hs.out; grind)⟩
      | 5, hi =>
        simp [Region.ready, Region.binds] at hi
        refine wpOp_step rfl fun K' hK => ?_
        obtain rfl := h21.out (by grind)
        have HC := Lib.hid (HP3.out W HB.out)
        clear HK HP1 HP2 HP3
        go_simp
        refine HC.out.mono ?_
        rintro e' w2 ⟨D, e, rfl, hs2, hb, hbw⟩
        refine hK _ _ ⟨l0, l1, l2, l3, l4, true, l6, l7, l8, l9, l10, l11, x7, x8, x9, v17, v18, v19, v20, _, _, rfl, rfl, Lib.hid hbw, h17, h19, h21, Lib.hid (h18.out.keep hb), Lib.hid (h20.out.keep hb), Lib.hid (fun _ => ⟨D, e, rfl, hs2⟩), Lib.hid (h7.out.keep hb), Lib.hid (h8.out.keep hb), Lib.hid (ColA.fresh h9.out (by have := hs.out; grind) hb), h78, h79, h89, Lib.hid (by have := hs.out; grind)⟩
      | 6, hi =>
        simp [Region.ready, Region.binds] at hi
        refine wpOp_step rfl fun K' hK => ?_
        have hal := (Below.refl W.heap.size W).alloc (Nat.le_refl _) (.cells #[.slice none 0 0, .slice none 0 0] 29)
        clear HK HP1 HP2 HP3
        go_simp
        refine hK _ _ ⟨l0, l1, l2, l3, l4, l5, true, l7, l8, l9, l10, l11, _, x8, x9, v17, v18, v19, v20, v21, v22, rfl, rfl, Lib.hid (bel_al HB.out _), h17, h19, h21, Lib.hid (h18.out.keep hal), Lib.hid (h20.out.keep hal), Lib.hid (h22.out.keep hal), Lib.hid (ColA.new W HB.out.size (by have := hs.out; grind)), Lib.hid (h8.out.keep hal), Lib.hid (h9.out.keep hal), Lib.hid (fun _ h => (h8.out.ne_new h).symm), Lib.hid (fun _ h => (h9.out.ne_new h).symm), h89, Lib.hid (by have := hs.out; grind)⟩
      | 7, hi =>
        simp [Region.ready, Region.binds] at hi
        refine wpOp_step rfl fun K' hK => ?_
        have hal := (Below.refl W.heap.size W).alloc (Nat.le_refl _) (.cells #[.slice none 0 0, .slice none 0 0] 29)
        clear HK HP1 HP2 HP3
        go_simp
        refine hK _ _ ⟨l0, l1, l2, l3, l4, l5, l6, true, l8, l9, l10, l11, x7, _, x9, v17, v18, v19, v20, v21, v22, rfl, rfl, Lib.hid (bel_al HB.out _), h17, h19, h21, Lib.hid (h18.out.keep hal), Lib.hid (h20.out.keep hal), Lib.hid (h22.out.keep hal), Lib.hid (h7.out.keep hal), Lib.hid (ColA.new W HB.out.size (by have := hs.out; grind)), Lib.hid (h9.out.keep hal), Lib.hid (fun h _ => h7.out.ne_new h), h79, Lib.hid (fun _ h => (h9.out.ne_new h).symm), Lib.hid (by have := hs.out; grind)⟩
      | 8, hi =>
        simp [Region.ready, Region.binds] at hi
        refine wpOp_step rfl fun K' hK => ?_
        have hal := (Below.refl W.heap.size W).alloc (Nat.le_refl _) (.cells #[.slice none 0 0, .slice none 0 0] 29)
        clear HK HP1 HP2 HP3
        go_simp
        refine hK _ _ ⟨l0, l1, l2, l3, l4, l5, l6, l7, true, l9, l10, l11, x7, x8, _, v17, v18, v19, v20, v21, v22, rfl, rfl, Lib.hid (bel_al HB.out _), h17, h19, h21, Lib.hid (h18.out.keep hal), Lib.hid (h20.out.keep hal), Lib.hid (h22.out.keep hal), Lib.hid (h7.out.keep hal), Lib.hid (h8.out.keep hal), Lib.hid (ColA.new W HB.out.size (by have := hs.out; grind)), h78, Lib.hid (fun h _ => h7.out.ne_new h), Lib.hid (fun h _ => h8.out.ne_new h), Lib.hid (by have := hs.out; grind)⟩
      | 9, hi =>
        simp [Region.ready, Region.binds] at hi
        have hla : l6 = true := by grind
        have hlc : l1 = true := by grind
        refine wpOp_step rfl fun K' hK => ?_
        obtain ⟨D, e, rfl, hrow⟩ := h18.out hlc
        obtain ⟨g, F1, F2, q1, q2, r1, r2, rfl, hg, hbk, _⟩ := h7.out hla
        have b0 := hbk.cell 0
        have b1 := hbk.cell 1
        have f0 := hbk.frozen 0
        have f1 := hbk.frozen 1
        simp at b0 b1
        clear HK HP1 HP2 HP3
        go_simp
        refine hK _ _ ⟨l0, l1, l2, l3, l4, l5, l6, l7, l8, true, l10, l11, _, x8, x9, v17, _, v19, v20, v21, v22, rfl, rfl, Lib.hid ((HB.out.setCell (p := ⟨g, 0, none⟩) hg _).setCell (p := ⟨g, 1, none⟩) hg _), h17, h19, h21, Lib.hid (h18.out.store hbk _ _ _ _ _ _), Lib.hid (h20.out.store hbk _ _ _ _ _ _), Lib.hid (h22.out.store hbk _ _ _ _ _ _), Lib.hid (fun _ => ⟨g, A1, D, n1, m1, c1, e, rfl, hg, (hbk.set_ 0 (.slice A1 n1 c1)).set_ 1 (.slice D m1 e), fun _ => rfl⟩), Lib.hid (h8.out.store (fun h e => h78.out hla h e.symm) _ _), Lib.hid (h9.out.store (fun h e => h79.out hla h e.symm) _ _), h78, h79, h89, Lib.hid (by have := hs.out; grind)⟩
      | 10, hi =>
        simp [Region.ready, Region.binds] at hi
        have hla : l7 = true := by grind
        have hlc : l3 = true := by grind
        refine wpOp_step rfl fun K' hK => ?_
        obtain ⟨D, e, rfl, hrow⟩ := h20.out hlc
        obtain ⟨g, F1, F2, q1, q2, r1, r2, rfl, hg, hbk, _⟩ := h8.out hla
        have b0 := hbk.cell 0
        have b1 := hbk.cell 1
        have f0 := hbk.frozen 0
        have f1 := hbk.frozen 1
        simp at b0 b1
        clear HK HP1 HP2 HP3
        go_simp
        refine hK _ _ ⟨l0, l1, l2, l3, l4, l5, l6, l7, l8, l9, true, l11, x7, _, x9, v17, v18, v19, _, v21, v22, rfl, rfl, Lib.hid ((HB.out.setCell (p := ⟨g, 0, none⟩) hg _).setCell (p := ⟨g, 1, none⟩) hg _), h17, h19, h21, Lib.hid (h18.out.store hbk _ _ _ _ _ _), Lib.hid (h20.out.store hbk _ _ _ _ _ _), Lib.hid (h22.out.store hbk _ _ _ _ _ _), Lib.hid (h7.out.store (fun h => h78.out h hla) _ _), Lib.hid (fun _ => ⟨g, A2, D, n2, m2, c2, e, rfl, hg, (hbk.set_ 0 (.slice A2 n2 c2)).set_ 1 (.slice D m2 e), fun _ => rfl⟩), Lib.hid (h9.out.store (fun h e => h89.out hla h e.symm) _ _), h78, h79, h89, Lib.hid (by have := hs.out; grind)⟩
      | 11, hi =>
        simp [Region.ready, Region.binds] at hi
        have hla : l8 = true := by grind
        have hlc : l5 = true := by grind
        refine wpOp_step rfl fun K' hK => ?_
        obtain ⟨D, e, rfl, hrow⟩ := h22.out hlc
        obtain ⟨g, F1, F2, q1, q2, r1, r2, rfl, hg, hbk, _⟩ := h9.out hla
        have b0 := hbk.cell 0
        have b1 := hbk.cell 1
        have f0 := hbk.frozen 0
        have f1 := hbk.frozen 1
        simp at b0 b1
        clear HK HP1 HP2 HP3
        go_simp
        refine hK _ _ ⟨l0, l1, l2, l3, l4, l5, l6, l7, l8, l9, l10, true, x7, x8, _, v17, v18, v19, v20, v21, _, rfl, rfl, Lib.hid ((HB.out.setCell (p := ⟨g, 0, none⟩) hg _).setCell (p := ⟨g, 1, none⟩) hg _), h17, h19, h21, Lib.hid (h18.out.store hbk _ _ _ _ _ _), Lib.hid (h20.out.store hbk _ _ _ _ _ _), Lib.hid (h22.out.store hbk _ _ _ _ _ _), Lib.hid (h7.out.store (fun h => h79.out h hla) _ _), Lib.hid (h8.out.store (fun h => h89.out h hla) _ _), Lib.hid (fun _ => ⟨g, A3, D, n3, m3, c3, e, rfl, hg, (hbk.set_ 0 (.slice A3 n3 c3)).set_ 1 (.slice D m3 e), fun _ => rfl⟩), h78, h79, h89, Lib.hid (by have := hs.out; grind)⟩
      | k + 12, hi => exact absurd (ready_open hi) (by simp)
    · rintro listed a W hnil ⟨l0, l1, l2, l3, l4, l5, l6, l7, l8, l9, l10, l11, x7, x8, x9, v17, v18, v19, v20, v21, v22, rfl, rfl, HB, h17, h19, h21, h18, h20, h22, h7, h8, h9, h78, h79, h89, hs⟩
      have hno := fun i => List.eq_nil_iff_forall_not_mem.1 hnil i
      have e0 := hno 0
      have e2 := hno 2
      have e4 := hno 4
      have e6 := hno 6
      have e7 := hno 7
      have e8 := hno 8
      have e1 := hno 1
      have e3 := hno 3
      have e5 := hno 5
      have e9 := hno 9
      have e10 := hno 10
      have e11 := hno 11
      clear hno hnil HK HP1 HP2 HP3
      simp [Region.ready, Region.binds] at e0 e2 e4 e6 e7 e8 e1 e3 e5 e9 e10 e11
      have l9t : l9 = true := by grind
      have l10t : l10 = true := by grind
      have l11t : l11 = true := by grind
      obtain ⟨D1, e1', rfl, r1⟩ := h18.out (hs.out.1 l9t).2
      obtain ⟨D2, e2', rfl, r2⟩ := h20.out (hs.out.2.1 l10t).2
      obtain ⟨D3, e3', rfl, r3⟩ := h22.out (hs.out.2.2 l11t).2
      obtain ⟨g1, _, _, _, _, _, _, rfl, hg1, hb1, q1⟩ := h7.out (hs.out.1 l9t).1
      obtain ⟨g2, _, _, _, _, _, _, rfl, hg2, hb2, q2⟩ := h8.out (hs.out.2.1 l10t).1
      obtain ⟨g3, _, _, _, _, _, _, rfl, hg3, hb3, q3⟩ := h9.out (hs.out.2.2 l11t).1
      cases q1 l9t
      cases q2 l10t
      cases q3 l11t
      clear h7 h8 h9 h18 h20 h22 h17 h19 h21 q1 q2 q3
      go_wp2_with fail
      go_meet
      exact ⟨D1, D2, D3, e1', e2', e3', g1, g2, g3, rfl, rfl, rfl, Lib.hid ⟨hb1.cell 0, hb1.cell 1⟩, Lib.hid ⟨hb2.cell 0, hb2.cell 1⟩, Lib.hid ⟨hb3.cell 0, hb3.cell 1⟩, Lib.hid r1, Lib.hid r2, Lib.hid r3, HB⟩
  case rest =>
    obtain ⟨D1, D2, D3, e1, e2, e3, g1, g2, g3, rfl, rfl, rfl, HQ1, HQ2, HQ3, HX1, HX2, HX3, HBX⟩ := hcut
    have HAll := Lib.hid (show ∀ W, Below wc.heap.size wc W → (W.cell? ⟨w.heap.size, 0, none⟩ = some (.slice A1 n1 c1) ∧ W.cell? ⟨w.heap.size, 1, none⟩ = some (.slice B1 m1 d1) ∧ W.cell? ⟨w.heap.size + 1, 0, none⟩ = some (.slice A2 n2 c2) ∧ W.cell? ⟨w.heap.size + 1, 1, none⟩ = some (.slice B2 m2 d2) ∧ W.cell? ⟨w.heap.size + 1 + 1, 0, none⟩ = some (.slice A3 n3 c3) ∧ W.cell? ⟨w.heap.size + 1 + 1, 1, none⟩ = some (.slice B3 m3 d3)) ∧ (W.cell? ⟨g1, 0, none⟩ = some (.slice A1 n1 c1) ∧ W.cell? ⟨g1, 1, none⟩ = some (.slice D1 m1 e1) ∧ W.cell? ⟨g2, 0, none⟩ = some (.slice A2 n2 c2) ∧ W.cell? ⟨g2, 1, none⟩ = some (.slice D2 m2 e2) ∧ W.cell? ⟨g3, 0, none⟩ = some (.slice A3 n3 c3) ∧ W.cell? ⟨g3, 1, none⟩ = some (.slice D3 m3 e3)) from fun W hW =>
      ⟨⟨((HBX.out.andThen hW).cell (World.block_lt_of_cell? _ _ k10)).trans k10, ((HBX.out.andThen hW).cell (World.block_lt_of_cell? _ _ k11)).trans k11, ((HBX.out.andThen hW).cell (World.block_lt_of_cell? _ _ k20)).trans k20, ((HBX.out.andThen hW).cell (World.block_lt_of_cell? _ _ k21)).trans k21, ((HBX.out.andThen hW).cell (World.block_lt_of_cell? _ _ k30)).trans k30, ((HBX.out.andThen hW).cell (World.block_lt_of_cell? _ _ k31)).trans k31⟩,
       (hW.cell (World.block_lt_of_cell? _ _ HQ1.out.1)).trans HQ1.out.1, (hW.cell (World.block_lt_of_cell? _ _ HQ1.out.2)).trans HQ1.out.2, (hW.cell (World.block_lt_of_cell? _ _ HQ2.out.1)).trans HQ2.out.1, (hW.cell (World.block_lt_of_cell? _ _ HQ2.out.2)).trans HQ2.out.2, (hW.cell (World.block_lt_of_cell? _ _ HQ3.out.1)).trans HQ3.out.1, (hW.cell (World.block_lt_of_cell? _ _ HQ3.out.2)).trans HQ3.out.2⟩)
    have HB := Lib.hid (Below.refl wc.heap.size wc)
    have HW := Lib.hid (HW1.out.andThen HBX.out)
    have zz := HAll.out _ HB.out
    clear k10 k11 k20 k21 k30 k31 HP1 HP2 HP3
    by_cases hf1 : (decide (20 < n1) || decide (60 < m1)) = true
    · go_wp2_with (go_at_call 14; refine (far_any _ _ _ _ _ _ _).mono ?_; rintro e' w2 ⟨rfl, hb2⟩; have HB := Lib.hid (HB.out.andThen hb2); clear zz; have zz := HAll.out _ HB.out; clear hb2)
      go_ret
      exact ⟨rfl, HW.out.andThen HB.out⟩
    have hg1 : (decide (20 < n1) || decide (60 < m1)) = false := by simpa using hf1
    by_cases hf2 : (decide (20 < n2) || decide (60 < m2)) = true
    · clear hf1
      go_wp2_with (go_at_call 14; refine (far_any _ _ _ _ _ _ _).mono ?_; rintro e' w2 ⟨rfl, hb2⟩; have HB := Lib.hid (HB.out.andThen hb2); clear zz; have zz := HAll.out _ HB.out; clear hb2)
      go_ret
      exact ⟨rfl, HW.out.andThen HB.out⟩
    have hg2 : (decide (20 < n2) || decide (60 < m2)) = false := by simpa using hf2
    by_cases hf3 : (decide (20 < n3) || decide (60 < m3)) = true
    · clear hf1 hf2
      go_wp2_with (go_at_call 14; refine (far_any _ _ _ _ _ _ _).mono ?_; rintro e' w2 ⟨rfl, hb2⟩; have HB := Lib.hid (HB.out.andThen hb2); clear zz; have zz := HAll.out _ HB.out; clear hb2)
      go_ret
      exact ⟨rfl, HW.out.andThen HB.out⟩
    have hg3 : (decide (20 < n3) || decide (60 < m3)) = false := by simpa using hf3
    have hs1 : n1 ≤ 20 ∧ m1 ≤ 60 := by simp at hg1; omega
    have hs2 : n2 ≤ 20 ∧ m2 ≤ 60 := by simp at hg2; omega
    have hs3 : n3 ≤ 20 ∧ m3 ≤ 60 := by simp at hg3; omega
    have HZw1 := Lib.hid (HZ1.out.keep HBX.out)
    have HZw2 := Lib.hid (HZ2.out.keep HBX.out)
    have HZw3 := Lib.hid (HZ3.out.keep HBX.out)
    clear hf1 hf2 hf3 HZ1 HZ2 HZ3 HQ1 HQ2 HQ3
    have HR1 := Lib.hid (fun (W : World) (hW : Below wc.heap.size wc W) => Right_any L1 E1 A1 D1 n1 c1 m1 e1 W HL1.out (by omega) (by omega) (HZw1.out.keep hW) (HX1.out.keep hW))
    have HR2 := Lib.hid (fun (W : World) (hW : Below wc.heap.size wc W) => Right_any L2 E2 A2 D2 n2 c2 m2 e2 W HL2.out (by omega) (by omega) (HZw2.out.keep hW) (HX2.out.keep hW))
    have HR3 := Lib.hid (fun (W : World) (hW : Below wc.heap.size wc W) => Right_any L3 E3 A3 D3 n3 c3 m3 e3 W HL3.out (by omega) (by omega) (HZw3.out.keep hW) (HX3.out.keep hW))
    by_cases hr1 : rightP L1 E1
    case neg =>
      have HC1 := Lib.hid (fun (W : World) (hW : Below wc.heap.size wc W) => right_no hr1 (HR1.out W hW))
      clear hr1 HR1 HR2 HR3
      go_wp2_with (first | (go_at_call 14; refine (far_any _ _ _ _ _ _ _).mono ?_; rintro e' w2 ⟨rfl, hb2⟩; have HB := Lib.hid (HB.out.andThen hb2); clear zz; have zz := HAll.out _ HB.out; clear hb2) | (go_at_call 15; (with_reducible refine (HC1.out _ HB.out).mono ?_); rintro e' w2 ⟨g, rfl, hb2⟩; have HB := Lib.hid (HB.out.andThen hb2); clear zz; have zz := HAll.out _ HB.out; clear hb2))
      go_ret
      exact ⟨rfl, HW.out.andThen HB.out⟩
    have HC1 := Lib.hid (fun (W : World) (hW : Below wc.heap.size wc W) => right_yes hr1 (HR1.out W hW))
    have HRR1 := Lib.hid hr1
    clear hr1 HR1
    by_cases hr2 : rightP L2 E2
    case neg =>
      have HC2 := Lib.hid (fun (W : World) (hW : Below wc.heap.size wc W) => right_no hr2 (HR2.out W hW))
      clear hr2 HR2 HR3
      go_wp2_with (first | (go_at_call 14; refine (far_any _ _ _ _ _ _ _).mono ?_; rintro e' w2 ⟨rfl, hb2⟩; have HB := Lib.hid (HB.out.andThen hb2); clear zz; have zz := HAll.out _ HB.out; clear hb2) | (go_at_call 15; (with_reducible refine (HC1.out _ HB.out).mono ?_); rintro e' w2 ⟨rfl, hb2⟩; have HB := Lib.hid (HB.out.andThen hb2); clear zz; have zz := HAll.out _ HB.out; clear hb2) | (go_at_call 15; (with_reducible refine (HC2.out _ HB.out).mono ?_); rintro e' w2 ⟨g, rfl, hb2⟩; have HB := Lib.hid (HB.out.andThen hb2); clear zz; have zz := HAll.out _ HB.out; clear hb2))
      go_ret
      exact ⟨rfl, HW.out.andThen HB.out⟩
    have HC2 := Lib.hid (fun (W : World) (hW : Below wc.heap.size wc W) => right_yes hr2 (HR2.out W hW))
    have HRR2 := Lib.hid hr2
    clear hr2 HR2
    by_cases hr3 : rightP L3 E3
    case neg =>
      have HC3 := Lib.hid (fun (W : World) (hW : Below wc.heap.size wc W) => right_no hr3 (HR3.out W hW))
      clear hr3 HR3
      go_wp2_with (first | (go_at_call 14; refine (far_any _ _ _ _ _ _ _).mono ?_; rintro e' w2 ⟨rfl, hb2⟩; have HB := Lib.hid (HB.out.andThen hb2); clear zz; have zz := HAll.out _ HB.out; clear hb2) | (go_at_call 15; (with_reducible refine (HC1.out _ HB.out).mono ?_); rintro e' w2 ⟨rfl, hb2⟩; have HB := Lib.hid (HB.out.andThen hb2); clear zz; have zz := HAll.out _ HB.out; clear hb2) | (go_at_call 15; (with_reducible refine (HC2.out _ HB.out).mono ?_); rintro e' w2 ⟨rfl, hb2⟩; have HB := Lib.hid (HB.out.andThen hb2); clear zz; have zz := HAll.out _ HB.out; clear hb2) | (go_at_call 15; (with_reducible refine (HC3.out _ HB.out).mono ?_); rintro e' w2 ⟨g, rfl, hb2⟩; have HB := Lib.hid (HB.out.andThen hb2); clear zz; have zz := HAll.out _ HB.out; clear hb2))
      go_ret
      exact ⟨rfl, HW.out.andThen HB.out⟩
    have HC3 := Lib.hid (fun (W : World) (hW : Below wc.heap.size wc W) => right_yes hr3 (HR3.out W hW))
    have HRR3 := Lib.hid hr3
    clear hr3 HR3
    go_wp2_with (first | (go_at_call 14; refine (far_any _ _ _ _ _ _ _).mono ?_; rintro e' w2 ⟨rfl, hb2⟩; have HB := Lib.hid (HB.out.andThen hb2); clear zz; have zz := HAll.out _ HB.out; clear hb2) | (go_at_call 15; (with_reducible refine (HC1.out _ HB.out).mono ?_); rintro e' w2 ⟨rfl, hb2⟩; have HB := Lib.hid (HB.out.andThen hb2); clear zz; have zz := HAll.out _ HB.out; clear hb2) | (go_at_call 15; (with_reducible refine (HC2.out _ HB.out).mono ?_); rintro e' w2 ⟨rfl, hb2⟩; have HB := Lib.hid (HB.out.andThen hb2); clear zz; have zz := HAll.out _ HB.out; clear hb2) | (go_at_call 15; (with_reducible refine (HC3.out _ HB.out).mono ?_); rintro e' w2 ⟨rfl, hb2⟩; have HB := Lib.hid (HB.out.andThen hb2); clear zz; have zz := HAll.out _ HB.out; clear hb2))
    obtain ⟨a, a', b, c, t1, t2, sm, hF⟩ : ∃ (a a' b c : Int) (t1 t2 : ByteArray) (sm : Bool), OrdF L1 L2 L3 E1 E2 E3 a a' b c t1 t2 sm := ⟨_, _, _, _, _, _, _, rfl, rfl, rfl, rfl, rfl, rfl, rfl⟩
    have HF := Lib.hid hF
    clear hF HC1 HC2 HC3 hg1 hg2 hg3 zz
    have H12 := Lib.hid (fun (W : World) (hW : Below wc.heap.size wc W) => (PatCompare_any L1 L2 E1 E2 A1 A2 D1 D2 n1 n2 m1 m2 c1 c2 e1 e2 W HL1.out HL2.out (by omega) (by omega) (HZw1.out.keep hW) (HZw2.out.keep hW) (HX1.out.keep hW) (HX2.out.keep hW)).mono (R' := fun e w' => e = .returned (.int .i64 a) ∧ Below wc.heap.size wc w') fun e w' h => by rw [HF.out.a_]; exact ⟨h.1, hW.andThen h.2⟩)
    have H21 := Lib.hid (fun (W : World) (hW : Below wc.heap.size wc W) => (PatCompare_any L2 L1 E2 E1 A2 A1 D2 D1 n2 n1 m2 m1 c2 c1 e2 e1 W HL2.out HL1.out (by omega) (by omega) (HZw2.out.keep hW) (HZw1.out.keep hW) (HX2.out.keep hW) (HX1.out.keep hW)).mono (R' := fun e w' => e = .returned (.int .i64 a') ∧ Below wc.heap.size wc w') fun e w' h => by rw [HF.out.a'_]; exact ⟨h.1, hW.andThen h.2⟩)
    have H23 := Lib.hid (fun (W : World) (hW : Below wc.heap.size wc W) => (PatCompare_any L2 L3 E2 E3 A2 A3 D2 D3 n2 n3 m2 m3 c2 c3 e2 e3 W HL2.out HL3.out (by omega) (by omega) (HZw2.out.keep hW) (HZw3.out.keep hW) (HX2.out.keep hW) (HX3.out.keep hW)).mono (R' := fun e w' => e = .returned (.int .i64 b) ∧ Below wc.heap.size wc w') fun e w' h => by rw [HF.out.b_]; exact ⟨h.1, hW.andThen h.2⟩)
    have H13 := Lib.hid (fun (W : World) (hW : Below wc.heap.size wc W) => (PatCompare_any L1 L3 E1 E3 A1 A3 D1 D3 n1 n3 m1 m3 c1 c3 e1 e3 W HL1.out HL3.out (by omega) (by omega) (HZw1.out.keep hW) (HZw3.out.keep hW) (HX1.out.keep hW) (HX3.out.keep hW)).mono (R' := fun e w' => e = .returned (.int .i64 c) ∧ Below wc.heap.size wc w') fun e w' h => by rw [HF.out.c_]; exact ⟨h.1, hW.andThen h.2⟩)
    have H11 := Lib.hid (fun (W : World) (hW : Below wc.heap.size wc W) => (PatCompare_any L1 L1 E1 E1 A1 A1 D1 D1 n1 n1 m1 m1 c1 c1 e1 e1 W HL1.out HL1.out (by omega) (by omega) (HZw1.out.keep hW) (HZw1.out.keep hW) (HX1.out.keep hW) (HX1.out.keep hW)).mono (R' := fun e w' => e = .returned (.int .i64 0) ∧ Below wc.heap.size wc w') fun e w' h => by rw [show Pt.cmpP L1 E1 L1 E1 = 0 from Pt.cp_pat.self (L1, E1)] at h; exact ⟨h.1, hW.andThen h.2⟩)
    have HSm := Lib.hid (fun (W : World) (hW : Below wc.heap.size wc W) => (Same08_any L1 L2 E1 E2 A1 A2 D1 B2 n1 n2 m1 m2 c1 c2 e1 d2 W HL1.out HL2.out (by omega) (by omega) (HZw1.out.keep hW) (HZw2.out.keep hW) (HX1.out.keep hW) ((HTB2.out.keep HBX.out).keep hW)).mono (R' := fun e w' => e = .returned (.bool sm) ∧ Below wc.heap.size wc w') fun e w' h => by rw [HF.out.sm_]; exact ⟨h.1, hW.andThen h.2⟩)
    have hi1 := right_i64 HRR1.out
    have hi2 := right_i64 HRR2.out
    have HTx1 := Lib.hid (fun (W : World) (hW : Below wc.heap.size wc W) => (Text_any L1 E1 A1 D1 n1 c1 m1 e1 W HL1.out (by omega) (by omega) (HZw1.out.keep hW) (HX1.out.keep hW) hi1.1 hi1.2 ((HTw.out.keep HBX.out).keep hW)).mono (R' := fun e w' => e = .returned (.string t1) ∧ Below wc.heap.size wc w') fun e w' h => by rw [HF.out.t1_]; exact ⟨h.1, hW.andThen h.2⟩)
    have HTx2 := Lib.hid (fun (W : World) (hW : Below wc.heap.size wc W) => (Text_any L2 E2 A2 D2 n2 c2 m2 e2 W HL2.out (by omega) (by omega) (HZw2.out.keep hW) (HX2.out.keep hW) hi2.1 hi2.2 ((HTw.out.keep HBX.out).keep hW)).mono (R' := fun e w' => e = .returned (.string t2) ∧ Below wc.heap.size wc w') fun e w' h => by rw [HF.out.t2_]; exact ⟨h.1, hW.andThen h.2⟩)
    have HDg := Lib.hid (fun (v : Int) (W : World) (hW : Below wc.heap.size wc W) => Degree_any E1 A1 D1 n1 c1 m1 e1 v W (by omega) (HX1.out.keep hW))
    have HFx := Lib.hid (ord_facts HF.out HRR1.out HRR2.out)
    have hS1 := Lib.hid hs1
    clear hi1 hi2 hs1 hs2 hs3 HRR2 HRR3 HZw1 HZw2 HZw3 HX2 HX3
    refine wp_region_cls (fun W => Below wc.heap.size wc W) (by kernel_rfl) (by kernel_rfl) (bel_drewN HB.out 1) ?_
    repeat (
      first
        | (apply wpQ_want
           · rfl
           · intro W hW
             have zz := HAll.out W hW
             go_simp
             first
               | done
               | exact rfl
               | with_reducible exact H12.out W hW
               | with_reducible exact H21.out W hW
               | with_reducible exact H23.out W hW
               | with_reducible exact H13.out W hW
               | with_reducible exact HSm.out W hW
               | with_reducible exact HTx1.out W hW
               | with_reducible exact HTx2.out W hW)
        | (refine wpQ_pass ?_ ?_
           · rfl)
      try simp only [Act.put, List.setIfInBounds_toArray, List.set_cons_zero, List.set_cons_succ])
    refine wpQuiet_nil ?_
    intro wq hbq
    have HB := Lib.hid hbq
    clear hbq
    go_wp2_with fail
    rcases HFx.out.1 with ⟨rfl, rfl, rfl, hne⟩ | ⟨rfl, rfl, rfl, rfl, hle⟩ | ⟨rfl, rfl, rfl, hne, hle⟩
    · have htt : (t1.toList == t2.toList) = false := text_ne hne
      have hw1 : IntKind.i64.wrap (-1) = -1 := by decide
      have hle : True := trivial
      by_cases hb0 : b ≤ 0
      · have hc0 : c ≤ 0 := HFx.out.2 (by omega) hb0
        have hc1 : ¬ 0 < c := by omega
        have hbd : decide (b ≤ 0) = true := decide_eq_true hb0
        have hcd : decide (0 < c) = false := decide_eq_false hc1
        clear hne hc0 hc1 hb0
        refine wp_region_cls (fun W => Below wc.heap.size wc W) (by kernel_rfl) (by kernel_rfl) (bel_drewN HB.out 1) ?_
        repeat (
          first
            | (apply wpQ_want
               · rfl
               · intro W hW
                 have zz := HAll.out W hW
                 go_simp
                 first
                   | done
                   | exact rfl
                   | with_reducible exact H12.out W hW
                   | with_reducible exact H21.out W hW
                   | with_reducible exact H23.out W hW
                   | with_reducible exact H13.out W hW
                   | with_reducible exact HSm.out W hW
                   | with_reducible exact HTx1.out W hW
                   | with_reducible exact HTx2.out W hW)
            | (refine wpQ_pass ?_ ?_
               · rfl)
          try simp only [Act.put, List.setIfInBounds_toArray, List.set_cons_zero, List.set_cons_succ])
        refine wpQuiet_nil ?_
        intro wq hbq
        have HB := Lib.hid hbq
        clear hbq
        clear hbd hcd
        clear htt
        all_goals (
          go_wp2_with fail
          clear H12 H21 H23 H13 HSm HTx1 HTx2
          go_loopw [13, 14] (fun sv iv wr => ∃ k : Nat, k ≤ n1 ∧ iv = .int .i64 k ∧ sv = .int .i64 ((Pt.degs E1 k : Nat) : Int) ∧ Hid (Below wc.heap.size wc wr)) (fun _ iv _ => n1 - (intOf iv).toNat)
          case atStart => exact ⟨0, Nat.zero_le _, rfl, rfl, HB⟩
          case round =>
            obtain ⟨k, hk, rfl, rfl, HBr⟩ := hrel
            have zz := HAll.out _ HBr.out
            obtain ⟨sm, hsm⟩ : ∃ sm, sm = Pt.degs E1 k := ⟨_, rfl⟩
            have HSum := Lib.hid hsm
            have hsl : sm ≤ 1200 := by rw [hsm]; exact (by have := degs_le E1 k; rw [HX1.out.len2] at this; have h60 : k * m1 ≤ 20 * 60 := Nat.mul_le_mul (by have := hS1.out; omega) (hS1.out.2); omega)
            rw [← hsm]
            clear hsm
            by_cases hlt : k < n1
            · have hlt' : (k : Int) < (n1 : Int) := by omega
              obtain ⟨dg, hdg⟩ : ∃ dg, dg = Pt.deg E1 k := ⟨_, rfl⟩
              have HDeg := Lib.hid hdg
              have hdl : dg ≤ 60 := by rw [hdg]; exact (by have := deg_le E1 k; rw [HX1.out.len2] at this; have := hS1.out; omega)
              have HD := Lib.hid (HDg.out (k : Int))
              rw [← hdg] at HD
              clear hdg
              go_wp2_with (go_at_call 19; refine (HD.out _ HBr.out).mono ?_; rintro e' w3 ⟨rfl, hb3⟩; have HB3 := Lib.hid (HBr.out.andThen hb3); clear hb3)
              go_roundw
              case rel => exact ⟨k + 1, by omega, by go_num, by rw [Pt.degs, ← HSum.out, ← HDeg.out]; go_num, HB3⟩
              case measure => simp [intOf]; omega
            · obtain rfl : k = n1 := by omega
              have hlt' : ¬ (k : Int) < (k : Int) := by omega
              have hsm2 : sm = 2 * m1 := by rw [HSum.out]; exact (by have h3 := Pt.degs_all E1 (right_facts HRR1.out).2.2; rw [HL1.out, HX1.out.len2] at h3; exact h3)
              subst hsm2
              have hcast : ((2 * m1 : Nat) : Int) = 2 * (m1 : Int) := by omega
              go_wp2_with (go_at_call 16; (with_reducible refine (H11.out _ HBr.out).mono ?_); rintro e' w3 ⟨rfl, hb3⟩; have HB3 := Lib.hid hb3; clear hb3)
              all_goals go_ret
              all_goals exact ⟨rfl, HW.out.andThen HB3.out⟩)
      · have hbd : decide (b ≤ 0) = false := decide_eq_false hb0
        clear hne hb0
        refine wp_region_cls (fun W => Below wc.heap.size wc W) (by kernel_rfl) (by kernel_rfl) (bel_drewN HB.out 1) ?_
        repeat (
          first
            | (apply wpQ_want
               · rfl
               · intro W hW
                 have zz := HAll.out W hW
                 go_simp
                 first
                   | done
                   | exact rfl
                   | with_reducible exact H12.out W hW
                   | with_reducible exact H21.out W hW
                   | with_reducible exact H23.out W hW
                   | with_reducible exact H13.out W hW
                   | with_reducible exact HSm.out W hW
                   | with_reducible exact HTx1.out W hW
                   | with_reducible exact HTx2.out W hW)
            | (refine wpQ_pass ?_ ?_
               · rfl)
          try simp only [Act.put, List.setIfInBounds_toArray, List.set_cons_zero, List.set_cons_succ])
        refine wpQuiet_nil ?_
        intro wq hbq
        have HB := Lib.hid hbq
        clear hbq
        clear hbd
        clear htt
        all_goals (
          go_wp2_with fail
          clear H12 H21 H23 H13 HSm HTx1 HTx2
          go_loopw [13, 14] (fun sv iv wr => ∃ k : Nat, k ≤ n1 ∧ iv = .int .i64 k ∧ sv = .int .i64 ((Pt.degs E1 k : Nat) : Int) ∧ Hid (Below wc.heap.size wc wr)) (fun _ iv _ => n1 - (intOf iv).toNat)
          case atStart => exact ⟨0, Nat.zero_le _, rfl, rfl, HB⟩
          case round =>
            obtain ⟨k, hk, rfl, rfl, HBr⟩ := hrel
            have zz := HAll.out _ HBr.out
            obtain ⟨sm, hsm⟩ : ∃ sm, sm = Pt.degs E1 k := ⟨_, rfl⟩
            have HSum := Lib.hid hsm
            have hsl : sm ≤ 1200 := by rw [hsm]; exact (by have := degs_le E1 k; rw [HX1.out.len2] at this; have h60 : k * m1 ≤ 20 * 60 := Nat.mul_le_mul (by have := hS1.out; omega) (hS1.out.2); omega)
            rw [← hsm]
            clear hsm
            by_cases hlt : k < n1
            · have hlt' : (k : Int) < (n1 : Int) := by omega
              obtain ⟨dg, hdg⟩ : ∃ dg, dg = Pt.deg E1 k := ⟨_, rfl⟩
              have HDeg := Lib.hid hdg
              have hdl : dg ≤ 60 := by rw [hdg]; exact (by have := deg_le E1 k; rw [HX1.out.len2] at this; have := hS1.out; omega)
              have HD := Lib.hid (HDg.out (k : Int))
              rw [← hdg] at HD
              clear hdg
              go_wp2_with (go_at_call 19; refine (HD.out _ HBr.out).mono ?_; rintro e' w3 ⟨rfl, hb3⟩; have HB3 := Lib.hid (HBr.out.andThen hb3); clear hb3)
              go_roundw
              case rel => exact ⟨k + 1, by omega, by go_num, by rw [Pt.degs, ← HSum.out, ← HDeg.out]; go_num, HB3⟩
              case measure => simp [intOf]; omega
            · obtain rfl : k = n1 := by omega
              have hlt' : ¬ (k : Int) < (k : Int) := by omega
              have hsm2 : sm = 2 * m1 := by rw [HSum.out]; exact (by have h3 := Pt.degs_all E1 (right_facts HRR1.out).2.2; rw [HL1.out, HX1.out.len2] at h3; exact h3)
              subst hsm2
              have hcast : ((2 * m1 : Nat) : Int) = 2 * (m1 : Int) := by omega
              go_wp2_with (go_at_call 16; (with_reducible refine (H11.out _ HBr.out).mono ?_); rintro e' w3 ⟨rfl, hb3⟩; have HB3 := Lib.hid hb3; clear hb3)
              all_goals go_ret
              all_goals exact ⟨rfl, HW.out.andThen HB3.out⟩)
    · have htt : (t1.toList == t1.toList) = true := by simp
      have hw1 : IntKind.i64.wrap 0 = 0 := by decide
      have hle2 : n2 ≤ n1 := by rw [HL1.out, HL2.out] at hle; omega
      clear hle
      by_cases hb0 : b ≤ 0
      · have hc0 : c ≤ 0 := HFx.out.2 (by omega) hb0
        have hc1 : ¬ 0 < c := by omega
        have hbd : decide (b ≤ 0) = true := decide_eq_true hb0
        have hcd : decide (0 < c) = false := decide_eq_false hc1
        clear hc0 hc1 hb0
        refine wp_region_cls (fun W => Below wc.heap.size wc W) (by kernel_rfl) (by kernel_rfl) (bel_drewN HB.out 1) ?_
        repeat (
          first
            | (apply wpQ_want
               · rfl
               · intro W hW
                 have zz := HAll.out W hW
                 go_simp
                 first
                   | done
                   | exact rfl
                   | with_reducible exact H12.out W hW
                   | with_reducible exact H21.out W hW
                   | with_reducible exact H23.out W hW
                   | with_reducible exact H13.out W hW
                   | with_reducible exact HSm.out W hW
                   | with_reducible exact HTx1.out W hW
                   | with_reducible exact HTx2.out W hW)
            | (refine wpQ_pass ?_ ?_
               · rfl)
          try simp only [Act.put, List.setIfInBounds_toArray, List.set_cons_zero, List.set_cons_succ])
        refine wpQuiet_nil ?_
        intro wq hbq
        have HB := Lib.hid hbq
        clear hbq
        clear hbd hcd
        clear htt
        all_goals (
          go_wp2_with fail
          clear H12 H21 H23 H13 HSm HTx1 HTx2
          go_loopw [13, 14] (fun sv iv wr => ∃ k : Nat, k ≤ n1 ∧ iv = .int .i64 k ∧ sv = .int .i64 ((Pt.degs E1 k : Nat) : Int) ∧ Hid (Below wc.heap.size wc wr)) (fun _ iv _ => n1 - (intOf iv).toNat)
          case atStart => exact ⟨0, Nat.zero_le _, rfl, rfl, HB⟩
          case round =>
            obtain ⟨k, hk, rfl, rfl, HBr⟩ := hrel
            have zz := HAll.out _ HBr.out
            obtain ⟨sm, hsm⟩ : ∃ sm, sm = Pt.degs E1 k := ⟨_, rfl⟩
            have HSum := Lib.hid hsm
            have hsl : sm ≤ 1200 := by rw [hsm]; exact (by have := degs_le E1 k; rw [HX1.out.len2] at this; have h60 : k * m1 ≤ 20 * 60 := Nat.mul_le_mul (by have := hS1.out; omega) (hS1.out.2); omega)
            rw [← hsm]
            clear hsm
            by_cases hlt : k < n1
            · have hlt' : (k : Int) < (n1 : Int) := by omega
              obtain ⟨dg, hdg⟩ : ∃ dg, dg = Pt.deg E1 k := ⟨_, rfl⟩
              have HDeg := Lib.hid hdg
              have hdl : dg ≤ 60 := by rw [hdg]; exact (by have := deg_le E1 k; rw [HX1.out.len2] at this; have := hS1.out; omega)
              have HD := Lib.hid (HDg.out (k : Int))
              rw [← hdg] at HD
              clear hdg
              go_wp2_with (go_at_call 19; refine (HD.out _ HBr.out).mono ?_; rintro e' w3 ⟨rfl, hb3⟩; have HB3 := Lib.hid (HBr.out.andThen hb3); clear hb3)
              go_roundw
              case rel => exact ⟨k + 1, by omega, by go_num, by rw [Pt.degs, ← HSum.out, ← HDeg.out]; go_num, HB3⟩
              case measure => simp [intOf]; omega
            · obtain rfl : k = n1 := by omega
              have hlt' : ¬ (k : Int) < (k : Int) := by omega
              have hsm2 : sm = 2 * m1 := by rw [HSum.out]; exact (by have h3 := Pt.degs_all E1 (right_facts HRR1.out).2.2; rw [HL1.out, HX1.out.len2] at h3; exact h3)
              subst hsm2
              have hcast : ((2 * m1 : Nat) : Int) = 2 * (m1 : Int) := by omega
              have hle' : (n2 : Int) ≤ (k : Int) := by omega
              go_wp2_with (go_at_call 16; (with_reducible refine (H11.out _ HBr.out).mono ?_); rintro e' w3 ⟨rfl, hb3⟩; have HB3 := Lib.hid hb3; clear hb3)
              all_goals go_ret
              all_goals exact ⟨rfl, HW.out.andThen HB3.out⟩)
      · have hbd : decide (b ≤ 0) = false := decide_eq_false hb0
        clear hb0
        refine wp_region_cls (fun W => Below wc.heap.size wc W) (by kernel_rfl) (by kernel_rfl) (bel_drewN HB.out 1) ?_
        repeat (
          first
            | (apply wpQ_want
               · rfl
               · intro W hW
                 have zz := HAll.out W hW
                 go_simp
                 first
                   | done
                   | exact rfl
                   | with_reducible exact H12.out W hW
                   | with_reducible exact H21.out W hW
                   | with_reducible exact H23.out W hW
                   | with_reducible exact H13.out W hW
                   | with_reducible exact HSm.out W hW
                   | with_reducible exact HTx1.out W hW
                   | with_reducible exact HTx2.out W hW)
            | (refine wpQ_pass ?_ ?_
               · rfl)
          try simp only [Act.put, List.setIfInBounds_toArray, List.set_cons_zero, List.set_cons_succ])
        refine wpQuiet_nil ?_
        intro wq hbq
        have HB := Lib.hid hbq
        clear hbq
        clear hbd
        clear htt
        all_goals (
          go_wp2_with fail
          clear H12 H21 H23 H13 HSm HTx1 HTx2
          go_loopw [13, 14] (fun sv iv wr => ∃ k : Nat, k ≤ n1 ∧ iv = .int .i64 k ∧ sv = .int .i64 ((Pt.degs E1 k : Nat) : Int) ∧ Hid (Below wc.heap.size wc wr)) (fun _ iv _ => n1 - (intOf iv).toNat)
          case atStart => exact ⟨0, Nat.zero_le _, rfl, rfl, HB⟩
          case round =>
            obtain ⟨k, hk, rfl, rfl, HBr⟩ := hrel
            have zz := HAll.out _ HBr.out
            obtain ⟨sm, hsm⟩ : ∃ sm, sm = Pt.degs E1 k := ⟨_, rfl⟩
            have HSum := Lib.hid hsm
            have hsl : sm ≤ 1200 := by rw [hsm]; exact (by have := degs_le E1 k; rw [HX1.out.len2] at this; have h60 : k * m1 ≤ 20 * 60 := Nat.mul_le_mul (by have := hS1.out; omega) (hS1.out.2); omega)
            rw [← hsm]
            clear hsm
            by_cases hlt : k < n1
            · have hlt' : (k : Int) < (n1 : Int) := by omega
              obtain ⟨dg, hdg⟩ : ∃ dg, dg = Pt.deg E1 k := ⟨_, rfl⟩
              have HDeg := Lib.hid hdg
              have hdl : dg ≤ 60 := by rw [hdg]; exact (by have := deg_le E1 k; rw [HX1.out.len2] at this; have := hS1.out; omega)
              have HD := Lib.hid (HDg.out (k : Int))
              rw [← hdg] at HD
              clear hdg
              go_wp2_with (go_at_call 19; refine (HD.out _ HBr.out).mono ?_; rintro e' w3 ⟨rfl, hb3⟩; have HB3 := Lib.hid (HBr.out.andThen hb3); clear hb3)
              go_roundw
              case rel => exact ⟨k + 1, by omega, by go_num, by rw [Pt.degs, ← HSum.out, ← HDeg.out]; go_num, HB3⟩
              case measure => simp [intOf]; omega
            · obtain rfl : k = n1 := by omega
              have hlt' : ¬ (k : Int) < (k : Int) := by omega
              have hsm2 : sm = 2 * m1 := by rw [HSum.out]; exact (by have h3 := Pt.degs_all E1 (right_facts HRR1.out).2.2; rw [HL1.out, HX1.out.len2] at h3; exact h3)
              subst hsm2
              have hcast : ((2 * m1 : Nat) : Int) = 2 * (m1 : Int) := by omega
              have hle' : (n2 : Int) ≤ (k : Int) := by omega
              go_wp2_with (go_at_call 16; (with_reducible refine (H11.out _ HBr.out).mono ?_); rintro e' w3 ⟨rfl, hb3⟩; have HB3 := Lib.hid hb3; clear hb3)
              all_goals go_ret
              all_goals exact ⟨rfl, HW.out.andThen HB3.out⟩)
    · have htt : (t1.toList == t2.toList) = false := text_ne hne
      have hw1 : IntKind.i64.wrap 1 = 1 := by decide
      have hle2 : n2 ≤ n1 := by rw [HL1.out, HL2.out] at hle; omega
      clear hle hne
      · refine wp_region_cls (fun W => Below wc.heap.size wc W) (by kernel_rfl) (by kernel_rfl) (bel_drewN HB.out 1) ?_
        repeat (
          first
            | (apply wpQ_want
               · rfl
               · intro W hW
                 have zz := HAll.out W hW
                 go_simp
                 first
                   | done
                   | exact rfl
                   | with_reducible exact H12.out W hW
                   | with_reducible exact H21.out W hW
                   | with_reducible exact H23.out W hW
                   | with_reducible exact H13.out W hW
                   | with_reducible exact HSm.out W hW
                   | with_reducible exact HTx1.out W hW
                   | with_reducible exact HTx2.out W hW)
            | (refine wpQ_pass ?_ ?_
               · rfl)
          try simp only [Act.put, List.setIfInBounds_toArray, List.set_cons_zero, List.set_cons_succ])
        refine wpQuiet_nil ?_
        intro wq hbq
        have HB := Lib.hid hbq
        clear hbq
        clear htt
        all_goals (
          go_wp2_with fail
          clear H12 H21 H23 H13 HSm HTx1 HTx2
          go_loopw [13, 14] (fun sv iv wr => ∃ k : Nat, k ≤ n1 ∧ iv = .int .i64 k ∧ sv = .int .i64 ((Pt.degs E1 k : Nat) : Int) ∧ Hid (Below wc.heap.size wc wr)) (fun _ iv _ => n1 - (intOf iv).toNat)
          case atStart => exact ⟨0, Nat.zero_le _, rfl, rfl, HB⟩
          case round =>
            obtain ⟨k, hk, rfl, rfl, HBr⟩ := hrel
            have zz := HAll.out _ HBr.out
            obtain ⟨sm, hsm⟩ : ∃ sm, sm = Pt.degs E1 k := ⟨_, rfl⟩
            have HSum := Lib.hid hsm
            have hsl : sm ≤ 1200 := by rw [hsm]; exact (by have := degs_le E1 k; rw [HX1.out.len2] at this; have h60 : k * m1 ≤ 20 * 60 := Nat.mul_le_mul (by have := hS1.out; omega) (hS1.out.2); omega)
            rw [← hsm]
            clear hsm
            by_cases hlt : k < n1
            · have hlt' : (k : Int) < (n1 : Int) := by omega
              obtain ⟨dg, hdg⟩ : ∃ dg, dg = Pt.deg E1 k := ⟨_, rfl⟩
              have HDeg := Lib.hid hdg
              have hdl : dg ≤ 60 := by rw [hdg]; exact (by have := deg_le E1 k; rw [HX1.out.len2] at this; have := hS1.out; omega)
              have HD := Lib.hid (HDg.out (k : Int))
              rw [← hdg] at HD
              clear hdg
              go_wp2_with (go_at_call 19; refine (HD.out _ HBr.out).mono ?_; rintro e' w3 ⟨rfl, hb3⟩; have HB3 := Lib.hid (HBr.out.andThen hb3); clear hb3)
              go_roundw
              case rel => exact ⟨k + 1, by omega, by go_num, by rw [Pt.degs, ← HSum.out, ← HDeg.out]; go_num, HB3⟩
              case measure => simp [intOf]; omega
            · obtain rfl : k = n1 := by omega
              have hlt' : ¬ (k : Int) < (k : Int) := by omega
              have hsm2 : sm = 2 * m1 := by rw [HSum.out]; exact (by have h3 := Pt.degs_all E1 (right_facts HRR1.out).2.2; rw [HL1.out, HX1.out.len2] at h3; exact h3)
              subst hsm2
              have hcast : ((2 * m1 : Nat) : Int) = 2 * (m1 : Int) := by omega
              have hle' : (n2 : Int) ≤ (k : Int) := by omega
              go_wp2_with (go_at_call 16; (with_reducible refine (H11.out _ HBr.out).mono ?_); rintro e' w3 ⟨rfl, hb3⟩; have HB3 := Lib.hid hb3; clear hb3)
              all_goals go_ret
              all_goals exact ⟨rfl, HW.out.andThen HB3.out⟩)

theorem PatOrder_main (A1 : Option Addr) (n1 c1 : Nat) (B1 : Option Addr) (m1 d1 : Nat) (L1 : List Int) (E1 : List (Int × Int)) (A2 : Option Addr) (n2 c2 : Nat) (B2 : Option Addr) (m2 d2 : Nat) (L2 : List Int) (E2 : List (Int × Int)) (A3 : Option Addr) (n3 c3 : Nat) (B3 : Option Addr) (m3 d3 : Nat) (L3 : List Int) (E3 : List (Int × Int)) (w : World) (hg : ErrT w) (hT : TabW w)
    (hl1 : L1.length = n1) (hn1 : n1 ≤ 1048576) (hm1 : m1 ≤ 1048576) (s1 : Sl w 1 A1 n1 (L1.map (Value.int .i64))) (t1 : Sl w 2 B1 m1 (Rk.cells E1))
    (hl2 : L2.length = n2) (hn2 : n2 ≤ 1048576) (hm2 : m2 ≤ 1048576) (s2 : Sl w 1 A2 n2 (L2.map (Value.int .i64))) (t2 : Sl w 2 B2 m2 (Rk.cells E2))
    (hl3 : L3.length = n3) (hn3 : n3 ≤ 1048576) (hm3 : m3 ≤ 1048576) (s3 : Sl w 1 A3 n3 (L3.map (Value.int .i64))) (t3 : Sl w 2 B3 m3 (Rk.cells E3)) :
    Calls Tryd.prog 3 #[pv A1 n1 c1 B1 m1 d1, pv A2 n2 c2 B2 m2 d2, pv A3 n3 c3 B3 m3 d3] w fun e w' => e = .returned (.bool true) ∧ Below w.heap.size w w' :=
  PatOrder_walk L1 L2 L3 E1 E2 E3 A1 B1 A2 B2 A3 B3 n1 c1 m1 d1 n2 c2 m2 d2 n3 c3 m3 d3 w hg hT hl1 hl2 hl3 hn1 hn2 hn3 hm1 hm2 hm3 s1 s2 s3 t1 t2 t3
end Go.Proofs.YtmonepclhbappaaDoor
