/-
  Part 11 of the proof of ConfProgs: CfB, CfC, WireF, WrB, WireG, WireH, WireI.
-/
import Derived.Test.YtapledphhfiimaaGreatDoorConfProgsM9
import Derived.Test.YtapledphhfiimaaGreatDoorConfProgsM10
import Derived.DeepKeys4
import Derived.Test.YtapledphhfiimaaGreatDoorConfProgsM6
import Derived.WalkSpells
/-
  conf: the walk of set.
-/
namespace Go.Proofs.YtapledphhfiimaaGreatDoor
open Go.RowKit Go.Proofs.YtapledphhfiimaaGreatDoor.Pg
attribute [local go_sem ↓] Go.wp_at_zero Go.wp_at_succ
set_option maxRecDepth 100000
set_option linter.unusedVariables false

theorem Sl.asd {w w' : World} {g s n : Nat} {A : Option Addr} {xs : List Value} (h : Sl w s A n xs) (ha : Asd g w w') (hA : ∀ x, A = some x → x.block ≠ g) : Sl w' s A n xs :=
  ⟨h.1, fun hn => by
    obtain ⟨b, off, rfl, hc⟩ := h.2 hn
    exact ⟨b, off, rfl, fun j u hu => ha.cell (hc j u hu) (show b ≠ g from hA ⟨b, off, none⟩ rfl)⟩⟩
theorem bz_beqL (l m : List UInt8) : ((bz l).toList == m) = decide (l = m) := by
  have := bz_beq l m
  rwa [bz_toList m] at this
/-- What is asked, in memory. -/
def CfAt (w : World) (g : Nat) (c : Cf.CF) : Prop :=
  ∃ (A : Option Addr) (n d : Nat), Blk w g 49 #[.int .i64 c.kind, .int .i64 c.size, .int .i64 c.sup, .int .i64 c.wk, .int .i64 c.cap, .slice A n d] ∧ c.keep.length = n ∧ Sl w 2 A n (Rk.cells c.keep) ∧ ∀ x, A = some x → g < x.block
theorem CfAt.keep {w w' : World} {g : Nat} {c : Cf.CF} (h : CfAt w g c) (hb : Below w.heap.size w w') : CfAt w' g c := by
  obtain ⟨A, n, d, h1, h2, h3, h4⟩ := h
  exact ⟨A, n, d, h1.keep hb, h2, h3.keep hb, h4⟩
/-- What set answers. -/
def SetRes (c : Cf.CF) (word text : List UInt8) (g B : Nat) (w : World) (e : Ending) (w' : World) : Prop :=
  ∃ b, e = .returned (.bool b) ∧ Below B w w' ∧ Asd g w w' ∧ ((b = true ∧ ∃ c', Cf.setC c word text = some c' ∧ CfAt w' g c') ∨ (b = false ∧ Cf.setC c word text = none))
theorem CfKeep_any (l : List UInt8) (w : World) (hs : l.length ≤ 900000) (hL : LibW w) (hT : TabW w) :
    Calls Tryz.prog 29 #[.string (bz l)] w fun e w' => ∃ D m d v, e = .returned (.tuple #[.slice D m d, v]) ∧ Below w.heap.size w w' ∧
      ((v = .nilIface ∧ ∃ p, p.length = m ∧ parseG l = some p ∧ Sl w' 2 D m (Rk.cells p) ∧ ∀ x, D = some x → w.heap.size ≤ x.block) ∨ (parseG l = none ∧ ∃ T x, v = .iface T x)) :=
  (PgParse_any l w hs hL hT).mono fun e w' h => by
    obtain ⟨hb, ⟨p, D, d, hp, he, ho⟩ | ⟨hp, c, a, t, g, he, _⟩⟩ := h
    · refine ⟨D, _, d, _, he, hb, .inl ⟨rfl, p, rfl, hp, by obtain ⟨D1, d1, e1, e2⟩ := Sl.own ho; cases e1; exact e2, fun x hx => ?_⟩⟩
      subst hx
      exact (ho.lt x.block rfl).1
    · exact ⟨none, 0, 0, _, he, hb, .inr ⟨hp, _, _, rfl⟩⟩
set_option maxHeartbeats 2000000 in
theorem Set_wSize (c : Cf.CF) (word text : List UInt8) (g B : Nat) (w : World) (hw : word = [115, 105, 122, 101]) (hB : B ≤ g) (hc : CfAt w g c) (hs : text.length ≤ 900000) (hL : LibW w) (hT : TabW w) :
    Calls Tryz.prog 74 #[.pointer (some ⟨g, 0, none⟩), .string (bz word), .string (bz text)] w (SetRes c word text g B w) := by
  obtain ⟨A, n, d, hK, hn, hS, hA⟩ := hc
  have HN := Lib.hid (CfNumber_any text 8 w (by omega) hL hT)
  have HK := Lib.hid hK
  have HR := Lib.hid (show Cf.setC c word text = (Cf.numC 8 text).map fun v => { c with size := v } from by subst hw; unfold Cf.setC; simp (decide := true) only [↓reduceIte])
  have ej := bz_beqL word [106, 111, 98]
  rw [decide_eq_false (show ¬ word = [106, 111, 98] from by rw [hw]; decide)] at ej
  have ek := bz_beqL word [107, 101, 101, 112]
  rw [decide_eq_false (show ¬ word = [107, 101, 101, 112] from by rw [hw]; decide)] at ek
  have es := bz_beqL word [115, 117, 112, 112, 111, 114, 116]
  rw [decide_eq_false (show ¬ word = [115, 117, 112, 112, 111, 114, 116] from by rw [hw]; decide)] at es
  have ez := bz_beqL word [115, 105, 122, 101]
  rw [decide_eq_true hw] at ez
  obtain ⟨S, hSd⟩ : ∃ S, S = bz word := ⟨_, rfl⟩
  obtain ⟨T, hTd⟩ : ∃ T, T = bz text := ⟨_, rfl⟩
  rw [← hSd] at ej ek es ez ⊢
  rw [← hTd] at HN ⊢
  have HBg := Lib.hid hB
  have HGl := Lib.hid hK.lt
  have HSl := Lib.hid hS
  have HAl := Lib.hid hA
  have HNl := Lib.hid hn
  clear hSd hTd hL hT hs hw hB hS hA hn hK
  go_enter Tryz.func74, Tryz.ntmps74
  go_wp2_with (go_at_call 108; refine HN.out.mono ?_; clear HN; rintro e w2 ⟨z, b, rfl, hb2, hx⟩; have HB2 := Lib.hid hb2; have HX := Lib.hid hx; have kj := (HK.out.keep hb2).cell 1; have fj := (HK.out.keep hb2).frozen 1; simp at kj; clear hb2 hx)
  go_ret
  have hkk := (HK.out.keep HB2.out).set_ 1 (.int .i64 z)
  have has : Asd g w2 (w2.setCell ⟨g, 1, none⟩ (.int .i64 z)) := (Asd.of (Below.refl _ _)).setCell _ _
  refine ⟨b, rfl, (HB2.out.mono (by have := HBg.out; have := HGl.out; omega)).setCell (p := ⟨g, 1, none⟩) HBg.out _, (Asd.of HB2.out).setCell _ _, ?_⟩
  rcases HX.out with ⟨h1, rfl⟩ | ⟨h1, rfl⟩
  · refine .inl ⟨rfl, { c with size := z }, by rw [HR.out, h1]; rfl, A, n, d, hkk, HNl.out, (HSl.out.keep HB2.out).asd has (fun x hx => Nat.ne_of_gt (HAl.out x hx)), HAl.out⟩
  · exact .inr ⟨rfl, by rw [HR.out, h1]; rfl⟩
set_option maxHeartbeats 2000000 in
theorem Set_wWorkers (c : Cf.CF) (word text : List UInt8) (g B : Nat) (w : World) (hw : word = [119, 111, 114, 107, 101, 114, 115]) (hB : B ≤ g) (hc : CfAt w g c) (hs : text.length ≤ 900000) (hL : LibW w) (hT : TabW w) :
    Calls Tryz.prog 74 #[.pointer (some ⟨g, 0, none⟩), .string (bz word), .string (bz text)] w (SetRes c word text g B w) := by
  obtain ⟨A, n, d, hK, hn, hS, hA⟩ := hc
  have HN := Lib.hid (CfNumber_any text 64 w (by omega) hL hT)
  have HK := Lib.hid hK
  have HR := Lib.hid (show Cf.setC c word text = (Cf.numC 64 text).map fun v => { c with wk := v } from by subst hw; unfold Cf.setC; simp (decide := true) only [↓reduceIte])
  have ej := bz_beqL word [106, 111, 98]
  rw [decide_eq_false (show ¬ word = [106, 111, 98] from by rw [hw]; decide)] at ej
  have ek := bz_beqL word [107, 101, 101, 112]
  rw [decide_eq_false (show ¬ word = [107, 101, 101, 112] from by rw [hw]; decide)] at ek
  have es := bz_beqL word [115, 117, 112, 112, 111, 114, 116]
  rw [decide_eq_false (show ¬ word = [115, 117, 112, 112, 111, 114, 116] from by rw [hw]; decide)] at es
  have ez := bz_beqL word [115, 105, 122, 101]
  rw [decide_eq_false (show ¬ word = [115, 105, 122, 101] from by rw [hw]; decide)] at ez
  have ew := bz_beqL word [119, 111, 114, 107, 101, 114, 115]
  rw [decide_eq_true hw] at ew
  obtain ⟨S, hSd⟩ : ∃ S, S = bz word := ⟨_, rfl⟩
  obtain ⟨T, hTd⟩ : ∃ T, T = bz text := ⟨_, rfl⟩
  rw [← hSd] at ej ek es ez ew ⊢
  rw [← hTd] at HN ⊢
  have HBg := Lib.hid hB
  have HGl := Lib.hid hK.lt
  have HSl := Lib.hid hS
  have HAl := Lib.hid hA
  have HNl := Lib.hid hn
  clear hSd hTd hL hT hs hw hB hS hA hn hK
  go_enter Tryz.func74, Tryz.ntmps74
  go_wp2_with (go_at_call 108; refine HN.out.mono ?_; clear HN; rintro e w2 ⟨z, b, rfl, hb2, hx⟩; have HB2 := Lib.hid hb2; have HX := Lib.hid hx; have kj := (HK.out.keep hb2).cell 3; have fj := (HK.out.keep hb2).frozen 3; simp at kj; clear hb2 hx)
  go_ret
  have hkk := (HK.out.keep HB2.out).set_ 3 (.int .i64 z)
  have has : Asd g w2 (w2.setCell ⟨g, 3, none⟩ (.int .i64 z)) := (Asd.of (Below.refl _ _)).setCell _ _
  refine ⟨b, rfl, (HB2.out.mono (by have := HBg.out; have := HGl.out; omega)).setCell (p := ⟨g, 3, none⟩) HBg.out _, (Asd.of HB2.out).setCell _ _, ?_⟩
  rcases HX.out with ⟨h1, rfl⟩ | ⟨h1, rfl⟩
  · refine .inl ⟨rfl, { c with wk := z }, by rw [HR.out, h1]; rfl, A, n, d, hkk, HNl.out, (HSl.out.keep HB2.out).asd has (fun x hx => Nat.ne_of_gt (HAl.out x hx)), HAl.out⟩
  · exact .inr ⟨rfl, by rw [HR.out, h1]; rfl⟩
set_option maxHeartbeats 2000000 in
theorem Set_wCap (c : Cf.CF) (word text : List UInt8) (g B : Nat) (w : World) (hw : word = [99, 97, 112]) (hB : B ≤ g) (hc : CfAt w g c) (hs : text.length ≤ 900000) (hL : LibW w) (hT : TabW w) :
    Calls Tryz.prog 74 #[.pointer (some ⟨g, 0, none⟩), .string (bz word), .string (bz text)] w (SetRes c word text g B w) := by
  obtain ⟨A, n, d, hK, hn, hS, hA⟩ := hc
  have HN := Lib.hid (CfNumber_any text 1000000 w (by omega) hL hT)
  have HK := Lib.hid hK
  have HR := Lib.hid (show Cf.setC c word text = (Cf.numC 1000000 text).map fun v => { c with cap := v } from by subst hw; unfold Cf.setC; simp (decide := true) only [↓reduceIte])
  have ej := bz_beqL word [106, 111, 98]
  rw [decide_eq_false (show ¬ word = [106, 111, 98] from by rw [hw]; decide)] at ej
  have ek := bz_beqL word [107, 101, 101, 112]
  rw [decide_eq_false (show ¬ word = [107, 101, 101, 112] from by rw [hw]; decide)] at ek
  have es := bz_beqL word [115, 117, 112, 112, 111, 114, 116]
  rw [decide_eq_false (show ¬ word = [115, 117, 112, 112, 111, 114, 116] from by rw [hw]; decide)] at es
  have ez := bz_beqL word [115, 105, 122, 101]
  rw [decide_eq_false (show ¬ word = [115, 105, 122, 101] from by rw [hw]; decide)] at ez
  have ew := bz_beqL word [119, 111, 114, 107, 101, 114, 115]
  rw [decide_eq_false (show ¬ word = [119, 111, 114, 107, 101, 114, 115] from by rw [hw]; decide)] at ew
  have ec := bz_beqL word [99, 97, 112]
  rw [decide_eq_true hw] at ec
  obtain ⟨S, hSd⟩ : ∃ S, S = bz word := ⟨_, rfl⟩
  obtain ⟨T, hTd⟩ : ∃ T, T = bz text := ⟨_, rfl⟩
  rw [← hSd] at ej ek es ez ew ec ⊢
  rw [← hTd] at HN ⊢
  have HBg := Lib.hid hB
  have HGl := Lib.hid hK.lt
  have HSl := Lib.hid hS
  have HAl := Lib.hid hA
  have HNl := Lib.hid hn
  clear hSd hTd hL hT hs hw hB hS hA hn hK
  go_enter Tryz.func74, Tryz.ntmps74
  go_wp2_with (go_at_call 108; refine HN.out.mono ?_; clear HN; rintro e w2 ⟨z, b, rfl, hb2, hx⟩; have HB2 := Lib.hid hb2; have HX := Lib.hid hx; have kj := (HK.out.keep hb2).cell 4; have fj := (HK.out.keep hb2).frozen 4; simp at kj; clear hb2 hx)
  go_ret
  have hkk := (HK.out.keep HB2.out).set_ 4 (.int .i64 z)
  have has : Asd g w2 (w2.setCell ⟨g, 4, none⟩ (.int .i64 z)) := (Asd.of (Below.refl _ _)).setCell _ _
  refine ⟨b, rfl, (HB2.out.mono (by have := HBg.out; have := HGl.out; omega)).setCell (p := ⟨g, 4, none⟩) HBg.out _, (Asd.of HB2.out).setCell _ _, ?_⟩
  rcases HX.out with ⟨h1, rfl⟩ | ⟨h1, rfl⟩
  · refine .inl ⟨rfl, { c with cap := z }, by rw [HR.out, h1]; rfl, A, n, d, hkk, HNl.out, (HSl.out.keep HB2.out).asd has (fun x hx => Nat.ne_of_gt (HAl.out x hx)), HAl.out⟩
  · exact .inr ⟨rfl, by rw [HR.out, h1]; rfl⟩
set_option maxHeartbeats 2000000 in
theorem Set_wSupport (c : Cf.CF) (word text : List UInt8) (g B : Nat) (w : World) (hw : word = [115, 117, 112, 112, 111, 114, 116]) (hk : c.kind = 3) (hB : B ≤ g) (hc : CfAt w g c) (hs : text.length ≤ 900000) (hL : LibW w) (hT : TabW w) :
    Calls Tryz.prog 74 #[.pointer (some ⟨g, 0, none⟩), .string (bz word), .string (bz text)] w (SetRes c word text g B w) := by
  obtain ⟨A, n, d, hK, hn, hS, hA⟩ := hc
  have HN := Lib.hid (CfNumber_any text 1000000 w (by omega) hL hT)
  have HK := Lib.hid hK
  have HR := Lib.hid (show Cf.setC c word text = (Cf.numC 1000000 text).map fun v => { c with sup := v } from by subst hw; unfold Cf.setC; rw [if_neg (by decide), if_neg (by decide), if_pos rfl, if_pos hk])
  have ej := bz_beqL word [106, 111, 98]
  rw [decide_eq_false (show ¬ word = [106, 111, 98] from by rw [hw]; decide)] at ej
  have ek := bz_beqL word [107, 101, 101, 112]
  rw [decide_eq_false (show ¬ word = [107, 101, 101, 112] from by rw [hw]; decide)] at ek
  have es := bz_beqL word [115, 117, 112, 112, 111, 114, 116]
  rw [decide_eq_true hw] at es
  obtain ⟨S, hSd⟩ : ∃ S, S = bz word := ⟨_, rfl⟩
  obtain ⟨T, hTd⟩ : ∃ T, T = bz text := ⟨_, rfl⟩
  rw [← hSd] at ej ek es ⊢
  rw [← hTd] at HN ⊢
  have HBg := Lib.hid hB
  have HGl := Lib.hid hK.lt
  have HSl := Lib.hid hS
  have HAl := Lib.hid hA
  have HNl := Lib.hid hn
  have k0 := hK.cell 0
  simp at k0
  rw [hk] at k0
  clear hSd hTd hL hT hs hw hB hS hA hn hK
  go_enter Tryz.func74, Tryz.ntmps74
  go_wp2_with (go_at_call 108; refine HN.out.mono ?_; clear HN; rintro e w2 ⟨z, b, rfl, hb2, hx⟩; have HB2 := Lib.hid hb2; have HX := Lib.hid hx; have kj := (HK.out.keep hb2).cell 2; have fj := (HK.out.keep hb2).frozen 2; simp at kj; clear hb2 hx)
  go_ret
  have hkk := (HK.out.keep HB2.out).set_ 2 (.int .i64 z)
  have has : Asd g w2 (w2.setCell ⟨g, 2, none⟩ (.int .i64 z)) := (Asd.of (Below.refl _ _)).setCell _ _
  refine ⟨b, rfl, (HB2.out.mono (by have := HBg.out; have := HGl.out; omega)).setCell (p := ⟨g, 2, none⟩) HBg.out _, (Asd.of HB2.out).setCell _ _, ?_⟩
  rcases HX.out with ⟨h1, rfl⟩ | ⟨h1, rfl⟩
  · refine .inl ⟨rfl, { c with sup := z }, by rw [HR.out, h1]; rfl, A, n, d, hkk, HNl.out, (HSl.out.keep HB2.out).asd has (fun x hx => Nat.ne_of_gt (HAl.out x hx)), HAl.out⟩
  · exact .inr ⟨rfl, by rw [HR.out, h1]; rfl⟩
theorem jobs_idx (l : List UInt8) : Lib.idxOfS jobsB (bz l) + 1 = Cf.jobZ l := idxFromS_idxL l Cf.jobsL 0
theorem jobs_bounds (l : List UInt8) : 0 ≤ Cf.jobZ l ∧ Cf.jobZ l ≤ 3 := by
  rcases idxL_some l Cf.jobsL 0 with h | ⟨j, hj, h, _⟩
  · exact ⟨by unfold Cf.jobZ; omega, by unfold Cf.jobZ; omega⟩
  · have : Cf.jobsL.length = 3 := rfl
    exact ⟨by unfold Cf.jobZ; omega, by unfold Cf.jobZ; omega⟩
set_option maxHeartbeats 1000000 in
theorem Set_wJob (c : Cf.CF) (word text : List UInt8) (g B : Nat) (w : World) (hw : word = [106, 111, 98]) (hB : B ≤ g) (hc : CfAt w g c) :
    Calls Tryz.prog 74 #[.pointer (some ⟨g, 0, none⟩), .string (bz word), .string (bz text)] w (SetRes c word text g B w) := by
  obtain ⟨A, n, d, hK, hn, hS, hA⟩ := hc
  have HI := Lib.hid (Any.slices_Index_string lay109 w.heap.size 0 3 3 jobsB (bz text) (w.alloc (.cells (jobsB.map Value.string).toArray 9)) (Nat.le_refl 3) (by omega) (fun j hj => by
    rw [Nat.zero_add, World.cell?_alloc_new, List.getElem?_toArray, List.getElem?_map, List.getElem?_eq_getElem hj, List.getD_eq_getElem?_getD, List.getElem?_eq_getElem hj]
    rfl))
  have hk := jobs_idx text
  have hb := jobs_bounds text
  rw [List.take_of_length_le (Nat.le_refl 3)] at HI
  have HR := Lib.hid (show Cf.setC c word text = if 0 < Cf.jobZ text then some { c with kind := Cf.jobZ text } else none from by subst hw; unfold Cf.setC; rw [if_pos rfl])
  have ej := bz_beqL word [106, 111, 98]
  rw [decide_eq_true hw] at ej
  obtain ⟨S, hSd⟩ : ∃ S, S = bz word := ⟨_, rfl⟩
  obtain ⟨T, hTd⟩ : ∃ T, T = bz text := ⟨_, rfl⟩
  rw [← hSd] at ej ⊢
  rw [← hTd] at HI hk ⊢
  obtain ⟨z, hz⟩ : ∃ z, z = Lib.idxOfS jobsB T := ⟨_, rfl⟩
  rw [← hz] at HI hk
  obtain ⟨y, hy⟩ : ∃ y, y = Cf.jobZ text := ⟨_, rfl⟩
  rw [← hy] at hk hb HR
  have hwr : IntKind.i64.wrap (z + 1) = y := by rw [IntKind.wrap_i64]; omega
  have HBa := Lib.hid (bel_al (Below.refl w.heap.size w) (.cells (jobsB.map Value.string).toArray 9))
  have HK := Lib.hid (hK.alloc (.cells (jobsB.map Value.string).toArray 9))
  have HBg := Lib.hid hB
  have HGl := Lib.hid hK.lt
  have HSl := Lib.hid hS
  have HAl := Lib.hid hA
  have HNl := Lib.hid hn
  obtain ⟨W, hW⟩ : ∃ W, W = w.alloc (.cells (jobsB.map Value.string).toArray 9) := ⟨_, rfl⟩
  have HNm := Lib.hid (show Calls Tryz.prog 106 #[] w fun e w' => e = .returned (.slice (some ⟨w.heap.size, 0, none⟩) 3 3) ∧ W = w' from by rw [hW]; exact CfNames_any w)
  rw [← hW] at HI HBa HK
  have kj := HK.out.cell 0
  have fj := HK.out.frozen 0
  simp at kj
  have hkk := HK.out.set_ 0 (.int .i64 y)
  have k2 := hkk.cell 0
  simp at k2
  have HKK := Lib.hid hkk
  clear hW hSd hTd hw hB hS hA hn hK hk hb hz hy hkk
  have has : Asd g W (W.setCell ⟨g, 0, none⟩ (.int .i64 y)) := (Asd.of (Below.refl _ _)).setCell _ _
  have HAs := Lib.hid has
  clear has
  by_cases h0 : 0 < y
  · go_enter Tryz.func74, Tryz.ntmps74
    go_wp2_with (first
      | (go_at_call 106; refine HNm.out.mono ?_; rintro e w1 ⟨rfl, rfl⟩)
      | (go_at_call 105; refine HI.out.mono ?_; rintro e w1 ⟨rfl, rfl⟩))
    go_ret
    refine ⟨true, rfl, (HBa.out.mono (by have := HBg.out; have := HGl.out; omega)).setCell (p := ⟨g, 0, none⟩) HBg.out _, (Asd.of HBa.out).setCell _ _, .inl ⟨rfl, { c with kind := y }, by rw [HR.out, if_pos h0], A, n, d, HKK.out, HNl.out, (HSl.out.keep HBa.out).asd HAs.out (fun x hx => Nat.ne_of_gt (HAl.out x hx)), HAl.out⟩⟩
  · go_enter Tryz.func74, Tryz.ntmps74
    go_wp2_with (first
      | (go_at_call 106; refine HNm.out.mono ?_; rintro e w1 ⟨rfl, rfl⟩)
      | (go_at_call 105; refine HI.out.mono ?_; rintro e w1 ⟨rfl, rfl⟩))
    go_ret
    refine ⟨false, ?_, (HBa.out.mono (by have := HBg.out; have := HGl.out; omega)).setCell (p := ⟨g, 0, none⟩) HBg.out _, (Asd.of HBa.out).setCell _ _, .inr ⟨rfl, by rw [HR.out, if_neg (show ¬ 0 < y by omega)]⟩⟩
    exact ret_bool (by first | rfl | exact decide_eq_false (show ¬ 0 < y by omega))
set_option maxHeartbeats 1000000 in
theorem Set_wKeep (c : Cf.CF) (word text : List UInt8) (g B : Nat) (w : World) (hw : word = [107, 101, 101, 112]) (hB : B ≤ g) (hc : CfAt w g c) (hs : text.length ≤ 900000) (hL : LibW w) (hT : TabW w) :
    Calls Tryz.prog 74 #[.pointer (some ⟨g, 0, none⟩), .string (bz word), .string (bz text)] w (SetRes c word text g B w) := by
  obtain ⟨A, n, d, hK, hn, hS, hA⟩ := hc
  have HP := Lib.hid (CfKeep_any text w hs hL hT)
  have HR := Lib.hid (show Cf.setC c word text = (match parseG text with
    | none => none
    | some p => if 1 ≤ p.length ∧ p.length ≤ 15 then some { c with keep := p } else none) from by subst hw; unfold Cf.setC; rw [if_neg (by decide), if_pos rfl]; cases parseG text <;> rfl)
  have ej := bz_beqL word [106, 111, 98]
  rw [decide_eq_false (show ¬ word = [106, 111, 98] from by rw [hw]; decide)] at ej
  have ek := bz_beqL word [107, 101, 101, 112]
  rw [decide_eq_true hw] at ek
  obtain ⟨S, hSd⟩ : ∃ S, S = bz word := ⟨_, rfl⟩
  obtain ⟨T, hTd⟩ : ∃ T, T = bz text := ⟨_, rfl⟩
  rw [← hSd] at ej ek ⊢
  rw [← hTd] at HP ⊢
  have HK := Lib.hid hK
  have HBg := Lib.hid hB
  have HGl := Lib.hid hK.lt
  clear hSd hTd hL hT hs hw hB hS hA hn hK
  go_enter Tryz.func74, Tryz.ntmps74
  go_upto_region 10 with (go_at_call 29; refine HP.out.mono ?_; clear HP; rintro e w2 ⟨D, m, e, v, rfl, hb2, hx⟩; have HB2 := Lib.hid hb2; have HX := Lib.hid hx; have kj := (HK.out.keep hb2).cell 5; have fj := (HK.out.keep hb2).frozen 5; simp at kj; clear hb2 hx)
  have hkk := (HK.out.keep HB2.out).set_ 5 (.slice D m e)
  have has : Asd g w2 (w2.setCell ⟨g, 5, none⟩ (.slice D m e)) := (Asd.of (Below.refl _ _)).setCell _ _
  have HKK := Lib.hid hkk
  have HAs := Lib.hid has
  have HBB := Lib.hid ((HB2.out.mono (show B ≤ w.heap.size by have := HBg.out; have := HGl.out; omega)).setCell (p := ⟨g, 5, none⟩) HBg.out (.slice D m e))
  have HAA := Lib.hid ((Asd.of HB2.out (g := g)).setCell 5 (.slice D m e))
  clear hkk has kj fj
  have HWi := Lib.hid (fun W => Within_any (m : Int) 15 W)
  rcases HX.out with ⟨rfl, p, hm, hp, hsl, hge⟩ | ⟨hp, T', x, rfl⟩
  · have HSl := Lib.hid hsl
    have HGe := Lib.hid (show ∀ x, D = some x → g < x.block from fun x hx => by have := hge x hx; have := HGl.out; omega)
    by_cases h15 : 1 ≤ m ∧ m ≤ 15
    · have HC := Lib.hid (show Cf.setC c word text = some { c with keep := p } from by rw [HR.out, hp]; simp only; rw [if_pos (by rw [hm]; exact h15)])
      have HM := Lib.hid hm
      rw [decide_eq_true (show (1 : Int) ≤ (m : Int) by omega), decide_eq_true (show (m : Int) ≤ 15 by omega)] at HWi
      clear HX hp hsl hge hm
      go_wp2_with (go_at_call 107; refine (HWi.out _).mono ?_; rintro e w4 ⟨rfl, rfl⟩)
      go_ret
      exact ⟨true, rfl, HBB.out, HAA.out, .inl ⟨rfl, { c with keep := p }, HC.out, D, m, _, HKK.out, HM.out, HSl.out.asd HAs.out (fun x hx => Nat.ne_of_gt (HGe.out x hx)), HGe.out⟩⟩
    · have HC := Lib.hid (show Cf.setC c word text = none from by rw [HR.out, hp]; simp only; rw [if_neg (by rw [hm]; exact h15)])
      rw [show (decide ((1 : Int) ≤ (m : Int)) && decide ((m : Int) ≤ 15)) = false from by
        by_cases h1 : 1 ≤ m
        · rw [decide_eq_false (show ¬ (m : Int) ≤ 15 by omega), Bool.and_false]
        · rw [decide_eq_false (show ¬ (1 : Int) ≤ (m : Int) by omega), Bool.false_and]] at HWi
      clear HX hp hsl hge hm
      go_wp2_with (go_at_call 107; refine (HWi.out _).mono ?_; rintro e w4 ⟨rfl, rfl⟩)
      go_ret
      exact ⟨false, rfl, HBB.out, HAA.out, .inr ⟨rfl, HC.out⟩⟩
  · have HC := Lib.hid (show Cf.setC c word text = none from by rw [HR.out, hp])
    clear HX hp
    go_wp2_with fail
    go_ret
    exact ⟨false, rfl, HBB.out, HAA.out, .inr ⟨rfl, HC.out⟩⟩
set_option maxHeartbeats 1000000 in
theorem Set_other (c : Cf.CF) (word text : List UInt8) (g B : Nat) (w : World) (hw : word ∉ [Cf.wJob, Cf.wKeep, Cf.wSupport, Cf.wSize, Cf.wWorkers, Cf.wCap]) :
    Calls Tryz.prog 74 #[.pointer (some ⟨g, 0, none⟩), .string (bz word), .string (bz text)] w (SetRes c word text g B w) := by
  simp only [List.mem_cons, List.not_mem_nil, or_false, not_or] at hw
  obtain ⟨n1, n2, n3, n4, n5, n6⟩ := hw
  have HR := Lib.hid (show Cf.setC c word text = none from by unfold Cf.setC; rw [if_neg n1, if_neg n2, if_neg n3, if_neg n4, if_neg n5, if_neg n6])
  have ej := bz_beqL word [106, 111, 98]
  rw [decide_eq_false n1] at ej
  have ek := bz_beqL word [107, 101, 101, 112]
  rw [decide_eq_false n2] at ek
  have es := bz_beqL word [115, 117, 112, 112, 111, 114, 116]
  rw [decide_eq_false n3] at es
  have ez := bz_beqL word [115, 105, 122, 101]
  rw [decide_eq_false n4] at ez
  have ew := bz_beqL word [119, 111, 114, 107, 101, 114, 115]
  rw [decide_eq_false n5] at ew
  have ec := bz_beqL word [99, 97, 112]
  rw [decide_eq_false n6] at ec
  obtain ⟨S, hSd⟩ : ∃ S, S = bz word := ⟨_, rfl⟩
  obtain ⟨T, hTd⟩ : ∃ T, T = bz text := ⟨_, rfl⟩
  rw [← hSd] at ej ek es ez ew ec ⊢
  rw [← hTd]
  clear hSd hTd n1 n2 n3 n4 n5 n6
  go_enter Tryz.func74, Tryz.ntmps74
  go_wp2_with fail
  go_ret
  exact ⟨false, rfl, Below.refl _ _, Asd.of (Below.refl _ _), .inr ⟨rfl, HR.out⟩⟩
set_option maxHeartbeats 1000000 in
theorem Set_noSupport (c : Cf.CF) (word text : List UInt8) (g B : Nat) (w : World) (hw : word = [115, 117, 112, 112, 111, 114, 116]) (hk : c.kind ≠ 3) (hc : CfAt w g c) :
    Calls Tryz.prog 74 #[.pointer (some ⟨g, 0, none⟩), .string (bz word), .string (bz text)] w (SetRes c word text g B w) := by
  obtain ⟨A, n, d, hK, hn, hS, hA⟩ := hc
  have HR := Lib.hid (show Cf.setC c word text = none from by subst hw; unfold Cf.setC; rw [if_neg (by decide), if_neg (by decide), if_pos rfl, if_neg hk])
  have k0 := hK.cell 0
  simp at k0
  have hkb : (c.kind == 3) = false := by simpa using hk
  have ej := bz_beqL word [106, 111, 98]
  rw [decide_eq_false (show ¬ word = [106, 111, 98] from by rw [hw]; decide)] at ej
  have ek := bz_beqL word [107, 101, 101, 112]
  rw [decide_eq_false (show ¬ word = [107, 101, 101, 112] from by rw [hw]; decide)] at ek
  have es := bz_beqL word [115, 117, 112, 112, 111, 114, 116]
  rw [decide_eq_true hw] at es
  obtain ⟨S, hSd⟩ : ∃ S, S = bz word := ⟨_, rfl⟩
  obtain ⟨T, hTd⟩ : ∃ T, T = bz text := ⟨_, rfl⟩
  rw [← hSd] at ej ek es ⊢
  rw [← hTd]
  clear hSd hTd hw hk hK hn hS hA
  go_enter Tryz.func74, Tryz.ntmps74
  go_wp2_with fail
  go_ret
  exact ⟨false, rfl, Below.refl _ _, Asd.of (Below.refl _ _), .inr ⟨rfl, HR.out⟩⟩
theorem Set_any (c : Cf.CF) (word text : List UInt8) (g B : Nat) (w : World) (hB : B ≤ g) (hc : CfAt w g c) (hs : text.length ≤ 900000) (hL : LibW w) (hT : TabW w) :
    Calls Tryz.prog 74 #[.pointer (some ⟨g, 0, none⟩), .string (bz word), .string (bz text)] w (SetRes c word text g B w) := by
  by_cases h1 : word = Cf.wJob
  · exact Set_wJob c word text g B w h1 hB hc
  by_cases h2 : word = Cf.wKeep
  · exact Set_wKeep c word text g B w h2 hB hc hs hL hT
  by_cases h3 : word = Cf.wSupport
  · by_cases hk : c.kind = 3
    · exact Set_wSupport c word text g B w h3 hk hB hc hs hL hT
    · exact Set_noSupport c word text g B w h3 hk hc
  by_cases h4 : word = Cf.wSize
  · exact Set_wSize c word text g B w h4 hB hc hs hL hT
  by_cases h5 : word = Cf.wWorkers
  · exact Set_wWorkers c word text g B w h5 hB hc hs hL hT
  by_cases h6 : word = Cf.wCap
  · exact Set_wCap c word text g B w h6 hB hc hs hL hT
  exact Set_other c word text g B w (by simp only [List.mem_cons, List.not_mem_nil, or_false, not_or]; exact ⟨h1, h2, h3, h4, h5, h6⟩)
end Go.Proofs.YtapledphhfiimaaGreatDoor
/-
  conf: the words seen, a map[string]bool in memory.
-/
namespace Go.Proofs.YtapledphhfiimaaGreatDoor
open Go.RowKit Go.Maps Go.WideMaps
set_option maxRecDepth 100000
set_option linter.unusedVariables false

theorem str_keyed : Keyed Tryz.prog 9 := Keyed.of_law (string_law Tryz.underlying9)
theorem keyOf_bz (x : List UInt8) (h : x.length ≤ maxLen) : keyOf Tryz.prog 9 (.string (bz x)) = some (.string x) := by
  have h1 : (bz x).size ≤ maxLen := by rw [bz_size]; exact h
  unfold keyOf mapKey
  simp only [Tryz.underlying9]
  rw [if_pos h1]
/-- Block b holds the words seen. -/
def OnSeen (w : World) (b n : Nat) (seen : List (List UInt8)) : Prop := ∃ D, w.ownsMap Tryz.prog 9 rawR b n D ∧ ∀ x : List UInt8, D.atKey (.string x) (.held (.bool false)) = .held (.bool (decide (x ∈ seen)))
section
variable {w w' : World} {b n : Nat} {seen : List (List UInt8)}
theorem OnSeen.made (w : World) : OnSeen (w.alloc (.map #[] 0)) w.heap.size 0 [] := ⟨_, World.ownsMap_made w Tryz.prog _ rawR, fun x => by
  rw [decide_eq_false (by simp)]; rfl⟩
theorem OnSeen.lt (h : OnSeen w b n seen) : b < w.heap.size := by
  obtain ⟨D, h1, _⟩ := h
  exact World.ownsMap.lt h1
theorem OnSeen.of_heap (h : OnSeen w b n seen) (hb : w'.heap[b]? = w.heap[b]?) : OnSeen w' b n seen := by
  obtain ⟨D, h1, h2⟩ := h
  obtain ⟨es', clock, h3, F, hs, hD⟩ := h1
  exact ⟨D, ⟨es', clock, hb.trans h3, F, hs, hD⟩, h2⟩
theorem OnSeen.keep (h : OnSeen w b n seen) (hb : Below w.heap.size w w') : OnSeen w' b n seen := h.of_heap (hb.block b h.lt)
theorem OnSeen.asd {g : Nat} (h : OnSeen w b n seen) (ha : Asd g w w') (hne : b ≠ g) : OnSeen w' b n seen := h.of_heap (ha.2 b hne h.lt)
end
section
variable (w : World) {ops : Array Oper} {rest : List Oper} {o : Oper} {a : Act} {Q : Exit → Act → World → Prop}
theorem wpList_lookW (hg : o.guard = none) (m x : Operand) (hop : o.op = Op.lookup 116 m x false) (b n : Nat) (seen : List (List UInt8)) (hm : a.eval m = .map (some b)) (hown : OnSeen w b n seen) (y : List UInt8) (hx : a.eval x = .string (bz y)) (hy : y.length ≤ maxLen)
    (hK : wpList Tryz.prog ops Q rest (a.put o.dst (.bool (decide (y ∈ seen)))) w) :
    wpList Tryz.prog ops Q (o :: rest) a w := by
  refine wpList_plain hg fun K' hK' => ?_
  obtain ⟨D, h1, h2⟩ := hown
  obtain ⟨v, ps, hrun, hv⟩ := World.ownsMap.lookup h1 str_keyed Tryz.underlying116 (show (zeroValue 4).run Tryz.prog w = .ok (.bool false) w from by kernel_rfl) (zd := .held (.bool false)) (zp := []) rfl (keyOf_bz y hy)
  rw [h2 y] at hv
  obtain rfl : v = .bool (decide (y ∈ seen)) := by
    have := (Prod.mk.inj (Option.some.inj hv)).1
    exact DataW.held.inj this
  unfold Oper.wp
  simp [execOp, hop, hm, hx, hrun, Result.andThen]
  exact hK' _ _ hK
theorem wpList_putW (hg : o.guard = none) (m x v : Operand) (hop : o.op = Op.mapUpdate 116 m x v) (b n : Nat) (seen : List (List UInt8)) (hm : a.eval m = .map (some b)) (hown : OnSeen w b n seen) (hn : n < maxLen) (y : List UInt8) (hx : a.eval x = .string (bz y)) (hv : a.eval v = .bool true) (hy : y.length ≤ maxLen)
    (hK : ∀ w', OnSeen w' b (n + 1) (y :: seen) → w.grownBy w' (some b) → wpList Tryz.prog ops Q rest (a.put o.dst undef) w') :
    wpList Tryz.prog ops Q (o :: rest) a w := by
  obtain ⟨D, h1, h2⟩ := hown
  refine wpList_mapUpdate_own w hg m x v _ hop 9 4 str_keyed Tryz.underlying116 rawR b n D hm h1 hn _ _ _ hx hv (keyOf_bz y hy) (.held (.bool true)) [] rfl fun w' hw' hgr => hK w' ⟨_, hw', fun x => ?_⟩ hgr
  by_cases h : x = y
  · subst h
    rw [atKey_put_same (World.ownsMap.isMap h1) (str_keyed.key (keyOf_bz x hy)), decide_eq_true (List.mem_cons_self ..)]
  · rw [atKey_put_other (fun e => h (by injection e)), h2 x]
    simp [h]
end
/-- What the look-up runs to, for a place that is guarded: the walk takes it as it stands. -/
theorem look_run (w : World) (b n : Nat) (seen : List (List UInt8)) (hown : OnSeen w b n seen) (y : List UInt8) (hy : y.length ≤ maxLen) :
    (Instr.lookup 116 (.map (some b)) (.string (bz y)) false).run Tryz.prog w = .ok (.bool (decide (y ∈ seen))) w := by
  obtain ⟨D, h1, h2⟩ := hown
  obtain ⟨v, ps, hrun, hv⟩ := World.ownsMap.lookup h1 str_keyed Tryz.underlying116 (show (zeroValue 4).run Tryz.prog w = .ok (.bool false) w from by kernel_rfl) (zd := .held (.bool false)) (zp := []) rfl (keyOf_bz y hy)
  rw [h2 y] at hv
  obtain rfl : v = .bool (decide (y ∈ seen)) := by
    have := (Prod.mk.inj (Option.some.inj hv)).1
    exact DataW.held.inj this
  exact hrun
end Go.Proofs.YtapledphhfiimaaGreatDoor
/-
  Contract of wire.Writer.Num, whatever number.
-/
namespace Go.Proofs.YtapledphhfiimaaGreatDoor
open Go.RowKit
set_option maxRecDepth 100000
set_option linter.unusedVariables false

end Go.Proofs.YtapledphhfiimaaGreatDoor
/-
  Contracts of wire.Writer: Bytes; bytes.Clone.
-/
namespace Go.Proofs.YtapledphhfiimaaGreatDoor
open Go.RowKit
set_option maxRecDepth 100000
set_option linter.unusedVariables false

end Go.Proofs.YtapledphhfiimaaGreatDoor
/-
  Contracts of wire.Writer: Long, Text, List, Bytes, Err; bytes.Clone.
-/
namespace Go.Proofs.YtapledphhfiimaaGreatDoor
open Go.RowKit
set_option maxRecDepth 100000
set_option linter.unusedVariables false

/-- A text's bytes. -/
def sB (s : ByteArray) : List Int := s.data.toList.map fun b : UInt8 => (b.toNat : Int)
theorem sB_len (s : ByteArray) : (sB s).length = s.size := by rw [sB, List.length_map, Array.length_toList]; rfl
theorem sB_cells (s : ByteArray) : Lib.strCells s = (sB s).map (Value.int .u8) := by rw [sB, List.map_map]; rfl
theorem sB_bys (s : ByteArray) : Bys (sB s) := by
  intro x hx
  obtain ⟨b, _, rfl⟩ := List.mem_map.1 hx
  have := b.toNat_lt
  omega
def hiN (z : Int) : Nat := (z % 18446744073709551616 / 4294967296).toNat
def loN (z : Int) : Nat := (z % 4294967296).toNat
theorem hiN_lt (z : Int) : hiN z < 4294967296 := by unfold hiN; omega
theorem loN_lt (z : Int) : loN z < 4294967296 := by unfold loN; omega
def pLong (z : Int) (st : St) : St := (st.1 ++ wordL (hiN z) ++ wordL (loN z), st.2)
def pText (s : ByteArray) (st : St) : St := ((pNum s.size st).1 ++ sB s, (pNum s.size st).2)
def pNums : List Int → St → St
  | [], st => st
  | z :: l, st => pNums l (pNum z st)
def pList (l : List Int) (st : St) : St := pNums l (pNum l.length st)
theorem pNums_snoc : ∀ (l : List Int) (z : Int) (st : St), pNums (l ++ [z]) st = pNum z (pNums l st)
  | [], _, _ => rfl
  | x :: l, z, st => by rw [List.cons_append, pNums, pNums_snoc l, pNums]
theorem pNums_len : ∀ (l : List Int) (st : St), (pNums l st).1.length = st.1.length + 4 * l.length
  | [], st => by simp [pNums]
  | x :: l, st => by rw [pNums, pNums_len l, pNum_len, List.length_cons]; omega

section
variable {P : Program} {ops : Array Oper} {rest : List Oper} {o : Oper} {a : Act} {Q : Exit → Act → World → Prop}
/-- append(b, s...) of a string. -/
theorem wpList_str_lies {t u e : TypeId} (E : Elem P t e (.int .u8 0) 1 1) (hu : P.underlying u = some .string) {B : Nat} {W : World} (y x : Operand)
    (hgd : o.guard = none) (ho : o.op = .call { callee := .builtin .append, args := #[y, x], argTypes := #[t, u] })
    {v : Value} {n : Nat} {l : List Int} (hown : W.ownsRow B e 1 v n (l.map (Value.int .u8))) (hB : B ≤ W.heap.size) {s : ByteArray} (h0 : 0 < n + s.size)
    (hs : a.eval y = v) (hx : a.eval x = .string s) (hlim : n + s.size ≤ lim)
    (h : ∀ g cap w', w'.ownsRow B e 1 (.slice (some ⟨g, 0, none⟩) (n + s.size) cap) (n + s.size) ((l ++ sB s).map (Value.int .u8)) → W.grownBy w' v.ownBlock → wpList P ops Q rest (a.put o.dst (.slice (some ⟨g, 0, none⟩) (n + s.size) cap)) w') : wpList P ops Q (o :: rest) a W := by
  obtain ⟨i, hi, hz, hsize, hby⟩ := info_parts E.hi
  unfold lim at hlim
  refine Lib.wpList_append_own_string W hgd y x t u ho B e i E.ht hu hi hz hsize hby v n _ hs hown s hx (by unfold maxLen; omega) hlim hB ?_
  intro v' w' h2 h3 _
  rw [sB_cells, ← List.map_append] at h2
  rcases h2.2 with ⟨_, h4⟩ | ⟨g, cap, cur, rfl, _⟩
  · omega
  · exact h g cap w' h2 h3
end

end Go.Proofs.YtapledphhfiimaaGreatDoor
/-
  Items; contracts of the statements' far and put, and of the document's Put.
-/
namespace Go.Proofs.YtapledphhfiimaaGreatDoor
open Go.RowKit
set_option maxRecDepth 100000
set_option linter.unusedVariables false

structure Item where
  kind : Int
  n : Int
  s : ByteArray
  l : List Int
def Item.ok (x : Item) : Prop := (-9223372036854775808 ≤ x.kind ∧ x.kind ≤ 9223372036854775807) ∧ (-9223372036854775808 ≤ x.n ∧ x.n ≤ 9223372036854775807) ∧ x.s.size ≤ 9223372036854775807 ∧ x.l.length ≤ 9223372036854775807 ∧ ∀ z ∈ x.l, -9223372036854775808 ≤ z ∧ z ≤ 9223372036854775807
/-- Items in memory. -/
def Its (w : World) (A : Option Addr) (n : Nat) (xs : List Item) : Prop :=
  xs.length = n ∧ ∀ (i : Nat) (x : Item), xs[i]? = some x → x.ok ∧ ∃ b off LA lc, A = some ⟨b, off, none⟩ ∧ w.cell? ⟨b, off + i * 4, none⟩ = some (.int .i64 x.kind) ∧ w.cell? ⟨b, off + i * 4 + 1, none⟩ = some (.int .i64 x.n) ∧
    w.cell? ⟨b, off + i * 4 + 2, none⟩ = some (.string x.s) ∧ w.cell? ⟨b, off + i * 4 + 3, none⟩ = some (.slice LA x.l.length lc) ∧ Sl w 1 LA x.l.length (x.l.map (Value.int .i64)) ∧ x.l.length ≤ lc ∧ lc ≤ 9223372036854775807
theorem Its.keep {w w' : World} {A : Option Addr} {n : Nat} {xs : List Item} (h : Its w A n xs) (hb : Below w.heap.size w w') : Its w' A n xs := by
  refine ⟨h.1, fun i x hx => ?_⟩
  obtain ⟨h0, b, off, LA, lc, hA, h1, h2, h3, h4, h5, h6⟩ := h.2 i x hx
  have hk : ∀ {p : Addr} {v : Value}, w.cell? p = some v → w'.cell? p = some v := fun hp => (hb.cell (World.block_lt_of_cell? w _ hp)).trans hp
  exact ⟨h0, b, off, LA, lc, hA, hk h1, hk h2, hk h3, hk h4, h5.keep hb, h6⟩
def near (x : Item) : Prop := x.s.size ≤ 200 ∧ x.l.length ≤ 60 ∧ 0 ≤ x.kind ∧ x.kind ≤ 3
def Near (xs : List Item) : Prop := xs.length ≤ 40 ∧ ∀ x ∈ xs, near x
instance (x : Item) : Decidable (near x) := by unfold near; exact inferInstance
instance (xs : List Item) : Decidable (Near xs) := by unfold Near; exact inferInstance

def pItem (x : Item) (st : St) : St := if x.kind = 0 then pNum x.n st else if x.kind = 1 then pLong x.n st else if x.kind = 2 then pText x.s st else pList x.l st
def pItems : List Item → St → St
  | [], st => st
  | x :: l, st => pItems l (pItem x st)
theorem pItems_snoc : ∀ (l : List Item) (x : Item) (st : St), pItems (l ++ [x]) st = pItem x (pItems l st)
  | [], _, _ => rfl
  | y :: l, x, st => by rw [List.cons_append, pItems, pItems_snoc l, pItems]
theorem pItem_len {x : Item} (h : near x) (st : St) : (pItem x st).1.length ≤ st.1.length + 500 := by
  obtain ⟨h1, h2, _⟩ := h
  unfold pItem
  split
  · rw [pNum_len]; omega
  split
  · simp only [pLong, List.length_append, wordL_len]; omega
  split
  · simp only [pText, List.length_append, pNum_len, sB_len]; omega
  · rw [pList, pNums_len, pNum_len]; omega
theorem pItems_len : ∀ {l : List Item} (h : ∀ x ∈ l, near x) (st : St), (pItems l st).1.length ≤ st.1.length + 500 * l.length
  | [], _, st => by simp [pItems]
  | x :: l, h, st => by
    have h1 := pItem_len (h x (List.mem_cons_self ..)) st
    have h2 := pItems_len (fun y hy => h y (List.mem_cons_of_mem _ hy)) (pItem x st)
    rw [pItems, List.length_cons]
    omega

end Go.Proofs.YtapledphhfiimaaGreatDoor
/-
  Contract of the document's Put.
-/
namespace Go.Proofs.YtapledphhfiimaaGreatDoor
open Go.RowKit
set_option maxRecDepth 100000
set_option linter.unusedVariables false

/-- The place of the first number that can't be, or -1. -/
def badE : Err → Int
  | .flt _ a _ => a
  | _ => -1
/-- An error of a writer. -/
def WE (E : Err) : Prop := E = .nil ∨ ∃ a : Nat, a ≤ 1000000 ∧ E = .flt 3 a txtNumber
theorem WE.pNum {z : Int} {st : St} (h : WE st.2) (hl : st.1.length ≤ 1000000) : WE (pNum z st).2 := by
  unfold Go.Proofs.YtapledphhfiimaaGreatDoor.pNum
  split
  · exact h
  · rcases h with h | ⟨a, ha, h⟩
    · rw [h]; exact .inr ⟨_, hl, rfl⟩
    · rw [h]; exact .inr ⟨a, ha, rfl⟩
theorem WE.pNums : ∀ {l : List Int} {st : St}, WE st.2 → st.1.length + 4 * l.length ≤ 1000000 → WE (pNums l st).2
  | [], _, h, _ => h
  | z :: l, st, h, hl => by
    rw [List.length_cons] at hl
    rw [Go.Proofs.YtapledphhfiimaaGreatDoor.pNums]
    exact WE.pNums (h.pNum (by omega)) (by rw [pNum_len]; omega)
theorem WE.pItem {x : Item} {st : St} (h : WE st.2) (hn : near x) (hl : st.1.length ≤ 900000) : WE (pItem x st).2 := by
  obtain ⟨h1, h2, _⟩ := hn
  unfold Go.Proofs.YtapledphhfiimaaGreatDoor.pItem
  split
  · exact h.pNum (by omega)
  split
  · exact h
  split
  · exact h.pNum (by omega)
  · rw [pList]; exact (h.pNum (by omega)).pNums (by rw [pNum_len]; omega)
theorem WE.pItems : ∀ {l : List Item} {st : St}, WE st.2 → (∀ x ∈ l, near x) → st.1.length + 500 * l.length ≤ 900000 → WE (pItems l st).2
  | [], _, h, _, _ => h
  | x :: l, st, h, hn, hl => by
    rw [List.length_cons] at hl
    have h1 := pItem_len (hn x (List.mem_cons_self ..)) st
    rw [Go.Proofs.YtapledphhfiimaaGreatDoor.pItems]
    exact WE.pItems (h.pItem (hn x (List.mem_cons_self ..)) (by omega)) (fun y hy => hn y (List.mem_cons_of_mem _ hy)) (by omega)
theorem badE_nil {E : Err} (h : WE E) : badE E < 0 ↔ E = .nil := by
  rcases h with rfl | ⟨a, _, rfl⟩
  · simp [badE]
  · simp only [badE]
    constructor
    · intro h; omega
    · intro h; cases h

end Go.Proofs.YtapledphhfiimaaGreatDoor
