/-
  Part 13 of the proof of ConfProgs: CfD, ListS.
-/
import Derived.BigQuiet
import Derived.Test.YtapledphhfiimaaGreatDoorConfProgsM11
import Derived.Test.YtapledphhfiimaaGreatDoorConfProgsM12
import Derived.Test.YtapledphhfiimaaGreatDoorConfProgsM6
import Derived.Shelf.Spec.SlicesGrow
/-
  conf: the walk of Parse.
-/
namespace Go.Proofs.YtapledphhfiimaaGreatDoor
open Go.RowKit Go.Proofs.YtapledphhfiimaaGreatDoor.Pg
attribute [local go_sem ↓] Go.wp_at_zero Go.wp_at_succ
set_option maxRecDepth 100000
set_option linter.unusedVariables false

namespace Cf
theorem go_end (c : CF) (seen : List (List UInt8)) (n : Nat) : goC (Tx.split1 10 []) c seen n = endC c seen n := by
  rw [show Tx.split1 10 [] = [[]] from rfl, goC, if_pos rfl]
theorem go_none {rest x r : List UInt8} {c : CF} {seen : List (List UInt8)} {n : Nat} (h0 : rest ≠ []) (hc : Tx.cut1 10 rest = (x, r, false)) : goC (Tx.split1 10 rest) c seen n = .bad n (Tx.cut1 32 x).1 := by
  rcases Tx.cut1_cases 10 rest with ⟨hn, h⟩ | ⟨a, b, _, _, h⟩
  · rw [hc] at h
    injection h with h1 h2
    subst h1
    rw [Tx.split1_none hn, goC, if_neg h0]
  · rw [hc] at h
    injection h with _ h
    injection h with _ h
    cases h
theorem go_cut {rest x r : List UInt8} (hc : Tx.cut1 10 rest = (x, r, true)) : Tx.split1 10 rest = x :: Tx.split1 10 r ∧ r.length < rest.length ∧ x.length < rest.length := by
  rcases Tx.cut1_cases 10 rest with ⟨hn, h⟩ | ⟨a, b, hr, ha, h⟩
  · rw [hc] at h
    injection h with _ h
    injection h with _ h
    cases h
  · rw [hc] at h
    injection h with h1 h
    injection h with h2 _
    subst h1
    subst h2
    rw [hr]
    exact ⟨Tx.split1_app _ ha, by rw [List.length_append, List.length_cons]; omega, by rw [List.length_append, List.length_cons]; omega⟩
end Cf
abbrev confV (c : Cf.CF) (A : Option Addr) (n d : Nat) : Value := .agg #[.int .i64 c.kind, .int .i64 c.size, .int .i64 c.sup, .int .i64 c.wk, .int .i64 c.cap, .slice A n d]
abbrev conf0 : Value := .agg #[.int .i64 0, .int .i64 0, .int .i64 0, .int .i64 0, .int .i64 0, .slice none 0 0]
/-- What Parse answers. -/
def CfParseRes (l : List UInt8) (w : World) (e : Ending) (w' : World) : Prop :=
  Below w.heap.size w w' ∧ ((∃ c A n d, Cf.parseC l = .ok c ∧ e = .returned (.tuple #[confV c A n d, .nilIface]) ∧ c.keep.length = n ∧ Sl w' 2 A n (Rk.cells c.keep)) ∨
    (∃ k wd g, Cf.parseC l = .bad k wd ∧ e = .returned (.tuple #[conf0, .iface 111 (.pointer (some ⟨g, 0, none⟩))]) ∧ Blk w' g 114 #[.int .i64 12, .int .i64 (k : Int), .string (bz wd)]))
theorem CfAt.grown_map {w w' : World} {g m k : Nat} {c : Cf.CF} {seen : List (List UInt8)} (h : CfAt w g c) (hm : OnSeen w m k seen) (hg : w.grownBy w' (some m)) (hne : g ≠ m) : CfAt w' g c := by
  obtain ⟨A, n, d, h1, h2, h3, h4⟩ := h
  have hnc : NC w m := by
    obtain ⟨D, ⟨es', clock, h3, _⟩, _⟩ := hm
    exact NC.of_map h3
  exact ⟨A, n, d, h1.grown hg (fun e => hne (Option.some.inj e)), h2, h3.turned hnc hg, h4⟩
/-- A conf stored. -/
abbrev six (V : World) (R : Nat) (x0 x1 x2 x3 x4 : Int) (s : Value) : World :=
  (((((V.setCell ⟨R, 0, none⟩ (.int .i64 x0)).setCell ⟨R, 1, none⟩ (.int .i64 x1)).setCell ⟨R, 2, none⟩ (.int .i64 x2)).setCell ⟨R, 3, none⟩ (.int .i64 x3)).setCell ⟨R, 4, none⟩ (.int .i64 x4)).setCell ⟨R, 5, none⟩ s
theorem six_blk {V : World} {R : Nat} (h : Blk V R 49 #[.int .i64 0, .int .i64 0, .int .i64 0, .int .i64 0, .int .i64 0, .slice none 0 0]) (x0 x1 x2 x3 x4 : Int) (s : Value) :
    Blk (six V R x0 x1 x2 x3 x4 s) R 49 #[.int .i64 x0, .int .i64 x1, .int .i64 x2, .int .i64 x3, .int .i64 x4, s] :=
  (((((h.set_ 0 (.int .i64 x0)).set_ 1 (.int .i64 x1)).set_ 2 (.int .i64 x2)).set_ 3 (.int .i64 x3)).set_ 4 (.int .i64 x4)).set_ 5 s
theorem six_asd {V : World} (R : Nat) (x0 x1 x2 x3 x4 : Int) (s : Value) : Asd R V (six V R x0 x1 x2 x3 x4 s) :=
  ((((((Asd.of (Below.refl _ V)).setCell 0 _).setCell 1 _).setCell 2 _).setCell 3 _).setCell 4 _).setCell 5 _
theorem six_below {B R : Nat} {w V : World} (h : Below B w V) (hB : B ≤ R) (x0 x1 x2 x3 x4 : Int) (s : Value) : Below B w (six V R x0 x1 x2 x3 x4 s) :=
  (((((h.setCell (p := ⟨R, 0, none⟩) hB _).setCell (p := ⟨R, 1, none⟩) hB _).setCell (p := ⟨R, 2, none⟩) hB _).setCell (p := ⟨R, 3, none⟩) hB _).setCell (p := ⟨R, 4, none⟩) hB _).setCell (p := ⟨R, 5, none⟩) hB _
theorem blk_ne {V : World} {g R : Nat} {t u : TypeId} {cs ds : Array Value} (h : Blk V g t cs) (k : Blk V R u ds) (hne : t ≠ u) : g ≠ R := fun e => by
  subst e
  unfold Blk at h k
  rw [h] at k
  injection k with k
  injection k with _ k
  exact hne k
/-- The end where no job is told. -/
theorem cf_bad {l wd : List UInt8} {w V : World} {R g k : Nat} {WD : ByteArray} (hR : R = w.heap.size) (hB : Below w.heap.size w V) (hk : Blk V R 49 #[.int .i64 0, .int .i64 0, .int .i64 0, .int .i64 0, .int .i64 0, .slice none 0 0]) (hv : Blk V g 114 #[.int .i64 12, .int .i64 (k : Int), .string WD]) (hw : WD = bz wd) (hp : Cf.parseC l = .bad k wd) :
    CfParseRes l w (.returned (.tuple #[conf0, .iface 111 (.pointer (some ⟨g, 0, none⟩))])) (six V R 0 0 0 0 0 (.slice none 0 0)) := by
  subst hw
  exact ⟨six_below hB (by omega) _ _ _ _ _ _, .inr ⟨k, wd, g, hp, rfl, (six_asd R 0 0 0 0 0 (.slice none 0 0)).blk hv (blk_ne hv hk (by decide))⟩⟩
def strLen : Value → Nat
  | .string s => s.size
  | _ => 0
set_option maxHeartbeats 1000000 in
theorem CfParse_any (l : List UInt8) (w : World) (hs : l.length ≤ 262144) (hL : LibW w) (hT : TabW w) :
    Calls Tryz.prog 43 #[.string (bz l)] w (CfParseRes l w) := by
  have hsz : ¬ (262144 : Int) < ((bz l).size : Int) := by rw [bz_size]; omega
  have HL := Lib.hid hL
  have HT := Lib.hid hT
  clear hL hT
  obtain ⟨S, hS⟩ : ∃ S, S = bz l := ⟨_, rfl⟩
  have HSd := Lib.hid hS
  rw [← hS] at hsz ⊢
  clear hS
  go_enter Tryz.func43, Tryz.ntmps43
  have hmm := @run_makeMap Tryz.prog
  go_upto_region 6 with (fail)
  obtain ⟨w0, hw0⟩ : ∃ W, W = ((w.alloc (.cells #[.int .i64 0, .int .i64 0, .int .i64 0, .int .i64 0, .int .i64 0, .slice none 0 0] 49)).alloc (.cells #[.int .i64 0, .int .i64 0, .int .i64 0, .int .i64 1, .int .i64 1000000, .slice none 0 0] 49)).alloc (.map #[] 0) := ⟨_, rfl⟩
  have HB0 := Lib.hid (show Below w.heap.size w w0 from by rw [hw0]; exact bel_al (bel_al (bel_al (Below.refl _ _) _) _) _)
  have HR0 := Lib.hid (show Blk w0 w.heap.size 49 #[.int .i64 0, .int .i64 0, .int .i64 0, .int .i64 0, .int .i64 0, .slice none 0 0] from by rw [hw0]; exact ((Blk.new w _ _).alloc _).alloc _)
  have HC0 := Lib.hid (show CfAt w0 (w.heap.size + 1) Cf.CF.start from by
    rw [hw0]
    have := (Blk.new (w.alloc (.cells #[.int .i64 0, .int .i64 0, .int .i64 0, .int .i64 0, .int .i64 0, .slice none 0 0] 49)) 49 #[.int .i64 0, .int .i64 0, .int .i64 0, .int .i64 1, .int .i64 1000000, .slice none 0 0]).alloc (.map #[] 0)
    rw [World.size_alloc] at this
    exact ⟨none, 0, 0, this, rfl, Sl.nil _ _ _, fun x h => by cases h⟩)
  have HM0 := Lib.hid (show OnSeen w0 (w.heap.size + 1 + 1) 0 [] from by
    rw [hw0]
    have := OnSeen.made ((w.alloc (.cells #[.int .i64 0, .int .i64 0, .int .i64 0, .int .i64 0, .int .i64 0, .slice none 0 0] 49)).alloc (.cells #[.int .i64 0, .int .i64 0, .int .i64 0, .int .i64 1, .int .i64 1000000, .slice none 0 0] 49))
    rw [World.size_alloc, World.size_alloc] at this
    exact this)
  have HS0 := Lib.hid (show l.length ≤ 262144 from hs)
  rw [← hw0]
  obtain ⟨R, hR⟩ : ∃ R, R = w.heap.size := ⟨_, rfl⟩
  obtain ⟨g, hg⟩ : ∃ g, g = w.heap.size + 1 := ⟨_, rfl⟩
  obtain ⟨m, hm⟩ : ∃ m, m = w.heap.size + 1 + 1 := ⟨_, rfl⟩
  have HRg := Lib.hid (show R = w.heap.size ∧ g = R + 1 ∧ m = R + 2 from ⟨hR, by omega, by omega⟩)
  rw [← hm] at HM0 ⊢
  rw [← hg] at HC0 ⊢
  rw [← hR] at HR0 ⊢
  clear hR hg hm hw0 hs hsz hmm
  go_wp2_with fail
  go_loopw [0, 6] (fun sv iv wr => ∃ (rest : List UInt8) (SR : ByteArray) (k : Nat) (c : Cf.CF) (seen : List (List UInt8)), sv = .string SR ∧ Hid (SR = bz rest) ∧ iv = .int .i64 (k : Int) ∧ Hid (k + rest.length ≤ 262144) ∧ Hid (Cf.parseC l = Cf.goC (Tx.split1 10 rest) c seen k) ∧ Hid (CfAt wr g c) ∧ Hid (OnSeen wr m k seen) ∧ Hid (Blk wr R 49 #[.int .i64 0, .int .i64 0, .int .i64 0, .int .i64 0, .int .i64 0, .slice none 0 0]) ∧ Hid (Below w.heap.size w wr)) (fun sv _ _ => strLen sv)
  case atStart => exact ⟨l, S, 0, Cf.CF.start, [], rfl, HSd, rfl, Lib.hid (by have := HS0.out; omega), Lib.hid rfl, HC0, HM0, HR0, HB0⟩
  case round =>
    obtain ⟨rest, SR, k, c, seen, rfl, HSR, rfl, HLn, HGo, HC, HM, HRk, HB⟩ := hrel
    by_cases h0 : rest = []
    · subst h0
      have hse := HSR.out
      rw [show bz [] = (⟨#[]⟩ : ByteArray) from rfl] at hse
      subst hse
      have HEn := Lib.hid (show Cf.parseC l = Cf.endC c seen k from by rw [HGo.out, Cf.go_end])
      have HBw := HB
      have HRk2 := HRk
      have HWr := Lib.hid (fun W => Wrong_any (k : Int) ⟨#[109, 105, 115, 115, 105, 110, 103]⟩ W)
      have HWd := Lib.hid (show (⟨#[109, 105, 115, 115, 105, 110, 103]⟩ : ByteArray) = bz Cf.wMissing from rfl)
      have hlk1 := look_run wr m k seen HM.out Cf.wSize (by decide)
      have hlk2 := look_run wr m k seen HM.out Cf.wSupport (by decide)
      rw [show bz Cf.wSize = (⟨#[115, 105, 122, 101]⟩ : ByteArray) from rfl] at hlk1
      rw [show bz Cf.wSupport = (⟨#[115, 117, 112, 112, 111, 114, 116]⟩ : ByteArray) from rfl] at hlk2
      obtain ⟨A, n, d, hK, hn, hS, hA⟩ := HC.out
      have k0 := hK.cell 0
      have k1 := hK.cell 1
      have k2 := hK.cell 2
      have k3 := hK.cell 3
      have k4 := hK.cell 4
      have k5 := hK.cell 5
      simp at k0 k1 k2 k3 k4 k5
      have HSl := Lib.hid hS
      have HAl := Lib.hid hA
      have HNl := Lib.hid hn
      clear hK hS hA hn
      by_cases hz : Cf.wSize ∈ seen
      · rw [decide_eq_true hz] at hlk1
        by_cases h3 : c.kind = 3
        · have e3 : (c.kind == 3) = true := by simp [h3]
          by_cases hp : Cf.wSupport ∈ seen
          · rw [decide_eq_true hp] at hlk2
            have HOk := Lib.hid (show Cf.parseC l = .ok c from by rw [HEn.out]; unfold Cf.endC; rw [if_neg (by rintro (h | ⟨_, h⟩); exact h hz; exact h hp)])
            clear hz h3 hp
            have q0 := HRk.out.cell 0
            have q1 := HRk.out.cell 1
            have q2 := HRk.out.cell 2
            have q3 := HRk.out.cell 3
            have q4 := HRk.out.cell 4
            have q5 := HRk.out.cell 5
            have f0 := HRk.out.frozen 0
            have f1 := HRk.out.frozen 1
            have f2 := HRk.out.frozen 2
            have f3 := HRk.out.frozen 3
            have f4 := HRk.out.frozen 4
            have f5 := HRk.out.frozen 5
            simp at q0 q1 q2 q3 q4 q5
            go_wp2_with fail
            have hx := six_blk HRk.out c.kind c.size c.sup c.wk c.cap (.slice A n d)
            have x0 := hx.cell 0
            have x1 := hx.cell 1
            have x2 := hx.cell 2
            have x3 := hx.cell 3
            have x4 := hx.cell 4
            have x5 := hx.cell 5
            simp at x0 x1 x2 x3 x4 x5
            refine bodyPost_ret (v := .tuple #[confV c A n d, .nilIface]) (by simp [results, Tryz.results43, go_sem, x0, x1, x2, x3, x4, x5]) rfl ?_
            refine ⟨six_below HB.out (by have := HRg.out; omega) _ _ _ _ _ _, .inl ⟨c, A, n, d, HOk.out, rfl, HNl.out, HSl.out.asd (six_asd R c.kind c.size c.sup c.wk c.cap (.slice A n d)) ?_⟩⟩
            intro y hy
            have h1 := HAl.out y hy
            have h2 := HRg.out
            omega
          · rw [decide_eq_false hp] at hlk2
            have HBd := Lib.hid (show Cf.parseC l = .bad k Cf.wMissing from by rw [HEn.out]; unfold Cf.endC; rw [if_pos (.inr ⟨h3, hp⟩)])
            clear hz h3 hp
            go_wp2_with (go_at_call 75; refine (HWr.out _).mono ?_; rintro e w3 ⟨g3, rfl, hv3, hb3⟩; have HB3 := Lib.hid (HBw.out.andThen hb3); have HV3 := Lib.hid hv3; have HRk3 := Lib.hid (HRk2.out.keep hb3); have q0 := HRk3.out.cell 0; have q1 := HRk3.out.cell 1; have q2 := HRk3.out.cell 2; have q3 := HRk3.out.cell 3; have q4 := HRk3.out.cell 4; have q5 := HRk3.out.cell 5; have f0 := HRk3.out.frozen 0; have f1 := HRk3.out.frozen 1; have f2 := HRk3.out.frozen 2; have f3 := HRk3.out.frozen 3; have f4 := HRk3.out.frozen 4; have f5 := HRk3.out.frozen 5; simp at q0 q1 q2 q3 q4 q5; clear hb3 hv3)
            have hx := six_blk HRk3.out 0 0 0 0 0 (.slice none 0 0)
            have x0 := hx.cell 0
            have x1 := hx.cell 1
            have x2 := hx.cell 2
            have x3 := hx.cell 3
            have x4 := hx.cell 4
            have x5 := hx.cell 5
            simp at x0 x1 x2 x3 x4 x5
            refine bodyPost_ret (v := .tuple #[conf0, .iface 111 (.pointer (some ⟨g3, 0, none⟩))]) (by simp [results, Tryz.results43, go_sem, x0, x1, x2, x3, x4, x5]) rfl ?_
            exact cf_bad HRg.out.1 HB3.out HRk3.out HV3.out rfl HBd.out
        · have e3 : (c.kind == 3) = false := by simp [h3]
          have HOk := Lib.hid (show Cf.parseC l = .ok c from by rw [HEn.out]; unfold Cf.endC; rw [if_neg (by rintro (h | ⟨h, _⟩); exact h hz; exact h3 h)])
          clear hz h3 hlk2
          have q0 := HRk.out.cell 0
          have q1 := HRk.out.cell 1
          have q2 := HRk.out.cell 2
          have q3 := HRk.out.cell 3
          have q4 := HRk.out.cell 4
          have q5 := HRk.out.cell 5
          have f0 := HRk.out.frozen 0
          have f1 := HRk.out.frozen 1
          have f2 := HRk.out.frozen 2
          have f3 := HRk.out.frozen 3
          have f4 := HRk.out.frozen 4
          have f5 := HRk.out.frozen 5
          simp at q0 q1 q2 q3 q4 q5
          go_wp2_with fail
          have hx := six_blk HRk.out c.kind c.size c.sup c.wk c.cap (.slice A n d)
          have x0 := hx.cell 0
          have x1 := hx.cell 1
          have x2 := hx.cell 2
          have x3 := hx.cell 3
          have x4 := hx.cell 4
          have x5 := hx.cell 5
          simp at x0 x1 x2 x3 x4 x5
          refine bodyPost_ret (v := .tuple #[confV c A n d, .nilIface]) (by simp [results, Tryz.results43, go_sem, x0, x1, x2, x3, x4, x5]) rfl ?_
          refine ⟨six_below HB.out (by have := HRg.out; omega) _ _ _ _ _ _, .inl ⟨c, A, n, d, HOk.out, rfl, HNl.out, HSl.out.asd (six_asd R c.kind c.size c.sup c.wk c.cap (.slice A n d)) ?_⟩⟩
          intro y hy
          have h1 := HAl.out y hy
          have h2 := HRg.out
          omega
      · rw [decide_eq_false hz] at hlk1
        have HBd := Lib.hid (show Cf.parseC l = .bad k Cf.wMissing from by rw [HEn.out]; unfold Cf.endC; rw [if_pos (.inl hz)])
        clear hz hlk2
        go_wp2_with (go_at_call 75; refine (HWr.out _).mono ?_; rintro e w3 ⟨g3, rfl, hv3, hb3⟩; have HB3 := Lib.hid (HBw.out.andThen hb3); have HV3 := Lib.hid hv3; have HRk3 := Lib.hid (HRk2.out.keep hb3); have q0 := HRk3.out.cell 0; have q1 := HRk3.out.cell 1; have q2 := HRk3.out.cell 2; have q3 := HRk3.out.cell 3; have q4 := HRk3.out.cell 4; have q5 := HRk3.out.cell 5; have f0 := HRk3.out.frozen 0; have f1 := HRk3.out.frozen 1; have f2 := HRk3.out.frozen 2; have f3 := HRk3.out.frozen 3; have f4 := HRk3.out.frozen 4; have f5 := HRk3.out.frozen 5; simp at q0 q1 q2 q3 q4 q5; clear hb3 hv3)
        have hx := six_blk HRk3.out 0 0 0 0 0 (.slice none 0 0)
        have x0 := hx.cell 0
        have x1 := hx.cell 1
        have x2 := hx.cell 2
        have x3 := hx.cell 3
        have x4 := hx.cell 4
        have x5 := hx.cell 5
        simp at x0 x1 x2 x3 x4 x5
        refine bodyPost_ret (v := .tuple #[conf0, .iface 111 (.pointer (some ⟨g3, 0, none⟩))]) (by simp [results, Tryz.results43, go_sem, x0, x1, x2, x3, x4, x5]) rfl ?_
        exact cf_bad HRg.out.1 HB3.out HRk3.out HV3.out rfl HBd.out
    · have he : (bz rest).toList.isEmpty = false := by
        rw [bz_empty]
        cases rest with
        | nil => exact absurd rfl h0
        | cons a r => rfl
      have HCut := Lib.hid (Cut_any rest 10 wr (by have := HLn.out; omega) (HL.out.keep HB.out))
      obtain ⟨x, r, whole, hc⟩ : ∃ x r b, Tx.cut1 10 rest = (x, r, b) := ⟨_, _, _, rfl⟩
      have hlx := cut_len_le 10 rest
      rw [hc] at HCut hlx
      simp only at HCut hlx
      have HLx := Lib.hid hlx
      have HCd := Lib.hid hc
      rw [← HSR.out] at HCut he
      have HNe := Lib.hid h0
      clear hlx hc h0
      go_upto_region 9 with (go_at_call 73; refine HCut.out.mono ?_; clear HCut; rintro e w1 ⟨rfl, hb1⟩; have HB1 := Lib.hid hb1; clear hb1)
      obtain ⟨wd, tx, has, hc2⟩ : ∃ a b d, Tx.cut1 32 x = (a, b, d) := ⟨_, _, _, rfl⟩
      have HCut2 := Lib.hid (Cut_any x 32 w1 (by have := HLx.out.1; have := HLn.out; omega) (HL.out.keep (HB.out.andThen HB1.out)))
      have hlx2 := cut_len_le 32 x
      rw [hc2] at HCut2 hlx2
      simp only at HCut2 hlx2
      have HLx2 := Lib.hid hlx2
      have HCd2 := Lib.hid hc2
      clear hlx2 hc2
      obtain ⟨WD, hWD⟩ : ∃ WD, WD = bz wd := ⟨_, rfl⟩
      have HWd := Lib.hid hWD
      rw [← hWD] at HCut2
      clear hWD
      go_upto_region 10 with (go_at_call 73; refine HCut2.out.mono ?_; clear HCut2; rintro e w2 ⟨rfl, hb2⟩; have HB2 := Lib.hid (HB1.out.andThen hb2); clear hb2)
      have HC2 := Lib.hid (HC.out.keep HB2.out)
      have HM2 := Lib.hid (HM.out.keep HB2.out)
      have HRk2 := Lib.hid (HRk.out.keep HB2.out)
      have HBw := Lib.hid (HB.out.andThen HB2.out)
      have HWr := Lib.hid (fun W => Wrong_any (k : Int) WD W)
      cases whole with
      | false =>
        have HBd := Lib.hid (show Cf.parseC l = .bad k wd from by rw [HGo.out, Cf.go_none HNe.out HCd.out, HCd2.out])
        have r0 := HRk2.out
        go_wp2_with (go_at_call 75; refine (HWr.out _).mono ?_; rintro e w3 ⟨g3, rfl, hv3, hb3⟩; have HB3 := Lib.hid (HBw.out.andThen hb3); have HV3 := Lib.hid hv3; have HRk3 := Lib.hid (HRk2.out.keep hb3); have q0 := HRk3.out.cell 0; have q1 := HRk3.out.cell 1; have q2 := HRk3.out.cell 2; have q3 := HRk3.out.cell 3; have q4 := HRk3.out.cell 4; have q5 := HRk3.out.cell 5; have f0 := HRk3.out.frozen 0; have f1 := HRk3.out.frozen 1; have f2 := HRk3.out.frozen 2; have f3 := HRk3.out.frozen 3; have f4 := HRk3.out.frozen 4; have f5 := HRk3.out.frozen 5; simp at q0 q1 q2 q3 q4 q5; clear hb3 hv3)
        have hx := six_blk HRk3.out 0 0 0 0 0 (.slice none 0 0)
        have x0 := hx.cell 0
        have x1 := hx.cell 1
        have x2 := hx.cell 2
        have x3 := hx.cell 3
        have x4 := hx.cell 4
        have x5 := hx.cell 5
        simp at x0 x1 x2 x3 x4 x5
        refine bodyPost_ret (v := .tuple #[conf0, .iface 111 (.pointer (some ⟨g3, 0, none⟩))]) (by simp [results, Tryz.results43, go_sem, x0, x1, x2, x3, x4, x5]) rfl ?_
        exact cf_bad HRg.out.1 HB3.out HRk3.out HV3.out HWd.out HBd.out
      | true =>
        obtain ⟨hsp, hrl, _⟩ := Cf.go_cut HCd.out
        have HGo2 := Lib.hid (show Cf.parseC l = Cf.goC (x :: Tx.split1 10 r) c seen k from by rw [HGo.out, hsp])
        have HLc := Lib.hid (show Cf.lineC c seen k x = if has = false ∨ wd ∈ seen ∨ (k ≠ 0 ↔ wd = Cf.wJob) then none else Cf.setC c wd tx from by unfold Cf.lineC; rw [HCd2.out])
        have HRl := Lib.hid hrl
        clear hsp hrl
        cases has with
        | false =>
          have HBd := Lib.hid (show Cf.parseC l = .bad k wd from by rw [HGo2.out, Cf.goC_fail (Tx.split1_ne 10 r) (by rw [HLc.out, if_pos (.inl rfl)]), HCd2.out])
          go_wp2_with (go_at_call 75; refine (HWr.out _).mono ?_; rintro e w3 ⟨g3, rfl, hv3, hb3⟩; have HB3 := Lib.hid (HBw.out.andThen hb3); have HV3 := Lib.hid hv3; have HRk3 := Lib.hid (HRk2.out.keep hb3); have q0 := HRk3.out.cell 0; have q1 := HRk3.out.cell 1; have q2 := HRk3.out.cell 2; have q3 := HRk3.out.cell 3; have q4 := HRk3.out.cell 4; have q5 := HRk3.out.cell 5; have f0 := HRk3.out.frozen 0; have f1 := HRk3.out.frozen 1; have f2 := HRk3.out.frozen 2; have f3 := HRk3.out.frozen 3; have f4 := HRk3.out.frozen 4; have f5 := HRk3.out.frozen 5; simp at q0 q1 q2 q3 q4 q5; clear hb3 hv3)
          have hx := six_blk HRk3.out 0 0 0 0 0 (.slice none 0 0)
          have x0 := hx.cell 0
          have x1 := hx.cell 1
          have x2 := hx.cell 2
          have x3 := hx.cell 3
          have x4 := hx.cell 4
          have x5 := hx.cell 5
          simp at x0 x1 x2 x3 x4 x5
          refine bodyPost_ret (v := .tuple #[conf0, .iface 111 (.pointer (some ⟨g3, 0, none⟩))]) (by simp [results, Tryz.results43, go_sem, x0, x1, x2, x3, x4, x5]) rfl ?_
          exact cf_bad HRg.out.1 HB3.out HRk3.out HV3.out HWd.out HBd.out
        | true =>
          have hlk := look_run w2 m k seen HM2.out wd (by have := HLx2.out; have := HLx.out; have := HLn.out; unfold maxLen; omega)
          rw [← HWd.out] at hlk
          by_cases hsn : wd ∈ seen
          · rw [decide_eq_true hsn] at hlk
            have HBd := Lib.hid (show Cf.parseC l = .bad k wd from by rw [HGo2.out, Cf.goC_fail (Tx.split1_ne 10 r) (by rw [HLc.out, if_pos (.inr (.inl hsn))]), HCd2.out])
            clear hsn
            go_wp2_with (go_at_call 75; refine (HWr.out _).mono ?_; rintro e w3 ⟨g3, rfl, hv3, hb3⟩; have HB3 := Lib.hid (HBw.out.andThen hb3); have HV3 := Lib.hid hv3; have HRk3 := Lib.hid (HRk2.out.keep hb3); have q0 := HRk3.out.cell 0; have q1 := HRk3.out.cell 1; have q2 := HRk3.out.cell 2; have q3 := HRk3.out.cell 3; have q4 := HRk3.out.cell 4; have q5 := HRk3.out.cell 5; have f0 := HRk3.out.frozen 0; have f1 := HRk3.out.frozen 1; have f2 := HRk3.out.frozen 2; have f3 := HRk3.out.frozen 3; have f4 := HRk3.out.frozen 4; have f5 := HRk3.out.frozen 5; simp at q0 q1 q2 q3 q4 q5; clear hb3 hv3)
            have hx := six_blk HRk3.out 0 0 0 0 0 (.slice none 0 0)
            have x0 := hx.cell 0
            have x1 := hx.cell 1
            have x2 := hx.cell 2
            have x3 := hx.cell 3
            have x4 := hx.cell 4
            have x5 := hx.cell 5
            simp at x0 x1 x2 x3 x4 x5
            refine bodyPost_ret (v := .tuple #[conf0, .iface 111 (.pointer (some ⟨g3, 0, none⟩))]) (by simp [results, Tryz.results43, go_sem, x0, x1, x2, x3, x4, x5]) rfl ?_
            exact cf_bad HRg.out.1 HB3.out HRk3.out HV3.out HWd.out HBd.out
          · rw [decide_eq_false hsn] at hlk
            have e2 := bz_beqL wd [106, 111, 98]
            rw [← HWd.out] at e2
            by_cases hk0 : k = 0
            · have e1 : ((k : Int) == 0) = true := by simp [hk0]
              by_cases hj : wd = Cf.wJob
              · rw [decide_eq_true hj] at e2
                have hno : ¬ (true = false ∨ wd ∈ seen ∨ (k ≠ 0 ↔ wd = Cf.wJob)) := by rintro (h | h | h); cases h; exact hsn h; exact (h.2 hj) hk0
                clear hk0 hj hsn
                have HSt := Lib.hid (Set_any c wd tx g w.heap.size w2 (by have := HRg.out; omega) HC2.out (by have := HLx2.out; have := HLx.out; have := HLn.out; omega) (HL.out.keep HBw.out) (HT.out.keep HBw.out))
                rw [← HWd.out] at HSt
                have HNeq := Lib.hid (show R ≠ g from by have := HRg.out; omega)
                cases hst : Cf.setC c wd tx with
                | none =>
                  have HSet := Lib.hid (show Calls Tryz.prog 74 #[.pointer (some ⟨g, 0, none⟩), .string WD, .string (bz tx)] w2 fun e w' => e = .returned (.bool false) ∧ Below w.heap.size w2 w' ∧ Asd g w2 w' from HSt.out.mono fun e w' ⟨b, h1, h2, h3, h4⟩ => by
                    rcases h4 with ⟨_, c', h, _⟩ | ⟨rfl, _⟩
                    · rw [hst] at h; cases h
                    · exact ⟨h1, h2, h3⟩)
                  have HBd := Lib.hid (show Cf.parseC l = .bad k wd from by rw [HGo2.out, Cf.goC_fail (Tx.split1_ne 10 r) (by rw [HLc.out, if_neg hno, hst]), HCd2.out])
                  clear HSt hst hno
                  go_wp2_with (first | (go_at_call 74; refine HSet.out.mono ?_; clear HSet; rintro e w5 ⟨rfl, hb5, ha5⟩; replace HBw := Lib.hid (HBw.out.trans hb5); replace HRk2 := Lib.hid (ha5.blk HRk2.out HNeq.out); clear hb5 ha5) | (go_at_call 75; refine (HWr.out _).mono ?_; rintro e w3 ⟨g3, rfl, hv3, hb3⟩; have HB3 := Lib.hid (HBw.out.andThen hb3); have HV3 := Lib.hid hv3; have HRk3 := Lib.hid (HRk2.out.keep hb3); have q0 := HRk3.out.cell 0; have q1 := HRk3.out.cell 1; have q2 := HRk3.out.cell 2; have q3 := HRk3.out.cell 3; have q4 := HRk3.out.cell 4; have q5 := HRk3.out.cell 5; have f0 := HRk3.out.frozen 0; have f1 := HRk3.out.frozen 1; have f2 := HRk3.out.frozen 2; have f3 := HRk3.out.frozen 3; have f4 := HRk3.out.frozen 4; have f5 := HRk3.out.frozen 5; simp at q0 q1 q2 q3 q4 q5; clear hb3 hv3))
                  have hx := six_blk HRk3.out 0 0 0 0 0 (.slice none 0 0)
                  have x0 := hx.cell 0
                  have x1 := hx.cell 1
                  have x2 := hx.cell 2
                  have x3 := hx.cell 3
                  have x4 := hx.cell 4
                  have x5 := hx.cell 5
                  simp at x0 x1 x2 x3 x4 x5
                  refine bodyPost_ret (v := .tuple #[conf0, .iface 111 (.pointer (some ⟨g3, 0, none⟩))]) (by simp [results, Tryz.results43, go_sem, x0, x1, x2, x3, x4, x5]) rfl ?_
                  exact cf_bad HRg.out.1 HB3.out HRk3.out HV3.out HWd.out HBd.out
                | some c' =>
                  have HSet := Lib.hid (show Calls Tryz.prog 74 #[.pointer (some ⟨g, 0, none⟩), .string WD, .string (bz tx)] w2 fun e w' => e = .returned (.bool true) ∧ Below w.heap.size w2 w' ∧ Asd g w2 w' ∧ CfAt w' g c' from HSt.out.mono fun e w' ⟨b, h1, h2, h3, h4⟩ => by
                    rcases h4 with ⟨rfl, c'', h, h5⟩ | ⟨_, h⟩
                    · rw [hst] at h; cases h; exact ⟨h1, h2, h3, h5⟩
                    · rw [hst] at h; cases h)
                  have HStep := Lib.hid (show Cf.parseC l = Cf.goC (Tx.split1 10 r) c' (wd :: seen) (k + 1) from by rw [HGo2.out, Cf.goC_step (Tx.split1_ne 10 r) (by rw [HLc.out, if_neg hno, hst]), HCd2.out])
                  have HNm := Lib.hid (show m ≠ g ∧ R ≠ m from by have := HRg.out; omega)
                  clear HSt hst hno
                  have hk9 : (k : Int) ≤ 262144 := by have := HLn.out; omega
                  have hk8 : (0 : Int) ≤ (k : Int) := by omega
                  have hwr : IntKind.i64.wrap ((k : Int) + 1) = (k : Int) + 1 := by rw [IntKind.wrap_i64]; omega
                  go_wp2_with (first
                    | (go_at_call 74; refine HSet.out.mono ?_; clear HSet; rintro e w5 ⟨rfl, hb5, ha5, hc5⟩; have HB5 := Lib.hid (HBw.out.trans hb5); have HRk5 := Lib.hid (ha5.blk HRk2.out HNeq.out); have HM5 := Lib.hid (HM2.out.asd ha5 HNm.out.1); have HC5 := Lib.hid hc5; clear hb5 ha5 hc5)
                    | (at_mapUpdate; refine wpList_putW _ rfl _ _ _ rfl m k seen rfl HM5.out (by have := HLn.out; unfold maxLen; omega) wd (congrArg Value.string HWd.out) rfl (by have := HLx2.out; have := HLx.out; have := HLn.out; unfold maxLen; omega) ?_; intro w6 hm6 hg6; have HM6 := Lib.hid hm6; have HB6 := Lib.hid (HB5.out.grown hg6 HB5.out.size (fun k' hk' => by have h1 := Option.some.inj hk'; have := HRg.out; omega)); have HRk6 := Lib.hid (HRk5.out.grown hg6 (fun e => HNm.out.2 (Option.some.inj e))); have HC6 := Lib.hid (HC5.out.grown_map HM5.out hg6 (fun e => HNm.out.1 e.symm)); clear hm6 hg6))
                  go_roundw
                  case rel => exact ⟨r, bz r, k + 1, c', wd :: seen, rfl, Lib.hid rfl, (by have := HLn.out; go_num), Lib.hid (by have := HLn.out; have := HRl.out; omega), HStep, HC6, HM6, HRk6, HB6⟩
                  case measure =>
                    show (bz r).size < SR.size
                    rw [HSR.out, bz_size, bz_size]
                    exact HRl.out
              · rw [decide_eq_false hj] at e2
                have HBd := Lib.hid (show Cf.parseC l = .bad k wd from by rw [HGo2.out, Cf.goC_fail (Tx.split1_ne 10 r) (by rw [HLc.out, if_pos (.inr (.inr ⟨fun h => absurd hk0 h, fun h => absurd h hj⟩))]), HCd2.out])
                clear hk0 hj hsn
                go_wp2_with (go_at_call 75; refine (HWr.out _).mono ?_; rintro e w3 ⟨g3, rfl, hv3, hb3⟩; have HB3 := Lib.hid (HBw.out.andThen hb3); have HV3 := Lib.hid hv3; have HRk3 := Lib.hid (HRk2.out.keep hb3); have q0 := HRk3.out.cell 0; have q1 := HRk3.out.cell 1; have q2 := HRk3.out.cell 2; have q3 := HRk3.out.cell 3; have q4 := HRk3.out.cell 4; have q5 := HRk3.out.cell 5; have f0 := HRk3.out.frozen 0; have f1 := HRk3.out.frozen 1; have f2 := HRk3.out.frozen 2; have f3 := HRk3.out.frozen 3; have f4 := HRk3.out.frozen 4; have f5 := HRk3.out.frozen 5; simp at q0 q1 q2 q3 q4 q5; clear hb3 hv3)
                have hx := six_blk HRk3.out 0 0 0 0 0 (.slice none 0 0)
                have x0 := hx.cell 0
                have x1 := hx.cell 1
                have x2 := hx.cell 2
                have x3 := hx.cell 3
                have x4 := hx.cell 4
                have x5 := hx.cell 5
                simp at x0 x1 x2 x3 x4 x5
                refine bodyPost_ret (v := .tuple #[conf0, .iface 111 (.pointer (some ⟨g3, 0, none⟩))]) (by simp [results, Tryz.results43, go_sem, x0, x1, x2, x3, x4, x5]) rfl ?_
                exact cf_bad HRg.out.1 HB3.out HRk3.out HV3.out HWd.out HBd.out
            · have e1 : ((k : Int) == 0) = false := by simp [hk0]
              by_cases hj : wd = Cf.wJob
              · rw [decide_eq_true hj] at e2
                have HBd := Lib.hid (show Cf.parseC l = .bad k wd from by rw [HGo2.out, Cf.goC_fail (Tx.split1_ne 10 r) (by rw [HLc.out, if_pos (.inr (.inr ⟨fun _ => hj, fun _ => hk0⟩))]), HCd2.out])
                clear hk0 hj hsn
                go_wp2_with (go_at_call 75; refine (HWr.out _).mono ?_; rintro e w3 ⟨g3, rfl, hv3, hb3⟩; have HB3 := Lib.hid (HBw.out.andThen hb3); have HV3 := Lib.hid hv3; have HRk3 := Lib.hid (HRk2.out.keep hb3); have q0 := HRk3.out.cell 0; have q1 := HRk3.out.cell 1; have q2 := HRk3.out.cell 2; have q3 := HRk3.out.cell 3; have q4 := HRk3.out.cell 4; have q5 := HRk3.out.cell 5; have f0 := HRk3.out.frozen 0; have f1 := HRk3.out.frozen 1; have f2 := HRk3.out.frozen 2; have f3 := HRk3.out.frozen 3; have f4 := HRk3.out.frozen 4; have f5 := HRk3.out.frozen 5; simp at q0 q1 q2 q3 q4 q5; clear hb3 hv3)
                have hx := six_blk HRk3.out 0 0 0 0 0 (.slice none 0 0)
                have x0 := hx.cell 0
                have x1 := hx.cell 1
                have x2 := hx.cell 2
                have x3 := hx.cell 3
                have x4 := hx.cell 4
                have x5 := hx.cell 5
                simp at x0 x1 x2 x3 x4 x5
                refine bodyPost_ret (v := .tuple #[conf0, .iface 111 (.pointer (some ⟨g3, 0, none⟩))]) (by simp [results, Tryz.results43, go_sem, x0, x1, x2, x3, x4, x5]) rfl ?_
                exact cf_bad HRg.out.1 HB3.out HRk3.out HV3.out HWd.out HBd.out
              · rw [decide_eq_false hj] at e2
                have hno : ¬ (true = false ∨ wd ∈ seen ∨ (k ≠ 0 ↔ wd = Cf.wJob)) := by rintro (h | h | h); cases h; exact hsn h; exact hj (h.1 hk0)
                clear hk0 hj hsn
                have HSt := Lib.hid (Set_any c wd tx g w.heap.size w2 (by have := HRg.out; omega) HC2.out (by have := HLx2.out; have := HLx.out; have := HLn.out; omega) (HL.out.keep HBw.out) (HT.out.keep HBw.out))
                rw [← HWd.out] at HSt
                have HNeq := Lib.hid (show R ≠ g from by have := HRg.out; omega)
                cases hst : Cf.setC c wd tx with
                | none =>
                  have HSet := Lib.hid (show Calls Tryz.prog 74 #[.pointer (some ⟨g, 0, none⟩), .string WD, .string (bz tx)] w2 fun e w' => e = .returned (.bool false) ∧ Below w.heap.size w2 w' ∧ Asd g w2 w' from HSt.out.mono fun e w' ⟨b, h1, h2, h3, h4⟩ => by
                    rcases h4 with ⟨_, c', h, _⟩ | ⟨rfl, _⟩
                    · rw [hst] at h; cases h
                    · exact ⟨h1, h2, h3⟩)
                  have HBd := Lib.hid (show Cf.parseC l = .bad k wd from by rw [HGo2.out, Cf.goC_fail (Tx.split1_ne 10 r) (by rw [HLc.out, if_neg hno, hst]), HCd2.out])
                  clear HSt hst hno
                  go_wp2_with (first | (go_at_call 74; refine HSet.out.mono ?_; clear HSet; rintro e w5 ⟨rfl, hb5, ha5⟩; replace HBw := Lib.hid (HBw.out.trans hb5); replace HRk2 := Lib.hid (ha5.blk HRk2.out HNeq.out); clear hb5 ha5) | (go_at_call 75; refine (HWr.out _).mono ?_; rintro e w3 ⟨g3, rfl, hv3, hb3⟩; have HB3 := Lib.hid (HBw.out.andThen hb3); have HV3 := Lib.hid hv3; have HRk3 := Lib.hid (HRk2.out.keep hb3); have q0 := HRk3.out.cell 0; have q1 := HRk3.out.cell 1; have q2 := HRk3.out.cell 2; have q3 := HRk3.out.cell 3; have q4 := HRk3.out.cell 4; have q5 := HRk3.out.cell 5; have f0 := HRk3.out.frozen 0; have f1 := HRk3.out.frozen 1; have f2 := HRk3.out.frozen 2; have f3 := HRk3.out.frozen 3; have f4 := HRk3.out.frozen 4; have f5 := HRk3.out.frozen 5; simp at q0 q1 q2 q3 q4 q5; clear hb3 hv3))
                  have hx := six_blk HRk3.out 0 0 0 0 0 (.slice none 0 0)
                  have x0 := hx.cell 0
                  have x1 := hx.cell 1
                  have x2 := hx.cell 2
                  have x3 := hx.cell 3
                  have x4 := hx.cell 4
                  have x5 := hx.cell 5
                  simp at x0 x1 x2 x3 x4 x5
                  refine bodyPost_ret (v := .tuple #[conf0, .iface 111 (.pointer (some ⟨g3, 0, none⟩))]) (by simp [results, Tryz.results43, go_sem, x0, x1, x2, x3, x4, x5]) rfl ?_
                  exact cf_bad HRg.out.1 HB3.out HRk3.out HV3.out HWd.out HBd.out
                | some c' =>
                  have HSet := Lib.hid (show Calls Tryz.prog 74 #[.pointer (some ⟨g, 0, none⟩), .string WD, .string (bz tx)] w2 fun e w' => e = .returned (.bool true) ∧ Below w.heap.size w2 w' ∧ Asd g w2 w' ∧ CfAt w' g c' from HSt.out.mono fun e w' ⟨b, h1, h2, h3, h4⟩ => by
                    rcases h4 with ⟨rfl, c'', h, h5⟩ | ⟨_, h⟩
                    · rw [hst] at h; cases h; exact ⟨h1, h2, h3, h5⟩
                    · rw [hst] at h; cases h)
                  have HStep := Lib.hid (show Cf.parseC l = Cf.goC (Tx.split1 10 r) c' (wd :: seen) (k + 1) from by rw [HGo2.out, Cf.goC_step (Tx.split1_ne 10 r) (by rw [HLc.out, if_neg hno, hst]), HCd2.out])
                  have HNm := Lib.hid (show m ≠ g ∧ R ≠ m from by have := HRg.out; omega)
                  clear HSt hst hno
                  have hk9 : (k : Int) ≤ 262144 := by have := HLn.out; omega
                  have hk8 : (0 : Int) ≤ (k : Int) := by omega
                  have hwr : IntKind.i64.wrap ((k : Int) + 1) = (k : Int) + 1 := by rw [IntKind.wrap_i64]; omega
                  go_wp2_with (first
                    | (go_at_call 74; refine HSet.out.mono ?_; clear HSet; rintro e w5 ⟨rfl, hb5, ha5, hc5⟩; have HB5 := Lib.hid (HBw.out.trans hb5); have HRk5 := Lib.hid (ha5.blk HRk2.out HNeq.out); have HM5 := Lib.hid (HM2.out.asd ha5 HNm.out.1); have HC5 := Lib.hid hc5; clear hb5 ha5 hc5)
                    | (at_mapUpdate; refine wpList_putW _ rfl _ _ _ rfl m k seen rfl HM5.out (by have := HLn.out; unfold maxLen; omega) wd (congrArg Value.string HWd.out) rfl (by have := HLx2.out; have := HLx.out; have := HLn.out; unfold maxLen; omega) ?_; intro w6 hm6 hg6; have HM6 := Lib.hid hm6; have HB6 := Lib.hid (HB5.out.grown hg6 HB5.out.size (fun k' hk' => by have h1 := Option.some.inj hk'; have := HRg.out; omega)); have HRk6 := Lib.hid (HRk5.out.grown hg6 (fun e => HNm.out.2 (Option.some.inj e))); have HC6 := Lib.hid (HC5.out.grown_map HM5.out hg6 (fun e => HNm.out.1 e.symm)); clear hm6 hg6))
                  go_roundw
                  case rel => exact ⟨r, bz r, k + 1, c', wd :: seen, rfl, Lib.hid rfl, (by have := HLn.out; go_num), Lib.hid (by have := HLn.out; have := HRl.out; omega), HStep, HC6, HM6, HRk6, HB6⟩
                  case measure =>
                    show (bz r).size < SR.size
                    rw [HSR.out, bz_size, bz_size]
                    exact HRl.out
end Go.Proofs.YtapledphhfiimaaGreatDoor
/-
  slices.Clip, Clone, Grow, Concat at ints; append onto a slice that is cut to its length.
-/
namespace Go.Proofs.YtapledphhfiimaaGreatDoor
open Go.RowKit Go.Shelf
set_option maxRecDepth 100000
set_option linter.unusedVariables false

section
variable {P : Program} {ops : Array Oper} {o : Oper} {a : Act} {Q : Exit → Act → World → Prop}
/-- append(s[:n:n], x...): a new row. -/
theorem run_full {t ty e : TypeId} {z : Value} {size bytes : Nat} (E : Elem P t e z size bytes) {W : World}
    {A : Option Addr} {n : Nat} {xs : List Value} (hxs : Sl W size A n xs) (hA : A = none → n = 0)
    {b off m c : Nat} {ys : List Value} (hy : Sl W size (some ⟨b, off, none⟩) m ys) (hm : 0 < m) (h1 : ∀ u ∈ ys, u.oneCell' = true)
    (hlim : (n + m) * bytes ≤ lim) (hlim' : n + m ≤ lim) :
    ∃ v' w', (Builtin.append_ #[t, t] ty #[.slice A n n, .slice (some ⟨b, off, none⟩) m c]).run P W = .ok v' w' ∧ w'.ownsRow W.heap.size e size v' (n + m) (xs ++ ys) ∧ Below W.heap.size W w' := by
  obtain ⟨i, hi, hz, hsize, hby⟩ := info_parts E.hi
  unfold lim at hlim hlim'
  have hadd : ∀ (b off j : Nat), (⟨b, off, none⟩ : Addr).add j = ⟨b, off + j, none⟩ := fun b off j => by unfold Addr.add; split <;> simp_all
  obtain ⟨b1, off1, h2, hc⟩ := hy.2 hm
  injection h2 with h2
  injection h2 with h2 h3 _
  subst h2 h3
  have hc' : ∀ j u, ys[j]? = some u → W.cell? ((⟨b, off, none⟩ : Addr).add j) = some u := fun j u hu => by rw [hadd]; exact hc j u hu
  rcases A with _ | A
  · obtain rfl : n = 0 := hA rfl
    obtain rfl : xs = [] := List.eq_nil_of_length_eq_zero (by simpa using hxs.1)
    obtain ⟨v', w', hr, h2, h3, _⟩ := run_append_own (P := P) W W.heap.size t ty e i z size bytes E.ht hi hz hsize hby E.hzs E.hsz (.slice none 0 0) 0 [] (World.ownsRow_nil W _ e size) ⟨b, off, none⟩ m c ys hy.1 hc' h1 (by unfold maxLen; omega) hlim (Nat.le_refl _)
    exact ⟨v', w', hr, h2, h3.os, h3.tape, h3.output, h3.size, fun k hk => h3.block k hk (fun e => by cases e)⟩
  · obtain ⟨v', w', hr, h2, h3⟩ := run_append_arg_grows (P := P) W t ty e i z size bytes E.ht hi hz hsize hby E.hzs E.hsz A n n xs hxs.1 (fun j u hu => by
      have hn : 0 < n := by
        have := (List.getElem?_eq_some_iff.1 hu).1
        rw [hxs.1] at this
        exact Nat.pos_of_ne_zero fun h => by rw [h, Nat.zero_mul] at this; omega
      obtain ⟨b2, off2, h2, h3⟩ := hxs.2 hn
      cases h2
      rw [hadd]; exact h3 j u hu) ⟨b, off, none⟩ m c ys hy.1 hc' (by omega) (by unfold maxLen; omega) hlim
    exact ⟨v', w', hr, h2, h3.os, h3.tape, h3.output, h3.size, fun k hk => h3.block k hk (fun e => by cases e)⟩
/-- The same as a step of a region that draws its order. -/
theorem step_full {t e : TypeId} {z : Value} {size bytes : Nat} (E : Elem P t e z size bytes) {W : World} {K : Act → World → Prop} {L : Prop} (s x : Operand)
    (hgd : o.guard = none) (ho : o.op = .call { callee := .builtin .append, args := #[s, x], argTypes := #[t, t] })
    {A : Option Addr} {n : Nat} {xs : List Value} (hxs : Sl W size A n xs) (hA : A = none → n = 0)
    {b off m c : Nat} {ys : List Value} (hy : Sl W size (some ⟨b, off, none⟩) m ys) (hm : 0 < m)
    (hs : a.eval s = .slice A n n) (hx : a.eval x = .slice (some ⟨b, off, none⟩) m c) (h1 : ∀ u ∈ ys, u.oneCell' = true)
    (hlim : (n + m) * bytes ≤ lim) (hlim' : n + m ≤ lim)
    (h : ∀ v' w', w'.ownsRow W.heap.size e size v' (n + m) (xs ++ ys) → Below W.heap.size W w' → K (a.put o.dst v') w') :
    if Region.wanted o (yielded ops a.tmps) = true then Oper.wp P o a W K Q else L := by
  have hw : Region.wanted o (yielded ops a.tmps) = true := by simp [Region.wanted, hgd]
  rw [if_pos hw]
  obtain ⟨v', w', hr, h2, h3⟩ := run_full (P := P) (ty := o.type) (c := c) E hxs hA hy hm h1 hlim hlim'
  unfold Oper.wp execOp
  simp only [ho, resolve, invoke, builtin, Sem.run_bind, Sem.run_pure, Result.andThen_ok, List.map_toArray, List.map_cons, List.map_nil, hs, hx, hr]
  exact h v' w' h2 h3
end

set_option maxHeartbeats 2000000 in
theorem CloneI_own (l : List Int) (A : Option Addr) (n c : Nat) (w : World) (hl : l.length = n) (hn : n ≤ 1099511627776) (hs : Sl w 1 A n (l.map (Value.int .i64))) :
    Calls Tryz.prog 78 #[.slice A n c] w fun e w' => ∃ v, e = .returned v ∧ w'.ownsRow w.heap.size 3 1 v n (l.map (Value.int .i64)) ∧ Below w.heap.size w w' := by
  have nn := fun (w : World) (a : Option Addr) (n c : Nat) => Lib.run_eql_slice_nil (P := Tryz.prog) w 23 3 a n c 0 0 Tryz.underlying23
  have HS := Lib.hid hs
  go_enter Tryz.func78, Tryz.ntmps78
  rcases A with _ | A
  · have hn0 : n = 0 := by
      rcases Nat.eq_zero_or_pos n with h | h
      · exact h
      · obtain ⟨_, _, h, _⟩ := hs.2 h; cases h
    subst hn0
    clear hs
    go_wp2_with fail
    go_ret
    obtain rfl := List.eq_nil_of_length_eq_zero hl
    exact ⟨_, rfl, World.ownsRow_nil _ _ _ _, Below.refl _ _⟩
  · have hbA := bel_al (Below.refl w.heap.size w) (.cells #[] 3)
    have HOE := Lib.hid (World.ownsRow_made (e := 3) (size := 1) w #[] 0 (Nat.le_refl _) (Nat.zero_le _) rfl)
    have HBA := Lib.hid hbA
    have SPA := Lib.hid (HS.out.keep hbA)
    clear hs hbA
    go_wp2_with (at_builtin; refine wpList_cat_at elemInt _ _ rfl rfl HOE.out HBA.out.size SPA.out rfl rfl (one_i64 _) (by unfold lim; omega) (by unfold lim; omega) ?_; intro v8 w8 hown8 hg8; have HO8 := Lib.hid hown8; have HB8 := Lib.hid (HBA.out.trans (hg8.belowOwn HBA.out.size HOE.out)); clear hown8 hg8 HOE HBA SPA)
    go_ret
    have hown := HO8.out
    rw [List.nil_append, Nat.zero_add] at hown
    exact ⟨_, rfl, hown, HB8.out⟩
theorem CloneI_any (l : List Int) (A : Option Addr) (n c : Nat) (w : World) (hl : l.length = n) (hn : n ≤ 1099511627776) (hs : Sl w 1 A n (l.map (Value.int .i64))) :
    Calls Tryz.prog 78 #[.slice A n c] w fun e w' => ∃ C k, e = .returned (.slice C n k) ∧ Sl w' 1 C n (l.map (Value.int .i64)) ∧ (n ≤ k ∧ k ≤ 9223372036854775807) ∧ Below w.heap.size w w' :=
  (CloneI_own l A n c w hl hn hs).mono fun e w' ⟨v, he, hown, hb⟩ => by
    obtain ⟨C, k, rfl, hsl⟩ := Sl.own hown
    exact ⟨C, k, he, hsl, own_cap hown, hb⟩

/-- All that some lists hold. -/
def flat (L : List (Option Addr × Nat × List Int)) : List Int := L.flatMap (·.2.2)
theorem flat_snoc {L : List (Option Addr × Nat × List Int)} {k : Nat} {D : Option Addr} {d : Nat} {l : List Int} (h : L[k]? = some (D, d, l)) : flat (L.take (k + 1)) = flat (L.take k) ++ l := by
  obtain ⟨hk, he⟩ := List.getElem?_eq_some_iff.1 h
  unfold flat
  rw [List.take_succ_eq_append_getElem hk, List.flatMap_append, he]; simp
theorem flat_part (L : List (Option Addr × Nat × List Int)) (k : Nat) : (flat (L.take k)).length ≤ (flat L).length := by
  have h : flat L = flat (L.take k) ++ flat (L.drop k) := by unfold flat; rw [← List.flatMap_append, List.take_append_drop]
  rw [h, List.length_append]; omega

end Go.Proofs.YtapledphhfiimaaGreatDoor
