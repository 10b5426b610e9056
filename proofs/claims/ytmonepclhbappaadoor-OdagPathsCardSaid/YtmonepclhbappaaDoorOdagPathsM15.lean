/-
  Part 15 of the proof of OdagPaths: OdagPaths.
-/
import Derived.BigQuiet
import Derived.Deep.DeepCutAuto
import Derived.Test.YtmonepclhbappaaDoorOdagPathsM7
import Derived.Test.YtmonepclhbappaaDoorOdagPathsM11
import Derived.Test.YtmonepclhbappaaDoorOdagPathsM12
import Derived.Test.YtmonepclhbappaaDoorOdagPathsM13
import Derived.Test.YtmonepclhbappaaDoorOdagPathsM14
import Derived.Test.YtmonepclhbappaaDoorOdagPathsM5
/-
  OdagPaths.
-/
namespace Go.Proofs.YtmonepclhbappaaDoor
open Go.RowKit Go.Maps
attribute [local go_sem] Oper.semAt_some
set_option maxRecDepth 100000
set_option linter.unusedVariables false

theorem OdOK.rw {od : List Rw} {N : Nat} (h : OdOK od N) : ∀ r ∈ od, RwOK r := fun r hr => ⟨(h.B r hr).1, fun q hq => ⟨⟨by have := (h.Nu r hr q hq).1; unfold numOK at this; omega, by have := (h.Nu r hr q hq).1; unfold numOK at this; omega⟩, (h.B r hr).2 q hq⟩⟩
theorem allP_num {od : List Rw} {N : Nat} (h : OdOK od N) {p : List Int} (hp : p ∈ allP od) : ∀ x ∈ p, numOK x := fun x hx => by
  obtain ⟨i, hi, rfl⟩ := List.mem_iff_getElem.1 hx
  have hl := h.P p hp
  have h1 := path_link (by rw [h.len]; exact h.h1) hp (List.getElem?_eq_getElem hi)
  have hti : (p.take i).length = i := by rw [List.length_take]; omega
  have h2 := next_keys h.C (by rw [hti, h.len]; omega) _ h1
  rw [hti] at h2
  obtain ⟨q, hq, e⟩ := List.mem_map.1 h2
  rw [← e]
  exact (h.Nu _ (getD_memO (by rw [h.len]; omega)) q hq).1
/-- What holds while the paths are held against those put down. -/
def NtI (w7 : World) (k : Nat) (W : World) : Prop := Below w7.heap.size w7 W ∧ Blk W w7.heap.size 3 #[.int .i64 (k : Int)]
theorem NtI.own {w7 : World} {n : Nat} {β : Type} (f : β → Nat) (hn : w7.heap.size ≤ n) : OwnFrom n (fun (pre : β) W => NtI w7 (f pre) W) := ownFrom_of fun s A B row ⟨h1, h2⟩ hg hr hge =>
  ⟨bel_gb h1 (Nat.le_refl _) hg (fun r e => Nat.le_trans hn (hge r e)), blk_gb h2 hg hr⟩

set_option maxHeartbeats 32000000 in
theorem OdagPaths_walk (a : Int) (its : List (Option Addr × Nat × List Int)) (Q : Option Addr) (m cq : Nat) (st : Nat) (w : World) (hg : ErrT w) (hm : its.length = m) (hq : Sl w 1 Q m (its.map rv)) (hr : AllRows w its) (hst : st < 256) :
    Calls Tryd.prog 5 #[.int .i64 a, .slice Q m cq, .int .u8 (st : Int)] w fun e w' => e = .returned (.bool true) ∧ Below w.heap.size w w' := by
  have HQ := Lib.hid hq
  have HR := Lib.hid hr
  have HM := Lib.hid hm
  have HG := Lib.hid hg
  have HSt := Lib.hid hst
  clear hq hr hm hg hst
  refine (callsIn_wide (n := 5)).1 ?_
  refine callsIn_of_wp_marks Tryd.func5 rfl trivial ?_ rfl
  simp only [Tryd.ntmps5, List.size_toArray, List.length_cons, List.length_nil, Nat.reduceAdd, Nat.reduceSub, Array.replicate_succ, Array.replicate_zero, List.push_toArray, List.append_toArray, List.nil_append, List.cons_append]
  refine wpIn_wide.2 ?_
  go_upto_region 1 with (fail)
  obtain ⟨W0, hW0⟩ : ∃ W0, (w.alloc (.cells #[.int .u8 (st : Int)] 5)).alloc (.cells #[.bool false] 4) = W0 := ⟨_, rfl⟩
  have hb0 : Below w.heap.size w W0 := by rw [← hW0]; exact bel_al (bel_al (Below.refl _ _) _) _
  have hf0 : Blk W0 w.heap.size 5 #[.int .u8 (st : Int)] := by rw [← hW0]; exact (Blk.new w _ _).alloc _
  have hx0 : Blk W0 (w.heap.size + 1) 4 #[.bool false] := by
    have := Blk.new (w.alloc (.cells #[.int .u8 (st : Int)] 5)) 4 #[.bool false]
    rw [World.size_alloc, hW0] at this
    exact this
  rw [hW0]
  clear hW0
  have HB0 := Lib.hid hb0
  have HF0 := Lib.hid hf0
  have HX0 := Lib.hid hx0
  clear hb0 hf0 hx0
  have HAl := Lib.hid (alive13 W0 (HG.out.keep HB0.out))
  go_upto_region 3 with (go_at_call 20; refine HAl.out.mono ?_; clear HAl; rintro e w1 ⟨rfl, hb1⟩; have HB1 := Lib.hid hb1; clear hb1)
  have HMd := Lib.hid ((Made_any a its Q m cq w1 HM.out ((HQ.out.keep HB0.out).keep HB1.out) ((HR.out.keep HB0.out).keep HB1.out)).mono (R' := fun e w3 => ∃ (pv : Value) (bv : Bool), e = .returned (.tuple #[pv, .bool bv]) ∧ Below W0.heap.size W0 w3 ∧ (bv = true → ∃ n p : Nat, a = n ∧ 1 ≤ n ∧ n ≤ 5 ∧ m ≤ 12 ∧ Good n its ∧ pv = .pointer (some ⟨p, 0, none⟩) ∧ OdM w3 p (odOf n (its.map (·.2.2))))) (fun e w3 h => by
    rcases h with ⟨rfl, hb⟩ | ⟨n, p, h1, h2, h3, h4, h5, rfl, h6, hb⟩
    · exact ⟨_, _, rfl, HB1.out.andThen hb, fun h => by cases h⟩
    · exact ⟨_, _, rfl, HB1.out.andThen hb, fun _ => ⟨n, p, h1, h2, h3, h4, h5, rfl, h6⟩⟩))
  clear HB1
  go_upto_region 4 with (go_at_call 26; refine HMd.out.mono ?_; clear HMd; rintro e w3 ⟨pv, bv, rfl, hb, hd⟩; have HW := Lib.hid hb; have HD := Lib.hid hd; clear hb hd)
  have hX3 := HX0.out.keep HW.out
  have hW3 := HB0.out.andThen HW.out
  cases bv with
  | false =>
    have cx := hX3.cell 0
    have fx := hX3.frozen 0
    simp at cx
    go_wp2_with fail
    have hE := (hX3.set_ 0 (.bool true)).cell 0
    simp at hE
    exact mks0 rfl (v := .bool true) (by simp [results, Tryd.results5, go_sem, hE]) ⟨rfl, hW3.setCell (p := ⟨w.heap.size + 1, 0, none⟩) (by simp) _⟩
  | true =>
    obtain ⟨n, p, rfl, h1, h5, h12, hgd, rfl, hod⟩ := HD.out rfl
    have HOd := Lib.hid hod
    have HGd := Lib.hid hgd
    clear HD hod hgd
    by_cases h4 : 4 < n
    · have h4' : (4 : Int) < (n : Int) := by omega
      have cx := hX3.cell 0
      have fx := hX3.frozen 0
      simp at cx
      go_wp2_with fail
      have hE := (hX3.set_ 0 (.bool true)).cell 0
      simp at hE
      exact mks0 rfl (v := .bool true) (by simp [results, Tryd.results5, go_sem, hE]) ⟨rfl, hW3.setCell (p := ⟨w.heap.size + 1, 0, none⟩) (by simp) _⟩
    · have h4' : ¬ (4 : Int) < (n : Int) := by omega
      have hll : (its.map (·.2.2)).length ≤ 13 := by rw [List.length_map, HM.out]; omega
      have hlen : ∀ x ∈ its.map (·.2.2), x.length = n := fun x hx => by
        obtain ⟨t, ht, rfl⟩ := List.mem_map.1 hx
        exact (HGd.out t ht).1
      have hnum : ∀ x ∈ its.map (·.2.2), ∀ y ∈ x, numOK y := fun x hx => by
        obtain ⟨t, ht, rfl⟩ := List.mem_map.1 hx
        exact (HGd.out t ht).2
      have HOk := Lib.hid (odOf_ok n _ h1 h5 hll hlen hnum)
      have HLs := Lib.hid (fun x (hx : x ∈ its.map (·.2.2)) => ls_path h1 hlen hx)
      have HAg := Lib.hid (odOf_paths h1 hlen)
      have HX3 := Lib.hid hX3
      have HW3 := Lib.hid hW3
      have HF3 := Lib.hid (HF0.out.keep HW.out)
      have HQ3 := Lib.hid (HQ.out.keep hW3)
      have HR3 := Lib.hid (HR.out.keep hW3)
      obtain ⟨od, hod⟩ : ∃ od, od = odOf n (its.map (·.2.2)) := ⟨_, rfl⟩
      rw [← hod] at HOk HLs HAg HOd
      have HTl := Lib.hid (show (allP od).length ≤ 20736 from by
        have h := allP_pow (od := od) (K := 12) (by rw [hod]; exact fun r hr => (odOf_B n _ r hr).mono (by rw [List.length_map, HM.out]; exact h12)) (by rw [HOk.out.len]; exact h1)
        rw [HOk.out.len] at h
        have h6 : (12 : Nat) ^ n ≤ 12 ^ 4 := Nat.pow_le_pow_right (by omega) (by omega)
        have h7 : (12 : Nat) ^ 4 = 20736 := rfl
        omega)
      clear hod hlen hnum hll hX3 hW3 HF0 HX0 HB0 HW HQ HR
      go_upto_region 7 with (fail)
      obtain ⟨W6, hW6⟩ : ∃ W6, w3.alloc (.cells #[.slice none 0 0] 40) = W6 := ⟨_, rfl⟩
      have hb6 : Below w3.heap.size w3 W6 := by rw [← hW6]; exact bel_al (Below.refl _ _) _
      have ho6 : Blk W6 w3.heap.size 40 #[.slice none 0 0] := by rw [← hW6]; exact Blk.new w3 _ _
      have HS6 := Lib.hid (show W6.heap.size = w3.heap.size + 1 from by rw [← hW6]; simp)
      rw [hW6]
      clear hW6
      have HB6 := Lib.hid hb6
      have HO6 := Lib.hid ho6
      clear hb6 ho6
      go_wp2_with (go_at_call 23; refine (OdPaths_any (some ⟨p, 0, none⟩) _).mono ?_; rintro e w5x ⟨rfl, rfl⟩)
      obtain ⟨V5, hV5⟩ : ∃ V5, W6.alloc (.cells #[.pointer (some ⟨p, 0, none⟩)] 41) = V5 := ⟨_, rfl⟩
      have hb5 : Below W6.heap.size W6 V5 := by rw [← hV5]; exact bel_al (Below.refl _ _) _
      have hp5 : Blk V5 W6.heap.size 41 #[.pointer (some ⟨p, 0, none⟩)] := by rw [← hV5]; exact Blk.new W6 _ _
      rw [hV5]
      clear hV5
      have HB5 := Lib.hid (HB6.out.andThen hb5)
      have hsz5 : w3.heap.size ≤ V5.heap.size := HB5.out.size
      have HL5 := Lib.hid hb5.size
      refine (wpIn_wide (n := 5)).1 ?_
      refine rangeFunc_one (fun x b => { b with tmps := b.tmps.setIfInBounds 10 (rv x) }) rfl (by omega) (gf := 60) (lb := #[.pointer (some ⟨W6.heap.size, 0, none⟩)]) rfl trivial (enters_of Tryd.func60 (by kernel_rfl) rfl)
        (paths_gives (5 - 1) w3.heap.size W6.heap.size W6.heap.size p n od w3 V5 HOd.out HOk.out rfl hsz5 HL5.out HB5.out hp5) knE_put KT.trans (fun _ W l o o' hl ho hc _ => KT.putObj o' (Nat.le_trans hsz5 hl) ho hc) (Below.refl _ _)
        (OutI w3.heap.size W6.heap.size w3.heap.size w3 (allP od)) (fun _ _ _ => False) (OutI.own (Nat.le_refl _) hsz5) (fun c s A B row hs _ _ => hs.elim)
        ⟨HB5.out, ⟨_, HO6.out.keep hb5, World.ownsRow_nil _ _ _ _, (fun t h => by cases h), fun t h => by cases h⟩, fun i x hx => by cases hx⟩ ?assign ?body ?done ?stop
      case assign =>
        intro l x W K hK
        gi_wp2
        exact hK
      case stop =>
        rintro D c pre W _ _ h _
        exact h.elim
      case body =>
        rintro l pre ⟨D, d, P⟩ W ⟨i1, ⟨v, i2, i3, i4, i6⟩, i5⟩ ⟨hown, hG⟩ hlt
        have hP : P ∈ allP od := List.mem_of_getElem? hG
        have hPl : P.length = n := HOk.out.P P hP
        obtain ⟨gx, gc, hgx, hg5⟩ := own_form hown (by simp only; omega)
        have hDx : D = some ⟨gx, 0, none⟩ := by cases hgx; rfl
        have hgW : gx < W.heap.size := (hown.lt gx (by rw [hgx]; rfl)).2
        have hrow : RowOK W (D, d, P) := ⟨Sl.of_own hown, own_cap hown⟩
        have hnov : ∀ x : Addr, D = some x → x.block < W.heap.size ∧ some x.block ≠ v.ownBlock := fun x hx => by
          rw [hDx] at hx
          cases hx
          refine ⟨hgW, fun e => ?_⟩
          have e2 : v.ownBlock ≠ some gx := by
            rcases hown.2 with ⟨h7, _⟩ | ⟨g', cap, cur, h7, _, h8, _⟩
            · rw [hgx] at h7; cases h7
            · rw [hgx] at h7
              cases h7
              intro h9
              rcases i3.2 with ⟨rfl, _⟩ | ⟨g2, cap2, cur2, rfl, _, h10, _⟩
              · simp [Value.ownBlock] at h9
              · obtain rfl : g2 = gx := by simpa [Value.ownBlock] using h9
                rw [h8] at h10
                injection h10 with h10
                injection h10 with _ h11
                exact absurd h11 (by decide)
          exact e2 e.symm
        have HI1 := Lib.hid i1
        have HI2 := Lib.hid i2
        have HI3 := Lib.hid i3
        have HI4 := Lib.hid i4
        have HI5 := Lib.hid i5
        have HI6 := Lib.hid (show ∀ t ∈ pre ++ [(D, d, P)], ∀ x : Addr, t.1 = some x → W6.heap.size ≤ x.block from fun t ht x hx => by
          rcases List.mem_append.1 ht with ht | ht
          · exact i6 t ht x hx
          · rw [List.mem_singleton.1 ht] at hx
            have hx' : D = some x := hx
            rw [hDx] at hx'
            cases hx'
            exact Nat.le_trans HL5.out hg5)
        have HGp := Lib.hid hG
        have HRow := Lib.hid hrow
        have HNo := Lib.hid hnov
        have HPl := Lib.hid hPl
        have hWs : V5.heap.size ≤ W.heap.size := by omega
        have hl6 := HL5.out
        have hs6 := HS6.out
        have HSz := Lib.hid (show W6.heap.size ≤ W.heap.size ∧ w3.heap.size + 1 ≤ W6.heap.size from ⟨by omega, by omega⟩)
        have hpl : pre.length ≤ 100000000 := by have := HTl.out; omega
        obtain ⟨k, hk⟩ : ∃ k, k = pre.length := ⟨_, rfl⟩
        rw [← hk] at hpl HI3
        have HKk := Lib.hid hk
        clear i1 i2 i3 i4 i5 i6 hG hrow hnov hWs hl6 hs6 hown hgx hDx hgW hg5 hP hPl hlt hk
        simp only [rv, List.setIfInBounds_toArray, List.set_cons_succ, List.set_cons_zero]
        by_cases hk0 : k = 0
        · subst hk0
          obtain ⟨X, hX⟩ : ∃ X, X = W := ⟨_, rfl⟩
          have HBX := Lib.hid (show Below W.heap.size W X from by rw [hX]; exact Below.refl _ _)
          obtain ⟨A0, c0, rfl, _⟩ := Sl.own HI3.out
          have cv := HI2.out.cell 0
          have fb0 := HI2.out.frozen 0
          simp at cv
          subst hX
          gi_wp2
          refine ⟨trivial, ?_⟩
          gi_wp2_with (gi_at_builtin; refine wpListIn_cat_at elemIntsQ _ _ rfl rfl ((ownK HI3.out HBX.out).alloc _) (by have := HSz.out; have := HBX.out.size; simp; omega) (Sl.newAt X _ _ 1 rfl) rfl rfl (by simp [Value.oneCell']) (by unfold lim; omega) (by unfold lim; omega) ?_; intro v6 w6 hown6 hgr6; obtain ⟨g6, c6, rfl, _⟩ := own_form hown6 (by omega); have HO6x := Lib.hid hown6; have HG6 := Lib.hid hgr6; have fb := (((HI2.out.keep HBX.out).alloc (.cells #[.slice D P.length d] 22)).others ((ownK HI3.out HBX.out).alloc (.cells #[.slice D P.length d] 22)) hgr6.g (by decide)).frozen 0; have cb := (((HI2.out.keep HBX.out).alloc (.cells #[.slice D P.length d] 22)).others ((ownK HI3.out HBX.out).alloc (.cells #[.slice D P.length d] 22)) hgr6.g (by decide)).cell 0; simp at cb; clear hown6 hgr6)
          obtain ⟨v6, hv6⟩ : ∃ v6, v6 = Value.slice (some ⟨g6, 0, none⟩) (0 + 1) c6 := ⟨_, rfl⟩
          rw [← hv6] at HO6x HG6 ⊢
          clear hv6
          have hI3a := (ownK HI3.out HBX.out).alloc (.cells #[.slice D P.length d] 22)
          have hI2a := ((HI2.out.keep HBX.out).alloc (.cells #[.slice D P.length d] 22)).others hI3a HG6.out.g (by decide)
          have hgr := HG6.out.after_alloc
          have hsz := HSz.out
          have hXz := HBX.out.size
          have hbx : Below w3.heap.size X w6 := hgr.below (by omega) (fun k hk => by have := ((ownK HI3.out HBX.out).lt k hk).1; omega)
          have hne6 : ∀ g, v6.ownBlock = some g → g ≠ w3.heap.size := fun g hg e => own_notBlk HO6x.out hI2a (by decide) (by rw [hg, e])
          have hset := Below.setCell hbx (p := ⟨w3.heap.size, 0, none⟩) (by simp) v6
          refine ⟨(((ko_belowE HBX.out).trans (KeepsOthers.alloc X _)).trans (ko_cat hI3a HG6.out)).trans (KeepsOthers.setCell _ _ _), ?_, ?_⟩
          · exact (((KT.of_below HBX.out (by omega)).trans (KT.of_below (bel_al (Below.refl _ _) _) (by omega))).trans (KT.cat hI3a HG6.out (by simp; omega) (by omega))).trans (KT.set _ (by omega) (by omega))
          · refine ⟨(HI1.out.trans (HBX.out.mono (by omega))).trans hset, ⟨v6, hI2a.set_ 0 v6, ?_, ?_, HI6.out⟩, getI_snoc HI5.out HGp.out⟩
            · have h := own_block HO6x.out (w' := w6.setCell ⟨w3.heap.size, 0, none⟩ v6) fun g hg => Below.heap_setCell _ _ _ _ (hne6 g hg)
              rw [List.length_append, List.map_append, ← HKk.out]
              exact h
            · have h := RowsOK.grow (RowsOK.snoc (HI4.out.keep HBX.out) ⟨HRow.out.keep HBX.out, fun x hx => ⟨Nat.lt_of_lt_of_le (HNo.out x hx).1 hXz, (HNo.out x hx).2⟩⟩) hgr
              intro t ht
              obtain ⟨h1, h2⟩ := h t ht
              refine ⟨⟨?_, h1.2⟩, fun x hx => ⟨by rw [World.size_setCell]; exact (h2 x hx).1, (h2 x hx).2⟩⟩
              refine sl_far h1.1 (fun a ha e => ?_) _
              have h8 := HI6.out t ht a ha
              have e' : a.block = w3.heap.size := e
              omega
        · obtain ⟨kk, rfl⟩ : ∃ kk, k = kk + 1 := ⟨k - 1, by omega⟩
          obtain ⟨g0, c0, rfl, _⟩ := own_form HI3.out (by omega)
          obtain ⟨⟨D0, d0, P0⟩, hx0⟩ : ∃ x0, pre[kk]? = some x0 := ⟨_, List.getElem?_eq_getElem (by have := HKk.out; omega)⟩
          have hg0 := HI5.out kk _ hx0
          have HCm := Lib.hid (show cmpL P0 P = -1 from by
            obtain ⟨b1, e1⟩ := List.getElem?_eq_some_iff.1 hg0
            have h2 := HGp.out
            rw [← HKk.out] at h2
            obtain ⟨b2, e2⟩ := List.getElem?_eq_some_iff.1 h2
            have h3 := List.pairwise_iff_getElem.1 (allP_rise HOk.out.S (by rw [HOk.out.len]; exact HOk.out.h1)) kk (kk + 1) b1 b2 (by omega)
            rw [e1, e2] at h3
            exact h3)
          have hr0 := (HI4.out _ (List.mem_of_getElem? hx0)).1
          have hs3 : Sl W 1 (some ⟨g0, 0, none⟩) (kk + 1) (pre.map rv) := Sl.of_own HI3.out
          have cl := hs3.again (show kk < kk + 1 by omega) (show (pre.map rv)[kk]? = some (rv (D0, d0, P0)) by rw [List.getElem?_map, hx0]; rfl)
          simp only [rv, Nat.zero_add] at cl
          have HCp := Lib.hid ((RefCompare_any P0 P D0 D P0.length P.length d0 d W rfl rfl hr0.1 HRow.out.1 (by have := HOk.out.P P0 (List.mem_of_getElem? hg0); have := HOk.out.h8; omega)))
          rw [HCm.out] at HCp
          have cv := HI2.out.cell 0
          have fb0 := HI2.out.frozen 0
          simp at cv
          have hkw : IntKind.i64.wrap ((kk : Int) + 1 - 1) = (kk : Int) := by rw [IntKind.wrap_i64]; omega
          have hk1 : (0 : Int) < (kk : Int) + 1 := by omega
          have hk2 : (kk : Int) < (kk : Int) + 1 := by omega
          have hk3 : (0 : Int) ≤ (kk : Int) := by omega
          clear hx0 hg0 hr0 hs3
          gi_wp2_with (first
            | ((try refine ⟨trivial, ?_⟩); (try refine ⟨fun h => (by cases h), ?_⟩); gi_at_call 27; refine (CallsIn.inRound l (callsIn_wide.2 HCp.out)).mono ?_; clear HCp cl cv fb0; rintro e X ⟨rfl, hb⟩; have cv := (HI2.out.keep hb).cell 0; simp at cv; have HBX := Lib.hid hb; clear hb)
            | (gi_at_builtin; refine wpListIn_cat_at elemIntsQ _ _ rfl rfl ((ownK HI3.out HBX.out).alloc _) (by have := HSz.out; have := HBX.out.size; simp; omega) (Sl.newAt X _ _ 1 rfl) rfl rfl (by simp [Value.oneCell']) (by unfold lim; omega) (by unfold lim; omega) ?_; intro v6 w6 hown6 hgr6; obtain ⟨g6, c6, rfl, _⟩ := own_form hown6 (by omega); have HO6x := Lib.hid hown6; have HG6 := Lib.hid hgr6; have fb := (((HI2.out.keep HBX.out).alloc (.cells #[.slice D P.length d] 22)).others ((ownK HI3.out HBX.out).alloc (.cells #[.slice D P.length d] 22)) hgr6.g (by decide)).frozen 0; have cb := (((HI2.out.keep HBX.out).alloc (.cells #[.slice D P.length d] 22)).others ((ownK HI3.out HBX.out).alloc (.cells #[.slice D P.length d] 22)) hgr6.g (by decide)).cell 0; simp at cb; clear hown6 hgr6))
          obtain ⟨v6, hv6⟩ : ∃ v6, v6 = Value.slice (some ⟨g6, 0, none⟩) (kk + 1 + 1) c6 := ⟨_, rfl⟩
          rw [← hv6] at HO6x HG6 ⊢
          clear hv6
          have hI3a := (ownK HI3.out HBX.out).alloc (.cells #[.slice D P.length d] 22)
          have hI2a := ((HI2.out.keep HBX.out).alloc (.cells #[.slice D P.length d] 22)).others hI3a HG6.out.g (by decide)
          have hgr := HG6.out.after_alloc
          have hsz := HSz.out
          have hXz := HBX.out.size
          have hbx : Below w3.heap.size X w6 := hgr.below (by omega) (fun k hk => by have := ((ownK HI3.out HBX.out).lt k hk).1; omega)
          have hne6 : ∀ g, v6.ownBlock = some g → g ≠ w3.heap.size := fun g hg e => own_notBlk HO6x.out hI2a (by decide) (by rw [hg, e])
          have hset := Below.setCell hbx (p := ⟨w3.heap.size, 0, none⟩) (by simp) v6
          refine ⟨(((ko_belowE HBX.out).trans (KeepsOthers.alloc X _)).trans (ko_cat hI3a HG6.out)).trans (KeepsOthers.setCell _ _ _), ?_, ?_⟩
          · exact (((KT.of_below HBX.out (by omega)).trans (KT.of_below (bel_al (Below.refl _ _) _) (by omega))).trans (KT.cat hI3a HG6.out (by simp; omega) (by omega))).trans (KT.set _ (by omega) (by omega))
          · refine ⟨(HI1.out.trans (HBX.out.mono (by omega))).trans hset, ⟨v6, hI2a.set_ 0 v6, ?_, ?_, HI6.out⟩, getI_snoc HI5.out HGp.out⟩
            · have h := own_block HO6x.out (w' := w6.setCell ⟨w3.heap.size, 0, none⟩ v6) fun g hg => Below.heap_setCell _ _ _ _ (hne6 g hg)
              rw [List.length_append, List.map_append, ← HKk.out]
              exact h
            · have h := RowsOK.grow (RowsOK.snoc (HI4.out.keep HBX.out) ⟨HRow.out.keep HBX.out, fun x hx => ⟨Nat.lt_of_lt_of_le (HNo.out x hx).1 hXz, (HNo.out x hx).2⟩⟩) hgr
              intro t ht
              obtain ⟨h1, h2⟩ := h t ht
              refine ⟨⟨?_, h1.2⟩, fun x hx => ⟨by rw [World.size_setCell]; exact (h2 x hx).1, (h2 x hx).2⟩⟩
              refine sl_far h1.1 (fun a ha e => ?_) _
              have h8 := HI6.out t ht a ha
              have e' : a.block = w3.heap.size := e
              omega
      case done =>
        rintro D1 xs W hD hS ⟨i1, ⟨v, i2, i3, i4, i6⟩, i5⟩ hK1
        have HJ := Lib.hid (getI_all i5 hS)
        obtain ⟨A, c, rfl, hsl⟩ := Sl.own i3
        obtain ⟨z, hz⟩ : ∃ z, z = xs.length := ⟨_, rfl⟩
        rw [← hz] at hsl i2 hS
        have HZ := Lib.hid hz
        have HZb := Lib.hid (show z ≤ 20736 from by have := HTl.out; omega)
        have HSl := Lib.hid hsl
        have HAok := Lib.hid (show AllRows W xs from fun t ht => (i4 t ht).1)
        have HO7 := Lib.hid i2
        have HK1 := Lib.hid hK1
        have HD1 := Lib.hid (show w.heap.size ≤ D1 from Nat.le_trans HW3.out.size (Nat.le_trans hsz5 hD))
        have HX7 := Lib.hid (HX3.out.keep i1)
        have HF7 := Lib.hid (HF3.out.keep i1)
        have HW7 := Lib.hid (HW3.out.andThen i1)
        have HOd7 := Lib.hid (HOd.out.keep i1)
        have HQ7 := Lib.hid (HQ3.out.keep i1)
        have HR7 := Lib.hid (HR3.out.keep i1)
        clear hsl i1 i2 i3 i4 i5 i6 hK1 hD hS hz HX3 HF3 HW3 HOd HQ3 HR3 HB6 HO6 HB5 hb5 hp5
        go_wp2_with fail
        go_loopw [11] (fun iv wr => ∃ i : Nat, i ≤ m ∧ iv = .int .i64 (i : Int) ∧ Hid (Below W.heap.size W wr)) (fun iv _ => m - (intOf iv).toNat)
        case atStart => exact ⟨0, Nat.zero_le _, rfl, Lib.hid (Below.refl _ _)⟩
        case round =>
          obtain ⟨i, hi, rfl, HB⟩ := hrel
          by_cases him : i < m
          · have him' : (i : Int) < (m : Int) := by omega
            obtain ⟨E, ec, x, ht, hx⟩ := its_row (its := its) (k := i) (by rw [HM.out]; exact him)
            have HXm := Lib.hid (HLs.out x (List.mem_of_getElem? hx))
            have HRow := Lib.hid ((HR7.out _ (List.mem_of_getElem? ht)).keep HB.out)
            obtain ⟨qb, qo, rfl, _⟩ := HQ7.out.at_ (show 0 < m by omega)
            have cQ := (HQ7.out.keep HB.out).again him (show (its.map rv)[i]? = some (rv (E, ec, x)) by rw [List.getElem?_map, ht]; rfl)
            simp only [rv] at cQ
            have HCq := Lib.hid (show ∀ V, Below wr.heap.size wr V → V.cell? ⟨qb, qo + i, none⟩ = some (.slice E x.length ec) from fun V hb => (hb.cell (p := ⟨qb, qo + i, none⟩) (World.block_lt_of_cell? wr _ cQ)).trans cQ)
            have cA := (HO7.out.keep HB.out).cell 0
            simp at cA
            have HCa := Lib.hid (show ∀ V, Below wr.heap.size wr V → V.cell? ⟨w3.heap.size, 0, none⟩ = some (.slice A z c) from fun V hb => (hb.cell (p := ⟨w3.heap.size, 0, none⟩) (World.block_lt_of_cell? wr _ cA)).trans cA)
            clear ht hx cQ cA
            go_wp2_with fail
            go_loopw [12, 13] (fun hv kv wq => ∃ (k : Nat) (b : Bool), k ≤ z ∧ kv = .int .i64 (k : Int) ∧ hv = .bool b ∧ Hid (b = decide (x ∈ (allP od).take k)) ∧ Hid (Below wr.heap.size wr wq)) (fun _ kv _ => z - (intOf kv).toNat)
            case atStart => exact ⟨0, false, Nat.zero_le _, rfl, rfl, Lib.hid (by simp), Lib.hid (Below.refl _ _)⟩
            case round =>
              obtain ⟨k, b, hk, rfl, rfl, HBb, HBk⟩ := hrel
              have c1 := HCq.out _ HBk.out
              have c2 := HCa.out _ HBk.out
              by_cases hkz : k < z
              · have hkz' : (k : Int) < (z : Int) := by omega
                have hzb := HZb.out
                obtain ⟨D2, d2, l2, ht2, hl2⟩ := its_row (its := xs) (k := k) (by rw [← HZ.out]; exact hkz)
                rw [HJ.out] at hl2
                have HTk := Lib.hid (show (allP od).take (k + 1) = (allP od).take k ++ [l2] from by
                  obtain ⟨h1, h2⟩ := List.getElem?_eq_some_iff.1 hl2
                  rw [List.take_succ_eq_append_getElem h1, h2])
                cases b with
                | true =>
                  have HBn := Lib.hid (show true = decide (x ∈ (allP od).take (k + 1)) from by
                    rw [HTk.out]
                    exact (decide_eq_true (List.mem_append_left _ (of_decide_eq_true HBb.out.symm))).symm)
                  clear ht2 hl2
                  go_wp2_with fail
                  go_quiet (fail)
                  go_wp2_with fail
                  go_roundw
                  case rel => exact ⟨k + 1, true, by omega, by go_num, rfl, HBn, Lib.hid (bel_drewN HBk.out _)⟩
                  case measure => simp [intOf]; omega
                | false =>
                  have hr2 := ((HAok.out _ (List.mem_of_getElem? ht2)).keep HB.out).keep HBk.out
                  obtain ⟨b2, o2, rfl, _⟩ := HSl.out.at_ (show 0 < z by omega)
                  have c3 := ((HSl.out.keep HB.out).keep HBk.out).again hkz (show (xs.map rv)[k]? = some (rv (D2, d2, l2)) by rw [List.getElem?_map, ht2]; rfl)
                  simp only [rv] at c3
                  have hrx := HRow.out.keep HBk.out
                  have hlz : x.length ≤ 9223372036854775807 := by
                    have h1 := hrx.2.1
                    have h2 := hrx.2.2
                    simp only at h1 h2
                    omega
                  obtain ⟨bb, hbb⟩ : ∃ bb, bb = decide (x = l2) := ⟨_, rfl⟩
                  have HSq := Lib.hid (show ∀ V, Below wr.heap.size wr V → Calls Tryd.prog 24 #[.slice E x.length ec, .slice D2 l2.length d2] V (fun e w' => e = .returned (.bool bb) ∧ ∃ k, w' = V.drewN k) from fun V hV => by
                    have h := SameInts_q x l2 E D2 x.length l2.length ec d2 V rfl rfl (hrx.1.keep hV) (hr2.1.keep hV) hlz
                    rw [← hbb] at h
                    exact h)
                  have HBn := Lib.hid (show bb = decide (x ∈ (allP od).take (k + 1)) from by
                    rw [HTk.out, hbb]
                    have h0 := of_decide_eq_false HBb.out.symm
                    by_cases he : x = l2
                    · rw [decide_eq_true he]; exact (decide_eq_true (by rw [he]; simp)).symm
                    · rw [decide_eq_false he]; exact (decide_eq_false (by simp [h0, he])).symm)
                  clear ht2 hl2 hr2 hrx hlz hbb
                  go_wp2_with fail
                  go_quiet (first | (go_at_call 24; exact Calls.quiet_of (HSq.out _ (drew_bel ⟨_, rfl⟩))))
                  go_wp2_with fail
                  go_roundw
                  case rel => exact ⟨k + 1, bb, by omega, by go_num, rfl, HBn, Lib.hid (bel_drewN HBk.out _)⟩
                  case measure => simp [intOf]; omega
              · obtain rfl : k = z := by omega
                have hkz' : ¬ (k : Int) < (k : Int) := by omega
                obtain rfl : b = true := by
                  rw [HBb.out, List.take_of_length_le (by rw [← HJ.out, List.length_map, ← HZ.out]; exact Nat.le_refl _)]
                  exact decide_eq_true HXm.out
                go_wp2_with fail
                go_roundw
                case rel => exact ⟨i + 1, by omega, by go_num, Lib.hid (HB.out.andThen HBk.out)⟩
                case measure => simp [intOf]; omega
          · obtain rfl : i = m := by omega
            have him' : ¬ (i : Int) < (i : Int) := by omega
            have HO8 := Lib.hid (HO7.out.keep HB.out)
            have HX8 := Lib.hid (HX7.out.keep HB.out)
            have HF8 := Lib.hid (HF7.out.keep HB.out)
            have HW8 := Lib.hid (HW7.out.andThen HB.out)
            have HOd8 := Lib.hid (HOd7.out.keep HB.out)
            have HSl8 := Lib.hid (HSl.out.keep HB.out)
            have HAok8 := Lib.hid (HAok.out.keep HB.out)
            have HK8 := Lib.hid (show wr.heap[D1]? = some (.deferred (some [])) from (HB.out.block D1 (Array.getElem?_eq_some_iff.1 HK1.out).1).trans HK1.out)
            have HD18 := Lib.hid (show D1 < wr.heap.size from (Array.getElem?_eq_some_iff.1 HK8.out).1)
            obtain ⟨w7, hw7⟩ : ∃ w7, w7 = wr := ⟨_, rfl⟩
            rw [← hw7] at HO8 HX8 HF8 HW8 HOd8 HSl8 HAok8 HK8 HD18 ⊢
            clear hw7 HO7 HX7 HF7 HW7 HOd7 HSl HAok HK1 HB HQ7 HR7
            go_upto_region 23 with (fail)
            obtain ⟨W8, hW8⟩ : ∃ W8, w7.alloc (.cells #[.int .i64 0] 3) = W8 := ⟨_, rfl⟩
            have hb8 : Below w7.heap.size w7 W8 := by rw [← hW8]; exact bel_al (Below.refl _ _) _
            have hn8 : Blk W8 w7.heap.size 3 #[.int .i64 0] := by rw [← hW8]; exact Blk.new w7 _ _
            have HS8 := Lib.hid (show W8.heap.size = w7.heap.size + 1 from by rw [← hW8]; simp)
            rw [hW8]
            clear hW8
            have HB8 := Lib.hid hb8
            have HN8 := Lib.hid hn8
            clear hb8 hn8
            go_wp2_with (go_at_call 23; refine (OdPaths_any (some ⟨p, 0, none⟩) _).mono ?_; rintro e w5x ⟨rfl, rfl⟩)
            obtain ⟨V9, hV9⟩ : ∃ V9, W8.alloc (.cells #[.pointer (some ⟨p, 0, none⟩)] 41) = V9 := ⟨_, rfl⟩
            have hb9 : Below W8.heap.size W8 V9 := by rw [← hV9]; exact bel_al (Below.refl _ _) _
            have hp9 : Blk V9 W8.heap.size 41 #[.pointer (some ⟨p, 0, none⟩)] := by rw [← hV9]; exact Blk.new W8 _ _
            rw [hV9]
            clear hV9
            have HB9 := Lib.hid (HB8.out.andThen hb9)
            have hsz9 : w7.heap.size ≤ V9.heap.size := HB9.out.size
            have HL9 := Lib.hid hb9.size
            refine (wpIn_wide (n := 5)).1 ?_
            refine rangeFunc_one (fun x b => { b with tmps := b.tmps.setIfInBounds 15 (rv x) }) rfl (by omega) (gf := 60) (lb := #[.pointer (some ⟨W8.heap.size, 0, none⟩)]) rfl trivial (enters_of Tryd.func60 (by kernel_rfl) rfl)
              (paths_gives (5 - 1) w7.heap.size W8.heap.size W8.heap.size p n od w7 V9 HOd8.out HOk.out rfl hsz9 HL9.out HB9.out hp9) knE_put KT.trans (fun _ W l o o' hl ho hc _ => KT.putObj o' (Nat.le_trans hsz9 hl) ho hc) (Below.refl _ _)
              (fun pre W => NtI w7 pre.length W) (fun c pre W => c = .exit 6 ∧ NtI w7 pre.length W) (NtI.own _ hsz9) (fun c s A B row hs hg hr => ⟨hs.1, NtI.own (fun pre : List RowE => pre.length) hsz9 s A B row hs.2 hg hr⟩)
              ⟨HB9.out, HN8.out.keep hb9⟩ ?assign2 ?body2 ?done2 ?stop2
            case assign2 =>
              intro l x W K hK
              gi_wp2
              exact hK
            case body2 =>
              rintro l pre ⟨D, d, P⟩ V ⟨i1, i2⟩ ⟨hown, hG⟩ hlt
              obtain ⟨k, hk⟩ : ∃ k, k = pre.length := ⟨_, rfl⟩
              rw [← hk] at hG hlt i2
              obtain ⟨gx, gc, hgx, hg5⟩ := own_form hown (by simp only; have := HOk.out.P P (List.mem_of_getElem? hG); have := HOk.out.h1; omega)
              have hDx : D = some ⟨gx, 0, none⟩ := by cases hgx; rfl
              have hrow : RowOK V (D, d, P) := ⟨Sl.of_own hown, own_cap hown⟩
              have hkz : k < z := by rw [HZ.out, ← List.length_map (f := fun t : RowE => t.2.2), HJ.out]; exact hlt
              obtain ⟨D2, d2, l2, ht2, hl2⟩ := its_row (its := xs) (k := k) (by rw [← HZ.out]; exact hkz)
              obtain rfl : l2 = P := by
                rw [HJ.out, hG] at hl2
                exact (Option.some.inj hl2).symm
              obtain ⟨b2, o2, rfl, _⟩ := HSl8.out.at_ (show 0 < z by omega)
              have c2 := (HSl8.out.keep i1).again hkz (show (xs.map rv)[k]? = some (rv (D2, d2, l2)) by rw [List.getElem?_map, ht2]; rfl)
              simp only [rv] at c2
              have hr2 := (HAok8.out _ (List.mem_of_getElem? ht2)).keep i1
              have HSm := Lib.hid (SameInts_same l2 D D2 l2.length d d2 V rfl hrow.1 hr2.1 (by have h1 := hrow.2.1; have h2 := hrow.2.2; simp only at h1 h2; omega))
              have cA := (HO8.out.keep i1).cell 0
              have cN := i2.cell 0
              simp at cA cN
              have hk0 : (0 : Int) ≤ (k : Int) := by omega
              have hkz' : (k : Int) < (z : Int) := by omega
              have hkz2 : ¬ (z : Int) ≤ (k : Int) := by omega
              have hw1 : IntKind.i64.wrap ((k : Int) + 1) = (k : Int) + 1 := by rw [IntKind.wrap_i64]; have := HZb.out; omega
              have HI1 := Lib.hid i1
              have HI2 := Lib.hid i2
              have HK := Lib.hid hk
              have HKz := Lib.hid hkz
              have HNx := Lib.hid (show ∀ X, Below V.heap.size V X → X.cell? ⟨w7.heap.size, 0, none⟩ = some (.int .i64 (k : Int)) ∧ X.frozen? ⟨w7.heap.size, 0, none⟩ = false ∧ (X.setCell ⟨w7.heap.size, 0, none⟩ (.int .i64 ((k : Int) + 1))).cell? ⟨w.heap.size, 0, none⟩ = some (.int .u8 (st : Int)) from fun X hX => by
                have h1 := (i2.keep hX).cell 0
                have h2 := (((HF8.out.keep i1).keep hX).far (p := ⟨w7.heap.size, 0, none⟩) (by have := HF8.out.lt; simp; omega) (.int .i64 ((k : Int) + 1))).cell 0
                simp at h1 h2
                exact ⟨h1, (i2.keep hX).frozen 0, h2⟩)
              have hst256 := HSt.out
              have hst0 : (0 : Int) ≤ (st : Int) := by omega
              have HFn := Lib.hid (show ∀ X, Below V.heap.size V X → KeepsOthers V (X.setCell ⟨w7.heap.size, 0, none⟩ (.int .i64 ((k : Int) + 1))) ∧ KT w7.heap.size W8.heap.size V (X.setCell ⟨w7.heap.size, 0, none⟩ (.int .i64 ((k : Int) + 1))) ∧ NtI w7 (pre ++ [(D, d, l2)]).length (X.setCell ⟨w7.heap.size, 0, none⟩ (.int .i64 ((k : Int) + 1))) from fun X hX => by
                have h8 := HS8.out
                have h1 := i1.size
                refine ⟨(ko_belowE hX).trans (KeepsOthers.setCell _ _ _), (KT.of_below hX (by omega)).trans (KT.set _ (by omega) (by omega)), (i1.andThen hX).setCell (p := ⟨w7.heap.size, 0, none⟩) (by simp) _, ?_⟩
                rw [List.length_append, ← hk]
                exact (i2.keep hX).set_ 0 (.int .i64 ((k : Int) + 1)))
              clear i1 i2 hown hG hlt hgx hg5 hDx hrow hkz ht2 hl2 hr2 hk
              simp only [rv, List.setIfInBounds_toArray, List.set_cons_succ, List.set_cons_zero]
              by_cases hbr : (st : Int) % 6 < (k : Int) + 1
              · skip
                gi_wp2_with (first
                  | ((try refine ⟨trivial, ?_⟩); (try refine ⟨fun h => (by cases h), ?_⟩); gi_at_call 24; refine (CallsIn.inRound l (callsIn_wide.2 HSm.out)).mono ?_; clear HSm; rintro e X ⟨rfl, hb⟩; obtain ⟨c5, f5, c6⟩ := HNx.out X hb; have HBX := Lib.hid hb; clear hb)
                  | fail)
                obtain ⟨g1, g2, g3⟩ := HFn.out X HBX.out
                exact ⟨g1, rfl, g3⟩
              · skip
                gi_wp2_with (first
                  | ((try refine ⟨trivial, ?_⟩); (try refine ⟨fun h => (by cases h), ?_⟩); gi_at_call 24; refine (CallsIn.inRound l (callsIn_wide.2 HSm.out)).mono ?_; clear HSm; rintro e X ⟨rfl, hb⟩; obtain ⟨c5, f5, c6⟩ := HNx.out X hb; have HBX := Lib.hid hb; clear hb)
                  | fail)
                exact HFn.out X HBX.out
            case done2 =>
              rintro D2 ys W9 hD2 _ ⟨i1, i2⟩ hK2
              have HOf := Lib.hid (OfOd_any n xs A z c W9 h1 (by omega) HZ.out.symm (by have := HZb.out; omega) (HSl8.out.keep i1) (HAok8.out.keep i1) (fun t ht => by
                have hm : t.2.2 ∈ allP od := by rw [← HJ.out]; exact List.mem_map.2 ⟨t, ht, rfl⟩
                exact ⟨HOk.out.P _ hm, allP_num HOk.out hm⟩))
              rw [HJ.out, HAg.out] at HOf
              have HOd9 := Lib.hid (HOd8.out.keep i1)
              have HX9 := Lib.hid (HX8.out.keep i1)
              have HO9 := Lib.hid (HO8.out.keep i1)
              have HW9 := Lib.hid (HW8.out.andThen i1)
              have HKs := Lib.hid (show ∀ D ∈ [D2, D1], W9.heap[D]? = some (.deferred (some [])) from fun D h => by
                rcases List.mem_cons.1 h with rfl | h
                · exact hK2
                · rw [List.mem_singleton.1 h]
                  exact (i1.block D1 HD18.out).trans HK8.out)
              have HD12 := Lib.hid (show D1 < D2 from Nat.lt_of_lt_of_le HD18.out (Nat.le_trans hsz9 hD2))
              have hmz : 0 < i → 1 ≤ z := fun h => by
                obtain ⟨_, _, x, _, hx⟩ := its_row (its := its) (k := 0) (by rw [HM.out]; exact h)
                have := List.length_pos_of_mem (HLs.out x (List.mem_of_getElem? hx))
                rw [HZ.out, ← List.length_map (f := fun t : RowE => t.2.2), HJ.out]
                exact this
              have hmn : min (i : Int) 1 ≤ (z : Int) := by omega
              have hmn2 : ¬ (z : Int) < min (i : Int) 1 := by omega
              have hmn3 : (if (1 : Int) < (i : Int) then (1 : Int) else (i : Int)) ≤ (z : Int) := by split <;> omega
              clear i1 i2 hK2 hD2 HOd8 HX8 HO8 HW8 HSl8 HAok8 HK8 hb9 hp9
              have cO := HO9.out.cell 0
              simp at cO
              go_wp2_with (first
                | (go_at_call 21; refine HOf.out.mono ?_; clear HOf; rintro e w10 ⟨p2, rfl, ho, hb⟩; have HSm := Lib.hid (OdSame_any p2 p od od w10 ho (HOd9.out.keep hb) (by have := HOk.out.h8; rw [HOk.out.len]; omega) HOk.out.rw HOk.out.rw); rw [decide_eq_true rfl] at HSm; have HB10 := Lib.hid hb; clear ho hb)
                | (go_at_call 28; refine HSm.out.mono ?_; clear HSm cO; rintro e w11 ⟨rfl, hb⟩; have cO := ((HO9.out.keep HB10.out).keep hb).cell 0; have cx := ((HX9.out.keep HB10.out).keep hb).cell 0; have fx := ((HX9.out.keep HB10.out).keep hb).frozen 0; simp at cO cx; have HB11 := Lib.hid hb; clear hb)
                | fail)
              have HB := HB10.out.andThen HB11.out
              exact law_endAt [D2, D1] (w.heap.size + 1) (by omega) (fun V hV => by simp [results, Tryd.results5, go_sem, hV]) rfl (fun D h => (HB.block D (Array.getElem?_eq_some_iff.1 (HKs.out D h)).1).trans (HKs.out D h)) (by have := HD12.out; simp; omega) (HX9.out.keep HB) (HW9.out.andThen HB) (fun D h => by
                have h0 := HD1.out
                have h1 := HD12.out
                simp at h
                omega)
            case stop2 =>
              rintro D2 c pre W9 hD2 _ ⟨rfl, i1, i2⟩ hK2
              refine wpIn_wide.2 ?_
              have HOf := Lib.hid (OfOd_any n xs A z c W9 h1 (by omega) HZ.out.symm (by have := HZb.out; omega) (HSl8.out.keep i1) (HAok8.out.keep i1) (fun t ht => by
                have hm : t.2.2 ∈ allP od := by rw [← HJ.out]; exact List.mem_map.2 ⟨t, ht, rfl⟩
                exact ⟨HOk.out.P _ hm, allP_num HOk.out hm⟩))
              rw [HJ.out, HAg.out] at HOf
              have HOd9 := Lib.hid (HOd8.out.keep i1)
              have HX9 := Lib.hid (HX8.out.keep i1)
              have HO9 := Lib.hid (HO8.out.keep i1)
              have HW9 := Lib.hid (HW8.out.andThen i1)
              have HKs := Lib.hid (show ∀ D ∈ [D2, D1], W9.heap[D]? = some (.deferred (some [])) from fun D h => by
                rcases List.mem_cons.1 h with rfl | h
                · exact hK2
                · rw [List.mem_singleton.1 h]
                  exact (i1.block D1 HD18.out).trans HK8.out)
              have HD12 := Lib.hid (show D1 < D2 from Nat.lt_of_lt_of_le HD18.out (Nat.le_trans hsz9 hD2))
              have hmz : 0 < i → 1 ≤ z := fun h => by
                obtain ⟨_, _, x, _, hx⟩ := its_row (its := its) (k := 0) (by rw [HM.out]; exact h)
                have := List.length_pos_of_mem (HLs.out x (List.mem_of_getElem? hx))
                rw [HZ.out, ← List.length_map (f := fun t : RowE => t.2.2), HJ.out]
                exact this
              have hmn : min (i : Int) 1 ≤ (z : Int) := by omega
              have hmn2 : ¬ (z : Int) < min (i : Int) 1 := by omega
              have hmn3 : (if (1 : Int) < (i : Int) then (1 : Int) else (i : Int)) ≤ (z : Int) := by split <;> omega
              clear i1 i2 hK2 hD2 HOd8 HX8 HO8 HW8 HSl8 HAok8 HK8 hb9 hp9
              have cO := HO9.out.cell 0
              simp at cO
              go_wp2_with (first
                | (go_at_call 21; refine HOf.out.mono ?_; clear HOf; rintro e w10 ⟨p2, rfl, ho, hb⟩; have HSm := Lib.hid (OdSame_any p2 p od od w10 ho (HOd9.out.keep hb) (by have := HOk.out.h8; rw [HOk.out.len]; omega) HOk.out.rw HOk.out.rw); rw [decide_eq_true rfl] at HSm; have HB10 := Lib.hid hb; clear ho hb)
                | (go_at_call 28; refine HSm.out.mono ?_; clear HSm cO; rintro e w11 ⟨rfl, hb⟩; have cO := ((HO9.out.keep HB10.out).keep hb).cell 0; have cx := ((HX9.out.keep HB10.out).keep hb).cell 0; have fx := ((HX9.out.keep HB10.out).keep hb).frozen 0; simp at cO cx; have HB11 := Lib.hid hb; clear hb)
                | fail)
              have HB := HB10.out.andThen HB11.out
              exact law_endAt [D2, D1] (w.heap.size + 1) (by omega) (fun V hV => by simp [results, Tryd.results5, go_sem, hV]) rfl (fun D h => (HB.block D (Array.getElem?_eq_some_iff.1 (HKs.out D h)).1).trans (HKs.out D h)) (by have := HD12.out; simp; omega) (HX9.out.keep HB) (HW9.out.andThen HB) (fun D h => by
                have h0 := HD1.out
                have h1 := HD12.out
                simp at h
                omega)

/-- OdagPaths, as its frame asks it. -/
theorem OdagPaths_main (a0 : Int) (A1 : Option Addr) (n1 c1 : Nat) (its : List (Option Addr × Nat × List Int)) (a2 : Int) (w : World) (hg : ErrT w) (w0 : (Lit.int .i64 a0).wf = true) (m1 : n1 ≤ maxLen) (e1 : its.length = n1) (s1 : Sl w 1 A1 n1 (its.map rv)) (r1 : AllRows w its) (w2 : (Lit.int .u8 a2).wf = true) :
    Calls Tryd.prog 5 #[.int .i64 a0, .slice A1 n1 c1, .int .u8 a2] w fun e w' => e = .returned (.bool true) ∧ Below w.heap.size w w' := by
  have h2 := wf_u8 w2
  obtain ⟨x, rfl⟩ : ∃ x : Nat, a2 = (x : Int) := ⟨a2.toNat, by omega⟩
  exact OdagPaths_walk a0 its A1 n1 c1 x w hg e1 s1 r1 (by omega)
end Go.Proofs.YtmonepclhbappaaDoor
