/-
  Part 11 of the proof of RankSteps: RankR, RankE, KeepT, RankG, FrameR, Marks, Box.
-/
import Derived.Test.YtmonepclhbappaaDoorRankStepsM9
import Derived.Test.YtmonepclhbappaaDoorRankStepsM10
import Derived.Test.YtmonepclhbappaaDoorRankStepsM6
import Derived.Deep.RegionHeld3
import Derived.RangeFuncFrom
import Derived.Test.YtmonepclhbappaaDoorRankStepsM4
import Derived.Test.YtmonepclhbappaaDoorRankStepsM2
import Derived.RangeFuncNested
import Derived.RangeFuncBound
import Derived.RangeFuncCalls
import Derived.RangeFuncLeaves
import Derived.Shelf.Abstract
import Derived.Shelf.RegionOpen
import Derived.OwnWalkIn
import Derived.TacticsInMore
import Derived.LoopNIn
import Derived.LoopIn
import Derived.Test.YtmonepclhbappaaDoorRankStepsM1
import Derived.RangeFuncKeeps
import Derived.Test.YtmonepclhbappaaDoorRankStepsM3
/-
  Ranks: the contract of (*Ranks).Rank.
-/
namespace Go.Proofs.YtmonepclhbappaaDoor
open Go.RowKit Go.Maps
set_option maxRecDepth 100000
set_option linter.unusedVariables false

theorem sumZ_step {l : List Int} {f : Int → Int} {t : Nat} {b : Int} (h : l[t]? = some b) : sumZ ((l.take (t + 1)).map f) = sumZ ((l.take t).map f) + f b := by
  obtain ⟨h1, h2⟩ := List.getElem?_eq_some_iff.1 h
  rw [List.take_succ_eq_append_getElem h1, h2, List.map_append, sumZ_append]
  simp [sumZ]
theorem sumZ_part {l : List Int} {f : Int → Int} (hf : ∀ x, 0 ≤ f x) {t j : Nat} (h : t ≤ j) : sumZ ((l.take t).map f) ≤ sumZ ((l.take j).map f) := by
  have e : l.take j = l.take t ++ (l.take j).drop t := by
    conv => lhs; rw [← List.take_append_drop t (l.take j)]
    rw [List.take_take, Nat.min_eq_left h]
  rw [e, List.map_append, sumZ_append]
  have := sumZ_nn (l := ((l.take j).drop t).map f) fun x hx => by
    obtain ⟨y, _, rfl⟩ := List.mem_map.1 hx
    exact hf y
  omega

set_option maxHeartbeats 16000000 in
theorem RankRank_any (q p N : Nat) (od : List Rw) (P : List Int) (A : Option Addr) (n c : Nat) (w : World) (h : RkM w q p od) (hO : OdOK od N) (hl : P.length = n) (hn : n ≤ 1000000) (hc : n ≤ c ∧ c ≤ 9223372036854775807) (hs : Sl w 1 A n (P.map (Value.int .i64))) (hx : ∀ x ∈ P, i64ok x) :
    Calls Tryd.prog 39 #[.pointer (some ⟨q, 0, none⟩), .slice A n c] w fun e w' => ∃ z ev, e = .returned (.tuple #[.int .i64 z, ev]) ∧ Below w.heap.size w w' ∧ ((P ∈ allP od ∧ ev = .nilIface ∧ ∀ k0 : Nat, (allP od)[k0]? = some P → z = (k0 : Int)) ∨ (P ∉ allP od ∧ z = 0 ∧ (Err.flt 5 0 ⟨#[112, 97, 116, 104]⟩).At w' ev)) := by
  obtain ⟨mb, m, f, hq, hm, hod, hf⟩ := h
  have c0 := hq.cell 0
  have c1 := hq.cell 1
  simp at c0 c1
  have HQ := Lib.hid hq
  have HM := Lib.hid hm
  have HK := Lib.hid (show RkM w q p od from ⟨mb, m, f, hq, hm, hod, hf⟩)
  have HOd := Lib.hid hod
  have HFn := Lib.hid hf
  have HO := Lib.hid hO
  have HL := Lib.hid hl
  have HC := Lib.hid hc
  have HS := Lib.hid hs
  have HX := Lib.hid hx
  have HEnd := Lib.hid (prefs_end (od := od) (by rw [hO.len]; exact hO.h1))
  have HLn := Lib.hid (OdLen_any p od w hod)
  rw [hO.len] at HLn HEnd
  clear hq hm hod hf hO hc hs hx
  by_cases hnN : n = N
  · subst hnN
    go_enter Tryd.func39, Tryd.ntmps39
    go_wp2_with (go_at_call 52; refine HLn.out.mono ?_; rintro e w1 ⟨rfl, rfl⟩)
    go_loopw [6, 26] (fun zv iv wr => ∃ (i : Nat) (z : Int), i ≤ n ∧ iv = .int .i64 (i : Int) ∧ zv = .int .i64 z ∧ Hid (Below w.heap.size w wr) ∧ Hid (P.take i ∈ prefs od i) ∧ Hid (∀ k0 : Nat, (allP od)[k0]? = some P → 0 ≤ z ∧ RkAt od k0 P i z)) (fun _ iv _ => n - (intOf iv).toNat)
    case atStart => exact ⟨0, 0, Nat.zero_le _, rfl, rfl, Lib.hid (Below.refl _ _), Lib.hid (by rw [List.take_zero]; exact List.mem_singleton_self _), Lib.hid fun k0 h => ⟨Int.le_refl _, RkAt.begin (by rw [HO.out.len]; exact HO.out.h1) h⟩⟩
    case round =>
      obtain ⟨i, z, hi, rfl, rfl, HB, HPr, HR⟩ := hrel
      by_cases hlt : i < n
      · have hlt' : (i : Int) < (n : Int) := by omega
        have hil : i < P.length := by omega
        obtain ⟨a, ha⟩ : ∃ a, P[i]? = some a := ⟨_, List.getElem?_eq_getElem hil⟩
        have HA := Lib.hid ha
        have HAx := Lib.hid (HX.out a (List.mem_of_getElem? ha))
        obtain ⟨b, off, rfl, hcc⟩ := (HS.out.keep HB.out).i64 HL.out hlt
        rw [(List.getElem?_eq_some_iff.1 ha).2] at hcc
        have hti : (P.take i).length = i := by rw [List.length_take]; omega
        have HTi := Lib.hid hti
        have hic : (i : Int) ≤ (c : Int) := by have := HC.out; omega
        have hi0 : (0 : Int) ≤ (i : Int) := by omega
        have HNx := Lib.hid (Next_any q p od (P.take i) (some ⟨b, off, none⟩) i c wr (HK.out.keep HB.out) HO.out.B (by rw [HO.out.len]; have := HO.out.h8; omega) hti (by omega) (by rw [List.map_take]; exact (HS.out.keep HB.out).take (by omega)) (fun x hx => HX.out x (List.mem_of_mem_take hx)))
        obtain ⟨nx, hnx⟩ : ∃ nx, nx = nextL od (P.take i) := ⟨_, rfl⟩
        have HInc := Lib.hid (HO.out.S.next (l := P.take i) (by rw [hti, HO.out.len]; exact hlt))
        have HKy := Lib.hid (show ∀ x ∈ nx, i64ok x ∧ f (i : Int) x = cnt od i x from fun x hx => by
          rw [hnx] at hx
          have := next_keys HO.out.C (by rw [hti, HO.out.len]; exact hlt) x hx
          rw [hti] at this
          exact ⟨HO.out.Nu.key (by rw [HO.out.len]; exact hlt) this, HFn.out i x (by rw [HO.out.len]; exact hlt) this⟩)
        rw [← hnx] at HNx HInc
        have HNl := Lib.hid (show nx.length ≤ 1000000 from by rw [hnx]; exact Nat.le_trans (nextL_B HO.out.B _) (by omega))
        have HNe := Lib.hid hnx
        have HMw0 := Lib.hid (HM.out.keep HB.out)
        have HQw0 := Lib.hid (HQ.out.keep HB.out)
        clear hnx ha c0 c1 hti hil HLn
        go_upto_region 10 with (go_at_call 73; refine HNx.out.mono ?_; clear HNx; rintro e w1 ⟨v, rfl, hown, hb⟩; obtain ⟨A2, c2, rfl, hs2⟩ := Sl.own hown; have HCap := Lib.hid (own_cap hown); have HS2 := Lib.hid hs2; have HB1 := Lib.hid hb; clear hown hb hs2)
        have HHas := Lib.hid (HasS_any nx a A2 nx.length c2 w1 rfl HNl.out HInc.out HS2.out)
        by_cases hmem : a ∈ nx
        · obtain ⟨j, hj⟩ := List.getElem?_of_mem hmem
          have HIx := Lib.hid (fun W (hb : Below w1.heap.size w1 W) => IndexI_at nx a A2 nx.length c2 j W rfl HNl.out (HS2.out.keep hb) hj (inc_nodup HInc.out))
          rw [decide_eq_true hmem] at HHas
          have HNn := Lib.hid (inc_nodup HInc.out)
          have hjl : j < nx.length := (List.getElem?_eq_some_iff.1 hj).1
          have HStep := Lib.hid (show ∀ k0 : Nat, (allP od)[k0]? = some P → (k0 : Int) ≤ 4611686018427387904 ∧ (∀ t, t ≤ j → 0 ≤ z + sumZ ((nx.take t).map (cnt od i)) ∧ z + sumZ ((nx.take t).map (cnt od i)) ≤ (k0 : Int)) ∧ RkAt od k0 P (i + 1) (z + sumZ ((nx.take j).map (cnt od i))) from fun k0 hk0 => by
            obtain ⟨hz0, hr⟩ := HR.out k0 hk0
            rcases hr with ⟨hi1, k, hL, hzk⟩ | ⟨hi1, _⟩
            · obtain ⟨j', g1, g2, g3⟩ := hL.step hi1 HA.out (by rw [← HNe.out]; exact HNn.out)
              rw [← HNe.out] at g1 g2 g3
              obtain rfl : j' = j := (List.getElem?_inj (List.getElem?_eq_some_iff.1 g1).1 HNn.out).1 (g1.trans hj.symm)
              refine ⟨?_, fun t ht => ?_, g3 z hzk⟩
              · have h9 := (List.getElem?_eq_some_iff.1 hk0).1
                have h8 := HO.out.F.2
                unfold totP at h8
                omega
              · have h7 := sumZ_part (l := nx) (f := cnt od i) (cnt_nn od i) ht
                have h6 := sumZ_nn (l := (nx.take t).map (cnt od i)) fun x hx => by
                  obtain ⟨y, _, rfl⟩ := List.mem_map.1 hx
                  exact cnt_nn _ _ _
                omega
            · rw [HO.out.len] at hi1
              omega)
          have hAA := HS2.out.i64 rfl hjl
          obtain ⟨b2, o2, rfl, _⟩ := hAA
          have g1 : (j : Int) ≤ (c2 : Int) := by have := HCap.out; omega
          have g2 : (0 : Int) ≤ (j : Int) := by omega
          have HJ := Lib.hid hj
          have HMem := Lib.hid hmem
          clear hj HR hmem
          go_wp2_with (first
            | (go_at_call 74; refine HHas.out.mono ?_; clear HHas; rintro e w2 ⟨rfl, hb2⟩; have HB2 := Lib.hid hb2; clear hb2)
            | (go_at_call 75; refine (HIx.out _ HB2.out).mono ?_; clear HIx; rintro e w3 ⟨rfl, rfl⟩))
          have HBw := Lib.hid ((HB.out.andThen HB1.out).andThen HB2.out)
          have HMw := Lib.hid (HM.out.keep HBw.out)
          have e1 := (HQ.out.keep HBw.out).cell 1
          simp at e1
          have HS3 := Lib.hid (HS2.out.keep HB2.out)
          clear HQw0 HMw0 hcc
          go_loop [6, 47] (fun zv tv => ∃ (t : Nat) (z' : Int), t ≤ j ∧ tv = .int .i64 (t : Int) ∧ zv = .int .i64 z' ∧ Hid (∀ k0 : Nat, (allP od)[k0]? = some P → z' = z + sumZ ((nx.take t).map (cnt od i)))) (fun _ tv => j - (intOf tv).toNat)
          case atStart => exact ⟨0, z, Nat.zero_le _, rfl, rfl, Lib.hid fun k0 _ => by simp [sumZ]⟩
          case round =>
            obtain ⟨t, z', ht, rfl, rfl, HZ⟩ := hrel
            by_cases htj : t < j
            · have htj' : (t : Int) < (j : Int) := by omega
              have htl : t < nx.length := by omega
              have hjw : IntKind.i64.wrap ((t : Int) + 1) = (t : Int) + 1 := by rw [IntKind.wrap_i64]; have := HNl.out; omega
              obtain ⟨y, hy⟩ : ∃ y, nx[t]? = some y := ⟨_, List.getElem?_eq_getElem htl⟩
              obtain ⟨b3, o3, e3, hcy⟩ := HS3.out.i64 rfl htl
              cases e3
              rw [(List.getElem?_eq_some_iff.1 hy).2] at hcy
              have HYx := Lib.hid (HKy.out y (List.mem_of_getElem? hy))
              have HY := Lib.hid hy
              obtain ⟨cv, hcv⟩ : ∃ cv, cv = cnt od i y := ⟨_, rfl⟩
              have HCv := Lib.hid hcv
              have HFy := Lib.hid (show f (i : Int) y = cv from HYx.out.2.trans hcv.symm)
              obtain ⟨zz, hzz⟩ : ∃ zz, IntKind.i64.wrap (z' + cv) = zz := ⟨_, rfl⟩
              have HZz := Lib.hid hzz
              clear hy hcv
              go_wp2_with (refine wpList_lookS _ rfl _ _ rfl mb m f (by go_simp) HMw.out (i : Int) y (by go_simp) ⟨by omega, by omega⟩ HYx.out.1 ?_; rw [HFy.out])
              go_round
              case rel =>
                refine ⟨t + 1, zz, by omega, by go_num, rfl, Lib.hid fun k0 hk0 => ?_⟩
                have h1 := HZ.out k0 hk0
                obtain ⟨h2, h3, _⟩ := HStep.out k0 hk0
                have h4 := h3 (t + 1) (by omega)
                rw [sumZ_step HY.out, ← HCv.out] at h4 ⊢
                rw [← HZz.out, IntKind.wrap_i64]
                omega
              case measure => simp [intOf]; omega
            · obtain rfl : t = j := by omega
              have htj' : ¬ (t : Int) < (t : Int) := by omega
              go_wp2_with fail
              go_roundw
              case rel =>
                refine ⟨i + 1, z', by omega, by go_num, rfl, HBw, Lib.hid ((prefs_next HA.out).2 ⟨HPr.out, by rw [← HNe.out]; exact HMem.out⟩), Lib.hid fun k0 hk0 => ?_⟩
                obtain ⟨_, h3, h4⟩ := HStep.out k0 hk0
                rw [HZ.out k0 hk0]
                exact ⟨(h3 t (Nat.le_refl _)).1, h4⟩
              case measure => simp [intOf]; omega
        · rw [decide_eq_false hmem] at HHas
          go_wp2_with (first
            | (go_at_call 74; refine HHas.out.mono ?_; clear HHas; rintro e w2 ⟨rfl, hb2⟩; have HB2 := Lib.hid hb2; clear hb2)
            | (go_at_call 44; refine (New_err _ _ _ _).mono ?_; rintro e w' ⟨v, rfl, hv, hb⟩; have HV := Lib.hid hv; have HB3 := Lib.hid hb; clear hv hb))
          go_ret2
          refine ⟨_, _, rfl, ((HB.out.andThen HB1.out).andThen HB2.out).andThen HB3.out, .inr ⟨fun hP => ?_, rfl, HV.out⟩⟩
          rw [← HEnd.out] at hP
          have := prefs_take _ P hP (i + 1) (by omega)
          rw [prefs_next HA.out, ← HNe.out] at this
          exact hmem this.2
      · obtain rfl : i = n := by omega
        have hlt' : ¬ (i : Int) < (i : Int) := by omega
        go_wp2_with fail
        go_ret2
        refine ⟨_, _, rfl, HB.out, .inl ⟨?_, rfl, fun k0 hk0 => ?_⟩⟩
        · have := HPr.out
          rw [List.take_of_length_le (by omega), HEnd.out] at this
          exact this
        · rcases (HR.out k0 hk0).2 with ⟨h, _⟩ | ⟨_, h⟩
          · rw [HO.out.len] at h
            omega
          · exact h
  · have hne : ((n : Int) != (N : Int)) = true := by simp; omega
    go_enter Tryd.func39, Tryd.ntmps39
    go_wp2_with (first
      | (go_at_call 52; refine HLn.out.mono ?_; rintro e w1 ⟨rfl, rfl⟩)
      | (go_at_call 44; refine (New_err _ _ _ _).mono ?_; rintro e w' ⟨v, rfl, hv, hb⟩; have HV := Lib.hid hv; have HB := Lib.hid hb; clear hv hb))
    go_ret2
    refine ⟨_, _, rfl, HB.out, .inr ⟨fun hP => hnN ?_, rfl, HV.out⟩⟩
    rw [← HL.out]
    exact HO.out.P P hP
end Go.Proofs.YtmonepclhbappaaDoor
/-
  Ranks: Each, where there is nothing to tell.
-/
namespace Go.Proofs.YtmonepclhbappaaDoor
open Go.RowKit Go.Maps
set_option maxRecDepth 100000
set_option linter.unusedVariables false

theorem Each_any (o : Option Addr) (f t : Int) (w : World) : Calls Tryd.prog 32 #[.pointer o, .agg #[.int .i64 f, .int .i64 t]] w fun e w' =>
    e = .returned (.func (.func 71) #[] #[.pointer (some ⟨w.heap.size + 1, 0, none⟩), .pointer (some ⟨w.heap.size, 0, none⟩)]) ∧ w' = (w.alloc (.cells #[.pointer o] 57)).alloc (.cells #[.int .i64 f, .int .i64 t] 63) := by
  go_enter Tryd.func32, Tryd.ntmps32
  go_wp2_with fail
  go_ret
  exact ⟨rfl, rfl⟩

set_option maxHeartbeats 4000000 in
theorem Each1_none (y : Value) (Bp Br q p : Nat) (od : List Rw) (f t : Int) (w : World) (hp : Blk w Bp 63 #[.int .i64 f, .int .i64 t]) (hr : Blk w Br 57 #[.pointer (some ⟨q, 0, none⟩)]) (hk : RkM w q p od) (hft : min t (totP od) ≤ max f 0) :
    Calls Tryd.prog 71 #[y, .pointer (some ⟨Bp, 0, none⟩), .pointer (some ⟨Br, 0, none⟩)] w fun e w' => (∃ v, e = .returned v) ∧ w.grownBy w' none := by
  have c0 := hp.cell 0
  have c1 := hp.cell 1
  have c2 := hr.cell 0
  simp at c0 c1 c2
  have HK := Lib.hid hk
  have hft' : ¬ max f 0 < min t (totP od) := by omega
  clear hp hr hk hft
  go_enter Tryd.func71, Tryd.ntmps71
  go_wp2_with fail
  go_region_held3 (fun w' => w'.cell? ⟨Bp, 0, none⟩ = some (.int .i64 f) ∧ w'.cell? ⟨Bp, 1, none⟩ = some (.int .i64 t) ∧ w'.cell? ⟨Br, 0, none⟩ = some (.pointer (some ⟨q, 0, none⟩))) (go_keep)
    ((go_at_call 34; refine (RkTotal_any q p od _ (HK.out.keep (bel_drewN (Below.refl _ _) 1))).mono ?_; rintro e' w3 ⟨rfl, rfl⟩))
  have hg : w.grownBy (w.drewN 1) none := gb_below (bel_drewN (Below.refl w.heap.size w) 1) none
  have d0 : (w.drewN 1).cell? ⟨Bp, 0, none⟩ = some (.int .i64 f) := c0
  have HG := Lib.hid hg
  clear hg c0 c1 c2 HK
  obtain ⟨w1, hw1⟩ : ∃ w1, w1 = w.drewN 1 := ⟨_, rfl⟩
  rw [← hw1] at HG d0 ⊢
  clear hw1
  go_wp2_with fail
  go_loop [5] (fun iv => iv = .int .i64 (max f 0)) (fun iv => 0)
  case atStart => rfl
  case round =>
    subst hrel
    go_wp2_with fail
    go_end0
    exact ⟨⟨_, rfl⟩, HG.out⟩
abbrev RowE := Option Addr × Nat × List Int
theorem each_none (k : Nat) (Bp Br q p : Nat) (od : List Rw) (f t : Int) (w : World) (hp : Blk w Bp 63 #[.int .i64 f, .int .i64 t]) (hr : Blk w Br 57 #[.pointer (some ⟨q, 0, none⟩)]) (hk : RkM w q p od) (hft : min t (totP od) ≤ max f 0) :
    GivesKnown Fence.wide k Tryd.prog 71 #[.pointer (some ⟨Bp, 0, none⟩), .pointer (some ⟨Br, 0, none⟩)] (fun x : RowE => #[rv x]) (fun _ _ _ => False) (fun _ _ _ => True) (fun xs => xs = []) (fun _ => False) 0 w := by
  intro l J Jx W hW hJ hJx hY h0
  refine (callsIn_wide.2 (Each1_none (.func (.yield l) #[] #[]) Bp Br q p od f t W (hp.keep hW) (hr.keep hW) (hk.keep hW) hft)).mono fun e W' ⟨hv, hg⟩ => ⟨hv, .inl ⟨[], rfl, hJ _ _ _ none h0 hg (fun r e => by cases e)⟩⟩
end Go.Proofs.YtmonepclhbappaaDoor
/-
  What a round of a range over a function leaves be: all below a place, and, from another place on, cells that are no rows of rows.
-/
namespace Go.Proofs.YtmonepclhbappaaDoor
open Go.RowKit
set_option linter.unusedVariables false

def KT (n₀ n₂ : Nat) (W W' : World) : Prop := Below n₀ W W' ∧ ∀ k cs t fr, n₂ ≤ k → t ≠ 22 → W.heap[k]? = some (.cells cs t fr) → W'.heap[k]? = some (.cells cs t fr)
section
variable {n₀ n₂ : Nat} {A B C W W' : World}
theorem KT.refl (n₀ n₂ : Nat) (W : World) : KT n₀ n₂ W W := ⟨Below.refl _ _, fun _ _ _ _ _ _ h => h⟩
theorem KT.trans (h : KT n₀ n₂ A B) (k : KT n₀ n₂ B C) : KT n₀ n₂ A C := ⟨h.1.trans k.1, fun j cs t fr hj ht ho => k.2 j cs t fr hj ht (h.2 j cs t fr hj ht ho)⟩
theorem KT.of_below (h : Below W.heap.size W W') (hn : n₀ ≤ W.heap.size) : KT n₀ n₂ W W' := ⟨h.mono hn, fun k cs t fr _ _ ho => (h.block k (Array.getElem?_eq_some_iff.1 ho).1).trans ho⟩
theorem KT.putObj {l : Nat} {o : Obj} (o' : Obj) (hn : n₀ ≤ l) (hl : W.heap[l]? = some o) (ho : o.isCells = false) : KT n₀ n₂ W (W.putObj l o') := by
  have hg := grownBy_putObj' W l o'
  refine ⟨⟨hg.os, hg.tape, hg.output, hg.size, fun k hk => World.putObj_heap_other (by omega)⟩, fun k cs t fr _ _ hk => ?_⟩
  by_cases e : k = l
  · subst e
    rw [hl] at hk
    cases hk
    cases ho
  · exact (World.putObj_heap_other e).trans hk
theorem KT.set {b j : Nat} (u : Value) (h0 : n₀ ≤ b) (h2 : b < n₂) : KT n₀ n₂ W (W.setCell ⟨b, j, none⟩ u) :=
  ⟨bel_set (Below.refl _ _) (p := ⟨b, j, none⟩) h0 u, fun k cs t fr hk _ ho => (Below.heap_setCell W ⟨b, j, none⟩ u k (fun e => by have e' : k = b := e; omega)).trans ho⟩
theorem KT.blk {g : Nat} {t : TypeId} {cs : Array Value} (h : KT n₀ n₂ W W') (hb : Blk W g t cs) (hg : n₂ ≤ g) (ht : t ≠ 22) : Blk W' g t cs := h.2 g cs t (0, 0) hg ht hb
theorem KT.own {n B0 : Nat} {v : Value} {xs : List Value} {e : TypeId} (h : KT n₀ n₂ W W') (hb : W.ownsRow B0 e 1 v n xs) (hg : n₂ ≤ B0) (he : e ≠ 22) : W'.ownsRow B0 e 1 v n xs := by
  refine ⟨hb.1, ?_⟩
  rcases hb.2 with h' | ⟨g, cap, cur, rfl, h1, h2, h3⟩
  · exact .inl h'
  · exact .inr ⟨g, cap, cur, rfl, h1, h.2 g _ _ _ (by omega) he h2, h3⟩
end
/-- A slice of ints that lies below n₀, or from n₂ on in a row of ints. -/
def SnT (n₀ n₂ : Nat) (W : World) (A : Option Addr) (n : Nat) (xs : List Value) : Prop := Sl W 1 A n xs ∧ ∀ x : Addr, A = some x → x.block < n₀ ∨ (n₂ ≤ x.block ∧ ∃ cs fr, W.heap[x.block]? = some (.cells cs 3 fr))
theorem SnT.keep {n₀ n₂ : Nat} {W W' : World} {A : Option Addr} {n : Nat} {xs : List Value} (h : SnT n₀ n₂ W A n xs) (hk : KT n₀ n₂ W W') : SnT n₀ n₂ W' A n xs := by
  refine ⟨⟨h.1.1, fun hn => ?_⟩, fun x hx => ?_⟩
  · obtain ⟨b, off, rfl, h2⟩ := h.1.2 hn
    refine ⟨b, off, rfl, fun j v hj => ?_⟩
    have h3 := h2 j v hj
    rcases h.2 _ rfl with h4 | ⟨h4, cs, fr, h5⟩
    · exact (hk.1.cell (p := ⟨b, off + j, none⟩) h4).trans h3
    · have h6 := hk.2 b cs _ fr h4 (by decide) h5
      exact (World.cell?_of_block (w := W) (a := ⟨b, off + j, none⟩) (h6.trans h5.symm)).trans h3
  · rcases h.2 x hx with h4 | ⟨h4, cs, fr, h5⟩
    · exact .inl h4
    · exact .inr ⟨h4, cs, fr, hk.2 _ cs _ fr h4 (by decide) h5⟩
theorem SnT.nil (n₀ n₂ : Nat) (W : World) : SnT n₀ n₂ W none 0 [] := ⟨Sl.nil _ _ _, fun x h => by cases h⟩
theorem SnT.of_own {n₀ n₂ B0 n c : Nat} {W : World} {A : Option Addr} {xs : List Value} (h : W.ownsRow B0 3 1 (.slice A n c) n xs) (hB : n₂ ≤ B0) : SnT n₀ n₂ W A n xs := by
  refine ⟨Sl.of_own h, fun x hx => ?_⟩
  subst hx
  rcases h.2 with ⟨h1, _⟩ | ⟨g, cap, cur, h1, h2, h3, _⟩
  · cases h1
  · cases h1
    exact .inr ⟨Nat.le_trans hB h2, cur, _, h3⟩
end Go.Proofs.YtmonepclhbappaaDoor
/-
  Ranks: Each: the paths of a part come one by one.
-/
namespace Go.Proofs.YtmonepclhbappaaDoor
open Go.RowKit Go.Shelf Go.Maps
attribute [local go_sem] Oper.semAt_some
set_option maxRecDepth 100000
set_option linter.unusedVariables false

theorem room_noneE {F : Fence} (hd : F.depth = none) (k : Nat) : F.room k := fun d h => by rw [hd] at h; cases h
theorem roundIn_anyE {F : Fence} (hd : F.depth = none) {m m' : Nat} {P : Program} {l : Nat} {f : FuncId} {tmps : Array Value} {assign body : Code} {w : World} {R : Ending → World → Prop}
    (h : RoundIn F m P l f tmps assign body w R) : RoundIn F m' P l f tmps assign body w R := ⟨h.1, fun c cs _ => h.2 c cs (room_noneE hd _)⟩
theorem yieldAt_anyE {F : Fence} (hd : F.depth = none) {m : Nat} (m' : Nat) {P : Program} {l : Nat} {args : Array Value} {W : World} {R : Ending → World → Prop} (h : YieldAt F m P l args W R) : YieldAt F m' P l args W R := by
  obtain ⟨fn, tmps, assign, body, hy, hR⟩ := h
  exact ⟨fn, tmps, assign, body, hy, roundIn_anyE hd hR⟩

/-- What a round knows of the row that it is handed: a new one, the next of the list. -/
def KnE (n₁ : Nat) (G : List (List Int)) (pre : List RowE) (x : RowE) (W : World) : Prop :=
  W.ownsRow n₁ 3 1 (rv x) x.2.2.length (x.2.2.map (Value.int .i64)) ∧ G[pre.length]? = some x.2.2
theorem knE_put {n₁ : Nat} {G : List (List Int)} (pre : List RowE) (x : RowE) (W : World) (l : Nat) (o o' : Obj) (hl : W.heap[l]? = some o) (ho : o.isCells = false) (h : KnE n₁ G pre x W) : KnE n₁ G pre x (W.putObj l o') := ⟨ownsRow_putObj h.1 o' hl ho, h.2⟩
/-- The paths of a part. -/
def partP (od : List Rw) (f t : Int) : List (List Int) := ((allP od).take (min t (totP od)).toNat).drop (max f 0).toNat
theorem partP_at {od : List Rw} {f t : Int} {i : Nat} (h : (max f 0).toNat + i < (min t (totP od)).toNat) : ∃ P, (allP od)[(max f 0).toNat + i]? = some P ∧ (partP od f t)[i]? = some P := by
  have hl : (max f 0).toNat + i < (allP od).length := by unfold totP at h; omega
  refine ⟨(allP od)[(max f 0).toNat + i], List.getElem?_eq_getElem hl, ?_⟩
  unfold partP
  rw [List.getElem?_drop, List.getElem?_take, if_pos h, List.getElem?_eq_getElem hl]
theorem partP_len (od : List Rw) (f t : Int) : (partP od f t).length = (min t (totP od)).toNat - (max f 0).toNat := by
  unfold partP
  rw [List.length_drop, List.length_take]
  unfold totP
  omega

set_option maxHeartbeats 16000000 in
theorem each_gives (d n₀ n₂ : Nat) (Bp Br q p N : Nat) (od : List Rw) (f t : Int) (w0 w : World) (hf : i64ok f) (ht : i64ok t) (hO : OdOK od N) (hk : RkM w0 q p od) (hn0 : w0.heap.size = n₀) (hb : Below n₀ w0 w) (hp : Blk w Bp 63 #[.int .i64 f, .int .i64 t]) (hr : Blk w Br 57 #[.pointer (some ⟨q, 0, none⟩)]) (hBr : n₂ ≤ Br) :
    GivesKnown Fence.wide d Tryd.prog 71 #[.pointer (some ⟨Bp, 0, none⟩), .pointer (some ⟨Br, 0, none⟩)] (fun x : RowE => #[rv x]) (KnE w.heap.size (partP od f t)) (fun _ => KT n₀ n₂) (fun xs => xs.length = (partP od f t).length) (fun pre => 0 < pre.length ∧ pre.length ≤ (partP od f t).length) (partP od f t).length w := by
  intro l J Jx W hW hJ hJx hY h0
  have hJ' : ∀ s A B, J s A → A.grownBy B none → J s B := fun s A B h hg => hJ s A B none h hg (fun r e => by cases e)
  have hYA : ∀ (m : Nat) (pre : List RowE) (x : RowE) (W1 : World), J pre W1 → KnE w.heap.size (partP od f t) pre x W1 → pre.length < (partP od f t).length → YieldAt Fence.wide m Tryd.prog l #[rv x] W1 fun e W' =>
    (e = .returned (.bool true) ∧ J (pre ++ [x]) W' ∧ KT n₀ n₂ W1 W') ∨ (e = .returned (.bool false) ∧ Jx (pre ++ [x]) W') := fun m pre x W1 h1 h2 h3 => yieldAt_anyE rfl m (hY pre x W1 h1 h2 h3)
  have hbW : Below n₀ w0 W := hb.trans (hW.mono (by rw [← hn0]; exact hb.size))
  have hp := hp.keep hW
  have hr := hr.keep hW
  have hws := hW.size
  have c0 := hp.cell 0
  have c1 := hp.cell 1
  have c2 := hr.cell 0
  simp at c0 c1 c2
  have HRW := Lib.hid (show RkM W q p od from hk.keep (by rw [hn0]; exact hbW))
  have HK := Lib.hid hk
  have HBW := Lib.hid hbW
  have HR := Lib.hid hr
  have HJ := Lib.hid hJ'
  have HY := Lib.hid hYA
  have H0 := Lib.hid h0
  have HO := Lib.hid hO
  have HWs := Lib.hid hws
  have HN0 := Lib.hid hn0
  have HTb := Lib.hid (show 0 ≤ totP od ∧ totP od ≤ 4611686018427387904 from ⟨Int.natCast_nonneg _, hO.F.2⟩)
  have HFt := Lib.hid (show -9223372036854775808 ≤ f ∧ f ≤ 9223372036854775807 ∧ -9223372036854775808 ≤ t ∧ t ≤ 9223372036854775807 from ⟨hf.1, hf.2, ht.1, ht.2⟩)
  have HLen := Lib.hid (partP_len od f t)
  have HAt := Lib.hid (fun i h => partP_at (od := od) (f := f) (t := t) (i := i) h)
  clear hW hY hJ hJx hJ' hYA hbW hk hb hp hr h0 hO hn0 hws hf ht
  refine callsIn_of_wp Tryd.func71 rfl trivial ?_ rfl
  simp only [Tryd.ntmps71, List.size_toArray, List.length_cons, List.length_nil, Nat.reduceAdd, Nat.reduceSub, Array.replicate_succ, Array.replicate_zero, List.push_toArray, List.append_toArray, List.nil_append, List.cons_append]
  refine wpIn_wide.2 ?_
  go_wp2_with fail
  go_region_held3 (fun w' => w'.cell? ⟨Bp, 0, none⟩ = some (.int .i64 f) ∧ w'.cell? ⟨Bp, 1, none⟩ = some (.int .i64 t) ∧ w'.cell? ⟨Br, 0, none⟩ = some (.pointer (some ⟨q, 0, none⟩))) (go_keep)
    ((go_at_call 34; refine (RkTotal_any q p od _ (HRW.out.keep (bel_drewN (Below.refl _ _) 1))).mono ?_; rintro e' w3 ⟨rfl, rfl⟩))
  have HKT := Lib.hid (show KT n₀ n₂ W (W.drewN 1) from KT.of_below (bel_drewN (Below.refl _ _) 1) (by rw [← HN0.out]; exact HBW.out.size))
  have HJ1 := Lib.hid (HJ.out _ _ _ H0.out (gb_below (bel_drewN (Below.refl W.heap.size W) 1) none))
  have HSz := Lib.hid (show (W.drewN 1).heap.size = W.heap.size from rfl)
  have d0 : (W.drewN 1).cell? ⟨Bp, 0, none⟩ = some (.int .i64 f) := c0
  clear c0 c1 c2 H0
  obtain ⟨w1, hw1⟩ : ∃ w1, w1 = W.drewN 1 := ⟨_, rfl⟩
  rw [← hw1] at HKT HJ1 HSz d0 ⊢
  clear hw1
  go_wp2_with fail
  clear d0
  refine (wpIn_wide (n := d)).1 ?_
  obtain ⟨lo, hlo⟩ : ∃ lo : Nat, max f 0 = (lo : Int) := ⟨(max f 0).toNat, by omega⟩
  obtain ⟨hi, hhi⟩ : ∃ hi : Nat, hi = (min t (totP od)).toNat := ⟨_, rfl⟩
  have HLen2 := Lib.hid (show (partP od f t).length = hi - lo from by rw [HLen.out, ← hhi, hlo]; rfl)
  have HAt2 := Lib.hid (fun i (h : lo + i < hi) => by have := HAt.out i (by rw [hlo, ← hhi]; exact h); rw [hlo] at this; exact this)
  have HLt := Lib.hid (show ∀ i : Nat, (lo + i < hi → (lo : Int) + (i : Int) < min t (totP od)) ∧ (¬ lo + i < hi → ¬ (lo : Int) + (i : Int) < min t (totP od)) from fun i => by omega)
  have HHi := Lib.hid (show hi ≤ 4611686018427387904 from by have := HTb.out; omega)
  have HLo := Lib.hid hlo
  obtain ⟨tq, hto⟩ : ∃ tq, min t (totP od) = tq := ⟨_, rfl⟩
  rw [hto] at HLt ⊢
  rw [hlo]
  clear hhi hto hlo HAt HLen HTb HFt
  gi_loopw [5] (fun iv wr => ∃ (i : Nat) (ys : List RowE), i ≤ hi - lo ∧ iv = .int .i64 ((lo : Int) + (i : Int)) ∧ Hid (ys.length = i) ∧ Hid (J ys wr) ∧ Hid (KT n₀ n₂ W wr)) (fun iv _ => hi - (intOf iv).toNat)
  case atStart => exact ⟨0, [], Nat.zero_le _, by simp, Lib.hid rfl, HJ1, HKT⟩
  case round =>
    obtain ⟨i, ys, hi1, rfl, HYs, HJi, HKi⟩ := hrel
    by_cases hlt : lo + i < hi
    · have hlt' := (HLt.out i).1 hlt
      obtain ⟨P, hP, hPp⟩ := HAt2.out i hlt
      have hcr := (HKi.out.blk HR.out hBr (by decide)).cell 0
      simp at hcr
      have HBw := Lib.hid (HBW.out.trans HKi.out.1)
      have hPl : P.length = N := HO.out.P P (List.mem_of_getElem? hP)
      have HA := Lib.hid ((At_ok q p N (lo + i) P od wr (HK.out.keep (by rw [HN0.out]; exact HBw.out)) HO.out.B HO.out.len HO.out.h1 HO.out.h8 HO.out.Nu HO.out.C HO.out.F hP hPl).mono (R' := fun e W1 => ∃ C c, e = .returned (.tuple #[.slice C N c, .nilIface]) ∧ KT n₀ n₂ wr W1 ∧ YieldAt Fence.wide (d - 1) Tryd.prog l #[.slice C N c] W1 fun e W' =>
        (e = .returned (.bool true) ∧ J (ys ++ [(C, c, P)]) W' ∧ KT n₀ n₂ W1 W') ∨ (e = .returned (.bool false) ∧ Jx (ys ++ [(C, c, P)]) W')) (fun e W1 h => by
          obtain ⟨v, rfl, hown, hb⟩ := h
          obtain ⟨C, c, rfl, hs⟩ := Sl.own hown
          have hsz := HBw.out.size
          have hsz2 := HKi.out.1.size
          refine ⟨C, c, rfl, KT.of_below hb (by rw [← HN0.out]; exact hsz), ?_⟩
          have h := HY.out (d - 1) ys (C, c, P) W1 (HJ.out _ _ _ HJi.out (gb_below hb none)) ⟨?_, by rw [HYs.out]; exact hPp⟩ (by rw [HYs.out, HLen2.out]; omega)
          · simp only [rv, hPl] at h
            exact h
          · simp only [rv, hPl]
            exact own_mono hown (Nat.le_trans HWs.out hsz2)))
      rw [show ((lo + i : Nat) : Int) = (lo : Int) + (i : Int) from Int.natCast_add _ _] at HA
      have hhi2 := HHi.out
      clear hP hPp hPl
      gi_wp2_with (first
        | ((try refine ⟨trivial, ?_⟩); (try refine ⟨fun h => (by cases h), ?_⟩); gi_at_call 38; refine (callsIn_wide.2 HA.out).mono ?_; clear HA; rintro e W1 ⟨C, c, rfl, hkt, fn, tmps, assign, body, hy, hR⟩; have HKt := Lib.hid hkt; have HRr := Lib.hid hR; clear hkt hR)
        | ((try refine ⟨fun h => (by cases h), ?_⟩); refine HRr.out.mono ?_; clear HRr; rintro e W2 (⟨rfl, hJ2, hk2⟩ | ⟨rfl, hx2⟩)))
      · have HJ2 := Lib.hid hJ2
        have HK2 := Lib.hid hk2
        clear hJ2 hk2 hy
        go_roundw
        case rel => exact ⟨i + 1, ys ++ [(C, c, P)], by omega, by go_num, Lib.hid (by rw [List.length_append, HYs.out]; rfl), HJ2, Lib.hid ((HKi.out.trans HKt.out).trans HK2.out)⟩
        case measure => simp [intOf]; omega
      · refine bodyPost_ret (results_none rfl _ _ _) rfl ?_
        exact ⟨⟨_, rfl⟩, .inr ⟨_, ⟨by rw [List.length_append]; simp, by rw [List.length_append, HYs.out, HLen2.out]; simp; omega⟩, hx2⟩⟩
    · have hlt' := (HLt.out i).2 hlt
      have HE := Lib.hid (show i = hi - lo from by omega)
      gi_wp2
      go_end0
      exact ⟨⟨_, rfl⟩, .inl ⟨ys, by rw [HYs.out, HLen2.out]; exact HE.out, HJi.out⟩⟩
end Go.Proofs.YtmonepclhbappaaDoor
/-
  Rows of ints that came in.
-/
namespace Go.Proofs.YtmonepclhbappaaDoor
open Go.ChangeShapes Go.WideShapes Go.ChangeAt Go.RowKit
set_option linter.unusedVariables false
section
variable {H : Type} {enc : TypeId × Value → H} {w : World} {base : Nat} {spare : Nat → Bool} {held : Bool}
theorem open_row {fuel : Nat} {v : Value} {y : DataW H × List MemPlace} (h : DataW.trod enc Tryd.prog w base spare held fuel 22 [v] = some y) : ∃ t : Option Addr × Nat × List Int, v = rv t ∧ RowOK w t := by
  rcases Deep.open_slice Tryd.underlying22 h with ⟨h0, _⟩ | ⟨a, len, cap, m, f', D, Pl, hv, _, hl, hm, hmm, _, hx⟩
  · injection h0 with h0 _
    exact ⟨(none, 0, []), h0, Sl.nil _ _ _, Nat.le_refl _, Nat.zero_le _⟩
  · injection hv with hv _
    subst hv
    obtain ⟨_, zs, h1, h2, _⟩ := open_sl_ints Tryd.underlying22 Tryd.underlying3 (by kernel_rfl) h
    subst h1
    exact ⟨(some a, cap, zs), rfl, h2, hl, Nat.le_trans hm (by decide)⟩
theorem rows_of {w : World} : ∀ css : List (List Value), (∀ cs ∈ css, ∃ t, cs = [rv t] ∧ RowOK w t) → ∃ its : List (Option Addr × Nat × List Int), css.flatten = its.map rv ∧ its.length = css.length ∧ AllRows w its
  | [], _ => ⟨[], rfl, rfl, fun t ht => by cases ht⟩
  | cs :: css, h => by
    obtain ⟨t, rfl, ht⟩ := h cs (List.mem_cons_self ..)
    obtain ⟨its, h1, h2, h3⟩ := rows_of css fun c hc => h c (List.mem_cons_of_mem _ hc)
    refine ⟨t :: its, by rw [List.flatten_cons, h1]; rfl, by simp [h2], fun u hu => ?_⟩
    rcases List.mem_cons.1 hu with rfl | hu
    · exact ht
    · exact h3 u hu
theorem open_sl_rows {fuel n c : Nat} {A : Option Addr} {x : DataW H × List MemPlace} (h : DataW.trod enc Tryd.prog w base spare held fuel 40 [.slice A n c] = some x) :
    n ≤ maxLen ∧ ∃ its : List (Option Addr × Nat × List Int), its.length = n ∧ Sl w 1 A n (its.map rv) ∧ AllRows w its := by
  obtain ⟨hm, css, h1, h2, h3⟩ := open_sl (s := 1) (by kernel_rfl) (by omega) Tryd.underlying40 h
  obtain ⟨its, h4, h5, h6⟩ := rows_of (w := w) css fun cs hc => by
    obtain ⟨hl, fu, y, hy⟩ := h3 cs hc
    obtain ⟨v, rfl⟩ : ∃ v, cs = [v] := List.length_eq_one_iff.1 hl
    obtain ⟨t, rfl, ht⟩ := open_row hy
    exact ⟨t, rfl, ht⟩
  rw [h4] at h2
  exact ⟨hm, its, by omega, h2, h6⟩
end
end Go.Proofs.YtmonepclhbappaaDoor
/-
  Laws with ranges over functions: their ends, walked plainly.
-/
namespace Go.Proofs.YtmonepclhbappaaDoor
open Go.RowKit
set_option linter.unusedVariables false
section
variable {F : Fence} {n : Nat} {P : Program} {fn : Func} {R : Ending → World → Prop} {a : Act} {w : World} {v : Value}
theorem mks0 (hd : a.defers = []) (hr : (results fn a.tmps).run P w = .ok v w) (hR : R (.returned v) w) : bodyPostM F n P fn R .ret a w := by
  show LeavesInM F n P fn a.tmps R a.defers .returning w
  rw [hd]
  exact ⟨v, hr, hR⟩
theorem mks1 {D : Nat} (hd : a.defers = [{ target := .collected D, args := #[] }]) (hK : w.heap[D]? = some (.deferred (some [])))
    (hr : (results fn a.tmps).run P (w.putObj D (.deferred none)) = .ok v (w.putObj D (.deferred none))) (hR : R (.returned v) (w.putObj D (.deferred none))) : bodyPostM F n P fn R .ret a w := by
  show LeavesInM F n P fn a.tmps R a.defers .returning w
  rw [hd]
  exact ⟨by simp, .inl ⟨_, _, rfl, run_takeDeferred hK, v, hr, hR⟩⟩
theorem mks2 {D E : Nat} (hd : a.defers = [{ target := .collected E, args := #[] }, { target := .collected D, args := #[] }]) (hE : w.heap[E]? = some (.deferred (some []))) (hD : (w.putObj E (.deferred none)).heap[D]? = some (.deferred (some [])))
    (hr : (results fn a.tmps).run P ((w.putObj E (.deferred none)).putObj D (.deferred none)) = .ok v ((w.putObj E (.deferred none)).putObj D (.deferred none))) (hR : R (.returned v) ((w.putObj E (.deferred none)).putObj D (.deferred none))) : bodyPostM F n P fn R .ret a w := by
  show LeavesInM F n P fn a.tmps R a.defers .returning w
  rw [hd]
  exact ⟨by simp, .inl ⟨_, _, rfl, run_takeDeferred hE, by simp, .inl ⟨_, _, rfl, run_takeDeferred hD, v, hr, hR⟩⟩⟩
end
/-- The marks' blocks are shut, one after the other. -/
def shutM (Ds : List Nat) (w : World) : World := Ds.foldl (fun w D => w.putObj D (.deferred none)) w
theorem leavesM {F : Fence} {n : Nat} {P : Program} {fn : Func} {tmps : Array Value} {R : Ending → World → Prop} {v : Value} : ∀ (Ds : List Nat) (w : World), (∀ D ∈ Ds, w.heap[D]? = some (.deferred (some []))) → Ds.Nodup →
    (results fn tmps).run P (shutM Ds w) = .ok v (shutM Ds w) → R (.returned v) (shutM Ds w) → LeavesInM F n P fn tmps R (Ds.map fun D => { target := .collected D, args := #[] }) .returning w
  | [], w, _, _, hr, hR => ⟨v, hr, hR⟩
  | D :: Ds, w, hK, hn, hr, hR => by
    have hn' := List.nodup_cons.1 hn
    refine ⟨by simp, .inl ⟨_, _, rfl, run_takeDeferred (hK D (List.mem_cons_self ..)), ?_⟩⟩
    refine leavesM Ds (w.putObj D (.deferred none)) (fun D' hD' => ?_) hn'.2 hr hR
    exact (World.putObj_heap_other (fun e => hn'.1 (by rw [← e]; exact hD'))).trans (hK D' (List.mem_cons_of_mem _ hD'))
theorem shutM_blk {B : Nat} {t : TypeId} {u : Array Value} : ∀ (Ds : List Nat) (w : World), (∀ D ∈ Ds, w.heap[D]? = some (.deferred (some []))) → Ds.Nodup → Blk w B t u → Blk (shutM Ds w) B t u
  | [], _, _, _, h => h
  | D :: Ds, w, hK, hn, h => by
    have hn' := List.nodup_cons.1 hn
    refine shutM_blk Ds (w.putObj D (.deferred none)) (fun D' hD' => (World.putObj_heap_other (fun e => hn'.1 (by rw [← e]; exact hD'))).trans (hK D' (List.mem_cons_of_mem _ hD'))) hn'.2 (h.grown (grownBy_putObj' _ _ _) (fun e => ?_))
    cases e
    have h2 := hK B (List.mem_cons_self ..)
    rw [show w.heap[B]? = _ from h] at h2
    cases h2
theorem shutM_below {w0 : World} : ∀ (Ds : List Nat) (w : World), (∀ D ∈ Ds, w.heap[D]? = some (.deferred (some []))) → Ds.Nodup → (∀ D ∈ Ds, w0.heap.size ≤ D) → Below w0.heap.size w0 w → Below w0.heap.size w0 (shutM Ds w)
  | [], _, _, _, _, h => h
  | D :: Ds, w, hK, hn, hD, h => by
    have hn' := List.nodup_cons.1 hn
    exact shutM_below Ds (w.putObj D (.deferred none)) (fun D' hD' => (World.putObj_heap_other (fun e => hn'.1 (by rw [← e]; exact hD'))).trans (hK D' (List.mem_cons_of_mem _ hD'))) hn'.2 (fun D' h' => hD D' (List.mem_cons_of_mem _ h')) (h.trans (belowK_b (w := w0) (Nat.le_refl _) w D _ _ (hD D (List.mem_cons_self ..)) (hK D (List.mem_cons_self ..)) rfl rfl))
/-- A law's end behind ranges over functions: the result's block holds true, the marks' blocks are shut. -/
theorem law_end {k : Nat} {P : Program} {fn : Func} {a : Act} {w W : World} (Ds : List Nat) {t : TypeId} {v0 : Value} (hres : ∀ V : World, V.cell? ⟨w.heap.size, 0, none⟩ = some (.bool true) → (results fn a.tmps).run P V = .ok (.bool true) V) (hd : a.defers = Ds.map fun D => { target := .collected D, args := #[] }) (hK : ∀ D ∈ Ds, W.heap[D]? = some (.deferred (some []))) (hn : Ds.Nodup)
    (hr : Blk W w.heap.size t #[v0]) (hb : Below w.heap.size w W) (hD : ∀ D ∈ Ds, w.heap.size ≤ D) :
    bodyPostM Fence.wide k P fn (fun e w' => e = .returned (.bool true) ∧ Below w.heap.size w w') .ret a (W.setCell ⟨w.heap.size, 0, none⟩ (.bool true)) := by
  show LeavesInM _ _ _ _ _ _ a.defers .returning _
  rw [hd]
  have hK2 : ∀ D ∈ Ds, (W.setCell ⟨w.heap.size, 0, none⟩ (.bool true)).heap[D]? = some (.deferred (some [])) := fun D h => (KeepsOthers.setCell _ _ _).same D _ (hK D h) rfl
  have hE := (shutM_blk Ds _ hK2 hn (hr.set_ 0 (.bool true))).cell 0
  simp at hE
  exact leavesM Ds _ hK2 hn (v := .bool true) (hres _ hE) ⟨rfl, shutM_below Ds _ hK2 hn hD (hb.setCell (p := ⟨w.heap.size, 0, none⟩) (Nat.le_refl _) _)⟩
/-- A part of the code that ends in its normal way alone. -/
theorem wp_thenF {P : Program} {c : Code} {K : Act → World → Prop} {Q : Exit → Act → World → Prop} {a : Act} {w : World} (h : c.wp P (Exit.then K fun _ _ _ => False) a w) : c.wp P (Exit.then K Q) a w :=
  wp_mono h (by intro e a w h; cases e <;> first | exact h | exact h.elim)
end Go.Proofs.YtmonepclhbappaaDoor
/-
  Boxes (variables that lie in blocks) and rows under what an iterator may turn.
-/
namespace Go.Proofs.YtmonepclhbappaaDoor
open Go.RowKit
set_option linter.unusedVariables false
section
variable {A B : World} {row : Option Nat}
abbrev NonCell (A : World) (row : Option Nat) : Prop := ∀ r, row = some r → ∃ o : Obj, A.heap[r]? = some o ∧ o.isCells = false
theorem blk_gb {g : Nat} {t : TypeId} {cs : Array Value} (h : Blk A g t cs) (hg : A.grownBy B row) (hr : NonCell A row) : Blk B g t cs := h.grown hg fun e => by
  obtain ⟨o, h1, h2⟩ := hr g e.symm
  unfold Blk at h
  rw [h] at h1
  cases h1
  cases h2
theorem sl_gb {n : Nat} {C : Option Addr} {xs : List Value} (h : Sl A 1 C n xs) (hg : A.grownBy B row) (hr : NonCell A row) : Sl B 1 C n xs := by
  refine ⟨h.1, fun hn => ?_⟩
  obtain ⟨b, off, rfl, h2⟩ := h.2 hn
  refine ⟨b, off, rfl, fun j v hj => ?_⟩
  have hc := h2 j v hj
  refine (World.cell?_of_block (w := A) (a := ⟨b, off + j, none⟩) (hg.block b (World.block_lt_of_cell? A _ hc) fun e => ?_)).trans hc
  obtain ⟨o, h3, h4⟩ := hr b e.symm
  exact NC.cell ⟨o, h3, h4⟩ hc rfl
theorem row_gb {t : Option Addr × Nat × List Int} (h : RowOK A t) (hg : A.grownBy B row) (hr : NonCell A row) : RowOK B t := ⟨sl_gb h.1 hg hr, h.2⟩
theorem bel_gb {n₀ : Nat} {w0 : World} (h : Below n₀ w0 A) (hn : n₀ ≤ w0.heap.size) (hg : A.grownBy B row) (hr : ∀ r, row = some r → n₀ ≤ r) : Below n₀ w0 B := h.grown hg (Nat.le_trans hn h.size) fun k e => hr k e
/-- What a law holds while a range over a function goes on, kept by what the iterator does. -/
theorem ownFrom_of {β : Type} {n : Nat} {I : β → World → Prop} (h : ∀ s A B row, I s A → A.grownBy B row → NonCell A row → (∀ r, row = some r → n ≤ r) → I s B) : OwnFrom n I := fun s A B row hs hg hr => h s A B row hs hg (fun r e => (hr r e).2) (fun r e => (hr r e).1)
theorem ko_belowE {W W' : World} (hb : Below W.heap.size W W') : KeepsOthers W W' := ⟨hb.size, fun k o hk _ => (hb.block k (Array.getElem?_eq_some_iff.1 hk).1).trans hk⟩
/-- A row of ints behind a store into another block. -/
theorem sl_far {W : World} {n : Nat} {C : Option Addr} {xs : List Value} (h : Sl W 1 C n xs) {p : Addr} (hp : ∀ a : Addr, C = some a → a.block ≠ p.block) (u : Value) : Sl (W.setCell p u) 1 C n xs := by
  refine ⟨h.1, fun hn => ?_⟩
  obtain ⟨b, off, rfl, h2⟩ := h.2 hn
  refine ⟨b, off, rfl, fun j v hj => ?_⟩
  have hc := h2 j v hj
  exact (World.cell?_of_block (w := W) (a := ⟨b, off + j, none⟩) (Below.heap_setCell W p u b (hp _ rfl))).trans hc
end
end Go.Proofs.YtmonepclhbappaaDoor
