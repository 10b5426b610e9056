/-
  Part 12 of the proof of RankSteps: RankSteps.
-/
import Derived.BigQuiet
import Derived.Deep.DeepCutAuto
import Derived.Test.YtmonepclhbappaaDoorRankStepsM7
import Derived.Test.YtmonepclhbappaaDoorRankStepsM11
import Derived.Test.YtmonepclhbappaaDoorRankStepsM5
/-
  RankSteps.
-/
namespace Go.Proofs.YtmonepclhbappaaDoor
open Go.RowKit Go.Maps
attribute [local go_sem] Oper.semAt_some
set_option maxRecDepth 100000
set_option linter.unusedVariables false

/-- What holds while paths come that are counted in a block. -/
def CtI (w4 : World) (q lo Bo c0 : Nat) (Ds : List Nat) (pre : List RowE) (W : World) : Prop :=
  Below w4.heap.size w4 W ∧ Blk W w4.heap.size 57 #[.pointer (some ⟨q, 0, none⟩)] ∧ Blk W (w4.heap.size + 1) 2 #[.int .i64 (lo : Int)] ∧ Blk W Bo 2 #[.int .i64 ((c0 + pre.length : Nat) : Int)] ∧ ∀ D ∈ Ds, W.heap[D]? = some (.deferred (some []))
theorem CtI.own {w4 : World} {q lo Bo c0 n : Nat} {Ds : List Nat} (hn : w4.heap.size ≤ n) (hD : ∀ D ∈ Ds, D < n) : OwnFrom n (CtI w4 q lo Bo c0 Ds) := ownFrom_of fun s A B row ⟨h1, h2, h3, h4, h5⟩ hg hr hge =>
  ⟨bel_gb h1 (Nat.le_refl _) hg (fun r e => Nat.le_trans hn (hge r e)), blk_gb h2 hg hr, blk_gb h3 hg hr, blk_gb h4 hg hr, fun D hd => (hg.block D (Array.getElem?_eq_some_iff.1 (h5 D hd)).1 (fun e => by have := hge D e.symm; have := hD D hd; omega)).trans (h5 D hd)⟩
/-- .. while they are held against the one ahead. -/
def StI (w4 : World) (q lo Bl Bc : Nat) (G : List (List Int)) (pre : List RowE) (W : World) : Prop :=
  Below w4.heap.size w4 W ∧ Blk W w4.heap.size 57 #[.pointer (some ⟨q, 0, none⟩)] ∧ Blk W (w4.heap.size + 1) 2 #[.int .i64 (lo : Int)] ∧ Blk W Bc 2 #[.int .i64 ((pre.length : Nat) : Int)] ∧
    (∃ v, Blk W Bl 22 #[v] ∧ ∀ x, pre.getLast? = some x → v = rv x ∧ RowOK W x) ∧ ∀ (i : Nat) (x : RowE), pre[i]? = some x → G[i]? = some x.2.2
theorem StI.own {w4 : World} {q lo Bl Bc n : Nat} {G : List (List Int)} (hn : w4.heap.size ≤ n) : OwnFrom n (StI w4 q lo Bl Bc G) := ownFrom_of fun s A B row ⟨h1, h2, h3, h4, ⟨v, h5, h6⟩, h7⟩ hg hr hge =>
  ⟨bel_gb h1 (Nat.le_refl _) hg (fun r e => Nat.le_trans hn (hge r e)), blk_gb h2 hg hr, blk_gb h3 hg hr, blk_gb h4 hg hr, ⟨v, blk_gb h5 hg hr, fun x hx => ⟨(h6 x hx).1, row_gb (h6 x hx).2 hg hr⟩⟩, h7⟩

set_option maxHeartbeats 32000000 in
theorem RankSteps_walk (a : Int) (its : List (Option Addr × Nat × List Int)) (Q : Option Addr) (m cq : Nat) (x y : Nat) (w : World) (hg : ErrT w) (hm : its.length = m) (hq : Sl w 1 Q m (its.map rv)) (hr : AllRows w its) (hx : x < 256) (hy : y < 256) :
    Calls Tryd.prog 10 #[.int .i64 a, .slice Q m cq, .int .u8 (x : Int), .int .u8 (y : Int)] w fun e w' => e = .returned (.bool true) ∧ Below w.heap.size w w' := by
  have HQ := Lib.hid hq
  have HR := Lib.hid hr
  have HM := Lib.hid hm
  have HG := Lib.hid hg
  have hB0 := bel_al (Below.refl w.heap.size w) (.cells #[.bool false] 4)
  have HBx := Lib.hid (Blk.new w 4 #[.bool false])
  have HAl := Lib.hid ((alive14 (w.alloc (.cells #[.bool false] 4)) (hg.keep hB0)).mono (R' := fun e w1 => e = .returned (.bool true) ∧ Blk w1 w.heap.size 4 #[.bool false] ∧ Below w.heap.size w w1) (fun e w1 h => ⟨h.1, HBx.out.keep h.2, hB0.andThen h.2⟩))
  clear hq hr hm hg hB0 HBx
  refine (callsIn_wide (n := 5)).1 ?_
  refine callsIn_of_wp_marks Tryd.func10 rfl trivial ?_ rfl
  simp only [Tryd.ntmps10, List.size_toArray, List.length_cons, List.length_nil, Nat.reduceAdd, Nat.reduceSub, Array.replicate_succ, Array.replicate_zero, List.push_toArray, List.append_toArray, List.nil_append, List.cons_append]
  refine wpIn_wide.2 ?_
  go_upto_region 3 with (go_at_call 29; refine HAl.out.mono ?_; clear HAl; rintro e w1 ⟨rfl, hx1, hb1⟩; have HX1 := Lib.hid hx1; have HB1 := Lib.hid hb1; clear hb1 hx1)
  have HMd := Lib.hid ((Made_any a its Q m cq w1 HM.out (HQ.out.keep HB1.out) (HR.out.keep HB1.out)).mono (R' := fun e w3 => ∃ (pv : Value) (bv : Bool), e = .returned (.tuple #[pv, .bool bv]) ∧ Blk w3 w.heap.size 4 #[.bool false] ∧ Below w.heap.size w w3 ∧ (bv = true → ∃ n p : Nat, a = n ∧ 1 ≤ n ∧ n ≤ 5 ∧ m ≤ 12 ∧ Good n its ∧ pv = .pointer (some ⟨p, 0, none⟩) ∧ OdM w3 p (odOf n (its.map (·.2.2))))) (fun e w3 h => by
    rcases h with ⟨rfl, hb⟩ | ⟨n, p, h1, h2, h3, h4, h5, rfl, h6, hb⟩
    · exact ⟨_, _, rfl, HX1.out.keep hb, HB1.out.andThen hb, fun h => by cases h⟩
    · exact ⟨_, _, rfl, HX1.out.keep hb, HB1.out.andThen hb, fun _ => ⟨n, p, h1, h2, h3, h4, h5, rfl, h6⟩⟩))
  clear HX1 HB1
  go_upto_region 4 with (go_at_call 26; refine HMd.out.mono ?_; clear HMd; rintro e w3 ⟨pv, bv, rfl, hx, hb, hd⟩; have HX := Lib.hid hx; have HW := Lib.hid hb; have HD := Lib.hid hd; clear hx hb hd)
  cases bv with
  | false =>
    have cx := HX.out.cell 0
    have fx := HX.out.frozen 0
    simp at cx
    go_wp2_with fail
    have hE := (HX.out.set_ 0 (.bool true)).cell 0
    simp at hE
    exact mks0 rfl (v := .bool true) (by simp [results, Tryd.results10, go_sem, hE]) ⟨rfl, HW.out.setCell (p := ⟨w.heap.size, 0, none⟩) (Nat.le_refl _) _⟩
  | true =>
    obtain ⟨n, p, rfl, h1, h5, h12, hgd, rfl, hod⟩ := HD.out rfl
    have HOd := Lib.hid hod
    have HGd := Lib.hid hgd
    clear HD hod hgd
    have cx := HX.out.cell 0
    have fx := HX.out.frozen 0
    simp at cx
    by_cases h4 : 4 < n
    · have h4' : (4 : Int) < (n : Int) := by omega
      go_wp2_with fail
      have hE := (HX.out.set_ 0 (.bool true)).cell 0
      simp at hE
      exact mks0 rfl (v := .bool true) (by simp [results, Tryd.results10, go_sem, hE]) ⟨rfl, HW.out.setCell (p := ⟨w.heap.size, 0, none⟩) (Nat.le_refl _) _⟩
    · have h4' : ¬ (4 : Int) < (n : Int) := by omega
      have hll : (its.map (·.2.2)).length ≤ 13 := by rw [List.length_map, HM.out]; omega
      have hlen : ∀ x ∈ its.map (·.2.2), x.length = n := fun x hx => by
        obtain ⟨t, ht, rfl⟩ := List.mem_map.1 hx
        exact (HGd.out t ht).1
      have hnum : ∀ x ∈ its.map (·.2.2), ∀ y ∈ x, numOK y := fun x hx => by
        obtain ⟨t, ht, rfl⟩ := List.mem_map.1 hx
        exact (HGd.out t ht).2
      have HOk := Lib.hid (odOf_ok n _ h1 h5 hll hlen hnum)
      have HOf := Lib.hid (RankOf_any p n (odOf n (its.map (·.2.2))) w3 HOd.out HOk.out.B HOk.out.len h1 (by omega) HOk.out.Nu HOk.out.C HOk.out.F)
      obtain ⟨od, hod⟩ : ∃ od, od = odOf n (its.map (·.2.2)) := ⟨_, rfl⟩
      rw [← hod] at HOf HOk
      clear hod hlen hnum hll HOd HGd cx fx
      obtain ⟨tot, htot⟩ : ∃ tot : Nat, totP od = (tot : Int) := ⟨_, rfl⟩
      have HTot := Lib.hid htot
      have HTb := Lib.hid (show tot ≤ 4611686018427387904 from by have := HOk.out.F.2; omega)
      go_upto_region 10 with (first
        | (go_at_call 30; refine HOf.out.mono ?_; clear HOf; rintro e w4 ⟨q, rfl, hrk, hb⟩; have HRk := Lib.hid hrk; have HX4 := Lib.hid (HX.out.keep hb); have HW4 := Lib.hid (HW.out.andThen hb); clear hrk hb)
        | (go_at_call 34; refine (RkTotal_any q p od _ (HRk.out.keep (bel_al (Below.refl _ _) _))).mono ?_; rw [HTot.out]; rintro e w5 ⟨rfl, rfl⟩))
      clear HX HW
      obtain ⟨ra, hra⟩ : ∃ ra : Nat, (x : Int).tmod ((tot : Int) + 1) = (ra : Int) ∧ ra ≤ tot := ⟨x % (tot + 1), by rw [Int.tmod_eq_emod_of_nonneg (by omega)]; rfl, by have := Nat.mod_lt x (show 0 < tot + 1 by omega); omega⟩
      obtain ⟨rb, hrb⟩ : ∃ rb : Nat, (y : Int).tmod ((tot : Int) + 1) = (rb : Int) ∧ rb ≤ tot := ⟨y % (tot + 1), by rw [Int.tmod_eq_emod_of_nonneg (by omega)]; rfl, by have := Nat.mod_lt y (show 0 < tot + 1 by omega); omega⟩
      have ha1 := hra.1
      have hb1 := hrb.1
      have hw1 : IntKind.i64.wrap ((tot : Int) + 1) = (tot : Int) + 1 := by rw [IntKind.wrap_i64]; have := HTb.out; omega
      have hwx : IntKind.i64.wrap (x : Int) = (x : Int) := by rw [IntKind.wrap_i64]; omega
      have hwy : IntKind.i64.wrap (y : Int) = (y : Int) := by rw [IntKind.wrap_i64]; omega
      have hwa : IntKind.i64.wrap (ra : Int) = (ra : Int) := by rw [IntKind.wrap_i64]; have := HTb.out; omega
      have hwb : IntKind.i64.wrap (rb : Int) = (rb : Int) := by rw [IntKind.wrap_i64]; have := HTb.out; omega
      have hz : ¬ ((tot : Int) + 1 = 0) := by omega
      have hz2 : (((tot : Int) + 1) == 0) = false := by simp; omega
      go_region_held3 (fun w' => True) (trivial) (fail)
      clear ha1 hb1 hw1 hwx hwy hwa hwb hz hz2
      obtain ⟨W10, hW10⟩ : ∃ W10, ((w4.alloc (.cells #[.pointer (some ⟨q, 0, none⟩)] 57)).alloc (.cells #[.int .i64 (ra : Int)] 2)).drew = W10 := ⟨_, rfl⟩
      have hb10 : Below w4.heap.size w4 W10 := by rw [← hW10]; exact bel_drewN (bel_al (bel_al (Below.refl _ _) _) _) 1
      have hr10 : Blk W10 w4.heap.size 57 #[.pointer (some ⟨q, 0, none⟩)] := by rw [← hW10]; exact ((Blk.new w4 _ _).alloc _).drew
      have hf10 : Blk W10 (w4.heap.size + 1) 2 #[.int .i64 (ra : Int)] := by
        have := Blk.new (w4.alloc (.cells #[.pointer (some ⟨q, 0, none⟩)] 57)) 2 #[.int .i64 (ra : Int)]
        rw [World.size_alloc] at this
        rw [← hW10]
        exact this.drew
      rw [hW10]
      clear hW10
      have cf := hf10.cell 0
      have ff := hf10.frozen 0
      simp at cf
      have HB10 := Lib.hid hb10
      have HR10 := Lib.hid hr10
      have HF10 := Lib.hid hf10
      clear hb10 hr10 hf10
      go_upto_if 58 with (fail)
      go_cut [15, 16] from 58 to 61 (fun v15 v16 wx => ∃ lo hi : Nat, lo ≤ hi ∧ hi ≤ tot ∧ v15 = .int .i64 (hi : Int) ∧ Hid (Below w4.heap.size w4 wx) ∧ Hid (Blk wx w4.heap.size 57 #[.pointer (some ⟨q, 0, none⟩)]) ∧ Hid (Blk wx (w4.heap.size + 1) 2 #[.int .i64 (lo : Int)]))
      case first =>
        refine wp_thenF ?_
        by_cases hab : rb < ra
        · have hab' : (rb : Int) < (ra : Int) := by omega
          go_wp2_with fail
          go_meet
          exact ⟨rb, ra, by omega, hra.2, rfl, Lib.hid (HB10.out.setCell (p := ⟨w4.heap.size + 1, 0, none⟩) (by simp) _), Lib.hid (HR10.out.far (p := ⟨w4.heap.size + 1, 0, none⟩) (by simp) _), Lib.hid (HF10.out.set_ 0 (.int .i64 (rb : Int)))⟩
        · have hab' : ¬ (rb : Int) < (ra : Int) := by omega
          go_wp2_with fail
          go_meet
          exact ⟨ra, rb, by omega, hrb.2, rfl, HB10, HR10, HF10⟩
      case rest =>
        obtain ⟨lo, hi, hlh, hht, rfl, HBc, HRc, HFc⟩ := hcut
        clear HB10 HR10 HF10 cf ff hra hrb
        go_upto_region 17 with (fail)
        obtain ⟨W6, hW6⟩ : ∃ W6, (wc.alloc (.cells #[.slice none 0 0] 22)).alloc (.cells #[.int .i64 0] 2) = W6 := ⟨_, rfl⟩
        have hb6 : Below wc.heap.size wc W6 := by rw [← hW6]; exact bel_al (bel_al (Below.refl _ _) _) _
        have hl6 : Blk W6 wc.heap.size 22 #[.slice none 0 0] := by rw [← hW6]; exact (Blk.new wc _ _).alloc _
        have hc6 : Blk W6 (wc.heap.size + 1) 2 #[.int .i64 0] := by
          have := Blk.new (wc.alloc (.cells #[.slice none 0 0] 22)) 2 #[.int .i64 0]
          rw [World.size_alloc, hW6] at this
          exact this
        have hs6 : W6.heap.size = wc.heap.size + 2 := by rw [← hW6]; simp
        rw [hW6]
        clear hW6
        have cr := (HRc.out.keep hb6).cell 0
        have cf := (HFc.out.keep hb6).cell 0
        simp at cr cf
        have HL6 := Lib.hid hl6
        have HC6 := Lib.hid hc6
        have HB6 := Lib.hid (HBc.out.andThen hb6)
        have HR6 := Lib.hid (HRc.out.keep hb6)
        have HF6 := Lib.hid (HFc.out.keep hb6)
        have HS6 := Lib.hid hs6
        have HWc := Lib.hid HFc.out.lt
        clear HBc HRc HFc hb6 hl6 hc6 hs6
        go_wp2_with (go_at_call 32; refine (Each_any (some ⟨q, 0, none⟩) _ _ _).mono ?_; rintro e w5 ⟨rfl, rfl⟩)
        clear cr cf
        obtain ⟨W5, hW5⟩ : ∃ W5, (W6.alloc (.cells #[.pointer (some ⟨q, 0, none⟩)] 57)).alloc (.cells #[.int .i64 (lo : Int), .int .i64 (hi : Int)] 63) = W5 := ⟨_, rfl⟩
        have hb5 : Below W6.heap.size W6 W5 := by rw [← hW5]; exact bel_al (bel_al (Below.refl _ _) _) _
        have hr5 : Blk W5 W6.heap.size 57 #[.pointer (some ⟨q, 0, none⟩)] := by rw [← hW5]; exact (Blk.new W6 _ _).alloc _
        have hp5 : Blk W5 (W6.heap.size + 1) 63 #[.int .i64 (lo : Int), .int .i64 (hi : Int)] := by
          have := Blk.new (W6.alloc (.cells #[.pointer (some ⟨q, 0, none⟩)] 57)) 63 #[.int .i64 (lo : Int), .int .i64 (hi : Int)]
          rw [World.size_alloc, hW5] at this
          exact this
        rw [hW5]
        clear hW5
        have HB5 := Lib.hid (HB6.out.andThen hb5)
        have HG5 := Lib.hid (partP_len od (lo : Int) (hi : Int))
        have HGl := Lib.hid (show (partP od (lo : Int) (hi : Int)).length = hi - lo from by rw [HG5.out, HTot.out]; omega)
        have hsz5 : w4.heap.size ≤ W5.heap.size := HB5.out.size
        have hn2 : W6.heap.size ≤ W5.heap.size := hb5.size
        refine (wpIn_wide (n := 5)).1 ?_
        refine rangeFunc_one (fun x b => { b with tmps := b.tmps.setIfInBounds 19 (rv x) }) rfl (by omega) (gf := 71) (lb := #[.pointer (some ⟨W6.heap.size + 1, 0, none⟩), .pointer (some ⟨W6.heap.size, 0, none⟩)]) rfl trivial (enters_of Tryd.func71 (by kernel_rfl) rfl)
          (each_gives (5 - 1) w4.heap.size W6.heap.size (W6.heap.size + 1) W6.heap.size q p n od (lo : Int) (hi : Int) w4 W5 ⟨by omega, by have := HTb.out; omega⟩ ⟨by omega, by have := HTb.out; omega⟩ HOk.out HRk.out rfl HB5.out hp5 hr5 (Nat.le_refl _)) knE_put KT.trans (fun _ W l o o' hl ho hc _ => KT.putObj o' (Nat.le_trans hsz5 hl) ho hc) (Below.refl _ _)
          (StI w4 q lo wc.heap.size (wc.heap.size + 1) (partP od (lo : Int) (hi : Int))) (fun _ _ _ => False) (StI.own hsz5) (fun c s A B row hs _ _ => hs.elim)
          ⟨HB5.out, HR6.out.keep hb5, HF6.out.keep hb5, HC6.out.keep hb5, ⟨_, HL6.out.keep hb5, fun x hx => by cases hx⟩, fun i x hx => by cases hx⟩ ?assign ?body ?done ?stop
        case assign =>
          intro l x W K hK
          gi_wp2
          exact hK
        case body =>
          rintro l pre ⟨D, d, P⟩ W ⟨i1, i2, i3, i4, ⟨v, i5, i6⟩, i7⟩ ⟨hown, hG⟩ hlt
          obtain ⟨k, hk⟩ : ∃ k, k = pre.length := ⟨_, rfl⟩
          rw [← hk] at hG hlt i4
          rw [HGl.out] at hlt
          have hGa : ∀ (j : Nat) (X : List Int), (partP od (lo : Int) (hi : Int))[j]? = some X → (allP od)[lo + j]? = some X := fun j X hj => by
            unfold partP at hj
            rw [List.getElem?_drop, List.getElem?_take] at hj
            split at hj
            · have e : (max (lo : Int) 0).toNat = lo := by omega
              rw [e] at hj
              exact hj
            · cases hj
          have hPa := hGa k P hG
          have hPm : P ∈ allP od := List.mem_of_getElem? hPa
          have hPl : P.length = n := HOk.out.P P hPm
          have hsl := Sl.of_own hown
          have hcap := own_cap hown
          simp only [rv] at hown hsl hcap
          have HKt := Lib.hid (show ∀ W', Below W.heap.size W W' → Below w4.heap.size w4 W' from fun W' hb => i1.trans (hb.mono i1.size))
          have HRa := Lib.hid (RankRank_any q p n od P D P.length d W (HRk.out.keep i1) HOk.out rfl (by omega) hcap hsl (allP_ok HOk.out hPm))
          have HPa := Lib.hid hPa
          have HPm := Lib.hid hPm
          have HOwn := Lib.hid hown
          have HRow := Lib.hid (show RowOK W (D, d, P) from ⟨hsl, hcap⟩)
          have HI := Lib.hid (And.intro i1 (And.intro i2 (And.intro i3 (And.intro i4 i5))))
          have HI6 := Lib.hid i6
          have HI7 := Lib.hid i7
          have HK := Lib.hid hk
          have HGd := Lib.hid hG
          have HPl := Lib.hid hPl
          have cr := i2.cell 0
          simp at cr
          have hwk : IntKind.i64.wrap ((lo : Int) + (k : Int)) = (lo : Int) + (k : Int) := by rw [IntKind.wrap_i64]; have := HTb.out; omega
          have hwk1 : IntKind.i64.wrap ((k : Int) + 1) = (k : Int) + 1 := by rw [IntKind.wrap_i64]; have := HTb.out; omega
          have hne : (((lo : Int) + (k : Int)) != ((lo : Int) + (k : Int))) = false := by simp
          have HFin := Lib.hid (show ∀ (W2 : World) (z : Int), Below W.heap.size W W2 → z = (k : Int) + 1 → KeepsOthers W ((W2.setCell ⟨wc.heap.size, 0, none⟩ (rv (D, d, P))).setCell ⟨wc.heap.size + 1, 0, none⟩ (.int .i64 z)) ∧ KT w4.heap.size W6.heap.size W ((W2.setCell ⟨wc.heap.size, 0, none⟩ (rv (D, d, P))).setCell ⟨wc.heap.size + 1, 0, none⟩ (.int .i64 z)) ∧ StI w4 q lo wc.heap.size (wc.heap.size + 1) (partP od (lo : Int) (hi : Int)) (pre ++ [(D, d, P)]) ((W2.setCell ⟨wc.heap.size, 0, none⟩ (rv (D, d, P))).setCell ⟨wc.heap.size + 1, 0, none⟩ (.int .i64 z)) from fun W2 z hb2 hz => by
            subst hz
            have hs6 := HS6.out
            have hwc := HWc.out
            obtain ⟨gx, gc, hgx, hg5⟩ := own_form hown (by omega)
            have hWs : W5.heap.size < W.heap.size := by
              cases hgx
              have := (hown.lt gx rfl).2
              omega
            have hlx : ∀ A : Addr, D = some A → W5.heap.size ≤ A.block := fun A hA => by
              subst hA
              exact (hown.lt _ rfl).1
            refine ⟨((ko_belowE hb2).trans (KeepsOthers.setCell _ _ _)).trans (KeepsOthers.setCell _ _ _), ((KT.of_below hb2 (by omega)).trans (KT.set _ (by omega) (by omega))).trans (KT.set _ (by omega) (by omega)), ?_⟩
            have hbb := HKt.out W2 hb2
            refine ⟨(hbb.setCell (p := ⟨wc.heap.size, 0, none⟩) (show w4.heap.size ≤ wc.heap.size by omega) _).setCell (p := ⟨wc.heap.size + 1, 0, none⟩) (by simp; omega) _, ((i2.keep hb2).far (p := ⟨wc.heap.size, 0, none⟩) (by simp; omega) _).far (p := ⟨wc.heap.size + 1, 0, none⟩) (by simp; omega) _, ((i3.keep hb2).far (p := ⟨wc.heap.size, 0, none⟩) (by simp; omega) _).far (p := ⟨wc.heap.size + 1, 0, none⟩) (by simp; omega) _, ?_, ⟨_, ((i5.keep hb2).set_ 0 (rv (D, d, P))).far (p := ⟨wc.heap.size + 1, 0, none⟩) (by simp) _, fun y hy => ?_⟩, fun j y hy => ?_⟩
            · have h := ((i4.keep hb2).far (p := ⟨wc.heap.size, 0, none⟩) (by simp) (rv (D, d, P))).set_ 0 (.int .i64 ((k : Int) + 1))
              rw [List.length_append, ← hk]
              exact h
            · rw [List.getLast?_append] at hy
              obtain rfl : (D, d, P) = y := by simpa using hy
              refine ⟨rfl, ?_⟩
              refine ⟨?_, hcap⟩
              have hx2 : ∀ z, wc.heap.size ≤ z → z < wc.heap.size + 2 → ∀ A : Addr, D = some A → A.block ≠ z := fun z h1 h2 A hA => by
                have := hlx A hA
                omega
              exact sl_far (p := ⟨wc.heap.size + 1, 0, none⟩) (sl_far (p := ⟨wc.heap.size, 0, none⟩) (hsl.keep hb2) (hx2 _ (by simp) (by simp)) _) (hx2 _ (by simp) (by simp)) _
            · rcases Nat.lt_or_ge j pre.length with hj | hj
              · rw [List.getElem?_append_left hj] at hy
                exact i7 j y hy
              · rw [List.getElem?_append_right hj] at hy
                obtain rfl : j = pre.length := by
                  have := (List.getElem?_eq_some_iff.1 hy).1
                  simp at this
                  omega
                rw [Nat.sub_self] at hy
                obtain rfl : (D, d, P) = y := by simpa using hy
                rw [← hk]
                exact hG)
          have HCl := Lib.hid (show ∀ W', Below W.heap.size W W' → W'.cell? ⟨w4.heap.size + 1, 0, none⟩ = some (.int .i64 (lo : Int)) ∧ W'.cell? ⟨wc.heap.size + 1, 0, none⟩ = some (.int .i64 (k : Int)) ∧ W'.cell? ⟨wc.heap.size, 0, none⟩ = some v ∧ W'.frozen? ⟨wc.heap.size, 0, none⟩ = false ∧ ∀ u, (W'.setCell ⟨wc.heap.size, 0, none⟩ u).frozen? ⟨wc.heap.size + 1, 0, none⟩ = false ∧ (W'.setCell ⟨wc.heap.size, 0, none⟩ u).cell? ⟨wc.heap.size + 1, 0, none⟩ = some (.int .i64 (k : Int)) from fun W' hb => by
            have g3 := (i3.keep hb).cell 0
            have g4 := (i4.keep hb).cell 0
            have g5 := (i5.keep hb).cell 0
            have g6 := (i5.keep hb).frozen 0
            simp at g3 g4 g5
            refine ⟨g3, g4, g5, g6, fun u => ?_⟩
            have h7 := (i4.keep hb).far (p := ⟨wc.heap.size, 0, none⟩) (by simp) u
            have h8 := h7.cell 0
            simp at h8
            exact ⟨h7.frozen 0, h8⟩)
          by_cases hk0 : k = 0
          · clear i1 i2 i3 i4 i5 i6 i7 hown hsl hcap hPa hPm hPl hG hGa hk
            subst hk0
            clear hwk hwk1 hne
            have hwl : IntKind.i64.wrap (lo : Int) = (lo : Int) := by rw [IntKind.wrap_i64]; have := HTb.out; omega
            have hne : ((lo : Int) != (lo : Int)) = false := by simp
            simp only [rv]
            simp only [rv] at HFin
            gi_wp2_with (first
              | ((try refine ⟨trivial, ?_⟩); (try refine ⟨fun h => (by cases h), ?_⟩); gi_at_call 39; refine (CallsIn.inRound l (callsIn_wide.2 HRa.out)).mono ?_; clear HRa; rintro e W2 ⟨zr, ev, rfl, hb, hcase⟩; obtain ⟨rfl, rfl⟩ : ev = .nilIface ∧ zr = (lo : Int) := (by rcases hcase with ⟨_, g2, g3⟩ | ⟨g1, _⟩; (· exact ⟨g2, by have := g3 _ HPa.out; omega⟩); (· exact absurd HPm.out g1)); obtain ⟨cf2, cc2, cl2, fl2, fs2⟩ := HCl.out W2 hb; obtain ⟨fs2, cs2⟩ := fs2 (.slice D P.length d); have HB2 := Lib.hid hb; clear hb hcase)
              | fail)
            refine ⟨trivial, ?_⟩
            gi_wp2
            exact HFin.out W2 1 HB2.out (by simp)
          · obtain ⟨xp, hxp⟩ : ∃ xp, pre.getLast? = some xp := by
              cases hgl : pre.getLast? with
              | none =>
                rw [List.getLast?_eq_none_iff] at hgl
                rw [hgl] at hk
                exact absurd hk hk0
              | some xp => exact ⟨xp, rfl⟩
            obtain ⟨Dp, dp, Pp⟩ := xp
            obtain ⟨hv, hrp⟩ := i6 _ hxp
            simp only [rv] at hv
            have hxi : pre[k - 1]? = some (Dp, dp, Pp) := by
              rw [List.getLast?_eq_getElem?, ← hk] at hxp
              exact hxp
            have hpa := hGa _ _ (i7 _ _ hxi)
            have hcm : cmpL Pp P = -1 := by
              obtain ⟨e1, e2⟩ := List.getElem?_eq_some_iff.1 hpa
              obtain ⟨e3, e4⟩ := List.getElem?_eq_some_iff.1 hPa
              have := List.pairwise_iff_getElem.1 (allP_rise HOk.out.S (by rw [HOk.out.len]; exact h1)) (lo + (k - 1)) (lo + k) e1 e3 (by omega)
              simp only at e2 e4
              rw [e2, e4] at this
              exact this
            have hpl2 : Pp.length = n := HOk.out.P Pp (List.mem_of_getElem? hpa)
            have HCm := Lib.hid (show ∀ W', Below W.heap.size W W' → Calls Tryd.prog 27 #[.slice Dp Pp.length dp, .slice D P.length d] W' (fun e w' => e = .returned (.int .i64 (-1)) ∧ Below W'.heap.size W' w') from fun W' hb => by
              have h := RefCompare_any Pp P Dp D Pp.length P.length dp d W' rfl rfl (hrp.1.keep hb) (hsl.keep hb) (by omega)
              rw [hcm] at h
              exact h)
            subst hv
            clear i1 i2 i3 i4 i5 i6 i7 hown hsl hcap hPa hPm hPl hG hGa hk hcm hpa hxi hxp hrp hpl2
            have hk0' : (0 : Int) < (k : Int) := by omega
            simp only [rv]
            simp only [rv] at HFin
            gi_wp2_with (first
              | ((try refine ⟨trivial, ?_⟩); (try refine ⟨fun h => (by cases h), ?_⟩); gi_at_call 39; refine (CallsIn.inRound l (callsIn_wide.2 HRa.out)).mono ?_; clear HRa; rintro e W2 ⟨zr, ev, rfl, hb, hcase⟩; obtain ⟨rfl, rfl⟩ : ev = .nilIface ∧ zr = (lo : Int) + (k : Int) := (by rcases hcase with ⟨_, g2, g3⟩ | ⟨g1, _⟩; (· exact ⟨g2, by have := g3 _ HPa.out; omega⟩); (· exact absurd HPm.out g1)); obtain ⟨cf2, cc2, cl2, _⟩ := HCl.out W2 hb; have HB2 := Lib.hid hb; clear hb hcase)
              | ((try refine ⟨trivial, ?_⟩); (try refine ⟨fun h => (by cases h), ?_⟩); gi_at_call 27; refine (CallsIn.inRound l (callsIn_wide.2 (HCm.out W2 HB2.out))).mono ?_; clear HCm cf2 cc2 cl2; rintro e W3 ⟨rfl, hb⟩; obtain ⟨_, cc3, _, fl3, fs3⟩ := HCl.out W3 (HB2.out.andThen hb); obtain ⟨fs3, cs3⟩ := fs3 (.slice D P.length d); have HB3 := Lib.hid (HB2.out.andThen hb); clear hb)
              | fail)
            exact HFin.out W3 _ HB3.out rfl
        case stop =>
          rintro D c pre W _ _ h _
          exact h.elim
        case done =>
          rintro D1 xs W hD hS ⟨i1, i2, i3, i4, ⟨v, i5, i6⟩, i7⟩ hK1
          have hxl : xs.length = hi - lo := hS.trans HGl.out
          rw [hxl, Int.ofNat_sub hlh] at i4
          have cr := i2.cell 0
          have cf := i3.cell 0
          have cc := i4.cell 0
          simp at cr cf cc
          have hwd : IntKind.i64.wrap ((hi : Int) - (lo : Int)) = (hi : Int) - (lo : Int) := by rw [IntKind.wrap_i64]; have := HTb.out; omega
          have hnd : (((hi : Int) - (lo : Int)) != ((hi : Int) - (lo : Int))) = false := by simp
          have HB7 := Lib.hid i1
          have HR7 := Lib.hid i2
          have HF7 := Lib.hid i3
          have HK1 := Lib.hid hK1
          have HD1 := Lib.hid (show w.heap.size ≤ D1 from Nat.le_trans (Nat.le_trans HW4.out.size HB5.out.size) hD)
          clear i1 i2 i3 i4 i5 i6 i7 hK1 hD hS hxl hr5 hp5 hb5
          go_wp2_with (go_at_call 32; refine (Each_any (some ⟨q, 0, none⟩) _ _ _).mono ?_; rintro e w5 ⟨rfl, rfl⟩)
          clear cr cf cc hwd hnd
          obtain ⟨W7, hW7⟩ : ∃ W7, (W.alloc (.cells #[.pointer (some ⟨q, 0, none⟩)] 57)).alloc (.cells #[.int .i64 (hi : Int), .int .i64 (lo : Int)] 63) = W7 := ⟨_, rfl⟩
          have hbW7 : Below W.heap.size W W7 := by rw [← hW7]; exact bel_al (bel_al (Below.refl _ _) _) _
          have hrW7 : Blk W7 W.heap.size 57 #[.pointer (some ⟨q, 0, none⟩)] := by rw [← hW7]; exact (Blk.new W _ _).alloc _
          have hpW7 : Blk W7 (W.heap.size + 1) 63 #[.int .i64 (hi : Int), .int .i64 (lo : Int)] := by
            have := Blk.new (W.alloc (.cells #[.pointer (some ⟨q, 0, none⟩)] 57)) 63 #[.int .i64 (hi : Int), .int .i64 (lo : Int)]
            rw [World.size_alloc, hW7] at this
            exact this
          rw [hW7]
          clear hW7
          have HD1l := Lib.hid (Array.getElem?_eq_some_iff.1 HK1.out).1
          refine (wpIn_wide (n := 5)).1 ?_
          refine rangeFunc_one (fun _ b => b) rfl (by omega) (gf := 71) (lb := #[.pointer (some ⟨W.heap.size + 1, 0, none⟩), .pointer (some ⟨W.heap.size, 0, none⟩)]) rfl trivial (enters_of Tryd.func71 (by kernel_rfl) rfl)
            (each_none _ (W.heap.size + 1) W.heap.size q p od (hi : Int) (lo : Int) W7 hpW7 hrW7 (HRk.out.keep (HB7.out.andThen hbW7)) (by omega)) (fun pre x W l o o' _ _ h => h) (fun _ _ => trivial) (fun _ _ _ _ _ _ _ _ _ => trivial) (Below.refl _ _)
            (fun _ V => Below W7.heap.size W7 V) (fun _ _ _ => False) (ownFrom_below (Nat.le_refl _) (Nat.le_refl _)) (fun c s A B row hs _ _ => hs.elim) (Below.refl _ _) ?assign2 ?body2 ?done2 ?stop2
          case assign2 =>
            intro l x V K hK
            gi_wp2
            exact hK
          case body2 =>
            rintro l pre x V _ h
            exact h.elim
          case stop2 =>
            rintro D c pre V _ _ h _
            exact h.elim
          case done2 =>
            rintro D2 xs2 W8 hD2 _ hb8 hK2
            have hbW8 : Below W.heap.size W W8 := hbW7.andThen hb8
            have HB8 := Lib.hid (HB7.out.andThen hbW8)
            have HR8 := Lib.hid (HR7.out.keep hbW8)
            have HF8 := Lib.hid (HF7.out.keep hbW8)
            have HK18 := Lib.hid (show W8.heap[D1]? = some (.deferred (some [])) from (hbW8.block D1 HD1l.out).trans HK1.out)
            have HK28 := Lib.hid hK2
            have HD12 := Lib.hid (show D1 < D2 from Nat.lt_of_lt_of_le HD1l.out (Nat.le_trans hbW7.size hD2))
            clear hpW7 hrW7 hbW7 hb8 hbW8 hK2 hD2 HR7 HF7 HB7
            go_upto_region 29 with (fail)
            obtain ⟨W9, hW9⟩ : ∃ W9, W8.alloc (.cells #[.int .i64 0] 2) = W9 := ⟨_, rfl⟩
            have hb9 : Below W8.heap.size W8 W9 := by rw [← hW9]; exact bel_al (Below.refl _ _) _
            have ho9 : Blk W9 W8.heap.size 2 #[.int .i64 0] := by rw [← hW9]; exact Blk.new W8 _ _
            have hs9 : W9.heap.size = W8.heap.size + 1 := by rw [← hW9]; simp
            rw [hW9]
            clear hW9
            have HB9 := Lib.hid (HB8.out.andThen hb9)
            have HR9 := Lib.hid (HR8.out.keep hb9)
            have HF9 := Lib.hid (HF8.out.keep hb9)
            have HO9 := Lib.hid ho9
            have HS9 := Lib.hid hs9
            have HF8l := Lib.hid HF8.out.lt
            have HKs9 := Lib.hid (show ∀ D ∈ [D2, D1], W9.heap[D]? = some (.deferred (some [])) from fun D h => by
              rcases List.mem_cons.1 h with rfl | h
              · exact (hb9.block _ (Array.getElem?_eq_some_iff.1 HK28.out).1).trans HK28.out
              · obtain rfl := List.mem_singleton.1 h
                exact (hb9.block _ (Array.getElem?_eq_some_iff.1 HK18.out).1).trans HK18.out)
            have cr := HR9.out.cell 0
            have cf := HF9.out.cell 0
            simp at cr cf
            clear hb9 ho9 hs9 HK18 HK28 HR8 HF8 HB8
            go_wp2_with (go_at_call 32; refine (Each_any (some ⟨q, 0, none⟩) _ _ _).mono ?_; rintro e w5 ⟨rfl, rfl⟩)
            clear cr cf
            obtain ⟨Wt, hWt⟩ : ∃ Wt, (W9.alloc (.cells #[.pointer (some ⟨q, 0, none⟩)] 57)).alloc (.cells #[.int .i64 (-5), .int .i64 (lo : Int)] 63) = Wt := ⟨_, rfl⟩
            have hbWt : Below W9.heap.size W9 Wt := by rw [← hWt]; exact bel_al (bel_al (Below.refl _ _) _) _
            have hrWt : Blk Wt W9.heap.size 57 #[.pointer (some ⟨q, 0, none⟩)] := by rw [← hWt]; exact (Blk.new W9 _ _).alloc _
            have hpWt : Blk Wt (W9.heap.size + 1) 63 #[.int .i64 (-5), .int .i64 (lo : Int)] := by
              have := Blk.new (W9.alloc (.cells #[.pointer (some ⟨q, 0, none⟩)] 57)) 63 #[.int .i64 (-5), .int .i64 (lo : Int)]
              rw [World.size_alloc, hWt] at this
              exact this
            rw [hWt]
            clear hWt
            have HWn9 := Lib.hid (show W8.heap.size < W9.heap.size from HO9.out.lt)
            have HGc9 := Lib.hid (show (partP od (-5) (lo : Int)).length = lo from by rw [partP_len, HTot.out]; have := HTb.out; omega)
            have hsz9 : w4.heap.size ≤ Wt.heap.size := Nat.le_trans HB9.out.size hbWt.size
            have hsl9 := hbWt.size
            refine (wpIn_wide (n := 5)).1 ?_
            refine rangeFunc_one (fun _ b => b) rfl (by omega) (gf := 71) (lb := #[.pointer (some ⟨W9.heap.size + 1, 0, none⟩), .pointer (some ⟨W9.heap.size, 0, none⟩)]) rfl trivial (enters_of Tryd.func71 (by kernel_rfl) rfl)
              (each_gives (5 - 1) w4.heap.size W9.heap.size (W9.heap.size + 1) W9.heap.size q p n od (-5) (lo : Int) w4 Wt ⟨by omega, by omega⟩ ⟨by omega, by have := HTb.out; omega⟩ HOk.out HRk.out rfl (HB9.out.andThen hbWt) hpWt hrWt (Nat.le_refl _)) knE_put KT.trans (fun _ V l o o' hl ho hc _ => KT.putObj o' (Nat.le_trans hsz9 hl) ho hc) (Below.refl _ _)
              (CtI w4 q lo W8.heap.size 0 [D2, D1]) (fun _ _ _ => False) (CtI.own hsz9 (fun D h => Nat.lt_of_lt_of_le (Array.getElem?_eq_some_iff.1 (HKs9.out D h)).1 hsl9)) (fun c s A B row hs _ _ => hs.elim)
              ⟨HB9.out.andThen hbWt, HR9.out.keep hbWt, HF9.out.keep hbWt, HO9.out.keep hbWt, fun D h => (hbWt.block D (Array.getElem?_eq_some_iff.1 (HKs9.out D h)).1).trans (HKs9.out D h)⟩ ?assign9 ?body9 ?done9 ?stop9
            case assign9 =>
              intro l x V K hK
              gi_wp2
              exact hK
            case stop9 =>
              rintro D c pre V _ _ h _
              exact h.elim
            case body9 =>
              rintro l pre x V ⟨i1, i2, i3, i4, i5⟩ _ hlt
              rw [HGc9.out] at hlt
              have co := i4.cell 0
              have fo := i4.frozen 0
              simp at co
              obtain ⟨k, hk⟩ : ∃ k, k = 0 + pre.length := ⟨_, rfl⟩
              have hkz : IntKind.i64.wrap ((k : Int) + 1) = (k : Int) + 1 := by rw [IntKind.wrap_i64]; have := HTb.out; omega
              have hco : V.cell? ⟨W8.heap.size, 0, none⟩ = some (.int .i64 (k : Int)) := by rw [hk]; have := i4.cell 0; simpa using this
              have HI := Lib.hid (And.intro i1 (And.intro i2 (And.intro i3 (And.intro i4 i5))))
              have HK := Lib.hid hk
              clear co i1 i2 i3 i4 i5 hlt hk
              gi_wp2
              obtain ⟨i1, i2, i3, i4, i5⟩ := HI.out
              have h9 := HF8l.out
              have h8 := HS9.out
              have h7 := HWn9.out
              refine ⟨KeepsOthers.setCell _ _ _, KT.set _ (by omega) (by omega), i1.setCell (p := ⟨W8.heap.size, 0, none⟩) (show w4.heap.size ≤ W8.heap.size by omega) _, i2.far (p := ⟨W8.heap.size, 0, none⟩) (by simp; omega) _, i3.far (p := ⟨W8.heap.size, 0, none⟩) (by simp; omega) _, ?_, fun D h => ?_⟩
              · have h := i4.set_ 0 (.int .i64 ((k : Int) + 1))
                rw [List.length_append, ← Nat.add_assoc, ← HK.out]
                exact h
              · have h6 := i5 D h
                refine (Below.heap_setCell V ⟨W8.heap.size, 0, none⟩ _ D (fun e => ?_)).trans h6
                have e' : D = W8.heap.size := e
                rw [e', show V.heap[W8.heap.size]? = _ from i4] at h6
                cases h6
            case done9 =>
              rintro D3 xs3 W11 hD3 hS3 ⟨i1, i2, i3, i4, i5⟩ hK3
              have hx3 : xs3.length = lo := hS3.trans HGc9.out
              rw [hx3, Nat.zero_add] at i4
              have HB11 := Lib.hid i1
              have HR11 := Lib.hid i2
              have HF11 := Lib.hid i3
              have HO11 := Lib.hid i4
              have HKs11 := Lib.hid (show ∀ D ∈ [D3, D2, D1], W11.heap[D]? = some (.deferred (some [])) from fun D h => by
                rcases List.mem_cons.1 h with rfl | h
                · exact hK3
                · exact i5 D h)
              have HD23 := Lib.hid (show D2 < D3 from Nat.lt_of_lt_of_le (Array.getElem?_eq_some_iff.1 (HKs9.out D2 (List.mem_cons_self ..))).1 (Nat.le_trans hsl9 hD3))
              have cr := HR11.out.cell 0
              have cf := HF11.out.cell 0
              simp at cr cf
              clear i1 i2 i3 i4 i5 hK3 hD3 hS3 hx3 hrWt hpWt hbWt
              go_wp2_with (go_at_call 32; refine (Each_any (some ⟨q, 0, none⟩) _ _ _).mono ?_; rintro e w5 ⟨rfl, rfl⟩)
              clear cr cf
              obtain ⟨Wu, hWu⟩ : ∃ Wu, (W11.alloc (.cells #[.pointer (some ⟨q, 0, none⟩)] 57)).alloc (.cells #[.int .i64 (lo : Int), .int .i64 4611686018427387904] 63) = Wu := ⟨_, rfl⟩
              have hbWu : Below W11.heap.size W11 Wu := by rw [← hWu]; exact bel_al (bel_al (Below.refl _ _) _) _
              have hrWu : Blk Wu W11.heap.size 57 #[.pointer (some ⟨q, 0, none⟩)] := by rw [← hWu]; exact (Blk.new W11 _ _).alloc _
              have hpWu : Blk Wu (W11.heap.size + 1) 63 #[.int .i64 (lo : Int), .int .i64 4611686018427387904] := by
                have := Blk.new (W11.alloc (.cells #[.pointer (some ⟨q, 0, none⟩)] 57)) 63 #[.int .i64 (lo : Int), .int .i64 4611686018427387904]
                rw [World.size_alloc, hWu] at this
                exact this
              rw [hWu]
              clear hWu
              have HWn11 := Lib.hid (show W8.heap.size < W11.heap.size from HO11.out.lt)
              have HGc11 := Lib.hid (show (partP od (lo : Int) 4611686018427387904).length = tot - lo from by rw [partP_len, HTot.out]; have := HTb.out; omega)
              have hsz11 : w4.heap.size ≤ Wu.heap.size := Nat.le_trans HB11.out.size hbWu.size
              have hsl11 := hbWu.size
              refine (wpIn_wide (n := 5)).1 ?_
              refine rangeFunc_one (fun _ b => b) rfl (by omega) (gf := 71) (lb := #[.pointer (some ⟨W11.heap.size + 1, 0, none⟩), .pointer (some ⟨W11.heap.size, 0, none⟩)]) rfl trivial (enters_of Tryd.func71 (by kernel_rfl) rfl)
                (each_gives (5 - 1) w4.heap.size W11.heap.size (W11.heap.size + 1) W11.heap.size q p n od (lo : Int) 4611686018427387904 w4 Wu ⟨by omega, by have := HTb.out; omega⟩ ⟨by omega, by omega⟩ HOk.out HRk.out rfl (HB11.out.andThen hbWu) hpWu hrWu (Nat.le_refl _)) knE_put KT.trans (fun _ V l o o' hl ho hc _ => KT.putObj o' (Nat.le_trans hsz11 hl) ho hc) (Below.refl _ _)
                (CtI w4 q lo W8.heap.size lo [D3, D2, D1]) (fun _ _ _ => False) (CtI.own hsz11 (fun D h => Nat.lt_of_lt_of_le (Array.getElem?_eq_some_iff.1 (HKs11.out D h)).1 hsl11)) (fun c s A B row hs _ _ => hs.elim)
                ⟨HB11.out.andThen hbWu, HR11.out.keep hbWu, HF11.out.keep hbWu, (by rw [List.length_nil, Nat.add_zero]; exact HO11.out.keep hbWu), fun D h => (hbWu.block D (Array.getElem?_eq_some_iff.1 (HKs11.out D h)).1).trans (HKs11.out D h)⟩ ?assign11 ?body11 ?done11 ?stop11
              case assign11 =>
                intro l x V K hK
                gi_wp2
                exact hK
              case stop11 =>
                rintro D c pre V _ _ h _
                exact h.elim
              case body11 =>
                rintro l pre x V ⟨i1, i2, i3, i4, i5⟩ _ hlt
                rw [HGc11.out] at hlt
                have co := i4.cell 0
                have fo := i4.frozen 0
                simp at co
                obtain ⟨k, hk⟩ : ∃ k, k = lo + pre.length := ⟨_, rfl⟩
                have hkz : IntKind.i64.wrap ((k : Int) + 1) = (k : Int) + 1 := by rw [IntKind.wrap_i64]; have := HTb.out; omega
                have hco : V.cell? ⟨W8.heap.size, 0, none⟩ = some (.int .i64 (k : Int)) := by rw [hk]; have := i4.cell 0; simpa using this
                have HI := Lib.hid (And.intro i1 (And.intro i2 (And.intro i3 (And.intro i4 i5))))
                have HK := Lib.hid hk
                clear co i1 i2 i3 i4 i5 hlt hk
                gi_wp2
                obtain ⟨i1, i2, i3, i4, i5⟩ := HI.out
                have h9 := HF8l.out
                have h8 := HS9.out
                have h7 := HWn11.out
                refine ⟨KeepsOthers.setCell _ _ _, KT.set _ (by omega) (by omega), i1.setCell (p := ⟨W8.heap.size, 0, none⟩) (show w4.heap.size ≤ W8.heap.size by omega) _, i2.far (p := ⟨W8.heap.size, 0, none⟩) (by simp; omega) _, i3.far (p := ⟨W8.heap.size, 0, none⟩) (by simp; omega) _, ?_, fun D h => ?_⟩
                · have h := i4.set_ 0 (.int .i64 ((k : Int) + 1))
                  rw [List.length_append, ← Nat.add_assoc, ← HK.out]
                  exact h
                · have h6 := i5 D h
                  refine (Below.heap_setCell V ⟨W8.heap.size, 0, none⟩ _ D (fun e => ?_)).trans h6
                  have e' : D = W8.heap.size := e
                  rw [e', show V.heap[W8.heap.size]? = _ from i4] at h6
                  cases h6
              case done11 =>
                rintro D4 xs4 W13 hD4 hS4 ⟨i1, i2, i3, i4, i5⟩ hK4
                have hx4 : xs4.length = tot - lo := hS4.trans HGc11.out
                rw [hx4, show lo + (tot - lo) = tot by omega] at i4
                have HX13 := Lib.hid (HX4.out.keep i1)
                have HW13 := Lib.hid (HW4.out.andThen i1)
                have co := i4.cell 0
                have cx := HX13.out.cell 0
                have fx := HX13.out.frozen 0
                simp at co cx
                have hee : ((tot : Int) == (tot : Int)) = true := by simp
                have HKs := Lib.hid (show ∀ D ∈ [D4, D3, D2, D1], W13.heap[D]? = some (.deferred (some [])) from fun D h => by
                  rcases List.mem_cons.1 h with rfl | h
                  · exact hK4
                  · exact i5 D h)
                have HD34 := Lib.hid (show D3 < D4 from Nat.lt_of_lt_of_le (Array.getElem?_eq_some_iff.1 (HKs11.out D3 (List.mem_cons_self ..))).1 (Nat.le_trans hsl11 hD4))
                clear i1 i2 i3 i4 i5 hK4 hD4 hS4 hx4 hrWu hpWu hbWu
                go_wp2_with fail
                exact law_end [D4, D3, D2, D1] (fun V hV => by simp [results, Tryd.results10, go_sem, hV]) rfl HKs.out (by
                  have h1 := HD12.out
                  have h2 := HD23.out
                  have h3 := HD34.out
                  simp
                  omega) HX13.out HW13.out (fun D h => by
                  have h0 := HD1.out
                  have h1 := HD12.out
                  have h2 := HD23.out
                  have h3 := HD34.out
                  simp at h
                  omega)

/-- RankSteps, as its frame asks it. -/
theorem RankSteps_main (a0 : Int) (A1 : Option Addr) (n1 c1 : Nat) (its : List (Option Addr × Nat × List Int)) (a2 a3 : Int) (w : World) (hg : ErrT w) (w0 : (Lit.int .i64 a0).wf = true) (m1 : n1 ≤ maxLen) (e1 : its.length = n1) (s1 : Sl w 1 A1 n1 (its.map rv)) (r1 : AllRows w its) (w2 : (Lit.int .u8 a2).wf = true) (w3 : (Lit.int .u8 a3).wf = true) :
    Calls Tryd.prog 10 #[.int .i64 a0, .slice A1 n1 c1, .int .u8 a2, .int .u8 a3] w fun e w' => e = .returned (.bool true) ∧ Below w.heap.size w w' := by
  have h2 := wf_u8 w2
  have h3 := wf_u8 w3
  obtain ⟨x, rfl⟩ : ∃ x : Nat, a2 = (x : Int) := ⟨a2.toNat, by omega⟩
  obtain ⟨y, rfl⟩ : ∃ y : Nat, a3 = (y : Int) := ⟨a3.toNat, by omega⟩
  exact RankSteps_walk a0 its A1 n1 c1 x y w hg e1 s1 r1 (by omega) (by omega)
end Go.Proofs.YtmonepclhbappaaDoor
