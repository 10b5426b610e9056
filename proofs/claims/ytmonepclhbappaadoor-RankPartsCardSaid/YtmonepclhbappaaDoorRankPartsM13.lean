/-
  Part 13 of the proof of RankParts: RankParts.
-/
import Derived.BigQuiet
import Derived.Deep.DeepCutAuto
import Derived.Test.YtmonepclhbappaaDoorRankPartsM7
import Derived.Test.YtmonepclhbappaaDoorRankPartsM11
import Derived.Test.YtmonepclhbappaaDoorRankPartsM12
/-
  RankParts.
-/
namespace Go.Proofs.YtmonepclhbappaaDoor
open Go.RowKit Go.Maps
attribute [local go_sem] Oper.semAt_some
set_option maxRecDepth 100000
set_option linter.unusedVariables false

/-- A law's end behind ranges over functions, its result in block B. -/
theorem law_endB {k : Nat} {P : Program} {fn : Func} {a : Act} {w W : World} (Ds : List Nat) (B : Nat) {t : TypeId} {v0 : Value} (hB : w.heap.size ≤ B) (hres : ∀ V : World, V.cell? ⟨B, 0, none⟩ = some (.bool true) → (results fn a.tmps).run P V = .ok (.bool true) V) (hd : a.defers = Ds.map fun D => { target := .collected D, args := #[] }) (hK : ∀ D ∈ Ds, W.heap[D]? = some (.deferred (some []))) (hn : Ds.Nodup)
    (hr : Blk W B t #[v0]) (hb : Below w.heap.size w W) (hD : ∀ D ∈ Ds, w.heap.size ≤ D) :
    bodyPostM Fence.wide k P fn (fun e w' => e = .returned (.bool true) ∧ Below w.heap.size w w') .ret a (W.setCell ⟨B, 0, none⟩ (.bool true)) := by
  show LeavesInM _ _ _ _ _ _ a.defers .returning _
  rw [hd]
  have hK2 : ∀ D ∈ Ds, (W.setCell ⟨B, 0, none⟩ (.bool true)).heap[D]? = some (.deferred (some [])) := fun D h => (KeepsOthers.setCell _ _ _).same D _ (hK D h) rfl
  have hE := (shutM_blk Ds _ hK2 hn (hr.set_ 0 (.bool true))).cell 0
  simp at hE
  exact leavesM Ds _ hK2 hn (v := .bool true) (hres _ hE) ⟨rfl, shutM_below Ds _ hK2 hn hD (hb.setCell (p := ⟨B, 0, none⟩) hB _)⟩
/-- What holds while the paths of a part are held against the document's. -/
def PtI (w5 : World) (lo : Nat) (wv : Value) (G : List (List Int)) (pre : List RowE) (W : World) : Prop :=
  Below w5.heap.size w5 W ∧ Blk W w5.heap.size 40 #[wv] ∧ Blk W (w5.heap.size + 1) 3 #[.int .i64 ((if pre.length = 0 then 0 else lo + pre.length : Nat) : Int)]
theorem PtI.own {w5 : World} {lo n : Nat} {wv : Value} {G : List (List Int)} (hn : w5.heap.size ≤ n) : OwnFrom n (PtI w5 lo wv G) := ownFrom_of fun s A B row ⟨h1, h2, h3⟩ hg hr hge =>
  ⟨bel_gb h1 (Nat.le_refl _) hg (fun r e => Nat.le_trans hn (hge r e)), blk_gb h2 hg hr, blk_gb h3 hg hr⟩
/-- The number that lies in a box. -/
def cellN (w : World) (b : Nat) : Nat := (intOf ((w.cell? ⟨b, 0, none⟩).getD undef)).toNat
theorem cellN_blk {w : World} {b : Nat} {t : TypeId} {k : Nat} (h : Blk w b t #[.int .i64 (k : Int)]) : cellN w b = k := by
  have := h.cell 0
  simp at this
  unfold cellN
  rw [this]
  simp [intOf]
theorem partP_get {od : List Rw} {f t : Int} {j : Nat} {X : List Int} (hj : (partP od f t)[j]? = some X) : (allP od)[(max f 0).toNat + j]? = some X := by
  unfold partP at hj
  rw [List.getElem?_drop, List.getElem?_take] at hj
  split at hj
  · exact hj
  · cases hj

set_option maxHeartbeats 32000000 in
theorem RankParts_walk (a : Int) (its : List (Option Addr × Nat × List Int)) (Q : Option Addr) (m cq : Nat) (f t nn : Int) (w : World) (hg : ErrT w) (hm : its.length = m) (hq : Sl w 1 Q m (its.map rv)) (hr : AllRows w its) (hf : i64ok f) (ht : i64ok t) (hn : i64ok nn) :
    Calls Tryd.prog 6 #[.int .i64 a, .slice Q m cq, .int .i64 f, .int .i64 t, .int .i64 nn] w fun e w' => e = .returned (.bool true) ∧ Below w.heap.size w w' := by
  have HQ := Lib.hid hq
  have HR := Lib.hid hr
  have HM := Lib.hid hm
  have HG := Lib.hid hg
  have HF := Lib.hid hf
  have HT := Lib.hid ht
  have HN := Lib.hid hn
  clear hq hr hm hg hf ht hn
  refine (callsIn_wide (n := 5)).1 ?_
  refine callsIn_of_wp_marks Tryd.func6 rfl trivial ?_ rfl
  simp only [Tryd.ntmps6, List.size_toArray, List.length_cons, List.length_nil, Nat.reduceAdd, Nat.reduceSub, Array.replicate_succ, Array.replicate_zero, List.push_toArray, List.append_toArray, List.nil_append, List.cons_append]
  refine wpIn_wide.2 ?_
  go_upto_region 1 with (fail)
  obtain ⟨W0, hW0⟩ : ∃ W0, ((w.alloc (.cells #[.int .i64 f] 2)).alloc (.cells #[.int .i64 t] 2)).alloc (.cells #[.bool false] 4) = W0 := ⟨_, rfl⟩
  have hb0 : Below w.heap.size w W0 := by rw [← hW0]; exact bel_al (bel_al (bel_al (Below.refl _ _) _) _) _
  have hf0 : Blk W0 w.heap.size 2 #[.int .i64 f] := by rw [← hW0]; exact ((Blk.new w _ _).alloc _).alloc _
  have ht0 : Blk W0 (w.heap.size + 1) 2 #[.int .i64 t] := by
    have := (Blk.new (w.alloc (.cells #[.int .i64 f] 2)) 2 #[.int .i64 t]).alloc (.cells #[.bool false] 4)
    rw [World.size_alloc, hW0] at this
    exact this
  have hx0 : Blk W0 (w.heap.size + 2) 4 #[.bool false] := by
    have := Blk.new ((w.alloc (.cells #[.int .i64 f] 2)).alloc (.cells #[.int .i64 t] 2)) 4 #[.bool false]
    rw [World.size_alloc, World.size_alloc, hW0] at this
    exact this
  rw [hW0]
  clear hW0
  have HB0 := Lib.hid hb0
  have HF0 := Lib.hid hf0
  have HT0 := Lib.hid ht0
  have HX0 := Lib.hid hx0
  clear hb0 hf0 ht0 hx0
  have HAl := Lib.hid (alive14 W0 (HG.out.keep HB0.out))
  go_upto_region 3 with (go_at_call 29; refine HAl.out.mono ?_; clear HAl; rintro e w1 ⟨rfl, hb1⟩; have HB1 := Lib.hid hb1; clear hb1)
  have HMd := Lib.hid ((Made_any a its Q m cq w1 HM.out ((HQ.out.keep HB0.out).keep HB1.out) ((HR.out.keep HB0.out).keep HB1.out)).mono (R' := fun e w3 => ∃ (pv : Value) (bv : Bool), e = .returned (.tuple #[pv, .bool bv]) ∧ Below W0.heap.size W0 w3 ∧ (bv = true → ∃ n p : Nat, a = n ∧ 1 ≤ n ∧ n ≤ 5 ∧ m ≤ 12 ∧ Good n its ∧ pv = .pointer (some ⟨p, 0, none⟩) ∧ OdM w3 p (odOf n (its.map (·.2.2))))) (fun e w3 h => by
    rcases h with ⟨rfl, hb⟩ | ⟨n, p, h1, h2, h3, h4, h5, rfl, h6, hb⟩
    · exact ⟨_, _, rfl, HB1.out.andThen hb, fun h => by cases h⟩
    · exact ⟨_, _, rfl, HB1.out.andThen hb, fun _ => ⟨n, p, h1, h2, h3, h4, h5, rfl, h6⟩⟩))
  clear HB1
  go_upto_region 4 with (go_at_call 26; refine HMd.out.mono ?_; clear HMd; rintro e w3 ⟨pv, bv, rfl, hb, hd⟩; have HW := Lib.hid hb; have HD := Lib.hid hd; clear hb hd)
  have hX3 := HX0.out.keep HW.out
  have hW3 := HB0.out.andThen HW.out
  cases bv with
  | false =>
    have cx := hX3.cell 0
    have fx := hX3.frozen 0
    simp at cx
    go_wp2_with fail
    have hE := (hX3.set_ 0 (.bool true)).cell 0
    simp at hE
    exact mks0 rfl (v := .bool true) (by simp [results, Tryd.results6, go_sem, hE]) ⟨rfl, hW3.setCell (p := ⟨w.heap.size + 2, 0, none⟩) (by simp) _⟩
  | true =>
    obtain ⟨n, p, rfl, h1, h5, h12, hgd, rfl, hod⟩ := HD.out rfl
    have HOd := Lib.hid hod
    have HGd := Lib.hid hgd
    clear HD hod hgd
    by_cases h4 : 4 < n
    · have h4' : (4 : Int) < (n : Int) := by omega
      have cx := hX3.cell 0
      have fx := hX3.frozen 0
      simp at cx
      go_wp2_with fail
      have hE := (hX3.set_ 0 (.bool true)).cell 0
      simp at hE
      exact mks0 rfl (v := .bool true) (by simp [results, Tryd.results6, go_sem, hE]) ⟨rfl, hW3.setCell (p := ⟨w.heap.size + 2, 0, none⟩) (by simp) _⟩
    · have h4' : ¬ (4 : Int) < (n : Int) := by omega
      have hll : (its.map (·.2.2)).length ≤ 13 := by rw [List.length_map, HM.out]; omega
      have hlen : ∀ x ∈ its.map (·.2.2), x.length = n := fun x hx => by
        obtain ⟨t, ht, rfl⟩ := List.mem_map.1 hx
        exact (HGd.out t ht).1
      have hnum : ∀ x ∈ its.map (·.2.2), ∀ y ∈ x, numOK y := fun x hx => by
        obtain ⟨t, ht, rfl⟩ := List.mem_map.1 hx
        exact (HGd.out t ht).2
      have HOk := Lib.hid (odOf_ok n _ h1 h5 hll hlen hnum)
      have HOf := Lib.hid (RankOf_any p n (odOf n (its.map (·.2.2))) w3 HOd.out HOk.out.B HOk.out.len h1 (by omega) HOk.out.Nu HOk.out.C HOk.out.F)
      have HPt := Lib.hid (fun W (hb : Below w3.heap.size w3 W) => RefPaths_any its Q m cq n W HM.out (by omega) ((HQ.out.keep hW3).keep hb) ((HR.out.keep hW3).keep hb) (fun t ht => (HGd.out t ht).1) h1 h5)
      have HX3 := Lib.hid hX3
      have HW3 := Lib.hid hW3
      have HF3 := Lib.hid (HF0.out.keep HW.out)
      have HT3 := Lib.hid (HT0.out.keep HW.out)
      obtain ⟨od, hod⟩ : ∃ od, od = odOf n (its.map (·.2.2)) := ⟨_, rfl⟩
      rw [← hod] at HOf HOk HPt
      clear hod hlen hnum hll HOd HGd hX3 hW3 HF0 HT0 HX0 HB0 HW
      go_upto_region 8 with (first
        | (go_at_call 30; refine HOf.out.mono ?_; clear HOf; rintro e w4 ⟨q, rfl, hrk, hb⟩; have HRk := Lib.hid hrk; have HB4 := Lib.hid hb; clear hrk hb)
        | (go_at_call 31; refine (HPt.out _ HB4.out).mono ?_; clear HPt; rintro e w5 ⟨A, c, jts, rfl, hj, hsl, hok, hc1, hc2, hjl, hb⟩; have HJ := Lib.hid hj; have HSl := Lib.hid hsl; have HAok := Lib.hid hok; have HB5 := Lib.hid hb; clear hj hsl hok hb))
      obtain ⟨z, hz⟩ : ∃ z, z = jts.length := ⟨_, rfl⟩
      rw [← hz] at HSl hc1 hjl ⊢
      have HZ := Lib.hid hz
      have HTot := Lib.hid (show totP od = (z : Int) from by unfold totP; rw [← HJ.out, List.length_map, hz])
      have HRk5 := Lib.hid (HRk.out.keep HB5.out)
      have hb35 := HB4.out.andThen HB5.out
      have HX5 := Lib.hid (HX3.out.keep hb35)
      have HW5 := Lib.hid (HW3.out.andThen hb35)
      have HF5 := Lib.hid (HF3.out.keep hb35)
      have HT5 := Lib.hid (HT3.out.keep hb35)
      have HJl := Lib.hid hjl
      clear hz HRk HB4 HB5 HW3 HX3 HF3 HT3 hc1 hc2 hb35 hjl
      go_upto_region 11 with (fail)
      obtain ⟨W6, hW6⟩ : ∃ W6, (w5.alloc (.cells #[.slice A z c] 40)).alloc (.cells #[.int .i64 0] 3) = W6 := ⟨_, rfl⟩
      have hb6 : Below w5.heap.size w5 W6 := by rw [← hW6]; exact bel_al (bel_al (Below.refl _ _) _) _
      have ho6 : Blk W6 w5.heap.size 40 #[.slice A z c] := by rw [← hW6]; exact (Blk.new w5 _ _).alloc _
      have hc6 : Blk W6 (w5.heap.size + 1) 3 #[.int .i64 0] := by
        have := Blk.new (w5.alloc (.cells #[.slice A z c] 40)) 3 #[.int .i64 0]
        rw [World.size_alloc, hW6] at this
        exact this
      have HS6 := Lib.hid (show W6.heap.size = w5.heap.size + 2 from by rw [← hW6]; simp)
      rw [hW6]
      clear hW6
      have cf := (HF5.out.keep hb6).cell 0
      have ct := (HT5.out.keep hb6).cell 0
      simp at cf ct
      have HB6 := Lib.hid hb6
      have HO6 := Lib.hid ho6
      have HC6 := Lib.hid hc6
      clear hb6 ho6 hc6
      go_wp2_with (go_at_call 32; refine (Each_any (some ⟨q, 0, none⟩) _ _ _).mono ?_; rintro e w5x ⟨rfl, rfl⟩)
      clear cf ct
      obtain ⟨V5, hV5⟩ : ∃ V5, (W6.alloc (.cells #[.pointer (some ⟨q, 0, none⟩)] 57)).alloc (.cells #[.int .i64 f, .int .i64 t] 63) = V5 := ⟨_, rfl⟩
      have hb5 : Below W6.heap.size W6 V5 := by rw [← hV5]; exact bel_al (bel_al (Below.refl _ _) _) _
      have hr5 : Blk V5 W6.heap.size 57 #[.pointer (some ⟨q, 0, none⟩)] := by rw [← hV5]; exact (Blk.new W6 _ _).alloc _
      have hp5 : Blk V5 (W6.heap.size + 1) 63 #[.int .i64 f, .int .i64 t] := by
        have := Blk.new (W6.alloc (.cells #[.pointer (some ⟨q, 0, none⟩)] 57)) 63 #[.int .i64 f, .int .i64 t]
        rw [World.size_alloc, hV5] at this
        exact this
      rw [hV5]
      clear hV5
      obtain ⟨lo, hlo⟩ : ∃ lo : Nat, max f 0 = (lo : Int) := ⟨(max f 0).toNat, by omega⟩
      obtain ⟨hi, hhi⟩ : ∃ hi : Nat, hi = (min t (z : Int)).toNat := ⟨_, rfl⟩
      have HLo := Lib.hid hlo
      have HHi := Lib.hid hhi
      have HGl := Lib.hid (show (partP od f t).length = hi - lo from by rw [partP_len, HTot.out, hlo, ← hhi]; rfl)
      have HB5 := Lib.hid (HB6.out.andThen hb5)
      have hsz5 : w5.heap.size ≤ V5.heap.size := HB5.out.size
      have HL5 := Lib.hid hb5.size
      clear hlo hhi
      refine (wpIn_wide (n := 5)).1 ?_
      refine rangeFunc_one (fun x b => { b with tmps := b.tmps.setIfInBounds 17 (rv x) }) rfl (by omega) (gf := 71) (lb := #[.pointer (some ⟨W6.heap.size + 1, 0, none⟩), .pointer (some ⟨W6.heap.size, 0, none⟩)]) rfl trivial (enters_of Tryd.func71 (by kernel_rfl) rfl)
        (each_gives (5 - 1) w5.heap.size W6.heap.size (W6.heap.size + 1) W6.heap.size q p n od f t w5 V5 HF.out HT.out HOk.out HRk5.out rfl HB5.out hp5 hr5 (Nat.le_refl _)) knE_put KT.trans (fun _ W l o o' hl ho hc _ => KT.putObj o' (Nat.le_trans hsz5 hl) ho hc) (Below.refl _ _)
        (PtI w5 lo (.slice A z c) (partP od f t)) (fun _ _ _ => False) (PtI.own hsz5) (fun c s A B row hs _ _ => hs.elim)
        ⟨HB5.out, HO6.out.keep hb5, HC6.out.keep hb5⟩ ?assign ?body ?done ?stop
      case assign =>
        intro l x W K hK
        gi_wp2
        exact hK
      case stop =>
        rintro D c pre W _ _ h _
        exact h.elim
      case body =>
        rintro l pre ⟨D, d, P⟩ W ⟨i1, i2, i3⟩ ⟨hown, hG⟩ hlt
        obtain ⟨k, hk⟩ : ∃ k, k = pre.length := ⟨_, rfl⟩
        rw [← hk] at hG hlt i3
        rw [HGl.out] at hlt
        have hPa := partP_get hG
        have hlo' : (max f 0).toNat = lo := by have := HLo.out; omega
        rw [hlo'] at hPa
        have hPl : P.length = n := HOk.out.P P (List.mem_of_getElem? hPa)
        obtain ⟨gx, gc, hgx, hg5⟩ := own_form hown (by simp only; omega)
        have hgW : gx < W.heap.size := (hown.lt gx (by rw [hgx]; rfl)).2
        have hrow : RowOK W (D, d, P) := ⟨Sl.of_own hown, own_cap hown⟩
        have hDx : D = some ⟨gx, 0, none⟩ := by cases hgx; rfl
        obtain ⟨T, hT⟩ : ∃ T, T = lo + k := ⟨_, rfl⟩
        have hTz : T < z := by have := HHi.out; omega
        obtain ⟨D2, d2, l2, ht2, hl2⟩ := its_row (its := jts) (k := T) (by rw [← HZ.out]; exact hTz)
        have hl2P : l2 = P := by
          have h8 : (allP od)[T]? = some l2 := by rw [← HJ.out]; exact hl2
          rw [hT, hPa] at h8
          exact (Option.some.inj h8).symm
        subst hl2P
        obtain ⟨b, off, rfl, _⟩ := HSl.out.at_ (show 0 < z by omega)
        have c1 := HSl.out.again hTz (show (jts.map rv)[T]? = some (rv (D2, d2, l2)) by rw [List.getElem?_map, ht2]; rfl)
        simp only [rv] at c1
        have HC1 := Lib.hid (show ∀ W', Below w5.heap.size w5 W' → W'.cell? ⟨b, off + T, none⟩ = some (.slice D2 l2.length d2) from fun W' hb => (hb.cell (p := ⟨b, off + T, none⟩) (World.block_lt_of_cell? w5 _ c1)).trans c1)
        have HR2 := Lib.hid (HAok.out _ (List.mem_of_getElem? ht2))
        have HFc := Lib.hid (show ∀ W', Below w5.heap.size w5 W' → W'.cell? ⟨w.heap.size, 0, none⟩ = some (.int .i64 f) ∧ W'.cell? ⟨w.heap.size + 1, 0, none⟩ = some (.int .i64 t) from fun W' hb => by
          have g1 := (HF5.out.keep hb).cell 0
          have g2 := (HT5.out.keep hb).cell 0
          simp at g1 g2
          exact ⟨g1, g2⟩)
        have hws : W6.heap.size ≤ W.heap.size := by have := HL5.out; omega
        have hx5 : V5.heap.size ≤ gx := hg5
        have HBound := Lib.hid (show T < z ∧ T < hi ∧ (T : Int) < t ∧ z ≤ 371293 from ⟨hTz, by omega, by have := HHi.out; omega, HJl.out⟩)
        have HI1 := Lib.hid i1
        have HI2 := Lib.hid i2
        have HI3 := Lib.hid i3
        have HRow := Lib.hid hrow
        have HDx := Lib.hid (show ∀ y : Addr, D = some y → w5.heap.size + 2 ≤ y.block from fun y hy => by
          rw [hDx] at hy
          cases hy
          have := HS6.out
          have := HL5.out
          show w5.heap.size + 2 ≤ gx
          omega)
        have HK := Lib.hid hk
        have HTe := Lib.hid hT
        have HPl := Lib.hid hPl
        have HWs := Lib.hid hws
        have hTz' : (T : Int) < (z : Int) := by omega
        clear i1 i2 i3 hown hG hlt hPa hlo' hgx hg5 hgW hrow hDx hl2 ht2 c1 hws hx5 hk hPl hT
        simp only [rv, List.setIfInBounds_toArray, List.set_cons_succ, List.set_cons_zero]
        gi_wp2
        gi_loopw [] (fun wr => ∃ kk : Nat, kk ≤ T ∧ (0 < k → kk = T) ∧ Hid (KeepsOthers W wr) ∧ Hid (KT w5.heap.size W6.heap.size W wr) ∧ Hid (Blk wr w5.heap.size 40 #[.slice (some ⟨b, off, none⟩) z c]) ∧ Hid (Blk wr (w5.heap.size + 1) 3 #[.int .i64 (kk : Int)]) ∧ Hid (RowOK wr (D, d, l2)) ∧ (f ≤ (kk : Int) → kk = T)) (fun wr => T - cellN wr (w5.heap.size + 1))
        case atStart =>
          refine ⟨if k = 0 then 0 else lo + k, ?_, ?_, Lib.hid (KeepsOthers.refl _), Lib.hid (KT.refl _ _ _), HI2, HI3, HRow, ?_⟩
          · have := HTe.out; split <;> omega
          · intro h; have := HTe.out; split <;> omega
          · have := HTe.out; have := HLo.out; intro h; split <;> split at h <;> omega
        case round =>
          obtain ⟨kk, hk1, hk2, HKo, HKt, HW, HKb, HRw, hk3⟩ := hrel
          have cw := HW.out.cell 0
          have ck := HKb.out.cell 0
          have fk := HKb.out.frozen 0
          simp at cw ck
          have hbw := HI1.out.trans HKt.out.1
          obtain ⟨cf, ct⟩ := HFc.out wr hbw
          have hkz : (kk : Int) < (z : Int) := by omega
          by_cases hkf : (kk : Int) < f
          · have hw1 : IntKind.i64.wrap ((kk : Int) + 1) = (kk : Int) + 1 := by rw [IntKind.wrap_i64]; have := HBound.out; omega
            have hkT : kk + 1 ≤ T ∧ (0 < k → kk + 1 = T) ∧ (f ≤ ((kk + 1 : Nat) : Int) → kk + 1 = T) := by
              have h1 := HTe.out
              have h2 := HLo.out
              omega
            have HKT := Lib.hid hkT
            clear hk1 hk2 hk3 hkT
            gi_wp2
            go_roundw
            case rel =>
              have hws := HWs.out
              have hs6 := HS6.out
              have h9 := HRw.out
              exact ⟨kk + 1, HKT.out.1, HKT.out.2.1, Lib.hid (HKo.out.trans (KeepsOthers.setCell _ _ _)), Lib.hid (HKt.out.trans (KT.set _ (by omega) (by omega))), Lib.hid (HW.out.far (p := ⟨w5.heap.size + 1, 0, none⟩) (by simp) _), Lib.hid (HKb.out.set_ 0 (.int .i64 ((kk : Int) + 1))), Lib.hid ⟨sl_far h9.1 (fun y hy e => by have := HDx.out y hy; have e' : y.block = w5.heap.size + 1 := e; omega) _, h9.2⟩, HKT.out.2.2⟩
            case measure =>
              have e1 := cellN_blk HKb.out
              have e2 := cellN_blk (k := kk + 1) (HKb.out.set_ 0 (.int .i64 ((kk : Int) + 1)))
              rw [e1, e2]
              have := HKT.out.1
              omega
          · obtain rfl : kk = T := hk3 (by omega)
            have HSm := Lib.hid (SameInts_same l2 D D2 l2.length d d2 wr rfl HRw.out.1 (HR2.out.1.keep hbw) (by have := HPl.out; omega))
            have c1 := HC1.out wr hbw
            have hkt : ¬ t ≤ (kk : Int) := by have := HBound.out; omega
            have hkz2 : ¬ (z : Int) ≤ (kk : Int) := by omega
            have hw1 : IntKind.i64.wrap ((kk : Int) + 1) = (kk : Int) + 1 := by rw [IntKind.wrap_i64]; have := HBound.out; omega
            have hk0 : (0 : Int) ≤ (kk : Int) := by omega
            have HBw := Lib.hid hbw
            clear hk1 hk2 hk3 hbw
            gi_wp2_with (first
              | ((try refine ⟨trivial, ?_⟩); (try refine ⟨fun h => (by cases h), ?_⟩); gi_at_call 24; refine (CallsIn.inRound l (callsIn_wide.2 HSm.out)).mono ?_; clear HSm; rintro e W2 ⟨rfl, hb⟩; have ck2 := (HKb.out.keep hb).cell 0; have fk2 := (HKb.out.keep hb).frozen 0; simp at ck2; have HB2 := Lib.hid hb; clear hb)
              | fail)
            have hws := HWs.out
            have hs6 := HS6.out
            have hsw := HBw.out.size
            refine ⟨(HKo.out.trans (ko_belowE HB2.out)).trans (KeepsOthers.setCell _ _ _), (HKt.out.trans (KT.of_below HB2.out hsw)).trans (KT.set _ (by omega) (by omega)), (HBw.out.trans (HB2.out.mono hsw)).setCell (p := ⟨w5.heap.size + 1, 0, none⟩) (by simp) _, (HW.out.keep HB2.out).far (p := ⟨w5.heap.size + 1, 0, none⟩) (by simp) _, ?_⟩
            have h := (HKb.out.keep HB2.out).set_ 0 (.int .i64 ((kk : Int) + 1))
            rw [List.length_append, ← HK.out, if_neg (by simp), show lo + (k + [((D, d, l2) : RowE)].length) = kk + 1 from by rw [HTe.out]; rfl]
            exact h
      case done =>
        rintro D1 xs W hD hS ⟨i1, i2, i3⟩ hK1
        obtain ⟨kv, hkv⟩ : ∃ kv : Nat, kv = if xs.length = 0 then 0 else lo + xs.length := ⟨_, rfl⟩
        rw [← hkv] at i3
        have HCnd := Lib.hid (show ¬ (f < t ∧ (kv : Int) < (z : Int) ∧ (kv : Int) < t ∧ (f ≤ (kv : Int) ∨ f < (z : Int))) from by
          have h1 := HLo.out
          have h2 := HHi.out
          have h3 := hS.trans HGl.out
          rw [h3] at hkv
          split at hkv <;> omega)
        have HB7 := Lib.hid i1
        have HO7 := Lib.hid i2
        have HC7 := Lib.hid i3
        have HK1 := Lib.hid hK1
        have HD1 := Lib.hid (show w.heap.size ≤ D1 from Nat.le_trans (Nat.le_trans HW5.out.size HB5.out.size) hD)
        have HX7 := Lib.hid (HX5.out.keep i1)
        have HW7 := Lib.hid (HW5.out.andThen i1)
        have HRk7 := Lib.hid (HRk5.out.keep i1)
        have HSl7 := Lib.hid (HSl.out.keep i1)
        have HAok7 := Lib.hid (HAok.out.keep i1)
        have cf := (HF5.out.keep i1).cell 0
        have ct := (HT5.out.keep i1).cell 0
        have co := i2.cell 0
        have ck := i3.cell 0
        simp at cf ct co ck
        clear i1 i2 i3 hK1 hD hS hkv hr5 hp5 hb5 HSl HAok HX5 HW5
        go_upto_region 18 with (fail)
        go_cut [109] from 85 to 109 (fun v wx => v = .bool false ∧ W = wx)
        case first =>
          refine wp_thenF ?_
          by_cases p1 : f < t
          · by_cases p2 : (kv : Int) < (z : Int)
            · by_cases p3 : (kv : Int) < t
              · have p4 : ¬ f ≤ (kv : Int) := fun h => HCnd.out ⟨p1, p2, p3, .inl h⟩
                have p5 : ¬ f < (z : Int) := fun h => HCnd.out ⟨p1, p2, p3, .inr h⟩
                go_wp2_with fail
                go_meet
                exact ⟨rfl, rfl⟩
              · go_wp2_with fail
                go_meet
                exact ⟨rfl, rfl⟩
            · go_wp2_with fail
              go_meet
              exact ⟨rfl, rfl⟩
          · go_wp2_with fail
            go_meet
            exact ⟨rfl, rfl⟩
        case rest =>
          obtain ⟨rfl, rfl⟩ := hcut
          clear cf ct ck
          have HTo := Lib.hid (RkTotal_any q p od W HRk7.out)
          rw [HTot.out] at HTo
          have HSp := Lib.hid (Split_any (z : Int) nn W (by have := HJl.out; omega))
          go_upto_region 21 with (first
            | (go_at_call 34; refine HTo.out.mono ?_; clear HTo; rintro e w6 ⟨rfl, rfl⟩)
            | (go_at_call 33; refine HSp.out.mono ?_; clear HSp; rintro e w8 ⟨A8, k8, c8, v8, rfl, hb8, hbad, hgood⟩; have HB8 := Lib.hid hb8; clear hb8))
          have HW8 := Lib.hid (HW7.out.andThen HB8.out)
          have HX8 := Lib.hid (HX7.out.keep HB8.out)
          have HK18 := Lib.hid (show w8.heap[D1]? = some (.deferred (some [])) from (HB8.out.block D1 (Array.getElem?_eq_some_iff.1 HK1.out).1).trans HK1.out)
          by_cases hn : nn < 1 ∨ 64 < nn
          · obtain ⟨rfl, g8, rfl, hbk⟩ := hbad.out (by omega)
            have HCo := Lib.hid (Code_flt g8 1 0 _ w8 ((HG.out.keep HW8.out)) hbk)
            clear hbad hgood hbk co
            have HEnd := Lib.hid (show ∀ V, Below w8.heap.size w8 V → V.cell? ⟨w.heap.size + 2, 0, none⟩ = some (.bool false) ∧ V.frozen? ⟨w.heap.size + 2, 0, none⟩ = false from fun V hV => by
              have h1 := (HX8.out.keep hV).cell 0
              simp at h1
              exact ⟨h1, (HX8.out.keep hV).frozen 0⟩)
            have HFn := Lib.hid (show ∀ V, Below w8.heap.size w8 V → Blk V (w.heap.size + 2) 4 #[.bool false] ∧ Below w.heap.size w V ∧ V.heap[D1]? = some (.deferred (some [])) from fun V hV => ⟨HX8.out.keep hV, HW8.out.andThen hV, (hV.block D1 (Array.getElem?_eq_some_iff.1 HK18.out).1).trans HK18.out⟩)
            by_cases hn1 : nn < 1
            · clear hn
              go_wp2_with (go_at_call 35; refine HCo.out.mono ?_; clear HCo; rintro e w9 ⟨rfl, hb9⟩; obtain ⟨cx, fx⟩ := HEnd.out w9 hb9; have HB9 := Lib.hid hb9; clear hb9)
              obtain ⟨g1, g2, g3⟩ := HFn.out w9 HB9.out
              exact law_endB [D1] (w.heap.size + 2) (by omega) (fun V hV => by simp [results, Tryd.results6, go_sem, hV]) rfl (fun D h => by rw [List.mem_singleton.1 h]; exact g3) (by simp) g1 g2 (fun D h => by rw [List.mem_singleton.1 h]; exact HD1.out)
            · have hn2 : 64 < nn := by omega
              clear hn
              go_wp2_with (go_at_call 35; refine HCo.out.mono ?_; clear HCo; rintro e w9 ⟨rfl, hb9⟩; obtain ⟨cx, fx⟩ := HEnd.out w9 hb9; have HB9 := Lib.hid hb9; clear hb9)
              obtain ⟨g1, g2, g3⟩ := HFn.out w9 HB9.out
              exact law_endB [D1] (w.heap.size + 2) (by omega) (fun V hV => by simp [results, Tryd.results6, go_sem, hV]) rfl (fun D h => by rw [List.mem_singleton.1 h]; exact g3) (by simp) g1 g2 (fun D h => by rw [List.mem_singleton.1 h]; exact HD1.out)
          · obtain ⟨hk8, rfl, hs8⟩ := hgood.out (by omega)
            subst hk8
            have HS8 := Lib.hid hs8
            have hn1 : ¬ (k8 : Int) < 1 := by omega
            have hn2 : ¬ 64 < (k8 : Int) := by omega
            have HO8 := Lib.hid (HO7.out.keep HB8.out)
            have HRk8 := Lib.hid (HRk7.out.keep HB8.out)
            have HSl8 := Lib.hid (HSl7.out.keep HB8.out)
            have HAok8 := Lib.hid (HAok7.out.keep HB8.out)
            clear hbad hgood hs8 hn co HO7 HRk7 HSl7 HAok7 HX7 HW7 HB7 HC7 HK1
            go_wp2_with fail
            go_loopw [20, 21] (fun av iv wr => ∃ i : Nat, i ≤ k8 ∧ iv = .int .i64 (i : Int) ∧ av = .int .i64 (Rk.start (z : Int) k8 (i : Int)) ∧ Hid (Below w8.heap.size w8 wr)) (fun _ iv _ => k8 - (intOf iv).toNat)
            case atStart => exact ⟨0, Nat.zero_le _, rfl, by rw [show ((0 : Nat) : Int) = 0 from rfl, Rk.start_zero (z : Int) k8 (by omega) (by omega)], Lib.hid (Below.refl _ _)⟩
            case round =>
              obtain ⟨i, hi8, rfl, rfl, HB⟩ := hrel
              by_cases hik : i < k8
              · have hik' : (i : Int) < (k8 : Int) := by omega
                have hst := startsR (z : Int) k8 (by omega) i hik
                obtain ⟨s0, hs0⟩ : ∃ s0 : Nat, Rk.start (z : Int) k8 (i : Int) = (s0 : Int) := ⟨(Rk.start (z : Int) k8 (i : Int)).toNat, by omega⟩
                obtain ⟨s1, hs1⟩ : ∃ s1 : Nat, Rk.start (z : Int) k8 ((i : Int) + 1) = (s1 : Int) := ⟨(Rk.start (z : Int) k8 ((i : Int) + 1)).toNat, by omega⟩
                obtain ⟨b8, o8, rfl, _⟩ := HS8.out.at_ (show 0 < k8 by omega)
                have hpp := part_atR (HS8.out.keep HB.out) rfl hik
                rw [hs0, hs1] at hpp hst
                obtain ⟨p0, p1⟩ := hpp
                have hb01 : s0 ≤ s1 ∧ s1 ≤ z := by omega
                have HS1 := Lib.hid hs1
                rw [hs0]
                have hpl : (partP od (s0 : Int) (s1 : Int)).length = s1 - s0 := by rw [partP_len, HTot.out]; omega
                have HPa := Lib.hid (PathsR_any q p n od (s0 : Int) (s1 : Int) wr ⟨by omega, by have := HJl.out; omega⟩ ⟨by omega, by have := HJl.out; omega⟩ HOk.out (HRk8.out.keep HB.out) (by rw [hpl]; have := HJl.out; omega))
                have HPl := Lib.hid hpl
                have HB01 := Lib.hid hb01
                clear hst hs0 hs1 hpl hb01
                go_upto_region 28 with (go_at_call 36; refine HPa.out.mono ?_; clear HPa; rintro e w9 ⟨C, cc, its9, rfl, hj9, hsl9, hok9, hb9⟩; have HJ9 := Lib.hid hj9; have HSl9 := Lib.hid hsl9; have HAok9 := Lib.hid hok9; have HB9 := Lib.hid hb9; clear hj9 hsl9 hok9 hb9)
                obtain ⟨L, hL⟩ : ∃ L, L = its9.length := ⟨_, rfl⟩
                rw [← hL] at HSl9 ⊢
                have HL := Lib.hid hL
                have HLe := Lib.hid (show L = s1 - s0 from by have := congrArg List.length HJ9.out; rw [List.length_map, HPl.out] at this; omega)
                clear hL p0 p1
                go_wp2_with fail
                go_loopw [20, 23] (fun av kv wr2 => ∃ k : Nat, k ≤ L ∧ kv = .int .i64 (k : Int) ∧ av = .int .i64 ((s0 : Int) + (k : Int)) ∧ Hid (Below w9.heap.size w9 wr2)) (fun _ kv _ => L - (intOf kv).toNat)
                case atStart => exact ⟨0, Nat.zero_le _, rfl, by simp, Lib.hid (Below.refl _ _)⟩
                case round =>
                  obtain ⟨k, hk, rfl, rfl, HBk⟩ := hrel
                  by_cases hkL : k < L
                  · have hkL' : (k : Int) < (L : Int) := by omega
                    have hzb : z ≤ 371293 := HJl.out
                    have hbz : s0 + k < z := by have := HLe.out; have := HB01.out; omega
                    have HBw := Lib.hid (HB.out.andThen (HB9.out.andThen HBk.out))
                    obtain ⟨D1', d1, l1, ht1, hl1⟩ := its_row (its := its9) (k := k) (by rw [← HL.out]; exact hkL)
                    obtain ⟨D2', d2, l2, ht2, hl2⟩ := its_row (its := jts) (k := s0 + k) (by rw [← HZ.out]; exact hbz)
                    have hl12 : l1 = l2 := by
                      have h1 : (partP od (s0 : Int) (s1 : Int))[k]? = some l1 := by rw [← HJ9.out]; exact hl1
                      have h2 := partP_get h1
                      rw [show (max (s0 : Int) 0).toNat = s0 by omega, ← HJ.out, hl2] at h2
                      exact (Option.some.inj h2).symm
                    subst hl12
                    have hr1 := (HAok9.out _ (List.mem_of_getElem? ht1)).keep HBk.out
                    have hr2 := (HAok8.out _ (List.mem_of_getElem? ht2)).keep HBw.out
                    obtain ⟨b1, o1, rfl, _⟩ := HSl9.out.at_ (show 0 < L by omega)
                    obtain ⟨b2, o2, rfl, _⟩ := HSl8.out.at_ (show 0 < z by omega)
                    have c1 := (HSl9.out.keep HBk.out).again hkL (show (its9.map rv)[k]? = some (rv (D1', d1, l1)) by rw [List.getElem?_map, ht1]; rfl)
                    have c2 := (HSl8.out.keep HBw.out).again hbz (show (jts.map rv)[s0 + k]? = some (rv (D2', d2, l1)) by rw [List.getElem?_map, ht2]; rfl)
                    simp only [rv] at c1 c2
                    have cw := (HO8.out.keep HBw.out).cell 0
                    simp at cw
                    have hlz : l1.length ≤ 9223372036854775807 := by
                      have h1 := hr1.2.1
                      have h2 := hr1.2.2
                      simp only at h1 h2
                      omega
                    have HSq := Lib.hid (show ∀ V, Below wr.heap.size wr V → Calls Tryd.prog 24 #[.slice D1' l1.length d1, .slice D2' l1.length d2] V (fun e w' => e = .returned (.bool true) ∧ ∃ k, w' = V.drewN k) from fun V hV => by
                      have h := SameInts_q l1 l1 D1' D2' l1.length l1.length d1 d2 V rfl rfl (hr1.1.keep hV) (hr2.1.keep hV) hlz
                      rw [decide_eq_true rfl] at h
                      exact h)
                    have e1 : ¬ (z : Int) ≤ (s0 : Int) + (k : Int) := by omega
                    have e2 : ((s0 : Int) + (k : Int)).toNat = s0 + k := by omega
                    have e3 : (0 : Int) ≤ (s0 : Int) + (k : Int) := by omega
                    have e4 : (s0 : Int) + (k : Int) < (z : Int) := by omega
                    have e5 : decide ((z : Int) ≤ (s0 : Int) + (k : Int)) = false := by simp; omega
                    have e6 : IntKind.i64.wrap ((s0 : Int) + (k : Int) + 1) = (s0 : Int) + (k : Int) + 1 := by rw [IntKind.wrap_i64]; have := HJl.out; omega
                    clear ht1 ht2 hl1 hl2 hr1 hr2 hlz
                    go_upto_region 31 with (fail)
                    go_quiet (first | (go_at_call 24; exact Calls.quiet_of (HSq.out _ (drew_bel ⟨_, rfl⟩))))
                    go_wp2_with fail
                    go_roundw
                    case rel => exact ⟨k + 1, by omega, by go_num, by go_num, Lib.hid (bel_drewN HBk.out _)⟩
                    case measure => simp [intOf]; omega
                  · obtain rfl : k = L := by omega
                    have hkL' : ¬ (k : Int) < (k : Int) := by omega
                    go_wp2_with fail
                    go_roundw
                    case rel =>
                      refine ⟨i + 1, by omega, by go_num, ?_, Lib.hid (HB.out.andThen (HB9.out.andThen HBk.out))⟩
                      rw [show (((i + 1 : Nat)) : Int) = (i : Int) + 1 from by omega, HS1.out]
                      have h1 := HLe.out
                      have h2 := HB01.out
                      congr 1
                      omega
                    case measure => simp [intOf]; omega
              · obtain rfl : i = k8 := by omega
                have hik' : ¬ (i : Int) < (i : Int) := by omega
                have HEz := Lib.hid (Rk.start_end (z : Int) i (by omega))
                rw [HEz.out]
                have cw := (HO8.out.keep HB.out).cell 0
                have hX9 := HX8.out.keep HB.out
                have cx := hX9.cell 0
                have fx := hX9.frozen 0
                simp at cw cx
                have hzz : ((z : Int) == (z : Int)) = true := by simp
                have hii : ((i : Int) == (i : Int)) = true := by simp
                have HX9 := Lib.hid hX9
                clear hX9
                go_wp2_with fail
                exact law_endB [D1] (w.heap.size + 2) (by omega) (fun V hV => by simp [results, Tryd.results6, go_sem, hV]) rfl (fun D h => by rw [List.mem_singleton.1 h]; exact (HB.out.block D1 (Array.getElem?_eq_some_iff.1 HK18.out).1).trans HK18.out) (by simp) HX9.out (HW8.out.andThen HB.out) (fun D h => by rw [List.mem_singleton.1 h]; exact HD1.out)

/-- RankParts, as its frame asks it. -/
theorem RankParts_main (a0 : Int) (A1 : Option Addr) (n1 c1 : Nat) (its : List (Option Addr × Nat × List Int)) (a2 a3 a4 : Int) (w : World) (hg : ErrT w) (w0 : (Lit.int .i64 a0).wf = true) (m1 : n1 ≤ maxLen) (e1 : its.length = n1) (s1 : Sl w 1 A1 n1 (its.map rv)) (r1 : AllRows w its) (w2 : (Lit.int .i64 a2).wf = true) (w3 : (Lit.int .i64 a3).wf = true) (w4 : (Lit.int .i64 a4).wf = true) :
    Calls Tryd.prog 6 #[.int .i64 a0, .slice A1 n1 c1, .int .i64 a2, .int .i64 a3, .int .i64 a4] w fun e w' => e = .returned (.bool true) ∧ Below w.heap.size w w' :=
  RankParts_walk a0 its A1 n1 c1 a2 a3 a4 w hg e1 s1 r1 (wf_i64 w2) (wf_i64 w3) (wf_i64 w4)
end Go.Proofs.YtmonepclhbappaaDoor
