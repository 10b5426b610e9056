/-
  The document's numbers: Choose, by the row of choices.
-/
import Derived.Test.YtclbbchljiagpaaDoorNumG
import Derived.Test.YtclbbchljiagpaaDoorNumsTotal
import Derived.Deep.RegionLaw
namespace Go.Proofs.YtclbbchljiagpaaDoor
open Go.RowKit
set_option maxRecDepth 100000
set_option linter.unusedVariables false

theorem elemNum : Elem Tryd.prog 122 67 (.agg #[.bool false, .slice none 0 0]) 2 32 := ⟨Tryd.underlying122, by kernel_rfl, rfl, by decide⟩
/-- A number's two cells. -/
def nc (t : Int × Option Addr × Nat) : List Value := [.bool (decide (t.1 < 0)), .slice t.2.1 (digs t.1.natAbs).length t.2.2]
def ncs : List (Int × Option Addr × Nat) → List Value
  | [] => []
  | t :: l => nc t ++ ncs l
theorem ncs_len : ∀ l, (ncs l).length = l.length * 2
  | [] => rfl
  | t :: l => by rw [ncs, List.length_append, ncs_len l, List.length_cons]; simp [nc]; omega
theorem ncs_snoc (t : Int × Option Addr × Nat) : ∀ l, ncs (l ++ [t]) = ncs l ++ nc t
  | [] => by simp [ncs]
  | d :: l => by rw [List.cons_append, ncs, ncs, ncs_snoc t l, List.append_assoc]
theorem ncs_get : ∀ {l : List (Int × Option Addr × Nat)} {k : Nat} {t}, l[k]? = some t → (ncs l)[k * 2 + 0]? = some (.bool (decide (t.1 < 0))) ∧ (ncs l)[k * 2 + 1]? = some (.slice t.2.1 (digs t.1.natAbs).length t.2.2)
  | d :: l, 0, t, h => by
    obtain rfl : d = t := by simpa using h
    exact ⟨rfl, rfl⟩
  | d :: l, k + 1, t, h => by
    have ih := ncs_get (l := l) (k := k) (by simpa using h)
    have e0 : (k + 1) * 2 + 0 = (k * 2 + 0) + 2 := by omega
    have e1 : (k + 1) * 2 + 1 = (k * 2 + 1) + 2 := by omega
    rw [e0, e1]
    exact ih
/-- A number's digits lie so. -/
def ItOK (w : World) (t : Int × Option Addr × Nat) : Prop := Sl w 1 t.2.1 (digs t.1.natAbs).length (cD (digs t.1.natAbs)) ∧ (digs t.1.natAbs).length ≤ t.2.2 ∧ t.2.2 ≤ 9223372036854775807
theorem ItOK.num {w : World} {t : Int × Option Addr × Nat} (h : ItOK w t) : NumAt w (.agg #[.bool (decide (t.1 < 0)), .slice t.2.1 (digs t.1.natAbs).length t.2.2]) t.1 := ⟨_, _, rfl, h.1, h.2.1, h.2.2⟩
theorem ItOK.keep {w w' : World} {t : Int × Option Addr × Nat} (h : ItOK w t) (hb : Below w.heap.size w w') : ItOK w' t := ⟨h.1.keep hb, h.2⟩
theorem Sl.two {w : World} {A : Option Addr} {xs : List Value} (h : Sl w 1 A 2 xs) : Sl w 2 A 1 xs := ⟨by rw [h.1], fun _ => h.2 (by omega)⟩
theorem Sl.pair {w : World} {A : Option Addr} {n k : Nat} {its : List (Int × Option Addr × Nat)} {t : Int × Option Addr × Nat} (h : Sl w 2 A n (ncs its)) (hk : k < n) (ht : its[k]? = some t) : ∃ b off, A = some ⟨b, off, none⟩ ∧ w.cell? ⟨b, off + k * 2, none⟩ = some (.bool (decide (t.1 < 0))) ∧ w.cell? ⟨b, off + k * 2 + 1, none⟩ = some (.slice t.2.1 (digs t.1.natAbs).length t.2.2) := by
  obtain ⟨b, off, rfl, h2⟩ := h.at_ hk
  have hg := ncs_get ht
  obtain ⟨u0, a0, c0⟩ := h2 0 (by omega)
  obtain ⟨u1, a1, c1⟩ := h2 1 (by omega)
  rw [hg.1] at a0
  rw [hg.2] at a1
  cases a0
  cases a1
  exact ⟨b, off, rfl, c0, by rw [Nat.add_assoc]; exact c1⟩
/-- Digits lie in no block without numbers. -/
theorem Sl.asideD {w : World} {A : Option Addr} {n g i : Nat} {l : List Nat} {ty : TypeId} {cs : Array Value} (h : Sl w 1 A n (cD l)) (hl : l.length = n) (hb : Blk w g ty cs) (hcs : ∀ (j : Nat) (z : Int), cs[j]? ≠ some (.int .i64 z)) (u : Value) : Sl (w.setCell ⟨g, i, none⟩ u) 1 A n (cD l) := by
  by_cases hn : 0 < n
  · refine h.aside (fun x hx e => ?_)
    obtain ⟨b, off, rfl, h2⟩ := h.2 hn
    cases hx
    subst e
    have h3 := h2 0 _ (cD_get (List.getElem?_eq_getElem (show 0 < l.length by omega)))
    rw [hb.cell] at h3
    exact hcs _ _ h3
  · obtain rfl : n = 0 := by omega
    exact ⟨h.1, fun hn => absurd hn (by omega)⟩
theorem rowL_get {m i k : Nat} (h : k < i) : (rowL m i)[k]? = some ((ch m k : Nat) : Int) := by
  rw [rowL, List.getElem?_map, List.getElem?_range h]; rfl
theorem few_ch {n k : Nat} (hn : n ≤ 131) : Few ((ch n k : Nat) : Int) := by
  have h32 : (32768 : Nat) ^ 9 = 43556142965880123323311949751266331066368 := by decide
  have h1 := ch_le n k
  have h2 : 2 ^ n ≤ 2 ^ 131 := Nat.pow_le_pow_right (by omega) hn
  have h3 : (2 : Nat) ^ 131 = 2722258935367507707706996859454145691648 := by decide
  exact Few.of (k := 9) (by rw [h32]; omega) (by omega)
theorem its_at {its : List (Int × Option Addr × Nat)} {m i k : Nat} (h : its.map (·.1) = rowL m i) (hk : k < i) : ∃ D c, its[k]? = some (((ch m k : Nat) : Int), D, c) := by
  have h1 := congrArg (·[k]?) h
  simp only [List.getElem?_map, rowL_get hk] at h1
  cases hi : its[k]? with
  | none => rw [hi] at h1; cases h1
  | some t =>
    rw [hi] at h1
    obtain ⟨z, D, c⟩ := t
    have : z = ((ch m k : Nat) : Int) := by simpa using h1
    subst this
    exact ⟨D, c, rfl⟩

/-- A row with one number more. -/
theorem row_more {wr w4 w6 : World} {B j : Nat} {nv nv' : Value} {jts : List (Int × Option Addr × Nat)} {z : Int} {D3 : Option Addr} {d3 : Nat} (HO : wr.ownsRow B 67 2 nv j (ncs jts))
    (HJ : ∀ t ∈ jts, ItOK wr t ∧ ∀ x : Addr, t.2.1 = some x → x.block < wr.heap.size ∧ some x.block ≠ nv.ownBlock) (hb4 : Below wr.heap.size wr w4) (hit : ItOK w4 (z, D3, d3)) (hnew : ∀ x : Addr, D3 = some x → wr.heap.size ≤ x.block ∧ x.block < w4.heap.size)
    (hown6 : w6.ownsRow B 67 2 nv' (j + 1) (ncs jts ++ nc (z, D3, d3))) (hgr : Gr w4 w6 nv nv') :
    w6.ownsRow B 67 2 nv' (j + 1) (ncs (jts ++ [(z, D3, d3)])) ∧ (∀ t ∈ jts ++ [(z, D3, d3)], ItOK w6 t ∧ ∀ x : Addr, t.2.1 = some x → x.block < w6.heap.size ∧ some x.block ≠ nv'.ownBlock) := by
  have hsep : ∀ x : Addr, x.block < w4.heap.size → some x.block ≠ nv.ownBlock → x.block < w6.heap.size ∧ some x.block ≠ nv'.ownBlock := fun x h1 h2 => ⟨Nat.lt_of_lt_of_le h1 hgr.size, fun h => by
    rcases hgr.at_ x.block h.symm with h3 | h3
    · exact h2 h3.symm
    · omega⟩
  refine ⟨by rw [ncs_snoc]; exact hown6, fun t ht => ?_⟩
  rcases List.mem_append.1 ht with ht | ht
  · have h1 := HJ t ht
    have h2 : ∀ x : Addr, t.2.1 = some x → x.block < w4.heap.size ∧ some x.block ≠ nv.ownBlock := fun x hx => ⟨Nat.lt_of_lt_of_le (h1.2 x hx).1 hb4.size, (h1.2 x hx).2⟩
    exact ⟨⟨(h1.1.keep hb4).1.grown hgr.g h2, h1.1.2⟩, fun x hx => hsep x (h2 x hx).1 (h2 x hx).2⟩
  · obtain rfl : t = (z, D3, d3) := by simpa using ht
    have h2 : ∀ x : Addr, D3 = some x → x.block < w4.heap.size ∧ some x.block ≠ nv.ownBlock := fun x hx => ⟨(hnew x hx).2, fun h => by
      have h3 := (HO.lt x.block h.symm).2
      have h4 := (hnew x hx).1
      omega⟩
    exact ⟨⟨hit.1.grown hgr.g h2, hit.2⟩, fun x hx => hsep x (h2 x hx).1 (h2 x hx).2⟩

set_option maxHeartbeats 16000000 in
theorem RefChoose_any (n k : Nat) (w : World) (hk : k ≤ n) (hn : n ≤ 130) :
    Calls Tryd.prog 54 #[.int .i64 (n : Int), .int .i64 (k : Int)] w fun e w' => ∃ v, e = .returned v ∧ NumAt w' v ((ch n k : Nat) : Int) ∧ Below w.heap.size w w' := by
  go_enter Tryd.func54, Tryd.ntmps54
  go_wp2_with fail
  refine (Of_new 1 _ (by omega)).mono ?_
  rintro e w1 ⟨v, rfl, hv, hnew, hb1⟩
  obtain ⟨D, d, rfl, hs, hq⟩ := hv
  have HNew := Lib.hid hnew.at_
  have HIt := Lib.hid (show ItOK w1 (1, D, d) from ⟨hs, hq⟩)
  have HR := Lib.hid ((Blk.new w 67 #[.bool false, .slice none 0 0]).keep hb1)
  have HB := Lib.hid ((bel_al (Below.refl w.heap.size w) (.cells #[.bool false, .slice none 0 0] 67)).andThen hb1)
  clear hs hq hnew hb1
  go_wp2_with fail
  go_loopw [5, 6] (fun rv iv wr => ∃ (i : Nat) (A : Option Addr) (c : Nat) (its : List (Int × Option Addr × Nat)), i ≤ n ∧ iv = .int .i64 (i : Int) ∧ rv = .slice A (i + 1) c ∧ its.map (·.1) = rowL i (i + 1) ∧ Sl wr 2 A (i + 1) (ncs its) ∧ (∀ t ∈ its, ItOK wr t) ∧ Blk wr w.heap.size 67 #[.bool false, .slice none 0 0] ∧ Below w.heap.size w wr) (fun _ iv _ => n - (intOf iv).toNat)
  case atStart =>
    refine ⟨0, _, _, [(1, D, d)], Nat.zero_le _, rfl, rfl, rfl, (Sl.newAt w1 _ _ 2 rfl).two, ?_, HR.out.alloc _, bel_al HB.out _⟩
    intro t ht
    obtain rfl : t = (1, D, d) := by simpa using ht
    exact HIt.out.keep (bel_al (Below.refl _ _) _)
  case round =>
    obtain ⟨i, A, c, its, hi, rfl, rfl, hits, hsl, hok, hres, hb⟩ := hrel
    have HIts := Lib.hid hits
    have HSl := Lib.hid hsl
    have HOk := Lib.hid hok
    have HRes := Lib.hid hres
    have HBr := Lib.hid hb
    clear hits hsl hok hres hb HNew HIt HR HB
    by_cases hin : i < n
    · have hin' : (i : Int) < (n : Int) := by omega
      obtain ⟨wo, rfl⟩ : ∃ wo, wr = wo := ⟨_, rfl⟩
      go_wp2_with fail
      refine (Of_new 1 _ (by omega)).mono ?_
      rintro e w2 ⟨v, rfl, hv, hnew, hb2⟩
      obtain ⟨D1, d1, rfl, hs, hq⟩ := hv
      have HNew := Lib.hid hnew.at_
      have HIt := Lib.hid (show ItOK w2 (1, D1, d1) from ⟨hs, hq⟩)
      replace HSl := Lib.hid (HSl.out.keep hb2)
      have HOk2 := Lib.hid (fun t ht => (HOk.out t ht).keep hb2)
      replace HRes := Lib.hid (HRes.out.keep hb2)
      replace HBr := Lib.hid (HBr.out.andThen hb2)
      have hrl := HRes.out.lt
      clear hs hq hnew hb2 HOk
      go_wp2_with fail
      go_loopw [7, 8] (fun nv jv wx => ∃ (j : Nat) (jts : List (Int × Option Addr × Nat)), 1 ≤ j ∧ j ≤ i + 1 ∧ jv = .int .i64 (j : Int) ∧ wx.ownsRow w2.heap.size 67 2 nv j (ncs jts) ∧ jts.map (·.1) = rowL (i + 1) j ∧ (∀ t ∈ jts, ItOK wx t ∧ ∀ x : Addr, t.2.1 = some x → x.block < wx.heap.size ∧ some x.block ≠ nv.ownBlock) ∧ Below w2.heap.size w2 wx) (fun _ jv _ => i + 1 - (intOf jv).toNat)
      case atStart =>
        refine ⟨1, [(1, D1, d1)], Nat.le_refl _, by omega, rfl, ?_, by rw [rowL_succ, ch_zero]; rfl, ?_, bel_al (Below.refl _ _) _⟩
        · have := World.ownsRow_lit (base := w2.heap.size) (size := 2) (e := 67) w2 #[.bool (decide ((1 : Int) < 0)), .slice D1 (digs (1 : Int).natAbs).length d1] 1 (Nat.le_refl _) (by unfold maxLen; omega) (by simp)
          simpa [ncs, nc] using this
        · intro t ht
          obtain rfl : t = (1, D1, d1) := by simpa using ht
          refine ⟨HIt.out.keep (bel_al (Below.refl _ _) _), fun x hx => ?_⟩
          have h1 := HNew.out x hx
          refine ⟨by simp; omega, fun h => ?_⟩
          have h2 : x.block = w2.heap.size := by simpa [Value.ownBlock] using h
          omega
      case round =>
        obtain ⟨j, jts, hj1, hji, rfl, hown, hjts, hjok, hb⟩ := hrel
        have HO := Lib.hid hown
        have HJts := Lib.hid hjts
        have HJok := Lib.hid hjok
        have HBx := Lib.hid hb
        clear hown hjts hjok hb HNew HIt
        by_cases hjl : j < i + 1
        · obtain ⟨j', hj'⟩ : ∃ j', j = j' + 1 := ⟨j - 1, by omega⟩
          obtain ⟨E0, e0, ht0⟩ := its_at HIts.out (k := j') (by omega)
          obtain ⟨E1, e1, ht1⟩ := its_at HIts.out (k := j) (by omega)
          obtain ⟨b, off, rfl, ca0, ca1⟩ := (HSl.out.keep HBx.out).pair (k := j') (by omega) ht0
          obtain ⟨b', off', hbo, cb0, cb1⟩ := (HSl.out.keep HBx.out).pair (k := j) (by omega) ht1
          cases hbo
          have HN0 := Lib.hid (HOk2.out _ (List.mem_of_getElem? ht0)).num
          have HN1 := Lib.hid (HOk2.out _ (List.mem_of_getElem? ht1)).num
          have HF0 := Lib.hid (few_ch (n := i) (k := j') (by omega))
          have HF1 := Lib.hid (few_ch (n := i) (k := j) (by omega))
          have HCh := Lib.hid (show ((ch i j' : Nat) : Int) + ((ch i j : Nat) : Int) = ((ch (i + 1) j : Nat) : Int) by rw [hj', ch_succ, Int.natCast_add])
          simp only at ca0 ca1 cb0 cb1
          clear ht0 ht1
          generalize hz0 : ((ch i j' : Nat) : Int) = z0 at *
          generalize hz1 : ((ch i j : Nat) : Int) = z1 at *
          clear hz0 hz1
          have hjl' : (j : Int) < (i : Int) + 1 := by omega
          have hjl2 : (j : Int) < ((i + 1 : Nat) : Int) := by omega
          have hjj : (j : Int) - 1 = (j' : Int) := by omega
          have hj0 : (0 : Int) ≤ (j' : Int) := by omega
          have hj00 : (0 : Int) ≤ (j : Int) := by omega
          have hji1 : (j' : Int) < (i : Int) + 1 := by omega
          have hji2 : (j' : Int) < ((i + 1 : Nat) : Int) := by omega
          have hwj : IntKind.i64.wrap (j' : Int) = (j' : Int) := by rw [IntKind.wrap_i64]; omega
          clear hj'
          have HOB := Lib.hid (fun w4 (hb4 : Below wr.heap.size wr w4) => (show w4.ownsRow w2.heap.size 67 2 u7 j (ncs jts) ∧ w2.heap.size ≤ w4.heap.size from ⟨own_below HO.out (fun g hg => (HO.out.lt g hg).2) hb4, Nat.le_trans HBx.out.size hb4.size⟩))
          have HAdd := Lib.hid (RefAdd_new _ _ z0 z1 wr.drew (HN0.out.keep (bel_drewN HBx.out 1)) (HN1.out.keep (bel_drewN HBx.out 1)) HF0.out HF1.out)
          go_upto_region 9 with (fail)
          go_region_law (first
              | (refine step_cat_at elemNum (.tmp 24) (.tmp 35) rfl rfl ((HOB.out w4 HB4.out).1.alloc _) (by have := (HOB.out w4 HB4.out).2; simp; omega) ((Sl.newAt w4 _ _ 2 rfl).two) rfl rfl (by simp [Value.oneCell']) (by unfold lim; omega) (by unfold lim; omega) ?_; intro v6 w6 hown6 hgr)
              | (go_simp; go_at_call 46; refine HAdd.out.mono ?_; rintro e w4 ⟨v3, rfl, hv3, hnew, hb4⟩; obtain ⟨D3, d3, rfl, hs3, hq3⟩ := hv3; have HB4 := Lib.hid ((bel_drewN (Below.refl wr.heap.size wr) 1).andThen hb4); have HNew := Lib.hid hnew.at_; have HIt := Lib.hid (show ItOK w4 (z0 + z1, D3, d3) from ⟨hs3, hq3⟩); clear hs3 hq3 hnew hb4))
          all_goals
            go_wp2_with fail
            go_roundw
            case rel =>
              have h6 := row_more HO.out HJok.out HB4.out HIt.out (fun x hx => HNew.out x hx) hown6 hgr.after_alloc
              refine ⟨j + 1, jts ++ [(z0 + z1, D3, d3)], by omega, by omega, rfl, h6.1, ?_, h6.2, ?_⟩
              · rw [List.map_append, HJts.out, rowL_succ, ← HCh.out]; rfl
              · have hB4 := HBx.out.trans (HB4.out.mono HBx.out.size)
                exact hB4.trans (hgr.after_alloc.belowOwn hB4.size (HOB.out w4 HB4.out).1)
            case measure => simp [intOf]; omega
        · obtain rfl : j = i + 1 := by omega
          have hjl' : ¬ ((i + 1 : Nat) : Int) < (i : Int) + 1 := by omega
          have hjl2 : ¬ ((i + 1 : Nat) : Int) < ((i + 1 : Nat) : Int) := by omega
          go_wp2_with fail
          refine (Of_new 1 _ (by omega)).mono ?_
          rintro e w4 ⟨v, rfl, hv, hnew, hb4⟩
          obtain ⟨D2, d2, rfl, hs, hq⟩ := hv
          have HNew := Lib.hid hnew.at_
          have HIt := Lib.hid (show ItOK w4 (1, D2, d2) from ⟨hs, hq⟩)
          have HB4 := Lib.hid hb4
          have HO4 := Lib.hid (own_below HO.out (fun g hg => (HO.out.lt g hg).2) hb4)
          have hB4 := HBx.out.trans (hb4.mono HBx.out.size)
          have HBB := Lib.hid hB4
          have hsz4 := hB4.size
          clear hs hq hnew hb4 hB4
          go_wp2_with (at_builtin; refine wpList_cat_at elemNum _ _ rfl rfl (HO4.out.alloc _) (by simp; omega) ((Sl.newAt w4 _ _ 2 rfl).two) rfl rfl (by simp [Value.oneCell']) (by unfold lim; omega) (by unfold lim; omega) ?_; intro v6 w6 hown6 hgr)
          obtain ⟨g6, c6, rfl, _⟩ := own_form hown6 (by omega)
          have h6 := row_more HO.out HJok.out HB4.out HIt.out (fun x hx => HNew.out x hx) hown6 hgr.after_alloc
          have H6 := Lib.hid h6
          have HG6 := Lib.hid hgr.after_alloc
          clear hown6 hgr h6
          go_roundw
          case rel =>
            refine ⟨i + 1, _, c6, jts ++ [(1, D2, d2)], by omega, rfl, rfl, ?_, Sl.of_own H6.out.1, fun t ht => (H6.out.2 t ht).1, ?_, ?_⟩
            · rw [List.map_append, HJts.out, rowL_succ (i + 1) (i + 1), ch_self]; rfl
            · exact HG6.out.blk ((HRes.out.below HBx.out hrl).keep HB4.out) (fun h => by have := (HO.out.lt _ h).1; omega)
            · have h1 := HBr.out.trans (HBB.out.mono (Nat.le_of_lt hrl))
              exact h1.trans (HG6.out.belowOwn h1.size (own_mono HO4.out (Nat.le_of_lt hrl)))
          case measure => simp [intOf]; omega
    · obtain rfl : i = n := by omega
      have hin' : ¬ (i : Int) < (i : Int) := by omega
      have hki : ¬ (i : Int) < (k : Int) := by omega
      have hk0 : (0 : Int) ≤ (k : Int) := by omega
      have hkl : (k : Int) < (i : Int) + 1 := by omega
      obtain ⟨E, e, ht⟩ := its_at HIts.out (k := k) (by omega)
      obtain ⟨b, off, rfl, ca0, ca1⟩ := HSl.out.pair (k := k) (by omega) ht
      have HT := Lib.hid (HOk.out _ (List.mem_of_getElem? ht))
      have m0 := HRes.out.cell 0
      have m1 := HRes.out.cell 1
      have f0 := HRes.out.frozen 0
      have f1 := HRes.out.frozen 1
      simp at m0 m1
      simp only at ca0 ca1
      clear ht
      go_wp2_with fail
      refine bodyPost_ret (v := .agg #[.bool (decide (((ch i k : Nat) : Int) < 0)), .slice E (digs ((ch i k : Nat) : Int).natAbs).length e]) (by simp [results, Tryd.results54, go_sem, m0, m1]) rfl ?_
      refine ⟨_, rfl, ⟨E, e, rfl, ?_, HT.out.2⟩, (HBr.out.setCell (p := ⟨w.heap.size, 0, none⟩) (Nat.le_refl _) _).setCell (p := ⟨w.heap.size, 1, none⟩) (Nat.le_refl _) _⟩
      have h1 := HRes.out.set_ 0 (.bool (decide (((ch i k : Nat) : Int) < 0)))
      refine (HT.out.1.asideD rfl HRes.out ?_ _).asideD rfl h1 ?_ _
      · intro j z h
        rcases j with _ | _ | j <;> simp at h
      · intro j z h
        rcases j with _ | _ | j <;> simp at h
end Go.Proofs.YtclbbchljiagpaaDoor
