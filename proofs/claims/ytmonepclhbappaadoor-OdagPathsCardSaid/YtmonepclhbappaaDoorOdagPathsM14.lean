/-
  Part 14 of the proof of OdagPaths: RankW, FrameR, SameQ, LawEnd.
-/
import Derived.BigQuiet
import Derived.Deep.DeepCutAuto
import Derived.Test.YtmonepclhbappaaDoorOdagPathsM12
import Derived.Test.YtmonepclhbappaaDoorOdagPathsM8
import Derived.Test.YtmonepclhbappaaDoorOdagPathsM13
import Derived.Test.YtmonepclhbappaaDoorOdagPathsM1
import Derived.Test.YtmonepclhbappaaDoorOdagPathsM2
import Derived.Test.YtmonepclhbappaaDoorOdagPathsM9
/-
  The laws' Paths of a part: they are put one behind the other.
-/
namespace Go.Proofs.YtmonepclhbappaaDoor
open Go.RowKit Go.Maps
attribute [local go_sem] Oper.semAt_some
set_option maxRecDepth 100000
set_option linter.unusedVariables false

/-- What holds while rows are put into a row of rows that lies in a box. -/
def OutI (n₀ B Bo : Nat) (w0 : World) (G : List (List Int)) (pre : List RowE) (W : World) : Prop :=
  Below n₀ w0 W ∧ (∃ v, Blk W Bo 40 #[v] ∧ W.ownsRow B 22 1 v pre.length (pre.map rv) ∧ RowsOK W v pre ∧ ∀ t ∈ pre, ∀ x : Addr, t.1 = some x → B ≤ x.block) ∧ ∀ (i : Nat) (x : RowE), pre[i]? = some x → G[i]? = some x.2.2
theorem OutI.own {n₀ B Bo n : Nat} {w0 : World} {G : List (List Int)} (h0 : n₀ ≤ w0.heap.size) (hn : n₀ ≤ n) : OwnFrom n (OutI n₀ B Bo w0 G) := ownFrom_of fun s A B' row ⟨h1, ⟨v, h2, h3, h4, h6⟩, h5⟩ hg hr hge =>
  ⟨bel_gb h1 h0 hg (fun r e => Nat.le_trans hn (hge r e)), ⟨v, blk_gb h2 hg hr, own_gb h3 hg hr, rows_gb h4 hg hr, h6⟩, h5⟩
theorem getI_snoc {G : List (List Int)} {pre : List RowE} {x : RowE} (h : ∀ (i : Nat) (x : RowE), pre[i]? = some x → G[i]? = some x.2.2) (hx : G[pre.length]? = some x.2.2) : ∀ (i : Nat) (y : RowE), (pre ++ [x])[i]? = some y → G[i]? = some y.2.2 := fun j y hy => by
  rcases Nat.lt_or_ge j pre.length with hj | hj
  · rw [List.getElem?_append_left hj] at hy
    exact h j y hy
  · rw [List.getElem?_append_right hj] at hy
    obtain rfl : j = pre.length := by
      have := (List.getElem?_eq_some_iff.1 hy).1
      simp at this
      omega
    rw [Nat.sub_self] at hy
    obtain rfl : x = y := by simpa using hy
    exact hx
theorem getI_all {G : List (List Int)} {pre : List RowE} (h : ∀ (i : Nat) (x : RowE), pre[i]? = some x → G[i]? = some x.2.2) (hl : pre.length = G.length) : pre.map (·.2.2) = G := by
  refine List.ext_getElem? fun i => ?_
  rw [List.getElem?_map]
  cases hp : pre[i]? with
  | none =>
    rw [List.getElem?_eq_none_iff] at hp
    rw [List.getElem?_eq_none (by omega)]
    rfl
  | some x => rw [h i x hp]; rfl

set_option maxHeartbeats 16000000 in
theorem PathsR_any (q p N : Nat) (od : List Rw) (f t : Int) (w : World) (hf : i64ok f) (ht : i64ok t) (hO : OdOK od N) (hk : RkM w q p od) (hT : (partP od f t).length ≤ 100000000) :
    Calls Tryd.prog 36 #[.pointer (some ⟨q, 0, none⟩), .agg #[.int .i64 f, .int .i64 t]] w fun e w' => ∃ (A : Option Addr) (c : Nat) (jts : List RowE), e = .returned (.slice A jts.length c) ∧ jts.map (·.2.2) = partP od f t ∧ Sl w' 1 A jts.length (jts.map rv) ∧ AllRows w' jts ∧ Below w.heap.size w w' := by
  have HO := Lib.hid hO
  have HK := Lib.hid hk
  have HF := Lib.hid hf
  have HT := Lib.hid ht
  have HTl := Lib.hid hT
  clear hO hk hf ht hT
  refine (callsIn_wide (n := 5)).1 ?_
  refine callsIn_of_wp_marks Tryd.func36 rfl trivial ?_ rfl
  simp only [Tryd.ntmps36, List.size_toArray, List.length_cons, List.length_nil, Nat.reduceAdd, Nat.reduceSub, Array.replicate_succ, Array.replicate_zero, List.push_toArray, List.append_toArray, List.nil_append, List.cons_append]
  refine wpIn_wide.2 ?_
  go_upto_region 2 with (fail)
  obtain ⟨W6, hW6⟩ : ∃ W6, (w.alloc (.cells #[.int .i64 f, .int .i64 t] 63)).alloc (.cells #[.slice none 0 0] 40) = W6 := ⟨_, rfl⟩
  have hb6 : Below w.heap.size w W6 := by rw [← hW6]; exact bel_al (bel_al (Below.refl _ _) _) _
  have hp6 : Blk W6 w.heap.size 63 #[.int .i64 f, .int .i64 t] := by rw [← hW6]; exact (Blk.new w _ _).alloc _
  have ho6 : Blk W6 (w.heap.size + 1) 40 #[.slice none 0 0] := by
    have := Blk.new (w.alloc (.cells #[.int .i64 f, .int .i64 t] 63)) 40 #[.slice none 0 0]
    rw [World.size_alloc, hW6] at this
    exact this
  have hs6 : W6.heap.size = w.heap.size + 2 := by rw [← hW6]; simp
  rw [hW6]
  clear hW6
  have HS6 := Lib.hid hs6
  clear hs6
  have c0 := hp6.cell 0
  have c1 := hp6.cell 1
  simp at c0 c1
  go_wp2_with (go_at_call 32; refine (Each_any (some ⟨q, 0, none⟩) _ _ _).mono ?_; rintro e w5 ⟨rfl, rfl⟩)
  clear c0 c1
  obtain ⟨W5, hW5⟩ : ∃ W5, (W6.alloc (.cells #[.pointer (some ⟨q, 0, none⟩)] 57)).alloc (.cells #[.int .i64 f, .int .i64 t] 63) = W5 := ⟨_, rfl⟩
  have hb5 : Below W6.heap.size W6 W5 := by rw [← hW5]; exact bel_al (bel_al (Below.refl _ _) _) _
  have hr5 : Blk W5 W6.heap.size 57 #[.pointer (some ⟨q, 0, none⟩)] := by rw [← hW5]; exact (Blk.new W6 _ _).alloc _
  have hp5 : Blk W5 (W6.heap.size + 1) 63 #[.int .i64 f, .int .i64 t] := by
    have := Blk.new (W6.alloc (.cells #[.pointer (some ⟨q, 0, none⟩)] 57)) 63 #[.int .i64 f, .int .i64 t]
    rw [World.size_alloc, hW5] at this
    exact this
  rw [hW5]
  clear hW5
  have HB5 := Lib.hid (hb6.andThen hb5)
  have HL5 := Lib.hid hb5.size
  refine (wpIn_wide (n := 5)).1 ?_
  refine rangeFunc_one (fun x b => { b with tmps := b.tmps.setIfInBounds 6 (rv x) }) rfl (by omega) (gf := 71) (lb := #[.pointer (some ⟨W6.heap.size + 1, 0, none⟩), .pointer (some ⟨W6.heap.size, 0, none⟩)]) rfl trivial (enters_of Tryd.func71 (by kernel_rfl) rfl)
    (each_gives (5 - 1) w.heap.size W6.heap.size (W6.heap.size + 1) W6.heap.size q p N od f t w W5 HF.out HT.out HO.out HK.out rfl HB5.out hp5 hr5 (Nat.le_refl _)) knE_put KT.trans (fun _ W l o o' hl ho hc _ => KT.putObj o' (Nat.le_trans HB5.out.size hl) ho hc) (Below.refl _ _)
    (OutI w.heap.size W6.heap.size (w.heap.size + 1) w (partP od f t)) (fun _ _ _ => False) (OutI.own (Nat.le_refl _) HB5.out.size) (fun c s A B row hs _ _ => hs.elim)
    ⟨HB5.out, ⟨_, ho6.keep hb5, World.ownsRow_nil _ _ _ _, (fun t h => by cases h), fun t h => by cases h⟩, fun i x hx => by cases hx⟩ ?assign ?body ?done ?stop
  case assign =>
    intro l x W K hK
    gi_wp2
    exact hK
  case stop =>
    rintro D c pre W _ _ h _
    exact h.elim
  case body =>
    rintro l pre ⟨D, d, P⟩ W ⟨i1, ⟨v, i2, i3, i4, i6⟩, i5⟩ ⟨hown, hG⟩ hlt
    have cv := i2.cell 0
    simp at cv
    have hP : P ∈ allP od := by
      have := List.mem_of_getElem? hG
      unfold partP at this
      exact List.mem_of_mem_take (List.mem_of_mem_drop this)
    have hPl : P.length = N := HO.out.P P hP
    have hN1 := HO.out.h1
    obtain ⟨gx, gc, hgx, hg5⟩ := own_form hown (by simp only; omega)
    have hDx : D = some ⟨gx, 0, none⟩ := by cases hgx; rfl
    have hgW : gx < W.heap.size := (hown.lt gx (by rw [hgx]; rfl)).2
    have hrow : RowOK W (D, d, P) := ⟨Sl.of_own hown, own_cap hown⟩
    have hnov : ∀ x : Addr, D = some x → x.block < W.heap.size ∧ some x.block ≠ v.ownBlock := fun x hx => by
      rw [hDx] at hx
      cases hx
      refine ⟨hgW, fun e => ?_⟩
      have e2 : v.ownBlock ≠ some gx := by
        rcases hown.2 with ⟨h7, _⟩ | ⟨g', cap, cur, h7, _, h8, _⟩
        · rw [hgx] at h7; cases h7
        · rw [hgx] at h7
          cases h7
          intro h9
          rcases i3.2 with ⟨rfl, _⟩ | ⟨g2, cap2, cur2, rfl, _, h10, _⟩
          · simp [Value.ownBlock] at h9
          · obtain rfl : g2 = gx := by simpa [Value.ownBlock] using h9
            rw [h8] at h10
            injection h10 with h10
            injection h10 with _ h11
            exact absurd h11 (by decide)
      exact e2 e.symm
    have HI1 := Lib.hid i1
    have HI2 := Lib.hid i2
    have HI3 := Lib.hid i3
    have HI4 := Lib.hid i4
    have HI5 := Lib.hid i5
    have HI6 := Lib.hid (show ∀ t ∈ pre ++ [(D, d, P)], ∀ x : Addr, t.1 = some x → W6.heap.size ≤ x.block from fun t ht x hx => by
      rcases List.mem_append.1 ht with ht | ht
      · exact i6 t ht x hx
      · rw [List.mem_singleton.1 ht] at hx
        have hx' : D = some x := hx
        rw [hDx] at hx'
        cases hx'
        exact Nat.le_trans HL5.out hg5)
    have HGp := Lib.hid hG
    have HRow := Lib.hid hrow
    have HNo := Lib.hid hnov
    have hWs : W5.heap.size ≤ W.heap.size := by omega
    have hl6 := HL5.out
    have hs6 := HS6.out
    have HSz := Lib.hid (show W6.heap.size ≤ W.heap.size ∧ w.heap.size + 2 ≤ W6.heap.size from ⟨by omega, by omega⟩)
    have hpl : pre.length ≤ 100000000 := by have := HTl.out; omega
    obtain ⟨k, hk⟩ : ∃ k, k = pre.length := ⟨_, rfl⟩
    rw [← hk] at hpl HI3
    have HKk := Lib.hid hk
    clear i1 i2 i3 i4 i5 i6 hG hrow hnov hWs hl6 hs6 hown hgx hDx hgW hg5 hP hPl hN1 hlt hk
    simp only [rv]
    gi_wp2_with (gi_at_builtin; refine wpListIn_cat_at elemIntsQ _ _ rfl rfl (HI3.out.alloc _) (by have := HSz.out; simp; omega) (Sl.newAt W _ _ 1 rfl) rfl rfl (by simp [Value.oneCell']) (by unfold lim; omega) (by unfold lim; omega) ?_; intro v6 w6 hown6 hgr6; obtain ⟨g6, c6, rfl, _⟩ := own_form hown6 (by omega); have HO6 := Lib.hid hown6; have HG6 := Lib.hid hgr6; have fb := ((HI2.out.alloc (.cells #[.slice D P.length d] 22)).others (HI3.out.alloc (.cells #[.slice D P.length d] 22)) hgr6.g (by decide)).frozen 0; have cb := ((HI2.out.alloc (.cells #[.slice D P.length d] 22)).others (HI3.out.alloc (.cells #[.slice D P.length d] 22)) hgr6.g (by decide)).cell 0; simp at cb; clear hown6 hgr6)
    obtain ⟨v6, hv6⟩ : ∃ v6, v6 = Value.slice (some ⟨g6, 0, none⟩) (k + 1) c6 := ⟨_, rfl⟩
    rw [← hv6] at HO6 HG6 ⊢
    clear hv6
    have hI3a := HI3.out.alloc (.cells #[.slice D P.length d] 22)
    have hI2a := (HI2.out.alloc (.cells #[.slice D P.length d] 22)).others hI3a HG6.out.g (by decide)
    have hgr := HG6.out.after_alloc
    have hsz := HSz.out
    have hbx : Below w.heap.size W w6 := hgr.below (by omega) (fun k hk => by have := (HI3.out.lt k hk).1; omega)
    have hne6 : ∀ g, v6.ownBlock = some g → g ≠ w.heap.size + 1 := fun g hg e => own_notBlk HO6.out hI2a (by decide) (by rw [hg, e])
    have hset := Below.setCell hbx (p := ⟨w.heap.size + 1, 0, none⟩) (by simp) v6
    refine ⟨((KeepsOthers.alloc W _).trans (ko_cat hI3a HG6.out)).trans (KeepsOthers.setCell _ _ _), ?_, ?_⟩
    · exact (((KT.of_below (bel_al (Below.refl _ _) _) (by omega)).trans (KT.cat hI3a HG6.out (by simp; omega) (by omega))).trans (KT.set _ (by omega) (by omega)))
    · refine ⟨HI1.out.trans hset, ⟨v6, hI2a.set_ 0 v6, ?_, ?_, HI6.out⟩, getI_snoc HI5.out HGp.out⟩
      · have h := own_block HO6.out (w' := w6.setCell ⟨w.heap.size + 1, 0, none⟩ v6) fun g hg => Below.heap_setCell _ _ _ _ (hne6 g hg)
        rw [List.length_append, List.map_append, ← HKk.out]
        exact h
      · have h := RowsOK.grow (RowsOK.snoc HI4.out ⟨HRow.out, HNo.out⟩) hgr
        intro t ht
        obtain ⟨h1, h2⟩ := h t ht
        refine ⟨⟨?_, h1.2⟩, fun x hx => ⟨by rw [World.size_setCell]; exact (h2 x hx).1, (h2 x hx).2⟩⟩
        refine sl_far h1.1 (fun a ha e => ?_) _
        have h8 := HI6.out t ht a ha
        have e' : a.block = w.heap.size + 1 := e
        omega
  case done =>
    rintro D1 xs W hD hS ⟨i1, ⟨v, i2, i3, i4, i6⟩, i5⟩ hK1
    have cv := i2.cell 0
    simp at cv
    have HI1 := Lib.hid i1
    have HI3 := Lib.hid i3
    have HI4 := Lib.hid i4
    have HI5 := Lib.hid i5
    have HS := Lib.hid hS
    have HK1 := Lib.hid hK1
    have HD := Lib.hid (show w.heap.size ≤ D1 from Nat.le_trans HB5.out.size hD)
    clear i1 i2 i3 i4 i5 i6 hS hK1 hD
    obtain ⟨A, c, rfl, hsl⟩ := Sl.own HI3.out
    go_wp2_with fail
    refine mks1 rfl HK1.out (v := .slice A xs.length c) (by simp [results, Tryd.results36, go_sem]) ⟨A, c, xs, rfl, getI_all HI5.out HS.out, ?_, ?_, ?_⟩
    · exact sl_gb hsl (grownBy_putObj' W D1 (.deferred none)) (fun r e => by cases e; exact ⟨_, HK1.out, rfl⟩)
    · exact fun t ht => row_gb (HI4.out t ht).1 (grownBy_putObj' W D1 (.deferred none)) (fun r e => by cases e; exact ⟨_, HK1.out, rfl⟩)
    · exact bel_gb HI1.out (Nat.le_refl _) (grownBy_putObj' W D1 (.deferred none)) (fun r e => by cases e; exact HD.out)
end Go.Proofs.YtmonepclhbappaaDoor
/-
  Rows of ints that came in.
-/
namespace Go.Proofs.YtmonepclhbappaaDoor
open Go.ChangeShapes Go.WideShapes Go.ChangeAt Go.RowKit
set_option linter.unusedVariables false
section
variable {H : Type} {enc : TypeId × Value → H} {w : World} {base : Nat} {spare : Nat → Bool} {held : Bool}
theorem open_row {fuel : Nat} {v : Value} {y : DataW H × List MemPlace} (h : DataW.trod enc Tryd.prog w base spare held fuel 22 [v] = some y) : ∃ t : Option Addr × Nat × List Int, v = rv t ∧ RowOK w t := by
  rcases Deep.open_slice Tryd.underlying22 h with ⟨h0, _⟩ | ⟨a, len, cap, m, f', D, Pl, hv, _, hl, hm, hmm, _, hx⟩
  · injection h0 with h0 _
    exact ⟨(none, 0, []), h0, Sl.nil _ _ _, Nat.le_refl _, Nat.zero_le _⟩
  · injection hv with hv _
    subst hv
    obtain ⟨_, zs, h1, h2, _⟩ := open_sl_ints Tryd.underlying22 Tryd.underlying3 (by kernel_rfl) h
    subst h1
    exact ⟨(some a, cap, zs), rfl, h2, hl, Nat.le_trans hm (by decide)⟩
theorem rows_of {w : World} : ∀ css : List (List Value), (∀ cs ∈ css, ∃ t, cs = [rv t] ∧ RowOK w t) → ∃ its : List (Option Addr × Nat × List Int), css.flatten = its.map rv ∧ its.length = css.length ∧ AllRows w its
  | [], _ => ⟨[], rfl, rfl, fun t ht => by cases ht⟩
  | cs :: css, h => by
    obtain ⟨t, rfl, ht⟩ := h cs (List.mem_cons_self ..)
    obtain ⟨its, h1, h2, h3⟩ := rows_of css fun c hc => h c (List.mem_cons_of_mem _ hc)
    refine ⟨t :: its, by rw [List.flatten_cons, h1]; rfl, by simp [h2], fun u hu => ?_⟩
    rcases List.mem_cons.1 hu with rfl | hu
    · exact ht
    · exact h3 u hu
theorem open_sl_rows {fuel n c : Nat} {A : Option Addr} {x : DataW H × List MemPlace} (h : DataW.trod enc Tryd.prog w base spare held fuel 40 [.slice A n c] = some x) :
    n ≤ maxLen ∧ ∃ its : List (Option Addr × Nat × List Int), its.length = n ∧ Sl w 1 A n (its.map rv) ∧ AllRows w its := by
  obtain ⟨hm, css, h1, h2, h3⟩ := open_sl (s := 1) (by kernel_rfl) (by omega) Tryd.underlying40 h
  obtain ⟨its, h4, h5, h6⟩ := rows_of (w := w) css fun cs hc => by
    obtain ⟨hl, fu, y, hy⟩ := h3 cs hc
    obtain ⟨v, rfl⟩ : ∃ v, cs = [v] := List.length_eq_one_iff.1 hl
    obtain ⟨t, rfl, ht⟩ := open_row hy
    exact ⟨t, rfl, ht⟩
  rw [h4] at h2
  exact ⟨hm, its, by omega, h2, h6⟩
end
end Go.Proofs.YtmonepclhbappaaDoor
/-
  The document's SameInts changes nothing but what is drawn.
-/
namespace Go.Proofs.YtmonepclhbappaaDoor
open Go.RowKit
set_option maxRecDepth 100000
set_option linter.unusedVariables false

set_option maxHeartbeats 1000000 in
theorem SameInts_q (p q : List Int) (A B : Option Addr) (n m c d : Nat) (w : World) (hl : p.length = n) (hm : q.length = m) (hs : Sl w 1 A n (p.map (Value.int .i64))) (ht : Sl w 1 B m (q.map (Value.int .i64))) (hn : n ≤ 9223372036854775807) :
    Calls Tryd.prog 24 #[.slice A n c, .slice B m d] w fun e w' => e = .returned (.bool (decide (p = q))) ∧ ∃ k, w' = w.drewN k := by
  go_enter Tryd.func24, Tryd.ntmps24
  by_cases hnm : n = m
  · subst hnm
    go_wp2
    go_loopw [5] (fun i wr => ∃ k z : Nat, k ≤ n ∧ i = .int .i64 k ∧ p.take k = q.take k ∧ wr = w.drewN z) (fun i _ => n - (intOf i).toNat)
    case atStart => exact ⟨0, 0, Nat.zero_le _, rfl, rfl, rfl⟩
    case round =>
      obtain ⟨k, z, hk, rfl, heq, rfl⟩ := hrel
      by_cases hlt : k < n
      · have hj : k < p.length := by omega
        have hj' : k < q.length := by omega
        obtain ⟨b, off, u, rfl, e1, c1⟩ := hs.one hlt
        obtain ⟨b', off', u', rfl, e2, c2⟩ := ht.one hlt
        rw [List.getElem?_map, List.getElem?_eq_getElem hj] at e1
        rw [List.getElem?_map, List.getElem?_eq_getElem hj'] at e2
        obtain rfl := Option.some.inj e1
        obtain rfl := Option.some.inj e2
        have HT := Lib.hid (List.take_succ_eq_append_getElem hj)
        have HT' := Lib.hid (List.take_succ_eq_append_getElem hj')
        have HE := Lib.hid heq
        have HP := Lib.hid (fun h : p = q => (by subst h; rfl : p[k] = q[k]))
        generalize p[k] = x at *
        generalize q[k] = y at *
        clear e1 e2 heq hs ht
        by_cases hxy : x = y
        · subst hxy
          go_wp2_with fail
          go_quiet (fail)
          go_wp2_with fail
          go_roundw
          case rel => exact ⟨k + 1, _, by omega, by go_num, by rw [HT.out, HT'.out, HE.out], rfl⟩
          case measure => simp [intOf]; omega
        · have hb1 : (x == y) = false := by simpa using hxy
          go_wp2_with fail
          go_quiet (fail)
          go_wp2_with fail
          go_ret
          exact ⟨ret_bool (decide_eq_false (fun h => hxy (HP.out h))).symm, _, World.drewN_drewN _ _ _⟩
      · obtain rfl : k = n := by omega
        rw [List.take_of_length_le (by omega), List.take_of_length_le (by omega)] at heq
        have HE := Lib.hid heq
        clear heq hs ht
        go_wp2
        go_ret
        exact ⟨ret_bool (decide_eq_true HE.out).symm, _, rfl⟩
  · have hne : p ≠ q := fun h => hnm (by rw [← hl, ← hm, h])
    have HN := Lib.hid hne
    have hb1 : ((n : Int) == (m : Int)) = false := by simp; omega
    clear hne hs ht
    go_wp2
    go_ret
    exact ⟨ret_bool (decide_eq_false HN.out).symm, 0, rfl⟩
end Go.Proofs.YtmonepclhbappaaDoor
/-
  How a law ends behind ranges over functions; how many paths there are.
-/
namespace Go.Proofs.YtmonepclhbappaaDoor
open Go.RowKit
set_option linter.unusedVariables false

/-- A law's end behind ranges over functions, its result in block B. -/
theorem law_endAt {k : Nat} {P : Program} {fn : Func} {a : Act} {w W : World} (Ds : List Nat) (B : Nat) {t : TypeId} {v0 : Value} (hB : w.heap.size ≤ B) (hres : ∀ V : World, V.cell? ⟨B, 0, none⟩ = some (.bool true) → (results fn a.tmps).run P V = .ok (.bool true) V) (hd : a.defers = Ds.map fun D => { target := .collected D, args := #[] }) (hK : ∀ D ∈ Ds, W.heap[D]? = some (.deferred (some []))) (hn : Ds.Nodup)
    (hr : Blk W B t #[v0]) (hb : Below w.heap.size w W) (hD : ∀ D ∈ Ds, w.heap.size ≤ D) :
    bodyPostM Fence.wide k P fn (fun e w' => e = .returned (.bool true) ∧ Below w.heap.size w w') .ret a (W.setCell ⟨B, 0, none⟩ (.bool true)) := by
  show LeavesInM _ _ _ _ _ _ a.defers .returning _
  rw [hd]
  have hK2 : ∀ D ∈ Ds, (W.setCell ⟨B, 0, none⟩ (.bool true)).heap[D]? = some (.deferred (some [])) := fun D h => (KeepsOthers.setCell _ _ _).same D _ (hK D h) rfl
  have hE := (shutM_blk Ds _ hK2 hn (hr.set_ 0 (.bool true))).cell 0
  simp at hE
  exact leavesM Ds _ hK2 hn (v := .bool true) (hres _ hE) ⟨rfl, shutM_below Ds _ hK2 hn hD (hb.setCell (p := ⟨B, 0, none⟩) hB _)⟩

theorem ownK {w w' : World} {B size n : Nat} {e : TypeId} {v : Value} {xs : List Value} (h : w.ownsRow B e size v n xs) (hb : Below w.heap.size w w') : w'.ownsRow B e size v n xs := own_block h fun g hg => hb.block g (h.lt g hg).2
/-- How many paths there are at most. -/
theorem allP_pow {od : List Rw} {K : Nat} (hB : OdB K od) (h1 : 1 ≤ od.length) : (allP od).length ≤ K ^ od.length := by
  have h0 : totP od = ((allP od).length : Int) := rfl
  have h2 := sumZ_le (l := ((od.getD 0 []).map (·.1)).map (cnt od 0)) (K := ((K ^ (od.length - 1) : Nat) : Int)) fun x hx => by
    obtain ⟨b, _, rfl⟩ := List.mem_map.1 hx
    exact cnt_le hB _ 0 b (by omega)
  rw [List.length_map, List.length_map, ← totP_sum, h0] at h2
  have h3 := (hB _ (getD_memO (show 0 < od.length by omega))).1
  have h4 : (od.getD 0 []).length * K ^ (od.length - 1) ≤ K ^ od.length := by
    have e : K ^ od.length = K * K ^ (od.length - 1) := by
      conv => lhs; rw [show od.length = (od.length - 1) + 1 by omega, Nat.pow_succ, Nat.mul_comm]
    rw [e]
    exact Nat.mul_le_mul_right _ h3
  rw [← Int.natCast_mul] at h2
  omega
end Go.Proofs.YtmonepclhbappaaDoor
