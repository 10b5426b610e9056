/-
  Part 14 of the proof of OdagAdds: RankW, LawEnd, OutL, SameQ, MrgP, MrgW.
-/
import Derived.BigQuiet
import Derived.Deep.DeepCutAuto
import Derived.Test.YtmonepclhbappaaDoorOdagAddsM12
import Derived.Test.YtmonepclhbappaaDoorOdagAddsM8
import Derived.Test.YtmonepclhbappaaDoorOdagAddsM13
import Derived.Test.YtmonepclhbappaaDoorOdagAddsM10
import Derived.Test.YtmonepclhbappaaDoorOdagAddsM3
import Derived.Test.YtmonepclhbappaaDoorOdagAddsM2
import Derived.Test.YtmonepclhbappaaDoorOdagAddsM6
/-
  The laws' Paths of a part: they are put one behind the other.
-/
namespace Go.Proofs.YtmonepclhbappaaDoor
open Go.RowKit Go.Maps
attribute [local go_sem] Oper.semAt_some
set_option maxRecDepth 100000
set_option linter.unusedVariables false

/-- What holds while rows are put into a row of rows that lies in a box. -/
def OutI (n₀ B Bo : Nat) (w0 : World) (G : List (List Int)) (pre : List RowE) (W : World) : Prop :=
  Below n₀ w0 W ∧ (∃ v, Blk W Bo 40 #[v] ∧ W.ownsRow B 22 1 v pre.length (pre.map rv) ∧ RowsOK W v pre ∧ ∀ t ∈ pre, ∀ x : Addr, t.1 = some x → B ≤ x.block) ∧ ∀ (i : Nat) (x : RowE), pre[i]? = some x → G[i]? = some x.2.2
theorem OutI.own {n₀ B Bo n : Nat} {w0 : World} {G : List (List Int)} (h0 : n₀ ≤ w0.heap.size) (hn : n₀ ≤ n) : OwnFrom n (OutI n₀ B Bo w0 G) := ownFrom_of fun s A B' row ⟨h1, ⟨v, h2, h3, h4, h6⟩, h5⟩ hg hr hge =>
  ⟨bel_gb h1 h0 hg (fun r e => Nat.le_trans hn (hge r e)), ⟨v, blk_gb h2 hg hr, own_gb h3 hg hr, rows_gb h4 hg hr, h6⟩, h5⟩
theorem getI_snoc {G : List (List Int)} {pre : List RowE} {x : RowE} (h : ∀ (i : Nat) (x : RowE), pre[i]? = some x → G[i]? = some x.2.2) (hx : G[pre.length]? = some x.2.2) : ∀ (i : Nat) (y : RowE), (pre ++ [x])[i]? = some y → G[i]? = some y.2.2 := fun j y hy => by
  rcases Nat.lt_or_ge j pre.length with hj | hj
  · rw [List.getElem?_append_left hj] at hy
    exact h j y hy
  · rw [List.getElem?_append_right hj] at hy
    obtain rfl : j = pre.length := by
      have := (List.getElem?_eq_some_iff.1 hy).1
      simp at this
      omega
    rw [Nat.sub_self] at hy
    obtain rfl : x = y := by simpa using hy
    exact hx
theorem getI_all {G : List (List Int)} {pre : List RowE} (h : ∀ (i : Nat) (x : RowE), pre[i]? = some x → G[i]? = some x.2.2) (hl : pre.length = G.length) : pre.map (·.2.2) = G := by
  refine List.ext_getElem? fun i => ?_
  rw [List.getElem?_map]
  cases hp : pre[i]? with
  | none =>
    rw [List.getElem?_eq_none_iff] at hp
    rw [List.getElem?_eq_none (by omega)]
    rfl
  | some x => rw [h i x hp]; rfl

set_option maxHeartbeats 16000000 in
theorem PathsR_any (q p N : Nat) (od : List Rw) (f t : Int) (w : World) (hf : i64ok f) (ht : i64ok t) (hO : OdOK od N) (hk : RkM w q p od) (hT : (partP od f t).length ≤ 100000000) :
    Calls Tryd.prog 36 #[.pointer (some ⟨q, 0, none⟩), .agg #[.int .i64 f, .int .i64 t]] w fun e w' => ∃ (A : Option Addr) (c : Nat) (jts : List RowE), e = .returned (.slice A jts.length c) ∧ jts.map (·.2.2) = partP od f t ∧ Sl w' 1 A jts.length (jts.map rv) ∧ AllRows w' jts ∧ Below w.heap.size w w' := by
  have HO := Lib.hid hO
  have HK := Lib.hid hk
  have HF := Lib.hid hf
  have HT := Lib.hid ht
  have HTl := Lib.hid hT
  clear hO hk hf ht hT
  refine (callsIn_wide (n := 5)).1 ?_
  refine callsIn_of_wp_marks Tryd.func36 rfl trivial ?_ rfl
  simp only [Tryd.ntmps36, List.size_toArray, List.length_cons, List.length_nil, Nat.reduceAdd, Nat.reduceSub, Array.replicate_succ, Array.replicate_zero, List.push_toArray, List.append_toArray, List.nil_append, List.cons_append]
  refine wpIn_wide.2 ?_
  go_upto_region 2 with (fail)
  obtain ⟨W6, hW6⟩ : ∃ W6, (w.alloc (.cells #[.int .i64 f, .int .i64 t] 63)).alloc (.cells #[.slice none 0 0] 40) = W6 := ⟨_, rfl⟩
  have hb6 : Below w.heap.size w W6 := by rw [← hW6]; exact bel_al (bel_al (Below.refl _ _) _) _
  have hp6 : Blk W6 w.heap.size 63 #[.int .i64 f, .int .i64 t] := by rw [← hW6]; exact (Blk.new w _ _).alloc _
  have ho6 : Blk W6 (w.heap.size + 1) 40 #[.slice none 0 0] := by
    have := Blk.new (w.alloc (.cells #[.int .i64 f, .int .i64 t] 63)) 40 #[.slice none 0 0]
    rw [World.size_alloc, hW6] at this
    exact this
  have hs6 : W6.heap.size = w.heap.size + 2 := by rw [← hW6]; simp
  rw [hW6]
  clear hW6
  have HS6 := Lib.hid hs6
  clear hs6
  have c0 := hp6.cell 0
  have c1 := hp6.cell 1
  simp at c0 c1
  go_wp2_with (go_at_call 32; refine (Each_any (some ⟨q, 0, none⟩) _ _ _).mono ?_; rintro e w5 ⟨rfl, rfl⟩)
  clear c0 c1
  obtain ⟨W5, hW5⟩ : ∃ W5, (W6.alloc (.cells #[.pointer (some ⟨q, 0, none⟩)] 57)).alloc (.cells #[.int .i64 f, .int .i64 t] 63) = W5 := ⟨_, rfl⟩
  have hb5 : Below W6.heap.size W6 W5 := by rw [← hW5]; exact bel_al (bel_al (Below.refl _ _) _) _
  have hr5 : Blk W5 W6.heap.size 57 #[.pointer (some ⟨q, 0, none⟩)] := by rw [← hW5]; exact (Blk.new W6 _ _).alloc _
  have hp5 : Blk W5 (W6.heap.size + 1) 63 #[.int .i64 f, .int .i64 t] := by
    have := Blk.new (W6.alloc (.cells #[.pointer (some ⟨q, 0, none⟩)] 57)) 63 #[.int .i64 f, .int .i64 t]
    rw [World.size_alloc, hW5] at this
    exact this
  rw [hW5]
  clear hW5
  have HB5 := Lib.hid (hb6.andThen hb5)
  have HL5 := Lib.hid hb5.size
  refine (wpIn_wide (n := 5)).1 ?_
  refine rangeFunc_one (fun x b => { b with tmps := b.tmps.setIfInBounds 6 (rv x) }) rfl (by omega) (gf := 71) (lb := #[.pointer (some ⟨W6.heap.size + 1, 0, none⟩), .pointer (some ⟨W6.heap.size, 0, none⟩)]) rfl trivial (enters_of Tryd.func71 (by kernel_rfl) rfl)
    (each_gives (5 - 1) w.heap.size W6.heap.size (W6.heap.size + 1) W6.heap.size q p N od f t w W5 HF.out HT.out HO.out HK.out rfl HB5.out hp5 hr5 (Nat.le_refl _)) knE_put KT.trans (fun _ W l o o' hl ho hc _ => KT.putObj o' (Nat.le_trans HB5.out.size hl) ho hc) (Below.refl _ _)
    (OutI w.heap.size W6.heap.size (w.heap.size + 1) w (partP od f t)) (fun _ _ _ => False) (OutI.own (Nat.le_refl _) HB5.out.size) (fun c s A B row hs _ _ => hs.elim)
    ⟨HB5.out, ⟨_, ho6.keep hb5, World.ownsRow_nil _ _ _ _, (fun t h => by cases h), fun t h => by cases h⟩, fun i x hx => by cases hx⟩ ?assign ?body ?done ?stop
  case assign =>
    intro l x W K hK
    gi_wp2
    exact hK
  case stop =>
    rintro D c pre W _ _ h _
    exact h.elim
  case body =>
    rintro l pre ⟨D, d, P⟩ W ⟨i1, ⟨v, i2, i3, i4, i6⟩, i5⟩ ⟨hown, hG⟩ hlt
    have cv := i2.cell 0
    simp at cv
    have hP : P ∈ allP od := by
      have := List.mem_of_getElem? hG
      unfold partP at this
      exact List.mem_of_mem_take (List.mem_of_mem_drop this)
    have hPl : P.length = N := HO.out.P P hP
    have hN1 := HO.out.h1
    obtain ⟨gx, gc, hgx, hg5⟩ := own_form hown (by simp only; omega)
    have hDx : D = some ⟨gx, 0, none⟩ := by cases hgx; rfl
    have hgW : gx < W.heap.size := (hown.lt gx (by rw [hgx]; rfl)).2
    have hrow : RowOK W (D, d, P) := ⟨Sl.of_own hown, own_cap hown⟩
    have hnov : ∀ x : Addr, D = some x → x.block < W.heap.size ∧ some x.block ≠ v.ownBlock := fun x hx => by
      rw [hDx] at hx
      cases hx
      refine ⟨hgW, fun e => ?_⟩
      have e2 : v.ownBlock ≠ some gx := by
        rcases hown.2 with ⟨h7, _⟩ | ⟨g', cap, cur, h7, _, h8, _⟩
        · rw [hgx] at h7; cases h7
        · rw [hgx] at h7
          cases h7
          intro h9
          rcases i3.2 with ⟨rfl, _⟩ | ⟨g2, cap2, cur2, rfl, _, h10, _⟩
          · simp [Value.ownBlock] at h9
          · obtain rfl : g2 = gx := by simpa [Value.ownBlock] using h9
            rw [h8] at h10
            injection h10 with h10
            injection h10 with _ h11
            exact absurd h11 (by decide)
      exact e2 e.symm
    have HI1 := Lib.hid i1
    have HI2 := Lib.hid i2
    have HI3 := Lib.hid i3
    have HI4 := Lib.hid i4
    have HI5 := Lib.hid i5
    have HI6 := Lib.hid (show ∀ t ∈ pre ++ [(D, d, P)], ∀ x : Addr, t.1 = some x → W6.heap.size ≤ x.block from fun t ht x hx => by
      rcases List.mem_append.1 ht with ht | ht
      · exact i6 t ht x hx
      · rw [List.mem_singleton.1 ht] at hx
        have hx' : D = some x := hx
        rw [hDx] at hx'
        cases hx'
        exact Nat.le_trans HL5.out hg5)
    have HGp := Lib.hid hG
    have HRow := Lib.hid hrow
    have HNo := Lib.hid hnov
    have hWs : W5.heap.size ≤ W.heap.size := by omega
    have hl6 := HL5.out
    have hs6 := HS6.out
    have HSz := Lib.hid (show W6.heap.size ≤ W.heap.size ∧ w.heap.size + 2 ≤ W6.heap.size from ⟨by omega, by omega⟩)
    have hpl : pre.length ≤ 100000000 := by have := HTl.out; omega
    obtain ⟨k, hk⟩ : ∃ k, k = pre.length := ⟨_, rfl⟩
    rw [← hk] at hpl HI3
    have HKk := Lib.hid hk
    clear i1 i2 i3 i4 i5 i6 hG hrow hnov hWs hl6 hs6 hown hgx hDx hgW hg5 hP hPl hN1 hlt hk
    simp only [rv]
    gi_wp2_with (gi_at_builtin; refine wpListIn_cat_at elemIntsQ _ _ rfl rfl (HI3.out.alloc _) (by have := HSz.out; simp; omega) (Sl.newAt W _ _ 1 rfl) rfl rfl (by simp [Value.oneCell']) (by unfold lim; omega) (by unfold lim; omega) ?_; intro v6 w6 hown6 hgr6; obtain ⟨g6, c6, rfl, _⟩ := own_form hown6 (by omega); have HO6 := Lib.hid hown6; have HG6 := Lib.hid hgr6; have fb := ((HI2.out.alloc (.cells #[.slice D P.length d] 22)).others (HI3.out.alloc (.cells #[.slice D P.length d] 22)) hgr6.g (by decide)).frozen 0; have cb := ((HI2.out.alloc (.cells #[.slice D P.length d] 22)).others (HI3.out.alloc (.cells #[.slice D P.length d] 22)) hgr6.g (by decide)).cell 0; simp at cb; clear hown6 hgr6)
    obtain ⟨v6, hv6⟩ : ∃ v6, v6 = Value.slice (some ⟨g6, 0, none⟩) (k + 1) c6 := ⟨_, rfl⟩
    rw [← hv6] at HO6 HG6 ⊢
    clear hv6
    have hI3a := HI3.out.alloc (.cells #[.slice D P.length d] 22)
    have hI2a := (HI2.out.alloc (.cells #[.slice D P.length d] 22)).others hI3a HG6.out.g (by decide)
    have hgr := HG6.out.after_alloc
    have hsz := HSz.out
    have hbx : Below w.heap.size W w6 := hgr.below (by omega) (fun k hk => by have := (HI3.out.lt k hk).1; omega)
    have hne6 : ∀ g, v6.ownBlock = some g → g ≠ w.heap.size + 1 := fun g hg e => own_notBlk HO6.out hI2a (by decide) (by rw [hg, e])
    have hset := Below.setCell hbx (p := ⟨w.heap.size + 1, 0, none⟩) (by simp) v6
    refine ⟨((KeepsOthers.alloc W _).trans (ko_cat hI3a HG6.out)).trans (KeepsOthers.setCell _ _ _), ?_, ?_⟩
    · exact (((KT.of_below (bel_al (Below.refl _ _) _) (by omega)).trans (KT.cat hI3a HG6.out (by simp; omega) (by omega))).trans (KT.set _ (by omega) (by omega)))
    · refine ⟨HI1.out.trans hset, ⟨v6, hI2a.set_ 0 v6, ?_, ?_, HI6.out⟩, getI_snoc HI5.out HGp.out⟩
      · have h := own_block HO6.out (w' := w6.setCell ⟨w.heap.size + 1, 0, none⟩ v6) fun g hg => Below.heap_setCell _ _ _ _ (hne6 g hg)
        rw [List.length_append, List.map_append, ← HKk.out]
        exact h
      · have h := RowsOK.grow (RowsOK.snoc HI4.out ⟨HRow.out, HNo.out⟩) hgr
        intro t ht
        obtain ⟨h1, h2⟩ := h t ht
        refine ⟨⟨?_, h1.2⟩, fun x hx => ⟨by rw [World.size_setCell]; exact (h2 x hx).1, (h2 x hx).2⟩⟩
        refine sl_far h1.1 (fun a ha e => ?_) _
        have h8 := HI6.out t ht a ha
        have e' : a.block = w.heap.size + 1 := e
        omega
  case done =>
    rintro D1 xs W hD hS ⟨i1, ⟨v, i2, i3, i4, i6⟩, i5⟩ hK1
    have cv := i2.cell 0
    simp at cv
    have HI1 := Lib.hid i1
    have HI3 := Lib.hid i3
    have HI4 := Lib.hid i4
    have HI5 := Lib.hid i5
    have HS := Lib.hid hS
    have HK1 := Lib.hid hK1
    have HD := Lib.hid (show w.heap.size ≤ D1 from Nat.le_trans HB5.out.size hD)
    clear i1 i2 i3 i4 i5 i6 hS hK1 hD
    obtain ⟨A, c, rfl, hsl⟩ := Sl.own HI3.out
    go_wp2_with fail
    refine mks1 rfl HK1.out (v := .slice A xs.length c) (by simp [results, Tryd.results36, go_sem]) ⟨A, c, xs, rfl, getI_all HI5.out HS.out, ?_, ?_, ?_⟩
    · exact sl_gb hsl (grownBy_putObj' W D1 (.deferred none)) (fun r e => by cases e; exact ⟨_, HK1.out, rfl⟩)
    · exact fun t ht => row_gb (HI4.out t ht).1 (grownBy_putObj' W D1 (.deferred none)) (fun r e => by cases e; exact ⟨_, HK1.out, rfl⟩)
    · exact bel_gb HI1.out (Nat.le_refl _) (grownBy_putObj' W D1 (.deferred none)) (fun r e => by cases e; exact HD.out)
end Go.Proofs.YtmonepclhbappaaDoor
/-
  How a law ends behind ranges over functions; how many paths there are.
-/
namespace Go.Proofs.YtmonepclhbappaaDoor
open Go.RowKit
set_option linter.unusedVariables false

/-- A law's end behind ranges over functions, its result in block B. -/
theorem law_endAt {k : Nat} {P : Program} {fn : Func} {a : Act} {w W : World} (Ds : List Nat) (B : Nat) {t : TypeId} {v0 : Value} (hB : w.heap.size ≤ B) (hres : ∀ V : World, V.cell? ⟨B, 0, none⟩ = some (.bool true) → (results fn a.tmps).run P V = .ok (.bool true) V) (hd : a.defers = Ds.map fun D => { target := .collected D, args := #[] }) (hK : ∀ D ∈ Ds, W.heap[D]? = some (.deferred (some []))) (hn : Ds.Nodup)
    (hr : Blk W B t #[v0]) (hb : Below w.heap.size w W) (hD : ∀ D ∈ Ds, w.heap.size ≤ D) :
    bodyPostM Fence.wide k P fn (fun e w' => e = .returned (.bool true) ∧ Below w.heap.size w w') .ret a (W.setCell ⟨B, 0, none⟩ (.bool true)) := by
  show LeavesInM _ _ _ _ _ _ a.defers .returning _
  rw [hd]
  have hK2 : ∀ D ∈ Ds, (W.setCell ⟨B, 0, none⟩ (.bool true)).heap[D]? = some (.deferred (some [])) := fun D h => (KeepsOthers.setCell _ _ _).same D _ (hK D h) rfl
  have hE := (shutM_blk Ds _ hK2 hn (hr.set_ 0 (.bool true))).cell 0
  simp at hE
  exact leavesM Ds _ hK2 hn (v := .bool true) (hres _ hE) ⟨rfl, shutM_below Ds _ hK2 hn hD (hb.setCell (p := ⟨B, 0, none⟩) hB _)⟩

theorem ownK {w w' : World} {B size n : Nat} {e : TypeId} {v : Value} {xs : List Value} (h : w.ownsRow B e size v n xs) (hb : Below w.heap.size w w') : w'.ownsRow B e size v n xs := own_block h fun g hg => hb.block g (h.lt g hg).2
/-- How many paths there are at most. -/
theorem allP_pow {od : List Rw} {K : Nat} (hB : OdB K od) (h1 : 1 ≤ od.length) : (allP od).length ≤ K ^ od.length := by
  have h0 : totP od = ((allP od).length : Int) := rfl
  have h2 := sumZ_le (l := ((od.getD 0 []).map (·.1)).map (cnt od 0)) (K := ((K ^ (od.length - 1) : Nat) : Int)) fun x hx => by
    obtain ⟨b, _, rfl⟩ := List.mem_map.1 hx
    exact cnt_le hB _ 0 b (by omega)
  rw [List.length_map, List.length_map, ← totP_sum, h0] at h2
  have h3 := (hB _ (getD_memO (show 0 < od.length by omega))).1
  have h4 : (od.getD 0 []).length * K ^ (od.length - 1) ≤ K ^ od.length := by
    have e : K ^ od.length = K * K ^ (od.length - 1) := by
      conv => lhs; rw [show od.length = (od.length - 1) + 1 by omega, Nat.pow_succ, Nat.mul_comm]
    rw [e]
    exact Nat.mul_le_mul_right _ h3
  rw [← Int.natCast_mul] at h2
  omega
end Go.Proofs.YtmonepclhbappaaDoor
/-
  Rows put one behind the other into a row of rows that lies in a box.
-/
namespace Go.Proofs.YtmonepclhbappaaDoor
open Go.RowKit
set_option linter.unusedVariables false

/-- A row of rows in a box, of its own. -/
def OutR (n₀ B Bo : Nat) (w0 : World) (ys : List RowE) (W : World) : Prop :=
  Below n₀ w0 W ∧ ∃ v, Blk W Bo 40 #[v] ∧ W.ownsRow B 22 1 v ys.length (ys.map rv) ∧ RowsOK W v ys ∧ ∀ t ∈ ys, ∀ x : Addr, t.1 = some x → B ≤ x.block
theorem OutR.new {n₀ B Bo : Nat} {w0 W : World} (h : Below n₀ w0 W) (hb : Blk W Bo 40 #[.slice none 0 0]) : OutR n₀ B Bo w0 [] W := ⟨h, _, hb, World.ownsRow_nil _ _ _ _, (fun t h => by cases h), (fun t h => by cases h)⟩
theorem OutR.keep {n₀ B Bo : Nat} {w0 W W' : World} {ys : List RowE} (h : OutR n₀ B Bo w0 ys W) (hn : n₀ ≤ W.heap.size) (hb : Below W.heap.size W W') : OutR n₀ B Bo w0 ys W' := by
  obtain ⟨h1, v, h2, h3, h4, h5⟩ := h
  exact ⟨h1.trans (hb.mono hn), v, h2.keep hb, ownK h3 hb, h4.keep hb, h5⟩
theorem OutR.push {n₀ B Bo n : Nat} {w0 X w6 : World} {v v6 : Value} {ys : List RowE} {y : RowE} {o : Obj} (h1 : Below n₀ w0 X) (h2 : Blk X Bo 40 #[v]) (h3 : X.ownsRow B 22 1 v n (ys.map rv)) (h4 : RowsOK X v ys) (h5 : ∀ t ∈ ys, ∀ x : Addr, t.1 = some x → B ≤ x.block)
    (hrow : RowOK X y) (hy : ∀ x : Addr, y.1 = some x → (x.block < X.heap.size ∧ some x.block ≠ v.ownBlock) ∧ B ≤ x.block) (hB : Bo < B) (h0 : n₀ ≤ Bo) (hX : B ≤ X.heap.size)
    (hn : n = ys.length) (hown : w6.ownsRow B 22 1 v6 (n + 1) (ys.map rv ++ [rv y])) (hgr : Gr (X.alloc o) w6 v v6) : OutR n₀ B Bo w0 (ys ++ [y]) (w6.setCell ⟨Bo, 0, none⟩ v6) := by
  have hI3a := h3.alloc o
  have hI2a := (h2.alloc o).others hI3a hgr.g (by decide)
  have hgr2 := hgr.after_alloc
  have hbx : Below n₀ X w6 := hgr2.below (by omega) (fun k hk => by have := (h3.lt k hk).1; omega)
  have hne6 : ∀ g, v6.ownBlock = some g → g ≠ Bo := fun g hg e => own_notBlk hown hI2a (by decide) (by rw [hg, e])
  have hset := Below.setCell hbx (p := ⟨Bo, 0, none⟩) h0 v6
  have hfar : ∀ t ∈ ys ++ [y], ∀ x : Addr, t.1 = some x → B ≤ x.block := fun t ht x hx => by
    rcases List.mem_append.1 ht with ht | ht
    · exact h5 t ht x hx
    · rw [List.mem_singleton.1 ht] at hx
      exact (hy x hx).2
  refine ⟨h1.trans hset, v6, hI2a.set_ 0 v6, ?_, ?_, hfar⟩
  · have h := own_block hown (w' := w6.setCell ⟨Bo, 0, none⟩ v6) fun g hg => Below.heap_setCell _ _ _ _ (hne6 g hg)
    rw [List.length_append, List.map_append, ← hn]
    exact h
  · have h := RowsOK.grow (RowsOK.snoc h4 ⟨hrow, fun x hx => (hy x hx).1⟩) hgr2
    intro t ht
    obtain ⟨g1, g2⟩ := h t ht
    refine ⟨⟨?_, g1.2⟩, fun x hx => ⟨by rw [World.size_setCell]; exact (g2 x hx).1, (g2 x hx).2⟩⟩
    refine sl_far g1.1 (fun a ha e => ?_) _
    have h8 := hfar t ht a ha
    have e' : a.block = Bo := e
    omega
theorem OutR.own {n₀ B Bo n : Nat} {w0 : World} (h0 : n₀ ≤ w0.heap.size) (hn : n₀ ≤ n) : OwnFrom n (OutR n₀ B Bo w0) := ownFrom_of fun s A B' row ⟨h1, v, h2, h3, h4, h6⟩ hg hr hge =>
  ⟨bel_gb h1 h0 hg (fun r e => Nat.le_trans hn (hge r e)), v, blk_gb h2 hg hr, own_gb h3 hg hr, rows_gb h4 hg hr, h6⟩
/-- A number in a box. -/
def NtJ (w7 : World) (k : Nat) (W : World) : Prop := Below w7.heap.size w7 W ∧ Blk W w7.heap.size 3 #[.int .i64 (k : Int)]
theorem NtJ.own {w7 : World} {n : Nat} {β : Type} (f : β → Nat) (hn : w7.heap.size ≤ n) : OwnFrom n (fun (pre : β) W => NtJ w7 (f pre) W) := ownFrom_of fun s A B row ⟨h1, h2⟩ hg hr hge =>
  ⟨bel_gb h1 (Nat.le_refl _) hg (fun r e => Nat.le_trans hn (hge r e)), blk_gb h2 hg hr⟩
end Go.Proofs.YtmonepclhbappaaDoor
/-
  The document's SameInts changes nothing but what is drawn.
-/
namespace Go.Proofs.YtmonepclhbappaaDoor
open Go.RowKit
set_option maxRecDepth 100000
set_option linter.unusedVariables false

set_option maxHeartbeats 1000000 in
theorem SameInts_q (p q : List Int) (A B : Option Addr) (n m c d : Nat) (w : World) (hl : p.length = n) (hm : q.length = m) (hs : Sl w 1 A n (p.map (Value.int .i64))) (ht : Sl w 1 B m (q.map (Value.int .i64))) (hn : n ≤ 9223372036854775807) :
    Calls Tryd.prog 24 #[.slice A n c, .slice B m d] w fun e w' => e = .returned (.bool (decide (p = q))) ∧ ∃ k, w' = w.drewN k := by
  go_enter Tryd.func24, Tryd.ntmps24
  by_cases hnm : n = m
  · subst hnm
    go_wp2
    go_loopw [5] (fun i wr => ∃ k z : Nat, k ≤ n ∧ i = .int .i64 k ∧ p.take k = q.take k ∧ wr = w.drewN z) (fun i _ => n - (intOf i).toNat)
    case atStart => exact ⟨0, 0, Nat.zero_le _, rfl, rfl, rfl⟩
    case round =>
      obtain ⟨k, z, hk, rfl, heq, rfl⟩ := hrel
      by_cases hlt : k < n
      · have hj : k < p.length := by omega
        have hj' : k < q.length := by omega
        obtain ⟨b, off, u, rfl, e1, c1⟩ := hs.one hlt
        obtain ⟨b', off', u', rfl, e2, c2⟩ := ht.one hlt
        rw [List.getElem?_map, List.getElem?_eq_getElem hj] at e1
        rw [List.getElem?_map, List.getElem?_eq_getElem hj'] at e2
        obtain rfl := Option.some.inj e1
        obtain rfl := Option.some.inj e2
        have HT := Lib.hid (List.take_succ_eq_append_getElem hj)
        have HT' := Lib.hid (List.take_succ_eq_append_getElem hj')
        have HE := Lib.hid heq
        have HP := Lib.hid (fun h : p = q => (by subst h; rfl : p[k] = q[k]))
        generalize p[k] = x at *
        generalize q[k] = y at *
        clear e1 e2 heq hs ht
        by_cases hxy : x = y
        · subst hxy
          go_wp2_with fail
          go_quiet (fail)
          go_wp2_with fail
          go_roundw
          case rel => exact ⟨k + 1, _, by omega, by go_num, by rw [HT.out, HT'.out, HE.out], rfl⟩
          case measure => simp [intOf]; omega
        · have hb1 : (x == y) = false := by simpa using hxy
          go_wp2_with fail
          go_quiet (fail)
          go_wp2_with fail
          go_ret
          exact ⟨ret_bool (decide_eq_false (fun h => hxy (HP.out h))).symm, _, World.drewN_drewN _ _ _⟩
      · obtain rfl : k = n := by omega
        rw [List.take_of_length_le (by omega), List.take_of_length_le (by omega)] at heq
        have HE := Lib.hid heq
        clear heq hs ht
        go_wp2
        go_ret
        exact ⟨ret_bool (decide_eq_true HE.out).symm, _, rfl⟩
  · have hne : p ≠ q := fun h => hnm (by rw [← hl, ← hm, h])
    have HN := Lib.hid hne
    have hb1 : ((n : Int) == (m : Int)) = false := by simp; omega
    clear hne hs ht
    go_wp2
    go_ret
    exact ⟨ret_bool (decide_eq_false HN.out).symm, 0, rfl⟩
end Go.Proofs.YtmonepclhbappaaDoor
/-
  Odags plainly: two merged.
-/
namespace Go.Proofs.YtmonepclhbappaaDoor
open Go.RowKit
set_option linter.unusedVariables false

/-- A row into which these numbers with their links have been put. -/
def foldR (d : Rw) : Rw := d.foldl (fun r q => stepR r q.1 q.2) []
theorem foldR_snoc (d : Rw) (q : Int × List Int) : foldR (d ++ [q]) = stepR (foldR d) q.1 q.2 := by unfold foldR; rw [List.foldl_append]; rfl
theorem foldR_ok (d : Rw) : IncR (foldR d) ∧ (∀ a, a ∈ (foldR d).map (·.1) ↔ a ∈ d.map (·.1)) ∧ (∀ a, Inc (lkR (foldR d) a)) ∧ ∀ a b, b ∈ lkR (foldR d) a ↔ ∃ q ∈ d, q.1 = a ∧ b ∈ q.2 := by
  obtain ⟨rs, rfl⟩ : ∃ rs, d = rs.reverse := ⟨d.reverse, by simp⟩
  induction rs with
  | nil =>
    refine ⟨List.Pairwise.nil, fun a => Iff.rfl, fun a => List.Pairwise.nil, fun a b => ⟨fun h => (by cases h), fun ⟨q, hq, _⟩ => (by cases hq)⟩⟩
  | cons q rs ih =>
    rw [List.reverse_cons, foldR_snoc]
    generalize rs.reverse = d at *
    obtain ⟨h1, h2, h3, h4⟩ := ih
    unfold stepR
    refine ⟨h1.put _ _, fun a => ?_, fun a => ?_, fun a b => ?_⟩
    · rw [keys_putR, h2, List.map_append, List.mem_append, List.map_singleton, List.mem_singleton]
      exact or_comm
    · rw [lkR_putR]
      split
      · exact setL_inc _
      · exact h3 a
    · rw [lkR_putR]
      split
      · rename_i e
        subst e
        rw [setL_mem, List.mem_append, h4]
        constructor
        · rintro (⟨p, hp, e, hb⟩ | hb)
          · exact ⟨p, List.mem_append_left _ hp, e, hb⟩
          · exact ⟨q, List.mem_append_right _ (List.mem_singleton_self _), rfl, hb⟩
        · rintro ⟨p, hp, e, hb⟩
          rcases List.mem_append.1 hp with hp | hp
          · exact .inl ⟨p, hp, e, hb⟩
          · rw [List.mem_singleton.1 hp] at hb
            exact .inr hb
      · rename_i e
        rw [h4]
        constructor
        · rintro ⟨p, hp, e', hb⟩
          exact ⟨p, List.mem_append_left _ hp, e', hb⟩
        · rintro ⟨p, hp, e', hb⟩
          rcases List.mem_append.1 hp with hp | hp
          · exact ⟨p, hp, e', hb⟩
          · rw [List.mem_singleton.1 hp] at e'
            exact absurd e'.symm e
theorem foldR_perm {d d' : Rw} (h : d.Perm d') : foldR d = foldR d' := by
  obtain ⟨h1, h2, h3, h4⟩ := foldR_ok d
  obtain ⟨k1, k2, k3, k4⟩ := foldR_ok d'
  refine rw_ext h1 k1 (fun a => by rw [h2, k2]; exact (h.map _).mem_iff) fun a => inc_ext (h3 a) (k3 a) fun b => ?_
  rw [h4, k4]
  exact ⟨fun ⟨q, hq, e⟩ => ⟨q, h.mem_iff.1 hq, e⟩, fun ⟨q, hq, e⟩ => ⟨q, h.mem_iff.2 hq, e⟩⟩
theorem stepR_B2 {K k : Nat} {r : Rw} (h : RwB K r) (a : Int) (nx : List Int) (hn : nx.length ≤ k) : RwB (K + (k + 1)) (stepR r a nx) := by
  refine ⟨Nat.le_trans (putR_len _ _ _) (by have := h.1; omega), fun q hq => ?_⟩
  unfold stepR putR at hq
  rcases List.mem_append.1 hq with hq | hq
  · have := h.2 q (List.mem_filter.1 hq).1
    omega
  · rcases List.mem_cons.1 hq with rfl | hq
    · have h1 := setL_le (lkR r a ++ nx)
      rw [List.length_append] at h1
      have h2 := lkR_B h a
      show (setL (lkR r a ++ nx)).length ≤ _
      omega
    · have := h.2 q (List.mem_filter.1 hq).1
      omega
theorem foldR_B {k : Nat} (d : Rw) : (∀ q ∈ d, q.2.length ≤ k) → RwB (d.length * (k + 1)) (foldR d) := by
  obtain ⟨rs, rfl⟩ : ∃ rs, d = rs.reverse := ⟨d.reverse, by simp⟩
  induction rs with
  | nil => exact fun _ => ⟨Nat.zero_le _, fun q hq => by cases hq⟩
  | cons q rs ih =>
    rw [List.reverse_cons, foldR_snoc]
    generalize rs.reverse = d at *
    intro h
    rw [List.length_append, List.length_singleton, Nat.succ_mul]
    exact stepR_B2 (ih fun p hp => h p (List.mem_append_left _ hp)) _ _ (h q (List.mem_append_right _ (List.mem_singleton_self _)))
/-- Two odags merged. -/
def mergeO (od od' : List Rw) : List Rw := (List.range od.length).map fun i => foldR (od.getD i [] ++ od'.getD i [])
theorem mergeO_len (od od' : List Rw) : (mergeO od od').length = od.length := by unfold mergeO; simp
theorem mergeO_at (od od' : List Rw) {i : Nat} (h : i < (mergeO od od').length) : (mergeO od od')[i] = foldR (od.getD i [] ++ od'.getD i []) := by simp [mergeO]
theorem lkR_iff {r : Rw} (h : IncR r) {a b : Int} : (∃ q ∈ r, q.1 = a ∧ b ∈ q.2) ↔ b ∈ lkR r a := by
  constructor
  · rintro ⟨q, hq, rfl, hb⟩
    rw [h.lk hq]
    exact hb
  · exact fun hb => lkR_mem hb
theorem merge_odOf {n : Nat} {ls ls' : List (List Int)} (h : ∀ x ∈ ls, x.length = n) (h' : ∀ x ∈ ls', x.length = n) : mergeO (odOf n ls) (odOf n ls') = odOf n (ls ++ ls') := by
  refine List.ext_getElem (by rw [mergeO_len, odOf_len, odOf_len]) fun i h1 h2 => ?_
  rw [odOf_len] at h2
  obtain ⟨g1, g2, g3⟩ := odOf_row n i h2 ls h
  obtain ⟨k1, k2, k3⟩ := odOf_row n i h2 ls' h'
  obtain ⟨m1, m2, m3⟩ := odOf_row n i h2 (ls ++ ls') fun x hx => (List.mem_append.1 hx).elim (h x) (h' x)
  have e : ∀ {l : List (List Int)} (hh : i < (odOf n l).length), (odOf n l).getD i [] = (odOf n l)[i] := fun hh => by rw [List.getD_eq_getElem?_getD, List.getElem?_eq_getElem hh]; rfl
  rw [← e]
  rw [mergeO_at]
  obtain ⟨f1, f2, f3, f4⟩ := foldR_ok ((odOf n ls).getD i [] ++ (odOf n ls').getD i [])
  refine rw_ext f1 m1 (fun a => ?_) fun a => inc_ext (f3 a) (by rw [m3]; exact setL_inc _) fun b => ?_
  · rw [f2, m2, List.map_append, List.mem_append, g2, k2]
    constructor
    · rintro (⟨x, hx, e⟩ | ⟨x, hx, e⟩)
      · exact ⟨x, List.mem_append_left _ hx, e⟩
      · exact ⟨x, List.mem_append_right _ hx, e⟩
    · rintro ⟨x, hx, e⟩
      rcases List.mem_append.1 hx with hx | hx
      · exact .inl ⟨x, hx, e⟩
      · exact .inr ⟨x, hx, e⟩
  · rw [f4, m3]
    have hsplit : (∃ q ∈ (odOf n ls).getD i [] ++ (odOf n ls').getD i [], q.1 = a ∧ b ∈ q.2) ↔ b ∈ lkR ((odOf n ls).getD i []) a ∨ b ∈ lkR ((odOf n ls').getD i []) a := by
      rw [← lkR_iff g1, ← lkR_iff k1]
      constructor
      · rintro ⟨q, hq, e⟩
        rcases List.mem_append.1 hq with hq | hq
        · exact .inl ⟨q, hq, e⟩
        · exact .inr ⟨q, hq, e⟩
      · rintro (⟨q, hq, e⟩ | ⟨q, hq, e⟩)
        · exact ⟨q, List.mem_append_left _ hq, e⟩
        · exact ⟨q, List.mem_append_right _ hq, e⟩
    rw [hsplit, g3, k3]
    unfold lnks
    rw [setL_mem, setL_mem, setL_mem, List.filter_append, List.flatMap_append, List.mem_append]
end Go.Proofs.YtmonepclhbappaaDoor
/-
  Rows of an odag whose links lie in rows of ints: they outlive a change of other cells. put again.
-/
namespace Go.Proofs.YtmonepclhbappaaDoor
open Go.RowKit Go.Maps
set_option maxRecDepth 100000
set_option linter.unusedVariables false
set_option linter.unusedSectionVars false

def IntAt (w : World) (A : Option Addr) : Prop := ∀ x : Addr, A = some x → ∃ cs fr, w.heap[x.block]? = some (.cells cs 3 fr)
def MRowT (w : World) (b : Nat) (r : Rw) : Prop := ∃ m : List ME, m.map pl = r ∧ MapR w b (m.map mv) ∧ ∀ e ∈ m, RowOK w e.2 ∧ IntAt w e.2.1
section
variable {w w' : World} {b b' : Nat} {r : Rw} {A : Option Addr}
theorem IntAt.keep (h : IntAt w A) (hb : Below w.heap.size w w') : IntAt w' A := fun x hx => by
  obtain ⟨cs, fr, h1⟩ := h x hx
  exact ⟨cs, fr, (hb.block _ (Array.getElem?_eq_some_iff.1 h1).1).trans h1⟩
theorem IntAt.turned (h : IntAt w A) (hm : NC w b) (hg : w.grownBy w' (some b)) : IntAt w' A := fun x hx => by
  obtain ⟨cs, fr, h1⟩ := h x hx
  refine ⟨cs, fr, (hg.block _ (Array.getElem?_eq_some_iff.1 h1).1 fun e => ?_).trans h1⟩
  cases e
  obtain ⟨o, h2, h3⟩ := hm
  rw [h1] at h2
  cases h2
  cases h3
theorem IntAt.of_own {B n c : Nat} {xs : List Value} (h : w.ownsRow B 3 1 (.slice A n c) n xs) : IntAt w A := fun x hx => by
  subst hx
  rcases h.2 with ⟨h1, _⟩ | ⟨g, cap, cur, h1, _, h3, _⟩
  · cases h1
  · cases h1
    exact ⟨cur, _, h3⟩
theorem MRowT.row (h : MRowT w b r) : MRow w b r := by
  obtain ⟨m, h1, h2, h3⟩ := h
  exact ⟨m, h1, h2, fun e he => (h3 e he).1⟩
theorem MRowT.keep (h : MRowT w b r) (hb : Below w.heap.size w w') : MRowT w' b r := by
  obtain ⟨m, h1, h2, h3⟩ := h
  exact ⟨m, h1, MapI.keep h2 hb, fun e he => ⟨(h3 e he).1.keep hb, (h3 e he).2.keep hb⟩⟩
theorem MRowT.other (h : MRowT w b r) (hm : NC w b') (hg : w.grownBy w' (some b')) (hne : b ≠ b') : MRowT w' b r := by
  obtain ⟨m, h1, h2, h3⟩ := h
  exact ⟨m, h1, MapI.kept h2 hg (fun e => hne (by cases e; rfl)), fun e he => ⟨(h3 e he).1.turned hm hg, (h3 e he).2.turned hm hg⟩⟩
theorem MRowT.grown {row : Option Nat} (h : MRowT w b r) (hg : w.grownBy w' row) (hr : ∀ g, row = some g → ∃ cs t fr, w.heap[g]? = some (.cells cs t fr) ∧ t ≠ 3) : MRowT w' b r := by
  have hnc := h.row.isMap
  obtain ⟨m, h1, h2, h3⟩ := h
  refine ⟨m, h1, MapI.kept h2 hg (fun e => ?_), fun e he => ?_⟩
  · obtain ⟨cs, t, fr, h4, _⟩ := hr b e.symm
    obtain ⟨o, h5, h6⟩ := hnc
    rw [h4] at h5
    cases h5
    cases h6
  · obtain ⟨k1, k2⟩ := h3 e he
    have hne : ∀ x : Addr, e.2.1 = some x → x.block < w.heap.size ∧ some x.block ≠ row := fun x hx => by
      obtain ⟨cs, fr, h4⟩ := k2 x hx
      refine ⟨(Array.getElem?_eq_some_iff.1 h4).1, fun e => ?_⟩
      obtain ⟨cs', t, fr', h5, h6⟩ := hr _ e.symm
      rw [h4] at h5
      injection h5 with h5
      injection h5 with _ h7
      exact h6 h7.symm
    refine ⟨⟨k1.1.grownQ hg hne, k1.2⟩, fun x hx => ?_⟩
    obtain ⟨cs, fr, h4⟩ := k2 x hx
    exact ⟨cs, fr, (hg.block _ (hne x hx).1 (hne x hx).2).trans h4⟩
theorem MRowT.made (w : World) : MRowT (w.alloc (.map #[] 0)) w.heap.size [] := ⟨[], rfl, MapI.made _ _ w, fun e he => by cases he⟩
end
section
variable (w : World) {ops : Array Oper} {rest : List Oper} {o : Oper} {a : Act} {Q : Exit → Act → World → Prop}
/-- 'r[a] = l'. -/
theorem wpList_putRT (hg : o.guard = none) (m x v : Operand) (hop : o.op = Op.mapUpdate 101 m x v) (b : Nat) (r : Rw) (hm : a.eval m = .map (some b)) (hown : MRowT w b r) (hn : r.length ≤ 1000000) (y : Int) (hx : a.eval x = .int .i64 y) (h1 : -9223372036854775808 ≤ y) (h2 : y ≤ 9223372036854775807)
    (A : Option Addr) (c n : Nat) (l : List Int) (hl : l.length = n) (hv : a.eval v = .slice A n c) (hrow : RowOK w (A, c, l)) (hIA : IntAt w A)
    (hK : ∀ w', MRowT w' b (putR r y l) → w.grownBy w' (some b) → wpList Tryd.prog ops Q rest (a.put o.dst undef) w') :
    wpList Tryd.prog ops Q (o :: rest) a w := by
  have hmap := hown.row.isMap
  obtain ⟨me, rfl, hM, hR⟩ := hown
  subst hl
  refine wpList_putI w hg m x v _ hop 22 kInt Tryd.underlying101 b _ hm hM (by rw [List.length_map] at hn ⊢; unfold maxLen; omega) y _ hx hv h1 h2 fun w' hM' hgr => hK w' ?_ hgr
  refine ⟨(me.filter fun e => decide (e.1 < y)) ++ ((y, A, c, l) : ME) :: me.filter fun e => decide (y < e.1), ?_, ?_, fun e he => ?_⟩
  · exact (put_map pl (fun _ => rfl) me (y, A, c, l) (y, l) rfl).symm
  · have := put_map mv (fun _ => rfl) me (y, A, c, l) (y, .slice A l.length c) rfl
    rw [← this]
    exact hM'
  · have hall : ∀ e ∈ (y, A, c, l) :: me, RowOK w e.2 ∧ IntAt w e.2.1 := fun e he => by
      rcases List.mem_cons.1 he with rfl | he
      · exact ⟨hrow, hIA⟩
      · exact hR e he
    have h := hall e (by
      rcases List.mem_append.1 he with he | he
      · exact List.mem_cons_of_mem _ (List.mem_filter.1 he).1
      · rcases List.mem_cons.1 he with rfl | he
        · exact List.mem_cons_self ..
        · exact List.mem_cons_of_mem _ (List.mem_filter.1 he).1)
    exact ⟨h.1.turned hmap hgr, h.2.turned hmap hgr⟩
end

set_option maxHeartbeats 2000000 in
theorem put_anyT (b : Nat) (r : Rw) (a : Int) (B : Option Addr) (m d : Nat) (L : List Int) (w : World) (hr : MRowT w b r) (hrl : r.length ≤ 1000000) (hll : ∀ x ∈ r, x.2.length ≤ 100000) (ha : -9223372036854775808 ≤ a ∧ a ≤ 9223372036854775807) (hL : RowOK w (B, d, L)) (hm : L.length = m) (hm2 : m ≤ 100000) :
    Calls Tryd.prog 56 #[.map (some b), .int .i64 a, .slice B m d] w fun e w' => e = .returned (.tuple #[]) ∧ MRowT w' b (putR r a (setL (lkR r a ++ L))) ∧ w.grownBy w' (some b) := by
  have HR := Lib.hid hr
  have HL := Lib.hid hL
  have HM := Lib.hid hm
  have HA := Lib.hid ha
  have HRl := Lib.hid hrl
  have HLk := Lib.hid (show (lkR r a).length ≤ 100000 from by
    unfold lkR
    cases hf : r.find? fun p => decide (p.1 = a) with
    | none => simp
    | some p => exact hll p (List.mem_of_find?_eq_some hf))
  clear hr hL hm ha hrl hll
  go_enter Tryd.func56, Tryd.ntmps56
  go_wp2_with (first
    | (at_lookup; refine wpList_lookR _ rfl _ _ rfl b r rfl HR.out.row a rfl HA.out.1 HA.out.2 ?_; intro A c l hrow hl; have HRow := Lib.hid hrow; have HEl := Lib.hid hl; clear hrow hl)
    | (go_at_call 86; refine (Union_any l L A B l.length c m d _ rfl (by rw [HEl.out]; exact HLk.out) HRow.out.2 HRow.out.1 HM.out hm2 (by have := HL.out.2; rw [← HM.out]; exact this) (by have := HL.out.1; rw [HM.out] at this; exact this)).mono ?_; rintro e w2 ⟨v, rfl, hown, hb⟩; have HU := Lib.hid hown; have HB := Lib.hid hb; have hsh := Sl.own hown; obtain ⟨C, k, rfl, _⟩ := hsh; have HRk := Lib.hid (HR.out.keep hb); have HC := Lib.hid (show RowOK w2 (C, k, setL (l ++ L)) from ⟨Sl.of_own hown, own_cap hown⟩); have HIA := Lib.hid (IntAt.of_own hown); clear hown hb)
    | (at_mapUpdate; refine wpList_putRT _ rfl _ _ _ rfl b r rfl HRk.out HRl.out a rfl HA.out.1 HA.out.2 C k _ (setL (l ++ L)) rfl rfl HC.out HIA.out ?_; intro w3 hM hg3; have HM3 := Lib.hid hM; have HG3 := Lib.hid hg3; clear hM hg3))
  go_end0
  exact ⟨rfl, by rw [← HEl.out]; exact HM3.out, gb_then HB.out HG3.out⟩
end Go.Proofs.YtmonepclhbappaaDoor
