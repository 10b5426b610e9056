/-
  Part 13 of the proof of OdagLengths: RankW, LawEnd, OutL.
-/
import Derived.BigQuiet
import Derived.Deep.DeepCutAuto
import Derived.Test.YtmonepclhbappaaDoorOdagLengthsM11
import Derived.Test.YtmonepclhbappaaDoorOdagLengthsM9
import Derived.Test.YtmonepclhbappaaDoorOdagLengthsM12
import Derived.Test.YtmonepclhbappaaDoorOdagLengthsM8
import Derived.Test.YtmonepclhbappaaDoorOdagLengthsM2
/-
  The laws' Paths of a part: they are put one behind the other.
-/
namespace Go.Proofs.YtmonepclhbappaaDoor
open Go.RowKit Go.Maps
attribute [local go_sem] Oper.semAt_some
set_option maxRecDepth 100000
set_option linter.unusedVariables false

/-- What holds while rows are put into a row of rows that lies in a box. -/
def OutI (n₀ B Bo : Nat) (w0 : World) (G : List (List Int)) (pre : List RowE) (W : World) : Prop :=
  Below n₀ w0 W ∧ (∃ v, Blk W Bo 40 #[v] ∧ W.ownsRow B 22 1 v pre.length (pre.map rv) ∧ RowsOK W v pre ∧ ∀ t ∈ pre, ∀ x : Addr, t.1 = some x → B ≤ x.block) ∧ ∀ (i : Nat) (x : RowE), pre[i]? = some x → G[i]? = some x.2.2
theorem OutI.own {n₀ B Bo n : Nat} {w0 : World} {G : List (List Int)} (h0 : n₀ ≤ w0.heap.size) (hn : n₀ ≤ n) : OwnFrom n (OutI n₀ B Bo w0 G) := ownFrom_of fun s A B' row ⟨h1, ⟨v, h2, h3, h4, h6⟩, h5⟩ hg hr hge =>
  ⟨bel_gb h1 h0 hg (fun r e => Nat.le_trans hn (hge r e)), ⟨v, blk_gb h2 hg hr, own_gb h3 hg hr, rows_gb h4 hg hr, h6⟩, h5⟩
theorem getI_snoc {G : List (List Int)} {pre : List RowE} {x : RowE} (h : ∀ (i : Nat) (x : RowE), pre[i]? = some x → G[i]? = some x.2.2) (hx : G[pre.length]? = some x.2.2) : ∀ (i : Nat) (y : RowE), (pre ++ [x])[i]? = some y → G[i]? = some y.2.2 := fun j y hy => by
  rcases Nat.lt_or_ge j pre.length with hj | hj
  · rw [List.getElem?_append_left hj] at hy
    exact h j y hy
  · rw [List.getElem?_append_right hj] at hy
    obtain rfl : j = pre.length := by
      have := (List.getElem?_eq_some_iff.1 hy).1
      simp at this
      omega
    rw [Nat.sub_self] at hy
    obtain rfl : x = y := by simpa using hy
    exact hx
theorem getI_all {G : List (List Int)} {pre : List RowE} (h : ∀ (i : Nat) (x : RowE), pre[i]? = some x → G[i]? = some x.2.2) (hl : pre.length = G.length) : pre.map (·.2.2) = G := by
  refine List.ext_getElem? fun i => ?_
  rw [List.getElem?_map]
  cases hp : pre[i]? with
  | none =>
    rw [List.getElem?_eq_none_iff] at hp
    rw [List.getElem?_eq_none (by omega)]
    rfl
  | some x => rw [h i x hp]; rfl

set_option maxHeartbeats 16000000 in
theorem PathsR_any (q p N : Nat) (od : List Rw) (f t : Int) (w : World) (hf : i64ok f) (ht : i64ok t) (hO : OdOK od N) (hk : RkM w q p od) (hT : (partP od f t).length ≤ 100000000) :
    Calls Tryd.prog 36 #[.pointer (some ⟨q, 0, none⟩), .agg #[.int .i64 f, .int .i64 t]] w fun e w' => ∃ (A : Option Addr) (c : Nat) (jts : List RowE), e = .returned (.slice A jts.length c) ∧ jts.map (·.2.2) = partP od f t ∧ Sl w' 1 A jts.length (jts.map rv) ∧ AllRows w' jts ∧ Below w.heap.size w w' := by
  have HO := Lib.hid hO
  have HK := Lib.hid hk
  have HF := Lib.hid hf
  have HT := Lib.hid ht
  have HTl := Lib.hid hT
  clear hO hk hf ht hT
  refine (callsIn_wide (n := 5)).1 ?_
  refine callsIn_of_wp_marks Tryd.func36 rfl trivial ?_ rfl
  simp only [Tryd.ntmps36, List.size_toArray, List.length_cons, List.length_nil, Nat.reduceAdd, Nat.reduceSub, Array.replicate_succ, Array.replicate_zero, List.push_toArray, List.append_toArray, List.nil_append, List.cons_append]
  refine wpIn_wide.2 ?_
  go_upto_region 2 with (fail)
  obtain ⟨W6, hW6⟩ : ∃ W6, (w.alloc (.cells #[.int .i64 f, .int .i64 t] 63)).alloc (.cells #[.slice none 0 0] 40) = W6 := ⟨_, rfl⟩
  have hb6 : Below w.heap.size w W6 := by rw [← hW6]; exact bel_al (bel_al (Below.refl _ _) _) _
  have hp6 : Blk W6 w.heap.size 63 #[.int .i64 f, .int .i64 t] := by rw [← hW6]; exact (Blk.new w _ _).alloc _
  have ho6 : Blk W6 (w.heap.size + 1) 40 #[.slice none 0 0] := by
    have := Blk.new (w.alloc (.cells #[.int .i64 f, .int .i64 t] 63)) 40 #[.slice none 0 0]
    rw [World.size_alloc, hW6] at this
    exact this
  have hs6 : W6.heap.size = w.heap.size + 2 := by rw [← hW6]; simp
  rw [hW6]
  clear hW6
  have HS6 := Lib.hid hs6
  clear hs6
  have c0 := hp6.cell 0
  have c1 := hp6.cell 1
  simp at c0 c1
  go_wp2_with (go_at_call 32; refine (Each_any (some ⟨q, 0, none⟩) _ _ _).mono ?_; rintro e w5 ⟨rfl, rfl⟩)
  clear c0 c1
  obtain ⟨W5, hW5⟩ : ∃ W5, (W6.alloc (.cells #[.pointer (some ⟨q, 0, none⟩)] 57)).alloc (.cells #[.int .i64 f, .int .i64 t] 63) = W5 := ⟨_, rfl⟩
  have hb5 : Below W6.heap.size W6 W5 := by rw [← hW5]; exact bel_al (bel_al (Below.refl _ _) _) _
  have hr5 : Blk W5 W6.heap.size 57 #[.pointer (some ⟨q, 0, none⟩)] := by rw [← hW5]; exact (Blk.new W6 _ _).alloc _
  have hp5 : Blk W5 (W6.heap.size + 1) 63 #[.int .i64 f, .int .i64 t] := by
    have := Blk.new (W6.alloc (.cells #[.pointer (some ⟨q, 0, none⟩)] 57)) 63 #[.int .i64 f, .int .i64 t]
    rw [World.size_alloc, hW5] at this
    exact this
  rw [hW5]
  clear hW5
  have HB5 := Lib.hid (hb6.andThen hb5)
  have HL5 := Lib.hid hb5.size
  refine (wpIn_wide (n := 5)).1 ?_
  refine rangeFunc_one (fun x b => { b with tmps := b.tmps.setIfInBounds 6 (rv x) }) rfl (by omega) (gf := 71) (lb := #[.pointer (some ⟨W6.heap.size + 1, 0, none⟩), .pointer (some ⟨W6.heap.size, 0, none⟩)]) rfl trivial (enters_of Tryd.func71 (by kernel_rfl) rfl)
    (each_gives (5 - 1) w.heap.size W6.heap.size (W6.heap.size + 1) W6.heap.size q p N od f t w W5 HF.out HT.out HO.out HK.out rfl HB5.out hp5 hr5 (Nat.le_refl _)) knE_put KT.trans (fun _ W l o o' hl ho hc _ => KT.putObj o' (Nat.le_trans HB5.out.size hl) ho hc) (Below.refl _ _)
    (OutI w.heap.size W6.heap.size (w.heap.size + 1) w (partP od f t)) (fun _ _ _ => False) (OutI.own (Nat.le_refl _) HB5.out.size) (fun c s A B row hs _ _ => hs.elim)
    ⟨HB5.out, ⟨_, ho6.keep hb5, World.ownsRow_nil _ _ _ _, (fun t h => by cases h), fun t h => by cases h⟩, fun i x hx => by cases hx⟩ ?assign ?body ?done ?stop
  case assign =>
    intro l x W K hK
    gi_wp2
    exact hK
  case stop =>
    rintro D c pre W _ _ h _
    exact h.elim
  case body =>
    rintro l pre ⟨D, d, P⟩ W ⟨i1, ⟨v, i2, i3, i4, i6⟩, i5⟩ ⟨hown, hG⟩ hlt
    have cv := i2.cell 0
    simp at cv
    have hP : P ∈ allP od := by
      have := List.mem_of_getElem? hG
      unfold partP at this
      exact List.mem_of_mem_take (List.mem_of_mem_drop this)
    have hPl : P.length = N := HO.out.P P hP
    have hN1 := HO.out.h1
    obtain ⟨gx, gc, hgx, hg5⟩ := own_form hown (by simp only; omega)
    have hDx : D = some ⟨gx, 0, none⟩ := by cases hgx; rfl
    have hgW : gx < W.heap.size := (hown.lt gx (by rw [hgx]; rfl)).2
    have hrow : RowOK W (D, d, P) := ⟨Sl.of_own hown, own_cap hown⟩
    have hnov : ∀ x : Addr, D = some x → x.block < W.heap.size ∧ some x.block ≠ v.ownBlock := fun x hx => by
      rw [hDx] at hx
      cases hx
      refine ⟨hgW, fun e => ?_⟩
      have e2 : v.ownBlock ≠ some gx := by
        rcases hown.2 with ⟨h7, _⟩ | ⟨g', cap, cur, h7, _, h8, _⟩
        · rw [hgx] at h7; cases h7
        · rw [hgx] at h7
          cases h7
          intro h9
          rcases i3.2 with ⟨rfl, _⟩ | ⟨g2, cap2, cur2, rfl, _, h10, _⟩
          · simp [Value.ownBlock] at h9
          · obtain rfl : g2 = gx := by simpa [Value.ownBlock] using h9
            rw [h8] at h10
            injection h10 with h10
            injection h10 with _ h11
            exact absurd h11 (by decide)
      exact e2 e.symm
    have HI1 := Lib.hid i1
    have HI2 := Lib.hid i2
    have HI3 := Lib.hid i3
    have HI4 := Lib.hid i4
    have HI5 := Lib.hid i5
    have HI6 := Lib.hid (show ∀ t ∈ pre ++ [(D, d, P)], ∀ x : Addr, t.1 = some x → W6.heap.size ≤ x.block from fun t ht x hx => by
      rcases List.mem_append.1 ht with ht | ht
      · exact i6 t ht x hx
      · rw [List.mem_singleton.1 ht] at hx
        have hx' : D = some x := hx
        rw [hDx] at hx'
        cases hx'
        exact Nat.le_trans HL5.out hg5)
    have HGp := Lib.hid hG
    have HRow := Lib.hid hrow
    have HNo := Lib.hid hnov
    have hWs : W5.heap.size ≤ W.heap.size := by omega
    have hl6 := HL5.out
    have hs6 := HS6.out
    have HSz := Lib.hid (show W6.heap.size ≤ W.heap.size ∧ w.heap.size + 2 ≤ W6.heap.size from ⟨by omega, by omega⟩)
    have hpl : pre.length ≤ 100000000 := by have := HTl.out; omega
    obtain ⟨k, hk⟩ : ∃ k, k = pre.length := ⟨_, rfl⟩
    rw [← hk] at hpl HI3
    have HKk := Lib.hid hk
    clear i1 i2 i3 i4 i5 i6 hG hrow hnov hWs hl6 hs6 hown hgx hDx hgW hg5 hP hPl hN1 hlt hk
    simp only [rv]
    gi_wp2_with (gi_at_builtin; refine wpListIn_cat_at elemIntsQ _ _ rfl rfl (HI3.out.alloc _) (by have := HSz.out; simp; omega) (Sl.newAt W _ _ 1 rfl) rfl rfl (by simp [Value.oneCell']) (by unfold lim; omega) (by unfold lim; omega) ?_; intro v6 w6 hown6 hgr6; obtain ⟨g6, c6, rfl, _⟩ := own_form hown6 (by omega); have HO6 := Lib.hid hown6; have HG6 := Lib.hid hgr6; have fb := ((HI2.out.alloc (.cells #[.slice D P.length d] 22)).others (HI3.out.alloc (.cells #[.slice D P.length d] 22)) hgr6.g (by decide)).frozen 0; have cb := ((HI2.out.alloc (.cells #[.slice D P.length d] 22)).others (HI3.out.alloc (.cells #[.slice D P.length d] 22)) hgr6.g (by decide)).cell 0; simp at cb; clear hown6 hgr6)
    obtain ⟨v6, hv6⟩ : ∃ v6, v6 = Value.slice (some ⟨g6, 0, none⟩) (k + 1) c6 := ⟨_, rfl⟩
    rw [← hv6] at HO6 HG6 ⊢
    clear hv6
    have hI3a := HI3.out.alloc (.cells #[.slice D P.length d] 22)
    have hI2a := (HI2.out.alloc (.cells #[.slice D P.length d] 22)).others hI3a HG6.out.g (by decide)
    have hgr := HG6.out.after_alloc
    have hsz := HSz.out
    have hbx : Below w.heap.size W w6 := hgr.below (by omega) (fun k hk => by have := (HI3.out.lt k hk).1; omega)
    have hne6 : ∀ g, v6.ownBlock = some g → g ≠ w.heap.size + 1 := fun g hg e => own_notBlk HO6.out hI2a (by decide) (by rw [hg, e])
    have hset := Below.setCell hbx (p := ⟨w.heap.size + 1, 0, none⟩) (by simp) v6
    refine ⟨((KeepsOthers.alloc W _).trans (ko_cat hI3a HG6.out)).trans (KeepsOthers.setCell _ _ _), ?_, ?_⟩
    · exact (((KT.of_below (bel_al (Below.refl _ _) _) (by omega)).trans (KT.cat hI3a HG6.out (by simp; omega) (by omega))).trans (KT.set _ (by omega) (by omega)))
    · refine ⟨HI1.out.trans hset, ⟨v6, hI2a.set_ 0 v6, ?_, ?_, HI6.out⟩, getI_snoc HI5.out HGp.out⟩
      · have h := own_block HO6.out (w' := w6.setCell ⟨w.heap.size + 1, 0, none⟩ v6) fun g hg => Below.heap_setCell _ _ _ _ (hne6 g hg)
        rw [List.length_append, List.map_append, ← HKk.out]
        exact h
      · have h := RowsOK.grow (RowsOK.snoc HI4.out ⟨HRow.out, HNo.out⟩) hgr
        intro t ht
        obtain ⟨h1, h2⟩ := h t ht
        refine ⟨⟨?_, h1.2⟩, fun x hx => ⟨by rw [World.size_setCell]; exact (h2 x hx).1, (h2 x hx).2⟩⟩
        refine sl_far h1.1 (fun a ha e => ?_) _
        have h8 := HI6.out t ht a ha
        have e' : a.block = w.heap.size + 1 := e
        omega
  case done =>
    rintro D1 xs W hD hS ⟨i1, ⟨v, i2, i3, i4, i6⟩, i5⟩ hK1
    have cv := i2.cell 0
    simp at cv
    have HI1 := Lib.hid i1
    have HI3 := Lib.hid i3
    have HI4 := Lib.hid i4
    have HI5 := Lib.hid i5
    have HS := Lib.hid hS
    have HK1 := Lib.hid hK1
    have HD := Lib.hid (show w.heap.size ≤ D1 from Nat.le_trans HB5.out.size hD)
    clear i1 i2 i3 i4 i5 i6 hS hK1 hD
    obtain ⟨A, c, rfl, hsl⟩ := Sl.own HI3.out
    go_wp2_with fail
    refine mks1 rfl HK1.out (v := .slice A xs.length c) (by simp [results, Tryd.results36, go_sem]) ⟨A, c, xs, rfl, getI_all HI5.out HS.out, ?_, ?_, ?_⟩
    · exact sl_gb hsl (grownBy_putObj' W D1 (.deferred none)) (fun r e => by cases e; exact ⟨_, HK1.out, rfl⟩)
    · exact fun t ht => row_gb (HI4.out t ht).1 (grownBy_putObj' W D1 (.deferred none)) (fun r e => by cases e; exact ⟨_, HK1.out, rfl⟩)
    · exact bel_gb HI1.out (Nat.le_refl _) (grownBy_putObj' W D1 (.deferred none)) (fun r e => by cases e; exact HD.out)
end Go.Proofs.YtmonepclhbappaaDoor
/-
  How a law ends behind ranges over functions; how many paths there are.
-/
namespace Go.Proofs.YtmonepclhbappaaDoor
open Go.RowKit
set_option linter.unusedVariables false

/-- A law's end behind ranges over functions, its result in block B. -/
theorem law_endAt {k : Nat} {P : Program} {fn : Func} {a : Act} {w W : World} (Ds : List Nat) (B : Nat) {t : TypeId} {v0 : Value} (hB : w.heap.size ≤ B) (hres : ∀ V : World, V.cell? ⟨B, 0, none⟩ = some (.bool true) → (results fn a.tmps).run P V = .ok (.bool true) V) (hd : a.defers = Ds.map fun D => { target := .collected D, args := #[] }) (hK : ∀ D ∈ Ds, W.heap[D]? = some (.deferred (some []))) (hn : Ds.Nodup)
    (hr : Blk W B t #[v0]) (hb : Below w.heap.size w W) (hD : ∀ D ∈ Ds, w.heap.size ≤ D) :
    bodyPostM Fence.wide k P fn (fun e w' => e = .returned (.bool true) ∧ Below w.heap.size w w') .ret a (W.setCell ⟨B, 0, none⟩ (.bool true)) := by
  show LeavesInM _ _ _ _ _ _ a.defers .returning _
  rw [hd]
  have hK2 : ∀ D ∈ Ds, (W.setCell ⟨B, 0, none⟩ (.bool true)).heap[D]? = some (.deferred (some [])) := fun D h => (KeepsOthers.setCell _ _ _).same D _ (hK D h) rfl
  have hE := (shutM_blk Ds _ hK2 hn (hr.set_ 0 (.bool true))).cell 0
  simp at hE
  exact leavesM Ds _ hK2 hn (v := .bool true) (hres _ hE) ⟨rfl, shutM_below Ds _ hK2 hn hD (hb.setCell (p := ⟨B, 0, none⟩) hB _)⟩

theorem ownK {w w' : World} {B size n : Nat} {e : TypeId} {v : Value} {xs : List Value} (h : w.ownsRow B e size v n xs) (hb : Below w.heap.size w w') : w'.ownsRow B e size v n xs := own_block h fun g hg => hb.block g (h.lt g hg).2
/-- How many paths there are at most. -/
theorem allP_pow {od : List Rw} {K : Nat} (hB : OdB K od) (h1 : 1 ≤ od.length) : (allP od).length ≤ K ^ od.length := by
  have h0 : totP od = ((allP od).length : Int) := rfl
  have h2 := sumZ_le (l := ((od.getD 0 []).map (·.1)).map (cnt od 0)) (K := ((K ^ (od.length - 1) : Nat) : Int)) fun x hx => by
    obtain ⟨b, _, rfl⟩ := List.mem_map.1 hx
    exact cnt_le hB _ 0 b (by omega)
  rw [List.length_map, List.length_map, ← totP_sum, h0] at h2
  have h3 := (hB _ (getD_memO (show 0 < od.length by omega))).1
  have h4 : (od.getD 0 []).length * K ^ (od.length - 1) ≤ K ^ od.length := by
    have e : K ^ od.length = K * K ^ (od.length - 1) := by
      conv => lhs; rw [show od.length = (od.length - 1) + 1 by omega, Nat.pow_succ, Nat.mul_comm]
    rw [e]
    exact Nat.mul_le_mul_right _ h3
  rw [← Int.natCast_mul] at h2
  omega
end Go.Proofs.YtmonepclhbappaaDoor
/-
  Rows put one behind the other into a row of rows that lies in a box.
-/
namespace Go.Proofs.YtmonepclhbappaaDoor
open Go.RowKit
set_option linter.unusedVariables false

/-- A row of rows in a box, of its own. -/
def OutR (n₀ B Bo : Nat) (w0 : World) (ys : List RowE) (W : World) : Prop :=
  Below n₀ w0 W ∧ ∃ v, Blk W Bo 40 #[v] ∧ W.ownsRow B 22 1 v ys.length (ys.map rv) ∧ RowsOK W v ys ∧ ∀ t ∈ ys, ∀ x : Addr, t.1 = some x → B ≤ x.block
theorem OutR.new {n₀ B Bo : Nat} {w0 W : World} (h : Below n₀ w0 W) (hb : Blk W Bo 40 #[.slice none 0 0]) : OutR n₀ B Bo w0 [] W := ⟨h, _, hb, World.ownsRow_nil _ _ _ _, (fun t h => by cases h), (fun t h => by cases h)⟩
theorem OutR.keep {n₀ B Bo : Nat} {w0 W W' : World} {ys : List RowE} (h : OutR n₀ B Bo w0 ys W) (hn : n₀ ≤ W.heap.size) (hb : Below W.heap.size W W') : OutR n₀ B Bo w0 ys W' := by
  obtain ⟨h1, v, h2, h3, h4, h5⟩ := h
  exact ⟨h1.trans (hb.mono hn), v, h2.keep hb, ownK h3 hb, h4.keep hb, h5⟩
theorem OutR.push {n₀ B Bo n : Nat} {w0 X w6 : World} {v v6 : Value} {ys : List RowE} {y : RowE} {o : Obj} (h1 : Below n₀ w0 X) (h2 : Blk X Bo 40 #[v]) (h3 : X.ownsRow B 22 1 v n (ys.map rv)) (h4 : RowsOK X v ys) (h5 : ∀ t ∈ ys, ∀ x : Addr, t.1 = some x → B ≤ x.block)
    (hrow : RowOK X y) (hy : ∀ x : Addr, y.1 = some x → (x.block < X.heap.size ∧ some x.block ≠ v.ownBlock) ∧ B ≤ x.block) (hB : Bo < B) (h0 : n₀ ≤ Bo) (hX : B ≤ X.heap.size)
    (hn : n = ys.length) (hown : w6.ownsRow B 22 1 v6 (n + 1) (ys.map rv ++ [rv y])) (hgr : Gr (X.alloc o) w6 v v6) : OutR n₀ B Bo w0 (ys ++ [y]) (w6.setCell ⟨Bo, 0, none⟩ v6) := by
  have hI3a := h3.alloc o
  have hI2a := (h2.alloc o).others hI3a hgr.g (by decide)
  have hgr2 := hgr.after_alloc
  have hbx : Below n₀ X w6 := hgr2.below (by omega) (fun k hk => by have := (h3.lt k hk).1; omega)
  have hne6 : ∀ g, v6.ownBlock = some g → g ≠ Bo := fun g hg e => own_notBlk hown hI2a (by decide) (by rw [hg, e])
  have hset := Below.setCell hbx (p := ⟨Bo, 0, none⟩) h0 v6
  have hfar : ∀ t ∈ ys ++ [y], ∀ x : Addr, t.1 = some x → B ≤ x.block := fun t ht x hx => by
    rcases List.mem_append.1 ht with ht | ht
    · exact h5 t ht x hx
    · rw [List.mem_singleton.1 ht] at hx
      exact (hy x hx).2
  refine ⟨h1.trans hset, v6, hI2a.set_ 0 v6, ?_, ?_, hfar⟩
  · have h := own_block hown (w' := w6.setCell ⟨Bo, 0, none⟩ v6) fun g hg => Below.heap_setCell _ _ _ _ (hne6 g hg)
    rw [List.length_append, List.map_append, ← hn]
    exact h
  · have h := RowsOK.grow (RowsOK.snoc h4 ⟨hrow, fun x hx => (hy x hx).1⟩) hgr2
    intro t ht
    obtain ⟨g1, g2⟩ := h t ht
    refine ⟨⟨?_, g1.2⟩, fun x hx => ⟨by rw [World.size_setCell]; exact (g2 x hx).1, (g2 x hx).2⟩⟩
    refine sl_far g1.1 (fun a ha e => ?_) _
    have h8 := hfar t ht a ha
    have e' : a.block = Bo := e
    omega
theorem OutR.own {n₀ B Bo n : Nat} {w0 : World} (h0 : n₀ ≤ w0.heap.size) (hn : n₀ ≤ n) : OwnFrom n (OutR n₀ B Bo w0) := ownFrom_of fun s A B' row ⟨h1, v, h2, h3, h4, h6⟩ hg hr hge =>
  ⟨bel_gb h1 h0 hg (fun r e => Nat.le_trans hn (hge r e)), v, blk_gb h2 hg hr, own_gb h3 hg hr, rows_gb h4 hg hr, h6⟩
/-- A number in a box. -/
def NtJ (w7 : World) (k : Nat) (W : World) : Prop := Below w7.heap.size w7 W ∧ Blk W w7.heap.size 3 #[.int .i64 (k : Int)]
theorem NtJ.own {w7 : World} {n : Nat} {β : Type} (f : β → Nat) (hn : w7.heap.size ≤ n) : OwnFrom n (fun (pre : β) W => NtJ w7 (f pre) W) := ownFrom_of fun s A B row ⟨h1, h2⟩ hg hr hge =>
  ⟨bel_gb h1 (Nat.le_refl _) hg (fun r e => Nat.le_trans hn (hge r e)), blk_gb h2 hg hr⟩
end Go.Proofs.YtmonepclhbappaaDoor
