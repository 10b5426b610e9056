/-
  PermAll: the law's walk.
-/
import Derived.Test.YtakkdpnaoahpcaaDoorPermY
import Derived.Test.YtakkdpnaoahpcaaDoorPermN
import Derived.Test.YtakkdpnaoahpcaaDoorLaw07
namespace Go.Proofs.YtakkdpnaoahpcaaDoor
open Go.RowKit Go.Shelf
attribute [local go_sem] Oper.semAt_some
set_option maxRecDepth 100000
set_option linter.unusedVariables false

theorem boxed_keep {W W' : World} {B : Nat} {t : TypeId} {v : Value} (h : Boxed W B t v) (hb : Below W.heap.size W W') : Boxed W' B t v := (hb.block B h.lt).trans h

theorem marks_end {F : Fence} {n : Nat} {P : Program} {fn : Func} {R : Ending → World → Prop} {a : Act} {w : World} {v : Value}
    (hd : a.defers = []) (hr : (results fn a.tmps).run P w = .ok v w) (hR : R (.returned v) w) : bodyPostM F n P fn R .ret a w := by
  show LeavesInM F n P fn a.tmps R a.defers .returning w
  rw [hd]
  exact ⟨v, hr, hR⟩
theorem marks_end1 {F : Fence} {n : Nat} {P : Program} {fn : Func} {R : Ending → World → Prop} {a : Act} {w : World} {v : Value} {D : Nat}
    (hd : a.defers = [{ target := .collected D, args := #[] }]) (hK : w.heap[D]? = some (.deferred (some []))) (hr : (results fn a.tmps).run P (w.putObj D (.deferred none)) = .ok v (w.putObj D (.deferred none))) (hR : R (.returned v) (w.putObj D (.deferred none))) : bodyPostM F n P fn R .ret a w := by
  show LeavesInM F n P fn a.tmps R a.defers .returning w
  rw [hd]
  refine ⟨by simp, .inl ⟨_, _, rfl, run_takeDeferred hK, ?_⟩⟩
  exact ⟨v, hr, hR⟩

theorem row_put {W : World} {x : Row} {l : Nat} {o : Obj} (o' : Obj) (hl : W.heap[l]? = some o) (ho : o.isCells = false) (h : RowOK W x) : RowOK (W.putObj l o') x :=
  ⟨(Sn.keep (n₁ := 0) ⟨h.1, fun _ _ => Nat.zero_le _⟩ (Kpp.putObj o' hl ho)).1, h.2⟩
/-- The law's end behind a loop over an iterator: the result's box, the loop's block. -/
theorem all_end {k : Nat} {a : Act} {w W : World} {D : Nat} {v0 : Value} (hd : a.defers = [{ target := .collected D, args := #[] }]) (hp : a.tmps.getD 4 undef = .pointer (some ⟨w.heap.size + 1, 0, none⟩)) (hK : W.heap[D]? = some (.deferred (some []))) (hr : Boxed W (w.heap.size + 1) 4 v0) (hb : Below w.heap.size w W) (hD : w.heap.size ≤ D) :
    bodyPostM Fence.wide k Tryd.prog Tryd.f3 (fun e w' => e = .returned (.bool true) ∧ Below w.heap.size w w') .ret a (W.setCell ⟨w.heap.size + 1, 0, none⟩ (.bool true)) := by
  have hK2 : (W.setCell ⟨w.heap.size + 1, 0, none⟩ (.bool true)).heap[D]? = some (.deferred (some [])) := (KeepsOthers.setCell _ _ _).same D _ hK rfl
  have hr2 := hr.set (.bool true)
  have hr3 : Boxed ((W.setCell ⟨w.heap.size + 1, 0, none⟩ (.bool true)).putObj D (.deferred none)) (w.heap.size + 1) 4 (.bool true) := hr2.kept (grownBy_putObj' _ _ _) (fun e => by
    cases e
    rw [show (W.setCell ⟨w.heap.size + 1, 0, none⟩ (.bool true)).heap[w.heap.size + 1]? = _ from hr2] at hK2
    cases hK2)
  have hE := hr3.cell
  refine marks_end1 hd hK2 (v := .bool true) ?_ ⟨rfl, (hb.setCell (p := ⟨w.heap.size + 1, 0, none⟩) (Nat.le_succ _) _).trans (belowK_b (w := w) (Nat.le_refl _) _ D _ _ hD hK2 rfl rfl)⟩
  have hp' : a.tmps[4]?.getD undef = .pointer (some ⟨w.heap.size + 1, 0, none⟩) := by rw [← Array.getD_eq_getD_getElem?]; exact hp
  simp [results, Tryd.results3, go_sem, hE, hp']

set_option maxHeartbeats 4000000 in
theorem PermAll_big (n rank : Int) (w : World) (hg : ErrT w) (hn : n = 7 ∨ n = 8) :
    Calls Tryd.prog 3 #[.int .i64 n, .int .i64 rank] w fun e w' => e = .returned (.bool true) ∧ Below w.heap.size w w' := by
  have hB1 := Boxed.new w 3 (.int .i64 n)
  have hB2 := Boxed.new (w.alloc (.cells #[.int .i64 n] 3)) 4 (.bool false)
  rw [World.size_alloc] at hB2
  have hbA := bel_al (bel_al (Below.refl w.heap.size w) (.cells #[.int .i64 n] 3)) (.cells #[.bool false] 4)
  have HA := Lib.hid ((alive07 _ (hg.keep hbA)).mono (R' := fun e W1 => e = .returned (.bool true) ∧ Boxed W1 w.heap.size 3 (.int .i64 n) ∧ Boxed W1 (w.heap.size + 1) 4 (.bool false) ∧ Below w.heap.size w W1) (fun e W1 h => ⟨h.1, boxed_keep (hB1.alloc _) h.2, boxed_keep hB2 h.2, hbA.andThen h.2⟩))
  clear hB1 hB2 hbA
  refine (callsIn_wide (n := 5)).1 ?_
  refine callsIn_of_wp_marks Tryd.func3 rfl trivial ?_ rfl
  simp only [Tryd.ntmps3, List.size_toArray, List.length_cons, List.length_nil, Nat.reduceAdd, Nat.reduceSub, Array.replicate_succ, Array.replicate_zero, List.push_toArray, List.append_toArray, List.nil_append, List.cons_append]
  rcases hn with rfl | rfl
  all_goals (
    gi_wp2_with ((try refine ⟨trivial, ?_⟩); (try refine ⟨fun h => (by cases h), ?_⟩); gi_at_call 4; refine (callsIn_wide.2 HA.out).mono ?_; clear HA; rintro e W1 ⟨rfl, h1, h2, hb⟩; have c1 := h1.cell; have c2 := h2.cell; have f2 := h2.frozen; have H2 := Lib.hid h2; have HB := Lib.hid hb; clear h1 h2 hb)
    have hE := (H2.out.set (.bool true)).cell
    refine marks_end rfl (v := .bool true) (by simp [results, Tryd.results3, go_sem, hE]) ⟨rfl, HB.out.setCell (p := ⟨w.heap.size + 1, 0, none⟩) (Nat.le_succ _) _⟩)

set_option maxHeartbeats 4000000 in
theorem Id_neg (n : Int) (w : World) (hn : n < 0) : Calls Tryd.prog 5 #[.int .i64 n] w fun e w' => e = .returned (.slice none 0 0) ∧ w = w' := by
  go_enter Tryd.func5, Tryd.ntmps5
  go_wp2
  go_loopw [3, 4] (fun v i wr => v = .slice none 0 0 ∧ i = .int .i64 0 ∧ wr = w) (fun _ i _ => 0)
  case atStart => exact ⟨rfl, rfl, rfl⟩
  case round =>
    obtain ⟨rfl, rfl, rfl⟩ := hrel
    have h0 : ¬ (0 : Int) < n := by omega
    go_wp2
    go_ret
    exact ⟨rfl, rfl⟩

set_option maxHeartbeats 4000000 in
theorem PermAll_none (n rank : Int) (w : World) (hg : ErrT w) (hn : n < 0 ∨ 8 < n) :
    Calls Tryd.prog 3 #[.int .i64 n, .int .i64 rank] w fun e w' => e = .returned (.bool true) ∧ Below w.heap.size w w' := by
  have hB1 := Boxed.new w 3 (.int .i64 n)
  have hB2 := Boxed.new (w.alloc (.cells #[.int .i64 n] 3)) 4 (.bool false)
  rw [World.size_alloc] at hB2
  have hbA := bel_al (bel_al (Below.refl w.heap.size w) (.cells #[.int .i64 n] 3)) (.cells #[.bool false] 4)
  have HI := Lib.hid (show ∀ W1, Calls Tryd.prog 5 #[.int .i64 n] W1 fun e w' => e = .returned (.slice none 0 0) ∧ W1 = w' from fun W1 => by
    rcases hn with h | h
    · exact Id_neg n W1 h
    · exact Id_big n W1 h)
  have HA := Lib.hid ((alive07 _ (hg.keep hbA)).mono (R' := fun e W1 => e = .returned (.bool true) ∧ Boxed W1 w.heap.size 3 (.int .i64 n) ∧ Boxed W1 (w.heap.size + 1) 4 (.bool false) ∧ Below w.heap.size w W1) (fun e W1 h => ⟨h.1, boxed_keep (hB1.alloc _) h.2, boxed_keep hB2 h.2, hbA.andThen h.2⟩))
  clear hB1 hB2 hbA
  refine (callsIn_wide (n := 5)).1 ?_
  refine callsIn_of_wp_marks Tryd.func3 rfl trivial ?_ rfl
  simp only [Tryd.ntmps3, List.size_toArray, List.length_cons, List.length_nil, Nat.reduceAdd, Nat.reduceSub, Array.replicate_succ, Array.replicate_zero, List.push_toArray, List.append_toArray, List.nil_append, List.cons_append]
  have HN := Lib.hid hn
  have HG := Lib.hid hg
  have hn7 : ¬ n = 7 := by omega
  have hn8 : ¬ n = 8 := by omega
  have hn7' : (n == 7) = false := by simpa using hn7
  have hn8' : (n == 8) = false := by simpa using hn8
  have hcs : n < 0 ∨ (¬ n < 0 ∧ 8 < n) := by omega
  clear hn hg
  rcases hcs with hn | ⟨hn0, hn⟩
  all_goals (
    gi_wp2_with (first
      | ((try refine ⟨trivial, ?_⟩); (try refine ⟨fun h => (by cases h), ?_⟩); gi_at_call 4; refine (callsIn_wide.2 HA.out).mono ?_; clear HA; rintro e W1 ⟨rfl, h1, h2, hb⟩; have c1 := h1.cell; have c2 := h2.cell; have f2 := h2.frozen; have H1 := Lib.hid h1; have H2 := Lib.hid h2; have HB := Lib.hid hb; clear h1 h2 hb)
      | ((try refine ⟨trivial, ?_⟩); (try refine ⟨fun h => (by cases h), ?_⟩); gi_at_call 5; refine (callsIn_wide.2 (HI.out _)).mono ?_; clear HI; rintro e W2 ⟨rfl, rfl⟩; have c1' := (H1.out.alloc (.cells #[.int .i64 0] 3)).cell; have c6 := (Boxed.new W1 3 (.int .i64 0)).cell)
      | ((try refine ⟨trivial, ?_⟩); (try refine ⟨fun h => (by cases h), ?_⟩); gi_at_call 6; refine (callsIn_wide.2 (All_any n _)).mono ?_; rintro e W3 ⟨rfl, rfl⟩))
    have hsz : ((W1.alloc (.cells #[.int .i64 0] 3)).alloc (.cells #[.int .i64 n] 3)).heap.size = W1.heap.size + 2 := by simp
    have hk0 := (Boxed.new W1 3 (.int .i64 0)).alloc (.cells #[.int .i64 n] 3)
    have hr0 := (H2.out.alloc (.cells #[.int .i64 0] 3)).alloc (.cells #[.int .i64 n] 3)
    have hn0' := (H1.out.alloc (.cells #[.int .i64 0] 3)).alloc (.cells #[.int .i64 n] 3)
    have hbx := Boxed.new (W1.alloc (.cells #[.int .i64 0] 3)) 3 (.int .i64 n)
    rw [World.size_alloc] at hbx
    have hB0 := bel_al (bel_al HB.out (.cells #[.int .i64 0] 3)) (.cells #[.int .i64 n] 3)
    refine rangeFunc_one (fun _ b => b) rfl (by omega) (gf := 14) (lb := #[.pointer (some ⟨W1.heap.size + 1, 0, none⟩)]) rfl trivial (enters_of Tryd.func14 (by kernel_rfl) rfl)
      (all_gives _ (W1.heap.size + 2) n (W1.heap.size + 1) _ hbx.cell hbx.lt (by rw [hsz]; exact Nat.le_refl _)) (fun pre x W l o o' hl ho h => ⟨row_put o' hl ho h.1, h.2⟩) Kpp.trans (fun _ W l o o' _ hl ho _ => Kpp.putObj o' hl ho) (Below.refl _ _)
      (fun pre W => (Boxed W W1.heap.size 3 (.int .i64 0) ∧ Boxed W w.heap.size 3 (.int .i64 n) ∧ Boxed W (w.heap.size + 1) 4 (.bool false)) ∧ Below w.heap.size w W) (fun _ _ _ => False)
      (OwnFrom.and (Own.from (fun s A B row hs hg hr => ⟨boxed_own _ _ (fun _ => _) s A B row hs.1 hg hr, boxed_own _ _ (fun _ => _) s A B row hs.2.1 hg hr, boxed_own _ _ (fun _ => _) s A B row hs.2.2 hg hr⟩) _) (ownFrom_below (Nat.le_refl _) (by rw [hsz]; have := HB.out.size; omega)))
      (fun c s A B row hs _ _ => hs.elim) ⟨⟨hk0, hn0', hr0⟩, hB0⟩ ?_ ?_ ?_ ?_
    · intro l x W K hK
      gi_wp2
      exact hK
    · rintro l pre x W _ _ hlt
      rw [orders_none HN.out] at hlt
      cases hlt
    · rintro D xs W hD hS ⟨⟨hk, hnn, hr⟩, hb⟩ hK
      rw [hsz] at hD
      have ck := hk.cell
      have cn := hnn.cell
      have HO := Lib.hid ((Of_bad n 0 W (by have := HN.out; omega)).mono (R' := fun e W5 => ∃ ev, e = .returned (.tuple #[.slice none 0 0, ev]) ∧ W5.cell? ⟨W1.heap.size, 0, none⟩ = some (.int .i64 0) ∧ Boxed W5 (w.heap.size + 1) 4 (.bool false) ∧ W5.heap[D]? = some (.deferred (some [])) ∧ (Err.flt 1 0 order).At W5 ev ∧ ErrT W5 ∧ Below w.heap.size w W5) (fun e W5 h => by
        obtain ⟨ev, rfl, he, hb5⟩ := h
        exact ⟨ev, rfl, (boxed_keep hk hb5).cell, boxed_keep hr hb5, (hb5.block D (Array.getElem?_eq_some_iff.1 hK).1).trans hK, he, (HG.out.keep hb).keep hb5, hb.andThen hb5⟩))
      have HD := Lib.hid hD
      have HB1 := Lib.hid (HB.out.size)
      clear hk hnn hr hb hK hD hS hsz hk0 hr0 hn0' hbx hB0
      gi_wp2_with (first
        | ((try refine ⟨trivial, ?_⟩); (try refine ⟨fun h => (by cases h), ?_⟩); gi_at_call 7; refine (callsIn_wide.2 HO.out).mono ?_; clear HO; rintro e W5 ⟨ev, rfl, ck5, hr5, hK5, he5, hg5, hb5⟩; have cr5 := hr5.cell; have fr5 := hr5.frozen; have HR5 := Lib.hid hr5; have HK5 := Lib.hid hK5; have HB5 := Lib.hid hb5; have HC := Lib.hid ((Code_any _ ev W5 he5 hg5).mono (R' := fun e W6 => e = .returned (.int .i64 1) ∧ Boxed W6 (w.heap.size + 1) 4 (.bool false) ∧ W6.heap[D]? = some (.deferred (some [])) ∧ Below w.heap.size w W6) (fun e W6 h => ⟨h.1, boxed_keep hr5 h.2, (h.2.block D (Array.getElem?_eq_some_iff.1 hK5).1).trans hK5, hb5.andThen h.2⟩)); clear hr5 hK5 he5 hg5 hb5)
        | ((try refine ⟨trivial, ?_⟩); (try refine ⟨fun h => (by cases h), ?_⟩); gi_at_call 8; refine (callsIn_wide.2 HC.out).mono ?_; clear HC; rintro e W6 ⟨rfl, hr6, hK6, hb6⟩; have cr6 := hr6.cell; have fr6 := hr6.frozen; have HR6 := Lib.hid hr6; have HK6 := Lib.hid hK6; have HB6 := Lib.hid hb6; clear hr6 hK6 hb6))
      exact all_end rfl rfl HK6.out HR6.out HB6.out (by have := HD.out; have := HB1.out; omega)
    · rintro D c pre W _ _ h _
      exact h.elim)
end Go.Proofs.YtakkdpnaoahpcaaDoor
