/-
  Chapter 06's statements: alive.
-/
import Derived.Test.YtakkdpnaoahpcaaSetsOf
import Derived.Test.YtakkdpnaoahpcaaSetsD
namespace Go.Proofs.Ytakkdpnaoahpcaa
open Go.RowKit Go.Shelf
attribute [local go_sem] Oper.semAt_some
set_option maxRecDepth 100000
set_option linter.unusedVariables false

theorem picks146 : choices [1, 4, 6] 2 = [[1, 4], [1, 6], [4, 6]] := by decide

set_option maxHeartbeats 8000000 in
theorem alive06 (w : World) : Calls Try.prog 8 #[] w fun e w' => e = .returned (.bool true) ∧ Below w.heap.size w w' := by
  have hB0 := Boxed.new w 4 (.bool false)
  have hbA := bel_al (bel_al (Below.refl w.heap.size w) (.cells #[.bool false] 4)) (.cells #[.int .i64 2, .int .i64 2] 3)
  have hs22 := Sl.newAt1 w (.cells #[.bool false] 4) [.int .i64 2, .int .i64 2] 3 2 rfl
  have HO := Lib.hid ((Of_any [2, 2] (some ⟨w.heap.size + 1, 0, none⟩) 2 2 _ rfl (by omega) hs22 (fun _ x hx => by cases hx; simp)).mono (R' := fun e W1 => ∃ A c, e = .returned (.slice A 1 c) ∧ Boxed W1 w.heap.size 4 (.bool false) ∧ Below w.heap.size w W1) (fun e W1 h => by
    obtain ⟨v, rfl, hown, hb⟩ := h
    rw [show setL [2, 2] = [2] from by decide] at hown
    obtain ⟨A, c, rfl, _⟩ := Sl.own hown
    exact ⟨A, c, rfl, boxed_keep (hB0.alloc _) hb, hbA.andThen hb⟩))
  clear hB0 hbA hs22
  refine (callsIn_wide (n := 5)).1 ?_
  refine callsIn_of_wp_marks Try.func8 rfl trivial ?_ rfl
  simp only [Try.ntmps8, List.size_toArray, List.length_cons, List.length_nil, Nat.reduceAdd, Nat.reduceSub, Array.replicate_succ, Array.replicate_zero, List.push_toArray, List.append_toArray, List.nil_append, List.cons_append]
  gi_wp2_with (first
    | ((try refine ⟨trivial, ?_⟩); (try refine ⟨fun h => (by cases h), ?_⟩); gi_at_call 9; refine (callsIn_wide.2 HO.out).mono ?_; clear HO; rintro e W4 ⟨A, c, rfl, h1, hb⟩; have H1 := Lib.hid h1; have HB := Lib.hid hb; clear h1 hb)
    | ((try refine ⟨trivial, ?_⟩); (try refine ⟨fun h => (by cases h), ?_⟩); gi_at_call 25; refine (callsIn_wide.2 (Picks_any _ 3 3 2 _)).mono ?_; rintro e W5 ⟨rfl, rfl⟩))
  have hk0 := (((Boxed.new W4 3 (.int .i64 0)).alloc (.cells #[.int .i64 1, .int .i64 4, .int .i64 6] 3)).alloc (.cells #[.slice (some ⟨W4.heap.size + 1, 0, none⟩) 3 3] 22)).alloc (.cells #[.int .i64 2] 3)
  have hsl := ((Sl.newAt1 W4 (.cells #[.int .i64 0] 3) [.int .i64 1, .int .i64 4, .int .i64 6] 3 3 rfl).alloc (.cells #[.slice (some ⟨W4.heap.size + 1, 0, none⟩) 3 3] 22)).alloc (.cells #[.int .i64 2] 3)
  have hbs := (Boxed.new ((W4.alloc (.cells #[.int .i64 0] 3)).alloc (.cells #[.int .i64 1, .int .i64 4, .int .i64 6] 3)) 22 (.slice (some ⟨W4.heap.size + 1, 0, none⟩) 3 3)).alloc (.cells #[.int .i64 2] 3)
  have hbk := Boxed.new (((W4.alloc (.cells #[.int .i64 0] 3)).alloc (.cells #[.int .i64 1, .int .i64 4, .int .i64 6] 3)).alloc (.cells #[.slice (some ⟨W4.heap.size + 1, 0, none⟩) 3 3] 22)) 3 (.int .i64 2)
  have hB4 := bel_al (bel_al (bel_al (bel_al (Below.refl W4.heap.size W4) (.cells #[.int .i64 0] 3)) (.cells #[.int .i64 1, .int .i64 4, .int .i64 6] 3)) (.cells #[.slice (some ⟨W4.heap.size + 1, 0, none⟩) 3 3] 22)) (.cells #[.int .i64 2] 3)
  obtain ⟨w5, hw5⟩ : ∃ w5, (((W4.alloc (.cells #[.int .i64 0] 3)).alloc (.cells #[.int .i64 1, .int .i64 4, .int .i64 6] 3)).alloc (.cells #[.slice (some ⟨W4.heap.size + 1, 0, none⟩) 3 3] 22)).alloc (.cells #[.int .i64 2] 3) = w5 := ⟨_, rfl⟩
  have hsz : w5.heap.size = W4.heap.size + 4 := by rw [← hw5]; simp
  simp only [World.size_alloc] at hbs hbk
  rw [hw5] at hk0 hsl hbs hbk hB4 ⊢
  clear hw5
  have hgv := picks_gives (5 - 1) (W4.heap.size + 1) (W4.heap.size + 1 ≤ ·) (fun _ h => h) [1, 4, 6] 2 (some ⟨W4.heap.size + 1, 0, none⟩) 3 3 (W4.heap.size + 3) (W4.heap.size + 2) w5 hbk.cell (by omega) hbs.cell (by omega) rfl (by omega) (by omega) (by omega) hsl (fun x hx => by cases hx; exact Nat.le_refl _) (by omega)
  refine rangeFunc_one (fun x b => { b with tmps := b.tmps.setIfInBounds 2 (rv x) }) rfl (by omega) (gf := 39) (lb := #[.pointer (some ⟨W4.heap.size + 3, 0, none⟩), .pointer (some ⟨W4.heap.size + 2, 0, none⟩)]) rfl trivial (enters_of Try.func39 (by kernel_rfl) rfl)
    hgv kn_put Kq.trans (fun _ W l o o' _ hl ho _ => Kq.of_kept (Kept.putObj o' hl ho)) (Below.refl _ _)
    (fun pre W => Boxed W W4.heap.size 3 (.int .i64 (pre.length : Int)) ∧ Below W4.heap.size W4 W) (fun _ _ _ => False)
    (OwnFrom.and (Own.from (boxed_own _ _ (fun pre : List Row => .int .i64 (pre.length : Int))) _) (ownFrom_below (Nat.le_refl _) (by omega)))
    (fun c s A B row hs _ _ => hs.elim) ⟨hk0, hB4⟩ ?assign ?body ?done ?stop
  case assign =>
    intro l x W K hK
    gi_wp2
    exact hK
  case body =>
    rintro l pre ⟨D, d, p⟩ W ⟨hk, hb⟩ ⟨hown, hgp⟩ hlt
    rw [picks146] at hgp hlt
    obtain ⟨q, hq⟩ : ∃ q, q = pre.length := ⟨_, rfl⟩
    rw [← hq] at hk hgp hlt
    have hlt3 : q < 3 := hlt
    have ck := hk.cell
    have fk := hk.frozen
    have HK := Lib.hid hk
    have HB := Lib.hid hb
    have HQ := Lib.hid hq
    have hsl' := Sl.of_own hown
    have HE := Lib.hid (show ∀ v, KeepsOthers W (W.setCell ⟨W4.heap.size, 0, none⟩ v) ∧ Kq (W4.heap.size + 1 ≤ ·) (D, d, p) W (W.setCell ⟨W4.heap.size, 0, none⟩ v) from fun v => ⟨KeepsOthers.setCell _ _ _, Kq.of_kept (Kept.set W 0 v (by omega))⟩)
    have HI := Lib.hid (show Boxed (W.setCell ⟨W4.heap.size, 0, none⟩ (.int .i64 ((q + 1 : Nat) : Int))) W4.heap.size 3 (.int .i64 ((pre ++ [((D, d, p) : Row)]).length : Int)) ∧ Below W4.heap.size W4 (W.setCell ⟨W4.heap.size, 0, none⟩ (.int .i64 ((q + 1 : Nat) : Int))) from by
      refine ⟨?_, hb.setCell (p := ⟨W4.heap.size, 0, none⟩) (Nat.le_refl _) _⟩
      rw [List.length_append, ← hq]
      exact hk.set _)
    clear hk hb hq hown hgv
    rcases q with _ | _ | _ | q
    · obtain rfl : p = [1, 4] := (Option.some.inj hgp).symm
      clear hgp hlt
      gi_wp2
      exact ⟨(HE.out _).1, (HE.out _).2, HI.out⟩
    · obtain rfl : p = [1, 6] := (Option.some.inj hgp).symm
      clear hgp hlt
      obtain ⟨bb, off, rfl, _⟩ := hsl'.at_ (show 0 < 2 by omega)
      have c1 := hsl'.again (k := 0) (show 0 < 2 by omega) (u := .int .i64 1) rfl
      have c2 := hsl'.again (k := 1) (show 1 < 2 by omega) (u := .int .i64 6) rfl
      rw [Nat.add_zero] at c1
      rw [show rv ((some ⟨bb, off, none⟩, d, [1, 6]) : Row) = .slice (some ⟨bb, off, none⟩) 2 d from rfl]
      gi_wp2
      exact ⟨(HE.out _).1, (HE.out _).2, HI.out⟩
    · obtain rfl : p = [4, 6] := (Option.some.inj hgp).symm
      clear hgp hlt
      gi_wp2
      exact ⟨(HE.out _).1, (HE.out _).2, HI.out⟩
    · omega
  case done =>
    rintro D xs W hD hS ⟨hk, hb⟩ hK
    rw [hsz] at hD
    rw [picks146] at hS
    rw [hS] at hk
    have hr := boxed_keep H1.out hb
    have ck := hk.cell
    have cr := hr.cell
    have fr := hr.frozen
    have HR := Lib.hid hr
    have HKD := Lib.hid hK
    have HBW := Lib.hid (HB.out.andThen hb)
    have HDw := Lib.hid (show w.heap.size ≤ D from by have := HB.out.size; omega)
    clear hk hb hr hK hS hD hgv
    gi_wp2
    have hK2 : (W.setCell ⟨w.heap.size, 0, none⟩ (.bool true)).heap[D]? = some (.deferred (some [])) := (KeepsOthers.setCell _ _ _).same D _ HKD.out rfl
    have hr2 := HR.out.set (.bool true)
    have hr3 : Boxed ((W.setCell ⟨w.heap.size, 0, none⟩ (.bool true)).putObj D (.deferred none)) w.heap.size 4 (.bool true) := hr2.kept (grownBy_putObj' _ _ _) (fun e => by
      cases e
      rw [show (W.setCell ⟨w.heap.size, 0, none⟩ (.bool true)).heap[w.heap.size]? = _ from hr2] at hK2
      cases hK2)
    have hE := hr3.cell
    refine marks_end1 rfl hK2 (v := .bool true) (by simp [results, Try.results8, go_sem, hE]) ⟨rfl, (HBW.out.setCell (p := ⟨w.heap.size, 0, none⟩) (Nat.le_refl _) _).trans (belowK_b (w := w) (Nat.le_refl _) _ D _ _ HDw.out hK2 rfl rfl)⟩
  case stop =>
    rintro D c pre W _ _ h _
    exact h.elim
end Go.Proofs.Ytakkdpnaoahpcaa
