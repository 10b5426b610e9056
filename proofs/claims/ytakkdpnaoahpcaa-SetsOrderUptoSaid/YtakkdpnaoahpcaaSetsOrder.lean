/-
  SetsOrder: the law's walk, every way, for a list of at most 2^20 numbers.
-/
import Derived.Test.YtakkdpnaoahpcaaSetsOrdA
import Derived.Test.YtakkdpnaoahpcaaSetsOrdB
import Derived.Test.YtakkdpnaoahpcaaSetsOrdC
import Derived.Test.YtakkdpnaoahpcaaLaw06
namespace Go.Proofs.Ytakkdpnaoahpcaa
open Go.RowKit Go.Shelf
attribute [local go_sem] Oper.semAt_some
set_option maxRecDepth 100000
set_option linter.unusedVariables false

theorem alive06_box (w : World) : Calls Try.prog 8 #[] (w.alloc (.cells #[.bool false] 4)) fun e W1 => e = .returned (.bool true) ∧ Boxed W1 w.heap.size 4 (.bool false) ∧ Below w.heap.size w W1 :=
  (alive06 _).mono fun e W1 h => ⟨h.1, boxed_keep (Boxed.new w 4 (.bool false)) h.2, (bel_al (Below.refl w.heap.size w) _).andThen h.2⟩
theorem setsOf_at (l0 : List Int) (A0 : Option Addr) (n0 c0 : Nat) (w : World) (h0 : n0 ≤ 1048576) (e0 : l0.length = n0) (s0 : Sl w 1 A0 n0 (l0.map (Value.int .i64))) (W : World) (hb : Below w.heap.size w W) :
    Calls Try.prog 9 #[.slice A0 n0 c0] W fun e w' => ∃ v, e = .returned v ∧ w'.ownsRow W.heap.size 3 1 v (setL l0).length ((setL l0).map (Value.int .i64)) ∧ Below W.heap.size W w' :=
  Of_any l0 A0 n0 c0 W e0 h0 (s0.keep hb) (fun h => sl_lt (s0.keep hb) h)

theorem SetsOrder_walk (A0 : Option Addr) (n0 c0 : Nat) (l0 : List Int) (k : Nat) (A2 : Option Addr) (n2 c2 : Nat) (l2 : List Int) (A3 : Option Addr) (n3 c3 : Nat) (l3 : List Int) (A4 : Option Addr) (n4 c4 : Nat) (l4 : List Int) (w : World)
    (hk : k ≤ 255) (h0 : n0 ≤ 1048576) (e0 : l0.length = n0) (s0 : Sl w 1 A0 n0 (l0.map (Value.int .i64))) (h9 : (setL l0).length ≤ 9) (h2 : n2 ≤ 30) (e2 : l2.length = n2) (s2 : Sl w 1 A2 n2 (l2.map (Value.int .i64)))
    (h3 : n3 ≤ 30) (e3 : l3.length = n3) (s3 : Sl w 1 A3 n3 (l3.map (Value.int .i64))) (h4 : n4 ≤ 30) (e4 : l4.length = n4) (s4 : Sl w 1 A4 n4 (l4.map (Value.int .i64))) :
    Calls Try.prog 5 #[.slice A0 n0 c0, .int .u8 (k : Int), .slice A2 n2 c2, .slice A3 n3 c3, .slice A4 n4 c4] w fun e w' => e = .returned (.bool true) ∧ Below w.heap.size w w' := by
  have hnn : k % 9 < 9 := Nat.mod_lt _ (by omega)
  have hkm : ((k : Int) % 9) = ((k % 9 : Nat) : Int) := by omega
  have hkt : Int.tmod (k : Int) 9 = ((k % 9 : Nat) : Int) := by rw [Int.tmod_eq_emod_of_nonneg (by omega)]; exact hkm
  have HEq : decide (l2 = l3) = (cmpL l2 l3 == 0) := by
    by_cases h : l2 = l3
    · rw [decide_eq_true h, cmpL_zero.2 h]; rfl
    · rw [decide_eq_false h]
      exact (beq_eq_false_iff_ne.2 fun e => h (cmpL_zero.1 e)).symm
  have htr : cmpL l2 l3 ≤ 0 → cmpL l3 l4 ≤ 0 → cmpL l2 l4 ≤ 0 := cmpL_trans
  by_cases hc1 : cmpL l2 l3 ≤ 0
  · by_cases hc2 : cmpL l3 l4 ≤ 0
    · exact SetsOrder_c (k % 9) (setL l0) _ _ _ hc1 hc2 (by have := htr hc1 hc2; omega) l0 A0 n0 c0 k A2 n2 c2 l2 A3 n3 c3 l3 A4 n4 c4 l4 w hk hnn hkm hkt h9 h2 h3 h4 (Lib.hid (setL_inc l0)) (Lib.hid (alive06_box w)) (Lib.hid (setsOf_at l0 A0 n0 c0 w h0 e0 s0)) (Lib.hid s2) (Lib.hid s3) (Lib.hid s4) (Lib.hid e2) (Lib.hid e3) (Lib.hid e4) (Lib.hid rfl) (Lib.hid rfl) (Lib.hid rfl) (Lib.hid HEq)
    · exact SetsOrder_b (k % 9) (setL l0) _ _ _ hc1 hc2 l0 A0 n0 c0 k A2 n2 c2 l2 A3 n3 c3 l3 A4 n4 c4 l4 w hk hnn hkm hkt h9 h2 h3 h4 (Lib.hid (setL_inc l0)) (Lib.hid (alive06_box w)) (Lib.hid (setsOf_at l0 A0 n0 c0 w h0 e0 s0)) (Lib.hid s2) (Lib.hid s3) (Lib.hid s4) (Lib.hid e2) (Lib.hid e3) (Lib.hid e4) (Lib.hid rfl) (Lib.hid rfl) (Lib.hid rfl) (Lib.hid HEq)
  · exact SetsOrder_a (k % 9) (setL l0) _ _ _ hc1 l0 A0 n0 c0 k A2 n2 c2 l2 A3 n3 c3 l3 A4 n4 c4 l4 w hk hnn hkm hkt h9 h2 h3 h4 (Lib.hid (setL_inc l0)) (Lib.hid (alive06_box w)) (Lib.hid (setsOf_at l0 A0 n0 c0 w h0 e0 s0)) (Lib.hid s2) (Lib.hid s3) (Lib.hid s4) (Lib.hid e2) (Lib.hid e3) (Lib.hid e4) (Lib.hid rfl) (Lib.hid rfl) (Lib.hid rfl) (Lib.hid HEq)

set_option maxHeartbeats 8000000 in
theorem SetsOrder_big (A0 : Option Addr) (n0 c0 : Nat) (X : List Int) (k : Nat) (A2 : Option Addr) (n2 c2 : Nat) (A3 : Option Addr) (n3 c3 : Nat) (A4 : Option Addr) (n4 c4 : Nat) (w : World)
    (HOf : Hid (∀ W, Below w.heap.size w W → Calls Try.prog 9 #[.slice A0 n0 c0] W fun e w' => ∃ v, e = .returned v ∧ w'.ownsRow W.heap.size 3 1 v X.length (X.map (Value.int .i64)) ∧ Below W.heap.size W w'))
    (hbig : 9 < X.length ∨ 30 < n2 ∨ 30 < n3 ∨ 30 < n4) :
    Calls Try.prog 5 #[.slice A0 n0 c0, .int .u8 (k : Int), .slice A2 n2 c2, .slice A3 n3 c3, .slice A4 n4 c4] w fun e w' => e = .returned (.bool true) ∧ Below w.heap.size w w' := by
  have HA := Lib.hid (alive06_box w)
  have hb : (9 : Int) < (X.length : Int) ∨ (¬ (9 : Int) < (X.length : Int) ∧ (30 : Int) < (n2 : Int)) ∨ (¬ (9 : Int) < (X.length : Int) ∧ ¬ (30 : Int) < (n2 : Int) ∧ (30 : Int) < (n3 : Int)) ∨ (¬ (9 : Int) < (X.length : Int) ∧ ¬ (30 : Int) < (n2 : Int) ∧ ¬ (30 : Int) < (n3 : Int) ∧ (30 : Int) < (n4 : Int)) := by omega
  clear hbig
  refine (callsIn_wide (n := 5)).1 ?_
  refine callsIn_of_wp_marks Try.func5 rfl trivial ?_ rfl
  simp only [Try.ntmps5, List.size_toArray, List.length_cons, List.length_nil, Nat.reduceAdd, Nat.reduceSub, Array.replicate_succ, Array.replicate_zero, List.push_toArray, List.append_toArray, List.nil_append, List.cons_append]
  rcases hb with h9 | ⟨h9, h2⟩ | ⟨h9, h2, h3⟩ | ⟨h9, h2, h3, h4⟩
  all_goals (
    gi_wp2_with (first
      | ((try refine ⟨trivial, ?_⟩); (try refine ⟨fun h => (by cases h), ?_⟩); gi_at_call 8; refine (callsIn_wide.2 HA.out).mono ?_; clear HA; rintro e W1 ⟨rfl, h1, hb⟩; have H1 := Lib.hid h1; have HB := Lib.hid hb; clear h1 hb; have T1 := Lib.hid True.intro)
      | (clear T1; (try refine ⟨trivial, ?_⟩); (try refine ⟨fun h => (by cases h), ?_⟩); gi_at_call 9; refine (callsIn_wide.2 (HOf.out W1 HB.out)).mono ?_; clear HOf; rintro e W2 ⟨v, rfl, hown, hb2⟩; obtain ⟨CS, kS, rfl, hs⟩ := Sl.own hown; have HBV := Lib.hid (show Below w.heap.size w (W2.alloc (.cells #[.slice CS X.length kS] 22)) from bel_al (HB.out.andThen hb2) _); have h11 := Boxed.new W2 22 (.slice CS X.length kS); have c11 := h11.cell; have h1V := (boxed_keep H1.out hb2).alloc (.cells #[.slice CS X.length kS] 22); have c1V := h1V.cell; have f1V := h1V.frozen; have H1V := Lib.hid h1V; clear hown hb2 hs h11 h1V; have T2 := Lib.hid True.intro)
      | fail)
    have hE := (H1V.out.set (.bool true)).cell
    refine marks_end rfl (v := .bool true) (by simp [results, Try.results5, go_sem, hE]) ⟨rfl, HBV.out.setCell (p := ⟨w.heap.size, 0, none⟩) (Nat.le_refl _) _⟩)

theorem SetsOrder_main (A0 : Option Addr) (n0 c0 : Nat) (l0 : List Int) (a1 : Int) (A2 : Option Addr) (n2 c2 : Nat) (l2 : List Int) (A3 : Option Addr) (n3 c3 : Nat) (l3 : List Int) (A4 : Option Addr) (n4 c4 : Nat) (l4 : List Int) (w : World)
    (m0 : n0 ≤ 1048576) (e0 : l0.length = n0) (s0 : Sl w 1 A0 n0 (l0.map (Value.int .i64))) (w0 : ∀ x ∈ l0, (Lit.int .i64 x).wf = true) (w1 : (Lit.int .u8 a1).wf = true)
    (m2 : n2 ≤ 1048576) (e2 : l2.length = n2) (s2 : Sl w 1 A2 n2 (l2.map (Value.int .i64))) (w2 : ∀ x ∈ l2, (Lit.int .i64 x).wf = true)
    (m3 : n3 ≤ 1048576) (e3 : l3.length = n3) (s3 : Sl w 1 A3 n3 (l3.map (Value.int .i64))) (w3 : ∀ x ∈ l3, (Lit.int .i64 x).wf = true)
    (m4 : n4 ≤ 1048576) (e4 : l4.length = n4) (s4 : Sl w 1 A4 n4 (l4.map (Value.int .i64))) (w4 : ∀ x ∈ l4, (Lit.int .i64 x).wf = true) :
    Calls Try.prog 5 #[.slice A0 n0 c0, .int .u8 a1, .slice A2 n2 c2, .slice A3 n3 c3, .slice A4 n4 c4] w fun e w' => e = .returned (.bool true) ∧ Below w.heap.size w w' := by
  obtain ⟨k, hk, rfl⟩ : ∃ k : Nat, k ≤ 255 ∧ a1 = (k : Int) := by
    have h := wf_u8 w1
    exact ⟨a1.toNat, by omega, by omega⟩
  by_cases hs : (setL l0).length ≤ 9 ∧ n2 ≤ 30 ∧ n3 ≤ 30 ∧ n4 ≤ 30
  · exact SetsOrder_walk A0 n0 c0 l0 k A2 n2 c2 l2 A3 n3 c3 l3 A4 n4 c4 l4 w hk m0 e0 s0 hs.1 hs.2.1 e2 s2 hs.2.2.1 e3 s3 hs.2.2.2 e4 s4
  · exact SetsOrder_big A0 n0 c0 (setL l0) k A2 n2 c2 A3 n3 c3 A4 n4 c4 w (Lib.hid (setsOf_at l0 A0 n0 c0 w m0 e0 s0)) (by omega)
end Go.Proofs.Ytakkdpnaoahpcaa
