/-
  SetsPicks: words for the law's walk.
-/
import Derived.LoopIn
import Derived.LoopNIn
import Derived.Test.YtakkdpnaoahpcaaSetsOrdH
import Derived.Test.YtakkdpnaoahpcaaPicksD
import Derived.Test.YtakkdpnaoahpcaaCountS
import Derived.Test.YtakkdpnaoahpcaaLaw06
namespace Go.Proofs.Ytakkdpnaoahpcaa
open Go.RowKit Go.Shelf
attribute [local go_sem] Oper.semAt_some
set_option maxRecDepth 100000
set_option linter.unusedVariables false

theorem alive06_two (s : Nat) (w : World) : Calls Try.prog 8 #[] ((w.alloc (.cells #[.int .u8 (s : Int)] 5)).alloc (.cells #[.bool false] 4)) fun e W1 => e = .returned (.bool true) ∧ (Boxed W1 w.heap.size 5 (.int .u8 (s : Int)) ∧ Boxed W1 (w.heap.size + 1) 4 (.bool false)) ∧ Below w.heap.size w W1 :=
  (alive06 _).mono fun e W1 h => by
    have h1 := Boxed.new (w.alloc (.cells #[.int .u8 (s : Int)] 5)) 4 (.bool false)
    rw [World.size_alloc] at h1
    exact ⟨h.1, ⟨boxed_keep ((Boxed.new w 5 (.int .u8 (s : Int))).alloc _) h.2, boxed_keep h1 h.2⟩, (bel_al (bel_al (Below.refl w.heap.size w) _) _).andThen h.2⟩
theorem picks_boxes (W : World) (wv sv : Value) (k : Int) (v6 : World) (h : ((((W.alloc (.cells #[wv] 37)).alloc (.cells #[.int .i64 0] 3)).alloc (.cells #[sv] 22)).alloc (.cells #[.int .i64 k] 3)) = v6) :
    v6.heap.size = W.heap.size + 4 ∧ Boxed v6 W.heap.size 37 wv ∧ Boxed v6 (W.heap.size + 1) 3 (.int .i64 0) ∧ Boxed v6 (W.heap.size + 2) 22 sv ∧ Boxed v6 (W.heap.size + 3) 3 (.int .i64 k) ∧ Below W.heap.size W v6 := by
  have h1 := Boxed.new W 37 wv
  have h2 := Boxed.new (W.alloc (.cells #[wv] 37)) 3 (.int .i64 0)
  have h3 := Boxed.new ((W.alloc (.cells #[wv] 37)).alloc (.cells #[.int .i64 0] 3)) 22 sv
  have h4 := Boxed.new (((W.alloc (.cells #[wv] 37)).alloc (.cells #[.int .i64 0] 3)).alloc (.cells #[sv] 22)) 3 (.int .i64 k)
  simp only [World.size_alloc] at h2 h3 h4
  rw [← h]
  exact ⟨by simp, ((h1.alloc _).alloc _).alloc _, (h2.alloc _).alloc _, h3.alloc _, h4, bel_al (bel_al (bel_al (bel_al (Below.refl _ _) _) _) _) _⟩
theorem boxed_off {W : World} {B g i : Nat} {t : TypeId} {v : Value} (h : Boxed W B t v) (hne : B ≠ g) (u : Value) : Boxed (W.setCell ⟨g, i, none⟩ u) B t v :=
  (Below.heap_setCell _ _ _ _ (fun e => hne e)).trans h
theorem kq_own {Q : Nat → Prop} {g d i : Nat} {p : List Int} (W : World) (u : Value) : Kq Q (some ⟨g, 0, none⟩, d, p) W (W.setCell ⟨g, i, none⟩ u) :=
  ⟨(KeepsWalks.setCell W _ u).size, fun k o _ hx ho _ => (Below.heap_setCell _ _ _ _ (fun e => hx _ rfl (show g = k from e.symm))).trans ho⟩
theorem picks_end {k : Nat} {a : Act} {w W : World} {Ds : List Nat} {v0 : Value} (hd : a.defers = Ds.map fun D => { target := .collected D, args := #[] }) (hp : a.tmps.getD 6 undef = .pointer (some ⟨w.heap.size + 1, 0, none⟩)) (hK : ∀ D ∈ Ds, W.heap[D]? = some (.deferred (some []))) (hn : Ds.Nodup)
    (hr : Boxed W (w.heap.size + 1) 4 v0) (hb : Below w.heap.size w W) (hD : ∀ D ∈ Ds, w.heap.size ≤ D) :
    bodyPostM Fence.wide k Try.prog Try.f6 (fun e w' => e = .returned (.bool true) ∧ Below w.heap.size w w') .ret a (W.setCell ⟨w.heap.size + 1, 0, none⟩ (.bool true)) := by
  show LeavesInM _ _ _ _ _ _ a.defers .returning _
  rw [hd]
  have hK2 : ∀ D ∈ Ds, (W.setCell ⟨w.heap.size + 1, 0, none⟩ (.bool true)).heap[D]? = some (.deferred (some [])) := fun D h => (KeepsOthers.setCell _ _ _).same D _ (hK D h) rfl
  have hE := (shut_boxed Ds _ hK2 hn (hr.set (.bool true))).cell
  have hp' : a.tmps[6]?.getD undef = .pointer (some ⟨w.heap.size + 1, 0, none⟩) := by rw [← Array.getD_eq_getD_getElem?]; exact hp
  refine leaves_all Ds _ hK2 hn (v := .bool true) ?_ ⟨rfl, shut_below Ds _ hK2 hn hD (hb.setCell (p := ⟨w.heap.size + 1, 0, none⟩) (show w.heap.size ≤ w.heap.size + 1 by omega) _)⟩
  simp [results, Try.results6, go_sem, hE, hp']
theorem setsOf_at (l0 : List Int) (A0 : Option Addr) (n0 c0 : Nat) (w : World) (h0 : n0 ≤ 1048576) (e0 : l0.length = n0) (s0 : Sl w 1 A0 n0 (l0.map (Value.int .i64))) (W : World) (hb : Below w.heap.size w W) :
    Calls Try.prog 9 #[.slice A0 n0 c0] W fun e w' => ∃ v, e = .returned v ∧ w'.ownsRow W.heap.size 3 1 v (setL l0).length ((setL l0).map (Value.int .i64)) ∧ Below W.heap.size W w' :=
  Of_any l0 A0 n0 c0 W e0 h0 (s0.keep hb) (fun h => sl_lt (s0.keep hb) h)
/-- What Count answers is how many there are. -/
theorem count_many (X : List Int) (k : Int) : (if k < 0 then (-1 : Int) else ((ch X.length k.toNat : Nat) : Int)) = if k < 0 then (-1 : Int) else (((choices X k).length : Nat) : Int) := by
  by_cases h : k < 0
  · rw [if_pos h, if_pos h]
  · obtain ⟨j, rfl⟩ : ∃ j : Nat, k = (j : Int) := ⟨k.toNat, by omega⟩
    rw [if_neg h, if_neg h, choices_count, Int.toNat_natCast]
theorem choices_few (X : List Int) (k : Int) (h : X.length ≤ 9) : (choices X k).length ≤ 512 := by
  unfold choices
  by_cases h0 : 0 ≤ k ∧ k ≤ X.length
  · rw [if_pos h0]
    have h2 := combos_many k.toNat X
    have h3 : 2 ^ X.length ≤ 2 ^ 9 := Nat.pow_le_pow_right (by omega) h
    omega
  · rw [if_neg h0]
    exact Nat.zero_le _
end Go.Proofs.Ytakkdpnaoahpcaa
