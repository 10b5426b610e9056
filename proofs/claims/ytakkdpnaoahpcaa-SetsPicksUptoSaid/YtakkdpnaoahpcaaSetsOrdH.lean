/-
  SetsOrder: the law's walk.
-/
import Derived.Stop.RegionWithIn
import Derived.Test.YtakkdpnaoahpcaaSetsO
namespace Go.Proofs.Ytakkdpnaoahpcaa
open Go.RowKit Go.Shelf
attribute [local go_sem] Oper.semAt_some
set_option maxRecDepth 100000
set_option linter.unusedVariables false

/-- The marks' blocks are shut, one after the other. -/
def shut (Ds : List Nat) (w : World) : World := Ds.foldl (fun w D => w.putObj D (.deferred none)) w
theorem leaves_all {F : Fence} {n : Nat} {P : Program} {fn : Func} {tmps : Array Value} {R : Ending → World → Prop} {v : Value} : ∀ (Ds : List Nat) (w : World), (∀ D ∈ Ds, w.heap[D]? = some (.deferred (some []))) → Ds.Nodup →
    (results fn tmps).run P (shut Ds w) = .ok v (shut Ds w) → R (.returned v) (shut Ds w) → LeavesInM F n P fn tmps R (Ds.map fun D => { target := .collected D, args := #[] }) .returning w
  | [], w, _, _, hr, hR => ⟨v, hr, hR⟩
  | D :: Ds, w, hK, hn, hr, hR => by
    have hn' := List.nodup_cons.1 hn
    refine ⟨by simp, .inl ⟨_, _, rfl, run_takeDeferred (hK D (List.mem_cons_self ..)), ?_⟩⟩
    refine leaves_all Ds (w.putObj D (.deferred none)) (fun D' hD' => ?_) hn'.2 hr hR
    exact (World.putObj_heap_other (fun e => hn'.1 (by rw [← e]; exact hD'))).trans (hK D' (List.mem_cons_of_mem _ hD'))
theorem shut_boxed {B : Nat} {t : TypeId} {u : Value} : ∀ (Ds : List Nat) (w : World), (∀ D ∈ Ds, w.heap[D]? = some (.deferred (some []))) → Ds.Nodup → Boxed w B t u → Boxed (shut Ds w) B t u
  | [], _, _, _, h => h
  | D :: Ds, w, hK, hn, h => by
    have hn' := List.nodup_cons.1 hn
    refine shut_boxed Ds (w.putObj D (.deferred none)) (fun D' hD' => (World.putObj_heap_other (fun e => hn'.1 (by rw [← e]; exact hD'))).trans (hK D' (List.mem_cons_of_mem _ hD'))) hn'.2 (h.kept (grownBy_putObj' _ _ _) (fun e => ?_))
    cases e
    have h2 := hK B (List.mem_cons_self ..)
    rw [show w.heap[B]? = _ from h] at h2
    cases h2
theorem shut_below {w0 : World} : ∀ (Ds : List Nat) (w : World), (∀ D ∈ Ds, w.heap[D]? = some (.deferred (some []))) → Ds.Nodup → (∀ D ∈ Ds, w0.heap.size ≤ D) → Below w0.heap.size w0 w → Below w0.heap.size w0 (shut Ds w)
  | [], _, _, _, _, h => h
  | D :: Ds, w, hK, hn, hD, h => by
    have hn' := List.nodup_cons.1 hn
    exact shut_below Ds (w.putObj D (.deferred none)) (fun D' hD' => (World.putObj_heap_other (fun e => hn'.1 (by rw [← e]; exact hD'))).trans (hK D' (List.mem_cons_of_mem _ hD'))) hn'.2 (fun D' h' => hD D' (List.mem_cons_of_mem _ h')) (h.trans (belowK_b (w := w0) (Nat.le_refl _) w D _ _ (hD D (List.mem_cons_self ..)) (hK D (List.mem_cons_self ..)) rfl rfl))
theorem order_end {k : Nat} {a : Act} {w W : World} {Ds : List Nat} {v0 : Value} (hd : a.defers = Ds.map fun D => { target := .collected D, args := #[] }) (hp : a.tmps.getD 10 undef = .pointer (some ⟨w.heap.size, 0, none⟩)) (hK : ∀ D ∈ Ds, W.heap[D]? = some (.deferred (some []))) (hn : Ds.Nodup)
    (hr : Boxed W w.heap.size 4 v0) (hb : Below w.heap.size w W) (hD : ∀ D ∈ Ds, w.heap.size ≤ D) :
    bodyPostM Fence.wide k Try.prog Try.f5 (fun e w' => e = .returned (.bool true) ∧ Below w.heap.size w w') .ret a (W.setCell ⟨w.heap.size, 0, none⟩ (.bool true)) := by
  show LeavesInM _ _ _ _ _ _ a.defers .returning _
  rw [hd]
  have hK2 : ∀ D ∈ Ds, (W.setCell ⟨w.heap.size, 0, none⟩ (.bool true)).heap[D]? = some (.deferred (some [])) := fun D h => (KeepsOthers.setCell _ _ _).same D _ (hK D h) rfl
  have hE := (shut_boxed Ds _ hK2 hn (hr.set (.bool true))).cell
  have hp' : a.tmps[10]?.getD undef = .pointer (some ⟨w.heap.size, 0, none⟩) := by rw [← Array.getD_eq_getD_getElem?]; exact hp
  refine leaves_all Ds _ hK2 hn (v := .bool true) ?_ ⟨rfl, shut_below Ds _ hK2 hn hD (hb.setCell (p := ⟨w.heap.size, 0, none⟩) (Nat.le_refl _) _)⟩
  simp [results, Try.results5, go_sem, hE, hp']

/-- The row that came last, as the variable holds it. -/
def lastV (pre : List Row) : Value := match pre.getLast? with | some x => rv x | none => .slice none 0 0
def LastOK (n₁ : Nat) (G : List (List Int)) (pre : List Row) (W : World) : Prop := ∀ x, pre.getLast? = some x → Kn n₁ G (pre.take (pre.length - 1)) x W
theorem lastOK_own (n₁ : Nat) (G : List (List Int)) : Own (LastOK n₁ G) := fun s A B row hs hg hr x hx => by
  have h := hs x hx
  refine ⟨h.1.kept hg ?_, h.2⟩
  rcases h.1.2 with ⟨e, _⟩ | ⟨g, cap, cur, hv, _, hgb, _⟩
  · exact .inl (by rw [e]; rfl)
  · refine .inr fun e' => ?_
    rw [hv] at e'
    obtain ⟨o, ho, hc⟩ := hr g (by simpa [Value.ownBlock] using e'.symm)
    rw [hgb] at ho; cases ho; cases hc
theorem own_far {w : World} {B b size n : Nat} {e : TypeId} {v : Value} {xs : List Value} (h : w.ownsRow B e size v n xs) (hb : b < B) (u : Value) : (w.setCell ⟨b, 0, none⟩ u).ownsRow B e size v n xs :=
  own_block h fun g hg => Below.heap_setCell _ _ _ _ (fun e => by have h1 := (h.lt g hg).1; have h2 : g = b := e; omega)

theorem nn_wrap (nn : Nat) (h : nn < 9) : wrap64 (1 + (nn : Int)) = (nn : Int) + 1 := by unfold wrap64; omega
theorem nn_wrap' (nn : Nat) (h : nn < 9) : IntKind.i64.wrap (1 + (nn : Int)) = (nn : Int) + 1 := by rw [IntKind.wrap_i64]; omega
theorem nn_wrap1 (nn : Nat) (h : nn < 9) : IntKind.i64.wrap (1 + (nn : Int) - 1) = (nn : Int) := by rw [IntKind.wrap_i64]; omega
theorem k_wrap (k : Nat) (h : k ≤ 255) : wrap64 (k : Int) = (k : Int) := by unfold wrap64; omega
/-- The way on alone: no panic, no jump. -/
def OnlyN (Q : Exit → Act → World → Prop) : Exit → Act → World → Prop
  | .normal, a, w => Q .normal a w
  | _, _, _ => False
theorem onlyN_normal {Q : Exit → Act → World → Prop} {a : Act} {w : World} (h : Q .normal a w) : OnlyN Q .normal a w := h
theorem wpIn_onlyN {F : Fence} {n : Nat} {P : Program} {c : Code} {Q : Exit → Act → World → Prop} {a : Act} {w : World} (h : c.wpIn F n P (OnlyN Q) a w) : c.wpIn F n P Q a w :=
  wpIn_mono h (by intro e a w h; cases e <;> first | exact h | exact h.elim)
theorem combos_many : ∀ (k : Nat) (S : List Int), (combos k S).length ≤ 2 ^ S.length
  | 0, S => by rw [combos_zero]; exact Nat.one_le_two_pow
  | k + 1, [] => by simp [combos]
  | k + 1, x :: S => by
    rw [combos, List.length_append, List.length_map, List.length_cons, Nat.pow_succ]
    have h1 := combos_many k S
    have h2 := combos_many (k + 1) S
    omega
theorem order_boxes (W : World) (N : Int) (sv : Value) (w6 : World) (h : (((((W.alloc (.cells #[.int .i64 N] 3)).alloc (.cells #[.int .i64 0] 3)).alloc (.cells #[.slice none 0 0] 22)).alloc (.cells #[sv] 22)).alloc (.cells #[.int .i64 N] 3)) = w6) :
    w6.heap.size = W.heap.size + 5 ∧ Boxed w6 W.heap.size 3 (.int .i64 N) ∧ Boxed w6 (W.heap.size + 1) 3 (.int .i64 0) ∧ Boxed w6 (W.heap.size + 2) 22 (.slice none 0 0) ∧ Boxed w6 (W.heap.size + 3) 22 sv ∧ Boxed w6 (W.heap.size + 4) 3 (.int .i64 N) ∧ Below W.heap.size W w6 := by
  have h1 := Boxed.new W 3 (.int .i64 N)
  have h2 := Boxed.new (W.alloc (.cells #[.int .i64 N] 3)) 3 (.int .i64 0)
  have h3 := Boxed.new ((W.alloc (.cells #[.int .i64 N] 3)).alloc (.cells #[.int .i64 0] 3)) 22 (.slice none 0 0)
  have h4 := Boxed.new (((W.alloc (.cells #[.int .i64 N] 3)).alloc (.cells #[.int .i64 0] 3)).alloc (.cells #[.slice none 0 0] 22)) 22 sv
  have h5 := Boxed.new ((((W.alloc (.cells #[.int .i64 N] 3)).alloc (.cells #[.int .i64 0] 3)).alloc (.cells #[.slice none 0 0] 22)).alloc (.cells #[sv] 22)) 3 (.int .i64 N)
  simp only [World.size_alloc] at h2 h3 h4 h5
  rw [← h]
  exact ⟨by simp, (((h1.alloc _).alloc _).alloc _).alloc _, ((h2.alloc _).alloc _).alloc _, (h3.alloc _).alloc _, h4.alloc _, h5, bel_al (bel_al (bel_al (bel_al (bel_al (Below.refl _ _) _) _) _) _) _⟩
theorem two_boxes (W : World) (N : Int) (sv : Value) (v6 : World) (h : (((W.alloc (.cells #[.int .i64 0] 3)).alloc (.cells #[sv] 22)).alloc (.cells #[.int .i64 N] 3)) = v6) :
    v6.heap.size = W.heap.size + 3 ∧ Boxed v6 W.heap.size 3 (.int .i64 0) ∧ Boxed v6 (W.heap.size + 1) 22 sv ∧ Boxed v6 (W.heap.size + 2) 3 (.int .i64 N) ∧ Below W.heap.size W v6 := by
  have h1 := Boxed.new W 3 (.int .i64 0)
  have h2 := Boxed.new (W.alloc (.cells #[.int .i64 0] 3)) 22 sv
  have h3 := Boxed.new ((W.alloc (.cells #[.int .i64 0] 3)).alloc (.cells #[sv] 22)) 3 (.int .i64 N)
  simp only [World.size_alloc] at h2 h3
  rw [← h]
  exact ⟨by simp, (h1.alloc _).alloc _, h2.alloc _, h3, bel_al (bel_al (bel_al (Below.refl _ _) _) _) _⟩
theorem four_boxes (W : World) (N : Int) (sv : Value) (v6 : World) (h : ((((W.alloc (.cells #[.int .i64 0] 3)).alloc (.cells #[.int .i64 0] 3)).alloc (.cells #[sv] 22)).alloc (.cells #[.int .i64 N] 3)).drew = v6) :
    v6.heap.size = W.heap.size + 4 ∧ Boxed v6 W.heap.size 3 (.int .i64 0) ∧ Boxed v6 (W.heap.size + 1) 3 (.int .i64 0) ∧ Boxed v6 (W.heap.size + 2) 22 sv ∧ Boxed v6 (W.heap.size + 3) 3 (.int .i64 N) ∧ Below W.heap.size W v6 := by
  have h1 := Boxed.new W 3 (.int .i64 0)
  have h2 := Boxed.new (W.alloc (.cells #[.int .i64 0] 3)) 3 (.int .i64 0)
  have h3 := Boxed.new ((W.alloc (.cells #[.int .i64 0] 3)).alloc (.cells #[.int .i64 0] 3)) 22 sv
  have h4 := Boxed.new (((W.alloc (.cells #[.int .i64 0] 3)).alloc (.cells #[.int .i64 0] 3)).alloc (.cells #[sv] 22)) 3 (.int .i64 N)
  simp only [World.size_alloc] at h2 h3 h4
  rw [← h]
  exact ⟨by show (World.alloc _ _).heap.size = _; simp, ((h1.alloc _).alloc _).alloc _, (h2.alloc _).alloc _, h3.alloc _, h4, bel_drewN (bel_al (bel_al (bel_al (bel_al (Below.refl _ _) _) _) _) _) 1⟩
theorem pair_boxes (W : World) (N : Int) (sv : Value) (v6 : World) (h : ((W.alloc (.cells #[sv] 22)).alloc (.cells #[.int .i64 N] 3)).drew = v6) :
    v6.heap.size = W.heap.size + 2 ∧ Boxed v6 W.heap.size 22 sv ∧ Boxed v6 (W.heap.size + 1) 3 (.int .i64 N) ∧ Below W.heap.size W v6 := by
  have h3 := Boxed.new W 22 sv
  have h4 := Boxed.new (W.alloc (.cells #[sv] 22)) 3 (.int .i64 N)
  simp only [World.size_alloc] at h4
  rw [← h]
  exact ⟨by show (World.alloc _ _).heap.size = _; simp, h3.alloc _, h4, bel_drewN (bel_al (bel_al (Below.refl _ _) _) _) 1⟩
theorem boxed_below {W W' : World} {B b : Nat} {t : TypeId} {v : Value} (h : Boxed W b t v) (hb : Below B W W') (hlt : b < B) : Boxed W' b t v := (hb.block b hlt).trans h
theorem mark_own {β : Type} (D B : Nat) (h : D < B) : OwnFrom B (fun (_ : β) W => W.heap[D]? = some (.deferred (some []))) := fun s W W' row hs hg hr =>
  (hg.block D (Array.getElem?_eq_some_iff.1 hs).1 (fun e => by have := (hr D e.symm).1; omega)).trans hs
theorem lastV_snoc (pre : List Row) (x : Row) : lastV (pre ++ [x]) = rv x := by unfold lastV; simp
theorem lastOK_snoc {n₁ : Nat} {G : List (List Int)} {pre : List Row} {x : Row} {W : World} (h : Kn n₁ G pre x W) : LastOK n₁ G (pre ++ [x]) W := by
  intro y hy
  rw [List.getLast?_append] at hy
  obtain rfl : x = y := by simpa using hy
  rw [List.length_append]
  simpa using h
/-- What a row that comes is: of so many, rising, within; behind the one ahead of it. -/
theorem order_row {X : List Int} {m : Nat} (hX : Inc X) {i : Nat} {p : List Int} (h : (choices X (m : Int))[i]? = some p) : Inc p ∧ (∀ y ∈ p, y ∈ X) ∧ p.length = m ∧ ∀ q j, i = j + 1 → (choices X (m : Int))[j]? = some q → cmpL q p = -1 := by
  rw [choices_any] at h ⊢
  have hm := List.mem_of_getElem? h
  refine ⟨combos_inc m X hX p hm, combos_mem m X p hm, combos_el m X p hm, fun q j hj hq => ?_⟩
  subst hj
  exact rise_at2 (combos_rise m X hX) hq h
/-- What the walk is to show. -/
def SetsOrder_goal (nn : Nat) (X : List Int) (z1 z2 z3 : Int) : Prop :=
  ∀ (l0 : List Int) (A0 : Option Addr) (n0 c0 k : Nat) (A2 : Option Addr) (n2 c2 : Nat) (l2 : List Int) (A3 : Option Addr) (n3 c3 : Nat) (l3 : List Int) (A4 : Option Addr) (n4 c4 : Nat) (l4 : List Int) (w : World),
    k ≤ 255 → nn < 9 → ((k : Int) % 9) = (nn : Int) → Int.tmod (k : Int) 9 = (nn : Int) → X.length ≤ 9 → n2 ≤ 30 → n3 ≤ 30 → n4 ≤ 30 → Hid (Inc X) →
    Hid (Calls Try.prog 8 #[] (w.alloc (.cells #[.bool false] 4)) fun e W1 => e = .returned (.bool true) ∧ Boxed W1 w.heap.size 4 (.bool false) ∧ Below w.heap.size w W1) →
    Hid (∀ W, Below w.heap.size w W → Calls Try.prog 9 #[.slice A0 n0 c0] W fun e w' => ∃ v, e = .returned v ∧ w'.ownsRow W.heap.size 3 1 v X.length (X.map (Value.int .i64)) ∧ Below W.heap.size W w') →
    Hid (Sl w 1 A2 n2 (l2.map (Value.int .i64))) → Hid (Sl w 1 A3 n3 (l3.map (Value.int .i64))) → Hid (Sl w 1 A4 n4 (l4.map (Value.int .i64))) → Hid (l2.length = n2) → Hid (l3.length = n3) → Hid (l4.length = n4) →
    Hid (z1 = cmpL l2 l3) → Hid (z2 = cmpL l3 l4) → Hid (z3 = cmpL l2 l4) → Hid (decide (l2 = l3) = (z1 == 0)) →
    Calls Try.prog 5 #[.slice A0 n0 c0, .int .u8 (k : Int), .slice A2 n2 c2, .slice A3 n3 c3, .slice A4 n4 c4] w fun e w' => e = .returned (.bool true) ∧ Below w.heap.size w w'

end Go.Proofs.Ytakkdpnaoahpcaa
