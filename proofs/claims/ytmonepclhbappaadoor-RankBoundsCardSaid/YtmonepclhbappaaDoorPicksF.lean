/-
  sets.picks where one is still to be picked: by what it does where one less is.
-/
import Derived.Test.YtmonepclhbappaaDoorListS
import Derived.Test.YtmonepclhbappaaDoorPicksP
import Derived.Test.YtmonepclhbappaaDoorRangeQ
import Derived.Deep.RegionLaw
import Derived.Deep.Cut
namespace Go.Proofs.YtmonepclhbappaaDoor
open Go.RowKit
set_option maxRecDepth 100000
set_option linter.unusedVariables false

abbrev Row := Option Addr × Nat × List Int
/-- A round keeps the cells of the blocks that Q names, but for those of the row that it was handed. -/
def Kq (Q : Nat → Prop) (x : Row) (W W' : World) : Prop := W.heap.size ≤ W'.heap.size ∧ ∀ k o, Q k → (∀ a : Addr, x.1 = some a → a.block ≠ k) → W.heap[k]? = some o → o.isCells = true → W'.heap[k]? = some o
def Kept (Q : Nat → Prop) (W W' : World) : Prop := W.heap.size ≤ W'.heap.size ∧ ∀ k o, Q k → W.heap[k]? = some o → o.isCells = true → W'.heap[k]? = some o
theorem Kept.refl (Q : Nat → Prop) (W : World) : Kept Q W W := ⟨Nat.le_refl _, fun _ _ _ h _ => h⟩
theorem Kept.trans {Q : Nat → Prop} {A B C : World} (h : Kept Q A B) (k : Kept Q B C) : Kept Q A C := ⟨Nat.le_trans h.1 k.1, fun j o hj ho hc => k.2 j o hj (h.2 j o hj ho hc) hc⟩
theorem Kept.of_below {Q : Nat → Prop} {W W' : World} (h : Below W.heap.size W W') : Kept Q W W' := ⟨h.size, fun k o _ ho _ => (h.block k (Array.getElem?_eq_some_iff.1 ho).1).trans ho⟩
theorem Kept.then_round {Q : Nat → Prop} {x : Row} {A B C : World} (h : Below A.heap.size A B) (hx : ∀ a : Addr, x.1 = some a → A.heap.size ≤ a.block) (k : Kq Q x B C) : Kept Q A C :=
  ⟨Nat.le_trans h.size k.1, fun j o hj ho hc => k.2 j o hj (fun a ha e => by
    have h1 := hx a ha
    have h2 := (Array.getElem?_eq_some_iff.1 ho).1
    omega) ((h.block j (Array.getElem?_eq_some_iff.1 ho).1).trans ho) hc⟩
theorem Kq.trans {Q : Nat → Prop} {x : Row} {A B C : World} (h : Kq Q x A B) (k : Kq Q x B C) : Kq Q x A C := ⟨Nat.le_trans h.1 k.1, fun j o hj hx ho hc => k.2 j o hj hx (h.2 j o hj hx ho hc) hc⟩
theorem Kq.of_kept {Q : Nat → Prop} {x : Row} {W W' : World} (h : Kept Q W W') : Kq Q x W W' := ⟨h.1, fun k o hk _ ho hc => h.2 k o hk ho hc⟩
theorem Kept.putObj {Q : Nat → Prop} {W : World} {l : Nat} {o : Obj} (o' : Obj) (hl : W.heap[l]? = some o) (ho : o.isCells = false) : Kept Q W (W.putObj l o') :=
  ⟨(grownBy_putObj' W l o').size, fun k u _ hk hc => by
    by_cases e : k = l
    · subst e
      rw [hl] at hk
      cases hk
      rw [ho] at hc
      cases hc
    · exact (World.putObj_heap_other e).trans hk⟩
theorem Kept.cell {Q : Nat → Prop} {W W' : World} (h : Kept Q W W') {a : Addr} {u : Value} (hb : Q a.block) (hc : W.cell? a = some u) : W'.cell? a = some u := by
  have hc' := hc
  unfold World.cell? at hc'
  cases ho : W.heap[a.block]? with
  | none => simp [ho] at hc'
  | some o =>
    have hcell : o.isCells = true := by cases o <;> simp_all [Obj.isCells]
    exact (World.cell?_of_block ((h.2 _ _ hb ho hcell).trans ho.symm)).trans hc
theorem Kept.set {Q : Nat → Prop} {B : Nat} (W : World) (i : Nat) (v : Value) (h : ¬ Q B) : Kept Q W (W.setCell ⟨B, i, none⟩ v) :=
  ⟨(KeepsWalks.setCell W _ v).size, fun k o hk ho _ => (Below.heap_setCell _ _ _ _ (fun e => h (by have e' : k = B := e; rw [← e']; exact hk))).trans ho⟩
theorem Sl.newAt1 (w : World) (o : Obj) (cs : List Value) (e : TypeId) (n : Nat) (hn : cs.length = n) : Sl ((w.alloc o).alloc (.cells cs.toArray e)) 1 (some ⟨w.heap.size + 1, 0, none⟩) n cs := by
  have h := Sl.newAt (w.alloc o) cs e n hn
  rw [World.size_alloc] at h
  exact h
/-- A slice in a block that Q names. -/
def Sq (Q : Nat → Prop) (W : World) (A : Option Addr) (n : Nat) (xs : List Value) : Prop := Sl W 1 A n xs ∧ ∀ x : Addr, A = some x → Q x.block
theorem Sq.keep {Q : Nat → Prop} {W W' : World} {A : Option Addr} {n : Nat} {xs : List Value} (h : Sq Q W A n xs) (hk : Kept Q W W') : Sq Q W' A n xs :=
  ⟨⟨h.1.1, fun hn => by
    obtain ⟨b, off, rfl, h2⟩ := h.1.2 hn
    exact ⟨b, off, rfl, fun j v hj => hk.cell (a := ⟨b, off + j, none⟩) (show Q (⟨b, off, none⟩ : Addr).block from h.2 _ rfl) (h2 j v hj)⟩⟩, h.2⟩

/-- How picks ends: all have come, or a round has said 'no more'. -/
def PickRes (Q : Nat → Prop) (cnt : Nat) (J Jx : List Row → World → Prop) (pre : List Row) (W : World) (r : Bool) (W' : World) : Prop :=
  (r = true ∧ (∃ ys : List Row, ys.length = cnt ∧ J (pre ++ ys) W') ∧ Kept Q W W') ∨ (r = false ∧ ∃ ys : List Row, 0 < ys.length ∧ ys.length ≤ cnt ∧ Jx (pre ++ ys) W')
def PickEnd (Q : Nat → Prop) (cnt : Nat) (J Jx : List Row → World → Prop) (pre : List Row) (W : World) (e : Ending) (W' : World) : Prop := ∃ r, e = .returned (.bool r) ∧ PickRes Q cnt J Jx pre W r W'
end Go.Proofs.YtmonepclhbappaaDoor
