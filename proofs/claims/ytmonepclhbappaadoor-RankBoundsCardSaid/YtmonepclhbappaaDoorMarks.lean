/-
  Laws with ranges over functions: their ends, walked plainly.
-/
import Derived.RangeFuncLeaves
import Derived.RangeFuncKeeps
import Derived.Test.YtmonepclhbappaaDoorRangeQ
import Derived.Test.YtmonepclhbappaaDoorWords
namespace Go.Proofs.YtmonepclhbappaaDoor
open Go.RowKit
set_option linter.unusedVariables false
section
variable {F : Fence} {n : Nat} {P : Program} {fn : Func} {R : Ending → World → Prop} {a : Act} {w : World} {v : Value}
theorem mks0 (hd : a.defers = []) (hr : (results fn a.tmps).run P w = .ok v w) (hR : R (.returned v) w) : bodyPostM F n P fn R .ret a w := by
  show LeavesInM F n P fn a.tmps R a.defers .returning w
  rw [hd]
  exact ⟨v, hr, hR⟩
theorem mks1 {D : Nat} (hd : a.defers = [{ target := .collected D, args := #[] }]) (hK : w.heap[D]? = some (.deferred (some [])))
    (hr : (results fn a.tmps).run P (w.putObj D (.deferred none)) = .ok v (w.putObj D (.deferred none))) (hR : R (.returned v) (w.putObj D (.deferred none))) : bodyPostM F n P fn R .ret a w := by
  show LeavesInM F n P fn a.tmps R a.defers .returning w
  rw [hd]
  exact ⟨by simp, .inl ⟨_, _, rfl, run_takeDeferred hK, v, hr, hR⟩⟩
theorem mks2 {D E : Nat} (hd : a.defers = [{ target := .collected E, args := #[] }, { target := .collected D, args := #[] }]) (hE : w.heap[E]? = some (.deferred (some []))) (hD : (w.putObj E (.deferred none)).heap[D]? = some (.deferred (some [])))
    (hr : (results fn a.tmps).run P ((w.putObj E (.deferred none)).putObj D (.deferred none)) = .ok v ((w.putObj E (.deferred none)).putObj D (.deferred none))) (hR : R (.returned v) ((w.putObj E (.deferred none)).putObj D (.deferred none))) : bodyPostM F n P fn R .ret a w := by
  show LeavesInM F n P fn a.tmps R a.defers .returning w
  rw [hd]
  exact ⟨by simp, .inl ⟨_, _, rfl, run_takeDeferred hE, by simp, .inl ⟨_, _, rfl, run_takeDeferred hD, v, hr, hR⟩⟩⟩
end
/-- The marks' blocks are shut, one after the other. -/
def shutM (Ds : List Nat) (w : World) : World := Ds.foldl (fun w D => w.putObj D (.deferred none)) w
theorem leavesM {F : Fence} {n : Nat} {P : Program} {fn : Func} {tmps : Array Value} {R : Ending → World → Prop} {v : Value} : ∀ (Ds : List Nat) (w : World), (∀ D ∈ Ds, w.heap[D]? = some (.deferred (some []))) → Ds.Nodup →
    (results fn tmps).run P (shutM Ds w) = .ok v (shutM Ds w) → R (.returned v) (shutM Ds w) → LeavesInM F n P fn tmps R (Ds.map fun D => { target := .collected D, args := #[] }) .returning w
  | [], w, _, _, hr, hR => ⟨v, hr, hR⟩
  | D :: Ds, w, hK, hn, hr, hR => by
    have hn' := List.nodup_cons.1 hn
    refine ⟨by simp, .inl ⟨_, _, rfl, run_takeDeferred (hK D (List.mem_cons_self ..)), ?_⟩⟩
    refine leavesM Ds (w.putObj D (.deferred none)) (fun D' hD' => ?_) hn'.2 hr hR
    exact (World.putObj_heap_other (fun e => hn'.1 (by rw [← e]; exact hD'))).trans (hK D' (List.mem_cons_of_mem _ hD'))
theorem shutM_blk {B : Nat} {t : TypeId} {u : Array Value} : ∀ (Ds : List Nat) (w : World), (∀ D ∈ Ds, w.heap[D]? = some (.deferred (some []))) → Ds.Nodup → Blk w B t u → Blk (shutM Ds w) B t u
  | [], _, _, _, h => h
  | D :: Ds, w, hK, hn, h => by
    have hn' := List.nodup_cons.1 hn
    refine shutM_blk Ds (w.putObj D (.deferred none)) (fun D' hD' => (World.putObj_heap_other (fun e => hn'.1 (by rw [← e]; exact hD'))).trans (hK D' (List.mem_cons_of_mem _ hD'))) hn'.2 (h.grown (grownBy_putObj' _ _ _) (fun e => ?_))
    cases e
    have h2 := hK B (List.mem_cons_self ..)
    rw [show w.heap[B]? = _ from h] at h2
    cases h2
theorem shutM_below {w0 : World} : ∀ (Ds : List Nat) (w : World), (∀ D ∈ Ds, w.heap[D]? = some (.deferred (some []))) → Ds.Nodup → (∀ D ∈ Ds, w0.heap.size ≤ D) → Below w0.heap.size w0 w → Below w0.heap.size w0 (shutM Ds w)
  | [], _, _, _, _, h => h
  | D :: Ds, w, hK, hn, hD, h => by
    have hn' := List.nodup_cons.1 hn
    exact shutM_below Ds (w.putObj D (.deferred none)) (fun D' hD' => (World.putObj_heap_other (fun e => hn'.1 (by rw [← e]; exact hD'))).trans (hK D' (List.mem_cons_of_mem _ hD'))) hn'.2 (fun D' h' => hD D' (List.mem_cons_of_mem _ h')) (h.trans (belowK_b (w := w0) (Nat.le_refl _) w D _ _ (hD D (List.mem_cons_self ..)) (hK D (List.mem_cons_self ..)) rfl rfl))
/-- A law's end behind ranges over functions: the result's block holds true, the marks' blocks are shut. -/
theorem law_end {k : Nat} {P : Program} {fn : Func} {a : Act} {w W : World} (Ds : List Nat) {t : TypeId} {v0 : Value} (hres : ∀ V : World, V.cell? ⟨w.heap.size, 0, none⟩ = some (.bool true) → (results fn a.tmps).run P V = .ok (.bool true) V) (hd : a.defers = Ds.map fun D => { target := .collected D, args := #[] }) (hK : ∀ D ∈ Ds, W.heap[D]? = some (.deferred (some []))) (hn : Ds.Nodup)
    (hr : Blk W w.heap.size t #[v0]) (hb : Below w.heap.size w W) (hD : ∀ D ∈ Ds, w.heap.size ≤ D) :
    bodyPostM Fence.wide k P fn (fun e w' => e = .returned (.bool true) ∧ Below w.heap.size w w') .ret a (W.setCell ⟨w.heap.size, 0, none⟩ (.bool true)) := by
  show LeavesInM _ _ _ _ _ _ a.defers .returning _
  rw [hd]
  have hK2 : ∀ D ∈ Ds, (W.setCell ⟨w.heap.size, 0, none⟩ (.bool true)).heap[D]? = some (.deferred (some [])) := fun D h => (KeepsOthers.setCell _ _ _).same D _ (hK D h) rfl
  have hE := (shutM_blk Ds _ hK2 hn (hr.set_ 0 (.bool true))).cell 0
  simp at hE
  exact leavesM Ds _ hK2 hn (v := .bool true) (hres _ hE) ⟨rfl, shutM_below Ds _ hK2 hn hD (hb.setCell (p := ⟨w.heap.size, 0, none⟩) (Nat.le_refl _) _)⟩
/-- A part of the code that ends in its normal way alone. -/
theorem wp_thenF {P : Program} {c : Code} {K : Act → World → Prop} {Q : Exit → Act → World → Prop} {a : Act} {w : World} (h : c.wp P (Exit.then K fun _ _ _ => False) a w) : c.wp P (Exit.then K Q) a w :=
  wp_mono h (by intro e a w h; cases e <;> first | exact h | exact h.elim)
end Go.Proofs.YtmonepclhbappaaDoor
