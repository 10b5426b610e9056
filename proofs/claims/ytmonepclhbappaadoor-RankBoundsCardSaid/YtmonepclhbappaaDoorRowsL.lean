/-
  Rows of rows of ints: each inner list lies so.
-/
import Derived.Test.YtmonepclhbappaaDoorSame
import Derived.Test.YtmonepclhbappaaDoorWords3
namespace Go.Proofs.YtmonepclhbappaaDoor
open Go.RowKit
set_option maxRecDepth 100000
set_option linter.unusedVariables false

theorem elemIntsQ : Elem Tryd.prog 40 22 (.slice none 0 0) 1 24 := ⟨Tryd.underlying40, by kernel_rfl, rfl, by decide⟩
/-- A row's value; its list lies so. -/
def rv (t : Option Addr × Nat × List Int) : Value := .slice t.1 t.2.2.length t.2.1
def RowOK (w : World) (t : Option Addr × Nat × List Int) : Prop := Sl w 1 t.1 t.2.2.length (t.2.2.map (Value.int .i64)) ∧ t.2.2.length ≤ t.2.1 ∧ t.2.1 ≤ 9223372036854775807
theorem RowOK.keep {w w' : World} {t : Option Addr × Nat × List Int} (h : RowOK w t) (hb : Below w.heap.size w w') : RowOK w' t := ⟨h.1.keep hb, h.2⟩
theorem Sl.grownQ {w w' : World} {A : Option Addr} {n : Nat} {xs : List Value} {row : Option Nat} (h : Sl w 1 A n xs) (hg : w.grownBy w' row) (hA : ∀ x : Addr, A = some x → x.block < w.heap.size ∧ some x.block ≠ row) : Sl w' 1 A n xs := by
  refine ⟨h.1, fun hn => ?_⟩
  obtain ⟨b0, off, rfl, h2⟩ := h.2 hn
  refine ⟨b0, off, rfl, fun j v hj => ?_⟩
  exact (World.cell?_of_block (w := w) (a := ⟨b0, off + j, none⟩) (hg.block b0 (hA _ rfl).1 (hA _ rfl).2)).trans (h2 j v hj)
/-- The rows of a row of rows: each lies so, apart from the row itself. -/
def RowsOK (w : World) (nv : Value) (its : List (Option Addr × Nat × List Int)) : Prop := ∀ t ∈ its, RowOK w t ∧ ∀ x : Addr, t.1 = some x → x.block < w.heap.size ∧ some x.block ≠ nv.ownBlock
theorem RowsOK.keep {w w' : World} {nv : Value} {its : List (Option Addr × Nat × List Int)} (h : RowsOK w nv its) (hb : Below w.heap.size w w') : RowsOK w' nv its := fun t ht => ⟨(h t ht).1.keep hb, fun x hx => ⟨Nat.lt_of_lt_of_le ((h t ht).2 x hx).1 hb.size, ((h t ht).2 x hx).2⟩⟩
theorem RowsOK.grow {w w' : World} {nv nv' : Value} {its : List (Option Addr × Nat × List Int)} (h : RowsOK w nv its) (hg : Gr w w' nv nv') : RowsOK w' nv' its := fun t ht => by
  refine ⟨⟨(h t ht).1.1.grownQ hg.g (h t ht).2, (h t ht).1.2⟩, fun x hx => ?_⟩
  have h1 := (h t ht).2 x hx
  refine ⟨Nat.lt_of_lt_of_le h1.1 hg.size, fun e => ?_⟩
  rcases hg.at_ x.block e.symm with h3 | h3
  · exact h1.2 h3.symm
  · omega
theorem RowsOK.snoc {w : World} {nv : Value} {its : List (Option Addr × Nat × List Int)} {t : Option Addr × Nat × List Int} (h : RowsOK w nv its) (ht : RowOK w t ∧ ∀ x : Addr, t.1 = some x → x.block < w.heap.size ∧ some x.block ≠ nv.ownBlock) : RowsOK w nv (its ++ [t]) := fun u hu => by
  rcases List.mem_append.1 hu with hu | hu
  · exact h u hu
  · obtain rfl : u = t := by simpa using hu
    exact ht/-- Rows, each of which lies so. -/
def AllRows (w : World) (its : List (Option Addr × Nat × List Int)) : Prop := ∀ t ∈ its, RowOK w t
theorem AllRows.keep {w w' : World} {its : List (Option Addr × Nat × List Int)} (h : AllRows w its) (hb : Below w.heap.size w w') : AllRows w' its := fun t ht => (h t ht).keep hb
theorem its_row {its : List (Option Addr × Nat × List Int)} {k : Nat} (h : k < its.length) : ∃ D d l, its[k]? = some (D, d, l) ∧ (its.map (·.2.2))[k]? = some l :=
  ⟨its[k].1, its[k].2.1, its[k].2.2, by rw [List.getElem?_eq_getElem h], by rw [List.getElem?_map, List.getElem?_eq_getElem h]; rfl⟩
/-- A row of rows with one row more: a new one. -/
theorem rows_more {wr w5 w6 : World} {B j : Nat} {nv nv' : Value} {jts : List (Option Addr × Nat × List Int)} {g c : Nat} {l : List Int} {et : TypeId} (HO : wr.ownsRow B et 1 nv j (jts.map rv)) (HJ : RowsOK wr nv jts) (hb5 : Below wr.heap.size wr w5)
    (hit : RowOK w5 (some ⟨g, 0, none⟩, c, l)) (hg : wr.heap.size ≤ g) (hg5 : g < w5.heap.size) (hown6 : w6.ownsRow B et 1 nv' (j + 1) (jts.map rv ++ [rv (some ⟨g, 0, none⟩, c, l)])) (hgr : Gr w5 w6 nv nv') :
    w6.ownsRow B et 1 nv' (j + 1) ((jts ++ [((some ⟨g, 0, none⟩ : Option Addr), c, l)]).map rv) ∧ RowsOK w6 nv' (jts ++ [((some ⟨g, 0, none⟩ : Option Addr), c, l)]) := by
  refine ⟨by rw [List.map_append]; exact hown6, RowsOK.grow (RowsOK.snoc (HJ.keep hb5) ⟨hit, fun x hx => ?_⟩) hgr⟩
  cases hx
  refine ⟨hg5, fun (e : some g = nv.ownBlock) => ?_⟩
  have := (HO.lt g (Eq.symm e)).2
  omega
end Go.Proofs.YtmonepclhbappaaDoor
