/-
  More words for memory: make, stores into an own row, what stays while another row changes.
-/
import Derived.Test.YtkhhjompondnnaaDoorWords
import Derived.Laws.MakeOwn
import Derived.Laws.OwnMore
namespace Go.Proofs.YtkhhjompondnnaaDoor
open Go.RowKit

theorem make_elem {P : Program} {t e : TypeId} {z : Value} {bytes : Nat} (E : Elem P t e z 1 bytes) (hz1 : z.cells = #[z]) (n : Nat) (hb : bytes * n ≤ 281474976710656) (hn : n ≤ 9223372036854775807) (W : World) :
    (Instr.makeSlice t (.int .i64 n) (.int .i64 n)).run P W = .ok (.slice (some ⟨W.heap.size, 0, none⟩) n n) (W.alloc (.cells (Array.replicate n z) e)) := by
  obtain ⟨i, hi, hz, hsize, hby⟩ := info_parts E.hi
  have hb' : (i.bytes : Int) * (n : Int) ≤ 281474976710656 := by
    rw [hby]
    have h : ((bytes * n : Nat) : Int) ≤ 281474976710656 := by omega
    rwa [Int.natCast_mul] at h
  have hr := run_make (P := P) W t e i z E.ht hi hz .i64 .i64 n n (by omega) (Int.le_refl _) hb' (by omega)
  simp only [Int.toNat_natCast] at hr
  rw [hr, hsize, hz1, Nat.mul_one]
  congr 4
  apply Array.ext'
  rw [toList_madeCells_one]
  simp

theorem own_replicate {B : Nat} {e : TypeId} (W : World) (n : Nat) (z : Value) (hB : B ≤ W.heap.size) (hn : n ≤ 9223372036854775807) :
    (W.alloc (.cells (Array.replicate n z) e)).ownsRow B e 1 (.slice (some ⟨W.heap.size, 0, none⟩) n n) n (List.replicate n z) := by
  have := World.ownsRow_lit (base := B) (size := 1) (e := e) W (Array.replicate n z) n hB (by unfold maxLen; omega) (by simp)
  simpa using this

theorem ownsRow_setCells_below {base : Nat} {e : TypeId} {size : Nat} {v : Value} {n : Nat} {xs : List Value} {b : Nat} (hb : b < base) : ∀ (vs : List Value) (o : Nat) {w : World}, w.ownsRow base e size v n xs → (w.setCells b o vs).ownsRow base e size v n xs
  | [], _, _, h => h
  | u :: r, o, _, h => ownsRow_setCells_below hb r (o + 1) (ownsRow_setCell_below h (a := ⟨b, o, none⟩) hb u)
theorem bel_setCells {B b : Nat} {w : World} (hb : B ≤ b) : ∀ (vs : List Value) (o : Nat) {w' : World}, Below B w w' → Below B w (w'.setCells b o vs)
  | [], _, _, h => h
  | u :: r, o, _, h => bel_setCells hb r (o + 1) (h.setCell (p := ⟨b, o, none⟩) hb u)
end Go.Proofs.YtkhhjompondnnaaDoor
