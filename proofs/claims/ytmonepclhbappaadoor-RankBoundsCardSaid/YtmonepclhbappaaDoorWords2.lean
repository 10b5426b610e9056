/-
  More words for memory: make, stores into an own row, what stays while another row changes.
-/
import Derived.Test.YtmonepclhbappaaDoorWords
import Derived.Laws.MakeOwn
import Derived.Laws.OwnMore
namespace Go.Proofs.YtmonepclhbappaaDoor
open Go.RowKit

theorem make_elem {P : Program} {t e : TypeId} {z : Value} {bytes : Nat} (E : Elem P t e z 1 bytes) (hz1 : z.cells = #[z]) (n : Nat) (hb : bytes * n ≤ 281474976710656) (hn : n ≤ 9223372036854775807) (W : World) :
    (Instr.makeSlice t (.int .i64 n) (.int .i64 n)).run P W = .ok (.slice (some ⟨W.heap.size, 0, none⟩) n n) (W.alloc (.cells (Array.replicate n z) e)) := by
  obtain ⟨i, hi, hz, hsize, hby⟩ := info_parts E.hi
  have hb' : (i.bytes : Int) * (n : Int) ≤ 281474976710656 := by
    rw [hby]
    have h : ((bytes * n : Nat) : Int) ≤ 281474976710656 := by omega
    rwa [Int.natCast_mul] at h
  have hr := run_make (P := P) W t e i z E.ht hi hz .i64 .i64 n n (by omega) (Int.le_refl _) hb' (by omega)
  simp only [Int.toNat_natCast] at hr
  rw [hr, hsize, hz1, Nat.mul_one]
  congr 4
  apply Array.ext'
  rw [toList_madeCells_one]
  simp

theorem own_replicate {B : Nat} {e : TypeId} (W : World) (n : Nat) (z : Value) (hB : B ≤ W.heap.size) (hn : n ≤ 9223372036854775807) :
    (W.alloc (.cells (Array.replicate n z) e)).ownsRow B e 1 (.slice (some ⟨W.heap.size, 0, none⟩) n n) n (List.replicate n z) := by
  have := World.ownsRow_lit (base := B) (size := 1) (e := e) W (Array.replicate n z) n hB (by unfold maxLen; omega) (by simp)
  simpa using this

theorem ownsRow_setCells_below {base : Nat} {e : TypeId} {size : Nat} {v : Value} {n : Nat} {xs : List Value} {b : Nat} (hb : b < base) : ∀ (vs : List Value) (o : Nat) {w : World}, w.ownsRow base e size v n xs → (w.setCells b o vs).ownsRow base e size v n xs
  | [], _, _, h => h
  | u :: r, o, _, h => ownsRow_setCells_below hb r (o + 1) (ownsRow_setCell_below h (a := ⟨b, o, none⟩) hb u)
theorem bel_setCells {B b : Nat} {w : World} (hb : B ≤ b) : ∀ (vs : List Value) (o : Nat) {w' : World}, Below B w w' → Below B w (w'.setCells b o vs)
  | [], _, _, h => h
  | u :: r, o, _, h => bel_setCells hb r (o + 1) (h.setCell (p := ⟨b, o, none⟩) hb u)

theorem Sl.again {w : World} {b off n k : Nat} {xs : List Value} {u : Value} (h : Sl w 1 (some ⟨b, off, none⟩) n xs) (hk : k < n) (hu : xs[k]? = some u) : w.cell? ⟨b, off + k, none⟩ = some u := by
  obtain ⟨b', off', u', hA, h1, h2⟩ := h.one hk
  cases hA
  rw [hu] at h1
  cases h1
  exact h2

theorem Sl.take {w : World} {A : Option Addr} {n k : Nat} {xs : List Value} (h : Sl w 1 A n xs) (hk : k ≤ n) : Sl w 1 A k (xs.take k) := by
  have hl := h.1
  refine ⟨by rw [List.length_take]; omega, fun h0 => ?_⟩
  obtain ⟨b, off, hA, hc⟩ := h.2 (by omega)
  refine ⟨b, off, hA, fun j u hu => hc j u ?_⟩
  rw [List.getElem?_take] at hu
  split at hu
  · exact hu
  · cases hu
theorem Sl.drop {w : World} {b off n k : Nat} {xs : List Value} (h : Sl w 1 (some ⟨b, off, none⟩) n xs) (hk : k ≤ n) : Sl w 1 (some ⟨b, off + k, none⟩) (n - k) (xs.drop k) := by
  have hl := h.1
  refine ⟨by rw [List.length_drop]; omega, fun h0 => ?_⟩
  obtain ⟨b', off', hA, hc⟩ := h.2 (by omega)
  cases hA
  refine ⟨b, off + k, rfl, fun j u hu => ?_⟩
  rw [List.getElem?_drop] at hu
  have := hc (k + j) u hu
  rw [show off + k + j = off + (k + j) by omega]
  exact this

theorem own_cap {w : World} {B size n c : Nat} {e : TypeId} {A : Option Addr} {xs : List Value} (h : w.ownsRow B e size (.slice A n c) n xs) : n ≤ c ∧ c ≤ 9223372036854775807 := by
  rcases h.2 with ⟨h', h0⟩ | ⟨g, cap, cur, hv, _, _, h1, h2, _⟩
  · injection h' with _ _ h3
    omega
  · injection hv with _ _ h3
    subst h3
    exact ⟨h1, h2⟩
end Go.Proofs.YtmonepclhbappaaDoor
