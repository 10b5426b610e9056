/-
  A slice of items that came in.
-/
import Derived.Test.YtclbbchljiagpaaDoorFrame
import Derived.Test.YtclbbchljiagpaaDoorWireH
namespace Go.Proofs.YtclbbchljiagpaaDoor
open Go.ChangeShapes Go.WideShapes Go.ChangeAt Go.RowKit
set_option maxRecDepth 100000
set_option linter.unusedVariables false
section
variable {H : Type} {enc : TypeId × Value → H} {w : World} {base : Nat} {spare : Nat → Bool} {held : Bool}

theorem item_fields : ∃ f0 f1 f2 f3 : Field, Tryd.prog.underlying 50 = some (.struct #[f0, f1, f2, f3]) ∧ (f0.offset = 0 ∧ f1.offset = 1 ∧ f2.offset = 2 ∧ f3.offset = 3) ∧ (f0.type = 3 ∧ f1.type = 2 ∧ f2.type = 9 ∧ f3.type = 48) :=
  ⟨_, _, _, _, Tryd.underlying50, ⟨rfl, rfl, rfl, rfl⟩, rfl, rfl, rfl, rfl⟩
theorem four_of {α : Type} : ∀ {l : List α}, l.length = 4 → ∃ a b c d, l = [a, b, c, d]
  | [a, b, c, d], _ => ⟨a, b, c, d, rfl⟩
  | [], h => by simp at h
  | [_], h => by simp at h
  | [_, _], h => by simp at h
  | [_, _, _], h => by simp at h
  | _ :: _ :: _ :: _ :: _ :: _, h => by simp at h
theorem item_of {fuel : Nat} {cs : List Value} {y : DataW H × List MemPlace} (hl : cs.length = 4) (h : DataW.trod enc Tryd.prog w base spare held fuel 50 cs = some y) :
    ∃ (x : Item) (LA : Option Addr) (lc : Nat), cs = [.int .i64 x.kind, .int .i64 x.n, .string x.s, .slice LA x.l.length lc] ∧ x.ok ∧ Sl w 1 LA x.l.length (x.l.map (Value.int .i64)) ∧ x.l.length ≤ lc ∧ lc ≤ 9223372036854775807 := by
  obtain ⟨f0, f1, f2, f3, hu, ⟨o0, o1, o2, o3⟩, t0, t1, t2, t3⟩ := item_fields
  obtain ⟨ys, m, _, _, _, hyl, hf⟩ := DataW.trod_struct hu h
  obtain ⟨a, b, c, d, rfl⟩ := four_of hl
  have c0 : Tryd.prog.cellsOf 3 = 1 := by kernel_rfl
  have c1 : Tryd.prog.cellsOf 2 = 1 := by kernel_rfl
  have c2 : Tryd.prog.cellsOf 9 = 1 := by kernel_rfl
  have c3 : Tryd.prog.cellsOf 48 = 1 := by kernel_rfl
  have h0 := hf 0 f0 rfl
  have h1 := hf 1 f1 rfl
  have h2 := hf 2 f2 rfl
  have h3 := hf 3 f3 rfl
  rw [o0, t0, c0] at h0
  rw [o1, t1, c1] at h1
  rw [o2, t2, c2] at h2
  rw [o3, t3, c3] at h3
  have hys : ys.length = 4 := hyl
  obtain ⟨y0, y1, y2, y3, rfl⟩ := four_of hys
  simp only [List.drop_zero, List.take_succ_cons, List.take_zero, List.drop_succ_cons] at h0 h1 h2 h3
  obtain ⟨z0, e0, _, w0⟩ := DataW.trod_int Tryd.underlying3 h0
  obtain ⟨z1, e1, _, w1⟩ := DataW.trod_int Tryd.underlying2 h1
  obtain ⟨s, e2, _, w2⟩ := DataW.trod_string Tryd.underlying9 h2
  injection e0 with e0 _
  injection e1 with e1 _
  injection e2 with e2 _
  subst e0 e1 e2
  have hd : ∃ A n c, d = Value.slice A n c ∧ n ≤ c ∧ c ≤ 9223372036854775807 := by
    rcases DataW.trod_slice Tryd.underlying48 h3 with ⟨h4, _⟩ | ⟨A, n, c, _, _, _, _, h4, _, h5, h6, _⟩
    · injection h4 with h4 _
      exact ⟨none, 0, 0, h4, Nat.le_refl _, by omega⟩
    · injection h4 with h4 _
      exact ⟨some A, n, c, h4, by first | exact h5 | exact h6 | omega, by first | exact h6 | exact h5 | (unfold maxLen at *; omega)⟩
  obtain ⟨LA, ln, lc, rfl, hlc, hlc2⟩ := hd
  obtain ⟨hm, zs, hz, hs, hw⟩ := open_sl_ints Tryd.underlying48 Tryd.underlying3 c0 h3
  subst hz
  refine ⟨⟨z0, z1, s, zs⟩, LA, lc, rfl, ⟨wf_i64 w0, wf_i64 w1, by simpa [maxLen] using w2, by simpa [maxLen] using hm, fun z hz => wf_i64 (hw z hz)⟩, hs, hlc, hlc2⟩

theorem flat_four {α : Type} : ∀ (css : List (List α)) (_ : ∀ cs ∈ css, cs.length = 4) (i : Nat) (cs : List α) (_ : css[i]? = some cs) (j : Nat) (u : α) (_ : cs[j]? = some u), css.flatten[i * 4 + j]? = some u
  | [], _, i, cs, hci, _, _, _ => by simp at hci
  | c0 :: css, hall, 0, cs, hci, j, u, hu => by
    simp only [List.getElem?_cons_zero, Option.some.injEq] at hci
    subst hci
    rw [List.flatten_cons, Nat.zero_mul, Nat.zero_add, List.getElem?_append_left (List.getElem?_eq_some_iff.1 hu).1]
    exact hu
  | c0 :: css, hall, i + 1, cs, hci, j, u, hu => by
    have hcs := hall c0 (List.mem_cons_self ..)
    rw [List.flatten_cons, List.getElem?_append_right (by rw [hcs]; omega), hcs, show (i + 1) * 4 + j - 4 = i * 4 + j by omega]
    exact flat_four css (fun x hx => hall x (List.mem_cons_of_mem _ hx)) i cs (by simpa using hci) j u hu

/-- A slice of items that came in. -/
theorem open_sl_items {fuel n c : Nat} {A : Option Addr} {x : DataW H × List MemPlace}
    (h : DataW.trod enc Tryd.prog w base spare held fuel 36 [.slice A n c] = some x) :
    n ≤ maxLen ∧ ∃ xs : List Item, xs.length = n ∧ Its w A n xs ∧ True := by
  obtain ⟨hm, css, hl, hsl, hc⟩ := open_sl (e := 50) (s := 4) (by kernel_rfl) (by omega) Tryd.underlying36 h
  obtain ⟨zs, hzs⟩ := exists_map (fun p : { p : Item × Option Addr × Nat // p.1.ok ∧ Sl w 1 p.2.1 p.1.l.length (p.1.l.map (Value.int .i64)) ∧ p.1.l.length ≤ p.2.2 ∧ p.2.2 ≤ 9223372036854775807 } => [Value.int .i64 p.1.1.kind, .int .i64 p.1.1.n, .string p.1.1.s, .slice p.1.2.1 p.1.1.l.length p.1.2.2]) css (fun cs hcs => by
    obtain ⟨hlen, f', y, hy⟩ := hc cs hcs
    obtain ⟨x, LA, lc, e, h1, h2⟩ := item_of hlen hy
    exact ⟨⟨(x, LA, lc), h1, h2⟩, e⟩)
  have hzl : zs.length = n := by rw [← hl, hzs, List.length_map]
  refine ⟨hm, zs.map (·.1.1), by simpa using hzl, ⟨by simpa using hzl, fun i x hx => ?_⟩, trivial⟩
  rw [List.getElem?_map] at hx
  obtain ⟨p, hp, rfl⟩ := Option.map_eq_some_iff.1 hx
  have hin : i < n := by rw [← hzl]; exact (List.getElem?_eq_some_iff.1 hp).1
  obtain ⟨b, off, hA, hcell⟩ := hsl.2 (by omega)
  obtain ⟨h1, h2, h3⟩ := p.2
  have hci : css[i]? = some [Value.int .i64 p.1.1.kind, .int .i64 p.1.1.n, .string p.1.1.s, .slice p.1.2.1 p.1.1.l.length p.1.2.2] := by rw [hzs, List.getElem?_map, hp]; rfl
  have hflat := fun j u hu => flat_four css (fun cs hcs => (hc cs hcs).1) i _ hci j u hu
  refine ⟨h1, b, off, p.1.2.1, p.1.2.2, hA, ?_, ?_, ?_, ?_, h2, h3⟩
  · have := hcell _ _ (hflat 0 _ rfl); rwa [Nat.add_zero] at this
  · have := hcell _ _ (hflat 1 _ rfl); rwa [← Nat.add_assoc] at this
  · have := hcell _ _ (hflat 2 _ rfl); rwa [← Nat.add_assoc] at this
  · have := hcell _ _ (hflat 3 _ rfl); rwa [← Nat.add_assoc] at this
end
end Go.Proofs.YtclbbchljiagpaaDoor
