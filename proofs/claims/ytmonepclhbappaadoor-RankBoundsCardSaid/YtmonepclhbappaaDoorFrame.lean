/-
  What a row's condition gives a walk: arguments that read as data, the listed variable; and the frame around a walk.
-/
import Derived.Test.YtmonepclhbappaaDoorCards
import Derived.Test.YtmonepclhbappaaDoorTie
import Derived.Test.YtmonepclhbappaaDoorErr
import Derived.ProofKit
import Derived.OpenShut
import Derived.ShutString
import Derived.ChangeOld
import Derived.Deep.DeepHandedRow
import Derived.Deep.Slices
import Derived.Deep.Strs
import Derived.LaidHandle
import Derived.SevenTiedAt
namespace Go.Proofs.YtmonepclhbappaaDoor
open Go.ChangeShapes Go.WideShapes Go.ChangeAt Go.RowKit

theorem fr_own : ownKnob Tryd.prog.godebug = none := by kernel_rfl
theorem fr_laidOut : laidOutB Tryd.prog = true := by kernel_rfl
theorem fr_et : Tryd.prog.globalNamed "errors.errorType" = some 0 := by kernel_rfl
theorem fr_rt : (Tryd.prog.cutTypes.find? (·.1 == "internal/reflectlite.rtype")).map (·.2) = some 195 := by kernel_rfl
theorem fr_oneRow : ((List.range 259).filter fun t => Tryd.prog.rowNamed t [101, 114, 114, 111, 114]) = [33] := by kernel_rfl
theorem fr_size : Tryd.prog.types.size = 259 := by kernel_rfl
def errLaid : List (String × DataW Unit) := [("errors.errorType", Rows.laid_errors_errorType)]

/-- What the condition gives a walk: the variable's one cell. -/
theorem errT_of_laid {W : World} (h : laidMetH Tryd.prog errLaid W) : ErrT W := by
  have h' : laidMet Tryd.prog [] W ∧ handlesMet Tryd.prog errLaid W := h
  obtain ⟨name, u, ty, e1, e2, e3, e4, e5⟩ := h'.2 _ (List.mem_singleton.2 rfl)
  have en : name = [101, 114, 114, 111, 114] := (Option.some.inj e1).symm
  subst en
  obtain rfl := Option.some.inj (fr_rt.symm.trans e2)
  have hm : ty ∈ (List.range 259).filter fun t => Tryd.prog.rowNamed t [101, 114, 114, 111, 114] := List.mem_filter.2 ⟨List.mem_range.2 (by rw [← fr_size]; exact e3), e4⟩
  rw [fr_oneRow] at hm
  obtain rfl := List.mem_singleton.1 hm
  have hh : typeHandle Tryd.prog 33 = .pointer (some ⟨5, 33, none⟩) := by kernel_rfl
  rw [hh] at e5
  have h0 := World.var?_cell fr_et e5 0
  simp at h0
  exact h0

/-- A world that meets the condition: the settled one, the variable's cell laid. -/
noncomputable def laidWorld (os : Os) : World :=
  { World.holding Tryd.prog os ⟨#[], #[], []⟩ with heap := (World.holding Tryd.prog os ⟨#[], #[], []⟩).heap.modify 0 fun
      | .cells _ t frozen => .cells #[.iface 195 (.agg #[.pointer (some ⟨5, 33, none⟩)])] t frozen
      | o => o }
theorem cap_ok {P : Program} {w : World} {r : Reach} {base : Nat} {t e : TypeId} (ht : P.underlying t = some (.slice e)) {a : Option Addr} {n c : Nat} (h : Value.okWide P w r base t (.slice a n c)) : n ≤ c ∧ c ≤ 9223372036854775807 := by
  simp only [Value.okWide, ht, Cell.okWide, Cell.ok] at h
  cases a with
  | none =>
    split at h
    · simp_all
    · simp_all
    all_goals simp_all
  | some a =>
    obtain ⟨h1, h2, _⟩ := h
    have h3 : (c : Int) ≤ 9223372036854775807 := by simpa [IntKind.max, IntKind.bits, IntKind.signed] using h2
    exact ⟨h1, by omega⟩
theorem laid_met (os : Os) (args : Array Value) : laidMetH Tryd.prog errLaid ((laidWorld os).forCall (fun _ _ => 0) ⟨#[], args, []⟩).memory :=
  laidMetH_of_parts (laidMet_nil _ _) (by kernel_rfl)

theorem flat_at {s : Nat} (F : Nat → List Value) : ∀ n, (∀ i, i < n → (F i).length = s) → ((List.range n).flatMap F).length = n * s ∧ ∀ i j, i < n → j < s → ((List.range n).flatMap F)[i * s + j]? = (F i)[j]?
  | 0, _ => ⟨by simp, fun i j h => absurd h (by omega)⟩
  | n + 1, h => by
    obtain ⟨h1, h2⟩ := flat_at F n (fun i hi => h i (by omega))
    have hn := h n (by omega)
    rw [List.range_succ, List.flatMap_append]
    simp only [List.flatMap_cons, List.flatMap_nil, List.append_nil]
    refine ⟨by rw [List.length_append, h1, hn, Nat.add_mul]; omega, fun i j hi hj => ?_⟩
    by_cases hin : i < n
    · have : i * s + j < n * s := by
        have : (i + 1) * s ≤ n * s := Nat.mul_le_mul_right _ hin
        rw [Nat.add_mul] at this
        omega
      rw [List.getElem?_append_left (by omega)]
      exact h2 i j hin hj
    · obtain rfl : i = n := by omega
      rw [List.getElem?_append_right (by omega), h1]
      congr 1
      omega

theorem exists_map {α β : Type} (f : β → α) : ∀ (l : List α), (∀ x ∈ l, ∃ y, x = f y) → ∃ l' : List β, l = l'.map f
  | [], _ => ⟨[], rfl⟩
  | x :: l, h => by
    obtain ⟨y, rfl⟩ := h x (List.mem_cons_self ..)
    obtain ⟨l', rfl⟩ := exists_map f l (fun z hz => h z (List.mem_cons_of_mem _ hz))
    exact ⟨y :: l', rfl⟩

theorem flat_one {α : Type} (f : α → Value) : ∀ zs : List α, (zs.map fun z => [f z]).flatten = zs.map f
  | [] => rfl
  | z :: zs => by rw [List.map_cons, List.flatten_cons, flat_one f zs]; rfl

section
variable {H : Type} {enc : TypeId × Value → H} {P : Program} {w : World} {base : Nat} {spare : Nat → Bool} {held : Bool}
/-- A slice that came in: it reads as the cells of its elements, and each element reads as data. -/
theorem open_sl {t e : TypeId} {s fuel n c : Nat} {A : Option Addr} {x : DataW H × List MemPlace} (hs : P.cellsOf e = s) (hs0 : 0 < s) (ht : P.underlying t = some (.slice e))
    (h : DataW.trod enc P w base spare held fuel t [.slice A n c] = some x) :
    n ≤ maxLen ∧ ∃ css : List (List Value), css.length = n ∧ Sl w s A n css.flatten ∧ ∀ cs ∈ css, cs.length = s ∧ ∃ fuel' y, DataW.trod enc P w base spare held fuel' e cs = some y := by
  rcases Deep.open_slice ht h with ⟨h0, _⟩ | ⟨a, len, cap, m, f', D, Pl, hv, _, hl, hm, hmm, _, hx⟩
  · injection h0 with h0 _
    injection h0 with h1 h2 h3
    subst h1 h2
    exact ⟨Nat.zero_le _, [], rfl, Sl.nil _ _ _, fun cs hc => by cases hc⟩
  · injection hv with hv _
    injection hv with h1 h2 h3
    subst h1 h2 h3
    have hle : n ≤ m := by rw [hmm]; split <;> omega
    rw [hs] at hx
    obtain ⟨F, hF⟩ := Deep.choose_lt (α := List Value) (p := fun i cs' => w.cells? base (a.add (i * s)) s = some cs' ∧ DataW.trod enc P w base spare held f' e cs' = some (D i, Pl i)) (fun i hi => hx i hi)
    have hlen : ∀ i, i < n → (F i).length = s := fun i hi => (World.cells?_some (hF i (by omega)).1).2.1
    obtain ⟨f1, f2⟩ := flat_at F n hlen
    refine ⟨by omega, (List.range n).map F, by simp, ?_, ?_⟩
    · rw [← List.flatMap_def]
      refine ⟨f1, fun hn => ?_⟩
      have hsp : a.spot = none := by
        obtain ⟨_, h2, h3⟩ := World.cells?_some (hF 0 (by omega)).1
        have h4 := h3 0 hs0
        rw [List.getElem?_eq_getElem (by omega)] at h4
        simpa [Addr.add] using World.cell?_spot h4
      obtain ⟨b, off, spot⟩ := a
      simp only at hsp
      subst hsp
      refine ⟨b, off, rfl, fun j u hu => ?_⟩
      have hj : j < n * s := by
        rcases Nat.lt_or_ge j (n * s) with h | h
        · exact h
        · rw [List.getElem?_eq_none (by rw [f1]; exact h)] at hu; cases hu
      have hi : j / s < n := Nat.div_lt_of_lt_mul (by rw [Nat.mul_comm]; exact hj)
      have hr : j % s < s := Nat.mod_lt _ hs0
      have hd : j / s * s + j % s = j := by rw [Nat.mul_comm]; exact Nat.div_add_mod j s
      have h5 := f2 (j / s) (j % s) hi hr
      rw [hd, hu] at h5
      obtain ⟨_, _, h3⟩ := World.cells?_some (hF (j / s) (by omega)).1
      have h6 := h3 (j % s) hr
      rw [← h5] at h6
      have hadd : ((⟨b, off, none⟩ : Addr).add (j / s * s)).add (j % s) = ⟨b, off + j, none⟩ := by
        have : ∀ k, (⟨b, off, none⟩ : Addr).add k = ⟨b, off + k, none⟩ := by intro k; unfold Addr.add; split <;> simp_all
        rw [this]
        unfold Addr.add
        split
        · simp only [Addr.mk.injEq, true_and, and_true]; omega
        · simp only [Addr.mk.injEq, true_and, and_true]; omega
      rw [hadd] at h6
      exact h6
    · intro cs hcs
      obtain ⟨i, hi, rfl⟩ := List.mem_map.1 hcs
      have hi' := List.mem_range.1 hi
      exact ⟨hlen i hi', f', _, (hF i (by omega)).2⟩

/-- A slice of integers that came in. -/
theorem open_sl_ints {t e : TypeId} {k : IntKind} {fuel n c : Nat} {A : Option Addr} {x : DataW H × List MemPlace} (ht : P.underlying t = some (.slice e)) (he : P.underlying e = some (.int k)) (hs : P.cellsOf e = 1)
    (h : DataW.trod enc P w base spare held fuel t [.slice A n c] = some x) :
    n ≤ maxLen ∧ ∃ zs : List Int, zs.length = n ∧ Sl w 1 A n (zs.map (Value.int k)) ∧ ∀ z ∈ zs, (Lit.int k z).wf = true := by
  obtain ⟨hm, css, hl, hsl, hc⟩ := open_sl hs (by omega) ht h
  obtain ⟨zs, rfl⟩ := exists_map (fun z : { z : Int // (Lit.int k z).wf = true } => [Value.int k z.1]) css (fun cs hcs => by
    obtain ⟨_, f', y, hy⟩ := hc cs hcs
    obtain ⟨z, rfl, _, hz⟩ := DataW.trod_int he hy
    exact ⟨⟨z, hz⟩, rfl⟩)
  refine ⟨hm, zs.map (·.1), by simpa using hl, ?_, ?_⟩
  · rw [flat_one (fun z => Value.int k z.1) zs] at hsl
    rw [List.map_map]; exact hsl
  · intro z hz
    obtain ⟨z', _, rfl⟩ := List.mem_map.1 hz
    exact z'.2

/-- A slice of strings that came in. -/
theorem open_sl_strs {t e : TypeId} {fuel n c : Nat} {A : Option Addr} {x : DataW H × List MemPlace} (ht : P.underlying t = some (.slice e)) (he : P.underlying e = some .string) (hs : P.cellsOf e = 1)
    (h : DataW.trod enc P w base spare held fuel t [.slice A n c] = some x) :
    n ≤ maxLen ∧ ∃ zs : List ByteArray, zs.length = n ∧ Sl w 1 A n (zs.map Value.string) ∧ ∀ z ∈ zs, z.size ≤ maxLen := by
  obtain ⟨hm, css, hl, hsl, hc⟩ := open_sl hs (by omega) ht h
  obtain ⟨zs, rfl⟩ := exists_map (fun z : { z : ByteArray // z.size ≤ maxLen } => [Value.string z.1]) css (fun cs hcs => by
    obtain ⟨_, f', y, hy⟩ := hc cs hcs
    obtain ⟨z, rfl, _, hz⟩ := DataW.trod_string he hy
    exact ⟨⟨z, hz⟩, rfl⟩)
  refine ⟨hm, zs.map (·.1), by simpa using hl, ?_, ?_⟩
  · rw [flat_one (fun z => Value.string z.1) zs] at hsl
    rw [List.map_map]; exact hsl
  · intro z hz
    obtain ⟨z', _, rfl⟩ := List.mem_map.1 hz
    exact z'.2

/-- A slice of structs of two integers that came in. -/
theorem open_sl_pairs {t e : TypeId} {f0 f1 : Field} {k0 k1 : IntKind} {fuel n c : Nat} {A : Option Addr} {x : DataW H × List MemPlace} (ht : P.underlying t = some (.slice e)) (he : P.underlying e = some (.struct #[f0, f1]))
    (hs : P.cellsOf e = 2) (o0 : f0.offset = 0) (o1 : f1.offset = 1) (c0 : P.cellsOf f0.type = 1) (c1 : P.cellsOf f1.type = 1) (u0 : P.underlying f0.type = some (.int k0)) (u1 : P.underlying f1.type = some (.int k1))
    (h : DataW.trod enc P w base spare held fuel t [.slice A n c] = some x) :
    n ≤ maxLen ∧ ∃ l : List (Int × Int), l.length = n ∧ Sl w 2 A n (l.flatMap fun p => [.int k0 p.1, .int k1 p.2]) ∧ ∀ p ∈ l, (Lit.int k0 p.1).wf = true ∧ (Lit.int k1 p.2).wf = true := by
  obtain ⟨hm, css, hl, hsl, hc⟩ := open_sl hs (by omega) ht h
  obtain ⟨zs, rfl⟩ := exists_map (fun z : { z : Int × Int // (Lit.int k0 z.1).wf = true ∧ (Lit.int k1 z.2).wf = true } => [Value.int k0 z.1.1, Value.int k1 z.1.2]) css (fun cs hcs => by
    obtain ⟨hlen, f', y, hy⟩ := hc cs hcs
    obtain ⟨y0, y1, m, _, _, h0, h1⟩ := trod_struct2 he hy
    rw [o0, c0] at h0
    rw [o1, c1] at h1
    match cs, hlen with
    | [a, b], _ =>
      simp only [List.drop_zero, List.take_succ_cons, List.take_zero, List.drop_succ_cons] at h0 h1
      obtain ⟨z0, e0, _, w0⟩ := DataW.trod_int u0 h0
      obtain ⟨z1, e1, _, w1⟩ := DataW.trod_int u1 h1
      injection e0 with e0 _
      injection e1 with e1 _
      exact ⟨⟨(z0, z1), w0, w1⟩, by rw [e0, e1]⟩)
  refine ⟨hm, zs.map (·.1), by simpa using hl, ?_, ?_⟩
  · have : (zs.map (fun z => [Value.int k0 z.1.1, Value.int k1 z.1.2])).flatten = (zs.map (·.1)).flatMap fun p => [.int k0 p.1, .int k1 p.2] := by
      rw [← List.flatMap_def, List.flatMap_map]
    rw [← this]; exact hsl
  · intro z hz
    obtain ⟨z', _, rfl⟩ := List.mem_map.1 hz
    exact z'.2
end
end Go.Proofs.YtmonepclhbappaaDoor
