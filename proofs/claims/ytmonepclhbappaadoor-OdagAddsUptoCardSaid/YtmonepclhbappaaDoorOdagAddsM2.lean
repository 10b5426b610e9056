/-
  Part 2 of the proof of OdagAdds: Upto, MapW, Same, Words2.
-/
import Derived.Test.YtmonepclhbappaaDoorOdagAddsM1
import Derived.WalkKit
import Derived.Maps.Ext
import Derived.Maps.OwnOps
import Derived.Maps.RangeWalk
import Derived.Test.YtmonepclhbappaaDoorProg
import Derived.LaidEql
import Derived.RowKitTokens
import Derived.Deep.Draws
import Derived.Lib.Hide
import Derived.Deep.DeepCutAuto
import Derived.BigQuiet
import Derived.Deep.QuietTactic
import Derived.Laws.MakeOwn
import Derived.Laws.OwnMore
/-
  The second form: what came in is of bulk at most so much, so each string and each slice in it is.
-/
namespace Go.Proofs.YtmonepclhbappaaDoor
open Go.ChangeShapes Go.WideShapes Go.ChangeAt Go.RowKit

theorem bulk_pos {H : Type} : ∀ d : DataW H, 1 ≤ Rows.uptoBulk d
  | .lit (.string _) => by simp only [Rows.uptoBulk]; omega
  | .lit (.int _ _) | .lit (.bool _) | .lit (.float _ _) | .lit .nil => by simp only [Rows.uptoBulk]; omega
  | .nil => by simp only [Rows.uptoBulk]; omega
  | .ptr _ => by simp only [Rows.uptoBulk]; omega
  | .slice _ _ => by simp only [Rows.uptoBulk]; omega
  | .agg _ => by simp only [Rows.uptoBulk]; omega
  | .iface _ _ => by simp only [Rows.uptoBulk]; omega
  | .map _ => by simp only [Rows.uptoBulk]; omega
  | .held _ => by simp only [Rows.uptoBulk]; omega
theorem bulkAll_mem {H : Type} {d : DataW H} : ∀ {l : List (DataW H)}, d ∈ l → Rows.uptoBulk d ≤ Rows.uptoBulkAll l
  | x :: r, h => by
    simp only [Rows.uptoBulkAll]
    rcases List.mem_cons.1 h with rfl | h
    · omega
    · have := bulkAll_mem h; omega
theorem bulkAll_len {H : Type} : ∀ l : List (DataW H), l.length ≤ Rows.uptoBulkAll l
  | [] => Nat.zero_le _
  | x :: r => by
    simp only [Rows.uptoBulkAll, List.length_cons]
    have := bulk_pos x
    have := bulkAll_len r
    omega

theorem up_string {H : Type} {s : ByteArray} {B : Nat} (_ : s.size ≤ maxLen) (h : Rows.uptoBulk (H := H) (.lit (.string s.data.toList)) ≤ B) : s.size ≤ B := by
  simp only [Rows.uptoBulk, Array.length_toList] at h
  have : s.data.size = s.size := rfl
  omega

section
variable {H : Type} {enc : TypeId × Value → H} {P : Program} {w : World} {base : Nat} {spare : Nat → Bool} {held : Bool}
/-- As open_sl, with the bulk. -/
theorem open_sl_upto {t e : TypeId} {s fuel n c B : Nat} {A : Option Addr} {x : DataW H × List MemPlace} (hs : P.cellsOf e = s) (hs0 : 0 < s) (ht : P.underlying t = some (.slice e))
    (h : DataW.trod enc P w base spare held fuel t [.slice A n c] = some x) (hB : Rows.uptoBulk x.1 ≤ B) :
    n ≤ B ∧ ∃ css : List (List Value), css.length = n ∧ Sl w s A n css.flatten ∧ ∀ cs ∈ css, cs.length = s ∧ ∃ fuel' y, DataW.trod enc P w base spare held fuel' e cs = some y ∧ Rows.uptoBulk y.1 ≤ B := by
  rcases Deep.open_slice ht h with ⟨h0, _⟩ | ⟨a, len, cap, m, f', D, Pl, hv, _, hl, hm, hmm, hxx, hx⟩
  · injection h0 with h0 _
    injection h0 with h1 h2 h3
    subst h1 h2
    exact ⟨Nat.zero_le _, [], rfl, Sl.nil _ _ _, fun cs hc => by cases hc⟩
  · injection hv with hv _
    injection hv with h1 h2 h3
    subst h1 h2 h3
    have hle : n ≤ m := by rw [hmm]; split <;> omega
    have hB1 : Rows.uptoBulkAll ((List.range n).map D) ≤ B := by
      rw [hxx] at hB
      simp only [Rows.uptoBulk] at hB
      omega
    have hB2 : n ≤ B := by
      have := bulkAll_len ((List.range n).map D)
      simp at this
      omega
    rw [hs] at hx
    obtain ⟨F, hF⟩ := Deep.choose_lt (α := List Value) (p := fun i cs' => w.cells? base (a.add (i * s)) s = some cs' ∧ DataW.trod enc P w base spare held f' e cs' = some (D i, Pl i)) (fun i hi => hx i hi)
    have hlen : ∀ i, i < n → (F i).length = s := fun i hi => (World.cells?_some (hF i (by omega)).1).2.1
    obtain ⟨f1, f2⟩ := flat_at F n hlen
    refine ⟨hB2, (List.range n).map F, by simp, ?_, ?_⟩
    · rw [← List.flatMap_def]
      refine ⟨f1, fun hn => ?_⟩
      have hsp : a.spot = none := by
        obtain ⟨_, h2, h3⟩ := World.cells?_some (hF 0 (by omega)).1
        have h4 := h3 0 hs0
        rw [List.getElem?_eq_getElem (by omega)] at h4
        simpa [Addr.add] using World.cell?_spot h4
      obtain ⟨b, off, spot⟩ := a
      simp only at hsp
      subst hsp
      refine ⟨b, off, rfl, fun j u hu => ?_⟩
      have hj : j < n * s := by
        rcases Nat.lt_or_ge j (n * s) with h | h
        · exact h
        · rw [List.getElem?_eq_none (by rw [f1]; exact h)] at hu; cases hu
      have hi : j / s < n := Nat.div_lt_of_lt_mul (by rw [Nat.mul_comm]; exact hj)
      have hr : j % s < s := Nat.mod_lt _ hs0
      have hd : j / s * s + j % s = j := by rw [Nat.mul_comm]; exact Nat.div_add_mod j s
      have h5 := f2 (j / s) (j % s) hi hr
      rw [hd, hu] at h5
      obtain ⟨_, _, h3⟩ := World.cells?_some (hF (j / s) (by omega)).1
      have h6 := h3 (j % s) hr
      rw [← h5] at h6
      have hadd : ((⟨b, off, none⟩ : Addr).add (j / s * s)).add (j % s) = ⟨b, off + j, none⟩ := by
        have : ∀ k, (⟨b, off, none⟩ : Addr).add k = ⟨b, off + k, none⟩ := by intro k; unfold Addr.add; split <;> simp_all
        rw [this]
        unfold Addr.add
        split
        · simp only [Addr.mk.injEq, true_and, and_true]; omega
        · simp only [Addr.mk.injEq, true_and, and_true]; omega
      rw [hadd] at h6
      exact h6
    · intro cs hcs
      obtain ⟨i, hi, rfl⟩ := List.mem_map.1 hcs
      have hi' := List.mem_range.1 hi
      refine ⟨hlen i hi', f', _, (hF i (by omega)).2, Nat.le_trans (bulkAll_mem (List.mem_map.2 ⟨i, hi, rfl⟩)) hB1⟩

/-- A slice of strings that came in, with the bulk. -/
theorem open_sl_strs_upto {t e : TypeId} {fuel n c B : Nat} {A : Option Addr} {x : DataW H × List MemPlace} (ht : P.underlying t = some (.slice e)) (he : P.underlying e = some .string) (hs : P.cellsOf e = 1)
    (h : DataW.trod enc P w base spare held fuel t [.slice A n c] = some x) (hB : Rows.uptoBulk x.1 ≤ B) :
    n ≤ B ∧ ∃ zs : List ByteArray, zs.length = n ∧ Sl w 1 A n (zs.map Value.string) ∧ ∀ z ∈ zs, z.size ≤ B := by
  obtain ⟨hm, css, hl, hsl, hc⟩ := open_sl_upto hs (by omega) ht h hB
  obtain ⟨zs, rfl⟩ := exists_map (fun z : { z : ByteArray // z.size ≤ B } => [Value.string z.1]) css (fun cs hcs => by
    obtain ⟨_, f', y, hy, hyB⟩ := hc cs hcs
    obtain ⟨z, rfl, hy2, hz⟩ := DataW.trod_string he hy
    refine ⟨⟨z, ?_⟩, rfl⟩
    rw [hy2] at hyB
    simp only [Rows.uptoBulk, Array.length_toList] at hyB
    have : z.data.size = z.size := rfl
    omega)
  refine ⟨hm, zs.map (·.1), by simpa using hl, ?_, ?_⟩
  · rw [flat_one (fun z => Value.string z.1) zs] at hsl
    rw [List.map_map]; exact hsl
  · intro z hz
    obtain ⟨z', _, rfl⟩ := List.mem_map.1 hz
    exact z'.2
end
end Go.Proofs.YtmonepclhbappaaDoor
/-
  Maps keyed by ints, in one word: block b holds these entries, by rising key, whatever their values are; the laws of look-up, store and range in that word.
-/
namespace Go.Proofs.YtmonepclhbappaaDoor
open Go.RowKit Go.Maps
set_option linter.unusedVariables false
set_option linter.unusedSectionVars false

def rawR (v : Value) : Option (DataW Value × List MemPlace) := some (.held v, [])
def enK (p : Int × Value) : Lit × DataW Value := (.int .i64 p.1, .held p.2)
def asD (es : List (Int × Value)) : DataW Value := .map (es.map enK)
/-- Block b is a map that holds just the entries es. -/
def MapI (P : Program) (kT : TypeId) (w : World) (b : Nat) (es : List (Int × Value)) : Prop := w.ownsMap P kT rawR b es.length (asD es)
def atI (es : List (Int × Value)) (x : Int) : Option Value := (es.find? fun p => decide (p.1 = x)).map (·.2)
def putI (es : List (Int × Value)) (x : Int) (v : Value) : List (Int × Value) := (es.filter fun p => decide (p.1 < x)) ++ (x, v) :: es.filter fun p => decide (x < p.1)
def IncK (es : List (Int × Value)) : Prop := es.Pairwise fun p q => p.1 < q.1

theorem atI_none {es : List (Int × Value)} {x : Int} : atI es x = none ↔ x ∉ es.map (·.1) := by
  unfold atI
  rw [Option.map_eq_none_iff, List.find?_eq_none]
  constructor
  · intro h hm
    obtain ⟨p, hp, rfl⟩ := List.mem_map.1 hm
    exact h p hp (by simp)
  · intro h p hp hx
    exact h (List.mem_map.2 ⟨p, hp, of_decide_eq_true hx⟩)
theorem atI_mem {es : List (Int × Value)} {x : Int} {v : Value} (h : atI es x = some v) : (x, v) ∈ es := by
  unfold atI at h
  obtain ⟨p, hp, rfl⟩ := Option.map_eq_some_iff.1 h
  have h1 := List.find?_some hp
  have h2 := List.mem_of_find?_eq_some hp
  rw [show (x, p.2) = p from Prod.ext (of_decide_eq_true h1).symm rfl]
  exact h2
theorem inc_key {es : List (Int × Value)} (hI : IncK es) : ∀ {p q : Int × Value}, p ∈ es → q ∈ es → p.1 = q.1 → p = q := by
  induction es with
  | nil => intro p q hp; cases hp
  | cons e es ih =>
    obtain ⟨h1, h2⟩ := List.pairwise_cons.1 hI
    intro p q hp hq he
    rcases List.mem_cons.1 hp with e1 | hp'
    · rcases List.mem_cons.1 hq with e2 | hq'
      · rw [e1, e2]
      · have := h1 q hq'; rw [e1] at he; omega
    · rcases List.mem_cons.1 hq with e2 | hq'
      · have := h1 p hp'; rw [e2] at he; omega
      · exact ih h2 hp' hq' he
theorem atI_of_mem {es : List (Int × Value)} (hI : IncK es) {p : Int × Value} (hp : p ∈ es) : atI es p.1 = some p.2 := by
  cases h : atI es p.1 with
  | none => exact absurd (List.mem_map.2 ⟨p, hp, rfl⟩) (atI_none.1 h)
  | some v =>
    have := inc_key hI (atI_mem h) hp rfl
    rw [← this]

theorem lit_i64 {x : Int} (h1 : -9223372036854775808 ≤ x) (h2 : x ≤ 9223372036854775807) : (Lit.int .i64 x).wf = true := WalkArith.wf_i64 (by omega)

section
variable {P : Program} {kT : TypeId} {w w' : World} {b : Nat} {es : List (Int × Value)}

theorem has_asD (x : Int) : Maps.has (asD es) (.int .i64 x) = (atI es x).isSome := by
  unfold asD atI
  rw [Maps.has_eq, List.any_map, Option.isSome_map]
  induction es with
  | nil => rfl
  | cons p r ih =>
    rw [List.any_cons, List.find?_cons, ih]
    by_cases h : p.1 = x
    · simp [enK, Lit.sameKey, h]
    · simp [enK, Lit.sameKey, h]
theorem atKey_asD (x : Int) (z : Value) : (asD es).atKey (.int .i64 x) (.held z) = .held ((atI es x).getD z) := by
  unfold asD atI DataW.atKey
  simp only
  induction es with
  | nil => rfl
  | cons p r ih =>
    rw [List.map_cons, List.find?_cons, List.find?_cons]
    by_cases h : p.1 = x
    · simp [enK, Lit.sameKey, h]
    · have e1 : (enK p).1.sameKey (.int .i64 x) = false := by simp [enK, Lit.sameKey, h]
      rw [e1]
      simp only [h, decide_false]
      exact ih
theorem ins_asD (x : Int) (v : Value) : ∀ {es : List (Int × Value)}, IncK es → DataW.insert (enK (x, v)) ((es.map enK).filter fun p => !p.1.sameKey (.int .i64 x)) = (putI es x v).map enK
  | [], _ => rfl
  | p :: r, hI => by
    obtain ⟨h1, h2⟩ := List.pairwise_cons.1 hI
    have ih := ins_asD x v h2
    rcases Int.lt_trichotomy p.1 x with h | h | h
    · have e1 : (!(enK p).1.sameKey (.int .i64 x)) = true := by simp [enK, Lit.sameKey]; omega
      have e2 : (enK (x, v)).1.before (enK p).1 = false := by simp [enK, Lit.before]; omega
      have e3 : ¬ x < p.1 := by omega
      have e4 : putI (p :: r) x v = p :: putI r x v := by simp [putI, h, e3]
      rw [List.map_cons, List.filter_cons_of_pos (p := fun q : Lit × DataW Value => !q.1.sameKey (.int .i64 x)) e1, DataW.insert, e2, e4, List.map_cons]
      simp only [Bool.false_eq_true, if_false]
      rw [ih]
    · have e1 : ¬ (!(enK p).1.sameKey (.int .i64 x)) = true := by simp [enK, Lit.sameKey]; omega
      have e4 : putI (p :: r) x v = putI r x v := by
        have a1 : ¬ p.1 < x := by omega
        have a2 : ¬ x < p.1 := by omega
        simp [putI, a1, a2]
      rw [List.map_cons, List.filter_cons_of_neg (p := fun q : Lit × DataW Value => !q.1.sameKey (.int .i64 x)) e1, ih, e4]
    · have e1 : (!(enK p).1.sameKey (.int .i64 x)) = true := by simp [enK, Lit.sameKey]; omega
      have e2 : (enK (x, v)).1.before (enK p).1 = true := by simp [enK, Lit.before]; omega
      have hf1 : (r.map enK).filter (fun q => !q.1.sameKey (.int .i64 x)) = r.map enK := List.filter_eq_self.2 fun q hq => by
        obtain ⟨s, hs, rfl⟩ := List.mem_map.1 hq
        have := h1 s hs
        simp [enK, Lit.sameKey]; omega
      have hf2 : r.filter (fun q => decide (q.1 < x)) = [] := List.filter_eq_nil_iff.2 fun s hs => by
        have := h1 s hs
        simp; omega
      have hf3 : r.filter (fun q => decide (x < q.1)) = r := List.filter_eq_self.2 fun s hs => by
        have := h1 s hs
        simp; omega
      have a1 : ¬ p.1 < x := by omega
      have e4 : putI (p :: r) x v = (x, v) :: p :: r := by simp [putI, h, a1, hf2, hf3]
      rw [List.map_cons, List.filter_cons_of_pos (p := fun q : Lit × DataW Value => !q.1.sameKey (.int .i64 x)) e1, hf1, DataW.insert, e2, e4]
      simp
theorem put_asD (hI : IncK es) (x : Int) (v : Value) : (asD es).put (.int .i64 x) (.held v) = asD (putI es x v) := by
  unfold asD DataW.put
  exact congrArg DataW.map (ins_asD x v hI)

theorem MapI.of_owns {n : Nat} (h : w.ownsMap P kT rawR b n (asD es)) : MapI P kT w b es := by
  obtain ⟨es', clock, hb, F, hs, hD⟩ := h
  refine ⟨es', clock, hb, F, ?_, hD⟩
  have h1 : (es.map enK) = _ := DataW.map.inj hD
  have h2 := congrArg List.length h1
  rw [List.length_map, length_read] at h2
  omega
theorem MapI.made (P : Program) (kT : TypeId) (w : World) : MapI P kT (w.alloc (.map #[] 0)) w.heap.size [] := World.ownsMap_made w P kT rawR
theorem MapI.inc (hk : P.underlying kT = some (.int .i64)) (h : MapI P kT w b es) : IncK es := by
  obtain ⟨es', h1, h2, _⟩ := World.ownsMap.canon h (int_keyed hk)
  obtain rfl : es.map enK = es' := DataW.map.inj h1
  exact (List.pairwise_map.1 h2).imp fun {p q} hpq => by simpa [enK, Lit.before] using hpq
theorem MapI.kept {row : Option Nat} (h : MapI P kT w b es) (hg : w.grownBy w' row) (hne : some b ≠ row) : MapI P kT w' b es := World.ownsMap.kept h hg hne
theorem MapI.keep (h : MapI P kT w b es) (hb : Below w.heap.size w w') : MapI P kT w' b es := by
  have hlt := World.ownsMap.lt h
  obtain ⟨es', clock, h1, F, hs, hD⟩ := h
  exact ⟨es', clock, (hb.block b hlt).trans h1, F, hs, hD⟩
theorem MapI.lt (h : MapI P kT w b es) : b < w.heap.size := World.ownsMap.lt h
theorem MapI.isMap (h : MapI P kT w b es) : ∃ es' clock, w.heap[b]? = some (.map es' clock) := by
  obtain ⟨es', clock, h1, _⟩ := h
  exact ⟨es', clock, h1⟩
end

section
variable {P : Program} (w : World) {ops : Array Oper} {rest : List Oper} {o : Oper} {a : Act} {Q : Exit → Act → World → Prop} {kT : TypeId}

/-- 'm[k]'. -/
theorem wpList_lookI (hg : o.guard = none) (m x : Operand) (t : TypeId) (hop : o.op = Op.lookup t m x false) (e : TypeId) (hk : P.underlying kT = some (.int .i64)) (ht : P.underlying t = some (.map kT e))
    (z : Value) (hz : (zeroValue e).run P w = .ok z w) (b : Nat) (es : List (Int × Value)) (hm : a.eval m = .map (some b)) (hown : MapI P kT w b es) (y : Int) (hx : a.eval x = .int .i64 y) (h1 : -9223372036854775808 ≤ y) (h2 : y ≤ 9223372036854775807)
    (hK : wpList P ops Q rest (a.put o.dst ((atI es y).getD z)) w) :
    wpList P ops Q (o :: rest) a w := by
  refine wpList_plain hg fun K' hK' => ?_
  obtain ⟨v, ps, hrun, hv⟩ := World.ownsMap.lookup hown (int_keyed hk) ht hz (zd := .held z) (zp := []) rfl (keyOf_int_mk hk (lit_i64 h1 h2))
  rw [atKey_asD] at hv
  obtain rfl : v = (atI es y).getD z := by
    have := (Prod.mk.inj (Option.some.inj hv)).1
    exact DataW.held.inj this
  unfold Oper.wp
  simp [execOp, hop, hm, hx, hrun, Result.andThen]
  exact hK' _ _ hK

/-- 'm[k] = v'. -/
theorem wpList_putI (hg : o.guard = none) (m x v : Operand) (t : TypeId) (hop : o.op = Op.mapUpdate t m x v) (e : TypeId) (hk : P.underlying kT = some (.int .i64)) (ht : P.underlying t = some (.map kT e))
    (b : Nat) (es : List (Int × Value)) (hm : a.eval m = .map (some b)) (hown : MapI P kT w b es) (hn : es.length < maxLen) (y : Int) (val : Value) (hx : a.eval x = .int .i64 y) (hv : a.eval v = val) (h1 : -9223372036854775808 ≤ y) (h2 : y ≤ 9223372036854775807)
    (hK : ∀ w', MapI P kT w' b (putI es y val) → w.grownBy w' (some b) → wpList P ops Q rest (a.put o.dst undef) w') :
    wpList P ops Q (o :: rest) a w := by
  refine wpList_mapUpdate_own w hg m x v t hop kT e (int_keyed hk) ht rawR b es.length (asD es) hm hown hn _ val _ hx hv (keyOf_int_mk hk (lit_i64 h1 h2)) (.held val) [] rfl fun w' hw' hgr => ?_
  rw [put_asD (MapI.inc hk hown)] at hw'
  exact hK w' (MapI.of_owns hw') hgr
end

section
/-- A range over the map in block b, its iterator in block r: done: what has come so far. -/
def RangesI (P : Program) (kT : TypeId) (w : World) (b r : Nat) (es done : List (Int × Value)) : Prop :=
  ∃ left cnt, w.ranges P kT rawR b r es.length (asD es) left cnt ∧ (∀ p ∈ es, (left (.int .i64 p.1) = true ↔ p ∉ done)) ∧ (∀ p ∈ done, p ∈ es) ∧ done.Nodup
variable {P : Program} {kT : TypeId} {w w' : World} {b r : Nat} {es done : List (Int × Value)}
theorem RangesI.map (h : RangesI P kT w b r es done) : MapI P kT w b es := by
  obtain ⟨left, cnt, h1, _⟩ := h
  exact h1.owns
theorem RangesI.kept {row : Option Nat} (h : RangesI P kT w b r es done) (hg : w.grownBy w' row) (hb : some b ≠ row) (hr : some r ≠ row) : RangesI P kT w' b r es done := by
  obtain ⟨left, cnt, h1, h2⟩ := h
  exact ⟨left, cnt, h1.kept hg hb hr, h2⟩
theorem RangesI.keep (h : RangesI P kT w b r es done) (hb : Below w.heap.size w w') : RangesI P kT w' b r es done := by
  obtain ⟨left, cnt, h1, h2⟩ := h
  have l1 := h1.owns.lt
  have l2 := h1.lt
  obtain ⟨es', clock, since, seen, c0, g1, F, hs, hD, g2, rest⟩ := h1
  exact ⟨left, cnt, ⟨es', clock, since, seen, c0, (hb.block b l1).trans g1, F, hs, hD, (hb.block r l2).trans g2, rest⟩, h2⟩
theorem RangesI.ltr (h : RangesI P kT w b r es done) : r < w.heap.size := by
  obtain ⟨left, cnt, h1, _⟩ := h
  exact h1.lt
theorem RangesI.done_perm (h : RangesI P kT w b r es done) (hk : P.underlying kT = some (.int .i64)) (hall : ∀ p ∈ es, p ∈ done) : done.Perm es := by
  have hI := h.map.inc hk
  obtain ⟨left, cnt, _, _, h3, h4⟩ := h
  have hes : es.Nodup := hI.imp fun {p q} hpq e => by subst e; omega
  exact (List.perm_ext_iff_of_nodup h4 hes).2 fun p => ⟨h3 p, hall p⟩
end

section
variable {P : Program} (w : World) {ops : Array Oper} {rest : List Oper} {o : Oper} {a : Act} {Q : Exit → Act → World → Prop} {kT : TypeId}
/-- 'range m'. -/
theorem wpList_rangeI (hg : o.guard = none) (m : Operand) (t : TypeId) (hop : o.op = Op.range t m) (e : TypeId) (hk : P.underlying kT = some (.int .i64)) (ht : P.underlying t = some (.map kT e)) (b : Nat) (es : List (Int × Value))
    (hm : a.eval m = .map (some b)) (hown : MapI P kT w b es)
    (hK : ∀ w', RangesI P kT w' b w.heap.size es [] → w.grownBy w' none → w'.heap.size = w.heap.size + 1 → wpList P ops Q rest (a.put o.dst (.pointer (some ⟨w.heap.size, 0, none⟩))) w') :
    wpList P ops Q (o :: rest) a w := by
  refine wpList_range_own w hg m t hop kT e (int_keyed hk) ht rawR b es.length (asD es) hm hown fun w' h1 h2 h3 => hK w' ⟨_, _, h1, (fun p hp => ?_), (fun p hp => absurd hp (by simp)), List.nodup_nil⟩ h2 h3
  rw [has_asD, atI_of_mem (MapI.inc hk hown) hp]
  simp

/-- The step. -/
theorem wpList_nextI (hg : o.guard = none) (it : Operand) (hop : o.op = Op.next it false) (hk : P.underlying kT = some (.int .i64)) (b r : Nat) (es done : List (Int × Value))
    (hit : a.eval it = .pointer (some ⟨r, 0, none⟩)) (h : RangesI P kT w b r es done)
    (hDone : done.Perm es → wpList P ops Q rest (a.put o.dst (.tuple #[.bool false])) w)
    (hMore : ∀ (p : Int × Value) (w' : World), p ∈ es → p ∉ done → RangesI P kT w' b r es (done ++ [p]) → w'.rangeLeft b r < w.rangeLeft b r → w.grownBy w' (some r) → w'.heap.size = w.heap.size →
      (Instr.entry (.pointer (some ⟨r, 0, none⟩))).run P w' = .ok (.tuple #[.int .i64 p.1, p.2]) w' → wpList P ops Q rest (a.put o.dst (.tuple #[.bool true, .int .i64 p.1, p.2])) w') :
    wpList P ops Q (o :: rest) a w := by
  have hI := h.map.inc hk
  have hperm := fun hall => h.done_perm hk hall
  obtain ⟨left, cnt, hrg, hleft, hsub, hnd⟩ := h
  refine wpList_next_ranges w hg it hop kT (int_keyed hk) rawR (Value.int .i64) id (fun key kl hkey => by obtain ⟨x, rfl, _⟩ := Maps.keyOf_int_inv hk hkey; exact ⟨x, rfl⟩) (fun v y hv => ⟨v, rfl⟩) b r es.length (asD es) left cnt hit hrg (fun _ hl => hDone (hperm fun p hp => ?_)) (fun x c kl y w' cnt' hkey hlk hv hat hrg' hlt hgr hsz hen => ?_)
  · have := hleft p hp
    rw [hl] at this
    simpa using this
  · obtain ⟨x', ex, rfl, hwx⟩ := Maps.keyOf_int_inv hk hkey
    cases ex
    have hhas : (atI es x).isSome = true := by rw [← has_asD]; exact Maps.has_true_of_atKey hat
    obtain ⟨v, hv'⟩ := Option.isSome_iff_exists.1 hhas
    have hc : c = v := by
      have h1 := hat (.held (.bool false))
      rw [atKey_asD, hv'] at h1
      have h2 := (Prod.mk.inj (Option.some.inj hv)).1
      rw [← h1] at h2
      exact DataW.held.inj h2
    subst hc
    have hp := atI_mem hv'
    have hnot : (x, c) ∉ done := fun hm => by
      exact (hleft _ hp).1 hlk hm
    refine hMore (x, c) w' hp hnot ⟨_, cnt', hrg', fun p hp' => ?_, fun p hp' => ?_, ?_⟩ (by rw [hrg'.left_eq, hrg.left_eq]; exact hlt) hgr hsz hen
    · show (left (.int .i64 p.1) && !(Lit.int .i64 p.1).sameKey (.int .i64 x)) = true ↔ _
      rw [Bool.and_eq_true, hleft p hp']
      by_cases hpx : p.1 = x
      · obtain rfl := inc_key hI hp' hp hpx
        simp [Lit.sameKey]
      · have hne : p ≠ (x, c) := fun e => hpx (by rw [e])
        simp [Lit.sameKey, hpx, hne]
    · rcases List.mem_append.1 hp' with h1 | h1
      · exact hsub p h1
      · obtain rfl := List.mem_singleton.1 h1
        exact hp
    · rw [List.nodup_append]
      exact ⟨hnd, by simp, fun p hp1 q hq => by obtain rfl := List.mem_singleton.1 hq; exact fun e => hnot (e ▸ hp1)⟩
end
end Go.Proofs.YtmonepclhbappaaDoor
/-
  The document's SameInts; the element facts of a slice of ints.
-/
namespace Go.Proofs.YtmonepclhbappaaDoor
open Go.RowKit
set_option maxRecDepth 100000

theorem elemInt : Elem Tryd.prog 22 3 (.int .i64 0) 1 8 := ⟨Tryd.underlying22, by kernel_rfl, rfl, by decide⟩

set_option maxHeartbeats 1000000 in
theorem SameInts_any (p q : List Int) (A B : Option Addr) (n m c d : Nat) (w : World) (hl : p.length = n) (hm : q.length = m) (hs : Sl w 1 A n (p.map (Value.int .i64))) (ht : Sl w 1 B m (q.map (Value.int .i64))) (hn : n ≤ 9223372036854775807) :
    Calls Tryd.prog 24 #[.slice A n c, .slice B m d] w fun e w' => e = .returned (.bool (decide (p = q))) ∧ Below w.heap.size w w' := by
  go_enter Tryd.func24, Tryd.ntmps24
  by_cases hnm : n = m
  · subst hnm
    go_wp2
    go_loopw [5] (fun i wr => ∃ k : Nat, k ≤ n ∧ i = .int .i64 k ∧ p.take k = q.take k ∧ Below w.heap.size w wr) (fun i _ => n - (intOf i).toNat)
    case atStart => exact ⟨0, Nat.zero_le _, rfl, rfl, Below.refl _ _⟩
    case round =>
      obtain ⟨k, hk, rfl, heq, hb⟩ := hrel
      by_cases hlt : k < n
      · have hj : k < p.length := by omega
        have hj' : k < q.length := by omega
        obtain ⟨b, off, u, rfl, e1, c1⟩ := (hs.keep hb).one hlt
        obtain ⟨b', off', u', rfl, e2, c2⟩ := (ht.keep hb).one hlt
        rw [List.getElem?_map, List.getElem?_eq_getElem hj] at e1
        rw [List.getElem?_map, List.getElem?_eq_getElem hj'] at e2
        obtain rfl := Option.some.inj e1
        obtain rfl := Option.some.inj e2
        have HT := Lib.hid (List.take_succ_eq_append_getElem hj)
        have HT' := Lib.hid (List.take_succ_eq_append_getElem hj')
        have HE := Lib.hid heq
        have HP := Lib.hid (fun h : p = q => (by subst h; rfl : p[k] = q[k]))
        generalize p[k] = x at *
        generalize q[k] = y at *
        clear e1 e2 heq hs ht
        by_cases hxy : x = y
        · subst hxy
          go_wp2_with fail
          go_quiet (fail)
          go_wp2_with fail
          go_roundw
          case rel => exact ⟨k + 1, by omega, by go_num, by rw [HT.out, HT'.out, HE.out], bel_drewN hb _⟩
          case measure => simp [intOf]; omega
        · have hb1 : (x == y) = false := by simpa using hxy
          go_wp2_with fail
          go_quiet (fail)
          go_wp2_with fail
          go_ret
          exact ⟨ret_bool (decide_eq_false (fun h => hxy (HP.out h))).symm, bel_drewN hb _⟩
      · obtain rfl : k = n := by omega
        rw [List.take_of_length_le (by omega), List.take_of_length_le (by omega)] at heq
        have HE := Lib.hid heq
        clear heq hs ht
        go_wp2
        go_ret
        exact ⟨ret_bool (decide_eq_true HE.out).symm, hb⟩
  · have hne : p ≠ q := fun h => hnm (by rw [← hl, ← hm, h])
    have HN := Lib.hid hne
    have hb1 : ((n : Int) == (m : Int)) = false := by simp; omega
    clear hne hs ht
    go_wp2
    go_ret
    exact ⟨ret_bool (decide_eq_false HN.out).symm, Below.refl _ _⟩

theorem SameInts_same (p : List Int) (A B : Option Addr) (n c d : Nat) (w : World) (hl : p.length = n) (hs : Sl w 1 A n (p.map (Value.int .i64))) (ht : Sl w 1 B n (p.map (Value.int .i64))) (hn : n ≤ 9223372036854775807) :
    Calls Tryd.prog 24 #[.slice A n c, .slice B n d] w fun e w' => e = .returned (.bool true) ∧ Below w.heap.size w w' := by
  have h := SameInts_any p p A B n n c d w hl hl hs ht hn
  rw [decide_eq_true rfl] at h
  exact h
end Go.Proofs.YtmonepclhbappaaDoor
/-
  More words for memory: make, stores into an own row, what stays while another row changes.
-/
namespace Go.Proofs.YtmonepclhbappaaDoor
open Go.RowKit

theorem make_elem {P : Program} {t e : TypeId} {z : Value} {bytes : Nat} (E : Elem P t e z 1 bytes) (hz1 : z.cells = #[z]) (n : Nat) (hb : bytes * n ≤ 281474976710656) (hn : n ≤ 9223372036854775807) (W : World) :
    (Instr.makeSlice t (.int .i64 n) (.int .i64 n)).run P W = .ok (.slice (some ⟨W.heap.size, 0, none⟩) n n) (W.alloc (.cells (Array.replicate n z) e)) := by
  obtain ⟨i, hi, hz, hsize, hby⟩ := info_parts E.hi
  have hb' : (i.bytes : Int) * (n : Int) ≤ 281474976710656 := by
    rw [hby]
    have h : ((bytes * n : Nat) : Int) ≤ 281474976710656 := by omega
    rwa [Int.natCast_mul] at h
  have hr := run_make (P := P) W t e i z E.ht hi hz .i64 .i64 n n (by omega) (Int.le_refl _) hb' (by omega)
  simp only [Int.toNat_natCast] at hr
  rw [hr, hsize, hz1, Nat.mul_one]
  congr 4
  apply Array.ext'
  rw [toList_madeCells_one]
  simp

theorem own_replicate {B : Nat} {e : TypeId} (W : World) (n : Nat) (z : Value) (hB : B ≤ W.heap.size) (hn : n ≤ 9223372036854775807) :
    (W.alloc (.cells (Array.replicate n z) e)).ownsRow B e 1 (.slice (some ⟨W.heap.size, 0, none⟩) n n) n (List.replicate n z) := by
  have := World.ownsRow_lit (base := B) (size := 1) (e := e) W (Array.replicate n z) n hB (by unfold maxLen; omega) (by simp)
  simpa using this

theorem ownsRow_setCells_below {base : Nat} {e : TypeId} {size : Nat} {v : Value} {n : Nat} {xs : List Value} {b : Nat} (hb : b < base) : ∀ (vs : List Value) (o : Nat) {w : World}, w.ownsRow base e size v n xs → (w.setCells b o vs).ownsRow base e size v n xs
  | [], _, _, h => h
  | u :: r, o, _, h => ownsRow_setCells_below hb r (o + 1) (ownsRow_setCell_below h (a := ⟨b, o, none⟩) hb u)
theorem bel_setCells {B b : Nat} {w : World} (hb : B ≤ b) : ∀ (vs : List Value) (o : Nat) {w' : World}, Below B w w' → Below B w (w'.setCells b o vs)
  | [], _, _, h => h
  | u :: r, o, _, h => bel_setCells hb r (o + 1) (h.setCell (p := ⟨b, o, none⟩) hb u)

theorem Sl.again {w : World} {b off n k : Nat} {xs : List Value} {u : Value} (h : Sl w 1 (some ⟨b, off, none⟩) n xs) (hk : k < n) (hu : xs[k]? = some u) : w.cell? ⟨b, off + k, none⟩ = some u := by
  obtain ⟨b', off', u', hA, h1, h2⟩ := h.one hk
  cases hA
  rw [hu] at h1
  cases h1
  exact h2

theorem Sl.take {w : World} {A : Option Addr} {n k : Nat} {xs : List Value} (h : Sl w 1 A n xs) (hk : k ≤ n) : Sl w 1 A k (xs.take k) := by
  have hl := h.1
  refine ⟨by rw [List.length_take]; omega, fun h0 => ?_⟩
  obtain ⟨b, off, hA, hc⟩ := h.2 (by omega)
  refine ⟨b, off, hA, fun j u hu => hc j u ?_⟩
  rw [List.getElem?_take] at hu
  split at hu
  · exact hu
  · cases hu
theorem Sl.drop {w : World} {b off n k : Nat} {xs : List Value} (h : Sl w 1 (some ⟨b, off, none⟩) n xs) (hk : k ≤ n) : Sl w 1 (some ⟨b, off + k, none⟩) (n - k) (xs.drop k) := by
  have hl := h.1
  refine ⟨by rw [List.length_drop]; omega, fun h0 => ?_⟩
  obtain ⟨b', off', hA, hc⟩ := h.2 (by omega)
  cases hA
  refine ⟨b, off + k, rfl, fun j u hu => ?_⟩
  rw [List.getElem?_drop] at hu
  have := hc (k + j) u hu
  rw [show off + k + j = off + (k + j) by omega]
  exact this

theorem own_cap {w : World} {B size n c : Nat} {e : TypeId} {A : Option Addr} {xs : List Value} (h : w.ownsRow B e size (.slice A n c) n xs) : n ≤ c ∧ c ≤ 9223372036854775807 := by
  rcases h.2 with ⟨h', h0⟩ | ⟨g, cap, cur, hv, _, _, h1, h2, _⟩
  · injection h' with _ _ h3
    omega
  · injection hv with _ _ h3
    subst h3
    exact ⟨h1, h2⟩
end Go.Proofs.YtmonepclhbappaaDoor
